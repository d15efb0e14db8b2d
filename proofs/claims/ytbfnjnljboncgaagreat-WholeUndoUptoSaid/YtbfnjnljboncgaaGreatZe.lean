/-
  Joined out of: MOwn, LibD, LibF, MNoe, MEd, MEh, MEe, MEi, MDe, MHi, MHs, MTd, MTc, WuVA, XuAG, WuVB, LibG, LibH, LibW, LibO, LibR, WuE, LibE, WuF, XuIA, XuAH, XuAI, MTu.
-/
import Derived.WalkKit
import Derived.Lib.Walk
import Derived.Lib.SliceRun
import Derived.Lib.AppendZerosOnto
import Derived.Shelf.RegionOpenPlain
import Derived.Test.YtbfnjnljboncgaaGreatZd
open List
open Go.IntKind (i16 i32 i64 i8 u16 u32 u64 u8)
open Go.Proofs.Tryz
set_option linter.unusedVariables false
set_option linter.defProp false
set_option linter.unusedSimpArgs false
set_option maxHeartbeats 2000000
set_option maxRecDepth 100000
namespace Go.Proofs.YtbfnjnljboncgaaGreat
section
def zA8 (k:Int) (t:List UInt8) (c:Int) (v:AV):List AV:=[.s (.int .i64 k),.s (.str t),.s (.int .i64 c),v]
mutual
def At (hp:Nat->Option Ob) (e:Nat) (p:AV):Nd->List Nat->List AV->Nat->Prop
 | .mk k t c ks,keys,pd,w=>∃ v,zAJ hp p=some (zA8 k t c v) /\
   ((v = .s (.sl 4 (Nd.encs ks))/\keys=[]/\pd=[p]/\w=Nd.cnts ks+1)∨(ks=[]/\v = .s (.sl 4 [])/\keys=[]/\pd=[]/\w=0) ∨
    ∃ q rows keys',v = .orow q/\hp q=some (.arow e 4 rows)/\rows.length=ks.length/\keys=q::keys'/\LAt hp e q 0 ks keys' pd w)
def LAt (hp:Nat->Option Ob) (e q i:Nat):List Nd->List Nat->List AV->Nat->Prop
 | [],keys,pd,w=>keys=[]/\pd=[]/\w=0
 | t::ts,keys,pd,w=>∃ k1 k2 p1 p2 w1 w2,keys=k1++k2/\pd=p1++p2/\w=w1+w2/\At hp e (.rp q 4 i 0) t k1 p1 w1/\LAt hp e q (i+1) ts k2 p2 w2
end
mutual
def At.len {hp:Nat->Option Ob}{e:Nat}{p:AV}:∀ {t:Nd}{keys:List Nat}{pd:List AV}{w:Nat},At hp e p t keys pd w->pd.length<=w/\w<=t.cnt
 | .mk k t c ks,keys,pd,w,h=>by
  simp only[At]at h
  obtain⟨v,_,⟨_,_,rfl,rfl⟩ | ⟨_,_,_,rfl,rfl⟩ | ⟨q,rows,keys',_,_,_,_,h⟩⟩:=h
  ·simp[Nd.cnt]
  ·simp
  ·have:=LAt.len h
   simp only[Nd.cnt]; omega
def LAt.len {hp:Nat->Option Ob}{e q i:Nat}:∀ {ts:List Nd}{keys:List Nat}{pd:List AV}{w:Nat},LAt hp e q i ts keys pd w->pd.length<=w/\w<=Nd.cnts ts
 | [],keys,pd,w,h=>by
  simp only[LAt]at h
  obtain⟨_,rfl,rfl⟩:=h
  simp
 | t::ts,keys,pd,w,h=>by
  simp only[LAt]at h
  obtain⟨k1,k2,p1,p2,w1,w2,_,rfl,rfl,h1,h2⟩:=h
  have:=At.len h1
  have:=LAt.len h2
  simp only[Nd.cnts,am]; omega
end
structure Sim (hp hp':Nat->Option Ob) (e:Nat) (D:Nat->Prop) (p0:AV):Prop where
 row:∀ q rows,D q->hp q=some (.arow e 4 rows)->∃ rows',hp' q=some (.arow e 4 rows')/\rows'.length=rows.length
 cell:∀ p,D (zBh p)->p ≠ p0->isL 4 p->zAJ hp' p=zAJ hp p
variable {p0:AV}{D:Nat->Prop}{e:Nat}{hp hp':Nat->Option Ob}
theorem Sim.sub {D':Nat->Prop} (h:Sim hp hp' e D p0) (hd:∀ q,D' q->D q):Sim hp hp' e D' p0 :=
 ⟨fun q rows hq=>h.row q rows (hd q hq),fun p hp=>h.cell p (hd _ hp)⟩
mutual
def At.sameQ {hp hp':Nat->Option Ob}{e:Nat}{p p0:AV}:∀ {t:Nd}{keys:List Nat}{pd:List AV}{w:Nat},At hp e p t keys pd w->isL 4 p->Sim hp hp' e (fun k=>k=zBh p∨k∈keys) p0->p ≠ p0->(∀ q j,q∈keys->AV.rp q 4 j 0 ≠ p0)->At hp' e p t keys pd w
 | .mk k t c ks,keys,pd,w,h,hl,hs,hne,hb=>by
  simp only[At]at h ⊢
  obtain⟨v,hc,h⟩:=h
  refine⟨v,by rw[hs.cell p (.inl rfl) hne hl,hc],?_⟩
  rcases h with h | h | ⟨q,rows,keys',h1,h2,h3,rfl,h5⟩
  ·exact .inl h
  ·exact .inr (.inl h)
  ·obtain⟨rows',h6,h7⟩:=hs.row q rows (.inr ak) h2
   exact .inr (.inr ⟨q,rows',keys',h1,h6,h7.trans h3,rfl,LAt.sameQ h5 (hs.sub fun k hk=>.inr (aR.2 hk)) (fun j _=>hb q j ak) (fun q' j hm=>hb q' j (aG _ hm))⟩)
def LAt.sameQ {hp hp':Nat->Option Ob}{e q i:Nat}{p0:AV}:∀ {ts:List Nd}{keys:List Nat}{pd:List AV}{w:Nat},LAt hp e q i ts keys pd w->Sim hp hp' e (fun k=>k=q∨k∈keys) p0->(∀ j,i<=j->AV.rp q 4 j 0 ≠ p0)->(∀ q' j,q'∈keys->AV.rp q' 4 j 0 ≠ p0)->LAt hp' e q i ts keys pd w
 | [],_,_,_,h,_,_,_=>h
 | t::ts,keys,pd,w,h,hs,hne,hb=>by
  simp only[LAt]at h ⊢
  obtain⟨k1,k2,p1,p2,w1,w2,rfl,rfl,rfl,h1,h2⟩:=h
  exact⟨k1,k2,p1,p2,w1,w2,rfl,rfl,rfl,
   At.sameQ h1 (.inl ⟨q,i,rfl⟩) (hs.sub fun k hk=>hk.imp id (mem_append_left _)) (hne i (ar _)) (fun q' j hm=>hb q' j (mem_append_left _ hm)),
   LAt.sameQ h2 (hs.sub fun k hk=>hk.imp id (mem_append_right _)) (fun j hj=>hne j (by omega)) (fun q' j hm=>hb q' j (mem_append_right _ hm))⟩
end
variable {w:Nat}{pd:List AV}{keys:List Nat}{t:Nd}{p:AV}
def At.same  (h:At hp e p t keys pd w) (hl:isL 4 p) (hs:Sim hp hp' e (fun k=>k=zBh p∨k∈keys) p0) (hne:p ≠ p0) (hb:zBh p0 ∉ keys):At hp' e p t keys pd w :=
 h.sameQ hl hs hne fun q j hm e=>hb (by rw[← e]; exact hm)
variable {ts:List Nd}{q:Nat}
def LAt.same {i:Nat} (h:LAt hp e q i ts keys pd w) (hs:Sim hp hp' e (fun k=>k=q∨k∈keys) p0) (hne:∀ j,i<=j->AV.rp q 4 j 0 ≠ p0) (hb:zBh p0 ∉ keys):LAt hp' e q i ts keys pd w :=
 h.sameQ hs hne fun q j hm e=>hb (by rw[← e]; exact hm)
theorem Sim.same  (h:∀ k,D k->hp' k=hp k):Sim hp hp' e D p0 :=
 ⟨fun q rows hq hr=>⟨rows,(h q hq).trans hr,rfl⟩,fun p hp _ hl=>zCg hl (h _ hp)⟩
def At.frame  (h:At hp e p t keys pd w) (hl:isL 4 p) (hs:∀ k,k=zBh p∨k∈keys->hp' k=hp k):At hp' e p t keys pd w :=
 h.sameQ hl (Sim.same (p0:=.junk) hs) (fun e=>by rcases hl with ⟨_,_,rfl⟩ | ⟨_,rfl⟩ <;> cases e) (fun q j _ e=>by cases e)
mutual
def At.base {hp:Nat->Option Ob}{e:Nat}{p p0:AV}:∀ {t:Nd}{keys:List Nat}{pd:List AV}{w:Nat},At hp e p t keys pd w->p0∈pd->p0=p∨zBh p0∈keys
 | .mk k t c ks,keys,pd,w,h,hm=>by
  simp only[At]at h
  obtain⟨v,_,⟨_,_,rfl,_⟩ | ⟨_,_,_,rfl,_⟩ | ⟨q,rows,keys',_,_,_,rfl,h⟩⟩:=h
  ·exact .inl (aD.1 hm)
  ·cases hm
  ·rcases LAt.base h hm with ⟨j,_,rfl⟩ | h
   ·exact .inr ak
   ·exact .inr (aG _ h)
def LAt.base {hp:Nat->Option Ob}{e q i:Nat}{p0:AV}:∀ {ts:List Nd}{keys:List Nat}{pd:List AV}{w:Nat},LAt hp e q i ts keys pd w->p0∈pd->(∃ j,i<=j/\p0 = .rp q 4 j 0)∨zBh p0∈keys
 | [],keys,pd,w,h,hm=>by
  simp only[LAt]at h
  obtain⟨_,rfl,_⟩:=h
  cases hm
 | t::ts,keys,pd,w,h,hm=>by
  simp only[LAt]at h
  obtain⟨k1,k2,p1,p2,w1,w2,rfl,rfl,rfl,h1,h2⟩:=h
  rcases aN.1 hm with hm | hm
  ·rcases At.base h1 hm with rfl | hm
   ·exact .inl ⟨i,ar _,rfl⟩
   ·exact .inr (mem_append_left _ hm)
  ·rcases LAt.base h2 hm with ⟨j,hj,hm⟩ | hm
   ·exact .inl ⟨j,by omega,hm⟩
   ·exact .inr (mem_append_right _ hm)
end
mutual
def At.loc {hp:Nat->Option Ob}{e:Nat}{p p0:AV}:∀ {t:Nd}{keys:List Nat}{pd:List AV}{w:Nat},At hp e p t keys pd w->isL 4 p->p0∈pd->isL 4 p0
 | .mk k t c ks,keys,pd,w,h,hl,hm=>by
  simp only[At]at h
  obtain⟨v,_,⟨_,_,rfl,_⟩ | ⟨_,_,_,rfl,_⟩ | ⟨q,rows,keys',_,_,_,rfl,h⟩⟩:=h
  ·rw[aD.1 hm]; exact hl
  ·cases hm
  ·exact LAt.loc h hm
def LAt.loc {hp:Nat->Option Ob}{e q i:Nat}{p0:AV}:∀ {ts:List Nd}{keys:List Nat}{pd:List AV}{w:Nat},LAt hp e q i ts keys pd w->p0∈pd->isL 4 p0
 | [],keys,pd,w,h,hm=>by
  simp only[LAt]at h
  obtain⟨_,rfl,_⟩:=h
  cases hm
 | t::ts,keys,pd,w,h,hm=>by
  simp only[LAt]at h
  obtain⟨k1,k2,p1,p2,w1,w2,rfl,rfl,rfl,h1,h2⟩:=h
  rcases aN.1 hm with hm | hm
  ·exact At.loc h1 (.inl ⟨q,i,rfl⟩) hm
  ·exact LAt.loc h2 hm
end
def zZS {α:Type}{a b S:List α}{x:α} (h:a++b=S++[x]):(b=[]/\a=S++[x])∨∃ S2,b=S2++[x]/\S=a++S2:=by
 rcases eq_nil_or_concat b with rfl | ⟨b',y,rfl⟩
 ·exact .inl ⟨rfl,by simpa using h⟩
 rw[concat_eq_append,← aX]at h;have:=append_inj' h rfl;obtain⟨h1,h2⟩:=this;cases h2;exact .inr ⟨b',concat_eq_append,h1.symm⟩
def Repl (hp:Nat->Option Ob) (e:Nat) (p0:AV) (S:List AV) (w:Nat) (D:Nat->Prop) (keys:List Nat) (P:(Nat->Option Ob)->List Nat->List AV->Nat->Prop):Prop :=
 ∃ t0 w0,At hp e p0 t0 [] [p0] t0.cnt/\w=w0+t0.cnt/\∀ hp' new ch w',Sim hp hp' e D p0->At hp' e p0 t0 new ch w'->∃ keys2,keys2.Perm (keys++new)/\P hp' keys2 (S++ch) (w0+w')
def yAy {a b n:List Nat}{k2:List Nat} (h:k2.Perm (a++n)):(k2++b).Perm (a++b++n) :=
 (h.append_right b).trans (by rw[aX,aX]; exact(perm_append_comm).append_left a)
mutual
def At.repl {hp:Nat->Option Ob}{e:Nat}{p p0:AV}{S:List AV}:∀ {t:Nd}{keys:List Nat}{w:Nat},At hp e p t keys (S++[p0]) w->isL 4 p->(zBh p::keys).Nodup ->
  Repl hp e p0 S w (fun k=>k=zBh p∨k∈keys) keys fun hp' keys2 pd w=>At hp' e p t keys2 pd w
 | .mk k t c ks,keys,w,h,hl,hn=>by
  have h0:=h
  simp only[At]at h
  obtain⟨v,hc,⟨rfl,rfl,h2,rfl⟩ | ⟨_,_,_,h2,_⟩ | ⟨q,rows,keys',rfl,hq,hlen,rfl,h⟩⟩:=h
  ·cases S with
   | cons x S=>cases S <;> simp at h2
   | nil =>
    obtain rfl:p0=p:=by simpa using h2
    refine⟨.mk k t c ks,0,h0,by simp[Nd.cnt],fun hp' new ch w' _ ha=>⟨new,by simp,by simpa using ha⟩⟩
  ·simp at h2
  ·have hn2:=List.nodup_cons.1 hn
   have hb:zBh p0∈q::keys':=by
    rcases LAt.base h (p0:=p0) (by simp) with ⟨j,_,rfl⟩ | h
    ·exact ak
    ·exact aG _ h
   have hne:p ≠ p0:=fun e=>hn2.1 (by rw[e]; exact hb)
   obtain⟨t0,w0,r1,r2,r3⟩:=LAt.repl h hn2.2
   refine⟨t0,w0,r1,r2,fun hp' new ch w' hs ha=>?_⟩
   obtain⟨rows',h6,h7⟩:=hs.row q rows (.inr ak) hq
   obtain⟨keys2,hp2,hl2⟩:=r3 hp' new ch w' (hs.sub fun k hk=>.inr (aR.2 hk)) ha
   refine⟨q::keys2,by simpa using hp2,?_⟩
   simp only[At]
   exact⟨.orow q,by rw[hs.cell p (.inl rfl) hne hl,hc],.inr (.inr ⟨q,rows',keys2,rfl,h6,h7.trans hlen,rfl,hl2⟩)⟩
def LAt.repl {hp:Nat->Option Ob}{e q i:Nat}{p0:AV}{S:List AV}:∀ {ts:List Nd}{keys:List Nat}{w:Nat},LAt hp e q i ts keys (S++[p0]) w->(q::keys).Nodup ->
  Repl hp e p0 S w (fun k=>k=q∨k∈keys) keys fun hp' keys2 pd w=>LAt hp' e q i ts keys2 pd w
 | [],keys,w,h,hn=>by
  simp only[LAt]at h
  simp at h
 | t::ts,keys,w,h,hn=>by
  simp only[LAt]at h
  obtain⟨k1,k2,p1,p2,w1,w2,rfl,hpd,rfl,h1,h2⟩:=h
  obtain⟨hq,hn2⟩:=List.nodup_cons.1 hn
  obtain⟨n1,n2,n12⟩:=List.nodup_append.1 hn2
  have hq1:q ∉ k1:=fun h=>hq (mem_append_left _ h)
  have hq2:q ∉ k2:=fun h=>hq (mem_append_right _ h)
  rcases zZS hpd.symm with ⟨rfl,rfl⟩ | ⟨S2,rfl,rfl⟩
  ·have hb:=At.base h1 (p0:=p0) (by simp)
   obtain⟨t0,w0,r1,r2,r3⟩:=At.repl h1 (.inl ⟨q,i,rfl⟩) (List.nodup_cons.2 ⟨hq1,n1⟩)
   refine⟨t0,w0+w2,r1,by omega,fun hp' new ch w' hs ha=>?_⟩
   obtain⟨keys2,hp2,hl2⟩:=r3 hp' new ch w' (hs.sub fun k hk=>hk.imp id (mem_append_left _)) ha
   refine⟨keys2++k2,yAy hp2,?_⟩
   simp only[LAt]
   refine⟨keys2,k2,S++ch,[],w0+w',w2,rfl,by simp,by omega,hl2,?_⟩
   refine LAt.same h2 (hs.sub fun k hk=>hk.imp id (mem_append_right _)) (fun j hj e=>?_) (fun hm=>?_)
   ·rcases hb with rfl | hb
    ·cases e; omega
    ·rw[← e]at hb; exact hq1 hb
   ·rcases hb with rfl | hb
    ·exact hq2 hm
    ·exact n12 _ hb _ hm rfl
  ·have hb:=LAt.base h2 (p0:=p0) (by simp)
   obtain⟨t0,w0,r1,r2,r3⟩:=LAt.repl h2 (List.nodup_cons.2 ⟨hq2,n2⟩)
   refine⟨t0,w1+w0,r1,by omega,fun hp' new ch w' hs ha=>?_⟩
   obtain⟨keys2,hp2,hl2⟩:=r3 hp' new ch w' (hs.sub fun k hk=>hk.imp id (mem_append_right _)) ha
   refine⟨k1++keys2,by rw[aX]; exact hp2.append_left k1,?_⟩
   simp only[LAt]
   refine⟨k1,keys2,p1,S2++ch,w1,w0+w',rfl,by simp,by omega,?_,hl2⟩
   refine At.same h1 (.inl ⟨q,i,rfl⟩) (hs.sub fun k hk=>hk.imp id (mem_append_left _)) (fun e=>?_) (fun hm=>?_)
   ·rcases hb with ⟨j,hj,hb⟩ | hb
    ·rw[hb]at e; cases e; omega
    ·rw[← e]at hb; exact hq2 hb
   ·rcases hb with ⟨j,hj,rfl⟩ | hb
    ·exact hq1 hm
    ·exact n12 _ hm _ hb rfl
end
variable {cs:List AV}
theorem Sim.put {c:List AV} (hl:isL 4 p0) (hc:zAJ hp p0=some cs) (h:∀ k,D k->hp' k=putC hp p0 c k):Sim hp hp' e D p0 :=
 ⟨fun q rows hq hr=>by rw[h q hq]; exact yAJ hl hc hr,fun p hp hne hl'=>(zCg hl' (h _ hp)).trans (zYH hl hc hl' hne)⟩
def locs (q i n:Nat):List AV:=(range' i n).map fun j=>.rp q 4 j 0
def LAt.fresh {hp:Nat->Option Ob}{e q:Nat}:∀ {ts:List Nd}{i:Nat},(∀ j x,ts[j]? = some x->zAJ hp (.rp q 4 (i+j) 0)=some (x.enc.map AV.s))->LAt hp e q i ts [] (locs q i ts.length) (Nd.cnts ts)
 | [],i,_=>by simp[LAt,locs,Nd.cnts]
 | .mk k t c ks::ts,i,h=>by
  simp only[LAt];refine⟨[],[],[.rp q 4 i 0],locs q (i+1) ts.length,Nd.cnts ks+1,Nd.cnts ts,rfl,by simp[locs,range'_succ],by simp[Nd.cnts,Nd.cnt],?_,LAt.fresh fun j x hj=>?_⟩
  ·simp only[At];exact⟨.s (.sl 4 (Nd.encs ks)),h 0 (.mk k t c ks) rfl,.inl (by simp)⟩
  ·rw[show i+1+j=i+(j+1) by omega]; exact h (j+1) x (by simpa using hj)
def LAt.copied  (h:hp q=some (.arow e 4 ((Nd.encs ts).map (·.map AV.s)))):LAt hp e q 0 ts [] (locs q 0 ts.length) (Nd.cnts ts) :=
 LAt.fresh fun j x hj=>by
  rw[zFW h,a8,Nd.encs_eq,map_map,ao,hj]; rfl
def zUU {hp:Nat->Option Ob}:∀ {rows:List (List AV)}{rs:List (List S)},(∀ (j:Nat) r s,rows[j]? = some r->rs[j]? = some s->r.length=s.length/\∀ (i:Nat) x y,r[i]? = some x->s[i]? = some y->Rd hp x y)->∀ (i:Nat) x y,rows.flatten[i]? = some x->rs.flatten[i]? = some y->Rd hp x y
 | [],_,_,_,_,_,h,_=>by simp at h
 | _::_,[],_,_,_,_,_,h=>by simp at h
 | r::rows,s::rs,h,i,x,y,hx,hy=>by
  obtain⟨hl,h0⟩:=h 0 r s (by simp) (by simp);rw[flatten_cons,aA]at hx hy
  by_cases hi:i<r.length
  ·rw[if_pos hi]at hx;rw[if_pos (hl ▸ hi)]at hy;exact h0 i x y hx hy
  ·rw[if_neg hi]at hx;rw[if_neg (hl ▸ hi),← hl]at hy;exact zUU (fun j r s hr hs=>h (j+1) r s (by simpa using hr) (by simpa using hs)) _ x y hx hy
def RdC (hp:Nat->Option Ob) (cs:List AV) (ss:List S):Prop:=cs.length=ss.length/\∀ (i:Nat) x y,cs[i]? = some x->ss[i]? = some y->Rd hp x y
variable {ks:List Nd}
def RdC.node {k:Int}{t:List UInt8}{c:Int}{v:AV} (h:Rd hp v (.sl 4 (Nd.encs ks))):RdC hp (zA8 k t c v) (Nd.enc (.mk k t c ks)) :=
 ⟨rfl,fun i x y hx hy=>by
  match i with
  | 0=>cases hx; cases hy; exact .s _
  | 1=>cases hx; cases hy; exact .s _
  | 2=>cases hx; cases hy; exact .s _
  | 3=>cases hx; cases hy; exact h
  | i+4=>simp[zA8]at hx⟩
def Rd.rows {rows:List (List AV)} (hq:hp q=some (.arow e 4 rows)) (hl:rows.length=ks.length) (h:∀ j x,ks[j]? = some x->∃ cs,zAJ hp (.rp q 4 j 0)=some cs/\RdC hp cs x.enc):Rd hp (.orow q) (.sl 4 (Nd.encs ks)):=by
 rw[Nd.encs_eq];refine .arow hq (by simpa using hl) (fun r hr=>?_) (zUU fun j r s hr hs=>?_)
 ·obtain⟨x,_,rfl⟩:=be.1 hr;cases x; rfl
 rw[ao]at hs;cases hx:ks[j]? with
 | none=>rw[hx]at hs; cases hs
 | some x=>
 rw[hx]at hs; cases hs;obtain⟨cs,h1,h2⟩:=h j x hx;rw[zFW hq,hr]at h1;cases h1;exact h2
mutual
def At.rd {hp:Nat->Option Ob}{e:Nat}{p:AV}:∀ {t:Nd}{keys:List Nat}{pd:List AV}{w:Nat},At hp e p t keys pd w->∃ cs,zAJ hp p=some cs/\RdC hp cs t.enc
 | .mk k t c ks,keys,pd,w,h=>by
  simp only[At]at h
  obtain⟨v,hc,⟨rfl,_⟩ | ⟨rfl,rfl,_⟩ | ⟨q,rows,keys',rfl,hq,hlen,rfl,h⟩⟩:=h
  ·exact⟨_,hc,.node (.s _)⟩
  ·exact⟨_,hc,.node (.s _)⟩
  ·exact⟨_,hc,.node (Rd.rows hq hlen fun j x hj=>(by have:=LAt.rd h j x hj; rwa [a8]at this))⟩
def LAt.rd {hp:Nat->Option Ob}{e q i:Nat}:∀ {ts:List Nd}{keys:List Nat}{pd:List AV}{w:Nat},LAt hp e q i ts keys pd w->∀ j x,ts[j]? = some x->∃ cs,zAJ hp (.rp q 4 (i+j) 0)=some cs/\RdC hp cs x.enc
 | [],keys,pd,w,h,j,x,hj=>by simp at hj
 | t::ts,keys,pd,w,h,0,x,hj=>by
  simp only[LAt]at h
  obtain⟨k1,k2,p1,p2,w1,w2,rfl,rfl,rfl,h1,h2⟩:=h
  cases hj
  exact At.rd h1
 | t::ts,keys,pd,w,h,j+1,x,hj=>by
  simp only[LAt]at h
  obtain⟨k1,k2,p1,p2,w1,w2,rfl,rfl,rfl,h1,h2⟩:=h
  rw[show i+(j+1)=i+1+j by omega]
  exact LAt.rd h2 j x (by simpa using hj)
end
def yAO  (h:RdC hp cs t.enc):RdV hp (.agg cs) (.agg (t.enc.map AV.s)):=by
 refine⟨by simpa using h.1,fun i x y hx hy=>?_⟩;rw[ao]at hy;cases hs:t.enc[i]? with
 | none=>rw[hs]at hy; cases hy
 | some s=>rw[hs]at hy; cases hy; exact⟨s,rfl,h.2 i x s hx hs⟩
def Hole (hp:Nat->Option Ob) (e:Nat) (p:AV) (keys:List Nat) (p1:AV) (y:Nd) (F:Nd->Nd):Prop :=
 ∃ keys0 rest w0,keys.Perm (keys0++rest)/\At hp e p1 y keys0 [] w0/\isL 4 p1/\(p1=p∨zBh p1∈rest) /\
  ∀ hp' t1 new w1,Sim hp hp' e (fun k=>k=zBh p∨k∈rest) p1->At hp' e p1 t1 new [] w1->∃ keys2 w2,keys2.Perm (rest++new)/\At hp' e p (F t1) keys2 [] w2
def Hole.refl  (h:At hp e p t keys [] w) (hl:isL 4 p):Hole hp e p keys p t id :=
 ⟨keys,[],w,by simp,h,hl,.inl rfl,fun hp' t1 new w1 _ h1=>⟨new,w1,by simp,h1⟩⟩
def LAt.hole {hp:Nat->Option Ob}{e q:Nat}{x:Nd}:∀ {ts:List Nd}{keys:List Nat}{w i j:Nat},LAt hp e q i ts keys [] w->(q::keys).Nodup->ts[j]? = some x ->
  ∃ keys0 rest w0,keys.Perm (keys0++rest)/\At hp e (.rp q 4 (i+j) 0) x keys0 [] w0/\∀ hp' t1 new w1,Sim hp hp' e (fun k=>k=q∨k∈rest) (.rp q 4 (i+j) 0)->At hp' e (.rp q 4 (i+j) 0) t1 new [] w1 ->
   ∃ keys2 w2,keys2.Perm (rest++new)/\LAt hp' e q i (ts.set j t1) keys2 [] w2
 | [],keys,w,i,j,h,hn,hx=>by simp at hx
 | t::ts,keys,w,i,0,h,hn,hx=>by
  simp only[LAt]at h;obtain⟨k1,k2,p1,p2,w1,w2,rfl,hpd,rfl,h1,h2⟩:=h;obtain⟨rfl,rfl⟩:=List.append_eq_nil_iff.1 hpd.symm;cases hx;have hq:=(List.nodup_cons.1 hn).1;refine⟨k1,k2,w1,List.Perm.refl _,h1,fun hp' t1 new w3 hs h3=>⟨new++k2,w3+w2,perm_append_comm,?_⟩⟩;simp only[set_cons_zero,LAt];exact⟨new,k2,[],[],w3,w2,rfl,rfl,rfl,h3,LAt.same h2 hs (fun j hj e=>by cases e; omega) (fun hm=>hq (mem_append_right _ hm))⟩
 | t::ts,keys,w,i,j+1,h,hn,hx=>by
  simp only[LAt]at h;obtain⟨k1,k2,p1,p2,w1,w2,rfl,hpd,rfl,h1,h2⟩:=h;obtain⟨rfl,rfl⟩:=List.append_eq_nil_iff.1 hpd.symm;obtain⟨hq,hn2⟩:=List.nodup_cons.1 hn;obtain⟨n1,n2,_⟩:=List.nodup_append.1 hn2;obtain⟨keys0,rest,w0,r1,r2,r3⟩:=LAt.hole (i:=i+1) (j:=j) h2 (List.nodup_cons.2 ⟨fun hm=>hq (mem_append_right _ hm),n2⟩) (by simpa using hx);rw[show i+1+j=i+(j+1) by omega]at r2 r3;refine⟨keys0,k1++rest,w0,List.perm_iff_count.2 fun a=>?_,r2,fun hp' t1 new w3 hs h3=>?_⟩
  ·have:=r1.count_eq a;simp only[count_append]at this ⊢;omega
  ·obtain⟨keys2,w4,q1,q2⟩:=r3 hp' t1 new w3 (hs.sub fun k hk=>hk.imp id (mem_append_right _)) h3;refine⟨k1++keys2,w1+w4,by rw[aX]; exact q1.append_left k1,?_⟩;simp only[set_cons_succ,LAt];exact⟨k1,keys2,[],[],w1,w4,rfl,rfl,rfl,At.same h1 (.inl ⟨q,i,rfl⟩) (hs.sub fun k hk=>hk.imp id (mem_append_left _)) (fun e=>by injection e with e1 e2 e3 e4; omega) (fun hm=>hq (mem_append_left _ hm)),q2⟩
def Hole.kid {i:Nat}{k c:Int}{tx:List UInt8}{x:Nd} (h:At hp e p (.mk k tx c ks) keys [] w) (hl:isL 4 p) (hn:(zBh p::keys).Nodup) (hx:ks[i]? = some x) :
  ∃ q rows,zAJ hp p=some (zA8 k tx c (.orow q))/\hp q=some (.arow e 4 rows)/\rows.length=ks.length/\Hole hp e p keys (.rp q 4 i 0) x (fun x'=>.mk k tx c (ks.set i x')):=by
 simp only[At]at h;obtain⟨v,hc,⟨_,_,h,_⟩ | ⟨rfl,_⟩ | ⟨q,rows,keys',rfl,hq,hlen,rfl,h⟩⟩:=h
 ·cases h
 ·simp at hx
 obtain⟨hb,hn2⟩:=List.nodup_cons.1 hn;obtain⟨keys0,rest,w0,r1,r2,r3⟩:=LAt.hole h hn2 hx;rw[a8]at r2 r3;refine⟨q,rows,hc,hq,hlen,keys0,q::rest,w0,List.perm_iff_count.2 fun a=>?_,r2,.inl ⟨q,i,rfl⟩,.inr ak,fun hp' t1 new w1 hs h1=>?_⟩
 ·have:=r1.count_eq a;simp only[count_append,count_cons]at this ⊢;omega
 obtain⟨rows',g1,g2⟩:=hs.row q rows (.inr ak) hq;obtain⟨keys2,w2,q1,q2⟩:=r3 hp' t1 new w1 (hs.sub fun k hk=>.inr (aR.2 hk)) h1;refine⟨q::keys2,w2,by simpa using q1,?_⟩;simp only[At];refine⟨.orow q,by rw[hs.cell p (.inl rfl) (fun e=>hb (by rw[e]; exact ak)) hl,hc],.inr (.inr ⟨q,rows',keys2,rfl,g1,by rw[g2,hlen,length_set],rfl,q2⟩)⟩
def Hole.trans {p1 p2:AV}{y z:Nd}{F F2:Nd->Nd} (hn:(zBh p::keys).Nodup) (h:Hole hp e p keys p1 y F) (k:∀ keys0 w0,At hp e p1 y keys0 [] w0->isL 4 p1->(zBh p1::keys0).Nodup->Hole hp e p1 keys0 p2 z F2):Hole hp e p keys p2 z (fun x=>F (F2 x)):=by
 obtain⟨keys0,rest,w0,a1,a2,a3,a4,a5⟩:=h;obtain⟨hb,hnk⟩:=List.nodup_cons.1 hn;obtain⟨n0,n1,n01⟩:=List.nodup_append.1 (a1.nodup_iff.1 hnk);have hb1:zBh p1 ∉ keys0:=fun hm=>by
  rcases a4 with rfl | a4
  ·exact hb (a1.mem_iff.2 (mem_append_left _ hm))
  exact n01 _ hm _ a4 rfl
 obtain⟨keys1,rest1,w1,b1,b2,b3,b4,b5⟩:=k keys0 w0 a2 a3 (List.nodup_cons.2 ⟨hb1,n0⟩);refine⟨keys1,rest1++rest,w1,List.perm_iff_count.2 fun a=>?_,b2,b3,?_,fun hp' t1 new w2 hs h2=>?_⟩
 ·have:=a1.count_eq a;have:=b1.count_eq a;simp only[count_append]at *;omega
 ·rcases b4 with rfl | b4
  ·exact a4.imp id (mem_append_right _)
  exact .inr (mem_append_left _ b4)
 have hp1:zBh p1=zBh p∨zBh p1∈rest:=a4.imp (fun e=>by rw[e]) id;obtain⟨keysA,wA,q1,q2⟩:=b5 hp' t1 new w2 (hs.sub fun k hk=>by
  rcases hk with rfl | hk
  ·exact hp1.imp id (mem_append_right _)
  exact .inr (mem_append_left _ hk)) h2
 have hs1:Sim hp hp' e (fun k=>k=zBh p∨k∈rest) p1:=⟨fun q rows hq=>hs.row q rows (hq.imp id (mem_append_right _)),fun p' hp' hne hl'=>by
  by_cases e2:p'=p2
  ·subst e2;rcases b4 with b4 | b4
   ·exact absurd b4 hne
   exfalso
   have hm:zBh p'∈keys0:=b1.mem_iff.2 (mem_append_right _ b4)
   rcases hp' with h3 | h3
   ·exact hb (a1.mem_iff.2 (mem_append_left _ (by rw[← h3]; exact hm)))
   exact n01 _ hm _ h3 rfl
  exact hs.cell p' (hp'.imp id (mem_append_right _)) e2 hl'⟩
 obtain⟨keysB,wB,q3,q4⟩:=a5 hp' (F2 t1) keysA wA hs1 q2;refine⟨keysB,wB,List.perm_iff_count.2 fun a=>?_,q4⟩;have:=q1.count_eq a;have:=q3.count_eq a;simp only[count_append]at *;omega
def VAt (hp:Nat->Option Ob) (e:Nat) (v:AV) (ks:List Nd) (keys:List Nat):Prop :=
 (ks=[]/\v = .s (.sl 4 [])/\keys=[])∨∃ q rows keys' w,v = .orow q/\hp q=some (.arow e 4 rows)/\rows.length=ks.length/\keys=q::keys'/\LAt hp e q 0 ks keys' [] w
variable {keys:List Nat}{ks:List Nd}{p:AV}{e:Nat}{hp:Nat->Option Ob}
def At.full {k c:Int}{t:List UInt8}{w:Nat} (h:At hp e p (.mk k t c ks) keys [] w):∃ v,zAJ hp p=some (zA8 k t c v)/\VAt hp e v ks keys:=by
 simp only[At]at h;obtain⟨v,hc,⟨_,_,h,_⟩ | ⟨rfl,rfl,rfl,_,_⟩ | ⟨q,rows,keys',rfl,hq,hlen,rfl,h⟩⟩:=h
 ·cases h
 ·exact⟨_,hc,.inl ⟨rfl,rfl,rfl⟩⟩
 exact⟨_,hc,.inr ⟨q,rows,keys',w,rfl,hq,hlen,rfl,h⟩⟩
def zRF (xs:List AV) (hp:Nat->Option Ob) (n:Nat) (Φ:AV->(Nat->Option Ob)->Nat->Prop):Prop :=
 ∃ (k c:Int) (tx:List UInt8) (ks:List Nd),(Nd.mk k tx c ks).cnt<=1000000000/\xs=[.agg (zA8 k tx c (.s (.sl 4 (Nd.encs ks))))] /\
  ∀ v hp' n' keys,n<=n'->(∀ k,k<n->hp' k=hp k)->VAt hp' 24 v ks keys->keys.Nodup->(∀ k∈keys,n<=k/\k<n')->Φ (.agg (zA8 k tx c v)) hp' n'
def zM2:zAq:=zSO zRF
variable {q:Nat}{V:St}{T:Nat->Option TI}
theorem zYS {t ty bt:Nat}{i:TI}{cells:List AV} (h1:V.env t = .op q 0) (h2:V.hp q=some (.box bt cells)) (h3:T ty=some i) (ha:i.k.agg=true) (hz:i.size=cells.length):zHX T V [.cell t ty]=some (AV.deep (.agg cells)):=by
 have hb:Nat.ble i.size cells.length=true :=(by rw[hz]; exact Nat.ble_eq_true_of_le (ar _));simp only[zHX,zIL,zTu,h1,h2,h3,ha,hb];rw[hz,take_length]
def zZy {ob:Ob}:(zDW V q ob).hp q=some ob:=by simp only[zDW,aS,ag]
variable {k:Nat}
def upd_ne {ob:Ob} (h:k ≠ q):(zDW V q ob).hp k=V.hp k:=by simp only[zDW,zEo h,ae]
variable {hp':Nat->Option Ob}
def VAt.frame {v:AV} (h:VAt hp e v ks keys) (hs:∀ k∈keys,hp' k=hp k):VAt hp' e v ks keys:=by
 rcases h with h | ⟨q,rows,keys',w,h1,h2,h3,rfl,h4⟩
 ·exact .inl h
 exact .inr ⟨q,rows,keys',w,h1,(hs q ak).trans h2,h3,rfl,h4.sameQ (Sim.same (p0:=.junk) fun k hk=>hs k (aR.2 hk)) (fun j _ e=>by cases e) (fun q j _ e=>by cases e)⟩
theorem zDj {own:Bool}{o:Oper}{y:Operand} (hl:isL 4 p) (ho:o.op = .assign y∨o.op = .move y) (hy:opd T V.env o.type y=p) (hn:(own&&zAY y)=false):step1 T own o V=some (none,p,V):=by
 have e0:p.nrm=p:=by rcases hl with ⟨_,_,rfl⟩ | ⟨_,rfl⟩ <;> rfl
 have e1:zBH T own o V.env=some (none,p):=by
  rcases ho with ho | ho <;> simp only[zBH,ho,hn,hy,e0]
 simp only[step1,e1]
def zIN {c:Cx}{x:Code}{Q:YtbfnjnljboncgaaGreat.End->St->Prop} (l:List (Nat×AV)) (n':Nat) (h:holds V.env l) (hn:V.nx=n') (hk:∀ H,(∀ k,H k=V.hp k)->Tri c x ⟨ofL l,H,n'⟩ Q):Tri c x V Q:=by
 subst hn;exact zAj (Le.forget l h) (hk V.hp fun _=>rfl)
def At.pend {w:Nat}{k c:Int}{tx:List UInt8} (h:At hp e p (.mk k tx c ks) [] [p] w):zAJ hp p=some (zA8 k tx c (.s (.sl 4 (Nd.encs ks)))):=by
 simp only[At]at h;obtain⟨v,hc,⟨rfl,_⟩ | ⟨_,_,_,h,_⟩ | ⟨q,rows,keys',_,_,_,h,_⟩⟩:=h
 ·exact hc
 ·cases h
 cases h
variable {c:List AV}{sz:Nat}
def zI3  (hl:isL sz p) (h1:hp' k=hp k) (h2:hp' (zBh p)=hp (zBh p)):putC hp' p c k=putC hp p c k:=by
 rcases hl with ⟨q,i,rfl⟩ | ⟨q,rfl⟩ <;> (simp only[zBh]at h2; simp only[putC,h1,h2])
def zW7 {c' cs:List AV} (hl:isL sz p) (hc:zAJ hp p=some cs) (h:hp' (zBh p)=putC hp p c' (zBh p)) (hk:k ≠ zBh p->hp' k=hp k):putC hp' p c k=putC hp p c k:=by
 by_cases hb:k=zBh p
 ·subst hb;rcases zCX hl hc with ⟨q,i,e,rows,rfl,hq,hi⟩ | ⟨q,bt,rfl,hq⟩
  ·simp only[zBh]at h ⊢;rw[zJ1 hq]at h ⊢;simp only[aS,ag]at h ⊢;rw[zJ1 h];simp only[aS,ag,set_set]
  simp only[zBh]at h ⊢;rw[zGs hq]at h ⊢;simp only[aS,ag]at h ⊢;rw[zGs h];simp only[aS,ag]
 rw[zBM hb,zBM hb,hk hb]
def zYg {j:Nat}:locs q 0 (j+1)=locs q 0 j++[.rp q 4 j 0]:=by
 simp[locs,range'_concat]
def yAg {α:Type}{S:List α}{p:α}:((S++[p]).map fun p=>[p]).getD S.length []=[p]:=by
 simp[aL]
structure DInv (hp:Nat->Option Ob) (n e pe:Nat) (t:Nd) (H:Nat->Option Ob) (ls nx:Nat) (S:List AV) (keys:List Nat) (w:Nat):Prop where
 low:∀ k,k<n->H k=hp k
 res:∃ a b c d,H (n+1)=some (.box e [a,b,c,d])
 stk:H ls=some (.arow pe 1 (S.map fun p=>[p]))
 tree:At H e (.op n 0) t keys S w
 nd:(n::keys).Nodup
 kb:∀ k∈keys,n+1<k/\k<nx/\k ≠ ls
 l1:n+1<ls
 l2:ls<nx
set_option maxHeartbeats 4000000 in
def zHA:PSound prog 28 zM2:=by
 have gok:=@gok0 prog;refine zNP tokW call28 func28 rfl (fun xs hp n Φ h=>by obtain⟨_,_,_,_,_,rfl,_⟩:=h; show 1<=_; decide) _ rfl ?_;rintro xs hp n Φ w0 G0 B0 ⟨k0,c,tx,ks,hcnt,rfl,hΦ⟩ _ hhp;refine yCZ [1,2] [] rfl ?_;refine yCZ [7] [] rfl ?_;show Tri ..;refine zAj (Le.forgetH [(1,.op n 0),(2,.op (n+1) 0),(3,.orow (n+2))] (fun k=>bif Nat.beq k (n+2) then some (.arow 120 1 [[.op n 0]]) else bif Nat.beq k (n+1) then some (.box 24 [nI 0,.s (.str []),nI 0,.nl 4]) else bif Nat.beq k n then some (.box 24 (zA8 k0 tx c (.s (.sl 4 (Nd.encs ks))))) else hp k) (n+3) ⟨rfl,rfl,rfl,trivial⟩ (fun k=>rfl) rfl) ?_;have hI:DInv hp n 24 120 (.mk k0 tx c ks) (fun k=>bif Nat.beq k (n+2) then some (.arow 120 1 [[.op n 0]]) else bif Nat.beq k (n+1) then some (.box 24 [nI 0,.s (.str []),nI 0,.nl 4]) else bif Nat.beq k n then some (.box 24 (zA8 k0 tx c (.s (.sl 4 (Nd.encs ks))))) else hp k) (n+2) (n+3) [.op n 0] [] (Nd.mk k0 tx c ks).cnt:={
  low:=fun k hk=>by
   have h1:k ≠ n+2 :=(by omega);have h2:k ≠ n+1 :=(by omega);have h3:k ≠ n :=(by omega);simp only[zEo h1,zEo h2,zEo h3,ae]
  res:=⟨.s (.int .i64 0),.s (.str []),nI 0,.nl 4,by
   have h1:n+1 ≠ n+2 :=(by omega);simp only[zEo h1,aS,ae,ag]⟩
  stk:=by simp only[aS,ag]; rfl
  tree:=by
   have h1:n ≠ n+2 :=(by omega);have h2:n ≠ n+1 :=(by omega);simp only[At]
   exact⟨.s (.sl 4 (Nd.encs ks)),zEp (bt:=24) (by simp only[zEo h1,zEo h2,aS,ae,ag]),.inl (by simp[Nd.cnt])⟩
  nd:=by simp
  kb:=fun k hk=>by cases hk
  l1:=by omega
  l2:=by omega }
 generalize hH:(fun k=>bif Nat.beq k (n+2) then some (Ob.arow 120 1 [[AV.op n 0]]) else bif Nat.beq k (n+1) then some (Ob.box 24 [AV.s (.int .i64 0),AV.s (.str []),AV.s (.int .i64 0),AV.nl 4]) else bif Nat.beq k n then some (Ob.box 24 (zA8 k0 tx c (.s (.sl 4 (Nd.encs ks))))) else hp k)=H0 at hI ⊢;clear hH;refine zAa<|zAk (zAv (X:=(Nat->Option Ob)×Nat×Nat×List AV×List Nat×Nat) (fun y=>match y with | (H,ls,nx,S,keys,w)=>⟨ofL [(1,.op n 0),(2,.op (n+1) 0),(3,.orow ls)],H,nx⟩)
  (fun y=>match y with | (H,ls,nx,S,keys,w)=>DInv hp n 24 120 (.mk k0 tx c ks) H ls nx S keys w) (fun y=>match y with | (H,ls,nx,S,keys,w)=>w) (H0,n+2,n+3,[.op n 0],[],(Nd.mk k0 tx c ks).cnt) hI (Le.refl _ _) ?_)
 rintro⟨H,ls,nx,S,keys,w⟩ hI;have hI:DInv hp n 24 120 (.mk k0 tx c ks) H ls nx S keys w:=hI;refine zAa<|yEW ?_;refine evS ?_;refine evS (hs:=(zOp rfl rfl rfl rfl rfl hI.stk)) ?_;refine evS ?_;refine zAx rfl (fun hb=>?_) (fun hb=>?_)
 rotate_left
 ·refine zAy ?_;refine zAj (Le.forget [(1,.op n 0),(2,.op (n+1) 0),(3,.orow ls)] ⟨rfl,rfl,rfl,trivial⟩) ?_;have hS:S=[]:=by
   cases S with
   | nil=>rfl
   | cons x S=>
   have:=of_decide_eq_false hb;simp only[az,ah]at this;omega
  subst hS;obtain⟨v,hc,hv⟩:=hI.tree.full;rcases zCX (sz:=4) (.inr ⟨n,rfl⟩) hc with ⟨q,i,e,rows,h1,_⟩ | ⟨q,bt,h1,hq⟩
  ·cases h1
  cases h1;obtain⟨ra,rb,rc,rd,hr1⟩:=hI.res;refine yEW ?_;refine evS (hs:=(zY6 rfl rfl rfl rfl hq rfl)) ?_;have hvl:v.one=true/\v.lt nx=true:=by
   rcases hv with ⟨_,rfl,_⟩ | ⟨q,_,_,_,rfl,_,_,hk,_⟩
   ·exact qQ
   exact⟨rfl,aP (hI.kb q (by rw[hk]; exact ak)).2.1⟩
  refine zGh rfl rfl rfl (zOq rfl rfl rfl hr1 rfl rfl (by show([AV.s _,AV.s _,AV.s _,v]:List AV).all AV.one=true; simp only[all_cons,all_nil,hvl.1]; rfl) (by show AV.ltAll nx [AV.s _,AV.s _,AV.s _,v]=true; simp only[AV.ltAll,hvl.2]; rfl)) trivial ?_;refine zAd ?_;have hln:n<nx:=Nat.lt_trans (Nat.lt_trans (ax n) hI.l1) hI.l2;have hdeep:AV.deep (.agg (zA8 k0 tx c v)) = .agg (zA8 k0 tx c v):=by
   rcases hv with ⟨_,rfl,_⟩ | ⟨q,_,_,_,rfl,_⟩ <;> rfl
  unfold zJk;refine⟨_,Le.refl _ _,.agg (zA8 k0 tx c v),?_,hΦ v _ _ keys (Nat.le_of_lt hln) (fun k hk=>?_) ?_ (List.nodup_cons.1 hI.nd).2 fun k hk=>⟨Nat.le_of_lt (Nat.lt_trans (ax n) (hI.kb k hk).1),(hI.kb k hk).2.1⟩⟩
  ·exact(zYS (cells:=zA8 k0 tx c v) rfl zZy rfl rfl rfl).trans (congrArg some hdeep)
  ·exact(upd_ne (by omega)).trans (hI.low k hk)
  exact hv.frame fun k hk=>upd_ne (by have:=(hI.kb k hk).1; omega)
 refine zAe ?_;show Tri ..;obtain⟨S',p,rfl⟩:∃ S' p,S=S'++[p]:=by
  rcases eq_nil_or_concat S with rfl | ⟨S',p,rfl⟩
  ·cases hb
  exact⟨S',p,concat_eq_append⟩
 have hl0:isL 4 p:=hI.tree.loc (.inr ⟨n,rfl⟩) (by simp);obtain⟨⟨k1,tx1,c1,ks1⟩,w1,hp0,hw,hrep⟩:=hI.tree.repl (.inr ⟨n,rfl⟩) hI.nd;have hcell:=hp0.pend;have hwl:=hI.tree.len;have hSl:S'.length<1000000000:=by
  have:=hwl.1;have:=hwl.2;simp only[am,length_singleton]at *;omega
 have hz:i64.wrap (((((S'++[p]).map fun p=>[p]).length:Nat):Int) - 1)=(S'.length:Int):=by
  rw[wrap64_in (by simp only[az,am,length_singleton]; omega) (by simp only[az,am,length_singleton]; omega)];simp only[az,am,length_singleton]; omega
 have hlt1:S'.length<((S'++[p]).map fun p=>[p]).length :=(by simp);refine zAj (Le.forget [(1,.op n 0),(2,.op (n+1) 0),(3,.orow ls)] ⟨rfl,rfl,rfl,trivial⟩)<|zAk<|yEW ?_;refine evS ?_;refine evS ?_;refine evS (hs:=(zOp rfl rfl rfl rfl rfl hI.stk)) ?_;refine evS ?_;rw[hz];refine zAh rfl rfl rfl rfl rfl (zRo rfl rfl rfl rfl rfl rfl hI.stk rfl) ⟨Int.natCast_nonneg _,aK.2 hlt1⟩ ?_;refine zSF (c:=p) rfl rfl rfl rfl rfl rfl hI.stk hlt1 (by rw[au,yAg]; rfl) ?_;refine evS (hs:=(zDj hl0 (.inl rfl) rfl rfl)) ?_;refine zAj (Le.forget [(1,.op n 0),(2,.op (n+1) 0),(3,.orow ls),(4,p)] ⟨rfl,rfl,rfl,rfl,trivial⟩)<|yCZ [21] [] rfl ?_;refine evS ?_;refine evS ?_;refine evS (hs:=(zOp rfl rfl rfl rfl rfl hI.stk)) ?_;refine evS ?_;rw[hz];refine zAh rfl rfl rfl rfl rfl (zY7 rfl rfl rfl rfl rfl rfl hI.stk rfl) ⟨Int.natCast_nonneg _,bi.2 (Nat.le_of_lt hlt1)⟩ ?_;refine evS ?_;show Tri ..;refine zIN [(1,.op n 0),(2,.op (n+1) 0),(3,.orow nx),(4,p)] (nx+1) ⟨rfl,rfl,rfl,rfl,trivial⟩ rfl fun H1 hH1=>?_
 have g1:H1 nx=some (.arow 120 1 (S'.map fun p=>[p])):=(hH1 nx).trans (by
  show(bif Nat.beq nx nx then some (Ob.arow 120 1 (((S'++[p]).map fun p=>[p]).take ((S'.length:Int)).toNat)) else _)=_;rw[aS,ag,au]
  simp)
 have g2:∀ k,k ≠ nx->k ≠ ls->H1 k=H k:=fun k h1 h2=>(hH1 k).trans (by
  show(bif Nat.beq k nx then _ else bif Nat.beq k ls then none else H k)=_;rw[zEo h1,zEo h2]; rfl)
 clear hH1;have hbase:zBh p=n∨zBh p∈keys:=by
  rcases hI.tree.base (p0:=p) (by simp) with h | h
  ·exact .inl (by rw[h]; rfl)
  exact .inr h
 have hln:n<nx:=Nat.lt_trans (Nat.lt_trans (ax n) hI.l1) hI.l2;have hbl:zBh p ≠ nx/\zBh p ≠ ls/\zBh p ≠ n+1/\zBh p<nx:=by
  have h1:=hI.l1;have h2:=hI.l2;rcases hbase with h | h
  ·rw[h]; omega
  have:=hI.kb _ h; omega
 have fin:∀ (cs:List AV) (Hj:Nat->Option Ob) (lsj nxj:Nat) (new:List Nat) (ch:List AV) (w':Nat),(∀ k,k ≠ ls->k<nx->Hj k=putC H p cs k)->Hj lsj=some (.arow 120 1 ((S'++ch).map fun p=>[p]))->At Hj 24 p (.mk k1 tx1 c1 ks1) new ch w' ->
   new.Nodup->(∀ k∈new,nx<=k/\k<nxj/\k ≠ lsj)->nx<=lsj->lsj<nxj->w'<(Nd.mk k1 tx1 c1 ks1).cnt->∃ keys2,DInv hp n 24 120 (.mk k0 tx c ks) Hj lsj nxj (S'++ch) keys2 (w1+w')/\w1+w'<w:=by
  intro cs Hj lsj nxj new ch w' f1 f2 f3 f4 f5 f6 f7 f8;have l1:=hI.l1;have l2:=hI.l2;have hD:∀ k,k=n∨k∈keys->k ≠ ls/\k<nx:=fun k hk=>by
   rcases hk with rfl | hk
   ·omega
   have:=hI.kb k hk; omega
  obtain⟨keys2,hperm,hat⟩:=hrep Hj new ch w' (Sim.put hl0 hcell fun k hk=>f1 k (hD k hk).1 (hD k hk).2) f3;have hmem:∀ k,k∈keys2->k∈keys∨k∈new:=fun k hk=>aN.1 (hperm.mem_iff.1 hk)
  have hkn:=List.nodup_cons.1 hI.nd;refine⟨keys2,{
   low:=fun k hk=>(f1 k (by omega) (by omega)).trans ((zBM (by
    rcases hbase with h | h
    ·omega
    have:=hI.kb _ h; omega)).trans (hI.low k hk))
   res:=by
    obtain⟨a,b,c,d,hr⟩:=hI.res;exact⟨a,b,c,d,(f1 (n+1) (by omega) (by omega)).trans ((zBM (Ne.symm hbl.2.2.1)).trans hr)⟩
   stk:=f2
   tree:=hat
   nd:=List.nodup_cons.2 ⟨fun hm=>by
    rcases hmem n hm with h | h
    ·exact hkn.1 h
    have:=f5 n h; omega,hperm.nodup_iff.2 (List.nodup_append.2 ⟨hkn.2,f4,fun a ha b hb e=>by
    have:=hI.kb a ha;have:=f5 b hb
    omega⟩)⟩
   kb:=fun k hk=>by
    rcases hmem k hk with h | h
    ·have:=hI.kb k h; omega
    have:=f5 k h; omega
   l1:=by omega
   l2:=f7 },by omega⟩
 have hc1:zAJ H1 p=some (zA8 k1 tx1 c1 (.s (.sl 4 (Nd.encs ks1)))):=(zCg hl0 (g2 _ hbl.1 hbl.2.1)).trans hcell;refine yEW ?_;refine evS (hs:=(zDj hl0 (.inr rfl) rfl rfl)) ?_;refine evS (hs:=(zFc hl0 rfl rfl)) ?_;refine evS (hs:=(zFG hl0 rfl rfl rfl rfl rfl rfl rfl)) ?_;refine zD5 (off:=3) (sz:=4) rfl rfl rfl rfl rfl rfl rfl hl0 rfl hc1 rfl ?_;refine evS ?_;show Tri ..;refine zAj (Le.forget [(1,.op n 0),(2,.op (n+1) 0),(3,.orow nx),(4,p),(5,.s (.sl 4 (Nd.encs ks1)))] ⟨rfl,rfl,rfl,rfl,rfl,trivial⟩)<|yEW ?_;refine evS (hs:=(zDj hl0 (.inr rfl) rfl rfl)) ?_;refine evS (hs:=(zFc hl0 rfl rfl)) ?_;refine evS (hs:=(zFG hl0 rfl rfl rfl rfl rfl rfl rfl)) ?_;refine zSG (off:=3) (sz:=4) (c:=.s (.sl 4 [])) rfl rfl rfl rfl rfl hl0 rfl hc1 rfl (by decide) rfl rfl rfl ?_;show Tri ..;refine zIN [(1,.op n 0),(2,.op (n+1) 0),(3,.orow nx),(4,p),(5,.s (.sl 4 (Nd.encs ks1)))] (nx+1) ⟨rfl,rfl,rfl,rfl,rfl,trivial⟩ rfl fun H2 hH2=>?_
 have hH2:∀ k,H2 k=putC H1 p (zA8 k1 tx1 c1 (.s (.sl 4 []))) k:=hH2;have hc2:zAJ H2 p=some (zA8 k1 tx1 c1 (.s (.sl 4 []))):=(zCg hl0 (hH2 _)).trans (zJQ hl0 hc1);refine zAa<|yEW ?_;refine evS ?_;refine evS ?_;refine evS ?_;refine zAx rfl (fun hb=>?_) (fun hb=>?_)
 rotate_left
 ·obtain rfl:ks1=[]:=by
   cases ks1 with
   | nil=>rfl
   | cons x l=>
   have:=of_decide_eq_false hb;simp only[Nd.encs,ah]at this;omega
  refine zAe ?_;refine zAj (Le.forget [(1,.op n 0),(2,.op (n+1) 0),(3,.orow nx),(4,p),(5,.s (.sl 4 []))] ⟨rfl,rfl,rfl,rfl,rfl,trivial⟩)<|yEW ?_;refine evS (hs:=(zDj hl0 (.inr rfl) rfl rfl)) ?_;refine evS (hs:=(zFc hl0 rfl rfl)) ?_;refine evS (hs:=(zFG hl0 rfl rfl rfl rfl rfl rfl rfl)) ?_;refine zD5 (off:=3) (sz:=4) rfl rfl rfl rfl rfl rfl rfl hl0 rfl hc2 rfl ?_;refine evS ?_;refine evS ?_;show Tri ..;refine zAj (Le.forget [(1,.op n 0),(2,.op (n+1) 0),(3,.orow nx),(4,p),(5,.s (.sl 4 []))] ⟨rfl,rfl,rfl,rfl,rfl,trivial⟩)<|yEW ?_;refine evS (hs:=(zDj hl0 (.inr rfl) rfl rfl)) ?_;refine evS (hs:=(zFc hl0 rfl rfl)) ?_;refine evS (hs:=(zFG hl0 rfl rfl rfl rfl rfl rfl rfl)) ?_;refine zD5 (off:=3) (sz:=4) rfl rfl rfl rfl rfl rfl rfl hl0 rfl hc2 rfl ?_;refine evS ?_;refine evS ?_;show Tri ..;refine zAk (zAv (X:=Unit) (fun _=>⟨ofL [(1,.op n 0),(2,.op (n+1) 0),(3,.orow nx),(48,nI 0),(49,nI 0)],H2,nx+1⟩) (fun _=>True) (fun _=>0) () trivial (Le.forget [(1,.op n 0),(2,.op (n+1) 0),(3,.orow nx),(48,nI 0),(49,nI 0)] ⟨rfl,rfl,rfl,rfl,rfl,trivial⟩) ?_);rintro⟨⟩ _;refine yEW ?_;refine evS ?_;refine zAa<|zAx rfl (fun hb=>by cases hb) (fun hb=>?_)
  refine zAy ?_;obtain⟨keys2,hz1,hz2⟩:=fin (zA8 k1 tx1 c1 (.s (.sl 4 []))) H2 nx (nx+1) [] [] 0
   (fun k h1 h2=>(hH2 k).trans (zI3 hl0 (g2 k (by omega) h1) (g2 _ hbl.1 hbl.2.1)))
   (by rw[bs]; exact(hH2 nx).trans ((zBM (Ne.symm hbl.1)).trans g1))
   (by simp only[At]; exact⟨.s (.sl 4 []),hc2,.inr (.inl (by simp))⟩) (by simp) (fun k hk=>by cases hk) (ar _) (ax _) (by simp[Nd.cnt])
  exact⟨(H2,nx,nx+1,S'++[],keys2,w1+0),hz1,Le.forget [(1,.op n 0),(2,.op (n+1) 0),(3,.orow nx)] ⟨rfl,rfl,rfl,trivial⟩,hz2⟩
 have hm:0<ks1.length:=by
  have:=aY hb;rw[Nd.encs_eq,az]at this
  omega
 have hkl:ks1.length<1000000000:=by
  have h1:=Nd.cnts_len ks1;have h2:=hwl.2;simp only[Nd.cnt]at hw hcnt h2;omega
 have hel:(Nd.encs ks1).length=ks1.length :=(by rw[Nd.encs_eq,az]);refine zAj (Le.forget [(1,.op n 0),(2,.op (n+1) 0),(3,.orow nx),(4,p),(5,.s (.sl 4 (Nd.encs ks1)))] ⟨rfl,rfl,rfl,rfl,rfl,trivial⟩)<|zAb [35] [] rfl ?_;refine evS (hs:=(zDj hl0 (.inr rfl) rfl rfl)) ?_;refine evS ?_;refine evS ?_;refine zAh rfl rfl rfl rfl rfl (yEP rfl rfl rfl rfl rfl rfl rfl rfl rfl) (show 0<=_/\_ from⟨Int.natCast_nonneg _,Int.le_refl _,show(((Nd.encs ks1).length:Nat):Int) * ((56:Nat):Int)<=281474976710656 by omega,show(((Nd.encs ks1).length:Nat):Int)<=281474976710656 by omega⟩) ?_;refine evS (hs:=(zFc hl0 rfl rfl)) ?_;refine evS (hs:=(zFG hl0 rfl rfl rfl rfl rfl rfl rfl)) ?_;have hbn:zBh p ≠ nx+1:=by have:=hbl.2.2.2; omega
 refine zSG (off:=3) (sz:=4) (c:=.orow (nx+1)) rfl rfl rfl rfl rfl hl0 rfl ((zCg hl0 (by show(bif Nat.beq (zBh p) (nx+1) then _ else H2 (zBh p))=_; rw[zEo hbn]; rfl)).trans hc2) rfl (by decide) rfl rfl (aP (ax _)) ?_;show Tri ..;refine zIN [(1,.op n 0),(2,.op (n+1) 0),(3,.orow nx),(4,p),(5,.s (.sl 4 (Nd.encs ks1)))] (nx+2) ⟨rfl,rfl,rfl,rfl,rfl,trivial⟩ rfl fun H3 hH3=>?_
 have hH3:∀ k,H3 k=putC (fun k=>bif Nat.beq k (nx+1) then some (.row 24 4 (List.replicate (((Nd.encs ks1).length:Int)).toNat Zy)) else H2 k) p (zA8 k1 tx1 c1 (.orow (nx+1))) k:=hH3;have a1:H3 (nx+1)=some (.row 24 4 (List.replicate (((Nd.encs ks1).length:Int)).toNat Zy)):=(hH3 _).trans ((zBM (Ne.symm hbn)).trans (by simp only[aS,ag]));have a2:∀ k,k ≠ nx+1->H3 k=putC H2 p (zA8 k1 tx1 c1 (.orow (nx+1))) k:=fun k hk=>(hH3 k).trans (zI3 hl0 (by simp only[zEo hk,ae]) (by simp only[zEo hbn,ae]))
 have hc3:zAJ H3 p=some (zA8 k1 tx1 c1 (.orow (nx+1))):=(zCg hl0 (a2 _ hbn)).trans (zJQ hl0 hc2);refine zAj (Le.toA (nx+1) a1)<|yEW ?_;refine evS (hs:=(zDj hl0 (.inr rfl) rfl rfl)) ?_;refine evS (hs:=(zFc hl0 rfl rfl)) ?_;refine evS (hs:=(zFG hl0 rfl rfl rfl rfl rfl rfl rfl)) ?_;refine zD5 (off:=3) (sz:=4) rfl rfl rfl rfl rfl rfl rfl hl0 rfl ((zCg hl0 (upd_ne hbn)).trans hc3) rfl ?_;refine evS ?_;refine zAh rfl rfl rfl rfl rfl (yA4 rfl rfl rfl rfl rfl rfl rfl rfl rfl zZy rfl rfl) (show(List.map _ _).length=List.length _ by simp) ?_;show Tri ..;refine zIN [(1,.op n 0),(2,.op (n+1) 0),(3,.orow nx),(4,p),(5,.s (.sl 4 (Nd.encs ks1)))] (nx+2) ⟨rfl,rfl,rfl,rfl,rfl,trivial⟩ rfl fun H4 hH4=>?_
 have r1:H4 (nx+1)=some (.arow 24 4 ((Nd.encs ks1).map (·.map AV.s))):=(hH4 _).trans zZy;have r2:∀ k,k ≠ nx+1->H4 k=H3 k:=fun k hk=>(hH4 k).trans ((upd_ne hk).trans (upd_ne hk))
 clear hH4;have hc4:zAJ H4 p=some (zA8 k1 tx1 c1 (.orow (nx+1))):=(zCg hl0 (r2 _ hbn)).trans hc3;refine yEW ?_;refine evS (hs:=(zDj hl0 (.inr rfl) rfl rfl)) ?_;refine evS (hs:=(zFc hl0 rfl rfl)) ?_;refine evS (hs:=(zFG hl0 rfl rfl rfl rfl rfl rfl rfl)) ?_;refine zD5 (off:=3) (sz:=4) rfl rfl rfl rfl rfl rfl rfl hl0 rfl hc4 rfl ?_;refine evS (hs:=(zOp rfl rfl rfl rfl rfl r1)) ?_;refine evS ?_;show Tri ..;have hlen4:((Nd.encs ks1).map (·.map AV.s)).length=ks1.length :=(by rw[az,hel]);refine zAk (zAv (X:=(Nat->Option Ob)×Nat×Nat×Nat) (fun y=>match y with | (Hj,lsj,nxj,j)=>⟨ofL [(1,.op n 0),(2,.op (n+1) 0),(3,.orow lsj),(4,p),(48,nI (ks1.length:Int)),(49,nI (j:Int))],Hj,nxj⟩)
  (fun y=>match y with | (Hj,lsj,nxj,j)=>j<=ks1.length/\(∀ k,k ≠ nx->k<nx+2->Hj k=H4 k)/\Hj lsj=some (.arow 120 1 ((S'++locs (nx+1) 0 j).map fun p=>[p]))/\(lsj=nx∨nx+2<=lsj)/\lsj<nxj/\nx+2<=nxj) (fun y=>match y with | (Hj,lsj,nxj,j)=>ks1.length - j) (H4,nx,nx+2,0)
  ⟨aQ _,fun k _ _=>rfl,by
   refine(r2 nx (by omega)).trans ((a2 nx (by omega)).trans ((zBM (Ne.symm hbl.1)).trans ((hH2 nx).trans ((zBM (Ne.symm hbl.1)).trans (g1.trans ?_)))))
   simp[locs],.inl rfl,by omega,ar _⟩
  (Le.forget [(1,.op n 0),(2,.op (n+1) 0),(3,.orow nx),(4,p),(48,nI (ks1.length:Int)),(49,.s (.int .i64 ((0:Nat):Int)))] ⟨rfl,rfl,rfl,rfl,congrArg (fun m:Nat=>AV.s (.int .i64 (m:Int))) hlen4,rfl,trivial⟩) ?_)
 rintro⟨Hj,lsj,nxj,j⟩ ⟨i1,i2,i3,i4,i5,i6⟩;have hbj:zBh p ≠ nx/\zBh p<nx+2:=⟨hbl.1,by have:=hbl.2.2.2; omega⟩;have hcj:zAJ Hj p=some (zA8 k1 tx1 c1 (.orow (nx+1))):=(zCg hl0 (i2 _ hbj.1 hbj.2)).trans hc4;have hrj:Hj (nx+1)=some (.arow 24 4 ((Nd.encs ks1).map (·.map AV.s))):=(i2 (nx+1) (by omega) (by omega)).trans r1;refine yEW ?_;refine evS ?_;refine zAa<|zAx rfl (fun hb=>?_) (fun hb=>?_)
 ·refine zAe ?_;show Tri ..;have hj:j<ks1.length:=aK.1 (aY hb);have hsl:((S'++locs (nx+1) 0 j).map fun p=>[p]).length=S'.length+j :=(by simp[locs]);refine zAj (Le.forget [(1,.op n 0),(2,.op (n+1) 0),(3,.orow lsj),(4,p),(48,nI (ks1.length:Int)),(49,nI (j:Int))] ⟨rfl,rfl,rfl,rfl,rfl,rfl,trivial⟩)<|zAa<|zAk<|yEW ?_;refine evS ?_;refine evS ?_;refine zAb [59,60] [] rfl ?_;refine evS ?_;refine evS (hs:=(zDj hl0 (.inr rfl) rfl rfl)) ?_;refine evS (hs:=(zFc hl0 rfl rfl)) ?_;refine evS (hs:=(zFG hl0 rfl rfl rfl rfl rfl rfl rfl)) ?_;refine zD5 (off:=3) (sz:=4) rfl rfl rfl rfl rfl rfl rfl hl0 rfl hcj rfl ?_;refine evS ?_;refine zAh rfl rfl rfl rfl rfl (zRo rfl rfl rfl rfl rfl rfl hrj rfl) ⟨Int.natCast_nonneg _,aK.2 (by rw[hlen4]; exact hj)⟩ ?_;rw[au]
  refine evS ?_;refine zAh rfl rfl rfl rfl rfl (yCN (rows:=(S'++locs (nx+1) 0 j).map fun p=>[p]) (rows2:=[[.rp (nx+1) 4 j 0]]) rfl rfl rfl rfl rfl rfl rfl rfl rfl (by show(bif Nat.beq lsj nxj then _ else Hj lsj)=_; rw[zEo (by omega)]; exact i3) (by show(bif Nat.beq nxj nxj then _ else Hj nxj)=_; rw[aS]; rfl) rfl rfl rfl) (show(((S'++locs (nx+1) 0 j).map fun p=>[p]).length+1) * 8<=140737488355328/\((S'++locs (nx+1) 0 j).map fun p=>[p]).length+1<=9223372036854775807 by rw[hsl]; omega) ?_;refine evS ?_;show Tri ..;refine zIN [(1,.op n 0),(2,.op (n+1) 0),(3,.orow (nxj+1)),(4,p),(48,nI (ks1.length:Int)),(49,nI (j:Int))] (nxj+2) ⟨rfl,rfl,rfl,rfl,rfl,rfl,trivial⟩ rfl fun H5 hH5=>?_
  have e1:H5 (nxj+1)=some (.arow 120 1 ((S'++locs (nx+1) 0 (j+1)).map fun p=>[p])):=(hH5 _).trans (by
   show(bif Nat.beq (nxj+1) (nxj+1) then some (Ob.arow 120 1 (((S'++locs (nx+1) 0 j).map fun p=>[p])++[[.rp (nx+1) 4 j 0]])) else _)=_;rw[aS,ag,zYg]
   simp)
  have e2:∀ k,k ≠ nxj+1->k ≠ lsj->k ≠ nxj->H5 k=Hj k:=fun k h1 h2 h3=>(hH5 k).trans (by
   show(bif Nat.beq k (nxj+1) then _ else bif Nat.beq k lsj then none else bif Nat.beq k nxj then _ else Hj k)=_;rw[zEo h1,zEo h2,zEo h3]; rfl)
  clear hH5;refine yEV ?_;refine evS ?_;refine evS ?_;exact⟨(H5,nxj+1,nxj+2,j+1),⟨hj,fun k h1 h2=>(e2 k (by omega) (by omega) (by omega)).trans (i2 k h1 h2),e1,.inr (by omega),by omega,by omega⟩,
   Le.forget [(1,.op n 0),(2,.op (n+1) 0),(3,.orow (nxj+1)),(4,p),(48,nI (ks1.length:Int)),(49,.s (.int .i64 ((j+1:Nat):Int)))] ⟨rfl,rfl,rfl,rfl,rfl,congrArg (fun z=>AV.s (.int .i64 z)) (zAG (by omega)),trivial⟩,by show ks1.length - (j+1)<ks1.length - j; omega⟩
 refine zAy ?_;have hj:j=ks1.length:=by
  have:=of_decide_eq_false hb;omega
 subst hj;obtain⟨keys2,hz1,hz2⟩:=fin (zA8 k1 tx1 c1 (.orow (nx+1))) Hj lsj nxj [nx+1] (locs (nx+1) 0 ks1.length) (Nd.cnts ks1)
  (fun k h1 h2=>(i2 k (by omega) (by omega)).trans ((r2 k (by omega)).trans ((a2 k (by omega)).trans (zW7 hl0 hcell ((hH2 _).trans (zI3 hl0 (g2 _ hbl.1 hbl.2.1) (g2 _ hbl.1 hbl.2.1))) fun hk=>(hH2 k).trans ((zBM hk).trans (g2 k (by omega) h1))))))
  i3 (by simp only[At]; exact⟨.orow (nx+1),hcj,.inr (.inr ⟨nx+1,_,[],rfl,hrj,hlen4,rfl,LAt.copied hrj⟩)⟩) (by simp) (fun k hk=>by
   have:=aD.1 hk
   omega) (by omega) i5 (by simp[Nd.cnt])
 exact⟨(Hj,lsj,nxj,S'++locs (nx+1) 0 ks1.length,keys2,w1+Nd.cnts ks1),hz1,Le.forget [(1,.op n 0),(2,.op (n+1) 0),(3,.orow lsj)] ⟨rfl,rfl,rfl,trivial⟩,hz2⟩
def zTR (xs:List AV) (r:Ret):Prop:=∃ (a0:Nd) (y0:Nd),zAS a0=some y0/\xs=[.agg ((Nd.enc a0).map .s)]/\r = .val (.agg ((Nd.enc y0).map .s))
def zEb:zAq:=zAr fun xs r=>zTR xs r
def zEw:PSound prog 28 zEb :=
 PSound.giveAll zHA fun xs r h=>by
  obtain⟨⟨k,t,c,ks⟩,y,hm,rfl,rfl⟩:=h;obtain⟨hq,hm⟩:=zAs hm;obtain rfl:=Option.some.inj hm;refine⟨_,rfl,rfl,k,c,t,ks,hq,rfl,fun v hp' n' keys _ _ hv _ _=>?_⟩;refine yAO (t:=.mk k t c ks) (RdC.node ?_);rcases hv with ⟨rfl,rfl,_⟩ | ⟨q,rows,keys',w,rfl,hq,hlen,rfl,h⟩
  ·exact .s _
  ·exact Rd.rows hq hlen fun j x hj=>(by have:=LAt.rd h j x hj; rwa [a8]at this)
variable {p:List Int}{i s:Int}{n:Nd}
def zHy  (h:¬ (0<=i/\i<n.kids.length)):zBn n (i::s::p)=none:=by rw[zBn,if_neg h]
variable {x:Nd}
def zHz  (h0:0<=i) (hx:n.kids[i.toNat]? = some x) (h:¬ (0<=s/\s<x.kids.length)):zBn n (i::s::p)=none:=by
 have hl:=(aa.1 hx).1;rw[zBn,if_pos ⟨h0,by omega⟩];simp only[aL,hx,aF];rw[if_neg h]
def zPz {z:Nd} (h0:0<=i) (hx:n.kids[i.toNat]? = some x) (h1:0<=s) (hz:x.kids[s.toNat]? = some z):zBn n (i::s::p)=zBn z p:=by
 have hl:=(aa.1 hx).1;have hl2:=(aa.1 hz).1;rw[zBn,if_pos ⟨h0,by omega⟩];simp only[aL,hx,hz,aF];rw[if_pos ⟨h1,by omega⟩]
def zX0 {l:List Nd}{i:Nat} (h:l[i]? = some x):(Nd.encs l).getD i []=Nd.enc x:=by
 simp[Nd.encs_eq,aL,h]
def zIU (l:List Nd):(Nd.encs l).length=l.length:=by rw[Nd.encs_eq,az]
def zXZ:Option Nd->AV
 | some y=>.s (.pt (Nd.enc y))
 | none=>.junk
def zTT (xs:List AV) (r:Ret):Prop:=∃ (a0:Nd) (a1:List Int),xs=[.s (.pt (Nd.enc a0)),.s (.sl 1 (a1.map (irow .i64)))]/\r = .val (.tup [zXZ (zBn a0 a1),.s (.bool (zBn a0 a1).isSome)])
def zNd:zAq:=zAr fun xs r=>zTT xs r
def jY {P:Prop} (h:P:=by unfold zBF;exact⟨_,Le.forget [(5,nB false)] ⟨rfl,trivial⟩,rfl,rfl⟩):P:=h
def gX {P:Prop} (h:P:=by exact⟨_,Le.refl _ _,rfl,rfl⟩):P:=h
def zTa:PSound prog 180 zNd:=by
 have gok:=@gok0 prog;refine psq tokW call180 func180 rfl ?_;rintro xs r w0 G0 ⟨n0,p0,rfl,rfl⟩ _;generalize hy:zBn n0 p0=y;refine yEW ?_;refine zAa<|zAk (zAv (X:=Nd×List Int) (fun x=>match x with | (n,p)=>⟨ofL [(0,.s (.pt (Nd.enc n))),(1,.s (.sl 1 (p.map (irow .i64)))),(4,.s .np),(5,nB false)],fun _=>none,0⟩)
  (fun x=>match x with | (n,p)=>zBn n p=y) (fun x=>match x with | (n,p)=>p.length) (n0,p0) hy (Le.forget [(0,.s (.pt (Nd.enc n0))),(1,.s (.sl 1 (p0.map (irow .i64)))),(4,.s .np),(5,nB false)] ⟨rfl,rfl,rfl,rfl,trivial⟩) ?_)
 rintro⟨⟨k,t,c,ks⟩,p⟩ hI;have hI:zBn (.mk k t c ks) p=y:=hI;refine zAa<|yEW ?_;refine zAx rfl (fun hb=>?_) (fun hb=>?_)
 ·refine zAe ?_;show Tri ..;match p,hI,hb with
  | [],_,hb=>cases hb
  | [_],_,hb=>cases hb
  | i::s::p,hI,hb =>
   refine zAj (Le.forget [(0,.s (.pt (Nd.enc (.mk k t c ks)))),(1,.s (.sl 1 ((i::s::p).map (irow .i64)))),(4,.s .np),(5,nB false)] ⟨rfl,rfl,rfl,rfl,trivial⟩)<|zAa<|zAk<|zAa ?_;refine zOA (by exact tokW) (by exact gok) (by exact mixed) [] [] [1,2,4,5] rfl (by decide +kernel) ?_;refine And.intro (show(0:Int)<=0/\(0:Int)<((((i::s::p).map (irow .i64)).length:Nat):Int) by simp only[ba,ah]; omega) ?_;refine And.intro (show(0:Int)<=1/\(1:Int)<((((i::s::p).map (irow .i64)).length:Nat):Int) by simp only[ba,ah]; omega) ?_;refine zAj (Le.forget [(0,pN k t c ks),(1,.s (.sl 1 ((i::s::p).map (irow .i64)))),(4,.s .np),(5,nB false),(6,nI i),(7,nI s)] ⟨rfl,rfl,rfl,rfl,rfl,rfl,trivial⟩)<|zAa<|zAa ?_;by_cases hi:i<0
   ·refine zAb [] [21] rfl ?_;intro b hb;obtain rfl:true=b:=(hb.trans (aP hi)).symm;refine zAx rfl (fun _=>?_) (fun h=>by cases h);refine yEW ?_;refine zAd ?_;obtain rfl:none=y:=(zHy (fun h=>by omega)).symm.trans hI;exact jY
   by_cases hi2:(ks.length:Int)<=i
   ·refine zAb [] [21,29] rfl ?_;intro b hb;obtain rfl:false=b:=(hb.trans (aW hi)).symm;intro b hb;obtain rfl:true=b:=(hb.trans (aP (show(((Nd.encs ks).length:Nat):Int)<=i by rw[zIU]; exact hi2))).symm;refine zAx rfl (fun _=>?_) (fun h=>by cases h);refine yEW ?_;refine zAd ?_;obtain rfl:none=y:=(zHy (n:=.mk k t c ks) (fun h=>by have:i<ks.length:=h.2; omega)).symm.trans hI;exact jY
   refine zAb [] [21,29] rfl ?_;intro b hb;obtain rfl:false=b:=(hb.trans (aW hi)).symm;intro b hb;obtain rfl:false=b:=(hb.trans (aW (show ¬ (((Nd.encs ks).length:Nat):Int)<=i by rw[zIU]; exact hi2))).symm;refine zAx rfl (fun h=>by cases h) (fun _=>?_);refine zAe ?_;show Tri ..;have hi0:i.toNat<ks.length :=(by omega);obtain⟨⟨k2,t2,c2,ks2⟩,hx⟩:∃ x,ks[i.toNat]? = some x:=⟨_,ac hi0⟩;refine zAj (Le.forget [(0,pN k t c ks),(1,.s (.sl 1 ((i::s::p).map (irow .i64)))),(4,.s .np),(5,nB false),(6,nI i),(7,nI s)] ⟨rfl,rfl,rfl,rfl,rfl,rfl,trivial⟩)<|yEW ?_;refine And.intro (show(0:Int)<=i/\i<(((Nd.encs ks).length:Nat):Int) by rw[zIU]; omega) ?_;show Tri ..;refine zAj (Le.forget [(0,pN k t c ks),(1,.s (.sl 1 ((i::s::p).map (irow .i64)))),(4,.s .np),(5,nB false),(6,nI i),(7,nI s),(8,pN k2 t2 c2 ks2)] ⟨rfl,rfl,rfl,rfl,rfl,rfl,congrArg (fun z=>AV.s (.pt z)) (zX0 hx),trivial⟩)<|zAa<|zAa ?_;by_cases hs:s<0
   ·refine zAb [] [38] rfl ?_;intro b hb;obtain rfl:true=b:=(hb.trans (aP hs)).symm;refine zAx rfl (fun _=>?_) (fun h=>by cases h);refine yEW ?_;refine zAd ?_;obtain rfl:none=y:=(zHz (n:=.mk k t c ks) (by omega) hx (fun h=>by omega)).symm.trans hI;exact jY
   by_cases hs2:(ks2.length:Int)<=s
   ·refine zAb [] [38,46] rfl ?_;intro b hb;obtain rfl:false=b:=(hb.trans (aW hs)).symm;intro b hb;obtain rfl:true=b:=(hb.trans (aP (show(((Nd.encs ks2).length:Nat):Int)<=s by rw[zIU]; exact hs2))).symm;refine zAx rfl (fun _=>?_) (fun h=>by cases h);refine yEW ?_;refine zAd ?_;obtain rfl:none=y:=(zHz (n:=.mk k t c ks) (by omega) hx (fun h=>by have:s<ks2.length:=h.2; omega)).symm.trans hI;exact jY
   refine zAb [] [38,46] rfl ?_;intro b hb;obtain rfl:false=b:=(hb.trans (aW hs)).symm;intro b hb;obtain rfl:false=b:=(hb.trans (aW (show ¬ (((Nd.encs ks2).length:Nat):Int)<=s by rw[zIU]; exact hs2))).symm;refine zAx rfl (fun h=>by cases h) (fun _=>?_);refine zAe ?_;show Tri ..;have hs0:s.toNat<ks2.length :=(by omega);obtain⟨z,hz⟩:∃ z,ks2[s.toNat]? = some z:=⟨_,ac hs0⟩;refine zAj (Le.forget [(0,pN k t c ks),(1,.s (.sl 1 ((i::s::p).map (irow .i64)))),(4,.s .np),(5,nB false),(6,nI i),(7,nI s),(8,pN k2 t2 c2 ks2)] ⟨rfl,rfl,rfl,rfl,rfl,rfl,rfl,trivial⟩)<|yEV ?_;refine And.intro (show(0:Int)<=s/\s<(((Nd.encs ks2).length:Nat):Int) by rw[zIU]; omega) ?_;show Tri ..;refine zAj (Le.forget [(0,.s (.pt (Nd.enc z))),(1,.s (.sl 1 ((i::s::p).map (irow .i64)))),(4,.s .np),(5,nB false)] ⟨congrArg (fun z=>AV.s (.pt z)) (zX0 hz),rfl,rfl,rfl,trivial⟩)<|yEV ?_;refine And.intro (show(0:Int)<=2/\(2:Int)<=((((i::s::p).map (irow .i64)).length:Nat):Int)/\_<=_ from⟨by decide,by simp only[ba,ah]; omega,Int.le_refl _⟩) ?_
   exact⟨(z,p),(zPz (n:=.mk k t c ks) (by omega) hx (by omega) hz).symm.trans hI,Le.forget [(0,.s (.pt (Nd.enc z))),(1,.s (.sl 1 (p.map (irow .i64)))),(4,.s .np),(5,nB false)] ⟨rfl,congrArg (fun z=>AV.s (.sl 1 z)) (by rw[au,take_length]; rfl),rfl,rfl,trivial⟩,by show p.length<p.length+1+1; omega⟩
 refine zAy<|zAa ?_;match p,hI,hb with
 | [],hI,_=>refine yEV ?_;refine zAd ?_;obtain rfl:some (.mk k t c ks)=y:=hI;unfold zBF;exact gX
 | [i],hI,_=>refine yEV ?_;refine zAd ?_;obtain rfl:none=y:=hI;exact jY
 | i::s::p,_,hb=>exact absurd (of_decide_eq_false hb) (by simp only[ba,ah]; omega)
def zFZ (n:Nat):Nd->(List Int)->Int->Option (Nd×Int)
| ⟨n1A,n1C,n1D,n1B⟩,path2,i3=>(zFv n (Nd.mk n1A n1C n1D n1B) path2).bind fun⟨⟨y4A,y4C,y4D,y4B⟩,y5⟩=>bif (y5 != 0) then (some (Nd.mk 0 [] 0 [],y5)) else ((bif decide (i3<0) then (some true) else (some (decide ((y4B.length:Int)<=i3))):Option (Bool)).bind fun x6=>bif x6 then (some (Nd.mk 0 [] 0 [],2)) else ((at? y4B i3).bind fun⟨e8A,e8C,e8D,e8B⟩=>some (Nd.mk e8A e8C e8D e8B,0)))
def zAN (slices1:List (List Nd)):Nat->Int->Int->Option (Int)
| 0,_,_=>none
| k+1,x3,size4=>bif decide (x3<(slices1.length:Int)) then ((at? slices1 x3).bind fun e6=>bif decide ((i64.wrap (size4+(e6.length:Int)))<0) then (none) else (zAN slices1 k (i64.wrap (x3+1)) (i64.wrap (size4+(e6.length:Int))))) else (some size4)
def zAO (slices1:List (List Nd)):Nat->Int->(List Nd)->Option ((List Nd))
| 0,_,_=>none
| k+1,x11,l13=>bif decide (x11<(slices1.length:Int)) then ((at? slices1 x11).bind fun e15=>req (l13.length+e15.length<=4294967296) <| zAO slices1 k (i64.wrap (x11+1)) (l13++e15)) else (some l13)
def zBJ (n:Nat):(List (List Nd))->Option (List Nd)
| slices1=>(zAN slices1 n 0 0).bind fun size5=>(zEi size5).bind fun y9=>(zAO slices1 n 0 y9).bind fun l14=>some l14
def zAR (n:Nat):(zO8×List Nd)->Int->(List Nd)->Option (List Nd)
| ⟨⟨c1Ap,c1Au,c1Aj,c1Aq,c1Am,c1An,c1At,c1As⟩,c1Ai⟩,n2,nodes3=>req (0<=(0:Int)/\(0:Int)<=c1Aj/\c1Aj<=(c1Ai.length:Int)) <| req (0<=(i64.wrap (c1Aj+n2))/\(i64.wrap (c1Aj+n2))<=(c1Ai.length:Int)/\(c1Ai.length:Int)<=(c1Ai.length:Int)) <| (zBJ n [(c1Ai.take c1Aj.toNat).drop (0:Int).toNat,nodes3,(c1Ai.take (c1Ai.length:Int).toNat).drop (i64.wrap (c1Aj+n2)).toNat]).bind fun y7=>some y7
def zBd (n:Nat):(zO8×List Nd)->Option ((List Nd)×Int)
| ⟨⟨c1Ap,c1Au,c1Aj,c1Aq,c1Am,c1An,c1At,c1As⟩,c1Ai⟩=>(at? c1Ai c1Aj).bind fun⟨e2A,e2C,e2D,e2B⟩=>(zCJ (Nd.mk e2A e2C e2D e2B)).bind fun⟨y4A,y4C,y4D,y4B⟩=>(zDu (Nd.mk y4A y4C y4D y4B)).bind fun y5=>bif decide (y5<=c1An) then (some ([],7)) else ((at? y4B c1An).bind fun⟨e6A,e6C,e6D,e6B⟩=>(at? y4B c1An).bind fun⟨e7A,e7C,e7D,e7B⟩=>(bif ((e6B.length:Int) != c1Aq) then (some true) else ((at? c1Am 0).bind fun⟨e11A,e11C,e11D,e11B⟩=>(zBY n (Nd.mk y4A y4C y4D (y4B.set c1An.toNat (Nd.mk e7A e7C e7D []))) (Nd.mk e11A e11C e11D e11B)).bind fun y13=>some (!y13))
   : Option (Bool)).bind fun x9=>bif x9 then (some ([],7)) else ((zAR n ((c1Ap,c1Au,c1Aj,c1Aq,c1Am,c1An,c1At,c1As),c1Ai) 1 e6B).bind fun y14=>some (y14,0)))
def zDm (n:Nat):(zO8×List Nd)->Option ((List Nd)×Int)
| ⟨⟨c1Ap,c1Au,c1Aj,c1Aq,c1Am,c1An,c1At,c1As⟩,c1Ai⟩=>(at? c1Am 0).bind fun⟨e2A,e2C,e2D,e2B⟩=>(zCJ (Nd.mk e2A e2C e2D e2B)).bind fun⟨y4A,y4C,y4D,y4B⟩=>req (0<=c1Aj/\c1Aj<=i64.wrap (c1Aj+c1Aq)/\i64.wrap (c1Aj+c1Aq)<=(c1Ai.length:Int)) <| (zDY ((c1Ai.take (i64.wrap (c1Aj+c1Aq)).toNat).drop c1Aj.toNat)).bind fun y6=>(at? y4B c1An).bind fun⟨e7A,e7C,e7D,e7B⟩=>(zAR n ((c1Ap,c1Au,c1Aj,c1Aq,c1Am,c1An,c1At,c1As),c1Ai) c1Aq [Nd.mk y4A y4C y4D (y4B.set c1An.toNat (Nd.mk e7A e7C e7D y6))]).bind fun y10=>some (y10,0)
def zCC (n:Nat):(zO8×List Nd)->Option ((List Nd)×Int)
| ⟨⟨c1Ap,c1Au,c1Aj,c1Aq,c1Am,c1An,c1At,c1As⟩,c1Ai⟩=>(zAR n ((c1Ap,c1Au,c1Aj,c1Aq,c1Am,c1An,c1At,c1As),c1Ai) 0 c1Am).bind fun y2=>some (y2,0)
def zCD (n:Nat):(zO8×List Nd)->Option ((List Nd)×Int)
| ⟨⟨c1Ap,c1Au,c1Aj,c1Aq,c1Am,c1An,c1At,c1As⟩,c1Ai⟩=>req (0<=c1Aj/\c1Aj<=i64.wrap (c1Aj+(c1Am.length:Int))/\i64.wrap (c1Aj+(c1Am.length:Int))<=(c1Ai.length:Int)) <| (zAP n ((c1Ai.take (i64.wrap (c1Aj+(c1Am.length:Int))).toNat).drop c1Aj.toNat) c1Am).bind fun y4=>bif (!y4) then (some ([],7)) else ((zAR n ((c1Ap,c1Au,c1Aj,c1Aq,c1Am,c1An,c1At,c1As),c1Ai) (c1Am.length:Int) []).bind fun y5=>some (y5,0))
def zDI (n:Nat):(zO8×List Nd)->Option ((List Nd)×Int)
| ⟨⟨c1Ap,c1Au,c1Aj,c1Aq,c1Am,c1An,c1At,c1As⟩,c1Ai⟩=>(at? c1Ai c1Aj).bind fun⟨e2A,e2C,e2D,e2B⟩=>((bif (e2A == 2) then (some (e2A == 2)) else (bif (e2A == 3) then (some (e2A == 3)) else (bif (e2A == 4) then (some (e2A == 4)) else (bif (e2A == 10) then (some (e2A == 10)) else (some (e2A == 11))))):Option (Bool)).bind fun x4=>bif x4 then (some (.go ())) else (some (.ret ([],7))):Option (Fl ((List Nd)×Int) Unit)).bind fun fl=>match fl with
 | .ret r=>some r
 | .go _=>bif (!(e2C == c1At)) then (some ([],7)) else ((zAR n ((c1Ap,c1Au,c1Aj,c1Aq,c1Am,c1An,c1At,c1As),c1Ai) 1 [Nd.mk e2A c1As e2D e2B]).bind fun y6=>some (y6,0))
def zBT:(zO8×List Nd)->Option Int
| ⟨⟨c1Ap,c1Au,c1Aj,c1Aq,c1Am,c1An,c1At,c1As⟩,c1Ai⟩=>(bif (c1Ap == 1) then (some 0) else (bif (c1Ap == 2) then (some (c1Am.length:Int)) else (bif (c1Ap == 3) then (some c1Aq) else (some 1))):Option (Int)).bind fun need2=>(bif decide (c1Aj<0) then (some true) else (bif decide ((c1Ai.length:Int)<c1Aj) then (some true) else (some (decide ((i64.wrap ((c1Ai.length:Int) - c1Aj))<need2)))):Option (Bool)).bind fun x4=>bif x4 then (some 2) else (some 0)
def zC9 (n:Nat):(List Nd)->Int->Option Bool
| l1,slot2=>(bif ((l1.length:Int) != 1) then (some true) else ((zB4 n l1).bind fun y5=>bif (!y5) then (some true) else (bif decide (slot2<0) then (some true) else ((at? l1 0).bind fun⟨e6A,e6C,e6D,e6B⟩=>(zDu (Nd.mk e6A e6C e6D e6B)).bind fun y8=>some (decide (y8<=slot2))))):Option (Bool)).bind fun x3=>bif x3 then (some false) else ((at? l1 0).bind fun⟨e9A,e9C,e9D,e9B⟩=>(at? e9B slot2).bind fun⟨e11A,e11C,e11D,e11B⟩=>some ((e11B.length:Int) == 0))
def zEG (n:Nat):zO8->Option Bool
| ⟨a1A,a1E,a1F,a1V,a1H,a1W,a1Ac,a1C⟩=>(bif (!(a1Ac == [])) then (some true) else (some (!(a1C == []))):Option (Bool)).bind fun x2=>((bif (a1A == 1) then (some (a1A == 1)) else (some (a1A == 2)):Option (Bool)).bind fun x3=>bif x3 then ((bif (a1V == 0) then (bif (a1W == 0) then (bif (!x2) then (bif decide (0<(a1H.length:Int)) then ((zB4 n a1H).bind fun y6=>some y6) else (some false)) else (some false)) else (some false)) else (some false):Option (Bool)).bind fun x4=>some (.ret x4)) else ((bif (a1A == 3) then (some (a1A == 3)) else (some (a1A == 4)):Option (Bool)).bind fun x7=>bif x7 then ((bif decide (0<=a1V) then (bif (!x2) then ((zC9 n a1H a1W).bind fun y9=>some y9) else (some false)) else (some false):Option (Bool)).bind fun x8=>some (.ret x8)
   ) else (bif (a1A == 5) then ((bif (a1V == 0) then (bif (a1W == 0) then (bif ((a1H.length:Int) == 0) then (some (!(a1Ac == a1C))) else (some false)) else (some false)) else (some false):Option (Bool)).bind fun x10=>some (.ret x10)) else (some (.go ())))):Option (Fl Bool Unit)).bind fun fl=>match fl with
 | .ret r=>some r
 | .go _=>some false
def zDt:(List Int)->Option (List Int)
| l1=>(zBC l1).bind fun y2=>some y2
def zBq (l1:List Nd):Nat->Int->(List Nd)->Option ((List Nd))
| 0,_,_=>none
| k+1,x4,l5=>bif decide (x4<(l1.length:Int)) then ((at? l1 x4).bind fun⟨e7A,e7C,e7D,e7B⟩=>(zAS (Nd.mk e7A e7C e7D e7B)).bind fun⟨y9A,y9C,y9D,y9B⟩=>req (l5.length + [Nd.mk y9A y9C y9D y9B].length<=4294967296) <| zBq l1 k (i64.wrap (x4+1)) (l5++[Nd.mk y9A y9C y9D y9B])) else (some l5)
def zFq (n:Nat):(List Nd)->Option (List Nd)
| l1=>(zBq l1 n 0 []).bind fun l6=>some l6
def zFr (n:Nat):zO8->Option zO8
| ⟨op1A,op1E,op1F,op1V,op1H,op1W,op1Ac,op1C⟩=>(zDt op1E).bind fun y2=>(zFq n op1H).bind fun y3=>some (op1A,y2,op1F,op1V,y3,op1W,op1Ac,op1C)
def zBe:(zO8×List Nd)->Option ((List Nd)×Int)
| ⟨⟨c1Ap,c1Au,c1Aj,c1Aq,c1Am,c1An,c1At,c1As⟩,c1Ai⟩=>(at? c1Ai c1Aj).bind fun⟨e2A,e2C,e2D,e2B⟩=>(zAS (Nd.mk e2A e2C e2D e2B)).bind fun⟨y4A,y4C,y4D,y4B⟩=>(zDu (Nd.mk y4A y4C y4D y4B)).bind fun y5=>bif decide (y5<=c1An) then (some ([],7)) else (none)
def zA9 (n:Nat) (c:zO8×List Nd):Option (List Nd×Int) :=
 match zBe c with
 | some r=>some r
 | none=>zBd n c
def zB8 (n:Nat):(zO8×List Nd)->Option ((List Nd)×Int)
| ⟨⟨c1Ap,c1Au,c1Aj,c1Aq,c1Am,c1An,c1At,c1As⟩,c1Ai⟩=>(zBT ((c1Ap,c1Au,c1Aj,c1Aq,c1Am,c1An,c1At,c1As),c1Ai)).bind fun y2=>bif (y2 != 0) then (some ([],y2)) else (bif (c1Ap == 1) then ((zCC n ((c1Ap,c1Au,c1Aj,c1Aq,c1Am,c1An,c1At,c1As),c1Ai)).bind fun⟨y3,y4⟩=>some (y3,y4)) else (bif (c1Ap == 2) then ((zCD n ((c1Ap,c1Au,c1Aj,c1Aq,c1Am,c1An,c1At,c1As),c1Ai)).bind fun⟨y5,y6⟩=>some (y5,y6)) else (bif (c1Ap == 3) then ((zDm n ((c1Ap,c1Au,c1Aj,c1Aq,c1Am,c1An,c1At,c1As),c1Ai)).bind fun⟨y7,y8⟩=>some (y7,y8)) else (
     bif (c1Ap == 4) then ((zA9 n ((c1Ap,c1Au,c1Aj,c1Aq,c1Am,c1An,c1At,c1As),c1Ai)).bind fun⟨y9,y10⟩=>some (y9,y10)) else ((zDI n ((c1Ap,c1Au,c1Aj,c1Aq,c1Am,c1An,c1At,c1As),c1Ai)).bind fun⟨y11,y12⟩=>some (y11,y12))))))
def zEr (n:Nat):Nd->zO8->Option (Nd×Int)
| ⟨n1A,n1C,n1D,n1B⟩,⟨op2A,op2E,op2F,op2V,op2H,op2W,op2Ac,op2C⟩=>(zAZ n (Nd.mk n1A n1C n1D n1B)).bind fun y3=>bif (!y3) then (some (Nd.mk 0 [] 0 [],1)) else ((zEG n (op2A,op2E,op2F,op2V,op2H,op2W,op2Ac,op2C)).bind fun y4=>bif (!y4) then (some (Nd.mk 0 [] 0 [],4)) else ((zHg n (Nd.mk n1A n1C n1D n1B) op2E).bind fun⟨⟨y5A,y5C,y5D,y5B⟩,y6⟩=>bif (y6 != 0) then (some (Nd.mk 0 [] 0 [],y6)) else ((zB8 n ((op2A,op2E,op2F,op2V,op2H,op2W,op2Ac,op2C),y5B)).bind fun⟨y7,y8⟩=>bif (y8 != 0) then (some (Nd.mk 0 [] 0 [],y8)) else (
     (zE4 n (Nd.mk n1A n1C n1D n1B) op2E (Nd.mk y5A y5C y5D y7)).bind fun⟨⟨y9A,y9C,y9D,y9B⟩,y10⟩=>bif (y10 != 0) then (some (Nd.mk 0 [] 0 [],6)) else (some (Nd.mk y9A y9C y9D y9B,0))))))
def zA0 (n:Nat) (ops2:List zO8):Nat->Int->(List UInt8)->Int->(List Nd)->Int->Option (Fl (Nd×Int×Int) (Int×(List UInt8)×Int×(List Nd)))
| 0,_,_,_,_,_=>none
| k+1,x7,x8,x9,x10,x11=>bif decide (x11<(ops2.length:Int)) then ((at? ops2 x11).bind fun⟨e16A,e16E,e16F,e16V,e16H,e16W,e16Ac,e16C⟩=>(zEr n (Nd.mk x7 x8 x9 x10) (e16A,e16E,e16F,e16V,e16H,e16W,e16Ac,e16C)).bind fun⟨⟨y18A,y18C,y18D,y18B⟩,y19⟩=>bif (y19 != 0) then (some (.ret (Nd.mk 0 [] 0 [],x11,y19))) else (zA0 n ops2 k y18A y18C y18D y18B (i64.wrap (x11+1)))) else (some (.go (x7,x8,x9,x10)))
def zA4 (n:Nat):Nd->(List zO8)->Option (Nd×Int×Int)
| ⟨n1A,n1C,n1D,n1B⟩,ops2=>(zAZ n (Nd.mk n1A n1C n1D n1B)).bind fun y3=>bif (!y3) then (some (Nd.mk 0 [] 0 [],0,1)) else ((zAS (Nd.mk n1A n1C n1D n1B)).bind fun⟨y4A,y4C,y4D,y4B⟩=>(zA0 n ops2 n y4A y4C y4D y4B 0).bind fun fl=>match fl with
  | .ret r=>some r
  | .go ⟨x12,x13,x14,x15⟩=>some (Nd.mk x12 x13 x14 x15,0,0))
def zBW (n:Nat):zO8->Option zO8
| ⟨op1A,op1E,op1F,op1V,op1H,op1W,op1Ac,op1C⟩=>(zFr n (op1A,op1E,op1F,op1V,op1H,op1W,op1Ac,op1C)).bind fun⟨y2A,y2E,y2F,y2V,y2H,y2W,y2Ac,y2C⟩=>(bif (op1A == 1) then (some (2,y2Ac,y2C)) else (bif (op1A == 2) then (some (1,y2Ac,y2C)) else (bif (op1A == 3) then (some (4,y2Ac,y2C)) else (bif (op1A == 4) then (some (3,y2Ac,y2C)) else (bif (op1A == 5) then (some (y2A,op1C,op1Ac)) else (some (y2A,y2Ac,y2C)))))):Option (Int×(List UInt8)×(List UInt8))).bind fun⟨x3,x4,x5⟩=>some (x3,y2E,y2F,y2V,y2H,y2W,x4,x5)
def zAI (n:Nat) (ops:List zO8):Nat->Option (List zO8)
| 0=>some []
| i+1=>(zAI n ops i).bind fun acc=>(ops[ops.length - 1 - i]?).bind fun o=>(zBW n o).bind fun y=>req (acc.length+1<=4294967296) <| some (acc++[y])
def zCh (n:Nat):(List zO8)->Option (List zO8)
| ops2=>req (ops2.length<=4294967296) <| zAI n ops2 ops2.length
def zNU:List Int->List Int->Option (List Int)
| p,q=>req (p.length+q.length<=4294967296) <| some (p++q)
def zFQ:Option Bool:=some true
def zEH (n:Nat):Nd->Option ((Option (Nd×Nd×List zRc×Int))×Int)
| ⟨n1A,n1C,n1D,n1B⟩=>(zAZ n (Nd.mk n1A n1C n1D n1B)).bind fun y2=>bif (!y2) then (some (none,1)) else ((zAS (Nd.mk n1A n1C n1D n1B)).bind fun⟨y3A,y3C,y3D,y3B⟩=>(zAS (Nd.mk n1A n1C n1D n1B)).bind fun⟨y4A,y4C,y4D,y4B⟩=>some (some (Nd.mk y3A y3C y3D y3B,Nd.mk y4A y4C y4D y4B,[],0),0))
def zCZ (n:Nat) (l1:List zO8):Nat->Int->(List zO8)->Option ((List zO8))
| 0,_,_=>none
| k+1,x4,l5=>bif decide (x4<(l1.length:Int)) then ((at? l1 x4).bind fun⟨e7A,e7E,e7F,e7V,e7H,e7W,e7Ac,e7C⟩=>(zFr n (e7A,e7E,e7F,e7V,e7H,e7W,e7Ac,e7C)).bind fun⟨y9A,y9E,y9F,y9V,y9H,y9W,y9Ac,y9C⟩=>req (l5.length + [(y9A,y9E,y9F,y9V,y9H,y9W,y9Ac,y9C)].length<=4294967296) <| zCZ n l1 k (i64.wrap (x4+1)) (l5++[(y9A,y9E,y9F,y9V,y9H,y9W,y9Ac,y9C)])) else (some l5)
def zIY (n:Nat):(List zO8)->Option (List zO8)
| l1=>(zCZ n l1 n 0 []).bind fun l6=>some l6
def zBG:zCu->Option zCu
| ⟨c1G,c1S⟩=>(zDt c1G).bind fun y2=>(zDt c1S).bind fun y3=>some (y2,y3)
def zC0 (n:Nat):zRc->Option zRc
| ⟨r1X,⟨r1Y,r1Z⟩,⟨r1Aa,r1Ab⟩⟩=>(zIY n r1X).bind fun y2=>(zBG (r1Y,r1Z)).bind fun⟨y3G,y3S⟩=>(zBG (r1Aa,r1Ab)).bind fun⟨y4G,y4S⟩=>some (y2,(y3G,y3S),(y4G,y4S))
def zBa (n:Nat):(Nd×Nd×List zRc×Int)->zRc->Option (Int×(Nd×Nd×List zRc×Int))
| ⟨⟨o1K,o1L,o1M,o1N⟩,⟨o1O,o1P,o1Q,o1R⟩,o1J,o1I⟩,⟨r2X,⟨r2Y,r2Z⟩,⟨r2Aa,r2Ab⟩⟩=>(zA4 n (Nd.mk o1O o1P o1Q o1R) r2X).bind fun⟨⟨y3A,y3C,y3D,y3B⟩,y4,y5⟩=>bif (y5 != 0) then (some (y5,(Nd.mk o1K o1L o1M o1N,Nd.mk o1O o1P o1Q o1R,o1J,o1I))) else (bif decide (1000<=o1I) then (some (6,(Nd.mk o1K o1L o1M o1N,Nd.mk o1O o1P o1Q o1R,o1J,o1I))) else (req (0<=o1I/\o1I<=(o1J.length:Int)) <|
   (zC0 n (r2X,(r2Y,r2Z),(r2Aa,r2Ab))).bind fun⟨y6X,⟨y6Y,y6Z⟩,⟨y6Aa,y6Ab⟩⟩=>req ((o1J.take o1I.toNat).length + [(y6X,(y6Y,y6Z),(y6Aa,y6Ab))].length<=4294967296) <| some (0,(Nd.mk o1K o1L o1M o1N,Nd.mk y3A y3C y3D y3B,(o1J.take o1I.toNat)++[(y6X,(y6Y,y6Z),(y6Aa,y6Ab))],i64.wrap (o1I+1)))))
def zAB:(Nd×Nd×List zRc×Int)->Option (Nd×(Nd×Nd×List zRc×Int))
| ⟨⟨o1K,o1L,o1M,o1N⟩,⟨o1O,o1P,o1Q,o1R⟩,o1J,o1I⟩=>(zAS (Nd.mk o1O o1P o1Q o1R)).bind fun⟨y2A,y2C,y2D,y2B⟩=>some (Nd.mk y2A y2C y2D y2B,(Nd.mk o1K o1L o1M o1N,Nd.mk o1O o1P o1Q o1R,o1J,o1I))
def zBz (n:Nat):(Nd×Nd×List zRc×Int)->Option (zCu×Int×(Nd×Nd×List zRc×Int))
| ⟨⟨o1K,o1L,o1M,o1N⟩,⟨o1O,o1P,o1Q,o1R⟩,o1J,o1I⟩=>bif (o1I == 0) then (some (([],[]),8,(Nd.mk o1K o1L o1M o1N,Nd.mk o1O o1P o1Q o1R,o1J,o1I))) else ((at? o1J (i64.wrap (o1I - 1))).bind fun⟨e2X,⟨e2Y,e2Z⟩,⟨e2Aa,e2Ab⟩⟩=>(zCh n e2X).bind fun y3=>(zA4 n (Nd.mk o1O o1P o1Q o1R) y3).bind fun⟨⟨y4A,y4C,y4D,y4B⟩,y5,y6⟩=>bif (y6 != 0) then (some (([],[]),y6,(Nd.mk o1K o1L o1M o1N,Nd.mk o1O o1P o1Q o1R,o1J,o1I))) else (
   (zBG (e2Y,e2Z)).bind fun⟨y7G,y7S⟩=>some ((y7G,y7S),0,(Nd.mk o1K o1L o1M o1N,Nd.mk y4A y4C y4D y4B,o1J,i64.wrap (o1I - 1)))))
def zA3 (n:Nat) (o1:List zRc):Nat->Int->(List zRc)->Option ((List zRc))
| 0,_,_=>none
| k+1,x4,l5=>bif decide (x4<(o1.length:Int)) then ((at? o1 x4).bind fun⟨e7X,⟨e7Y,e7Z⟩,⟨e7Aa,e7Ab⟩⟩=>(zC0 n (e7X,(e7Y,e7Z),(e7Aa,e7Ab))).bind fun⟨y8X,⟨y8Y,y8Z⟩,⟨y8Aa,y8Ab⟩⟩=>req (l5.length + [(y8X,(y8Y,y8Z),(y8Aa,y8Ab))].length<=4294967296) <| zA3 n o1 k (i64.wrap (x4+1)) (l5++[(y8X,(y8Y,y8Z),(y8Aa,y8Ab))])) else (some l5)
def zDl (n:Nat):(List zRc)->Option (List zRc)
| o1=>(zA3 n o1 n 0 []).bind fun l6=>some l6
def zBf (n:Nat):(Nd×Nd×List zRc×Int)->Option ((List zRc)×(Nd×Nd×List zRc×Int))
| ⟨⟨o1K,o1L,o1M,o1N⟩,⟨o1O,o1P,o1Q,o1R⟩,o1J,o1I⟩=>(zDl n o1J).bind fun y2=>some (y2,(Nd.mk o1K o1L o1M o1N,Nd.mk o1O o1P o1Q o1R,o1J,o1I))
def zIv (n:Nat):(Int×List Nd×Int×List UInt8×Bool)->Option Bool
| ⟨x1A,x1Ai,x1W,x1C,x1Ba⟩=>((zAU x1Ai).bind fun⟨y3A,y3C,y3D,y3B⟩=>(zGl n (Nd.mk y3A y3C y3D y3B) 100).bind fun y4=>bif y4 then (some (decide ((x1C.length:Int)<=300))) else (some false):Option (Bool)).bind fun x2=>some x2
def zDB (F_r10_all:Nd->(List Int)->Option (List (List Int))) (row1B:List Nd) (path2:List Int) (i4:Int):Nat->Int->(List (List Int))->Option ((List (List Int)))
| 0,_,_=>none
| k+1,k13,l14=>(at? row1B i4).bind fun⟨e16A,e16C,e16D,e16B⟩=>bif decide (k13<(e16B.length:Int)) then ((at? row1B i4).bind fun⟨e19A,e19C,e19D,e19B⟩=>(at? e19B k13).bind fun⟨e21A,e21C,e21D,e21B⟩=>req (([]:List Int).length+path2.length<=4294967296) <| req (path2.length + [i4,k13].length<=4294967296) <| (F_r10_all (Nd.mk e21A e21C e21D e21B) (path2++[i4,k13])).bind fun y24=>req (l14.length+y24.length<=4294967296) <| zDB F_r10_all row1B path2 i4 k (i64.wrap (k13+1)) (l14++y24)) else (some l14)
def zDA (F_r10_all:Nd->(List Int)->Option (List (List Int))) (n:Nat) (row1B:List Nd) (path2:List Int):Nat->Int->(List (List Int))->Option ((List (List Int)))
| 0,_,_=>none
| k+1,i4,l5=>bif decide (i4<=(row1B.length:Int)) then ((zNU path2 [i4]).bind fun y9=>req (l5.length + [y9].length<=4294967296) <| bif (i4 == (row1B.length:Int)) then (some (l5++[y9])) else ((zDB F_r10_all row1B path2 i4 n 0 (l5++[y9])).bind fun l15=>zDA F_r10_all n row1B path2 k (i64.wrap (i4+1)) l15)) else (some l5)
def zDz:Nat->Nd->(List Int)->Option (List (List Int))
| 0,_,_=>none
| n+1,⟨row1A,row1C,row1D,row1B⟩,path2=>(zDA (zDz n) n row1B path2 n 0 []).bind fun l6=>some l6
def zGm (n:Nat):Nd->Option ((List (List Int))×Int)
| ⟨n1A,n1C,n1D,n1B⟩=>(zAM n (Nd.mk n1A n1C n1D n1B)).bind fun y2=>bif (!y2) then (some ([],1)) else ((zDz n (Nd.mk n1A n1C n1D n1B) []).bind fun y3=>some (y3,0))
def zBQ (a1:List Int) (b2:List Int):Nat->Int->Option (Fl Int Unit)
| 0,_=>none
| k+1,i3=>(bif decide (i3<(a1.length:Int)) then (some (decide (i3<(b2.length:Int)))) else (some false):Option (Bool)).bind fun x4=>bif x4 then ((at? a1 i3).bind fun e7=>(at? b2 i3).bind fun e9=>bif decide (e7<e9) then (some (.ret (-1))) else ((at? a1 i3).bind fun e11=>(at? b2 i3).bind fun e13=>bif decide (e13<e11) then (some (.ret 1)) else (zBQ a1 b2 k (i64.wrap (i3+1))))) else (some (.go ()))
def zDP (n:Nat):(List Int)->(List Int)->Option Int
| a1,b2=>(zBQ a1 b2 n 0).bind fun fl=>match fl with
 | .ret r=>some r
 | .go _=>bif decide ((a1.length:Int)<(b2.length:Int)) then (some (-1)) else (bif decide ((b2.length:Int)<(a1.length:Int)) then (some 1) else (some 0))
def zCy (n:Nat) (pos2:List Int) (y3:List (List Int)):Nat->Int->Option (Fl (Int×Int) Unit)
| 0,_=>none
| k+1,i5=>bif decide (i5<(y3.length:Int)) then ((at? y3 i5).bind fun e7=>(zDP n e7 pos2).bind fun y9=>bif (y9 == 0) then (some (.ret (i5,0))) else (zCy n pos2 y3 k (i64.wrap (i5+1)))) else (some (.go ()))
def zEf (n:Nat):Nd->(List Int)->Option (Int×Int)
| ⟨n1A,n1C,n1D,n1B⟩,pos2=>(zGm n (Nd.mk n1A n1C n1D n1B)).bind fun⟨y3,y4⟩=>bif (y4 != 0) then (some (0,y4)) else ((zCy n pos2 y3 n 0).bind fun fl=>match fl with
  | .ret r=>some r
  | .go _=>some (0,2))
def zE6 (n:Nat):Nd->(List Int)->Option Bool
| ⟨n1A,n1C,n1D,n1B⟩,pos2=>(zEf n (Nd.mk n1A n1C n1D n1B) pos2).bind fun⟨y3,y4⟩=>some (y4 == 0)
def zF1:(List Int)->Int->Option (Int×Int)
| pos1,k2=>bif ((pos1.length:Int) == (i64.wrap (k2+1))) then ((at? pos1 k2).bind fun e4=>(at? pos1 k2).bind fun e6=>some (e4,e6)) else ((at? pos1 k2).bind fun e8=>(at? pos1 k2).bind fun e10=>some (e8,i64.wrap (e10+1)))
def zBR (a2:List Int) (a3:List Int):Nat->Int->Option (Int)
| 0,_=>none
| k+1,x8=>(bif decide ((i64.wrap (x8+2))<(a2.length:Int)) then (bif decide ((i64.wrap (x8+2))<(a3.length:Int)) then ((at? a2 x8).bind fun e13=>(at? a3 x8).bind fun e15=>bif (e13 == e15) then ((at? a2 (i64.wrap (x8+1))).bind fun e17=>(at? a3 (i64.wrap (x8+1))).bind fun e19=>some (e17 == e19)) else (some false)) else (some false)) else (some false):Option (Bool)).bind fun x10=>bif x10 then (zBR a2 a3 k (i64.wrap (x8+2))) else (some x8)
def zCp (n:Nat):Nd->(List Int)->(List Int)->Option ((List Int×Int×Int)×Int)
| ⟨a1A,a1C,a1D,a1B⟩,a2,a3=>(zAM n (Nd.mk a1A a1C a1D a1B)).bind fun y4=>bif (!y4) then (some (([],0,0),1)) else (((zE6 n (Nd.mk a1A a1C a1D a1B) a2).bind fun y6=>bif (!y6) then (some true) else ((zE6 n (Nd.mk a1A a1C a1D a1B) a3).bind fun y7=>some (!y7)):Option (Bool)).bind fun x5=>bif x5 then (some (([],0,0),2)) else ((zBR a2 a3 n 0).bind fun x9=>(zF1 a2 x9).bind fun⟨y21,y22⟩=>(zF1 a3 x9).bind fun⟨y23,y24⟩=>req (0<=(0:Int)/\(0:Int)<=x9/\x9<=(a2.length:Int)) <| req (([]:List Int).length+((a2.take x9.toNat).drop (0:Int).toNat).length<=4294967296) <| some (((a2.take x9.toNat).drop (0:Int).toNat,(if y23<y21 then y23 else y21),(if y22<y24 then y24 else y22)),0)))
def zKN (n:Nat):Nd->zCu->Option ((List Int×Int×Int)×Int)
| ⟨n1A,n1C,n1D,n1B⟩,⟨c2G,c2S⟩=>bif ((c2S.length:Int) == 0) then ((zCp n (Nd.mk n1A n1C n1D n1B) c2G c2G).bind fun⟨⟨y4E,y4Ad,y4Ah⟩,y5⟩=>some ((y4E,y4Ad,y4Ah),y5)) else ((zCp n (Nd.mk n1A n1C n1D n1B) c2G c2S).bind fun⟨⟨y6E,y6Ad,y6Ah⟩,y7⟩=>some ((y6E,y6Ad,y6Ah),y7))
def zCc (n:Nat):Nd->zCu->Option ((List Int×Int×Int)×Int)
| ⟨n1A,n1C,n1D,n1B⟩,⟨c2G,c2S⟩=>(zKN n (Nd.mk n1A n1C n1D n1B) (c2G,c2S)).bind fun⟨⟨y3E,y3Ad,y3Ah⟩,y4⟩=>some ((y3E,y3Ad,y3Ah),y4)
def zE7 (n:Nat):Nd->(List Int×Int×Int)->Option ((List Nd)×Int)
| ⟨n1A,n1C,n1D,n1B⟩,⟨r2E,r2Ad,r2Ah⟩=>(zFv n (Nd.mk n1A n1C n1D n1B) r2E).bind fun⟨⟨y3A,y3C,y3D,y3B⟩,y4⟩=>bif (y4 != 0) then (some ([],y4)) else ((bif decide (r2Ad<0) then (some true) else (bif decide (r2Ah<r2Ad) then (some true) else (some (decide ((y3B.length:Int)<r2Ah)))):Option (Bool)).bind fun x5=>bif x5 then (some ([],2)) else (req (0<=r2Ad/\r2Ad<=r2Ah/\r2Ah<=(y3B.length:Int)) <| req (([]:List Nd).length+((y3B.take r2Ah.toNat).drop r2Ad.toNat).length<=4294967296) <| some ((y3B.take r2Ah.toNat).drop r2Ad.toNat,0)))
def zGo (n:Nat):Nd->(List Int×Int×Int)->Option (List zO8)
| ⟨n1A,n1C,n1D,n1B⟩,⟨r2E,r2Ad,r2Ah⟩=>(zE7 n (Nd.mk n1A n1C n1D n1B) (r2E,r2Ad,r2Ah)).bind fun⟨y3,y4⟩=>bif ((y3.length:Int) == 0) then (some []) else (some [(2,r2E,r2Ad,0,y3,0,[],[])])
def zDQ:(List Int)->(List Int)->Option (List Int)
| path1,more2=>req (([]:List Int).length+path1.length<=4294967296) <| req (path1.length+more2.length<=4294967296) <| some (path1++more2)
def zBl (n:Nat):Nd->zCu->(List zO8)->(List Int)->Option (zRc×Int)
| ⟨n1A,n1C,n1D,n1B⟩,⟨c2G,c2S⟩,ops3,pos4=>(zDe n (Nd.mk n1A n1C n1D n1B) ops3).bind fun⟨⟨y5A,y5C,y5D,y5B⟩,y6,y7⟩=>bif (y7 != 0) then (some (([],([],[]),([],[])),6)) else (some ((ops3,(c2G,c2S),(pos4,[])),0))
def zCQ (n:Nat):Nd->zCu->(List Nd)->Option (zRc×Int)
| ⟨n1A,n1C,n1D,n1B⟩,⟨c2G,c2S⟩,items3=>((zAM n (Nd.mk n1A n1C n1D n1B)).bind fun y5=>bif (!y5) then (some true) else ((zBP n items3).bind fun y6=>some (!y6)):Option (Bool)).bind fun x4=>bif x4 then (some (([],([],[]),([],[])),1)) else ((zCc n (Nd.mk n1A n1C n1D n1B) (c2G,c2S)).bind fun⟨⟨y7E,y7Ad,y7Ah⟩,y8⟩=>bif (y8 != 0) then (some (([],([],[]),([],[])),y8)) else ((zGo n (Nd.mk n1A n1C n1D n1B) (y7E,y7Ad,y7Ah)).bind fun y9=>(bif decide (0<(items3.length:Int)) then (req (y9.length+([(1,y7E,y7Ad,0,items3,0,[],[])]:List zO8).length<=4294967296) <| some (y9++[(1,y7E,y7Ad,0,items3,0,[],[])])) else (some y9)
    : Option ((List zO8))).bind fun l11=>(zDQ y7E [i64.wrap (y7Ad+(items3.length:Int))]).bind fun y15=>(zBl n (Nd.mk n1A n1C n1D n1B) (c2G,c2S) l11 y15).bind fun⟨⟨y16X,⟨y16Y,y16Z⟩,⟨y16Aa,y16Ab⟩⟩,y17⟩=>some ((y16X,(y16Y,y16Z),(y16Aa,y16Ab)),y17)))
def zGn:(List Int×Int×Int)->Option (List Int)
| ⟨r1E,r1Ad,r1Ah⟩=>req (([]:List Int).length+r1E.length<=4294967296) <| req (r1E.length + [r1Ad].length<=4294967296) <| some (r1E++[r1Ad])
def zBS (n1B:List Nd) (but2:Int):Nat->Int->Option (Fl Bool Unit)
| 0,_=>none
| k+1,i3=>bif decide (i3<(n1B.length:Int)) then ((bif (i3 != but2) then ((at? n1B i3).bind fun⟨e6A,e6C,e6D,e6B⟩=>some (decide (0<(e6B.length:Int)))) else (some false):Option (Bool)).bind fun x5=>bif x5 then (some (.ret true)) else (zBS n1B but2 k (i64.wrap (i3+1)))) else (some (.go ()))
def zDR (n:Nat):Nd->Int->Option Bool
| ⟨n1A,n1C,n1D,n1B⟩,but2=>(zBS n1B but2 n 0).bind fun fl=>match fl with
 | .ret r=>some r
 | .go _=>some false
def zB1 (n:Nat):Nd->(List Int)->Option ((List Int×Int×Int×Nd)×Bool)
| ⟨n1A,n1C,n1D,n1B⟩,pos2=>bif decide ((pos2.length:Int)<3) then (some (([],0,0,Nd.mk 0 [] 0 []),false)) else (req (0<=(0:Int)/\(0:Int)<=i64.wrap ((pos2.length:Int) - 3)/\i64.wrap ((pos2.length:Int) - 3)<=(pos2.length:Int)) <| (at? pos2 (i64.wrap ((pos2.length:Int) - 3))).bind fun e5=>(zFZ n (Nd.mk n1A n1C n1D n1B) ((pos2.take (i64.wrap ((pos2.length:Int) - 3)).toNat).drop (0:Int).toNat) e5).bind fun⟨⟨y7A,y7C,y7D,y7B⟩,y8⟩=>req (0<=(0:Int)/\(0:Int)<=i64.wrap ((pos2.length:Int) - 3)/\i64.wrap ((pos2.length:Int) - 3)<=(pos2.length:Int)) <| (at? pos2 (i64.wrap ((pos2.length:Int) - 3))).bind fun e10=>(at? pos2 (i64.wrap ((pos2.length:Int) - 2))).bind fun e12 =>
  some (((pos2.take (i64.wrap ((pos2.length:Int) - 3)).toNat).drop (0:Int).toNat,e10,e12,Nd.mk y7A y7C y7D y7B),true))
def zEv:(List Int×Int×Int×Nd)->Option zO8
| ⟨x1E,x1F,x1Ak,⟨x1Ao,x1Ar,x1Ag,x1Al⟩⟩=>(at? x1Al x1Ak).bind fun⟨e2A,e2C,e2D,e2B⟩=>(zAU []).bind fun⟨y5A,y5C,y5D,y5B⟩=>(zBg (Nd.mk x1Ao x1Ar x1Ag x1Al) x1Ak (Nd.mk y5A y5C y5D y5B)).bind fun⟨y6A,y6C,y6D,y6B⟩=>some (4,x1E,x1F,(e2B.length:Int),[Nd.mk y6A y6C y6D y6B],x1Ak,[],[])
def zKM (n:Nat):Nd->Int->Option ((List Int)×Int)
| ⟨n1A,n1C,n1D,n1B⟩,i2=>(zGm n (Nd.mk n1A n1C n1D n1B)).bind fun⟨y3,y4⟩=>bif (y4 != 0) then (some ([],y4)) else ((bif decide (i2<0) then (some true) else (some (decide ((y3.length:Int)<=i2))):Option (Bool)).bind fun x5=>bif x5 then (some ([],2)) else ((at? y3 i2).bind fun e7=>some (e7,0)))
def zE5 (n:Nat):Nd->(List Int)->Int->Option ((List Int)×Int)
| ⟨n1A,n1C,n1D,n1B⟩,pos2,by3=>(zEf n (Nd.mk n1A n1C n1D n1B) pos2).bind fun⟨y4,y5⟩=>bif (y5 != 0) then (some ([],y5)) else ((zKM n (Nd.mk n1A n1C n1D n1B) (i64.wrap (y4+by3))).bind fun⟨y6,y7⟩=>bif (y7 != 0) then (some ([],8)) else (some (y6,0)))
def zE8 (n:Nat):Nd->zCu->Bool->Option (zRc×Int)
| ⟨a1A,a1C,a1D,a1B⟩,⟨a2G,a2S⟩,a3=>(zCc n (Nd.mk a1A a1C a1D a1B) (a2G,a2S)).bind fun⟨⟨y4E,y4Ad,y4Ah⟩,y5⟩=>bif (y5 != 0) then (some (([],([],[]),([],[])),y5)) else (bif decide (y4Ad<y4Ah) then ((zGo n (Nd.mk a1A a1C a1D a1B) (y4E,y4Ad,y4Ah)).bind fun y6=>(zGn (y4E,y4Ad,y4Ah)).bind fun y7=>(zBl n (Nd.mk a1A a1C a1D a1B) (a2G,a2S) y6 y7).bind fun⟨⟨y8X,⟨y8Y,y8Z⟩,⟨y8Aa,y8Ab⟩⟩,y9⟩=>some ((y8X,(y8Y,y8Z),(y8Aa,y8Ab)),y9)) else (req (0<=(0:Int)/\(0:Int)<=i64.wrap ((a2G.length:Int) - 1)/\i64.wrap ((a2G.length:Int) - 1)<=(a2G.length:Int)) <|
   (at? a2G (i64.wrap ((a2G.length:Int) - 1))).bind fun e13=>(zFv n (Nd.mk a1A a1C a1D a1B) ((a2G.take (i64.wrap ((a2G.length:Int) - 1)).toNat).drop (0:Int).toNat)).bind fun⟨⟨y15A,y15C,y15D,y15B⟩,y16⟩=>(bif a3 then (some (i64.wrap (e13 - 1),-1)) else (some (e13,1)):Option (Int×Int)).bind fun⟨x17,x18⟩=>(bif decide (0<=x17) then (some (decide (x17<(y15B.length:Int)))) else (some false):Option (Bool)).bind fun x19=>(bif x19 then ((at? y15B x17).bind fun⟨e21A,e21C,e21D,e21B⟩=>(zDR n (Nd.mk e21A e21C e21D e21B) (-1)).bind fun y23=>bif (!y23) then ((at? y15B x17).bind fun⟨e24A,e24C,e24D,e24B⟩ =>
      (zDQ ((a2G.take (i64.wrap ((a2G.length:Int) - 1)).toNat).drop (0:Int).toNat) [x17]).bind fun y29=>(zBl n (Nd.mk a1A a1C a1D a1B) (a2G,a2S) [(2,(a2G.take (i64.wrap ((a2G.length:Int) - 1)).toNat).drop (0:Int).toNat,x17,0,[Nd.mk e24A e24C e24D e24B],0,[],[])] y29).bind fun⟨⟨y30X,⟨y30Y,y30Z⟩,⟨y30Aa,y30Ab⟩⟩,y31⟩=>some (.ret ((y30X,(y30Y,y30Z),(y30Aa,y30Ab)),y31))) else (some (.go ()))) else ((zB1 n (Nd.mk a1A a1C a1D a1B) a2G).bind fun⟨⟨y32E,y32F,y32Ak,⟨y32Ao,y32Ar,y32Ag,y32Al⟩⟩,y33⟩=>(bif y33 then ((zDR n (Nd.mk y32Ao y32Ar y32Ag y32Al) y32Ak).bind fun y35=>some (!y35)
      ) else (some false):Option (Bool)).bind fun x34=>bif x34 then ((zEv (y32E,y32F,y32Ak,Nd.mk y32Ao y32Ar y32Ag y32Al)).bind fun⟨y36A,y36E,y36F,y36V,y36H,y36W,y36Ac,y36C⟩=>bif a3 then ((zDQ y32E [y32F]).bind fun y39=>(zBl n (Nd.mk a1A a1C a1D a1B) (a2G,a2S) [(y36A,y36E,y36F,y36V,y36H,y36W,y36Ac,y36C)] y39).bind fun⟨⟨y40X,⟨y40Y,y40Z⟩,⟨y40Aa,y40Ab⟩⟩,y41⟩=>some (.ret ((y40X,(y40Y,y40Z),(y40Aa,y40Ab)),y41))) else ((zDQ y32E [i64.wrap (y32F+y36V)]).bind fun y44 =>
       (zBl n (Nd.mk a1A a1C a1D a1B) (a2G,a2S) [(y36A,y36E,y36F,y36V,y36H,y36W,y36Ac,y36C)] y44).bind fun⟨⟨y45X,⟨y45Y,y45Z⟩,⟨y45Aa,y45Ab⟩⟩,y46⟩=>some (.ret ((y45X,(y45Y,y45Z),(y45Aa,y45Ab)),y46)))) else (some (.go ()))):Option (Fl (zRc×Int) Unit)).bind fun fl=>match fl with
   | .ret r=>some r
   | .go _=>(zE5 n (Nd.mk a1A a1C a1D a1B) a2G x18).bind fun⟨y47,y48⟩=>bif (y48 != 0) then (some (([],([],[]),([],[])),y48)) else ((zBl n (Nd.mk a1A a1C a1D a1B) (a2G,a2S) [] y47).bind fun⟨⟨y49X,⟨y49Y,y49Z⟩,⟨y49Aa,y49Ab⟩⟩,y50⟩=>some ((y49X,(y49Y,y49Z),(y49Aa,y49Ab)),y50))))
def zGp:(List Nd)->Option Nd
| l1=>bif ((l1.length:Int) == 0) then (some (Nd.mk 0 [] 0 [])) else ((at? l1 0).bind fun⟨e3A,e3C,e3D,e3B⟩=>some (Nd.mk e3A e3C e3D e3B))
def zCr (a3B:List Nd) (a4:Int) (y9E:List Int) (y9Ad:Int) (y9Ah:Int):Nat->(List Int)->Int->Option ((List Int))
| 0,_,_=>none
| k+1,x19,x20=>bif decide (0<=x20) then ((((at? a3B x20).bind fun⟨e24A,e24C,e24D,e24B⟩=>bif ((e24B.length:Int) == 0) then (bif (x20 != a4) then (some true) else (some ((i64.wrap (y9Ah - y9Ad)) == 0))) else (some false):Option (Bool)).bind fun x23=>bif x23 then ((zDQ y9E [y9Ad,x20,0]).bind fun y28=>some y28) else (some x19):Option ((List Int))).bind fun x22=>zCr a3B a4 y9E y9Ad y9Ah k x22 (i64.wrap (x20 - 1))) else (some x19)
def zEu (n:Nat):Nd->zCu->Nd->Int->Option (zRc×Int)
| ⟨a1A,a1C,a1D,a1B⟩,⟨a2G,a2S⟩,⟨a3A,a3C,a3D,a3B⟩,a4=>((zAM n (Nd.mk a1A a1C a1D a1B)).bind fun y7=>bif (!y7) then (some true) else ((zEt n (3,[],0,0,[Nd.mk a3A a3C a3D a3B],a4,[],[])).bind fun y8=>some (!y8)):Option (Bool)).bind fun x6=>bif x6 then (some (([],([],[]),([],[])),1)) else ((zCc n (Nd.mk a1A a1C a1D a1B) (a2G,a2S)).bind fun⟨⟨y9E,y9Ad,y9Ah⟩,y10⟩=>bif (y10 != 0) then (some (([],([],[]),([],[])),y10)) else ((zDQ y9E [i64.wrap (y9Ad+1)]).bind fun y12=>(zCr a3B a4 y9E y9Ad y9Ah n y12 (i64.wrap ((a3B.length:Int) - 1))).bind fun x21 =>
   (zBl n (Nd.mk a1A a1C a1D a1B) (a2G,a2S) [(3,y9E,y9Ad,i64.wrap (y9Ah - y9Ad),[Nd.mk a3A a3C a3D a3B],a4,[],[])] x21).bind fun⟨⟨y30X,⟨y30Y,y30Z⟩,⟨y30Aa,y30Ab⟩⟩,y31⟩=>some ((y30X,(y30Y,y30Z),(y30Aa,y30Ab)),y31)))
def zCb (pos1:List Int) (row2:List Int):Nat->Int->Option (Fl Bool Unit)
| 0,_=>none
| k+1,i5=>bif decide (i5<(row2.length:Int)) then ((at? pos1 i5).bind fun e7=>(at? row2 i5).bind fun e9=>bif (e7 != e9) then (some (.ret false)) else (zCb pos1 row2 k (i64.wrap (i5+1)))) else (some (.go ()))
def zFA (n:Nat):(List Int)->(List Int)->Option Bool
| pos1,row2=>bif decide ((pos1.length:Int)<=(row2.length:Int)) then (some false) else ((zCb pos1 row2 n 0).bind fun fl=>match fl with
  | .ret r=>some r
  | .go _=>some ((pos1.length:Int) != (i64.wrap ((row2.length:Int)+2))))
def zIu:zO8->Int->Bool->Option (List Int)
| ⟨a1A,a1E,a1F,a1V,a1H,a1W,a1Ac,a1C⟩,a2,a3=>(bif (a1A == 1) then ((bif decide (a1F<a2) then (some true) else (bif (a2 == a1F) then (some a3) else (some false)):Option (Bool)).bind fun x5=>bif x5 then (some (.ret [i64.wrap (a2+(a1H.length:Int))])) else (some (.go ()))) else (bif (a1A == 2) then ((bif decide (a1F<a2) then (some (decide (a2<(i64.wrap (a1F+(a1H.length:Int)))))) else (some false):Option (Bool)).bind fun x7=>bif x7 then (some (.ret [a1F])) else (bif decide (a1F<a2) then (some (.ret [i64.wrap (a2 - (a1H.length:Int))])) else (some (.go ())))) else (bif (a1A == 3) then ((bif decide (a1F<a2) then (some (decide (a2<(i64.wrap (a1F+a1V))))) else (some false):Option (Bool)).bind fun x10=>bif x10 then (
      some (.ret [a1F,a1W,i64.wrap (a2 - a1F)])) else (bif decide (a1F<a2) then (some (.ret [i64.wrap ((i64.wrap (a2 - a1V))+1)])) else ((bif (a2 == a1F) then (bif (a1V == 0) then (some a3) else (some false)) else (some false):Option (Bool)).bind fun x13=>bif x13 then (some (.ret [i64.wrap (a1F+1)])) else (some (.go ()))))) else (bif (a1A == 4) then (bif decide (a1F<a2) then (some (.ret [i64.wrap ((i64.wrap (a2 - 1))+a1V)])) else (some (.go ()))) else (some (.go ()))))):Option (Fl (List Int) Unit)).bind fun fl=>match fl with
 | .ret r=>some r
 | .go _=>some [a2]
def zFz:zO8->Int->Int->(List Int)->Option (List Int)
| ⟨a1A,a1E,a1F,a1V,a1H,a1W,a1Ac,a1C⟩,a2,a3,a4=>(bif decide (a2<a1F) then (some (.go [a2])) else (bif (a1A == 1) then (some (.go [i64.wrap (a2+(a1H.length:Int))])) else ((bif (a1A == 2) then (some (decide (a2<(i64.wrap (a1F+(a1H.length:Int)))))) else (some false):Option (Bool)).bind fun x7=>bif x7 then (some (.ret [a1F])) else (bif (a1A == 2) then (some (.go [i64.wrap (a2 - (a1H.length:Int))])) else ((bif (a1A == 3) then (some (decide (a2<(i64.wrap (a1F+a1V))))) else (some false):Option (Bool)).bind fun x8=>bif x8 then (some (.go [a1F,a1W,i64.wrap (a2 - a1F)])) else (bif (a1A == 3) then (some (.go [i64.wrap ((i64.wrap (a2 - a1V))+1)])) else ((bif (a1A == 4) then (bif (a2 == a1F) then (
           some (decide (a3<a1W))) else (some false)) else (some false):Option (Bool)).bind fun x9=>bif x9 then (some (.ret [a1F])) else ((bif (a1A == 4) then (bif (a2 == a1F) then (some (decide (a1W<a3))) else (some false)) else (some false):Option (Bool)).bind fun x10=>bif x10 then (some (.ret [i64.wrap (a1F+a1V)])) else ((bif (a1A == 4) then (some (a2 == a1F)) else (some false):Option (Bool)).bind fun x11=>bif x11 then ((at? a4 0).bind fun e12=>req (0<=(1:Int)/\(1:Int)<=(a4.length:Int)/\(a4.length:Int)<=(a4.length:Int)) <| req ([i64.wrap (a1F+e12)].length+((a4.take (a4.length:Int).toNat).drop (1:Int).toNat).length<=4294967296) <| some (.ret ([i64.wrap (a1F+e12)]++((a4.take (a4.length:Int).toNat).drop (1:Int).toNat)))) else (bif (a1A == 4) then (
            some (.go [i64.wrap ((i64.wrap (a2 - 1))+a1V)])) else (some (.go [a2]))))))))))):Option (Fl (List Int) ((List Int)))).bind fun fl=>match fl with
 | .ret r=>some r
 | .go l6=>req (l6.length + [a3].length<=4294967296) <| req ((l6++[a3]).length+a4.length<=4294967296) <| some ((l6++[a3])++a4)
def zIt (n:Nat):zO8->(List Int)->Bool->Option (List Int)
| ⟨op1A,op1E,op1F,op1V,op1H,op1W,op1Ac,op1C⟩,pos2,after3=>(zFA n pos2 op1E).bind fun y5=>bif (!y5) then (req (([]:List Int).length+pos2.length<=4294967296) <| some pos2) else (req (([]:List Int).length+op1E.length<=4294967296) <| bif ((pos2.length:Int) == (i64.wrap ((op1E.length:Int)+1))) then ((at? pos2 (op1E.length:Int)).bind fun e7=>(zIu (op1A,op1E,op1F,op1V,op1H,op1W,op1Ac,op1C) e7 after3).bind fun y9=>req (op1E.length+y9.length<=4294967296) <| some (op1E++y9)) else ((at? pos2 (op1E.length:Int)).bind fun e10=>(at? pos2 (i64.wrap ((op1E.length:Int)+1))).bind fun e12 =>
   req (0<=(i64.wrap ((op1E.length:Int)+2))/\(i64.wrap ((op1E.length:Int)+2))<=(pos2.length:Int)/\(pos2.length:Int)<=(pos2.length:Int)) <| (zFz (op1A,op1E,op1F,op1V,op1H,op1W,op1Ac,op1C) e10 e12 ((pos2.take (pos2.length:Int).toNat).drop (i64.wrap ((op1E.length:Int)+2)).toNat)).bind fun y15=>req (op1E.length+y15.length<=4294967296) <| some (op1E++y15)))
def zDD (n:Nat):Nd->zCu->Option (zRc×Int)
| ⟨n1A,n1C,n1D,n1B⟩,⟨c2G,c2S⟩=>(zCc n (Nd.mk n1A n1C n1D n1B) (c2G,c2S)).bind fun⟨⟨y3E,y3Ad,y3Ah⟩,y4⟩=>bif (y4 != 0) then (some (([],([],[]),([],[])),y4)) else ((zB1 n (Nd.mk n1A n1C n1D n1B) c2G).bind fun⟨⟨y5E,y5F,y5Ak,⟨y5Ao,y5Ar,y5Ag,y5Al⟩⟩,y6⟩=>bif (!y6) then (some (([],([],[]),([],[])),8)) else ((zEv (y5E,y5F,y5Ak,Nd.mk y5Ao y5Ar y5Ag y5Al)).bind fun⟨y7A,y7E,y7F,y7V,y7H,y7W,y7Ac,y7C⟩=>(zIt n (y7A,y7E,y7F,y7V,y7H,y7W,y7Ac,y7C) c2G false).bind fun y9 =>
   (zBl n (Nd.mk n1A n1C n1D n1B) (c2G,c2S) [(y7A,y7E,y7F,y7V,y7H,y7W,y7Ac,y7C)] y9).bind fun⟨⟨y10X,⟨y10Y,y10Z⟩,⟨y10Aa,y10Ab⟩⟩,y11⟩=>some ((y10X,(y10Y,y10Z),(y10Aa,y10Ab)),y11)))
def zEh (n:Nat):Nd->zCu->Option (zRc×Int)
| ⟨a1A,a1C,a1D,a1B⟩,⟨a2G,a2S⟩=>(zCc n (Nd.mk a1A a1C a1D a1B) (a2G,a2S)).bind fun⟨⟨y3E,y3Ad,y3Ah⟩,y4⟩=>bif (y4 != 0) then (some (([],([],[]),([],[])),y4)) else ((zB1 n (Nd.mk a1A a1C a1D a1B) a2G).bind fun⟨⟨y5E,y5F,y5Ak,⟨y5Ao,y5Ar,y5Ag,y5Al⟩⟩,y6⟩=>bif (!y6) then (some (([],([],[]),([],[])),8)) else ((bif decide (y3Ad<y3Ah) then (some true) else (bif (y5Ao != 11) then (some (y5Ao != 10)) else (some false)):Option (Bool)).bind fun x7=>bif x7 then (some (([],([],[]),([],[])),7)) else ((at? a2G (i64.wrap ((a2G.length:Int) - 1))).bind fun e9=>(zDQ y5E [y5F,y5Ak]).bind fun y12=>(at? y5Al y5Ak).bind fun⟨e13A,e13C,e13D,e13B⟩ =>
    (zE7 n (Nd.mk a1A a1C a1D a1B) (y12,e9,(e13B.length:Int))).bind fun⟨y16,y17⟩=>(zAU y16).bind fun⟨y18A,y18C,y18D,y18B⟩=>(zBg (Nd.mk y5Ao y5Ar y5Ag y5Al) y5Ak (Nd.mk y18A y18C y18D y18B)).bind fun⟨y19A,y19C,y19D,y19B⟩=>(zGo n (Nd.mk a1A a1C a1D a1B) (y12,e9,(e13B.length:Int))).bind fun y20=>req (y20.length+([(1,y5E,i64.wrap (y5F+1),0,[Nd.mk y19A y19C y19D y19B],0,[],[])]:List zO8).length<=4294967296) <| (zDQ y5E [i64.wrap (y5F+1),y5Ak,0]).bind fun y24 =>
    (zBl n (Nd.mk a1A a1C a1D a1B) (a2G,a2S) (y20++[(1,y5E,i64.wrap (y5F+1),0,[Nd.mk y19A y19C y19D y19B],0,[],[])]) y24).bind fun⟨⟨y25X,⟨y25Y,y25Z⟩,⟨y25Aa,y25Ab⟩⟩,y26⟩=>some ((y25X,(y25Y,y25Z),(y25Aa,y25Ab)),y26))))
def zHk (n:Nat):Nd->zCu->(List UInt8)->Option (zRc×Int)
| ⟨a1A,a1C,a1D,a1B⟩,⟨a2G,a2S⟩,a3=>(zCc n (Nd.mk a1A a1C a1D a1B) (a2G,a2S)).bind fun⟨⟨y4E,y4Ad,y4Ah⟩,y5⟩=>bif (y5 != 0) then (some (([],([],[]),([],[])),y5)) else (req (0<=(0:Int)/\(0:Int)<=i64.wrap ((a2G.length:Int) - 1)/\i64.wrap ((a2G.length:Int) - 1)<=(a2G.length:Int)) <| (at? a2G (i64.wrap ((a2G.length:Int) - 1))).bind fun e9=>bif (e9 == 0) then (some (([],([],[]),([],[])),8)) else ((zFZ n (Nd.mk a1A a1C a1D a1B) ((a2G.take (i64.wrap ((a2G.length:Int) - 1)).toNat).drop (0:Int).toNat) (i64.wrap (e9 - 1))).bind fun⟨⟨y11A,y11C,y11D,y11B⟩,y12⟩ =>
   (zEg n (Nd.mk a1A a1C a1D a1B) (5,(a2G.take (i64.wrap ((a2G.length:Int) - 1)).toNat).drop (0:Int).toNat,i64.wrap (e9 - 1),0,[],0,y11C,a3)).bind fun⟨⟨y13A,y13C,y13D,y13B⟩,y14⟩=>(bif (y14 == 4) then (some true) else (some (y14 == 7)):Option (Bool)).bind fun x15=>bif x15 then (some (([],([],[]),([],[])),7)) else ((zBl n (Nd.mk a1A a1C a1D a1B) (a2G,a2S) [(5,(a2G.take (i64.wrap ((a2G.length:Int) - 1)).toNat).drop (0:Int).toNat,i64.wrap (e9 - 1),0,[],0,y11C,a3)] []).bind fun⟨⟨y17X,⟨y17Y,y17Z⟩,⟨y17Aa,y17Ab⟩⟩,y18⟩=>(bif (y18 == 0) then (some (a2G,a2S)) else (some (y17Aa,y17Ab)):Option ((List Int)×(List Int))).bind fun⟨x19,x20⟩ =>
    some ((y17X,(y17Y,y17Z),(x19,x20)),y18))))
def zCq (a3:Bool) (y6Ak:Int) (y6Ag:Int) (x16:Int):Nat->Int->(List Nd)->Option ((List Nd))
| 0,_,_=>none
| k+1,x38,l39=>(bif decide (x38<y6Ag) then (bif (!a3) then (req (y6Ag ≠ 0) <| some (x16 == (i64.wrap ((i64.wrap ((i64.wrap ((i64.wrap (y6Ak.tdiv y6Ag)) * y6Ag))+y6Ag)) - 1)))) else (some false)) else (some false):Option (Bool)).bind fun x41=>bif x41 then ((zAU []).bind fun⟨y42A,y42C,y42D,y42B⟩=>req (l39.length + [Nd.mk y42A y42C y42D y42B].length<=4294967296) <| zCq a3 y6Ak y6Ag x16 k (i64.wrap (x38+1)) (l39++[Nd.mk y42A y42C y42D y42B])) else (some l39)
def zC4 (n:Nat) (a3:Bool) (y6Ak:Int) (y6Ag:Int) (y6Al:List Nd):Nat->Int->Int->(List Nd)->Option (Int×(List Nd))
| 0,_,_,_=>none
| k+1,x15,x16,l17=>bif decide (x16<(y6Al.length:Int)) then (((bif (x16 == y6Ak) then (some (l17.length:Int)) else (some x15):Option (Int)).bind fun x23=>(at? y6Al x16).bind fun⟨e25A,e25C,e25D,e25B⟩=>req (l17.length + [Nd.mk e25A e25C e25D e25B].length<=4294967296) <| (bif a3 then (req (y6Ag ≠ 0) <| req (y6Ag ≠ 0) <| some ((x16.tmod y6Ag) == (y6Ak.tmod y6Ag))) else (some false):Option (Bool)).bind fun x28=>(bif x28 then ((zAU []).bind fun⟨y30A,y30C,y30D,y30B⟩=>req ((l17++[Nd.mk e25A e25C e25D e25B]).length + [Nd.mk y30A y30C y30D y30B].length<=4294967296) <| some ((l17++[Nd.mk e25A e25C e25D e25B])++[Nd.mk y30A y30C y30D y30B])) else (
     some (l17++[Nd.mk e25A e25C e25D e25B])):Option ((List Nd))).bind fun l29=>(zCq a3 y6Ak y6Ag x16 n 0 l29).bind fun l40=>some (x23,l40):Option (Int×(List Nd))).bind fun⟨x21,l22⟩=>zC4 n a3 y6Ak y6Ag y6Al k x21 (i64.wrap (x16+1)) l22) else (some (x15,l17))
def zE9 (n:Nat):Nd->zCu->Bool->Option (zRc×Int)
| ⟨a1A,a1C,a1D,a1B⟩,⟨a2G,a2S⟩,a3=>(zCc n (Nd.mk a1A a1C a1D a1B) (a2G,a2S)).bind fun⟨⟨y4E,y4Ad,y4Ah⟩,y5⟩=>bif (y5 != 0) then (some (([],([],[]),([],[])),y5)) else ((zB1 n (Nd.mk a1A a1C a1D a1B) a2G).bind fun⟨⟨y6E,y6F,y6Ak,⟨y6Ao,y6Ar,y6Ag,y6Al⟩⟩,y7⟩=>bif (!y7) then (some (([],([],[]),([],[])),8)) else (bif (y6Ao != 12) then (some (([],([],[]),([],[])),7)) else ((bif a3 then (some (i64.wrap (y6Ag+1))) else (some y6Ag):Option (Int)).bind fun x8=>(zC4 n a3 y6Ak y6Ag y6Al n 0 0 []).bind fun⟨x18,l19⟩=>(at? a2G (i64.wrap ((a2G.length:Int) - 1))).bind fun e48=>(zDQ y6E [y6F,x18,e48]).bind fun y51 =>
    (zBl n (Nd.mk a1A a1C a1D a1B) (a2G,a2S) [(2,y6E,y6F,0,[Nd.mk y6Ao y6Ar y6Ag y6Al],0,[],[]),(1,y6E,y6F,0,[Nd.mk 12 [] x8 l19],0,[],[])] y51).bind fun⟨⟨y52X,⟨y52Y,y52Z⟩,⟨y52Aa,y52Ab⟩⟩,y53⟩=>some ((y52X,(y52Y,y52Z),(y52Aa,y52Ab)),y53))))
def zIw (n:Nat):Nd->zCu->(Int×List Nd×Int×List UInt8×Bool)->Option (zRc×Int)
| ⟨a1A,a1C,a1D,a1B⟩,⟨a2G,a2S⟩,⟨a3A,a3Ai,a3W,a3C,a3Ba⟩=>bif (a3A == 0) then ((zCQ n (Nd.mk a1A a1C a1D a1B) (a2G,a2S) a3Ai).bind fun⟨⟨y4X,⟨y4Y,y4Z⟩,⟨y4Aa,y4Ab⟩⟩,y5⟩=>some ((y4X,(y4Y,y4Z),(y4Aa,y4Ab)),y5)) else (bif (a3A == 1) then ((zE8 n (Nd.mk a1A a1C a1D a1B) (a2G,a2S) a3Ba).bind fun⟨⟨y6X,⟨y6Y,y6Z⟩,⟨y6Aa,y6Ab⟩⟩,y7⟩=>some ((y6X,(y6Y,y6Z),(y6Aa,y6Ab)),y7)) else (bif (a3A == 2) then ((zGp a3Ai).bind fun⟨y8A,y8C,y8D,y8B⟩ =>
    (zEu n (Nd.mk a1A a1C a1D a1B) (a2G,a2S) (Nd.mk y8A y8C y8D y8B) a3W).bind fun⟨⟨y9X,⟨y9Y,y9Z⟩,⟨y9Aa,y9Ab⟩⟩,y10⟩=>some ((y9X,(y9Y,y9Z),(y9Aa,y9Ab)),y10)) else (bif (a3A == 3) then ((zDD n (Nd.mk a1A a1C a1D a1B) (a2G,a2S)).bind fun⟨⟨y11X,⟨y11Y,y11Z⟩,⟨y11Aa,y11Ab⟩⟩,y12⟩=>some ((y11X,(y11Y,y11Z),(y11Aa,y11Ab)),y12)) else (bif (a3A == 4) then ((zEh n (Nd.mk a1A a1C a1D a1B) (a2G,a2S)).bind fun⟨⟨y13X,⟨y13Y,y13Z⟩,⟨y13Aa,y13Ab⟩⟩,y14⟩=>some ((y13X,(y13Y,y13Z),(y13Aa,y13Ab)),y14)) else (
      bif (a3A == 5) then ((zHk n (Nd.mk a1A a1C a1D a1B) (a2G,a2S) a3C).bind fun⟨⟨y15X,⟨y15Y,y15Z⟩,⟨y15Aa,y15Ab⟩⟩,y16⟩=>some ((y15X,(y15Y,y15Z),(y15Aa,y15Ab)),y16)) else (bif (a3A == 6) then ((zE9 n (Nd.mk a1A a1C a1D a1B) (a2G,a2S) a3Ba).bind fun⟨⟨y17X,⟨y17Y,y17Z⟩,⟨y17Aa,y17Ab⟩⟩,y18⟩=>some ((y17X,(y17Y,y17Z),(y17Aa,y17Ab)),y18)) else (some (([],([],[]),([],[])),1))))))))
def zBy (n:Nat):(Nd×Nd×List zRc×Int)->Option (zCu×Int×(Nd×Nd×List zRc×Int))
| ⟨⟨o1K,o1L,o1M,o1N⟩,⟨o1O,o1P,o1Q,o1R⟩,o1J,o1I⟩=>bif (o1I == (o1J.length:Int)) then (some (([],[]),8,(Nd.mk o1K o1L o1M o1N,Nd.mk o1O o1P o1Q o1R,o1J,o1I))) else ((at? o1J o1I).bind fun⟨e3X,⟨e3Y,e3Z⟩,⟨e3Aa,e3Ab⟩⟩=>(zA4 n (Nd.mk o1O o1P o1Q o1R) e3X).bind fun⟨⟨y4A,y4C,y4D,y4B⟩,y5,y6⟩=>bif (y6 != 0) then (some (([],[]),y6,(Nd.mk o1K o1L o1M o1N,Nd.mk o1O o1P o1Q o1R,o1J,o1I))) else (
   (zBG (e3Aa,e3Ab)).bind fun⟨y7G,y7S⟩=>some ((y7G,y7S),0,(Nd.mk o1K o1L o1M o1N,Nd.mk y4A y4C y4D y4B,o1J,i64.wrap (o1I+1)))))
def zF0 (n:Nat):(List Int)->(List Int)->Option Bool
| a1,b2=>(zDP n a1 b2).bind fun y3=>some (y3 == 0)
def zCi (n:Nat):zCu->zCu->Option Bool
| ⟨a1G,a1S⟩,⟨b2G,b2S⟩=>((zF0 n a1G b2G).bind fun y4=>bif y4 then ((zF0 n a1S b2S).bind fun y5=>some y5) else (some false):Option (Bool)).bind fun x3=>some x3
def zHB (n:Nat):Nd->Option Bool
| ⟨n1A,n1C,n1D,n1B⟩=>(zGl n (Nd.mk n1A n1C n1D n1B) 60).bind fun y2=>some y2
def zCR (n:Nat) (l2:List ((Int×List Nd×Int×List UInt8×Bool)×Int×Int)):Nat->Int->Option (Fl Bool Unit)
| 0,_=>none
| k+1,x4=>bif decide (x4<(l2.length:Int)) then ((at? l2 x4).bind fun⟨⟨e5Aw,e5Av,e5Ax,e5Ay,e5Az⟩,e5G,e5S⟩=>((zIv n (e5Aw,e5Av,e5Ax,e5Ay,e5Az)).bind fun y8=>bif (!y8) then (some true) else ((zAU e5Av).bind fun⟨y9A,y9C,y9D,y9B⟩=>(zGl n (Nd.mk y9A y9C y9D y9B) 12).bind fun y10=>some (!y10)):Option (Bool)).bind fun x7=>bif x7 then (some (.ret false)) else (zCR n l2 k (i64.wrap (x4+1)))) else (some (.go ()))
def zIx (n:Nat):Nd->(List ((Int×List Nd×Int×List UInt8×Bool)×Int×Int))->Option Bool
| ⟨n1A,n1C,n1D,n1B⟩,l2=>(zCR n l2 n 0).bind fun fl=>match fl with
 | .ret r=>some r
 | .go _=>((zHB n (Nd.mk n1A n1C n1D n1B)).bind fun y12=>bif y12 then (some (decide ((l2.length:Int)<=12))) else (some false):Option (Bool)).bind fun x11=>some x11
def zBD (n:Nat) (a2:List ((Int×List Nd×Int×List UInt8×Bool)×Int×Int)):Nat->Int->(List UInt8)->Int->(List Nd)->Int->(List UInt8)->Int->(List Nd)->Int->Int->(List zRc)->Option (Fl (Bool×(Nd×Nd×List zRc×Int)) (Int×(List UInt8)×Int×(List Nd)×Int×(List UInt8)×Int×(List Nd)×Int×(List zRc)))
| 0,_,_,_,_,_,_,_,_,_,_,_=>none
| k+1,x4,x5,x6,x7,x8,x9,x10,x11,x13,x14,l15=>bif decide (x14<(a2.length:Int)) then ((at? a2 x14).bind fun⟨⟨e26Aw,e26Av,e26Ax,e26Ay,e26Az⟩,e26G,e26S⟩=>(zAB (Nd.mk x4 x5 x6 x7,Nd.mk x8 x9 x10 x11,l15,x13)).bind fun⟨⟨y28A,y28C,y28D,y28B⟩,⟨⟨w29K,w29L,w29M,w29N⟩,⟨w29O,w29P,w29Q,w29R⟩,w29J,w29I⟩⟩=>(zGm n (Nd.mk y28A y28C y28D y28B)).bind fun⟨y30,y31⟩=>bif ((y30.length:Int) == 0) then (some (.ret (false,(Nd.mk w29K w29L w29M w29N,Nd.mk w29O w29P w29Q w29R,w29J,w29I)))) else (req ((y30.length:Int) ≠ 0) <|
   (at? y30 ((i64.wrap e26G).tmod (y30.length:Int))).bind fun e34=>req ((y30.length:Int) ≠ 0) <| (at? y30 ((i64.wrap e26S).tmod (y30.length:Int))).bind fun e37=>(zIw n (Nd.mk y28A y28C y28D y28B) (e34,e37) (e26Aw,e26Av,e26Ax,e26Ay,e26Az)).bind fun⟨⟨y39X,⟨y39Y,y39Z⟩,⟨y39Aa,y39Ab⟩⟩,y40⟩=>(bif (y40 == 0) then (
     (zBa n (Nd.mk w29K w29L w29M w29N,Nd.mk w29O w29P w29Q w29R,w29J,w29I) (y39X,(y39Y,y39Z),(y39Aa,y39Ab))).bind fun⟨y52,⟨⟨w53K,w53L,w53M,w53N⟩,⟨w53O,w53P,w53Q,w53R⟩,w53J,w53I⟩⟩=>some ((y52 != 0),w53K,w53L,w53M,w53N,w53O,w53P,w53Q,w53R,w53I,w53J)) else (some (false,w29K,w29L,w29M,w29N,w29O,w29P,w29Q,w29R,w29I,w29J))
    : Option (Bool×Int×(List UInt8)×Int×(List Nd)×Int×(List UInt8)×Int×(List Nd)×Int×(List zRc))).bind fun⟨x41,x42,x43,x44,x45,x46,x47,x48,x49,x50,l51⟩=>bif x41 then (some (.ret (false,(Nd.mk x42 x43 x44 x45,Nd.mk x46 x47 x48 x49,l51,x50)))) else (zBD n a2 k x42 x43 x44 x45 x46 x47 x48 x49 x50 (i64.wrap (x14+1)) l51))) else (some (.go (x4,x5,x6,x7,x8,x9,x10,x11,x13,l15)))
def zFh (n:Nat):(Nd×Nd×List zRc×Int)->(List ((Int×List Nd×Int×List UInt8×Bool)×Int×Int))->Option (Bool×(Nd×Nd×List zRc×Int))
| ⟨⟨o1K,o1L,o1M,o1N⟩,⟨o1O,o1P,o1Q,o1R⟩,o1J,o1I⟩,a2=>(zBD n a2 n o1K o1L o1M o1N o1O o1P o1Q o1R o1I 0 o1J).bind fun fl=>match fl with
 | .ret r=>some r
 | .go ⟨x16,x17,x18,x19,x20,x21,x22,x23,x24,l25⟩=>some (true,(Nd.mk x16 x17 x18 x19,Nd.mk x20 x21 x22 x23,l25,x24))
def zRL (xs:List AV) (r:Ret):Prop:=∃ a0 y0,zBZ a0=some y0/\xs=[nS a0]/\r = .val (nB y0)
def zLS:zAq:=zAr fun xs r=>zRL xs r
def jB {P:Prop} (h:P:=by have hy:=osi h;subst hy;exact fin0 rfl rfl):P:=h
def jN {P:Prop} (h:P:=by refine zAd ?_;exact jB):P:=h
def gI {P:Prop} (h:P:=by refine yEW ?_;exact jN):P:=h
def zQY:PSound prog 79 zLS:=by
 have gok:=@gok0 prog;refine psq tokW call79 func79 rfl ?_;rintro xs r w0 G0 ⟨s1,y0,h,rfl,rfl⟩ _;rw[zBZ]at h;refine yEW ?_;exact gI
variable (n:Nat) (xs:List AV) (r:Ret)
def zOH:Prop:=∃ a0 y0,zDd n a0=some y0/\xs=[nS a0]/\r = .val (nB y0)
def zJn:zAq:=pG zOH
def jD {P:Prop} (h:P:=by cases h;exact Le.fgt):P:=h
def jE {P:Prop} (h:P:=by refine yEW ?_;refine zAd ?_;cases h;replace h:some _=some _:=ho1;exact jB):P:=h
def jG {P:Prop} (h:P:=by subst hz;obtain _:=z;replace h:=ho1;refine zAj hle<|yEW ?_;refine zAd ?_;exact jB):P:=h
def jO {P:Prop} (h:P:=by cases h;exact⟨_,rfl,Le.fgt⟩):P:=h
def gK {P:Prop} (h:P:=by refine zAe<|yEV ?_;refine⟨(k,i64.wrap (i2+1)),h,Le.fgt,ax k⟩):P:=h
def gV {P:Prop} (h:P:=by refine zAy ?_;exact jO):P:=h
def zN3:PSound prog 141 zJn:=by
 have gok:=@gok0 prog;refine psq tokW call141 func141 rfl ?_;rintro xs r w0 G0 ⟨n,s1,y0,h,rfl,rfl⟩ _;rw[zDd]at h;refine yEW ?_;refine zAa<|yEW ?_;show Tri ..;obtain⟨fl,hl,ho1⟩:=zAc h;refine zBN (fl:=fl) (fun z=>match z with | _=>⟨ofL [],fun _=>none,0⟩) ?_ (fun z V' hz hle=>?_)
 ·refine zAk (zAv (X:=Nat×Int) (fun y=>match y with | (k,i2)=>⟨ofL [(0,nS s1),(3,nI i2)],fun _=>none,0⟩) (fun y=>zBk s1 y.1 y.2=some fl) (fun y=>y.1) (n,0) hl ?_ ?_)
  ·exact Le.fgt
  rintro⟨k,i2⟩ h;cases k with
  | zero=>cases h
  | succ k=>
  replace h:zBk s1 (k+1) i2=some fl:=h;rw[zBk]at h;refine zAa<|yEW ?_;refine zAf rfl h (fun hb h=>?_) (fun hb h=>?_)
  ·refine zAe<|zAa<|zAk<|yCZ [] [13] rfl ?_;obtain⟨c3,hc3,h⟩:=zAc h;refine And.intro (zB2 hc3).1 ?_;intro v4 hv4;obtain rfl:(c3.toNat:Int)=v4:=(hv4.trans (zB2 hc3).2).symm;refine zAa ?_;obtain⟨x5,hj,h⟩:=zAc h;refine pL [(0,nS s1),(3,nI i2),(20,nB x5)] ?_ (fun V' hle=>?_)
   ·replace h:=hj;refine zAb [] [17] rfl ?_;refine nbS h (fun hb h=>?_) (fun hb h=>?_)
    ·exact jD
    exact jD
   refine zAj hle<|zAf rfl h (fun hb h=>?_) (fun hb h=>?_)
   ·exact jE
   exact gK
  exact gV
 exact jG
def zOG (xs:List AV) (r:Ret):Prop:=∃ a0 y0,zD6 a0=some y0/\xs=[nS a0]/\r = .val (nB y0)
def zJm:zAq:=zAr fun xs r=>zOG xs r
def gB {P:Prop} (h:P:=by refine zAe ?_;exact jD):P:=h
def kH {P:Prop} (h:P:=by refine yEV ?_;exact jD):P:=h
def kW {P:Prop} (h:P:=by refine zAe ?_;exact jO):P:=h
def zN2:PSound prog 143 zJm:=by
 have gok:=@gok0 prog;refine psq tokW call143 func143 rfl ?_;rintro xs r w0 G0 ⟨s1,y0,h,rfl,rfl⟩ _;rw[zD6]at h;refine yEW ?_;refine zAa<|yEW ?_;show Tri ..;obtain⟨fl,hj,ho1⟩:=zAc h;refine zBN (fl:=fl) (fun z=>match z with | _=>⟨ofL [],fun _=>none,0⟩) ?_ (fun z V' hz hle=>?_)
 ·replace h:=hj;refine zAk<|zAa<|yEW ?_;show Tri ..;obtain⟨x2,hj,h⟩:=zAc h;refine pL [(4,nB x2)] ?_ (fun V' hle=>?_)
  ·replace h:=hj;refine zAf rfl h (fun hb h=>?_) (fun hb h=>?_)
   ·exact gB
   refine yEW ?_;refine zAf rfl h (fun hb h=>?_) (fun hb h=>?_)
   ·exact gB
   refine yEW ?_;refine zAf rfl h (fun hb h=>?_) (fun hb h=>?_)
   ·exact gB
   exact kH
  refine zAj hle<|zAf rfl h (fun hb h=>?_) (fun hb h=>?_)
  ·exact jE
  exact kW
 exact jG
def zQl (xs:List AV) (r:Ret):Prop:=∃ a0 y0,zDK a0=some y0/\xs=[nS a0]/\r = .val (nB y0)
def zHr:zAq:=zAr fun xs r=>zQl xs r
def zJz:PSound prog 83 zHr:=by
 have gok:=@gok0 prog;refine psq tokW call83 func83 rfl ?_;rintro xs r w0 G0 ⟨s1,y0,h,rfl,rfl⟩ _;rw[zDK]at h;refine yEW ?_;refine zAa<|yEW ?_;show Tri ..;obtain⟨fl,hj,ho1⟩:=zAc h;refine zBN (fl:=fl) (fun z=>match z with | _=>⟨ofL [],fun _=>none,0⟩) ?_ (fun z V' hz hle=>?_)
 ·replace h:=hj;refine zAk<|zAa<|yEW ?_;show Tri ..;obtain⟨x2,hj,h⟩:=zAc h;refine pL [(4,nB x2)] ?_ (fun V' hle=>?_)
  ·replace h:=hj;refine zAf rfl h (fun hb h=>?_) (fun hb h=>?_)
   ·exact gB
   refine yEW ?_;refine zAf rfl h (fun hb h=>?_) (fun hb h=>?_)
   ·exact gB
   refine yEW ?_;refine zAf rfl h (fun hb h=>?_) (fun hb h=>?_)
   ·exact gB
   refine yEW ?_;refine zAf rfl h (fun hb h=>?_) (fun hb h=>?_)
   ·exact gB
   refine yEW ?_;refine zAf rfl h (fun hb h=>?_) (fun hb h=>?_)
   ·exact gB
   exact kH
  refine zAj hle<|zAf rfl h (fun hb h=>?_) (fun hb h=>?_)
  ·exact jE
  exact kW
 exact jG
def zQk:Prop:=∃ a0 y0,zEI n a0=some y0/\xs=[nS a0]/\r = .val (nB y0)
def zKf:zAq:=pG zQk
def jJ {P:Prop} (h:P:=by intro b hb;subst hb;exact jD):P:=h
def jP {P:Prop} (h:P:=by refine zAj hle<|zAd ?_;exact jB):P:=h
def jT {P:Prop} (h:P:=by intro b hb;subst hb;exact jJ):P:=h
def zOX:PSound prog 80 zKf:=by
 have gok:=gk1 zN3<|gk1 zJ0<|gk1 zN2<|gk1 zJz<|gk0;refine psq tokW call80 func80 rfl ?_;rintro xs r w0 G0 ⟨n,s1,y0,h,rfl,rfl⟩ _;rw[zEI]at h;refine yEW ?_;refine zAa<|yEW ?_;refine zAf rfl h (fun hb h=>?_) (fun hb h=>?_)
 ·refine zAa ?_;obtain⟨x2,hj,h⟩:=zAc h;refine pL [(2,nB x2)] ?_ (fun V' hle=>?_)
  ·replace h:=hj;refine zAb [] [8] rfl ?_;obtain⟨y3,hy3,h⟩:=zAc h;refine⟨_,⟨_,_,_,hy3,rfl,rfl⟩,?_⟩;refine nbS h (fun hb h=>?_) (fun hb h=>?_)
   ·exact jD
   obtain⟨y4,hy4,h⟩:=zAc h;refine⟨_,⟨_,_,_,hy4,rfl,rfl⟩,?_⟩;exact jD
  exact jP
 refine zAe<|zAa ?_;obtain⟨x5,hj,h⟩:=zAc h;refine pL [(2,nB x5)] ?_ (fun V' hle=>?_)
 ·replace h:=hj;refine zAb [] [15,20,24,29] rfl ?_;refine nbS h (fun hb h=>?_) (fun hb h=>?_)
  ·refine nbS h (fun hb h=>?_) (fun hb h=>?_)
   ·obtain⟨y6,hy6,h⟩:=zAc h;refine⟨_,⟨_,_,_,hy6,rfl,rfl⟩,?_⟩;refine nbS h (fun hb h=>?_) (fun hb h=>?_)
    ·obtain⟨y7,hy7,h⟩:=zAc h;refine⟨_,⟨_,_,hy7,rfl,rfl⟩,?_⟩;refine nbS h (fun hb h=>?_) (fun hb h=>?_)
     ·obtain⟨y8,hy8,h⟩:=zAc h;refine⟨_,⟨_,_,hy8,rfl,rfl⟩,?_⟩;exact jD
     exact jD
    exact jJ
   exact jT
  intro b hb;subst hb;exact jT
 exact jP
def zLh (xs:List AV) (r:Ret):Prop:=∃ a0 a1 y0 y1 y2,zCK a0 a1=some (y0,y1,y2)/\xs=[nS a0,nS a1]/\r = .val (.tup [nS y0,nS y1,nB y2])
def zG8:zAq:=zAr fun xs r=>zLh xs r
def jI {P:Prop} (h:P:=by obtain⟨hj1,hk1⟩:=pij h;subst hj1;obtain⟨hj2,hk2⟩:=ap hk1;subst hj2;subst hk2;exact fin0 rfl rfl):P:=h
def zKW:PSound prog 196 zG8:=by
 have gok:=gk1 zJj<|gk0;refine psq tokW call196 func196 rfl ?_;rintro xs r w0 G0 ⟨s1,sep2,y0,y1,y2,h,rfl,rfl⟩ _;rw[zCK]at h;refine yEW ?_;refine zAa<|yEW ?_;obtain⟨y3,hy3,h⟩:=zAc h;refine⟨_,⟨_,_,_,hy3,rfl,rfl⟩,?_⟩;refine yEW ?_;refine zAf rfl h (fun hb h=>?_) (fun hb h=>?_)
 ·refine zAa<|zAw [] [] [] rfl (by decide +kernel) ?_;obtain⟨hq,h⟩:=zAs h;refine And.intro hq ?_;obtain⟨hq,h⟩:=zAs h;refine And.intro hq ?_;refine zAd ?_;exact jI
 refine zAe<|yEW ?_;refine zAd ?_;exact jI
def zQr (xs:List AV) (r:Ret):Prop:=∃ a0 a1 y0 y1 y2,zEL a0 a1=some (y0,y1,y2)/\xs=[nS a0,nS a1]/\r = .val (.tup [nS y0,nS y1,nB y2])
def zKm:zAq:=zAr fun xs r=>zQr xs r
def zO1:PSound prog 144 zKm:=by
 have gok:=gk1 zKW<|gk0;refine psq tokW call144 func144 rfl ?_;rintro xs r w0 G0 ⟨s1,sep2,y0,y1,y2,h,rfl,rfl⟩ _;rw[zEL]at h;refine yEW ?_;refine yEW ?_;obtain⟨⟨y3,y4,y5⟩,hy3,h⟩:=zAc h;refine⟨_,⟨_,_,_,_,_,hy3,rfl,rfl⟩,?_⟩;refine zAd ?_;exact jI
def zQm:Prop:=∃ a0 y0,zDL n a0=some y0/\xs=[nS a0]/\r = .val (nB y0)
def zKg:zAq:=pG zQm
def gA {P:Prop} (h:P:=by obtain⟨c6,hc6,h⟩:=zAc h;refine And.intro (zB2 hc6).1 ?_;intro v7 hv7;obtain rfl:(c6.toNat:Int)=v7:=(hv7.trans (zB2 hc6).2).symm;exact jD):P:=h
def zOY:PSound prog 145 zKg:=by
 have gok:=@gok0 prog;refine psq tokW call145 func145 rfl ?_;rintro xs r w0 G0 ⟨n,s1,y0,h,rfl,rfl⟩ _;rw[zDL]at h;refine yEW ?_;refine zAa<|yEW ?_;show Tri ..;obtain⟨fl,hl,ho1⟩:=zAc h;refine zBN (fl:=fl) (fun z=>match z with | _=>⟨ofL [(0,nS s1)],fun _=>none,0⟩) ?_ (fun z V' hz hle=>?_)
 ·refine zAk (zAv (X:=Nat×Int) (fun y=>match y with | (k,i2)=>⟨ofL [(0,nS s1),(3,nI i2)],fun _=>none,0⟩) (fun y=>zBw s1 y.1 y.2=some fl) (fun y=>y.1) (n,0) hl ?_ ?_)
  ·exact Le.fgt
  rintro⟨k,i2⟩ h;cases k with
  | zero=>cases h
  | succ k=>
  replace h:zBw s1 (k+1) i2=some fl:=h;rw[zBw]at h;refine zAa<|yEW ?_;refine zAf rfl h (fun hb h=>?_) (fun hb h=>?_)
  ·refine zAe<|zAa<|zAk<|zAa ?_;obtain⟨x3,hj,h⟩:=zAc h;refine pL [(0,nS s1),(3,nI i2),(19,nB x3)] ?_ (fun V' hle=>?_)
   ·replace h:=hj;refine zAb [] [12,14,17] rfl ?_;obtain⟨c4,hc4,h⟩:=zAc h;refine And.intro (zB2 hc4).1 ?_;intro v5 hv5;obtain rfl:(c4.toNat:Int)=v5:=(hv5.trans (zB2 hc4).2).symm;refine nbS h (fun hb h=>?_) (fun hb h=>?_)
    ·exact jD
    exact gA
   refine zAj hle<|zAf rfl h (fun hb h=>?_) (fun hb h=>?_)
   ·exact jE
   exact gK
  exact gV
 exact jG
def zQj:Prop:=∃ a0 y0,zDJ n a0=some y0/\xs=[nS a0]/\r = .val (nB y0)
def zKe:zAq:=pG zQj
def zOW:PSound prog 81 zKe:=by
 have gok:=gk1 zO1<|gk1 zOY<|gk0;refine psq tokW call81 func81 rfl ?_;rintro xs r w0 G0 ⟨n,s1,y0,h,rfl,rfl⟩ _;rw[zDJ]at h;refine yEW ?_;refine yEW ?_;obtain⟨⟨y2,y3,y4⟩,hy2,h⟩:=zAc h;refine⟨_,⟨_,_,_,_,_,hy2,rfl,rfl⟩,?_⟩;refine zAa ?_;obtain⟨x5,hj,h⟩:=zAc h;refine pL [(2,nB x5)] ?_ (fun V' hle=>?_)
 ·replace h:=hj;refine zAb [] [15,19,22] rfl ?_;refine nbS h (fun hb h=>?_) (fun hb h=>?_)
  ·obtain⟨y6,hy6,h⟩:=zAc h;refine⟨_,⟨_,_,_,hy6,rfl,rfl⟩,?_⟩;refine nbS h (fun hb h=>?_) (fun hb h=>?_)
   ·refine nbS h (fun hb h=>?_) (fun hb h=>?_)
    ·exact jD
    obtain⟨y7,hy7,h⟩:=zAc h;refine⟨_,⟨_,_,_,hy7,rfl,rfl⟩,?_⟩;exact jD
   exact jD
  exact jJ
 exact jP
def zRO:Prop:=∃ a0 y0,zFt n a0=some y0/\xs=[nS a0]/\r = .val (nB y0)
def zLV:zAq:=pG zRO
def zQ1:PSound prog 82 zLV:=by
 have gok:=@gok0 prog;refine psq tokW call82 func82 rfl ?_;rintro xs r w0 G0 ⟨n,s1,y0,h,rfl,rfl⟩ _;rw[zFt]at h;refine yEW ?_;refine zAa<|yEW ?_;show Tri ..;obtain⟨fl,hl,ho1⟩:=zAc h;refine zBN (fl:=fl) (fun z=>match z with | _=>⟨ofL [(0,nS s1)],fun _=>none,0⟩) ?_ (fun z V' hz hle=>?_)
 ·refine zAk (zAv (X:=Nat×Int) (fun y=>match y with | (k,i2)=>⟨ofL [(0,nS s1),(3,nI i2)],fun _=>none,0⟩) (fun y=>zBI s1 y.1 y.2=some fl) (fun y=>y.1) (n,0) hl ?_ ?_)
  ·exact Le.fgt
  rintro⟨k,i2⟩ h;cases k with
  | zero=>cases h
  | succ k=>
  replace h:zBI s1 (k+1) i2=some fl:=h;rw[zBI]at h;refine zAa<|yEW ?_;refine zAf rfl h (fun hb h=>?_) (fun hb h=>?_)
  ·refine zAe<|zAa<|zAk<|zAa ?_;obtain⟨x3,hj,h⟩:=zAc h;refine pL [(0,nS s1),(3,nI i2),(19,nB x3)] ?_ (fun V' hle=>?_)
   ·replace h:=hj;refine zAb [] [12,14,17] rfl ?_;obtain⟨c4,hc4,h⟩:=zAc h;refine And.intro (zB2 hc4).1 ?_;intro v5 hv5;obtain rfl:(c4.toNat:Int)=v5:=(hv5.trans (zB2 hc4).2).symm;refine nbS h (fun hb h=>?_) (fun hb h=>?_)
    ·exact jD
    exact gA
   refine zAj hle<|zAf rfl h (fun hb h=>?_) (fun hb h=>?_)
   ·exact jE
   exact gK
  exact gV
 exact jG
def zRM (xs:List AV) (r:Ret):Prop:=∃ a0 y0,zFs a0=some y0/\xs=[nS a0]/\r = .val (nB y0)
def zLT:zAq:=zAr fun xs r=>zRM xs r
def zQZ:PSound prog 84 zLT:=by
 have gok:=gk1 zFN<|gk0;refine psq tokW call84 func84 rfl ?_;rintro xs r w0 G0 ⟨s1,y0,h,rfl,rfl⟩ _;rw[zFs]at h;refine yEW ?_;refine zAa ?_;obtain⟨x2,hj,h⟩:=zAc h;refine pL [(2,nB x2)] ?_ (fun V' hle=>?_)
 ·replace h:=hj;refine zAb [] [6,8,12,14] rfl ?_;refine nbS h (fun hb h=>?_) (fun hb h=>?_)
  ·obtain⟨c3,hc3,h⟩:=zAc h;refine And.intro (zB2 hc3).1 ?_;intro v4 hv4;obtain rfl:(c3.toNat:Int)=v4:=(hv4.trans (zB2 hc3).2).symm;obtain⟨y5,hy5,h⟩:=zAc h;refine⟨_,⟨_,_,_,hy5,rfl,rfl⟩,?_⟩;refine nbS h (fun hb h=>?_) (fun hb h=>?_)
   ·obtain⟨c6,hc6,h⟩:=zAc h;refine And.intro (zB2 hc6).1 ?_;intro v7 hv7;obtain rfl:(c6.toNat:Int)=v7:=(hv7.trans (zB2 hc6).2).symm;obtain⟨y8,hy8,h⟩:=zAc h;refine⟨_,⟨_,_,_,hy8,rfl,rfl⟩,?_⟩;exact jD
   exact jD
  exact jJ
 exact jP
def zBv (p:Unit):List S:=[.str [],.int .i64 0,.nf,.str [114,111,119],.int .i64 0,.fn 79,.str [115,121,109],.int .i64 0,.fn 80,.str [110,117,109],.int .i64 0,.fn 81,.str [116,101,120,116],.int .i64 0,.fn 82,.str [102,114,97,99],.int .i64 2,.fn 79,.str [114,111,111,116],.int .i64 2,.fn 79,.str [115,117,98],.int .i64 2,.fn 79,.str [115,117,112],.int .i64 2,.fn 79,.str [98,111,116,104],.int .i64 3,.fn 79,.str [97,99,99,101,110,116],.int .i64 1,.fn 83,.str [102,101,110,99,101],.int .i64 1,.fn 84,.str [109,97,116,114,105,120],.int .i64 0,.fn 79]
def zRN (xs:List AV) (r:Ret):Prop:=∃ y0,zGJ=some y0/\xs=[]/\r = .val (.agg ((zBv y0).map .s))
def zLU:zAq:=zAr fun xs r=>zRN xs r
def zQ0:PSound prog 49 zLU:=by
 have gok:=@gok0 prog;refine psq tokW call49 func49 rfl ?_;rintro xs r w0 G0 ⟨y0,h,rfl,rfl⟩ _;rw[zGJ]at h;refine yCZ [0] [] rfl ?_;exact gI
def zAW (p:(Unit×Int)):List S:=[.str [],.int .i64 0,.nf,.str [114,111,119],.int .i64 0,.fn 79,.str [115,121,109],.int .i64 0,.fn 80,.str [110,117,109],.int .i64 0,.fn 81,.str [116,101,120,116],.int .i64 0,.fn 82,.str [102,114,97,99],.int .i64 2,.fn 79,.str [114,111,111,116],.int .i64 2,.fn 79,.str [115,117,98],.int .i64 2,.fn 79,.str [115,117,112],.int .i64 2,.fn 79,.str [98,111,116,104],.int .i64 3,.fn 79,.str [97,99,99,101,110,116],.int .i64 1,.fn 83,.str [102,101,110,99,101],.int .i64 1,.fn 84,.str [109,97,116,114,105,120],.int .i64 0,.fn 79,.int .i64 p.2]
def zKa (n:Nat) (xs:List AV) (os:List Ob) (x:AV) (os':List (Option Ob)):Prop:=∃ a0 a1 y0 z0,zCn n a0 a1=some (y0,z0)/\xs=[.op 0 0,.s (.pt (Nd.enc a1))]/\os=[.box 118 ((zAW a0).map .s)]/\x = .s (.bool y0)/\os'=[some (.box 118 ((zAW z0).map .s))]
def zGE:zAq:=zD8 (fun xs os x os'=>∃ n,zKa n xs os x os')
abbrev kq0 (a:AV):List AV:=[.s (.str []),nI 0,.s (.nf),.s (.str [114,111,119]),nI 0,.s (.fn 79),.s (.str [115,121,109]),nI 0,.s (.fn 80),.s (.str [110,117,109]),nI 0,.s (.fn 81),.s (.str [116,101,120,116]),nI 0,.s (.fn 82),.s (.str [102,114,97,99]),nI 2,.s (.fn 79),.s (.str [114,111,111,116]),nI 2,.s (.fn 79),.s (.str [115,117,98]),nI 2,.s (.fn 79),.s (.str [115,117,112]),nI 2,.s (.fn 79),.s (.str [98,111,116,104]),nI 3,.s (.fn 79),.s (.str [97,99,99,101,110,116]),nI 1,.s (.fn 83),.s (.str [102,101,110,99,101]),nI 1,.s (.fn 84),.s (.str [109,97,116,114,105,120]),nI 0,.s (.fn 79),a]
def jC {P:Prop} (h:P:=by cases h;exact(Le.rnq [(0,0)] _ _ _)):P:=h
def jV {P:Prop} (h:P:=by refine And.intro (by decide) ?_;exact jC):P:=h
def kC {P:Prop} (h:P:=by intro b hb;subst hb;exact jC):P:=h
def zJZ:PSound prog 85 zGE:=by
 have gok:=gk1 zQY<|gk1 zOX<|gk1 zOW<|gk1 zQ1<|gk1 zJz<|gk1 zQZ<|gk0;refine PSound.withNil (osq tokW call85 func85 rfl ?_) _;rintro xs os x os' w0 G0 B0 ⟨n,⟨_,o1H⟩,⟨a2A,a2C,a2D,a2B⟩,y0,z0,h,rfl,rfl,rfl,rfl⟩ _;rw[zCn]at h;refine yEW ?_;refine zAa<|zAa ?_;obtain⟨x3,hj,h⟩:=zAc h;refine zAl ⟨ofL [(0,.op 0 0),(1,pN a2A a2C a2D a2B),(34,nB x3)],ofH [(0,.box 118 (kq0 (nI o1H)))],1⟩ ?_ (fun V' hle=>?_)
 ·replace h:=hj;refine zAw [] [10,17,22] [22] rfl (by decide +kernel) ?_;refine nbS h (fun hb h=>?_) (fun hb h=>?_)
  ·exact kC
  refine nbS h (fun hb h=>?_) (fun hb h=>?_)
  ·exact jC
  intro vsp hvsp;cases hc:(a2A == 1) with
  | true =>
   replace h:=zFl hc h;obtain rfl:(1:Int)=vsp:=(hvsp.trans (aE hc)).symm;refine And.intro (by decide) ?_;obtain⟨y4,hy4,h⟩:=zAc h;refine⟨_,⟨_,_,hy4,rfl,rfl⟩,?_⟩;exact jC
  | false=>
  replace h:=zFk hc h;cases hc:(a2A == 2) with
  | true =>
   replace h:=zFl hc h;obtain rfl:(2:Int)=vsp:=(hvsp.trans (aE hc)).symm;refine And.intro (by decide) ?_;obtain⟨y5,hy5,h⟩:=zAc h;refine⟨_,⟨_,_,_,hy5,rfl,rfl⟩,?_⟩;exact jC
  | false=>
  replace h:=zFk hc h;cases hc:(a2A == 3) with
  | true =>
   replace h:=zFl hc h;obtain rfl:(3:Int)=vsp:=(hvsp.trans (aE hc)).symm;refine And.intro (by decide) ?_;obtain⟨y6,hy6,h⟩:=zAc h;refine⟨_,⟨_,_,_,hy6,rfl,rfl⟩,?_⟩;exact jC
  | false=>
  replace h:=zFk hc h;cases hc:(a2A == 4) with
  | true =>
   replace h:=zFl hc h;obtain rfl:(4:Int)=vsp:=(hvsp.trans (aE hc)).symm;refine And.intro (by decide) ?_;obtain⟨y7,hy7,h⟩:=zAc h;refine⟨_,⟨_,_,_,hy7,rfl,rfl⟩,?_⟩;exact jC
  | false=>
  replace h:=zFk hc h;cases hc:(a2A == 5) with
  | true =>
   replace h:=zFl hc h;obtain rfl:(5:Int)=vsp:=(hvsp.trans (aE hc)).symm;refine And.intro (by decide) ?_;obtain⟨y8,hy8,h⟩:=zAc h;refine⟨_,⟨_,_,hy8,rfl,rfl⟩,?_⟩;exact jC
  | false=>
  replace h:=zFk hc h;cases hc:(a2A == 6) with
  | true =>
   replace h:=zFl hc h;obtain rfl:(6:Int)=vsp:=(hvsp.trans (aE hc)).symm;refine And.intro (by decide) ?_;obtain⟨y9,hy9,h⟩:=zAc h;refine⟨_,⟨_,_,hy9,rfl,rfl⟩,?_⟩;exact jC
  | false=>
  replace h:=zFk hc h;cases hc:(a2A == 7) with
  | true =>
   replace h:=zFl hc h;obtain rfl:(7:Int)=vsp:=(hvsp.trans (aE hc)).symm;refine And.intro (by decide) ?_;obtain⟨y10,hy10,h⟩:=zAc h;refine⟨_,⟨_,_,hy10,rfl,rfl⟩,?_⟩;exact jC
  | false=>
  replace h:=zFk hc h;cases hc:(a2A == 8) with
  | true =>
   replace h:=zFl hc h;obtain rfl:(8:Int)=vsp:=(hvsp.trans (aE hc)).symm;refine And.intro (by decide) ?_;obtain⟨y11,hy11,h⟩:=zAc h;refine⟨_,⟨_,_,hy11,rfl,rfl⟩,?_⟩;exact jC
  | false=>
  replace h:=zFk hc h;cases hc:(a2A == 9) with
  | true =>
   replace h:=zFl hc h;obtain rfl:(9:Int)=vsp:=(hvsp.trans (aE hc)).symm;refine And.intro (by decide) ?_;obtain⟨y12,hy12,h⟩:=zAc h;refine⟨_,⟨_,_,hy12,rfl,rfl⟩,?_⟩;exact jC
  | false=>
  replace h:=zFk hc h;cases hc:(a2A == 10) with
  | true =>
   replace h:=zFl hc h;obtain rfl:(10:Int)=vsp:=(hvsp.trans (aE hc)).symm;refine And.intro (by decide) ?_;obtain⟨y13,hy13,h⟩:=zAc h;refine⟨_,⟨_,_,hy13,rfl,rfl⟩,?_⟩;exact jC
  | false=>
  replace h:=zFk hc h;cases hc:(a2A == 11) with
  | true =>
   replace h:=zFl hc h;obtain rfl:(11:Int)=vsp:=(hvsp.trans (aE hc)).symm;refine And.intro (by decide) ?_;obtain⟨y14,hy14,h⟩:=zAc h;refine⟨_,⟨_,_,hy14,rfl,rfl⟩,?_⟩;exact jC
  | false=>
  replace h:=zFk hc h;cases hc:(a2A == 12) with
  | true =>
   replace h:=zFl hc h;obtain rfl:(12:Int)=vsp:=(hvsp.trans (aE hc)).symm;refine And.intro (by decide) ?_;obtain⟨y15,hy15,h⟩:=zAc h;refine⟨_,⟨_,_,hy15,rfl,rfl⟩,?_⟩;exact jC
  | false=>replace h:=zFk hc h;cases h
 refine zAj hle<|zAf rfl h (fun hb h=>?_) (fun hb h=>?_)
 ·refine yEW ?_;refine zAd ?_;obtain⟨hj1,hk1⟩:=pij h;subst hj1 hk1;unfold zCf;exact⟨_,(Le.rnq [(0,0)] [(4,nB false)] [(0,.box 118 (kq0 (nI o1H)))] 1),rfl,rfl,rfl,rfl,trivial⟩
 refine zAe<|zAa<|yEW ?_;refine zAk<|yEW ?_;refine zAf rfl h (fun hb h=>?_) (fun hb h=>?_)
 ·refine zAa ?_;obtain⟨x16,hj,h⟩:=zAc h;refine zAl ⟨ofL [(4,nB x16)],ofH [(0,.box 118 (kq0 (nI o1H)))],1⟩ ?_ (fun V' hle=>?_)
  ·replace h:=hj;refine zAb [] [46,51] rfl ?_;refine nbS h (fun hb h=>?_) (fun hb h=>?_)
   ·refine len1 Nd.encs_eq a2B ?_;exact jC
   exact jC
  refine zAj hle<|zAd ?_;obtain⟨hj1,hk1⟩:=pij h;subst hj1 hk1;unfold zCf;exact⟨_,(Le.rnq [(0,0)] [(4,nB x16)] [(0,.box 118 (kq0 (nI o1H)))] 1),rfl,rfl,rfl,rfl,trivial⟩
 refine yEW ?_;refine zAf rfl h (fun hb h=>?_) (fun hb h=>?_)
 ·refine zAa ?_;obtain⟨x18,hj,h⟩:=zAc h;refine zAl ⟨ofL [(4,nB x18)],ofH [(0,.box 118 (kq0 (nI o1H)))],1⟩ ?_ (fun V' hle=>?_)
  ·replace h:=hj;refine zAw [] [61,68,73,76,81,84,89] [] rfl (by decide +kernel) ?_;refine nbS h (fun hb h=>?_) (fun hb h=>?_)
   ·refine nbS h (fun hb h=>?_) (fun hb h=>?_)
    ·refine len1 Nd.encs_eq a2B ?_;refine nbS h (fun hb h=>?_) (fun hb h=>?_)
     ·refine len1 Nd.encs_eq a2B ?_;refine nbS h (fun hb h=>?_) (fun hb h=>?_)
      ·refine len1 Nd.encs_eq a2B ?_;obtain⟨hq,h⟩:=zAs h;refine And.intro hq ?_;exact jC
      exact jC
     exact kC
    intro b hb;subst hb;exact kC
   intro b hb;subst hb;intro b hb;subst hb;exact kC
  refine zAj hle<|zAd ?_;obtain⟨hj1,hk1⟩:=pij h;subst hj1 hk1;unfold zCf;exact⟨_,(Le.rnq [(0,0)] [(4,nB x18)] [(0,.box 118 (kq0 (nI o1H)))] 1),rfl,rfl,rfl,rfl,trivial⟩
 refine zAe<|zAa ?_;obtain⟨x22,hj,h⟩:=zAc h;refine zAl ⟨ofL [(4,nB x22)],ofH [(0,.box 118 (kq0 (nI o1H)))],1⟩ ?_ (fun V' hle=>?_)
 ·replace h:=hj;refine zAw [] [102,107,112] [20] rfl (by decide +kernel) ?_;refine nbS h (fun hb h=>?_) (fun hb h=>?_)
  ·refine len1 Nd.encs_eq a2B ?_;intro vsp hvsp;cases hc:(a2A == 1) with
   | true=>replace h:=zFl hc h;obtain rfl:(1:Int)=vsp:=(hvsp.trans (aE hc)).symm;exact jV
   | false=>
   replace h:=zFk hc h;cases hc:(a2A == 2) with
   | true=>replace h:=zFl hc h;obtain rfl:(2:Int)=vsp:=(hvsp.trans (aE hc)).symm;exact jV
   | false=>
   replace h:=zFk hc h;cases hc:(a2A == 3) with
   | true=>replace h:=zFl hc h;obtain rfl:(3:Int)=vsp:=(hvsp.trans (aE hc)).symm;exact jV
   | false=>
   replace h:=zFk hc h;cases hc:(a2A == 4) with
   | true=>replace h:=zFl hc h;obtain rfl:(4:Int)=vsp:=(hvsp.trans (aE hc)).symm;exact jV
   | false=>
   replace h:=zFk hc h;cases hc:(a2A == 5) with
   | true=>replace h:=zFl hc h;obtain rfl:(5:Int)=vsp:=(hvsp.trans (aE hc)).symm;exact jV
   | false=>
   replace h:=zFk hc h;cases hc:(a2A == 6) with
   | true=>replace h:=zFl hc h;obtain rfl:(6:Int)=vsp:=(hvsp.trans (aE hc)).symm;exact jV
   | false=>
   replace h:=zFk hc h;cases hc:(a2A == 7) with
   | true=>replace h:=zFl hc h;obtain rfl:(7:Int)=vsp:=(hvsp.trans (aE hc)).symm;exact jV
   | false=>
   replace h:=zFk hc h;cases hc:(a2A == 8) with
   | true=>replace h:=zFl hc h;obtain rfl:(8:Int)=vsp:=(hvsp.trans (aE hc)).symm;exact jV
   | false=>
   replace h:=zFk hc h;cases hc:(a2A == 9) with
   | true=>replace h:=zFl hc h;obtain rfl:(9:Int)=vsp:=(hvsp.trans (aE hc)).symm;exact jV
   | false=>
   replace h:=zFk hc h;cases hc:(a2A == 10) with
   | true=>replace h:=zFl hc h;obtain rfl:(10:Int)=vsp:=(hvsp.trans (aE hc)).symm;exact jV
   | false=>
   replace h:=zFk hc h;cases hc:(a2A == 11) with
   | true=>replace h:=zFl hc h;obtain rfl:(11:Int)=vsp:=(hvsp.trans (aE hc)).symm;exact jV
   | false=>
   replace h:=zFk hc h;cases hc:(a2A == 12) with
   | true=>replace h:=zFl hc h;obtain rfl:(12:Int)=vsp:=(hvsp.trans (aE hc)).symm;exact jV
   | false=>replace h:=zFk hc h;cases h
  exact jC
 refine zAj hle<|zAd ?_;obtain⟨hj1,hk1⟩:=pij h;subst hj1 hk1;unfold zCf;exact⟨_,(Le.rnq [(0,0)] [(4,nB x22)] [(0,.box 118 (kq0 (nI o1H)))] 1),rfl,rfl,rfl,rfl,trivial⟩
def zB5 (n:Nat) (xs:List AV) (os:List Ob) (x:AV) (os':List (Option Ob)):Prop:=∃ a0 a1 a2 y0 z0,zAT n a0 a1 a2=some (y0,z0)/\xs=[.op 0 0,.s (.pt (Nd.enc a1)),nI a2]/\os=[.box 118 ((zAW a0).map .s)]/\x = .s (.bool y0)/\os'=[some (.box 118 ((zAW z0).map .s))]
def qD {P:Prop} (h:P:=by exact(Le.rnq [(0,0)] _ _ _)):P:=h
def zHY (n:Nat) (ih:PSound prog 50 (zD8 (zB5 n))):PSound prog 50 (zD8 (zB5 (n+1))):=by
 have gok:=gk1 zJZ<|gk1 ih<|gk0;refine PSound.withNil (osq tokW call50 func50 rfl ?_) _;rintro xs os x os' w0 G0 B0 ⟨⟨_,o1H⟩,⟨a2A,a2C,a2D,a2B⟩,a3,y0,z0,h,rfl,rfl,rfl,rfl⟩ _;rw[zAT]at h;refine yEW ?_;refine yEW ?_;refine zAa<|zAa ?_;obtain⟨⟨x4,x5⟩,hj,h⟩:=zAc h;refine zAl ⟨ofL [(0,.op 0 0),(1,pN a2A a2C a2D a2B),(2,nI a3),(29,nB x4)],ofH [(0,.box 118 (kq0 (nI x5)))],1⟩ ?_ (fun V' hle=>?_)
 ·replace h:=hj;refine zAb [] [20,24] rfl ?_;refine nbS h (fun hb h=>?_) (fun hb h=>?_)
  ·exact kC
  refine nbS h (fun hb h=>?_) (fun hb h=>?_)
  ·exact jC
  obtain⟨⟨y6,⟨_,w7H⟩⟩,hy6,h⟩:=zAc h;refine⟨_,_,⟨_,_,_,_,_,hy6,rfl,rfl,rfl,rfl⟩,?_⟩;exact jC
 refine zAj hle<|zAf rfl h (fun hb h=>?_) (fun hb h=>?_)
 ·refine yEW ?_;refine zAd ?_;obtain⟨hj1,hk1⟩:=pij h;subst hj1 hk1;unfold zCf;exact⟨_,(Le.rnq [(0,0)] [(6,nB false)] [(0,.box 118 (kq0 (nI x5)))] 1),rfl,rfl,rfl,rfl,trivial⟩
 refine zAe<|zAa<|yCZ [] [34] rfl ?_;refine len1 Nd.encs_eq a2B ?_;show Tri ..;obtain⟨fl,hl,ho1⟩:=zAc h;refine zBN (fl:=fl) (fun z=>match z with | x11=>⟨ofL [],ofH [(0,.box 118 (kq0 (nI x11)))],1⟩) ?_ (fun x11 V' hz hle=>?_)
 ·refine zAk (zAv (X:=Nat×Int×Int) (fun y=>match y with | (k,x9,x10)=>⟨ofL [(0,.op 0 0),(1,pN a2A a2C a2D a2B),(2,nI a3),(34,nI (a2B.length:Int)),(35,nI x10)],ofH [(0,.box 118 (kq0 (nI x9)))],1⟩) (fun y=>zAK (zAT n) a2A a2B a3 y.1 y.2.1 y.2.2=some fl) (fun y=>y.1) (n,x5,0) hl ?_ ?_)
  ·exact qD
  rintro⟨k,x9,x10⟩ h;cases k with
  | zero=>cases h
  | succ k=>
  replace h:zAK (zAT n) a2A a2B a3 (k+1) x9 x10=some fl:=h;rw[zAK]at h;refine yEW ?_;refine zAa<|zAf rfl h (fun hb h=>?_) (fun hb h=>?_)
  ·refine zAe<|zAa<|zAk<|yEW ?_;refine zAa ?_;obtain⟨⟨x12,x13⟩,hj,h⟩:=zAc h;refine zAl ⟨ofL [(0,.op 0 0),(1,pN a2A a2C a2D a2B),(2,nI a3),(34,nI (a2B.length:Int)),(35,nI x10),(65,nB x12)],ofH [(0,.box 118 (kq0 (nI x13)))],1⟩ ?_ (fun V' hle=>?_)
   ·replace h:=hj;refine zAw [] [48,53,60] [25] rfl (by decide +kernel) ?_;obtain⟨⟨e14A,e14C,e14D,e14B⟩,he14,h⟩:=zAc h;refine at1 (nN e14A e14C e14D e14B) Nd.encs_eq he14 ?_;refine nbS h (fun hb h=>?_) (fun hb h=>?_)
    ·exact jC
    obtain⟨⟨e16A,e16C,e16D,e16B⟩,he16,h⟩:=zAc h;refine at1 (nN e16A e16C e16D e16B) Nd.encs_eq he16 ?_;obtain⟨⟨y18,⟨_,w19H⟩⟩,hy18,h⟩:=zAc h;refine⟨_,_,⟨_,_,_,_,_,hy18,rfl,rfl,rfl,rfl⟩,?_⟩;exact jC
   refine zAj hle<|zAf rfl h (fun hb h=>?_) (fun hb h=>?_)
   ·refine yEW ?_;refine zAd ?_;cases h;replace h:some _=some _:=ho1;obtain⟨hj1,hk1⟩:=pij h;subst hj1 hk1;unfold zCf;exact⟨_,(Le.rnq [(0,0)] [(6,nB false)] [(0,.box 118 (kq0 (nI x13)))] 1),rfl,rfl,rfl,rfl,trivial⟩
   refine zAe<|yEV ?_;refine⟨(k,x13,i64.wrap (x10+1)),h,(Le.rnq [(0,0)] _ _ _),ax k⟩
  refine zAy ?_;cases h;exact⟨_,rfl,(Le.rnq [(0,0)] _ _ _)⟩
 subst hz;replace h:=ho1;refine zAj hle<|yEW ?_;refine zAd ?_;obtain⟨hj1,hk1⟩:=pij h;subst hj1 hk1;unfold zCf;exact⟨_,(Le.rnq [(0,0)] [(6,nB true)] [(0,.box 118 (kq0 (nI x11)))] 1),rfl,rfl,rfl,rfl,trivial⟩
def zIa:∀ n,PSound prog 50 (zD8 (zB5 n)):=by
 intro n;induction n with
 | zero=>exact zUL call50 (fun xs os x os' h=>by obtain⟨_,_,_,_,_,h,_⟩:=h; cases h) _
 | succ n ih=>exact zHY n ih
def zF9:zAq:=zD8 (fun xs os x os'=>∃ n,zB5 n xs os x os')
def zJg:PSound prog 50 zF9:=zW0 zIa _
def zRK:Prop:=∃ a0 y0,zAZ n a0=some y0/\xs=[.agg ((Nd.enc a0).map .s)]/\r = .val (nB y0)
def zDq:zAq:=pG zRK
def kA {P:Prop} (h:P:=by cases h;exact(Le.rnq [] _ [] 0)):P:=h
def zC5:PSound prog 27 zDq:=by
 have gok:=gk1 zQ0<|gk1 zJg<|gk0;refine psq tokW call27 func27 rfl ?_;rintro xs r w0 G0 ⟨n,⟨n1A,n1C,n1D,n1B⟩,y0,h,rfl,rfl⟩ _;rw[zAZ]at h;refine yEW ?_;refine yCZ [6] [] rfl ?_;obtain⟨_,hy2,h⟩:=zAc h;refine⟨_,⟨_,hy2,rfl,rfl⟩,?_⟩;refine zAa ?_;obtain⟨x3,hj,h⟩:=zAc h;refine pL [(2,nB x3)] ?_ (fun V' hle=>?_)
 ·replace h:=hj;refine zAb [] [10] rfl ?_;refine nbS h (fun hb h=>?_) (fun hb h=>?_)
  ·obtain⟨⟨y4,⟨_,w5H⟩⟩,hy4,h⟩:=zAc h;refine⟨_,_,⟨_,_,_,_,_,_,hy4,rfl,rfl,rfl,rfl⟩,?_⟩;exact kA
  exact kA
 exact jP
def zLg:Prop:=∃ a0 y0,zB4 n a0=some y0/\xs=[.s (.sl 4 (Nd.encs a0))]/\r = .val (nB y0)
def zEZ:zAq:=pG zLg
def zGL:PSound prog 178 zEZ:=by
 have gok:=gk1 zC5<|gk0;refine psq tokW call178 func178 rfl ?_;rintro xs r w0 G0 ⟨n,l1,y0,h,rfl,rfl⟩ _;rw[zB4]at h;refine yEW ?_;refine yEW ?_;obtain⟨y2,hy2,h⟩:=zAc h;refine⟨_,⟨_,_,_,hy2,rfl,rfl⟩,?_⟩;exact jN
def zRJ (xs:List AV) (r:Ret):Prop:=∃ a0 y0,zDu a0=some y0/\xs=[.agg ((Nd.enc a0).map .s)]/\r = .val (nI y0)
def zGD:zAq:=zAr fun xs r=>zRJ xs r
def zHH:PSound prog 217 zGD:=by
 have gok:=@gok0 prog;refine psq tokW call217 func217 rfl ?_;rintro xs r w0 G0 ⟨⟨n1A,n1C,n1D,n1B⟩,y0,h,rfl,rfl⟩ _;rw[zDu]at h;refine yEW ?_;refine zAa<|yEW ?_;refine zAf rfl h (fun hb h=>?_) (fun hb h=>?_)
 ·exact gI
 refine zAe<|yCZ [] [8] rfl ?_;refine len1 Nd.encs_eq n1B ?_;exact jN
def zRP (xs:List AV) (r:Ret):Prop:=∃ a0 y0,zEs a0=some y0/\xs=[.s (.int .u8 a0)]/\r = .val (nB y0)
def zH4:zAq:=zAr fun xs r=>zRP xs r
def zKT:PSound prog 202 zH4:=by
 have gok:=@gok0 prog;refine psq tokW call202 func202 rfl ?_;rintro xs r w0 G0 ⟨c1,y0,h,rfl,rfl⟩ _;rw[zEs]at h;refine yEW ?_;refine zAa ?_;obtain⟨x2,hj,h⟩:=zAc h;refine pL [(2,nB x2)] ?_ (fun V' hle=>?_)
 ·replace h:=hj;refine zAb [] [5,9,12] rfl ?_;refine nbS h (fun hb h=>?_) (fun hb h=>?_)
  ·refine nbS h (fun hb h=>?_) (fun hb h=>?_)
   ·exact jD
   refine nbS h (fun hb h=>?_) (fun hb h=>?_)
   ·exact jD
   exact jD
  intro b hb;subst hb;refine nbS h (fun hb h=>?_) (fun hb h=>?_)
  ·exact jD
  exact jD
 exact jP
def zXu:Prop:=∃ a0 a1 y0,zDy n a0 a1=some y0/\xs=[nS a0,.s (.int .u8 a1)]/\r = .val (nB y0)
def zNh:zAq:=pG zXu
def gP {P:Prop} (h:P:=by refine zAe<|yEV ?_;refine⟨(k,i64.wrap (i3+1)),h,Le.fgt,ax k⟩):P:=h
def zPS:PSound prog 162 zNh:=by
 have gok:=@gok0 prog;refine psq tokW call162 func162 rfl ?_;rintro xs r w0 G0 ⟨n,s1,c2,y0,h,rfl,rfl⟩ _;rw[zDy]at h;refine yEW ?_;refine zAa<|yEW ?_;show Tri ..;obtain⟨fl,hl,ho1⟩:=zAc h;refine zBN (fl:=fl) (fun z=>match z with | _=>⟨ofL [],fun _=>none,0⟩) ?_ (fun z V' hz hle=>?_)
 ·refine zAk (zAv (X:=Nat×Int) (fun y=>match y with | (k,i3)=>⟨ofL [(0,nS s1),(1,.s (.int .u8 c2)),(5,nI i3)],fun _=>none,0⟩) (fun y=>zCP s1 c2 y.1 y.2=some fl) (fun y=>y.1) (n,0) hl ?_ ?_)
  ·exact Le.fgt
  rintro⟨k,i3⟩ h;cases k with
  | zero=>cases h
  | succ k=>
  replace h:zCP s1 c2 (k+1) i3=some fl:=h;rw[zCP]at h;refine zAa<|yEW ?_;refine zAf rfl h (fun hb h=>?_) (fun hb h=>?_)
  ·refine zAe<|zAa<|zAk<|yCZ [] [14] rfl ?_;obtain⟨c4,hc4,h⟩:=zAc h;refine And.intro (zB2 hc4).1 ?_;intro v5 hv5;obtain rfl:(c4.toNat:Int)=v5:=(hv5.trans (zB2 hc4).2).symm;refine zAf rfl h (fun hb h=>?_) (fun hb h=>?_)
   ·exact jE
   exact gP
  exact gV
 exact jG
def zM8:Prop:=∃ a0 y0,zEJ n a0=some y0/\xs=[.s (.int .u8 a0)]/\r = .val (nB y0)
def zH3:zAq:=pG zM8
def zMI:PSound prog 201 zH3:=by
 have gok:=gk1 zKT<|gk1 zPS<|gk0;refine psq tokW call201 func201 rfl ?_;rintro xs r w0 G0 ⟨n,c1,y0,h,rfl,rfl⟩ _;rw[zEJ]at h;refine yEW ?_;refine zAa ?_;obtain⟨x2,hj,h⟩:=zAc h;refine pL [(2,nB x2)] ?_ (fun V' hle=>?_)
 ·replace h:=hj;refine zAb [] [5] rfl ?_;obtain⟨y3,hy3,h⟩:=zAc h;refine⟨_,⟨_,_,hy3,rfl,rfl⟩,?_⟩;refine nbS h (fun hb h=>?_) (fun hb h=>?_)
  ·exact jD
  obtain⟨y4,hy4,h⟩:=zAc h;refine⟨_,⟨_,_,_,_,hy4,rfl,rfl⟩,?_⟩;exact jD
 exact jP
def zB3 (p:List UInt8):List S:=[.str p]
def zOI (xs:List AV) (r:Ret):Prop:=∃ y0,zFg=some y0/\xs=[]/\r = .val (.s (.sl 1 ((List.map zB3) y0)))
def zJo:zAq:=zAr fun xs r=>zOI xs r
def yD7 {α:Type}{a b:α} (h:a=b:=by simp[bn,map_take,map_drop,irow,brow,zGH,ba,map_nil,zGe,Nd.encs_eq,Nd.enc,zBv,zAW,zB3]):a=b :=
 h
def zN5:PSound prog 203 zJo:=by
 have gok:=@gok0 prog;refine psq tokW call203 func203 rfl ?_;rintro xs r w0 G0 ⟨y0,h,rfl,rfl⟩ _;rw[zFg]at h;refine yEW ?_;refine yCZ [] [1] rfl ?_;intro r1 hr1;obtain rfl:(List.map zB3) [[102,114,97,99],[114,111,111,116],[109,97,116,114,105,120],[102,101,110,99,101]]=r1:=(hr1.trans yD7).symm;refine zAd ?_;have hy:=osi h;subst hy;unfold zBF;exact gX
def zZJ:Prop:=∃ a0 a1 y0,zFf n a0 a1=some y0/\xs=[.s (.sl 1 ((List.map zB3) a0)),nS a1]/\r = .val (nB y0)
def zQu:zAq:=pG zZJ
def zTe:PSound prog 160 zQu:=by
 have gok:=@gok0 prog;refine psq tokW call160 func160 rfl ?_;rintro xs r w0 G0 ⟨n,l1,s2,y0,h,rfl,rfl⟩ _;rw[zFf]at h;refine yEW ?_;refine zAa<|yEW ?_;show Tri ..;obtain⟨fl,hl,ho1⟩:=zAc h;refine zBN (fl:=fl) (fun z=>match z with | _=>⟨ofL [],fun _=>none,0⟩) ?_ (fun z V' hz hle=>?_)
 ·refine zAk (zAv (X:=Nat×Int) (fun y=>match y with | (k,i3)=>⟨ofL [(0,.s (.sl 1 ((List.map zB3) l1))),(1,nS s2),(5,nI i3)],fun _=>none,0⟩) (fun y=>zDw l1 s2 y.1 y.2=some fl) (fun y=>y.1) (n,0) hl ?_ ?_)
  ·exact Le.fgt
  rintro⟨k,i3⟩ h;cases k with
  | zero=>cases h
  | succ k=>
  replace h:zDw l1 s2 (k+1) i3=some fl:=h;rw[zDw]at h;refine zAa<|yCZ [] [8] rfl ?_;refine len1 (fun _=>rfl) l1 ?_;refine zAf rfl h (fun hb h=>?_) (fun hb h=>?_)
  ·refine zAe<|zAa<|zAk<|yCZ [] [14] rfl ?_;obtain⟨e5,he5,h⟩:=zAc h;refine at1 [.str e5] (fun _=>rfl) he5 ?_;refine zAf rfl h (fun hb h=>?_) (fun hb h=>?_)
   ·exact jE
   exact gP
  exact gV
 exact jG
def zQn (xs:List AV) (r:Ret):Prop:=∃ y0,zDM=some y0/\xs=[]/\r = .val (.s (.sl 1 ((List.map zB3) y0)))
def zHs:zAq:=zAr fun xs r=>zQn xs r
def zJA:PSound prog 161 zHs:=by
 have gok:=@gok0 prog;refine psq tokW call161 func161 rfl ?_;rintro xs r w0 G0 ⟨y0,h,rfl,rfl⟩ _;rw[zDM]at h;refine yEW ?_;refine yCZ [] [1] rfl ?_;intro r1 hr1;obtain rfl:(List.map zB3) [[104,97,116],[98,97,114],[118,101,99],[100,111,116],[116,105,108,100,101],[99,104,101,99,107]]=r1:=(hr1.trans yD7).symm;refine zAd ?_;have hy:=osi h;subst hy;exact fin0 rfl rfl
def zRR:Prop:=∃ a0 y0,zFw n a0=some y0/\xs=[nS a0]/\r = .val (nB y0)
def zLX:zAq:=pG zRR
def jW {P:Prop} (h:P:=by refine zAe<|yEV ?_;refine⟨(k,i64.wrap (i5+1)),h,Le.fgt,ax k⟩):P:=h
def zQ3:PSound prog 157 zLX:=by
 have gok:=gk1 zMI<|gk1 zKT<|gk1 zN5<|gk1 zTe<|gk1 zJA<|gk0;refine psq tokW call157 func157 rfl ?_;rintro xs r w0 G0 ⟨n,s1,y0,h,rfl,rfl⟩ _;rw[zFw]at h;refine yEW ?_;refine zAa<|yEW ?_;refine zAf rfl h (fun hb h=>?_) (fun hb h=>?_)
 ·refine yCZ [] [8] rfl ?_;obtain⟨c2,hc2,h⟩:=zAc h;refine And.intro (zB2 hc2).1 ?_;intro v3 hv3;obtain rfl:(c2.toNat:Int)=v3:=(hv3.trans (zB2 hc2).2).symm;obtain⟨y4,hy4,h⟩:=zAc h;refine⟨_,⟨_,_,_,hy4,rfl,rfl⟩,?_⟩;exact jN
 refine zAe<|zAa<|yEW ?_;show Tri ..;obtain⟨fl,hl,ho1⟩:=zAc h;refine zBN (fl:=fl) (fun z=>match z with | _=>⟨ofL [(0,nS s1)],fun _=>none,0⟩) ?_ (fun z V' hz hle=>?_)
 ·refine zAk (zAv (X:=Nat×Int) (fun y=>match y with | (k,i5)=>⟨ofL [(0,nS s1),(3,nI i5)],fun _=>none,0⟩) (fun y=>zBs s1 y.1 y.2=some fl) (fun y=>y.1) (n,0) hl ?_ ?_)
  ·exact Le.fgt
  rintro⟨k,i5⟩ h;cases k with
  | zero=>cases h
  | succ k=>
  replace h:zBs s1 (k+1) i5=some fl:=h;rw[zBs]at h;refine zAa<|yEW ?_;refine zAf rfl h (fun hb h=>?_) (fun hb h=>?_)
  ·refine zAe<|zAa<|zAk<|yCZ [] [18] rfl ?_;obtain⟨c6,hc6,h⟩:=zAc h;refine And.intro (zB2 hc6).1 ?_;intro v7 hv7;obtain rfl:(c6.toNat:Int)=v7:=(hv7.trans (zB2 hc6).2).symm;obtain⟨y8,hy8,h⟩:=zAc h;refine⟨_,⟨_,_,hy8,rfl,rfl⟩,?_⟩;refine zAf rfl h (fun hb h=>?_) (fun hb h=>?_)
   ·exact jE
   exact jW
  exact gV
 subst hz;obtain _:=z;replace h:=ho1;refine zAj hle<|zAa ?_;obtain⟨x9,hj,h⟩:=zAc h;refine pL [(2,nB x9)] ?_ (fun V' hle=>?_)
 ·replace h:=hj;refine zAb [] [24,29,35] rfl ?_;refine nbS h (fun hb h=>?_) (fun hb h=>?_)
  ·refine nbS h (fun hb h=>?_) (fun hb h=>?_)
   ·obtain⟨y10,hy10,h⟩:=zAc h;refine⟨_,⟨_,hy10,rfl,rfl⟩,?_⟩;obtain⟨y11,hy11,h⟩:=zAc h;refine⟨_,⟨_,_,_,_,hy11,rfl,rfl⟩,?_⟩;refine nbS h (fun hb h=>?_) (fun hb h=>?_)
    ·obtain⟨y12,hy12,h⟩:=zAc h;refine⟨_,⟨_,hy12,rfl,rfl⟩,?_⟩;obtain⟨y13,hy13,h⟩:=zAc h;refine⟨_,⟨_,_,_,_,hy13,rfl,rfl⟩,?_⟩;exact jD
    exact jD
   exact jJ
  exact jT
 exact jP
def zTU (xs:List AV) (r:Ret):Prop:=∃ a0 y0,zGk a0=some y0/\xs=[.s (.int .u8 a0)]/\r = .val (nB y0)
def zNg:zAq:=zAr fun xs r=>zTU xs r
def zTd:PSound prog 204 zNg:=by
 have gok:=@gok0 prog;refine psq tokW call204 func204 rfl ?_;rintro xs r w0 G0 ⟨c1,y0,h,rfl,rfl⟩ _;rw[zGk]at h;refine yEW ?_;refine zAa ?_;obtain⟨x2,hj,h⟩:=zAc h;refine pL [(2,nB x2)] ?_ (fun V' hle=>?_)
 ·replace h:=hj;refine zAb [] [5] rfl ?_;refine nbS h (fun hb h=>?_) (fun hb h=>?_)
  ·exact jD
  exact jD
 exact jP
def zRQ:Prop:=∃ a0 y0,zFu n a0=some y0/\xs=[nS a0]/\r = .val (nB y0)
def zLW:zAq:=pG zRQ
def zQ2:PSound prog 158 zLW:=by
 have gok:=gk1 zTd<|gk0;refine psq tokW call158 func158 rfl ?_;rintro xs r w0 G0 ⟨n,s1,y0,h,rfl,rfl⟩ _;rw[zFu]at h;refine yEW ?_;refine yEW ?_;refine zAa<|yEW ?_;show Tri ..;obtain⟨fl,hl,ho1⟩:=zAc h;refine zBN (fl:=fl) (fun z=>match z with | points4=>⟨ofL [(0,nS s1),(3,nI points4)],fun _=>none,0⟩) ?_ (fun points4 V' hz hle=>?_)
 ·refine zAk (zAv (X:=Nat×Int×Int) (fun y=>match y with | (k,points2,i3)=>⟨ofL [(0,nS s1),(3,nI points2),(4,nI i3)],fun _=>none,0⟩) (fun y=>zB9 s1 y.1 y.2.1 y.2.2=some fl) (fun y=>y.1) (n,0,0) hl ?_ ?_)
  ·exact Le.fgt
  rintro⟨k,points2,i3⟩ h;cases k with
  | zero=>cases h
  | succ k=>
  replace h:zB9 s1 (k+1) points2 i3=some fl:=h;rw[zB9]at h;refine zAa<|yEW ?_;refine zAf rfl h (fun hb h=>?_) (fun hb h=>?_)
  ·refine zAe<|zAa ?_;obtain⟨fl,hj,ho2⟩:=zAc h;refine zBN (fl:=fl) (fun z=>match z with | points5=>⟨ofL [(0,nS s1),(3,nI points5),(4,nI i3)],fun _=>none,0⟩) ?_ (fun points5 V' hz hle=>?_)
   ·replace h:=hj;refine zAk<|zAa ?_;obtain⟨x6,hj,h⟩:=zAc h;refine pL [(0,nS s1),(3,nI points2),(4,nI i3),(25,nB x6)] ?_ (fun V' hle=>?_)
    ·replace h:=hj;refine zAb [] [13,15,19] rfl ?_;obtain⟨c7,hc7,h⟩:=zAc h;refine And.intro (zB2 hc7).1 ?_;intro v8 hv8;obtain rfl:(c7.toNat:Int)=v8:=(hv8.trans (zB2 hc7).2).symm;refine nbS h (fun hb h=>?_) (fun hb h=>?_)
     ·refine nbS h (fun hb h=>?_) (fun hb h=>?_)
      ·exact jD
      exact jD
     exact jJ
    refine zAj hle<|zAf rfl h (fun hb h=>?_) (fun hb h=>?_)
    ·refine yEV ?_;exact jO
    refine yCZ [] [30] rfl ?_;obtain⟨c9,hc9,h⟩:=zAc h;refine And.intro (zB2 hc9).1 ?_;intro v10 hv10;obtain rfl:(c9.toNat:Int)=v10:=(hv10.trans (zB2 hc9).2).symm;obtain⟨y11,hy11,h⟩:=zAc h;refine⟨_,⟨_,_,hy11,rfl,rfl⟩,?_⟩;refine zAf rfl h (fun hb h=>?_) (fun hb h=>?_)
    ·refine yEW ?_;refine zAd ?_;cases h;replace h:some _=some _:=ho2;cases h;replace h:some _=some _:=ho1;exact jB
    exact kW
   subst hz;replace h:=ho2;refine zAj hle<|yEV ?_;refine⟨(k,points5,i64.wrap (i3+1)),h,Le.fgt,ax k⟩
  exact gV
 subst hz;replace h:=ho1;refine zAj hle<|zAa ?_;obtain⟨x12,hj,h⟩:=zAc h;refine pL [(2,nB x12)] ?_ (fun V' hle=>?_)
 ·replace h:=hj;refine zAb [] [36,41] rfl ?_;refine nbS h (fun hb h=>?_) (fun hb h=>?_)
  ·refine nbS h (fun hb h=>?_) (fun hb h=>?_)
   ·exact jD
   exact jD
  exact jJ
 exact jP
def zM9:Prop:=∃ a0 y0,zDx n a0=some y0/\xs=[nS a0]/\r = .val (nB y0)
def zH5:zAq:=pG zM9
def zMJ:PSound prog 159 zH5:=by
 have gok:=@gok0 prog;refine psq tokW call159 func159 rfl ?_;rintro xs r w0 G0 ⟨n,s1,y0,h,rfl,rfl⟩ _;rw[zDx]at h;refine yEW ?_;refine zAa<|yEW ?_;show Tri ..;obtain⟨fl,hl,ho1⟩:=zAc h;refine zBN (fl:=fl) (fun z=>match z with | _=>⟨ofL [],fun _=>none,0⟩) ?_ (fun z V' hz hle=>?_)
 ·refine zAk (zAv (X:=Nat×Int) (fun y=>match y with | (k,i2)=>⟨ofL [(0,nS s1),(3,nI i2)],fun _=>none,0⟩) (fun y=>zBb s1 y.1 y.2=some fl) (fun y=>y.1) (n,0) hl ?_ ?_)
  ·exact Le.fgt
  rintro⟨k,i2⟩ h;cases k with
  | zero=>cases h
  | succ k=>
  replace h:zBb s1 (k+1) i2=some fl:=h;rw[zBb]at h;refine zAa<|yEW ?_;refine zAf rfl h (fun hb h=>?_) (fun hb h=>?_)
  ·refine zAe<|zAa<|zAk<|zAa ?_;obtain⟨x3,hj,h⟩:=zAc h;refine pL [(0,nS s1),(3,nI i2),(19,nB x3)] ?_ (fun V' hle=>?_)
   ·replace h:=hj;refine zAb [] [12,14,17] rfl ?_;obtain⟨c4,hc4,h⟩:=zAc h;refine And.intro (zB2 hc4).1 ?_;intro v5 hv5;obtain rfl:(c4.toNat:Int)=v5:=(hv5.trans (zB2 hc4).2).symm;refine nbS h (fun hb h=>?_) (fun hb h=>?_)
    ·exact jD
    exact gA
   refine zAj hle<|zAf rfl h (fun hb h=>?_) (fun hb h=>?_)
   ·exact jE
   exact gK
  exact gV
 exact jG
def zWd:Prop:=∃ a0 y0,zHj n a0=some y0/\xs=[.agg ((Nd.enc a0).map .s)]/\r = .val (nB y0)
def zPk:zAq:=pG zWd
def zUF:PSound prog 104 zPk:=by
 have gok:=gk1 zQ3<|gk1 zQ2<|gk1 zMJ<|gk1 zJA<|gk1 zTe<|gk1 zPS<|gk0;refine psq tokW call104 func104 rfl ?_;rintro xs r w0 G0 ⟨n,⟨n1A,n1C,n1D,n1B⟩,y0,h,rfl,rfl⟩ _;rw[zHj]at h;refine yEW ?_;refine zAa<|yEW ?_;refine zAk<|yEW ?_;refine zAf rfl h (fun hb h=>?_) (fun hb h=>?_)
 ·refine yEW ?_;obtain⟨y2,hy2,h⟩:=zAc h;refine⟨_,⟨_,_,_,hy2,rfl,rfl⟩,?_⟩;exact jN
 refine yEW ?_;refine zAf rfl h (fun hb h=>?_) (fun hb h=>?_)
 ·refine yEW ?_;obtain⟨y3,hy3,h⟩:=zAc h;refine⟨_,⟨_,_,_,hy3,rfl,rfl⟩,?_⟩;exact jN
 refine yEW ?_;refine zAf rfl h (fun hb h=>?_) (fun hb h=>?_)
 ·refine zAa ?_;obtain⟨x4,hj,h⟩:=zAc h;refine pL [(2,nB x4)] ?_ (fun V' hle=>?_)
  ·replace h:=hj;refine zAb [] [21] rfl ?_;refine nbS h (fun hb h=>?_) (fun hb h=>?_)
   ·obtain⟨y5,hy5,h⟩:=zAc h;refine⟨_,⟨_,_,_,hy5,rfl,rfl⟩,?_⟩;exact jD
   exact jD
  exact jP
 refine yEW ?_;refine zAf rfl h (fun hb h=>?_) (fun hb h=>?_)
 ·refine zAa<|zAw [] [] [] rfl (by decide +kernel) ?_;obtain⟨y6,hy6,h⟩:=zAc h;refine⟨_,⟨_,hy6,rfl,rfl⟩,?_⟩;obtain⟨y7,hy7,h⟩:=zAc h;refine⟨_,⟨_,_,_,_,hy7,rfl,rfl⟩,?_⟩;exact jN
 refine yEW ?_;refine zAf rfl h (fun hb h=>?_) (fun hb h=>?_)
 ·refine zAa ?_;obtain⟨x8,hj,h⟩:=zAc h;refine pL [(2,nB x8)] ?_ (fun V' hle=>?_)
  ·replace h:=hj;refine zAb [] [38,41,44,47] rfl ?_;refine nbS h (fun hb h=>?_) (fun hb h=>?_)
   ·obtain⟨c9,hc9,h⟩:=zAc h;refine And.intro (zB2 hc9).1 ?_;intro v10 hv10;obtain rfl:(c9.toNat:Int)=v10:=(hv10.trans (zB2 hc9).2).symm;obtain⟨y11,hy11,h⟩:=zAc h;refine⟨_,⟨_,_,_,_,hy11,rfl,rfl⟩,?_⟩;refine nbS h (fun hb h=>?_) (fun hb h=>?_)
    ·obtain⟨c12,hc12,h⟩:=zAc h;refine And.intro (zB2 hc12).1 ?_;intro v13 hv13;obtain rfl:(c12.toNat:Int)=v13:=(hv13.trans (zB2 hc12).2).symm;obtain⟨y14,hy14,h⟩:=zAc h;refine⟨_,⟨_,_,_,_,hy14,rfl,rfl⟩,?_⟩;exact jD
    exact jD
   exact jJ
  exact jP
 refine zAe<|yEW ?_;exact jN
def zWc (xs:List AV) (r:Ret):Prop:=∃ a0 y0,zHi a0=some y0/\xs=[.agg ((Nd.enc a0).map .s)]/\r = .val (nB y0)
def zPi:zAq:=zAr fun xs r=>zWc xs r
def zUD:PSound prog 105 zPi:=by
 have gok:=@gok0 prog;refine psq tokW call105 func105 rfl ?_;rintro xs r w0 G0 ⟨⟨n1A,n1C,n1D,n1B⟩,y0,h,rfl,rfl⟩ _;rw[zHi]at h;refine yEW ?_;refine yCZ [] [6] rfl ?_;refine len1 Nd.encs_eq n1B ?_;refine zAa<|yEW ?_;refine zAf rfl h (fun hb h=>?_) (fun hb h=>?_)
 ·refine zAa ?_;obtain⟨x3,hj,h⟩:=zAc h;refine pL [(2,nB x3)] ?_ (fun V' hle=>?_)
  ·replace h:=hj;refine zAb [] [13,18,22,26] rfl ?_;refine nbS h (fun hb h=>?_) (fun hb h=>?_)
   ·refine nbS h (fun hb h=>?_) (fun hb h=>?_)
    ·refine nbS h (fun hb h=>?_) (fun hb h=>?_)
     ·refine nbS h (fun hb h=>?_) (fun hb h=>?_)
      ·obtain⟨hq,h⟩:=zAs h;refine And.intro hq ?_;exact jD
      exact jD
     exact jJ
    exact jT
   intro b hb;subst hb;exact jT
  exact jP
 refine zAe<|zAa<|yEW ?_;refine zAf rfl h (fun hb h=>?_) (fun hb h=>?_)
 ·exact gI
 refine zAe<|zAa<|yEW ?_;show Tri ..;obtain⟨fl,hj,ho1⟩:=zAc h;refine zBN (fl:=fl) (fun z=>match z with | _=>⟨ofL [],fun _=>none,0⟩) ?_ (fun z V' hz hle=>?_)
 ·replace h:=hj;refine zAk<|yEW ?_;refine zAf rfl h (fun hb h=>?_) (fun hb h=>?_)
  ·exact jE
  refine zAa<|yEW ?_;show Tri ..;obtain⟨x4,hj,h⟩:=zAc h;refine pL [(3,nI (n1B.length:Int)),(37,nI n1A),(42,nB x4)] ?_ (fun V' hle=>?_)
  ·replace h:=hj;refine zAf rfl h (fun hb h=>?_) (fun hb h=>?_)
   ·exact gB
   refine yEW ?_;refine zAf rfl h (fun hb h=>?_) (fun hb h=>?_)
   ·exact gB
   exact kH
  refine zAj hle<|zAf rfl h (fun hb h=>?_) (fun hb h=>?_)
  ·exact jE
  refine zAa<|yEW ?_;show Tri ..;obtain⟨x5,hj,h⟩:=zAc h;refine pL [(3,nI (n1B.length:Int)),(37,nI n1A),(48,nB x5)] ?_ (fun V' hle=>?_)
  ·replace h:=hj;refine zAf rfl h (fun hb h=>?_) (fun hb h=>?_)
   ·exact gB
   refine yEW ?_;refine zAf rfl h (fun hb h=>?_) (fun hb h=>?_)
   ·exact gB
   refine yEW ?_;refine zAf rfl h (fun hb h=>?_) (fun hb h=>?_)
   ·exact gB
   exact kH
  refine zAj hle<|zAf rfl h (fun hb h=>?_) (fun hb h=>?_)
  ·exact jE
  refine yEW ?_;refine zAf rfl h (fun hb h=>?_) (fun hb h=>?_)
  ·exact jE
  refine zAa<|yEW ?_;show Tri ..;obtain⟨x6,hj,h⟩:=zAc h;refine pL [(3,nI (n1B.length:Int)),(59,nB x6)] ?_ (fun V' hle=>?_)
  ·replace h:=hj;refine zAf rfl h (fun hb h=>?_) (fun hb h=>?_)
   ·exact gB
   exact kH
  refine zAj hle<|zAf rfl h (fun hb h=>?_) (fun hb h=>?_)
  ·exact jE
  exact kW
 exact jG
def zG5:Prop:=∃ a0 y0,zDN n a0=some y0/\xs=[.agg ((Nd.enc a0).map .s)]/\r = .val (nB y0)
def zRs (n:Nat) (ih:PSound prog 60 (zAr (zG5 n))):PSound prog 60 (zAr (zG5 (n+1))):=by
 have gok:=gk1 zUF<|gk1 zUD<|gk1 ih<|gk0;refine psq tokW call60 func60 rfl ?_;rintro xs r w0 G0 ⟨⟨n1A,n1C,n1D,n1B⟩,y0,h,rfl,rfl⟩ _;rw[zDN]at h;refine yEW ?_;refine zAa<|zAa ?_;obtain⟨x2,hj,h⟩:=zAc h;refine pL [(1,pN n1A n1C n1D n1B),(11,nB x2)] ?_ (fun V' hle=>?_)
 ·replace h:=hj;refine zAb [] [7] rfl ?_;obtain⟨y3,hy3,h⟩:=zAc h;refine⟨_,⟨_,_,_,hy3,rfl,rfl⟩,?_⟩;refine nbS h (fun hb h=>?_) (fun hb h=>?_)
  ·exact jD
  obtain⟨y4,hy4,h⟩:=zAc h;refine⟨_,⟨_,_,hy4,rfl,rfl⟩,?_⟩;exact jD
 refine zAj hle<|zAf rfl h (fun hb h=>?_) (fun hb h=>?_)
 ·exact gI
 refine zAe<|zAa<|yEW ?_;show Tri ..;obtain⟨fl,hl,ho1⟩:=zAc h;refine zBN (fl:=fl) (fun z=>match z with | _=>⟨ofL [],fun _=>none,0⟩) ?_ (fun z V' hz hle=>?_)
 ·refine zAk (zAv (X:=Nat×Int) (fun y=>match y with | (k,i5)=>⟨ofL [(1,pN n1A n1C n1D n1B),(3,nI i5)],fun _=>none,0⟩) (fun y=>zC3 (zDN n) n1A n1B y.1 y.2=some fl) (fun y=>y.1) (n,0) hl ?_ ?_)
  ·exact Le.fgt
  rintro⟨k,i5⟩ h;cases k with
  | zero=>cases h
  | succ k=>
  replace h:zC3 (zDN n) n1A n1B (k+1) i5=some fl:=h;rw[zC3]at h;refine zAa<|yCZ [] [15] rfl ?_;refine len1 Nd.encs_eq n1B ?_;refine zAf rfl h (fun hb h=>?_) (fun hb h=>?_)
  ·refine zAe<|zAa<|zAk<|zAa ?_;obtain⟨x7,hj,h⟩:=zAc h;refine pL [(1,pN n1A n1C n1D n1B),(3,nI i5),(38,nB x7)] ?_ (fun V' hle=>?_)
   ·replace h:=hj;refine zAw [] [22,30,34] [] rfl (by decide +kernel) ?_;obtain⟨⟨e8A,e8C,e8D,e8B⟩,he8,h⟩:=zAc h;refine at1 (nN e8A e8C e8D e8B) Nd.encs_eq he8 ?_;refine nbS h (fun hb h=>?_) (fun hb h=>?_)
    ·exact jD
    obtain⟨⟨e10A,e10C,e10D,e10B⟩,he10,h⟩:=zAc h;refine at1 (nN e10A e10C e10D e10B) Nd.encs_eq he10 ?_;obtain⟨y12,hy12,h⟩:=zAc h;refine⟨_,⟨_,_,hy12,rfl,rfl⟩,?_⟩;exact jD
   refine zAj hle<|zAf rfl h (fun hb h=>?_) (fun hb h=>?_)
   ·exact jE
   exact jW
  exact gV
 exact jG
def zSh:∀ n,PSound prog 60 (zAr (zG5 n)):=by
 intro n;induction n with
 | zero=>exact zCz call60 (fun xs r h=>by obtain⟨_,_,h,_⟩:=h; cases h)
 | succ n ih=>exact zRs n ih
def zPh:zAq:=pG zG5
def zUC:PSound prog 60 zPh:=zDf zSh
end
section
def zKD {P:Program}{g:Nat} (hcall:∀ args w,(callFunc g args).run P w = .ok (.enter g args) w){R:List AV->Ret->Prop} (hR:∀ xs r,R xs r->∃ x,r = .val x/\x.pers=true/\Evl P g xs [] x []):PSound P g (zAr R) :=
 ⟨hcall,fun G w xs vs r hlt hgl hp hv hs=>by
  obtain⟨x0,rfl,hx,hF⟩:=hR _ _ hs;refine(hF.2.2.1 _ rfl G w (fun _=>.tuple #[]) xs vs [] x0 [] hlt hgl hv (AV.persAll_lt hp) ⟨fun i ob hi=>by simp at hi,fun i j ob ob' hi=>by simp at hi⟩ ⟨rfl,rfl,rfl,rfl⟩).mono fun e w' ⟨v,G',O',he,hfr,hs,hn,hl,hx',_⟩ =>
   ⟨v,G',he,⟨hfr.os,hfr.tape,hfr.output,hfr.size,fun b hb=>hfr.old b hb fun⟨i,hi,_⟩=>absurd hi (Nat.not_lt_zero _),hs,fun b hb=>(hn b hb).imp id fun h=>h.elim (fun⟨i,hi,_⟩=>absurd hi (Nat.not_lt_zero _)) id,hl⟩,?_⟩
  unfold RetAt;exact⟨hx,AVal.pers hx hx'⟩,fun R hR=>(by cases hR),fun R hR=>(by cases hR)⟩
def zRA {t:Nd} (h:zAu t=true):∃ vs,t = .mk 1 [] 0 vs/\zBL 1 vs=true/\vs.length<=200/\Nd.cnts vs<1000:=by
 obtain⟨k,s,c,vs⟩:=t;simp only[zAu,Nd.kind,zCI,af,bD,Nd.cnt]at h;obtain⟨rfl,⟨⟨h1,h2⟩,h3⟩,h4,_⟩:=h;have h1:(s == [])=true:=h1;have h2:((c == 0)&&decide ((vs.length:Int)<=200))=true:=h2;simp only[af,bD,ay]at h1 h2;obtain⟨rfl,h2⟩:=h2;subst h1;exact⟨vs,rfl,h3,by omega,aY h4⟩
variable {vs:List Nd}
def zZB  (h:zAu (.mk 1 [] 0 vs)=true) (hw:(Nd.mk 1 [] 0 vs).w<=67108864):E 27 [rowV vs] [] (nB true) [] :=
 PSound.evl zC5 rfl ⟨_,_,_,(zCs _ _ (ax _) hw).trans (by rw[h]),rfl,rfl⟩
def zXK  (h:zAu (.mk 1 [] 0 vs)=true) (hw:(Nd.mk 1 [] 0 vs).w<=67108864):E 16 [rowV vs] [] (.tup [nS (zMO vs),nI 0]) []/\E 17 [nS (zMO vs),.s .np] [] (.tup [rowV vs,nI 0,nI 0]) []:=by
 obtain⟨ws,e,hf,hl,hc⟩:=zRA h;cases e;have hv:=zZB h hw;have h1:=zZi vs;have hg:=tL_v hf;have h2:=yBT hg;have h3:(zMO vs).length<=wT (tL vs):=zMY (tL vs) none;obtain⟨tk,z',e,c⟩:=yBt (s:=zMO vs) (lt:=none) (z:=0) hg ⟨by omega,by omega,by omega,rfl⟩;have h4:tk.length=(tL vs).length :=(by rw[← e,az]);exact⟨yD5 hf (by omega) (by omega) (by omega) hv,yC7 (yDV (yBY c (by omega)) e (by omega) (yBj hf (by omega) (by omega))) hv⟩
variable (n:Nat) (xs:List AV) (r:Ret)
def zF5:Prop:=∃ a0 y0,zC1 n a0=some y0/\xs=[.agg ((Nd.enc a0).map .s)]/\r = .val (nI y0)
def zPa (n:Nat) (ih:PSound prog 61 (zAr (zF5 n))):PSound prog 61 (zAr (zF5 (n+1))):=by
 have gok:=gk1 ih<|gk0;refine psq tokW call61 func61 rfl ?_;rintro xs r w0 G0 ⟨⟨n1A,n1C,n1D,n1B⟩,y0,h,rfl,rfl⟩ _;rw[zC1]at h;refine yEW ?_;refine yEW ?_;refine zAa<|yEW ?_;show Tri ..;obtain⟨out4,hl,h⟩:=zAc h;refine pL [(3,nI out4)] ?_ (fun V' hle=>?_)
 ·refine zAk (zAv (X:=Nat×Int×Int) (fun y=>match y with | (k,out2,i3)=>⟨ofL [(1,pN n1A n1C n1D n1B),(3,nI out2),(4,nI i3)],fun _=>none,0⟩) (fun y=>zCw (zC1 n) n1B y.1 y.2.1 y.2.2=some out4) (fun y=>y.1) (n,1,0) hl ?_ ?_)
  ·exact Le.fgt
  rintro⟨k,out2,i3⟩ h;cases k with
  | zero=>cases h
  | succ k=>
  replace h:zCw (zC1 n) n1B (k+1) out2 i3=some out4:=h;rw[zCw]at h;refine zAa<|yCZ [] [8] rfl ?_;refine len1 Nd.encs_eq n1B ?_;refine zAf rfl h (fun hb h=>?_) (fun hb h=>?_)
  ·refine zAe<|zAa<|zAk<|zAb [] [16] rfl ?_;obtain⟨⟨e6A,e6C,e6D,e6B⟩,he6,h⟩:=zAc h;refine at1 (nN e6A e6C e6D e6B) Nd.encs_eq he6 ?_;obtain⟨y8,hy8,h⟩:=zAc h;refine⟨_,⟨_,_,hy8,rfl,rfl⟩,?_⟩;refine yEV ?_;refine⟨(k,i64.wrap (out2+y8),i64.wrap (i3+1)),h,Le.fgt,ax k⟩
  refine zAy ?_;exact jD
 refine zAj hle<|yEW ?_;exact jN
def zQx:∀ n,PSound prog 61 (zAr (zF5 n)):=by
 intro n;induction n with
 | zero=>exact zCz call61 (fun xs r h=>by obtain⟨_,_,h,_⟩:=h; cases h)
 | succ n ih=>exact zPa n ih
def zNe:zAq:=pG zF5
def zTb:PSound prog 61 zNe:=zDf zQx
def zF6:Prop:=∃ a0 y0,zC2 n a0=some y0/\xs=[.agg ((Nd.enc a0).map .s)]/\r = .val (nI y0)
def zPb (n:Nat) (ih:PSound prog 62 (zAr (zF6 n))):PSound prog 62 (zAr (zF6 (n+1))):=by
 have gok:=gk1 ih<|gk0;refine psq tokW call62 func62 rfl ?_;rintro xs r w0 G0 ⟨⟨n1A,n1C,n1D,n1B⟩,y0,h,rfl,rfl⟩ _;rw[zC2]at h;refine yEW ?_;refine yEW ?_;refine zAa<|yEW ?_;show Tri ..;obtain⟨out4,hl,h⟩:=zAc h;refine pL [(3,nI out4)] ?_ (fun V' hle=>?_)
 ·refine zAk (zAv (X:=Nat×Int×Int) (fun y=>match y with | (k,out2,i3)=>⟨ofL [(1,pN n1A n1C n1D n1B),(3,nI out2),(4,nI i3)],fun _=>none,0⟩) (fun y=>zCx (zC2 n) n1B y.1 y.2.1 y.2.2=some out4) (fun y=>y.1) (n,0,0) hl ?_ ?_)
  ·exact Le.fgt
  rintro⟨k,out2,i3⟩ h;cases k with
  | zero=>cases h
  | succ k=>
  replace h:zCx (zC2 n) n1B (k+1) out2 i3=some out4:=h;rw[zCx]at h;refine zAa<|yCZ [] [8] rfl ?_;refine len1 Nd.encs_eq n1B ?_;refine zAf rfl h (fun hb h=>?_) (fun hb h=>?_)
  ·refine zAe<|zAa<|zAk<|zAb [] [16] rfl ?_;obtain⟨⟨e6A,e6C,e6D,e6B⟩,he6,h⟩:=zAc h;refine at1 (nN e6A e6C e6D e6B) Nd.encs_eq he6 ?_;obtain⟨y8,hy8,h⟩:=zAc h;refine⟨_,⟨_,_,hy8,rfl,rfl⟩,?_⟩;refine yEV ?_;refine⟨(k,(if out2<y8 then y8 else out2),i64.wrap (i3+1)),h,Le.fgt,ax k⟩
  refine zAy ?_;exact jD
 refine zAj hle<|yEW ?_;exact jN
def zQy:∀ n,PSound prog 62 (zAr (zF6 n)):=by
 intro n;induction n with
 | zero=>exact zCz call62 (fun xs r h=>by obtain⟨_,_,h,_⟩:=h; cases h)
 | succ n ih=>exact zPb n ih
def zNf:zAq:=pG zF6
def zTc:PSound prog 62 zNf:=zDf zQy
def zTW:Prop:=∃ a0 y0,zAM n a0=some y0/\xs=[.agg ((Nd.enc a0).map .s)]/\r = .val (nB y0)
def zCW:zAq:=pG zTW
def zCT:PSound prog 32 zCW:=by
 have gok:=gk1 zUC<|gk1 zTb<|gk1 zTc<|gk0;refine psq tokW call32 func32 rfl ?_;rintro xs r w0 G0 ⟨n,⟨n1A,n1C,n1D,n1B⟩,y0,h,rfl,rfl⟩ _;rw[zAM]at h;refine yEW ?_;refine zAa ?_;obtain⟨x2,hj,h⟩:=zAc h;refine pL [(2,nB x2)] ?_ (fun V' hle=>?_)
 ·replace h:=hj;refine zAb [] [6,10,15] rfl ?_;refine nbS h (fun hb h=>?_) (fun hb h=>?_)
  ·obtain⟨y3,hy3,h⟩:=zAc h;refine⟨_,⟨_,_,_,hy3,rfl,rfl⟩,?_⟩;refine nbS h (fun hb h=>?_) (fun hb h=>?_)
   ·obtain⟨y4,hy4,h⟩:=zAc h;refine⟨_,⟨_,_,_,hy4,rfl,rfl⟩,?_⟩;refine nbS h (fun hb h=>?_) (fun hb h=>?_)
    ·obtain⟨y5,hy5,h⟩:=zAc h;refine⟨_,⟨_,_,_,hy5,rfl,rfl⟩,?_⟩;exact jD
    exact jD
   exact jJ
  exact jT
 exact jP
def zEY:Prop:=∃ a0 a1 y0,zBi n a0 a1=some y0/\xs=[.agg ((Nd.enc a0).map .s),.agg ((Nd.enc a1).map .s)]/\r = .val (nB y0)
def zCF:Prop:=∃ a0 a1 y0,zCa n a0 a1=some y0/\xs=[.s (.sl 4 (Nd.encs a0)),.s (.sl 4 (Nd.encs a1))]/\r = .val (nB y0)
def zPc (n:Nat) (ih_r09_Equal:PSound prog 18 (zAr (zEY n))) (ih_r09_SameItems:PSound prog 42 (zAr (zCF n))):PSound prog 18 (zAr (zEY (n+1))):=by
 have gok:=gk1 ih_r09_SameItems<|gk0;refine psq tokW call18 func18 rfl ?_;rintro xs r w0 G0 ⟨⟨a1A,a1C,a1D,a1B⟩,⟨b2A,b2C,b2D,b2B⟩,y0,h,rfl,rfl⟩ _;rw[zBi]at h;refine yEW ?_;refine zAa ?_;obtain⟨x3,hj,h⟩:=zAc h;refine pL [(4,nB x3)] ?_ (fun V' hle=>?_)
 ·replace h:=hj;refine zAb [] [10,17,24] rfl ?_;refine nbS h (fun hb h=>?_) (fun hb h=>?_)
  ·refine nbS h (fun hb h=>?_) (fun hb h=>?_)
   ·refine nbS h (fun hb h=>?_) (fun hb h=>?_)
    ·obtain⟨y4,hy4,h⟩:=zAc h;refine⟨_,⟨_,_,_,hy4,rfl,rfl⟩,?_⟩;exact jD
    exact jD
   exact jJ
  exact jT
 exact jP
def zK7 (n:Nat) (ih_r09_Equal:PSound prog 18 (zAr (zEY n))) (ih_r09_SameItems:PSound prog 42 (zAr (zCF n))):PSound prog 42 (zAr (zCF (n+1))):=by
 have gok:=gk1 ih_r09_Equal<|gk0;refine psq tokW call42 func42 rfl ?_;rintro xs r w0 G0 ⟨a1,b2,y0,h,rfl,rfl⟩ _;rw[zCa]at h;refine yEW ?_;refine zAa<|yCZ [] [7,9] rfl ?_;refine len1 Nd.encs_eq a1 ?_;refine len1 Nd.encs_eq b2 ?_;refine zAf rfl h (fun hb h=>?_) (fun hb h=>?_)
 ·exact gI
 refine zAe<|zAa<|yEW ?_;show Tri ..;obtain⟨fl,hl,ho1⟩:=zAc h;refine zBN (fl:=fl) (fun z=>match z with | _=>⟨ofL [],fun _=>none,0⟩) ?_ (fun z V' hz hle=>?_)
 ·refine zAk (zAv (X:=Nat×Int) (fun y=>match y with | (k,i5)=>⟨ofL [(0,.s (.sl 4 (Nd.encs a1))),(1,.s (.sl 4 (Nd.encs b2))),(5,nI i5)],fun _=>none,0⟩) (fun y=>zBr (zBi n) a1 b2 y.1 y.2=some fl) (fun y=>y.1) (n,0) hl ?_ ?_)
  ·exact Le.fgt
  rintro⟨k,i5⟩ h;cases k with
  | zero=>cases h
  | succ k=>
  replace h:zBr (zBi n) a1 b2 (k+1) i5=some fl:=h;rw[zBr]at h;refine zAa<|yCZ [] [13] rfl ?_;refine len1 Nd.encs_eq a1 ?_;refine zAf rfl h (fun hb h=>?_) (fun hb h=>?_)
  ·refine zAe<|zAa<|zAk<|zAa<|zAw [] [19,23] [] rfl (by decide +kernel) ?_;obtain⟨⟨e7A,e7C,e7D,e7B⟩,he7,h⟩:=zAc h;refine at1 (nN e7A e7C e7D e7B) Nd.encs_eq he7 ?_;obtain⟨⟨e9A,e9C,e9D,e9B⟩,he9,h⟩:=zAc h;refine at1 (nN e9A e9C e9D e9B) Nd.encs_eq he9 ?_;obtain⟨y11,hy11,h⟩:=zAc h;refine⟨_,⟨_,_,_,hy11,rfl,rfl⟩,?_⟩;refine zAf rfl h (fun hb h=>?_) (fun hb h=>?_)
   ·exact jE
   exact jW
  exact gV
 exact jG
def zJs:∀ n,PSound prog 18 (zAr (zEY n))/\PSound prog 42 (zAr (zCF n)):=by
 intro n;induction n with
 | zero =>
  refine⟨?_,?_⟩
  ·exact zCz call18 (fun xs r h=>by obtain⟨_,_,_,h,_⟩:=h; rw[zBi]at h; cases h)
  exact zCz call42 (fun xs r h=>by obtain⟨_,_,_,h,_⟩:=h; rw[zCa]at h; cases h)
 | succ n ih=>obtain⟨ih_r09_Equal,ih_r09_SameItems⟩:=ih;exact⟨zPc n ih_r09_Equal ih_r09_SameItems,zK7 n ih_r09_Equal ih_r09_SameItems⟩
def zJL:zAq:=pG zEY
def zMh:PSound prog 18 zJL:=zDf (fun n=>(zJs n).1)
def zH7:zAq:=pG zCF
def zMK:PSound prog 42 zH7:=zDf (fun n=>(zJs n).2)
abbrev Zo a b:=([.agg ((Nd.enc a).map .s),nI b]:List AV)
def zV9 (n:Nat) (xs:List AV) (r:Ret):Prop:=∃ (a0:Nd) (a1:List Int) (y0:Nd) (y1:Int),zHg n a0 a1=some (y0,y1)/\xs=[.agg ((Nd.enc a0).map .s),.s (.sl 1 (a1.map (irow .i64)))]/\r = .val (.tup (Zo y0 y1))
def zPf:zAq:=pG zV9
def zUA:PSound prog 133 zPf:=by
 have gok:∀ f s,look? f [(27,zDq),(180,zNd),(28,zEb)]=some s->PSound prog f s:=zAp (by
  simp only[forall_mem_cons]
  exact⟨zC5,zTa,zEw,by simp⟩)
 refine psq tokW call133 func133 rfl ?_;rintro xs r w0 G0 ⟨f,⟨k,t,c,ks⟩,p,y0,y1,h,rfl,rfl⟩ _;rw[zHg]at h;obtain⟨b,hb,h⟩:=zAc h;refine yCZ [4] [] rfl ?_;refine zAa<|yEW ?_;refine⟨_,⟨f,_,_,hb,rfl,rfl⟩,?_⟩;show Tri ..;cases b with
 | false =>
  refine zAx rfl (fun _=>?_) (fun h=>by cases h);refine yEW ?_;refine zAd ?_;obtain⟨rfl,rfl⟩:=ap (Option.some.inj h);unfold zBF;exact gX
 | true=>
 refine zAx rfl (fun h=>by cases h) (fun _=>?_);refine zAe ?_;show Tri ..;replace h:(match zBn (.mk k t c ks) p with | some r=>(zAS r).bind fun r=>some (r,0) | none=>some (zCv,8))=some (y0,y1):=h;refine yEW ?_;cases hf:zBn (.mk k t c ks) p with
 | none =>
  rw[hf]at h;refine⟨.val (.tup [.junk,nB false]),⟨.mk k t c ks,p,rfl,by rw[hf]; rfl⟩,?_⟩;refine zAa<|yEW ?_;refine zAx rfl (fun _=>?_) (fun h=>by cases h);refine yEW ?_;refine zAd ?_;obtain⟨rfl,rfl⟩:=ap (Option.some.inj h);unfold zBF;exact gX
 | some z=>
 obtain⟨k2,t2,c2,ks2⟩:=z;rw[hf]at h;refine⟨.val (.tup [.s (.pt (Nd.enc (.mk k2 t2 c2 ks2))),nB true]),⟨.mk k t c ks,p,rfl,by rw[hf]; rfl⟩,?_⟩;refine zAa<|yEW ?_;refine zAx rfl (fun h=>by cases h) (fun _=>?_);refine zAe ?_;show Tri ..;obtain⟨⟨k3,t3,c3,ks3⟩,hd,h⟩:=zAc h;obtain⟨rfl,rfl⟩:=ap (Option.some.inj h);refine yEW ?_;refine⟨_,⟨_,_,hd,rfl,rfl⟩,?_⟩;refine zAd ?_;unfold zBF;exact gX
variable {keys:List Nat}{ks:List Nd}
def zY5 {T:Nat->Option TI}{own:Bool}{o:Oper}{V:St}{e t e0:Nat}{args:Array Operand}{ts:Array Nat}{y:Operand}{v:AV} (hv:VAt V.hp e v ks keys) (ho:o.op = .call { callee:=.builtin .len,args:=args,argTypes:=ts }) (ha:args.toList=[y]) (hts:ts.toList=[t]) (ht:tk T t = .slice e0)
  (hy:opd T V.env t y=v):step1 T own o V=some (none,nI (ks.length:Int),V):=by
 rcases hv with ⟨rfl,rfl,_⟩ | ⟨q,rows,keys',w,rfl,hq,hlen,_,_⟩
 ·have e1:zBH T own o V.env=some (none,nI 0) :=(by simp only[zBH,ho,ha,hts,pLen,ht,hy]; rfl);simp only[step1,e1]; rfl
 rw[zOp ho ha hts ht hy hq,hlen]
def zYI {k c:Int}{tx:List UInt8}{k2 c2:Int}{tx2:List UInt8}{ks2:List Nd}{z r:Nd}{i s:Int}{p:List Int} (hx:ks[i.toNat]? = some (.mk k2 tx2 c2 ks2)) (hz:ks2[s.toNat]? = some z) :
  putL (.mk k tx c ks) (i::s::p) r = .mk k tx c (ks.set i.toNat (.mk k2 tx2 c2 (ks2.set s.toNat (putL z p r)))):=by
 rw[putL,hx];simp only[hz]
def Hole.here {hp:Nat->Option Ob}{e:Nat}{p p1:AV}{y:Nd}{F:Nd->Nd} (hn:(zBh p::keys).Nodup) (h:Hole hp e p keys p1 y F):∃ keys0 w0,At hp e p1 y keys0 [] w0/\isL 4 p1/\(zBh p1::keys0).Nodup:=by
 obtain⟨keys0,rest,w0,a1,a2,a3,a4,_⟩:=h;obtain⟨hb,hnk⟩:=List.nodup_cons.1 hn;obtain⟨n0,n1,n01⟩:=List.nodup_append.1 (a1.nodup_iff.1 hnk);refine⟨keys0,w0,a2,a3,List.nodup_cons.2 ⟨fun hm=>?_,n0⟩⟩;rcases a4 with rfl | a4
 ·exact hb (a1.mem_iff.2 (mem_append_left _ hm))
 exact n01 _ hm _ a4 rfl
def Hole.step {hp:Nat->Option Ob}{e q i:Nat}{p p1:AV}{k c:Int}{tx:List UInt8}{ks:List Nd}{x:Nd}{keys:List Nat}{F:Nd->Nd} (hn:(zBh p::keys).Nodup) (h:Hole hp e p keys p1 (.mk k tx c ks) F) (hx:ks[i]? = some x) (hc:zAJ hp p1=some (zA8 k tx c (.orow q))) :
  Hole hp e p keys (.rp q 4 i 0) x (fun r=>F (.mk k tx c (ks.set i r))) :=
 Hole.trans hn h fun keys0 w0 ha hl hn0=>by
  obtain⟨b,rows,h1,_,_,h4⟩:=Hole.kid ha hl hn0 hx;rw[hc]at h1;have:q=b :=(by simpa [zA8] using h1);rw[this]; exact h4
def yAK {t r:Nd}:putL t [] r=r:=by cases t; rfl
def zRG (xs:List AV) (hp:Nat->Option Ob) (n:Nat) (Φ:AV->(Nat->Option Ob)->Nat->Prop):Prop :=
 ∃ (p:AV) (t:Nd) (path:List Int) (keys:List Nat) (w:Nat),xs=[p,.s (.sl 1 (path.map (irow .i64)))]/\isL 4 p/\At hp 24 p t keys [] w/\(zBh p::keys).Nodup /\
  (zBn t path=none->Φ (.tup [.junk,nB false]) hp n)/\∀ p1 y F,zBn t path=some y->Hole hp 24 p keys p1 y F->(∀ r,putL t path r=F r)->Φ (.tup [p1,nB true]) hp n
def zM3:zAq:=zSO zRG
set_option maxHeartbeats 600000 in
def zQJ:PSound prog 180 zM3:=by
 have gok:=@gok0 prog;refine zNP tokW call180 func180 rfl (fun xs hp n Φ h=>by obtain⟨_,_,_,_,_,rfl,_⟩:=h; show 2<=_; decide) _ rfl ?_;rintro xs hp n Φ w0 G0 B0 ⟨p0,t0,path0,keys,w,rfl,hl0,hat,hnd,hΦ1,hΦ2⟩ _ hhp;refine yEW ?_;refine zAa<|zAk (zAv (X:=AV×Nd×List Int×(Nd->Nd)) (fun x=>match x with | (p,y,q,F)=>⟨ofL [(0,p),(1,.s (.sl 1 (q.map (irow .i64)))),(4,.s .np),(5,nB false)],hp,n⟩)
  (fun x=>match x with | (p,y,q,F)=>zBn t0 path0=zBn y q/\Hole hp 24 p0 keys p y F/\∀ r,putL t0 path0 r=F (putL y q r)) (fun x=>match x with | (p,y,q,F)=>q.length) (p0,t0,path0,id) ⟨rfl,Hole.refl hat hl0,fun _=>rfl⟩ (Le.forget [(0,p0),(1,.s (.sl 1 (path0.map (irow .i64)))),(4,.s .np),(5,nB false)] ⟨rfl,rfl,rfl,rfl,trivial⟩) ?_)
 rintro⟨p,⟨k,t,c,ks⟩,q,F⟩ hI;have hI:zBn t0 path0=zBn (.mk k t c ks) q/\Hole hp 24 p0 keys p (.mk k t c ks) F/\∀ r,putL t0 path0 r=F (putL (.mk k t c ks) q r):=hI;obtain⟨hI1,hI2,hI3⟩:=hI;have hlp:isL 4 p :=(by obtain⟨_,_,_,_,_,h,_⟩:=hI2; exact h);refine zAa<|yEW ?_;refine zAx rfl (fun hb=>?_) (fun hb=>?_)
 ·refine zAe ?_;show Tri ..;match q,hI1,hI3,hb with
  | [],_,_,hb=>cases hb
  | [_],_,_,hb=>cases hb
  | i::s::q,hI1,hI3,hb =>
   refine zAj (Le.forgetH [(0,p),(1,.s (.sl 1 ((i::s::q).map (irow .i64)))),(4,.s .np),(5,nB false)] hp n ⟨rfl,rfl,rfl,rfl,trivial⟩ (fun _=>rfl) rfl)<|zAa<|zAk<|zAa ?_;refine zOA (by exact tokW) (by exact gok) (by exact mixed) [] [] [1,2,4,5] rfl (by decide +kernel) ?_;refine And.intro (show(0:Int)<=0/\(0:Int)<((((i::s::q).map (irow .i64)).length:Nat):Int) by simp only[ba,ah]; omega) ?_;refine And.intro (show(0:Int)<=1/\(1:Int)<((((i::s::q).map (irow .i64)).length:Nat):Int) by simp only[ba,ah]; omega) ?_;show Tri ..;refine zAj (Le.forgetH [(0,p),(1,.s (.sl 1 ((i::s::q).map (irow .i64)))),(4,.s .np),(5,nB false),(6,nI i),(7,nI s)] hp n ⟨rfl,rfl,rfl,rfl,rfl,rfl,trivial⟩ (fun _=>rfl) rfl)<|zAa<|zAa ?_;by_cases hi:i<0
   ·refine zAb [] [21] rfl ?_;intro b hb;obtain rfl:true=b:=(hb.trans (aP hi)).symm;refine zAx rfl (fun _=>?_) (fun h=>by cases h);refine yEW ?_;refine zAd ?_;unfold zJk;exact⟨_,Le.forget [(5,nB false)] ⟨rfl,trivial⟩,_,rfl,hΦ1 (hI1.trans (zHy (fun h=>by omega)))⟩
   obtain⟨keys1,w1,hat1,_,hnd1⟩:=hI2.here hnd;obtain⟨v,hcv,hv⟩:=hat1.full;refine yEV ?_;refine evS ?_;refine evS ?_;rw[show decide (i<0)=false from aW hi];refine evS ?_;refine zDk (g:=22) rfl rfl rfl ?_;refine evS ?_;refine zDk (g:=22) rfl rfl rfl ?_;refine evS (hs:=(zDj hlp (.inr rfl) rfl rfl)) ?_;refine zDk (g:=22) rfl rfl rfl ?_;refine evS (hs:=(zFc hlp rfl rfl)) ?_;refine zDk (g:=22) rfl rfl rfl ?_;refine evS (hs:=(zFG hlp rfl rfl rfl rfl rfl rfl rfl)) ?_;refine zDk (g:=22) rfl rfl rfl ?_;refine zD5 (off:=3) (sz:=4) rfl rfl rfl rfl rfl rfl rfl hlp rfl hcv rfl ?_;refine zDk (g:=22) rfl rfl rfl ?_;refine evS (hs:=(zY5 hv rfl rfl rfl rfl rfl)) ?_;refine zDk (g:=22) rfl rfl rfl ?_;refine evS ?_;by_cases hi2:(ks.length:Int)<=i
   ·rw[show decide ((ks.length:Int)<=i)=true from aP hi2];refine evS ?_;refine zAx rfl (fun _=>?_) (fun h=>by cases h);refine yEW ?_;refine zAd ?_;unfold zJk;exact⟨_,Le.forget [(5,nB false)] ⟨rfl,trivial⟩,_,rfl,hΦ1 (hI1.trans (zHy (n:=.mk k t c ks) (fun h=>by have:i<(ks.length:Int):=h.2; omega)))⟩
   rw[show decide ((ks.length:Int)<=i)=false from aW hi2];refine evS ?_;refine zAx rfl (fun h=>by cases h) (fun _=>?_);refine zAe ?_;show Tri ..;have hi0:i.toNat<ks.length :=(by omega);obtain⟨⟨k2,t2,c2,ks2⟩,hx⟩:∃ x,ks[i.toNat]? = some x:=⟨_,ac hi0⟩;obtain⟨b1,rows1,hc1,hr1,hlen1,hole1⟩:=Hole.kid hat1 hlp hnd1 hx;refine zAj (Le.forgetH [(0,p),(1,.s (.sl 1 ((i::s::q).map (irow .i64)))),(4,.s .np),(5,nB false),(6,nI i),(7,nI s)] hp n ⟨rfl,rfl,rfl,rfl,rfl,rfl,trivial⟩ (fun _=>rfl) rfl)<|yEW ?_;refine evS (hs:=(zDj hlp (.inr rfl) rfl rfl)) ?_;refine evS (hs:=(zFc hlp rfl rfl)) ?_;refine evS (hs:=(zFG hlp rfl rfl rfl rfl rfl rfl rfl)) ?_;refine zD5 (off:=3) (sz:=4) rfl rfl rfl rfl rfl rfl rfl hlp rfl hc1 rfl ?_;refine evS ?_;refine zAh rfl rfl rfl rfl rfl (zRo rfl rfl rfl rfl rfl rfl hr1 rfl) ⟨by omega,by rw[hlen1]; omega⟩ ?_;refine evS ?_;refine zAj (Le.forgetH [(0,p),(1,.s (.sl 1 ((i::s::q).map (irow .i64)))),(4,.s .np),(5,nB false),(6,nI i),(7,nI s),(8,.rp b1 4 i.toNat 0)] hp n ⟨rfl,rfl,rfl,rfl,rfl,rfl,rfl,trivial⟩ (fun _=>rfl) rfl)<|zAa<|zAa ?_;by_cases hs:s<0
   ·refine zAb [] [38] rfl ?_;intro b hb;obtain rfl:true=b:=(hb.trans (aP hs)).symm;refine zAx rfl (fun _=>?_) (fun h=>by cases h);refine yEW ?_;refine zAd ?_;unfold zJk;exact⟨_,Le.forget [(5,nB false)] ⟨rfl,trivial⟩,_,rfl,hΦ1 (hI1.trans (zHz (n:=.mk k t c ks) (by omega) hx (fun h=>by omega)))⟩
   have hl2:isL 4 (.rp b1 4 i.toNat 0):=.inl ⟨b1,i.toNat,rfl⟩;have hI4:=Hole.step hnd hI2 hx hc1;obtain⟨keys2,w2,hat2,_,hnd2⟩:=hI4.here hnd;obtain⟨v2,hcv2,hv2⟩:=hat2.full;refine yEV ?_;refine evS ?_;refine evS ?_;rw[show decide (s<0)=false from aW hs];refine evS ?_;refine zDk (g:=39) rfl rfl rfl ?_;refine evS ?_;refine zDk (g:=39) rfl rfl rfl ?_;refine evS (hs:=(zDj hl2 (.inr rfl) rfl rfl)) ?_;refine zDk (g:=39) rfl rfl rfl ?_;refine evS (hs:=(zFc hl2 rfl rfl)) ?_;refine zDk (g:=39) rfl rfl rfl ?_;refine evS (hs:=(zFG hl2 rfl rfl rfl rfl rfl rfl rfl)) ?_;refine zDk (g:=39) rfl rfl rfl ?_;refine zD5 (off:=3) (sz:=4) rfl rfl rfl rfl rfl rfl rfl hl2 rfl hcv2 rfl ?_;refine zDk (g:=39) rfl rfl rfl ?_;refine evS (hs:=(zY5 hv2 rfl rfl rfl rfl rfl)) ?_;refine zDk (g:=39) rfl rfl rfl ?_;refine evS ?_;by_cases hs2:(ks2.length:Int)<=s
   ·rw[show decide ((ks2.length:Int)<=s)=true from aP hs2];refine evS ?_;refine zAx rfl (fun _=>?_) (fun h=>by cases h);refine yEW ?_;refine zAd ?_;unfold zJk;exact⟨_,Le.forget [(5,nB false)] ⟨rfl,trivial⟩,_,rfl,hΦ1 (hI1.trans (zHz (n:=.mk k t c ks) (by omega) hx (fun h=>by have:s<(ks2.length:Int):=h.2; omega)))⟩
   rw[show decide ((ks2.length:Int)<=s)=false from aW hs2];refine evS ?_;refine zAx rfl (fun h=>by cases h) (fun _=>?_);refine zAe ?_;show Tri ..;have hs0:s.toNat<ks2.length :=(by omega);obtain⟨z,hz⟩:∃ z,ks2[s.toNat]? = some z:=⟨_,ac hs0⟩;obtain⟨b2,rows2,hc2,hr2,hlen2,hole2⟩:=Hole.kid hat2 hl2 hnd2 hz;refine zAj (Le.forgetH [(0,p),(1,.s (.sl 1 ((i::s::q).map (irow .i64)))),(4,.s .np),(5,nB false),(6,nI i),(7,nI s),(8,.rp b1 4 i.toNat 0)] hp n ⟨rfl,rfl,rfl,rfl,rfl,rfl,rfl,trivial⟩ (fun _=>rfl) rfl)<|yEV ?_;refine evS (hs:=(zDj hl2 (.inr rfl) rfl rfl)) ?_;refine evS (hs:=(zFc hl2 rfl rfl)) ?_;refine evS (hs:=(zFG hl2 rfl rfl rfl rfl rfl rfl rfl)) ?_;refine zD5 (off:=3) (sz:=4) rfl rfl rfl rfl rfl rfl rfl hl2 rfl hc2 rfl ?_;refine evS ?_;refine zAh rfl rfl rfl rfl rfl (zRo rfl rfl rfl rfl rfl rfl hr2 rfl) ⟨by omega,by rw[hlen2]; omega⟩ ?_;refine evS ?_;refine zAj (Le.forgetH [(0,.rp b2 4 s.toNat 0),(1,.s (.sl 1 ((i::s::q).map (irow .i64)))),(4,.s .np),(5,nB false)] hp n ⟨rfl,rfl,rfl,rfl,trivial⟩ (fun _=>rfl) rfl)<|yEV ?_;have h2l:(2:Int)<=((((i::s::q).map (irow .i64)).length:Nat):Int) :=(by simp only[ba,ah]; omega);refine evS ?_
   refine zAh rfl rfl rfl rfl rfl rfl ⟨by decide,h2l,Int.le_refl _⟩ ?_;refine evS ?_;have hI5:=Hole.step hnd hI4 hz hc2;refine⟨(.rp b2 4 s.toNat 0,z,q,fun r=>F (.mk k t c (ks.set i.toNat (.mk k2 t2 c2 (ks2.set s.toNat r))))),⟨?_,hI5,?_⟩,Le.forgetH [(0,.rp b2 4 s.toNat 0),(1,.s (.sl 1 (q.map (irow .i64)))),(4,.s .np),(5,nB false)] hp n ⟨rfl,congrArg (fun z=>AV.s (.sl 1 z)) ?_,rfl,rfl,trivial⟩ (fun _=>rfl) rfl,?_⟩
   ·exact hI1.trans (zPz (n:=.mk k t c ks) (by omega) hx (by omega) hz)
   ·intro r;exact(hI3 r).trans (congrArg F (zYI hx hz))
   ·show List.drop 2 (List.take ((((i::s::q).map (irow .i64)).length:Nat):Int).toNat ((i::s::q).map (irow .i64)))=_;rw[au,take_length]; rfl
   show q.length<q.length+1+1;omega
 refine zAy ?_;refine zAj (Le.forgetH [(0,p),(1,.s (.sl 1 (q.map (irow .i64)))),(4,.s .np),(5,nB false)] hp n ⟨rfl,rfl,rfl,rfl,trivial⟩ (fun _=>rfl) rfl)<|yEW ?_;refine evS (hs:=(zDj hlp (.inr rfl) rfl rfl)) ?_;match q,hI1,hI3,hb with
 | [],hI1,hI3,_ =>
  refine evS ?_;refine evS ?_;refine evS ?_;refine evS (hs:=(zDj hlp (.inl rfl) rfl rfl)) ?_;refine evS ?_;refine zAd ?_;have hd:AV.deep p=p:=by rcases hlp with ⟨_,_,rfl⟩ | ⟨_,rfl⟩ <;> rfl
  unfold zJk;refine⟨_,Le.forget [(4,p),(5,nB true)] ⟨rfl,rfl,trivial⟩,.tup [p,nB true],?_,hΦ2 p (.mk k t c ks) F (hI1.trans rfl) hI2 fun r=>(hI3 r).trans (by rw[yAK])⟩;show some (AV.tup [AV.deep p,nB true])=_;rw[hd]
 | [i],hI1,_,_=>refine evS ?_;refine evS ?_;refine evS ?_;refine evS (hs:=(zDj hlp (.inl rfl) rfl rfl)) ?_;refine evS ?_;refine zAd ?_;unfold zJk;exact⟨_,Le.forget [(5,nB false)] ⟨rfl,trivial⟩,_,rfl,hΦ1 (hI1.trans rfl)⟩
 | i::s::p,_,_,hb=>exact absurd (of_decide_eq_false hb) (by simp only[ba,ah]; omega)
def zI5 {T:Nat->Option TI}{V:St}{t ty q bt u:Nat}{i:TI}{cells:List AV} (h1:V.env t = .op q 0) (h2:V.hp q=some (.box bt cells)) (h3:T ty=some i) (ha:i.k.agg=true) (hz:i.size=cells.length):zHX T V [.cell t ty,.tmp u]=some (.tup [AV.deep (.agg cells),(V.env u).deep]):=by
 have hb:Nat.ble i.size cells.length=true :=(by rw[hz]; exact Nat.ble_eq_true_of_le (ar _));simp only[zHX,zIL,zTu,h1,h2,h3,ha,hb];rw[hz,take_length]
variable {keys:List Nat}{hp:Nat->Option Ob}
def Hole.base {e:Nat}{p p1:AV}{y:Nd}{F:Nd->Nd} (h:Hole hp e p keys p1 y F):zBh p1=zBh p∨zBh p1∈keys:=by
 obtain⟨keys0,rest,w0,a1,a2,a3,a4,_⟩:=h;rcases a4 with rfl | a4
 ·exact .inl rfl
 exact .inr (a1.mem_iff.2 (mem_append_right _ a4))
def At.ofV {e:Nat}{p v:AV}{k c:Int}{t:List UInt8}{ks:List Nd} (hc:zAJ hp p=some (zA8 k t c v)) (h:VAt hp e v ks keys):∃ w,At hp e p (.mk k t c ks) keys [] w:=by
 rcases h with ⟨rfl,rfl,rfl⟩ | ⟨q,rows,keys',w,rfl,h1,h2,rfl,h3⟩
 ·exact⟨0,by simp only[At]; exact⟨_,hc,.inr (.inl (by simp))⟩⟩
 exact⟨w,by simp only[At]; exact⟨_,hc,.inr (.inr ⟨q,rows,keys',rfl,h1,h2,rfl,h3⟩)⟩⟩
def zTS (n:Nat) (xs:List AV) (r:Ret):Prop:=∃ (a0:Nd) (a1:List Int) (a2:Nd) (y0:Nd) (y1:Int),zE4 n a0 a1 a2=some (y0,y1)/\xs=[.agg ((Nd.enc a0).map .s),.s (.sl 1 (a1.map (irow .i64))),.agg ((Nd.enc a2).map .s)]/\r = .val (.tup (Zo y0 y1))
def zNc:zAq:=pG zTS
def qK {P:Prop} (h:P:=by show putC H3 (.op 0 0) _ 0=_;rw[zGs (bt:=24) (cs:=[nI 0,.s (.str []),nI 0,.nl 4]) g4]; rfl):P:=h
def qM {P:Prop} (h:P:=by show putC H (.op 0 0) _ 0=_;rw[zGs (bt:=24) (cs:=[nI 0,.s (.str []),nI 0,.nl 4]) g0]; rfl):P:=h
set_option maxHeartbeats 600000 in
def zS9:PSound prog 135 zNc:=by
 have gok:∀ f s,look? f [(27,zDq),(180,zM3),(28,zM2)]=some s->PSound prog f s:=zAp (by
  simp only[forall_mem_cons]
  exact⟨zC5,zQJ,zHA,by simp⟩)
 refine psq tokW call135 func135 rfl ?_;rintro xs r w0 G0 ⟨f,⟨k,t,c,ks⟩,path,⟨rk,rt,rc,rks⟩,y0,y1,h,rfl,rfl⟩ _;rw[zE4]at h;obtain⟨b,hb,h⟩:=zAc h;refine yCZ [6] [] rfl ?_;refine zAa<|yEW ?_;refine⟨_,⟨f,_,_,hb,rfl,rfl⟩,?_⟩;show Tri ..;cases b with
 | false =>
  refine zAx rfl (fun _=>?_) (fun h=>by cases h);refine yEW ?_;refine zAd ?_;obtain⟨rfl,rfl⟩:=ap (Option.some.inj h);unfold zBF;exact gX
 | true=>
 refine zAx rfl (fun h=>by cases h) (fun _=>?_);refine zAe ?_;show Tri ..;rw[if_pos rfl]at h;obtain⟨n1,hn1,h⟩:=zAc h;obtain⟨hcnt,hn1⟩:=zAs hn1;obtain rfl:=Option.some.inj hn1;refine yCZ [8] [] rfl ?_;refine⟨_,⟨k,c,t,ks,hcnt,rfl,fun v hp' n' keys h1 h2 h3 h4 h5=>?_⟩,fun _ _ _ h=>h⟩;have hv1:v.one=true/\∀ m,n'<m->v.lt m=true:=by
  rcases h3 with ⟨_,rfl,_⟩ | ⟨q,_,_,_,rfl,_,_,hk,_⟩
  ·exact⟨rfl,fun _ _=>rfl⟩
  exact⟨rfl,fun m hm=>aP (Nat.lt_trans (h5 q (by rw[hk]; exact ak)).2 hm)⟩
 refine zSV (d:=16) ?_;refine evS ?_;refine zHb (sz:=4) (cs:=[nI 0,.s (.str []),nI 0,.nl 4]) (cs':=zA8 k t c v) (p:=.op n' 0) rfl rfl rfl rfl rfl (.inr ⟨n',rfl⟩) rfl (zEp (bt:=24) (by show(bif Nat.beq n' n' then _ else hp' n')=_; rw[aS]; rfl)) rfl rfl rfl (by simp only[zA8,all_cons,all_nil,hv1.1]; rfl) (by have h0:v.lt (n'+1)=true:=hv1.2 _ (ax _); show AV.ltAll (n'+1) (zA8 k t c v)=true; simp only[zA8,AV.ltAll,h0]; rfl) ?_;show Tri ..;refine zIN [(1,.s (.sl 1 (path.map (irow .i64)))),(5,.s (.pt (Nd.enc (.mk rk rt rc rks)))),(6,.op 0 0),(8,.op n' 0)] (n'+1) ⟨rfl,rfl,rfl,rfl,trivial⟩ rfl fun H hH=>?_
 have g1:H n'=some (.box 24 (zA8 k t c v)):=(hH n').trans (by
  show putC (fun m=>bif Nat.beq m n' then some (Ob.box 24 [nI 0,.s (.str []),nI 0,.nl 4]) else hp' m) (.op n' 0) (zA8 k t c v) n'=_;rw[zGs (bt:=24) (cs:=[nI 0,.s (.str []),nI 0,.nl 4]) (by simp only[aS,ag])]
  simp only[aS,ag])
 have g2:∀ m,m<n'->H m=hp' m:=fun m hm=>(hH m).trans (by
  show putC (fun m=>bif Nat.beq m n' then some (Ob.box 24 [nI 0,.s (.str []),nI 0,.nl 4]) else hp' m) (.op n' 0) (zA8 k t c v) m=_;rw[zBM (show m ≠ n' by omega),zEo (show m ≠ n' by omega)]; rfl)
 clear hH;have g0:H 0=some (.box 24 [nI 0,.s (.str []),nI 0,.nl 4]):=(g2 0 h1).trans (h2 0 (ax 0));obtain⟨w,hat⟩:=At.ofV (zEp g1) (h3.frame fun m hm=>g2 m (h5 m hm).2);have hnd:(zBh (.op n' 0)::keys).Nodup:=List.nodup_cons.2 ⟨fun hm=>Nat.lt_irrefl _ (h5 n' hm).2,h4⟩;refine yEW ?_;refine⟨_,⟨.op n' 0,.mk k t c ks,path,keys,w,rfl,.inr ⟨n',rfl⟩,hat,hnd,fun hf=>?_,fun p1 y F hf hole hF=>?_⟩,fun _ _ _ h=>h⟩
 ·rw[hf]at h;refine zAa<|yEW ?_;refine zAx rfl (fun _=>?_) (fun h=>by cases h);obtain⟨rfl,rfl⟩:=ap (Option.some.inj h);refine zAj (Le.forgetH [(6,.op 0 0)] H (n'+1) ⟨rfl,trivial⟩ (fun _=>rfl) rfl)<|yEW ?_;refine evS ?_;refine zHb (sz:=4) (cs:=[nI 0,.s (.str []),nI 0,.nl 4]) (cs':=[nI 0,.s (.str []),nI 0,.nl 4]) (p:=.op 0 0) rfl rfl rfl rfl rfl (.inr ⟨0,rfl⟩) rfl (zEp (bt:=24) g0) rfl rfl rfl rfl rfl ?_;refine evS ?_;refine zAd ?_;unfold zBF;refine⟨_,Le.refl _ _,(zI5 (bt:=24) (cells:=[nI 0,.s (.str []),nI 0,.nl 4]) rfl ?_ rfl rfl rfl).trans rfl,rfl⟩;exact qM
 rw[hf]at h;obtain⟨keys1,w1,hat1,hl1,hnd1⟩:=hole.here hnd;refine zSV (d:=19) ?_;refine evS ?_;refine evS ?_;refine evS ?_;refine evS (hs:=(zDj hl1 (.inl rfl) rfl rfl)) ?_;refine evS ?_;refine zAj (Le.forgetH [(5,.s (.pt (Nd.enc (.mk rk rt rc rks)))),(6,.op 0 0),(8,.op n' 0),(9,p1),(10,nB true)] H (n'+1) ⟨rfl,rfl,rfl,rfl,rfl,trivial⟩ (fun _=>rfl) rfl)<|zAa<|yEW ?_;show Tri ..;refine zAx rfl (fun h=>by cases h) (fun _=>?_);refine zAe ?_;show Tri ..;obtain⟨b2,hb2,h⟩:=zAc h;refine zAa<|yEW ?_;refine⟨_,⟨f,_,_,hb2,rfl,rfl⟩,?_⟩;show Tri ..;cases b2 with
 | false =>
  refine zAx rfl (fun _=>?_) (fun h=>by cases h);obtain⟨rfl,rfl⟩:=ap (Option.some.inj h);refine zAj (Le.forgetH [(6,.op 0 0)] H (n'+1) ⟨rfl,trivial⟩ (fun _=>rfl) rfl)<|yEW ?_;refine evS ?_;refine zHb (sz:=4) (cs:=[nI 0,.s (.str []),nI 0,.nl 4]) (cs':=[nI 0,.s (.str []),nI 0,.nl 4]) (p:=.op 0 0) rfl rfl rfl rfl rfl (.inr ⟨0,rfl⟩) rfl (zEp (bt:=24) g0) rfl rfl rfl rfl rfl ?_;refine evS ?_;refine zAd ?_;unfold zBF;refine⟨_,Le.refl _ _,(zI5 (bt:=24) (cells:=[nI 0,.s (.str []),nI 0,.nl 4]) rfl ?_ rfl rfl rfl).trans rfl,rfl⟩;exact qM
 | true=>
 refine zAx rfl (fun h=>by cases h) (fun _=>?_);refine zAe ?_;show Tri ..;rw[if_pos rfl]at h;obtain⟨n2,hn2,h⟩:=zAc h;obtain⟨hcnt2,hn2⟩:=zAs hn2;obtain rfl:=Option.some.inj hn2;refine zAj (Le.forgetH [(5,.s (.pt (Nd.enc (.mk rk rt rc rks)))),(6,.op 0 0),(8,.op n' 0),(9,p1)] H (n'+1) ⟨rfl,rfl,rfl,rfl,trivial⟩ (fun _=>rfl) rfl)<|yEW ?_;refine evS (hs:=(zDj hl1 (.inr rfl) rfl rfl)) ?_;refine evS ?_;refine⟨_,⟨rk,rc,rt,rks,hcnt2,rfl,fun v2 hp2 n2 keys2 q1 q2 q3 q4 q5=>?_⟩,fun _ _ _ h=>h⟩;refine zSV (d:=31) ?_;refine evS (hs:=(zFc hl1 rfl rfl)) ?_;have hb1:zBh p1<n'+1:=by
  rcases hole.base with h | h
  ·have:zBh p1=n':=h;omega
  have:=(h5 _ h).2; omega
 obtain⟨yk,yt,yc,yks⟩:=y;obtain⟨vy,hcy,_⟩:=hat1.full;have hcy2:zAJ hp2 p1=some (zA8 yk yt yc vy):=(zCg hl1 (q2 _ hb1)).trans hcy;have hv2:v2.one=true/\v2.lt n2=true:=by
  rcases q3 with ⟨_,rfl,_⟩ | ⟨q,_,_,_,rfl,_,_,hk,_⟩
  ·exact qQ
  exact⟨rfl,aP (q5 q (by rw[hk]; exact ak)).2⟩
 refine zHb (sz:=4) (cs':=zA8 rk rt rc v2) rfl rfl rfl rfl rfl hl1 rfl hcy2 rfl rfl rfl (by simp only[zA8,all_cons,all_nil,hv2.1]; rfl) (by show AV.ltAll n2 (zA8 rk rt rc v2)=true; simp only[zA8,AV.ltAll,hv2.2]; rfl) ?_;show Tri ..;refine zIN [(6,.op 0 0),(8,.op n' 0)] n2 ⟨rfl,rfl,trivial⟩ rfl fun H2 hH2=>?_
 have hH2:∀ m,H2 m=putC hp2 p1 (zA8 rk rt rc v2) m:=hH2;have hcp:zAJ H2 p1=some (zA8 rk rt rc v2):=(zCg hl1 (hH2 _)).trans (zJQ hl1 hcy2);have hb2k:∀ m∈keys2,H2 m=hp2 m:=fun m hm=>(hH2 m).trans (zBM (by have hm1:n'+1<=m:=(q5 m hm).1; omega))
 obtain⟨w3,hat3⟩:=At.ofV hcp (q3.frame hb2k);obtain⟨keys0,rest,w0',a1,a2,a3,a4,a5⟩:=hole;have hrest:∀ m,m=n'∨m∈rest->m<n'+1:=fun m hm=>by
  rcases hm with rfl | hm
  ·omega
  have:=(h5 m (a1.mem_iff.2 (mem_append_right _ hm))).2; omega
 obtain⟨keys3,w4,hperm,hfin⟩:=a5 H2 (.mk rk rt rc rks) keys2 w3 (Sim.put (c:=zA8 rk rt rc v2) hl1 hcy fun m hm=>(hH2 m).trans (zI3 hl1 (q2 m (hrest m hm)) (q2 _ hb1))) hat3;have hput:F (.mk rk rt rc rks)=putL (.mk k t c ks) path (.mk rk rt rc rks):=(hF _).symm;rw[hput]at hfin;have hn0:∀ m,m=n'∨m∈keys3->m ≠ 0:=fun m hm=>by
  have e1:1<=n':=h1;rcases hm with rfl | hm
  ·omega
  rcases aN.1 (hperm.mem_iff.1 hm) with hm | hm
  ·have e2:1<=m:=(h5 m (a1.mem_iff.2 (mem_append_right _ hm))).1;omega
  have e2:n'+1<=m:=(q5 m hm).1;omega
 have hatD:At (fun m=>bif Nat.beq m 0 then none else H2 m) 24 (.op n' 0) (putL (.mk k t c ks) path (.mk rk rt rc rks)) keys3 [] w4:=hfin.frame (.inr ⟨n',rfl⟩) fun m hm=>by rw[zEo (hn0 m hm)]; rfl
 obtain⟨cs,hcs,hrd⟩:=hatD.rd;rcases zCX (sz:=4) (.inr ⟨n',rfl⟩) hcs with ⟨q,i,e,rows,h1,_⟩ | ⟨q,bt,h1,hbt⟩
 ·cases h1
 cases h1;refine zAj (Le.givePart [(6,.op 0 0),(8,.s (.pt (Nd.enc (putL (.mk k t c ks) path (.mk rk rt rc rks)))))] (fun m=>bif Nat.beq m 0 then none else H2 m) (fun m=>bif Nat.beq m 0 then H2 m else none) (fun m ob hm=>by
  cases e:Nat.beq m 0 with
  | true=>rw[e]at hm; cases hm
  | false=>rw[e]at hm; exact hm) (fun m ob hm=>by
  cases e:Nat.beq m 0 with
  | true=>rw[e]at hm; exact hm
  | false=>rw[e]at hm; cases hm) (fun m ob ob' h1 h2=>by
  cases e:Nat.beq m 0 with
  | true=>rw[e]at h1; cases h1
  | false=>rw[e]at h2; cases h2) ⟨.inl rfl,.inr (Rd.box (off:=0) hbt hrd.1 hrd.2),trivial⟩) ?_
 have hb0:0 ≠ zBh p1:=by
  rcases a4 with rfl | a4
  ·exact Ne.symm (hn0 n' (.inl rfl))
  exact Ne.symm (hn0 _ (.inr (hperm.mem_iff.2 (mem_append_left _ a4))))
 have g3:H2 0=some (.box 24 [nI 0,.s (.str []),nI 0,.nl 4]):=(hH2 0).trans ((zBM hb0).trans ((q2 0 (Nat.succ_pos n')).trans g0));clear hrd hcs hatD hfin hput;generalize putL (.mk k t c ks) path (.mk rk rt rc rks)=T1 at *;obtain⟨k9,t9,c9,ks9⟩:=T1;obtain⟨b3,hb3,h⟩:=zAc h;refine zIN [(6,.op 0 0),(8,.s (.pt (Nd.enc (.mk k9 t9 c9 ks9))))] n2 ⟨rfl,rfl,trivial⟩ rfl fun H3 hH3=>?_
 have g4:H3 0=some (.box 24 [nI 0,.s (.str []),nI 0,.nl 4]):=(hH3 0).trans g3;refine zAa<|yEW ?_;refine⟨_,⟨f,_,_,hb3,rfl,rfl⟩,?_⟩;show Tri ..;cases b3 with
 | false =>
  refine zAx rfl (fun _=>?_) (fun h=>by cases h);obtain⟨rfl,rfl⟩:=ap (Option.some.inj h);refine zAj (Le.forgetH [(6,.op 0 0)] H3 n2 ⟨rfl,trivial⟩ (fun _=>rfl) rfl)<|yEW ?_;refine evS ?_;refine zHb (sz:=4) (cs:=[nI 0,.s (.str []),nI 0,.nl 4]) (cs':=[nI 0,.s (.str []),nI 0,.nl 4]) (p:=.op 0 0) rfl rfl rfl rfl rfl (.inr ⟨0,rfl⟩) rfl (zEp (bt:=24) g4) rfl rfl rfl rfl rfl ?_;refine evS ?_;refine zAd ?_;unfold zBF;refine⟨_,Le.refl _ _,(zI5 (bt:=24) (cells:=[nI 0,.s (.str []),nI 0,.nl 4]) rfl ?_ rfl rfl rfl).trans rfl,rfl⟩;exact qK
 | true=>
 refine zAx rfl (fun h=>by cases h) (fun _=>?_);obtain⟨rfl,rfl⟩:=ap (Option.some.inj h);refine zAe ?_;refine zAj (Le.forgetH [(6,.op 0 0),(8,.s (.pt (Nd.enc (.mk k9 t9 c9 ks9))))] H3 n2 ⟨rfl,rfl,trivial⟩ (fun _=>rfl) rfl)<|yEW ?_;refine evS ?_;refine zHb (sz:=4) (cs:=[nI 0,.s (.str []),nI 0,.nl 4]) (cs':=zA8 k9 t9 c9 (.s (.sl 4 (Nd.encs ks9)))) (p:=.op 0 0) rfl rfl rfl rfl rfl (.inr ⟨0,rfl⟩) rfl (zEp (bt:=24) g4) rfl rfl rfl rfl rfl ?_;refine evS ?_;refine zAd ?_;unfold zBF;refine⟨_,Le.refl _ _,(zI5 (bt:=24) (cells:=zA8 k9 t9 c9 (.s (.sl 4 (Nd.encs ks9)))) rfl ?_ rfl rfl rfl).trans rfl,rfl⟩;exact qK
def VAt.rd {hp:Nat->Option Ob}{e:Nat}{v:AV}{ks:List Nd}{keys:List Nat} (h:VAt hp e v ks keys):Rd hp v (.sl 4 (Nd.encs ks)):=by
 rcases h with ⟨rfl,rfl,_⟩ | ⟨q,rows,keys',w,rfl,hq,hlen,rfl,h⟩
 ·exact .s _
 exact Rd.rows hq hlen fun j x hj=>(by have:=LAt.rd h j x hj; rwa [a8]at this)
def zWl (xs:List AV) (cs:List S) (rs:List (List S)):Prop:=∃ (a0:Nd) (k c:Int) (t:List UInt8) (ks:List Nd),zCJ a0=some (.mk k t c ks)/\xs=[.agg ((Nd.enc a0).map .s)]/\cs=[.int .i64 k,.str t,.int .i64 c]/\rs=Nd.encs ks
def zN1:PSound prog 28 (zD8 fun xs os x os'=>∃ cs rs,os=[]/\x = .agg (cs.map .s++[.orow 0])/\os'=[some (.row 24 4 rs)]/\zWl xs cs rs):=by
 refine PSound.giveTop zHA fun xs cs rs ⟨⟨k0,t0,c0,ks0⟩,k,c,t,ks,hm,hx,hcs,hrs⟩=>?_
 subst hx; subst hcs; subst hrs;obtain⟨⟨hq,hne⟩,hm⟩:=zAs hm;cases hm;refine⟨k0,c0,t0,ks0,hq,rfl,fun v hp' n' keys _ _ hv hnd _=>?_⟩;rcases hv with ⟨rfl,_⟩ | ⟨q,rows,keys',w,rfl,hq,hlen,rfl,hl⟩
 ·exact absurd rfl hne
 refine⟨q,rows,fun k=>if k∈keys' then hp' k else none,rfl,hq,by rw[Nd.encs_eq,az]; exact hlen,fun r hr=>?_,fun k ob hk=>?_,zUU fun j r s hr hs=>?_⟩
 ·rw[Nd.encs_eq]at hr;obtain⟨x,_,rfl⟩:=be.1 hr;cases x; rfl
 ·dsimp only at hk;split at hk
  ·rename_i hm;exact⟨hk,fun e=>(List.nodup_cons.1 hnd).1 (by rw[← e]; exact hm)⟩
  cases hk
 rw[Nd.encs_eq,ao]at hs;cases hx:ks0[j]? with
 | none=>rw[hx]at hs; cases hs
 | some x=>
 rw[hx]at hs; cases hs;obtain⟨keys0,rest,w0,hperm,hat,_⟩:=LAt.hole (i:=0) hl hnd hx;rw[a8]at hat;obtain⟨k2,t2,c2,ks2⟩:=x;obtain⟨v,hc,hv⟩:=hat.full;rw[zFW hq,hr]at hc;cases hc;exact RdC.node (VAt.rd (hv.frame fun k hk=>by
  show(if k∈keys' then hp' k else none)=hp' k;rw[if_pos (hperm.mem_iff.2 (mem_append_left _ hk))]))
def zM5 (xs:List AV) (os:List Ob) (x:AV) (os':List (Option Ob)):Prop:=∃ (a0:Nd) (y0:Nd),zCJ a0=some y0/\xs=[.agg ((Nd.enc a0).map .s)]/\os=[]/\x = .agg (match y0 with | .mk k t c _=>[nI k,nS t,nI c,.orow 0])/\os'=[some (.row 24 4 (match y0 with | .mk _ _ _ ks=>Nd.encs ks))]
def zF7:zAq:=zD8 (fun xs os x os'=>zM5 xs os x os')
def zHP:PSound prog 28 zF7 :=
 PSound.ofOwn zN1.1 fun G w O xs vs os x os' h1 h2 h3 h4 h5 ⟨a0,⟨k,t,c,ks⟩,hm,hx,ho,hr,ho'⟩ =>
  zN1.2.2.1 _ rfl G w O xs vs os x os' h1 h2 h3 h4 h5 ⟨[.int .i64 k,.str t,.int .i64 c],Nd.encs ks,ho,hr,ho',a0,k,c,t,ks,hm,hx,rfl,rfl⟩
end
section
open Go.RowKit Go.Lib
def Tryz.Grow_nil_sNode (w:World) :
  Calls prog 242 #[.slice none 0 0,.int .i64 0] w fun e w'=>e = .returned (.slice none 0 0)/\w'=w:=by
 have h2:wrap64 0=0:=by unfold wrap64; omega
 go_enter func242,Tryz.ntmps242
 go_wp2
 go_ret;exact qQ
set_option maxHeartbeats 4000000 in
def Tryz.Grow_new_sNode (i0:TypeInfo) (z:Value) (hi0:prog.info? 24=some i0) (hz0:i0.zero=some z) (hs0:0<i0.size)
  (n:Nat) (w:World) (hroom:0<n) (hbig:n * i0.bytes<=140737488355328) (h63:n<=4611686018427387904) :
  Calls prog 242 #[.slice none 0 0,.int .i64 n] w fun e w' =>
   e = .returned (.slice (some ⟨w.heap.size,0,none⟩) 0 (grownCap w n 0 24)) /\
   w'=w.drew.alloc (.cells (#[]++Builtin.zeroCells z.cells n++Builtin.zeroCells z.cells (grownCap w n 0 24 - n)) 24):=by
 have h1:¬ ((n:Int)<0) :=(by omega);have h2:wrap64 0=0 :=(by unfold wrap64; omega);have h3:wrap64 (n:Int)=(n:Int) :=(by unfold wrap64; omega);have h4:(n:Int) > 0 :=(by omega);have hold:(Builtin.firstCells i0.size 0 (.slice none 0 0)).run prog w.drew = .ok ([]:List Value).toArray w.drew:=run_firstCells_none w.drew i0.size 0 0 0;have hrz:∀ ty,(Builtin.append_ #[22,3] ty #[.slice none 0 0,.int .i64 (n:Int)]).run prog w =
   .ok (.slice (some ⟨w.heap.size,0,none⟩) n (grownCap w n 0 24)) (w.drew.alloc (.cells (#[]++Builtin.zeroCells z.cells n++Builtin.zeroCells z.cells (grownCap w n 0 24 - n)) 24)):=fun ty=>by
  have h:=Lib.run_append_grow_zeros w 22 3 ty 24 i0 z .i64 .i64 Tryz.underlying22 Tryz.underlying3 hi0 hz0 none 0 0 [] hold n (by omega) hs0 (by omega) (by omega) (by omega)
   (by rw[a8]; exact growslice_fits hroom hbig)
  rw[a8]at h;exact h
 have hGn:n<=grownCap w n 0 24:=grownCap_ge w _ _ _;obtain⟨G,hG⟩:∃ G,G=grownCap w n 0 24:=⟨_,rfl⟩;rw[← hG]at hrz hGn ⊢;have hG63:G<=9223372036854775807:=by
  have:=grownCap_le_maxLen w n 0 24 (by unfold maxLen; omega);rw[← hG]at this;unfold maxLen at this;omega
 clear hold hG;go_enter func242,Tryz.ntmps242
 go_wp2_with (at_builtin; refine Lib.wpList_append_run _ rfl _ _ _ _ rfl _ _ rfl rfl _ _ (hrz _) ?_)
 all_goals (go_ret; exact⟨rfl,rfl⟩)
end
section
def yC5 (z:Array Value) (n:Nat):(Builtin.zeroCells z n).size=n * z.size:=by simp[Builtin.zeroCells]
def zJH (xs:List AV) (r:Ret):Prop:=∃ (a0:Int) (y0:List Nd),zEi a0=some y0/\xs=[.nl 4,nI a0]/\r = .row 24 4 (Nd.encs y0)
def zGb:zAq:=yEJ fun xs r=>zJH xs r
def zJi:PSound prog 242 zGb :=
 ⟨call242,fun G w xs vs r hl hg _ hv ⟨a0,y0,hm,hx,hr⟩=>by
  subst hx; subst hr
  obtain⟨⟨q1,q2⟩,hm⟩:=zAs hm;obtain rfl:=Option.some.inj hm;obtain⟨n,rfl⟩:=aM q1;simp only[AVals,AVal,Rep]at hv;obtain⟨_,_,rfl,rfl,_,_,rfl,rfl,rfl⟩:=hv
  by_cases h0:n=0
  ·subst h0;exact(Tryz.Grow_nil_sNode w).mono fun e w' ⟨h1,h2⟩=>by
    subst h2;exact⟨_,G,h1,Ext.refl hl,fun r hr=>(by cases hr),by decide,.inl ⟨rfl,rfl⟩⟩
  obtain⟨d,info,z,b1,b2,b3,b4,b5,b6,b7,b8,b9,b10⟩:=tokW 24 _ rfl;have i1:info.size=4:=b4;have i2:info.bytes=56:=b5;have hzs:z.cells.size=4:=zLe b7 b8 b9;refine(Tryz.Grow_new_sNode info z b3 b6 (by omega) n w (by omega) (by rw[i2]; omega) (by omega)).mono fun e w' ⟨h1,h2⟩=>?_
  have hge:n<=grownCap w n 0 24 :=(by unfold grownCap Question.cut; simp);generalize grownCap w n 0 24=g at *;refine⟨_,G,h1,?_,fun r hr=>(by cases hr),by decide,.inr ⟨w.heap.size,g,#[]++Builtin.zeroCells z.cells n++Builtin.zeroCells z.cells (g - n),rfl,aQ _,?_,by rw[h2]; exact RowBlk.laid (zCm w.drew _),fun h=>Nat.lt_irrefl _ (hl _ h),ar _,fun i s hi=>by cases hi⟩⟩
  ·rw[h2]
   exact(Ext.drew hl).trans (Ext.own (w:=w.drew) hl _)
  ·simp only[Array.size_append,Array.size_empty,yC5,hzs]
   omega,
 fun R hR=>(by cases hR),fun R hR=>(by cases hR)⟩
def zJc (xs:List AV) (r:Ret):Prop:=∃ (a0:List Nd) (y0:List Nd),zDY a0=some y0/\xs=[.s (.sl 4 (Nd.encs a0))]/\r = .val (.s (.sl 4 (Nd.encs y0)))
def zFM:zAq:=zAr fun xs r=>zJc xs r
def zIG:PSound prog 221 zFM:=by
 have gok:=@gok0 prog;refine psq tokW call221 func221 rfl ?_;rintro xs r w0 G0 ⟨l,y,h,rfl,rfl⟩ _;obtain⟨hq,h⟩:=zAs h;obtain rfl:=Option.some.inj h;have hlen:(Nd.encs l).length=l.length:=rlen Nd.encs_eq l;refine yEW ?_;refine zAa<|yEW ?_;intro b hb;show Tri ..;cases b with
 | true =>
  have hl:=hb rfl;refine zAx rfl (fun _=>?_) (fun h=>by cases h);refine yEW ?_;refine zAd ?_;unfold zBF;exact⟨_,Le.refl _ _,congrArg (fun z=>some (AV.s (.sl 4 z))) hl.symm,rfl⟩
 | false=>
 refine zAx rfl (fun h=>by cases h) (fun _=>?_);refine zAe<|yCZ [5,7] [] rfl ?_;refine And.intro (show(([]:List (List S)).length+(Nd.encs l).length) * 56<=140737488355328/\([]:List (List S)).length+(Nd.encs l).length<=9223372036854775807 from by rw[hlen]; simp only[an]; omega) ?_;refine zAd ?_;unfold zBF;exact⟨_,Le.giveRow 1 (e:=24) (sz:=4) (rows:=Nd.encs l) rfl,rfl,rfl⟩
def zJG (xs:List AV) (r:Ret):Prop:=∃ (a0:List Int) (y0:List Int),zBC a0=some y0/\xs=[.s (.sl 1 (iL a0))]/\r = .val (.s (.sl 1 (iL y0)))
def zGa:zAq:=zAr fun xs r=>zJG xs r
def zJh:PSound prog 34 zGa:=by
 have gok:=@gok0 prog;refine psq tokW call34 func34 rfl ?_;rintro xs r w0 G0 ⟨l,y,h,rfl,rfl⟩ _;obtain⟨hq,h⟩:=zAs h;obtain rfl:=Option.some.inj h;have hlen:(iL l).length=l.length:=rlen (fun _=>rfl) l;refine yEW ?_;refine zAa<|yEW ?_;intro b hb;show Tri ..;cases b with
 | true =>
  have hl:=hb rfl;refine zAx rfl (fun _=>?_) (fun h=>by cases h);refine yEW ?_;refine zAd ?_;unfold zBF;exact⟨_,Le.refl _ _,congrArg (fun z=>some (AV.s (.sl 1 z))) hl.symm,rfl⟩
 | false=>
 refine zAx rfl (fun h=>by cases h) (fun _=>?_);refine zAe<|yCZ [5,7] [] rfl ?_;refine And.intro (show(([]:List (List S)).length+(iL l).length) * 8<=140737488355328/\([]:List (List S)).length+(iL l).length<=9223372036854775807 from by rw[hlen]; simp only[an]; omega) ?_;refine zAd ?_;unfold zBF;exact⟨_,Le.giveRow 1 (e:=3) (sz:=1) (rows:=iL l) rfl,rfl,rfl⟩
def zAQ (p:List Nd):List S:=[.sl 4 (Nd.encs p)]
variable (n:Nat) (xs:List AV) (r:Ret)
def zH1:Prop:=∃ a0 y0,zBJ n a0=some y0/\xs=[.s (.sl 1 ((List.map zAQ) a0))]/\r = .row 24 4 (Nd.encs y0)
def zFj:zAq:=pG zH1
def yD8 {α:Type}{a b:α} (h:a=b:=by simp[bn,map_take,map_drop,irow,brow,zGH,ba,map_nil,zGe,Nd.encs_eq,Nd.enc,zBv,zAW,zB3,zAQ]):a=b :=
 h
def jH {P:Prop} (h:P:=by have hy:=osi h;subst hy;unfold zBF;exact⟨_,Le.refl _ _,0,rfl,rfl⟩):P:=h
def qE {P:Prop} (h:P:=by refine zAj hle<|yEW ?_;refine zAd ?_;exact jH):P:=h
def zHV:PSound prog 234 zFj:=by
 have gok:=gk1 zJi<|gk0;refine psq tokW call234 func234 rfl ?_;rintro xs r w0 G0 ⟨n,slices1,y0,h,rfl,rfl⟩ _;rw[zBJ]at h;refine yCZ [2] [] rfl ?_;refine zAj (Le.rnq [] [(0,.s (.sl 1 ((List.map zAQ) slices1)))] [] 0)<|yEW ?_;refine zAa<|yCZ [] [10] rfl ?_;refine len1 (fun _=>rfl) slices1 ?_;show Tri ..;obtain⟨size5,hl,h⟩:=zAc h;refine pL [(0,.s (.sl 1 ((List.map zAQ) slices1))),(3,nI size5)] ?_ (fun V' hle=>?_)
 ·refine zAk (zAv (X:=Nat×Int×Int) (fun y=>match y with | (k,x3,size4)=>⟨ofL [(0,.s (.sl 1 ((List.map zAQ) slices1))),(3,nI size4),(9,.s (.sl 1 ((List.map zAQ) slices1))),(10,nI (slices1.length:Int)),(11,nI x3)],fun _=>none,0⟩) (fun y=>zAN slices1 y.1 y.2.1 y.2.2=some size5) (fun y=>y.1) (n,0,0) hl ?_ ?_)
  ·exact Le.fgt
  rintro⟨k,x3,size4⟩ h;cases k with
  | zero=>cases h
  | succ k=>
  replace h:zAN slices1 (k+1) x3 size4=some size5:=h;rw[zAN]at h;refine yEW ?_;refine zAa<|zAf rfl h (fun hb h=>?_) (fun hb h=>?_)
  ·refine zAe<|zAa<|zAk<|yCZ [] [13] rfl ?_;obtain⟨e6,he6,h⟩:=zAc h;refine at1 [.sl 4 (Nd.encs e6)] (fun _=>rfl) he6 ?_;refine yCZ [] [17] rfl ?_;refine len1 Nd.encs_eq e6 ?_;refine yEW ?_;refine zAf rfl h (fun hb h=>?_) (fun hb h=>?_)
   ·cases h
   refine zAe<|yEV ?_;refine⟨(k,i64.wrap (x3+1),i64.wrap (size4+(e6.length:Int))),h,Le.fgt,ax k⟩
  refine zAy ?_;exact jD
 refine zAj hle<|yCZ [24] [] rfl ?_;obtain⟨y9,hy9,h⟩:=zAc h;refine⟨_,⟨_,_,hy9,rfl,rfl⟩,?_⟩;refine zAa<|yCZ [] [26] rfl ?_;refine len1 (fun _=>rfl) slices1 ?_;show Tri ..;obtain⟨l14,hl,h⟩:=zAc h;refine zAl ⟨ofL [(6,.orow 0)],ofH [(0,.row 24 4 (Nd.encs l14))],1⟩ ?_ (fun V' hle=>?_)
 ·refine zAk (zAv (X:=Nat×Int×(List Nd)) (fun y=>match y with | (k,x11,l13)=>⟨ofL [(6,.orow 0),(25,.s (.sl 1 ((List.map zAQ) slices1))),(26,nI (slices1.length:Int)),(27,nI x11)],ofH [(0,.row 24 4 (Nd.encs l13))],1⟩) (fun y=>zAO slices1 y.1 y.2.1 y.2.2=some l14) (fun y=>y.1) (n,0,y9) hl ?_ ?_)
  ·exact qD
  rintro⟨k,x11,l13⟩ h;cases k with
  | zero=>cases h
  | succ k=>
  replace h:zAO slices1 (k+1) x11 l13=some l14:=h;rw[zAO]at h;refine yEW ?_;refine zAa<|zAf rfl h (fun hb h=>?_) (fun hb h=>?_)
  ·refine zAe<|zAa<|zAk<|yCZ [] [29] rfl ?_;obtain⟨e15,he15,h⟩:=zAc h;refine at1 [.sl 4 (Nd.encs e15)] (fun _=>rfl) he15 ?_;refine zAb [33] [] rfl ?_;obtain⟨hq,h⟩:=zAs h;refine And.intro (lapE hq (rlen Nd.encs_eq _) (rlen Nd.encs_eq _)) ?_;show Tri ..;refine zAj (Le.rnq [(1,0)] [(6,.orow 0),(25,.s (.sl 1 ((List.map zAQ) slices1))),(26,nI (slices1.length:Int)),(27,nI x11)] [(0,.row 24 4 (Nd.encs (l13++e15)))] 1 (h2:=⟨rfl,⟨_,rfl,congrArg (Ob.row 24 4) yD8⟩,trivial⟩))<|yEV ?_;refine⟨(k,i64.wrap (x11+1),l13++e15),h,(Le.rnq [(0,0)] _ _ _),ax k⟩
  refine zAy ?_;exact jC
 exact qE
def zAE (p:(zO8×List Nd)):List S:=[.int .i64 p.1.1,.sl 1 (iL p.1.2.1),.int .i64 p.1.2.2.1,.int .i64 p.1.2.2.2.1,.sl 4 (Nd.encs p.1.2.2.2.2.1),.int .i64 p.1.2.2.2.2.2.1,.str p.1.2.2.2.2.2.2.1,.str p.1.2.2.2.2.2.2.2,.sl 4 (Nd.encs p.2)]
def zJ8:Prop:=∃ a0 a1 a2 y0,zAR n a0 a1 a2=some y0/\xs=[.agg ((zAE a0).map .s),nI a1,.s (.sl 4 (Nd.encs a2))]/\r = .val (.s (.sl 4 (Nd.encs y0)))
def zBK:zAq:=pG zJ8
def zCe:PSound prog 218 zBK:=by
 have gok:=gk1 zHV<|gk0;refine psq tokW call218 func218 rfl ?_;rintro xs r w0 G0 ⟨n,⟨⟨c1Ap,c1Au,c1Aj,c1Aq,c1Am,c1An,c1At,c1As⟩,c1Ai⟩,n2,nodes3,y0,h,rfl,rfl⟩ _;rw[zAR]at h;refine yEW ?_;refine zAa<|zAw [] [12,21,22] [] rfl (by decide +kernel) ?_;obtain⟨hq,h⟩:=zAs h;refine And.intro ⟨hq.1,hq.2.1,Int.le_trans hq.2.2 (bi.2 (bk (rlen Nd.encs_eq _).symm))⟩ ?_;intro r4 hr4;obtain rfl:Nd.encs ((c1Ai.take c1Aj.toNat).drop (0:Int).toNat)=r4:=(hr4.trans (rcut Nd.encs_eq _ _ _)).symm;obtain⟨hq,h⟩:=zAs h;refine And.intro ⟨hq.1,Int.le_trans hq.2.1 (bi.2 (bk (rlen Nd.encs_eq _).symm)),Int.le_refl _⟩ ?_;intro r5 hr5;obtain rfl:Nd.encs ((c1Ai.take (c1Ai.length:Int).toNat).drop (i64.wrap (c1Aj+n2)).toNat)=r5:=(hr5.trans ((congrArg (fun m:Nat=>((Nd.encs c1Ai).take m).drop (i64.wrap (c1Aj+n2)).toNat) (rlen Nd.encs_eq _)).trans (rcut Nd.encs_eq _ _ _))).symm;intro r6 hr6;obtain rfl:(List.map zAQ) [(c1Ai.take c1Aj.toNat).drop (0:Int).toNat,nodes3,(c1Ai.take (c1Ai.length:Int).toNat).drop (i64.wrap (c1Aj+n2)).toNat]=r6:=(hr6.trans yD8).symm;obtain⟨y7,hy7,h⟩:=zAc h;refine⟨_,⟨_,_,_,hy7,rfl,rfl⟩,?_⟩;exact jN
def zEl:Prop:=∃ a0 a1 y0,zBY n a0 a1=some y0/\xs=[.agg ((Nd.enc a0).map .s),.agg ((Nd.enc a1).map .s)]/\r = .val (nB y0)
def zA2:Prop:=∃ a0 a1 y0,zAP n a0 a1=some y0/\xs=[.s (.sl 4 (Nd.encs a0)),.s (.sl 4 (Nd.encs a1)),.s (.fn 220)]/\r = .val (nB y0)
def zOw (n:Nat) (ih_node_Equal:PSound prog 220 (zAr (zEl n))) (ih_slices_EqualFunc_sNode:PSound prog 219 (zAr (zA2 n))):PSound prog 220 (zAr (zEl (n+1))):=by
 have gok:=gk1 ih_slices_EqualFunc_sNode<|gk0;refine psq tokW call220 func220 rfl ?_;rintro xs r w0 G0 ⟨⟨a1A,a1C,a1D,a1B⟩,⟨b2A,b2C,b2D,b2B⟩,y0,h,rfl,rfl⟩ _;rw[zBY]at h;refine yEW ?_;refine zAa ?_;obtain⟨x3,hj,h⟩:=zAc h;refine pL [(4,nB x3)] ?_ (fun V' hle=>?_)
 ·replace h:=hj;refine zAb [] [10,17,24] rfl ?_;refine nbS h (fun hb h=>?_) (fun hb h=>?_)
  ·refine nbS h (fun hb h=>?_) (fun hb h=>?_)
   ·refine nbS h (fun hb h=>?_) (fun hb h=>?_)
    ·obtain⟨y4,hy4,h⟩:=zAc h;refine⟨_,⟨_,_,_,hy4,rfl,rfl⟩,?_⟩;exact jD
    exact jD
   exact jJ
  exact jT
 exact jP
def zGv (n:Nat) (ih_node_Equal:PSound prog 220 (zAr (zEl n))) (ih_slices_EqualFunc_sNode:PSound prog 219 (zAr (zA2 n))):PSound prog 219 (zAr (zA2 (n+1))):=by
 have gok:=gk1 ih_node_Equal<|gk0;refine psq tokW call219 func219 rfl ?_;rintro xs r w0 G0 ⟨s11,s22,y0,h,rfl,rfl⟩ _;rw[zAP]at h;refine yEW ?_;refine zAa<|yCZ [] [11,13] rfl ?_;refine len1 Nd.encs_eq s11 ?_;refine len1 Nd.encs_eq s22 ?_;refine zAf rfl h (fun hb h=>?_) (fun hb h=>?_)
 ·exact gI
 refine zAe<|zAa<|yCZ [] [16] rfl ?_;refine len1 Nd.encs_eq s11 ?_;show Tri ..;obtain⟨fl,hl,ho1⟩:=zAc h;refine zBN (fl:=fl) (fun z=>match z with | _=>⟨ofL [],fun _=>none,0⟩) ?_ (fun z V' hz hle=>?_)
 ·refine zAk (zAv (X:=Nat×Int) (fun y=>match y with | (k,x6)=>⟨ofL [(1,.s (.sl 4 (Nd.encs s22))),(2,.s (.fn 220)),(15,.s (.sl 4 (Nd.encs s11))),(16,nI (s11.length:Int)),(17,nI x6)],fun _=>none,0⟩) (fun y=>zAF (zBY n) s11 s22 y.1 y.2=some fl) (fun y=>y.1) (n,0) hl ?_ ?_)
  ·exact Le.fgt
  rintro⟨k,x6⟩ h;cases k with
  | zero=>cases h
  | succ k=>
  replace h:zAF (zBY n) s11 s22 (k+1) x6=some fl:=h;rw[zAF]at h;refine yEW ?_;refine zAa<|zAf rfl h (fun hb h=>?_) (fun hb h=>?_)
  ·refine zAe<|zAa<|zAk<|yCZ [8] [20] rfl ?_;obtain⟨⟨e7A,e7C,e7D,e7B⟩,he7,h⟩:=zAc h;refine at1 (nN e7A e7C e7D e7B) Nd.encs_eq he7 ?_;refine zAj (Le.giveBox 0 (nN e7A e7C e7D e7B) rfl rfl)<|yCZ [9] [24] rfl ?_;obtain⟨⟨e9A,e9C,e9D,e9B⟩,he9,h⟩:=zAc h;refine at1 (nN e9A e9C e9D e9B) Nd.encs_eq he9 ?_;show Tri ..;refine zAj (Le.giveBox 1 (nN e9A e9C e9D e9B) rfl rfl)<|yEW ?_;obtain⟨y11,hy11,h⟩:=zAc h;refine⟨_,⟨_,_,_,hy11,rfl,rfl⟩,?_⟩;refine zAf rfl h (fun hb h=>?_) (fun hb h=>?_)
   ·exact jE
   refine zAe<|yEV ?_;refine⟨(k,i64.wrap (x6+1)),h,(Le.rnq [] _ [] 0),ax k⟩
  exact gV
 exact jG
def zIb:∀ n,PSound prog 220 (zAr (zEl n))/\PSound prog 219 (zAr (zA2 n)):=by
 intro n;induction n with
 | zero =>
  refine⟨?_,?_⟩
  ·exact zCz call220 (fun xs r h=>by obtain⟨_,_,_,h,_⟩:=h; rw[zBY]at h; cases h)
  exact zCz call219 (fun xs r h=>by obtain⟨_,_,_,h,_⟩:=h; rw[zAP]at h; cases h)
 | succ n ih=>obtain⟨ih_node_Equal,ih_slices_EqualFunc_sNode⟩:=ih;exact⟨zOw n ih_node_Equal ih_slices_EqualFunc_sNode,zGv n ih_node_Equal ih_slices_EqualFunc_sNode⟩
def zLR:zAq:=pG zEl
def zQX:PSound prog 220 zLR:=zDf (fun n=>(zIb n).1)
def zEn:zAq:=pG zA2
def zG2:PSound prog 219 zEn:=zDf (fun n=>(zIb n).2)
abbrev Zn a b:=([.s (.sl 4 (Nd.encs a)),nI b]:List AV)
def zGP:Prop:=∃ a0 y0 y1,zBd n a0=some (y0,y1)/\xs=[.agg ((zAE a0).map .s)]/\r = .val (.tup (Zn y0 y1))
def zGS:zAq:=pG zGP
def jA {P:Prop} (h:P:=by refine zAd ?_;obtain⟨hj1,hk1⟩:=pij h;subst hj1 hk1;exact fin0 rfl rfl):P:=h
def jM {P:Prop} (h:P:=by refine yEW ?_;exact jA):P:=h
abbrev Zh a b c d e f g h i:=(.pt [.int .i64 a,.sl 1 (iL b),.int .i64 c,.int .i64 d,.sl 4 (Nd.encs e),.int .i64 f,.str g,.str h,.sl 4 (Nd.encs i)]:S)
def zGy:PSound prog 185 zGS:=by
 have gok:=gk1 zHP<|gk1 zHH<|gk1 zQX<|gk1 zCe<|gk0;refine psq tokW call185 func185 rfl ?_;rintro xs r w0 G0 ⟨n,⟨⟨c1Ap,c1Au,c1Aj,c1Aq,c1Am,c1An,c1At,c1As⟩,c1Ai⟩,y0,y1,h,rfl,rfl⟩ _;rw[zBd]at h;refine yEW ?_;refine yCZ [4] [11] rfl ?_;obtain⟨⟨e2A,e2C,e2D,e2B⟩,he2,h⟩:=zAc h;refine at1 (nN e2A e2C e2D e2B) Nd.encs_eq he2 ?_;obtain⟨⟨y4A,y4C,y4D,y4B⟩,hy4,h⟩:=zAc h;refine⟨_,_,⟨_,_,hy4,rfl,rfl,rfl,rfl⟩,?_⟩;refine zAa<|zAa<|zAw [] [] [3,4] rfl (by decide +kernel) ?_;obtain⟨y5,hy5,h⟩:=zAc h;refine⟨_,⟨_,_,hy5,rfl,rfl⟩,?_⟩;refine zAf rfl h (fun hb h=>?_) (fun hb h=>?_)
 ·exact jM
 refine zAe<|yEW ?_;obtain⟨⟨e6A,e6C,e6D,e6B⟩,he6,h⟩:=zAc h;refine And.intro (zGU Nd.encs_eq he6).1 ?_;refine And.intro (zGU Nd.encs_eq he6).2.2 ?_;refine⟨_,(zGU Nd.encs_eq he6).2.1,?_⟩;refine yEW ?_;obtain⟨⟨e7A,e7C,e7D,e7B⟩,he7,h⟩:=zAc h;refine And.intro (zGU Nd.encs_eq he7).1 ?_;have hset8:=(rset (R:=Nd.encs) (f:=Nd.enc) Nd.encs_eq he7 (Nd.mk e7A e7C e7D []) 3 4 [.sl 4 (Nd.encs [])] rfl);have hat8:=at_set he7 (Nd.mk e7A e7C e7D []);refine And.intro (zGU Nd.encs_eq he7).2.2 ?_;refine zAj (Le.rnq [(1,0),(0,1)] [(1,.s (Zh c1Ap c1Au c1Aj c1Aq c1Am c1An c1At c1As c1Ai)),(4,.op 0 0),(5,.s (.sl 4 (Nd.encs e6B)))] [(0,.box 24 [nI y4A,nS y4C,nI y4D,.orow 1]),(1,.row 24 4 (Nd.encs (y4B.set c1An.toNat (Nd.mk e7A e7C e7D []))))] 2 (h2:=⟨rfl,⟨_,rfl,rfl⟩,rfl,⟨_,rfl,congrArg (Ob.row 24 4) hset8⟩,trivial⟩))<|zAa<|zAa ?_;obtain⟨x9,hj,h⟩:=zAc h;refine pL [(1,.s (Zh c1Ap c1Au c1Aj c1Aq c1Am c1An c1At c1As c1Ai)),(5,.s (.sl 4 (Nd.encs e6B))),(50,nB x9)] ?_ (fun V' hle=>?_)
 ·replace h:=hj;refine zAw [] [36,41,46] [7,13] rfl (by decide +kernel) ?_;refine len1 Nd.encs_eq e6B ?_;refine nbS h (fun hb h=>?_) (fun hb h=>?_)
  ·exact kA
  obtain⟨⟨e11A,e11C,e11D,e11B⟩,he11,h⟩:=zAc h;refine at1 (nN e11A e11C e11D e11B) Nd.encs_eq he11 ?_;obtain⟨y13,hy13,h⟩:=zAc h;refine⟨_,⟨_,_,_,_,hy13,rfl,rfl⟩,?_⟩;exact kA
 refine zAj hle<|zAf rfl h (fun hb h=>?_) (fun hb h=>?_)
 ·exact jM
 refine zAe<|yEW ?_;obtain⟨y14,hy14,h⟩:=zAc h;refine⟨_,⟨_,_,_,_,_,hy14,rfl,rfl⟩,?_⟩;exact jA
def zGQ (xs:List AV) (r:Ret):Prop:=∃ a0 y0 y1,zBe a0=some (y0,y1)/\xs=[.agg ((zAE a0).map .s)]/\r = .val (.tup (Zn y0 y1))
def zGT:zAq:=zAr fun xs r=>zGQ xs r
def zGz:PSound prog 185 zGT:=by
 have gok:=gk1 zEw<|gk1 zHH<|gk0;refine psq tokW call185 func185 rfl ?_;rintro xs r w0 G0 ⟨⟨⟨c1Ap,c1Au,c1Aj,c1Aq,c1Am,c1An,c1At,c1As⟩,c1Ai⟩,y0,y1,h,rfl,rfl⟩ _;rw[zBe]at h;refine yEW ?_;refine yCZ [4] [11] rfl ?_;obtain⟨⟨e2A,e2C,e2D,e2B⟩,he2,h⟩:=zAc h;refine at1 (nN e2A e2C e2D e2B) Nd.encs_eq he2 ?_;obtain⟨⟨y4A,y4C,y4D,y4B⟩,hy4,h⟩:=zAc h;refine⟨_,⟨_,_,hy4,rfl,rfl⟩,?_⟩;refine zAa<|zAa<|zAw [] [] [3] rfl (by decide +kernel) ?_;obtain⟨y5,hy5,h⟩:=zAc h;refine⟨_,⟨_,_,hy5,rfl,rfl⟩,?_⟩;refine zAf rfl h (fun hb h=>?_) (fun hb h=>?_)
 ·exact jM
 refine zAe<|zAa ?_;cases h
def zJ9:Prop:=∃ a0 y0 y1,zDm n a0=some (y0,y1)/\xs=[.agg ((zAE a0).map .s)]/\r = .val (.tup (Zn y0 y1))
def zGC:zAq:=pG zJ9
def yD9 {α:Type}{a b:α} (h:a=b:=by simp[bn,map_take,map_drop,irow,brow,zGH,ba,map_nil,zGe,Nd.encs_eq,Nd.enc,zBv,zAW,zB3,zAQ,zAE]):a=b :=
 h
def zJY:PSound prog 184 zGC:=by
 have gok:=gk1 zHP<|gk1 zIG<|gk1 zCe<|gk0;refine psq tokW call184 func184 rfl ?_;rintro xs r w0 G0 ⟨n,⟨⟨c1Ap,c1Au,c1Aj,c1Aq,c1Am,c1An,c1At,c1As⟩,c1Ai⟩,y0,y1,h,rfl,rfl⟩ _;rw[zDm]at h;refine yEW ?_;refine yCZ [4] [8] rfl ?_;obtain⟨⟨e2A,e2C,e2D,e2B⟩,he2,h⟩:=zAc h;refine at1 (nN e2A e2C e2D e2B) Nd.encs_eq he2 ?_;obtain⟨⟨y4A,y4C,y4D,y4B⟩,hy4,h⟩:=zAc h;refine⟨_,_,⟨_,_,hy4,rfl,rfl,rfl,rfl⟩,?_⟩;refine zAa<|zAw [] [28] [1,19,21] rfl (by decide +kernel) ?_;obtain⟨hq,h⟩:=zAs h;refine And.intro ⟨hq.1,hq.2.1,Int.le_trans hq.2.2 (bi.2 (bk (rlen Nd.encs_eq _).symm))⟩ ?_;intro r5 hr5;obtain rfl:Nd.encs ((c1Ai.take (i64.wrap (c1Aj+c1Aq)).toNat).drop c1Aj.toNat)=r5:=(hr5.trans (rcut Nd.encs_eq _ _ _)).symm;obtain⟨y6,hy6,h⟩:=zAc h;refine⟨_,⟨_,_,hy6,rfl,rfl⟩,?_⟩;obtain⟨⟨e7A,e7C,e7D,e7B⟩,he7,h⟩:=zAc h;refine And.intro (zGU Nd.encs_eq he7).1 ?_;have hset8:=(rset (R:=Nd.encs) (f:=Nd.enc) Nd.encs_eq he7 (Nd.mk e7A e7C e7D y6) 3 4 [.sl 4 (Nd.encs y6)] rfl);have hat8:=at_set he7 (Nd.mk e7A e7C e7D y6);refine And.intro (zGU Nd.encs_eq he7).2.2 ?_;show Tri ..
 refine zAj (Le.trans (Le.trans (Le.trans (Le.rnq [(1,0),(0,1)] [(1,.s (Zh c1Ap c1Au c1Aj c1Aq c1Am c1An c1At c1As c1Ai)),(4,.op 0 0)] [(0,.box 24 [nI y4A,nS y4C,nI y4D,.orow 1]),(1,.row 24 4 (Nd.encs (y4B.set c1An.toNat (Nd.mk e7A e7C e7D y6))))] 2 (h2:=⟨rfl,⟨_,rfl,rfl⟩,rfl,⟨_,rfl,congrArg (Ob.row 24 4) hset8⟩,trivial⟩)) (Le.giveRow 1 rfl)) (Le.rnq [(0,0)] [(1,.s (Zh c1Ap c1Au c1Aj c1Aq c1Am c1An c1At c1As c1Ai)),(4,.op 0 0)] [(0,.box 24 [nI y4A,nS y4C,nI y4D,.s (.sl 4 (Nd.encs (y4B.set c1An.toNat (Nd.mk e7A e7C e7D y6))))])] 1)) (Le.giveBox 0 [.int .i64 y4A,.str y4C,.int .i64 y4D,.sl 4 (Nd.encs (y4B.set c1An.toNat (Nd.mk e7A e7C e7D y6)))] rfl rfl)) ?_;refine yCZ [] [37] rfl ?_;intro r9 hr9;obtain rfl:Nd.encs [Nd.mk y4A y4C y4D (y4B.set c1An.toNat (Nd.mk e7A e7C e7D y6))]=r9:=(hr9.trans yD9).symm;obtain⟨y10,hy10,h⟩:=zAc h;refine⟨_,⟨_,_,_,_,_,hy10,rfl,rfl⟩,?_⟩;exact jA
def zI8:Prop:=∃ a0 y0 y1,zCC n a0=some (y0,y1)/\xs=[.agg ((zAE a0).map .s)]/\r = .val (.tup (Zn y0 y1))
def zFI:zAq:=pG zI8
def zIB:PSound prog 182 zFI:=by
 have gok:=gk1 zCe<|gk0;refine psq tokW call182 func182 rfl ?_;rintro xs r w0 G0 ⟨n,⟨⟨c1Ap,c1Au,c1Aj,c1Aq,c1Am,c1An,c1At,c1As⟩,c1Ai⟩,y0,y1,h,rfl,rfl⟩ _;rw[zCC]at h;refine yEW ?_;refine yEW ?_;obtain⟨y2,hy2,h⟩:=zAc h;refine⟨_,⟨_,_,_,_,_,hy2,rfl,rfl⟩,?_⟩;exact jA
def zI9:Prop:=∃ a0 y0 y1,zCD n a0=some (y0,y1)/\xs=[.agg ((zAE a0).map .s)]/\r = .val (.tup (Zn y0 y1))
def zFJ:zAq:=pG zI9
def zIC:PSound prog 183 zFJ:=by
 have gok:=gk1 zG2<|gk1 zCe<|gk0;refine psq tokW call183 func183 rfl ?_;rintro xs r w0 G0 ⟨n,⟨⟨c1Ap,c1Au,c1Aj,c1Aq,c1Am,c1An,c1At,c1As⟩,c1Ai⟩,y0,y1,h,rfl,rfl⟩ _;rw[zCD]at h;refine yEW ?_;refine yCZ [] [8] rfl ?_;refine len1 Nd.encs_eq c1Am ?_;refine zAa<|zAa<|zAw [] [19] [] rfl (by decide +kernel) ?_;obtain⟨hq,h⟩:=zAs h;refine And.intro ⟨hq.1,hq.2.1,Int.le_trans hq.2.2 (bi.2 (bk (rlen Nd.encs_eq _).symm))⟩ ?_;intro r3 hr3;obtain rfl:Nd.encs ((c1Ai.take (i64.wrap (c1Aj+(c1Am.length:Int))).toNat).drop c1Aj.toNat)=r3:=(hr3.trans (rcut Nd.encs_eq _ _ _)).symm;obtain⟨y4,hy4,h⟩:=zAc h;refine⟨_,⟨_,_,_,_,hy4,rfl,rfl⟩,?_⟩;refine zAf rfl h (fun hb h=>?_) (fun hb h=>?_)
 ·exact jM
 refine zAe<|yEW ?_;obtain⟨y5,hy5,h⟩:=zAc h;refine⟨_,⟨_,_,_,_,_,hy5,rfl,rfl⟩,?_⟩;exact jA
def zLf:Prop:=∃ a0 y0 y1,zDI n a0=some (y0,y1)/\xs=[.agg ((zAE a0).map .s)]/\r = .val (.tup (Zn y0 y1))
def zG7:zAq:=pG zLf
def jK {P:Prop} (h:P:=by refine zAd ?_;cases h;replace h:some _=some _:=ho1;obtain⟨hj1,hk1⟩:=pij h;subst hj1 hk1;exact fin0 rfl rfl):P:=h
def gU {P:Prop} (h:P:=by refine zAe ?_;cases h;exact⟨_,rfl,(Le.rnq [(0,0)] _ _ _)⟩):P:=h
def qN {P:Prop} (h:P:=by refine zAe ?_;exact jC):P:=h
abbrev Zr a b c d:=([nI a,nS b,nI c,.s (.sl 4 (Nd.encs d))]:List AV)
def zKS:PSound prog 186 zG7:=by
 have gok:=gk1 zCe<|gk0;refine psq tokW call186 func186 rfl ?_;rintro xs r w0 G0 ⟨n,⟨⟨c1Ap,c1Au,c1Aj,c1Aq,c1Am,c1An,c1At,c1As⟩,c1Ai⟩,y0,y1,h,rfl,rfl⟩ _;rw[zDI]at h;refine yEW ?_;refine yCZ [4] [10] rfl ?_;obtain⟨⟨e2A,e2C,e2D,e2B⟩,he2,h⟩:=zAc h;refine at1 (nN e2A e2C e2D e2B) Nd.encs_eq he2 ?_;refine zAa<|yEW ?_;show Tri ..;obtain⟨fl,hj,ho1⟩:=zAc h;refine zBN (fl:=fl) (fun z=>match z with | _=>⟨ofL [(1,.s (Zh c1Ap c1Au c1Aj c1Aq c1Am c1An c1At c1As c1Ai)),(4,.op 0 0)],ofH [(0,.box 24 (Zr e2A e2C e2D e2B))],1⟩) ?_ (fun z V' hz hle=>?_)
 ·replace h:=hj;refine zAk<|zAa<|yEW ?_;show Tri ..;obtain⟨x4,hj,h⟩:=zAc h;refine zAl ⟨ofL [(1,.s (Zh c1Ap c1Au c1Aj c1Aq c1Am c1An c1At c1As c1Ai)),(4,.op 0 0),(14,nB x4)],ofH [(0,.box 24 (Zr e2A e2C e2D e2B))],1⟩ ?_ (fun V' hle=>?_)
  ·replace h:=hj;refine zAf rfl h (fun hb h=>?_) (fun hb h=>?_)
   ·exact qN
   refine yEW ?_;refine zAf rfl h (fun hb h=>?_) (fun hb h=>?_)
   ·exact qN
   refine yEW ?_;refine zAf rfl h (fun hb h=>?_) (fun hb h=>?_)
   ·exact qN
   refine yEW ?_;refine zAf rfl h (fun hb h=>?_) (fun hb h=>?_)
   ·exact qN
   refine yEV ?_;exact jC
  refine zAj hle<|zAf rfl h (fun hb h=>?_) (fun hb h=>?_)
  ·exact gU
  refine yEW ?_;exact jK
 subst hz;obtain _:=z;replace h:=ho1;refine zAj hle<|zAa<|yEW ?_;refine zAf rfl h (fun hb h=>?_) (fun hb h=>?_)
 ·exact jM
 refine zAe<|yEW ?_;refine yCZ [] [32] rfl ?_;intro r5 hr5;obtain rfl:Nd.encs [Nd.mk e2A c1As e2D e2B]=r5:=(hr5.trans yD9).symm;obtain⟨y6,hy6,h⟩:=zAc h;refine⟨_,⟨_,_,_,_,_,hy6,rfl,rfl⟩,?_⟩;exact jA
def zI7 (xs:List AV) (r:Ret):Prop:=∃ a0 y0,zBT a0=some y0/\xs=[.agg ((zAE a0).map .s)]/\r = .val (nI y0)
def zFH:zAq:=zAr fun xs r=>zI7 xs r
def zIA:PSound prog 181 zFH:=by
 have gok:=@gok0 prog;refine psq tokW call181 func181 rfl ?_;rintro xs r w0 G0 ⟨⟨⟨c1Ap,c1Au,c1Aj,c1Aq,c1Am,c1An,c1At,c1As⟩,c1Ai⟩,y0,h,rfl,rfl⟩ _;rw[zBT]at h;refine yEW ?_;refine yEW ?_;refine zAa<|yEW ?_;show Tri ..;obtain⟨need2,hj,h⟩:=zAc h;refine pL [(1,.s (Zh c1Ap c1Au c1Aj c1Aq c1Am c1An c1At c1As c1Ai)),(3,nI need2)] ?_ (fun V' hle=>?_)
 ·replace h:=hj;refine zAk<|yEW ?_;refine zAf rfl h (fun hb h=>?_) (fun hb h=>?_)
  ·exact kH
  refine yEW ?_;refine zAf rfl h (fun hb h=>?_) (fun hb h=>?_)
  ·refine zAb [] [14] rfl ?_;refine len1 Nd.encs_eq c1Am ?_;exact jD
  refine yEW ?_;refine zAf rfl h (fun hb h=>?_) (fun hb h=>?_)
  ·exact kH
  exact gB
 refine zAj hle<|zAa<|zAa ?_;obtain⟨x4,hj,h⟩:=zAc h;refine pL [(43,nB x4)] ?_ (fun V' hle=>?_)
 ·replace h:=hj;refine zAb [] [24,30,33,37] rfl ?_;refine nbS h (fun hb h=>?_) (fun hb h=>?_)
  ·exact jJ
  refine len1 Nd.encs_eq c1Ai ?_;refine nbS h (fun hb h=>?_) (fun hb h=>?_)
  ·exact jD
  refine len1 Nd.encs_eq c1Ai ?_;exact jD
 refine zAj hle<|zAf rfl h (fun hb h=>?_) (fun hb h=>?_)
 ·exact gI
 refine zAe<|yEW ?_;exact jN
def zMx:Prop:=∃ a0 a1 y0,zC9 n a0 a1=some y0/\xs=(Zn a0 a1)/\r = .val (nB y0)
def zHM:zAq:=pG zMx
def zLq:PSound prog 179 zHM:=by
 have gok:=gk1 zGL<|gk1 zHH<|gk0;refine psq tokW call179 func179 rfl ?_;rintro xs r w0 G0 ⟨n,l1,slot2,y0,h,rfl,rfl⟩ _;rw[zC9]at h;refine yEW ?_;refine zAa<|zAa ?_;obtain⟨x3,hj,h⟩:=zAc h;refine pL [(0,.s (.sl 4 (Nd.encs l1))),(1,nI slot2),(24,nB x3)] ?_ (fun V' hle=>?_)
 ·replace h:=hj;refine zAb [] [6,8,13,17,20] rfl ?_;refine len1 Nd.encs_eq l1 ?_;refine nbS h (fun hb h=>?_) (fun hb h=>?_)
  ·exact jT
  obtain⟨y5,hy5,h⟩:=zAc h;refine⟨_,⟨_,_,_,hy5,rfl,rfl⟩,?_⟩;refine nbS h (fun hb h=>?_) (fun hb h=>?_)
  ·exact jJ
  refine nbS h (fun hb h=>?_) (fun hb h=>?_)
  ·exact jD
  obtain⟨⟨e6A,e6C,e6D,e6B⟩,he6,h⟩:=zAc h;refine at1 (nN e6A e6C e6D e6B) Nd.encs_eq he6 ?_;obtain⟨y8,hy8,h⟩:=zAc h;refine⟨_,⟨_,_,hy8,rfl,rfl⟩,?_⟩;exact jD
 refine zAj hle<|zAf rfl h (fun hb h=>?_) (fun hb h=>?_)
 ·exact gI
 refine zAe<|yCZ [] [26,30,33] rfl ?_;obtain⟨⟨e9A,e9C,e9D,e9B⟩,he9,h⟩:=zAc h;refine at1 (nN e9A e9C e9D e9B) Nd.encs_eq he9 ?_;obtain⟨⟨e11A,e11C,e11D,e11B⟩,he11,h⟩:=zAc h;refine at1 (nN e11A e11C e11D e11B) Nd.encs_eq he11 ?_;refine len1 Nd.encs_eq e11B ?_;exact jN
def zAm (p:zO8):List S:=[.int .i64 p.1,.sl 1 (iL p.2.1),.int .i64 p.2.2.1,.int .i64 p.2.2.2.1,.sl 4 (Nd.encs p.2.2.2.2.1),.int .i64 p.2.2.2.2.2.1,.str p.2.2.2.2.2.2.1,.str p.2.2.2.2.2.2.2]
def zQg:Prop:=∃ a0 y0,zEG n a0=some y0/\xs=[.agg ((zAm a0).map .s)]/\r = .val (nB y0)
def zKc:zAq:=pG zQg
def jX {P:Prop} (h:P:=by refine zAj hle<|zAd ?_;cases h;replace h:some _=some _:=ho1;exact jB):P:=h
abbrev Za a b c d e f g h:=([.int .i64 a,.sl 1 (iL b),.int .i64 c,.int .i64 d,.sl 4 (Nd.encs e),.int .i64 f,.str g,.str h]:List S)
def zOT:PSound prog 132 zKc:=by
 have gok:=gk1 zGL<|gk1 zLq<|gk0;refine psq tokW call132 func132 rfl ?_;rintro xs r w0 G0 ⟨n,⟨a1A,a1E,a1F,a1V,a1H,a1W,a1Ac,a1C⟩,y0,h,rfl,rfl⟩ _;rw[zEG]at h;refine yEW ?_;refine zAa ?_;obtain⟨x2,hj,h⟩:=zAc h;refine pL [(1,.s (.pt (Za a1A a1E a1F a1V a1H a1W a1Ac a1C))),(3,nB x2)] ?_ (fun V' hle=>?_)
 ·replace h:=hj;refine zAb [] [7] rfl ?_;refine nbS h (fun hb h=>?_) (fun hb h=>?_)
  ·exact jD
  exact jD
 refine zAj hle<|zAa<|yEW ?_;show Tri ..;obtain⟨fl,hj,ho1⟩:=zAc h;refine zBN (fl:=fl) (fun z=>match z with | _=>⟨ofL [],fun _=>none,0⟩) ?_ (fun z V' hz hle=>?_)
 ·replace h:=hj;refine zAk<|zAa<|yEW ?_;show Tri ..;obtain⟨x3,hj,h⟩:=zAc h;refine pL [(1,.s (.pt (Za a1A a1E a1F a1V a1H a1W a1Ac a1C))),(3,nB x2),(13,nI a1A),(14,nB x3)] ?_ (fun V' hle=>?_)
  ·replace h:=hj;refine zAf rfl h (fun hb h=>?_) (fun hb h=>?_)
   ·exact gB
   exact kH
  refine zAj hle<|zAf rfl h (fun hb h=>?_) (fun hb h=>?_)
  ·refine zAa ?_;obtain⟨x4,hj,h⟩:=zAc h;refine pL [(2,nB x4)] ?_ (fun V' hle=>?_)
   ·replace h:=hj;refine zAb [] [20,25,29,32,35] rfl ?_;refine nbS h (fun hb h=>?_) (fun hb h=>?_)
    ·refine nbS h (fun hb h=>?_) (fun hb h=>?_)
     ·refine nbS h (fun hb h=>?_) (fun hb h=>?_)
      ·refine len1 Nd.encs_eq a1H ?_;refine nbS h (fun hb h=>?_) (fun hb h=>?_)
       ·obtain⟨y6,hy6,h⟩:=zAc h;refine⟨_,⟨_,_,_,hy6,rfl,rfl⟩,?_⟩;exact jD
       exact jD
      exact jJ
     exact jT
    intro b hb;subst hb;exact jT
   exact jX
  refine zAa<|yEW ?_;show Tri ..;obtain⟨x7,hj,h⟩:=zAc h;refine pL [(1,.s (.pt (Za a1A a1E a1F a1V a1H a1W a1Ac a1C))),(3,nB x2),(13,nI a1A),(40,nB x7)] ?_ (fun V' hle=>?_)
  ·replace h:=hj;refine zAf rfl h (fun hb h=>?_) (fun hb h=>?_)
   ·exact gB
   exact kH
  refine zAj hle<|zAf rfl h (fun hb h=>?_) (fun hb h=>?_)
  ·refine zAa ?_;obtain⟨x8,hj,h⟩:=zAc h;refine pL [(2,nB x8)] ?_ (fun V' hle=>?_)
   ·replace h:=hj;refine zAb [] [46,50] rfl ?_;refine nbS h (fun hb h=>?_) (fun hb h=>?_)
    ·refine nbS h (fun hb h=>?_) (fun hb h=>?_)
     ·obtain⟨y9,hy9,h⟩:=zAc h;refine⟨_,⟨_,_,_,_,hy9,rfl,rfl⟩,?_⟩;exact jD
     exact jD
    exact jJ
   exact jX
  refine yEW ?_;refine zAf rfl h (fun hb h=>?_) (fun hb h=>?_)
  ·refine zAa ?_;obtain⟨x10,hj,h⟩:=zAc h;refine pL [(2,nB x10)] ?_ (fun V' hle=>?_)
   ·replace h:=hj;refine zAb [] [62,67,70,73] rfl ?_;refine nbS h (fun hb h=>?_) (fun hb h=>?_)
    ·refine nbS h (fun hb h=>?_) (fun hb h=>?_)
     ·refine len1 Nd.encs_eq a1H ?_;refine nbS h (fun hb h=>?_) (fun hb h=>?_)
      ·exact jD
      exact jD
     exact jJ
    exact jT
   exact jX
  exact kW
 exact jG
def zTQ (xs:List AV) (r:Ret):Prop:=∃ a0 y0,zDt a0=some y0/\xs=[.s (.sl 1 (iL a0))]/\r = .val (.s (.sl 1 (iL y0)))
def zJK:zAq:=zAr fun xs r=>zTQ xs r
def zMg:PSound prog 75 zJK:=by
 have gok:=gk1 zJh<|gk0;refine psq tokW call75 func75 rfl ?_;rintro xs r w0 G0 ⟨l1,y0,h,rfl,rfl⟩ _;rw[zDt]at h;refine yEW ?_;refine yEW ?_;obtain⟨y2,hy2,h⟩:=zAc h;refine⟨_,⟨_,_,hy2,rfl,rfl⟩,?_⟩;exact jN
def zRH:Prop:=∃ a0 y0,zFq n a0=some y0/\xs=[.s (.sl 4 (Nd.encs a0))]/\r = .row 24 4 (Nd.encs y0)
def zLP:zAq:=pG zRH
def yCH {α:Type}{a b:α} (h:a=b:=by simp[bn,map_take,map_drop,irow,brow,zGH,ba,map_nil,zGe,Nd.encs_eq,Nd.enc,zBv,zAW,zB3,zAQ,zAE,zAm]):a=b :=
 h
def zQV:PSound prog 113 zLP:=by
 have gok:=gk1 zEw<|gk0;refine psq tokW call113 func113 rfl ?_;rintro xs r w0 G0 ⟨n,l1,y0,h,rfl,rfl⟩ _;rw[zFq]at h;refine yCZ [2] [] rfl ?_;refine zAj (Le.rnq [] [(0,.s (.sl 4 (Nd.encs l1)))] [] 0)<|yCZ [3] [] rfl ?_;show Tri ..;refine zAj (Le.rnq [(0,0)] [(0,.s (.sl 4 (Nd.encs l1))),(3,.orow 0)] [(0,.row 24 4 (Nd.encs []))] 1 (h2:=⟨rfl,⟨_,rfl,congrArg (Ob.row 24 4) yCH⟩,trivial⟩))<|zAa<|yCZ [] [6] rfl ?_;refine len1 Nd.encs_eq l1 ?_;show Tri ..;obtain⟨l6,hl,h⟩:=zAc h;refine zAl ⟨ofL [(3,.orow 0)],ofH [(0,.row 24 4 (Nd.encs l6))],1⟩ ?_ (fun V' hle=>?_)
 ·refine zAk (zAv (X:=Nat×Int×(List Nd)) (fun y=>match y with | (k,x4,l5)=>⟨ofL [(0,.s (.sl 4 (Nd.encs l1))),(3,.orow 0),(6,nI (l1.length:Int)),(7,nI x4)],ofH [(0,.row 24 4 (Nd.encs l5))],1⟩) (fun y=>zBq l1 y.1 y.2.1 y.2.2=some l6) (fun y=>y.1) (n,0,[]) hl ?_ ?_)
  ·exact qD
  rintro⟨k,x4,l5⟩ h;cases k with
  | zero=>cases h
  | succ k=>
  replace h:zBq l1 (k+1) x4 l5=some l6:=h;rw[zBq]at h;refine yEW ?_;refine zAa<|zAf rfl h (fun hb h=>?_) (fun hb h=>?_)
  ·refine zAe<|zAa<|zAk<|yEW ?_;refine zAb [17] [13,16] rfl ?_;obtain⟨⟨e7A,e7C,e7D,e7B⟩,he7,h⟩:=zAc h;refine at1 (nN e7A e7C e7D e7B) Nd.encs_eq he7 ?_;obtain⟨⟨y9A,y9C,y9D,y9B⟩,hy9,h⟩:=zAc h;refine⟨_,⟨_,_,hy9,rfl,rfl⟩,?_⟩;intro r10 hr10;obtain rfl:Nd.encs [Nd.mk y9A y9C y9D y9B]=r10:=(hr10.trans yCH).symm;obtain⟨hq,h⟩:=zAs h;refine And.intro (lapE hq (rlen Nd.encs_eq _) (rlen Nd.encs_eq _)) ?_;show Tri ..;refine zAj (Le.rnq [(1,0)] [(0,.s (.sl 4 (Nd.encs l1))),(3,.orow 0),(6,nI (l1.length:Int)),(7,nI x4)] [(0,.row 24 4 (Nd.encs (l5++[Nd.mk y9A y9C y9D y9B])))] 1 (h2:=⟨rfl,⟨_,rfl,congrArg (Ob.row 24 4) yCH⟩,trivial⟩))<|yEV ?_;refine⟨(k,i64.wrap (x4+1),l5++[Nd.mk y9A y9C y9D y9B]),h,(Le.rnq [(0,0)] _ _ _),ax k⟩
  refine zAy ?_;exact jC
 exact qE
def zXr:Prop:=∃ a0 y0,zFr n a0=some y0/\xs=[.agg ((zAm a0).map .s)]/\r = .val (.agg ((zAm y0).map .s))
def zNb:zAq:=pG zXr
def zPR:PSound prog 67 zNb:=by
 have gok:=gk1 zMg<|gk1 zQV<|gk0;refine psq tokW call67 func67 rfl ?_;rintro xs r w0 G0 ⟨n,⟨op1A,op1E,op1F,op1V,op1H,op1W,op1Ac,op1C⟩,y0,h,rfl,rfl⟩ _;rw[zFr]at h;refine yCZ [1,2] [] rfl ?_;refine yEW ?_;obtain⟨y2,hy2,h⟩:=zAc h;refine⟨_,⟨_,_,hy2,rfl,rfl⟩,?_⟩;refine yEW ?_;obtain⟨y3,hy3,h⟩:=zAc h;refine⟨_,⟨_,_,_,hy3,rfl,rfl⟩,?_⟩;exact gI
variable {A B:List AV->Ret->Prop}{P:Program}
theorem zYG {f:Nat} (hA:PSound P f (zAr A)) (hB:PSound P f (zAr B)):PSound P f (zAr fun xs r=>A xs r∨B xs r) :=
 ⟨hA.1,fun G w xs vs r hl hg hp hv hs=>hs.elim (hA.2.1 G w xs vs r hl hg hp hv) (hB.2.1 G w xs vs r hl hg hp hv),fun R hR=>(by cases hR),fun R hR=>(by cases hR)⟩
theorem zUN {f:Nat} (hA:PSound P f (zAr A)) (h:∀ xs r,B xs r->A xs r):PSound P f (zAr B) :=
 ⟨hA.1,fun G w xs vs r hl hg hp hv hs=>hA.2.1 G w xs vs r hl hg hp hv (h xs r hs),fun R hR=>(by cases hR),fun R hR=>(by cases hR)⟩
def zJa (n:Nat) (xs:List AV) (r:Ret):Prop:=∃ (a0:(zO8×List Nd)) (y0:List Nd) (y1:Int),zA9 n a0=some (y0,y1)/\xs=[.agg ((zAE a0).map .s)]/\r = .val (.tup (Zn y0 y1))
def zFK:zAq:=pG zJa
def zID:PSound prog 185 zFK :=
 zUN (zYG zGz zGy) fun xs r ⟨n,a,y,z,hm,hx,hr⟩=>by
  unfold zA9 at hm;split at hm
  ·rename_i q hq;obtain rfl:=Option.some.inj hm;exact .inl ⟨a,y,z,hq,hx,hr⟩
  ·exact .inr ⟨n,a,y,z,hm,hx,hr⟩
variable (n:Nat) (xs:List AV) (r:Ret)
def zJF:Prop:=∃ a0 y0 y1,zB8 n a0=some (y0,y1)/\xs=[.agg ((zAE a0).map .s)]/\r = .val (.tup (Zn y0 y1))
def zF8:zAq:=pG zJF
def zJf:PSound prog 134 zF8:=by
 have gok:=gk1 zIA<|gk1 zIB<|gk1 zIC<|gk1 zJY<|gk1 zID<|gk1 zKS<|gk0;refine psq tokW call134 func134 rfl ?_;rintro xs r w0 G0 ⟨n,⟨⟨c1Ap,c1Au,c1Aj,c1Aq,c1Am,c1An,c1At,c1As⟩,c1Ai⟩,y0,y1,h,rfl,rfl⟩ _;rw[zB8]at h;refine yEW ?_;refine zAa<|yEW ?_;obtain⟨y2,hy2,h⟩:=zAc h;refine⟨_,⟨_,_,hy2,rfl,rfl⟩,?_⟩;refine yEW ?_;refine zAf rfl h (fun hb h=>?_) (fun hb h=>?_)
 ·exact jM
 refine zAe<|zAa<|yEW ?_;refine zAk<|yEW ?_;refine zAf rfl h (fun hb h=>?_) (fun hb h=>?_)
 ·refine yEW ?_;obtain⟨⟨y3,y4⟩,hy3,h⟩:=zAc h;refine⟨_,⟨_,_,_,_,hy3,rfl,rfl⟩,?_⟩;exact jA
 refine yEW ?_;refine zAf rfl h (fun hb h=>?_) (fun hb h=>?_)
 ·refine yEW ?_;obtain⟨⟨y5,y6⟩,hy5,h⟩:=zAc h;refine⟨_,⟨_,_,_,_,hy5,rfl,rfl⟩,?_⟩;exact jA
 refine yEW ?_;refine zAf rfl h (fun hb h=>?_) (fun hb h=>?_)
 ·refine yEW ?_;obtain⟨⟨y7,y8⟩,hy7,h⟩:=zAc h;refine⟨_,⟨_,_,_,_,hy7,rfl,rfl⟩,?_⟩;exact jA
 refine yEW ?_;refine zAf rfl h (fun hb h=>?_) (fun hb h=>?_)
 ·refine yEW ?_;obtain⟨⟨y9,y10⟩,hy9,h⟩:=zAc h;refine⟨_,⟨_,_,_,_,hy9,rfl,rfl⟩,?_⟩;exact jA
 refine zAe<|yEW ?_;obtain⟨⟨y11,y12⟩,hy11,h⟩:=zAc h;refine⟨_,⟨_,_,_,_,hy11,rfl,rfl⟩,?_⟩;exact jA
def zRI:Prop:=∃ a0 a1 y0 y1,zEr n a0 a1=some (y0,y1)/\xs=[.agg ((Nd.enc a0).map .s),.agg ((zAm a1).map .s)]/\r = .val (.tup (Zo y0 y1))
def zLQ:zAq:=pG zRI
def zQW:PSound prog 74 zLQ:=by
 have gok:=gk1 zC5<|gk1 zOT<|gk1 zUA<|gk1 zJf<|gk1 zS9<|gk0;refine psq tokW call74 func74 rfl ?_;rintro xs r w0 G0 ⟨n,⟨n1A,n1C,n1D,n1B⟩,⟨op2A,op2E,op2F,op2V,op2H,op2W,op2Ac,op2C⟩,y0,y1,h,rfl,rfl⟩ _;rw[zEr]at h;refine yCZ [4] [] rfl ?_;refine zAa<|yEW ?_;obtain⟨y3,hy3,h⟩:=zAc h;refine⟨_,⟨_,_,_,hy3,rfl,rfl⟩,?_⟩;refine zAf rfl h (fun hb h=>?_) (fun hb h=>?_)
 ·exact jM
 refine zAe<|zAa<|yEW ?_;obtain⟨y4,hy4,h⟩:=zAc h;refine⟨_,⟨_,_,_,hy4,rfl,rfl⟩,?_⟩;refine zAf rfl h (fun hb h=>?_) (fun hb h=>?_)
 ·exact jM
 refine zAe<|yCZ [6] [] rfl ?_;obtain⟨⟨⟨y5A,y5C,y5D,y5B⟩,y6⟩,hy5,h⟩:=zAc h;refine⟨_,⟨_,_,_,_,_,hy5,rfl,rfl⟩,?_⟩;refine zAa<|yEW ?_;refine zAf rfl h (fun hb h=>?_) (fun hb h=>?_)
 ·exact jM
 refine zAe<|yEW ?_;obtain⟨⟨y7,y8⟩,hy7,h⟩:=zAc h;refine⟨_,⟨_,_,_,_,hy7,rfl,rfl⟩,?_⟩;refine zAa<|yEW ?_;refine zAf rfl h (fun hb h=>?_) (fun hb h=>?_)
 ·exact jM
 refine zAe<|yCZ [8] [] rfl ?_;obtain⟨⟨⟨y9A,y9C,y9D,y9B⟩,y10⟩,hy9,h⟩:=zAc h;refine⟨_,⟨_,_,_,_,_,_,hy9,rfl,rfl⟩,?_⟩;refine zAj (Le.giveBox 2 (nN y9A y9C y9D y9B) rfl rfl)<|zAa<|yEW ?_;refine zAf rfl h (fun hb h=>?_) (fun hb h=>?_)
 ·exact jM
 refine zAe<|yEW ?_;exact jA
def zM6:Prop:=∃ a0 a1 y0 y1 y2,zA4 n a0 a1=some (y0,y1,y2)/\xs=[.agg ((Nd.enc a0).map .s),.s (.sl 8 ((List.map zAm) a1))]/\r = .val (.tup [.agg ((Nd.enc y0).map .s),nI y1,nI y2])
def zEB:zAq:=pG zM6
def gJ {P:Prop} (h:P:=by refine zAy ?_;cases h;exact⟨_,rfl,(Le.rnq [(0,0),(1,1)] _ _ _)⟩):P:=h
def kY {P:Prop} (h:P:=by exact(Le.rnq [(0,0),(1,1)] _ _ _)):P:=h
def zFF:PSound prog 43 zEB:=by
 have gok:=gk1 zC5<|gk1 zEw<|gk1 zQW<|gk0;refine psq tokW call43 func43 rfl ?_;rintro xs r w0 G0 ⟨n,⟨n1A,n1C,n1D,n1B⟩,ops2,y0,y1,y2,h,rfl,rfl⟩ _;rw[zA4]at h;refine yCZ [4] [] rfl ?_;refine zAa<|yEW ?_;obtain⟨y3,hy3,h⟩:=zAc h;refine⟨_,⟨_,_,_,hy3,rfl,rfl⟩,?_⟩;refine zAf rfl h (fun hb h=>?_) (fun hb h=>?_)
 ·refine yEW ?_;refine zAd ?_;exact jI
 refine zAe<|yCZ [7] [] rfl ?_;obtain⟨⟨y4A,y4C,y4D,y4B⟩,hy4,h⟩:=zAc h;refine⟨_,⟨_,_,hy4,rfl,rfl⟩,?_⟩;refine zAa<|yCZ [] [19] rfl ?_;refine len1 (fun _=>rfl) ops2 ?_;show Tri ..;obtain⟨fl,hl,ho1⟩:=zAc h;refine zBN (fl:=fl) (fun z=>match z with | ⟨x12,x13,x14,x15⟩=>⟨ofL [(4,.op 0 0),(7,.op 1 0)],ofH [(0,.box 24 [nI 0,.s (.str []),nI 0,.nl 4]),(1,.box 24 (Zr x12 x13 x14 x15))],2⟩) ?_ (fun z V' hz hle=>?_)
 ·refine zAk (zAv (X:=Nat×Int×(List UInt8)×Int×(List Nd)×Int) (fun y=>match y with | (k,x7,x8,x9,x10,x11)=>⟨ofL [(4,.op 0 0),(7,.op 1 0),(18,.s (.sl 8 ((List.map zAm) ops2))),(19,nI (ops2.length:Int)),(20,nI x11)],ofH [(0,.box 24 [nI 0,.s (.str []),nI 0,.nl 4]),(1,.box 24 (Zr x7 x8 x9 x10))],2⟩) (fun y=>zA0 n ops2 y.1 y.2.1 y.2.2.1 y.2.2.2.1 y.2.2.2.2.1 y.2.2.2.2.2=some fl) (fun y=>y.1) (n,y4A,y4C,y4D,y4B,0) hl ?_ ?_)
  ·exact kY
  rintro⟨k,x7,x8,x9,x10,x11⟩ h;cases k with
  | zero=>cases h
  | succ k=>
  replace h:zA0 n ops2 (k+1) x7 x8 x9 x10 x11=some fl:=h;rw[zA0]at h;refine yEW ?_;refine zAa<|zAf rfl h (fun hb h=>?_) (fun hb h=>?_)
  ·refine zAe<|zAa<|zAk<|yCZ [9] [23] rfl ?_;obtain⟨⟨e16A,e16E,e16F,e16V,e16H,e16W,e16Ac,e16C⟩,he16,h⟩:=zAc h;refine at1 (Za e16A e16E e16F e16V e16H e16W e16Ac e16C) (fun _=>rfl) he16 ?_;refine zAj (Le.giveBox 2 (Za e16A e16E e16F e16V e16H e16W e16Ac e16C) rfl rfl)<|zAa ?_;refine zAb [10] [] rfl ?_;obtain⟨⟨⟨y18A,y18C,y18D,y18B⟩,y19⟩,hy18,h⟩:=zAc h;refine⟨_,⟨_,_,_,_,_,hy18,rfl,rfl⟩,?_⟩;refine zAj (Le.giveBox 3 (nN y18A y18C y18D y18B) rfl rfl)<|zAa<|yEW ?_;refine zAf rfl h (fun hb h=>?_) (fun hb h=>?_)
   ·refine yEW ?_;refine zAd ?_;cases h;replace h:some _=some _:=ho1;exact jI
   refine zAe<|yEV ?_;refine yEV ?_;refine⟨(k,y18A,y18C,y18D,y18B,i64.wrap (x11+1)),h,(Le.rnq [(0,0),(1,1)] _ _ _),ax k⟩
  exact gJ
 subst hz;obtain⟨x12,x13,x14,x15⟩:=z;replace h:=ho1;refine zAj hle<|yEW ?_;refine zAd ?_;exact jI
def zQh:Prop:=∃ a0 y0,zBW n a0=some y0/\xs=[.agg ((zAm a0).map .s)]/\r = .val (.agg ((zAm y0).map .s))
def zQt:zAq:=pG zQh
def jL {P:Prop} (h:P:=by cases h;exact(Le.rnq [(0,0),(1,1)] _ _ _)):P:=h
def zOU:PSound prog 37 zQt:=by
 have gok:=gk1 zPR<|gk0;refine psq tokW call37 func37 rfl ?_;rintro xs r w0 G0 ⟨n,⟨op1A,op1E,op1F,op1V,op1H,op1W,op1Ac,op1C⟩,y0,h,rfl,rfl⟩ _;rw[zBW]at h;refine yCZ [2] [] rfl ?_;refine yCZ [3] [] rfl ?_;obtain⟨⟨y2A,y2E,y2F,y2V,y2H,y2W,y2Ac,y2C⟩,hy2,h⟩:=zAc h;refine⟨_,⟨_,_,_,hy2,rfl,rfl⟩,?_⟩;refine zAa<|yEW ?_;show Tri ..;obtain⟨⟨x3,x4,x5⟩,hj,h⟩:=zAc h;refine zAl ⟨ofL [(2,.op 0 0),(3,.op 1 0)],ofH [(0,.box 76 [nI 0,.nl 1,nI 0,nI 0,.nl 4,nI 0,.s (.str []),.s (.str [])]),(1,.box 76 [nI x3,.s (.sl 1 (iL y2E)),nI y2F,nI y2V,.s (.sl 4 (Nd.encs y2H)),nI y2W,nS x4,nS x5])],2⟩ ?_ (fun V' hle=>?_)
 ·replace h:=hj;refine zAk<|yEW ?_;refine zAf rfl h (fun hb h=>?_) (fun hb h=>?_)
  ·refine yEV ?_;exact jL
  refine yEW ?_;refine zAf rfl h (fun hb h=>?_) (fun hb h=>?_)
  ·refine yEV ?_;exact jL
  refine yEW ?_;refine zAf rfl h (fun hb h=>?_) (fun hb h=>?_)
  ·refine yEV ?_;exact jL
  refine yEW ?_;refine zAf rfl h (fun hb h=>?_) (fun hb h=>?_)
  ·refine yEV ?_;exact jL
  refine yEW ?_;refine zAf rfl h (fun hb h=>?_) (fun hb h=>?_)
  ·refine zAw [] [] [5,7] rfl (by decide +kernel) ?_;exact jL
  refine zAe ?_;exact jL
 refine zAj hle<|yEW ?_;exact jN
end
section
abbrev Op8T:=Int×List Int×Int×Int×List Nd×Int×List UInt8×List UInt8
noncomputable def cV:CallF Tryz.prog:=zUe TW (fun _=>none) (fun _=>none) 100
def zWt:cV.Ok:=zKw tokW mixed (fun _ _ h=>by cases h) (fun _ _ h=>by cases h) 100
noncomputable def fiV:Fi:=⟨Tryz.f12,[3,5]⟩
noncomputable def fiB:Fi:=⟨Tryz.f36,[]⟩
noncomputable def fiW:Fi:=⟨Tryz.f66,[]⟩
noncomputable def dT:Code:=fiV.fn.body.getD .skip
noncomputable def dL:Code:=bkC (sq2 (sq1 (sq2 (sq2 dT))))
noncomputable def dW:Code:=fiW.fn.body.getD .skip
noncomputable def dX:Code:=zPI fiW 0
abbrev rsV (l:List Op8T):List (List S):=l.map zAm
abbrev slV (l:List Op8T):AV:=.s (.sl 8 (rsV l))
abbrev ptV (l:List Op8T):AV:=.s (.pt [.sl 8 (rsV l)])
def e36 (l:List Op8T):E 36 [slV l] [] (.clo 66 [ptV l]) []:=zY0 (fi:=fiB) tokW mixed (ext:=fun _=>none) (tab:=fun _=>none) (fun _ _ h=>by cases h) (fun _ _ h=>by cases h) ⟨Tryz.call36,Tryz.func36⟩ [] (by kernel_rfl)
def yEE:fiV.fn.body=some (.seq (sq1 dT) (.seq (sq1 (sq2 dT)) (.seq (.seq (sq1 (sq1 (sq2 (sq2 dT)))) (.block 0 (.rangeFunc (.tmp 7) #[8,9] (rfA dL) (rfB dL)))) (sq2 (sq2 (sq2 dT)))))):=by kernel_rfl
def dL0 (l:List Op8T):List (Nat×AV):=[(3,.op 0 0),(7,.clo 66 [ptV l])]
def dH (k:Nat) (rows:List (List S)):List (Nat×Ob):=[(0,.box 33 [.orow k]),(k,.row 76 8 rows)]
noncomputable def frV (l:List Op8T) (fs:List Fc):=zPC TW cV fiV.M fiV.fn.ntmps (sq1 dT) (sq1 (sq2 dT)) (sq1 (sq1 (sq2 (sq2 dT)))) [slV l] [3,7] fs
def zSL {q:Option ((List (Nat×AV)×List (Nat×Ob)×Nat)×Us×List Fc)}{L:List (Nat×AV)}{H:List (Nat×Ob)}{n:Nat} (h:(q.map fun q=>lftL ((End.normal,q.1),q.2))=some (rgtL .normal L H n (q.map fun q=>((End.normal,q.1),q.2)))):∃ us fs',q=some ((L,H,n),us,fs')/\Us.ok us:=by
 cases q with
 | none=>cases h
 | some q=>obtain⟨⟨L0,H0,n0⟩,us,f1⟩:=q;exact gZ
def yDA (l:List Op8T):∃ us fs',frV l [C (e36 l),.take 0 0 76]=some ((dL0 l,dH 1 [],2),us,fs')/\Us.ok us:=zSL (by kernel_rfl)
def wL (l:List Op8T) (i:Int):List (Nat×AV):=[(0,.mref 2),(1,ptV l),(3,nI i)]
noncomputable def itV (l:List Op8T) (rows:List (List S)) (k:Nat) (i:Int) (n:Nat) (fs:List Fc):=zQL TW cV fiW.M fiV.M fiW.fn.ntmps 3 2 fiV.fn.ntmps (rfA dL) (rfB dL) (ofL (dL0 l)) [8,9] dX (wL l i) (dH k rows) n [0,1,3] fs
section
variable {l:List Op8T} {rows:List (List S)} {i:Int} {a b:Op8T}
def yEt (h:decide (0<=i)=false):(itV l rows 1 i 3 [B 8 h]).map lftL=some (rgtL (.exit 0) [] (dH 1 rows) 3 (itV l rows 1 i 3 [B 8 h])):=by kernel_rfl
def yEu (h:decide (0<=i)=false):(itV l rows 3 i 4 [B 8 h]).map lftL=some (rgtL (.exit 0) [] (dH 3 rows) 4 (itV l rows 3 i 4 [B 8 h])):=by kernel_rfl
def vF (h1:decide (0<=i)=true) (h2:zFC i (rsV l).length=true) (h3:AV.s (.pt ((rsV l).getD i.toNat [])) = .s (.pt (zAm a))) (h4:E 37 [.agg ((zAm a).map .s)] [] (.agg ((zAm b).map .s)) []) (h5:zDE rows.length 1 112=true) (h6:nI (i64.wrap (i - 1))=nI (i - 1)):List Fc:=[B 8 h1,.ok 15 _ h2,.val 15 _ _ h3,C h4,.ok 14 _ h5,.val 10 _ _ h6]
def yEY (h1:decide (0<=i)=true) (h2:zFC i (rsV l).length=true) (h3:AV.s (.pt ((rsV l).getD i.toNat [])) = .s (.pt (zAm a))) (h4:E 37 [.agg ((zAm a).map .s)] [] (.agg ((zAm b).map .s)) []) (h5:zDE ([]:List (List S)).length 1 112=true) (h6:nI (i64.wrap (i - 1))=nI (i - 1)) :
  (itV l [] 1 i 3 (vF h1 h2 h3 h4 h5 h6)).map lftL=some (rgtL .normal (wL l (i - 1)) (dH 3 [zAm b]) 4 (itV l [] 1 i 3 (vF h1 h2 h3 h4 h5 h6))):=by kernel_rfl
def yEZ (h1:decide (0<=i)=true) (h2:zFC i (rsV l).length=true) (h3:AV.s (.pt ((rsV l).getD i.toNat [])) = .s (.pt (zAm a))) (h4:E 37 [.agg ((zAm a).map .s)] [] (.agg ((zAm b).map .s)) []) (h5:zDE rows.length 1 112=true) (h6:nI (i64.wrap (i - 1))=nI (i - 1)) :
  (itV l rows 3 i 4 (vF h1 h2 h3 h4 h5 h6)).map lftL=some (rgtL .normal (wL l (i - 1)) (dH 3 (rows++[zAm b])) 4 (itV l rows 3 i 4 (vF h1 h2 h3 h4 h5 h6))):=by kernel_rfl
end
def zGO {n:Nat}{ops:List Op8T}:∀ {N:Nat}{y0:List Op8T},zAI n ops N=some y0->∀ i,i<N ->
  ∃ acc o y,zAI n ops i=some acc/\ops[ops.length - 1 - i]? = some o/\zBW n o=some y/\acc.length+1<=4294967296/\zAI n ops (i+1)=some (acc++[y])
 | 0,_,_,i,hi=>by omega
 | N+1,y0,h,i,hi=>by
  have h':=h;unfold zAI at h;obtain⟨acc,h1,h⟩:=zAc h;obtain⟨o,h2,h⟩:=zAc h;obtain⟨y,h3,h⟩:=zAc h;obtain⟨h4,h5⟩:=zAs h;by_cases e:i=N
  ·subst e;exact⟨acc,o,y,h1,h2,h3,h4,h'.trans h5.symm⟩
  ·exact zGO h1 i (by omega)
abbrev ItV (l:List Op8T) (L:List (Nat×AV)) (H:List (Nat×Ob)) (n:Nat) (H1:List (Nat×Ob)) (n1:Nat):Prop:=zTO Tryz.prog fiV.fn.ntmps fiW.fn.ntmps 2 3 [8,9] (ofL (dL0 l)) (rfA dL) (rfB dL) dX L H n (.exit 0) H1 n1
variable {l:List Op8T}{n:Nat}
def yEm {d:Nat}{acc:List Op8T}{o y:Op8T} (hl:l.length<=4294967296) (ho:l[d]? = some o) (hy:zBW n o=some y) (ha:acc.length+1<=4294967296):decide (0<=(d:Int))=true/\zFC (d:Int) (rsV l).length=true/\AV.s (.pt ((rsV l).getD (d:Int).toNat [])) = .s (.pt (zAm o))/\E 37 [.agg ((zAm o).map .s)] [] (.agg ((zAm y).map .s)) []/\zDE (rsV acc).length 1 112=true/\nI (i64.wrap ((d:Int) - 1))=nI ((d:Int) - 1):=by
 have hd:=(aa.1 ho).1;refine⟨aP (by omega),?_,?_,PSound.evl zOU rfl ⟨n,o,y,hy,rfl,rfl⟩,?_,?_⟩
 ·simp only[zFC,af,ay,az]; omega
 ·rw[au,aL,ao,ho]; rfl
 ·simp only[zDE,af,az]; exact⟨Nat.ble_eq_true_of_le (by omega),Nat.ble_eq_true_of_le (by omega)⟩
 rw[wrap64_in (by omega) (by omega)]
def rndV {n:Nat}{l res:List Op8T} (hl:l.length<=4294967296) (hr:zAI n l l.length=some res):∀ (d j:Nat) (acc:List Op8T),j+d=l.length->zAI n l j=some acc->ItV l (wL l ((d:Int) - 1)) (dH 3 (rsV acc)) 4 (dH 3 (rsV res)) 4
 | 0,j,acc,hj,ha=>by
  obtain rfl:j=l.length :=(by omega);rw[ha]at hr;cases hr;exact zKK tokW mixed zWt (yEu (by decide)) (fun h=>by cases h)
 | d+1,j,acc,hj,ha=>by
  obtain⟨acc',o,y,h1,h2,h3,h4,h5⟩:=zGO hr j (by omega);rw[ha]at h1;cases h1;rw[show l.length - 1 - j=d by omega]at h2;obtain⟨g1,g2,g3,g4,g5,g6⟩:=yEm hl h2 h3 h4;have ih:=rndV hl hr d (j+1) _ (by omega) h5;rw[show rsV (acc++[y])=rsV acc++[zAm y] from bn]at ih;rw[show((d+1:Nat):Int) - 1=(d:Int) by omega];exact zMU tokW mixed zWt (yEZ g1 g2 g3 g4 g5 g6) ih
variable {res:List Op8T}
def allV  (hl:l.length<=4294967296) (hr:zAI n l l.length=some res):ItV l (wL l ((l.length:Int) - 1)) (dH 1 []) 3 (bif l.isEmpty then dH 1 [] else dH 3 (rsV res)) (bif l.isEmpty then 3 else 4):=by
 cases l with
 | nil=>exact zKK tokW mixed zWt (yEt (by decide)) (fun h=>by cases h)
 | cons a l=>
 obtain⟨acc,o,y,h1,h2,h3,h4,h5⟩:=zGO hr 0 (Nat.succ_pos _);cases h1;rw[show(a::l).length - 1 - 0=l.length by simp]at h2;obtain⟨g1,g2,g3,g4,g5,g6⟩:=yEm hl h2 h3 h4;rw[show((a::l).length:Int) - 1=(l.length:Int) by simp];exact zMU tokW mixed zWt (yEY g1 g2 g3 g4 g5 g6) (rndV hl hr l.length 1 _ (by simp; omega) h5)
noncomputable def bkV (l:List Op8T) (H:List (Nat×Ob)) (n:Nat):=zWq TW cV fiV.M fiV.fn.ntmps fiV.fn.results.toList (sq2 (sq2 (sq2 dT))) (dL0 l) H n []
def bV1 (l:List Op8T):((bkV l (dH 1 []) 3).map fun q=>(U.a q.1::q.2.1.map (·.1),q.2.2.isEmpty))=some (U.a (.s (.sl 8 []))::(match bkV l (dH 1 []) 3 with | some q=>q.2.1.map (·.2) | none=>[]),true):=by kernel_rfl
def bV3 (l:List Op8T) (rows:List (List S)):((bkV l (dH 3 rows) 4).map fun q=>(U.a q.1::q.2.1.map (·.1),q.2.2.isEmpty))=some (U.a (.s (.sl 8 rows))::(match bkV l (dH 3 rows) 4 with | some q=>q.2.1.map (·.2) | none=>[]),true):=by kernel_rfl
noncomputable def beV (l:List Op8T) (fs:List Fc):=zUm TW cV fiW.M fiW.fn.ntmps 3 (sq1 dW) ⟨fun t=>(AV.mref 2::[ptV l]).getD t .junk,ofH (dH 1 []),3⟩ [0,1,3] fs
def yDi (l:List Op8T) (h:nI (i64.wrap ((l.length:Int) - 1))=nI ((l.length:Int) - 1)):∃ us fs',beV l [.val 5 (nI ((rsV l).length:Int)) (nI (l.length:Int)) (by rw[az]),.val 6 _ _ h]=some ((wL l ((l.length:Int) - 1),dH 1 [],3),us,fs')/\Us.ok us:=zSL (by kernel_rfl)
def zTN  (h:zCh n l=some res):E 12 [slV l] [] (slV res) []:=by
 obtain⟨hl,hr⟩:=zAs h;obtain⟨us,fs',h1,h2⟩:=yDA l;obtain⟨us3,fs3,h5,h6⟩:=yDi l (by rw[wrap64_in (by omega) (by omega)]);have hb:∃ us fs,bkV l (bif l.isEmpty then dH 1 [] else dH 3 (rsV res)) (bif l.isEmpty then 3 else 4)=some (slV res,us,fs)/\Us.ok us:=by
  cases l with
  | nil=>cases hr; exact zMQ (bV1 [])
  | cons a l=>exact zMQ (bV3 _ _)
 obtain⟨us2,fs2,h3,h4⟩:=hb;exact zPY tokW mixed zWt (fi:=fiV) ⟨Tryz.call12,Tryz.func12⟩ rfl (aj (by kernel_rfl)) yEE h1 h2 ⟨rfl,rfl,trivial⟩ (fid:=66) (caps:=[ptV l]) rfl (gi:=fiW) ⟨Tryz.call66,Tryz.func66⟩ (icode:=.seq (sq1 dW) (.block 0 (.loop dX))) (by kernel_rfl) (by kernel_rfl) (aj (by kernel_rfl)) (p:=[8,9]) (fun q hq=>by have h0:9<fiV.fn.ntmps:=aj (by kernel_rfl); simp at hq; omega) (by kernel_rfl)
  (yAc tokW mixed zWt h5 h6 rfl (allV hl hr)) h3 h4
def zMw (n:Nat) (xs:List AV) (r:Ret):Prop:=∃ (a0:List Op8T) (y0:List Op8T),zCh n a0=some y0/\xs=[.s (.sl 8 ((List.map zAm) a0))]/\r = .val (.s (.sl 8 ((List.map zAm) y0)))
def zHL:zAq:=zAr fun xs r=>∃ n,zMw n xs r
def zLp:PSound Tryz.prog 12 zHL:=zKD Tryz.call12 fun xs r ⟨n,a,y,h,h1,h2⟩=>⟨_,h2,rfl,by rw[h1]; exact zTN h⟩
end
noncomputable def auX (g:Nat):Option Fi:=bif inL g [16,17,22,27,40] then none else xFn g
def yDh:∀ g fi,auX g=some fi->zK9 Tryz.prog g fi:=fun g fi h=>by
 unfold auX at h;cases e:inL g [16,17,22,27,40] with
 | true=>rw[e]at h; cases h
 | false=>rw[e]at h; exact zQc g fi h
noncomputable def runX (g:Nat) (xs:List AV) (os:List Ob) (fs:List Fc):=match xFn g with | some fi=>runE TW e0 auX fi xs os fs | none=>none
def evX {g:Nat}{xs:List AV}{os:List Ob}{x:AV}{os':List (Option Ob)} (fs:List Fc) (h:(runX g xs os fs).map lftE=some (rgtE x os' (runX g xs os fs))):E g xs os x os':=by
 unfold runX at h;cases e:xFn g with
 | none=>rw[e]at h; cases h
 | some fi=>rw[e]at h; exact zY0 tokW mixed zZ3 yDh (zQc g fi e) fs h
def exN (n:UInt8):Nd:=.mk 1 [] 0 [.mk 3 [n] 0 []]
def exT:List Nd:=[.mk 5 [] 0 [exN 49,exN 50]]
def exM:List UInt8:=[60,109,97,116,104,62,60,109,102,114,97,99,62,60,109,114,111,119,62,60,109,110,62,49,60,47,109,110,62,60,47,109,114,111,119,62,60,109,114,111,119,62,60,109,110,62,50,60,47,109,110,62,60,47,109,114,111,119,62,60,47,109,102,114,97,99,62,60,47,109,97,116,104,62]
def zVn:zAu (.mk 1 [] 0 exT)=true:=by decide +kernel
def ex_w:(Nd.mk 1 [] 0 exT).w<=67108864:=by decide +kernel
def yCk:zMO exT=[92,102,114,97,99,49,32,50]:=by decide +kernel
def ex_E:E 22 [rowV exT] [] (.tup [nS exM,nI 0]) []:=evX [C (zZB zVn ex_w),C (zU4 (l:=exM) (by decide) (by decide))] (by kernel_rfl)
def yB3:E 5 [] [] (nB true) []:=by
 have h:=(zXK zVn ex_w).2;rw[yCk]at h;exact evX [C h,C ex_E] (by kernel_rfl)
def zDv (t:Nd):Option (List UInt8×Int):=if zAu t&&decide (t.w<=67108864) then some (zMO t.its,0) else none
def zDa (t:Nd) (s:List UInt8):Option (Nd×Int×Int):=if (zAu t&&decide (t.w<=67108864))&&s == zMO t.its then some (t,0,0) else none
def zM7 (xs:List AV) (r:Ret):Prop:=∃ (a0:Nd) (y0:List UInt8) (y1:Int),zDv a0=some (y0,y1)/\xs=[.agg ((Nd.enc a0).map .s)]/\r = .val (.tup [.s (.str y0),.s (.int .i64 y1)])
def zH2:zAq:=zAr zM7
def zMH:PSound Tryz.prog 16 zH2:=zKD Tryz.call16 fun xs r ⟨t,y0,y1,h,h1,h2⟩=>by
 subst h1 h2;unfold zDv at h;split at h
 ·rename_i hv;simp only[af,ay]at hv;obtain⟨vs,rfl,_⟩:=zRA hv.1;cases h;exact⟨_,rfl,rfl,(zXK hv.1 hv.2).1⟩
 ·cases h
def zMy (xs:List AV) (r:Ret):Prop:=∃ (a0:Nd) (a1:List UInt8) (y0:Nd) (y1 y2:Int),zDa a0 a1=some (y0,y1,y2)/\xs=[.s (.str a1),.s .np]/\r = .val (.tup [.agg ((Nd.enc y0).map .s),.s (.int .i64 y1),.s (.int .i64 y2)])
def zHN:zAq:=zAr zMy
def zLr:PSound Tryz.prog 17 zHN:=zKD Tryz.call17 fun xs r ⟨t,s,y0,y1,y2,h,h1,h2⟩=>by
 subst h1 h2;unfold zDa at h;split at h
 ·rename_i hv;simp only[af,ay,bD]at hv;obtain⟨vs,rfl,_⟩:=zRA hv.1.1;cases h;rw[hv.2];exact⟨_,rfl,rfl,(zXK hv.1.1 hv.1.2).2⟩
 ·cases h
def zQs (xs:List AV) (r:Ret):Prop:=∃ (y0:Bool),zFQ=some y0/\xs=[]/\r = .val (.s (.bool y0))
def zKn:zAq:=zAr fun xs r=>zQs xs r
def zO2:PSound Tryz.prog 5 zKn:=zKD Tryz.call5 fun xs r ⟨y,h,h1,h2⟩=>by
 subst h1 h2;cases h;exact⟨_,rfl,rfl,yB3⟩
def zBt (n:Nat) (y12:List zRc):Nat->Int->(List UInt8)->Int->(List Nd)->Int->(List UInt8)->Int->(List Nd)->Int->Int->(List zRc)->Option (Fl Bool (Int×(List UInt8)×Int×(List Nd)×Int×(List UInt8)×Int×(List Nd)×Int×(List zRc)))
| 0,_,_,_,_,_,_,_,_,_,_,_=>none
| k+1,x17,x18,x19,x20,x21,x22,x23,x24,x26,x27,l28=>bif decide (0<=x27) then ((zAB (Nd.mk x17 x18 x19 x20,Nd.mk x21 x22 x23 x24,l28,x26)).bind fun⟨⟨y39A,y39C,y39D,y39B⟩,⟨⟨w40K,w40L,w40M,w40N⟩,⟨w40O,w40P,w40Q,w40R⟩,w40J,w40I⟩⟩=>(zDv (Nd.mk y39A y39C y39D y39B)).bind fun⟨y41,y42⟩=>(zDa (Nd.mk y39A y39C y39D y39B) y41).bind fun⟨⟨y43A,y43C,y43D,y43B⟩,y44,y45⟩=>(bif (y42 != 0) then (some (true,w40K,w40L,w40M,w40N,w40O,w40P,w40Q,w40R,w40I,w40J)) else (bif (y45 != 0) then (
     some (true,w40K,w40L,w40M,w40N,w40O,w40P,w40Q,w40R,w40I,w40J)) else ((zAB (Nd.mk w40K w40L w40M w40N,Nd.mk w40O w40P w40Q w40R,w40J,w40I)).bind fun⟨⟨y57A,y57C,y57D,y57B⟩,⟨⟨w58K,w58L,w58M,w58N⟩,⟨w58O,w58P,w58Q,w58R⟩,w58J,w58I⟩⟩=>(zBi n (Nd.mk y43A y43C y43D y43B) (Nd.mk y57A y57C y57D y57B)).bind fun y59=>some ((!y59),w58K,w58L,w58M,w58N,w58O,w58P,w58Q,w58R,w58I,w58J)))
   : Option (Bool×Int×(List UInt8)×Int×(List Nd)×Int×(List UInt8)×Int×(List Nd)×Int×(List zRc))).bind fun⟨x46,x47,x48,x49,x50,x51,x52,x53,x54,x55,l56⟩=>bif x46 then (some (.ret false)) else ((zBz n (Nd.mk x47 x48 x49 x50,Nd.mk x51 x52 x53 x54,l56,x55)).bind fun⟨⟨y60G,y60S⟩,y61,⟨⟨w62K,w62L,w62M,w62N⟩,⟨w62O,w62P,w62Q,w62R⟩,w62J,w62I⟩⟩=>(bif (y61 != 0) then (some true) else ((at? y12 x27).bind fun⟨e64X,⟨e64Y,e64Z⟩,⟨e64Aa,e64Ab⟩⟩=>(zCi n (y60G,y60S) (e64Y,e64Z)).bind fun y66=>some (!y66))
    : Option (Bool)).bind fun x63=>bif x63 then (some (.ret false)) else (zBt n y12 k w62K w62L w62M w62N w62O w62P w62Q w62R w62I (i64.wrap (x27 - 1)) w62J))) else (some (.go (x17,x18,x19,x20,x21,x22,x23,x24,x26,l28)))
def zBu (n:Nat) (y12:List zRc):Nat->Int->(List UInt8)->Int->(List Nd)->Int->(List UInt8)->Int->(List Nd)->Int->Int->(List zRc)->Option (Fl Bool (Int×(List UInt8)×Int×(List Nd)×Int×(List UInt8)×Int×(List Nd)×Int×(List zRc)))
| 0,_,_,_,_,_,_,_,_,_,_,_=>none
| k+1,x71,x72,x73,x74,x75,x76,x77,x78,x80,x81,l82=>bif decide (x81<(y12.length:Int)) then ((zBy n (Nd.mk x71 x72 x73 x74,Nd.mk x75 x76 x77 x78,l82,x80)).bind fun⟨⟨y93G,y93S⟩,y94,⟨⟨w95K,w95L,w95M,w95N⟩,⟨w95O,w95P,w95Q,w95R⟩,w95J,w95I⟩⟩=>(bif (y94 != 0) then (some true) else ((at? y12 x81).bind fun⟨e97X,⟨e97Y,e97Z⟩,⟨e97Aa,e97Ab⟩⟩=>(zCi n (y93G,y93S) (e97Aa,e97Ab)).bind fun y99=>some (!y99)):Option (Bool)).bind fun x96=>bif x96 then (some (.ret false)) else (
   zBu n y12 k w95K w95L w95M w95N w95O w95P w95Q w95R w95I (i64.wrap (x81+1)) w95J)) else (some (.go (x71,x72,x73,x74,x75,x76,x77,x78,x80,l82)))
def zCL (n:Nat):Nd->(List ((Int×List Nd×Int×List UInt8×Bool)×Int×Int))->Option Bool
| ⟨a1A,a1C,a1D,a1B⟩,a2=>((zFQ ).bind fun y4=>bif (!y4) then (some true) else ((zIx n (Nd.mk a1A a1C a1D a1B) a2).bind fun y5=>some (!y5)):Option (Bool)).bind fun x3=>bif x3 then ((zFQ ).bind fun y6=>some y6) else ((zEH n (Nd.mk a1A a1C a1D a1B)).bind fun⟨y7,y8⟩=>match y7 with
  | none=>(req (y8=1) <| some true)
  | some ⟨⟨w9K,w9L,w9M,w9N⟩,⟨w9O,w9P,w9Q,w9R⟩,w9J,w9I⟩=>(req (y8=0) <| (zFh n (Nd.mk w9K w9L w9M w9N,Nd.mk w9O w9P w9Q w9R,w9J,w9I) a2).bind fun⟨y10,⟨⟨w11K,w11L,w11M,w11N⟩,⟨w11O,w11P,w11Q,w11R⟩,w11J,w11I⟩⟩=>bif (!y10) then (some false) else (
    (zBf n (Nd.mk w11K w11L w11M w11N,Nd.mk w11O w11P w11Q w11R,w11J,w11I)).bind fun⟨y12,⟨⟨w13K,w13L,w13M,w13N⟩,⟨w13O,w13P,w13Q,w13R⟩,w13J,w13I⟩⟩=>(zAB (Nd.mk w13K w13L w13M w13N,Nd.mk w13O w13P w13Q w13R,w13J,w13I)).bind fun⟨⟨y14A,y14C,y14D,y14B⟩,⟨⟨w15K,w15L,w15M,w15N⟩,⟨w15O,w15P,w15Q,w15R⟩,w15J,w15I⟩⟩ =>
    (zBt n y12 n w15K w15L w15M w15N w15O w15P w15Q w15R w15I (i64.wrap ((y12.length:Int) - 1)) w15J).bind fun fl=>match fl with
    | .ret r=>some r
    | .go ⟨x29,x30,x31,x32,x33,x34,x35,x36,x37,l38⟩=>(zAB (Nd.mk x29 x30 x31 x32,Nd.mk x33 x34 x35 x36,l38,x37)).bind fun⟨⟨y67A,y67C,y67D,y67B⟩,⟨⟨w68K,w68L,w68M,w68N⟩,⟨w68O,w68P,w68Q,w68R⟩,w68J,w68I⟩⟩=>(zBi n (Nd.mk y67A y67C y67D y67B) (Nd.mk a1A a1C a1D a1B)).bind fun y69=>bif (!y69) then (some false) else ((zBu n y12 n w68K w68L w68M w68N w68O w68P w68Q w68R w68I 0 w68J).bind fun fl=>match fl with
      | .ret r=>some r
      | .go ⟨x83,x84,x85,x86,x87,x88,x89,x90,x91,l92⟩=>(zAB (Nd.mk x83 x84 x85 x86,Nd.mk x87 x88 x89 x90,l92,x91)).bind fun⟨⟨y100A,y100C,y100D,y100B⟩,⟨⟨w101K,w101L,w101M,w101N⟩,⟨w101O,w101P,w101Q,w101R⟩,w101J,w101I⟩⟩=>(zBi n (Nd.mk y100A y100C y100D y100B) (Nd.mk y14A y14C y14D y14B)).bind fun y102=>some y102))))
end Go.Proofs.YtbfnjnljboncgaaGreat
