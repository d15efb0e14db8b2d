/-
  Joined out of: PNode, PRow, PWith, PWt, PLeast, PLeast2, PEdit1, PEdit2, PEdit3, PEdit4, PEdit5, PDif4, PEdit7, PHs2, PHs3, PHs4, PR10, PRun7, PFil1, PTypF, PFil2, PCo2, PCo3, PFil5, PFil6, PFil7, PTypV, PFAwk.
-/
import Derived.Test.YtgplhldfbkmmgaaGreatZe
set_option linter.unusedVariables false
set_option linter.unusedSimpArgs false
set_option maxHeartbeats 2000000
set_option maxRecDepth 100000
namespace Go.Proofs.YtgplhldfbkmmgaaGreat
open Go.Abs
theorem zOu {F:Nd->Nd->Option Bool}{a b:List Nd} (hF:∀ u∈a,∀ v∈b,∃ y,F u v=some y/\(y=true↔u=v)) (hl:a.length=b.length) (hb:a.length<=1073741824) :
  ∀ (q i:Nat),a.length - i<q->i<=a.length->∃ y,zAD F a b q (i:Int)=some (if y then .go () else .ret false)/\(y=true↔a.drop i=b.drop i)
 | 0,_,h,_=>by omega
 | q+1,i,hq,hi=>by
  unfold zAD
  by_cases h:i<a.length
  ·have h':i<b.length :=(by omega);rw[zAB (Int.ofNat_lt.2 h),cond_true,zAT h,zAT h']
   obtain⟨y,f1,f2⟩:=hF _ (List.getElem_mem h) _ (List.getElem_mem h')
   have d1:=List.drop_eq_getElem_cons h;have d2:=List.drop_eq_getElem_cons h';rcases e:a[i] with ⟨x1,x2,x3,x4⟩
   rcases e':b[i] with ⟨y1,y2,y3,y4⟩
   rw[e,e']at f1 f2;rw[e]at d1;rw[e']at d2;simp only[obs,f1]
   cases y with
   | false =>
    refine⟨false,rfl,⟨(fun h=>by cases h),fun h=>?_⟩⟩
    rw[d1,d2]at h;exact f2.2 (List.cons.inj h).1
   | true =>
    simp only[Bool.not_true,cond_false]
    rw[zAE (by omega)]
    obtain⟨z,g1,g2⟩:=zOu hF hl hb q (i+1) (by omega) (by omega)
    refine⟨z,g1,?_⟩
    rw[d1,d2,g2,f2.1 rfl]
    simp
  ·rw[zAA (by omega),cond_false]
   obtain rfl:i=a.length :=(by omega);refine⟨true,rfl,?_⟩
   rw[List.drop_length,hl,List.drop_length]
   simp
theorem zHg:∀ N:Nat,(∀ x y:Nd,2 * x.cnt<N->x.cnt<=67108864->∃ r,zBY N x y=some r/\(r=true↔x=y)) /\
  (∀ a b:List Nd,2 * Nd.cnts a+1<N->Nd.cnts a<=67108864->∃ r,zAN N a b=some r/\(r=true↔a=b))
 | 0=>⟨fun _ _ h _=>by omega,fun _ _ h _=>by omega⟩
 | n+1=>by
  obtain⟨ih1,ih2⟩:=zHg n;refine⟨fun x y h hx=>?_,fun a b h ha=>?_⟩
  ·obtain⟨a,b,c,d⟩:=x;obtain⟨a',b',c',d'⟩:=y;simp only[Nd.cnt]at h hx;obtain⟨r,h1,h2⟩:=ih2 d d' (by omega) (by omega)
   unfold zBY;simp only[h1,obs]
   cases e1:a == a' with
   | false=>exact⟨false,rfl,⟨(fun h=>by cases h),fun h=>by cases h; simp at e1⟩⟩
   | true =>
    cases e2:b == b' with
    | false=>exact⟨false,rfl,⟨(fun h=>by cases h),fun h=>by cases h; simp at e2⟩⟩
    | true =>
     cases e3:c == c' with
     | false=>exact⟨false,rfl,⟨(fun h=>by cases h),fun h=>by cases h; simp at e3⟩⟩
     | true =>
      refine⟨r,rfl,h2.trans ⟨fun h=>?_,fun h=>by cases h; rfl⟩⟩
      rw[eq_of_beq e1,eq_of_beq e2,eq_of_beq e3,h]
  ·unfold zAN;have l1:=Nd.cnts_len a
   by_cases hl:a.length=b.length
   ·obtain⟨y,g1,g2⟩:=zOu (F:=zBY n) (a:=a) (b:=b) (fun u hu v _=>ih1 u v (by have:=Nd.cnts_mem hu; omega) (by have:=Nd.cnts_mem hu; omega)) hl (by omega) n 0 (by omega) (by omega)
    rw[show((0:Nat):Int)=0 from rfl]at g1;rw[hl,bne_self_eq_false,cond_false,g1]
    refine⟨y,by cases y <;> rfl,g2⟩
   ·have:((a.length:Int) != (b.length:Int))=true:=by
     unfold bne;rw[zC3 (by omega)]; rfl
    rw[this]
    exact⟨false,rfl,⟨(fun h=>by cases h),fun h=>absurd (congrArg List.length h) hl⟩⟩
theorem zLa {n:Nd}{i s:Int}{p:List Int} (h:¬ (0<=i/\i<n.kids.length)):zBx n (i::s::p)=none:=by rw[zBx,if_neg h]
theorem zLb {n x:Nd}{i:Nat}{s:Int}{p:List Int} (hx:n.kids[i]? = some x) (h:¬ (0<=s/\s<x.kids.length)):zBx n ((i:Int)::s::p)=none:=by
 have hl:=(List.getElem?_eq_some_iff.1 hx).1;rw[zBx,if_pos ⟨by omega,by omega⟩]
 simp only[List.getD_eq_getElem?_getD,Int.toNat_natCast,hx,Option.getD_some]
 rw[if_neg h]
theorem zSt {n x z:Nd}{i s:Nat}{p:List Int} (hx:n.kids[i]? = some x) (hz:x.kids[s]? = some z):zBx n ((i:Int)::(s:Int)::p)=zBx z p:=by
 have hl:=(List.getElem?_eq_some_iff.1 hx).1;have hl2:=(List.getElem?_eq_some_iff.1 hz).1;rw[zBx,if_pos ⟨by omega,by omega⟩]
 simp only[List.getD_eq_getElem?_getD,Int.toNat_natCast,hx,hz,Option.getD_some]
 rw[if_pos ⟨by omega,by omega⟩]
theorem zUE {α:Type}{l:List α}{i:Int} (h0:0<=i) (h1:i<(l.length:Int)):∃ p:Nat,i=(p:Int)/\∃ h:p<l.length,at? l i=some l[p]:=by
 obtain⟨p,rfl⟩:=Int.eq_ofNat_of_zero_le h0;exact⟨p,rfl,by omega,zAT (by omega)⟩
theorem zOm:∀ (k:Nat) (t:Nd) (path:List Int),path.length<k ->
  (zBx t path=none/\∃ r,zBX k t.kind t.text t.cols t.kids path=some (.ret (r,false))) ∨
  (zBx t path=none/\∃ (r:Nd) (p:List Int),p ≠ []/\zBX k t.kind t.text t.cols t.kids path=some (.go (p,r.kind,r.text,r.cols,r.kids))) ∨
  ∃ r,zBx t path=some r/\zBX k t.kind t.text t.cols t.kids path=some (.go ([],r.kind,r.text,r.cols,r.kids))
 | 0,_,_,h=>by omega
 | k+1,t,path,h=>by
  unfold zBX
  match path,h with
  | [],h=>exact .inr (.inr ⟨t,rfl,rfl⟩)
  | [x],h=>exact .inr (.inl ⟨rfl,t,[x],by simp,rfl⟩)
  | x::y::p,h =>
   have e0:at? (x::y::p) (0:Int)=some x:=rfl;have e1:at? (x::y::p) (1:Int)=some y:=rfl;have e2:(((x::y::p).take (((x::y::p).length:Int)).toNat).drop (2:Int).toNat)=p:=by
    rw[Int.toNat_natCast,List.take_length]; rfl
   rw[zAB (by simp only[List.length_cons]; omega),cond_true]
   simp only[e0,e1,obs,e2]
   by_cases h1:x<0
   ·rw[zAB h1]; exact .inl ⟨zLa (fun h=>by omega),_,rfl⟩
   ·rw[zAA h1]
    by_cases h2:(t.kids.length:Int)<=x
    ·rw[zAB h2]; exact .inl ⟨zLa (fun h=>by omega),_,rfl⟩
    ·rw[zAA h2]
     obtain⟨i,rfl,hi,hg⟩:=zUE (l:=t.kids) (i:=x) (by omega) (by omega)
     rw[hg]
     have hgi:t.kids[i]? = some t.kids[i]:=List.getElem?_eq_getElem hi;generalize t.kids[i]=e at hgi;obtain⟨x1,x2,x3,x4⟩:=e;simp only[cond_false,obs]
     by_cases h3:y<0
     ·rw[zAB h3]; exact .inl ⟨zLb hgi (fun h=>by omega),_,rfl⟩
     ·rw[zAA h3]
      by_cases h4:(x4.length:Int)<=y
      ·rw[zAB h4]; exact .inl ⟨zLb hgi (fun h=>by have:y<x4.length:=h.2; omega),_,rfl⟩
      ·rw[zAA h4]
       obtain⟨j,rfl,hj,hg2⟩:=zUE (l:=x4) (i:=y) (by omega) (by omega)
       rw[hg2]
       have hgj:x4[j]? = some x4[j]:=List.getElem?_eq_getElem hj;generalize x4[j]=f at hgj;obtain⟨y1,y2,y3,y4⟩:=f;simp only[cond_false,obs]
       rw[zBn ⟨by omega,by simp only[List.length_cons]; omega,by omega⟩]
       rw[zSt hgi hgj]
       exact zOm k (.mk y1 y2 y3 y4) p (by simp only[List.length_cons]at h; omega)
theorem zSP (n:Nat) (t:Nd) (path:List Int) (h:path.length<n):∃ r ok,zG0 n t path=some (r,ok)/\zBx t path=bif ok then some r else none:=by
 obtain⟨a,b,c,d⟩:=t;unfold zG0;dsimp only;rcases zOm n (.mk a b c d) path h with ⟨h0,r,h1⟩ | ⟨h0,r,p,hp,h1⟩ | ⟨r,h0,h1⟩
 ·simp only[Nd.kind,Nd.text,Nd.cols,Nd.kids]at h1;rw[h1]
  exact⟨r,false,rfl,h0⟩
 ·obtain⟨r1,r2,r3,r4⟩:=r;simp only[Nd.kind,Nd.text,Nd.cols,Nd.kids]at h1;rw[h1]
  refine⟨.mk r1 r2 r3 r4,false,?_,h0⟩
  have:((p.length:Int) == 0)=false:=beq_eq_false_iff_ne.2 fun e=>hp (List.eq_nil_of_length_eq_zero (by omega))
  simp only[obs,this]
 ·obtain⟨r1,r2,r3,r4⟩:=r;simp only[Nd.kind,Nd.text,Nd.cols,Nd.kids]at h1;rw[h1]
  exact⟨.mk r1 r2 r3 r4,true,rfl,h0⟩
def rowS (t:Nd) (p:List Int):Nd×Int:=if zAz t=true then (match zBx t p with | some r=>(r,0) | none=>(zDj,8)) else (zDj,1)
theorem zQ1:∀ (N:Nat) (p:List Int) (t r:Nd),p.length<N->zBx t p=some r->r.w<=t.w/\r.cnt<=t.cnt
 | 0,p,_,_,h,_=>by omega
 | N+1,[],t,r,_,h=>by
  rw[zBx]at h;cases h;exact⟨Nat.le_refl _,Nat.le_refl _⟩
 | N+1,[_],t,r,_,h=>by
  rw[zBx]at h;cases h
 | N+1,i::s::p,.mk k tx c ks,r,hN,h=>by
  rw[zBx]at h;split at h
  ·rename_i hi
   replace hi:0<=i/\i<ks.length:=hi;have hi0:i.toNat<ks.length :=(by omega);have hx:ks[i.toNat]? = some ks[i.toNat]:=List.getElem?_eq_getElem hi0;generalize ks[i.toNat]=x at hx;obtain⟨k2,tx2,c2,ks2⟩:=x;simp only[Nd.kids,List.getD_eq_getElem?_getD,hx,Option.getD_some]at h;split at h
   ·rename_i hs
    have hs0:s.toNat<ks2.length :=(by omega);have hz:ks2[s.toNat]? = some ks2[s.toNat]:=List.getElem?_eq_getElem hs0;generalize ks2[s.toNat]=z at hz;rw[hz,Option.getD_some]at h;obtain⟨q1,q2⟩:=zQ1 N p z r (by simp only[List.length_cons]at hN; omega) h;have m1:=Nd.w_mem (List.mem_of_getElem? hx)
    have m2:=Nd.w_mem (List.mem_of_getElem? hz)
    have n1:=Nd.cnts_mem (List.mem_of_getElem? hx)
    have n2:=Nd.cnts_mem (List.mem_of_getElem? hz)
    simp only[Nd.w,Nd.cnt]at m1 m2 n1 n2 ⊢
    omega
   ·cases h
  ·cases h
theorem zUk (n:Nat) (t:Nd) (p:List Int) (hp:p.length<n) (hv:zA6 n t=some (zAz t)):zHU n t p=some (rowS t p):=by
 obtain⟨r,ok,h1,h2⟩:=zSP n t p hp;obtain⟨k,tx,c,ks⟩:=t;unfold zHU rowS;dsimp only;rw[hv]
 simp only[obs]
 cases hb:zAz (.mk k tx c ks) with
 | false=>rfl
 | true =>
  rw[h1,h2]
  obtain⟨r1,r2,r3,r4⟩:=r;cases ok <;> rfl
theorem zJc {t:Nd} (h:t.cnt<=1000000000):zBy t=some t:=zBn h
theorem zSB (n:Nat) (t:Nd) (p:List Int) (hv:zAR n t=some (zAz t)) (hc:t.cnt<=1000000000):zGX n t p=some (rowS t p):=by
 unfold zGX rowS;rw[hv]
 simp only[obs]
 split
 ·cases hf:zBx t p with
  | none=>rfl
  | some r =>
   have:=(zQ1 _ p t r (Nat.lt_succ_self _) hf).2;simp only[zJc (Nat.le_trans this hc),obs]
 ·rfl
theorem zMi {α:Type}{l:List α}{i:Nat}{x:α} (h:l[i]? = some x):at? l (i:Int)=some x:=by
 have hl:=(List.getElem?_eq_some_iff.1 h).1;rw[zAT hl,← List.getElem?_eq_getElem hl,h]
theorem zId {k:Int}{tx:List UInt8}{c:Int}{ks:List Nd}{i:Nat}{x y:Nd} (hi:ks[i]? = some y) (hl:ks.length<=4294967296):zBD (.mk k tx c ks) (i:Int) x=some (.mk k tx c (ks.set i x)):=by
 obtain⟨x1,x2,x3,x4⟩:=x;obtain⟨y1,y2,y3,y4⟩:=y;unfold zBD;dsimp only;rw[zBn (by simpa using hl),zMi hi]
 simp only[obs,Int.toNat_natCast]
def zS6 (t:Nd) (p:List Int) (r:Nd):Nd×Int:=if zAz t=true then (match zBx t p with
 | some _=>if zAz r=true then (if zAz (putL t p r)=true then (putL t p r,0) else (zDj,6)) else (zDj,4)
 | none=>(zDj,8)) else (zDj,1)
theorem zRh (n:Nat) (t:Nd) (p:List Int) (r:Nd) (hv:zAR n t=some (zAz t)) (hr:zAR n r=some (zAz r)) (hp:∀ z,Fd t p z->zAR n (putL t p r)=some (zAz (putL t p r))) (hc:t.cnt<=1000000000) (hcr:r.cnt<=1000000000) :
  zEI n t p r=some (zS6 t p r):=by
 unfold zEI zS6;rw[hv,zJc hc,hr,zJc hcr]
 simp only[obs]
 split
 ·cases hf:zBx t p with
  | none=>rfl
  | some z =>
   dsimp only;rw[hp z (zXa hf)]
   simp only[obs]
   split
   ·split <;> rfl
   ·rfl
 ·rfl
theorem zWC {t z r:Nd}{p:List Int} (hv:zAz t=true) (h:zBx t p=some z) (hr:zAz r=true) (hp:zAz (putL t p r)=true):zS6 t p r=(putL t p r,0):=by unfold zS6; rw[if_pos hv,h]; dsimp only; rw[if_pos hr,if_pos hp]
abbrev Op8:=Int×List Int×Int×Int×List Nd×Int×List UInt8×List UInt8
def Op8.nodes (o:Op8):List Nd:=o.2.2.2.2.1
theorem take3 {α:Type} (l:List α){p q:Nat} (h:p<=q):(l.take p++(l.take q).drop p)++l.drop q=l:=by
 have:l.take p=(l.take q).take p :=(by rw[List.take_take,Nat.min_eq_left h]);rw[this,List.take_append_drop,List.take_append_drop]
theorem zRZ (l by':List Nd){p q:Nat} (h:p<=q):Nd.ws ((l.take p++by')++l.drop q)+Nd.ws ((l.take q).drop p)=Nd.ws l+Nd.ws by':=by
 have:=congrArg Nd.ws (take3 l h)
 rw[Nd.ws_append,Nd.ws_append]at this ⊢
 omega
theorem zVB (l by':List Nd) (p q:Nat) (hp:p<=l.length) (hq:q<=l.length) (hl:l.length<=1073741824) (hb:by'.length<=1073741824) :
  zB0 l (p:Int) (q:Int) by'=some ((l.take p++by')++l.drop q):=by
 unfold zB0;dsimp only;have e1:(l.take (p:Int).toNat).drop (0:Int).toNat=l.take p :=(by simp);have e2:(l.take (l.length:Int).toNat).drop (q:Int).toNat=l.drop q :=(by simp);rw[e1,e2,zBn ⟨by omega,by omega,by omega⟩,zBn (by simp; omega),zBn (by simp; omega),zBn ⟨by omega,by omega,by omega⟩,zBn (by simp; omega)]
theorem zSj (t:Nd) (i:Nat) (v:Nd) (h:i<t.kids.length) (hl:t.kids.length<=1073741824):zBD t (i:Int) v=some (.mk t.kind t.text t.cols (t.kids.set i v)):=by
 obtain⟨a,b,c,d⟩:=t;obtain⟨a',b',c',d'⟩:=v;simp only[Nd.kids]at h hl;unfold zBD;simp only;rw[zBn (by simp; omega),zAT h]
 rcases e:d[i] with ⟨x1,x2,x3,x4⟩
 simp only[obs,Int.toNat_natCast,Nd.kind,Nd.text,Nd.cols,Nd.kids]
theorem zQ0 (t:Nd) (i:Nat) (l:List Nd) (h:i<t.kids.length) (hl:t.kids.length<=1073741824) (hl2:l.length<=1073741824):zDz t (i:Int) l=some (.mk t.kind t.text t.cols (t.kids.set i (.mk 1 [] 0 l))):=by
 have:=zSj t i (.mk 1 [] 0 l) h hl;obtain⟨a,b,c,d⟩:=t;unfold zDz;simp only[zCU,obs]
 rw[zBn (by simp; omega),this]
 rfl
theorem zWE {α:Type}{l:List α}{i:Int} (h0:0<=i) (h1:i<(l.length:Int)):∃ p:Nat,i=(p:Int)/\∃ h:p<l.length,at? l i=some l[p]:=by
 obtain⟨p,rfl⟩:=Int.eq_ofNat_of_zero_le h0;exact⟨p,rfl,by omega,zAT (by omega)⟩
theorem zGt (t:Nd):t.w=t.text.length+Nd.ws t.kids+1:=by cases t; rfl
theorem zWN (l:List Nd){p q:Nat} (h:p<=q):Nd.ws ((l.take q).drop p)<=Nd.ws l:=by
 have:=zRZ l [] h;simp only[Nd.ws]at this; omega
theorem zS1 (l:List Nd){p:Nat} (h:p<l.length):(l.take (p+1)).drop p=[l[p]]:=by
 rw[List.take_succ_eq_append_getElem h,List.drop_append_of_le_length (by simp; omega),List.drop_take]
 simp
def splS (l:List Nd) (p q:Nat) (b:List Nd):List Nd:=(l.take p++b)++l.drop q
def segS (l:List Nd) (p q:Nat):List Nd:=(l.take q).drop p
def rowN (l:List Nd):Nd:=.mk 1 [] 0 l
def zHx (v:Nd) (s:Nat) (l:List Nd):Nd:=.mk v.kind v.text v.cols (v.kids.set s (rowN l))
def zT2 (k:Int):Bool:=(k == 2)||((k == 3)||((k == 4)||((k == 10)||(k == 11))))
def zDN (k m:Int) (nodes:List Nd):Int:=if k=1 then 0 else if k=2 then nodes.length else if k=3 then m else 1
def zS9 (nodes:List Nd) (slot:Int):Prop:=∃ (v:Nd) (s:Nat) (z:Nd),nodes=[v]/\slot=(s:Int)/\zAz (rowN [v])=true/\v.kids[s]? = some z/\z.kids=[]
def FormP:Op8->Prop
 | (k,_,_,m,nodes,slot,old,text) =>
  ((k=1∨k=2)/\nodes ≠ []/\zAz (rowN nodes)=true/\m=0/\slot=0/\old=[]/\text=[]) ∨
  ((k=3∨k=4)/\0<=m/\zS9 nodes slot/\old=[]/\text=[]) ∨
  (k=5/\old ≠ text/\nodes=[]/\m=0/\slot=0)
inductive Chg (l:List Nd):Op8->List Nd->Int->Prop
 | range {k:Int} {row:List Int} {a m:Int} {nodes:List Nd} {slot:Int} {old text:List UInt8} (h:a<0∨(l.length:Int)<a∨(l.length:Int) - a<zDN k m nodes):Chg l (k,row,a,m,nodes,slot,old,text) [] 2
 | ins {row:List Int} {p:Nat} {m:Int} {nodes:List Nd} {slot:Int} {old text:List UInt8} (h:p<=l.length):Chg l (1,row,(p:Int),m,nodes,slot,old,text) (splS l p p nodes) 0
 | del {row:List Int} {p:Nat} {m:Int} {nodes:List Nd} {slot:Int} {old text:List UInt8} (h:p+nodes.length<=l.length) (he:segS l p (p+nodes.length)=nodes):Chg l (2,row,(p:Int),m,nodes,slot,old,text) (splS l p (p+nodes.length) []) 0
 | del_no {row:List Int} {p:Nat} {m:Int} {nodes:List Nd} {slot:Int} {old text:List UInt8} (h:p+nodes.length<=l.length) (he:segS l p (p+nodes.length) ≠ nodes):Chg l (2,row,(p:Int),m,nodes,slot,old,text) [] 7
 | wrap {row:List Int} {p m:Nat} {v:Nd} {s:Nat} {old text:List UInt8} (h:p+m<=l.length):Chg l (3,row,(p:Int),(m:Int),[v],(s:Int),old,text) (splS l p (p+m) [zHx v s (segS l p (p+m))]) 0
 | unwrap {row:List Int} {p:Nat} {m:Int} {v it z:Nd} {s:Nat} {old text:List UInt8} (h:l[p]? = some it) (hz:it.kids[s]? = some z) (hm:(z.kids.length:Int)=m) (he:it=zHx v s z.kids):Chg l (4,row,(p:Int),m,[v],(s:Int),old,text) (splS l p (p+1) z.kids) 0
 | unwrap_no {row:List Int} {p:Nat} {m:Int} {v it:Nd} {s:Nat} {old text:List UInt8} (h:l[p]? = some it) (hz:∀ z,it.kids[s]? = some z->(z.kids.length:Int)=m->it ≠ zHx v s z.kids):Chg l (4,row,(p:Int),m,[v],(s:Int),old,text) [] 7
 | set {row:List Int} {p:Nat} {m:Int} {nodes:List Nd} {it:Nd} {slot:Int} {old text:List UInt8} (h:l[p]? = some it) (hl:zT2 it.kind=true) (he:it.text=old):Chg l (5,row,(p:Int),m,nodes,slot,old,text) (splS l p (p+1) [.mk it.kind text it.cols it.kids]) 0
 | set_no {row:List Int} {p:Nat} {m:Int} {nodes:List Nd} {it:Nd} {slot:Int} {old text:List UInt8} (h:l[p]? = some it) (hl:¬ (zT2 it.kind=true/\it.text=old)):Chg l (5,row,(p:Int),m,nodes,slot,old,text) [] 7
inductive App (t:Nd):Op8->Nd->Int->Prop
 | arg {o:Op8} (h:zAz t=false):App t o zDj 1
 | form {o:Op8} (h:zAz t=true) (hf:¬ FormP o):App t o zDj 4
 | none {o:Op8} (h:zAz t=true) (hf:FormP o) (hn:zBx t o.2.1=Option.none):App t o zDj 8
 | chg {o:Op8} {r:Nd} {l:List Nd} {e:Int} (h:zAz t=true) (hf:FormP o) (hr:Fd t o.2.1 r) (hc:Chg r.kids o l e) (he:e ≠ 0):App t o zDj e
 | limit {o:Op8} {r:Nd} {l:List Nd} (h:zAz t=true) (hf:FormP o) (hr:Fd t o.2.1 r) (hc:Chg r.kids o l 0) (hv:zAz (putL t o.2.1 (rowN l))=false):App t o zDj 6
 | ok {o:Op8} {r:Nd} {l:List Nd} (h:zAz t=true) (hf:FormP o) (hr:Fd t o.2.1 r) (hc:Chg r.kids o l 0) (hv:zAz (putL t o.2.1 (rowN l))=true):App t o (putL t o.2.1 (rowN l)) 0
theorem Chg.w {l l':List Nd}{k:Int}{row:List Int}{a m:Int}{nodes:List Nd}{slot:Int}{old text:List UInt8}{e:Int} (h:Chg l (k,row,a,m,nodes,slot,old,text) l' e):Nd.ws l'<=Nd.ws l+Nd.ws nodes+text.length+3/\l'.length<=l.length+Nd.ws nodes+Nd.ws l+1:=by
 have key:∀ p q b,p<=q->Nd.ws (splS l p q b)+Nd.ws (segS l p q)=Nd.ws l+Nd.ws b:=fun p q b h=>zRZ l b h
 have hlen:∀ l':List Nd,l'.length<=Nd.ws l':=Nd.ws_len
 have h1:Nd.ws l'<=Nd.ws l+Nd.ws nodes+text.length+3:=by
  cases h with
  | range=>simp only[Nd.ws]; omega
  | @ins _ p _ _ _ _ _ h=>have:=key p p nodes (Nat.le_refl _); omega
  | @del _ p _ _ _ _ _ h he=>have:=key p (p+nodes.length) [] (Nat.le_add_right _ _); simp only[Nd.ws]at this; omega
  | del_no=>simp only[Nd.ws]; omega
  | @wrap _ p m v s _ _ h =>
   have:=key p (p+m) [zHx v s (segS l p (p+m))] (Nat.le_add_right _ _)
   have hf:(zHx v s (segS l p (p+m))).w<=v.w+Nd.ws (segS l p (p+m))+1:=by
    rw[zGt v]
    simp only[zHx,rowN,Nd.w]
    by_cases hs:s<v.kids.length
    ·have:=zNn (ks:=v.kids) (i:=s) (y:=.mk 1 [] 0 (segS l p (p+m))) (List.getElem?_eq_getElem hs)
     simp only[Nd.w,List.length_nil]at this
     omega
    ·rw[List.set_eq_of_length_le (by omega)]; omega
   simp only[Nd.ws]at this ⊢
   omega
  | @unwrap _ p _ v it z s _ _ h hz hm he =>
   have:=key p (p+1) z.kids (Nat.le_add_right _ _)
   have hsg:segS l p (p+1)=[it]:=by
    have:=zS1 l (List.getElem?_eq_some_iff.1 h).1;rw[segS,this,(List.getElem?_eq_some_iff.1 h).2]
   have w1:=Nd.w_mem (List.mem_of_getElem? hz)
   have w2:=zGt z;have w3:=zGt it;rw[hsg]at this;simp only[Nd.ws]at this
   omega
  | unwrap_no=>simp only[Nd.ws]; omega
  | @set _ p _ _ it _ _ _ h hl he =>
   have:=key p (p+1) [.mk it.kind text it.cols it.kids] (Nat.le_add_right _ _)
   have hsg:segS l p (p+1)=[it]:=by
    have:=zS1 l (List.getElem?_eq_some_iff.1 h).1;rw[segS,this,(List.getElem?_eq_some_iff.1 h).2]
   have w3:=zGt it;rw[hsg]at this;simp only[Nd.ws,Nd.w]at this
   omega
  | set_no=>simp only[Nd.ws]; omega
 refine⟨h1,?_⟩
 cases h with
 | range=>simp
 | @ins _ p _ _ _ _ _ h=>have:=hlen nodes; simp only[splS,List.length_append,List.length_take,List.length_drop]; omega
 | @del _ p _ _ _ _ _ h he=>simp only[splS,List.length_append,List.length_take,List.length_drop,List.length_nil]; omega
 | del_no=>simp
 | @wrap _ p m v s _ _ h=>simp only[splS,List.length_append,List.length_take,List.length_drop,List.length_cons,List.length_nil]; omega
 | @unwrap _ p _ v it z s _ _ h hz hm he =>
  have w1:=Nd.w_mem (List.mem_of_getElem? hz)
  have w4:=Nd.w_mem (List.mem_of_getElem? h)
  have w2:=zGt z;have w3:=zGt it;have:=hlen z.kids;simp only[splS,List.length_append,List.length_take,List.length_drop]; omega
 | unwrap_no=>simp
 | @set _ p _ _ it _ _ _ h hl he=>simp only[splS,List.length_append,List.length_take,List.length_drop,List.length_cons,List.length_nil]; omega
 | set_no=>simp
theorem zKh (n:Nat) (nodes:List Nd) (h:Nd.ws nodes+50<n) (hb:Nd.ws nodes<=67000000):zCj n nodes=some (zAz (rowN nodes)):=by
 unfold zCj;simp only[zCU,obs]
 rw[zEi n _ (by simp only[Nd.w,List.length_nil]; omega) (by simp only[Nd.w,List.length_nil]; omega)]; rfl
theorem zM2 (n:Nat) (l:List Nd) (slot:Int) (h:Nd.ws l+50<n) (hb:Nd.ws l<=67000000):∃ b,zD1 n l slot=some b/\(b=true↔zS9 l slot):=by
 unfold zD1;dsimp only;cases e1:((l.length:Int) == 1) with
 | false=>exact⟨false,rfl,(fun h=>by cases h),fun⟨v,s,z,h,_⟩=>by rw[h]at e1; cases e1⟩
 | true =>
  have hl:l.length=1 :=(by have:=eq_of_beq e1; omega);obtain⟨v,rfl⟩:=List.length_eq_one_iff.1 hl;have hv:=zKh n [v] h hb;obtain⟨a,b,c,d⟩:=v;have h0:at? [Nd.mk a b c d] (0:Int)=some (Nd.mk a b c d):=rfl;simp only[cond_true,hv,obs,h0]
  cases hvb:zAz (rowN [.mk a b c d]) with
  | false=>exact⟨false,rfl,(fun h=>by cases h),fun⟨v,s,z,h,_,h2,_⟩=>by cases h; rw[hvb]at h2; cases h2⟩
  | true =>
   by_cases h1:0<=slot
   ·by_cases h2:slot<(d.length:Int)
    ·obtain⟨p,rfl,hp,hg⟩:=zWE h1 h2;simp only[cond_true,zAB h1,zAB h2,hg,obs]
     have hz:d[p]? = some d[p]:=List.getElem?_eq_getElem hp;generalize d[p]=z at hz;obtain⟨x1,x2,x3,x4⟩:=z;refine⟨_,rfl,fun h=>⟨_,p,_,rfl,rfl,hvb,hz,?_⟩,fun⟨v,s,z,h,hs,_,hz',hk⟩=>?_⟩
     ·have:=eq_of_beq h;exact List.eq_nil_of_length_eq_zero (by simp only[Nd.kids]; omega)
     ·cases h;obtain rfl:p=s :=(by omega);simp only[Nd.kids]at hz';rw[hz]at hz';cases hz';simp only[Nd.kids]at hk;subst hk
      rfl
    ·simp only[cond_true,zAB h1,zAA h2]
     refine⟨false,rfl,(fun h=>by cases h),fun⟨v,s,z,h,hs,_,hz,_⟩=>?_⟩
     cases h;have:=(List.getElem?_eq_some_iff.1 hz).1;simp only[Nd.kids]at this
     omega
   ·simp only[cond_true,zAA h1]
    refine⟨false,rfl,(fun h=>by cases h),fun⟨v,s,z,h,hs,_⟩=>?_⟩
    omega
theorem zPT (n:Nat) (k:Int) (row:List Int) (at' m:Int) (nodes:List Nd) (slot:Int) (old text:List UInt8) (h:Nd.ws nodes+50<n) (hb:Nd.ws nodes<=67000000) :
  ∃ b,zE8 n (k,row,at',m,nodes,slot,old,text)=some b/\(b=true↔FormP (k,row,at',m,nodes,slot,old,text)):=by
 have hv:=zKh n nodes h hb;obtain⟨tb,t1,t2⟩:=zM2 n nodes slot h hb;have hlen:decide (0<(nodes.length:Int))=true↔nodes ≠ [] :=(by cases nodes <;> simp);have hlen0:((nodes.length:Int) == 0)=true↔nodes=[] :=(by cases nodes <;> simp <;> omega);unfold zE8;simp only[hv,t1,obs,FormP]
 by_cases k12:k=1∨k=2
 ·have e:(bif (k == 1) then some (k == 1) else some (k == 2):Option Bool)=some true:=by rcases k12 with rfl | rfl <;> rfl
  have hk:¬ (k=3∨k=4)/\¬ k=5 :=(by omega);rw[e]
  simp only[obs,cond_true,k12,hk.1,hk.2,true_and,false_and,or_false]
  rw[← hlen]
  generalize decide (0<(nodes.length:Int))=b1;generalize zAz (rowN nodes)=b2;cases b1 <;> cases b2 <;> simp only[cond_true,cond_false,obs] <;> try exact⟨false,rfl,by simp⟩
  cases e1:m == 0 <;> simp only[cond_true,cond_false,obs]
  ·exact⟨false,rfl,by simp[beq_eq_false_iff_ne.1 e1]⟩
  cases e2:slot == 0 <;> simp only[cond_true,cond_false,obs]
  ·exact⟨false,rfl,by simp[beq_eq_false_iff_ne.1 e2]⟩
  cases e3:old == [] <;> simp only[cond_true,cond_false,obs]
  ·exact⟨false,rfl,by simp[beq_eq_false_iff_ne.1 e3]⟩
  refine⟨_,rfl,?_⟩
  rw[eq_of_beq e1,eq_of_beq e2,eq_of_beq e3]
  simp
 ·have e:(bif (k == 1) then some (k == 1) else some (k == 2):Option Bool)=some false:=by
   rw[zC3 (fun h=>k12 (.inl h)),zC3 (fun h=>k12 (.inr h))]; rfl
  rw[e]
  simp only[obs,cond_false,k12,false_and,false_or]
  by_cases k34:k=3∨k=4
  ·have e:(bif (k == 3) then some (k == 3) else some (k == 4):Option Bool)=some true:=by rcases k34 with rfl | rfl <;> rfl
   have hk:¬ k=5 :=(by omega);rw[e]
   simp only[obs,cond_true,k34,hk,true_and,false_and,or_false]
   rw[← t2]
   by_cases hm:0<=m
   ·rw[zAB hm]
    cases tb <;> simp only[cond_true,cond_false,obs]
    ·exact⟨false,rfl,by simp⟩
    cases e3:old == [] <;> simp only[cond_true,cond_false,obs]
    ·exact⟨false,rfl,by simp[beq_eq_false_iff_ne.1 e3]⟩
    refine⟨_,rfl,?_⟩
    rw[eq_of_beq e3]
    simp[hm]
   ·rw[zAA hm]
    exact⟨false,rfl,by simp[hm]⟩
  ·have e:(bif (k == 3) then some (k == 3) else some (k == 4):Option Bool)=some false:=by
    rw[zC3 (fun h=>k34 (.inl h)),zC3 (fun h=>k34 (.inr h))]; rfl
   rw[e]
   simp only[obs,cond_false,k34,false_and,false_or]
   by_cases k5:k=5
   ·subst k5;simp only[beq_self_eq_true,cond_true,obs,true_and]
    rw[← hlen0]
    generalize ((nodes.length:Int) == 0)=b1;cases e0:old == text <;> simp only[Bool.not_true,Bool.not_false,cond_true,cond_false,obs]
    ·have:=beq_eq_false_iff_ne.1 e0;cases b1 <;> simp only[cond_true,cond_false,obs]
     ·exact⟨false,rfl,by simp⟩
     cases e1:m == 0 <;> simp only[cond_true,cond_false,obs]
     ·exact⟨false,rfl,by simp[beq_eq_false_iff_ne.1 e1]⟩
     refine⟨_,rfl,?_⟩
     rw[eq_of_beq e1]
     simp[this]
    ·exact⟨false,rfl,by simp[eq_of_beq e0]⟩
   ·rw[zC3 k5]
    exact⟨false,rfl,by simp[k5]⟩
theorem zTn (k:Int):(bif (k == 2) then some (k == 2) else bif (k == 3) then some (k == 3) else bif (k == 4) then some (k == 4) else bif (k == 10) then some (k == 10) else some (k == 11):Option Bool)=some (zT2 k):=by
 unfold zT2;cases e1:k == 2 <;> cases e2:k == 3 <;> cases e3:k == 4 <;> cases e4:k == 10 <;> rfl
theorem zTw (k m:Int) (nodes:List Nd):(bif (k == 1) then some 0 else bif (k == 2) then some (nodes.length:Int) else bif (k == 3) then some m else some 1:Option Int)=some (zDN k m nodes):=by
 unfold zDN
 by_cases k1:k=1
 ·subst k1; rfl
 by_cases k2:k=2
 ·subst k2; rfl
 by_cases k3:k=3
 ·subst k3; rfl
 rw[zC3 k1,zC3 k2,zC3 k3,if_neg k1,if_neg k2,if_neg k3]; rfl
theorem zSz {k:Int}{row:List Int}{a m:Int}{nodes:List Nd}{slot:Int}{old text:List UInt8} (hf:FormP (k,row,a,m,nodes,slot,old,text)):0<=zDN k m nodes:=by
 unfold zDN;rcases hf with ⟨rfl | rfl,_⟩ | ⟨rfl | rfl,hm,_⟩ | ⟨rfl,_⟩ <;> simp <;> omega
theorem zPU (n:Nat) (l:List Nd) (k:Int) (row:List Int) (a m:Int) (nodes:List Nd) (slot:Int) (old text:List UInt8) (hf:FormP (k,row,a,m,nodes,slot,old,text)) (hn:2 * Nd.ws l+2 * Nd.ws nodes+50<n) (ha:Nd.ws l<=60000000) (hb:Nd.ws nodes<=2000000) :
  ∃ l' e,zE9 n l (k,row,a,m,nodes,slot,old,text)=some (l',e)/\Chg l (k,row,a,m,nodes,slot,old,text) l' e:=by
 have la:=Nd.ws_len l;have lb:=Nd.ws_len nodes;have cl:=Nd.cnts_ws l;have cb:=Nd.cnts_ws nodes;have hnn:=zSz hf;unfold zE9;dsimp only;rw[zTw]
 simp only[obs]
 by_cases h1:a<0
 ·rw[zAB h1]; exact⟨[],2,rfl,.range (.inl h1)⟩
 rw[zAA h1]
 by_cases h2:(l.length:Int)<a
 ·rw[zAB h2]; exact⟨[],2,rfl,.range (.inr (.inl h2))⟩
 rw[zAA h2,wrap64_in (n:=(l.length:Int) - a) (by omega) (by omega)]
 by_cases h3:(l.length:Int) - a<zDN k m nodes
 ·rw[zAB h3]; exact⟨[],2,rfl,.range (.inr (.inr h3))⟩
 rw[zAA h3]
 simp only[cond_false,obs]
 obtain⟨p,rfl⟩:=Int.eq_ofNat_of_zero_le (show 0<=a by omega)
 obtain⟨y,hy⟩:=Int.eq_ofNat_of_zero_le hnn;rw[hy]at h3 ⊢;rw[wrap64_in (n:=(p:Int)+(y:Int)) (by omega) (by omega),← Int.natCast_add]
 have hseg:=zWN l (Nat.le_add_right p y)
 have lseg:=Nd.ws_len ((l.take (p+y)).drop p)
 have cseg:=Nd.cnts_ws ((l.take (p+y)).drop p)
 have hsp:∀ by':List Nd,by'.length<=1073741824->zB0 l (p:Int) ((p+y:Nat):Int) by'=some (splS l p (p+y) by'):=fun by' hby=>zVB l by' p (p+y) (by omega) (by omega) (by omega) hby
 rcases hf with ⟨rfl | rfl,h0⟩ | ⟨rfl | rfl,hm,⟨v,s,z,rfl,rfl,hvv,hz,hzk⟩,_⟩ | ⟨rfl,h0⟩
 ·obtain rfl:y=0 :=(by have:zDN 1 m nodes=0:=rfl; omega);simp only[beq_self_eq_true,cond_true,Nat.add_zero]at hsp ⊢;rw[hsp nodes (by omega)]
  exact⟨_,0,rfl,.ins (by omega)⟩
 ·obtain rfl:y=nodes.length :=(by have:zDN 2 m nodes=(nodes.length:Int):=rfl; omega);simp only[show((2:Int) == 1)=false from rfl,cond_false,beq_self_eq_true,cond_true,Int.toNat_natCast]
  rw[zBn ⟨by omega,by omega,by omega⟩]
  obtain⟨r,g1,g2⟩:=(zOT n).2 ((l.take (p+nodes.length)).drop p) nodes (by omega) (by omega)
  rw[g1]
  simp only[obs]
  cases r with
  | false=>exact⟨[],7,rfl,.del_no (by omega) fun e=>by have:=g2.2 e; cases this⟩
  | true =>
   simp only[Bool.not_true,cond_false,hsp [] (by simp),obs]
   exact⟨_,0,rfl,.del (by omega) (g2.1 rfl)⟩
 ·obtain rfl:m=(y:Int):=hy;have hs:=(List.getElem?_eq_some_iff.1 hz).1;have hfe:=zQ0 v s ((l.take (p+y)).drop p) hs (by have:=Nd.ws_len v.kids; have:=zGt v; simp only[Nd.ws]at lb hb; omega) (by omega)
  have hv0:at? [v] (0:Int)=some v:=rfl;obtain⟨v1,v2,v3,v4⟩:=v;simp only[show((3:Int) == 1)=false from rfl,show((3:Int) == 2)=false from rfl,cond_false,beq_self_eq_true,cond_true,Int.toNat_natCast,hv0,obs]
  rw[zBn ⟨by omega,by omega,by omega⟩,hfe]
  simp only[obs]
  rw[hsp _ (by simp)]
  exact⟨_,0,rfl,.wrap (by omega)⟩
 ·obtain rfl:y=1 :=(by have:zDN 4 m [v]=1:=rfl; omega);have hs:=(List.getElem?_eq_some_iff.1 hz).1;have hv0:at? [v] (0:Int)=some v:=rfl;have hpl:p<l.length :=(by omega);have hit:l[p]? = some l[p]:=List.getElem?_eq_getElem hpl;have hia:at? l (p:Int)=some l[p]:=zAT hpl;generalize l[p]=it at hit hia;have hiw:=Nd.w_mem (List.mem_of_getElem? hit)
  have hic:=Nd.cnt_w it;have hlk:=Nd.ws_len v.kids;have hwv:=zGt v;simp only[Nd.ws]at hb hn;have hfe:∀ l':List Nd,l'.length<=1073741824->zDz v (s:Int) l'=some (zHx v s l'):=fun l' hl'=>zQ0 v s l' hs (by omega) hl'
  have heq:∀ x:Nd,∃ r,zB7 n it x=some r/\(r=true↔it=x):=fun x=>(zOT n).1 it x (by omega) (by omega)
  obtain⟨i1,i2,i3,i4⟩:=it;have hwi:(Nd.mk i1 i2 i3 i4).w=i2.length+Nd.ws i4+1:=rfl;have hlk4:=Nd.ws_len i4;obtain⟨v1,v2,v3,v4⟩:=v;simp only[show((4:Int) == 1)=false from rfl,show((4:Int) == 2)=false from rfl,show((4:Int) == 3)=false from rfl,cond_false,beq_self_eq_true,cond_true,hia,obs,hv0]
  by_cases hsl:(i4.length:Int)<=(s:Int)
  ·rw[zAB hsl]
   refine⟨[],7,rfl,.unwrap_no hit fun z' hz'=>?_⟩
   have:=(List.getElem?_eq_some_iff.1 hz').1;simp only[Nd.kids]at this
   omega
  rw[zAA hsl]
  have hsi:s<i4.length :=(by omega);have hzi:i4[s]? = some i4[s]:=List.getElem?_eq_getElem hsi;have hza:at? i4 (s:Int)=some i4[s]:=zAT hsi;generalize i4[s]=z' at hzi hza;have hzw:=Nd.w_mem (List.mem_of_getElem? hzi)
  have hzw2:=zGt z';have hzl:=Nd.ws_len z'.kids;have hfe':=hfe z'.kids (by omega)
  obtain⟨rb,g1,g2⟩:=heq (zHx (.mk v1 v2 v3 v4) s z'.kids)
  have hsp':=hsp z'.kids (by omega)
  obtain⟨z1,z2,z3,z4⟩:=z';simp only[Nd.kids]at hfe' hsp' g1 g2;simp only[cond_false,hza,obs]
  by_cases hmz:(z4.length:Int)=m
  ·have:((z4.length:Int) != m)=false :=(by unfold bne; rw[beq_iff_eq.2 hmz]; rfl);rw[this]
   simp only[cond_false,hfe',obs]
   have hfx:zHx (.mk v1 v2 v3 v4) s z4 = .mk v1 v2 v3 (v4.set s (rowN z4)):=rfl;rw[hfx]at g1 g2 ⊢;simp only[obs,g1]
   cases rb with
   | false =>
    refine⟨[],7,rfl,.unwrap_no hit fun z'' hz'' hm'' he=>?_⟩
    simp only[Nd.kids]at hz'';rw[hzi]at hz'';cases hz'';have:=g2.2 he;cases this
   | true =>
    simp only[Bool.not_true,cond_false,hsp',obs]
    exact⟨_,0,rfl,.unwrap (z:=.mk z1 z2 z3 z4) hit hzi hmz (g2.1 rfl)⟩
  ·have:((z4.length:Int) != m)=true:=bne_iff_ne.2 hmz;rw[this]
   refine⟨[],7,rfl,.unwrap_no hit fun z'' hz'' hm'' he=>?_⟩
   simp only[Nd.kids]at hz'';rw[hzi]at hz'';cases hz'';exact hmz hm''
 ·obtain rfl:y=1 :=(by have:zDN 5 m nodes=1:=rfl; omega);have hpl:p<l.length :=(by omega);have hit:l[p]? = some l[p]:=List.getElem?_eq_getElem hpl;have hia:at? l (p:Int)=some l[p]:=zAT hpl;generalize l[p]=it at hit hia;obtain⟨i1,i2,i3,i4⟩:=it;simp only[show((5:Int) == 1)=false from rfl,show((5:Int) == 2)=false from rfl,show((5:Int) == 3)=false from rfl,show((5:Int) == 4)=false from rfl,cond_false,hia,obs,zTn]
  cases hlf:zT2 i1 with
  | false=>exact⟨[],7,rfl,.set_no hit fun h=>by have:=h.1; simp only[Nd.kind]at this; rw[hlf]at this; cases this⟩
  | true =>
   simp only[cond_true]
   cases ht:i2 == old with
   | false=>exact⟨[],7,rfl,.set_no hit fun h=>beq_eq_false_iff_ne.1 ht h.2⟩
   | true =>
    simp only[cond_true,hsp [Nd.mk i1 text i3 i4] (by simp),obs]
    exact⟨_,0,rfl,.set (it:=.mk i1 i2 i3 i4) hit hlf (eq_of_beq ht)⟩
theorem zUm {t z:Nd}{p:List Int} (h:Fd t p z) (l:List Nd):∀ n,p.length<n->t.cnt<=4294967296->zFa n t p l=some (putL t p (rowN l)):=by
 induction h with
 | nil t =>
  intro n hn _;obtain⟨n,rfl⟩:∃ m,n=m+1:=⟨n - 1,by omega⟩
  rw[zIc]
  obtain⟨t1,t2,t3,t4⟩:=t;unfold zFa
  rfl
 | @step k tx c ks i k2 tx2 c2 ks2 s z r' p hi hs _ ih =>
  intro n hn hc;obtain⟨n,rfl⟩:∃ m,n=m+1:=⟨n - 1,by omega⟩
  have n1:=Nd.cnts_mem (List.mem_of_getElem? hi)
  have n2:=Nd.cnts_mem (List.mem_of_getElem? hs)
  have l1:=Nd.cnts_len ks;have l2:=Nd.cnts_len ks2;simp only[Nd.cnt]at hc n1;have ih:=ih n (by simp only[List.length_cons]at hn; omega) (by omega)
  rw[zEP hi hs]
  have e1:((((i:Int)::(s:Int)::p).length:Int) == 0)=false:=zC3 (by simp only[List.length_cons]; omega)
  have e2:at? ((i:Int)::(s:Int)::p) (0:Int)=some (i:Int):=rfl;have e3:at? ((i:Int)::(s:Int)::p) (1:Int)=some (s:Int):=rfl;have e4:(((((i:Int)::(s:Int)::p)).take ((((i:Int)::(s:Int)::p)).length:Int).toNat).drop (2:Int).toNat)=p:=by
   rw[Int.toNat_natCast,List.take_length]; rfl
  obtain⟨z1,z2,z3,z4⟩:=z;unfold zFa;simp only[e1,e2,e3,cond_false,obs,zMi hi,zMi hs,e4]
  rw[zBn ⟨by omega,by simp only[List.length_cons]; omega,by omega⟩,ih]
  generalize putL (Nd.mk z1 z2 z3 z4) p (rowN l)=Z;obtain⟨q1,q2,q3,q4⟩:=Z;simp only[obs]
  rw[zId hs (by omega)]
  simp only[obs]
  rw[zId hi (by omega)]
  rfl
theorem zRJ (n:Nat) (t:Nd) (o:Op8) (hn:200000000<n) (ht:t.w<=50000000) (hb:Nd.ws o.nodes<=2000000) (hx:o.2.2.2.2.2.2.2.length<=2000000) (hr:o.2.1.length<=2000000):∃ t' e,zEL n t o=some (t',e)/\App t o t' e:=by
 obtain⟨k,row,a,m,nodes,slot,old,text⟩:=o;simp only[Op8.nodes]at hb;dsimp only at hx hr;have v1:=zEi n t (by omega) (by omega)
 obtain⟨b,f1,f2⟩:=zPT n k row a m nodes slot old text (by omega) (by omega)
 have e1:=zUk n t row (by omega) v1;have hput:∀ r l,Fd t row r->zFa n t row l=some (putL t row (rowN l)):=fun r l h=>zUm h l n (by omega) (by have:=Nd.cnt_w t; omega)
 have hval:∀ r l,Fd t row r->Nd.ws l<=5000000+r.w->zA6 n (putL t row (rowN l))=some (zAz (putL t row (rowN l))):=fun r l h hl=>by
  have:=h.w (rowN l)
  have e:(rowN l).w=Nd.ws l+1 :=(by simp[rowN,Nd.w]);exact zEi n _ (by omega) (by omega)
 obtain⟨t1,t2,t3,t4⟩:=t;unfold zEL;simp only[v1,f1,e1,obs]
 cases hv:zAz (.mk t1 t2 t3 t4) with
 | false=>exact⟨_,1,rfl,.arg hv⟩
 | true =>
  simp only[Bool.not_true,cond_false]
  cases b with
  | false=>exact⟨_,4,rfl,.form hv fun h=>by have:=f2.2 h; cases this⟩
  | true =>
   have hf:=f2.1 rfl;simp only[Bool.not_true,cond_false,rowS,if_pos hv]
   cases hfd:zBx (.mk t1 t2 t3 t4) row with
   | none=>exact⟨_,8,rfl,.none hv hf hfd⟩
   | some r =>
    have hr':=zXa hfd;have hsm:=hr'.small;have hwr:=zGt r;obtain⟨l',e,c1,c2⟩:=zPU n r.kids k row a m nodes slot old text hf (by omega) (by omega) (by omega)
    obtain⟨r1,r2,r3,r4⟩:=r;simp only[Nd.kids]at c1 c2 hwr;simp only[obs,show((0:Int) != 0)=false from rfl,cond_false,c1]
    by_cases he:e=0
    ·subst he;have hcw:=c2.w;have hv2:=hval _ l' hr' (by omega)
     simp only[show((0:Int) != 0)=false from rfl,cond_false,hput _ l' hr',obs]
     cases hvo:zAz (putL (.mk t1 t2 t3 t4) row (rowN l')) with
     | false =>
      have hL:=App.limit (t:=.mk t1 t2 t3 t4) (o:=(k,row,a,m,nodes,slot,old,text)) hv hf hr' c2 hvo;generalize putL (Nd.mk t1 t2 t3 t4) row (rowN l')=Z at *;obtain⟨q1,q2,q3,q4⟩:=Z;simp only[obs,hv2,hvo,Bool.not_false,cond_true]
      exact⟨_,6,rfl,hL⟩
     | true =>
      have hO:=App.ok (t:=.mk t1 t2 t3 t4) (o:=(k,row,a,m,nodes,slot,old,text)) hv hf hr' c2 hvo;dsimp only at hO;generalize putL (Nd.mk t1 t2 t3 t4) row (rowN l')=Z at *;obtain⟨q1,q2,q3,q4⟩:=Z;simp only[obs,hv2,hvo,Bool.not_true,cond_false]
      exact⟨_,0,rfl,hO⟩
    ·have:(e != 0)=true:=bne_iff_ne.2 he;simp only[this,cond_true]
     exact⟨_,e,rfl,.chg (t:=.mk t1 t2 t3 t4) (o:=(k,row,a,m,nodes,slot,old,text)) hv hf hr' c2 he⟩
theorem Chg.det {l l1 l2:List Nd}{o:Op8}{e1 e2:Int} (hf:FormP o) (h1:Chg l o l1 e1) (h2:Chg l o l2 e2):l1=l2/\e1=e2:=by
 obtain⟨k,row,a,m,nodes,slot,old,text⟩:=o;have hnn:=zSz hf;cases h1 with
 | range h =>
  cases h2 with
  | range=>exact⟨rfl,rfl⟩
  | ins h'=>simp only[zDN,if_true]at h; omega
  | del h'=>simp only[zDN]at h; simp at h; omega
  | del_no h'=>simp only[zDN]at h; simp at h; omega
  | wrap h'=>simp only[zDN]at h; simp at h; omega
  | unwrap h'=>have:=(List.getElem?_eq_some_iff.1 h').1; simp only[zDN]at h; simp at h; omega
  | unwrap_no h'=>exact⟨rfl,by have:=(List.getElem?_eq_some_iff.1 h').1; simp only[zDN]at h; simp at h; omega⟩
  | set h'=>have:=(List.getElem?_eq_some_iff.1 h').1; simp only[zDN]at h; simp at h; omega
  | set_no h'=>exact⟨rfl,by have:=(List.getElem?_eq_some_iff.1 h').1; simp only[zDN]at h; simp at h; omega⟩
 | ins h' =>
  generalize ha:((_:Nat):Int)=a' at h2;cases h2 with
  | range h=>simp only[zDN,if_true]at h; omega
  | ins h=>obtain rfl:=Int.ofNat.inj ha; exact⟨rfl,rfl⟩
 | del h' he =>
  generalize ha:((_:Nat):Int)=a' at h2;cases h2 with
  | range h=>simp only[zDN]at h; simp at h; omega
  | del h=>obtain rfl:=Int.ofNat.inj ha; exact⟨rfl,rfl⟩
  | del_no h he'=>obtain rfl:=Int.ofNat.inj ha; exact absurd he he'
 | del_no h' he =>
  generalize ha:((_:Nat):Int)=a' at h2;cases h2 with
  | range h=>simp only[zDN]at h; simp at h; omega
  | del h he'=>obtain rfl:=Int.ofNat.inj ha; exact absurd he' he
  | del_no h he'=>exact⟨rfl,rfl⟩
 | wrap h' =>
  generalize ha:((_:Nat):Int)=a' at h2;generalize hm:((_:Nat):Int)=m' at h2;generalize hs:((_:Nat):Int)=s' at h2;cases h2 with
  | range h=>simp only[zDN]at h; simp at h; omega
  | wrap h=>obtain rfl:=Int.ofNat.inj ha; obtain rfl:=Int.ofNat.inj hm; obtain rfl:=Int.ofNat.inj hs; exact⟨rfl,rfl⟩
 | unwrap h' hz hm he =>
  generalize ha:((_:Nat):Int)=a' at h2;generalize hs:((_:Nat):Int)=s' at h2;cases h2 with
  | range h=>have:=(List.getElem?_eq_some_iff.1 h').1; simp only[zDN]at h; simp at h; omega
  | unwrap h hz2 =>
   obtain rfl:=Int.ofNat.inj ha; obtain rfl:=Int.ofNat.inj hs
   rw[h']at h; cases h
   rw[hz]at hz2; cases hz2
   exact⟨rfl,rfl⟩
  | unwrap_no h hz2 =>
   obtain rfl:=Int.ofNat.inj ha; obtain rfl:=Int.ofNat.inj hs
   rw[h']at h; cases h
   exact absurd he (hz2 _ hz hm)
 | unwrap_no h' hz =>
  generalize ha:((_:Nat):Int)=a' at h2;generalize hs:((_:Nat):Int)=s' at h2;cases h2 with
  | range h=>exact⟨rfl,by have:=(List.getElem?_eq_some_iff.1 h').1; simp only[zDN]at h; simp at h; omega⟩
  | unwrap h hz2 hm he =>
   obtain rfl:=Int.ofNat.inj ha; obtain rfl:=Int.ofNat.inj hs
   rw[h']at h; cases h
   exact absurd he (hz _ hz2 hm)
  | unwrap_no h hz2=>exact⟨rfl,rfl⟩
 | set h' hl he =>
  generalize ha:((_:Nat):Int)=a' at h2;cases h2 with
  | range h=>have:=(List.getElem?_eq_some_iff.1 h').1; simp only[zDN]at h; simp at h; omega
  | set h=>obtain rfl:=Int.ofNat.inj ha; rw[h']at h; cases h; exact⟨rfl,rfl⟩
  | set_no h hl2=>obtain rfl:=Int.ofNat.inj ha; rw[h']at h; cases h; exact absurd ⟨hl,he⟩ hl2
 | set_no h' hl =>
  generalize ha:((_:Nat):Int)=a' at h2;cases h2 with
  | range h=>exact⟨rfl,by have:=(List.getElem?_eq_some_iff.1 h').1; simp only[zDN]at h; simp at h; omega⟩
  | set h hl2 he=>obtain rfl:=Int.ofNat.inj ha; rw[h']at h; cases h; exact absurd ⟨hl2,he⟩ hl
  | set_no h hl2=>exact⟨rfl,rfl⟩
theorem Fd.det {t r1 r2:Nd}{p:List Int} (h1:Fd t p r1) (h2:Fd t p r2):r1=r2:=Option.some.inj (h1.find.symm.trans h2.find)
theorem App.det {t t1 t2:Nd}{o:Op8}{e1 e2:Int} (h1:App t o t1 e1) (h2:App t o t2 e2):t1=t2/\e1=e2:=by
 have tf:∀ {b:Bool},b=true->b=false->False:=fun h h'=>by rw[h]at h'; cases h'
 have fn:∀ {r:Nd} {p:List Int},Fd t p r->zBx t p=Option.none->False:=fun h h'=>by rw[h.find]at h'; cases h'
 cases h1 with
 | arg h=>cases h2 with
  | arg h'=>exact⟨rfl,rfl⟩
  | form h'=>exact(tf h' h).elim
  | none h'=>exact(tf h' h).elim
  | chg h'=>exact(tf h' h).elim
  | limit h'=>exact(tf h' h).elim
  | ok h'=>exact(tf h' h).elim
 | form h hf=>cases h2 with
  | arg h'=>exact(tf h h').elim
  | form h'=>exact⟨rfl,rfl⟩
  | none h' hf'=>exact absurd hf' hf
  | chg h' hf'=>exact absurd hf' hf
  | limit h' hf'=>exact absurd hf' hf
  | ok h' hf'=>exact absurd hf' hf
 | none h hf hn=>cases h2 with
  | arg h'=>exact(tf h h').elim
  | form h' hf'=>exact absurd hf hf'
  | none=>exact⟨rfl,rfl⟩
  | chg h' hf' hr=>exact(fn hr hn).elim
  | limit h' hf' hr=>exact(fn hr hn).elim
  | ok h' hf' hr=>exact(fn hr hn).elim
 | chg h hf hr hc he=>cases h2 with
  | arg h'=>exact(tf h h').elim
  | form h' hf'=>exact absurd hf hf'
  | none h' hf' hn=>exact(fn hr hn).elim
  | chg h' hf' hr' hc' he'=>obtain rfl:=hr.det hr'; exact⟨rfl,(hc.det hf hc').2⟩
  | limit h' hf' hr' hc'=>obtain rfl:=hr.det hr'; exact absurd (hc.det hf hc').2 he
  | ok h' hf' hr' hc'=>obtain rfl:=hr.det hr'; exact absurd (hc.det hf hc').2 he
 | limit h hf hr hc hv=>cases h2 with
  | arg h'=>exact(tf h h').elim
  | form h' hf'=>exact absurd hf hf'
  | none h' hf' hn=>exact(fn hr hn).elim
  | chg h' hf' hr' hc' he'=>obtain rfl:=hr.det hr'; exact absurd (hc'.det hf hc).2 he'
  | limit h' hf' hr' hc'=>exact⟨rfl,rfl⟩
  | ok h' hf' hr' hc' hv'=>obtain rfl:=hr.det hr'; obtain rfl:=(hc.det hf hc').1; exact(tf hv' hv).elim
 | ok h hf hr hc hv=>cases h2 with
  | arg h'=>exact(tf h h').elim
  | form h' hf'=>exact absurd hf hf'
  | none h' hf' hn=>exact(fn hr hn).elim
  | chg h' hf' hr' hc' he'=>obtain rfl:=hr.det hr'; exact absurd (hc'.det hf hc).2 he'
  | limit h' hf' hr' hc' hv'=>obtain rfl:=hr.det hr'; obtain rfl:=(hc.det hf hc').1; exact(tf hv hv').elim
  | ok h' hf' hr' hc' hv'=>obtain rfl:=hr.det hr'; obtain rfl:=(hc.det hf hc').1; exact⟨rfl,rfl⟩
def lens:List (List Nd)->Nat
 | []=>0
 | a::L=>a.length+lens L
theorem zRb {L:List (List Nd)}{i:Nat} (h:i<L.length):lens (L.drop i)=(L[i]).length+lens (L.drop (i+1)):=by
 rw[List.drop_eq_getElem_cons h]; rfl
theorem zUI {L:List (List Nd)} (hl:L.length<=1073741824):∀ (k i s:Nat),L.length - i<k->i<=L.length->s+lens (L.drop i)<=1073741824->zAL L k (i:Int) (s:Int)=some ((s+lens (L.drop i):Nat):Int)
 | 0,i,s,h,_,_=>by omega
 | k+1,i,s,hk,hi,hs=>by
  unfold zAL
  by_cases h:i<L.length
  ·have hd:=zRb h;rw[zAB (Int.ofNat_lt.2 h),cond_true,zAT h]
   simp only[obs]
   rw[wrap64_in (n:=(s:Int)+((L[i]).length:Int)) (by omega) (by omega),zAA (by omega),cond_false,zAE (by omega),← Int.natCast_add,zUI hl k (i+1) _ (by omega) (by omega) (by omega),hd]
   congr 2; omega
  ·rw[zAA (by omega),cond_false]
   have:L.drop i=[]:=List.drop_eq_nil_iff.2 (by omega)
   rw[this]; rfl
theorem zUJ {L:List (List Nd)} (hl:L.length<=1073741824):∀ (k i:Nat) (s:List Nd),L.length - i<k->i<=L.length->s.length+lens (L.drop i)<=1073741824->zAM L k (i:Int) s=some (s++(L.drop i).flatten)
 | 0,i,s,h,_,_=>by omega
 | k+1,i,s,hk,hi,hs=>by
  unfold zAM
  by_cases h:i<L.length
  ·have hd:=zRb h;rw[zAB (Int.ofNat_lt.2 h),cond_true,zAT h]
   simp only[obs]
   rw[zBn (by omega),zAE (by omega),zUJ hl k (i+1) _ (by omega) (by omega) (by rw[List.length_append]; omega),List.drop_eq_getElem_cons h,List.flatten_cons,List.append_assoc]
  ·rw[zAA (by omega),cond_false]
   have:L.drop i=[]:=List.drop_eq_nil_iff.2 (by omega)
   rw[this]; simp
theorem zUK (n:Nat) (L:List (List Nd)) (hn:L.length<n) (hl:L.length<=1073741824) (hs:lens L<=1073741824):zBJ n L=some L.flatten:=by
 have e1:=zUI hl n 0 0 (by omega) (by omega) (by simpa using hs)
 have e2:=zUJ hl n 0 [] (by omega) (by omega) (by simpa using hs)
 rw[show((0:Nat):Int)=0 from rfl]at e1 e2;unfold zBJ zD6;simp only[e1,obs,List.drop_zero,Nat.zero_add]
 simp only[List.drop_zero,List.nil_append]at e2;rw[zBn ⟨by omega,by omega⟩]
 simp only[obs,e2]
theorem zXc (n:Nat) (k:Int) (row:List Int) (p y:Nat) (m:Int) (nodes:List Nd) (slot:Int) (old text:List UInt8) (l b:List Nd) (hn:10<n) (hp:p+y<=l.length) (hl:l.length<=500000000) (hb:b.length<=500000000) :
  zAP n ((k,row,(p:Int),m,nodes,slot,old,text),l) (y:Int) b=some (splS l p (p+y) b):=by
 unfold zAP;dsimp only;rw[zBn ⟨by omega,by omega,by omega⟩,wrap64_in (n:=(p:Int)+(y:Int)) (by omega) (by omega),← Int.natCast_add,zBn ⟨by omega,by omega,by omega⟩]
 have e1:(l.take (p:Int).toNat).drop (0:Int).toNat=l.take p :=(by simp);have e2:(l.take (l.length:Int).toNat).drop ((p+y:Nat):Int).toNat=l.drop (p+y) :=(by rw[Int.toNat_natCast,Int.toNat_natCast,List.take_length]);rw[e1,e2,zUK n _ (by simp; omega) (by simp) (by simp only[lens,List.length_take,List.length_drop]; omega)]
 simp only[obs,splS,List.flatten_cons,List.flatten_nil,List.append_nil,List.append_assoc]
theorem zP0 {l:List Nd}{it z:Nd}{s:Nat} (hl:zEe 1 l=true) (hit:it∈l) (hz:it.kids[s]? = some z):it.kind ≠ 1/\z=rowN z.kids:=by
 obtain⟨f1,f2⟩:=zGT hl hit;have hk:(it.kind == 1)=false :=(by simpa using f2);obtain⟨i1,i2,i3,i4⟩:=it;simp only[Nd.kind]at hk;simp only[Nd.kids]at hz;obtain⟨g1,g2⟩:=zGT (zMr f1) (List.mem_of_getElem? hz)
 rw[hk]at g2;have hz1:z.kind=1:=by
  cases e:z.kind == 1 with
  | true=>exact eq_of_beq e
  | false=>rw[e]at g2; cases g2
 exact⟨beq_eq_false_iff_ne.1 hk,(zTj g1 hz1).1⟩
theorem zQ5 {l:List Nd}{it:Nd} (hl:zEe 1 l=true) (hit:it∈l):it.kind ≠ 1:=by
 obtain⟨_,f2⟩:=zGT hl hit;exact beq_eq_false_iff_ne.1 (by simpa using f2)
theorem zJw {l:List Nd} (h:zAz (rowN l)=true):zEe 1 l=true:=by
 have:=(zKi h).2;exact this
theorem zS8 (v:Nd) (h:v.kind ≠ 1):zDs v=some (v.kids.length:Int):=by
 obtain⟨a,b,c,d⟩:=v;unfold zDs;simp only[Nd.kind]at h;simp only[zC3 h,cond_false,Nd.kids]
theorem zGo (n:Nat) (nodes:List Nd) (h:Nd.ws nodes+50<n) (hb:Nd.ws nodes<=67000000):zB3 n nodes=some (zAz (rowN nodes)):=by
 unfold zB3;dsimp only;rw[zCp n _ (by simp only[Nd.w,List.length_nil]; omega) (by simp only[Nd.w,List.length_nil]; omega)]; rfl
theorem zQP (n:Nat) (l:List Nd) (slot:Int) (h:Nd.ws l+50<n) (hb:Nd.ws l<=67000000):∃ b,zC2 n l slot=some b/\(b=true↔zS9 l slot):=by
 unfold zC2;dsimp only;cases e1:((l.length:Int) != 1) with
 | true=>exact⟨false,rfl,(fun h=>by cases h),fun⟨v,s,z,h,_⟩=>by rw[h]at e1; cases e1⟩
 | false =>
  have hl:l.length=1:=by
   by_cases h:(l.length:Int)=1
   ·omega
   ·rw[bne_iff_ne.2 h]at e1; cases e1
  obtain⟨v,rfl⟩:=List.length_eq_one_iff.1 hl;have hv:=zGo n [v] h hb;have h0:at? [v] (0:Int)=some v:=rfl;simp only[cond_false,hv,obs]
  cases hvb:zAz (rowN [v]) with
  | false=>exact⟨false,rfl,(fun h=>by cases h),fun⟨v',s,z,h,_,h2,_⟩=>by cases h; rw[hvb]at h2; cases h2⟩
  | true =>
   have hsl:=zS8 v (zQ5 (zJw hvb) List.mem_cons_self)
   obtain⟨a,b,c,d⟩:=v;simp only[Nd.kids]at hsl;simp only[Bool.not_true,cond_false]
   by_cases h1:slot<0
   ·rw[zAB h1]
    exact⟨false,rfl,(fun h=>by cases h),fun⟨v,s,z,h,hs,_⟩=>by omega⟩
   ·rw[zAA h1]
    simp only[cond_false,h0,obs,hsl]
    by_cases h2:(d.length:Int)<=slot
    ·rw[zAB h2]
     refine⟨false,rfl,(fun h=>by cases h),fun⟨v,s,z,h,hs,_,hz,_⟩=>?_⟩
     cases h;have:=(List.getElem?_eq_some_iff.1 hz).1;simp only[Nd.kids]at this
     omega
    ·rw[zAA h2]
     obtain⟨p,rfl,hp,hg⟩:=zWE (l:=d) (i:=slot) (by omega) (by omega)
     have hz:d[p]? = some d[p]:=List.getElem?_eq_getElem hp;rw[hg]
     generalize d[p]=z at hz;obtain⟨x1,x2,x3,x4⟩:=z;simp only[cond_false,obs]
     refine⟨_,rfl,fun h=>⟨_,p,_,rfl,rfl,hvb,hz,?_⟩,fun⟨v,s,z,h,hs,_,hz',hk⟩=>?_⟩
     ·have:=eq_of_beq h;exact List.eq_nil_of_length_eq_zero (by simp only[Nd.kids]; omega)
     ·cases h;obtain rfl:p=s :=(by omega);simp only[Nd.kids]at hz';rw[hz]at hz';cases hz';simp only[Nd.kids]at hk;subst hk
      rfl
theorem zNH (n:Nat) (k:Int) (row:List Int) (a m:Int) (nodes:List Nd) (slot:Int) (old text:List UInt8) (h:Nd.ws nodes+50<n) (hb:Nd.ws nodes<=67000000) :
  ∃ b,zEq n (k,row,a,m,nodes,slot,old,text)=some b/\(b=true↔FormP (k,row,a,m,nodes,slot,old,text)):=by
 have hv:=zGo n nodes h hb;obtain⟨tb,t1,t2⟩:=zQP n nodes slot h hb;have hlen:decide (0<(nodes.length:Int))=true↔nodes ≠ [] :=(by cases nodes <;> simp);have hlen0:((nodes.length:Int) == 0)=true↔nodes=[] :=(by cases nodes <;> simp <;> omega);have htx:(bif (!(old == [])) then some true else some (!(text == [])):Option Bool)=some (!((old == [])&&(text == []))) :=(by cases old == [] <;> cases text == [] <;> rfl);unfold zEq;simp only[hv,t1,htx,obs,FormP]
 by_cases k12:k=1∨k=2
 ·have e:(bif (k == 1) then some (k == 1) else some (k == 2):Option Bool)=some true:=by rcases k12 with rfl | rfl <;> rfl
  have hk:¬ (k=3∨k=4)/\¬ k=5 :=(by omega);rw[e]
  simp only[obs,cond_true,k12,hk.1,hk.2,true_and,false_and,or_false]
  rw[← hlen]
  generalize decide (0<(nodes.length:Int))=b1;generalize zAz (rowN nodes)=b2;cases e1:m == 0 <;> simp only[cond_true,cond_false,obs]
  ·exact⟨false,rfl,by simp[beq_eq_false_iff_ne.1 e1]⟩
  cases e2:slot == 0 <;> simp only[cond_true,cond_false,obs]
  ·exact⟨false,rfl,by simp[beq_eq_false_iff_ne.1 e2]⟩
  cases e3:old == [] <;> simp only[Bool.false_and,Bool.true_and,Bool.not_false,Bool.not_not,cond_true,cond_false,obs]
  ·exact⟨false,rfl,by simp[beq_eq_false_iff_ne.1 e3]⟩
  cases e4:text == [] <;> simp only[Bool.not_true,Bool.not_false,cond_true,cond_false,obs]
  ·exact⟨false,rfl,by simp[beq_eq_false_iff_ne.1 e4]⟩
  rw[eq_of_beq e1,eq_of_beq e2,eq_of_beq e3,eq_of_beq e4]
  cases b1 <;> cases b2 <;> exact⟨_,rfl,by simp⟩
 ·have e:(bif (k == 1) then some (k == 1) else some (k == 2):Option Bool)=some false:=by
   rw[zC3 (fun h=>k12 (.inl h)),zC3 (fun h=>k12 (.inr h))]; rfl
  rw[e]
  simp only[obs,cond_false,k12,false_and,false_or]
  by_cases k34:k=3∨k=4
  ·have e:(bif (k == 3) then some (k == 3) else some (k == 4):Option Bool)=some true:=by rcases k34 with rfl | rfl <;> rfl
   have hk:¬ k=5 :=(by omega);rw[e]
   simp only[obs,cond_true,k34,hk,true_and,false_and,or_false]
   rw[← t2]
   by_cases hm:0<=m
   ·rw[zAB hm]
    simp only[cond_true]
    cases e3:old == [] <;> simp only[Bool.false_and,Bool.true_and,Bool.not_false,Bool.not_not,cond_true,cond_false,obs]
    ·exact⟨false,rfl,by simp[beq_eq_false_iff_ne.1 e3]⟩
    cases e4:text == [] <;> simp only[Bool.not_true,Bool.not_false,cond_true,cond_false,obs]
    ·exact⟨false,rfl,by simp[beq_eq_false_iff_ne.1 e4]⟩
    rw[eq_of_beq e3,eq_of_beq e4]
    exact⟨_,rfl,by simp[hm]⟩
   ·rw[zAA hm]
    exact⟨false,rfl,by simp[hm]⟩
  ·have e:(bif (k == 3) then some (k == 3) else some (k == 4):Option Bool)=some false:=by
    rw[zC3 (fun h=>k34 (.inl h)),zC3 (fun h=>k34 (.inr h))]; rfl
   rw[e]
   simp only[obs,cond_false,k34,false_and,false_or]
   by_cases k5:k=5
   ·subst k5;simp only[beq_self_eq_true,cond_true,obs,true_and]
    rw[← hlen0]
    generalize ((nodes.length:Int) == 0)=b1;cases e1:m == 0 <;> simp only[cond_true,cond_false,obs]
    ·exact⟨false,rfl,by simp[beq_eq_false_iff_ne.1 e1]⟩
    cases e2:slot == 0 <;> simp only[cond_true,cond_false,obs]
    ·exact⟨false,rfl,by simp[beq_eq_false_iff_ne.1 e2]⟩
    rw[eq_of_beq e1,eq_of_beq e2]
    cases b1 <;> simp only[cond_true,cond_false,obs]
    ·exact⟨false,rfl,by simp⟩
    cases e0:old == text <;> simp only[Bool.not_true,Bool.not_false]
    ·exact⟨true,rfl,by simp[beq_eq_false_iff_ne.1 e0]⟩
    ·exact⟨false,rfl,by simp[eq_of_beq e0]⟩
   ·rw[zC3 k5]
    exact⟨false,rfl,by simp[k5]⟩
theorem zUQ (k:Int) (row:List Int) (a m:Int) (nodes:List Nd) (slot:Int) (old text:List UInt8) (l:List Nd) (hl:l.length<=1073741824) :
  zBT ((k,row,a,m,nodes,slot,old,text),l)=some (if a<0∨(l.length:Int)<a∨(l.length:Int) - a<zDN k m nodes then 2 else 0):=by
 unfold zBT;dsimp only;rw[zTw]
 simp only[obs]
 by_cases h1:a<0
 ·rw[zAB h1,if_pos (.inl h1)]; rfl
 rw[zAA h1]
 by_cases h2:(l.length:Int)<a
 ·rw[zAB h2,if_pos (.inr (.inl h2))]; rfl
 rw[zAA h2,wrap64_in (n:=(l.length:Int) - a) (by omega) (by omega)]
 by_cases h3:(l.length:Int) - a<zDN k m nodes
 ·rw[zAB h3,if_pos (.inr (.inr h3))]; rfl
 rw[zAA h3,if_neg (fun h=>h.elim h1 fun h=>h.elim h2 h3)]; rfl
theorem zVX {v it z:Nd}{s:Nat}{y:Nd} (hv:v.kids[s]? = some y) (hy:y=rowN []) (hz:it.kids[s]? = some z) (hzr:z=rowN z.kids):Nd.mk it.kind it.text it.cols (it.kids.set s (rowN []))=v↔it=zHx v s z.kids:=by
 obtain⟨v1,v2,v3,v4⟩:=v;obtain⟨i1,i2,i3,i4⟩:=it;obtain⟨z1,z2,z3,z4⟩:=z;obtain⟨rfl,rfl,rfl,-⟩:=Nd.mk.inj hzr
 clear hzr
 simp only[Nd.kids]at hv hz;simp only[zHx,Nd.kind,Nd.text,Nd.cols,Nd.kids]
 subst hy
 constructor
 ·intro h;obtain⟨rfl,rfl,rfl,rfl⟩:=Nd.mk.inj h;rw[List.set_set]
  congr 1
  have:=zLH (y:=.mk 1 [] 0 z4) hz;rw[List.set_set]at this;exact this.symm
 ·intro h;obtain⟨rfl,rfl,rfl,rfl⟩:=Nd.mk.inj h;rw[List.set_set]
  congr 1
  have:=zLH (y:=rowN []) hv;rw[List.set_set]at this;exact this
theorem zMm (n:Nat) (l:List Nd) (k:Int) (row:List Int) (a m:Int) (nodes:List Nd) (slot:Int) (old text:List UInt8) (hf:FormP (k,row,a,m,nodes,slot,old,text)) (hv:zEe 1 l=true) (hn:2 * Nd.ws l+2 * Nd.ws nodes+50<n) (ha:Nd.ws l<=60000000) (hb:Nd.ws nodes<=2000000) :
  ∃ l' e,zB6 n ((k,row,a,m,nodes,slot,old,text),l)=some (l',e)/\Chg l (k,row,a,m,nodes,slot,old,text) l' e:=by
 have la:=Nd.ws_len l;have lb:=Nd.ws_len nodes;have cl:=Nd.cnts_ws l;have cb:=Nd.cnts_ws nodes;have hnn:=zSz hf;unfold zB6;simp only[zUQ _ _ _ _ _ _ _ _ l (show l.length<=1073741824 by omega),obs]
 by_cases hr:a<0∨(l.length:Int)<a∨(l.length:Int) - a<zDN k m nodes
 ·rw[if_pos hr]; exact⟨[],2,rfl,.range hr⟩
 rw[if_neg hr]
 simp only[show((0:Int) != 0)=false from rfl,cond_false]
 have h1:¬ a<0:=fun h=>hr (.inl h)
 have h2:¬ (l.length:Int)<a:=fun h=>hr (.inr (.inl h))
 have h3:¬ (l.length:Int) - a<zDN k m nodes:=fun h=>hr (.inr (.inr h))
 obtain⟨p,rfl⟩:=Int.eq_ofNat_of_zero_le (show 0<=a by omega)
 obtain⟨y,hy⟩:=Int.eq_ofNat_of_zero_le hnn;rw[hy]at h3;have hseg:=zWN l (Nat.le_add_right p y)
 have lseg:=Nd.ws_len ((l.take (p+y)).drop p)
 have cseg:=Nd.cnts_ws ((l.take (p+y)).drop p)
 have hj:∀ by':List Nd,by'.length<=500000000->zAP n ((k,row,(p:Int),m,nodes,slot,old,text),l) (y:Int) by'=some (splS l p (p+y) by'):=fun by' hby=>zXc n k row p y m nodes slot old text l by' (by omega) (by omega) (by omega) hby
 rcases hf with ⟨rfl | rfl,h0⟩ | ⟨rfl | rfl,hm,⟨v,s,z,rfl,rfl,hvv,hz,hzk⟩,_⟩ | ⟨rfl,h0⟩
 ·obtain rfl:y=0 :=(by have:zDN 1 m nodes=0:=rfl; omega);rw[show((0:Nat):Int)=0 from rfl]at hj;simp only[beq_self_eq_true,cond_true,zCC,hj nodes (by omega),obs]
  exact⟨_,0,rfl,.ins (by omega)⟩
 ·obtain rfl:y=nodes.length :=(by have:zDN 2 m nodes=(nodes.length:Int):=rfl; omega);obtain⟨r,g1,g2⟩:=(zHg n).2 ((l.take (p+nodes.length)).drop p) nodes (by omega) (by omega)
  simp only[show((2:Int) == 1)=false from rfl,cond_false,beq_self_eq_true,cond_true,zCD]
  rw[wrap64_in (n:=(p:Int)+(nodes.length:Int)) (by omega) (by omega),← Int.natCast_add,zBn ⟨by omega,by omega,by omega⟩,Int.toNat_natCast,Int.toNat_natCast,g1]
  simp only[obs]
  cases r with
  | false=>exact⟨[],7,rfl,.del_no (by omega) fun e=>by have:=g2.2 e; cases this⟩
  | true =>
   simp only[Bool.not_true,cond_false,hj [] (by simp),obs]
   exact⟨_,0,rfl,.del (by omega) (g2.1 rfl)⟩
 ·obtain rfl:m=(y:Int):=hy;obtain⟨hvk,hzr⟩:=zP0 (zJw hvv) List.mem_cons_self hz;rw[hzk]at hzr;have hv0:at? [v] (0:Int)=some v:=rfl;have hcv:=Nd.cnts_mem (List.mem_cons_self (a:=v) (l:=[]))
  have hd:zCF v=some v:=zBn ⟨by omega,fun e=>by rw[e]at hz; simp at hz⟩
  have hza:=zMi hz;have hcl:zDT ((l.take (p+y)).drop p)=some ((l.take (p+y)).drop p):=zBn (by omega)
  have hj':=hj [zHx v s ((l.take (p+y)).drop p)] (by simp)
  have hfx:zHx v s ((l.take (p+y)).drop p)=Nd.mk v.kind v.text v.cols (v.kids.set s (rowN ((l.take (p+y)).drop p))):=rfl;rw[hfx]at hj';have hC:=Chg.wrap (l:=l) (row:=row) (p:=p) (m:=y) (v:=v) (s:=s) (old:=old) (text:=text) (by omega)
  have hfx2:zHx v s (segS l p (p+y))=Nd.mk v.kind v.text v.cols (v.kids.set s (rowN ((l.take (p+y)).drop p))):=rfl;rw[hfx2]at hC;subst hzr;obtain⟨v1,v2,v3,v4⟩:=v;simp only[Nd.kind,Nd.text,Nd.cols,Nd.kids]at hza hj' hC;unfold rowN at hza;simp only[show((3:Int) == 1)=false from rfl,show((3:Int) == 2)=false from rfl,cond_false,beq_self_eq_true,cond_true,zDh,hv0,hd,obs]
  rw[wrap64_in (n:=(p:Int)+(y:Int)) (by omega) (by omega),← Int.natCast_add,zBn ⟨by omega,by omega,by omega⟩,Int.toNat_natCast,Int.toNat_natCast,hcl]
  simp only[obs,hza,Int.toNat_natCast]
  unfold rowN at hj' hC;rw[hj']
  exact⟨_,0,rfl,hC⟩
 ·obtain rfl:y=1 :=(by have:zDN 4 m [v]=1:=rfl; omega);obtain⟨hvk,hzr⟩:=zP0 (zJw hvv) List.mem_cons_self hz;rw[hzk]at hzr;have hv0:at? [v] (0:Int)=some v:=rfl;have hpl:p<l.length :=(by omega);have hit:l[p]? = some l[p]:=List.getElem?_eq_getElem hpl;have hia:at? l (p:Int)=some l[p]:=zAT hpl;have hmem:=List.getElem_mem hpl;generalize l[p]=it at hit hia hmem;have hiw:=Nd.w_mem hmem;have hic:=Nd.cnt_w it;have hik:=zQ5 hv hmem;have hslots:=zS8 it hik;have hdn:zBy it=some it:=zJc (by omega)
  have hwi:=zGt it;have hlk4:=Nd.ws_len it.kids;simp only[show((4:Int) == 1)=false from rfl,show((4:Int) == 2)=false from rfl,show((4:Int) == 3)=false from rfl,cond_false,beq_self_eq_true,cond_true]
  have hnone:zBf ((4,row,(p:Int),m,[v],(s:Int),old,text),l)=if (it.kids.length:Int)<=(s:Int) then some ([],7) else none:=by
   unfold zBf;simp only[hia]
   by_cases h:(it.kids.length:Int)<=(s:Int)
   ·rw[if_pos h]
    obtain⟨i1,i2,i3,i4⟩:=it;simp only[Nd.kids]at h hslots;simp only[obs,hdn,hslots,zAB h]; rfl
   ·rw[if_neg h]
    obtain⟨i1,i2,i3,i4⟩:=it;simp only[Nd.kids]at h hslots;simp only[obs,hdn,hslots,zAA h]; rfl
  by_cases hsl:(it.kids.length:Int)<=(s:Int)
  ·have:zA5 n ((4,row,(p:Int),m,[v],(s:Int),old,text),l)=some ([],7):=by
    unfold zA5;rw[hnone,if_pos hsl]
   rw[this]
   refine⟨[],7,rfl,.unwrap_no hit fun z' hz'=>?_⟩
   have:=(List.getElem?_eq_some_iff.1 hz').1
   omega
  have hsi:s<it.kids.length :=(by omega);have hzi:it.kids[s]? = some it.kids[s]:=List.getElem?_eq_getElem hsi;generalize it.kids[s]=z' at hzi;obtain⟨_,hzr'⟩:=zP0 hv hmem hzi;have hzw:=Nd.w_mem (List.mem_of_getElem? hzi)
  have hzw2:=zGt z';have hzl:=Nd.ws_len z'.kids;have hfi:=zVX hz hzr hzi hzr';have hws:=zNn (y:=rowN []) hzi;have hj':=hj z'.kids (by omega)
  rw[show((1:Nat):Int)=1 from rfl]at hj';have hcs:(Nd.mk it.kind it.text it.cols (it.kids.set s (rowN []))).cnt<=it.w+1:=by
   have h1:=Nd.cnt_w (Nd.mk it.kind it.text it.cols (it.kids.set s (rowN [])))
   have e:(rowN []).w=1:=rfl;simp only[Nd.w]at h1
   omega
  obtain⟨rb,g1,g2⟩:=(zHg n).1 (Nd.mk it.kind it.text it.cols (it.kids.set s (rowN []))) v (by omega) (by omega)
  have hdo:zCF it=some it:=zBn ⟨by omega,fun e=>by rw[e]at hzi; simp at hzi⟩
  have hza:=zMi hzi;have hkids:∃ l' e,zBe n ((4,row,(p:Int),m,[v],(s:Int),old,text),l)=some (l',e)/\Chg l (4,row,(p:Int),m,[v],(s:Int),old,text) l' e:=by
   unfold zBe;obtain⟨i1,i2,i3,i4⟩:=it;obtain⟨v1,v2,v3,v4⟩:=v;obtain⟨z1,z2,z3,z4⟩:=z';obtain⟨rfl,rfl,rfl,-⟩:=Nd.mk.inj hzr';simp only[Nd.kind,Nd.text,Nd.cols,Nd.kids]at hza g1 hslots hj' hsl;simp only[hia,obs,hdo,hslots,zAA hsl,cond_false,hza,hv0,Int.toNat_natCast]
   by_cases hmz:(z4.length:Int)=m
   ·have:((z4.length:Int) != m)=false :=(by unfold bne; rw[beq_iff_eq.2 hmz]; rfl);unfold rowN at g1;rw[this]
    simp only[cond_false,g1,obs]
    cases rb with
    | false =>
     refine⟨[],7,rfl,.unwrap_no hit fun z'' hz'' hm'' he=>?_⟩
     rw[hzi]at hz'';cases hz'';have:=g2.2 (hfi.2 he)
     cases this
    | true =>
     simp only[Bool.not_true,cond_false,hj',obs]
     exact⟨_,0,rfl,.unwrap (z:=.mk 1 [] 0 z4) hit hzi hmz (hfi.1 (g2.1 rfl))⟩
   ·have:((z4.length:Int) != m)=true:=bne_iff_ne.2 hmz;rw[this]
    refine⟨[],7,rfl,.unwrap_no hit fun z'' hz'' hm'' he=>?_⟩
    rw[hzi]at hz'';cases hz'';exact hmz hm''
  obtain⟨l',e,h4,h5⟩:=hkids;have:zA5 n ((4,row,(p:Int),m,[v],(s:Int),old,text),l)=some (l',e):=by
   unfold zA5;rw[hnone,if_neg hsl]
   exact h4
  rw[this]
  exact⟨l',e,rfl,h5⟩
 ·obtain rfl:y=1 :=(by have:zDN 5 m nodes=1:=rfl; omega);have hpl:p<l.length :=(by omega);have hit:l[p]? = some l[p]:=List.getElem?_eq_getElem hpl;have hia:at? l (p:Int)=some l[p]:=zAT hpl;generalize l[p]=it at hit hia;obtain⟨i1,i2,i3,i4⟩:=it;rw[show((1:Nat):Int)=1 from rfl]at hj;simp only[show((5:Int) == 1)=false from rfl,show((5:Int) == 2)=false from rfl,show((5:Int) == 3)=false from rfl,show((5:Int) == 4)=false from rfl,cond_false,zDF,hia,obs,zTn]
  cases hlf:zT2 i1 with
  | false=>exact⟨[],7,rfl,.set_no hit fun h=>by have:=h.1; simp only[Nd.kind]at this; rw[hlf]at this; cases this⟩
  | true =>
   simp only[cond_true,obs]
   cases ht:i2 == old with
   | false=>exact⟨[],7,rfl,.set_no hit fun h=>beq_eq_false_iff_ne.1 ht h.2⟩
   | true =>
    simp only[Bool.not_true,cond_false,hj [Nd.mk i1 text i3 i4] (by simp),obs]
    exact⟨_,0,rfl,.set (it:=.mk i1 i2 i3 i4) hit hlf (eq_of_beq ht)⟩
theorem zJU (n:Nat) (t:Nd) (o:Op8) (hn:200000000<n) (ht:t.w<=50000000) (hb:Nd.ws o.nodes<=2000000) (hx:o.2.2.2.2.2.2.2.length<=2000000):∃ t' e,zEf n t o=some (t',e)/\App t o t' e:=by
 obtain⟨k,row,a,m,nodes,slot,old,text⟩:=o;simp only[Op8.nodes]at hb;dsimp only at hx;have v1:=zCp n t (by omega) (by omega)
 have ct:=Nd.cnt_w t;obtain⟨b,f1,f2⟩:=zNH n k row a m nodes slot old text (by omega) (by omega)
 have e1:=zSB n t row v1 (by omega)
 have hwith:∀ r l,Fd t row r->Nd.ws l<=5000000+r.w->zEI n t row (rowN l)=some (zS6 t row (rowN l)):=fun r l h hl=>by
  have hs:=h.small;have hc:(rowN l).w=Nd.ws l+1 :=(by simp[rowN,Nd.w]);refine zRh n t row (rowN l) v1 (zCp n _ (by omega) (by omega)) (fun z hz=>?_) (by omega) (by have:=Nd.cnt_w (rowN l); omega)
  obtain rfl:=h.det hz;have:=h.w (rowN l)
  exact zCp n _ (by omega) (by omega)
 obtain⟨t1,t2,t3,t4⟩:=t;unfold zEf;simp only[v1,f1,e1,obs]
 cases hv:zAz (.mk t1 t2 t3 t4) with
 | false=>exact⟨_,1,rfl,.arg hv⟩
 | true =>
  simp only[Bool.not_true,cond_false]
  cases b with
  | false=>exact⟨_,4,rfl,.form hv fun h=>by have:=f2.2 h; cases this⟩
  | true =>
   have hf:=f2.1 rfl;simp only[Bool.not_true,cond_false,rowS,if_pos hv]
   cases hfd:zBx (.mk t1 t2 t3 t4) row with
   | none=>exact⟨_,8,rfl,.none hv hf hfd⟩
   | some r =>
    have hr':=zXa hfd;have hsm:=hr'.small;have hwr:=zGt r;have hvr:=hr'.valid hv;have hrr:=(zKi hvr).1;have hfr:=(zKi hvr).2;obtain⟨l',e,c1,c2⟩:=zMm n r.kids k row a m nodes slot old text hf hfr (by omega) (by omega) (by omega)
    obtain⟨r1,r2,r3,r4⟩:=r;obtain⟨rfl,rfl,rfl,-⟩:=Nd.mk.inj hrr;simp only[Nd.kids]at c1 c2 hwr;simp only[obs,show((0:Int) != 0)=false from rfl,cond_false,c1]
    by_cases he:e=0
    ·subst he;have hcw:=c2.w;have hw:=hwith _ l' hr' (by omega)
     unfold rowN at hw;simp only[show((0:Int) != 0)=false from rfl,cond_false,hw,obs]
     cases hvo:zAz (putL (.mk t1 t2 t3 t4) row (rowN l')) with
     | false =>
      have hL:=App.limit (t:=.mk t1 t2 t3 t4) (o:=(k,row,a,m,nodes,slot,old,text)) hv hf hr' c2 hvo;have hws:∃ q,zS6 (.mk t1 t2 t3 t4) row (.mk 1 [] 0 l')=(zDj,q)/\q ≠ 0:=by
       unfold zS6;rw[if_pos hv,hfd]
       dsimp only
       by_cases h:zAz (.mk 1 [] 0 l')=true
       ·rw[if_pos h]
        unfold rowN at hvo;rw[hvo,if_neg (by decide)]
        exact⟨6,rfl,by decide⟩
       ·rw[if_neg h]; exact⟨4,rfl,by decide⟩
      obtain⟨q,hq,hq0⟩:=hws;rw[hq]
      have:(q != 0)=true:=bne_iff_ne.2 hq0;simp only[zDj,this,cond_true]
      exact⟨_,6,rfl,hL⟩
     | true =>
      have hO:=App.ok (t:=.mk t1 t2 t3 t4) (o:=(k,row,a,m,nodes,slot,old,text)) hv hf hr' c2 hvo;have hvl:=(hr'.put (rowN l')).valid hvo;have hws:=zWC (r:=rowN l') hv hfd hvl hvo;unfold rowN at hws;rw[hws]
      dsimp only at hO;unfold rowN at hO;generalize putL (Nd.mk t1 t2 t3 t4) row (Nd.mk 1 [] 0 l')=Z at *;obtain⟨q1,q2,q3,q4⟩:=Z;exact⟨_,0,rfl,hO⟩
    ·have:(e != 0)=true:=bne_iff_ne.2 he;simp only[this,cond_true]
     exact⟨_,e,rfl,.chg (t:=.mk t1 t2 t3 t4) (o:=(k,row,a,m,nodes,slot,old,text)) hv hf hr' c2 he⟩
theorem App.w {t t':Nd}{o:Op8}{e:Int} (h:App t o t' e):t'.w<=t.w+Nd.ws o.nodes+o.2.2.2.2.2.2.2.length+4:=by
 have hz:zDj.w=1:=rfl;obtain⟨k,row,a,m,nodes,slot,old,text⟩:=o;simp only[Op8.nodes]
 cases h with
 | arg=>omega
 | form=>omega
 | none=>omega
 | chg=>omega
 | limit=>omega
 | @ok r l h hf hr hc hv =>
  have h1:=hr.w (rowN l)
  have h2:=hc.w;have h3:=zGt r;have h4:(rowN l).w=Nd.ws l+1 :=(by simp[rowN,Nd.w]);dsimp only at h1 ⊢
  omega
def Op8.row (o:Op8):List Int:=o.2.1
def Op8.text (o:Op8):List UInt8:=o.2.2.2.2.2.2.2
theorem zWX (n:Nat) (t:Nd) (o:Op8) (hn:200000000<n) (ht:t.w<=50000000) (hb:Nd.ws o.nodes<=2000000) (hx:o.text.length<=2000000) (hr:o.row.length<=2000000) :
  ∃ t' e,zEf n t o=some (t',e)/\zEL n t o=some (t',e)/\App t o t' e:=by
 obtain⟨t1,e1,f1,g1⟩:=zJU n t o hn ht hb hx;obtain⟨t2,e2,f2,g2⟩:=zRJ n t o hn ht hb hx hr;obtain⟨rfl,rfl⟩:=g1.det g2;exact⟨_,_,f1,f2,g1⟩
inductive Runs:Nd->List Op8->Nd->Int->Prop
 | nil (t:Nd):Runs t [] t 0
 | stop {t t':Nd} {o:Op8} {ops:List Op8} {e:Int} (h:App t o t' e) (he:e ≠ 0):Runs t (o::ops) zDj e
 | next {t t' u:Nd} {o:Op8} {ops:List Op8} {e:Int} (h:App t o t' 0) (hr:Runs t' ops u e):Runs t (o::ops) u e
def endOf (f:Fl (Nd×Int×Int) (Int×List UInt8×Int×List Nd)):Nd×Int×Int:=match f with
 | .ret r=>r
 | .go (a,b,c,d)=>(.mk a b c d,0,0)
theorem zTb (n:Nat) (hn:200000000<n){ops:List Op8} (ho:∀ o∈ops,Nd.ws o.nodes+o.text.length+o.row.length<=1048576) (hl:ops.length<=12):∀ (k i:Nat) (t:Nd),ops.length - i<k->i<=ops.length->t.w<=17000000+i * 1048580 ->
  ∃ f,zAW n ops k t.kind t.text t.cols t.kids (i:Int)=some f/\zBA n ops k t.kind t.text t.cols t.kids (i:Int)=some f/\Runs t (ops.drop i) (endOf f).1 (endOf f).2.2/\(endOf f).1.w<=36000000
 | 0,i,t,h,_,_=>by omega
 | k+1,i,t,h,hi,hw=>by
  unfold zAW zBA
  by_cases hj:i<ops.length
  ·have hb:=ho _ (List.getElem_mem hj)
   have hd:=List.drop_eq_getElem_cons hj;obtain⟨t',e,g1,g2,g3⟩:=zWX n t ops[i] hn (by omega) (by omega) (by omega) (by omega)
   have hw':=g3.w;rw[zAB (Int.ofNat_lt.2 hj),zAT hj,hd]
   simp only[cond_true]
   generalize ops[i]=o at *;obtain⟨q1,q2,q3,q4,q5,q6,q7,q8⟩:=o;obtain⟨t1,t2,t3,t4⟩:=t;have ih:=zTb n hn ho hl k (i+1) t' (by omega) (by omega) (by simp only[Op8.text]at hb; dsimp only at hw' hb; simp only[Nat.add_mul]; omega)
   obtain⟨u1,u2,u3,u4⟩:=t';simp only[Nd.kind,Nd.text,Nd.cols,Nd.kids]at ih ⊢;simp only[obs,g1,g2]
   by_cases he:e=0
   ·subst he;simp only[show((0:Int) != 0)=false from rfl,cond_false,zAE (show i<9223372036854775807 by omega)]
    obtain⟨f,h1,h2,h3,h4⟩:=ih;exact⟨f,h1,h2,.next g3 h3,h4⟩
   ·have hne:(e != 0)=true:=bne_iff_ne.2 he;simp only[hne,cond_true]
    exact⟨_,rfl,rfl,.stop g3 he,by show zDj.w<=36000000; decide⟩
  ·rw[zAA (by omega),List.drop_eq_nil_iff.2 (by omega)]
   obtain⟨t1,t2,t3,t4⟩:=t;simp only[cond_false]
   refine⟨_,rfl,rfl,.nil _,?_⟩
   show(Nd.mk t1 t2 t3 t4).w<=36000000;have:i * 1048580<=12 * 1048580:=Nat.mul_le_mul_right _ (by omega)
   omega
inductive zVL (t:Nd) (ops:List Op8):Nd->Int->Prop
 | bad (h:zAz t=false):zVL t ops zDj 1
 | go {u:Nd} {e:Int} (h:zAz t=true) (hr:Runs t ops u e):zVL t ops u e
theorem zXF (n:Nat) (t:Nd) (ops:List Op8) (hn:200000000<n) (ht:t.w<=17000000) (ho:∀ o∈ops,Nd.ws o.nodes+o.text.length+o.row.length<=1048576) (hl:ops.length<=12) :
  ∃ u i e,zBF n t ops=some (u,i,e)/\zDa n t ops=some (u,i,e)/\zVL t ops u e/\u.w<=36000000:=by
 have ct:=Nd.cnt_w t;have v1:=zCp n t (by omega) (by omega)
 have v2:=zEi n t (by omega) (by omega)
 have hd:zBy t=some t:=zJc (by omega)
 obtain⟨f,h1,h2,h3,h4⟩:=zTb n hn ho hl n 0 t (by omega) (by omega) (by omega)
 rw[show((0:Nat):Int)=0 from rfl]at h1 h2;rw[List.drop_zero]at h3;obtain⟨t1,t2,t3,t4⟩:=t;simp only[Nd.kind,Nd.text,Nd.cols,Nd.kids]at h1 h2;unfold zBF zDa;simp only[v1,v2,obs,hd,h1,h2]
 cases hv:zAz (.mk t1 t2 t3 t4) with
 | false=>exact⟨_,0,1,rfl,rfl,.bad hv,by decide⟩
 | true =>
  simp only[Bool.not_true,cond_false]
  cases f with
  | ret r =>
   obtain⟨u,i,e⟩:=r;exact⟨u,i,e,rfl,rfl,.go hv h3,h4⟩
  | go g =>
   obtain⟨a,b,c,d⟩:=g;exact⟨_,0,0,rfl,rfl,.go hv h3,h4⟩
theorem zVz (l b:List Nd){p q:Nat} (hp:p<=l.length):segS (splS l p q b) p (p+b.length)=b:=by
 have h:(l.take p).length=p :=(by rw[List.length_take]; omega);unfold segS splS;rw[List.append_assoc,List.take_append,List.take_of_length_le (by omega),h,show p+b.length - p=b.length by omega,List.take_left,List.drop_append,List.drop_of_length_le (by omega),h,Nat.sub_self]
 rfl
theorem zNd (l b c:List Nd){p q:Nat} (hp:p<=l.length):splS (splS l p q b) p (p+b.length) c=splS l p q c:=by
 have h:(l.take p).length=p :=(by rw[List.length_take]; omega);unfold splS;have e1:((l.take p++b)++l.drop q).take p=l.take p:=by
  rw[List.append_assoc,List.take_append,h,Nat.sub_self,List.take_take,Nat.min_self]; simp
 have e2:((l.take p++b)++l.drop q).drop (p+b.length)=l.drop q:=by
  rw[List.drop_append,List.length_append,h,Nat.sub_self,List.drop_of_length_le (by rw[List.length_append,h]; omega)]; simp
 rw[e1,e2]
theorem zNc (l:List Nd){p q:Nat} (hpq:p<=q):splS l p q (segS l p q)=l:=by
 unfold splS segS;have:l.take p++(l.take q).drop p=l.take q:=by
  have h:=List.take_append_drop p (l.take q)
  rw[List.take_take,Nat.min_eq_left hpq]at h;exact h
 rw[this,List.take_append_drop]
theorem zS3 (l b:List Nd){p q:Nat} (hp:p<=q) (hq:q<=l.length):(splS l p q b).length+(q - p)=l.length+b.length:=by
 unfold splS;simp only[List.length_append,List.length_take,List.length_drop]
 omega
theorem zXu (l:List Nd){p q:Nat} (hp:p<=q) (hq:q<=l.length):(segS l p q).length=q - p:=by
 unfold segS;simp only[List.length_take,List.length_drop]
 omega
theorem zWM {l:List Nd}{p:Nat}{it:Nd} (h:l[p]? = some it):segS l p (p+1)=[it]:=by
 have:=zS1 l (List.getElem?_eq_some_iff.1 h).1;rw[segS,this,(List.getElem?_eq_some_iff.1 h).2]
theorem zWO (l:List Nd){p q:Nat} (x:Nd) (hp:p<=l.length):(splS l p q [x])[p]? = some x:=by
 have h:(l.take p).length=p :=(by rw[List.length_take]; omega);unfold splS;rw[List.append_assoc,List.getElem?_append_right (by omega),h,Nat.sub_self]; rfl
theorem cnt_kids (v:Nd):v.cnt=Nd.cnts v.kids+1:=by cases v; simp only[Nd.cnt,Nd.kids]; try omega
def invO:Op8->Op8
 | (k,row,a,m,nodes,slot,old,text) =>
  (if k=1 then 2 else if k=2 then 1 else if k=3 then 4 else if k=4 then 3 else k,row,a,m,nodes,slot,if k=5 then text else old,if k=5 then old else text)
theorem FormP.inv {o:Op8} (h:FormP o):FormP (invO o):=by
 obtain⟨k,row,a,m,nodes,slot,old,text⟩:=o;rcases h with ⟨rfl | rfl,h⟩ | ⟨rfl | rfl,h⟩ | ⟨rfl,h1,h⟩
 ·exact .inl ⟨.inr rfl,h⟩
 ·exact .inl ⟨.inl rfl,h⟩
 ·exact .inr (.inl ⟨.inr rfl,h⟩)
 ·exact .inr (.inl ⟨.inl rfl,h⟩)
 ·exact .inr (.inr ⟨rfl,Ne.symm h1,h⟩)
theorem Chg.inv {l l':List Nd}{o:Op8} (hf:FormP o) (h:Chg l o l' 0):Chg l' (invO o) l 0:=by
 obtain⟨k,row,a,m,nodes,slot,old,text⟩:=o;cases h with
 | @ins _ p _ _ _ _ _ h =>
  have hl:=zS3 l nodes (Nat.le_refl p) h;have h1:=zVz l nodes (q:=p) h;have h2:=zNd l nodes [] (q:=p) h;have h3:=zNc l (Nat.le_refl p)
  have h4:segS l p p=[] :=(by unfold segS; simp);rw[h4]at h3;have:=Chg.del (l:=splS l p p nodes) (row:=row) (p:=p) (m:=m) (nodes:=nodes) (slot:=slot) (old:=old) (text:=text) (by omega) h1;rw[h2,h3]at this;exact this
 | @del _ p _ _ _ _ _ h he =>
  have hl:=zS3 l [] (Nat.le_add_right p nodes.length) h;have h2:=zNd l [] nodes (q:=p+nodes.length) (p:=p) (by omega)
  have h3:=zNc l (Nat.le_add_right p nodes.length)
  rw[he]at h3;simp only[List.length_nil,Nat.add_zero]at h2;have:=Chg.ins (l:=splS l p (p+nodes.length) []) (row:=row) (p:=p) (m:=m) (nodes:=nodes) (slot:=slot) (old:=old) (text:=text) (by simp only[List.length_nil]at hl; omega)
  rw[h2,h3]at this;exact this
 | @wrap _ p m v s _ _ h =>
  have ht:zS9 [v] (s:Int):=by
   rcases hf with ⟨h0 | h0,_⟩ | ⟨_,_,h0,_⟩ | ⟨h0,_⟩
   ·cases h0
   ·cases h0
   ·exact h0
   ·cases h0
  obtain⟨v',s',z,e1,e2,_,hz,hk⟩:=ht;cases e1;obtain rfl:=Int.ofNat.inj e2;have h1:=zWO l (q:=p+m) (zHx v s (segS l p (p+m))) (p:=p) (by omega)
  have h2:=zNd l [zHx v s (segS l p (p+m))] (segS l p (p+m)) (q:=p+m) (p:=p) (by omega)
  rw[zNc l (Nat.le_add_right p m)]at h2;have hk2:(zHx v s (segS l p (p+m))).kids[s]? = some (rowN (segS l p (p+m))):=zRS hz;have hm:((rowN (segS l p (p+m))).kids.length:Int)=(m:Int):=by
   have:=zXu l (Nat.le_add_right p m) h;show((segS l p (p+m)).length:Int)=m
   omega
  have:=Chg.unwrap (row:=row) (v:=v) (old:=old) (text:=text) h1 hk2 hm rfl;rw[show(rowN (segS l p (p+m))).kids=segS l p (p+m) from rfl]at this;simp only[List.length_cons,List.length_nil,Nat.zero_add]at h2;rw[h2]at this;exact this
 | @unwrap _ p _ v it z s _ _ h hz hm he =>
  have hp:=(List.getElem?_eq_some_iff.1 h).1;have hl:=zS3 l z.kids (Nat.le_add_right p 1) (by omega)
  have h1:=zVz l z.kids (q:=p+1) (p:=p) (by omega)
  have h2:=zNd l z.kids [zHx v s z.kids] (q:=p+1) (p:=p) (by omega)
  have h3:=zNc l (Nat.le_add_right p 1)
  rw[zWM h,he]at h3;rw[h3]at h2;subst hm;have:=Chg.wrap (l:=splS l p (p+1) z.kids) (row:=row) (p:=p) (m:=z.kids.length) (v:=v) (s:=s) (old:=old) (text:=text) (by omega)
  rw[h1,h2]at this;exact this
 | @set _ p _ _ it _ _ _ h hl he =>
  have hp:=(List.getElem?_eq_some_iff.1 h).1;have h1:=zWO l (q:=p+1) (.mk it.kind text it.cols it.kids) (p:=p) (by omega)
  have h2:=zNd l [.mk it.kind text it.cols it.kids] [it] (q:=p+1) (p:=p) (by omega)
  have h3:=zNc l (Nat.le_add_right p 1)
  rw[zWM h]at h3;rw[h3]at h2;simp only[List.length_cons,List.length_nil,Nat.zero_add]at h2;have:=Chg.set (row:=row) (m:=m) (nodes:=nodes) (slot:=slot) (old:=text) (text:=old) h1 hl rfl;obtain⟨i1,i2,i3,i4⟩:=it;have he:i2=old:=he;subst he;simp only[Nd.kind,Nd.cols,Nd.kids]at this h2;rw[h2]at this;exact this
theorem zPj (o:Op8):(invO o).2.1=o.2.1:=rfl
theorem App.inv {t t':Nd}{o:Op8} (h:App t o t' 0):App t' (invO o) t 0/\zAz t'=true:=by
 cases h with
 | chg h hf hr hc he=>exact absurd rfl he
 | @ok r l h hf hr hc hv =>
  have hrr:=(zKi (hr.valid h)).1;have hput:=hr.put (rowN l)
  have hb:=hr.back (rowN l)
  have hci:=hc.inv hf;have:App (putL t o.2.1 (rowN l)) (invO o) (putL (putL t o.2.1 (rowN l)) (invO o).2.1 (rowN r.kids)) 0:=by
   refine App.ok hv hf.inv (r:=rowN l) (by rw[zPj]; exact hput) hci ?_;rw[zPj,show rowN r.kids=r from hrr.symm,hb]
   exact h
  rw[zPj,show rowN r.kids=r from hrr.symm,hb]at this;exact⟨this,hv⟩
theorem zGa {t:Nd} (h:zAz t=true):t.kind=1/\zFZ t=true/\t.cnt<=1000/\t.dep<=24:=by
 unfold zAz at h;simp only[Bool.and_eq_true,decide_eq_true_eq]at h;exact⟨eq_of_beq h.1,h.2⟩
def opw (o:Op8):Nat:=Nd.ws o.nodes+o.text.length+4
def sw:List Op8->Nat
 | []=>0
 | o::l=>opw o+sw l
theorem zWP:∀ l:List Op8,4 * l.length<=sw l
 | []=>Nat.zero_le _
 | o::l=>by
  have:=zWP l;simp only[List.length_cons,sw,opw]
  omega
theorem zQV (n:Nat) (hn:200000000<n){ops:List Op8} (hl:ops.length<=10000000) (ho:∀ o∈ops,opw o<=1900000):∀ (k i:Nat) (t:Nd),ops.length - i<k->i<=ops.length->t.w+sw (ops.drop i)<=40000000 ->
  ∃ f,zAW n ops k t.kind t.text t.cols t.kids (i:Int)=some f/\Runs t (ops.drop i) (endOf f).1 (endOf f).2.2/\((endOf f).2.2=0->(endOf f).2.1=0)
 | 0,i,t,h,_,_=>by omega
 | k+1,i,t,h,hi,hw=>by
  unfold zAW
  by_cases hj:i<ops.length
  ·have hd:=List.drop_eq_getElem_cons hj;have hs:=ho _ (List.getElem_mem hj)
   rw[hd]at hw;simp only[sw]at hw;unfold opw at hw hs;obtain⟨t',e,g1,g3⟩:=zJU n t ops[i] hn (by omega) (by omega) (by simp only[Op8.text]at hs; omega)
   have hw':=g3.w;rw[zAB (Int.ofNat_lt.2 hj),zAT hj,hd]
   simp only[cond_true]
   generalize ops[i]=o at *;obtain⟨q1,q2,q3,q4,q5,q6,q7,q8⟩:=o;obtain⟨t1,t2,t3,t4⟩:=t;have ih:=zQV n hn hl ho k (i+1) t' (by omega) (by omega) (by simp only[Op8.text]at hw; dsimp only at hw' hw; omega)
   obtain⟨u1,u2,u3,u4⟩:=t';simp only[Nd.kind,Nd.text,Nd.cols,Nd.kids]at ih ⊢;simp only[obs,g1]
   by_cases he:e=0
   ·subst he;simp only[show((0:Int) != 0)=false from rfl,cond_false,zAE (show i<9223372036854775807 by omega)]
    obtain⟨f,h1,h3,h4⟩:=ih;exact⟨f,h1,.next g3 h3,h4⟩
   ·have hne:(e != 0)=true:=bne_iff_ne.2 he;simp only[hne,cond_true]
    exact⟨_,rfl,.stop g3 he,fun h=>absurd h he⟩
  ·rw[zAA (by omega),List.drop_eq_nil_iff.2 (by omega)]
   obtain⟨t1,t2,t3,t4⟩:=t;simp only[cond_false]
   exact⟨_,rfl,.nil _,fun _=>rfl⟩
theorem zW7 (n:Nat) (t:Nd) (ops:List Op8) (hn:200000000<n) (hw:t.w+sw ops<=40000000) (ho:∀ o∈ops,opw o<=1900000) :
  ∃ u i e,zBF n t ops=some (u,i,e)/\zVL t ops u e/\(e=0->i=0):=by
 have ct:=Nd.cnt_w t;have sl:=zWP ops;have v1:=zCp n t (by omega) (by omega)
 have hd:zBy t=some t:=zJc (by omega)
 obtain⟨f,h1,h3,h4⟩:=zQV n hn (ops:=ops) (by omega) ho n 0 t (by omega) (by omega) (by rw[List.drop_zero]; exact hw)
 rw[show((0:Nat):Int)=0 from rfl]at h1;rw[List.drop_zero]at h3;obtain⟨t1,t2,t3,t4⟩:=t;simp only[Nd.kind,Nd.text,Nd.cols,Nd.kids]at h1;unfold zBF;simp only[v1,obs,hd,h1]
 cases hv:zAz (.mk t1 t2 t3 t4) with
 | false=>exact⟨_,0,1,rfl,.bad hv,fun h=>by cases h⟩
 | true =>
  simp only[Bool.not_true,cond_false]
  cases f with
  | ret r =>
   obtain⟨u,i,e⟩:=r;exact⟨u,i,e,rfl,.go hv h3,h4⟩
  | go g =>
   obtain⟨a,b,c,d⟩:=g;exact⟨_,0,0,rfl,.go hv h3,fun _=>rfl⟩
theorem Runs.app {t u v:Nd}{a b:List Op8}{e:Int} (h:Runs t a u 0) (h2:Runs u b v e):Runs t (a++b) v e:=by
 generalize hz:(0:Int)=z at h
 induction h with
 | nil t=>exact h2
 | stop h he=>exact absurd hz.symm he
 | next h hr ih=>exact .next h (ih h2 hz)
theorem Runs.back {t u:Nd}{ops:List Op8} (h:Runs t ops u 0) (hv:zAz t=true):Runs u (ops.map invO).reverse t 0/\zAz u=true:=by
 generalize hz:(0:Int)=z at h
 induction h with
 | nil t=>exact⟨.nil t,hv⟩
 | stop h he=>exact absurd hz.symm he
 | next h hr ih =>
  subst hz;obtain⟨h1,h2⟩:=h.inv;obtain⟨h3,h4⟩:=ih h2 rfl;rw[List.map_cons,List.reverse_cons]
  exact⟨h3.app (.next h1 (.nil _)),h4⟩
theorem Runs.det {t u u':Nd}{ops:List Op8}{e e':Int} (h:Runs t ops u e) (h':Runs t ops u' e'):u=u'/\e=e':=by
 induction h generalizing u' e' with
 | nil t=>cases h'; exact⟨rfl,rfl⟩
 | stop h he =>
  cases h' with
  | stop g hg=>exact⟨rfl,(h.det g).2⟩
  | next g hr=>exact absurd (h.det g).2 he
 | next h hr ih =>
  cases h' with
  | stop g hg=>exact absurd (h.det g).2.symm hg
  | next g hr' =>
   obtain⟨rfl,_⟩:=h.det g;exact ih hr'
theorem zWz {k:Int}{t:List UInt8} (h:zRW k t=true):t.length<=200:=by
 unfold zRW at h
 by_cases k2:k=2
 ·rw[if_pos k2]at h;unfold symB at h
  by_cases h1:t.length=1
  ·omega
  ·rw[if_neg h1]at h;simp only[Bool.and_eq_true,decide_eq_true_eq]at h
   omega
 rw[if_neg k2]at h
 by_cases k3:k=3
 ·rw[if_pos k3]at h;unfold numB at h;simp only[Bool.and_eq_true,decide_eq_true_eq]at h
  omega
 rw[if_neg k3]at h
 by_cases k4:k=4
 ·rw[if_pos k4]at h;simp only[Bool.and_eq_true,decide_eq_true_eq]at h;exact h.1
 rw[if_neg k4]at h
 by_cases k10:k=10
 ·rw[if_pos k10]at h;obtain⟨e,he,h2⟩:=List.any_eq_true.1 h;rw[← eq_of_beq h2]
  have:∀ e∈acL,e.length<=200 :=(by decide);exact this e he
 rw[if_neg k10]at h
 by_cases k11:k=11
 ·rw[if_pos k11]at h;unfold fenB at h;simp only[Bool.and_eq_true,decide_eq_true_eq]at h
  omega
 rw[if_neg k11]at h;rw[eq_of_beq h]
 exact Nat.zero_le _
mutual
theorem zWJ:∀ t:Nd,zFZ t=true->t.w+1<=202 * t.cnt
 | .mk k t c ks,h=>by
  simp only[zFZ,Bool.and_eq_true]at h
  have h1:=zWz h.1.1
  have h2:=zUU ks k h.2
  simp only[Nd.w,Nd.cnt]
  omega
theorem zUU:∀ (l:List Nd) (k:Int),zEe k l=true->Nd.ws l<=202 * Nd.cnts l
 | [],_,_=>Nat.zero_le _
 | v::l,k,h=>by
  simp only[zEe,Bool.and_eq_true]at h
  have h1:=zWJ v h.1.2
  have h2:=zUU l k h.2
  simp only[Nd.ws,Nd.cnts]
  omega
end
theorem zP6 {t:Nd} (h:zAz t=true):t.w<=202000:=by
 obtain⟨k,f,c,d⟩:=zGa h;have:=zWJ t f
 omega
structure OSmall (l:List Op8):Prop where
 size:sw l<=20000000
 op:∀ o∈l,opw o<=1900000
 isize:sw (l.map invO)<=20000000
 oi:∀ o∈l,opw (invO o)<=1900000
 row:∀ o∈l,o.row.length<=16777216
theorem OSmall.apply {l:List Op8} (h:OSmall l) (n:Nat){t:Nd} (hn:200000000<n) (hv:zAz t=true):∃ u i e,zBF n t l=some (u,i,e)/\Runs t l u e/\(e=0->i=0):=by
 have hw:=zP6 hv;have h1:=h.size;obtain⟨u,i,e,g1,g2,g3⟩:=zW7 n t l hn (by omega) h.op;cases g2 with
 | bad g=>rw[hv]at g; cases g
 | go _ g=>exact⟨u,i,e,g1,g,g3⟩
abbrev Cur:=List Int×List Int
abbrev Rc:=List Op8×Cur×Cur
theorem zUs {t:Nd} (h:zAz t=true):zBy t=some t:=by
 have h1:=zP6 h;have h2:=Nd.cnt_w t;exact zJc (by omega)
def zJ0 (o:Op8):Nat:=Nd.ws o.nodes+o.2.2.2.2.2.2.1.length+o.text.length+o.row.length
structure RFew (r:Rc):Prop where
 len:r.1.length<=12
 bulk:∀ o∈r.1,zJ0 o<=1048576
 b1:r.2.1.1.length<=16777216
 b2:r.2.1.2.length<=16777216
 a1:r.2.2.1.length<=16777216
 a2:r.2.2.2.length<=16777216
theorem zXX {l:List Op8}{b:Nat}:(∀ o∈l,opw o<=b)->sw l<=l.length * b:=by
 induction l with
 | nil=>intro _; exact Nat.zero_le _
 | cons o l ih =>
  intro h;have h1:=h o List.mem_cons_self;have h2:=ih fun o ho=>h o (List.mem_cons_of_mem _ ho)
  simp only[sw,List.length_cons,Nat.succ_mul]
  omega
theorem zWb (o:Op8):opw o<=zJ0 o+4:=by unfold opw zJ0; omega
theorem zWa (o:Op8):opw (invO o)<=zJ0 o+4:=by
 obtain⟨k,row,a,m,nodes,slot,old,text⟩:=o;unfold opw zJ0 invO;simp only[Op8.nodes,Op8.text,Op8.row]
 by_cases h:k=5
 ·rw[if_pos h]; omega
 ·rw[if_neg h]; omega
theorem RFew.osmall {r:Rc} (h:RFew r):OSmall r.1:=by
 have h1:∀ o∈r.1,opw o<=1048580:=fun o ho=>by have:=h.bulk o ho; have:=zWb o; omega
 have h2:∀ o∈r.1.map invO,opw o<=1048580:=fun o ho=>by
  obtain⟨o',ho',rfl⟩:=List.mem_map.1 ho;have:=h.bulk o' ho'; have:=zWa o'; omega
 have s1:=zXX h1;have s2:=zXX h2;rw[List.length_map]at s2;have hl:=h.len;have hm:r.1.length * 1048580<=12 * 1048580:=Nat.mul_le_mul_right _ hl;exact⟨by omega,fun o ho=>by have:=h1 o ho; omega,by omega,fun o ho=>by have:=h2 (invO o) (List.mem_map_of_mem ho); omega,fun o ho=>by have:=h.bulk o ho; unfold zJ0 at this; omega⟩
theorem RFew.ref {r:Rc} (h:RFew r) (n:Nat) (hn:200000000<n){t:Nd} (hv:zAz t=true):∃ u i e,zDa n t r.1=some (u,i,e)/\Runs t r.1 u e:=by
 have hw:=zP6 hv;obtain⟨u,i,e,_,g2,g3,_⟩:=zXF n t r.1 hn (by omega) (fun o ho=>by have:=h.bulk o ho; unfold zJ0 at this; omega) h.len;cases g3 with
 | bad g=>rw[hv]at g; cases g
 | go _ g=>exact⟨u,i,e,g2,g⟩
theorem zXl (p:List Int) (i:Int) (hp:p.length<=4000000):zMA p [i]=some (p++[i]):=by
 unfold zMA;dsimp only;rw[zBn (by simp only[List.length_cons,List.length_nil]; omega)]
theorem zWF {l:List Nd}{n:Nat}{v:Nd} (h:l[n]? = some v):at? l (n:Int)=some v:=by
 obtain⟨h1,rfl⟩:=List.getElem?_eq_some_iff.1 h;exact zAT h1
theorem zUN {l:List Nd}{q:Nat}{v:Nd} (h:l[q]? = some v):l.drop q=v::l.drop (q+1):=by
 obtain⟨h1,rfl⟩:=List.getElem?_eq_some_iff.1 h;exact List.drop_eq_getElem_cons h1
abbrev AllF:=Nd->List Int->Option (List (List Int))
theorem zQH (F:AllF) (kids:List Nd) (p:List Int) (i:Nat) (x:Nd) (hx:kids[i]? = some x) (hp:p.length<=3000000) (hk:x.kids.length<=1000000)
  (hF:∀ (s:Nat) (u:Nd),x.kids[s]? = some u->F u (p++[(i:Int),(s:Int)])=some (posU (p++[(i:Int),(s:Int)]) u)) :
  ∀ (k s:Nat) (l:List (List Int)),x.kids.length - s<k->s<=x.kids.length->l.length+(posS p i s (x.kids.drop s)).length<=4000000 ->
   zDy F kids p (i:Int) k (s:Int) l=some (l++posS p i s (x.kids.drop s))
 | 0,s,l,h,_,_=>by omega
 | k+1,s,l,h,hs,hl=>by
  unfold zDy;rw[zWF hx]
  by_cases hj:s<x.kids.length
  ·have g:x.kids[s]? = some x.kids[s]:=List.getElem?_eq_getElem hj;generalize x.kids[s]=u at *;rw[zUN g]at hl ⊢;rw[posS]at hl ⊢;rw[List.length_append]at hl;have e1:=hF s u g;have ih:=zQH F kids p i x hx hp hk hF k (s+1) (l++posU (p++[(i:Int),(s:Int)]) u) (by omega) (by omega) (by rw[List.length_append]; omega)
   have at2:=zWF g;have hlen:(x.kids.length:Int)=(x.kids.length:Int):=rfl;obtain⟨x1,x2,x3,x4⟩:=x;obtain⟨u1,u2,u3,u4⟩:=u;simp only[Nd.kids]at *;simp only[obs,zAB (Int.ofNat_lt.2 hj),cond_true,at2]
   rw[zBn (by rw[List.length_nil]; omega),zBn (by simp only[List.length_cons,List.length_nil]; omega),e1]
   simp only[obs]
   rw[zBn (by omega),zAE (by omega),ih,List.append_assoc]
  ·have e:x.kids.drop s=[]:=List.drop_of_length_le (by omega)
   rw[e,posS]
   obtain⟨x1,x2,x3,x4⟩:=x;simp only[Nd.kids]at hj hs;simp only[obs]
   rw[zAA (by omega),cond_false,List.append_nil]
theorem zQG (F:AllF) (N:Nat) (kids:List Nd) (p:List Int) (hp:p.length<=3000000) (hc:Nd.cnts kids<=1000000) (hN:Nd.cnts kids+1<N)
  (hF:∀ (i s:Nat) (x u:Nd),kids[i]? = some x->x.kids[s]? = some u->F u (p++[(i:Int),(s:Int)])=some (posU (p++[(i:Int),(s:Int)]) u)) :
  ∀ (k i:Nat) (l:List (List Int)),kids.length - i+1<k->i<=kids.length->l.length+(posI p i (kids.drop i)).length<=4000000 ->
   zDx F N kids p k (i:Int) l=some (l++posI p i (kids.drop i))
 | 0,i,l,h,_,_=>by omega
 | k+1,i,l,h,hi,hl=>by
  have hlk:=Nd.cnts_len kids;unfold zDx;rw[zAB (by omega),cond_true,zXl p i (by omega)]
  simp only[obs]
  by_cases hj:i<kids.length
  ·have g:kids[i]? = some kids[i]:=List.getElem?_eq_getElem hj;generalize kids[i]=x at *;have mx:=Nd.cnts_mem (List.mem_of_getElem? g)
   have kx:=x.cnt_kids;have lx:=Nd.cnts_len x.kids;have hX:posX p i x=posS p i 0 x.kids :=(by cases x; rw[posX]; rfl);rw[zUN g]at hl ⊢;rw[posI,hX]at hl ⊢;rw[List.length_cons,List.length_append]at hl;rw[zBn (by simp only[List.length_cons,List.length_nil]; omega),zC3 (by omega),cond_false]
   have e2:=zQH F kids p i x g hp (by omega) (fun s u hu=>hF i s x u g hu) N 0 (l++[p++[(i:Int)]]) (by omega) (Nat.zero_le _) (by rw[List.drop_zero,List.length_append]; simp only[List.length_cons,List.length_nil]; omega)
   rw[show((0:Nat):Int)=0 from rfl,List.drop_zero]at e2;rw[e2]
   simp only[obs]
   have ih:=zQG F N kids p hp hc hN hF k (i+1) (l++[p++[(i:Int)]]++posS p i 0 x.kids) (by omega) (by omega) (by simp only[List.length_append,List.length_cons,List.length_nil]; omega)
   rw[zAE (by omega),ih]
   simp only[List.append_assoc,List.cons_append,List.nil_append]
  ·obtain rfl:i=kids.length :=(by omega);rw[List.drop_length,posI]at hl ⊢;rw[zBn (by simp only[List.length_cons,List.length_nil]at hl ⊢; omega),beq_self_eq_true,cond_true]
theorem zOE:∀ (n:Nat) (t:Nd) (p:List Int),t.cnt+1<n->t.cnt<=1000000->p.length+2 * t.cnt<=3000000->zDw n t p=some (posU p t)
 | 0,t,p,h,_,_=>by omega
 | n+1,t,p,h,hc,hp=>by
  have k1:=t.cnt_kids;have l1:=Nd.cnts_len t.kids;have hlen:=zPP p 0 t.kids;have hU:posU p t=posI p 0 t.kids :=(by cases t; rw[posU]; rfl);have e:=zQG (zDw n) n t.kids p (by omega) (by omega) (by omega) (fun i s x u hx hu=>by
   have m1:=Nd.cnts_mem (List.mem_of_getElem? hx)
   have m2:=Nd.cnts_mem (List.mem_of_getElem? hu)
   have c1:=x.cnt_kids;exact zOE n u _ (by omega) (by omega) (by simp only[List.length_append,List.length_cons,List.length_nil]; omega)) n 0 [] (by omega) (Nat.zero_le _) (by rw[List.drop_zero,List.length_nil]; omega)
  rw[show((0:Nat):Int)=0 from rfl,List.drop_zero,List.nil_append]at e;rw[hU]
  obtain⟨t1,t2,t3,t4⟩:=t;simp only[Nd.kids]at e ⊢;unfold zDw;simp only[e,obs]
theorem zUl (n:Nat) (t:Nd) (hv:zA6 n t=some (zAz t)) (hn:t.cnt+1<n) (hc:t.cnt<=1000000):zHV n t=some (bif zAz t then (posT t,0) else ([],1)):=by
 have e:=zOE n t [] hn hc (by rw[List.length_nil]; omega)
 unfold posT;obtain⟨t1,t2,t3,t4⟩:=t;unfold zHV;simp only[hv,e,obs]
 cases zAz (.mk t1 t2 t3 t4) <;> rfl
theorem zTf {a b:List Int} (ha:a.length<=1073741824):∀ (k i:Nat),a.length - i<k->i<=a.length->i<=b.length->a.take i=b.take i ->
  ∃ fl,zBS a b k (i:Int)=some fl/\((∃ z,fl = .ret z/\z ≠ 0/\a ≠ b)∨(fl = .go ()/\(a.length=b.length->a=b)))
 | 0,i,h,_,_,_=>by omega
 | k+1,i,h,hi,hb,ht=>by
  unfold zBS
  by_cases h1:i<a.length
  ·rw[zAB (Int.ofNat_lt.2 h1),cond_true]
   by_cases h2:i<b.length
   ·rw[zAB (Int.ofNat_lt.2 h2)]
    simp only[obs,cond_true,zAT h1,zAT h2]
    by_cases h3:a[i]<b[i]
    ·rw[zAB h3,cond_true]
     exact⟨_,rfl,.inl ⟨-1,rfl,by decide,fun e=>by subst e; omega⟩⟩
    ·rw[zAA h3,cond_false]
     by_cases h4:b[i]<a[i]
     ·rw[zAB h4,cond_true]
      exact⟨_,rfl,.inl ⟨1,rfl,by decide,fun e=>by subst e; omega⟩⟩
     ·rw[zAA h4,cond_false,zAE (by omega)]
      have he:a[i]=b[i] :=(by omega);refine zTf ha k (i+1) (by omega) (by omega) (by omega) ?_;rw[← List.take_append_getElem h1,← List.take_append_getElem h2,ht,he]
   ·rw[zAA (by omega)]
    simp only[obs,cond_false]
    exact⟨_,rfl,.inr ⟨rfl,fun e=>by omega⟩⟩
  ·rw[zAA (by omega),cond_false]
   simp only[obs,cond_false]
   refine⟨_,rfl,.inr ⟨rfl,fun e=>?_⟩⟩
   have:i=a.length :=(by omega);subst this;rw[List.take_length]at ht;rw[ht,List.take_of_length_le (by omega)]
theorem cmp_eq (n:Nat) (a b:List Int) (ha:a.length<=1073741824) (hn:a.length<n):∃ c,zEv n a b=some c/\(c=0↔a=b):=by
 obtain⟨fl,h1,h2⟩:=zTf (a:=a) (b:=b) ha n 0 (by omega) (Nat.zero_le _) (Nat.zero_le _) rfl;rw[show((0:Nat):Int)=0 from rfl]at h1;unfold zEv;dsimp only;rw[h1]
 rcases h2 with ⟨z,rfl,hz,hne⟩ | ⟨rfl,he⟩
 ·exact⟨z,rfl,fun h=>absurd h hz,fun h=>absurd h hne⟩
 ·simp only[obs]
  by_cases h3:a.length<b.length
  ·rw[zAB (Int.ofNat_lt.2 h3)]
   exact⟨-1,rfl,fun h=>(by omega),fun h=>(by subst h; omega)⟩
  ·rw[zAA (by omega),cond_false]
   by_cases h4:b.length<a.length
   ·rw[zAB (Int.ofNat_lt.2 h4)]
    exact⟨1,rfl,fun h=>(by omega),fun h=>(by subst h; omega)⟩
   ·rw[zAA (by omega),cond_false]
    exact⟨0,rfl,fun _=>he (by omega),fun _=>rfl⟩
theorem zTm (n:Nat) (pos:List Int) (L:List (List Int)) (hL:L.length<=1073741824) (hb:∀ q∈L,q.length<=1073741824/\q.length<n):∀ (k i:Nat),L.length - i<k->i<=L.length ->
  ∃ fl,zCy n pos L k (i:Int)=some fl/\((∃ j:Nat,fl = .ret ((j:Int),0)/\L[j]? = some pos)∨(fl = .go ()/\pos ∉ L.drop i))
 | 0,i,h,_=>by omega
 | k+1,i,h,hi=>by
  unfold zCy
  by_cases hj:i<L.length
  ·have hm:=hb _ (List.getElem_mem hj)
   obtain⟨c,h1,h2⟩:=cmp_eq n L[i] pos hm.1 hm.2;rw[zAB (Int.ofNat_lt.2 hj),cond_true,zAT hj]
   simp only[obs,h1]
   by_cases hc:c=0
   ·subst hc;exact⟨_,rfl,.inl ⟨i,rfl,by rw[List.getElem?_eq_getElem hj,h2.1 rfl]⟩⟩
   ·rw[zC3 hc,cond_false,zAE (by omega)]
    obtain⟨fl,g1,g2⟩:=zTm n pos L hL hb k (i+1) (by omega) (by omega)
    refine⟨fl,g1,g2.imp id fun⟨g3,g4⟩=>⟨g3,fun hm'=>?_⟩⟩
    rw[List.drop_eq_getElem_cons hj]at hm';rcases List.mem_cons.1 hm' with hm' | hm'
    ·exact hc (h2.2 hm'.symm)
    ·exact g4 hm'
  ·rw[zAA (by omega),cond_false,List.drop_of_length_le (by omega)]
   exact⟨_,rfl,.inr ⟨rfl,fun h=>by cases h⟩⟩
theorem zVd {t:Nd} (hv:zAz t=true){q:List Int} (h:q∈posT t):q.length<=49:=by
 obtain⟨k,f,c,d⟩:=zGa hv;have h1:=zUV q t.kids ((zPn t q).1 h)
 have e:t.dep=Nd.deps t.kids+1:=by cases t; rfl
 omega
theorem zRH (n:Nat) (t:Nd) (pos:List Int) (hv:zA6 n t=some (zAz t)) (hn:2000<n) (hc:t.cnt+1<n) (hc2:t.cnt<=1000000):∃ i e,zEK n t pos=some (i,e)/\((e=0/\zAz t=true/\∃ j:Nat,i=(j:Int)/\(posT t)[j]? = some pos)∨(e ≠ 0/\(zAz t=true->pos ∉ posT t))):=by
 have e1:=zUl n t hv hc hc2;have hlen:=zWf t;cases hvt:zAz t with
 | false =>
  rw[hvt]at e1;obtain⟨t1,t2,t3,t4⟩:=t;refine⟨0,1,?_,.inr ⟨by decide,fun h=>by cases h⟩⟩
  unfold zEK;simp only[e1,cond_false,obs]
  rfl
 | true =>
  rw[hvt]at e1;obtain⟨k,f,c,d⟩:=zGa hvt;obtain⟨fl,g1,g2⟩:=zTm n pos (posT t) (by omega) (fun q hq=>by have:=zVd hvt hq; omega) n 0 (by omega) (Nat.zero_le _)
  rw[show((0:Nat):Int)=0 from rfl]at g1;rw[List.drop_zero]at g2;generalize posT t=L at *;obtain⟨t1,t2,t3,t4⟩:=t;unfold zEK;simp only[e1,cond_true,obs,show((0:Int) != 0)=false from rfl,cond_false,g1]
  rcases g2 with ⟨j,rfl,hj⟩ | ⟨rfl,hj⟩
  ·exact⟨_,_,rfl,.inl ⟨rfl,trivial,j,rfl,hj⟩⟩
  ·exact⟨_,_,rfl,.inr ⟨by decide,fun _=>hj⟩⟩
theorem zRI (n:Nat) (t:Nd) (pos:List Int) (hv:zA6 n t=some (zAz t)) (hn:2000<n) (hc:t.cnt+1<n) (hc2:t.cnt<=1000000):∃ b,zD4 n t pos=some b/\(b=true↔zAz t=true/\inL t.kids pos):=by
 obtain⟨i,e,h1,h2⟩:=zRH n t pos hv hn hc hc2;refine⟨e == 0,?_,?_⟩
 ·obtain⟨t1,t2,t3,t4⟩:=t;unfold zD4;simp only[h1,obs]
 ·rw[beq_iff_eq]
  rcases h2 with ⟨rfl,g1,j,rfl,g2⟩ | ⟨g1,g2⟩
  ·exact⟨fun _=>⟨g1,(zPn t pos).1 (List.mem_of_getElem? g2)⟩,fun _=>rfl⟩
  ·exact⟨fun h=>absurd h g1,fun⟨h,h'⟩=>absurd ((zPn t pos).2 h') (g2 h)⟩
theorem zSS (n:Nat) (o:Op8) (hn:200<n):∃ b,zHW n o=some b:=by
 obtain⟨k,row,a,m,nodes,slot,old,text⟩:=o;obtain⟨b,e,_⟩:=zWD n (.mk 1 [] 0 nodes) 100 (by omega) (by omega)
 rw[show((100:Nat):Int)=100 from rfl]at e;unfold zHW zCU;simp only[e,obs]
 cases b with
 | true=>exact⟨_,rfl⟩
 | false=>exact⟨_,rfl⟩
abbrev Dc:=List UInt8×Nd×List Rc×Int
theorem zVD (n:Nat) (s:List UInt8) (h:s.length<n) (hb:s.length<=1073741824):zEr n s=some (s.all zEz&&decide ((s.length:Int)<=200)):=by
 have:=zHe (p:=zEz) (l:=s) (zBs s) hb (fun k i h=>by
  rw[zBs,zAB (Int.ofNat_lt.2 h),cond_true,zAT h]
  simp only[obs,zMX]
  rw[zAE (by omega)]
  cases zEz s[i] <;> rfl) (fun k=>by rw[zBs,zAA (by omega)]; rfl) n 0 (by omega) (by omega)
 rw[show((0:Nat):Int)=0 from rfl,List.drop_zero]at this;rw[zEr,this]
 unfold zND;cases s.all zEz <;> rfl
theorem zUW:∀ (k:Nat) (l:List Int) (t:Nd),l.length<2 * k->l.length<=1073741824->∃ f,zBR k l t=some f /\
  ((f = .ret false/\¬ inL t.kids l)∨∃ l' t',f = .go (l',t')/\l'.length<3/\(inL t.kids l↔inL t'.kids l'))
 | 0,l,t,h,_=>by omega
 | k+1,l,⟨t1,t2,t3,t4⟩,h,hb=>by
  unfold zBR
  by_cases h3:3<=l.length
  ·rw[zAB (by omega),cond_true]
   obtain⟨i,s,r,rfl⟩:∃ i s r,l=i::s::r:=by
    match l,h3 with
    | i::s::r,_=>exact⟨i,s,r,rfl⟩
   have e0:at? (i::s::r) 0=some i:=rfl;have e1:at? (i::s::r) 1=some s:=rfl;rw[e0,e1]
   simp only[obs]
   have hin:=zF0 (l:=t4) (i:=i) (s:=s) (r:=r)
   by_cases c1:i<0
   ·rw[zAB c1]
    exact⟨_,rfl,.inl ⟨rfl,fun g=>by have:=(hin.1 g).1; omega⟩⟩
   rw[zAA c1]
   by_cases c2:(t4.length:Int)<=i
   ·rw[zAB c2]
    refine⟨_,rfl,.inl ⟨rfl,fun g=>?_⟩⟩
    obtain⟨_,x,g1,_⟩:=hin.1 g;have:=(List.getElem?_eq_some_iff.1 g1).1
    omega
   rw[zAA c2]
   by_cases c3:s<0
   ·rw[zAB c3]
    refine⟨_,rfl,.inl ⟨rfl,fun g=>?_⟩⟩
    obtain⟨_,x,_,g2,_⟩:=hin.1 g
    omega
   rw[zAA c3]
   obtain⟨a,rfl⟩:∃ a:Nat,i=(a:Int):=⟨i.toNat,by omega⟩
   obtain⟨b,rfl⟩:∃ a:Nat,s=(a:Int):=⟨s.toNat,by omega⟩
   have ha:a<t4.length :=(by omega);rw[zAT ha]
   have hx:t4[a]? = some t4[a]:=List.getElem?_eq_getElem ha;generalize t4[a]=x at hx;obtain⟨x1,x2,x3,x4⟩:=x;simp only[cond_false,obs]
   simp only[Int.toNat_natCast]at hin
   by_cases c4:(x4.length:Int)<=(b:Int)
   ·rw[zAB c4]
    refine⟨_,rfl,.inl ⟨rfl,fun g=>?_⟩⟩
    obtain⟨_,x,g1,_,u,g2,_⟩:=hin.1 g;obtain rfl:=Option.some.inj (hx.symm.trans g1)
    have:=(List.getElem?_eq_some_iff.1 g2).1;simp only[Nd.kids]at this
    omega
   rw[zAA c4]
   have hb':b<x4.length :=(by omega);have hu:x4[b]? = some x4[b]:=List.getElem?_eq_getElem hb';simp only[cond_false,zAT hb',obs]
   generalize x4[b]=u at hu;obtain⟨u1,u2,u3,u4⟩:=u;simp only[obs]
   rw[zBn (by simp only[List.length_cons]at h3 ⊢; omega)]
   have e3:((((a:Int)::(b:Int)::r).take (((((a:Int)::(b:Int)::r).length:Nat):Int)).toNat).drop (2:Int).toNat)=r:=by
    rw[Int.toNat_natCast,List.take_length]; rfl
   rw[e3]
   simp only[List.length_cons]at h hb;obtain⟨f,f1,f2⟩:=zUW k r (.mk u1 u2 u3 u4) (by omega) (by omega)
   have hiff:inL (Nd.mk t1 t2 t3 t4).kids ((a:Int)::(b:Int)::r)↔inL (Nd.mk u1 u2 u3 u4).kids r:=by
    simp only[Nd.kids]
    rw[hin]
    constructor
    ·rintro⟨_,x,g1,_,u,g2,g3⟩
     obtain rfl:=Option.some.inj (hx.symm.trans g1)
     obtain rfl:=Option.some.inj (hu.symm.trans g2)
     exact g3
    ·exact fun g=>⟨by omega,_,hx,by omega,_,hu,g⟩
   refine⟨f,f1,?_⟩
   rcases f2 with ⟨g1,g2⟩ | ⟨l',t',g1,g2,g3⟩
   ·exact .inl ⟨g1,fun g=>g2 (hiff.1 g)⟩
   ·exact .inr ⟨l',t',g1,g2,hiff.trans g3⟩
  ·rw[zAA (by omega)]
   exact⟨_,rfl,.inr ⟨_,_,rfl,by omega,Iff.rfl⟩⟩
theorem zX7 (n:Nat) (t:Nd) (l:List Int) (h:l.length<n) (hb:l.length<=1073741824):∃ b,zEt n t l=some b/\(b=true↔inL t.kids l):=by
 obtain⟨f,f1,f2⟩:=zUW n l t (by omega) hb;obtain⟨t1,t2,t3,t4⟩:=t;unfold zEt;simp only[f1,obs]
 rcases f2 with ⟨rfl,g⟩ | ⟨l',⟨u1,u2,u3,u4⟩,rfl,g1,g2⟩
 ·exact⟨false,rfl,fun h=>(by cases h),fun h=>absurd h g⟩
 ·simp only[g2]
  match l',g1 with
  | [],_=>exact⟨false,rfl,fun h=>(by cases h),fun h=>False.elim h⟩
  | [o],_ =>
   have e0:at? [o] 0=some o:=rfl;have e1:((([o]:List Int).length:Int) == 1)=true:=rfl;simp only[e0,e1,cond_true,obs,zMu,Nd.kids]
   by_cases c:0<=o
   ·rw[zAB c]
    exact⟨_,rfl,fun h=>⟨c,of_decide_eq_true h⟩,fun h=>decide_eq_true h.2⟩
   ·rw[zAA c]
    exact⟨_,rfl,fun h=>(by cases h),fun h=>absurd h.1 c⟩
  | [a,b],_ =>
   have e1:((([a,b]:List Int).length:Int) == 1)=false:=rfl;simp only[e1,cond_false,obs]
   refine⟨false,rfl,fun h=>(by cases h),fun h=>?_⟩
   obtain⟨_,x,_,_,u,_,g3⟩:=zF0.1 h;exact False.elim g3
theorem zWL (n:Nat){t:Nd} (hv:zAz t=true) (l:List Int) (hn:200000000<n) (hb:l.length<=16777216):∃ b,zCi n t l=some b/\zD4 n t l=some b:=by
 have hw:=zP6 hv;have hc:=Nd.cnt_w t;obtain⟨b,h1,h2⟩:=zX7 n t l (by omega) (by omega)
 have v1:=zCp n t (by omega) (by omega)
 have v2:=zEi n t (by omega) (by omega)
 obtain⟨b',h3,h4⟩:=zRI n t l v2 (by omega) (by omega) (by omega)
 have e:b=b':=Bool.eq_iff_iff.2 (h2.trans ⟨fun g=>h4.2 ⟨hv,g⟩,fun g=>(h4.1 g).2⟩)
 subst e;refine⟨b,?_,h3⟩
 rw[hv]at v1;obtain⟨t1,t2,t3,t4⟩:=t;unfold zCi;simp only[v1,obs,cond_true,h1]
theorem zOC (n:Nat){t:Nd} (hv:zAz t=true) (c:Cur) (hn:200000000<n) (h1:c.1.length<=16777216) (h2:c.2.length<=16777216):∃ b,zCs n t c=some b/\zDC n t c=some b:=by
 obtain⟨b1,f1,g1⟩:=zWL n hv c.1 hn h1;obtain⟨b2,f2,g2⟩:=zWL n hv c.2 hn h2;obtain⟨p,q⟩:=c;obtain⟨t1,t2,t3,t4⟩:=t;dsimp only at f1 f2 g1 g2;unfold zCs zDC;simp only[f1,g1,obs]
 cases b1 with
 | false=>exact⟨_,rfl,rfl⟩
 | true =>
  simp only[cond_true]
  cases((q.length:Int) == 0) with
  | true=>exact⟨_,rfl,rfl⟩
  | false =>
   simp only[cond_false,f2,g2,obs]
   exact⟨_,rfl,rfl⟩
structure RBul (r:Rc):Prop where
 len:r.1.length<=1048576
 ops:∀ o∈r.1,zJ0 o<=1048576
 b1:r.2.1.1.length<=1048576
 b2:r.2.1.2.length<=1048576
 a1:r.2.2.1.length<=1048576
 a2:r.2.2.2.length<=1048576
structure DBul (d:Dc):Prop where
 title:d.1.length<=1048576
 tree:d.2.1.w<=1048576
 len:d.2.2.1.length<=1048576
 recs:∀ r∈d.2.2.1,RBul r
theorem RBul.few {r:Rc} (h:RBul r) (hl:r.1.length<=8):RFew r:=⟨by omega,h.ops,by have:=h.b1; omega,by have:=h.b2; omega,by have:=h.a1; omega,by have:=h.a2; omega⟩
structure DFew (d:Dc):Prop where
 title:d.1.length<=300
 tree:d.2.1.cnt<=200
 len:d.2.2.1.length<=20
 recs:∀ r∈d.2.2.1,RFew r
theorem zUS (n:Nat) (l:List Op8) (hn:200<n) (hl:l.length<=2000000):∀ (k i:Nat),l.length - i<k->∃ fl,zDA n l k (i:Int)=some fl/\(∀ b,fl = .ret b->b=false)
 | 0,i,h=>by omega
 | k+1,i,h=>by
  unfold zDA
  by_cases hj:i<l.length
  ·obtain⟨b,h1⟩:=zSS n l[i] hn;have ha:=zAT hj;obtain⟨f,g1,g2⟩:=zUS n l hn hl k (i+1) (by omega)
   generalize l[i]=o at h1 ha;obtain⟨q1,q2,q3,q4,q5,q6,q7,q8⟩:=o;rw[zAB (Int.ofNat_lt.2 hj),cond_true]
   simp only[ha,obs,h1]
   cases b with
   | false=>exact⟨_,rfl,fun b h=>(by cases h; rfl)⟩
   | true =>
    simp only[Bool.not_true,cond_false,zAE (show i<9223372036854775807 by omega)]
    exact⟨f,g1,g2⟩
  ·rw[zAA (by omega)]
   exact⟨_,rfl,fun b h=>by cases h⟩
theorem zUR (n:Nat) (hn:3000000<n) (l:List Rc) (hl:l.length<=1048576) (hb:∀ r∈l,RBul r):∀ (k i:Nat),l.length - i<k->zCN n l k (i:Int)=some (.ret false)∨(zCN n l k (i:Int)=some (.go ())/\∀ r∈l.drop i,RFew r)
 | 0,i,h=>by omega
 | k+1,i,h=>by
  unfold zCN
  by_cases hj:i<l.length
  ·have hr:=hb _ (List.getElem_mem hj)
   have ha:=zAT hj;have hd:=List.drop_eq_getElem_cons hj;have ih:=zUR n hn l hl hb k (i+1) (by omega)
   obtain⟨fl,e1,e2⟩:=zUS n (l[i]).1 (by omega) (by have:=hr.len; omega) n 0 (by have:=hr.len; omega)
   rw[show((0:Nat):Int)=0 from rfl]at e1;generalize l[i]=r at hr ha hd e1;have hr1:=hr.few;obtain⟨ops,⟨b1,b2⟩,⟨a1,a2⟩⟩:=r;dsimp only at e1 hr1;rw[zAB (Int.ofNat_lt.2 hj),cond_true]
   simp only[ha,obs]
   by_cases c:8<ops.length
   ·rw[zAB (by omega)]
    exact .inl rfl
   rw[zAA (by omega)]
   simp only[cond_false,obs]
   cases decide (200<(IntKind.i64.wrap ((IntKind.i64.wrap ((IntKind.i64.wrap ((b1.length:Int)+(b2.length:Int)))+(a1.length:Int)))+(a2.length:Int)))) with
   | true=>exact .inl rfl
   | false =>
    simp only[cond_false,e1,obs]
    cases fl with
    | ret b =>
     rw[e2 b rfl]
     exact .inl rfl
    | go u =>
     dsimp only;rw[zAE (show i<9223372036854775807 by omega)]
     rcases ih with ih | ⟨ih,ih2⟩
     ·exact .inl ih
     ·refine .inr ⟨ih,fun r hr=>?_⟩
      rw[hd]at hr;rcases List.mem_cons.1 hr with rfl | hr
      ·exact hr1 (by omega)
      ·exact ih2 r hr
  ·rw[zAA (by omega)]
   refine .inr ⟨rfl,fun r hr=>?_⟩
   rw[List.drop_eq_nil_iff.2 (by omega)]at hr;cases hr
theorem zVW (n:Nat) (hn:3000000<n) (d:Dc) (hb:DBul d):∃ y,zHX n d=some y/\(y=true->DFew d):=by
 have h1:=zUR n hn d.2.2.1 hb.len hb.recs n 0 (by have:=hb.len; omega)
 obtain⟨y,h2,h3⟩:=zWD n d.2.1 200 (by omega) (by omega)
 rw[show((200:Nat):Int)=200 from rfl]at h2;rw[show((0:Nat):Int)=0 from rfl,List.drop_zero]at h1;obtain⟨ti,⟨t1,t2,t3,t4⟩,rs,dn⟩:=d;unfold zHX;dsimp only at h1 h2 h3 ⊢;rcases h1 with h1 | ⟨h1,h4⟩
 ·rw[h1]
  exact⟨false,rfl,fun h=>by cases h⟩
 ·simp only[h1,h2,obs]
  cases y with
  | false=>exact⟨false,rfl,fun h=>by cases h⟩
  | true =>
   simp only[cond_true]
   by_cases c:(rs.length:Int)<=20
   ·rw[zAB c]
    exact⟨_,rfl,fun h=>⟨by have:=of_decide_eq_true h; dsimp only; omega,h3 rfl,by dsimp only; omega,h4⟩⟩
   ·rw[zAA c]
    exact⟨_,rfl,fun h=>by cases h⟩
theorem zV8 (o:Op8):zJ0 o<=zCb (zAs o):=by
 have h1:=Nd.ws_bulk o.2.2.2.2.1;have h2:=zDW .i64 o.2.1;unfold zJ0;simp only[zAs,zCb,S.bulk,Op8.nodes,Op8.text,Op8.row]
 omega
theorem zXo (r:Rc) (h:zCb (zAm r)<=1048576):RBul r:=by
 simp only[zAm,zCb,S.bulk]at h;have i1:=zDW .i64 r.2.1.1;have i2:=zDW .i64 r.2.1.2;have i3:=zDW .i64 r.2.2.1;have i4:=zDW .i64 r.2.2.2;have i5:=zXj (l:=r.1)
 refine⟨by omega,fun o ho=>?_,by omega,by omega,by omega,by omega⟩
 have h1:=zPd (f:=zAs) ho;have h2:=zV8 o
 omega
theorem zW5 (d:Dc) (h:zCb (zAq d)<=1048576):DBul d:=by
 obtain⟨ti,t,rs,dn⟩:=d;have ha:=Nd.w_bulk t;obtain⟨y1,y2,y3,y4⟩:=t;simp only[zAq,zCb,S.bulk]at h;simp only[Nd.enc,zCb,S.bulk]at ha;have h1:=zJQ (rows:=rs.map zAm) fun r hr=>by
  obtain⟨o,_,rfl⟩:=List.mem_map.1 hr;simp only[zAm,List.length_cons]
  omega
 rw[List.length_map]at h1;refine⟨?_,?_,?_,fun r hr=>zXo r ?_⟩
 ·dsimp only; omega
 ·dsimp only; omega
 ·dsimp only; omega
 ·have:=zPd (f:=zAm) hr;dsimp only at this
  omega
structure Trs (rs:List Rc) (ts:List Nd):Prop where
 len:ts.length=rs.length+1
 valid:∀ t∈ts,zAz t=true
 step:∀ (i:Nat) (r:Rc),rs[i]? = some r->∃ t u,ts[i]? = some t/\ts[i+1]? = some u/\Runs t r.1 u 0
theorem Trs.one {t:Nd} (h:zAz t=true):Trs [] [t]:=⟨rfl,fun u hu=>by rw[List.mem_singleton.1 hu]; exact h,fun i r h=>by simp at h⟩
theorem Trs.cons {rs:List Rc}{ts:List Nd}{r:Rc}{t u:Nd} (h:Trs rs ts) (hu:ts[0]? = some u) (hv:zAz t=true) (hr:Runs t r.1 u 0):Trs (r::rs) (t::ts):=by
 refine⟨by have:=h.len; simp only[List.length_cons]; omega,fun v hv'=>?_,fun i q hq=>?_⟩
 ·rcases List.mem_cons.1 hv' with rfl | hm
  ·exact hv
  ·exact h.valid v hm
 ·cases i with
  | zero =>
   obtain rfl:r=q :=(by simpa using hq);exact⟨t,u,rfl,hu,hr⟩
  | succ i=>exact h.step i q (by simpa using hq)
def zXK (t:Nd):Int×List UInt8×Int×List Nd:=(t.kind,t.text,t.cols,t.kids)
def verL (n:Nat) (rs:List Rc) (a:Int) (k:Nat) (t z:Nd) (i:Int):=zBz n rs a k t.kind t.text t.cols t.kids z.kind z.text z.cols z.kids i
def valL (n:Nat) (rs:List Rc) (k:Nat) (t:Nd) (i:Int):=zCz n rs k t.kind t.text t.cols t.kids i
theorem zLk (n:Nat) (hn:200000000<n){rs:List Rc} (hl:rs.length<=1000) (hf:∀ r∈rs,RFew r) (a:Int):∀ (k i:Nat) (t z:Nd),rs.length - i<k->i<=rs.length->zAz t=true ->
  (verL n rs a k t z (i:Int)=some (.ret (.mk 0 [] 0 [],false))/\valL n rs k t (i:Int)=some (.ret false)) ∨
  (valL n rs k t (i:Int)=some (.go ())/\∃ ts z',Trs (rs.drop i) ts/\ts[0]? = some t/\verL n rs a k t z (i:Int)=some (.go (zXK z'))/\(a<=(i:Int)->z'=z)/\(∀ m:Nat,0<m->a=((i+m:Nat):Int)->a<=(rs.length:Int)->ts[m]? = some z'))
 | 0,i,t,z,h,_,_=>by omega
 | k+1,i,t,z,h,hi,hv=>by
  unfold verL valL zBz zCz
  by_cases hj:i<rs.length
  ·have hr:=hf _ (List.getElem_mem hj)
   have ha:=zAT hj;have hd:=List.drop_eq_getElem_cons hj;obtain⟨u,j,e,g1,g2,g3⟩:=hr.osmall.apply n hn hv;obtain⟨u',j',e',q1,q2⟩:=hr.ref n hn hv;obtain⟨rfl,rfl⟩:=g2.det q2;obtain⟨b1,p1,p2⟩:=zOC n hv (rs[i]).2.1 hn hr.b1 hr.b2;have hu:e=0->zAz u=true:=fun he=>by subst he; exact(g2.back hv).2
   have pt:e=0->∃ b2,zCs n u (rs[i]).2.2=some b2/\zDC n u (rs[i]).2.2=some b2:=fun he=>zOC n (hu he) _ hn hr.a1 hr.a2
   have ih:=fun z' he=>zLk n hn hl hf a k (i+1) u z' (by omega) (by omega) (hu he)
   rw[zAB (Int.ofNat_lt.2 hj),cond_true,hd]
   simp only[ha]
   generalize rs[i]=r at *;obtain⟨ops,⟨c1,c2⟩,⟨c3,c4⟩⟩:=r;obtain⟨t1,t2,t3,t4⟩:=t;dsimp only at g1 q1 p1 p2 pt;simp only[Nd.kind,Nd.text,Nd.cols,Nd.kids,obs,g1,q1]
   by_cases he:e=0
   ·subst he;obtain⟨b2,p3,p4⟩:=pt rfl;have hu':=hu rfl;replace ih:=fun z'=>ih z' rfl
    unfold verL valL at ih;obtain⟨u1,u2,u3,u4⟩:=u;simp only[Nd.kind,Nd.text,Nd.cols,Nd.kids]at ih;simp only[show((0:Int) != 0)=false from rfl,cond_false,p1,p2,p3,p4,obs]
    cases b1 with
    | false=>exact .inl ⟨rfl,rfl⟩
    | true =>
     cases b2 with
     | false=>exact .inl ⟨rfl,rfl⟩
     | true =>
      simp only[Bool.not_true,cond_false,obs,zAE (show i<9223372036854775807 by omega)]
      by_cases hai:(((i+1:Nat):Int))=a
      ·have e1:((((i+1:Nat):Int)) == a)=true:=beq_iff_eq.2 hai;simp only[e1,cond_true,obs]
       rcases ih (.mk u1 u2 u3 u4) with ih | ⟨h1,ts,z',h2,h3,h4,h5,h6⟩
       ·exact .inl ih
       ·refine .inr ⟨h1,_,z',h2.cons h3 hv g2,rfl,h4,fun h=>by omega,fun m hm ham hal=>?_⟩
        obtain rfl:m=1 :=(by omega);rw[h5 (by omega)]
        exact h3
      ·have e1:((((i+1:Nat):Int)) == a)=false:=beq_eq_false_iff_ne.2 hai;simp only[e1,cond_false,obs]
       rcases ih z with ih | ⟨h1,ts,z',h2,h3,h4,h5,h6⟩
       ·exact .inl ih
       ·refine .inr ⟨h1,_,z',h2.cons h3 hv g2,rfl,h4,fun h=>h5 (by omega),fun m hm ham hal=>?_⟩
        obtain⟨m,rfl⟩:∃ j,m=j+1:=⟨m - 1,by omega⟩
        exact h6 m (by omega) (by omega) hal
   ·have hne:(e != 0)=true:=bne_iff_ne.2 he;obtain⟨u1,u2,u3,u4⟩:=u;simp only[hne,cond_true,obs]
    exact .inl ⟨trivial,trivial⟩
  ·rw[zAA (by omega),List.drop_eq_nil_iff.2 (by omega)]
   exact .inr ⟨rfl,[t],z,Trs.one hv,rfl,rfl,fun _=>rfl,fun m hm ham hal=>by omega⟩
theorem zUt (n:Nat) (hn:200000000<n){d:Dc} (hb:DBul d) (hf:DFew d) :
  (zDB n d=some false/\∀ a,zCt n d a=some (.mk 0 [] 0 [],false)) ∨
  (zDB n d=some true/\zAz d.2.1=true/\d.2.2.1.length<=1000/\(∃ j:Nat,d.2.2.2=(j:Int)/\j<=d.2.2.1.length)/\∃ ts,Trs d.2.2.1 ts/\ts[0]? = some d.2.1 /\
   ∀ a,∃ z,zCt n d a=some (z,true)/\(∀ m:Nat,a=(m:Int)->m<=d.2.2.1.length->ts[m]? = some z)):=by
 have k1:=hf.title;have k2:=hf.len;have k3:=hb.tree;have t1:=zVD n d.1 (by omega) (by omega)
 have t2:=zHu n d.1 (by omega) (by omega)
 have v1:=zCp n d.2.1 (by omega) (by omega)
 have v2:=zEi n d.2.1 (by omega) (by omega)
 have lp:=fun a hv=>zLk n hn (rs:=d.2.2.1) (by omega) hf.recs a n 0 d.2.1 d.2.1 (by omega) (Nat.zero_le _) hv
 have hc:=fun hv:zAz d.2.1=true=>zUs hv
 obtain⟨ti,t,rs,dn⟩:=d;dsimp only at *;unfold zCt zDB
 by_cases c1:200<ti.length
 ·refine .inl ⟨?_,fun a=>?_⟩
  ·obtain⟨q1,q2,q3,q4⟩:=t;dsimp only;rw[zAB (by omega)]; rfl
  ·obtain⟨q1,q2,q3,q4⟩:=t;dsimp only;rw[t1,zAA (by omega),Bool.and_false]; rfl
 cases c2:ti.all zEz with
 | false =>
  rw[c2]at t1 t2;refine .inl ⟨?_,fun a=>?_⟩
  ·obtain⟨q1,q2,q3,q4⟩:=t;dsimp only;rw[zAA (by omega),t2]; rfl
  ·obtain⟨q1,q2,q3,q4⟩:=t;dsimp only;rw[t1,Bool.false_and]; rfl
 | true =>
  rw[c2]at t1 t2;rw[zAB (by omega),Bool.and_true]at t1;cases c3:zAz t with
  | false =>
   rw[c3]at v1 v2;obtain⟨q1,q2,q3,q4⟩:=t;refine .inl ⟨?_,fun a=>?_⟩
   ·dsimp only;rw[zAA (by omega),t2]
    simp only[cond_false,obs,Bool.not_true,v2]; rfl
   ·dsimp only;simp only[t1,cond_false,obs,Bool.not_true,v1]; rfl
  | true =>
   rw[c3]at v1 v2;have hc':=hc c3;replace lp:=fun a=>lp a c3
   unfold verL valL zXK at lp;obtain⟨q1,q2,q3,q4⟩:=t;simp only[Nd.kind,Nd.text,Nd.cols,Nd.kids]at lp;rw[show((0:Nat):Int)=0 from rfl]at lp;simp only[t1,t2,v1,v2,cond_false,obs,Bool.not_true,hc',zAA (show ¬ (200<(ti.length:Int)) by omega),zAA (show ¬ (1000<(rs.length:Int)) by omega)]
   by_cases c4:dn<0
   ·simp only[zAB c4,cond_true,obs]
    exact .inl ⟨trivial,fun _=>trivial⟩
   by_cases c5:(rs.length:Int)<dn
   ·simp only[zAA c4,zAB c5,cond_true,cond_false,obs]
    exact .inl ⟨trivial,fun _=>trivial⟩
   simp only[zAA c4,zAA c5,cond_false,obs]
   rcases lp 0 with ⟨_,h0⟩ | ⟨h0,ts,_,g1,g2,_⟩
   ·refine .inl ⟨by rw[h0]; rfl,fun a=>?_⟩
    rcases lp a with ⟨h1,_⟩ | ⟨h1,_⟩
    ·rw[h1]; rfl
    ·rw[h0]at h1; cases h1
   ·rw[List.drop_zero]at g1;refine .inr ⟨by rw[h0]; rfl,trivial,by omega,⟨dn.toNat,by omega,by omega⟩,ts,g1,g2,fun a=>?_⟩
    rcases lp a with ⟨_,h1⟩ | ⟨_,ts',z,k1,k2,k3,k4,k5⟩
    ·rw[h0]at h1; cases h1
    ·rw[List.drop_zero]at k1;have hts:ts'=ts:=by
      apply List.ext_getElem?
      intro i
      induction i with
      | zero=>rw[g2,k2]
      | succ i ih =>
       by_cases hi:i<rs.length
       ·obtain⟨x,y,x1,x2,x3⟩:=g1.step i _ (List.getElem?_eq_getElem hi)
        obtain⟨x',y',y1,y2,y3⟩:=k1.step i _ (List.getElem?_eq_getElem hi)
        rw[x1,y1]at ih;obtain rfl:=Option.some.inj ih;obtain⟨rfl,_⟩:=x3.det y3;rw[x2,y2]
       ·have:=g1.len;have:=k1.len;rw[List.getElem?_eq_none (by omega),List.getElem?_eq_none (by omega)]
     subst hts;obtain⟨z1,z2,z3,z4⟩:=z;refine⟨.mk z1 z2 z3 z4,by rw[k3]; rfl,fun m ha hm=>?_⟩
     by_cases hm0:m=0
     ·subst hm0;rw[k4 (by omega)]
      exact k2
     ·exact k5 m (by omega) (by omega) (by omega)
theorem zQa (n:Nat){d:Dc}{z:Nd}{b:Bool} (h:zCt n d 0=some (z,b)):zDp n d=some b:=by
 obtain⟨ti,⟨q1,q2,q3,q4⟩,rs,dn⟩:=d;obtain⟨z1,z2,z3,z4⟩:=z;unfold zDp;simp only[h,obs]
theorem w8 {n:Int} (h0:0<=n) (h1:n<256):IntKind.u8.wrap n=n:=by
 have:IntKind.u8.wrap n=n % 256:=by
  simp only[IntKind.wrap,IntKind.bits,IntKind.signed]
  simp
 rw[this]; omega
theorem w8' (n:Int):IntKind.u8.wrap n=n % 256:=by
 simp only[IntKind.wrap,IntKind.bits,IntKind.signed]
 simp
def zig (i:Int):Nat:=if i<0 then (2 * (-(i+1))+1).toNat else (2 * i).toNat
def CV.num:CV->Nat
 | .mk k i t l=>if k=2 then t.length else if k=3 then l.length else zig i
theorem zX1 {i:Int} (h:zMt i):zig i<18446744073709551616:=by
 obtain⟨h0,h1⟩:=h;unfold zig; split <;> omega
theorem CV.num_lt {v:CV} (hr:v.rng) (hw:v.w<=1000000000000):v.num<18446744073709551616:=by
 obtain⟨k,i,t,l⟩:=v;have:=CV.ws_len l;simp only[CV.w]at hw;have:=zX1 hr.2.1;simp only[CV.num]
 split
 ·omega
 ·split <;> omega
theorem zGk {v:CV} (hr:v.rng) (hw:v.w<=16777216):zC7 v=some (v.num:Int):=by
 obtain⟨k,i,t,l⟩:=v;have hl:=CV.ws_len l;simp only[CV.w]at hw;obtain⟨_,⟨h0,h1⟩,_⟩:=hr;rw[zC7,CV.num]
 by_cases h2:k=2
 ·subst h2;rw[if_pos rfl,show((2:Int) == 2)=true from rfl,cond_true,zGu (by omega) (by omega)]
 ·have e2:(k == 2)=false :=(by simpa using h2);rw[if_neg h2,e2,cond_false]
  by_cases h3:k=3
  ·subst h3;rw[if_pos rfl,show((3:Int) == 3)=true from rfl,cond_true,zGu (by omega) (by omega)]
  ·have e3:(k == 3)=false :=(by simpa using h3);rw[if_neg h3,e3,cond_false,zig]
   by_cases h4:i<0
   ·rw[if_pos h4,decide_eq_true h4,cond_true,wrap64_in (n:=i+1) (by omega) (by omega),wrap64_in (by omega) (by omega),zGu (n:=0 - (i+1)) (by omega) (by omega),
     zGu (n:=2 * (0 - (i+1))) (by omega) (by omega),zGu (by omega) (by omega)]
    congr 1; omega
   ·rw[if_neg h4,decide_eq_false h4,cond_false,zGu (n:=i) (by omega) (by omega),zGu (by omega) (by omega)]
    congr 1; omega
theorem zV6 (v:CV):zGn v=zC7 v:=by cases v; rfl
def blen (n:Nat):Nat:=if n<256 then 1 else blen (n / 256)+1
termination_by n
decreasing_by omega
theorem zGM {n:Nat} (h:n<256):blen n=1:=by rw[blen,if_pos h]
theorem zLD {n:Nat} (h:256<=n):blen n=blen (n / 256)+1:=by rw[blen,if_neg (by omega)]
theorem zPc (n:Nat):1<=blen n:=by rw[blen]; split <;> omega
theorem zWV:∀ (n:Nat),1<=n->256 ^ (blen n - 1)<=n:=by
 intro n
 induction n using Nat.strongRecOn with
 | _ n ih =>
  intro h1
  by_cases h:n<256
  ·rw[zGM h]; simp; omega
  ·have h2:=ih (n / 256) (by omega) (by omega)
   have h3:=zPc (n / 256)
   rw[zLD (by omega),Nat.add_sub_cancel]
   have e:256 ^ blen (n / 256)=256 ^ (blen (n / 256) - 1) * 256:=by
    rw[← Nat.pow_succ]; congr 1; omega
   rw[e]
   have:=Nat.mul_le_mul_right 256 h2
   omega
theorem zWW {n k:Nat} (hk:1<=k) (h:n<256 ^ k):blen n<=k:=by
 by_cases h0:n=0
 ·subst h0; rw[zGM (by omega)]; exact hk
 ·have h1:=zWV n (by omega)
  have h2:blen n - 1<k:=(Nat.pow_lt_pow_iff_right (a:=256) (by omega)).1 (Nat.lt_of_le_of_lt h1 h)
  omega
theorem zWU {n:Nat} (h:n<18446744073709551616):blen n<=8:=zWW (by omega) (by simpa using h)
theorem zS2 (n i:Nat) (h:i<=64):((n:Int).fdiv (2 ^ (min (i:Int).toNat IntKind.u64.bits)))=((n / 2 ^ i:Nat):Int):=by
 have e:min (i:Int).toNat IntKind.u64.bits=i :=(by show min (i:Int).toNat 64=i; omega);rw[e,Int.fdiv_eq_ediv_of_nonneg _ (by exact_mod_cast Nat.zero_le _)]
 push_cast
 rfl
theorem zJb {n m:Nat} (hn:10<=n) (h:m<18446744073709551616):zDn n (m:Int)=some (blen m:Int):=by
 obtain⟨f,rfl⟩:∃ f,n=f+9:=⟨n - 9,by omega⟩
 have e8:=zS2 m 8 (by omega)
 rw[show((8:Nat):Int)=8 from rfl,show(2:Nat) ^ 8=256 from rfl]at e8;rw[zDn,e8]
 have key:∀ (g x c:Nat),x<256 ^ 8->c<100->zAU (g+9) (x:Int) (c:Int)=some ((c+(if x=0 then 0 else blen x):Nat):Int):=by
  intro g;have:∀ (d a x c:Nat),x<256 ^ d->c+d<1000->zAU (a+d+1) (x:Int) (c:Int)=some ((c+(if x=0 then 0 else blen x):Nat):Int):=by
   intro d
   induction d with
   | zero =>
    intro a x c hx hc;have:x=0 :=(by simpa using hx);subst this;rw[zAU]; simp
   | succ d ih =>
    intro a x c hx hc;rw[zAU]
    by_cases h0:x=0
    ·subst h0; simp
    ·have e:((x:Int) != 0)=true :=(by simpa using h0);have e8:=zS2 x 8 (by omega)
     rw[show((8:Nat):Int)=8 from rfl,show(2:Nat) ^ 8=256 from rfl]at e8;rw[e,cond_true,if_neg h0,e8,wrap64_in (by omega) (by omega),show((c:Int)+1)=((c+1:Nat):Int) by omega,show a+(d+1)=a+d+1 by omega]
     rw[ih a (x / 256) (c+1) (by rw[Nat.pow_succ]at hx; omega) (by omega)]
     congr 1
     by_cases hs:x<256
     ·rw[zGM (n:=x) hs,if_pos (by omega)]
     ·rw[zLD (n:=x) (by omega),if_neg (by omega)]; omega
  intro x c hx hc;exact this 8 g x c hx (by omega)
 have:=key f (m / 256) 1 (by omega) (by omega)
 rw[show((1:Nat):Int)=1 from rfl]at this;rw[this,obs]
 congr 1
 by_cases hs:m<256
 ·rw[zGM (n:=m) hs,if_pos (by omega)]
 ·rw[zLD (n:=m) (by omega),if_neg (by omega)]; omega
def dig (i n:Nat):UInt8:=UInt8.ofNat (n / 256 ^ i)
def beK:Nat->Nat->List UInt8
 | 0,_=>[]
 | i+1,n=>dig i n::beK i n
theorem zKo:∀ (k n:Nat),(beK k n).length=k
 | 0,_=>rfl
 | k+1,n=>by simp[beK,zKo k n]
theorem zXM (i n:Nat):dig (i+1) n=dig i (n / 256):=by
 unfold dig; rw[Nat.pow_succ,Nat.mul_comm,← Nat.div_div_eq_div_mul]
theorem zTc:∀ (k n:Nat),beK (k+1) n=beK k (n / 256)++[dig 0 n]
 | 0,n=>rfl
 | k+1,n=>by
  have:=zTc k n;simp only[beK]at this ⊢;rw[zXM k n,this]; rfl
theorem zIl (m:Nat):b8of (IntKind.u8.wrap (m:Int))=UInt8.ofNat m:=by
 rw[w8']
 apply UInt8.toNat_inj.1
 have e:((m:Int) % 256).toNat=m % 256 :=(by omega);simp[b8of,e,UInt8.toNat_ofNat']
def CV.head (v:CV):List UInt8 :=
 match v with
 | .mk k i t l=>if v.num<56 then [UInt8.ofNat (64 * k.toNat+v.num)] else UInt8.ofNat (64 * k.toNat+55+blen v.num)::beK (blen v.num) v.num
def zXe (k:Int):Prop:=k=1∨k=2∨k=3
theorem CV.head_len (v:CV) (hr:v.rng) (hw:v.w<=16777216):v.head.length<=9:=by
 have:=zWU (CV.num_lt hr (Nat.le_trans hw (by decide)))
 cases v;simp only[CV.head]; split
 ·simp
 ·simp[zKo]; exact this
theorem zFU {y:Nat}:∀ (i:Nat) (k:Nat) (l:List UInt8),i<=8->i<k->l.length+i<=4294967296->zBE (y:Int) k ((i:Int) - 1) l=some (l++beK i y)
 | 0,k+1,l,_,_,_=>by
  rw[zBE]; simp[beK]
 | i+1,k+1,l,h8,hk,hl=>by
  have e:((i+1:Nat):Int) - 1=(i:Int) :=(by omega);have e1:IntKind.i64.wrap (8 * (i:Int))=((8 * i:Nat):Int) :=(by rw[wrap64_in (by omega) (by omega)]; omega);have e2:=zS2 y (8 * i) (by omega)
  rw[zBE,e,decide_eq_true (by omega:(0:Int)<=i),cond_true,e1,zBn (by omega),e2,zIl,zBn (by simp; omega),wrap64_in (n:=(i:Int) - 1) (by omega) (by omega),
   zFU i k _ (by omega) (by omega) (by simp; omega),beK,dig,Nat.pow_mul]
  simp
theorem zLr {n:Nat}{b:List UInt8}{v:CV} (hn:20<=n) (hr:v.rng) (hw:v.w<=16777216) (hk:zXe (match v with | .mk k _ _ _=>k)) (hb:b.length<=4294967000):zE3 n b v=some (b++v.head):=by
 have h39:=zGk hr hw;have hlt:=CV.num_lt hr (Nat.le_trans hw (by decide))
 obtain⟨k,i,t,l⟩:=v;rw[zE3,h39,obs,CV.head]
 generalize (CV.mk k i t l).num=y at *;simp only at hk;obtain⟨q,hq,rfl⟩:∃ q:Nat,q<=3/\k=(q:Int):=by
  rcases hk with rfl | rfl | rfl
  ·exact⟨1,by omega,rfl⟩
  ·exact⟨2,by omega,rfl⟩
  ·exact⟨3,by omega,rfl⟩
 by_cases h:y<56
 ·have e:IntKind.u8.wrap (IntKind.i64.wrap (64 * (q:Int)))+IntKind.u8.wrap (y:Int)=((64 * q+y:Nat):Int):=by
   rw[wrap64_in (by omega) (by omega),w8 (by omega) (by omega),w8 (by omega) (by omega)]; omega
  rw[decide_eq_true (by omega:(y:Int)<56),cond_true,e,zIl,zBn (by simp; omega),if_pos h]
  rfl
 ·have h8:=zWU hlt;have hp:=zPc y;rw[decide_eq_false (by omega:¬ (y:Int)<56),cond_false,zJb (by omega) hlt,obs,if_neg h]
  have e:IntKind.i64.wrap (IntKind.i64.wrap (IntKind.i64.wrap (IntKind.i64.wrap (64 * (q:Int))+56) - 1)+(blen y:Int))=((64 * q+55+blen y:Nat):Int):=by
   rw[wrap64_in (n:=64 * (q:Int)) (by omega) (by omega),wrap64_in (n:=64 * (q:Int)+56) (by omega) (by omega),wrap64_in (n:=64 * (q:Int)+56 - 1) (by omega) (by omega),wrap64_in (by omega) (by omega)]; omega
  rw[e,zIl,zBn (by simp; omega),wrap64_in (n:=(blen y:Int) - 1) (by omega) (by omega),zFU (blen y) n _ h8 (by omega) (by simp; omega)]
  simp
theorem zGQ:∀ (k y:Nat) (l:List UInt8),y<256 ^ k->y<18446744073709551616->l.length+k<=4294967295->∀ g,zBW (g+k+1) (y:Int) l=some ((if y=0 then [] else beK (blen y) y)++l)
 | 0,y,l,h,_,_,g=>by
  have:y=0 :=(by simpa using h);subst this;rw[zBW]; simp
 | k+1,y,l,h,hy,hl,g=>by
  by_cases h0:y=0
  ·subst h0; rw[zBW]; simp
  ·have e1:(y:Int).tmod 256=((y % 256:Nat):Int) :=(by rw[Int.tmod_eq_emod_of_nonneg (by omega)]; omega);have e2:(y:Int).tdiv 256=((y / 256:Nat):Int) :=(by rw[Int.tdiv_eq_ediv_of_nonneg (by omega)]; omega);rw[zBW,decide_eq_true (by omega:0<(y:Int)),cond_true,e1,e2,zIl,zBn (by simp; omega),zGu (by omega) (by omega),show g+(k+1)=g+k+1 by omega,
    zGQ k (y / 256) _ (by rw[Nat.pow_succ]at h; omega) (by omega) (by simp; omega) g,if_neg h0]
   have ed:UInt8.ofNat (y % 256)=dig 0 y:=by
    apply UInt8.toNat_inj.1; simp[dig,UInt8.toNat_ofNat']
   rw[ed]
   by_cases hs:y<256
   ·rw[zGM (n:=y) hs,if_pos (by omega)]; rfl
   ·rw[zLD (n:=y) (by omega),if_neg (by omega),zTc]; simp
theorem zNG {n:Nat}{v:CV} (hn:20<=n) (hr:v.rng) (hw:v.w<=16777216) (hk:zXe (match v with | .mk k _ _ _=>k)):zGY n v=some v.head:=by
 have h39:=zGk hr hw;have hlt:=CV.num_lt hr (Nat.le_trans hw (by decide))
 rw[← zV6]at h39;obtain⟨k,i,t,l⟩:=v;rw[zGY,h39,obs,CV.head]
 generalize (CV.mk k i t l).num=y at *;simp only at hk;obtain⟨q,hq,rfl⟩:∃ q:Nat,q<=3/\k=(q:Int):=by
  rcases hk with rfl | rfl | rfl
  ·exact⟨1,by omega,rfl⟩
  ·exact⟨2,by omega,rfl⟩
  ·exact⟨3,by omega,rfl⟩
 by_cases h:y<56
 ·have e:IntKind.i64.wrap (IntKind.i64.wrap (64 * (q:Int))+IntKind.i64.wrap (y:Int))=((64 * q+y:Nat):Int):=by
   rw[wrap64_in (n:=64 * (q:Int)) (by omega) (by omega),wrap64_in (n:=(y:Int)) (by omega) (by omega),wrap64_in (by omega) (by omega)]; omega
  rw[decide_eq_true (by omega:(y:Int)<56),cond_true,e,zIl,if_pos h]
  rfl
 ·have h8:=zWU hlt;have hp:=zPc y;obtain⟨g,rfl⟩:∃ g,n=g+8+1:=⟨n - 9,by omega⟩
  rw[decide_eq_false (by omega:¬ (y:Int)<56),cond_false,zGQ 8 y [] (by simpa using hlt) hlt (by simp) g,obs,if_neg h,if_neg (by omega),List.append_nil,zKo]
  have e:IntKind.i64.wrap (IntKind.i64.wrap (IntKind.i64.wrap (64 * (q:Int))+55)+(blen y:Int))=((64 * q+55+blen y:Nat):Int):=by
   rw[wrap64_in (n:=64 * (q:Int)) (by omega) (by omega),wrap64_in (n:=64 * (q:Int)+55) (by omega) (by omega),wrap64_in (by omega) (by omega)]; omega
  rw[e,zIl,zBn (by simp; omega)]
  rfl
mutual
def CV.code:CV->List UInt8
 | .mk k i t l=>(CV.mk k i t l).head++t++CV.codes l
def CV.codes:List CV->List UInt8
 | []=>[]
 | v::vs=>v.code++CV.codes vs
end
def CV.own (k i:Int) (t:List UInt8) (l:List CV):Bool:=(k == 1&&t == []&&l.isEmpty)||(k == 2&&i == 0&&l.isEmpty)||(k == 3&&i == 0&&t == [])
mutual
def CV.proper:CV->Bool
 | .mk k i t l=>CV.own k i t l&&CV.propers l
def CV.propers:List CV->Bool
 | []=>true
 | v::vs=>v.proper&&CV.propers vs
end
mutual
def CV.depth:CV->Nat
 | .mk k i t l=>if k=3 then CV.depths l+1 else 1
def CV.depths:List CV->Nat
 | []=>0
 | v::vs=>max v.depth (CV.depths vs)
end
theorem CV.depth_pos (v:CV):1<=v.depth:=by cases v; simp only[CV.depth]; split <;> omega
theorem CV.propers_mem:∀ {l:List CV}{v:CV},CV.propers l=true->v∈l->v.proper=true
 | u::l,v,h,hm=>by
  simp only[CV.propers,Bool.and_eq_true]at h;rcases List.mem_cons.1 hm with rfl | hm
  ·exact h.1
  ·exact CV.propers_mem h.2 hm
theorem zMY {k i:Int}{t:List UInt8}{l:List CV} (h:(CV.mk k i t l).proper=true):zXe k:=by
 simp only[CV.proper,CV.own,Bool.and_eq_true,Bool.or_eq_true,beq_iff_eq]at h;rcases h.1 with (⟨⟨h,_⟩,_⟩ | ⟨⟨h,_⟩,_⟩) | ⟨⟨h,_⟩,_⟩
 ·exact .inl h
 ·exact .inr (.inl h)
 ·exact .inr (.inr h)
mutual
theorem CV.code_len:∀ (v:CV),v.rng->v.w<=16777216->v.code.length<=10 * v.w
 | .mk k i t l,hr,hw=>by
  have h1:=CV.head_len (.mk k i t l) hr hw
  have h2:=CV.codes_len l hr.2.2 (by simp only[CV.w]at hw; omega)
  simp only[CV.code,CV.w,List.length_append]; omega
theorem CV.codes_len:∀ (l:List CV),CV.rngs l->CV.ws l<=16777216->(CV.codes l).length<=10 * CV.ws l
 | [],_,_=>by simp[CV.codes]
 | v::vs,hr,hw=>by
  simp only[CV.ws]at hw
  have h1:=CV.code_len v hr.1 (by omega)
  have h2:=CV.codes_len vs hr.2 (by omega)
  simp only[CV.codes,CV.ws,List.length_append]; omega
end
def Enc (b b' c:List UInt8):Prop:=(b.length+c.length<=1048576->b'=b++c)/\(1048576<b.length+c.length->1048576<b'.length)/\b'.length<=b.length+c.length
theorem zEy {F:List UInt8->CV->Option (List UInt8)}{vs:List CV} (hl:vs.length<=16777216):∀ (r:List CV) (i k:Nat) (b:List UInt8),vs.drop i=r->r.length<k->b.length+(CV.codes r).length<=4000000000 ->
  (∀ v∈r,∀ b,b.length<=1048576->∃ b',F b v=some b'/\Enc b b' v.code)->∃ z b',zA3 F vs k i b=some z/\(z = .ret b'∨z = .go b')/\Enc b b' (CV.codes r)
 | _,_,0,_,_,h,_,_=>by omega
 | [],i,k+1,b,h,_,_,_=>⟨.go b,b,by rw[zA3,zPo h]; rfl,.inr rfl,by simp[CV.codes],by simp[CV.codes],by simp[CV.codes]⟩
 | ⟨a,b0,c,d⟩::r,i,k+1,b,h,hk,hb,hF=>by
  have hi:=zMo h;rw[zA3,zSx h,cond_true]
  by_cases hm:1048576<b.length
  ·rw[decide_eq_true (by omega:(1048576:Int)<b.length)]
   exact⟨.ret b,b,rfl,.inl rfl,fun h=>by omega,fun _=>hm,by omega⟩
  ·rw[decide_eq_false (by omega:¬ (1048576:Int)<b.length),cond_false,zSn h]
   simp only[obs]
   obtain⟨b1,h1,e1,e2,e3⟩:=hF ⟨a,b0,c,d⟩ List.mem_cons_self b (by omega)
   simp only[CV.codes,List.length_append]at hb;obtain⟨z,b',g1,g2,g3,g4,g5⟩:=zEy hl r (i+1) k b1 (zSr h) (by simpa using hk) (by omega) (fun v hv=>hF v (List.mem_cons_of_mem _ hv))
   refine⟨z,b',by rw[h1,obs,zAE (by omega)]; exact g1,g2,fun hs=>?_,fun hs=>?_,?_⟩
   ·simp only[CV.codes,List.length_append]at hs;have:=e1 (by omega)
    subst this;rw[g3 (by rw[List.length_append]; omega)]
    simp[CV.codes]
   ·simp only[CV.codes,List.length_append]at hs
    by_cases hx:b.length+(CV.mk a b0 c d).code.length<=1048576
    ·have:=e1 hx;subst this;exact g4 (by rw[List.length_append]; omega)
    ·have:=e2 (by omega)
     exact g4 (by omega)
   ·simp only[CV.codes,List.length_append]; omega
theorem zFT:∀ (n:Nat) (v:CV) (b:List UInt8),v.w+20<n->v.w<=16777216->v.rng->v.proper=true->b.length<=1048576->∃ b',zBd n b v=some b'/\Enc b b' v.code
 | 0,_,_,h,_,_,_,_=>by omega
 | n+1,⟨a,i,t,d⟩,b,hn,hw,hr,hp,hb=>by
  have hlc:=CV.code_len _ hr hw;have hh:=zLr (n:=n) (b:=b) (v:=⟨a,i,t,d⟩) (by omega) hr hw (zMY hp) (by omega)
  have h9:=CV.head_len _ hr hw;have hw':=hw;simp only[CV.w]at hw hn;have hl:=CV.ws_len d;simp only[CV.code,List.length_append,CV.w]at hlc;have hpd:CV.propers d=true:=by simp only[CV.proper,Bool.and_eq_true]at hp; exact hp.2
  by_cases htl:1048576<t.length
  ·rw[zBd,hh,obs,decide_eq_true (by omega:(1048576:Int)<t.length),cond_true,zBn (by omega),zBn (by simp only[List.length_append,List.length_drop,List.length_take]; omega)]
   refine⟨_,rfl,fun hs=>?_,fun _=>?_,?_⟩
   ·simp only[CV.code,List.length_append]at hs; omega
   ·simp only[List.length_append,List.length_drop,List.length_take]; omega
   ·simp only[CV.code,List.length_append,List.length_drop,List.length_take]; omega
  rw[zBd,hh,obs,decide_eq_false (by omega:¬ (1048576:Int)<t.length),cond_false,zBn (by rw[List.length_append]; omega)]
  obtain⟨z,b',g1,g2,g3,g4,g5⟩:=zEy (F:=zBd n) (vs:=d) (by omega) d 0 n (b++(CV.mk a i t d).head++t) rfl (by omega) (by rw[List.length_append,List.length_append]; omega)
   fun v hv b hb=>zFT n v b (by have:=CV.w_mem hv; omega) (by have:=CV.w_mem hv; omega) (CV.rng_mem hr.2.2 hv) (CV.propers_mem hpd hv) hb
  refine⟨b',?_,fun hs=>?_,fun hs=>?_,?_⟩
  ·have:zA3 (zBd n) d n 0 (b++(CV.mk a i t d).head++t)=some z:=g1;rw[this,obs]
   rcases g2 with rfl | rfl <;> rfl
  ·simp only[CV.code,List.length_append]at hs;rw[g3 (by simp only[List.length_append]; omega)]
   simp[CV.code]
  ·simp only[CV.code,List.length_append]at hs;exact g4 (by simp only[List.length_append]; omega)
  ·simp only[CV.code,List.length_append]at g5 ⊢
   omega
theorem zFV {F:CV->Option (List UInt8)}{vs:List CV} (hl:vs.length<=16777216):∀ (r:List CV) (i k:Nat) (b:List UInt8),vs.drop i=r->r.length<k->b.length+(CV.codes r).length<=4000000000 ->
  (∀ v∈r,F v=some v.code)->zBo F vs k i b=some (b++CV.codes r)
 | _,_,0,_,_,h,_,_=>by omega
 | [],i,k+1,b,h,_,_,_=>by rw[zBo,zPo h,CV.codes]; simp
 | ⟨a,b0,c,d⟩::r,i,k+1,b,h,hk,hb,hF=>by
  have hi:=zMo h;simp only[CV.codes,List.length_append]at hb;rw[zBo,zSx h,cond_true,zSn h]
  simp only[obs,hF ⟨a,b0,c,d⟩ List.mem_cons_self]
  rw[zBn (by omega),zAE (by omega),zFV hl r (i+1) k _ (zSr h) (by simpa using hk) (by rw[List.length_append]; omega) (fun v hv=>hF v (List.mem_cons_of_mem _ hv))]
  simp[CV.codes]
theorem zHr:∀ (n:Nat) (v:CV),v.w+20<n->v.w<=16777216->v.rng->v.proper=true->zCn n v=some v.code
 | 0,_,h,_,_,_=>by omega
 | n+1,⟨a,i,t,d⟩,hn,hw,hr,hp=>by
  have hlc:=CV.code_len _ hr hw;have hh:=zNG (n:=n) (v:=⟨a,i,t,d⟩) (by omega) hr hw (zMY hp)
  simp only[CV.w]at hw hn;have hl:=CV.ws_len d;simp only[CV.code,List.length_append,CV.w]at hlc;have hpd:CV.propers d=true :=(by simp only[CV.proper,Bool.and_eq_true]at hp; exact hp.2);rw[zCn,hh,obs,zBn (by omega)]
  have:zBo (zCn n) d n 0 ((CV.mk a i t d).head++t)=some ((CV.mk a i t d).head++t++CV.codes d):=zFV (by omega) d 0 n _ rfl (by omega) (by rw[List.length_append]; omega)
   fun v hv=>zHr n v (by have:=CV.w_mem hv; omega) (by have:=CV.w_mem hv; omega) (CV.rng_mem hr.2.2 hv) (CV.propers_mem hpd hv)
  rw[this]; rfl
def okAt (v:CV) (e:Int):Bool:=v.proper&&decide ((v.depth:Int)+e<=65)
def zNL (l:List CV) (e:Int):Bool:=CV.propers l&&decide ((CV.depths l:Int)+e<=65)
theorem zT8 (v:CV) (l:List CV) (e:Int):zNL (v::l) e=(okAt v e&&zNL l e):=by
 have:decide ((max v.depth (CV.depths l):Nat)+e<=65)=(decide ((v.depth:Int)+e<=65)&&decide ((CV.depths l:Int)+e<=65)):=by
  rw[← Bool.decide_and]; congr 1; apply propext; omega
 simp only[zNL,okAt,CV.propers,CV.depths]
 cases v.proper <;> cases CV.propers l <;> simp <;> exact this
theorem zFp {F:CV->Int->Option Bool}{vs:List CV}{e:Int} (he:0<=e/\e<=64) (hl:vs.length<=16777216):∀ (r:List CV) (i k:Nat),vs.drop i=r->r.length<k->(∀ v∈r,F v (e+1)=some (okAt v (e+1))) ->
  zBj F vs e k i=some (bif zNL r (e+1) then .go () else .ret false)
 | _,_,0,_,h,_=>by omega
 | [],i,k+1,h,_,_=>by
  rw[zBj,zPo h,cond_false]
  have:zNL [] (e+1)=true :=(by simp[zNL,CV.propers,CV.depths]; omega);rw[this]; rfl
 | ⟨a,b,c,d⟩::r,i,k+1,h,hk,hF=>by
  have hi:=zMo h;rw[zBj,zSx h,cond_true,zSn h,wrap64_in (n:=e+1) (by omega) (by omega)]
  simp only[obs,hF ⟨a,b,c,d⟩ List.mem_cons_self]
  rw[zT8]
  cases okAt ⟨a,b,c,d⟩ (e+1) with
  | false=>rfl
  | true =>
   rw[zAE (by omega),zFp he hl r (i+1) k (zSr h) (by simpa using hk) (fun v hv=>hF v (List.mem_cons_of_mem _ hv))]
   rfl
theorem zGP:∀ (n:Nat) (v:CV) (e:Int),v.w<n->v.w<=16777216->1<=e->e<=65->zBV n v e=some (okAt v e)
 | 0,_,_,h,_,_,_=>by omega
 | n+1,⟨k,i,t,l⟩,e,h,hb,he,he'=>by
  simp only[CV.w]at h hb;have hl:=CV.ws_len l;rw[zBV]
  by_cases h64:64<e
  ·rw[decide_eq_true h64,cond_true]
   have hp:=CV.depth_pos ⟨k,i,t,l⟩
   have:okAt ⟨k,i,t,l⟩ e=false:=by
    simp only[okAt,Bool.and_eq_false_iff,decide_eq_false_iff_not]; right; omega
   rw[this]
  ·rw[decide_eq_false h64,cond_false]
   by_cases h1:k=1
   ·subst h1;simp only[okAt,CV.proper,CV.own,CV.depth]
    cases l with
    | nil=>cases ht:t == [] <;> simp[CV.propers,ht] <;> omega
    | cons v l =>
     have:((((v::l).length:Nat):Int) == 0)=false :=(by rw[beq_eq_false_iff_ne]; simp; omega);cases ht:t == [] <;> simp[this,ht] <;> omega
   ·have e1:(k == 1)=false :=(by simpa using h1);rw[e1,cond_false]
    by_cases h2:k=2
    ·subst h2;simp only[okAt,CV.proper,CV.own,CV.depth]
     cases l with
     | nil=>cases ht:i == 0 <;> simp[CV.propers,ht] <;> omega
     | cons v l =>
      have:((((v::l).length:Nat):Int) == 0)=false :=(by rw[beq_eq_false_iff_ne]; simp; omega);cases ht:i == 0 <;> simp[this,ht] <;> omega
    ·have e2:(k == 2)=false :=(by simpa using h2);rw[e2,cond_false]
     by_cases h3:k=3
     ·subst h3;have key:zBj (zBV n) l e n 0=some (bif zNL l (e+1) then .go () else .ret false):=zFp (by omega) (by omega) l 0 n rfl (by omega) fun v hv=>zGP n v (e+1) (by have:=CV.w_mem hv; omega) (by have:=CV.w_mem hv; omega) (by omega) (by omega)
      have hdep:(CV.mk 3 i t l).depth=CV.depths l+1 :=(by simp[CV.depth]);have hd:decide (((CV.depths l+1:Nat):Int)+e<=65)=decide ((CV.depths l:Int)+(e+1)<=65):=by
       congr 1; apply propext; omega
      have hok:okAt (CV.mk 3 i t l) e=((i == 0&&t == [])&&zNL l (e+1)):=by
       simp only[okAt,hdep,hd,zNL,CV.proper,CV.own]
       cases i == 0 <;> cases t == [] <;> cases CV.propers l <;> cases decide ((CV.depths l:Int)+(e+1)<=65) <;> rfl
      rw[hok,key,show((3:Int) == 3)=true from rfl,cond_true]
      simp only[bne]
      cases i == 0 with
      | false=>rfl
      | true =>
       cases t == [] with
       | false=>rfl
       | true=>cases zNL l (e+1) <;> rfl
     ·have e3:(k == 3)=false :=(by simpa using h3);rw[e3,cond_false]
      simp[okAt,CV.proper,CV.own,e1,e2,e3]
theorem zKr {n:Nat}{v:CV} (h:v.w<n) (hb:v.w<=16777216):zEp n v=some (okAt v 1):=by
 have:=zGP n v 1 h hb (by omega) (by omega)
 obtain⟨k,i,t,l⟩:=v;rw[zEp,this]; rfl
theorem zJR {n:Nat}{v:CV} (hn:16777300<=n) (hb:v.w<=16777216) (hr:v.rng):∃ b:List UInt8,zC6 n v=some (bif okAt v 1 then (bif decide (1048576<v.code.length) then ([],6) else (v.code,0)) else ([],1)):=by
 have h1:=zKr (n:=n) (v:=v) (by omega) hb;cases ho:okAt v 1 with
 | false =>
  obtain⟨k,i,t,l⟩:=v;exact⟨[],by rw[zC6,h1,ho]; rfl⟩
 | true =>
  have hp:v.proper=true :=(by simp only[okAt,Bool.and_eq_true]at ho; exact ho.1);obtain⟨b',h2,e1,e2,e3⟩:=zFT n v [] (by omega) hb hr hp (by simp)
  simp only[List.length_nil,Nat.zero_add,List.nil_append]at e1 e2 e3;obtain⟨k,i,t,l⟩:=v;refine⟨b',?_⟩
  rw[zC6,h1,ho]
  simp only[obs,Bool.not_true,cond_false,cond_true,h2]
  by_cases hs:1048576<(CV.mk k i t l).code.length
  ·rw[decide_eq_true hs,decide_eq_true (by have:=e2 hs; omega:(1048576:Int)<b'.length)]; rfl
  ·have:=e1 (by omega)
   subst this;rw[decide_eq_false hs,decide_eq_false (by omega)]; rfl
def numV (i:Int):CV:=.mk 1 i [] []
def zNg (t:List UInt8):CV:=.mk 2 0 t []
def zC1 (l:List CV):CV:=.mk 3 0 [] l
def zIz (l:List Int):CV:=zC1 (l.map numV)
mutual
def zGH:Nd->CV
 | .mk k t c ks=>zC1 (numV k::zNg t::numV c::zF8 ks)
def zF8:List Nd->List CV
 | []=>[]
 | v::vs=>zGH v::zF8 vs
end
theorem zKd:∀ l:List Nd,zF8 l=l.map zGH
 | []=>rfl
 | v::vs=>by rw[zF8,List.map_cons,zKd vs]
def curV (c:Cur):CV:=zC1 [zIz c.1,zIz c.2]
def opV (o:Op8):CV:=zC1 [numV o.1,zIz o.2.1,numV o.2.2.1,numV o.2.2.2.1,zC1 (zF8 o.2.2.2.2.1),numV o.2.2.2.2.2.1,zNg o.2.2.2.2.2.2.1,zNg o.2.2.2.2.2.2.2]
def recV (r:Rc):CV:=zC1 [zC1 (r.1.map opV),curV r.2.1,curV r.2.2]
def docV (d:Dc):CV:=zC1 [zNg d.1,zGH d.2.1,numV d.2.2.2,zC1 (d.2.2.1.map recV)]
theorem zHj:∀ {l:List CV},(∀ v∈l,v.proper=true)->CV.propers l=true
 | [],_=>rfl
 | v::vs,h=>by rw[CV.propers,h v List.mem_cons_self,zHj fun u hu=>h u (List.mem_cons_of_mem _ hu)]; rfl
theorem zIo (i:Int):(numV i).proper=true:=by simp[numV,CV.proper,CV.own,CV.propers]
theorem zJt (t:List UInt8):(zNg t).proper=true:=by simp[zNg,CV.proper,CV.own,CV.propers]
theorem zCQ {l:List CV} (h:CV.propers l=true):(zC1 l).proper=true:=by simp[zC1,CV.proper,CV.own,h]
theorem zME (l:List Int):(zIz l).proper=true:=zCQ (zHj fun v hv=>by
 obtain⟨i,_,rfl⟩:=List.mem_map.1 hv;exact zIo i)
mutual
theorem zNi:∀ t:Nd,(zGH t).proper=true
 | .mk k t c ks=>by
  rw[zGH]
  refine zCQ ?_
  simp only[CV.propers,zIo,zJt,zIi ks,Bool.and_self]
theorem zIi:∀ l:List Nd,CV.propers (zF8 l)=true
 | []=>rfl
 | v::vs=>by rw[zF8,CV.propers,zNi v,zIi vs]; rfl
end
theorem zTY (c:Cur):(curV c).proper=true:=zCQ (by simp only[CV.propers,zME,Bool.and_self])
theorem zU8 (o:Op8):(opV o).proper=true:=zCQ (by simp only[CV.propers,zME,zIo,zJt,zCQ (zIi _),Bool.and_self])
theorem zUn (r:Rc):(recV r).proper=true:=zCQ (by
 have h:(zC1 (r.1.map opV)).proper=true:=zCQ (zHj fun v hv=>by
  obtain⟨o,_,rfl⟩:=List.mem_map.1 hv;exact zU8 o)
 simp only[CV.propers,h,zTY,Bool.and_self])
theorem zOk (d:Dc):(docV d).proper=true:=zCQ (by
 have h:(zC1 (d.2.2.1.map recV)).proper=true:=zCQ (zHj fun v hv=>by
  obtain⟨o,_,rfl⟩:=List.mem_map.1 hv;exact zUn o)
 simp only[CV.propers,h,zJt,zNi,zIo,Bool.and_self])
theorem zIm {d:Nat}:∀ {l:List CV},(∀ v∈l,v.depth<=d)->CV.depths l<=d
 | [],_=>Nat.zero_le _
 | v::vs,h=>by
  have h1:=h v List.mem_cons_self;have h2:=zIm fun u hu=>h u (List.mem_cons_of_mem _ hu)
  rw[CV.depths]
  omega
theorem list_depth (l:List CV):(zC1 l).depth=CV.depths l+1:=by rw[zC1,CV.depth,if_pos rfl]
theorem zJZ (i:Int):(numV i).depth=1:=by rw[numV,CV.depth,if_neg (by decide)]
theorem zKK (t:List UInt8):(zNg t).depth=1:=by rw[zNg,CV.depth,if_neg (by decide)]
theorem zKv (l:List Int):(zIz l).depth<=2:=by
 have:=zIm (d:=1) (l:=l.map numV) fun v hv=>by
  obtain⟨i,_,rfl⟩:=List.mem_map.1 hv;rw[zJZ]; exact Nat.le_refl _
 rw[zIz,list_depth]
 omega
mutual
theorem zOL:∀ t:Nd,(zGH t).depth<=t.dep+1
 | .mk k t c ks=>by
  have:=zJu ks
  rw[zGH,list_depth]
  simp only[CV.depths,zJZ,zKK,Nd.dep]
  omega
theorem zJu:∀ l:List Nd,CV.depths (zF8 l)<=Nd.deps l+1
 | []=>Nat.zero_le _
 | v::vs=>by
  have h1:=zOL v
  have h2:=zJu vs
  rw[zF8,CV.depths,Nd.deps]
  have h3:v.dep<=Nat.max v.dep (Nd.deps vs):=Nat.le_max_left _ _
  have h4:Nd.deps vs<=Nat.max v.dep (Nd.deps vs):=Nat.le_max_right _ _
  omega
end
theorem zQR (c:Cur):(curV c).depth<=3:=by
 have h1:=zKv c.1;have h2:=zKv c.2;rw[curV,list_depth]
 simp only[CV.depths]
 omega
theorem zV9 (o:Op8) (h:Nd.deps o.2.2.2.2.1<=30):(opV o).depth<=33:=by
 have h1:=zKv o.2.1;have h2:=zJu o.2.2.2.2.1;rw[opV,list_depth]
 simp only[CV.depths,zJZ,zKK,list_depth]
 omega
theorem zVm (r:Rc) (h:∀ o∈r.1,Nd.deps o.2.2.2.2.1<=30):(recV r).depth<=35:=by
 have h1:=zQR r.2.1;have h2:=zQR r.2.2;have h3:=zIm (d:=33) (l:=r.1.map opV) fun v hv=>by
  obtain⟨o,ho,rfl⟩:=List.mem_map.1 hv;exact zV9 o (h o ho)
 rw[recV,list_depth]
 simp only[CV.depths,list_depth]
 omega
theorem zUM (d:Dc) (ht:d.2.1.dep<=30) (h:∀ r∈d.2.2.1,∀ o∈r.1,Nd.deps o.2.2.2.2.1<=30):(docV d).depth<=40:=by
 have h1:=zOL d.2.1;have h3:=zIm (d:=35) (l:=d.2.2.1.map recV) fun v hv=>by
  obtain⟨o,ho,rfl⟩:=List.mem_map.1 hv;exact zVm o (h o ho)
 rw[docV,list_depth]
 simp only[CV.depths,list_depth,zJZ,zKK]
 omega
theorem zFs {α:Type}{f:α->CV}{l:List α} (L:Nat->Int->List CV->Option (List CV)) (hl:l.length<=1073741824)
  (hs:∀ (k i:Nat) (acc:List CV) (h:i<l.length),acc.length<=i->L (k+1) (i:Int) acc=L k ((i+1:Nat):Int) (acc++[f l[i]]))
  (he:∀ (k:Nat) (acc:List CV),L (k+1) (l.length:Int) acc=some acc) :
  ∀ (k i:Nat) (acc:List CV),l.length - i<k->i<=l.length->acc.length<=i->L k (i:Int) acc=some (acc++(l.drop i).map f)
 | 0,i,acc,h,_,_=>by omega
 | k+1,i,acc,h,hi,ha=>by
  by_cases hj:i<l.length
  ·rw[hs k i acc hj ha,zFs L hl hs he k (i+1) _ (by omega) (by omega) (by simp only[List.length_append,List.length_cons,List.length_nil]; omega),List.drop_eq_getElem_cons hj,List.map_cons,List.append_assoc]
   rfl
  ·obtain rfl:i=l.length :=(by omega);rw[he,List.drop_length,List.map_nil,List.append_nil]
theorem zSs (n:Nat) (l:List Int) (hn:l.length<n) (hl:l.length<=1073741824):zDq n l=some (zIz l):=by
 have:=zFs (f:=numV) (l:=l) (zA9 l) hl (fun k i acc h ha=>by
  rw[zA9,zAB (Int.ofNat_lt.2 h),cond_true,zAT h]
  simp only[obs,zAX]
  rw[zBn (by simp only[List.length_cons,List.length_nil]; omega),zAE (by omega)]; rfl) (fun k acc=>by rw[zA9,zAA (by omega)]; rfl) n 0 [] (by omega) (Nat.zero_le _) (Nat.le_refl _)
 rw[show((0:Nat):Int)=0 from rfl,List.drop_zero,List.nil_append]at this;unfold zDq;simp only[zBg,obs,this]
 rfl
theorem zP7 (n:Nat) (l:List Int) (hn:l.length<n) (hl:l.length<=1073741824):zCr n l=some (zIz l):=by
 unfold zCr;simp only[zSs n l hn hl,obs]
 rfl
theorem zPW (n:Nat) (l:List Int) (hn:l.length<n) (hl:l.length<=1073741824):zCW n l=some (zIz l):=by
 have:=zFs (f:=numV) (l:=l) (zBu l) hl (fun k i acc h ha=>by
  rw[zBu,zAB (Int.ofNat_lt.2 h),cond_true,zAT h]
  simp only[obs,zBb]
  rw[zBn (by simp only[List.length_cons,List.length_nil]; omega),zAE (by omega)]; rfl) (fun k acc=>by rw[zBu,zAA (by omega)]; rfl) n 0 [] (by omega) (Nat.zero_le _) (Nat.le_refl _)
 rw[show((0:Nat):Int)=0 from rfl,List.drop_zero,List.nil_append]at this;unfold zCW;simp only[zBm,obs,this]
 rfl
theorem zOM (l:List Nd):(zF8 l).length=l.length:=by rw[zKd,List.length_map]
theorem zP8:∀ n:Nat,(∀ t:Nd,2 * t.cnt<n->t.cnt<=16777216->zA1 n t=some (zGH t))/\(∀ l:List Nd,2 * Nd.cnts l+1<n->Nd.cnts l<=16777216->zBP n l=some (zC1 (zF8 l)))
 | 0=>⟨fun _ h=>by omega,fun _ h=>by omega⟩
 | n+1=>by
  obtain⟨ih1,ih2⟩:=zP8 n;refine⟨fun t h hb=>?_,fun l h hb=>?_⟩
  ·obtain⟨k,tx,c,ks⟩:=t;simp only[Nd.cnt]at h hb;have hlen:=Nd.cnts_len ks;unfold zA1;rw[ih2 ks (by omega) (by omega)]
   simp only[zC1,obs,zAX,zCR,zBQ]
   rw[zBn (by simp only[List.length_cons,List.length_nil,zOM]; omega)]
   rfl
  ·have hlen:=Nd.cnts_len l;have:=zFs (f:=zGH) (l:=l) (zA0 (zA1 n) l) (by omega) (fun k i acc h' ha=>by
    have hm:=Nd.cnts_mem (List.getElem_mem h')
    have e:=ih1 l[i] (by omega) (by omega)
    rw[zA0,zAB (Int.ofNat_lt.2 h'),cond_true,zAT h']
    generalize l[i]=v at e;obtain⟨v1,v2,v3,v4⟩:=v;rw[zGH,zC1]at e;simp only[obs,e]
    rw[zBn (by simp only[List.length_cons,List.length_nil]; omega),zAE (by omega),zGH,zC1]) (fun k acc=>by rw[zA0,zAA (by omega)]; rfl) n 0 [] (by omega) (Nat.zero_le _) (Nat.le_refl _)
   rw[show((0:Nat):Int)=0 from rfl,List.drop_zero,List.nil_append]at this;unfold zBP;simp only[zBg,obs,this]
   rw[zC1,zKd]
theorem zPX:∀ n:Nat,(∀ t:Nd,2 * t.cnt<n->t.cnt<=16777216->zDb n t=some (zGH t))/\(∀ l:List Nd,2 * Nd.cnts l+1<n->Nd.cnts l<=16777216->zD5 n l=some (zF8 l))
 | 0=>⟨fun _ h=>by omega,fun _ h=>by omega⟩
 | n+1=>by
  obtain⟨ih1,ih2⟩:=zPX n;refine⟨fun t h hb=>?_,fun l h hb=>?_⟩
  ·obtain⟨k,tx,c,ks⟩:=t;simp only[Nd.cnt]at h hb;have hlen:=Nd.cnts_len ks;unfold zDb;simp only[obs,zBb,zDM,zBm,ih2 ks (by omega) (by omega)]
   rw[zBn (by simp only[List.length_cons,List.length_nil,zOM]; omega)]
   rfl
  ·have hlen:=Nd.cnts_len l;have:=zFs (f:=zGH) (l:=l) (zB1 (zDb n) l) (by omega) (fun k i acc h' ha=>by
    have hm:=Nd.cnts_mem (List.getElem_mem h')
    have e:=ih1 l[i] (by omega) (by omega)
    rw[zB1,zAB (Int.ofNat_lt.2 h'),cond_true,zAT h']
    generalize l[i]=v at e;obtain⟨v1,v2,v3,v4⟩:=v;rw[zGH,zC1]at e;simp only[obs,e]
    rw[zBn (by simp only[List.length_cons,List.length_nil]; omega),zAE (by omega),zGH,zC1]) (fun k acc=>by rw[zB1,zAA (by omega)]; rfl) n 0 [] (by omega) (Nat.zero_le _) (Nat.le_refl _)
   rw[show((0:Nat):Int)=0 from rfl,List.drop_zero,List.nil_append]at this;unfold zD5;simp only[obs,this]
   rw[zKd]
theorem zVG (n:Nat) (c:Cur) (hn:200000000<n) (h1:c.1.length<=16777216) (h2:c.2.length<=16777216):zBM n c=some (curV c):=by
 have e1:=zP7 n c.1 (by omega) (by omega)
 have e2:=zP7 n c.2 (by omega) (by omega)
 obtain⟨p,q⟩:=c;dsimp only at e1 e2;unfold zBM;simp only[e1,e2,zIz,zC1,obs,zBQ]
 rfl
theorem zVh (n:Nat) (c:Cur) (hn:200000000<n) (h1:c.1.length<=16777216) (h2:c.2.length<=16777216):zEN n c=some (curV c):=by
 have e1:=zPW n c.1 (by omega) (by omega)
 have e2:=zPW n c.2 (by omega) (by omega)
 obtain⟨p,q⟩:=c;dsimp only at e1 e2;unfold zEN;simp only[e1,e2,zIz,zC1,obs,zBm]
 rfl
theorem zX0 (n:Nat) (o:Op8) (hn:200000000<n) (h:zJ0 o<=1048576):zDZ n o=some (opV o):=by
 obtain⟨k,row,a,m,nodes,slot,old,text⟩:=o;unfold zJ0 at h;simp only[Op8.nodes,Op8.row]at h;have hc:=Nd.cnts_ws nodes;have e1:=(zP8 n).2 nodes (by omega) (by omega)
 have e2:=zP7 n row (by omega) (by omega)
 unfold zDZ;simp only[e1,e2,zIz,zC1,obs,zBQ,zAX,zCR]
 rfl
theorem zUu (n:Nat) (l:List Op8) (hn:200000000<n) (hl:l.length<=1048576) (h:∀ o∈l,zJ0 o<=1048576):zDY n l=some (zC1 (l.map opV)):=by
 have:=zFs (f:=opV) (l:=l) (zBk n l) (by omega) (fun k i acc h' ha=>by
  have e:=zX0 n l[i] hn (h _ (List.getElem_mem h'))
  rw[zBk,zAB (Int.ofNat_lt.2 h'),cond_true,zAT h']
  generalize l[i]=v at e;obtain⟨v1,v2,v3,v4,v5,v6,v7,v8⟩:=v;rw[opV,zC1]at e;simp only[obs,e]
  rw[zBn (by simp only[List.length_cons,List.length_nil]; omega),zAE (by omega)]; rfl) (fun k acc=>by rw[zBk,zAA (by omega)]; rfl) n 0 [] (by omega) (Nat.zero_le _) (Nat.le_refl _)
 rw[show((0:Nat):Int)=0 from rfl,List.drop_zero,List.nil_append]at this;unfold zDY;simp only[zBg,obs,this]
 rfl
theorem zXy (n:Nat) (r:Rc) (hn:200000000<n) (h:RBul r):zCl n r=some (recV r):=by
 have e1:=zUu n r.1 hn h.len h.ops;have e2:=zVG n r.2.1 hn (by have:=h.b1; omega) (by have:=h.b2; omega)
 have e3:=zVG n r.2.2 hn (by have:=h.a1; omega) (by have:=h.a2; omega)
 obtain⟨ops,⟨b1,b2⟩,⟨a1,a2⟩⟩:=r;dsimp only at e1 e2 e3;unfold zCl;simp only[e1,e2,e3,curV,zC1,obs,zBQ]
 rfl
theorem zXx (n:Nat) (d:Dc) (hn:200000000<n) (h:DBul d):zBU n d=some (docV d):=by
 have ht:=Nd.cnt_w d.2.1;have hw:=h.tree;have hlen:=h.len;have e1:=(zP8 n).1 d.2.1 (by omega) (by omega)
 have this:=zFs (f:=recV) (l:=d.2.2.1) (zAQ n d.2.2.1) (by omega) (fun k i acc h' ha=>by
  have e:=zXy n d.2.2.1[i] hn (h.recs _ (List.getElem_mem h'))
  rw[zAQ,zAB (Int.ofNat_lt.2 h'),cond_true,zAT h']
  generalize d.2.2.1[i]=v at e;obtain⟨v1,⟨v2,v3⟩,⟨v4,v5⟩⟩:=v;rw[recV,zC1]at e;simp only[obs,e]
  rw[zBn (by simp only[List.length_cons,List.length_nil]; omega),zAE (by omega)]; rfl) (fun k acc=>by rw[zAQ,zAA (by omega)]; rfl) n 0 [] (by omega) (Nat.zero_le _) (Nat.le_refl _)
 rw[show((0:Nat):Int)=0 from rfl,List.drop_zero,List.nil_append]at this;obtain⟨ti,⟨q1,q2,q3,q4⟩,rs,dn⟩:=d;dsimp only at e1 this;rw[zGH,zC1]at e1;unfold zBU zDi;simp only[e1,zBg,obs,this,zBQ,zCR,zAX]
 rfl
theorem zXq (n:Nat) (r:Rc) (hn:200000000<n) (h:RBul r):zFb n r=some (recV r):=by
 have hlen:=h.len;have this:=zFs (f:=opV) (l:=r.1) (zBI n r.1) (by omega) (fun k i acc h' ha=>by
  have hb:=h.ops _ (List.getElem_mem h')
  rw[zBI,zAB (Int.ofNat_lt.2 h'),cond_true,zAT h']
  generalize r.1[i]=v at hb;obtain⟨k_,row,a,m,nodes,slot,old,text⟩:=v;unfold zJ0 at hb;simp only[Op8.nodes,Op8.row]at hb;have hc:=Nd.cnts_ws nodes;have e1:=(zPX n).2 nodes (by omega) (by omega)
  have e2:=zPW n row (by omega) (by omega)
  simp only[e1,e2,zIz,zC1,obs,zBm,zBb,zDM]
  rw[zBn (by simp only[List.length_cons,List.length_nil]; omega),zAE (by omega)]; rfl) (fun k acc=>by rw[zBI,zAA (by omega)]; rfl) n 0 [] (by omega) (Nat.zero_le _) (Nat.le_refl _)
 rw[show((0:Nat):Int)=0 from rfl,List.drop_zero,List.nil_append]at this;have e2:=zVh n r.2.1 hn (by have:=h.b1; omega) (by have:=h.b2; omega)
 have e3:=zVh n r.2.2 hn (by have:=h.a1; omega) (by have:=h.a2; omega)
 obtain⟨ops,⟨b1,b2⟩,⟨a1,a2⟩⟩:=r;dsimp only at this e2 e3;unfold zFb;simp only[this,e2,e3,curV,zC1,obs,zBm]
 rfl
theorem zXn (n:Nat) (d:Dc) (hn:200000000<n) (h:DBul d):zF2 n d=some (docV d):=by
 have ht:=Nd.cnt_w d.2.1;have hw:=h.tree;have hlen:=h.len;have e1:=(zPX n).1 d.2.1 (by omega) (by omega)
 have this:=zFs (f:=recV) (l:=d.2.2.1) (zB2 n d.2.2.1) (by omega) (fun k i acc h' ha=>by
  have e:=zXq n d.2.2.1[i] hn (h.recs _ (List.getElem_mem h'))
  rw[zB2,zAB (Int.ofNat_lt.2 h'),cond_true,zAT h']
  generalize d.2.2.1[i]=v at e;obtain⟨v1,⟨v2,v3⟩,⟨v4,v5⟩⟩:=v;rw[recV,zC1]at e;simp only[obs,e]
  rw[zBn (by simp only[List.length_cons,List.length_nil]; omega),zAE (by omega)]; rfl) (fun k acc=>by rw[zB2,zAA (by omega)]; rfl) n 0 [] (by omega) (Nat.zero_le _) (Nat.le_refl _)
 rw[show((0:Nat):Int)=0 from rfl,List.drop_zero,List.nil_append]at this;obtain⟨ti,⟨q1,q2,q3,q4⟩,rs,dn⟩:=d;dsimp only at e1 this;rw[zGH,zC1]at e1;unfold zF2;simp only[e1,obs,this,zBm,zDM,zBb]
 rfl
theorem Runs.formed {t u:Nd}{ops:List Op8}{e:Int} (h:Runs t ops u e):e=0->∀ o∈ops,FormP o:=by
 induction h with
 | nil t=>intro _ o ho; cases ho
 | stop h he=>intro h0; exact absurd h0 he
 | next h hr ih =>
  intro h0 o ho;rcases List.mem_cons.1 ho with rfl | ho
  ·cases h with
   | chg _ hf _ _ he=>exact absurd rfl he
   | ok _ hf _ _ _=>exact hf
  ·exact ih h0 o ho
theorem zRM {l:List Nd} (h:zAz (rowN l)=true):Nd.deps l<=30:=by
 have:=(zGa h).2.2.2;simp only[rowN,Nd.dep]at this
 omega
theorem FormP.deps {o:Op8} (h:FormP o):Nd.deps o.2.2.2.2.1<=30:=by
 obtain⟨k,row,a,m,nodes,slot,old,text⟩:=o;rcases h with ⟨_,_,h,_⟩ | ⟨_,_,⟨v,s,z,rfl,_,h,_⟩,_⟩ | ⟨_,_,rfl,_⟩
 ·exact zRM h
 ·exact zRM h
 ·exact Nat.zero_le _
def zK9 (y:Int):List UInt8:=[b8of (IntKind.u8.wrap (y.fdiv (2 ^ 56))),b8of (IntKind.u8.wrap (y.fdiv (2 ^ 48))),b8of (IntKind.u8.wrap (y.fdiv (2 ^ 40))),b8of (IntKind.u8.wrap (y.fdiv (2 ^ 32))),b8of (IntKind.u8.wrap (y.fdiv (2 ^ 24))),b8of (IntKind.u8.wrap (y.fdiv (2 ^ 16))),b8of (IntKind.u8.wrap (y.fdiv (2 ^ 8))),b8of (IntKind.u8.wrap (y.fdiv (2 ^ 0)))]
theorem zXt (y:Int) (k:Nat):zCq y (k+10) 56 [86,67,76,49]=some ([86,67,76,49]++zK9 y):=by
 with_unfolding_all rfl
theorem zVV (y:Int) (k:Nat):zCv y (k+10) 0 []=some (zK9 y):=by
 with_unfolding_all rfl
theorem zXW (y:Int) (n:Nat) (h:10<=n):zCq y n 56 [86,67,76,49]=some ([86,67,76,49]++zK9 y):=by
 obtain⟨k,rfl⟩:∃ k,n=k+10:=⟨n - 10,by omega⟩
 exact zXt y k
theorem zW8 (y:Int) (n:Nat) (h:10<=n):zCv y n 0 []=some (zK9 y):=by
 obtain⟨k,rfl⟩:∃ k,n=k+10:=⟨n - 10,by omega⟩
 exact zVV y k
theorem zTg {b:List UInt8} (hb:b.length<=1073741824):∀ (k i:Nat) (h:Int),b.length - i<k->∃ y,zA8 b k h (i:Int)=some y/\zBH b k h (i:Int)=some y
 | 0,i,h,hk=>by omega
 | k+1,i,h,hk=>by
  unfold zA8 zBH
  by_cases hj:i<b.length
  ·rw[zAB (Int.ofNat_lt.2 hj),cond_true,zAT hj]
   simp only[obs,cond_true,zAE (show i<9223372036854775807 by omega)]
   exact zTg hb k (i+1) _ (by omega)
  ·rw[zAA (by omega)]
   exact⟨_,rfl,rfl⟩
theorem dB1 (n:Nat) (b:List UInt8) (y:Int) (h1:zB5 n 14695981039346656037 b=some y):zC8 n b=some y:=by
 unfold zC8;simp only[h1,obs]
theorem dB2 (n:Nat) (b:List UInt8) (y h:Int) (h1:zA8 b n h 0=some y):zB5 n h b=some y:=by
 unfold zB5;simp only[h1,obs]
theorem dB3 (n:Nat) (b:List UInt8) (y:Int) (h1:zDt n 14695981039346656037 b=some y):zEJ n b=some y:=by
 unfold zEJ;simp only[h1,obs]
theorem dB4 (n:Nat) (b:List UInt8) (y h:Int) (h1:zBH b n h 0=some y):zDt n h b=some y:=by
 unfold zDt;simp only[h1,obs]
theorem zW4 (n:Nat) (b:List UInt8) (h:Int) (hn:b.length<n) (hb:b.length<=1073741824):∃ y,zB5 n h b=some y/\zDt n h b=some y:=by
 obtain⟨y,h1,h2⟩:=zTg hb n 0 h (by omega)
 exact⟨y,dB2 n b y h h1,dB4 n b y h h2⟩
theorem zXL (n:Nat) (b:List UInt8) (hn:b.length<n) (hb:b.length<=1073741824):∃ y,zC8 n b=some y/\zEJ n b=some y :=
 let ⟨y,h1,h2⟩:=zW4 n b 14695981039346656037 hn hb
 ⟨y,dB1 n b y h1,dB3 n b y h2⟩
structure DCod (d:Dc):Prop where
 rng:(docV d).rng
 w:(docV d).w<=16777216
theorem zWS (n:Nat) (hn:200000000<n){d:Dc} (hb:DBul d) (hf:DFew d) (hc:DCod d):∃ b bs e,zDp n d=some b/\zDB n d=some b/\zDo n d=some (bs,e)/\zEM n d=some (bs,e):=by
 rcases zUt n hn hb hf with ⟨h1,h2⟩ | ⟨h1,h2,h3,h4,ts,h5,h6,h7⟩
 ·have hV:=zQa n (h2 0)
  refine⟨false,[],1,hV,h1,?_,?_⟩
  ·obtain⟨ti,⟨q1,q2,q3,q4⟩,rs,dn⟩:=d;unfold zDo;simp only[hV,obs,Bool.not_false,cond_true]
  ·obtain⟨ti,⟨q1,q2,q3,q4⟩,rs,dn⟩:=d;unfold zEM;simp only[h1,obs,Bool.not_false,cond_true]
 ·obtain⟨z0,g1,_⟩:=h7 0;have hV:=zQa n g1;have hdep:(docV d).depth<=40:=zUM d (by have:=(zGa h2).2.2.2; omega) fun r hr o ho=>by
   obtain⟨i,hi⟩:=List.getElem?_of_mem hr;obtain⟨t,u,_,_,hrun⟩:=h5.step i r hi;exact(hrun.formed rfl o ho).deps
  have hok:okAt (docV d) 1=true:=by
   unfold okAt;rw[zOk,zAB (by omega)]
   rfl
  obtain⟨_,he⟩:=zJR (n:=n) (by omega) hc.w hc.rng;have hr:=zHr n (docV d) (by have:=hc.w; omega) hc.w hc.rng (zOk d)
  rw[hok,cond_true]at he;have hwd:=zXx n d hn hb;have hrd:=zXn n d hn hb;generalize hcode:(docV d).code=code at *;generalize docV d=v at *
  by_cases hlen:1048576<code.length
  ·rw[zAB (by omega),cond_true]at he;refine⟨true,[],6,hV,h1,?_,?_⟩
   ·obtain⟨ti,⟨q1,q2,q3,q4⟩,rs,dn⟩:=d;obtain⟨v1,v2,v3,v4⟩:=v;unfold zDo;simp only[hV,hwd,he,obs,Bool.not_true,cond_false,show((6:Int) != 0)=true from rfl,cond_true]
   ·obtain⟨ti,⟨q1,q2,q3,q4⟩,rs,dn⟩:=d;obtain⟨v1,v2,v3,v4⟩:=v;unfold zEM;simp only[h1,hrd,hr,obs,Bool.not_true,cond_false,zAB (show(1048576:Int)<(code.length:Int) by omega),cond_true]
  ·rw[zAA (by omega),cond_false]at he;obtain⟨y,d1,d2⟩:=zXL n code (by omega) (by omega)
   have s1:=zXW y n (by omega)
   have s2:=zW8 y n (by omega)
   have e8:(zK9 y).length=8:=rfl;have er:(List.replicate (0:Int).toNat (b8of 0))++[86,67,76,49]=[86,67,76,49]:=rfl;have er2:(List.replicate (0:Int).toNat (b8of 0))=[]:=rfl;have eb:[b8of 86,b8of 67,b8of 76,b8of 49]=[86,67,76,49]:=rfl;have ew:IntKind.i64.wrap (12+(code.length:Int))=12+(code.length:Int):=wrap64_in (by omega) (by omega)
   refine⟨true,[86,67,76,49]++zK9 y++code,0,hV,h1,?_,?_⟩
   ·obtain⟨ti,⟨q1,q2,q3,q4⟩,rs,dn⟩:=d;obtain⟨v1,v2,v3,v4⟩:=v;unfold zDo;have c1:0<=(0:Int)/\(0:Int)<=12+(code.length:Int)/\12+(code.length:Int)<=4294967296:=⟨Int.le_refl _,by omega,by omega⟩
    have c2:([]:List UInt8).length + [(86:UInt8),67,76,49].length<=4294967296:=by
     rw[show([]:List UInt8).length + [(86:UInt8),67,76,49].length=4 from rfl]
     omega
    have c3:([(86:UInt8),67,76,49]++zK9 y).length+code.length<=4294967296:=by
     rw[show([(86:UInt8),67,76,49]++zK9 y).length=12 from rfl]
     omega
    simp only[hV,hwd,he,obs,Bool.not_true,cond_false,show((0:Int) != 0)=false from rfl,ew,er2,List.nil_append,zBn c1,zBn c2,d1,s1,zBn c3]
    exact zBn c2
   ·obtain⟨ti,⟨q1,q2,q3,q4⟩,rs,dn⟩:=d;obtain⟨v1,v2,v3,v4⟩:=v;unfold zEM zHf;simp only[h1,hrd,hr,obs,Bool.not_true,cond_false,zAA (show ¬ (1048576:Int)<(code.length:Int) by omega),d2,s2,eb]
    rw[zBn (by simp only[e8,List.length_cons,List.length_nil]; omega),zBn (by simp only[List.length_append,e8,List.length_cons,List.length_nil]; omega)]
theorem zQb (n:Nat) (hn:200000000<n) (hw:zEH n=some true) (d:Dc) (hb:DBul d) (hc:DCod d):zDr n d=some true:=by
 obtain⟨y,f1,f2⟩:=zVW n (by omega) d hb;cases y with
 | false =>
  obtain⟨ti,⟨q1,q2,q3,q4⟩,rs,dn⟩:=d;unfold zDr;simp only[hw,f1,obs,Bool.not_true,cond_false,Bool.not_false,cond_true]
 | true =>
  obtain⟨b,bs,e,h1,h2,h3,h4⟩:=zWS n hn hb (f2 rfl) hc;obtain⟨ti,⟨q1,q2,q3,q4⟩,rs,dn⟩:=d;unfold zDr;simp only[hw,f1,obs,Bool.not_true,cond_false,h1,h2,h3,h4,beq_self_eq_true,cond_true]
theorem zKt {x:Int} (h1:IntKind.i64.min<=x) (h2:x<=IntKind.i64.max):zMt x:=⟨h1,h2⟩
theorem zHY {i:Int} (h:zMt i):(numV i).rng:=⟨⟨by decide,by decide⟩,h,trivial⟩
theorem zLI (t:List UInt8):(zNg t).rng:=⟨⟨by decide,by decide⟩,⟨by decide,by decide⟩,trivial⟩
theorem zGl {l:List CV} (h:CV.rngs l):(zC1 l).rng:=⟨⟨by decide,by decide⟩,⟨by decide,by decide⟩,h⟩
theorem zPs {l:List Int} (h:∀ i∈l,zMt i):(zIz l).rng:=zGl (CV.rngAll fun v hv=>by
 obtain⟨i,hi,rfl⟩:=List.mem_map.1 hv;exact zHY (h i hi))
mutual
theorem zTG:∀ t:Nd,t.rng->(zGH t).rng
 | .mk k t c ks,h=>by
  rw[zGH]
  exact zGl ⟨zHY h.1,zLI t,zHY h.2.1,zNj ks h.2.2⟩
theorem zNj:∀ l:List Nd,Nd.rngs l->CV.rngs (zF8 l)
 | [],_=>trivial
 | v::vs,h=>⟨zTG v h.1,zNj vs h.2⟩
end
theorem zW2 {c:Cur} (h1:∀ i∈c.1,zMt i) (h2:∀ i∈c.2,zMt i):(curV c).rng:=zGl ⟨zPs h1,zPs h2,trivial⟩
theorem zTr {α:Type}{f:α->CV}{l:List α} (h:∀ x∈l,(f x).rng):(zC1 (l.map f)).rng:=zGl (CV.rngAll fun v hv=>by
 obtain⟨o,ho,rfl⟩:=List.mem_map.1 hv;exact h o ho)
theorem zV7 (i:Int):(numV i).w=1:=by simp[numV,CV.w,CV.ws]
theorem zVC (t:List UInt8):(zNg t).w=t.length+1:=by simp[zNg,CV.w,CV.ws]
theorem zJW (l:List CV):(zC1 l).w=CV.ws l+1:=by simp[zC1,CV.w]
theorem zU7:∀ l:List Int,CV.ws (l.map numV)=2 * l.length
 | []=>rfl
 | i::l=>by
  have:=zU7 l;simp only[List.map_cons,CV.ws,zV7,List.length_cons]
  omega
mutual
theorem zWR:∀ t:Nd,(zGH t).w+1<=3 * zCb t.enc
 | .mk k t c ks=>by
  have:=zS4 ks
  rw[zGH,zJW]
  simp only[CV.ws,zV7,zVC,Nd.enc,zCb,S.bulk]
  omega
theorem zS4:∀ l:List Nd,CV.ws (zF8 l)<=3 * zDf (Nd.encs l)
 | []=>Nat.zero_le _
 | v::vs=>by
  have h1:=zWR v
  have h2:=zS4 vs
  rw[zF8]
  simp only[CV.ws,Nd.encs,zDf]
  omega
end
theorem zX4 (c:Cur):(curV c).w=2 * c.1.length+2 * c.2.length+5:=by
 rw[curV,zJW]
 simp only[CV.ws,zIz,zJW,zU7]
 omega
theorem zU3 {α:Type}{f:α->CV}{g:α->List S} (h:∀ x,(f x).w+1<=4 * zCb (g x)):∀ l:List α,CV.ws (l.map f)<=4 * zDf (l.map g)
 | []=>Nat.zero_le _
 | x::l=>by
  have h1:=h x;have h2:=zU3 h l;simp only[List.map_cons,CV.ws,zDf]
  omega
theorem zJv {n:Nat}{ss:List S} (h:Typed T n 56 ss):∃ l:List Int,ss=[.sl 1 (l.map (irow .i64))]/\∀ i∈l,zMt i:=by
 obtain⟨x,rfl,_,hx⟩:=zUq (T:=T) (k:=.i64) (e:=3) rfl rfl rfl rfl h;exact⟨x,rfl,fun i hi=>zKt (hx i hi).1 (hx i hi).2⟩
theorem zVE {n:Nat}{ss:List S} (h:Typed T n 63 ss):∃ o:Op8,ss=zAs o/\(opV o).rng:=by
 obtain⟨m,rfl,a0,q0,rfl,u0,a1,q1,rfl,u1,a2,q2,rfl,u2,a3,q3,rfl,u3,a4,q4,rfl,u4,a5,q5,rfl,u5,a6,q6,rfl,u6,a7,q7,rfl,u7,rfl⟩:=zFe (T:=T) (t:=63) rfl rfl h;obtain⟨x0,rfl,r0⟩:=zFd (T:=T) (k:=.i64) rfl rfl u0;obtain⟨x1,rfl,r1⟩:=zJv u1;obtain⟨x2,rfl,r2⟩:=zFd (T:=T) (k:=.i64) rfl rfl u2;obtain⟨x3,rfl,r3⟩:=zFd (T:=T) (k:=.i64) rfl rfl u3;obtain⟨x4,rfl,r4⟩:=zS5 (t:=0) u4;obtain⟨x5,rfl,r5⟩:=zFd (T:=T) (k:=.i64) rfl rfl u5;obtain⟨x6,rfl,_⟩:=zKg (T:=T) rfl rfl u6;obtain⟨x7,rfl,_⟩:=zKg (T:=T) rfl rfl u7
 exact⟨(x0,x1,x2,x3,x4,x5,x6,x7),rfl,zGl ⟨zHY (zKt r0.1 r0.2),zPs r1,zHY (zKt r2.1 r2.2),zHY (zKt r3.1 r3.2),zGl (zNj _ r4),zHY (zKt r5.1 r5.2),zLI _,zLI _,trivial⟩⟩
theorem zUr {n:Nat}{ss:List S} (h:Typed T n 55 ss):∃ l:List Op8,ss=[.sl 8 (l.map zAs)]/\∀ o∈l,(opV o).rng:=by
 obtain⟨m,rows,rfl,rfl,_,hr⟩:=zF9 (T:=T) (e:=63) rfl rfl h;obtain⟨ks,rfl,hks⟩:=zKn (f:=zAs) (q:=fun o=>(opV o).rng) (l:=rows) fun r hr'=>zVE (hr r hr')
 exact⟨ks,rfl,hks⟩
theorem zKf {n:Nat}{ss:List S} (h:Typed T n 58 ss):∃ c:Cur,ss=[.sl 1 (c.1.map (irow .i64)),.sl 1 (c.2.map (irow .i64))]/\(curV c).rng:=by
 obtain⟨m,rfl,a0,q0,rfl,u0,a1,q1,rfl,u1,rfl⟩:=zFe (T:=T) (t:=58) rfl rfl h;obtain⟨x0,rfl,r0⟩:=zJv u0;obtain⟨x1,rfl,r1⟩:=zJv u1;exact⟨(x0,x1),rfl,zW2 r0 r1⟩
theorem zP5 {n:Nat}{ss:List S} (h:Typed T n 60 ss):∃ r:Rc,ss=zAm r/\(recV r).rng:=by
 obtain⟨m,rfl,a0,q0,rfl,u0,a1,q1,rfl,u1,a2,q2,rfl,u2,rfl⟩:=zFe (T:=T) (t:=60) rfl rfl h;obtain⟨x0,rfl,r0⟩:=zUr u0;obtain⟨x1,rfl,r1⟩:=zKf u1;obtain⟨x2,rfl,r2⟩:=zKf u2;exact⟨(x0,x1,x2),rfl,zGl ⟨zTr r0,r1,r2,trivial⟩⟩
theorem op_w (o:Op8):(opV o).w+1<=4 * zCb (zAs o):=by
 have h1:=zS4 o.2.2.2.2.1;have h2:=zDW .i64 o.2.1;rw[opV,zJW]
 simp only[CV.ws,zV7,zVC,zIz,zJW,zU7,zAs,zCb,S.bulk]
 omega
theorem zX9 (r:Rc):(recV r).w+1<=4 * zCb (zAm r):=by
 have h0:=zU3 op_w r.1;have i1:=zDW .i64 r.2.1.1;have i2:=zDW .i64 r.2.1.2;have i3:=zDW .i64 r.2.2.1;have i4:=zDW .i64 r.2.2.2;rw[recV,zJW]
 simp only[CV.ws,zJW,zX4,zAm,zCb,S.bulk]
 omega
theorem zNl {n:Nat}{ss:List S} (h:Typed T n 27 ss):∃ d:Dc,ss=zAq d/\(docV d).rng:=by
 obtain⟨m,rfl,a0,q0,rfl,u0,a1,q1,rfl,u1,a2,q2,rfl,u2,a3,q3,rfl,u3,rfl⟩:=zFe (T:=T) (t:=27) rfl rfl h;obtain⟨x0,rfl,_⟩:=zKg (T:=T) rfl rfl u0;obtain⟨⟨y1,y2,y3,y4⟩,rfl,r1⟩:=zWB u1;obtain⟨m',rows,e1,rfl,_,hr⟩:=zF9 (T:=T) (e:=60) rfl rfl u2;obtain⟨ks,rfl,r2⟩:=zKn (f:=zAm) (q:=fun r=>(recV r).rng) (l:=rows) fun r hr'=>zP5 (hr r hr')
 obtain⟨x3,rfl,r3⟩:=zFd (T:=T) (k:=.i64) rfl rfl u3;exact⟨(x0,.mk y1 y2 y3 y4,ks,x3),rfl,zGl ⟨zLI _,zTG _ r1,zHY (zKt r3.1 r3.2),zTr r2,trivial⟩⟩
theorem zX5 (d:Dc):(docV d).w<=4 * zCb (zAq d):=by
 obtain⟨ti,t,rs,dn⟩:=d;have h0:=zU3 zX9 rs;have h1:=zWR t;obtain⟨y1,y2,y3,y4⟩:=t;rw[docV,zJW]
 simp only[CV.ws,zJW,zV7,zVC,zAq,zCb,S.bulk]
 simp only[Nd.enc,zCb,S.bulk]at h1
 omega
theorem zW6 (d:Dc) (hr:(docV d).rng) (h:zCb (zAq d)<=1048576):DCod d:=⟨hr,by have:=zX5 d; omega⟩
theorem zTS (k:Nat):zEH (k+100)=some true:=by
 with_unfolding_all rfl
end Go.Proofs.YtgplhldfbkmmgaaGreat
