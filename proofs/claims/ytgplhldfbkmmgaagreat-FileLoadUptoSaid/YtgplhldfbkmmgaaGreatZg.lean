/-
  Joined out of: PNode, PRow, PWith, PWt, PLeast, PLeast2, PEdit1, PEdit2, PEdit3, PEdit4, PEdit5, PDif4, PEdit7, PHs2, PHs3, PHs4, PR10, PHs6, PFil1, PFil2, PCo1, PCo2, PCo3, PFil5, PFil6, PFil7, PCo4, PCo5, PCo6, PFil8, PFil9, PFilA, PFilB, PFilC, PFAwk.
-/
import Derived.Test.YtgplhldfbkmmgaaGreatZf
set_option linter.unusedVariables false
set_option linter.unusedSimpArgs false
set_option maxHeartbeats 2000000
set_option maxRecDepth 100000
namespace Go.Proofs.YtgplhldfbkmmgaaGreat
open Go.Abs
theorem zQT {F:Nd->Nd->Option Bool}{a b:List Nd} (hF:∀ u∈a,∀ v∈b,∃ y,F u v=some y/\(y=true↔u=v)) (hl:a.length=b.length) (hb:a.length<=1073741824) :
  ∀ (q i:Nat),a.length - i<q->i<=a.length->∃ y,zAS F a b q (i:Int)=some (if y then .go () else .ret false)/\(y=true↔a.drop i=b.drop i)
 | 0,_,h,_=>by omega
 | q+1,i,hq,hi=>by
  unfold zAS
  by_cases h:i<a.length
  ·have h':i<b.length :=(by omega);rw[zAJ (Int.ofNat_lt.2 h),cond_true,zAC h,zAC h']
   obtain⟨y,f1,f2⟩:=hF _ (List.getElem_mem h) _ (List.getElem_mem h')
   have d1:=List.drop_eq_getElem_cons h;have d2:=List.drop_eq_getElem_cons h';rcases e:a[i] with ⟨x1,x2,x3,x4⟩
   rcases e':b[i] with ⟨y1,y2,y3,y4⟩
   rw[e,e']at f1 f2;rw[e]at d1;rw[e']at d2;simp only[obs,f1]
   cases y with
   | false =>
    refine⟨false,rfl,⟨(fun h=>by cases h),fun h=>?_⟩⟩
    rw[d1,d2]at h;exact f2.2 (List.cons.inj h).1
   | true =>
    simp only[Bool.not_true,cond_false]
    rw[zAN (by omega)]
    obtain⟨z,g1,g2⟩:=zQT hF hl hb q (i+1) (by omega) (by omega)
    refine⟨z,g1,?_⟩
    rw[d1,d2,g2,f2.1 rfl]
    simp
  ·rw[zAD (by omega),cond_false]
   obtain rfl:i=a.length :=(by omega);refine⟨true,rfl,?_⟩
   rw[List.drop_length,hl,List.drop_length]
   simp
theorem zIR:∀ N:Nat,(∀ x y:Nd,2 * x.cnt<N->x.cnt<=67108864->∃ r,zCE N x y=some r/\(r=true↔x=y)) /\
  (∀ a b:List Nd,2 * Nd.cnts a+1<N->Nd.cnts a<=67108864->∃ r,zA7 N a b=some r/\(r=true↔a=b))
 | 0=>⟨fun _ _ h _=>by omega,fun _ _ h _=>by omega⟩
 | n+1=>by
  obtain⟨ih1,ih2⟩:=zIR n;refine⟨fun x y h hx=>?_,fun a b h ha=>?_⟩
  ·obtain⟨a,b,c,d⟩:=x;obtain⟨a',b',c',d'⟩:=y;simp only[Nd.cnt]at h hx;obtain⟨r,h1,h2⟩:=ih2 d d' (by omega) (by omega)
   unfold zCE;simp only[h1,obs]
   cases e1:a == a' with
   | false=>exact⟨false,rfl,⟨(fun h=>by cases h),fun h=>by cases h; simp at e1⟩⟩
   | true =>
    cases e2:b == b' with
    | false=>exact⟨false,rfl,⟨(fun h=>by cases h),fun h=>by cases h; simp at e2⟩⟩
    | true =>
     cases e3:c == c' with
     | false=>exact⟨false,rfl,⟨(fun h=>by cases h),fun h=>by cases h; simp at e3⟩⟩
     | true =>
      refine⟨r,rfl,h2.trans ⟨fun h=>?_,fun h=>by cases h; rfl⟩⟩
      rw[eq_of_beq e1,eq_of_beq e2,eq_of_beq e3,h]
  ·unfold zA7;have l1:=Nd.cnts_len a
   by_cases hl:a.length=b.length
   ·obtain⟨y,g1,g2⟩:=zQT (F:=zCE n) (a:=a) (b:=b) (fun u hu v _=>ih1 u v (by have:=Nd.cnts_mem hu; omega) (by have:=Nd.cnts_mem hu; omega)) hl (by omega) n 0 (by omega) (by omega)
    rw[show((0:Nat):Int)=0 from rfl]at g1;rw[hl,bne_self_eq_false,cond_false,g1]
    refine⟨y,by cases y <;> rfl,g2⟩
   ·have:((a.length:Int) != (b.length:Int))=true:=by
     unfold bne;rw[zDY (by omega)]; rfl
    rw[this]
    exact⟨false,rfl,⟨(fun h=>by cases h),fun h=>absurd (congrArg List.length h) hl⟩⟩
theorem zNl {n:Nd}{i s:Int}{p:List Int} (h:¬ (0<=i/\i<n.kids.length)):zB3 n (i::s::p)=none:=by rw[zB3,if_neg h]
theorem zNm {n x:Nd}{i:Nat}{s:Int}{p:List Int} (hx:n.kids[i]? = some x) (h:¬ (0<=s/\s<x.kids.length)):zB3 n ((i:Int)::s::p)=none:=by
 have hl:=(List.getElem?_eq_some_iff.1 hx).1;rw[zB3,if_pos ⟨by omega,by omega⟩]
 simp only[List.getD_eq_getElem?_getD,Int.toNat_natCast,hx,Option.getD_some]
 rw[if_neg h]
theorem zUV {n x z:Nd}{i s:Nat}{p:List Int} (hx:n.kids[i]? = some x) (hz:x.kids[s]? = some z):zB3 n ((i:Int)::(s:Int)::p)=zB3 z p:=by
 have hl:=(List.getElem?_eq_some_iff.1 hx).1;have hl2:=(List.getElem?_eq_some_iff.1 hz).1;rw[zB3,if_pos ⟨by omega,by omega⟩]
 simp only[List.getD_eq_getElem?_getD,Int.toNat_natCast,hx,hz,Option.getD_some]
 rw[if_pos ⟨by omega,by omega⟩]
theorem zXl {α:Type}{l:List α}{i:Int} (h0:0<=i) (h1:i<(l.length:Int)):∃ p:Nat,i=(p:Int)/\∃ h:p<l.length,at? l i=some l[p]:=by
 obtain⟨p,rfl⟩:=Int.eq_ofNat_of_zero_le h0;exact⟨p,rfl,by omega,zAC (by omega)⟩
theorem zQL:∀ (k:Nat) (t:Nd) (path:List Int),path.length<k ->
  (zB3 t path=none/\∃ r,zCC k t.kind t.text t.cols t.kids path=some (.ret (r,false))) ∨
  (zB3 t path=none/\∃ (r:Nd) (p:List Int),p ≠ []/\zCC k t.kind t.text t.cols t.kids path=some (.go (p,r.kind,r.text,r.cols,r.kids))) ∨
  ∃ r,zB3 t path=some r/\zCC k t.kind t.text t.cols t.kids path=some (.go ([],r.kind,r.text,r.cols,r.kids))
 | 0,_,_,h=>by omega
 | k+1,t,path,h=>by
  unfold zCC
  match path,h with
  | [],h=>exact .inr (.inr ⟨t,rfl,rfl⟩)
  | [x],h=>exact .inr (.inl ⟨rfl,t,[x],by simp,rfl⟩)
  | x::y::p,h =>
   have e0:at? (x::y::p) (0:Int)=some x:=rfl;have e1:at? (x::y::p) (1:Int)=some y:=rfl;have e2:(((x::y::p).take (((x::y::p).length:Int)).toNat).drop (2:Int).toNat)=p:=by
    rw[Int.toNat_natCast,List.take_length]; rfl
   rw[zAJ (by simp only[List.length_cons]; omega),cond_true]
   simp only[e0,e1,obs,e2]
   by_cases h1:x<0
   ·rw[zAJ h1]; exact .inl ⟨zNl (fun h=>by omega),_,rfl⟩
   ·rw[zAD h1]
    by_cases h2:(t.kids.length:Int)<=x
    ·rw[zAJ h2]; exact .inl ⟨zNl (fun h=>by omega),_,rfl⟩
    ·rw[zAD h2]
     obtain⟨i,rfl,hi,hg⟩:=zXl (l:=t.kids) (i:=x) (by omega) (by omega)
     rw[hg]
     have hgi:t.kids[i]? = some t.kids[i]:=List.getElem?_eq_getElem hi;generalize t.kids[i]=e at hgi;obtain⟨x1,x2,x3,x4⟩:=e;simp only[cond_false,obs]
     by_cases h3:y<0
     ·rw[zAJ h3]; exact .inl ⟨zNm hgi (fun h=>by omega),_,rfl⟩
     ·rw[zAD h3]
      by_cases h4:(x4.length:Int)<=y
      ·rw[zAJ h4]; exact .inl ⟨zNm hgi (fun h=>by have:y<x4.length:=h.2; omega),_,rfl⟩
      ·rw[zAD h4]
       obtain⟨j,rfl,hj,hg2⟩:=zXl (l:=x4) (i:=y) (by omega) (by omega)
       rw[hg2]
       have hgj:x4[j]? = some x4[j]:=List.getElem?_eq_getElem hj;generalize x4[j]=f at hgj;obtain⟨y1,y2,y3,y4⟩:=f;simp only[cond_false,obs]
       rw[zA2 ⟨by omega,by simp only[List.length_cons]; omega,by omega⟩]
       rw[zUV hgi hgj]
       exact zQL k (.mk y1 y2 y3 y4) p (by simp only[List.length_cons]at h; omega)
theorem zVk (n:Nat) (t:Nd) (path:List Int) (h:path.length<n):∃ r ok,zIr n t path=some (r,ok)/\zB3 t path=bif ok then some r else none:=by
 obtain⟨a,b,c,d⟩:=t;unfold zIr;dsimp only;rcases zQL n (.mk a b c d) path h with ⟨h0,r,h1⟩ | ⟨h0,r,p,hp,h1⟩ | ⟨r,h0,h1⟩
 ·simp only[Nd.kind,Nd.text,Nd.cols,Nd.kids]at h1;rw[h1]
  exact⟨r,false,rfl,h0⟩
 ·obtain⟨r1,r2,r3,r4⟩:=r;simp only[Nd.kind,Nd.text,Nd.cols,Nd.kids]at h1;rw[h1]
  refine⟨.mk r1 r2 r3 r4,false,?_,h0⟩
  have:((p.length:Int) == 0)=false:=beq_eq_false_iff_ne.2 fun e=>hp (List.eq_nil_of_length_eq_zero (by omega))
  simp only[obs,this]
 ·obtain⟨r1,r2,r3,r4⟩:=r;simp only[Nd.kind,Nd.text,Nd.cols,Nd.kids]at h1;rw[h1]
  exact⟨.mk r1 r2 r3 r4,true,rfl,h0⟩
def rowS (t:Nd) (p:List Int):Nd×Int:=if zAF t=true then (match zB3 t p with | some r=>(r,0) | none=>(zEv,8)) else (zEv,1)
theorem zTo:∀ (N:Nat) (p:List Int) (t r:Nd),p.length<N->zB3 t p=some r->r.w<=t.w/\r.cnt<=t.cnt
 | 0,p,_,_,h,_=>by omega
 | N+1,[],t,r,_,h=>by
  rw[zB3]at h;cases h;exact⟨Nat.le_refl _,Nat.le_refl _⟩
 | N+1,[_],t,r,_,h=>by
  rw[zB3]at h;cases h
 | N+1,i::s::p,.mk k tx c ks,r,hN,h=>by
  rw[zB3]at h;split at h
  ·rename_i hi
   replace hi:0<=i/\i<ks.length:=hi;have hi0:i.toNat<ks.length :=(by omega);have hx:ks[i.toNat]? = some ks[i.toNat]:=List.getElem?_eq_getElem hi0;generalize ks[i.toNat]=x at hx;obtain⟨k2,tx2,c2,ks2⟩:=x;simp only[Nd.kids,List.getD_eq_getElem?_getD,hx,Option.getD_some]at h;split at h
   ·rename_i hs
    have hs0:s.toNat<ks2.length :=(by omega);have hz:ks2[s.toNat]? = some ks2[s.toNat]:=List.getElem?_eq_getElem hs0;generalize ks2[s.toNat]=z at hz;rw[hz,Option.getD_some]at h;obtain⟨q1,q2⟩:=zTo N p z r (by simp only[List.length_cons]at hN; omega) h;have m1:=Nd.w_mem (List.mem_of_getElem? hx)
    have m2:=Nd.w_mem (List.mem_of_getElem? hz)
    have n1:=Nd.cnts_mem (List.mem_of_getElem? hx)
    have n2:=Nd.cnts_mem (List.mem_of_getElem? hz)
    simp only[Nd.w,Nd.cnt]at m1 m2 n1 n2 ⊢
    omega
   ·cases h
  ·cases h
theorem zW0 (n:Nat) (t:Nd) (p:List Int) (hp:p.length<n) (hv:zBv n t=some (zAF t)):zJB n t p=some (rowS t p):=by
 obtain⟨r,ok,h1,h2⟩:=zVk n t p hp;obtain⟨k,tx,c,ks⟩:=t;unfold zJB rowS;dsimp only;rw[hv]
 simp only[obs]
 cases hb:zAF (.mk k tx c ks) with
 | false=>rfl
 | true =>
  rw[h1,h2]
  obtain⟨r1,r2,r3,r4⟩:=r;cases ok <;> rfl
theorem zMx {t:Nd} (h:t.cnt<=1000000000):zCr t=some t:=zA2 h
theorem zU3 (n:Nat) (t:Nd) (p:List Int) (hv:zBd n t=some (zAF t)) (hc:t.cnt<=1000000000):zIq n t p=some (rowS t p):=by
 unfold zIq rowS;rw[hv]
 simp only[obs]
 split
 ·cases hf:zB3 t p with
  | none=>rfl
  | some r =>
   have:=(zTo _ p t r (Nat.lt_succ_self _) hf).2;simp only[zMx (Nat.le_trans this hc),obs]
 ·rfl
theorem zOy {α:Type}{l:List α}{i:Nat}{x:α} (h:l[i]? = some x):at? l (i:Int)=some x:=by
 have hl:=(List.getElem?_eq_some_iff.1 h).1;rw[zAC hl,← List.getElem?_eq_getElem hl,h]
theorem zJX {k:Int}{tx:List UInt8}{c:Int}{ks:List Nd}{i:Nat}{x y:Nd} (hi:ks[i]? = some y) (hl:ks.length<=4294967296):zCd (.mk k tx c ks) (i:Int) x=some (.mk k tx c (ks.set i x)):=by
 obtain⟨x1,x2,x3,x4⟩:=x;obtain⟨y1,y2,y3,y4⟩:=y;unfold zCd;dsimp only;rw[zA2 (by simpa using hl),zOy hi]
 simp only[obs,Int.toNat_natCast]
def zVA (t:Nd) (p:List Int) (r:Nd):Nd×Int:=if zAF t=true then (match zB3 t p with
 | some _=>if zAF r=true then (if zAF (putL t p r)=true then (putL t p r,0) else (zEv,6)) else (zEv,4)
 | none=>(zEv,8)) else (zEv,1)
theorem zTD (n:Nat) (t:Nd) (p:List Int) (r:Nd) (hv:zBd n t=some (zAF t)) (hr:zBd n r=some (zAF r)) (hp:∀ z,Fd t p z->zBd n (putL t p r)=some (zAF (putL t p r))) (hc:t.cnt<=1000000000) (hcr:r.cnt<=1000000000) :
  zFW n t p r=some (zVA t p r):=by
 unfold zFW zVA;rw[hv,zMx hc,hr,zMx hcr]
 simp only[obs]
 split
 ·cases hf:zB3 t p with
  | none=>rfl
  | some z =>
   dsimp only;rw[hp z (zZT hf)]
   simp only[obs]
   split
   ·split <;> rfl
   ·rfl
 ·rfl
theorem zZl {t z r:Nd}{p:List Int} (hv:zAF t=true) (h:zB3 t p=some z) (hr:zAF r=true) (hp:zAF (putL t p r)=true):zVA t p r=(putL t p r,0):=by unfold zVA; rw[if_pos hv,h]; dsimp only; rw[if_pos hr,if_pos hp]
abbrev Op8:=Int×List Int×Int×Int×List Nd×Int×List UInt8×List UInt8
def Op8.nodes (o:Op8):List Nd:=o.2.2.2.2.1
theorem take3 {α:Type} (l:List α){p q:Nat} (h:p<=q):(l.take p++(l.take q).drop p)++l.drop q=l:=by
 have:l.take p=(l.take q).take p :=(by rw[List.take_take,Nat.min_eq_left h]);rw[this,List.take_append_drop,List.take_append_drop]
theorem zUr (l by':List Nd){p q:Nat} (h:p<=q):Nd.ws ((l.take p++by')++l.drop q)+Nd.ws ((l.take q).drop p)=Nd.ws l+Nd.ws by':=by
 have:=congrArg Nd.ws (take3 l h)
 rw[Nd.ws_append,Nd.ws_append]at this ⊢
 omega
theorem zYn (l by':List Nd) (p q:Nat) (hp:p<=l.length) (hq:q<=l.length) (hl:l.length<=1073741824) (hb:by'.length<=1073741824) :
  zCG l (p:Int) (q:Int) by'=some ((l.take p++by')++l.drop q):=by
 unfold zCG;dsimp only;have e1:(l.take (p:Int).toNat).drop (0:Int).toNat=l.take p :=(by simp);have e2:(l.take (l.length:Int).toNat).drop (q:Int).toNat=l.drop q :=(by simp);rw[e1,e2,zA2 ⟨by omega,by omega,by omega⟩,zA2 (by simp; omega),zA2 (by simp; omega),zA2 ⟨by omega,by omega,by omega⟩,zA2 (by simp; omega)]
theorem zUN (t:Nd) (i:Nat) (v:Nd) (h:i<t.kids.length) (hl:t.kids.length<=1073741824):zCd t (i:Int) v=some (.mk t.kind t.text t.cols (t.kids.set i v)):=by
 obtain⟨a,b,c,d⟩:=t;obtain⟨a',b',c',d'⟩:=v;simp only[Nd.kids]at h hl;unfold zCd;simp only;rw[zA2 (by simp; omega),zAC h]
 rcases e:d[i] with ⟨x1,x2,x3,x4⟩
 simp only[obs,Int.toNat_natCast,Nd.kind,Nd.text,Nd.cols,Nd.kids]
theorem zTn (t:Nd) (i:Nat) (l:List Nd) (h:i<t.kids.length) (hl:t.kids.length<=1073741824) (hl2:l.length<=1073741824):zEs t (i:Int) l=some (.mk t.kind t.text t.cols (t.kids.set i (.mk 1 [] 0 l))):=by
 have:=zUN t i (.mk 1 [] 0 l) h hl;obtain⟨a,b,c,d⟩:=t;unfold zEs;simp only[zE7,obs]
 rw[zA2 (by simp; omega),this]
 rfl
theorem zZm {α:Type}{l:List α}{i:Int} (h0:0<=i) (h1:i<(l.length:Int)):∃ p:Nat,i=(p:Int)/\∃ h:p<l.length,at? l i=some l[p]:=by
 obtain⟨p,rfl⟩:=Int.eq_ofNat_of_zero_le h0;exact⟨p,rfl,by omega,zAC (by omega)⟩
theorem zHQ (t:Nd):t.w=t.text.length+Nd.ws t.kids+1:=by cases t; rfl
theorem zZv (l:List Nd){p q:Nat} (h:p<=q):Nd.ws ((l.take q).drop p)<=Nd.ws l:=by
 have:=zUr l [] h;simp only[Nd.ws]at this; omega
theorem zVv (l:List Nd){p:Nat} (h:p<l.length):(l.take (p+1)).drop p=[l[p]]:=by
 rw[List.take_succ_eq_append_getElem h,List.drop_append_of_le_length (by simp; omega),List.drop_take]
 simp
def splS (l:List Nd) (p q:Nat) (b:List Nd):List Nd:=(l.take p++b)++l.drop q
def segS (l:List Nd) (p q:Nat):List Nd:=(l.take q).drop p
def rowN (l:List Nd):Nd:=.mk 1 [] 0 l
def zJc (v:Nd) (s:Nat) (l:List Nd):Nd:=.mk v.kind v.text v.cols (v.kids.set s (rowN l))
def zWL (k:Int):Bool:=(k == 2)||((k == 3)||((k == 4)||((k == 10)||(k == 11))))
def zEJ (k m:Int) (nodes:List Nd):Int:=if k=1 then 0 else if k=2 then nodes.length else if k=3 then m else 1
def zVE (nodes:List Nd) (slot:Int):Prop:=∃ (v:Nd) (s:Nat) (z:Nd),nodes=[v]/\slot=(s:Int)/\zAF (rowN [v])=true/\v.kids[s]? = some z/\z.kids=[]
def FormP:Op8->Prop
 | (k,_,_,m,nodes,slot,old,text) =>
  ((k=1∨k=2)/\nodes ≠ []/\zAF (rowN nodes)=true/\m=0/\slot=0/\old=[]/\text=[]) ∨
  ((k=3∨k=4)/\0<=m/\zVE nodes slot/\old=[]/\text=[]) ∨
  (k=5/\old ≠ text/\nodes=[]/\m=0/\slot=0)
inductive Chg (l:List Nd):Op8->List Nd->Int->Prop
 | range {k:Int} {row:List Int} {a m:Int} {nodes:List Nd} {slot:Int} {old text:List UInt8} (h:a<0∨(l.length:Int)<a∨(l.length:Int) - a<zEJ k m nodes):Chg l (k,row,a,m,nodes,slot,old,text) [] 2
 | ins {row:List Int} {p:Nat} {m:Int} {nodes:List Nd} {slot:Int} {old text:List UInt8} (h:p<=l.length):Chg l (1,row,(p:Int),m,nodes,slot,old,text) (splS l p p nodes) 0
 | del {row:List Int} {p:Nat} {m:Int} {nodes:List Nd} {slot:Int} {old text:List UInt8} (h:p+nodes.length<=l.length) (he:segS l p (p+nodes.length)=nodes):Chg l (2,row,(p:Int),m,nodes,slot,old,text) (splS l p (p+nodes.length) []) 0
 | del_no {row:List Int} {p:Nat} {m:Int} {nodes:List Nd} {slot:Int} {old text:List UInt8} (h:p+nodes.length<=l.length) (he:segS l p (p+nodes.length) ≠ nodes):Chg l (2,row,(p:Int),m,nodes,slot,old,text) [] 7
 | wrap {row:List Int} {p m:Nat} {v:Nd} {s:Nat} {old text:List UInt8} (h:p+m<=l.length):Chg l (3,row,(p:Int),(m:Int),[v],(s:Int),old,text) (splS l p (p+m) [zJc v s (segS l p (p+m))]) 0
 | unwrap {row:List Int} {p:Nat} {m:Int} {v it z:Nd} {s:Nat} {old text:List UInt8} (h:l[p]? = some it) (hz:it.kids[s]? = some z) (hm:(z.kids.length:Int)=m) (he:it=zJc v s z.kids):Chg l (4,row,(p:Int),m,[v],(s:Int),old,text) (splS l p (p+1) z.kids) 0
 | unwrap_no {row:List Int} {p:Nat} {m:Int} {v it:Nd} {s:Nat} {old text:List UInt8} (h:l[p]? = some it) (hz:∀ z,it.kids[s]? = some z->(z.kids.length:Int)=m->it ≠ zJc v s z.kids):Chg l (4,row,(p:Int),m,[v],(s:Int),old,text) [] 7
 | set {row:List Int} {p:Nat} {m:Int} {nodes:List Nd} {it:Nd} {slot:Int} {old text:List UInt8} (h:l[p]? = some it) (hl:zWL it.kind=true) (he:it.text=old):Chg l (5,row,(p:Int),m,nodes,slot,old,text) (splS l p (p+1) [.mk it.kind text it.cols it.kids]) 0
 | set_no {row:List Int} {p:Nat} {m:Int} {nodes:List Nd} {it:Nd} {slot:Int} {old text:List UInt8} (h:l[p]? = some it) (hl:¬ (zWL it.kind=true/\it.text=old)):Chg l (5,row,(p:Int),m,nodes,slot,old,text) [] 7
inductive App (t:Nd):Op8->Nd->Int->Prop
 | arg {o:Op8} (h:zAF t=false):App t o zEv 1
 | form {o:Op8} (h:zAF t=true) (hf:¬ FormP o):App t o zEv 4
 | none {o:Op8} (h:zAF t=true) (hf:FormP o) (hn:zB3 t o.2.1=Option.none):App t o zEv 8
 | chg {o:Op8} {r:Nd} {l:List Nd} {e:Int} (h:zAF t=true) (hf:FormP o) (hr:Fd t o.2.1 r) (hc:Chg r.kids o l e) (he:e ≠ 0):App t o zEv e
 | limit {o:Op8} {r:Nd} {l:List Nd} (h:zAF t=true) (hf:FormP o) (hr:Fd t o.2.1 r) (hc:Chg r.kids o l 0) (hv:zAF (putL t o.2.1 (rowN l))=false):App t o zEv 6
 | ok {o:Op8} {r:Nd} {l:List Nd} (h:zAF t=true) (hf:FormP o) (hr:Fd t o.2.1 r) (hc:Chg r.kids o l 0) (hv:zAF (putL t o.2.1 (rowN l))=true):App t o (putL t o.2.1 (rowN l)) 0
theorem Chg.w {l l':List Nd}{k:Int}{row:List Int}{a m:Int}{nodes:List Nd}{slot:Int}{old text:List UInt8}{e:Int} (h:Chg l (k,row,a,m,nodes,slot,old,text) l' e):Nd.ws l'<=Nd.ws l+Nd.ws nodes+text.length+3/\l'.length<=l.length+Nd.ws nodes+Nd.ws l+1:=by
 have key:∀ p q b,p<=q->Nd.ws (splS l p q b)+Nd.ws (segS l p q)=Nd.ws l+Nd.ws b:=fun p q b h=>zUr l b h
 have hlen:∀ l':List Nd,l'.length<=Nd.ws l':=Nd.ws_len
 have h1:Nd.ws l'<=Nd.ws l+Nd.ws nodes+text.length+3:=by
  cases h with
  | range=>simp only[Nd.ws]; omega
  | @ins _ p _ _ _ _ _ h=>have:=key p p nodes (Nat.le_refl _); omega
  | @del _ p _ _ _ _ _ h he=>have:=key p (p+nodes.length) [] (Nat.le_add_right _ _); simp only[Nd.ws]at this; omega
  | del_no=>simp only[Nd.ws]; omega
  | @wrap _ p m v s _ _ h =>
   have:=key p (p+m) [zJc v s (segS l p (p+m))] (Nat.le_add_right _ _)
   have hf:(zJc v s (segS l p (p+m))).w<=v.w+Nd.ws (segS l p (p+m))+1:=by
    rw[zHQ v]
    simp only[zJc,rowN,Nd.w]
    by_cases hs:s<v.kids.length
    ·have:=zPC (ks:=v.kids) (i:=s) (y:=.mk 1 [] 0 (segS l p (p+m))) (List.getElem?_eq_getElem hs)
     simp only[Nd.w,List.length_nil]at this
     omega
    ·rw[List.set_eq_of_length_le (by omega)]; omega
   simp only[Nd.ws]at this ⊢
   omega
  | @unwrap _ p _ v it z s _ _ h hz hm he =>
   have:=key p (p+1) z.kids (Nat.le_add_right _ _)
   have hsg:segS l p (p+1)=[it]:=by
    have:=zVv l (List.getElem?_eq_some_iff.1 h).1;rw[segS,this,(List.getElem?_eq_some_iff.1 h).2]
   have w1:=Nd.w_mem (List.mem_of_getElem? hz)
   have w2:=zHQ z;have w3:=zHQ it;rw[hsg]at this;simp only[Nd.ws]at this
   omega
  | unwrap_no=>simp only[Nd.ws]; omega
  | @set _ p _ _ it _ _ _ h hl he =>
   have:=key p (p+1) [.mk it.kind text it.cols it.kids] (Nat.le_add_right _ _)
   have hsg:segS l p (p+1)=[it]:=by
    have:=zVv l (List.getElem?_eq_some_iff.1 h).1;rw[segS,this,(List.getElem?_eq_some_iff.1 h).2]
   have w3:=zHQ it;rw[hsg]at this;simp only[Nd.ws,Nd.w]at this
   omega
  | set_no=>simp only[Nd.ws]; omega
 refine⟨h1,?_⟩
 cases h with
 | range=>simp
 | @ins _ p _ _ _ _ _ h=>have:=hlen nodes; simp only[splS,List.length_append,List.length_take,List.length_drop]; omega
 | @del _ p _ _ _ _ _ h he=>simp only[splS,List.length_append,List.length_take,List.length_drop,List.length_nil]; omega
 | del_no=>simp
 | @wrap _ p m v s _ _ h=>simp only[splS,List.length_append,List.length_take,List.length_drop,List.length_cons,List.length_nil]; omega
 | @unwrap _ p _ v it z s _ _ h hz hm he =>
  have w1:=Nd.w_mem (List.mem_of_getElem? hz)
  have w4:=Nd.w_mem (List.mem_of_getElem? h)
  have w2:=zHQ z;have w3:=zHQ it;have:=hlen z.kids;simp only[splS,List.length_append,List.length_take,List.length_drop]; omega
 | unwrap_no=>simp
 | @set _ p _ _ it _ _ _ h hl he=>simp only[splS,List.length_append,List.length_take,List.length_drop,List.length_cons,List.length_nil]; omega
 | set_no=>simp
theorem zMn (n:Nat) (nodes:List Nd) (h:Nd.ws nodes+50<n) (hb:Nd.ws nodes<=67000000):zC5 n nodes=some (zAF (rowN nodes)):=by
 unfold zC5;simp only[zE7,obs]
 rw[zFn n _ (by simp only[Nd.w,List.length_nil]; omega) (by simp only[Nd.w,List.length_nil]; omega)]; rfl
theorem zPj (n:Nat) (l:List Nd) (slot:Int) (h:Nd.ws l+50<n) (hb:Nd.ws l<=67000000):∃ b,zEZ n l slot=some b/\(b=true↔zVE l slot):=by
 unfold zEZ;dsimp only;cases e1:((l.length:Int) == 1) with
 | false=>exact⟨false,rfl,(fun h=>by cases h),fun⟨v,s,z,h,_⟩=>by rw[h]at e1; cases e1⟩
 | true =>
  have hl:l.length=1 :=(by have:=eq_of_beq e1; omega);obtain⟨v,rfl⟩:=List.length_eq_one_iff.1 hl;have hv:=zMn n [v] h hb;obtain⟨a,b,c,d⟩:=v;have h0:at? [Nd.mk a b c d] (0:Int)=some (Nd.mk a b c d):=rfl;simp only[cond_true,hv,obs,h0]
  cases hvb:zAF (rowN [.mk a b c d]) with
  | false=>exact⟨false,rfl,(fun h=>by cases h),fun⟨v,s,z,h,_,h2,_⟩=>by cases h; rw[hvb]at h2; cases h2⟩
  | true =>
   by_cases h1:0<=slot
   ·by_cases h2:slot<(d.length:Int)
    ·obtain⟨p,rfl,hp,hg⟩:=zZm h1 h2;simp only[cond_true,zAJ h1,zAJ h2,hg,obs]
     have hz:d[p]? = some d[p]:=List.getElem?_eq_getElem hp;generalize d[p]=z at hz;obtain⟨x1,x2,x3,x4⟩:=z;refine⟨_,rfl,fun h=>⟨_,p,_,rfl,rfl,hvb,hz,?_⟩,fun⟨v,s,z,h,hs,_,hz',hk⟩=>?_⟩
     ·have:=eq_of_beq h;exact List.eq_nil_of_length_eq_zero (by simp only[Nd.kids]; omega)
     ·cases h;obtain rfl:p=s :=(by omega);simp only[Nd.kids]at hz';rw[hz]at hz';cases hz';simp only[Nd.kids]at hk;subst hk
      rfl
    ·simp only[cond_true,zAJ h1,zAD h2]
     refine⟨false,rfl,(fun h=>by cases h),fun⟨v,s,z,h,hs,_,hz,_⟩=>?_⟩
     cases h;have:=(List.getElem?_eq_some_iff.1 hz).1;simp only[Nd.kids]at this
     omega
   ·simp only[cond_true,zAD h1]
    refine⟨false,rfl,(fun h=>by cases h),fun⟨v,s,z,h,hs,_⟩=>?_⟩
    omega
theorem zSk (n:Nat) (k:Int) (row:List Int) (at' m:Int) (nodes:List Nd) (slot:Int) (old text:List UInt8) (h:Nd.ws nodes+50<n) (hb:Nd.ws nodes<=67000000) :
  ∃ b,zGj n (k,row,at',m,nodes,slot,old,text)=some b/\(b=true↔FormP (k,row,at',m,nodes,slot,old,text)):=by
 have hv:=zMn n nodes h hb;obtain⟨tb,t1,t2⟩:=zPj n nodes slot h hb;have hlen:decide (0<(nodes.length:Int))=true↔nodes ≠ [] :=(by cases nodes <;> simp);have hlen0:((nodes.length:Int) == 0)=true↔nodes=[] :=(by cases nodes <;> simp <;> omega);unfold zGj;simp only[hv,t1,obs,FormP]
 by_cases k12:k=1∨k=2
 ·have e:(bif (k == 1) then some (k == 1) else some (k == 2):Option Bool)=some true:=by rcases k12 with rfl | rfl <;> rfl
  have hk:¬ (k=3∨k=4)/\¬ k=5 :=(by omega);rw[e]
  simp only[obs,cond_true,k12,hk.1,hk.2,true_and,false_and,or_false]
  rw[← hlen]
  generalize decide (0<(nodes.length:Int))=b1;generalize zAF (rowN nodes)=b2;cases b1 <;> cases b2 <;> simp only[cond_true,cond_false,obs] <;> try exact⟨false,rfl,by simp⟩
  cases e1:m == 0 <;> simp only[cond_true,cond_false,obs]
  ·exact⟨false,rfl,by simp[beq_eq_false_iff_ne.1 e1]⟩
  cases e2:slot == 0 <;> simp only[cond_true,cond_false,obs]
  ·exact⟨false,rfl,by simp[beq_eq_false_iff_ne.1 e2]⟩
  cases e3:old == [] <;> simp only[cond_true,cond_false,obs]
  ·exact⟨false,rfl,by simp[beq_eq_false_iff_ne.1 e3]⟩
  refine⟨_,rfl,?_⟩
  rw[eq_of_beq e1,eq_of_beq e2,eq_of_beq e3]
  simp
 ·have e:(bif (k == 1) then some (k == 1) else some (k == 2):Option Bool)=some false:=by
   rw[zDY (fun h=>k12 (.inl h)),zDY (fun h=>k12 (.inr h))]; rfl
  rw[e]
  simp only[obs,cond_false,k12,false_and,false_or]
  by_cases k34:k=3∨k=4
  ·have e:(bif (k == 3) then some (k == 3) else some (k == 4):Option Bool)=some true:=by rcases k34 with rfl | rfl <;> rfl
   have hk:¬ k=5 :=(by omega);rw[e]
   simp only[obs,cond_true,k34,hk,true_and,false_and,or_false]
   rw[← t2]
   by_cases hm:0<=m
   ·rw[zAJ hm]
    cases tb <;> simp only[cond_true,cond_false,obs]
    ·exact⟨false,rfl,by simp⟩
    cases e3:old == [] <;> simp only[cond_true,cond_false,obs]
    ·exact⟨false,rfl,by simp[beq_eq_false_iff_ne.1 e3]⟩
    refine⟨_,rfl,?_⟩
    rw[eq_of_beq e3]
    simp[hm]
   ·rw[zAD hm]
    exact⟨false,rfl,by simp[hm]⟩
  ·have e:(bif (k == 3) then some (k == 3) else some (k == 4):Option Bool)=some false:=by
    rw[zDY (fun h=>k34 (.inl h)),zDY (fun h=>k34 (.inr h))]; rfl
   rw[e]
   simp only[obs,cond_false,k34,false_and,false_or]
   by_cases k5:k=5
   ·subst k5;simp only[beq_self_eq_true,cond_true,obs,true_and]
    rw[← hlen0]
    generalize ((nodes.length:Int) == 0)=b1;cases e0:old == text <;> simp only[Bool.not_true,Bool.not_false,cond_true,cond_false,obs]
    ·have:=beq_eq_false_iff_ne.1 e0;cases b1 <;> simp only[cond_true,cond_false,obs]
     ·exact⟨false,rfl,by simp⟩
     cases e1:m == 0 <;> simp only[cond_true,cond_false,obs]
     ·exact⟨false,rfl,by simp[beq_eq_false_iff_ne.1 e1]⟩
     refine⟨_,rfl,?_⟩
     rw[eq_of_beq e1]
     simp[this]
    ·exact⟨false,rfl,by simp[eq_of_beq e0]⟩
   ·rw[zDY k5]
    exact⟨false,rfl,by simp[k5]⟩
theorem zVT (k:Int):(bif (k == 2) then some (k == 2) else bif (k == 3) then some (k == 3) else bif (k == 4) then some (k == 4) else bif (k == 10) then some (k == 10) else some (k == 11):Option Bool)=some (zWL k):=by
 unfold zWL;cases e1:k == 2 <;> cases e2:k == 3 <;> cases e3:k == 4 <;> cases e4:k == 10 <;> rfl
theorem zV2 (k m:Int) (nodes:List Nd):(bif (k == 1) then some 0 else bif (k == 2) then some (nodes.length:Int) else bif (k == 3) then some m else some 1:Option Int)=some (zEJ k m nodes):=by
 unfold zEJ
 by_cases k1:k=1
 ·subst k1; rfl
 by_cases k2:k=2
 ·subst k2; rfl
 by_cases k3:k=3
 ·subst k3; rfl
 rw[zDY k1,zDY k2,zDY k3,if_neg k1,if_neg k2,if_neg k3]; rfl
theorem zU1 {k:Int}{row:List Int}{a m:Int}{nodes:List Nd}{slot:Int}{old text:List UInt8} (hf:FormP (k,row,a,m,nodes,slot,old,text)):0<=zEJ k m nodes:=by
 unfold zEJ;rcases hf with ⟨rfl | rfl,_⟩ | ⟨rfl | rfl,hm,_⟩ | ⟨rfl,_⟩ <;> simp <;> omega
theorem zSl (n:Nat) (l:List Nd) (k:Int) (row:List Int) (a m:Int) (nodes:List Nd) (slot:Int) (old text:List UInt8) (hf:FormP (k,row,a,m,nodes,slot,old,text)) (hn:2 * Nd.ws l+2 * Nd.ws nodes+50<n) (ha:Nd.ws l<=60000000) (hb:Nd.ws nodes<=2000000) :
  ∃ l' e,zGk n l (k,row,a,m,nodes,slot,old,text)=some (l',e)/\Chg l (k,row,a,m,nodes,slot,old,text) l' e:=by
 have la:=Nd.ws_len l;have lb:=Nd.ws_len nodes;have cl:=Nd.cnts_ws l;have cb:=Nd.cnts_ws nodes;have hnn:=zU1 hf;unfold zGk;dsimp only;rw[zV2]
 simp only[obs]
 by_cases h1:a<0
 ·rw[zAJ h1]; exact⟨[],2,rfl,.range (.inl h1)⟩
 rw[zAD h1]
 by_cases h2:(l.length:Int)<a
 ·rw[zAJ h2]; exact⟨[],2,rfl,.range (.inr (.inl h2))⟩
 rw[zAD h2,wrap64_in (n:=(l.length:Int) - a) (by omega) (by omega)]
 by_cases h3:(l.length:Int) - a<zEJ k m nodes
 ·rw[zAJ h3]; exact⟨[],2,rfl,.range (.inr (.inr h3))⟩
 rw[zAD h3]
 simp only[cond_false,obs]
 obtain⟨p,rfl⟩:=Int.eq_ofNat_of_zero_le (show 0<=a by omega)
 obtain⟨y,hy⟩:=Int.eq_ofNat_of_zero_le hnn;rw[hy]at h3 ⊢;rw[wrap64_in (n:=(p:Int)+(y:Int)) (by omega) (by omega),← Int.natCast_add]
 have hseg:=zZv l (Nat.le_add_right p y)
 have lseg:=Nd.ws_len ((l.take (p+y)).drop p)
 have cseg:=Nd.cnts_ws ((l.take (p+y)).drop p)
 have hsp:∀ by':List Nd,by'.length<=1073741824->zCG l (p:Int) ((p+y:Nat):Int) by'=some (splS l p (p+y) by'):=fun by' hby=>zYn l by' p (p+y) (by omega) (by omega) (by omega) hby
 rcases hf with ⟨rfl | rfl,h0⟩ | ⟨rfl | rfl,hm,⟨v,s,z,rfl,rfl,hvv,hz,hzk⟩,_⟩ | ⟨rfl,h0⟩
 ·obtain rfl:y=0 :=(by have:zEJ 1 m nodes=0:=rfl; omega);simp only[beq_self_eq_true,cond_true,Nat.add_zero]at hsp ⊢;rw[hsp nodes (by omega)]
  exact⟨_,0,rfl,.ins (by omega)⟩
 ·obtain rfl:y=nodes.length :=(by have:zEJ 2 m nodes=(nodes.length:Int):=rfl; omega);simp only[show((2:Int) == 1)=false from rfl,cond_false,beq_self_eq_true,cond_true,Int.toNat_natCast]
  rw[zA2 ⟨by omega,by omega,by omega⟩]
  obtain⟨r,g1,g2⟩:=(zLw n).2 ((l.take (p+nodes.length)).drop p) nodes (by omega) (by omega)
  rw[g1]
  simp only[obs]
  cases r with
  | false=>exact⟨[],7,rfl,.del_no (by omega) fun e=>by have:=g2.2 e; cases this⟩
  | true =>
   simp only[Bool.not_true,cond_false,hsp [] (by simp),obs]
   exact⟨_,0,rfl,.del (by omega) (g2.1 rfl)⟩
 ·obtain rfl:m=(y:Int):=hy;have hs:=(List.getElem?_eq_some_iff.1 hz).1;have hfe:=zTn v s ((l.take (p+y)).drop p) hs (by have:=Nd.ws_len v.kids; have:=zHQ v; simp only[Nd.ws]at lb hb; omega) (by omega)
  have hv0:at? [v] (0:Int)=some v:=rfl;obtain⟨v1,v2,v3,v4⟩:=v;simp only[show((3:Int) == 1)=false from rfl,show((3:Int) == 2)=false from rfl,cond_false,beq_self_eq_true,cond_true,Int.toNat_natCast,hv0,obs]
  rw[zA2 ⟨by omega,by omega,by omega⟩,hfe]
  simp only[obs]
  rw[hsp _ (by simp)]
  exact⟨_,0,rfl,.wrap (by omega)⟩
 ·obtain rfl:y=1 :=(by have:zEJ 4 m [v]=1:=rfl; omega);have hs:=(List.getElem?_eq_some_iff.1 hz).1;have hv0:at? [v] (0:Int)=some v:=rfl;have hpl:p<l.length :=(by omega);have hit:l[p]? = some l[p]:=List.getElem?_eq_getElem hpl;have hia:at? l (p:Int)=some l[p]:=zAC hpl;generalize l[p]=it at hit hia;have hiw:=Nd.w_mem (List.mem_of_getElem? hit)
  have hic:=Nd.cnt_w it;have hlk:=Nd.ws_len v.kids;have hwv:=zHQ v;simp only[Nd.ws]at hb hn;have hfe:∀ l':List Nd,l'.length<=1073741824->zEs v (s:Int) l'=some (zJc v s l'):=fun l' hl'=>zTn v s l' hs (by omega) hl'
  have heq:∀ x:Nd,∃ r,zB6 n it x=some r/\(r=true↔it=x):=fun x=>(zLw n).1 it x (by omega) (by omega)
  obtain⟨i1,i2,i3,i4⟩:=it;have hwi:(Nd.mk i1 i2 i3 i4).w=i2.length+Nd.ws i4+1:=rfl;have hlk4:=Nd.ws_len i4;obtain⟨v1,v2,v3,v4⟩:=v;simp only[show((4:Int) == 1)=false from rfl,show((4:Int) == 2)=false from rfl,show((4:Int) == 3)=false from rfl,cond_false,beq_self_eq_true,cond_true,hia,obs,hv0]
  by_cases hsl:(i4.length:Int)<=(s:Int)
  ·rw[zAJ hsl]
   refine⟨[],7,rfl,.unwrap_no hit fun z' hz'=>?_⟩
   have:=(List.getElem?_eq_some_iff.1 hz').1;simp only[Nd.kids]at this
   omega
  rw[zAD hsl]
  have hsi:s<i4.length :=(by omega);have hzi:i4[s]? = some i4[s]:=List.getElem?_eq_getElem hsi;have hza:at? i4 (s:Int)=some i4[s]:=zAC hsi;generalize i4[s]=z' at hzi hza;have hzw:=Nd.w_mem (List.mem_of_getElem? hzi)
  have hzw2:=zHQ z';have hzl:=Nd.ws_len z'.kids;have hfe':=hfe z'.kids (by omega)
  obtain⟨rb,g1,g2⟩:=heq (zJc (.mk v1 v2 v3 v4) s z'.kids)
  have hsp':=hsp z'.kids (by omega)
  obtain⟨z1,z2,z3,z4⟩:=z';simp only[Nd.kids]at hfe' hsp' g1 g2;simp only[cond_false,hza,obs]
  by_cases hmz:(z4.length:Int)=m
  ·have:((z4.length:Int) != m)=false :=(by unfold bne; rw[beq_iff_eq.2 hmz]; rfl);rw[this]
   simp only[cond_false,hfe',obs]
   have hfx:zJc (.mk v1 v2 v3 v4) s z4 = .mk v1 v2 v3 (v4.set s (rowN z4)):=rfl;rw[hfx]at g1 g2 ⊢;simp only[obs,g1]
   cases rb with
   | false =>
    refine⟨[],7,rfl,.unwrap_no hit fun z'' hz'' hm'' he=>?_⟩
    simp only[Nd.kids]at hz'';rw[hzi]at hz'';cases hz'';have:=g2.2 he;cases this
   | true =>
    simp only[Bool.not_true,cond_false,hsp',obs]
    exact⟨_,0,rfl,.unwrap (z:=.mk z1 z2 z3 z4) hit hzi hmz (g2.1 rfl)⟩
  ·have:((z4.length:Int) != m)=true:=bne_iff_ne.2 hmz;rw[this]
   refine⟨[],7,rfl,.unwrap_no hit fun z'' hz'' hm'' he=>?_⟩
   simp only[Nd.kids]at hz'';rw[hzi]at hz'';cases hz'';exact hmz hm''
 ·obtain rfl:y=1 :=(by have:zEJ 5 m nodes=1:=rfl; omega);have hpl:p<l.length :=(by omega);have hit:l[p]? = some l[p]:=List.getElem?_eq_getElem hpl;have hia:at? l (p:Int)=some l[p]:=zAC hpl;generalize l[p]=it at hit hia;obtain⟨i1,i2,i3,i4⟩:=it;simp only[show((5:Int) == 1)=false from rfl,show((5:Int) == 2)=false from rfl,show((5:Int) == 3)=false from rfl,show((5:Int) == 4)=false from rfl,cond_false,hia,obs,zVT]
  cases hlf:zWL i1 with
  | false=>exact⟨[],7,rfl,.set_no hit fun h=>by have:=h.1; simp only[Nd.kind]at this; rw[hlf]at this; cases this⟩
  | true =>
   simp only[cond_true]
   cases ht:i2 == old with
   | false=>exact⟨[],7,rfl,.set_no hit fun h=>beq_eq_false_iff_ne.1 ht h.2⟩
   | true =>
    simp only[cond_true,hsp [Nd.mk i1 text i3 i4] (by simp),obs]
    exact⟨_,0,rfl,.set (it:=.mk i1 i2 i3 i4) hit hlf (eq_of_beq ht)⟩
theorem zW2 {t z:Nd}{p:List Int} (h:Fd t p z) (l:List Nd):∀ n,p.length<n->t.cnt<=4294967296->zGl n t p l=some (putL t p (rowN l)):=by
 induction h with
 | nil t =>
  intro n hn _;obtain⟨n,rfl⟩:∃ m,n=m+1:=⟨n - 1,by omega⟩
  rw[zJW]
  obtain⟨t1,t2,t3,t4⟩:=t;unfold zGl
  rfl
 | @step k tx c ks i k2 tx2 c2 ks2 s z r' p hi hs _ ih =>
  intro n hn hc;obtain⟨n,rfl⟩:∃ m,n=m+1:=⟨n - 1,by omega⟩
  have n1:=Nd.cnts_mem (List.mem_of_getElem? hi)
  have n2:=Nd.cnts_mem (List.mem_of_getElem? hs)
  have l1:=Nd.cnts_len ks;have l2:=Nd.cnts_len ks2;simp only[Nd.cnt]at hc n1;have ih:=ih n (by simp only[List.length_cons]at hn; omega) (by omega)
  rw[zF0 hi hs]
  have e1:((((i:Int)::(s:Int)::p).length:Int) == 0)=false:=zDY (by simp only[List.length_cons]; omega)
  have e2:at? ((i:Int)::(s:Int)::p) (0:Int)=some (i:Int):=rfl;have e3:at? ((i:Int)::(s:Int)::p) (1:Int)=some (s:Int):=rfl;have e4:(((((i:Int)::(s:Int)::p)).take ((((i:Int)::(s:Int)::p)).length:Int).toNat).drop (2:Int).toNat)=p:=by
   rw[Int.toNat_natCast,List.take_length]; rfl
  obtain⟨z1,z2,z3,z4⟩:=z;unfold zGl;simp only[e1,e2,e3,cond_false,obs,zOy hi,zOy hs,e4]
  rw[zA2 ⟨by omega,by simp only[List.length_cons]; omega,by omega⟩,ih]
  generalize putL (Nd.mk z1 z2 z3 z4) p (rowN l)=Z;obtain⟨q1,q2,q3,q4⟩:=Z;simp only[obs]
  rw[zJX hs (by omega)]
  simp only[obs]
  rw[zJX hi (by omega)]
  rfl
theorem zT9 (n:Nat) (t:Nd) (o:Op8) (hn:200000000<n) (ht:t.w<=50000000) (hb:Nd.ws o.nodes<=2000000) (hx:o.2.2.2.2.2.2.2.length<=2000000) (hr:o.2.1.length<=2000000):∃ t' e,zHn n t o=some (t',e)/\App t o t' e:=by
 obtain⟨k,row,a,m,nodes,slot,old,text⟩:=o;simp only[Op8.nodes]at hb;dsimp only at hx hr;have v1:=zFn n t (by omega) (by omega)
 obtain⟨b,f1,f2⟩:=zSk n k row a m nodes slot old text (by omega) (by omega)
 have e1:=zW0 n t row (by omega) v1;have hput:∀ r l,Fd t row r->zGl n t row l=some (putL t row (rowN l)):=fun r l h=>zW2 h l n (by omega) (by have:=Nd.cnt_w t; omega)
 have hval:∀ r l,Fd t row r->Nd.ws l<=5000000+r.w->zBv n (putL t row (rowN l))=some (zAF (putL t row (rowN l))):=fun r l h hl=>by
  have:=h.w (rowN l)
  have e:(rowN l).w=Nd.ws l+1 :=(by simp[rowN,Nd.w]);exact zFn n _ (by omega) (by omega)
 obtain⟨t1,t2,t3,t4⟩:=t;unfold zHn;simp only[v1,f1,e1,obs]
 cases hv:zAF (.mk t1 t2 t3 t4) with
 | false=>exact⟨_,1,rfl,.arg hv⟩
 | true =>
  simp only[Bool.not_true,cond_false]
  cases b with
  | false=>exact⟨_,4,rfl,.form hv fun h=>by have:=f2.2 h; cases this⟩
  | true =>
   have hf:=f2.1 rfl;simp only[Bool.not_true,cond_false,rowS,if_pos hv]
   cases hfd:zB3 (.mk t1 t2 t3 t4) row with
   | none=>exact⟨_,8,rfl,.none hv hf hfd⟩
   | some r =>
    have hr':=zZT hfd;have hsm:=hr'.small;have hwr:=zHQ r;obtain⟨l',e,c1,c2⟩:=zSl n r.kids k row a m nodes slot old text hf (by omega) (by omega) (by omega)
    obtain⟨r1,r2,r3,r4⟩:=r;simp only[Nd.kids]at c1 c2 hwr;simp only[obs,show((0:Int) != 0)=false from rfl,cond_false,c1]
    by_cases he:e=0
    ·subst he;have hcw:=c2.w;have hv2:=hval _ l' hr' (by omega)
     simp only[show((0:Int) != 0)=false from rfl,cond_false,hput _ l' hr',obs]
     cases hvo:zAF (putL (.mk t1 t2 t3 t4) row (rowN l')) with
     | false =>
      have hL:=App.limit (t:=.mk t1 t2 t3 t4) (o:=(k,row,a,m,nodes,slot,old,text)) hv hf hr' c2 hvo;generalize putL (Nd.mk t1 t2 t3 t4) row (rowN l')=Z at *;obtain⟨q1,q2,q3,q4⟩:=Z;simp only[obs,hv2,hvo,Bool.not_false,cond_true]
      exact⟨_,6,rfl,hL⟩
     | true =>
      have hO:=App.ok (t:=.mk t1 t2 t3 t4) (o:=(k,row,a,m,nodes,slot,old,text)) hv hf hr' c2 hvo;dsimp only at hO;generalize putL (Nd.mk t1 t2 t3 t4) row (rowN l')=Z at *;obtain⟨q1,q2,q3,q4⟩:=Z;simp only[obs,hv2,hvo,Bool.not_true,cond_false]
      exact⟨_,0,rfl,hO⟩
    ·have:(e != 0)=true:=bne_iff_ne.2 he;simp only[this,cond_true]
     exact⟨_,e,rfl,.chg (t:=.mk t1 t2 t3 t4) (o:=(k,row,a,m,nodes,slot,old,text)) hv hf hr' c2 he⟩
theorem Chg.det {l l1 l2:List Nd}{o:Op8}{e1 e2:Int} (hf:FormP o) (h1:Chg l o l1 e1) (h2:Chg l o l2 e2):l1=l2/\e1=e2:=by
 obtain⟨k,row,a,m,nodes,slot,old,text⟩:=o;have hnn:=zU1 hf;cases h1 with
 | range h =>
  cases h2 with
  | range=>exact⟨rfl,rfl⟩
  | ins h'=>simp only[zEJ,if_true]at h; omega
  | del h'=>simp only[zEJ]at h; simp at h; omega
  | del_no h'=>simp only[zEJ]at h; simp at h; omega
  | wrap h'=>simp only[zEJ]at h; simp at h; omega
  | unwrap h'=>have:=(List.getElem?_eq_some_iff.1 h').1; simp only[zEJ]at h; simp at h; omega
  | unwrap_no h'=>exact⟨rfl,by have:=(List.getElem?_eq_some_iff.1 h').1; simp only[zEJ]at h; simp at h; omega⟩
  | set h'=>have:=(List.getElem?_eq_some_iff.1 h').1; simp only[zEJ]at h; simp at h; omega
  | set_no h'=>exact⟨rfl,by have:=(List.getElem?_eq_some_iff.1 h').1; simp only[zEJ]at h; simp at h; omega⟩
 | ins h' =>
  generalize ha:((_:Nat):Int)=a' at h2;cases h2 with
  | range h=>simp only[zEJ,if_true]at h; omega
  | ins h=>obtain rfl:=Int.ofNat.inj ha; exact⟨rfl,rfl⟩
 | del h' he =>
  generalize ha:((_:Nat):Int)=a' at h2;cases h2 with
  | range h=>simp only[zEJ]at h; simp at h; omega
  | del h=>obtain rfl:=Int.ofNat.inj ha; exact⟨rfl,rfl⟩
  | del_no h he'=>obtain rfl:=Int.ofNat.inj ha; exact absurd he he'
 | del_no h' he =>
  generalize ha:((_:Nat):Int)=a' at h2;cases h2 with
  | range h=>simp only[zEJ]at h; simp at h; omega
  | del h he'=>obtain rfl:=Int.ofNat.inj ha; exact absurd he' he
  | del_no h he'=>exact⟨rfl,rfl⟩
 | wrap h' =>
  generalize ha:((_:Nat):Int)=a' at h2;generalize hm:((_:Nat):Int)=m' at h2;generalize hs:((_:Nat):Int)=s' at h2;cases h2 with
  | range h=>simp only[zEJ]at h; simp at h; omega
  | wrap h=>obtain rfl:=Int.ofNat.inj ha; obtain rfl:=Int.ofNat.inj hm; obtain rfl:=Int.ofNat.inj hs; exact⟨rfl,rfl⟩
 | unwrap h' hz hm he =>
  generalize ha:((_:Nat):Int)=a' at h2;generalize hs:((_:Nat):Int)=s' at h2;cases h2 with
  | range h=>have:=(List.getElem?_eq_some_iff.1 h').1; simp only[zEJ]at h; simp at h; omega
  | unwrap h hz2 =>
   obtain rfl:=Int.ofNat.inj ha; obtain rfl:=Int.ofNat.inj hs
   rw[h']at h; cases h
   rw[hz]at hz2; cases hz2
   exact⟨rfl,rfl⟩
  | unwrap_no h hz2 =>
   obtain rfl:=Int.ofNat.inj ha; obtain rfl:=Int.ofNat.inj hs
   rw[h']at h; cases h
   exact absurd he (hz2 _ hz hm)
 | unwrap_no h' hz =>
  generalize ha:((_:Nat):Int)=a' at h2;generalize hs:((_:Nat):Int)=s' at h2;cases h2 with
  | range h=>exact⟨rfl,by have:=(List.getElem?_eq_some_iff.1 h').1; simp only[zEJ]at h; simp at h; omega⟩
  | unwrap h hz2 hm he =>
   obtain rfl:=Int.ofNat.inj ha; obtain rfl:=Int.ofNat.inj hs
   rw[h']at h; cases h
   exact absurd he (hz _ hz2 hm)
  | unwrap_no h hz2=>exact⟨rfl,rfl⟩
 | set h' hl he =>
  generalize ha:((_:Nat):Int)=a' at h2;cases h2 with
  | range h=>have:=(List.getElem?_eq_some_iff.1 h').1; simp only[zEJ]at h; simp at h; omega
  | set h=>obtain rfl:=Int.ofNat.inj ha; rw[h']at h; cases h; exact⟨rfl,rfl⟩
  | set_no h hl2=>obtain rfl:=Int.ofNat.inj ha; rw[h']at h; cases h; exact absurd ⟨hl,he⟩ hl2
 | set_no h' hl =>
  generalize ha:((_:Nat):Int)=a' at h2;cases h2 with
  | range h=>exact⟨rfl,by have:=(List.getElem?_eq_some_iff.1 h').1; simp only[zEJ]at h; simp at h; omega⟩
  | set h hl2 he=>obtain rfl:=Int.ofNat.inj ha; rw[h']at h; cases h; exact absurd ⟨hl2,he⟩ hl
  | set_no h hl2=>exact⟨rfl,rfl⟩
theorem Fd.det {t r1 r2:Nd}{p:List Int} (h1:Fd t p r1) (h2:Fd t p r2):r1=r2:=Option.some.inj (h1.find.symm.trans h2.find)
theorem App.det {t t1 t2:Nd}{o:Op8}{e1 e2:Int} (h1:App t o t1 e1) (h2:App t o t2 e2):t1=t2/\e1=e2:=by
 have tf:∀ {b:Bool},b=true->b=false->False:=fun h h'=>by rw[h]at h'; cases h'
 have fn:∀ {r:Nd} {p:List Int},Fd t p r->zB3 t p=Option.none->False:=fun h h'=>by rw[h.find]at h'; cases h'
 cases h1 with
 | arg h=>cases h2 with
  | arg h'=>exact⟨rfl,rfl⟩
  | form h'=>exact(tf h' h).elim
  | none h'=>exact(tf h' h).elim
  | chg h'=>exact(tf h' h).elim
  | limit h'=>exact(tf h' h).elim
  | ok h'=>exact(tf h' h).elim
 | form h hf=>cases h2 with
  | arg h'=>exact(tf h h').elim
  | form h'=>exact⟨rfl,rfl⟩
  | none h' hf'=>exact absurd hf' hf
  | chg h' hf'=>exact absurd hf' hf
  | limit h' hf'=>exact absurd hf' hf
  | ok h' hf'=>exact absurd hf' hf
 | none h hf hn=>cases h2 with
  | arg h'=>exact(tf h h').elim
  | form h' hf'=>exact absurd hf hf'
  | none=>exact⟨rfl,rfl⟩
  | chg h' hf' hr=>exact(fn hr hn).elim
  | limit h' hf' hr=>exact(fn hr hn).elim
  | ok h' hf' hr=>exact(fn hr hn).elim
 | chg h hf hr hc he=>cases h2 with
  | arg h'=>exact(tf h h').elim
  | form h' hf'=>exact absurd hf hf'
  | none h' hf' hn=>exact(fn hr hn).elim
  | chg h' hf' hr' hc' he'=>obtain rfl:=hr.det hr'; exact⟨rfl,(hc.det hf hc').2⟩
  | limit h' hf' hr' hc'=>obtain rfl:=hr.det hr'; exact absurd (hc.det hf hc').2 he
  | ok h' hf' hr' hc'=>obtain rfl:=hr.det hr'; exact absurd (hc.det hf hc').2 he
 | limit h hf hr hc hv=>cases h2 with
  | arg h'=>exact(tf h h').elim
  | form h' hf'=>exact absurd hf hf'
  | none h' hf' hn=>exact(fn hr hn).elim
  | chg h' hf' hr' hc' he'=>obtain rfl:=hr.det hr'; exact absurd (hc'.det hf hc).2 he'
  | limit h' hf' hr' hc'=>exact⟨rfl,rfl⟩
  | ok h' hf' hr' hc' hv'=>obtain rfl:=hr.det hr'; obtain rfl:=(hc.det hf hc').1; exact(tf hv' hv).elim
 | ok h hf hr hc hv=>cases h2 with
  | arg h'=>exact(tf h h').elim
  | form h' hf'=>exact absurd hf hf'
  | none h' hf' hn=>exact(fn hr hn).elim
  | chg h' hf' hr' hc' he'=>obtain rfl:=hr.det hr'; exact absurd (hc'.det hf hc).2 he'
  | limit h' hf' hr' hc' hv'=>obtain rfl:=hr.det hr'; obtain rfl:=(hc.det hf hc').1; exact(tf hv hv').elim
  | ok h' hf' hr' hc' hv'=>obtain rfl:=hr.det hr'; obtain rfl:=(hc.det hf hc').1; exact⟨rfl,rfl⟩
def lens:List (List Nd)->Nat
 | []=>0
 | a::L=>a.length+lens L
theorem zTx {L:List (List Nd)}{i:Nat} (h:i<L.length):lens (L.drop i)=(L[i]).length+lens (L.drop (i+1)):=by
 rw[List.drop_eq_getElem_cons h]; rfl
theorem zXu {L:List (List Nd)} (hl:L.length<=1073741824):∀ (k i s:Nat),L.length - i<k->i<=L.length->s+lens (L.drop i)<=1073741824->zA5 L k (i:Int) (s:Int)=some ((s+lens (L.drop i):Nat):Int)
 | 0,i,s,h,_,_=>by omega
 | k+1,i,s,hk,hi,hs=>by
  unfold zA5
  by_cases h:i<L.length
  ·have hd:=zTx h;rw[zAJ (Int.ofNat_lt.2 h),cond_true,zAC h]
   simp only[obs]
   rw[wrap64_in (n:=(s:Int)+((L[i]).length:Int)) (by omega) (by omega),zAD (by omega),cond_false,zAN (by omega),← Int.natCast_add,zXu hl k (i+1) _ (by omega) (by omega) (by omega),hd]
   congr 2; omega
  ·rw[zAD (by omega),cond_false]
   have:L.drop i=[]:=List.drop_eq_nil_iff.2 (by omega)
   rw[this]; rfl
theorem zXv {L:List (List Nd)} (hl:L.length<=1073741824):∀ (k i:Nat) (s:List Nd),L.length - i<k->i<=L.length->s.length+lens (L.drop i)<=1073741824->zA6 L k (i:Int) s=some (s++(L.drop i).flatten)
 | 0,i,s,h,_,_=>by omega
 | k+1,i,s,hk,hi,hs=>by
  unfold zA6
  by_cases h:i<L.length
  ·have hd:=zTx h;rw[zAJ (Int.ofNat_lt.2 h),cond_true,zAC h]
   simp only[obs]
   rw[zA2 (by omega),zAN (by omega),zXv hl k (i+1) _ (by omega) (by omega) (by rw[List.length_append]; omega),List.drop_eq_getElem_cons h,List.flatten_cons,List.append_assoc]
  ·rw[zAD (by omega),cond_false]
   have:L.drop i=[]:=List.drop_eq_nil_iff.2 (by omega)
   rw[this]; simp
theorem zXw (n:Nat) (L:List (List Nd)) (hn:L.length<n) (hl:L.length<=1073741824) (hs:lens L<=1073741824):zCl n L=some L.flatten:=by
 have e1:=zXu hl n 0 0 (by omega) (by omega) (by simpa using hs)
 have e2:=zXv hl n 0 [] (by omega) (by omega) (by simpa using hs)
 rw[show((0:Nat):Int)=0 from rfl]at e1 e2;unfold zCl zFb;simp only[e1,obs,List.drop_zero,Nat.zero_add]
 simp only[List.drop_zero,List.nil_append]at e2;rw[zA2 ⟨by omega,by omega⟩]
 simp only[obs,e2]
theorem zZW (n:Nat) (k:Int) (row:List Int) (p y:Nat) (m:Int) (nodes:List Nd) (slot:Int) (old text:List UInt8) (l b:List Nd) (hn:10<n) (hp:p+y<=l.length) (hl:l.length<=500000000) (hb:b.length<=500000000) :
  zBa n ((k,row,(p:Int),m,nodes,slot,old,text),l) (y:Int) b=some (splS l p (p+y) b):=by
 unfold zBa;dsimp only;rw[zA2 ⟨by omega,by omega,by omega⟩,wrap64_in (n:=(p:Int)+(y:Int)) (by omega) (by omega),← Int.natCast_add,zA2 ⟨by omega,by omega,by omega⟩]
 have e1:(l.take (p:Int).toNat).drop (0:Int).toNat=l.take p :=(by simp);have e2:(l.take (l.length:Int).toNat).drop ((p+y:Nat):Int).toNat=l.drop (p+y) :=(by rw[Int.toNat_natCast,Int.toNat_natCast,List.take_length]);rw[e1,e2,zXw n _ (by simp; omega) (by simp) (by simp only[lens,List.length_take,List.length_drop]; omega)]
 simp only[obs,splS,List.flatten_cons,List.flatten_nil,List.append_nil,List.append_assoc]
theorem zSs {l:List Nd}{it z:Nd}{s:Nat} (hl:zFj 1 l=true) (hit:it∈l) (hz:it.kids[s]? = some z):it.kind ≠ 1/\z=rowN z.kids:=by
 obtain⟨f1,f2⟩:=zIm hl hit;have hk:(it.kind == 1)=false :=(by simpa using f2);obtain⟨i1,i2,i3,i4⟩:=it;simp only[Nd.kind]at hk;simp only[Nd.kids]at hz;obtain⟨g1,g2⟩:=zIm (zOJ f1) (List.mem_of_getElem? hz)
 rw[hk]at g2;have hz1:z.kind=1:=by
  cases e:z.kind == 1 with
  | true=>exact eq_of_beq e
  | false=>rw[e]at g2; cases g2
 exact⟨beq_eq_false_iff_ne.1 hk,(zVP g1 hz1).1⟩
theorem zTt {l:List Nd}{it:Nd} (hl:zFj 1 l=true) (hit:it∈l):it.kind ≠ 1:=by
 obtain⟨_,f2⟩:=zIm hl hit;exact beq_eq_false_iff_ne.1 (by simpa using f2)
theorem zLu {l:List Nd} (h:zAF (rowN l)=true):zFj 1 l=true:=by
 have:=(zMo h).2;exact this
theorem zVD (v:Nd) (h:v.kind ≠ 1):zEl v=some (v.kids.length:Int):=by
 obtain⟨a,b,c,d⟩:=v;unfold zEl;simp only[Nd.kind]at h;simp only[zDY h,cond_false,Nd.kids]
theorem zHL (n:Nat) (nodes:List Nd) (h:Nd.ws nodes+50<n) (hb:Nd.ws nodes<=67000000):zCJ n nodes=some (zAF (rowN nodes)):=by
 unfold zCJ;dsimp only;rw[zDN n _ (by simp only[Nd.w,List.length_nil]; omega) (by simp only[Nd.w,List.length_nil]; omega)]; rfl
theorem zTc (n:Nat) (l:List Nd) (slot:Int) (h:Nd.ws l+50<n) (hb:Nd.ws l<=67000000):∃ b,zDW n l slot=some b/\(b=true↔zVE l slot):=by
 unfold zDW;dsimp only;cases e1:((l.length:Int) != 1) with
 | true=>exact⟨false,rfl,(fun h=>by cases h),fun⟨v,s,z,h,_⟩=>by rw[h]at e1; cases e1⟩
 | false =>
  have hl:l.length=1:=by
   by_cases h:(l.length:Int)=1
   ·omega
   ·rw[bne_iff_ne.2 h]at e1; cases e1
  obtain⟨v,rfl⟩:=List.length_eq_one_iff.1 hl;have hv:=zHL n [v] h hb;have h0:at? [v] (0:Int)=some v:=rfl;simp only[cond_false,hv,obs]
  cases hvb:zAF (rowN [v]) with
  | false=>exact⟨false,rfl,(fun h=>by cases h),fun⟨v',s,z,h,_,h2,_⟩=>by cases h; rw[hvb]at h2; cases h2⟩
  | true =>
   have hsl:=zVD v (zTt (zLu hvb) List.mem_cons_self)
   obtain⟨a,b,c,d⟩:=v;simp only[Nd.kids]at hsl;simp only[Bool.not_true,cond_false]
   by_cases h1:slot<0
   ·rw[zAJ h1]
    exact⟨false,rfl,(fun h=>by cases h),fun⟨v,s,z,h,hs,_⟩=>by omega⟩
   ·rw[zAD h1]
    simp only[cond_false,h0,obs,hsl]
    by_cases h2:(d.length:Int)<=slot
    ·rw[zAJ h2]
     refine⟨false,rfl,(fun h=>by cases h),fun⟨v,s,z,h,hs,_,hz,_⟩=>?_⟩
     cases h;have:=(List.getElem?_eq_some_iff.1 hz).1;simp only[Nd.kids]at this
     omega
    ·rw[zAD h2]
     obtain⟨p,rfl,hp,hg⟩:=zZm (l:=d) (i:=slot) (by omega) (by omega)
     have hz:d[p]? = some d[p]:=List.getElem?_eq_getElem hp;rw[hg]
     generalize d[p]=z at hz;obtain⟨x1,x2,x3,x4⟩:=z;simp only[cond_false,obs]
     refine⟨_,rfl,fun h=>⟨_,p,_,rfl,rfl,hvb,hz,?_⟩,fun⟨v,s,z,h,hs,_,hz',hk⟩=>?_⟩
     ·have:=eq_of_beq h;exact List.eq_nil_of_length_eq_zero (by simp only[Nd.kids]; omega)
     ·cases h;obtain rfl:p=s :=(by omega);simp only[Nd.kids]at hz';rw[hz]at hz';cases hz';simp only[Nd.kids]at hk;subst hk
      rfl
theorem zPX (n:Nat) (k:Int) (row:List Int) (a m:Int) (nodes:List Nd) (slot:Int) (old text:List UInt8) (h:Nd.ws nodes+50<n) (hb:Nd.ws nodes<=67000000) :
  ∃ b,zFv n (k,row,a,m,nodes,slot,old,text)=some b/\(b=true↔FormP (k,row,a,m,nodes,slot,old,text)):=by
 have hv:=zHL n nodes h hb;obtain⟨tb,t1,t2⟩:=zTc n nodes slot h hb;have hlen:decide (0<(nodes.length:Int))=true↔nodes ≠ [] :=(by cases nodes <;> simp);have hlen0:((nodes.length:Int) == 0)=true↔nodes=[] :=(by cases nodes <;> simp <;> omega);have htx:(bif (!(old == [])) then some true else some (!(text == [])):Option Bool)=some (!((old == [])&&(text == []))) :=(by cases old == [] <;> cases text == [] <;> rfl);unfold zFv;simp only[hv,t1,htx,obs,FormP]
 by_cases k12:k=1∨k=2
 ·have e:(bif (k == 1) then some (k == 1) else some (k == 2):Option Bool)=some true:=by rcases k12 with rfl | rfl <;> rfl
  have hk:¬ (k=3∨k=4)/\¬ k=5 :=(by omega);rw[e]
  simp only[obs,cond_true,k12,hk.1,hk.2,true_and,false_and,or_false]
  rw[← hlen]
  generalize decide (0<(nodes.length:Int))=b1;generalize zAF (rowN nodes)=b2;cases e1:m == 0 <;> simp only[cond_true,cond_false,obs]
  ·exact⟨false,rfl,by simp[beq_eq_false_iff_ne.1 e1]⟩
  cases e2:slot == 0 <;> simp only[cond_true,cond_false,obs]
  ·exact⟨false,rfl,by simp[beq_eq_false_iff_ne.1 e2]⟩
  cases e3:old == [] <;> simp only[Bool.false_and,Bool.true_and,Bool.not_false,Bool.not_not,cond_true,cond_false,obs]
  ·exact⟨false,rfl,by simp[beq_eq_false_iff_ne.1 e3]⟩
  cases e4:text == [] <;> simp only[Bool.not_true,Bool.not_false,cond_true,cond_false,obs]
  ·exact⟨false,rfl,by simp[beq_eq_false_iff_ne.1 e4]⟩
  rw[eq_of_beq e1,eq_of_beq e2,eq_of_beq e3,eq_of_beq e4]
  cases b1 <;> cases b2 <;> exact⟨_,rfl,by simp⟩
 ·have e:(bif (k == 1) then some (k == 1) else some (k == 2):Option Bool)=some false:=by
   rw[zDY (fun h=>k12 (.inl h)),zDY (fun h=>k12 (.inr h))]; rfl
  rw[e]
  simp only[obs,cond_false,k12,false_and,false_or]
  by_cases k34:k=3∨k=4
  ·have e:(bif (k == 3) then some (k == 3) else some (k == 4):Option Bool)=some true:=by rcases k34 with rfl | rfl <;> rfl
   have hk:¬ k=5 :=(by omega);rw[e]
   simp only[obs,cond_true,k34,hk,true_and,false_and,or_false]
   rw[← t2]
   by_cases hm:0<=m
   ·rw[zAJ hm]
    simp only[cond_true]
    cases e3:old == [] <;> simp only[Bool.false_and,Bool.true_and,Bool.not_false,Bool.not_not,cond_true,cond_false,obs]
    ·exact⟨false,rfl,by simp[beq_eq_false_iff_ne.1 e3]⟩
    cases e4:text == [] <;> simp only[Bool.not_true,Bool.not_false,cond_true,cond_false,obs]
    ·exact⟨false,rfl,by simp[beq_eq_false_iff_ne.1 e4]⟩
    rw[eq_of_beq e3,eq_of_beq e4]
    exact⟨_,rfl,by simp[hm]⟩
   ·rw[zAD hm]
    exact⟨false,rfl,by simp[hm]⟩
  ·have e:(bif (k == 3) then some (k == 3) else some (k == 4):Option Bool)=some false:=by
    rw[zDY (fun h=>k34 (.inl h)),zDY (fun h=>k34 (.inr h))]; rfl
   rw[e]
   simp only[obs,cond_false,k34,false_and,false_or]
   by_cases k5:k=5
   ·subst k5;simp only[beq_self_eq_true,cond_true,obs,true_and]
    rw[← hlen0]
    generalize ((nodes.length:Int) == 0)=b1;cases e1:m == 0 <;> simp only[cond_true,cond_false,obs]
    ·exact⟨false,rfl,by simp[beq_eq_false_iff_ne.1 e1]⟩
    cases e2:slot == 0 <;> simp only[cond_true,cond_false,obs]
    ·exact⟨false,rfl,by simp[beq_eq_false_iff_ne.1 e2]⟩
    rw[eq_of_beq e1,eq_of_beq e2]
    cases b1 <;> simp only[cond_true,cond_false,obs]
    ·exact⟨false,rfl,by simp⟩
    cases e0:old == text <;> simp only[Bool.not_true,Bool.not_false]
    ·exact⟨true,rfl,by simp[beq_eq_false_iff_ne.1 e0]⟩
    ·exact⟨false,rfl,by simp[eq_of_beq e0]⟩
   ·rw[zDY k5]
    exact⟨false,rfl,by simp[k5]⟩
theorem zXD (k:Int) (row:List Int) (a m:Int) (nodes:List Nd) (slot:Int) (old text:List UInt8) (l:List Nd) (hl:l.length<=1073741824) :
  zCz ((k,row,a,m,nodes,slot,old,text),l)=some (if a<0∨(l.length:Int)<a∨(l.length:Int) - a<zEJ k m nodes then 2 else 0):=by
 unfold zCz;dsimp only;rw[zV2]
 simp only[obs]
 by_cases h1:a<0
 ·rw[zAJ h1,if_pos (.inl h1)]; rfl
 rw[zAD h1]
 by_cases h2:(l.length:Int)<a
 ·rw[zAJ h2,if_pos (.inr (.inl h2))]; rfl
 rw[zAD h2,wrap64_in (n:=(l.length:Int) - a) (by omega) (by omega)]
 by_cases h3:(l.length:Int) - a<zEJ k m nodes
 ·rw[zAJ h3,if_pos (.inr (.inr h3))]; rfl
 rw[zAD h3,if_neg (fun h=>h.elim h1 fun h=>h.elim h2 h3)]; rfl
theorem zYJ {v it z:Nd}{s:Nat}{y:Nd} (hv:v.kids[s]? = some y) (hy:y=rowN []) (hz:it.kids[s]? = some z) (hzr:z=rowN z.kids):Nd.mk it.kind it.text it.cols (it.kids.set s (rowN []))=v↔it=zJc v s z.kids:=by
 obtain⟨v1,v2,v3,v4⟩:=v;obtain⟨i1,i2,i3,i4⟩:=it;obtain⟨z1,z2,z3,z4⟩:=z;obtain⟨rfl,rfl,rfl,-⟩:=Nd.mk.inj hzr
 clear hzr
 simp only[Nd.kids]at hv hz;simp only[zJc,Nd.kind,Nd.text,Nd.cols,Nd.kids]
 subst hy
 constructor
 ·intro h;obtain⟨rfl,rfl,rfl,rfl⟩:=Nd.mk.inj h;rw[List.set_set]
  congr 1
  have:=zNV (y:=.mk 1 [] 0 z4) hz;rw[List.set_set]at this;exact this.symm
 ·intro h;obtain⟨rfl,rfl,rfl,rfl⟩:=Nd.mk.inj h;rw[List.set_set]
  congr 1
  have:=zNV (y:=rowN []) hv;rw[List.set_set]at this;exact this
theorem zOD (n:Nat) (l:List Nd) (k:Int) (row:List Int) (a m:Int) (nodes:List Nd) (slot:Int) (old text:List UInt8) (hf:FormP (k,row,a,m,nodes,slot,old,text)) (hv:zFj 1 l=true) (hn:2 * Nd.ws l+2 * Nd.ws nodes+50<n) (ha:Nd.ws l<=60000000) (hb:Nd.ws nodes<=2000000) :
  ∃ l' e,zCM n ((k,row,a,m,nodes,slot,old,text),l)=some (l',e)/\Chg l (k,row,a,m,nodes,slot,old,text) l' e:=by
 have la:=Nd.ws_len l;have lb:=Nd.ws_len nodes;have cl:=Nd.cnts_ws l;have cb:=Nd.cnts_ws nodes;have hnn:=zU1 hf;unfold zCM;simp only[zXD _ _ _ _ _ _ _ _ l (show l.length<=1073741824 by omega),obs]
 by_cases hr:a<0∨(l.length:Int)<a∨(l.length:Int) - a<zEJ k m nodes
 ·rw[if_pos hr]; exact⟨[],2,rfl,.range hr⟩
 rw[if_neg hr]
 simp only[show((0:Int) != 0)=false from rfl,cond_false]
 have h1:¬ a<0:=fun h=>hr (.inl h)
 have h2:¬ (l.length:Int)<a:=fun h=>hr (.inr (.inl h))
 have h3:¬ (l.length:Int) - a<zEJ k m nodes:=fun h=>hr (.inr (.inr h))
 obtain⟨p,rfl⟩:=Int.eq_ofNat_of_zero_le (show 0<=a by omega)
 obtain⟨y,hy⟩:=Int.eq_ofNat_of_zero_le hnn;rw[hy]at h3;have hseg:=zZv l (Nat.le_add_right p y)
 have lseg:=Nd.ws_len ((l.take (p+y)).drop p)
 have cseg:=Nd.cnts_ws ((l.take (p+y)).drop p)
 have hj:∀ by':List Nd,by'.length<=500000000->zBa n ((k,row,(p:Int),m,nodes,slot,old,text),l) (y:Int) by'=some (splS l p (p+y) by'):=fun by' hby=>zZW n k row p y m nodes slot old text l by' (by omega) (by omega) (by omega) hby
 rcases hf with ⟨rfl | rfl,h0⟩ | ⟨rfl | rfl,hm,⟨v,s,z,rfl,rfl,hvv,hz,hzk⟩,_⟩ | ⟨rfl,h0⟩
 ·obtain rfl:y=0 :=(by have:zEJ 1 m nodes=0:=rfl; omega);rw[show((0:Nat):Int)=0 from rfl]at hj;simp only[beq_self_eq_true,cond_true,zDo,hj nodes (by omega),obs]
  exact⟨_,0,rfl,.ins (by omega)⟩
 ·obtain rfl:y=nodes.length :=(by have:zEJ 2 m nodes=(nodes.length:Int):=rfl; omega);obtain⟨r,g1,g2⟩:=(zIR n).2 ((l.take (p+nodes.length)).drop p) nodes (by omega) (by omega)
  simp only[show((2:Int) == 1)=false from rfl,cond_false,beq_self_eq_true,cond_true,zDp]
  rw[wrap64_in (n:=(p:Int)+(nodes.length:Int)) (by omega) (by omega),← Int.natCast_add,zA2 ⟨by omega,by omega,by omega⟩,Int.toNat_natCast,Int.toNat_natCast,g1]
  simp only[obs]
  cases r with
  | false=>exact⟨[],7,rfl,.del_no (by omega) fun e=>by have:=g2.2 e; cases this⟩
  | true =>
   simp only[Bool.not_true,cond_false,hj [] (by simp),obs]
   exact⟨_,0,rfl,.del (by omega) (g2.1 rfl)⟩
 ·obtain rfl:m=(y:Int):=hy;obtain⟨hvk,hzr⟩:=zSs (zLu hvv) List.mem_cons_self hz;rw[hzk]at hzr;have hv0:at? [v] (0:Int)=some v:=rfl;have hcv:=Nd.cnts_mem (List.mem_cons_self (a:=v) (l:=[]))
  have hd:zDu v=some v:=zA2 ⟨by omega,fun e=>by rw[e]at hz; simp at hz⟩
  have hza:=zOy hz;have hcl:zEQ ((l.take (p+y)).drop p)=some ((l.take (p+y)).drop p):=zA2 (by omega)
  have hj':=hj [zJc v s ((l.take (p+y)).drop p)] (by simp)
  have hfx:zJc v s ((l.take (p+y)).drop p)=Nd.mk v.kind v.text v.cols (v.kids.set s (rowN ((l.take (p+y)).drop p))):=rfl;rw[hfx]at hj';have hC:=Chg.wrap (l:=l) (row:=row) (p:=p) (m:=y) (v:=v) (s:=s) (old:=old) (text:=text) (by omega)
  have hfx2:zJc v s (segS l p (p+y))=Nd.mk v.kind v.text v.cols (v.kids.set s (rowN ((l.take (p+y)).drop p))):=rfl;rw[hfx2]at hC;subst hzr;obtain⟨v1,v2,v3,v4⟩:=v;simp only[Nd.kind,Nd.text,Nd.cols,Nd.kids]at hza hj' hC;unfold rowN at hza;simp only[show((3:Int) == 1)=false from rfl,show((3:Int) == 2)=false from rfl,cond_false,beq_self_eq_true,cond_true,zEc,hv0,hd,obs]
  rw[wrap64_in (n:=(p:Int)+(y:Int)) (by omega) (by omega),← Int.natCast_add,zA2 ⟨by omega,by omega,by omega⟩,Int.toNat_natCast,Int.toNat_natCast,hcl]
  simp only[obs,hza,Int.toNat_natCast]
  unfold rowN at hj' hC;rw[hj']
  exact⟨_,0,rfl,hC⟩
 ·obtain rfl:y=1 :=(by have:zEJ 4 m [v]=1:=rfl; omega);obtain⟨hvk,hzr⟩:=zSs (zLu hvv) List.mem_cons_self hz;rw[hzk]at hzr;have hv0:at? [v] (0:Int)=some v:=rfl;have hpl:p<l.length :=(by omega);have hit:l[p]? = some l[p]:=List.getElem?_eq_getElem hpl;have hia:at? l (p:Int)=some l[p]:=zAC hpl;have hmem:=List.getElem_mem hpl;generalize l[p]=it at hit hia hmem;have hiw:=Nd.w_mem hmem;have hic:=Nd.cnt_w it;have hik:=zTt hv hmem;have hslots:=zVD it hik;have hdn:zCr it=some it:=zMx (by omega)
  have hwi:=zHQ it;have hlk4:=Nd.ws_len it.kids;simp only[show((4:Int) == 1)=false from rfl,show((4:Int) == 2)=false from rfl,show((4:Int) == 3)=false from rfl,cond_false,beq_self_eq_true,cond_true]
  have hnone:zBC ((4,row,(p:Int),m,[v],(s:Int),old,text),l)=if (it.kids.length:Int)<=(s:Int) then some ([],7) else none:=by
   unfold zBC;simp only[hia]
   by_cases h:(it.kids.length:Int)<=(s:Int)
   ·rw[if_pos h]
    obtain⟨i1,i2,i3,i4⟩:=it;simp only[Nd.kids]at h hslots;simp only[obs,hdn,hslots,zAJ h]; rfl
   ·rw[if_neg h]
    obtain⟨i1,i2,i3,i4⟩:=it;simp only[Nd.kids]at h hslots;simp only[obs,hdn,hslots,zAD h]; rfl
  by_cases hsl:(it.kids.length:Int)<=(s:Int)
  ·have:zBt n ((4,row,(p:Int),m,[v],(s:Int),old,text),l)=some ([],7):=by
    unfold zBt;rw[hnone,if_pos hsl]
   rw[this]
   refine⟨[],7,rfl,.unwrap_no hit fun z' hz'=>?_⟩
   have:=(List.getElem?_eq_some_iff.1 hz').1
   omega
  have hsi:s<it.kids.length :=(by omega);have hzi:it.kids[s]? = some it.kids[s]:=List.getElem?_eq_getElem hsi;generalize it.kids[s]=z' at hzi;obtain⟨_,hzr'⟩:=zSs hv hmem hzi;have hzw:=Nd.w_mem (List.mem_of_getElem? hzi)
  have hzw2:=zHQ z';have hzl:=Nd.ws_len z'.kids;have hfi:=zYJ hz hzr hzi hzr';have hws:=zPC (y:=rowN []) hzi;have hj':=hj z'.kids (by omega)
  rw[show((1:Nat):Int)=1 from rfl]at hj';have hcs:(Nd.mk it.kind it.text it.cols (it.kids.set s (rowN []))).cnt<=it.w+1:=by
   have h1:=Nd.cnt_w (Nd.mk it.kind it.text it.cols (it.kids.set s (rowN [])))
   have e:(rowN []).w=1:=rfl;simp only[Nd.w]at h1
   omega
  obtain⟨rb,g1,g2⟩:=(zIR n).1 (Nd.mk it.kind it.text it.cols (it.kids.set s (rowN []))) v (by omega) (by omega)
  have hdo:zDu it=some it:=zA2 ⟨by omega,fun e=>by rw[e]at hzi; simp at hzi⟩
  have hza:=zOy hzi;have hkids:∃ l' e,zBB n ((4,row,(p:Int),m,[v],(s:Int),old,text),l)=some (l',e)/\Chg l (4,row,(p:Int),m,[v],(s:Int),old,text) l' e:=by
   unfold zBB;obtain⟨i1,i2,i3,i4⟩:=it;obtain⟨v1,v2,v3,v4⟩:=v;obtain⟨z1,z2,z3,z4⟩:=z';obtain⟨rfl,rfl,rfl,-⟩:=Nd.mk.inj hzr';simp only[Nd.kind,Nd.text,Nd.cols,Nd.kids]at hza g1 hslots hj' hsl;simp only[hia,obs,hdo,hslots,zAD hsl,cond_false,hza,hv0,Int.toNat_natCast]
   by_cases hmz:(z4.length:Int)=m
   ·have:((z4.length:Int) != m)=false :=(by unfold bne; rw[beq_iff_eq.2 hmz]; rfl);unfold rowN at g1;rw[this]
    simp only[cond_false,g1,obs]
    cases rb with
    | false =>
     refine⟨[],7,rfl,.unwrap_no hit fun z'' hz'' hm'' he=>?_⟩
     rw[hzi]at hz'';cases hz'';have:=g2.2 (hfi.2 he)
     cases this
    | true =>
     simp only[Bool.not_true,cond_false,hj',obs]
     exact⟨_,0,rfl,.unwrap (z:=.mk 1 [] 0 z4) hit hzi hmz (hfi.1 (g2.1 rfl))⟩
   ·have:((z4.length:Int) != m)=true:=bne_iff_ne.2 hmz;rw[this]
    refine⟨[],7,rfl,.unwrap_no hit fun z'' hz'' hm'' he=>?_⟩
    rw[hzi]at hz'';cases hz'';exact hmz hm''
  obtain⟨l',e,h4,h5⟩:=hkids;have:zBt n ((4,row,(p:Int),m,[v],(s:Int),old,text),l)=some (l',e):=by
   unfold zBt;rw[hnone,if_neg hsl]
   exact h4
  rw[this]
  exact⟨l',e,rfl,h5⟩
 ·obtain rfl:y=1 :=(by have:zEJ 5 m nodes=1:=rfl; omega);have hpl:p<l.length :=(by omega);have hit:l[p]? = some l[p]:=List.getElem?_eq_getElem hpl;have hia:at? l (p:Int)=some l[p]:=zAC hpl;generalize l[p]=it at hit hia;obtain⟨i1,i2,i3,i4⟩:=it;rw[show((1:Nat):Int)=1 from rfl]at hj;simp only[show((5:Int) == 1)=false from rfl,show((5:Int) == 2)=false from rfl,show((5:Int) == 3)=false from rfl,show((5:Int) == 4)=false from rfl,cond_false,zEz,hia,obs,zVT]
  cases hlf:zWL i1 with
  | false=>exact⟨[],7,rfl,.set_no hit fun h=>by have:=h.1; simp only[Nd.kind]at this; rw[hlf]at this; cases this⟩
  | true =>
   simp only[cond_true,obs]
   cases ht:i2 == old with
   | false=>exact⟨[],7,rfl,.set_no hit fun h=>beq_eq_false_iff_ne.1 ht h.2⟩
   | true =>
    simp only[Bool.not_true,cond_false,hj [Nd.mk i1 text i3 i4] (by simp),obs]
    exact⟨_,0,rfl,.set (it:=.mk i1 i2 i3 i4) hit hlf (eq_of_beq ht)⟩
theorem zRF (n:Nat) (t:Nd) (o:Op8) (hn:200000000<n) (ht:t.w<=50000000) (hb:Nd.ws o.nodes<=2000000) (hx:o.2.2.2.2.2.2.2.length<=2000000):∃ t' e,zGd n t o=some (t',e)/\App t o t' e:=by
 obtain⟨k,row,a,m,nodes,slot,old,text⟩:=o;simp only[Op8.nodes]at hb;dsimp only at hx;have v1:=zDN n t (by omega) (by omega)
 have ct:=Nd.cnt_w t;obtain⟨b,f1,f2⟩:=zPX n k row a m nodes slot old text (by omega) (by omega)
 have e1:=zU3 n t row v1 (by omega)
 have hwith:∀ r l,Fd t row r->Nd.ws l<=5000000+r.w->zFW n t row (rowN l)=some (zVA t row (rowN l)):=fun r l h hl=>by
  have hs:=h.small;have hc:(rowN l).w=Nd.ws l+1 :=(by simp[rowN,Nd.w]);refine zTD n t row (rowN l) v1 (zDN n _ (by omega) (by omega)) (fun z hz=>?_) (by omega) (by have:=Nd.cnt_w (rowN l); omega)
  obtain rfl:=h.det hz;have:=h.w (rowN l)
  exact zDN n _ (by omega) (by omega)
 obtain⟨t1,t2,t3,t4⟩:=t;unfold zGd;simp only[v1,f1,e1,obs]
 cases hv:zAF (.mk t1 t2 t3 t4) with
 | false=>exact⟨_,1,rfl,.arg hv⟩
 | true =>
  simp only[Bool.not_true,cond_false]
  cases b with
  | false=>exact⟨_,4,rfl,.form hv fun h=>by have:=f2.2 h; cases this⟩
  | true =>
   have hf:=f2.1 rfl;simp only[Bool.not_true,cond_false,rowS,if_pos hv]
   cases hfd:zB3 (.mk t1 t2 t3 t4) row with
   | none=>exact⟨_,8,rfl,.none hv hf hfd⟩
   | some r =>
    have hr':=zZT hfd;have hsm:=hr'.small;have hwr:=zHQ r;have hvr:=hr'.valid hv;have hrr:=(zMo hvr).1;have hfr:=(zMo hvr).2;obtain⟨l',e,c1,c2⟩:=zOD n r.kids k row a m nodes slot old text hf hfr (by omega) (by omega) (by omega)
    obtain⟨r1,r2,r3,r4⟩:=r;obtain⟨rfl,rfl,rfl,-⟩:=Nd.mk.inj hrr;simp only[Nd.kids]at c1 c2 hwr;simp only[obs,show((0:Int) != 0)=false from rfl,cond_false,c1]
    by_cases he:e=0
    ·subst he;have hcw:=c2.w;have hw:=hwith _ l' hr' (by omega)
     unfold rowN at hw;simp only[show((0:Int) != 0)=false from rfl,cond_false,hw,obs]
     cases hvo:zAF (putL (.mk t1 t2 t3 t4) row (rowN l')) with
     | false =>
      have hL:=App.limit (t:=.mk t1 t2 t3 t4) (o:=(k,row,a,m,nodes,slot,old,text)) hv hf hr' c2 hvo;have hws:∃ q,zVA (.mk t1 t2 t3 t4) row (.mk 1 [] 0 l')=(zEv,q)/\q ≠ 0:=by
       unfold zVA;rw[if_pos hv,hfd]
       dsimp only
       by_cases h:zAF (.mk 1 [] 0 l')=true
       ·rw[if_pos h]
        unfold rowN at hvo;rw[hvo,if_neg (by decide)]
        exact⟨6,rfl,by decide⟩
       ·rw[if_neg h]; exact⟨4,rfl,by decide⟩
      obtain⟨q,hq,hq0⟩:=hws;rw[hq]
      have:(q != 0)=true:=bne_iff_ne.2 hq0;simp only[zEv,this,cond_true]
      exact⟨_,6,rfl,hL⟩
     | true =>
      have hO:=App.ok (t:=.mk t1 t2 t3 t4) (o:=(k,row,a,m,nodes,slot,old,text)) hv hf hr' c2 hvo;have hvl:=(hr'.put (rowN l')).valid hvo;have hws:=zZl (r:=rowN l') hv hfd hvl hvo;unfold rowN at hws;rw[hws]
      dsimp only at hO;unfold rowN at hO;generalize putL (Nd.mk t1 t2 t3 t4) row (Nd.mk 1 [] 0 l')=Z at *;obtain⟨q1,q2,q3,q4⟩:=Z;exact⟨_,0,rfl,hO⟩
    ·have:(e != 0)=true:=bne_iff_ne.2 he;simp only[this,cond_true]
     exact⟨_,e,rfl,.chg (t:=.mk t1 t2 t3 t4) (o:=(k,row,a,m,nodes,slot,old,text)) hv hf hr' c2 he⟩
theorem App.w {t t':Nd}{o:Op8}{e:Int} (h:App t o t' e):t'.w<=t.w+Nd.ws o.nodes+o.2.2.2.2.2.2.2.length+4:=by
 have hz:zEv.w=1:=rfl;obtain⟨k,row,a,m,nodes,slot,old,text⟩:=o;simp only[Op8.nodes]
 cases h with
 | arg=>omega
 | form=>omega
 | none=>omega
 | chg=>omega
 | limit=>omega
 | @ok r l h hf hr hc hv =>
  have h1:=hr.w (rowN l)
  have h2:=hc.w;have h3:=zHQ r;have h4:(rowN l).w=Nd.ws l+1 :=(by simp[rowN,Nd.w]);dsimp only at h1 ⊢
  omega
def Op8.row (o:Op8):List Int:=o.2.1
def Op8.text (o:Op8):List UInt8:=o.2.2.2.2.2.2.2
theorem zWH (n:Nat) (t:Nd) (h:2 * t.cnt<n) (hc:t.cnt<=67108864):zB6 n t t=some true:=by
 obtain⟨r,h1,h2⟩:=(zLw n).1 t t h hc;obtain rfl:=h2.2 rfl;exact h1
inductive Runs:Nd->List Op8->Nd->Int->Prop
 | nil (t:Nd):Runs t [] t 0
 | stop {t t':Nd} {o:Op8} {ops:List Op8} {e:Int} (h:App t o t' e) (he:e ≠ 0):Runs t (o::ops) zEv e
 | next {t t' u:Nd} {o:Op8} {ops:List Op8} {e:Int} (h:App t o t' 0) (hr:Runs t' ops u e):Runs t (o::ops) u e
def endOf (f:Fl (Nd×Int×Int) (Int×List UInt8×Int×List Nd)):Nd×Int×Int:=match f with
 | .ret r=>r
 | .go (a,b,c,d)=>(.mk a b c d,0,0)
inductive zZz (t:Nd) (ops:List Op8):Nd->Int->Prop
 | bad (h:zAF t=false):zZz t ops zEv 1
 | go {u:Nd} {e:Int} (h:zAF t=true) (hr:Runs t ops u e):zZz t ops u e
theorem zYm (l b:List Nd){p q:Nat} (hp:p<=l.length):segS (splS l p q b) p (p+b.length)=b:=by
 have h:(l.take p).length=p :=(by rw[List.length_take]; omega);unfold segS splS;rw[List.append_assoc,List.take_append,List.take_of_length_le (by omega),h,show p+b.length - p=b.length by omega,List.take_left,List.drop_append,List.drop_of_length_le (by omega),h,Nat.sub_self]
 rfl
theorem zPx (l b c:List Nd){p q:Nat} (hp:p<=l.length):splS (splS l p q b) p (p+b.length) c=splS l p q c:=by
 have h:(l.take p).length=p :=(by rw[List.length_take]; omega);unfold splS;have e1:((l.take p++b)++l.drop q).take p=l.take p:=by
  rw[List.append_assoc,List.take_append,h,Nat.sub_self,List.take_take,Nat.min_self]; simp
 have e2:((l.take p++b)++l.drop q).drop (p+b.length)=l.drop q:=by
  rw[List.drop_append,List.length_append,h,Nat.sub_self,List.drop_of_length_le (by rw[List.length_append,h]; omega)]; simp
 rw[e1,e2]
theorem zPw (l:List Nd){p q:Nat} (hpq:p<=q):splS l p q (segS l p q)=l:=by
 unfold splS segS;have:l.take p++(l.take q).drop p=l.take q:=by
  have h:=List.take_append_drop p (l.take q)
  rw[List.take_take,Nat.min_eq_left hpq]at h;exact h
 rw[this,List.take_append_drop]
theorem zVw (l b:List Nd){p q:Nat} (hp:p<=q) (hq:q<=l.length):(splS l p q b).length+(q - p)=l.length+b.length:=by
 unfold splS;simp only[List.length_append,List.length_take,List.length_drop]
 omega
theorem yAf (l:List Nd){p q:Nat} (hp:p<=q) (hq:q<=l.length):(segS l p q).length=q - p:=by
 unfold segS;simp only[List.length_take,List.length_drop]
 omega
theorem zZu {l:List Nd}{p:Nat}{it:Nd} (h:l[p]? = some it):segS l p (p+1)=[it]:=by
 have:=zVv l (List.getElem?_eq_some_iff.1 h).1;rw[segS,this,(List.getElem?_eq_some_iff.1 h).2]
theorem zZx (l:List Nd){p q:Nat} (x:Nd) (hp:p<=l.length):(splS l p q [x])[p]? = some x:=by
 have h:(l.take p).length=p :=(by rw[List.length_take]; omega);unfold splS;rw[List.append_assoc,List.getElem?_append_right (by omega),h,Nat.sub_self]; rfl
theorem cnt_kids (v:Nd):v.cnt=Nd.cnts v.kids+1:=by cases v; simp only[Nd.cnt,Nd.kids]; try omega
def invO:Op8->Op8
 | (k,row,a,m,nodes,slot,old,text) =>
  (if k=1 then 2 else if k=2 then 1 else if k=3 then 4 else if k=4 then 3 else k,row,a,m,nodes,slot,if k=5 then text else old,if k=5 then old else text)
theorem FormP.inv {o:Op8} (h:FormP o):FormP (invO o):=by
 obtain⟨k,row,a,m,nodes,slot,old,text⟩:=o;rcases h with ⟨rfl | rfl,h⟩ | ⟨rfl | rfl,h⟩ | ⟨rfl,h1,h⟩
 ·exact .inl ⟨.inr rfl,h⟩
 ·exact .inl ⟨.inl rfl,h⟩
 ·exact .inr (.inl ⟨.inr rfl,h⟩)
 ·exact .inr (.inl ⟨.inl rfl,h⟩)
 ·exact .inr (.inr ⟨rfl,Ne.symm h1,h⟩)
theorem Chg.inv {l l':List Nd}{o:Op8} (hf:FormP o) (h:Chg l o l' 0):Chg l' (invO o) l 0:=by
 obtain⟨k,row,a,m,nodes,slot,old,text⟩:=o;cases h with
 | @ins _ p _ _ _ _ _ h =>
  have hl:=zVw l nodes (Nat.le_refl p) h;have h1:=zYm l nodes (q:=p) h;have h2:=zPx l nodes [] (q:=p) h;have h3:=zPw l (Nat.le_refl p)
  have h4:segS l p p=[] :=(by unfold segS; simp);rw[h4]at h3;have:=Chg.del (l:=splS l p p nodes) (row:=row) (p:=p) (m:=m) (nodes:=nodes) (slot:=slot) (old:=old) (text:=text) (by omega) h1;rw[h2,h3]at this;exact this
 | @del _ p _ _ _ _ _ h he =>
  have hl:=zVw l [] (Nat.le_add_right p nodes.length) h;have h2:=zPx l [] nodes (q:=p+nodes.length) (p:=p) (by omega)
  have h3:=zPw l (Nat.le_add_right p nodes.length)
  rw[he]at h3;simp only[List.length_nil,Nat.add_zero]at h2;have:=Chg.ins (l:=splS l p (p+nodes.length) []) (row:=row) (p:=p) (m:=m) (nodes:=nodes) (slot:=slot) (old:=old) (text:=text) (by simp only[List.length_nil]at hl; omega)
  rw[h2,h3]at this;exact this
 | @wrap _ p m v s _ _ h =>
  have ht:zVE [v] (s:Int):=by
   rcases hf with ⟨h0 | h0,_⟩ | ⟨_,_,h0,_⟩ | ⟨h0,_⟩
   ·cases h0
   ·cases h0
   ·exact h0
   ·cases h0
  obtain⟨v',s',z,e1,e2,_,hz,hk⟩:=ht;cases e1;obtain rfl:=Int.ofNat.inj e2;have h1:=zZx l (q:=p+m) (zJc v s (segS l p (p+m))) (p:=p) (by omega)
  have h2:=zPx l [zJc v s (segS l p (p+m))] (segS l p (p+m)) (q:=p+m) (p:=p) (by omega)
  rw[zPw l (Nat.le_add_right p m)]at h2;have hk2:(zJc v s (segS l p (p+m))).kids[s]? = some (rowN (segS l p (p+m))):=zUk hz;have hm:((rowN (segS l p (p+m))).kids.length:Int)=(m:Int):=by
   have:=yAf l (Nat.le_add_right p m) h;show((segS l p (p+m)).length:Int)=m
   omega
  have:=Chg.unwrap (row:=row) (v:=v) (old:=old) (text:=text) h1 hk2 hm rfl;rw[show(rowN (segS l p (p+m))).kids=segS l p (p+m) from rfl]at this;simp only[List.length_cons,List.length_nil,Nat.zero_add]at h2;rw[h2]at this;exact this
 | @unwrap _ p _ v it z s _ _ h hz hm he =>
  have hp:=(List.getElem?_eq_some_iff.1 h).1;have hl:=zVw l z.kids (Nat.le_add_right p 1) (by omega)
  have h1:=zYm l z.kids (q:=p+1) (p:=p) (by omega)
  have h2:=zPx l z.kids [zJc v s z.kids] (q:=p+1) (p:=p) (by omega)
  have h3:=zPw l (Nat.le_add_right p 1)
  rw[zZu h,he]at h3;rw[h3]at h2;subst hm;have:=Chg.wrap (l:=splS l p (p+1) z.kids) (row:=row) (p:=p) (m:=z.kids.length) (v:=v) (s:=s) (old:=old) (text:=text) (by omega)
  rw[h1,h2]at this;exact this
 | @set _ p _ _ it _ _ _ h hl he =>
  have hp:=(List.getElem?_eq_some_iff.1 h).1;have h1:=zZx l (q:=p+1) (.mk it.kind text it.cols it.kids) (p:=p) (by omega)
  have h2:=zPx l [.mk it.kind text it.cols it.kids] [it] (q:=p+1) (p:=p) (by omega)
  have h3:=zPw l (Nat.le_add_right p 1)
  rw[zZu h]at h3;rw[h3]at h2;simp only[List.length_cons,List.length_nil,Nat.zero_add]at h2;have:=Chg.set (row:=row) (m:=m) (nodes:=nodes) (slot:=slot) (old:=text) (text:=old) h1 hl rfl;obtain⟨i1,i2,i3,i4⟩:=it;have he:i2=old:=he;subst he;simp only[Nd.kind,Nd.cols,Nd.kids]at this h2;rw[h2]at this;exact this
theorem zRI (o:Op8):(invO o).2.1=o.2.1:=rfl
theorem App.inv {t t':Nd}{o:Op8} (h:App t o t' 0):App t' (invO o) t 0/\zAF t'=true:=by
 cases h with
 | chg h hf hr hc he=>exact absurd rfl he
 | @ok r l h hf hr hc hv =>
  have hrr:=(zMo (hr.valid h)).1;have hput:=hr.put (rowN l)
  have hb:=hr.back (rowN l)
  have hci:=hc.inv hf;have:App (putL t o.2.1 (rowN l)) (invO o) (putL (putL t o.2.1 (rowN l)) (invO o).2.1 (rowN r.kids)) 0:=by
   refine App.ok hv hf.inv (r:=rowN l) (by rw[zRI]; exact hput) hci ?_;rw[zRI,show rowN r.kids=r from hrr.symm,hb]
   exact h
  rw[zRI,show rowN r.kids=r from hrr.symm,hb]at this;exact⟨this,hv⟩
theorem zLv {t:Nd} (h:zAF t=true):t.kind=1/\zHi t=true/\t.cnt<=1000/\t.dep<=24:=by
 unfold zAF at h;simp only[Bool.and_eq_true,decide_eq_true_eq]at h;exact⟨eq_of_beq h.1,h.2⟩
def opw (o:Op8):Nat:=Nd.ws o.nodes+o.text.length+4
def sw:List Op8->Nat
 | []=>0
 | o::l=>opw o+sw l
theorem zWh:∀ l:List Op8,4 * l.length<=sw l
 | []=>Nat.zero_le _
 | o::l=>by
  have:=zWh l;simp only[List.length_cons,sw,opw]
  omega
theorem zTi (n:Nat) (hn:200000000<n){ops:List Op8} (hl:ops.length<=10000000) (ho:∀ o∈ops,opw o<=1900000):∀ (k i:Nat) (t:Nd),ops.length - i<k->i<=ops.length->t.w+sw (ops.drop i)<=40000000 ->
  ∃ f,zBN n ops k t.kind t.text t.cols t.kids (i:Int)=some f/\Runs t (ops.drop i) (endOf f).1 (endOf f).2.2/\((endOf f).2.2=0->(endOf f).2.1=0)
 | 0,i,t,h,_,_=>by omega
 | k+1,i,t,h,hi,hw=>by
  unfold zBN
  by_cases hj:i<ops.length
  ·have hd:=List.drop_eq_getElem_cons hj;have hs:=ho _ (List.getElem_mem hj)
   rw[hd]at hw;simp only[sw]at hw;unfold opw at hw hs;obtain⟨t',e,g1,g3⟩:=zRF n t ops[i] hn (by omega) (by omega) (by simp only[Op8.text]at hs; omega)
   have hw':=g3.w;rw[zAJ (Int.ofNat_lt.2 hj),zAC hj,hd]
   simp only[cond_true]
   generalize ops[i]=o at *;obtain⟨q1,q2,q3,q4,q5,q6,q7,q8⟩:=o;obtain⟨t1,t2,t3,t4⟩:=t;have ih:=zTi n hn hl ho k (i+1) t' (by omega) (by omega) (by simp only[Op8.text]at hw; dsimp only at hw' hw; omega)
   obtain⟨u1,u2,u3,u4⟩:=t';simp only[Nd.kind,Nd.text,Nd.cols,Nd.kids]at ih ⊢;simp only[obs,g1]
   by_cases he:e=0
   ·subst he;simp only[show((0:Int) != 0)=false from rfl,cond_false,zAN (show i<9223372036854775807 by omega)]
    obtain⟨f,h1,h3,h4⟩:=ih;exact⟨f,h1,.next g3 h3,h4⟩
   ·have hne:(e != 0)=true:=bne_iff_ne.2 he;simp only[hne,cond_true]
    exact⟨_,rfl,.stop g3 he,fun h=>absurd h he⟩
  ·rw[zAD (by omega),List.drop_eq_nil_iff.2 (by omega)]
   obtain⟨t1,t2,t3,t4⟩:=t;simp only[cond_false]
   exact⟨_,rfl,.nil _,fun _=>rfl⟩
theorem zZO (n:Nat) (t:Nd) (ops:List Op8) (hn:200000000<n) (hw:t.w+sw ops<=40000000) (ho:∀ o∈ops,opw o<=1900000) :
  ∃ u i e,zDv n t ops=some (u,i,e)/\zZz t ops u e/\(e=0->i=0):=by
 have ct:=Nd.cnt_w t;have sl:=zWh ops;have v1:=zDN n t (by omega) (by omega)
 have hd:zCr t=some t:=zMx (by omega)
 obtain⟨f,h1,h3,h4⟩:=zTi n hn (ops:=ops) (by omega) ho n 0 t (by omega) (by omega) (by rw[List.drop_zero]; exact hw)
 rw[show((0:Nat):Int)=0 from rfl]at h1;rw[List.drop_zero]at h3;obtain⟨t1,t2,t3,t4⟩:=t;simp only[Nd.kind,Nd.text,Nd.cols,Nd.kids]at h1;unfold zDv;simp only[v1,obs,hd,h1]
 cases hv:zAF (.mk t1 t2 t3 t4) with
 | false=>exact⟨_,0,1,rfl,.bad hv,fun h=>by cases h⟩
 | true =>
  simp only[Bool.not_true,cond_false]
  cases f with
  | ret r =>
   obtain⟨u,i,e⟩:=r;exact⟨u,i,e,rfl,.go hv h3,h4⟩
  | go g =>
   obtain⟨a,b,c,d⟩:=g;exact⟨_,0,0,rfl,.go hv h3,fun _=>rfl⟩
theorem zQ5 (r:List Int) (hl:r.length<=1073741824):∀ (k i:Nat),r.length - i<k->i<=r.length->zDK r r k (i:Int)=some (.go ())
 | 0,i,h,_=>by omega
 | k+1,i,h,hi=>by
  unfold zDK
  by_cases hj:i<r.length
  ·rw[zAJ (Int.ofNat_lt.2 hj),cond_true,zAC hj]
   simp only[obs,bne_self_eq_false,cond_false]
   rw[zAN (by omega),zQ5 r hl k (i+1) (by omega) (by omega)]
  ·rw[zAD (by omega)]; rfl
theorem zYk (n:Nat) (o:Op8) (hn:2 * Nd.cnts o.nodes+10<n) (hc:Nd.cnts o.nodes<=67000000) (hr:o.row.length<=1073741824) (hrn:o.row.length<n):zGR n o o=some true:=by
 obtain⟨k,row,a,m,nodes,slot,old,text⟩:=o;simp only[Op8.nodes,Op8.row]at hn hc hr hrn;obtain⟨b,h1,h2⟩:=(zLw n).2 nodes nodes (by omega) (by omega)
 obtain rfl:=h2.2 rfl;have h3:=zQ5 row hr n 0 (by omega) (by omega)
 rw[show((0:Nat):Int)=0 from rfl]at h3;unfold zGR;simp only[bne_self_eq_false,cond_false,beq_self_eq_true,Bool.not_true,obs,h3,h1]
theorem zNv (n:Nat){ops:List Op8} (hs:∀ o∈ops,zGR n o o=some true) (hl:ops.length<=1073741824):∀ (k i:Nat),ops.length - i<k->i<=ops.length->zCw n ops ops k (i:Int)=some (.go ())
 | 0,i,h,_=>by omega
 | k+1,i,h,hi=>by
  unfold zCw
  by_cases hj:i<ops.length
  ·have h1:=hs _ (List.getElem_mem hj)
   rw[zAJ (Int.ofNat_lt.2 hj),cond_true,zAC hj]
   generalize ops[i]=o at *;obtain⟨k,row,a,m,nodes,slot,old,text⟩:=o;simp only[obs,h1,Bool.not_true,cond_false]
   rw[zAN (by omega),zNv n hs hl _ (i+1) (by omega) (by omega)]
  ·rw[zAD (by omega)]; rfl
theorem Runs.app {t u v:Nd}{a b:List Op8}{e:Int} (h:Runs t a u 0) (h2:Runs u b v e):Runs t (a++b) v e:=by
 generalize hz:(0:Int)=z at h
 induction h with
 | nil t=>exact h2
 | stop h he=>exact absurd hz.symm he
 | next h hr ih=>exact .next h (ih h2 hz)
theorem Runs.back {t u:Nd}{ops:List Op8} (h:Runs t ops u 0) (hv:zAF t=true):Runs u (ops.map invO).reverse t 0/\zAF u=true:=by
 generalize hz:(0:Int)=z at h
 induction h with
 | nil t=>exact⟨.nil t,hv⟩
 | stop h he=>exact absurd hz.symm he
 | next h hr ih =>
  subst hz;obtain⟨h1,h2⟩:=h.inv;obtain⟨h3,h4⟩:=ih h2 rfl;rw[List.map_cons,List.reverse_cons]
  exact⟨h3.app (.next h1 (.nil _)),h4⟩
theorem Runs.det {t u u':Nd}{ops:List Op8}{e e':Int} (h:Runs t ops u e) (h':Runs t ops u' e'):u=u'/\e=e':=by
 induction h generalizing u' e' with
 | nil t=>cases h'; exact⟨rfl,rfl⟩
 | stop h he =>
  cases h' with
  | stop g hg=>exact⟨rfl,(h.det g).2⟩
  | next g hr=>exact absurd (h.det g).2 he
 | next h hr ih =>
  cases h' with
  | stop g hg=>exact absurd (h.det g).2.symm hg
  | next g hr' =>
   obtain⟨rfl,_⟩:=h.det g;exact ih hr'
theorem zZj {k:Int}{t:List UInt8} (h:zUo k t=true):t.length<=200:=by
 unfold zUo at h
 by_cases k2:k=2
 ·rw[if_pos k2]at h;unfold symB at h
  by_cases h1:t.length=1
  ·omega
  ·rw[if_neg h1]at h;simp only[Bool.and_eq_true,decide_eq_true_eq]at h
   omega
 rw[if_neg k2]at h
 by_cases k3:k=3
 ·rw[if_pos k3]at h;unfold numB at h;simp only[Bool.and_eq_true,decide_eq_true_eq]at h
  omega
 rw[if_neg k3]at h
 by_cases k4:k=4
 ·rw[if_pos k4]at h;simp only[Bool.and_eq_true,decide_eq_true_eq]at h;exact h.1
 rw[if_neg k4]at h
 by_cases k10:k=10
 ·rw[if_pos k10]at h;obtain⟨e,he,h2⟩:=List.any_eq_true.1 h;rw[← eq_of_beq h2]
  have:∀ e∈acL,e.length<=200 :=(by decide);exact this e he
 rw[if_neg k10]at h
 by_cases k11:k=11
 ·rw[if_pos k11]at h;unfold fenB at h;simp only[Bool.and_eq_true,decide_eq_true_eq]at h
  omega
 rw[if_neg k11]at h;rw[eq_of_beq h]
 exact Nat.zero_le _
mutual
theorem zZr:∀ t:Nd,zHi t=true->t.w+1<=202 * t.cnt
 | .mk k t c ks,h=>by
  simp only[zHi,Bool.and_eq_true]at h
  have h1:=zZj h.1.1
  have h2:=zXG ks k h.2
  simp only[Nd.w,Nd.cnt]
  omega
theorem zXG:∀ (l:List Nd) (k:Int),zFj k l=true->Nd.ws l<=202 * Nd.cnts l
 | [],_,_=>Nat.zero_le _
 | v::l,k,h=>by
  simp only[zFj,Bool.and_eq_true]at h
  have h1:=zZr v h.1.2
  have h2:=zXG l k h.2
  simp only[Nd.ws,Nd.cnts]
  omega
end
theorem zSx {t:Nd} (h:zAF t=true):t.w<=202000:=by
 obtain⟨k,f,c,d⟩:=zLv h;have:=zZr t f
 omega
structure OSmall (l:List Op8):Prop where
 size:sw l<=20000000
 op:∀ o∈l,opw o<=1900000
 isize:sw (l.map invO)<=20000000
 oi:∀ o∈l,opw (invO o)<=1900000
 row:∀ o∈l,o.row.length<=16777216
theorem OSmall.len {l:List Op8} (h:OSmall l):l.length<=5000000:=by
 have:=zWh l;have:=h.size
 omega
theorem OSmall.cnt {l:List Op8} (h:OSmall l):∀ o∈l,Nd.cnts o.nodes<=1900000:=fun o ho=>by
 have h1:=h.op o ho;have h2:=Nd.cnts_ws o.nodes;unfold opw at h1
 omega
theorem OSmall.apply {l:List Op8} (h:OSmall l) (n:Nat){t:Nd} (hn:200000000<n) (hv:zAF t=true):∃ u i e,zDv n t l=some (u,i,e)/\Runs t l u e/\(e=0->i=0):=by
 have hw:=zSx hv;have h1:=h.size;obtain⟨u,i,e,g1,g2,g3⟩:=zZO n t l hn (by omega) h.op;cases g2 with
 | bad g=>rw[hv]at g; cases g
 | go _ g=>exact⟨u,i,e,g1,g,g3⟩
abbrev Cur:=List Int×List Int
abbrev Rc:=List Op8×Cur×Cur
structure zVC (r:Rc):Prop where
 ops:OSmall r.1
 b1:r.2.1.1.length<=16777216
 b2:r.2.1.2.length<=16777216
 a1:r.2.2.1.length<=16777216
 a2:r.2.2.2.length<=16777216
theorem zW8 {t:Nd} (h:zAF t=true):zCr t=some t:=by
 have h1:=zSx h;have h2:=Nd.cnt_w t;exact zMx (by omega)
def zOV (o:Op8):Nat:=Nd.ws o.nodes+o.2.2.2.2.2.2.1.length+o.text.length+o.row.length
theorem zV7 (o:Op8):opw o<=zOV o+4:=by unfold opw zOV; omega
theorem zV6 (o:Op8):opw (invO o)<=zOV o+4:=by
 obtain⟨k,row,a,m,nodes,slot,old,text⟩:=o;unfold opw zOV invO;simp only[Op8.nodes,Op8.text,Op8.row]
 by_cases h:k=5
 ·rw[if_pos h]; omega
 ·rw[if_neg h]; omega
theorem zZ5 (p:List Int) (i:Int) (hp:p.length<=4000000):zOR p [i]=some (p++[i]):=by
 unfold zOR;dsimp only;rw[zA2 (by simp only[List.length_cons,List.length_nil]; omega)]
theorem zZn {l:List Nd}{n:Nat}{v:Nd} (h:l[n]? = some v):at? l (n:Int)=some v:=by
 obtain⟨h1,rfl⟩:=List.getElem?_eq_some_iff.1 h;exact zAC h1
theorem zXA {l:List Nd}{q:Nat}{v:Nd} (h:l[q]? = some v):l.drop q=v::l.drop (q+1):=by
 obtain⟨h1,rfl⟩:=List.getElem?_eq_some_iff.1 h;exact List.drop_eq_getElem_cons h1
abbrev AllF:=Nd->List Int->Option (List (List Int))
theorem zS4 (F:AllF) (kids:List Nd) (p:List Int) (i:Nat) (x:Nd) (hx:kids[i]? = some x) (hp:p.length<=3000000) (hk:x.kids.length<=1000000)
  (hF:∀ (s:Nat) (u:Nd),x.kids[s]? = some u->F u (p++[(i:Int),(s:Int)])=some (posU (p++[(i:Int),(s:Int)]) u)) :
  ∀ (k s:Nat) (l:List (List Int)),x.kids.length - s<k->s<=x.kids.length->l.length+(posS p i s (x.kids.drop s)).length<=4000000 ->
   zEr F kids p (i:Int) k (s:Int) l=some (l++posS p i s (x.kids.drop s))
 | 0,s,l,h,_,_=>by omega
 | k+1,s,l,h,hs,hl=>by
  unfold zEr;rw[zZn hx]
  by_cases hj:s<x.kids.length
  ·have g:x.kids[s]? = some x.kids[s]:=List.getElem?_eq_getElem hj;generalize x.kids[s]=u at *;rw[zXA g]at hl ⊢;rw[posS]at hl ⊢;rw[List.length_append]at hl;have e1:=hF s u g;have ih:=zS4 F kids p i x hx hp hk hF k (s+1) (l++posU (p++[(i:Int),(s:Int)]) u) (by omega) (by omega) (by rw[List.length_append]; omega)
   have at2:=zZn g;have hlen:(x.kids.length:Int)=(x.kids.length:Int):=rfl;obtain⟨x1,x2,x3,x4⟩:=x;obtain⟨u1,u2,u3,u4⟩:=u;simp only[Nd.kids]at *;simp only[obs,zAJ (Int.ofNat_lt.2 hj),cond_true,at2]
   rw[zA2 (by rw[List.length_nil]; omega),zA2 (by simp only[List.length_cons,List.length_nil]; omega),e1]
   simp only[obs]
   rw[zA2 (by omega),zAN (by omega),ih,List.append_assoc]
  ·have e:x.kids.drop s=[]:=List.drop_of_length_le (by omega)
   rw[e,posS]
   obtain⟨x1,x2,x3,x4⟩:=x;simp only[Nd.kids]at hj hs;simp only[obs]
   rw[zAD (by omega),cond_false,List.append_nil]
theorem zS3 (F:AllF) (N:Nat) (kids:List Nd) (p:List Int) (hp:p.length<=3000000) (hc:Nd.cnts kids<=1000000) (hN:Nd.cnts kids+1<N)
  (hF:∀ (i s:Nat) (x u:Nd),kids[i]? = some x->x.kids[s]? = some u->F u (p++[(i:Int),(s:Int)])=some (posU (p++[(i:Int),(s:Int)]) u)) :
  ∀ (k i:Nat) (l:List (List Int)),kids.length - i+1<k->i<=kids.length->l.length+(posI p i (kids.drop i)).length<=4000000 ->
   zEq F N kids p k (i:Int) l=some (l++posI p i (kids.drop i))
 | 0,i,l,h,_,_=>by omega
 | k+1,i,l,h,hi,hl=>by
  have hlk:=Nd.cnts_len kids;unfold zEq;rw[zAJ (by omega),cond_true,zZ5 p i (by omega)]
  simp only[obs]
  by_cases hj:i<kids.length
  ·have g:kids[i]? = some kids[i]:=List.getElem?_eq_getElem hj;generalize kids[i]=x at *;have mx:=Nd.cnts_mem (List.mem_of_getElem? g)
   have kx:=x.cnt_kids;have lx:=Nd.cnts_len x.kids;have hX:posX p i x=posS p i 0 x.kids :=(by cases x; rw[posX]; rfl);rw[zXA g]at hl ⊢;rw[posI,hX]at hl ⊢;rw[List.length_cons,List.length_append]at hl;rw[zA2 (by simp only[List.length_cons,List.length_nil]; omega),zDY (by omega),cond_false]
   have e2:=zS4 F kids p i x g hp (by omega) (fun s u hu=>hF i s x u g hu) N 0 (l++[p++[(i:Int)]]) (by omega) (Nat.zero_le _) (by rw[List.drop_zero,List.length_append]; simp only[List.length_cons,List.length_nil]; omega)
   rw[show((0:Nat):Int)=0 from rfl,List.drop_zero]at e2;rw[e2]
   simp only[obs]
   have ih:=zS3 F N kids p hp hc hN hF k (i+1) (l++[p++[(i:Int)]]++posS p i 0 x.kids) (by omega) (by omega) (by simp only[List.length_append,List.length_cons,List.length_nil]; omega)
   rw[zAN (by omega),ih]
   simp only[List.append_assoc,List.cons_append,List.nil_append]
  ·obtain rfl:i=kids.length :=(by omega);rw[List.drop_length,posI]at hl ⊢;rw[zA2 (by simp only[List.length_cons,List.length_nil]at hl ⊢; omega),beq_self_eq_true,cond_true]
theorem zQ0:∀ (n:Nat) (t:Nd) (p:List Int),t.cnt+1<n->t.cnt<=1000000->p.length+2 * t.cnt<=3000000->zEp n t p=some (posU p t)
 | 0,t,p,h,_,_=>by omega
 | n+1,t,p,h,hc,hp=>by
  have k1:=t.cnt_kids;have l1:=Nd.cnts_len t.kids;have hlen:=zSg p 0 t.kids;have hU:posU p t=posI p 0 t.kids :=(by cases t; rw[posU]; rfl);have e:=zS3 (zEp n) n t.kids p (by omega) (by omega) (by omega) (fun i s x u hx hu=>by
   have m1:=Nd.cnts_mem (List.mem_of_getElem? hx)
   have m2:=Nd.cnts_mem (List.mem_of_getElem? hu)
   have c1:=x.cnt_kids;exact zQ0 n u _ (by omega) (by omega) (by simp only[List.length_append,List.length_cons,List.length_nil]; omega)) n 0 [] (by omega) (Nat.zero_le _) (by rw[List.drop_zero,List.length_nil]; omega)
  rw[show((0:Nat):Int)=0 from rfl,List.drop_zero,List.nil_append]at e;rw[hU]
  obtain⟨t1,t2,t3,t4⟩:=t;simp only[Nd.kids]at e ⊢;unfold zEp;simp only[e,obs]
theorem zW1 (n:Nat) (t:Nd) (hv:zBv n t=some (zAF t)) (hn:t.cnt+1<n) (hc:t.cnt<=1000000):zJC n t=some (bif zAF t then (posT t,0) else ([],1)):=by
 have e:=zQ0 n t [] hn hc (by rw[List.length_nil]; omega)
 unfold posT;obtain⟨t1,t2,t3,t4⟩:=t;unfold zJC;simp only[hv,e,obs]
 cases zAF (.mk t1 t2 t3 t4) <;> rfl
theorem zVI {a b:List Int} (ha:a.length<=1073741824):∀ (k i:Nat),a.length - i<k->i<=a.length->i<=b.length->a.take i=b.take i ->
  ∃ fl,zCv a b k (i:Int)=some fl/\((∃ z,fl = .ret z/\z ≠ 0/\a ≠ b)∨(fl = .go ()/\(a.length=b.length->a=b)))
 | 0,i,h,_,_,_=>by omega
 | k+1,i,h,hi,hb,ht=>by
  unfold zCv
  by_cases h1:i<a.length
  ·rw[zAJ (Int.ofNat_lt.2 h1),cond_true]
   by_cases h2:i<b.length
   ·rw[zAJ (Int.ofNat_lt.2 h2)]
    simp only[obs,cond_true,zAC h1,zAC h2]
    by_cases h3:a[i]<b[i]
    ·rw[zAJ h3,cond_true]
     exact⟨_,rfl,.inl ⟨-1,rfl,by decide,fun e=>by subst e; omega⟩⟩
    ·rw[zAD h3,cond_false]
     by_cases h4:b[i]<a[i]
     ·rw[zAJ h4,cond_true]
      exact⟨_,rfl,.inl ⟨1,rfl,by decide,fun e=>by subst e; omega⟩⟩
     ·rw[zAD h4,cond_false,zAN (by omega)]
      have he:a[i]=b[i] :=(by omega);refine zVI ha k (i+1) (by omega) (by omega) (by omega) ?_;rw[← List.take_append_getElem h1,← List.take_append_getElem h2,ht,he]
   ·rw[zAD (by omega)]
    simp only[obs,cond_false]
    exact⟨_,rfl,.inr ⟨rfl,fun e=>by omega⟩⟩
  ·rw[zAD (by omega),cond_false]
   simp only[obs,cond_false]
   refine⟨_,rfl,.inr ⟨rfl,fun e=>?_⟩⟩
   have:i=a.length :=(by omega);subst this;rw[List.take_length]at ht;rw[ht,List.take_of_length_le (by omega)]
theorem cmp_eq (n:Nat) (a b:List Int) (ha:a.length<=1073741824) (hn:a.length<n):∃ c,zEF n a b=some c/\(c=0↔a=b):=by
 obtain⟨fl,h1,h2⟩:=zVI (a:=a) (b:=b) ha n 0 (by omega) (Nat.zero_le _) (Nat.zero_le _) rfl;rw[show((0:Nat):Int)=0 from rfl]at h1;unfold zEF;dsimp only;rw[h1]
 rcases h2 with ⟨z,rfl,hz,hne⟩ | ⟨rfl,he⟩
 ·exact⟨z,rfl,fun h=>absurd h hz,fun h=>absurd h hne⟩
 ·simp only[obs]
  by_cases h3:a.length<b.length
  ·rw[zAJ (Int.ofNat_lt.2 h3)]
   exact⟨-1,rfl,fun h=>(by omega),fun h=>(by subst h; omega)⟩
  ·rw[zAD (by omega),cond_false]
   by_cases h4:b.length<a.length
   ·rw[zAJ (Int.ofNat_lt.2 h4)]
    exact⟨1,rfl,fun h=>(by omega),fun h=>(by subst h; omega)⟩
   ·rw[zAD (by omega),cond_false]
    exact⟨0,rfl,fun _=>he (by omega),fun _=>rfl⟩
theorem zVS (n:Nat) (pos:List Int) (L:List (List Int)) (hL:L.length<=1073741824) (hb:∀ q∈L,q.length<=1073741824/\q.length<n):∀ (k i:Nat),L.length - i<k->i<=L.length ->
  ∃ fl,zDm n pos L k (i:Int)=some fl/\((∃ j:Nat,fl = .ret ((j:Int),0)/\L[j]? = some pos)∨(fl = .go ()/\pos ∉ L.drop i))
 | 0,i,h,_=>by omega
 | k+1,i,h,hi=>by
  unfold zDm
  by_cases hj:i<L.length
  ·have hm:=hb _ (List.getElem_mem hj)
   obtain⟨c,h1,h2⟩:=cmp_eq n L[i] pos hm.1 hm.2;rw[zAJ (Int.ofNat_lt.2 hj),cond_true,zAC hj]
   simp only[obs,h1]
   by_cases hc:c=0
   ·subst hc;exact⟨_,rfl,.inl ⟨i,rfl,by rw[List.getElem?_eq_getElem hj,h2.1 rfl]⟩⟩
   ·rw[zDY hc,cond_false,zAN (by omega)]
    obtain⟨fl,g1,g2⟩:=zVS n pos L hL hb k (i+1) (by omega) (by omega)
    refine⟨fl,g1,g2.imp id fun⟨g3,g4⟩=>⟨g3,fun hm'=>?_⟩⟩
    rw[List.drop_eq_getElem_cons hj]at hm';rcases List.mem_cons.1 hm' with hm' | hm'
    ·exact hc (h2.2 hm'.symm)
    ·exact g4 hm'
  ·rw[zAD (by omega),cond_false,List.drop_of_length_le (by omega)]
   exact⟨_,rfl,.inr ⟨rfl,fun h=>by cases h⟩⟩
theorem zXZ {t:Nd} (hv:zAF t=true){q:List Int} (h:q∈posT t):q.length<=49:=by
 obtain⟨k,f,c,d⟩:=zLv hv;have h1:=zXH q t.kids ((zRN t q).1 h)
 have e:t.dep=Nd.deps t.kids+1:=by cases t; rfl
 omega
theorem zT7 (n:Nat) (t:Nd) (pos:List Int) (hv:zBv n t=some (zAF t)) (hn:2000<n) (hc:t.cnt+1<n) (hc2:t.cnt<=1000000):∃ i e,zFX n t pos=some (i,e)/\((e=0/\zAF t=true/\∃ j:Nat,i=(j:Int)/\(posT t)[j]? = some pos)∨(e ≠ 0/\(zAF t=true->pos ∉ posT t))):=by
 have e1:=zW1 n t hv hc hc2;have hlen:=zYV t;cases hvt:zAF t with
 | false =>
  rw[hvt]at e1;obtain⟨t1,t2,t3,t4⟩:=t;refine⟨0,1,?_,.inr ⟨by decide,fun h=>by cases h⟩⟩
  unfold zFX;simp only[e1,cond_false,obs]
  rfl
 | true =>
  rw[hvt]at e1;obtain⟨k,f,c,d⟩:=zLv hvt;obtain⟨fl,g1,g2⟩:=zVS n pos (posT t) (by omega) (fun q hq=>by have:=zXZ hvt hq; omega) n 0 (by omega) (Nat.zero_le _)
  rw[show((0:Nat):Int)=0 from rfl]at g1;rw[List.drop_zero]at g2;generalize posT t=L at *;obtain⟨t1,t2,t3,t4⟩:=t;unfold zFX;simp only[e1,cond_true,obs,show((0:Int) != 0)=false from rfl,cond_false,g1]
  rcases g2 with ⟨j,rfl,hj⟩ | ⟨rfl,hj⟩
  ·exact⟨_,_,rfl,.inl ⟨rfl,trivial,j,rfl,hj⟩⟩
  ·exact⟨_,_,rfl,.inr ⟨by decide,fun _=>hj⟩⟩
theorem zT8 (n:Nat) (t:Nd) (pos:List Int) (hv:zBv n t=some (zAF t)) (hn:2000<n) (hc:t.cnt+1<n) (hc2:t.cnt<=1000000):∃ b,zE8 n t pos=some b/\(b=true↔zAF t=true/\inL t.kids pos):=by
 obtain⟨i,e,h1,h2⟩:=zT7 n t pos hv hn hc hc2;refine⟨e == 0,?_,?_⟩
 ·obtain⟨t1,t2,t3,t4⟩:=t;unfold zE8;simp only[h1,obs]
 ·rw[beq_iff_eq]
  rcases h2 with ⟨rfl,g1,j,rfl,g2⟩ | ⟨g1,g2⟩
  ·exact⟨fun _=>⟨g1,(zRN t pos).1 (List.mem_of_getElem? g2)⟩,fun _=>rfl⟩
  ·exact⟨fun h=>absurd h g1,fun⟨h,h'⟩=>absurd ((zRN t pos).2 h') (g2 h)⟩
theorem zS2 (n:Nat) (a:List Int) (ha:a.length<=16777216) (hn:200000000<n):zGQ n a a=some true:=by
 obtain⟨c,h1,h2⟩:=cmp_eq n a a (by omega) (by omega)
 unfold zGQ;dsimp only;rw[h1,h2.2 rfl]
 rfl
theorem zLS (n:Nat) (c:Cur) (h1:c.1.length<=16777216) (h2:c.2.length<=16777216) (hn:200000000<n):zC6 n c c=some true:=by
 have g1:=zS2 n c.1 h1 hn;have g2:=zS2 n c.2 h2 hn;obtain⟨p,q⟩:=c;unfold zC6;simp only[g1,g2,obs,cond_true]
abbrev Dc:=List UInt8×Nd×List Rc×Int
theorem zYp (n:Nat) (s:List UInt8) (h:s.length<n) (hb:s.length<=1073741824):zFx n s=some (s.all zFK&&decide ((s.length:Int)<=200)):=by
 have:=zIP (p:=zFK) (l:=s) (zBW s) hb (fun k i h=>by
  rw[zBW,zAJ (Int.ofNat_lt.2 h),cond_true,zAC h]
  simp only[obs,zPg]
  rw[zAN (by omega)]
  cases zFK s[i] <;> rfl) (fun k=>by rw[zBW,zAD (by omega)]; rfl) n 0 (by omega) (by omega)
 rw[show((0:Nat):Int)=0 from rfl,List.drop_zero]at this;rw[zFx,this]
 unfold zPV;cases s.all zFK <;> rfl
theorem zXI:∀ (k:Nat) (l:List Int) (t:Nd),l.length<2 * k->l.length<=1073741824->∃ f,zCt k l t=some f /\
  ((f = .ret false/\¬ inL t.kids l)∨∃ l' t',f = .go (l',t')/\l'.length<3/\(inL t.kids l↔inL t'.kids l'))
 | 0,l,t,h,_=>by omega
 | k+1,l,⟨t1,t2,t3,t4⟩,h,hb=>by
  unfold zCt
  by_cases h3:3<=l.length
  ·rw[zAJ (by omega),cond_true]
   obtain⟨i,s,r,rfl⟩:∃ i s r,l=i::s::r:=by
    match l,h3 with
    | i::s::r,_=>exact⟨i,s,r,rfl⟩
   have e0:at? (i::s::r) 0=some i:=rfl;have e1:at? (i::s::r) 1=some s:=rfl;rw[e0,e1]
   simp only[obs]
   have hin:=zHj (l:=t4) (i:=i) (s:=s) (r:=r)
   by_cases c1:i<0
   ·rw[zAJ c1]
    exact⟨_,rfl,.inl ⟨rfl,fun g=>by have:=(hin.1 g).1; omega⟩⟩
   rw[zAD c1]
   by_cases c2:(t4.length:Int)<=i
   ·rw[zAJ c2]
    refine⟨_,rfl,.inl ⟨rfl,fun g=>?_⟩⟩
    obtain⟨_,x,g1,_⟩:=hin.1 g;have:=(List.getElem?_eq_some_iff.1 g1).1
    omega
   rw[zAD c2]
   by_cases c3:s<0
   ·rw[zAJ c3]
    refine⟨_,rfl,.inl ⟨rfl,fun g=>?_⟩⟩
    obtain⟨_,x,_,g2,_⟩:=hin.1 g
    omega
   rw[zAD c3]
   obtain⟨a,rfl⟩:∃ a:Nat,i=(a:Int):=⟨i.toNat,by omega⟩
   obtain⟨b,rfl⟩:∃ a:Nat,s=(a:Int):=⟨s.toNat,by omega⟩
   have ha:a<t4.length :=(by omega);rw[zAC ha]
   have hx:t4[a]? = some t4[a]:=List.getElem?_eq_getElem ha;generalize t4[a]=x at hx;obtain⟨x1,x2,x3,x4⟩:=x;simp only[cond_false,obs]
   simp only[Int.toNat_natCast]at hin
   by_cases c4:(x4.length:Int)<=(b:Int)
   ·rw[zAJ c4]
    refine⟨_,rfl,.inl ⟨rfl,fun g=>?_⟩⟩
    obtain⟨_,x,g1,_,u,g2,_⟩:=hin.1 g;obtain rfl:=Option.some.inj (hx.symm.trans g1)
    have:=(List.getElem?_eq_some_iff.1 g2).1;simp only[Nd.kids]at this
    omega
   rw[zAD c4]
   have hb':b<x4.length :=(by omega);have hu:x4[b]? = some x4[b]:=List.getElem?_eq_getElem hb';simp only[cond_false,zAC hb',obs]
   generalize x4[b]=u at hu;obtain⟨u1,u2,u3,u4⟩:=u;simp only[obs]
   rw[zA2 (by simp only[List.length_cons]at h3 ⊢; omega)]
   have e3:((((a:Int)::(b:Int)::r).take (((((a:Int)::(b:Int)::r).length:Nat):Int)).toNat).drop (2:Int).toNat)=r:=by
    rw[Int.toNat_natCast,List.take_length]; rfl
   rw[e3]
   simp only[List.length_cons]at h hb;obtain⟨f,f1,f2⟩:=zXI k r (.mk u1 u2 u3 u4) (by omega) (by omega)
   have hiff:inL (Nd.mk t1 t2 t3 t4).kids ((a:Int)::(b:Int)::r)↔inL (Nd.mk u1 u2 u3 u4).kids r:=by
    simp only[Nd.kids]
    rw[hin]
    constructor
    ·rintro⟨_,x,g1,_,u,g2,g3⟩
     obtain rfl:=Option.some.inj (hx.symm.trans g1)
     obtain rfl:=Option.some.inj (hu.symm.trans g2)
     exact g3
    ·exact fun g=>⟨by omega,_,hx,by omega,_,hu,g⟩
   refine⟨f,f1,?_⟩
   rcases f2 with ⟨g1,g2⟩ | ⟨l',t',g1,g2,g3⟩
   ·exact .inl ⟨g1,fun g=>g2 (hiff.1 g)⟩
   ·exact .inr ⟨l',t',g1,g2,hiff.trans g3⟩
  ·rw[zAD (by omega)]
   exact⟨_,rfl,.inr ⟨_,_,rfl,by omega,Iff.rfl⟩⟩
theorem yAS (n:Nat) (t:Nd) (l:List Int) (h:l.length<n) (hb:l.length<=1073741824):∃ b,zFA n t l=some b/\(b=true↔inL t.kids l):=by
 obtain⟨f,f1,f2⟩:=zXI n l t (by omega) hb;obtain⟨t1,t2,t3,t4⟩:=t;unfold zFA;simp only[f1,obs]
 rcases f2 with ⟨rfl,g⟩ | ⟨l',⟨u1,u2,u3,u4⟩,rfl,g1,g2⟩
 ·exact⟨false,rfl,fun h=>(by cases h),fun h=>absurd h g⟩
 ·simp only[g2]
  match l',g1 with
  | [],_=>exact⟨false,rfl,fun h=>(by cases h),fun h=>False.elim h⟩
  | [o],_ =>
   have e0:at? [o] 0=some o:=rfl;have e1:((([o]:List Int).length:Int) == 1)=true:=rfl;simp only[e0,e1,cond_true,obs,zOL,Nd.kids]
   by_cases c:0<=o
   ·rw[zAJ c]
    exact⟨_,rfl,fun h=>⟨c,of_decide_eq_true h⟩,fun h=>decide_eq_true h.2⟩
   ·rw[zAD c]
    exact⟨_,rfl,fun h=>(by cases h),fun h=>absurd h.1 c⟩
  | [a,b],_ =>
   have e1:((([a,b]:List Int).length:Int) == 1)=false:=rfl;simp only[e1,cond_false,obs]
   refine⟨false,rfl,fun h=>(by cases h),fun h=>?_⟩
   obtain⟨_,x,_,_,u,_,g3⟩:=zHj.1 h;exact False.elim g3
theorem zZt (n:Nat){t:Nd} (hv:zAF t=true) (l:List Int) (hn:200000000<n) (hb:l.length<=16777216):∃ b,zC4 n t l=some b/\zE8 n t l=some b:=by
 have hw:=zSx hv;have hc:=Nd.cnt_w t;obtain⟨b,h1,h2⟩:=yAS n t l (by omega) (by omega)
 have v1:=zDN n t (by omega) (by omega)
 have v2:=zFn n t (by omega) (by omega)
 obtain⟨b',h3,h4⟩:=zT8 n t l v2 (by omega) (by omega) (by omega)
 have e:b=b':=Bool.eq_iff_iff.2 (h2.trans ⟨fun g=>h4.2 ⟨hv,g⟩,fun g=>(h4.1 g).2⟩)
 subst e;refine⟨b,?_,h3⟩
 rw[hv]at v1;obtain⟨t1,t2,t3,t4⟩:=t;unfold zC4;simp only[v1,obs,cond_true,h1]
theorem zQY (n:Nat){t:Nd} (hv:zAF t=true) (c:Cur) (hn:200000000<n) (h1:c.1.length<=16777216) (h2:c.2.length<=16777216):∃ b,zDg n t c=some b/\zEt n t c=some b:=by
 obtain⟨b1,f1,g1⟩:=zZt n hv c.1 hn h1;obtain⟨b2,f2,g2⟩:=zZt n hv c.2 hn h2;obtain⟨p,q⟩:=c;obtain⟨t1,t2,t3,t4⟩:=t;dsimp only at f1 f2 g1 g2;unfold zDg zEt;simp only[f1,g1,obs]
 cases b1 with
 | false=>exact⟨_,rfl,rfl⟩
 | true =>
  simp only[cond_true]
  cases((q.length:Int) == 0) with
  | true=>exact⟨_,rfl,rfl⟩
  | false =>
   simp only[cond_false,f2,g2,obs]
   exact⟨_,rfl,rfl⟩
structure RBul (r:Rc):Prop where
 len:r.1.length<=1048576
 ops:∀ o∈r.1,zOV o<=1048576
 b1:r.2.1.1.length<=1048576
 b2:r.2.1.2.length<=1048576
 a1:r.2.2.1.length<=1048576
 a2:r.2.2.2.length<=1048576
structure DBul (d:Dc):Prop where
 title:d.1.length<=1048576
 tree:d.2.1.w<=1048576
 len:d.2.2.1.length<=1048576
 recs:∀ r∈d.2.2.1,RBul r
structure RGo (n:Nat) (r:Rc):Prop where
 small:zVC r
 ref:∀ {t:Nd},zAF t=true->∃ u i e,zD4 n t r.1=some (u,i,e)/\Runs t r.1 u e
structure DGo (n:Nat) (d:Dc):Prop where
 len:d.2.2.1.length<=1000
 recs:∀ r∈d.2.2.1,RGo n r
structure Trs (rs:List Rc) (ts:List Nd):Prop where
 len:ts.length=rs.length+1
 valid:∀ t∈ts,zAF t=true
 step:∀ (i:Nat) (r:Rc),rs[i]? = some r->∃ t u,ts[i]? = some t/\ts[i+1]? = some u/\Runs t r.1 u 0
theorem Trs.one {t:Nd} (h:zAF t=true):Trs [] [t]:=⟨rfl,fun u hu=>by rw[List.mem_singleton.1 hu]; exact h,fun i r h=>by simp at h⟩
theorem Trs.cons {rs:List Rc}{ts:List Nd}{r:Rc}{t u:Nd} (h:Trs rs ts) (hu:ts[0]? = some u) (hv:zAF t=true) (hr:Runs t r.1 u 0):Trs (r::rs) (t::ts):=by
 refine⟨by have:=h.len; simp only[List.length_cons]; omega,fun v hv'=>?_,fun i q hq=>?_⟩
 ·rcases List.mem_cons.1 hv' with rfl | hm
  ·exact hv
  ·exact h.valid v hm
 ·cases i with
  | zero =>
   obtain rfl:r=q :=(by simpa using hq);exact⟨t,u,rfl,hu,hr⟩
  | succ i=>exact h.step i q (by simpa using hq)
def yAy (t:Nd):Int×List UInt8×Int×List Nd:=(t.kind,t.text,t.cols,t.kids)
def verL (n:Nat) (rs:List Rc) (a:Int) (k:Nat) (t z:Nd) (i:Int):=zB5 n rs a k t.kind t.text t.cols t.kids z.kind z.text z.cols z.kids i
def valL (n:Nat) (rs:List Rc) (k:Nat) (t:Nd) (i:Int):=zDn n rs k t.kind t.text t.cols t.kids i
theorem zNx (n:Nat) (hn:200000000<n){rs:List Rc} (hl:rs.length<=1000) (hf:∀ r∈rs,RGo n r) (a:Int):∀ (k i:Nat) (t z:Nd),rs.length - i<k->i<=rs.length->zAF t=true ->
  (verL n rs a k t z (i:Int)=some (.ret (.mk 0 [] 0 [],false))/\valL n rs k t (i:Int)=some (.ret false)) ∨
  (valL n rs k t (i:Int)=some (.go ())/\∃ ts z',Trs (rs.drop i) ts/\ts[0]? = some t/\verL n rs a k t z (i:Int)=some (.go (yAy z'))/\(a<=(i:Int)->z'=z)/\(∀ m:Nat,0<m->a=((i+m:Nat):Int)->a<=(rs.length:Int)->ts[m]? = some z'))
 | 0,i,t,z,h,_,_=>by omega
 | k+1,i,t,z,h,hi,hv=>by
  unfold verL valL zB5 zDn
  by_cases hj:i<rs.length
  ·have hr:=hf _ (List.getElem_mem hj)
   have ha:=zAC hj;have hd:=List.drop_eq_getElem_cons hj;obtain⟨u,j,e,g1,g2,g3⟩:=hr.small.ops.apply n hn hv;obtain⟨u',j',e',q1,q2⟩:=hr.ref hv;obtain⟨rfl,rfl⟩:=g2.det q2;obtain⟨b1,p1,p2⟩:=zQY n hv (rs[i]).2.1 hn hr.small.b1 hr.small.b2;have hu:e=0->zAF u=true:=fun he=>by subst he; exact(g2.back hv).2
   have pt:e=0->∃ b2,zDg n u (rs[i]).2.2=some b2/\zEt n u (rs[i]).2.2=some b2:=fun he=>zQY n (hu he) _ hn hr.small.a1 hr.small.a2
   have ih:=fun z' he=>zNx n hn hl hf a k (i+1) u z' (by omega) (by omega) (hu he)
   rw[zAJ (Int.ofNat_lt.2 hj),cond_true,hd]
   simp only[ha]
   generalize rs[i]=r at *;obtain⟨ops,⟨c1,c2⟩,⟨c3,c4⟩⟩:=r;obtain⟨t1,t2,t3,t4⟩:=t;dsimp only at g1 q1 p1 p2 pt;simp only[Nd.kind,Nd.text,Nd.cols,Nd.kids,obs,g1,q1]
   by_cases he:e=0
   ·subst he;obtain⟨b2,p3,p4⟩:=pt rfl;have hu':=hu rfl;replace ih:=fun z'=>ih z' rfl
    unfold verL valL at ih;obtain⟨u1,u2,u3,u4⟩:=u;simp only[Nd.kind,Nd.text,Nd.cols,Nd.kids]at ih;simp only[show((0:Int) != 0)=false from rfl,cond_false,p1,p2,p3,p4,obs]
    cases b1 with
    | false=>exact .inl ⟨rfl,rfl⟩
    | true =>
     cases b2 with
     | false=>exact .inl ⟨rfl,rfl⟩
     | true =>
      simp only[Bool.not_true,cond_false,obs,zAN (show i<9223372036854775807 by omega)]
      by_cases hai:(((i+1:Nat):Int))=a
      ·have e1:((((i+1:Nat):Int)) == a)=true:=beq_iff_eq.2 hai;simp only[e1,cond_true,obs]
       rcases ih (.mk u1 u2 u3 u4) with ih | ⟨h1,ts,z',h2,h3,h4,h5,h6⟩
       ·exact .inl ih
       ·refine .inr ⟨h1,_,z',h2.cons h3 hv g2,rfl,h4,fun h=>by omega,fun m hm ham hal=>?_⟩
        obtain rfl:m=1 :=(by omega);rw[h5 (by omega)]
        exact h3
      ·have e1:((((i+1:Nat):Int)) == a)=false:=beq_eq_false_iff_ne.2 hai;simp only[e1,cond_false,obs]
       rcases ih z with ih | ⟨h1,ts,z',h2,h3,h4,h5,h6⟩
       ·exact .inl ih
       ·refine .inr ⟨h1,_,z',h2.cons h3 hv g2,rfl,h4,fun h=>h5 (by omega),fun m hm ham hal=>?_⟩
        obtain⟨m,rfl⟩:∃ j,m=j+1:=⟨m - 1,by omega⟩
        exact h6 m (by omega) (by omega) hal
   ·have hne:(e != 0)=true:=bne_iff_ne.2 he;obtain⟨u1,u2,u3,u4⟩:=u;simp only[hne,cond_true,obs]
    exact .inl ⟨trivial,trivial⟩
  ·rw[zAD (by omega),List.drop_eq_nil_iff.2 (by omega)]
   exact .inr ⟨rfl,[t],z,Trs.one hv,rfl,rfl,fun _=>rfl,fun m hm ham hal=>by omega⟩
theorem zW9 (n:Nat) (hn:200000000<n){d:Dc} (hb:DBul d) (hf:DGo n d) :
  (zE9 n d=some false/\∀ a,zDh n d a=some (.mk 0 [] 0 [],false)) ∨
  (zE9 n d=some true/\zAF d.2.1=true/\d.2.2.1.length<=1000/\(∃ j:Nat,d.2.2.2=(j:Int)/\j<=d.2.2.1.length)/\∃ ts,Trs d.2.2.1 ts/\ts[0]? = some d.2.1 /\
   ∀ a,∃ z,zDh n d a=some (z,true)/\(∀ m:Nat,a=(m:Int)->m<=d.2.2.1.length->ts[m]? = some z)):=by
 have k1:=hb.title;have k2:=hf.len;have k3:=hb.tree;have t1:=zYp n d.1 (by omega) (by omega)
 have t2:=zI9 n d.1 (by omega) (by omega)
 have v1:=zDN n d.2.1 (by omega) (by omega)
 have v2:=zFn n d.2.1 (by omega) (by omega)
 have lp:=fun a hv=>zNx n hn (rs:=d.2.2.1) (by omega) hf.recs a n 0 d.2.1 d.2.1 (by omega) (Nat.zero_le _) hv
 have hc:=fun hv:zAF d.2.1=true=>zW8 hv
 obtain⟨ti,t,rs,dn⟩:=d;dsimp only at *;unfold zDh zE9
 by_cases c1:200<ti.length
 ·refine .inl ⟨?_,fun a=>?_⟩
  ·obtain⟨q1,q2,q3,q4⟩:=t;dsimp only;rw[zAJ (by omega)]; rfl
  ·obtain⟨q1,q2,q3,q4⟩:=t;dsimp only;rw[t1,zAD (by omega),Bool.and_false]; rfl
 cases c2:ti.all zFK with
 | false =>
  rw[c2]at t1 t2;refine .inl ⟨?_,fun a=>?_⟩
  ·obtain⟨q1,q2,q3,q4⟩:=t;dsimp only;rw[zAD (by omega),t2]; rfl
  ·obtain⟨q1,q2,q3,q4⟩:=t;dsimp only;rw[t1,Bool.false_and]; rfl
 | true =>
  rw[c2]at t1 t2;rw[zAJ (by omega),Bool.and_true]at t1;cases c3:zAF t with
  | false =>
   rw[c3]at v1 v2;obtain⟨q1,q2,q3,q4⟩:=t;refine .inl ⟨?_,fun a=>?_⟩
   ·dsimp only;rw[zAD (by omega),t2]
    simp only[cond_false,obs,Bool.not_true,v2]; rfl
   ·dsimp only;simp only[t1,cond_false,obs,Bool.not_true,v1]; rfl
  | true =>
   rw[c3]at v1 v2;have hc':=hc c3;replace lp:=fun a=>lp a c3
   unfold verL valL yAy at lp;obtain⟨q1,q2,q3,q4⟩:=t;simp only[Nd.kind,Nd.text,Nd.cols,Nd.kids]at lp;rw[show((0:Nat):Int)=0 from rfl]at lp;simp only[t1,t2,v1,v2,cond_false,obs,Bool.not_true,hc',zAD (show ¬ (200<(ti.length:Int)) by omega),zAD (show ¬ (1000<(rs.length:Int)) by omega)]
   by_cases c4:dn<0
   ·simp only[zAJ c4,cond_true,obs]
    exact .inl ⟨trivial,fun _=>trivial⟩
   by_cases c5:(rs.length:Int)<dn
   ·simp only[zAD c4,zAJ c5,cond_true,cond_false,obs]
    exact .inl ⟨trivial,fun _=>trivial⟩
   simp only[zAD c4,zAD c5,cond_false,obs]
   rcases lp 0 with ⟨_,h0⟩ | ⟨h0,ts,_,g1,g2,_⟩
   ·refine .inl ⟨by rw[h0]; rfl,fun a=>?_⟩
    rcases lp a with ⟨h1,_⟩ | ⟨h1,_⟩
    ·rw[h1]; rfl
    ·rw[h0]at h1; cases h1
   ·rw[List.drop_zero]at g1;refine .inr ⟨by rw[h0]; rfl,trivial,by omega,⟨dn.toNat,by omega,by omega⟩,ts,g1,g2,fun a=>?_⟩
    rcases lp a with ⟨_,h1⟩ | ⟨_,ts',z,k1,k2,k3,k4,k5⟩
    ·rw[h0]at h1; cases h1
    ·rw[List.drop_zero]at k1;have hts:ts'=ts:=by
      apply List.ext_getElem?
      intro i
      induction i with
      | zero=>rw[g2,k2]
      | succ i ih =>
       by_cases hi:i<rs.length
       ·obtain⟨x,y,x1,x2,x3⟩:=g1.step i _ (List.getElem?_eq_getElem hi)
        obtain⟨x',y',y1,y2,y3⟩:=k1.step i _ (List.getElem?_eq_getElem hi)
        rw[x1,y1]at ih;obtain rfl:=Option.some.inj ih;obtain⟨rfl,_⟩:=x3.det y3;rw[x2,y2]
       ·have:=g1.len;have:=k1.len;rw[List.getElem?_eq_none (by omega),List.getElem?_eq_none (by omega)]
     subst hts;obtain⟨z1,z2,z3,z4⟩:=z;refine⟨.mk z1 z2 z3 z4,by rw[k3]; rfl,fun m ha hm=>?_⟩
     by_cases hm0:m=0
     ·subst hm0;rw[k4 (by omega)]
      exact k2
     ·exact k5 m (by omega) (by omega) (by omega)
theorem zSz (n:Nat){d:Dc}{z:Nd}{b:Bool} (h:zDh n d 0=some (z,b)):zDD n d=some b:=by
 obtain⟨ti,⟨q1,q2,q3,q4⟩,rs,dn⟩:=d;obtain⟨z1,z2,z3,z4⟩:=z;unfold zDD;simp only[h,obs]
mutual
def CV.eqv:CV->CV->Bool
 | .mk k n t vs,.mk k' n' t' vs'=>(k == k')&&(n == n')&&(t == t')&&CV.eqvs vs vs'
def CV.eqvs:List CV->List CV->Bool
 | [],[]=>true
 | v::vs,u::us=>v.eqv u&&CV.eqvs vs us
 | _,_=>false
end
theorem CV.eqvs_len:∀ {a b:List CV},a.length ≠ b.length->CV.eqvs a b=false
 | [],[],h=>absurd rfl h
 | [],_::_,_=>rfl
 | _::_,[],_=>rfl
 | v::a,u::b,h=>by simp only[CV.eqvs]; rw[CV.eqvs_len (by simpa using h)]; simp
mutual
theorem CV.eqv_self:∀ (v:CV),v.eqv v=true
 | .mk k n t vs=>by simp[CV.eqv,CV.eqvs_self vs]
theorem CV.eqvs_self:∀ (vs:List CV),CV.eqvs vs vs=true
 | []=>rfl
 | v::vs=>by simp[CV.eqvs,CV.eqv_self v,CV.eqvs_self vs]
end
theorem zHJ {F:CV->CV->Option Bool}{vs us:List CV} (hl:vs.length<=16777216):∀ (r s:List CV) (i k:Nat),vs.drop i=r->us.drop i=s->r.length=s.length->r.length<k->(∀ v∈r,∀ u∈s,F v u=some (v.eqv u))->zCc F vs us k i=some (bif CV.eqvs r s then .go () else .ret false)
 | _,_,_,0,_,_,_,h,_=>by omega
 | [],[],i,k+1,h,_,_,_,_=>by rw[zCc,zV3 h]; rfl
 | [],_::_,_,_,_,_,h,_,_=>by simp at h
 | _::_,[],_,_,_,_,h,_,_=>by simp at h
 | ⟨a,b,c,d⟩::r,⟨a',b',c',d'⟩::s,i,k+1,h,h',hls,hk,hF=>by
  have hi:=zMy h;rw[zCc,zXQ h,cond_true,zOx h,zOx h']
  simp only[obs,hF ⟨a,b,c,d⟩ List.mem_cons_self ⟨a',b',c',d'⟩ List.mem_cons_self]
  cases hs:(CV.mk a b c d).eqv ⟨a',b',c',d'⟩ with
  | false=>simp[CV.eqvs,hs]
  | true =>
   rw[zAN (by omega),zHJ hl r s (i+1) k (zOF h) (zOF h') (by simpa using hls) (by simpa using hk) (fun v hv u hu=>hF v (List.mem_cons_of_mem _ hv) u (List.mem_cons_of_mem _ hu))]
   simp[CV.eqvs,hs]
theorem zJu:∀ (n:Nat) (v u:CV),v.w<n->v.w<=16777216->zDi n v u=some (v.eqv u)
 | 0,_,_,h,_=>by omega
 | n+1,⟨a,b,c,d⟩,⟨a',b',c',d'⟩,h,hb=>by
  simp only[CV.w]at h hb;have hl:=CV.ws_len d;have key:d.length=d'.length->zCc (zDi n) d d' n 0=some (bif CV.eqvs d d' then .go () else .ret false):=fun h4 =>
   zHJ (F:=zDi n) (vs:=d) (us:=d') (by omega) d d' 0 n rfl rfl h4 (by omega) fun v hv u _=>zJu n v u (by have:=CV.w_mem hv; omega) (by have:=CV.w_mem hv; omega)
  rw[zDi,CV.eqv]
  simp only[bne]
  cases a == a' with
  | false=>rfl
  | true =>
  cases b == b' with
  | false=>rfl
  | true =>
  cases c == c' with
  | false=>rfl
  | true =>
  by_cases h4:d.length=d'.length
  ·have h5:((d.length:Int) == (d'.length:Int))=true :=(by simp[h4]);rw[h5,key h4]
   cases CV.eqvs d d' <;> rfl
  ·have h5:((d.length:Int) == (d'.length:Int))=false:=by
    rw[beq_eq_false_iff_ne]; omega
   rw[h5,CV.eqvs_len h4]
   rfl
theorem w8 {n:Int} (h0:0<=n) (h1:n<256):IntKind.u8.wrap n=n:=by
 have:IntKind.u8.wrap n=n % 256:=by
  simp only[IntKind.wrap,IntKind.bits,IntKind.signed]
  simp
 rw[this]; omega
theorem w8' (n:Int):IntKind.u8.wrap n=n % 256:=by
 simp only[IntKind.wrap,IntKind.bits,IntKind.signed]
 simp
def zig (i:Int):Nat:=if i<0 then (2 * (-(i+1))+1).toNat else (2 * i).toNat
def CV.num:CV->Nat
 | .mk k i t l=>if k=2 then t.length else if k=3 then l.length else zig i
def blen (n:Nat):Nat:=if n<256 then 1 else blen (n / 256)+1
termination_by n
decreasing_by omega
theorem zIf {n:Nat} (h:n<256):blen n=1:=by rw[blen,if_pos h]
theorem zNP {n:Nat} (h:256<=n):blen n=blen (n / 256)+1:=by rw[blen,if_neg (by omega)]
theorem zYB (n:Nat):1<=blen n:=by rw[blen]; split <;> omega
theorem zZD:∀ (n:Nat),n<256 ^ blen n:=by
 intro n
 induction n using Nat.strongRecOn with
 | _ n ih =>
  by_cases h:n<256
  ·rw[zIf h]; omega
  ·have:=ih (n / 256) (by omega)
   rw[zNP (by omega),Nat.pow_succ]; omega
theorem zZC:∀ (n:Nat),1<=n->256 ^ (blen n - 1)<=n:=by
 intro n
 induction n using Nat.strongRecOn with
 | _ n ih =>
  intro h1
  by_cases h:n<256
  ·rw[zIf h]; simp; omega
  ·have h2:=ih (n / 256) (by omega) (by omega)
   have h3:=zYB (n / 256)
   rw[zNP (by omega),Nat.add_sub_cancel]
   have e:256 ^ blen (n / 256)=256 ^ (blen (n / 256) - 1) * 256:=by
    rw[← Nat.pow_succ]; congr 1; omega
   rw[e]
   have:=Nat.mul_le_mul_right 256 h2
   omega
theorem zXo {n k:Nat} (hk:1<=k) (h:n<256 ^ k):blen n<=k:=by
 by_cases h0:n=0
 ·subst h0; rw[zIf (by omega)]; exact hk
 ·have h1:=zZC n (by omega)
  have h2:blen n - 1<k:=(Nat.pow_lt_pow_iff_right (a:=256) (by omega)).1 (Nat.lt_of_le_of_lt h1 h)
  omega
theorem zXn {n k:Nat} (hk:1<=k) (h:n<256 ^ k) (h':256 ^ (k - 1)<=n):blen n=k:=by
 have h1:=zXo hk h;have h2:=zZD n;have h3:k - 1<blen n:=(Nat.pow_lt_pow_iff_right (a:=256) (by omega)).1 (Nat.lt_of_le_of_lt h' h2)
 omega
theorem zSr (n i:Nat) (h:i<=64):((n:Int).fdiv (2 ^ (min (i:Int).toNat IntKind.u64.bits)))=((n / 2 ^ i:Nat):Int):=by
 have e:min (i:Int).toNat IntKind.u64.bits=i :=(by show min (i:Int).toNat 64=i; omega);rw[e,Int.fdiv_eq_ediv_of_nonneg _ (by exact_mod_cast Nat.zero_le _)]
 push_cast
 rfl
theorem zK7 {n m:Nat} (hn:10<=n) (h:m<18446744073709551616):zDs n (m:Int)=some (blen m:Int):=by
 obtain⟨f,rfl⟩:∃ f,n=f+9:=⟨n - 9,by omega⟩
 have e8:=zSr m 8 (by omega)
 rw[show((8:Nat):Int)=8 from rfl,show(2:Nat) ^ 8=256 from rfl]at e8;rw[zDs,e8]
 have key:∀ (g x c:Nat),x<256 ^ 8->c<100->zBg (g+9) (x:Int) (c:Int)=some ((c+(if x=0 then 0 else blen x):Nat):Int):=by
  intro g;have:∀ (d a x c:Nat),x<256 ^ d->c+d<1000->zBg (a+d+1) (x:Int) (c:Int)=some ((c+(if x=0 then 0 else blen x):Nat):Int):=by
   intro d
   induction d with
   | zero =>
    intro a x c hx hc;have:x=0 :=(by simpa using hx);subst this;rw[zBg]; simp
   | succ d ih =>
    intro a x c hx hc;rw[zBg]
    by_cases h0:x=0
    ·subst h0; simp
    ·have e:((x:Int) != 0)=true :=(by simpa using h0);have e8:=zSr x 8 (by omega)
     rw[show((8:Nat):Int)=8 from rfl,show(2:Nat) ^ 8=256 from rfl]at e8;rw[e,cond_true,if_neg h0,e8,wrap64_in (by omega) (by omega),show((c:Int)+1)=((c+1:Nat):Int) by omega,show a+(d+1)=a+d+1 by omega]
     rw[ih a (x / 256) (c+1) (by rw[Nat.pow_succ]at hx; omega) (by omega)]
     congr 1
     by_cases hs:x<256
     ·rw[zIf (n:=x) hs,if_pos (by omega)]
     ·rw[zNP (n:=x) (by omega),if_neg (by omega)]; omega
  intro x c hx hc;exact this 8 g x c hx (by omega)
 have:=key f (m / 256) 1 (by omega) (by omega)
 rw[show((1:Nat):Int)=1 from rfl]at this;rw[this,obs]
 congr 1
 by_cases hs:m<256
 ·rw[zIf (n:=m) hs,if_pos (by omega)]
 ·rw[zNP (n:=m) (by omega),if_neg (by omega)]; omega
def dig (i n:Nat):UInt8:=UInt8.ofNat (n / 256 ^ i)
def beK:Nat->Nat->List UInt8
 | 0,_=>[]
 | i+1,n=>dig i n::beK i n
theorem zQD:∀ (k n:Nat),(beK k n).length=k
 | 0,_=>rfl
 | k+1,n=>by simp[beK,zQD k n]
theorem zYA (m:Nat):b8of (IntKind.u8.wrap (m:Int))=UInt8.ofNat m:=by
 rw[w8']
 apply UInt8.toNat_inj.1
 have e:((m:Int) % 256).toNat=m % 256 :=(by omega);simp[b8of,e,UInt8.toNat_ofNat']
def CV.head (v:CV):List UInt8 :=
 match v with
 | .mk k i t l=>if v.num<56 then [UInt8.ofNat (64 * k.toNat+v.num)] else UInt8.ofNat (64 * k.toNat+55+blen v.num)::beK (blen v.num) v.num
mutual
def CV.code:CV->List UInt8
 | .mk k i t l=>(CV.mk k i t l).head++t++CV.codes l
def CV.codes:List CV->List UInt8
 | []=>[]
 | v::vs=>v.code++CV.codes vs
end
def CV.own (k i:Int) (t:List UInt8) (l:List CV):Bool:=(k == 1&&t == []&&l.isEmpty)||(k == 2&&i == 0&&l.isEmpty)||(k == 3&&i == 0&&t == [])
mutual
def CV.proper:CV->Bool
 | .mk k i t l=>CV.own k i t l&&CV.propers l
def CV.propers:List CV->Bool
 | []=>true
 | v::vs=>v.proper&&CV.propers vs
end
mutual
def CV.depth:CV->Nat
 | .mk k i t l=>if k=3 then CV.depths l+1 else 1
def CV.depths:List CV->Nat
 | []=>0
 | v::vs=>max v.depth (CV.depths vs)
end
theorem CV.propers_mem:∀ {l:List CV}{v:CV},CV.propers l=true->v∈l->v.proper=true
 | u::l,v,h,hm=>by
  simp only[CV.propers,Bool.and_eq_true]at h;rcases List.mem_cons.1 hm with rfl | hm
  ·exact h.1
  ·exact CV.propers_mem h.2 hm
def numV (i:Int):CV:=.mk 1 i [] []
def zMW (t:List UInt8):CV:=.mk 2 0 t []
def zET (l:List CV):CV:=.mk 3 0 [] l
def zMC (l:List Int):CV:=zET (l.map numV)
mutual
def zHv:Nd->CV
 | .mk k t c ks=>zET (numV k::zMW t::numV c::zMl ks)
def zMl:List Nd->List CV
 | []=>[]
 | v::vs=>zHv v::zMl vs
end
theorem zEu:∀ l:List Nd,zMl l=l.map zHv
 | []=>rfl
 | v::vs=>by rw[zMl,List.map_cons,zEu vs]
def curV (c:Cur):CV:=zET [zMC c.1,zMC c.2]
def opV (o:Op8):CV:=zET [numV o.1,zMC o.2.1,numV o.2.2.1,numV o.2.2.2.1,zET (zMl o.2.2.2.2.1),numV o.2.2.2.2.2.1,zMW o.2.2.2.2.2.2.1,zMW o.2.2.2.2.2.2.2]
def recV (r:Rc):CV:=zET [zET (r.1.map opV),curV r.2.1,curV r.2.2]
def docV (d:Dc):CV:=zET [zMW d.1,zHv d.2.1,numV d.2.2.2,zET (d.2.2.1.map recV)]
theorem zL3 {α:Type}{f:α->CV}{l:List α} (L:Nat->Int->List CV->Option (List CV)) (hl:l.length<=1073741824)
  (hs:∀ (k i:Nat) (acc:List CV) (h:i<l.length),acc.length<=i->L (k+1) (i:Int) acc=L k ((i+1:Nat):Int) (acc++[f l[i]]))
  (he:∀ (k:Nat) (acc:List CV),L (k+1) (l.length:Int) acc=some acc) :
  ∀ (k i:Nat) (acc:List CV),l.length - i<k->i<=l.length->acc.length<=i->L k (i:Int) acc=some (acc++(l.drop i).map f)
 | 0,i,acc,h,_,_=>by omega
 | k+1,i,acc,h,hi,ha=>by
  by_cases hj:i<l.length
  ·rw[hs k i acc hj ha,zL3 L hl hs he k (i+1) _ (by omega) (by omega) (by simp only[List.length_append,List.length_cons,List.length_nil]; omega),List.drop_eq_getElem_cons hj,List.map_cons,List.append_assoc]
   rfl
  ·obtain rfl:i=l.length :=(by omega);rw[he,List.drop_length,List.map_nil,List.append_nil]
theorem zSn (n:Nat) (l:List Int) (hn:l.length<n) (hl:l.length<=1073741824):zDL n l=some (zMC l):=by
 have:=zL3 (f:=numV) (l:=l) (zBY l) hl (fun k i acc h ha=>by
  rw[zBY,zAJ (Int.ofNat_lt.2 h),cond_true,zAC h]
  simp only[obs,zBz]
  rw[zA2 (by simp only[List.length_cons,List.length_nil]; omega),zAN (by omega)]; rfl) (fun k acc=>by rw[zBY,zAD (by omega)]; rfl) n 0 [] (by omega) (Nat.zero_le _) (Nat.le_refl _)
 rw[show((0:Nat):Int)=0 from rfl,List.drop_zero,List.nil_append]at this;unfold zDL;simp only[zBq,obs,this]
 rfl
theorem zW7 (l:List Nd):(zMl l).length=l.length:=by rw[zEu,List.length_map]
theorem zSo:∀ n:Nat,(∀ t:Nd,2 * t.cnt<n->t.cnt<=16777216->zD5 n t=some (zHv t))/\(∀ l:List Nd,2 * Nd.cnts l+1<n->Nd.cnts l<=16777216->zFa n l=some (zMl l))
 | 0=>⟨fun _ h=>by omega,fun _ h=>by omega⟩
 | n+1=>by
  obtain⟨ih1,ih2⟩:=zSo n;refine⟨fun t h hb=>?_,fun l h hb=>?_⟩
  ·obtain⟨k,tx,c,ks⟩:=t;simp only[Nd.cnt]at h hb;have hlen:=Nd.cnts_len ks;unfold zD5;simp only[obs,zBz,zEI,zBq,ih2 ks (by omega) (by omega)]
   rw[zA2 (by simp only[List.length_cons,List.length_nil,zW7]; omega)]
   rfl
  ·have hlen:=Nd.cnts_len l;have:=zL3 (f:=zHv) (l:=l) (zCH (zD5 n) l) (by omega) (fun k i acc h' ha=>by
    have hm:=Nd.cnts_mem (List.getElem_mem h')
    have e:=ih1 l[i] (by omega) (by omega)
    rw[zCH,zAJ (Int.ofNat_lt.2 h'),cond_true,zAC h']
    generalize l[i]=v at e;obtain⟨v1,v2,v3,v4⟩:=v;rw[zHv,zET]at e;simp only[obs,e]
    rw[zA2 (by simp only[List.length_cons,List.length_nil]; omega),zAN (by omega),zHv,zET]) (fun k acc=>by rw[zCH,zAD (by omega)]; rfl) n 0 [] (by omega) (Nat.zero_le _) (Nat.le_refl _)
   rw[show((0:Nat):Int)=0 from rfl,List.drop_zero,List.nil_append]at this;unfold zFa;simp only[obs,this]
   rw[zEu]
theorem zX4 (n:Nat) (c:Cur) (hn:200000000<n) (h1:c.1.length<=16777216) (h2:c.2.length<=16777216):zFY n c=some (curV c):=by
 have e1:=zSn n c.1 (by omega) (by omega)
 have e2:=zSn n c.2 (by omega) (by omega)
 obtain⟨p,q⟩:=c;dsimp only at e1 e2;unfold zFY;simp only[e1,e2,zMC,zET,obs,zBq]
 rfl
theorem yAc (n:Nat) (r:Rc) (hn:200000000<n) (h:RBul r):zGm n r=some (recV r):=by
 have hlen:=h.len;have this:=zL3 (f:=opV) (l:=r.1) (zCk n r.1) (by omega) (fun k i acc h' ha=>by
  have hb:=h.ops _ (List.getElem_mem h')
  rw[zCk,zAJ (Int.ofNat_lt.2 h'),cond_true,zAC h']
  generalize r.1[i]=v at hb;obtain⟨k_,row,a,m,nodes,slot,old,text⟩:=v;unfold zOV at hb;simp only[Op8.nodes,Op8.row]at hb;have hc:=Nd.cnts_ws nodes;have e1:=(zSo n).2 nodes (by omega) (by omega)
  have e2:=zSn n row (by omega) (by omega)
  simp only[e1,e2,zMC,zET,obs,zBq,zBz,zEI]
  rw[zA2 (by simp only[List.length_cons,List.length_nil]; omega),zAN (by omega)]; rfl) (fun k acc=>by rw[zCk,zAD (by omega)]; rfl) n 0 [] (by omega) (Nat.zero_le _) (Nat.le_refl _)
 rw[show((0:Nat):Int)=0 from rfl,List.drop_zero,List.nil_append]at this;have e2:=zX4 n r.2.1 hn (by have:=h.b1; omega) (by have:=h.b2; omega)
 have e3:=zX4 n r.2.2 hn (by have:=h.a1; omega) (by have:=h.a2; omega)
 obtain⟨ops,⟨b1,b2⟩,⟨a1,a2⟩⟩:=r;dsimp only at this e2 e3;unfold zGm;simp only[this,e2,e3,curV,zET,obs,zBq]
 rfl
theorem zZ9 (n:Nat) (d:Dc) (hn:200000000<n) (h:DBul d):zHo n d=some (docV d):=by
 have ht:=Nd.cnt_w d.2.1;have hw:=h.tree;have hlen:=h.len;have e1:=(zSo n).1 d.2.1 (by omega) (by omega)
 have this:=zL3 (f:=recV) (l:=d.2.2.1) (zCI n d.2.2.1) (by omega) (fun k i acc h' ha=>by
  have e:=yAc n d.2.2.1[i] hn (h.recs _ (List.getElem_mem h'))
  rw[zCI,zAJ (Int.ofNat_lt.2 h'),cond_true,zAC h']
  generalize d.2.2.1[i]=v at e;obtain⟨v1,⟨v2,v3⟩,⟨v4,v5⟩⟩:=v;rw[recV,zET]at e;simp only[obs,e]
  rw[zA2 (by simp only[List.length_cons,List.length_nil]; omega),zAN (by omega)]; rfl) (fun k acc=>by rw[zCI,zAD (by omega)]; rfl) n 0 [] (by omega) (Nat.zero_le _) (Nat.le_refl _)
 rw[show((0:Nat):Int)=0 from rfl,List.drop_zero,List.nil_append]at this;obtain⟨ti,⟨q1,q2,q3,q4⟩,rs,dn⟩:=d;dsimp only at e1 this;rw[zHv,zET]at e1;unfold zHo;simp only[e1,obs,this,zBq,zEI,zBz]
 rfl
def zVM (y:Int):List UInt8:=[b8of (IntKind.u8.wrap (y.fdiv (2 ^ 56))),b8of (IntKind.u8.wrap (y.fdiv (2 ^ 48))),b8of (IntKind.u8.wrap (y.fdiv (2 ^ 40))),b8of (IntKind.u8.wrap (y.fdiv (2 ^ 32))),b8of (IntKind.u8.wrap (y.fdiv (2 ^ 24))),b8of (IntKind.u8.wrap (y.fdiv (2 ^ 16))),b8of (IntKind.u8.wrap (y.fdiv (2 ^ 8))),b8of (IntKind.u8.wrap (y.fdiv (2 ^ 0)))]
theorem zYI (y:Int) (k:Nat):zDj y (k+10) 0 []=some (zVM y):=by
 with_unfolding_all rfl
theorem zZP (y:Int) (n:Nat) (h:10<=n):zDj y n 0 []=some (zVM y):=by
 obtain⟨k,rfl⟩:∃ k,n=k+10:=⟨n - 10,by omega⟩
 exact zYI y k
theorem zVK {b:List UInt8} (hb:b.length<=1073741824):∀ (k i:Nat) (h:Int),b.length - i<k->∃ y,zAX b k h (i:Int)=some y/\zCi b k h (i:Int)=some y
 | 0,i,h,hk=>by omega
 | k+1,i,h,hk=>by
  unfold zAX zCi
  by_cases hj:i<b.length
  ·rw[zAJ (Int.ofNat_lt.2 hj),cond_true,zAC hj]
   simp only[obs,cond_true,zAN (show i<9223372036854775807 by omega)]
   exact zVK hb k (i+1) _ (by omega)
  ·rw[zAD (by omega)]
   exact⟨_,rfl,rfl⟩
theorem dB1 (n:Nat) (b:List UInt8) (y:Int) (h1:zCf n 14695981039346656037 b=some y):zBK n b=some y:=by
 unfold zBK;simp only[h1,obs]
theorem dB2 (n:Nat) (b:List UInt8) (y h:Int) (h1:zAX b n h 0=some y):zCf n h b=some y:=by
 unfold zCf;simp only[h1,obs]
theorem dB3 (n:Nat) (b:List UInt8) (y:Int) (h1:zEm n 14695981039346656037 b=some y):zE6 n b=some y:=by
 unfold zE6;simp only[h1,obs]
theorem dB4 (n:Nat) (b:List UInt8) (y h:Int) (h1:zCi b n h 0=some y):zEm n h b=some y:=by
 unfold zEm;simp only[h1,obs]
theorem zZN (n:Nat) (b:List UInt8) (h:Int) (hn:b.length<n) (hb:b.length<=1073741824):∃ y,zCf n h b=some y/\zEm n h b=some y:=by
 obtain⟨y,h1,h2⟩:=zVK hb n 0 h (by omega)
 exact⟨y,dB2 n b y h h1,dB4 n b y h h2⟩
theorem yAz (n:Nat) (b:List UInt8) (hn:b.length<n) (hb:b.length<=1073741824):∃ y,zBK n b=some y/\zE6 n b=some y :=
 let ⟨y,h1,h2⟩:=zZN n b 14695981039346656037 hn hb
 ⟨y,dB1 n b y h1,dB3 n b y h2⟩
theorem zP2 (i:Int):(numV i).w=1:=by simp[numV,CV.w,CV.ws]
theorem zNw (t:List UInt8):(zMW t).w=t.length+1:=by simp[zMW,CV.w,CV.ws]
theorem list_w (l:List CV):(zET l).w=CV.ws l+1:=by simp[zET,CV.w]
theorem zV5:∀ l:List Int,CV.ws (l.map numV)=2 * l.length
 | []=>rfl
 | i::l=>by
  have:=zV5 l;simp only[List.map_cons,CV.ws,zP2,List.length_cons]
  omega
theorem zZL (c:Cur):(curV c).w=2 * c.1.length+2 * c.2.length+5:=by
 rw[curV,list_w]
 simp only[CV.ws,zMC,list_w,zV5]
 omega
def valA:Nat->List UInt8->Nat
 | a,[]=>a
 | a,c::l=>valA (256 * a+c.toNat) l
def hdr (b:List UInt8):Option (Nat×Nat×List UInt8) :=
 match b with
 | []=>none
 | c::r=>if c.toNat<64 then none else if c.toNat % 64<56 then some (c.toNat / 64,c.toNat % 64,r)
  else if r.length<c.toNat % 64 - 55 then none
  else if r.headD 0=0∨valA 0 (r.take (c.toNat % 64 - 55))<56 then none
  else some (c.toNat / 64,valA 0 (r.take (c.toNat % 64 - 55)),r.drop (c.toNat % 64 - 55))
def unz (n:Nat):Int:=if n % 2=1 then -((n / 2:Nat):Int) - 1 else ((n / 2:Nat):Int)
def rds (f:List UInt8->Option (CV×List UInt8)):Nat->List UInt8->Option (List CV×List UInt8)
 | 0,b=>some ([],b)
 | n+1,b=>match f b with
  | none=>none
  | some (x,r)=>match rds f n r with
   | none=>none
   | some (xs,r')=>some (x::xs,r')
def rd:Nat->List UInt8->Option (CV×List UInt8)
 | 0,_=>none
 | d+1,b=>match hdr b with
  | none=>none
  | some (k,n,r)=>if k=1 then some (.mk 1 (unz n) [] [],r) else if r.length<n then none else if k=2 then some (.mk 2 0 (r.take n) [],r.drop n)
   else match rds (rd d) n r with
    | none=>none
    | some (l,r')=>some (.mk 3 0 [] l,r')
theorem zLt:∀ (l:List UInt8) (a:Nat),valA a l=a * 256 ^ l.length+valA 0 l
 | [],a=>by simp[valA]
 | c::l,a=>by
  rw[valA,valA,zLt l (256 * a+c.toNat),zLt l (256 * 0+c.toNat),List.length_cons,Nat.pow_succ,Nat.add_mul,Nat.mul_zero,Nat.zero_add,Nat.mul_comm (256 ^ l.length) 256,← Nat.mul_assoc,Nat.mul_comm a 256]
  omega
theorem zMX:∀ (l:List UInt8),valA 0 l<256 ^ l.length
 | []=>by simp[valA]
 | c::l=>by
  have h:=zMX l;have hc:=c.toNat_lt;rw[valA,zLt,List.length_cons,Nat.pow_succ,Nat.mul_zero,Nat.zero_add]
  have:c.toNat * 256 ^ l.length<=255 * 256 ^ l.length:=Nat.mul_le_mul_right _ (by omega)
  omega
theorem zXm:∀ (k n:Nat),n<256 ^ k->valA 0 (beK k n)=n
 | 0,n,h=>by simp at h; subst h; rfl
 | k+1,n,h=>by
  rw[Nat.pow_succ]at h;have hd:(dig k n).toNat=n / 256 ^ k:=by
   have:n / 256 ^ k<256:=Nat.div_lt_of_lt_mul (by rw[Nat.mul_comm]at h; rw[Nat.mul_comm]; rw[Nat.mul_comm]at h; omega)
   simp only[dig,UInt8.toNat_ofNat']; exact Nat.mod_eq_of_lt this
  have hm:beK k n=beK k (n % 256 ^ k):=by
   have:∀ (j m q:Nat),j<=k->beK j (m % 256 ^ k)=beK j m:=fun j=>by
    induction j with
    | zero=>intro m q _; rfl
    | succ j ih =>
     intro m q hj;simp only[beK]
     rw[ih m q (by omega)]
     congr 1
     unfold dig
     apply UInt8.toNat_inj.1
     simp only[UInt8.toNat_ofNat']
     obtain⟨e,rfl⟩:∃ e,k=j+1+e:=⟨k - (j+1),by omega⟩
     have e1:(256:Nat) ^ (j+1+e)=256 ^ j * (256 * 256 ^ e) :=(by rw[Nat.pow_add,Nat.pow_succ,Nat.mul_assoc]);rw[e1,Nat.mod_mul_right_div_self,show(2:Nat) ^ 8=256 from rfl,Nat.mod_mul_right_mod]
   exact(this k n 0 (Nat.le_refl _)).symm
  rw[beK,valA,zLt,zQD,hd,hm,zXm k _ (Nat.mod_lt _ (Nat.pow_pos (by omega))),Nat.mul_zero,Nat.zero_add,Nat.mul_comm]
  exact Nat.div_add_mod n (256 ^ k)
theorem zVz:∀ (l:List UInt8),beK l.length (valA 0 l)=l
 | []=>rfl
 | c::l=>by
  have h:=zMX l;have hp:0<256 ^ l.length:=Nat.pow_pos (by omega)
  have e:valA 0 (c::l)=valA 0 l+256 ^ l.length * c.toNat :=(by rw[valA,zLt,Nat.mul_zero,Nat.zero_add,Nat.mul_comm]; omega);have hd:dig l.length (valA 0 (c::l))=c:=by
   rw[e,dig,Nat.add_mul_div_left _ _ hp,Nat.div_eq_of_lt h]
   apply UInt8.toNat_inj.1
   have:=c.toNat_lt;simp[UInt8.toNat_ofNat']
  have hm:∀ (j:Nat),j<=l.length->beK j (valA 0 (c::l))=beK j (valA 0 l):=fun j=>by
   induction j with
   | zero=>intro _; rfl
   | succ j ih =>
    intro hj;simp only[beK]
    rw[ih (by omega)]
    congr 1
    unfold dig
    apply UInt8.toNat_inj.1
    simp only[UInt8.toNat_ofNat']
    obtain⟨q,hq⟩:∃ q,l.length=j+1+q:=⟨l.length - (j+1),by omega⟩
    have e1:256 ^ l.length * c.toNat=256 ^ j * (256 * (256 ^ q * c.toNat)) :=(by rw[hq,Nat.pow_add,Nat.pow_succ]; simp only[Nat.mul_assoc]);rw[e,e1,Nat.add_mul_div_left _ _ (Nat.pow_pos (by omega)),show(2:Nat) ^ 8=256 from rfl,Nat.add_mul_mod_self_left]
  rw[List.length_cons,beK,hd,hm l.length (Nat.le_refl _),zVz l]
def headB (k n:Nat):List UInt8:=if n<56 then [UInt8.ofNat (64 * k+n)] else UInt8.ofNat (64 * k+55+blen n)::beK (blen n) n
theorem zMA (k i:Int) (t:List UInt8) (l:List CV):(CV.mk k i t l).head=headB k.toNat (CV.mk k i t l).num:=rfl
theorem zUW {b r:List UInt8}{k n:Nat} (h:hdr b=some (k,n,r)):b=headB k n++r/\(1<=k/\k<=3)/\n<18446744073709551616:=by
 match b,h with
 | c::q,h =>
  have hc:=c.toNat_lt;simp only[hdr]at h;split at h
  ·cases h
  ·split at h
   ·rename_i h1 h2
    cases h;refine⟨?_,by omega,by omega⟩
    rw[headB,if_pos h2]
    have:UInt8.ofNat (64 * (c.toNat / 64)+c.toNat % 64)=c:=by
     rw[Nat.div_add_mod]; simp
    rw[this]; rfl
   ·split at h
    ·cases h
    ·split at h
     ·cases h
     ·rename_i h1 h2 h3 h4
      cases h;have hk8:c.toNat % 64 - 55<=8 :=(by omega);generalize hkk:c.toNat % 64 - 55=m at *;have hl:(q.take m).length=m :=(by rw[List.length_take]; omega);have hlt:=zMX (q.take m)
      rw[hl]at hlt;have h4a:¬ q.headD 0=0:=fun h=>h4 (.inl h)
      have h4b:¬ valA 0 (q.take m)<56:=fun h=>h4 (.inr h)
      have hge:256 ^ (m - 1)<=valA 0 (q.take m):=by
       match q,m,h3,h4a,hl with
       | _,0,_,_,_=>omega
       | [],m+1,h3,_,_=>simp at h3
       | c0::q',m+1,_,h4a,hl =>
        simp only[List.headD_cons]at h4a;have h0:c0.toNat ≠ 0:=fun h=>h4a (UInt8.toNat_inj.1 (by simpa using h))
        simp only[List.take_succ_cons,List.length_cons]at hl ⊢;rw[valA,zLt,Nat.add_sub_cancel]
        have e:(q'.take m).length=m :=(by omega);rw[e]
        have:1 * 256 ^ m<=(256 * 0+c0.toNat) * 256 ^ m:=Nat.mul_le_mul_right _ (by omega)
        omega
      have hb:=zXn (by omega) hlt hge;refine⟨?_,by omega,Nat.lt_of_lt_of_le hlt ?_⟩
      ·rw[headB,if_neg h4b,hb]
       have e1:UInt8.ofNat (64 * (c.toNat / 64)+55+m)=c:=by
        have:64 * (c.toNat / 64)+55+m=c.toNat :=(by omega);rw[this]; simp
       have e2:beK m (valA 0 (q.take m))=q.take m:=by
        have:=zVz (q.take m); rwa [hl]at this
       rw[e1,e2,List.cons_append,List.take_append_drop]
      ·have:(256:Nat) ^ m<=256 ^ 8:=Nat.pow_le_pow_right (by omega) hk8
       simpa using this
theorem yAm (n:Nat):zig (unz n)=n:=by
 unfold unz zig;split
 ·rw[if_pos (by omega)]; omega
 ·rw[if_neg (by omega)]; omega
theorem yAO {n:Nat} (h:n<18446744073709551616):zRH (unz n):=by
 unfold unz zRH; split <;> omega
mutual
def CV.lens (N:Nat):CV->Prop
 | .mk _ _ _ l=>l.length<=N/\CV.lenss N l
def CV.lenss (N:Nat):List CV->Prop
 | []=>True
 | v::vs=>v.lens N/\CV.lenss N vs
end
structure yAn (d N:Nat) (b r:List UInt8) (v:CV):Prop where
 eq:b=v.code++r
 proper:v.proper=true
 rng:v.rng
 depth:v.depth<=d
 lens:v.lens N
 w:v.w+1<=2 * v.code.length
structure yAo (d N:Nat) (b r:List UInt8) (l:List CV):Prop where
 eq:b=CV.codes l++r
 proper:CV.propers l=true
 rng:CV.rngs l
 depth:CV.depths l<=d
 lens:CV.lenss N l
 w:CV.ws l<=2 * (CV.codes l).length
theorem zWe {d N:Nat}{f:List UInt8->Option (CV×List UInt8)} (hf:∀ b v r,b.length<=N->f b=some (v,r)->yAn d N b r v):∀ (n:Nat) (b:List UInt8) (l:List CV) (r:List UInt8),b.length<=N->rds f n b=some (l,r)->yAo d N b r l/\l.length=n
 | 0,b,l,r,hb,h=>by
  simp only[rds]at h;cases h;exact⟨⟨rfl,rfl,trivial,Nat.zero_le _,trivial,by simp[CV.ws]⟩,rfl⟩
 | n+1,b,l,r,hb,h=>by
  simp only[rds]at h;split at h
  ·cases h
  ·rename_i x q hx
   split at h
   ·cases h
   ·rename_i xs r' hxs
    cases h;have g1:=hf b x q hb hx;have hq:q.length<=N :=(by have:=congrArg List.length g1.eq; rw[List.length_append]at this; omega);obtain⟨g2,g3⟩:=zWe hf n q xs r hq hxs;have h1:=g1.w; have h2:=g2.w
    refine⟨⟨by rw[CV.codes,List.append_assoc,← g2.eq]; exact g1.eq,?_,⟨g1.rng,g2.rng⟩,?_,⟨g1.lens,g2.lens⟩,?_⟩,by simp[g3]⟩
    ·simp only[CV.propers,g1.proper,g2.proper,Bool.and_true]
    ·have:=g1.depth; have:=g2.depth; simp only[CV.depths]; omega
    ·simp only[CV.ws,CV.codes,List.length_append]; omega
theorem zTq (k n:Nat):1<=(headB k n).length:=by unfold headB; split <;> simp
theorem zPl (N:Nat) (hN:N<=9000000000000000000):∀ (d:Nat) (b:List UInt8) (v:CV) (r:List UInt8),b.length<=N->rd d b=some (v,r)->yAn d N b r v
 | 0,b,v,r,_,h=>by simp[rd]at h
 | d+1,b,v,r,hb,h=>by
  simp only[rd]at h;split at h
  ·cases h
  ·rename_i k n q hh
   obtain⟨e,⟨k1,k3⟩,hn⟩:=zUW hh;have hl:=congrArg List.length e;rw[List.length_append]at hl;have hp:=zTq k n;split at h
   ·rename_i hk1
    subst hk1;cases h;have hnum:(CV.mk 1 (unz n) [] []).num=n :=(by simp[CV.num,yAm]);have hcode:(CV.mk 1 (unz n) [] []).code=headB 1 n :=(by rw[CV.code,zMA,hnum]; simp[CV.codes]);refine⟨by rw[hcode]; exact e,rfl,⟨by unfold zRH; omega,yAO hn,trivial⟩,?_,⟨by simp,trivial⟩,?_⟩
    ·simp[CV.depth]
    ·rw[hcode]; simp[CV.w,CV.ws]; omega
   ·split at h
    ·cases h
    ·rename_i hk1 hlen
     split at h
     ·rename_i hk2
      subst hk2;cases h;have hnum:(CV.mk 2 0 (q.take n) []).num=n :=(by simp[CV.num]; omega);have hcode:(CV.mk 2 0 (q.take n) []).code=headB 2 n++q.take n :=(by rw[CV.code,zMA,hnum]; simp[CV.codes]);refine⟨by rw[hcode,List.append_assoc,List.take_append_drop]; exact e,rfl,⟨by unfold zRH; omega,by unfold zRH; omega,trivial⟩,?_,⟨by simp,trivial⟩,?_⟩
      ·simp[CV.depth]
      ·rw[hcode]; simp only[CV.w,CV.ws,List.length_append]; omega
     ·split at h
      ·cases h
      ·rename_i hk2 l r' hr
       cases h;obtain rfl:k=3 :=(by omega);obtain⟨g,gl⟩:=zWe (zPl N hN d) n q l r (by omega) hr;have hnum:(CV.mk 3 0 [] l).num=n :=(by simp[CV.num,gl]);have hcode:(CV.mk 3 0 [] l).code=headB 3 n++CV.codes l :=(by rw[CV.code,zMA,hnum]; simp);have hw:=g.w;refine⟨by rw[hcode,List.append_assoc,← g.eq]; exact e,?_,⟨by unfold zRH; omega,by unfold zRH; omega,g.rng⟩,?_,⟨by omega,g.lens⟩,?_⟩
       ·simp[CV.proper,CV.own,g.proper]
       ·have:=g.depth; simp only[CV.depth,if_true]; omega
       ·rw[hcode]; simp only[CV.w,List.length_append,List.length_nil]; omega
theorem yAQ (c:UInt8):zCA .and .u8 (c.toNat:Int) 63=((c.toNat % 64:Nat):Int):=by
 have:∀ n:Fin 256,zCA .and .u8 ((n.val:Nat):Int) 63=((n.val % 64:Nat):Int) :=(by decide +kernel);exact this ⟨c.toNat,c.toNat_lt⟩
theorem shr6 (c:UInt8):(c.toNat:Int).fdiv (2 ^ (min (6:Int).toNat IntKind.u8.bits))=((c.toNat / 64:Nat):Int):=by
 have:∀ n:Fin 256,((n.val:Nat):Int).fdiv (2 ^ (min (6:Int).toNat IntKind.u8.bits))=((n.val / 64:Nat):Int) :=(by decide +kernel);exact this ⟨c.toNat,c.toNat_lt⟩
theorem zZw {x:Nat} (hx:x<72057594037927936) (c:UInt8):zCA .or .u64 (IntKind.u64.wrap ((x:Int) * 2 ^ (min (8:Int).toNat IntKind.u64.bits))) (IntKind.u64.wrap (c.toNat:Int))=((256 * x+c.toNat:Nat):Int):=by
 have hc:=c.toNat_lt;have e8:(x:Int) * 2 ^ (min (8:Int).toNat IntKind.u64.bits)=((256 * x:Nat):Int):=by
  rw[show(2:Int) ^ (min (8:Int).toNat IntKind.u64.bits)=256 from by decide]; omega
 rw[e8,zEf (by omega) (by omega),zEf (by omega) (by omega)]
 have t1:∀ m:Nat,m<18446744073709551616->(BitVec.ofInt 64 (m:Int)).toNat=m:=fun m hm=>by
  rw[BitVec.toNat_ofInt]; omega
 show IntKind.u64.wrap ((BitVec.ofInt 64 ((256 * x:Nat):Int) ||| BitVec.ofInt 64 (c.toNat:Int)).toNat:Int)=_;rw[BitVec.toNat_or,t1 _ (by omega),t1 _ (by omega)]
 have h:=Nat.shiftLeft_add_eq_or_of_lt (i:=8) (b:=c.toNat) (by simpa using hc) x;rw[Nat.shiftLeft_eq,show 2 ^ 8=256 from rfl,Nat.mul_comm x 256]at h;rw[← h,zEf (by omega) (by omega)]
theorem and1 {x:Nat} (hx:x<18446744073709551616):zCA .and .u64 (x:Int) 1=((x % 2:Nat):Int):=by
 have t1:(BitVec.ofInt 64 (x:Int)).toNat=x :=(by rw[BitVec.toNat_ofInt]; omega);show IntKind.u64.wrap ((BitVec.ofInt 64 (x:Int) &&& BitVec.ofInt 64 1).toNat:Int)=_;rw[BitVec.toNat_and,t1,show(BitVec.ofInt 64 1).toNat=1 from rfl,Nat.and_one_is_mod,zEf (by omega) (by omega)]
theorem zEM {o:List UInt8}{e:UInt8}{T:List UInt8} (hT:((((o.take (o.length:Int).toNat).drop (1:Int).toNat).take (IntKind.i64.wrap ((IntKind.i64.wrap ((IntKind.i64.wrap (IntKind.u64.wrap (zCA .and .u8 (e.toNat:Int) 63))) - 56))+1)).toNat).drop (0:Int).toNat)=T) (h8:T.length<=8) :
  ∀ (r:List UInt8) (i k x:Nat),T.drop i=r->r.length<k->x<256 ^ i->zAT o e k (x:Int) (i:Int)=some ((valA x r:Nat):Int)
 | _,_,0,_,_,h,_=>by omega
 | [],i,k+1,x,h,_,_=>by rw[zAT,hT,zV3 h]; rfl
 | c::r,i,k+1,x,h,hk,hx=>by
  have hi:=zMy h;have h7:i<=7 :=(by omega);have hp:(256:Nat) ^ i<=256 ^ 7:=Nat.pow_le_pow_right (by omega) h7;have hc:=c.toNat_lt;rw[zAT,hT,zXQ h,cond_true,zOx h,obs,zZw (by simp at hp; omega),zAN (by omega),zEM hT h8 r (i+1) k _ (zOF h) (by simpa using hk) (by rw[Nat.pow_succ]; omega)]
  rfl
def Mq37 (n:Nat) (b:List UInt8):Prop:=match hdr b with
 | some (k,N,r)=>zBm n b=some ((k:Int),(N:Int),true,r)
 | none=>∃ x y r',zBm n b=some (x,y,false,r')/\r'.length<=b.length
theorem zIJ {n:Nat} (hn:20<=n) (b:List UInt8) (hb:b.length<=20000000):Mq37 n b:=by
 unfold Mq37
 match b,hb with
 | [],_=>exact⟨0,0,[],by rw[zBm]; rfl,Nat.le_refl _⟩
 | c::q,hb =>
  have hc:=c.toNat_lt;have ea:at? (c::q) 0=some c:=zAC (l:=c::q) (i:=0) (by simp)
  have et:((c::q).take ((c::q).length:Int).toNat).drop (1:Int).toNat=q :=(by simp);have e1:IntKind.i64.wrap ((c.toNat:Int).fdiv (2 ^ (min (6:Int).toNat IntKind.u8.bits)))=((c.toNat / 64:Nat):Int) :=(by rw[shr6,wrap64_in (by omega) (by omega)]);have e2:IntKind.u64.wrap (zCA .and .u8 (c.toNat:Int) 63)=((c.toNat % 64:Nat):Int) :=(by rw[yAQ,zEf (by omega) (by omega)]);have e0:((((c::q).length:Nat):Int) == 0)=false :=(by rw[beq_eq_false_iff_ne]; simp; omega);simp only[List.length_cons]at hb;generalize hm:zBm n (c::q)=Z
  rw[zBm,e0,cond_false,ea,obs,obs,zA2 ⟨by omega,by simp; omega,by omega⟩,e1,e2,et]at hm;subst hm;rw[hdr]
  by_cases h0:c.toNat<64
  ·have:((((c.toNat / 64:Nat):Int)) == 0)=true :=(by rw[beq_iff_eq]; omega);rw[if_pos h0,this]
   exact⟨_,_,_,rfl,by simp⟩
  ·have:((((c.toNat / 64:Nat):Int)) == 0)=false :=(by rw[beq_eq_false_iff_ne]; omega);rw[if_neg h0,this,cond_false]
   by_cases h1:c.toNat % 64<56
   ·rw[if_pos h1,decide_eq_true (by omega:((c.toNat % 64:Nat):Int)<56)]
    rfl
   ·have e3:IntKind.i64.wrap (IntKind.i64.wrap (IntKind.i64.wrap ((c.toNat % 64:Nat):Int) - 56)+1)=((c.toNat % 64 - 55:Nat):Int):=by
     rw[wrap64_in (n:=((c.toNat % 64:Nat):Int)) (by omega) (by omega),wrap64_in (n:=((c.toNat % 64:Nat):Int) - 56) (by omega) (by omega),wrap64_in (by omega) (by omega)]; omega
    have hT:=zEM (o:=c::q) (e:=c) (T:=q.take (c.toNat % 64 - 55)) (by rw[et,e2,e3]; simp) (by rw[List.length_take]; omega) (q.take (c.toNat % 64 - 55)) 0 n 0 rfl (by rw[List.length_take]; omega) (by simp)
    have hT':zAT (c::q) c n 0 0=some ((valA 0 (q.take (c.toNat % 64 - 55)):Nat):Int):=hT;rw[if_neg h1,decide_eq_false (by omega:¬ ((c.toNat % 64:Nat):Int)<56),cond_false,e3]
    have hmk:c.toNat % 64 - 55<=8/\1<=c.toNat % 64 - 55 :=(by omega);generalize c.toNat % 64 - 55=m at *
    by_cases h2:q.length<m
    ·rw[if_pos h2,decide_eq_true (by omega:(q.length:Int)<(m:Int))]
     exact⟨_,_,_,rfl,by simp⟩
    ·have hl:(q.take m).length=m :=(by rw[List.length_take]; omega);have hlt:=zMX (q.take m)
     rw[hl]at hlt;have hp8:(256:Nat) ^ m<=256 ^ 8:=Nat.pow_le_pow_right (by omega) hmk.1;have hN:valA 0 (q.take m)<18446744073709551616 :=(by simp at hp8; omega);have ed:(q.take ((q.length:Nat):Int).toNat).drop ((m:Nat):Int).toNat=q.drop m :=(by simp);rw[if_neg h2,decide_eq_false (by omega:¬ (q.length:Int)<(m:Int)),cond_false,zA2 ⟨by omega,by omega,by omega⟩,hT',obs,zA2 ⟨by omega,by omega,by omega⟩,ed,zK7 (by omega) hN]
     by_cases h3:valA 0 (q.take m)<56
     ·rw[if_pos (.inr h3),decide_eq_false (by omega:¬ (56:Int)<=((valA 0 (q.take m):Nat):Int))]
      exact⟨_,_,_,rfl,by simp; omega⟩
     ·rw[decide_eq_true (by omega:(56:Int)<=((valA 0 (q.take m):Nat):Int)),cond_true,obs,obs]
      by_cases h4:q.headD 0=0
      ·have:(((blen (valA 0 (q.take m)):Nat):Int) == (m:Int))=false:=by
        rw[beq_eq_false_iff_ne]
        intro hcon;have hcon:blen (valA 0 (q.take m))=m:=by omega
        match q,m,h2,h4,hl,hmk with
        | [],m,h2,_,_,hmk=>simp at h2; omega
        | c0::q',m+1,h2,h4,hl,hmk =>
         simp only[List.headD_cons]at h4;subst h4;simp only[List.take_succ_cons,List.length_cons]at hl hcon h3;rw[valA]at hcon h3;have e5:256 * 0+(0:UInt8).toNat=0:=rfl;rw[e5]at hcon h3;have hv:=zMX (q'.take m)
         have e6:(q'.take m).length=m :=(by omega);rw[e6]at hv;rcases Nat.eq_zero_or_pos m with hm0 | hm1
         ·rw[hm0,Nat.pow_zero]at hv;rw[hm0]at h3
          omega
         ·have:=zXo (k:=m) hm1 hv; omega
       rw[if_pos (.inl h4),this]
       exact⟨_,_,_,rfl,by simp; omega⟩
      ·have:(((blen (valA 0 (q.take m)):Nat):Int) == (m:Int))=true:=by
        rw[beq_iff_eq]
        have hge:256 ^ (m - 1)<=valA 0 (q.take m):=by
         match q,m,h2,h4,hl,hmk with
         | [],m,h2,_,_,hmk=>simp at h2; omega
         | c0::q',m+1,h2,h4,hl,hmk =>
          simp only[List.headD_cons]at h4;have h0:c0.toNat ≠ 0:=fun h=>h4 (UInt8.toNat_inj.1 (by simpa using h))
          simp only[List.take_succ_cons,List.length_cons]at hl ⊢;rw[valA,zLt,Nat.add_sub_cancel]
          have e:(q'.take m).length=m :=(by omega);rw[e]
          have:1 * 256 ^ m<=(256 * 0+c0.toNat) * 256 ^ m:=Nat.mul_le_mul_right _ (by omega)
          omega
        rw[zXn hmk.2 hlt hge]
       rw[if_neg (by rintro(h | h); exact h4 h; exact h3 h),this]
theorem zZV {b r:List UInt8}{k n:Nat} (h:hdr b=some (k,n,r)):r.length<b.length:=by
 have h1:=congrArg List.length (zUW h).1;have h2:=zTq k n;rw[List.length_append]at h1; omega
theorem zIK {r:List UInt8}{n:Nat} (hn:n<18446744073709551616) (hr:r.length<=20000000):zCL r (n:Int)=some (bif decide (r.length<n) then ([],false,r) else (r.take n,true,r.drop n)):=by
 rw[zCL,zEf (by omega) (by omega)]
 by_cases h:r.length<n
 ·rw[decide_eq_true h,decide_eq_true (by omega:(r.length:Int)<(n:Int))]; rfl
 ·rw[decide_eq_false h,decide_eq_false (by omega:¬ (r.length:Int)<(n:Int)),cond_false,zA2 ⟨by omega,by omega,by omega⟩,zA2 ⟨by omega,by omega,by omega⟩]
  simp
def Mq36 (F:Int->List UInt8->Option (CV×Bool×List UInt8)) (d:Nat) (b:List UInt8):Prop:=match rd d b with
 | some (v,r)=>F (65 - (d:Int)) b=some (v,true,r)
 | none=>∃ v r,F (65 - (d:Int)) b=some (v,false,r)
theorem zDS {F:Int->List UInt8->Option (CV×Bool×List UInt8)}{d:Nat} (hd:d<=64){N:Nat} (hN:N<=20000000){L:Nat} (hF:∀ b,b.length<=L->Mq36 F d b):∀ (m i k:Nat) (b:List UInt8) (acc:List CV),m+i=N->m<k->b.length<=L->L<=20000000->acc.length<=i ->
  match rds (rd d) m b with
  | some (l,r)=>zAz F (65 - ((d:Int)+1)) (N:Int) k b (i:Int) acc=some (.go (r,acc++l))
  | none=>∃ v r,zAz F (65 - ((d:Int)+1)) (N:Int) k b (i:Int) acc=some (.ret (v,false,r))
 | _,_,0,_,_,_,h,_,_,_=>by omega
 | 0,i,k+1,b,acc,hm,_,_,_,_=>by
  simp only[rds]
  rw[zAz,decide_eq_false (by omega:¬ (i:Int)<(N:Int)),List.append_nil]; rfl
 | m+1,i,k+1,b,acc,hm,hk,hb,hL,ha=>by
  have h:=hF b hb;unfold Mq36 at h;have e:IntKind.i64.wrap (65 - ((d:Int)+1)+1)=65 - (d:Int) :=(by rw[wrap64_in (by omega) (by omega)]; omega);simp only[rds]
  cases hx:rd d b with
  | none =>
   rw[hx]at h;obtain⟨⟨v1,v2,v3,v4⟩,r,h⟩:=h;exact⟨_,_,by rw[zAz,decide_eq_true (by omega:(i:Int)<(N:Int)),cond_true,e,h]; rfl⟩
  | some p =>
   obtain⟨⟨v1,v2,v3,v4⟩,r⟩:=p;rw[hx]at h;dsimp only at h ⊢;have hg:=(zPl b.length (by omega) d b _ r (Nat.le_refl _) hx).eq;have hlen:=congrArg List.length hg;rw[List.length_append]at hlen;have hw:IntKind.u64.wrap ((i:Int)+1)=((i+1:Nat):Int) :=(by rw[zEf (by omega) (by omega)]; rfl);have ih:=zDS hd hN hF m (i+1) k r (acc++[CV.mk v1 v2 v3 v4]) (by omega) (by omega) (by omega) hL (by simp; omega)
   have step:zAz F (65 - ((d:Int)+1)) (N:Int) (k+1) b (i:Int) acc=zAz F (65 - ((d:Int)+1)) (N:Int) k r ((i+1:Nat):Int) (acc++[CV.mk v1 v2 v3 v4]):=by
    rw[zAz,decide_eq_true (by omega:(i:Int)<(N:Int)),cond_true,e,h]
    simp only[obs,Bool.not_true,cond_false]
    rw[zA2 (by simp; omega),hw]
   cases hy:rds (rd d) m r with
   | none =>
    rw[hy]at ih;obtain⟨v,r2,ih⟩:=ih;exact⟨v,r2,step.trans ih⟩
   | some q =>
    obtain⟨l,r2⟩:=q;rw[hy]at ih;dsimp only at ih ⊢;rw[step,ih]; simp
theorem zEN:∀ (n d:Nat) (b:List UInt8),d<=64->b.length<=20000000->b.length+d+30<n->Mq36 (zAA n) d b
 | 0,_,_,_,_,h=>by omega
 | n+1,0,b,_,hb,hn=>by
  unfold Mq36;exact⟨_,_,by rw[zAA]; rfl⟩
 | n+1,d+1,b,hd,hb,hn=>by
  have h37:=zIJ (n:=n) (by omega) b hb;unfold Mq37 at h37;unfold Mq36;rw[rd]
  have e64:decide (64<65 - (((d+1:Nat)):Int))=false:=decide_eq_false (by omega)
  cases hh:hdr b with
  | none =>
   rw[hh]at h37;obtain⟨x,y,r',h37,_⟩:=h37;exact⟨_,_,by rw[zAA,e64,cond_false,h37]; rfl⟩
  | some p =>
   obtain⟨k,N,r⟩:=p;rw[hh]at h37;obtain⟨_,hk,hN⟩:=zUW hh;have hrl:=zZV hh;dsimp only at h37 ⊢;generalize hstep:zAA (n+1) (65 - (((d+1:Nat)):Int)) b=Z;rw[zAA,e64,cond_false,h37]at hstep;simp only[obs,Bool.not_true,cond_false]at hstep
   by_cases k1:k=1
   ·subst k1;rw[if_pos rfl]
    dsimp only;rw[← hstep,show(((1:Nat):Int) == 1)=true from rfl,cond_true,and1 hN]
    have es:=zSr N 1 (by omega)
    rw[show((1:Nat):Int)=1 from rfl,show(2:Nat) ^ 1=2 from rfl]at es;rw[es,wrap64_in (n:=((N / 2:Nat):Int)) (by omega) (by omega)]
    unfold unz
    by_cases ho:N % 2=1
    ·rw[if_pos ho,show((((N % 2:Nat)):Int) == 1)=true by rw[beq_iff_eq]; omega,cond_true,wrap64_in (n:=0 - ((N / 2:Nat):Int)) (by omega) (by omega),wrap64_in (by omega) (by omega)]
     simp only[obs]
     congr 3; omega
    ·rw[if_neg ho,show((((N % 2:Nat)):Int) == 1)=false by rw[beq_eq_false_iff_ne]; omega]
     rfl
   ·have e1:(((k:Nat):Int) == 1)=false :=(by rw[beq_eq_false_iff_ne]; omega);rw[if_neg k1]
    rw[e1,cond_false]at hstep
    by_cases k2:k=2
    ·subst k2;rw[show(((2:Nat):Int) == 2)=true from rfl,cond_true,zIK hN (by omega),obs]at hstep
     by_cases hl:r.length<N
     ·rw[if_pos hl]
      rw[decide_eq_true hl]at hstep;exact⟨_,_,hstep.symm⟩
     ·rw[if_neg hl,if_pos rfl]
      rw[decide_eq_false hl]at hstep;exact hstep.symm
    ·have e2:(((k:Nat):Int) == 2)=false :=(by rw[beq_eq_false_iff_ne]; omega);rw[e2,cond_false,zEf (by omega) (by omega)]at hstep
     by_cases hl:r.length<N
     ·rw[if_pos hl]
      rw[decide_eq_true (by omega:(r.length:Int)<(N:Int)),cond_true]at hstep;exact⟨_,_,hstep.symm⟩
     ·obtain rfl:k=3 :=(by omega);rw[if_neg hl,if_neg (by omega)]
      rw[decide_eq_false (by omega:¬ (r.length:Int)<(N:Int)),cond_false]at hstep;have key:=zDS (F:=zAA n) (d:=d) (by omega) (N:=N) (by omega) (L:=r.length) (fun b' hb'=>zEN n d b' (by omega) (by omega) (by omega)) N 0 n r [] (by omega) (by omega) (Nat.le_refl _) (by omega) (by simp)
      have ea:65 - ((d:Int)+1)=65 - (((d+1:Nat)):Int) :=(by omega);rw[ea]at key;cases hy:rds (rd d) N r with
      | none =>
       rw[hy]at key;obtain⟨v,r2,key⟩:=key;have key':zAz (zAA n) (65 - (((d+1:Nat)):Int)) (N:Int) n r 0 []=_:=key;rw[key']at hstep;exact⟨_,_,hstep.symm⟩
      | some q =>
       obtain⟨l,r2⟩:=q;rw[hy]at key;have key':zAz (zAA n) (65 - (((d+1:Nat)):Int)) (N:Int) n r 0 []=_:=key;rw[key']at hstep;exact hstep.symm
theorem zIh {n:Nat}{b:List UInt8} (hb:b.length<=20000000) (hn:b.length+100<n):match rd 64 b with
  | some (v,r)=>zBs n b=some (v,true,r)
  | none=>∃ v r,zBs n b=some (v,false,r):=by
 have h:=zEN n 64 b (by omega) hb (by omega)
 unfold Mq36 at h;cases hx:rd 64 b with
 | none =>
  rw[hx]at h;obtain⟨⟨v1,v2,v3,v4⟩,r,h⟩:=h;have h':zAA n 1 b=_:=h;exact⟨_,_,by rw[zBs,h']; rfl⟩
 | some p =>
  obtain⟨⟨v1,v2,v3,v4⟩,r⟩:=p;rw[hx]at h;have h':zAA n 1 b=_:=h;dsimp only;rw[zBs,h']; rfl
def dec (b:List UInt8):CV×Int:=if 1048576<b.length then (.mk 0 0 [] [],4) else match rd 64 b with
 | some (v,[])=>(v,0)
 | _=>(.mk 0 0 [] [],4)
theorem zLW {n:Nat}{b:List UInt8} (hn:1048700<n):zEU n b=some (dec b):=by
 unfold dec;rw[zEU]
 by_cases hl:1048576<b.length
 ·rw[if_pos hl,decide_eq_true (by omega:(1048576:Int)<(b.length:Int))]; rfl
 ·have h:=zIh (n:=n) (b:=b) (by omega) (by omega)
  rw[if_neg hl,decide_eq_false (by omega:¬ (1048576:Int)<(b.length:Int)),cond_false]
  cases hx:rd 64 b with
  | none =>
   rw[hx]at h;obtain⟨⟨v1,v2,v3,v4⟩,r,h⟩:=h;rw[h]; rfl
  | some p =>
   obtain⟨⟨v1,v2,v3,v4⟩,r⟩:=p;rw[hx]at h;dsimp only at h;rw[h]
   cases r with
   | nil=>rfl
   | cons c r =>
    have:decide (0<(((c::r).length:Nat):Int))=true:=decide_eq_true (by simp <;> omega)
    simp only[obs,Bool.not_true,cond_false,this,cond_true]
theorem zQI {α:Type}{l:List α}{i:Nat}{c:α} (h:l[i]? = some c):at? l (i:Int)=some c:=by simp[at?,h]
theorem zTh {α:Type}{l:List α}{i:Nat}{c:α}{r:List α} (h:l.drop i=c::r):l[i]? = some c:=by
 have:=zOx h
 simpa [at?] using this
theorem zIi {c0 e:UInt8}{q:List UInt8}{m:Nat} (hm:IntKind.i64.wrap ((IntKind.i64.wrap (IntKind.u64.wrap ((e.toNat:Int).tmod 64))) - 55)=(m:Int)) (h8:m<=8) (hq:m<=q.length) :
  ∀ (r:List UInt8) (i k x:Nat),(q.take m).drop i=r->r.length<k->x<256 ^ i->zCB (c0::q) e k ((i+1:Nat):Int) (x:Int)=some ((valA x r:Nat):Int)
 | _,_,0,_,_,h,_=>by omega
 | [],i,k+1,x,h,_,_=>by
  have h1:=List.drop_eq_nil_iff.1 h;rw[List.length_take]at h1;rw[zCB,hm,decide_eq_false (by omega:¬ ((i+1:Nat):Int)<=(m:Int))]; rfl
 | c::r,i,k+1,x,h,hk,hx=>by
  have hi:=zMy h;rw[List.length_take]at hi;have h7:i<=7 :=(by omega);have hp:(256:Nat) ^ i<=256 ^ 7:=Nat.pow_le_pow_right (by omega) h7;have hc:=c.toNat_lt;have hx':x<72057594037927936 :=(by simp at hp; omega);have hg:(c0::q)[i+1]? = some c:=by
   have:=zTh h;rw[List.getElem?_take,if_pos (by omega)]at this
   simpa using this
  have ew:IntKind.u64.wrap (IntKind.u64.wrap (256 * (x:Int))+IntKind.u64.wrap (c.toNat:Int))=((256 * x+c.toNat:Nat):Int):=by
   rw[zEf (n:=256 * (x:Int)) (by omega) (by omega),zEf (n:=(c.toNat:Int)) (by omega) (by omega),zEf (by omega) (by omega)]; omega
  rw[zCB,hm,decide_eq_true (by omega:((i+1:Nat):Int)<=(m:Int)),cond_true,zQI hg,obs,ew,zAN (by omega),zIi hm h8 hq r (i+1) k _ (zOF h) (by simpa using hk) (by rw[Nat.pow_succ]; omega)]
  rfl
def Mq27 (F:List UInt8->Int->Option (CV×Int)) (d:Nat) (b:List UInt8):Prop:=match rd d b with
 | some (v,r)=>F b (d:Int)=some (v,((b.length - r.length:Nat):Int))
 | none=>F b (d:Int)=some (.mk 0 0 [] [],0)
theorem zVJ (v:CV):1<=v.code.length:=by
 obtain⟨k,i,t,l⟩:=v;have h1:1<=(CV.mk k i t l).head.length :=(by simp only[CV.head]; split <;> simp);simp only[CV.code,List.length_append]; omega
theorem zIj {F:List UInt8->Int->Option (CV×Int)}{d:Nat} (hd:d<=64){N:Nat} (hN:N<=20000000){b:List UInt8} (hb:b.length<=20000000) (hF:∀ b',b'.length<=b.length->b'.length<b.length->Mq27 F d b') :
  ∀ (m i k at':Nat) (acc:List CV),m+i=N->m<k->at'<=b.length->1<=at'->acc.length<=i ->
  match rds (rd d) m (b.drop at') with
  | some (l,r)=>zBp F b ((d:Int)+1) (N:Int) k (i:Int) (at':Int) acc=some (.go (((b.length - r.length:Nat):Int),acc++l))
  | none=>zBp F b ((d:Int)+1) (N:Int) k (i:Int) (at':Int) acc=some (.ret (.mk 0 0 [] [],0))
 | _,_,0,_,_,_,h,_,_,_=>by omega
 | 0,i,k+1,at',acc,hm,_,ha,h1,_=>by
  simp only[rds]
  rw[zBp,wrap64_in (n:=(N:Int)) (by omega) (by omega),decide_eq_false (by omega:¬ (i:Int)<(N:Int)),List.append_nil,List.length_drop]
  have:b.length - (b.length - at')=at' :=(by omega);rw[this]; rfl
 | m+1,i,k+1,at',acc,hm,hk,ha,h1,hacc=>by
  have hlen:(b.drop at').length=b.length - at':=List.length_drop;have ed:(b.take ((b.length:Nat):Int).toNat).drop ((at':Nat):Int).toNat=b.drop at' :=(by simp);have e:IntKind.i64.wrap ((d:Int)+1 - 1)=(d:Int) :=(by rw[wrap64_in (by omega) (by omega)]; omega);generalize hZ:zBp F b ((d:Int)+1) (N:Int) (k+1) (i:Int) (at':Int) acc=Z;rw[zBp,wrap64_in (n:=(N:Int)) (by omega) (by omega),decide_eq_true (by omega:(i:Int)<(N:Int)),cond_true,zA2 ⟨by omega,by omega,by omega⟩,ed,e]at hZ;simp only[rds]
  have hmf:Mq27 F d (b.drop at'):=hF (b.drop at') (by omega) (by omega)
  unfold Mq27 at hmf;cases hx:rd d (b.drop at') with
  | none =>
   rw[hx]at hmf;dsimp only at hmf ⊢;rw[← hZ,hmf]; rfl
  | some p =>
   obtain⟨⟨v1,v2,v3,v4⟩,r⟩:=p;rw[hx]at hmf;dsimp only at hmf ⊢;have hg:=(zPl (b.drop at').length (by omega) d _ _ r (Nat.le_refl _) hx).eq;have hl2:=congrArg List.length hg;have hcp:=zVJ (CV.mk v1 v2 v3 v4)
   rw[List.length_append]at hl2;have hz:((((b.drop at').length - r.length:Nat):Int) == 0)=false :=(by rw[beq_eq_false_iff_ne]; omega);have hat:IntKind.i64.wrap ((at':Int)+(((b.drop at').length - r.length:Nat):Int))=((b.length - r.length:Nat):Int) :=(by rw[wrap64_in (by omega) (by omega)]; omega);have hr:b.drop (b.length - r.length)=r:=by
    have e1:b.length - r.length=at'+(CV.mk v1 v2 v3 v4).code.length :=(by omega);rw[e1,← List.drop_drop,hg,List.drop_left]
   rw[hmf]at hZ;simp only[obs]at hZ;rw[hz,cond_false,zA2 (by simp; omega),zAN (by omega),hat]at hZ;have ih:=zIj hd hN hb hF m (i+1) k (b.length - r.length) (acc++[CV.mk v1 v2 v3 v4]) (by omega) (by omega) (by omega) (by omega) (by simp; omega)
   rw[hr]at ih;cases hy:rds (rd d) m r with
   | none =>
    rw[hy]at ih;dsimp only at ih ⊢;rw[← hZ,ih]
   | some q =>
    obtain⟨l,r2⟩:=q;rw[hy]at ih;dsimp only at ih ⊢;rw[← hZ,ih]; simp
theorem zKJ:∀ (n d:Nat) (b:List UInt8),d<=64->b.length<=20000000->b.length+d+30<n->Mq27 (zBG n) d b
 | 0,_,_,_,_,h=>by omega
 | n+1,d,[],hd,hb,hn=>by
  unfold Mq27;have:rd d []=none :=(by cases d <;> rfl);rw[this]
  dsimp only;rw[zBG]; rfl
 | n+1,0,c::q,hd,hb,hn=>by
  unfold Mq27;dsimp only[rd]
  have e0:((((c::q).length:Nat):Int) == 0)=false :=(by rw[beq_eq_false_iff_ne]; simp; omega);rw[zBG,e0]; rfl
 | n+1,d+1,c::q,hd,hb,hn=>by
  unfold Mq27;have hc:=c.toNat_lt;simp only[List.length_cons]at hb hn;have e0:((((c::q).length:Nat):Int) == 0)=false :=(by rw[beq_eq_false_iff_ne]; simp; omega);have e1:((((d+1:Nat)):Int) == 0)=false :=(by rw[beq_eq_false_iff_ne]; omega);have ea:at? (c::q) 0=some c:=zAC (l:=c::q) (i:=0) (by simp)
  have e2:IntKind.u64.wrap ((c.toNat:Int).tmod 64)=((c.toNat % 64:Nat):Int):=by
   rw[Int.tmod_eq_emod_of_nonneg (by omega),zEf (by omega) (by omega)]; omega
  have e7:IntKind.i64.wrap ((IntKind.i64.wrap (c.toNat:Int)).tdiv 64)=((c.toNat / 64:Nat):Int):=by
   rw[wrap64_in (n:=(c.toNat:Int)) (by omega) (by omega),Int.tdiv_eq_ediv_of_nonneg (by omega),wrap64_in (by omega) (by omega)]; omega
  generalize hZ:zBG (n+1) (c::q) (((d+1:Nat)):Int)=Z;rw[zBG,e0,cond_false,e1,cond_false,ea]at hZ;simp only[obs]at hZ;rw[e2,e7]at hZ
  by_cases h0:c.toNat<64
  ·rw[decide_eq_true (by omega:(c.toNat:Int)<64),cond_true]at hZ;simp only[rd,hdr,if_pos h0]
   exact hZ.symm
  ·rw[decide_eq_false (by omega:¬ (c.toNat:Int)<64),cond_false]at hZ;have tail:∀ (N at':Nat) (r:List UInt8),N<18446744073709551616->(c::q).drop at'=r->1<=at'->at'<=(c::q).length ->
     ((bif ((((c.toNat / 64:Nat)):Int) == 1) then (
      bif (((N:Int).tmod 2) == 1) then (
       some (.go ((at':Int),IntKind.i64.wrap ((IntKind.i64.wrap (0 - (IntKind.i64.wrap (IntKind.u64.wrap ((N:Int).tdiv 2))))) - 1),[],[]))
      ) else (
       some (.go ((at':Int),IntKind.i64.wrap (IntKind.u64.wrap ((N:Int).tdiv 2)),[],[]))
      )
     ) else (
      bif ((((c.toNat / 64:Nat)):Int) == 2) then (
       bif decide ((IntKind.u64.wrap (IntKind.i64.wrap (((c::q).length:Int) - (at':Int))))<(N:Int)) then (
        some (.ret (CV.mk 0 0 [] [],0))
       ) else (
        req (0<=(at':Int)/\(at':Int)<=IntKind.i64.wrap ((at':Int)+(IntKind.i64.wrap (N:Int)))/\IntKind.i64.wrap ((at':Int)+(IntKind.i64.wrap (N:Int)))<=((c::q).length:Int)) <|
        some (.go (IntKind.i64.wrap ((at':Int)+(IntKind.i64.wrap (N:Int))),0,((c::q).take (IntKind.i64.wrap ((at':Int)+(IntKind.i64.wrap (N:Int)))).toNat).drop (at':Int).toNat,[]))
       )
      ) else (
       bif decide ((IntKind.u64.wrap (IntKind.i64.wrap (((c::q).length:Int) - (at':Int))))<(N:Int)) then (
        some (.ret (CV.mk 0 0 [] [],0))
       ) else (
        (zBp (zBG n) (c::q) (((d+1:Nat)):Int) (N:Int) n 0 (at':Int) []).bind fun fl=>match fl with
        | .ret r=>some (.ret r)
        | .go ⟨x35,l36⟩ =>
         some (.go (x35,0,[],l36))
       )
      )
     ):Option (Fl (CV×Int) (Int×Int×(List UInt8)×(List CV)))).bind fun fl=>match fl with
     | .ret r=>some r
     | .go ⟨x22,x23,x24,l25⟩ =>
      some (CV.mk (((c.toNat / 64:Nat)):Int) x23 x24 l25,x22))=match (if c.toNat / 64=1 then some (CV.mk 1 (unz N) [] [],r) else if r.length<N then none else if c.toNat / 64=2 then some (.mk 2 0 (r.take N) [],r.drop N)
       else match rds (rd d) N r with
        | none=>none
        | some (l,r')=>some (.mk 3 0 [] l,r')) with
      | some (v,r)=>some (v,(((c::q).length - r.length:Nat):Int))
      | none=>some (CV.mk 0 0 [] [],0):=by
    intro N at' r hN hr ha1 ha2;have hrl:r.length=(c::q).length - at' :=(by rw[← hr,List.length_drop]);simp only[List.length_cons]at ha2 hrl ⊢;have hw:IntKind.u64.wrap (IntKind.i64.wrap (((q.length+1:Nat):Int) - (at':Int)))=(r.length:Int):=by
     rw[wrap64_in (by omega) (by omega),zEf (by omega) (by omega)]; omega
    by_cases k1:c.toNat / 64=1
    ·rw[if_pos k1,k1,show(((1:Nat):Int) == 1)=true from rfl,cond_true]
     have et:(N:Int).tmod 2=((N % 2:Nat):Int) :=(by rw[Int.tmod_eq_emod_of_nonneg (by omega)]; omega);have ev:IntKind.i64.wrap (IntKind.u64.wrap ((N:Int).tdiv 2))=((N / 2:Nat):Int):=by
      rw[Int.tdiv_eq_ediv_of_nonneg (by omega),zEf (by omega) (by omega),wrap64_in (by omega) (by omega)]; omega
     have eat:(((q.length+1 - r.length:Nat)):Int)=(at':Int) :=(by omega);rw[et,ev]
     dsimp only;rw[eat]
     unfold unz
     by_cases ho:N % 2=1
     ·rw[if_pos ho,show((((N % 2:Nat)):Int) == 1)=true by rw[beq_iff_eq]; omega,cond_true,wrap64_in (n:=0 - ((N / 2:Nat):Int)) (by omega) (by omega),wrap64_in (by omega) (by omega)]
      simp only[obs]
      congr 3; omega
     ·rw[if_neg ho,show((((N % 2:Nat)):Int) == 1)=false by rw[beq_eq_false_iff_ne]; omega]
      rfl
    ·rw[if_neg k1,show((((c.toNat / 64:Nat)):Int) == 1)=false by rw[beq_eq_false_iff_ne]; omega,cond_false]
     simp only[hw]
     by_cases k2:c.toNat / 64=2
     ·rw[show((((c.toNat / 64:Nat)):Int) == 2)=true by rw[beq_iff_eq]; omega,cond_true]
      by_cases hl:r.length<N
      ·rw[if_pos hl,decide_eq_true (by omega:(r.length:Int)<(N:Int))]; rfl
      ·have es:IntKind.i64.wrap ((at':Int)+(IntKind.i64.wrap (N:Int)))=((at'+N:Nat):Int):=by
        rw[wrap64_in (n:=(N:Int)) (by omega) (by omega),wrap64_in (by omega) (by omega)]; omega
       have ed:(((c::q).take ((((at'+N:Nat)):Int)).toNat).drop ((at':Int)).toNat)=r.take N:=by
        rw[← hr]
        have x1:((((at'+N:Nat)):Int)).toNat=at'+N :=(by omega);have x2:((at':Int)).toNat=at' :=(by omega);rw[x1,x2,List.drop_take]; congr 1; omega
       rw[if_neg hl,if_pos k2,decide_eq_false (by omega:¬ (r.length:Int)<(N:Int)),cond_false,es,zA2 ⟨by omega,by omega,by omega⟩,ed,k2]
       dsimp only;rw[List.length_drop]
       have:(((q.length+1 - (r.length - N):Nat)):Int)=((at'+N:Nat):Int) :=(by omega);rw[this]; rfl
     ·rw[show((((c.toNat / 64:Nat)):Int) == 2)=false by rw[beq_eq_false_iff_ne]; omega,cond_false]
      by_cases hl:r.length<N
      ·rw[if_pos hl,decide_eq_true (by omega:(r.length:Int)<(N:Int))]; rfl
      ·have k3:c.toNat / 64=3 :=(by omega);rw[if_neg hl,if_neg k2,decide_eq_false (by omega:¬ (r.length:Int)<(N:Int)),cond_false,k3]
       have key:=zIj (F:=zBG n) (d:=d) (by omega) (N:=N) (by omega) (b:=c::q) (by simp; omega) (fun b' h1 h2=>zKJ n d b' (by omega) (by simp at h1; omega) (by simp at h1; omega)) N 0 n at' [] (by omega) (by omega) (by simp; omega) ha1 (by simp)
       rw[hr]at key;cases hy:rds (rd d) N r with
       | none =>
        rw[hy]at key;have key':zBp (zBG n) (c::q) (((d+1:Nat)):Int) (N:Int) n 0 (at':Int) []=_:=key;rw[key']; rfl
       | some p =>
        obtain⟨l,r2⟩:=p;rw[hy]at key;have key':zBp (zBG n) (c::q) (((d+1:Nat)):Int) (N:Int) n 0 (at':Int) []=_:=key;rw[key']; rfl
   have hrd:∀ {k N:Nat} {r:List UInt8},hdr (c::q)=some (k,N,r)->rd (d+1) (c::q)=(if k=1 then some (CV.mk 1 (unz N) [] [],r) else if r.length<N then none else if k=2 then some (.mk 2 0 (r.take N) [],r.drop N)
       else match rds (rd d) N r with
        | none=>none
        | some (l,r')=>some (.mk 3 0 [] l,r')):=fun h=>by first | (rw[rd,h]; done) | (rw[rd,h]; rfl)
   have fin:∀ {N at':Nat} {r:List UInt8},hdr (c::q)=some (c.toNat / 64,N,r)->N<18446744073709551616->(c::q).drop at'=r->1<=at'->at'<=(c::q).length->∀ {W:Option (CV×Int)},_=W->(match rd (d+1) (c::q) with
     | some (v,r)=>W=some (v,(((c::q).length - r.length:Nat):Int))
     | none=>W=some (CV.mk 0 0 [] [],0)):=fun {N at' r} h1 h2 h3 h4 h5 {W} hW=>by
    have:=(tail N at' r h2 h3 h4 h5).symm.trans hW;rw[hrd h1]
    split <;> (rename_i hx; rw[hx]at this; exact this.symm)
   by_cases h1:c.toNat % 64<56
   ·rw[decide_eq_false (by omega:¬ (56:Int)<=((c.toNat % 64:Nat):Int)),cond_false]at hZ;exact fin (at':=1) (r:=q) (by rw[hdr,if_neg h0,if_pos h1]) (by omega) rfl (by omega) (by simp) hZ
   ·have e3:IntKind.i64.wrap (IntKind.i64.wrap ((c.toNat % 64:Nat):Int) - 55)=((c.toNat % 64 - 55:Nat):Int):=by
     rw[wrap64_in (n:=((c.toNat % 64:Nat):Int)) (by omega) (by omega),wrap64_in (by omega) (by omega)]; omega
    have e4:IntKind.i64.wrap (1+(((c.toNat % 64 - 55:Nat)):Int))=((1+(c.toNat % 64 - 55):Nat):Int) :=(by rw[wrap64_in (by omega) (by omega)]; omega);rw[decide_eq_true (by omega:(56:Int)<=((c.toNat % 64:Nat):Int)),cond_true,e3,e4]at hZ;have hmk:c.toNat % 64 - 55<=8/\1<=c.toNat % 64 - 55 :=(by omega);have hmm:IntKind.i64.wrap ((IntKind.i64.wrap (IntKind.u64.wrap ((c.toNat:Int).tmod 64))) - 55)=((c.toNat % 64 - 55:Nat):Int) :=(by rw[e2,e3]);have hhdr:hdr (c::q)=if q.length<c.toNat % 64 - 55 then none else if q.headD 0=0∨valA 0 (q.take (c.toNat % 64 - 55))<56 then none
      else some (c.toNat / 64,valA 0 (q.take (c.toNat % 64 - 55)),q.drop (c.toNat % 64 - 55)):=by rw[hdr,if_neg h0,if_neg h1]
    generalize c.toNat % 64 - 55=m at *
    by_cases h2:q.length<m
    ·rw[if_pos h2]at hhdr;rw[decide_eq_true (by simp; omega:(((c::q).length:Nat):Int)<((1+m:Nat):Int)),cond_true]at hZ;rw[rd,hhdr]
     exact hZ.symm
    ·rw[if_neg h2]at hhdr;rw[decide_eq_false (by simp; omega:¬ (((c::q).length:Nat):Int)<((1+m:Nat):Int)),cond_false]at hZ;obtain⟨c1,q1,rfl⟩:∃ c1 q1,q=c1::q1:=by
      cases q with
      | nil=>simp at h2; omega
      | cons a b=>exact⟨a,b,rfl⟩
     have ea1:at? (c::c1::q1) 1=some c1:=zQI (i:=1) rfl;rw[ea1,obs,obs]at hZ
     by_cases h3:c1=0
     ·subst h3;rw[if_pos (.inl rfl)]at hhdr;rw[show((((0:UInt8).toNat:Nat):Int) == 0)=true from rfl,cond_true]at hZ;rw[rd,hhdr]
      exact hZ.symm
     ·have h3':(((c1.toNat:Nat):Int) == 0)=false:=by
       rw[beq_eq_false_iff_ne]
       intro h;exact h3 (UInt8.toNat_inj.1 (by simpa using h))
      have hl:=zIi (c0:=c) (q:=c1::q1) (e:=c) hmm hmk.1 (by omega) ((c1::q1).take m) 0 n 0 rfl (by rw[List.length_take]; omega) (by simp)
      have hl':zCB (c::c1::q1) c n 1 0=_:=hl;rw[h3',cond_false,hl',obs]at hZ;have hlt:=zMX ((c1::q1).take m)
      have hlm:((c1::q1).take m).length=m :=(by rw[List.length_take]; omega);rw[hlm]at hlt;have hp8:(256:Nat) ^ m<=256 ^ 8:=Nat.pow_le_pow_right (by omega) hmk.1
      by_cases h4:valA 0 ((c1::q1).take m)<56
      ·rw[if_pos (.inr h4)]at hhdr;rw[decide_eq_true (by omega:((valA 0 ((c1::q1).take m):Nat):Int)<56),cond_true]at hZ;rw[rd,hhdr]
       exact hZ.symm
      ·rw[if_neg (by rintro(h | h); exact h3 h; exact h4 h)]at hhdr;rw[decide_eq_false (by omega:¬ ((valA 0 ((c1::q1).take m):Nat):Int)<56),cond_false,obs]at hZ;exact fin (at':=1+m) hhdr (by simp at hp8; omega) (by rw[Nat.add_comm]; rfl) (by omega) (by simp; simp at h2; omega) hZ
theorem zNG {n:Nat}{b:List UInt8} (hn:1048700<n) (hb:b.length<=3000):zGg n b=some (dec b):=by
 have h:=zKJ n 64 b (by omega) (by omega) (by omega)
 unfold Mq27 at h;unfold dec;rw[if_neg (by omega),zGg]
 cases hx:rd 64 b with
 | none =>
  rw[hx]at h;have h':zBG n b 64=_:=h;rw[h']; rfl
 | some p =>
  obtain⟨⟨v1,v2,v3,v4⟩,r⟩:=p;rw[hx]at h;have h':zBG n b 64=_:=h;rw[h']
  have hg:=congrArg List.length (zPl b.length (by omega) 64 b _ r (Nat.le_refl _) hx).eq;have hcp:=zVJ (CV.mk v1 v2 v3 v4)
  rw[List.length_append]at hg;have e1:(((b.length - r.length:Nat):Int) == 0)=false :=(by rw[beq_eq_false_iff_ne]; omega);simp only[obs,e1,cond_false]
  cases r with
  | nil =>
   have e2:(((b.length - ([]:List UInt8).length:Nat):Int) != (b.length:Int))=false :=(by simp);rw[e2,cond_false,decide_eq_false (by omega:¬ (1048576:Int)<((b.length - ([]:List UInt8).length:Nat):Int))]; rfl
  | cons c r =>
   have e2:(((b.length - (c::r).length:Nat):Int) != (b.length:Int))=true:=by
    simp only[List.length_cons]at hg ⊢
    simp; omega
   rw[e2]; rfl
def Rd (e e':Int):Prop:=(e ≠ 0->e'=e)/\(e=0->e'=0∨e'=4)
theorem Rd.refl (e:Int):Rd e e:=⟨fun _=>rfl,fun h=>.inl h⟩
theorem Rd.trans {a b c:Int} (h:Rd a b) (k:Rd b c):Rd a c:=by
 refine⟨fun ha=>?_,fun ha=>?_⟩
 ·have:=h.1 ha;subst this;exact k.1 ha
 ·rcases h.2 ha with hb | hb
  ·exact k.2 hb
  ·exact .inr (by rw[k.1 (by omega),hb])
theorem Rd.zero {a b:Int} (h:Rd a b) (hb:b=0):a=0:=by
 by_cases ha:a=0
 ·exact ha
 ·rw[← h.1 ha]; exact hb
def zPY (e:Int):Int:=if e=0 then 4 else e
theorem Rd.fail (e:Int):Rd e (zPY e):=by
 unfold zPY
 by_cases h:e=0
 ·rw[if_pos h]; exact⟨fun h'=>absurd h h',fun _=>.inr rfl⟩
 ·rw[if_neg h]; exact Rd.refl e
theorem zIL (e:Int):zPY e ≠ 0:=by
 unfold zPY
 by_cases h:e=0
 ·rw[if_pos h]; decide
 ·rw[if_neg h]; exact h
theorem zOH (e:Int):zBh e=some (zPY e):=by
 unfold zBh zPY
 by_cases h:e=0
 ·subst h; rfl
 ·simp only[beq_eq_false_iff_ne.2 h,cond_false,if_neg h]
structure RX {α:Type} (V:α->CV) (e:Int) (v:CV) (y:α) (e':Int):Prop where
 rd:Rd e e'
 ok:e'=0->v.proper=true->v=V y
 go:e=0->∀ z,v=V z->y=z/\e'=0
theorem zZ3 {i:Int}{t:List UInt8}{l:List CV} (h:(CV.mk 1 i t l).proper=true):t=[]/\l=[]:=by
 simp[CV.proper,CV.own]at h;exact⟨h.1.1,h.1.2⟩
theorem zZ4 {i:Int}{t:List UInt8}{l:List CV} (h:(CV.mk 2 i t l).proper=true):i=0/\l=[]:=by
 simp[CV.proper,CV.own]at h;exact⟨h.1.1,h.1.2⟩
theorem zLn {i:Int}{t:List UInt8}{l:List CV} (h:(CV.mk 3 i t l).proper=true):i=0/\t=[]/\CV.propers l=true:=by
 simp[CV.proper,CV.own]at h;exact⟨h.1.1,h.1.2,h.2⟩
theorem number_eq (e:Int) (v:CV):∃ y e',zAE e v=some (y,e')/\RX numV e v y e':=by
 obtain⟨k,i,t,l⟩:=v;unfold zAE
 by_cases h:k=1
 ·subst h;refine⟨i,e,rfl,Rd.refl e,fun _ hp=>?_,fun h z hz=>?_⟩
  ·obtain⟨rfl,rfl⟩:=zZ3 hp
   rfl
  ·unfold numV at hz
   injection hz with _ h2
   exact⟨h2,h⟩
 ·refine⟨i,zPY e,?_,Rd.fail e,fun h'=>absurd h' (zIL e),fun _ z hz=>?_⟩
  ·simp only[show(k != 1)=true from bne_iff_ne.2 h,cond_true,zOH,obs]
  ·unfold numV at hz
   injection hz with h1
   exact absurd h1 h
theorem zNU (e:Int) (v:CV):∃ y e',zBx e v=some (y,e')/\RX zMW e v y e':=by
 obtain⟨k,i,t,l⟩:=v;unfold zBx
 by_cases h:k=2
 ·subst h;refine⟨t,e,rfl,Rd.refl e,fun _ hp=>?_,fun h z hz=>?_⟩
  ·obtain⟨rfl,rfl⟩:=zZ4 hp
   rfl
  ·unfold zMW at hz
   injection hz with _ _ h2
   exact⟨h2,h⟩
 ·refine⟨t,zPY e,?_,Rd.fail e,fun h'=>absurd h' (zIL e),fun _ z hz=>?_⟩
  ·simp only[show(k != 2)=true from bne_iff_ne.2 h,cond_true,zOH,obs]
  ·unfold zMW at hz
   injection hz with h1
   exact absurd h1 h
def CV.list:CV->List CV
 | .mk _ _ _ l=>l
theorem zMh (e:Int) (v:CV):∃ e',zBi e v=some (v.list,e')/\RX zET e v v.list e':=by
 obtain⟨k,i,t,l⟩:=v;unfold zBi
 by_cases h:k=3
 ·subst h;refine⟨e,rfl,Rd.refl e,fun _ hp=>?_,fun h z hz=>?_⟩
  ·obtain⟨rfl,rfl,_⟩:=zLn hp
   rfl
  ·unfold zET at hz
   injection hz with _ _ _ h2
   exact⟨h2,h⟩
 ·refine⟨zPY e,?_,Rd.fail e,fun h'=>absurd h' (zIL e),fun _ z hz=>?_⟩
  ·simp only[show(k != 3)=true from bne_iff_ne.2 h,cond_true,zOH,obs]
   rfl
  ·unfold zET at hz
   injection hz with h1
   exact absurd h1 h
structure RT (s:Nat) (e:Int) (v:CV) (y:List CV) (e':Int):Prop where
 len:s<=y.length
 rd:Rd e e'
 from_:y=v.list∨(e' ≠ 0/\y=List.replicate s (.mk 0 0 [] []))
 ok:e'=0->v.proper=true->v=zET y
 go:e=0->∀ l,v=zET l->s<=l.length->y=l/\e'=0
theorem zWi (e:Int) (v:CV) (s:Nat) (hs:s<=100) (hw:v.list.length<=1073741824):∃ y e',zB4 e v (s:Int)=some (y,e')/\RT s e v y e':=by
 obtain⟨e1,h1,h2⟩:=zMh e v;obtain⟨k,i,t,l⟩:=v;simp only[CV.list]at h1 h2 hw;unfold zB4;simp only[h1,obs]
 by_cases hl:l.length<s
 ·rw[zAJ (by omega),cond_true,zOH]
  simp only[obs]
  rw[zA2 ⟨by omega,by omega⟩]
  refine⟨_,_,rfl,by simp,h2.rd.trans (Rd.fail e1),.inr ⟨zIL e1,by simp⟩,fun h=>absurd h (zIL e1),fun he z hz hlen=>?_⟩
  have:=(h2.go he z hz).1;rw[this]at hl
  omega
 ·rw[zAD (by omega)]
  exact⟨l,e1,rfl,by omega,h2.rd,.inl rfl,h2.ok,fun he z hz _=>h2.go he z hz⟩
structure RE (s:Nat) (e:Int) (v:CV) (y:List CV) (e':Int):Prop where
 len:s<=y.length
 rd:Rd e e'
 from_:y=v.list∨(e' ≠ 0/\y=List.replicate s (.mk 0 0 [] []))
 ok:e'=0->v.proper=true->v=zET y/\y.length=s
 go:e=0->∀ l,v=zET l->l.length=s->y=l/\e'=0
theorem zJ6 (e:Int) (v:CV) (s:Nat) (hs:s<=100) (hw:v.list.length<=1073741824):∃ y e',zBc e v (s:Int)=some (y,e')/\RE s e v y e':=by
 obtain⟨y,e1,h1,h2⟩:=zWi e v s hs hw;have hlen:=h2.len;obtain⟨k,i,t,l⟩:=v;unfold zBc;simp only[h1,obs]
 by_cases hl:y.length=s
 ·have hb:((y.length:Int) != (s:Int))=false :=(by rw[hl]; simp);simp only[hb,cond_false,obs]
  exact⟨y,e1,rfl,hlen,h2.rd,h2.from_,fun h hp=>⟨h2.ok h hp,hl⟩,fun he z hz hzl=>h2.go he z hz (by omega)⟩
 ·have hb:((y.length:Int) != (s:Int))=true:=bne_iff_ne.2 (by omega)
  simp only[hb,cond_true,zOH,obs]
  refine⟨y,zPY e1,rfl,hlen,h2.rd.trans (Rd.fail e1),?_,fun h=>absurd h (zIL e1),fun he z hz hzl=>?_⟩
  ·rcases h2.from_ with h | ⟨_,h⟩
   ·exact .inl h
   ·exact .inr ⟨zIL e1,h⟩
  ·have:=(h2.go he z hz (by omega)).1;rw[this]at hl;exact absurd hzl hl
def zQJ {α:Type} (fl:Fl (List α×Int) (Int×List α)):List α×Int:=match fl with
 | .ret r=>r
 | .go (e,l)=>(l,e)
structure EX {α:Type} (V:α->CV) (e:Int) (l:List CV) (acc ys:List α) (e':Int):Prop where
 rd:Rd e e'
 ok:e'=0->CV.propers l=true->∃ zs,ys=acc++zs/\l=zs.map V
 go:e=0->∀ zs,l=zs.map V->ys=acc++zs/\e'=0
 len:ys.length<=acc.length+l.length
theorem zLZ {α:Type}{V:α->CV}{l:List CV} (F:Int->CV->Option (α×Int)) (L:Nat->Int->Int->List α->Option (Fl (List α×Int) (Int×List α))) (hl:l.length<=1073741824)
  (hF:∀ e x,x∈l->∃ y e',F e x=some (y,e')/\RX V e x y e')
  (h1:∀ (k i:Nat) (e:Int) (acc:List α),i<l.length->e ≠ 0->L (k+1) e (i:Int) acc=some (.ret ([],e)))
  (h2:∀ (k i:Nat) (acc:List α) (h:i<l.length) (y:α) (w:Int),acc.length<=i->F 0 l[i]=some (y,w)->L (k+1) 0 (i:Int) acc=L k w ((i+1:Nat):Int) (acc++[y]))
  (h3:∀ (k:Nat) (e:Int) (acc:List α),L (k+1) e (l.length:Int) acc=some (.go (e,acc))) :
  ∀ (k i:Nat) (e:Int) (acc:List α),l.length - i<k->i<=l.length->acc.length<=i->∃ fl,L k e (i:Int) acc=some fl/\EX V e (l.drop i) acc (zQJ fl).1 (zQJ fl).2
 | 0,i,e,acc,h,_,_=>by omega
 | k+1,i,e,acc,h,hi,ha=>by
  by_cases hj:i<l.length
  ·by_cases he:e=0
   ·subst he;obtain⟨y,w,f1,f2⟩:=hF 0 l[i] (List.getElem_mem hj)
    obtain⟨fl,g1,g2⟩:=zLZ F L hl hF h1 h2 h3 k (i+1) w (acc++[y]) (by omega) (by omega) (by simp only[List.length_append,List.length_cons,List.length_nil]; omega)
    refine⟨fl,by rw[h2 k i acc hj y w ha f1]; exact g1,f2.rd.trans g2.rd,fun h0 hp=>?_,fun _ zs hz=>?_,?_⟩
    ·rw[List.drop_eq_getElem_cons hj]at hp ⊢;simp only[CV.propers,Bool.and_eq_true]at hp;obtain⟨zs,e1,e2⟩:=g2.ok h0 hp.2;have e3:=f2.ok (g2.rd.zero h0) hp.1;exact⟨y::zs,by rw[e1,List.append_assoc]; rfl,by rw[List.map_cons,← e3,← e2]⟩
    ·rw[List.drop_eq_getElem_cons hj]at hz;cases zs with
     | nil=>cases hz
     | cons z zs =>
      simp only[List.map_cons,List.cons.injEq]at hz;obtain⟨e1,e2⟩:=f2.go rfl z hz.1;obtain⟨e3,e4⟩:=g2.go e2 zs hz.2;exact⟨by rw[e3,e1,List.append_assoc]; rfl,e4⟩
    ·have:=g2.len;simp only[List.length_append,List.length_cons,List.length_nil,List.length_drop]at this ⊢
     omega
   ·refine⟨_,h1 k i e acc hj he,Rd.refl e,fun h0=>absurd h0 he,fun h0=>absurd h0 he,?_⟩
    simp[zQJ]
  ·obtain rfl:i=l.length :=(by omega);rw[h3,List.drop_length]
   refine⟨_,rfl,Rd.refl e,fun _ _=>⟨[],by simp[zQJ],rfl⟩,fun h0 zs hz=>?_,by simp[zQJ]⟩
   cases zs with
   | nil=>exact⟨by simp[zQJ],h0⟩
   | cons z zs=>simp at hz
structure EL {α:Type} (V:α->CV) (e:Int) (l:List CV) (ys:List α) (e':Int):Prop where
 rd:Rd e e'
 ok:e'=0->CV.propers l=true->l=ys.map V
 go:e=0->∀ zs,l=zs.map V->ys=zs/\e'=0
 len:ys.length<=l.length
theorem EX.el {α:Type}{V:α->CV}{e:Int}{l:List CV}{ys:List α}{e':Int} (h:EX V e l [] ys e'):EL V e l ys e' :=
 ⟨h.rd,fun h0 hp=>by obtain⟨zs,rfl,hz⟩:=h.ok h0 hp; exact hz,h.go,by have:=h.len; simpa using this⟩
theorem zZQ (n:Nat) (e:Int) (l:List CV) (hn:l.length<n) (hl:l.length<=1073741824):∃ ys e',zCP n e l=some (ys,e')/\EL numV e l ys e':=by
 obtain⟨fl,g1,g2⟩:=zLZ (V:=numV) (l:=l) zAE (zAU l) hl (fun e x _=>number_eq e x)
  (fun k i e acc h he=>by
   rw[zAU,zAJ (Int.ofNat_lt.2 h),cond_true,zAC h]
   generalize l[i]=x;obtain⟨x1,x2,x3,x4⟩:=x;simp only[obs,show(e != 0)=true from bne_iff_ne.2 he,cond_true])
  (fun k i acc h y w ha hF=>by
   rw[zAU,zAJ (Int.ofNat_lt.2 h),cond_true,zAC h]
   generalize l[i]=x at hF;obtain⟨x1,x2,x3,x4⟩:=x;simp only[obs,show((0:Int) != 0)=false from rfl,cond_false,hF]
   rw[zA2 (by simp only[List.length_cons,List.length_nil]; omega),zAN (by omega)])
  (fun k e acc=>by rw[zAU,zAD (by omega)]; rfl) n 0 e [] (by omega) (Nat.zero_le _) (Nat.le_refl _)
 rw[show((0:Nat):Int)=0 from rfl]at g1;rw[List.drop_zero]at g2;unfold zCP;simp only[g1,obs]
 cases fl with
 | ret r=>exact⟨_,_,rfl,g2.el⟩
 | go q=>obtain⟨q1,q2⟩:=q; exact⟨_,_,rfl,g2.el⟩
theorem zNR {α:Type}{V:α->CV}{e e1 e':Int}{v:CV}{ys:List α} (h1:RX zET e v v.list e1) (h2:EL V e1 v.list ys e'):RX (fun ys=>zET (ys.map V)) e v ys e' :=
 ⟨h1.rd.trans h2.rd,fun h0 hp=>by
  have h3:=h1.ok (h2.rd.zero h0) hp;have h4:CV.propers v.list=true:=by
   rw[h3]at hp;exact(zLn hp).2.2
  have h5:=h2.ok h0 h4;rw[← h5]
  exact h3,fun h0 z hz=>by
  obtain⟨h3,h4⟩:=h1.go h0 _ hz;exact h2.go h4 z h3⟩
theorem zLp (n:Nat) (e:Int) (v:CV) (hn:v.list.length<n) (hl:v.list.length<=1073741824):∃ ys e',zBn n e v=some (ys,e')/\RX zMC e v ys e':=by
 obtain⟨e1,h1,h2⟩:=zMh e v;obtain⟨ys,e',h3,h4⟩:=zZQ n e1 v.list hn hl;have h5:=zNR h2 h4;obtain⟨k,i,t,l⟩:=v;unfold zBn;simp only[h1,h3,obs]
 exact⟨ys,e',rfl,h5⟩
theorem CV.list_w (v:CV):CV.ws v.list<v.w:=by
 obtain⟨k,i,t,l⟩:=v;simp only[CV.list,CV.w]
 omega
theorem CV.list_len (v:CV):v.list.length<v.w:=by
 have h1:=CV.list_w v;have h2:=CV.ws_len v.list
 omega
theorem CV.list_mem {v x:CV} (h:x∈v.list):x.w<v.w:=by
 have h1:=CV.list_w v;have h2:=CV.w_mem h
 omega
theorem CV.ws_drop:∀ (l:List CV) (i:Nat),CV.ws (l.drop i)<=CV.ws l
 | [],i=>by rw[List.drop_nil]; exact Nat.le_refl _
 | v::l,0=>Nat.le_refl _
 | v::l,i+1=>by
  have:=CV.ws_drop l i;simp only[List.drop_succ_cons,CV.ws]
  omega
theorem zA8 {l:List CV}{i:Nat} (h:CV.propers l=true) (hi:i<l.length):l[i].proper=true:=CV.propers_mem h (List.getElem_mem hi)
theorem zNp:∀ {l:List CV} (i:Nat),CV.propers l=true->CV.propers (l.drop i)=true
 | [],i,h=>by rw[List.drop_nil]; rfl
 | v::l,0,h=>h
 | v::l,i+1,h=>by
  simp only[CV.propers,Bool.and_eq_true]at h;exact zNp i h.2
theorem zPr:∀ n:Nat,(∀ (e:Int) (v:CV),2 * v.w+8<n->v.w<=16777216->∃ t e',zAZ n e v=some (t,e')/\RX zHv e v t e') /\
  (∀ (e:Int) (l:List CV),2 * CV.ws l+7<n->CV.ws l<=16777216->∃ ts e',zBu n e l=some (ts,e')/\EL zHv e l ts e')
 | 0=>⟨fun _ _ h=>by omega,fun _ _ h=>by omega⟩
 | n+1=>by
  obtain⟨ih1,ih2⟩:=zPr n;refine⟨fun e v h hb=>?_,fun e l h hb=>?_⟩
  ·have hlw:=CV.list_w v;have hll:=CV.list_len v;obtain⟨y,e1,h1,h2⟩:=zWi e v 3 (by omega) (by omega)
   rw[show((3:Nat):Int)=3 from rfl]at h1;have hlen:=h2.len;have hyw:CV.ws (y.drop 3)<=CV.ws v.list:=by
    rcases h2.from_ with q | ⟨_,q⟩
    ·rw[q]; exact CV.ws_drop _ _
    ·rw[q]; exact Nat.zero_le _
   have hyl:y.length<=16777216:=by
    rcases h2.from_ with q | ⟨_,q⟩
    ·rw[q]; omega
    ·rw[q,List.length_replicate]; omega
   obtain⟨a,e2,a1,a2⟩:=number_eq e1 y[0];obtain⟨b,e3,b1,b2⟩:=zNU e2 y[1];obtain⟨c,e4,c1,c2⟩:=number_eq e3 y[2];obtain⟨ts,e5,d1,d2⟩:=ih2 e4 (y.drop 3) (by omega) (by omega)
   have g0:at? y 0=some y[0]:=zAC (i:=0) (by omega)
   have g1:at? y 1=some y[1]:=zAC (i:=1) (by omega)
   have g2:at? y 2=some y[2]:=zAC (i:=2) (by omega)
   have hy:y=y[0]::y[1]::y[2]::y.drop 3:=by
    rw[← List.drop_eq_getElem_cons (by omega),← List.drop_eq_getElem_cons (by omega),← List.drop_eq_getElem_cons (by omega)]
    rfl
   have r45:=d2.rd;have r35:=c2.rd.trans r45;have r25:=b2.rd.trans r35;have r15:=a2.rd.trans r25;refine⟨.mk a b c ts,e5,?_,h2.rd.trans r15,fun h0 hp=>?_,fun h0 z hz=>?_⟩
   ·have ed:((y.take (y.length:Int).toNat).drop (3:Int).toNat)=y.drop 3 :=(by rw[Int.toNat_natCast,List.take_length]; rfl);generalize y[0]=y0 at *;generalize y[1]=y1 at *;generalize y[2]=y2 at *;obtain⟨v1,v2,v3,v4⟩:=v;obtain⟨p1,p2,p3,p4⟩:=y0;obtain⟨q1,q2,q3,q4⟩:=y1;obtain⟨s1,s2,s3,s4⟩:=y2;unfold zAZ;simp only[h1,g0,g1,g2,a1,b1,c1,obs]
    rw[zA2 ⟨by omega,by omega,by omega⟩,ed,d1]
    simp only[obs]
   ·have hv:=h2.ok (r15.zero h0) hp;have hpy:CV.propers y=true:=by
     rw[hv]at hp;exact(zLn hp).2.2
    have k0:=a2.ok (r25.zero h0) (zA8 hpy (by omega))
    have k1:=b2.ok (r35.zero h0) (zA8 hpy (by omega))
    have k2:=c2.ok (r45.zero h0) (zA8 hpy (by omega))
    have k3:=d2.ok h0 (zNp 3 hpy)
    rw[hv,zHv,zEu,← k0,← k1,← k2,← k3,← hy]
   ·obtain⟨z1,z2,z3,z4⟩:=z;rw[zHv]at hz;obtain⟨hy',h01⟩:=h2.go h0 _ hz (by simp only[List.length_cons]; omega)
    have k0:y[0]=numV z1 :=(by simp only[hy',List.getElem_cons_zero]);have k1:y[1]=zMW z2 :=(by simp only[hy',List.getElem_cons_succ,List.getElem_cons_zero]);have k2:y[2]=numV z3 :=(by simp only[hy',List.getElem_cons_succ,List.getElem_cons_zero]);have k3:y.drop 3=z4.map zHv :=(by rw[hy',← zEu]; rfl);obtain⟨m0,n0⟩:=a2.go h01 z1 k0;obtain⟨m1,n1⟩:=b2.go n0 z2 k1;obtain⟨m2,n2⟩:=c2.go n1 z3 k2;obtain⟨m3,n3⟩:=d2.go n2 z4 k3;exact⟨by rw[m0,m1,m2,m3],n3⟩
  ·have hll:=CV.ws_len l;obtain⟨fl,g1,g2⟩:=zLZ (V:=zHv) (l:=l) (zAZ n) (zAO (zAZ n) l) (by omega)
    (fun e x hx=>ih1 e x (by have:=CV.w_mem hx; omega) (by have:=CV.w_mem hx; omega))
    (fun k i e acc h he=>by
     rw[zAO,zAJ (Int.ofNat_lt.2 h),cond_true,zAC h]
     generalize l[i]=x;obtain⟨x1,x2,x3,x4⟩:=x;simp only[obs,show(e != 0)=true from bne_iff_ne.2 he,cond_true])
    (fun k i acc h y w ha hF=>by
     rw[zAO,zAJ (Int.ofNat_lt.2 h),cond_true,zAC h]
     generalize l[i]=x at hF;obtain⟨x1,x2,x3,x4⟩:=x;obtain⟨y1,y2,y3,y4⟩:=y;simp only[obs,show((0:Int) != 0)=false from rfl,cond_false,hF]
     rw[zA2 (by simp only[List.length_cons,List.length_nil]; omega),zAN (by omega)])
    (fun k e acc=>by rw[zAO,zAD (by omega)]; rfl) n 0 e [] (by omega) (Nat.zero_le _) (Nat.le_refl _)
   rw[show((0:Nat):Int)=0 from rfl]at g1;rw[List.drop_zero]at g2;unfold zBu;simp only[g1,obs]
   cases fl with
   | ret r=>exact⟨_,_,rfl,g2.el⟩
   | go q=>obtain⟨q1,q2⟩:=q; exact⟨_,_,rfl,g2.el⟩
theorem yAL (n:Nat) (e:Int) (v:CV) (hn:200000000<n) (hb:v.w<=16777216):∃ o e',zC3 n e v=some (o,e')/\RX opV e v o e':=by
 have hll:=CV.list_len v;obtain⟨y,e1,h1,h2⟩:=zJ6 e v 8 (by omega) (by omega)
 rw[show((8:Nat):Int)=8 from rfl]at h1;have hlen:=h2.len;have hyw:∀ x∈y,x.w<=16777216:=fun x hx=>by
  rcases h2.from_ with q | ⟨_,q⟩
  ·rw[q]at hx; have:=CV.list_mem hx; omega
  ·rw[q]at hx;rw[List.eq_of_mem_replicate hx]
   simp[CV.w,CV.ws]
 have hg:∀ i (hi:i<y.length),y[i].w<=16777216:=fun i hi=>hyw _ (List.getElem_mem hi)
 obtain⟨x0,f0,a0,b0⟩:=number_eq e1 y[0];obtain⟨x1,f1,a1,b1⟩:=zLp n f0 y[1] (by have:=hg 1 (by omega); have:=CV.list_len y[1]; omega) (by have:=hg 1 (by omega); have:=CV.list_len y[1]; omega)
 obtain⟨x2,f2,a2,b2⟩:=number_eq f1 y[2];obtain⟨x3,f3,a3,b3⟩:=number_eq f2 y[3];obtain⟨f4,a4,b4⟩:=zMh f3 y[4];obtain⟨x4,f5,a5,b5⟩:=(zPr n).2 f4 y[4].list (by have:=hg 4 (by omega); have:=CV.list_w y[4]; omega) (by have:=hg 4 (by omega); have:=CV.list_w y[4]; omega)
 have b45:=zNR b4 b5;obtain⟨x6,f6,a6,b6⟩:=number_eq f5 y[5];obtain⟨x7,f7,a7,b7⟩:=zNU f6 y[6];obtain⟨x8,f8,a8,b8⟩:=zNU f7 y[7];have g0:at? y 0=some y[0]:=zAC (i:=0) (by omega)
 have g1:at? y 1=some y[1]:=zAC (i:=1) (by omega)
 have g2:at? y 2=some y[2]:=zAC (i:=2) (by omega)
 have g3:at? y 3=some y[3]:=zAC (i:=3) (by omega)
 have g4:at? y 4=some y[4]:=zAC (i:=4) (by omega)
 have g5:at? y 5=some y[5]:=zAC (i:=5) (by omega)
 have g6:at? y 6=some y[6]:=zAC (i:=6) (by omega)
 have g7:at? y 7=some y[7]:=zAC (i:=7) (by omega)
 have hy:y=y[0]::y[1]::y[2]::y[3]::y[4]::y[5]::y[6]::y[7]::y.drop 8:=by
  rw[← List.drop_eq_getElem_cons (by omega),← List.drop_eq_getElem_cons (by omega),← List.drop_eq_getElem_cons (by omega),← List.drop_eq_getElem_cons (by omega),← List.drop_eq_getElem_cons (by omega),← List.drop_eq_getElem_cons (by omega),← List.drop_eq_getElem_cons (by omega),← List.drop_eq_getElem_cons (by omega)]
  rfl
 have r7:=b8.rd;have r6:=b7.rd.trans r7;have r5:=b6.rd.trans r6;have r4:=b45.rd.trans r5;have r3:=b3.rd.trans r4;have r2:=b2.rd.trans r3;have r1:=b1.rd.trans r2;have r0:=b0.rd.trans r1;refine⟨(x0,x1,x2,x3,x4,x6,x7,x8),f8,?_,h2.rd.trans r0,fun h0 hp=>?_,fun h0 z hz=>?_⟩
 ·clear hy hg hyw
  generalize y[0]=y0 at *;generalize y[1]=y1 at *;generalize y[2]=y2 at *;generalize y[3]=y3 at *;generalize y[4]=y4 at *;generalize y[5]=y5 at *;generalize y[6]=y6 at *;generalize y[7]=y7 at *;obtain⟨v1,v2,v3,v4⟩:=v;obtain⟨s1,s2,s3,s4⟩:=y0;obtain⟨t1,t2,t3,t4⟩:=y1;obtain⟨u1,u2,u3,u4⟩:=y2;obtain⟨p1,p2,p3,p4⟩:=y3;obtain⟨q1,q2,q3,q4⟩:=y4;obtain⟨c1,c2,c3,c4⟩:=y5;obtain⟨d1,d2,d3,d4⟩:=y6;obtain⟨e1_,e2_,e3_,e4_⟩:=y7;unfold zC3;simp only[h1,g0,g1,g2,g3,g4,g5,g6,g7,a0,a1,a2,a3,a4,a5,a6,a7,a8,obs]
 ·obtain⟨hv,hl8⟩:=h2.ok (r0.zero h0) hp;have hpy:CV.propers y=true:=by
   rw[hv]at hp;exact(zLn hp).2.2
  have k0:=b0.ok (r1.zero h0) (zA8 hpy (by omega))
  have k1:=b1.ok (r2.zero h0) (zA8 hpy (by omega))
  have k2:=b2.ok (r3.zero h0) (zA8 hpy (by omega))
  have k3:=b3.ok (r4.zero h0) (zA8 hpy (by omega))
  have k4:=b45.ok (r5.zero h0) (zA8 hpy (by omega))
  have k5:=b6.ok (r6.zero h0) (zA8 hpy (by omega))
  have k6:=b7.ok (r7.zero h0) (zA8 hpy (by omega))
  have k7:=b8.ok h0 (zA8 hpy (by omega))
  have k8:y.drop 8=[]:=List.drop_eq_nil_iff.2 (by omega)
  rw[hv,opV]
  dsimp only;rw[zEu,← k0,← k1,← k2,← k3,← k4,← k5,← k6,← k7,← k8,← hy]
 ·obtain⟨z0,z1,z2,z3,z4,z5,z6,z7⟩:=z;rw[opV]at hz;dsimp only at hz;rw[zEu]at hz;obtain⟨hy',h01⟩:=h2.go h0 _ hz rfl;have k0:y[0]=numV z0 :=(by simp only[hy',List.getElem_cons_zero]);have k1:y[1]=zMC z1 :=(by simp only[hy',List.getElem_cons_succ,List.getElem_cons_zero]);have k2:y[2]=numV z2 :=(by simp only[hy',List.getElem_cons_succ,List.getElem_cons_zero]);have k3:y[3]=numV z3 :=(by simp only[hy',List.getElem_cons_succ,List.getElem_cons_zero]);have k4:y[4]=zET (z4.map zHv):=by simp only[hy',List.getElem_cons_succ,List.getElem_cons_zero]
  have k5:y[5]=numV z5 :=(by simp only[hy',List.getElem_cons_succ,List.getElem_cons_zero]);have k6:y[6]=zMW z6 :=(by simp only[hy',List.getElem_cons_succ,List.getElem_cons_zero]);have k7:y[7]=zMW z7 :=(by simp only[hy',List.getElem_cons_succ,List.getElem_cons_zero]);obtain⟨m0,n0⟩:=b0.go h01 z0 k0;obtain⟨m1,n1⟩:=b1.go n0 z1 k1;obtain⟨m2,n2⟩:=b2.go n1 z2 k2;obtain⟨m3,n3⟩:=b3.go n2 z3 k3;obtain⟨m4,n4⟩:=b45.go n3 z4 k4;obtain⟨m5,n5⟩:=b6.go n4 z5 k5;obtain⟨m6,n6⟩:=b7.go n5 z6 k6;obtain⟨m7,n7⟩:=b8.go n6 z7 k7;exact⟨by rw[m0,m1,m2,m3,m4,m5,m6,m7],n7⟩
theorem zQ2 (n:Nat) (e:Int) (v:CV) (hn:200000000<n) (hb:v.w<=16777216):∃ c e',zBU n e v=some (c,e')/\RX curV e v c e':=by
 have hll:=CV.list_len v;obtain⟨y,e1,h1,h2⟩:=zJ6 e v 2 (by omega) (by omega)
 rw[show((2:Nat):Int)=2 from rfl]at h1;have hlen:=h2.len;have hyw:∀ x∈y,x.w<=16777216:=fun x hx=>by
  rcases h2.from_ with q | ⟨_,q⟩
  ·rw[q]at hx; have:=CV.list_mem hx; omega
  ·rw[q]at hx;rw[List.eq_of_mem_replicate hx]
   simp[CV.w,CV.ws]
 have hg:∀ i (hi:i<y.length),y[i].w<=16777216:=fun i hi=>hyw _ (List.getElem_mem hi)
 obtain⟨x0,f0,a0,b0⟩:=zLp n e1 y[0] (by have:=hg 0 (by omega); have:=CV.list_len y[0]; omega) (by have:=hg 0 (by omega); have:=CV.list_len y[0]; omega)
 obtain⟨x1,f1,a1,b1⟩:=zLp n f0 y[1] (by have:=hg 1 (by omega); have:=CV.list_len y[1]; omega) (by have:=hg 1 (by omega); have:=CV.list_len y[1]; omega)
 have g0:at? y 0=some y[0]:=zAC (i:=0) (by omega)
 have g1:at? y 1=some y[1]:=zAC (i:=1) (by omega)
 have hy:y=y[0]::y[1]::y.drop 2:=by
  rw[← List.drop_eq_getElem_cons (by omega),← List.drop_eq_getElem_cons (by omega)]
  rfl
 have r1:=b1.rd;have r0:=b0.rd.trans r1;refine⟨(x0,x1),f1,?_,h2.rd.trans r0,fun h0 hp=>?_,fun h0 z hz=>?_⟩
 ·clear hy hg hyw
  generalize y[0]=y0 at *;generalize y[1]=y1 at *;obtain⟨v1,v2,v3,v4⟩:=v;obtain⟨s1,s2,s3,s4⟩:=y0;obtain⟨t1,t2,t3,t4⟩:=y1;unfold zBU;simp only[h1,g0,g1,a0,a1,obs]
 ·obtain⟨hv,hl8⟩:=h2.ok (r0.zero h0) hp;have hpy:CV.propers y=true:=by
   rw[hv]at hp;exact(zLn hp).2.2
  have k0:=b0.ok (r1.zero h0) (zA8 hpy (by omega))
  have k1:=b1.ok h0 (zA8 hpy (by omega))
  have k8:y.drop 2=[]:=List.drop_eq_nil_iff.2 (by omega)
  rw[hv,curV]
  dsimp only;rw[← k0,← k1,← k8,← hy]
 ·obtain⟨z0,z1⟩:=z;rw[curV]at hz;dsimp only at hz;obtain⟨hy',h01⟩:=h2.go h0 _ hz rfl;have k0:y[0]=zMC z0 :=(by simp only[hy',List.getElem_cons_zero]);have k1:y[1]=zMC z1 :=(by simp only[hy',List.getElem_cons_succ,List.getElem_cons_zero]);obtain⟨m0,n0⟩:=b0.go h01 z0 k0;obtain⟨m1,n1⟩:=b1.go n0 z1 k1;exact⟨by rw[m0,m1],n1⟩
theorem yAA (n:Nat) (e:Int) (l:List CV) (hn:200000000<n) (hb:CV.ws l<=16777216):∃ ts e',zDa n e l=some (ts,e')/\EL opV e l ts e':=by
 have hll:=CV.ws_len l;obtain⟨fl,g1,g2⟩:=zLZ (V:=opV) (l:=l) (zC3 n) (zAY n l) (by omega)
  (fun e x hx=>yAL n e x hn (by have:=CV.w_mem hx; omega))
  (fun k i e acc h he=>by
   rw[zAY,zAJ (Int.ofNat_lt.2 h),cond_true,zAC h]
   generalize l[i]=x;obtain⟨x1,x2,x3,x4⟩:=x;simp only[obs,show(e != 0)=true from bne_iff_ne.2 he,cond_true])
  (fun k i acc h y w ha hF=>by
   rw[zAY,zAJ (Int.ofNat_lt.2 h),cond_true,zAC h]
   generalize l[i]=x at hF;obtain⟨x1,x2,x3,x4⟩:=x;obtain⟨y1,y2,y3,y4,y5,y6,y7,y8⟩:=y;simp only[obs,show((0:Int) != 0)=false from rfl,cond_false,hF]
   rw[zA2 (by simp only[List.length_cons,List.length_nil]; omega),zAN (by omega)])
  (fun k e acc=>by rw[zAY,zAD (by omega)]; rfl) n 0 e [] (by omega) (Nat.zero_le _) (Nat.le_refl _)
 rw[show((0:Nat):Int)=0 from rfl]at g1;rw[List.drop_zero]at g2;unfold zDa;simp only[g1,obs]
 cases fl with
 | ret r=>exact⟨_,_,rfl,g2.el⟩
 | go q=>obtain⟨q1,q2⟩:=q; exact⟨_,_,rfl,g2.el⟩
theorem zW3 (n:Nat) (e:Int) (v:CV) (hn:200000000<n) (hb:v.w<=16777216):∃ r e',zBV n e v=some (r,e')/\RX recV e v r e':=by
 have hll:=CV.list_len v;obtain⟨y,e1,h1,h2⟩:=zJ6 e v 3 (by omega) (by omega)
 rw[show((3:Nat):Int)=3 from rfl]at h1;have hlen:=h2.len;have hyw:∀ x∈y,x.w<=16777216:=fun x hx=>by
  rcases h2.from_ with q | ⟨_,q⟩
  ·rw[q]at hx; have:=CV.list_mem hx; omega
  ·rw[q]at hx;rw[List.eq_of_mem_replicate hx]
   simp[CV.w,CV.ws]
 have hg:∀ i (hi:i<y.length),y[i].w<=16777216:=fun i hi=>hyw _ (List.getElem_mem hi)
 obtain⟨f0,a0,b0⟩:=zMh e1 y[0];obtain⟨x0,f1,a1,b1⟩:=yAA n f0 y[0].list hn (by have:=hg 0 (by omega); have:=CV.list_w y[0]; omega)
 have b01:=zNR b0 b1;obtain⟨x2,f2,a2,b2⟩:=zQ2 n f1 y[1] hn (hg 1 (by omega))
 obtain⟨x3,f3,a3,b3⟩:=zQ2 n f2 y[2] hn (hg 2 (by omega))
 have g0:at? y 0=some y[0]:=zAC (i:=0) (by omega)
 have g1:at? y 1=some y[1]:=zAC (i:=1) (by omega)
 have g2:at? y 2=some y[2]:=zAC (i:=2) (by omega)
 have hy:y=y[0]::y[1]::y[2]::y.drop 3:=by
  rw[← List.drop_eq_getElem_cons (by omega),← List.drop_eq_getElem_cons (by omega),← List.drop_eq_getElem_cons (by omega)]
  rfl
 have r2:=b3.rd;have r1:=b2.rd.trans r2;have r0:=b01.rd.trans r1;refine⟨(x0,x2,x3),f3,?_,h2.rd.trans r0,fun h0 hp=>?_,fun h0 z hz=>?_⟩
 ·clear hy hg hyw
  generalize y[0]=y0 at *;generalize y[1]=y1 at *;generalize y[2]=y2 at *;obtain⟨v1,v2,v3,v4⟩:=v;obtain⟨s1,s2,s3,s4⟩:=y0;obtain⟨t1,t2,t3,t4⟩:=y1;obtain⟨u1,u2,u3,u4⟩:=y2;obtain⟨p1,p2⟩:=x2;obtain⟨q1,q2⟩:=x3;unfold zBV;simp only[h1,g0,g1,g2,a0,a1,a2,a3,obs]
 ·obtain⟨hv,hl8⟩:=h2.ok (r0.zero h0) hp;have hpy:CV.propers y=true:=by
   rw[hv]at hp;exact(zLn hp).2.2
  have k0:=b01.ok (r1.zero h0) (zA8 hpy (by omega))
  have k1:=b2.ok (r2.zero h0) (zA8 hpy (by omega))
  have k2:=b3.ok h0 (zA8 hpy (by omega))
  have k8:y.drop 3=[]:=List.drop_eq_nil_iff.2 (by omega)
  rw[hv,recV]
  dsimp only;rw[← k0,← k1,← k2,← k8,← hy]
 ·obtain⟨z0,z1,z2⟩:=z;rw[recV]at hz;dsimp only at hz;obtain⟨hy',h01⟩:=h2.go h0 _ hz rfl;have k0:y[0]=zET (z0.map opV) :=(by simp only[hy',List.getElem_cons_zero]);have k1:y[1]=curV z1 :=(by simp only[hy',List.getElem_cons_succ,List.getElem_cons_zero]);have k2:y[2]=curV z2 :=(by simp only[hy',List.getElem_cons_succ,List.getElem_cons_zero]);obtain⟨m0,n0⟩:=b01.go h01 z0 k0;obtain⟨m1,n1⟩:=b2.go n0 z1 k1;obtain⟨m2,n2⟩:=b3.go n1 z2 k2;exact⟨by rw[m0,m1,m2],n2⟩
theorem zZR (n:Nat) (e:Int) (l:List CV) (hn:200000000<n) (hb:CV.ws l<=16777216):∃ ts e',zB1 n e l=some (ts,e')/\EL recV e l ts e':=by
 have hll:=CV.ws_len l;obtain⟨fl,g1,g2⟩:=zLZ (V:=recV) (l:=l) (zBV n) (zAL n l) (by omega)
  (fun e x hx=>zW3 n e x hn (by have:=CV.w_mem hx; omega))
  (fun k i e acc h he=>by
   rw[zAL,zAJ (Int.ofNat_lt.2 h),cond_true,zAC h]
   generalize l[i]=x;obtain⟨x1,x2,x3,x4⟩:=x;simp only[obs,show(e != 0)=true from bne_iff_ne.2 he,cond_true])
  (fun k i acc h y w ha hF=>by
   rw[zAL,zAJ (Int.ofNat_lt.2 h),cond_true,zAC h]
   generalize l[i]=x at hF;obtain⟨x1,x2,x3,x4⟩:=x;obtain⟨y1,⟨y2,y3⟩,⟨y4,y5⟩⟩:=y;simp only[obs,show((0:Int) != 0)=false from rfl,cond_false,hF]
   rw[zA2 (by simp only[List.length_cons,List.length_nil]; omega),zAN (by omega)])
  (fun k e acc=>by rw[zAL,zAD (by omega)]; rfl) n 0 e [] (by omega) (Nat.zero_le _) (Nat.le_refl _)
 rw[show((0:Nat):Int)=0 from rfl]at g1;rw[List.drop_zero]at g2;unfold zB1;simp only[g1,obs]
 cases fl with
 | ret r=>exact⟨_,_,rfl,g2.el⟩
 | go q=>obtain⟨q1,q2⟩:=q; exact⟨_,_,rfl,g2.el⟩
theorem zUc (n:Nat) (e:Int) (v:CV) (hn:200000000<n) (hb:v.w<=16777216):∃ d e',zB2 n e v=some (d,e')/\RX docV e v d e':=by
 have hll:=CV.list_len v;obtain⟨y,e1,h1,h2⟩:=zJ6 e v 4 (by omega) (by omega)
 rw[show((4:Nat):Int)=4 from rfl]at h1;have hlen:=h2.len;have hyw:∀ x∈y,x.w<=16777216:=fun x hx=>by
  rcases h2.from_ with q | ⟨_,q⟩
  ·rw[q]at hx; have:=CV.list_mem hx; omega
  ·rw[q]at hx;rw[List.eq_of_mem_replicate hx]
   simp[CV.w,CV.ws]
 have hg:∀ i (hi:i<y.length),y[i].w<=16777216:=fun i hi=>hyw _ (List.getElem_mem hi)
 obtain⟨x0,f0,a0,b0⟩:=zNU e1 y[0];obtain⟨x1,f1,a1,b1⟩:=(zPr n).1 f0 y[1] (by have:=hg 1 (by omega); omega) (hg 1 (by omega))
 obtain⟨x2,f2,a2,b2⟩:=number_eq f1 y[2];obtain⟨f3,a3,b3⟩:=zMh f2 y[3];obtain⟨x3,f4,a4,b4⟩:=zZR n f3 y[3].list hn (by have:=hg 3 (by omega); have:=CV.list_w y[3]; omega)
 have b34:=zNR b3 b4;have g0:at? y 0=some y[0]:=zAC (i:=0) (by omega)
 have g1:at? y 1=some y[1]:=zAC (i:=1) (by omega)
 have g2:at? y 2=some y[2]:=zAC (i:=2) (by omega)
 have g3:at? y 3=some y[3]:=zAC (i:=3) (by omega)
 have hy:y=y[0]::y[1]::y[2]::y[3]::y.drop 4:=by
  rw[← List.drop_eq_getElem_cons (by omega),← List.drop_eq_getElem_cons (by omega),← List.drop_eq_getElem_cons (by omega),← List.drop_eq_getElem_cons (by omega)]
  rfl
 have r3:=b34.rd;have r2:=b2.rd.trans r3;have r1:=b1.rd.trans r2;have r0:=b0.rd.trans r1;refine⟨(x0,x1,x3,x2),f4,?_,h2.rd.trans r0,fun h0 hp=>?_,fun h0 z hz=>?_⟩
 ·clear hy hg hyw
  generalize y[0]=y0 at *;generalize y[1]=y1 at *;generalize y[2]=y2 at *;generalize y[3]=y3 at *;obtain⟨v1,v2,v3,v4⟩:=v;obtain⟨s1,s2,s3,s4⟩:=y0;obtain⟨t1,t2,t3,t4⟩:=y1;obtain⟨u1,u2,u3,u4⟩:=y2;obtain⟨p1,p2,p3,p4⟩:=y3;obtain⟨q1,q2,q3,q4⟩:=x1;unfold zB2;simp only[h1,g0,g1,g2,g3,a0,a1,a2,a3,a4,obs]
 ·obtain⟨hv,hl8⟩:=h2.ok (r0.zero h0) hp;have hpy:CV.propers y=true:=by
   rw[hv]at hp;exact(zLn hp).2.2
  have k0:=b0.ok (r1.zero h0) (zA8 hpy (by omega))
  have k1:=b1.ok (r2.zero h0) (zA8 hpy (by omega))
  have k2:=b2.ok (r3.zero h0) (zA8 hpy (by omega))
  have k3:=b34.ok h0 (zA8 hpy (by omega))
  have k8:y.drop 4=[]:=List.drop_eq_nil_iff.2 (by omega)
  rw[hv,docV]
  dsimp only;rw[← k0,← k1,← k2,← k3,← k8,← hy]
 ·obtain⟨z0,z1,z2,z3⟩:=z;rw[docV]at hz;dsimp only at hz;obtain⟨hy',h01⟩:=h2.go h0 _ hz rfl;have k0:y[0]=zMW z0 :=(by simp only[hy',List.getElem_cons_zero]);have k1:y[1]=zHv z1 :=(by simp only[hy',List.getElem_cons_succ,List.getElem_cons_zero]);have k2:y[2]=numV z3 :=(by simp only[hy',List.getElem_cons_succ,List.getElem_cons_zero]);have k3:y[3]=zET (z2.map recV) :=(by simp only[hy',List.getElem_cons_succ,List.getElem_cons_zero]);obtain⟨m0,n0⟩:=b0.go h01 z0 k0;obtain⟨m1,n1⟩:=b1.go n0 z1 k1;obtain⟨m2,n2⟩:=b2.go n1 z3 k2;obtain⟨m3,n3⟩:=b34.go n2 z2 k3;exact⟨by rw[m0,m1,m2,m3],n3⟩
def zCV:CV:=.mk 0 0 [] []
def CV.int:CV->Int
 | .mk _ i _ _=>i
def CV.text:CV->List UInt8
 | .mk _ _ t _=>t
def CV.cw (v:CV):Nat:=v.text.length+CV.ws v.list
theorem CV.w_cw (v:CV):v.w=v.cw+1:=by
 obtain⟨k,i,t,l⟩:=v;simp only[CV.w,CV.cw,CV.text,CV.list]
def zAW (l:List CV) (i:Nat):CV:=(l[i]?).getD zCV
theorem zCY (v:CV) (i:Nat):zAM v (i:Int)=some (zAW v.list i):=by
 obtain⟨k,j,t,l⟩:=v;unfold zAM zAW;simp only[CV.list]
 by_cases h:i<l.length
 ·rw[zAJ (by omega),cond_true,zAC h,List.getElem?_eq_getElem h]
  generalize l[i]=x;obtain⟨x1,x2,x3,x4⟩:=x
  rfl
 ·rw[zAD (by omega),cond_false,List.getElem?_eq_none (by omega)]
  rfl
theorem zBj (l:List CV) (i j:Nat) (hj:j=i+1):(zAW l i).cw+CV.ws (l.drop j)<=CV.ws (l.drop i):=by
 subst hj;unfold zAW
 by_cases h:i<l.length
 ·rw[List.getElem?_eq_getElem h,List.drop_eq_getElem_cons h]
  have:=CV.w_cw l[i];simp only[Option.getD_some,CV.ws]
  omega
 ·rw[List.getElem?_eq_none (by omega),List.drop_eq_nil_iff.2 (by omega)]
  exact Nat.zero_le _
structure RL {α:Type} (V:α->CV) (l:List CV) (ys:List α):Prop where
 w:CV.ws (ys.map V)<=20 * CV.ws l
 go:∀ zs,l=zs.map V->ys=zs
 len:ys.length=l.length
theorem zMc {α:Type}{V:α->CV}{l:List CV} (L:Nat->Int->List α->Option (List α)) (hl:l.length<=1073741824)
  (hE:∀ (i:Nat) (h:i<l.length),∃ y,(∀ k acc,acc.length<=i->L (k+1) (i:Int) acc=L k ((i+1:Nat):Int) (acc++[y]))/\(V y).w<=20 * l[i].w/\∀ z,l[i]=V z->y=z)
  (he:∀ (k:Nat) (acc:List α),L (k+1) (l.length:Int) acc=some acc) :
  ∀ (k i:Nat) (acc:List α),l.length - i<k->i<=l.length->acc.length<=i->∃ ys,L k (i:Int) acc=some (acc++ys)/\RL V (l.drop i) ys
 | 0,i,acc,h,_,_=>by omega
 | k+1,i,acc,h,hi,ha=>by
  by_cases hj:i<l.length
  ·obtain⟨y,h1,h2,h3⟩:=hE i hj;obtain⟨ys,g1,g2⟩:=zMc L hl hE he k (i+1) (acc++[y]) (by omega) (by omega) (by simp only[List.length_append,List.length_cons,List.length_nil]; omega)
   refine⟨y::ys,by rw[h1 k acc ha,g1,List.append_assoc]; rfl,⟨?_,fun zs hz=>?_,by have:=g2.len; simp only[List.length_cons,List.length_drop]at this ⊢; omega⟩⟩
   ·rw[List.drop_eq_getElem_cons hj]
    have:=g2.w;simp only[List.map_cons,CV.ws]
    omega
   ·rw[List.drop_eq_getElem_cons hj]at hz;cases zs with
    | nil=>cases hz
    | cons z zs =>
     simp only[List.map_cons,List.cons.injEq]at hz;rw[h3 z hz.1,g2.go zs hz.2]
  ·obtain rfl:i=l.length :=(by omega);rw[he,List.drop_length]
   refine⟨[],by rw[List.append_nil],⟨Nat.zero_le _,fun zs hz=>?_,rfl⟩⟩
   cases zs with
   | nil=>rfl
   | cons z zs=>cases hz
theorem zMg (n:Nat) (v:CV) (hn:v.list.length<n) (hl:v.list.length<=1073741824):∃ ys,zEH n v=some ys/\RL numV v.list ys:=by
 obtain⟨k,i,t,l⟩:=v;simp only[CV.list]at hn hl ⊢;obtain⟨ys,g1,g2⟩:=zMc (V:=numV) (l:=l) (zDd l) hl (fun i h=>by
   refine⟨l[i].int,fun k acc ha=>?_,?_,fun z hz=>by rw[hz]; rfl⟩
   ·rw[zDd,zAJ (Int.ofNat_lt.2 h),cond_true,zAC h]
    generalize l[i]=x;obtain⟨x1,x2,x3,x4⟩:=x;simp only[obs,CV.int]
    rw[zA2 (by simp only[List.length_cons,List.length_nil]; omega),zAN (by omega)]
   ·have:=CV.w_cw l[i];rw[zP2]
    omega)
  (fun k acc=>by rw[zDd,zAD (by omega)]; rfl) n 0 [] (by omega) (Nat.zero_le _) (Nat.le_refl _)
 rw[show((0:Nat):Int)=0 from rfl,List.nil_append]at g1;rw[List.drop_zero]at g2;unfold zEH;simp only[g1,obs]
 exact⟨ys,rfl,g2⟩
theorem zMR:∀ (n:Nat) (v:CV) (from_:Nat),v.w+5<n->v.w<=16777216->∃ ys,zCR n v (from_:Int)=some ys/\RL zHv (v.list.drop from_) ys
 | 0,_,_,h,_=>by omega
 | n+1,v,from_,h,hb=>by
  have hll:=CV.list_len v;obtain⟨kk,ii,tt,l⟩:=v;simp only[CV.list]at hll ⊢;have hmem:∀ x∈l,x.w<(CV.mk kk ii tt l).w:=fun x hx=>CV.list_mem (v:=.mk kk ii tt l) hx
  unfold zCR
  by_cases hf:from_<=l.length
  ·obtain⟨ys,g1,g2⟩:=zMc (V:=zHv) (l:=l) (zBL (zCR n) l) (by omega) (fun i h'=>by
     have hx:=hmem _ (List.getElem_mem h')
     obtain⟨kids,k1,k2⟩:=zMR n l[i] 3 (by omega) (by omega)
     rw[show((3:Nat):Int)=3 from rfl]at k1;have p0:=zCY l[i] 0;have p1:=zCY l[i] 1;have p2:=zCY l[i] 2;rw[show((0:Nat):Int)=0 from rfl]at p0;rw[show((1:Nat):Int)=1 from rfl]at p1;rw[show((2:Nat):Int)=2 from rfl]at p2;refine⟨.mk (zAW l[i].list 0).int (zAW l[i].list 1).text (zAW l[i].list 2).int kids,fun k acc ha=>?_,?_,fun z hz=>?_⟩
     ·rw[zBL,zAJ (Int.ofNat_lt.2 h'),cond_true,zAC h']
      generalize l[i]=x at *;generalize zAW x.list 0=y0 at *;generalize zAW x.list 1=y1 at *;generalize zAW x.list 2=y2 at *;obtain⟨x1,x2,x3,x4⟩:=x;obtain⟨a1,a2,a3,a4⟩:=y0;obtain⟨b1,b2,b3,b4⟩:=y1;obtain⟨c1,c2,c3,c4⟩:=y2;simp only[obs,p0,p1,p2,k1,CV.int,CV.text]
      rw[zA2 (by simp only[List.length_cons,List.length_nil]; omega),zAN (by omega)]
     ·have s0:=zBj l[i].list 0 1 rfl;have s1:=zBj l[i].list 1 2 rfl;have s2:=zBj l[i].list 2 3 rfl;have hw:=CV.w_cw l[i];have kw:=k2.w;rw[← zEu]at kw;rw[zHv,list_w]
      simp only[CV.ws,zP2,zNw,CV.cw,List.drop_zero]at *
      omega
     ·obtain⟨z1,z2,z3,z4⟩:=z;rw[zHv]at hz;have hk:=k2.go z4 (by rw[hz,← zEu]; rfl)
      rw[hz,hk]
      rfl)
    (fun k acc=>by rw[zBL,zAD (by omega)]; rfl) n from_ [] (by omega) hf (Nat.zero_le _)
   rw[List.nil_append]at g1;simp only[g1,obs]
   exact⟨ys,rfl,g2⟩
  ·obtain⟨m,rfl⟩:∃ m,n=m+1:=⟨n - 1,by omega⟩
   have e:zBL (zCR (m+1)) l (m+1) (from_:Int) []=some []:=by
    rw[zBL,zAD (by omega)]; rfl
   simp only[e,obs]
   refine⟨[],rfl,?_⟩
   rw[List.drop_eq_nil_iff.2 (by omega)]
   refine⟨Nat.zero_le _,fun zs hz=>?_,rfl⟩
   cases zs with
   | nil=>rfl
   | cons z zs=>cases hz
theorem yAb (n:Nat) (x:CV) (hn:200000000<n) (hb:x.w<=16777216):∃ ys,(∀ k i t l,x = .mk k i t l->zBR n k i t l n 0 []=some ys)/\RL opV (zAW x.list 0).list ys:=by
 obtain⟨kk,ii,tt,ll⟩:=x;have hp:=zCY (.mk kk ii tt ll) 0;rw[show((0:Nat):Int)=0 from rfl]at hp;have hs:=zBj ll 0 1 rfl;have hcw:=CV.w_cw (.mk kk ii tt ll)
 simp only[CV.list]at hp ⊢;simp only[CV.cw,CV.list,CV.text,List.drop_zero]at hs hcw;generalize zAW ll 0=P at *;obtain⟨P1,P2,P3,l⟩:=P;simp only[CV.list,CV.text]at hs ⊢;have hlen:=CV.ws_len l;obtain⟨ys,g1,g2⟩:=zMc (V:=opV) (l:=l) (fun k i acc=>zBR n kk ii tt ll k i acc) (by omega) (fun i h'=>by
   have hx:=CV.w_mem (List.getElem_mem h')
   have s0:=zBj l[i].list 0 1 rfl;have s1:=zBj l[i].list 1 2 rfl;have s2:=zBj l[i].list 2 3 rfl;have s3:=zBj l[i].list 3 4 rfl;have s4:=zBj l[i].list 4 5 rfl;have s5:=zBj l[i].list 5 6 rfl;have s6:=zBj l[i].list 6 7 rfl;have s7:=zBj l[i].list 7 8 rfl;have hw:=CV.w_cw l[i];have w1:=CV.w_cw (zAW l[i].list 1)
   have w4:=CV.w_cw (zAW l[i].list 4)
   have l1:=CV.list_len (zAW l[i].list 1)
   have hcl:CV.ws l[i].list<=l[i].cw :=(by unfold CV.cw; omega);rw[List.drop_zero]at s0;obtain⟨r,r1,r2⟩:=zMg n (zAW l[i].list 1) (by omega) (by omega)
   obtain⟨m,m1,m2⟩:=zMR n (zAW l[i].list 4) 0 (by omega) (by omega)
   rw[show((0:Nat):Int)=0 from rfl]at m1;rw[List.drop_zero]at m2;have p0:=zCY l[i] 0;have p1:=zCY l[i] 1;have p2:=zCY l[i] 2;have p3:=zCY l[i] 3;have p4:=zCY l[i] 4;have p5:=zCY l[i] 5;have p6:=zCY l[i] 6;have p7:=zCY l[i] 7;rw[show((0:Nat):Int)=0 from rfl]at p0;rw[show((1:Nat):Int)=1 from rfl]at p1;rw[show((2:Nat):Int)=2 from rfl]at p2;rw[show((3:Nat):Int)=3 from rfl]at p3;rw[show((4:Nat):Int)=4 from rfl]at p4;rw[show((5:Nat):Int)=5 from rfl]at p5;rw[show((6:Nat):Int)=6 from rfl]at p6;rw[show((7:Nat):Int)=7 from rfl]at p7
   refine⟨((zAW l[i].list 0).int,r,(zAW l[i].list 2).int,(zAW l[i].list 3).int,m,(zAW l[i].list 5).int,(zAW l[i].list 6).text,(zAW l[i].list 7).text),fun k acc ha=>?_,?_,fun z hz=>?_⟩
   ·clear s0 s1 s2 s3 s4 s5 s6 s7 w1 w4 l1 r2 m2 hcl hw hx
    show zBR n kk ii tt ll (k+1) (i:Int) acc=_;rw[zBR,hp]
    simp only[obs]
    rw[zAJ (Int.ofNat_lt.2 h'),cond_true,zAC h']
    generalize l[i]=x at *;generalize zAW x.list 0=y0 at *;generalize zAW x.list 1=y1 at *;generalize zAW x.list 2=y2 at *;generalize zAW x.list 3=y3 at *;generalize zAW x.list 4=y4 at *;generalize zAW x.list 5=y5 at *;generalize zAW x.list 6=y6 at *;generalize zAW x.list 7=y7 at *;obtain⟨x1,x2,x3,x4⟩:=x;obtain⟨a1,a2,a3,a4⟩:=y0;obtain⟨b1,b2,b3,b4⟩:=y1;obtain⟨c1,c2,c3,c4⟩:=y2;obtain⟨d1,d2,d3,d4⟩:=y3;obtain⟨e1,e2,e3,e4⟩:=y4;obtain⟨f1,f2,f3,f4⟩:=y5;obtain⟨o1,o2,o3,o4⟩:=y6;obtain⟨q1,q2,q3,q4⟩:=y7;simp only[obs,p0,p1,p2,p3,p4,p5,p6,p7,r1,m1,CV.int,CV.text]
    rw[zA2 (by simp only[List.length_cons,List.length_nil]; omega),zAN (by omega)]
   ·have rw_:=r2.w;have mw:=m2.w;rw[← zEu]at mw;rw[opV,list_w]
    simp only[CV.ws,zP2,zNw,zMC,list_w,CV.cw]at *
    omega
   ·obtain⟨z0,z1,z2,z3,z4,z5,z6,z7⟩:=z;rw[opV]at hz;dsimp only at hz;have e1:=r2.go z1 (by rw[hz]; rfl)
    have e4:=m2.go z4 (by rw[hz,← zEu]; rfl)
    rw[hz,e1,e4]
    rfl)
  (fun k acc=>by
   show zBR n kk ii tt ll (k+1) (l.length:Int) acc=_;rw[zBR,hp]
   simp only[obs]
   rw[zAD (by omega)]; rfl) n 0 [] (by omega) (Nat.zero_le _) (Nat.le_refl _)
 rw[show((0:Nat):Int)=0 from rfl,List.nil_append]at g1;rw[List.drop_zero]at g2;refine⟨ys,fun k i t l' h=>?_,g2⟩
 injection h with q1 q2 q3 q4
 subst q1;subst q2;subst q3;subst q4;exact g1
theorem zY9 (n:Nat) (x:CV) (hn:200000000<n) (hb:x.w<=16777216):∃ ys,(∀ k i t l,x = .mk k i t l->zBQ n k i t l n 0 []=some ys)/\RL recV (zAW x.list 3).list ys:=by
 obtain⟨kk,ii,tt,ll⟩:=x;have hp:=zCY (.mk kk ii tt ll) 3;rw[show((3:Nat):Int)=3 from rfl]at hp;have hs:=zBj ll 3 4 rfl;have hd:=CV.ws_drop ll 3;have hcw:=CV.w_cw (.mk kk ii tt ll)
 simp only[CV.list]at hp ⊢;simp only[CV.cw,CV.list,CV.text]at hs hcw;generalize zAW ll 3=P at *;obtain⟨P1,P2,P3,l⟩:=P;simp only[CV.list,CV.text]at hs ⊢;have hlen:=CV.ws_len l;obtain⟨ys,g1,g2⟩:=zMc (V:=recV) (l:=l) (fun k i acc=>zBQ n kk ii tt ll k i acc) (by omega) (fun i h'=>by
   have hx:=CV.w_mem (List.getElem_mem h')
   have s0:=zBj l[i].list 0 1 rfl;have s1:=zBj l[i].list 1 2 rfl;have s2:=zBj l[i].list 2 3 rfl;have u0:=zBj (zAW l[i].list 1).list 0 1 rfl;have u1:=zBj (zAW l[i].list 1).list 1 2 rfl;have v0:=zBj (zAW l[i].list 2).list 0 1 rfl;have v1:=zBj (zAW l[i].list 2).list 1 2 rfl;have hw:=CV.w_cw l[i];have hcl:CV.ws l[i].list<=l[i].cw :=(by unfold CV.cw; omega);have hc1:CV.ws (zAW l[i].list 1).list<=(zAW l[i].list 1).cw :=(by unfold CV.cw; omega);have hc2:CV.ws (zAW l[i].list 2).list<=(zAW l[i].list 2).cw:=by unfold CV.cw; omega
   have hc0:CV.ws (zAW l[i].list 0).list<=(zAW l[i].list 0).cw :=(by unfold CV.cw; omega);rw[List.drop_zero]at s0 u0 v0;have wa:=CV.w_cw (zAW (zAW l[i].list 1).list 0)
   have wb:=CV.w_cw (zAW (zAW l[i].list 1).list 1)
   have wc:=CV.w_cw (zAW (zAW l[i].list 2).list 0)
   have wd:=CV.w_cw (zAW (zAW l[i].list 2).list 1)
   have la:=CV.list_len (zAW (zAW l[i].list 1).list 0)
   have lb:=CV.list_len (zAW (zAW l[i].list 1).list 1)
   have lc:=CV.list_len (zAW (zAW l[i].list 2).list 0)
   have ld:=CV.list_len (zAW (zAW l[i].list 2).list 1)
   obtain⟨o,o1,o2⟩:=yAb n l[i] hn (by omega)
   obtain⟨a,a1,a2⟩:=zMg n (zAW (zAW l[i].list 1).list 0) (by omega) (by omega)
   obtain⟨b,b1,b2⟩:=zMg n (zAW (zAW l[i].list 1).list 1) (by omega) (by omega)
   obtain⟨c,c1,c2⟩:=zMg n (zAW (zAW l[i].list 2).list 0) (by omega) (by omega)
   obtain⟨d,d1,d2⟩:=zMg n (zAW (zAW l[i].list 2).list 1) (by omega) (by omega)
   have p1:=zCY l[i] 1;have p2:=zCY l[i] 2;have p10:=zCY (zAW l[i].list 1) 0;have p11:=zCY (zAW l[i].list 1) 1;have p20:=zCY (zAW l[i].list 2) 0;have p21:=zCY (zAW l[i].list 2) 1;rw[show((1:Nat):Int)=1 from rfl]at p1 p11 p21;rw[show((2:Nat):Int)=2 from rfl]at p2;rw[show((0:Nat):Int)=0 from rfl]at p10 p20;refine⟨(o,(a,b),(c,d)),fun k acc ha=>?_,?_,fun z hz=>?_⟩
   ·clear s0 s1 s2 u0 u1 v0 v1 wa wb wc wd la lb lc ld o2 a2 b2 c2 d2 hcl hc1 hc2 hc0 hw hx
    show zBQ n kk ii tt ll (k+1) (i:Int) acc=_;rw[zBQ,hp]
    simp only[obs]
    rw[zAJ (Int.ofNat_lt.2 h'),cond_true,zAC h']
    generalize l[i]=x at *;generalize zAW x.list 1=y1 at *;generalize zAW x.list 2=y2 at *;generalize zAW y1.list 0=y10 at *;generalize zAW y1.list 1=y11 at *;generalize zAW y2.list 0=y20 at *;generalize zAW y2.list 1=y21 at *;obtain⟨x1,x2,x3,x4⟩:=x;have o3:=o1 _ _ _ _ rfl;obtain⟨e1,e2,e3,e4⟩:=y1;obtain⟨f1,f2,f3,f4⟩:=y2;obtain⟨q1,q2,q3,q4⟩:=y10;obtain⟨r1,r2,r3,r4⟩:=y11;obtain⟨t1,t2,t3,t4⟩:=y20;obtain⟨u1,u2,u3,u4⟩:=y21;simp only[obs,p1,p2,p10,p11,p20,p21,o3,a1,b1,c1,d1]
    rw[zA2 (by simp only[List.length_cons,List.length_nil]; omega),zAN (by omega)]
   ·have ow:=o2.w;have aw:=a2.w;have bw:=b2.w;have cw_:=c2.w;have dw:=d2.w;rw[zV5]at aw bw cw_ dw;rw[recV,list_w]
    simp only[CV.ws,list_w,zZL,CV.cw]at *
    omega
   ·obtain⟨z0,⟨z1,z2⟩,⟨z3,z4⟩⟩:=z;rw[recV]at hz;dsimp only[curV]at hz;have e0:=o2.go z0 (by rw[hz]; rfl)
    have e1:=a2.go z1 (by rw[hz]; rfl)
    have e2:=b2.go z2 (by rw[hz]; rfl)
    have e3:=c2.go z3 (by rw[hz]; rfl)
    have e4:=d2.go z4 (by rw[hz]; rfl)
    rw[e0,e1,e2,e3,e4])
  (fun k acc=>by
   show zBQ n kk ii tt ll (k+1) (l.length:Int) acc=_;rw[zBQ,hp]
   simp only[obs]
   rw[zAD (by omega)]; rfl) n 0 [] (by omega) (Nat.zero_le _) (Nat.le_refl _)
 rw[show((0:Nat):Int)=0 from rfl,List.nil_append]at g1;rw[List.drop_zero]at g2;refine⟨ys,fun k i t l' h=>?_,g2⟩
 injection h with q1 q2 q3 q4
 subst q1;subst q2;subst q3;subst q4;exact g1
theorem zY8 (n:Nat) (v:CV) (hn:200000000<n) (hb:v.w<=1677721):∃ d,zIv n v=some d/\(docV d).w<=20 * v.w+60/\∀ z,v=docV z->d=z:=by
 obtain⟨rs,r1,r2⟩:=zY9 n v hn (by omega)
 have s0:=zBj v.list 0 1 rfl;have s1:=zBj v.list 1 2 rfl;have s2:=zBj v.list 2 3 rfl;have s3:=zBj v.list 3 4 rfl;have hw:=CV.w_cw v;have w1:=CV.w_cw (zAW v.list 1)
 have w3:=CV.w_cw (zAW v.list 3)
 have hcl:CV.ws v.list<=v.cw :=(by unfold CV.cw; omega);have hc3:CV.ws (zAW v.list 3).list<=(zAW v.list 3).cw :=(by unfold CV.cw; omega);have ht0:(zAW v.list 0).text.length<=(zAW v.list 0).cw :=(by unfold CV.cw; omega);rw[List.drop_zero]at s0;obtain⟨ts,t1,t2⟩:=zMR n (zET [zAW v.list 1]) 0 (by rw[list_w]; simp only[CV.ws]; omega) (by rw[list_w]; simp only[CV.ws]; omega)
 rw[show((0:Nat):Int)=0 from rfl]at t1;rw[List.drop_zero]at t2;have hl:=t2.len;obtain⟨t,rfl⟩:∃ t,ts=[t]:=by
  match ts,hl with
  | [t],_=>exact⟨t,rfl⟩
 have p0:=zCY v 0;have p1:=zCY v 1;have p2:=zCY v 2;rw[show((0:Nat):Int)=0 from rfl]at p0;rw[show((1:Nat):Int)=1 from rfl]at p1;rw[show((2:Nat):Int)=2 from rfl]at p2;refine⟨((zAW v.list 0).text,t,rs,(zAW v.list 2).int),?_,?_,fun z hz=>?_⟩
 ·clear s0 s1 s2 s3 hw w1 w3 hcl hc3 ht0 t2 r2 hl
  generalize zAW v.list 0=y0 at *;generalize zAW v.list 1=y1 at *;generalize zAW v.list 2=y2 at *;obtain⟨v1,v2,v3,v4⟩:=v;have r3:=r1 _ _ _ _ rfl;obtain⟨a1,a2,a3,a4⟩:=y0;obtain⟨b1,b2,b3,b4⟩:=y1;obtain⟨c1,c2,c3,c4⟩:=y2;obtain⟨q1,q2,q3,q4⟩:=t;have g0:at? [Nd.mk q1 q2 q3 q4] 0=some (Nd.mk q1 q2 q3 q4):=rfl;unfold zET at t1;unfold zIv;simp only[p0,p1,p2,zBq,t1,g0,r3,obs,CV.text,CV.int]
 ·have rw_:=r2.w;have tw:CV.ws ([t].map zHv)<=20 * CV.ws [zAW v.list 1]:=t2.w;simp only[List.map_cons,List.map_nil,CV.ws]at tw;rw[docV,list_w]
  simp only[CV.ws,list_w,zP2,zNw]
  omega
 ·obtain⟨z0,z1,z2,z3⟩:=z;rw[docV]at hz;dsimp only at hz;have e2:=r2.go z2 (by rw[hz]; rfl)
  have e1:=t2.go [z1] (by rw[hz]; rfl)
  injection e1 with e1 _
  rw[e1,e2,hz]
  rfl
theorem zUa (n:Nat) (hn:200000000<n){ops:List Op8} (hl:ops.length<=10000000) (ho:∀ o∈ops,opw o<=1900000/\o.row.length<=2000000):∀ (k i:Nat) (t:Nd),ops.length - i<k->i<=ops.length->t.w+sw (ops.drop i)<=40000000 ->
  ∃ f,zB7 n ops k t.kind t.text t.cols t.kids (i:Int)=some f/\Runs t (ops.drop i) (endOf f).1 (endOf f).2.2
 | 0,i,t,h,_,_=>by omega
 | k+1,i,t,h,hi,hw=>by
  unfold zB7
  by_cases hj:i<ops.length
  ·have hd:=List.drop_eq_getElem_cons hj;have hs:=ho _ (List.getElem_mem hj)
   rw[hd]at hw;simp only[sw]at hw;unfold opw at hw hs;obtain⟨t',e,g1,g3⟩:=zT9 n t ops[i] hn (by omega) (by omega) (by have:=hs.1; simp only[Op8.text]at this; omega) (by have:=hs.2; simp only[Op8.row]at this; omega)
   have hw':=g3.w;rw[zAJ (Int.ofNat_lt.2 hj),zAC hj,hd]
   simp only[cond_true]
   generalize ops[i]=o at *;obtain⟨q1,q2,q3,q4,q5,q6,q7,q8⟩:=o;obtain⟨t1,t2,t3,t4⟩:=t;have ih:=zUa n hn hl ho k (i+1) t' (by omega) (by omega) (by simp only[Op8.text]at hw; dsimp only at hw' hw; omega)
   obtain⟨u1,u2,u3,u4⟩:=t';simp only[Nd.kind,Nd.text,Nd.cols,Nd.kids]at ih ⊢;simp only[obs,g1]
   by_cases he:e=0
   ·subst he;simp only[show((0:Int) != 0)=false from rfl,cond_false,zAN (show i<9223372036854775807 by omega)]
    obtain⟨f,h1,h3⟩:=ih;exact⟨f,h1,.next g3 h3⟩
   ·have hne:(e != 0)=true:=bne_iff_ne.2 he;simp only[hne,cond_true]
    exact⟨_,rfl,.stop g3 he⟩
  ·rw[zAD (by omega),List.drop_eq_nil_iff.2 (by omega)]
   obtain⟨t1,t2,t3,t4⟩:=t;simp only[cond_false]
   exact⟨_,rfl,.nil _⟩
theorem zZ6 (n:Nat) (t:Nd) (ops:List Op8) (hn:200000000<n) (hv:zAF t=true) (hw:sw ops<=20000000) (ho:∀ o∈ops,opw o<=1900000/\o.row.length<=2000000) :
  ∃ u i e,zD4 n t ops=some (u,i,e)/\Runs t ops u e:=by
 have vw:=zSx hv;have sl:=zWh ops;have v2:=zFn n t (by omega) (by omega)
 rw[hv]at v2;obtain⟨f,h1,h3⟩:=zUa n hn (ops:=ops) (by omega) ho n 0 t (by omega) (by omega) (by rw[List.drop_zero]; omega)
 rw[show((0:Nat):Int)=0 from rfl]at h1;rw[List.drop_zero]at h3;obtain⟨t1,t2,t3,t4⟩:=t;simp only[Nd.kind,Nd.text,Nd.cols,Nd.kids]at h1;unfold zD4;simp only[v2,obs,h1,Bool.not_true,cond_false]
 cases f with
 | ret r =>
  obtain⟨u,i,e⟩:=r;exact⟨u,i,e,rfl,h3⟩
 | go g =>
  obtain⟨a,b,c,d⟩:=g;exact⟨_,0,0,rfl,h3⟩
mutual
theorem zRP:∀ t:Nd,t.w+6<=(zHv t).w
 | .mk k t c ks=>by
  have:=zRQ ks
  rw[zHv,list_w]
  simp only[CV.ws,zP2,zNw,Nd.w]
  omega
theorem zRQ:∀ l:List Nd,Nd.ws l<=CV.ws (zMl l)
 | []=>Nat.zero_le _
 | v::vs=>by
  have h1:=zRP v
  have h2:=zRQ vs
  rw[zMl]
  simp only[CV.ws,Nd.ws]
  omega
end
theorem zXU (o:Op8):zOV o+10<=(opV o).w:=by
 have h1:=zRQ o.2.2.2.2.1;rw[opV,list_w]
 unfold zOV;simp only[CV.ws,zP2,zNw,zMC,list_w,zV5,Op8.nodes,Op8.text,Op8.row]
 omega
theorem zYo:∀ l:List Op8,sw l<=CV.ws (l.map opV)/\sw (l.map invO)<=CV.ws (l.map opV)
 | []=>⟨Nat.zero_le _,Nat.zero_le _⟩
 | o::l=>by
  have h1:=zXU o;have h2:=zV7 o;have h3:=zV6 o;obtain⟨h4,h5⟩:=zYo l;simp only[List.map_cons,sw,CV.ws]
  exact⟨by omega,by omega⟩
theorem zRM {α:Type}{f:α->CV}{l:List α}{x:α} (h:x∈l):(f x).w<CV.ws (l.map f):=CV.w_mem (List.mem_map_of_mem h)
theorem zVX {α:Type}{f:α->CV} (l:List α):l.length<=CV.ws (l.map f):=by
 have:=CV.ws_len (l.map f)
 rwa [List.length_map]at this
theorem zVp (n:Nat) (hn:200000000<n){r:Rc} (h:(recV r).w<=1000000):RGo n r/\RBul r:=by
 have hs:=zYo r.1;have hl:=zVX (f:=opV) r.1;rw[recV,list_w]at h;simp only[CV.ws,list_w,zZL]at h;have ho:∀ o∈r.1,zOV o+10<=1000000:=fun o ho=>by
  have h1:=zRM (f:=opV) ho;have h2:=zXU o
  omega
 have os:OSmall r.1:=⟨by omega,fun o hh=>by have:=ho o hh; have:=zV7 o; omega,by omega,fun o hh=>by have:=ho o hh; have:=zV6 o; omega,fun o hh=>by have:=ho o hh; unfold zOV at this; omega⟩
 refine⟨⟨⟨os,by omega,by omega,by omega,by omega⟩,fun {t} hv=>zZ6 n t r.1 hn hv os.size fun o hh=>⟨os.op o hh,by have:=ho o hh; unfold zOV at this; omega⟩⟩,⟨by omega,fun o hh=>by have:=ho o hh; omega,by omega,by omega,by omega,by omega⟩⟩
theorem zXz (n:Nat) (hn:200000000<n){d:Dc} (h:(docV d).w<=1000000) (hl:d.2.2.1.length<=1000):DGo n d/\DBul d:=by
 have h1:=zRP d.2.1;rw[docV,list_w]at h;simp only[CV.ws,list_w,zP2,zNw]at h;have hr:∀ r∈d.2.2.1,(recV r).w<=1000000:=fun r hr=>by
  have:=zRM (f:=recV) hr
  omega
 exact⟨⟨hl,fun r hh=>(zVp n hn (hr r hh)).1⟩,⟨by omega,by omega,by omega,fun r hh=>(zVp n hn (hr r hh)).2⟩⟩
theorem zUU {d:Dc} (h:(docV d).w<=1000000):DBul d:=by
 have h1:=zRP d.2.1;have hl:=zVX (f:=recV) d.2.2.1;rw[docV,list_w]at h;simp only[CV.ws,list_w,zP2,zNw]at h;exact⟨by omega,by omega,by omega,fun r hh=>(zVp 200000001 (by omega) (by have:=zRM (f:=recV) hh; omega)).2⟩
theorem zY4 (r:Rc):15<=(recV r).w:=by
 rw[recV,list_w]
 simp only[CV.ws,list_w,zZL]
 omega
theorem zUd:∀ l:List Rc,16 * l.length<=CV.ws (l.map recV)
 | []=>Nat.zero_le _
 | r::l=>by
  have h1:=zY4 r;have h2:=zUd l;simp only[List.map_cons,CV.ws,List.length_cons]
  omega
theorem zVL (d:Dc) (h:(docV d).w<=16000):d.2.2.1.length<=1000:=by
 have h2:=zUd d.2.2.1;rw[docV,list_w]at h;simp only[CV.ws,list_w,zP2,zNw]at h
 omega
theorem zZA (n:Nat) (hn:200000000<n){r:Rc} (h:zVC r):zIu n r r=some true:=by
 have hl:=h.ops.len;have h1:=zNv n (ops:=r.1) (fun o ho=>by
  have h1:=h.ops.cnt o ho;have h2:=h.ops.row o ho;exact zYk n o (by omega) (by omega) (by omega) (by omega)) (by omega) n 0 (by omega) (Nat.zero_le _)
 rw[show((0:Nat):Int)=0 from rfl]at h1;have c1:=zLS n r.2.1 h.b1 h.b2 hn;have c2:=zLS n r.2.2 h.a1 h.a2 hn;obtain⟨r1,⟨r2,r3⟩,⟨r4,r5⟩⟩:=r;dsimp only at h1 c1 c2;unfold zIu zGH;simp only[bne_self_eq_false,cond_false,h1,c1,c2,obs,cond_true]
theorem zNu (n:Nat) (hn:200000000<n){rs:List Rc} (hf:∀ r∈rs,zVC r) (hl:rs.length<=1000):∀ (k i:Nat),rs.length - i<k->zBw n rs rs k (i:Int)=some (.go ())
 | 0,i,h=>by omega
 | k+1,i,h=>by
  unfold zBw
  by_cases hj:i<rs.length
  ·have h1:=zZA n hn (hf _ (List.getElem_mem hj))
   have ha:=zAC hj;have ih:=zNu n hn hf hl k (i+1) (by omega)
   generalize rs[i]=r at h1 ha;obtain⟨r1,⟨r2,r3⟩,⟨r4,r5⟩⟩:=r;rw[zAJ (Int.ofNat_lt.2 hj),cond_true]
   simp only[ha,obs,h1,Bool.not_true,cond_false]
   rw[zAN (by omega)]
   exact ih
  ·rw[zAD (by omega)]
   rfl
theorem zXg (n:Nat) (hn:200000000<n){d:Dc} (ht:d.2.1.cnt<=1000000) (hf:∀ r∈d.2.2.1,zVC r) (hl:d.2.2.1.length<=1000):zFl n d d=some true:=by
 have q:=zWH n d.2.1 (by omega) (by omega)
 have lp:=zNu n hn hf hl n 0 (by omega)
 rw[show((0:Nat):Int)=0 from rfl]at lp;obtain⟨ti,⟨q1,q2,q3,q4⟩,rs,dn⟩:=d;dsimp only at q lp;unfold zFl zEG;simp only[beq_self_eq_true,cond_true,q,obs,bne_self_eq_false,cond_false,lp]
def zDc:Dc:=([],.mk 0 [] 0 [],[],0)
theorem zXh (n:Nat) (hn:200000000<n):zFl n zDc zDc=some true:=zXg n hn (d:=zDc) (by simp[zDc,Nd.cnt,Nd.cnts]) (fun r hr=>by cases hr) (by simp[zDc])
theorem yAi (z:Int):0<=IntKind.u64.wrap z/\IntKind.u64.wrap z<18446744073709551616:=by
 have e:IntKind.u64.wrap z=z % 18446744073709551616:=by
  simp only[IntKind.wrap,IntKind.bits,IntKind.signed]
  simp
 rw[e]
 omega
theorem zXy {b:List UInt8} (hb:b.length<=1073741824):∀ (k i:Nat) (h y:Int),0<=h/\h<18446744073709551616->zAX b k h (i:Int)=some y->0<=y/\y<18446744073709551616
 | 0,i,h,y,_,he=>by cases he
 | k+1,i,h,y,hr,he=>by
  unfold zAX at he
  by_cases hj:i<b.length
  ·rw[zAJ (Int.ofNat_lt.2 hj),cond_true,zAC hj]at he;simp only[obs,zAN (show i<9223372036854775807 by omega)]at he;exact zXy hb k (i+1) _ y (yAi _) he
  ·rw[zAD (by omega),cond_false]at he;cases he;exact hr
theorem zYH (n:Nat) (b:List UInt8) (hn:b.length<n) (hb:b.length<=1073741824):∃ Y:Nat,Y<18446744073709551616/\zBK n b=some (Y:Int)/\zE6 n b=some (Y:Int):=by
 obtain⟨y,h1,h2⟩:=yAz n b hn hb;have hr:0<=y/\y<18446744073709551616:=by
  have h3:=h1;unfold zBK zCf at h3;have hc:(0:Int)<=14695981039346656037/\(14695981039346656037:Int)<18446744073709551616 :=(by decide);generalize (14695981039346656037:Int)=h0 at h3 hc;cases h4:zAX b n h0 0 with
  | none =>
   simp only[h4,Option.bind_none]at h3;cases h3
  | some z =>
   simp only[h4,obs,Option.some.injEq]at h3;subst h3;exact zXy hb n 0 h0 z hc h4
 obtain⟨Y,rfl⟩:∃ Y:Nat,y=(Y:Int):=⟨y.toNat,by omega⟩
 exact⟨Y,by omega,h1,h2⟩
theorem zWG (Y:Nat):zVM (Y:Int)=beK 8 Y:=by
 have e:∀ i,i<=64->b8of (IntKind.u8.wrap ((Y:Int).fdiv (2 ^ (min ((i:Nat):Int).toNat IntKind.u64.bits))))=UInt8.ofNat (Y / 2 ^ i):=fun i h=>by rw[zSr Y i h,zYA]
 have e7:b8of (IntKind.u8.wrap ((Y:Int).fdiv (2 ^ 56)))=dig 7 Y:=e 56 (by omega)
 have e6:b8of (IntKind.u8.wrap ((Y:Int).fdiv (2 ^ 48)))=dig 6 Y:=e 48 (by omega)
 have e5:b8of (IntKind.u8.wrap ((Y:Int).fdiv (2 ^ 40)))=dig 5 Y:=e 40 (by omega)
 have e4:b8of (IntKind.u8.wrap ((Y:Int).fdiv (2 ^ 32)))=dig 4 Y:=e 32 (by omega)
 have e3:b8of (IntKind.u8.wrap ((Y:Int).fdiv (2 ^ 24)))=dig 3 Y:=e 24 (by omega)
 have e2:b8of (IntKind.u8.wrap ((Y:Int).fdiv (2 ^ 16)))=dig 2 Y:=e 16 (by omega)
 have e1:b8of (IntKind.u8.wrap ((Y:Int).fdiv (2 ^ 8)))=dig 1 Y:=e 8 (by omega)
 have e0:b8of (IntKind.u8.wrap ((Y:Int).fdiv (2 ^ 0)))=dig 0 Y:=e 0 (by omega)
 unfold zVM;rw[e7,e6,e5,e4,e3,e2,e1,e0]
 rfl
theorem zXE {b q:List UInt8} (hq:((b.take (12:Int).toNat).drop (4:Int).toNat)=q) (h8:q.length=8):∀ (r:List UInt8) (i k x:Nat),q.drop i=r->r.length<k->x<256 ^ i->zCa b k (i:Int) (x:Int)=some ((valA x r:Nat):Int)
 | _,_,0,_,_,h,_=>by omega
 | [],i,k+1,x,h,_,_=>by
  have h1:=List.drop_eq_nil_iff.1 h;rw[zCa,hq,zAD (by omega)]; rfl
 | c::r,i,k+1,x,h,hk,hx=>by
  have hi:=zMy h;have h7:i<=7 :=(by omega);have hp:(256:Nat) ^ i<=256 ^ 7:=Nat.pow_le_pow_right (by omega) h7;have hc:=c.toNat_lt;have hx':x<72057594037927936 :=(by simp at hp; omega);rw[zCa,hq,zAJ (by omega),cond_true,zOx h]
  simp only[obs]
  rw[zZw hx' c,zAN (by omega),zXE hq h8 r (i+1) k _ (zOF h) (by simpa using hk) (by rw[Nat.pow_succ]; omega)]
  rfl
theorem zX0 (b:List UInt8) (h:12<=b.length):zCS ((b.take (12:Int).toNat).drop (0:Int).toNat) [86,67,76,49]=some (b.take 4 == [86,67,76,49]):=by
 have e1:((b.take (12:Int).toNat).drop (0:Int).toNat)=b.take 12:=rfl;have e2:(b.take 12).length=12 :=(by rw[List.length_take]; omega);have e3:(((b.take 12).take (4:Int).toNat).drop (0:Int).toNat)=b.take 4:=by
  show(b.take 12).take 4=b.take 4;rw[List.take_take]
  rfl
 rw[e1]
 unfold zCS zCD;have e4:(([86,67,76,49]:List UInt8).length:Int)=4:=rfl;simp only[e2,e4,zAJ (show(4:Int)<=((12:Nat):Int) by omega),cond_true]
 rw[zA2 ⟨by omega,by omega,by omega⟩,e3]
 rfl
mutual
theorem CV.eqv_eq:∀ (v u:CV),v.eqv u=true->v=u
 | .mk k n t vs,.mk k' n' t' vs',h=>by
  simp only[CV.eqv,Bool.and_eq_true,beq_iff_eq]at h
  obtain⟨⟨⟨rfl,rfl⟩,rfl⟩,h4⟩:=h
  rw[CV.eqvs_eq vs vs' h4]
theorem CV.eqvs_eq:∀ (vs us:List CV),CV.eqvs vs us=true->vs=us
 | [],[],_=>rfl
 | [],_::_,h=>by simp[CV.eqvs]at h
 | _::_,[],h=>by simp[CV.eqvs]at h
 | v::vs,u::us,h=>by
  simp only[CV.eqvs,Bool.and_eq_true]at h
  rw[CV.eqv_eq v u h.1,CV.eqvs_eq vs us h.2]
end
structure LOk (n:Nat) (b:List UInt8) (d:Dc):Prop where
 valid:zDD n d=some true
 low:(docV d).w<=6100
 rng:(docV d).rng
 magic:b.take 4=[86,67,76,49]
 sum:∃ Y:Nat,Y<18446744073709551616/\zBK n (b.drop 12)=some (Y:Int)/\(b.take 12).drop 4=beK 8 Y
 rest:b.drop 12=(docV d).code
theorem LOk.alike {n:Nat}{b:List UInt8}{d:Dc} (hn:200000000<n) (h:LOk n b d):zFl n d d=some true:=by
 have hl:=zVL d (by have:=h.low; omega)
 obtain⟨g1,g2⟩:=zXz n hn (d:=d) (by have:=h.low; omega) hl;have hc:=Nd.cnt_w d.2.1;have ht:d.2.1.w<=6100:=by
  have h1:=zRP d.2.1;have h2:=h.low;rw[docV,list_w]at h2;simp only[CV.ws]at h2
  omega
 refine zXg n hn (by omega) (fun r hr=>(g1.recs r hr).small) hl
theorem zXb (n:Nat) (hn:200000000<n) (b:List UInt8) (hb:b.length<=3000):∃ d e,zCN n b=some (d,e)/\zDz n b=some (d,e)/\((e ≠ 0/\d=zDc)∨(e=0/\LOk n b d)):=by
 by_cases h12:b.length<12
 ·refine⟨zDc,4,?_,?_,.inl ⟨by decide,rfl⟩⟩
  ·unfold zCN;simp only[zAJ (show(b.length:Int)<12 by omega),cond_true,obs]
   rfl
  ·unfold zDz;simp only[zAJ (show(b.length:Int)<12 by omega),cond_true,obs]
   rfl
 have hpre:=zX0 b (by omega)
 have er:((b.take (b.length:Int).toNat).drop (12:Int).toNat)=b.drop 12 :=(by rw[Int.toNat_natCast,List.take_length]; rfl);have eq4:((b.take (4:Int).toNat).drop (0:Int).toNat)=b.take 4:=rfl;have r1:0<=(0:Int)/\(0:Int)<=(12:Int)/\(12:Int)<=(b.length:Int):=⟨by omega,by omega,by omega⟩
 have r2:0<=(4:Int)/\(4:Int)<=(12:Int)/\(12:Int)<=(b.length:Int):=⟨by omega,by omega,by omega⟩
 have r3:0<=(12:Int)/\(12:Int)<=(b.length:Int)/\(b.length:Int)<=(b.length:Int):=⟨by omega,by omega,by omega⟩
 have r4:0<=(0:Int)/\(0:Int)<=(4:Int)/\(4:Int)<=(b.length:Int):=⟨by omega,by omega,by omega⟩
 cases hm:(b.take 4 == [86,67,76,49]) with
 | false =>
  rw[hm]at hpre;refine⟨zDc,4,?_,?_,.inl ⟨by decide,rfl⟩⟩
  ·unfold zCN;simp only[zAD (show ¬ (b.length:Int)<12 by omega),cond_false,zA2 r1,hpre,obs,Bool.not_false,cond_true]
   rfl
  ·unfold zDz;simp only[zAD (show ¬ (b.length:Int)<12 by omega),cond_false,zA2 r4,eq4,hm,obs,Bool.not_false,cond_true]
   rfl
 | true =>
  rw[hm]at hpre;have hml:(b.drop 12).length=b.length - 12:=List.length_drop;obtain⟨Y,y1,y2,y3⟩:=zYH n (b.drop 12) (by omega) (by omega)
  generalize hq:(b.take (12:Int).toNat).drop (4:Int).toNat=q;have hq8:q.length=8:=by
   rw[← hq]
   show((b.take 12).drop 4).length=8;rw[List.length_drop,List.length_take]
   omega
  have hfold:zCa b n 0 0=some ((valA 0 q:Nat):Int):=zXE hq hq8 q 0 n 0 rfl (by omega) (by decide)
  have h8:zHl n (Y:Int)=some (beK 8 Y):=by
   unfold zHl;simp only[zZP (Y:Int) n (by omega),obs,zWG]
  have hsum:((valA 0 q:Nat):Int)=(Y:Int)↔beK 8 Y=q:=by
   constructor
   ·intro h;have h1:=zVz q;rw[hq8]at h1;rw[← h1]
    congr 1
    omega
   ·intro h;rw[← h,zXm 8 Y (by simpa using y1)]
  by_cases hs:beK 8 Y=q
  ·have hf:(((valA 0 q:Nat):Int) != (Y:Int))=false :=(by rw[hsum.2 hs]; simp);have hf2:(beK 8 Y == q)=true :=(by rw[hs]; simp);have dP:=zLW (n:=n) (b:=b.drop 12) (by omega)
   have dR:=zNG (n:=n) (b:=b.drop 12) (by omega) (by omega)
   have hdec:∃ v e,dec (b.drop 12)=(v,e)/\(e ≠ 0∨(e=0/\b.drop 12=v.code/\v.proper=true/\v.rng/\v.w<=6000)):=by
    unfold dec;rw[if_neg (by omega)]
    cases hx:rd 64 (b.drop 12) with
    | none=>exact⟨_,_,rfl,.inl (by decide)⟩
    | some p =>
     obtain⟨v,r⟩:=p;cases r with
     | cons c r=>exact⟨_,_,rfl,.inl (by decide)⟩
     | nil =>
      have g:=zPl 3000 (by omega) 64 _ v [] (by omega) hx;have ge:=g.eq;rw[List.append_nil]at ge;have gw:=g.w;have gl:=congrArg List.length ge;exact⟨v,0,rfl,.inr ⟨rfl,ge,g.proper,g.rng,by omega⟩⟩
   obtain⟨v,ev,e1,hv⟩:=hdec;rw[e1]at dP dR;rcases hv with hv | ⟨rfl,v1,v2,v3,v4⟩
   ·have hne:(ev != 0)=true:=bne_iff_ne.2 hv;refine⟨zDc,4,?_,?_,.inl ⟨by decide,rfl⟩⟩
    ·obtain⟨a1,a2,a3,a4⟩:=v;unfold zCN;simp only[zAD (show ¬ (b.length:Int)<12 by omega),cond_false,zA2 r1,hpre,obs,Bool.not_true,cond_true,zA2 r2,hfold,zA2 r3,er,y2,hf,dP,hne]
     rfl
    ·obtain⟨a1,a2,a3,a4⟩:=v;unfold zDz;simp only[zAD (show ¬ (b.length:Int)<12 by omega),cond_false,zA2 r4,eq4,hm,obs,Bool.not_true,cond_true,zA2 r2,zA2 r3,er,y3,h8,hq,hf2,dR,hne]
     rfl
   ·obtain⟨d,e',p1,p2⟩:=zUc n 0 v hn (by omega)
    obtain⟨d0,q1,q2,q3⟩:=zY8 n v hn (by omega)
    have qb:=zUU (d:=d0) (by omega)
    have qv:=zZ9 n d0 hn qb;have qe:=zJu n (docV d0) v (by omega) (by omega)
    by_cases he:e'=0
    ·subst he;have hvd:=p2.ok rfl v2;have hd0:=q3 d hvd;subst hd0;rw[← hvd,CV.eqv_self]at qe;rw[← hvd]at qv;have hrec:=zVL d0 (by rw[← hvd]; omega)
     obtain⟨l1,l2⟩:=zXz n hn (d:=d0) (by rw[← hvd]; omega) hrec;have hval:∃ bb,zDD n d0=some bb/\zE9 n d0=some bb:=by
      rcases zW9 n hn l2 l1 with ⟨k1,k2⟩ | ⟨k1,_,_,_,_,_,_,k2⟩
      ·exact⟨false,zSz n (k2 0),k1⟩
      ·obtain⟨z,k3,_⟩:=k2 0;exact⟨true,zSz n k3,k1⟩
     obtain⟨bb,w1,w2⟩:=hval;have gP:zCN n b=some (bif bb then (d0,0) else (zDc,7)):=by
      clear qe qv q2 q3 p2 l1 l2 hvd v1 v2 v3 v4 qb
      obtain⟨a1,a2,a3,a4⟩:=v;obtain⟨ti,⟨t1,t2,t3,t4⟩,rs,dn⟩:=d0;unfold zCN;simp only[zAD (show ¬ (b.length:Int)<12 by omega),cond_false,zA2 r1,hpre,obs,Bool.not_true,cond_true,zA2 r2,hfold,zA2 r3,er,y2,hf,dP,show((0:Int) != 0)=false from rfl,p1,w1]
      cases bb <;> rfl
     have gR:zDz n b=some (bif bb then (d0,0) else (zDc,7)):=by
      clear q2 q3 p2 l1 l2 hvd v1 v2 v3 v4 qb
      obtain⟨a1,a2,a3,a4⟩:=v;obtain⟨ti,⟨t1,t2,t3,t4⟩,rs,dn⟩:=d0;unfold zDz;simp only[zAD (show ¬ (b.length:Int)<12 by omega),cond_false,zA2 r4,eq4,hm,obs,Bool.not_true,cond_true,zA2 r2,zA2 r3,er,y3,h8,hq,hf2,dR,show((0:Int) != 0)=false from rfl,q1,qv,qe,w2]
      cases bb <;> rfl
     cases bb with
     | false=>exact⟨_,_,gP,gR,.inl ⟨by decide,rfl⟩⟩
     | true=>exact⟨_,_,gP,gR,.inr ⟨rfl,⟨w1,by rw[← hvd]; omega,by rw[← hvd]; exact v3,eq_of_beq hm,⟨Y,y1,y2,hq.trans hs.symm⟩,by rw[← hvd]; exact v1⟩⟩⟩
    ·have he4:e'=4:=(p2.rd.2 rfl).resolve_left he;subst he4;have hnot:(docV d0).eqv v=false:=by
      cases hx:(docV d0).eqv v with
      | false=>rfl
      | true =>
       have hv0:=CV.eqv_eq _ _ hx;exact absurd (p2.go rfl d0 hv0.symm).2 (by decide)
     rw[hnot]at qe;refine⟨zDc,4,?_,?_,.inl ⟨by decide,rfl⟩⟩
     ·clear qe qv q2 q3 p2 v1 v2 v3 v4 qb hnot
      obtain⟨a1,a2,a3,a4⟩:=v;obtain⟨ti,⟨t1,t2,t3,t4⟩,rs,dn⟩:=d;unfold zCN;simp only[zAD (show ¬ (b.length:Int)<12 by omega),cond_false,zA2 r1,hpre,obs,Bool.not_true,cond_true,zA2 r2,hfold,zA2 r3,er,y2,hf,dP,show((0:Int) != 0)=false from rfl,p1,show((4:Int) != 0)=true from rfl]
      rfl
     ·clear q2 q3 p2 v1 v2 v3 v4 qb hnot
      generalize docV d0=V at qv qe;obtain⟨a1,a2,a3,a4⟩:=v;obtain⟨c1,c2,c3,c4⟩:=V;obtain⟨ti,⟨t1,t2,t3,t4⟩,rs,dn⟩:=d0;unfold zDz;simp only[zAD (show ¬ (b.length:Int)<12 by omega),cond_false,zA2 r4,eq4,hm,obs,Bool.not_true,cond_true,zA2 r2,zA2 r3,er,y3,h8,hq,hf2,dR,show((0:Int) != 0)=false from rfl,q1,qv,qe,Bool.not_false]
      rfl
  ·have hf:(((valA 0 q:Nat):Int) != (Y:Int))=true:=bne_iff_ne.2 fun h=>hs (hsum.1 h)
   have hf2:(beK 8 Y == q)=false:=beq_eq_false_iff_ne.2 hs;refine⟨zDc,5,?_,?_,.inl ⟨by decide,rfl⟩⟩
   ·unfold zCN;simp only[zAD (show ¬ (b.length:Int)<12 by omega),cond_false,zA2 r1,hpre,obs,Bool.not_true,cond_true,zA2 r2,hfold,zA2 r3,er,y2,hf]
    rfl
   ·unfold zDz;simp only[zAD (show ¬ (b.length:Int)<12 by omega),cond_false,zA2 r4,eq4,hm,obs,Bool.not_true,cond_true,zA2 r2,zA2 r3,er,y3,h8,hq,hf2,Bool.not_false]
    rfl
theorem zUs (n:Nat) (hn:200000000<n) (hw:zFV n=some true) (b:List UInt8):zEX n b=some true:=by
 by_cases hl:3000<b.length
 ·unfold zEX;simp only[hw,obs,Bool.not_true,cond_false,zAJ (show(3000:Int)<(b.length:Int) by omega),cond_true]
 ·obtain⟨d,e,h1,h2,h3⟩:=zXb n hn b (by omega)
  have hs:zFl n d d=some true:=by
   rcases h3 with ⟨_,rfl⟩ | ⟨_,h⟩
   ·exact zXh n hn
   ·exact h.alike hn
  clear h3
  obtain⟨ti,⟨t1,t2,t3,t4⟩,rs,dn⟩:=d;unfold zEX;simp only[hw,obs,Bool.not_true,cond_false,zAD (show ¬ (3000:Int)<(b.length:Int) by omega),h1,h2,hs,beq_self_eq_true,cond_true]
theorem zWA (k:Nat):zFV (k+100)=some true:=by
 with_unfolding_all rfl
end Go.Proofs.YtgplhldfbkmmgaaGreat
