/-
  Joined out of: PPos, PDump, PNode, PRow, PWith, PWt, PLeast, PLeast2, PEdit1, PEdit2, PEdit3, PEdit4, PEdit5, PDif4, PEdit6, PEdit7, PHs2, PHs3, PHs4, PR10, PRun1, PRun2, PRun3, PRun4, PRun5, PRun6, PRun7, PHs5, PHs6, PHs8, PHs9, PHsA, PHsB, PHAwk, PTypS.
-/
import Derived.Lib.ItoaLen
import Derived.Test.YtffhjiplcfncdaaGreatZf
set_option linter.unusedVariables false
set_option linter.unusedSimpArgs false
set_option maxHeartbeats 2000000
set_option maxRecDepth 100000
namespace Go.Proofs.YtffhjiplcfncdaaGreat
open Go.Abs
mutual
def posI:List Int->Nat->List Nd->List (List Int)
 | p,i,[]=>[p++[(i:Int)]]
 | p,i,x::xs=>(p++[(i:Int)])::(posX p i x++posI p (i+1) xs)
def posX:List Int->Nat->Nd->List (List Int)
 | p,i,.mk _ _ _ ks=>posS p i 0 ks
def posS:List Int->Nat->Nat->List Nd->List (List Int)
 | _,_,_,[]=>[]
 | p,i,s,u::us=>posU (p++[(i:Int),(s:Int)]) u++posS p i (s+1) us
def posU:List Int->Nd->List (List Int)
 | p,.mk _ _ _ ks=>posI p 0 ks
end
def inL:List Nd->List Int->Prop
 | l,[o]=>0<=o/\o<=(l.length:Int)
 | l,i::s::r=>0<=i/\∃ x,l[i.toNat]? = some x/\0<=s/\∃ u,x.kids[s.toNat]? = some u/\inL u.kids r
 | _,[]=>False
theorem zPc {l:List Nd}{o:Int}:inL l [o]↔0<=o/\o<=(l.length:Int):=Iff.rfl
theorem zEO {l:List Nd}{i s:Int}{r:List Int}:inL l (i::s::r)↔0<=i/\∃ x,l[i.toNat]? = some x/\0<=s/\∃ u,x.kids[s.toNat]? = some u/\inL u.kids r:=by
 cases r <;> rfl
mutual
theorem zTs:∀ (p:List Int) (i:Nat) (xs:List Nd) (q:List Int),q∈posI p i xs↔∃ a r,q=p++a::r/\(i:Int)<=a/\inL xs ((a - i)::r)
 | p,i,[],q=>by
  rw[posI,List.mem_singleton]
  constructor
  ·rintro rfl
   exact⟨i,[],rfl,Int.le_refl _,by rw[Int.sub_self]; exact⟨Int.le_refl _,Int.le_refl _⟩⟩
  ·rintro⟨a,r,rfl,h1,h2⟩
   cases r with
   | nil =>
    have:=zPc.1 h2
    have e:a=i:=by simp at this; omega
    rw[e]
   | cons s r =>
    obtain⟨_,x,h,_⟩:=zEO.1 h2
    simp at h
 | p,i,x::xs,q=>by
  rw[posI,List.mem_cons,List.mem_append,zWN p i x q,zTs p (i+1) xs q]
  constructor
  ·rintro(rfl | ⟨s,r,rfl,h0,u,h1,h2⟩ | ⟨a,r,rfl,h1,h2⟩)
   ·exact⟨i,[],rfl,Int.le_refl _,by rw[Int.sub_self]; exact⟨Int.le_refl _,by simp; omega⟩⟩
   ·refine⟨i,s::r,by simp,Int.le_refl _,?_⟩
    rw[Int.sub_self]
    exact zEO.2 ⟨Int.le_refl _,x,rfl,h0,u,h1,h2⟩
   ·refine⟨a,r,rfl,by omega,?_⟩
    have e:a - (i:Int)=(a - ((i+1:Nat):Int))+1:=by omega
    rw[e]
    cases r with
    | nil =>
     have:=zPc.1 h2
     exact⟨by omega,by simp; omega⟩
    | cons s r =>
     obtain⟨g0,y,g1,g2⟩:=zEO.1 h2
     refine zEO.2 ⟨by omega,y,?_,g2⟩
     rw[show(a - ((i+1:Nat):Int)+1).toNat=(a - ((i+1:Nat):Int)).toNat+1 by omega]
     simpa using g1
  ·rintro⟨a,r,rfl,h1,h2⟩
   by_cases ha:a=i
   ·subst ha
    rw[Int.sub_self]at h2
    cases r with
    | nil=>exact .inl rfl
    | cons s r =>
     obtain⟨g0,y,g1,g2,u,g3,g4⟩:=zEO.1 h2
     obtain rfl:x=y:=by simpa using g1
     exact .inr (.inl ⟨s,r,by simp,g2,u,g3,g4⟩)
   ·refine .inr (.inr ⟨a,r,rfl,by omega,?_⟩)
    have e:a - (i:Int)=(a - ((i+1:Nat):Int))+1:=by omega
    rw[e]at h2
    cases r with
    | nil =>
     have:=zPc.1 h2
     exact⟨by omega,by simp at this; omega⟩
    | cons s r =>
     obtain⟨g0,y,g1,g2⟩:=zEO.1 h2
     refine zEO.2 ⟨by omega,y,?_,g2⟩
     rw[show(a - ((i+1:Nat):Int)+1).toNat=(a - ((i+1:Nat):Int)).toNat+1 by omega]at g1
     simpa using g1
theorem zWN:∀ (p:List Int) (i:Nat) (x:Nd) (q:List Int),q∈posX p i x↔∃ s r,q=p++[(i:Int)]++s::r/\0<=s/\∃ u,x.kids[s.toNat]? = some u/\inL u.kids r
 | p,i,.mk k t c ks,q=>by
  rw[posX,zTt p i 0 ks q]
  constructor
  ·rintro⟨s,r,h1,h2,u,h3,h4⟩
   exact⟨s,r,h1,by omega,u,by simpa [Nd.kids] using h3,h4⟩
  ·rintro⟨s,r,h1,h2,u,h3,h4⟩
   exact⟨s,r,h1,by omega,u,by simpa [Nd.kids] using h3,h4⟩
theorem zTt:∀ (p:List Int) (i s:Nat) (us:List Nd) (q:List Int),q∈posS p i s us↔∃ b r,q=p++[(i:Int)]++b::r/\(s:Int)<=b/\∃ u,us[(b - s).toNat]? = some u/\inL u.kids r
 | p,i,s,[],q=>by
  rw[posS]
  constructor
  ·intro h; cases h
  ·rintro⟨b,r,_,_,u,h,_⟩; simp at h
 | p,i,s,u::us,q=>by
  rw[posS,List.mem_append,zTu (p++[(i:Int),(s:Int)]) u q,zTt p i (s+1) us q]
  constructor
  ·rintro(⟨r,rfl,h⟩ | ⟨b,r,rfl,h1,v,h2,h3⟩)
   ·exact⟨s,r,by simp,Int.le_refl _,u,by rw[Int.sub_self]; rfl,h⟩
   ·refine⟨b,r,rfl,by omega,v,?_,h3⟩
    rw[show(b - (s:Int)).toNat=(b - ((s+1:Nat):Int)).toNat+1 by omega]
    simpa using h2
  ·rintro⟨b,r,rfl,h1,v,h2,h3⟩
   by_cases hb:b=s
   ·subst hb
    rw[Int.sub_self]at h2
    obtain rfl:u=v:=by simpa using h2
    exact .inl ⟨r,by simp,h3⟩
   ·refine .inr ⟨b,r,rfl,by omega,v,?_,h3⟩
    rw[show(b - (s:Int)).toNat=(b - ((s+1:Nat):Int)).toNat+1 by omega]at h2
    simpa using h2
theorem zTu:∀ (p:List Int) (u:Nd) (q:List Int),q∈posU p u↔∃ r,q=p++r/\inL u.kids r
 | p,.mk k t c ks,q=>by
  rw[posU,zTs p 0 ks q]
  constructor
  ·rintro⟨a,r,rfl,h1,h2⟩
   exact⟨a::r,rfl,by simpa [Nd.kids] using h2⟩
  ·rintro⟨r,rfl,h⟩
   cases r with
   | nil=>exact h.elim
   | cons a r =>
    refine⟨a,r,rfl,?_,by simpa [Nd.kids] using h⟩
    cases r with
    | nil=>exact(zPc.1 h).1
    | cons s r=>exact(zEO.1 h).1
end
def posT (t:Nd):List (List Int):=posU [] t
theorem zLL (t:Nd) (q:List Int):q∈posT t↔inL t.kids q:=by
 unfold posT;rw[zTu]
 constructor
 ·rintro⟨r,rfl,h⟩; exact h
 ·intro h; exact⟨q,rfl,h⟩
mutual
theorem zPI:∀ (p:List Int) (i:Nat) (xs:List Nd),(posI p i xs).length<=Nd.cnts xs+1
 | p,i,[]=>by rw[posI]; simp
 | p,i,x::xs=>by
  have h1:=zWY p i x
  have h2:=zPI p (i+1) xs
  rw[posI]
  simp only[List.length_cons,List.length_append,Nd.cnts]
  omega
theorem zWY:∀ (p:List Int) (i:Nat) (x:Nd),(posX p i x).length+1<=x.cnt
 | p,i,.mk k t c ks=>by
  have h:=zTA p i 0 ks
  rw[posX]
  simp only[Nd.cnt]
  omega
theorem zTA:∀ (p:List Int) (i s:Nat) (us:List Nd),(posS p i s us).length<=Nd.cnts us
 | p,i,s,[]=>by rw[posS]; simp
 | p,i,s,u::us=>by
  have h1:=zTB (p++[(i:Int),(s:Int)]) u
  have h2:=zTA p i (s+1) us
  rw[posS]
  simp only[List.length_append,Nd.cnts]
  omega
theorem zTB:∀ (p:List Int) (u:Nd),(posU p u).length<=u.cnt
 | p,.mk k t c ks=>by
  have h:=zPI p 0 ks
  rw[posU]
  simp only[Nd.cnt]
  omega
end
theorem zWX (t:Nd):(posT t).length<=t.cnt:=zTB [] t
theorem zVx:∀ (q:List Int) (l:List Nd),inL l q->q.length<=2 * Nd.deps l+1
 | [],_,h=>h.elim
 | [_],_,_=>by simp
 | i::s::r,l,h=>by
  obtain⟨_,x,h1,_,u,h2,h3⟩:=zEO.1 h;have ih:=zVx r u.kids h3;have d1:=zH3 (List.mem_of_getElem? h1)
  have d2:=zH3 (List.mem_of_getElem? h2)
  have e1:x.dep=Nd.deps x.kids+1 :=(by cases x; rfl);have e2:u.dep=Nd.deps u.kids+1 :=(by cases u; rfl);simp only[List.length_cons]
  omega
def hd (l:List UInt8) (s:List UInt8):Prop:=∀ b r,l=b::r->b∈s
theorem zOh {F:Nd->Nd->Option Bool}{a b:List Nd} (hF:∀ u∈a,∀ v∈b,∃ y,F u v=some y/\(y=true↔u=v)) (hl:a.length=b.length) (hb:a.length<=1073741824) :
  ∀ (q i:Nat),a.length - i<q->i<=a.length->∃ y,zAL F a b q (i:Int)=some (if y then .go () else .ret false)/\(y=true↔a.drop i=b.drop i)
 | 0,_,h,_=>by omega
 | q+1,i,hq,hi=>by
  unfold zAL
  by_cases h:i<a.length
  ·have h':i<b.length :=(by omega);rw[zAF (Int.ofNat_lt.2 h),cond_true,zAJ h,zAJ h']
   obtain⟨y,f1,f2⟩:=hF _ (List.getElem_mem h) _ (List.getElem_mem h')
   have d1:=List.drop_eq_getElem_cons h;have d2:=List.drop_eq_getElem_cons h';rcases e:a[i] with ⟨x1,x2,x3,x4⟩
   rcases e':b[i] with ⟨y1,y2,y3,y4⟩
   rw[e,e']at f1 f2;rw[e]at d1;rw[e']at d2;simp only[obs,f1]
   cases y with
   | false =>
    refine⟨false,rfl,⟨(fun h=>by cases h),fun h=>?_⟩⟩
    rw[d1,d2]at h;exact f2.2 (List.cons.inj h).1
   | true =>
    simp only[Bool.not_true,cond_false]
    rw[zAH (by omega)]
    obtain⟨z,g1,g2⟩:=zOh hF hl hb q (i+1) (by omega) (by omega)
    refine⟨z,g1,?_⟩
    rw[d1,d2,g2,f2.1 rfl]
    simp
  ·rw[zAD (by omega),cond_false]
   obtain rfl:i=a.length :=(by omega);refine⟨true,rfl,?_⟩
   rw[List.drop_length,hl,List.drop_length]
   simp
theorem zHu:∀ N:Nat,(∀ x y:Nd,2 * x.cnt<N->x.cnt<=67108864->∃ r,zB2 N x y=some r/\(r=true↔x=y)) /\
  (∀ a b:List Nd,2 * Nd.cnts a+1<N->Nd.cnts a<=67108864->∃ r,zA0 N a b=some r/\(r=true↔a=b))
 | 0=>⟨fun _ _ h _=>by omega,fun _ _ h _=>by omega⟩
 | n+1=>by
  obtain⟨ih1,ih2⟩:=zHu n;refine⟨fun x y h hx=>?_,fun a b h ha=>?_⟩
  ·obtain⟨a,b,c,d⟩:=x;obtain⟨a',b',c',d'⟩:=y;simp only[Nd.cnt]at h hx;obtain⟨r,h1,h2⟩:=ih2 d d' (by omega) (by omega)
   unfold zB2;simp only[h1,obs]
   cases e1:a == a' with
   | false=>exact⟨false,rfl,⟨(fun h=>by cases h),fun h=>by cases h; simp at e1⟩⟩
   | true =>
    cases e2:b == b' with
    | false=>exact⟨false,rfl,⟨(fun h=>by cases h),fun h=>by cases h; simp at e2⟩⟩
    | true =>
     cases e3:c == c' with
     | false=>exact⟨false,rfl,⟨(fun h=>by cases h),fun h=>by cases h; simp at e3⟩⟩
     | true =>
      refine⟨r,rfl,h2.trans ⟨fun h=>?_,fun h=>by cases h; rfl⟩⟩
      rw[eq_of_beq e1,eq_of_beq e2,eq_of_beq e3,h]
  ·unfold zA0;have l1:=Nd.cnts_len a
   by_cases hl:a.length=b.length
   ·obtain⟨y,g1,g2⟩:=zOh (F:=zB2 n) (a:=a) (b:=b) (fun u hu v _=>ih1 u v (by have:=Nd.cnts_mem hu; omega) (by have:=Nd.cnts_mem hu; omega)) hl (by omega) n 0 (by omega) (by omega)
    rw[show((0:Nat):Int)=0 from rfl]at g1;rw[hl,bne_self_eq_false,cond_false,g1]
    refine⟨y,by cases y <;> rfl,g2⟩
   ·have:((a.length:Int) != (b.length:Int))=true:=by
     unfold bne;rw[zBM (by omega)]; rfl
    rw[this]
    exact⟨false,rfl,⟨(fun h=>by cases h),fun h=>absurd (congrArg List.length h) hl⟩⟩
theorem zLc {n:Nd}{i s:Int}{p:List Int} (h:¬ (0<=i/\i<n.kids.length)):zBt n (i::s::p)=none:=by rw[zBt,if_neg h]
theorem zLd {n x:Nd}{i:Nat}{s:Int}{p:List Int} (hx:n.kids[i]? = some x) (h:¬ (0<=s/\s<x.kids.length)):zBt n ((i:Int)::s::p)=none:=by
 have hl:=(List.getElem?_eq_some_iff.1 hx).1;rw[zBt,if_pos ⟨by omega,by omega⟩]
 simp only[List.getD_eq_getElem?_getD,Int.toNat_natCast,hx,Option.getD_some]
 rw[if_neg h]
theorem zMr {n x z:Nd}{i s:Nat}{p:List Int} (hx:n.kids[i]? = some x) (hz:x.kids[s]? = some z):zBt n ((i:Int)::(s:Int)::p)=zBt z p:=by
 have hl:=(List.getElem?_eq_some_iff.1 hx).1;have hl2:=(List.getElem?_eq_some_iff.1 hz).1;rw[zBt,if_pos ⟨by omega,by omega⟩]
 simp only[List.getD_eq_getElem?_getD,Int.toNat_natCast,hx,hz,Option.getD_some]
 rw[if_pos ⟨by omega,by omega⟩]
theorem zSb {α:Type}{l:List α}{i:Int} (h0:0<=i) (h1:i<(l.length:Int)):∃ p:Nat,i=(p:Int)/\∃ h:p<l.length,at? l i=some l[p]:=by
 obtain⟨p,rfl⟩:=Int.eq_ofNat_of_zero_le h0;exact⟨p,rfl,by omega,zAJ (by omega)⟩
theorem zN7:∀ (k:Nat) (t:Nd) (path:List Int),path.length<k ->
  (zBt t path=none/\∃ r,zB1 k t.kind t.text t.cols t.kids path=some (.ret (r,false))) ∨
  (zBt t path=none/\∃ (r:Nd) (p:List Int),p ≠ []/\zB1 k t.kind t.text t.cols t.kids path=some (.go (p,r.kind,r.text,r.cols,r.kids))) ∨
  ∃ r,zBt t path=some r/\zB1 k t.kind t.text t.cols t.kids path=some (.go ([],r.kind,r.text,r.cols,r.kids))
 | 0,_,_,h=>by omega
 | k+1,t,path,h=>by
  unfold zB1
  match path,h with
  | [],h=>exact .inr (.inr ⟨t,rfl,rfl⟩)
  | [x],h=>exact .inr (.inl ⟨rfl,t,[x],by simp,rfl⟩)
  | x::y::p,h =>
   have e0:at? (x::y::p) (0:Int)=some x:=rfl;have e1:at? (x::y::p) (1:Int)=some y:=rfl;have e2:(((x::y::p).take (((x::y::p).length:Int)).toNat).drop (2:Int).toNat)=p:=by
    rw[Int.toNat_natCast,List.take_length]; rfl
   rw[zAF (by simp only[List.length_cons]; omega),cond_true]
   simp only[e0,e1,obs,e2]
   by_cases h1:x<0
   ·rw[zAF h1]; exact .inl ⟨zLc (fun h=>by omega),_,rfl⟩
   ·rw[zAD h1]
    by_cases h2:(t.kids.length:Int)<=x
    ·rw[zAF h2]; exact .inl ⟨zLc (fun h=>by omega),_,rfl⟩
    ·rw[zAD h2]
     obtain⟨i,rfl,hi,hg⟩:=zSb (l:=t.kids) (i:=x) (by omega) (by omega)
     rw[hg]
     have hgi:t.kids[i]? = some t.kids[i]:=List.getElem?_eq_getElem hi;generalize t.kids[i]=e at hgi;obtain⟨x1,x2,x3,x4⟩:=e;simp only[cond_false,obs]
     by_cases h3:y<0
     ·rw[zAF h3]; exact .inl ⟨zLd hgi (fun h=>by omega),_,rfl⟩
     ·rw[zAD h3]
      by_cases h4:(x4.length:Int)<=y
      ·rw[zAF h4]; exact .inl ⟨zLd hgi (fun h=>by have:y<x4.length:=h.2; omega),_,rfl⟩
      ·rw[zAD h4]
       obtain⟨j,rfl,hj,hg2⟩:=zSb (l:=x4) (i:=y) (by omega) (by omega)
       rw[hg2]
       have hgj:x4[j]? = some x4[j]:=List.getElem?_eq_getElem hj;generalize x4[j]=f at hgj;obtain⟨y1,y2,y3,y4⟩:=f;simp only[cond_false,obs]
       rw[zBf ⟨by omega,by simp only[List.length_cons]; omega,by omega⟩]
       rw[zMr hgi hgj]
       exact zN7 k (.mk y1 y2 y3 y4) p (by simp only[List.length_cons]at h; omega)
theorem zSL (n:Nat) (t:Nd) (path:List Int) (h:path.length<n):∃ r ok,zG5 n t path=some (r,ok)/\zBt t path=bif ok then some r else none:=by
 obtain⟨a,b,c,d⟩:=t;unfold zG5;dsimp only;rcases zN7 n (.mk a b c d) path h with ⟨h0,r,h1⟩ | ⟨h0,r,p,hp,h1⟩ | ⟨r,h0,h1⟩
 ·simp only[Nd.kind,Nd.text,Nd.cols,Nd.kids]at h1;rw[h1]
  exact⟨r,false,rfl,h0⟩
 ·obtain⟨r1,r2,r3,r4⟩:=r;simp only[Nd.kind,Nd.text,Nd.cols,Nd.kids]at h1;rw[h1]
  refine⟨.mk r1 r2 r3 r4,false,?_,h0⟩
  have:((p.length:Int) == 0)=false:=beq_eq_false_iff_ne.2 fun e=>hp (List.eq_nil_of_length_eq_zero (by omega))
  simp only[obs,this]
 ·obtain⟨r1,r2,r3,r4⟩:=r;simp only[Nd.kind,Nd.text,Nd.cols,Nd.kids]at h1;rw[h1]
  exact⟨.mk r1 r2 r3 r4,true,rfl,h0⟩
def rowS (t:Nd) (p:List Int):Nd×Int:=if zAB t=true then (match zBt t p with | some r=>(r,0) | none=>(zCw,8)) else (zCw,1)
theorem zH4:∀ (N:Nat) (p:List Int) (t r:Nd),p.length<N->zBt t p=some r->r.w<=t.w/\r.cnt<=t.cnt
 | 0,p,_,_,h,_=>by omega
 | N+1,[],t,r,_,h=>by
  rw[zBt]at h;cases h;exact⟨Nat.le_refl _,Nat.le_refl _⟩
 | N+1,[_],t,r,_,h=>by
  rw[zBt]at h;cases h
 | N+1,i::s::p,.mk k tx c ks,r,hN,h=>by
  rw[zBt]at h;split at h
  ·rename_i hi
   replace hi:0<=i/\i<ks.length:=hi;have hi0:i.toNat<ks.length :=(by omega);have hx:ks[i.toNat]? = some ks[i.toNat]:=List.getElem?_eq_getElem hi0;generalize ks[i.toNat]=x at hx;obtain⟨k2,tx2,c2,ks2⟩:=x;simp only[Nd.kids,List.getD_eq_getElem?_getD,hx,Option.getD_some]at h;split at h
   ·rename_i hs
    have hs0:s.toNat<ks2.length :=(by omega);have hz:ks2[s.toNat]? = some ks2[s.toNat]:=List.getElem?_eq_getElem hs0;generalize ks2[s.toNat]=z at hz;rw[hz,Option.getD_some]at h;obtain⟨q1,q2⟩:=zH4 N p z r (by simp only[List.length_cons]at hN; omega) h;have m1:=Nd.w_mem (List.mem_of_getElem? hx)
    have m2:=Nd.w_mem (List.mem_of_getElem? hz)
    have n1:=Nd.cnts_mem (List.mem_of_getElem? hx)
    have n2:=Nd.cnts_mem (List.mem_of_getElem? hz)
    simp only[Nd.w,Nd.cnt]at m1 m2 n1 n2 ⊢
    omega
   ·cases h
  ·cases h
theorem zIF (n:Nat) (t:Nd) (p:List Int) (hp:p.length<n) (hv:zAQ n t=some (zAB t)):zFi n t p=some (rowS t p):=by
 obtain⟨r,ok,h1,h2⟩:=zSL n t p hp;obtain⟨k,tx,c,ks⟩:=t;unfold zFi rowS;dsimp only;rw[hv]
 simp only[obs]
 cases hb:zAB (.mk k tx c ks) with
 | false=>rfl
 | true =>
  rw[h1,h2]
  obtain⟨r1,r2,r3,r4⟩:=r;cases ok <;> rfl
theorem zGJ {t:Nd} (h:t.cnt<=1000000000):zAX t=some t:=zBf h
theorem zSm (n:Nat) (t:Nd) (p:List Int) (hv:zA8 n t=some (zAB t)) (hc:t.cnt<=1000000000):zG4 n t p=some (rowS t p):=by
 unfold zG4 rowS;rw[hv]
 simp only[obs]
 split
 ·cases hf:zBt t p with
  | none=>rfl
  | some r =>
   have:=(zH4 _ p t r (Nat.lt_succ_self _) hf).2;simp only[zGJ (Nat.le_trans this hc),obs]
 ·rfl
def zSg (t:Nd) (p:List Int) (i:Int):Nd×Int:=if zAB t=true then (match zBt t p with | some r=>if 0<=i/\i<r.kids.length then (r.kids.getD i.toNat r,0) else (zCw,2) | none=>(zCw,8)) else (zCw,1)
theorem zMP (n:Nat) (t:Nd) (p:List Int) (i:Int) (hp:p.length<n) (hv:zAQ n t=some (zAB t)):zFO n t p i=some (zSg t p i):=by
 have hr:=zIF n t p hp hv;obtain⟨k,tx,c,ks⟩:=t;unfold zFO;dsimp only;rw[hr]
 unfold rowS zSg;split
 ·cases hf:zBt (.mk k tx c ks) p with
  | none=>rfl
  | some r =>
   obtain⟨k2,tx2,c2,ks2⟩:=r;simp only[obs,show((0:Int) != 0)=false from rfl,cond_false]
   by_cases h1:i<0
   ·rw[zAF h1,if_neg (fun h=>by omega)]; rfl
   ·rw[zAD h1]
    by_cases h2:(ks2.length:Int)<=i
    ·rw[zAF h2,if_neg (fun h=>by have:i<(ks2.length:Int):=h.2; omega)]; rfl
    ·rw[zAD h2,if_pos ⟨by omega,show i<(ks2.length:Int) by omega⟩]
     obtain⟨j,rfl,hj,hg⟩:=zSb (l:=ks2) (i:=i) (by omega) (by omega)
     have hgg:(Nd.mk k2 tx2 c2 ks2).kids.getD ((j:Int)).toNat (Nd.mk k2 tx2 c2 ks2)=ks2[j]:=by
      show ks2.getD ((j:Int)).toNat _=_;rw[List.getD_eq_getElem?_getD,Int.toNat_natCast,List.getElem?_eq_getElem hj,Option.getD_some]
     rw[hgg]
     simp only[cond_false,obs]
     rw[hg]
     generalize ks2[j]=z;cases z; rfl
 ·rfl
theorem zMg {α:Type}{l:List α}{i:Nat}{x:α} (h:l[i]? = some x):at? l (i:Int)=some x:=by
 have hl:=(List.getElem?_eq_some_iff.1 h).1;rw[zAJ hl,← List.getElem?_eq_getElem hl,h]
theorem zEG {k:Int}{tx:List UInt8}{c:Int}{ks:List Nd}{i:Nat}{x y:Nd} (hi:ks[i]? = some y) (hl:ks.length<=4294967296):zBo (.mk k tx c ks) (i:Int) x=some (.mk k tx c (ks.set i x)):=by
 obtain⟨x1,x2,x3,x4⟩:=x;obtain⟨y1,y2,y3,y4⟩:=y;unfold zBo;dsimp only;rw[zBf (by simpa using hl),zMg hi]
 simp only[obs,Int.toNat_natCast]
def zS3 (t:Nd) (p:List Int) (r:Nd):Nd×Int:=if zAB t=true then (match zBt t p with
 | some _=>if zAB r=true then (if zAB (putL t p r)=true then (putL t p r,0) else (zCw,6)) else (zCw,4)
 | none=>(zCw,8)) else (zCw,1)
theorem zRa (n:Nat) (t:Nd) (p:List Int) (r:Nd) (hv:zA8 n t=some (zAB t)) (hr:zA8 n r=some (zAB r)) (hp:∀ z,Fd t p z->zA8 n (putL t p r)=some (zAB (putL t p r))) (hc:t.cnt<=1000000000) (hcr:r.cnt<=1000000000) :
  zEQ n t p r=some (zS3 t p r):=by
 unfold zEQ zS3;rw[hv,zGJ hc,hr,zGJ hcr]
 simp only[obs]
 split
 ·cases hf:zBt t p with
  | none=>rfl
  | some z =>
   dsimp only;rw[hp z (zWF hf)]
   simp only[obs]
   split
   ·split <;> rfl
   ·rfl
 ·rfl
theorem zXp {t z r:Nd}{p:List Int} (hv:zAB t=true) (h:zBt t p=some z) (hr:zAB r=true) (hp:zAB (putL t p r)=true):zS3 t p r=(putL t p r,0):=by unfold zS3; rw[if_pos hv,h]; dsimp only; rw[if_pos hr,if_pos hp]
abbrev Op8:=Int×List Int×Int×Int×List Nd×Int×List UInt8×List UInt8
def Op8.nodes (o:Op8):List Nd:=o.2.2.2.2.1
theorem take3 {α:Type} (l:List α){p q:Nat} (h:p<=q):(l.take p++(l.take q).drop p)++l.drop q=l:=by
 have:l.take p=(l.take q).take p :=(by rw[List.take_take,Nat.min_eq_left h]);rw[this,List.take_append_drop,List.take_append_drop]
theorem zRO (l by':List Nd){p q:Nat} (h:p<=q):Nd.ws ((l.take p++by')++l.drop q)+Nd.ws ((l.take q).drop p)=Nd.ws l+Nd.ws by':=by
 have:=congrArg Nd.ws (take3 l h)
 rw[Nd.ws_append,Nd.ws_append]at this ⊢
 omega
theorem zWd (l by':List Nd) (p q:Nat) (hp:p<=l.length) (hq:q<=l.length) (hl:l.length<=1073741824) (hb:by'.length<=1073741824) :
  zB5 l (p:Int) (q:Int) by'=some ((l.take p++by')++l.drop q):=by
 unfold zB5;dsimp only;have e1:(l.take (p:Int).toNat).drop (0:Int).toNat=l.take p :=(by simp);have e2:(l.take (l.length:Int).toNat).drop (q:Int).toNat=l.drop q :=(by simp);rw[e1,e2,zBf ⟨by omega,by omega,by omega⟩,zBf (by simp; omega),zBf (by simp; omega),zBf ⟨by omega,by omega,by omega⟩,zBf (by simp; omega)]
theorem zR7 (t:Nd) (i:Nat) (v:Nd) (h:i<t.kids.length) (hl:t.kids.length<=1073741824):zBo t (i:Int) v=some (.mk t.kind t.text t.cols (t.kids.set i v)):=by
 obtain⟨a,b,c,d⟩:=t;obtain⟨a',b',c',d'⟩:=v;simp only[Nd.kids]at h hl;unfold zBo;simp only;rw[zBf (by simp; omega),zAJ h]
 rcases e:d[i] with ⟨x1,x2,x3,x4⟩
 simp only[obs,Int.toNat_natCast,Nd.kind,Nd.text,Nd.cols,Nd.kids]
theorem zQV (t:Nd) (i:Nat) (l:List Nd) (h:i<t.kids.length) (hl:t.kids.length<=1073741824) (hl2:l.length<=1073741824):zDw t (i:Int) l=some (.mk t.kind t.text t.cols (t.kids.set i (.mk 1 [] 0 l))):=by
 have:=zR7 t i (.mk 1 [] 0 l) h hl;obtain⟨a,b,c,d⟩:=t;unfold zDw;simp only[zA3,obs]
 rw[zBf (by simp; omega),this]
 rfl
theorem zXt {α:Type}{l:List α}{i:Int} (h0:0<=i) (h1:i<(l.length:Int)):∃ p:Nat,i=(p:Int)/\∃ h:p<l.length,at? l i=some l[p]:=by
 obtain⟨p,rfl⟩:=Int.eq_ofNat_of_zero_le h0;exact⟨p,rfl,by omega,zAJ (by omega)⟩
theorem zGD (t:Nd):t.w=t.text.length+Nd.ws t.kids+1:=by cases t; rfl
theorem zXA (l:List Nd){p q:Nat} (h:p<=q):Nd.ws ((l.take q).drop p)<=Nd.ws l:=by
 have:=zRO l [] h;simp only[Nd.ws]at this; omega
theorem zS0 (l:List Nd){p:Nat} (h:p<l.length):(l.take (p+1)).drop p=[l[p]]:=by
 rw[List.take_succ_eq_append_getElem h,List.drop_append_of_le_length (by simp; omega),List.drop_take]
 simp
def splS (l:List Nd) (p q:Nat) (b:List Nd):List Nd:=(l.take p++b)++l.drop q
def segS (l:List Nd) (p q:Nat):List Nd:=(l.take q).drop p
def rowN (l:List Nd):Nd:=.mk 1 [] 0 l
def zHL (v:Nd) (s:Nat) (l:List Nd):Nd:=.mk v.kind v.text v.cols (v.kids.set s (rowN l))
def zUk (k:Int):Bool:=(k == 2)||((k == 3)||((k == 4)||((k == 10)||(k == 11))))
def zDQ (k m:Int) (nodes:List Nd):Int:=if k=1 then 0 else if k=2 then nodes.length else if k=3 then m else 1
def zTa (nodes:List Nd) (slot:Int):Prop:=∃ (v:Nd) (s:Nat) (z:Nd),nodes=[v]/\slot=(s:Int)/\zAB (rowN [v])=true/\v.kids[s]? = some z/\z.kids=[]
def FormP:Op8->Prop
 | (k,_,_,m,nodes,slot,old,text) =>
  ((k=1∨k=2)/\nodes ≠ []/\zAB (rowN nodes)=true/\m=0/\slot=0/\old=[]/\text=[]) ∨
  ((k=3∨k=4)/\0<=m/\zTa nodes slot/\old=[]/\text=[]) ∨
  (k=5/\old ≠ text/\nodes=[]/\m=0/\slot=0)
inductive Chg (l:List Nd):Op8->List Nd->Int->Prop
 | range {k:Int} {row:List Int} {a m:Int} {nodes:List Nd} {slot:Int} {old text:List UInt8} (h:a<0∨(l.length:Int)<a∨(l.length:Int) - a<zDQ k m nodes):Chg l (k,row,a,m,nodes,slot,old,text) [] 2
 | ins {row:List Int} {p:Nat} {m:Int} {nodes:List Nd} {slot:Int} {old text:List UInt8} (h:p<=l.length):Chg l (1,row,(p:Int),m,nodes,slot,old,text) (splS l p p nodes) 0
 | del {row:List Int} {p:Nat} {m:Int} {nodes:List Nd} {slot:Int} {old text:List UInt8} (h:p+nodes.length<=l.length) (he:segS l p (p+nodes.length)=nodes):Chg l (2,row,(p:Int),m,nodes,slot,old,text) (splS l p (p+nodes.length) []) 0
 | del_no {row:List Int} {p:Nat} {m:Int} {nodes:List Nd} {slot:Int} {old text:List UInt8} (h:p+nodes.length<=l.length) (he:segS l p (p+nodes.length) ≠ nodes):Chg l (2,row,(p:Int),m,nodes,slot,old,text) [] 7
 | wrap {row:List Int} {p m:Nat} {v:Nd} {s:Nat} {old text:List UInt8} (h:p+m<=l.length):Chg l (3,row,(p:Int),(m:Int),[v],(s:Int),old,text) (splS l p (p+m) [zHL v s (segS l p (p+m))]) 0
 | unwrap {row:List Int} {p:Nat} {m:Int} {v it z:Nd} {s:Nat} {old text:List UInt8} (h:l[p]? = some it) (hz:it.kids[s]? = some z) (hm:(z.kids.length:Int)=m) (he:it=zHL v s z.kids):Chg l (4,row,(p:Int),m,[v],(s:Int),old,text) (splS l p (p+1) z.kids) 0
 | unwrap_no {row:List Int} {p:Nat} {m:Int} {v it:Nd} {s:Nat} {old text:List UInt8} (h:l[p]? = some it) (hz:∀ z,it.kids[s]? = some z->(z.kids.length:Int)=m->it ≠ zHL v s z.kids):Chg l (4,row,(p:Int),m,[v],(s:Int),old,text) [] 7
 | set {row:List Int} {p:Nat} {m:Int} {nodes:List Nd} {it:Nd} {slot:Int} {old text:List UInt8} (h:l[p]? = some it) (hl:zUk it.kind=true) (he:it.text=old):Chg l (5,row,(p:Int),m,nodes,slot,old,text) (splS l p (p+1) [.mk it.kind text it.cols it.kids]) 0
 | set_no {row:List Int} {p:Nat} {m:Int} {nodes:List Nd} {it:Nd} {slot:Int} {old text:List UInt8} (h:l[p]? = some it) (hl:¬ (zUk it.kind=true/\it.text=old)):Chg l (5,row,(p:Int),m,nodes,slot,old,text) [] 7
inductive App (t:Nd):Op8->Nd->Int->Prop
 | arg {o:Op8} (h:zAB t=false):App t o zCw 1
 | form {o:Op8} (h:zAB t=true) (hf:¬ FormP o):App t o zCw 4
 | none {o:Op8} (h:zAB t=true) (hf:FormP o) (hn:zBt t o.2.1=Option.none):App t o zCw 8
 | chg {o:Op8} {r:Nd} {l:List Nd} {e:Int} (h:zAB t=true) (hf:FormP o) (hr:Fd t o.2.1 r) (hc:Chg r.kids o l e) (he:e ≠ 0):App t o zCw e
 | limit {o:Op8} {r:Nd} {l:List Nd} (h:zAB t=true) (hf:FormP o) (hr:Fd t o.2.1 r) (hc:Chg r.kids o l 0) (hv:zAB (putL t o.2.1 (rowN l))=false):App t o zCw 6
 | ok {o:Op8} {r:Nd} {l:List Nd} (h:zAB t=true) (hf:FormP o) (hr:Fd t o.2.1 r) (hc:Chg r.kids o l 0) (hv:zAB (putL t o.2.1 (rowN l))=true):App t o (putL t o.2.1 (rowN l)) 0
theorem Chg.w {l l':List Nd}{k:Int}{row:List Int}{a m:Int}{nodes:List Nd}{slot:Int}{old text:List UInt8}{e:Int} (h:Chg l (k,row,a,m,nodes,slot,old,text) l' e):Nd.ws l'<=Nd.ws l+Nd.ws nodes+text.length+3/\l'.length<=l.length+Nd.ws nodes+Nd.ws l+1:=by
 have key:∀ p q b,p<=q->Nd.ws (splS l p q b)+Nd.ws (segS l p q)=Nd.ws l+Nd.ws b:=fun p q b h=>zRO l b h
 have hlen:∀ l':List Nd,l'.length<=Nd.ws l':=Nd.ws_len
 have h1:Nd.ws l'<=Nd.ws l+Nd.ws nodes+text.length+3:=by
  cases h with
  | range=>simp only[Nd.ws]; omega
  | @ins _ p _ _ _ _ _ h=>have:=key p p nodes (Nat.le_refl _); omega
  | @del _ p _ _ _ _ _ h he=>have:=key p (p+nodes.length) [] (Nat.le_add_right _ _); simp only[Nd.ws]at this; omega
  | del_no=>simp only[Nd.ws]; omega
  | @wrap _ p m v s _ _ h =>
   have:=key p (p+m) [zHL v s (segS l p (p+m))] (Nat.le_add_right _ _)
   have hf:(zHL v s (segS l p (p+m))).w<=v.w+Nd.ws (segS l p (p+m))+1:=by
    rw[zGD v]
    simp only[zHL,rowN,Nd.w]
    by_cases hs:s<v.kids.length
    ·have:=zJF (ks:=v.kids) (i:=s) (y:=.mk 1 [] 0 (segS l p (p+m))) (List.getElem?_eq_getElem hs)
     simp only[Nd.w,List.length_nil]at this
     omega
    ·rw[List.set_eq_of_length_le (by omega)]; omega
   simp only[Nd.ws]at this ⊢
   omega
  | @unwrap _ p _ v it z s _ _ h hz hm he =>
   have:=key p (p+1) z.kids (Nat.le_add_right _ _)
   have hsg:segS l p (p+1)=[it]:=by
    have:=zS0 l (List.getElem?_eq_some_iff.1 h).1;rw[segS,this,(List.getElem?_eq_some_iff.1 h).2]
   have w1:=Nd.w_mem (List.mem_of_getElem? hz)
   have w2:=zGD z;have w3:=zGD it;rw[hsg]at this;simp only[Nd.ws]at this
   omega
  | unwrap_no=>simp only[Nd.ws]; omega
  | @set _ p _ _ it _ _ _ h hl he =>
   have:=key p (p+1) [.mk it.kind text it.cols it.kids] (Nat.le_add_right _ _)
   have hsg:segS l p (p+1)=[it]:=by
    have:=zS0 l (List.getElem?_eq_some_iff.1 h).1;rw[segS,this,(List.getElem?_eq_some_iff.1 h).2]
   have w3:=zGD it;rw[hsg]at this;simp only[Nd.ws,Nd.w]at this
   omega
  | set_no=>simp only[Nd.ws]; omega
 refine⟨h1,?_⟩
 cases h with
 | range=>simp
 | @ins _ p _ _ _ _ _ h=>have:=hlen nodes; simp only[splS,List.length_append,List.length_take,List.length_drop]; omega
 | @del _ p _ _ _ _ _ h he=>simp only[splS,List.length_append,List.length_take,List.length_drop,List.length_nil]; omega
 | del_no=>simp
 | @wrap _ p m v s _ _ h=>simp only[splS,List.length_append,List.length_take,List.length_drop,List.length_cons,List.length_nil]; omega
 | @unwrap _ p _ v it z s _ _ h hz hm he =>
  have w1:=Nd.w_mem (List.mem_of_getElem? hz)
  have w4:=Nd.w_mem (List.mem_of_getElem? h)
  have w2:=zGD z;have w3:=zGD it;have:=hlen z.kids;simp only[splS,List.length_append,List.length_take,List.length_drop]; omega
 | unwrap_no=>simp
 | @set _ p _ _ it _ _ _ h hl he=>simp only[splS,List.length_append,List.length_take,List.length_drop,List.length_cons,List.length_nil]; omega
 | set_no=>simp
theorem zFI (n:Nat) (nodes:List Nd) (h:Nd.ws nodes+50<n) (hb:Nd.ws nodes<=67000000):zBR n nodes=some (zAB (rowN nodes)):=by
 unfold zBR;simp only[zA3,obs]
 rw[zEr n _ (by simp only[Nd.w,List.length_nil]; omega) (by simp only[Nd.w,List.length_nil]; omega)]; rfl
theorem zMR (n:Nat) (l:List Nd) (slot:Int) (h:Nd.ws l+50<n) (hb:Nd.ws l<=67000000):∃ b,zD4 n l slot=some b/\(b=true↔zTa l slot):=by
 unfold zD4;dsimp only;cases e1:((l.length:Int) == 1) with
 | false=>exact⟨false,rfl,(fun h=>by cases h),fun⟨v,s,z,h,_⟩=>by rw[h]at e1; cases e1⟩
 | true =>
  have hl:l.length=1 :=(by have:=eq_of_beq e1; omega);obtain⟨v,rfl⟩:=List.length_eq_one_iff.1 hl;have hv:=zFI n [v] h hb;obtain⟨a,b,c,d⟩:=v;have h0:at? [Nd.mk a b c d] (0:Int)=some (Nd.mk a b c d):=rfl;simp only[cond_true,hv,obs,h0]
  cases hvb:zAB (rowN [.mk a b c d]) with
  | false=>exact⟨false,rfl,(fun h=>by cases h),fun⟨v,s,z,h,_,h2,_⟩=>by cases h; rw[hvb]at h2; cases h2⟩
  | true =>
   by_cases h1:0<=slot
   ·by_cases h2:slot<(d.length:Int)
    ·obtain⟨p,rfl,hp,hg⟩:=zXt h1 h2;simp only[cond_true,zAF h1,zAF h2,hg,obs]
     have hz:d[p]? = some d[p]:=List.getElem?_eq_getElem hp;generalize d[p]=z at hz;obtain⟨x1,x2,x3,x4⟩:=z;refine⟨_,rfl,fun h=>⟨_,p,_,rfl,rfl,hvb,hz,?_⟩,fun⟨v,s,z,h,hs,_,hz',hk⟩=>?_⟩
     ·have:=eq_of_beq h;exact List.eq_nil_of_length_eq_zero (by simp only[Nd.kids]; omega)
     ·cases h;obtain rfl:p=s :=(by omega);simp only[Nd.kids]at hz';rw[hz]at hz';cases hz';simp only[Nd.kids]at hk;subst hk
      rfl
    ·simp only[cond_true,zAF h1,zAD h2]
     refine⟨false,rfl,(fun h=>by cases h),fun⟨v,s,z,h,hs,_,hz,_⟩=>?_⟩
     cases h;have:=(List.getElem?_eq_some_iff.1 hz).1;simp only[Nd.kids]at this
     omega
   ·simp only[cond_true,zAD h1]
    refine⟨false,rfl,(fun h=>by cases h),fun⟨v,s,z,h,hs,_⟩=>?_⟩
    omega
theorem zHy (n:Nat) (k:Int) (row:List Int) (at' m:Int) (nodes:List Nd) (slot:Int) (old text:List UInt8) (h:Nd.ws nodes+50<n) (hb:Nd.ws nodes<=67000000) :
  ∃ b,zEo n (k,row,at',m,nodes,slot,old,text)=some b/\(b=true↔FormP (k,row,at',m,nodes,slot,old,text)):=by
 have hv:=zFI n nodes h hb;obtain⟨tb,t1,t2⟩:=zMR n nodes slot h hb;have hlen:decide (0<(nodes.length:Int))=true↔nodes ≠ [] :=(by cases nodes <;> simp);have hlen0:((nodes.length:Int) == 0)=true↔nodes=[] :=(by cases nodes <;> simp <;> omega);unfold zEo;simp only[hv,t1,obs,FormP]
 by_cases k12:k=1∨k=2
 ·have e:(bif (k == 1) then some (k == 1) else some (k == 2):Option Bool)=some true:=by rcases k12 with rfl | rfl <;> rfl
  have hk:¬ (k=3∨k=4)/\¬ k=5 :=(by omega);rw[e]
  simp only[obs,cond_true,k12,hk.1,hk.2,true_and,false_and,or_false]
  rw[← hlen]
  generalize decide (0<(nodes.length:Int))=b1;generalize zAB (rowN nodes)=b2;cases b1 <;> cases b2 <;> simp only[cond_true,cond_false,obs] <;> try exact⟨false,rfl,by simp⟩
  cases e1:m == 0 <;> simp only[cond_true,cond_false,obs]
  ·exact⟨false,rfl,by simp[beq_eq_false_iff_ne.1 e1]⟩
  cases e2:slot == 0 <;> simp only[cond_true,cond_false,obs]
  ·exact⟨false,rfl,by simp[beq_eq_false_iff_ne.1 e2]⟩
  cases e3:old == [] <;> simp only[cond_true,cond_false,obs]
  ·exact⟨false,rfl,by simp[beq_eq_false_iff_ne.1 e3]⟩
  refine⟨_,rfl,?_⟩
  rw[eq_of_beq e1,eq_of_beq e2,eq_of_beq e3]
  simp
 ·have e:(bif (k == 1) then some (k == 1) else some (k == 2):Option Bool)=some false:=by
   rw[zBM (fun h=>k12 (.inl h)),zBM (fun h=>k12 (.inr h))]; rfl
  rw[e]
  simp only[obs,cond_false,k12,false_and,false_or]
  by_cases k34:k=3∨k=4
  ·have e:(bif (k == 3) then some (k == 3) else some (k == 4):Option Bool)=some true:=by rcases k34 with rfl | rfl <;> rfl
   have hk:¬ k=5 :=(by omega);rw[e]
   simp only[obs,cond_true,k34,hk,true_and,false_and,or_false]
   rw[← t2]
   by_cases hm:0<=m
   ·rw[zAF hm]
    cases tb <;> simp only[cond_true,cond_false,obs]
    ·exact⟨false,rfl,by simp⟩
    cases e3:old == [] <;> simp only[cond_true,cond_false,obs]
    ·exact⟨false,rfl,by simp[beq_eq_false_iff_ne.1 e3]⟩
    refine⟨_,rfl,?_⟩
    rw[eq_of_beq e3]
    simp[hm]
   ·rw[zAD hm]
    exact⟨false,rfl,by simp[hm]⟩
  ·have e:(bif (k == 3) then some (k == 3) else some (k == 4):Option Bool)=some false:=by
    rw[zBM (fun h=>k34 (.inl h)),zBM (fun h=>k34 (.inr h))]; rfl
   rw[e]
   simp only[obs,cond_false,k34,false_and,false_or]
   by_cases k5:k=5
   ·subst k5;simp only[beq_self_eq_true,cond_true,obs,true_and]
    rw[← hlen0]
    generalize ((nodes.length:Int) == 0)=b1;cases e0:old == text <;> simp only[Bool.not_true,Bool.not_false,cond_true,cond_false,obs]
    ·have:=beq_eq_false_iff_ne.1 e0;cases b1 <;> simp only[cond_true,cond_false,obs]
     ·exact⟨false,rfl,by simp⟩
     cases e1:m == 0 <;> simp only[cond_true,cond_false,obs]
     ·exact⟨false,rfl,by simp[beq_eq_false_iff_ne.1 e1]⟩
     refine⟨_,rfl,?_⟩
     rw[eq_of_beq e1]
     simp[this]
    ·exact⟨false,rfl,by simp[eq_of_beq e0]⟩
   ·rw[zBM k5]
    exact⟨false,rfl,by simp[k5]⟩
theorem zTp (k:Int):(bif (k == 2) then some (k == 2) else bif (k == 3) then some (k == 3) else bif (k == 4) then some (k == 4) else bif (k == 10) then some (k == 10) else some (k == 11):Option Bool)=some (zUk k):=by
 unfold zUk;cases e1:k == 2 <;> cases e2:k == 3 <;> cases e3:k == 4 <;> cases e4:k == 10 <;> rfl
theorem zTw (k m:Int) (nodes:List Nd):(bif (k == 1) then some 0 else bif (k == 2) then some (nodes.length:Int) else bif (k == 3) then some m else some 1:Option Int)=some (zDQ k m nodes):=by
 unfold zDQ
 by_cases k1:k=1
 ·subst k1; rfl
 by_cases k2:k=2
 ·subst k2; rfl
 by_cases k3:k=3
 ·subst k3; rfl
 rw[zBM k1,zBM k2,zBM k3,if_neg k1,if_neg k2,if_neg k3]; rfl
theorem zSl {k:Int}{row:List Int}{a m:Int}{nodes:List Nd}{slot:Int}{old text:List UInt8} (hf:FormP (k,row,a,m,nodes,slot,old,text)):0<=zDQ k m nodes:=by
 unfold zDQ;rcases hf with ⟨rfl | rfl,_⟩ | ⟨rfl | rfl,hm,_⟩ | ⟨rfl,_⟩ <;> simp <;> omega
theorem zPN (n:Nat) (l:List Nd) (k:Int) (row:List Int) (a m:Int) (nodes:List Nd) (slot:Int) (old text:List UInt8) (hf:FormP (k,row,a,m,nodes,slot,old,text)) (hn:2 * Nd.ws l+2 * Nd.ws nodes+50<n) (ha:Nd.ws l<=60000000) (hb:Nd.ws nodes<=2000000) :
  ∃ l' e,zFk n l (k,row,a,m,nodes,slot,old,text)=some (l',e)/\Chg l (k,row,a,m,nodes,slot,old,text) l' e:=by
 have la:=Nd.ws_len l;have lb:=Nd.ws_len nodes;have cl:=Nd.cnts_ws l;have cb:=Nd.cnts_ws nodes;have hnn:=zSl hf;unfold zFk;dsimp only;rw[zTw]
 simp only[obs]
 by_cases h1:a<0
 ·rw[zAF h1]; exact⟨[],2,rfl,.range (.inl h1)⟩
 rw[zAD h1]
 by_cases h2:(l.length:Int)<a
 ·rw[zAF h2]; exact⟨[],2,rfl,.range (.inr (.inl h2))⟩
 rw[zAD h2,wrap64_in (n:=(l.length:Int) - a) (by omega) (by omega)]
 by_cases h3:(l.length:Int) - a<zDQ k m nodes
 ·rw[zAF h3]; exact⟨[],2,rfl,.range (.inr (.inr h3))⟩
 rw[zAD h3]
 simp only[cond_false,obs]
 obtain⟨p,rfl⟩:=Int.eq_ofNat_of_zero_le (show 0<=a by omega)
 obtain⟨y,hy⟩:=Int.eq_ofNat_of_zero_le hnn;rw[hy]at h3 ⊢;rw[wrap64_in (n:=(p:Int)+(y:Int)) (by omega) (by omega),← Int.natCast_add]
 have hseg:=zXA l (Nat.le_add_right p y)
 have lseg:=Nd.ws_len ((l.take (p+y)).drop p)
 have cseg:=Nd.cnts_ws ((l.take (p+y)).drop p)
 have hsp:∀ by':List Nd,by'.length<=1073741824->zB5 l (p:Int) ((p+y:Nat):Int) by'=some (splS l p (p+y) by'):=fun by' hby=>zWd l by' p (p+y) (by omega) (by omega) (by omega) hby
 rcases hf with ⟨rfl | rfl,h0⟩ | ⟨rfl | rfl,hm,⟨v,s,z,rfl,rfl,hvv,hz,hzk⟩,_⟩ | ⟨rfl,h0⟩
 ·obtain rfl:y=0 :=(by have:zDQ 1 m nodes=0:=rfl; omega);simp only[beq_self_eq_true,cond_true,Nat.add_zero]at hsp ⊢;rw[hsp nodes (by omega)]
  exact⟨_,0,rfl,.ins (by omega)⟩
 ·obtain rfl:y=nodes.length :=(by have:zDQ 2 m nodes=(nodes.length:Int):=rfl; omega);simp only[show((2:Int) == 1)=false from rfl,cond_false,beq_self_eq_true,cond_true,Int.toNat_natCast]
  rw[zBf ⟨by omega,by omega,by omega⟩]
  obtain⟨r,g1,g2⟩:=(zJG n).2 ((l.take (p+nodes.length)).drop p) nodes (by omega) (by omega)
  rw[g1]
  simp only[obs]
  cases r with
  | false=>exact⟨[],7,rfl,.del_no (by omega) fun e=>by have:=g2.2 e; cases this⟩
  | true =>
   simp only[Bool.not_true,cond_false,hsp [] (by simp),obs]
   exact⟨_,0,rfl,.del (by omega) (g2.1 rfl)⟩
 ·obtain rfl:m=(y:Int):=hy;have hs:=(List.getElem?_eq_some_iff.1 hz).1;have hfe:=zQV v s ((l.take (p+y)).drop p) hs (by have:=Nd.ws_len v.kids; have:=zGD v; simp only[Nd.ws]at lb hb; omega) (by omega)
  have hv0:at? [v] (0:Int)=some v:=rfl;obtain⟨v1,v2,v3,v4⟩:=v;simp only[show((3:Int) == 1)=false from rfl,show((3:Int) == 2)=false from rfl,cond_false,beq_self_eq_true,cond_true,Int.toNat_natCast,hv0,obs]
  rw[zBf ⟨by omega,by omega,by omega⟩,hfe]
  simp only[obs]
  rw[hsp _ (by simp)]
  exact⟨_,0,rfl,.wrap (by omega)⟩
 ·obtain rfl:y=1 :=(by have:zDQ 4 m [v]=1:=rfl; omega);have hs:=(List.getElem?_eq_some_iff.1 hz).1;have hv0:at? [v] (0:Int)=some v:=rfl;have hpl:p<l.length :=(by omega);have hit:l[p]? = some l[p]:=List.getElem?_eq_getElem hpl;have hia:at? l (p:Int)=some l[p]:=zAJ hpl;generalize l[p]=it at hit hia;have hiw:=Nd.w_mem (List.mem_of_getElem? hit)
  have hic:=Nd.cnt_w it;have hlk:=Nd.ws_len v.kids;have hwv:=zGD v;simp only[Nd.ws]at hb hn;have hfe:∀ l':List Nd,l'.length<=1073741824->zDw v (s:Int) l'=some (zHL v s l'):=fun l' hl'=>zQV v s l' hs (by omega) hl'
  have heq:∀ x:Nd,∃ r,zBv n it x=some r/\(r=true↔it=x):=fun x=>(zJG n).1 it x (by omega) (by omega)
  obtain⟨i1,i2,i3,i4⟩:=it;have hwi:(Nd.mk i1 i2 i3 i4).w=i2.length+Nd.ws i4+1:=rfl;have hlk4:=Nd.ws_len i4;obtain⟨v1,v2,v3,v4⟩:=v;simp only[show((4:Int) == 1)=false from rfl,show((4:Int) == 2)=false from rfl,show((4:Int) == 3)=false from rfl,cond_false,beq_self_eq_true,cond_true,hia,obs,hv0]
  by_cases hsl:(i4.length:Int)<=(s:Int)
  ·rw[zAF hsl]
   refine⟨[],7,rfl,.unwrap_no hit fun z' hz'=>?_⟩
   have:=(List.getElem?_eq_some_iff.1 hz').1;simp only[Nd.kids]at this
   omega
  rw[zAD hsl]
  have hsi:s<i4.length :=(by omega);have hzi:i4[s]? = some i4[s]:=List.getElem?_eq_getElem hsi;have hza:at? i4 (s:Int)=some i4[s]:=zAJ hsi;generalize i4[s]=z' at hzi hza;have hzw:=Nd.w_mem (List.mem_of_getElem? hzi)
  have hzw2:=zGD z';have hzl:=Nd.ws_len z'.kids;have hfe':=hfe z'.kids (by omega)
  obtain⟨rb,g1,g2⟩:=heq (zHL (.mk v1 v2 v3 v4) s z'.kids)
  have hsp':=hsp z'.kids (by omega)
  obtain⟨z1,z2,z3,z4⟩:=z';simp only[Nd.kids]at hfe' hsp' g1 g2;simp only[cond_false,hza,obs]
  by_cases hmz:(z4.length:Int)=m
  ·have:((z4.length:Int) != m)=false :=(by unfold bne; rw[beq_iff_eq.2 hmz]; rfl);rw[this]
   simp only[cond_false,hfe',obs]
   have hfx:zHL (.mk v1 v2 v3 v4) s z4 = .mk v1 v2 v3 (v4.set s (rowN z4)):=rfl;rw[hfx]at g1 g2 ⊢;simp only[obs,g1]
   cases rb with
   | false =>
    refine⟨[],7,rfl,.unwrap_no hit fun z'' hz'' hm'' he=>?_⟩
    simp only[Nd.kids]at hz'';rw[hzi]at hz'';cases hz'';have:=g2.2 he;cases this
   | true =>
    simp only[Bool.not_true,cond_false,hsp',obs]
    exact⟨_,0,rfl,.unwrap (z:=.mk z1 z2 z3 z4) hit hzi hmz (g2.1 rfl)⟩
  ·have:((z4.length:Int) != m)=true:=bne_iff_ne.2 hmz;rw[this]
   refine⟨[],7,rfl,.unwrap_no hit fun z'' hz'' hm'' he=>?_⟩
   simp only[Nd.kids]at hz'';rw[hzi]at hz'';cases hz'';exact hmz hm''
 ·obtain rfl:y=1 :=(by have:zDQ 5 m nodes=1:=rfl; omega);have hpl:p<l.length :=(by omega);have hit:l[p]? = some l[p]:=List.getElem?_eq_getElem hpl;have hia:at? l (p:Int)=some l[p]:=zAJ hpl;generalize l[p]=it at hit hia;obtain⟨i1,i2,i3,i4⟩:=it;simp only[show((5:Int) == 1)=false from rfl,show((5:Int) == 2)=false from rfl,show((5:Int) == 3)=false from rfl,show((5:Int) == 4)=false from rfl,cond_false,hia,obs,zTp]
  cases hlf:zUk i1 with
  | false=>exact⟨[],7,rfl,.set_no hit fun h=>by have:=h.1; simp only[Nd.kind]at this; rw[hlf]at this; cases this⟩
  | true =>
   simp only[cond_true]
   cases ht:i2 == old with
   | false=>exact⟨[],7,rfl,.set_no hit fun h=>beq_eq_false_iff_ne.1 ht h.2⟩
   | true =>
    simp only[cond_true,hsp [Nd.mk i1 text i3 i4] (by simp),obs]
    exact⟨_,0,rfl,.set (it:=.mk i1 i2 i3 i4) hit hlf (eq_of_beq ht)⟩
theorem zUF {t z:Nd}{p:List Int} (h:Fd t p z) (l:List Nd):∀ n,p.length<n->t.cnt<=4294967296->zFl n t p l=some (putL t p (rowN l)):=by
 induction h with
 | nil t =>
  intro n hn _;obtain⟨n,rfl⟩:∃ m,n=m+1:=⟨n - 1,by omega⟩
  rw[zIp]
  obtain⟨t1,t2,t3,t4⟩:=t;unfold zFl
  rfl
 | @step k tx c ks i k2 tx2 c2 ks2 s z r' p hi hs _ ih =>
  intro n hn hc;obtain⟨n,rfl⟩:∃ m,n=m+1:=⟨n - 1,by omega⟩
  have n1:=Nd.cnts_mem (List.mem_of_getElem? hi)
  have n2:=Nd.cnts_mem (List.mem_of_getElem? hs)
  have l1:=Nd.cnts_len ks;have l2:=Nd.cnts_len ks2;simp only[Nd.cnt]at hc n1;have ih:=ih n (by simp only[List.length_cons]at hn; omega) (by omega)
  rw[zEY hi hs]
  have e1:((((i:Int)::(s:Int)::p).length:Int) == 0)=false:=zBM (by simp only[List.length_cons]; omega)
  have e2:at? ((i:Int)::(s:Int)::p) (0:Int)=some (i:Int):=rfl;have e3:at? ((i:Int)::(s:Int)::p) (1:Int)=some (s:Int):=rfl;have e4:(((((i:Int)::(s:Int)::p)).take ((((i:Int)::(s:Int)::p)).length:Int).toNat).drop (2:Int).toNat)=p:=by
   rw[Int.toNat_natCast,List.take_length]; rfl
  obtain⟨z1,z2,z3,z4⟩:=z;unfold zFl;simp only[e1,e2,e3,cond_false,obs,zMg hi,zMg hs,e4]
  rw[zBf ⟨by omega,by simp only[List.length_cons]; omega,by omega⟩,ih]
  generalize putL (Nd.mk z1 z2 z3 z4) p (rowN l)=Z;obtain⟨q1,q2,q3,q4⟩:=Z;simp only[obs]
  rw[zEG hs (by omega)]
  simp only[obs]
  rw[zEG hi (by omega)]
  rfl
theorem zLp (n:Nat) (t:Nd) (o:Op8) (hn:200000000<n) (ht:t.w<=50000000) (hb:Nd.ws o.nodes<=2000000) (hx:o.2.2.2.2.2.2.2.length<=2000000) (hr:o.2.1.length<=2000000):∃ t' e,zD8 n t o=some (t',e)/\App t o t' e:=by
 obtain⟨k,row,a,m,nodes,slot,old,text⟩:=o;simp only[Op8.nodes]at hb;dsimp only at hx hr;have v1:=zEr n t (by omega) (by omega)
 obtain⟨b,f1,f2⟩:=zHy n k row a m nodes slot old text (by omega) (by omega)
 have e1:=zIF n t row (by omega) v1;have hput:∀ r l,Fd t row r->zFl n t row l=some (putL t row (rowN l)):=fun r l h=>zUF h l n (by omega) (by have:=Nd.cnt_w t; omega)
 have hval:∀ r l,Fd t row r->Nd.ws l<=5000000+r.w->zAQ n (putL t row (rowN l))=some (zAB (putL t row (rowN l))):=fun r l h hl=>by
  have:=h.w (rowN l)
  have e:(rowN l).w=Nd.ws l+1 :=(by simp[rowN,Nd.w]);exact zEr n _ (by omega) (by omega)
 obtain⟨t1,t2,t3,t4⟩:=t;unfold zD8;simp only[v1,f1,e1,obs]
 cases hv:zAB (.mk t1 t2 t3 t4) with
 | false=>exact⟨_,1,rfl,.arg hv⟩
 | true =>
  simp only[Bool.not_true,cond_false]
  cases b with
  | false=>exact⟨_,4,rfl,.form hv fun h=>by have:=f2.2 h; cases this⟩
  | true =>
   have hf:=f2.1 rfl;simp only[Bool.not_true,cond_false,rowS,if_pos hv]
   cases hfd:zBt (.mk t1 t2 t3 t4) row with
   | none=>exact⟨_,8,rfl,.none hv hf hfd⟩
   | some r =>
    have hr':=zWF hfd;have hsm:=hr'.small;have hwr:=zGD r;obtain⟨l',e,c1,c2⟩:=zPN n r.kids k row a m nodes slot old text hf (by omega) (by omega) (by omega)
    obtain⟨r1,r2,r3,r4⟩:=r;simp only[Nd.kids]at c1 c2 hwr;simp only[obs,show((0:Int) != 0)=false from rfl,cond_false,c1]
    by_cases he:e=0
    ·subst he;have hcw:=c2.w;have hv2:=hval _ l' hr' (by omega)
     simp only[show((0:Int) != 0)=false from rfl,cond_false,hput _ l' hr',obs]
     cases hvo:zAB (putL (.mk t1 t2 t3 t4) row (rowN l')) with
     | false =>
      have hL:=App.limit (t:=.mk t1 t2 t3 t4) (o:=(k,row,a,m,nodes,slot,old,text)) hv hf hr' c2 hvo;generalize putL (Nd.mk t1 t2 t3 t4) row (rowN l')=Z at *;obtain⟨q1,q2,q3,q4⟩:=Z;simp only[obs,hv2,hvo,Bool.not_false,cond_true]
      exact⟨_,6,rfl,hL⟩
     | true =>
      have hO:=App.ok (t:=.mk t1 t2 t3 t4) (o:=(k,row,a,m,nodes,slot,old,text)) hv hf hr' c2 hvo;dsimp only at hO;generalize putL (Nd.mk t1 t2 t3 t4) row (rowN l')=Z at *;obtain⟨q1,q2,q3,q4⟩:=Z;simp only[obs,hv2,hvo,Bool.not_true,cond_false]
      exact⟨_,0,rfl,hO⟩
    ·have:(e != 0)=true:=bne_iff_ne.2 he;simp only[this,cond_true]
     exact⟨_,e,rfl,.chg (t:=.mk t1 t2 t3 t4) (o:=(k,row,a,m,nodes,slot,old,text)) hv hf hr' c2 he⟩
theorem Chg.det {l l1 l2:List Nd}{o:Op8}{e1 e2:Int} (hf:FormP o) (h1:Chg l o l1 e1) (h2:Chg l o l2 e2):l1=l2/\e1=e2:=by
 obtain⟨k,row,a,m,nodes,slot,old,text⟩:=o;have hnn:=zSl hf;cases h1 with
 | range h =>
  cases h2 with
  | range=>exact⟨rfl,rfl⟩
  | ins h'=>simp only[zDQ,if_true]at h; omega
  | del h'=>simp only[zDQ]at h; simp at h; omega
  | del_no h'=>simp only[zDQ]at h; simp at h; omega
  | wrap h'=>simp only[zDQ]at h; simp at h; omega
  | unwrap h'=>have:=(List.getElem?_eq_some_iff.1 h').1; simp only[zDQ]at h; simp at h; omega
  | unwrap_no h'=>exact⟨rfl,by have:=(List.getElem?_eq_some_iff.1 h').1; simp only[zDQ]at h; simp at h; omega⟩
  | set h'=>have:=(List.getElem?_eq_some_iff.1 h').1; simp only[zDQ]at h; simp at h; omega
  | set_no h'=>exact⟨rfl,by have:=(List.getElem?_eq_some_iff.1 h').1; simp only[zDQ]at h; simp at h; omega⟩
 | ins h' =>
  generalize ha:((_:Nat):Int)=a' at h2;cases h2 with
  | range h=>simp only[zDQ,if_true]at h; omega
  | ins h=>obtain rfl:=Int.ofNat.inj ha; exact⟨rfl,rfl⟩
 | del h' he =>
  generalize ha:((_:Nat):Int)=a' at h2;cases h2 with
  | range h=>simp only[zDQ]at h; simp at h; omega
  | del h=>obtain rfl:=Int.ofNat.inj ha; exact⟨rfl,rfl⟩
  | del_no h he'=>obtain rfl:=Int.ofNat.inj ha; exact absurd he he'
 | del_no h' he =>
  generalize ha:((_:Nat):Int)=a' at h2;cases h2 with
  | range h=>simp only[zDQ]at h; simp at h; omega
  | del h he'=>obtain rfl:=Int.ofNat.inj ha; exact absurd he' he
  | del_no h he'=>exact⟨rfl,rfl⟩
 | wrap h' =>
  generalize ha:((_:Nat):Int)=a' at h2;generalize hm:((_:Nat):Int)=m' at h2;generalize hs:((_:Nat):Int)=s' at h2;cases h2 with
  | range h=>simp only[zDQ]at h; simp at h; omega
  | wrap h=>obtain rfl:=Int.ofNat.inj ha; obtain rfl:=Int.ofNat.inj hm; obtain rfl:=Int.ofNat.inj hs; exact⟨rfl,rfl⟩
 | unwrap h' hz hm he =>
  generalize ha:((_:Nat):Int)=a' at h2;generalize hs:((_:Nat):Int)=s' at h2;cases h2 with
  | range h=>have:=(List.getElem?_eq_some_iff.1 h').1; simp only[zDQ]at h; simp at h; omega
  | unwrap h hz2 =>
   obtain rfl:=Int.ofNat.inj ha; obtain rfl:=Int.ofNat.inj hs
   rw[h']at h; cases h
   rw[hz]at hz2; cases hz2
   exact⟨rfl,rfl⟩
  | unwrap_no h hz2 =>
   obtain rfl:=Int.ofNat.inj ha; obtain rfl:=Int.ofNat.inj hs
   rw[h']at h; cases h
   exact absurd he (hz2 _ hz hm)
 | unwrap_no h' hz =>
  generalize ha:((_:Nat):Int)=a' at h2;generalize hs:((_:Nat):Int)=s' at h2;cases h2 with
  | range h=>exact⟨rfl,by have:=(List.getElem?_eq_some_iff.1 h').1; simp only[zDQ]at h; simp at h; omega⟩
  | unwrap h hz2 hm he =>
   obtain rfl:=Int.ofNat.inj ha; obtain rfl:=Int.ofNat.inj hs
   rw[h']at h; cases h
   exact absurd he (hz _ hz2 hm)
  | unwrap_no h hz2=>exact⟨rfl,rfl⟩
 | set h' hl he =>
  generalize ha:((_:Nat):Int)=a' at h2;cases h2 with
  | range h=>have:=(List.getElem?_eq_some_iff.1 h').1; simp only[zDQ]at h; simp at h; omega
  | set h=>obtain rfl:=Int.ofNat.inj ha; rw[h']at h; cases h; exact⟨rfl,rfl⟩
  | set_no h hl2=>obtain rfl:=Int.ofNat.inj ha; rw[h']at h; cases h; exact absurd ⟨hl,he⟩ hl2
 | set_no h' hl =>
  generalize ha:((_:Nat):Int)=a' at h2;cases h2 with
  | range h=>exact⟨rfl,by have:=(List.getElem?_eq_some_iff.1 h').1; simp only[zDQ]at h; simp at h; omega⟩
  | set h hl2 he=>obtain rfl:=Int.ofNat.inj ha; rw[h']at h; cases h; exact absurd ⟨hl2,he⟩ hl
  | set_no h hl2=>exact⟨rfl,rfl⟩
theorem Fd.det {t r1 r2:Nd}{p:List Int} (h1:Fd t p r1) (h2:Fd t p r2):r1=r2:=Option.some.inj (h1.find.symm.trans h2.find)
theorem App.det {t t1 t2:Nd}{o:Op8}{e1 e2:Int} (h1:App t o t1 e1) (h2:App t o t2 e2):t1=t2/\e1=e2:=by
 have tf:∀ {b:Bool},b=true->b=false->False:=fun h h'=>by rw[h]at h'; cases h'
 have fn:∀ {r:Nd} {p:List Int},Fd t p r->zBt t p=Option.none->False:=fun h h'=>by rw[h.find]at h'; cases h'
 cases h1 with
 | arg h=>cases h2 with
  | arg h'=>exact⟨rfl,rfl⟩
  | form h'=>exact(tf h' h).elim
  | none h'=>exact(tf h' h).elim
  | chg h'=>exact(tf h' h).elim
  | limit h'=>exact(tf h' h).elim
  | ok h'=>exact(tf h' h).elim
 | form h hf=>cases h2 with
  | arg h'=>exact(tf h h').elim
  | form h'=>exact⟨rfl,rfl⟩
  | none h' hf'=>exact absurd hf' hf
  | chg h' hf'=>exact absurd hf' hf
  | limit h' hf'=>exact absurd hf' hf
  | ok h' hf'=>exact absurd hf' hf
 | none h hf hn=>cases h2 with
  | arg h'=>exact(tf h h').elim
  | form h' hf'=>exact absurd hf hf'
  | none=>exact⟨rfl,rfl⟩
  | chg h' hf' hr=>exact(fn hr hn).elim
  | limit h' hf' hr=>exact(fn hr hn).elim
  | ok h' hf' hr=>exact(fn hr hn).elim
 | chg h hf hr hc he=>cases h2 with
  | arg h'=>exact(tf h h').elim
  | form h' hf'=>exact absurd hf hf'
  | none h' hf' hn=>exact(fn hr hn).elim
  | chg h' hf' hr' hc' he'=>obtain rfl:=hr.det hr'; exact⟨rfl,(hc.det hf hc').2⟩
  | limit h' hf' hr' hc'=>obtain rfl:=hr.det hr'; exact absurd (hc.det hf hc').2 he
  | ok h' hf' hr' hc'=>obtain rfl:=hr.det hr'; exact absurd (hc.det hf hc').2 he
 | limit h hf hr hc hv=>cases h2 with
  | arg h'=>exact(tf h h').elim
  | form h' hf'=>exact absurd hf hf'
  | none h' hf' hn=>exact(fn hr hn).elim
  | chg h' hf' hr' hc' he'=>obtain rfl:=hr.det hr'; exact absurd (hc'.det hf hc).2 he'
  | limit h' hf' hr' hc'=>exact⟨rfl,rfl⟩
  | ok h' hf' hr' hc' hv'=>obtain rfl:=hr.det hr'; obtain rfl:=(hc.det hf hc').1; exact(tf hv' hv).elim
 | ok h hf hr hc hv=>cases h2 with
  | arg h'=>exact(tf h h').elim
  | form h' hf'=>exact absurd hf hf'
  | none h' hf' hn=>exact(fn hr hn).elim
  | chg h' hf' hr' hc' he'=>obtain rfl:=hr.det hr'; exact absurd (hc'.det hf hc).2 he'
  | limit h' hf' hr' hc' hv'=>obtain rfl:=hr.det hr'; obtain rfl:=(hc.det hf hc').1; exact(tf hv hv').elim
  | ok h' hf' hr' hc' hv'=>obtain rfl:=hr.det hr'; obtain rfl:=(hc.det hf hc').1; exact⟨rfl,rfl⟩
def lens:List (List Nd)->Nat
 | []=>0
 | a::L=>a.length+lens L
theorem zQ5 {L:List (List Nd)}{i:Nat} (h:i<L.length):lens (L.drop i)=(L[i]).length+lens (L.drop (i+1)):=by
 rw[List.drop_eq_getElem_cons h]; rfl
theorem zVj {L:List (List Nd)} (hl:L.length<=1073741824):∀ (k i s:Nat),L.length - i<k->i<=L.length->s+lens (L.drop i)<=1073741824->zAY L k (i:Int) (s:Int)=some ((s+lens (L.drop i):Nat):Int)
 | 0,i,s,h,_,_=>by omega
 | k+1,i,s,hk,hi,hs=>by
  unfold zAY
  by_cases h:i<L.length
  ·have hd:=zQ5 h;rw[zAF (Int.ofNat_lt.2 h),cond_true,zAJ h]
   simp only[obs]
   rw[wrap64_in (n:=(s:Int)+((L[i]).length:Int)) (by omega) (by omega),zAD (by omega),cond_false,zAH (by omega),← Int.natCast_add,zVj hl k (i+1) _ (by omega) (by omega) (by omega),hd]
   congr 2; omega
  ·rw[zAD (by omega),cond_false]
   have:L.drop i=[]:=List.drop_eq_nil_iff.2 (by omega)
   rw[this]; rfl
theorem zVk {L:List (List Nd)} (hl:L.length<=1073741824):∀ (k i:Nat) (s:List Nd),L.length - i<k->i<=L.length->s.length+lens (L.drop i)<=1073741824->zAZ L k (i:Int) s=some (s++(L.drop i).flatten)
 | 0,i,s,h,_,_=>by omega
 | k+1,i,s,hk,hi,hs=>by
  unfold zAZ
  by_cases h:i<L.length
  ·have hd:=zQ5 h;rw[zAF (Int.ofNat_lt.2 h),cond_true,zAJ h]
   simp only[obs]
   rw[zBf (by omega),zAH (by omega),zVk hl k (i+1) _ (by omega) (by omega) (by rw[List.length_append]; omega),List.drop_eq_getElem_cons h,List.flatten_cons,List.append_assoc]
  ·rw[zAD (by omega),cond_false]
   have:L.drop i=[]:=List.drop_eq_nil_iff.2 (by omega)
   rw[this]; simp
theorem zVl (n:Nat) (L:List (List Nd)) (hn:L.length<n) (hl:L.length<=1073741824) (hs:lens L<=1073741824):zBL n L=some L.flatten:=by
 have e1:=zVj hl n 0 0 (by omega) (by omega) (by simpa using hs)
 have e2:=zVk hl n 0 [] (by omega) (by omega) (by simpa using hs)
 rw[show((0:Nat):Int)=0 from rfl]at e1 e2;unfold zBL zEa;simp only[e1,obs,List.drop_zero,Nat.zero_add]
 simp only[List.drop_zero,List.nil_append]at e2;rw[zBf ⟨by omega,by omega⟩]
 simp only[obs,e2]
theorem zXX (n:Nat) (k:Int) (row:List Int) (p y:Nat) (m:Int) (nodes:List Nd) (slot:Int) (old text:List UInt8) (l b:List Nd) (hn:10<n) (hp:p+y<=l.length) (hl:l.length<=500000000) (hb:b.length<=500000000) :
  zA1 n ((k,row,(p:Int),m,nodes,slot,old,text),l) (y:Int) b=some (splS l p (p+y) b):=by
 unfold zA1;dsimp only;rw[zBf ⟨by omega,by omega,by omega⟩,wrap64_in (n:=(p:Int)+(y:Int)) (by omega) (by omega),← Int.natCast_add,zBf ⟨by omega,by omega,by omega⟩]
 have e1:(l.take (p:Int).toNat).drop (0:Int).toNat=l.take p :=(by simp);have e2:(l.take (l.length:Int).toNat).drop ((p+y:Nat):Int).toNat=l.drop (p+y) :=(by rw[Int.toNat_natCast,Int.toNat_natCast,List.take_length]);rw[e1,e2,zVl n _ (by simp; omega) (by simp) (by simp only[lens,List.length_take,List.length_drop]; omega)]
 simp only[obs,splS,List.flatten_cons,List.flatten_nil,List.append_nil,List.append_assoc]
theorem zPR {l:List Nd}{it z:Nd}{s:Nat} (hl:zEl 1 l=true) (hit:it∈l) (hz:it.kids[s]? = some z):it.kind ≠ 1/\z=rowN z.kids:=by
 obtain⟨f1,f2⟩:=zGb hl hit;have hk:(it.kind == 1)=false :=(by simpa using f2);obtain⟨i1,i2,i3,i4⟩:=it;simp only[Nd.kind]at hk;simp only[Nd.kids]at hz;obtain⟨g1,g2⟩:=zGb (zJ5 f1) (List.mem_of_getElem? hz)
 rw[hk]at g2;have hz1:z.kind=1:=by
  cases e:z.kind == 1 with
  | true=>exact eq_of_beq e
  | false=>rw[e]at g2; cases g2
 exact⟨beq_eq_false_iff_ne.1 hk,(zTj g1 hz1).1⟩
theorem zQZ {l:List Nd}{it:Nd} (hl:zEl 1 l=true) (hit:it∈l):it.kind ≠ 1:=by
 obtain⟨_,f2⟩:=zGb hl hit;exact beq_eq_false_iff_ne.1 (by simpa using f2)
theorem zJE {l:List Nd} (h:zAB (rowN l)=true):zEl 1 l=true:=by
 have:=(zKq h).2;exact this
theorem zS9 (v:Nd) (h:v.kind ≠ 1):zDp v=some (v.kids.length:Int):=by
 obtain⟨a,b,c,d⟩:=v;unfold zDp;simp only[Nd.kind]at h;simp only[zBM h,cond_false,Nd.kids]
theorem zGz (n:Nat) (nodes:List Nd) (h:Nd.ws nodes+50<n) (hb:Nd.ws nodes<=67000000):zB9 n nodes=some (zAB (rowN nodes)):=by
 unfold zB9;dsimp only;rw[zC1 n _ (by simp only[Nd.w,List.length_nil]; omega) (by simp only[Nd.w,List.length_nil]; omega)]; rfl
theorem zQL (n:Nat) (l:List Nd) (slot:Int) (h:Nd.ws l+50<n) (hb:Nd.ws l<=67000000):∃ b,zC5 n l slot=some b/\(b=true↔zTa l slot):=by
 unfold zC5;dsimp only;cases e1:((l.length:Int) != 1) with
 | true=>exact⟨false,rfl,(fun h=>by cases h),fun⟨v,s,z,h,_⟩=>by rw[h]at e1; cases e1⟩
 | false =>
  have hl:l.length=1:=by
   by_cases h:(l.length:Int)=1
   ·omega
   ·rw[bne_iff_ne.2 h]at e1; cases e1
  obtain⟨v,rfl⟩:=List.length_eq_one_iff.1 hl;have hv:=zGz n [v] h hb;have h0:at? [v] (0:Int)=some v:=rfl;simp only[cond_false,hv,obs]
  cases hvb:zAB (rowN [v]) with
  | false=>exact⟨false,rfl,(fun h=>by cases h),fun⟨v',s,z,h,_,h2,_⟩=>by cases h; rw[hvb]at h2; cases h2⟩
  | true =>
   have hsl:=zS9 v (zQZ (zJE hvb) List.mem_cons_self)
   obtain⟨a,b,c,d⟩:=v;simp only[Nd.kids]at hsl;simp only[Bool.not_true,cond_false]
   by_cases h1:slot<0
   ·rw[zAF h1]
    exact⟨false,rfl,(fun h=>by cases h),fun⟨v,s,z,h,hs,_⟩=>by omega⟩
   ·rw[zAD h1]
    simp only[cond_false,h0,obs,hsl]
    by_cases h2:(d.length:Int)<=slot
    ·rw[zAF h2]
     refine⟨false,rfl,(fun h=>by cases h),fun⟨v,s,z,h,hs,_,hz,_⟩=>?_⟩
     cases h;have:=(List.getElem?_eq_some_iff.1 hz).1;simp only[Nd.kids]at this
     omega
    ·rw[zAD h2]
     obtain⟨p,rfl,hp,hg⟩:=zXt (l:=d) (i:=slot) (by omega) (by omega)
     have hz:d[p]? = some d[p]:=List.getElem?_eq_getElem hp;rw[hg]
     generalize d[p]=z at hz;obtain⟨x1,x2,x3,x4⟩:=z;simp only[cond_false,obs]
     refine⟨_,rfl,fun h=>⟨_,p,_,rfl,rfl,hvb,hz,?_⟩,fun⟨v,s,z,h,hs,_,hz',hk⟩=>?_⟩
     ·have:=eq_of_beq h;exact List.eq_nil_of_length_eq_zero (by simp only[Nd.kids]; omega)
     ·cases h;obtain rfl:p=s :=(by omega);simp only[Nd.kids]at hz';rw[hz]at hz';cases hz';simp only[Nd.kids]at hk;subst hk
      rfl
theorem zNj (n:Nat) (k:Int) (row:List Int) (a m:Int) (nodes:List Nd) (slot:Int) (old text:List UInt8) (h:Nd.ws nodes+50<n) (hb:Nd.ws nodes<=67000000) :
  ∃ b,zEy n (k,row,a,m,nodes,slot,old,text)=some b/\(b=true↔FormP (k,row,a,m,nodes,slot,old,text)):=by
 have hv:=zGz n nodes h hb;obtain⟨tb,t1,t2⟩:=zQL n nodes slot h hb;have hlen:decide (0<(nodes.length:Int))=true↔nodes ≠ [] :=(by cases nodes <;> simp);have hlen0:((nodes.length:Int) == 0)=true↔nodes=[] :=(by cases nodes <;> simp <;> omega);have htx:(bif (!(old == [])) then some true else some (!(text == [])):Option Bool)=some (!((old == [])&&(text == []))) :=(by cases old == [] <;> cases text == [] <;> rfl);unfold zEy;simp only[hv,t1,htx,obs,FormP]
 by_cases k12:k=1∨k=2
 ·have e:(bif (k == 1) then some (k == 1) else some (k == 2):Option Bool)=some true:=by rcases k12 with rfl | rfl <;> rfl
  have hk:¬ (k=3∨k=4)/\¬ k=5 :=(by omega);rw[e]
  simp only[obs,cond_true,k12,hk.1,hk.2,true_and,false_and,or_false]
  rw[← hlen]
  generalize decide (0<(nodes.length:Int))=b1;generalize zAB (rowN nodes)=b2;cases e1:m == 0 <;> simp only[cond_true,cond_false,obs]
  ·exact⟨false,rfl,by simp[beq_eq_false_iff_ne.1 e1]⟩
  cases e2:slot == 0 <;> simp only[cond_true,cond_false,obs]
  ·exact⟨false,rfl,by simp[beq_eq_false_iff_ne.1 e2]⟩
  cases e3:old == [] <;> simp only[Bool.false_and,Bool.true_and,Bool.not_false,Bool.not_not,cond_true,cond_false,obs]
  ·exact⟨false,rfl,by simp[beq_eq_false_iff_ne.1 e3]⟩
  cases e4:text == [] <;> simp only[Bool.not_true,Bool.not_false,cond_true,cond_false,obs]
  ·exact⟨false,rfl,by simp[beq_eq_false_iff_ne.1 e4]⟩
  rw[eq_of_beq e1,eq_of_beq e2,eq_of_beq e3,eq_of_beq e4]
  cases b1 <;> cases b2 <;> exact⟨_,rfl,by simp⟩
 ·have e:(bif (k == 1) then some (k == 1) else some (k == 2):Option Bool)=some false:=by
   rw[zBM (fun h=>k12 (.inl h)),zBM (fun h=>k12 (.inr h))]; rfl
  rw[e]
  simp only[obs,cond_false,k12,false_and,false_or]
  by_cases k34:k=3∨k=4
  ·have e:(bif (k == 3) then some (k == 3) else some (k == 4):Option Bool)=some true:=by rcases k34 with rfl | rfl <;> rfl
   have hk:¬ k=5 :=(by omega);rw[e]
   simp only[obs,cond_true,k34,hk,true_and,false_and,or_false]
   rw[← t2]
   by_cases hm:0<=m
   ·rw[zAF hm]
    simp only[cond_true]
    cases e3:old == [] <;> simp only[Bool.false_and,Bool.true_and,Bool.not_false,Bool.not_not,cond_true,cond_false,obs]
    ·exact⟨false,rfl,by simp[beq_eq_false_iff_ne.1 e3]⟩
    cases e4:text == [] <;> simp only[Bool.not_true,Bool.not_false,cond_true,cond_false,obs]
    ·exact⟨false,rfl,by simp[beq_eq_false_iff_ne.1 e4]⟩
    rw[eq_of_beq e3,eq_of_beq e4]
    exact⟨_,rfl,by simp[hm]⟩
   ·rw[zAD hm]
    exact⟨false,rfl,by simp[hm]⟩
  ·have e:(bif (k == 3) then some (k == 3) else some (k == 4):Option Bool)=some false:=by
    rw[zBM (fun h=>k34 (.inl h)),zBM (fun h=>k34 (.inr h))]; rfl
   rw[e]
   simp only[obs,cond_false,k34,false_and,false_or]
   by_cases k5:k=5
   ·subst k5;simp only[beq_self_eq_true,cond_true,obs,true_and]
    rw[← hlen0]
    generalize ((nodes.length:Int) == 0)=b1;cases e1:m == 0 <;> simp only[cond_true,cond_false,obs]
    ·exact⟨false,rfl,by simp[beq_eq_false_iff_ne.1 e1]⟩
    cases e2:slot == 0 <;> simp only[cond_true,cond_false,obs]
    ·exact⟨false,rfl,by simp[beq_eq_false_iff_ne.1 e2]⟩
    rw[eq_of_beq e1,eq_of_beq e2]
    cases b1 <;> simp only[cond_true,cond_false,obs]
    ·exact⟨false,rfl,by simp⟩
    cases e0:old == text <;> simp only[Bool.not_true,Bool.not_false]
    ·exact⟨true,rfl,by simp[beq_eq_false_iff_ne.1 e0]⟩
    ·exact⟨false,rfl,by simp[eq_of_beq e0]⟩
   ·rw[zBM k5]
    exact⟨false,rfl,by simp[k5]⟩
theorem zVt (k:Int) (row:List Int) (a m:Int) (nodes:List Nd) (slot:Int) (old text:List UInt8) (l:List Nd) (hl:l.length<=1073741824) :
  zBX ((k,row,a,m,nodes,slot,old,text),l)=some (if a<0∨(l.length:Int)<a∨(l.length:Int) - a<zDQ k m nodes then 2 else 0):=by
 unfold zBX;dsimp only;rw[zTw]
 simp only[obs]
 by_cases h1:a<0
 ·rw[zAF h1,if_pos (.inl h1)]; rfl
 rw[zAD h1]
 by_cases h2:(l.length:Int)<a
 ·rw[zAF h2,if_pos (.inr (.inl h2))]; rfl
 rw[zAD h2,wrap64_in (n:=(l.length:Int) - a) (by omega) (by omega)]
 by_cases h3:(l.length:Int) - a<zDQ k m nodes
 ·rw[zAF h3,if_pos (.inr (.inr h3))]; rfl
 rw[zAD h3,if_neg (fun h=>h.elim h1 fun h=>h.elim h2 h3)]; rfl
theorem zWH {v it z:Nd}{s:Nat}{y:Nd} (hv:v.kids[s]? = some y) (hy:y=rowN []) (hz:it.kids[s]? = some z) (hzr:z=rowN z.kids):Nd.mk it.kind it.text it.cols (it.kids.set s (rowN []))=v↔it=zHL v s z.kids:=by
 obtain⟨v1,v2,v3,v4⟩:=v;obtain⟨i1,i2,i3,i4⟩:=it;obtain⟨z1,z2,z3,z4⟩:=z;obtain⟨rfl,rfl,rfl,-⟩:=Nd.mk.inj hzr
 clear hzr
 simp only[Nd.kids]at hv hz;simp only[zHL,Nd.kind,Nd.text,Nd.cols,Nd.kids]
 subst hy
 constructor
 ·intro h;obtain⟨rfl,rfl,rfl,rfl⟩:=Nd.mk.inj h;rw[List.set_set]
  congr 1
  have:=zLO (y:=.mk 1 [] 0 z4) hz;rw[List.set_set]at this;exact this.symm
 ·intro h;obtain⟨rfl,rfl,rfl,rfl⟩:=Nd.mk.inj h;rw[List.set_set]
  congr 1
  have:=zLO (y:=rowN []) hv;rw[List.set_set]at this;exact this
theorem zMm (n:Nat) (l:List Nd) (k:Int) (row:List Int) (a m:Int) (nodes:List Nd) (slot:Int) (old text:List UInt8) (hf:FormP (k,row,a,m,nodes,slot,old,text)) (hv:zEl 1 l=true) (hn:2 * Nd.ws l+2 * Nd.ws nodes+50<n) (ha:Nd.ws l<=60000000) (hb:Nd.ws nodes<=2000000) :
  ∃ l' e,zCb n ((k,row,a,m,nodes,slot,old,text),l)=some (l',e)/\Chg l (k,row,a,m,nodes,slot,old,text) l' e:=by
 have la:=Nd.ws_len l;have lb:=Nd.ws_len nodes;have cl:=Nd.cnts_ws l;have cb:=Nd.cnts_ws nodes;have hnn:=zSl hf;unfold zCb;simp only[zVt _ _ _ _ _ _ _ _ l (show l.length<=1073741824 by omega),obs]
 by_cases hr:a<0∨(l.length:Int)<a∨(l.length:Int) - a<zDQ k m nodes
 ·rw[if_pos hr]; exact⟨[],2,rfl,.range hr⟩
 rw[if_neg hr]
 simp only[show((0:Int) != 0)=false from rfl,cond_false]
 have h1:¬ a<0:=fun h=>hr (.inl h)
 have h2:¬ (l.length:Int)<a:=fun h=>hr (.inr (.inl h))
 have h3:¬ (l.length:Int) - a<zDQ k m nodes:=fun h=>hr (.inr (.inr h))
 obtain⟨p,rfl⟩:=Int.eq_ofNat_of_zero_le (show 0<=a by omega)
 obtain⟨y,hy⟩:=Int.eq_ofNat_of_zero_le hnn;rw[hy]at h3;have hseg:=zXA l (Nat.le_add_right p y)
 have lseg:=Nd.ws_len ((l.take (p+y)).drop p)
 have cseg:=Nd.cnts_ws ((l.take (p+y)).drop p)
 have hj:∀ by':List Nd,by'.length<=500000000->zA1 n ((k,row,(p:Int),m,nodes,slot,old,text),l) (y:Int) by'=some (splS l p (p+y) by'):=fun by' hby=>zXX n k row p y m nodes slot old text l by' (by omega) (by omega) (by omega) hby
 rcases hf with ⟨rfl | rfl,h0⟩ | ⟨rfl | rfl,hm,⟨v,s,z,rfl,rfl,hvv,hz,hzk⟩,_⟩ | ⟨rfl,h0⟩
 ·obtain rfl:y=0 :=(by have:zDQ 1 m nodes=0:=rfl; omega);rw[show((0:Nat):Int)=0 from rfl]at hj;simp only[beq_self_eq_true,cond_true,zCF,hj nodes (by omega),obs]
  exact⟨_,0,rfl,.ins (by omega)⟩
 ·obtain rfl:y=nodes.length :=(by have:zDQ 2 m nodes=(nodes.length:Int):=rfl; omega);obtain⟨r,g1,g2⟩:=(zHu n).2 ((l.take (p+nodes.length)).drop p) nodes (by omega) (by omega)
  simp only[show((2:Int) == 1)=false from rfl,cond_false,beq_self_eq_true,cond_true,zCG]
  rw[wrap64_in (n:=(p:Int)+(nodes.length:Int)) (by omega) (by omega),← Int.natCast_add,zBf ⟨by omega,by omega,by omega⟩,Int.toNat_natCast,Int.toNat_natCast,g1]
  simp only[obs]
  cases r with
  | false=>exact⟨[],7,rfl,.del_no (by omega) fun e=>by have:=g2.2 e; cases this⟩
  | true =>
   simp only[Bool.not_true,cond_false,hj [] (by simp),obs]
   exact⟨_,0,rfl,.del (by omega) (g2.1 rfl)⟩
 ·obtain rfl:m=(y:Int):=hy;obtain⟨hvk,hzr⟩:=zPR (zJE hvv) List.mem_cons_self hz;rw[hzk]at hzr;have hv0:at? [v] (0:Int)=some v:=rfl;have hcv:=Nd.cnts_mem (List.mem_cons_self (a:=v) (l:=[]))
  have hd:zCI v=some v:=zBf ⟨by omega,fun e=>by rw[e]at hz; simp at hz⟩
  have hza:=zMg hz;have hcl:zDZ ((l.take (p+y)).drop p)=some ((l.take (p+y)).drop p):=zBf (by omega)
  have hj':=hj [zHL v s ((l.take (p+y)).drop p)] (by simp)
  have hfx:zHL v s ((l.take (p+y)).drop p)=Nd.mk v.kind v.text v.cols (v.kids.set s (rowN ((l.take (p+y)).drop p))):=rfl;rw[hfx]at hj';have hC:=Chg.wrap (l:=l) (row:=row) (p:=p) (m:=y) (v:=v) (s:=s) (old:=old) (text:=text) (by omega)
  have hfx2:zHL v s (segS l p (p+y))=Nd.mk v.kind v.text v.cols (v.kids.set s (rowN ((l.take (p+y)).drop p))):=rfl;rw[hfx2]at hC;subst hzr;obtain⟨v1,v2,v3,v4⟩:=v;simp only[Nd.kind,Nd.text,Nd.cols,Nd.kids]at hza hj' hC;unfold rowN at hza;simp only[show((3:Int) == 1)=false from rfl,show((3:Int) == 2)=false from rfl,cond_false,beq_self_eq_true,cond_true,zDh,hv0,hd,obs]
  rw[wrap64_in (n:=(p:Int)+(y:Int)) (by omega) (by omega),← Int.natCast_add,zBf ⟨by omega,by omega,by omega⟩,Int.toNat_natCast,Int.toNat_natCast,hcl]
  simp only[obs,hza,Int.toNat_natCast]
  unfold rowN at hj' hC;rw[hj']
  exact⟨_,0,rfl,hC⟩
 ·obtain rfl:y=1 :=(by have:zDQ 4 m [v]=1:=rfl; omega);obtain⟨hvk,hzr⟩:=zPR (zJE hvv) List.mem_cons_self hz;rw[hzk]at hzr;have hv0:at? [v] (0:Int)=some v:=rfl;have hpl:p<l.length :=(by omega);have hit:l[p]? = some l[p]:=List.getElem?_eq_getElem hpl;have hia:at? l (p:Int)=some l[p]:=zAJ hpl;have hmem:=List.getElem_mem hpl;generalize l[p]=it at hit hia hmem;have hiw:=Nd.w_mem hmem;have hic:=Nd.cnt_w it;have hik:=zQZ hv hmem;have hslots:=zS9 it hik;have hdn:zAX it=some it:=zGJ (by omega)
  have hwi:=zGD it;have hlk4:=Nd.ws_len it.kids;simp only[show((4:Int) == 1)=false from rfl,show((4:Int) == 2)=false from rfl,show((4:Int) == 3)=false from rfl,cond_false,beq_self_eq_true,cond_true]
  have hnone:zBn ((4,row,(p:Int),m,[v],(s:Int),old,text),l)=if (it.kids.length:Int)<=(s:Int) then some ([],7) else none:=by
   unfold zBn;simp only[hia]
   by_cases h:(it.kids.length:Int)<=(s:Int)
   ·rw[if_pos h]
    obtain⟨i1,i2,i3,i4⟩:=it;simp only[Nd.kids]at h hslots;simp only[obs,hdn,hslots,zAF h]; rfl
   ·rw[if_neg h]
    obtain⟨i1,i2,i3,i4⟩:=it;simp only[Nd.kids]at h hslots;simp only[obs,hdn,hslots,zAD h]; rfl
  by_cases hsl:(it.kids.length:Int)<=(s:Int)
  ·have:zBj n ((4,row,(p:Int),m,[v],(s:Int),old,text),l)=some ([],7):=by
    unfold zBj;rw[hnone,if_pos hsl]
   rw[this]
   refine⟨[],7,rfl,.unwrap_no hit fun z' hz'=>?_⟩
   have:=(List.getElem?_eq_some_iff.1 hz').1
   omega
  have hsi:s<it.kids.length :=(by omega);have hzi:it.kids[s]? = some it.kids[s]:=List.getElem?_eq_getElem hsi;generalize it.kids[s]=z' at hzi;obtain⟨_,hzr'⟩:=zPR hv hmem hzi;have hzw:=Nd.w_mem (List.mem_of_getElem? hzi)
  have hzw2:=zGD z';have hzl:=Nd.ws_len z'.kids;have hfi:=zWH hz hzr hzi hzr';have hws:=zJF (y:=rowN []) hzi;have hj':=hj z'.kids (by omega)
  rw[show((1:Nat):Int)=1 from rfl]at hj';have hcs:(Nd.mk it.kind it.text it.cols (it.kids.set s (rowN []))).cnt<=it.w+1:=by
   have h1:=Nd.cnt_w (Nd.mk it.kind it.text it.cols (it.kids.set s (rowN [])))
   have e:(rowN []).w=1:=rfl;simp only[Nd.w]at h1
   omega
  obtain⟨rb,g1,g2⟩:=(zHu n).1 (Nd.mk it.kind it.text it.cols (it.kids.set s (rowN []))) v (by omega) (by omega)
  have hdo:zCI it=some it:=zBf ⟨by omega,fun e=>by rw[e]at hzi; simp at hzi⟩
  have hza:=zMg hzi;have hkids:∃ l' e,zBm n ((4,row,(p:Int),m,[v],(s:Int),old,text),l)=some (l',e)/\Chg l (4,row,(p:Int),m,[v],(s:Int),old,text) l' e:=by
   unfold zBm;obtain⟨i1,i2,i3,i4⟩:=it;obtain⟨v1,v2,v3,v4⟩:=v;obtain⟨z1,z2,z3,z4⟩:=z';obtain⟨rfl,rfl,rfl,-⟩:=Nd.mk.inj hzr';simp only[Nd.kind,Nd.text,Nd.cols,Nd.kids]at hza g1 hslots hj' hsl;simp only[hia,obs,hdo,hslots,zAD hsl,cond_false,hza,hv0,Int.toNat_natCast]
   by_cases hmz:(z4.length:Int)=m
   ·have:((z4.length:Int) != m)=false :=(by unfold bne; rw[beq_iff_eq.2 hmz]; rfl);unfold rowN at g1;rw[this]
    simp only[cond_false,g1,obs]
    cases rb with
    | false =>
     refine⟨[],7,rfl,.unwrap_no hit fun z'' hz'' hm'' he=>?_⟩
     rw[hzi]at hz'';cases hz'';have:=g2.2 (hfi.2 he)
     cases this
    | true =>
     simp only[Bool.not_true,cond_false,hj',obs]
     exact⟨_,0,rfl,.unwrap (z:=.mk 1 [] 0 z4) hit hzi hmz (hfi.1 (g2.1 rfl))⟩
   ·have:((z4.length:Int) != m)=true:=bne_iff_ne.2 hmz;rw[this]
    refine⟨[],7,rfl,.unwrap_no hit fun z'' hz'' hm'' he=>?_⟩
    rw[hzi]at hz'';cases hz'';exact hmz hm''
  obtain⟨l',e,h4,h5⟩:=hkids;have:zBj n ((4,row,(p:Int),m,[v],(s:Int),old,text),l)=some (l',e):=by
   unfold zBj;rw[hnone,if_neg hsl]
   exact h4
  rw[this]
  exact⟨l',e,rfl,h5⟩
 ·obtain rfl:y=1 :=(by have:zDQ 5 m nodes=1:=rfl; omega);have hpl:p<l.length :=(by omega);have hit:l[p]? = some l[p]:=List.getElem?_eq_getElem hpl;have hia:at? l (p:Int)=some l[p]:=zAJ hpl;generalize l[p]=it at hit hia;obtain⟨i1,i2,i3,i4⟩:=it;rw[show((1:Nat):Int)=1 from rfl]at hj;simp only[show((5:Int) == 1)=false from rfl,show((5:Int) == 2)=false from rfl,show((5:Int) == 3)=false from rfl,show((5:Int) == 4)=false from rfl,cond_false,zDF,hia,obs,zTp]
  cases hlf:zUk i1 with
  | false=>exact⟨[],7,rfl,.set_no hit fun h=>by have:=h.1; simp only[Nd.kind]at this; rw[hlf]at this; cases this⟩
  | true =>
   simp only[cond_true,obs]
   cases ht:i2 == old with
   | false=>exact⟨[],7,rfl,.set_no hit fun h=>beq_eq_false_iff_ne.1 ht h.2⟩
   | true =>
    simp only[Bool.not_true,cond_false,hj [Nd.mk i1 text i3 i4] (by simp),obs]
    exact⟨_,0,rfl,.set (it:=.mk i1 i2 i3 i4) hit hlf (eq_of_beq ht)⟩
theorem zJ3 (n:Nat) (t:Nd) (o:Op8) (hn:200000000<n) (ht:t.w<=50000000) (hb:Nd.ws o.nodes<=2000000) (hx:o.2.2.2.2.2.2.2.length<=2000000):∃ t' e,zEm n t o=some (t',e)/\App t o t' e:=by
 obtain⟨k,row,a,m,nodes,slot,old,text⟩:=o;simp only[Op8.nodes]at hb;dsimp only at hx;have v1:=zC1 n t (by omega) (by omega)
 have ct:=Nd.cnt_w t;obtain⟨b,f1,f2⟩:=zNj n k row a m nodes slot old text (by omega) (by omega)
 have e1:=zSm n t row v1 (by omega)
 have hwith:∀ r l,Fd t row r->Nd.ws l<=5000000+r.w->zEQ n t row (rowN l)=some (zS3 t row (rowN l)):=fun r l h hl=>by
  have hs:=h.small;have hc:(rowN l).w=Nd.ws l+1 :=(by simp[rowN,Nd.w]);refine zRa n t row (rowN l) v1 (zC1 n _ (by omega) (by omega)) (fun z hz=>?_) (by omega) (by have:=Nd.cnt_w (rowN l); omega)
  obtain rfl:=h.det hz;have:=h.w (rowN l)
  exact zC1 n _ (by omega) (by omega)
 obtain⟨t1,t2,t3,t4⟩:=t;unfold zEm;simp only[v1,f1,e1,obs]
 cases hv:zAB (.mk t1 t2 t3 t4) with
 | false=>exact⟨_,1,rfl,.arg hv⟩
 | true =>
  simp only[Bool.not_true,cond_false]
  cases b with
  | false=>exact⟨_,4,rfl,.form hv fun h=>by have:=f2.2 h; cases this⟩
  | true =>
   have hf:=f2.1 rfl;simp only[Bool.not_true,cond_false,rowS,if_pos hv]
   cases hfd:zBt (.mk t1 t2 t3 t4) row with
   | none=>exact⟨_,8,rfl,.none hv hf hfd⟩
   | some r =>
    have hr':=zWF hfd;have hsm:=hr'.small;have hwr:=zGD r;have hvr:=hr'.valid hv;have hrr:=(zKq hvr).1;have hfr:=(zKq hvr).2;obtain⟨l',e,c1,c2⟩:=zMm n r.kids k row a m nodes slot old text hf hfr (by omega) (by omega) (by omega)
    obtain⟨r1,r2,r3,r4⟩:=r;obtain⟨rfl,rfl,rfl,-⟩:=Nd.mk.inj hrr;simp only[Nd.kids]at c1 c2 hwr;simp only[obs,show((0:Int) != 0)=false from rfl,cond_false,c1]
    by_cases he:e=0
    ·subst he;have hcw:=c2.w;have hw:=hwith _ l' hr' (by omega)
     unfold rowN at hw;simp only[show((0:Int) != 0)=false from rfl,cond_false,hw,obs]
     cases hvo:zAB (putL (.mk t1 t2 t3 t4) row (rowN l')) with
     | false =>
      have hL:=App.limit (t:=.mk t1 t2 t3 t4) (o:=(k,row,a,m,nodes,slot,old,text)) hv hf hr' c2 hvo;have hws:∃ q,zS3 (.mk t1 t2 t3 t4) row (.mk 1 [] 0 l')=(zCw,q)/\q ≠ 0:=by
       unfold zS3;rw[if_pos hv,hfd]
       dsimp only
       by_cases h:zAB (.mk 1 [] 0 l')=true
       ·rw[if_pos h]
        unfold rowN at hvo;rw[hvo,if_neg (by decide)]
        exact⟨6,rfl,by decide⟩
       ·rw[if_neg h]; exact⟨4,rfl,by decide⟩
      obtain⟨q,hq,hq0⟩:=hws;rw[hq]
      have:(q != 0)=true:=bne_iff_ne.2 hq0;simp only[zCw,this,cond_true]
      exact⟨_,6,rfl,hL⟩
     | true =>
      have hO:=App.ok (t:=.mk t1 t2 t3 t4) (o:=(k,row,a,m,nodes,slot,old,text)) hv hf hr' c2 hvo;have hvl:=(hr'.put (rowN l')).valid hvo;have hws:=zXp (r:=rowN l') hv hfd hvl hvo;unfold rowN at hws;rw[hws]
      dsimp only at hO;unfold rowN at hO;generalize putL (Nd.mk t1 t2 t3 t4) row (Nd.mk 1 [] 0 l')=Z at *;obtain⟨q1,q2,q3,q4⟩:=Z;exact⟨_,0,rfl,hO⟩
    ·have:(e != 0)=true:=bne_iff_ne.2 he;simp only[this,cond_true]
     exact⟨_,e,rfl,.chg (t:=.mk t1 t2 t3 t4) (o:=(k,row,a,m,nodes,slot,old,text)) hv hf hr' c2 he⟩
theorem App.w {t t':Nd}{o:Op8}{e:Int} (h:App t o t' e):t'.w<=t.w+Nd.ws o.nodes+o.2.2.2.2.2.2.2.length+4:=by
 have hz:zCw.w=1:=rfl;obtain⟨k,row,a,m,nodes,slot,old,text⟩:=o;simp only[Op8.nodes]
 cases h with
 | arg=>omega
 | form=>omega
 | none=>omega
 | chg=>omega
 | limit=>omega
 | @ok r l h hf hr hc hv =>
  have h1:=hr.w (rowN l)
  have h2:=hc.w;have h3:=zGD r;have h4:(rowN l).w=Nd.ws l+1 :=(by simp[rowN,Nd.w]);dsimp only at h1 ⊢
  omega
def Op8.row (o:Op8):List Int:=o.2.1
def Op8.text (o:Op8):List UInt8:=o.2.2.2.2.2.2.2
theorem zXO (n:Nat) (t:Nd) (o:Op8) (hn:200000000<n) (ht:t.w<=50000000) (hb:Nd.ws o.nodes<=2000000) (hx:o.text.length<=2000000) (hr:o.row.length<=2000000) :
  ∃ t' e,zEm n t o=some (t',e)/\zD8 n t o=some (t',e)/\App t o t' e:=by
 obtain⟨t1,e1,f1,g1⟩:=zJ3 n t o hn ht hb hx;obtain⟨t2,e2,f2,g2⟩:=zLp n t o hn ht hb hx hr;obtain⟨rfl,rfl⟩:=g1.det g2;exact⟨_,_,f1,f2,g1⟩
inductive Runs:Nd->List Op8->Nd->Int->Prop
 | nil (t:Nd):Runs t [] t 0
 | stop {t t':Nd} {o:Op8} {ops:List Op8} {e:Int} (h:App t o t' e) (he:e ≠ 0):Runs t (o::ops) zCw e
 | next {t t' u:Nd} {o:Op8} {ops:List Op8} {e:Int} (h:App t o t' 0) (hr:Runs t' ops u e):Runs t (o::ops) u e
def endOf (f:Fl (Nd×Int×Int) (Int×List UInt8×Int×List Nd)):Nd×Int×Int:=match f with
 | .ret r=>r
 | .go (a,b,c,d)=>(.mk a b c d,0,0)
theorem zTc (n:Nat) (hn:200000000<n){ops:List Op8} (ho:∀ o∈ops,Nd.ws o.nodes+o.text.length+o.row.length<=1048576) (hl:ops.length<=12):∀ (k i:Nat) (t:Nd),ops.length - i<k->i<=ops.length->t.w<=17000000+i * 1048580 ->
  ∃ f,zBc n ops k t.kind t.text t.cols t.kids (i:Int)=some f/\zBF n ops k t.kind t.text t.cols t.kids (i:Int)=some f/\Runs t (ops.drop i) (endOf f).1 (endOf f).2.2/\(endOf f).1.w<=36000000
 | 0,i,t,h,_,_=>by omega
 | k+1,i,t,h,hi,hw=>by
  unfold zBc zBF
  by_cases hj:i<ops.length
  ·have hb:=ho _ (List.getElem_mem hj)
   have hd:=List.drop_eq_getElem_cons hj;obtain⟨t',e,g1,g2,g3⟩:=zXO n t ops[i] hn (by omega) (by omega) (by omega) (by omega)
   have hw':=g3.w;rw[zAF (Int.ofNat_lt.2 hj),zAJ hj,hd]
   simp only[cond_true]
   generalize ops[i]=o at *;obtain⟨q1,q2,q3,q4,q5,q6,q7,q8⟩:=o;obtain⟨t1,t2,t3,t4⟩:=t;have ih:=zTc n hn ho hl k (i+1) t' (by omega) (by omega) (by simp only[Op8.text]at hb; dsimp only at hw' hb; simp only[Nat.add_mul]; omega)
   obtain⟨u1,u2,u3,u4⟩:=t';simp only[Nd.kind,Nd.text,Nd.cols,Nd.kids]at ih ⊢;simp only[obs,g1,g2]
   by_cases he:e=0
   ·subst he;simp only[show((0:Int) != 0)=false from rfl,cond_false,zAH (show i<9223372036854775807 by omega)]
    obtain⟨f,h1,h2,h3,h4⟩:=ih;exact⟨f,h1,h2,.next g3 h3,h4⟩
   ·have hne:(e != 0)=true:=bne_iff_ne.2 he;simp only[hne,cond_true]
    exact⟨_,rfl,rfl,.stop g3 he,by show zCw.w<=36000000; decide⟩
  ·rw[zAD (by omega),List.drop_eq_nil_iff.2 (by omega)]
   obtain⟨t1,t2,t3,t4⟩:=t;simp only[cond_false]
   refine⟨_,rfl,rfl,.nil _,?_⟩
   show(Nd.mk t1 t2 t3 t4).w<=36000000;have:i * 1048580<=12 * 1048580:=Nat.mul_le_mul_right _ (by omega)
   omega
inductive zWr (t:Nd) (ops:List Op8):Nd->Int->Prop
 | bad (h:zAB t=false):zWr t ops zCw 1
 | go {u:Nd} {e:Int} (h:zAB t=true) (hr:Runs t ops u e):zWr t ops u e
theorem zYr (n:Nat) (t:Nd) (ops:List Op8) (hn:200000000<n) (ht:t.w<=17000000) (ho:∀ o∈ops,Nd.ws o.nodes+o.text.length+o.row.length<=1048576) (hl:ops.length<=12) :
  ∃ u i e,zBh n t ops=some (u,i,e)/\zB4 n t ops=some (u,i,e)/\zWr t ops u e/\u.w<=36000000:=by
 have ct:=Nd.cnt_w t;have v1:=zC1 n t (by omega) (by omega)
 have v2:=zEr n t (by omega) (by omega)
 have hd:zAX t=some t:=zGJ (by omega)
 obtain⟨f,h1,h2,h3,h4⟩:=zTc n hn ho hl n 0 t (by omega) (by omega) (by omega)
 rw[show((0:Nat):Int)=0 from rfl]at h1 h2;rw[List.drop_zero]at h3;obtain⟨t1,t2,t3,t4⟩:=t;simp only[Nd.kind,Nd.text,Nd.cols,Nd.kids]at h1 h2;unfold zBh zB4;simp only[v1,v2,obs,hd,h1,h2]
 cases hv:zAB (.mk t1 t2 t3 t4) with
 | false=>exact⟨_,0,1,rfl,rfl,.bad hv,by decide⟩
 | true =>
  simp only[Bool.not_true,cond_false]
  cases f with
  | ret r =>
   obtain⟨u,i,e⟩:=r;exact⟨u,i,e,rfl,rfl,.go hv h3,h4⟩
  | go g =>
   obtain⟨a,b,c,d⟩:=g;exact⟨_,0,0,rfl,rfl,.go hv h3,h4⟩
theorem zWb (l b:List Nd){p q:Nat} (hp:p<=l.length):segS (splS l p q b) p (p+b.length)=b:=by
 have h:(l.take p).length=p :=(by rw[List.length_take]; omega);unfold segS splS;rw[List.append_assoc,List.take_append,List.take_of_length_le (by omega),h,show p+b.length - p=b.length by omega,List.take_left,List.drop_append,List.drop_of_length_le (by omega),h,Nat.sub_self]
 rfl
theorem zM3 (l b c:List Nd){p q:Nat} (hp:p<=l.length):splS (splS l p q b) p (p+b.length) c=splS l p q c:=by
 have h:(l.take p).length=p :=(by rw[List.length_take]; omega);unfold splS;have e1:((l.take p++b)++l.drop q).take p=l.take p:=by
  rw[List.append_assoc,List.take_append,h,Nat.sub_self,List.take_take,Nat.min_self]; simp
 have e2:((l.take p++b)++l.drop q).drop (p+b.length)=l.drop q:=by
  rw[List.drop_append,List.length_append,h,Nat.sub_self,List.drop_of_length_le (by rw[List.length_append,h]; omega)]; simp
 rw[e1,e2]
theorem zM2 (l:List Nd){p q:Nat} (hpq:p<=q):splS l p q (segS l p q)=l:=by
 unfold splS segS;have:l.take p++(l.take q).drop p=l.take q:=by
  have h:=List.take_append_drop p (l.take q)
  rw[List.take_take,Nat.min_eq_left hpq]at h;exact h
 rw[this,List.take_append_drop]
theorem zS1 (l b:List Nd){p q:Nat} (hp:p<=q) (hq:q<=l.length):(splS l p q b).length+(q - p)=l.length+b.length:=by
 unfold splS;simp only[List.length_append,List.length_take,List.length_drop]
 omega
theorem zYc (l:List Nd){p q:Nat} (hp:p<=q) (hq:q<=l.length):(segS l p q).length=q - p:=by
 unfold segS;simp only[List.length_take,List.length_drop]
 omega
theorem zXz {l:List Nd}{p:Nat}{it:Nd} (h:l[p]? = some it):segS l p (p+1)=[it]:=by
 have:=zS0 l (List.getElem?_eq_some_iff.1 h).1;rw[segS,this,(List.getElem?_eq_some_iff.1 h).2]
theorem zXB (l:List Nd){p q:Nat} (x:Nd) (hp:p<=l.length):(splS l p q [x])[p]? = some x:=by
 have h:(l.take p).length=p :=(by rw[List.length_take]; omega);unfold splS;rw[List.append_assoc,List.getElem?_append_right (by omega),h,Nat.sub_self]; rfl
theorem cnt_kids (v:Nd):v.cnt=Nd.cnts v.kids+1:=by cases v; simp only[Nd.cnt,Nd.kids]; try omega
def invO:Op8->Op8
 | (k,row,a,m,nodes,slot,old,text) =>
  (if k=1 then 2 else if k=2 then 1 else if k=3 then 4 else if k=4 then 3 else k,row,a,m,nodes,slot,if k=5 then text else old,if k=5 then old else text)
theorem FormP.inv {o:Op8} (h:FormP o):FormP (invO o):=by
 obtain⟨k,row,a,m,nodes,slot,old,text⟩:=o;rcases h with ⟨rfl | rfl,h⟩ | ⟨rfl | rfl,h⟩ | ⟨rfl,h1,h⟩
 ·exact .inl ⟨.inr rfl,h⟩
 ·exact .inl ⟨.inl rfl,h⟩
 ·exact .inr (.inl ⟨.inr rfl,h⟩)
 ·exact .inr (.inl ⟨.inl rfl,h⟩)
 ·exact .inr (.inr ⟨rfl,Ne.symm h1,h⟩)
theorem Chg.inv {l l':List Nd}{o:Op8} (hf:FormP o) (h:Chg l o l' 0):Chg l' (invO o) l 0:=by
 obtain⟨k,row,a,m,nodes,slot,old,text⟩:=o;cases h with
 | @ins _ p _ _ _ _ _ h =>
  have hl:=zS1 l nodes (Nat.le_refl p) h;have h1:=zWb l nodes (q:=p) h;have h2:=zM3 l nodes [] (q:=p) h;have h3:=zM2 l (Nat.le_refl p)
  have h4:segS l p p=[] :=(by unfold segS; simp);rw[h4]at h3;have:=Chg.del (l:=splS l p p nodes) (row:=row) (p:=p) (m:=m) (nodes:=nodes) (slot:=slot) (old:=old) (text:=text) (by omega) h1;rw[h2,h3]at this;exact this
 | @del _ p _ _ _ _ _ h he =>
  have hl:=zS1 l [] (Nat.le_add_right p nodes.length) h;have h2:=zM3 l [] nodes (q:=p+nodes.length) (p:=p) (by omega)
  have h3:=zM2 l (Nat.le_add_right p nodes.length)
  rw[he]at h3;simp only[List.length_nil,Nat.add_zero]at h2;have:=Chg.ins (l:=splS l p (p+nodes.length) []) (row:=row) (p:=p) (m:=m) (nodes:=nodes) (slot:=slot) (old:=old) (text:=text) (by simp only[List.length_nil]at hl; omega)
  rw[h2,h3]at this;exact this
 | @wrap _ p m v s _ _ h =>
  have ht:zTa [v] (s:Int):=by
   rcases hf with ⟨h0 | h0,_⟩ | ⟨_,_,h0,_⟩ | ⟨h0,_⟩
   ·cases h0
   ·cases h0
   ·exact h0
   ·cases h0
  obtain⟨v',s',z,e1,e2,_,hz,hk⟩:=ht;cases e1;obtain rfl:=Int.ofNat.inj e2;have h1:=zXB l (q:=p+m) (zHL v s (segS l p (p+m))) (p:=p) (by omega)
  have h2:=zM3 l [zHL v s (segS l p (p+m))] (segS l p (p+m)) (q:=p+m) (p:=p) (by omega)
  rw[zM2 l (Nat.le_add_right p m)]at h2;have hk2:(zHL v s (segS l p (p+m))).kids[s]? = some (rowN (segS l p (p+m))):=zRF hz;have hm:((rowN (segS l p (p+m))).kids.length:Int)=(m:Int):=by
   have:=zYc l (Nat.le_add_right p m) h;show((segS l p (p+m)).length:Int)=m
   omega
  have:=Chg.unwrap (row:=row) (v:=v) (old:=old) (text:=text) h1 hk2 hm rfl;rw[show(rowN (segS l p (p+m))).kids=segS l p (p+m) from rfl]at this;simp only[List.length_cons,List.length_nil,Nat.zero_add]at h2;rw[h2]at this;exact this
 | @unwrap _ p _ v it z s _ _ h hz hm he =>
  have hp:=(List.getElem?_eq_some_iff.1 h).1;have hl:=zS1 l z.kids (Nat.le_add_right p 1) (by omega)
  have h1:=zWb l z.kids (q:=p+1) (p:=p) (by omega)
  have h2:=zM3 l z.kids [zHL v s z.kids] (q:=p+1) (p:=p) (by omega)
  have h3:=zM2 l (Nat.le_add_right p 1)
  rw[zXz h,he]at h3;rw[h3]at h2;subst hm;have:=Chg.wrap (l:=splS l p (p+1) z.kids) (row:=row) (p:=p) (m:=z.kids.length) (v:=v) (s:=s) (old:=old) (text:=text) (by omega)
  rw[h1,h2]at this;exact this
 | @set _ p _ _ it _ _ _ h hl he =>
  have hp:=(List.getElem?_eq_some_iff.1 h).1;have h1:=zXB l (q:=p+1) (.mk it.kind text it.cols it.kids) (p:=p) (by omega)
  have h2:=zM3 l [.mk it.kind text it.cols it.kids] [it] (q:=p+1) (p:=p) (by omega)
  have h3:=zM2 l (Nat.le_add_right p 1)
  rw[zXz h]at h3;rw[h3]at h2;simp only[List.length_cons,List.length_nil,Nat.zero_add]at h2;have:=Chg.set (row:=row) (m:=m) (nodes:=nodes) (slot:=slot) (old:=text) (text:=old) h1 hl rfl;obtain⟨i1,i2,i3,i4⟩:=it;have he:i2=old:=he;subst he;simp only[Nd.kind,Nd.cols,Nd.kids]at this h2;rw[h2]at this;exact this
theorem zPd (o:Op8):(invO o).2.1=o.2.1:=rfl
theorem App.inv {t t':Nd}{o:Op8} (h:App t o t' 0):App t' (invO o) t 0/\zAB t'=true:=by
 cases h with
 | chg h hf hr hc he=>exact absurd rfl he
 | @ok r l h hf hr hc hv =>
  have hrr:=(zKq (hr.valid h)).1;have hput:=hr.put (rowN l)
  have hb:=hr.back (rowN l)
  have hci:=hc.inv hf;have:App (putL t o.2.1 (rowN l)) (invO o) (putL (putL t o.2.1 (rowN l)) (invO o).2.1 (rowN r.kids)) 0:=by
   refine App.ok hv hf.inv (r:=rowN l) (by rw[zPd]; exact hput) hci ?_;rw[zPd,show rowN r.kids=r from hrr.symm,hb]
   exact h
  rw[zPd,show rowN r.kids=r from hrr.symm,hb]at this;exact⟨this,hv⟩
theorem zGq {t:Nd} (h:zAB t=true):t.kind=1/\zFa t=true/\t.cnt<=1000/\t.dep<=24:=by
 unfold zAB at h;simp only[Bool.and_eq_true,decide_eq_true_eq]at h;exact⟨eq_of_beq h.1,h.2⟩
def opw (o:Op8):Nat:=Nd.ws o.nodes+o.text.length+4
def sw:List Op8->Nat
 | []=>0
 | o::l=>opw o+sw l
theorem zXC:∀ a b:List Op8,sw (a++b)=sw a+sw b
 | [],b=>by simp[sw]
 | o::a,b=>by simp only[List.cons_append,sw,zXC a b]; omega
theorem zWf:∀ l:List Op8,4 * l.length<=sw l
 | []=>Nat.zero_le _
 | o::l=>by
  have:=zWf l;simp only[List.length_cons,sw,opw]
  omega
theorem zQQ (n:Nat) (hn:200000000<n){ops:List Op8} (hl:ops.length<=10000000) (ho:∀ o∈ops,opw o<=1900000):∀ (k i:Nat) (t:Nd),ops.length - i<k->i<=ops.length->t.w+sw (ops.drop i)<=40000000 ->
  ∃ f,zBc n ops k t.kind t.text t.cols t.kids (i:Int)=some f/\Runs t (ops.drop i) (endOf f).1 (endOf f).2.2/\((endOf f).2.2=0->(endOf f).2.1=0)
 | 0,i,t,h,_,_=>by omega
 | k+1,i,t,h,hi,hw=>by
  unfold zBc
  by_cases hj:i<ops.length
  ·have hd:=List.drop_eq_getElem_cons hj;have hs:=ho _ (List.getElem_mem hj)
   rw[hd]at hw;simp only[sw]at hw;unfold opw at hw hs;obtain⟨t',e,g1,g3⟩:=zJ3 n t ops[i] hn (by omega) (by omega) (by simp only[Op8.text]at hs; omega)
   have hw':=g3.w;rw[zAF (Int.ofNat_lt.2 hj),zAJ hj,hd]
   simp only[cond_true]
   generalize ops[i]=o at *;obtain⟨q1,q2,q3,q4,q5,q6,q7,q8⟩:=o;obtain⟨t1,t2,t3,t4⟩:=t;have ih:=zQQ n hn hl ho k (i+1) t' (by omega) (by omega) (by simp only[Op8.text]at hw; dsimp only at hw' hw; omega)
   obtain⟨u1,u2,u3,u4⟩:=t';simp only[Nd.kind,Nd.text,Nd.cols,Nd.kids]at ih ⊢;simp only[obs,g1]
   by_cases he:e=0
   ·subst he;simp only[show((0:Int) != 0)=false from rfl,cond_false,zAH (show i<9223372036854775807 by omega)]
    obtain⟨f,h1,h3,h4⟩:=ih;exact⟨f,h1,.next g3 h3,h4⟩
   ·have hne:(e != 0)=true:=bne_iff_ne.2 he;simp only[hne,cond_true]
    exact⟨_,rfl,.stop g3 he,fun h=>absurd h he⟩
  ·rw[zAD (by omega),List.drop_eq_nil_iff.2 (by omega)]
   obtain⟨t1,t2,t3,t4⟩:=t;simp only[cond_false]
   exact⟨_,rfl,.nil _,fun _=>rfl⟩
theorem zVp (n:Nat) (t:Nd) (ops:List Op8) (hn:200000000<n) (hw:t.w+sw ops<=40000000) (ho:∀ o∈ops,opw o<=1900000) :
  ∃ u i e,zBh n t ops=some (u,i,e)/\zWr t ops u e/\(e=0->i=0):=by
 have ct:=Nd.cnt_w t;have sl:=zWf ops;have v1:=zC1 n t (by omega) (by omega)
 have hd:zAX t=some t:=zGJ (by omega)
 obtain⟨f,h1,h3,h4⟩:=zQQ n hn (ops:=ops) (by omega) ho n 0 t (by omega) (by omega) (by rw[List.drop_zero]; exact hw)
 rw[show((0:Nat):Int)=0 from rfl]at h1;rw[List.drop_zero]at h3;obtain⟨t1,t2,t3,t4⟩:=t;simp only[Nd.kind,Nd.text,Nd.cols,Nd.kids]at h1;unfold zBh;simp only[v1,obs,hd,h1]
 cases hv:zAB (.mk t1 t2 t3 t4) with
 | false=>exact⟨_,0,1,rfl,.bad hv,fun h=>by cases h⟩
 | true =>
  simp only[Bool.not_true,cond_false]
  cases f with
  | ret r =>
   obtain⟨u,i,e⟩:=r;exact⟨u,i,e,rfl,.go hv h3,h4⟩
  | go g =>
   obtain⟨a,b,c,d⟩:=g;exact⟨_,0,0,rfl,.go hv h3,fun _=>rfl⟩
theorem zHj {v:Nd}:v.w=v.text.length+Nd.ws v.kids+1:=by cases v; rfl
theorem zXd {t u u':Nd}{ops:List Op8}{e e':Int} (h:Runs t ops u e) (h':Runs t ops u' e'):u=u'/\e=e':=by
 induction h generalizing u' e' with
 | nil t=>cases h'; exact⟨rfl,rfl⟩
 | stop h he =>
  cases h' with
  | stop g _=>exact⟨rfl,(h.det g).2⟩
  | next g _=>exact absurd (h.det g).2 he
 | next h _ ih =>
  cases h' with
  | stop g he=>exact absurd (h.det g).2.symm he
  | next g gr =>
   obtain⟨rfl,_⟩:=h.det g;exact ih gr
theorem zOg (n:Nat){l:List Nd} (hb:Nd.cnts l<=16777216):∀ (k i:Nat),l.length - i<k->i<=l.length->zBu l k (i:Int) (l.take i)=some l
 | 0,i,h,_=>by omega
 | k+1,i,h,hi=>by
  have hlen:=Nd.cnts_len l;unfold zBu
  by_cases hj:i<l.length
  ·have hm:=Nd.cnts_mem (List.getElem_mem hj)
   have hd:zAX l[i]=some l[i]:=zGJ (by omega)
   have ht:l.take i++[l[i]]=l.take (i+1) :=(by rw[List.take_append_getElem hj]);rw[zAF (Int.ofNat_lt.2 hj),cond_true,zAJ hj]
   have ih:=zOg n hb k (i+1) (by omega) (by omega)
   rw[← ht]at ih;generalize l[i]=v at *;obtain⟨v1,v2,v3,v4⟩:=v;simp only[obs,hd]
   rw[zBf (by simp only[List.length_take,List.length_cons,List.length_nil]; omega),zAH (show i<9223372036854775807 by omega),ih]
  ·rw[zAD (by omega),cond_false,List.take_of_length_le (by omega)]
theorem zUP (n:Nat) (o:Op8) (hn:Nd.cnts o.nodes<n) (hb:Nd.cnts o.nodes<=16777216) (hr:o.row.length<=16777216):zB0 n o=some (invO o):=by
 obtain⟨k,row,a,m,nodes,slot,old,text⟩:=o;simp only[Op8.nodes,Op8.row]at hn hb hr;have hlen:=Nd.cnts_len nodes;have h1:zBG row=some row:=zBf (by omega)
 have h2:=zOg n hb n 0 (by omega) (by omega)
 rw[show((0:Nat):Int)=0 from rfl,List.take_zero]at h2;unfold zB0 zFd zDn zFc;simp only[h1,h2,obs]
 unfold invO;dsimp only
 by_cases k1:k=1
 ·subst k1; rfl
 by_cases k2:k=2
 ·subst k2; rfl
 by_cases k3:k=3
 ·subst k3; rfl
 by_cases k4:k=4
 ·subst k4; rfl
 by_cases k5:k=5
 ·subst k5; rfl
 rw[zBM k1,zBM k2,zBM k3,zBM k4,zBM k5,if_neg k1,if_neg k2,if_neg k3,if_neg k4,if_neg k5,if_neg k5]
 rfl
theorem zOu (r:List Int) (hl:r.length<=1073741824):∀ (k i:Nat),r.length - i<k->i<=r.length->zCX r r k (i:Int)=some (.go ())
 | 0,i,h,_=>by omega
 | k+1,i,h,hi=>by
  unfold zCX
  by_cases hj:i<r.length
  ·rw[zAF (Int.ofNat_lt.2 hj),cond_true,zAJ hj]
   simp only[obs,bne_self_eq_false,cond_false]
   rw[zAH (by omega),zOu r hl k (i+1) (by omega) (by omega)]
  ·rw[zAD (by omega)]; rfl
theorem zV9 (n:Nat) (o:Op8) (hn:2 * Nd.cnts o.nodes+10<n) (hc:Nd.cnts o.nodes<=67000000) (hr:o.row.length<=1073741824) (hrn:o.row.length<n):zFR n o o=some true:=by
 obtain⟨k,row,a,m,nodes,slot,old,text⟩:=o;simp only[Op8.nodes,Op8.row]at hn hc hr hrn;obtain⟨b,h1,h2⟩:=(zJG n).2 nodes nodes (by omega) (by omega)
 obtain rfl:=h2.2 rfl;have h3:=zOu row hr n 0 (by omega) (by omega)
 rw[show((0:Nat):Int)=0 from rfl]at h3;unfold zFR;simp only[bne_self_eq_false,cond_false,beq_self_eq_true,Bool.not_true,obs,h3,h1]
theorem zLs (n:Nat){ops:List Op8} (hs:∀ o∈ops,zFR n o o=some true) (hl:ops.length<=1073741824):∀ (k i:Nat),ops.length - i<k->i<=ops.length->zBU n ops ops k (i:Int)=some (.go ())
 | 0,i,h,_=>by omega
 | k+1,i,h,hi=>by
  unfold zBU
  by_cases hj:i<ops.length
  ·have h1:=hs _ (List.getElem_mem hj)
   rw[zAF (Int.ofNat_lt.2 hj),cond_true,zAJ hj]
   generalize ops[i]=o at *;obtain⟨k,row,a,m,nodes,slot,old,text⟩:=o;simp only[obs,h1,Bool.not_true,cond_false]
   rw[zAH (by omega),zLs n hs hl _ (i+1) (by omega) (by omega)]
  ·rw[zAD (by omega)]; rfl
theorem zW7 (l:List Op8){i:Nat} (hi:i<l.length):(l.map invO).reverse.take i++[invO l[l.length - 1 - i]]=(l.map invO).reverse.take (i+1):=by
 have hlen:i<(l.map invO).reverse.length :=(by simpa using hi);rw[← List.take_append_getElem hlen]
 congr 2
 rw[List.getElem_reverse,List.getElem_map]
 congr 2
 simp only[List.length_map]
theorem zIW (n:Nat){ops:List Op8} (ho:∀ o∈ops,zB0 n o=some (invO o)) (hl:ops.length<=4294967296):∀ i,i<=ops.length->zBd n ops i=some ((ops.map invO).reverse.take i)
 | 0,_=>by rw[List.take_zero]; rfl
 | i+1,hi=>by
  have hj:ops.length - 1 - i<ops.length :=(by omega);unfold zBd;rw[zIW n ho hl i (by omega),List.getElem?_eq_getElem hj]
  simp only[obs,ho _ (List.getElem_mem hj)]
  rw[zBf (by simp only[List.length_take,List.length_reverse,List.length_map]; omega),zW7 ops (by omega)]
theorem zPZ (n:Nat){ops:List Op8} (ho:∀ o∈ops,zB0 n o=some (invO o)) (hl:ops.length<=4294967296):zCm n ops=some (ops.map invO).reverse:=by
 unfold zCm;dsimp only;rw[zBf hl,zIW n ho hl _ (Nat.le_refl _),List.take_of_length_le (by simp)]
theorem Runs.app {t u v:Nd}{a b:List Op8}{e:Int} (h:Runs t a u 0) (h2:Runs u b v e):Runs t (a++b) v e:=by
 generalize hz:(0:Int)=z at h
 induction h with
 | nil t=>exact h2
 | stop h he=>exact absurd hz.symm he
 | next h hr ih=>exact .next h (ih h2 hz)
theorem Runs.back {t u:Nd}{ops:List Op8} (h:Runs t ops u 0) (hv:zAB t=true):Runs u (ops.map invO).reverse t 0/\zAB u=true:=by
 generalize hz:(0:Int)=z at h
 induction h with
 | nil t=>exact⟨.nil t,hv⟩
 | stop h he=>exact absurd hz.symm he
 | next h hr ih =>
  subst hz;obtain⟨h1,h2⟩:=h.inv;obtain⟨h3,h4⟩:=ih h2 rfl;rw[List.map_cons,List.reverse_cons]
  exact⟨h3.app (.next h1 (.nil _)),h4⟩
theorem Runs.det {t u u':Nd}{ops:List Op8}{e e':Int} (h:Runs t ops u e) (h':Runs t ops u' e'):u=u'/\e=e':=by
 induction h generalizing u' e' with
 | nil t=>cases h'; exact⟨rfl,rfl⟩
 | stop h he =>
  cases h' with
  | stop g hg=>exact⟨rfl,(h.det g).2⟩
  | next g hr=>exact absurd (h.det g).2 he
 | next h hr ih =>
  cases h' with
  | stop g hg=>exact absurd (h.det g).2.symm hg
  | next g hr' =>
   obtain⟨rfl,_⟩:=h.det g;exact ih hr'
theorem zXk {k:Int}{t:List UInt8} (h:zRJ k t=true):t.length<=200:=by
 unfold zRJ at h
 by_cases k2:k=2
 ·rw[if_pos k2]at h;unfold symB at h
  by_cases h1:t.length=1
  ·omega
  ·rw[if_neg h1]at h;simp only[Bool.and_eq_true,decide_eq_true_eq]at h
   omega
 rw[if_neg k2]at h
 by_cases k3:k=3
 ·rw[if_pos k3]at h;unfold numB at h;simp only[Bool.and_eq_true,decide_eq_true_eq]at h
  omega
 rw[if_neg k3]at h
 by_cases k4:k=4
 ·rw[if_pos k4]at h;simp only[Bool.and_eq_true,decide_eq_true_eq]at h;exact h.1
 rw[if_neg k4]at h
 by_cases k10:k=10
 ·rw[if_pos k10]at h;obtain⟨e,he,h2⟩:=List.any_eq_true.1 h;rw[← eq_of_beq h2]
  have:∀ e∈acL,e.length<=200 :=(by decide);exact this e he
 rw[if_neg k10]at h
 by_cases k11:k=11
 ·rw[if_pos k11]at h;unfold fenB at h;simp only[Bool.and_eq_true,decide_eq_true_eq]at h
  omega
 rw[if_neg k11]at h;rw[eq_of_beq h]
 exact Nat.zero_le _
mutual
theorem zXw:∀ t:Nd,zFa t=true->t.w+1<=202 * t.cnt
 | .mk k t c ks,h=>by
  simp only[zFa,Bool.and_eq_true]at h
  have h1:=zXk h.1.1
  have h2:=zVw ks k h.2
  simp only[Nd.w,Nd.cnt]
  omega
theorem zVw:∀ (l:List Nd) (k:Int),zEl k l=true->Nd.ws l<=202 * Nd.cnts l
 | [],_,_=>Nat.zero_le _
 | v::l,k,h=>by
  simp only[zEl,Bool.and_eq_true]at h
  have h1:=zXw v h.1.2
  have h2:=zVw l k h.2
  simp only[Nd.ws,Nd.cnts]
  omega
end
theorem zIw {t:Nd} (h:zAB t=true):t.w<=202000:=by
 obtain⟨k,f,c,d⟩:=zGq h;have:=zXw t f
 omega
structure OSmall (l:List Op8):Prop where
 size:sw l<=20000000
 op:∀ o∈l,opw o<=1900000
 isize:sw (l.map invO)<=20000000
 oi:∀ o∈l,opw (invO o)<=1900000
 row:∀ o∈l,o.row.length<=16777216
theorem OSmall.len {l:List Op8} (h:OSmall l):l.length<=5000000:=by
 have:=zWf l;have:=h.size
 omega
theorem OSmall.cnt {l:List Op8} (h:OSmall l):∀ o∈l,Nd.cnts o.nodes<=1900000:=fun o ho=>by
 have h1:=h.op o ho;have h2:=Nd.cnts_ws o.nodes;unfold opw at h1
 omega
theorem zYJ:∀ l:List Op8,sw l.reverse=sw l
 | []=>rfl
 | o::l=>by rw[List.reverse_cons,zXC,zYJ l]; simp only[sw]; omega
theorem OSmall.apply {l:List Op8} (h:OSmall l) (n:Nat){t:Nd} (hn:200000000<n) (hv:zAB t=true):∃ u i e,zBh n t l=some (u,i,e)/\Runs t l u e/\(e=0->i=0):=by
 have hw:=zIw hv;have h1:=h.size;obtain⟨u,i,e,g1,g2,g3⟩:=zVp n t l hn (by omega) h.op;cases g2 with
 | bad g=>rw[hv]at g; cases g
 | go _ g=>exact⟨u,i,e,g1,g,g3⟩
theorem OSmall.back {l:List Op8} (h:OSmall l) (n:Nat){t u:Nd} (hn:200000000<n) (hv:zAB t=true) (hr:Runs t l u 0) :
  zCm n l=some (l.map invO).reverse/\zBh n u (l.map invO).reverse=some (t,0,0)/\zAB u=true:=by
 obtain⟨hb,vu⟩:=hr.back hv;have hl:=h.len;have hw:=zIw vu;have h1:=h.isize;have h2:sw (l.map invO).reverse=sw (l.map invO):=zYJ _;refine⟨zPZ n (fun o ho=>?_) (by omega),?_,vu⟩
 ·have h1:=h.cnt o ho;have h2:=h.row o ho;exact zUP n o (by omega) (by omega) (by omega)
 obtain⟨v,i,e,g1,g2,g3⟩:=zVp n u (l.map invO).reverse hn (by omega) (fun o ho=>by
  obtain⟨o',ho',rfl⟩:=List.mem_map.1 (List.mem_reverse.1 ho)
  exact h.oi o' ho')
 cases g2 with
 | bad g=>rw[vu]at g; cases g
 | go _ g =>
  obtain⟨rfl,rfl⟩:=zXd g hb;rw[g1,g3 rfl]
abbrev Cur:=List Int×List Int
abbrev Rc:=List Op8×Cur×Cur
abbrev Hs:=Nd×Nd×List Rc×Int
theorem zH6 {l:List Nd} (hb:Nd.cnts l<=16777216):∀ (k i:Nat),l.length - i<k->i<=l.length->zBu l k (i:Int) (l.take i)=some l
 | 0,i,h,_=>by omega
 | k+1,i,h,hi=>by
  have hlen:=Nd.cnts_len l;unfold zBu
  by_cases hj:i<l.length
  ·have hm:=Nd.cnts_mem (List.getElem_mem hj)
   have hd:zAX l[i]=some l[i]:=zGJ (by omega)
   have ht:l.take i++[l[i]]=l.take (i+1) :=(by rw[List.take_append_getElem hj]);rw[zAF (Int.ofNat_lt.2 hj),cond_true,zAJ hj]
   have ih:=zH6 hb k (i+1) (by omega) (by omega)
   rw[← ht]at ih;generalize l[i]=v at *;obtain⟨v1,v2,v3,v4⟩:=v;simp only[obs,hd]
   rw[zBf (by simp only[List.length_take,List.length_cons,List.length_nil]; omega),zAH (show i<9223372036854775807 by omega),ih]
  ·rw[zAD (by omega),cond_false,List.take_of_length_le (by omega)]
theorem zUi (n:Nat) (o:Op8) (hn:Nd.cnts o.nodes<n) (hb:Nd.cnts o.nodes<=16777216) (hr:o.row.length<=16777216):zFd n o=some o:=by
 obtain⟨k,row,a,m,nodes,slot,old,text⟩:=o;simp only[Op8.nodes,Op8.row]at hn hb hr;have hlen:=Nd.cnts_len nodes;have h1:zBG row=some row:=zBf (by omega)
 have h2:=zH6 hb n 0 (by omega) (by omega)
 rw[show((0:Nat):Int)=0 from rfl,List.take_zero]at h2;unfold zFd zDn zFc;simp only[h1,h2,obs]
theorem zJ6 (n:Nat){l:List Op8} (ho:∀ o∈l,zFd n o=some o) (hl:l.length<=1073741824):∀ (k i:Nat),l.length - i<k->i<=l.length->zCR n l k (i:Int) (l.take i)=some l
 | 0,i,h,_=>by omega
 | k+1,i,h,hi=>by
  unfold zCR
  by_cases hj:i<l.length
  ·have hd:=ho _ (List.getElem_mem hj)
   have ht:l.take i++[l[i]]=l.take (i+1) :=(by rw[List.take_append_getElem hj]);rw[zAF (Int.ofNat_lt.2 hj),cond_true,zAJ hj]
   have ih:=zJ6 n ho hl k (i+1) (by omega) (by omega)
   rw[← ht]at ih;generalize l[i]=v at *;obtain⟨v1,v2,v3,v4,v5,v6,v7,v8⟩:=v;simp only[obs,hd]
   rw[zBf (by simp only[List.length_take,List.length_cons,List.length_nil]; omega),zAH (show i<9223372036854775807 by omega),ih]
  ·rw[zAD (by omega),cond_false,List.take_of_length_le (by omega)]
theorem zI5 (c:Cur) (h1:c.1.length<=1073741824) (h2:c.2.length<=1073741824):zBH c=some c:=by
 obtain⟨p,q⟩:=c;have e1:zBG p=some p:=zBf (by dsimp only at h1; omega)
 have e2:zBG q=some q:=zBf (by dsimp only at h2; omega)
 unfold zBH zDn;simp only[e1,e2,obs]
structure RSmall (r:Rc):Prop where
 ops:OSmall r.1
 b1:r.2.1.1.length<=16777216
 b2:r.2.1.2.length<=16777216
 a1:r.2.2.1.length<=16777216
 a2:r.2.2.2.length<=16777216
theorem RSmall.before {r:Rc} (h:RSmall r):zBH r.2.1=some r.2.1:=zI5 _ (by have:=h.b1; omega) (by have:=h.b2; omega)
theorem RSmall.after {r:Rc} (h:RSmall r):zBH r.2.2=some r.2.2:=zI5 _ (by have:=h.a1; omega) (by have:=h.a2; omega)
theorem RSmall.copy {r:Rc} (h:RSmall r) (n:Nat) (hn:200000000<n):zCS n r=some r:=by
 have h2:=h.before;have h3:=h.after;have hl:=h.ops.len;have h1:=zJ6 n (l:=r.1) (fun o ho=>by
  have g1:=h.ops.cnt o ho;have g2:=h.ops.row o ho;exact zUi n o (by omega) (by omega) (by omega)) (by omega) n 0 (by omega) (Nat.zero_le _)
 rw[show((0:Nat):Int)=0 from rfl,List.take_zero]at h1;obtain⟨a,⟨b1,b2⟩,⟨c1,c2⟩⟩:=r;dsimp only at h1 h2 h3;unfold zCS zIB;simp only[h1,h2,h3,obs]
theorem zOH {t:Nd} (h:zAB t=true):zAX t=some t:=by
 have h1:=zIw h;have h2:=Nd.cnt_w t;exact zGJ (by omega)
structure HInv (h:Hs) (ts:List Nd):Prop where
 len:ts.length=h.2.2.1.length+1
 orig:ts[0]? = some h.1
 valid:∀ t∈ts,zAB t=true
 step:∀ (i:Nat) (r:Rc),h.2.2.1[i]? = some r->∃ t u,ts[i]? = some t/\ts[i+1]? = some u/\Runs t r.1 u 0
 small:∀ r∈h.2.2.1,RSmall r
 lim:h.2.2.1.length<=1000
structure HAt (h:Hs) (ts:List Nd) (j:Nat):Prop where
 inv:HInv h ts
 done:h.2.2.2=(j:Int)
 le:j<=h.2.2.1.length
 tree:ts[j]? = some h.2.1
theorem HAt.vtree {h:Hs}{ts:List Nd}{j:Nat} (a:HAt h ts j):zAB h.2.1=true:=a.inv.valid _ (List.mem_of_getElem? a.tree)
theorem zYl (n:Nat){t:Nd} (hn:200000000<n) (ht:t.w<=16777216):zDG n t=some (bif zAB t then (some (t,t,[],0),0) else (none,1))/\(zAB t=true->HAt (t,t,[],0) [t] 0):=by
 have v:=zC1 n t (by omega) (by omega)
 have ct:=Nd.cnt_w t;have hd:zAX t=some t:=zGJ (by omega)
 refine⟨?_,fun hv=>⟨⟨rfl,rfl,fun u hu=>by rw[List.mem_singleton.1 hu]; exact hv,fun i r h=>by simp at h,fun r h=>by simp at h,Nat.zero_le _⟩,rfl,Nat.le_refl _,rfl⟩⟩
 obtain⟨t1,t2,t3,t4⟩:=t;unfold zDG;simp only[v,hd,obs]
 cases zAB (.mk t1 t2 t3 t4) <;> rfl
theorem zXK {h:Hs} (hv:zAB h.2.1=true):zA9 h=some (h.2.1,h):=by
 have hd:=zOH hv;obtain⟨⟨a1,a2,a3,a4⟩,⟨b1,b2,b3,b4⟩,rs,d⟩:=h;dsimp only at hd;unfold zA9;simp only[hd,obs]
theorem zYN (n:Nat){h:Hs}{ts:List Nd}{j:Nat} (a:HAt h ts j){r:Rc} (hr:RSmall r) (hn:200000000<n) (hj:j<1000):∃ u e,Runs h.2.1 r.1 u e /\
  ((e ≠ 0/\zAU n h r=some (e,h))∨(e=0/\zAU n h r=some (0,(h.1,u,h.2.2.1.take j++[r],((j+1:Nat):Int)))/\HAt (h.1,u,h.2.2.1.take j++[r],((j+1:Nat):Int)) (ts.take (j+1)++[u]) (j+1))):=by
 obtain⟨u,i,e,g1,g2,g3⟩:=hr.ops.apply n hn a.vtree;refine⟨u,e,g2,?_⟩
 by_cases he:e=0
 ·subst he;refine .inr ⟨rfl,?_,?_⟩
  ·have hd:=a.done;have hle:=a.le;have hc:=hr.copy n hn;obtain⟨⟨a1,a2,a3,a4⟩,⟨b1,b2,b3,b4⟩,rs,d⟩:=h;obtain⟨ops,⟨c1,c2⟩,⟨c3,c4⟩⟩:=r;obtain⟨u1,u2,u3,u4⟩:=u;dsimp only at hd hle g1 hc ⊢;subst hd;unfold zAU;simp only[g1,obs,show((0:Int) != 0)=false from rfl,cond_false]
   rw[zAD (by omega),cond_false,zBf ⟨by omega,by omega⟩,hc]
   simp only[obs,Int.toNat_natCast]
   rw[zBf (by simp only[List.length_take,List.length_cons,List.length_nil]; omega),zAH (by omega)]
  ·have hle:=a.le;have hlen:=a.inv.len;have hlt:(h.2.2.1.take j).length=j :=(by rw[List.length_take]; omega);have hl2:(ts.take (j+1)).length=j+1 :=(by rw[List.length_take]; omega);have g0:∀ i,i<=j->(ts.take (j+1)++[u])[i]? = ts[i]?:=fun i hi=>by
    rw[List.getElem?_append_left (by omega),List.getElem?_take,if_pos (by omega)]
   have gl:(ts.take (j+1)++[u])[j+1]? = some u:=by
    rw[List.getElem?_append_right (by omega),hl2,Nat.sub_self]; rfl
   refine⟨⟨?_,?_,?_,?_,?_,?_⟩,rfl,?_,gl⟩
   ·simp only[List.length_append,List.length_cons,List.length_nil,hlt,hl2]
   ·rw[g0 0 (Nat.zero_le _)]; exact a.inv.orig
   ·intro t ht;rcases List.mem_append.1 ht with ht | ht
    ·exact a.inv.valid t (List.mem_of_mem_take ht)
    ·rw[List.mem_singleton.1 ht]; exact(g2.back a.vtree).2
   ·intro i q hq;dsimp only at hq
    by_cases hi:i<j
    ·rw[List.getElem?_append_left (by omega),List.getElem?_take,if_pos hi]at hq;obtain⟨t,v,k1,k2,k3⟩:=a.inv.step i q hq;exact⟨t,v,by rw[g0 i (by omega)]; exact k1,by rw[g0 (i+1) (by omega)]; exact k2,k3⟩
    ·rw[List.getElem?_append_right (by omega),hlt]at hq;have hij:i=j:=by
      rcases Nat.lt_or_ge (i - j) 1 with h | h
      ·omega
      ·rw[List.getElem?_eq_none (by simpa using h)]at hq; cases hq
     subst hij;rw[Nat.sub_self]at hq;obtain rfl:r=q :=(by simpa using hq);exact⟨h.2.1,u,by rw[g0 i (Nat.le_refl _)]; exact a.tree,gl,g2⟩
   ·intro q hq;rcases List.mem_append.1 hq with hq | hq
    ·exact a.inv.small q (List.mem_of_mem_take hq)
    ·rw[List.mem_singleton.1 hq]; exact hr
   ·dsimp only;simp only[List.length_append,List.length_cons,List.length_nil,hlt]
    omega
   ·dsimp only;simp only[List.length_append,List.length_cons,List.length_nil,hlt]
    omega
 ·refine .inl ⟨he,?_⟩
  obtain⟨⟨a1,a2,a3,a4⟩,⟨b1,b2,b3,b4⟩,rs,d⟩:=h;obtain⟨ops,⟨c1,c2⟩,⟨c3,c4⟩⟩:=r;obtain⟨u1,u2,u3,u4⟩:=u;dsimp only at g1;unfold zAU;simp only[g1,obs,show(e != 0)=true from bne_iff_ne.2 he,cond_true]
def hAt (h:Hs) (t:Nd) (j:Nat):Hs:=(h.1,t,h.2.2.1,(j:Int))
theorem HAt.move {h:Hs}{ts:List Nd}{j k:Nat}{t:Nd} (a:HAt h ts j) (hk:ts[k]? = some t):HAt (hAt h t k) ts k:=by
 refine⟨⟨a.inv.len,a.inv.orig,a.inv.valid,a.inv.step,a.inv.small,a.inv.lim⟩,rfl,?_,hk⟩
 have:=(List.getElem?_eq_some_iff.1 hk).1;have:=a.inv.len;show k<=h.2.2.1.length
 omega
theorem HAt.at {h:Hs}{ts:List Nd}{j k:Nat} (a:HAt h ts j) (hk:k<=h.2.2.1.length):∃ t,ts[k]? = some t :=
 ⟨_,List.getElem?_eq_getElem (by have:=a.inv.len; omega)⟩
theorem zVc (n:Nat){h:Hs}{ts:List Nd} (a:HAt h ts 0):zAN n h=some (([],[]),8,h):=by
 have hd:=a.done;obtain⟨⟨a1,a2,a3,a4⟩,⟨b1,b2,b3,b4⟩,rs,d⟩:=h;dsimp only at hd;subst hd
 rfl
theorem zVb (n:Nat){h:Hs}{ts:List Nd}{j:Nat} (a:HAt h ts (j+1)) (hn:200000000<n){r:Rc}{t:Nd} (hr:h.2.2.1[j]? = some r) (ht:ts[j]? = some t):zAN n h=some (r.2.1,0,hAt h t j):=by
 have hd:=a.done;have hlim:=a.inv.lim;have hle:=a.le;have sm:=a.inv.small r (List.mem_of_getElem? hr)
 obtain⟨t',u',k1,k2,k3⟩:=a.inv.step j r hr;obtain rfl:t=t':=Option.some.inj (ht.symm.trans k1)
 obtain rfl:h.2.1=u':=Option.some.inj (a.tree.symm.trans k2)
 obtain⟨e1,e2,e3⟩:=sm.ops.back n hn (a.inv.valid t (List.mem_of_getElem? ht)) k3;have hc:=sm.before;have hr':at? h.2.2.1 (j:Int)=some r:=by
  obtain⟨h1,rfl⟩:=List.getElem?_eq_some_iff.1 hr;exact zAJ h1
 unfold hAt;obtain⟨⟨a1,a2,a3,a4⟩,⟨b1,b2,b3,b4⟩,rs,d⟩:=h;obtain⟨ops,⟨c1,c2⟩,⟨c3,c4⟩⟩:=r;obtain⟨t1,t2,t3,t4⟩:=t;dsimp only at hd hr' e1 e2 hc hlim hle ⊢;subst hd;have hw:IntKind.i64.wrap (((j+1:Nat):Int) - 1)=(j:Int) :=(by rw[wrap64_in (by omega) (by omega)]; omega);unfold zAN;dsimp only;rw[zBM (by omega),cond_false,hw,hr']
 simp only[obs,e1,e2,show((0:Int) != 0)=false from rfl,cond_false,hc]
def zGj (o:Op8):Nat:=Nd.ws o.nodes+o.2.2.2.2.2.2.1.length+o.text.length+o.row.length
structure RFew (r:Rc):Prop where
 len:r.1.length<=12
 bulk:∀ o∈r.1,zGj o<=1048576
 b1:r.2.1.1.length<=16777216
 b2:r.2.1.2.length<=16777216
 a1:r.2.2.1.length<=16777216
 a2:r.2.2.2.length<=16777216
theorem zYI {l:List Op8}{b:Nat}:(∀ o∈l,opw o<=b)->sw l<=l.length * b:=by
 induction l with
 | nil=>intro _; exact Nat.zero_le _
 | cons o l ih =>
  intro h;have h1:=h o List.mem_cons_self;have h2:=ih fun o ho=>h o (List.mem_cons_of_mem _ ho)
  simp only[sw,List.length_cons,Nat.succ_mul]
  omega
theorem zWT (o:Op8):opw o<=zGj o+4:=by unfold opw zGj; omega
theorem zWS (o:Op8):opw (invO o)<=zGj o+4:=by
 obtain⟨k,row,a,m,nodes,slot,old,text⟩:=o;unfold opw zGj invO;simp only[Op8.nodes,Op8.text,Op8.row]
 by_cases h:k=5
 ·rw[if_pos h]; omega
 ·rw[if_neg h]; omega
theorem RFew.osmall {r:Rc} (h:RFew r):OSmall r.1:=by
 have h1:∀ o∈r.1,opw o<=1048580:=fun o ho=>by have:=h.bulk o ho; have:=zWT o; omega
 have h2:∀ o∈r.1.map invO,opw o<=1048580:=fun o ho=>by
  obtain⟨o',ho',rfl⟩:=List.mem_map.1 ho;have:=h.bulk o' ho'; have:=zWS o'; omega
 have s1:=zYI h1;have s2:=zYI h2;rw[List.length_map]at s2;have hl:=h.len;have hm:r.1.length * 1048580<=12 * 1048580:=Nat.mul_le_mul_right _ hl;exact⟨by omega,fun o ho=>by have:=h1 o ho; omega,by omega,fun o ho=>by have:=h2 (invO o) (List.mem_map_of_mem ho); omega,fun o ho=>by have:=h.bulk o ho; unfold zGj at this; omega⟩
theorem RFew.small {r:Rc} (h:RFew r):RSmall r:=⟨h.osmall,h.b1,h.b2,h.a1,h.a2⟩
theorem RFew.ref {r:Rc} (h:RFew r) (n:Nat) (hn:200000000<n){t:Nd} (hv:zAB t=true):∃ u i e,zB4 n t r.1=some (u,i,e)/\Runs t r.1 u e:=by
 have hw:=zIw hv;obtain⟨u,i,e,_,g2,g3,_⟩:=zYr n t r.1 hn (by omega) (fun o ho=>by have:=h.bulk o ho; unfold zGj at this; omega) h.len;cases g3 with
 | bad g=>rw[hv]at g; cases g
 | go _ g=>exact⟨u,i,e,g2,g⟩
theorem zX4 (p:List Int) (i:Int) (hp:p.length<=4000000):zMy p [i]=some (p++[i]):=by
 unfold zMy;dsimp only;rw[zBf (by simp only[List.length_cons,List.length_nil]; omega)]
theorem zMf {l:List Nd}{n:Nat}{v:Nd} (h:l[n]? = some v):at? l (n:Int)=some v:=by
 obtain⟨h1,rfl⟩:=List.getElem?_eq_some_iff.1 h;exact zAJ h1
theorem zVo {l:List Nd}{q:Nat}{v:Nd} (h:l[q]? = some v):l.drop q=v::l.drop (q+1):=by
 obtain⟨h1,rfl⟩:=List.getElem?_eq_some_iff.1 h;exact List.drop_eq_getElem_cons h1
abbrev AllF:=Nd->List Int->Option (List (List Int))
theorem zQC (F:AllF) (kids:List Nd) (p:List Int) (i:Nat) (x:Nd) (hx:kids[i]? = some x) (hp:p.length<=3000000) (hk:x.kids.length<=1000000)
  (hF:∀ (s:Nat) (u:Nd),x.kids[s]? = some u->F u (p++[(i:Int),(s:Int)])=some (posU (p++[(i:Int),(s:Int)]) u)) :
  ∀ (k s:Nat) (l:List (List Int)),x.kids.length - s<k->s<=x.kids.length->l.length+(posS p i s (x.kids.drop s)).length<=4000000 ->
   zDv F kids p (i:Int) k (s:Int) l=some (l++posS p i s (x.kids.drop s))
 | 0,s,l,h,_,_=>by omega
 | k+1,s,l,h,hs,hl=>by
  unfold zDv;rw[zMf hx]
  by_cases hj:s<x.kids.length
  ·have g:x.kids[s]? = some x.kids[s]:=List.getElem?_eq_getElem hj;generalize x.kids[s]=u at *;rw[zVo g]at hl ⊢;rw[posS]at hl ⊢;rw[List.length_append]at hl;have e1:=hF s u g;have ih:=zQC F kids p i x hx hp hk hF k (s+1) (l++posU (p++[(i:Int),(s:Int)]) u) (by omega) (by omega) (by rw[List.length_append]; omega)
   have at2:=zMf g;have hlen:(x.kids.length:Int)=(x.kids.length:Int):=rfl;obtain⟨x1,x2,x3,x4⟩:=x;obtain⟨u1,u2,u3,u4⟩:=u;simp only[Nd.kids]at *;simp only[obs,zAF (Int.ofNat_lt.2 hj),cond_true,at2]
   rw[zBf (by rw[List.length_nil]; omega),zBf (by simp only[List.length_cons,List.length_nil]; omega),e1]
   simp only[obs]
   rw[zBf (by omega),zAH (by omega),ih,List.append_assoc]
  ·have e:x.kids.drop s=[]:=List.drop_of_length_le (by omega)
   rw[e,posS]
   obtain⟨x1,x2,x3,x4⟩:=x;simp only[Nd.kids]at hj hs;simp only[obs]
   rw[zAD (by omega),cond_false,List.append_nil]
theorem zQB (F:AllF) (N:Nat) (kids:List Nd) (p:List Int) (hp:p.length<=3000000) (hc:Nd.cnts kids<=1000000) (hN:Nd.cnts kids+1<N)
  (hF:∀ (i s:Nat) (x u:Nd),kids[i]? = some x->x.kids[s]? = some u->F u (p++[(i:Int),(s:Int)])=some (posU (p++[(i:Int),(s:Int)]) u)) :
  ∀ (k i:Nat) (l:List (List Int)),kids.length - i+1<k->i<=kids.length->l.length+(posI p i (kids.drop i)).length<=4000000 ->
   zDu F N kids p k (i:Int) l=some (l++posI p i (kids.drop i))
 | 0,i,l,h,_,_=>by omega
 | k+1,i,l,h,hi,hl=>by
  have hlk:=Nd.cnts_len kids;unfold zDu;rw[zAF (by omega),cond_true,zX4 p i (by omega)]
  simp only[obs]
  by_cases hj:i<kids.length
  ·have g:kids[i]? = some kids[i]:=List.getElem?_eq_getElem hj;generalize kids[i]=x at *;have mx:=Nd.cnts_mem (List.mem_of_getElem? g)
   have kx:=x.cnt_kids;have lx:=Nd.cnts_len x.kids;have hX:posX p i x=posS p i 0 x.kids :=(by cases x; rw[posX]; rfl);rw[zVo g]at hl ⊢;rw[posI,hX]at hl ⊢;rw[List.length_cons,List.length_append]at hl;rw[zBf (by simp only[List.length_cons,List.length_nil]; omega),zBM (by omega),cond_false]
   have e2:=zQC F kids p i x g hp (by omega) (fun s u hu=>hF i s x u g hu) N 0 (l++[p++[(i:Int)]]) (by omega) (Nat.zero_le _) (by rw[List.drop_zero,List.length_append]; simp only[List.length_cons,List.length_nil]; omega)
   rw[show((0:Nat):Int)=0 from rfl,List.drop_zero]at e2;rw[e2]
   simp only[obs]
   have ih:=zQB F N kids p hp hc hN hF k (i+1) (l++[p++[(i:Int)]]++posS p i 0 x.kids) (by omega) (by omega) (by simp only[List.length_append,List.length_cons,List.length_nil]; omega)
   rw[zAH (by omega),ih]
   simp only[List.append_assoc,List.cons_append,List.nil_append]
  ·obtain rfl:i=kids.length :=(by omega);rw[List.drop_length,posI]at hl ⊢;rw[zBf (by simp only[List.length_cons,List.length_nil]at hl ⊢; omega),beq_self_eq_true,cond_true]
theorem zOr:∀ (n:Nat) (t:Nd) (p:List Int),t.cnt+1<n->t.cnt<=1000000->p.length+2 * t.cnt<=3000000->zDt n t p=some (posU p t)
 | 0,t,p,h,_,_=>by omega
 | n+1,t,p,h,hc,hp=>by
  have k1:=t.cnt_kids;have l1:=Nd.cnts_len t.kids;have hlen:=zPI p 0 t.kids;have hU:posU p t=posI p 0 t.kids :=(by cases t; rw[posU]; rfl);have e:=zQB (zDt n) n t.kids p (by omega) (by omega) (by omega) (fun i s x u hx hu=>by
   have m1:=Nd.cnts_mem (List.mem_of_getElem? hx)
   have m2:=Nd.cnts_mem (List.mem_of_getElem? hu)
   have c1:=x.cnt_kids;exact zOr n u _ (by omega) (by omega) (by simp only[List.length_append,List.length_cons,List.length_nil]; omega)) n 0 [] (by omega) (Nat.zero_le _) (by rw[List.drop_zero,List.length_nil]; omega)
  rw[show((0:Nat):Int)=0 from rfl,List.drop_zero,List.nil_append]at e;rw[hU]
  obtain⟨t1,t2,t3,t4⟩:=t;simp only[Nd.kids]at e ⊢;unfold zDt;simp only[e,obs]
theorem zOq (n:Nat) (t:Nd) (hv:zAQ n t=some (zAB t)) (hn:t.cnt+1<n) (hc:t.cnt<=1000000):zG8 n t=some (bif zAB t then (posT t,0) else ([],1)):=by
 have e:=zOr n t [] hn hc (by rw[List.length_nil]; omega)
 unfold posT;obtain⟨t1,t2,t3,t4⟩:=t;unfold zG8;simp only[hv,e,obs]
 cases zAB (.mk t1 t2 t3 t4) <;> rfl
theorem zTf {a b:List Int} (ha:a.length<=1073741824):∀ (k i:Nat),a.length - i<k->i<=a.length->i<=b.length->a.take i=b.take i ->
  ∃ fl,zBS a b k (i:Int)=some fl/\((∃ z,fl = .ret z/\z ≠ 0/\a ≠ b)∨(fl = .go ()/\(a.length=b.length->a=b)))
 | 0,i,h,_,_,_=>by omega
 | k+1,i,h,hi,hb,ht=>by
  unfold zBS
  by_cases h1:i<a.length
  ·rw[zAF (Int.ofNat_lt.2 h1),cond_true]
   by_cases h2:i<b.length
   ·rw[zAF (Int.ofNat_lt.2 h2)]
    simp only[obs,cond_true,zAJ h1,zAJ h2]
    by_cases h3:a[i]<b[i]
    ·rw[zAF h3,cond_true]
     exact⟨_,rfl,.inl ⟨-1,rfl,by decide,fun e=>by subst e; omega⟩⟩
    ·rw[zAD h3,cond_false]
     by_cases h4:b[i]<a[i]
     ·rw[zAF h4,cond_true]
      exact⟨_,rfl,.inl ⟨1,rfl,by decide,fun e=>by subst e; omega⟩⟩
     ·rw[zAD h4,cond_false,zAH (by omega)]
      have he:a[i]=b[i] :=(by omega);refine zTf ha k (i+1) (by omega) (by omega) (by omega) ?_;rw[← List.take_append_getElem h1,← List.take_append_getElem h2,ht,he]
   ·rw[zAD (by omega)]
    simp only[obs,cond_false]
    exact⟨_,rfl,.inr ⟨rfl,fun e=>by omega⟩⟩
  ·rw[zAD (by omega),cond_false]
   simp only[obs,cond_false]
   refine⟨_,rfl,.inr ⟨rfl,fun e=>?_⟩⟩
   have:i=a.length :=(by omega);subst this;rw[List.take_length]at ht;rw[ht,List.take_of_length_le (by omega)]
theorem cmp_eq (n:Nat) (a b:List Int) (ha:a.length<=1073741824) (hn:a.length<n):∃ c,zDN n a b=some c/\(c=0↔a=b):=by
 obtain⟨fl,h1,h2⟩:=zTf (a:=a) (b:=b) ha n 0 (by omega) (Nat.zero_le _) (Nat.zero_le _) rfl;rw[show((0:Nat):Int)=0 from rfl]at h1;unfold zDN;dsimp only;rw[h1]
 rcases h2 with ⟨z,rfl,hz,hne⟩ | ⟨rfl,he⟩
 ·exact⟨z,rfl,fun h=>absurd h hz,fun h=>absurd h hne⟩
 ·simp only[obs]
  by_cases h3:a.length<b.length
  ·rw[zAF (Int.ofNat_lt.2 h3)]
   exact⟨-1,rfl,fun h=>(by omega),fun h=>(by subst h; omega)⟩
  ·rw[zAD (by omega),cond_false]
   by_cases h4:b.length<a.length
   ·rw[zAF (Int.ofNat_lt.2 h4)]
    exact⟨1,rfl,fun h=>(by omega),fun h=>(by subst h; omega)⟩
   ·rw[zAD (by omega),cond_false]
    exact⟨0,rfl,fun _=>he (by omega),fun _=>rfl⟩
theorem zTm (n:Nat) (pos:List Int) (L:List (List Int)) (hL:L.length<=1073741824) (hb:∀ q∈L,q.length<=1073741824/\q.length<n):∀ (k i:Nat),L.length - i<k->i<=L.length ->
  ∃ fl,zCB n pos L k (i:Int)=some fl/\((∃ j:Nat,fl = .ret ((j:Int),0)/\L[j]? = some pos)∨(fl = .go ()/\pos ∉ L.drop i))
 | 0,i,h,_=>by omega
 | k+1,i,h,hi=>by
  unfold zCB
  by_cases hj:i<L.length
  ·have hm:=hb _ (List.getElem_mem hj)
   obtain⟨c,h1,h2⟩:=cmp_eq n L[i] pos hm.1 hm.2;rw[zAF (Int.ofNat_lt.2 hj),cond_true,zAJ hj]
   simp only[obs,h1]
   by_cases hc:c=0
   ·subst hc;exact⟨_,rfl,.inl ⟨i,rfl,by rw[List.getElem?_eq_getElem hj,h2.1 rfl]⟩⟩
   ·rw[zBM hc,cond_false,zAH (by omega)]
    obtain⟨fl,g1,g2⟩:=zTm n pos L hL hb k (i+1) (by omega) (by omega)
    refine⟨fl,g1,g2.imp id fun⟨g3,g4⟩=>⟨g3,fun hm'=>?_⟩⟩
    rw[List.drop_eq_getElem_cons hj]at hm';rcases List.mem_cons.1 hm' with hm' | hm'
    ·exact hc (h2.2 hm'.symm)
    ·exact g4 hm'
  ·rw[zAD (by omega),cond_false,List.drop_of_length_le (by omega)]
   exact⟨_,rfl,.inr ⟨rfl,fun h=>by cases h⟩⟩
theorem zML {t:Nd} (hv:zAB t=true){q:List Int} (h:q∈posT t):q.length<=49:=by
 obtain⟨k,f,c,d⟩:=zGq hv;have h1:=zVx q t.kids ((zLL t q).1 h)
 have e:t.dep=Nd.deps t.kids+1:=by cases t; rfl
 omega
theorem zLn (n:Nat) (t:Nd) (pos:List Int) (hv:zAQ n t=some (zAB t)) (hn:2000<n) (hc:t.cnt+1<n) (hc2:t.cnt<=1000000):∃ i e,zD7 n t pos=some (i,e)/\((e=0/\zAB t=true/\∃ j:Nat,i=(j:Int)/\(posT t)[j]? = some pos)∨(e ≠ 0/\(zAB t=true->pos ∉ posT t))):=by
 have e1:=zOq n t hv hc hc2;have hlen:=zWX t;cases hvt:zAB t with
 | false =>
  rw[hvt]at e1;obtain⟨t1,t2,t3,t4⟩:=t;refine⟨0,1,?_,.inr ⟨by decide,fun h=>by cases h⟩⟩
  unfold zD7;simp only[e1,cond_false,obs]
  rfl
 | true =>
  rw[hvt]at e1;obtain⟨k,f,c,d⟩:=zGq hvt;obtain⟨fl,g1,g2⟩:=zTm n pos (posT t) (by omega) (fun q hq=>by have:=zML hvt hq; omega) n 0 (by omega) (Nat.zero_le _)
  rw[show((0:Nat):Int)=0 from rfl]at g1;rw[List.drop_zero]at g2;generalize posT t=L at *;obtain⟨t1,t2,t3,t4⟩:=t;unfold zD7;simp only[e1,cond_true,obs,show((0:Int) != 0)=false from rfl,cond_false,g1]
  rcases g2 with ⟨j,rfl,hj⟩ | ⟨rfl,hj⟩
  ·exact⟨_,_,rfl,.inl ⟨rfl,trivial,j,rfl,hj⟩⟩
  ·exact⟨_,_,rfl,.inr ⟨by decide,fun _=>hj⟩⟩
theorem zLo (n:Nat) (t:Nd) (pos:List Int) (hv:zAQ n t=some (zAB t)) (hn:2000<n) (hc:t.cnt+1<n) (hc2:t.cnt<=1000000):∃ b,zES n t pos=some b/\(b=true↔zAB t=true/\inL t.kids pos):=by
 obtain⟨i,e,h1,h2⟩:=zLn n t pos hv hn hc hc2;refine⟨e == 0,?_,?_⟩
 ·obtain⟨t1,t2,t3,t4⟩:=t;unfold zES;simp only[h1,obs]
 ·rw[beq_iff_eq]
  rcases h2 with ⟨rfl,g1,j,rfl,g2⟩ | ⟨g1,g2⟩
  ·exact⟨fun _=>⟨g1,(zLL t pos).1 (List.mem_of_getElem? g2)⟩,fun _=>rfl⟩
  ·exact⟨fun h=>absurd h g1,fun⟨h,h'⟩=>absurd ((zLL t pos).2 h') (g2 h)⟩
structure Tok (n:Nat) (t:Nd):Prop where
 fuel:200000000<n
 valid:zAB t=true
theorem Tok.w {n:Nat}{t:Nd} (k:Tok n t):t.w<=202000:=zIw k.valid
theorem Tok.cnt {n:Nat}{t:Nd} (k:Tok n t):t.cnt<=1000:=by
 obtain⟨_,_,c,_⟩:=zGq k.valid;exact c
theorem Tok.rv {n:Nat}{t:Nd} (k:Tok n t):zAQ n t=some (zAB t):=zEr n t (by have:=k.w; have:=k.fuel; omega) (by have:=k.w; omega)
theorem zTn {l:List Nd}{q:List Int} (h:inL l q):0<q.length:=by
 cases q with
 | nil=>exact h.elim
 | cons a q=>simp
theorem Tok.short {n:Nat}{t:Nd} (k:Tok n t){q:List Int} (h:inL t.kids q):q.length<=49:=zML k.valid ((zLL t q).2 h)
theorem zQI {a b:List Int} (ha:a.length<=1000000) (hb:b.length<=1000000):∀ (k x:Nat),a.length - x<k->x<a.length->x<b.length->∃ z:Nat,zBT a b k (x:Int)=some (z:Int)/\z<a.length/\z<b.length
 | 0,x,h,_,_=>by omega
 | k+1,x,h,h1,h2=>by
  unfold zBT;have w2:IntKind.i64.wrap ((x:Int)+2)=((x+2:Nat):Int) :=(by rw[wrap64_in (by omega) (by omega)]; omega);have w1:IntKind.i64.wrap ((x:Int)+1)=((x+1:Nat):Int):=zAH (by omega)
  rw[w2,w1]
  by_cases h3:x+2<a.length
  ·rw[zAF (Int.ofNat_lt.2 h3),cond_true]
   by_cases h4:x+2<b.length
   ·rw[zAF (Int.ofNat_lt.2 h4),cond_true,zAJ h1,zAJ h2,zAJ (show x+1<a.length by omega),zAJ (show x+1<b.length by omega)]
    simp only[obs]
    cases(a[x] == b[x]) with
    | false=>exact⟨x,rfl,h1,h2⟩
    | true =>
     simp only[cond_true,obs]
     cases(a[x+1]'(by omega) == b[x+1]'(by omega)) with
     | false=>exact⟨x,rfl,h1,h2⟩
     | true =>
      simp only[cond_true]
      exact zQI ha hb k (x+2) (by omega) h3 h4
   ·rw[zAD (by omega)]
    exact⟨x,rfl,h1,h2⟩
  ·rw[zAD (by omega)]
   exact⟨x,rfl,h1,h2⟩
theorem zVs (p:List Int) (z:Nat) (hz:z<p.length):∃ a b,zFQ p (z:Int)=some (a,b):=by
 unfold zFQ;dsimp only;rw[zAJ hz]
 simp only[obs]
 cases((p.length:Int) == IntKind.i64.wrap ((z:Int)+1)) with
 | true=>exact⟨_,_,rfl⟩
 | false=>exact⟨_,_,rfl⟩
theorem zNF {n:Nat}{t:Nd} (k:Tok n t) (a b:List Int):∃ r e,zCr n t a b=some (r,e)/\(e=0->inL t.kids a/\inL t.kids b/\r.1.length<=49):=by
 have hv:=k.rv;have hf:=k.fuel;have hc:=k.cnt;obtain⟨x,g1,g2⟩:=zLo n t a hv (by omega) (by omega) (by omega)
 obtain⟨y,g3,g4⟩:=zLo n t b hv (by omega) (by omega) (by omega)
 rw[k.valid]at hv;cases x with
 | false =>
  obtain⟨t1,t2,t3,t4⟩:=t;refine⟨([],0,0),2,?_,fun h=>by cases h⟩
  unfold zCr;simp only[hv,obs,Bool.not_true,cond_false,g1,Bool.not_false,cond_true]
 | true =>
  cases y with
  | false =>
   obtain⟨t1,t2,t3,t4⟩:=t;refine⟨([],0,0),2,?_,fun h=>by cases h⟩
   unfold zCr;simp only[hv,obs,Bool.not_true,cond_false,g1,g3,Bool.not_false,cond_true]
  | true =>
   have ia:=(g2.1 rfl).2;have ib:=(g4.1 rfl).2;have sa:=k.short ia;have sb:=k.short ib;obtain⟨z,e1,z1,z2⟩:=zQI (a:=a) (b:=b) (by omega) (by omega) n 0 (by omega) (zTn ia) (zTn ib)
   rw[show((0:Nat):Int)=0 from rfl]at e1;obtain⟨p1,p2,e2⟩:=zVs a z z1;obtain⟨q1,q2,e3⟩:=zVs b z z2;refine⟨((a.take (z:Int).toNat).drop (0:Int).toNat,(if q1<p1 then q1 else p1),(if p2<q2 then q2 else p2)),0,?_,fun _=>⟨ia,ib,?_⟩⟩
   ·obtain⟨t1,t2,t3,t4⟩:=t;unfold zCr;simp only[hv,obs,Bool.not_true,cond_false,g1,g3,e1,e2,e3]
    rw[zBf ⟨by omega,by omega,by omega⟩,zBf (by simp only[List.length_nil,List.length_drop,List.length_take]; omega)]
   ·simp only[List.length_drop,List.length_take]
    omega
theorem zHq {n:Nat}{t:Nd} (k:Tok n t) (c:Cur):∃ r e,zCe n t c=some (r,e)/\(e=0->inL t.kids c.1/\r.1.length<=49):=by
 obtain⟨p,q⟩:=c;have key:∃ r e,zJ9 n t (p,q)=some (r,e)/\(e=0->inL t.kids p/\r.1.length<=49):=by
  obtain⟨r,e,h1,h2⟩:=zNF k p p;obtain⟨r',e',h3,h4⟩:=zNF k p q;obtain⟨t1,t2,t3,t4⟩:=t;obtain⟨r1,r2,r3⟩:=r;obtain⟨s1,s2,s3⟩:=r';unfold zJ9;dsimp only;cases((q.length:Int) == 0) with
  | true =>
   simp only[cond_true,h1,obs]
   exact⟨_,_,rfl,fun h=>⟨(h2 h).1,(h2 h).2.2⟩⟩
  | false =>
   simp only[cond_false,h3,obs]
   exact⟨_,_,rfl,fun h=>⟨(h4 h).1,(h4 h).2.2⟩⟩
 obtain⟨r,e,h1,h2⟩:=key;obtain⟨t1,t2,t3,t4⟩:=t;obtain⟨r1,r2,r3⟩:=r;unfold zCe;simp only[h1,obs]
 exact⟨_,_,rfl,h2⟩
theorem zYh (l:List Nd) (p q:Nat):Nd.ws ((l.take q).drop p)<=Nd.ws l:=by
 have h1:=Nd.ws_append (l.take q) (l.drop q)
 have h2:=Nd.ws_append ((l.take q).take p) ((l.take q).drop p)
 rw[List.take_append_drop]at h1 h2
 omega
theorem zXy {t:Nd}{p:List Int}:(rowS t p).1.w<=t.w:=by
 have h1:zCw.w<=t.w :=(by have:=zHj (v:=t); show 1<=t.w; omega);unfold rowS;split
 ·cases h:zBt t p with
  | none=>exact h1
  | some r=>exact(zH4 _ p t r (Nat.lt_succ_self _) h).1
 ·exact h1
theorem zS4 {n:Nat}{t:Nd} (k:Tok n t) (r:List Int×Int×Int) (hp:r.1.length<=100):∃ l e,zET n t r=some (l,e)/\Nd.ws l<=t.w:=by
 obtain⟨p,x,y⟩:=r;have hf:=k.fuel;have hw:=k.w;have hr:=zIF n t p (by dsimp only at hp; omega) k.rv;have hle:=zXy (t:=t) (p:=p)
 generalize rowS t p=q at hr hle;obtain⟨⟨u1,u2,u3,u4⟩,e⟩:=q;have hu:Nd.ws u4<=t.w:=by
  have:(Nd.mk u1 u2 u3 u4).w=u2.length+Nd.ws u4+1:=rfl;have hle':(Nd.mk u1 u2 u3 u4).w<=t.w:=hle
  omega
 have hul:=Nd.ws_len u4;obtain⟨t1,t2,t3,t4⟩:=t;unfold zET;simp only[hr,obs]
 cases(e != 0) with
 | true=>exact⟨[],e,rfl,Nat.zero_le _⟩
 | false =>
  simp only[cond_false]
  by_cases h1:x<0
  ·rw[zAF h1]
   exact⟨[],2,rfl,Nat.zero_le _⟩
  ·rw[zAD h1]
   by_cases h2:y<x
   ·rw[zAF h2]
    exact⟨[],2,rfl,Nat.zero_le _⟩
   ·rw[zAD h2]
    by_cases h3:(u4.length:Int)<y
    ·rw[zAF h3]
     exact⟨[],2,rfl,Nat.zero_le _⟩
    ·rw[zAD h3]
     simp only[cond_false,obs]
     rw[zBf ⟨by omega,by omega,by omega⟩,zBf (by simp only[List.length_nil,List.length_drop,List.length_take]; omega)]
     exact⟨_,_,rfl,Nat.le_trans (zYh _ _ _) hu⟩
theorem zVm {n:Nat}{t:Nd} (k:Tok n t) (r:List Int×Int×Int) (hp:r.1.length<=100):∃ l,zGf n t r=some l/\l.length<=1/\∀ o∈l,zGj o<=t.w+100:=by
 obtain⟨l,e,h1,h2⟩:=zS4 k r hp;obtain⟨p,x,y⟩:=r;obtain⟨t1,t2,t3,t4⟩:=t;unfold zGf;simp only[h1,obs]
 cases((l.length:Int) == 0) with
 | true=>exact⟨[],rfl,by simp,fun o h=>by cases h⟩
 | false =>
  refine⟨_,rfl,by simp,fun o h=>?_⟩
  rw[List.mem_singleton.1 h]
  simp only[zGj,Op8.nodes,Op8.text,Op8.row,List.length_nil]
  dsimp only at hp
  omega
def Ans (x:Option (Rc×Int)):Prop:=∃ r e,x=some (r,e)/\RFew r
theorem zXs:RFew (([],([],[]),([],[])):Rc):=⟨by decide,fun o h=>(by cases h),by decide,by decide,by decide,by decide⟩
theorem Ans.zero (e:Int):Ans (some ((([],([],[]),([],[])):Rc),e)):=⟨_,_,rfl,zXs⟩
theorem zFs {n:Nat}{t:Nd} (k:Tok n t) (c:Cur) (ops:List Op8) (pos:List Int) (hc:c.1.length<=10000/\c.2.length<=10000) (hl:ops.length<=12) (ho:∀ o∈ops,zGj o<=1048576) (hp:pos.length<=1000000):Ans (zBs n t c ops pos):=by
 have hf:RFew (ops,c,(pos,[])):=⟨hl,ho,by have:=hc.1; dsimp only; omega,by have:=hc.2; dsimp only; omega,by dsimp only; omega,Nat.zero_le _⟩
 obtain⟨u,i,e,h1,h2⟩:=hf.ref n k.fuel k.valid;obtain⟨c1,c2⟩:=c;obtain⟨u1,u2,u3,u4⟩:=u;obtain⟨t1,t2,t3,t4⟩:=t;dsimp only at h1;unfold zBs;simp only[h1,obs]
 cases(e != 0) with
 | true=>exact Ans.zero 6
 | false=>exact⟨_,_,rfl,hf⟩
theorem zHp (p q:List Int) (hp:p.length<=1000000) (hq:q.length<=1000000):zDO p q=some (p++q):=by
 unfold zDO;dsimp only;rw[zBf (by simp only[List.length_nil]; omega),zBf (by omega)]
theorem zLa (ks:List Nd) (but:Int) (hl:ks.length<=1073741824):∀ (k i:Nat),ks.length - i<k->i<=ks.length->∃ fl,zBW ks but k (i:Int)=some fl
 | 0,i,h,_=>by omega
 | k+1,i,h,hi=>by
  unfold zBW
  by_cases hj:i<ks.length
  ·rw[zAF (Int.ofNat_lt.2 hj),cond_true,zAJ hj]
   obtain⟨x1,x2,x3,x4⟩:=ks[i];have ih:=zLa ks but hl k (i+1) (by omega) (by omega)
   rw[zAH (by omega)]
   cases((i:Int) != but) with
   | false =>
    simp only[cond_false,obs]
    exact ih
   | true =>
    simp only[cond_true,obs]
    cases decide (0<(x4.length:Int)) with
    | true=>exact⟨_,rfl⟩
    | false=>exact ih
  ·rw[zAD (by omega)]
   exact⟨_,rfl⟩
theorem zN5 (n:Nat) (x:Nd) (but:Int) (hl:x.kids.length<=1073741824) (hn:x.kids.length<n):∃ b,zDP n x but=some b:=by
 obtain⟨fl,h⟩:=zLa x.kids but hl n 0 (by omega) (Nat.zero_le _)
 rw[show((0:Nat):Int)=0 from rfl]at h;obtain⟨x1,x2,x3,x4⟩:=x;simp only[Nd.kids]at h;unfold zDP;simp only[h,obs]
 cases fl with
 | ret b=>exact⟨b,rfl⟩
 | go u=>exact⟨false,rfl⟩
theorem zOa:∀ (q:List Int) (v:Nd),inL v.kids q->3<=q.length->∃ (p:List Int) (i s:Nat) (o:Int) (row x u:Nd),q=p++[(i:Int),(s:Int),o]/\zBt v p=some row/\row.kids[i]? = some x/\x.kids[s]? = some u
 | [],v,h,_=>h.elim
 | [_],v,_,h=>by simp at h
 | [_,_],v,h,_=>by
  obtain⟨_,_,_,_,u,_,h⟩:=zEO.1 h;exact h.elim
 | a::b::c::[],v,h,_=>by
  obtain⟨h1,x,h2,h3,u,h4,h5⟩:=zEO.1 h;refine⟨[],a.toNat,b.toNat,c,v,x,u,?_,?_,h2,h4⟩
  ·rw[Int.toNat_of_nonneg h1,Int.toNat_of_nonneg h3]; rfl
  ·rw[zBt]
 | a::b::c::d::r,v,h,_=>by
  obtain⟨h1,x,h2,h3,u,h4,h5⟩:=zEO.1 h;have hr:3<=(c::d::r).length:=by
   cases r with
   | nil =>
    obtain⟨_,_,_,_,u',_,h⟩:=zEO.1 h5;exact h.elim
   | cons e r=>simp
  obtain⟨p,i,s,o,row,x',u',g1,g2,g3,g4⟩:=zOa (c::d::r) u h5 hr;refine⟨a::b::p,i,s,o,row,x',u',by rw[g1]; rfl,?_,g3,g4⟩
  have:=zMr (n:=v) (p:=p) h2 h4;rw[Int.toNat_of_nonneg h1,Int.toNat_of_nonneg h3]at this;rw[this]
  exact g2
theorem zXW {t:Nd}{p:List Int}{i:Int}:(zSg t p i).1.w<=t.w:=by
 have h1:zCw.w<=t.w :=(by have:=zHj (v:=t); show 1<=t.w; omega);unfold zSg;split
 ·cases h:zBt t p with
  | none=>exact h1
  | some r =>
   dsimp only;have hw:=(zH4 _ p t r (Nat.lt_succ_self _) h).1;split
   ·rename_i hi
    have hlt:i.toNat<r.kids.length :=(by omega);have hm:r.kids.getD i.toNat r∈r.kids :=(by rw[List.getD_eq_getElem?_getD,List.getElem?_eq_getElem hlt]; exact List.getElem_mem hlt);have:=Nd.w_mem hm;have:=zHj (v:=r)
    dsimp only
    omega
   ·exact h1
 ·exact h1
theorem zJZ {n:Nat}{t:Nd} (k:Tok n t){q:List Int} (h:inL t.kids q):(∃ y,zB6 n t q=some (y,false)) ∨
  ∃ (p:List Int) (i s:Nat) (o:Int) (x u:Nd),q=p++[(i:Int),(s:Int),o]/\p.length<=46/\zB6 n t q=some ((p,(i:Int),(s:Int),x),true)/\x.kids[s]? = some u/\x.w<=t.w/\zFa x=true/\i<=1000/\x.kids.length<=1000:=by
 have hs:=k.short h;have hf:=k.fuel
 by_cases h3:q.length<3
 ·left
  obtain⟨t1,t2,t3,t4⟩:=t;unfold zB6;dsimp only;rw[zAF (by omega),cond_true]
  exact⟨_,rfl⟩
 ·right
  obtain⟨p,i,s,o,row,x,u,rfl,g2,g3,g4⟩:=zOa q t h (by omega)
  simp only[List.length_append,List.length_cons,List.length_nil]at hs;have hp:p.length<=46 :=(by omega);have hfd:=zWF g2;obtain⟨vk,vf,vc,vd⟩:=zGq k.valid;obtain⟨rf,rk⟩:=hfd.form vf vk;have hm:=List.mem_of_getElem? g3;have hsub:=zH4 _ p t row (Nat.lt_succ_self _) g2;have hw:=Nd.w_mem hm;have hrw:=zHj (v:=row)
  have hil:=(List.getElem?_eq_some_iff.1 g3).1;have hcm:=Nd.cnts_mem hm;have hck:=row.cnt_kids;have hcl:=Nd.cnts_len row.kids;have hxk:=x.cnt_kids;have hxl:=Nd.cnts_len x.kids;have hfx:zFa x=true:=(zGb (k:=row.kind) (a:=row.kids) (by cases row; exact zJ5 rf) hm).1;have hit:=zMP n t p (i:Int) (by omega) k.rv;have hitS:zSg t p (i:Int)=(x,0):=by
   unfold zSg;rw[if_pos k.valid,g2]
   dsimp only;rw[if_pos ⟨by omega,by omega⟩,Int.toNat_natCast,List.getD_eq_getElem?_getD,g3]
   rfl
  rw[hitS]at hit;refine⟨p,i,s,o,x,u,rfl,hp,?_,g4,by omega,hfx,by omega,by omega⟩
  have l0:((p++[(i:Int),(s:Int),o]).length:Int)=((p.length+3:Nat):Int) :=(by simp);have w3:IntKind.i64.wrap (((p.length+3:Nat):Int) - 3)=(p.length:Int) :=(by rw[wrap64_in (by omega) (by omega)]; omega);have w2:IntKind.i64.wrap (((p.length+3:Nat):Int) - 2)=((p.length+1:Nat):Int) :=(by rw[wrap64_in (by omega) (by omega)]; omega);have a1:at? (p++[(i:Int),(s:Int),o]) (p.length:Int)=some (i:Int):=by
   rw[zAJ (by simp)]; simp
  have a2:at? (p++[(i:Int),(s:Int),o]) ((p.length+1:Nat):Int)=some (s:Int):=by
   rw[zAJ (by simp)]; simp
  have tk:((p++[(i:Int),(s:Int),o]).take (p.length:Int).toNat).drop (0:Int).toNat=p:=by
   rw[Int.toNat_natCast,List.take_left]; rfl
  obtain⟨t1,t2,t3,t4⟩:=t;obtain⟨x1,x2,x3,x4⟩:=x;unfold zB6;dsimp only;rw[l0,zAD (by omega),cond_false,w3,w2,a1,a2,tk,zBf ⟨by omega,by omega,by omega⟩]
  simp only[obs,hit]
  rw[zBf ⟨by omega,by omega,by omega⟩]
theorem zM8 (p:List Int) (i s:Nat){x u:Nd} (hu:x.kids[s]? = some u) (hl:x.kids.length<=1000) (hp:p.length<=46):∃ m z,zEq (p,(i:Int),(s:Int),x)=some (4,p,(i:Int),m,[z],(s:Int),[],[])/\z.w<=x.w+2:=by
 have hr:=zEG (k:=x.kind) (tx:=x.text) (c:=x.cols) (ks:=x.kids) (i:=s) (x:=.mk 1 [] 0 []) hu (by omega)
 have ha:=zMf hu;have hw:=zJF (y:=.mk 1 [] 0 []) hu;have e1:(Nd.mk 1 [] 0 []).w=1:=rfl;have e2:=zHj (v:=x)
 have e3:(Nd.mk x.kind x.text x.cols (x.kids.set s (.mk 1 [] 0 []))).w=x.text.length+Nd.ws (x.kids.set s (.mk 1 [] 0 []))+1:=rfl;have e4:=zHj (v:=u)
 refine⟨(u.kids.length:Int),.mk x.kind x.text x.cols (x.kids.set s (.mk 1 [] 0 [])),?_,by omega⟩
 obtain⟨x1,x2,x3,x4⟩:=x;obtain⟨u1,u2,u3,u4⟩:=u;simp only[Nd.kind,Nd.text,Nd.cols,Nd.kids]at hr ha;unfold zEq zA3;simp only[ha,obs,hr]
 rfl
theorem zPX {p:List Int}{i m s:Int}{z:Nd}:zGj (4,p,i,m,[z],s,[],[])=z.w+1+p.length:=by
 simp[zGj,Op8.nodes,Op8.text,Op8.row,Nd.ws]
theorem zUO {n:Nat}{t:Nd} (k:Tok n t) (c:Cur) (items:List Nd) (hc:c.1.length<=10000/\c.2.length<=10000) (hi:Nd.ws items<=1000000):Ans (zCM n t c items):=by
 have hv:=k.rv;have hf:=k.fuel;have hw:=k.w;rw[k.valid]at hv;have hi2:=zFI n items (by omega) (by omega)
 have hil:=Nd.ws_len items;obtain⟨⟨r1,r2,r3⟩,e,h1,h2⟩:=zHq k c
 by_cases he:e=0
 ·obtain⟨g1,g2⟩:=h2 he;obtain⟨l,h3,h4,h5⟩:=zVm k (r1,r2,r3) (by dsimp only at g2 ⊢; omega)
  have h6:=zHp r1 [IntKind.i64.wrap (r2+(items.length:Int))] (by dsimp only at g2; omega) (by simp)
  have h7:=zFs k c (l++[(1,r1,r2,0,items,0,[],[])]) (r1++[IntKind.i64.wrap (r2+(items.length:Int))]) hc (by simp only[List.length_append,List.length_cons,List.length_nil]; omega) (fun o ho=>by
   rcases List.mem_append.1 ho with ho | ho
   ·have:=h5 o ho; omega
   ·rw[List.mem_singleton.1 ho]
    simp only[zGj,Op8.nodes,Op8.text,Op8.row,List.length_nil]
    dsimp only at g2
    omega) (by simp only[List.length_append,List.length_cons,List.length_nil]; dsimp only at g2; omega)
  have h8:=zFs k c l (r1++[IntKind.i64.wrap (r2+(items.length:Int))]) hc (by omega) (fun o ho=>by have:=h5 o ho; omega) (by simp only[List.length_append,List.length_cons,List.length_nil]; dsimp only at g2; omega)
  obtain⟨c1,c2⟩:=c;obtain⟨t1,t2,t3,t4⟩:=t;unfold zCM;simp only[hv,hi2,obs,Bool.not_true,cond_false]
  cases zAB (rowN items) with
  | false=>exact Ans.zero 1
  | true =>
   simp only[Bool.not_true,cond_false,h1,obs,he,show((0:Int) != 0)=false from rfl,h3,h6]
   cases decide (0<(items.length:Int)) with
   | true =>
    simp only[cond_true]
    rw[zBf (by simp only[List.length_cons,List.length_nil]; omega)]
    simp only[obs]
    obtain⟨⟨a,⟨b1,b2⟩,⟨d1,d2⟩⟩,e',q1,q2⟩:=h7;simp only[q1,obs]
    exact⟨_,_,rfl,q2⟩
   | false =>
    simp only[cond_false,obs]
    obtain⟨⟨a,⟨b1,b2⟩,⟨d1,d2⟩⟩,e',q1,q2⟩:=h8;simp only[q1,obs]
    exact⟨_,_,rfl,q2⟩
 ·obtain⟨c1,c2⟩:=c;obtain⟨t1,t2,t3,t4⟩:=t;unfold zCM;simp only[hv,hi2,obs,Bool.not_true,cond_false]
  cases zAB (rowN items) with
  | false=>exact Ans.zero 1
  | true =>
   simp only[Bool.not_true,cond_false,h1,obs,show(e != 0)=true from bne_iff_ne.2 he,cond_true]
   exact Ans.zero e
theorem zRN (ks:List Nd) (sl:Int) (row:List Int) (a b:Int) (hr:row.length<=1000) (hl:ks.length<=1000000):∀ (k t:Nat) (x:List Int),t<k->t<=ks.length->x.length<=2000->∃ y,zCt ks sl row a b k x ((t:Int) - 1)=some y/\y.length<=2000
 | 0,t,x,h,_,_=>by omega
 | k+1,0,x,_,_,hx=>by
  unfold zCt;rw[zAD (by omega)]
  exact⟨x,rfl,hx⟩
 | k+1,t+1,x,h,ht,hx=>by
  unfold zCt;have ez:(((t+1:Nat):Int) - 1)=(t:Int) :=(by omega);have g:ks[t]? = some (ks[t]'(by omega)):=List.getElem?_eq_getElem (by omega)
  generalize ks[t]'(by omega)=v at g;have ha:=zHp row [a,(t:Int),0] (by omega) (by simp)
  obtain⟨v1,v2,v3,v4⟩:=v;have w1:IntKind.i64.wrap ((t:Int) - 1)=(t:Int) - 1:=wrap64_in (by omega) (by omega)
  rw[ez,zAF (by omega),cond_true,zMf g,ha,w1]
  simp only[obs]
  have ih:=fun x hx=>zRN ks sl row a b hr hl k t x (by omega) (by omega) hx
  cases hc:((v4.length:Int) == 0) with
  | false =>
   simp only[cond_false,obs]
   exact ih x hx
  | true =>
   simp only[cond_true]
   cases((t:Int) != sl) with
   | true =>
    simp only[cond_true,obs]
    exact ih _ (by simp only[List.length_append,List.length_cons,List.length_nil]; omega)
   | false =>
    simp only[cond_false,obs]
    cases(IntKind.i64.wrap (b - a) == 0) with
    | true =>
     simp only[cond_true,obs]
     exact ih _ (by simp only[List.length_append,List.length_cons,List.length_nil]; omega)
    | false =>
     simp only[cond_false,obs]
     exact ih x hx
theorem zXL {n:Nat}{t:Nd} (k:Tok n t) (c:Cur) (x:Nd) (sl:Int) (hc:c.1.length<=10000/\c.2.length<=10000) (hx:x.w<=1000000):Ans (zEp n t c x sl):=by
 have hv:=k.rv;have hf:=k.fuel;rw[k.valid]at hv;have hws:Nd.ws [x]=x.w+1 :=(by simp[Nd.ws]);obtain⟨fb,hfo,_⟩:=zHy n 3 [] 0 0 [x] sl [] [] (by omega) (by omega)
 have hkw:=zHj (v:=x)
 have hkl:=Nd.ws_len x.kids;obtain⟨⟨r1,r2,r3⟩,e,h1,h2⟩:=zHq k c
 by_cases he:e=0
 ·obtain⟨g1,g2⟩:=h2 he;dsimp only at g2;have h6:=zHp r1 [IntKind.i64.wrap (r2+1)] (by omega) (by simp)
  obtain⟨y,h7,h8⟩:=zRN x.kids sl r1 r2 r3 (by omega) (by omega) n x.kids.length (r1++[IntKind.i64.wrap (r2+1)]) (by omega) (Nat.le_refl _) (by simp only[List.length_append,List.length_cons,List.length_nil]; omega)
  have h9:=zFs k c [(3,r1,r2,IntKind.i64.wrap (r3 - r2),[x],sl,[],[])] y hc (by simp) (fun o ho=>by
   rw[List.mem_singleton.1 ho]
   simp only[zGj,Op8.nodes,Op8.text,Op8.row,List.length_nil,hws]
   omega) (by omega)
  have hwr:IntKind.i64.wrap ((x.kids.length:Int) - 1)=(x.kids.length:Int) - 1:=wrap64_in (by omega) (by omega)
  obtain⟨c1,c2⟩:=c;obtain⟨t1,t2,t3,t4⟩:=t;obtain⟨x1,x2,x3,x4⟩:=x;simp only[Nd.kids]at h7 hwr;unfold zEp;simp only[hv,hfo,obs,Bool.not_true,cond_false]
  cases fb with
  | false=>exact Ans.zero 1
  | true =>
   simp only[Bool.not_true,cond_false,h1,obs,he,show((0:Int) != 0)=false from rfl,h6,hwr,h7]
   obtain⟨⟨a,⟨b1,b2⟩,⟨d1,d2⟩⟩,e',q1,q2⟩:=h9;simp only[q1,obs]
   exact⟨_,_,rfl,q2⟩
 ·obtain⟨c1,c2⟩:=c;obtain⟨t1,t2,t3,t4⟩:=t;obtain⟨x1,x2,x3,x4⟩:=x;unfold zEp;simp only[hv,hfo,obs,Bool.not_true,cond_false]
  cases fb with
  | false=>exact Ans.zero 1
  | true =>
   simp only[Bool.not_true,cond_false,h1,obs,show(e != 0)=true from bne_iff_ne.2 he,cond_true]
   exact Ans.zero e
theorem zM9 (a b:List Int) (o:Int) (s:Int) (i:Int) (hb:a=b++[i,s,o]) (hl:b.length<=1000000):∀ (k j:Nat),b.length - j<k->j<=b.length->zCd a b k (j:Int)=some (.go ())
 | 0,j,h,_=>by omega
 | k+1,j,h,hj=>by
  unfold zCd
  by_cases h1:j<b.length
  ·have h2:j<a.length :=(by rw[hb]; simp; omega);have e:a[j]=b[j] :=(by subst hb; rw[List.getElem_append_left h1]);rw[zAF (Int.ofNat_lt.2 h1),cond_true,zAJ h1,zAJ h2,e]
   simp only[obs,bne_self_eq_false,cond_false]
   rw[zAH (by omega)]
   exact zM9 a b o s i hb hl k (j+1) (by omega) (by omega)
  ·rw[zAD (by omega)]; rfl
theorem zXI (n:Nat) (p:List Int) (i s:Nat) (o m:Int) (z:Nd) (hp:p.length<=46) (hn:1000<n):∃ y,zIb n (4,p,(i:Int),m,[z],(s:Int),[],[]) (p++[(i:Int),(s:Int),o]) false=some y/\y.length<=1000:=by
 have hw:=zM9 (p++[(i:Int),(s:Int),o]) p o s i rfl (by omega) n 0 (by omega) (Nat.zero_le _)
 rw[show((0:Nat):Int)=0 from rfl]at hw;have l0:((p++[(i:Int),(s:Int),o]).length:Int)=(p.length:Int)+3 :=(by simp);have w1:IntKind.i64.wrap ((p.length:Int)+1)=(p.length:Int)+1:=wrap64_in (by omega) (by omega)
 have w2:IntKind.i64.wrap ((p.length:Int)+2)=(p.length:Int)+2:=wrap64_in (by omega) (by omega)
 have hwi:zFn n (p++[(i:Int),(s:Int),o]) p=some true:=by
  unfold zFn;dsimp only;rw[l0,zAD (by omega),cond_false,hw]
  simp only[obs]
  rw[w2]
  congr 1
  exact bne_iff_ne.2 (by omega)
 have a1:at? (p++[(i:Int),(s:Int),o]) (p.length:Int)=some (i:Int) :=(by rw[zAJ (by simp)]; simp);have a2:at? (p++[(i:Int),(s:Int),o]) ((p.length:Int)+1)=some (s:Int):=by
  rw[show((p.length:Int)+1)=((p.length+1:Nat):Int) from rfl,zAJ (by simp)]; simp
 have dr:((p++[(i:Int),(s:Int),o]).take ((p.length:Int)+3).toNat).drop ((p.length:Int)+2).toNat=[o]:=by
  rw[show((p.length:Int)+3).toNat=p.length+3 by omega,show((p.length:Int)+2).toNat=p.length+2 by omega,List.take_of_length_le (by simp),List.drop_append]
  simp
 have ins:∃ y,zFm (4,p,(i:Int),m,[z],(s:Int),[],[]) (i:Int) (s:Int) [o]=some y/\y.length=1:=by
  refine⟨[IntKind.i64.wrap ((i:Int)+o)],?_,rfl⟩
  have d1:decide ((i:Int)<(i:Int))=false:=zAD (by omega)
  have d2:decide ((s:Int)<(s:Int))=false:=zAD (by omega)
  unfold zFm;simp only[d1,d2,cond_false,cond_true,obs,beq_self_eq_true,show((4:Int) == 1)=false from rfl,show((4:Int) == 2)=false from rfl,show((4:Int) == 3)=false from rfl]
  rfl
 obtain⟨y,e1,e2⟩:=ins;refine⟨p++y,?_,by rw[List.length_append,e2]; omega⟩
 unfold zIb;simp only[hwi,obs,Bool.not_true,cond_false]
 rw[zBf (by simp only[List.length_nil]; omega),l0,w1,zBM (by omega),cond_false,a1,a2,w2,dr]
 simp only[obs]
 rw[zBf ⟨by omega,by omega,by omega⟩,e1]
 simp only[obs]
 rw[zBf (by rw[e2]; omega)]
theorem zVd {n:Nat}{t:Nd} (k:Tok n t) (c:Cur) (hc:c.1.length<=10000/\c.2.length<=10000):Ans (zDx n t c):=by
 have hf:=k.fuel;have hw:=k.w;obtain⟨⟨r1,r2,r3⟩,e,h1,h2⟩:=zHq k c
 by_cases he:e=0
 ·obtain⟨g1,g2⟩:=h2 he;rcases zJZ k g1 with ⟨⟨y1,y2,y3,⟨y4,y5,y6,y7⟩⟩,h3⟩ | ⟨p,i,s,o,x,u,q1,q2,q3,q4,q5,q6,q7,q8⟩
  ·obtain⟨c1,c2⟩:=c;obtain⟨t1,t2,t3,t4⟩:=t;unfold zDx;simp only[h1,obs,he,show((0:Int) != 0)=false from rfl,cond_false,h3,Bool.not_false,cond_true]
   exact Ans.zero 8
  ·obtain⟨m,z,h4,h5⟩:=zM8 p i s q4 q8 q2;obtain⟨y,h6,h7⟩:=zXI n p i s o m z q2 (by omega)
   rw[← q1]at h6;have h8:=zFs k c [(4,p,(i:Int),m,[z],(s:Int),[],[])] y hc (by simp) (fun o ho=>by rw[List.mem_singleton.1 ho,zPX]; omega) (by omega)
   obtain⟨c1,c2⟩:=c;obtain⟨t1,t2,t3,t4⟩:=t;obtain⟨x1,x2,x3,x4⟩:=x;dsimp only at h6;unfold zDx;simp only[h1,obs,he,show((0:Int) != 0)=false from rfl,cond_false,q3,Bool.not_true,h4,h6]
   obtain⟨⟨a,⟨b1,b2⟩,⟨d1,d2⟩⟩,e',w1,w2⟩:=h8;simp only[w1,obs]
   exact⟨_,_,rfl,w2⟩
 ·obtain⟨c1,c2⟩:=c;obtain⟨t1,t2,t3,t4⟩:=t;unfold zDx;simp only[h1,obs,show(e != 0)=true from bne_iff_ne.2 he,cond_true]
  exact Ans.zero e
theorem zTo {p:List Int}{a b o:Int}:(((p++[a,b,o]).length:Int)=(p.length:Int)+3)/\at? (p++[a,b,o]) ((p.length:Int)+2)=some o:=by
 refine⟨by simp,?_⟩
 rw[show((p.length:Int)+2)=((p.length+2:Nat):Int) from rfl,zAJ (by simp)]
 simp
theorem zWt {n:Nat}{t:Nd} (k:Tok n t) (c:Cur) (hc:c.1.length<=10000/\c.2.length<=10000):Ans (zD9 n t c):=by
 have hf:=k.fuel;have hw:=k.w;obtain⟨⟨r1,r2,r3⟩,e,h1,h2⟩:=zHq k c
 by_cases he:e=0
 ·obtain⟨g1,g2⟩:=h2 he;rcases zJZ k g1 with ⟨⟨y1,y2,y3,⟨y4,y5,y6,y7⟩⟩,h3⟩ | ⟨p,i,s,o,x,u,q1,q2,q3,q4,q5,q6,q7,q8⟩
  ·obtain⟨c1,c2⟩:=c;obtain⟨t1,t2,t3,t4⟩:=t;unfold zD9;simp only[h1,obs,he,show((0:Int) != 0)=false from rfl,cond_false,h3,Bool.not_false,cond_true]
   exact Ans.zero 8
  ·obtain⟨l0,a0⟩:=zTo (p:=p) (a:=(i:Int)) (b:=(s:Int)) (o:=o)
   rw[← q1]at l0 a0;have w1:IntKind.i64.wrap ((c.1.length:Int) - 1)=(p.length:Int)+2 :=(by rw[l0,wrap64_in (by omega) (by omega)]; omega);have h4:=zHp p [(i:Int),(s:Int)] (by omega) (by simp)
   obtain⟨l,e2,h5,h6⟩:=zS4 k (p++[(i:Int),(s:Int)],o,(u.kids.length:Int)) (by simp only[List.length_append,List.length_cons,List.length_nil]; omega)
   obtain⟨l',h7,h8,h9⟩:=zVm k (p++[(i:Int),(s:Int)],o,(u.kids.length:Int)) (by simp only[List.length_append,List.length_cons,List.length_nil]; omega)
   have ha:=zMf q4;have hr:=zEG (k:=x.kind) (tx:=x.text) (c:=x.cols) (ks:=x.kids) (i:=s) (x:=.mk 1 [] 0 l) q4 (by omega)
   have hws:=zJF (y:=.mk 1 [] 0 l) q4;have hl1:(Nd.mk 1 [] 0 l).w=Nd.ws l+1 :=(by simp[Nd.w]);have hk:=zHj (v:=x)
   have hz:(Nd.mk x.kind x.text x.cols (x.kids.set s (.mk 1 [] 0 l))).w=x.text.length+Nd.ws (x.kids.set s (.mk 1 [] 0 l))+1:=rfl;have h10:=zHp p [IntKind.i64.wrap ((i:Int)+1),(s:Int),0] (by omega) (by simp)
   have h11:=zFs k c (l'++[(1,p,IntKind.i64.wrap ((i:Int)+1),0,[Nd.mk x.kind x.text x.cols (x.kids.set s (.mk 1 [] 0 l))],0,[],[])]) (p++[IntKind.i64.wrap ((i:Int)+1),(s:Int),0]) hc (by simp only[List.length_append,List.length_cons,List.length_nil]; omega) (fun o ho=>by
    rcases List.mem_append.1 ho with ho | ho
    ·have:=h9 o ho; omega
    ·rw[List.mem_singleton.1 ho]
     simp only[zGj,Op8.nodes,Op8.text,Op8.row,List.length_nil,Nd.ws]
     omega) (by simp only[List.length_append,List.length_cons,List.length_nil]; omega)
   obtain⟨c1,c2⟩:=c;obtain⟨t1,t2,t3,t4⟩:=t;obtain⟨x1,x2,x3,x4⟩:=x;obtain⟨u1,u2,u3,u4⟩:=u;simp only[Nd.kind,Nd.text,Nd.cols,Nd.kids]at *;unfold zD9 zA3;simp only[h1,obs,he,show((0:Int) != 0)=false from rfl,cond_false,q3,Bool.not_true,w1,a0]
   have hb:∃ v,(bif decide (r2<r3) then some true else bif (x1 != 11) then some (x1 != 10) else some false:Option Bool)=some v:=by
    cases decide (r2<r3) <;> cases(x1 != 11) <;> exact⟨_,rfl⟩
   obtain⟨v,hb⟩:=hb;simp only[hb,obs]
   cases v with
   | true=>exact Ans.zero 7
   | false =>
    simp only[cond_false,h4,ha,h5,h7,h10,hr,obs]
    rw[zBf (by simp only[List.length_cons,List.length_nil]; omega)]
    obtain⟨⟨a,⟨b1,b2⟩,⟨d1,d2⟩⟩,e',q1',q2'⟩:=h11;simp only[q1',obs]
    exact⟨_,_,rfl,q2'⟩
 ·obtain⟨c1,c2⟩:=c;obtain⟨t1,t2,t3,t4⟩:=t;unfold zD9;simp only[h1,obs,show(e != 0)=true from bne_iff_ne.2 he,cond_true]
  exact Ans.zero e
theorem zVP (q:List Int) (h0:0<q.length) (h1:q.length<=1000000):∃ p o,q=p++[o]/\IntKind.i64.wrap ((q.length:Int) - 1)=(p.length:Int)/\at? q (p.length:Int)=some o/\(q.take (p.length:Int).toNat).drop (0:Int).toNat=p/\p.length+1=q.length:=by
 rcases List.eq_nil_or_concat q with rfl | ⟨p,o,rfl⟩
 ·simp at h0
 ·rw[List.concat_eq_append]at *;rw[List.length_append,List.length_singleton]at h1;refine⟨p,o,rfl,?_,?_,?_,by simp⟩
  ·rw[List.length_append,List.length_singleton,wrap64_in (by omega) (by omega)]; omega
  ·rw[zAJ (by simp)]; simp
  ·rw[Int.toNat_natCast,List.take_left]; rfl
theorem zYo {n:Nat}{t:Nd} (k:Tok n t) (c:Cur) (x:List UInt8) (hc:c.1.length<=10000/\c.2.length<=10000) (hx:x.length<=10000):Ans (zHa n t c x):=by
 have hf:=k.fuel;have hw:=k.w;obtain⟨⟨r1,r2,r3⟩,e,h1,h2⟩:=zHq k c
 by_cases he:e=0
 ·obtain⟨g1,g2⟩:=h2 he;have hs:=k.short g1;obtain⟨c1,c2⟩:=c;dsimp only at g1 hs hc;obtain⟨p,o,p1,p2,p3,p4,p5⟩:=zVP c1 (zTn g1) (by omega)
  have hi:=zMP n t p (IntKind.i64.wrap (o - 1)) (by omega) k.rv;have hiw:=zXW (t:=t) (p:=p) (i:=IntKind.i64.wrap (o - 1))
  generalize zSg t p (IntKind.i64.wrap (o - 1))=y at hi hiw;obtain⟨⟨y1,y2,y3,y4⟩,ye⟩:=y;have hy:(Nd.mk y1 y2 y3 y4).w=y2.length+Nd.ws y4+1:=rfl;dsimp only at hiw;obtain⟨⟨a1,a2,a3,a4⟩,e',ha,_⟩:=zLp n t (5,p,IntKind.i64.wrap (o - 1),0,[],0,y2,x) (by omega) (by omega) (Nat.zero_le _) (by dsimp only; omega) (by dsimp only; omega)
  obtain⟨⟨v1,⟨v2,v3⟩,⟨v4,v5⟩⟩,ve,d1,d2⟩:=zFs k (c1,c2) [(5,p,IntKind.i64.wrap (o - 1),0,[],0,y2,x)] [] hc (by simp) (fun o ho=>by
   rw[List.mem_singleton.1 ho]
   simp only[zGj,Op8.nodes,Op8.text,Op8.row,Nd.ws]
   omega) (by simp)
  obtain⟨t1,t2,t3,t4⟩:=t;unfold zHa;simp only[h1,obs,he,show((0:Int) != 0)=false from rfl,cond_false,p2,p3,p4]
  rw[zBf ⟨by omega,by omega,by omega⟩]
  cases(o == 0) with
  | true=>exact Ans.zero 8
  | false =>
   simp only[cond_false,hi,ha,obs]
   have hb:∃ v,(bif (e' == 4) then some true else some (e' == 7):Option Bool)=some v:=by
    cases(e' == 4) <;> exact⟨_,rfl⟩
   obtain⟨v,hb⟩:=hb;simp only[hb,obs]
   cases v with
   | true=>exact Ans.zero 7
   | false =>
    simp only[cond_false,d1,obs]
    cases(ve == 0) with
    | false=>exact⟨_,_,rfl,d2⟩
    | true=>exact⟨_,_,rfl,d2.len,d2.bulk,d2.b1,d2.b2,by dsimp only; omega,by dsimp only; omega⟩
 ·obtain⟨c1,c2⟩:=c;obtain⟨t1,t2,t3,t4⟩:=t;unfold zHa;simp only[h1,obs,show(e != 0)=true from bne_iff_ne.2 he,cond_true]
  exact Ans.zero e
theorem zVT {n:Nat}{t:Nd} (k:Tok n t) (i:Int):∃ r e,zJ8 n t i=some (r,e)/\r.length<=49:=by
 have hc:=k.cnt;have hf:=k.fuel;have e1:=zOq n t k.rv (by omega) (by omega)
 rw[k.valid,cond_true]at e1;have hm:∀ q∈posT t,q.length<=49:=fun q hq=>zML k.valid hq
 obtain⟨t1,t2,t3,t4⟩:=t;unfold zJ8;simp only[e1,obs,show((0:Int) != 0)=false from rfl,cond_false]
 by_cases h1:i<0
 ·rw[zAF h1]
  exact⟨[],2,rfl,Nat.zero_le _⟩
 ·rw[zAD h1]
  by_cases h2:(posT (.mk t1 t2 t3 t4)).length<=i.toNat
  ·have h3:((posT (.mk t1 t2 t3 t4)).length:Int)<=i :=(by omega);simp only[cond_false,obs]
   rw[zAF h3]
   exact⟨[],2,rfl,Nat.zero_le _⟩
  ·have h3:¬ ((posT (.mk t1 t2 t3 t4)).length:Int)<=i :=(by omega);simp only[cond_false,obs]
   rw[zAD h3,cond_false]
   have h4:i=((i.toNat:Nat):Int) :=(by omega);have h5:i.toNat<(posT (.mk t1 t2 t3 t4)).length :=(by omega);rw[h4,zAJ h5]
   exact⟨_,_,rfl,hm _ (List.getElem_mem h5)⟩
theorem zSO {n:Nat}{t:Nd} (k:Tok n t) (q:List Int) (i:Int):∃ r e,zER n t q i=some (r,e)/\r.length<=49:=by
 have hc:=k.cnt;have hf:=k.fuel;obtain⟨j,e,h1,_⟩:=zLn n t q k.rv (by omega) (by omega) (by omega)
 obtain⟨r,e',h2,h3⟩:=zVT k (IntKind.i64.wrap (j+i))
 obtain⟨t1,t2,t3,t4⟩:=t;unfold zER;simp only[h1,h2,obs]
 cases(e != 0) with
 | true=>exact⟨_,_,rfl,Nat.zero_le _⟩
 | false =>
  simp only[cond_false]
  cases(e' != 0) with
  | true=>exact⟨_,_,rfl,Nat.zero_le _⟩
  | false=>exact⟨_,_,rfl,h3⟩
theorem zT6 (p:List Int) (x y:Int) (hp:p.length<=1000000):zGe (p,x,y)=some (p++[x]):=by
 unfold zGe;dsimp only;rw[zBf (by simp only[List.length_nil]; omega),zBf (by simp only[List.length_cons,List.length_nil]; omega)]
theorem Ans.pass {x:Option (Rc×Int)} (h:Ans x):Ans (x.bind fun⟨⟨a,⟨b1,b2⟩,⟨d1,d2⟩⟩,e⟩=>some ((a,(b1,b2),(d1,d2)),e)):=by
 obtain⟨⟨a,⟨b1,b2⟩,⟨d1,d2⟩⟩,e,rfl,h2⟩:=h;exact⟨_,_,rfl,h2⟩
theorem zTI {n:Nat}{t:Nd} (k:Tok n t) (c:Cur) (q:List Int) (d:Int) (hc:c.1.length<=10000/\c.2.length<=10000):∃ r e,zER n t q d=some (r,e)/\Ans (zBs n t c [] r):=by
 obtain⟨r,e,h1,h2⟩:=zSO k q d;exact⟨r,e,h1,zFs k c [] r hc (by simp) (fun o ho=>by cases ho) (by omega)⟩
theorem zWk {n:Nat}{t:Nd} (k:Tok n t) (c:Cur) (fl:Bool) (hc:c.1.length<=10000/\c.2.length<=10000):Ans (zEU n t c fl):=by
 have hf:=k.fuel;have hw:=k.w;obtain⟨⟨r1,r2,r3⟩,e,h1,h2⟩:=zHq k c
 by_cases he:e=0
 ·obtain⟨g1,g2⟩:=h2 he;have hs:=k.short g1;dsimp only at g2;obtain⟨l,h3,h4,h5⟩:=zVm k (r1,r2,r3) (by dsimp only; omega)
  have h6:=zT6 r1 r2 r3 (by omega)
  obtain⟨⟨v1,⟨v2,v3⟩,⟨v4,v5⟩⟩,ve,d1,d2⟩:=zFs k c l (r1++[r2]) hc (by omega) (fun o ho=>by have:=h5 o ho; omega) (by simp only[List.length_append,List.length_cons,List.length_nil]; omega)
  have har:=zJZ k g1;obtain⟨c1,c2⟩:=c;dsimp only at g1 hs hc har;obtain⟨p,o,p1,p2,p3,p4,p5⟩:=zVP c1 (zTn g1) (by omega)
  have hr:=zIF n t p (by omega) k.rv;have hrw:=zXy (t:=t) (p:=p)
  generalize rowS t p=y at hr hrw;obtain⟨⟨y1,y2,y3,y4⟩,ye⟩:=y;have hy:(Nd.mk y1 y2 y3 y4).w=y2.length+Nd.ws y4+1:=rfl;dsimp only at hrw;have hz:∃ z d,(bif fl then some (IntKind.i64.wrap (o - 1),-1) else some (o,1):Option (Int×Int))=some (z,d):=by
   cases fl <;> exact⟨_,_,rfl⟩
  obtain⟨z,d,hz⟩:=hz;obtain⟨w1,w2,w3,w4⟩:=zTI k (c1,c2) c1 d hc;have step:Ans ((zER n t c1 d).bind fun⟨y47,y48⟩ =>
    bif (y48 != 0) then (
     some (([],([],[]),([],[])),y48)
    ) else (
     (zBs n t (c1,c2) [] y47).bind fun⟨⟨y49W,⟨y49X,y49Y⟩,⟨y49Z,y49Aa⟩⟩,y50⟩ =>
     some ((y49W,(y49X,y49Y),(y49Z,y49Aa)),y50)
    )):=by
   simp only[w3,obs]
   cases(w2 != 0) with
   | true=>exact Ans.zero w2
   | false=>exact w4.pass
  have hb:∃ v,(bif decide (0<=z) then some (decide (z<(y4.length:Int))) else some false:Option Bool)=some v/\(v=true->0<=z/\z<(y4.length:Int)):=by
   by_cases q1:0<=z
   ·rw[zAF q1,cond_true]
    by_cases q2:z<(y4.length:Int)
    ·rw[zAF q2]; exact⟨true,rfl,fun _=>⟨q1,q2⟩⟩
    ·rw[zAD q2]; exact⟨false,rfl,fun h=>by cases h⟩
   ·rw[zAD q1]; exact⟨false,rfl,fun h=>by cases h⟩
  obtain⟨v,hb,hv⟩:=hb;obtain⟨t1,t2,t3,t4⟩:=t;unfold zEU;simp only[h1,obs,he,show((0:Int) != 0)=false from rfl,cond_false,p2,p3,p4]
  cases decide (r2<r3) with
  | true =>
   simp only[cond_true,h3,h6,d1,obs]
   exact⟨_,_,rfl,d2⟩
  | false =>
   rw[cond_false,zBf ⟨by omega,by omega,by omega⟩]
   simp only[hr,hz,hb,obs]
   cases v with
   | true =>
    obtain⟨z1,z2⟩:=hv rfl;have z3:z=((z.toNat:Nat):Int) :=(by omega);have hg:y4[z.toNat]? = some (y4[z.toNat]'(by omega)):=List.getElem?_eq_getElem (by omega)
    have hm:y4[z.toNat]'(by omega)∈y4:=List.getElem_mem _;generalize y4[z.toNat]'(by omega)=u at hg hm;have hmw:=Nd.w_mem hm;have ha:at? y4 z=some u :=(by rw[z3]; exact zMf hg);have hk:=zHj (v:=u)
    have hl:=Nd.ws_len u.kids;obtain⟨b,hcb⟩:=zN5 n u (-1) (by omega) (by omega)
    have hat:=zHp p [z] (by omega) (by simp)
    have hdn:=zFs k (c1,c2) [(2,p,z,0,[u],0,[],[])] (p++[z]) hc (by simp) (fun o ho=>by
     rw[List.mem_singleton.1 ho]
     have:Nd.ws [u]=u.w+1 :=(by simp[Nd.ws]);simp only[zGj,Op8.nodes,Op8.text,Op8.row,List.length_nil,this]
     omega) (by simp only[List.length_append,List.length_cons,List.length_nil]; omega)
    obtain⟨u1,u2,u3,u4⟩:=u;simp only[cond_true,ha,hcb,obs]
    cases b with
    | true =>
     simp only[Bool.not_true,cond_false,obs]
     exact step
    | false =>
     obtain⟨⟨v1,⟨v2,v3⟩,⟨v4,v5⟩⟩,ve,d1,d2⟩:=hdn;simp only[Bool.not_false,cond_true,hat,d1,obs]
     exact⟨_,_,rfl,d2⟩
   | false =>
    simp only[cond_false]
    rcases har with ⟨⟨y1',y2',y3',⟨y4',y5',y6',y7'⟩⟩,h3'⟩ | ⟨p',i,s,o',x,u,q1,q2,q3,q4,q5,q6,q7,q8⟩
    ·simp only[h3',cond_false,obs]
     exact step
    ·have hk:=zHj (v:=x)
     have hl:=Nd.ws_len x.kids;obtain⟨b,hcb⟩:=zN5 n x (s:Int) (by omega) (by omega)
     obtain⟨m,zz,h4',h5'⟩:=zM8 p' i s q4 q8 q2;obtain⟨x1,x2,x3,x4⟩:=x;simp only[q3,hcb,cond_true,obs]
     cases b with
     | true =>
      simp only[Bool.not_true,cond_false,obs]
      exact step
     | false =>
      simp only[Bool.not_false,cond_true,h4',obs]
      cases fl with
      | true =>
       have hat:=zHp p' [(i:Int)] (by omega) (by simp)
       obtain⟨⟨v1,⟨v2,v3⟩,⟨v4,v5⟩⟩,ve,d1,d2⟩:=zFs k (c1,c2) [(4,p',(i:Int),m,[zz],(s:Int),[],[])] (p'++[(i:Int)]) hc (by simp) (fun o ho=>by rw[List.mem_singleton.1 ho,zPX]; omega) (by simp only[List.length_append,List.length_cons,List.length_nil]; omega)
       simp only[cond_true,hat,d1,obs]
       exact⟨_,_,rfl,d2⟩
      | false =>
       have hat:=zHp p' [IntKind.i64.wrap ((i:Int)+m)] (by omega) (by simp)
       obtain⟨⟨v1,⟨v2,v3⟩,⟨v4,v5⟩⟩,ve,d1,d2⟩:=zFs k (c1,c2) [(4,p',(i:Int),m,[zz],(s:Int),[],[])] (p'++[IntKind.i64.wrap ((i:Int)+m)]) hc (by simp) (fun o ho=>by rw[List.mem_singleton.1 ho,zPX]; omega) (by simp only[List.length_append,List.length_cons,List.length_nil]; omega)
       simp only[cond_false,hat,d1,obs]
       exact⟨_,_,rfl,d2⟩
 ·obtain⟨c1,c2⟩:=c;obtain⟨t1,t2,t3,t4⟩:=t;unfold zEU;simp only[h1,obs,show(e != 0)=true from bne_iff_ne.2 he,cond_true]
  exact Ans.zero e
theorem zYy (fl:Bool) (own cols x:Int) (h0:1<=cols) (h1:cols<=16):∀ (k j:Nat) (l:List Nd),16 - j<k->l.length+(16 - j)<=1000000->∃ l',zCs fl own cols x k (j:Int) l=some l'/\Nd.ws l'<=Nd.ws l+2 * (16 - j)/\l'.length<=l.length+(16 - j)
 | 0,j,l,h,_=>by omega
 | k+1,j,l,h,hl=>by
  unfold zCs zA3
  by_cases hj:(j:Int)<cols
  ·rw[zAF hj,cond_true]
   rw[zBf (show cols ≠ 0 by omega)]
   have hw:Nd.ws (l++[.mk 1 [] 0 []])=Nd.ws l+2 :=(by rw[Nd.ws_append]; rfl);obtain⟨l',e1,e2,e3⟩:=zYy fl own cols x h0 h1 k (j+1) (l++[.mk 1 [] 0 []]) (by omega) (by simp only[List.length_append,List.length_cons,List.length_nil]; omega)
   simp only[List.length_append,List.length_cons,List.length_nil]at e3;have done:Nd.ws l<=Nd.ws l+2 * (16 - j)/\l.length<=l.length+(16 - j):=⟨by omega,by omega⟩
   have go:∃ l'',(req (l.length + [Nd.mk 1 [] 0 []].length<=4294967296) <| zCs fl own cols x k (IntKind.i64.wrap ((j:Int)+1)) (l++[Nd.mk 1 [] 0 []]))=some l''/\Nd.ws l''<=Nd.ws l+2 * (16 - j)/\l''.length<=l.length+(16 - j):=by
    rw[zBf (by simp only[List.length_cons,List.length_nil]; omega),zAH (by omega),e1]
    exact⟨l',rfl,by omega,by omega⟩
   cases fl with
   | true=>exact⟨l,rfl,done⟩
   | false =>
    simp only[Bool.not_false,cond_true,obs]
    cases(x == IntKind.i64.wrap (IntKind.i64.wrap (IntKind.i64.wrap (IntKind.i64.wrap (own.tdiv cols) * cols)+cols) - 1)) with
    | false=>exact⟨l,rfl,done⟩
    | true =>
     simp only[cond_true]
     exact go
  ·rw[zAD hj]
   exact⟨l,rfl,by omega,by omega⟩
theorem zYx (n:Nat) (fl:Bool) (own cols:Int) (ks:List Nd) (h0:1<=cols) (h1:cols<=16) (hn:100<n) (hm:ks.length<=1000):∀ (k i:Nat) (x:Int) (l:List Nd),ks.length - i<k->i<=ks.length->Nd.ws l+Nd.ws (ks.drop i)+40 * (ks.length - i)<=900000->∃ y l',zCY n fl own cols ks k x (i:Int) l=some (y,l')/\Nd.ws l'<=Nd.ws l+Nd.ws (ks.drop i)+40 * (ks.length - i)
 | 0,i,x,l,h,_,_=>by omega
 | k+1,i,x,l,h,hi,hb=>by
  unfold zCY zA3
  by_cases hj:i<ks.length
  ·have hd:Nd.ws (ks.drop i)=(ks[i]).w+1+Nd.ws (ks.drop (i+1)):=by
    rw[List.drop_eq_getElem_cons hj]; simp only[Nd.ws]; omega
   have g:ks[i]? = some ks[i]:=List.getElem?_eq_getElem hj;generalize ks[i]=u at hd g;have ha:=zMf g;have hll:=Nd.ws_len l;have hw:Nd.ws (l++[u])=Nd.ws l+(u.w+1) :=(by rw[Nd.ws_append]; simp[Nd.ws]);have hw2:Nd.ws ((l++[u])++[.mk 1 [] 0 []])=Nd.ws l+(u.w+1)+2 :=(by rw[Nd.ws_append,hw]; rfl);have hx:∃ v,(bif ((i:Int) == own) then some (l.length:Int) else some x:Option Int)=some v:=by
    cases((i:Int) == own) <;> exact⟨_,rfl⟩
   obtain⟨v,hx⟩:=hx;have hx28:∃ b,(bif fl then (req (cols ≠ 0) <| req (cols ≠ 0) <| some (((i:Int).tmod cols) == (own.tmod cols))) else some false:Option Bool)=some b:=by
    cases fl with
    | false=>exact⟨_,rfl⟩
    | true =>
     rw[cond_true,zBf (by omega),zBf (by omega)]
     exact⟨_,rfl⟩
   obtain⟨b,hx28⟩:=hx28;have hl29:∃ l29,(bif b then (req ((l++[u]).length + [Nd.mk 1 [] 0 []].length<=4294967296) <| some ((l++[u])++[Nd.mk 1 [] 0 []])) else some (l++[u]):Option (List Nd))=some l29/\Nd.ws l29<=Nd.ws l+(u.w+1)+2:=by
    cases b with
    | false=>exact⟨_,rfl,by omega⟩
    | true =>
     rw[cond_true,zBf (by simp only[List.length_append,List.length_cons,List.length_nil]; omega)]
     exact⟨_,rfl,by omega⟩
   obtain⟨l29,e29,w29⟩:=hl29;have hl2:=Nd.ws_len l29;obtain⟨l40,e40,w40,_⟩:=zYy fl own cols (i:Int) h0 h1 n 0 l29 (by omega) (by omega)
   obtain⟨y,l',e,w⟩:=zYx n fl own cols ks h0 h1 hn hm k (i+1) v l40 (by omega) (by omega) (by omega)
   rw[show((0:Nat):Int)=0 from rfl]at e40;obtain⟨u1,u2,u3,u4⟩:=u;rw[zAF (Int.ofNat_lt.2 hj),cond_true]
   simp only[hx,ha,obs]
   rw[zBf (by simp only[List.length_cons,List.length_nil]; omega)]
   simp only[hx28,e29,e40,obs]
   rw[zAH (by omega),e]
   exact⟨y,l',rfl,by omega⟩
  ·rw[zAD (by omega)]
   exact⟨x,l,rfl,by omega⟩
theorem zXH {n:Nat}{t:Nd} (k:Tok n t) (c:Cur) (fl:Bool) (hc:c.1.length<=10000/\c.2.length<=10000):Ans (zEV n t c fl):=by
 have hf:=k.fuel;have hw:=k.w;obtain⟨⟨r1,r2,r3⟩,e,h1,h2⟩:=zHq k c
 by_cases he:e=0
 ·obtain⟨g1,g2⟩:=h2 he;have hs:=k.short g1;rcases zJZ k g1 with ⟨⟨y1,y2,y3,⟨y4,y5,y6,y7⟩⟩,h3⟩ | ⟨p,i,s,o,x,u,q1,q2,q3,q4,q5,q6,q7,q8⟩
  ·obtain⟨c1,c2⟩:=c;obtain⟨t1,t2,t3,t4⟩:=t;unfold zEV;simp only[h1,obs,he,show((0:Int) != 0)=false from rfl,cond_false,h3,Bool.not_false,cond_true]
   exact Ans.zero 8
  ·obtain⟨c1,c2⟩:=c;obtain⟨t1,t2,t3,t4⟩:=t;have hkw:=zHj (v:=x)
   have hsx:Nd.ws [x]=x.w+1 :=(by simp[Nd.ws]);obtain⟨x1,x2,x3,x4⟩:=x;simp only[Nd.kids]at *;unfold zEV;simp only[h1,obs,he,show((0:Int) != 0)=false from rfl,cond_false,q3,Bool.not_true]
   by_cases hk:x1=12
   ·subst hk;have hx:1<=x3/\x3<=16:=by
     unfold zFa at q6;simp only[Bool.and_eq_true]at q6;have h7:=q6.1.2;unfold zGL at h7;rw[if_pos rfl]at h7;simp only[Bool.and_eq_true,decide_eq_true_eq]at h7;exact⟨h7.1,h7.2.1⟩
    obtain⟨l0,a0⟩:=zTo (p:=p) (a:=(i:Int)) (b:=(s:Int)) (o:=o)
    rw[← q1]at l0 a0;have w1:IntKind.i64.wrap ((c1.length:Int) - 1)=(p.length:Int)+2 :=(by rw[l0,wrap64_in (by omega) (by omega)]; omega);obtain⟨y,l',e1,w2⟩:=zYx n fl (s:Int) x3 x4 hx.1 hx.2 (by omega) q8 n 0 0 [] (by omega) (Nat.zero_le _) (by rw[List.drop_zero]; show 0+_+_<=_; omega)
    rw[List.drop_zero]at w2;rw[show((0:Nat):Int)=0 from rfl]at e1;have w2':Nd.ws l'<=Nd.ws x4+40 * x4.length:=by
     have:Nd.ws ([]:List Nd)=0:=rfl
     omega
    have hb:∃ v,(bif fl then some (IntKind.i64.wrap (x3+1)) else some x3:Option Int)=some v:=by
     cases fl <;> exact⟨_,rfl⟩
    obtain⟨v,hb⟩:=hb;have hat:=zHp p [(i:Int),y,o] (by omega) (by simp)
    have hsl:Nd.ws [.mk 12 [] v l']=Nd.ws l'+2 :=(by simp[Nd.ws,Nd.w]);obtain⟨⟨v1,⟨v2,v3⟩,⟨v4,v5⟩⟩,ve,d1,d2⟩:=zFs k (c1,c2) [(2,p,(i:Int),0,[Nd.mk 12 x2 x3 x4],0,[],[]),(1,p,(i:Int),0,[Nd.mk 12 [] v l'],0,[],[])] (p++[(i:Int),y,o]) hc (by simp) (fun o ho=>by
     simp only[List.mem_cons,List.not_mem_nil,or_false]at ho;rcases ho with rfl | rfl
     ·simp only[zGj,Op8.nodes,Op8.text,Op8.row,List.length_nil,hsx]
      omega
     ·simp only[zGj,Op8.nodes,Op8.text,Op8.row,List.length_nil,hsl]
      omega) (by simp only[List.length_append,List.length_cons,List.length_nil]; omega)
    simp only[show((12:Int) != 12)=false from rfl,cond_false,hb,e1,w1,a0,hat,d1,obs]
    exact⟨_,_,rfl,d2⟩
   ·simp only[show(x1 != 12)=true from bne_iff_ne.2 hk,cond_true]
    exact Ans.zero 7
 ·obtain⟨c1,c2⟩:=c;obtain⟨t1,t2,t3,t4⟩:=t;unfold zEV;simp only[h1,obs,show(e != 0)=true from bne_iff_ne.2 he,cond_true]
  exact Ans.zero e
theorem zTJ {n:Nat}{t:Nd} (k:Tok n t) (c:Cur) (items:List Nd) (hc:c.1.length<=10000/\c.2.length<=10000) (hi:Nd.ws items<=2000000):Ans (zCM n t c items):=by
 cases hv:zAB (rowN items) with
 | true =>
  have h1:=zIw hv;have h2:=zHj (v:=rowN items)
  have h3:(rowN items).kids=items:=rfl;rw[h3]at h2;exact zUO k c items hc (by omega)
 | false =>
  have hr:=k.rv;have hf:=k.fuel;rw[k.valid]at hr;have hi2:=zFI n items (by omega) (by omega)
  obtain⟨c1,c2⟩:=c;obtain⟨t1,t2,t3,t4⟩:=t;unfold zCM;simp only[hr,hi2,hv,obs,Bool.not_true,cond_false,Bool.not_false,cond_true]
  exact Ans.zero 1
theorem zWu {n:Nat}{t:Nd} (k:Tok n t) (c:Cur) (x:Nd) (sl:Int) (hc:c.1.length<=10000/\c.2.length<=10000) (hx:x.w<=2000000):Ans (zEp n t c x sl):=by
 have hf:=k.fuel;have hws:Nd.ws [x]=x.w+1 :=(by simp[Nd.ws]);obtain⟨fb,hfo,hff⟩:=zHy n 3 [] 0 0 [x] sl [] [] (by omega) (by omega)
 cases fb with
 | true =>
  have hv:zAB (rowN [x])=true:=by
   rcases hff.1 rfl with ⟨h,_⟩ | ⟨_,_,⟨v,s,z,h1,_,h2,_⟩,_⟩ | ⟨h,_⟩
   ·omega
   ·rw[h1]; exact h2
   ·omega
  have h1:=zIw hv;have h2:=zHj (v:=rowN [x])
  have h3:(rowN [x]).kids=[x]:=rfl;rw[h3]at h2;exact zXL k c x sl hc (by omega)
 | false =>
  have hr:=k.rv;rw[k.valid]at hr;obtain⟨c1,c2⟩:=c;obtain⟨t1,t2,t3,t4⟩:=t;obtain⟨x1,x2,x3,x4⟩:=x;unfold zEp;simp only[hr,hfo,obs,Bool.not_true,cond_false,Bool.not_false,cond_true]
  exact Ans.zero 1
theorem zYn {n:Nat}{t:Nd} (k:Tok n t) (c:Cur) (m:Int×List Nd×Int×List UInt8×Bool) (hc:c.1.length<=10000/\c.2.length<=10000) (hi:Nd.ws m.2.1<=2000000) (hx:m.2.2.2.1.length<=10000):Ans (zIe n t c m):=by
 obtain⟨m1,m2,m3,m4,m5⟩:=m;dsimp only at hi hx;have f0:∃ x,zGg m2=some x/\x.w<=2000000:=by
  unfold zGg;dsimp only;cases m2 with
  | nil=>exact⟨_,rfl,by decide⟩
  | cons x l =>
   rw[show((((x::l).length:Int)) == 0)=false from zBM (by simp only[List.length_cons]; omega),cond_false]
   have ha:at? (x::l) 0=some x:=rfl;simp only[ha,obs]
   simp only[Nd.ws]at hi;exact⟨x,by cases x; rfl,by omega⟩
 obtain⟨x,e1,e2⟩:=f0;have g0:=(zTJ k c m2 hc hi).pass;have g1:=(zWk k c m5 hc).pass;have g2:=(zWu k c x m3 hc e2).pass;have g3:=(zVd k c hc).pass;have g4:=(zWt k c hc).pass;have g5:=(zYo k c m4 hc hx).pass;have g6:=(zXH k c m5 hc).pass;obtain⟨c1,c2⟩:=c;obtain⟨t1,t2,t3,t4⟩:=t;obtain⟨x1,x2,x3,x4⟩:=x;unfold zIe;simp only[e1,obs]
 cases(m1 == 0) with
 | true=>exact g0
 | false =>
 cases(m1 == 1) with
 | true=>exact g1
 | false =>
 cases(m1 == 2) with
 | true=>exact g2
 | false =>
 cases(m1 == 3) with
 | true=>exact g3
 | false =>
 cases(m1 == 4) with
 | true=>exact g4
 | false =>
 cases(m1 == 5) with
 | true=>exact g5
 | false =>
 cases(m1 == 6) with
 | true=>exact g6
 | false=>exact Ans.zero 1
abbrev Stp:=Int×Rc×Cur×(Int×List Nd×Int×List UInt8×Bool)×Int
structure SBul (s:Stp):Prop where
 ops:∀ o∈s.2.1.1,zGj o<=1048576
 b1:s.2.1.2.1.1.length<=1048576
 b2:s.2.1.2.1.2.length<=1048576
 a1:s.2.1.2.2.1.length<=1048576
 a2:s.2.1.2.2.2.length<=1048576
 items:Nd.ws s.2.2.2.1.2.1<=1048576
structure SOk (s:Stp):Prop where
 rc:RFew s.2.1
 cur:s.2.2.1.1.length<=10000/\s.2.2.1.2.length<=10000
 items:Nd.ws s.2.2.2.1.2.1<=2000000
 text:s.2.2.2.1.2.2.2.1.length<=10000
theorem zVX {n:Nat}{t:Nd} (k:Tok n t){s:Stp} (h:SOk s):∃ r,zFe n t s=some r/\RFew r:=by
 have g1:=zYn k s.2.2.1 s.2.2.2.1 h.cur h.items h.text;have g2:=h.rc;obtain⟨s1,⟨s2,⟨s3,s4⟩,⟨s5,s6⟩⟩,⟨s7,s8⟩,⟨s9,s10,s11,s12,s13⟩,s14⟩:=s;obtain⟨t1,t2,t3,t4⟩:=t;unfold zFe;dsimp only at g1 g2 ⊢;cases(s1 == 1) with
 | true =>
  obtain⟨⟨a,⟨b1,b2⟩,⟨d1,d2⟩⟩,e,q1,q2⟩:=g1;simp only[cond_true,q1,obs]
  exact⟨_,rfl,q2⟩
 | false=>exact⟨_,rfl,g2⟩
theorem zSP (n:Nat) (o:Op8) (hn:200<n):∃ b,zIa n o=some b:=by
 obtain⟨k,row,a,m,nodes,slot,old,text⟩:=o;obtain⟨b,e,_⟩:=zUM n (.mk 1 [] 0 nodes) 100 (by omega) (by omega)
 rw[show((100:Nat):Int)=100 from rfl]at e;unfold zIa zA3;simp only[e,obs]
 cases b with
 | true=>exact⟨_,rfl⟩
 | false=>exact⟨_,rfl⟩
theorem zSQ (n:Nat) (c:Int×List Nd×Int×List UInt8×Bool) (hn:200<n):∃ b,zId n c=some b/\(b=true->c.2.2.2.1.length<=300):=by
 obtain⟨k,nodes,slot,text,fl⟩:=c;obtain⟨b,e,_⟩:=zUM n (.mk 1 [] 0 nodes) 100 (by omega) (by omega)
 rw[show((100:Nat):Int)=100 from rfl]at e;unfold zId zA3;simp only[e,obs]
 cases b with
 | true=>exact⟨_,rfl,fun h=>by have:=of_decide_eq_true h; omega⟩
 | false=>exact⟨_,rfl,fun h=>by cases h⟩
theorem few2 (n:Nat) (l:List Op8) (hn:200<n) (hl:l.length<=1000):∀ (k i:Nat),l.length - i<k->∃ fl,zDo n l k (i:Int)=some fl/\(∀ b,fl = .ret b->b=false)
 | 0,i,h=>by omega
 | k+1,i,h=>by
  unfold zDo
  by_cases hj:i<l.length
  ·rw[zAF (Int.ofNat_lt.2 hj),cond_true,zAJ hj]
   obtain⟨b,e⟩:=zSP n l[i] hn;obtain⟨fl,e2,e3⟩:=few2 n l hn hl k (i+1) (by omega)
   generalize l[i]=o at e;obtain⟨o1,o2,o3,o4,o5,o6,o7,o8⟩:=o;simp only[obs,e]
   cases b with
   | false=>exact⟨_,rfl,fun b h=>by cases h; rfl⟩
   | true =>
    simp only[Bool.not_true,cond_false]
    rw[zAH (by omega),e2]
    exact⟨fl,rfl,e3⟩
  ·rw[zAD (by omega)]
   exact⟨_,rfl,fun b h=>by cases h⟩
theorem few1 (n:Nat) (l:List Stp) (hn:2000<n) (hl:l.length<=2000000) (hb:∀ s∈l,SBul s):∀ (k i:Nat),l.length - i<k->zCK n l k (i:Int)=some (.ret false)∨(zCK n l k (i:Int)=some (.go ())/\∀ s∈l.drop i,SOk s)
 | 0,i,h=>by omega
 | k+1,i,h=>by
  unfold zCK
  by_cases hj:i<l.length
  ·have ih:=few1 n l hn hl hb k (i+1) (by omega)
   have hs:=hb _ (List.getElem_mem hj)
   have ha:=zAJ hj;rw[List.drop_eq_getElem_cons hj]
   generalize l[i]=s at hs ha;obtain⟨b,f1,f2⟩:=zSQ n s.2.2.2.1 (by omega)
   have f3:=fun(h6:s.2.1.1.length<=6)=>few2 n s.2.1.1 (by omega) (by omega) n 0 (by omega)
   obtain⟨q1,q2,q3,q4,q5,q6⟩:=hs;obtain⟨s1,⟨s2,⟨s3,s4⟩,⟨s5,s6⟩⟩,⟨s7,s8⟩,⟨s9,s10,s11,s12,s13⟩,s14⟩:=s;dsimp only at f1 f2 f3 q1 q2 q3 q4 q5 q6;rw[zAF (Int.ofNat_lt.2 hj),cond_true,zAH (by omega)]
   simp only[ha,obs,f1]
   by_cases c1:(6:Int)<(s2.length:Int)
   ·rw[zAF c1]
    exact .inl rfl
   ·rw[zAD c1]
    cases b with
    | false=>exact .inl rfl
    | true =>
     by_cases c2:(60:Int)<(s7.length:Int)
     ·rw[zAF c2]
      exact .inl rfl
     ·rw[zAD c2]
      by_cases c3:(60:Int)<(s8.length:Int)
      ·rw[zAF c3]
       exact .inl rfl
      ·rw[zAD c3]
       obtain⟨fl,g1,g2⟩:=f3 (by omega)
       rw[show((0:Nat):Int)=0 from rfl]at g1;have f4:=f2 rfl;simp only[cond_false,Bool.not_true,obs,g1]
       cases fl with
       | ret b=>rw[g2 b rfl]; exact .inl rfl
       | go u =>
        rcases ih with ih | ⟨ih,ih2⟩
        ·exact .inl ih
        ·refine .inr ⟨ih,fun s hs=>?_⟩
         rcases List.mem_cons.1 hs with rfl | hs
         ·exact⟨⟨by dsimp only; omega,q1,by dsimp only; omega,by dsimp only; omega,by dsimp only; omega,by dsimp only; omega⟩,by dsimp only; omega,by dsimp only; omega,by dsimp only; omega⟩
         ·exact ih2 s hs
  ·rw[zAD (by omega)]
   refine .inr ⟨rfl,fun s hs=>?_⟩
   rw[List.drop_eq_nil_of_le (by omega)]at hs;cases hs
theorem zWG (n:Nat) (t:Nd) (l:List Stp) (hn:3000000<n) (hl:l.length<=2000000) (hb:∀ s∈l,SBul s):∃ b,zH9 n t l=some b/\(b=true->l.length<=25/\∀ s∈l,SOk s):=by
 have h1:=few1 n l (by omega) hl hb n 0 (by omega)
 obtain⟨b,e,_⟩:=zUM n t 100 (by omega) (by omega)
 rw[show((100:Nat):Int)=100 from rfl]at e;rw[show((0:Nat):Int)=0 from rfl,List.drop_zero]at h1;obtain⟨t1,t2,t3,t4⟩:=t;unfold zH9;rcases h1 with h1 | ⟨h1,h2⟩
 ·simp only[h1,obs]
  exact⟨false,rfl,fun h=>by cases h⟩
 ·simp only[h1,obs,e]
  cases b with
  | false=>exact⟨false,rfl,fun h=>by cases h⟩
  | true=>exact⟨_,rfl,fun h=>⟨by have:=of_decide_eq_true h; omega,h2⟩⟩
theorem zU7 (n:Nat){h:Hs}{ts:List Nd}{j:Nat} (a:HAt h ts j) (hj:j=h.2.2.1.length):zAM n h=some (([],[]),8,h):=by
 have hd:=a.done;obtain⟨⟨a1,a2,a3,a4⟩,⟨b1,b2,b3,b4⟩,rs,d⟩:=h;dsimp only at hd hj;subst hd;subst hj;unfold zAM;simp only[beq_self_eq_true,cond_true]
theorem zU6 (n:Nat){h:Hs}{ts:List Nd}{j:Nat} (a:HAt h ts j) (hn:200000000<n){r:Rc}{u:Nd} (hr:h.2.2.1[j]? = some r) (hu:ts[j+1]? = some u):zAM n h=some (r.2.2,0,hAt h u (j+1)):=by
 have hd:=a.done;have hlim:=a.inv.lim;have hlt:=(List.getElem?_eq_some_iff.1 hr).1;have sm:=a.inv.small r (List.mem_of_getElem? hr)
 obtain⟨t',u',k1,k2,k3⟩:=a.inv.step j r hr;obtain rfl:h.2.1=t':=Option.some.inj (a.tree.symm.trans k1)
 obtain rfl:u=u':=Option.some.inj (hu.symm.trans k2)
 obtain⟨v,i,e,e1,e2,e3⟩:=sm.ops.apply n hn a.vtree;obtain⟨rfl,rfl⟩:=e2.det k3;have hc:=sm.after;have hr':at? h.2.2.1 (j:Int)=some r:=by
  obtain⟨h1,rfl⟩:=List.getElem?_eq_some_iff.1 hr;exact zAJ h1
 unfold hAt;obtain⟨⟨a1,a2,a3,a4⟩,⟨b1,b2,b3,b4⟩,rs,d⟩:=h;obtain⟨ops,⟨c1,c2⟩,⟨c3,c4⟩⟩:=r;obtain⟨v1,v2,v3,v4⟩:=v;dsimp only at hd hr' e1 hc hlim hlt ⊢;subst hd;unfold zAM;dsimp only;rw[zBM (by omega),cond_false,hr']
 simp only[obs,e1,show((0:Int) != 0)=false from rfl,cond_false,hc]
 rw[zAH (by omega)]
def zWD (h:Hs):Int×List UInt8×Int×List Nd×Int×List UInt8×Int×List Nd×Int×List Rc:=(h.1.kind,h.1.text,h.1.cols,h.1.kids,h.2.1.kind,h.2.1.text,h.2.1.cols,h.2.1.kids,h.2.2.2,h.2.2.1)
def zXg (n:Nat) (d:Int) (k:Nat) (h:Hs):=zAO n d k h.1.kind h.1.text h.1.cols h.1.kids h.2.1.kind h.2.1.text h.2.1.cols h.2.1.kids h.2.2.2 h.2.2.1
def zXh (n:Nat) (d:Int) (k:Nat) (h:Hs):=zAP n d k h.1.kind h.1.text h.1.cols h.1.kids h.2.1.kind h.2.1.text h.2.1.cols h.2.1.kids h.2.2.2 h.2.2.1
theorem zTG (n:Nat) (hn:200000000<n) (d:Nat){ts:List Nd}:∀ (k j:Nat) (h:Hs),HAt h ts j->j<k+d->0<k->∃ t m,m<=j/\(d<=j->m=d)/\(j<=d->m=j)/\ts[m]? = some t/\zXg n (d:Int) k h=some (.go (zWD (hAt h t m)))
 | 0,j,h,a,h1,h2=>by omega
 | k+1,j,h,a,h1,_=>by
  unfold zXg zAO;have hd:=a.done
  by_cases hj:d<j
  ·have hle:=a.le;have hlen:=a.inv.len;obtain⟨j,rfl⟩:∃ i,j=i+1:=⟨j - 1,by omega⟩
   have hr:h.2.2.1[j]? = some h.2.2.1[j]:=List.getElem?_eq_getElem (by omega)
   obtain⟨t,ht⟩:=a.at (k:=j) (by omega)
   have hu:=zVb n a hn hr ht;obtain⟨t',m,g1,g2,g3,g4,g5⟩:=zTG n hn d k j (hAt h t j) (a.move ht) (by omega) (by omega)
   refine⟨t',m,by omega,fun _=>g2 (by omega),fun h=>by omega,g4,?_⟩
   unfold zXg hAt at g5;unfold hAt at hu ⊢;generalize h.2.2.1[j]=r at hu;obtain⟨r1,⟨r2,r3⟩,⟨r4,r5⟩⟩:=r;obtain⟨⟨a1,a2,a3,a4⟩,⟨b1,b2,b3,b4⟩,rs,q⟩:=h;obtain⟨t1,t2,t3,t4⟩:=t;dsimp only[Nd.kind,Nd.text,Nd.cols,Nd.kids]at hd g5 hu ⊢;subst hd;rw[zAF (by omega),cond_true,hu]
   simp only[obs,show((0:Int) != 0)=false from rfl,cond_false]
   exact g5
  ·refine⟨h.2.1,j,Nat.le_refl _,fun h=>by omega,fun _=>rfl,a.tree,?_⟩
   unfold hAt;obtain⟨⟨a1,a2,a3,a4⟩,⟨b1,b2,b3,b4⟩,rs,q⟩:=h;dsimp only[Nd.kind,Nd.text,Nd.cols,Nd.kids]at hd ⊢;subst hd;rw[zAD (by omega),cond_false]
   rfl
theorem zTH (n:Nat) (hn:200000000<n) (d:Nat){ts:List Nd}:∀ (k j:Nat) (h:Hs),HAt h ts j->d<k+j->0<k->j<=d->d<=h.2.2.1.length->∃ t,ts[d]? = some t/\zXh n (d:Int) k h=some (.go (zWD (hAt h t d)))
 | 0,j,h,a,h1,h2,_,_=>by omega
 | k+1,j,h,a,h1,_,hjd,hdl=>by
  unfold zXh zAP;have hd:=a.done
  by_cases hj:j<d
  ·have hr:h.2.2.1[j]? = some h.2.2.1[j]:=List.getElem?_eq_getElem (by omega)
   obtain⟨t,ht⟩:=a.at (k:=j+1) (by omega)
   have hu:=zU6 n a hn hr ht;obtain⟨t',g4,g5⟩:=zTH n hn d k (j+1) (hAt h t (j+1)) (a.move ht) (by omega) (by omega) (by omega) hdl;refine⟨t',g4,?_⟩
   unfold zXh hAt at g5;unfold hAt at hu ⊢;generalize h.2.2.1[j]=r at hu;obtain⟨r1,⟨r2,r3⟩,⟨r4,r5⟩⟩:=r;obtain⟨⟨a1,a2,a3,a4⟩,⟨b1,b2,b3,b4⟩,rs,q⟩:=h;obtain⟨t1,t2,t3,t4⟩:=t;dsimp only[Nd.kind,Nd.text,Nd.cols,Nd.kids]at hd g5 hu ⊢;subst hd;rw[zAF (by omega),cond_true,hu]
   simp only[obs,show((0:Int) != 0)=false from rfl,cond_false]
   exact g5
  ·obtain rfl:j=d :=(by omega);refine⟨h.2.1,a.tree,?_⟩
   unfold hAt;obtain⟨⟨a1,a2,a3,a4⟩,⟨b1,b2,b3,b4⟩,rs,q⟩:=h;dsimp only[Nd.kind,Nd.text,Nd.cols,Nd.kids]at hd ⊢;subst hd;rw[zAD (by omega),cond_false]
   rfl
theorem zWs (n:Nat){h:Hs}{ts:List Nd}{j:Nat} (a:HAt h ts j){d:Int} (hd:d<0∨(h.2.2.1.length:Int)<d):zAS n h d=some (2,h):=by
 obtain⟨⟨a1,a2,a3,a4⟩,⟨b1,b2,b3,b4⟩,rs,q⟩:=h;dsimp only at hd;unfold zAS;dsimp only;rcases hd with hd | hd
 ·rw[zAF hd]; rfl
 ·by_cases h1:d<0
  ·rw[zAF h1]; rfl
  ·rw[zAD h1,cond_false,zAF hd]; rfl
theorem zXJ (n:Nat) (hn:200000000<n){h:Hs}{ts:List Nd}{j:Nat} (a:HAt h ts j){d:Nat} (hd:d<=h.2.2.1.length):∃ t,ts[d]? = some t/\zAS n h (d:Int)=some (0,hAt h t d):=by
 have hlim:=a.inv.lim;have hle:=a.le;obtain⟨t1,m,g1,g2,g3,g4,g5⟩:=zTG n hn d n j h a (by omega) (by omega)
 obtain⟨t2,f1,f2⟩:=zTH n hn d n m (hAt h t1 m) (a.move g4) (by omega) (by omega) (by
  rcases Nat.le_total d j with h | h
  ·have:=g2 h; omega
  ·have:=g3 h; omega) hd
 refine⟨t2,f1,?_⟩
 unfold zXg zWD hAt at g5;unfold zXh zWD hAt at f2;unfold hAt;obtain⟨⟨a1,a2,a3,a4⟩,⟨b1,b2,b3,b4⟩,rs,q⟩:=h;dsimp only[Nd.kind,Nd.text,Nd.cols,Nd.kids]at g5 f2 hd ⊢;unfold zAS;dsimp only;rw[zAD (by omega),cond_false,zAD (by omega)]
 simp only[obs,cond_false,g5,f2]
 obtain⟨v1,v2,v3,v4⟩:=t2
 rfl
theorem HAt.tok {h:Hs}{ts:List Nd}{j:Nat} (a:HAt h ts j){n:Nat} (hn:200000000<n):Tok n h.2.1:=⟨hn,a.vtree⟩
theorem zQA (n:Nat) (a:List Int) (ha:a.length<=16777216) (hn:200000000<n):zFP n a a=some true:=by
 obtain⟨c,h1,h2⟩:=cmp_eq n a a (by omega) (by omega)
 unfold zFP;dsimp only;rw[h1,h2.2 rfl]
 rfl
theorem zEv (n:Nat) (c:Cur) (h1:c.1.length<=16777216) (h2:c.2.length<=16777216) (hn:200000000<n):zBV n c c=some true:=by
 have g1:=zQA n c.1 h1 hn;have g2:=zQA n c.2 h2 hn;obtain⟨p,q⟩:=c;unfold zBV;simp only[g1,g2,obs,cond_true]
theorem zQz (n:Nat){t:Nd} (hv:zAB t=true) (hn:200000000<n):zBv n t t=some true:=by
 have h1:=zIw hv;have h2:=Nd.cnt_w t;obtain⟨r,g1,g2⟩:=(zJG n).1 t t (by omega) (by omega)
 rw[g1,g2.2 rfl]
theorem zJ2 (n:Nat){l:List Rc} (ho:∀ r∈l,zCS n r=some r) (hl:l.length<=1073741824):∀ (k i:Nat),l.length - i<k->i<=l.length->zBg n l k (i:Int) (l.take i)=some l
 | 0,i,h,_=>by omega
 | k+1,i,h,hi=>by
  unfold zBg
  by_cases hj:i<l.length
  ·have hd:=ho _ (List.getElem_mem hj)
   have ht:l.take i++[l[i]]=l.take (i+1) :=(by rw[List.take_append_getElem hj]);rw[zAF (Int.ofNat_lt.2 hj),cond_true,zAJ hj]
   have ih:=zJ2 n ho hl k (i+1) (by omega) (by omega)
   rw[← ht]at ih;generalize l[i]=v at *;obtain⟨v1,⟨v2,v3⟩,⟨v4,v5⟩⟩:=v;simp only[obs,hd]
   rw[zBf (by simp only[List.length_take,List.length_cons,List.length_nil]; omega),zAH (show i<9223372036854775807 by omega),ih]
  ·rw[zAD (by omega),cond_false,List.take_of_length_le (by omega)]
theorem zT4 (n:Nat) (hn:200000000<n){h:Hs}{ts:List Nd}{j:Nat} (a:HAt h ts j):zA7 n h=some (h.2.2.1,h):=by
 have hlim:=a.inv.lim;have g:=zJ2 n (l:=h.2.2.1) (fun r hr=>(a.inv.small r hr).copy n hn) (by omega) n 0 (by omega) (Nat.zero_le _)
 rw[show((0:Nat):Int)=0 from rfl,List.take_zero]at g;obtain⟨⟨x1,x2,x3,x4⟩,⟨y1,y2,y3,y4⟩,z,w⟩:=h;dsimp only at g;unfold zA7 zDg;simp only[g,obs]
theorem zXG {h:Hs}:zCh h=some (h.2.2.2,h):=by
 obtain⟨⟨x1,x2,x3,x4⟩,⟨y1,y2,y3,y4⟩,z,w⟩:=h
 rfl
theorem zUR {h:Hs} (hv:zAB h.1=true):zBq h=some (h.1,h):=by
 have hd:=zOH hv;obtain⟨⟨a1,a2,a3,a4⟩,⟨b1,b2,b3,b4⟩,rs,d⟩:=h;dsimp only at hd;unfold zBq;simp only[hd,obs]
def rf (h:Hs):Nd×List Rc×Int:=(h.1,h.2.2.1,h.2.2.2)
def HFew (h:Hs):Prop:=∀ r∈h.2.2.1,RFew r
theorem zM6 (n:Nat) (hn:200000000<n){h:Hs}{ts:List Nd}{j:Nat} (a:HAt h ts j) (hf:HFew h):∀ (k i:Nat) (t:Nd),j - i<k->i<=j->ts[i]? = some t->zCZ n h.2.2.1 h.2.2.2 k t.kind t.text t.cols t.kids (i:Int)=some (h.2.1.kind,h.2.1.text,h.2.1.cols,h.2.1.kids)
 | 0,i,t,h,_,_=>by omega
 | k+1,i,t,h1,hi,ht=>by
  unfold zCZ;have hdn:=a.done;have hle:=a.le;have hlim:=a.inv.lim;rw[hdn]
  by_cases e:i=j
  ·subst e;obtain rfl:h.2.1=t:=Option.some.inj (a.tree.symm.trans ht)
   rw[zAD (by omega)]
   rfl
  ·have hr:h.2.2.1[i]? = some (h.2.2.1[i]'(by omega)):=List.getElem?_eq_getElem (by omega)
   have ha:at? h.2.2.1 (i:Int)=some (h.2.2.1[i]'(by omega)):=zAJ (by omega)
   have fw:=hf _ (List.mem_of_getElem? hr)
   obtain⟨t',u,k1,k2,k3⟩:=a.inv.step i _ hr;obtain rfl:t=t':=Option.some.inj (ht.symm.trans k1)
   obtain⟨u',i',e',g1,g2⟩:=fw.ref n hn (a.inv.valid t (List.mem_of_getElem? k1))
   obtain⟨rfl,rfl⟩:=g2.det k3;have ih:=zM6 n hn a hf k (i+1) u' (by omega) (by omega) k2;rw[hdn]at ih;generalize h.2.2.1[i]'(by omega)=r at ha g1;obtain⟨r1,⟨r2,r3⟩,⟨r4,r5⟩⟩:=r;obtain⟨t1,t2,t3,t4⟩:=t;obtain⟨u1,u2,u3,u4⟩:=u';dsimp only[Nd.kind,Nd.text,Nd.cols,Nd.kids]at g1 ih ⊢;rw[zAF (by omega),cond_true,zAF (by omega)]
   simp only[obs,cond_true,ha,g1]
   rw[zAH (by omega)]
   exact ih
theorem zMa (n:Nat) (hn:200000000<n){h:Hs}{ts:List Nd}{j:Nat} (a:HAt h ts j) (hf:HFew h):zEW n (rf h)=some h.2.1:=by
 have hlim:=a.inv.lim;have hle:=a.le;have g:=zM6 n hn a hf n 0 h.1 (by omega) (Nat.zero_le _) a.inv.orig;rw[show((0:Nat):Int)=0 from rfl]at g;obtain⟨⟨x1,x2,x3,x4⟩,⟨y1,y2,y3,y4⟩,z,w⟩:=h;dsimp only[Nd.kind,Nd.text,Nd.cols,Nd.kids]at g;unfold rf zEW;simp only[g,obs]
theorem zXF (n:Nat){h:Hs}{ts:List Nd}{j:Nat} (a:HAt h ts j) (hf:HFew h) (hn:200000000<n) (hj:j<1000){r:Rc} (hr:RFew r):∃ e h' ts' j',HAt h' ts' j'/\HFew h'/\h'.1=h.1/\h'.2.2.1.length<=h.2.2.1.length+1/\zAU n h r=some (e,h')/\zIC n (rf h) r=some (rf h',e):=by
 obtain⟨u,e,d0,h1⟩:=zYN n a hr.small hn hj;have hle:=a.le;have hlim:=a.inv.lim;have hdn:=a.done;have tr:=zMa n hn a hf;obtain⟨u',i',e',g1,g2⟩:=hr.ref n hn a.vtree;obtain⟨rfl,rfl⟩:=g2.det d0;rcases h1 with ⟨he,h1⟩ | ⟨he,h1,h2⟩
 ·refine⟨e',h,ts,j,a,hf,rfl,Nat.le_succ _,h1,?_⟩
  obtain⟨⟨x1,x2,x3,x4⟩,⟨y1,y2,y3,y4⟩,z,w⟩:=h;obtain⟨r1,⟨r2,r3⟩,⟨r4,r5⟩⟩:=r;obtain⟨u1,u2,u3,u4⟩:=u';unfold rf at tr ⊢;dsimp only at tr g1 ⊢;unfold zIC;simp only[tr,obs,g1,show(e' != 0)=true from bne_iff_ne.2 he,cond_true]
 ·refine⟨0,_,_,_,h2,?_,rfl,?_,h1,?_⟩
  ·intro q hq;rcases List.mem_append.1 hq with hq | hq
   ·exact hf q (List.mem_of_mem_take hq)
   ·rw[List.mem_singleton.1 hq]; exact hr
  ·simp only[List.length_append,List.length_take,List.length_cons,List.length_nil]
   omega
  ·obtain⟨⟨x1,x2,x3,x4⟩,⟨y1,y2,y3,y4⟩,z,w⟩:=h;obtain⟨r1,⟨r2,r3⟩,⟨r4,r5⟩⟩:=r;obtain⟨u1,u2,u3,u4⟩:=u';unfold rf at tr ⊢;dsimp only at tr g1 hdn hle hlim ⊢;subst hdn;subst he;unfold zIC;simp only[tr,obs,g1,show((0:Int) != 0)=false from rfl,cond_false]
   rw[zAD (by omega),cond_false,zBf ⟨by omega,by omega,by omega⟩,Int.toNat_natCast,show(0:Int).toNat=0 from rfl,List.drop_zero,zBf (by simp only[List.length_nil,List.length_take]; omega),zBf (by simp only[List.length_take,List.length_cons,List.length_nil]; omega),zAH (by omega)]
theorem zVa (n:Nat){h:Hs}{ts:List Nd}{j:Nat} (a:HAt h ts j) (hn:200000000<n):∃ c e h' j',HAt h' ts j'/\h'.1=h.1/\h'.2.2.1=h.2.2.1/\zAN n h=some (c,e,h')/\zHc (rf h)=some (rf h',c,e)/\c.1.length<=16777216/\c.2.length<=16777216:=by
 have hdn:=a.done;have hlim:=a.inv.lim;cases j with
 | zero =>
  refine⟨_,_,h,0,a,rfl,rfl,zVc n a,?_,Nat.zero_le _,Nat.zero_le _⟩
  obtain⟨⟨x1,x2,x3,x4⟩,⟨y1,y2,y3,y4⟩,z,w⟩:=h;dsimp only at hdn;subst hdn
  rfl
 | succ j =>
  have hle:=a.le;have hr:h.2.2.1[j]? = some h.2.2.1[j]:=List.getElem?_eq_getElem (by omega)
  have ha:at? h.2.2.1 (j:Int)=some h.2.2.1[j]:=zAJ (by omega)
  obtain⟨t,ht⟩:=a.at (k:=j) (by omega)
  have sm:=a.inv.small _ (List.mem_of_getElem? hr)
  refine⟨_,_,hAt h t j,j,a.move ht,rfl,rfl,zVb n a hn hr ht,?_,sm.b1,sm.b2⟩
  clear sm
  generalize h.2.2.1[j]=r at ha;obtain⟨r1,⟨r2,r3⟩,⟨r4,r5⟩⟩:=r;obtain⟨⟨x1,x2,x3,x4⟩,⟨y1,y2,y3,y4⟩,z,w⟩:=h;dsimp only at hdn ha;subst hdn;have hw:IntKind.i64.wrap (((j+1:Nat):Int) - 1)=(j:Int):=by
   have:j+1<=z.length:=hle;have:z.length<=1000:=hlim;rw[wrap64_in (by omega) (by omega)]; omega
  unfold rf hAt zHc;dsimp only;rw[zBM (by omega),cond_false,hw,ha]
  rfl
theorem zU5 (n:Nat){h:Hs}{ts:List Nd}{j:Nat} (a:HAt h ts j) (hn:200000000<n):∃ c e h' j',HAt h' ts j'/\h'.1=h.1/\h'.2.2.1=h.2.2.1/\zAM n h=some (c,e,h')/\zFS (rf h)=some (rf h',c,e)/\c.1.length<=16777216/\c.2.length<=16777216:=by
 have hdn:=a.done;have hlim:=a.inv.lim;have hle:=a.le
 by_cases hj:j=h.2.2.1.length
 ·refine⟨_,_,h,j,a,rfl,rfl,zU7 n a hj,?_,Nat.zero_le _,Nat.zero_le _⟩
  obtain⟨⟨x1,x2,x3,x4⟩,⟨y1,y2,y3,y4⟩,z,w⟩:=h;dsimp only at hdn hj;subst hdn;unfold rf zFS;dsimp only;rw[zAF (by omega),cond_true]
 ·have hr:h.2.2.1[j]? = some (h.2.2.1[j]'(by omega)):=List.getElem?_eq_getElem (by omega)
  have ha:at? h.2.2.1 (j:Int)=some (h.2.2.1[j]'(by omega)):=zAJ (by omega)
  obtain⟨t,ht⟩:=a.at (k:=j+1) (by omega)
  have sm:=a.inv.small _ (List.mem_of_getElem? hr)
  refine⟨_,_,hAt h t (j+1),j+1,a.move ht,rfl,rfl,zU6 n a hn hr ht,?_,sm.a1,sm.a2⟩
  clear sm
  generalize h.2.2.1[j]'(by omega)=r at ha;obtain⟨r1,⟨r2,r3⟩,⟨r4,r5⟩⟩:=r;obtain⟨⟨x1,x2,x3,x4⟩,⟨y1,y2,y3,y4⟩,z,w⟩:=h;dsimp only at hdn ha hlim hle hj;subst hdn;have hw:IntKind.i64.wrap (IntKind.i64.wrap ((j:Int)+1) - 1)=(j:Int):=by
   rw[zAH (by omega),wrap64_in (by omega) (by omega)]; omega
  unfold rf hAt zFS;dsimp only;rw[zAD (by omega),cond_false,hw,ha,zAH (by omega)]
  rfl
theorem zU9 (n:Nat){h:Hs}{ts:List Nd}{j:Nat} (a:HAt h ts j) (hn:200000000<n) (d:Int):∃ e h' j',HAt h' ts j'/\h'.1=h.1/\h'.2.2.1=h.2.2.1/\zAS n h d=some (e,h')/\zFT (rf h) d=some (rf h',e):=by
 by_cases hd:d<0∨(h.2.2.1.length:Int)<d
 ·refine⟨_,h,j,a,rfl,rfl,zWs n a hd,?_⟩
  obtain⟨⟨x1,x2,x3,x4⟩,⟨y1,y2,y3,y4⟩,z,w⟩:=h;dsimp only at hd;unfold rf zFT;dsimp only;rcases hd with hd | hd
  ·rw[zAF hd]; rfl
  ·by_cases h1:d<0
   ·rw[zAF h1]; rfl
   ·rw[zAD h1,cond_false,zAF hd]; rfl
 ·obtain⟨d,rfl⟩:∃ k:Nat,d=(k:Int):=⟨d.toNat,by omega⟩
  obtain⟨t,h1,h2⟩:=zXJ n hn a (d:=d) (by omega)
  refine⟨_,hAt h t d,d,a.move h1,rfl,rfl,h2,?_⟩
  obtain⟨⟨x1,x2,x3,x4⟩,⟨y1,y2,y3,y4⟩,z,w⟩:=h;dsimp only at hd;unfold rf hAt zFT;dsimp only;rw[zAD (by omega),cond_false,zAD (by omega)]
  rfl
theorem zU8 (n:Nat) (hn:200000000<n){r:Rc} (h:RFew r):zG9 n r r=some true:=by
 have hl:=h.len;have h1:=zLs n (ops:=r.1) (fun o ho=>by
  have:=h.bulk o ho;have:=Nd.cnts_ws o.nodes;unfold zGj at *;exact zV9 n o (by omega) (by omega) (by omega) (by omega)) (by omega) n 0 (by omega) (Nat.zero_le _)
 rw[show((0:Nat):Int)=0 from rfl]at h1;have c1:=zEv n r.2.1 h.b1 h.b2 hn;have c2:=zEv n r.2.2 h.a1 h.a2 hn;obtain⟨r1,⟨r2,r3⟩,⟨r4,r5⟩⟩:=r;dsimp only at h1 c1 c2;unfold zG9 zFD;simp only[bne_self_eq_false,cond_false,h1,c1,c2,obs,cond_true]
theorem zM1 (n:Nat) (hn:200000000<n){rs:List Rc} (hf:∀ r∈rs,RFew r) (hl:rs.length<=1000) (x1:Int) (x2:List UInt8) (x3:Int) (x4:List Nd) (x5:Int) (x6:List UInt8) (x7:Int) (x8:List Nd) (x9:Int) (l:List Rc):∀ (k i:Nat),rs.length - i<k->zCT n rs rs x1 x2 x3 x4 x5 x6 x7 x8 x9 l k (i:Int)=some (.go ())
 | 0,i,h=>by omega
 | k+1,i,h=>by
  unfold zCT
  by_cases hj:i<rs.length
  ·have h1:=zU8 n hn (hf _ (List.getElem_mem hj))
   have ha:=zAJ hj;have ih:=zM1 n hn hf hl x1 x2 x3 x4 x5 x6 x7 x8 x9 l k (i+1) (by omega)
   generalize rs[i]=r at h1 ha;obtain⟨r1,⟨r2,r3⟩,⟨r4,r5⟩⟩:=r;rw[zAF (Int.ofNat_lt.2 hj),cond_true]
   simp only[ha,obs,h1,Bool.not_true,cond_false]
   rw[zAH (by omega)]
   exact ih
  ·rw[zAD (by omega)]
   rfl
theorem zRC (n:Nat) (hn:200000000<n){h:Hs}{ts:List Nd}{j:Nat} (a:HAt h ts j) (hf:HFew h):zFN n h (rf h)=some (true,h):=by
 have hlim:=a.inv.lim;have rr:=zT4 n hn a;have tr:=zXK a.vtree;have t15:=zMa n hn a hf;have q:=zQz n a.vtree hn;have vo:=a.inv.valid _ (List.mem_of_getElem? a.inv.orig)
 have og:=zUR vo;have qo:=zQz n vo hn;have lp:=zM1 n hn hf hlim h.1.kind h.1.text h.1.cols h.1.kids h.2.1.kind h.2.1.text h.2.1.cols h.2.1.kids h.2.2.2 h.2.2.1 n 0 (by omega)
 rw[show((0:Nat):Int)=0 from rfl]at lp
 clear a hf
 unfold rf at t15 ⊢;obtain⟨⟨x1,x2,x3,x4⟩,⟨y1,y2,y3,y4⟩,z,w⟩:=h;dsimp only[Nd.kind,Nd.text,Nd.cols,Nd.kids]at lp rr tr t15 q og qo ⊢;unfold zFN;simp only[rr,obs,bne_self_eq_false,cond_false,zXG,tr,t15,q,Bool.not_true,og,qo,lp]
theorem zYd (n:Nat) (hn:200000000<n){h:Hs}{ts:List Nd}{j:Nat} (a:HAt h ts j) (hf:HFew h) (hj:j<1000){s:Stp} (so:SOk s) :
  ∃ h' ts' j',HAt h' ts' j'/\HFew h'/\h'.2.2.1.length<=h.2.2.1.length+1/\zG3 n h (rf h) s=some (rf h',true,h'):=by
 obtain⟨r,r1,r2⟩:=zVX (a.tok hn) so;obtain⟨de,dh,dts,dj,d1,d1',d2,d3,d4,d5⟩:=zXF n a hf hn hj r2;obtain⟨uc,ue,uh,uj,u1,u2,u3,u4,u5,u6,u7⟩:=zVa n a hn;obtain⟨rc,re,rh,rj,q1,q2,q3,q4,q5,q6,q7⟩:=zU5 n a hn;obtain⟨se,sh,sj,p1,p2,p3,p4,p5⟩:=zU9 n a hn s.2.2.2.2;have t15:=zMa n hn a hf;have c0:=zEv n ([],[]) (Nat.zero_le _) (Nat.zero_le _) hn;have c1:=zEv n uc u6 u7 hn;have c2:=zEv n rc q6 q7 hn;have g1:HFew uh:=fun r hr=>hf r (by rw[← u3]; exact hr)
 have g2:HFew rh:=fun r hr=>hf r (by rw[← q3]; exact hr)
 have g3:HFew sh:=fun r hr=>hf r (by rw[← p3]; exact hr)
 have l1:uh.2.2.1.length<=h.2.2.1.length+1 :=(by rw[u3]; omega);have l2:rh.2.2.1.length<=h.2.2.1.length+1 :=(by rw[q3]; omega);have l3:sh.2.2.1.length<=h.2.2.1.length+1:=by rw[p3]; omega
 clear u2 u3 q2 q3 p2 p3 d2 so
 unfold rf at *;obtain⟨⟨a1,a2,a3,a4⟩,⟨b1,b2,b3,b4⟩,rs,q⟩:=h;obtain⟨s1,⟨s2,⟨s3,s4⟩,⟨s5,s6⟩⟩,⟨s7,s8⟩,⟨s9,s10,s11,s12,s13⟩,s14⟩:=s;dsimp only at d4 d5 u4 u5 q4 q5 p4 p5 t15 r1 ⊢;unfold zG3;have cb:∃ b,(bif (s1 == 0) then some (s1 == 0) else some (s1 == 1):Option Bool)=some b:=by
  cases(s1 == 0) <;> exact⟨_,rfl⟩
 obtain⟨b,cb⟩:=cb;simp only[cb,obs]
 cases b with
 | true =>
  refine⟨dh,dts,dj,d1,d1',d3,?_⟩
  obtain⟨r3,⟨r4,r5⟩,⟨r6,r7⟩⟩:=r;obtain⟨⟨x1,x2,x3,x4⟩,⟨y1,y2,y3,y4⟩,z,w⟩:=dh;dsimp only at d5;simp only[cond_true,t15,r1,d4,d5,obs,beq_self_eq_true,c0]
 | false =>
  simp only[cond_false]
  cases(s1 == 2) with
  | true =>
   refine⟨uh,ts,uj,u1,g1,l1,?_⟩
   obtain⟨⟨x1,x2,x3,x4⟩,⟨y1,y2,y3,y4⟩,z,w⟩:=uh;obtain⟨uc1,uc2⟩:=uc;dsimp only at u5;simp only[cond_true,u4,u5,obs,beq_self_eq_true,c1]
  | false =>
   simp only[cond_false]
   cases(s1 == 3) with
   | true =>
    refine⟨rh,ts,rj,q1,g2,l2,?_⟩
    obtain⟨⟨x1,x2,x3,x4⟩,⟨y1,y2,y3,y4⟩,z,w⟩:=rh;obtain⟨rc1,rc2⟩:=rc;dsimp only at q5;simp only[cond_true,q4,q5,obs,beq_self_eq_true,c2]
   | false =>
    refine⟨sh,ts,sj,p1,g3,l3,?_⟩
    obtain⟨⟨x1,x2,x3,x4⟩,⟨y1,y2,y3,y4⟩,z,w⟩:=sh;dsimp only at p5;simp only[cond_false,p4,p5,obs,beq_self_eq_true,c0,cond_true]
def zPP (n:Nat) (l:List Stp) (k:Nat) (i:Int) (h:Hs):=zBa n l k h.1.kind h.1.text h.1.cols h.1.kids h.2.1.kind h.2.1.text h.2.1.cols h.2.1.kids h.2.2.2 h.1.kind h.1.text h.1.cols h.1.kids h.2.2.1 h.2.2.2 i h.2.2.1
theorem zOy (n:Nat) (hn:200000000<n) (l:List Stp) (hl:l.length<=25) (hs:∀ s∈l,SOk s):∀ (k i:Nat) (h:Hs) (ts:List Nd) (j:Nat),HAt h ts j->HFew h->h.2.2.1.length<=i->l.length<k+i->i<=l.length ->
  ∃ h' ts' j',HAt h' ts' j'/\HFew h'/\zPP n l k (i:Int) h=some (.go (h'.1.kind,h'.1.text,h'.1.cols,h'.1.kids,h'.2.1.kind,h'.2.1.text,h'.2.1.cols,h'.2.1.kids,h'.2.2.2,h'.2.2.1,h'.1.kind,h'.1.text,h'.1.cols,h'.1.kids,h'.2.2.1,h'.2.2.2))
 | 0,i,h,ts,j,a,_,h1,h2,h3=>by omega
 | k+1,i,h,ts,j,a,hf,h1,h2,h3=>by
  unfold zPP zBa
  by_cases hj:i<l.length
  ·have ha:=zAJ hj;have so:=hs _ (List.getElem_mem hj)
   generalize l[i]=s at ha so;obtain⟨h',ts',j',g1,g2,g3,g4⟩:=zYd n hn a hf (by have:=a.le; omega) so;have sm:=zRC n hn g1 g2;obtain⟨h'',ts'',j'',i1,i2,i3⟩:=zOy n hn l hl hs k (i+1) h' ts' j' g1 g2 (by omega) (by omega) (by omega)
   refine⟨h'',ts'',j'',i1,i2,?_⟩
   unfold zPP at i3;unfold rf at g4 sm
   clear so g1 g2 g3 i1 i2
   obtain⟨⟨a1,a2,a3,a4⟩,⟨b1,b2,b3,b4⟩,rs,q⟩:=h;obtain⟨s1,⟨s2,⟨s3,s4⟩,⟨s5,s6⟩⟩,⟨s7,s8⟩,⟨s9,s10,s11,s12,s13⟩,s14⟩:=s;obtain⟨⟨x1,x2,x3,x4⟩,⟨y1,y2,y3,y4⟩,z,w⟩:=h';dsimp only[Nd.kind,Nd.text,Nd.cols,Nd.kids]at g4 sm i3 ⊢;rw[zAF (Int.ofNat_lt.2 hj),cond_true,zAH (by omega)]
   simp only[ha,obs,g4,Bool.not_true,cond_false,sm]
   exact i3
  ·refine⟨h,ts,j,a,hf,?_⟩
   rw[zAD (by omega),cond_false]
theorem zLv (n:Nat) (hn:200000000<n) (hw:zEP n=some true) (t:Nd) (ht:t.w<=16777216) (l:List Stp) (hl:l.length<=1048576) (hb:∀ s∈l,SBul s):zBE n t l=some true:=by
 obtain⟨b,f1,f2⟩:=zWG n t l (by omega) (by omega) hb;cases b with
 | false =>
  obtain⟨t1,t2,t3,t4⟩:=t;unfold zBE;simp only[hw,Bool.not_true,cond_false,obs,f1,Bool.not_false,cond_true]
 | true =>
  obtain⟨g1,g2⟩:=f2 rfl;obtain⟨h1,h2⟩:=zYl n (t:=t) hn ht;have v:=zEr n t (by omega) (by omega)
  cases hv:zAB t with
  | false =>
   rw[hv]at v;rw[hv,cond_false]at h1;obtain⟨t1,t2,t3,t4⟩:=t;unfold zBE zHb;simp only[hw,Bool.not_true,cond_false,obs,f1,h1]
   rw[zBf trivial]
   simp only[v,obs]
   rfl
  | true =>
   rw[hv]at v;rw[hv,cond_true]at h1;obtain⟨h',ts',j',i1,i2,i3⟩:=zOy n hn l g1 g2 n 0 _ _ _ (h2 hv) (fun r hr=>by cases hr) (Nat.le_refl _) (by omega) (Nat.zero_le _)
   have sm:=zRC n hn i1 i2;unfold zPP at i3;unfold rf at sm
   clear i1 i2 h2
   obtain⟨t1,t2,t3,t4⟩:=t;obtain⟨⟨x1,x2,x3,x4⟩,⟨y1,y2,y3,y4⟩,z,w⟩:=h';rw[show((0:Nat):Int)=0 from rfl]at i3;dsimp only[Nd.kind,Nd.text,Nd.cols,Nd.kids]at i3 sm;unfold zBE zHb;simp only[hw,Bool.not_true,cond_false,obs,f1,h1]
   rw[zBf trivial]
   simp only[v,obs,Bool.not_true,cond_false,show((0:Int) != 0)=false from rfl,i3,sm]
theorem zT9 (k:Nat):zEP (k+60)=some true:=by
 with_unfolding_all rfl
theorem zPW {n:Nat}{ss:List S} (h:Typed T n 33 ss):∃ c:Int×List Nd×Int×List UInt8×Bool,ss=[.int .i64 c.1,.sl 4 (Nd.encs c.2.1),.int .i64 c.2.2.1,.str c.2.2.2.1,.bool c.2.2.2.2]:=by
 obtain⟨m,rfl,a0,q0,rfl,u0,a1,q1,rfl,u1,a2,q2,rfl,u2,a3,q3,rfl,u3,a4,q4,rfl,u4,rfl⟩:=zEt (T:=T) (t:=33) rfl rfl h;obtain⟨x0,rfl,_⟩:=zDA (T:=T) (k:=.i64) rfl rfl u0;obtain⟨x1,rfl,_⟩:=zM7 (t:=0) u1;obtain⟨x2,rfl,_⟩:=zDA (T:=T) (k:=.i64) rfl rfl u2;obtain⟨x3,rfl,_⟩:=zKp (T:=T) rfl rfl u3;obtain⟨x4,rfl⟩:=zUK (T:=T) rfl rfl u4;exact⟨(x0,x1,x2,x3,x4),rfl⟩
theorem zUL {n:Nat}{ss:List S} (h:Typed T n 35 ss):∃ s:Stp,ss=zAn s:=by
 obtain⟨m,rfl,a0,q0,rfl,u0,a1,q1,rfl,u1,a2,q2,rfl,u2,a3,q3,rfl,u3,a4,q4,rfl,u4,rfl⟩:=zEt (T:=T) (t:=35) rfl rfl h;obtain⟨x0,rfl,_⟩:=zDA (T:=T) (k:=.i64) rfl rfl u0;obtain⟨x1,rfl⟩:=zRK u1;obtain⟨x2,rfl⟩:=zIv u2;obtain⟨x3,rfl⟩:=zPW u3;obtain⟨x4,rfl,_⟩:=zDA (T:=T) (k:=.i64) rfl rfl u4;exact⟨(x0,x1,x2,x3,x4),rfl⟩
theorem zS2 {n:Nat}{ss:List S} (h:Typed T n 25 ss):∃ l:List Stp,ss=[.sl 14 ((List.map zAn) l)]:=by
 obtain⟨m,rows,rfl,rfl,_,hr⟩:=zGp (T:=T) (e:=35) rfl rfl h;obtain⟨ks,rfl,hks⟩:=zKw (f:=zAn) (q:=fun _=>True) (l:=rows) fun r hr'=>by
  obtain⟨s,hs⟩:=zUL (hr r hr')
  exact⟨s,hs,trivial⟩
 exact⟨ks,rfl⟩
theorem zWQ (o:Op8):zGj o<=zDB (zAk o):=by
 have h1:=Nd.ws_bulk o.2.2.2.2.1;have h2:=zH2 .i64 o.2.1;unfold zGj;simp only[zAk,zDB,S.bulk,Op8.nodes,Op8.text,Op8.row]
 omega
theorem zXj (s:Stp) (h:zDB (zAn s)<=1048576):SBul s:=by
 simp only[zAn,zDB,S.bulk]at h;have i1:=zH2 .i64 s.2.1.2.1.1;have i2:=zH2 .i64 s.2.1.2.1.2;have i3:=zH2 .i64 s.2.1.2.2.1;have i4:=zH2 .i64 s.2.1.2.2.2;have i5:=Nd.ws_bulk s.2.2.2.1.2.1;refine⟨fun o ho=>?_,by omega,by omega,by omega,by omega,by omega⟩
 have h1:=zO3 (f:=zAk) ho;have h2:=zWQ o
 omega
theorem zWe (l:List Stp) (h:zDB [.sl 14 ((List.map zAn) l)]<=1048576):l.length<=1048576/\∀ s∈l,SBul s:=by
 simp only[zDB,S.bulk]at h;have h1:=zMj (rows:=l.map zAn) fun r hr=>by
  obtain⟨o,_,rfl⟩:=List.mem_map.1 hr;simp only[zAn,List.length_cons]
  omega
 rw[List.length_map]at h1;refine⟨by omega,fun s hs=>zXj s ?_⟩
 have:=zO3 (f:=zAn) hs
 omega
end Go.Proofs.YtffhjiplcfncdaaGreat
