/-
  Joined out of: PRow, PWith, PWt, PLeast, PLeast2, PEdit1, PEdit2, PEdit3, PEdit4, PEdit5, PDif4, PEdit7, PHs2, PHs3, PHs4, PR10, PRun7, PHs6, PFil1, PTypF, PFil2, PFAwk.
-/
import Derived.Test.YtgplhldfbkmmgaaGreatZe
set_option linter.unusedVariables false
set_option linter.unusedSimpArgs false
set_option maxHeartbeats 2000000
set_option maxRecDepth 100000
namespace Go.Proofs.YtgplhldfbkmmgaaGreat
open Go.Abs
theorem zJY {n:Nd}{i s:Int}{p:List Int} (h:¬ (0<=i/\i<n.kids.length)):zBl n (i::s::p)=none:=by rw[zBl,if_neg h]
theorem zJZ {n x:Nd}{i:Nat}{s:Int}{p:List Int} (hx:n.kids[i]? = some x) (h:¬ (0<=s/\s<x.kids.length)):zBl n ((i:Int)::s::p)=none:=by
 have hl:=(List.getElem?_eq_some_iff.1 hx).1;rw[zBl,if_pos ⟨by omega,by omega⟩]
 simp only[List.getD_eq_getElem?_getD,Int.toNat_natCast,hx,Option.getD_some]
 rw[if_neg h]
theorem zQq {n x z:Nd}{i s:Nat}{p:List Int} (hx:n.kids[i]? = some x) (hz:x.kids[s]? = some z):zBl n ((i:Int)::(s:Int)::p)=zBl z p:=by
 have hl:=(List.getElem?_eq_some_iff.1 hx).1;have hl2:=(List.getElem?_eq_some_iff.1 hz).1;rw[zBl,if_pos ⟨by omega,by omega⟩]
 simp only[List.getD_eq_getElem?_getD,Int.toNat_natCast,hx,hz,Option.getD_some]
 rw[if_pos ⟨by omega,by omega⟩]
theorem zSi {α:Type}{l:List α}{i:Int} (h0:0<=i) (h1:i<(l.length:Int)):∃ p:Nat,i=(p:Int)/\∃ h:p<l.length,at? l i=some l[p]:=by
 obtain⟨p,rfl⟩:=Int.eq_ofNat_of_zero_le h0;exact⟨p,rfl,by omega,zBc (by omega)⟩
theorem zMP:∀ (k:Nat) (t:Nd) (path:List Int),path.length<k ->
  (zBl t path=none/\∃ r,zBG k t.kind t.text t.cols t.kids path=some (.ret (r,false))) ∨
  (zBl t path=none/\∃ (r:Nd) (p:List Int),p ≠ []/\zBG k t.kind t.text t.cols t.kids path=some (.go (p,r.kind,r.text,r.cols,r.kids))) ∨
  ∃ r,zBl t path=some r/\zBG k t.kind t.text t.cols t.kids path=some (.go ([],r.kind,r.text,r.cols,r.kids))
 | 0,_,_,h=>by omega
 | k+1,t,path,h=>by
  unfold zBG
  match path,h with
  | [],h=>exact .inr (.inr ⟨t,rfl,rfl⟩)
  | [x],h=>exact .inr (.inl ⟨rfl,t,[x],by simp,rfl⟩)
  | x::y::p,h =>
   have e0:at? (x::y::p) (0:Int)=some x:=rfl;have e1:at? (x::y::p) (1:Int)=some y:=rfl;have e2:(((x::y::p).take (((x::y::p).length:Int)).toNat).drop (2:Int).toNat)=p:=by
    rw[Int.toNat_natCast,List.take_length]; rfl
   rw[zAN (by simp only[List.length_cons]; omega),cond_true]
   simp only[e0,e1,Option.bind_some,e2]
   by_cases h1:x<0
   ·rw[zAN h1]; exact .inl ⟨zJY (fun h=>by omega),_,rfl⟩
   ·rw[zAL h1]
    by_cases h2:(t.kids.length:Int)<=x
    ·rw[zAN h2]; exact .inl ⟨zJY (fun h=>by omega),_,rfl⟩
    ·rw[zAL h2]
     obtain⟨i,rfl,hi,hg⟩:=zSi (l:=t.kids) (i:=x) (by omega) (by omega)
     rw[hg]
     have hgi:t.kids[i]? = some t.kids[i]:=List.getElem?_eq_getElem hi;generalize t.kids[i]=e at hgi;obtain⟨x1,x2,x3,x4⟩:=e;simp only[cond_false,Option.bind_some]
     by_cases h3:y<0
     ·rw[zAN h3]; exact .inl ⟨zJZ hgi (fun h=>by omega),_,rfl⟩
     ·rw[zAL h3]
      by_cases h4:(x4.length:Int)<=y
      ·rw[zAN h4]; exact .inl ⟨zJZ hgi (fun h=>by have:y<x4.length:=h.2; omega),_,rfl⟩
      ·rw[zAL h4]
       obtain⟨j,rfl,hj,hg2⟩:=zSi (l:=x4) (i:=y) (by omega) (by omega)
       rw[hg2]
       have hgj:x4[j]? = some x4[j]:=List.getElem?_eq_getElem hj;generalize x4[j]=f at hgj;obtain⟨y1,y2,y3,y4⟩:=f;simp only[cond_false,Option.bind_some]
       rw[zDr ⟨by omega,by simp only[List.length_cons]; omega,by omega⟩]
       rw[zQq hgi hgj]
       exact zMP k (.mk y1 y2 y3 y4) p (by simp only[List.length_cons]at h; omega)
theorem zQI (n:Nat) (t:Nd) (path:List Int) (h:path.length<n):∃ r ok,zGe n t path=some (r,ok)/\zBl t path=bif ok then some r else none:=by
 obtain⟨a,b,c,d⟩:=t;unfold zGe;dsimp only;rcases zMP n (.mk a b c d) path h with ⟨h0,r,h1⟩ | ⟨h0,r,p,hp,h1⟩ | ⟨r,h0,h1⟩
 ·simp only[Nd.kind,Nd.text,Nd.cols,Nd.kids]at h1;rw[h1]
  exact⟨r,false,rfl,h0⟩
 ·obtain⟨r1,r2,r3,r4⟩:=r;simp only[Nd.kind,Nd.text,Nd.cols,Nd.kids]at h1;rw[h1]
  refine⟨.mk r1 r2 r3 r4,false,?_,h0⟩
  have:((p.length:Int) == 0)=false:=beq_eq_false_iff_ne.2 fun e=>hp (List.eq_nil_of_length_eq_zero (by omega))
  simp only[Option.bind_some,this]
 ·obtain⟨r1,r2,r3,r4⟩:=r;simp only[Nd.kind,Nd.text,Nd.cols,Nd.kids]at h1;rw[h1]
  exact⟨.mk r1 r2 r3 r4,true,rfl,h0⟩
def rowS (t:Nd) (p:List Int):Nd×Int:=if zAJ t=true then (match zBl t p with | some r=>(r,0) | none=>(zCT,8)) else (zCT,1)
theorem zPa:∀ (N:Nat) (p:List Int) (t r:Nd),p.length<N->zBl t p=some r->r.w<=t.w/\r.cnt<=t.cnt
 | 0,p,_,_,h,_=>by omega
 | N+1,[],t,r,_,h=>by
  rw[zBl]at h;cases h;exact⟨Nat.le_refl _,Nat.le_refl _⟩
 | N+1,[_],t,r,_,h=>by
  rw[zBl]at h;cases h
 | N+1,i::s::p,.mk k tx c ks,r,hN,h=>by
  rw[zBl]at h;split at h
  ·rename_i hi
   replace hi:0<=i/\i<ks.length:=hi;have hi0:i.toNat<ks.length :=(by omega);have hx:ks[i.toNat]? = some ks[i.toNat]:=List.getElem?_eq_getElem hi0;generalize ks[i.toNat]=x at hx;obtain⟨k2,tx2,c2,ks2⟩:=x;simp only[Nd.kids,List.getD_eq_getElem?_getD,hx,Option.getD_some]at h;split at h
   ·rename_i hs
    have hs0:s.toNat<ks2.length :=(by omega);have hz:ks2[s.toNat]? = some ks2[s.toNat]:=List.getElem?_eq_getElem hs0;generalize ks2[s.toNat]=z at hz;rw[hz,Option.getD_some]at h;obtain⟨q1,q2⟩:=zPa N p z r (by simp only[List.length_cons]at hN; omega) h;have m1:=Nd.w_mem (List.mem_of_getElem? hx)
    have m2:=Nd.w_mem (List.mem_of_getElem? hz)
    have n1:=Nd.cnts_mem (List.mem_of_getElem? hx)
    have n2:=Nd.cnts_mem (List.mem_of_getElem? hz)
    simp only[Nd.w,Nd.cnt]at m1 m2 n1 n2 ⊢
    omega
   ·cases h
  ·cases h
theorem zR1 (n:Nat) (t:Nd) (p:List Int) (hp:p.length<n) (hv:zA7 n t=some (zAJ t)):zG5 n t p=some (rowS t p):=by
 obtain⟨r,ok,h1,h2⟩:=zQI n t p hp;obtain⟨k,tx,c,ks⟩:=t;unfold zG5 rowS;dsimp only;rw[hv]
 simp only[Option.bind_some]
 cases hb:zAJ (.mk k tx c ks) with
 | false=>rfl
 | true =>
  rw[h1,h2]
  obtain⟨r1,r2,r3,r4⟩:=r;cases ok <;> rfl
theorem zId {t:Nd} (h:t.cnt<=1000000000):zBm t=some t:=zDr h
theorem zQx (n:Nat) (t:Nd) (p:List Int) (hv:zAX n t=some (zAJ t)) (hc:t.cnt<=1000000000):zGc n t p=some (rowS t p):=by
 unfold zGc rowS;rw[hv]
 simp only[Option.bind_some]
 split
 ·cases hf:zBl t p with
  | none=>rfl
  | some r =>
   have:=(zPa _ p t r (Nat.lt_succ_self _) hf).2;simp only[zId (Nat.le_trans this hc),Option.bind_some]
 ·rfl
theorem zKX {α:Type}{l:List α}{i:Nat}{x:α} (h:l[i]? = some x):at? l (i:Int)=some x:=by
 have hl:=(List.getElem?_eq_some_iff.1 h).1;rw[zBc hl,← List.getElem?_eq_getElem hl,h]
theorem zHp {k:Int}{tx:List UInt8}{c:Int}{ks:List Nd}{i:Nat}{x y:Nd} (hi:ks[i]? = some y) (hl:ks.length<=4294967296):zBt (.mk k tx c ks) (i:Int) x=some (.mk k tx c (ks.set i x)):=by
 obtain⟨x1,x2,x3,x4⟩:=x;obtain⟨y1,y2,y3,y4⟩:=y;unfold zBt;dsimp only;rw[zDr (by simpa using hl),zKX hi]
 simp only[Option.bind_some,Int.toNat_natCast]
def zQV (t:Nd) (p:List Int) (r:Nd):Nd×Int:=if zAJ t=true then (match zBl t p with
 | some _=>if zAJ r=true then (if zAJ (putL t p r)=true then (putL t p r,0) else (zCT,6)) else (zCT,4)
 | none=>(zCT,8)) else (zCT,1)
theorem zPp (n:Nat) (t:Nd) (p:List Int) (r:Nd) (hv:zAX n t=some (zAJ t)) (hr:zAX n r=some (zAJ r)) (hp:∀ z,Fd t p z->zAX n (putL t p r)=some (zAJ (putL t p r))) (hc:t.cnt<=1000000000) (hcr:r.cnt<=1000000000) :
  zEg n t p r=some (zQV t p r):=by
 unfold zEg zQV;rw[hv,zId hc,hr,zId hcr]
 simp only[Option.bind_some]
 split
 ·cases hf:zBl t p with
  | none=>rfl
  | some z =>
   dsimp only;rw[hp z (zUv hf)]
   simp only[Option.bind_some]
   split
   ·split <;> rfl
   ·rfl
 ·rfl
theorem zT6 {t z r:Nd}{p:List Int} (hv:zAJ t=true) (h:zBl t p=some z) (hr:zAJ r=true) (hp:zAJ (putL t p r)=true):zQV t p r=(putL t p r,0):=by unfold zQV; rw[if_pos hv,h]; dsimp only; rw[if_pos hr,if_pos hp]
abbrev Op8:=Int×List Int×Int×Int×List Nd×Int×List UInt8×List UInt8
def Op8.nodes (o:Op8):List Nd:=o.2.2.2.2.1
theorem take3 {α:Type} (l:List α){p q:Nat} (h:p<=q):(l.take p++(l.take q).drop p)++l.drop q=l:=by
 have:l.take p=(l.take q).take p :=(by rw[List.take_take,Nat.min_eq_left h]);rw[this,List.take_append_drop,List.take_append_drop]
theorem zP2 (l by':List Nd){p q:Nat} (h:p<=q):Nd.ws ((l.take p++by')++l.drop q)+Nd.ws ((l.take q).drop p)=Nd.ws l+Nd.ws by':=by
 have:=congrArg Nd.ws (take3 l h)
 rw[Nd.ws_append,Nd.ws_append]at this ⊢
 omega
theorem zS9 (l by':List Nd) (p q:Nat) (hp:p<=l.length) (hq:q<=l.length) (hl:l.length<=1073741824) (hb:by'.length<=1073741824) :
  zBK l (p:Int) (q:Int) by'=some ((l.take p++by')++l.drop q):=by
 unfold zBK;dsimp only;have e1:(l.take (p:Int).toNat).drop (0:Int).toNat=l.take p :=(by simp);have e2:(l.take (l.length:Int).toNat).drop (q:Int).toNat=l.drop q :=(by simp);rw[e1,e2,zDr ⟨by omega,by omega,by omega⟩,zDr (by simp; omega),zDr (by simp; omega),zDr ⟨by omega,by omega,by omega⟩,zDr (by simp; omega)]
theorem zQj (t:Nd) (i:Nat) (v:Nd) (h:i<t.kids.length) (hl:t.kids.length<=1073741824):zBt t (i:Int) v=some (.mk t.kind t.text t.cols (t.kids.set i v)):=by
 obtain⟨a,b,c,d⟩:=t;obtain⟨a',b',c',d'⟩:=v;simp only[Nd.kids]at h hl;unfold zBt;simp only;rw[zDr (by simp; omega),zBc h]
 rcases e:d[i] with ⟨x1,x2,x3,x4⟩
 simp only[Option.bind_some,Int.toNat_natCast,Nd.kind,Nd.text,Nd.cols,Nd.kids]
theorem zO9 (t:Nd) (i:Nat) (l:List Nd) (h:i<t.kids.length) (hl:t.kids.length<=1073741824) (hl2:l.length<=1073741824):zC6 t (i:Int) l=some (.mk t.kind t.text t.cols (t.kids.set i (.mk 1 [] 0 l))):=by
 have:=zQj t i (.mk 1 [] 0 l) h hl;obtain⟨a,b,c,d⟩:=t;unfold zC6;simp only[zCy,Option.bind_some]
 rw[zDr (by simp; omega),this]
 rfl
theorem zT8 {α:Type}{l:List α}{i:Int} (h0:0<=i) (h1:i<(l.length:Int)):∃ p:Nat,i=(p:Int)/\∃ h:p<l.length,at? l i=some l[p]:=by
 obtain⟨p,rfl⟩:=Int.eq_ofNat_of_zero_le h0;exact⟨p,rfl,by omega,zBc (by omega)⟩
theorem zFH (t:Nd):t.w=t.text.length+Nd.ws t.kids+1:=by cases t; rfl
theorem zUh (l:List Nd){p q:Nat} (h:p<=q):Nd.ws ((l.take q).drop p)<=Nd.ws l:=by
 have:=zP2 l [] h;simp only[Nd.ws]at this; omega
theorem zQS (l:List Nd){p:Nat} (h:p<l.length):(l.take (p+1)).drop p=[l[p]]:=by
 rw[List.take_succ_eq_append_getElem h,List.drop_append_of_le_length (by simp; omega),List.drop_take]
 simp
def splS (l:List Nd) (p q:Nat) (b:List Nd):List Nd:=(l.take p++b)++l.drop q
def segS (l:List Nd) (p q:Nat):List Nd:=(l.take q).drop p
def rowN (l:List Nd):Nd:=.mk 1 [] 0 l
def zGH (v:Nd) (s:Nat) (l:List Nd):Nd:=.mk v.kind v.text v.cols (v.kids.set s (rowN l))
def zRK (k:Int):Bool:=(k == 2)||((k == 3)||((k == 4)||((k == 10)||(k == 11))))
def zDj (k m:Int) (nodes:List Nd):Int:=if k=1 then 0 else if k=2 then nodes.length else if k=3 then m else 1
def zQY (nodes:List Nd) (slot:Int):Prop:=∃ (v:Nd) (s:Nat) (z:Nd),nodes=[v]/\slot=(s:Int)/\zAJ (rowN [v])=true/\v.kids[s]? = some z/\z.kids=[]
def FormP:Op8->Prop
 | (k,_,_,m,nodes,slot,old,text) =>
  ((k=1∨k=2)/\nodes ≠ []/\zAJ (rowN nodes)=true/\m=0/\slot=0/\old=[]/\text=[]) ∨
  ((k=3∨k=4)/\0<=m/\zQY nodes slot/\old=[]/\text=[]) ∨
  (k=5/\old ≠ text/\nodes=[]/\m=0/\slot=0)
inductive Chg (l:List Nd):Op8->List Nd->Int->Prop
 | range {k:Int} {row:List Int} {a m:Int} {nodes:List Nd} {slot:Int} {old text:List UInt8} (h:a<0∨(l.length:Int)<a∨(l.length:Int) - a<zDj k m nodes):Chg l (k,row,a,m,nodes,slot,old,text) [] 2
 | ins {row:List Int} {p:Nat} {m:Int} {nodes:List Nd} {slot:Int} {old text:List UInt8} (h:p<=l.length):Chg l (1,row,(p:Int),m,nodes,slot,old,text) (splS l p p nodes) 0
 | del {row:List Int} {p:Nat} {m:Int} {nodes:List Nd} {slot:Int} {old text:List UInt8} (h:p+nodes.length<=l.length) (he:segS l p (p+nodes.length)=nodes):Chg l (2,row,(p:Int),m,nodes,slot,old,text) (splS l p (p+nodes.length) []) 0
 | del_no {row:List Int} {p:Nat} {m:Int} {nodes:List Nd} {slot:Int} {old text:List UInt8} (h:p+nodes.length<=l.length) (he:segS l p (p+nodes.length) ≠ nodes):Chg l (2,row,(p:Int),m,nodes,slot,old,text) [] 7
 | wrap {row:List Int} {p m:Nat} {v:Nd} {s:Nat} {old text:List UInt8} (h:p+m<=l.length):Chg l (3,row,(p:Int),(m:Int),[v],(s:Int),old,text) (splS l p (p+m) [zGH v s (segS l p (p+m))]) 0
 | unwrap {row:List Int} {p:Nat} {m:Int} {v it z:Nd} {s:Nat} {old text:List UInt8} (h:l[p]? = some it) (hz:it.kids[s]? = some z) (hm:(z.kids.length:Int)=m) (he:it=zGH v s z.kids):Chg l (4,row,(p:Int),m,[v],(s:Int),old,text) (splS l p (p+1) z.kids) 0
 | unwrap_no {row:List Int} {p:Nat} {m:Int} {v it:Nd} {s:Nat} {old text:List UInt8} (h:l[p]? = some it) (hz:∀ z,it.kids[s]? = some z->(z.kids.length:Int)=m->it ≠ zGH v s z.kids):Chg l (4,row,(p:Int),m,[v],(s:Int),old,text) [] 7
 | set {row:List Int} {p:Nat} {m:Int} {nodes:List Nd} {it:Nd} {slot:Int} {old text:List UInt8} (h:l[p]? = some it) (hl:zRK it.kind=true) (he:it.text=old):Chg l (5,row,(p:Int),m,nodes,slot,old,text) (splS l p (p+1) [.mk it.kind text it.cols it.kids]) 0
 | set_no {row:List Int} {p:Nat} {m:Int} {nodes:List Nd} {it:Nd} {slot:Int} {old text:List UInt8} (h:l[p]? = some it) (hl:¬ (zRK it.kind=true/\it.text=old)):Chg l (5,row,(p:Int),m,nodes,slot,old,text) [] 7
inductive App (t:Nd):Op8->Nd->Int->Prop
 | arg {o:Op8} (h:zAJ t=false):App t o zCT 1
 | form {o:Op8} (h:zAJ t=true) (hf:¬ FormP o):App t o zCT 4
 | none {o:Op8} (h:zAJ t=true) (hf:FormP o) (hn:zBl t o.2.1=Option.none):App t o zCT 8
 | chg {o:Op8} {r:Nd} {l:List Nd} {e:Int} (h:zAJ t=true) (hf:FormP o) (hr:Fd t o.2.1 r) (hc:Chg r.kids o l e) (he:e ≠ 0):App t o zCT e
 | limit {o:Op8} {r:Nd} {l:List Nd} (h:zAJ t=true) (hf:FormP o) (hr:Fd t o.2.1 r) (hc:Chg r.kids o l 0) (hv:zAJ (putL t o.2.1 (rowN l))=false):App t o zCT 6
 | ok {o:Op8} {r:Nd} {l:List Nd} (h:zAJ t=true) (hf:FormP o) (hr:Fd t o.2.1 r) (hc:Chg r.kids o l 0) (hv:zAJ (putL t o.2.1 (rowN l))=true):App t o (putL t o.2.1 (rowN l)) 0
theorem Chg.w {l l':List Nd}{k:Int}{row:List Int}{a m:Int}{nodes:List Nd}{slot:Int}{old text:List UInt8}{e:Int} (h:Chg l (k,row,a,m,nodes,slot,old,text) l' e):Nd.ws l'<=Nd.ws l+Nd.ws nodes+text.length+3/\l'.length<=l.length+Nd.ws nodes+Nd.ws l+1:=by
 have key:∀ p q b,p<=q->Nd.ws (splS l p q b)+Nd.ws (segS l p q)=Nd.ws l+Nd.ws b:=fun p q b h=>zP2 l b h
 have hlen:∀ l':List Nd,l'.length<=Nd.ws l':=Nd.ws_len
 have h1:Nd.ws l'<=Nd.ws l+Nd.ws nodes+text.length+3:=by
  cases h with
  | range=>simp only[Nd.ws]; omega
  | @ins _ p _ _ _ _ _ h=>have:=key p p nodes (Nat.le_refl _); omega
  | @del _ p _ _ _ _ _ h he=>have:=key p (p+nodes.length) [] (Nat.le_add_right _ _); simp only[Nd.ws]at this; omega
  | del_no=>simp only[Nd.ws]; omega
  | @wrap _ p m v s _ _ h =>
   have:=key p (p+m) [zGH v s (segS l p (p+m))] (Nat.le_add_right _ _)
   have hf:(zGH v s (segS l p (p+m))).w<=v.w+Nd.ws (segS l p (p+m))+1:=by
    rw[zFH v]
    simp only[zGH,rowN,Nd.w]
    by_cases hs:s<v.kids.length
    ·have:=zLT (ks:=v.kids) (i:=s) (y:=.mk 1 [] 0 (segS l p (p+m))) (List.getElem?_eq_getElem hs)
     simp only[Nd.w,List.length_nil]at this
     omega
    ·rw[List.set_eq_of_length_le (by omega)]; omega
   simp only[Nd.ws]at this ⊢
   omega
  | @unwrap _ p _ v it z s _ _ h hz hm he =>
   have:=key p (p+1) z.kids (Nat.le_add_right _ _)
   have hsg:segS l p (p+1)=[it]:=by
    have:=zQS l (List.getElem?_eq_some_iff.1 h).1;rw[segS,this,(List.getElem?_eq_some_iff.1 h).2]
   have w1:=Nd.w_mem (List.mem_of_getElem? hz)
   have w2:=zFH z;have w3:=zFH it;rw[hsg]at this;simp only[Nd.ws]at this
   omega
  | unwrap_no=>simp only[Nd.ws]; omega
  | @set _ p _ _ it _ _ _ h hl he =>
   have:=key p (p+1) [.mk it.kind text it.cols it.kids] (Nat.le_add_right _ _)
   have hsg:segS l p (p+1)=[it]:=by
    have:=zQS l (List.getElem?_eq_some_iff.1 h).1;rw[segS,this,(List.getElem?_eq_some_iff.1 h).2]
   have w3:=zFH it;rw[hsg]at this;simp only[Nd.ws,Nd.w]at this
   omega
  | set_no=>simp only[Nd.ws]; omega
 refine⟨h1,?_⟩
 cases h with
 | range=>simp
 | @ins _ p _ _ _ _ _ h=>have:=hlen nodes; simp only[splS,List.length_append,List.length_take,List.length_drop]; omega
 | @del _ p _ _ _ _ _ h he=>simp only[splS,List.length_append,List.length_take,List.length_drop,List.length_nil]; omega
 | del_no=>simp
 | @wrap _ p m v s _ _ h=>simp only[splS,List.length_append,List.length_take,List.length_drop,List.length_cons,List.length_nil]; omega
 | @unwrap _ p _ v it z s _ _ h hz hm he =>
  have w1:=Nd.w_mem (List.mem_of_getElem? hz)
  have w4:=Nd.w_mem (List.mem_of_getElem? h)
  have w2:=zFH z;have w3:=zFH it;have:=hlen z.kids;simp only[splS,List.length_append,List.length_take,List.length_drop]; omega
 | unwrap_no=>simp
 | @set _ p _ _ it _ _ _ h hl he=>simp only[splS,List.length_append,List.length_take,List.length_drop,List.length_cons,List.length_nil]; omega
 | set_no=>simp
theorem zJd (n:Nat) (nodes:List Nd) (h:Nd.ws nodes+50<n) (hb:Nd.ws nodes<=67000000):zBZ n nodes=some (zAJ (rowN nodes)):=by
 unfold zBZ;simp only[zCy,Option.bind_some]
 rw[zDQ n _ (by simp only[Nd.w,List.length_nil]; omega) (by simp only[Nd.w,List.length_nil]; omega)]; rfl
theorem zLC (n:Nat) (l:List Nd) (slot:Int) (h:Nd.ws l+50<n) (hb:Nd.ws l<=67000000):∃ b,zDx n l slot=some b/\(b=true↔zQY l slot):=by
 unfold zDx;dsimp only;cases e1:((l.length:Int) == 1) with
 | false=>exact⟨false,rfl,(fun h=>by cases h),fun⟨v,s,z,h,_⟩=>by rw[h]at e1; cases e1⟩
 | true =>
  have hl:l.length=1 :=(by have:=eq_of_beq e1; omega);obtain⟨v,rfl⟩:=List.length_eq_one_iff.1 hl;have hv:=zJd n [v] h hb;obtain⟨a,b,c,d⟩:=v;have h0:at? [Nd.mk a b c d] (0:Int)=some (Nd.mk a b c d):=rfl;simp only[cond_true,hv,Option.bind_some,h0]
  cases hvb:zAJ (rowN [.mk a b c d]) with
  | false=>exact⟨false,rfl,(fun h=>by cases h),fun⟨v,s,z,h,_,h2,_⟩=>by cases h; rw[hvb]at h2; cases h2⟩
  | true =>
   by_cases h1:0<=slot
   ·by_cases h2:slot<(d.length:Int)
    ·obtain⟨p,rfl,hp,hg⟩:=zT8 h1 h2;simp only[cond_true,zAN h1,zAN h2,hg,Option.bind_some]
     have hz:d[p]? = some d[p]:=List.getElem?_eq_getElem hp;generalize d[p]=z at hz;obtain⟨x1,x2,x3,x4⟩:=z;refine⟨_,rfl,fun h=>⟨_,p,_,rfl,rfl,hvb,hz,?_⟩,fun⟨v,s,z,h,hs,_,hz',hk⟩=>?_⟩
     ·have:=eq_of_beq h;exact List.eq_nil_of_length_eq_zero (by simp only[Nd.kids]; omega)
     ·cases h;obtain rfl:p=s :=(by omega);simp only[Nd.kids]at hz';rw[hz]at hz';cases hz';simp only[Nd.kids]at hk;subst hk
      rfl
    ·simp only[cond_true,zAN h1,zAL h2]
     refine⟨false,rfl,(fun h=>by cases h),fun⟨v,s,z,h,hs,_,hz,_⟩=>?_⟩
     cases h;have:=(List.getElem?_eq_some_iff.1 hz).1;simp only[Nd.kids]at this
     omega
   ·simp only[cond_true,zAL h1]
    refine⟨false,rfl,(fun h=>by cases h),fun⟨v,s,z,h,hs,_⟩=>?_⟩
    omega
theorem zOe (n:Nat) (k:Int) (row:List Int) (at' m:Int) (nodes:List Nd) (slot:Int) (old text:List UInt8) (h:Nd.ws nodes+50<n) (hb:Nd.ws nodes<=67000000) :
  ∃ b,zEz n (k,row,at',m,nodes,slot,old,text)=some b/\(b=true↔FormP (k,row,at',m,nodes,slot,old,text)):=by
 have hv:=zJd n nodes h hb;obtain⟨tb,t1,t2⟩:=zLC n nodes slot h hb;have hlen:decide (0<(nodes.length:Int))=true↔nodes ≠ [] :=(by cases nodes <;> simp);have hlen0:((nodes.length:Int) == 0)=true↔nodes=[] :=(by cases nodes <;> simp <;> omega);unfold zEz;simp only[hv,t1,Option.bind_some,FormP]
 by_cases k12:k=1∨k=2
 ·have e:(bif (k == 1) then some (k == 1) else some (k == 2):Option Bool)=some true:=by rcases k12 with rfl | rfl <;> rfl
  have hk:¬ (k=3∨k=4)/\¬ k=5 :=(by omega);rw[e]
  simp only[Option.bind_some,cond_true,k12,hk.1,hk.2,true_and,false_and,or_false]
  rw[← hlen]
  generalize decide (0<(nodes.length:Int))=b1;generalize zAJ (rowN nodes)=b2;cases b1 <;> cases b2 <;> simp only[cond_true,cond_false,Option.bind_some] <;> try exact⟨false,rfl,by simp⟩
  cases e1:m == 0 <;> simp only[cond_true,cond_false,Option.bind_some]
  ·exact⟨false,rfl,by simp[beq_eq_false_iff_ne.1 e1]⟩
  cases e2:slot == 0 <;> simp only[cond_true,cond_false,Option.bind_some]
  ·exact⟨false,rfl,by simp[beq_eq_false_iff_ne.1 e2]⟩
  cases e3:old == [] <;> simp only[cond_true,cond_false,Option.bind_some]
  ·exact⟨false,rfl,by simp[beq_eq_false_iff_ne.1 e3]⟩
  refine⟨_,rfl,?_⟩
  rw[eq_of_beq e1,eq_of_beq e2,eq_of_beq e3]
  simp
 ·have e:(bif (k == 1) then some (k == 1) else some (k == 2):Option Bool)=some false:=by
   rw[zCI (fun h=>k12 (.inl h)),zCI (fun h=>k12 (.inr h))]; rfl
  rw[e]
  simp only[Option.bind_some,cond_false,k12,false_and,false_or]
  by_cases k34:k=3∨k=4
  ·have e:(bif (k == 3) then some (k == 3) else some (k == 4):Option Bool)=some true:=by rcases k34 with rfl | rfl <;> rfl
   have hk:¬ k=5 :=(by omega);rw[e]
   simp only[Option.bind_some,cond_true,k34,hk,true_and,false_and,or_false]
   rw[← t2]
   by_cases hm:0<=m
   ·rw[zAN hm]
    cases tb <;> simp only[cond_true,cond_false,Option.bind_some]
    ·exact⟨false,rfl,by simp⟩
    cases e3:old == [] <;> simp only[cond_true,cond_false,Option.bind_some]
    ·exact⟨false,rfl,by simp[beq_eq_false_iff_ne.1 e3]⟩
    refine⟨_,rfl,?_⟩
    rw[eq_of_beq e3]
    simp[hm]
   ·rw[zAL hm]
    exact⟨false,rfl,by simp[hm]⟩
  ·have e:(bif (k == 3) then some (k == 3) else some (k == 4):Option Bool)=some false:=by
    rw[zCI (fun h=>k34 (.inl h)),zCI (fun h=>k34 (.inr h))]; rfl
   rw[e]
   simp only[Option.bind_some,cond_false,k34,false_and,false_or]
   by_cases k5:k=5
   ·subst k5;simp only[beq_self_eq_true,cond_true,Option.bind_some,true_and]
    rw[← hlen0]
    generalize ((nodes.length:Int) == 0)=b1;cases e0:old == text <;> simp only[Bool.not_true,Bool.not_false,cond_true,cond_false,Option.bind_some]
    ·have:=beq_eq_false_iff_ne.1 e0;cases b1 <;> simp only[cond_true,cond_false,Option.bind_some]
     ·exact⟨false,rfl,by simp⟩
     cases e1:m == 0 <;> simp only[cond_true,cond_false,Option.bind_some]
     ·exact⟨false,rfl,by simp[beq_eq_false_iff_ne.1 e1]⟩
     refine⟨_,rfl,?_⟩
     rw[eq_of_beq e1]
     simp[this]
    ·exact⟨false,rfl,by simp[eq_of_beq e0]⟩
   ·rw[zCI k5]
    exact⟨false,rfl,by simp[k5]⟩
theorem zRa (k:Int):(bif (k == 2) then some (k == 2) else bif (k == 3) then some (k == 3) else bif (k == 4) then some (k == 4) else bif (k == 10) then some (k == 10) else some (k == 11):Option Bool)=some (zRK k):=by
 unfold zRK;cases e1:k == 2 <;> cases e2:k == 3 <;> cases e3:k == 4 <;> cases e4:k == 10 <;> rfl
theorem zRj (k m:Int) (nodes:List Nd):(bif (k == 1) then some 0 else bif (k == 2) then some (nodes.length:Int) else bif (k == 3) then some m else some 1:Option Int)=some (zDj k m nodes):=by
 unfold zDj
 by_cases k1:k=1
 ·subst k1; rfl
 by_cases k2:k=2
 ·subst k2; rfl
 by_cases k3:k=3
 ·subst k3; rfl
 rw[zCI k1,zCI k2,zCI k3,if_neg k1,if_neg k2,if_neg k3]; rfl
theorem zQv {k:Int}{row:List Int}{a m:Int}{nodes:List Nd}{slot:Int}{old text:List UInt8} (hf:FormP (k,row,a,m,nodes,slot,old,text)):0<=zDj k m nodes:=by
 unfold zDj;rcases hf with ⟨rfl | rfl,_⟩ | ⟨rfl | rfl,hm,_⟩ | ⟨rfl,_⟩ <;> simp <;> omega
theorem zOf (n:Nat) (l:List Nd) (k:Int) (row:List Int) (a m:Int) (nodes:List Nd) (slot:Int) (old text:List UInt8) (hf:FormP (k,row,a,m,nodes,slot,old,text)) (hn:2 * Nd.ws l+2 * Nd.ws nodes+50<n) (ha:Nd.ws l<=60000000) (hb:Nd.ws nodes<=2000000) :
  ∃ l' e,zEA n l (k,row,a,m,nodes,slot,old,text)=some (l',e)/\Chg l (k,row,a,m,nodes,slot,old,text) l' e:=by
 have la:=Nd.ws_len l;have lb:=Nd.ws_len nodes;have cl:=Nd.cnts_ws l;have cb:=Nd.cnts_ws nodes;have hnn:=zQv hf;unfold zEA;dsimp only;rw[zRj]
 simp only[Option.bind_some]
 by_cases h1:a<0
 ·rw[zAN h1]; exact⟨[],2,rfl,.range (.inl h1)⟩
 rw[zAL h1]
 by_cases h2:(l.length:Int)<a
 ·rw[zAN h2]; exact⟨[],2,rfl,.range (.inr (.inl h2))⟩
 rw[zAL h2,wrap64_in (n:=(l.length:Int) - a) (by omega) (by omega)]
 by_cases h3:(l.length:Int) - a<zDj k m nodes
 ·rw[zAN h3]; exact⟨[],2,rfl,.range (.inr (.inr h3))⟩
 rw[zAL h3]
 simp only[cond_false,Option.bind_some]
 obtain⟨p,rfl⟩:=Int.eq_ofNat_of_zero_le (show 0<=a by omega)
 obtain⟨y,hy⟩:=Int.eq_ofNat_of_zero_le hnn;rw[hy]at h3 ⊢;rw[wrap64_in (n:=(p:Int)+(y:Int)) (by omega) (by omega),← Int.natCast_add]
 have hseg:=zUh l (Nat.le_add_right p y)
 have lseg:=Nd.ws_len ((l.take (p+y)).drop p)
 have cseg:=Nd.cnts_ws ((l.take (p+y)).drop p)
 have hsp:∀ by':List Nd,by'.length<=1073741824->zBK l (p:Int) ((p+y:Nat):Int) by'=some (splS l p (p+y) by'):=fun by' hby=>zS9 l by' p (p+y) (by omega) (by omega) (by omega) hby
 rcases hf with ⟨rfl | rfl,h0⟩ | ⟨rfl | rfl,hm,⟨v,s,z,rfl,rfl,hvv,hz,hzk⟩,_⟩ | ⟨rfl,h0⟩
 ·obtain rfl:y=0 :=(by have:zDj 1 m nodes=0:=rfl; omega);simp only[beq_self_eq_true,cond_true,Nat.add_zero]at hsp ⊢;rw[hsp nodes (by omega)]
  exact⟨_,0,rfl,.ins (by omega)⟩
 ·obtain rfl:y=nodes.length :=(by have:zDj 2 m nodes=(nodes.length:Int):=rfl; omega);simp only[show((2:Int) == 1)=false from rfl,cond_false,beq_self_eq_true,cond_true,Int.toNat_natCast]
  rw[zDr ⟨by omega,by omega,by omega⟩]
  obtain⟨r,g1,g2⟩:=(zIw n).2 ((l.take (p+nodes.length)).drop p) nodes (by omega) (by omega)
  rw[g1]
  simp only[Option.bind_some]
  cases r with
  | false=>exact⟨[],7,rfl,.del_no (by omega) fun e=>by have:=g2.2 e; cases this⟩
  | true =>
   simp only[Bool.not_true,cond_false,hsp [] (by simp),Option.bind_some]
   exact⟨_,0,rfl,.del (by omega) (g2.1 rfl)⟩
 ·obtain rfl:m=(y:Int):=hy;have hs:=(List.getElem?_eq_some_iff.1 hz).1;have hfe:=zO9 v s ((l.take (p+y)).drop p) hs (by have:=Nd.ws_len v.kids; have:=zFH v; simp only[Nd.ws]at lb hb; omega) (by omega)
  have hv0:at? [v] (0:Int)=some v:=rfl;obtain⟨v1,v2,v3,v4⟩:=v;simp only[show((3:Int) == 1)=false from rfl,show((3:Int) == 2)=false from rfl,cond_false,beq_self_eq_true,cond_true,Int.toNat_natCast,hv0,Option.bind_some]
  rw[zDr ⟨by omega,by omega,by omega⟩,hfe]
  simp only[Option.bind_some]
  rw[hsp _ (by simp)]
  exact⟨_,0,rfl,.wrap (by omega)⟩
 ·obtain rfl:y=1 :=(by have:zDj 4 m [v]=1:=rfl; omega);have hs:=(List.getElem?_eq_some_iff.1 hz).1;have hv0:at? [v] (0:Int)=some v:=rfl;have hpl:p<l.length :=(by omega);have hit:l[p]? = some l[p]:=List.getElem?_eq_getElem hpl;have hia:at? l (p:Int)=some l[p]:=zBc hpl;generalize l[p]=it at hit hia;have hiw:=Nd.w_mem (List.mem_of_getElem? hit)
  have hic:=Nd.cnt_w it;have hlk:=Nd.ws_len v.kids;have hwv:=zFH v;simp only[Nd.ws]at hb hn;have hfe:∀ l':List Nd,l'.length<=1073741824->zC6 v (s:Int) l'=some (zGH v s l'):=fun l' hl'=>zO9 v s l' hs (by omega) hl'
  have heq:∀ x:Nd,∃ r,zBe n it x=some r/\(r=true↔it=x):=fun x=>(zIw n).1 it x (by omega) (by omega)
  obtain⟨i1,i2,i3,i4⟩:=it;have hwi:(Nd.mk i1 i2 i3 i4).w=i2.length+Nd.ws i4+1:=rfl;have hlk4:=Nd.ws_len i4;obtain⟨v1,v2,v3,v4⟩:=v;simp only[show((4:Int) == 1)=false from rfl,show((4:Int) == 2)=false from rfl,show((4:Int) == 3)=false from rfl,cond_false,beq_self_eq_true,cond_true,hia,Option.bind_some,hv0]
  by_cases hsl:(i4.length:Int)<=(s:Int)
  ·rw[zAN hsl]
   refine⟨[],7,rfl,.unwrap_no hit fun z' hz'=>?_⟩
   have:=(List.getElem?_eq_some_iff.1 hz').1;simp only[Nd.kids]at this
   omega
  rw[zAL hsl]
  have hsi:s<i4.length :=(by omega);have hzi:i4[s]? = some i4[s]:=List.getElem?_eq_getElem hsi;have hza:at? i4 (s:Int)=some i4[s]:=zBc hsi;generalize i4[s]=z' at hzi hza;have hzw:=Nd.w_mem (List.mem_of_getElem? hzi)
  have hzw2:=zFH z';have hzl:=Nd.ws_len z'.kids;have hfe':=hfe z'.kids (by omega)
  obtain⟨rb,g1,g2⟩:=heq (zGH (.mk v1 v2 v3 v4) s z'.kids)
  have hsp':=hsp z'.kids (by omega)
  obtain⟨z1,z2,z3,z4⟩:=z';simp only[Nd.kids]at hfe' hsp' g1 g2;simp only[cond_false,hza,Option.bind_some]
  by_cases hmz:(z4.length:Int)=m
  ·have:((z4.length:Int) != m)=false :=(by unfold bne; rw[beq_iff_eq.2 hmz]; rfl);rw[this]
   simp only[cond_false,hfe',Option.bind_some]
   have hfx:zGH (.mk v1 v2 v3 v4) s z4 = .mk v1 v2 v3 (v4.set s (rowN z4)):=rfl;rw[hfx]at g1 g2 ⊢;simp only[Option.bind_some,g1]
   cases rb with
   | false =>
    refine⟨[],7,rfl,.unwrap_no hit fun z'' hz'' hm'' he=>?_⟩
    simp only[Nd.kids]at hz'';rw[hzi]at hz'';cases hz'';have:=g2.2 he;cases this
   | true =>
    simp only[Bool.not_true,cond_false,hsp',Option.bind_some]
    exact⟨_,0,rfl,.unwrap (z:=.mk z1 z2 z3 z4) hit hzi hmz (g2.1 rfl)⟩
  ·have:((z4.length:Int) != m)=true:=bne_iff_ne.2 hmz;rw[this]
   refine⟨[],7,rfl,.unwrap_no hit fun z'' hz'' hm'' he=>?_⟩
   simp only[Nd.kids]at hz'';rw[hzi]at hz'';cases hz'';exact hmz hm''
 ·obtain rfl:y=1 :=(by have:zDj 5 m nodes=1:=rfl; omega);have hpl:p<l.length :=(by omega);have hit:l[p]? = some l[p]:=List.getElem?_eq_getElem hpl;have hia:at? l (p:Int)=some l[p]:=zBc hpl;generalize l[p]=it at hit hia;obtain⟨i1,i2,i3,i4⟩:=it;simp only[show((5:Int) == 1)=false from rfl,show((5:Int) == 2)=false from rfl,show((5:Int) == 3)=false from rfl,show((5:Int) == 4)=false from rfl,cond_false,hia,Option.bind_some,zRa]
  cases hlf:zRK i1 with
  | false=>exact⟨[],7,rfl,.set_no hit fun h=>by have:=h.1; simp only[Nd.kind]at this; rw[hlf]at this; cases this⟩
  | true =>
   simp only[cond_true]
   cases ht:i2 == old with
   | false=>exact⟨[],7,rfl,.set_no hit fun h=>beq_eq_false_iff_ne.1 ht h.2⟩
   | true =>
    simp only[cond_true,hsp [Nd.mk i1 text i3 i4] (by simp),Option.bind_some]
    exact⟨_,0,rfl,.set (it:=.mk i1 i2 i3 i4) hit hlf (eq_of_beq ht)⟩
theorem zR3 {t z:Nd}{p:List Int} (h:Fd t p z) (l:List Nd):∀ n,p.length<n->t.cnt<=4294967296->zEB n t p l=some (putL t p (rowN l)):=by
 induction h with
 | nil t =>
  intro n hn _;obtain⟨n,rfl⟩:∃ m,n=m+1:=⟨n - 1,by omega⟩
  rw[zHo]
  obtain⟨t1,t2,t3,t4⟩:=t;unfold zEB
  rfl
 | @step k tx c ks i k2 tx2 c2 ks2 s z r' p hi hs _ ih =>
  intro n hn hc;obtain⟨n,rfl⟩:∃ m,n=m+1:=⟨n - 1,by omega⟩
  have n1:=Nd.cnts_mem (List.mem_of_getElem? hi)
  have n2:=Nd.cnts_mem (List.mem_of_getElem? hs)
  have l1:=Nd.cnts_len ks;have l2:=Nd.cnts_len ks2;simp only[Nd.cnt]at hc n1;have ih:=ih n (by simp only[List.length_cons]at hn; omega) (by omega)
  rw[zEk hi hs]
  have e1:((((i:Int)::(s:Int)::p).length:Int) == 0)=false:=zCI (by simp only[List.length_cons]; omega)
  have e2:at? ((i:Int)::(s:Int)::p) (0:Int)=some (i:Int):=rfl;have e3:at? ((i:Int)::(s:Int)::p) (1:Int)=some (s:Int):=rfl;have e4:(((((i:Int)::(s:Int)::p)).take ((((i:Int)::(s:Int)::p)).length:Int).toNat).drop (2:Int).toNat)=p:=by
   rw[Int.toNat_natCast,List.take_length]; rfl
  obtain⟨z1,z2,z3,z4⟩:=z;unfold zEB;simp only[e1,e2,e3,cond_false,Option.bind_some,zKX hi,zKX hs,e4]
  rw[zDr ⟨by omega,by simp only[List.length_cons]; omega,by omega⟩,ih]
  generalize putL (Nd.mk z1 z2 z3 z4) p (rowN l)=Z;obtain⟨q1,q2,q3,q4⟩:=Z;simp only[Option.bind_some]
  rw[zHp hs (by omega)]
  simp only[Option.bind_some]
  rw[zHp hi (by omega)]
  rfl
theorem zPN (n:Nat) (t:Nd) (o:Op8) (hn:200000000<n) (ht:t.w<=50000000) (hb:Nd.ws o.nodes<=2000000) (hx:o.2.2.2.2.2.2.2.length<=2000000) (hr:o.2.1.length<=2000000):∃ t' e,zEi n t o=some (t',e)/\App t o t' e:=by
 obtain⟨k,row,a,m,nodes,slot,old,text⟩:=o;simp only[Op8.nodes]at hb;dsimp only at hx hr;have v1:=zDQ n t (by omega) (by omega)
 obtain⟨b,f1,f2⟩:=zOe n k row a m nodes slot old text (by omega) (by omega)
 have e1:=zR1 n t row (by omega) v1;have hput:∀ r l,Fd t row r->zEB n t row l=some (putL t row (rowN l)):=fun r l h=>zR3 h l n (by omega) (by have:=Nd.cnt_w t; omega)
 have hval:∀ r l,Fd t row r->Nd.ws l<=5000000+r.w->zA7 n (putL t row (rowN l))=some (zAJ (putL t row (rowN l))):=fun r l h hl=>by
  have:=h.w (rowN l)
  have e:(rowN l).w=Nd.ws l+1 :=(by simp[rowN,Nd.w]);exact zDQ n _ (by omega) (by omega)
 obtain⟨t1,t2,t3,t4⟩:=t;unfold zEi;simp only[v1,f1,e1,Option.bind_some]
 cases hv:zAJ (.mk t1 t2 t3 t4) with
 | false=>exact⟨_,1,rfl,.arg hv⟩
 | true =>
  simp only[Bool.not_true,cond_false]
  cases b with
  | false=>exact⟨_,4,rfl,.form hv fun h=>by have:=f2.2 h; cases this⟩
  | true =>
   have hf:=f2.1 rfl;simp only[Bool.not_true,cond_false,rowS,if_pos hv]
   cases hfd:zBl (.mk t1 t2 t3 t4) row with
   | none=>exact⟨_,8,rfl,.none hv hf hfd⟩
   | some r =>
    have hr':=zUv hfd;have hsm:=hr'.small;have hwr:=zFH r;obtain⟨l',e,c1,c2⟩:=zOf n r.kids k row a m nodes slot old text hf (by omega) (by omega) (by omega)
    obtain⟨r1,r2,r3,r4⟩:=r;simp only[Nd.kids]at c1 c2 hwr;simp only[Option.bind_some,show((0:Int) != 0)=false from rfl,cond_false,c1]
    by_cases he:e=0
    ·subst he;have hcw:=c2.w;have hv2:=hval _ l' hr' (by omega)
     simp only[show((0:Int) != 0)=false from rfl,cond_false,hput _ l' hr',Option.bind_some]
     cases hvo:zAJ (putL (.mk t1 t2 t3 t4) row (rowN l')) with
     | false =>
      have hL:=App.limit (t:=.mk t1 t2 t3 t4) (o:=(k,row,a,m,nodes,slot,old,text)) hv hf hr' c2 hvo;generalize putL (Nd.mk t1 t2 t3 t4) row (rowN l')=Z at *;obtain⟨q1,q2,q3,q4⟩:=Z;simp only[Option.bind_some,hv2,hvo,Bool.not_false,cond_true]
      exact⟨_,6,rfl,hL⟩
     | true =>
      have hO:=App.ok (t:=.mk t1 t2 t3 t4) (o:=(k,row,a,m,nodes,slot,old,text)) hv hf hr' c2 hvo;dsimp only at hO;generalize putL (Nd.mk t1 t2 t3 t4) row (rowN l')=Z at *;obtain⟨q1,q2,q3,q4⟩:=Z;simp only[Option.bind_some,hv2,hvo,Bool.not_true,cond_false]
      exact⟨_,0,rfl,hO⟩
    ·have:(e != 0)=true:=bne_iff_ne.2 he;simp only[this,cond_true]
     exact⟨_,e,rfl,.chg (t:=.mk t1 t2 t3 t4) (o:=(k,row,a,m,nodes,slot,old,text)) hv hf hr' c2 he⟩
theorem Chg.det {l l1 l2:List Nd}{o:Op8}{e1 e2:Int} (hf:FormP o) (h1:Chg l o l1 e1) (h2:Chg l o l2 e2):l1=l2/\e1=e2:=by
 obtain⟨k,row,a,m,nodes,slot,old,text⟩:=o;have hnn:=zQv hf;cases h1 with
 | range h =>
  cases h2 with
  | range=>exact⟨rfl,rfl⟩
  | ins h'=>simp only[zDj,if_true]at h; omega
  | del h'=>simp only[zDj]at h; simp at h; omega
  | del_no h'=>simp only[zDj]at h; simp at h; omega
  | wrap h'=>simp only[zDj]at h; simp at h; omega
  | unwrap h'=>have:=(List.getElem?_eq_some_iff.1 h').1; simp only[zDj]at h; simp at h; omega
  | unwrap_no h'=>exact⟨rfl,by have:=(List.getElem?_eq_some_iff.1 h').1; simp only[zDj]at h; simp at h; omega⟩
  | set h'=>have:=(List.getElem?_eq_some_iff.1 h').1; simp only[zDj]at h; simp at h; omega
  | set_no h'=>exact⟨rfl,by have:=(List.getElem?_eq_some_iff.1 h').1; simp only[zDj]at h; simp at h; omega⟩
 | ins h' =>
  generalize ha:((_:Nat):Int)=a' at h2;cases h2 with
  | range h=>simp only[zDj,if_true]at h; omega
  | ins h=>obtain rfl:=Int.ofNat.inj ha; exact⟨rfl,rfl⟩
 | del h' he =>
  generalize ha:((_:Nat):Int)=a' at h2;cases h2 with
  | range h=>simp only[zDj]at h; simp at h; omega
  | del h=>obtain rfl:=Int.ofNat.inj ha; exact⟨rfl,rfl⟩
  | del_no h he'=>obtain rfl:=Int.ofNat.inj ha; exact absurd he he'
 | del_no h' he =>
  generalize ha:((_:Nat):Int)=a' at h2;cases h2 with
  | range h=>simp only[zDj]at h; simp at h; omega
  | del h he'=>obtain rfl:=Int.ofNat.inj ha; exact absurd he' he
  | del_no h he'=>exact⟨rfl,rfl⟩
 | wrap h' =>
  generalize ha:((_:Nat):Int)=a' at h2;generalize hm:((_:Nat):Int)=m' at h2;generalize hs:((_:Nat):Int)=s' at h2;cases h2 with
  | range h=>simp only[zDj]at h; simp at h; omega
  | wrap h=>obtain rfl:=Int.ofNat.inj ha; obtain rfl:=Int.ofNat.inj hm; obtain rfl:=Int.ofNat.inj hs; exact⟨rfl,rfl⟩
 | unwrap h' hz hm he =>
  generalize ha:((_:Nat):Int)=a' at h2;generalize hs:((_:Nat):Int)=s' at h2;cases h2 with
  | range h=>have:=(List.getElem?_eq_some_iff.1 h').1; simp only[zDj]at h; simp at h; omega
  | unwrap h hz2 =>
   obtain rfl:=Int.ofNat.inj ha; obtain rfl:=Int.ofNat.inj hs
   rw[h']at h; cases h
   rw[hz]at hz2; cases hz2
   exact⟨rfl,rfl⟩
  | unwrap_no h hz2 =>
   obtain rfl:=Int.ofNat.inj ha; obtain rfl:=Int.ofNat.inj hs
   rw[h']at h; cases h
   exact absurd he (hz2 _ hz hm)
 | unwrap_no h' hz =>
  generalize ha:((_:Nat):Int)=a' at h2;generalize hs:((_:Nat):Int)=s' at h2;cases h2 with
  | range h=>exact⟨rfl,by have:=(List.getElem?_eq_some_iff.1 h').1; simp only[zDj]at h; simp at h; omega⟩
  | unwrap h hz2 hm he =>
   obtain rfl:=Int.ofNat.inj ha; obtain rfl:=Int.ofNat.inj hs
   rw[h']at h; cases h
   exact absurd he (hz _ hz2 hm)
  | unwrap_no h hz2=>exact⟨rfl,rfl⟩
 | set h' hl he =>
  generalize ha:((_:Nat):Int)=a' at h2;cases h2 with
  | range h=>have:=(List.getElem?_eq_some_iff.1 h').1; simp only[zDj]at h; simp at h; omega
  | set h=>obtain rfl:=Int.ofNat.inj ha; rw[h']at h; cases h; exact⟨rfl,rfl⟩
  | set_no h hl2=>obtain rfl:=Int.ofNat.inj ha; rw[h']at h; cases h; exact absurd ⟨hl,he⟩ hl2
 | set_no h' hl =>
  generalize ha:((_:Nat):Int)=a' at h2;cases h2 with
  | range h=>exact⟨rfl,by have:=(List.getElem?_eq_some_iff.1 h').1; simp only[zDj]at h; simp at h; omega⟩
  | set h hl2 he=>obtain rfl:=Int.ofNat.inj ha; rw[h']at h; cases h; exact absurd ⟨hl2,he⟩ hl
  | set_no h hl2=>exact⟨rfl,rfl⟩
theorem Fd.det {t r1 r2:Nd}{p:List Int} (h1:Fd t p r1) (h2:Fd t p r2):r1=r2:=Option.some.inj (h1.find.symm.trans h2.find)
theorem App.det {t t1 t2:Nd}{o:Op8}{e1 e2:Int} (h1:App t o t1 e1) (h2:App t o t2 e2):t1=t2/\e1=e2:=by
 have tf:∀ {b:Bool},b=true->b=false->False:=fun h h'=>by rw[h]at h'; cases h'
 have fn:∀ {r:Nd} {p:List Int},Fd t p r->zBl t p=Option.none->False:=fun h h'=>by rw[h.find]at h'; cases h'
 cases h1 with
 | arg h=>cases h2 with
  | arg h'=>exact⟨rfl,rfl⟩
  | form h'=>exact(tf h' h).elim
  | none h'=>exact(tf h' h).elim
  | chg h'=>exact(tf h' h).elim
  | limit h'=>exact(tf h' h).elim
  | ok h'=>exact(tf h' h).elim
 | form h hf=>cases h2 with
  | arg h'=>exact(tf h h').elim
  | form h'=>exact⟨rfl,rfl⟩
  | none h' hf'=>exact absurd hf' hf
  | chg h' hf'=>exact absurd hf' hf
  | limit h' hf'=>exact absurd hf' hf
  | ok h' hf'=>exact absurd hf' hf
 | none h hf hn=>cases h2 with
  | arg h'=>exact(tf h h').elim
  | form h' hf'=>exact absurd hf hf'
  | none=>exact⟨rfl,rfl⟩
  | chg h' hf' hr=>exact(fn hr hn).elim
  | limit h' hf' hr=>exact(fn hr hn).elim
  | ok h' hf' hr=>exact(fn hr hn).elim
 | chg h hf hr hc he=>cases h2 with
  | arg h'=>exact(tf h h').elim
  | form h' hf'=>exact absurd hf hf'
  | none h' hf' hn=>exact(fn hr hn).elim
  | chg h' hf' hr' hc' he'=>obtain rfl:=hr.det hr'; exact⟨rfl,(hc.det hf hc').2⟩
  | limit h' hf' hr' hc'=>obtain rfl:=hr.det hr'; exact absurd (hc.det hf hc').2 he
  | ok h' hf' hr' hc'=>obtain rfl:=hr.det hr'; exact absurd (hc.det hf hc').2 he
 | limit h hf hr hc hv=>cases h2 with
  | arg h'=>exact(tf h h').elim
  | form h' hf'=>exact absurd hf hf'
  | none h' hf' hn=>exact(fn hr hn).elim
  | chg h' hf' hr' hc' he'=>obtain rfl:=hr.det hr'; exact absurd (hc'.det hf hc).2 he'
  | limit h' hf' hr' hc'=>exact⟨rfl,rfl⟩
  | ok h' hf' hr' hc' hv'=>obtain rfl:=hr.det hr'; obtain rfl:=(hc.det hf hc').1; exact(tf hv' hv).elim
 | ok h hf hr hc hv=>cases h2 with
  | arg h'=>exact(tf h h').elim
  | form h' hf'=>exact absurd hf hf'
  | none h' hf' hn=>exact(fn hr hn).elim
  | chg h' hf' hr' hc' he'=>obtain rfl:=hr.det hr'; exact absurd (hc'.det hf hc).2 he'
  | limit h' hf' hr' hc' hv'=>obtain rfl:=hr.det hr'; obtain rfl:=(hc.det hf hc').1; exact(tf hv hv').elim
  | ok h' hf' hr' hc' hv'=>obtain rfl:=hr.det hr'; obtain rfl:=(hc.det hf hc').1; exact⟨rfl,rfl⟩
def lens:List (List Nd)->Nat
 | []=>0
 | a::L=>a.length+lens L
theorem zPk {L:List (List Nd)}{i:Nat} (h:i<L.length):lens (L.drop i)=(L[i]).length+lens (L.drop (i+1)):=by
 rw[List.drop_eq_getElem_cons h]; rfl
theorem zSm {L:List (List Nd)} (hl:L.length<=1073741824):∀ (k i s:Nat),L.length - i<k->i<=L.length->s+lens (L.drop i)<=1073741824->zAS L k (i:Int) (s:Int)=some ((s+lens (L.drop i):Nat):Int)
 | 0,i,s,h,_,_=>by omega
 | k+1,i,s,hk,hi,hs=>by
  unfold zAS
  by_cases h:i<L.length
  ·have hd:=zPk h;rw[zAN (Int.ofNat_lt.2 h),cond_true,zBc h]
   simp only[Option.bind_some]
   rw[wrap64_in (n:=(s:Int)+((L[i]).length:Int)) (by omega) (by omega),zAL (by omega),cond_false,zA4 (by omega),← Int.natCast_add,zSm hl k (i+1) _ (by omega) (by omega) (by omega),hd]
   congr 2; omega
  ·rw[zAL (by omega),cond_false]
   have:L.drop i=[]:=List.drop_eq_nil_iff.2 (by omega)
   rw[this]; rfl
theorem zSn {L:List (List Nd)} (hl:L.length<=1073741824):∀ (k i:Nat) (s:List Nd),L.length - i<k->i<=L.length->s.length+lens (L.drop i)<=1073741824->zAT L k (i:Int) s=some (s++(L.drop i).flatten)
 | 0,i,s,h,_,_=>by omega
 | k+1,i,s,hk,hi,hs=>by
  unfold zAT
  by_cases h:i<L.length
  ·have hd:=zPk h;rw[zAN (Int.ofNat_lt.2 h),cond_true,zBc h]
   simp only[Option.bind_some]
   rw[zDr (by omega),zA4 (by omega),zSn hl k (i+1) _ (by omega) (by omega) (by rw[List.length_append]; omega),List.drop_eq_getElem_cons h,List.flatten_cons,List.append_assoc]
  ·rw[zAL (by omega),cond_false]
   have:L.drop i=[]:=List.drop_eq_nil_iff.2 (by omega)
   rw[this]; simp
theorem zSo (n:Nat) (L:List (List Nd)) (hn:L.length<n) (hl:L.length<=1073741824) (hs:lens L<=1073741824):zBx n L=some L.flatten:=by
 have e1:=zSm hl n 0 0 (by omega) (by omega) (by simpa using hs)
 have e2:=zSn hl n 0 [] (by omega) (by omega) (by simpa using hs)
 rw[show((0:Nat):Int)=0 from rfl]at e1 e2;unfold zBx zDD;simp only[e1,Option.bind_some,List.drop_zero,Nat.zero_add]
 simp only[List.drop_zero,List.nil_append]at e2;rw[zDr ⟨by omega,by omega⟩]
 simp only[Option.bind_some,e2]
theorem zUx (n:Nat) (k:Int) (row:List Int) (p y:Nat) (m:Int) (nodes:List Nd) (slot:Int) (old text:List UInt8) (l b:List Nd) (hn:10<n) (hp:p+y<=l.length) (hl:l.length<=500000000) (hb:b.length<=500000000) :
  zAW n ((k,row,(p:Int),m,nodes,slot,old,text),l) (y:Int) b=some (splS l p (p+y) b):=by
 unfold zAW;dsimp only;rw[zDr ⟨by omega,by omega,by omega⟩,wrap64_in (n:=(p:Int)+(y:Int)) (by omega) (by omega),← Int.natCast_add,zDr ⟨by omega,by omega,by omega⟩]
 have e1:(l.take (p:Int).toNat).drop (0:Int).toNat=l.take p :=(by simp);have e2:(l.take (l.length:Int).toNat).drop ((p+y:Nat):Int).toNat=l.drop (p+y) :=(by rw[Int.toNat_natCast,Int.toNat_natCast,List.take_length]);rw[e1,e2,zSo n _ (by simp; omega) (by simp) (by simp only[lens,List.length_take,List.length_drop]; omega)]
 simp only[Option.bind_some,splS,List.flatten_cons,List.flatten_nil,List.append_nil,List.append_assoc]
theorem zOi {l:List Nd}{it z:Nd}{s:Nat} (hl:zDM 1 l=true) (hit:it∈l) (hz:it.kids[s]? = some z):it.kind ≠ 1/\z=rowN z.kids:=by
 obtain⟨f1,f2⟩:=zF8 hl hit;have hk:(it.kind == 1)=false :=(by simpa using f2);obtain⟨i1,i2,i3,i4⟩:=it;simp only[Nd.kind]at hk;simp only[Nd.kids]at hz;obtain⟨g1,g2⟩:=zF8 (zK5 f1) (List.mem_of_getElem? hz)
 rw[hk]at g2;have hz1:z.kind=1:=by
  cases e:z.kind == 1 with
  | true=>exact eq_of_beq e
  | false=>rw[e]at g2; cases g2
 exact⟨beq_eq_false_iff_ne.1 hk,(zQ6 g1 hz1).1⟩
theorem zPe {l:List Nd}{it:Nd} (hl:zDM 1 l=true) (hit:it∈l):it.kind ≠ 1:=by
 obtain⟨_,f2⟩:=zF8 hl hit;exact beq_eq_false_iff_ne.1 (by simpa using f2)
theorem zIu {l:List Nd} (h:zAJ (rowN l)=true):zDM 1 l=true:=by
 have:=(zJe h).2;exact this
theorem zQX (v:Nd) (h:v.kind ≠ 1):zC0 v=some (v.kids.length:Int):=by
 obtain⟨a,b,c,d⟩:=v;unfold zC0;simp only[Nd.kind]at h;simp only[zCI h,cond_false,Nd.kids]
theorem zFC (n:Nat) (nodes:List Nd) (h:Nd.ws nodes+50<n) (hb:Nd.ws nodes<=67000000):zBL n nodes=some (zAJ (rowN nodes)):=by
 unfold zBL;dsimp only;rw[zB6 n _ (by simp only[Nd.w,List.length_nil]; omega) (by simp only[Nd.w,List.length_nil]; omega)]; rfl
theorem zOY (n:Nat) (l:List Nd) (slot:Int) (h:Nd.ws l+50<n) (hb:Nd.ws l<=67000000):∃ b,zCG n l slot=some b/\(b=true↔zQY l slot):=by
 unfold zCG;dsimp only;cases e1:((l.length:Int) != 1) with
 | true=>exact⟨false,rfl,(fun h=>by cases h),fun⟨v,s,z,h,_⟩=>by rw[h]at e1; cases e1⟩
 | false =>
  have hl:l.length=1:=by
   by_cases h:(l.length:Int)=1
   ·omega
   ·rw[bne_iff_ne.2 h]at e1; cases e1
  obtain⟨v,rfl⟩:=List.length_eq_one_iff.1 hl;have hv:=zFC n [v] h hb;have h0:at? [v] (0:Int)=some v:=rfl;simp only[cond_false,hv,Option.bind_some]
  cases hvb:zAJ (rowN [v]) with
  | false=>exact⟨false,rfl,(fun h=>by cases h),fun⟨v',s,z,h,_,h2,_⟩=>by cases h; rw[hvb]at h2; cases h2⟩
  | true =>
   have hsl:=zQX v (zPe (zIu hvb) List.mem_cons_self)
   obtain⟨a,b,c,d⟩:=v;simp only[Nd.kids]at hsl;simp only[Bool.not_true,cond_false]
   by_cases h1:slot<0
   ·rw[zAN h1]
    exact⟨false,rfl,(fun h=>by cases h),fun⟨v,s,z,h,hs,_⟩=>by omega⟩
   ·rw[zAL h1]
    simp only[cond_false,h0,Option.bind_some,hsl]
    by_cases h2:(d.length:Int)<=slot
    ·rw[zAN h2]
     refine⟨false,rfl,(fun h=>by cases h),fun⟨v,s,z,h,hs,_,hz,_⟩=>?_⟩
     cases h;have:=(List.getElem?_eq_some_iff.1 hz).1;simp only[Nd.kids]at this
     omega
    ·rw[zAL h2]
     obtain⟨p,rfl,hp,hg⟩:=zT8 (l:=d) (i:=slot) (by omega) (by omega)
     have hz:d[p]? = some d[p]:=List.getElem?_eq_getElem hp;rw[hg]
     generalize d[p]=z at hz;obtain⟨x1,x2,x3,x4⟩:=z;simp only[cond_false,Option.bind_some]
     refine⟨_,rfl,fun h=>⟨_,p,_,rfl,rfl,hvb,hz,?_⟩,fun⟨v,s,z,h,hs,_,hz',hk⟩=>?_⟩
     ·have:=eq_of_beq h;exact List.eq_nil_of_length_eq_zero (by simp only[Nd.kids]; omega)
     ·cases h;obtain rfl:p=s :=(by omega);simp only[Nd.kids]at hz';rw[hz]at hz';cases hz';simp only[Nd.kids]at hk;subst hk
      rfl
theorem zMd (n:Nat) (k:Int) (row:List Int) (a m:Int) (nodes:List Nd) (slot:Int) (old text:List UInt8) (h:Nd.ws nodes+50<n) (hb:Nd.ws nodes<=67000000) :
  ∃ b,zDW n (k,row,a,m,nodes,slot,old,text)=some b/\(b=true↔FormP (k,row,a,m,nodes,slot,old,text)):=by
 have hv:=zFC n nodes h hb;obtain⟨tb,t1,t2⟩:=zOY n nodes slot h hb;have hlen:decide (0<(nodes.length:Int))=true↔nodes ≠ [] :=(by cases nodes <;> simp);have hlen0:((nodes.length:Int) == 0)=true↔nodes=[] :=(by cases nodes <;> simp <;> omega);have htx:(bif (!(old == [])) then some true else some (!(text == [])):Option Bool)=some (!((old == [])&&(text == []))) :=(by cases old == [] <;> cases text == [] <;> rfl);unfold zDW;simp only[hv,t1,htx,Option.bind_some,FormP]
 by_cases k12:k=1∨k=2
 ·have e:(bif (k == 1) then some (k == 1) else some (k == 2):Option Bool)=some true:=by rcases k12 with rfl | rfl <;> rfl
  have hk:¬ (k=3∨k=4)/\¬ k=5 :=(by omega);rw[e]
  simp only[Option.bind_some,cond_true,k12,hk.1,hk.2,true_and,false_and,or_false]
  rw[← hlen]
  generalize decide (0<(nodes.length:Int))=b1;generalize zAJ (rowN nodes)=b2;cases e1:m == 0 <;> simp only[cond_true,cond_false,Option.bind_some]
  ·exact⟨false,rfl,by simp[beq_eq_false_iff_ne.1 e1]⟩
  cases e2:slot == 0 <;> simp only[cond_true,cond_false,Option.bind_some]
  ·exact⟨false,rfl,by simp[beq_eq_false_iff_ne.1 e2]⟩
  cases e3:old == [] <;> simp only[Bool.false_and,Bool.true_and,Bool.not_false,Bool.not_not,cond_true,cond_false,Option.bind_some]
  ·exact⟨false,rfl,by simp[beq_eq_false_iff_ne.1 e3]⟩
  cases e4:text == [] <;> simp only[Bool.not_true,Bool.not_false,cond_true,cond_false,Option.bind_some]
  ·exact⟨false,rfl,by simp[beq_eq_false_iff_ne.1 e4]⟩
  rw[eq_of_beq e1,eq_of_beq e2,eq_of_beq e3,eq_of_beq e4]
  cases b1 <;> cases b2 <;> exact⟨_,rfl,by simp⟩
 ·have e:(bif (k == 1) then some (k == 1) else some (k == 2):Option Bool)=some false:=by
   rw[zCI (fun h=>k12 (.inl h)),zCI (fun h=>k12 (.inr h))]; rfl
  rw[e]
  simp only[Option.bind_some,cond_false,k12,false_and,false_or]
  by_cases k34:k=3∨k=4
  ·have e:(bif (k == 3) then some (k == 3) else some (k == 4):Option Bool)=some true:=by rcases k34 with rfl | rfl <;> rfl
   have hk:¬ k=5 :=(by omega);rw[e]
   simp only[Option.bind_some,cond_true,k34,hk,true_and,false_and,or_false]
   rw[← t2]
   by_cases hm:0<=m
   ·rw[zAN hm]
    simp only[cond_true]
    cases e3:old == [] <;> simp only[Bool.false_and,Bool.true_and,Bool.not_false,Bool.not_not,cond_true,cond_false,Option.bind_some]
    ·exact⟨false,rfl,by simp[beq_eq_false_iff_ne.1 e3]⟩
    cases e4:text == [] <;> simp only[Bool.not_true,Bool.not_false,cond_true,cond_false,Option.bind_some]
    ·exact⟨false,rfl,by simp[beq_eq_false_iff_ne.1 e4]⟩
    rw[eq_of_beq e3,eq_of_beq e4]
    exact⟨_,rfl,by simp[hm]⟩
   ·rw[zAL hm]
    exact⟨false,rfl,by simp[hm]⟩
  ·have e:(bif (k == 3) then some (k == 3) else some (k == 4):Option Bool)=some false:=by
    rw[zCI (fun h=>k34 (.inl h)),zCI (fun h=>k34 (.inr h))]; rfl
   rw[e]
   simp only[Option.bind_some,cond_false,k34,false_and,false_or]
   by_cases k5:k=5
   ·subst k5;simp only[beq_self_eq_true,cond_true,Option.bind_some,true_and]
    rw[← hlen0]
    generalize ((nodes.length:Int) == 0)=b1;cases e1:m == 0 <;> simp only[cond_true,cond_false,Option.bind_some]
    ·exact⟨false,rfl,by simp[beq_eq_false_iff_ne.1 e1]⟩
    cases e2:slot == 0 <;> simp only[cond_true,cond_false,Option.bind_some]
    ·exact⟨false,rfl,by simp[beq_eq_false_iff_ne.1 e2]⟩
    rw[eq_of_beq e1,eq_of_beq e2]
    cases b1 <;> simp only[cond_true,cond_false,Option.bind_some]
    ·exact⟨false,rfl,by simp⟩
    cases e0:old == text <;> simp only[Bool.not_true,Bool.not_false]
    ·exact⟨true,rfl,by simp[beq_eq_false_iff_ne.1 e0]⟩
    ·exact⟨false,rfl,by simp[eq_of_beq e0]⟩
   ·rw[zCI k5]
    exact⟨false,rfl,by simp[k5]⟩
theorem zSt (k:Int) (row:List Int) (a m:Int) (nodes:List Nd) (slot:Int) (old text:List UInt8) (l:List Nd) (hl:l.length<=1073741824) :
  zBF ((k,row,a,m,nodes,slot,old,text),l)=some (if a<0∨(l.length:Int)<a∨(l.length:Int) - a<zDj k m nodes then 2 else 0):=by
 unfold zBF;dsimp only;rw[zRj]
 simp only[Option.bind_some]
 by_cases h1:a<0
 ·rw[zAN h1,if_pos (.inl h1)]; rfl
 rw[zAL h1]
 by_cases h2:(l.length:Int)<a
 ·rw[zAN h2,if_pos (.inr (.inl h2))]; rfl
 rw[zAL h2,wrap64_in (n:=(l.length:Int) - a) (by omega) (by omega)]
 by_cases h3:(l.length:Int) - a<zDj k m nodes
 ·rw[zAN h3,if_pos (.inr (.inr h3))]; rfl
 rw[zAL h3,if_neg (fun h=>h.elim h1 fun h=>h.elim h2 h3)]; rfl
theorem zTt {v it z:Nd}{s:Nat}{y:Nd} (hv:v.kids[s]? = some y) (hy:y=rowN []) (hz:it.kids[s]? = some z) (hzr:z=rowN z.kids):Nd.mk it.kind it.text it.cols (it.kids.set s (rowN []))=v↔it=zGH v s z.kids:=by
 obtain⟨v1,v2,v3,v4⟩:=v;obtain⟨i1,i2,i3,i4⟩:=it;obtain⟨z1,z2,z3,z4⟩:=z;obtain⟨rfl,rfl,rfl,-⟩:=Nd.mk.inj hzr
 clear hzr
 simp only[Nd.kids]at hv hz;simp only[zGH,Nd.kind,Nd.text,Nd.cols,Nd.kids]
 subst hy
 constructor
 ·intro h;obtain⟨rfl,rfl,rfl,rfl⟩:=Nd.mk.inj h;rw[List.set_set]
  congr 1
  have:=zKt (y:=.mk 1 [] 0 z4) hz;rw[List.set_set]at this;exact this.symm
 ·intro h;obtain⟨rfl,rfl,rfl,rfl⟩:=Nd.mk.inj h;rw[List.set_set]
  congr 1
  have:=zKt (y:=rowN []) hv;rw[List.set_set]at this;exact this
theorem zK1 (n:Nat) (l:List Nd) (k:Int) (row:List Int) (a m:Int) (nodes:List Nd) (slot:Int) (old text:List UInt8) (hf:FormP (k,row,a,m,nodes,slot,old,text)) (hv:zDM 1 l=true) (hn:2 * Nd.ws l+2 * Nd.ws nodes+50<n) (ha:Nd.ws l<=60000000) (hb:Nd.ws nodes<=2000000) :
  ∃ l' e,zBO n ((k,row,a,m,nodes,slot,old,text),l)=some (l',e)/\Chg l (k,row,a,m,nodes,slot,old,text) l' e:=by
 have la:=Nd.ws_len l;have lb:=Nd.ws_len nodes;have cl:=Nd.cnts_ws l;have cb:=Nd.cnts_ws nodes;have hnn:=zQv hf;unfold zBO;simp only[zSt _ _ _ _ _ _ _ _ l (show l.length<=1073741824 by omega),Option.bind_some]
 by_cases hr:a<0∨(l.length:Int)<a∨(l.length:Int) - a<zDj k m nodes
 ·rw[if_pos hr]; exact⟨[],2,rfl,.range hr⟩
 rw[if_neg hr]
 simp only[show((0:Int) != 0)=false from rfl,cond_false]
 have h1:¬ a<0:=fun h=>hr (.inl h)
 have h2:¬ (l.length:Int)<a:=fun h=>hr (.inr (.inl h))
 have h3:¬ (l.length:Int) - a<zDj k m nodes:=fun h=>hr (.inr (.inr h))
 obtain⟨p,rfl⟩:=Int.eq_ofNat_of_zero_le (show 0<=a by omega)
 obtain⟨y,hy⟩:=Int.eq_ofNat_of_zero_le hnn;rw[hy]at h3;have hseg:=zUh l (Nat.le_add_right p y)
 have lseg:=Nd.ws_len ((l.take (p+y)).drop p)
 have cseg:=Nd.cnts_ws ((l.take (p+y)).drop p)
 have hj:∀ by':List Nd,by'.length<=500000000->zAW n ((k,row,(p:Int),m,nodes,slot,old,text),l) (y:Int) by'=some (splS l p (p+y) by'):=fun by' hby=>zUx n k row p y m nodes slot old text l by' (by omega) (by omega) (by omega) hby
 rcases hf with ⟨rfl | rfl,h0⟩ | ⟨rfl | rfl,hm,⟨v,s,z,rfl,rfl,hvv,hz,hzk⟩,_⟩ | ⟨rfl,h0⟩
 ·obtain rfl:y=0 :=(by have:zDj 1 m nodes=0:=rfl; omega);rw[show((0:Nat):Int)=0 from rfl]at hj;simp only[beq_self_eq_true,cond_true,zCf,hj nodes (by omega),Option.bind_some]
  exact⟨_,0,rfl,.ins (by omega)⟩
 ·obtain rfl:y=nodes.length :=(by have:zDj 2 m nodes=(nodes.length:Int):=rfl; omega);obtain⟨r,g1,g2⟩:=(zGt n).2 ((l.take (p+nodes.length)).drop p) nodes (by omega) (by omega)
  simp only[show((2:Int) == 1)=false from rfl,cond_false,beq_self_eq_true,cond_true,zCg]
  rw[wrap64_in (n:=(p:Int)+(nodes.length:Int)) (by omega) (by omega),← Int.natCast_add,zDr ⟨by omega,by omega,by omega⟩,Int.toNat_natCast,Int.toNat_natCast,g1]
  simp only[Option.bind_some]
  cases r with
  | false=>exact⟨[],7,rfl,.del_no (by omega) fun e=>by have:=g2.2 e; cases this⟩
  | true =>
   simp only[Bool.not_true,cond_false,hj [] (by simp),Option.bind_some]
   exact⟨_,0,rfl,.del (by omega) (g2.1 rfl)⟩
 ·obtain rfl:m=(y:Int):=hy;obtain⟨hvk,hzr⟩:=zOi (zIu hvv) List.mem_cons_self hz;rw[hzk]at hzr;have hv0:at? [v] (0:Int)=some v:=rfl;have hcv:=Nd.cnts_mem (List.mem_cons_self (a:=v) (l:=[]))
  have hd:zCj v=some v:=zDr ⟨by omega,fun e=>by rw[e]at hz; simp at hz⟩
  have hza:=zKX hz;have hcl:zDq ((l.take (p+y)).drop p)=some ((l.take (p+y)).drop p):=zDr (by omega)
  have hj':=hj [zGH v s ((l.take (p+y)).drop p)] (by simp)
  have hfx:zGH v s ((l.take (p+y)).drop p)=Nd.mk v.kind v.text v.cols (v.kids.set s (rowN ((l.take (p+y)).drop p))):=rfl;rw[hfx]at hj';have hC:=Chg.wrap (l:=l) (row:=row) (p:=p) (m:=y) (v:=v) (s:=s) (old:=old) (text:=text) (by omega)
  have hfx2:zGH v s (segS l p (p+y))=Nd.mk v.kind v.text v.cols (v.kids.set s (rowN ((l.take (p+y)).drop p))):=rfl;rw[hfx2]at hC;subst hzr;obtain⟨v1,v2,v3,v4⟩:=v;simp only[Nd.kind,Nd.text,Nd.cols,Nd.kids]at hza hj' hC;unfold rowN at hza;simp only[show((3:Int) == 1)=false from rfl,show((3:Int) == 2)=false from rfl,cond_false,beq_self_eq_true,cond_true,zCR,hv0,hd,Option.bind_some]
  rw[wrap64_in (n:=(p:Int)+(y:Int)) (by omega) (by omega),← Int.natCast_add,zDr ⟨by omega,by omega,by omega⟩,Int.toNat_natCast,Int.toNat_natCast,hcl]
  simp only[Option.bind_some,hza,Int.toNat_natCast]
  unfold rowN at hj' hC;rw[hj']
  exact⟨_,0,rfl,hC⟩
 ·obtain rfl:y=1 :=(by have:zDj 4 m [v]=1:=rfl; omega);obtain⟨hvk,hzr⟩:=zOi (zIu hvv) List.mem_cons_self hz;rw[hzk]at hzr;have hv0:at? [v] (0:Int)=some v:=rfl;have hpl:p<l.length :=(by omega);have hit:l[p]? = some l[p]:=List.getElem?_eq_getElem hpl;have hia:at? l (p:Int)=some l[p]:=zBc hpl;have hmem:=List.getElem_mem hpl;generalize l[p]=it at hit hia hmem;have hiw:=Nd.w_mem hmem;have hic:=Nd.cnt_w it;have hik:=zPe hv hmem;have hslots:=zQX it hik;have hdn:zBm it=some it:=zId (by omega)
  have hwi:=zFH it;have hlk4:=Nd.ws_len it.kids;simp only[show((4:Int) == 1)=false from rfl,show((4:Int) == 2)=false from rfl,show((4:Int) == 3)=false from rfl,cond_false,beq_self_eq_true,cond_true]
  have hnone:zBa ((4,row,(p:Int),m,[v],(s:Int),old,text),l)=if (it.kids.length:Int)<=(s:Int) then some ([],7) else none:=by
   unfold zBa;simp only[hia]
   by_cases h:(it.kids.length:Int)<=(s:Int)
   ·rw[if_pos h]
    obtain⟨i1,i2,i3,i4⟩:=it;simp only[Nd.kids]at h hslots;simp only[Option.bind_some,hdn,hslots,zAN h]; rfl
   ·rw[if_neg h]
    obtain⟨i1,i2,i3,i4⟩:=it;simp only[Nd.kids]at h hslots;simp only[Option.bind_some,hdn,hslots,zAL h]; rfl
  by_cases hsl:(it.kids.length:Int)<=(s:Int)
  ·have:zA6 n ((4,row,(p:Int),m,[v],(s:Int),old,text),l)=some ([],7):=by
    unfold zA6;rw[hnone,if_pos hsl]
   rw[this]
   refine⟨[],7,rfl,.unwrap_no hit fun z' hz'=>?_⟩
   have:=(List.getElem?_eq_some_iff.1 hz').1
   omega
  have hsi:s<it.kids.length :=(by omega);have hzi:it.kids[s]? = some it.kids[s]:=List.getElem?_eq_getElem hsi;generalize it.kids[s]=z' at hzi;obtain⟨_,hzr'⟩:=zOi hv hmem hzi;have hzw:=Nd.w_mem (List.mem_of_getElem? hzi)
  have hzw2:=zFH z';have hzl:=Nd.ws_len z'.kids;have hfi:=zTt hz hzr hzi hzr';have hws:=zLT (y:=rowN []) hzi;have hj':=hj z'.kids (by omega)
  rw[show((1:Nat):Int)=1 from rfl]at hj';have hcs:(Nd.mk it.kind it.text it.cols (it.kids.set s (rowN []))).cnt<=it.w+1:=by
   have h1:=Nd.cnt_w (Nd.mk it.kind it.text it.cols (it.kids.set s (rowN [])))
   have e:(rowN []).w=1:=rfl;simp only[Nd.w]at h1
   omega
  obtain⟨rb,g1,g2⟩:=(zGt n).1 (Nd.mk it.kind it.text it.cols (it.kids.set s (rowN []))) v (by omega) (by omega)
  have hdo:zCj it=some it:=zDr ⟨by omega,fun e=>by rw[e]at hzi; simp at hzi⟩
  have hza:=zKX hzi;have hkids:∃ l' e,zA9 n ((4,row,(p:Int),m,[v],(s:Int),old,text),l)=some (l',e)/\Chg l (4,row,(p:Int),m,[v],(s:Int),old,text) l' e:=by
   unfold zA9;obtain⟨i1,i2,i3,i4⟩:=it;obtain⟨v1,v2,v3,v4⟩:=v;obtain⟨z1,z2,z3,z4⟩:=z';obtain⟨rfl,rfl,rfl,-⟩:=Nd.mk.inj hzr';simp only[Nd.kind,Nd.text,Nd.cols,Nd.kids]at hza g1 hslots hj' hsl;simp only[hia,Option.bind_some,hdo,hslots,zAL hsl,cond_false,hza,hv0,Int.toNat_natCast]
   by_cases hmz:(z4.length:Int)=m
   ·have:((z4.length:Int) != m)=false :=(by unfold bne; rw[beq_iff_eq.2 hmz]; rfl);unfold rowN at g1;rw[this]
    simp only[cond_false,g1,Option.bind_some]
    cases rb with
    | false =>
     refine⟨[],7,rfl,.unwrap_no hit fun z'' hz'' hm'' he=>?_⟩
     rw[hzi]at hz'';cases hz'';have:=g2.2 (hfi.2 he)
     cases this
    | true =>
     simp only[Bool.not_true,cond_false,hj',Option.bind_some]
     exact⟨_,0,rfl,.unwrap (z:=.mk 1 [] 0 z4) hit hzi hmz (hfi.1 (g2.1 rfl))⟩
   ·have:((z4.length:Int) != m)=true:=bne_iff_ne.2 hmz;rw[this]
    refine⟨[],7,rfl,.unwrap_no hit fun z'' hz'' hm'' he=>?_⟩
    rw[hzi]at hz'';cases hz'';exact hmz hm''
  obtain⟨l',e,h4,h5⟩:=hkids;have:zA6 n ((4,row,(p:Int),m,[v],(s:Int),old,text),l)=some (l',e):=by
   unfold zA6;rw[hnone,if_neg hsl]
   exact h4
  rw[this]
  exact⟨l',e,rfl,h5⟩
 ·obtain rfl:y=1 :=(by have:zDj 5 m nodes=1:=rfl; omega);have hpl:p<l.length :=(by omega);have hit:l[p]? = some l[p]:=List.getElem?_eq_getElem hpl;have hia:at? l (p:Int)=some l[p]:=zBc hpl;generalize l[p]=it at hit hia;obtain⟨i1,i2,i3,i4⟩:=it;rw[show((1:Nat):Int)=1 from rfl]at hj;simp only[show((5:Int) == 1)=false from rfl,show((5:Int) == 2)=false from rfl,show((5:Int) == 3)=false from rfl,show((5:Int) == 4)=false from rfl,cond_false,zDc,hia,Option.bind_some,zRa]
  cases hlf:zRK i1 with
  | false=>exact⟨[],7,rfl,.set_no hit fun h=>by have:=h.1; simp only[Nd.kind]at this; rw[hlf]at this; cases this⟩
  | true =>
   simp only[cond_true,Option.bind_some]
   cases ht:i2 == old with
   | false=>exact⟨[],7,rfl,.set_no hit fun h=>beq_eq_false_iff_ne.1 ht h.2⟩
   | true =>
    simp only[Bool.not_true,cond_false,hj [Nd.mk i1 text i3 i4] (by simp),Option.bind_some]
    exact⟨_,0,rfl,.set (it:=.mk i1 i2 i3 i4) hit hlf (eq_of_beq ht)⟩
theorem zIT (n:Nat) (t:Nd) (o:Op8) (hn:200000000<n) (ht:t.w<=50000000) (hb:Nd.ws o.nodes<=2000000) (hx:o.2.2.2.2.2.2.2.length<=2000000):∃ t' e,zDN n t o=some (t',e)/\App t o t' e:=by
 obtain⟨k,row,a,m,nodes,slot,old,text⟩:=o;simp only[Op8.nodes]at hb;dsimp only at hx;have v1:=zB6 n t (by omega) (by omega)
 have ct:=Nd.cnt_w t;obtain⟨b,f1,f2⟩:=zMd n k row a m nodes slot old text (by omega) (by omega)
 have e1:=zQx n t row v1 (by omega)
 have hwith:∀ r l,Fd t row r->Nd.ws l<=5000000+r.w->zEg n t row (rowN l)=some (zQV t row (rowN l)):=fun r l h hl=>by
  have hs:=h.small;have hc:(rowN l).w=Nd.ws l+1 :=(by simp[rowN,Nd.w]);refine zPp n t row (rowN l) v1 (zB6 n _ (by omega) (by omega)) (fun z hz=>?_) (by omega) (by have:=Nd.cnt_w (rowN l); omega)
  obtain rfl:=h.det hz;have:=h.w (rowN l)
  exact zB6 n _ (by omega) (by omega)
 obtain⟨t1,t2,t3,t4⟩:=t;unfold zDN;simp only[v1,f1,e1,Option.bind_some]
 cases hv:zAJ (.mk t1 t2 t3 t4) with
 | false=>exact⟨_,1,rfl,.arg hv⟩
 | true =>
  simp only[Bool.not_true,cond_false]
  cases b with
  | false=>exact⟨_,4,rfl,.form hv fun h=>by have:=f2.2 h; cases this⟩
  | true =>
   have hf:=f2.1 rfl;simp only[Bool.not_true,cond_false,rowS,if_pos hv]
   cases hfd:zBl (.mk t1 t2 t3 t4) row with
   | none=>exact⟨_,8,rfl,.none hv hf hfd⟩
   | some r =>
    have hr':=zUv hfd;have hsm:=hr'.small;have hwr:=zFH r;have hvr:=hr'.valid hv;have hrr:=(zJe hvr).1;have hfr:=(zJe hvr).2;obtain⟨l',e,c1,c2⟩:=zK1 n r.kids k row a m nodes slot old text hf hfr (by omega) (by omega) (by omega)
    obtain⟨r1,r2,r3,r4⟩:=r;obtain⟨rfl,rfl,rfl,-⟩:=Nd.mk.inj hrr;simp only[Nd.kids]at c1 c2 hwr;simp only[Option.bind_some,show((0:Int) != 0)=false from rfl,cond_false,c1]
    by_cases he:e=0
    ·subst he;have hcw:=c2.w;have hw:=hwith _ l' hr' (by omega)
     unfold rowN at hw;simp only[show((0:Int) != 0)=false from rfl,cond_false,hw,Option.bind_some]
     cases hvo:zAJ (putL (.mk t1 t2 t3 t4) row (rowN l')) with
     | false =>
      have hL:=App.limit (t:=.mk t1 t2 t3 t4) (o:=(k,row,a,m,nodes,slot,old,text)) hv hf hr' c2 hvo;have hws:∃ q,zQV (.mk t1 t2 t3 t4) row (.mk 1 [] 0 l')=(zCT,q)/\q ≠ 0:=by
       unfold zQV;rw[if_pos hv,hfd]
       dsimp only
       by_cases h:zAJ (.mk 1 [] 0 l')=true
       ·rw[if_pos h]
        unfold rowN at hvo;rw[hvo,if_neg (by decide)]
        exact⟨6,rfl,by decide⟩
       ·rw[if_neg h]; exact⟨4,rfl,by decide⟩
      obtain⟨q,hq,hq0⟩:=hws;rw[hq]
      have:(q != 0)=true:=bne_iff_ne.2 hq0;simp only[zCT,this,cond_true]
      exact⟨_,6,rfl,hL⟩
     | true =>
      have hO:=App.ok (t:=.mk t1 t2 t3 t4) (o:=(k,row,a,m,nodes,slot,old,text)) hv hf hr' c2 hvo;have hvl:=(hr'.put (rowN l')).valid hvo;have hws:=zT6 (r:=rowN l') hv hfd hvl hvo;unfold rowN at hws;rw[hws]
      dsimp only at hO;unfold rowN at hO;generalize putL (Nd.mk t1 t2 t3 t4) row (Nd.mk 1 [] 0 l')=Z at *;obtain⟨q1,q2,q3,q4⟩:=Z;exact⟨_,0,rfl,hO⟩
    ·have:(e != 0)=true:=bne_iff_ne.2 he;simp only[this,cond_true]
     exact⟨_,e,rfl,.chg (t:=.mk t1 t2 t3 t4) (o:=(k,row,a,m,nodes,slot,old,text)) hv hf hr' c2 he⟩
theorem App.w {t t':Nd}{o:Op8}{e:Int} (h:App t o t' e):t'.w<=t.w+Nd.ws o.nodes+o.2.2.2.2.2.2.2.length+4:=by
 have hz:zCT.w=1:=rfl;obtain⟨k,row,a,m,nodes,slot,old,text⟩:=o;simp only[Op8.nodes]
 cases h with
 | arg=>omega
 | form=>omega
 | none=>omega
 | chg=>omega
 | limit=>omega
 | @ok r l h hf hr hc hv =>
  have h1:=hr.w (rowN l)
  have h2:=hc.w;have h3:=zFH r;have h4:(rowN l).w=Nd.ws l+1 :=(by simp[rowN,Nd.w]);dsimp only at h1 ⊢
  omega
def Op8.row (o:Op8):List Int:=o.2.1
def Op8.text (o:Op8):List UInt8:=o.2.2.2.2.2.2.2
theorem zRG (n:Nat) (t:Nd) (h:2 * t.cnt<n) (hc:t.cnt<=67108864):zBe n t t=some true:=by
 obtain⟨r,h1,h2⟩:=(zIw n).1 t t h hc;obtain rfl:=h2.2 rfl;exact h1
theorem zUm (n:Nat) (t:Nd) (o:Op8) (hn:200000000<n) (ht:t.w<=50000000) (hb:Nd.ws o.nodes<=2000000) (hx:o.text.length<=2000000) (hr:o.row.length<=2000000) :
  ∃ t' e,zDN n t o=some (t',e)/\zEi n t o=some (t',e)/\App t o t' e:=by
 obtain⟨t1,e1,f1,g1⟩:=zIT n t o hn ht hb hx;obtain⟨t2,e2,f2,g2⟩:=zPN n t o hn ht hb hx hr;obtain⟨rfl,rfl⟩:=g1.det g2;exact⟨_,_,f1,f2,g1⟩
inductive Runs:Nd->List Op8->Nd->Int->Prop
 | nil (t:Nd):Runs t [] t 0
 | stop {t t':Nd} {o:Op8} {ops:List Op8} {e:Int} (h:App t o t' e) (he:e ≠ 0):Runs t (o::ops) zCT e
 | next {t t' u:Nd} {o:Op8} {ops:List Op8} {e:Int} (h:App t o t' 0) (hr:Runs t' ops u e):Runs t (o::ops) u e
def endOf (f:Fl (Nd×Int×Int) (Int×List UInt8×Int×List Nd)):Nd×Int×Int:=match f with
 | .ret r=>r
 | .go (a,b,c,d)=>(.mk a b c d,0,0)
theorem zQ0 (n:Nat) (hn:200000000<n){ops:List Op8} (ho:∀ o∈ops,Nd.ws o.nodes+o.text.length+o.row.length<=1048576) (hl:ops.length<=12):∀ (k i:Nat) (t:Nd),ops.length - i<k->i<=ops.length->t.w<=17000000+i * 1048580 ->
  ∃ f,zA0 n ops k t.kind t.text t.cols t.kids (i:Int)=some f/\zBp n ops k t.kind t.text t.cols t.kids (i:Int)=some f/\Runs t (ops.drop i) (endOf f).1 (endOf f).2.2/\(endOf f).1.w<=36000000
 | 0,i,t,h,_,_=>by omega
 | k+1,i,t,h,hi,hw=>by
  unfold zA0 zBp
  by_cases hj:i<ops.length
  ·have hb:=ho _ (List.getElem_mem hj)
   have hd:=List.drop_eq_getElem_cons hj;obtain⟨t',e,g1,g2,g3⟩:=zUm n t ops[i] hn (by omega) (by omega) (by omega) (by omega)
   have hw':=g3.w;rw[zAN (Int.ofNat_lt.2 hj),zBc hj,hd]
   simp only[cond_true]
   generalize ops[i]=o at *;obtain⟨q1,q2,q3,q4,q5,q6,q7,q8⟩:=o;obtain⟨t1,t2,t3,t4⟩:=t;have ih:=zQ0 n hn ho hl k (i+1) t' (by omega) (by omega) (by simp only[Op8.text]at hb; dsimp only at hw' hb; simp only[Nat.add_mul]; omega)
   obtain⟨u1,u2,u3,u4⟩:=t';simp only[Nd.kind,Nd.text,Nd.cols,Nd.kids]at ih ⊢;simp only[Option.bind_some,g1,g2]
   by_cases he:e=0
   ·subst he;simp only[show((0:Int) != 0)=false from rfl,cond_false,zA4 (show i<9223372036854775807 by omega)]
    obtain⟨f,h1,h2,h3,h4⟩:=ih;exact⟨f,h1,h2,.next g3 h3,h4⟩
   ·have hne:(e != 0)=true:=bne_iff_ne.2 he;simp only[hne,cond_true]
    exact⟨_,rfl,rfl,.stop g3 he,by show zCT.w<=36000000; decide⟩
  ·rw[zAL (by omega),List.drop_eq_nil_iff.2 (by omega)]
   obtain⟨t1,t2,t3,t4⟩:=t;simp only[cond_false]
   refine⟨_,rfl,rfl,.nil _,?_⟩
   show(Nd.mk t1 t2 t3 t4).w<=36000000;have:i * 1048580<=12 * 1048580:=Nat.mul_le_mul_right _ (by omega)
   omega
inductive zTh (t:Nd) (ops:List Op8):Nd->Int->Prop
 | bad (h:zAJ t=false):zTh t ops zCT 1
 | go {u:Nd} {e:Int} (h:zAJ t=true) (hr:Runs t ops u e):zTh t ops u e
theorem zUS (n:Nat) (t:Nd) (ops:List Op8) (hn:200000000<n) (ht:t.w<=17000000) (ho:∀ o∈ops,Nd.ws o.nodes+o.text.length+o.row.length<=1048576) (hl:ops.length<=12) :
  ∃ u i e,zBu n t ops=some (u,i,e)/\zCb n t ops=some (u,i,e)/\zTh t ops u e/\u.w<=36000000:=by
 have ct:=Nd.cnt_w t;have v1:=zB6 n t (by omega) (by omega)
 have v2:=zDQ n t (by omega) (by omega)
 have hd:zBm t=some t:=zId (by omega)
 obtain⟨f,h1,h2,h3,h4⟩:=zQ0 n hn ho hl n 0 t (by omega) (by omega) (by omega)
 rw[show((0:Nat):Int)=0 from rfl]at h1 h2;rw[List.drop_zero]at h3;obtain⟨t1,t2,t3,t4⟩:=t;simp only[Nd.kind,Nd.text,Nd.cols,Nd.kids]at h1 h2;unfold zBu zCb;simp only[v1,v2,Option.bind_some,hd,h1,h2]
 cases hv:zAJ (.mk t1 t2 t3 t4) with
 | false=>exact⟨_,0,1,rfl,rfl,.bad hv,by decide⟩
 | true =>
  simp only[Bool.not_true,cond_false]
  cases f with
  | ret r =>
   obtain⟨u,i,e⟩:=r;exact⟨u,i,e,rfl,rfl,.go hv h3,h4⟩
  | go g =>
   obtain⟨a,b,c,d⟩:=g;exact⟨_,0,0,rfl,rfl,.go hv h3,h4⟩
theorem zS7 (l b:List Nd){p q:Nat} (hp:p<=l.length):segS (splS l p q b) p (p+b.length)=b:=by
 have h:(l.take p).length=p :=(by rw[List.length_take]; omega);unfold segS splS;rw[List.append_assoc,List.take_append,List.take_of_length_le (by omega),h,show p+b.length - p=b.length by omega,List.take_left,List.drop_append,List.drop_of_length_le (by omega),h,Nat.sub_self]
 rfl
theorem zLN (l b c:List Nd){p q:Nat} (hp:p<=l.length):splS (splS l p q b) p (p+b.length) c=splS l p q c:=by
 have h:(l.take p).length=p :=(by rw[List.length_take]; omega);unfold splS;have e1:((l.take p++b)++l.drop q).take p=l.take p:=by
  rw[List.append_assoc,List.take_append,h,Nat.sub_self,List.take_take,Nat.min_self]; simp
 have e2:((l.take p++b)++l.drop q).drop (p+b.length)=l.drop q:=by
  rw[List.drop_append,List.length_append,h,Nat.sub_self,List.drop_of_length_le (by rw[List.length_append,h]; omega)]; simp
 rw[e1,e2]
theorem zLM (l:List Nd){p q:Nat} (hpq:p<=q):splS l p q (segS l p q)=l:=by
 unfold splS segS;have:l.take p++(l.take q).drop p=l.take q:=by
  have h:=List.take_append_drop p (l.take q)
  rw[List.take_take,Nat.min_eq_left hpq]at h;exact h
 rw[this,List.take_append_drop]
theorem zQT (l b:List Nd){p q:Nat} (hp:p<=q) (hq:q<=l.length):(splS l p q b).length+(q - p)=l.length+b.length:=by
 unfold splS;simp only[List.length_append,List.length_take,List.length_drop]
 omega
theorem zUL (l:List Nd){p q:Nat} (hp:p<=q) (hq:q<=l.length):(segS l p q).length=q - p:=by
 unfold segS;simp only[List.length_take,List.length_drop]
 omega
theorem zUg {l:List Nd}{p:Nat}{it:Nd} (h:l[p]? = some it):segS l p (p+1)=[it]:=by
 have:=zQS l (List.getElem?_eq_some_iff.1 h).1;rw[segS,this,(List.getElem?_eq_some_iff.1 h).2]
theorem zUi (l:List Nd){p q:Nat} (x:Nd) (hp:p<=l.length):(splS l p q [x])[p]? = some x:=by
 have h:(l.take p).length=p :=(by rw[List.length_take]; omega);unfold splS;rw[List.append_assoc,List.getElem?_append_right (by omega),h,Nat.sub_self]; rfl
theorem cnt_kids (v:Nd):v.cnt=Nd.cnts v.kids+1:=by cases v; simp only[Nd.cnt,Nd.kids]; try omega
def invO:Op8->Op8
 | (k,row,a,m,nodes,slot,old,text) =>
  (if k=1 then 2 else if k=2 then 1 else if k=3 then 4 else if k=4 then 3 else k,row,a,m,nodes,slot,if k=5 then text else old,if k=5 then old else text)
theorem FormP.inv {o:Op8} (h:FormP o):FormP (invO o):=by
 obtain⟨k,row,a,m,nodes,slot,old,text⟩:=o;rcases h with ⟨rfl | rfl,h⟩ | ⟨rfl | rfl,h⟩ | ⟨rfl,h1,h⟩
 ·exact .inl ⟨.inr rfl,h⟩
 ·exact .inl ⟨.inl rfl,h⟩
 ·exact .inr (.inl ⟨.inr rfl,h⟩)
 ·exact .inr (.inl ⟨.inl rfl,h⟩)
 ·exact .inr (.inr ⟨rfl,Ne.symm h1,h⟩)
theorem Chg.inv {l l':List Nd}{o:Op8} (hf:FormP o) (h:Chg l o l' 0):Chg l' (invO o) l 0:=by
 obtain⟨k,row,a,m,nodes,slot,old,text⟩:=o;cases h with
 | @ins _ p _ _ _ _ _ h =>
  have hl:=zQT l nodes (Nat.le_refl p) h;have h1:=zS7 l nodes (q:=p) h;have h2:=zLN l nodes [] (q:=p) h;have h3:=zLM l (Nat.le_refl p)
  have h4:segS l p p=[] :=(by unfold segS; simp);rw[h4]at h3;have:=Chg.del (l:=splS l p p nodes) (row:=row) (p:=p) (m:=m) (nodes:=nodes) (slot:=slot) (old:=old) (text:=text) (by omega) h1;rw[h2,h3]at this;exact this
 | @del _ p _ _ _ _ _ h he =>
  have hl:=zQT l [] (Nat.le_add_right p nodes.length) h;have h2:=zLN l [] nodes (q:=p+nodes.length) (p:=p) (by omega)
  have h3:=zLM l (Nat.le_add_right p nodes.length)
  rw[he]at h3;simp only[List.length_nil,Nat.add_zero]at h2;have:=Chg.ins (l:=splS l p (p+nodes.length) []) (row:=row) (p:=p) (m:=m) (nodes:=nodes) (slot:=slot) (old:=old) (text:=text) (by simp only[List.length_nil]at hl; omega)
  rw[h2,h3]at this;exact this
 | @wrap _ p m v s _ _ h =>
  have ht:zQY [v] (s:Int):=by
   rcases hf with ⟨h0 | h0,_⟩ | ⟨_,_,h0,_⟩ | ⟨h0,_⟩
   ·cases h0
   ·cases h0
   ·exact h0
   ·cases h0
  obtain⟨v',s',z,e1,e2,_,hz,hk⟩:=ht;cases e1;obtain rfl:=Int.ofNat.inj e2;have h1:=zUi l (q:=p+m) (zGH v s (segS l p (p+m))) (p:=p) (by omega)
  have h2:=zLN l [zGH v s (segS l p (p+m))] (segS l p (p+m)) (q:=p+m) (p:=p) (by omega)
  rw[zLM l (Nat.le_add_right p m)]at h2;have hk2:(zGH v s (segS l p (p+m))).kids[s]? = some (rowN (segS l p (p+m))):=zPU hz;have hm:((rowN (segS l p (p+m))).kids.length:Int)=(m:Int):=by
   have:=zUL l (Nat.le_add_right p m) h;show((segS l p (p+m)).length:Int)=m
   omega
  have:=Chg.unwrap (row:=row) (v:=v) (old:=old) (text:=text) h1 hk2 hm rfl;rw[show(rowN (segS l p (p+m))).kids=segS l p (p+m) from rfl]at this;simp only[List.length_cons,List.length_nil,Nat.zero_add]at h2;rw[h2]at this;exact this
 | @unwrap _ p _ v it z s _ _ h hz hm he =>
  have hp:=(List.getElem?_eq_some_iff.1 h).1;have hl:=zQT l z.kids (Nat.le_add_right p 1) (by omega)
  have h1:=zS7 l z.kids (q:=p+1) (p:=p) (by omega)
  have h2:=zLN l z.kids [zGH v s z.kids] (q:=p+1) (p:=p) (by omega)
  have h3:=zLM l (Nat.le_add_right p 1)
  rw[zUg h,he]at h3;rw[h3]at h2;subst hm;have:=Chg.wrap (l:=splS l p (p+1) z.kids) (row:=row) (p:=p) (m:=z.kids.length) (v:=v) (s:=s) (old:=old) (text:=text) (by omega)
  rw[h1,h2]at this;exact this
 | @set _ p _ _ it _ _ _ h hl he =>
  have hp:=(List.getElem?_eq_some_iff.1 h).1;have h1:=zUi l (q:=p+1) (.mk it.kind text it.cols it.kids) (p:=p) (by omega)
  have h2:=zLN l [.mk it.kind text it.cols it.kids] [it] (q:=p+1) (p:=p) (by omega)
  have h3:=zLM l (Nat.le_add_right p 1)
  rw[zUg h]at h3;rw[h3]at h2;simp only[List.length_cons,List.length_nil,Nat.zero_add]at h2;have:=Chg.set (row:=row) (m:=m) (nodes:=nodes) (slot:=slot) (old:=text) (text:=old) h1 hl rfl;obtain⟨i1,i2,i3,i4⟩:=it;have he:i2=old:=he;subst he;simp only[Nd.kind,Nd.cols,Nd.kids]at this h2;rw[h2]at this;exact this
theorem zNJ (o:Op8):(invO o).2.1=o.2.1:=rfl
theorem App.inv {t t':Nd}{o:Op8} (h:App t o t' 0):App t' (invO o) t 0/\zAJ t'=true:=by
 cases h with
 | chg h hf hr hc he=>exact absurd rfl he
 | @ok r l h hf hr hc hv =>
  have hrr:=(zJe (hr.valid h)).1;have hput:=hr.put (rowN l)
  have hb:=hr.back (rowN l)
  have hci:=hc.inv hf;have:App (putL t o.2.1 (rowN l)) (invO o) (putL (putL t o.2.1 (rowN l)) (invO o).2.1 (rowN r.kids)) 0:=by
   refine App.ok hv hf.inv (r:=rowN l) (by rw[zNJ]; exact hput) hci ?_;rw[zNJ,show rowN r.kids=r from hrr.symm,hb]
   exact h
  rw[zNJ,show rowN r.kids=r from hrr.symm,hb]at this;exact⟨this,hv⟩
theorem zIv {t:Nd} (h:zAJ t=true):t.kind=1/\zFh t=true/\t.cnt<=1000/\t.dep<=24:=by
 unfold zAJ at h;simp only[Bool.and_eq_true,decide_eq_true_eq]at h;exact⟨eq_of_beq h.1,h.2⟩
def opw (o:Op8):Nat:=Nd.ws o.nodes+o.text.length+4
def sw:List Op8->Nat
 | []=>0
 | o::l=>opw o+sw l
theorem zUj:∀ l:List Op8,4 * l.length<=sw l
 | []=>Nat.zero_le _
 | o::l=>by
  have:=zUj l;simp only[List.length_cons,sw,opw]
  omega
theorem zO3 (n:Nat) (hn:200000000<n){ops:List Op8} (hl:ops.length<=10000000) (ho:∀ o∈ops,opw o<=1900000):∀ (k i:Nat) (t:Nd),ops.length - i<k->i<=ops.length->t.w+sw (ops.drop i)<=40000000 ->
  ∃ f,zA0 n ops k t.kind t.text t.cols t.kids (i:Int)=some f/\Runs t (ops.drop i) (endOf f).1 (endOf f).2.2/\((endOf f).2.2=0->(endOf f).2.1=0)
 | 0,i,t,h,_,_=>by omega
 | k+1,i,t,h,hi,hw=>by
  unfold zA0
  by_cases hj:i<ops.length
  ·have hd:=List.drop_eq_getElem_cons hj;have hs:=ho _ (List.getElem_mem hj)
   rw[hd]at hw;simp only[sw]at hw;unfold opw at hw hs;obtain⟨t',e,g1,g3⟩:=zIT n t ops[i] hn (by omega) (by omega) (by simp only[Op8.text]at hs; omega)
   have hw':=g3.w;rw[zAN (Int.ofNat_lt.2 hj),zBc hj,hd]
   simp only[cond_true]
   generalize ops[i]=o at *;obtain⟨q1,q2,q3,q4,q5,q6,q7,q8⟩:=o;obtain⟨t1,t2,t3,t4⟩:=t;have ih:=zO3 n hn hl ho k (i+1) t' (by omega) (by omega) (by simp only[Op8.text]at hw; dsimp only at hw' hw; omega)
   obtain⟨u1,u2,u3,u4⟩:=t';simp only[Nd.kind,Nd.text,Nd.cols,Nd.kids]at ih ⊢;simp only[Option.bind_some,g1]
   by_cases he:e=0
   ·subst he;simp only[show((0:Int) != 0)=false from rfl,cond_false,zA4 (show i<9223372036854775807 by omega)]
    obtain⟨f,h1,h3,h4⟩:=ih;exact⟨f,h1,.next g3 h3,h4⟩
   ·have hne:(e != 0)=true:=bne_iff_ne.2 he;simp only[hne,cond_true]
    exact⟨_,rfl,.stop g3 he,fun h=>absurd h he⟩
  ·rw[zAL (by omega),List.drop_eq_nil_iff.2 (by omega)]
   obtain⟨t1,t2,t3,t4⟩:=t;simp only[cond_false]
   exact⟨_,rfl,.nil _,fun _=>rfl⟩
theorem zUt (n:Nat) (t:Nd) (ops:List Op8) (hn:200000000<n) (hw:t.w+sw ops<=40000000) (ho:∀ o∈ops,opw o<=1900000) :
  ∃ u i e,zBu n t ops=some (u,i,e)/\zTh t ops u e/\(e=0->i=0):=by
 have ct:=Nd.cnt_w t;have sl:=zUj ops;have v1:=zB6 n t (by omega) (by omega)
 have hd:zBm t=some t:=zId (by omega)
 obtain⟨f,h1,h3,h4⟩:=zO3 n hn (ops:=ops) (by omega) ho n 0 t (by omega) (by omega) (by rw[List.drop_zero]; exact hw)
 rw[show((0:Nat):Int)=0 from rfl]at h1;rw[List.drop_zero]at h3;obtain⟨t1,t2,t3,t4⟩:=t;simp only[Nd.kind,Nd.text,Nd.cols,Nd.kids]at h1;unfold zBu;simp only[v1,Option.bind_some,hd,h1]
 cases hv:zAJ (.mk t1 t2 t3 t4) with
 | false=>exact⟨_,0,1,rfl,.bad hv,fun h=>by cases h⟩
 | true =>
  simp only[Bool.not_true,cond_false]
  cases f with
  | ret r =>
   obtain⟨u,i,e⟩:=r;exact⟨u,i,e,rfl,.go hv h3,h4⟩
  | go g =>
   obtain⟨a,b,c,d⟩:=g;exact⟨_,0,0,rfl,.go hv h3,fun _=>rfl⟩
theorem Runs.app {t u v:Nd}{a b:List Op8}{e:Int} (h:Runs t a u 0) (h2:Runs u b v e):Runs t (a++b) v e:=by
 generalize hz:(0:Int)=z at h
 induction h with
 | nil t=>exact h2
 | stop h he=>exact absurd hz.symm he
 | next h hr ih=>exact .next h (ih h2 hz)
theorem Runs.back {t u:Nd}{ops:List Op8} (h:Runs t ops u 0) (hv:zAJ t=true):Runs u (ops.map invO).reverse t 0/\zAJ u=true:=by
 generalize hz:(0:Int)=z at h
 induction h with
 | nil t=>exact⟨.nil t,hv⟩
 | stop h he=>exact absurd hz.symm he
 | next h hr ih =>
  subst hz;obtain⟨h1,h2⟩:=h.inv;obtain⟨h3,h4⟩:=ih h2 rfl;rw[List.map_cons,List.reverse_cons]
  exact⟨h3.app (.next h1 (.nil _)),h4⟩
theorem Runs.det {t u u':Nd}{ops:List Op8}{e e':Int} (h:Runs t ops u e) (h':Runs t ops u' e'):u=u'/\e=e':=by
 induction h generalizing u' e' with
 | nil t=>cases h'; exact⟨rfl,rfl⟩
 | stop h he =>
  cases h' with
  | stop g hg=>exact⟨rfl,(h.det g).2⟩
  | next g hr=>exact absurd (h.det g).2 he
 | next h hr ih =>
  cases h' with
  | stop g hg=>exact absurd (h.det g).2.symm hg
  | next g hr' =>
   obtain⟨rfl,_⟩:=h.det g;exact ih hr'
theorem zT2 {k:Int}{t:List UInt8} (h:zPY k t=true):t.length<=200:=by
 unfold zPY at h
 by_cases k2:k=2
 ·rw[if_pos k2]at h;unfold symB at h
  by_cases h1:t.length=1
  ·omega
  ·rw[if_neg h1]at h;simp only[Bool.and_eq_true,decide_eq_true_eq]at h
   omega
 rw[if_neg k2]at h
 by_cases k3:k=3
 ·rw[if_pos k3]at h;unfold numB at h;simp only[Bool.and_eq_true,decide_eq_true_eq]at h
  omega
 rw[if_neg k3]at h
 by_cases k4:k=4
 ·rw[if_pos k4]at h;simp only[Bool.and_eq_true,decide_eq_true_eq]at h;exact h.1
 rw[if_neg k4]at h
 by_cases k10:k=10
 ·rw[if_pos k10]at h;obtain⟨e,he,h2⟩:=List.any_eq_true.1 h;rw[← eq_of_beq h2]
  have:∀ e∈acL,e.length<=200 :=(by decide);exact this e he
 rw[if_neg k10]at h
 by_cases k11:k=11
 ·rw[if_pos k11]at h;unfold fenB at h;simp only[Bool.and_eq_true,decide_eq_true_eq]at h
  omega
 rw[if_neg k11]at h;rw[eq_of_beq h]
 exact Nat.zero_le _
mutual
theorem zUd:∀ t:Nd,zFh t=true->t.w+1<=202 * t.cnt
 | .mk k t c ks,h=>by
  simp only[zFh,Bool.and_eq_true]at h
  have h1:=zT2 h.1.1
  have h2:=zSx ks k h.2
  simp only[Nd.w,Nd.cnt]
  omega
theorem zSx:∀ (l:List Nd) (k:Int),zDM k l=true->Nd.ws l<=202 * Nd.cnts l
 | [],_,_=>Nat.zero_le _
 | v::l,k,h=>by
  simp only[zDM,Bool.and_eq_true]at h
  have h1:=zUd v h.1.2
  have h2:=zSx l k h.2
  simp only[Nd.ws,Nd.cnts]
  omega
end
theorem zLR {t:Nd} (h:zAJ t=true):t.w<=202000:=by
 obtain⟨k,f,c,d⟩:=zIv h;have:=zUd t f
 omega
structure OSmall (l:List Op8):Prop where
 size:sw l<=20000000
 op:∀ o∈l,opw o<=1900000
 isize:sw (l.map invO)<=20000000
 oi:∀ o∈l,opw (invO o)<=1900000
 row:∀ o∈l,o.row.length<=16777216
theorem OSmall.apply {l:List Op8} (h:OSmall l) (n:Nat){t:Nd} (hn:200000000<n) (hv:zAJ t=true):∃ u i e,zBu n t l=some (u,i,e)/\Runs t l u e/\(e=0->i=0):=by
 have hw:=zLR hv;have h1:=h.size;obtain⟨u,i,e,g1,g2,g3⟩:=zUt n t l hn (by omega) h.op;cases g2 with
 | bad g=>rw[hv]at g; cases g
 | go _ g=>exact⟨u,i,e,g1,g,g3⟩
abbrev Cur:=List Int×List Int
abbrev Rc:=List Op8×Cur×Cur
theorem zR6 {t:Nd} (h:zAJ t=true):zBm t=some t:=by
 have h1:=zLR h;have h2:=Nd.cnt_w t;exact zId (by omega)
def zMh (o:Op8):Nat:=Nd.ws o.nodes+o.2.2.2.2.2.2.1.length+o.text.length+o.row.length
structure RFew (r:Rc):Prop where
 len:r.1.length<=12
 bulk:∀ o∈r.1,zMh o<=1048576
 b1:r.2.1.1.length<=16777216
 b2:r.2.1.2.length<=16777216
 a1:r.2.2.1.length<=16777216
 a2:r.2.2.2.length<=16777216
theorem zU4 {l:List Op8}{b:Nat}:(∀ o∈l,opw o<=b)->sw l<=l.length * b:=by
 induction l with
 | nil=>intro _; exact Nat.zero_le _
 | cons o l ih =>
  intro h;have h1:=h o List.mem_cons_self;have h2:=ih fun o ho=>h o (List.mem_cons_of_mem _ ho)
  simp only[sw,List.length_cons,Nat.succ_mul]
  omega
theorem zTE (o:Op8):opw o<=zMh o+4:=by unfold opw zMh; omega
theorem zTD (o:Op8):opw (invO o)<=zMh o+4:=by
 obtain⟨k,row,a,m,nodes,slot,old,text⟩:=o;unfold opw zMh invO;simp only[Op8.nodes,Op8.text,Op8.row]
 by_cases h:k=5
 ·rw[if_pos h]; omega
 ·rw[if_neg h]; omega
theorem RFew.osmall {r:Rc} (h:RFew r):OSmall r.1:=by
 have h1:∀ o∈r.1,opw o<=1048580:=fun o ho=>by have:=h.bulk o ho; have:=zTE o; omega
 have h2:∀ o∈r.1.map invO,opw o<=1048580:=fun o ho=>by
  obtain⟨o',ho',rfl⟩:=List.mem_map.1 ho;have:=h.bulk o' ho'; have:=zTD o'; omega
 have s1:=zU4 h1;have s2:=zU4 h2;rw[List.length_map]at s2;have hl:=h.len;have hm:r.1.length * 1048580<=12 * 1048580:=Nat.mul_le_mul_right _ hl;exact⟨by omega,fun o ho=>by have:=h1 o ho; omega,by omega,fun o ho=>by have:=h2 (invO o) (List.mem_map_of_mem ho); omega,fun o ho=>by have:=h.bulk o ho; unfold zMh at this; omega⟩
theorem RFew.ref {r:Rc} (h:RFew r) (n:Nat) (hn:200000000<n){t:Nd} (hv:zAJ t=true):∃ u i e,zCb n t r.1=some (u,i,e)/\Runs t r.1 u e:=by
 have hw:=zLR hv;obtain⟨u,i,e,_,g2,g3,_⟩:=zUS n t r.1 hn (by omega) (fun o ho=>by have:=h.bulk o ho; unfold zMh at this; omega) h.len;cases g3 with
 | bad g=>rw[hv]at g; cases g
 | go _ g=>exact⟨u,i,e,g2,g⟩
theorem zUF (p:List Int) (i:Int) (hp:p.length<=4000000):zLd p [i]=some (p++[i]):=by
 unfold zLd;dsimp only;rw[zDr (by simp only[List.length_cons,List.length_nil]; omega)]
theorem zT9 {l:List Nd}{n:Nat}{v:Nd} (h:l[n]? = some v):at? l (n:Int)=some v:=by
 obtain⟨h1,rfl⟩:=List.getElem?_eq_some_iff.1 h;exact zBc h1
theorem zSq {l:List Nd}{q:Nat}{v:Nd} (h:l[q]? = some v):l.drop q=v::l.drop (q+1):=by
 obtain⟨h1,rfl⟩:=List.getElem?_eq_some_iff.1 h;exact List.drop_eq_getElem_cons h1
abbrev AllF:=Nd->List Int->Option (List (List Int))
theorem zOP (F:AllF) (kids:List Nd) (p:List Int) (i:Nat) (x:Nd) (hx:kids[i]? = some x) (hp:p.length<=3000000) (hk:x.kids.length<=1000000)
  (hF:∀ (s:Nat) (u:Nd),x.kids[s]? = some u->F u (p++[(i:Int),(s:Int)])=some (posU (p++[(i:Int),(s:Int)]) u)) :
  ∀ (k s:Nat) (l:List (List Int)),x.kids.length - s<k->s<=x.kids.length->l.length+(posS p i s (x.kids.drop s)).length<=4000000 ->
   zC5 F kids p (i:Int) k (s:Int) l=some (l++posS p i s (x.kids.drop s))
 | 0,s,l,h,_,_=>by omega
 | k+1,s,l,h,hs,hl=>by
  unfold zC5;rw[zT9 hx]
  by_cases hj:s<x.kids.length
  ·have g:x.kids[s]? = some x.kids[s]:=List.getElem?_eq_getElem hj;generalize x.kids[s]=u at *;rw[zSq g]at hl ⊢;rw[posS]at hl ⊢;rw[List.length_append]at hl;have e1:=hF s u g;have ih:=zOP F kids p i x hx hp hk hF k (s+1) (l++posU (p++[(i:Int),(s:Int)]) u) (by omega) (by omega) (by rw[List.length_append]; omega)
   have at2:=zT9 g;have hlen:(x.kids.length:Int)=(x.kids.length:Int):=rfl;obtain⟨x1,x2,x3,x4⟩:=x;obtain⟨u1,u2,u3,u4⟩:=u;simp only[Nd.kids]at *;simp only[Option.bind_some,zAN (Int.ofNat_lt.2 hj),cond_true,at2]
   rw[zDr (by rw[List.length_nil]; omega),zDr (by simp only[List.length_cons,List.length_nil]; omega),e1]
   simp only[Option.bind_some]
   rw[zDr (by omega),zA4 (by omega),ih,List.append_assoc]
  ·have e:x.kids.drop s=[]:=List.drop_of_length_le (by omega)
   rw[e,posS]
   obtain⟨x1,x2,x3,x4⟩:=x;simp only[Nd.kids]at hj hs;simp only[Option.bind_some]
   rw[zAL (by omega),cond_false,List.append_nil]
theorem zOO (F:AllF) (N:Nat) (kids:List Nd) (p:List Int) (hp:p.length<=3000000) (hc:Nd.cnts kids<=1000000) (hN:Nd.cnts kids+1<N)
  (hF:∀ (i s:Nat) (x u:Nd),kids[i]? = some x->x.kids[s]? = some u->F u (p++[(i:Int),(s:Int)])=some (posU (p++[(i:Int),(s:Int)]) u)) :
  ∀ (k i:Nat) (l:List (List Int)),kids.length - i+1<k->i<=kids.length->l.length+(posI p i (kids.drop i)).length<=4000000 ->
   zC4 F N kids p k (i:Int) l=some (l++posI p i (kids.drop i))
 | 0,i,l,h,_,_=>by omega
 | k+1,i,l,h,hi,hl=>by
  have hlk:=Nd.cnts_len kids;unfold zC4;rw[zAN (by omega),cond_true,zUF p i (by omega)]
  simp only[Option.bind_some]
  by_cases hj:i<kids.length
  ·have g:kids[i]? = some kids[i]:=List.getElem?_eq_getElem hj;generalize kids[i]=x at *;have mx:=Nd.cnts_mem (List.mem_of_getElem? g)
   have kx:=x.cnt_kids;have lx:=Nd.cnts_len x.kids;have hX:posX p i x=posS p i 0 x.kids :=(by cases x; rw[posX]; rfl);rw[zSq g]at hl ⊢;rw[posI,hX]at hl ⊢;rw[List.length_cons,List.length_append]at hl;rw[zDr (by simp only[List.length_cons,List.length_nil]; omega),zCI (by omega),cond_false]
   have e2:=zOP F kids p i x g hp (by omega) (fun s u hu=>hF i s x u g hu) N 0 (l++[p++[(i:Int)]]) (by omega) (Nat.zero_le _) (by rw[List.drop_zero,List.length_append]; simp only[List.length_cons,List.length_nil]; omega)
   rw[show((0:Nat):Int)=0 from rfl,List.drop_zero]at e2;rw[e2]
   simp only[Option.bind_some]
   have ih:=zOO F N kids p hp hc hN hF k (i+1) (l++[p++[(i:Int)]]++posS p i 0 x.kids) (by omega) (by omega) (by simp only[List.length_append,List.length_cons,List.length_nil]; omega)
   rw[zA4 (by omega),ih]
   simp only[List.append_assoc,List.cons_append,List.nil_append]
  ·obtain rfl:i=kids.length :=(by omega);rw[List.drop_length,posI]at hl ⊢;rw[zDr (by simp only[List.length_cons,List.length_nil]at hl ⊢; omega),beq_self_eq_true,cond_true]
theorem zM7:∀ (n:Nat) (t:Nd) (p:List Int),t.cnt+1<n->t.cnt<=1000000->p.length+2 * t.cnt<=3000000->zC3 n t p=some (posU p t)
 | 0,t,p,h,_,_=>by omega
 | n+1,t,p,h,hc,hp=>by
  have k1:=t.cnt_kids;have l1:=Nd.cnts_len t.kids;have hlen:=zOa p 0 t.kids;have hU:posU p t=posI p 0 t.kids :=(by cases t; rw[posU]; rfl);have e:=zOO (zC3 n) n t.kids p (by omega) (by omega) (by omega) (fun i s x u hx hu=>by
   have m1:=Nd.cnts_mem (List.mem_of_getElem? hx)
   have m2:=Nd.cnts_mem (List.mem_of_getElem? hu)
   have c1:=x.cnt_kids;exact zM7 n u _ (by omega) (by omega) (by simp only[List.length_append,List.length_cons,List.length_nil]; omega)) n 0 [] (by omega) (Nat.zero_le _) (by rw[List.drop_zero,List.length_nil]; omega)
  rw[show((0:Nat):Int)=0 from rfl,List.drop_zero,List.nil_append]at e;rw[hU]
  obtain⟨t1,t2,t3,t4⟩:=t;simp only[Nd.kids]at e ⊢;unfold zC3;simp only[e,Option.bind_some]
theorem zR2 (n:Nat) (t:Nd) (hv:zA7 n t=some (zAJ t)) (hn:t.cnt+1<n) (hc:t.cnt<=1000000):zG6 n t=some (bif zAJ t then (posT t,0) else ([],1)):=by
 have e:=zM7 n t [] hn hc (by rw[List.length_nil]; omega)
 unfold posT;obtain⟨t1,t2,t3,t4⟩:=t;unfold zG6;simp only[hv,e,Option.bind_some]
 cases zAJ (.mk t1 t2 t3 t4) <;> rfl
theorem zQ3 {a b:List Int} (ha:a.length<=1073741824):∀ (k i:Nat),a.length - i<k->i<=a.length->i<=b.length->a.take i=b.take i ->
  ∃ fl,zBD a b k (i:Int)=some fl/\((∃ z,fl = .ret z/\z ≠ 0/\a ≠ b)∨(fl = .go ()/\(a.length=b.length->a=b)))
 | 0,i,h,_,_,_=>by omega
 | k+1,i,h,hi,hb,ht=>by
  unfold zBD
  by_cases h1:i<a.length
  ·rw[zAN (Int.ofNat_lt.2 h1),cond_true]
   by_cases h2:i<b.length
   ·rw[zAN (Int.ofNat_lt.2 h2)]
    simp only[Option.bind_some,cond_true,zBc h1,zBc h2]
    by_cases h3:a[i]<b[i]
    ·rw[zAN h3,cond_true]
     exact⟨_,rfl,.inl ⟨-1,rfl,by decide,fun e=>by subst e; omega⟩⟩
    ·rw[zAL h3,cond_false]
     by_cases h4:b[i]<a[i]
     ·rw[zAN h4,cond_true]
      exact⟨_,rfl,.inl ⟨1,rfl,by decide,fun e=>by subst e; omega⟩⟩
     ·rw[zAL h4,cond_false,zA4 (by omega)]
      have he:a[i]=b[i] :=(by omega);refine zQ3 ha k (i+1) (by omega) (by omega) (by omega) ?_;rw[← List.take_append_getElem h1,← List.take_append_getElem h2,ht,he]
   ·rw[zAL (by omega)]
    simp only[Option.bind_some,cond_false]
    exact⟨_,rfl,.inr ⟨rfl,fun e=>by omega⟩⟩
  ·rw[zAL (by omega),cond_false]
   simp only[Option.bind_some,cond_false]
   refine⟨_,rfl,.inr ⟨rfl,fun e=>?_⟩⟩
   have:i=a.length :=(by omega);subst this;rw[List.take_length]at ht;rw[ht,List.take_of_length_le (by omega)]
theorem cmp_eq (n:Nat) (a b:List Int) (ha:a.length<=1073741824) (hn:a.length<n):∃ c,zD3 n a b=some c/\(c=0↔a=b):=by
 obtain⟨fl,h1,h2⟩:=zQ3 (a:=a) (b:=b) ha n 0 (by omega) (Nat.zero_le _) (Nat.zero_le _) rfl;rw[show((0:Nat):Int)=0 from rfl]at h1;unfold zD3;dsimp only;rw[h1]
 rcases h2 with ⟨z,rfl,hz,hne⟩ | ⟨rfl,he⟩
 ·exact⟨z,rfl,fun h=>absurd h hz,fun h=>absurd h hne⟩
 ·simp only[Option.bind_some]
  by_cases h3:a.length<b.length
  ·rw[zAN (Int.ofNat_lt.2 h3)]
   exact⟨-1,rfl,fun h=>(by omega),fun h=>(by subst h; omega)⟩
  ·rw[zAL (by omega),cond_false]
   by_cases h4:b.length<a.length
   ·rw[zAN (Int.ofNat_lt.2 h4)]
    exact⟨1,rfl,fun h=>(by omega),fun h=>(by subst h; omega)⟩
   ·rw[zAL (by omega),cond_false]
    exact⟨0,rfl,fun _=>he (by omega),fun _=>rfl⟩
theorem zQ9 (n:Nat) (pos:List Int) (L:List (List Int)) (hL:L.length<=1073741824) (hb:∀ q∈L,q.length<=1073741824/\q.length<n):∀ (k i:Nat),L.length - i<k->i<=L.length ->
  ∃ fl,zCa n pos L k (i:Int)=some fl/\((∃ j:Nat,fl = .ret ((j:Int),0)/\L[j]? = some pos)∨(fl = .go ()/\pos ∉ L.drop i))
 | 0,i,h,_=>by omega
 | k+1,i,h,hi=>by
  unfold zCa
  by_cases hj:i<L.length
  ·have hm:=hb _ (List.getElem_mem hj)
   obtain⟨c,h1,h2⟩:=cmp_eq n L[i] pos hm.1 hm.2;rw[zAN (Int.ofNat_lt.2 hj),cond_true,zBc hj]
   simp only[Option.bind_some,h1]
   by_cases hc:c=0
   ·subst hc;exact⟨_,rfl,.inl ⟨i,rfl,by rw[List.getElem?_eq_getElem hj,h2.1 rfl]⟩⟩
   ·rw[zCI hc,cond_false,zA4 (by omega)]
    obtain⟨fl,g1,g2⟩:=zQ9 n pos L hL hb k (i+1) (by omega) (by omega)
    refine⟨fl,g1,g2.imp id fun⟨g3,g4⟩=>⟨g3,fun hm'=>?_⟩⟩
    rw[List.drop_eq_getElem_cons hj]at hm';rcases List.mem_cons.1 hm' with hm' | hm'
    ·exact hc (h2.2 hm'.symm)
    ·exact g4 hm'
  ·rw[zAL (by omega),cond_false,List.drop_of_length_le (by omega)]
   exact⟨_,rfl,.inr ⟨rfl,fun h=>by cases h⟩⟩
theorem zSN {t:Nd} (hv:zAJ t=true){q:List Int} (h:q∈posT t):q.length<=49:=by
 obtain⟨k,f,c,d⟩:=zIv hv;have h1:=zSy q t.kids ((zNN t q).1 h)
 have e:t.dep=Nd.deps t.kids+1:=by cases t; rfl
 omega
theorem zPL (n:Nat) (t:Nd) (pos:List Int) (hv:zA7 n t=some (zAJ t)) (hn:2000<n) (hc:t.cnt+1<n) (hc2:t.cnt<=1000000):∃ i e,zEh n t pos=some (i,e)/\((e=0/\zAJ t=true/\∃ j:Nat,i=(j:Int)/\(posT t)[j]? = some pos)∨(e ≠ 0/\(zAJ t=true->pos ∉ posT t))):=by
 have e1:=zR2 n t hv hc hc2;have hlen:=zTI t;cases hvt:zAJ t with
 | false =>
  rw[hvt]at e1;obtain⟨t1,t2,t3,t4⟩:=t;refine⟨0,1,?_,.inr ⟨by decide,fun h=>by cases h⟩⟩
  unfold zEh;simp only[e1,cond_false,Option.bind_some]
  rfl
 | true =>
  rw[hvt]at e1;obtain⟨k,f,c,d⟩:=zIv hvt;obtain⟨fl,g1,g2⟩:=zQ9 n pos (posT t) (by omega) (fun q hq=>by have:=zSN hvt hq; omega) n 0 (by omega) (Nat.zero_le _)
  rw[show((0:Nat):Int)=0 from rfl]at g1;rw[List.drop_zero]at g2;generalize posT t=L at *;obtain⟨t1,t2,t3,t4⟩:=t;unfold zEh;simp only[e1,cond_true,Option.bind_some,show((0:Int) != 0)=false from rfl,cond_false,g1]
  rcases g2 with ⟨j,rfl,hj⟩ | ⟨rfl,hj⟩
  ·exact⟨_,_,rfl,.inl ⟨rfl,trivial,j,rfl,hj⟩⟩
  ·exact⟨_,_,rfl,.inr ⟨by decide,fun _=>hj⟩⟩
theorem zPM (n:Nat) (t:Nd) (pos:List Int) (hv:zA7 n t=some (zAJ t)) (hn:2000<n) (hc:t.cnt+1<n) (hc2:t.cnt<=1000000):∃ b,zDB n t pos=some b/\(b=true↔zAJ t=true/\inL t.kids pos):=by
 obtain⟨i,e,h1,h2⟩:=zPL n t pos hv hn hc hc2;refine⟨e == 0,?_,?_⟩
 ·obtain⟨t1,t2,t3,t4⟩:=t;unfold zDB;simp only[h1,Option.bind_some]
 ·rw[beq_iff_eq]
  rcases h2 with ⟨rfl,g1,j,rfl,g2⟩ | ⟨g1,g2⟩
  ·exact⟨fun _=>⟨g1,(zNN t pos).1 (List.mem_of_getElem? g2)⟩,fun _=>rfl⟩
  ·exact⟨fun h=>absurd h g1,fun⟨h,h'⟩=>absurd ((zNN t pos).2 h') (g2 h)⟩
theorem zQL (n:Nat) (o:Op8) (hn:200<n):∃ b,zG7 n o=some b:=by
 obtain⟨k,row,a,m,nodes,slot,old,text⟩:=o;obtain⟨b,e,_⟩:=zT7 n (.mk 1 [] 0 nodes) 100 (by omega) (by omega)
 rw[show((100:Nat):Int)=100 from rfl]at e;unfold zG7 zCy;simp only[e,Option.bind_some]
 cases b with
 | true=>exact⟨_,rfl⟩
 | false=>exact⟨_,rfl⟩
theorem zSg (n:Nat){t:Nd} (hv:zAJ t=true) (hn:200000000<n):zBe n t t=some true:=by
 have h1:=zLR hv;have h2:=Nd.cnt_w t;obtain⟨r,g1,g2⟩:=(zIw n).1 t t (by omega) (by omega)
 rw[g1,g2.2 rfl]
abbrev Dc:=List UInt8×Nd×List Rc×Int
theorem zTa (n:Nat) (s:List UInt8) (h:s.length<n) (hb:s.length<=1073741824):zDY n s=some (s.all zD7&&decide ((s.length:Int)<=200)):=by
 have:=zGr (p:=zD7) (l:=s) (zBh s) hb (fun k i h=>by
  rw[zBh,zAN (Int.ofNat_lt.2 h),cond_true,zBc h]
  simp only[Option.bind_some,zLy]
  rw[zA4 (by omega)]
  cases zD7 s[i] <;> rfl) (fun k=>by rw[zBh,zAL (by omega)]; rfl) n 0 (by omega) (by omega)
 rw[show((0:Nat):Int)=0 from rfl,List.drop_zero]at this;rw[zDY,this]
 unfold zMb;cases s.all zD7 <;> rfl
theorem zSz:∀ (k:Nat) (l:List Int) (t:Nd),l.length<2 * k->l.length<=1073741824->∃ f,zBC k l t=some f /\
  ((f = .ret false/\¬ inL t.kids l)∨∃ l' t',f = .go (l',t')/\l'.length<3/\(inL t.kids l↔inL t'.kids l'))
 | 0,l,t,h,_=>by omega
 | k+1,l,⟨t1,t2,t3,t4⟩,h,hb=>by
  unfold zBC
  by_cases h3:3<=l.length
  ·rw[zAN (by omega),cond_true]
   obtain⟨i,s,r,rfl⟩:∃ i s r,l=i::s::r:=by
    match l,h3 with
    | i::s::r,_=>exact⟨i,s,r,rfl⟩
   have e0:at? (i::s::r) 0=some i:=rfl;have e1:at? (i::s::r) 1=some s:=rfl;rw[e0,e1]
   simp only[Option.bind_some]
   have hin:=zFi (l:=t4) (i:=i) (s:=s) (r:=r)
   by_cases c1:i<0
   ·rw[zAN c1]
    exact⟨_,rfl,.inl ⟨rfl,fun g=>by have:=(hin.1 g).1; omega⟩⟩
   rw[zAL c1]
   by_cases c2:(t4.length:Int)<=i
   ·rw[zAN c2]
    refine⟨_,rfl,.inl ⟨rfl,fun g=>?_⟩⟩
    obtain⟨_,x,g1,_⟩:=hin.1 g;have:=(List.getElem?_eq_some_iff.1 g1).1
    omega
   rw[zAL c2]
   by_cases c3:s<0
   ·rw[zAN c3]
    refine⟨_,rfl,.inl ⟨rfl,fun g=>?_⟩⟩
    obtain⟨_,x,_,g2,_⟩:=hin.1 g
    omega
   rw[zAL c3]
   obtain⟨a,rfl⟩:∃ a:Nat,i=(a:Int):=⟨i.toNat,by omega⟩
   obtain⟨b,rfl⟩:∃ a:Nat,s=(a:Int):=⟨s.toNat,by omega⟩
   have ha:a<t4.length :=(by omega);rw[zBc ha]
   have hx:t4[a]? = some t4[a]:=List.getElem?_eq_getElem ha;generalize t4[a]=x at hx;obtain⟨x1,x2,x3,x4⟩:=x;simp only[cond_false,Option.bind_some]
   simp only[Int.toNat_natCast]at hin
   by_cases c4:(x4.length:Int)<=(b:Int)
   ·rw[zAN c4]
    refine⟨_,rfl,.inl ⟨rfl,fun g=>?_⟩⟩
    obtain⟨_,x,g1,_,u,g2,_⟩:=hin.1 g;obtain rfl:=Option.some.inj (hx.symm.trans g1)
    have:=(List.getElem?_eq_some_iff.1 g2).1;simp only[Nd.kids]at this
    omega
   rw[zAL c4]
   have hb':b<x4.length :=(by omega);have hu:x4[b]? = some x4[b]:=List.getElem?_eq_getElem hb';simp only[cond_false,zBc hb',Option.bind_some]
   generalize x4[b]=u at hu;obtain⟨u1,u2,u3,u4⟩:=u;simp only[Option.bind_some]
   rw[zDr (by simp only[List.length_cons]at h3 ⊢; omega)]
   have e3:((((a:Int)::(b:Int)::r).take (((((a:Int)::(b:Int)::r).length:Nat):Int)).toNat).drop (2:Int).toNat)=r:=by
    rw[Int.toNat_natCast,List.take_length]; rfl
   rw[e3]
   simp only[List.length_cons]at h hb;obtain⟨f,f1,f2⟩:=zSz k r (.mk u1 u2 u3 u4) (by omega) (by omega)
   have hiff:inL (Nd.mk t1 t2 t3 t4).kids ((a:Int)::(b:Int)::r)↔inL (Nd.mk u1 u2 u3 u4).kids r:=by
    simp only[Nd.kids]
    rw[hin]
    constructor
    ·rintro⟨_,x,g1,_,u,g2,g3⟩
     obtain rfl:=Option.some.inj (hx.symm.trans g1)
     obtain rfl:=Option.some.inj (hu.symm.trans g2)
     exact g3
    ·exact fun g=>⟨by omega,_,hx,by omega,_,hu,g⟩
   refine⟨f,f1,?_⟩
   rcases f2 with ⟨g1,g2⟩ | ⟨l',t',g1,g2,g3⟩
   ·exact .inl ⟨g1,fun g=>g2 (hiff.1 g)⟩
   ·exact .inr ⟨l',t',g1,g2,hiff.trans g3⟩
  ·rw[zAL (by omega)]
   exact⟨_,rfl,.inr ⟨_,_,rfl,by omega,Iff.rfl⟩⟩
theorem zVb (n:Nat) (t:Nd) (l:List Int) (h:l.length<n) (hb:l.length<=1073741824):∃ b,zD1 n t l=some b/\(b=true↔inL t.kids l):=by
 obtain⟨f,f1,f2⟩:=zSz n l t (by omega) hb;obtain⟨t1,t2,t3,t4⟩:=t;unfold zD1;simp only[f1,Option.bind_some]
 rcases f2 with ⟨rfl,g⟩ | ⟨l',⟨u1,u2,u3,u4⟩,rfl,g1,g2⟩
 ·exact⟨false,rfl,fun h=>(by cases h),fun h=>absurd h g⟩
 ·simp only[g2]
  match l',g1 with
  | [],_=>exact⟨false,rfl,fun h=>(by cases h),fun h=>False.elim h⟩
  | [o],_ =>
   have e0:at? [o] 0=some o:=rfl;have e1:((([o]:List Int).length:Int) == 1)=true:=rfl;simp only[e0,e1,cond_true,Option.bind_some,zK7,Nd.kids]
   by_cases c:0<=o
   ·rw[zAN c]
    exact⟨_,rfl,fun h=>⟨c,of_decide_eq_true h⟩,fun h=>decide_eq_true h.2⟩
   ·rw[zAL c]
    exact⟨_,rfl,fun h=>(by cases h),fun h=>absurd h.1 c⟩
  | [a,b],_ =>
   have e1:((([a,b]:List Int).length:Int) == 1)=false:=rfl;simp only[e1,cond_false,Option.bind_some]
   refine⟨false,rfl,fun h=>(by cases h),fun h=>?_⟩
   obtain⟨_,x,_,_,u,_,g3⟩:=zFi.1 h;exact False.elim g3
theorem zUf (n:Nat){t:Nd} (hv:zAJ t=true) (l:List Int) (hn:200000000<n) (hb:l.length<=16777216):∃ b,zBY n t l=some b/\zDB n t l=some b:=by
 have hw:=zLR hv;have hc:=Nd.cnt_w t;obtain⟨b,h1,h2⟩:=zVb n t l (by omega) (by omega)
 have v1:=zB6 n t (by omega) (by omega)
 have v2:=zDQ n t (by omega) (by omega)
 obtain⟨b',h3,h4⟩:=zPM n t l v2 (by omega) (by omega) (by omega)
 have e:b=b':=Bool.eq_iff_iff.2 (h2.trans ⟨fun g=>h4.2 ⟨hv,g⟩,fun g=>(h4.1 g).2⟩)
 subst e;refine⟨b,?_,h3⟩
 rw[hv]at v1;obtain⟨t1,t2,t3,t4⟩:=t;unfold zBY;simp only[v1,Option.bind_some,cond_true,h1]
theorem zM5 (n:Nat){t:Nd} (hv:zAJ t=true) (c:Cur) (hn:200000000<n) (h1:c.1.length<=16777216) (h2:c.2.length<=16777216):∃ b,zB7 n t c=some b/\zC8 n t c=some b:=by
 obtain⟨b1,f1,g1⟩:=zUf n hv c.1 hn h1;obtain⟨b2,f2,g2⟩:=zUf n hv c.2 hn h2;obtain⟨p,q⟩:=c;obtain⟨t1,t2,t3,t4⟩:=t;dsimp only at f1 f2 g1 g2;unfold zB7 zC8;simp only[f1,g1,Option.bind_some]
 cases b1 with
 | false=>exact⟨_,rfl,rfl⟩
 | true =>
  simp only[cond_true]
  cases((q.length:Int) == 0) with
  | true=>exact⟨_,rfl,rfl⟩
  | false =>
   simp only[cond_false,f2,g2,Option.bind_some]
   exact⟨_,rfl,rfl⟩
structure RBul (r:Rc):Prop where
 len:r.1.length<=1048576
 ops:∀ o∈r.1,zMh o<=1048576
 b1:r.2.1.1.length<=1048576
 b2:r.2.1.2.length<=1048576
 a1:r.2.2.1.length<=1048576
 a2:r.2.2.2.length<=1048576
structure DBul (d:Dc):Prop where
 title:d.1.length<=1048576
 tree:d.2.1.w<=1048576
 len:d.2.2.1.length<=1048576
 recs:∀ r∈d.2.2.1,RBul r
theorem RBul.few {r:Rc} (h:RBul r) (hl:r.1.length<=8):RFew r:=⟨by omega,h.ops,by have:=h.b1; omega,by have:=h.b2; omega,by have:=h.a1; omega,by have:=h.a2; omega⟩
structure DFew (d:Dc):Prop where
 title:d.1.length<=300
 tree:d.2.1.cnt<=200
 len:d.2.2.1.length<=20
 recs:∀ r∈d.2.2.1,RFew r
theorem zSv (n:Nat) (l:List Op8) (hn:200<n) (hl:l.length<=2000000):∀ (k i:Nat),l.length - i<k->∃ fl,zC7 n l k (i:Int)=some fl/\(∀ b,fl = .ret b->b=false)
 | 0,i,h=>by omega
 | k+1,i,h=>by
  unfold zC7
  by_cases hj:i<l.length
  ·obtain⟨b,h1⟩:=zQL n l[i] hn;have ha:=zBc hj;obtain⟨f,g1,g2⟩:=zSv n l hn hl k (i+1) (by omega)
   generalize l[i]=o at h1 ha;obtain⟨q1,q2,q3,q4,q5,q6,q7,q8⟩:=o;rw[zAN (Int.ofNat_lt.2 hj),cond_true]
   simp only[ha,Option.bind_some,h1]
   cases b with
   | false=>exact⟨_,rfl,fun b h=>(by cases h; rfl)⟩
   | true =>
    simp only[Bool.not_true,cond_false,zA4 (show i<9223372036854775807 by omega)]
    exact⟨f,g1,g2⟩
  ·rw[zAL (by omega)]
   exact⟨_,rfl,fun b h=>by cases h⟩
theorem zSu (n:Nat) (hn:3000000<n) (l:List Rc) (hl:l.length<=1048576) (hb:∀ r∈l,RBul r):∀ (k i:Nat),l.length - i<k->zCs n l k (i:Int)=some (.ret false)∨(zCs n l k (i:Int)=some (.go ())/\∀ r∈l.drop i,RFew r)
 | 0,i,h=>by omega
 | k+1,i,h=>by
  unfold zCs
  by_cases hj:i<l.length
  ·have hr:=hb _ (List.getElem_mem hj)
   have ha:=zBc hj;have hd:=List.drop_eq_getElem_cons hj;have ih:=zSu n hn l hl hb k (i+1) (by omega)
   obtain⟨fl,e1,e2⟩:=zSv n (l[i]).1 (by omega) (by have:=hr.len; omega) n 0 (by have:=hr.len; omega)
   rw[show((0:Nat):Int)=0 from rfl]at e1;generalize l[i]=r at hr ha hd e1;have hr1:=hr.few;obtain⟨ops,⟨b1,b2⟩,⟨a1,a2⟩⟩:=r;dsimp only at e1 hr1;rw[zAN (Int.ofNat_lt.2 hj),cond_true]
   simp only[ha,Option.bind_some]
   by_cases c:8<ops.length
   ·rw[zAN (by omega)]
    exact .inl rfl
   rw[zAL (by omega)]
   simp only[cond_false,Option.bind_some]
   cases decide (200<(IntKind.i64.wrap ((IntKind.i64.wrap ((IntKind.i64.wrap ((b1.length:Int)+(b2.length:Int)))+(a1.length:Int)))+(a2.length:Int)))) with
   | true=>exact .inl rfl
   | false =>
    simp only[cond_false,e1,Option.bind_some]
    cases fl with
    | ret b =>
     rw[e2 b rfl]
     exact .inl rfl
    | go u =>
     dsimp only;rw[zA4 (show i<9223372036854775807 by omega)]
     rcases ih with ih | ⟨ih,ih2⟩
     ·exact .inl ih
     ·refine .inr ⟨ih,fun r hr=>?_⟩
      rw[hd]at hr;rcases List.mem_cons.1 hr with rfl | hr
      ·exact hr1 (by omega)
      ·exact ih2 r hr
  ·rw[zAL (by omega)]
   refine .inr ⟨rfl,fun r hr=>?_⟩
   rw[List.drop_eq_nil_iff.2 (by omega)]at hr;cases hr
theorem zTs (n:Nat) (hn:3000000<n) (d:Dc) (hb:DBul d):∃ y,zG8 n d=some y/\(y=true->DFew d):=by
 have h1:=zSu n hn d.2.2.1 hb.len hb.recs n 0 (by have:=hb.len; omega)
 obtain⟨y,h2,h3⟩:=zT7 n d.2.1 200 (by omega) (by omega)
 rw[show((200:Nat):Int)=200 from rfl]at h2;rw[show((0:Nat):Int)=0 from rfl,List.drop_zero]at h1;obtain⟨ti,⟨t1,t2,t3,t4⟩,rs,dn⟩:=d;unfold zG8;dsimp only at h1 h2 h3 ⊢;rcases h1 with h1 | ⟨h1,h4⟩
 ·rw[h1]
  exact⟨false,rfl,fun h=>by cases h⟩
 ·simp only[h1,h2,Option.bind_some]
  cases y with
  | false=>exact⟨false,rfl,fun h=>by cases h⟩
  | true =>
   simp only[cond_true]
   by_cases c:(rs.length:Int)<=20
   ·rw[zAN c]
    exact⟨_,rfl,fun h=>⟨by have:=of_decide_eq_true h; dsimp only; omega,h3 rfl,by dsimp only; omega,h4⟩⟩
   ·rw[zAL c]
    exact⟨_,rfl,fun h=>by cases h⟩
theorem zOm {n:Nat}{ss:List S} (h:Typed T n 25 ss):∃ l:List Rc,ss=[.sl 5 ((List.map zAi) l)]:=by
 obtain⟨m,rows,rfl,rfl,_,hr⟩:=zFr (T:=T) (e:=60) rfl rfl h;obtain⟨ks,rfl,hks⟩:=zJl (f:=zAi) (q:=fun _=>True) (l:=rows) fun r hr'=>by
  obtain⟨s,hs⟩:=zPZ (hr r hr')
  exact⟨s,hs,trivial⟩
 exact⟨ks,rfl⟩
theorem zMB {n:Nat}{ss:List S} (h:Typed T n 27 ss):∃ d:Dc,ss=zAs d:=by
 obtain⟨m,rfl,a0,q0,rfl,u0,a1,q1,rfl,u1,a2,q2,rfl,u2,a3,q3,rfl,u3,rfl⟩:=zED (T:=T) (t:=27) rfl rfl h;obtain⟨x0,rfl,_⟩:=zJc (T:=T) rfl rfl u0;obtain⟨⟨y1,y2,y3,y4⟩,rfl,_⟩:=zT4 u1;obtain⟨x2,rfl⟩:=zOm u2;obtain⟨x3,rfl,_⟩:=zD6 (T:=T) (k:=.i64) rfl rfl u3;exact⟨(x0,.mk y1 y2 y3 y4,x2,x3),rfl⟩
theorem zTC (o:Op8):zMh o<=zCV (zAr o):=by
 have h1:=Nd.ws_bulk o.2.2.2.2.1;have h2:=zGY .i64 o.2.1;unfold zMh;simp only[zAr,zCV,S.bulk,Op8.nodes,Op8.text,Op8.row]
 omega
theorem zUH (r:Rc) (h:zCV (zAi r)<=1048576):RBul r:=by
 simp only[zAi,zCV,S.bulk]at h;have i1:=zGY .i64 r.2.1.1;have i2:=zGY .i64 r.2.1.2;have i3:=zGY .i64 r.2.2.1;have i4:=zGY .i64 r.2.2.2;have i5:=zUD (l:=r.1)
 refine⟨by omega,fun o ho=>?_,by omega,by omega,by omega,by omega⟩
 have h1:=zND (f:=zAr) ho;have h2:=zTC o
 omega
theorem zUs (d:Dc) (h:zCV (zAs d)<=1048576):DBul d:=by
 obtain⟨ti,t,rs,dn⟩:=d;have ha:=Nd.w_bulk t;obtain⟨y1,y2,y3,y4⟩:=t;simp only[zAs,zCV,S.bulk]at h;simp only[Nd.enc,zCV,S.bulk]at ha;have h1:=zIQ (rows:=rs.map zAi) fun r hr=>by
  obtain⟨o,_,rfl⟩:=List.mem_map.1 hr;simp only[zAi,List.length_cons]
  omega
 rw[List.length_map]at h1;refine⟨?_,?_,?_,fun r hr=>zUH r ?_⟩
 ·dsimp only; omega
 ·dsimp only; omega
 ·dsimp only; omega
 ·have:=zND (f:=zAi) hr;dsimp only at this
  omega
structure Trs (rs:List Rc) (ts:List Nd):Prop where
 len:ts.length=rs.length+1
 valid:∀ t∈ts,zAJ t=true
 step:∀ (i:Nat) (r:Rc),rs[i]? = some r->∃ t u,ts[i]? = some t/\ts[i+1]? = some u/\Runs t r.1 u 0
theorem Trs.one {t:Nd} (h:zAJ t=true):Trs [] [t]:=⟨rfl,fun u hu=>by rw[List.mem_singleton.1 hu]; exact h,fun i r h=>by simp at h⟩
theorem Trs.cons {rs:List Rc}{ts:List Nd}{r:Rc}{t u:Nd} (h:Trs rs ts) (hu:ts[0]? = some u) (hv:zAJ t=true) (hr:Runs t r.1 u 0):Trs (r::rs) (t::ts):=by
 refine⟨by have:=h.len; simp only[List.length_cons]; omega,fun v hv'=>?_,fun i q hq=>?_⟩
 ·rcases List.mem_cons.1 hv' with rfl | hm
  ·exact hv
  ·exact h.valid v hm
 ·cases i with
  | zero =>
   obtain rfl:r=q :=(by simpa using hq);exact⟨t,u,rfl,hu,hr⟩
  | succ i=>exact h.step i q (by simpa using hq)
def zTq (t:Nd):Int×List UInt8×Int×List Nd:=(t.kind,t.text,t.cols,t.kids)
def verL (n:Nat) (rs:List Rc) (a:Int) (k:Nat) (t z:Nd) (i:Int):=zBn n rs a k t.kind t.text t.cols t.kids z.kind z.text z.cols z.kids i
def valL (n:Nat) (rs:List Rc) (k:Nat) (t:Nd) (i:Int):=zCc n rs k t.kind t.text t.cols t.kids i
theorem zJ8 (n:Nat) (hn:200000000<n){rs:List Rc} (hl:rs.length<=1000) (hf:∀ r∈rs,RFew r) (a:Int):∀ (k i:Nat) (t z:Nd),rs.length - i<k->i<=rs.length->zAJ t=true ->
  (verL n rs a k t z (i:Int)=some (.ret (.mk 0 [] 0 [],false))/\valL n rs k t (i:Int)=some (.ret false)) ∨
  (valL n rs k t (i:Int)=some (.go ())/\∃ ts z',Trs (rs.drop i) ts/\ts[0]? = some t/\verL n rs a k t z (i:Int)=some (.go (zTq z'))/\(a<=(i:Int)->z'=z)/\(∀ m:Nat,0<m->a=((i+m:Nat):Int)->a<=(rs.length:Int)->ts[m]? = some z'))
 | 0,i,t,z,h,_,_=>by omega
 | k+1,i,t,z,h,hi,hv=>by
  unfold verL valL zBn zCc
  by_cases hj:i<rs.length
  ·have hr:=hf _ (List.getElem_mem hj)
   have ha:=zBc hj;have hd:=List.drop_eq_getElem_cons hj;obtain⟨u,j,e,g1,g2,g3⟩:=hr.osmall.apply n hn hv;obtain⟨u',j',e',q1,q2⟩:=hr.ref n hn hv;obtain⟨rfl,rfl⟩:=g2.det q2;obtain⟨b1,p1,p2⟩:=zM5 n hv (rs[i]).2.1 hn hr.b1 hr.b2;have hu:e=0->zAJ u=true:=fun he=>by subst he; exact(g2.back hv).2
   have pt:e=0->∃ b2,zB7 n u (rs[i]).2.2=some b2/\zC8 n u (rs[i]).2.2=some b2:=fun he=>zM5 n (hu he) _ hn hr.a1 hr.a2
   have ih:=fun z' he=>zJ8 n hn hl hf a k (i+1) u z' (by omega) (by omega) (hu he)
   rw[zAN (Int.ofNat_lt.2 hj),cond_true,hd]
   simp only[ha]
   generalize rs[i]=r at *;obtain⟨ops,⟨c1,c2⟩,⟨c3,c4⟩⟩:=r;obtain⟨t1,t2,t3,t4⟩:=t;dsimp only at g1 q1 p1 p2 pt;simp only[Nd.kind,Nd.text,Nd.cols,Nd.kids,Option.bind_some,g1,q1]
   by_cases he:e=0
   ·subst he;obtain⟨b2,p3,p4⟩:=pt rfl;have hu':=hu rfl;replace ih:=fun z'=>ih z' rfl
    unfold verL valL at ih;obtain⟨u1,u2,u3,u4⟩:=u;simp only[Nd.kind,Nd.text,Nd.cols,Nd.kids]at ih;simp only[show((0:Int) != 0)=false from rfl,cond_false,p1,p2,p3,p4,Option.bind_some]
    cases b1 with
    | false=>exact .inl ⟨rfl,rfl⟩
    | true =>
     cases b2 with
     | false=>exact .inl ⟨rfl,rfl⟩
     | true =>
      simp only[Bool.not_true,cond_false,Option.bind_some,zA4 (show i<9223372036854775807 by omega)]
      by_cases hai:(((i+1:Nat):Int))=a
      ·have e1:((((i+1:Nat):Int)) == a)=true:=beq_iff_eq.2 hai;simp only[e1,cond_true,Option.bind_some]
       rcases ih (.mk u1 u2 u3 u4) with ih | ⟨h1,ts,z',h2,h3,h4,h5,h6⟩
       ·exact .inl ih
       ·refine .inr ⟨h1,_,z',h2.cons h3 hv g2,rfl,h4,fun h=>by omega,fun m hm ham hal=>?_⟩
        obtain rfl:m=1 :=(by omega);rw[h5 (by omega)]
        exact h3
      ·have e1:((((i+1:Nat):Int)) == a)=false:=beq_eq_false_iff_ne.2 hai;simp only[e1,cond_false,Option.bind_some]
       rcases ih z with ih | ⟨h1,ts,z',h2,h3,h4,h5,h6⟩
       ·exact .inl ih
       ·refine .inr ⟨h1,_,z',h2.cons h3 hv g2,rfl,h4,fun h=>h5 (by omega),fun m hm ham hal=>?_⟩
        obtain⟨m,rfl⟩:∃ j,m=j+1:=⟨m - 1,by omega⟩
        exact h6 m (by omega) (by omega) hal
   ·have hne:(e != 0)=true:=bne_iff_ne.2 he;obtain⟨u1,u2,u3,u4⟩:=u;simp only[hne,cond_true,Option.bind_some]
    exact .inl ⟨trivial,trivial⟩
  ·rw[zAL (by omega),List.drop_eq_nil_iff.2 (by omega)]
   exact .inr ⟨rfl,[t],z,Trs.one hv,rfl,rfl,fun _=>rfl,fun m hm ham hal=>by omega⟩
theorem zR7 (n:Nat) (hn:200000000<n){d:Dc} (hb:DBul d) (hf:DFew d) :
  (zDC n d=some false/\∀ a,zBH n d a=some (.mk 0 [] 0 [],false)) ∨
  (zDC n d=some true/\zAJ d.2.1=true/\d.2.2.1.length<=1000/\(∃ j:Nat,d.2.2.2=(j:Int)/\j<=d.2.2.1.length)/\∃ ts,Trs d.2.2.1 ts/\ts[0]? = some d.2.1 /\
   ∀ a,∃ z,zBH n d a=some (z,true)/\(∀ m:Nat,a=(m:Int)->m<=d.2.2.1.length->ts[m]? = some z)):=by
 have k1:=hf.title;have k2:=hf.len;have k3:=hb.tree;have t1:=zTa n d.1 (by omega) (by omega)
 have t2:=zGE n d.1 (by omega) (by omega)
 have v1:=zB6 n d.2.1 (by omega) (by omega)
 have v2:=zDQ n d.2.1 (by omega) (by omega)
 have lp:=fun a hv=>zJ8 n hn (rs:=d.2.2.1) (by omega) hf.recs a n 0 d.2.1 d.2.1 (by omega) (Nat.zero_le _) hv
 have hc:=fun hv:zAJ d.2.1=true=>zR6 hv
 obtain⟨ti,t,rs,dn⟩:=d;dsimp only at *;unfold zBH zDC
 by_cases c1:200<ti.length
 ·refine .inl ⟨?_,fun a=>?_⟩
  ·obtain⟨q1,q2,q3,q4⟩:=t;dsimp only;rw[zAN (by omega)]; rfl
  ·obtain⟨q1,q2,q3,q4⟩:=t;dsimp only;rw[t1,zAL (by omega),Bool.and_false]; rfl
 cases c2:ti.all zD7 with
 | false =>
  rw[c2]at t1 t2;refine .inl ⟨?_,fun a=>?_⟩
  ·obtain⟨q1,q2,q3,q4⟩:=t;dsimp only;rw[zAL (by omega),t2]; rfl
  ·obtain⟨q1,q2,q3,q4⟩:=t;dsimp only;rw[t1,Bool.false_and]; rfl
 | true =>
  rw[c2]at t1 t2;rw[zAN (by omega),Bool.and_true]at t1;cases c3:zAJ t with
  | false =>
   rw[c3]at v1 v2;obtain⟨q1,q2,q3,q4⟩:=t;refine .inl ⟨?_,fun a=>?_⟩
   ·dsimp only;rw[zAL (by omega),t2]
    simp only[cond_false,Option.bind_some,Bool.not_true,v2]; rfl
   ·dsimp only;simp only[t1,cond_false,Option.bind_some,Bool.not_true,v1]; rfl
  | true =>
   rw[c3]at v1 v2;have hc':=hc c3;replace lp:=fun a=>lp a c3
   unfold verL valL zTq at lp;obtain⟨q1,q2,q3,q4⟩:=t;simp only[Nd.kind,Nd.text,Nd.cols,Nd.kids]at lp;rw[show((0:Nat):Int)=0 from rfl]at lp;simp only[t1,t2,v1,v2,cond_false,Option.bind_some,Bool.not_true,hc',zAL (show ¬ (200<(ti.length:Int)) by omega),zAL (show ¬ (1000<(rs.length:Int)) by omega)]
   by_cases c4:dn<0
   ·simp only[zAN c4,cond_true,Option.bind_some]
    exact .inl ⟨trivial,fun _=>trivial⟩
   by_cases c5:(rs.length:Int)<dn
   ·simp only[zAL c4,zAN c5,cond_true,cond_false,Option.bind_some]
    exact .inl ⟨trivial,fun _=>trivial⟩
   simp only[zAL c4,zAL c5,cond_false,Option.bind_some]
   rcases lp 0 with ⟨_,h0⟩ | ⟨h0,ts,_,g1,g2,_⟩
   ·refine .inl ⟨by rw[h0]; rfl,fun a=>?_⟩
    rcases lp a with ⟨h1,_⟩ | ⟨h1,_⟩
    ·rw[h1]; rfl
    ·rw[h0]at h1; cases h1
   ·rw[List.drop_zero]at g1;refine .inr ⟨by rw[h0]; rfl,trivial,by omega,⟨dn.toNat,by omega,by omega⟩,ts,g1,g2,fun a=>?_⟩
    rcases lp a with ⟨_,h1⟩ | ⟨_,ts',z,k1,k2,k3,k4,k5⟩
    ·rw[h0]at h1; cases h1
    ·rw[List.drop_zero]at k1;have hts:ts'=ts:=by
      apply List.ext_getElem?
      intro i
      induction i with
      | zero=>rw[g2,k2]
      | succ i ih =>
       by_cases hi:i<rs.length
       ·obtain⟨x,y,x1,x2,x3⟩:=g1.step i _ (List.getElem?_eq_getElem hi)
        obtain⟨x',y',y1,y2,y3⟩:=k1.step i _ (List.getElem?_eq_getElem hi)
        rw[x1,y1]at ih;obtain rfl:=Option.some.inj ih;obtain⟨rfl,_⟩:=x3.det y3;rw[x2,y2]
       ·have:=g1.len;have:=k1.len;rw[List.getElem?_eq_none (by omega),List.getElem?_eq_none (by omega)]
     subst hts;obtain⟨z1,z2,z3,z4⟩:=z;refine⟨.mk z1 z2 z3 z4,by rw[k3]; rfl,fun m ha hm=>?_⟩
     by_cases hm0:m=0
     ·subst hm0;rw[k4 (by omega)]
      exact k2
     ·exact k5 m (by omega) (by omega) (by omega)
theorem zMI (n:Nat){d:Dc}{a:Int}{z:Nd}{b:Bool} (h:zBH n d a=some (z,b)):zCM n d a=some (bif b then (bif decide (a<0) then (.mk 0 [] 0 [],2) else (bif decide ((d.2.2.1.length:Int)<a) then (.mk 0 [] 0 [],2) else (z,0))) else (.mk 0 [] 0 [],1)):=by
 obtain⟨ti,⟨q1,q2,q3,q4⟩,rs,dn⟩:=d;obtain⟨z1,z2,z3,z4⟩:=z;unfold zCM;simp only[h,Option.bind_some]
 cases b with
 | false=>rfl
 | true =>
  simp only[Bool.not_true,cond_false,cond_true]
  cases decide (a<0) with
  | true=>rfl
  | false =>
   simp only[cond_false,Option.bind_some]
   cases decide ((rs.length:Int)<a) <;> rfl
def verR (n:Nat) (rs:List Rc) (a:Int) (k:Nat) (t:Nd) (i:Int):=zBE n rs a k t.kind t.text t.cols t.kids i
theorem zI6 (n:Nat) (hn:200000000<n){rs:List Rc}{ts:List Nd} (ht:Trs rs ts) (hl:rs.length<=1000) (hf:∀ r∈rs,RFew r) (a:Nat) (ha:a<=rs.length):∀ (k i:Nat) (t:Nd),a - i<k->i<=a->ts[i]? = some t ->
  ∃ z,ts[a]? = some z/\verR n rs (a:Int) k t (i:Int)=some (zTq z)
 | 0,i,t,h,_,_=>by omega
 | k+1,i,t,h,hi,hv=>by
  unfold verR zBE
  by_cases hj:i<a
  ·have hj':i<rs.length :=(by omega);have hr:=hf _ (List.getElem_mem hj')
   have h1:=zBc hj';obtain⟨x,u,x1,x2,x3⟩:=ht.step i _ (List.getElem?_eq_getElem hj')
   obtain rfl:=Option.some.inj (hv.symm.trans x1)
   obtain⟨u',j',e',q1,q2⟩:=hr.ref n hn (ht.valid _ (List.mem_of_getElem? hv))
   obtain⟨rfl,rfl⟩:=x3.det q2;obtain⟨z,z1,z2⟩:=zI6 n hn ht hl hf a ha k (i+1) u (by omega) (by omega) x2;refine⟨z,z1,?_⟩
   unfold verR at z2;rw[zAN (by omega),cond_true]
   simp only[h1]
   generalize rs[i]=r at *;obtain⟨ops,⟨c1,c2⟩,⟨c3,c4⟩⟩:=r;obtain⟨t1,t2,t3,t4⟩:=t;obtain⟨u1,u2,u3,u4⟩:=u;dsimp only at q1;simp only[Nd.kind,Nd.text,Nd.cols,Nd.kids]at z2 ⊢;simp only[Option.bind_some,q1,zA4 (show i<9223372036854775807 by omega)]
   exact z2
  ·obtain rfl:i=a :=(by omega);rw[zAL (by omega)]
   exact⟨t,hv,rfl⟩
theorem zP4 (n:Nat) (hn:200000000<n){d:Dc}{ts:List Nd} (hv:zDC n d=some true) (ht:Trs d.2.2.1 ts) (h0:ts[0]? = some d.2.1) (hf:DFew d) (a:Int) :
  zCA n d a=some (.mk 0 [] 0 [],2)/\(a<0∨(d.2.2.1.length:Int)<a)∨∃ m:Nat,∃ z,a=(m:Int)/\m<=d.2.2.1.length/\ts[m]? = some z/\zCA n d a=some (z,0):=by
 have hl:=hf.len;have lp:=fun m hm=>zI6 n hn ht (by omega) hf.recs m hm n 0 d.2.1 (by omega) (Nat.zero_le _) h0
 obtain⟨ti,⟨q1,q2,q3,q4⟩,rs,dn⟩:=d;unfold verR zTq at lp;simp only[Nd.kind,Nd.text,Nd.cols,Nd.kids]at lp;dsimp only at hl ⊢;rw[show((0:Nat):Int)=0 from rfl]at lp;unfold zCA;simp only[hv,Option.bind_some,Bool.not_true,cond_false]
 by_cases c1:a<0
 ·rw[zAN c1]
  exact .inl ⟨rfl,.inl c1⟩
 by_cases c2:(rs.length:Int)<a
 ·rw[zAL c1,zAN c2]
  exact .inl ⟨rfl,.inr c2⟩
 obtain⟨m,rfl⟩:∃ m:Nat,a=(m:Int):=⟨a.toNat,by omega⟩
 obtain⟨⟨z1,z2,z3,z4⟩,k1,k2⟩:=lp m (by omega)
 rw[zAL c1,zAL c2]
 refine .inr ⟨m,.mk z1 z2 z3 z4,rfl,by omega,k1,?_⟩
 simp only[cond_false,Option.bind_some,k2]
theorem zLV (n:Nat) (hn:200000000<n) (hw:zEf n=some true) (d:Dc) (hb:DBul d) (a:Int):zBo n d a=some true:=by
 obtain⟨y,f1,f2⟩:=zTs n (by omega) d hb;cases y with
 | false =>
  obtain⟨ti,⟨q1,q2,q3,q4⟩,rs,dn⟩:=d;unfold zBo;simp only[hw,f1,Option.bind_some,Bool.not_true,cond_false,Bool.not_false,cond_true]
 | true =>
  have hf:=f2 rfl;have z0:=zRG n (.mk 0 [] 0 []) (by simp only[Nd.cnt,Nd.cnts]; omega) (by decide)
  rcases zR7 n hn hb hf with ⟨h1,h2⟩ | ⟨h1,h2,h3,h4,ts,h5,h6,h7⟩
  ·have e1:=zMI n (h2 a)
   obtain⟨ti,⟨q1,q2,q3,q4⟩,rs,dn⟩:=d;rw[cond_false]at e1;unfold zBo zCA;simp only[hw,f1,Option.bind_some,Bool.not_true,cond_false,e1,h1,Bool.not_false,cond_true,beq_self_eq_true,z0]
  ·obtain⟨z,g1,g2⟩:=h7 a;have e1:=zMI n g1;rcases zP4 n hn h1 h5 h6 hf a with ⟨r1,r2⟩ | ⟨m,z',rfl,r2,r3,r4⟩
   ·have e2:zCM n d a=some (.mk 0 [] 0 [],2):=by
     rw[e1,cond_true]
     by_cases c:a<0
     ·rw[zAN c]; rfl
     ·rw[zAL c,zAN (by omega)]; rfl
    obtain⟨ti,⟨q1,q2,q3,q4⟩,rs,dn⟩:=d;unfold zBo;simp only[hw,f1,Option.bind_some,Bool.not_true,cond_false,e2,r1,cond_true,beq_self_eq_true,z0]
   ·obtain rfl:=Option.some.inj (r3.symm.trans (g2 m rfl r2))
    rw[cond_true,zAL (by omega),zAL (by omega),cond_false,cond_false]at e1;have q:=zSg n (h5.valid _ (List.mem_of_getElem? r3)) hn;obtain⟨ti,⟨q1,q2,q3,q4⟩,rs,dn⟩:=d;obtain⟨z1,z2,z3,z4⟩:=z';unfold zBo;simp only[hw,f1,Option.bind_some,Bool.not_true,cond_false,e1,r4,cond_true,beq_self_eq_true,q]
theorem zRA (k:Nat):zEf (k+100)=some true:=by
 with_unfolding_all rfl
end Go.Proofs.YtgplhldfbkmmgaaGreat
