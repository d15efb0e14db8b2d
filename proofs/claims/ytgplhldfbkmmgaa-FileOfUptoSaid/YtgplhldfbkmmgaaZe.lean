/-
  Joined out of: PHs2, PHs3, PHs6, PHs8, PHs9, PFil1, PFil2, PFil3, PFil4, PFAwk.
-/
import Derived.Test.YtgplhldfbkmmgaaZd
set_option linter.unusedVariables false
set_option linter.unusedSimpArgs false
set_option maxHeartbeats 2000000
set_option maxRecDepth 100000
namespace Go.Proofs.Ytgplhldfbkmmgaa
open Go.Abs
theorem zPF {k:Int}{t:List UInt8} (h:zOX k t=true):t.length<=200:=by
 unfold zOX at h
 by_cases k2:k=2
 ·rw[if_pos k2]at h;unfold symB at h
  by_cases h1:t.length=1
  ·omega
  ·rw[if_neg h1]at h;simp only[Bool.and_eq_true,decide_eq_true_eq]at h
   omega
 rw[if_neg k2]at h
 by_cases k3:k=3
 ·rw[if_pos k3]at h;unfold numB at h;simp only[Bool.and_eq_true,decide_eq_true_eq]at h
  omega
 rw[if_neg k3]at h
 by_cases k4:k=4
 ·rw[if_pos k4]at h;simp only[Bool.and_eq_true,decide_eq_true_eq]at h;exact h.1
 rw[if_neg k4]at h
 by_cases k10:k=10
 ·rw[if_pos k10]at h;obtain⟨e,he,h2⟩:=List.any_eq_true.1 h;rw[← eq_of_beq h2]
  have:∀ e∈acL,e.length<=200 :=(by decide);exact this e he
 rw[if_neg k10]at h
 by_cases k11:k=11
 ·rw[if_pos k11]at h;unfold fenB at h;simp only[Bool.and_eq_true,decide_eq_true_eq]at h
  omega
 rw[if_neg k11]at h;rw[eq_of_beq h]
 exact Nat.zero_le _
mutual
theorem zPL:∀ t:Nd,zJd t=true->t.w+1<=202 * t.cnt
 | .mk k t c ks,h=>by
  simp only[zJd,Bool.and_eq_true]at h
  have h1:=zPF h.1.1
  have h2:=zOo ks k h.2
  simp only[Nd.w,Nd.cnt]
  omega
theorem zOo:∀ (l:List Nd) (k:Int),zJe k l=true->Nd.ws l<=202 * Nd.cnts l
 | [],_,_=>Nat.zero_le _
 | v::l,k,h=>by
  simp only[zJe,Bool.and_eq_true]at h
  have h1:=zPL v h.1.2
  have h2:=zOo l k h.2
  simp only[Nd.ws,Nd.cnts]
  omega
end
theorem zNf {t:Nd} (h:zB9 t=true):t.w<=202000:=by
 obtain⟨k,f,c,d⟩:=zNe h;have:=zPL t f
 omega
structure OSmall (l:List Op8):Prop where
 size:sw l<=20000000
 op:∀ o∈l,opw o<=1900000
 isize:sw (l.map invO)<=20000000
 oi:∀ o∈l,opw (invO o)<=1900000
 row:∀ o∈l,o.row.length<=16777216
theorem OSmall.len {l:List Op8} (h:OSmall l):l.length<=5000000:=by
 have:=zPN l;have:=h.size
 omega
theorem OSmall.cnt {l:List Op8} (h:OSmall l):∀ o∈l,Nd.cnts o.nodes<=1900000:=fun o ho=>by
 have h1:=h.op o ho;have h2:=Nd.cnts_ws o.nodes;unfold opw at h1
 omega
abbrev Cur:=List Int×List Int
abbrev Rc:=List Op8×Cur×Cur
abbrev Hs:=Nd×Nd×List Rc×Int
theorem zFO {l:List Nd} (hb:Nd.cnts l<=16777216):∀ (k i:Nat),l.length - i<k->i<=l.length->zBi l k (i:Int) (l.take i)=some l
 | 0,i,h,_=>by omega
 | k+1,i,h,hi=>by
  have hlen:=Nd.cnts_len l;unfold zBi
  by_cases hj:i<l.length
  ·have hm:=Nd.cnts_mem (List.getElem_mem hj)
   have hd:zAR l[i]=some l[i]:=zMT (by omega)
   have ht:l.take i++[l[i]]=l.take (i+1) :=(by rw[List.take_append_getElem hj]);rw[zCK (Int.ofNat_lt.2 hj),cond_true,zFv hj]
   have ih:=zFO hb k (i+1) (by omega) (by omega)
   rw[← ht]at ih;generalize l[i]=v at *;obtain⟨v1,v2,v3,v4⟩:=v;simp only[Option.bind_some,hd]
   rw[zIF (by simp only[List.length_take,List.length_cons,List.length_nil]; omega),zCY (show i<9223372036854775807 by omega),ih]
  ·rw[zCd (by omega),cond_false,List.take_of_length_le (by omega)]
theorem zNN (n:Nat) (o:Op8) (hn:Nd.cnts o.nodes<n) (hb:Nd.cnts o.nodes<=16777216) (hr:o.row.length<=16777216):zFa n o=some o:=by
 obtain⟨k,row,a,m,nodes,slot,old,text⟩:=o;simp only[Op8.nodes,Op8.row]at hn hb hr;have hlen:=Nd.cnts_len nodes;have h1:zBl row=some row:=zIF (by omega)
 have h2:=zFO hb n 0 (by omega) (by omega)
 rw[show((0:Nat):Int)=0 from rfl,List.take_zero]at h2;unfold zFa zCT zED;simp only[h1,h2,Option.bind_some]
theorem zHC (n:Nat){l:List Op8} (ho:∀ o∈l,zFa n o=some o) (hl:l.length<=1073741824):∀ (k i:Nat),l.length - i<k->i<=l.length->zBR n l k (i:Int) (l.take i)=some l
 | 0,i,h,_=>by omega
 | k+1,i,h,hi=>by
  unfold zBR
  by_cases hj:i<l.length
  ·have hd:=ho _ (List.getElem_mem hj)
   have ht:l.take i++[l[i]]=l.take (i+1) :=(by rw[List.take_append_getElem hj]);rw[zCK (Int.ofNat_lt.2 hj),cond_true,zFv hj]
   have ih:=zHC n ho hl k (i+1) (by omega) (by omega)
   rw[← ht]at ih;generalize l[i]=v at *;obtain⟨v1,v2,v3,v4,v5,v6,v7,v8⟩:=v;simp only[Option.bind_some,hd]
   rw[zIF (by simp only[List.length_take,List.length_cons,List.length_nil]; omega),zCY (show i<9223372036854775807 by omega),ih]
  ·rw[zCd (by omega),cond_false,List.take_of_length_le (by omega)]
theorem zGJ (c:Cur) (h1:c.1.length<=1073741824) (h2:c.2.length<=1073741824):zBw c=some c:=by
 obtain⟨p,q⟩:=c;have e1:zBl p=some p:=zIF (by dsimp only at h1; omega)
 have e2:zBl q=some q:=zIF (by dsimp only at h2; omega)
 unfold zBw zCT;simp only[e1,e2,Option.bind_some]
structure RSmall (r:Rc):Prop where
 ops:OSmall r.1
 b1:r.2.1.1.length<=16777216
 b2:r.2.1.2.length<=16777216
 a1:r.2.2.1.length<=16777216
 a2:r.2.2.2.length<=16777216
theorem RSmall.before {r:Rc} (h:RSmall r):zBw r.2.1=some r.2.1:=zGJ _ (by have:=h.b1; omega) (by have:=h.b2; omega)
theorem RSmall.after {r:Rc} (h:RSmall r):zBw r.2.2=some r.2.2:=zGJ _ (by have:=h.a1; omega) (by have:=h.a2; omega)
theorem RSmall.copy {r:Rc} (h:RSmall r) (n:Nat) (hn:200000000<n):zCr n r=some r:=by
 have h2:=h.before;have h3:=h.after;have hl:=h.ops.len;have h1:=zHC n (l:=r.1) (fun o ho=>by
  have g1:=h.ops.cnt o ho;have g2:=h.ops.row o ho;exact zNN n o (by omega) (by omega) (by omega)) (by omega) n 0 (by omega) (Nat.zero_le _)
 rw[show((0:Nat):Int)=0 from rfl,List.take_zero]at h1;obtain⟨a,⟨b1,b2⟩,⟨c1,c2⟩⟩:=r;dsimp only at h1 h2 h3;unfold zCr zGf;simp only[h1,h2,h3,Option.bind_some]
theorem zKS {t:Nd} (h:zB9 t=true):zAR t=some t:=by
 have h1:=zNf h;have h2:=Nd.cnt_w t;exact zMT (by omega)
structure HInv (h:Hs) (ts:List Nd):Prop where
 len:ts.length=h.2.2.1.length+1
 orig:ts[0]? = some h.1
 valid:∀ t∈ts,zB9 t=true
 step:∀ (i:Nat) (r:Rc),h.2.2.1[i]? = some r->∃ t u,ts[i]? = some t/\ts[i+1]? = some u/\Runs t r.1 u 0
 small:∀ r∈h.2.2.1,RSmall r
 lim:h.2.2.1.length<=1000
structure HAt (h:Hs) (ts:List Nd) (j:Nat):Prop where
 inv:HInv h ts
 done:h.2.2.2=(j:Int)
 le:j<=h.2.2.1.length
 tree:ts[j]? = some h.2.1
theorem zQb (n:Nat){t:Nd} (hn:200000000<n) (ht:t.w<=16777216):zDf n t=some (bif zB9 t then (some (t,t,[],0),0) else (none,1))/\(zB9 t=true->HAt (t,t,[],0) [t] 0):=by
 have v:=zHF n t (by omega) (by omega)
 have ct:=Nd.cnt_w t;have hd:zAR t=some t:=zMT (by omega)
 refine⟨?_,fun hv=>⟨⟨rfl,rfl,fun u hu=>by rw[List.mem_singleton.1 hu]; exact hv,fun i r h=>by simp at h,fun r h=>by simp at h,Nat.zero_le _⟩,rfl,Nat.le_refl _,rfl⟩⟩
 obtain⟨t1,t2,t3,t4⟩:=t;unfold zDf;simp only[v,hd,Option.bind_some]
 cases zB9 (.mk t1 t2 t3 t4) <;> rfl
theorem zOe (n:Nat){t:Nd} (hv:zB9 t=true) (hn:200000000<n):zBk n t t=some true:=by
 have h1:=zNf hv;have h2:=Nd.cnt_w t;obtain⟨r,g1,g2⟩:=(zNg n).1 t t (by omega) (by omega)
 rw[g1,g2.2 rfl]
theorem zHA (n:Nat){l:List Rc} (ho:∀ r∈l,zCr n r=some r) (hl:l.length<=1073741824):∀ (k i:Nat),l.length - i<k->i<=l.length->zAO n l k (i:Int) (l.take i)=some l
 | 0,i,h,_=>by omega
 | k+1,i,h,hi=>by
  unfold zAO
  by_cases hj:i<l.length
  ·have hd:=ho _ (List.getElem_mem hj)
   have ht:l.take i++[l[i]]=l.take (i+1) :=(by rw[List.take_append_getElem hj]);rw[zCK (Int.ofNat_lt.2 hj),cond_true,zFv hj]
   have ih:=zHA n ho hl k (i+1) (by omega) (by omega)
   rw[← ht]at ih;generalize l[i]=v at *;obtain⟨v1,⟨v2,v3⟩,⟨v4,v5⟩⟩:=v;simp only[Option.bind_some,hd]
   rw[zIF (by simp only[List.length_take,List.length_cons,List.length_nil]; omega),zCY (show i<9223372036854775807 by omega),ih]
  ·rw[zCd (by omega),cond_false,List.take_of_length_le (by omega)]
theorem zNB (n:Nat) (hn:200000000<n){h:Hs}{ts:List Nd}{j:Nat} (a:HAt h ts j):zAU n h=some (h.2.2.1,h):=by
 have hlim:=a.inv.lim;have g:=zHA n (l:=h.2.2.1) (fun r hr=>(a.inv.small r hr).copy n hn) (by omega) n 0 (by omega) (Nat.zero_le _)
 rw[show((0:Nat):Int)=0 from rfl,List.take_zero]at g;obtain⟨⟨x1,x2,x3,x4⟩,⟨y1,y2,y3,y4⟩,z,w⟩:=h;dsimp only at g;unfold zAU zB7;simp only[g,Option.bind_some]
theorem zPP {h:Hs}:zBn h=some (h.2.2.2,h):=by
 obtain⟨⟨x1,x2,x3,x4⟩,⟨y1,y2,y3,y4⟩,z,w⟩:=h
 rfl
theorem zOa {h:Hs} (hv:zB9 h.1=true):zAX h=some (h.1,h):=by
 have hd:=zKS hv;obtain⟨⟨a1,a2,a3,a4⟩,⟨b1,b2,b3,b4⟩,rs,d⟩:=h;dsimp only at hd;unfold zAX;simp only[hd,Option.bind_some]
abbrev Dc:=List UInt8×Nd×List Rc×Int
theorem zOY (n:Nat) (s:List UInt8) (h:s.length<n) (hb:s.length<=1073741824):zDd n s=some (s.all zCP&&decide ((s.length:Int)<=200)):=by
 have:=zGe (p:=zCP) (l:=s) (zA5 s) hb (fun k i h=>by
  rw[zA5,zCK (Int.ofNat_lt.2 h),cond_true,zFv h]
  simp only[Option.bind_some,zJD]
  rw[zCY (by omega)]
  cases zCP s[i] <;> rfl) (fun k=>by rw[zA5,zCd (by omega)]; rfl) n 0 (by omega) (by omega)
 rw[show((0:Nat):Int)=0 from rfl,List.drop_zero]at this;rw[zDd,this]
 unfold zLU;cases s.all zCP <;> rfl
theorem zN5 (n:Nat){d:Dc}{z:Nd}{b:Bool} (h:zB1 n d 0=some (z,b)):zBO n d=some b:=by
 obtain⟨ti,⟨q1,q2,q3,q4⟩,rs,dn⟩:=d;obtain⟨z1,z2,z3,z4⟩:=z;unfold zBO;simp only[h,Option.bind_some]
theorem zQy (n:Nat) (hn:200000000<n){h:Hs}{ts:List Nd}{j:Nat} (a:HAt h ts j) (ti:List UInt8){b:Bool} (hV:zBO n (ti,h.1,h.2.2.1,h.2.2.2)=some b):zFT n h ti=some (bif b then ((ti,h.1,h.2.2.1,h.2.2.2),0,h) else (([],.mk 0 [] 0 [],[],0),1,h)):=by
 have og:=zOa (a.inv.valid _ (List.mem_of_getElem? a.inv.orig))
 have rr:=zNB n hn a;obtain⟨⟨x1,x2,x3,x4⟩,⟨y1,y2,y3,y4⟩,z,w⟩:=h;dsimp only at hV og rr ⊢;unfold zFT;simp only[og,rr,zPP,hV,Option.bind_some]
 cases b <;> rfl
theorem zPQ (n:Nat) (hn:200000000<n){t:Nd} (hv:zB9 t=true) (ti:List UInt8) (hl:ti.length<=300):zBO n (ti,t,[],0)=some (ti.all zCP&&decide ((ti.length:Int)<=200)):=by
 have hw:=zNf hv;have t1:=zOY n ti (by omega) (by omega)
 have v1:=zHF n t (by omega) (by omega)
 have hc:=zKS hv;have lp:∃ z:Nd,zB1 n (ti,t,[],0) 0=some (z,ti.all zCP&&decide ((ti.length:Int)<=200)):=by
  rw[hv]at v1;obtain⟨m,rfl⟩:∃ m,n=m+1:=⟨n - 1,by omega⟩
  obtain⟨q1,q2,q3,q4⟩:=t;generalize (ti.all zCP&&decide ((ti.length:Int)<=200))=b at t1;unfold zB1;simp only[t1,Option.bind_some]
  cases b with
  | false=>exact⟨_,rfl⟩
  | true =>
   simp only[Bool.not_true,cond_false,v1,Option.bind_some,hc]
   exact⟨_,rfl⟩
 obtain⟨z,h⟩:=lp;exact zN5 n h
theorem zN6 (n:Nat) (hn:200000000<n) (hw:zDt n=some true) (t:Nd) (ht:t.w<=1048576) (ti:List UInt8) (hti:ti.length<=1048576):zCh n t ti=some true:=by
 obtain⟨y,f1,f2⟩:=zQa n t 200 (by omega) (by omega)
 rw[show((200:Nat):Int)=200 from rfl]at f1;obtain⟨n1,n2⟩:=zQb n hn (t:=t) (by omega)
 have hp:=zIE n ti (by omega) (by omega)
 have o0:zDV ti=some (([],.mk 0 [] 0 [],[],0),7):=rfl;cases y with
 | false =>
  obtain⟨q1,q2,q3,q4⟩:=t;unfold zCh;simp only[hw,f1,Option.bind_some,Bool.not_true,cond_false,Bool.not_false,cond_true]
 | true =>
  by_cases hl:300<ti.length
  ·obtain⟨q1,q2,q3,q4⟩:=t;unfold zCh;simp only[hw,f1,Option.bind_some,Bool.not_true,cond_false,zCK (show(300:Int)<(ti.length:Int) by omega),cond_true]
  ·cases hv:zB9 t with
   | false =>
    rw[hv,cond_false]at n1;obtain⟨q1,q2,q3,q4⟩:=t;unfold zCh;simp only[hw,f1,Option.bind_some,Bool.not_true,cond_false,zCd (show ¬ (300:Int)<(ti.length:Int) by omega),o0,n1]
    rw[zIF trivial]
    rfl
   | true =>
    rw[hv,cond_true]at n1;have a:=n2 hv;have q:=zOe n hv hn;have of:=zQy n hn a ti (zPQ n hn hv ti (by omega))
    dsimp only at of
    clear a n2
    obtain⟨q1,q2,q3,q4⟩:=t;unfold zCh;simp only[hw,f1,Option.bind_some,Bool.not_true,cond_false,zCd (show ¬ (300:Int)<(ti.length:Int) by omega),o0,n1]
    rw[zIF trivial]
    simp only[show((7:Int) != 7)=false from rfl,cond_false,Option.bind_some,of,hp]
    by_cases h2:200<ti.length
    ·rw[zCd (show ¬ (ti.length:Int)<=200 by omega),zCK (show(200:Int)<(ti.length:Int) by omega),Bool.and_false]
     rfl
    ·rw[zCK (show(ti.length:Int)<=200 by omega),zCd (show ¬ (200:Int)<(ti.length:Int) by omega),Bool.and_true]
     cases ti.all zCP with
     | false=>rfl
     | true =>
      simp only[cond_true,cond_false,Option.bind_some,Bool.not_true,show((0:Int) == 0)=true from rfl,beq_self_eq_true,q]
      rfl
theorem zNF (k:Nat):zDt (k+100)=some true:=by
 with_unfolding_all rfl
end Go.Proofs.Ytgplhldfbkmmgaa
