/-
  Joined out of: PHs2, PHs3, PHs4, PR10, PRun7, PHs5, PHs6, PHs8, PHs9, PHsB, PFil1, PTypF, PFil2, PFil3, PFAwk.
-/
import Derived.Test.YtgplhldfbkmmgaaGreatZf
set_option linter.unusedVariables false
set_option linter.unusedSimpArgs false
set_option maxHeartbeats 2000000
set_option maxRecDepth 100000
namespace Go.Proofs.YtgplhldfbkmmgaaGreat
open Go.Abs
theorem zWM {k:Int}{t:List UInt8} (h:zSb k t=true):t.length<=200:=by
 unfold zSb at h
 by_cases k2:k=2
 ·rw[if_pos k2]at h;unfold symB at h
  by_cases h1:t.length=1
  ·omega
  ·rw[if_neg h1]at h;simp only[Bool.and_eq_true,decide_eq_true_eq]at h
   omega
 rw[if_neg k2]at h
 by_cases k3:k=3
 ·rw[if_pos k3]at h;unfold numB at h;simp only[Bool.and_eq_true,decide_eq_true_eq]at h
  omega
 rw[if_neg k3]at h
 by_cases k4:k=4
 ·rw[if_pos k4]at h;simp only[Bool.and_eq_true,decide_eq_true_eq]at h;exact h.1
 rw[if_neg k4]at h
 by_cases k10:k=10
 ·rw[if_pos k10]at h;obtain⟨e,he,h2⟩:=List.any_eq_true.1 h;rw[← eq_of_beq h2]
  have:∀ e∈acL,e.length<=200 :=(by decide);exact this e he
 rw[if_neg k10]at h
 by_cases k11:k=11
 ·rw[if_pos k11]at h;unfold fenB at h;simp only[Bool.and_eq_true,decide_eq_true_eq]at h
  omega
 rw[if_neg k11]at h;rw[eq_of_beq h]
 exact Nat.zero_le _
mutual
theorem zWZ:∀ t:Nd,zF8 t=true->t.w+1<=202 * t.cnt
 | .mk k t c ks,h=>by
  simp only[zF8,Bool.and_eq_true]at h
  have h1:=zWM h.1.1
  have h2:=zVc ks k h.2
  simp only[Nd.w,Nd.cnt]
  omega
theorem zVc:∀ (l:List Nd) (k:Int),zEr k l=true->Nd.ws l<=202 * Nd.cnts l
 | [],_,_=>Nat.zero_le _
 | v::l,k,h=>by
  simp only[zEr,Bool.and_eq_true]at h
  have h1:=zWZ v h.1.2
  have h2:=zVc l k h.2
  simp only[Nd.ws,Nd.cnts]
  omega
end
theorem zJX {t:Nd} (h:zAJ t=true):t.w<=202000:=by
 obtain⟨k,f,c,d⟩:=zJW h;have:=zWZ t f
 omega
structure OSmall (l:List Op8):Prop where
 size:sw l<=20000000
 op:∀ o∈l,opw o<=1900000
 isize:sw (l.map invO)<=20000000
 oi:∀ o∈l,opw (invO o)<=1900000
 row:∀ o∈l,o.row.length<=16777216
theorem OSmall.len {l:List Op8} (h:OSmall l):l.length<=5000000:=by
 have:=zVQ l;have:=h.size
 omega
theorem OSmall.cnt {l:List Op8} (h:OSmall l):∀ o∈l,Nd.cnts o.nodes<=1900000:=fun o ho=>by
 have h1:=h.op o ho;have h2:=Nd.cnts_ws o.nodes;unfold opw at h1
 omega
theorem zX0:∀ l:List Op8,sw l.reverse=sw l
 | []=>rfl
 | o::l=>by rw[List.reverse_cons,zW5,zX0 l]; simp only[sw]; omega
theorem OSmall.apply {l:List Op8} (h:OSmall l) (n:Nat){t:Nd} (hn:200000000<n) (hv:zAJ t=true):∃ u i e,zA5 n t l=some (u,i,e)/\Runs t l u e/\(e=0->i=0):=by
 have hw:=zJX hv;have h1:=h.size;obtain⟨u,i,e,g1,g2,g3⟩:=zU4 n t l hn (by omega) h.op;cases g2 with
 | bad g=>rw[hv]at g; cases g
 | go _ g=>exact⟨u,i,e,g1,g,g3⟩
theorem OSmall.back {l:List Op8} (h:OSmall l) (n:Nat){t u:Nd} (hn:200000000<n) (hv:zAJ t=true) (hr:Runs t l u 0) :
  zCo n l=some (l.map invO).reverse/\zA5 n u (l.map invO).reverse=some (t,0,0)/\zAJ u=true:=by
 obtain⟨hb,vu⟩:=hr.back hv;have hl:=h.len;have hw:=zJX vu;have h1:=h.isize;have h2:sw (l.map invO).reverse=sw (l.map invO):=zX0 _;refine⟨zQt n (fun o ho=>?_) (by omega),?_,vu⟩
 ·have h1:=h.cnt o ho;have h2:=h.row o ho;exact zUF n o (by omega) (by omega) (by omega)
 obtain⟨v,i,e,g1,g2,g3⟩:=zU4 n u (l.map invO).reverse hn (by omega) (fun o ho=>by
  obtain⟨o',ho',rfl⟩:=List.mem_map.1 (List.mem_reverse.1 ho)
  exact h.oi o' ho')
 cases g2 with
 | bad g=>rw[vu]at g; cases g
 | go _ g =>
  obtain⟨rfl,rfl⟩:=zWG g hb;rw[g1,g3 rfl]
abbrev Cur:=List Int×List Int
abbrev Rc:=List Op8×Cur×Cur
abbrev Hs:=Nd×Nd×List Rc×Int
theorem zIg {l:List Nd} (hb:Nd.cnts l<=16777216):∀ (k i:Nat),l.length - i<k->i<=l.length->zBu l k (i:Int) (l.take i)=some l
 | 0,i,h,_=>by omega
 | k+1,i,h,hi=>by
  have hlen:=Nd.cnts_len l;unfold zBu
  by_cases hj:i<l.length
  ·have hm:=Nd.cnts_mem (List.getElem_mem hj)
   have hd:zAS l[i]=some l[i]:=zGK (by omega)
   have ht:l.take i++[l[i]]=l.take (i+1) :=(by rw[List.take_append_getElem hj]);rw[zAO (Int.ofNat_lt.2 hj),cond_true,zA7 hj]
   have ih:=zIg hb k (i+1) (by omega) (by omega)
   rw[← ht]at ih;generalize l[i]=v at *;obtain⟨v1,v2,v3,v4⟩:=v;simp only[Option.bind_some,hd]
   rw[zCc (by simp only[List.length_take,List.length_cons,List.length_nil]; omega),zAR (show i<9223372036854775807 by omega),ih]
  ·rw[zAM (by omega),cond_false,List.take_of_length_le (by omega)]
theorem zUc (n:Nat) (o:Op8) (hn:Nd.cnts o.nodes<n) (hb:Nd.cnts o.nodes<=16777216) (hr:o.row.length<=16777216):zFe n o=some o:=by
 obtain⟨k,row,a,m,nodes,slot,old,text⟩:=o;simp only[Op8.nodes,Op8.row]at hn hb hr;have hlen:=Nd.cnts_len nodes;have h1:zBH row=some row:=zCc (by omega)
 have h2:=zIg hb n 0 (by omega) (by omega)
 rw[show((0:Nat):Int)=0 from rfl,List.take_zero]at h2;unfold zFe zDy zFd;simp only[h1,h2,Option.bind_some]
theorem zKs (n:Nat){l:List Op8} (ho:∀ o∈l,zFe n o=some o) (hl:l.length<=1073741824):∀ (k i:Nat),l.length - i<k->i<=l.length->zC0 n l k (i:Int) (l.take i)=some l
 | 0,i,h,_=>by omega
 | k+1,i,h,hi=>by
  unfold zC0
  by_cases hj:i<l.length
  ·have hd:=ho _ (List.getElem_mem hj)
   have ht:l.take i++[l[i]]=l.take (i+1) :=(by rw[List.take_append_getElem hj]);rw[zAO (Int.ofNat_lt.2 hj),cond_true,zA7 hj]
   have ih:=zKs n ho hl k (i+1) (by omega) (by omega)
   rw[← ht]at ih;generalize l[i]=v at *;obtain⟨v1,v2,v3,v4,v5,v6,v7,v8⟩:=v;simp only[Option.bind_some,hd]
   rw[zCc (by simp only[List.length_take,List.length_cons,List.length_nil]; omega),zAR (show i<9223372036854775807 by omega),ih]
  ·rw[zAM (by omega),cond_false,List.take_of_length_le (by omega)]
theorem zJo (c:Cur) (h1:c.1.length<=1073741824) (h2:c.2.length<=1073741824):zBK c=some c:=by
 obtain⟨p,q⟩:=c;have e1:zBH p=some p:=zCc (by dsimp only at h1; omega)
 have e2:zBH q=some q:=zCc (by dsimp only at h2; omega)
 unfold zBK zDy;simp only[e1,e2,Option.bind_some]
structure RSmall (r:Rc):Prop where
 ops:OSmall r.1
 b1:r.2.1.1.length<=16777216
 b2:r.2.1.2.length<=16777216
 a1:r.2.2.1.length<=16777216
 a2:r.2.2.2.length<=16777216
theorem RSmall.before {r:Rc} (h:RSmall r):zBK r.2.1=some r.2.1:=zJo _ (by have:=h.b1; omega) (by have:=h.b2; omega)
theorem RSmall.after {r:Rc} (h:RSmall r):zBK r.2.2=some r.2.2:=zJo _ (by have:=h.a1; omega) (by have:=h.a2; omega)
theorem RSmall.copy {r:Rc} (h:RSmall r) (n:Nat) (hn:200000000<n):zC1 n r=some r:=by
 have h2:=h.before;have h3:=h.after;have hl:=h.ops.len;have h1:=zKs n (l:=r.1) (fun o ho=>by
  have g1:=h.ops.cnt o ho;have g2:=h.ops.row o ho;exact zUc n o (by omega) (by omega) (by omega)) (by omega) n 0 (by omega) (Nat.zero_le _)
 rw[show((0:Nat):Int)=0 from rfl,List.take_zero]at h1;obtain⟨a,⟨b1,b2⟩,⟨c1,c2⟩⟩:=r;dsimp only at h1 h2 h3;unfold zC1 zIN;simp only[h1,h2,h3,Option.bind_some]
theorem zLd {t:Nd} (h:zAJ t=true):zAS t=some t:=by
 have h1:=zJX h;have h2:=Nd.cnt_w t;exact zGK (by omega)
structure HInv (h:Hs) (ts:List Nd):Prop where
 len:ts.length=h.2.2.1.length+1
 orig:ts[0]? = some h.1
 valid:∀ t∈ts,zAJ t=true
 step:∀ (i:Nat) (r:Rc),h.2.2.1[i]? = some r->∃ t u,ts[i]? = some t/\ts[i+1]? = some u/\Runs t r.1 u 0
 small:∀ r∈h.2.2.1,RSmall r
 lim:h.2.2.1.length<=1000
structure HAt (h:Hs) (ts:List Nd) (j:Nat):Prop where
 inv:HInv h ts
 done:h.2.2.2=(j:Int)
 le:j<=h.2.2.1.length
 tree:ts[j]? = some h.2.1
theorem HAt.vtree {h:Hs}{ts:List Nd}{j:Nat} (a:HAt h ts j):zAJ h.2.1=true:=a.inv.valid _ (List.mem_of_getElem? a.tree)
theorem zXJ (n:Nat){t:Nd} (hn:200000000<n) (ht:t.w<=16777216):zED n t=some (bif zAJ t then (some (t,t,[],0),0) else (none,1))/\(zAJ t=true->HAt (t,t,[],0) [t] 0):=by
 have v:=zB3 n t (by omega) (by omega)
 have ct:=Nd.cnt_w t;have hd:zAS t=some t:=zGK (by omega)
 refine⟨?_,fun hv=>⟨⟨rfl,rfl,fun u hu=>by rw[List.mem_singleton.1 hu]; exact hv,fun i r h=>by simp at h,fun r h=>by simp at h,Nat.zero_le _⟩,rfl,Nat.le_refl _,rfl⟩⟩
 obtain⟨t1,t2,t3,t4⟩:=t;unfold zED;simp only[v,hd,Option.bind_some]
 cases zAJ (.mk t1 t2 t3 t4) <;> rfl
theorem zXb {h:Hs} (hv:zAJ h.2.1=true):zBC h=some (h.2.1,h):=by
 have hd:=zLd hv;obtain⟨⟨a1,a2,a3,a4⟩,⟨b1,b2,b3,b4⟩,rs,d⟩:=h;dsimp only at hd;unfold zBC;simp only[hd,Option.bind_some]
theorem zX5 (n:Nat){h:Hs}{ts:List Nd}{j:Nat} (a:HAt h ts j){r:Rc} (hr:RSmall r) (hn:200000000<n) (hj:j<1000):∃ u e,Runs h.2.1 r.1 u e /\
  ((e ≠ 0/\zBf n h r=some (e,h))∨(e=0/\zBf n h r=some (0,(h.1,u,h.2.2.1.take j++[r],((j+1:Nat):Int)))/\HAt (h.1,u,h.2.2.1.take j++[r],((j+1:Nat):Int)) (ts.take (j+1)++[u]) (j+1))):=by
 obtain⟨u,i,e,g1,g2,g3⟩:=hr.ops.apply n hn a.vtree;refine⟨u,e,g2,?_⟩
 by_cases he:e=0
 ·subst he;refine .inr ⟨rfl,?_,?_⟩
  ·have hd:=a.done;have hle:=a.le;have hc:=hr.copy n hn;obtain⟨⟨a1,a2,a3,a4⟩,⟨b1,b2,b3,b4⟩,rs,d⟩:=h;obtain⟨ops,⟨c1,c2⟩,⟨c3,c4⟩⟩:=r;obtain⟨u1,u2,u3,u4⟩:=u;dsimp only at hd hle g1 hc ⊢;subst hd;unfold zBf;simp only[g1,Option.bind_some,show((0:Int) != 0)=false from rfl,cond_false]
   rw[zAM (by omega),cond_false,zCc ⟨by omega,by omega⟩,hc]
   simp only[Option.bind_some,Int.toNat_natCast]
   rw[zCc (by simp only[List.length_take,List.length_cons,List.length_nil]; omega),zAR (by omega)]
  ·have hle:=a.le;have hlen:=a.inv.len;have hlt:(h.2.2.1.take j).length=j :=(by rw[List.length_take]; omega);have hl2:(ts.take (j+1)).length=j+1 :=(by rw[List.length_take]; omega);have g0:∀ i,i<=j->(ts.take (j+1)++[u])[i]? = ts[i]?:=fun i hi=>by
    rw[List.getElem?_append_left (by omega),List.getElem?_take,if_pos (by omega)]
   have gl:(ts.take (j+1)++[u])[j+1]? = some u:=by
    rw[List.getElem?_append_right (by omega),hl2,Nat.sub_self]; rfl
   refine⟨⟨?_,?_,?_,?_,?_,?_⟩,rfl,?_,gl⟩
   ·simp only[List.length_append,List.length_cons,List.length_nil,hlt,hl2]
   ·rw[g0 0 (Nat.zero_le _)]; exact a.inv.orig
   ·intro t ht;rcases List.mem_append.1 ht with ht | ht
    ·exact a.inv.valid t (List.mem_of_mem_take ht)
    ·rw[List.mem_singleton.1 ht]; exact(g2.back a.vtree).2
   ·intro i q hq;dsimp only at hq
    by_cases hi:i<j
    ·rw[List.getElem?_append_left (by omega),List.getElem?_take,if_pos hi]at hq;obtain⟨t,v,k1,k2,k3⟩:=a.inv.step i q hq;exact⟨t,v,by rw[g0 i (by omega)]; exact k1,by rw[g0 (i+1) (by omega)]; exact k2,k3⟩
    ·rw[List.getElem?_append_right (by omega),hlt]at hq;have hij:i=j:=by
      rcases Nat.lt_or_ge (i - j) 1 with h | h
      ·omega
      ·rw[List.getElem?_eq_none (by simpa using h)]at hq; cases hq
     subst hij;rw[Nat.sub_self]at hq;obtain rfl:r=q :=(by simpa using hq);exact⟨h.2.1,u,by rw[g0 i (Nat.le_refl _)]; exact a.tree,gl,g2⟩
   ·intro q hq;rcases List.mem_append.1 hq with hq | hq
    ·exact a.inv.small q (List.mem_of_mem_take hq)
    ·rw[List.mem_singleton.1 hq]; exact hr
   ·dsimp only;simp only[List.length_append,List.length_cons,List.length_nil,hlt]
    omega
   ·dsimp only;simp only[List.length_append,List.length_cons,List.length_nil,hlt]
    omega
 ·refine .inl ⟨he,?_⟩
  obtain⟨⟨a1,a2,a3,a4⟩,⟨b1,b2,b3,b4⟩,rs,d⟩:=h;obtain⟨ops,⟨c1,c2⟩,⟨c3,c4⟩⟩:=r;obtain⟨u1,u2,u3,u4⟩:=u;dsimp only at g1;unfold zBf;simp only[g1,Option.bind_some,show(e != 0)=true from bne_iff_ne.2 he,cond_true]
def hAt (h:Hs) (t:Nd) (j:Nat):Hs:=(h.1,t,h.2.2.1,(j:Int))
theorem HAt.move {h:Hs}{ts:List Nd}{j k:Nat}{t:Nd} (a:HAt h ts j) (hk:ts[k]? = some t):HAt (hAt h t k) ts k:=by
 refine⟨⟨a.inv.len,a.inv.orig,a.inv.valid,a.inv.step,a.inv.small,a.inv.lim⟩,rfl,?_,hk⟩
 have:=(List.getElem?_eq_some_iff.1 hk).1;have:=a.inv.len;show k<=h.2.2.1.length
 omega
theorem HAt.at {h:Hs}{ts:List Nd}{j k:Nat} (a:HAt h ts j) (hk:k<=h.2.2.1.length):∃ t,ts[k]? = some t :=
 ⟨_,List.getElem?_eq_getElem (by have:=a.inv.len; omega)⟩
theorem zXc (n:Nat){h:Hs}{ts:List Nd}{j:Nat} (a:HAt h ts (j+1)) (hn:200000000<n){r:Rc}{t:Nd} (hr:h.2.2.1[j]? = some r) (ht:ts[j]? = some t):zBD n h=some (r.2.1,0,hAt h t j):=by
 have hd:=a.done;have hlim:=a.inv.lim;have hle:=a.le;have sm:=a.inv.small r (List.mem_of_getElem? hr)
 obtain⟨t',u',k1,k2,k3⟩:=a.inv.step j r hr;obtain rfl:t=t':=Option.some.inj (ht.symm.trans k1)
 obtain rfl:h.2.1=u':=Option.some.inj (a.tree.symm.trans k2)
 obtain⟨e1,e2,e3⟩:=sm.ops.back n hn (a.inv.valid t (List.mem_of_getElem? ht)) k3;have hc:=sm.before;have hr':at? h.2.2.1 (j:Int)=some r:=by
  obtain⟨h1,rfl⟩:=List.getElem?_eq_some_iff.1 hr;exact zA7 h1
 unfold hAt;obtain⟨⟨a1,a2,a3,a4⟩,⟨b1,b2,b3,b4⟩,rs,d⟩:=h;obtain⟨ops,⟨c1,c2⟩,⟨c3,c4⟩⟩:=r;obtain⟨t1,t2,t3,t4⟩:=t;dsimp only at hd hr' e1 e2 hc hlim hle ⊢;subst hd;have hw:IntKind.i64.wrap (((j+1:Nat):Int) - 1)=(j:Int) :=(by rw[wrap64_in (by omega) (by omega)]; omega);unfold zBD;dsimp only;rw[zB7 (by omega),cond_false,hw,hr']
 simp only[Option.bind_some,e1,e2,show((0:Int) != 0)=false from rfl,cond_false,hc]
def zM0 (o:Op8):Nat:=Nd.ws o.nodes+o.2.2.2.2.2.2.1.length+o.text.length+o.row.length
structure RFew (r:Rc):Prop where
 len:r.1.length<=12
 bulk:∀ o∈r.1,zM0 o<=1048576
 b1:r.2.1.1.length<=16777216
 b2:r.2.1.2.length<=16777216
 a1:r.2.2.1.length<=16777216
 a2:r.2.2.2.length<=16777216
theorem zXZ {l:List Op8}{b:Nat}:(∀ o∈l,opw o<=b)->sw l<=l.length * b:=by
 induction l with
 | nil=>intro _; exact Nat.zero_le _
 | cons o l ih =>
  intro h;have h1:=h o List.mem_cons_self;have h2:=ih fun o ho=>h o (List.mem_cons_of_mem _ ho)
  simp only[sw,List.length_cons,Nat.succ_mul]
  omega
theorem zWm (o:Op8):opw o<=zM0 o+4:=by unfold opw zM0; omega
theorem zWl (o:Op8):opw (invO o)<=zM0 o+4:=by
 obtain⟨k,row,a,m,nodes,slot,old,text⟩:=o;unfold opw zM0 invO;simp only[Op8.nodes,Op8.text,Op8.row]
 by_cases h:k=5
 ·rw[if_pos h]; omega
 ·rw[if_neg h]; omega
theorem RFew.osmall {r:Rc} (h:RFew r):OSmall r.1:=by
 have h1:∀ o∈r.1,opw o<=1048580:=fun o ho=>by have:=h.bulk o ho; have:=zWm o; omega
 have h2:∀ o∈r.1.map invO,opw o<=1048580:=fun o ho=>by
  obtain⟨o',ho',rfl⟩:=List.mem_map.1 ho;have:=h.bulk o' ho'; have:=zWl o'; omega
 have s1:=zXZ h1;have s2:=zXZ h2;rw[List.length_map]at s2;have hl:=h.len;have hm:r.1.length * 1048580<=12 * 1048580:=Nat.mul_le_mul_right _ hl;exact⟨by omega,fun o ho=>by have:=h1 o ho; omega,by omega,fun o ho=>by have:=h2 (invO o) (List.mem_map_of_mem ho); omega,fun o ho=>by have:=h.bulk o ho; unfold zM0 at this; omega⟩
theorem RFew.small {r:Rc} (h:RFew r):RSmall r:=⟨h.osmall,h.b1,h.b2,h.a1,h.a2⟩
theorem RFew.ref {r:Rc} (h:RFew r) (n:Nat) (hn:200000000<n){t:Nd} (hv:zAJ t=true):∃ u i e,zDi n t r.1=some (u,i,e)/\Runs t r.1 u e:=by
 have hw:=zJX hv;obtain⟨u,i,e,_,g2,g3,_⟩:=zXN n t r.1 hn (by omega) (fun o ho=>by have:=h.bulk o ho; unfold zM0 at this; omega) h.len;cases g3 with
 | bad g=>rw[hv]at g; cases g
 | go _ g=>exact⟨u,i,e,g2,g⟩
theorem zXx (p:List Int) (i:Int) (hp:p.length<=4000000):zMW p [i]=some (p++[i]):=by
 unfold zMW;dsimp only;rw[zCc (by simp only[List.length_cons,List.length_nil]; omega)]
theorem zWW {l:List Nd}{n:Nat}{v:Nd} (h:l[n]? = some v):at? l (n:Int)=some v:=by
 obtain⟨h1,rfl⟩:=List.getElem?_eq_some_iff.1 h;exact zA7 h1
theorem zU3 {l:List Nd}{q:Nat}{v:Nd} (h:l[q]? = some v):l.drop q=v::l.drop (q+1):=by
 obtain⟨h1,rfl⟩:=List.getElem?_eq_some_iff.1 h;exact List.drop_eq_getElem_cons h1
abbrev AllF:=Nd->List Int->Option (List (List Int))
theorem zQZ (F:AllF) (kids:List Nd) (p:List Int) (i:Nat) (x:Nd) (hx:kids[i]? = some x) (hp:p.length<=3000000) (hk:x.kids.length<=1000000)
  (hF:∀ (s:Nat) (u:Nd),x.kids[s]? = some u->F u (p++[(i:Int),(s:Int)])=some (posU (p++[(i:Int),(s:Int)]) u)) :
  ∀ (k s:Nat) (l:List (List Int)),x.kids.length - s<k->s<=x.kids.length->l.length+(posS p i s (x.kids.drop s)).length<=4000000 ->
   zDE F kids p (i:Int) k (s:Int) l=some (l++posS p i s (x.kids.drop s))
 | 0,s,l,h,_,_=>by omega
 | k+1,s,l,h,hs,hl=>by
  unfold zDE;rw[zWW hx]
  by_cases hj:s<x.kids.length
  ·have g:x.kids[s]? = some x.kids[s]:=List.getElem?_eq_getElem hj;generalize x.kids[s]=u at *;rw[zU3 g]at hl ⊢;rw[posS]at hl ⊢;rw[List.length_append]at hl;have e1:=hF s u g;have ih:=zQZ F kids p i x hx hp hk hF k (s+1) (l++posU (p++[(i:Int),(s:Int)]) u) (by omega) (by omega) (by rw[List.length_append]; omega)
   have at2:=zWW g;have hlen:(x.kids.length:Int)=(x.kids.length:Int):=rfl;obtain⟨x1,x2,x3,x4⟩:=x;obtain⟨u1,u2,u3,u4⟩:=u;simp only[Nd.kids]at *;simp only[Option.bind_some,zAO (Int.ofNat_lt.2 hj),cond_true,at2]
   rw[zCc (by rw[List.length_nil]; omega),zCc (by simp only[List.length_cons,List.length_nil]; omega),e1]
   simp only[Option.bind_some]
   rw[zCc (by omega),zAR (by omega),ih,List.append_assoc]
  ·have e:x.kids.drop s=[]:=List.drop_of_length_le (by omega)
   rw[e,posS]
   obtain⟨x1,x2,x3,x4⟩:=x;simp only[Nd.kids]at hj hs;simp only[Option.bind_some]
   rw[zAM (by omega),cond_false,List.append_nil]
theorem zQY (F:AllF) (N:Nat) (kids:List Nd) (p:List Int) (hp:p.length<=3000000) (hc:Nd.cnts kids<=1000000) (hN:Nd.cnts kids+1<N)
  (hF:∀ (i s:Nat) (x u:Nd),kids[i]? = some x->x.kids[s]? = some u->F u (p++[(i:Int),(s:Int)])=some (posU (p++[(i:Int),(s:Int)]) u)) :
  ∀ (k i:Nat) (l:List (List Int)),kids.length - i+1<k->i<=kids.length->l.length+(posI p i (kids.drop i)).length<=4000000 ->
   zDD F N kids p k (i:Int) l=some (l++posI p i (kids.drop i))
 | 0,i,l,h,_,_=>by omega
 | k+1,i,l,h,hi,hl=>by
  have hlk:=Nd.cnts_len kids;unfold zDD;rw[zAO (by omega),cond_true,zXx p i (by omega)]
  simp only[Option.bind_some]
  by_cases hj:i<kids.length
  ·have g:kids[i]? = some kids[i]:=List.getElem?_eq_getElem hj;generalize kids[i]=x at *;have mx:=Nd.cnts_mem (List.mem_of_getElem? g)
   have kx:=x.cnt_kids;have lx:=Nd.cnts_len x.kids;have hX:posX p i x=posS p i 0 x.kids :=(by cases x; rw[posX]; rfl);rw[zU3 g]at hl ⊢;rw[posI,hX]at hl ⊢;rw[List.length_cons,List.length_append]at hl;rw[zCc (by simp only[List.length_cons,List.length_nil]; omega),zB7 (by omega),cond_false]
   have e2:=zQZ F kids p i x g hp (by omega) (fun s u hu=>hF i s x u g hu) N 0 (l++[p++[(i:Int)]]) (by omega) (Nat.zero_le _) (by rw[List.drop_zero,List.length_append]; simp only[List.length_cons,List.length_nil]; omega)
   rw[show((0:Nat):Int)=0 from rfl,List.drop_zero]at e2;rw[e2]
   simp only[Option.bind_some]
   have ih:=zQY F N kids p hp hc hN hF k (i+1) (l++[p++[(i:Int)]]++posS p i 0 x.kids) (by omega) (by omega) (by simp only[List.length_append,List.length_cons,List.length_nil]; omega)
   rw[zAR (by omega),ih]
   simp only[List.append_assoc,List.cons_append,List.nil_append]
  ·obtain rfl:i=kids.length :=(by omega);rw[List.drop_length,posI]at hl ⊢;rw[zCc (by simp only[List.length_cons,List.length_nil]at hl ⊢; omega),beq_self_eq_true,cond_true]
theorem zOZ:∀ (n:Nat) (t:Nd) (p:List Int),t.cnt+1<n->t.cnt<=1000000->p.length+2 * t.cnt<=3000000->zDC n t p=some (posU p t)
 | 0,t,p,h,_,_=>by omega
 | n+1,t,p,h,hc,hp=>by
  have k1:=t.cnt_kids;have l1:=Nd.cnts_len t.kids;have hlen:=zQc p 0 t.kids;have hU:posU p t=posI p 0 t.kids :=(by cases t; rw[posU]; rfl);have e:=zQY (zDC n) n t.kids p (by omega) (by omega) (by omega) (fun i s x u hx hu=>by
   have m1:=Nd.cnts_mem (List.mem_of_getElem? hx)
   have m2:=Nd.cnts_mem (List.mem_of_getElem? hu)
   have c1:=x.cnt_kids;exact zOZ n u _ (by omega) (by omega) (by simp only[List.length_append,List.length_cons,List.length_nil]; omega)) n 0 [] (by omega) (Nat.zero_le _) (by rw[List.drop_zero,List.length_nil]; omega)
  rw[show((0:Nat):Int)=0 from rfl,List.drop_zero,List.nil_append]at e;rw[hU]
  obtain⟨t1,t2,t3,t4⟩:=t;simp only[Nd.kids]at e ⊢;unfold zDC;simp only[e,Option.bind_some]
theorem zUx (n:Nat) (t:Nd) (hv:zBh n t=some (zAJ t)) (hn:t.cnt+1<n) (hc:t.cnt<=1000000):zIm n t=some (bif zAJ t then (posT t,0) else ([],1)):=by
 have e:=zOZ n t [] hn hc (by rw[List.length_nil]; omega)
 unfold posT;obtain⟨t1,t2,t3,t4⟩:=t;unfold zIm;simp only[hv,e,Option.bind_some]
 cases zAJ (.mk t1 t2 t3 t4) <;> rfl
theorem zTn {a b:List Int} (ha:a.length<=1073741824):∀ (k i:Nat),a.length - i<k->i<=a.length->i<=b.length->a.take i=b.take i ->
  ∃ fl,zBX a b k (i:Int)=some fl/\((∃ z,fl = .ret z/\z ≠ 0/\a ≠ b)∨(fl = .go ()/\(a.length=b.length->a=b)))
 | 0,i,h,_,_,_=>by omega
 | k+1,i,h,hi,hb,ht=>by
  unfold zBX
  by_cases h1:i<a.length
  ·rw[zAO (Int.ofNat_lt.2 h1),cond_true]
   by_cases h2:i<b.length
   ·rw[zAO (Int.ofNat_lt.2 h2)]
    simp only[Option.bind_some,cond_true,zA7 h1,zA7 h2]
    by_cases h3:a[i]<b[i]
    ·rw[zAO h3,cond_true]
     exact⟨_,rfl,.inl ⟨-1,rfl,by decide,fun e=>by subst e; omega⟩⟩
    ·rw[zAM h3,cond_false]
     by_cases h4:b[i]<a[i]
     ·rw[zAO h4,cond_true]
      exact⟨_,rfl,.inl ⟨1,rfl,by decide,fun e=>by subst e; omega⟩⟩
     ·rw[zAM h4,cond_false,zAR (by omega)]
      have he:a[i]=b[i] :=(by omega);refine zTn ha k (i+1) (by omega) (by omega) (by omega) ?_;rw[← List.take_append_getElem h1,← List.take_append_getElem h2,ht,he]
   ·rw[zAM (by omega)]
    simp only[Option.bind_some,cond_false]
    exact⟨_,rfl,.inr ⟨rfl,fun e=>by omega⟩⟩
  ·rw[zAM (by omega),cond_false]
   simp only[Option.bind_some,cond_false]
   refine⟨_,rfl,.inr ⟨rfl,fun e=>?_⟩⟩
   have:i=a.length :=(by omega);subst this;rw[List.take_length]at ht;rw[ht,List.take_of_length_le (by omega)]
theorem cmp_eq (n:Nat) (a b:List Int) (ha:a.length<=1073741824) (hn:a.length<n):∃ c,zDS n a b=some c/\(c=0↔a=b):=by
 obtain⟨fl,h1,h2⟩:=zTn (a:=a) (b:=b) ha n 0 (by omega) (Nat.zero_le _) (Nat.zero_le _) rfl;rw[show((0:Nat):Int)=0 from rfl]at h1;unfold zDS;dsimp only;rw[h1]
 rcases h2 with ⟨z,rfl,hz,hne⟩ | ⟨rfl,he⟩
 ·exact⟨z,rfl,fun h=>absurd h hz,fun h=>absurd h hne⟩
 ·simp only[Option.bind_some]
  by_cases h3:a.length<b.length
  ·rw[zAO (Int.ofNat_lt.2 h3)]
   exact⟨-1,rfl,fun h=>(by omega),fun h=>(by subst h; omega)⟩
  ·rw[zAM (by omega),cond_false]
   by_cases h4:b.length<a.length
   ·rw[zAO (Int.ofNat_lt.2 h4)]
    exact⟨1,rfl,fun h=>(by omega),fun h=>(by subst h; omega)⟩
   ·rw[zAM (by omega),cond_false]
    exact⟨0,rfl,fun _=>he (by omega),fun _=>rfl⟩
theorem zTv (n:Nat) (pos:List Int) (L:List (List Int)) (hL:L.length<=1073741824) (hb:∀ q∈L,q.length<=1073741824/\q.length<n):∀ (k i:Nat),L.length - i<k->i<=L.length ->
  ∃ fl,zCG n pos L k (i:Int)=some fl/\((∃ j:Nat,fl = .ret ((j:Int),0)/\L[j]? = some pos)∨(fl = .go ()/\pos ∉ L.drop i))
 | 0,i,h,_=>by omega
 | k+1,i,h,hi=>by
  unfold zCG
  by_cases hj:i<L.length
  ·have hm:=hb _ (List.getElem_mem hj)
   obtain⟨c,h1,h2⟩:=cmp_eq n L[i] pos hm.1 hm.2;rw[zAO (Int.ofNat_lt.2 hj),cond_true,zA7 hj]
   simp only[Option.bind_some,h1]
   by_cases hc:c=0
   ·subst hc;exact⟨_,rfl,.inl ⟨i,rfl,by rw[List.getElem?_eq_getElem hj,h2.1 rfl]⟩⟩
   ·rw[zB7 hc,cond_false,zAR (by omega)]
    obtain⟨fl,g1,g2⟩:=zTv n pos L hL hb k (i+1) (by omega) (by omega)
    refine⟨fl,g1,g2.imp id fun⟨g3,g4⟩=>⟨g3,fun hm'=>?_⟩⟩
    rw[List.drop_eq_getElem_cons hj]at hm';rcases List.mem_cons.1 hm' with hm' | hm'
    ·exact hc (h2.2 hm'.symm)
    ·exact g4 hm'
  ·rw[zAM (by omega),cond_false,List.drop_of_length_le (by omega)]
   exact⟨_,rfl,.inr ⟨rfl,fun h=>by cases h⟩⟩
theorem zVt {t:Nd} (hv:zAJ t=true){q:List Int} (h:q∈posT t):q.length<=49:=by
 obtain⟨k,f,c,d⟩:=zJW hv;have h1:=zVd q t.kids ((zPN t q).1 h)
 have e:t.dep=Nd.deps t.kids+1:=by cases t; rfl
 omega
theorem zRY (n:Nat) (t:Nd) (pos:List Int) (hv:zBh n t=some (zAJ t)) (hn:2000<n) (hc:t.cnt+1<n) (hc2:t.cnt<=1000000):∃ i e,zE0 n t pos=some (i,e)/\((e=0/\zAJ t=true/\∃ j:Nat,i=(j:Int)/\(posT t)[j]? = some pos)∨(e ≠ 0/\(zAJ t=true->pos ∉ posT t))):=by
 have e1:=zUx n t hv hc hc2;have hlen:=zWq t;cases hvt:zAJ t with
 | false =>
  rw[hvt]at e1;obtain⟨t1,t2,t3,t4⟩:=t;refine⟨0,1,?_,.inr ⟨by decide,fun h=>by cases h⟩⟩
  unfold zE0;simp only[e1,cond_false,Option.bind_some]
  rfl
 | true =>
  rw[hvt]at e1;obtain⟨k,f,c,d⟩:=zJW hvt;obtain⟨fl,g1,g2⟩:=zTv n pos (posT t) (by omega) (fun q hq=>by have:=zVt hvt hq; omega) n 0 (by omega) (Nat.zero_le _)
  rw[show((0:Nat):Int)=0 from rfl]at g1;rw[List.drop_zero]at g2;generalize posT t=L at *;obtain⟨t1,t2,t3,t4⟩:=t;unfold zE0;simp only[e1,cond_true,Option.bind_some,show((0:Int) != 0)=false from rfl,cond_false,g1]
  rcases g2 with ⟨j,rfl,hj⟩ | ⟨rfl,hj⟩
  ·exact⟨_,_,rfl,.inl ⟨rfl,trivial,j,rfl,hj⟩⟩
  ·exact⟨_,_,rfl,.inr ⟨by decide,fun _=>hj⟩⟩
theorem zRZ (n:Nat) (t:Nd) (pos:List Int) (hv:zBh n t=some (zAJ t)) (hn:2000<n) (hc:t.cnt+1<n) (hc2:t.cnt<=1000000):∃ b,zEf n t pos=some b/\(b=true↔zAJ t=true/\inL t.kids pos):=by
 obtain⟨i,e,h1,h2⟩:=zRY n t pos hv hn hc hc2;refine⟨e == 0,?_,?_⟩
 ·obtain⟨t1,t2,t3,t4⟩:=t;unfold zEf;simp only[h1,Option.bind_some]
 ·rw[beq_iff_eq]
  rcases h2 with ⟨rfl,g1,j,rfl,g2⟩ | ⟨g1,g2⟩
  ·exact⟨fun _=>⟨g1,(zPN t pos).1 (List.mem_of_getElem? g2)⟩,fun _=>rfl⟩
  ·exact⟨fun h=>absurd h g1,fun⟨h,h'⟩=>absurd ((zPN t pos).2 h') (g2 h)⟩
theorem zS4 (n:Nat) (o:Op8) (hn:200<n):∃ b,zIn n o=some b:=by
 obtain⟨k,row,a,m,nodes,slot,old,text⟩:=o;obtain⟨b,e,_⟩:=zWU n (.mk 1 [] 0 nodes) 100 (by omega) (by omega)
 rw[show((100:Nat):Int)=100 from rfl]at e;unfold zIn zC4;simp only[e,Option.bind_some]
 cases b with
 | true=>exact⟨_,rfl⟩
 | false=>exact⟨_,rfl⟩
theorem zXa (n:Nat){h:Hs}{ts:List Nd}{j:Nat} (a:HAt h ts j) (hn:200000000<n){r:Rc}{u:Nd} (hr:h.2.2.1[j]? = some r) (hu:ts[j+1]? = some u):zBB n h=some (r.2.2,0,hAt h u (j+1)):=by
 have hd:=a.done;have hlim:=a.inv.lim;have hlt:=(List.getElem?_eq_some_iff.1 hr).1;have sm:=a.inv.small r (List.mem_of_getElem? hr)
 obtain⟨t',u',k1,k2,k3⟩:=a.inv.step j r hr;obtain rfl:h.2.1=t':=Option.some.inj (a.tree.symm.trans k1)
 obtain rfl:u=u':=Option.some.inj (hu.symm.trans k2)
 obtain⟨v,i,e,e1,e2,e3⟩:=sm.ops.apply n hn a.vtree;obtain⟨rfl,rfl⟩:=e2.det k3;have hc:=sm.after;have hr':at? h.2.2.1 (j:Int)=some r:=by
  obtain⟨h1,rfl⟩:=List.getElem?_eq_some_iff.1 hr;exact zA7 h1
 unfold hAt;obtain⟨⟨a1,a2,a3,a4⟩,⟨b1,b2,b3,b4⟩,rs,d⟩:=h;obtain⟨ops,⟨c1,c2⟩,⟨c3,c4⟩⟩:=r;obtain⟨v1,v2,v3,v4⟩:=v;dsimp only at hd hr' e1 hc hlim hlt ⊢;subst hd;unfold zBB;dsimp only;rw[zB7 (by omega),cond_false,hr']
 simp only[Option.bind_some,e1,show((0:Int) != 0)=false from rfl,cond_false,hc]
 rw[zAR (by omega)]
def zQ8 (h:Hs):Int×List UInt8×Int×List Nd×Int×List UInt8×Int×List Nd×Int×List Rc:=(h.1.kind,h.1.text,h.1.cols,h.1.kids,h.2.1.kind,h.2.1.text,h.2.1.cols,h.2.1.kids,h.2.2.2,h.2.2.1)
def zWJ (n:Nat) (d:Int) (k:Nat) (h:Hs):=zAT n d k h.1.kind h.1.text h.1.cols h.1.kids h.2.1.kind h.2.1.text h.2.1.cols h.2.1.kids h.2.2.2 h.2.2.1
def zWK (n:Nat) (d:Int) (k:Nat) (h:Hs):=zAU n d k h.1.kind h.1.text h.1.cols h.1.kids h.2.1.kind h.2.1.text h.2.1.cols h.2.1.kids h.2.2.2 h.2.2.1
theorem zTN (n:Nat) (hn:200000000<n) (d:Nat){ts:List Nd}:∀ (k j:Nat) (h:Hs),HAt h ts j->j<k+d->0<k->∃ t m,m<=j/\(d<=j->m=d)/\(j<=d->m=j)/\ts[m]? = some t/\zWJ n (d:Int) k h=some (.go (zQ8 (hAt h t m)))
 | 0,j,h,a,h1,h2=>by omega
 | k+1,j,h,a,h1,_=>by
  unfold zWJ zAT;have hd:=a.done
  by_cases hj:d<j
  ·have hle:=a.le;have hlen:=a.inv.len;obtain⟨j,rfl⟩:∃ i,j=i+1:=⟨j - 1,by omega⟩
   have hr:h.2.2.1[j]? = some h.2.2.1[j]:=List.getElem?_eq_getElem (by omega)
   obtain⟨t,ht⟩:=a.at (k:=j) (by omega)
   have hu:=zXc n a hn hr ht;obtain⟨t',m,g1,g2,g3,g4,g5⟩:=zTN n hn d k j (hAt h t j) (a.move ht) (by omega) (by omega)
   refine⟨t',m,by omega,fun _=>g2 (by omega),fun h=>by omega,g4,?_⟩
   unfold zWJ hAt at g5;unfold hAt at hu ⊢;generalize h.2.2.1[j]=r at hu;obtain⟨r1,⟨r2,r3⟩,⟨r4,r5⟩⟩:=r;obtain⟨⟨a1,a2,a3,a4⟩,⟨b1,b2,b3,b4⟩,rs,q⟩:=h;obtain⟨t1,t2,t3,t4⟩:=t;dsimp only[Nd.kind,Nd.text,Nd.cols,Nd.kids]at hd g5 hu ⊢;subst hd;rw[zAO (by omega),cond_true,hu]
   simp only[Option.bind_some,show((0:Int) != 0)=false from rfl,cond_false]
   exact g5
  ·refine⟨h.2.1,j,Nat.le_refl _,fun h=>by omega,fun _=>rfl,a.tree,?_⟩
   unfold hAt;obtain⟨⟨a1,a2,a3,a4⟩,⟨b1,b2,b3,b4⟩,rs,q⟩:=h;dsimp only[Nd.kind,Nd.text,Nd.cols,Nd.kids]at hd ⊢;subst hd;rw[zAM (by omega),cond_false]
   rfl
theorem zTO (n:Nat) (hn:200000000<n) (d:Nat){ts:List Nd}:∀ (k j:Nat) (h:Hs),HAt h ts j->d<k+j->0<k->j<=d->d<=h.2.2.1.length->∃ t,ts[d]? = some t/\zWK n (d:Int) k h=some (.go (zQ8 (hAt h t d)))
 | 0,j,h,a,h1,h2,_,_=>by omega
 | k+1,j,h,a,h1,_,hjd,hdl=>by
  unfold zWK zAU;have hd:=a.done
  by_cases hj:j<d
  ·have hr:h.2.2.1[j]? = some h.2.2.1[j]:=List.getElem?_eq_getElem (by omega)
   obtain⟨t,ht⟩:=a.at (k:=j+1) (by omega)
   have hu:=zXa n a hn hr ht;obtain⟨t',g4,g5⟩:=zTO n hn d k (j+1) (hAt h t (j+1)) (a.move ht) (by omega) (by omega) (by omega) hdl;refine⟨t',g4,?_⟩
   unfold zWK hAt at g5;unfold hAt at hu ⊢;generalize h.2.2.1[j]=r at hu;obtain⟨r1,⟨r2,r3⟩,⟨r4,r5⟩⟩:=r;obtain⟨⟨a1,a2,a3,a4⟩,⟨b1,b2,b3,b4⟩,rs,q⟩:=h;obtain⟨t1,t2,t3,t4⟩:=t;dsimp only[Nd.kind,Nd.text,Nd.cols,Nd.kids]at hd g5 hu ⊢;subst hd;rw[zAO (by omega),cond_true,hu]
   simp only[Option.bind_some,show((0:Int) != 0)=false from rfl,cond_false]
   exact g5
  ·obtain rfl:j=d :=(by omega);refine⟨h.2.1,a.tree,?_⟩
   unfold hAt;obtain⟨⟨a1,a2,a3,a4⟩,⟨b1,b2,b3,b4⟩,rs,q⟩:=h;dsimp only[Nd.kind,Nd.text,Nd.cols,Nd.kids]at hd ⊢;subst hd;rw[zAM (by omega),cond_false]
   rfl
theorem zUS (n:Nat) (hn:200000000<n){h:Hs}{ts:List Nd}{j:Nat} (a:HAt h ts j){d:Nat} (hd:d<=h.2.2.1.length):∃ t,ts[d]? = some t/\zBk n h (d:Int)=some (0,hAt h t d):=by
 have hlim:=a.inv.lim;have hle:=a.le;obtain⟨t1,m,g1,g2,g3,g4,g5⟩:=zTN n hn d n j h a (by omega) (by omega)
 obtain⟨t2,f1,f2⟩:=zTO n hn d n m (hAt h t1 m) (a.move g4) (by omega) (by omega) (by
  rcases Nat.le_total d j with h | h
  ·have:=g2 h; omega
  ·have:=g3 h; omega) hd
 refine⟨t2,f1,?_⟩
 unfold zWJ zQ8 hAt at g5;unfold zWK zQ8 hAt at f2;unfold hAt;obtain⟨⟨a1,a2,a3,a4⟩,⟨b1,b2,b3,b4⟩,rs,q⟩:=h;dsimp only[Nd.kind,Nd.text,Nd.cols,Nd.kids]at g5 f2 hd ⊢;unfold zBk;dsimp only;rw[zAM (by omega),cond_false,zAM (by omega)]
 simp only[Option.bind_some,cond_false,g5,f2]
 obtain⟨v1,v2,v3,v4⟩:=t2
 rfl
theorem zQX (n:Nat) (a:List Int) (ha:a.length<=16777216) (hn:200000000<n):zFL n a a=some true:=by
 obtain⟨c,h1,h2⟩:=cmp_eq n a a (by omega) (by omega)
 unfold zFL;dsimp only;rw[h1,h2.2 rfl]
 rfl
theorem zKk (n:Nat) (c:Cur) (h1:c.1.length<=16777216) (h2:c.2.length<=16777216) (hn:200000000<n):zCr n c c=some true:=by
 have g1:=zQX n c.1 h1 hn;have g2:=zQX n c.2 h2 hn;obtain⟨p,q⟩:=c;unfold zCr;simp only[g1,g2,Option.bind_some,cond_true]
theorem zQW (n:Nat){t:Nd} (hv:zAJ t=true) (hn:200000000<n):zBv n t t=some true:=by
 have h1:=zJX hv;have h2:=Nd.cnt_w t;obtain⟨r,g1,g2⟩:=(zJY n).1 t t (by omega) (by omega)
 rw[g1,g2.2 rfl]
theorem zKp (n:Nat){l:List Rc} (ho:∀ r∈l,zC1 n r=some r) (hl:l.length<=1073741824):∀ (k i:Nat),l.length - i<k->i<=l.length->zBc n l k (i:Int) (l.take i)=some l
 | 0,i,h,_=>by omega
 | k+1,i,h,hi=>by
  unfold zBc
  by_cases hj:i<l.length
  ·have hd:=ho _ (List.getElem_mem hj)
   have ht:l.take i++[l[i]]=l.take (i+1) :=(by rw[List.take_append_getElem hj]);rw[zAO (Int.ofNat_lt.2 hj),cond_true,zA7 hj]
   have ih:=zKp n ho hl k (i+1) (by omega) (by omega)
   rw[← ht]at ih;generalize l[i]=v at *;obtain⟨v1,⟨v2,v3⟩,⟨v4,v5⟩⟩:=v;simp only[Option.bind_some,hd]
   rw[zCc (by simp only[List.length_take,List.length_cons,List.length_nil]; omega),zAR (show i<9223372036854775807 by omega),ih]
  ·rw[zAM (by omega),cond_false,List.take_of_length_le (by omega)]
theorem zTY (n:Nat) (hn:200000000<n){h:Hs}{ts:List Nd}{j:Nat} (a:HAt h ts j):zBn n h=some (h.2.2.1,h):=by
 have hlim:=a.inv.lim;have g:=zKp n (l:=h.2.2.1) (fun r hr=>(a.inv.small r hr).copy n hn) (by omega) n 0 (by omega) (Nat.zero_le _)
 rw[show((0:Nat):Int)=0 from rfl,List.take_zero]at g;obtain⟨⟨x1,x2,x3,x4⟩,⟨y1,y2,y3,y4⟩,z,w⟩:=h;dsimp only at g;unfold zBn zDn;simp only[g,Option.bind_some]
theorem zW8 {h:Hs}:zCi h=some (h.2.2.2,h):=by
 obtain⟨⟨x1,x2,x3,x4⟩,⟨y1,y2,y3,y4⟩,z,w⟩:=h
 rfl
theorem zUH {h:Hs} (hv:zAJ h.1=true):zBr h=some (h.1,h):=by
 have hd:=zLd hv;obtain⟨⟨a1,a2,a3,a4⟩,⟨b1,b2,b3,b4⟩,rs,d⟩:=h;dsimp only at hd;unfold zBr;simp only[hd,Option.bind_some]
theorem zUQ (n:Nat) (hn:200000000<n){r:Rc} (h:RFew r):zHg n r r=some true:=by
 have hl:=h.len;have h1:=zLI n (ops:=r.1) (fun o ho=>by
  have:=h.bulk o ho;have:=Nd.cnts_ws o.nodes;unfold zM0 at *;exact zVL n o (by omega) (by omega) (by omega) (by omega)) (by omega) n 0 (by omega) (Nat.zero_le _)
 rw[show((0:Nat):Int)=0 from rfl]at h1;have c1:=zKk n r.2.1 h.b1 h.b2 hn;have c2:=zKk n r.2.2 h.a1 h.a2 hn;obtain⟨r1,⟨r2,r3⟩,⟨r4,r5⟩⟩:=r;dsimp only at h1 c1 c2;unfold zHg zFD;simp only[bne_self_eq_false,cond_false,h1,c1,c2,Option.bind_some,cond_true]
abbrev Dc:=List UInt8×Nd×List Rc×Int
theorem zVR (n:Nat) (s:List UInt8) (h:s.length<n) (hb:s.length<=1073741824):zEB n s=some (s.all zEQ&&decide ((s.length:Int)<=200)):=by
 have:=zHw (p:=zEQ) (l:=s) (zBy s) hb (fun k i h=>by
  rw[zBy,zAO (Int.ofNat_lt.2 h),cond_true,zA7 h]
  simp only[Option.bind_some,zNj]
  rw[zAR (by omega)]
  cases zEQ s[i] <;> rfl) (fun k=>by rw[zBy,zAM (by omega)]; rfl) n 0 (by omega) (by omega)
 rw[show((0:Nat):Int)=0 from rfl,List.drop_zero]at this;rw[zEB,this]
 unfold zNW;cases s.all zEQ <;> rfl
theorem zVe:∀ (k:Nat) (l:List Int) (t:Nd),l.length<2 * k->l.length<=1073741824->∃ f,zBW k l t=some f /\
  ((f = .ret false/\¬ inL t.kids l)∨∃ l' t',f = .go (l',t')/\l'.length<3/\(inL t.kids l↔inL t'.kids l'))
 | 0,l,t,h,_=>by omega
 | k+1,l,⟨t1,t2,t3,t4⟩,h,hb=>by
  unfold zBW
  by_cases h3:3<=l.length
  ·rw[zAO (by omega),cond_true]
   obtain⟨i,s,r,rfl⟩:∃ i s r,l=i::s::r:=by
    match l,h3 with
    | i::s::r,_=>exact⟨i,s,r,rfl⟩
   have e0:at? (i::s::r) 0=some i:=rfl;have e1:at? (i::s::r) 1=some s:=rfl;rw[e0,e1]
   simp only[Option.bind_some]
   have hin:=zF9 (l:=t4) (i:=i) (s:=s) (r:=r)
   by_cases c1:i<0
   ·rw[zAO c1]
    exact⟨_,rfl,.inl ⟨rfl,fun g=>by have:=(hin.1 g).1; omega⟩⟩
   rw[zAM c1]
   by_cases c2:(t4.length:Int)<=i
   ·rw[zAO c2]
    refine⟨_,rfl,.inl ⟨rfl,fun g=>?_⟩⟩
    obtain⟨_,x,g1,_⟩:=hin.1 g;have:=(List.getElem?_eq_some_iff.1 g1).1
    omega
   rw[zAM c2]
   by_cases c3:s<0
   ·rw[zAO c3]
    refine⟨_,rfl,.inl ⟨rfl,fun g=>?_⟩⟩
    obtain⟨_,x,_,g2,_⟩:=hin.1 g
    omega
   rw[zAM c3]
   obtain⟨a,rfl⟩:∃ a:Nat,i=(a:Int):=⟨i.toNat,by omega⟩
   obtain⟨b,rfl⟩:∃ a:Nat,s=(a:Int):=⟨s.toNat,by omega⟩
   have ha:a<t4.length :=(by omega);rw[zA7 ha]
   have hx:t4[a]? = some t4[a]:=List.getElem?_eq_getElem ha;generalize t4[a]=x at hx;obtain⟨x1,x2,x3,x4⟩:=x;simp only[cond_false,Option.bind_some]
   simp only[Int.toNat_natCast]at hin
   by_cases c4:(x4.length:Int)<=(b:Int)
   ·rw[zAO c4]
    refine⟨_,rfl,.inl ⟨rfl,fun g=>?_⟩⟩
    obtain⟨_,x,g1,_,u,g2,_⟩:=hin.1 g;obtain rfl:=Option.some.inj (hx.symm.trans g1)
    have:=(List.getElem?_eq_some_iff.1 g2).1;simp only[Nd.kids]at this
    omega
   rw[zAM c4]
   have hb':b<x4.length :=(by omega);have hu:x4[b]? = some x4[b]:=List.getElem?_eq_getElem hb';simp only[cond_false,zA7 hb',Option.bind_some]
   generalize x4[b]=u at hu;obtain⟨u1,u2,u3,u4⟩:=u;simp only[Option.bind_some]
   rw[zCc (by simp only[List.length_cons]at h3 ⊢; omega)]
   have e3:((((a:Int)::(b:Int)::r).take (((((a:Int)::(b:Int)::r).length:Nat):Int)).toNat).drop (2:Int).toNat)=r:=by
    rw[Int.toNat_natCast,List.take_length]; rfl
   rw[e3]
   simp only[List.length_cons]at h hb;obtain⟨f,f1,f2⟩:=zVe k r (.mk u1 u2 u3 u4) (by omega) (by omega)
   have hiff:inL (Nd.mk t1 t2 t3 t4).kids ((a:Int)::(b:Int)::r)↔inL (Nd.mk u1 u2 u3 u4).kids r:=by
    simp only[Nd.kids]
    rw[hin]
    constructor
    ·rintro⟨_,x,g1,_,u,g2,g3⟩
     obtain rfl:=Option.some.inj (hx.symm.trans g1)
     obtain rfl:=Option.some.inj (hu.symm.trans g2)
     exact g3
    ·exact fun g=>⟨by omega,_,hx,by omega,_,hu,g⟩
   refine⟨f,f1,?_⟩
   rcases f2 with ⟨g1,g2⟩ | ⟨l',t',g1,g2,g3⟩
   ·exact .inl ⟨g1,fun g=>g2 (hiff.1 g)⟩
   ·exact .inr ⟨l',t',g1,g2,hiff.trans g3⟩
  ·rw[zAM (by omega)]
   exact⟨_,rfl,.inr ⟨_,_,rfl,by omega,Iff.rfl⟩⟩
theorem zYa (n:Nat) (t:Nd) (l:List Int) (h:l.length<n) (hb:l.length<=1073741824):∃ b,zEF n t l=some b/\(b=true↔inL t.kids l):=by
 obtain⟨f,f1,f2⟩:=zVe n l t (by omega) hb;obtain⟨t1,t2,t3,t4⟩:=t;unfold zEF;simp only[f1,Option.bind_some]
 rcases f2 with ⟨rfl,g⟩ | ⟨l',⟨u1,u2,u3,u4⟩,rfl,g1,g2⟩
 ·exact⟨false,rfl,fun h=>(by cases h),fun h=>absurd h g⟩
 ·simp only[g2]
  match l',g1 with
  | [],_=>exact⟨false,rfl,fun h=>(by cases h),fun h=>False.elim h⟩
  | [o],_ =>
   have e0:at? [o] 0=some o:=rfl;have e1:((([o]:List Int).length:Int) == 1)=true:=rfl;simp only[e0,e1,cond_true,Option.bind_some,zMQ,Nd.kids]
   by_cases c:0<=o
   ·rw[zAO c]
    exact⟨_,rfl,fun h=>⟨c,of_decide_eq_true h⟩,fun h=>decide_eq_true h.2⟩
   ·rw[zAM c]
    exact⟨_,rfl,fun h=>(by cases h),fun h=>absurd h.1 c⟩
  | [a,b],_ =>
   have e1:((([a,b]:List Int).length:Int) == 1)=false:=rfl;simp only[e1,cond_false,Option.bind_some]
   refine⟨false,rfl,fun h=>(by cases h),fun h=>?_⟩
   obtain⟨_,x,_,_,u,_,g3⟩:=zF9.1 h;exact False.elim g3
theorem zW1 (n:Nat){t:Nd} (hv:zAJ t=true) (l:List Int) (hn:200000000<n) (hb:l.length<=16777216):∃ b,zCp n t l=some b/\zEf n t l=some b:=by
 have hw:=zJX hv;have hc:=Nd.cnt_w t;obtain⟨b,h1,h2⟩:=zYa n t l (by omega) (by omega)
 have v1:=zB3 n t (by omega) (by omega)
 have v2:=zEv n t (by omega) (by omega)
 obtain⟨b',h3,h4⟩:=zRZ n t l v2 (by omega) (by omega) (by omega)
 have e:b=b':=Bool.eq_iff_iff.2 (h2.trans ⟨fun g=>h4.2 ⟨hv,g⟩,fun g=>(h4.1 g).2⟩)
 subst e;refine⟨b,?_,h3⟩
 rw[hv]at v1;obtain⟨t1,t2,t3,t4⟩:=t;unfold zCp;simp only[v1,Option.bind_some,cond_true,h1]
theorem zOX (n:Nat){t:Nd} (hv:zAJ t=true) (c:Cur) (hn:200000000<n) (h1:c.1.length<=16777216) (h2:c.2.length<=16777216):∃ b,zCD n t c=some b/\zDH n t c=some b:=by
 obtain⟨b1,f1,g1⟩:=zW1 n hv c.1 hn h1;obtain⟨b2,f2,g2⟩:=zW1 n hv c.2 hn h2;obtain⟨p,q⟩:=c;obtain⟨t1,t2,t3,t4⟩:=t;dsimp only at f1 f2 g1 g2;unfold zCD zDH;simp only[f1,g1,Option.bind_some]
 cases b1 with
 | false=>exact⟨_,rfl,rfl⟩
 | true =>
  simp only[cond_true]
  cases((q.length:Int) == 0) with
  | true=>exact⟨_,rfl,rfl⟩
  | false =>
   simp only[cond_false,f2,g2,Option.bind_some]
   exact⟨_,rfl,rfl⟩
structure RBul (r:Rc):Prop where
 len:r.1.length<=1048576
 ops:∀ o∈r.1,zM0 o<=1048576
 b1:r.2.1.1.length<=1048576
 b2:r.2.1.2.length<=1048576
 a1:r.2.2.1.length<=1048576
 a2:r.2.2.2.length<=1048576
structure DBul (d:Dc):Prop where
 title:d.1.length<=1048576
 tree:d.2.1.w<=1048576
 len:d.2.2.1.length<=1048576
 recs:∀ r∈d.2.2.1,RBul r
theorem RBul.few {r:Rc} (h:RBul r) (hl:r.1.length<=8):RFew r:=⟨by omega,h.ops,by have:=h.b1; omega,by have:=h.b2; omega,by have:=h.a1; omega,by have:=h.a2; omega⟩
structure DFew (d:Dc):Prop where
 title:d.1.length<=300
 tree:d.2.1.cnt<=200
 len:d.2.2.1.length<=20
 recs:∀ r∈d.2.2.1,RFew r
theorem zU9 (n:Nat) (l:List Op8) (hn:200<n) (hl:l.length<=2000000):∀ (k i:Nat),l.length - i<k->∃ fl,zDG n l k (i:Int)=some fl/\(∀ b,fl = .ret b->b=false)
 | 0,i,h=>by omega
 | k+1,i,h=>by
  unfold zDG
  by_cases hj:i<l.length
  ·obtain⟨b,h1⟩:=zS4 n l[i] hn;have ha:=zA7 hj;obtain⟨f,g1,g2⟩:=zU9 n l hn hl k (i+1) (by omega)
   generalize l[i]=o at h1 ha;obtain⟨q1,q2,q3,q4,q5,q6,q7,q8⟩:=o;rw[zAO (Int.ofNat_lt.2 hj),cond_true]
   simp only[ha,Option.bind_some,h1]
   cases b with
   | false=>exact⟨_,rfl,fun b h=>(by cases h; rfl)⟩
   | true =>
    simp only[Bool.not_true,cond_false,zAR (show i<9223372036854775807 by omega)]
    exact⟨f,g1,g2⟩
  ·rw[zAM (by omega)]
   exact⟨_,rfl,fun b h=>by cases h⟩
theorem zU8 (n:Nat) (hn:3000000<n) (l:List Rc) (hl:l.length<=1048576) (hb:∀ r∈l,RBul r):∀ (k i:Nat),l.length - i<k->zCV n l k (i:Int)=some (.ret false)∨(zCV n l k (i:Int)=some (.go ())/\∀ r∈l.drop i,RFew r)
 | 0,i,h=>by omega
 | k+1,i,h=>by
  unfold zCV
  by_cases hj:i<l.length
  ·have hr:=hb _ (List.getElem_mem hj)
   have ha:=zA7 hj;have hd:=List.drop_eq_getElem_cons hj;have ih:=zU8 n hn l hl hb k (i+1) (by omega)
   obtain⟨fl,e1,e2⟩:=zU9 n (l[i]).1 (by omega) (by have:=hr.len; omega) n 0 (by have:=hr.len; omega)
   rw[show((0:Nat):Int)=0 from rfl]at e1;generalize l[i]=r at hr ha hd e1;have hr1:=hr.few;obtain⟨ops,⟨b1,b2⟩,⟨a1,a2⟩⟩:=r;dsimp only at e1 hr1;rw[zAO (Int.ofNat_lt.2 hj),cond_true]
   simp only[ha,Option.bind_some]
   by_cases c:8<ops.length
   ·rw[zAO (by omega)]
    exact .inl rfl
   rw[zAM (by omega)]
   simp only[cond_false,Option.bind_some]
   cases decide (200<(IntKind.i64.wrap ((IntKind.i64.wrap ((IntKind.i64.wrap ((b1.length:Int)+(b2.length:Int)))+(a1.length:Int)))+(a2.length:Int)))) with
   | true=>exact .inl rfl
   | false =>
    simp only[cond_false,e1,Option.bind_some]
    cases fl with
    | ret b =>
     rw[e2 b rfl]
     exact .inl rfl
    | go u =>
     dsimp only;rw[zAR (show i<9223372036854775807 by omega)]
     rcases ih with ih | ⟨ih,ih2⟩
     ·exact .inl ih
     ·refine .inr ⟨ih,fun r hr=>?_⟩
      rw[hd]at hr;rcases List.mem_cons.1 hr with rfl | hr
      ·exact hr1 (by omega)
      ·exact ih2 r hr
  ·rw[zAM (by omega)]
   refine .inr ⟨rfl,fun r hr=>?_⟩
   rw[List.drop_eq_nil_iff.2 (by omega)]at hr;cases hr
theorem zV9 (n:Nat) (hn:3000000<n) (d:Dc) (hb:DBul d):∃ y,zIo n d=some y/\(y=true->DFew d):=by
 have h1:=zU8 n hn d.2.2.1 hb.len hb.recs n 0 (by have:=hb.len; omega)
 obtain⟨y,h2,h3⟩:=zWU n d.2.1 200 (by omega) (by omega)
 rw[show((200:Nat):Int)=200 from rfl]at h2;rw[show((0:Nat):Int)=0 from rfl,List.drop_zero]at h1;obtain⟨ti,⟨t1,t2,t3,t4⟩,rs,dn⟩:=d;unfold zIo;dsimp only at h1 h2 h3 ⊢;rcases h1 with h1 | ⟨h1,h4⟩
 ·rw[h1]
  exact⟨false,rfl,fun h=>by cases h⟩
 ·simp only[h1,h2,Option.bind_some]
  cases y with
  | false=>exact⟨false,rfl,fun h=>by cases h⟩
  | true =>
   simp only[cond_true]
   by_cases c:(rs.length:Int)<=20
   ·rw[zAO c]
    exact⟨_,rfl,fun h=>⟨by have:=of_decide_eq_true h; dsimp only; omega,h3 rfl,by dsimp only; omega,h4⟩⟩
   ·rw[zAM c]
    exact⟨_,rfl,fun h=>by cases h⟩
theorem zQq {n:Nat}{ss:List S} (h:Typed T n 25 ss):∃ l:List Rc,ss=[.sl 5 ((List.map zAd) l)]:=by
 obtain⟨m,rows,rfl,rfl,_,hr⟩:=zGj (T:=T) (e:=60) rfl rfl h;obtain⟨ks,rfl,hks⟩:=zKT (f:=zAd) (q:=fun _=>True) (l:=rows) fun r hr'=>by
  obtain⟨s,hs⟩:=zSc (hr r hr')
  exact⟨s,hs,trivial⟩
 exact⟨ks,rfl⟩
theorem zOn {n:Nat}{ss:List S} (h:Typed T n 27 ss):∃ d:Dc,ss=zAn d:=by
 obtain⟨m,rfl,a0,q0,rfl,u0,a1,q1,rfl,u1,a2,q2,rfl,u2,a3,q3,rfl,u3,rfl⟩:=zFq (T:=T) (t:=27) rfl rfl h;obtain⟨x0,rfl,_⟩:=zKJ (T:=T) rfl rfl u0;obtain⟨⟨y1,y2,y3,y4⟩,rfl,_⟩:=zWP u1;obtain⟨x2,rfl⟩:=zQq u2;obtain⟨x3,rfl,_⟩:=zFp (T:=T) (k:=.i64) rfl rfl u3;exact⟨(x0,.mk y1 y2 y3 y4,x2,x3),rfl⟩
theorem zWj (o:Op8):zM0 o<=zDt (zAi o):=by
 have h1:=Nd.ws_bulk o.2.2.2.2.1;have h2:=zId .i64 o.2.1;unfold zM0;simp only[zAi,zDt,S.bulk,Op8.nodes,Op8.text,Op8.row]
 omega
theorem zXA (r:Rc) (h:zDt (zAd r)<=1048576):RBul r:=by
 simp only[zAd,zDt,S.bulk]at h;have i1:=zId .i64 r.2.1.1;have i2:=zId .i64 r.2.1.2;have i3:=zId .i64 r.2.2.1;have i4:=zId .i64 r.2.2.2;have i5:=zXv (l:=r.1)
 refine⟨by omega,fun o ho=>?_,by omega,by omega,by omega,by omega⟩
 have h1:=zPB (f:=zAi) ho;have h2:=zWj o
 omega
theorem zXl (d:Dc) (h:zDt (zAn d)<=1048576):DBul d:=by
 obtain⟨ti,t,rs,dn⟩:=d;have ha:=Nd.w_bulk t;obtain⟨y1,y2,y3,y4⟩:=t;simp only[zAn,zDt,S.bulk]at h;simp only[Nd.enc,zDt,S.bulk]at ha;have h1:=zKm (rows:=rs.map zAd) fun r hr=>by
  obtain⟨o,_,rfl⟩:=List.mem_map.1 hr;simp only[zAd,List.length_cons]
  omega
 rw[List.length_map]at h1;refine⟨?_,?_,?_,fun r hr=>zXA r ?_⟩
 ·dsimp only; omega
 ·dsimp only; omega
 ·dsimp only; omega
 ·have:=zPB (f:=zAd) hr;dsimp only at this
  omega
structure Trs (rs:List Rc) (ts:List Nd):Prop where
 len:ts.length=rs.length+1
 valid:∀ t∈ts,zAJ t=true
 step:∀ (i:Nat) (r:Rc),rs[i]? = some r->∃ t u,ts[i]? = some t/\ts[i+1]? = some u/\Runs t r.1 u 0
theorem Trs.one {t:Nd} (h:zAJ t=true):Trs [] [t]:=⟨rfl,fun u hu=>by rw[List.mem_singleton.1 hu]; exact h,fun i r h=>by simp at h⟩
theorem Trs.cons {rs:List Rc}{ts:List Nd}{r:Rc}{t u:Nd} (h:Trs rs ts) (hu:ts[0]? = some u) (hv:zAJ t=true) (hr:Runs t r.1 u 0):Trs (r::rs) (t::ts):=by
 refine⟨by have:=h.len; simp only[List.length_cons]; omega,fun v hv'=>?_,fun i q hq=>?_⟩
 ·rcases List.mem_cons.1 hv' with rfl | hm
  ·exact hv
  ·exact h.valid v hm
 ·cases i with
  | zero =>
   obtain rfl:r=q :=(by simpa using hq);exact⟨t,u,rfl,hu,hr⟩
  | succ i=>exact h.step i q (by simpa using hq)
def zXS (t:Nd):Int×List UInt8×Int×List Nd:=(t.kind,t.text,t.cols,t.kids)
def verL (n:Nat) (rs:List Rc) (a:Int) (k:Nat) (t z:Nd) (i:Int):=zBF n rs a k t.kind t.text t.cols t.kids z.kind z.text z.cols z.kids i
def valL (n:Nat) (rs:List Rc) (k:Nat) (t:Nd) (i:Int):=zCH n rs k t.kind t.text t.cols t.kids i
theorem zLK (n:Nat) (hn:200000000<n){rs:List Rc} (hl:rs.length<=1000) (hf:∀ r∈rs,RFew r) (a:Int):∀ (k i:Nat) (t z:Nd),rs.length - i<k->i<=rs.length->zAJ t=true ->
  (verL n rs a k t z (i:Int)=some (.ret (.mk 0 [] 0 [],false))/\valL n rs k t (i:Int)=some (.ret false)) ∨
  (valL n rs k t (i:Int)=some (.go ())/\∃ ts z',Trs (rs.drop i) ts/\ts[0]? = some t/\verL n rs a k t z (i:Int)=some (.go (zXS z'))/\(a<=(i:Int)->z'=z)/\(∀ m:Nat,0<m->a=((i+m:Nat):Int)->a<=(rs.length:Int)->ts[m]? = some z'))
 | 0,i,t,z,h,_,_=>by omega
 | k+1,i,t,z,h,hi,hv=>by
  unfold verL valL zBF zCH
  by_cases hj:i<rs.length
  ·have hr:=hf _ (List.getElem_mem hj)
   have ha:=zA7 hj;have hd:=List.drop_eq_getElem_cons hj;obtain⟨u,j,e,g1,g2,g3⟩:=hr.osmall.apply n hn hv;obtain⟨u',j',e',q1,q2⟩:=hr.ref n hn hv;obtain⟨rfl,rfl⟩:=g2.det q2;obtain⟨b1,p1,p2⟩:=zOX n hv (rs[i]).2.1 hn hr.b1 hr.b2;have hu:e=0->zAJ u=true:=fun he=>by subst he; exact(g2.back hv).2
   have pt:e=0->∃ b2,zCD n u (rs[i]).2.2=some b2/\zDH n u (rs[i]).2.2=some b2:=fun he=>zOX n (hu he) _ hn hr.a1 hr.a2
   have ih:=fun z' he=>zLK n hn hl hf a k (i+1) u z' (by omega) (by omega) (hu he)
   rw[zAO (Int.ofNat_lt.2 hj),cond_true,hd]
   simp only[ha]
   generalize rs[i]=r at *;obtain⟨ops,⟨c1,c2⟩,⟨c3,c4⟩⟩:=r;obtain⟨t1,t2,t3,t4⟩:=t;dsimp only at g1 q1 p1 p2 pt;simp only[Nd.kind,Nd.text,Nd.cols,Nd.kids,Option.bind_some,g1,q1]
   by_cases he:e=0
   ·subst he;obtain⟨b2,p3,p4⟩:=pt rfl;have hu':=hu rfl;replace ih:=fun z'=>ih z' rfl
    unfold verL valL at ih;obtain⟨u1,u2,u3,u4⟩:=u;simp only[Nd.kind,Nd.text,Nd.cols,Nd.kids]at ih;simp only[show((0:Int) != 0)=false from rfl,cond_false,p1,p2,p3,p4,Option.bind_some]
    cases b1 with
    | false=>exact .inl ⟨rfl,rfl⟩
    | true =>
     cases b2 with
     | false=>exact .inl ⟨rfl,rfl⟩
     | true =>
      simp only[Bool.not_true,cond_false,Option.bind_some,zAR (show i<9223372036854775807 by omega)]
      by_cases hai:(((i+1:Nat):Int))=a
      ·have e1:((((i+1:Nat):Int)) == a)=true:=beq_iff_eq.2 hai;simp only[e1,cond_true,Option.bind_some]
       rcases ih (.mk u1 u2 u3 u4) with ih | ⟨h1,ts,z',h2,h3,h4,h5,h6⟩
       ·exact .inl ih
       ·refine .inr ⟨h1,_,z',h2.cons h3 hv g2,rfl,h4,fun h=>by omega,fun m hm ham hal=>?_⟩
        obtain rfl:m=1 :=(by omega);rw[h5 (by omega)]
        exact h3
      ·have e1:((((i+1:Nat):Int)) == a)=false:=beq_eq_false_iff_ne.2 hai;simp only[e1,cond_false,Option.bind_some]
       rcases ih z with ih | ⟨h1,ts,z',h2,h3,h4,h5,h6⟩
       ·exact .inl ih
       ·refine .inr ⟨h1,_,z',h2.cons h3 hv g2,rfl,h4,fun h=>h5 (by omega),fun m hm ham hal=>?_⟩
        obtain⟨m,rfl⟩:∃ j,m=j+1:=⟨m - 1,by omega⟩
        exact h6 m (by omega) (by omega) hal
   ·have hne:(e != 0)=true:=bne_iff_ne.2 he;obtain⟨u1,u2,u3,u4⟩:=u;simp only[hne,cond_true,Option.bind_some]
    exact .inl ⟨trivial,trivial⟩
  ·rw[zAM (by omega),List.drop_eq_nil_iff.2 (by omega)]
   exact .inr ⟨rfl,[t],z,Trs.one hv,rfl,rfl,fun _=>rfl,fun m hm ham hal=>by omega⟩
theorem zUD (n:Nat) (hn:200000000<n){d:Dc} (hb:DBul d) (hf:DFew d) :
  (zEg n d=some false/\∀ a,zBM n d a=some (.mk 0 [] 0 [],false)) ∨
  (zEg n d=some true/\zAJ d.2.1=true/\d.2.2.1.length<=1000/\(∃ j:Nat,d.2.2.2=(j:Int)/\j<=d.2.2.1.length)/\∃ ts,Trs d.2.2.1 ts/\ts[0]? = some d.2.1 /\
   ∀ a,∃ z,zBM n d a=some (z,true)/\(∀ m:Nat,a=(m:Int)->m<=d.2.2.1.length->ts[m]? = some z)):=by
 have k1:=hf.title;have k2:=hf.len;have k3:=hb.tree;have t1:=zVR n d.1 (by omega) (by omega)
 have t2:=zHQ n d.1 (by omega) (by omega)
 have v1:=zB3 n d.2.1 (by omega) (by omega)
 have v2:=zEv n d.2.1 (by omega) (by omega)
 have lp:=fun a hv=>zLK n hn (rs:=d.2.2.1) (by omega) hf.recs a n 0 d.2.1 d.2.1 (by omega) (Nat.zero_le _) hv
 have hc:=fun hv:zAJ d.2.1=true=>zLd hv
 obtain⟨ti,t,rs,dn⟩:=d;dsimp only at *;unfold zBM zEg
 by_cases c1:200<ti.length
 ·refine .inl ⟨?_,fun a=>?_⟩
  ·obtain⟨q1,q2,q3,q4⟩:=t;dsimp only;rw[zAO (by omega)]; rfl
  ·obtain⟨q1,q2,q3,q4⟩:=t;dsimp only;rw[t1,zAM (by omega),Bool.and_false]; rfl
 cases c2:ti.all zEQ with
 | false =>
  rw[c2]at t1 t2;refine .inl ⟨?_,fun a=>?_⟩
  ·obtain⟨q1,q2,q3,q4⟩:=t;dsimp only;rw[zAM (by omega),t2]; rfl
  ·obtain⟨q1,q2,q3,q4⟩:=t;dsimp only;rw[t1,Bool.false_and]; rfl
 | true =>
  rw[c2]at t1 t2;rw[zAO (by omega),Bool.and_true]at t1;cases c3:zAJ t with
  | false =>
   rw[c3]at v1 v2;obtain⟨q1,q2,q3,q4⟩:=t;refine .inl ⟨?_,fun a=>?_⟩
   ·dsimp only;rw[zAM (by omega),t2]
    simp only[cond_false,Option.bind_some,Bool.not_true,v2]; rfl
   ·dsimp only;simp only[t1,cond_false,Option.bind_some,Bool.not_true,v1]; rfl
  | true =>
   rw[c3]at v1 v2;have hc':=hc c3;replace lp:=fun a=>lp a c3
   unfold verL valL zXS at lp;obtain⟨q1,q2,q3,q4⟩:=t;simp only[Nd.kind,Nd.text,Nd.cols,Nd.kids]at lp;rw[show((0:Nat):Int)=0 from rfl]at lp;simp only[t1,t2,v1,v2,cond_false,Option.bind_some,Bool.not_true,hc',zAM (show ¬ (200<(ti.length:Int)) by omega),zAM (show ¬ (1000<(rs.length:Int)) by omega)]
   by_cases c4:dn<0
   ·simp only[zAO c4,cond_true,Option.bind_some]
    exact .inl ⟨trivial,fun _=>trivial⟩
   by_cases c5:(rs.length:Int)<dn
   ·simp only[zAM c4,zAO c5,cond_true,cond_false,Option.bind_some]
    exact .inl ⟨trivial,fun _=>trivial⟩
   simp only[zAM c4,zAM c5,cond_false,Option.bind_some]
   rcases lp 0 with ⟨_,h0⟩ | ⟨h0,ts,_,g1,g2,_⟩
   ·refine .inl ⟨by rw[h0]; rfl,fun a=>?_⟩
    rcases lp a with ⟨h1,_⟩ | ⟨h1,_⟩
    ·rw[h1]; rfl
    ·rw[h0]at h1; cases h1
   ·rw[List.drop_zero]at g1;refine .inr ⟨by rw[h0]; rfl,trivial,by omega,⟨dn.toNat,by omega,by omega⟩,ts,g1,g2,fun a=>?_⟩
    rcases lp a with ⟨_,h1⟩ | ⟨_,ts',z,k1,k2,k3,k4,k5⟩
    ·rw[h0]at h1; cases h1
    ·rw[List.drop_zero]at k1;have hts:ts'=ts:=by
      apply List.ext_getElem?
      intro i
      induction i with
      | zero=>rw[g2,k2]
      | succ i ih =>
       by_cases hi:i<rs.length
       ·obtain⟨x,y,x1,x2,x3⟩:=g1.step i _ (List.getElem?_eq_getElem hi)
        obtain⟨x',y',y1,y2,y3⟩:=k1.step i _ (List.getElem?_eq_getElem hi)
        rw[x1,y1]at ih;obtain rfl:=Option.some.inj ih;obtain⟨rfl,_⟩:=x3.det y3;rw[x2,y2]
       ·have:=g1.len;have:=k1.len;rw[List.getElem?_eq_none (by omega),List.getElem?_eq_none (by omega)]
     subst hts;obtain⟨z1,z2,z3,z4⟩:=z;refine⟨.mk z1 z2 z3 z4,by rw[k3]; rfl,fun m ha hm=>?_⟩
     by_cases hm0:m=0
     ·subst hm0;rw[k4 (by omega)]
      exact k2
     ·exact k5 m (by omega) (by omega) (by omega)
theorem zT0 (n:Nat){d:Dc}{a:Int}{z:Nd}{b:Bool} (h:zBM n d a=some (z,b)):zCC n d a=some (bif b then (bif decide (a<0) then (.mk 0 [] 0 [],2) else (bif decide ((d.2.2.1.length:Int)<a) then (.mk 0 [] 0 [],2) else (z,0))) else (.mk 0 [] 0 [],1)):=by
 obtain⟨ti,⟨q1,q2,q3,q4⟩,rs,dn⟩:=d;obtain⟨z1,z2,z3,z4⟩:=z;unfold zCC;simp only[h,Option.bind_some]
 cases b with
 | false=>rfl
 | true =>
  simp only[Bool.not_true,cond_false,cond_true]
  cases decide (a<0) with
  | true=>rfl
  | false =>
   simp only[cond_false,Option.bind_some]
   cases decide ((rs.length:Int)<a) <;> rfl
theorem zQs (n:Nat){d:Dc}{z:Nd}{b:Bool} (h:zBM n d 0=some (z,b)):zBO n d=some b:=by
 obtain⟨ti,⟨q1,q2,q3,q4⟩,rs,dn⟩:=d;obtain⟨z1,z2,z3,z4⟩:=z;unfold zBO;simp only[h,Option.bind_some]
theorem Trs.at {rs:List Rc}{ts:List Nd} (h:Trs rs ts){o:Nd} (h0:ts[0]? = some o) (hs:∀ r∈rs,RSmall r) (hl:rs.length<=1000){i:Nat} (hi:i<=rs.length){t:Nd} (ht:ts[i]? = some t) :
  HAt (o,t,rs.take i,(i:Int)) (ts.take (i+1)) i:=by
 have hlen:=h.len;have gt:∀ m,m<=i->(ts.take (i+1))[m]? = ts[m]?:=fun m hm=>by rw[List.getElem?_take,if_pos (by omega)]
 refine⟨⟨?_,?_,fun u hu=>h.valid u (List.mem_of_mem_take hu),fun m r hr=>?_,fun r hr=>hs r (List.mem_of_mem_take hr),?_⟩,rfl,?_,?_⟩
 ·simp only[List.length_take]; omega
 ·rw[gt 0 (Nat.zero_le _)]; exact h0
 ·dsimp only at hr;have hm:m<i:=by
   have:=(List.getElem?_eq_some_iff.1 hr).1;simp only[List.length_take]at this
   omega
  rw[List.getElem?_take,if_pos hm]at hr;obtain⟨x,y,h1,h2,h3⟩:=h.step m r hr;exact⟨x,y,by rw[gt m (by omega)]; exact h1,by rw[gt (m+1) (by omega)]; exact h2,h3⟩
 ·simp only[List.length_take]; omega
 ·simp only[List.length_take]; omega
 ·rw[gt i (Nat.le_refl _)]; exact ht
def opnL (n:Nat) (rs:List Rc) (k:Nat) (h:Hs) (i:Int):=zCB n rs k h.1.kind h.1.text h.1.cols h.1.kids h.2.1.kind h.2.1.text h.2.1.cols h.2.1.kids h.2.2.2 i h.2.2.1
theorem zRT (n:Nat) (hn:200000000<n){rs:List Rc}{ts:List Nd} (h:Trs rs ts){o:Nd} (h0:ts[0]? = some o) (hs:∀ r∈rs,RSmall r) (hl:rs.length<=1000):∀ (k i:Nat) (t:Nd),rs.length - i<k->i<=rs.length->ts[i]? = some t ->
  ∃ z,ts[rs.length]? = some z/\opnL n rs k (o,t,rs.take i,(i:Int)) (i:Int)=some (zQ8 (o,z,rs,(rs.length:Int)))
 | 0,i,t,h,_,_=>by omega
 | k+1,i,t,hk,hi,ht=>by
  unfold opnL zCB
  by_cases hj:i<rs.length
  ·have ha:=zA7 hj;have at_:=h.at h0 hs hl hi ht;obtain⟨x,u,h1,h2,h3⟩:=h.step i _ (List.getElem?_eq_getElem hj)
   obtain rfl:=Option.some.inj (ht.symm.trans h1)
   obtain⟨u',e,d1,d2⟩:=zX5 n at_ (hs _ (List.getElem_mem hj)) hn (by omega)
   obtain⟨rfl,rfl⟩:=h3.det d1;rcases d2 with ⟨d2,_⟩ | ⟨_,d2,_⟩
   ·exact absurd rfl d2
   obtain⟨z,z1,z2⟩:=zRT n hn h h0 hs hl k (i+1) u (by omega) (by omega) h2;refine⟨z,z1,?_⟩
   have e1:(rs.take i).take i++[rs[i]]=rs.take (i+1) :=(by rw[List.take_take,Nat.min_self,List.take_append_getElem hj]);dsimp only at d2;rw[e1]at d2;unfold opnL zQ8 at z2;unfold zQ8;generalize rs.take (i+1)=R at *;rw[zAO (by omega),cond_true]
   simp only[ha]
   generalize rs[i]=r at *;obtain⟨ops,⟨c1,c2⟩,⟨c3,c4⟩⟩:=r;obtain⟨o1,o2,o3,o4⟩:=o;obtain⟨t1,t2,t3,t4⟩:=t;obtain⟨u1,u2,u3,u4⟩:=u;simp only[Nd.kind,Nd.text,Nd.cols,Nd.kids]at z2 ⊢;simp only[Option.bind_some,d2,show((0:Int) != 0)=false from rfl,cond_false,zAR (show i<9223372036854775807 by omega)]
   exact z2
  ·obtain rfl:i=rs.length :=(by omega);rw[zAM (by omega)]
   refine⟨t,ht,?_⟩
   rw[List.take_length]
   rfl
theorem zW9 (n:Nat) (hn:200000000<n){d:Dc}{ts:List Nd} (hV:zBO n d=some true) (hv:zAJ d.2.1=true) (h:Trs d.2.2.1 ts) (h0:ts[0]? = some d.2.1) (hs:∀ r∈d.2.2.1,RSmall r) (hl:d.2.2.1.length<=1000){j:Nat} (hj:d.2.2.2=(j:Int)) (hj':j<=d.2.2.1.length) :
  ∃ t,ts[j]? = some t/\zEd n d=some (some (d.2.1,t,d.2.2.1,(j:Int)),0)/\HAt (d.2.1,t,d.2.2.1,(j:Int)) ts j:=by
 have hw:=zJX hv;obtain⟨n1,_⟩:=zXJ n hn (t:=d.2.1) (by omega)
 rw[hv,cond_true]at n1;obtain⟨z,z1,z2⟩:=zRT n hn h h0 hs hl n 0 d.2.1 (by omega) (Nat.zero_le _) h0;have a:=h.at h0 hs hl (Nat.le_refl _) z1;rw[List.take_length,List.take_of_length_le (by have:=h.len; omega)]at a;obtain⟨t,t1,t2⟩:=zUS n hn a (d:=j) hj';have a2:=a.move t1;refine⟨t,t1,?_,a2⟩
 rw[List.take_zero,show((0:Nat):Int)=0 from rfl]at z2;unfold hAt at t2;unfold opnL zQ8 at z2;obtain⟨ti,⟨q1,q2,q3,q4⟩,rs,dn⟩:=d;obtain⟨z1,z2',z3,z4⟩:=z;obtain⟨t1,t2',t3,t4⟩:=t;dsimp only[Nd.kind,Nd.text,Nd.cols,Nd.kids]at z2 t2 hj n1 ⊢;subst hj;unfold zEd;simp only[hV,Option.bind_some,Bool.not_true,cond_false,n1]
 rw[zCc trivial]
 simp only[z2,t2,Option.bind_some,show((0:Int) != 0)=false from rfl,cond_false]
theorem zVX (n:Nat){d:Dc} (hV:zBO n d=some false):zEd n d=some (none,1):=by
 obtain⟨ti,⟨q1,q2,q3,q4⟩,rs,dn⟩:=d;unfold zEd;simp only[hV,Option.bind_some,Bool.not_false,cond_true]
theorem zX6 (n:Nat) (hn:200000000<n){h:Hs}{ts:List Nd}{j:Nat} (a:HAt h ts j) (ti:List UInt8){b:Bool} (hV:zBO n (ti,h.1,h.2.2.1,h.2.2.2)=some b):zIk n h ti=some (bif b then ((ti,h.1,h.2.2.1,h.2.2.2),0,h) else (([],.mk 0 [] 0 [],[],0),1,h)):=by
 have og:=zUH (a.inv.valid _ (List.mem_of_getElem? a.inv.orig))
 have rr:=zTY n hn a;obtain⟨⟨x1,x2,x3,x4⟩,⟨y1,y2,y3,y4⟩,z,w⟩:=h;dsimp only at hV og rr ⊢;unfold zIk;simp only[og,rr,zW8,hV,Option.bind_some]
 cases b <;> rfl
theorem zNy (n:Nat) (hn:200000000<n){rs:List Rc} (hf:∀ r∈rs,RFew r) (hl:rs.length<=1000):∀ (k i:Nat),rs.length - i<k->zBi n rs rs k (i:Int)=some (.go ())
 | 0,i,h=>by omega
 | k+1,i,h=>by
  unfold zBi
  by_cases hj:i<rs.length
  ·have h1:=zUQ n hn (hf _ (List.getElem_mem hj))
   have ha:=zA7 hj;have ih:=zNy n hn hf hl k (i+1) (by omega)
   generalize rs[i]=r at h1 ha;obtain⟨r1,⟨r2,r3⟩,⟨r4,r5⟩⟩:=r;rw[zAO (Int.ofNat_lt.2 hj),cond_true]
   simp only[ha,Option.bind_some,h1,Bool.not_true,cond_false]
   rw[zAR (by omega)]
   exact ih
  ·rw[zAM (by omega)]
   rfl
theorem zUR (n:Nat) (hn:200000000<n){d:Dc} (hv:zAJ d.2.1=true) (hf:∀ r∈d.2.2.1,RFew r) (hl:d.2.2.1.length<=1000):zHh n d d=some true:=by
 have q:=zQW n hv hn;have lp:=zNy n hn hf hl n 0 (by omega)
 rw[show((0:Nat):Int)=0 from rfl]at lp;obtain⟨ti,⟨q1,q2,q3,q4⟩,rs,dn⟩:=d;dsimp only at q lp;unfold zHh zDT;simp only[beq_self_eq_true,cond_true,q,Option.bind_some,bne_self_eq_false,cond_false,lp]
def hisL (n:Nat) (rs:List Rc) (d:Dc) (k:Nat) (h:Hs) (i:Int):=zBg n rs d.1 d.2.1.kind d.2.1.text d.2.1.cols d.2.1.kids d.2.2.1 d.2.2.2 k h.1.kind h.1.text h.1.cols h.1.kids h.2.1.kind h.2.1.text h.2.1.cols h.2.1.kids h.2.2.2 i h.2.2.1
theorem zTu (n:Nat) (hn:200000000<n){d:Dc}{ts:List Nd} (hl:d.2.2.1.length<=1000) (hver:∀ (a:Nat),a<=d.2.2.1.length->∃ z,ts[a]? = some z/\zCC n d (a:Int)=some (z,0)):∀ (k i j:Nat) (h:Hs),d.2.2.1.length+1 - i<k->HAt h ts j->h.2.2.1=d.2.2.1 ->
  hisL n d.2.2.1 d k h (i:Int)=some (.go ())
 | 0,i,j,h,hk,_,_=>by omega
 | k+1,i,j,h,hk,a,hr=>by
  unfold hisL zBg
  by_cases hi:i<=d.2.2.1.length
  ·obtain⟨z,z1,z2⟩:=hver i hi;obtain⟨t,t1,t2⟩:=zUS n hn a (d:=i) (by rw[hr]; exact hi)
   obtain rfl:=Option.some.inj (z1.symm.trans t1)
   have a2:=a.move t1;have ih:=zTu n hn hl hver k (i+1) i (hAt h z i) (by omega) a2 hr;have tr:=zXb a2.vtree;have q:=zQW n a2.vtree hn;unfold hisL hAt at ih;unfold hAt at t2 tr q
   clear a a2 hver
   obtain⟨⟨x1,x2,x3,x4⟩,⟨y1,y2,y3,y4⟩,rs,w⟩:=h;obtain⟨ti,⟨q1,q2,q3,q4⟩,rs',dn⟩:=d;obtain⟨t1,t2',t3,t4⟩:=z;dsimp only[Nd.kind,Nd.text,Nd.cols,Nd.kids]at ih t2 tr q z2 hi hl ⊢;rw[zAO (by omega),cond_true]
   simp only[z2,t2,tr,q,Option.bind_some,show((0:Int) != 0)=false from rfl,cond_false,Bool.not_true,zAR (show i<9223372036854775807 by omega)]
   exact ih
  ·rw[zAM (by omega)]
   rfl
theorem zNG (n:Nat) (hn:200000000<n) (hw:zEY n=some true) (d:Dc) (hb:DBul d):zB9 n d=some true:=by
 obtain⟨y,f1,f2⟩:=zV9 n (by omega) d hb;cases y with
 | false =>
  obtain⟨ti,⟨q1,q2,q3,q4⟩,rs,dn⟩:=d;unfold zB9;simp only[hw,f1,Option.bind_some,Bool.not_true,cond_false,Bool.not_false,cond_true]
 | true =>
  have hf:=f2 rfl;rcases zUD n hn hb hf with ⟨h1,h2⟩ | ⟨h1,h2,h3,⟨j,hj,hj'⟩,ts,h5,h6,h7⟩
  ·have e1:=zVX n (zQs n (h2 0))
   obtain⟨ti,⟨q1,q2,q3,q4⟩,rs,dn⟩:=d;unfold zB9;simp only[hw,f1,Option.bind_some,Bool.not_true,cond_false,e1,h1,Bool.not_false,cond_true]
   rw[zCc trivial]
  ·have hver:∀ (a:Nat),a<=d.2.2.1.length->∃ z,ts[a]? = some z/\zCC n d (a:Int)=some (z,0):=fun a ha=>by
    obtain⟨z,g1,g2⟩:=h7 (a:Int)
    have e1:=zT0 n g1;rw[cond_true,zAM (by omega),zAM (by omega),cond_false,cond_false]at e1;exact⟨z,g2 a rfl ha,e1⟩
   obtain⟨z0,g1,_⟩:=h7 0;have hV:=zQs n g1;obtain⟨t,t1,t2,a⟩:=zW9 n hn hV h2 h5 h6 (fun r hr=>(hf.recs r hr).small) h3 hj hj';have hV':zBO n (d.1,d.2.1,d.2.2.1,(j:Int))=some true :=(by rw[← hj]; exact hV);have of:=zX6 n hn a d.1 hV';rw[cond_true]at of;have sm:=zUR n hn h2 hf.recs h3;have lp:=zTu n hn h3 hver n 0 j _ (by omega) a rfl;rw[show((0:Nat):Int)=0 from rfl]at lp;unfold hisL at lp
   clear a hver h7
   obtain⟨ti,⟨q1,q2,q3,q4⟩,rs,dn⟩:=d;obtain⟨u1,u2,u3,u4⟩:=t;dsimp only[Nd.kind,Nd.text,Nd.cols,Nd.kids]at lp of sm t2 hj;subst hj;unfold zB9;simp only[hw,f1,Option.bind_some,Bool.not_true,cond_false,t2,h1,zCc trivial]
   simp only[of,sm,Option.bind_some,show((0:Int) != 0)=false from rfl,cond_false,Bool.not_true,lp]
theorem zT3 (k:Nat):zEY (k+100)=some true:=by
 with_unfolding_all rfl
end Go.Proofs.YtgplhldfbkmmgaaGreat
