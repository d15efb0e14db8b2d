/-
  Joined out of: PEdit1, PEdit2, PEdit3, PEdit4, PEdit5, PDif4, PEdit7, PHs2, PHs3, PHs4, PR10, PRun7, PHs6, PHsB, PFil1, PTypF, PFil2, PFil3, PCo1, PCo2, PCo3, PFil5, PFil6, PFil7, PTypV, PCo4, PCo5, PCo6, PFil8, PFil9, PFilA.
-/
import Derived.Test.YtgplhldfbkmmgaaGreatZe
set_option linter.unusedVariables false
set_option linter.unusedSimpArgs false
set_option maxHeartbeats 2000000
set_option maxRecDepth 100000
namespace Go.Proofs.YtgplhldfbkmmgaaGreat
open Go.Abs
def splS (l:List Nd) (p q:Nat) (b:List Nd):List Nd:=(l.take p++b)++l.drop q
def segS (l:List Nd) (p q:Nat):List Nd:=(l.take q).drop p
def rowN (l:List Nd):Nd:=.mk 1 [] 0 l
def zIW (v:Nd) (s:Nat) (l:List Nd):Nd:=.mk v.kind v.text v.cols (v.kids.set s (rowN l))
def zVd (k:Int):Bool:=(k == 2)||((k == 3)||((k == 4)||((k == 10)||(k == 11))))
def zEt (k m:Int) (nodes:List Nd):Int:=if k=1 then 0 else if k=2 then nodes.length else if k=3 then m else 1
def zUg (nodes:List Nd) (slot:Int):Prop:=∃ (v:Nd) (s:Nat) (z:Nd),nodes=[v]/\slot=(s:Int)/\zAz (rowN [v])=true/\v.kids[s]? = some z/\z.kids=[]
def FormP:Op8->Prop
 | (k,_,_,m,nodes,slot,old,text) =>
  ((k=1∨k=2)/\nodes ≠ []/\zAz (rowN nodes)=true/\m=0/\slot=0/\old=[]/\text=[]) ∨
  ((k=3∨k=4)/\0<=m/\zUg nodes slot/\old=[]/\text=[]) ∨
  (k=5/\old ≠ text/\nodes=[]/\m=0/\slot=0)
inductive Chg (l:List Nd):Op8->List Nd->Int->Prop
 | range {k:Int} {row:List Int} {a m:Int} {nodes:List Nd} {slot:Int} {old text:List UInt8} (h:a<0∨(l.length:Int)<a∨(l.length:Int) - a<zEt k m nodes):Chg l (k,row,a,m,nodes,slot,old,text) [] 2
 | ins {row:List Int} {p:Nat} {m:Int} {nodes:List Nd} {slot:Int} {old text:List UInt8} (h:p<=l.length):Chg l (1,row,(p:Int),m,nodes,slot,old,text) (splS l p p nodes) 0
 | del {row:List Int} {p:Nat} {m:Int} {nodes:List Nd} {slot:Int} {old text:List UInt8} (h:p+nodes.length<=l.length) (he:segS l p (p+nodes.length)=nodes):Chg l (2,row,(p:Int),m,nodes,slot,old,text) (splS l p (p+nodes.length) []) 0
 | del_no {row:List Int} {p:Nat} {m:Int} {nodes:List Nd} {slot:Int} {old text:List UInt8} (h:p+nodes.length<=l.length) (he:segS l p (p+nodes.length) ≠ nodes):Chg l (2,row,(p:Int),m,nodes,slot,old,text) [] 7
 | wrap {row:List Int} {p m:Nat} {v:Nd} {s:Nat} {old text:List UInt8} (h:p+m<=l.length):Chg l (3,row,(p:Int),(m:Int),[v],(s:Int),old,text) (splS l p (p+m) [zIW v s (segS l p (p+m))]) 0
 | unwrap {row:List Int} {p:Nat} {m:Int} {v it z:Nd} {s:Nat} {old text:List UInt8} (h:l[p]? = some it) (hz:it.kids[s]? = some z) (hm:(z.kids.length:Int)=m) (he:it=zIW v s z.kids):Chg l (4,row,(p:Int),m,[v],(s:Int),old,text) (splS l p (p+1) z.kids) 0
 | unwrap_no {row:List Int} {p:Nat} {m:Int} {v it:Nd} {s:Nat} {old text:List UInt8} (h:l[p]? = some it) (hz:∀ z,it.kids[s]? = some z->(z.kids.length:Int)=m->it ≠ zIW v s z.kids):Chg l (4,row,(p:Int),m,[v],(s:Int),old,text) [] 7
 | set {row:List Int} {p:Nat} {m:Int} {nodes:List Nd} {it:Nd} {slot:Int} {old text:List UInt8} (h:l[p]? = some it) (hl:zVd it.kind=true) (he:it.text=old):Chg l (5,row,(p:Int),m,nodes,slot,old,text) (splS l p (p+1) [.mk it.kind text it.cols it.kids]) 0
 | set_no {row:List Int} {p:Nat} {m:Int} {nodes:List Nd} {it:Nd} {slot:Int} {old text:List UInt8} (h:l[p]? = some it) (hl:¬ (zVd it.kind=true/\it.text=old)):Chg l (5,row,(p:Int),m,nodes,slot,old,text) [] 7
inductive App (t:Nd):Op8->Nd->Int->Prop
 | arg {o:Op8} (h:zAz t=false):App t o zD6 1
 | form {o:Op8} (h:zAz t=true) (hf:¬ FormP o):App t o zD6 4
 | none {o:Op8} (h:zAz t=true) (hf:FormP o) (hn:zB1 t o.2.1=Option.none):App t o zD6 8
 | chg {o:Op8} {r:Nd} {l:List Nd} {e:Int} (h:zAz t=true) (hf:FormP o) (hr:Fd t o.2.1 r) (hc:Chg r.kids o l e) (he:e ≠ 0):App t o zD6 e
 | limit {o:Op8} {r:Nd} {l:List Nd} (h:zAz t=true) (hf:FormP o) (hr:Fd t o.2.1 r) (hc:Chg r.kids o l 0) (hv:zAz (putL t o.2.1 (rowN l))=false):App t o zD6 6
 | ok {o:Op8} {r:Nd} {l:List Nd} (h:zAz t=true) (hf:FormP o) (hr:Fd t o.2.1 r) (hc:Chg r.kids o l 0) (hv:zAz (putL t o.2.1 (rowN l))=true):App t o (putL t o.2.1 (rowN l)) 0
theorem Chg.w {l l':List Nd}{k:Int}{row:List Int}{a m:Int}{nodes:List Nd}{slot:Int}{old text:List UInt8}{e:Int} (h:Chg l (k,row,a,m,nodes,slot,old,text) l' e):Nd.ws l'<=Nd.ws l+Nd.ws nodes+text.length+3/\l'.length<=l.length+Nd.ws nodes+Nd.ws l+1:=by
 have key:∀ p q b,p<=q->Nd.ws (splS l p q b)+Nd.ws (segS l p q)=Nd.ws l+Nd.ws b:=fun p q b h=>zTg l b h
 have hlen:∀ l':List Nd,l'.length<=Nd.ws l':=Nd.ws_len
 have h1:Nd.ws l'<=Nd.ws l+Nd.ws nodes+text.length+3:=by
  cases h with
  | range=>simp only[Nd.ws]; omega
  | @ins _ p _ _ _ _ _ h=>have:=key p p nodes (Nat.le_refl _); omega
  | @del _ p _ _ _ _ _ h he=>have:=key p (p+nodes.length) [] (Nat.le_add_right _ _); simp only[Nd.ws]at this; omega
  | del_no=>simp only[Nd.ws]; omega
  | @wrap _ p m v s _ _ h =>
   have:=key p (p+m) [zIW v s (segS l p (p+m))] (Nat.le_add_right _ _)
   have hf:(zIW v s (segS l p (p+m))).w<=v.w+Nd.ws (segS l p (p+m))+1:=by
    rw[zHI v]
    simp only[zIW,rowN,Nd.w]
    by_cases hs:s<v.kids.length
    ·have:=zPk (ks:=v.kids) (i:=s) (y:=.mk 1 [] 0 (segS l p (p+m))) (List.getElem?_eq_getElem hs)
     simp only[Nd.w,List.length_nil]at this
     omega
    ·rw[List.set_eq_of_length_le (by omega)]; omega
   simp only[Nd.ws]at this ⊢
   omega
  | @unwrap _ p _ v it z s _ _ h hz hm he =>
   have:=key p (p+1) z.kids (Nat.le_add_right _ _)
   have hsg:segS l p (p+1)=[it]:=by
    have:=zT7 l (List.getElem?_eq_some_iff.1 h).1;rw[segS,this,(List.getElem?_eq_some_iff.1 h).2]
   have w1:=Nd.w_mem (List.mem_of_getElem? hz)
   have w2:=zHI z;have w3:=zHI it;rw[hsg]at this;simp only[Nd.ws]at this
   omega
  | unwrap_no=>simp only[Nd.ws]; omega
  | @set _ p _ _ it _ _ _ h hl he =>
   have:=key p (p+1) [.mk it.kind text it.cols it.kids] (Nat.le_add_right _ _)
   have hsg:segS l p (p+1)=[it]:=by
    have:=zT7 l (List.getElem?_eq_some_iff.1 h).1;rw[segS,this,(List.getElem?_eq_some_iff.1 h).2]
   have w3:=zHI it;rw[hsg]at this;simp only[Nd.ws,Nd.w]at this
   omega
  | set_no=>simp only[Nd.ws]; omega
 refine⟨h1,?_⟩
 cases h with
 | range=>simp
 | @ins _ p _ _ _ _ _ h=>have:=hlen nodes; simp only[splS,List.length_append,List.length_take,List.length_drop]; omega
 | @del _ p _ _ _ _ _ h he=>simp only[splS,List.length_append,List.length_take,List.length_drop,List.length_nil]; omega
 | del_no=>simp
 | @wrap _ p m v s _ _ h=>simp only[splS,List.length_append,List.length_take,List.length_drop,List.length_cons,List.length_nil]; omega
 | @unwrap _ p _ v it z s _ _ h hz hm he =>
  have w1:=Nd.w_mem (List.mem_of_getElem? hz)
  have w4:=Nd.w_mem (List.mem_of_getElem? h)
  have w2:=zHI z;have w3:=zHI it;have:=hlen z.kids;simp only[splS,List.length_append,List.length_take,List.length_drop]; omega
 | unwrap_no=>simp
 | @set _ p _ _ it _ _ _ h hl he=>simp only[splS,List.length_append,List.length_take,List.length_drop,List.length_cons,List.length_nil]; omega
 | set_no=>simp
theorem zMm (n:Nat) (nodes:List Nd) (h:Nd.ws nodes+50<n) (hb:Nd.ws nodes<=67000000):zEM n nodes=some (zAz (rowN nodes)):=by
 unfold zEM;simp only[zDE,obs]
 rw[zEi n _ (by simp only[Nd.w,List.length_nil]; omega) (by simp only[Nd.w,List.length_nil]; omega)]; rfl
theorem zOW (n:Nat) (l:List Nd) (slot:Int) (h:Nd.ws l+50<n) (hb:Nd.ws l<=67000000):∃ b,zHR n l slot=some b/\(b=true↔zUg l slot):=by
 unfold zHR;dsimp only;cases e1:((l.length:Int) == 1) with
 | false=>exact⟨false,rfl,(fun h=>by cases h),fun⟨v,s,z,h,_⟩=>by rw[h]at e1; cases e1⟩
 | true =>
  have hl:l.length=1 :=(by have:=eq_of_beq e1; omega);obtain⟨v,rfl⟩:=List.length_eq_one_iff.1 hl;have hv:=zMm n [v] h hb;obtain⟨a,b,c,d⟩:=v;have h0:at? [Nd.mk a b c d] (0:Int)=some (Nd.mk a b c d):=rfl;simp only[cond_true,hv,obs,h0]
  cases hvb:zAz (rowN [.mk a b c d]) with
  | false=>exact⟨false,rfl,(fun h=>by cases h),fun⟨v,s,z,h,_,h2,_⟩=>by cases h; rw[hvb]at h2; cases h2⟩
  | true =>
   by_cases h1:0<=slot
   ·by_cases h2:slot<(d.length:Int)
    ·obtain⟨p,rfl,hp,hg⟩:=zXX h1 h2;simp only[cond_true,zAB h1,zAB h2,hg,obs]
     have hz:d[p]? = some d[p]:=List.getElem?_eq_getElem hp;generalize d[p]=z at hz;obtain⟨x1,x2,x3,x4⟩:=z;refine⟨_,rfl,fun h=>⟨_,p,_,rfl,rfl,hvb,hz,?_⟩,fun⟨v,s,z,h,hs,_,hz',hk⟩=>?_⟩
     ·have:=eq_of_beq h;exact List.eq_nil_of_length_eq_zero (by simp only[Nd.kids]; omega)
     ·cases h;obtain rfl:p=s :=(by omega);simp only[Nd.kids]at hz';rw[hz]at hz';cases hz';simp only[Nd.kids]at hk;subst hk
      rfl
    ·simp only[cond_true,zAB h1,zAx h2]
     refine⟨false,rfl,(fun h=>by cases h),fun⟨v,s,z,h,hs,_,hz,_⟩=>?_⟩
     cases h;have:=(List.getElem?_eq_some_iff.1 hz).1;simp only[Nd.kids]at this
     omega
   ·simp only[cond_true,zAx h1]
    refine⟨false,rfl,(fun h=>by cases h),fun⟨v,s,z,h,hs,_⟩=>?_⟩
    omega
theorem zRC (n:Nat) (k:Int) (row:List Int) (at' m:Int) (nodes:List Nd) (slot:Int) (old text:List UInt8) (h:Nd.ws nodes+50<n) (hb:Nd.ws nodes<=67000000) :
  ∃ b,zJq n (k,row,at',m,nodes,slot,old,text)=some b/\(b=true↔FormP (k,row,at',m,nodes,slot,old,text)):=by
 have hv:=zMm n nodes h hb;obtain⟨tb,t1,t2⟩:=zOW n nodes slot h hb;have hlen:decide (0<(nodes.length:Int))=true↔nodes ≠ [] :=(by cases nodes <;> simp);have hlen0:((nodes.length:Int) == 0)=true↔nodes=[] :=(by cases nodes <;> simp <;> omega);unfold zJq;simp only[hv,t1,obs,FormP]
 by_cases k12:k=1∨k=2
 ·have e:(bif (k == 1) then some (k == 1) else some (k == 2):Option Bool)=some true:=by rcases k12 with rfl | rfl <;> rfl
  have hk:¬ (k=3∨k=4)/\¬ k=5 :=(by omega);rw[e]
  simp only[obs,cond_true,k12,hk.1,hk.2,true_and,false_and,or_false]
  rw[← hlen]
  generalize decide (0<(nodes.length:Int))=b1;generalize zAz (rowN nodes)=b2;cases b1 <;> cases b2 <;> simp only[cond_true,cond_false,obs] <;> try exact⟨false,rfl,by simp⟩
  cases e1:m == 0 <;> simp only[cond_true,cond_false,obs]
  ·exact⟨false,rfl,by simp[beq_eq_false_iff_ne.1 e1]⟩
  cases e2:slot == 0 <;> simp only[cond_true,cond_false,obs]
  ·exact⟨false,rfl,by simp[beq_eq_false_iff_ne.1 e2]⟩
  cases e3:old == [] <;> simp only[cond_true,cond_false,obs]
  ·exact⟨false,rfl,by simp[beq_eq_false_iff_ne.1 e3]⟩
  refine⟨_,rfl,?_⟩
  rw[eq_of_beq e1,eq_of_beq e2,eq_of_beq e3]
  simp
 ·have e:(bif (k == 1) then some (k == 1) else some (k == 2):Option Bool)=some false:=by
   rw[zDP (fun h=>k12 (.inl h)),zDP (fun h=>k12 (.inr h))]; rfl
  rw[e]
  simp only[obs,cond_false,k12,false_and,false_or]
  by_cases k34:k=3∨k=4
  ·have e:(bif (k == 3) then some (k == 3) else some (k == 4):Option Bool)=some true:=by rcases k34 with rfl | rfl <;> rfl
   have hk:¬ k=5 :=(by omega);rw[e]
   simp only[obs,cond_true,k34,hk,true_and,false_and,or_false]
   rw[← t2]
   by_cases hm:0<=m
   ·rw[zAB hm]
    cases tb <;> simp only[cond_true,cond_false,obs]
    ·exact⟨false,rfl,by simp⟩
    cases e3:old == [] <;> simp only[cond_true,cond_false,obs]
    ·exact⟨false,rfl,by simp[beq_eq_false_iff_ne.1 e3]⟩
    refine⟨_,rfl,?_⟩
    rw[eq_of_beq e3]
    simp[hm]
   ·rw[zAx hm]
    exact⟨false,rfl,by simp[hm]⟩
  ·have e:(bif (k == 3) then some (k == 3) else some (k == 4):Option Bool)=some false:=by
    rw[zDP (fun h=>k34 (.inl h)),zDP (fun h=>k34 (.inr h))]; rfl
   rw[e]
   simp only[obs,cond_false,k34,false_and,false_or]
   by_cases k5:k=5
   ·subst k5;simp only[beq_self_eq_true,cond_true,obs,true_and]
    rw[← hlen0]
    generalize ((nodes.length:Int) == 0)=b1;cases e0:old == text <;> simp only[Bool.not_true,Bool.not_false,cond_true,cond_false,obs]
    ·have:=beq_eq_false_iff_ne.1 e0;cases b1 <;> simp only[cond_true,cond_false,obs]
     ·exact⟨false,rfl,by simp⟩
     cases e1:m == 0 <;> simp only[cond_true,cond_false,obs]
     ·exact⟨false,rfl,by simp[beq_eq_false_iff_ne.1 e1]⟩
     refine⟨_,rfl,?_⟩
     rw[eq_of_beq e1]
     simp[this]
    ·exact⟨false,rfl,by simp[eq_of_beq e0]⟩
   ·rw[zDP k5]
    exact⟨false,rfl,by simp[k5]⟩
theorem zUw (k:Int):(bif (k == 2) then some (k == 2) else bif (k == 3) then some (k == 3) else bif (k == 4) then some (k == 4) else bif (k == 10) then some (k == 10) else some (k == 11):Option Bool)=some (zVd k):=by
 unfold zVd;cases e1:k == 2 <;> cases e2:k == 3 <;> cases e3:k == 4 <;> cases e4:k == 10 <;> rfl
theorem zUG (k m:Int) (nodes:List Nd):(bif (k == 1) then some 0 else bif (k == 2) then some (nodes.length:Int) else bif (k == 3) then some m else some 1:Option Int)=some (zEt k m nodes):=by
 unfold zEt
 by_cases k1:k=1
 ·subst k1; rfl
 by_cases k2:k=2
 ·subst k2; rfl
 by_cases k3:k=3
 ·subst k3; rfl
 rw[zDP k1,zDP k2,zDP k3,if_neg k1,if_neg k2,if_neg k3]; rfl
theorem zTI {k:Int}{row:List Int}{a m:Int}{nodes:List Nd}{slot:Int}{old text:List UInt8} (hf:FormP (k,row,a,m,nodes,slot,old,text)):0<=zEt k m nodes:=by
 unfold zEt;rcases hf with ⟨rfl | rfl,_⟩ | ⟨rfl | rfl,hm,_⟩ | ⟨rfl,_⟩ <;> simp <;> omega
theorem zRD (n:Nat) (l:List Nd) (k:Int) (row:List Int) (a m:Int) (nodes:List Nd) (slot:Int) (old text:List UInt8) (hf:FormP (k,row,a,m,nodes,slot,old,text)) (hn:2 * Nd.ws l+2 * Nd.ws nodes+50<n) (ha:Nd.ws l<=60000000) (hb:Nd.ws nodes<=2000000) :
  ∃ l' e,zJr n l (k,row,a,m,nodes,slot,old,text)=some (l',e)/\Chg l (k,row,a,m,nodes,slot,old,text) l' e:=by
 have la:=Nd.ws_len l;have lb:=Nd.ws_len nodes;have cl:=Nd.cnts_ws l;have cb:=Nd.cnts_ws nodes;have hnn:=zTI hf;unfold zJr;dsimp only;rw[zUG]
 simp only[obs]
 by_cases h1:a<0
 ·rw[zAB h1]; exact⟨[],2,rfl,.range (.inl h1)⟩
 rw[zAx h1]
 by_cases h2:(l.length:Int)<a
 ·rw[zAB h2]; exact⟨[],2,rfl,.range (.inr (.inl h2))⟩
 rw[zAx h2,wrap64_in (n:=(l.length:Int) - a) (by omega) (by omega)]
 by_cases h3:(l.length:Int) - a<zEt k m nodes
 ·rw[zAB h3]; exact⟨[],2,rfl,.range (.inr (.inr h3))⟩
 rw[zAx h3]
 simp only[cond_false,obs]
 obtain⟨p,rfl⟩:=Int.eq_ofNat_of_zero_le (show 0<=a by omega)
 obtain⟨y,hy⟩:=Int.eq_ofNat_of_zero_le hnn;rw[hy]at h3 ⊢;rw[wrap64_in (n:=(p:Int)+(y:Int)) (by omega) (by omega),← Int.natCast_add]
 have hseg:=zX6 l (Nat.le_add_right p y)
 have lseg:=Nd.ws_len ((l.take (p+y)).drop p)
 have cseg:=Nd.cnts_ws ((l.take (p+y)).drop p)
 have hsp:∀ by':List Nd,by'.length<=1073741824->zDy l (p:Int) ((p+y:Nat):Int) by'=some (splS l p (p+y) by'):=fun by' hby=>zWV l by' p (p+y) (by omega) (by omega) (by omega) hby
 rcases hf with ⟨rfl | rfl,h0⟩ | ⟨rfl | rfl,hm,⟨v,s,z,rfl,rfl,hvv,hz,hzk⟩,_⟩ | ⟨rfl,h0⟩
 ·obtain rfl:y=0 :=(by have:zEt 1 m nodes=0:=rfl; omega);simp only[beq_self_eq_true,cond_true,Nat.add_zero]at hsp ⊢;rw[hsp nodes (by omega)]
  exact⟨_,0,rfl,.ins (by omega)⟩
 ·obtain rfl:y=nodes.length :=(by have:zEt 2 m nodes=(nodes.length:Int):=rfl; omega);simp only[show((2:Int) == 1)=false from rfl,cond_false,beq_self_eq_true,cond_true,Int.toNat_natCast]
  rw[zAK ⟨by omega,by omega,by omega⟩]
  obtain⟨r,g1,g2⟩:=(zJX n).2 ((l.take (p+nodes.length)).drop p) nodes (by omega) (by omega)
  rw[g1]
  simp only[obs]
  cases r with
  | false=>exact⟨[],7,rfl,.del_no (by omega) fun e=>by have:=g2.2 e; cases this⟩
  | true =>
   simp only[Bool.not_true,cond_false,hsp [] (by simp),obs]
   exact⟨_,0,rfl,.del (by omega) (g2.1 rfl)⟩
 ·obtain rfl:m=(y:Int):=hy;have hs:=(List.getElem?_eq_some_iff.1 hz).1;have hfe:=zSq v s ((l.take (p+y)).drop p) hs (by have:=Nd.ws_len v.kids; have:=zHI v; simp only[Nd.ws]at lb hb; omega) (by omega)
  have hv0:at? [v] (0:Int)=some v:=rfl;obtain⟨v1,v2,v3,v4⟩:=v;simp only[show((3:Int) == 1)=false from rfl,show((3:Int) == 2)=false from rfl,cond_false,beq_self_eq_true,cond_true,Int.toNat_natCast,hv0,obs]
  rw[zAK ⟨by omega,by omega,by omega⟩,hfe]
  simp only[obs]
  rw[hsp _ (by simp)]
  exact⟨_,0,rfl,.wrap (by omega)⟩
 ·obtain rfl:y=1 :=(by have:zEt 4 m [v]=1:=rfl; omega);have hs:=(List.getElem?_eq_some_iff.1 hz).1;have hv0:at? [v] (0:Int)=some v:=rfl;have hpl:p<l.length :=(by omega);have hit:l[p]? = some l[p]:=List.getElem?_eq_getElem hpl;have hia:at? l (p:Int)=some l[p]:=zAv hpl;generalize l[p]=it at hit hia;have hiw:=Nd.w_mem (List.mem_of_getElem? hit)
  have hic:=Nd.cnt_w it;have hlk:=Nd.ws_len v.kids;have hwv:=zHI v;simp only[Nd.ws]at hb hn;have hfe:∀ l':List Nd,l'.length<=1073741824->zF4 v (s:Int) l'=some (zIW v s l'):=fun l' hl'=>zSq v s l' hs (by omega) hl'
  have heq:∀ x:Nd,∃ r,zBO n it x=some r/\(r=true↔it=x):=fun x=>(zJX n).1 it x (by omega) (by omega)
  obtain⟨i1,i2,i3,i4⟩:=it;have hwi:(Nd.mk i1 i2 i3 i4).w=i2.length+Nd.ws i4+1:=rfl;have hlk4:=Nd.ws_len i4;obtain⟨v1,v2,v3,v4⟩:=v;simp only[show((4:Int) == 1)=false from rfl,show((4:Int) == 2)=false from rfl,show((4:Int) == 3)=false from rfl,cond_false,beq_self_eq_true,cond_true,hia,obs,hv0]
  by_cases hsl:(i4.length:Int)<=(s:Int)
  ·rw[zAB hsl]
   refine⟨[],7,rfl,.unwrap_no hit fun z' hz'=>?_⟩
   have:=(List.getElem?_eq_some_iff.1 hz').1;simp only[Nd.kids]at this
   omega
  rw[zAx hsl]
  have hsi:s<i4.length :=(by omega);have hzi:i4[s]? = some i4[s]:=List.getElem?_eq_getElem hsi;have hza:at? i4 (s:Int)=some i4[s]:=zAv hsi;generalize i4[s]=z' at hzi hza;have hzw:=Nd.w_mem (List.mem_of_getElem? hzi)
  have hzw2:=zHI z';have hzl:=Nd.ws_len z'.kids;have hfe':=hfe z'.kids (by omega)
  obtain⟨rb,g1,g2⟩:=heq (zIW (.mk v1 v2 v3 v4) s z'.kids)
  have hsp':=hsp z'.kids (by omega)
  obtain⟨z1,z2,z3,z4⟩:=z';simp only[Nd.kids]at hfe' hsp' g1 g2;simp only[cond_false,hza,obs]
  by_cases hmz:(z4.length:Int)=m
  ·have:((z4.length:Int) != m)=false :=(by unfold bne; rw[beq_iff_eq.2 hmz]; rfl);rw[this]
   simp only[cond_false,hfe',obs]
   have hfx:zIW (.mk v1 v2 v3 v4) s z4 = .mk v1 v2 v3 (v4.set s (rowN z4)):=rfl;rw[hfx]at g1 g2 ⊢;simp only[obs,g1]
   cases rb with
   | false =>
    refine⟨[],7,rfl,.unwrap_no hit fun z'' hz'' hm'' he=>?_⟩
    simp only[Nd.kids]at hz'';rw[hzi]at hz'';cases hz'';have:=g2.2 he;cases this
   | true =>
    simp only[Bool.not_true,cond_false,hsp',obs]
    exact⟨_,0,rfl,.unwrap (z:=.mk z1 z2 z3 z4) hit hzi hmz (g2.1 rfl)⟩
  ·have:((z4.length:Int) != m)=true:=bne_iff_ne.2 hmz;rw[this]
   refine⟨[],7,rfl,.unwrap_no hit fun z'' hz'' hm'' he=>?_⟩
   simp only[Nd.kids]at hz'';rw[hzi]at hz'';cases hz'';exact hmz hm''
 ·obtain rfl:y=1 :=(by have:zEt 5 m nodes=1:=rfl; omega);have hpl:p<l.length :=(by omega);have hit:l[p]? = some l[p]:=List.getElem?_eq_getElem hpl;have hia:at? l (p:Int)=some l[p]:=zAv hpl;generalize l[p]=it at hit hia;obtain⟨i1,i2,i3,i4⟩:=it;simp only[show((5:Int) == 1)=false from rfl,show((5:Int) == 2)=false from rfl,show((5:Int) == 3)=false from rfl,show((5:Int) == 4)=false from rfl,cond_false,hia,obs,zUw]
  cases hlf:zVd i1 with
  | false=>exact⟨[],7,rfl,.set_no hit fun h=>by have:=h.1; simp only[Nd.kind]at this; rw[hlf]at this; cases this⟩
  | true =>
   simp only[cond_true]
   cases ht:i2 == old with
   | false=>exact⟨[],7,rfl,.set_no hit fun h=>beq_eq_false_iff_ne.1 ht h.2⟩
   | true =>
    simp only[cond_true,hsp [Nd.mk i1 text i3 i4] (by simp),obs]
    exact⟨_,0,rfl,.set (it:=.mk i1 i2 i3 i4) hit hlf (eq_of_beq ht)⟩
theorem zVu {t z:Nd}{p:List Int} (h:Fd t p z) (l:List Nd):∀ n,p.length<n->t.cnt<=4294967296->zIh n t p l=some (putL t p (rowN l)):=by
 induction h with
 | nil t =>
  intro n hn _;obtain⟨n,rfl⟩:∃ m,n=m+1:=⟨n - 1,by omega⟩
  rw[zJM]
  obtain⟨t1,t2,t3,t4⟩:=t;unfold zIh
  rfl
 | @step k tx c ks i k2 tx2 c2 ks2 s z r' p hi hs _ ih =>
  intro n hn hc;obtain⟨n,rfl⟩:∃ m,n=m+1:=⟨n - 1,by omega⟩
  have n1:=Nd.cnts_mem (List.mem_of_getElem? hi)
  have n2:=Nd.cnts_mem (List.mem_of_getElem? hs)
  have l1:=Nd.cnts_len ks;have l2:=Nd.cnts_len ks2;simp only[Nd.cnt]at hc n1;have ih:=ih n (by simp only[List.length_cons]at hn; omega) (by omega)
  rw[zFI hi hs]
  have e1:((((i:Int)::(s:Int)::p).length:Int) == 0)=false:=zDP (by simp only[List.length_cons]; omega)
  have e2:at? ((i:Int)::(s:Int)::p) (0:Int)=some (i:Int):=rfl;have e3:at? ((i:Int)::(s:Int)::p) (1:Int)=some (s:Int):=rfl;have e4:(((((i:Int)::(s:Int)::p)).take ((((i:Int)::(s:Int)::p)).length:Int).toNat).drop (2:Int).toNat)=p:=by
   rw[Int.toNat_natCast,List.take_length]; rfl
  obtain⟨z1,z2,z3,z4⟩:=z;unfold zIh;simp only[e1,e2,e3,cond_false,obs,zOf hi,zOf hs,e4]
  rw[zAK ⟨by omega,by simp only[List.length_cons]; omega,by omega⟩,ih]
  generalize putL (Nd.mk z1 z2 z3 z4) p (rowN l)=Z;obtain⟨q1,q2,q3,q4⟩:=Z;simp only[obs]
  rw[zJN hs (by omega)]
  simp only[obs]
  rw[zJN hi (by omega)]
  rfl
theorem zNm (n:Nat) (t:Nd) (o:Op8) (hn:200000000<n) (ht:t.w<=50000000) (hb:Nd.ws o.nodes<=2000000) (hx:o.2.2.2.2.2.2.2.length<=2000000) (hr:o.2.1.length<=2000000):∃ t' e,zIz n t o=some (t',e)/\App t o t' e:=by
 obtain⟨k,row,a,m,nodes,slot,old,text⟩:=o;simp only[Op8.nodes]at hb;dsimp only at hx hr;have v1:=zEi n t (by omega) (by omega)
 obtain⟨b,f1,f2⟩:=zRC n k row a m nodes slot old text (by omega) (by omega)
 have e1:=zVs n t row (by omega) v1;have hput:∀ r l,Fd t row r->zIh n t row l=some (putL t row (rowN l)):=fun r l h=>zVu h l n (by omega) (by have:=Nd.cnt_w t; omega)
 have hval:∀ r l,Fd t row r->Nd.ws l<=5000000+r.w->zBQ n (putL t row (rowN l))=some (zAz (putL t row (rowN l))):=fun r l h hl=>by
  have:=h.w (rowN l)
  have e:(rowN l).w=Nd.ws l+1 :=(by simp[rowN,Nd.w]);exact zEi n _ (by omega) (by omega)
 obtain⟨t1,t2,t3,t4⟩:=t;unfold zIz;simp only[v1,f1,e1,obs]
 cases hv:zAz (.mk t1 t2 t3 t4) with
 | false=>exact⟨_,1,rfl,.arg hv⟩
 | true =>
  simp only[Bool.not_true,cond_false]
  cases b with
  | false=>exact⟨_,4,rfl,.form hv fun h=>by have:=f2.2 h; cases this⟩
  | true =>
   have hf:=f2.1 rfl;simp only[Bool.not_true,cond_false,rowS,if_pos hv]
   cases hfd:zB1 (.mk t1 t2 t3 t4) row with
   | none=>exact⟨_,8,rfl,.none hv hf hfd⟩
   | some r =>
    have hr':=zYy hfd;have hsm:=hr'.small;have hwr:=zHI r;obtain⟨l',e,c1,c2⟩:=zRD n r.kids k row a m nodes slot old text hf (by omega) (by omega) (by omega)
    obtain⟨r1,r2,r3,r4⟩:=r;simp only[Nd.kids]at c1 c2 hwr;simp only[obs,show((0:Int) != 0)=false from rfl,cond_false,c1]
    by_cases he:e=0
    ·subst he;have hcw:=c2.w;have hv2:=hval _ l' hr' (by omega)
     simp only[show((0:Int) != 0)=false from rfl,cond_false,hput _ l' hr',obs]
     cases hvo:zAz (putL (.mk t1 t2 t3 t4) row (rowN l')) with
     | false =>
      have hL:=App.limit (t:=.mk t1 t2 t3 t4) (o:=(k,row,a,m,nodes,slot,old,text)) hv hf hr' c2 hvo;generalize putL (Nd.mk t1 t2 t3 t4) row (rowN l')=Z at *;obtain⟨q1,q2,q3,q4⟩:=Z;simp only[obs,hv2,hvo,Bool.not_false,cond_true]
      exact⟨_,6,rfl,hL⟩
     | true =>
      have hO:=App.ok (t:=.mk t1 t2 t3 t4) (o:=(k,row,a,m,nodes,slot,old,text)) hv hf hr' c2 hvo;dsimp only at hO;generalize putL (Nd.mk t1 t2 t3 t4) row (rowN l')=Z at *;obtain⟨q1,q2,q3,q4⟩:=Z;simp only[obs,hv2,hvo,Bool.not_true,cond_false]
      exact⟨_,0,rfl,hO⟩
    ·have:(e != 0)=true:=bne_iff_ne.2 he;simp only[this,cond_true]
     exact⟨_,e,rfl,.chg (t:=.mk t1 t2 t3 t4) (o:=(k,row,a,m,nodes,slot,old,text)) hv hf hr' c2 he⟩
theorem Chg.det {l l1 l2:List Nd}{o:Op8}{e1 e2:Int} (hf:FormP o) (h1:Chg l o l1 e1) (h2:Chg l o l2 e2):l1=l2/\e1=e2:=by
 obtain⟨k,row,a,m,nodes,slot,old,text⟩:=o;have hnn:=zTI hf;cases h1 with
 | range h =>
  cases h2 with
  | range=>exact⟨rfl,rfl⟩
  | ins h'=>simp only[zEt,if_true]at h; omega
  | del h'=>simp only[zEt]at h; simp at h; omega
  | del_no h'=>simp only[zEt]at h; simp at h; omega
  | wrap h'=>simp only[zEt]at h; simp at h; omega
  | unwrap h'=>have:=(List.getElem?_eq_some_iff.1 h').1; simp only[zEt]at h; simp at h; omega
  | unwrap_no h'=>exact⟨rfl,by have:=(List.getElem?_eq_some_iff.1 h').1; simp only[zEt]at h; simp at h; omega⟩
  | set h'=>have:=(List.getElem?_eq_some_iff.1 h').1; simp only[zEt]at h; simp at h; omega
  | set_no h'=>exact⟨rfl,by have:=(List.getElem?_eq_some_iff.1 h').1; simp only[zEt]at h; simp at h; omega⟩
 | ins h' =>
  generalize ha:((_:Nat):Int)=a' at h2;cases h2 with
  | range h=>simp only[zEt,if_true]at h; omega
  | ins h=>obtain rfl:=Int.ofNat.inj ha; exact⟨rfl,rfl⟩
 | del h' he =>
  generalize ha:((_:Nat):Int)=a' at h2;cases h2 with
  | range h=>simp only[zEt]at h; simp at h; omega
  | del h=>obtain rfl:=Int.ofNat.inj ha; exact⟨rfl,rfl⟩
  | del_no h he'=>obtain rfl:=Int.ofNat.inj ha; exact absurd he he'
 | del_no h' he =>
  generalize ha:((_:Nat):Int)=a' at h2;cases h2 with
  | range h=>simp only[zEt]at h; simp at h; omega
  | del h he'=>obtain rfl:=Int.ofNat.inj ha; exact absurd he' he
  | del_no h he'=>exact⟨rfl,rfl⟩
 | wrap h' =>
  generalize ha:((_:Nat):Int)=a' at h2;generalize hm:((_:Nat):Int)=m' at h2;generalize hs:((_:Nat):Int)=s' at h2;cases h2 with
  | range h=>simp only[zEt]at h; simp at h; omega
  | wrap h=>obtain rfl:=Int.ofNat.inj ha; obtain rfl:=Int.ofNat.inj hm; obtain rfl:=Int.ofNat.inj hs; exact⟨rfl,rfl⟩
 | unwrap h' hz hm he =>
  generalize ha:((_:Nat):Int)=a' at h2;generalize hs:((_:Nat):Int)=s' at h2;cases h2 with
  | range h=>have:=(List.getElem?_eq_some_iff.1 h').1; simp only[zEt]at h; simp at h; omega
  | unwrap h hz2 =>
   obtain rfl:=Int.ofNat.inj ha; obtain rfl:=Int.ofNat.inj hs
   rw[h']at h; cases h
   rw[hz]at hz2; cases hz2
   exact⟨rfl,rfl⟩
  | unwrap_no h hz2 =>
   obtain rfl:=Int.ofNat.inj ha; obtain rfl:=Int.ofNat.inj hs
   rw[h']at h; cases h
   exact absurd he (hz2 _ hz hm)
 | unwrap_no h' hz =>
  generalize ha:((_:Nat):Int)=a' at h2;generalize hs:((_:Nat):Int)=s' at h2;cases h2 with
  | range h=>exact⟨rfl,by have:=(List.getElem?_eq_some_iff.1 h').1; simp only[zEt]at h; simp at h; omega⟩
  | unwrap h hz2 hm he =>
   obtain rfl:=Int.ofNat.inj ha; obtain rfl:=Int.ofNat.inj hs
   rw[h']at h; cases h
   exact absurd he (hz _ hz2 hm)
  | unwrap_no h hz2=>exact⟨rfl,rfl⟩
 | set h' hl he =>
  generalize ha:((_:Nat):Int)=a' at h2;cases h2 with
  | range h=>have:=(List.getElem?_eq_some_iff.1 h').1; simp only[zEt]at h; simp at h; omega
  | set h=>obtain rfl:=Int.ofNat.inj ha; rw[h']at h; cases h; exact⟨rfl,rfl⟩
  | set_no h hl2=>obtain rfl:=Int.ofNat.inj ha; rw[h']at h; cases h; exact absurd ⟨hl,he⟩ hl2
 | set_no h' hl =>
  generalize ha:((_:Nat):Int)=a' at h2;cases h2 with
  | range h=>exact⟨rfl,by have:=(List.getElem?_eq_some_iff.1 h').1; simp only[zEt]at h; simp at h; omega⟩
  | set h hl2 he=>obtain rfl:=Int.ofNat.inj ha; rw[h']at h; cases h; exact absurd ⟨hl2,he⟩ hl
  | set_no h hl2=>exact⟨rfl,rfl⟩
theorem Fd.det {t r1 r2:Nd}{p:List Int} (h1:Fd t p r1) (h2:Fd t p r2):r1=r2:=Option.some.inj (h1.find.symm.trans h2.find)
theorem App.det {t t1 t2:Nd}{o:Op8}{e1 e2:Int} (h1:App t o t1 e1) (h2:App t o t2 e2):t1=t2/\e1=e2:=by
 have tf:∀ {b:Bool},b=true->b=false->False:=fun h h'=>by rw[h]at h'; cases h'
 have fn:∀ {r:Nd} {p:List Int},Fd t p r->zB1 t p=Option.none->False:=fun h h'=>by rw[h.find]at h'; cases h'
 cases h1 with
 | arg h=>cases h2 with
  | arg h'=>exact⟨rfl,rfl⟩
  | form h'=>exact(tf h' h).elim
  | none h'=>exact(tf h' h).elim
  | chg h'=>exact(tf h' h).elim
  | limit h'=>exact(tf h' h).elim
  | ok h'=>exact(tf h' h).elim
 | form h hf=>cases h2 with
  | arg h'=>exact(tf h h').elim
  | form h'=>exact⟨rfl,rfl⟩
  | none h' hf'=>exact absurd hf' hf
  | chg h' hf'=>exact absurd hf' hf
  | limit h' hf'=>exact absurd hf' hf
  | ok h' hf'=>exact absurd hf' hf
 | none h hf hn=>cases h2 with
  | arg h'=>exact(tf h h').elim
  | form h' hf'=>exact absurd hf hf'
  | none=>exact⟨rfl,rfl⟩
  | chg h' hf' hr=>exact(fn hr hn).elim
  | limit h' hf' hr=>exact(fn hr hn).elim
  | ok h' hf' hr=>exact(fn hr hn).elim
 | chg h hf hr hc he=>cases h2 with
  | arg h'=>exact(tf h h').elim
  | form h' hf'=>exact absurd hf hf'
  | none h' hf' hn=>exact(fn hr hn).elim
  | chg h' hf' hr' hc' he'=>obtain rfl:=hr.det hr'; exact⟨rfl,(hc.det hf hc').2⟩
  | limit h' hf' hr' hc'=>obtain rfl:=hr.det hr'; exact absurd (hc.det hf hc').2 he
  | ok h' hf' hr' hc'=>obtain rfl:=hr.det hr'; exact absurd (hc.det hf hc').2 he
 | limit h hf hr hc hv=>cases h2 with
  | arg h'=>exact(tf h h').elim
  | form h' hf'=>exact absurd hf hf'
  | none h' hf' hn=>exact(fn hr hn).elim
  | chg h' hf' hr' hc' he'=>obtain rfl:=hr.det hr'; exact absurd (hc'.det hf hc).2 he'
  | limit h' hf' hr' hc'=>exact⟨rfl,rfl⟩
  | ok h' hf' hr' hc' hv'=>obtain rfl:=hr.det hr'; obtain rfl:=(hc.det hf hc').1; exact(tf hv' hv).elim
 | ok h hf hr hc hv=>cases h2 with
  | arg h'=>exact(tf h h').elim
  | form h' hf'=>exact absurd hf hf'
  | none h' hf' hn=>exact(fn hr hn).elim
  | chg h' hf' hr' hc' he'=>obtain rfl:=hr.det hr'; exact absurd (hc'.det hf hc).2 he'
  | limit h' hf' hr' hc' hv'=>obtain rfl:=hr.det hr'; obtain rfl:=(hc.det hf hc').1; exact(tf hv hv').elim
  | ok h' hf' hr' hc' hv'=>obtain rfl:=hr.det hr'; obtain rfl:=(hc.det hf hc').1; exact⟨rfl,rfl⟩
def lens:List (List Nd)->Nat
 | []=>0
 | a::L=>a.length+lens L
theorem zSB {L:List (List Nd)}{i:Nat} (h:i<L.length):lens (L.drop i)=(L[i]).length+lens (L.drop (i+1)):=by
 rw[List.drop_eq_getElem_cons h]; rfl
theorem zVZ {L:List (List Nd)} (hl:L.length<=1073741824):∀ (k i s:Nat),L.length - i<k->i<=L.length->s+lens (L.drop i)<=1073741824->zA2 L k (i:Int) (s:Int)=some ((s+lens (L.drop i):Nat):Int)
 | 0,i,s,h,_,_=>by omega
 | k+1,i,s,hk,hi,hs=>by
  unfold zA2
  by_cases h:i<L.length
  ·have hd:=zSB h;rw[zAB (Int.ofNat_lt.2 h),cond_true,zAv h]
   simp only[obs]
   rw[wrap64_in (n:=(s:Int)+((L[i]).length:Int)) (by omega) (by omega),zAx (by omega),cond_false,zAy (by omega),← Int.natCast_add,zVZ hl k (i+1) _ (by omega) (by omega) (by omega),hd]
   congr 2; omega
  ·rw[zAx (by omega),cond_false]
   have:L.drop i=[]:=List.drop_eq_nil_iff.2 (by omega)
   rw[this]; rfl
theorem zV0 {L:List (List Nd)} (hl:L.length<=1073741824):∀ (k i:Nat) (s:List Nd),L.length - i<k->i<=L.length->s.length+lens (L.drop i)<=1073741824->zA3 L k (i:Int) s=some (s++(L.drop i).flatten)
 | 0,i,s,h,_,_=>by omega
 | k+1,i,s,hk,hi,hs=>by
  unfold zA3
  by_cases h:i<L.length
  ·have hd:=zSB h;rw[zAB (Int.ofNat_lt.2 h),cond_true,zAv h]
   simp only[obs]
   rw[zAK (by omega),zAy (by omega),zV0 hl k (i+1) _ (by omega) (by omega) (by rw[List.length_append]; omega),List.drop_eq_getElem_cons h,List.flatten_cons,List.append_assoc]
  ·rw[zAx (by omega),cond_false]
   have:L.drop i=[]:=List.drop_eq_nil_iff.2 (by omega)
   rw[this]; simp
theorem zV1 (n:Nat) (L:List (List Nd)) (hn:L.length<n) (hl:L.length<=1073741824) (hs:lens L<=1073741824):zCf n L=some L.flatten:=by
 have e1:=zVZ hl n 0 0 (by omega) (by omega) (by simpa using hs)
 have e2:=zV0 hl n 0 [] (by omega) (by omega) (by simpa using hs)
 rw[show((0:Nat):Int)=0 from rfl]at e1 e2;unfold zCf zER;simp only[e1,obs,List.drop_zero,Nat.zero_add]
 simp only[List.drop_zero,List.nil_append]at e2;rw[zAK ⟨by omega,by omega⟩]
 simp only[obs,e2]
theorem zYB (n:Nat) (k:Int) (row:List Int) (p y:Nat) (m:Int) (nodes:List Nd) (slot:Int) (old text:List UInt8) (l b:List Nd) (hn:10<n) (hp:p+y<=l.length) (hl:l.length<=500000000) (hb:b.length<=500000000) :
  zA7 n ((k,row,(p:Int),m,nodes,slot,old,text),l) (y:Int) b=some (splS l p (p+y) b):=by
 unfold zA7;dsimp only;rw[zAK ⟨by omega,by omega,by omega⟩,wrap64_in (n:=(p:Int)+(y:Int)) (by omega) (by omega),← Int.natCast_add,zAK ⟨by omega,by omega,by omega⟩]
 have e1:(l.take (p:Int).toNat).drop (0:Int).toNat=l.take p :=(by simp);have e2:(l.take (l.length:Int).toNat).drop ((p+y:Nat):Int).toNat=l.drop (p+y) :=(by rw[Int.toNat_natCast,Int.toNat_natCast,List.take_length]);rw[e1,e2,zV1 n _ (by simp; omega) (by simp) (by simp only[lens,List.length_take,List.length_drop]; omega)]
 simp only[obs,splS,List.flatten_cons,List.flatten_nil,List.append_nil,List.append_assoc]
theorem zRI {l:List Nd}{it z:Nd}{s:Nat} (hl:zEZ 1 l=true) (hit:it∈l) (hz:it.kids[s]? = some z):it.kind ≠ 1/\z=rowN z.kids:=by
 obtain⟨f1,f2⟩:=zIa hl hit;have hk:(it.kind == 1)=false :=(by simpa using f2);obtain⟨i1,i2,i3,i4⟩:=it;simp only[Nd.kind]at hk;simp only[Nd.kids]at hz;obtain⟨g1,g2⟩:=zIa (zOp f1) (List.mem_of_getElem? hz)
 rw[hk]at g2;have hz1:z.kind=1:=by
  cases e:z.kind == 1 with
  | true=>exact eq_of_beq e
  | false=>rw[e]at g2; cases g2
 exact⟨beq_eq_false_iff_ne.1 hk,(zUt g1 hz1).1⟩
theorem zSw {l:List Nd}{it:Nd} (hl:zEZ 1 l=true) (hit:it∈l):it.kind ≠ 1:=by
 obtain⟨_,f2⟩:=zIa hl hit;exact beq_eq_false_iff_ne.1 (by simpa using f2)
theorem zLs {l:List Nd} (h:zAz (rowN l)=true):zEZ 1 l=true:=by
 have:=(zMn h).2;exact this
theorem zUf (v:Nd) (h:v.kind ≠ 1):zEd v=some (v.kids.length:Int):=by
 obtain⟨a,b,c,d⟩:=v;unfold zEd;simp only[Nd.kind]at h;simp only[zDP h,cond_false,Nd.kids]
theorem zHE (n:Nat) (nodes:List Nd) (h:Nd.ws nodes+50<n) (hb:Nd.ws nodes<=67000000):zCF n nodes=some (zAz (rowN nodes)):=by
 unfold zCF;dsimp only;rw[zDa n _ (by simp only[Nd.w,List.length_nil]; omega) (by simp only[Nd.w,List.length_nil]; omega)]; rfl
theorem zSe (n:Nat) (l:List Nd) (slot:Int) (h:Nd.ws l+50<n) (hb:Nd.ws l<=67000000):∃ b,zDN n l slot=some b/\(b=true↔zUg l slot):=by
 unfold zDN;dsimp only;cases e1:((l.length:Int) != 1) with
 | true=>exact⟨false,rfl,(fun h=>by cases h),fun⟨v,s,z,h,_⟩=>by rw[h]at e1; cases e1⟩
 | false =>
  have hl:l.length=1:=by
   by_cases h:(l.length:Int)=1
   ·omega
   ·rw[bne_iff_ne.2 h]at e1; cases e1
  obtain⟨v,rfl⟩:=List.length_eq_one_iff.1 hl;have hv:=zHE n [v] h hb;have h0:at? [v] (0:Int)=some v:=rfl;simp only[cond_false,hv,obs]
  cases hvb:zAz (rowN [v]) with
  | false=>exact⟨false,rfl,(fun h=>by cases h),fun⟨v',s,z,h,_,h2,_⟩=>by cases h; rw[hvb]at h2; cases h2⟩
  | true =>
   have hsl:=zUf v (zSw (zLs hvb) List.mem_cons_self)
   obtain⟨a,b,c,d⟩:=v;simp only[Nd.kids]at hsl;simp only[Bool.not_true,cond_false]
   by_cases h1:slot<0
   ·rw[zAB h1]
    exact⟨false,rfl,(fun h=>by cases h),fun⟨v,s,z,h,hs,_⟩=>by omega⟩
   ·rw[zAx h1]
    simp only[cond_false,h0,obs,hsl]
    by_cases h2:(d.length:Int)<=slot
    ·rw[zAB h2]
     refine⟨false,rfl,(fun h=>by cases h),fun⟨v,s,z,h,hs,_,hz,_⟩=>?_⟩
     cases h;have:=(List.getElem?_eq_some_iff.1 hz).1;simp only[Nd.kids]at this
     omega
    ·rw[zAx h2]
     obtain⟨p,rfl,hp,hg⟩:=zXX (l:=d) (i:=slot) (by omega) (by omega)
     have hz:d[p]? = some d[p]:=List.getElem?_eq_getElem hp;rw[hg]
     generalize d[p]=z at hz;obtain⟨x1,x2,x3,x4⟩:=z;simp only[cond_false,obs]
     refine⟨_,rfl,fun h=>⟨_,p,_,rfl,rfl,hvb,hz,?_⟩,fun⟨v,s,z,h,hs,_,hz',hk⟩=>?_⟩
     ·have:=eq_of_beq h;exact List.eq_nil_of_length_eq_zero (by simp only[Nd.kids]; omega)
     ·cases h;obtain rfl:p=s :=(by omega);simp only[Nd.kids]at hz';rw[hz]at hz';cases hz';simp only[Nd.kids]at hk;subst hk
      rfl
theorem zPA (n:Nat) (k:Int) (row:List Int) (a m:Int) (nodes:List Nd) (slot:Int) (old text:List UInt8) (h:Nd.ws nodes+50<n) (hb:Nd.ws nodes<=67000000) :
  ∃ b,zFc n (k,row,a,m,nodes,slot,old,text)=some b/\(b=true↔FormP (k,row,a,m,nodes,slot,old,text)):=by
 have hv:=zHE n nodes h hb;obtain⟨tb,t1,t2⟩:=zSe n nodes slot h hb;have hlen:decide (0<(nodes.length:Int))=true↔nodes ≠ [] :=(by cases nodes <;> simp);have hlen0:((nodes.length:Int) == 0)=true↔nodes=[] :=(by cases nodes <;> simp <;> omega);have htx:(bif (!(old == [])) then some true else some (!(text == [])):Option Bool)=some (!((old == [])&&(text == []))) :=(by cases old == [] <;> cases text == [] <;> rfl);unfold zFc;simp only[hv,t1,htx,obs,FormP]
 by_cases k12:k=1∨k=2
 ·have e:(bif (k == 1) then some (k == 1) else some (k == 2):Option Bool)=some true:=by rcases k12 with rfl | rfl <;> rfl
  have hk:¬ (k=3∨k=4)/\¬ k=5 :=(by omega);rw[e]
  simp only[obs,cond_true,k12,hk.1,hk.2,true_and,false_and,or_false]
  rw[← hlen]
  generalize decide (0<(nodes.length:Int))=b1;generalize zAz (rowN nodes)=b2;cases e1:m == 0 <;> simp only[cond_true,cond_false,obs]
  ·exact⟨false,rfl,by simp[beq_eq_false_iff_ne.1 e1]⟩
  cases e2:slot == 0 <;> simp only[cond_true,cond_false,obs]
  ·exact⟨false,rfl,by simp[beq_eq_false_iff_ne.1 e2]⟩
  cases e3:old == [] <;> simp only[Bool.false_and,Bool.true_and,Bool.not_false,Bool.not_not,cond_true,cond_false,obs]
  ·exact⟨false,rfl,by simp[beq_eq_false_iff_ne.1 e3]⟩
  cases e4:text == [] <;> simp only[Bool.not_true,Bool.not_false,cond_true,cond_false,obs]
  ·exact⟨false,rfl,by simp[beq_eq_false_iff_ne.1 e4]⟩
  rw[eq_of_beq e1,eq_of_beq e2,eq_of_beq e3,eq_of_beq e4]
  cases b1 <;> cases b2 <;> exact⟨_,rfl,by simp⟩
 ·have e:(bif (k == 1) then some (k == 1) else some (k == 2):Option Bool)=some false:=by
   rw[zDP (fun h=>k12 (.inl h)),zDP (fun h=>k12 (.inr h))]; rfl
  rw[e]
  simp only[obs,cond_false,k12,false_and,false_or]
  by_cases k34:k=3∨k=4
  ·have e:(bif (k == 3) then some (k == 3) else some (k == 4):Option Bool)=some true:=by rcases k34 with rfl | rfl <;> rfl
   have hk:¬ k=5 :=(by omega);rw[e]
   simp only[obs,cond_true,k34,hk,true_and,false_and,or_false]
   rw[← t2]
   by_cases hm:0<=m
   ·rw[zAB hm]
    simp only[cond_true]
    cases e3:old == [] <;> simp only[Bool.false_and,Bool.true_and,Bool.not_false,Bool.not_not,cond_true,cond_false,obs]
    ·exact⟨false,rfl,by simp[beq_eq_false_iff_ne.1 e3]⟩
    cases e4:text == [] <;> simp only[Bool.not_true,Bool.not_false,cond_true,cond_false,obs]
    ·exact⟨false,rfl,by simp[beq_eq_false_iff_ne.1 e4]⟩
    rw[eq_of_beq e3,eq_of_beq e4]
    exact⟨_,rfl,by simp[hm]⟩
   ·rw[zAx hm]
    exact⟨false,rfl,by simp[hm]⟩
  ·have e:(bif (k == 3) then some (k == 3) else some (k == 4):Option Bool)=some false:=by
    rw[zDP (fun h=>k34 (.inl h)),zDP (fun h=>k34 (.inr h))]; rfl
   rw[e]
   simp only[obs,cond_false,k34,false_and,false_or]
   by_cases k5:k=5
   ·subst k5;simp only[beq_self_eq_true,cond_true,obs,true_and]
    rw[← hlen0]
    generalize ((nodes.length:Int) == 0)=b1;cases e1:m == 0 <;> simp only[cond_true,cond_false,obs]
    ·exact⟨false,rfl,by simp[beq_eq_false_iff_ne.1 e1]⟩
    cases e2:slot == 0 <;> simp only[cond_true,cond_false,obs]
    ·exact⟨false,rfl,by simp[beq_eq_false_iff_ne.1 e2]⟩
    rw[eq_of_beq e1,eq_of_beq e2]
    cases b1 <;> simp only[cond_true,cond_false,obs]
    ·exact⟨false,rfl,by simp⟩
    cases e0:old == text <;> simp only[Bool.not_true,Bool.not_false]
    ·exact⟨true,rfl,by simp[beq_eq_false_iff_ne.1 e0]⟩
    ·exact⟨false,rfl,by simp[eq_of_beq e0]⟩
   ·rw[zDP k5]
    exact⟨false,rfl,by simp[k5]⟩
theorem zV9 (k:Int) (row:List Int) (a m:Int) (nodes:List Nd) (slot:Int) (old text:List UInt8) (l:List Nd) (hl:l.length<=1073741824) :
  zCw ((k,row,a,m,nodes,slot,old,text),l)=some (if a<0∨(l.length:Int)<a∨(l.length:Int) - a<zEt k m nodes then 2 else 0):=by
 unfold zCw;dsimp only;rw[zUG]
 simp only[obs]
 by_cases h1:a<0
 ·rw[zAB h1,if_pos (.inl h1)]; rfl
 rw[zAx h1]
 by_cases h2:(l.length:Int)<a
 ·rw[zAB h2,if_pos (.inr (.inl h2))]; rfl
 rw[zAx h2,wrap64_in (n:=(l.length:Int) - a) (by omega) (by omega)]
 by_cases h3:(l.length:Int) - a<zEt k m nodes
 ·rw[zAB h3,if_pos (.inr (.inr h3))]; rfl
 rw[zAx h3,if_neg (fun h=>h.elim h1 fun h=>h.elim h2 h3)]; rfl
theorem zXh {v it z:Nd}{s:Nat}{y:Nd} (hv:v.kids[s]? = some y) (hy:y=rowN []) (hz:it.kids[s]? = some z) (hzr:z=rowN z.kids):Nd.mk it.kind it.text it.cols (it.kids.set s (rowN []))=v↔it=zIW v s z.kids:=by
 obtain⟨v1,v2,v3,v4⟩:=v;obtain⟨i1,i2,i3,i4⟩:=it;obtain⟨z1,z2,z3,z4⟩:=z;obtain⟨rfl,rfl,rfl,-⟩:=Nd.mk.inj hzr
 clear hzr
 simp only[Nd.kids]at hv hz;simp only[zIW,Nd.kind,Nd.text,Nd.cols,Nd.kids]
 subst hy
 constructor
 ·intro h;obtain⟨rfl,rfl,rfl,rfl⟩:=Nd.mk.inj h;rw[List.set_set]
  congr 1
  have:=zNR (y:=.mk 1 [] 0 z4) hz;rw[List.set_set]at this;exact this.symm
 ·intro h;obtain⟨rfl,rfl,rfl,rfl⟩:=Nd.mk.inj h;rw[List.set_set]
  congr 1
  have:=zNR (y:=rowN []) hv;rw[List.set_set]at this;exact this
theorem zOk (n:Nat) (l:List Nd) (k:Int) (row:List Int) (a m:Int) (nodes:List Nd) (slot:Int) (old text:List UInt8) (hf:FormP (k,row,a,m,nodes,slot,old,text)) (hv:zEZ 1 l=true) (hn:2 * Nd.ws l+2 * Nd.ws nodes+50<n) (ha:Nd.ws l<=60000000) (hb:Nd.ws nodes<=2000000) :
  ∃ l' e,zCK n ((k,row,a,m,nodes,slot,old,text),l)=some (l',e)/\Chg l (k,row,a,m,nodes,slot,old,text) l' e:=by
 have la:=Nd.ws_len l;have lb:=Nd.ws_len nodes;have cl:=Nd.cnts_ws l;have cb:=Nd.cnts_ws nodes;have hnn:=zTI hf;unfold zCK;simp only[zV9 _ _ _ _ _ _ _ _ l (show l.length<=1073741824 by omega),obs]
 by_cases hr:a<0∨(l.length:Int)<a∨(l.length:Int) - a<zEt k m nodes
 ·rw[if_pos hr]; exact⟨[],2,rfl,.range hr⟩
 rw[if_neg hr]
 simp only[show((0:Int) != 0)=false from rfl,cond_false]
 have h1:¬ a<0:=fun h=>hr (.inl h)
 have h2:¬ (l.length:Int)<a:=fun h=>hr (.inr (.inl h))
 have h3:¬ (l.length:Int) - a<zEt k m nodes:=fun h=>hr (.inr (.inr h))
 obtain⟨p,rfl⟩:=Int.eq_ofNat_of_zero_le (show 0<=a by omega)
 obtain⟨y,hy⟩:=Int.eq_ofNat_of_zero_le hnn;rw[hy]at h3;have hseg:=zX6 l (Nat.le_add_right p y)
 have lseg:=Nd.ws_len ((l.take (p+y)).drop p)
 have cseg:=Nd.cnts_ws ((l.take (p+y)).drop p)
 have hj:∀ by':List Nd,by'.length<=500000000->zA7 n ((k,row,(p:Int),m,nodes,slot,old,text),l) (y:Int) by'=some (splS l p (p+y) by'):=fun by' hby=>zYB n k row p y m nodes slot old text l by' (by omega) (by omega) (by omega) hby
 rcases hf with ⟨rfl | rfl,h0⟩ | ⟨rfl | rfl,hm,⟨v,s,z,rfl,rfl,hvv,hz,hzk⟩,_⟩ | ⟨rfl,h0⟩
 ·obtain rfl:y=0 :=(by have:zEt 1 m nodes=0:=rfl; omega);rw[show((0:Nat):Int)=0 from rfl]at hj;simp only[beq_self_eq_true,cond_true,zDm,hj nodes (by omega),obs]
  exact⟨_,0,rfl,.ins (by omega)⟩
 ·obtain rfl:y=nodes.length :=(by have:zEt 2 m nodes=(nodes.length:Int):=rfl; omega);obtain⟨r,g1,g2⟩:=(zIC n).2 ((l.take (p+nodes.length)).drop p) nodes (by omega) (by omega)
  simp only[show((2:Int) == 1)=false from rfl,cond_false,beq_self_eq_true,cond_true,zDn]
  rw[wrap64_in (n:=(p:Int)+(nodes.length:Int)) (by omega) (by omega),← Int.natCast_add,zAK ⟨by omega,by omega,by omega⟩,Int.toNat_natCast,Int.toNat_natCast,g1]
  simp only[obs]
  cases r with
  | false=>exact⟨[],7,rfl,.del_no (by omega) fun e=>by have:=g2.2 e; cases this⟩
  | true =>
   simp only[Bool.not_true,cond_false,hj [] (by simp),obs]
   exact⟨_,0,rfl,.del (by omega) (g2.1 rfl)⟩
 ·obtain rfl:m=(y:Int):=hy;obtain⟨hvk,hzr⟩:=zRI (zLs hvv) List.mem_cons_self hz;rw[hzk]at hzr;have hv0:at? [v] (0:Int)=some v:=rfl;have hcv:=Nd.cnts_mem (List.mem_cons_self (a:=v) (l:=[]))
  have hd:zDr v=some v:=zAK ⟨by omega,fun e=>by rw[e]at hz; simp at hz⟩
  have hza:=zOf hz;have hcl:zEz ((l.take (p+y)).drop p)=some ((l.take (p+y)).drop p):=zAK (by omega)
  have hj':=hj [zIW v s ((l.take (p+y)).drop p)] (by simp)
  have hfx:zIW v s ((l.take (p+y)).drop p)=Nd.mk v.kind v.text v.cols (v.kids.set s (rowN ((l.take (p+y)).drop p))):=rfl;rw[hfx]at hj';have hC:=Chg.wrap (l:=l) (row:=row) (p:=p) (m:=y) (v:=v) (s:=s) (old:=old) (text:=text) (by omega)
  have hfx2:zIW v s (segS l p (p+y))=Nd.mk v.kind v.text v.cols (v.kids.set s (rowN ((l.take (p+y)).drop p))):=rfl;rw[hfx2]at hC;subst hzr;obtain⟨v1,v2,v3,v4⟩:=v;simp only[Nd.kind,Nd.text,Nd.cols,Nd.kids]at hza hj' hC;unfold rowN at hza;simp only[show((3:Int) == 1)=false from rfl,show((3:Int) == 2)=false from rfl,cond_false,beq_self_eq_true,cond_true,zD3,hv0,hd,obs]
  rw[wrap64_in (n:=(p:Int)+(y:Int)) (by omega) (by omega),← Int.natCast_add,zAK ⟨by omega,by omega,by omega⟩,Int.toNat_natCast,Int.toNat_natCast,hcl]
  simp only[obs,hza,Int.toNat_natCast]
  unfold rowN at hj' hC;rw[hj']
  exact⟨_,0,rfl,hC⟩
 ·obtain rfl:y=1 :=(by have:zEt 4 m [v]=1:=rfl; omega);obtain⟨hvk,hzr⟩:=zRI (zLs hvv) List.mem_cons_self hz;rw[hzk]at hzr;have hv0:at? [v] (0:Int)=some v:=rfl;have hpl:p<l.length :=(by omega);have hit:l[p]? = some l[p]:=List.getElem?_eq_getElem hpl;have hia:at? l (p:Int)=some l[p]:=zAv hpl;have hmem:=List.getElem_mem hpl;generalize l[p]=it at hit hia hmem;have hiw:=Nd.w_mem hmem;have hic:=Nd.cnt_w it;have hik:=zSw hv hmem;have hslots:=zUf it hik;have hdn:zB2 it=some it:=zK0 (by omega)
  have hwi:=zHI it;have hlk4:=Nd.ws_len it.kids;simp only[show((4:Int) == 1)=false from rfl,show((4:Int) == 2)=false from rfl,show((4:Int) == 3)=false from rfl,cond_false,beq_self_eq_true,cond_true]
  have hnone:zBC ((4,row,(p:Int),m,[v],(s:Int),old,text),l)=if (it.kids.length:Int)<=(s:Int) then some ([],7) else none:=by
   unfold zBC;simp only[hia]
   by_cases h:(it.kids.length:Int)<=(s:Int)
   ·rw[if_pos h]
    obtain⟨i1,i2,i3,i4⟩:=it;simp only[Nd.kids]at h hslots;simp only[obs,hdn,hslots,zAB h]; rfl
   ·rw[if_neg h]
    obtain⟨i1,i2,i3,i4⟩:=it;simp only[Nd.kids]at h hslots;simp only[obs,hdn,hslots,zAx h]; rfl
  by_cases hsl:(it.kids.length:Int)<=(s:Int)
  ·have:zBu n ((4,row,(p:Int),m,[v],(s:Int),old,text),l)=some ([],7):=by
    unfold zBu;rw[hnone,if_pos hsl]
   rw[this]
   refine⟨[],7,rfl,.unwrap_no hit fun z' hz'=>?_⟩
   have:=(List.getElem?_eq_some_iff.1 hz').1
   omega
  have hsi:s<it.kids.length :=(by omega);have hzi:it.kids[s]? = some it.kids[s]:=List.getElem?_eq_getElem hsi;generalize it.kids[s]=z' at hzi;obtain⟨_,hzr'⟩:=zRI hv hmem hzi;have hzw:=Nd.w_mem (List.mem_of_getElem? hzi)
  have hzw2:=zHI z';have hzl:=Nd.ws_len z'.kids;have hfi:=zXh hz hzr hzi hzr';have hws:=zPk (y:=rowN []) hzi;have hj':=hj z'.kids (by omega)
  rw[show((1:Nat):Int)=1 from rfl]at hj';have hcs:(Nd.mk it.kind it.text it.cols (it.kids.set s (rowN []))).cnt<=it.w+1:=by
   have h1:=Nd.cnt_w (Nd.mk it.kind it.text it.cols (it.kids.set s (rowN [])))
   have e:(rowN []).w=1:=rfl;simp only[Nd.w]at h1
   omega
  obtain⟨rb,g1,g2⟩:=(zIC n).1 (Nd.mk it.kind it.text it.cols (it.kids.set s (rowN []))) v (by omega) (by omega)
  have hdo:zDr it=some it:=zAK ⟨by omega,fun e=>by rw[e]at hzi; simp at hzi⟩
  have hza:=zOf hzi;have hkids:∃ l' e,zBB n ((4,row,(p:Int),m,[v],(s:Int),old,text),l)=some (l',e)/\Chg l (4,row,(p:Int),m,[v],(s:Int),old,text) l' e:=by
   unfold zBB;obtain⟨i1,i2,i3,i4⟩:=it;obtain⟨v1,v2,v3,v4⟩:=v;obtain⟨z1,z2,z3,z4⟩:=z';obtain⟨rfl,rfl,rfl,-⟩:=Nd.mk.inj hzr';simp only[Nd.kind,Nd.text,Nd.cols,Nd.kids]at hza g1 hslots hj' hsl;simp only[hia,obs,hdo,hslots,zAx hsl,cond_false,hza,hv0,Int.toNat_natCast]
   by_cases hmz:(z4.length:Int)=m
   ·have:((z4.length:Int) != m)=false :=(by unfold bne; rw[beq_iff_eq.2 hmz]; rfl);unfold rowN at g1;rw[this]
    simp only[cond_false,g1,obs]
    cases rb with
    | false =>
     refine⟨[],7,rfl,.unwrap_no hit fun z'' hz'' hm'' he=>?_⟩
     rw[hzi]at hz'';cases hz'';have:=g2.2 (hfi.2 he)
     cases this
    | true =>
     simp only[Bool.not_true,cond_false,hj',obs]
     exact⟨_,0,rfl,.unwrap (z:=.mk 1 [] 0 z4) hit hzi hmz (hfi.1 (g2.1 rfl))⟩
   ·have:((z4.length:Int) != m)=true:=bne_iff_ne.2 hmz;rw[this]
    refine⟨[],7,rfl,.unwrap_no hit fun z'' hz'' hm'' he=>?_⟩
    rw[hzi]at hz'';cases hz'';exact hmz hm''
  obtain⟨l',e,h4,h5⟩:=hkids;have:zBu n ((4,row,(p:Int),m,[v],(s:Int),old,text),l)=some (l',e):=by
   unfold zBu;rw[hnone,if_neg hsl]
   exact h4
  rw[this]
  exact⟨l',e,rfl,h5⟩
 ·obtain rfl:y=1 :=(by have:zEt 5 m nodes=1:=rfl; omega);have hpl:p<l.length :=(by omega);have hit:l[p]? = some l[p]:=List.getElem?_eq_getElem hpl;have hia:at? l (p:Int)=some l[p]:=zAv hpl;generalize l[p]=it at hit hia;obtain⟨i1,i2,i3,i4⟩:=it;rw[show((1:Nat):Int)=1 from rfl]at hj;simp only[show((5:Int) == 1)=false from rfl,show((5:Int) == 2)=false from rfl,show((5:Int) == 3)=false from rfl,show((5:Int) == 4)=false from rfl,cond_false,zEl,hia,obs,zUw]
  cases hlf:zVd i1 with
  | false=>exact⟨[],7,rfl,.set_no hit fun h=>by have:=h.1; simp only[Nd.kind]at this; rw[hlf]at this; cases this⟩
  | true =>
   simp only[cond_true,obs]
   cases ht:i2 == old with
   | false=>exact⟨[],7,rfl,.set_no hit fun h=>beq_eq_false_iff_ne.1 ht h.2⟩
   | true =>
    simp only[Bool.not_true,cond_false,hj [Nd.mk i1 text i3 i4] (by simp),obs]
    exact⟨_,0,rfl,.set (it:=.mk i1 i2 i3 i4) hit hlf (eq_of_beq ht)⟩
theorem zLX (n:Nat) (t:Nd) (o:Op8) (hn:200000000<n) (ht:t.w<=50000000) (hb:Nd.ws o.nodes<=2000000) (hx:o.2.2.2.2.2.2.2.length<=2000000):∃ t' e,zE0 n t o=some (t',e)/\App t o t' e:=by
 obtain⟨k,row,a,m,nodes,slot,old,text⟩:=o;simp only[Op8.nodes]at hb;dsimp only at hx;have v1:=zDa n t (by omega) (by omega)
 have ct:=Nd.cnt_w t;obtain⟨b,f1,f2⟩:=zPA n k row a m nodes slot old text (by omega) (by omega)
 have e1:=zTK n t row v1 (by omega)
 have hwith:∀ r l,Fd t row r->Nd.ws l<=5000000+r.w->zFD n t row (rowN l)=some (zUd t row (rowN l)):=fun r l h hl=>by
  have hs:=h.small;have hc:(rowN l).w=Nd.ws l+1 :=(by simp[rowN,Nd.w]);refine zSH n t row (rowN l) v1 (zDa n _ (by omega) (by omega)) (fun z hz=>?_) (by omega) (by have:=Nd.cnt_w (rowN l); omega)
  obtain rfl:=h.det hz;have:=h.w (rowN l)
  exact zDa n _ (by omega) (by omega)
 obtain⟨t1,t2,t3,t4⟩:=t;unfold zE0;simp only[v1,f1,e1,obs]
 cases hv:zAz (.mk t1 t2 t3 t4) with
 | false=>exact⟨_,1,rfl,.arg hv⟩
 | true =>
  simp only[Bool.not_true,cond_false]
  cases b with
  | false=>exact⟨_,4,rfl,.form hv fun h=>by have:=f2.2 h; cases this⟩
  | true =>
   have hf:=f2.1 rfl;simp only[Bool.not_true,cond_false,rowS,if_pos hv]
   cases hfd:zB1 (.mk t1 t2 t3 t4) row with
   | none=>exact⟨_,8,rfl,.none hv hf hfd⟩
   | some r =>
    have hr':=zYy hfd;have hsm:=hr'.small;have hwr:=zHI r;have hvr:=hr'.valid hv;have hrr:=(zMn hvr).1;have hfr:=(zMn hvr).2;obtain⟨l',e,c1,c2⟩:=zOk n r.kids k row a m nodes slot old text hf hfr (by omega) (by omega) (by omega)
    obtain⟨r1,r2,r3,r4⟩:=r;obtain⟨rfl,rfl,rfl,-⟩:=Nd.mk.inj hrr;simp only[Nd.kids]at c1 c2 hwr;simp only[obs,show((0:Int) != 0)=false from rfl,cond_false,c1]
    by_cases he:e=0
    ·subst he;have hcw:=c2.w;have hw:=hwith _ l' hr' (by omega)
     unfold rowN at hw;simp only[show((0:Int) != 0)=false from rfl,cond_false,hw,obs]
     cases hvo:zAz (putL (.mk t1 t2 t3 t4) row (rowN l')) with
     | false =>
      have hL:=App.limit (t:=.mk t1 t2 t3 t4) (o:=(k,row,a,m,nodes,slot,old,text)) hv hf hr' c2 hvo;have hws:∃ q,zUd (.mk t1 t2 t3 t4) row (.mk 1 [] 0 l')=(zD6,q)/\q ≠ 0:=by
       unfold zUd;rw[if_pos hv,hfd]
       dsimp only
       by_cases h:zAz (.mk 1 [] 0 l')=true
       ·rw[if_pos h]
        unfold rowN at hvo;rw[hvo,if_neg (by decide)]
        exact⟨6,rfl,by decide⟩
       ·rw[if_neg h]; exact⟨4,rfl,by decide⟩
      obtain⟨q,hq,hq0⟩:=hws;rw[hq]
      have:(q != 0)=true:=bne_iff_ne.2 hq0;simp only[zD6,this,cond_true]
      exact⟨_,6,rfl,hL⟩
     | true =>
      have hO:=App.ok (t:=.mk t1 t2 t3 t4) (o:=(k,row,a,m,nodes,slot,old,text)) hv hf hr' c2 hvo;have hvl:=(hr'.put (rowN l')).valid hvo;have hws:=zXV (r:=rowN l') hv hfd hvl hvo;unfold rowN at hws;rw[hws]
      dsimp only at hO;unfold rowN at hO;generalize putL (Nd.mk t1 t2 t3 t4) row (Nd.mk 1 [] 0 l')=Z at *;obtain⟨q1,q2,q3,q4⟩:=Z;exact⟨_,0,rfl,hO⟩
    ·have:(e != 0)=true:=bne_iff_ne.2 he;simp only[this,cond_true]
     exact⟨_,e,rfl,.chg (t:=.mk t1 t2 t3 t4) (o:=(k,row,a,m,nodes,slot,old,text)) hv hf hr' c2 he⟩
theorem App.w {t t':Nd}{o:Op8}{e:Int} (h:App t o t' e):t'.w<=t.w+Nd.ws o.nodes+o.2.2.2.2.2.2.2.length+4:=by
 have hz:zD6.w=1:=rfl;obtain⟨k,row,a,m,nodes,slot,old,text⟩:=o;simp only[Op8.nodes]
 cases h with
 | arg=>omega
 | form=>omega
 | none=>omega
 | chg=>omega
 | limit=>omega
 | @ok r l h hf hr hc hv =>
  have h1:=hr.w (rowN l)
  have h2:=hc.w;have h3:=zHI r;have h4:(rowN l).w=Nd.ws l+1 :=(by simp[rowN,Nd.w]);dsimp only at h1 ⊢
  omega
def Op8.row (o:Op8):List Int:=o.2.1
def Op8.text (o:Op8):List UInt8:=o.2.2.2.2.2.2.2
theorem zVa (n:Nat) (t:Nd) (h:2 * t.cnt<n) (hc:t.cnt<=67108864):zBO n t t=some true:=by
 obtain⟨r,h1,h2⟩:=(zJX n).1 t t h hc;obtain rfl:=h2.2 rfl;exact h1
theorem zYg (n:Nat) (t:Nd) (o:Op8) (hn:200000000<n) (ht:t.w<=50000000) (hb:Nd.ws o.nodes<=2000000) (hx:o.text.length<=2000000) (hr:o.row.length<=2000000) :
  ∃ t' e,zE0 n t o=some (t',e)/\zIz n t o=some (t',e)/\App t o t' e:=by
 obtain⟨t1,e1,f1,g1⟩:=zLX n t o hn ht hb hx;obtain⟨t2,e2,f2,g2⟩:=zNm n t o hn ht hb hx hr;obtain⟨rfl,rfl⟩:=g1.det g2;exact⟨_,_,f1,f2,g1⟩
inductive Runs:Nd->List Op8->Nd->Int->Prop
 | nil (t:Nd):Runs t [] t 0
 | stop {t t':Nd} {o:Op8} {ops:List Op8} {e:Int} (h:App t o t' e) (he:e ≠ 0):Runs t (o::ops) zD6 e
 | next {t t' u:Nd} {o:Op8} {ops:List Op8} {e:Int} (h:App t o t' 0) (hr:Runs t' ops u e):Runs t (o::ops) u e
def endOf (f:Fl (Nd×Int×Int) (Int×List UInt8×Int×List Nd)):Nd×Int×Int:=match f with
 | .ret r=>r
 | .go (a,b,c,d)=>(.mk a b c d,0,0)
theorem zUi (n:Nat) (hn:200000000<n){ops:List Op8} (ho:∀ o∈ops,Nd.ws o.nodes+o.text.length+o.row.length<=1048576) (hl:ops.length<=12):∀ (k i:Nat) (t:Nd),ops.length - i<k->i<=ops.length->t.w<=17000000+i * 1048580 ->
  ∃ f,zBf n ops k t.kind t.text t.cols t.kids (i:Int)=some f/\zCH n ops k t.kind t.text t.cols t.kids (i:Int)=some f/\Runs t (ops.drop i) (endOf f).1 (endOf f).2.2/\(endOf f).1.w<=36000000
 | 0,i,t,h,_,_=>by omega
 | k+1,i,t,h,hi,hw=>by
  unfold zBf zCH
  by_cases hj:i<ops.length
  ·have hb:=ho _ (List.getElem_mem hj)
   have hd:=List.drop_eq_getElem_cons hj;obtain⟨t',e,g1,g2,g3⟩:=zYg n t ops[i] hn (by omega) (by omega) (by omega) (by omega)
   have hw':=g3.w;rw[zAB (Int.ofNat_lt.2 hj),zAv hj,hd]
   simp only[cond_true]
   generalize ops[i]=o at *;obtain⟨q1,q2,q3,q4,q5,q6,q7,q8⟩:=o;obtain⟨t1,t2,t3,t4⟩:=t;have ih:=zUi n hn ho hl k (i+1) t' (by omega) (by omega) (by simp only[Op8.text]at hb; dsimp only at hw' hb; simp only[Nat.add_mul]; omega)
   obtain⟨u1,u2,u3,u4⟩:=t';simp only[Nd.kind,Nd.text,Nd.cols,Nd.kids]at ih ⊢;simp only[obs,g1,g2]
   by_cases he:e=0
   ·subst he;simp only[show((0:Int) != 0)=false from rfl,cond_false,zAy (show i<9223372036854775807 by omega)]
    obtain⟨f,h1,h2,h3,h4⟩:=ih;exact⟨f,h1,h2,.next g3 h3,h4⟩
   ·have hne:(e != 0)=true:=bne_iff_ne.2 he;simp only[hne,cond_true]
    exact⟨_,rfl,rfl,.stop g3 he,by show zD6.w<=36000000; decide⟩
  ·rw[zAx (by omega),List.drop_eq_nil_iff.2 (by omega)]
   obtain⟨t1,t2,t3,t4⟩:=t;simp only[cond_false]
   refine⟨_,rfl,rfl,.nil _,?_⟩
   show(Nd.mk t1 t2 t3 t4).w<=36000000;have:i * 1048580<=12 * 1048580:=Nat.mul_le_mul_right _ (by omega)
   omega
inductive zW4 (t:Nd) (ops:List Op8):Nd->Int->Prop
 | bad (h:zAz t=false):zW4 t ops zD6 1
 | go {u:Nd} {e:Int} (h:zAz t=true) (hr:Runs t ops u e):zW4 t ops u e
theorem zZe (n:Nat) (t:Nd) (ops:List Op8) (hn:200000000<n) (ht:t.w<=17000000) (ho:∀ o∈ops,Nd.ws o.nodes+o.text.length+o.row.length<=1048576) (hl:ops.length<=12) :
  ∃ u i e,zCc n t ops=some (u,i,e)/\zDk n t ops=some (u,i,e)/\zW4 t ops u e/\u.w<=36000000:=by
 have ct:=Nd.cnt_w t;have v1:=zDa n t (by omega) (by omega)
 have v2:=zEi n t (by omega) (by omega)
 have hd:zB2 t=some t:=zK0 (by omega)
 obtain⟨f,h1,h2,h3,h4⟩:=zUi n hn ho hl n 0 t (by omega) (by omega) (by omega)
 rw[show((0:Nat):Int)=0 from rfl]at h1 h2;rw[List.drop_zero]at h3;obtain⟨t1,t2,t3,t4⟩:=t;simp only[Nd.kind,Nd.text,Nd.cols,Nd.kids]at h1 h2;unfold zCc zDk;simp only[v1,v2,obs,hd,h1,h2]
 cases hv:zAz (.mk t1 t2 t3 t4) with
 | false=>exact⟨_,0,1,rfl,rfl,.bad hv,by decide⟩
 | true =>
  simp only[Bool.not_true,cond_false]
  cases f with
  | ret r =>
   obtain⟨u,i,e⟩:=r;exact⟨u,i,e,rfl,rfl,.go hv h3,h4⟩
  | go g =>
   obtain⟨a,b,c,d⟩:=g;exact⟨_,0,0,rfl,rfl,.go hv h3,h4⟩
theorem zWT (l b:List Nd){p q:Nat} (hp:p<=l.length):segS (splS l p q b) p (p+b.length)=b:=by
 have h:(l.take p).length=p :=(by rw[List.length_take]; omega);unfold segS splS;rw[List.append_assoc,List.take_append,List.take_of_length_le (by omega),h,show p+b.length - p=b.length by omega,List.take_left,List.drop_append,List.drop_of_length_le (by omega),h,Nat.sub_self]
 rfl
theorem zPc (l b c:List Nd){p q:Nat} (hp:p<=l.length):splS (splS l p q b) p (p+b.length) c=splS l p q c:=by
 have h:(l.take p).length=p :=(by rw[List.length_take]; omega);unfold splS;have e1:((l.take p++b)++l.drop q).take p=l.take p:=by
  rw[List.append_assoc,List.take_append,h,Nat.sub_self,List.take_take,Nat.min_self]; simp
 have e2:((l.take p++b)++l.drop q).drop (p+b.length)=l.drop q:=by
  rw[List.drop_append,List.length_append,h,Nat.sub_self,List.drop_of_length_le (by rw[List.length_append,h]; omega)]; simp
 rw[e1,e2]
theorem zPb (l:List Nd){p q:Nat} (hpq:p<=q):splS l p q (segS l p q)=l:=by
 unfold splS segS;have:l.take p++(l.take q).drop p=l.take q:=by
  have h:=List.take_append_drop p (l.take q)
  rw[List.take_take,Nat.min_eq_left hpq]at h;exact h
 rw[this,List.take_append_drop]
theorem zT8 (l b:List Nd){p q:Nat} (hp:p<=q) (hq:q<=l.length):(splS l p q b).length+(q - p)=l.length+b.length:=by
 unfold splS;simp only[List.length_append,List.length_take,List.length_drop]
 omega
theorem zYX (l:List Nd){p q:Nat} (hp:p<=q) (hq:q<=l.length):(segS l p q).length=q - p:=by
 unfold segS;simp only[List.length_take,List.length_drop]
 omega
theorem zX5 {l:List Nd}{p:Nat}{it:Nd} (h:l[p]? = some it):segS l p (p+1)=[it]:=by
 have:=zT7 l (List.getElem?_eq_some_iff.1 h).1;rw[segS,this,(List.getElem?_eq_some_iff.1 h).2]
theorem zX8 (l:List Nd){p q:Nat} (x:Nd) (hp:p<=l.length):(splS l p q [x])[p]? = some x:=by
 have h:(l.take p).length=p :=(by rw[List.length_take]; omega);unfold splS;rw[List.append_assoc,List.getElem?_append_right (by omega),h,Nat.sub_self]; rfl
theorem cnt_kids (v:Nd):v.cnt=Nd.cnts v.kids+1:=by cases v; simp only[Nd.cnt,Nd.kids]; try omega
def invO:Op8->Op8
 | (k,row,a,m,nodes,slot,old,text) =>
  (if k=1 then 2 else if k=2 then 1 else if k=3 then 4 else if k=4 then 3 else k,row,a,m,nodes,slot,if k=5 then text else old,if k=5 then old else text)
theorem FormP.inv {o:Op8} (h:FormP o):FormP (invO o):=by
 obtain⟨k,row,a,m,nodes,slot,old,text⟩:=o;rcases h with ⟨rfl | rfl,h⟩ | ⟨rfl | rfl,h⟩ | ⟨rfl,h1,h⟩
 ·exact .inl ⟨.inr rfl,h⟩
 ·exact .inl ⟨.inl rfl,h⟩
 ·exact .inr (.inl ⟨.inr rfl,h⟩)
 ·exact .inr (.inl ⟨.inl rfl,h⟩)
 ·exact .inr (.inr ⟨rfl,Ne.symm h1,h⟩)
theorem Chg.inv {l l':List Nd}{o:Op8} (hf:FormP o) (h:Chg l o l' 0):Chg l' (invO o) l 0:=by
 obtain⟨k,row,a,m,nodes,slot,old,text⟩:=o;cases h with
 | @ins _ p _ _ _ _ _ h =>
  have hl:=zT8 l nodes (Nat.le_refl p) h;have h1:=zWT l nodes (q:=p) h;have h2:=zPc l nodes [] (q:=p) h;have h3:=zPb l (Nat.le_refl p)
  have h4:segS l p p=[] :=(by unfold segS; simp);rw[h4]at h3;have:=Chg.del (l:=splS l p p nodes) (row:=row) (p:=p) (m:=m) (nodes:=nodes) (slot:=slot) (old:=old) (text:=text) (by omega) h1;rw[h2,h3]at this;exact this
 | @del _ p _ _ _ _ _ h he =>
  have hl:=zT8 l [] (Nat.le_add_right p nodes.length) h;have h2:=zPc l [] nodes (q:=p+nodes.length) (p:=p) (by omega)
  have h3:=zPb l (Nat.le_add_right p nodes.length)
  rw[he]at h3;simp only[List.length_nil,Nat.add_zero]at h2;have:=Chg.ins (l:=splS l p (p+nodes.length) []) (row:=row) (p:=p) (m:=m) (nodes:=nodes) (slot:=slot) (old:=old) (text:=text) (by simp only[List.length_nil]at hl; omega)
  rw[h2,h3]at this;exact this
 | @wrap _ p m v s _ _ h =>
  have ht:zUg [v] (s:Int):=by
   rcases hf with ⟨h0 | h0,_⟩ | ⟨_,_,h0,_⟩ | ⟨h0,_⟩
   ·cases h0
   ·cases h0
   ·exact h0
   ·cases h0
  obtain⟨v',s',z,e1,e2,_,hz,hk⟩:=ht;cases e1;obtain rfl:=Int.ofNat.inj e2;have h1:=zX8 l (q:=p+m) (zIW v s (segS l p (p+m))) (p:=p) (by omega)
  have h2:=zPc l [zIW v s (segS l p (p+m))] (segS l p (p+m)) (q:=p+m) (p:=p) (by omega)
  rw[zPb l (Nat.le_add_right p m)]at h2;have hk2:(zIW v s (segS l p (p+m))).kids[s]? = some (rowN (segS l p (p+m))):=zTb hz;have hm:((rowN (segS l p (p+m))).kids.length:Int)=(m:Int):=by
   have:=zYX l (Nat.le_add_right p m) h;show((segS l p (p+m)).length:Int)=m
   omega
  have:=Chg.unwrap (row:=row) (v:=v) (old:=old) (text:=text) h1 hk2 hm rfl;rw[show(rowN (segS l p (p+m))).kids=segS l p (p+m) from rfl]at this;simp only[List.length_cons,List.length_nil,Nat.zero_add]at h2;rw[h2]at this;exact this
 | @unwrap _ p _ v it z s _ _ h hz hm he =>
  have hp:=(List.getElem?_eq_some_iff.1 h).1;have hl:=zT8 l z.kids (Nat.le_add_right p 1) (by omega)
  have h1:=zWT l z.kids (q:=p+1) (p:=p) (by omega)
  have h2:=zPc l z.kids [zIW v s z.kids] (q:=p+1) (p:=p) (by omega)
  have h3:=zPb l (Nat.le_add_right p 1)
  rw[zX5 h,he]at h3;rw[h3]at h2;subst hm;have:=Chg.wrap (l:=splS l p (p+1) z.kids) (row:=row) (p:=p) (m:=z.kids.length) (v:=v) (s:=s) (old:=old) (text:=text) (by omega)
  rw[h1,h2]at this;exact this
 | @set _ p _ _ it _ _ _ h hl he =>
  have hp:=(List.getElem?_eq_some_iff.1 h).1;have h1:=zX8 l (q:=p+1) (.mk it.kind text it.cols it.kids) (p:=p) (by omega)
  have h2:=zPc l [.mk it.kind text it.cols it.kids] [it] (q:=p+1) (p:=p) (by omega)
  have h3:=zPb l (Nat.le_add_right p 1)
  rw[zX5 h]at h3;rw[h3]at h2;simp only[List.length_cons,List.length_nil,Nat.zero_add]at h2;have:=Chg.set (row:=row) (m:=m) (nodes:=nodes) (slot:=slot) (old:=text) (text:=old) h1 hl rfl;obtain⟨i1,i2,i3,i4⟩:=it;have he:i2=old:=he;subst he;simp only[Nd.kind,Nd.cols,Nd.kids]at this h2;rw[h2]at this;exact this
theorem zQ6 (o:Op8):(invO o).2.1=o.2.1:=rfl
theorem App.inv {t t':Nd}{o:Op8} (h:App t o t' 0):App t' (invO o) t 0/\zAz t'=true:=by
 cases h with
 | chg h hf hr hc he=>exact absurd rfl he
 | @ok r l h hf hr hc hv =>
  have hrr:=(zMn (hr.valid h)).1;have hput:=hr.put (rowN l)
  have hb:=hr.back (rowN l)
  have hci:=hc.inv hf;have:App (putL t o.2.1 (rowN l)) (invO o) (putL (putL t o.2.1 (rowN l)) (invO o).2.1 (rowN r.kids)) 0:=by
   refine App.ok hv hf.inv (r:=rowN l) (by rw[zQ6]; exact hput) hci ?_;rw[zQ6,show rowN r.kids=r from hrr.symm,hb]
   exact h
  rw[zQ6,show rowN r.kids=r from hrr.symm,hb]at this;exact⟨this,hv⟩
theorem zHh {t:Nd} (h:zAz t=true):t.kind=1/\zG3 t=true/\t.cnt<=1000/\t.dep<=24:=by
 unfold zAz at h;simp only[Bool.and_eq_true,decide_eq_true_eq]at h;exact⟨eq_of_beq h.1,h.2⟩
def opw (o:Op8):Nat:=Nd.ws o.nodes+o.text.length+4
def sw:List Op8->Nat
 | []=>0
 | o::l=>opw o+sw l
theorem zUR:∀ l:List Op8,4 * l.length<=sw l
 | []=>Nat.zero_le _
 | o::l=>by
  have:=zUR l;simp only[List.length_cons,sw,opw]
  omega
theorem zSl (n:Nat) (hn:200000000<n){ops:List Op8} (hl:ops.length<=10000000) (ho:∀ o∈ops,opw o<=1900000):∀ (k i:Nat) (t:Nd),ops.length - i<k->i<=ops.length->t.w+sw (ops.drop i)<=40000000 ->
  ∃ f,zBf n ops k t.kind t.text t.cols t.kids (i:Int)=some f/\Runs t (ops.drop i) (endOf f).1 (endOf f).2.2/\((endOf f).2.2=0->(endOf f).2.1=0)
 | 0,i,t,h,_,_=>by omega
 | k+1,i,t,h,hi,hw=>by
  unfold zBf
  by_cases hj:i<ops.length
  ·have hd:=List.drop_eq_getElem_cons hj;have hs:=ho _ (List.getElem_mem hj)
   rw[hd]at hw;simp only[sw]at hw;unfold opw at hw hs;obtain⟨t',e,g1,g3⟩:=zLX n t ops[i] hn (by omega) (by omega) (by simp only[Op8.text]at hs; omega)
   have hw':=g3.w;rw[zAB (Int.ofNat_lt.2 hj),zAv hj,hd]
   simp only[cond_true]
   generalize ops[i]=o at *;obtain⟨q1,q2,q3,q4,q5,q6,q7,q8⟩:=o;obtain⟨t1,t2,t3,t4⟩:=t;have ih:=zSl n hn hl ho k (i+1) t' (by omega) (by omega) (by simp only[Op8.text]at hw; dsimp only at hw' hw; omega)
   obtain⟨u1,u2,u3,u4⟩:=t';simp only[Nd.kind,Nd.text,Nd.cols,Nd.kids]at ih ⊢;simp only[obs,g1]
   by_cases he:e=0
   ·subst he;simp only[show((0:Int) != 0)=false from rfl,cond_false,zAy (show i<9223372036854775807 by omega)]
    obtain⟨f,h1,h3,h4⟩:=ih;exact⟨f,h1,.next g3 h3,h4⟩
   ·have hne:(e != 0)=true:=bne_iff_ne.2 he;simp only[hne,cond_true]
    exact⟨_,rfl,.stop g3 he,fun h=>absurd h he⟩
  ·rw[zAx (by omega),List.drop_eq_nil_iff.2 (by omega)]
   obtain⟨t1,t2,t3,t4⟩:=t;simp only[cond_false]
   exact⟨_,rfl,.nil _,fun _=>rfl⟩
theorem zYt (n:Nat) (t:Nd) (ops:List Op8) (hn:200000000<n) (hw:t.w+sw ops<=40000000) (ho:∀ o∈ops,opw o<=1900000) :
  ∃ u i e,zCc n t ops=some (u,i,e)/\zW4 t ops u e/\(e=0->i=0):=by
 have ct:=Nd.cnt_w t;have sl:=zUR ops;have v1:=zDa n t (by omega) (by omega)
 have hd:zB2 t=some t:=zK0 (by omega)
 obtain⟨f,h1,h3,h4⟩:=zSl n hn (ops:=ops) (by omega) ho n 0 t (by omega) (by omega) (by rw[List.drop_zero]; exact hw)
 rw[show((0:Nat):Int)=0 from rfl]at h1;rw[List.drop_zero]at h3;obtain⟨t1,t2,t3,t4⟩:=t;simp only[Nd.kind,Nd.text,Nd.cols,Nd.kids]at h1;unfold zCc;simp only[v1,obs,hd,h1]
 cases hv:zAz (.mk t1 t2 t3 t4) with
 | false=>exact⟨_,0,1,rfl,.bad hv,fun h=>by cases h⟩
 | true =>
  simp only[Bool.not_true,cond_false]
  cases f with
  | ret r =>
   obtain⟨u,i,e⟩:=r;exact⟨u,i,e,rfl,.go hv h3,h4⟩
  | go g =>
   obtain⟨a,b,c,d⟩:=g;exact⟨_,0,0,rfl,.go hv h3,fun _=>rfl⟩
theorem zQx (r:List Int) (hl:r.length<=1073741824):∀ (k i:Nat),r.length - i<k->i<=r.length->zDF r r k (i:Int)=some (.go ())
 | 0,i,h,_=>by omega
 | k+1,i,h,hi=>by
  unfold zDF
  by_cases hj:i<r.length
  ·rw[zAB (Int.ofNat_lt.2 hj),cond_true,zAv hj]
   simp only[obs,bne_self_eq_false,cond_false]
   rw[zAy (by omega),zQx r hl k (i+1) (by omega) (by omega)]
  ·rw[zAx (by omega)]; rfl
theorem zTa (n:Nat) (o:Op8) (hn:2 * Nd.cnts o.nodes+10<n) (hc:Nd.cnts o.nodes<=67000000) (hr:o.row.length<=1073741824) (hrn:o.row.length<n):zGF n o o=some true:=by
 obtain⟨k,row,a,m,nodes,slot,old,text⟩:=o;simp only[Op8.nodes,Op8.row]at hn hc hr hrn;obtain⟨b,h1,h2⟩:=(zJX n).2 nodes nodes (by omega) (by omega)
 obtain rfl:=h2.2 rfl;have h3:=zQx row hr n 0 (by omega) (by omega)
 rw[show((0:Nat):Int)=0 from rfl]at h3;unfold zGF;simp only[bne_self_eq_false,cond_false,beq_self_eq_true,Bool.not_true,obs,h3,h1]
theorem zJS (n:Nat){ops:List Op8} (hs:∀ o∈ops,zGF n o o=some true) (hl:ops.length<=1073741824):∀ (k i:Nat),ops.length - i<k->i<=ops.length->zCs n ops ops k (i:Int)=some (.go ())
 | 0,i,h,_=>by omega
 | k+1,i,h,hi=>by
  unfold zCs
  by_cases hj:i<ops.length
  ·have h1:=hs _ (List.getElem_mem hj)
   rw[zAB (Int.ofNat_lt.2 hj),cond_true,zAv hj]
   generalize ops[i]=o at *;obtain⟨k,row,a,m,nodes,slot,old,text⟩:=o;simp only[obs,h1,Bool.not_true,cond_false]
   rw[zAy (by omega),zJS n hs hl _ (i+1) (by omega) (by omega)]
  ·rw[zAx (by omega)]; rfl
theorem Runs.app {t u v:Nd}{a b:List Op8}{e:Int} (h:Runs t a u 0) (h2:Runs u b v e):Runs t (a++b) v e:=by
 generalize hz:(0:Int)=z at h
 induction h with
 | nil t=>exact h2
 | stop h he=>exact absurd hz.symm he
 | next h hr ih=>exact .next h (ih h2 hz)
theorem Runs.back {t u:Nd}{ops:List Op8} (h:Runs t ops u 0) (hv:zAz t=true):Runs u (ops.map invO).reverse t 0/\zAz u=true:=by
 generalize hz:(0:Int)=z at h
 induction h with
 | nil t=>exact⟨.nil t,hv⟩
 | stop h he=>exact absurd hz.symm he
 | next h hr ih =>
  subst hz;obtain⟨h1,h2⟩:=h.inv;obtain⟨h3,h4⟩:=ih h2 rfl;rw[List.map_cons,List.reverse_cons]
  exact⟨h3.app (.next h1 (.nil _)),h4⟩
theorem Runs.det {t u u':Nd}{ops:List Op8}{e e':Int} (h:Runs t ops u e) (h':Runs t ops u' e'):u=u'/\e=e':=by
 induction h generalizing u' e' with
 | nil t=>cases h'; exact⟨rfl,rfl⟩
 | stop h he =>
  cases h' with
  | stop g hg=>exact⟨rfl,(h.det g).2⟩
  | next g hr=>exact absurd (h.det g).2 he
 | next h hr ih =>
  cases h' with
  | stop g hg=>exact absurd (h.det g).2.symm hg
  | next g hr' =>
   obtain⟨rfl,_⟩:=h.det g;exact ih hr'
theorem zXS {k:Int}{t:List UInt8} (h:zTd k t=true):t.length<=200:=by
 unfold zTd at h
 by_cases k2:k=2
 ·rw[if_pos k2]at h;unfold symB at h
  by_cases h1:t.length=1
  ·omega
  ·rw[if_neg h1]at h;simp only[Bool.and_eq_true,decide_eq_true_eq]at h
   omega
 rw[if_neg k2]at h
 by_cases k3:k=3
 ·rw[if_pos k3]at h;unfold numB at h;simp only[Bool.and_eq_true,decide_eq_true_eq]at h
  omega
 rw[if_neg k3]at h
 by_cases k4:k=4
 ·rw[if_pos k4]at h;simp only[Bool.and_eq_true,decide_eq_true_eq]at h;exact h.1
 rw[if_neg k4]at h
 by_cases k10:k=10
 ·rw[if_pos k10]at h;obtain⟨e,he,h2⟩:=List.any_eq_true.1 h;rw[← eq_of_beq h2]
  have:∀ e∈acL,e.length<=200 :=(by decide);exact this e he
 rw[if_neg k10]at h
 by_cases k11:k=11
 ·rw[if_pos k11]at h;unfold fenB at h;simp only[Bool.and_eq_true,decide_eq_true_eq]at h
  omega
 rw[if_neg k11]at h;rw[eq_of_beq h]
 exact Nat.zero_le _
mutual
theorem zX2:∀ t:Nd,zG3 t=true->t.w+1<=202 * t.cnt
 | .mk k t c ks,h=>by
  simp only[zG3,Bool.and_eq_true]at h
  have h1:=zXS h.1.1
  have h2:=zWd ks k h.2
  simp only[Nd.w,Nd.cnt]
  omega
theorem zWd:∀ (l:List Nd) (k:Int),zEZ k l=true->Nd.ws l<=202 * Nd.cnts l
 | [],_,_=>Nat.zero_le _
 | v::l,k,h=>by
  simp only[zEZ,Bool.and_eq_true]at h
  have h1:=zX2 v h.1.2
  have h2:=zWd l k h.2
  simp only[Nd.ws,Nd.cnts]
  omega
end
theorem zM1 {t:Nd} (h:zAz t=true):t.w<=202000:=by
 obtain⟨k,f,c,d⟩:=zHh h;have:=zX2 t f
 omega
structure OSmall (l:List Op8):Prop where
 size:sw l<=20000000
 op:∀ o∈l,opw o<=1900000
 isize:sw (l.map invO)<=20000000
 oi:∀ o∈l,opw (invO o)<=1900000
 row:∀ o∈l,o.row.length<=16777216
theorem OSmall.len {l:List Op8} (h:OSmall l):l.length<=5000000:=by
 have:=zUR l;have:=h.size
 omega
theorem OSmall.cnt {l:List Op8} (h:OSmall l):∀ o∈l,Nd.cnts o.nodes<=1900000:=fun o ho=>by
 have h1:=h.op o ho;have h2:=Nd.cnts_ws o.nodes;unfold opw at h1
 omega
theorem OSmall.apply {l:List Op8} (h:OSmall l) (n:Nat){t:Nd} (hn:200000000<n) (hv:zAz t=true):∃ u i e,zCc n t l=some (u,i,e)/\Runs t l u e/\(e=0->i=0):=by
 have hw:=zM1 hv;have h1:=h.size;obtain⟨u,i,e,g1,g2,g3⟩:=zYt n t l hn (by omega) h.op;cases g2 with
 | bad g=>rw[hv]at g; cases g
 | go _ g=>exact⟨u,i,e,g1,g,g3⟩
abbrev Cur:=List Int×List Int
abbrev Rc:=List Op8×Cur×Cur
structure zRR (r:Rc):Prop where
 ops:OSmall r.1
 b1:r.2.1.1.length<=16777216
 b2:r.2.1.2.length<=16777216
 a1:r.2.2.1.length<=16777216
 a2:r.2.2.2.length<=16777216
theorem zVC {t:Nd} (h:zAz t=true):zB2 t=some t:=by
 have h1:=zM1 h;have h2:=Nd.cnt_w t;exact zK0 (by omega)
def zIj (o:Op8):Nat:=Nd.ws o.nodes+o.2.2.2.2.2.2.1.length+o.text.length+o.row.length
structure RFew (r:Rc):Prop where
 len:r.1.length<=12
 bulk:∀ o∈r.1,zIj o<=1048576
 b1:r.2.1.1.length<=16777216
 b2:r.2.1.2.length<=16777216
 a1:r.2.2.1.length<=16777216
 a2:r.2.2.2.length<=16777216
theorem zZz {l:List Op8}{b:Nat}:(∀ o∈l,opw o<=b)->sw l<=l.length * b:=by
 induction l with
 | nil=>intro _; exact Nat.zero_le _
 | cons o l ih =>
  intro h;have h1:=h o List.mem_cons_self;have h2:=ih fun o ho=>h o (List.mem_cons_of_mem _ ho)
  simp only[sw,List.length_cons,Nat.succ_mul]
  omega
theorem zRu (o:Op8):opw o<=zIj o+4:=by unfold opw zIj; omega
theorem zRt (o:Op8):opw (invO o)<=zIj o+4:=by
 obtain⟨k,row,a,m,nodes,slot,old,text⟩:=o;unfold opw zIj invO;simp only[Op8.nodes,Op8.text,Op8.row]
 by_cases h:k=5
 ·rw[if_pos h]; omega
 ·rw[if_neg h]; omega
theorem RFew.osmall {r:Rc} (h:RFew r):OSmall r.1:=by
 have h1:∀ o∈r.1,opw o<=1048580:=fun o ho=>by have:=h.bulk o ho; have:=zRu o; omega
 have h2:∀ o∈r.1.map invO,opw o<=1048580:=fun o ho=>by
  obtain⟨o',ho',rfl⟩:=List.mem_map.1 ho;have:=h.bulk o' ho'; have:=zRt o'; omega
 have s1:=zZz h1;have s2:=zZz h2;rw[List.length_map]at s2;have hl:=h.len;have hm:r.1.length * 1048580<=12 * 1048580:=Nat.mul_le_mul_right _ hl;exact⟨by omega,fun o ho=>by have:=h1 o ho; omega,by omega,fun o ho=>by have:=h2 (invO o) (List.mem_map_of_mem ho); omega,fun o ho=>by have:=h.bulk o ho; unfold zIj at this; omega⟩
theorem RFew.small {r:Rc} (h:RFew r):zRR r:=⟨h.osmall,h.b1,h.b2,h.a1,h.a2⟩
theorem RFew.ref {r:Rc} (h:RFew r) (n:Nat) (hn:200000000<n){t:Nd} (hv:zAz t=true):∃ u i e,zDk n t r.1=some (u,i,e)/\Runs t r.1 u e:=by
 have hw:=zM1 hv;obtain⟨u,i,e,_,g2,g3,_⟩:=zZe n t r.1 hn (by omega) (fun o ho=>by have:=h.bulk o ho; unfold zIj at this; omega) h.len;cases g3 with
 | bad g=>rw[hv]at g; cases g
 | go _ g=>exact⟨u,i,e,g2,g⟩
theorem zYL (p:List Int) (i:Int) (hp:p.length<=4000000):zOA p [i]=some (p++[i]):=by
 unfold zOA;dsimp only;rw[zAK (by simp only[List.length_cons,List.length_nil]; omega)]
theorem zXY {l:List Nd}{n:Nat}{v:Nd} (h:l[n]? = some v):at? l (n:Int)=some v:=by
 obtain⟨h1,rfl⟩:=List.getElem?_eq_some_iff.1 h;exact zAv h1
theorem zV6 {l:List Nd}{q:Nat}{v:Nd} (h:l[q]? = some v):l.drop q=v::l.drop (q+1):=by
 obtain⟨h1,rfl⟩:=List.getElem?_eq_some_iff.1 h;exact List.drop_eq_getElem_cons h1
abbrev AllF:=Nd->List Int->Option (List (List Int))
theorem zR6 (F:AllF) (kids:List Nd) (p:List Int) (i:Nat) (x:Nd) (hx:kids[i]? = some x) (hp:p.length<=3000000) (hk:x.kids.length<=1000000)
  (hF:∀ (s:Nat) (u:Nd),x.kids[s]? = some u->F u (p++[(i:Int),(s:Int)])=some (posU (p++[(i:Int),(s:Int)]) u)) :
  ∀ (k s:Nat) (l:List (List Int)),x.kids.length - s<k->s<=x.kids.length->l.length+(posS p i s (x.kids.drop s)).length<=4000000 ->
   zHD F kids p (i:Int) k (s:Int) l=some (l++posS p i s (x.kids.drop s))
 | 0,s,l,h,_,_=>by omega
 | k+1,s,l,h,hs,hl=>by
  unfold zHD;rw[zXY hx]
  by_cases hj:s<x.kids.length
  ·have g:x.kids[s]? = some x.kids[s]:=List.getElem?_eq_getElem hj;generalize x.kids[s]=u at *;rw[zV6 g]at hl ⊢;rw[posS]at hl ⊢;rw[List.length_append]at hl;have e1:=hF s u g;have ih:=zR6 F kids p i x hx hp hk hF k (s+1) (l++posU (p++[(i:Int),(s:Int)]) u) (by omega) (by omega) (by rw[List.length_append]; omega)
   have at2:=zXY g;have hlen:(x.kids.length:Int)=(x.kids.length:Int):=rfl;obtain⟨x1,x2,x3,x4⟩:=x;obtain⟨u1,u2,u3,u4⟩:=u;simp only[Nd.kids]at *;simp only[obs,zAB (Int.ofNat_lt.2 hj),cond_true,at2]
   rw[zAK (by rw[List.length_nil]; omega),zAK (by simp only[List.length_cons,List.length_nil]; omega),e1]
   simp only[obs]
   rw[zAK (by omega),zAy (by omega),ih,List.append_assoc]
  ·have e:x.kids.drop s=[]:=List.drop_of_length_le (by omega)
   rw[e,posS]
   obtain⟨x1,x2,x3,x4⟩:=x;simp only[Nd.kids]at hj hs;simp only[obs]
   rw[zAx (by omega),cond_false,List.append_nil]
theorem zR5 (F:AllF) (N:Nat) (kids:List Nd) (p:List Int) (hp:p.length<=3000000) (hc:Nd.cnts kids<=1000000) (hN:Nd.cnts kids+1<N)
  (hF:∀ (i s:Nat) (x u:Nd),kids[i]? = some x->x.kids[s]? = some u->F u (p++[(i:Int),(s:Int)])=some (posU (p++[(i:Int),(s:Int)]) u)) :
  ∀ (k i:Nat) (l:List (List Int)),kids.length - i+1<k->i<=kids.length->l.length+(posI p i (kids.drop i)).length<=4000000 ->
   zHC F N kids p k (i:Int) l=some (l++posI p i (kids.drop i))
 | 0,i,l,h,_,_=>by omega
 | k+1,i,l,h,hi,hl=>by
  have hlk:=Nd.cnts_len kids;unfold zHC;rw[zAB (by omega),cond_true,zYL p i (by omega)]
  simp only[obs]
  by_cases hj:i<kids.length
  ·have g:kids[i]? = some kids[i]:=List.getElem?_eq_getElem hj;generalize kids[i]=x at *;have mx:=Nd.cnts_mem (List.mem_of_getElem? g)
   have kx:=x.cnt_kids;have lx:=Nd.cnts_len x.kids;have hX:posX p i x=posS p i 0 x.kids :=(by cases x; rw[posX]; rfl);rw[zV6 g]at hl ⊢;rw[posI,hX]at hl ⊢;rw[List.length_cons,List.length_append]at hl;rw[zAK (by simp only[List.length_cons,List.length_nil]; omega),zDP (by omega),cond_false]
   have e2:=zR6 F kids p i x g hp (by omega) (fun s u hu=>hF i s x u g hu) N 0 (l++[p++[(i:Int)]]) (by omega) (Nat.zero_le _) (by rw[List.drop_zero,List.length_append]; simp only[List.length_cons,List.length_nil]; omega)
   rw[show((0:Nat):Int)=0 from rfl,List.drop_zero]at e2;rw[e2]
   simp only[obs]
   have ih:=zR5 F N kids p hp hc hN hF k (i+1) (l++[p++[(i:Int)]]++posS p i 0 x.kids) (by omega) (by omega) (by simp only[List.length_append,List.length_cons,List.length_nil]; omega)
   rw[zAy (by omega),ih]
   simp only[List.append_assoc,List.cons_append,List.nil_append]
  ·obtain rfl:i=kids.length :=(by omega);rw[List.drop_length,posI]at hl ⊢;rw[zAK (by simp only[List.length_cons,List.length_nil]at hl ⊢; omega),beq_self_eq_true,cond_true]
theorem zQt:∀ (n:Nat) (t:Nd) (p:List Int),t.cnt+1<n->t.cnt<=1000000->p.length+2 * t.cnt<=3000000->zJo n t p=some (posU p t)
 | 0,t,p,h,_,_=>by omega
 | n+1,t,p,h,hc,hp=>by
  have k1:=t.cnt_kids;have l1:=Nd.cnts_len t.kids;have hlen:=zRy p 0 t.kids;have hU:posU p t=posI p 0 t.kids :=(by cases t; rw[posU]; rfl);have e:=zR5 (zJo n) n t.kids p (by omega) (by omega) (by omega) (fun i s x u hx hu=>by
   have m1:=Nd.cnts_mem (List.mem_of_getElem? hx)
   have m2:=Nd.cnts_mem (List.mem_of_getElem? hu)
   have c1:=x.cnt_kids;exact zQt n u _ (by omega) (by omega) (by simp only[List.length_append,List.length_cons,List.length_nil]; omega)) n 0 [] (by omega) (Nat.zero_le _) (by rw[List.drop_zero,List.length_nil]; omega)
  rw[show((0:Nat):Int)=0 from rfl,List.drop_zero,List.nil_append]at e;rw[hU]
  obtain⟨t1,t2,t3,t4⟩:=t;simp only[Nd.kids]at e ⊢;unfold zJo;simp only[e,obs]
theorem zVt (n:Nat) (t:Nd) (hv:zBQ n t=some (zAz t)) (hn:t.cnt+1<n) (hc:t.cnt<=1000000):zOz n t=some (bif zAz t then (posT t,0) else ([],1)):=by
 have e:=zQt n t [] hn hc (by rw[List.length_nil]; omega)
 unfold posT;obtain⟨t1,t2,t3,t4⟩:=t;unfold zOz;simp only[hv,e,obs]
 cases zAz (.mk t1 t2 t3 t4) <;> rfl
theorem zUl {a b:List Int} (ha:a.length<=1073741824):∀ (k i:Nat),a.length - i<k->i<=a.length->i<=b.length->a.take i=b.take i ->
  ∃ fl,zCr a b k (i:Int)=some fl/\((∃ z,fl = .ret z/\z ≠ 0/\a ≠ b)∨(fl = .go ()/\(a.length=b.length->a=b)))
 | 0,i,h,_,_,_=>by omega
 | k+1,i,h,hi,hb,ht=>by
  unfold zCr
  by_cases h1:i<a.length
  ·rw[zAB (Int.ofNat_lt.2 h1),cond_true]
   by_cases h2:i<b.length
   ·rw[zAB (Int.ofNat_lt.2 h2)]
    simp only[obs,cond_true,zAv h1,zAv h2]
    by_cases h3:a[i]<b[i]
    ·rw[zAB h3,cond_true]
     exact⟨_,rfl,.inl ⟨-1,rfl,by decide,fun e=>by subst e; omega⟩⟩
    ·rw[zAx h3,cond_false]
     by_cases h4:b[i]<a[i]
     ·rw[zAB h4,cond_true]
      exact⟨_,rfl,.inl ⟨1,rfl,by decide,fun e=>by subst e; omega⟩⟩
     ·rw[zAx h4,cond_false,zAy (by omega)]
      have he:a[i]=b[i] :=(by omega);refine zUl ha k (i+1) (by omega) (by omega) (by omega) ?_;rw[← List.take_append_getElem h1,← List.take_append_getElem h2,ht,he]
   ·rw[zAx (by omega)]
    simp only[obs,cond_false]
    exact⟨_,rfl,.inr ⟨rfl,fun e=>by omega⟩⟩
  ·rw[zAx (by omega),cond_false]
   simp only[obs,cond_false]
   refine⟨_,rfl,.inr ⟨rfl,fun e=>?_⟩⟩
   have:i=a.length :=(by omega);subst this;rw[List.take_length]at ht;rw[ht,List.take_of_length_le (by omega)]
theorem cmp_eq (n:Nat) (a b:List Int) (ha:a.length<=1073741824) (hn:a.length<n):∃ c,zEs n a b=some c/\(c=0↔a=b):=by
 obtain⟨fl,h1,h2⟩:=zUl (a:=a) (b:=b) ha n 0 (by omega) (Nat.zero_le _) (Nat.zero_le _) rfl;rw[show((0:Nat):Int)=0 from rfl]at h1;unfold zEs;dsimp only;rw[h1]
 rcases h2 with ⟨z,rfl,hz,hne⟩ | ⟨rfl,he⟩
 ·exact⟨z,rfl,fun h=>absurd h hz,fun h=>absurd h hne⟩
 ·simp only[obs]
  by_cases h3:a.length<b.length
  ·rw[zAB (Int.ofNat_lt.2 h3)]
   exact⟨-1,rfl,fun h=>(by omega),fun h=>(by subst h; omega)⟩
  ·rw[zAx (by omega),cond_false]
   by_cases h4:b.length<a.length
   ·rw[zAB (Int.ofNat_lt.2 h4)]
    exact⟨1,rfl,fun h=>(by omega),fun h=>(by subst h; omega)⟩
   ·rw[zAx (by omega),cond_false]
    exact⟨0,rfl,fun _=>he (by omega),fun _=>rfl⟩
theorem zUv (n:Nat) (pos:List Int) (L:List (List Int)) (hL:L.length<=1073741824) (hb:∀ q∈L,q.length<=1073741824/\q.length<n):∀ (k i:Nat),L.length - i<k->i<=L.length ->
  ∃ fl,zFR n pos L k (i:Int)=some fl/\((∃ j:Nat,fl = .ret ((j:Int),0)/\L[j]? = some pos)∨(fl = .go ()/\pos ∉ L.drop i))
 | 0,i,h,_=>by omega
 | k+1,i,h,hi=>by
  unfold zFR
  by_cases hj:i<L.length
  ·have hm:=hb _ (List.getElem_mem hj)
   obtain⟨c,h1,h2⟩:=cmp_eq n L[i] pos hm.1 hm.2;rw[zAB (Int.ofNat_lt.2 hj),cond_true,zAv hj]
   simp only[obs,h1]
   by_cases hc:c=0
   ·subst hc;exact⟨_,rfl,.inl ⟨i,rfl,by rw[List.getElem?_eq_getElem hj,h2.1 rfl]⟩⟩
   ·rw[zDP hc,cond_false,zAy (by omega)]
    obtain⟨fl,g1,g2⟩:=zUv n pos L hL hb k (i+1) (by omega) (by omega)
    refine⟨fl,g1,g2.imp id fun⟨g3,g4⟩=>⟨g3,fun hm'=>?_⟩⟩
    rw[List.drop_eq_getElem_cons hj]at hm';rcases List.mem_cons.1 hm' with hm' | hm'
    ·exact hc (h2.2 hm'.symm)
    ·exact g4 hm'
  ·rw[zAx (by omega),cond_false,List.drop_of_length_le (by omega)]
   exact⟨_,rfl,.inr ⟨rfl,fun h=>by cases h⟩⟩
theorem zWx {t:Nd} (hv:zAz t=true){q:List Int} (h:q∈posT t):q.length<=49:=by
 obtain⟨k,f,c,d⟩:=zHh hv;have h1:=zWe q t.kids ((zRd t q).1 h)
 have e:t.dep=Nd.deps t.kids+1:=by cases t; rfl
 omega
theorem zSZ (n:Nat) (t:Nd) (pos:List Int) (hv:zBQ n t=some (zAz t)) (hn:2000<n) (hc:t.cnt+1<n) (hc2:t.cnt<=1000000):∃ i e,zIy n t pos=some (i,e)/\((e=0/\zAz t=true/\∃ j:Nat,i=(j:Int)/\(posT t)[j]? = some pos)∨(e ≠ 0/\(zAz t=true->pos ∉ posT t))):=by
 have e1:=zVt n t hv hc hc2;have hlen:=zXv t;cases hvt:zAz t with
 | false =>
  rw[hvt]at e1;obtain⟨t1,t2,t3,t4⟩:=t;refine⟨0,1,?_,.inr ⟨by decide,fun h=>by cases h⟩⟩
  unfold zIy;simp only[e1,cond_false,obs]
  rfl
 | true =>
  rw[hvt]at e1;obtain⟨k,f,c,d⟩:=zHh hvt;obtain⟨fl,g1,g2⟩:=zUv n pos (posT t) (by omega) (fun q hq=>by have:=zWx hvt hq; omega) n 0 (by omega) (Nat.zero_le _)
  rw[show((0:Nat):Int)=0 from rfl]at g1;rw[List.drop_zero]at g2;generalize posT t=L at *;obtain⟨t1,t2,t3,t4⟩:=t;unfold zIy;simp only[e1,cond_true,obs,show((0:Int) != 0)=false from rfl,cond_false,g1]
  rcases g2 with ⟨j,rfl,hj⟩ | ⟨rfl,hj⟩
  ·exact⟨_,_,rfl,.inl ⟨rfl,trivial,j,rfl,hj⟩⟩
  ·exact⟨_,_,rfl,.inr ⟨by decide,fun _=>hj⟩⟩
theorem zS0 (n:Nat) (t:Nd) (pos:List Int) (hv:zBQ n t=some (zAz t)) (hn:2000<n) (hc:t.cnt+1<n) (hc2:t.cnt<=1000000):∃ b,zG9 n t pos=some b/\(b=true↔zAz t=true/\inL t.kids pos):=by
 obtain⟨i,e,h1,h2⟩:=zSZ n t pos hv hn hc hc2;refine⟨e == 0,?_,?_⟩
 ·obtain⟨t1,t2,t3,t4⟩:=t;unfold zG9;simp only[h1,obs]
 ·rw[beq_iff_eq]
  rcases h2 with ⟨rfl,g1,j,rfl,g2⟩ | ⟨g1,g2⟩
  ·exact⟨fun _=>⟨g1,(zRd t pos).1 (List.mem_of_getElem? g2)⟩,fun _=>rfl⟩
  ·exact⟨fun h=>absurd h g1,fun⟨h,h'⟩=>absurd ((zRd t pos).2 h') (g2 h)⟩
theorem zTX (n:Nat) (o:Op8) (hn:200<n):∃ b,zJp n o=some b:=by
 obtain⟨k,row,a,m,nodes,slot,old,text⟩:=o;obtain⟨b,e,_⟩:=zXW n (.mk 1 [] 0 nodes) 100 (by omega) (by omega)
 rw[show((100:Nat):Int)=100 from rfl]at e;unfold zJp zDE;simp only[e,obs]
 cases b with
 | true=>exact⟨_,rfl⟩
 | false=>exact⟨_,rfl⟩
theorem zR4 (n:Nat) (a:List Int) (ha:a.length<=16777216) (hn:200000000<n):zGE n a a=some true:=by
 obtain⟨c,h1,h2⟩:=cmp_eq n a a (by omega) (by omega)
 unfold zGE;dsimp only;rw[h1,h2.2 rfl]
 rfl
theorem zGo (n:Nat) (c:Cur) (h1:c.1.length<=16777216) (h2:c.2.length<=16777216) (hn:200000000<n):zC1 n c c=some true:=by
 have g1:=zR4 n c.1 h1 hn;have g2:=zR4 n c.2 h2 hn;obtain⟨p,q⟩:=c;unfold zC1;simp only[g1,g2,obs,cond_true]
theorem zVK (n:Nat){t:Nd} (hv:zAz t=true) (hn:200000000<n):zBO n t t=some true:=by
 have h1:=zM1 hv;have h2:=Nd.cnt_w t;obtain⟨r,g1,g2⟩:=(zJX n).1 t t (by omega) (by omega)
 rw[g1,g2.2 rfl]
theorem zVL (n:Nat) (hn:200000000<n){r:Rc} (h:RFew r):zFF n r r=some true:=by
 have hl:=h.len;have h1:=zJS n (ops:=r.1) (fun o ho=>by
  have:=h.bulk o ho;have:=Nd.cnts_ws o.nodes;unfold zIj at *;exact zTa n o (by omega) (by omega) (by omega) (by omega)) (by omega) n 0 (by omega) (Nat.zero_le _)
 rw[show((0:Nat):Int)=0 from rfl]at h1;have c1:=zGo n r.2.1 h.b1 h.b2 hn;have c2:=zGo n r.2.2 h.a1 h.a2 hn;obtain⟨r1,⟨r2,r3⟩,⟨r4,r5⟩⟩:=r;dsimp only at h1 c1 c2;unfold zFF zFj;simp only[bne_self_eq_false,cond_false,h1,c1,c2,obs,cond_true]
abbrev Dc:=List UInt8×Nd×List Rc×Int
theorem zWX (n:Nat) (s:List UInt8) (h:s.length<n) (hb:s.length<=1073741824):zFd n s=some (s.all zFu&&decide ((s.length:Int)<=200)):=by
 have:=zIx (p:=zFu) (l:=s) (zBU s) hb (fun k i h=>by
  rw[zBU,zAB (Int.ofNat_lt.2 h),cond_true,zAv h]
  simp only[obs,zOT]
  rw[zAy (by omega)]
  cases zFu s[i] <;> rfl) (fun k=>by rw[zBU,zAx (by omega)]; rfl) n 0 (by omega) (by omega)
 rw[show((0:Nat):Int)=0 from rfl,List.drop_zero]at this;rw[zFd,this]
 unfold zPy;cases s.all zFu <;> rfl
theorem zWf:∀ (k:Nat) (l:List Int) (t:Nd),l.length<2 * k->l.length<=1073741824->∃ f,zCq k l t=some f /\
  ((f = .ret false/\¬ inL t.kids l)∨∃ l' t',f = .go (l',t')/\l'.length<3/\(inL t.kids l↔inL t'.kids l'))
 | 0,l,t,h,_=>by omega
 | k+1,l,⟨t1,t2,t3,t4⟩,h,hb=>by
  unfold zCq
  by_cases h3:3<=l.length
  ·rw[zAB (by omega),cond_true]
   obtain⟨i,s,r,rfl⟩:∃ i s r,l=i::s::r:=by
    match l,h3 with
    | i::s::r,_=>exact⟨i,s,r,rfl⟩
   have e0:at? (i::s::r) 0=some i:=rfl;have e1:at? (i::s::r) 1=some s:=rfl;rw[e0,e1]
   simp only[obs]
   have hin:=zG4 (l:=t4) (i:=i) (s:=s) (r:=r)
   by_cases c1:i<0
   ·rw[zAB c1]
    exact⟨_,rfl,.inl ⟨rfl,fun g=>by have:=(hin.1 g).1; omega⟩⟩
   rw[zAx c1]
   by_cases c2:(t4.length:Int)<=i
   ·rw[zAB c2]
    refine⟨_,rfl,.inl ⟨rfl,fun g=>?_⟩⟩
    obtain⟨_,x,g1,_⟩:=hin.1 g;have:=(List.getElem?_eq_some_iff.1 g1).1
    omega
   rw[zAx c2]
   by_cases c3:s<0
   ·rw[zAB c3]
    refine⟨_,rfl,.inl ⟨rfl,fun g=>?_⟩⟩
    obtain⟨_,x,_,g2,_⟩:=hin.1 g
    omega
   rw[zAx c3]
   obtain⟨a,rfl⟩:∃ a:Nat,i=(a:Int):=⟨i.toNat,by omega⟩
   obtain⟨b,rfl⟩:∃ a:Nat,s=(a:Int):=⟨s.toNat,by omega⟩
   have ha:a<t4.length :=(by omega);rw[zAv ha]
   have hx:t4[a]? = some t4[a]:=List.getElem?_eq_getElem ha;generalize t4[a]=x at hx;obtain⟨x1,x2,x3,x4⟩:=x;simp only[cond_false,obs]
   simp only[Int.toNat_natCast]at hin
   by_cases c4:(x4.length:Int)<=(b:Int)
   ·rw[zAB c4]
    refine⟨_,rfl,.inl ⟨rfl,fun g=>?_⟩⟩
    obtain⟨_,x,g1,_,u,g2,_⟩:=hin.1 g;obtain rfl:=Option.some.inj (hx.symm.trans g1)
    have:=(List.getElem?_eq_some_iff.1 g2).1;simp only[Nd.kids]at this
    omega
   rw[zAx c4]
   have hb':b<x4.length :=(by omega);have hu:x4[b]? = some x4[b]:=List.getElem?_eq_getElem hb';simp only[cond_false,zAv hb',obs]
   generalize x4[b]=u at hu;obtain⟨u1,u2,u3,u4⟩:=u;simp only[obs]
   rw[zAK (by simp only[List.length_cons]at h3 ⊢; omega)]
   have e3:((((a:Int)::(b:Int)::r).take (((((a:Int)::(b:Int)::r).length:Nat):Int)).toNat).drop (2:Int).toNat)=r:=by
    rw[Int.toNat_natCast,List.take_length]; rfl
   rw[e3]
   simp only[List.length_cons]at h hb;obtain⟨f,f1,f2⟩:=zWf k r (.mk u1 u2 u3 u4) (by omega) (by omega)
   have hiff:inL (Nd.mk t1 t2 t3 t4).kids ((a:Int)::(b:Int)::r)↔inL (Nd.mk u1 u2 u3 u4).kids r:=by
    simp only[Nd.kids]
    rw[hin]
    constructor
    ·rintro⟨_,x,g1,_,u,g2,g3⟩
     obtain rfl:=Option.some.inj (hx.symm.trans g1)
     obtain rfl:=Option.some.inj (hu.symm.trans g2)
     exact g3
    ·exact fun g=>⟨by omega,_,hx,by omega,_,hu,g⟩
   refine⟨f,f1,?_⟩
   rcases f2 with ⟨g1,g2⟩ | ⟨l',t',g1,g2,g3⟩
   ·exact .inl ⟨g1,fun g=>g2 (hiff.1 g)⟩
   ·exact .inr ⟨l',t',g1,g2,hiff.trans g3⟩
  ·rw[zAx (by omega)]
   exact⟨_,rfl,.inr ⟨_,_,rfl,by omega,Iff.rfl⟩⟩
theorem zZJ (n:Nat) (t:Nd) (l:List Int) (h:l.length<n) (hb:l.length<=1073741824):∃ b,zFf n t l=some b/\(b=true↔inL t.kids l):=by
 obtain⟨f,f1,f2⟩:=zWf n l t (by omega) hb;obtain⟨t1,t2,t3,t4⟩:=t;unfold zFf;simp only[f1,obs]
 rcases f2 with ⟨rfl,g⟩ | ⟨l',⟨u1,u2,u3,u4⟩,rfl,g1,g2⟩
 ·exact⟨false,rfl,fun h=>(by cases h),fun h=>absurd h g⟩
 ·simp only[g2]
  match l',g1 with
  | [],_=>exact⟨false,rfl,fun h=>(by cases h),fun h=>False.elim h⟩
  | [o],_ =>
   have e0:at? [o] 0=some o:=rfl;have e1:((([o]:List Int).length:Int) == 1)=true:=rfl;simp only[e0,e1,cond_true,obs,zOs,Nd.kids]
   by_cases c:0<=o
   ·rw[zAB c]
    exact⟨_,rfl,fun h=>⟨c,of_decide_eq_true h⟩,fun h=>decide_eq_true h.2⟩
   ·rw[zAx c]
    exact⟨_,rfl,fun h=>(by cases h),fun h=>absurd h.1 c⟩
  | [a,b],_ =>
   have e1:((([a,b]:List Int).length:Int) == 1)=false:=rfl;simp only[e1,cond_false,obs]
   refine⟨false,rfl,fun h=>(by cases h),fun h=>?_⟩
   obtain⟨_,x,_,_,u,_,g3⟩:=zG4.1 h;exact False.elim g3
theorem zX4 (n:Nat){t:Nd} (hv:zAz t=true) (l:List Int) (hn:200000000<n) (hb:l.length<=16777216):∃ b,zC0 n t l=some b/\zG9 n t l=some b:=by
 have hw:=zM1 hv;have hc:=Nd.cnt_w t;obtain⟨b,h1,h2⟩:=zZJ n t l (by omega) (by omega)
 have v1:=zDa n t (by omega) (by omega)
 have v2:=zEi n t (by omega) (by omega)
 obtain⟨b',h3,h4⟩:=zS0 n t l v2 (by omega) (by omega) (by omega)
 have e:b=b':=Bool.eq_iff_iff.2 (h2.trans ⟨fun g=>h4.2 ⟨hv,g⟩,fun g=>(h4.1 g).2⟩)
 subst e;refine⟨b,?_,h3⟩
 rw[hv]at v1;obtain⟨t1,t2,t3,t4⟩:=t;unfold zC0;simp only[v1,obs,cond_true,h1]
theorem zQr (n:Nat){t:Nd} (hv:zAz t=true) (c:Cur) (hn:200000000<n) (h1:c.1.length<=16777216) (h2:c.2.length<=16777216):∃ b,zDh n t c=some b/\zF5 n t c=some b:=by
 obtain⟨b1,f1,g1⟩:=zX4 n hv c.1 hn h1;obtain⟨b2,f2,g2⟩:=zX4 n hv c.2 hn h2;obtain⟨p,q⟩:=c;obtain⟨t1,t2,t3,t4⟩:=t;dsimp only at f1 f2 g1 g2;unfold zDh zF5;simp only[f1,g1,obs]
 cases b1 with
 | false=>exact⟨_,rfl,rfl⟩
 | true =>
  simp only[cond_true]
  cases((q.length:Int) == 0) with
  | true=>exact⟨_,rfl,rfl⟩
  | false =>
   simp only[cond_false,f2,g2,obs]
   exact⟨_,rfl,rfl⟩
structure RBul (r:Rc):Prop where
 len:r.1.length<=1048576
 ops:∀ o∈r.1,zIj o<=1048576
 b1:r.2.1.1.length<=1048576
 b2:r.2.1.2.length<=1048576
 a1:r.2.2.1.length<=1048576
 a2:r.2.2.2.length<=1048576
structure DBul (d:Dc):Prop where
 title:d.1.length<=1048576
 tree:d.2.1.w<=1048576
 len:d.2.2.1.length<=1048576
 recs:∀ r∈d.2.2.1,RBul r
theorem RBul.few {r:Rc} (h:RBul r) (hl:r.1.length<=8):RFew r:=⟨by omega,h.ops,by have:=h.b1; omega,by have:=h.b2; omega,by have:=h.a1; omega,by have:=h.a2; omega⟩
structure DFew (d:Dc):Prop where
 title:d.1.length<=300
 tree:d.2.1.cnt<=200
 len:d.2.2.1.length<=20
 recs:∀ r∈d.2.2.1,RFew r
theorem zWb (n:Nat) (l:List Op8) (hn:200<n) (hl:l.length<=2000000):∀ (k i:Nat),l.length - i<k->∃ fl,zEf n l k (i:Int)=some fl/\(∀ b,fl = .ret b->b=false)
 | 0,i,h=>by omega
 | k+1,i,h=>by
  unfold zEf
  by_cases hj:i<l.length
  ·obtain⟨b,h1⟩:=zTX n l[i] hn;have ha:=zAv hj;obtain⟨f,g1,g2⟩:=zWb n l hn hl k (i+1) (by omega)
   generalize l[i]=o at h1 ha;obtain⟨q1,q2,q3,q4,q5,q6,q7,q8⟩:=o;rw[zAB (Int.ofNat_lt.2 hj),cond_true]
   simp only[ha,obs,h1]
   cases b with
   | false=>exact⟨_,rfl,fun b h=>(by cases h; rfl)⟩
   | true =>
    simp only[Bool.not_true,cond_false,zAy (show i<9223372036854775807 by omega)]
    exact⟨f,g1,g2⟩
  ·rw[zAx (by omega)]
   exact⟨_,rfl,fun b h=>by cases h⟩
theorem zWa (n:Nat) (hn:3000000<n) (l:List Rc) (hl:l.length<=1048576) (hb:∀ r∈l,RBul r):∀ (k i:Nat),l.length - i<k->zDz n l k (i:Int)=some (.ret false)∨(zDz n l k (i:Int)=some (.go ())/\∀ r∈l.drop i,RFew r)
 | 0,i,h=>by omega
 | k+1,i,h=>by
  unfold zDz
  by_cases hj:i<l.length
  ·have hr:=hb _ (List.getElem_mem hj)
   have ha:=zAv hj;have hd:=List.drop_eq_getElem_cons hj;have ih:=zWa n hn l hl hb k (i+1) (by omega)
   obtain⟨fl,e1,e2⟩:=zWb n (l[i]).1 (by omega) (by have:=hr.len; omega) n 0 (by have:=hr.len; omega)
   rw[show((0:Nat):Int)=0 from rfl]at e1;generalize l[i]=r at hr ha hd e1;have hr1:=hr.few;obtain⟨ops,⟨b1,b2⟩,⟨a1,a2⟩⟩:=r;dsimp only at e1 hr1;rw[zAB (Int.ofNat_lt.2 hj),cond_true]
   simp only[ha,obs]
   by_cases c:8<ops.length
   ·rw[zAB (by omega)]
    exact .inl rfl
   rw[zAx (by omega)]
   simp only[cond_false,obs]
   cases decide (200<(IntKind.i64.wrap ((IntKind.i64.wrap ((IntKind.i64.wrap ((b1.length:Int)+(b2.length:Int)))+(a1.length:Int)))+(a2.length:Int)))) with
   | true=>exact .inl rfl
   | false =>
    simp only[cond_false,e1,obs]
    cases fl with
    | ret b =>
     rw[e2 b rfl]
     exact .inl rfl
    | go u =>
     dsimp only;rw[zAy (show i<9223372036854775807 by omega)]
     rcases ih with ih | ⟨ih,ih2⟩
     ·exact .inl ih
     ·refine .inr ⟨ih,fun r hr=>?_⟩
      rw[hd]at hr;rcases List.mem_cons.1 hr with rfl | hr
      ·exact hr1 (by omega)
      ·exact ih2 r hr
  ·rw[zAx (by omega)]
   refine .inr ⟨rfl,fun r hr=>?_⟩
   rw[List.drop_eq_nil_iff.2 (by omega)]at hr;cases hr
theorem zXg (n:Nat) (hn:3000000<n) (d:Dc) (hb:DBul d):∃ y,zJs n d=some y/\(y=true->DFew d):=by
 have h1:=zWa n hn d.2.2.1 hb.len hb.recs n 0 (by have:=hb.len; omega)
 obtain⟨y,h2,h3⟩:=zXW n d.2.1 200 (by omega) (by omega)
 rw[show((200:Nat):Int)=200 from rfl]at h2;rw[show((0:Nat):Int)=0 from rfl,List.drop_zero]at h1;obtain⟨ti,⟨t1,t2,t3,t4⟩,rs,dn⟩:=d;unfold zJs;dsimp only at h1 h2 h3 ⊢;rcases h1 with h1 | ⟨h1,h4⟩
 ·rw[h1]
  exact⟨false,rfl,fun h=>by cases h⟩
 ·simp only[h1,h2,obs]
  cases y with
  | false=>exact⟨false,rfl,fun h=>by cases h⟩
  | true =>
   simp only[cond_true]
   by_cases c:(rs.length:Int)<=20
   ·rw[zAB c]
    exact⟨_,rfl,fun h=>⟨by have:=of_decide_eq_true h; dsimp only; omega,h3 rfl,by dsimp only; omega,h4⟩⟩
   ·rw[zAx c]
    exact⟨_,rfl,fun h=>by cases h⟩
structure RGo (n:Nat) (r:Rc):Prop where
 small:zRR r
 ref:∀ {t:Nd},zAz t=true->∃ u i e,zDk n t r.1=some (u,i,e)/\Runs t r.1 u e
theorem RFew.go {r:Rc} (h:RFew r) (n:Nat) (hn:200000000<n):RGo n r:=⟨h.small,fun hv=>h.ref n hn hv⟩
structure DGo (n:Nat) (d:Dc):Prop where
 len:d.2.2.1.length<=1000
 recs:∀ r∈d.2.2.1,RGo n r
theorem DFew.go {d:Dc} (h:DFew d) (n:Nat) (hn:200000000<n):DGo n d:=⟨by have:=h.len; omega,fun r hr=>(h.recs r hr).go n hn⟩
theorem zXq (o:Op8):zIj o<=zCS (zAn o):=by
 have h1:=Nd.ws_bulk o.2.2.2.2.1;have h2:=zEC .i64 o.2.1;unfold zIj;simp only[zAn,zCS,S.bulk,Op8.nodes,Op8.text,Op8.row]
 omega
theorem zYQ (r:Rc) (h:zCS (zAi r)<=1048576):RBul r:=by
 simp only[zAi,zCS,S.bulk]at h;have i1:=zEC .i64 r.2.1.1;have i2:=zEC .i64 r.2.1.2;have i3:=zEC .i64 r.2.2.1;have i4:=zEC .i64 r.2.2.2;have i5:=zYH (l:=r.1)
 refine⟨by omega,fun o ho=>?_,by omega,by omega,by omega,by omega⟩
 have h1:=zQZ (f:=zAn) ho;have h2:=zXq o
 omega
theorem zYr (d:Dc) (h:zCS (zAA d)<=1048576):DBul d:=by
 obtain⟨ti,t,rs,dn⟩:=d;have ha:=Nd.w_bulk t;obtain⟨y1,y2,y3,y4⟩:=t;simp only[zAA,zCS,S.bulk]at h;simp only[Nd.enc,zCS,S.bulk]at ha;have h1:=zLS (rows:=rs.map zAi) fun r hr=>by
  obtain⟨o,_,rfl⟩:=List.mem_map.1 hr;simp only[zAi,List.length_cons]
  omega
 rw[List.length_map]at h1;refine⟨?_,?_,?_,fun r hr=>zYQ r ?_⟩
 ·dsimp only; omega
 ·dsimp only; omega
 ·dsimp only; omega
 ·have:=zQZ (f:=zAi) hr;dsimp only at this
  omega
structure Trs (rs:List Rc) (ts:List Nd):Prop where
 len:ts.length=rs.length+1
 valid:∀ t∈ts,zAz t=true
 step:∀ (i:Nat) (r:Rc),rs[i]? = some r->∃ t u,ts[i]? = some t/\ts[i+1]? = some u/\Runs t r.1 u 0
theorem Trs.one {t:Nd} (h:zAz t=true):Trs [] [t]:=⟨rfl,fun u hu=>by rw[List.mem_singleton.1 hu]; exact h,fun i r h=>by simp at h⟩
theorem Trs.cons {rs:List Rc}{ts:List Nd}{r:Rc}{t u:Nd} (h:Trs rs ts) (hu:ts[0]? = some u) (hv:zAz t=true) (hr:Runs t r.1 u 0):Trs (r::rs) (t::ts):=by
 refine⟨by have:=h.len; simp only[List.length_cons]; omega,fun v hv'=>?_,fun i q hq=>?_⟩
 ·rcases List.mem_cons.1 hv' with rfl | hm
  ·exact hv
  ·exact h.valid v hm
 ·cases i with
  | zero =>
   obtain rfl:r=q :=(by simpa using hq);exact⟨t,u,rfl,hu,hr⟩
  | succ i=>exact h.step i q (by simpa using hq)
def zZk (t:Nd):Int×List UInt8×Int×List Nd:=(t.kind,t.text,t.cols,t.kids)
def verL (n:Nat) (rs:List Rc) (a:Int) (k:Nat) (t z:Nd) (i:Int):=zB4 n rs a k t.kind t.text t.cols t.kids z.kind z.text z.cols z.kids i
def valL (n:Nat) (rs:List Rc) (k:Nat) (t:Nd) (i:Int):=zFS n rs k t.kind t.text t.cols t.kids i
theorem zNr (n:Nat) (hn:200000000<n){rs:List Rc} (hl:rs.length<=1000) (hf:∀ r∈rs,RGo n r) (a:Int):∀ (k i:Nat) (t z:Nd),rs.length - i<k->i<=rs.length->zAz t=true ->
  (verL n rs a k t z (i:Int)=some (.ret (.mk 0 [] 0 [],false))/\valL n rs k t (i:Int)=some (.ret false)) ∨
  (valL n rs k t (i:Int)=some (.go ())/\∃ ts z',Trs (rs.drop i) ts/\ts[0]? = some t/\verL n rs a k t z (i:Int)=some (.go (zZk z'))/\(a<=(i:Int)->z'=z)/\(∀ m:Nat,0<m->a=((i+m:Nat):Int)->a<=(rs.length:Int)->ts[m]? = some z'))
 | 0,i,t,z,h,_,_=>by omega
 | k+1,i,t,z,h,hi,hv=>by
  unfold verL valL zB4 zFS
  by_cases hj:i<rs.length
  ·have hr:=hf _ (List.getElem_mem hj)
   have ha:=zAv hj;have hd:=List.drop_eq_getElem_cons hj;obtain⟨u,j,e,g1,g2,g3⟩:=hr.small.ops.apply n hn hv;obtain⟨u',j',e',q1,q2⟩:=hr.ref hv;obtain⟨rfl,rfl⟩:=g2.det q2;obtain⟨b1,p1,p2⟩:=zQr n hv (rs[i]).2.1 hn hr.small.b1 hr.small.b2;have hu:e=0->zAz u=true:=fun he=>by subst he; exact(g2.back hv).2
   have pt:e=0->∃ b2,zDh n u (rs[i]).2.2=some b2/\zF5 n u (rs[i]).2.2=some b2:=fun he=>zQr n (hu he) _ hn hr.small.a1 hr.small.a2
   have ih:=fun z' he=>zNr n hn hl hf a k (i+1) u z' (by omega) (by omega) (hu he)
   rw[zAB (Int.ofNat_lt.2 hj),cond_true,hd]
   simp only[ha]
   generalize rs[i]=r at *;obtain⟨ops,⟨c1,c2⟩,⟨c3,c4⟩⟩:=r;obtain⟨t1,t2,t3,t4⟩:=t;dsimp only at g1 q1 p1 p2 pt;simp only[Nd.kind,Nd.text,Nd.cols,Nd.kids,obs,g1,q1]
   by_cases he:e=0
   ·subst he;obtain⟨b2,p3,p4⟩:=pt rfl;have hu':=hu rfl;replace ih:=fun z'=>ih z' rfl
    unfold verL valL at ih;obtain⟨u1,u2,u3,u4⟩:=u;simp only[Nd.kind,Nd.text,Nd.cols,Nd.kids]at ih;simp only[show((0:Int) != 0)=false from rfl,cond_false,p1,p2,p3,p4,obs]
    cases b1 with
    | false=>exact .inl ⟨rfl,rfl⟩
    | true =>
     cases b2 with
     | false=>exact .inl ⟨rfl,rfl⟩
     | true =>
      simp only[Bool.not_true,cond_false,obs,zAy (show i<9223372036854775807 by omega)]
      by_cases hai:(((i+1:Nat):Int))=a
      ·have e1:((((i+1:Nat):Int)) == a)=true:=beq_iff_eq.2 hai;simp only[e1,cond_true,obs]
       rcases ih (.mk u1 u2 u3 u4) with ih | ⟨h1,ts,z',h2,h3,h4,h5,h6⟩
       ·exact .inl ih
       ·refine .inr ⟨h1,_,z',h2.cons h3 hv g2,rfl,h4,fun h=>by omega,fun m hm ham hal=>?_⟩
        obtain rfl:m=1 :=(by omega);rw[h5 (by omega)]
        exact h3
      ·have e1:((((i+1:Nat):Int)) == a)=false:=beq_eq_false_iff_ne.2 hai;simp only[e1,cond_false,obs]
       rcases ih z with ih | ⟨h1,ts,z',h2,h3,h4,h5,h6⟩
       ·exact .inl ih
       ·refine .inr ⟨h1,_,z',h2.cons h3 hv g2,rfl,h4,fun h=>h5 (by omega),fun m hm ham hal=>?_⟩
        obtain⟨m,rfl⟩:∃ j,m=j+1:=⟨m - 1,by omega⟩
        exact h6 m (by omega) (by omega) hal
   ·have hne:(e != 0)=true:=bne_iff_ne.2 he;obtain⟨u1,u2,u3,u4⟩:=u;simp only[hne,cond_true,obs]
    exact .inl ⟨trivial,trivial⟩
  ·rw[zAx (by omega),List.drop_eq_nil_iff.2 (by omega)]
   exact .inr ⟨rfl,[t],z,Trs.one hv,rfl,rfl,fun _=>rfl,fun m hm ham hal=>by omega⟩
theorem zQI (n:Nat) (hn:200000000<n){d:Dc} (hb:DBul d) (hf:DGo n d) :
  (zHa n d=some false/\∀ a,zDi n d a=some (.mk 0 [] 0 [],false)) ∨
  (zHa n d=some true/\zAz d.2.1=true/\d.2.2.1.length<=1000/\(∃ j:Nat,d.2.2.2=(j:Int)/\j<=d.2.2.1.length)/\∃ ts,Trs d.2.2.1 ts/\ts[0]? = some d.2.1 /\
   ∀ a,∃ z,zDi n d a=some (z,true)/\(∀ m:Nat,a=(m:Int)->m<=d.2.2.1.length->ts[m]? = some z)):=by
 have k1:=hb.title;have k2:=hf.len;have k3:=hb.tree;have t1:=zWX n d.1 (by omega) (by omega)
 have t2:=zIT n d.1 (by omega) (by omega)
 have v1:=zDa n d.2.1 (by omega) (by omega)
 have v2:=zEi n d.2.1 (by omega) (by omega)
 have lp:=fun a hv=>zNr n hn (rs:=d.2.2.1) (by omega) hf.recs a n 0 d.2.1 d.2.1 (by omega) (Nat.zero_le _) hv
 have hc:=fun hv:zAz d.2.1=true=>zVC hv
 obtain⟨ti,t,rs,dn⟩:=d;dsimp only at *;unfold zDi zHa
 by_cases c1:200<ti.length
 ·refine .inl ⟨?_,fun a=>?_⟩
  ·obtain⟨q1,q2,q3,q4⟩:=t;dsimp only;rw[zAB (by omega)]; rfl
  ·obtain⟨q1,q2,q3,q4⟩:=t;dsimp only;rw[t1,zAx (by omega),Bool.and_false]; rfl
 cases c2:ti.all zFu with
 | false =>
  rw[c2]at t1 t2;refine .inl ⟨?_,fun a=>?_⟩
  ·obtain⟨q1,q2,q3,q4⟩:=t;dsimp only;rw[zAx (by omega),t2]; rfl
  ·obtain⟨q1,q2,q3,q4⟩:=t;dsimp only;rw[t1,Bool.false_and]; rfl
 | true =>
  rw[c2]at t1 t2;rw[zAB (by omega),Bool.and_true]at t1;cases c3:zAz t with
  | false =>
   rw[c3]at v1 v2;obtain⟨q1,q2,q3,q4⟩:=t;refine .inl ⟨?_,fun a=>?_⟩
   ·dsimp only;rw[zAx (by omega),t2]
    simp only[cond_false,obs,Bool.not_true,v2]; rfl
   ·dsimp only;simp only[t1,cond_false,obs,Bool.not_true,v1]; rfl
  | true =>
   rw[c3]at v1 v2;have hc':=hc c3;replace lp:=fun a=>lp a c3
   unfold verL valL zZk at lp;obtain⟨q1,q2,q3,q4⟩:=t;simp only[Nd.kind,Nd.text,Nd.cols,Nd.kids]at lp;rw[show((0:Nat):Int)=0 from rfl]at lp;simp only[t1,t2,v1,v2,cond_false,obs,Bool.not_true,hc',zAx (show ¬ (200<(ti.length:Int)) by omega),zAx (show ¬ (1000<(rs.length:Int)) by omega)]
   by_cases c4:dn<0
   ·simp only[zAB c4,cond_true,obs]
    exact .inl ⟨trivial,fun _=>trivial⟩
   by_cases c5:(rs.length:Int)<dn
   ·simp only[zAx c4,zAB c5,cond_true,cond_false,obs]
    exact .inl ⟨trivial,fun _=>trivial⟩
   simp only[zAx c4,zAx c5,cond_false,obs]
   rcases lp 0 with ⟨_,h0⟩ | ⟨h0,ts,_,g1,g2,_⟩
   ·refine .inl ⟨by rw[h0]; rfl,fun a=>?_⟩
    rcases lp a with ⟨h1,_⟩ | ⟨h1,_⟩
    ·rw[h1]; rfl
    ·rw[h0]at h1; cases h1
   ·rw[List.drop_zero]at g1;refine .inr ⟨by rw[h0]; rfl,trivial,by omega,⟨dn.toNat,by omega,by omega⟩,ts,g1,g2,fun a=>?_⟩
    rcases lp a with ⟨_,h1⟩ | ⟨_,ts',z,k1,k2,k3,k4,k5⟩
    ·rw[h0]at h1; cases h1
    ·rw[List.drop_zero]at k1;have hts:ts'=ts:=by
      apply List.ext_getElem?
      intro i
      induction i with
      | zero=>rw[g2,k2]
      | succ i ih =>
       by_cases hi:i<rs.length
       ·obtain⟨x,y,x1,x2,x3⟩:=g1.step i _ (List.getElem?_eq_getElem hi)
        obtain⟨x',y',y1,y2,y3⟩:=k1.step i _ (List.getElem?_eq_getElem hi)
        rw[x1,y1]at ih;obtain rfl:=Option.some.inj ih;obtain⟨rfl,_⟩:=x3.det y3;rw[x2,y2]
       ·have:=g1.len;have:=k1.len;rw[List.getElem?_eq_none (by omega),List.getElem?_eq_none (by omega)]
     subst hts;obtain⟨z1,z2,z3,z4⟩:=z;refine⟨.mk z1 z2 z3 z4,by rw[k3]; rfl,fun m ha hm=>?_⟩
     by_cases hm0:m=0
     ·subst hm0;rw[k4 (by omega)]
      exact k2
     ·exact k5 m (by omega) (by omega) (by omega)
theorem zLt (n:Nat){d:Dc}{z:Nd}{b:Bool} (h:zDi n d 0=some (z,b)):zCA n d=some b:=by
 obtain⟨ti,⟨q1,q2,q3,q4⟩,rs,dn⟩:=d;obtain⟨z1,z2,z3,z4⟩:=z;unfold zCA;simp only[h,obs]
theorem zO9 (n:Nat) (hn:200000000<n){rs:List Rc} (hf:∀ r∈rs,RFew r) (hl:rs.length<=1000):∀ (k i:Nat),rs.length - i<k->zAZ n rs rs k (i:Int)=some (.go ())
 | 0,i,h=>by omega
 | k+1,i,h=>by
  unfold zAZ
  by_cases hj:i<rs.length
  ·have h1:=zVL n hn (hf _ (List.getElem_mem hj))
   have ha:=zAv hj;have ih:=zO9 n hn hf hl k (i+1) (by omega)
   generalize rs[i]=r at h1 ha;obtain⟨r1,⟨r2,r3⟩,⟨r4,r5⟩⟩:=r;rw[zAB (Int.ofNat_lt.2 hj),cond_true]
   simp only[ha,obs,h1,Bool.not_true,cond_false]
   rw[zAy (by omega)]
   exact ih
  ·rw[zAx (by omega)]
   rfl
theorem zVM (n:Nat) (hn:200000000<n){d:Dc} (hv:zAz d.2.1=true) (hf:∀ r∈d.2.2.1,RFew r) (hl:d.2.2.1.length<=1000):zDt n d d=some true:=by
 have q:=zVK n hv hn;have lp:=zO9 n hn hf hl n 0 (by omega)
 rw[show((0:Nat):Int)=0 from rfl]at lp;obtain⟨ti,⟨q1,q2,q3,q4⟩,rs,dn⟩:=d;dsimp only at q lp;unfold zDt zDu;simp only[beq_self_eq_true,cond_true,q,obs,bne_self_eq_false,cond_false,lp]
mutual
def CV.eqv:CV->CV->Bool
 | .mk k n t vs,.mk k' n' t' vs'=>(k == k')&&(n == n')&&(t == t')&&CV.eqvs vs vs'
def CV.eqvs:List CV->List CV->Bool
 | [],[]=>true
 | v::vs,u::us=>v.eqv u&&CV.eqvs vs us
 | _,_=>false
end
theorem CV.eqvs_len:∀ {a b:List CV},a.length ≠ b.length->CV.eqvs a b=false
 | [],[],h=>absurd rfl h
 | [],_::_,_=>rfl
 | _::_,[],_=>rfl
 | v::a,u::b,h=>by simp only[CV.eqvs]; rw[CV.eqvs_len (by simpa using h)]; simp
mutual
theorem CV.eqv_self:∀ (v:CV),v.eqv v=true
 | .mk k n t vs=>by simp[CV.eqv,CV.eqvs_self vs]
theorem CV.eqvs_self:∀ (vs:List CV),CV.eqvs vs vs=true
 | []=>rfl
 | v::vs=>by simp[CV.eqvs,CV.eqv_self v,CV.eqvs_self vs]
end
theorem zHx {F:CV->CV->Option Bool}{vs us:List CV} (hl:vs.length<=16777216):∀ (r s:List CV) (i k:Nat),vs.drop i=r->us.drop i=s->r.length=s.length->r.length<k->(∀ v∈r,∀ u∈s,F v u=some (v.eqv u))->zDW F vs us k i=some (bif CV.eqvs r s then .go () else .ret false)
 | _,_,_,0,_,_,_,h,_=>by omega
 | [],[],i,k+1,h,_,_,_,_=>by rw[zDW,zNO h]; rfl
 | [],_::_,_,_,_,_,h,_,_=>by simp at h
 | _::_,[],_,_,_,_,h,_,_=>by simp at h
 | ⟨a,b,c,d⟩::r,⟨a',b',c',d'⟩::s,i,k+1,h,h',hls,hk,hF=>by
  have hi:=zJf h;rw[zDW,zRa h,cond_true,zKY h,zKY h']
  simp only[obs,hF ⟨a,b,c,d⟩ List.mem_cons_self ⟨a',b',c',d'⟩ List.mem_cons_self]
  cases hs:(CV.mk a b c d).eqv ⟨a',b',c',d'⟩ with
  | false=>simp[CV.eqvs,hs]
  | true =>
   rw[zAy (by omega),zHx hl r s (i+1) k (zK1 h) (zK1 h') (by simpa using hls) (by simpa using hk) (fun v hv u hu=>hF v (List.mem_cons_of_mem _ hv) u (List.mem_cons_of_mem _ hu))]
   simp[CV.eqvs,hs]
theorem zJd:∀ (n:Nat) (v u:CV),v.w<n->v.w<=16777216->zFE n v u=some (v.eqv u)
 | 0,_,_,h,_=>by omega
 | n+1,⟨a,b,c,d⟩,⟨a',b',c',d'⟩,h,hb=>by
  simp only[CV.w]at h hb;have hl:=CV.ws_len d;have key:d.length=d'.length->zDW (zFE n) d d' n 0=some (bif CV.eqvs d d' then .go () else .ret false):=fun h4 =>
   zHx (F:=zFE n) (vs:=d) (us:=d') (by omega) d d' 0 n rfl rfl h4 (by omega) fun v hv u _=>zJd n v u (by have:=CV.w_mem hv; omega) (by have:=CV.w_mem hv; omega)
  rw[zFE,CV.eqv]
  simp only[bne]
  cases a == a' with
  | false=>rfl
  | true =>
  cases b == b' with
  | false=>rfl
  | true =>
  cases c == c' with
  | false=>rfl
  | true =>
  by_cases h4:d.length=d'.length
  ·have h5:((d.length:Int) == (d'.length:Int))=true :=(by simp[h4]);rw[h5,key h4]
   cases CV.eqvs d d' <;> rfl
  ·have h5:((d.length:Int) == (d'.length:Int))=false:=by
    rw[beq_eq_false_iff_ne]; omega
   rw[h5,CV.eqvs_len h4]
   rfl
theorem w8 {n:Int} (h0:0<=n) (h1:n<256):IntKind.u8.wrap n=n:=by
 have:IntKind.u8.wrap n=n % 256:=by
  simp only[IntKind.wrap,IntKind.bits,IntKind.signed]
  simp
 rw[this]; omega
theorem w8' (n:Int):IntKind.u8.wrap n=n % 256:=by
 simp only[IntKind.wrap,IntKind.bits,IntKind.signed]
 simp
def zig (i:Int):Nat:=if i<0 then (2 * (-(i+1))+1).toNat else (2 * i).toNat
def CV.num:CV->Nat
 | .mk k i t l=>if k=2 then t.length else if k=3 then l.length else zig i
theorem zZE {i:Int} (h:zIX i):zig i<18446744073709551616:=by
 obtain⟨h0,h1⟩:=h;unfold zig; split <;> omega
theorem CV.num_lt {v:CV} (hr:v.rng) (hw:v.w<=1000000000000):v.num<18446744073709551616:=by
 obtain⟨k,i,t,l⟩:=v;have:=CV.ws_len l;simp only[CV.w]at hw;have:=zZE hr.2.1;simp only[CV.num]
 split
 ·omega
 ·split <;> omega
theorem zLU {v:CV} (hr:v.rng) (hw:v.w<=16777216):zEF v=some (v.num:Int):=by
 obtain⟨k,i,t,l⟩:=v;have hl:=CV.ws_len l;simp only[CV.w]at hw;obtain⟨_,⟨h0,h1⟩,_⟩:=hr;rw[zEF,CV.num]
 by_cases h2:k=2
 ·subst h2;rw[if_pos rfl,show((2:Int) == 2)=true from rfl,cond_true,zB8 (by omega) (by omega)]
 ·have e2:(k == 2)=false :=(by simpa using h2);rw[if_neg h2,e2,cond_false]
  by_cases h3:k=3
  ·subst h3;rw[if_pos rfl,show((3:Int) == 3)=true from rfl,cond_true,zB8 (by omega) (by omega)]
  ·have e3:(k == 3)=false :=(by simpa using h3);rw[if_neg h3,e3,cond_false,zig]
   by_cases h4:i<0
   ·rw[if_pos h4,decide_eq_true h4,cond_true,wrap64_in (n:=i+1) (by omega) (by omega),wrap64_in (by omega) (by omega),zB8 (n:=0 - (i+1)) (by omega) (by omega),
     zB8 (n:=2 * (0 - (i+1))) (by omega) (by omega),zB8 (by omega) (by omega)]
    congr 1; omega
   ·rw[if_neg h4,decide_eq_false h4,cond_false,zB8 (n:=i) (by omega) (by omega),zB8 (by omega) (by omega)]
    congr 1; omega
def blen (n:Nat):Nat:=if n<256 then 1 else blen (n / 256)+1
termination_by n
decreasing_by omega
theorem zH2 {n:Nat} (h:n<256):blen n=1:=by rw[blen,if_pos h]
theorem zNK {n:Nat} (h:256<=n):blen n=blen (n / 256)+1:=by rw[blen,if_neg (by omega)]
theorem zQY (n:Nat):1<=blen n:=by rw[blen]; split <;> omega
theorem zTv:∀ (n:Nat),n<256 ^ blen n:=by
 intro n
 induction n using Nat.strongRecOn with
 | _ n ih =>
  by_cases h:n<256
  ·rw[zH2 h]; omega
  ·have:=ih (n / 256) (by omega)
   rw[zNK (by omega),Nat.pow_succ]; omega
theorem zVT:∀ (n:Nat),1<=n->256 ^ (blen n - 1)<=n:=by
 intro n
 induction n using Nat.strongRecOn with
 | _ n ih =>
  intro h1
  by_cases h:n<256
  ·rw[zH2 h]; simp; omega
  ·have h2:=ih (n / 256) (by omega) (by omega)
   have h3:=zQY (n / 256)
   rw[zNK (by omega),Nat.add_sub_cancel]
   have e:256 ^ blen (n / 256)=256 ^ (blen (n / 256) - 1) * 256:=by
    rw[← Nat.pow_succ]; congr 1; omega
   rw[e]
   have:=Nat.mul_le_mul_right 256 h2
   omega
theorem zTu {n k:Nat} (hk:1<=k) (h:n<256 ^ k):blen n<=k:=by
 by_cases h0:n=0
 ·subst h0; rw[zH2 (by omega)]; exact hk
 ·have h1:=zVT n (by omega)
  have h2:blen n - 1<k:=(Nat.pow_lt_pow_iff_right (a:=256) (by omega)).1 (Nat.lt_of_le_of_lt h1 h)
  omega
theorem zVS {n k:Nat} (hk:1<=k) (h:n<256 ^ k) (h':256 ^ (k - 1)<=n):blen n=k:=by
 have h1:=zTu hk h;have h2:=zTv n;have h3:k - 1<blen n:=(Nat.pow_lt_pow_iff_right (a:=256) (by omega)).1 (Nat.lt_of_le_of_lt h' h2)
 omega
theorem zYf {n:Nat} (h:n<18446744073709551616):blen n<=8:=zTu (by omega) (by simpa using h)
theorem zPa (n i:Nat) (h:i<=64):((n:Int).fdiv (2 ^ (min (i:Int).toNat IntKind.u64.bits)))=((n / 2 ^ i:Nat):Int):=by
 have e:min (i:Int).toNat IntKind.u64.bits=i :=(by show min (i:Int).toNat 64=i; omega);rw[e,Int.fdiv_eq_ediv_of_nonneg _ (by exact_mod_cast Nat.zero_le _)]
 push_cast
 rfl
theorem zGX {n m:Nat} (hn:10<=n) (h:m<18446744073709551616):zDq n (m:Int)=some (blen m:Int):=by
 obtain⟨f,rfl⟩:∃ f,n=f+9:=⟨n - 9,by omega⟩
 have e8:=zPa m 8 (by omega)
 rw[show((8:Nat):Int)=8 from rfl,show(2:Nat) ^ 8=256 from rfl]at e8;rw[zDq,e8]
 have key:∀ (g x c:Nat),x<256 ^ 8->c<100->zBe (g+9) (x:Int) (c:Int)=some ((c+(if x=0 then 0 else blen x):Nat):Int):=by
  intro g;have:∀ (d a x c:Nat),x<256 ^ d->c+d<1000->zBe (a+d+1) (x:Int) (c:Int)=some ((c+(if x=0 then 0 else blen x):Nat):Int):=by
   intro d
   induction d with
   | zero =>
    intro a x c hx hc;have:x=0 :=(by simpa using hx);subst this;rw[zBe]; simp
   | succ d ih =>
    intro a x c hx hc;rw[zBe]
    by_cases h0:x=0
    ·subst h0; simp
    ·have e:((x:Int) != 0)=true :=(by simpa using h0);have e8:=zPa x 8 (by omega)
     rw[show((8:Nat):Int)=8 from rfl,show(2:Nat) ^ 8=256 from rfl]at e8;rw[e,cond_true,if_neg h0,e8,wrap64_in (by omega) (by omega),show((c:Int)+1)=((c+1:Nat):Int) by omega,show a+(d+1)=a+d+1 by omega]
     rw[ih a (x / 256) (c+1) (by rw[Nat.pow_succ]at hx; omega) (by omega)]
     congr 1
     by_cases hs:x<256
     ·rw[zH2 (n:=x) hs,if_pos (by omega)]
     ·rw[zNK (n:=x) (by omega),if_neg (by omega)]; omega
  intro x c hx hc;exact this 8 g x c hx (by omega)
 have:=key f (m / 256) 1 (by omega) (by omega)
 rw[show((1:Nat):Int)=1 from rfl]at this;rw[this,obs]
 congr 1
 by_cases hs:m<256
 ·rw[zH2 (n:=m) hs,if_pos (by omega)]
 ·rw[zNK (n:=m) (by omega),if_neg (by omega)]; omega
def dig (i n:Nat):UInt8:=UInt8.ofNat (n / 256 ^ i)
def beK:Nat->Nat->List UInt8
 | 0,_=>[]
 | i+1,n=>dig i n::beK i n
theorem zDp:∀ (k n:Nat),(beK k n).length=k
 | 0,_=>rfl
 | k+1,n=>by simp[beK,zDp k n]
theorem zNJ (m:Nat):b8of (IntKind.u8.wrap (m:Int))=UInt8.ofNat m:=by
 rw[w8']
 apply UInt8.toNat_inj.1
 have e:((m:Int) % 256).toNat=m % 256 :=(by omega);simp[b8of,e,UInt8.toNat_ofNat']
def CV.head (v:CV):List UInt8 :=
 match v with
 | .mk k i t l=>if v.num<56 then [UInt8.ofNat (64 * k.toNat+v.num)] else UInt8.ofNat (64 * k.toNat+55+blen v.num)::beK (blen v.num) v.num
def zZo (k:Int):Prop:=k=1∨k=2∨k=3
theorem CV.head_len (v:CV) (hr:v.rng) (hw:v.w<=16777216):v.head.length<=9:=by
 have:=zYf (CV.num_lt hr (Nat.le_trans hw (by decide)))
 cases v;simp only[CV.head]; split
 ·simp
 ·simp[zDp]; exact this
theorem zGZ {y:Nat}:∀ (i:Nat) (k:Nat) (l:List UInt8),i<=8->i<k->l.length+i<=4294967296->zCa (y:Int) k ((i:Int) - 1) l=some (l++beK i y)
 | 0,k+1,l,_,_,_=>by
  rw[zCa]; simp[beK]
 | i+1,k+1,l,h8,hk,hl=>by
  have e:((i+1:Nat):Int) - 1=(i:Int) :=(by omega);have e1:IntKind.i64.wrap (8 * (i:Int))=((8 * i:Nat):Int) :=(by rw[wrap64_in (by omega) (by omega)]; omega);have e2:=zPa y (8 * i) (by omega)
  rw[zCa,e,decide_eq_true (by omega:(0:Int)<=i),cond_true,e1,zAK (by omega),e2,zNJ,zAK (by simp; omega),wrap64_in (n:=(i:Int) - 1) (by omega) (by omega),
   zGZ i k _ (by omega) (by omega) (by simp; omega),beK,dig,Nat.pow_mul]
  simp
theorem zNz {n:Nat}{b:List UInt8}{v:CV} (hn:20<=n) (hr:v.rng) (hw:v.w<=16777216) (hk:zZo (match v with | .mk k _ _ _=>k)) (hb:b.length<=4294967000):zFZ n b v=some (b++v.head):=by
 have h39:=zLU hr hw;have hlt:=CV.num_lt hr (Nat.le_trans hw (by decide))
 obtain⟨k,i,t,l⟩:=v;rw[zFZ,h39,obs,CV.head]
 generalize (CV.mk k i t l).num=y at *;simp only at hk;obtain⟨q,hq,rfl⟩:∃ q:Nat,q<=3/\k=(q:Int):=by
  rcases hk with rfl | rfl | rfl
  ·exact⟨1,by omega,rfl⟩
  ·exact⟨2,by omega,rfl⟩
  ·exact⟨3,by omega,rfl⟩
 by_cases h:y<56
 ·have e:IntKind.u8.wrap (IntKind.i64.wrap (64 * (q:Int)))+IntKind.u8.wrap (y:Int)=((64 * q+y:Nat):Int):=by
   rw[wrap64_in (by omega) (by omega),w8 (by omega) (by omega),w8 (by omega) (by omega)]; omega
  rw[decide_eq_true (by omega:(y:Int)<56),cond_true,e,zNJ,zAK (by simp; omega),if_pos h]
  rfl
 ·have h8:=zYf hlt;have hp:=zQY y;rw[decide_eq_false (by omega:¬ (y:Int)<56),cond_false,zGX (by omega) hlt,obs,if_neg h]
  have e:IntKind.i64.wrap (IntKind.i64.wrap (IntKind.i64.wrap (IntKind.i64.wrap (64 * (q:Int))+56) - 1)+(blen y:Int))=((64 * q+55+blen y:Nat):Int):=by
   rw[wrap64_in (n:=64 * (q:Int)) (by omega) (by omega),wrap64_in (n:=64 * (q:Int)+56) (by omega) (by omega),wrap64_in (n:=64 * (q:Int)+56 - 1) (by omega) (by omega),wrap64_in (by omega) (by omega)]; omega
  rw[e,zNJ,zAK (by simp; omega),wrap64_in (n:=(blen y:Int) - 1) (by omega) (by omega),zGZ (blen y) n _ h8 (by omega) (by simp; omega)]
  simp
mutual
def CV.code:CV->List UInt8
 | .mk k i t l=>(CV.mk k i t l).head++t++CV.codes l
def CV.codes:List CV->List UInt8
 | []=>[]
 | v::vs=>v.code++CV.codes vs
end
def CV.own (k i:Int) (t:List UInt8) (l:List CV):Bool:=(k == 1&&t == []&&l.isEmpty)||(k == 2&&i == 0&&l.isEmpty)||(k == 3&&i == 0&&t == [])
mutual
def CV.proper:CV->Bool
 | .mk k i t l=>CV.own k i t l&&CV.propers l
def CV.propers:List CV->Bool
 | []=>true
 | v::vs=>v.proper&&CV.propers vs
end
mutual
def CV.depth:CV->Nat
 | .mk k i t l=>if k=3 then CV.depths l+1 else 1
def CV.depths:List CV->Nat
 | []=>0
 | v::vs=>max v.depth (CV.depths vs)
end
theorem CV.depth_pos (v:CV):1<=v.depth:=by cases v; simp only[CV.depth]; split <;> omega
theorem CV.propers_mem:∀ {l:List CV}{v:CV},CV.propers l=true->v∈l->v.proper=true
 | u::l,v,h,hm=>by
  simp only[CV.propers,Bool.and_eq_true]at h;rcases List.mem_cons.1 hm with rfl | hm
  ·exact h.1
  ·exact CV.propers_mem h.2 hm
theorem zTS {k i:Int}{t:List UInt8}{l:List CV} (h:(CV.mk k i t l).proper=true):zZo k:=by
 simp only[CV.proper,CV.own,Bool.and_eq_true,Bool.or_eq_true,beq_iff_eq]at h;rcases h.1 with (⟨⟨h,_⟩,_⟩ | ⟨⟨h,_⟩,_⟩) | ⟨⟨h,_⟩,_⟩
 ·exact .inl h
 ·exact .inr (.inl h)
 ·exact .inr (.inr h)
mutual
theorem CV.code_len:∀ (v:CV),v.rng->v.w<=16777216->v.code.length<=10 * v.w
 | .mk k i t l,hr,hw=>by
  have h1:=CV.head_len (.mk k i t l) hr hw
  have h2:=CV.codes_len l hr.2.2 (by simp only[CV.w]at hw; omega)
  simp only[CV.code,CV.w,List.length_append]; omega
theorem CV.codes_len:∀ (l:List CV),CV.rngs l->CV.ws l<=16777216->(CV.codes l).length<=10 * CV.ws l
 | [],_,_=>by simp[CV.codes]
 | v::vs,hr,hw=>by
  simp only[CV.ws]at hw
  have h1:=CV.code_len v hr.1 (by omega)
  have h2:=CV.codes_len vs hr.2 (by omega)
  simp only[CV.codes,CV.ws,List.length_append]; omega
end
def Enc (b b' c:List UInt8):Prop:=(b.length+c.length<=1048576->b'=b++c)/\(1048576<b.length+c.length->1048576<b'.length)/\b'.length<=b.length+c.length
theorem zFs {F:List UInt8->CV->Option (List UInt8)}{vs:List CV} (hl:vs.length<=16777216):∀ (r:List CV) (i k:Nat) (b:List UInt8),vs.drop i=r->r.length<k->b.length+(CV.codes r).length<=4000000000 ->
  (∀ v∈r,∀ b,b.length<=1048576->∃ b',F b v=some b'/\Enc b b' v.code)->∃ z b',zBr F vs k i b=some z/\(z = .ret b'∨z = .go b')/\Enc b b' (CV.codes r)
 | _,_,0,_,_,h,_,_=>by omega
 | [],i,k+1,b,h,_,_,_=>⟨.go b,b,by rw[zBr,zNO h]; rfl,.inr rfl,by simp[CV.codes],by simp[CV.codes],by simp[CV.codes]⟩
 | ⟨a,b0,c,d⟩::r,i,k+1,b,h,hk,hb,hF=>by
  have hi:=zJf h;rw[zBr,zRa h,cond_true]
  by_cases hm:1048576<b.length
  ·rw[decide_eq_true (by omega:(1048576:Int)<b.length)]
   exact⟨.ret b,b,rfl,.inl rfl,fun h=>by omega,fun _=>hm,by omega⟩
  ·rw[decide_eq_false (by omega:¬ (1048576:Int)<b.length),cond_false,zKY h]
   simp only[obs]
   obtain⟨b1,h1,e1,e2,e3⟩:=hF ⟨a,b0,c,d⟩ List.mem_cons_self b (by omega)
   simp only[CV.codes,List.length_append]at hb;obtain⟨z,b',g1,g2,g3,g4,g5⟩:=zFs hl r (i+1) k b1 (zK1 h) (by simpa using hk) (by omega) (fun v hv=>hF v (List.mem_cons_of_mem _ hv))
   refine⟨z,b',by rw[h1,obs,zAy (by omega)]; exact g1,g2,fun hs=>?_,fun hs=>?_,?_⟩
   ·simp only[CV.codes,List.length_append]at hs;have:=e1 (by omega)
    subst this;rw[g3 (by rw[List.length_append]; omega)]
    simp[CV.codes]
   ·simp only[CV.codes,List.length_append]at hs
    by_cases hx:b.length+(CV.mk a b0 c d).code.length<=1048576
    ·have:=e1 hx;subst this;exact g4 (by rw[List.length_append]; omega)
    ·have:=e2 (by omega)
     exact g4 (by omega)
   ·simp only[CV.codes,List.length_append]; omega
theorem zGY:∀ (n:Nat) (v:CV) (b:List UInt8),v.w+20<n->v.w<=16777216->v.rng->v.proper=true->b.length<=1048576->∃ b',zBz n b v=some b'/\Enc b b' v.code
 | 0,_,_,h,_,_,_,_=>by omega
 | n+1,⟨a,i,t,d⟩,b,hn,hw,hr,hp,hb=>by
  have hlc:=CV.code_len _ hr hw;have hh:=zNz (n:=n) (b:=b) (v:=⟨a,i,t,d⟩) (by omega) hr hw (zTS hp) (by omega)
  have h9:=CV.head_len _ hr hw;have hw':=hw;simp only[CV.w]at hw hn;have hl:=CV.ws_len d;simp only[CV.code,List.length_append,CV.w]at hlc;have hpd:CV.propers d=true:=by simp only[CV.proper,Bool.and_eq_true]at hp; exact hp.2
  by_cases htl:1048576<t.length
  ·rw[zBz,hh,obs,decide_eq_true (by omega:(1048576:Int)<t.length),cond_true,zAK (by omega),zAK (by simp only[List.length_append,List.length_drop,List.length_take]; omega)]
   refine⟨_,rfl,fun hs=>?_,fun _=>?_,?_⟩
   ·simp only[CV.code,List.length_append]at hs; omega
   ·simp only[List.length_append,List.length_drop,List.length_take]; omega
   ·simp only[CV.code,List.length_append,List.length_drop,List.length_take]; omega
  rw[zBz,hh,obs,decide_eq_false (by omega:¬ (1048576:Int)<t.length),cond_false,zAK (by rw[List.length_append]; omega)]
  obtain⟨z,b',g1,g2,g3,g4,g5⟩:=zFs (F:=zBz n) (vs:=d) (by omega) d 0 n (b++(CV.mk a i t d).head++t) rfl (by omega) (by rw[List.length_append,List.length_append]; omega)
   fun v hv b hb=>zGY n v b (by have:=CV.w_mem hv; omega) (by have:=CV.w_mem hv; omega) (CV.rng_mem hr.2.2 hv) (CV.propers_mem hpd hv) hb
  refine⟨b',?_,fun hs=>?_,fun hs=>?_,?_⟩
  ·have:zBr (zBz n) d n 0 (b++(CV.mk a i t d).head++t)=some z:=g1;rw[this,obs]
   rcases g2 with rfl | rfl <;> rfl
  ·simp only[CV.code,List.length_append]at hs;rw[g3 (by simp only[List.length_append]; omega)]
   simp[CV.code]
  ·simp only[CV.code,List.length_append]at hs;exact g4 (by simp only[List.length_append]; omega)
  ·simp only[CV.code,List.length_append]at g5 ⊢
   omega
def okAt (v:CV) (e:Int):Bool:=v.proper&&decide ((v.depth:Int)+e<=65)
def zPF (l:List CV) (e:Int):Bool:=CV.propers l&&decide ((CV.depths l:Int)+e<=65)
theorem zVj (v:CV) (l:List CV) (e:Int):zPF (v::l) e=(okAt v e&&zPF l e):=by
 have:decide ((max v.depth (CV.depths l):Nat)+e<=65)=(decide ((v.depth:Int)+e<=65)&&decide ((CV.depths l:Int)+e<=65)):=by
  rw[← Bool.decide_and]; congr 1; apply propext; omega
 simp only[zPF,okAt,CV.propers,CV.depths]
 cases v.proper <;> cases CV.propers l <;> simp <;> exact this
theorem zGl {F:CV->Int->Option Bool}{vs:List CV}{e:Int} (he:0<=e/\e<=64) (hl:vs.length<=16777216):∀ (r:List CV) (i k:Nat),vs.drop i=r->r.length<k->(∀ v∈r,F v (e+1)=some (okAt v (e+1))) ->
  zBF F vs e k i=some (bif zPF r (e+1) then .go () else .ret false)
 | _,_,0,_,h,_=>by omega
 | [],i,k+1,h,_,_=>by
  rw[zBF,zNO h,cond_false]
  have:zPF [] (e+1)=true :=(by simp[zPF,CV.propers,CV.depths]; omega);rw[this]; rfl
 | ⟨a,b,c,d⟩::r,i,k+1,h,hk,hF=>by
  have hi:=zJf h;rw[zBF,zRa h,cond_true,zKY h,wrap64_in (n:=e+1) (by omega) (by omega)]
  simp only[obs,hF ⟨a,b,c,d⟩ List.mem_cons_self]
  rw[zVj]
  cases okAt ⟨a,b,c,d⟩ (e+1) with
  | false=>rfl
  | true =>
   rw[zAy (by omega),zGl he hl r (i+1) k (zK1 h) (by simpa using hk) (fun v hv=>hF v (List.mem_cons_of_mem _ hv))]
   rfl
theorem zH5:∀ (n:Nat) (v:CV) (e:Int),v.w<n->v.w<=16777216->1<=e->e<=65->zCy n v e=some (okAt v e)
 | 0,_,_,h,_,_,_=>by omega
 | n+1,⟨k,i,t,l⟩,e,h,hb,he,he'=>by
  simp only[CV.w]at h hb;have hl:=CV.ws_len l;rw[zCy]
  by_cases h64:64<e
  ·rw[decide_eq_true h64,cond_true]
   have hp:=CV.depth_pos ⟨k,i,t,l⟩
   have:okAt ⟨k,i,t,l⟩ e=false:=by
    simp only[okAt,Bool.and_eq_false_iff,decide_eq_false_iff_not]; right; omega
   rw[this]
  ·rw[decide_eq_false h64,cond_false]
   by_cases h1:k=1
   ·subst h1;simp only[okAt,CV.proper,CV.own,CV.depth]
    cases l with
    | nil=>cases ht:t == [] <;> simp[CV.propers,ht] <;> omega
    | cons v l =>
     have:((((v::l).length:Nat):Int) == 0)=false :=(by rw[beq_eq_false_iff_ne]; simp; omega);cases ht:t == [] <;> simp[this,ht] <;> omega
   ·have e1:(k == 1)=false :=(by simpa using h1);rw[e1,cond_false]
    by_cases h2:k=2
    ·subst h2;simp only[okAt,CV.proper,CV.own,CV.depth]
     cases l with
     | nil=>cases ht:i == 0 <;> simp[CV.propers,ht] <;> omega
     | cons v l =>
      have:((((v::l).length:Nat):Int) == 0)=false :=(by rw[beq_eq_false_iff_ne]; simp; omega);cases ht:i == 0 <;> simp[this,ht] <;> omega
    ·have e2:(k == 2)=false :=(by simpa using h2);rw[e2,cond_false]
     by_cases h3:k=3
     ·subst h3;have key:zBF (zCy n) l e n 0=some (bif zPF l (e+1) then .go () else .ret false):=zGl (by omega) (by omega) l 0 n rfl (by omega) fun v hv=>zH5 n v (e+1) (by have:=CV.w_mem hv; omega) (by have:=CV.w_mem hv; omega) (by omega) (by omega)
      have hdep:(CV.mk 3 i t l).depth=CV.depths l+1 :=(by simp[CV.depth]);have hd:decide (((CV.depths l+1:Nat):Int)+e<=65)=decide ((CV.depths l:Int)+(e+1)<=65):=by
       congr 1; apply propext; omega
      have hok:okAt (CV.mk 3 i t l) e=((i == 0&&t == [])&&zPF l (e+1)):=by
       simp only[okAt,hdep,hd,zPF,CV.proper,CV.own]
       cases i == 0 <;> cases t == [] <;> cases CV.propers l <;> cases decide ((CV.depths l:Int)+(e+1)<=65) <;> rfl
      rw[hok,key,show((3:Int) == 3)=true from rfl,cond_true]
      simp only[bne]
      cases i == 0 with
      | false=>rfl
      | true =>
       cases t == [] with
       | false=>rfl
       | true=>cases zPF l (e+1) <;> rfl
     ·have e3:(k == 3)=false :=(by simpa using h3);rw[e3,cond_false]
      simp[okAt,CV.proper,CV.own,e1,e2,e3]
theorem zMx {n:Nat}{v:CV} (h:v.w<n) (hb:v.w<=16777216):zFb n v=some (okAt v 1):=by
 have:=zH5 n v 1 h hb (by omega) (by omega)
 obtain⟨k,i,t,l⟩:=v;rw[zFb,this]; rfl
theorem zLT {n:Nat}{v:CV} (hn:16777300<=n) (hb:v.w<=16777216) (hr:v.rng):∃ b:List UInt8,zDU n v=some (bif okAt v 1 then (bif decide (1048576<v.code.length) then ([],6) else (v.code,0)) else ([],1)):=by
 have h1:=zMx (n:=n) (v:=v) (by omega) hb;cases ho:okAt v 1 with
 | false =>
  obtain⟨k,i,t,l⟩:=v;exact⟨[],by rw[zDU,h1,ho]; rfl⟩
 | true =>
  have hp:v.proper=true :=(by simp only[okAt,Bool.and_eq_true]at ho; exact ho.1);obtain⟨b',h2,e1,e2,e3⟩:=zGY n v [] (by omega) hb hr hp (by simp)
  simp only[List.length_nil,Nat.zero_add,List.nil_append]at e1 e2 e3;obtain⟨k,i,t,l⟩:=v;refine⟨b',?_⟩
  rw[zDU,h1,ho]
  simp only[obs,Bool.not_true,cond_false,cond_true,h2]
  by_cases hs:1048576<(CV.mk k i t l).code.length
  ·rw[decide_eq_true hs,decide_eq_true (by have:=e2 hs; omega:(1048576:Int)<b'.length)]; rfl
  ·have:=e1 (by omega)
   subst this;rw[decide_eq_false hs,decide_eq_false (by omega)]; rfl
def numV (i:Int):CV:=.mk 1 i [] []
def zI0 (t:List UInt8):CV:=.mk 2 0 t []
def zCg (l:List CV):CV:=.mk 3 0 [] l
def zHj (l:List Int):CV:=zCg (l.map numV)
mutual
def zD8:Nd->CV
 | .mk k t c ks=>zCg (numV k::zI0 t::numV c::zF7 ks)
def zF7:List Nd->List CV
 | []=>[]
 | v::vs=>zD8 v::zF7 vs
end
theorem zDR:∀ l:List Nd,zF7 l=l.map zD8
 | []=>rfl
 | v::vs=>by rw[zF7,List.map_cons,zDR vs]
def curV (c:Cur):CV:=zCg [zHj c.1,zHj c.2]
def opV (o:Op8):CV:=zCg [numV o.1,zHj o.2.1,numV o.2.2.1,numV o.2.2.2.1,zCg (zF7 o.2.2.2.2.1),numV o.2.2.2.2.2.1,zI0 o.2.2.2.2.2.2.1,zI0 o.2.2.2.2.2.2.2]
def recV (r:Rc):CV:=zCg [zCg (r.1.map opV),curV r.2.1,curV r.2.2]
def docV (d:Dc):CV:=zCg [zI0 d.1,zD8 d.2.1,numV d.2.2.2,zCg (d.2.2.1.map recV)]
theorem zII:∀ {l:List CV},(∀ v∈l,v.proper=true)->CV.propers l=true
 | [],_=>rfl
 | v::vs,h=>by rw[CV.propers,h v List.mem_cons_self,zII fun u hu=>h u (List.mem_cons_of_mem _ hu)]; rfl
theorem zJ3 (i:Int):(numV i).proper=true:=by simp[numV,CV.proper,CV.own,CV.propers]
theorem zLo (t:List UInt8):(zI0 t).proper=true:=by simp[zI0,CV.proper,CV.own,CV.propers]
theorem zDC {l:List CV} (h:CV.propers l=true):(zCg l).proper=true:=by simp[zCg,CV.proper,CV.own,h]
theorem zOD (l:List Int):(zHj l).proper=true:=zDC (zII fun v hv=>by
 obtain⟨i,_,rfl⟩:=List.mem_map.1 hv;exact zJ3 i)
mutual
theorem zPf:∀ t:Nd,(zD8 t).proper=true
 | .mk k t c ks=>by
  rw[zD8]
  refine zDC ?_
  simp only[CV.propers,zJ3,zLo,zJV ks,Bool.and_self]
theorem zJV:∀ l:List Nd,CV.propers (zF7 l)=true
 | []=>rfl
 | v::vs=>by rw[zF7,CV.propers,zPf v,zJV vs]; rfl
end
theorem zU9 (c:Cur):(curV c).proper=true:=zDC (by simp only[CV.propers,zOD,Bool.and_self])
theorem zWr (o:Op8):(opV o).proper=true:=zDC (by simp only[CV.propers,zOD,zJ3,zLo,zDC (zJV _),Bool.and_self])
theorem zVv (r:Rc):(recV r).proper=true:=zDC (by
 have h:(zCg (r.1.map opV)).proper=true:=zDC (zII fun v hv=>by
  obtain⟨o,_,rfl⟩:=List.mem_map.1 hv;exact zWr o)
 simp only[CV.propers,h,zU9,Bool.and_self])
theorem zP9 (d:Dc):(docV d).proper=true:=zDC (by
 have h:(zCg (d.2.2.1.map recV)).proper=true:=zDC (zII fun v hv=>by
  obtain⟨o,_,rfl⟩:=List.mem_map.1 hv;exact zVv o)
 simp only[CV.propers,h,zLo,zPf,zJ3,Bool.and_self])
theorem zJY {d:Nat}:∀ {l:List CV},(∀ v∈l,v.depth<=d)->CV.depths l<=d
 | [],_=>Nat.zero_le _
 | v::vs,h=>by
  have h1:=h v List.mem_cons_self;have h2:=zJY fun u hu=>h u (List.mem_cons_of_mem _ hu)
  rw[CV.depths]
  omega
theorem list_depth (l:List CV):(zCg l).depth=CV.depths l+1:=by rw[zCg,CV.depth,if_pos rfl]
theorem zL2 (i:Int):(numV i).depth=1:=by rw[numV,CV.depth,if_neg (by decide)]
theorem zMZ (t:List UInt8):(zI0 t).depth=1:=by rw[zI0,CV.depth,if_neg (by decide)]
theorem zMG (l:List Int):(zHj l).depth<=2:=by
 have:=zJY (d:=1) (l:=l.map numV) fun v hv=>by
  obtain⟨i,_,rfl⟩:=List.mem_map.1 hv;rw[zL2]; exact Nat.le_refl _
 rw[zHj,list_depth]
 omega
mutual
theorem zQB:∀ t:Nd,(zD8 t).depth<=t.dep+1
 | .mk k t c ks=>by
  have:=zLp ks
  rw[zD8,list_depth]
  simp only[CV.depths,zL2,zMZ,Nd.dep]
  omega
theorem zLp:∀ l:List Nd,CV.depths (zF7 l)<=Nd.deps l+1
 | []=>Nat.zero_le _
 | v::vs=>by
  have h1:=zQB v
  have h2:=zLp vs
  rw[zF7,CV.depths,Nd.deps]
  have h3:v.dep<=Nat.max v.dep (Nd.deps vs):=Nat.le_max_left _ _
  have h4:Nd.deps vs<=Nat.max v.dep (Nd.deps vs):=Nat.le_max_right _ _
  omega
end
theorem zSg (c:Cur):(curV c).depth<=3:=by
 have h1:=zMG c.1;have h2:=zMG c.2;rw[curV,list_depth]
 simp only[CV.depths]
 omega
theorem zXr (o:Op8) (h:Nd.deps o.2.2.2.2.1<=30):(opV o).depth<=33:=by
 have h1:=zMG o.2.1;have h2:=zLp o.2.2.2.2.1;rw[opV,list_depth]
 simp only[CV.depths,zL2,zMZ,list_depth]
 omega
theorem zWH (r:Rc) (h:∀ o∈r.1,Nd.deps o.2.2.2.2.1<=30):(recV r).depth<=35:=by
 have h1:=zSg r.2.1;have h2:=zSg r.2.2;have h3:=zJY (d:=33) (l:=r.1.map opV) fun v hv=>by
  obtain⟨o,ho,rfl⟩:=List.mem_map.1 hv;exact zXr o (h o ho)
 rw[recV,list_depth]
 simp only[CV.depths,list_depth]
 omega
theorem zV4 (d:Dc) (ht:d.2.1.dep<=30) (h:∀ r∈d.2.2.1,∀ o∈r.1,Nd.deps o.2.2.2.2.1<=30):(docV d).depth<=40:=by
 have h1:=zQB d.2.1;have h3:=zJY (d:=35) (l:=d.2.2.1.map recV) fun v hv=>by
  obtain⟨o,ho,rfl⟩:=List.mem_map.1 hv;exact zWH o (h o ho)
 rw[docV,list_depth]
 simp only[CV.depths,list_depth,zL2,zMZ]
 omega
theorem zGv {α:Type}{f:α->CV}{l:List α} (L:Nat->Int->List CV->Option (List CV)) (hl:l.length<=1073741824)
  (hs:∀ (k i:Nat) (acc:List CV) (h:i<l.length),acc.length<=i->L (k+1) (i:Int) acc=L k ((i+1:Nat):Int) (acc++[f l[i]]))
  (he:∀ (k:Nat) (acc:List CV),L (k+1) (l.length:Int) acc=some acc) :
  ∀ (k i:Nat) (acc:List CV),l.length - i<k->i<=l.length->acc.length<=i->L k (i:Int) acc=some (acc++(l.drop i).map f)
 | 0,i,acc,h,_,_=>by omega
 | k+1,i,acc,h,hi,ha=>by
  by_cases hj:i<l.length
  ·rw[hs k i acc hj ha,zGv L hl hs he k (i+1) _ (by omega) (by omega) (by simp only[List.length_append,List.length_cons,List.length_nil]; omega),List.drop_eq_getElem_cons hj,List.map_cons,List.append_assoc]
   rfl
  ·obtain rfl:i=l.length :=(by omega);rw[he,List.drop_length,List.map_nil,List.append_nil]
theorem zTz (n:Nat) (l:List Int) (hn:l.length<n) (hl:l.length<=1073741824):zEc n l=some (zHj l):=by
 have:=zGv (f:=numV) (l:=l) (zBx l) hl (fun k i acc h ha=>by
  rw[zBx,zAB (Int.ofNat_lt.2 h),cond_true,zAv h]
  simp only[obs,zBg]
  rw[zAK (by simp only[List.length_cons,List.length_nil]; omega),zAy (by omega)]; rfl) (fun k acc=>by rw[zBx,zAx (by omega)]; rfl) n 0 [] (by omega) (Nat.zero_le _) (Nat.le_refl _)
 rw[show((0:Nat):Int)=0 from rfl,List.drop_zero,List.nil_append]at this;unfold zEc;simp only[zBD,obs,this]
 rfl
theorem zRM (n:Nat) (l:List Int) (hn:l.length<n) (hl:l.length<=1073741824):zDg n l=some (zHj l):=by
 unfold zDg;simp only[zTz n l hn hl,obs]
 rfl
theorem zRE (n:Nat) (l:List Int) (hn:l.length<n) (hl:l.length<=1073741824):zFl n l=some (zHj l):=by
 have:=zGv (f:=numV) (l:=l) (zDO l) hl (fun k i acc h ha=>by
  rw[zDO,zAB (Int.ofNat_lt.2 h),cond_true,zAv h]
  simp only[obs,zBW]
  rw[zAK (by simp only[List.length_cons,List.length_nil]; omega),zAy (by omega)]; rfl) (fun k acc=>by rw[zDO,zAx (by omega)]; rfl) n 0 [] (by omega) (Nat.zero_le _) (Nat.le_refl _)
 rw[show((0:Nat):Int)=0 from rfl,List.drop_zero,List.nil_append]at this;unfold zFl;simp only[zBJ,obs,this]
 rfl
theorem zQC (l:List Nd):(zF7 l).length=l.length:=by rw[zDR,List.length_map]
theorem zRN:∀ n:Nat,(∀ t:Nd,2 * t.cnt<n->t.cnt<=16777216->zBq n t=some (zD8 t))/\(∀ l:List Nd,2 * Nd.cnts l+1<n->Nd.cnts l<=16777216->zCo n l=some (zCg (zF7 l)))
 | 0=>⟨fun _ h=>by omega,fun _ h=>by omega⟩
 | n+1=>by
  obtain⟨ih1,ih2⟩:=zRN n;refine⟨fun t h hb=>?_,fun l h hb=>?_⟩
  ·obtain⟨k,tx,c,ks⟩:=t;simp only[Nd.cnt]at h hb;have hlen:=Nd.cnts_len ks;unfold zBq;rw[ih2 ks (by omega) (by omega)]
   simp only[zCg,obs,zBg,zDD,zCp]
   rw[zAK (by simp only[List.length_cons,List.length_nil,zQC]; omega)]
   rfl
  ·have hlen:=Nd.cnts_len l;have:=zGv (f:=zD8) (l:=l) (zBn (zBq n) l) (by omega) (fun k i acc h' ha=>by
    have hm:=Nd.cnts_mem (List.getElem_mem h')
    have e:=ih1 l[i] (by omega) (by omega)
    rw[zBn,zAB (Int.ofNat_lt.2 h'),cond_true,zAv h']
    generalize l[i]=v at e;obtain⟨v1,v2,v3,v4⟩:=v;rw[zD8,zCg]at e;simp only[obs,e]
    rw[zAK (by simp only[List.length_cons,List.length_nil]; omega),zAy (by omega),zD8,zCg]) (fun k acc=>by rw[zBn,zAx (by omega)]; rfl) n 0 [] (by omega) (Nat.zero_le _) (Nat.le_refl _)
   rw[show((0:Nat):Int)=0 from rfl,List.drop_zero,List.nil_append]at this;unfold zCo;simp only[zBD,obs,this]
   rw[zCg,zDR]
theorem zRF:∀ n:Nat,(∀ t:Nd,2 * t.cnt<n->t.cnt<=16777216->zIi n t=some (zD8 t))/\(∀ l:List Nd,2 * Nd.cnts l+1<n->Nd.cnts l<=16777216->zIB n l=some (zF7 l))
 | 0=>⟨fun _ h=>by omega,fun _ h=>by omega⟩
 | n+1=>by
  obtain⟨ih1,ih2⟩:=zRF n;refine⟨fun t h hb=>?_,fun l h hb=>?_⟩
  ·obtain⟨k,tx,c,ks⟩:=t;simp only[Nd.cnt]at h hb;have hlen:=Nd.cnts_len ks;unfold zIi;simp only[obs,zBW,zFH,zBJ,ih2 ks (by omega) (by omega)]
   rw[zAK (by simp only[List.length_cons,List.length_nil,zQC]; omega)]
   rfl
  ·have hlen:=Nd.cnts_len l;have:=zGv (f:=zD8) (l:=l) (zEJ (zIi n) l) (by omega) (fun k i acc h' ha=>by
    have hm:=Nd.cnts_mem (List.getElem_mem h')
    have e:=ih1 l[i] (by omega) (by omega)
    rw[zEJ,zAB (Int.ofNat_lt.2 h'),cond_true,zAv h']
    generalize l[i]=v at e;obtain⟨v1,v2,v3,v4⟩:=v;rw[zD8,zCg]at e;simp only[obs,e]
    rw[zAK (by simp only[List.length_cons,List.length_nil]; omega),zAy (by omega),zD8,zCg]) (fun k acc=>by rw[zEJ,zAx (by omega)]; rfl) n 0 [] (by omega) (Nat.zero_le _) (Nat.le_refl _)
   rw[show((0:Nat):Int)=0 from rfl,List.drop_zero,List.nil_append]at this;unfold zIB;simp only[obs,this]
   rw[zDR]
theorem zW0 (n:Nat) (c:Cur) (hn:200000000<n) (h1:c.1.length<=16777216) (h2:c.2.length<=16777216):zCl n c=some (curV c):=by
 have e1:=zRM n c.1 (by omega) (by omega)
 have e2:=zRM n c.2 (by omega) (by omega)
 obtain⟨p,q⟩:=c;dsimp only at e1 e2;unfold zCl;simp only[e1,e2,zHj,zCg,obs,zCp]
 rfl
theorem zWB (n:Nat) (c:Cur) (hn:200000000<n) (h1:c.1.length<=16777216) (h2:c.2.length<=16777216):zIA n c=some (curV c):=by
 have e1:=zRE n c.1 (by omega) (by omega)
 have e2:=zRE n c.2 (by omega) (by omega)
 obtain⟨p,q⟩:=c;dsimp only at e1 e2;unfold zIA;simp only[e1,e2,zHj,zCg,obs,zBJ]
 rfl
theorem zZD (n:Nat) (o:Op8) (hn:200000000<n) (h:zIj o<=1048576):zEH n o=some (opV o):=by
 obtain⟨k,row,a,m,nodes,slot,old,text⟩:=o;unfold zIj at h;simp only[Op8.nodes,Op8.row]at h;have hc:=Nd.cnts_ws nodes;have e1:=(zRN n).2 nodes (by omega) (by omega)
 have e2:=zRM n row (by omega) (by omega)
 unfold zEH;simp only[e1,e2,zHj,zCg,obs,zCp,zBg,zDD]
 rfl
theorem zVD (n:Nat) (l:List Op8) (hn:200000000<n) (hl:l.length<=1048576) (h:∀ o∈l,zIj o<=1048576):zEG n l=some (zCg (l.map opV)):=by
 have:=zGv (f:=opV) (l:=l) (zBH n l) (by omega) (fun k i acc h' ha=>by
  have e:=zZD n l[i] hn (h _ (List.getElem_mem h'))
  rw[zBH,zAB (Int.ofNat_lt.2 h'),cond_true,zAv h']
  generalize l[i]=v at e;obtain⟨v1,v2,v3,v4,v5,v6,v7,v8⟩:=v;rw[opV,zCg]at e;simp only[obs,e]
  rw[zAK (by simp only[List.length_cons,List.length_nil]; omega),zAy (by omega)]; rfl) (fun k acc=>by rw[zBH,zAx (by omega)]; rfl) n 0 [] (by omega) (Nat.zero_le _) (Nat.le_refl _)
 rw[show((0:Nat):Int)=0 from rfl,List.drop_zero,List.nil_append]at this;unfold zEG;simp only[zBD,obs,this]
 rfl
theorem zY3 (n:Nat) (r:Rc) (hn:200000000<n) (h:RBul r):zC4 n r=some (recV r):=by
 have e1:=zVD n r.1 hn h.len h.ops;have e2:=zW0 n r.2.1 hn (by have:=h.b1; omega) (by have:=h.b2; omega)
 have e3:=zW0 n r.2.2 hn (by have:=h.a1; omega) (by have:=h.a2; omega)
 obtain⟨ops,⟨b1,b2⟩,⟨a1,a2⟩⟩:=r;dsimp only at e1 e2 e3;unfold zC4;simp only[e1,e2,e3,curV,zCg,obs,zCp]
 rfl
theorem zY2 (n:Nat) (d:Dc) (hn:200000000<n) (h:DBul d):zCx n d=some (docV d):=by
 have ht:=Nd.cnt_w d.2.1;have hw:=h.tree;have hlen:=h.len;have e1:=(zRN n).1 d.2.1 (by omega) (by omega)
 have this:=zGv (f:=recV) (l:=d.2.2.1) (zA9 n d.2.2.1) (by omega) (fun k i acc h' ha=>by
  have e:=zY3 n d.2.2.1[i] hn (h.recs _ (List.getElem_mem h'))
  rw[zA9,zAB (Int.ofNat_lt.2 h'),cond_true,zAv h']
  generalize d.2.2.1[i]=v at e;obtain⟨v1,⟨v2,v3⟩,⟨v4,v5⟩⟩:=v;rw[recV,zCg]at e;simp only[obs,e]
  rw[zAK (by simp only[List.length_cons,List.length_nil]; omega),zAy (by omega)]; rfl) (fun k acc=>by rw[zA9,zAx (by omega)]; rfl) n 0 [] (by omega) (Nat.zero_le _) (Nat.le_refl _)
 rw[show((0:Nat):Int)=0 from rfl,List.drop_zero,List.nil_append]at this;obtain⟨ti,⟨q1,q2,q3,q4⟩,rs,dn⟩:=d;dsimp only at e1 this;rw[zD8,zCg]at e1;unfold zCx zD4;simp only[e1,zBD,obs,this,zCp,zDD,zBg]
 rfl
theorem zYT (n:Nat) (r:Rc) (hn:200000000<n) (h:RBul r):zJt n r=some (recV r):=by
 have hlen:=h.len;have this:=zGv (f:=opV) (l:=r.1) (zEg n r.1) (by omega) (fun k i acc h' ha=>by
  have hb:=h.ops _ (List.getElem_mem h')
  rw[zEg,zAB (Int.ofNat_lt.2 h'),cond_true,zAv h']
  generalize r.1[i]=v at hb;obtain⟨k_,row,a,m,nodes,slot,old,text⟩:=v;unfold zIj at hb;simp only[Op8.nodes,Op8.row]at hb;have hc:=Nd.cnts_ws nodes;have e1:=(zRF n).2 nodes (by omega) (by omega)
  have e2:=zRE n row (by omega) (by omega)
  simp only[e1,e2,zHj,zCg,obs,zBJ,zBW,zFH]
  rw[zAK (by simp only[List.length_cons,List.length_nil]; omega),zAy (by omega)]; rfl) (fun k acc=>by rw[zEg,zAx (by omega)]; rfl) n 0 [] (by omega) (Nat.zero_le _) (Nat.le_refl _)
 rw[show((0:Nat):Int)=0 from rfl,List.drop_zero,List.nil_append]at this;have e2:=zWB n r.2.1 hn (by have:=h.b1; omega) (by have:=h.b2; omega)
 have e3:=zWB n r.2.2 hn (by have:=h.a1; omega) (by have:=h.a2; omega)
 obtain⟨ops,⟨b1,b2⟩,⟨a1,a2⟩⟩:=r;dsimp only at this e2 e3;unfold zJt;simp only[this,e2,e3,curV,zCg,obs,zBJ]
 rfl
theorem zYP (n:Nat) (d:Dc) (hn:200000000<n) (h:DBul d):zK9 n d=some (docV d):=by
 have ht:=Nd.cnt_w d.2.1;have hw:=h.tree;have hlen:=h.len;have e1:=(zRF n).1 d.2.1 (by omega) (by omega)
 have this:=zGv (f:=recV) (l:=d.2.2.1) (zEK n d.2.2.1) (by omega) (fun k i acc h' ha=>by
  have e:=zYT n d.2.2.1[i] hn (h.recs _ (List.getElem_mem h'))
  rw[zEK,zAB (Int.ofNat_lt.2 h'),cond_true,zAv h']
  generalize d.2.2.1[i]=v at e;obtain⟨v1,⟨v2,v3⟩,⟨v4,v5⟩⟩:=v;rw[recV,zCg]at e;simp only[obs,e]
  rw[zAK (by simp only[List.length_cons,List.length_nil]; omega),zAy (by omega)]; rfl) (fun k acc=>by rw[zEK,zAx (by omega)]; rfl) n 0 [] (by omega) (Nat.zero_le _) (Nat.le_refl _)
 rw[show((0:Nat):Int)=0 from rfl,List.drop_zero,List.nil_append]at this;obtain⟨ti,⟨q1,q2,q3,q4⟩,rs,dn⟩:=d;dsimp only at e1 this;rw[zD8,zCg]at e1;unfold zK9;simp only[e1,obs,this,zBJ,zFH,zBW]
 rfl
theorem Runs.formed {t u:Nd}{ops:List Op8}{e:Int} (h:Runs t ops u e):e=0->∀ o∈ops,FormP o:=by
 induction h with
 | nil t=>intro _ o ho; cases ho
 | stop h he=>intro h0; exact absurd h0 he
 | next h hr ih =>
  intro h0 o ho;rcases List.mem_cons.1 ho with rfl | ho
  ·cases h with
   | chg _ hf _ _ he=>exact absurd rfl he
   | ok _ hf _ _ _=>exact hf
  ·exact ih h0 o ho
theorem zS5 {l:List Nd} (h:zAz (rowN l)=true):Nd.deps l<=30:=by
 have:=(zHh h).2.2.2;simp only[rowN,Nd.dep]at this
 omega
theorem FormP.deps {o:Op8} (h:FormP o):Nd.deps o.2.2.2.2.1<=30:=by
 obtain⟨k,row,a,m,nodes,slot,old,text⟩:=o;rcases h with ⟨_,_,h,_⟩ | ⟨_,_,⟨v,s,z,rfl,_,h,_⟩,_⟩ | ⟨_,_,rfl,_⟩
 ·exact zS5 h
 ·exact zS5 h
 ·exact Nat.zero_le _
def zQa (y:Int):List UInt8:=[b8of (IntKind.u8.wrap (y.fdiv (2 ^ 56))),b8of (IntKind.u8.wrap (y.fdiv (2 ^ 48))),b8of (IntKind.u8.wrap (y.fdiv (2 ^ 40))),b8of (IntKind.u8.wrap (y.fdiv (2 ^ 32))),b8of (IntKind.u8.wrap (y.fdiv (2 ^ 24))),b8of (IntKind.u8.wrap (y.fdiv (2 ^ 16))),b8of (IntKind.u8.wrap (y.fdiv (2 ^ 8))),b8of (IntKind.u8.wrap (y.fdiv (2 ^ 0)))]
theorem zYW (y:Int) (k:Nat):zDf y (k+10) 56 [86,67,76,49]=some ([86,67,76,49]++zQa y):=by
 with_unfolding_all rfl
theorem zXf (y:Int) (k:Nat):zFO y (k+10) 0 []=some (zQa y):=by
 with_unfolding_all rfl
theorem zZy (y:Int) (n:Nat) (h:10<=n):zDf y n 56 [86,67,76,49]=some ([86,67,76,49]++zQa y):=by
 obtain⟨k,rfl⟩:∃ k,n=k+10:=⟨n - 10,by omega⟩
 exact zYW y k
theorem zYu (y:Int) (n:Nat) (h:10<=n):zFO y n 0 []=some (zQa y):=by
 obtain⟨k,rfl⟩:∃ k,n=k+10:=⟨n - 10,by omega⟩
 exact zXf y k
theorem zUp {b:List UInt8} (hb:b.length<=1073741824):∀ (k i:Nat) (h:Int),b.length - i<k->∃ y,zAT b k h (i:Int)=some y/\zEe b k h (i:Int)=some y
 | 0,i,h,hk=>by omega
 | k+1,i,h,hk=>by
  unfold zAT zEe
  by_cases hj:i<b.length
  ·rw[zAB (Int.ofNat_lt.2 hj),cond_true,zAv hj]
   simp only[obs,cond_true,zAy (show i<9223372036854775807 by omega)]
   exact zUp hb k (i+1) _ (by omega)
  ·rw[zAx (by omega)]
   exact⟨_,rfl,rfl⟩
theorem dB1 (n:Nat) (b:List UInt8) (y:Int) (h1:zCb n 14695981039346656037 b=some y):zBA n b=some y:=by
 unfold zBA;simp only[h1,obs]
theorem dB2 (n:Nat) (b:List UInt8) (y h:Int) (h1:zAT b n h 0=some y):zCb n h b=some y:=by
 unfold zCb;simp only[h1,obs]
theorem dB3 (n:Nat) (b:List UInt8) (y:Int) (h1:zF2 n 14695981039346656037 b=some y):zG5 n b=some y:=by
 unfold zG5;simp only[h1,obs]
theorem dB4 (n:Nat) (b:List UInt8) (y h:Int) (h1:zEe b n h 0=some y):zF2 n h b=some y:=by
 unfold zF2;simp only[h1,obs]
theorem zYq (n:Nat) (b:List UInt8) (h:Int) (hn:b.length<n) (hb:b.length<=1073741824):∃ y,zCb n h b=some y/\zF2 n h b=some y:=by
 obtain⟨y,h1,h2⟩:=zUp hb n 0 h (by omega)
 exact⟨y,dB2 n b y h h1,dB4 n b y h h2⟩
theorem zZl (n:Nat) (b:List UInt8) (hn:b.length<n) (hb:b.length<=1073741824):∃ y,zBA n b=some y/\zG5 n b=some y :=
 let ⟨y,h1,h2⟩:=zYq n b 14695981039346656037 hn hb
 ⟨y,dB1 n b y h1,dB3 n b y h2⟩
structure DCod (d:Dc):Prop where
 rng:(docV d).rng
 w:(docV d).w<=16777216
theorem zMz {x:Int} (h1:IntKind.i64.min<=x) (h2:x<=IntKind.i64.max):zIX x:=⟨h1,h2⟩
theorem zJu {i:Int} (h:zIX i):(numV i).rng:=⟨⟨by decide,by decide⟩,h,trivial⟩
theorem zNT (t:List UInt8):(zI0 t).rng:=⟨⟨by decide,by decide⟩,⟨by decide,by decide⟩,trivial⟩
theorem zHy {l:List CV} (h:CV.rngs l):(zCg l).rng:=⟨⟨by decide,by decide⟩,⟨by decide,by decide⟩,h⟩
theorem zRj {l:List Int} (h:∀ i∈l,zIX i):(zHj l).rng:=zHy (CV.rngAll fun v hv=>by
 obtain⟨i,hi,rfl⟩:=List.mem_map.1 hv;exact zJu (h i hi))
mutual
theorem zUS:∀ t:Nd,t.rng->(zD8 t).rng
 | .mk k t c ks,h=>by
  rw[zD8]
  exact zHy ⟨zJu h.1,zNT t,zJu h.2.1,zPg ks h.2.2⟩
theorem zPg:∀ l:List Nd,Nd.rngs l->CV.rngs (zF7 l)
 | [],_=>trivial
 | v::vs,h=>⟨zUS v h.1,zPg vs h.2⟩
end
theorem zYo {c:Cur} (h1:∀ i∈c.1,zIX i) (h2:∀ i∈c.2,zIX i):(curV c).rng:=zHy ⟨zRj h1,zRj h2,trivial⟩
theorem zUB {α:Type}{f:α->CV}{l:List α} (h:∀ x∈l,(f x).rng):(zCg (l.map f)).rng:=zHy (CV.rngAll fun v hv=>by
 obtain⟨o,ho,rfl⟩:=List.mem_map.1 hv;exact h o ho)
theorem zMF (i:Int):(numV i).w=1:=by simp[numV,CV.w,CV.ws]
theorem zJU (t:List UInt8):(zI0 t).w=t.length+1:=by simp[zI0,CV.w,CV.ws]
theorem list_w (l:List CV):(zCg l).w=CV.ws l+1:=by simp[zCg,CV.w]
theorem zSI:∀ l:List Int,CV.ws (l.map numV)=2 * l.length
 | []=>rfl
 | i::l=>by
  have:=zSI l;simp only[List.map_cons,CV.ws,zMF,List.length_cons]
  omega
mutual
theorem zYa:∀ t:Nd,(zD8 t).w+1<=3 * zCS t.enc
 | .mk k t c ks=>by
  have:=zT9 ks
  rw[zD8,list_w]
  simp only[CV.ws,zMF,zJU,Nd.enc,zCS,S.bulk]
  omega
theorem zT9:∀ l:List Nd,CV.ws (zF7 l)<=3 * zD1 (Nd.encs l)
 | []=>Nat.zero_le _
 | v::vs=>by
  have h1:=zYa v
  have h2:=zT9 vs
  rw[zF7]
  simp only[CV.ws,Nd.encs,zD1]
  omega
end
theorem zXe (c:Cur):(curV c).w=2 * c.1.length+2 * c.2.length+5:=by
 rw[curV,list_w]
 simp only[CV.ws,zHj,list_w,zSI]
 omega
theorem zWn {α:Type}{f:α->CV}{g:α->List S} (h:∀ x,(f x).w+1<=4 * zCS (g x)):∀ l:List α,CV.ws (l.map f)<=4 * zD1 (l.map g)
 | []=>Nat.zero_le _
 | x::l=>by
  have h1:=h x;have h2:=zWn h l;simp only[List.map_cons,CV.ws,zD1]
  omega
theorem zLq {n:Nat}{ss:List S} (h:Typed T n 56 ss):∃ l:List Int,ss=[.sl 1 (l.map (irow .i64))]/\∀ i∈l,zIX i:=by
 obtain⟨x,rfl,_,hx⟩:=zVA (T:=T) (k:=.i64) (e:=3) rfl rfl rfl rfl h;exact⟨x,rfl,fun i hi=>zMz (hx i hi).1 (hx i hi).2⟩
theorem zWY {n:Nat}{ss:List S} (h:Typed T n 63 ss):∃ o:Op8,ss=zAn o/\(opV o).rng:=by
 obtain⟨m,rfl,a0,q0,rfl,u0,a1,q1,rfl,u1,a2,q2,rfl,u2,a3,q3,rfl,u3,a4,q4,rfl,u4,a5,q5,rfl,u5,a6,q6,rfl,u6,a7,q7,rfl,u7,rfl⟩:=zF8 (T:=T) (t:=63) rfl rfl h;obtain⟨x0,rfl,r0⟩:=zFo (T:=T) (k:=.i64) rfl rfl u0;obtain⟨x1,rfl,r1⟩:=zLq u1;obtain⟨x2,rfl,r2⟩:=zFo (T:=T) (k:=.i64) rfl rfl u2;obtain⟨x3,rfl,r3⟩:=zFo (T:=T) (k:=.i64) rfl rfl u3;obtain⟨x4,rfl,r4⟩:=zUb (t:=0) u4;obtain⟨x5,rfl,r5⟩:=zFo (T:=T) (k:=.i64) rfl rfl u5;obtain⟨x6,rfl,_⟩:=zMl (T:=T) rfl rfl u6;obtain⟨x7,rfl,_⟩:=zMl (T:=T) rfl rfl u7
 exact⟨(x0,x1,x2,x3,x4,x5,x6,x7),rfl,zHy ⟨zJu (zMz r0.1 r0.2),zRj r1,zJu (zMz r2.1 r2.2),zJu (zMz r3.1 r3.2),zHy (zPg _ r4),zJu (zMz r5.1 r5.2),zNT _,zNT _,trivial⟩⟩
theorem zVB {n:Nat}{ss:List S} (h:Typed T n 55 ss):∃ l:List Op8,ss=[.sl 8 (l.map zAn)]/\∀ o∈l,(opV o).rng:=by
 obtain⟨m,rows,rfl,rfl,_,hr⟩:=zFL (T:=T) (e:=63) rfl rfl h;obtain⟨ks,rfl,hks⟩:=zKX (f:=zAn) (q:=fun o=>(opV o).rng) (l:=rows) fun r hr'=>zWY (hr r hr')
 exact⟨ks,rfl,hks⟩
theorem zMk {n:Nat}{ss:List S} (h:Typed T n 58 ss):∃ c:Cur,ss=[.sl 1 (c.1.map (irow .i64)),.sl 1 (c.2.map (irow .i64))]/\(curV c).rng:=by
 obtain⟨m,rfl,a0,q0,rfl,u0,a1,q1,rfl,u1,rfl⟩:=zF8 (T:=T) (t:=58) rfl rfl h;obtain⟨x0,rfl,r0⟩:=zLq u0;obtain⟨x1,rfl,r1⟩:=zLq u1;exact⟨(x0,x1),rfl,zYo r0 r1⟩
theorem zRL {n:Nat}{ss:List S} (h:Typed T n 60 ss):∃ r:Rc,ss=zAi r/\(recV r).rng:=by
 obtain⟨m,rfl,a0,q0,rfl,u0,a1,q1,rfl,u1,a2,q2,rfl,u2,rfl⟩:=zF8 (T:=T) (t:=60) rfl rfl h;obtain⟨x0,rfl,r0⟩:=zVB u0;obtain⟨x1,rfl,r1⟩:=zMk u1;obtain⟨x2,rfl,r2⟩:=zMk u2;exact⟨(x0,x1,x2),rfl,zHy ⟨zUB r0,r1,r2,trivial⟩⟩
theorem op_w (o:Op8):(opV o).w+1<=4 * zCS (zAn o):=by
 have h1:=zT9 o.2.2.2.2.1;have h2:=zEC .i64 o.2.1;rw[opV,list_w]
 simp only[CV.ws,zMF,zJU,zHj,list_w,zSI,zAn,zCS,S.bulk]
 omega
theorem zZL (r:Rc):(recV r).w+1<=4 * zCS (zAi r):=by
 have h0:=zWn op_w r.1;have i1:=zEC .i64 r.2.1.1;have i2:=zEC .i64 r.2.1.2;have i3:=zEC .i64 r.2.2.1;have i4:=zEC .i64 r.2.2.2;rw[recV,list_w]
 simp only[CV.ws,list_w,zXe,zAi,zCS,S.bulk]
 omega
theorem zPi {n:Nat}{ss:List S} (h:Typed T n 27 ss):∃ d:Dc,ss=zAA d/\(docV d).rng:=by
 obtain⟨m,rfl,a0,q0,rfl,u0,a1,q1,rfl,u1,a2,q2,rfl,u2,a3,q3,rfl,u3,rfl⟩:=zF8 (T:=T) (t:=27) rfl rfl h;obtain⟨x0,rfl,_⟩:=zMl (T:=T) rfl rfl u0;obtain⟨⟨y1,y2,y3,y4⟩,rfl,r1⟩:=zXU u1;obtain⟨m',rows,e1,rfl,_,hr⟩:=zFL (T:=T) (e:=60) rfl rfl u2;obtain⟨ks,rfl,r2⟩:=zKX (f:=zAi) (q:=fun r=>(recV r).rng) (l:=rows) fun r hr'=>zRL (hr r hr')
 obtain⟨x3,rfl,r3⟩:=zFo (T:=T) (k:=.i64) rfl rfl u3;exact⟨(x0,.mk y1 y2 y3 y4,ks,x3),rfl,zHy ⟨zNT _,zUS _ r1,zJu (zMz r3.1 r3.2),zUB r2,trivial⟩⟩
theorem zZH (d:Dc):(docV d).w<=4 * zCS (zAA d):=by
 obtain⟨ti,t,rs,dn⟩:=d;have h0:=zWn zZL rs;have h1:=zYa t;obtain⟨y1,y2,y3,y4⟩:=t;rw[docV,list_w]
 simp only[CV.ws,list_w,zMF,zJU,zAA,zCS,S.bulk]
 simp only[Nd.enc,zCS,S.bulk]at h1
 omega
theorem zYs (d:Dc) (hr:(docV d).rng) (h:zCS (zAA d)<=1048576):DCod d:=⟨hr,by have:=zZH d; omega⟩
def valA:Nat->List UInt8->Nat
 | a,[]=>a
 | a,c::l=>valA (256 * a+c.toNat) l
def hdr (b:List UInt8):Option (Nat×Nat×List UInt8) :=
 match b with
 | []=>none
 | c::r=>if c.toNat<64 then none else if c.toNat % 64<56 then some (c.toNat / 64,c.toNat % 64,r)
  else if r.length<c.toNat % 64 - 55 then none
  else if r.headD 0=0∨valA 0 (r.take (c.toNat % 64 - 55))<56 then none
  else some (c.toNat / 64,valA 0 (r.take (c.toNat % 64 - 55)),r.drop (c.toNat % 64 - 55))
def unz (n:Nat):Int:=if n % 2=1 then -((n / 2:Nat):Int) - 1 else ((n / 2:Nat):Int)
def rds (f:List UInt8->Option (CV×List UInt8)):Nat->List UInt8->Option (List CV×List UInt8)
 | 0,b=>some ([],b)
 | n+1,b=>match f b with
  | none=>none
  | some (x,r)=>match rds f n r with
   | none=>none
   | some (xs,r')=>some (x::xs,r')
def rd:Nat->List UInt8->Option (CV×List UInt8)
 | 0,_=>none
 | d+1,b=>match hdr b with
  | none=>none
  | some (k,n,r)=>if k=1 then some (.mk 1 (unz n) [] [],r) else if r.length<n then none else if k=2 then some (.mk 2 0 (r.take n) [],r.drop n)
   else match rds (rd d) n r with
    | none=>none
    | some (l,r')=>some (.mk 3 0 [] l,r')
theorem zLr:∀ (l:List UInt8) (a:Nat),valA a l=a * 256 ^ l.length+valA 0 l
 | [],a=>by simp[valA]
 | c::l,a=>by
  rw[valA,valA,zLr l (256 * a+c.toNat),zLr l (256 * 0+c.toNat),List.length_cons,Nat.pow_succ,Nat.add_mul,Nat.mul_zero,Nat.zero_add,Nat.mul_comm (256 ^ l.length) 256,← Nat.mul_assoc,Nat.mul_comm a 256]
  omega
theorem zM0:∀ (l:List UInt8),valA 0 l<256 ^ l.length
 | []=>by simp[valA]
 | c::l=>by
  have h:=zM0 l;have hc:=c.toNat_lt;rw[valA,zLr,List.length_cons,Nat.pow_succ,Nat.mul_zero,Nat.zero_add]
  have:c.toNat * 256 ^ l.length<=255 * 256 ^ l.length:=Nat.mul_le_mul_right _ (by omega)
  omega
theorem zQX:∀ (k n:Nat),n<256 ^ k->valA 0 (beK k n)=n
 | 0,n,h=>by simp at h; subst h; rfl
 | k+1,n,h=>by
  rw[Nat.pow_succ]at h;have hd:(dig k n).toNat=n / 256 ^ k:=by
   have:n / 256 ^ k<256:=Nat.div_lt_of_lt_mul (by rw[Nat.mul_comm]at h; rw[Nat.mul_comm]; rw[Nat.mul_comm]at h; omega)
   simp only[dig,UInt8.toNat_ofNat']; exact Nat.mod_eq_of_lt this
  have hm:beK k n=beK k (n % 256 ^ k):=by
   have:∀ (j m q:Nat),j<=k->beK j (m % 256 ^ k)=beK j m:=fun j=>by
    induction j with
    | zero=>intro m q _; rfl
    | succ j ih =>
     intro m q hj;simp only[beK]
     rw[ih m q (by omega)]
     congr 1
     unfold dig
     apply UInt8.toNat_inj.1
     simp only[UInt8.toNat_ofNat']
     obtain⟨e,rfl⟩:∃ e,k=j+1+e:=⟨k - (j+1),by omega⟩
     have e1:(256:Nat) ^ (j+1+e)=256 ^ j * (256 * 256 ^ e) :=(by rw[Nat.pow_add,Nat.pow_succ,Nat.mul_assoc]);rw[e1,Nat.mod_mul_right_div_self,show(2:Nat) ^ 8=256 from rfl,Nat.mod_mul_right_mod]
   exact(this k n 0 (Nat.le_refl _)).symm
  rw[beK,valA,zLr,zDp,hd,hm,zQX k _ (Nat.mod_lt _ (Nat.pow_pos (by omega))),Nat.mul_zero,Nat.zero_add,Nat.mul_comm]
  exact Nat.div_add_mod n (256 ^ k)
theorem zUc:∀ (l:List UInt8),beK l.length (valA 0 l)=l
 | []=>rfl
 | c::l=>by
  have h:=zM0 l;have hp:0<256 ^ l.length:=Nat.pow_pos (by omega)
  have e:valA 0 (c::l)=valA 0 l+256 ^ l.length * c.toNat :=(by rw[valA,zLr,Nat.mul_zero,Nat.zero_add,Nat.mul_comm]; omega);have hd:dig l.length (valA 0 (c::l))=c:=by
   rw[e,dig,Nat.add_mul_div_left _ _ hp,Nat.div_eq_of_lt h]
   apply UInt8.toNat_inj.1
   have:=c.toNat_lt;simp[UInt8.toNat_ofNat']
  have hm:∀ (j:Nat),j<=l.length->beK j (valA 0 (c::l))=beK j (valA 0 l):=fun j=>by
   induction j with
   | zero=>intro _; rfl
   | succ j ih =>
    intro hj;simp only[beK]
    rw[ih (by omega)]
    congr 1
    unfold dig
    apply UInt8.toNat_inj.1
    simp only[UInt8.toNat_ofNat']
    obtain⟨q,hq⟩:∃ q,l.length=j+1+q:=⟨l.length - (j+1),by omega⟩
    have e1:256 ^ l.length * c.toNat=256 ^ j * (256 * (256 ^ q * c.toNat)) :=(by rw[hq,Nat.pow_add,Nat.pow_succ]; simp only[Nat.mul_assoc]);rw[e,e1,Nat.add_mul_div_left _ _ (Nat.pow_pos (by omega)),show(2:Nat) ^ 8=256 from rfl,Nat.add_mul_mod_self_left]
  rw[List.length_cons,beK,hd,hm l.length (Nat.le_refl _),zUc l]
def headB (k n:Nat):List UInt8:=if n<56 then [UInt8.ofNat (64 * k+n)] else UInt8.ofNat (64 * k+55+blen n)::beK (blen n) n
theorem zJ1 (k i:Int) (t:List UInt8) (l:List CV):(CV.mk k i t l).head=headB k.toNat (CV.mk k i t l).num:=rfl
theorem zOr {k n:Nat} (hk:1<=k/\k<=3) (hn:n<18446744073709551616) (s:List UInt8):hdr (headB k n++s)=some (k,n,s):=by
 unfold headB
 by_cases h:n<56
 ·have e:(UInt8.ofNat (64 * k+n)).toNat=64 * k+n :=(by simp[UInt8.toNat_ofNat']; omega);rw[if_pos h]
  simp only[List.cons_append,List.nil_append,hdr,e]
  rw[if_neg (by omega),if_pos (by omega)]
  rw[show(64 * k+n) / 64=k by omega,show(64 * k+n) % 64=n by omega]
 ·have h8:=zYf hn;have hp:=zQY n;have e:(UInt8.ofNat (64 * k+55+blen n)).toNat=64 * k+55+blen n :=(by simp[UInt8.toNat_ofNat']; omega);have e2:(64 * k+55+blen n) % 64=55+blen n :=(by omega);have e3:(64 * k+55+blen n) / 64=k :=(by omega);have e4:55+blen n - 55=blen n :=(by omega);have e5:(beK (blen n) n++s).take (blen n)=beK (blen n) n :=(by rw[List.take_append_of_le_length (by rw[zDp]; omega),List.take_of_length_le (by rw[zDp]; omega)]);have e6:(beK (blen n) n++s).drop (blen n)=s:=by
   have:=List.drop_left (l₁:=beK (blen n) n) (l₂:=s)
   rwa [zDp]at this
  have e7:(beK (blen n) n++s).headD 0 ≠ 0:=by
   obtain⟨q,hq⟩:∃ q,blen n=q+1:=⟨blen n - 1,by omega⟩
   have hg:=zVT n (by omega)
   have hl:=zTv n;rw[hq,Nat.add_sub_cancel]at hg;rw[hq,Nat.pow_succ]at hl;rw[hq]
   simp only[beK,List.cons_append,List.headD_cons]
   intro h0;have:(dig q n).toNat=n / 256 ^ q:=by
    have:n / 256 ^ q<256:=Nat.div_lt_of_lt_mul (by omega)
    simp only[dig,UInt8.toNat_ofNat']; exact Nat.mod_eq_of_lt this
   rw[h0]at this;have h1:1<=n / 256 ^ q:=(Nat.le_div_iff_mul_le (Nat.pow_pos (by omega))).2 (by omega)
   simp at this; omega
  rw[if_neg h]
  simp only[List.cons_append,hdr,e,e2,e3,e4]
  rw[if_neg (by omega),if_neg (by omega),if_neg (by rw[List.length_append,zDp]; omega),e5,zQX _ _ (zTv n),if_neg (by rintro(h1 | h1); exact e7 h1; omega),e6]
theorem zTC {b r:List UInt8}{k n:Nat} (h:hdr b=some (k,n,r)):b=headB k n++r/\(1<=k/\k<=3)/\n<18446744073709551616:=by
 match b,h with
 | c::q,h =>
  have hc:=c.toNat_lt;simp only[hdr]at h;split at h
  ·cases h
  ·split at h
   ·rename_i h1 h2
    cases h;refine⟨?_,by omega,by omega⟩
    rw[headB,if_pos h2]
    have:UInt8.ofNat (64 * (c.toNat / 64)+c.toNat % 64)=c:=by
     rw[Nat.div_add_mod]; simp
    rw[this]; rfl
   ·split at h
    ·cases h
    ·split at h
     ·cases h
     ·rename_i h1 h2 h3 h4
      cases h;have hk8:c.toNat % 64 - 55<=8 :=(by omega);generalize hkk:c.toNat % 64 - 55=m at *;have hl:(q.take m).length=m :=(by rw[List.length_take]; omega);have hlt:=zM0 (q.take m)
      rw[hl]at hlt;have h4a:¬ q.headD 0=0:=fun h=>h4 (.inl h)
      have h4b:¬ valA 0 (q.take m)<56:=fun h=>h4 (.inr h)
      have hge:256 ^ (m - 1)<=valA 0 (q.take m):=by
       match q,m,h3,h4a,hl with
       | _,0,_,_,_=>omega
       | [],m+1,h3,_,_=>simp at h3
       | c0::q',m+1,_,h4a,hl =>
        simp only[List.headD_cons]at h4a;have h0:c0.toNat ≠ 0:=fun h=>h4a (UInt8.toNat_inj.1 (by simpa using h))
        simp only[List.take_succ_cons,List.length_cons]at hl ⊢;rw[valA,zLr,Nat.add_sub_cancel]
        have e:(q'.take m).length=m :=(by omega);rw[e]
        have:1 * 256 ^ m<=(256 * 0+c0.toNat) * 256 ^ m:=Nat.mul_le_mul_right _ (by omega)
        omega
      have hb:=zVS (by omega) hlt hge;refine⟨?_,by omega,Nat.lt_of_lt_of_le hlt ?_⟩
      ·rw[headB,if_neg h4b,hb]
       have e1:UInt8.ofNat (64 * (c.toNat / 64)+55+m)=c:=by
        have:64 * (c.toNat / 64)+55+m=c.toNat :=(by omega);rw[this]; simp
       have e2:beK m (valA 0 (q.take m))=q.take m:=by
        have:=zUc (q.take m); rwa [hl]at this
       rw[e1,e2,List.cons_append,List.take_append_drop]
      ·have:(256:Nat) ^ m<=256 ^ 8:=Nat.pow_le_pow_right (by omega) hk8
       simpa using this
theorem zY1 {i:Int}:unz (zig i)=i:=by
 unfold zig unz;split
 ·have e:(2 * (-(i+1))+1).toNat=2 * (-(i+1)).toNat+1 :=(by omega);rw[e,if_pos (by omega)]; omega
 ·have e:(2 * i).toNat=2 * i.toNat :=(by omega);rw[e,if_neg (by omega)]; omega
theorem zY7 (n:Nat):zig (unz n)=n:=by
 unfold unz zig;split
 ·rw[if_pos (by omega)]; omega
 ·rw[if_neg (by omega)]; omega
theorem zZC {n:Nat} (h:n<18446744073709551616):zIX (unz n):=by
 unfold unz zIX; split <;> omega
theorem zUO {f:List UInt8->Option (CV×List UInt8)}:∀ (l:List CV) (s:List UInt8),(∀ v∈l,∀ s,f (v.code++s)=some (v,s))->rds f l.length (CV.codes l++s)=some (l,s)
 | [],s,_=>rfl
 | v::l,s,h=>by
  simp only[List.length_cons,rds,CV.codes,List.append_assoc,h v List.mem_cons_self,zUO l s fun u hu=>h u (List.mem_cons_of_mem _ hu)]
theorem zUn:∀ (l:List CV),l.length<=(CV.codes l).length
 | []=>Nat.zero_le _
 | ⟨k,i,t,vs⟩::l=>by
  have:=zUn l;have h1:1<=(CV.mk k i t vs).head.length :=(by simp only[CV.head]; split <;> simp);simp only[CV.codes,CV.code,List.length_cons,List.length_append]; omega
theorem CV.depths_mem:∀ {l:List CV}{v:CV},v∈l->v.depth<=CV.depths l
 | u::l,v,h=>by
  simp only[CV.depths]
  rcases List.mem_cons.1 h with rfl | h
  ·omega
  ·have:=CV.depths_mem h; omega
theorem zWC:∀ (d:Nat) (v:CV) (s:List UInt8),v.proper=true->v.rng->v.depth<=d->v.w<=1000000000000->rd d (v.code++s)=some (v,s)
 | 0,v,_,_,_,h,_=>by have:=CV.depth_pos v; omega
 | d+1,⟨k,i,t,l⟩,s,hp,hr,hd,hw=>by
  have hnum:=CV.num_lt hr hw;have hpp:=hp;simp only[CV.proper,CV.own,Bool.and_eq_true,Bool.or_eq_true,beq_iff_eq,List.isEmpty_iff]at hp;obtain⟨ho,hps⟩:=hp;rw[CV.code,zJ1,List.append_assoc,List.append_assoc,rd]
  rcases ho with (⟨⟨rfl,rfl⟩,rfl⟩ | ⟨⟨rfl,rfl⟩,rfl⟩) | ⟨⟨rfl,rfl⟩,rfl⟩
  ·rw[show((1:Int)).toNat=1 from rfl,zOr (by omega) hnum]
   simp only[CV.num,if_true]
   rw[if_neg (by omega),if_neg (by omega),zY1]
   rfl
  ·rw[show((2:Int)).toNat=2 from rfl,zOr (by omega) hnum]
   simp only[CV.num,if_true]
   rw[if_neg (by omega),if_neg (by rw[List.length_append]; omega)]
   simp[CV.codes]
  ·rw[show((3:Int)).toNat=3 from rfl,zOr (by omega) hnum]
   have hn:(CV.mk 3 0 [] l).num=l.length :=(by simp[CV.num]);simp only[hn]
   simp only[CV.w]at hw;have hdl:CV.depths l<=d :=(by simp only[CV.depth,if_true]at hd; omega);have key:rds (rd d) l.length (CV.codes l++s)=some (l,s):=zUO l s fun v hv s=>zWC d v s (CV.propers_mem hps hv) (CV.rng_mem hr.2.2 hv) (by have:=CV.depths_mem hv; omega) (by have:=CV.w_mem hv; omega)
   have hg:=zUn l;rw[if_neg (by omega),if_neg (by simp; omega),if_neg (by omega),List.nil_append,key]
mutual
def CV.lens (N:Nat):CV->Prop
 | .mk _ _ _ l=>l.length<=N/\CV.lenss N l
def CV.lenss (N:Nat):List CV->Prop
 | []=>True
 | v::vs=>v.lens N/\CV.lenss N vs
end
structure zY8 (d N:Nat) (b r:List UInt8) (v:CV):Prop where
 eq:b=v.code++r
 proper:v.proper=true
 rng:v.rng
 depth:v.depth<=d
 lens:v.lens N
 w:v.w+1<=2 * v.code.length
structure zY9 (d N:Nat) (b r:List UInt8) (l:List CV):Prop where
 eq:b=CV.codes l++r
 proper:CV.propers l=true
 rng:CV.rngs l
 depth:CV.depths l<=d
 lens:CV.lenss N l
 w:CV.ws l<=2 * (CV.codes l).length
theorem zUP {d N:Nat}{f:List UInt8->Option (CV×List UInt8)} (hf:∀ b v r,b.length<=N->f b=some (v,r)->zY8 d N b r v):∀ (n:Nat) (b:List UInt8) (l:List CV) (r:List UInt8),b.length<=N->rds f n b=some (l,r)->zY9 d N b r l/\l.length=n
 | 0,b,l,r,hb,h=>by
  simp only[rds]at h;cases h;exact⟨⟨rfl,rfl,trivial,Nat.zero_le _,trivial,by simp[CV.ws]⟩,rfl⟩
 | n+1,b,l,r,hb,h=>by
  simp only[rds]at h;split at h
  ·cases h
  ·rename_i x q hx
   split at h
   ·cases h
   ·rename_i xs r' hxs
    cases h;have g1:=hf b x q hb hx;have hq:q.length<=N :=(by have:=congrArg List.length g1.eq; rw[List.length_append]at this; omega);obtain⟨g2,g3⟩:=zUP hf n q xs r hq hxs;have h1:=g1.w; have h2:=g2.w
    refine⟨⟨by rw[CV.codes,List.append_assoc,← g2.eq]; exact g1.eq,?_,⟨g1.rng,g2.rng⟩,?_,⟨g1.lens,g2.lens⟩,?_⟩,by simp[g3]⟩
    ·simp only[CV.propers,g1.proper,g2.proper,Bool.and_true]
    ·have:=g1.depth; have:=g2.depth; simp only[CV.depths]; omega
    ·simp only[CV.ws,CV.codes,List.length_append]; omega
theorem zSt (k n:Nat):1<=(headB k n).length:=by unfold headB; split <;> simp
theorem zOX (N:Nat) (hN:N<=9000000000000000000):∀ (d:Nat) (b:List UInt8) (v:CV) (r:List UInt8),b.length<=N->rd d b=some (v,r)->zY8 d N b r v
 | 0,b,v,r,_,h=>by simp[rd]at h
 | d+1,b,v,r,hb,h=>by
  simp only[rd]at h;split at h
  ·cases h
  ·rename_i k n q hh
   obtain⟨e,⟨k1,k3⟩,hn⟩:=zTC hh;have hl:=congrArg List.length e;rw[List.length_append]at hl;have hp:=zSt k n;split at h
   ·rename_i hk1
    subst hk1;cases h;have hnum:(CV.mk 1 (unz n) [] []).num=n :=(by simp[CV.num,zY7]);have hcode:(CV.mk 1 (unz n) [] []).code=headB 1 n :=(by rw[CV.code,zJ1,hnum]; simp[CV.codes]);refine⟨by rw[hcode]; exact e,rfl,⟨by unfold zIX; omega,zZC hn,trivial⟩,?_,⟨by simp,trivial⟩,?_⟩
    ·simp[CV.depth]
    ·rw[hcode]; simp[CV.w,CV.ws]; omega
   ·split at h
    ·cases h
    ·rename_i hk1 hlen
     split at h
     ·rename_i hk2
      subst hk2;cases h;have hnum:(CV.mk 2 0 (q.take n) []).num=n :=(by simp[CV.num]; omega);have hcode:(CV.mk 2 0 (q.take n) []).code=headB 2 n++q.take n :=(by rw[CV.code,zJ1,hnum]; simp[CV.codes]);refine⟨by rw[hcode,List.append_assoc,List.take_append_drop]; exact e,rfl,⟨by unfold zIX; omega,by unfold zIX; omega,trivial⟩,?_,⟨by simp,trivial⟩,?_⟩
      ·simp[CV.depth]
      ·rw[hcode]; simp only[CV.w,CV.ws,List.length_append]; omega
     ·split at h
      ·cases h
      ·rename_i hk2 l r' hr
       cases h;obtain rfl:k=3 :=(by omega);obtain⟨g,gl⟩:=zUP (zOX N hN d) n q l r (by omega) hr;have hnum:(CV.mk 3 0 [] l).num=n :=(by simp[CV.num,gl]);have hcode:(CV.mk 3 0 [] l).code=headB 3 n++CV.codes l :=(by rw[CV.code,zJ1,hnum]; simp);have hw:=g.w;refine⟨by rw[hcode,List.append_assoc,← g.eq]; exact e,?_,⟨by unfold zIX; omega,by unfold zIX; omega,g.rng⟩,?_,⟨by omega,g.lens⟩,?_⟩
       ·simp[CV.proper,CV.own,g.proper]
       ·have:=g.depth; simp only[CV.depth,if_true]; omega
       ·rw[hcode]; simp only[CV.w,List.length_append,List.length_nil]; omega
theorem zZG (c:UInt8):zCD .and .u8 (c.toNat:Int) 63=((c.toNat % 64:Nat):Int):=by
 have:∀ n:Fin 256,zCD .and .u8 ((n.val:Nat):Int) 63=((n.val % 64:Nat):Int) :=(by decide +kernel);exact this ⟨c.toNat,c.toNat_lt⟩
theorem shr6 (c:UInt8):(c.toNat:Int).fdiv (2 ^ (min (6:Int).toNat IntKind.u8.bits))=((c.toNat / 64:Nat):Int):=by
 have:∀ n:Fin 256,((n.val:Nat):Int).fdiv (2 ^ (min (6:Int).toNat IntKind.u8.bits))=((n.val / 64:Nat):Int) :=(by decide +kernel);exact this ⟨c.toNat,c.toNat_lt⟩
theorem zX7 {x:Nat} (hx:x<72057594037927936) (c:UInt8):zCD .or .u64 (IntKind.u64.wrap ((x:Int) * 2 ^ (min (8:Int).toNat IntKind.u64.bits))) (IntKind.u64.wrap (c.toNat:Int))=((256 * x+c.toNat:Nat):Int):=by
 have hc:=c.toNat_lt;have e8:(x:Int) * 2 ^ (min (8:Int).toNat IntKind.u64.bits)=((256 * x:Nat):Int):=by
  rw[show(2:Int) ^ (min (8:Int).toNat IntKind.u64.bits)=256 from by decide]; omega
 rw[e8,zB8 (by omega) (by omega),zB8 (by omega) (by omega)]
 have t1:∀ m:Nat,m<18446744073709551616->(BitVec.ofInt 64 (m:Int)).toNat=m:=fun m hm=>by
  rw[BitVec.toNat_ofInt]; omega
 show IntKind.u64.wrap ((BitVec.ofInt 64 ((256 * x:Nat):Int) ||| BitVec.ofInt 64 (c.toNat:Int)).toNat:Int)=_;rw[BitVec.toNat_or,t1 _ (by omega),t1 _ (by omega)]
 have h:=Nat.shiftLeft_add_eq_or_of_lt (i:=8) (b:=c.toNat) (by simpa using hc) x;rw[Nat.shiftLeft_eq,show 2 ^ 8=256 from rfl,Nat.mul_comm x 256]at h;rw[← h,zB8 (by omega) (by omega)]
theorem and1 {x:Nat} (hx:x<18446744073709551616):zCD .and .u64 (x:Int) 1=((x % 2:Nat):Int):=by
 have t1:(BitVec.ofInt 64 (x:Int)).toNat=x :=(by rw[BitVec.toNat_ofInt]; omega);show IntKind.u64.wrap ((BitVec.ofInt 64 (x:Int) &&& BitVec.ofInt 64 1).toNat:Int)=_;rw[BitVec.toNat_and,t1,show(BitVec.ofInt 64 1).toNat=1 from rfl,Nat.and_one_is_mod,zB8 (by omega) (by omega)]
theorem zEw {o:List UInt8}{e:UInt8}{T:List UInt8} (hT:((((o.take (o.length:Int).toNat).drop (1:Int).toNat).take (IntKind.i64.wrap ((IntKind.i64.wrap ((IntKind.i64.wrap (IntKind.u64.wrap (zCD .and .u8 (e.toNat:Int) 63))) - 56))+1)).toNat).drop (0:Int).toNat)=T) (h8:T.length<=8) :
  ∀ (r:List UInt8) (i k x:Nat),T.drop i=r->r.length<k->x<256 ^ i->zAP o e k (x:Int) (i:Int)=some ((valA x r:Nat):Int)
 | _,_,0,_,_,h,_=>by omega
 | [],i,k+1,x,h,_,_=>by rw[zAP,hT,zNO h]; rfl
 | c::r,i,k+1,x,h,hk,hx=>by
  have hi:=zJf h;have h7:i<=7 :=(by omega);have hp:(256:Nat) ^ i<=256 ^ 7:=Nat.pow_le_pow_right (by omega) h7;have hc:=c.toNat_lt;rw[zAP,hT,zRa h,cond_true,zKY h,obs,zX7 (by simp at hp; omega),zAy (by omega),zEw hT h8 r (i+1) k _ (zK1 h) (by simpa using hk) (by rw[Nat.pow_succ]; omega)]
  rfl
def Mq37 (n:Nat) (b:List UInt8):Prop:=match hdr b with
 | some (k,N,r)=>zBm n b=some ((k:Int),(N:Int),true,r)
 | none=>∃ x y r',zBm n b=some (x,y,false,r')/\r'.length<=b.length
theorem zIr {n:Nat} (hn:20<=n) (b:List UInt8) (hb:b.length<=20000000):Mq37 n b:=by
 unfold Mq37
 match b,hb with
 | [],_=>exact⟨0,0,[],by rw[zBm]; rfl,Nat.le_refl _⟩
 | c::q,hb =>
  have hc:=c.toNat_lt;have ea:at? (c::q) 0=some c:=zAv (l:=c::q) (i:=0) (by simp)
  have et:((c::q).take ((c::q).length:Int).toNat).drop (1:Int).toNat=q :=(by simp);have e1:IntKind.i64.wrap ((c.toNat:Int).fdiv (2 ^ (min (6:Int).toNat IntKind.u8.bits)))=((c.toNat / 64:Nat):Int) :=(by rw[shr6,wrap64_in (by omega) (by omega)]);have e2:IntKind.u64.wrap (zCD .and .u8 (c.toNat:Int) 63)=((c.toNat % 64:Nat):Int) :=(by rw[zZG,zB8 (by omega) (by omega)]);have e0:((((c::q).length:Nat):Int) == 0)=false :=(by rw[beq_eq_false_iff_ne]; simp; omega);simp only[List.length_cons]at hb;generalize hm:zBm n (c::q)=Z
  rw[zBm,e0,cond_false,ea,obs,obs,zAK ⟨by omega,by simp; omega,by omega⟩,e1,e2,et]at hm;subst hm;rw[hdr]
  by_cases h0:c.toNat<64
  ·have:((((c.toNat / 64:Nat):Int)) == 0)=true :=(by rw[beq_iff_eq]; omega);rw[if_pos h0,this]
   exact⟨_,_,_,rfl,by simp⟩
  ·have:((((c.toNat / 64:Nat):Int)) == 0)=false :=(by rw[beq_eq_false_iff_ne]; omega);rw[if_neg h0,this,cond_false]
   by_cases h1:c.toNat % 64<56
   ·rw[if_pos h1,decide_eq_true (by omega:((c.toNat % 64:Nat):Int)<56)]
    rfl
   ·have e3:IntKind.i64.wrap (IntKind.i64.wrap (IntKind.i64.wrap ((c.toNat % 64:Nat):Int) - 56)+1)=((c.toNat % 64 - 55:Nat):Int):=by
     rw[wrap64_in (n:=((c.toNat % 64:Nat):Int)) (by omega) (by omega),wrap64_in (n:=((c.toNat % 64:Nat):Int) - 56) (by omega) (by omega),wrap64_in (by omega) (by omega)]; omega
    have hT:=zEw (o:=c::q) (e:=c) (T:=q.take (c.toNat % 64 - 55)) (by rw[et,e2,e3]; simp) (by rw[List.length_take]; omega) (q.take (c.toNat % 64 - 55)) 0 n 0 rfl (by rw[List.length_take]; omega) (by simp)
    have hT':zAP (c::q) c n 0 0=some ((valA 0 (q.take (c.toNat % 64 - 55)):Nat):Int):=hT;rw[if_neg h1,decide_eq_false (by omega:¬ ((c.toNat % 64:Nat):Int)<56),cond_false,e3]
    have hmk:c.toNat % 64 - 55<=8/\1<=c.toNat % 64 - 55 :=(by omega);generalize c.toNat % 64 - 55=m at *
    by_cases h2:q.length<m
    ·rw[if_pos h2,decide_eq_true (by omega:(q.length:Int)<(m:Int))]
     exact⟨_,_,_,rfl,by simp⟩
    ·have hl:(q.take m).length=m :=(by rw[List.length_take]; omega);have hlt:=zM0 (q.take m)
     rw[hl]at hlt;have hp8:(256:Nat) ^ m<=256 ^ 8:=Nat.pow_le_pow_right (by omega) hmk.1;have hN:valA 0 (q.take m)<18446744073709551616 :=(by simp at hp8; omega);have ed:(q.take ((q.length:Nat):Int).toNat).drop ((m:Nat):Int).toNat=q.drop m :=(by simp);rw[if_neg h2,decide_eq_false (by omega:¬ (q.length:Int)<(m:Int)),cond_false,zAK ⟨by omega,by omega,by omega⟩,hT',obs,zAK ⟨by omega,by omega,by omega⟩,ed,zGX (by omega) hN]
     by_cases h3:valA 0 (q.take m)<56
     ·rw[if_pos (.inr h3),decide_eq_false (by omega:¬ (56:Int)<=((valA 0 (q.take m):Nat):Int))]
      exact⟨_,_,_,rfl,by simp; omega⟩
     ·rw[decide_eq_true (by omega:(56:Int)<=((valA 0 (q.take m):Nat):Int)),cond_true,obs,obs]
      by_cases h4:q.headD 0=0
      ·have:(((blen (valA 0 (q.take m)):Nat):Int) == (m:Int))=false:=by
        rw[beq_eq_false_iff_ne]
        intro hcon;have hcon:blen (valA 0 (q.take m))=m:=by omega
        match q,m,h2,h4,hl,hmk with
        | [],m,h2,_,_,hmk=>simp at h2; omega
        | c0::q',m+1,h2,h4,hl,hmk =>
         simp only[List.headD_cons]at h4;subst h4;simp only[List.take_succ_cons,List.length_cons]at hl hcon h3;rw[valA]at hcon h3;have e5:256 * 0+(0:UInt8).toNat=0:=rfl;rw[e5]at hcon h3;have hv:=zM0 (q'.take m)
         have e6:(q'.take m).length=m :=(by omega);rw[e6]at hv;rcases Nat.eq_zero_or_pos m with hm0 | hm1
         ·rw[hm0,Nat.pow_zero]at hv;rw[hm0]at h3
          omega
         ·have:=zTu (k:=m) hm1 hv; omega
       rw[if_pos (.inl h4),this]
       exact⟨_,_,_,rfl,by simp; omega⟩
      ·have:(((blen (valA 0 (q.take m)):Nat):Int) == (m:Int))=true:=by
        rw[beq_iff_eq]
        have hge:256 ^ (m - 1)<=valA 0 (q.take m):=by
         match q,m,h2,h4,hl,hmk with
         | [],m,h2,_,_,hmk=>simp at h2; omega
         | c0::q',m+1,h2,h4,hl,hmk =>
          simp only[List.headD_cons]at h4;have h0:c0.toNat ≠ 0:=fun h=>h4 (UInt8.toNat_inj.1 (by simpa using h))
          simp only[List.take_succ_cons,List.length_cons]at hl ⊢;rw[valA,zLr,Nat.add_sub_cancel]
          have e:(q'.take m).length=m :=(by omega);rw[e]
          have:1 * 256 ^ m<=(256 * 0+c0.toNat) * 256 ^ m:=Nat.mul_le_mul_right _ (by omega)
          omega
        rw[zVS hmk.2 hlt hge]
       rw[if_neg (by rintro(h | h); exact h4 h; exact h3 h),this]
theorem zYA {b r:List UInt8}{k n:Nat} (h:hdr b=some (k,n,r)):r.length<b.length:=by
 have h1:=congrArg List.length (zTC h).1;have h2:=zSt k n;rw[List.length_append]at h1; omega
theorem zIs {r:List UInt8}{n:Nat} (hn:n<18446744073709551616) (hr:r.length<=20000000):zCJ r (n:Int)=some (bif decide (r.length<n) then ([],false,r) else (r.take n,true,r.drop n)):=by
 rw[zCJ,zB8 (by omega) (by omega)]
 by_cases h:r.length<n
 ·rw[decide_eq_true h,decide_eq_true (by omega:(r.length:Int)<(n:Int))]; rfl
 ·rw[decide_eq_false h,decide_eq_false (by omega:¬ (r.length:Int)<(n:Int)),cond_false,zAK ⟨by omega,by omega,by omega⟩,zAK ⟨by omega,by omega,by omega⟩]
  simp
def Mq36 (F:Int->List UInt8->Option (CV×Bool×List UInt8)) (d:Nat) (b:List UInt8):Prop:=match rd d b with
 | some (v,r)=>F (65 - (d:Int)) b=some (v,true,r)
 | none=>∃ v r,F (65 - (d:Int)) b=some (v,false,r)
theorem zDK {F:Int->List UInt8->Option (CV×Bool×List UInt8)}{d:Nat} (hd:d<=64){N:Nat} (hN:N<=20000000){L:Nat} (hF:∀ b,b.length<=L->Mq36 F d b):∀ (m i k:Nat) (b:List UInt8) (acc:List CV),m+i=N->m<k->b.length<=L->L<=20000000->acc.length<=i ->
  match rds (rd d) m b with
  | some (l,r)=>zAr F (65 - ((d:Int)+1)) (N:Int) k b (i:Int) acc=some (.go (r,acc++l))
  | none=>∃ v r,zAr F (65 - ((d:Int)+1)) (N:Int) k b (i:Int) acc=some (.ret (v,false,r))
 | _,_,0,_,_,_,h,_,_,_=>by omega
 | 0,i,k+1,b,acc,hm,_,_,_,_=>by
  simp only[rds]
  rw[zAr,decide_eq_false (by omega:¬ (i:Int)<(N:Int)),List.append_nil]; rfl
 | m+1,i,k+1,b,acc,hm,hk,hb,hL,ha=>by
  have h:=hF b hb;unfold Mq36 at h;have e:IntKind.i64.wrap (65 - ((d:Int)+1)+1)=65 - (d:Int) :=(by rw[wrap64_in (by omega) (by omega)]; omega);simp only[rds]
  cases hx:rd d b with
  | none =>
   rw[hx]at h;obtain⟨⟨v1,v2,v3,v4⟩,r,h⟩:=h;exact⟨_,_,by rw[zAr,decide_eq_true (by omega:(i:Int)<(N:Int)),cond_true,e,h]; rfl⟩
  | some p =>
   obtain⟨⟨v1,v2,v3,v4⟩,r⟩:=p;rw[hx]at h;dsimp only at h ⊢;have hg:=(zOX b.length (by omega) d b _ r (Nat.le_refl _) hx).eq;have hlen:=congrArg List.length hg;rw[List.length_append]at hlen;have hw:IntKind.u64.wrap ((i:Int)+1)=((i+1:Nat):Int) :=(by rw[zB8 (by omega) (by omega)]; rfl);have ih:=zDK hd hN hF m (i+1) k r (acc++[CV.mk v1 v2 v3 v4]) (by omega) (by omega) (by omega) hL (by simp; omega)
   have step:zAr F (65 - ((d:Int)+1)) (N:Int) (k+1) b (i:Int) acc=zAr F (65 - ((d:Int)+1)) (N:Int) k r ((i+1:Nat):Int) (acc++[CV.mk v1 v2 v3 v4]):=by
    rw[zAr,decide_eq_true (by omega:(i:Int)<(N:Int)),cond_true,e,h]
    simp only[obs,Bool.not_true,cond_false]
    rw[zAK (by simp; omega),hw]
   cases hy:rds (rd d) m r with
   | none =>
    rw[hy]at ih;obtain⟨v,r2,ih⟩:=ih;exact⟨v,r2,step.trans ih⟩
   | some q =>
    obtain⟨l,r2⟩:=q;rw[hy]at ih;dsimp only at ih ⊢;rw[step,ih]; simp
theorem zEx:∀ (n d:Nat) (b:List UInt8),d<=64->b.length<=20000000->b.length+d+30<n->Mq36 (zAs n) d b
 | 0,_,_,_,_,h=>by omega
 | n+1,0,b,_,hb,hn=>by
  unfold Mq36;exact⟨_,_,by rw[zAs]; rfl⟩
 | n+1,d+1,b,hd,hb,hn=>by
  have h37:=zIr (n:=n) (by omega) b hb;unfold Mq37 at h37;unfold Mq36;rw[rd]
  have e64:decide (64<65 - (((d+1:Nat)):Int))=false:=decide_eq_false (by omega)
  cases hh:hdr b with
  | none =>
   rw[hh]at h37;obtain⟨x,y,r',h37,_⟩:=h37;exact⟨_,_,by rw[zAs,e64,cond_false,h37]; rfl⟩
  | some p =>
   obtain⟨k,N,r⟩:=p;rw[hh]at h37;obtain⟨_,hk,hN⟩:=zTC hh;have hrl:=zYA hh;dsimp only at h37 ⊢;generalize hstep:zAs (n+1) (65 - (((d+1:Nat)):Int)) b=Z;rw[zAs,e64,cond_false,h37]at hstep;simp only[obs,Bool.not_true,cond_false]at hstep
   by_cases k1:k=1
   ·subst k1;rw[if_pos rfl]
    dsimp only;rw[← hstep,show(((1:Nat):Int) == 1)=true from rfl,cond_true,and1 hN]
    have es:=zPa N 1 (by omega)
    rw[show((1:Nat):Int)=1 from rfl,show(2:Nat) ^ 1=2 from rfl]at es;rw[es,wrap64_in (n:=((N / 2:Nat):Int)) (by omega) (by omega)]
    unfold unz
    by_cases ho:N % 2=1
    ·rw[if_pos ho,show((((N % 2:Nat)):Int) == 1)=true by rw[beq_iff_eq]; omega,cond_true,wrap64_in (n:=0 - ((N / 2:Nat):Int)) (by omega) (by omega),wrap64_in (by omega) (by omega)]
     simp only[obs]
     congr 3; omega
    ·rw[if_neg ho,show((((N % 2:Nat)):Int) == 1)=false by rw[beq_eq_false_iff_ne]; omega]
     rfl
   ·have e1:(((k:Nat):Int) == 1)=false :=(by rw[beq_eq_false_iff_ne]; omega);rw[if_neg k1]
    rw[e1,cond_false]at hstep
    by_cases k2:k=2
    ·subst k2;rw[show(((2:Nat):Int) == 2)=true from rfl,cond_true,zIs hN (by omega),obs]at hstep
     by_cases hl:r.length<N
     ·rw[if_pos hl]
      rw[decide_eq_true hl]at hstep;exact⟨_,_,hstep.symm⟩
     ·rw[if_neg hl,if_pos rfl]
      rw[decide_eq_false hl]at hstep;exact hstep.symm
    ·have e2:(((k:Nat):Int) == 2)=false :=(by rw[beq_eq_false_iff_ne]; omega);rw[e2,cond_false,zB8 (by omega) (by omega)]at hstep
     by_cases hl:r.length<N
     ·rw[if_pos hl]
      rw[decide_eq_true (by omega:(r.length:Int)<(N:Int)),cond_true]at hstep;exact⟨_,_,hstep.symm⟩
     ·obtain rfl:k=3 :=(by omega);rw[if_neg hl,if_neg (by omega)]
      rw[decide_eq_false (by omega:¬ (r.length:Int)<(N:Int)),cond_false]at hstep;have key:=zDK (F:=zAs n) (d:=d) (by omega) (N:=N) (by omega) (L:=r.length) (fun b' hb'=>zEx n d b' (by omega) (by omega) (by omega)) N 0 n r [] (by omega) (by omega) (Nat.le_refl _) (by omega) (by simp)
      have ea:65 - ((d:Int)+1)=65 - (((d+1:Nat)):Int) :=(by omega);rw[ea]at key;cases hy:rds (rd d) N r with
      | none =>
       rw[hy]at key;obtain⟨v,r2,key⟩:=key;have key':zAr (zAs n) (65 - (((d+1:Nat)):Int)) (N:Int) n r 0 []=_:=key;rw[key']at hstep;exact⟨_,_,hstep.symm⟩
      | some q =>
       obtain⟨l,r2⟩:=q;rw[hy]at key;have key':zAr (zAs n) (65 - (((d+1:Nat)):Int)) (N:Int) n r 0 []=_:=key;rw[key']at hstep;exact hstep.symm
theorem zH4 {n:Nat}{b:List UInt8} (hb:b.length<=20000000) (hn:b.length+100<n):match rd 64 b with
  | some (v,r)=>zBt n b=some (v,true,r)
  | none=>∃ v r,zBt n b=some (v,false,r):=by
 have h:=zEx n 64 b (by omega) hb (by omega)
 unfold Mq36 at h;cases hx:rd 64 b with
 | none =>
  rw[hx]at h;obtain⟨⟨v1,v2,v3,v4⟩,r,h⟩:=h;have h':zAs n 1 b=_:=h;exact⟨_,_,by rw[zBt,h']; rfl⟩
 | some p =>
  obtain⟨⟨v1,v2,v3,v4⟩,r⟩:=p;rw[hx]at h;have h':zAs n 1 b=_:=h;dsimp only;rw[zBt,h']; rfl
def dec (b:List UInt8):CV×Int:=if 1048576<b.length then (.mk 0 0 [] [],4) else match rd 64 b with
 | some (v,[])=>(v,0)
 | _=>(.mk 0 0 [] [],4)
theorem zHw {n:Nat}{b:List UInt8} (hn:1048700<n):zEE n b=some (dec b):=by
 unfold dec;rw[zEE]
 by_cases hl:1048576<b.length
 ·rw[if_pos hl,decide_eq_true (by omega:(1048576:Int)<(b.length:Int))]; rfl
 ·have h:=zH4 (n:=n) (b:=b) (by omega) (by omega)
  rw[if_neg hl,decide_eq_false (by omega:¬ (1048576:Int)<(b.length:Int)),cond_false]
  cases hx:rd 64 b with
  | none =>
   rw[hx]at h;obtain⟨⟨v1,v2,v3,v4⟩,r,h⟩:=h;rw[h]; rfl
  | some p =>
   obtain⟨⟨v1,v2,v3,v4⟩,r⟩:=p;rw[hx]at h;dsimp only at h;rw[h]
   cases r with
   | nil=>rfl
   | cons c r =>
    have:decide (0<(((c::r).length:Nat):Int))=true:=decide_eq_true (by simp <;> omega)
    simp only[obs,Bool.not_true,cond_false,this,cond_true]
theorem zP8 {α:Type}{l:List α}{i:Nat}{c:α} (h:l[i]? = some c):at? l (i:Int)=some c:=by simp[at?,h]
theorem zSk {α:Type}{l:List α}{i:Nat}{c:α}{r:List α} (h:l.drop i=c::r):l[i]? = some c:=by
 have:=zKY h
 simpa [at?] using this
theorem zH6 {c0 e:UInt8}{q:List UInt8}{m:Nat} (hm:IntKind.i64.wrap ((IntKind.i64.wrap (IntKind.u64.wrap ((e.toNat:Int).tmod 64))) - 55)=(m:Int)) (h8:m<=8) (hq:m<=q.length) :
  ∀ (r:List UInt8) (i k x:Nat),(q.take m).drop i=r->r.length<k->x<256 ^ i->zEp (c0::q) e k ((i+1:Nat):Int) (x:Int)=some ((valA x r:Nat):Int)
 | _,_,0,_,_,h,_=>by omega
 | [],i,k+1,x,h,_,_=>by
  have h1:=List.drop_eq_nil_iff.1 h;rw[List.length_take]at h1;rw[zEp,hm,decide_eq_false (by omega:¬ ((i+1:Nat):Int)<=(m:Int))]; rfl
 | c::r,i,k+1,x,h,hk,hx=>by
  have hi:=zJf h;rw[List.length_take]at hi;have h7:i<=7 :=(by omega);have hp:(256:Nat) ^ i<=256 ^ 7:=Nat.pow_le_pow_right (by omega) h7;have hc:=c.toNat_lt;have hx':x<72057594037927936 :=(by simp at hp; omega);have hg:(c0::q)[i+1]? = some c:=by
   have:=zSk h;rw[List.getElem?_take,if_pos (by omega)]at this
   simpa using this
  have ew:IntKind.u64.wrap (IntKind.u64.wrap (256 * (x:Int))+IntKind.u64.wrap (c.toNat:Int))=((256 * x+c.toNat:Nat):Int):=by
   rw[zB8 (n:=256 * (x:Int)) (by omega) (by omega),zB8 (n:=(c.toNat:Int)) (by omega) (by omega),zB8 (by omega) (by omega)]; omega
  rw[zEp,hm,decide_eq_true (by omega:((i+1:Nat):Int)<=(m:Int)),cond_true,zP8 hg,obs,ew,zAy (by omega),zH6 hm h8 hq r (i+1) k _ (zK1 h) (by simpa using hk) (by rw[Nat.pow_succ]; omega)]
  rfl
def Mq27 (F:List UInt8->Int->Option (CV×Int)) (d:Nat) (b:List UInt8):Prop:=match rd d b with
 | some (v,r)=>F b (d:Int)=some (v,((b.length - r.length:Nat):Int))
 | none=>F b (d:Int)=some (.mk 0 0 [] [],0)
theorem zUm (v:CV):1<=v.code.length:=by
 obtain⟨k,i,t,l⟩:=v;have h1:1<=(CV.mk k i t l).head.length :=(by simp only[CV.head]; split <;> simp);simp only[CV.code,List.length_append]; omega
theorem zH7 {F:List UInt8->Int->Option (CV×Int)}{d:Nat} (hd:d<=64){N:Nat} (hN:N<=20000000){b:List UInt8} (hb:b.length<=20000000) (hF:∀ b',b'.length<=b.length->b'.length<b.length->Mq27 F d b') :
  ∀ (m i k at':Nat) (acc:List CV),m+i=N->m<k->at'<=b.length->1<=at'->acc.length<=i ->
  match rds (rd d) m (b.drop at') with
  | some (l,r)=>zB7 F b ((d:Int)+1) (N:Int) k (i:Int) (at':Int) acc=some (.go (((b.length - r.length:Nat):Int),acc++l))
  | none=>zB7 F b ((d:Int)+1) (N:Int) k (i:Int) (at':Int) acc=some (.ret (.mk 0 0 [] [],0))
 | _,_,0,_,_,_,h,_,_,_=>by omega
 | 0,i,k+1,at',acc,hm,_,ha,h1,_=>by
  simp only[rds]
  rw[zB7,wrap64_in (n:=(N:Int)) (by omega) (by omega),decide_eq_false (by omega:¬ (i:Int)<(N:Int)),List.append_nil,List.length_drop]
  have:b.length - (b.length - at')=at' :=(by omega);rw[this]; rfl
 | m+1,i,k+1,at',acc,hm,hk,ha,h1,hacc=>by
  have hlen:(b.drop at').length=b.length - at':=List.length_drop;have ed:(b.take ((b.length:Nat):Int).toNat).drop ((at':Nat):Int).toNat=b.drop at' :=(by simp);have e:IntKind.i64.wrap ((d:Int)+1 - 1)=(d:Int) :=(by rw[wrap64_in (by omega) (by omega)]; omega);generalize hZ:zB7 F b ((d:Int)+1) (N:Int) (k+1) (i:Int) (at':Int) acc=Z;rw[zB7,wrap64_in (n:=(N:Int)) (by omega) (by omega),decide_eq_true (by omega:(i:Int)<(N:Int)),cond_true,zAK ⟨by omega,by omega,by omega⟩,ed,e]at hZ;simp only[rds]
  have hmf:Mq27 F d (b.drop at'):=hF (b.drop at') (by omega) (by omega)
  unfold Mq27 at hmf;cases hx:rd d (b.drop at') with
  | none =>
   rw[hx]at hmf;dsimp only at hmf ⊢;rw[← hZ,hmf]; rfl
  | some p =>
   obtain⟨⟨v1,v2,v3,v4⟩,r⟩:=p;rw[hx]at hmf;dsimp only at hmf ⊢;have hg:=(zOX (b.drop at').length (by omega) d _ _ r (Nat.le_refl _) hx).eq;have hl2:=congrArg List.length hg;have hcp:=zUm (CV.mk v1 v2 v3 v4)
   rw[List.length_append]at hl2;have hz:((((b.drop at').length - r.length:Nat):Int) == 0)=false :=(by rw[beq_eq_false_iff_ne]; omega);have hat:IntKind.i64.wrap ((at':Int)+(((b.drop at').length - r.length:Nat):Int))=((b.length - r.length:Nat):Int) :=(by rw[wrap64_in (by omega) (by omega)]; omega);have hr:b.drop (b.length - r.length)=r:=by
    have e1:b.length - r.length=at'+(CV.mk v1 v2 v3 v4).code.length :=(by omega);rw[e1,← List.drop_drop,hg,List.drop_left]
   rw[hmf]at hZ;simp only[obs]at hZ;rw[hz,cond_false,zAK (by simp; omega),zAy (by omega),hat]at hZ;have ih:=zH7 hd hN hb hF m (i+1) k (b.length - r.length) (acc++[CV.mk v1 v2 v3 v4]) (by omega) (by omega) (by omega) (by omega) (by simp; omega)
   rw[hr]at ih;cases hy:rds (rd d) m r with
   | none =>
    rw[hy]at ih;dsimp only at ih ⊢;rw[← hZ,ih]
   | some q =>
    obtain⟨l,r2⟩:=q;rw[hy]at ih;dsimp only at ih ⊢;rw[← hZ,ih]; simp
theorem zKC:∀ (n d:Nat) (b:List UInt8),d<=64->b.length<=20000000->b.length+d+30<n->Mq27 (zCG n) d b
 | 0,_,_,_,_,h=>by omega
 | n+1,d,[],hd,hb,hn=>by
  unfold Mq27;have:rd d []=none :=(by cases d <;> rfl);rw[this]
  dsimp only;rw[zCG]; rfl
 | n+1,0,c::q,hd,hb,hn=>by
  unfold Mq27;dsimp only[rd]
  have e0:((((c::q).length:Nat):Int) == 0)=false :=(by rw[beq_eq_false_iff_ne]; simp; omega);rw[zCG,e0]; rfl
 | n+1,d+1,c::q,hd,hb,hn=>by
  unfold Mq27;have hc:=c.toNat_lt;simp only[List.length_cons]at hb hn;have e0:((((c::q).length:Nat):Int) == 0)=false :=(by rw[beq_eq_false_iff_ne]; simp; omega);have e1:((((d+1:Nat)):Int) == 0)=false :=(by rw[beq_eq_false_iff_ne]; omega);have ea:at? (c::q) 0=some c:=zAv (l:=c::q) (i:=0) (by simp)
  have e2:IntKind.u64.wrap ((c.toNat:Int).tmod 64)=((c.toNat % 64:Nat):Int):=by
   rw[Int.tmod_eq_emod_of_nonneg (by omega),zB8 (by omega) (by omega)]; omega
  have e7:IntKind.i64.wrap ((IntKind.i64.wrap (c.toNat:Int)).tdiv 64)=((c.toNat / 64:Nat):Int):=by
   rw[wrap64_in (n:=(c.toNat:Int)) (by omega) (by omega),Int.tdiv_eq_ediv_of_nonneg (by omega),wrap64_in (by omega) (by omega)]; omega
  generalize hZ:zCG (n+1) (c::q) (((d+1:Nat)):Int)=Z;rw[zCG,e0,cond_false,e1,cond_false,ea]at hZ;simp only[obs]at hZ;rw[e2,e7]at hZ
  by_cases h0:c.toNat<64
  ·rw[decide_eq_true (by omega:(c.toNat:Int)<64),cond_true]at hZ;simp only[rd,hdr,if_pos h0]
   exact hZ.symm
  ·rw[decide_eq_false (by omega:¬ (c.toNat:Int)<64),cond_false]at hZ;have tail:∀ (N at':Nat) (r:List UInt8),N<18446744073709551616->(c::q).drop at'=r->1<=at'->at'<=(c::q).length ->
     ((bif ((((c.toNat / 64:Nat)):Int) == 1) then (
      bif (((N:Int).tmod 2) == 1) then (
       some (.go ((at':Int),IntKind.i64.wrap ((IntKind.i64.wrap (0 - (IntKind.i64.wrap (IntKind.u64.wrap ((N:Int).tdiv 2))))) - 1),[],[]))
      ) else (
       some (.go ((at':Int),IntKind.i64.wrap (IntKind.u64.wrap ((N:Int).tdiv 2)),[],[]))
      )
     ) else (
      bif ((((c.toNat / 64:Nat)):Int) == 2) then (
       bif decide ((IntKind.u64.wrap (IntKind.i64.wrap (((c::q).length:Int) - (at':Int))))<(N:Int)) then (
        some (.ret (CV.mk 0 0 [] [],0))
       ) else (
        req (0<=(at':Int)/\(at':Int)<=IntKind.i64.wrap ((at':Int)+(IntKind.i64.wrap (N:Int)))/\IntKind.i64.wrap ((at':Int)+(IntKind.i64.wrap (N:Int)))<=((c::q).length:Int)) <|
        some (.go (IntKind.i64.wrap ((at':Int)+(IntKind.i64.wrap (N:Int))),0,((c::q).take (IntKind.i64.wrap ((at':Int)+(IntKind.i64.wrap (N:Int)))).toNat).drop (at':Int).toNat,[]))
       )
      ) else (
       bif decide ((IntKind.u64.wrap (IntKind.i64.wrap (((c::q).length:Int) - (at':Int))))<(N:Int)) then (
        some (.ret (CV.mk 0 0 [] [],0))
       ) else (
        (zB7 (zCG n) (c::q) (((d+1:Nat)):Int) (N:Int) n 0 (at':Int) []).bind fun fl=>match fl with
        | .ret r=>some (.ret r)
        | .go ⟨x35,l36⟩ =>
         some (.go (x35,0,[],l36))
       )
      )
     ):Option (Fl (CV×Int) (Int×Int×(List UInt8)×(List CV)))).bind fun fl=>match fl with
     | .ret r=>some r
     | .go ⟨x22,x23,x24,l25⟩ =>
      some (CV.mk (((c.toNat / 64:Nat)):Int) x23 x24 l25,x22))=match (if c.toNat / 64=1 then some (CV.mk 1 (unz N) [] [],r) else if r.length<N then none else if c.toNat / 64=2 then some (.mk 2 0 (r.take N) [],r.drop N)
       else match rds (rd d) N r with
        | none=>none
        | some (l,r')=>some (.mk 3 0 [] l,r')) with
      | some (v,r)=>some (v,(((c::q).length - r.length:Nat):Int))
      | none=>some (CV.mk 0 0 [] [],0):=by
    intro N at' r hN hr ha1 ha2;have hrl:r.length=(c::q).length - at' :=(by rw[← hr,List.length_drop]);simp only[List.length_cons]at ha2 hrl ⊢;have hw:IntKind.u64.wrap (IntKind.i64.wrap (((q.length+1:Nat):Int) - (at':Int)))=(r.length:Int):=by
     rw[wrap64_in (by omega) (by omega),zB8 (by omega) (by omega)]; omega
    by_cases k1:c.toNat / 64=1
    ·rw[if_pos k1,k1,show(((1:Nat):Int) == 1)=true from rfl,cond_true]
     have et:(N:Int).tmod 2=((N % 2:Nat):Int) :=(by rw[Int.tmod_eq_emod_of_nonneg (by omega)]; omega);have ev:IntKind.i64.wrap (IntKind.u64.wrap ((N:Int).tdiv 2))=((N / 2:Nat):Int):=by
      rw[Int.tdiv_eq_ediv_of_nonneg (by omega),zB8 (by omega) (by omega),wrap64_in (by omega) (by omega)]; omega
     have eat:(((q.length+1 - r.length:Nat)):Int)=(at':Int) :=(by omega);rw[et,ev]
     dsimp only;rw[eat]
     unfold unz
     by_cases ho:N % 2=1
     ·rw[if_pos ho,show((((N % 2:Nat)):Int) == 1)=true by rw[beq_iff_eq]; omega,cond_true,wrap64_in (n:=0 - ((N / 2:Nat):Int)) (by omega) (by omega),wrap64_in (by omega) (by omega)]
      simp only[obs]
      congr 3; omega
     ·rw[if_neg ho,show((((N % 2:Nat)):Int) == 1)=false by rw[beq_eq_false_iff_ne]; omega]
      rfl
    ·rw[if_neg k1,show((((c.toNat / 64:Nat)):Int) == 1)=false by rw[beq_eq_false_iff_ne]; omega,cond_false]
     simp only[hw]
     by_cases k2:c.toNat / 64=2
     ·rw[show((((c.toNat / 64:Nat)):Int) == 2)=true by rw[beq_iff_eq]; omega,cond_true]
      by_cases hl:r.length<N
      ·rw[if_pos hl,decide_eq_true (by omega:(r.length:Int)<(N:Int))]; rfl
      ·have es:IntKind.i64.wrap ((at':Int)+(IntKind.i64.wrap (N:Int)))=((at'+N:Nat):Int):=by
        rw[wrap64_in (n:=(N:Int)) (by omega) (by omega),wrap64_in (by omega) (by omega)]; omega
       have ed:(((c::q).take ((((at'+N:Nat)):Int)).toNat).drop ((at':Int)).toNat)=r.take N:=by
        rw[← hr]
        have x1:((((at'+N:Nat)):Int)).toNat=at'+N :=(by omega);have x2:((at':Int)).toNat=at' :=(by omega);rw[x1,x2,List.drop_take]; congr 1; omega
       rw[if_neg hl,if_pos k2,decide_eq_false (by omega:¬ (r.length:Int)<(N:Int)),cond_false,es,zAK ⟨by omega,by omega,by omega⟩,ed,k2]
       dsimp only;rw[List.length_drop]
       have:(((q.length+1 - (r.length - N):Nat)):Int)=((at'+N:Nat):Int) :=(by omega);rw[this]; rfl
     ·rw[show((((c.toNat / 64:Nat)):Int) == 2)=false by rw[beq_eq_false_iff_ne]; omega,cond_false]
      by_cases hl:r.length<N
      ·rw[if_pos hl,decide_eq_true (by omega:(r.length:Int)<(N:Int))]; rfl
      ·have k3:c.toNat / 64=3 :=(by omega);rw[if_neg hl,if_neg k2,decide_eq_false (by omega:¬ (r.length:Int)<(N:Int)),cond_false,k3]
       have key:=zH7 (F:=zCG n) (d:=d) (by omega) (N:=N) (by omega) (b:=c::q) (by simp; omega) (fun b' h1 h2=>zKC n d b' (by omega) (by simp at h1; omega) (by simp at h1; omega)) N 0 n at' [] (by omega) (by omega) (by simp; omega) ha1 (by simp)
       rw[hr]at key;cases hy:rds (rd d) N r with
       | none =>
        rw[hy]at key;have key':zB7 (zCG n) (c::q) (((d+1:Nat)):Int) (N:Int) n 0 (at':Int) []=_:=key;rw[key']; rfl
       | some p =>
        obtain⟨l,r2⟩:=p;rw[hy]at key;have key':zB7 (zCG n) (c::q) (((d+1:Nat)):Int) (N:Int) n 0 (at':Int) []=_:=key;rw[key']; rfl
   have hrd:∀ {k N:Nat} {r:List UInt8},hdr (c::q)=some (k,N,r)->rd (d+1) (c::q)=(if k=1 then some (CV.mk 1 (unz N) [] [],r) else if r.length<N then none else if k=2 then some (.mk 2 0 (r.take N) [],r.drop N)
       else match rds (rd d) N r with
        | none=>none
        | some (l,r')=>some (.mk 3 0 [] l,r')):=fun h=>by first | (rw[rd,h]; done) | (rw[rd,h]; rfl)
   have fin:∀ {N at':Nat} {r:List UInt8},hdr (c::q)=some (c.toNat / 64,N,r)->N<18446744073709551616->(c::q).drop at'=r->1<=at'->at'<=(c::q).length->∀ {W:Option (CV×Int)},_=W->(match rd (d+1) (c::q) with
     | some (v,r)=>W=some (v,(((c::q).length - r.length:Nat):Int))
     | none=>W=some (CV.mk 0 0 [] [],0)):=fun {N at' r} h1 h2 h3 h4 h5 {W} hW=>by
    have:=(tail N at' r h2 h3 h4 h5).symm.trans hW;rw[hrd h1]
    split <;> (rename_i hx; rw[hx]at this; exact this.symm)
   by_cases h1:c.toNat % 64<56
   ·rw[decide_eq_false (by omega:¬ (56:Int)<=((c.toNat % 64:Nat):Int)),cond_false]at hZ;exact fin (at':=1) (r:=q) (by rw[hdr,if_neg h0,if_pos h1]) (by omega) rfl (by omega) (by simp) hZ
   ·have e3:IntKind.i64.wrap (IntKind.i64.wrap ((c.toNat % 64:Nat):Int) - 55)=((c.toNat % 64 - 55:Nat):Int):=by
     rw[wrap64_in (n:=((c.toNat % 64:Nat):Int)) (by omega) (by omega),wrap64_in (by omega) (by omega)]; omega
    have e4:IntKind.i64.wrap (1+(((c.toNat % 64 - 55:Nat)):Int))=((1+(c.toNat % 64 - 55):Nat):Int) :=(by rw[wrap64_in (by omega) (by omega)]; omega);rw[decide_eq_true (by omega:(56:Int)<=((c.toNat % 64:Nat):Int)),cond_true,e3,e4]at hZ;have hmk:c.toNat % 64 - 55<=8/\1<=c.toNat % 64 - 55 :=(by omega);have hmm:IntKind.i64.wrap ((IntKind.i64.wrap (IntKind.u64.wrap ((c.toNat:Int).tmod 64))) - 55)=((c.toNat % 64 - 55:Nat):Int) :=(by rw[e2,e3]);have hhdr:hdr (c::q)=if q.length<c.toNat % 64 - 55 then none else if q.headD 0=0∨valA 0 (q.take (c.toNat % 64 - 55))<56 then none
      else some (c.toNat / 64,valA 0 (q.take (c.toNat % 64 - 55)),q.drop (c.toNat % 64 - 55)):=by rw[hdr,if_neg h0,if_neg h1]
    generalize c.toNat % 64 - 55=m at *
    by_cases h2:q.length<m
    ·rw[if_pos h2]at hhdr;rw[decide_eq_true (by simp; omega:(((c::q).length:Nat):Int)<((1+m:Nat):Int)),cond_true]at hZ;rw[rd,hhdr]
     exact hZ.symm
    ·rw[if_neg h2]at hhdr;rw[decide_eq_false (by simp; omega:¬ (((c::q).length:Nat):Int)<((1+m:Nat):Int)),cond_false]at hZ;obtain⟨c1,q1,rfl⟩:∃ c1 q1,q=c1::q1:=by
      cases q with
      | nil=>simp at h2; omega
      | cons a b=>exact⟨a,b,rfl⟩
     have ea1:at? (c::c1::q1) 1=some c1:=zP8 (i:=1) rfl;rw[ea1,obs,obs]at hZ
     by_cases h3:c1=0
     ·subst h3;rw[if_pos (.inl rfl)]at hhdr;rw[show((((0:UInt8).toNat:Nat):Int) == 0)=true from rfl,cond_true]at hZ;rw[rd,hhdr]
      exact hZ.symm
     ·have h3':(((c1.toNat:Nat):Int) == 0)=false:=by
       rw[beq_eq_false_iff_ne]
       intro h;exact h3 (UInt8.toNat_inj.1 (by simpa using h))
      have hl:=zH6 (c0:=c) (q:=c1::q1) (e:=c) hmm hmk.1 (by omega) ((c1::q1).take m) 0 n 0 rfl (by rw[List.length_take]; omega) (by simp)
      have hl':zEp (c::c1::q1) c n 1 0=_:=hl;rw[h3',cond_false,hl',obs]at hZ;have hlt:=zM0 ((c1::q1).take m)
      have hlm:((c1::q1).take m).length=m :=(by rw[List.length_take]; omega);rw[hlm]at hlt;have hp8:(256:Nat) ^ m<=256 ^ 8:=Nat.pow_le_pow_right (by omega) hmk.1
      by_cases h4:valA 0 ((c1::q1).take m)<56
      ·rw[if_pos (.inr h4)]at hhdr;rw[decide_eq_true (by omega:((valA 0 ((c1::q1).take m):Nat):Int)<56),cond_true]at hZ;rw[rd,hhdr]
       exact hZ.symm
      ·rw[if_neg (by rintro(h | h); exact h3 h; exact h4 h)]at hhdr;rw[decide_eq_false (by omega:¬ ((valA 0 ((c1::q1).take m):Nat):Int)<56),cond_false,obs]at hZ;exact fin (at':=1+m) hhdr (by simp at hp8; omega) (by rw[Nat.add_comm]; rfl) (by omega) (by simp; simp at h2; omega) hZ
theorem zNA {n:Nat}{b:List UInt8} (hn:1048700<n) (hb:b.length<=3000):zJk n b=some (dec b):=by
 have h:=zKC n 64 b (by omega) (by omega) (by omega)
 unfold Mq27 at h;unfold dec;rw[if_neg (by omega),zJk]
 cases hx:rd 64 b with
 | none =>
  rw[hx]at h;have h':zCG n b 64=_:=h;rw[h']; rfl
 | some p =>
  obtain⟨⟨v1,v2,v3,v4⟩,r⟩:=p;rw[hx]at h;have h':zCG n b 64=_:=h;rw[h']
  have hg:=congrArg List.length (zOX b.length (by omega) 64 b _ r (Nat.le_refl _) hx).eq;have hcp:=zUm (CV.mk v1 v2 v3 v4)
  rw[List.length_append]at hg;have e1:(((b.length - r.length:Nat):Int) == 0)=false :=(by rw[beq_eq_false_iff_ne]; omega);simp only[obs,e1,cond_false]
  cases r with
  | nil =>
   have e2:(((b.length - ([]:List UInt8).length:Nat):Int) != (b.length:Int))=false :=(by simp);rw[e2,cond_false,decide_eq_false (by omega:¬ (1048576:Int)<((b.length - ([]:List UInt8).length:Nat):Int))]; rfl
  | cons c r =>
   have e2:(((b.length - (c::r).length:Nat):Int) != (b.length:Int))=true:=by
    simp only[List.length_cons]at hg ⊢
    simp; omega
   rw[e2]; rfl
def Rd (e e':Int):Prop:=(e ≠ 0->e'=e)/\(e=0->e'=0∨e'=4)
theorem Rd.refl (e:Int):Rd e e:=⟨fun _=>rfl,fun h=>.inl h⟩
theorem Rd.trans {a b c:Int} (h:Rd a b) (k:Rd b c):Rd a c:=by
 refine⟨fun ha=>?_,fun ha=>?_⟩
 ·have:=h.1 ha;subst this;exact k.1 ha
 ·rcases h.2 ha with hb | hb
  ·exact k.2 hb
  ·exact .inr (by rw[k.1 (by omega),hb])
theorem Rd.zero {a b:Int} (h:Rd a b) (hb:b=0):a=0:=by
 by_cases ha:a=0
 ·exact ha
 ·rw[← h.1 ha]; exact hb
def zPB (e:Int):Int:=if e=0 then 4 else e
theorem Rd.fail (e:Int):Rd e (zPB e):=by
 unfold zPB
 by_cases h:e=0
 ·rw[if_pos h]; exact⟨fun h'=>absurd h h',fun _=>.inr rfl⟩
 ·rw[if_neg h]; exact Rd.refl e
theorem zIt (e:Int):zPB e ≠ 0:=by
 unfold zPB
 by_cases h:e=0
 ·rw[if_pos h]; decide
 ·rw[if_neg h]; exact h
theorem zOn (e:Int):zBh e=some (zPB e):=by
 unfold zBh zPB
 by_cases h:e=0
 ·subst h; rfl
 ·simp only[beq_eq_false_iff_ne.2 h,cond_false,if_neg h]
structure RX {α:Type} (V:α->CV) (e:Int) (v:CV) (y:α) (e':Int):Prop where
 rd:Rd e e'
 ok:e'=0->v.proper=true->v=V y
 go:e=0->∀ z,v=V z->y=z/\e'=0
theorem zYJ {i:Int}{t:List UInt8}{l:List CV} (h:(CV.mk 1 i t l).proper=true):t=[]/\l=[]:=by
 simp[CV.proper,CV.own]at h;exact⟨h.1.1,h.1.2⟩
theorem zYK {i:Int}{t:List UInt8}{l:List CV} (h:(CV.mk 2 i t l).proper=true):i=0/\l=[]:=by
 simp[CV.proper,CV.own]at h;exact⟨h.1.1,h.1.2⟩
theorem zLi {i:Int}{t:List UInt8}{l:List CV} (h:(CV.mk 3 i t l).proper=true):i=0/\t=[]/\CV.propers l=true:=by
 simp[CV.proper,CV.own]at h;exact⟨h.1.1,h.1.2,h.2⟩
theorem number_eq (e:Int) (v:CV):∃ y e',zAG e v=some (y,e')/\RX numV e v y e':=by
 obtain⟨k,i,t,l⟩:=v;unfold zAG
 by_cases h:k=1
 ·subst h;refine⟨i,e,rfl,Rd.refl e,fun _ hp=>?_,fun h z hz=>?_⟩
  ·obtain⟨rfl,rfl⟩:=zYJ hp
   rfl
  ·unfold numV at hz
   injection hz with _ h2
   exact⟨h2,h⟩
 ·refine⟨i,zPB e,?_,Rd.fail e,fun h'=>absurd h' (zIt e),fun _ z hz=>?_⟩
  ·simp only[show(k != 1)=true from bne_iff_ne.2 h,cond_true,zOn,obs]
  ·unfold numV at hz
   injection hz with h1
   exact absurd h1 h
theorem zNQ (e:Int) (v:CV):∃ y e',zBy e v=some (y,e')/\RX zI0 e v y e':=by
 obtain⟨k,i,t,l⟩:=v;unfold zBy
 by_cases h:k=2
 ·subst h;refine⟨t,e,rfl,Rd.refl e,fun _ hp=>?_,fun h z hz=>?_⟩
  ·obtain⟨rfl,rfl⟩:=zYK hp
   rfl
  ·unfold zI0 at hz
   injection hz with _ _ h2
   exact⟨h2,h⟩
 ·refine⟨t,zPB e,?_,Rd.fail e,fun h'=>absurd h' (zIt e),fun _ z hz=>?_⟩
  ·simp only[show(k != 2)=true from bne_iff_ne.2 h,cond_true,zOn,obs]
  ·unfold zI0 at hz
   injection hz with h1
   exact absurd h1 h
def CV.list:CV->List CV
 | .mk _ _ _ l=>l
theorem zMg (e:Int) (v:CV):∃ e',zBi e v=some (v.list,e')/\RX zCg e v v.list e':=by
 obtain⟨k,i,t,l⟩:=v;unfold zBi
 by_cases h:k=3
 ·subst h;refine⟨e,rfl,Rd.refl e,fun _ hp=>?_,fun h z hz=>?_⟩
  ·obtain⟨rfl,rfl,_⟩:=zLi hp
   rfl
  ·unfold zCg at hz
   injection hz with _ _ _ h2
   exact⟨h2,h⟩
 ·refine⟨zPB e,?_,Rd.fail e,fun h'=>absurd h' (zIt e),fun _ z hz=>?_⟩
  ·simp only[show(k != 3)=true from bne_iff_ne.2 h,cond_true,zOn,obs]
   rfl
  ·unfold zCg at hz
   injection hz with h1
   exact absurd h1 h
structure RT (s:Nat) (e:Int) (v:CV) (y:List CV) (e':Int):Prop where
 len:s<=y.length
 rd:Rd e e'
 from_:y=v.list∨(e' ≠ 0/\y=List.replicate s (.mk 0 0 [] []))
 ok:e'=0->v.proper=true->v=zCg y
 go:e=0->∀ l,v=zCg l->s<=l.length->y=l/\e'=0
theorem zUU (e:Int) (v:CV) (s:Nat) (hs:s<=100) (hw:v.list.length<=1073741824):∃ y e',zB3 e v (s:Int)=some (y,e')/\RT s e v y e':=by
 obtain⟨e1,h1,h2⟩:=zMg e v;obtain⟨k,i,t,l⟩:=v;simp only[CV.list]at h1 h2 hw;unfold zB3;simp only[h1,obs]
 by_cases hl:l.length<s
 ·rw[zAB (by omega),cond_true,zOn]
  simp only[obs]
  rw[zAK ⟨by omega,by omega⟩]
  refine⟨_,_,rfl,by simp,h2.rd.trans (Rd.fail e1),.inr ⟨zIt e1,by simp⟩,fun h=>absurd h (zIt e1),fun he z hz hlen=>?_⟩
  have:=(h2.go he z hz).1;rw[this]at hl
  omega
 ·rw[zAx (by omega)]
  exact⟨l,e1,rfl,by omega,h2.rd,.inl rfl,h2.ok,fun he z hz _=>h2.go he z hz⟩
structure RE (s:Nat) (e:Int) (v:CV) (y:List CV) (e':Int):Prop where
 len:s<=y.length
 rd:Rd e e'
 from_:y=v.list∨(e' ≠ 0/\y=List.replicate s (.mk 0 0 [] []))
 ok:e'=0->v.proper=true->v=zCg y/\y.length=s
 go:e=0->∀ l,v=zCg l->l.length=s->y=l/\e'=0
theorem zJ0 (e:Int) (v:CV) (s:Nat) (hs:s<=100) (hw:v.list.length<=1073741824):∃ y e',zBa e v (s:Int)=some (y,e')/\RE s e v y e':=by
 obtain⟨y,e1,h1,h2⟩:=zUU e v s hs hw;have hlen:=h2.len;obtain⟨k,i,t,l⟩:=v;unfold zBa;simp only[h1,obs]
 by_cases hl:y.length=s
 ·have hb:((y.length:Int) != (s:Int))=false :=(by rw[hl]; simp);simp only[hb,cond_false,obs]
  exact⟨y,e1,rfl,hlen,h2.rd,h2.from_,fun h hp=>⟨h2.ok h hp,hl⟩,fun he z hz hzl=>h2.go he z hz (by omega)⟩
 ·have hb:((y.length:Int) != (s:Int))=true:=bne_iff_ne.2 (by omega)
  simp only[hb,cond_true,zOn,obs]
  refine⟨y,zPB e1,rfl,hlen,h2.rd.trans (Rd.fail e1),?_,fun h=>absurd h (zIt e1),fun he z hz hzl=>?_⟩
  ·rcases h2.from_ with h | ⟨_,h⟩
   ·exact .inl h
   ·exact .inr ⟨zIt e1,h⟩
  ·have:=(h2.go he z hz (by omega)).1;rw[this]at hl;exact absurd hzl hl
def zQc {α:Type} (fl:Fl (List α×Int) (Int×List α)):List α×Int:=match fl with
 | .ret r=>r
 | .go (e,l)=>(l,e)
structure EX {α:Type} (V:α->CV) (e:Int) (l:List CV) (acc ys:List α) (e':Int):Prop where
 rd:Rd e e'
 ok:e'=0->CV.propers l=true->∃ zs,ys=acc++zs/\l=zs.map V
 go:e=0->∀ zs,l=zs.map V->ys=acc++zs/\e'=0
 len:ys.length<=acc.length+l.length
theorem zLY {α:Type}{V:α->CV}{l:List CV} (F:Int->CV->Option (α×Int)) (L:Nat->Int->Int->List α->Option (Fl (List α×Int) (Int×List α))) (hl:l.length<=1073741824)
  (hF:∀ e x,x∈l->∃ y e',F e x=some (y,e')/\RX V e x y e')
  (h1:∀ (k i:Nat) (e:Int) (acc:List α),i<l.length->e ≠ 0->L (k+1) e (i:Int) acc=some (.ret ([],e)))
  (h2:∀ (k i:Nat) (acc:List α) (h:i<l.length) (y:α) (w:Int),acc.length<=i->F 0 l[i]=some (y,w)->L (k+1) 0 (i:Int) acc=L k w ((i+1:Nat):Int) (acc++[y]))
  (h3:∀ (k:Nat) (e:Int) (acc:List α),L (k+1) e (l.length:Int) acc=some (.go (e,acc))) :
  ∀ (k i:Nat) (e:Int) (acc:List α),l.length - i<k->i<=l.length->acc.length<=i->∃ fl,L k e (i:Int) acc=some fl/\EX V e (l.drop i) acc (zQc fl).1 (zQc fl).2
 | 0,i,e,acc,h,_,_=>by omega
 | k+1,i,e,acc,h,hi,ha=>by
  by_cases hj:i<l.length
  ·by_cases he:e=0
   ·subst he;obtain⟨y,w,f1,f2⟩:=hF 0 l[i] (List.getElem_mem hj)
    obtain⟨fl,g1,g2⟩:=zLY F L hl hF h1 h2 h3 k (i+1) w (acc++[y]) (by omega) (by omega) (by simp only[List.length_append,List.length_cons,List.length_nil]; omega)
    refine⟨fl,by rw[h2 k i acc hj y w ha f1]; exact g1,f2.rd.trans g2.rd,fun h0 hp=>?_,fun _ zs hz=>?_,?_⟩
    ·rw[List.drop_eq_getElem_cons hj]at hp ⊢;simp only[CV.propers,Bool.and_eq_true]at hp;obtain⟨zs,e1,e2⟩:=g2.ok h0 hp.2;have e3:=f2.ok (g2.rd.zero h0) hp.1;exact⟨y::zs,by rw[e1,List.append_assoc]; rfl,by rw[List.map_cons,← e3,← e2]⟩
    ·rw[List.drop_eq_getElem_cons hj]at hz;cases zs with
     | nil=>cases hz
     | cons z zs =>
      simp only[List.map_cons,List.cons.injEq]at hz;obtain⟨e1,e2⟩:=f2.go rfl z hz.1;obtain⟨e3,e4⟩:=g2.go e2 zs hz.2;exact⟨by rw[e3,e1,List.append_assoc]; rfl,e4⟩
    ·have:=g2.len;simp only[List.length_append,List.length_cons,List.length_nil,List.length_drop]at this ⊢
     omega
   ·refine⟨_,h1 k i e acc hj he,Rd.refl e,fun h0=>absurd h0 he,fun h0=>absurd h0 he,?_⟩
    simp[zQc]
  ·obtain rfl:i=l.length :=(by omega);rw[h3,List.drop_length]
   refine⟨_,rfl,Rd.refl e,fun _ _=>⟨[],by simp[zQc],rfl⟩,fun h0 zs hz=>?_,by simp[zQc]⟩
   cases zs with
   | nil=>exact⟨by simp[zQc],h0⟩
   | cons z zs=>simp at hz
structure EL {α:Type} (V:α->CV) (e:Int) (l:List CV) (ys:List α) (e':Int):Prop where
 rd:Rd e e'
 ok:e'=0->CV.propers l=true->l=ys.map V
 go:e=0->∀ zs,l=zs.map V->ys=zs/\e'=0
 len:ys.length<=l.length
theorem EX.el {α:Type}{V:α->CV}{e:Int}{l:List CV}{ys:List α}{e':Int} (h:EX V e l [] ys e'):EL V e l ys e' :=
 ⟨h.rd,fun h0 hp=>by obtain⟨zs,rfl,hz⟩:=h.ok h0 hp; exact hz,h.go,by have:=h.len; simpa using this⟩
theorem zYv (n:Nat) (e:Int) (l:List CV) (hn:l.length<n) (hl:l.length<=1073741824):∃ ys e',zCM n e l=some (ys,e')/\EL numV e l ys e':=by
 obtain⟨fl,g1,g2⟩:=zLY (V:=numV) (l:=l) zAG (zAQ l) hl (fun e x _=>number_eq e x)
  (fun k i e acc h he=>by
   rw[zAQ,zAB (Int.ofNat_lt.2 h),cond_true,zAv h]
   generalize l[i]=x;obtain⟨x1,x2,x3,x4⟩:=x;simp only[obs,show(e != 0)=true from bne_iff_ne.2 he,cond_true])
  (fun k i acc h y w ha hF=>by
   rw[zAQ,zAB (Int.ofNat_lt.2 h),cond_true,zAv h]
   generalize l[i]=x at hF;obtain⟨x1,x2,x3,x4⟩:=x;simp only[obs,show((0:Int) != 0)=false from rfl,cond_false,hF]
   rw[zAK (by simp only[List.length_cons,List.length_nil]; omega),zAy (by omega)])
  (fun k e acc=>by rw[zAQ,zAx (by omega)]; rfl) n 0 e [] (by omega) (Nat.zero_le _) (Nat.le_refl _)
 rw[show((0:Nat):Int)=0 from rfl]at g1;rw[List.drop_zero]at g2;unfold zCM;simp only[g1,obs]
 cases fl with
 | ret r=>exact⟨_,_,rfl,g2.el⟩
 | go q=>obtain⟨q1,q2⟩:=q; exact⟨_,_,rfl,g2.el⟩
theorem zNM {α:Type}{V:α->CV}{e e1 e':Int}{v:CV}{ys:List α} (h1:RX zCg e v v.list e1) (h2:EL V e1 v.list ys e'):RX (fun ys=>zCg (ys.map V)) e v ys e' :=
 ⟨h1.rd.trans h2.rd,fun h0 hp=>by
  have h3:=h1.ok (h2.rd.zero h0) hp;have h4:CV.propers v.list=true:=by
   rw[h3]at hp;exact(zLi hp).2.2
  have h5:=h2.ok h0 h4;rw[← h5]
  exact h3,fun h0 z hz=>by
  obtain⟨h3,h4⟩:=h1.go h0 _ hz;exact h2.go h4 z h3⟩
theorem zLk (n:Nat) (e:Int) (v:CV) (hn:v.list.length<n) (hl:v.list.length<=1073741824):∃ ys e',zBo n e v=some (ys,e')/\RX zHj e v ys e':=by
 obtain⟨e1,h1,h2⟩:=zMg e v;obtain⟨ys,e',h3,h4⟩:=zYv n e1 v.list hn hl;have h5:=zNM h2 h4;obtain⟨k,i,t,l⟩:=v;unfold zBo;simp only[h1,h3,obs]
 exact⟨ys,e',rfl,h5⟩
theorem CV.list_w (v:CV):CV.ws v.list<v.w:=by
 obtain⟨k,i,t,l⟩:=v;simp only[CV.list,CV.w]
 omega
theorem CV.list_len (v:CV):v.list.length<v.w:=by
 have h1:=CV.list_w v;have h2:=CV.ws_len v.list
 omega
theorem CV.list_mem {v x:CV} (h:x∈v.list):x.w<v.w:=by
 have h1:=CV.list_w v;have h2:=CV.w_mem h
 omega
theorem CV.ws_drop:∀ (l:List CV) (i:Nat),CV.ws (l.drop i)<=CV.ws l
 | [],i=>by rw[List.drop_nil]; exact Nat.le_refl _
 | v::l,0=>Nat.le_refl _
 | v::l,i+1=>by
  have:=CV.ws_drop l i;simp only[List.drop_succ_cons,CV.ws]
  omega
theorem zA5 {l:List CV}{i:Nat} (h:CV.propers l=true) (hi:i<l.length):l[i].proper=true:=CV.propers_mem h (List.getElem_mem hi)
theorem zNj:∀ {l:List CV} (i:Nat),CV.propers l=true->CV.propers (l.drop i)=true
 | [],i,h=>by rw[List.drop_nil]; rfl
 | v::l,0,h=>h
 | v::l,i+1,h=>by
  simp only[CV.propers,Bool.and_eq_true]at h;exact zNj i h.2
theorem zO3:∀ n:Nat,(∀ (e:Int) (v:CV),2 * v.w+8<n->v.w<=16777216->∃ t e',zAW n e v=some (t,e')/\RX zD8 e v t e') /\
  (∀ (e:Int) (l:List CV),2 * CV.ws l+7<n->CV.ws l<=16777216->∃ ts e',zBv n e l=some (ts,e')/\EL zD8 e l ts e')
 | 0=>⟨fun _ _ h=>by omega,fun _ _ h=>by omega⟩
 | n+1=>by
  obtain⟨ih1,ih2⟩:=zO3 n;refine⟨fun e v h hb=>?_,fun e l h hb=>?_⟩
  ·have hlw:=CV.list_w v;have hll:=CV.list_len v;obtain⟨y,e1,h1,h2⟩:=zUU e v 3 (by omega) (by omega)
   rw[show((3:Nat):Int)=3 from rfl]at h1;have hlen:=h2.len;have hyw:CV.ws (y.drop 3)<=CV.ws v.list:=by
    rcases h2.from_ with q | ⟨_,q⟩
    ·rw[q]; exact CV.ws_drop _ _
    ·rw[q]; exact Nat.zero_le _
   have hyl:y.length<=16777216:=by
    rcases h2.from_ with q | ⟨_,q⟩
    ·rw[q]; omega
    ·rw[q,List.length_replicate]; omega
   obtain⟨a,e2,a1,a2⟩:=number_eq e1 y[0];obtain⟨b,e3,b1,b2⟩:=zNQ e2 y[1];obtain⟨c,e4,c1,c2⟩:=number_eq e3 y[2];obtain⟨ts,e5,d1,d2⟩:=ih2 e4 (y.drop 3) (by omega) (by omega)
   have g0:at? y 0=some y[0]:=zAv (i:=0) (by omega)
   have g1:at? y 1=some y[1]:=zAv (i:=1) (by omega)
   have g2:at? y 2=some y[2]:=zAv (i:=2) (by omega)
   have hy:y=y[0]::y[1]::y[2]::y.drop 3:=by
    rw[← List.drop_eq_getElem_cons (by omega),← List.drop_eq_getElem_cons (by omega),← List.drop_eq_getElem_cons (by omega)]
    rfl
   have r45:=d2.rd;have r35:=c2.rd.trans r45;have r25:=b2.rd.trans r35;have r15:=a2.rd.trans r25;refine⟨.mk a b c ts,e5,?_,h2.rd.trans r15,fun h0 hp=>?_,fun h0 z hz=>?_⟩
   ·have ed:((y.take (y.length:Int).toNat).drop (3:Int).toNat)=y.drop 3 :=(by rw[Int.toNat_natCast,List.take_length]; rfl);generalize y[0]=y0 at *;generalize y[1]=y1 at *;generalize y[2]=y2 at *;obtain⟨v1,v2,v3,v4⟩:=v;obtain⟨p1,p2,p3,p4⟩:=y0;obtain⟨q1,q2,q3,q4⟩:=y1;obtain⟨s1,s2,s3,s4⟩:=y2;unfold zAW;simp only[h1,g0,g1,g2,a1,b1,c1,obs]
    rw[zAK ⟨by omega,by omega,by omega⟩,ed,d1]
    simp only[obs]
   ·have hv:=h2.ok (r15.zero h0) hp;have hpy:CV.propers y=true:=by
     rw[hv]at hp;exact(zLi hp).2.2
    have k0:=a2.ok (r25.zero h0) (zA5 hpy (by omega))
    have k1:=b2.ok (r35.zero h0) (zA5 hpy (by omega))
    have k2:=c2.ok (r45.zero h0) (zA5 hpy (by omega))
    have k3:=d2.ok h0 (zNj 3 hpy)
    rw[hv,zD8,zDR,← k0,← k1,← k2,← k3,← hy]
   ·obtain⟨z1,z2,z3,z4⟩:=z;rw[zD8]at hz;obtain⟨hy',h01⟩:=h2.go h0 _ hz (by simp only[List.length_cons]; omega)
    have k0:y[0]=numV z1 :=(by simp only[hy',List.getElem_cons_zero]);have k1:y[1]=zI0 z2 :=(by simp only[hy',List.getElem_cons_succ,List.getElem_cons_zero]);have k2:y[2]=numV z3 :=(by simp only[hy',List.getElem_cons_succ,List.getElem_cons_zero]);have k3:y.drop 3=z4.map zD8 :=(by rw[hy',← zDR]; rfl);obtain⟨m0,n0⟩:=a2.go h01 z1 k0;obtain⟨m1,n1⟩:=b2.go n0 z2 k1;obtain⟨m2,n2⟩:=c2.go n1 z3 k2;obtain⟨m3,n3⟩:=d2.go n2 z4 k3;exact⟨by rw[m0,m1,m2,m3],n3⟩
  ·have hll:=CV.ws_len l;obtain⟨fl,g1,g2⟩:=zLY (V:=zD8) (l:=l) (zAW n) (zAM (zAW n) l) (by omega)
    (fun e x hx=>ih1 e x (by have:=CV.w_mem hx; omega) (by have:=CV.w_mem hx; omega))
    (fun k i e acc h he=>by
     rw[zAM,zAB (Int.ofNat_lt.2 h),cond_true,zAv h]
     generalize l[i]=x;obtain⟨x1,x2,x3,x4⟩:=x;simp only[obs,show(e != 0)=true from bne_iff_ne.2 he,cond_true])
    (fun k i acc h y w ha hF=>by
     rw[zAM,zAB (Int.ofNat_lt.2 h),cond_true,zAv h]
     generalize l[i]=x at hF;obtain⟨x1,x2,x3,x4⟩:=x;obtain⟨y1,y2,y3,y4⟩:=y;simp only[obs,show((0:Int) != 0)=false from rfl,cond_false,hF]
     rw[zAK (by simp only[List.length_cons,List.length_nil]; omega),zAy (by omega)])
    (fun k e acc=>by rw[zAM,zAx (by omega)]; rfl) n 0 e [] (by omega) (Nat.zero_le _) (Nat.le_refl _)
   rw[show((0:Nat):Int)=0 from rfl]at g1;rw[List.drop_zero]at g2;unfold zBv;simp only[g1,obs]
   cases fl with
   | ret r=>exact⟨_,_,rfl,g2.el⟩
   | go q=>obtain⟨q1,q2⟩:=q; exact⟨_,_,rfl,g2.el⟩
theorem zZx (n:Nat) (e:Int) (v:CV) (hn:200000000<n) (hb:v.w<=16777216):∃ o e',zCZ n e v=some (o,e')/\RX opV e v o e':=by
 have hll:=CV.list_len v;obtain⟨y,e1,h1,h2⟩:=zJ0 e v 8 (by omega) (by omega)
 rw[show((8:Nat):Int)=8 from rfl]at h1;have hlen:=h2.len;have hyw:∀ x∈y,x.w<=16777216:=fun x hx=>by
  rcases h2.from_ with q | ⟨_,q⟩
  ·rw[q]at hx; have:=CV.list_mem hx; omega
  ·rw[q]at hx;rw[List.eq_of_mem_replicate hx]
   simp[CV.w,CV.ws]
 have hg:∀ i (hi:i<y.length),y[i].w<=16777216:=fun i hi=>hyw _ (List.getElem_mem hi)
 obtain⟨x0,f0,a0,b0⟩:=number_eq e1 y[0];obtain⟨x1,f1,a1,b1⟩:=zLk n f0 y[1] (by have:=hg 1 (by omega); have:=CV.list_len y[1]; omega) (by have:=hg 1 (by omega); have:=CV.list_len y[1]; omega)
 obtain⟨x2,f2,a2,b2⟩:=number_eq f1 y[2];obtain⟨x3,f3,a3,b3⟩:=number_eq f2 y[3];obtain⟨f4,a4,b4⟩:=zMg f3 y[4];obtain⟨x4,f5,a5,b5⟩:=(zO3 n).2 f4 y[4].list (by have:=hg 4 (by omega); have:=CV.list_w y[4]; omega) (by have:=hg 4 (by omega); have:=CV.list_w y[4]; omega)
 have b45:=zNM b4 b5;obtain⟨x6,f6,a6,b6⟩:=number_eq f5 y[5];obtain⟨x7,f7,a7,b7⟩:=zNQ f6 y[6];obtain⟨x8,f8,a8,b8⟩:=zNQ f7 y[7];have g0:at? y 0=some y[0]:=zAv (i:=0) (by omega)
 have g1:at? y 1=some y[1]:=zAv (i:=1) (by omega)
 have g2:at? y 2=some y[2]:=zAv (i:=2) (by omega)
 have g3:at? y 3=some y[3]:=zAv (i:=3) (by omega)
 have g4:at? y 4=some y[4]:=zAv (i:=4) (by omega)
 have g5:at? y 5=some y[5]:=zAv (i:=5) (by omega)
 have g6:at? y 6=some y[6]:=zAv (i:=6) (by omega)
 have g7:at? y 7=some y[7]:=zAv (i:=7) (by omega)
 have hy:y=y[0]::y[1]::y[2]::y[3]::y[4]::y[5]::y[6]::y[7]::y.drop 8:=by
  rw[← List.drop_eq_getElem_cons (by omega),← List.drop_eq_getElem_cons (by omega),← List.drop_eq_getElem_cons (by omega),← List.drop_eq_getElem_cons (by omega),← List.drop_eq_getElem_cons (by omega),← List.drop_eq_getElem_cons (by omega),← List.drop_eq_getElem_cons (by omega),← List.drop_eq_getElem_cons (by omega)]
  rfl
 have r7:=b8.rd;have r6:=b7.rd.trans r7;have r5:=b6.rd.trans r6;have r4:=b45.rd.trans r5;have r3:=b3.rd.trans r4;have r2:=b2.rd.trans r3;have r1:=b1.rd.trans r2;have r0:=b0.rd.trans r1;refine⟨(x0,x1,x2,x3,x4,x6,x7,x8),f8,?_,h2.rd.trans r0,fun h0 hp=>?_,fun h0 z hz=>?_⟩
 ·clear hy hg hyw
  generalize y[0]=y0 at *;generalize y[1]=y1 at *;generalize y[2]=y2 at *;generalize y[3]=y3 at *;generalize y[4]=y4 at *;generalize y[5]=y5 at *;generalize y[6]=y6 at *;generalize y[7]=y7 at *;obtain⟨v1,v2,v3,v4⟩:=v;obtain⟨s1,s2,s3,s4⟩:=y0;obtain⟨t1,t2,t3,t4⟩:=y1;obtain⟨u1,u2,u3,u4⟩:=y2;obtain⟨p1,p2,p3,p4⟩:=y3;obtain⟨q1,q2,q3,q4⟩:=y4;obtain⟨c1,c2,c3,c4⟩:=y5;obtain⟨d1,d2,d3,d4⟩:=y6;obtain⟨e1_,e2_,e3_,e4_⟩:=y7;unfold zCZ;simp only[h1,g0,g1,g2,g3,g4,g5,g6,g7,a0,a1,a2,a3,a4,a5,a6,a7,a8,obs]
 ·obtain⟨hv,hl8⟩:=h2.ok (r0.zero h0) hp;have hpy:CV.propers y=true:=by
   rw[hv]at hp;exact(zLi hp).2.2
  have k0:=b0.ok (r1.zero h0) (zA5 hpy (by omega))
  have k1:=b1.ok (r2.zero h0) (zA5 hpy (by omega))
  have k2:=b2.ok (r3.zero h0) (zA5 hpy (by omega))
  have k3:=b3.ok (r4.zero h0) (zA5 hpy (by omega))
  have k4:=b45.ok (r5.zero h0) (zA5 hpy (by omega))
  have k5:=b6.ok (r6.zero h0) (zA5 hpy (by omega))
  have k6:=b7.ok (r7.zero h0) (zA5 hpy (by omega))
  have k7:=b8.ok h0 (zA5 hpy (by omega))
  have k8:y.drop 8=[]:=List.drop_eq_nil_iff.2 (by omega)
  rw[hv,opV]
  dsimp only;rw[zDR,← k0,← k1,← k2,← k3,← k4,← k5,← k6,← k7,← k8,← hy]
 ·obtain⟨z0,z1,z2,z3,z4,z5,z6,z7⟩:=z;rw[opV]at hz;dsimp only at hz;rw[zDR]at hz;obtain⟨hy',h01⟩:=h2.go h0 _ hz rfl;have k0:y[0]=numV z0 :=(by simp only[hy',List.getElem_cons_zero]);have k1:y[1]=zHj z1 :=(by simp only[hy',List.getElem_cons_succ,List.getElem_cons_zero]);have k2:y[2]=numV z2 :=(by simp only[hy',List.getElem_cons_succ,List.getElem_cons_zero]);have k3:y[3]=numV z3 :=(by simp only[hy',List.getElem_cons_succ,List.getElem_cons_zero]);have k4:y[4]=zCg (z4.map zD8):=by simp only[hy',List.getElem_cons_succ,List.getElem_cons_zero]
  have k5:y[5]=numV z5 :=(by simp only[hy',List.getElem_cons_succ,List.getElem_cons_zero]);have k6:y[6]=zI0 z6 :=(by simp only[hy',List.getElem_cons_succ,List.getElem_cons_zero]);have k7:y[7]=zI0 z7 :=(by simp only[hy',List.getElem_cons_succ,List.getElem_cons_zero]);obtain⟨m0,n0⟩:=b0.go h01 z0 k0;obtain⟨m1,n1⟩:=b1.go n0 z1 k1;obtain⟨m2,n2⟩:=b2.go n1 z2 k2;obtain⟨m3,n3⟩:=b3.go n2 z3 k3;obtain⟨m4,n4⟩:=b45.go n3 z4 k4;obtain⟨m5,n5⟩:=b6.go n4 z5 k5;obtain⟨m6,n6⟩:=b7.go n5 z6 k6;obtain⟨m7,n7⟩:=b8.go n6 z7 k7;exact⟨by rw[m0,m1,m2,m3,m4,m5,m6,m7],n7⟩
theorem zQu (n:Nat) (e:Int) (v:CV) (hn:200000000<n) (hb:v.w<=16777216):∃ c e',zBS n e v=some (c,e')/\RX curV e v c e':=by
 have hll:=CV.list_len v;obtain⟨y,e1,h1,h2⟩:=zJ0 e v 2 (by omega) (by omega)
 rw[show((2:Nat):Int)=2 from rfl]at h1;have hlen:=h2.len;have hyw:∀ x∈y,x.w<=16777216:=fun x hx=>by
  rcases h2.from_ with q | ⟨_,q⟩
  ·rw[q]at hx; have:=CV.list_mem hx; omega
  ·rw[q]at hx;rw[List.eq_of_mem_replicate hx]
   simp[CV.w,CV.ws]
 have hg:∀ i (hi:i<y.length),y[i].w<=16777216:=fun i hi=>hyw _ (List.getElem_mem hi)
 obtain⟨x0,f0,a0,b0⟩:=zLk n e1 y[0] (by have:=hg 0 (by omega); have:=CV.list_len y[0]; omega) (by have:=hg 0 (by omega); have:=CV.list_len y[0]; omega)
 obtain⟨x1,f1,a1,b1⟩:=zLk n f0 y[1] (by have:=hg 1 (by omega); have:=CV.list_len y[1]; omega) (by have:=hg 1 (by omega); have:=CV.list_len y[1]; omega)
 have g0:at? y 0=some y[0]:=zAv (i:=0) (by omega)
 have g1:at? y 1=some y[1]:=zAv (i:=1) (by omega)
 have hy:y=y[0]::y[1]::y.drop 2:=by
  rw[← List.drop_eq_getElem_cons (by omega),← List.drop_eq_getElem_cons (by omega)]
  rfl
 have r1:=b1.rd;have r0:=b0.rd.trans r1;refine⟨(x0,x1),f1,?_,h2.rd.trans r0,fun h0 hp=>?_,fun h0 z hz=>?_⟩
 ·clear hy hg hyw
  generalize y[0]=y0 at *;generalize y[1]=y1 at *;obtain⟨v1,v2,v3,v4⟩:=v;obtain⟨s1,s2,s3,s4⟩:=y0;obtain⟨t1,t2,t3,t4⟩:=y1;unfold zBS;simp only[h1,g0,g1,a0,a1,obs]
 ·obtain⟨hv,hl8⟩:=h2.ok (r0.zero h0) hp;have hpy:CV.propers y=true:=by
   rw[hv]at hp;exact(zLi hp).2.2
  have k0:=b0.ok (r1.zero h0) (zA5 hpy (by omega))
  have k1:=b1.ok h0 (zA5 hpy (by omega))
  have k8:y.drop 2=[]:=List.drop_eq_nil_iff.2 (by omega)
  rw[hv,curV]
  dsimp only;rw[← k0,← k1,← k8,← hy]
 ·obtain⟨z0,z1⟩:=z;rw[curV]at hz;dsimp only at hz;obtain⟨hy',h01⟩:=h2.go h0 _ hz rfl;have k0:y[0]=zHj z0 :=(by simp only[hy',List.getElem_cons_zero]);have k1:y[1]=zHj z1 :=(by simp only[hy',List.getElem_cons_succ,List.getElem_cons_zero]);obtain⟨m0,n0⟩:=b0.go h01 z0 k0;obtain⟨m1,n1⟩:=b1.go n0 z1 k1;exact⟨by rw[m0,m1],n1⟩
theorem zZm (n:Nat) (e:Int) (l:List CV) (hn:200000000<n) (hb:CV.ws l<=16777216):∃ ts e',zC3 n e l=some (ts,e')/\EL opV e l ts e':=by
 have hll:=CV.ws_len l;obtain⟨fl,g1,g2⟩:=zLY (V:=opV) (l:=l) (zCZ n) (zAU n l) (by omega)
  (fun e x hx=>zZx n e x hn (by have:=CV.w_mem hx; omega))
  (fun k i e acc h he=>by
   rw[zAU,zAB (Int.ofNat_lt.2 h),cond_true,zAv h]
   generalize l[i]=x;obtain⟨x1,x2,x3,x4⟩:=x;simp only[obs,show(e != 0)=true from bne_iff_ne.2 he,cond_true])
  (fun k i acc h y w ha hF=>by
   rw[zAU,zAB (Int.ofNat_lt.2 h),cond_true,zAv h]
   generalize l[i]=x at hF;obtain⟨x1,x2,x3,x4⟩:=x;obtain⟨y1,y2,y3,y4,y5,y6,y7,y8⟩:=y;simp only[obs,show((0:Int) != 0)=false from rfl,cond_false,hF]
   rw[zAK (by simp only[List.length_cons,List.length_nil]; omega),zAy (by omega)])
  (fun k e acc=>by rw[zAU,zAx (by omega)]; rfl) n 0 e [] (by omega) (Nat.zero_le _) (Nat.le_refl _)
 rw[show((0:Nat):Int)=0 from rfl]at g1;rw[List.drop_zero]at g2;unfold zC3;simp only[g1,obs]
 cases fl with
 | ret r=>exact⟨_,_,rfl,g2.el⟩
 | go q=>obtain⟨q1,q2⟩:=q; exact⟨_,_,rfl,g2.el⟩
theorem zVw (n:Nat) (e:Int) (v:CV) (hn:200000000<n) (hb:v.w<=16777216):∃ r e',zBT n e v=some (r,e')/\RX recV e v r e':=by
 have hll:=CV.list_len v;obtain⟨y,e1,h1,h2⟩:=zJ0 e v 3 (by omega) (by omega)
 rw[show((3:Nat):Int)=3 from rfl]at h1;have hlen:=h2.len;have hyw:∀ x∈y,x.w<=16777216:=fun x hx=>by
  rcases h2.from_ with q | ⟨_,q⟩
  ·rw[q]at hx; have:=CV.list_mem hx; omega
  ·rw[q]at hx;rw[List.eq_of_mem_replicate hx]
   simp[CV.w,CV.ws]
 have hg:∀ i (hi:i<y.length),y[i].w<=16777216:=fun i hi=>hyw _ (List.getElem_mem hi)
 obtain⟨f0,a0,b0⟩:=zMg e1 y[0];obtain⟨x0,f1,a1,b1⟩:=zZm n f0 y[0].list hn (by have:=hg 0 (by omega); have:=CV.list_w y[0]; omega)
 have b01:=zNM b0 b1;obtain⟨x2,f2,a2,b2⟩:=zQu n f1 y[1] hn (hg 1 (by omega))
 obtain⟨x3,f3,a3,b3⟩:=zQu n f2 y[2] hn (hg 2 (by omega))
 have g0:at? y 0=some y[0]:=zAv (i:=0) (by omega)
 have g1:at? y 1=some y[1]:=zAv (i:=1) (by omega)
 have g2:at? y 2=some y[2]:=zAv (i:=2) (by omega)
 have hy:y=y[0]::y[1]::y[2]::y.drop 3:=by
  rw[← List.drop_eq_getElem_cons (by omega),← List.drop_eq_getElem_cons (by omega),← List.drop_eq_getElem_cons (by omega)]
  rfl
 have r2:=b3.rd;have r1:=b2.rd.trans r2;have r0:=b01.rd.trans r1;refine⟨(x0,x2,x3),f3,?_,h2.rd.trans r0,fun h0 hp=>?_,fun h0 z hz=>?_⟩
 ·clear hy hg hyw
  generalize y[0]=y0 at *;generalize y[1]=y1 at *;generalize y[2]=y2 at *;obtain⟨v1,v2,v3,v4⟩:=v;obtain⟨s1,s2,s3,s4⟩:=y0;obtain⟨t1,t2,t3,t4⟩:=y1;obtain⟨u1,u2,u3,u4⟩:=y2;obtain⟨p1,p2⟩:=x2;obtain⟨q1,q2⟩:=x3;unfold zBT;simp only[h1,g0,g1,g2,a0,a1,a2,a3,obs]
 ·obtain⟨hv,hl8⟩:=h2.ok (r0.zero h0) hp;have hpy:CV.propers y=true:=by
   rw[hv]at hp;exact(zLi hp).2.2
  have k0:=b01.ok (r1.zero h0) (zA5 hpy (by omega))
  have k1:=b2.ok (r2.zero h0) (zA5 hpy (by omega))
  have k2:=b3.ok h0 (zA5 hpy (by omega))
  have k8:y.drop 3=[]:=List.drop_eq_nil_iff.2 (by omega)
  rw[hv,recV]
  dsimp only;rw[← k0,← k1,← k2,← k8,← hy]
 ·obtain⟨z0,z1,z2⟩:=z;rw[recV]at hz;dsimp only at hz;obtain⟨hy',h01⟩:=h2.go h0 _ hz rfl;have k0:y[0]=zCg (z0.map opV) :=(by simp only[hy',List.getElem_cons_zero]);have k1:y[1]=curV z1 :=(by simp only[hy',List.getElem_cons_succ,List.getElem_cons_zero]);have k2:y[2]=curV z2 :=(by simp only[hy',List.getElem_cons_succ,List.getElem_cons_zero]);obtain⟨m0,n0⟩:=b01.go h01 z0 k0;obtain⟨m1,n1⟩:=b2.go n0 z1 k1;obtain⟨m2,n2⟩:=b3.go n1 z2 k2;exact⟨by rw[m0,m1,m2],n2⟩
theorem zYw (n:Nat) (e:Int) (l:List CV) (hn:200000000<n) (hb:CV.ws l<=16777216):∃ ts e',zBZ n e l=some (ts,e')/\EL recV e l ts e':=by
 have hll:=CV.ws_len l;obtain⟨fl,g1,g2⟩:=zLY (V:=recV) (l:=l) (zBT n) (zAH n l) (by omega)
  (fun e x hx=>zVw n e x hn (by have:=CV.w_mem hx; omega))
  (fun k i e acc h he=>by
   rw[zAH,zAB (Int.ofNat_lt.2 h),cond_true,zAv h]
   generalize l[i]=x;obtain⟨x1,x2,x3,x4⟩:=x;simp only[obs,show(e != 0)=true from bne_iff_ne.2 he,cond_true])
  (fun k i acc h y w ha hF=>by
   rw[zAH,zAB (Int.ofNat_lt.2 h),cond_true,zAv h]
   generalize l[i]=x at hF;obtain⟨x1,x2,x3,x4⟩:=x;obtain⟨y1,⟨y2,y3⟩,⟨y4,y5⟩⟩:=y;simp only[obs,show((0:Int) != 0)=false from rfl,cond_false,hF]
   rw[zAK (by simp only[List.length_cons,List.length_nil]; omega),zAy (by omega)])
  (fun k e acc=>by rw[zAH,zAx (by omega)]; rfl) n 0 e [] (by omega) (Nat.zero_le _) (Nat.le_refl _)
 rw[show((0:Nat):Int)=0 from rfl]at g1;rw[List.drop_zero]at g2;unfold zBZ;simp only[g1,obs]
 cases fl with
 | ret r=>exact⟨_,_,rfl,g2.el⟩
 | go q=>obtain⟨q1,q2⟩:=q; exact⟨_,_,rfl,g2.el⟩
theorem zNn (n:Nat) (e:Int) (v:CV) (hn:200000000<n) (hb:v.w<=16777216):∃ d e',zB0 n e v=some (d,e')/\RX docV e v d e':=by
 have hll:=CV.list_len v;obtain⟨y,e1,h1,h2⟩:=zJ0 e v 4 (by omega) (by omega)
 rw[show((4:Nat):Int)=4 from rfl]at h1;have hlen:=h2.len;have hyw:∀ x∈y,x.w<=16777216:=fun x hx=>by
  rcases h2.from_ with q | ⟨_,q⟩
  ·rw[q]at hx; have:=CV.list_mem hx; omega
  ·rw[q]at hx;rw[List.eq_of_mem_replicate hx]
   simp[CV.w,CV.ws]
 have hg:∀ i (hi:i<y.length),y[i].w<=16777216:=fun i hi=>hyw _ (List.getElem_mem hi)
 obtain⟨x0,f0,a0,b0⟩:=zNQ e1 y[0];obtain⟨x1,f1,a1,b1⟩:=(zO3 n).1 f0 y[1] (by have:=hg 1 (by omega); omega) (hg 1 (by omega))
 obtain⟨x2,f2,a2,b2⟩:=number_eq f1 y[2];obtain⟨f3,a3,b3⟩:=zMg f2 y[3];obtain⟨x3,f4,a4,b4⟩:=zYw n f3 y[3].list hn (by have:=hg 3 (by omega); have:=CV.list_w y[3]; omega)
 have b34:=zNM b3 b4;have g0:at? y 0=some y[0]:=zAv (i:=0) (by omega)
 have g1:at? y 1=some y[1]:=zAv (i:=1) (by omega)
 have g2:at? y 2=some y[2]:=zAv (i:=2) (by omega)
 have g3:at? y 3=some y[3]:=zAv (i:=3) (by omega)
 have hy:y=y[0]::y[1]::y[2]::y[3]::y.drop 4:=by
  rw[← List.drop_eq_getElem_cons (by omega),← List.drop_eq_getElem_cons (by omega),← List.drop_eq_getElem_cons (by omega),← List.drop_eq_getElem_cons (by omega)]
  rfl
 have r3:=b34.rd;have r2:=b2.rd.trans r3;have r1:=b1.rd.trans r2;have r0:=b0.rd.trans r1;refine⟨(x0,x1,x3,x2),f4,?_,h2.rd.trans r0,fun h0 hp=>?_,fun h0 z hz=>?_⟩
 ·clear hy hg hyw
  generalize y[0]=y0 at *;generalize y[1]=y1 at *;generalize y[2]=y2 at *;generalize y[3]=y3 at *;obtain⟨v1,v2,v3,v4⟩:=v;obtain⟨s1,s2,s3,s4⟩:=y0;obtain⟨t1,t2,t3,t4⟩:=y1;obtain⟨u1,u2,u3,u4⟩:=y2;obtain⟨p1,p2,p3,p4⟩:=y3;obtain⟨q1,q2,q3,q4⟩:=x1;unfold zB0;simp only[h1,g0,g1,g2,g3,a0,a1,a2,a3,a4,obs]
 ·obtain⟨hv,hl8⟩:=h2.ok (r0.zero h0) hp;have hpy:CV.propers y=true:=by
   rw[hv]at hp;exact(zLi hp).2.2
  have k0:=b0.ok (r1.zero h0) (zA5 hpy (by omega))
  have k1:=b1.ok (r2.zero h0) (zA5 hpy (by omega))
  have k2:=b2.ok (r3.zero h0) (zA5 hpy (by omega))
  have k3:=b34.ok h0 (zA5 hpy (by omega))
  have k8:y.drop 4=[]:=List.drop_eq_nil_iff.2 (by omega)
  rw[hv,docV]
  dsimp only;rw[← k0,← k1,← k2,← k3,← k8,← hy]
 ·obtain⟨z0,z1,z2,z3⟩:=z;rw[docV]at hz;dsimp only at hz;obtain⟨hy',h01⟩:=h2.go h0 _ hz rfl;have k0:y[0]=zI0 z0 :=(by simp only[hy',List.getElem_cons_zero]);have k1:y[1]=zD8 z1 :=(by simp only[hy',List.getElem_cons_succ,List.getElem_cons_zero]);have k2:y[2]=numV z3 :=(by simp only[hy',List.getElem_cons_succ,List.getElem_cons_zero]);have k3:y[3]=zCg (z2.map recV) :=(by simp only[hy',List.getElem_cons_succ,List.getElem_cons_zero]);obtain⟨m0,n0⟩:=b0.go h01 z0 k0;obtain⟨m1,n1⟩:=b1.go n0 z1 k1;obtain⟨m2,n2⟩:=b2.go n1 z3 k2;obtain⟨m3,n3⟩:=b34.go n2 z2 k3;exact⟨by rw[m0,m1,m2,m3],n3⟩
def zCV:CV:=.mk 0 0 [] []
def CV.int:CV->Int
 | .mk _ i _ _=>i
def CV.text:CV->List UInt8
 | .mk _ _ t _=>t
def CV.cw (v:CV):Nat:=v.text.length+CV.ws v.list
theorem CV.w_cw (v:CV):v.w=v.cw+1:=by
 obtain⟨k,i,t,l⟩:=v;simp only[CV.w,CV.cw,CV.text,CV.list]
def zAS (l:List CV) (i:Nat):CV:=(l[i]?).getD zCV
theorem zCT (v:CV) (i:Nat):zAL v (i:Int)=some (zAS v.list i):=by
 obtain⟨k,j,t,l⟩:=v;unfold zAL zAS;simp only[CV.list]
 by_cases h:i<l.length
 ·rw[zAB (by omega),cond_true,zAv h,List.getElem?_eq_getElem h]
  generalize l[i]=x;obtain⟨x1,x2,x3,x4⟩:=x
  rfl
 ·rw[zAx (by omega),cond_false,List.getElem?_eq_none (by omega)]
  rfl
theorem zBj (l:List CV) (i j:Nat) (hj:j=i+1):(zAS l i).cw+CV.ws (l.drop j)<=CV.ws (l.drop i):=by
 subst hj;unfold zAS
 by_cases h:i<l.length
 ·rw[List.getElem?_eq_getElem h,List.drop_eq_getElem_cons h]
  have:=CV.w_cw l[i];simp only[Option.getD_some,CV.ws]
  omega
 ·rw[List.getElem?_eq_none (by omega),List.drop_eq_nil_iff.2 (by omega)]
  exact Nat.zero_le _
structure RL {α:Type} (V:α->CV) (l:List CV) (ys:List α):Prop where
 w:CV.ws (ys.map V)<=20 * CV.ws l
 go:∀ zs,l=zs.map V->ys=zs
 len:ys.length=l.length
theorem zMb {α:Type}{V:α->CV}{l:List CV} (L:Nat->Int->List α->Option (List α)) (hl:l.length<=1073741824)
  (hE:∀ (i:Nat) (h:i<l.length),∃ y,(∀ k acc,acc.length<=i->L (k+1) (i:Int) acc=L k ((i+1:Nat):Int) (acc++[y]))/\(V y).w<=20 * l[i].w/\∀ z,l[i]=V z->y=z)
  (he:∀ (k:Nat) (acc:List α),L (k+1) (l.length:Int) acc=some acc) :
  ∀ (k i:Nat) (acc:List α),l.length - i<k->i<=l.length->acc.length<=i->∃ ys,L k (i:Int) acc=some (acc++ys)/\RL V (l.drop i) ys
 | 0,i,acc,h,_,_=>by omega
 | k+1,i,acc,h,hi,ha=>by
  by_cases hj:i<l.length
  ·obtain⟨y,h1,h2,h3⟩:=hE i hj;obtain⟨ys,g1,g2⟩:=zMb L hl hE he k (i+1) (acc++[y]) (by omega) (by omega) (by simp only[List.length_append,List.length_cons,List.length_nil]; omega)
   refine⟨y::ys,by rw[h1 k acc ha,g1,List.append_assoc]; rfl,⟨?_,fun zs hz=>?_,by have:=g2.len; simp only[List.length_cons,List.length_drop]at this ⊢; omega⟩⟩
   ·rw[List.drop_eq_getElem_cons hj]
    have:=g2.w;simp only[List.map_cons,CV.ws]
    omega
   ·rw[List.drop_eq_getElem_cons hj]at hz;cases zs with
    | nil=>cases hz
    | cons z zs =>
     simp only[List.map_cons,List.cons.injEq]at hz;rw[h3 z hz.1,g2.go zs hz.2]
  ·obtain rfl:i=l.length :=(by omega);rw[he,List.drop_length]
   refine⟨[],by rw[List.append_nil],⟨Nat.zero_le _,fun zs hz=>?_,rfl⟩⟩
   cases zs with
   | nil=>rfl
   | cons z zs=>cases hz
theorem zMf (n:Nat) (v:CV) (hn:v.list.length<n) (hl:v.list.length<=1073741824):∃ ys,zFG n v=some ys/\RL numV v.list ys:=by
 obtain⟨k,i,t,l⟩:=v;simp only[CV.list]at hn hl ⊢;obtain⟨ys,g1,g2⟩:=zMb (V:=numV) (l:=l) (zFk l) hl (fun i h=>by
   refine⟨l[i].int,fun k acc ha=>?_,?_,fun z hz=>by rw[hz]; rfl⟩
   ·rw[zFk,zAB (Int.ofNat_lt.2 h),cond_true,zAv h]
    generalize l[i]=x;obtain⟨x1,x2,x3,x4⟩:=x;simp only[obs,CV.int]
    rw[zAK (by simp only[List.length_cons,List.length_nil]; omega),zAy (by omega)]
   ·have:=CV.w_cw l[i];rw[zMF]
    omega)
  (fun k acc=>by rw[zFk,zAx (by omega)]; rfl) n 0 [] (by omega) (Nat.zero_le _) (Nat.le_refl _)
 rw[show((0:Nat):Int)=0 from rfl,List.nil_append]at g1;rw[List.drop_zero]at g2;unfold zFG;simp only[g1,obs]
 exact⟨ys,rfl,g2⟩
theorem zMV:∀ (n:Nat) (v:CV) (from_:Nat),v.w+5<n->v.w<=16777216->∃ ys,zEQ n v (from_:Int)=some ys/\RL zD8 (v.list.drop from_) ys
 | 0,_,_,h,_=>by omega
 | n+1,v,from_,h,hb=>by
  have hll:=CV.list_len v;obtain⟨kk,ii,tt,l⟩:=v;simp only[CV.list]at hll ⊢;have hmem:∀ x∈l,x.w<(CV.mk kk ii tt l).w:=fun x hx=>CV.list_mem (v:=.mk kk ii tt l) hx
  unfold zEQ
  by_cases hf:from_<=l.length
  ·obtain⟨ys,g1,g2⟩:=zMb (V:=zD8) (l:=l) (zDl (zEQ n) l) (by omega) (fun i h'=>by
     have hx:=hmem _ (List.getElem_mem h')
     obtain⟨kids,k1,k2⟩:=zMV n l[i] 3 (by omega) (by omega)
     rw[show((3:Nat):Int)=3 from rfl]at k1;have p0:=zCT l[i] 0;have p1:=zCT l[i] 1;have p2:=zCT l[i] 2;rw[show((0:Nat):Int)=0 from rfl]at p0;rw[show((1:Nat):Int)=1 from rfl]at p1;rw[show((2:Nat):Int)=2 from rfl]at p2;refine⟨.mk (zAS l[i].list 0).int (zAS l[i].list 1).text (zAS l[i].list 2).int kids,fun k acc ha=>?_,?_,fun z hz=>?_⟩
     ·rw[zDl,zAB (Int.ofNat_lt.2 h'),cond_true,zAv h']
      generalize l[i]=x at *;generalize zAS x.list 0=y0 at *;generalize zAS x.list 1=y1 at *;generalize zAS x.list 2=y2 at *;obtain⟨x1,x2,x3,x4⟩:=x;obtain⟨a1,a2,a3,a4⟩:=y0;obtain⟨b1,b2,b3,b4⟩:=y1;obtain⟨c1,c2,c3,c4⟩:=y2;simp only[obs,p0,p1,p2,k1,CV.int,CV.text]
      rw[zAK (by simp only[List.length_cons,List.length_nil]; omega),zAy (by omega)]
     ·have s0:=zBj l[i].list 0 1 rfl;have s1:=zBj l[i].list 1 2 rfl;have s2:=zBj l[i].list 2 3 rfl;have hw:=CV.w_cw l[i];have kw:=k2.w;rw[← zDR]at kw;rw[zD8,list_w]
      simp only[CV.ws,zMF,zJU,CV.cw,List.drop_zero]at *
      omega
     ·obtain⟨z1,z2,z3,z4⟩:=z;rw[zD8]at hz;have hk:=k2.go z4 (by rw[hz,← zDR]; rfl)
      rw[hz,hk]
      rfl)
    (fun k acc=>by rw[zDl,zAx (by omega)]; rfl) n from_ [] (by omega) hf (Nat.zero_le _)
   rw[List.nil_append]at g1;simp only[g1,obs]
   exact⟨ys,rfl,g2⟩
  ·obtain⟨m,rfl⟩:∃ m,n=m+1:=⟨n - 1,by omega⟩
   have e:zDl (zEQ (m+1)) l (m+1) (from_:Int) []=some []:=by
    rw[zDl,zAx (by omega)]; rfl
   simp only[e,obs]
   refine⟨[],rfl,?_⟩
   rw[List.drop_eq_nil_iff.2 (by omega)]
   refine⟨Nat.zero_le _,fun zs hz=>?_,rfl⟩
   cases zs with
   | nil=>rfl
   | cons z zs=>cases hz
theorem zYS (n:Nat) (x:CV) (hn:200000000<n) (hb:x.w<=16777216):∃ ys,(∀ k i t l,x = .mk k i t l->zC9 n k i t l n 0 []=some ys)/\RL opV (zAS x.list 0).list ys:=by
 obtain⟨kk,ii,tt,ll⟩:=x;have hp:=zCT (.mk kk ii tt ll) 0;rw[show((0:Nat):Int)=0 from rfl]at hp;have hs:=zBj ll 0 1 rfl;have hcw:=CV.w_cw (.mk kk ii tt ll)
 simp only[CV.list]at hp ⊢;simp only[CV.cw,CV.list,CV.text,List.drop_zero]at hs hcw;generalize zAS ll 0=P at *;obtain⟨P1,P2,P3,l⟩:=P;simp only[CV.list,CV.text]at hs ⊢;have hlen:=CV.ws_len l;obtain⟨ys,g1,g2⟩:=zMb (V:=opV) (l:=l) (fun k i acc=>zC9 n kk ii tt ll k i acc) (by omega) (fun i h'=>by
   have hx:=CV.w_mem (List.getElem_mem h')
   have s0:=zBj l[i].list 0 1 rfl;have s1:=zBj l[i].list 1 2 rfl;have s2:=zBj l[i].list 2 3 rfl;have s3:=zBj l[i].list 3 4 rfl;have s4:=zBj l[i].list 4 5 rfl;have s5:=zBj l[i].list 5 6 rfl;have s6:=zBj l[i].list 6 7 rfl;have s7:=zBj l[i].list 7 8 rfl;have hw:=CV.w_cw l[i];have w1:=CV.w_cw (zAS l[i].list 1)
   have w4:=CV.w_cw (zAS l[i].list 4)
   have l1:=CV.list_len (zAS l[i].list 1)
   have hcl:CV.ws l[i].list<=l[i].cw :=(by unfold CV.cw; omega);rw[List.drop_zero]at s0;obtain⟨r,r1,r2⟩:=zMf n (zAS l[i].list 1) (by omega) (by omega)
   obtain⟨m,m1,m2⟩:=zMV n (zAS l[i].list 4) 0 (by omega) (by omega)
   rw[show((0:Nat):Int)=0 from rfl]at m1;rw[List.drop_zero]at m2;have p0:=zCT l[i] 0;have p1:=zCT l[i] 1;have p2:=zCT l[i] 2;have p3:=zCT l[i] 3;have p4:=zCT l[i] 4;have p5:=zCT l[i] 5;have p6:=zCT l[i] 6;have p7:=zCT l[i] 7;rw[show((0:Nat):Int)=0 from rfl]at p0;rw[show((1:Nat):Int)=1 from rfl]at p1;rw[show((2:Nat):Int)=2 from rfl]at p2;rw[show((3:Nat):Int)=3 from rfl]at p3;rw[show((4:Nat):Int)=4 from rfl]at p4;rw[show((5:Nat):Int)=5 from rfl]at p5;rw[show((6:Nat):Int)=6 from rfl]at p6;rw[show((7:Nat):Int)=7 from rfl]at p7
   refine⟨((zAS l[i].list 0).int,r,(zAS l[i].list 2).int,(zAS l[i].list 3).int,m,(zAS l[i].list 5).int,(zAS l[i].list 6).text,(zAS l[i].list 7).text),fun k acc ha=>?_,?_,fun z hz=>?_⟩
   ·clear s0 s1 s2 s3 s4 s5 s6 s7 w1 w4 l1 r2 m2 hcl hw hx
    show zC9 n kk ii tt ll (k+1) (i:Int) acc=_;rw[zC9,hp]
    simp only[obs]
    rw[zAB (Int.ofNat_lt.2 h'),cond_true,zAv h']
    generalize l[i]=x at *;generalize zAS x.list 0=y0 at *;generalize zAS x.list 1=y1 at *;generalize zAS x.list 2=y2 at *;generalize zAS x.list 3=y3 at *;generalize zAS x.list 4=y4 at *;generalize zAS x.list 5=y5 at *;generalize zAS x.list 6=y6 at *;generalize zAS x.list 7=y7 at *;obtain⟨x1,x2,x3,x4⟩:=x;obtain⟨a1,a2,a3,a4⟩:=y0;obtain⟨b1,b2,b3,b4⟩:=y1;obtain⟨c1,c2,c3,c4⟩:=y2;obtain⟨d1,d2,d3,d4⟩:=y3;obtain⟨e1,e2,e3,e4⟩:=y4;obtain⟨f1,f2,f3,f4⟩:=y5;obtain⟨o1,o2,o3,o4⟩:=y6;obtain⟨q1,q2,q3,q4⟩:=y7;simp only[obs,p0,p1,p2,p3,p4,p5,p6,p7,r1,m1,CV.int,CV.text]
    rw[zAK (by simp only[List.length_cons,List.length_nil]; omega),zAy (by omega)]
   ·have rw_:=r2.w;have mw:=m2.w;rw[← zDR]at mw;rw[opV,list_w]
    simp only[CV.ws,zMF,zJU,zHj,list_w,CV.cw]at *
    omega
   ·obtain⟨z0,z1,z2,z3,z4,z5,z6,z7⟩:=z;rw[opV]at hz;dsimp only at hz;have e1:=r2.go z1 (by rw[hz]; rfl)
    have e4:=m2.go z4 (by rw[hz,← zDR]; rfl)
    rw[hz,e1,e4]
    rfl)
  (fun k acc=>by
   show zC9 n kk ii tt ll (k+1) (l.length:Int) acc=_;rw[zC9,hp]
   simp only[obs]
   rw[zAx (by omega)]; rfl) n 0 [] (by omega) (Nat.zero_le _) (Nat.le_refl _)
 rw[show((0:Nat):Int)=0 from rfl,List.nil_append]at g1;rw[List.drop_zero]at g2;refine⟨ys,fun k i t l' h=>?_,g2⟩
 injection h with q1 q2 q3 q4
 subst q1;subst q2;subst q3;subst q4;exact g1
theorem zXJ (n:Nat) (x:CV) (hn:200000000<n) (hb:x.w<=16777216):∃ ys,(∀ k i t l,x = .mk k i t l->zC8 n k i t l n 0 []=some ys)/\RL recV (zAS x.list 3).list ys:=by
 obtain⟨kk,ii,tt,ll⟩:=x;have hp:=zCT (.mk kk ii tt ll) 3;rw[show((3:Nat):Int)=3 from rfl]at hp;have hs:=zBj ll 3 4 rfl;have hd:=CV.ws_drop ll 3;have hcw:=CV.w_cw (.mk kk ii tt ll)
 simp only[CV.list]at hp ⊢;simp only[CV.cw,CV.list,CV.text]at hs hcw;generalize zAS ll 3=P at *;obtain⟨P1,P2,P3,l⟩:=P;simp only[CV.list,CV.text]at hs ⊢;have hlen:=CV.ws_len l;obtain⟨ys,g1,g2⟩:=zMb (V:=recV) (l:=l) (fun k i acc=>zC8 n kk ii tt ll k i acc) (by omega) (fun i h'=>by
   have hx:=CV.w_mem (List.getElem_mem h')
   have s0:=zBj l[i].list 0 1 rfl;have s1:=zBj l[i].list 1 2 rfl;have s2:=zBj l[i].list 2 3 rfl;have u0:=zBj (zAS l[i].list 1).list 0 1 rfl;have u1:=zBj (zAS l[i].list 1).list 1 2 rfl;have v0:=zBj (zAS l[i].list 2).list 0 1 rfl;have v1:=zBj (zAS l[i].list 2).list 1 2 rfl;have hw:=CV.w_cw l[i];have hcl:CV.ws l[i].list<=l[i].cw :=(by unfold CV.cw; omega);have hc1:CV.ws (zAS l[i].list 1).list<=(zAS l[i].list 1).cw :=(by unfold CV.cw; omega);have hc2:CV.ws (zAS l[i].list 2).list<=(zAS l[i].list 2).cw:=by unfold CV.cw; omega
   have hc0:CV.ws (zAS l[i].list 0).list<=(zAS l[i].list 0).cw :=(by unfold CV.cw; omega);rw[List.drop_zero]at s0 u0 v0;have wa:=CV.w_cw (zAS (zAS l[i].list 1).list 0)
   have wb:=CV.w_cw (zAS (zAS l[i].list 1).list 1)
   have wc:=CV.w_cw (zAS (zAS l[i].list 2).list 0)
   have wd:=CV.w_cw (zAS (zAS l[i].list 2).list 1)
   have la:=CV.list_len (zAS (zAS l[i].list 1).list 0)
   have lb:=CV.list_len (zAS (zAS l[i].list 1).list 1)
   have lc:=CV.list_len (zAS (zAS l[i].list 2).list 0)
   have ld:=CV.list_len (zAS (zAS l[i].list 2).list 1)
   obtain⟨o,o1,o2⟩:=zYS n l[i] hn (by omega)
   obtain⟨a,a1,a2⟩:=zMf n (zAS (zAS l[i].list 1).list 0) (by omega) (by omega)
   obtain⟨b,b1,b2⟩:=zMf n (zAS (zAS l[i].list 1).list 1) (by omega) (by omega)
   obtain⟨c,c1,c2⟩:=zMf n (zAS (zAS l[i].list 2).list 0) (by omega) (by omega)
   obtain⟨d,d1,d2⟩:=zMf n (zAS (zAS l[i].list 2).list 1) (by omega) (by omega)
   have p1:=zCT l[i] 1;have p2:=zCT l[i] 2;have p10:=zCT (zAS l[i].list 1) 0;have p11:=zCT (zAS l[i].list 1) 1;have p20:=zCT (zAS l[i].list 2) 0;have p21:=zCT (zAS l[i].list 2) 1;rw[show((1:Nat):Int)=1 from rfl]at p1 p11 p21;rw[show((2:Nat):Int)=2 from rfl]at p2;rw[show((0:Nat):Int)=0 from rfl]at p10 p20;refine⟨(o,(a,b),(c,d)),fun k acc ha=>?_,?_,fun z hz=>?_⟩
   ·clear s0 s1 s2 u0 u1 v0 v1 wa wb wc wd la lb lc ld o2 a2 b2 c2 d2 hcl hc1 hc2 hc0 hw hx
    show zC8 n kk ii tt ll (k+1) (i:Int) acc=_;rw[zC8,hp]
    simp only[obs]
    rw[zAB (Int.ofNat_lt.2 h'),cond_true,zAv h']
    generalize l[i]=x at *;generalize zAS x.list 1=y1 at *;generalize zAS x.list 2=y2 at *;generalize zAS y1.list 0=y10 at *;generalize zAS y1.list 1=y11 at *;generalize zAS y2.list 0=y20 at *;generalize zAS y2.list 1=y21 at *;obtain⟨x1,x2,x3,x4⟩:=x;have o3:=o1 _ _ _ _ rfl;obtain⟨e1,e2,e3,e4⟩:=y1;obtain⟨f1,f2,f3,f4⟩:=y2;obtain⟨q1,q2,q3,q4⟩:=y10;obtain⟨r1,r2,r3,r4⟩:=y11;obtain⟨t1,t2,t3,t4⟩:=y20;obtain⟨u1,u2,u3,u4⟩:=y21;simp only[obs,p1,p2,p10,p11,p20,p21,o3,a1,b1,c1,d1]
    rw[zAK (by simp only[List.length_cons,List.length_nil]; omega),zAy (by omega)]
   ·have ow:=o2.w;have aw:=a2.w;have bw:=b2.w;have cw_:=c2.w;have dw:=d2.w;rw[zSI]at aw bw cw_ dw;rw[recV,list_w]
    simp only[CV.ws,list_w,zXe,CV.cw]at *
    omega
   ·obtain⟨z0,⟨z1,z2⟩,⟨z3,z4⟩⟩:=z;rw[recV]at hz;dsimp only[curV]at hz;have e0:=o2.go z0 (by rw[hz]; rfl)
    have e1:=a2.go z1 (by rw[hz]; rfl)
    have e2:=b2.go z2 (by rw[hz]; rfl)
    have e3:=c2.go z3 (by rw[hz]; rfl)
    have e4:=d2.go z4 (by rw[hz]; rfl)
    rw[e0,e1,e2,e3,e4])
  (fun k acc=>by
   show zC8 n kk ii tt ll (k+1) (l.length:Int) acc=_;rw[zC8,hp]
   simp only[obs]
   rw[zAx (by omega)]; rfl) n 0 [] (by omega) (Nat.zero_le _) (Nat.le_refl _)
 rw[show((0:Nat):Int)=0 from rfl,List.nil_append]at g1;rw[List.drop_zero]at g2;refine⟨ys,fun k i t l' h=>?_,g2⟩
 injection h with q1 q2 q3 q4
 subst q1;subst q2;subst q3;subst q4;exact g1
theorem zXI (n:Nat) (v:CV) (hn:200000000<n) (hb:v.w<=1677721):∃ d,zME n v=some d/\(docV d).w<=20 * v.w+60/\∀ z,v=docV z->d=z:=by
 obtain⟨rs,r1,r2⟩:=zXJ n v hn (by omega)
 have s0:=zBj v.list 0 1 rfl;have s1:=zBj v.list 1 2 rfl;have s2:=zBj v.list 2 3 rfl;have s3:=zBj v.list 3 4 rfl;have hw:=CV.w_cw v;have w1:=CV.w_cw (zAS v.list 1)
 have w3:=CV.w_cw (zAS v.list 3)
 have hcl:CV.ws v.list<=v.cw :=(by unfold CV.cw; omega);have hc3:CV.ws (zAS v.list 3).list<=(zAS v.list 3).cw :=(by unfold CV.cw; omega);have ht0:(zAS v.list 0).text.length<=(zAS v.list 0).cw :=(by unfold CV.cw; omega);rw[List.drop_zero]at s0;obtain⟨ts,t1,t2⟩:=zMV n (zCg [zAS v.list 1]) 0 (by rw[list_w]; simp only[CV.ws]; omega) (by rw[list_w]; simp only[CV.ws]; omega)
 rw[show((0:Nat):Int)=0 from rfl]at t1;rw[List.drop_zero]at t2;have hl:=t2.len;obtain⟨t,rfl⟩:∃ t,ts=[t]:=by
  match ts,hl with
  | [t],_=>exact⟨t,rfl⟩
 have p0:=zCT v 0;have p1:=zCT v 1;have p2:=zCT v 2;rw[show((0:Nat):Int)=0 from rfl]at p0;rw[show((1:Nat):Int)=1 from rfl]at p1;rw[show((2:Nat):Int)=2 from rfl]at p2;refine⟨((zAS v.list 0).text,t,rs,(zAS v.list 2).int),?_,?_,fun z hz=>?_⟩
 ·clear s0 s1 s2 s3 hw w1 w3 hcl hc3 ht0 t2 r2 hl
  generalize zAS v.list 0=y0 at *;generalize zAS v.list 1=y1 at *;generalize zAS v.list 2=y2 at *;obtain⟨v1,v2,v3,v4⟩:=v;have r3:=r1 _ _ _ _ rfl;obtain⟨a1,a2,a3,a4⟩:=y0;obtain⟨b1,b2,b3,b4⟩:=y1;obtain⟨c1,c2,c3,c4⟩:=y2;obtain⟨q1,q2,q3,q4⟩:=t;have g0:at? [Nd.mk q1 q2 q3 q4] 0=some (Nd.mk q1 q2 q3 q4):=rfl;unfold zCg at t1;unfold zME;simp only[p0,p1,p2,zBJ,t1,g0,r3,obs,CV.text,CV.int]
 ·have rw_:=r2.w;have tw:CV.ws ([t].map zD8)<=20 * CV.ws [zAS v.list 1]:=t2.w;simp only[List.map_cons,List.map_nil,CV.ws]at tw;rw[docV,list_w]
  simp only[CV.ws,list_w,zMF,zJU]
  omega
 ·obtain⟨z0,z1,z2,z3⟩:=z;rw[docV]at hz;dsimp only at hz;have e2:=r2.go z2 (by rw[hz]; rfl)
  have e1:=t2.go [z1] (by rw[hz]; rfl)
  injection e1 with e1 _
  rw[e1,e2,hz]
  rfl
end Go.Proofs.YtgplhldfbkmmgaaGreat
