/-
  Joined out of: PEdit5, PEdit6, PEdit7, PDif4, PHs2, PHs3, PHs4, PR10, PRun1, PRun2, PRun3, PRun4, PRun5, PRun6, PRun7, PHs5, PHs6, PHs8, PCur6, PTypT, PUnd.
-/
import Derived.Test.YtbfnjnljboncgaaGreatZf
open List
open Go.IntKind (i16 i32 i64 i8 u16 u32 u64 u8)
set_option linter.unusedVariables false
set_option linter.defProp false
set_option linter.unusedSimpArgs false
set_option maxHeartbeats 2000000
set_option maxRecDepth 100000
namespace Go.Proofs.YtbfnjnljboncgaaGreat
section
variable {p q:Nat}
def zZa (l b:List Nd) (hp:p<=l.length):segS (splS l p q b) p (p+b.length)=b:=by
 have h:(l.take p).length=p :=(by rw[bg]; omega);unfold segS splS;rw[aX,take_append,take_of_length_le (by omega),h,show p+b.length - p=b.length by omega,take_left,drop_append,drop_of_length_le (by omega),h,bK];rfl
def zOu (l b c:List Nd) (hp:p<=l.length):splS (splS l p q b) p (p+b.length) c=splS l p q c:=by
 have h:(l.take p).length=p :=(by rw[bg]; omega);unfold splS;have e1:((l.take p++b)++l.drop q).take p=l.take p:=by
  rw[aX,take_append,h,bK,take_take,Nat.min_self]; simp
 have e2:((l.take p++b)++l.drop q).drop (p+b.length)=l.drop q:=by
  rw[drop_append,am,h,bK,drop_of_length_le (by rw[am,h]; omega)]; simp
 rw[e1,e2]
def zOt (l:List Nd) (hpq:p<=q):splS l p q (segS l p q)=l:=by
 unfold splS segS;have:l.take p++(l.take q).drop p=l.take q:=by
  have h:=take_append_drop p (l.take q);rw[take_take,Nat.min_eq_left hpq]at h;exact h
 rw[this,take_append_drop]
def zU2 (l b:List Nd) (hp:p<=q) (hq:q<=l.length):(splS l p q b).length+(q - p)=l.length+b.length:=by
 unfold splS;simp only[am,bg,bA];omega
def yCO (l:List Nd) (hp:p<=q) (hq:q<=l.length):(segS l p q).length=q - p:=by
 unfold segS;simp only[bg,bA];omega
variable {l:List Nd}
def yBL {it:Nd} (h:l[p]? = some it):segS l p (p+1)=[it]:=by
 exact kD
def yBN (l:List Nd) (x:Nd) (hp:p<=l.length):(splS l p q [x])[p]? = some x:=by
 have h:(l.take p).length=p :=(by rw[bg]; omega);unfold splS;rw[aX,bI (by omega),h,bK]; rfl
def cnt_kids (v:Nd):v.cnt=Nd.cnts v.kids+1:=by cases v; simp only[Nd.cnt,Nd.kids]; try omega
def invO:Op8->Op8
 | (k,row,a,m,nodes,slot,old,text) =>
  (if k=1 then 2 else if k=2 then 1 else if k=3 then 4 else if k=4 then 3 else k,row,a,m,nodes,slot,if k=5 then text else old,if k=5 then old else text)
variable {o:Op8}
def FormP.inv  (h:FormP o):FormP (invO o):=by
 obtain⟨k,row,a,m,nodes,slot,old,text⟩:=o;rcases h with ⟨rfl | rfl,h⟩ | ⟨rfl | rfl,h⟩ | ⟨rfl,h1,h⟩
 ·exact .inl ⟨.inr rfl,h⟩
 ·exact .inl ⟨.inl rfl,h⟩
 ·exact .inr (.inl ⟨.inr rfl,h⟩)
 ·exact .inr (.inl ⟨.inl rfl,h⟩)
 exact .inr (.inr ⟨rfl,Ne.symm h1,h⟩)
def Chg.inv {l':List Nd} (hf:FormP o) (h:Chg l o l' 0):Chg l' (invO o) l 0:=by
 obtain⟨k,row,a,m,nodes,slot,old,text⟩:=o;cases h with
 | @ins _ p _ _ _ _ _ h =>
  have hl:=zU2 l nodes (ar p) h;have h1:=zZa l nodes (q:=p) h;have h2:=zOu l nodes [] (q:=p) h;have h3:=zOt l (ar p);have h4:segS l p p=[] :=(by unfold segS; simp);rw[h4]at h3;have:=Chg.del (l:=splS l p p nodes) (row:=row) (p:=p) (m:=m) (nodes:=nodes) (slot:=slot) (old:=old) (text:=text) (by omega) h1;rw[h2,h3]at this;exact this
 | @del _ p _ _ _ _ _ h he =>
  have hl:=zU2 l [] (Nat.le_add_right p nodes.length) h;have h2:=zOu l [] nodes (q:=p+nodes.length) (p:=p) (by omega);have h3:=zOt l (Nat.le_add_right p nodes.length);rw[he]at h3;simp only[an,bz]at h2;have:=Chg.ins (l:=splS l p (p+nodes.length) []) (row:=row) (p:=p) (m:=m) (nodes:=nodes) (slot:=slot) (old:=old) (text:=text) (by simp only[an]at hl; omega);rw[h2,h3]at this;exact this
 | @wrap _ p m v s _ _ h =>
  have ht:zVe [v] (s:Int):=by
   rcases hf with ⟨h0 | h0,_⟩ | ⟨_,_,h0,_⟩ | ⟨h0,_⟩
   ·cases h0
   ·cases h0
   ·exact h0
   cases h0
  obtain⟨v',s',z,e1,e2,_,hz,hk⟩:=ht;cases e1;obtain rfl:=Int.ofNat.inj e2;have h1:=yBN l (q:=p+m) (zHT v s (segS l p (p+m))) (p:=p) (by omega);have h2:=zOu l [zHT v s (segS l p (p+m))] (segS l p (p+m)) (q:=p+m) (p:=p) (by omega);rw[zOt l (Nat.le_add_right p m)]at h2;have hk2:(zHT v s (segS l p (p+m))).kids[s]? = some (rowN (segS l p (p+m))):=zTC hz;have hm:((rowN (segS l p (p+m))).kids.length:Int)=(m:Int):=by
   have:=yCO l (Nat.le_add_right p m) h;show((segS l p (p+m)).length:Int)=m;omega
  have:=Chg.unwrap (row:=row) (v:=v) (old:=old) (text:=text) h1 hk2 hm rfl;rw[show(rowN (segS l p (p+m))).kids=segS l p (p+m) from rfl]at this;simp only[ah,an,a8]at h2;rw[h2]at this;exact this
 | @unwrap _ p _ v it z s _ _ h hz hm he =>
  have hp:=(aa.1 h).1;have hl:=zU2 l z.kids (Nat.le_add_right p 1) (by omega);have h1:=zZa l z.kids (q:=p+1) (p:=p) (by omega);have h2:=zOu l z.kids [zHT v s z.kids] (q:=p+1) (p:=p) (by omega);have h3:=zOt l (Nat.le_add_right p 1);rw[yBL h,he]at h3;rw[h3]at h2;subst hm;have:=Chg.wrap (l:=splS l p (p+1) z.kids) (row:=row) (p:=p) (m:=z.kids.length) (v:=v) (s:=s) (old:=old) (text:=text) (by omega);rw[h1,h2]at this;exact this
 | @set _ p _ _ it _ _ _ h hl he=>
 have hp:=(aa.1 h).1;have h1:=yBN l (q:=p+1) (.mk it.kind text it.cols it.kids) (p:=p) (by omega);have h2:=zOu l [.mk it.kind text it.cols it.kids] [it] (q:=p+1) (p:=p) (by omega);have h3:=zOt l (Nat.le_add_right p 1);rw[yBL h]at h3;rw[h3]at h2;simp only[ah,an,a8]at h2;have:=Chg.set (row:=row) (m:=m) (nodes:=nodes) (slot:=slot) (old:=text) (text:=old) h1 hl rfl;obtain⟨i1,i2,i3,i4⟩:=it;have he:i2=old:=he;subst he;simp only[Nd.kind,Nd.cols,Nd.kids]at this h2;rw[h2]at this;exact this
def zQK (o:Op8):(invO o).2.1=o.2.1:=rfl
def App.inv {t t':Nd} (h:App t o t' 0):App t' (invO o) t 0/\zAu t'=true:=by
 cases h with
 | chg h hf hr hc he=>exact absurd rfl he
 | @ok r l h hf hr hc hv=>
 have hrr:=(zLc (hr.valid h)).1;have hput:=hr.put (rowN l);have hb:=hr.back (rowN l);have hci:=hc.inv hf;have:App (putL t o.2.1 (rowN l)) (invO o) (putL (putL t o.2.1 (rowN l)) (invO o).2.1 (rowN r.kids)) 0:=by
  refine App.ok hv hf.inv (r:=rowN l) (by rw[zQK]; exact hput) hci ?_;rw[zQK,show rowN r.kids=r from hrr.symm,hb];exact h
 rw[zQK,show rowN r.kids=r from hrr.symm,hb]at this;exact⟨this,hv⟩
def zGw {t:Nd} (h:zAu t=true):t.kind=1/\zCI t=true/\t.cnt<=1000/\t.dep<=24:=by
 unfold zAu at h;simp only[af,ay]at h;exact⟨aE h.1,h.2⟩
def jS {P:Prop} (h:P:=by rw[zA5 (by simp only[bg,ah,an]; omega),zAG (show i<9223372036854775807 by omega),ih]):P:=h
def kG {P:Prop} (h:P:=by rw[zAC (by omega),ae,take_of_length_le (by omega)]):P:=h
def zPO (n:Nat){l:List Nd} (hb:Nd.cnts l<=16777216):∀ (k i:Nat),l.length - i<k->i<=l.length->zBq l k (i:Int) (l.take i)=some l
 | 0,i,h,_=>by omega
 | k+1,i,h,hi=>by
  have hlen:=Nd.cnts_len l;unfold zBq;by_cases hj:i<l.length
  ·have hm:=Nd.cnts_mem (aV hj);have hd:zAS l[i]=some l[i]:=zGV (by omega);have ht:l.take i++[l[i]]=l.take (i+1) :=(by rw[take_append_getElem hj]);rw[zAD (aK.2 hj),ag,zAH hj];have ih:=zPO n hb k (i+1) (by omega) (by omega);rw[← ht]at ih;generalize l[i]=v at *;obtain⟨v1,v2,v3,v4⟩:=v;simp only[obs,hd];exact jS
  ·exact kG
def zXp (n:Nat) (o:Op8) (hn:Nd.cnts o.nodes<n) (hb:Nd.cnts o.nodes<=16777216) (hr:o.row.length<=16777216):zBW n o=some (invO o):=by
 obtain⟨k,row,a,m,nodes,slot,old,text⟩:=o;simp only[Op8.nodes,Op8.row]at hn hb hr;have hlen:=Nd.cnts_len nodes;have h1:zBC row=some row:=zA5 (by omega);have h2:=zPO n hb n 0 (by omega) (by omega);rw[show((0:Nat):Int)=0 from rfl,take_zero]at h2;unfold zBW zFr zDt zFq;simp only[h1,h2,obs];unfold invO;dsimp only;by_cases k1:k=1
 ·subst k1; rfl
 by_cases k2:k=2
 ·subst k2; rfl
 by_cases k3:k=3
 ·subst k3; rfl
 by_cases k4:k=4
 ·subst k4; rfl
 by_cases k5:k=5
 ·subst k5; rfl
 rw[zBA k1,zBA k2,zBA k3,zBA k4,zBA k5,if_neg k1,if_neg k2,if_neg k3,if_neg k4,if_neg k5,if_neg k5];rfl
def yAT (l:List Op8){i:Nat} (hi:i<l.length):(l.map invO).reverse.take i++[invO l[l.length - 1 - i]]=(l.map invO).reverse.take (i+1):=by
 have hlen:i<(l.map invO).reverse.length :=(by simpa using hi);rw[← take_append_getElem hlen];congr 2;rw[getElem_reverse,getElem_map];congr 2;simp only[az]
def zJl (n:Nat){ops:List Op8} (ho:∀ o∈ops,zBW n o=some (invO o)) (hl:ops.length<=4294967296):∀ i,i<=ops.length->zAI n ops i=some ((ops.map invO).reverse.take i)
 | 0,_=>by rw[take_zero]; rfl
 | i+1,hi=>by
  have hj:ops.length - 1 - i<ops.length :=(by omega);unfold zAI;rw[zJl n ho hl i (by omega),ac hj];simp only[obs,ho _ (aV hj)];rw[zA5 (by simp only[bg,length_reverse,az]; omega),yAT ops (by omega)]
variable {ops:List Op8}
def zRE (n:Nat) (ho:∀ o∈ops,zBW n o=some (invO o)) (hl:ops.length<=4294967296):zCh n ops=some (ops.map invO).reverse:=by
 unfold zCh;dsimp only;rw[zA5 hl,zJl n ho hl _ (Nat.le_refl _),take_of_length_le (by simp)]
variable {t u:Nd}
def Runs.app {v:Nd}{a b:List Op8}{e:Int} (h:Runs t a u 0) (h2:Runs u b v e):Runs t (a++b) v e:=by
 generalize hz:(0:Int)=z at h;induction h with
 | nil t=>exact h2
 | stop h he=>exact absurd hz.symm he
 | next h hr ih=>exact .next h (ih h2 hz)
def Runs.back  (h:Runs t ops u 0) (hv:zAu t=true):Runs u (ops.map invO).reverse t 0/\zAu u=true:=by
 generalize hz:(0:Int)=z at h;induction h with
 | nil t=>exact⟨.nil t,hv⟩
 | stop h he=>exact absurd hz.symm he
 | next h hr ih=>
 subst hz;obtain⟨h1,h2⟩:=h.inv;obtain⟨h3,h4⟩:=ih h2 rfl;rw[ba,reverse_cons];exact⟨h3.app (.next h1 (.nil _)),h4⟩
def Runs.det {u':Nd}{e e':Int} (h:Runs t ops u e) (h':Runs t ops u' e'):u=u'/\e=e':=by
 induction h generalizing u' e' with
 | nil t=>cases h'; exact⟨rfl,rfl⟩
 | stop h he =>
  cases h' with
  | stop g hg=>exact⟨rfl,(h.det g).2⟩
  | next g hr=>exact absurd (h.det g).2 he
 | next h hr ih=>
 cases h' with
 | stop g hg=>exact absurd (h.det g).2.symm hg
 | next g hr'=>obtain⟨rfl,_⟩:=h.det g;exact ih hr'
def opw (o:Op8):Nat:=Nd.ws o.nodes+o.text.length+4
def sw:List Op8->Nat
 | []=>0
 | o::l=>opw o+sw l
def yBP:∀ a b:List Op8,sw (a++b)=sw a+sw b
 | [],b=>by simp[sw]
 | o::a,b=>by simp only[bj,sw,yBP a b]; omega
def zZg:∀ l:List Op8,4 * l.length<=sw l
 | []=>aQ _
 | o::l=>by
  have:=zZg l;simp only[ah,sw,opw];omega
def zSC (n:Nat) (hn:200000000<n){ops:List Op8} (hl:ops.length<=10000000) (ho:∀ o∈ops,opw o<=1900000):∀ (k i:Nat) (t:Nd),ops.length - i<k->i<=ops.length->t.w+sw (ops.drop i)<=40000000 ->
  ∃ f,zA0 n ops k t.kind t.text t.cols t.kids (i:Int)=some f/\Runs t (ops.drop i) (endOf f).1 (endOf f).2.2/\((endOf f).2.2=0->(endOf f).2.1=0)
 | 0,i,t,h,_,_=>by omega
 | k+1,i,t,h,hi,hw=>by
  unfold zA0;by_cases hj:i<ops.length
  ·have hd:=aO hj;have hs:=ho _ (aV hj);rw[hd]at hw;simp only[sw]at hw;unfold opw at hw hs;obtain⟨t',e,g1,g3⟩:=zKB n t ops[i] hn (by omega) (by omega) (by simp only[Op8.text]at hs; omega);have hw':=g3.w;rw[zAD (aK.2 hj),zAH hj,hd];simp only[ag];generalize ops[i]=o at *;obtain⟨q1,q2,q3,q4,q5,q6,q7,q8⟩:=o;obtain⟨t1,t2,t3,t4⟩:=t;have ih:=zSC n hn hl ho k (i+1) t' (by omega) (by omega) (by simp only[Op8.text]at hw; dsimp only at hw' hw; omega);obtain⟨u1,u2,u3,u4⟩:=t';simp only[Nd.kind,Nd.text,Nd.cols,Nd.kids]at ih ⊢;simp only[obs,g1];by_cases he:e=0
   ·subst he;simp only[show((0:Int) != 0)=false from rfl,ae,zAG (show i<9223372036854775807 by omega)];obtain⟨f,h1,h3,h4⟩:=ih;exact⟨f,h1,.next g3 h3,h4⟩
   ·have hne:(e != 0)=true:=bne_iff_ne.2 he;simp only[hne,ag];exact⟨_,rfl,.stop g3 he,fun h=>absurd h he⟩
  ·rw[zAC (by omega),bB.2 (by omega)];obtain⟨t1,t2,t3,t4⟩:=t;simp only[ae];exact⟨_,rfl,.nil _,fun _=>rfl⟩
def zXY (n:Nat) (t:Nd) (ops:List Op8) (hn:200000000<n) (hw:t.w+sw ops<=40000000) (ho:∀ o∈ops,opw o<=1900000) :
  ∃ u i e,zA4 n t ops=some (u,i,e)/\zZN t ops u e/\(e=0->i=0):=by
 have ct:=Nd.cnt_w t;have sl:=zZg ops;have v1:=zCs n t (by omega) (by omega);have hd:zAS t=some t:=zGV (by omega);obtain⟨f,h1,h3,h4⟩:=zSC n hn (ops:=ops) (by omega) ho n 0 t (by omega) (by omega) (by rw[drop_zero]; exact hw);rw[show((0:Nat):Int)=0 from rfl]at h1;rw[drop_zero]at h3;obtain⟨t1,t2,t3,t4⟩:=t;simp only[Nd.kind,Nd.text,Nd.cols,Nd.kids]at h1;unfold zA4;simp only[v1,obs,hd,h1];cases hv:zAu (.mk t1 t2 t3 t4) with
 | false=>exact⟨_,0,1,rfl,.bad hv,fun h=>by cases h⟩
 | true=>
 simp only[aB,ae];cases f with
 | ret r=>obtain⟨u,i,e⟩:=r;exact⟨u,i,e,rfl,.go hv h3,h4⟩
 | go g=>obtain⟨a,b,c,d⟩:=g;exact⟨_,0,0,rfl,.go hv h3,fun _=>rfl⟩
def zHp {v:Nd}:v.w=v.text.length+Nd.ws v.kids+1:=by cases v; rfl
def yA3 {t u u':Nd}{ops:List Op8}{e e':Int} (h:Runs t ops u e) (h':Runs t ops u' e'):u=u'/\e=e':=by
 induction h generalizing u' e' with
 | nil t=>cases h'; exact⟨rfl,rfl⟩
 | stop h he =>
  cases h' with
  | stop g _=>exact⟨rfl,(h.det g).2⟩
  | next g _=>exact absurd (h.det g).2 he
 | next h _ ih=>
 cases h' with
 | stop g he=>exact absurd (h.det g).2.symm he
 | next g gr=>obtain⟨rfl,_⟩:=h.det g;exact ih gr
def yBg {k:Int}{t:List UInt8} (h:zFU k t=true):t.length<=200:=by
 unfold zFU at h;by_cases k2:k=2
 ·rw[if_pos k2]at h;unfold symB at h;by_cases h1:t.length=1
  ·omega
  rw[if_neg h1]at h;simp only[af,ay]at h;omega
 rw[if_neg k2]at h
 by_cases k3:k=3
 ·rw[if_pos k3]at h;unfold numB at h;simp only[af,ay]at h;omega
 rw[if_neg k3]at h
 by_cases k4:k=4
 ·rw[if_pos k4]at h;simp only[af,ay]at h;exact h.1
 rw[if_neg k4]at h
 by_cases k10:k=10
 ·rw[if_pos k10]at h;obtain⟨e,he,h2⟩:=List.any_eq_true.1 h;rw[← aE h2];have:∀ e∈acL,e.length<=200 :=(by decide);exact this e he
 rw[if_neg k10]at h
 by_cases k11:k=11
 ·rw[if_pos k11]at h;unfold fenB at h;simp only[af,ay]at h;omega
 rw[if_neg k11]at h;rw[aE h];exact aQ _
mutual
def yBv:∀ t:Nd,zCI t=true->t.w+1<=202 * t.cnt
 | .mk k t c ks,h=>by
  simp only[zCI,af]at h
  have h1:=yBg h.1.1
  have h2:=zX7 ks k h.2
  simp only[Nd.w,Nd.cnt]
  omega
def zX7:∀ (l:List Nd) (k:Int),zBL k l=true->Nd.ws l<=202 * Nd.cnts l
 | [],_,_=>aQ _
 | v::l,k,h=>by
  simp only[zBL,af]at h
  have h1:=yBv v h.1.2
  have h2:=zX7 l k h.2
  simp only[Nd.ws,Nd.cnts]
  omega
end
variable {t:Nd}
def zG4  (h:zAu t=true):t.w<=202000:=by
 obtain⟨k,f,c,d⟩:=zGw h;have:=yBv t f;omega
structure OSmall (l:List Op8):Prop where
 size:sw l<=20000000
 op:∀ o∈l,opw o<=1900000
 isize:sw (l.map invO)<=20000000
 oi:∀ o∈l,opw (invO o)<=1900000
 row:∀ o∈l,o.row.length<=16777216
variable {l:List Op8}
def OSmall.len  (h:OSmall l):l.length<=5000000:=by
 have:=zZg l;have:=h.size;omega
def OSmall.cnt  (h:OSmall l):∀ o∈l,Nd.cnts o.nodes<=1900000:=fun o ho=>by
 have h1:=h.op o ho;have h2:=Nd.cnts_ws o.nodes;unfold opw at h1;omega
def yEo:∀ l:List Op8,sw l.reverse=sw l
 | []=>rfl
 | o::l=>by rw[reverse_cons,yBP,yEo l]; simp only[sw]; omega
def OSmall.apply  (h:OSmall l) (n:Nat) (hn:200000000<n) (hv:zAu t=true):∃ u i e,zA4 n t l=some (u,i,e)/\Runs t l u e/\(e=0->i=0):=by
 have hw:=zG4 hv;have h1:=h.size;obtain⟨u,i,e,g1,g2,g3⟩:=zXY n t l hn (by omega) h.op;cases g2 with
 | bad g=>rw[hv]at g; cases g
 | go _ g=>exact⟨u,i,e,g1,g,g3⟩
def OSmall.back  (h:OSmall l) (n:Nat){u:Nd} (hn:200000000<n) (hv:zAu t=true) (hr:Runs t l u 0) :
  zCh n l=some (l.map invO).reverse/\zA4 n u (l.map invO).reverse=some (t,0,0)/\zAu u=true:=by
 obtain⟨hb,vu⟩:=hr.back hv;have hl:=h.len;have hw:=zG4 vu;have h1:=h.isize;have h2:sw (l.map invO).reverse=sw (l.map invO):=yEo _;refine⟨zRE n (fun o ho=>?_) (by omega),?_,vu⟩
 ·have h1:=h.cnt o ho;have h2:=h.row o ho;exact zXp n o (by omega) (by omega) (by omega)
 obtain⟨v,i,e,g1,g2,g3⟩:=zXY n u (l.map invO).reverse hn (by omega) (fun o ho=>by
  obtain⟨o',ho',rfl⟩:=be.1 (List.mem_reverse.1 ho)
  exact h.oi o' ho')
 cases g2 with
 | bad g=>rw[vu]at g; cases g
 | go _ g=>obtain⟨rfl,rfl⟩:=yA3 g hb;rw[g1,g3 rfl]
abbrev Cur:=List Int×List Int
abbrev Rc:=List Op8×Cur×Cur
abbrev Hs:=Nd×Nd×List Rc×Int
def zIk {l:List Nd} (hb:Nd.cnts l<=16777216):∀ (k i:Nat),l.length - i<k->i<=l.length->zBq l k (i:Int) (l.take i)=some l
 | 0,i,h,_=>by omega
 | k+1,i,h,hi=>by
  have hlen:=Nd.cnts_len l;unfold zBq;by_cases hj:i<l.length
  ·have hm:=Nd.cnts_mem (aV hj);have hd:zAS l[i]=some l[i]:=zGV (by omega);have ht:l.take i++[l[i]]=l.take (i+1) :=(by rw[take_append_getElem hj]);rw[zAD (aK.2 hj),ag,zAH hj];have ih:=zIk hb k (i+1) (by omega) (by omega);rw[← ht]at ih;generalize l[i]=v at *;obtain⟨v1,v2,v3,v4⟩:=v;simp only[obs,hd];exact jS
  ·exact kG
def zWF (n:Nat) (o:Op8) (hn:Nd.cnts o.nodes<n) (hb:Nd.cnts o.nodes<=16777216) (hr:o.row.length<=16777216):zFr n o=some o:=by
 obtain⟨k,row,a,m,nodes,slot,old,text⟩:=o;simp only[Op8.nodes,Op8.row]at hn hb hr;have hlen:=Nd.cnts_len nodes;have h1:zBC row=some row:=zA5 (by omega);have h2:=zIk hb n 0 (by omega) (by omega);rw[show((0:Nat):Int)=0 from rfl,take_zero]at h2;unfold zFr zDt zFq;simp only[h1,h2,obs]
def zKH (n:Nat){l:List Op8} (ho:∀ o∈l,zFr n o=some o) (hl:l.length<=1073741824):∀ (k i:Nat),l.length - i<k->i<=l.length->zCZ n l k (i:Int) (l.take i)=some l
 | 0,i,h,_=>by omega
 | k+1,i,h,hi=>by
  unfold zCZ;by_cases hj:i<l.length
  ·have hd:=ho _ (aV hj);have ht:l.take i++[l[i]]=l.take (i+1) :=(by rw[take_append_getElem hj]);rw[zAD (aK.2 hj),ag,zAH hj];have ih:=zKH n ho hl k (i+1) (by omega) (by omega);rw[← ht]at ih;generalize l[i]=v at *;obtain⟨v1,v2,v3,v4,v5,v6,v7,v8⟩:=v;simp only[obs,hd];exact jS
  ·exact kG
def zJv (c:Cur) (h1:c.1.length<=1073741824) (h2:c.2.length<=1073741824):zBG c=some c:=by
 obtain⟨p,q⟩:=c;have e1:zBC p=some p:=zA5 (by dsimp only at h1; omega);have e2:zBC q=some q:=zA5 (by dsimp only at h2; omega);unfold zBG zDt;simp only[e1,e2,obs]
structure RSmall (r:Rc):Prop where
 ops:OSmall r.1
 b1:r.2.1.1.length<=16777216
 b2:r.2.1.2.length<=16777216
 a1:r.2.2.1.length<=16777216
 a2:r.2.2.2.length<=16777216
variable {r:Rc}
def RSmall.before  (h:RSmall r):zBG r.2.1=some r.2.1:=zJv _ (by have:=h.b1; omega) (by have:=h.b2; omega)
def RSmall.after  (h:RSmall r):zBG r.2.2=some r.2.2:=zJv _ (by have:=h.a1; omega) (by have:=h.a2; omega)
def RSmall.copy  (h:RSmall r) (n:Nat) (hn:200000000<n):zC0 n r=some r:=by
 have h2:=h.before;have h3:=h.after;have hl:=h.ops.len;have h1:=zKH n (l:=r.1) (fun o ho=>by
  have g1:=h.ops.cnt o ho;have g2:=h.ops.row o ho;exact zWF n o (by omega) (by omega) (by omega)) (by omega) n 0 (by omega) (aQ _)
 rw[show((0:Nat):Int)=0 from rfl,take_zero]at h1;obtain⟨a,⟨b1,b2⟩,⟨c1,c2⟩⟩:=r;dsimp only at h1 h2 h3;unfold zC0 zIY;simp only[h1,h2,h3,obs]
variable {t:Nd}
def zXk  (h:zAu t=true):zAS t=some t:=by
 have h1:=zG4 h;have h2:=Nd.cnt_w t;exact zGV (by omega)
structure HInv (h:Hs) (ts:List Nd):Prop where
 len:ts.length=h.2.2.1.length+1
 orig:ts[0]? = some h.1
 valid:∀ t∈ts,zAu t=true
 step:∀ (i:Nat) (r:Rc),h.2.2.1[i]? = some r->∃ t u,ts[i]? = some t/\ts[i+1]? = some u/\Runs t r.1 u 0
 small:∀ r∈h.2.2.1,RSmall r
 lim:h.2.2.1.length<=1000
structure HAt (h:Hs) (ts:List Nd) (j:Nat):Prop where
 inv:HInv h ts
 done:h.2.2.2=(j:Int)
 le:j<=h.2.2.1.length
 tree:ts[j]? = some h.2.1
variable {j:Nat}{ts:List Nd}{h:Hs}
def HAt.vtree  (a:HAt h ts j):zAu h.2.1=true:=a.inv.valid _ (av a.tree)
def yC6 (n:Nat) (hn:200000000<n) (ht:t.w<=16777216):zEH n t=some (bif zAu t then (some (t,t,[],0),0) else (none,1))/\(zAu t=true->HAt (t,t,[],0) [t] 0):=by
 have v:=zCs n t (by omega) (by omega);have ct:=Nd.cnt_w t;have hd:zAS t=some t:=zGV (by omega);refine⟨?_,fun hv=>⟨⟨rfl,rfl,fun u hu=>by rw[aD.1 hu]; exact hv,fun i r h=>by simp at h,fun r h=>by simp at h,aQ _⟩,rfl,ar _,rfl⟩⟩;obtain⟨t1,t2,t3,t4⟩:=t;unfold zEH;simp only[v,hd,obs];cases zAu (.mk t1 t2 t3 t4) <;> rfl
def zNq  (hv:zAu h.2.1=true):zAB h=some (h.2.1,h):=by
 have hd:=zXk hv;obtain⟨⟨a1,a2,a3,a4⟩,⟨b1,b2,b3,b4⟩,rs,d⟩:=h;dsimp only at hd;unfold zAB;simp only[hd,obs]
def yEx (n:Nat) (a:HAt h ts j) (hr:RSmall r) (hn:200000000<n) (hj:j<1000):∃ u e,Runs h.2.1 r.1 u e /\
  ((e ≠ 0/\zBa n h r=some (e,h))∨(e=0/\zBa n h r=some (0,(h.1,u,h.2.2.1.take j++[r],((j+1:Nat):Int)))/\HAt (h.1,u,h.2.2.1.take j++[r],((j+1:Nat):Int)) (ts.take (j+1)++[u]) (j+1))):=by
 obtain⟨u,i,e,g1,g2,g3⟩:=hr.ops.apply n hn a.vtree;refine⟨u,e,g2,?_⟩;by_cases he:e=0
 ·subst he;refine .inr ⟨rfl,?_,?_⟩
  ·have hd:=a.done;have hle:=a.le;have hc:=hr.copy n hn;obtain⟨⟨a1,a2,a3,a4⟩,⟨b1,b2,b3,b4⟩,rs,d⟩:=h;obtain⟨ops,⟨c1,c2⟩,⟨c3,c4⟩⟩:=r;obtain⟨u1,u2,u3,u4⟩:=u;dsimp only at hd hle g1 hc ⊢;subst hd;unfold zBa;simp only[g1,obs,show((0:Int) != 0)=false from rfl,cond_false];rw[zAC (by omega),ae,zA5 ⟨by omega,by omega⟩,hc];simp only[obs,au];rw[zA5 (by simp only[bg,ah,an]; omega),zAG (by omega)]
  have hle:=a.le;have hlen:=a.inv.len;have hlt:(h.2.2.1.take j).length=j :=(by rw[bg]; omega);have hl2:(ts.take (j+1)).length=j+1 :=(by rw[bg]; omega);have g0:∀ i,i<=j->(ts.take (j+1)++[u])[i]? = ts[i]?:=fun i hi=>by
   rw[bH (by omega),aU,if_pos (by omega)]
  have gl:(ts.take (j+1)++[u])[j+1]? = some u:=by
   rw[bI (by omega),hl2,bK]; rfl
  refine⟨⟨?_,?_,?_,?_,?_,?_⟩,rfl,?_,gl⟩
  ·simp only[am,ah,an,hlt,hl2]
  ·rw[g0 0 (aQ _)]; exact a.inv.orig
  ·intro t ht;rcases aN.1 ht with ht | ht
   ·exact a.inv.valid t (mem_of_mem_take ht)
   rw[aD.1 ht]; exact(g2.back a.vtree).2
  ·intro i q hq;dsimp only at hq;by_cases hi:i<j
   ·rw[bH (by omega),aU,if_pos hi]at hq;obtain⟨t,v,k1,k2,k3⟩:=a.inv.step i q hq;exact⟨t,v,by rw[g0 i (by omega)]; exact k1,by rw[g0 (i+1) (by omega)]; exact k2,k3⟩
   rw[bI (by omega),hlt]at hq;have hij:i=j:=by
    rcases Nat.lt_or_ge (i - j) 1 with h | h
    ·omega
    rw[List.getElem?_eq_none (by simpa using h)]at hq; cases hq
   subst hij;rw[bK]at hq;obtain rfl:r=q :=(by simpa using hq);exact⟨h.2.1,u,by rw[g0 i (ar _)]; exact a.tree,gl,g2⟩
  ·intro q hq;rcases aN.1 hq with hq | hq
   ·exact a.inv.small q (mem_of_mem_take hq)
   rw[aD.1 hq]; exact hr
  ·dsimp only;simp only[length_append,length_cons,length_nil,hlt];omega
  dsimp only;simp only[length_append,length_cons,length_nil,hlt];omega
 refine .inl ⟨he,?_⟩;obtain⟨⟨a1,a2,a3,a4⟩,⟨b1,b2,b3,b4⟩,rs,d⟩:=h;obtain⟨ops,⟨c1,c2⟩,⟨c3,c4⟩⟩:=r;obtain⟨u1,u2,u3,u4⟩:=u;dsimp only at g1;unfold zBa;simp only[g1,obs,show(e != 0)=true from bne_iff_ne.2 he,cond_true]
def hAt (h:Hs) (t:Nd) (j:Nat):Hs:=(h.1,t,h.2.2.1,(j:Int))
def HAt.move {k:Nat} (a:HAt h ts j) (hk:ts[k]? = some t):HAt (hAt h t k) ts k:=by
 refine⟨⟨a.inv.len,a.inv.orig,a.inv.valid,a.inv.step,a.inv.small,a.inv.lim⟩,rfl,?_,hk⟩;have:=(aa.1 hk).1;have:=a.inv.len;show k<=h.2.2.1.length;omega
def HAt.at {k:Nat} (a:HAt h ts j) (hk:k<=h.2.2.1.length):∃ t,ts[k]? = some t :=
 ⟨_,ac (by have:=a.inv.len; omega)⟩
def yBZ (n:Nat) (a:HAt h ts (j+1)) (hn:200000000<n) (hr:h.2.2.1[j]? = some r) (ht:ts[j]? = some t):zBz n h=some (r.2.1,0,hAt h t j):=by
 have hd:=a.done;have hlim:=a.inv.lim;have hle:=a.le;have sm:=a.inv.small r (av hr);obtain⟨t',u',k1,k2,k3⟩:=a.inv.step j r hr;obtain rfl:t=t':=Option.some.inj (ht.symm.trans k1);obtain rfl:h.2.1=u':=Option.some.inj (a.tree.symm.trans k2);obtain⟨e1,e2,e3⟩:=sm.ops.back n hn (a.inv.valid t (av ht)) k3;have hc:=sm.before;have hr':at? h.2.2.1 (j:Int)=some r:=by
  obtain⟨h1,rfl⟩:=aa.1 hr;exact zAH h1
 unfold hAt;obtain⟨⟨a1,a2,a3,a4⟩,⟨b1,b2,b3,b4⟩,rs,d⟩:=h;obtain⟨ops,⟨c1,c2⟩,⟨c3,c4⟩⟩:=r;obtain⟨t1,t2,t3,t4⟩:=t;dsimp only at hd hr' e1 e2 hc hlim hle ⊢;subst hd;have hw:i64.wrap (((j+1:Nat):Int) - 1)=(j:Int) :=(by rw[wrap64_in (by omega) (by omega)]; omega);unfold zBz;dsimp only;rw[zBA (by omega),cond_false,hw,hr'];simp only[obs,e1,e2,show((0:Int) != 0)=false from rfl,ae,hc]
def zHE (o:Op8):Nat:=Nd.ws o.nodes+o.2.2.2.2.2.2.1.length+o.text.length+o.row.length
structure RFew (r:Rc):Prop where
 len:r.1.length<=12
 bulk:∀ o∈r.1,zHE o<=1048576
 b1:r.2.1.1.length<=16777216
 b2:r.2.1.2.length<=16777216
 a1:r.2.2.1.length<=16777216
 a2:r.2.2.2.length<=16777216
def yEn {l:List Op8}{b:Nat}:(∀ o∈l,opw o<=b)->sw l<=l.length * b:=by
 induction l with
 | nil=>intro _; exact aQ _
 | cons o l ih=>
 intro h;have h1:=h o ak;have h2:=ih fun o ho=>h o (aG _ ho)
 simp only[sw,ah,Nat.succ_mul];omega
def yAw (o:Op8):opw o<=zHE o+4:=by unfold opw zHE; omega
def yAv (o:Op8):opw (invO o)<=zHE o+4:=by
 obtain⟨k,row,a,m,nodes,slot,old,text⟩:=o;unfold opw zHE invO;simp only[Op8.nodes,Op8.text,Op8.row];by_cases h:k=5
 ·rw[if_pos h]; omega
 rw[if_neg h]; omega
variable {r:Rc}
def RFew.osmall  (h:RFew r):OSmall r.1:=by
 have h1:∀ o∈r.1,opw o<=1048580:=fun o ho=>by have:=h.bulk o ho; have:=yAw o; omega
 have h2:∀ o∈r.1.map invO,opw o<=1048580:=fun o ho=>by
  obtain⟨o',ho',rfl⟩:=be.1 ho;have:=h.bulk o' ho'; have:=yAv o'; omega
 have s1:=yEn h1;have s2:=yEn h2;rw[az]at s2;have hl:=h.len;have hm:r.1.length * 1048580<=12 * 1048580:=bh _ hl;exact⟨by omega,fun o ho=>by have:=h1 o ho; omega,by omega,fun o ho=>by have:=h2 (invO o) (mem_map_of_mem ho); omega,fun o ho=>by have:=h.bulk o ho; unfold zHE at this; omega⟩
def RFew.small  (h:RFew r):RSmall r:=⟨h.osmall,h.b1,h.b2,h.a1,h.a2⟩
def RFew.ref  (h:RFew r) (n:Nat) (hn:200000000<n){t:Nd} (hv:zAu t=true):∃ u i e,zDe n t r.1=some (u,i,e)/\Runs t r.1 u e:=by
 have hw:=zG4 hv;obtain⟨u,i,e,_,g2,g3,_⟩:=yDe n t r.1 hn (by omega) (fun o ho=>by have:=h.bulk o ho; unfold zHE at this; omega) h.len;cases g3 with
 | bad g=>rw[hv]at g; cases g
 | go _ g=>exact⟨u,i,e,g2,g⟩
def yCE (p:List Int) (i:Int) (hp:p.length<=4000000):zNU p [i]=some (p++[i]):=by
 unfold zNU;dsimp only;rw[zA5 (by simp only[length_cons,length_nil]; omega)]
variable {l:List Nd}
def zNw {n:Nat}{v:Nd} (h:l[n]? = some v):at? l (n:Int)=some v:=by
 obtain⟨h1,rfl⟩:=aa.1 h;exact zAH h1
def zXW {q:Nat}{v:Nd} (h:l[q]? = some v):l.drop q=v::l.drop (q+1):=by
 obtain⟨h1,rfl⟩:=aa.1 h;exact aO h1
abbrev AllF:=Nd->List Int->Option (List (List Int))
def zSg (F:AllF) (kids:List Nd) (p:List Int) (i:Nat) (x:Nd) (hx:kids[i]? = some x) (hp:p.length<=3000000) (hk:x.kids.length<=1000000)
  (hF:∀ (s:Nat) (u:Nd),x.kids[s]? = some u->F u (p++[(i:Int),(s:Int)])=some (posU (p++[(i:Int),(s:Int)]) u)) :
  ∀ (k s:Nat) (l:List (List Int)),x.kids.length - s<k->s<=x.kids.length->l.length+(posS p i s (x.kids.drop s)).length<=4000000 ->
   zDB F kids p (i:Int) k (s:Int) l=some (l++posS p i s (x.kids.drop s))
 | 0,s,l,h,_,_=>by omega
 | k+1,s,l,h,hs,hl=>by
  unfold zDB;rw[zNw hx];by_cases hj:s<x.kids.length
  ·have g:x.kids[s]? = some x.kids[s]:=ac hj;generalize x.kids[s]=u at *;rw[zXW g]at hl ⊢;rw[posS]at hl ⊢;rw[am]at hl;have e1:=hF s u g;have ih:=zSg F kids p i x hx hp hk hF k (s+1) (l++posU (p++[(i:Int),(s:Int)]) u) (by omega) (by omega) (by rw[am]; omega);have at2:=zNw g;have hlen:(x.kids.length:Int)=(x.kids.length:Int):=rfl;obtain⟨x1,x2,x3,x4⟩:=x;obtain⟨u1,u2,u3,u4⟩:=u;simp only[Nd.kids]at *;simp only[obs,zAD (aK.2 hj),ag,at2];rw[zA5 (by rw[an]; omega),zA5 (by simp only[ah,an]; omega),e1];simp only[obs];rw[zA5 (by omega),zAG (by omega),ih,aX]
  ·have e:x.kids.drop s=[]:=drop_of_length_le (by omega);rw[e,posS];obtain⟨x1,x2,x3,x4⟩:=x;simp only[Nd.kids]at hj hs;simp only[obs];rw[zAC (by omega),ae,bs]
def zSf (F:AllF) (N:Nat) (kids:List Nd) (p:List Int) (hp:p.length<=3000000) (hc:Nd.cnts kids<=1000000) (hN:Nd.cnts kids+1<N)
  (hF:∀ (i s:Nat) (x u:Nd),kids[i]? = some x->x.kids[s]? = some u->F u (p++[(i:Int),(s:Int)])=some (posU (p++[(i:Int),(s:Int)]) u)) :
  ∀ (k i:Nat) (l:List (List Int)),kids.length - i+1<k->i<=kids.length->l.length+(posI p i (kids.drop i)).length<=4000000 ->
   zDA F N kids p k (i:Int) l=some (l++posI p i (kids.drop i))
 | 0,i,l,h,_,_=>by omega
 | k+1,i,l,h,hi,hl=>by
  have hlk:=Nd.cnts_len kids;unfold zDA;rw[zAD (by omega),ag,yCE p i (by omega)];simp only[obs];by_cases hj:i<kids.length
  ·have g:kids[i]? = some kids[i]:=ac hj;generalize kids[i]=x at *;have mx:=Nd.cnts_mem (av g);have kx:=x.cnt_kids;have lx:=Nd.cnts_len x.kids;have hX:posX p i x=posS p i 0 x.kids :=(by cases x; rw[posX]; rfl);rw[zXW g]at hl ⊢;rw[posI,hX]at hl ⊢;rw[ah,am]at hl;rw[zA5 (by simp only[ah,an]; omega),zBA (by omega),ae];have e2:=zSg F kids p i x g hp (by omega) (fun s u hu=>hF i s x u g hu) N 0 (l++[p++[(i:Int)]]) (by omega) (aQ _) (by rw[drop_zero,am]; simp only[ah,an]; omega);rw[show((0:Nat):Int)=0 from rfl,drop_zero]at e2;rw[e2];simp only[obs];have ih:=zSf F N kids p hp hc hN hF k (i+1) (l++[p++[(i:Int)]]++posS p i 0 x.kids) (by omega) (by omega) (by simp only[am,ah,an]; omega);rw[zAG (by omega),ih];simp only[aX,bj,bE]
  ·obtain rfl:i=kids.length :=(by omega);rw[drop_length,posI]at hl ⊢;rw[zA5 (by simp only[ah,an]at hl ⊢; omega),aZ,ag]
def zPX:∀ (n:Nat) (t:Nd) (p:List Int),t.cnt+1<n->t.cnt<=1000000->p.length+2 * t.cnt<=3000000->zDz n t p=some (posU p t)
 | 0,t,p,h,_,_=>by omega
 | n+1,t,p,h,hc,hp=>by
  have k1:=t.cnt_kids;have l1:=Nd.cnts_len t.kids;have hlen:=zRi p 0 t.kids;have hU:posU p t=posI p 0 t.kids :=(by cases t; rw[posU]; rfl);have e:=zSf (zDz n) n t.kids p (by omega) (by omega) (by omega) (fun i s x u hx hu=>by
   have m1:=Nd.cnts_mem (av hx)
   have m2:=Nd.cnts_mem (av hu)
   have c1:=x.cnt_kids;exact zPX n u _ (by omega) (by omega) (by simp only[am,ah,an]; omega)) n 0 [] (by omega) (aQ _) (by rw[drop_zero,an]; omega)
  rw[show((0:Nat):Int)=0 from rfl,drop_zero,bE]at e;rw[hU];obtain⟨t1,t2,t3,t4⟩:=t;simp only[Nd.kids]at e ⊢;unfold zDz;simp only[e,obs]
def zLC (n:Nat) (t:Nd) (hv:zAM n t=some (zAu t)) (hn:t.cnt+1<n) (hc:t.cnt<=1000000):zGm n t=some (bif zAu t then (posT t,0) else ([],1)):=by
 have e:=zPX n t [] hn hc (by rw[an]; omega);unfold posT;obtain⟨t1,t2,t3,t4⟩:=t;unfold zGm;simp only[hv,e,obs];cases zAu (.mk t1 t2 t3 t4) <;> rfl
def zVm {a b:List Int} (ha:a.length<=1073741824):∀ (k i:Nat),a.length - i<k->i<=a.length->i<=b.length->a.take i=b.take i ->
  ∃ fl,zBQ a b k (i:Int)=some fl/\((∃ z,fl = .ret z/\z ≠ 0/\a ≠ b)∨(fl = .go ()/\(a.length=b.length->a=b)))
 | 0,i,h,_,_,_=>by omega
 | k+1,i,h,hi,hb,ht=>by
  unfold zBQ;by_cases h1:i<a.length
  ·rw[zAD (aK.2 h1),ag];by_cases h2:i<b.length
   ·rw[zAD (aK.2 h2)];simp only[obs,ag,zAH h1,zAH h2];by_cases h3:a[i]<b[i]
    ·rw[zAD h3,ag];exact⟨_,rfl,.inl ⟨-1,rfl,by decide,fun e=>by subst e; omega⟩⟩
    ·rw[zAC h3,ae];by_cases h4:b[i]<a[i]
     ·rw[zAD h4,ag];exact⟨_,rfl,.inl ⟨1,rfl,by decide,fun e=>by subst e; omega⟩⟩
     ·rw[zAC h4,ae,zAG (by omega)];have he:a[i]=b[i] :=(by omega);refine zVm ha k (i+1) (by omega) (by omega) (by omega) ?_;rw[← take_append_getElem h1,← take_append_getElem h2,ht,he]
   ·rw[zAC (by omega)];simp only[obs,ae];exact⟨_,rfl,.inr ⟨rfl,fun e=>by omega⟩⟩
  ·rw[zAC (by omega),ae];simp only[obs,ae];refine⟨_,rfl,.inr ⟨rfl,fun e=>?_⟩⟩;have:i=a.length :=(by omega);subst this;rw[take_length]at ht;rw[ht,take_of_length_le (by omega)]
def cmp_eq (n:Nat) (a b:List Int) (ha:a.length<=1073741824) (hn:a.length<n):∃ c,zDP n a b=some c/\(c=0↔a=b):=by
 obtain⟨fl,h1,h2⟩:=zVm (a:=a) (b:=b) ha n 0 (by omega) (Nat.zero_le _) (Nat.zero_le _) rfl;rw[show((0:Nat):Int)=0 from rfl]at h1;unfold zDP;dsimp only;rw[h1];rcases h2 with ⟨z,rfl,hz,hne⟩ | ⟨rfl,he⟩
 ·exact⟨z,rfl,fun h=>absurd h hz,fun h=>absurd h hne⟩
 simp only[obs];by_cases h3:a.length<b.length
 ·rw[zAD (aK.2 h3)];exact⟨-1,rfl,fun h=>(by omega),fun h=>(by subst h; omega)⟩
 rw[zAC (by omega),ae];by_cases h4:b.length<a.length
 ·rw[zAD (aK.2 h4)];exact⟨1,rfl,fun h=>(by omega),fun h=>(by subst h; omega)⟩
 rw[zAC (by omega),ae];exact⟨0,rfl,fun _=>he (by omega),fun _=>rfl⟩
def zVv (n:Nat) (pos:List Int) (L:List (List Int)) (hL:L.length<=1073741824) (hb:∀ q∈L,q.length<=1073741824/\q.length<n):∀ (k i:Nat),L.length - i<k->i<=L.length ->
  ∃ fl,zCy n pos L k (i:Int)=some fl/\((∃ j:Nat,fl = .ret ((j:Int),0)/\L[j]? = some pos)∨(fl = .go ()/\pos ∉ L.drop i))
 | 0,i,h,_=>by omega
 | k+1,i,h,hi=>by
  unfold zCy;by_cases hj:i<L.length
  ·have hm:=hb _ (aV hj);obtain⟨c,h1,h2⟩:=cmp_eq n L[i] pos hm.1 hm.2;rw[zAD (aK.2 hj),ag,zAH hj];simp only[obs,h1];by_cases hc:c=0
   ·subst hc;exact⟨_,rfl,.inl ⟨i,rfl,by rw[ac hj,h2.1 rfl]⟩⟩
   ·rw[zBA hc,ae,zAG (by omega)];obtain⟨fl,g1,g2⟩:=zVv n pos L hL hb k (i+1) (by omega) (by omega);refine⟨fl,g1,g2.imp id fun⟨g3,g4⟩=>⟨g3,fun hm'=>?_⟩⟩;rw[aO hj]at hm';rcases aR.1 hm' with hm' | hm'
    ·exact hc (h2.2 hm'.symm)
    ·exact g4 hm'
  ·rw[zAC (by omega),ae,drop_of_length_le (by omega)];exact⟨_,rfl,.inr ⟨rfl,fun h=>by cases h⟩⟩
def zKZ {t:Nd} (hv:zAu t=true){q:List Int} (h:q∈posT t):q.length<=49:=by
 obtain⟨k,f,c,d⟩:=zGw hv;have h1:=zX9 q t.kids ((zKP t q).1 h);have e:t.dep=Nd.deps t.kids+1:=by cases t; rfl
 omega
def zMo (n:Nat) (t:Nd) (pos:List Int) (hv:zAM n t=some (zAu t)) (hn:2000<n) (hc:t.cnt+1<n) (hc2:t.cnt<=1000000):∃ i e,zEf n t pos=some (i,e)/\((e=0/\zAu t=true/\∃ j:Nat,i=(j:Int)/\(posT t)[j]? = some pos)∨(e ≠ 0/\(zAu t=true->pos ∉ posT t))):=by
 have e1:=zLC n t hv hc hc2;have hlen:=yAB t;cases hvt:zAu t with
 | false =>
  rw[hvt]at e1;obtain⟨t1,t2,t3,t4⟩:=t;refine⟨0,1,?_,.inr ⟨by decide,fun h=>by cases h⟩⟩;unfold zEf;simp only[e1,ae,obs];rfl
 | true=>
 rw[hvt]at e1;obtain⟨k,f,c,d⟩:=zGw hvt;obtain⟨fl,g1,g2⟩:=zVv n pos (posT t) (by omega) (fun q hq=>by have:=zKZ hvt hq; omega) n 0 (by omega) (aQ _);rw[show((0:Nat):Int)=0 from rfl]at g1;rw[drop_zero]at g2;generalize posT t=L at *;obtain⟨t1,t2,t3,t4⟩:=t;unfold zEf;simp only[e1,ag,obs,show((0:Int) != 0)=false from rfl,ae,g1];rcases g2 with ⟨j,rfl,hj⟩ | ⟨rfl,hj⟩
 ·exact⟨_,_,rfl,.inl ⟨rfl,trivial,j,rfl,hj⟩⟩
 exact⟨_,_,rfl,.inr ⟨by decide,fun _=>hj⟩⟩
def zMp (n:Nat) (t:Nd) (pos:List Int) (hv:zAM n t=some (zAu t)) (hn:2000<n) (hc:t.cnt+1<n) (hc2:t.cnt<=1000000):∃ b,zE6 n t pos=some b/\(b=true↔zAu t=true/\inP t.kids pos):=by
 obtain⟨i,e,h1,h2⟩:=zMo n t pos hv hn hc hc2;refine⟨e == 0,?_,?_⟩
 ·obtain⟨t1,t2,t3,t4⟩:=t;unfold zE6;simp only[h1,obs]
 rw[bD];rcases h2 with ⟨rfl,g1,j,rfl,g2⟩ | ⟨g1,g2⟩
 ·exact⟨fun _=>⟨g1,(zKP t pos).1 (av g2)⟩,fun _=>rfl⟩
 exact⟨fun h=>absurd h g1,fun⟨h,h'⟩=>absurd ((zKP t pos).2 h') (g2 h)⟩
structure Tok (n:Nat) (t:Nd):Prop where
 fuel:200000000<n
 valid:zAu t=true
variable {t:Nd}{n:Nat}
def Tok.w  (k:Tok n t):t.w<=202000:=zG4 k.valid
def Tok.cnt  (k:Tok n t):t.cnt<=1000:=by
 obtain⟨_,_,c,_⟩:=zGw k.valid;exact c
def Tok.rv  (k:Tok n t):zAM n t=some (zAu t):=zEy n t (by have:=k.w; have:=k.fuel; omega) (by have:=k.w; omega)
variable {q:List Int}
def zVw {l:List Nd} (h:inP l q):0<q.length:=by
 cases q with
 | nil=>exact h.elim
 | cons a q=>simp
def Tok.short  (k:Tok n t) (h:inP t.kids q):q.length<=49:=zKZ k.valid ((zKP t q).2 h)
def zSm {a b:List Int} (ha:a.length<=1000000) (hb:b.length<=1000000):∀ (k x:Nat),a.length - x<k->x<a.length->x<b.length->∃ z:Nat,zBR a b k (x:Int)=some (z:Int)/\z<a.length/\z<b.length
 | 0,x,h,_,_=>by omega
 | k+1,x,h,h1,h2=>by
  unfold zBR;have w2:i64.wrap ((x:Int)+2)=((x+2:Nat):Int) :=(by rw[wrap64_in (by omega) (by omega)]; omega);have w1:i64.wrap ((x:Int)+1)=((x+1:Nat):Int):=zAG (by omega);rw[w2,w1];by_cases h3:x+2<a.length
  ·rw[zAD (aK.2 h3),ag];by_cases h4:x+2<b.length
   ·rw[zAD (aK.2 h4),ag,zAH h1,zAH h2,zAH (show x+1<a.length by omega),zAH (show x+1<b.length by omega)];simp only[obs];cases(a[x] == b[x]) with
    | false=>exact⟨x,rfl,h1,h2⟩
    | true =>
     simp only[ag,obs];cases(a[x+1]'(by omega) == b[x+1]'(by omega)) with
     | false=>exact⟨x,rfl,h1,h2⟩
     | true =>
      simp only[ag];exact zSm ha hb k (x+2) (by omega) h3 h4
   ·rw[zAC (by omega)];exact⟨x,rfl,h1,h2⟩
  ·rw[zAC (by omega)];exact⟨x,rfl,h1,h2⟩
def zX1 (p:List Int) (z:Nat) (hz:z<p.length):∃ a b,zF1 p (z:Int)=some (a,b):=by
 unfold zF1;dsimp only;rw[zAH hz];simp only[obs];cases((p.length:Int) == i64.wrap ((z:Int)+1)) with
 | true=>exact⟨_,_,rfl⟩
 | false=>exact⟨_,_,rfl⟩
def zPd  (k:Tok n t) (a b:List Int):∃ r e,zCp n t a b=some (r,e)/\(e=0->inP t.kids a/\inP t.kids b/\r.1.length<=49):=by
 have hv:=k.rv;have hf:=k.fuel;have hc:=k.cnt;obtain⟨x,g1,g2⟩:=zMp n t a hv (by omega) (by omega) (by omega);obtain⟨y,g3,g4⟩:=zMp n t b hv (by omega) (by omega) (by omega);rw[k.valid]at hv;cases x with
 | false =>
  obtain⟨t1,t2,t3,t4⟩:=t;refine⟨([],0,0),2,?_,fun h=>by cases h⟩;unfold zCp;simp only[hv,obs,aB,ae,g1,bf,ag]
 | true=>
 cases y with
 | false =>
  obtain⟨t1,t2,t3,t4⟩:=t;refine⟨([],0,0),2,?_,fun h=>by cases h⟩;unfold zCp;simp only[hv,obs,aB,ae,g1,g3,bf,ag]
 | true=>
 have ia:=(g2.1 rfl).2;have ib:=(g4.1 rfl).2;have sa:=k.short ia;have sb:=k.short ib;obtain⟨z,e1,z1,z2⟩:=zSm (a:=a) (b:=b) (by omega) (by omega) n 0 (by omega) (zVw ia) (zVw ib);rw[show((0:Nat):Int)=0 from rfl]at e1;obtain⟨p1,p2,e2⟩:=zX1 a z z1;obtain⟨q1,q2,e3⟩:=zX1 b z z2;refine⟨((a.take (z:Int).toNat).drop (0:Int).toNat,(if q1<p1 then q1 else p1),(if p2<q2 then q2 else p2)),0,?_,fun _=>⟨ia,ib,?_⟩⟩
 ·obtain⟨t1,t2,t3,t4⟩:=t;unfold zCp;simp only[hv,obs,aB,ae,g1,g3,e1,e2,e3];rw[zA5 ⟨by omega,by omega,by omega⟩,zA5 (by simp only[an,bA,bg]; omega)]
 simp only[bA,bg];omega
def zHv  (k:Tok n t) (c:Cur):∃ r e,zCc n t c=some (r,e)/\(e=0->inP t.kids c.1/\r.1.length<=49):=by
 obtain⟨p,q⟩:=c;have key:∃ r e,zKN n t (p,q)=some (r,e)/\(e=0->inP t.kids p/\r.1.length<=49):=by
  obtain⟨r,e,h1,h2⟩:=zPd k p p;obtain⟨r',e',h3,h4⟩:=zPd k p q;obtain⟨t1,t2,t3,t4⟩:=t;obtain⟨r1,r2,r3⟩:=r;obtain⟨s1,s2,s3⟩:=r';unfold zKN;dsimp only;cases((q.length:Int) == 0) with
  | true =>
   simp only[ag,h1,obs];exact⟨_,_,rfl,fun h=>⟨(h2 h).1,(h2 h).2.2⟩⟩
  | false=>
  simp only[ae,h3,obs];exact⟨_,_,rfl,fun h=>⟨(h4 h).1,(h4 h).2.2⟩⟩
 obtain⟨r,e,h1,h2⟩:=key;obtain⟨t1,t2,t3,t4⟩:=t;obtain⟨r1,r2,r3⟩:=r;unfold zCc;simp only[h1,obs];exact⟨_,_,rfl,h2⟩
def yC1 (l:List Nd) (p q:Nat):Nd.ws ((l.take q).drop p)<=Nd.ws l:=by
 have h1:=Nd.ws_append (l.take q) (l.drop q);have h2:=Nd.ws_append ((l.take q).take p) ((l.take q).drop p);rw[take_append_drop]at h1 h2
 omega
def yBI {p:List Int}:(rowS t p).1.w<=t.w:=by
 have h1:zCv.w<=t.w :=(by have:=zHp (v:=t); show 1<=t.w; omega);unfold rowS;split
 ·cases h:zBn t p with
  | none=>exact h1
  | some r=>exact(zIj _ p t r (ax _) h).1
 exact h1
def zU9  (k:Tok n t) (r:List Int×Int×Int) (hp:r.1.length<=100):∃ l e,zE7 n t r=some (l,e)/\Nd.ws l<=t.w:=by
 obtain⟨p,x,y⟩:=r;have hf:=k.fuel;have hw:=k.w;have hr:=zI4 n t p (by dsimp only at hp; omega) k.rv;have hle:=yBI (t:=t) (p:=p);generalize rowS t p=q at hr hle;obtain⟨⟨u1,u2,u3,u4⟩,e⟩:=q;have hu:Nd.ws u4<=t.w:=by
  have:(Nd.mk u1 u2 u3 u4).w=u2.length+Nd.ws u4+1:=rfl;have hle':(Nd.mk u1 u2 u3 u4).w<=t.w:=hle;omega
 have hul:=Nd.ws_len u4;obtain⟨t1,t2,t3,t4⟩:=t;unfold zE7;simp only[hr,obs];cases(e != 0) with
 | true=>exact⟨[],e,rfl,aQ _⟩
 | false=>
 simp only[ae];by_cases h1:x<0
 ·rw[zAD h1];exact⟨[],2,rfl,aQ _⟩
 rw[zAC h1];by_cases h2:y<x
 ·rw[zAD h2];exact⟨[],2,rfl,aQ _⟩
 rw[zAC h2];by_cases h3:(u4.length:Int)<y
 ·rw[zAD h3];exact⟨[],2,rfl,aQ _⟩
 rw[zAC h3];simp only[ae,obs];rw[zA5 ⟨by omega,by omega,by omega⟩,zA5 (by simp only[an,bA,bg]; omega)];exact⟨_,_,rfl,bc (yC1 _ _ _) hu⟩
def zXV  (k:Tok n t) (r:List Int×Int×Int) (hp:r.1.length<=100):∃ l,zGo n t r=some l/\l.length<=1/\∀ o∈l,zHE o<=t.w+100:=by
 obtain⟨l,e,h1,h2⟩:=zU9 k r hp;obtain⟨p,x,y⟩:=r;obtain⟨t1,t2,t3,t4⟩:=t;unfold zGo;simp only[h1,obs];cases((l.length:Int) == 0) with
 | true=>exact⟨[],rfl,by simp,fun o h=>by cases h⟩
 | false=>
 refine⟨_,rfl,by simp,fun o h=>?_⟩;rw[aD.1 h];simp only[zHE,Op8.nodes,Op8.text,Op8.row,an];dsimp only at hp;omega
def Ans (t:Nd) (x:Option (Rc×Int)):Prop:=∃ r e,x=some (r,e)/\RFew r/\(e=0->∃ u,Runs t r.1 u 0)
def yBo:RFew (([],([],[]),([],[])):Rc):=⟨by decide,fun o h=>(by cases h),by decide,by decide,by decide,by decide⟩
def Ans.zero  (e:Int) (he:e ≠ 0):Ans t (some ((([],([],[]),([],[])):Rc),e)):=⟨_,_,rfl,yBo,fun h=>(he h).elim⟩
def zFE  (k:Tok n t) (c:Cur) (ops:List Op8) (pos:List Int) (hc:c.1.length<=10000/\c.2.length<=10000) (hl:ops.length<=12) (ho:∀ o∈ops,zHE o<=1048576) (hp:pos.length<=1000000):Ans t (zBl n t c ops pos):=by
 have hf:RFew (ops,c,(pos,[])):=⟨hl,ho,by have:=hc.1; dsimp only; omega,by have:=hc.2; dsimp only; omega,by dsimp only; omega,Nat.zero_le _⟩;obtain⟨u,i,e,h1,h2⟩:=hf.ref n k.fuel k.valid;obtain⟨c1,c2⟩:=c;obtain⟨u1,u2,u3,u4⟩:=u;obtain⟨t1,t2,t3,t4⟩:=t;dsimp only at h1;unfold zBl;simp only[h1,obs];cases he:(e != 0) with
 | true=>exact Ans.zero 6 (by decide)
 | false=>obtain rfl:e=0 :=(by simpa using he);exact⟨_,_,rfl,hf,fun _=>⟨_,h2⟩⟩
def zHu (p q:List Int) (hp:p.length<=1000000) (hq:q.length<=1000000):zDQ p q=some (p++q):=by
 unfold zDQ;dsimp only;rw[zA5 (by simp only[length_nil]; omega),zA5 (by omega)]
def zMa (ks:List Nd) (but:Int) (hl:ks.length<=1073741824):∀ (k i:Nat),ks.length - i<k->i<=ks.length->∃ fl,zBS ks but k (i:Int)=some fl
 | 0,i,h,_=>by omega
 | k+1,i,h,hi=>by
  unfold zBS;by_cases hj:i<ks.length
  ·rw[zAD (aK.2 hj),ag,zAH hj];obtain⟨x1,x2,x3,x4⟩:=ks[i];have ih:=zMa ks but hl k (i+1) (by omega) (by omega);rw[zAG (by omega)];cases((i:Int) != but) with
   | false =>
    simp only[ae,obs];exact ih
   | true =>
    simp only[ag,obs];cases decide (0<(x4.length:Int)) with
    | true=>exact⟨_,rfl⟩
    | false=>exact ih
  ·rw[zAC (by omega)];exact⟨_,rfl⟩
def zPw (n:Nat) (x:Nd) (but:Int) (hl:x.kids.length<=1073741824) (hn:x.kids.length<n):∃ b,zDR n x but=some b:=by
 obtain⟨fl,h⟩:=zMa x.kids but hl n 0 (by omega) (aQ _);rw[show((0:Nat):Int)=0 from rfl]at h;obtain⟨x1,x2,x3,x4⟩:=x;simp only[Nd.kids]at h;unfold zDR;simp only[h,obs];cases fl with
 | ret b=>exact⟨b,rfl⟩
 | go u=>exact⟨false,rfl⟩
def zPE:∀ (q:List Int) (v:Nd),inP v.kids q->3<=q.length->∃ (p:List Int) (i s:Nat) (o:Int) (row x u:Nd),q=p++[(i:Int),(s:Int),o]/\zBn v p=some row/\row.kids[i]? = some x/\x.kids[s]? = some u
 | [],v,h,_=>h.elim
 | [_],v,_,h=>by simp at h
 | [_,_],v,h,_=>by
  obtain⟨_,_,_,_,u,_,h⟩:=zE2.1 h;exact h.elim
 | a::b::c::[],v,h,_=>by
  obtain⟨h1,x,h2,h3,u,h4,h5⟩:=zE2.1 h;refine⟨[],a.toNat,b.toNat,c,v,x,u,?_,?_,h2,h4⟩
  ·rw[Int.toNat_of_nonneg h1,Int.toNat_of_nonneg h3]; rfl
  rw[zBn]
 | a::b::c::d::r,v,h,_=>by
  obtain⟨h1,x,h2,h3,u,h4,h5⟩:=zE2.1 h;have hr:3<=(c::d::r).length:=by
   cases r with
   | nil=>obtain⟨_,_,_,_,u',_,h⟩:=zE2.1 h5;exact h.elim
   | cons e r=>simp
  obtain⟨p,i,s,o,row,x',u',g1,g2,g3,g4⟩:=zPE (c::d::r) u h5 hr;refine⟨a::b::p,i,s,o,row,x',u',by rw[g1]; rfl,?_,g3,g4⟩;have:=zNL (n:=v) (p:=p) h2 h4;rw[Int.toNat_of_nonneg h1,Int.toNat_of_nonneg h3]at this;rw[this];exact g2
variable {p:List Int}{t:Nd}
def yCp {i:Int}:(zUl t p i).1.w<=t.w:=by
 have h1:zCv.w<=t.w :=(by have:=zHp (v:=t); show 1<=t.w; omega);unfold zUl;split
 ·cases h:zBn t p with
  | none=>exact h1
  | some r=>
  dsimp only;have hw:=(zIj _ p t r (Nat.lt_succ_self _) h).1;split
  ·rename_i hi;have hlt:i.toNat<r.kids.length :=(by omega);have hm:r.kids.getD i.toNat r∈r.kids :=(by rw[aL,ac hlt]; exact aV hlt);have:=Nd.w_mem hm;have:=zHp (v:=r);dsimp only;omega
  exact h1
 exact h1
variable {n:Nat}
def zKt  (k:Tok n t){q:List Int} (h:inP t.kids q):(∃ y,zB1 n t q=some (y,false)) ∨
  ∃ (p:List Int) (i s:Nat) (o:Int) (x u:Nd),q=p++[(i:Int),(s:Int),o]/\p.length<=46/\zB1 n t q=some ((p,(i:Int),(s:Int),x),true)/\x.kids[s]? = some u/\x.w<=t.w/\zCI x=true/\i<=1000/\x.kids.length<=1000:=by
 have hs:=k.short h;have hf:=k.fuel;by_cases h3:q.length<3
 ·left;obtain⟨t1,t2,t3,t4⟩:=t;unfold zB1;dsimp only;rw[zAD (by omega),cond_true];exact⟨_,rfl⟩
 right;obtain⟨p,i,s,o,row,x,u,rfl,g2,g3,g4⟩:=zPE q t h (by omega);simp only[am,ah,an]at hs;have hp:p.length<=46 :=(by omega);have hfd:=zZ5 g2;obtain⟨vk,vf,vc,vd⟩:=zGw k.valid;obtain⟨rf,rk⟩:=hfd.form vf vk;have hm:=av g3;have hsub:=zIj _ p t row (ax _) g2;have hw:=Nd.w_mem hm;have hrw:=zHp (v:=row);have hil:=(aa.1 g3).1;have hcm:=Nd.cnts_mem hm;have hck:=row.cnt_kids;have hcl:=Nd.cnts_len row.kids;have hxk:=x.cnt_kids;have hxl:=Nd.cnts_len x.kids;have hfx:zCI x=true:=(zGj (k:=row.kind) (a:=row.kids) (by cases row; exact zKF rf) hm).1;have hit:=zOe n t p (i:Int) (by omega) k.rv;have hitS:zUl t p (i:Int)=(x,0):=by
  unfold zUl;rw[if_pos k.valid,g2];dsimp only;rw[if_pos ⟨by omega,by omega⟩,Int.toNat_natCast,getD_eq_getElem?_getD,g3];rfl
 rw[hitS]at hit;refine⟨p,i,s,o,x,u,rfl,hp,?_,g4,by omega,hfx,by omega,by omega⟩;have l0:((p++[(i:Int),(s:Int),o]).length:Int)=((p.length+3:Nat):Int) :=(by simp);have w3:i64.wrap (((p.length+3:Nat):Int) - 3)=(p.length:Int) :=(by rw[wrap64_in (by omega) (by omega)]; omega);have w2:i64.wrap (((p.length+3:Nat):Int) - 2)=((p.length+1:Nat):Int) :=(by rw[wrap64_in (by omega) (by omega)]; omega);have a1:at? (p++[(i:Int),(s:Int),o]) (p.length:Int)=some (i:Int):=by
  rw[zAH (by simp)]; simp
 have a2:at? (p++[(i:Int),(s:Int),o]) ((p.length+1:Nat):Int)=some (s:Int):=by
  rw[zAH (by simp)]; simp
 have tk:((p++[(i:Int),(s:Int),o]).take (p.length:Int).toNat).drop (0:Int).toNat=p:=by
  rw[au,take_left]; rfl
 obtain⟨t1,t2,t3,t4⟩:=t;obtain⟨x1,x2,x3,x4⟩:=x;unfold zB1;dsimp only;rw[l0,zAC (by omega),cond_false,w3,w2,a1,a2,tk,zA5 ⟨by omega,by omega,by omega⟩];simp only[obs,hit];rw[zA5 ⟨by omega,by omega,by omega⟩]
def zOB (p:List Int) (i s:Nat){x u:Nd} (hu:x.kids[s]? = some u) (hl:x.kids.length<=1000) (hp:p.length<=46):∃ m z,zEv (p,(i:Int),(s:Int),x)=some (4,p,(i:Int),m,[z],(s:Int),[],[])/\z.w<=x.w+2:=by
 have hr:=zEQ (k:=x.kind) (tx:=x.text) (c:=x.cols) (ks:=x.kids) (i:=s) (x:=.mk 1 [] 0 []) hu (by omega);have ha:=zNw hu;have hw:=zJ5 (y:=.mk 1 [] 0 []) hu;have e1:(Nd.mk 1 [] 0 []).w=1:=rfl;have e2:=zHp (v:=x);have e3:(Nd.mk x.kind x.text x.cols (x.kids.set s (.mk 1 [] 0 []))).w=x.text.length+Nd.ws (x.kids.set s (.mk 1 [] 0 []))+1:=rfl;have e4:=zHp (v:=u);refine⟨(u.kids.length:Int),.mk x.kind x.text x.cols (x.kids.set s (.mk 1 [] 0 [])),?_,by omega⟩;obtain⟨x1,x2,x3,x4⟩:=x;obtain⟨u1,u2,u3,u4⟩:=u;simp only[Nd.kind,Nd.text,Nd.cols,Nd.kids]at hr ha;unfold zEv zAU;simp only[ha,obs,hr];rfl
def zRz {i m s:Int}{z:Nd}:zHE (4,p,i,m,[z],s,[],[])=z.w+1+p.length:=by
 simp[zHE,Op8.nodes,Op8.text,Op8.row,Nd.ws]
def zXo  (k:Tok n t) (c:Cur) (items:List Nd) (hc:c.1.length<=10000/\c.2.length<=10000) (hi:Nd.ws items<=1000000):Ans t (zCQ n t c items):=by
 have hv:=k.rv;have hf:=k.fuel;have hw:=k.w;rw[k.valid]at hv;have hi2:=zFV n items (by omega) (by omega);have hil:=Nd.ws_len items;obtain⟨⟨r1,r2,r3⟩,e,h1,h2⟩:=zHv k c;by_cases he:e=0
 ·obtain⟨g1,g2⟩:=h2 he;obtain⟨l,h3,h4,h5⟩:=zXV k (r1,r2,r3) (by dsimp only at g2 ⊢; omega);have h6:=zHu r1 [i64.wrap (r2+(items.length:Int))] (by dsimp only at g2; omega) (by simp);have h7:=zFE k c (l++[(1,r1,r2,0,items,0,[],[])]) (r1++[i64.wrap (r2+(items.length:Int))]) hc (by simp only[am,ah,an]; omega) (fun o ho=>by
   rcases aN.1 ho with ho | ho
   ·have:=h5 o ho; omega
   rw[aD.1 ho]
   simp only[zHE,Op8.nodes,Op8.text,Op8.row,an]
   dsimp only at g2
   omega) (by simp only[length_append,length_cons,length_nil]; dsimp only at g2; omega)
  have h8:=zFE k c l (r1++[i64.wrap (r2+(items.length:Int))]) hc (by omega) (fun o ho=>by have:=h5 o ho; omega) (by simp only[length_append,length_cons,length_nil]; dsimp only at g2; omega);obtain⟨c1,c2⟩:=c;obtain⟨t1,t2,t3,t4⟩:=t;unfold zCQ;simp only[hv,hi2,obs,aB,ae];cases zAu (rowN items) with
  | false=>exact Ans.zero 1 (by decide)
  | true=>
  simp only[aB,ae,h1,obs,he,show((0:Int) != 0)=false from rfl,h3,h6];cases decide (0<(items.length:Int)) with
  | true =>
   simp only[ag];rw[zA5 (by simp only[ah,an]; omega)];simp only[obs];obtain⟨⟨a,⟨b1,b2⟩,⟨d1,d2⟩⟩,e',q1,q2⟩:=h7;simp only[q1,obs];exact⟨_,_,rfl,q2⟩
  | false=>
  simp only[ae,obs];obtain⟨⟨a,⟨b1,b2⟩,⟨d1,d2⟩⟩,e',q1,q2⟩:=h8;simp only[q1,obs];exact⟨_,_,rfl,q2⟩
 obtain⟨c1,c2⟩:=c;obtain⟨t1,t2,t3,t4⟩:=t;unfold zCQ;simp only[hv,hi2,obs,aB,ae];cases zAu (rowN items) with
 | false=>exact Ans.zero 1 (by decide)
 | true=>
 simp only[aB,ae,h1,obs,show(e != 0)=true from bne_iff_ne.2 he,ag];exact Ans.zero e he
def zTL (ks:List Nd) (sl:Int) (row:List Int) (a b:Int) (hr:row.length<=1000) (hl:ks.length<=1000000):∀ (k t:Nat) (x:List Int),t<k->t<=ks.length->x.length<=2000->∃ y,zCr ks sl row a b k x ((t:Int) - 1)=some y/\y.length<=2000
 | 0,t,x,h,_,_=>by omega
 | k+1,0,x,_,_,hx=>by
  unfold zCr;rw[zAC (by omega)];exact⟨x,rfl,hx⟩
 | k+1,t+1,x,h,ht,hx=>by
  unfold zCr;have ez:(((t+1:Nat):Int) - 1)=(t:Int) :=(by omega);have g:ks[t]? = some (ks[t]'(by omega)):=ac (by omega);generalize ks[t]'(by omega)=v at g;have ha:=zHu row [a,(t:Int),0] (by omega) (by simp);obtain⟨v1,v2,v3,v4⟩:=v;have w1:i64.wrap ((t:Int) - 1)=(t:Int) - 1:=wrap64_in (by omega) (by omega);rw[ez,zAD (by omega),ag,zNw g,ha,w1];simp only[obs];have ih:=fun x hx=>zTL ks sl row a b hr hl k t x (by omega) (by omega) hx
  cases hc:((v4.length:Int) == 0) with
  | false =>
   simp only[ae,obs];exact ih x hx
  | true=>
  simp only[ag];cases((t:Int) != sl) with
  | true =>
   simp only[ag,obs];exact ih _ (by simp only[am,ah,an]; omega)
  | false=>
  simp only[ae,obs];cases(i64.wrap (b - a) == 0) with
  | true =>
   simp only[ag,obs];exact ih _ (by simp only[am,ah,an]; omega)
  | false=>
  simp only[ae,obs];exact ih x hx
def yB0  (k:Tok n t) (c:Cur) (x:Nd) (sl:Int) (hc:c.1.length<=10000/\c.2.length<=10000) (hx:x.w<=1000000):Ans t (zEu n t c x sl):=by
 have hv:=k.rv;have hf:=k.fuel;rw[k.valid]at hv;have hws:Nd.ws [x]=x.w+1 :=(by simp[Nd.ws]);obtain⟨fb,hfo,_⟩:=zHI n 3 [] 0 0 [x] sl [] [] (by omega) (by omega);have hkw:=zHp (v:=x);have hkl:=Nd.ws_len x.kids;obtain⟨⟨r1,r2,r3⟩,e,h1,h2⟩:=zHv k c;by_cases he:e=0
 ·obtain⟨g1,g2⟩:=h2 he;dsimp only at g2;have h6:=zHu r1 [i64.wrap (r2+1)] (by omega) (by simp);obtain⟨y,h7,h8⟩:=zTL x.kids sl r1 r2 r3 (by omega) (by omega) n x.kids.length (r1++[i64.wrap (r2+1)]) (by omega) (ar _) (by simp only[am,ah,an]; omega);have h9:=zFE k c [(3,r1,r2,i64.wrap (r3 - r2),[x],sl,[],[])] y hc (by simp) (fun o ho=>by
   rw[aD.1 ho]
   simp only[zHE,Op8.nodes,Op8.text,Op8.row,an,hws]
   omega) (by omega)
  have hwr:i64.wrap ((x.kids.length:Int) - 1)=(x.kids.length:Int) - 1:=wrap64_in (by omega) (by omega);obtain⟨c1,c2⟩:=c;obtain⟨t1,t2,t3,t4⟩:=t;obtain⟨x1,x2,x3,x4⟩:=x;simp only[Nd.kids]at h7 hwr;unfold zEu;simp only[hv,hfo,obs,aB,ae];cases fb with
  | false=>exact Ans.zero 1 (by decide)
  | true=>
  simp only[aB,ae,h1,obs,he,show((0:Int) != 0)=false from rfl,h6,hwr,h7];obtain⟨⟨a,⟨b1,b2⟩,⟨d1,d2⟩⟩,e',q1,q2⟩:=h9;simp only[q1,obs];exact⟨_,_,rfl,q2⟩
 obtain⟨c1,c2⟩:=c;obtain⟨t1,t2,t3,t4⟩:=t;obtain⟨x1,x2,x3,x4⟩:=x;unfold zEu;simp only[hv,hfo,obs,aB,ae];cases fb with
 | false=>exact Ans.zero 1 (by decide)
 | true=>
 simp only[aB,ae,h1,obs,show(e != 0)=true from bne_iff_ne.2 he,ag];exact Ans.zero e he
def zOC (a b:List Int) (o:Int) (s:Int) (i:Int) (hb:a=b++[i,s,o]) (hl:b.length<=1000000):∀ (k j:Nat),b.length - j<k->j<=b.length->zCb a b k (j:Int)=some (.go ())
 | 0,j,h,_=>by omega
 | k+1,j,h,hj=>by
  unfold zCb;by_cases h1:j<b.length
  ·have h2:j<a.length :=(by rw[hb]; simp; omega);have e:a[j]=b[j] :=(by subst hb; rw[getElem_append_left h1]);rw[zAD (aK.2 h1),ag,zAH h1,zAH h2,e];simp only[obs,bne_self_eq_false,ae];rw[zAG (by omega)];exact zOC a b o s i hb hl k (j+1) (by omega) (by omega)
  ·rw[zAC (by omega)]; rfl
def yBW (n:Nat) (p:List Int) (i s:Nat) (o m:Int) (z:Nd) (hp:p.length<=46) (hn:1000<n):∃ y,zIt n (4,p,(i:Int),m,[z],(s:Int),[],[]) (p++[(i:Int),(s:Int),o]) false=some y/\y.length<=1000:=by
 have hw:=zOC (p++[(i:Int),(s:Int),o]) p o s i rfl (by omega) n 0 (by omega) (aQ _);rw[show((0:Nat):Int)=0 from rfl]at hw;have l0:((p++[(i:Int),(s:Int),o]).length:Int)=(p.length:Int)+3 :=(by simp);have w1:i64.wrap ((p.length:Int)+1)=(p.length:Int)+1:=wrap64_in (by omega) (by omega);have w2:i64.wrap ((p.length:Int)+2)=(p.length:Int)+2:=wrap64_in (by omega) (by omega);have hwi:zFA n (p++[(i:Int),(s:Int),o]) p=some true:=by
  unfold zFA;dsimp only;rw[l0,zAC (by omega),cond_false,hw];simp only[obs];rw[w2];congr 1;exact bne_iff_ne.2 (by omega)
 have a1:at? (p++[(i:Int),(s:Int),o]) (p.length:Int)=some (i:Int) :=(by rw[zAH (by simp)]; simp);have a2:at? (p++[(i:Int),(s:Int),o]) ((p.length:Int)+1)=some (s:Int):=by
  rw[show((p.length:Int)+1)=((p.length+1:Nat):Int) from rfl,zAH (by simp)]; simp
 have dr:((p++[(i:Int),(s:Int),o]).take ((p.length:Int)+3).toNat).drop ((p.length:Int)+2).toNat=[o]:=by
  rw[show((p.length:Int)+3).toNat=p.length+3 by omega,show((p.length:Int)+2).toNat=p.length+2 by omega,take_of_length_le (by simp),drop_append];simp
 have ins:∃ y,zFz (4,p,(i:Int),m,[z],(s:Int),[],[]) (i:Int) (s:Int) [o]=some y/\y.length=1:=by
  refine⟨[i64.wrap ((i:Int)+o)],?_,rfl⟩;have d1:decide ((i:Int)<(i:Int))=false:=zAC (by omega);have d2:decide ((s:Int)<(s:Int))=false:=zAC (by omega);unfold zFz;simp only[d1,d2,ae,ag,obs,aZ,show((4:Int) == 1)=false from rfl,show((4:Int) == 2)=false from rfl,show((4:Int) == 3)=false from rfl];rfl
 obtain⟨y,e1,e2⟩:=ins;refine⟨p++y,?_,by rw[am,e2]; omega⟩;unfold zIt;simp only[hwi,obs,aB,ae];rw[zA5 (by simp only[an]; omega),l0,w1,zBA (by omega),ae,a1,a2,w2,dr];simp only[obs];rw[zA5 ⟨by omega,by omega,by omega⟩,e1];simp only[obs];rw[zA5 (by rw[e2]; omega)]
def zXC {n:Nat}{t:Nd} (k:Tok n t) (c:Cur) (hc:c.1.length<=10000/\c.2.length<=10000):Ans t (zDD n t c):=by
 have hf:=k.fuel;have hw:=k.w;obtain⟨⟨r1,r2,r3⟩,e,h1,h2⟩:=zHv k c;by_cases he:e=0
 ·obtain⟨g1,g2⟩:=h2 he;rcases zKt k g1 with ⟨⟨y1,y2,y3,⟨y4,y5,y6,y7⟩⟩,h3⟩ | ⟨p,i,s,o,x,u,q1,q2,q3,q4,q5,q6,q7,q8⟩
  ·obtain⟨c1,c2⟩:=c;obtain⟨t1,t2,t3,t4⟩:=t;unfold zDD;simp only[h1,obs,he,show((0:Int) != 0)=false from rfl,ae,h3,bf,ag];exact Ans.zero 8 (by decide)
  obtain⟨m,z,h4,h5⟩:=zOB p i s q4 q8 q2;obtain⟨y,h6,h7⟩:=yBW n p i s o m z q2 (by omega);rw[← q1]at h6;have h8:=zFE k c [(4,p,(i:Int),m,[z],(s:Int),[],[])] y hc (by simp) (fun o ho=>by rw[aD.1 ho,zRz]; omega) (by omega);obtain⟨c1,c2⟩:=c;obtain⟨t1,t2,t3,t4⟩:=t;obtain⟨x1,x2,x3,x4⟩:=x;dsimp only at h6;unfold zDD;simp only[h1,obs,he,show((0:Int) != 0)=false from rfl,cond_false,q3,Bool.not_true,h4,h6];obtain⟨⟨a,⟨b1,b2⟩,⟨d1,d2⟩⟩,e',w1,w2⟩:=h8;simp only[w1,obs];exact⟨_,_,rfl,w2⟩
 obtain⟨c1,c2⟩:=c;obtain⟨t1,t2,t3,t4⟩:=t;unfold zDD;simp only[h1,obs,show(e != 0)=true from bne_iff_ne.2 he,ag];exact Ans.zero e he
def zVy {p:List Int}{a b o:Int}:(((p++[a,b,o]).length:Int)=(p.length:Int)+3)/\at? (p++[a,b,o]) ((p.length:Int)+2)=some o:=by
 refine⟨by simp,?_⟩;rw[show((p.length:Int)+2)=((p.length+2:Nat):Int) from rfl,zAH (by simp)];simp
def zZO {n:Nat}{t:Nd} (k:Tok n t) (c:Cur) (hc:c.1.length<=10000/\c.2.length<=10000):Ans t (zEh n t c):=by
 have hf:=k.fuel;have hw:=k.w;obtain⟨⟨r1,r2,r3⟩,e,h1,h2⟩:=zHv k c;by_cases he:e=0
 ·obtain⟨g1,g2⟩:=h2 he;rcases zKt k g1 with ⟨⟨y1,y2,y3,⟨y4,y5,y6,y7⟩⟩,h3⟩ | ⟨p,i,s,o,x,u,q1,q2,q3,q4,q5,q6,q7,q8⟩
  ·obtain⟨c1,c2⟩:=c;obtain⟨t1,t2,t3,t4⟩:=t;unfold zEh;simp only[h1,obs,he,show((0:Int) != 0)=false from rfl,ae,h3,bf,ag];exact Ans.zero 8 (by decide)
  obtain⟨l0,a0⟩:=zVy (p:=p) (a:=(i:Int)) (b:=(s:Int)) (o:=o);rw[← q1]at l0 a0;have w1:i64.wrap ((c.1.length:Int) - 1)=(p.length:Int)+2 :=(by rw[l0,wrap64_in (by omega) (by omega)]; omega);have h4:=zHu p [(i:Int),(s:Int)] (by omega) (by simp);obtain⟨l,e2,h5,h6⟩:=zU9 k (p++[(i:Int),(s:Int)],o,(u.kids.length:Int)) (by simp only[am,ah,an]; omega);obtain⟨l',h7,h8,h9⟩:=zXV k (p++[(i:Int),(s:Int)],o,(u.kids.length:Int)) (by simp only[am,ah,an]; omega);have ha:=zNw q4;have hr:=zEQ (k:=x.kind) (tx:=x.text) (c:=x.cols) (ks:=x.kids) (i:=s) (x:=.mk 1 [] 0 l) q4 (by omega);have hws:=zJ5 (y:=.mk 1 [] 0 l) q4;have hl1:(Nd.mk 1 [] 0 l).w=Nd.ws l+1 :=(by simp[Nd.w]);have hk:=zHp (v:=x);have hz:(Nd.mk x.kind x.text x.cols (x.kids.set s (.mk 1 [] 0 l))).w=x.text.length+Nd.ws (x.kids.set s (.mk 1 [] 0 l))+1:=rfl;have h10:=zHu p [i64.wrap ((i:Int)+1),(s:Int),0] (by omega) (by simp);have h11:=zFE k c (l'++[(1,p,i64.wrap ((i:Int)+1),0,[Nd.mk x.kind x.text x.cols (x.kids.set s (.mk 1 [] 0 l))],0,[],[])]) (p++[i64.wrap ((i:Int)+1),(s:Int),0]) hc (by simp only[am,ah,an]; omega) (fun o ho=>by
   rcases aN.1 ho with ho | ho
   ·have:=h9 o ho; omega
   rw[aD.1 ho]
   simp only[zHE,Op8.nodes,Op8.text,Op8.row,an,Nd.ws]
   omega) (by simp only[am,ah,an]; omega)
  obtain⟨c1,c2⟩:=c;obtain⟨t1,t2,t3,t4⟩:=t;obtain⟨x1,x2,x3,x4⟩:=x;obtain⟨u1,u2,u3,u4⟩:=u;simp only[Nd.kind,Nd.text,Nd.cols,Nd.kids]at *;unfold zEh zAU;simp only[h1,obs,he,show((0:Int) != 0)=false from rfl,ae,q3,aB,w1,a0];have hb:∃ v,(bif decide (r2<r3) then some true else bif (x1 != 11) then some (x1 != 10) else some false:Option Bool)=some v:=by
   cases decide (r2<r3) <;> cases(x1 != 11) <;> exact⟨_,rfl⟩
  obtain⟨v,hb⟩:=hb;simp only[hb,obs];cases v with
  | true=>exact Ans.zero 7 (by decide)
  | false=>
  simp only[ae,h4,ha,h5,h7,h10,hr,obs];rw[zA5 (by simp only[ah,an]; omega)];obtain⟨⟨a,⟨b1,b2⟩,⟨d1,d2⟩⟩,e',q1',q2'⟩:=h11;simp only[q1',obs];exact⟨_,_,rfl,q2'⟩
 obtain⟨c1,c2⟩:=c;obtain⟨t1,t2,t3,t4⟩:=t;unfold zEh;simp only[h1,obs,show(e != 0)=true from bne_iff_ne.2 he,ag];exact Ans.zero e he
def zYD (q:List Int) (h0:0<q.length) (h1:q.length<=1000000):∃ p o,q=p++[o]/\i64.wrap ((q.length:Int) - 1)=(p.length:Int)/\at? q (p.length:Int)=some o/\(q.take (p.length:Int).toNat).drop (0:Int).toNat=p/\p.length+1=q.length:=by
 rcases eq_nil_or_concat q with rfl | ⟨p,o,rfl⟩
 ·simp at h0
 rw[concat_eq_append]at *;rw[am,length_singleton]at h1;refine⟨p,o,rfl,?_,?_,?_,by simp⟩
 ·rw[am,length_singleton,wrap64_in (by omega) (by omega)]; omega
 ·rw[zAH (by simp)]; simp
 rw[au,take_left]; rfl
variable {t:Nd}{n:Nat}
def yDa  (k:Tok n t) (c:Cur) (x:List UInt8) (hc:c.1.length<=10000/\c.2.length<=10000) (hx:x.length<=10000):Ans t (zHk n t c x):=by
 have hf:=k.fuel;have hw:=k.w;obtain⟨⟨r1,r2,r3⟩,e,h1,h2⟩:=zHv k c;by_cases he:e=0
 ·obtain⟨g1,g2⟩:=h2 he;have hs:=k.short g1;obtain⟨c1,c2⟩:=c;dsimp only at g1 hs hc;obtain⟨p,o,p1,p2,p3,p4,p5⟩:=zYD c1 (zVw g1) (by omega);have hi:=zOe n t p (i64.wrap (o - 1)) (by omega) k.rv;have hiw:=yCp (t:=t) (p:=p) (i:=i64.wrap (o - 1));generalize zUl t p (i64.wrap (o - 1))=y at hi hiw;obtain⟨⟨y1,y2,y3,y4⟩,ye⟩:=y;have hy:(Nd.mk y1 y2 y3 y4).w=y2.length+Nd.ws y4+1:=rfl;dsimp only at hiw;obtain⟨⟨a1,a2,a3,a4⟩,e',ha,_⟩:=zMq n t (5,p,i64.wrap (o - 1),0,[],0,y2,x) (by omega) (by omega) (Nat.zero_le _) (by dsimp only; omega) (by dsimp only; omega);obtain⟨⟨v1,⟨v2,v3⟩,⟨v4,v5⟩⟩,ve,d1,d2⟩:=zFE k (c1,c2) [(5,p,i64.wrap (o - 1),0,[],0,y2,x)] [] hc (by simp) (fun o ho=>by
   rw[aD.1 ho]
   simp only[zHE,Op8.nodes,Op8.text,Op8.row,Nd.ws]
   omega) (by simp)
  obtain⟨t1,t2,t3,t4⟩:=t;unfold zHk;simp only[h1,obs,he,show((0:Int) != 0)=false from rfl,ae,p2,p3,p4];rw[zA5 ⟨by omega,by omega,by omega⟩];cases(o == 0) with
  | true=>exact Ans.zero 8 (by decide)
  | false=>
  simp only[ae,hi,ha,obs];have hb:∃ v,(bif (e' == 4) then some true else some (e' == 7):Option Bool)=some v:=by
   cases(e' == 4) <;> exact⟨_,rfl⟩
  obtain⟨v,hb⟩:=hb;simp only[hb,obs];cases v with
  | true=>exact Ans.zero 7 (by decide)
  | false=>
  simp only[ae,d1,obs];cases(ve == 0) with
  | false=>exact⟨_,_,rfl,d2⟩
  | true=>exact⟨_,_,rfl,⟨d2.1.len,d2.1.bulk,d2.1.b1,d2.1.b2,by dsimp only; omega,by dsimp only; omega⟩,d2.2⟩
 obtain⟨c1,c2⟩:=c;obtain⟨t1,t2,t3,t4⟩:=t;unfold zHk;simp only[h1,obs,show(e != 0)=true from bne_iff_ne.2 he,ag];exact Ans.zero e he
def zYJ  (k:Tok n t) (i:Int):∃ r e,zKM n t i=some (r,e)/\r.length<=49:=by
 have hc:=k.cnt;have hf:=k.fuel;have e1:=zLC n t k.rv (by omega) (by omega);rw[k.valid,ag]at e1;have hm:∀ q∈posT t,q.length<=49:=fun q hq=>zKZ k.valid hq
 obtain⟨t1,t2,t3,t4⟩:=t;unfold zKM;simp only[e1,obs,show((0:Int) != 0)=false from rfl,ae];by_cases h1:i<0
 ·rw[zAD h1];exact⟨[],2,rfl,aQ _⟩
 rw[zAC h1];by_cases h2:(posT (.mk t1 t2 t3 t4)).length<=i.toNat
 ·have h3:((posT (.mk t1 t2 t3 t4)).length:Int)<=i :=(by omega);simp only[ae,obs];rw[zAD h3];exact⟨[],2,rfl,aQ _⟩
 have h3:¬ ((posT (.mk t1 t2 t3 t4)).length:Int)<=i :=(by omega);simp only[ae,obs];rw[zAC h3,ae];have h4:i=((i.toNat:Nat):Int) :=(by omega);have h5:i.toNat<(posT (.mk t1 t2 t3 t4)).length :=(by omega);rw[h4,zAH h5];exact⟨_,_,rfl,hm _ (aV h5)⟩
def zUR  (k:Tok n t) (q:List Int) (i:Int):∃ r e,zE5 n t q i=some (r,e)/\r.length<=49:=by
 have hc:=k.cnt;have hf:=k.fuel;obtain⟨j,e,h1,_⟩:=zMo n t q k.rv (by omega) (by omega) (by omega);obtain⟨r,e',h2,h3⟩:=zYJ k (i64.wrap (j+i));obtain⟨t1,t2,t3,t4⟩:=t;unfold zE5;simp only[h1,h2,obs];cases(e != 0) with
 | true=>exact⟨_,_,rfl,aQ _⟩
 | false=>
 simp only[ae];cases(e' != 0) with
 | true=>exact⟨_,_,rfl,aQ _⟩
 | false=>exact⟨_,_,rfl,h3⟩
def zWn (p:List Int) (x y:Int) (hp:p.length<=1000000):zGn (p,x,y)=some (p++[x]):=by
 unfold zGn;dsimp only;rw[zA5 (by simp only[length_nil]; omega),zA5 (by simp only[length_cons,length_nil]; omega)]
variable {t:Nd}
def Ans.pass {x:Option (Rc×Int)} (h:Ans t x):Ans t (x.bind fun⟨⟨a,⟨b1,b2⟩,⟨d1,d2⟩⟩,e⟩=>some ((a,(b1,b2),(d1,d2)),e)):=by
 obtain⟨⟨a,⟨b1,b2⟩,⟨d1,d2⟩⟩,e,rfl,h2⟩:=h;exact⟨_,_,rfl,h2⟩
def zV5 {n:Nat} (k:Tok n t) (c:Cur) (q:List Int) (d:Int) (hc:c.1.length<=10000/\c.2.length<=10000):∃ r e,zE5 n t q d=some (r,e)/\Ans t (zBl n t c [] r):=by
 obtain⟨r,e,h1,h2⟩:=zUR k q d;exact⟨r,e,h1,zFE k c [] r hc (by simp) (fun o ho=>by cases ho) (by omega)⟩
def zZH {n:Nat} (k:Tok n t) (c:Cur) (fl:Bool) (hc:c.1.length<=10000/\c.2.length<=10000):Ans t (zE8 n t c fl):=by
 have hf:=k.fuel;have hw:=k.w;obtain⟨⟨r1,r2,r3⟩,e,h1,h2⟩:=zHv k c;by_cases he:e=0
 ·obtain⟨g1,g2⟩:=h2 he;have hs:=k.short g1;dsimp only at g2;obtain⟨l,h3,h4,h5⟩:=zXV k (r1,r2,r3) (by dsimp only; omega);have h6:=zWn r1 r2 r3 (by omega);obtain⟨⟨v1,⟨v2,v3⟩,⟨v4,v5⟩⟩,ve,d1,d2⟩:=zFE k c l (r1++[r2]) hc (by omega) (fun o ho=>by have:=h5 o ho; omega) (by simp only[am,ah,an]; omega);have har:=zKt k g1;obtain⟨c1,c2⟩:=c;dsimp only at g1 hs hc har;obtain⟨p,o,p1,p2,p3,p4,p5⟩:=zYD c1 (zVw g1) (by omega);have hr:=zI4 n t p (by omega) k.rv;have hrw:=yBI (t:=t) (p:=p);generalize rowS t p=y at hr hrw;obtain⟨⟨y1,y2,y3,y4⟩,ye⟩:=y;have hy:(Nd.mk y1 y2 y3 y4).w=y2.length+Nd.ws y4+1:=rfl;dsimp only at hrw;have hz:∃ z d,(bif fl then some (i64.wrap (o - 1),-1) else some (o,1):Option (Int×Int))=some (z,d):=by
   cases fl <;> exact⟨_,_,rfl⟩
  obtain⟨z,d,hz⟩:=hz;obtain⟨w1,w2,w3,w4⟩:=zV5 k (c1,c2) c1 d hc;have step:Ans t ((zE5 n t c1 d).bind fun⟨y47,y48⟩ =>
    bif (y48 != 0) then (
     some (([],([],[]),([],[])),y48)
    ) else (
     (zBl n t (c1,c2) [] y47).bind fun⟨⟨y49X,⟨y49Y,y49Z⟩,⟨y49Aa,y49Ab⟩⟩,y50⟩ =>
     some ((y49X,(y49Y,y49Z),(y49Aa,y49Ab)),y50)
    )):=by
   simp only[w3,obs];cases hw2:(w2 != 0) with
   | true=>exact Ans.zero w2 (bne_iff_ne.1 hw2)
   | false=>exact w4.pass
  have hb:∃ v,(bif decide (0<=z) then some (decide (z<(y4.length:Int))) else some false:Option Bool)=some v/\(v=true->0<=z/\z<(y4.length:Int)):=by
   by_cases q1:0<=z
   ·rw[zAD q1,ag];by_cases q2:z<(y4.length:Int)
    ·rw[zAD q2]; exact⟨true,rfl,fun _=>⟨q1,q2⟩⟩
    rw[zAC q2]; exact⟨false,rfl,fun h=>by cases h⟩
   rw[zAC q1]; exact⟨false,rfl,fun h=>by cases h⟩
  obtain⟨v,hb,hv⟩:=hb;obtain⟨t1,t2,t3,t4⟩:=t;unfold zE8;simp only[h1,obs,he,show((0:Int) != 0)=false from rfl,ae,p2,p3,p4];cases decide (r2<r3) with
  | true =>
   simp only[ag,h3,h6,d1,obs];exact⟨_,_,rfl,d2⟩
  | false=>
  rw[ae,zA5 ⟨by omega,by omega,by omega⟩];simp only[hr,hz,hb,obs];cases v with
  | true =>
   obtain⟨z1,z2⟩:=hv rfl;have z3:z=((z.toNat:Nat):Int) :=(by omega);have hg:y4[z.toNat]? = some (y4[z.toNat]'(by omega)):=ac (by omega);have hm:y4[z.toNat]'(by omega)∈y4:=aV _;generalize y4[z.toNat]'(by omega)=u at hg hm;have hmw:=Nd.w_mem hm;have ha:at? y4 z=some u :=(by rw[z3]; exact zNw hg);have hk:=zHp (v:=u);have hl:=Nd.ws_len u.kids;obtain⟨b,hcb⟩:=zPw n u (-1) (by omega) (by omega);have hat:=zHu p [z] (by omega) (by simp);have hdn:=zFE k (c1,c2) [(2,p,z,0,[u],0,[],[])] (p++[z]) hc (by simp) (fun o ho=>by
    rw[aD.1 ho]
    have:Nd.ws [u]=u.w+1 :=(by simp[Nd.ws]);simp only[zHE,Op8.nodes,Op8.text,Op8.row,an,this]
    omega) (by simp only[am,ah,an]; omega)
   obtain⟨u1,u2,u3,u4⟩:=u;simp only[ag,ha,hcb,obs];cases b with
   | true =>
    simp only[aB,ae,obs];exact step
   | false=>
   obtain⟨⟨v1,⟨v2,v3⟩,⟨v4,v5⟩⟩,ve,d1,d2⟩:=hdn;simp only[bf,ag,hat,d1,obs];exact⟨_,_,rfl,d2⟩
  | false=>
  simp only[ae];rcases har with ⟨⟨y1',y2',y3',⟨y4',y5',y6',y7'⟩⟩,h3'⟩ | ⟨p',i,s,o',x,u,q1,q2,q3,q4,q5,q6,q7,q8⟩
  ·simp only[h3',ae,obs];exact step
  have hk:=zHp (v:=x);have hl:=Nd.ws_len x.kids;obtain⟨b,hcb⟩:=zPw n x (s:Int) (by omega) (by omega);obtain⟨m,zz,h4',h5'⟩:=zOB p' i s q4 q8 q2;obtain⟨x1,x2,x3,x4⟩:=x;simp only[q3,hcb,ag,obs];cases b with
  | true =>
   simp only[aB,ae,obs];exact step
  | false=>
  simp only[bf,ag,h4',obs];cases fl with
  | true =>
   have hat:=zHu p' [(i:Int)] (by omega) (by simp);obtain⟨⟨v1,⟨v2,v3⟩,⟨v4,v5⟩⟩,ve,d1,d2⟩:=zFE k (c1,c2) [(4,p',(i:Int),m,[zz],(s:Int),[],[])] (p'++[(i:Int)]) hc (by simp) (fun o ho=>by rw[aD.1 ho,zRz]; omega) (by simp only[am,ah,an]; omega);simp only[ag,hat,d1,obs];exact⟨_,_,rfl,d2⟩
  | false=>
  have hat:=zHu p' [i64.wrap ((i:Int)+m)] (by omega) (by simp);obtain⟨⟨v1,⟨v2,v3⟩,⟨v4,v5⟩⟩,ve,d1,d2⟩:=zFE k (c1,c2) [(4,p',(i:Int),m,[zz],(s:Int),[],[])] (p'++[i64.wrap ((i:Int)+m)]) hc (by simp) (fun o ho=>by rw[aD.1 ho,zRz]; omega) (by simp only[am,ah,an]; omega);simp only[ae,hat,d1,obs];exact⟨_,_,rfl,d2⟩
 obtain⟨c1,c2⟩:=c;obtain⟨t1,t2,t3,t4⟩:=t;unfold zE8;simp only[h1,obs,show(e != 0)=true from bne_iff_ne.2 he,ag];exact Ans.zero e he
def yDF (fl:Bool) (own cols x:Int) (h0:1<=cols) (h1:cols<=16):∀ (k j:Nat) (l:List Nd),16 - j<k->l.length+(16 - j)<=1000000->∃ l',zCq fl own cols x k (j:Int) l=some l'/\Nd.ws l'<=Nd.ws l+2 * (16 - j)/\l'.length<=l.length+(16 - j)
 | 0,j,l,h,_=>by omega
 | k+1,j,l,h,hl=>by
  unfold zCq zAU;by_cases hj:(j:Int)<cols
  ·rw[zAD hj,ag];rw[zA5 (show cols ≠ 0 by omega)];have hw:Nd.ws (l++[.mk 1 [] 0 []])=Nd.ws l+2 :=(by rw[Nd.ws_append]; rfl);obtain⟨l',e1,e2,e3⟩:=yDF fl own cols x h0 h1 k (j+1) (l++[.mk 1 [] 0 []]) (by omega) (by simp only[am,ah,an]; omega);simp only[am,ah,an]at e3;have done:Nd.ws l<=Nd.ws l+2 * (16 - j)/\l.length<=l.length+(16 - j):=⟨by omega,by omega⟩;have go:∃ l'',(req (l.length + [Nd.mk 1 [] 0 []].length<=4294967296) <| zCq fl own cols x k (i64.wrap ((j:Int)+1)) (l++[Nd.mk 1 [] 0 []]))=some l''/\Nd.ws l''<=Nd.ws l+2 * (16 - j)/\l''.length<=l.length+(16 - j):=by
    rw[zA5 (by simp only[ah,an]; omega),zAG (by omega),e1];exact⟨l',rfl,by omega,by omega⟩
   cases fl with
   | true=>exact⟨l,rfl,done⟩
   | false=>
   simp only[bf,ag,obs];cases(x == i64.wrap (i64.wrap (i64.wrap (i64.wrap (own.tdiv cols) * cols)+cols) - 1)) with
   | false=>exact⟨l,rfl,done⟩
   | true=>
   simp only[ag];exact go
  rw[zAC hj];exact⟨l,rfl,by omega,by omega⟩
def yDE (n:Nat) (fl:Bool) (own cols:Int) (ks:List Nd) (h0:1<=cols) (h1:cols<=16) (hn:100<n) (hm:ks.length<=1000):∀ (k i:Nat) (x:Int) (l:List Nd),ks.length - i<k->i<=ks.length->Nd.ws l+Nd.ws (ks.drop i)+40 * (ks.length - i)<=900000->∃ y l',zC4 n fl own cols ks k x (i:Int) l=some (y,l')/\Nd.ws l'<=Nd.ws l+Nd.ws (ks.drop i)+40 * (ks.length - i)
 | 0,i,x,l,h,_,_=>by omega
 | k+1,i,x,l,h,hi,hb=>by
  unfold zC4 zAU;by_cases hj:i<ks.length
  ·have hd:Nd.ws (ks.drop i)=(ks[i]).w+1+Nd.ws (ks.drop (i+1)):=by
    rw[aO hj]; simp only[Nd.ws]; omega
   have g:ks[i]? = some ks[i]:=ac hj;generalize ks[i]=u at hd g;have ha:=zNw g;have hll:=Nd.ws_len l;have hw:Nd.ws (l++[u])=Nd.ws l+(u.w+1) :=(by rw[Nd.ws_append]; simp[Nd.ws]);have hw2:Nd.ws ((l++[u])++[.mk 1 [] 0 []])=Nd.ws l+(u.w+1)+2 :=(by rw[Nd.ws_append,hw]; rfl);have hx:∃ v,(bif ((i:Int) == own) then some (l.length:Int) else some x:Option Int)=some v:=by
    cases((i:Int) == own) <;> exact⟨_,rfl⟩
   obtain⟨v,hx⟩:=hx;have hx28:∃ b,(bif fl then (req (cols ≠ 0) <| req (cols ≠ 0) <| some (((i:Int).tmod cols) == (own.tmod cols))) else some false:Option Bool)=some b:=by
    cases fl with
    | false=>exact⟨_,rfl⟩
    | true=>
    rw[ag,zA5 (by omega),zA5 (by omega)];exact⟨_,rfl⟩
   obtain⟨b,hx28⟩:=hx28;have hl29:∃ l29,(bif b then (req ((l++[u]).length + [Nd.mk 1 [] 0 []].length<=4294967296) <| some ((l++[u])++[Nd.mk 1 [] 0 []])) else some (l++[u]):Option (List Nd))=some l29/\Nd.ws l29<=Nd.ws l+(u.w+1)+2:=by
    cases b with
    | false=>exact⟨_,rfl,by omega⟩
    | true=>
    rw[ag,zA5 (by simp only[am,ah,an]; omega)];exact⟨_,rfl,by omega⟩
   obtain⟨l29,e29,w29⟩:=hl29;have hl2:=Nd.ws_len l29;obtain⟨l40,e40,w40,_⟩:=yDF fl own cols (i:Int) h0 h1 n 0 l29 (by omega) (by omega);obtain⟨y,l',e,w⟩:=yDE n fl own cols ks h0 h1 hn hm k (i+1) v l40 (by omega) (by omega) (by omega);rw[show((0:Nat):Int)=0 from rfl]at e40;obtain⟨u1,u2,u3,u4⟩:=u;rw[zAD (aK.2 hj),ag];simp only[hx,ha,obs];rw[zA5 (by simp only[ah,an]; omega)];simp only[hx28,e29,e40,obs];rw[zAG (by omega),e];exact⟨y,l',rfl,by omega⟩
  rw[zAC (by omega)];exact⟨x,l,rfl,by omega⟩
variable {t:Nd}{n:Nat}
def yBV  (k:Tok n t) (c:Cur) (fl:Bool) (hc:c.1.length<=10000/\c.2.length<=10000):Ans t (zE9 n t c fl):=by
 have hf:=k.fuel;have hw:=k.w;obtain⟨⟨r1,r2,r3⟩,e,h1,h2⟩:=zHv k c;by_cases he:e=0
 ·obtain⟨g1,g2⟩:=h2 he;have hs:=k.short g1;rcases zKt k g1 with ⟨⟨y1,y2,y3,⟨y4,y5,y6,y7⟩⟩,h3⟩ | ⟨p,i,s,o,x,u,q1,q2,q3,q4,q5,q6,q7,q8⟩
  ·obtain⟨c1,c2⟩:=c;obtain⟨t1,t2,t3,t4⟩:=t;unfold zE9;simp only[h1,obs,he,show((0:Int) != 0)=false from rfl,ae,h3,bf,ag];exact Ans.zero 8 (by decide)
  obtain⟨c1,c2⟩:=c;obtain⟨t1,t2,t3,t4⟩:=t;have hkw:=zHp (v:=x);have hsx:Nd.ws [x]=x.w+1 :=(by simp[Nd.ws]);obtain⟨x1,x2,x3,x4⟩:=x;simp only[Nd.kids]at *;unfold zE9;simp only[h1,obs,he,show((0:Int) != 0)=false from rfl,ae,q3,aB];by_cases hk:x1=12
  ·subst hk;have hx:1<=x3/\x3<=16:=by
    unfold zCI at q6;simp only[af]at q6;have h7:=q6.1.2;unfold zDp at h7;rw[if_pos rfl]at h7;simp only[af,ay]at h7;exact⟨h7.1,h7.2.1⟩
   obtain⟨l0,a0⟩:=zVy (p:=p) (a:=(i:Int)) (b:=(s:Int)) (o:=o);rw[← q1]at l0 a0;have w1:i64.wrap ((c1.length:Int) - 1)=(p.length:Int)+2 :=(by rw[l0,wrap64_in (by omega) (by omega)]; omega);obtain⟨y,l',e1,w2⟩:=yDE n fl (s:Int) x3 x4 hx.1 hx.2 (by omega) q8 n 0 0 [] (by omega) (aQ _) (by rw[drop_zero]; show 0+_+_<=_; omega);rw[drop_zero]at w2;rw[show((0:Nat):Int)=0 from rfl]at e1;have w2':Nd.ws l'<=Nd.ws x4+40 * x4.length:=by
    have:Nd.ws ([]:List Nd)=0:=rfl;omega
   have hb:∃ v,(bif fl then some (i64.wrap (x3+1)) else some x3:Option Int)=some v:=by
    cases fl <;> exact⟨_,rfl⟩
   obtain⟨v,hb⟩:=hb;have hat:=zHu p [(i:Int),y,o] (by omega) (by simp);have hsl:Nd.ws [.mk 12 [] v l']=Nd.ws l'+2 :=(by simp[Nd.ws,Nd.w]);obtain⟨⟨v1,⟨v2,v3⟩,⟨v4,v5⟩⟩,ve,d1,d2⟩:=zFE k (c1,c2) [(2,p,(i:Int),0,[Nd.mk 12 x2 x3 x4],0,[],[]),(1,p,(i:Int),0,[Nd.mk 12 [] v l'],0,[],[])] (p++[(i:Int),y,o]) hc (by simp) (fun o ho=>by
    simp only[mem_cons,not_mem_nil,or_false]at ho;rcases ho with rfl | rfl
    ·simp only[zHE,Op8.nodes,Op8.text,Op8.row,an,hsx]
     omega
    simp only[zHE,Op8.nodes,Op8.text,Op8.row,an,hsl]
    omega) (by simp only[am,ah,an]; omega)
   simp only[show((12:Int) != 12)=false from rfl,ae,hb,e1,w1,a0,hat,d1,obs];exact⟨_,_,rfl,d2⟩
  simp only[show(x1 != 12)=true from bne_iff_ne.2 hk,ag];exact Ans.zero 7 (by decide)
 obtain⟨c1,c2⟩:=c;obtain⟨t1,t2,t3,t4⟩:=t;unfold zE9;simp only[h1,obs,show(e != 0)=true from bne_iff_ne.2 he,ag];exact Ans.zero e he
def zV6  (k:Tok n t) (c:Cur) (items:List Nd) (hc:c.1.length<=10000/\c.2.length<=10000) (hi:Nd.ws items<=2000000):Ans t (zCQ n t c items):=by
 cases hv:zAu (rowN items) with
 | true =>
  have h1:=zG4 hv;have h2:=zHp (v:=rowN items);have h3:(rowN items).kids=items:=rfl;rw[h3]at h2;exact zXo k c items hc (by omega)
 | false=>
 have hr:=k.rv;have hf:=k.fuel;rw[k.valid]at hr;have hi2:=zFV n items (by omega) (by omega);obtain⟨c1,c2⟩:=c;obtain⟨t1,t2,t3,t4⟩:=t;unfold zCQ;simp only[hr,hi2,hv,obs,aB,ae,bf,ag];exact Ans.zero 1 (by decide)
def zZP  (k:Tok n t) (c:Cur) (x:Nd) (sl:Int) (hc:c.1.length<=10000/\c.2.length<=10000) (hx:x.w<=2000000):Ans t (zEu n t c x sl):=by
 have hf:=k.fuel;have hws:Nd.ws [x]=x.w+1 :=(by simp[Nd.ws]);obtain⟨fb,hfo,hff⟩:=zHI n 3 [] 0 0 [x] sl [] [] (by omega) (by omega);cases fb with
 | true =>
  have hv:zAu (rowN [x])=true:=by
   rcases hff.1 rfl with ⟨h,_⟩ | ⟨_,_,⟨v,s,z,h1,_,h2,_⟩,_⟩ | ⟨h,_⟩
   ·omega
   ·rw[h1]; exact h2
   omega
  have h1:=zG4 hv;have h2:=zHp (v:=rowN [x]);have h3:(rowN [x]).kids=[x]:=rfl;rw[h3]at h2;exact yB0 k c x sl hc (by omega)
 | false=>
 have hr:=k.rv;rw[k.valid]at hr;obtain⟨c1,c2⟩:=c;obtain⟨t1,t2,t3,t4⟩:=t;obtain⟨x1,x2,x3,x4⟩:=x;unfold zEu;simp only[hr,hfo,obs,aB,ae,bf,ag];exact Ans.zero 1 (by decide)
def yC9  (k:Tok n t) (c:Cur) (m:Int×List Nd×Int×List UInt8×Bool) (hc:c.1.length<=10000/\c.2.length<=10000) (hi:Nd.ws m.2.1<=2000000) (hx:m.2.2.2.1.length<=10000):Ans t (zIw n t c m):=by
 obtain⟨m1,m2,m3,m4,m5⟩:=m;dsimp only at hi hx;have f0:∃ x,zGp m2=some x/\x.w<=2000000:=by
  unfold zGp;dsimp only;cases m2 with
  | nil=>exact⟨_,rfl,by decide⟩
  | cons x l=>
  rw[show((((x::l).length:Int)) == 0)=false from zBA (by simp only[ah]; omega),ae];have ha:at? (x::l) 0=some x:=rfl;simp only[ha,obs];simp only[Nd.ws]at hi;exact⟨x,by cases x; rfl,by omega⟩
 obtain⟨x,e1,e2⟩:=f0;have g0:=(zV6 k c m2 hc hi).pass;have g1:=(zZH k c m5 hc).pass;have g2:=(zZP k c x m3 hc e2).pass;have g3:=(zXC k c hc).pass;have g4:=(zZO k c hc).pass;have g5:=(yDa k c m4 hc hx).pass;have g6:=(yBV k c m5 hc).pass;obtain⟨c1,c2⟩:=c;obtain⟨t1,t2,t3,t4⟩:=t;obtain⟨x1,x2,x3,x4⟩:=x;unfold zIw;simp only[e1,obs];cases(m1 == 0) with
 | true=>exact g0
 | false =>
 cases(m1 == 1) with
 | true=>exact g1
 | false =>
 cases(m1 == 2) with
 | true=>exact g2
 | false =>
 cases(m1 == 3) with
 | true=>exact g3
 | false =>
 cases(m1 == 4) with
 | true=>exact g4
 | false =>
 cases(m1 == 5) with
 | true=>exact g5
 | false =>
 cases(m1 == 6) with
 | true=>exact g6
 | false=>exact Ans.zero 1 (by decide)
def zUS (n:Nat) (c:Int×List Nd×Int×List UInt8×Bool) (hn:200<n):∃ b,zIv n c=some b/\(b=true->c.2.2.2.1.length<=300):=by
 obtain⟨k,nodes,slot,text,fl⟩:=c;obtain⟨b,e,_⟩:=zXm n (.mk 1 [] 0 nodes) 100 (by omega) (by omega);rw[show((100:Nat):Int)=100 from rfl]at e;unfold zIv zAU;simp only[e,obs];cases b with
 | true=>exact⟨_,rfl,fun h=>by have:=aY h; omega⟩
 | false=>exact⟨_,rfl,fun h=>by cases h⟩
def yBX (n:Nat){h:Hs}{ts:List Nd}{j:Nat} (a:HAt h ts j) (hn:200000000<n){r:Rc}{u:Nd} (hr:h.2.2.1[j]? = some r) (hu:ts[j+1]? = some u):zBy n h=some (r.2.2,0,hAt h u (j+1)):=by
 have hd:=a.done;have hlim:=a.inv.lim;have hlt:=(aa.1 hr).1;have sm:=a.inv.small r (av hr);obtain⟨t',u',k1,k2,k3⟩:=a.inv.step j r hr;obtain rfl:h.2.1=t':=Option.some.inj (a.tree.symm.trans k1);obtain rfl:u=u':=Option.some.inj (hu.symm.trans k2);obtain⟨v,i,e,e1,e2,e3⟩:=sm.ops.apply n hn a.vtree;obtain⟨rfl,rfl⟩:=e2.det k3;have hc:=sm.after;have hr':at? h.2.2.1 (j:Int)=some r:=by
  obtain⟨h1,rfl⟩:=aa.1 hr;exact zAH h1
 unfold hAt;obtain⟨⟨a1,a2,a3,a4⟩,⟨b1,b2,b3,b4⟩,rs,d⟩:=h;obtain⟨ops,⟨c1,c2⟩,⟨c3,c4⟩⟩:=r;obtain⟨v1,v2,v3,v4⟩:=v;dsimp only at hd hr' e1 hc hlim hlt ⊢;subst hd;unfold zBy;dsimp only;rw[zBA (by omega),cond_false,hr'];simp only[obs,e1,show((0:Int) != 0)=false from rfl,ae,hc];rw[zAG (by omega)]
def zZ1 (h:Hs):Int×List UInt8×Int×List Nd×Int×List UInt8×Int×List Nd×Int×List Rc:=(h.1.kind,h.1.text,h.1.cols,h.1.kids,h.2.1.kind,h.2.1.text,h.2.1.cols,h.2.1.kids,h.2.2.2,h.2.2.1)
def zSc (n:Nat) (a:List Int) (ha:a.length<=16777216) (hn:200000000<n):zF0 n a a=some true:=by
 obtain⟨c,h1,h2⟩:=cmp_eq n a a (by omega) (by omega);unfold zF0;dsimp only;rw[h1,h2.2 rfl];rfl
def zKo (n:Nat) (c:Cur) (h1:c.1.length<=16777216) (h2:c.2.length<=16777216) (hn:200000000<n):zCi n c c=some true:=by
 have g1:=zSc n c.1 h1 hn;have g2:=zSc n c.2 h2 hn;obtain⟨p,q⟩:=c;unfold zCi;simp only[g1,g2,obs,ag]
def zNp (n:Nat){t:Nd} (hv:zAu t=true) (hn:200000000<n):zBi n t t=some true:=by
 have h1:=zG4 hv;have h2:=Nd.cnt_w t;obtain⟨r,g1,g2⟩:=(zMP n).1 t t (by omega) (by omega);rw[g1,g2.2 rfl]
def zKA (n:Nat){l:List Rc} (ho:∀ r∈l,zC0 n r=some r) (hl:l.length<=1073741824):∀ (k i:Nat),l.length - i<k->i<=l.length->zA3 n l k (i:Int) (l.take i)=some l
 | 0,i,h,_=>by omega
 | k+1,i,h,hi=>by
  unfold zA3;by_cases hj:i<l.length
  ·have hd:=ho _ (aV hj);have ht:l.take i++[l[i]]=l.take (i+1) :=(by rw[take_append_getElem hj]);rw[zAD (aK.2 hj),ag,zAH hj];have ih:=zKA n ho hl k (i+1) (by omega) (by omega);rw[← ht]at ih;generalize l[i]=v at *;obtain⟨v1,⟨v2,v3⟩,⟨v4,v5⟩⟩:=v;simp only[obs,hd];exact jS
  ·exact kG
def zWk (n:Nat) (hn:200000000<n){h:Hs}{ts:List Nd}{j:Nat} (a:HAt h ts j):zBf n h=some (h.2.2.1,h):=by
 have hlim:=a.inv.lim;have g:=zKA n (l:=h.2.2.1) (fun r hr=>(a.inv.small r hr).copy n hn) (by omega) n 0 (by omega) (aQ _);rw[show((0:Nat):Int)=0 from rfl,take_zero]at g;obtain⟨⟨x1,x2,x3,x4⟩,⟨y1,y2,y3,y4⟩,z,w⟩:=h;dsimp only at g;unfold zBf zDl;simp only[g,obs]
abbrev Cm:=(Int×List Nd×Int×List UInt8×Bool)×Int×Int
def zOy (n:Nat) (l:List Cm) (hn:2000<n) (hl:l.length<=2000000):∀ (k i:Nat),l.length - i<k->zCR n l k (i:Int)=some (.ret false)∨(zCR n l k (i:Int)=some (.go ())/\∀ c∈l.drop i,c.1.2.2.2.1.length<=300)
 | 0,i,h=>by omega
 | k+1,i,h=>by
  unfold zCR;by_cases hj:i<l.length
  ·have ih:=zOy n l hn hl k (i+1) (by omega);have ha:=zAH hj;rw[aO hj];generalize l[i]=c at ha;obtain⟨b,f1,f2⟩:=zUS n c.1 (by omega);obtain⟨b2,f3,_⟩:=zXm n (.mk 1 [] 0 c.1.2.1) 12 (by omega) (by omega);rw[show((12:Nat):Int)=12 from rfl]at f3;obtain⟨⟨c1,c2,c3,c4,c5⟩,c6,c7⟩:=c;dsimp only at f1 f2 f3;rw[zAD (Int.ofNat_lt.2 hj),cond_true,zAG (by omega)];unfold zAU;simp only[ha,obs,f1];cases b with
   | false=>exact .inl rfl
   | true =>
    simp only[aB,ae,f3,obs];cases b2 with
    | false=>exact .inl rfl
    | true =>
     rcases ih with ih | ⟨ih,ih2⟩
     ·exact .inl ih
     ·refine .inr ⟨ih,fun c hc=>?_⟩;rcases aR.1 hc with rfl | hc
      ·exact f2 rfl
      ·exact ih2 c hc
  ·rw[zAC (by omega)];refine .inr ⟨rfl,fun s hs=>?_⟩;rw[drop_eq_nil_of_le (by omega)]at hs;cases hs
def zZn (n:Nat) (t:Nd) (l:List Cm) (hn:3000000<n) (hl:l.length<=2000000):∃ b,zIx n t l=some b/\(b=true->l.length<=12/\∀ c∈l,c.1.2.2.2.1.length<=300):=by
 have h1:=zOy n l (by omega) hl n 0 (by omega);obtain⟨b,e,_⟩:=zXm n t 60 (by omega) (by omega);rw[show((60:Nat):Int)=60 from rfl]at e;rw[show((0:Nat):Int)=0 from rfl,drop_zero]at h1;obtain⟨t1,t2,t3,t4⟩:=t;unfold zIx zHB;rcases h1 with h1 | ⟨h1,h2⟩
 ·simp only[h1,obs];exact⟨false,rfl,fun h=>by cases h⟩
 simp only[h1,obs,e];cases b with
 | false=>exact⟨false,rfl,fun h=>by cases h⟩
 | true=>exact⟨_,rfl,fun h=>⟨by have:=aY h; omega,h2⟩⟩
structure CmOk (c:Cm):Prop where
 items:Nd.ws c.1.2.1<=2000000
 text:c.1.2.2.2.1.length<=10000
 pos:0<=c.2.1/\c.2.1<=255
 mark:0<=c.2.2/\c.2.2<=255
structure CInv (t0:Nd) (h:Hs) (ts:List Nd) (i:Nat):Prop where
 at':HAt h ts h.2.2.1.length
 le:h.2.2.1.length<=i
 few:∀ r∈h.2.2.1,RFew r
 orig:h.1=t0
 runs:Runs t0 (h.2.2.1.map (·.1)).flatten h.2.1 0
def zVR (t:Nd) (hv:zAu t=true){p:Int} (hp:0<=p/\p<=255) (hne:((posT t).length:Int) ≠ 0):∃ q,at? (posT t) ((i64.wrap p).tmod ((posT t).length:Int))=some q/\q.length<=49:=by
 have hw:i64.wrap p=p:=wrap64_in (by omega) (by omega);have h0:=Int.tmod_nonneg (b:=((posT t).length:Int)) (a:=p) hp.1;have h1:=Int.tmod_lt_of_pos p (b:=((posT t).length:Int)) (by omega);rw[hw];obtain⟨j,hj⟩:=aM h0;rw[hj]at h1 ⊢;have hjl:j<(posT t).length :=(by omega);exact⟨_,zAH hjl,zKZ hv (aV hjl)⟩
def zUM (t:Nd):((posT t).length:Int) ≠ 0:=by
 have h:[(0:Int)]∈posT t:=(zKP t [0]).2 (zNQ.2 ⟨by omega,by omega⟩);have:=length_pos_of_mem h;omega
def zSt (n:Nat) (hn:200000000<n){t0:Nd}{l:List Cm} (hl:l.length<=12) (hc:∀ c∈l,CmOk c):∀ (k i:Nat) (h:Hs) (ts:List Nd),l.length - i<k->i<=l.length->CInv t0 h ts i ->
  ∃ h' ts',zBD n l k h.1.kind h.1.text h.1.cols h.1.kids h.2.1.kind h.2.1.text h.2.1.cols h.2.1.kids h.2.2.2 (i:Int) h.2.2.1=some (.go (h'.1.kind,h'.1.text,h'.1.cols,h'.1.kids,h'.2.1.kind,h'.2.1.text,h'.2.1.cols,h'.2.1.kids,h'.2.2.2,h'.2.2.1))/\CInv t0 h' ts' l.length
 | 0,i,h,ts,hk,_,_=>by omega
 | k+1,i,h,ts,hk,hi,hh=>by
  unfold zBD;by_cases hj:i<l.length
  ·have hcm:=hc _ (aV hj);have ha:=zAH hj;generalize l[i]=c at ha hcm;have ih:=fun h ts=>zSt n hn (t0:=t0) hl hc k (i+1) h ts (by omega) (by omega)
   have hv:=hh.at'.vtree;have hTr:=zNq hv;have hcnt:=Nd.cnt_w h.2.1;have hw:=zG4 hv;have hAll:=zLC n h.2.1 (zEy n h.2.1 (by omega) (by omega)) (by omega) (by omega);rw[hv,ag]at hAll;obtain⟨q1,p1,p2⟩:=zVR h.2.1 hv hcm.pos (zUM _);obtain⟨q2,p3,p4⟩:=zVR h.2.1 hv hcm.mark (zUM _);have hne:=zUM h.2.1;obtain⟨r,e,r1,r2,r3⟩:=yC9 (n:=n) (t:=h.2.1) ⟨hn,hv⟩ (q1,q2) c.1 ⟨by dsimp only; omega,by dsimp only; omega⟩ hcm.items hcm.text;have hDo:=fun(he:e=0)=>yEx n hh.at' r2.small hn (by have:=hh.le; omega)
   have hAt:=hh.at';have hle:=hh.le;have hfew:=hh.few;have horig:=hh.orig;have hruns:=hh.runs;have hlen:h.2.2.1.take h.2.2.1.length=h.2.2.1:=take_length;rw[zAD (aK.2 hj),ag,ha,zAG (by omega)];simp only[obs];obtain⟨⟨a1,a2,a3,a4⟩,⟨b1,b2,b3,b4⟩,rs,d⟩:=h;obtain⟨⟨c1,c2,c3,c4,c5⟩,c6,c7⟩:=c;dsimp only[Nd.kind,Nd.text,Nd.cols,Nd.kids]at *;simp only[hTr,hAll,obs];rw[zBA hne,ae,zA5 hne,p1];simp only[obs];rw[zA5 hne,p3];simp only[obs,r1];obtain⟨ops,⟨g1,g2⟩,⟨g3,g4⟩⟩:=r;dsimp only at r2 r3;by_cases he:e=0
   ·subst he;obtain⟨u',hu'⟩:=r3 rfl;obtain⟨u,e',k1,k2⟩:=hDo rfl;obtain⟨rfl,rfl⟩:=hu'.det k1;rcases k2 with ⟨k2,_⟩ | ⟨_,k2,k3⟩
    ·exact(k2 rfl).elim
    rw[hlen]at k2 k3;obtain⟨u1,u2,u3,u4⟩:=u';obtain⟨h',ts',i1,i2⟩:=ih _ _ (⟨by
      have e0:(rs++[(ops,(g1,g2),(g3,g4))]).length=rs.length+1 :=(by simp);dsimp only;rw[e0]; exact k3,by simp; omega,fun r hr=>by
       rcases aN.1 hr with hr | hr
       ·exact hfew r hr
       ·rw[aD.1 hr]; exact r2,horig,by
       rw[bn,flatten_append]
       exact hruns.app (by simpa using k1)⟩:CInv t0 (.mk a1 a2 a3 a4,.mk u1 u2 u3 u4,rs++[(ops,(g1,g2),(g3,g4))],((rs.length+1:Nat):Int)) (ts.take (rs.length+1)++[.mk u1 u2 u3 u4]) (i+1))
    refine⟨h',ts',?_,i2⟩;simp only[aZ,ag,k2,obs,bne_self_eq_false,ae];exact i1
   rw[zBA he];simp only[ae,obs];obtain⟨h',ts',i1,i2⟩:=ih (.mk a1 a2 a3 a4,.mk b1 b2 b3 b4,rs,d) ts ⟨hAt,by dsimp only; omega,hfew,horig,hruns⟩;exact⟨h',ts',i1,i2⟩
  obtain rfl:i=l.length :=(by omega);rw[zAC (by omega),ae];exact⟨h,ts,rfl,hh⟩
variable {ss:List S}{n:Nat}
def yBm  (h:Typed T n 24 ss):∃ t:Nd,ss=t.enc/\t.rng :=
 zP9 (T:=T) (e:=24) (s:=22) (ki:=3) (st:=9) rfl rfl rfl rfl rfl rfl rfl rfl rfl n h
def zU6 {t:Nat} (h:Typed T n 22 ss):∃ l:List Nd,ss=[.sl 4 (Nd.encs l)]/\Nd.rngs l:=by
 obtain⟨m,rows,rfl,rfl,_,hr⟩:=zJ3 (T:=T) (e:=24) rfl rfl h;obtain⟨ks,rfl,hks⟩:=zQw (f:=Nd.enc) (q:=Nd.rng) (l:=rows) fun r hr'=>zP9 (T:=T) (e:=24) (s:=22) (ki:=3) (st:=9) rfl rfl rfl rfl rfl rfl rfl rfl rfl m (hr r hr')
 exact⟨ks,by rw[Nd.encs_eq]; rfl,Nd.rngAll hks⟩
def zVh {α:Type}{f:α->List S}:∀ {l:List α}{x:α},x∈l->zEd (f x)<=zEW (l.map f)
 | y::l,x,h=>by
  simp only[ba,zEW];rcases aR.1 h with rfl | h
  ·omega
  ·have:=zVh (f:=f) h; omega
def zRy  (h:Typed T n 59 ss):∃ c:Int×List Nd×Int×List UInt8×Bool,ss=[.int .i64 c.1,.sl 4 (Nd.encs c.2.1),.int .i64 c.2.2.1,.str c.2.2.2.1,.bool c.2.2.2.2]:=by
 obtain⟨m,rfl,a0,q0,rfl,u0,a1,q1,rfl,u1,a2,q2,rfl,u2,a3,q3,rfl,u3,a4,q4,rfl,u4,rfl⟩:=zIO (T:=T) (t:=59) rfl rfl h;obtain⟨x0,rfl,_⟩:=zHo (T:=T) (k:=.i64) rfl rfl u0;obtain⟨x1,rfl,_⟩:=zU6 (t:=0) u1;obtain⟨x2,rfl,_⟩:=zHo (T:=T) (k:=.i64) rfl rfl u2;obtain⟨x3,rfl,_⟩:=zTJ (T:=T) rfl rfl u3;obtain⟨x4,rfl⟩:=zXh (T:=T) rfl rfl u4;exact⟨(x0,x1,x2,x3,x4),rfl⟩
def zYC (c:Cm):Prop:=(0<=c.2.1/\c.2.1<=255)/\0<=c.2.2/\c.2.2<=255
def zZv  (h:Typed T n 61 ss):∃ c:Cm,ss=zAn c/\zYC c:=by
 obtain⟨m,rfl,a0,q0,rfl,u0,a1,q1,rfl,u1,a2,q2,rfl,u2,rfl⟩:=zIO (T:=T) (t:=61) rfl rfl h;obtain⟨x0,rfl⟩:=zRy u0;obtain⟨x1,rfl,h1⟩:=zHo (T:=T) (k:=.u8) rfl rfl u1;obtain⟨x2,rfl,h2⟩:=zHo (T:=T) (k:=.u8) rfl rfl u2;exact⟨(x0,x1,x2),rfl,h1,h2⟩
def zXi  (h:Typed T n 25 ss):∃ l:List Cm,ss=[.sl 7 ((List.map zAn) l)]/\∀ c∈l,zYC c:=by
 obtain⟨m,rows,rfl,rfl,_,hr⟩:=zJ3 (T:=T) (e:=61) rfl rfl h;obtain⟨ks,rfl,hks⟩:=zQw (f:=zAn) (q:=zYC) (l:=rows) fun r hr'=>zZv (hr r hr')
 exact⟨ks,rfl,hks⟩
def yBi (l:List Cm) (h:zEd [.sl 7 ((List.map zAn) l)]<=1048576):l.length<=1048576/\∀ c∈l,Nd.ws c.1.2.1<=1048576:=by
 simp only[zEd,S.bulk]at h;have h1:=zSo (rows:=l.map zAn) fun r hr=>by
  obtain⟨o,_,rfl⟩:=be.1 hr;simp only[zAn,ah];omega
 rw[az]at h1;refine⟨by omega,fun c hc=>?_⟩;have h2:=zVh (f:=zAn) hc;have h3:=Nd.ws_bulk c.1.2.1;simp only[zAn,zEd,S.bulk]at h2;omega
def yAH {t:Nd} (h:zAu t=true):∃ s,zDv t=some (s,0)/\zDa t s=some (t,0,0):=by
 have hw:=zG4 h;refine⟨zMO t.its,?_,?_⟩
 ·unfold zDv;rw[h,zAD (show t.w<=67108864 by omega)]; rfl
 unfold zDa;rw[h,zAD (show t.w<=67108864 by omega),aZ]; rfl
def und1 (n:Nat) (rs:List Rc) (k:Nat) (i:Int) (h:Hs):=zBt n rs k h.1.kind h.1.text h.1.cols h.1.kids h.2.1.kind h.2.1.text h.2.1.cols h.2.1.kids h.2.2.2 i h.2.2.1
def und2 (n:Nat) (rs:List Rc) (k:Nat) (i:Int) (h:Hs):=zBu n rs k h.1.kind h.1.text h.1.cols h.1.kids h.2.1.kind h.2.1.text h.2.1.cols h.2.1.kids h.2.2.2 i h.2.2.1
def zZw (n:Nat) (hn:200000000<n){ts:List Nd}:∀ (k j:Nat) (h:Hs),HAt h ts j->j<k->∃ t,ts[0]? = some t/\und1 n h.2.2.1 k ((j:Int) - 1) h=some (.go (zZ1 (hAt h t 0)))
 | 0,j,h,_,h1=>by omega
 | k+1,j,h,a,h1=>by
  unfold und1 zBt;have hdn:=a.done;have hle:=a.le;have hlim:=a.inv.lim;cases j with
  | zero =>
   refine⟨h.2.1,a.tree,?_⟩;obtain⟨⟨x1,x2,x3,x4⟩,⟨y1,y2,y3,y4⟩,z,w⟩:=h;dsimp only[Nd.kind,Nd.text,Nd.cols,Nd.kids]at hdn ⊢;subst hdn;rfl
  | succ j =>
   have hr:h.2.2.1[j]? = some h.2.2.1[j]:=ac (by omega);obtain⟨t,ht⟩:=a.at (k:=j) (by omega);have hu:=yBZ n a hn hr ht;have tr:=zNq a.vtree;have q:=zNp n a.vtree hn;obtain⟨s,p1,p2⟩:=yAH a.vtree;have sm:=a.inv.small _ (av hr);have c:=zKo n h.2.2.1[j].2.1 sm.b1 sm.b2 hn;have ha:=zAH (show j<h.2.2.1.length by omega);obtain⟨t',g1,g2⟩:=zZw n hn k j (hAt h t j) (a.move ht) (by omega);refine⟨t',g1,?_⟩;have w1:i64.wrap ((((j+1:Nat):Int) - 1) - 1)=(j:Int) - 1 :=(by rw[wrap64_in (by omega) (by omega)]; omega);have w2:(((j+1:Nat):Int) - 1)=(j:Int) :=(by omega);rw[w1,w2,zAD (by omega),ag];unfold und1 hAt at g2;unfold hAt at hu ⊢;generalize h.2.2.1[j]=r at hu c ha;obtain⟨r1,⟨r2,r3⟩,⟨r4,r5⟩⟩:=r;obtain⟨⟨x1,x2,x3,x4⟩,⟨y1,y2,y3,y4⟩,z,w⟩:=h;obtain⟨t1,t2,t3,t4⟩:=t;dsimp only[Nd.kind,Nd.text,Nd.cols,Nd.kids]at hdn g2 hu tr q c ha p1 p2 ⊢;simp only[tr,p1,p2,q,hu,ha,c,obs,bne_self_eq_false,Bool.not_true,cond_false];exact g2
def zZx (n:Nat) (hn:200000000<n){ts:List Nd}:∀ (k j:Nat) (h:Hs),HAt h ts j->h.2.2.1.length<k+j->∃ t,ts[h.2.2.1.length]? = some t/\und2 n h.2.2.1 k (j:Int) h=some (.go (zZ1 (hAt h t h.2.2.1.length)))
 | 0,j,h,a,h1=>by have:=a.le; omega
 | k+1,j,h,a,h1=>by
  unfold und2 zBu;have hdn:=a.done;have hle:=a.le;have hlim:=a.inv.lim;by_cases hj:j<h.2.2.1.length
  ·have hr:h.2.2.1[j]? = some h.2.2.1[j]:=ac hj;obtain⟨t,ht⟩:=a.at (k:=j+1) (by omega);have hu:=yBX n a hn hr ht;have sm:=a.inv.small _ (av hr);have c:=zKo n h.2.2.1[j].2.2 sm.a1 sm.a2 hn;have ha:=zAH hj;obtain⟨t',g1,g2⟩:=zZx n hn k (j+1) (hAt h t (j+1)) (a.move ht) (by show h.2.2.1.length<_; omega);refine⟨t',g1,?_⟩;rw[zAD (aK.2 hj),ag,zAG (by omega)];unfold und2 hAt at g2;unfold hAt at hu ⊢;generalize h.2.2.1[j]=r at hu c ha;obtain⟨r1,⟨r2,r3⟩,⟨r4,r5⟩⟩:=r;obtain⟨⟨x1,x2,x3,x4⟩,⟨y1,y2,y3,y4⟩,z,w⟩:=h;obtain⟨t1,t2,t3,t4⟩:=t;dsimp only[Nd.kind,Nd.text,Nd.cols,Nd.kids]at hdn g2 hu c ha ⊢;simp only[hu,ha,c,obs,bne_self_eq_false,Bool.not_true,cond_false];exact g2
  ·obtain rfl:j=h.2.2.1.length :=(by omega);refine⟨h.2.1,a.tree,?_⟩;rw[zAC (by omega),ae];obtain⟨⟨x1,x2,x3,x4⟩,⟨y1,y2,y3,y4⟩,z,w⟩:=h;dsimp only[Nd.kind,Nd.text,Nd.cols,Nd.kids]at hdn ⊢;subst hdn;rfl
def zSe (n:Nat) (hn:200000000<n) (a:Nd) (l:List Cm) (ha:a.w<=1048576) (hl:l.length<=1048576) (hi:∀ c∈l,Nd.ws c.1.2.1<=1048576/\(0<=c.2.1/\c.2.1<=255)/\0<=c.2.2/\c.2.2<=255):zCL n a l=some true:=by
 have hw:zFQ=some true:=rfl;obtain⟨b,f1,f2⟩:=zZn n a l (by omega) (by omega);cases b with
 | false=>obtain⟨a1,a2,a3,a4⟩:=a;unfold zCL;simp only[hw,f1,obs,aB,ae,bf,ag]
 | true=>
 obtain⟨f3,f4⟩:=f2 rfl;obtain⟨n1,n2⟩:=yC6 n (t:=a) hn (by omega);cases hv:zAu a with
 | false =>
  rw[hv,ae]at n1;obtain⟨a1,a2,a3,a4⟩:=a;unfold zCL;simp only[hw,f1,obs,aB,ae,n1];rfl
 | true=>
 rw[hv,ag]at n1;have hat:=n2 hv;obtain⟨h,ts,k1,k2⟩:=zSt n hn (t0:=a) (l:=l) f3 (fun c hc=>⟨by have:=(hi c hc).1; omega,by have:=f4 c hc; omega,(hi c hc).2.1,(hi c hc).2.2⟩) n 0 (a,a,[],0) [a] (by omega) (aQ _) ⟨hat,aQ _,fun r hr=>by(cases hr),rfl,.nil _⟩;rw[show((0:Nat):Int)=0 from rfl]at k1;have hA:=k2.at';have hR:=zWk n hn hA;have hT:=zNq hA.vtree;have hlen:=k2.le;have ho:=k2.orig;obtain⟨t0,e1,e2⟩:=zZw n hn n h.2.2.1.length h hA (by omega);obtain rfl:h.1=t0:=Option.some.inj (hA.inv.orig.symm.trans e1);have a0:=hA.move e1;have tr0:=zNq a0.vtree;have q0:=zNp n a0.vtree hn;obtain⟨t1,e3,e4⟩:=zZx n hn n 0 (hAt h h.1 0) a0 (by show h.2.2.1.length<_; omega);obtain rfl:h.2.1=t1:=Option.some.inj (hA.tree.symm.trans e3);have a1:=a0.move e3;have tr1:=zNq a1.vtree;have q1:=zNp n hA.vtree hn;have w1:i64.wrap ((h.2.2.1.length:Int) - 1)=(h.2.2.1.length:Int) - 1:=wrap64_in (by omega) (by omega);unfold und1 zZ1 at e2;unfold und2 zZ1 at e4;unfold hAt at tr0 tr1 q0 e2 e4;clear k2 hA a0 a1 hat n2 hlen e1 e3
 subst ho;obtain⟨⟨h1,h2,h3,h4⟩,⟨h5,h6,h7,h8⟩,rs,d⟩:=h;dsimp only[Nd.kind,Nd.text,Nd.cols,Nd.kids]at *;unfold zCL;rw[show(((0:Nat):Int))=0 from rfl]at *;simp only[hw,f1,obs,Bool.not_true,cond_false,n1];rw[zA5 trivial];unfold zFh;simp only[k1,obs,aB,ae,hR,hT,w1,e2,tr0,q0,e4,tr1,q1]
end
end Go.Proofs.YtbfnjnljboncgaaGreat
