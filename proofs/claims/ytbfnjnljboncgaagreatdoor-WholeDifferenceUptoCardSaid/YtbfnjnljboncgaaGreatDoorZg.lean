/-
  Joined out of: PDump, PFill, PMet, PNode, PRow, PPut, PWith, PWt, PLeast, PLeast2, PEdit1, PEdit2, PEdit3, PEdit4, PEdit5, PAlign, PDif1, PDif2, PDif3, PDif4, PMrg1, PMrg2, PDif5, PMrg3, PMrg5, PMrg6, PDif6, PDif7, PDif8, PEdit6, PEdit7, PDif9, PTop1, PTop2, PTop3.
-/
import Derived.Lib.ItoaLen
import Derived.Test.YtbfnjnljboncgaaGreatDoorZf
set_option linter.unusedVariables false
set_option linter.unusedSimpArgs false
set_option maxHeartbeats 2000000
set_option maxRecDepth 100000
namespace Go.Proofs.YtbfnjnljboncgaaGreatDoor
open Go.Abs
def zSJ:List (List UInt8):=[[114,111,119],[115,121,109],[110,117,109],[116,101,120,116],[102,114,97,99],[114,111,111,116],[115,117,98],[115,117,112],
 [98,111,116,104],[97,99,99,101,110,116],[102,101,110,99,101],[109,97,116,114,105,120]]
def kindName (k:Int):List UInt8:=if 1<=k/\k<=12 then zSJ.getD (k.toNat - 1) [] else [110,111,100,101]++Lib.itoa k
def escL:List UInt8->List UInt8
 | []=>[]
 | c::r=>if c=34∨c=92 then 92::c::escL r else c::escL r
def zR3 (t:List UInt8):List UInt8:=if t=[] then [] else 58::34::(escL t++[34])
def zXa (c:Int):List UInt8:=if c=0 then [] else 42::Lib.itoa c
def zPw (k:Int) (t:List UInt8) (c:Int):List UInt8:=kindName k++(zR3 t++zXa c)
def zVH:List UInt8->List UInt8
 | []=>[]
 | _::r=>40::(r++[41])
mutual
def zDT:Nd->List UInt8
 | .mk k t c ks=>zPw k t c++zVH (zIz ks)
def zIz:List Nd->List UInt8
 | []=>[]
 | v::vs=>32::(zDT v++zIz vs)
end
theorem zUs:∀ i<12,zSJ.getD i [] ≠ []:=by decide
theorem zSB (k:Int):kindName k ≠ []:=by
 unfold kindName;split
 ·exact zUs _ (by omega)
 ·simp
def hd (l:List UInt8) (s:List UInt8):Prop:=∀ b r,l=b::r->b∈s
theorem zLC:∀ t:List UInt8,(escL t).length<=2 * t.length
 | []=>Nat.le_refl _
 | c::r=>by
  have:=zLC r;simp only[escL]
  split <;> simp only[List.length_cons] <;> omega
theorem zLc {k:Int} (h:zLr k):(kindName k).length<=25:=by
 unfold kindName;split
 ·have:∀ i<12,(zSJ.getD i []).length<=25 :=(by decide);exact this _ (by omega)
 ·have:=Lib.itoa_length_le k h.1 h.2
  simp; omega
theorem zVD {k:Int}{t:List UInt8}{c:Int} (hk:zLr k) (hc:zLr c):(zPw k t c).length<=55+2 * t.length:=by
 have h1:=zLc hk;have h2:=zLC t;have h3:=Lib.itoa_length_le c hc.1 hc.2;have h4:(zR3 t).length<=3+2 * t.length :=(by unfold zR3; split <;> simp; omega);have h5:(zXa c).length<=22 :=(by unfold zXa; split <;> simp; omega);simp only[zPw,List.length_append]; omega
theorem zVI (l:List UInt8):(zVH l).length<=l.length+1:=by cases l <;> simp[zVH]
mutual
theorem zQX:∀ v:Nd,v.rng->(zDT v).length<=60 * v.w
 | .mk k t c ks,h=>by
  have h1:=zVD (t:=t) h.1 h.2.1
  have h2:=zOl ks h.2.2
  have h3:=zVI (zIz ks)
  simp only[zDT,List.length_append,Nd.w]; omega
theorem zOl:∀ vs:List Nd,Nd.rngs vs->(zIz vs).length<=60 * Nd.ws vs
 | [],_=>by simp[zIz]
 | v::vs,h=>by
  have h1:=zQX v h.1
  have h2:=zOl vs h.2
  simp only[zIz,List.length_cons,List.length_append,Nd.ws]; omega
end
theorem zR6 (c:UInt8) (l:List UInt8) (h:l.length<4294967296):zAt c l=some ((),l++[c]):=by
 unfold zAt zAY;simp only[obs]
 rw[zCs (by simp; omega)]
theorem zZA (s l:List UInt8) (h:l.length+s.length<=4294967296):zAg s l=some ((s.length:Int),(),l++s):=by
 unfold zAg zAY;simp only[obs]
 rw[zCs h]
theorem zYp {n:Int} (h:zLr n):zDN n=some (Lib.itoa n):=by
 unfold zDN;exact zCs (show -9223372036854775808<=n/\n<=9223372036854775807 from h)
theorem zYm (c:UInt8):((c.toNat:Int) == 34)=(c == 34)/\((c.toNat:Int) == 92)=(c == 92) :=
 ⟨of_decide_eq_true (zWL (P:=fun c=>decide (((c.toNat:Int) == 34)=(c == 34))) (by decide +kernel) c),of_decide_eq_true (zWL (P:=fun c=>decide (((c.toNat:Int) == 92)=(c == 92))) (by decide +kernel) c)⟩
theorem zVy {t:List UInt8}{i:Nat} (h:i<t.length):escL (t.drop i)=if t[i]=34∨t[i]=92 then 92::t[i]::escL (t.drop (i+1)) else t[i]::escL (t.drop (i+1)):=by
 rw[List.drop_eq_getElem_cons h]; rfl
theorem zJE (t:List UInt8) (ht:t.length<=1073741824):∀ (k i:Nat) (l:List UInt8),t.length - i<k->i<=t.length->l.length+2 * (t.length - i)<4294967296 ->
  zAI t k (i:Int) l=some (l++escL (t.drop i))
 | 0,_,_,h,_,_=>by omega
 | k+1,i,l,hk,hi,hl=>by
  unfold zAI
  by_cases h:i<t.length
  ·rw[zBs (Int.ofNat_lt.2 h),cond_true,zBJ h,zVy h]
   simp only[obs,(zYm t[i]).1,(zYm t[i]).2]
   rw[zAP (by omega)]
   have e92:b8of 92=92:=rfl
   by_cases h1:t[i]=34
   ·rw[if_pos (.inl h1),show(t[i] == 34)=true from beq_iff_eq.2 h1,cond_true]
    simp only[obs,cond_true]
    rw[e92,zR6 _ _ (by omega)]
    simp only[obs]
    rw[zR6 _ _ (by simp; omega)]
    simp only[obs]
    rw[zJE t ht k (i+1) _ (by omega) (by omega) (by simp; omega)]
    simp
   ·rw[show(t[i] == 34)=false from beq_eq_false_iff_ne.2 h1,cond_false]
    simp only[obs]
    by_cases h2:t[i]=92
    ·rw[if_pos (.inr h2),show(t[i] == 92)=true from beq_iff_eq.2 h2,cond_true]
     try simp only[obs,cond_true]
     rw[e92,zR6 _ _ (by omega)]
     simp only[obs]
     rw[zR6 _ _ (by simp; omega)]
     simp only[obs]
     rw[zJE t ht k (i+1) _ (by omega) (by omega) (by simp; omega)]
     simp[h2]
    ·rw[if_neg (by intro h; exact h.elim h1 h2),show(t[i] == 92)=false from beq_eq_false_iff_ne.2 h2,cond_false]
     simp only[obs]
     rw[zR6 _ _ (by omega)]
     simp only[obs]
     rw[zJE t ht k (i+1) _ (by omega) (by omega) (by simp; omega)]
     simp
  ·rw[zBn (by omega),cond_false]
   obtain rfl:i=t.length :=(by omega);simp[escL]
theorem zRj (k:Int):kindName k=if k=1 then [114,111,119] else if k=2 then [115,121,109] else if k=3 then [110,117,109] else if k=4 then [116,101,120,116]
 else if k=5 then [102,114,97,99] else if k=6 then [114,111,111,116] else if k=7 then [115,117,98] else if k=8 then [115,117,112]
 else if k=9 then [98,111,116,104] else if k=10 then [97,99,99,101,110,116] else if k=11 then [102,101,110,99,101]
 else if k=12 then [109,97,116,114,105,120] else [110,111,100,101]++Lib.itoa k:=by
 rcases kinds k with rfl | rfl | rfl | rfl | rfl | rfl | rfl | rfl | rfl | rfl | rfl | rfl | hk
 all_goals first | rfl | skip
 unfold kindName;rw[if_neg (by omega),if_neg (by omega),if_neg (by omega),if_neg (by omega),if_neg (by omega),if_neg (by omega),if_neg (by omega),if_neg (by omega),if_neg (by omega),if_neg (by omega),if_neg (by omega),if_neg (by omega),if_neg (by omega)]
theorem zY8 (k:Int):(bif decide (1<=k) then some (decide (k<=12)) else some false:Option Bool)=some (decide (1<=k/\k<=12)):=by
 by_cases h:1<=k
 ·rw[zBs h,cond_true]; congr 1; by_cases h2:k<=12 <;> simp[h,h2]
 ·rw[zBn h,cond_false]; congr 1; simp[h]
theorem head_eq (n:Nat) (k:Int) (t:List UInt8) (c:Int) (ks:List Nd) (l:List UInt8) (hn:t.length<n) (ht:t.length<=1073741824) (hk:zLr k) (hc:zLr c) (hl:l.length+2 * t.length+60<4294967296) :
  zBm n (.mk k t c ks) l=some (l++zPw k t c):=by
 unfold zBm;have hki:=Lib.itoa_length_le k hk.1 hk.2;have hci:=Lib.itoa_length_le c hc.1 hc.2;have h1:∀ X:Option (List UInt8),X=some (l++kindName k)->∀ K:List UInt8->Option (List UInt8),X.bind K=K (l++kindName k):=fun X h K=>by rw[h]; rfl
 simp only[zY8,obs]
 have hlen:=zLc hk;rw[h1 _ ?_]
 ·have h2:∀ X:Option (List UInt8),X=some ((l++kindName k)++zR3 t)->∀ K:List UInt8->Option (List UInt8),X.bind K=K ((l++kindName k)++zR3 t):=fun X h K=>by rw[h]; rfl
  rw[h2 _ ?_]
  ·unfold zPw zXa;have htx:(zR3 t).length<=3+2 * t.length:=by have:=zLC t; unfold zR3; split <;> simp; omega
   by_cases h0:c=0
   ·subst h0;rw[if_pos rfl,show((0:Int) != 0)=false from rfl,cond_false]
    simp
   ·rw[if_neg h0,show(c != 0)=true from bne_iff_ne.2 h0,cond_true,zYp hc]
    simp only[obs]
    rw[zCs (by simp; omega),zZA _ _ (by simp; omega)]
    simp
  ·unfold zR3
   by_cases h0:t=[]
   ·subst h0;simp
   ·rw[if_neg h0,show(!(t == []))=true from by simp[h0],cond_true,zZA _ _ (by simp; omega)]
    simp only[obs]
    have:=zJE t ht n 0 ((l++kindName k)++[58,34]) (by omega) (by omega) (by simp; omega)
    rw[show((0:Nat):Int)=0 from rfl]at this;rw[this]
    have he:=zLC t;simp only[obs,List.drop_zero]
    rw[show b8of 34=34 from rfl,zR6 _ _ (by simp; omega)]
    simp
 ·rw[zRj]
  have go:∀ s:List UInt8,s.length<=25->((zAg s l).bind fun x=>match x with | (_,_,b)=>some b)=some (l++s):=fun s hs=>by
   rw[zZA _ _ (by omega)]; rfl
  rcases kinds k with rfl | rfl | rfl | rfl | rfl | rfl | rfl | rfl | rfl | rfl | rfl | rfl | hk'
  all_goals first | exact go _ (by decide) | skip
  rw[show decide (1<=k/\k<=12)=false from decide_eq_false (by omega),cond_false,zYp hk]
  simp only[obs]
  rw[zCs (by simp; omega),if_neg (by omega),if_neg (by omega),if_neg (by omega),if_neg (by omega),if_neg (by omega),if_neg (by omega),if_neg (by omega),if_neg (by omega),if_neg (by omega),if_neg (by omega),if_neg (by omega),if_neg (by omega)]
  exact go _ (by simp; omega)
def remK (ks:List Nd) (i:Nat):List UInt8:=if i=0 then zVH (zIz ks) else zIz (ks.drop i)++[41]
def outS:List (Nd×Nat)->List UInt8
 | []=>[]
 | p::r=>outS r++remK p.1.kids p.2
def itS:List (Nd×Nat)->Nat
 | []=>0
 | p::r=>itS r+(1+2 * Nd.cnts (p.1.kids.drop p.2))
theorem zGG (p:Nd×Nat):∀ L,outS (L++[p])=remK p.1.kids p.2++outS L
 | []=>by simp[outS]
 | q::r=>by simp only[List.cons_append,outS,zGG p r,List.append_assoc]
theorem zH4 (p:Nd×Nat):∀ L,itS (L++[p])=itS L+(1+2 * Nd.cnts (p.1.kids.drop p.2))
 | []=>by simp[itS]
 | q::r=>by simp only[List.cons_append,itS,zH4 p r]; omega
theorem zSz:∀ L,L.length<=itS L
 | []=>Nat.le_refl _
 | q::r=>by have:=zSz r; simp only[itS,List.length_cons]; omega
theorem zWk {ks:List Nd}{i:Nat} (h:i<ks.length):remK ks i=(if i=0 then 40 else 32)::(zDT ks[i]++remK ks (i+1)):=by
 unfold remK;rw[if_neg (by omega:¬ i+1=0)]
 by_cases h0:i=0
 ·subst h0;rw[if_pos rfl,if_pos rfl]
  match ks,h with
  | v::vs,_=>simp[zIz,zVH]
 ·rw[if_neg h0,if_neg h0,List.drop_eq_getElem_cons h]
  simp[zIz]
theorem zXP (ks:List Nd):remK ks ks.length=if ks.length=0 then [] else [41]:=by
 unfold remK
 by_cases h:ks.length=0
 ·rw[if_pos h,if_pos h,List.length_eq_zero_iff.1 h]; rfl
 ·rw[if_neg h,if_neg h,List.drop_length]; rfl
theorem zJC (k:Int) (t:List UInt8) (c:Int) (ks:List Nd):zDT (.mk k t c ks)=zPw k t c++remK ks 0:=by
 simp[zDT,remK]
theorem zS4 (k:Int) (t:List UInt8) (c:Int) (ks:List Nd):(Nd.mk k t c ks).w=t.length+Nd.ws ks+1:=rfl
def entI (p:Nd×Nat):Nd×Int:=(p.1,(p.2:Int))
theorem zLX (n:Nat):∀ (k:Nat) (L:List (Nd×Nat)) (b:List UInt8),itS L<k->itS L<=1000000000->(∀ p∈L,p.2<=p.1.kids.length/\p.1.rng/\p.1.w<=16777216/\p.1.w<n)->b.length+(outS L).length<=4000000000 ->
  zB9 n k b (L.map entI)=some (b++outS L)
 | 0,_,_,h,_,_,_=>by omega
 | k+1,L,b,hk,hit,hL,hb=>by
  unfold zB9;rcases List.eq_nil_or_concat L with rfl | ⟨L,⟨v,i⟩,rfl⟩
  ·simp[outS]
  ·rw[List.concat_eq_append]at *;obtain⟨hi,hr,hw,hwn⟩:=hL (v,i) (by simp)
   obtain⟨k0,t,c,ks⟩:=v;replace hr:(Nd.mk k0 t c ks).rng:=hr;replace hw:(Nd.mk k0 t c ks).w<=16777216:=hw;replace hwn:(Nd.mk k0 t c ks).w<n:=hwn;have hlen:((List.map entI (L++[(Nd.mk k0 t c ks,i)])).length:Int)=(L.length:Int)+1 :=(by simp);have hll:=zSz (L++[(Nd.mk k0 t c ks,i)])
   rw[List.length_append,List.length_singleton]at hll;have hwr:IntKind.i64.wrap (((List.map entI (L++[(Nd.mk k0 t c ks,i)])).length:Int) - 1)=(L.length:Int) :=(by rw[hlen,wrap64_in (by omega) (by omega)]; omega);have hat:at? (List.map entI (L++[(Nd.mk k0 t c ks,i)])) (L.length:Int)=some (Nd.mk k0 t c ks,(i:Int)):=by
    rw[zBJ (by simp)]; simp[entI]
   rw[zBs (by omega),cond_true,hwr,hat]
   simp only[obs,Nd.kids]at hi ⊢;rw[zGG]at hb ⊢;rw[zH4]at hk hit;simp only[Nd.kids]at hb hk hit ⊢
   by_cases he:i=ks.length
   ·subst he;rw[show((ks.length:Int) == (ks.length:Int))=true from beq_self_eq_true _,cond_true]
    have hre:=zXP ks;have hx:(bif decide (0<(ks.length:Int)) then (zAt (b8of 41) b).bind (fun x=>match x with | (_,b14)=>some b14) else some b)=some (b++remK ks ks.length):=by
     rw[hre]
     by_cases h0:ks.length=0
     ·rw[zBn (by omega),cond_false,if_pos h0]; simp
     ·rw[zBs (by omega),cond_true,if_neg h0,zR6 _ _ (by omega)]; rfl
    have hx':∀ X:Option (List UInt8),X=some (b++remK ks ks.length)->∀ K:List UInt8->Option (List UInt8),X.bind K=K (b++remK ks ks.length):=fun X h K=>by rw[h]; rfl
    rw[hx' _ hx,zCs (by omega),Int.toNat_natCast]
    have ht:List.take L.length (List.map entI (L++[(Nd.mk k0 t c ks,ks.length)]))=L.map entI :=(by simp);rw[ht,zLX n k L _ (by omega) (by omega) (fun p hp=>hL p (by simp[hp])) (by simp only[List.length_append]at hb ⊢; omega)]
    simp
   ·have h:i<ks.length :=(by omega);rw[zDq (by omega:(i:Int) ≠ (ks.length:Int)),cond_false,zBJ h]
    have hd:=Nd.cnts_drop h;have hrs:=zWk h;rw[hrs]at hb ⊢;have hkr:(ks[i]).rng:=Nd.rng_mem hr.2.2 (List.getElem_mem h)
    have hkw:(ks[i]).w<Nd.ws ks:=Nd.w_mem (List.getElem_mem h)
    have hwt:=zS4 k0 t c ks;rcases e:ks[i] with ⟨e1,e2,e3,e4⟩
    rw[e]at hd hkr hkw hb;have hwt2:=zS4 e1 e2 e3 e4;have hct:=Nd.cnt_kids (.mk e1 e2 e3 e4)
    simp only[Nd.kids]at hct;rw[zJC]at hb;simp only[obs]
    have hsep:at? ([40,32]:List UInt8) (if 1<(i:Int) then 1 else (i:Int))=some (if i=0 then 40 else 32):=by
     by_cases h0:i=0
     ·subst h0; rfl
     ·rw[if_neg h0]
      by_cases h1:i=1
      ·subst h1; rfl
      ·rw[if_pos (by omega)]; rfl
    rw[hsep]
    simp only[obs]
    simp only[List.length_append,List.length_cons]at hb;rw[zR6 _ _ (by omega)]
    simp only[obs]
    rw[head_eq n e1 e2 e3 e4 _ (by omega) (by omega) hkr.1 hkr.2.1 (by simp; omega)]
    simp only[obs]
    have hset:(List.map entI (L++[(Nd.mk k0 t c ks,i)])).set (L.length:Int).toNat (Nd.mk k0 t c ks,IntKind.i64.wrap ((i:Int)+1))++[(Nd.mk e1 e2 e3 e4,0)]=(L++[(Nd.mk k0 t c ks,i+1)]++[(Nd.mk e1 e2 e3 e4,0)]).map entI:=by
     have hlk:=Nd.ws_len ks;rw[wrap64_in (by omega) (by omega)]
     simp[entI]
    have hll2:=zSz L;rw[zCs (by simp; omega),hset]
    rw[zLX n k _ _ (by rw[zH4,zH4]; simp only[Nd.kids,List.drop_zero]; omega) (by rw[zH4,zH4]; simp only[Nd.kids,List.drop_zero]; omega) ?_ ?_]
    ·rw[zGG,zGG,zJC]
     simp[Nd.kids]
    ·intro p hp;rcases List.mem_append.1 hp with hp | hp
     ·rcases List.mem_append.1 hp with hp | hp
      ·exact hL p (by simp[hp])
      ·simp only[List.mem_singleton]at hp; subst hp
       exact⟨h,hr,hw,hwn⟩
     ·simp only[List.mem_singleton]at hp; subst hp
      exact⟨Nat.zero_le _,hkr,(show(Nd.mk e1 e2 e3 e4).w<=16777216 by omega),(show(Nd.mk e1 e2 e3 e4).w<n by omega)⟩
    ·rw[zGG,zGG]
     simp only[Nd.kids,List.length_append,List.length_cons,List.length_nil]
     omega
theorem zXf (t:Nd):zDT t ≠ []:=by
 obtain⟨k,t,c,ks⟩:=t;rw[zJC]
 unfold zPw;have:=zSB k;simp[this]
theorem zLe (n:Nat) (t:Nd) (h:2 * t.w<n) (hw:t.w<=16777216) (hr:t.rng):zEG n t=some (zDT t):=by
 have hlen:=zQX t hr;have hne:=zXf t;have hcw:=Nd.cnt_w t;have hck:=Nd.cnt_kids t;obtain⟨k,tx,c,ks⟩:=t;have hwt:=zS4 k tx c ks;simp only[Nd.kids]at hck;unfold zEG zD7;simp only[obs]
 rw[head_eq n k tx c ks [] (by omega) (by omega) hr.1 hr.2.1 (by simp; omega)]
 simp only[obs,List.nil_append]
 have hl:=zLX n n [(.mk k tx c ks,0)] (zPw k tx c) (by simp[itS,Nd.kids]; omega) (by simp[itS,Nd.kids]; omega) (fun p hp=>by simp only[List.mem_singleton]at hp; subst hp; exact⟨Nat.zero_le _,hr,hw,(show(Nd.mk k tx c ks).w<n by omega)⟩) (by
  rw[zJC]at hlen;simp only[outS,Nd.kids,List.length_append,List.nil_append]at hlen ⊢; omega)
 have e:List.map entI [(Nd.mk k tx c ks,0)]=[(Nd.mk k tx c ks,0)]:=rfl;rw[e]at hl;rw[hl,obs]
 have e2:zPw k tx c++outS [(Nd.mk k tx c ks,0)]=zDT (.mk k tx c ks) :=(by rw[zJC]; simp[outS,Nd.kids]);rw[e2]
 unfold zCN;rw[zCs ⟨hne,by omega⟩,obs]
def cntI (x:Nd):Int:=(x.cnt:Int)
theorem zOO (n:Nat){l:List Nd} (hn:∀ v∈l,v.cnt<n) (hb:Nd.cnts l<=1048576):∀ (q i:Nat),l.length - i<q->i<=l.length ->
  zCh n l q (i:Int) ((l.take i).map cntI++List.replicate (l.length - i) 0)=some (l.map cntI)
 | 0,_,h,_=>by omega
 | q+1,i,hq,hi=>by
  have l1:=Nd.cnts_len l;unfold zCh
  by_cases h:i<l.length
  ·rw[zBs (Int.ofNat_lt.2 h),cond_true,zBJ h]
   have hm:=List.getElem_mem h;have hc:=zJH n _ (hn _ hm) (by have:=Nd.cnts_mem hm; omega)
   have ht:l.take (i+1)=l.take i++[l[i]]:=List.take_append_getElem h ▸ rfl;rcases e:l[i] with ⟨a,b,c,d⟩
   rw[e]at hc ht;simp only[obs,hc]
   have hlen:((l.take i).map cntI).length=i :=(by simp; omega);obtain⟨m,hm⟩:∃ m,l.length - i=m+1:=⟨l.length - i - 1,by omega⟩
   have hg:at? ((l.take i).map cntI++List.replicate (l.length - i) (0:Int)) (i:Int)=some 0:=by
    unfold at?
    rw[if_pos (by omega),Int.toNat_natCast,List.getElem?_append_right (by omega),hlen,hm]
    simp
   rw[hg,obs,zAP (by omega),Int.toNat_natCast]
   have hs:((l.take i).map cntI++List.replicate (l.length - i) (0:Int)).set i ((Nd.mk a b c d).cnt:Int)=(l.take (i+1)).map cntI++List.replicate (l.length - (i+1)) 0:=by
    rw[List.set_append_right _ _ (by omega),hlen,Nat.sub_self,hm,ht,show l.length - (i+1)=m by omega,List.replicate_succ,List.set_cons_zero,List.map_append]
    simp[cntI]
   rw[hs]
   exact zOO n hn hb q (i+1) (by omega) (by omega)
  ·rw[zBn (by omega),cond_false]
   obtain rfl:i=l.length :=(by omega);simp
theorem zTQ (n:Nat) (l:List Nd) (hn:Nd.cnts l+1<n) (hb:Nd.cnts l<=1048576):zD4 n l=some (l.map cntI):=by
 have l1:=Nd.cnts_len l;have:=zOO n (l:=l) (fun v hv=>by have:=Nd.cnts_mem hv; omega) hb n 0 (by omega) (by omega)
 rw[show((0:Nat):Int)=0 from rfl]at this;simp only[List.take_zero,List.map_nil,List.nil_append,Nat.sub_zero]at this;rw[zD4,zCs ⟨by omega,by omega⟩,Int.toNat_natCast,this]; rfl
theorem zTj:∀ b:List Nd,Nd.cnts b<=1048576->zAR (b.map cntI)=sufs (TD D []) b
 | [],_=>rfl
 | y::ys,hb=>by
  simp only[Nd.cnts]at hb;have hf:TD D [] ys=Nd.cnts ys:=rfl;rw[List.map_cons,zAR,zTj ys (by omega),zOT,hf,cntI,wrap64_in (by omega) (by omega),sufs,show TD D [] (y::ys)=y.cnt+Nd.cnts ys from rfl]
  congr 1; omega
def prI (x y:Nd):Int:=bif zBb x y then (D x y:Int) else -1
theorem zVB {F:Nd->Nd->Option Int}{x:Nd}{f:List Nd->Nat}{c:Nat} (hx:x.cnt<=1048576) (hc:c<=1048576) (hf:∀ b,f b<=c+Nd.cnts b) :
  ∀ (b:List Nd),(∀ y∈b,F x y=some (prI x y))->Nd.cnts b<=1048576->zAr F x (x.cnt:Int) b (b.map cntI) (sufs f b)=some (sufs (rowD D x f) b,b.map (prI x))
 | [],_,_=>by
  have:=hf []
  simp only[Nd.cnts]at this;simp only[sufs,List.map_nil,zAr,rowD]
  rw[wrap64_in (by omega) (by omega),Nat.add_comm]; rfl
 | y::ys,h1,hb=>by
  simp only[Nd.cnts]at hb;have g1:=hf (y::ys)
  simp only[Nd.cnts]at g1;have g2:=hf ys;have g3:=zWo (P:=D) (x:=x) hf ys;have g4:=D_le x y;have ih:=zVB (F:=F) hx hc hf ys (fun y hy=>h1 y (List.mem_cons_of_mem _ hy)) (by omega)
  obtain⟨r,hr⟩:=zNs f ys;rw[sufs,hr,List.map_cons,zAr,← hr,ih,obs,h1 y List.mem_cons_self,obs]
  dsimp only;rw[zOT,cntI,wrap64_in (n:=(f (y::ys):Int)+(x.cnt:Int)) (by omega) (by omega),wrap64_in (n:=(rowD D x f ys:Int)+_) (by omega) (by omega),← Int.natCast_add,← Int.natCast_add,zTs,Nat.add_comm (f (y::ys)),Nat.add_comm (rowD D x f ys)]
  unfold prI;cases ha:zBb x y with
  | false =>
   simp only[cond_false,sufs,rowD,ha,List.map_cons]
   rw[if_neg (by omega)]
   simp[prI,ha]
  | true =>
   simp only[cond_true]
   rw[if_pos (by omega),wrap64_in (by omega) (by omega),← Int.natCast_add,zTs,Nat.min_comm,Nat.add_comm (f ys)]
   simp[sufs,rowD,ha,prI]
theorem zTk {F:Nd->Nd->Option Int}{b:List Nd} (hb:Nd.cnts b<=1048576) :
  ∀ (a:List Nd),(∀ x∈a,∀ y∈b,F x y=some (prI x y))->Nd.cnts a<=1048576->zAC F b (b.map cntI) a (a.map cntI)=some (tabD D a b,a.map fun x=>b.map (prI x))
 | [],_,_=>by rw[List.map_nil,zAC,zTj b hb]; rfl
 | x::xs,h1,ha=>by
  simp only[Nd.cnts]at ha;rw[List.map_cons,zAC,zTk hb xs (fun y hy=>h1 y (List.mem_cons_of_mem _ hy)) (by omega),obs]
  obtain⟨r,hr⟩:=zR2 D xs b;rw[hr]
  dsimp only;rw[cntI,zVB (c:=Nd.cnts xs) (by omega) (by omega) (zQC xs) b (h1 x List.mem_cons_self) hb,obs,← hr]
  rfl
theorem zLh {F:List Nd->List Nd->Option (List (List Int)×List (List Int)×List Int×List Int)}{a b:List Nd} (hF:∀ u∈a,∀ v∈b,∃ p,F u.kids v.kids=some (tabD D u.kids v.kids,p)) (hl:a.length=b.length) (ha:Nd.cnts a<=1048576) :
  ∀ (q i o:Nat),a.length - i<q->i<=a.length->o+sumD DL (a.drop i) (b.drop i)<=4000000->zBL F a b q (o:Int) (i:Int)=some ((o+sumD DL (a.drop i) (b.drop i):Nat):Int)
 | 0,_,_,h,_,_=>by omega
 | q+1,i,o,hq,hi,ho=>by
  have l1:=Nd.cnts_len a;unfold zBL
  by_cases h:i<a.length
  ·have h':i<b.length :=(by omega);rw[zBs (Int.ofNat_lt.2 h),cond_true,zBJ h,zBJ h']
   obtain⟨p,hf⟩:=hF _ (List.getElem_mem h) _ (List.getElem_mem h')
   have hs:=zX5 (f:=DL) h h';rcases e:a[i] with ⟨x1,x2,x3,x4⟩
   rcases e':b[i] with ⟨y1,y2,y3,y4⟩
   rw[e,e']at hf hs;simp only[Nd.kids]at hf hs;obtain⟨r,r1,r2⟩:=yAi D x4 y4;have hd:TD D x4 y4=DL x4 y4:=rfl;rw[hd]at r2;obtain⟨p1,p2,p3⟩:=p;simp only[obs,hf,r1,r2]
   rw[zAP (by omega),wrap64_in (by omega) (by omega),← Int.natCast_add,zLh hF hl ha q (i+1) _ (by omega) (by omega) (by omega)]
   congr 2; omega
  ·rw[zBn (by omega),cond_false]
   obtain rfl:i=a.length :=(by omega);rw[List.drop_length]
   cases List.drop a.length b <;> rfl
theorem zSv:∀ N:Nat,(∀ x y:Nd,2 * x.cnt+2 * y.cnt<N->x.cnt<=1048576->y.cnt<=1048576->zBM N x y=some (prI x y)) /\
  (∀ a b:List Nd,2 * Nd.cnts a+2 * Nd.cnts b+2<N->Nd.cnts a<=1048576->Nd.cnts b<=1048576->zCg N a b=some (tabD D a b,(a.map fun x=>b.map (prI x)),a.map cntI,b.map cntI))
 | 0=>⟨fun _ _ h _ _=>by omega,fun _ _ h _ _=>by omega⟩
 | n+1=>by
  obtain⟨ih1,ih2⟩:=zSv n;refine⟨fun x y h hx hy=>?_,fun a b h ha hb=>?_⟩
  ·have e1:=x.cnt_kids;have e2:=y.cnt_kids;have hle:=zS0 x.kids y.kids;have hD:=D_eq x y;have l1:=Nd.cnts_len x.kids;have hF:∀ u∈x.kids,∀ v∈y.kids,∃ p,zCg n u.kids v.kids=some (tabD D u.kids v.kids,p):=fun u hu v hv=>by
    have:=Nd.cnts_mem hu;have:=Nd.cnts_mem hv;have:=u.cnt_kids;have:=v.cnt_kids;exact⟨_,ih2 _ _ (by omega) (by omega) (by omega)⟩
   have ht:=zWJ x y;have hal:zBb x y=true->x.kids.length=y.kids.length:=zMg;have hlp:x.kids.length=y.kids.length->_:=fun hl=>zLh hF hl (by omega) n 0 (txt x y) (by omega) (by omega) (by simp only[List.drop_zero]; omega)
   rw[show((0:Nat):Int)=0 from rfl,List.drop_zero,List.drop_zero,← hD]at hlp;obtain⟨a,b,c,d⟩:=x;obtain⟨a',b',c',d'⟩:=y;unfold zBM;have e:(bif (!(b == b')) then some 1 else some 0:Option Int)=some (txt (.mk a b c d) (.mk a' b' c' d'):Int):=by
    unfold txt;simp only[Nd.text]
    cases b == b' <;> rfl
   have e3:(bif (a != a') then some true else bif (c != c') then some true else some ((d.length:Int) != (d'.length:Int)):Option Bool)=some (!zBb (.mk a b c d) (.mk a' b' c' d')):=by
    unfold zBb bne;simp only[Nd.kind,Nd.kids,Nd.cols]
    cases a == a' <;> cases c == c' <;> cases((d.length:Int) == (d'.length:Int)) <;> rfl
   rw[e,e3]
   unfold prI;cases hab:zBb (.mk a b c d) (.mk a' b' c' d') with
   | false=>rfl
   | true =>
    simp only[Nd.kids]at hlp hal;simp only[obs,Bool.not_true,cond_false,cond_true]
    rw[hlp (hal hab)]; rfl
  ·have l1:=Nd.cnts_len a;have l2:=Nd.cnts_len b;rw[zCg,zTQ n a (by omega) ha,zTQ n b (by omega) hb,obs,obs,zCs ⟨by omega,by omega,by simp⟩]
   rw[zTk hb a (fun x hx y hy=>?_) ha]
   ·rfl
   ·have:=Nd.cnts_mem hy;have:=Nd.cnts_mem hx;exact ih1 x y (by omega) (by omega) (by omega)
theorem zJz (n:Nat) (a b:Nd) (ha:a.w+45<n) (ha':a.w<=67108864) (hb:b.w+45<n) (hb':b.w<=67108864):zD5 n a b=some (zAA a&&zAA b):=by
 have e1:=zC0 n a ha ha';have e2:=zC0 n b hb hb';obtain⟨a1,a2,a3,a4⟩:=a;obtain⟨b1,b2,b3,b4⟩:=b;unfold zD5;simp only[e1,e2,obs]
 cases zAA (.mk a1 a2 a3 a4) <;> rfl
theorem zYH (n:Nat) (a b:Nd) (h:2 * a.w+2 * b.w+50<n) (ha:a.w<=67108864) (hb:b.w<=67108864) (ha2:a.cnt<=1048576) (hb2:b.cnt<=1048576):zFD n a b=some (bif zAA a&&zAA b then ((DL a.kids b.kids:Int),0) else (0,1)):=by
 have e1:=zJz n a b (by omega) ha (by omega) hb;have c1:=Nd.cnt_w a;have c2:=Nd.cnt_w b;have k1:=a.cnt_kids;have k2:=b.cnt_kids;have e2:=(zSv n).2 a.kids b.kids (by omega) (by omega) (by omega)
 obtain⟨r,r1,r2⟩:=yAi D a.kids b.kids;have hd:TD D a.kids b.kids=DL a.kids b.kids:=rfl;rw[hd]at r2;obtain⟨a1,a2,a3,a4⟩:=a;obtain⟨b1,b2,b3,b4⟩:=b;simp only[Nd.kids]at e2 r1 r2;unfold zFD;simp only[e1,obs]
 cases zAA (.mk a1 a2 a3 a4)&&zAA (.mk b1 b2 b3 b4) with
 | false=>rfl
 | true=>simp only[Bool.not_true,cond_false,e2,obs,r1,r2,cond_true,Nd.kids]
inductive Al:List Nd->List Nd->Nat->Prop
 | nil:Al [] [] 0
 | del {x xs b k}:Al xs b k->Al (x::xs) b (x.cnt+k)
 | ins {y a ys k}:Al a ys k->Al a (y::ys) (y.cnt+k)
 | mat {x y xs ys k}:zBb x y=true->Al xs ys k->Al (x::xs) (y::ys) (D x y+k)
theorem yAb {P:Nd->Nd->Nat}{x y:Nd}{f:List Nd->Nat}{ys:List Nd}:rowD P x f (y::ys)<=x.cnt+f (y::ys):=by
 simp only[rowD]; split
 ·exact Nat.le_trans (Nat.min_le_left _ _) (Nat.min_le_left _ _)
 ·exact Nat.min_le_left _ _
theorem yAc {P:Nd->Nd->Nat}{x y:Nd}{f:List Nd->Nat}{ys:List Nd}:rowD P x f (y::ys)<=y.cnt+rowD P x f ys:=by
 rw[rowD]; split
 ·exact Nat.le_trans (Nat.min_le_left _ _) (Nat.min_le_right _ _)
 ·exact Nat.min_le_right _ _
theorem yAd {P:Nd->Nd->Nat}{x y:Nd}{f:List Nd->Nat}{ys:List Nd} (h:zBb x y=true):rowD P x f (y::ys)<=P x y+f ys:=by
 rw[rowD,if_pos h]; exact Nat.min_le_right _ _
theorem zKX {a b:List Nd}{k:Nat} (h:Al a b k):DL a b<=k:=by
 induction h with
 | nil=>exact Nat.le_refl _
 | @del x xs b k _ ih =>
  cases b with
  | nil=>exact Nat.add_le_add_left ih _
  | cons y ys=>exact Nat.le_trans yAb (Nat.add_le_add_left ih _)
 | @ins y a ys k _ ih =>
  cases a with
  | nil=>exact Nat.add_le_add_left ih _
  | cons x xs=>exact Nat.le_trans yAc (Nat.add_le_add_left ih _)
 | @mat x y xs ys k hal _ ih=>exact Nat.le_trans (yAd hal) (Nat.add_le_add_left ih _)
theorem zKg:∀ b:List Nd,Al [] b (Nd.cnts b)
 | []=>.nil
 | y::ys=>.ins (zKg ys)
theorem zYk {x:Nd}{xs:List Nd} (h:∀ b,Al xs b (DL xs b)):∀ b,Al (x::xs) b (rowD D x (DL xs) b)
 | []=>.del (h [])
 | y::ys=>by
  have ih:=zYk (x:=x) h ys;have h1:Al (x::xs) (y::ys) (min (x.cnt+DL xs (y::ys)) (y.cnt+rowD D x (DL xs) ys)):=by
   rcases Nat.le_total (x.cnt+DL xs (y::ys)) (y.cnt+rowD D x (DL xs) ys) with g | g
   ·rw[Nat.min_eq_left g]; exact .del (h _)
   ·rw[Nat.min_eq_right g]; exact .ins ih
  rw[rowD]
  split
  ·rename_i hal
   rcases Nat.le_total (min (x.cnt+DL xs (y::ys)) (y.cnt+rowD D x (DL xs) ys)) (D x y+DL xs ys) with g | g
   ·rw[Nat.min_eq_left g]; exact h1
   ·rw[Nat.min_eq_right g]; exact .mat hal (h _)
  ·exact h1
theorem zQf:∀ a b:List Nd,Al a b (DL a b)
 | [],b=>zKg b
 | x::xs,b=>zYk (zQf xs) b
theorem zCH {x y:Nd}:zBb x y=true↔x.kind=y.kind/\x.kids.length=y.kids.length/\x.cols=y.cols:=by
 unfold zBb;simp only[Bool.and_eq_true,beq_iff_eq]
 omega
theorem zOa {x y:Nd} (h:zBb x y=true):zBb y x=true:=by
 obtain⟨h1,h2,h3⟩:=zCH.1 h; exact zCH.2 ⟨h1.symm,h2.symm,h3.symm⟩
theorem zSn {x y z:Nd} (h:zBb x y=true) (h':zBb y z=true):zBb x z=true:=by
 obtain⟨h1,h2,h3⟩:=zCH.1 h; obtain⟨g1,g2,g3⟩:=zCH.1 h'
 exact zCH.2 ⟨h1.trans g1,h2.trans g2,h3.trans g3⟩
theorem alike_refl (x:Nd):zBb x x=true:=zCH.2 ⟨rfl,rfl,rfl⟩
theorem zKd {x y:Nd}:txt x y=0↔x.text=y.text:=by
 unfold txt;cases e:x.text == y.text with
 | true=>simpa using e
 | false=>simpa using e
theorem zYb (x y:Nd):txt x y=txt y x:=by
 unfold txt; rw[zMp]
theorem zZz (x y z:Nd):txt x z<=txt x y+txt y z:=by
 have h1:=zWJ x z
 by_cases h:txt x y=0
 ·by_cases g:txt y z=0
  ·have:=zKd.2 ((zKd.1 h).trans (zKd.1 g)); omega
  ·omega
 ·omega
theorem zTT:∀ (us vs:List Nd),(∀ u∈us,∀ v,DL u.kids v=DL v u.kids)->sumD DL us vs=sumD DL vs us
 | [],vs,_=>by cases vs <;> rfl
 | u::us,[],_=>rfl
 | u::us,v::vs,h=>by
  rw[sumD,sumD,h u List.mem_cons_self,zTT us vs fun u hu=>h u (List.mem_cons_of_mem _ hu)]
theorem zUR {a b:List Nd}{k:Nat} (h:Al a b k):(∀ x∈a,∀ y∈b,D x y=D y x)->Al b a k:=by
 induction h with
 | nil=>exact fun _=>.nil
 | del _ ih=>exact fun hd=>.ins (ih fun x hx=>hd x (List.mem_cons_of_mem _ hx))
 | ins _ ih=>exact fun hd=>.del (ih fun x hx y hy=>hd x hx y (List.mem_cons_of_mem _ hy))
 | mat hal _ ih=>exact fun hd=>by rw[hd _ List.mem_cons_self _ List.mem_cons_self]; exact .mat (zOa hal) (ih fun x hx y hy=>hd x (List.mem_cons_of_mem _ hx) y (List.mem_cons_of_mem _ hy))
theorem zN6 {a b:List Nd} (h:∀ x∈a,∀ y∈b,D x y=D y x):DL a b=DL b a :=
 Nat.le_antisymm (zKX (zUR (zQf b a) fun x hx y hy=>(h y hy x hx).symm)) (zKX (zUR (zQf a b) h))
theorem zUT:∀ (N:Nat) (x y:Nd),x.cnt<=N->D x y=D y x
 | 0,x,_,h=>by have:=x.cnt_pos; omega
 | N+1,x,y,h=>by
  rw[D_eq,D_eq,zYb,zTT]
  intro u hu v;have e1:=x.cnt_kids;have e2:=u.cnt_kids;have e3:=Nd.cnts_mem hu;exact zN6 fun x' hx' y' _=>zUT N x' y' (by have:=Nd.cnts_mem hx'; omega)
theorem zYJ (a b:List Nd):DL a b=DL b a:=zN6 fun x _ y _=>zUT _ x y (Nat.le_refl _)
theorem zYj {a b:List Nd}{k:Nat} (h:Al a b k):(∀ x∈a,∀ y∈b,zBb x y=true->y.cnt<=x.cnt+D x y)->Nd.cnts b<=Nd.cnts a+k:=by
 induction h with
 | nil=>exact fun _=>Nat.le_refl _
 | del _ ih=>exact fun hd=>by have:=ih fun x hx=>hd x (List.mem_cons_of_mem _ hx); simp only[Nd.cnts]; omega
 | ins _ ih=>exact fun hd=>by have:=ih fun x hx y hy=>hd x hx y (List.mem_cons_of_mem _ hy); simp only[Nd.cnts]; omega
 | mat hal _ ih =>
   intro hd;have h1:=hd _ List.mem_cons_self _ List.mem_cons_self hal;have:=ih fun x hx y hy=>hd x (List.mem_cons_of_mem _ hx) y (List.mem_cons_of_mem _ hy)
   simp only[Nd.cnts]; omega
theorem zWB:∀ (us vs:List Nd),us.length=vs.length->(∀ u∈us,∀ v,Nd.cnts v<=Nd.cnts u.kids+DL u.kids v)->Nd.cnts vs<=Nd.cnts us+sumD DL us vs
 | [],[],_,_=>Nat.le_refl _
 | [],_::_,h,_=>by cases h
 | _::_,[],h,_=>by cases h
 | u::us,v::vs,hl,h=>by
  have h1:=h u List.mem_cons_self v.kids;have h2:=zWB us vs (by simpa using hl) fun u hu=>h u (List.mem_cons_of_mem _ hu)
  have e1:=u.cnt_kids;have e2:=v.cnt_kids;simp only[Nd.cnts,sumD]; omega
theorem zYK:∀ (N:Nat) (x y:Nd),x.cnt<=N->zBb x y=true->y.cnt<=x.cnt+D x y
 | 0,x,_,h,_=>by have:=x.cnt_pos; omega
 | N+1,x,y,h,hal=>by
  have e1:=x.cnt_kids;have e2:=y.cnt_kids;have:=zWB x.kids y.kids (zCH.1 hal).2.1 fun u hu v=>by
   have e2:=u.cnt_kids;have e3:=Nd.cnts_mem hu;exact zYj (zQf u.kids v) fun x' hx' y' _ ha'=>zYK N x' y' (by have:=Nd.cnts_mem hx'; omega) ha'
  rw[D_eq]; omega
theorem zLV:∀ (n:Nat){a b c:List Nd}{k l:Nat},a.length+b.length+c.length<=n->Al a b k->Al b c l ->
  (∀ x∈a,∀ y∈b,∀ z∈c,zBb x y=true->zBb y z=true->D x z<=D x y+D y z)->∃ m,m<=k+l/\Al a c m
 | n,_,_,_,_,_,hn,.nil,.nil,_=>⟨0,Nat.le_refl _,.nil⟩
 | 0,_,_,_,_,_,hn,.del _,_,_=>by simp at hn
 | 0,_,_,_,_,_,hn,.ins _,_,_=>by simp at hn
 | 0,_,_,_,_,_,hn,.mat _ _,_,_=>by simp at hn
 | 0,_,_,_,_,_,hn,.nil,.ins _,_=>by simp at hn
 | n+1,_,_,_,_,_,hn,.del h,h2,hd=>by
  obtain⟨m,hm,ha⟩:=zLV n (by simp only[List.length_cons]at hn; omega) h h2 fun x hx=>hd x (List.mem_cons_of_mem _ hx)
  exact⟨_,by omega,.del ha⟩
 | n+1,_,_,_,_,_,hn,h,.ins h2,hd=>by
  obtain⟨m,hm,ha⟩:=zLV n (by simp only[List.length_cons]at hn; omega) h h2 fun x hx y hy z hz=>hd x hx y hy z (List.mem_cons_of_mem _ hz)
  exact⟨_,by omega,.ins ha⟩
 | n+1,_,_,_,_,_,hn,.ins h,.del h2,hd=>by
  obtain⟨m,hm,ha⟩:=zLV n (by simp only[List.length_cons]at hn; omega) h h2 fun x hx y hy=>hd x hx y (List.mem_cons_of_mem _ hy)
  exact⟨m,by omega,ha⟩
 | n+1,_,_,_,_,_,hn,.ins h,.mat hal h2,hd=>by
  obtain⟨m,hm,ha⟩:=zLV n (by simp only[List.length_cons]at hn; omega) h h2 fun x hx y hy z hz=>hd x hx y (List.mem_cons_of_mem _ hy) z (List.mem_cons_of_mem _ hz)
  have:=zYK _ _ _ (Nat.le_refl _) hal;exact⟨_,by omega,.ins ha⟩
 | n+1,_,_,_,_,_,hn,.mat hal h,.del h2,hd=>by
  obtain⟨m,hm,ha⟩:=zLV n (by simp only[List.length_cons]at hn; omega) h h2 fun x hx y hy=>hd x (List.mem_cons_of_mem _ hx) y (List.mem_cons_of_mem _ hy)
  have:=zYK _ _ _ (Nat.le_refl _) (zOa hal)
  rw[zUT _ _ _ (Nat.le_refl _)]at this;exact⟨_,by omega,.del ha⟩
 | n+1,_,_,_,_,_,hn,.mat hal h,.mat hal2 h2,hd=>by
  obtain⟨m,hm,ha⟩:=zLV n (by simp only[List.length_cons]at hn; omega) h h2 fun x hx y hy z hz=>hd x (List.mem_cons_of_mem _ hx) y (List.mem_cons_of_mem _ hy) z (List.mem_cons_of_mem _ hz)
  have:=hd _ List.mem_cons_self _ List.mem_cons_self _ List.mem_cons_self hal hal2;exact⟨_,by omega,.mat (zSn hal hal2) ha⟩
theorem zQh {a b c:List Nd} (h:∀ x∈a,∀ y∈b,∀ z∈c,zBb x y=true->zBb y z=true->D x z<=D x y+D y z):DL a c<=DL a b+DL b c:=by
 obtain⟨m,hm,ha⟩:=zLV _ (Nat.le_refl _) (zQf a b) (zQf b c) h;exact Nat.le_trans (zKX ha) hm
theorem zWD:∀ (us vs ws:List Nd),us.length=vs.length->vs.length=ws.length->(∀ u∈us,∀ v w,DL u.kids w<=DL u.kids v+DL v w)->sumD DL us ws<=sumD DL us vs+sumD DL vs ws
 | [],[],[],_,_,_=>Nat.le_refl _
 | [],_::_,_,h,_,_=>by cases h
 | _::_,[],_,h,_,_=>by cases h
 | _,[],_::_,_,h,_=>by cases h
 | _,_::_,[],_,h,_=>by cases h
 | u::us,v::vs,w::ws,h1,h2,h=>by
  have g1:=h u List.mem_cons_self v.kids w.kids;have g2:=zWD us vs ws (by simpa using h1) (by simpa using h2) fun u hu=>h u (List.mem_cons_of_mem _ hu)
  simp only[sumD]; omega
theorem zZH:∀ (N:Nat) (x y z:Nd),x.cnt<=N->zBb x y=true->zBb y z=true->D x z<=D x y+D y z
 | 0,x,_,_,h,_,_=>by have:=x.cnt_pos; omega
 | N+1,x,y,z,h,h1,h2=>by
  have e1:=x.cnt_kids;have:=zZz x y z;have:=zWD x.kids y.kids z.kids (zCH.1 h1).2.1 (zCH.1 h2).2.1 fun u hu v w=>by
   have e2:=u.cnt_kids;have e3:=Nd.cnts_mem hu;exact zQh fun x' hx' y' _ z' _ g1 g2=>zZH N x' y' z' (by have:=Nd.cnts_mem hx'; omega) g1 g2
  rw[D_eq,D_eq,D_eq]; omega
theorem zZG (a b c:List Nd):DL a c<=DL a b+DL b c:=zQh fun x _ y _ z _=>zZH _ x y z (Nat.le_refl _)
theorem zCK {k:Int}:∀ {a:List Nd}{v:Nd},zBo k a=true->v∈a->zCJ v=true/\((v.kind == 1) == (k == 1))=false
 | u::a,v,h,hm=>by
  simp only[zBo,Bool.and_eq_true,Bool.not_eq_true']at h;rcases List.mem_cons.1 hm with rfl | hm
  ·exact⟨h.1.2,h.1.1⟩
  ·exact zCK h.2 hm
theorem zF4 {u:Nd} (h:zCJ u=true) (hk:u.kind=1):u = .mk 1 [] 0 u.kids/\zBo 1 u.kids=true:=by
 obtain⟨k,t,c,ks⟩:=u;simp only[Nd.kind]at hk;subst hk;simp only[zCJ,Bool.and_eq_true]at h;obtain⟨⟨h1,h2⟩,h3⟩:=h;have h1':(t == [])=true:=h1;have h2':((c == 0)&&decide ((ks.length:Int)<=200))=true:=h2;simp only[Bool.and_eq_true]at h2';rw[eq_of_beq h1',eq_of_beq h2'.1]
 exact⟨rfl,h3⟩
theorem zO0:∀ (a:List Nd),(∀ x∈a,D x x=0)->Al a a 0
 | [],_=>.nil
 | x::xs,h=>by
  have:=Al.mat (alike_refl x) (zO0 xs fun x hx=>h x (List.mem_cons_of_mem _ hx))
  rwa [h x List.mem_cons_self]at this
theorem zLR:∀ (us:List Nd),(∀ u∈us,DL u.kids u.kids=0)->sumD DL us us=0
 | [],_=>rfl
 | u::us,h=>by rw[sumD,h u List.mem_cons_self,zLR us fun u hu=>h u (List.mem_cons_of_mem _ hu)]
theorem zUS:∀ (N:Nat) (x:Nd),x.cnt<=N->D x x=0
 | 0,x,h=>by have:=x.cnt_pos; omega
 | N+1,x,h=>by
  have e1:=x.cnt_kids;rw[D_eq,zKd.2 rfl,zLR]
  intro u hu;have e2:=u.cnt_kids;have e3:=Nd.cnts_mem hu;exact Nat.le_zero.1 (zKX (zO0 u.kids fun x' hx'=>zUS N x' (by have:=Nd.cnts_mem hx'; omega)))
theorem zO2 (a:List Nd):DL a a=0:=Nat.le_zero.1 (zKX (zO0 a fun x _=>zUS _ x (Nat.le_refl _)))
theorem zRW {F:Nd->Nd->Option Bool}{a b:List Nd} (hF:∀ u∈a,∀ v∈b,∃ y,F u v=some y/\(y=true↔u=v)) (hl:a.length=b.length) (hb:a.length<=1073741824) :
  ∀ (q i:Nat),a.length - i<q->i<=a.length->∃ y,zBG F a b q (i:Int)=some (if y then .go () else .ret false)/\(y=true↔a.drop i=b.drop i)
 | 0,_,h,_=>by omega
 | q+1,i,hq,hi=>by
  unfold zBG
  by_cases h:i<a.length
  ·have h':i<b.length :=(by omega);rw[zBs (Int.ofNat_lt.2 h),cond_true,zBJ h,zBJ h']
   obtain⟨y,f1,f2⟩:=hF _ (List.getElem_mem h) _ (List.getElem_mem h')
   have d1:=List.drop_eq_getElem_cons h;have d2:=List.drop_eq_getElem_cons h';rcases e:a[i] with ⟨x1,x2,x3,x4⟩
   rcases e':b[i] with ⟨y1,y2,y3,y4⟩
   rw[e,e']at f1 f2;rw[e]at d1;rw[e']at d2;simp only[obs,f1]
   cases y with
   | false =>
    refine⟨false,rfl,⟨(fun h=>by cases h),fun h=>?_⟩⟩
    rw[d1,d2]at h;exact f2.2 (List.cons.inj h).1
   | true =>
    simp only[Bool.not_true,cond_false]
    rw[zAP (by omega)]
    obtain⟨z,g1,g2⟩:=zRW hF hl hb q (i+1) (by omega) (by omega)
    refine⟨z,g1,?_⟩
    rw[d1,d2,g2,f2.1 rfl]
    simp
  ·rw[zBn (by omega),cond_false]
   obtain rfl:i=a.length :=(by omega);refine⟨true,rfl,?_⟩
   rw[List.drop_length,hl,List.drop_length]
   simp
theorem zO3:∀ N:Nat,(∀ x y:Nd,2 * x.cnt<N->x.cnt<=67108864->∃ r,zCj N x y=some r/\(r=true↔x=y)) /\
  (∀ a b:List Nd,2 * Nd.cnts a+1<N->Nd.cnts a<=67108864->∃ r,zCM N a b=some r/\(r=true↔a=b))
 | 0=>⟨fun _ _ h _=>by omega,fun _ _ h _=>by omega⟩
 | n+1=>by
  obtain⟨ih1,ih2⟩:=zO3 n;refine⟨fun x y h hx=>?_,fun a b h ha=>?_⟩
  ·obtain⟨a,b,c,d⟩:=x;obtain⟨a',b',c',d'⟩:=y;simp only[Nd.cnt]at h hx;obtain⟨r,h1,h2⟩:=ih2 d d' (by omega) (by omega)
   unfold zCj;simp only[h1,obs]
   cases e1:a == a' with
   | false=>exact⟨false,rfl,⟨(fun h=>by cases h),fun h=>by cases h; simp at e1⟩⟩
   | true =>
    cases e2:b == b' with
    | false=>exact⟨false,rfl,⟨(fun h=>by cases h),fun h=>by cases h; simp at e2⟩⟩
    | true =>
     cases e3:c == c' with
     | false=>exact⟨false,rfl,⟨(fun h=>by cases h),fun h=>by cases h; simp at e3⟩⟩
     | true =>
      refine⟨r,rfl,h2.trans ⟨fun h=>?_,fun h=>by cases h; rfl⟩⟩
      rw[eq_of_beq e1,eq_of_beq e2,eq_of_beq e3,h]
  ·unfold zCM;have l1:=Nd.cnts_len a
   by_cases hl:a.length=b.length
   ·obtain⟨y,g1,g2⟩:=zRW (F:=zCj n) (a:=a) (b:=b) (fun u hu v _=>ih1 u v (by have:=Nd.cnts_mem hu; omega) (by have:=Nd.cnts_mem hu; omega)) hl (by omega) n 0 (by omega) (by omega)
    rw[show((0:Nat):Int)=0 from rfl]at g1;rw[hl,bne_self_eq_false,cond_false,g1]
    refine⟨y,by cases y <;> rfl,g2⟩
   ·have:((a.length:Int) != (b.length:Int))=true:=by
     unfold bne;rw[zDq (by omega)]; rfl
    rw[this]
    exact⟨false,rfl,⟨(fun h=>by cases h),fun h=>absurd (congrArg List.length h) hl⟩⟩
theorem zFR {x:Nd} (h:zAA x=true):x = .mk 1 [] 0 x.kids/\zBo 1 x.kids=true:=by
 unfold zAA at h;simp only[Bool.and_eq_true]at h;exact zF4 h.2.1 (eq_of_beq h.1)
theorem zOz {F:Nd->Nd->Option Bool}{a b:List Nd} (hF:∀ u∈a,∀ v∈b,∃ y,F u v=some y/\(y=true↔u=v)) (hl:a.length=b.length) (hb:a.length<=1073741824) :
  ∀ (q i:Nat),a.length - i<q->i<=a.length->∃ y,zAJ F a b q (i:Int)=some (if y then .go () else .ret false)/\(y=true↔a.drop i=b.drop i)
 | 0,_,h,_=>by omega
 | q+1,i,hq,hi=>by
  unfold zAJ
  by_cases h:i<a.length
  ·have h':i<b.length :=(by omega);rw[zBs (Int.ofNat_lt.2 h),cond_true,zBJ h,zBJ h']
   obtain⟨y,f1,f2⟩:=hF _ (List.getElem_mem h) _ (List.getElem_mem h')
   have d1:=List.drop_eq_getElem_cons h;have d2:=List.drop_eq_getElem_cons h';rcases e:a[i] with ⟨x1,x2,x3,x4⟩
   rcases e':b[i] with ⟨y1,y2,y3,y4⟩
   rw[e,e']at f1 f2;rw[e]at d1;rw[e']at d2;simp only[obs,f1]
   cases y with
   | false =>
    refine⟨false,rfl,⟨(fun h=>by cases h),fun h=>?_⟩⟩
    rw[d1,d2]at h;exact f2.2 (List.cons.inj h).1
   | true =>
    simp only[Bool.not_true,cond_false]
    rw[zAP (by omega)]
    obtain⟨z,g1,g2⟩:=zOz hF hl hb q (i+1) (by omega) (by omega)
    refine⟨z,g1,?_⟩
    rw[d1,d2,g2,f2.1 rfl]
    simp
  ·rw[zBn (by omega),cond_false]
   obtain rfl:i=a.length :=(by omega);refine⟨true,rfl,?_⟩
   rw[List.drop_length,hl,List.drop_length]
   simp
theorem zGX:∀ N:Nat,(∀ x y:Nd,2 * x.cnt<N->x.cnt<=67108864->∃ r,zCa N x y=some r/\(r=true↔x=y)) /\
  (∀ a b:List Nd,2 * Nd.cnts a+1<N->Nd.cnts a<=67108864->∃ r,zAX N a b=some r/\(r=true↔a=b))
 | 0=>⟨fun _ _ h _=>by omega,fun _ _ h _=>by omega⟩
 | n+1=>by
  obtain⟨ih1,ih2⟩:=zGX n;refine⟨fun x y h hx=>?_,fun a b h ha=>?_⟩
  ·obtain⟨a,b,c,d⟩:=x;obtain⟨a',b',c',d'⟩:=y;simp only[Nd.cnt]at h hx;obtain⟨r,h1,h2⟩:=ih2 d d' (by omega) (by omega)
   unfold zCa;simp only[h1,obs]
   cases e1:a == a' with
   | false=>exact⟨false,rfl,⟨(fun h=>by cases h),fun h=>by cases h; simp at e1⟩⟩
   | true =>
    cases e2:b == b' with
    | false=>exact⟨false,rfl,⟨(fun h=>by cases h),fun h=>by cases h; simp at e2⟩⟩
    | true =>
     cases e3:c == c' with
     | false=>exact⟨false,rfl,⟨(fun h=>by cases h),fun h=>by cases h; simp at e3⟩⟩
     | true =>
      refine⟨r,rfl,h2.trans ⟨fun h=>?_,fun h=>by cases h; rfl⟩⟩
      rw[eq_of_beq e1,eq_of_beq e2,eq_of_beq e3,h]
  ·unfold zAX;have l1:=Nd.cnts_len a
   by_cases hl:a.length=b.length
   ·obtain⟨y,g1,g2⟩:=zOz (F:=zCa n) (a:=a) (b:=b) (fun u hu v _=>ih1 u v (by have:=Nd.cnts_mem hu; omega) (by have:=Nd.cnts_mem hu; omega)) hl (by omega) n 0 (by omega) (by omega)
    rw[show((0:Nat):Int)=0 from rfl]at g1;rw[hl,bne_self_eq_false,cond_false,g1]
    refine⟨y,by cases y <;> rfl,g2⟩
   ·have:((a.length:Int) != (b.length:Int))=true:=by
     unfold bne;rw[zDq (by omega)]; rfl
    rw[this]
    exact⟨false,rfl,⟨(fun h=>by cases h),fun h=>absurd (congrArg List.length h) hl⟩⟩
theorem zXz (a b:Nat):Nat.max a b=if a<=b then b else a:=rfl
theorem zPp:∀ {ks:List Nd}{v:Nd},v∈ks->v.dep<=Nd.deps ks
 | u::ks,v,h=>by
  simp only[Nd.deps,zXz]
  rcases List.mem_cons.1 h with rfl | h
  ·split <;> omega
  ·have:=zPp h; split <;> omega
def rowS (t:Nd) (p:List Int):Nd×Int:=if zAA t=true then (match zCx t p with | some r=>(r,0) | none=>(zDt,8)) else (zDt,1)
theorem zQ6:∀ (N:Nat) (p:List Int) (t r:Nd),p.length<N->zCx t p=some r->r.w<=t.w/\r.cnt<=t.cnt
 | 0,p,_,_,h,_=>by omega
 | N+1,[],t,r,_,h=>by
  rw[zCx]at h;cases h;exact⟨Nat.le_refl _,Nat.le_refl _⟩
 | N+1,[_],t,r,_,h=>by
  rw[zCx]at h;cases h
 | N+1,i::s::p,.mk k tx c ks,r,hN,h=>by
  rw[zCx]at h;split at h
  ·rename_i hi
   replace hi:0<=i/\i<ks.length:=hi;have hi0:i.toNat<ks.length :=(by omega);have hx:ks[i.toNat]? = some ks[i.toNat]:=List.getElem?_eq_getElem hi0;generalize ks[i.toNat]=x at hx;obtain⟨k2,tx2,c2,ks2⟩:=x;simp only[Nd.kids,List.getD_eq_getElem?_getD,hx,Option.getD_some]at h;split at h
   ·rename_i hs
    have hs0:s.toNat<ks2.length :=(by omega);have hz:ks2[s.toNat]? = some ks2[s.toNat]:=List.getElem?_eq_getElem hs0;generalize ks2[s.toNat]=z at hz;rw[hz,Option.getD_some]at h;obtain⟨q1,q2⟩:=zQ6 N p z r (by simp only[List.length_cons]at hN; omega) h;have m1:=Nd.w_mem (List.mem_of_getElem? hx)
    have m2:=Nd.w_mem (List.mem_of_getElem? hz)
    have n1:=Nd.cnts_mem (List.mem_of_getElem? hx)
    have n2:=Nd.cnts_mem (List.mem_of_getElem? hz)
    simp only[Nd.w,Nd.cnt]at m1 m2 n1 n2 ⊢
    omega
   ·cases h
  ·cases h
theorem zIP {t:Nd} (h:t.cnt<=1000000000):zBK t=some t:=zCs h
theorem zSK (n:Nat) (t:Nd) (p:List Int) (hv:zA2 n t=some (zAA t)) (hc:t.cnt<=1000000000):zGC n t p=some (rowS t p):=by
 unfold zGC rowS;rw[hv]
 simp only[obs]
 split
 ·cases hf:zCx t p with
  | none=>rfl
  | some r =>
   have:=(zQ6 _ p t r (Nat.lt_succ_self _) hf).2;simp only[zIP (Nat.le_trans this hc),obs]
 ·rfl
inductive Fd:Nd->List Int->Nd->Prop
 | nil (t:Nd):Fd t [] t
 | step {k:Int} {tx:List UInt8} {c:Int} {ks:List Nd} {i:Nat} {k2:Int} {tx2:List UInt8} {c2:Int} {ks2:List Nd} {s:Nat} {z r:Nd} {p:List Int}
   (hi:ks[i]? = some (.mk k2 tx2 c2 ks2)) (hs:ks2[s]? = some z) (h:Fd z p r):Fd (.mk k tx c ks) ((i:Int)::(s:Int)::p) r
theorem Fd.find {t r:Nd}{p:List Int} (h:Fd t p r):zCx t p=some r:=by
 induction h with
 | nil t=>rw[zCx]
 | @step k tx c ks i k2 tx2 c2 ks2 s z r p hi hs _ ih =>
  have hl:=(List.getElem?_eq_some_iff.1 hi).1;have hl2:=(List.getElem?_eq_some_iff.1 hs).1;rw[zCx,if_pos ⟨by omega,show(i:Int)<(ks.length:Int) by omega⟩]
  simp only[Nd.kids,List.getD_eq_getElem?_getD,Int.toNat_natCast,hi,hs,Option.getD_some]
  rw[if_pos ⟨by omega,show(s:Int)<(ks2.length:Int) by omega⟩]
  exact ih
theorem Fd.of:∀ (N:Nat) (p:List Int) (t r:Nd),p.length<N->zCx t p=some r->Fd t p r
 | 0,p,_,_,h,_=>by omega
 | N+1,[],t,r,_,h=>by
  rw[zCx]at h;cases h;exact .nil t
 | N+1,[_],t,r,_,h=>by
  rw[zCx]at h;cases h
 | N+1,i::s::p,.mk k tx c ks,r,hN,h=>by
  rw[zCx]at h;split at h
  ·rename_i hi
   replace hi:0<=i/\i<ks.length:=hi;obtain⟨i,rfl⟩:=Int.eq_ofNat_of_zero_le hi.1;have hx:ks[i]? = some ks[i]:=List.getElem?_eq_getElem (by omega)
   generalize ks[i]=x at hx;obtain⟨k2,tx2,c2,ks2⟩:=x;simp only[Nd.kids,List.getD_eq_getElem?_getD,Int.toNat_natCast,hx,Option.getD_some]at h;split at h
   ·rename_i hs
    obtain⟨s,rfl⟩:=Int.eq_ofNat_of_zero_le hs.1;have hz:ks2[s]? = some ks2[s]:=List.getElem?_eq_getElem (by omega)
    generalize ks2[s]=z at hz;rw[Int.toNat_natCast,hz,Option.getD_some]at h;exact .step hx hz (Fd.of N p z r (by simp only[List.length_cons]at hN; omega) h)
   ·cases h
  ·cases h
theorem zZZ {p:List Int}{t r:Nd} (h:zCx t p=some r):Fd t p r:=Fd.of _ p t r (Nat.lt_succ_self _) h
theorem zC8 {t r:Nd}:putL t [] r=r:=by cases t; rw[putL]; intros; contradiction
theorem zCd {k:Int}{tx:List UInt8}{c:Int}{ks:List Nd}{i:Nat}{k2:Int}{tx2:List UInt8}{c2:Int}{ks2:List Nd}{s:Nat}{z r:Nd}{p:List Int} (hi:ks[i]? = some (.mk k2 tx2 c2 ks2)) (hs:ks2[s]? = some z) :
  putL (.mk k tx c ks) ((i:Int)::(s:Int)::p) r = .mk k tx c (ks.set i (.mk k2 tx2 c2 (ks2.set s (putL z p r)))):=by
 rw[putL,Int.toNat_natCast,hi]
 dsimp only;rw[Int.toNat_natCast,hs]
theorem zNx:∀ {ks:List Nd}{i:Nat}{x y:Nd},ks[i]? = some x->Nd.ws (ks.set i y)+x.w=Nd.ws ks+y.w
 | [],i,x,y,h=>by simp at h
 | v::ks,0,x,y,h=>by
  obtain rfl:v=x :=(by simpa using h);simp only[List.set_cons_zero,Nd.ws]; omega
 | v::ks,i+1,x,y,h=>by
  have:=zNx (ks:=ks) (i:=i) (x:=x) (y:=y) (by simpa using h)
  simp only[List.set_cons_succ,Nd.ws]; omega
theorem zMy:∀ {ks:List Nd}{i:Nat}{x y:Nd},ks[i]? = some x->Nd.cnts (ks.set i y)+x.cnt=Nd.cnts ks+y.cnt
 | [],i,x,y,h=>by simp at h
 | v::ks,0,x,y,h=>by
  obtain rfl:v=x :=(by simpa using h);simp only[List.set_cons_zero,Nd.cnts]; omega
 | v::ks,i+1,x,y,h=>by
  have:=zMy (ks:=ks) (i:=i) (x:=x) (y:=y) (by simpa using h)
  simp only[List.set_cons_succ,Nd.cnts]; omega
theorem Fd.w {t z:Nd}{p:List Int} (h:Fd t p z) (r:Nd):(putL t p r).w+z.w=t.w+r.w:=by
 induction h with
 | nil t=>rw[zC8]; omega
 | @step k tx c ks i k2 tx2 c2 ks2 s z r' p hi hs _ ih =>
  rw[zCd hi hs]
  have h1:=zNx (y:=.mk k2 tx2 c2 (ks2.set s (putL z p r))) hi;have h2:=zNx (y:=putL z p r) hs;simp only[Nd.w]at *
  omega
theorem Fd.cnt {t z:Nd}{p:List Int} (h:Fd t p z) (r:Nd):(putL t p r).cnt+z.cnt=t.cnt+r.cnt:=by
 induction h with
 | nil t=>rw[zC8]; omega
 | @step k tx c ks i k2 tx2 c2 ks2 s z r' p hi hs _ ih =>
  rw[zCd hi hs]
  have h1:=zMy (y:=.mk k2 tx2 c2 (ks2.set s (putL z p r))) hi;have h2:=zMy (y:=putL z p r) hs;simp only[Nd.cnt]at *
  omega
theorem zRY {α:Type}{l:List α}{i:Nat}{x y:α} (h:l[i]? = some x):(l.set i y)[i]? = some y:=by
 rw[List.getElem?_set,if_pos rfl,if_pos (List.getElem?_eq_some_iff.1 h).1]
theorem zLN {α:Type}{l:List α}{i:Nat}{x y:α} (h:l[i]? = some x):(l.set i y).set i x=l:=by
 refine List.ext_getElem? fun j=>?_
 rw[List.set_set,List.getElem?_set]
 split
 ·rename_i e
  subst e;rw[if_pos (List.getElem?_eq_some_iff.1 h).1,h]
 ·rfl
theorem Fd.put {t z:Nd}{p:List Int} (h:Fd t p z) (r:Nd):Fd (putL t p r) p r:=by
 induction h with
 | nil t=>rw[zC8]; exact .nil r
 | @step k tx c ks i k2 tx2 c2 ks2 s z r' p hi hs _ ih =>
  rw[zCd hi hs]
  exact .step (zRY hi) (zRY hs) ih
theorem Fd.put_put {t z:Nd}{p:List Int} (h:Fd t p z) (r q:Nd):putL (putL t p r) p q=putL t p q:=by
 induction h with
 | nil t=>simp only[zC8]
 | @step k tx c ks i k2 tx2 c2 ks2 s z r' p hi hs _ ih =>
  rw[zCd hi hs,zCd hi hs,zCd (zRY hi) (zRY hs),ih]
  simp only[List.set_set]
theorem Fd.put_self {t z:Nd}{p:List Int} (h:Fd t p z):putL t p z=t:=by
 induction h with
 | nil t=>rw[zC8]
 | @step k tx c ks i k2 tx2 c2 ks2 s z r' p hi hs _ ih =>
  rw[zCd hi hs,ih]
  have e1:ks2.set s z=ks2:=by
   have:=zLN (y:=z) hs
   rwa [List.set_set]at this
  have e2:ks.set i (.mk k2 tx2 c2 ks2)=ks:=by
   have:=zLN (y:=.mk k2 tx2 c2 ks2) hi
   rwa [List.set_set]at this
  rw[e1,e2]
theorem Fd.back {t z:Nd}{p:List Int} (h:Fd t p z) (r:Nd):putL (putL t p r) p z=t:=by rw[h.put_put,h.put_self]
theorem zEf:∀ {ks:List Nd}{v:Nd},v∈ks->v.dep<=Nd.deps ks
 | u::ks,v,h=>by
  simp only[Nd.deps]
  rcases List.mem_cons.1 h with rfl | h
  ·exact Nat.le_max_left _ _
  ·exact Nat.le_trans (zEf h) (Nat.le_max_right _ _)
theorem zFA {k:Int}{tx:List UInt8}{c:Int}{ks:List Nd} (h:zCJ (.mk k tx c ks)=true):zBo k ks=true:=by
 simp only[zCJ,Bool.and_eq_true]at h;exact h.2
theorem Fd.form {t z:Nd}{p:List Int} (h:Fd t p z) (hf:zCJ t=true) (hk:t.kind=1):zCJ z=true/\z.kind=1:=by
 induction h with
 | nil t=>exact⟨hf,hk⟩
 | @step k tx c ks i k2 tx2 c2 ks2 s z r' p hi hs _ ih =>
  obtain⟨f1,f2⟩:=zCK (zFA hf) (List.mem_of_getElem? hi)
  obtain⟨g1,g2⟩:=zCK (zFA f1) (List.mem_of_getElem? hs)
  have hk:k=1:=hk;subst hk;have f3:(k2 == 1)=false :=(by simpa [Nd.kind] using f2);rw[f3]at g2;refine ih g1 ?_;cases e:z.kind == 1 with
  | true=>exact eq_of_beq e
  | false=>rw[e]at g2; cases g2
theorem Fd.small {t z:Nd}{p:List Int} (h:Fd t p z):z.cnt<=t.cnt/\z.dep<=t.dep/\z.w<=t.w:=by
 induction h with
 | nil t=>exact⟨Nat.le_refl _,Nat.le_refl _,Nat.le_refl _⟩
 | @step k tx c ks i k2 tx2 c2 ks2 s z r' p hi hs _ ih =>
  have m1:=Nd.w_mem (List.mem_of_getElem? hi)
  have m2:=Nd.w_mem (List.mem_of_getElem? hs)
  have n1:=Nd.cnts_mem (List.mem_of_getElem? hi)
  have n2:=Nd.cnts_mem (List.mem_of_getElem? hs)
  have d1:=zEf (List.mem_of_getElem? hi)
  have d2:=zEf (List.mem_of_getElem? hs)
  simp only[Nd.w,Nd.cnt,Nd.dep]at *
  omega
theorem Fd.valid {t z:Nd}{p:List Int} (h:Fd t p z) (hv:zAA t=true):zAA z=true:=by
 unfold zAA at hv ⊢;simp only[Bool.and_eq_true,decide_eq_true_eq]at hv ⊢;obtain⟨h1,h2,h3,h4⟩:=hv;obtain⟨f1,f2⟩:=h.form h2 (eq_of_beq h1)
 obtain⟨s1,s2,_⟩:=h.small;exact⟨by rw[f2]; rfl,f1,by omega,by omega⟩
theorem zU3 {α:Type}{l:List α}{i:Nat}{x:α} (h:l[i]? = some x):at? l (i:Int)=some x:=by
 have hl:=(List.getElem?_eq_some_iff.1 h).1;rw[zBJ hl,← List.getElem?_eq_getElem hl,h]
def zS5 (t:Nd) (p:List Int) (r:Nd):Nd×Int:=if zAA t=true then (match zCx t p with
 | some _=>if zAA r=true then (if zAA (putL t p r)=true then (putL t p r,0) else (zDt,6)) else (zDt,4)
 | none=>(zDt,8)) else (zDt,1)
theorem zRv (n:Nat) (t:Nd) (p:List Int) (r:Nd) (hv:zA2 n t=some (zAA t)) (hr:zA2 n r=some (zAA r)) (hp:∀ z,Fd t p z->zA2 n (putL t p r)=some (zAA (putL t p r))) (hc:t.cnt<=1000000000) (hcr:r.cnt<=1000000000) :
  zEH n t p r=some (zS5 t p r):=by
 unfold zEH zS5;rw[hv,zIP hc,hr,zIP hcr]
 simp only[obs]
 split
 ·cases hf:zCx t p with
  | none=>rfl
  | some z =>
   dsimp only;rw[hp z (zZZ hf)]
   simp only[obs]
   split
   ·split <;> rfl
   ·rfl
 ·rfl
theorem zYe {t z r:Nd}{p:List Int} (hv:zAA t=true) (h:zCx t p=some z) (hr:zAA r=true) (hp:zAA (putL t p r)=true):zS5 t p r=(putL t p r,0):=by unfold zS5; rw[if_pos hv,h]; dsimp only; rw[if_pos hr,if_pos hp]
abbrev Op8:=Int×List Int×Int×Int×List Nd×Int×List UInt8×List UInt8
def Op8.nodes (o:Op8):List Nd:=o.2.2.2.2.1
theorem zYL (x:Nd):D x x=0:=zUS _ x (Nat.le_refl _)
theorem zLy (a:List Nd):Al a a 0:=zO0 a fun x _=>zYL x
theorem zLU {a b c d:List Nd}{k l:Nat} (h:Al a b k) (h2:Al c d l):Al (a++c) (b++d) (k+l):=by
 induction h with
 | nil=>simpa using h2
 | del _ ih=>rw[Nat.add_assoc]; exact .del ih
 | ins _ ih=>rw[Nat.add_assoc]; exact .ins ih
 | mat hal _ ih=>rw[Nat.add_assoc]; exact .mat hal ih
theorem zN5:∀ a:List Nd,Al a [] (Nd.cnts a)
 | []=>.nil
 | x::xs=>.del (zN5 xs)
theorem take3 {α:Type} (l:List α){p q:Nat} (h:p<=q):(l.take p++(l.take q).drop p)++l.drop q=l:=by
 have:l.take p=(l.take q).take p :=(by rw[List.take_take,Nat.min_eq_left h]);rw[this,List.take_append_drop,List.take_append_drop]
theorem zLW (l by':List Nd){p q k:Nat} (h:p<=q) (hk:Al ((l.take q).drop p) by' k):DL l ((l.take p++by')++l.drop q)<=k:=by
 have:=zLU (zLU (zLy (l.take p)) hk) (zLy (l.drop q))
 rw[take3 l h]at this;have:=zKX this
 omega
theorem zR8 (l by':List Nd){p q:Nat} (h:p<=q):Nd.ws ((l.take p++by')++l.drop q)+Nd.ws ((l.take q).drop p)=Nd.ws l+Nd.ws by':=by
 have:=congrArg Nd.ws (take3 l h)
 rw[Nd.ws_append,Nd.ws_append]at this ⊢
 omega
theorem zWC:∀ {us:List Nd}{j:Nat} (h:j<us.length) (v:Nd),sumD DL us (us.set j v)=DL us[j].kids v.kids
 | x::xs,0,_,v=>by rw[List.set_cons_zero,sumD,zLR xs fun u _=>zO2 u.kids]; rfl
 | x::xs,i+1,h,v=>by
  rw[List.set_cons_succ,sumD,zWC (us:=xs) (j:=i) (by simpa using h) v,zO2]; simp
theorem zZF {l:List Nd}{i:Nat} (h:i<l.length) (v:Nd) (hal:zBb l[i] v=true):DL l (l.set i v)<=D l[i] v:=by
 have h1:=zLU (zLy (l.take i)) (Al.mat hal (zLy (l.drop (i+1))))
 rw[← List.drop_eq_getElem_cons h,List.take_append_drop]at h1;have h2:=zKX h1;rw[List.set_eq_take_append_cons_drop,if_pos h]
 omega
theorem zZO {α:Type}{l:List α}{i:Int} (h0:0<=i) (h1:i<(l.length:Int)):∃ p:Nat,i=(p:Int)/\∃ h:p<l.length,at? l i=some l[p]:=by
 obtain⟨p,rfl⟩:=Int.eq_ofNat_of_zero_le h0;exact⟨p,rfl,by omega,zBJ (by omega)⟩
theorem zID (t:Nd):t.w=t.text.length+Nd.ws t.kids+1:=by cases t; rfl
def Fits (k:Int) (nodes:List Nd) (text:List UInt8) (a l:List Nd):Prop :=
 Nd.ws l<=Nd.ws a+Nd.ws nodes+text.length+3/\((k=1∨k=2)->DL a l<=Nd.cnts nodes)/\(k=5->DL a l<=1)
theorem yAe (l:List Nd){p q:Nat} (h:p<=q):Nd.ws ((l.take q).drop p)<=Nd.ws l:=by
 have:=zR8 l [] h;simp only[Nd.ws]at this; omega
theorem zP8 (l:List Nd){p:Nat} (h:p<l.length):(l.take (p+1)).drop p=[l[p]]:=by
 rw[List.take_succ_eq_append_getElem h,List.drop_append_of_le_length (by simp; omega),List.drop_take]
 simp
def splS (l:List Nd) (p q:Nat) (b:List Nd):List Nd:=(l.take p++b)++l.drop q
def segS (l:List Nd) (p q:Nat):List Nd:=(l.take q).drop p
def rowN (l:List Nd):Nd:=.mk 1 [] 0 l
def zIR (v:Nd) (s:Nat) (l:List Nd):Nd:=.mk v.kind v.text v.cols (v.kids.set s (rowN l))
def zSE (k:Int):Bool:=(k == 2)||((k == 3)||((k == 4)||((k == 10)||(k == 11))))
def zEs (k m:Int) (nodes:List Nd):Int:=if k=1 then 0 else if k=2 then nodes.length else if k=3 then m else 1
def zU0 (nodes:List Nd) (slot:Int):Prop:=∃ (v:Nd) (s:Nat) (z:Nd),nodes=[v]/\slot=(s:Int)/\zAA (rowN [v])=true/\v.kids[s]? = some z/\z.kids=[]
def FormP:Op8->Prop
 | (k,_,_,m,nodes,slot,old,text) =>
  ((k=1∨k=2)/\nodes ≠ []/\zAA (rowN nodes)=true/\m=0/\slot=0/\old=[]/\text=[]) ∨
  ((k=3∨k=4)/\0<=m/\zU0 nodes slot/\old=[]/\text=[]) ∨
  (k=5/\old ≠ text/\nodes=[]/\m=0/\slot=0)
inductive Chg (l:List Nd):Op8->List Nd->Int->Prop
 | range {k:Int} {row:List Int} {a m:Int} {nodes:List Nd} {slot:Int} {old text:List UInt8} (h:a<0∨(l.length:Int)<a∨(l.length:Int) - a<zEs k m nodes):Chg l (k,row,a,m,nodes,slot,old,text) [] 2
 | ins {row:List Int} {p:Nat} {m:Int} {nodes:List Nd} {slot:Int} {old text:List UInt8} (h:p<=l.length):Chg l (1,row,(p:Int),m,nodes,slot,old,text) (splS l p p nodes) 0
 | del {row:List Int} {p:Nat} {m:Int} {nodes:List Nd} {slot:Int} {old text:List UInt8} (h:p+nodes.length<=l.length) (he:segS l p (p+nodes.length)=nodes):Chg l (2,row,(p:Int),m,nodes,slot,old,text) (splS l p (p+nodes.length) []) 0
 | del_no {row:List Int} {p:Nat} {m:Int} {nodes:List Nd} {slot:Int} {old text:List UInt8} (h:p+nodes.length<=l.length) (he:segS l p (p+nodes.length) ≠ nodes):Chg l (2,row,(p:Int),m,nodes,slot,old,text) [] 7
 | wrap {row:List Int} {p m:Nat} {v:Nd} {s:Nat} {old text:List UInt8} (h:p+m<=l.length):Chg l (3,row,(p:Int),(m:Int),[v],(s:Int),old,text) (splS l p (p+m) [zIR v s (segS l p (p+m))]) 0
 | unwrap {row:List Int} {p:Nat} {m:Int} {v it z:Nd} {s:Nat} {old text:List UInt8} (h:l[p]? = some it) (hz:it.kids[s]? = some z) (hm:(z.kids.length:Int)=m) (he:it=zIR v s z.kids):Chg l (4,row,(p:Int),m,[v],(s:Int),old,text) (splS l p (p+1) z.kids) 0
 | unwrap_no {row:List Int} {p:Nat} {m:Int} {v it:Nd} {s:Nat} {old text:List UInt8} (h:l[p]? = some it) (hz:∀ z,it.kids[s]? = some z->(z.kids.length:Int)=m->it ≠ zIR v s z.kids):Chg l (4,row,(p:Int),m,[v],(s:Int),old,text) [] 7
 | set {row:List Int} {p:Nat} {m:Int} {nodes:List Nd} {it:Nd} {slot:Int} {old text:List UInt8} (h:l[p]? = some it) (hl:zSE it.kind=true) (he:it.text=old):Chg l (5,row,(p:Int),m,nodes,slot,old,text) (splS l p (p+1) [.mk it.kind text it.cols it.kids]) 0
 | set_no {row:List Int} {p:Nat} {m:Int} {nodes:List Nd} {it:Nd} {slot:Int} {old text:List UInt8} (h:l[p]? = some it) (hl:¬ (zSE it.kind=true/\it.text=old)):Chg l (5,row,(p:Int),m,nodes,slot,old,text) [] 7
inductive App (t:Nd):Op8->Nd->Int->Prop
 | arg {o:Op8} (h:zAA t=false):App t o zDt 1
 | form {o:Op8} (h:zAA t=true) (hf:¬ FormP o):App t o zDt 4
 | none {o:Op8} (h:zAA t=true) (hf:FormP o) (hn:zCx t o.2.1=Option.none):App t o zDt 8
 | chg {o:Op8} {r:Nd} {l:List Nd} {e:Int} (h:zAA t=true) (hf:FormP o) (hr:Fd t o.2.1 r) (hc:Chg r.kids o l e) (he:e ≠ 0):App t o zDt e
 | limit {o:Op8} {r:Nd} {l:List Nd} (h:zAA t=true) (hf:FormP o) (hr:Fd t o.2.1 r) (hc:Chg r.kids o l 0) (hv:zAA (putL t o.2.1 (rowN l))=false):App t o zDt 6
 | ok {o:Op8} {r:Nd} {l:List Nd} (h:zAA t=true) (hf:FormP o) (hr:Fd t o.2.1 r) (hc:Chg r.kids o l 0) (hv:zAA (putL t o.2.1 (rowN l))=true):App t o (putL t o.2.1 (rowN l)) 0
theorem Chg.w {l l':List Nd}{k:Int}{row:List Int}{a m:Int}{nodes:List Nd}{slot:Int}{old text:List UInt8}{e:Int} (h:Chg l (k,row,a,m,nodes,slot,old,text) l' e):Nd.ws l'<=Nd.ws l+Nd.ws nodes+text.length+3/\l'.length<=l.length+Nd.ws nodes+Nd.ws l+1:=by
 have key:∀ p q b,p<=q->Nd.ws (splS l p q b)+Nd.ws (segS l p q)=Nd.ws l+Nd.ws b:=fun p q b h=>zR8 l b h
 have hlen:∀ l':List Nd,l'.length<=Nd.ws l':=Nd.ws_len
 have h1:Nd.ws l'<=Nd.ws l+Nd.ws nodes+text.length+3:=by
  cases h with
  | range=>simp only[Nd.ws]; omega
  | @ins _ p _ _ _ _ _ h=>have:=key p p nodes (Nat.le_refl _); omega
  | @del _ p _ _ _ _ _ h he=>have:=key p (p+nodes.length) [] (Nat.le_add_right _ _); simp only[Nd.ws]at this; omega
  | del_no=>simp only[Nd.ws]; omega
  | @wrap _ p m v s _ _ h =>
   have:=key p (p+m) [zIR v s (segS l p (p+m))] (Nat.le_add_right _ _)
   have hf:(zIR v s (segS l p (p+m))).w<=v.w+Nd.ws (segS l p (p+m))+1:=by
    rw[zID v]
    simp only[zIR,rowN,Nd.w]
    by_cases hs:s<v.kids.length
    ·have:=zNx (ks:=v.kids) (i:=s) (y:=.mk 1 [] 0 (segS l p (p+m))) (List.getElem?_eq_getElem hs)
     simp only[Nd.w,List.length_nil]at this
     omega
    ·rw[List.set_eq_of_length_le (by omega)]; omega
   simp only[Nd.ws]at this ⊢
   omega
  | @unwrap _ p _ v it z s _ _ h hz hm he =>
   have:=key p (p+1) z.kids (Nat.le_add_right _ _)
   have hsg:segS l p (p+1)=[it]:=by
    have:=zP8 l (List.getElem?_eq_some_iff.1 h).1;rw[segS,this,(List.getElem?_eq_some_iff.1 h).2]
   have w1:=Nd.w_mem (List.mem_of_getElem? hz)
   have w2:=zID z;have w3:=zID it;rw[hsg]at this;simp only[Nd.ws]at this
   omega
  | unwrap_no=>simp only[Nd.ws]; omega
  | @set _ p _ _ it _ _ _ h hl he =>
   have:=key p (p+1) [.mk it.kind text it.cols it.kids] (Nat.le_add_right _ _)
   have hsg:segS l p (p+1)=[it]:=by
    have:=zP8 l (List.getElem?_eq_some_iff.1 h).1;rw[segS,this,(List.getElem?_eq_some_iff.1 h).2]
   have w3:=zID it;rw[hsg]at this;simp only[Nd.ws,Nd.w]at this
   omega
  | set_no=>simp only[Nd.ws]; omega
 refine⟨h1,?_⟩
 cases h with
 | range=>simp
 | @ins _ p _ _ _ _ _ h=>have:=hlen nodes; simp only[splS,List.length_append,List.length_take,List.length_drop]; omega
 | @del _ p _ _ _ _ _ h he=>simp only[splS,List.length_append,List.length_take,List.length_drop,List.length_nil]; omega
 | del_no=>simp
 | @wrap _ p m v s _ _ h=>simp only[splS,List.length_append,List.length_take,List.length_drop,List.length_cons,List.length_nil]; omega
 | @unwrap _ p _ v it z s _ _ h hz hm he =>
  have w1:=Nd.w_mem (List.mem_of_getElem? hz)
  have w4:=Nd.w_mem (List.mem_of_getElem? h)
  have w2:=zID z;have w3:=zID it;have:=hlen z.kids;simp only[splS,List.length_append,List.length_take,List.length_drop]; omega
 | unwrap_no=>simp
 | @set _ p _ _ it _ _ _ h hl he=>simp only[splS,List.length_append,List.length_take,List.length_drop,List.length_cons,List.length_nil]; omega
 | set_no=>simp
theorem zXo (k:Int):(bif (k == 2) then some (k == 2) else bif (k == 3) then some (k == 3) else bif (k == 4) then some (k == 4) else bif (k == 10) then some (k == 10) else some (k == 11):Option Bool)=some (zSE k):=by
 unfold zSE;cases e1:k == 2 <;> cases e2:k == 3 <;> cases e3:k == 4 <;> cases e4:k == 10 <;> rfl
theorem zXx (k m:Int) (nodes:List Nd):(bif (k == 1) then some 0 else bif (k == 2) then some (nodes.length:Int) else bif (k == 3) then some m else some 1:Option Int)=some (zEs k m nodes):=by
 unfold zEs
 by_cases k1:k=1
 ·subst k1; rfl
 by_cases k2:k=2
 ·subst k2; rfl
 by_cases k3:k=3
 ·subst k3; rfl
 rw[zDq k1,zDq k2,zDq k3,if_neg k1,if_neg k2,if_neg k3]; rfl
theorem zVU {k:Int}{row:List Int}{a m:Int}{nodes:List Nd}{slot:Int}{old text:List UInt8} (hf:FormP (k,row,a,m,nodes,slot,old,text)):0<=zEs k m nodes:=by
 unfold zEs;rcases hf with ⟨rfl | rfl,_⟩ | ⟨rfl | rfl,hm,_⟩ | ⟨rfl,_⟩ <;> simp <;> omega
theorem Chg.det {l l1 l2:List Nd}{o:Op8}{e1 e2:Int} (hf:FormP o) (h1:Chg l o l1 e1) (h2:Chg l o l2 e2):l1=l2/\e1=e2:=by
 obtain⟨k,row,a,m,nodes,slot,old,text⟩:=o;have hnn:=zVU hf;cases h1 with
 | range h =>
  cases h2 with
  | range=>exact⟨rfl,rfl⟩
  | ins h'=>simp only[zEs,if_true]at h; omega
  | del h'=>simp only[zEs]at h; simp at h; omega
  | del_no h'=>simp only[zEs]at h; simp at h; omega
  | wrap h'=>simp only[zEs]at h; simp at h; omega
  | unwrap h'=>have:=(List.getElem?_eq_some_iff.1 h').1; simp only[zEs]at h; simp at h; omega
  | unwrap_no h'=>exact⟨rfl,by have:=(List.getElem?_eq_some_iff.1 h').1; simp only[zEs]at h; simp at h; omega⟩
  | set h'=>have:=(List.getElem?_eq_some_iff.1 h').1; simp only[zEs]at h; simp at h; omega
  | set_no h'=>exact⟨rfl,by have:=(List.getElem?_eq_some_iff.1 h').1; simp only[zEs]at h; simp at h; omega⟩
 | ins h' =>
  generalize ha:((_:Nat):Int)=a' at h2;cases h2 with
  | range h=>simp only[zEs,if_true]at h; omega
  | ins h=>obtain rfl:=Int.ofNat.inj ha; exact⟨rfl,rfl⟩
 | del h' he =>
  generalize ha:((_:Nat):Int)=a' at h2;cases h2 with
  | range h=>simp only[zEs]at h; simp at h; omega
  | del h=>obtain rfl:=Int.ofNat.inj ha; exact⟨rfl,rfl⟩
  | del_no h he'=>obtain rfl:=Int.ofNat.inj ha; exact absurd he he'
 | del_no h' he =>
  generalize ha:((_:Nat):Int)=a' at h2;cases h2 with
  | range h=>simp only[zEs]at h; simp at h; omega
  | del h he'=>obtain rfl:=Int.ofNat.inj ha; exact absurd he' he
  | del_no h he'=>exact⟨rfl,rfl⟩
 | wrap h' =>
  generalize ha:((_:Nat):Int)=a' at h2;generalize hm:((_:Nat):Int)=m' at h2;generalize hs:((_:Nat):Int)=s' at h2;cases h2 with
  | range h=>simp only[zEs]at h; simp at h; omega
  | wrap h=>obtain rfl:=Int.ofNat.inj ha; obtain rfl:=Int.ofNat.inj hm; obtain rfl:=Int.ofNat.inj hs; exact⟨rfl,rfl⟩
 | unwrap h' hz hm he =>
  generalize ha:((_:Nat):Int)=a' at h2;generalize hs:((_:Nat):Int)=s' at h2;cases h2 with
  | range h=>have:=(List.getElem?_eq_some_iff.1 h').1; simp only[zEs]at h; simp at h; omega
  | unwrap h hz2 =>
   obtain rfl:=Int.ofNat.inj ha; obtain rfl:=Int.ofNat.inj hs
   rw[h']at h; cases h
   rw[hz]at hz2; cases hz2
   exact⟨rfl,rfl⟩
  | unwrap_no h hz2 =>
   obtain rfl:=Int.ofNat.inj ha; obtain rfl:=Int.ofNat.inj hs
   rw[h']at h; cases h
   exact absurd he (hz2 _ hz hm)
 | unwrap_no h' hz =>
  generalize ha:((_:Nat):Int)=a' at h2;generalize hs:((_:Nat):Int)=s' at h2;cases h2 with
  | range h=>exact⟨rfl,by have:=(List.getElem?_eq_some_iff.1 h').1; simp only[zEs]at h; simp at h; omega⟩
  | unwrap h hz2 hm he =>
   obtain rfl:=Int.ofNat.inj ha; obtain rfl:=Int.ofNat.inj hs
   rw[h']at h; cases h
   exact absurd he (hz _ hz2 hm)
  | unwrap_no h hz2=>exact⟨rfl,rfl⟩
 | set h' hl he =>
  generalize ha:((_:Nat):Int)=a' at h2;cases h2 with
  | range h=>have:=(List.getElem?_eq_some_iff.1 h').1; simp only[zEs]at h; simp at h; omega
  | set h=>obtain rfl:=Int.ofNat.inj ha; rw[h']at h; cases h; exact⟨rfl,rfl⟩
  | set_no h hl2=>obtain rfl:=Int.ofNat.inj ha; rw[h']at h; cases h; exact absurd ⟨hl,he⟩ hl2
 | set_no h' hl =>
  generalize ha:((_:Nat):Int)=a' at h2;cases h2 with
  | range h=>exact⟨rfl,by have:=(List.getElem?_eq_some_iff.1 h').1; simp only[zEs]at h; simp at h; omega⟩
  | set h hl2 he=>obtain rfl:=Int.ofNat.inj ha; rw[h']at h; cases h; exact absurd ⟨hl2,he⟩ hl
  | set_no h hl2=>exact⟨rfl,rfl⟩
theorem Fd.det {t r1 r2:Nd}{p:List Int} (h1:Fd t p r1) (h2:Fd t p r2):r1=r2:=Option.some.inj (h1.find.symm.trans h2.find)
theorem App.det {t t1 t2:Nd}{o:Op8}{e1 e2:Int} (h1:App t o t1 e1) (h2:App t o t2 e2):t1=t2/\e1=e2:=by
 have tf:∀ {b:Bool},b=true->b=false->False:=fun h h'=>by rw[h]at h'; cases h'
 have fn:∀ {r:Nd} {p:List Int},Fd t p r->zCx t p=Option.none->False:=fun h h'=>by rw[h.find]at h'; cases h'
 cases h1 with
 | arg h=>cases h2 with
  | arg h'=>exact⟨rfl,rfl⟩
  | form h'=>exact(tf h' h).elim
  | none h'=>exact(tf h' h).elim
  | chg h'=>exact(tf h' h).elim
  | limit h'=>exact(tf h' h).elim
  | ok h'=>exact(tf h' h).elim
 | form h hf=>cases h2 with
  | arg h'=>exact(tf h h').elim
  | form h'=>exact⟨rfl,rfl⟩
  | none h' hf'=>exact absurd hf' hf
  | chg h' hf'=>exact absurd hf' hf
  | limit h' hf'=>exact absurd hf' hf
  | ok h' hf'=>exact absurd hf' hf
 | none h hf hn=>cases h2 with
  | arg h'=>exact(tf h h').elim
  | form h' hf'=>exact absurd hf hf'
  | none=>exact⟨rfl,rfl⟩
  | chg h' hf' hr=>exact(fn hr hn).elim
  | limit h' hf' hr=>exact(fn hr hn).elim
  | ok h' hf' hr=>exact(fn hr hn).elim
 | chg h hf hr hc he=>cases h2 with
  | arg h'=>exact(tf h h').elim
  | form h' hf'=>exact absurd hf hf'
  | none h' hf' hn=>exact(fn hr hn).elim
  | chg h' hf' hr' hc' he'=>obtain rfl:=hr.det hr'; exact⟨rfl,(hc.det hf hc').2⟩
  | limit h' hf' hr' hc'=>obtain rfl:=hr.det hr'; exact absurd (hc.det hf hc').2 he
  | ok h' hf' hr' hc'=>obtain rfl:=hr.det hr'; exact absurd (hc.det hf hc').2 he
 | limit h hf hr hc hv=>cases h2 with
  | arg h'=>exact(tf h h').elim
  | form h' hf'=>exact absurd hf hf'
  | none h' hf' hn=>exact(fn hr hn).elim
  | chg h' hf' hr' hc' he'=>obtain rfl:=hr.det hr'; exact absurd (hc'.det hf hc).2 he'
  | limit h' hf' hr' hc'=>exact⟨rfl,rfl⟩
  | ok h' hf' hr' hc' hv'=>obtain rfl:=hr.det hr'; obtain rfl:=(hc.det hf hc').1; exact(tf hv' hv).elim
 | ok h hf hr hc hv=>cases h2 with
  | arg h'=>exact(tf h h').elim
  | form h' hf'=>exact absurd hf hf'
  | none h' hf' hn=>exact(fn hr hn).elim
  | chg h' hf' hr' hc' he'=>obtain rfl:=hr.det hr'; exact absurd (hc'.det hf hc).2 he'
  | limit h' hf' hr' hc' hv'=>obtain rfl:=hr.det hr'; obtain rfl:=(hc.det hf hc').1; exact(tf hv hv').elim
  | ok h' hf' hr' hc' hv'=>obtain rfl:=hr.det hr'; obtain rfl:=(hc.det hf hc').1; exact⟨rfl,rfl⟩
def lens:List (List Nd)->Nat
 | []=>0
 | a::L=>a.length+lens L
theorem zRo {L:List (List Nd)}{i:Nat} (h:i<L.length):lens (L.drop i)=(L[i]).length+lens (L.drop (i+1)):=by
 rw[List.drop_eq_getElem_cons h]; rfl
theorem zVi {L:List (List Nd)} (hl:L.length<=1073741824):∀ (k i s:Nat),L.length - i<k->i<=L.length->s+lens (L.drop i)<=1073741824->zAU L k (i:Int) (s:Int)=some ((s+lens (L.drop i):Nat):Int)
 | 0,i,s,h,_,_=>by omega
 | k+1,i,s,hk,hi,hs=>by
  unfold zAU
  by_cases h:i<L.length
  ·have hd:=zRo h;rw[zBs (Int.ofNat_lt.2 h),cond_true,zBJ h]
   simp only[obs]
   rw[wrap64_in (n:=(s:Int)+((L[i]).length:Int)) (by omega) (by omega),zBn (by omega),cond_false,zAP (by omega),← Int.natCast_add,zVi hl k (i+1) _ (by omega) (by omega) (by omega),hd]
   congr 2; omega
  ·rw[zBn (by omega),cond_false]
   have:L.drop i=[]:=List.drop_eq_nil_iff.2 (by omega)
   rw[this]; rfl
theorem zVj {L:List (List Nd)} (hl:L.length<=1073741824):∀ (k i:Nat) (s:List Nd),L.length - i<k->i<=L.length->s.length+lens (L.drop i)<=1073741824->zAW L k (i:Int) s=some (s++(L.drop i).flatten)
 | 0,i,s,h,_,_=>by omega
 | k+1,i,s,hk,hi,hs=>by
  unfold zAW
  by_cases h:i<L.length
  ·have hd:=zRo h;rw[zBs (Int.ofNat_lt.2 h),cond_true,zBJ h]
   simp only[obs]
   rw[zCs (by omega),zAP (by omega),zVj hl k (i+1) _ (by omega) (by omega) (by rw[List.length_append]; omega),List.drop_eq_getElem_cons h,List.flatten_cons,List.append_assoc]
  ·rw[zBn (by omega),cond_false]
   have:L.drop i=[]:=List.drop_eq_nil_iff.2 (by omega)
   rw[this]; simp
theorem zVm (n:Nat) (L:List (List Nd)) (hn:L.length<n) (hl:L.length<=1073741824) (hs:lens L<=1073741824):zBP n L=some L.flatten:=by
 have e1:=zVi hl n 0 0 (by omega) (by omega) (by simpa using hs)
 have e2:=zVj hl n 0 [] (by omega) (by omega) (by simpa using hs)
 rw[show((0:Nat):Int)=0 from rfl]at e1 e2;unfold zBP zDU;simp only[e1,obs,List.drop_zero,Nat.zero_add]
 simp only[List.drop_zero,List.nil_append]at e2;rw[zCs ⟨by omega,by omega⟩]
 simp only[obs,e2]
theorem zY7 (n:Nat) (k:Int) (row:List Int) (p y:Nat) (m:Int) (nodes:List Nd) (slot:Int) (old text:List UInt8) (l b:List Nd) (hn:10<n) (hp:p+y<=l.length) (hl:l.length<=500000000) (hb:b.length<=500000000) :
  zAZ n ((k,row,(p:Int),m,nodes,slot,old,text),l) (y:Int) b=some (splS l p (p+y) b):=by
 unfold zAZ;dsimp only;rw[zCs ⟨by omega,by omega,by omega⟩,wrap64_in (n:=(p:Int)+(y:Int)) (by omega) (by omega),← Int.natCast_add,zCs ⟨by omega,by omega,by omega⟩]
 have e1:(l.take (p:Int).toNat).drop (0:Int).toNat=l.take p :=(by simp);have e2:(l.take (l.length:Int).toNat).drop ((p+y:Nat):Int).toNat=l.drop (p+y) :=(by rw[Int.toNat_natCast,Int.toNat_natCast,List.take_length]);rw[e1,e2,zVm n _ (by simp; omega) (by simp) (by simp only[lens,List.length_take,List.length_drop]; omega)]
 simp only[obs,splS,List.flatten_cons,List.flatten_nil,List.append_nil,List.append_assoc]
theorem zLP {l:List Nd}{it z:Nd}{s:Nat} (hl:zBo 1 l=true) (hit:it∈l) (hz:it.kids[s]? = some z):it.kind ≠ 1/\z=rowN z.kids:=by
 obtain⟨f1,f2⟩:=zCK hl hit;have hk:(it.kind == 1)=false :=(by simpa using f2);obtain⟨i1,i2,i3,i4⟩:=it;simp only[Nd.kind]at hk;simp only[Nd.kids]at hz;obtain⟨g1,g2⟩:=zCK (zFA f1) (List.mem_of_getElem? hz)
 rw[hk]at g2;have hz1:z.kind=1:=by
  cases e:z.kind == 1 with
  | true=>exact eq_of_beq e
  | false=>rw[e]at g2; cases g2
 exact⟨beq_eq_false_iff_ne.1 hk,(zF4 g1 hz1).1⟩
theorem zRf {l:List Nd}{it:Nd} (hl:zBo 1 l=true) (hit:it∈l):it.kind ≠ 1:=by
 obtain⟨_,f2⟩:=zCK hl hit;exact beq_eq_false_iff_ne.1 (by simpa using f2)
theorem zI4 {l:List Nd} (h:zAA (rowN l)=true):zBo 1 l=true:=by
 have:=(zFR h).2;exact this
theorem zS6 (v:Nd) (h:v.kind ≠ 1):zDp v=some (v.kids.length:Int):=by
 obtain⟨a,b,c,d⟩:=v;unfold zDp;simp only[Nd.kind]at h;simp only[zDq h,cond_false,Nd.kids]
theorem zF5 (n:Nat) (nodes:List Nd) (h:Nd.ws nodes+50<n) (hb:Nd.ws nodes<=67000000):zCc n nodes=some (zAA (rowN nodes)):=by
 unfold zCc;dsimp only;rw[zC0 n _ (by simp only[Nd.w,List.length_nil]; omega) (by simp only[Nd.w,List.length_nil]; omega)]; rfl
theorem zQO (n:Nat) (l:List Nd) (slot:Int) (h:Nd.ws l+50<n) (hb:Nd.ws l<=67000000):∃ b,zC7 n l slot=some b/\(b=true↔zU0 l slot):=by
 unfold zC7;dsimp only;cases e1:((l.length:Int) != 1) with
 | true=>exact⟨false,rfl,(fun h=>by cases h),fun⟨v,s,z,h,_⟩=>by rw[h]at e1; cases e1⟩
 | false =>
  have hl:l.length=1:=by
   by_cases h:(l.length:Int)=1
   ·omega
   ·rw[bne_iff_ne.2 h]at e1; cases e1
  obtain⟨v,rfl⟩:=List.length_eq_one_iff.1 hl;have hv:=zF5 n [v] h hb;have h0:at? [v] (0:Int)=some v:=rfl;simp only[cond_false,hv,obs]
  cases hvb:zAA (rowN [v]) with
  | false=>exact⟨false,rfl,(fun h=>by cases h),fun⟨v',s,z,h,_,h2,_⟩=>by cases h; rw[hvb]at h2; cases h2⟩
  | true =>
   have hsl:=zS6 v (zRf (zI4 hvb) List.mem_cons_self)
   obtain⟨a,b,c,d⟩:=v;simp only[Nd.kids]at hsl;simp only[Bool.not_true,cond_false]
   by_cases h1:slot<0
   ·rw[zBs h1]
    exact⟨false,rfl,(fun h=>by cases h),fun⟨v,s,z,h,hs,_⟩=>by omega⟩
   ·rw[zBn h1]
    simp only[cond_false,h0,obs,hsl]
    by_cases h2:(d.length:Int)<=slot
    ·rw[zBs h2]
     refine⟨false,rfl,(fun h=>by cases h),fun⟨v,s,z,h,hs,_,hz,_⟩=>?_⟩
     cases h;have:=(List.getElem?_eq_some_iff.1 hz).1;simp only[Nd.kids]at this
     omega
    ·rw[zBn h2]
     obtain⟨p,rfl,hp,hg⟩:=zZO (l:=d) (i:=slot) (by omega) (by omega)
     have hz:d[p]? = some d[p]:=List.getElem?_eq_getElem hp;rw[hg]
     generalize d[p]=z at hz;obtain⟨x1,x2,x3,x4⟩:=z;simp only[cond_false,obs]
     refine⟨_,rfl,fun h=>⟨_,p,_,rfl,rfl,hvb,hz,?_⟩,fun⟨v,s,z,h,hs,_,hz',hk⟩=>?_⟩
     ·have:=eq_of_beq h;exact List.eq_nil_of_length_eq_zero (by simp only[Nd.kids]; omega)
     ·cases h;obtain rfl:p=s :=(by omega);simp only[Nd.kids]at hz';rw[hz]at hz';cases hz';simp only[Nd.kids]at hk;subst hk
      rfl
theorem zNI (n:Nat) (k:Int) (row:List Int) (a m:Int) (nodes:List Nd) (slot:Int) (old text:List UInt8) (h:Nd.ws nodes+50<n) (hb:Nd.ws nodes<=67000000) :
  ∃ b,zEo n (k,row,a,m,nodes,slot,old,text)=some b/\(b=true↔FormP (k,row,a,m,nodes,slot,old,text)):=by
 have hv:=zF5 n nodes h hb;obtain⟨tb,t1,t2⟩:=zQO n nodes slot h hb;have hlen:decide (0<(nodes.length:Int))=true↔nodes ≠ [] :=(by cases nodes <;> simp);have hlen0:((nodes.length:Int) == 0)=true↔nodes=[] :=(by cases nodes <;> simp <;> omega);have htx:(bif (!(old == [])) then some true else some (!(text == [])):Option Bool)=some (!((old == [])&&(text == []))) :=(by cases old == [] <;> cases text == [] <;> rfl);unfold zEo;simp only[hv,t1,htx,obs,FormP]
 by_cases k12:k=1∨k=2
 ·have e:(bif (k == 1) then some (k == 1) else some (k == 2):Option Bool)=some true:=by rcases k12 with rfl | rfl <;> rfl
  have hk:¬ (k=3∨k=4)/\¬ k=5 :=(by omega);rw[e]
  simp only[obs,cond_true,k12,hk.1,hk.2,true_and,false_and,or_false]
  rw[← hlen]
  generalize decide (0<(nodes.length:Int))=b1;generalize zAA (rowN nodes)=b2;cases e1:m == 0 <;> simp only[cond_true,cond_false,obs]
  ·exact⟨false,rfl,by simp[beq_eq_false_iff_ne.1 e1]⟩
  cases e2:slot == 0 <;> simp only[cond_true,cond_false,obs]
  ·exact⟨false,rfl,by simp[beq_eq_false_iff_ne.1 e2]⟩
  cases e3:old == [] <;> simp only[Bool.false_and,Bool.true_and,Bool.not_false,Bool.not_not,cond_true,cond_false,obs]
  ·exact⟨false,rfl,by simp[beq_eq_false_iff_ne.1 e3]⟩
  cases e4:text == [] <;> simp only[Bool.not_true,Bool.not_false,cond_true,cond_false,obs]
  ·exact⟨false,rfl,by simp[beq_eq_false_iff_ne.1 e4]⟩
  rw[eq_of_beq e1,eq_of_beq e2,eq_of_beq e3,eq_of_beq e4]
  cases b1 <;> cases b2 <;> exact⟨_,rfl,by simp⟩
 ·have e:(bif (k == 1) then some (k == 1) else some (k == 2):Option Bool)=some false:=by
   rw[zDq (fun h=>k12 (.inl h)),zDq (fun h=>k12 (.inr h))]; rfl
  rw[e]
  simp only[obs,cond_false,k12,false_and,false_or]
  by_cases k34:k=3∨k=4
  ·have e:(bif (k == 3) then some (k == 3) else some (k == 4):Option Bool)=some true:=by rcases k34 with rfl | rfl <;> rfl
   have hk:¬ k=5 :=(by omega);rw[e]
   simp only[obs,cond_true,k34,hk,true_and,false_and,or_false]
   rw[← t2]
   by_cases hm:0<=m
   ·rw[zBs hm]
    simp only[cond_true]
    cases e3:old == [] <;> simp only[Bool.false_and,Bool.true_and,Bool.not_false,Bool.not_not,cond_true,cond_false,obs]
    ·exact⟨false,rfl,by simp[beq_eq_false_iff_ne.1 e3]⟩
    cases e4:text == [] <;> simp only[Bool.not_true,Bool.not_false,cond_true,cond_false,obs]
    ·exact⟨false,rfl,by simp[beq_eq_false_iff_ne.1 e4]⟩
    rw[eq_of_beq e3,eq_of_beq e4]
    exact⟨_,rfl,by simp[hm]⟩
   ·rw[zBn hm]
    exact⟨false,rfl,by simp[hm]⟩
  ·have e:(bif (k == 3) then some (k == 3) else some (k == 4):Option Bool)=some false:=by
    rw[zDq (fun h=>k34 (.inl h)),zDq (fun h=>k34 (.inr h))]; rfl
   rw[e]
   simp only[obs,cond_false,k34,false_and,false_or]
   by_cases k5:k=5
   ·subst k5;simp only[beq_self_eq_true,cond_true,obs,true_and]
    rw[← hlen0]
    generalize ((nodes.length:Int) == 0)=b1;cases e1:m == 0 <;> simp only[cond_true,cond_false,obs]
    ·exact⟨false,rfl,by simp[beq_eq_false_iff_ne.1 e1]⟩
    cases e2:slot == 0 <;> simp only[cond_true,cond_false,obs]
    ·exact⟨false,rfl,by simp[beq_eq_false_iff_ne.1 e2]⟩
    rw[eq_of_beq e1,eq_of_beq e2]
    cases b1 <;> simp only[cond_true,cond_false,obs]
    ·exact⟨false,rfl,by simp⟩
    cases e0:old == text <;> simp only[Bool.not_true,Bool.not_false]
    ·exact⟨true,rfl,by simp[beq_eq_false_iff_ne.1 e0]⟩
    ·exact⟨false,rfl,by simp[eq_of_beq e0]⟩
   ·rw[zDq k5]
    exact⟨false,rfl,by simp[k5]⟩
theorem zVx (k:Int) (row:List Int) (a m:Int) (nodes:List Nd) (slot:Int) (old text:List UInt8) (l:List Nd) (hl:l.length<=1073741824) :
  zB0 ((k,row,a,m,nodes,slot,old,text),l)=some (if a<0∨(l.length:Int)<a∨(l.length:Int) - a<zEs k m nodes then 2 else 0):=by
 unfold zB0;dsimp only;rw[zXx]
 simp only[obs]
 by_cases h1:a<0
 ·rw[zBs h1,if_pos (.inl h1)]; rfl
 rw[zBn h1]
 by_cases h2:(l.length:Int)<a
 ·rw[zBs h2,if_pos (.inr (.inl h2))]; rfl
 rw[zBn h2,wrap64_in (n:=(l.length:Int) - a) (by omega) (by omega)]
 by_cases h3:(l.length:Int) - a<zEs k m nodes
 ·rw[zBs h3,if_pos (.inr (.inr h3))]; rfl
 rw[zBn h3,if_neg (fun h=>h.elim h1 fun h=>h.elim h2 h3)]; rfl
theorem zXg {v it z:Nd}{s:Nat}{y:Nd} (hv:v.kids[s]? = some y) (hy:y=rowN []) (hz:it.kids[s]? = some z) (hzr:z=rowN z.kids):Nd.mk it.kind it.text it.cols (it.kids.set s (rowN []))=v↔it=zIR v s z.kids:=by
 obtain⟨v1,v2,v3,v4⟩:=v;obtain⟨i1,i2,i3,i4⟩:=it;obtain⟨z1,z2,z3,z4⟩:=z;obtain⟨rfl,rfl,rfl,-⟩:=Nd.mk.inj hzr
 clear hzr
 simp only[Nd.kids]at hv hz;simp only[zIR,Nd.kind,Nd.text,Nd.cols,Nd.kids]
 subst hy
 constructor
 ·intro h;obtain⟨rfl,rfl,rfl,rfl⟩:=Nd.mk.inj h;rw[List.set_set]
  congr 1
  have:=zLN (y:=.mk 1 [] 0 z4) hz;rw[List.set_set]at this;exact this.symm
 ·intro h;obtain⟨rfl,rfl,rfl,rfl⟩:=Nd.mk.inj h;rw[List.set_set]
  congr 1
  have:=zLN (y:=rowN []) hv;rw[List.set_set]at this;exact this
theorem zMx (n:Nat) (l:List Nd) (k:Int) (row:List Int) (a m:Int) (nodes:List Nd) (slot:Int) (old text:List UInt8) (hf:FormP (k,row,a,m,nodes,slot,old,text)) (hv:zBo 1 l=true) (hn:2 * Nd.ws l+2 * Nd.ws nodes+50<n) (ha:Nd.ws l<=60000000) (hb:Nd.ws nodes<=2000000) :
  ∃ l' e,zCi n ((k,row,a,m,nodes,slot,old,text),l)=some (l',e)/\Chg l (k,row,a,m,nodes,slot,old,text) l' e:=by
 have la:=Nd.ws_len l;have lb:=Nd.ws_len nodes;have cl:=Nd.cnts_ws l;have cb:=Nd.cnts_ws nodes;have hnn:=zVU hf;unfold zCi;simp only[zVx _ _ _ _ _ _ _ _ l (show l.length<=1073741824 by omega),obs]
 by_cases hr:a<0∨(l.length:Int)<a∨(l.length:Int) - a<zEs k m nodes
 ·rw[if_pos hr]; exact⟨[],2,rfl,.range hr⟩
 rw[if_neg hr]
 simp only[show((0:Int) != 0)=false from rfl,cond_false]
 have h1:¬ a<0:=fun h=>hr (.inl h)
 have h2:¬ (l.length:Int)<a:=fun h=>hr (.inr (.inl h))
 have h3:¬ (l.length:Int) - a<zEs k m nodes:=fun h=>hr (.inr (.inr h))
 obtain⟨p,rfl⟩:=Int.eq_ofNat_of_zero_le (show 0<=a by omega)
 obtain⟨y,hy⟩:=Int.eq_ofNat_of_zero_le hnn;rw[hy]at h3;have hseg:=yAe l (Nat.le_add_right p y)
 have lseg:=Nd.ws_len ((l.take (p+y)).drop p)
 have cseg:=Nd.cnts_ws ((l.take (p+y)).drop p)
 have hj:∀ by':List Nd,by'.length<=500000000->zAZ n ((k,row,(p:Int),m,nodes,slot,old,text),l) (y:Int) by'=some (splS l p (p+y) by'):=fun by' hby=>zY7 n k row p y m nodes slot old text l by' (by omega) (by omega) (by omega) hby
 rcases hf with ⟨rfl | rfl,h0⟩ | ⟨rfl | rfl,hm,⟨v,s,z,rfl,rfl,hvv,hz,hzk⟩,_⟩ | ⟨rfl,h0⟩
 ·obtain rfl:y=0 :=(by have:zEs 1 m nodes=0:=rfl; omega);rw[show((0:Nat):Int)=0 from rfl]at hj;simp only[beq_self_eq_true,cond_true,zCE,hj nodes (by omega),obs]
  exact⟨_,0,rfl,.ins (by omega)⟩
 ·obtain rfl:y=nodes.length :=(by have:zEs 2 m nodes=(nodes.length:Int):=rfl; omega);obtain⟨r,g1,g2⟩:=(zGX n).2 ((l.take (p+nodes.length)).drop p) nodes (by omega) (by omega)
  simp only[show((2:Int) == 1)=false from rfl,cond_false,beq_self_eq_true,cond_true,zCF]
  rw[wrap64_in (n:=(p:Int)+(nodes.length:Int)) (by omega) (by omega),← Int.natCast_add,zCs ⟨by omega,by omega,by omega⟩,Int.toNat_natCast,Int.toNat_natCast,g1]
  simp only[obs]
  cases r with
  | false=>exact⟨[],7,rfl,.del_no (by omega) fun e=>by have:=g2.2 e; cases this⟩
  | true =>
   simp only[Bool.not_true,cond_false,hj [] (by simp),obs]
   exact⟨_,0,rfl,.del (by omega) (g2.1 rfl)⟩
 ·obtain rfl:m=(y:Int):=hy;obtain⟨hvk,hzr⟩:=zLP (zI4 hvv) List.mem_cons_self hz;rw[hzk]at hzr;have hv0:at? [v] (0:Int)=some v:=rfl;have hcv:=Nd.cnts_mem (List.mem_cons_self (a:=v) (l:=[]))
  have hd:zCL v=some v:=zCs ⟨by omega,fun e=>by rw[e]at hz; simp at hz⟩
  have hza:=zU3 hz;have hcl:zDH ((l.take (p+y)).drop p)=some ((l.take (p+y)).drop p):=zCs (by omega)
  have hj':=hj [zIR v s ((l.take (p+y)).drop p)] (by simp)
  have hfx:zIR v s ((l.take (p+y)).drop p)=Nd.mk v.kind v.text v.cols (v.kids.set s (rowN ((l.take (p+y)).drop p))):=rfl;rw[hfx]at hj';have hC:=Chg.wrap (l:=l) (row:=row) (p:=p) (m:=y) (v:=v) (s:=s) (old:=old) (text:=text) (by omega)
  have hfx2:zIR v s (segS l p (p+y))=Nd.mk v.kind v.text v.cols (v.kids.set s (rowN ((l.take (p+y)).drop p))):=rfl;rw[hfx2]at hC;subst hzr;obtain⟨v1,v2,v3,v4⟩:=v;simp only[Nd.kind,Nd.text,Nd.cols,Nd.kids]at hza hj' hC;unfold rowN at hza;simp only[show((3:Int) == 1)=false from rfl,show((3:Int) == 2)=false from rfl,cond_false,beq_self_eq_true,cond_true,zDg,hv0,hd,obs]
  rw[wrap64_in (n:=(p:Int)+(y:Int)) (by omega) (by omega),← Int.natCast_add,zCs ⟨by omega,by omega,by omega⟩,Int.toNat_natCast,Int.toNat_natCast,hcl]
  simp only[obs,hza,Int.toNat_natCast]
  unfold rowN at hj' hC;rw[hj']
  exact⟨_,0,rfl,hC⟩
 ·obtain rfl:y=1 :=(by have:zEs 4 m [v]=1:=rfl; omega);obtain⟨hvk,hzr⟩:=zLP (zI4 hvv) List.mem_cons_self hz;rw[hzk]at hzr;have hv0:at? [v] (0:Int)=some v:=rfl;have hpl:p<l.length :=(by omega);have hit:l[p]? = some l[p]:=List.getElem?_eq_getElem hpl;have hia:at? l (p:Int)=some l[p]:=zBJ hpl;have hmem:=List.getElem_mem hpl;generalize l[p]=it at hit hia hmem;have hiw:=Nd.w_mem hmem;have hic:=Nd.cnt_w it;have hik:=zRf hv hmem;have hslots:=zS6 it hik;have hdn:zBK it=some it:=zIP (by omega)
  have hwi:=zID it;have hlk4:=Nd.ws_len it.kids;simp only[show((4:Int) == 1)=false from rfl,show((4:Int) == 2)=false from rfl,show((4:Int) == 3)=false from rfl,cond_false,beq_self_eq_true,cond_true]
  have hnone:zBq ((4,row,(p:Int),m,[v],(s:Int),old,text),l)=if (it.kids.length:Int)<=(s:Int) then some ([],7) else none:=by
   unfold zBq;simp only[hia]
   by_cases h:(it.kids.length:Int)<=(s:Int)
   ·rw[if_pos h]
    obtain⟨i1,i2,i3,i4⟩:=it;simp only[Nd.kids]at h hslots;simp only[obs,hdn,hslots,zBs h]; rfl
   ·rw[if_neg h]
    obtain⟨i1,i2,i3,i4⟩:=it;simp only[Nd.kids]at h hslots;simp only[obs,hdn,hslots,zBn h]; rfl
  by_cases hsl:(it.kids.length:Int)<=(s:Int)
  ·have:zBh n ((4,row,(p:Int),m,[v],(s:Int),old,text),l)=some ([],7):=by
    unfold zBh;rw[hnone,if_pos hsl]
   rw[this]
   refine⟨[],7,rfl,.unwrap_no hit fun z' hz'=>?_⟩
   have:=(List.getElem?_eq_some_iff.1 hz').1
   omega
  have hsi:s<it.kids.length :=(by omega);have hzi:it.kids[s]? = some it.kids[s]:=List.getElem?_eq_getElem hsi;generalize it.kids[s]=z' at hzi;obtain⟨_,hzr'⟩:=zLP hv hmem hzi;have hzw:=Nd.w_mem (List.mem_of_getElem? hzi)
  have hzw2:=zID z';have hzl:=Nd.ws_len z'.kids;have hfi:=zXg hz hzr hzi hzr';have hws:=zNx (y:=rowN []) hzi;have hj':=hj z'.kids (by omega)
  rw[show((1:Nat):Int)=1 from rfl]at hj';have hcs:(Nd.mk it.kind it.text it.cols (it.kids.set s (rowN []))).cnt<=it.w+1:=by
   have h1:=Nd.cnt_w (Nd.mk it.kind it.text it.cols (it.kids.set s (rowN [])))
   have e:(rowN []).w=1:=rfl;simp only[Nd.w]at h1
   omega
  obtain⟨rb,g1,g2⟩:=(zGX n).1 (Nd.mk it.kind it.text it.cols (it.kids.set s (rowN []))) v (by omega) (by omega)
  have hdo:zCL it=some it:=zCs ⟨by omega,fun e=>by rw[e]at hzi; simp at hzi⟩
  have hza:=zU3 hzi;have hkids:∃ l' e,zBp n ((4,row,(p:Int),m,[v],(s:Int),old,text),l)=some (l',e)/\Chg l (4,row,(p:Int),m,[v],(s:Int),old,text) l' e:=by
   unfold zBp;obtain⟨i1,i2,i3,i4⟩:=it;obtain⟨v1,v2,v3,v4⟩:=v;obtain⟨z1,z2,z3,z4⟩:=z';obtain⟨rfl,rfl,rfl,-⟩:=Nd.mk.inj hzr';simp only[Nd.kind,Nd.text,Nd.cols,Nd.kids]at hza g1 hslots hj' hsl;simp only[hia,obs,hdo,hslots,zBn hsl,cond_false,hza,hv0,Int.toNat_natCast]
   by_cases hmz:(z4.length:Int)=m
   ·have:((z4.length:Int) != m)=false :=(by unfold bne; rw[beq_iff_eq.2 hmz]; rfl);unfold rowN at g1;rw[this]
    simp only[cond_false,g1,obs]
    cases rb with
    | false =>
     refine⟨[],7,rfl,.unwrap_no hit fun z'' hz'' hm'' he=>?_⟩
     rw[hzi]at hz'';cases hz'';have:=g2.2 (hfi.2 he)
     cases this
    | true =>
     simp only[Bool.not_true,cond_false,hj',obs]
     exact⟨_,0,rfl,.unwrap (z:=.mk 1 [] 0 z4) hit hzi hmz (hfi.1 (g2.1 rfl))⟩
   ·have:((z4.length:Int) != m)=true:=bne_iff_ne.2 hmz;rw[this]
    refine⟨[],7,rfl,.unwrap_no hit fun z'' hz'' hm'' he=>?_⟩
    rw[hzi]at hz'';cases hz'';exact hmz hm''
  obtain⟨l',e,h4,h5⟩:=hkids;have:zBh n ((4,row,(p:Int),m,[v],(s:Int),old,text),l)=some (l',e):=by
   unfold zBh;rw[hnone,if_neg hsl]
   exact h4
  rw[this]
  exact⟨l',e,rfl,h5⟩
 ·obtain rfl:y=1 :=(by have:zEs 5 m nodes=1:=rfl; omega);have hpl:p<l.length :=(by omega);have hit:l[p]? = some l[p]:=List.getElem?_eq_getElem hpl;have hia:at? l (p:Int)=some l[p]:=zBJ hpl;generalize l[p]=it at hit hia;obtain⟨i1,i2,i3,i4⟩:=it;rw[show((1:Nat):Int)=1 from rfl]at hj;simp only[show((5:Int) == 1)=false from rfl,show((5:Int) == 2)=false from rfl,show((5:Int) == 3)=false from rfl,show((5:Int) == 4)=false from rfl,cond_false,zDx,hia,obs,zXo]
  cases hlf:zSE i1 with
  | false=>exact⟨[],7,rfl,.set_no hit fun h=>by have:=h.1; simp only[Nd.kind]at this; rw[hlf]at this; cases this⟩
  | true =>
   simp only[cond_true,obs]
   cases ht:i2 == old with
   | false=>exact⟨[],7,rfl,.set_no hit fun h=>beq_eq_false_iff_ne.1 ht h.2⟩
   | true =>
    simp only[Bool.not_true,cond_false,hj [Nd.mk i1 text i3 i4] (by simp),obs]
    exact⟨_,0,rfl,.set (it:=.mk i1 i2 i3 i4) hit hlf (eq_of_beq ht)⟩
theorem zPs (n:Nat) (t:Nd) (o:Op8) (hn:200000000<n) (ht:t.w<=50000000) (hb:Nd.ws o.nodes<=2000000) (hx:o.2.2.2.2.2.2.2.length<=2000000):∃ t' e,zEX n t o=some (t',e)/\App t o t' e:=by
 obtain⟨k,row,a,m,nodes,slot,old,text⟩:=o;simp only[Op8.nodes]at hb;dsimp only at hx;have v1:=zC0 n t (by omega) (by omega)
 have ct:=Nd.cnt_w t;obtain⟨b,f1,f2⟩:=zNI n k row a m nodes slot old text (by omega) (by omega)
 have e1:=zSK n t row v1 (by omega)
 have hwith:∀ r l,Fd t row r->Nd.ws l<=5000000+r.w->zEH n t row (rowN l)=some (zS5 t row (rowN l)):=fun r l h hl=>by
  have hs:=h.small;have hc:(rowN l).w=Nd.ws l+1 :=(by simp[rowN,Nd.w]);refine zRv n t row (rowN l) v1 (zC0 n _ (by omega) (by omega)) (fun z hz=>?_) (by omega) (by have:=Nd.cnt_w (rowN l); omega)
  obtain rfl:=h.det hz;have:=h.w (rowN l)
  exact zC0 n _ (by omega) (by omega)
 obtain⟨t1,t2,t3,t4⟩:=t;unfold zEX;simp only[v1,f1,e1,obs]
 cases hv:zAA (.mk t1 t2 t3 t4) with
 | false=>exact⟨_,1,rfl,.arg hv⟩
 | true =>
  simp only[Bool.not_true,cond_false]
  cases b with
  | false=>exact⟨_,4,rfl,.form hv fun h=>by have:=f2.2 h; cases this⟩
  | true =>
   have hf:=f2.1 rfl;simp only[Bool.not_true,cond_false,rowS,if_pos hv]
   cases hfd:zCx (.mk t1 t2 t3 t4) row with
   | none=>exact⟨_,8,rfl,.none hv hf hfd⟩
   | some r =>
    have hr':=zZZ hfd;have hsm:=hr'.small;have hwr:=zID r;have hvr:=hr'.valid hv;have hrr:=(zFR hvr).1;have hfr:=(zFR hvr).2;obtain⟨l',e,c1,c2⟩:=zMx n r.kids k row a m nodes slot old text hf hfr (by omega) (by omega) (by omega)
    obtain⟨r1,r2,r3,r4⟩:=r;obtain⟨rfl,rfl,rfl,-⟩:=Nd.mk.inj hrr;simp only[Nd.kids]at c1 c2 hwr;simp only[obs,show((0:Int) != 0)=false from rfl,cond_false,c1]
    by_cases he:e=0
    ·subst he;have hcw:=c2.w;have hw:=hwith _ l' hr' (by omega)
     unfold rowN at hw;simp only[show((0:Int) != 0)=false from rfl,cond_false,hw,obs]
     cases hvo:zAA (putL (.mk t1 t2 t3 t4) row (rowN l')) with
     | false =>
      have hL:=App.limit (t:=.mk t1 t2 t3 t4) (o:=(k,row,a,m,nodes,slot,old,text)) hv hf hr' c2 hvo;have hws:∃ q,zS5 (.mk t1 t2 t3 t4) row (.mk 1 [] 0 l')=(zDt,q)/\q ≠ 0:=by
       unfold zS5;rw[if_pos hv,hfd]
       dsimp only
       by_cases h:zAA (.mk 1 [] 0 l')=true
       ·rw[if_pos h]
        unfold rowN at hvo;rw[hvo,if_neg (by decide)]
        exact⟨6,rfl,by decide⟩
       ·rw[if_neg h]; exact⟨4,rfl,by decide⟩
      obtain⟨q,hq,hq0⟩:=hws;rw[hq]
      have:(q != 0)=true:=bne_iff_ne.2 hq0;simp only[zDt,this,cond_true]
      exact⟨_,6,rfl,hL⟩
     | true =>
      have hO:=App.ok (t:=.mk t1 t2 t3 t4) (o:=(k,row,a,m,nodes,slot,old,text)) hv hf hr' c2 hvo;have hvl:=(hr'.put (rowN l')).valid hvo;have hws:=zYe (r:=rowN l') hv hfd hvl hvo;unfold rowN at hws;rw[hws]
      dsimp only at hO;unfold rowN at hO;generalize putL (Nd.mk t1 t2 t3 t4) row (Nd.mk 1 [] 0 l')=Z at *;obtain⟨q1,q2,q3,q4⟩:=Z;exact⟨_,0,rfl,hO⟩
    ·have:(e != 0)=true:=bne_iff_ne.2 he;simp only[this,cond_true]
     exact⟨_,e,rfl,.chg (t:=.mk t1 t2 t3 t4) (o:=(k,row,a,m,nodes,slot,old,text)) hv hf hr' c2 he⟩
theorem App.w {t t':Nd}{o:Op8}{e:Int} (h:App t o t' e):t'.w<=t.w+Nd.ws o.nodes+o.2.2.2.2.2.2.2.length+4:=by
 have hz:zDt.w=1:=rfl;obtain⟨k,row,a,m,nodes,slot,old,text⟩:=o;simp only[Op8.nodes]
 cases h with
 | arg=>omega
 | form=>omega
 | none=>omega
 | chg=>omega
 | limit=>omega
 | @ok r l h hf hr hc hv =>
  have h1:=hr.w (rowN l)
  have h2:=hc.w;have h3:=zID r;have h4:(rowN l).w=Nd.ws l+1 :=(by simp[rowN,Nd.w]);dsimp only at h1 ⊢
  omega
def Op8.row (o:Op8):List Int:=o.2.1
def Op8.text (o:Op8):List UInt8:=o.2.2.2.2.2.2.2
def FewO (o:Op8):Prop:=Nd.cnts o.nodes<=99/\o.row.length<=60
theorem zUH (n:Nat) (o:Op8) (h:310<n):∃ y,zHF n o=some y/\(y=true->FewO o):=by
 obtain⟨k,row,a,m,nodes,slot,old,text⟩:=o;obtain⟨y,h1,h2⟩:=zYl n (.mk 1 [] 0 nodes) 100 (by omega) (by omega)
 rw[show((100:Nat):Int)=100 from rfl]at h1;unfold zHF;simp only[zGW,obs,h1]
 cases y with
 | false=>exact⟨false,rfl,fun h=>by cases h⟩
 | true =>
  refine⟨_,rfl,fun h=>⟨?_,?_⟩⟩
  ·have:=h2 rfl;simp only[Nd.cnt]at this;show Nd.cnts nodes<=99
   omega
  ·have:=of_decide_eq_true h;show row.length<=60
   omega
inductive Runs:Nd->List Op8->Nd->Int->Prop
 | nil (t:Nd):Runs t [] t 0
 | stop {t t':Nd} {o:Op8} {ops:List Op8} {e:Int} (h:App t o t' e) (he:e ≠ 0):Runs t (o::ops) zDt e
 | next {t t' u:Nd} {o:Op8} {ops:List Op8} {e:Int} (h:App t o t' 0) (hr:Runs t' ops u e):Runs t (o::ops) u e
def endOf (f:Fl (Nd×Int×Int) (Int×List UInt8×Int×List Nd)):Nd×Int×Int:=match f with
 | .ret r=>r
 | .go (a,b,c,d)=>(.mk a b c d,0,0)
inductive zYO (t:Nd) (ops:List Op8):Nd->Int->Prop
 | bad (h:zAA t=false):zYO t ops zDt 1
 | go {u:Nd} {e:Int} (h:zAA t=true) (hr:Runs t ops u e):zYO t ops u e
theorem zWy (l b:List Nd){p q:Nat} (hp:p<=l.length):segS (splS l p q b) p (p+b.length)=b:=by
 have h:(l.take p).length=p :=(by rw[List.length_take]; omega);unfold segS splS;rw[List.append_assoc,List.take_append,List.take_of_length_le (by omega),h,show p+b.length - p=b.length by omega,List.take_left,List.drop_append,List.drop_of_length_le (by omega),h,Nat.sub_self]
 rfl
theorem zNo (l b c:List Nd){p q:Nat} (hp:p<=l.length):splS (splS l p q b) p (p+b.length) c=splS l p q c:=by
 have h:(l.take p).length=p :=(by rw[List.length_take]; omega);unfold splS;have e1:((l.take p++b)++l.drop q).take p=l.take p:=by
  rw[List.append_assoc,List.take_append,h,Nat.sub_self,List.take_take,Nat.min_self]; simp
 have e2:((l.take p++b)++l.drop q).drop (p+b.length)=l.drop q:=by
  rw[List.drop_append,List.length_append,h,Nat.sub_self,List.drop_of_length_le (by rw[List.length_append,h]; omega)]; simp
 rw[e1,e2]
theorem zNn (l:List Nd){p q:Nat} (hpq:p<=q):splS l p q (segS l p q)=l:=by
 unfold splS segS;have:l.take p++(l.take q).drop p=l.take q:=by
  have h:=List.take_append_drop p (l.take q)
  rw[List.take_take,Nat.min_eq_left hpq]at h;exact h
 rw[this,List.take_append_drop]
theorem zSY (l b:List Nd){p q:Nat} (hp:p<=q) (hq:q<=l.length):(splS l p q b).length+(q - p)=l.length+b.length:=by
 unfold splS;simp only[List.length_append,List.length_take,List.length_drop]
 omega
theorem zZp (l:List Nd){p q:Nat} (hp:p<=q) (hq:q<=l.length):(segS l p q).length=q - p:=by
 unfold segS;simp only[List.length_take,List.length_drop]
 omega
theorem zYA {l:List Nd}{p:Nat}{it:Nd} (h:l[p]? = some it):segS l p (p+1)=[it]:=by
 have:=zP8 l (List.getElem?_eq_some_iff.1 h).1;rw[segS,this,(List.getElem?_eq_some_iff.1 h).2]
theorem zYB (l:List Nd){p q:Nat} (x:Nd) (hp:p<=l.length):(splS l p q [x])[p]? = some x:=by
 have h:(l.take p).length=p :=(by rw[List.length_take]; omega);unfold splS;rw[List.append_assoc,List.getElem?_append_right (by omega),h,Nat.sub_self]; rfl
theorem cnt_kids (v:Nd):v.cnt=Nd.cnts v.kids+1:=by cases v; simp only[Nd.cnt,Nd.kids]; try omega
def invO:Op8->Op8
 | (k,row,a,m,nodes,slot,old,text) =>
  (if k=1 then 2 else if k=2 then 1 else if k=3 then 4 else if k=4 then 3 else k,row,a,m,nodes,slot,if k=5 then text else old,if k=5 then old else text)
theorem FormP.inv {o:Op8} (h:FormP o):FormP (invO o):=by
 obtain⟨k,row,a,m,nodes,slot,old,text⟩:=o;rcases h with ⟨rfl | rfl,h⟩ | ⟨rfl | rfl,h⟩ | ⟨rfl,h1,h⟩
 ·exact .inl ⟨.inr rfl,h⟩
 ·exact .inl ⟨.inl rfl,h⟩
 ·exact .inr (.inl ⟨.inr rfl,h⟩)
 ·exact .inr (.inl ⟨.inl rfl,h⟩)
 ·exact .inr (.inr ⟨rfl,Ne.symm h1,h⟩)
theorem Chg.inv {l l':List Nd}{o:Op8} (hf:FormP o) (h:Chg l o l' 0):Chg l' (invO o) l 0:=by
 obtain⟨k,row,a,m,nodes,slot,old,text⟩:=o;cases h with
 | @ins _ p _ _ _ _ _ h =>
  have hl:=zSY l nodes (Nat.le_refl p) h;have h1:=zWy l nodes (q:=p) h;have h2:=zNo l nodes [] (q:=p) h;have h3:=zNn l (Nat.le_refl p)
  have h4:segS l p p=[] :=(by unfold segS; simp);rw[h4]at h3;have:=Chg.del (l:=splS l p p nodes) (row:=row) (p:=p) (m:=m) (nodes:=nodes) (slot:=slot) (old:=old) (text:=text) (by omega) h1;rw[h2,h3]at this;exact this
 | @del _ p _ _ _ _ _ h he =>
  have hl:=zSY l [] (Nat.le_add_right p nodes.length) h;have h2:=zNo l [] nodes (q:=p+nodes.length) (p:=p) (by omega)
  have h3:=zNn l (Nat.le_add_right p nodes.length)
  rw[he]at h3;simp only[List.length_nil,Nat.add_zero]at h2;have:=Chg.ins (l:=splS l p (p+nodes.length) []) (row:=row) (p:=p) (m:=m) (nodes:=nodes) (slot:=slot) (old:=old) (text:=text) (by simp only[List.length_nil]at hl; omega)
  rw[h2,h3]at this;exact this
 | @wrap _ p m v s _ _ h =>
  have ht:zU0 [v] (s:Int):=by
   rcases hf with ⟨h0 | h0,_⟩ | ⟨_,_,h0,_⟩ | ⟨h0,_⟩
   ·cases h0
   ·cases h0
   ·exact h0
   ·cases h0
  obtain⟨v',s',z,e1,e2,_,hz,hk⟩:=ht;cases e1;obtain rfl:=Int.ofNat.inj e2;have h1:=zYB l (q:=p+m) (zIR v s (segS l p (p+m))) (p:=p) (by omega)
  have h2:=zNo l [zIR v s (segS l p (p+m))] (segS l p (p+m)) (q:=p+m) (p:=p) (by omega)
  rw[zNn l (Nat.le_add_right p m)]at h2;have hk2:(zIR v s (segS l p (p+m))).kids[s]? = some (rowN (segS l p (p+m))):=zRY hz;have hm:((rowN (segS l p (p+m))).kids.length:Int)=(m:Int):=by
   have:=zZp l (Nat.le_add_right p m) h;show((segS l p (p+m)).length:Int)=m
   omega
  have:=Chg.unwrap (row:=row) (v:=v) (old:=old) (text:=text) h1 hk2 hm rfl;rw[show(rowN (segS l p (p+m))).kids=segS l p (p+m) from rfl]at this;simp only[List.length_cons,List.length_nil,Nat.zero_add]at h2;rw[h2]at this;exact this
 | @unwrap _ p _ v it z s _ _ h hz hm he =>
  have hp:=(List.getElem?_eq_some_iff.1 h).1;have hl:=zSY l z.kids (Nat.le_add_right p 1) (by omega)
  have h1:=zWy l z.kids (q:=p+1) (p:=p) (by omega)
  have h2:=zNo l z.kids [zIR v s z.kids] (q:=p+1) (p:=p) (by omega)
  have h3:=zNn l (Nat.le_add_right p 1)
  rw[zYA h,he]at h3;rw[h3]at h2;subst hm;have:=Chg.wrap (l:=splS l p (p+1) z.kids) (row:=row) (p:=p) (m:=z.kids.length) (v:=v) (s:=s) (old:=old) (text:=text) (by omega)
  rw[h1,h2]at this;exact this
 | @set _ p _ _ it _ _ _ h hl he =>
  have hp:=(List.getElem?_eq_some_iff.1 h).1;have h1:=zYB l (q:=p+1) (.mk it.kind text it.cols it.kids) (p:=p) (by omega)
  have h2:=zNo l [.mk it.kind text it.cols it.kids] [it] (q:=p+1) (p:=p) (by omega)
  have h3:=zNn l (Nat.le_add_right p 1)
  rw[zYA h]at h3;rw[h3]at h2;simp only[List.length_cons,List.length_nil,Nat.zero_add]at h2;have:=Chg.set (row:=row) (m:=m) (nodes:=nodes) (slot:=slot) (old:=text) (text:=old) h1 hl rfl;obtain⟨i1,i2,i3,i4⟩:=it;have he:i2=old:=he;subst he;simp only[Nd.kind,Nd.cols,Nd.kids]at this h2;rw[h2]at this;exact this
theorem zPB (o:Op8):(invO o).2.1=o.2.1:=rfl
theorem App.inv {t t':Nd}{o:Op8} (h:App t o t' 0):App t' (invO o) t 0/\zAA t'=true:=by
 cases h with
 | chg h hf hr hc he=>exact absurd rfl he
 | @ok r l h hf hr hc hv =>
  have hrr:=(zFR (hr.valid h)).1;have hput:=hr.put (rowN l)
  have hb:=hr.back (rowN l)
  have hci:=hc.inv hf;have:App (putL t o.2.1 (rowN l)) (invO o) (putL (putL t o.2.1 (rowN l)) (invO o).2.1 (rowN r.kids)) 0:=by
   refine App.ok hv hf.inv (r:=rowN l) (by rw[zPB]; exact hput) hci ?_;rw[zPB,show rowN r.kids=r from hrr.symm,hb]
   exact h
  rw[zPB,show rowN r.kids=r from hrr.symm,hb]at this;exact⟨this,hv⟩
theorem zTf {ks:List Nd}{i:Nat}{x y:Nd}{D:Nat} (h:ks[i]? = some x) (h1:Nd.deps ks<=D) (h2:y.dep<=D):Nd.deps (ks.set i y)<=D:=by
 induction ks generalizing i with
 | nil=>cases h
 | cons u ks ih =>
  simp only[Nd.deps]at h1;have a1:=Nat.le_trans (Nat.le_max_left _ _) h1;have a2:=Nat.le_trans (Nat.le_max_right _ _) h1;cases i with
  | zero=>simp only[List.set_cons_zero,Nd.deps]; exact Nat.max_le.2 ⟨h2,a2⟩
  | succ i=>simp only[List.set_cons_succ,Nd.deps]; exact Nat.max_le.2 ⟨a1,ih h a2⟩
theorem Fd.deep {t z:Nd}{p:List Int} (h:Fd t p z):z.dep+p.length<=t.dep:=by
 induction h with
 | nil t=>simp
 | @step k tx c ks i k2 tx2 c2 ks2 s z r' p hi hs _ ih =>
  have d1:=zEf (List.mem_of_getElem? hi)
  have d2:=zEf (List.mem_of_getElem? hs)
  simp only[Nd.dep,List.length_cons]at *
  omega
theorem Fd.put_dep {t z:Nd}{p:List Int} (h:Fd t p z) (r:Nd){D:Nat} (h1:t.dep<=D) (h2:r.dep+p.length<=D):(putL t p r).dep<=D:=by
 induction h generalizing D with
 | nil t=>rw[zC8]; simpa using h2
 | @step k tx c ks i k2 tx2 c2 ks2 s z r' p hi hs _ ih =>
  rw[zCd hi hs]
  have d1:=zEf (List.mem_of_getElem? hi)
  have d2:=zEf (List.mem_of_getElem? hs)
  simp only[Nd.dep,List.length_cons]at *;have:=ih (D:=D - 2) (by omega) (by omega)
  have e1:=zTf (D:=D - 2) (y:=putL z p r) hs (by omega) this;have e2:=zTf (D:=D - 1) (y:=.mk k2 tx2 c2 (ks2.set s (putL z p r))) hi (by omega) (by simp only[Nd.dep]; omega)
  omega
theorem zQ7 {k:Int}{ks:List Nd}{i:Nat}{x y:Nd} (h:ks[i]? = some x) (hf:zBo k ks=true) (hk:y.kind=x.kind) (hy:zCJ y=true):zBo k (ks.set i y)=true:=by
 induction ks generalizing i with
 | nil=>cases h
 | cons u ks ih =>
  simp only[zBo,Bool.and_eq_true]at hf;cases i with
  | zero =>
   obtain rfl:u=x:=Option.some.inj h;simp only[List.set_cons_zero,zBo,Bool.and_eq_true,hk]
   exact⟨⟨hf.1.1,hy⟩,hf.2⟩
  | succ i=>simp only[List.set_cons_succ,zBo,Bool.and_eq_true]; exact⟨hf.1,ih h hf.2⟩
theorem Fd.put_form {t z:Nd}{p:List Int} (h:Fd t p z){r:Nd} (hf:zCJ t=true) (hk:t.kind=1) (hr:zCJ r=true) (hrk:r.kind=1):zCJ (putL t p r)=true/\(putL t p r).kind=1:=by
 induction h with
 | nil t=>rw[zC8]; exact⟨hr,hrk⟩
 | @step k tx c ks i k2 tx2 c2 ks2 s z r' p hi hs hz ih =>
  obtain⟨f1,f2⟩:=zCK (zFA hf) (List.mem_of_getElem? hi)
  obtain⟨g1,g2⟩:=zCK (zFA f1) (List.mem_of_getElem? hs)
  have hk:k=1:=hk;subst hk;have f3:(k2 == 1)=false :=(by simpa [Nd.kind] using f2);have hzk:z.kind=1:=by
   rw[f3]at g2;cases e:z.kind == 1 with
   | true=>exact eq_of_beq e
   | false=>rw[e]at g2; cases g2
  obtain⟨i1,i2⟩:=ih g1 hzk;rw[zCd hi hs]
  refine⟨?_,rfl⟩
  have e1:=zQ7 (y:=putL z p r) hs (zFA f1) (i2.trans hzk.symm) i1;have f4:zCJ (.mk k2 tx2 c2 (ks2.set s (putL z p r)))=true:=by
   simp only[zCJ,Bool.and_eq_true,List.length_set]at f1 ⊢;exact⟨f1.1,e1⟩
  have e2:=zQ7 (y:=.mk k2 tx2 c2 (ks2.set s (putL z p r))) hi (zFA hf) rfl f4;simp only[zCJ,Bool.and_eq_true,List.length_set]at hf ⊢;exact⟨hf.1,e2⟩
theorem zFQ {t:Nd} (h:zAA t=true):t.kind=1/\zCJ t=true/\t.cnt<=1000/\t.dep<=24:=by
 unfold zAA at h;simp only[Bool.and_eq_true,decide_eq_true_eq]at h;exact⟨eq_of_beq h.1,h.2⟩
theorem zQd {t:Nd} (h1:t.kind=1) (h2:zCJ t=true) (h3:t.cnt<=1000) (h4:t.dep<=24):zAA t=true:=by
 unfold zAA;simp only[Bool.and_eq_true,decide_eq_true_eq]
 exact⟨by rw[h1]; rfl,h2,h3,h4⟩
def zB8:Nat->Nat->Nat->List Nd->List Nd->List (Nat×Nat)
 | k+1,i,j,x::xs,y::ys =>
  bif zBb x y&&(DL (x::xs) (y::ys) == DL xs ys+D x y) then (i,j)::zB8 k (i+1) (j+1) xs ys
  else bif (DL (x::xs) (y::ys) == DL xs (y::ys)+x.cnt)&&(!(DL (x::xs) (y::ys) == DL (x::xs) ys+y.cnt)||Op.bytesLess (zDT x) (zDT y)) then zB8 k (i+1) j xs (y::ys)
  else zB8 k i (j+1) (x::xs) ys
 | _,_,_,_,_=>[]
theorem zHG (a b:Nat):((a:Int) == (b:Int))=(a == b):=by
 by_cases h:a=b
 ·subst h; simp
 ·rw[beq_eq_false_iff_ne.2 h,beq_eq_false_iff_ne.2 (by omega)]
theorem zWE (P:Nd->Nd->Nat) (b:List Nd):∀ (a:List Nd) (i:Nat),i<=a.length->at? (tabD P a b) (i:Int)=some (sufs (TD P (a.drop i)) b)
 | [],0,_=>rfl
 | [],i+1,h=>by simp at h
 | x::xs,0,_=>rfl
 | x::xs,i+1,h=>by
  have:=zWE P b xs i (by simpa using h)
  unfold at? at this ⊢;rw[if_pos (by omega)]at this ⊢;simp only[Int.toNat_natCast]at this ⊢
  simpa [tabD] using this
theorem zNr (f:List Nd->Nat):∀ (b:List Nd) (j:Nat),j<=b.length->at? (sufs f b) (j:Int)=some (f (b.drop j):Int)
 | [],0,_=>rfl
 | [],j+1,h=>by simp at h
 | y::ys,0,_=>rfl
 | y::ys,j+1,h=>by
  have:=zNr f ys j (by simpa using h)
  unfold at? at this ⊢;rw[if_pos (by omega)]at this ⊢;simp only[Int.toNat_natCast]at this ⊢
  simpa [sufs] using this
theorem zTr {α β:Type} (f:α->β){l:List α}{i:Nat} (h:i<l.length):at? (l.map f) (i:Int)=some (f l[i]):=by
 rw[zBJ (by simpa using h)]; simp
def zCP (p:Nat×Nat):Int×Int:=((p.1:Int),(p.2:Int))
theorem zHZ (n:Nat){a b:List Nd} (ha:Nd.cnts a<=1000000) (hb:Nd.cnts b<=1000000) (hwa:∀ x∈a,2 * x.w<n/\x.w<=16777216/\x.rng) (hwb:∀ x∈b,2 * x.w<n/\x.w<=16777216/\x.rng) :
  ∀ (k i j:Nat) (l:List (Int×Int)),(a.length - i)+(b.length - j)<k->i<=a.length->j<=b.length->l.length<=i ->
   zBz n a b (tabD D a b) (a.map fun x=>b.map (prI x)) (a.map cntI) (b.map cntI) k (i:Int) (j:Int) l=some (l++(zB8 k i j (a.drop i) (b.drop j)).map zCP)
 | 0,_,_,_,h,_,_,_=>by omega
 | k+1,i,j,l,hk,hi,hj,hl=>by
  have la:=Nd.cnts_len a;have lb:=Nd.cnts_len b;unfold zBz
  by_cases hia:i<a.length
  ·rw[zBs (Int.ofNat_lt.2 hia),cond_true]
   by_cases hjb:j<b.length
   ·rw[zBs (Int.ofNat_lt.2 hjb),obs,cond_true]
    have hda:=List.drop_eq_getElem_cons hia;have hdb:=List.drop_eq_getElem_cons hjb;have ca:=Nd.cnts_drop hia;have cb:=Nd.cnts_drop hjb;obtain⟨x1,x2,x3⟩:=hwa _ (List.getElem_mem hia)
    obtain⟨y1,y2,y3⟩:=hwb _ (List.getElem_mem hjb)
    have ca':Nd.cnts (a.drop i)<=Nd.cnts a:=by
     have:=Nd.cnts_append (a.take i) (a.drop i); rw[List.take_append_drop]at this; omega
    have cb':Nd.cnts (b.drop j)<=Nd.cnts b:=by
     have:=Nd.cnts_append (b.take j) (b.drop j); rw[List.take_append_drop]at this; omega
    have b1:=zQC (P:=D) (a.drop i) (b.drop j)
    have b2:=zQC (P:=D) (a.drop (i+1)) (b.drop j)
    have b3:=zQC (P:=D) (a.drop i) (b.drop (j+1))
    have b4:=zQC (P:=D) (a.drop (i+1)) (b.drop (j+1))
    have b5:=D_le a[i] b[j];have t1:=zWE D b a i (by omega)
    have t2:=zWE D b a (i+1) (by omega)
    have s1:=zNr (TD D (a.drop i)) b j (by omega)
    have s2:=zNr (TD D (a.drop (i+1))) b j (by omega)
    have s3:=zNr (TD D (a.drop i)) b (j+1) (by omega)
    have s4:=zNr (TD D (a.drop (i+1))) b (j+1) (by omega)
    have p1:=zTr (fun x=>b.map (prI x)) hia;have p2:=zTr (prI a[i]) hjb;have c1:=zTr cntI hia;have c2:=zTr cntI hjb;have d1:=zLe n a[i] x1 x2 x3;have d2:=zLe n b[j] y1 y2 y3;rw[zAP (by omega),zAP (by omega)]
    simp only[t1,t2,s1,s2,s3,s4,p1,p2,c1,c2,obs,zBJ hia,zBJ hjb]
    have hx:(bif decide (0<=prI a[i] b[j]) then some ((TD D (a.drop i) (b.drop j):Int) == IntKind.i64.wrap ((TD D (a.drop (i+1)) (b.drop (j+1)):Int)+prI a[i] b[j])) else some false:Option Bool)=some (zBb a[i] b[j]&&(DL (a[i]::a.drop (i+1)) (b[j]::b.drop (j+1)) == DL (a.drop (i+1)) (b.drop (j+1))+D a[i] b[j])):=by
     unfold prI;cases hal:zBb a[i] b[j] with
     | false=>rfl
     | true =>
      rw[cond_true,zBs (by omega),cond_true,wrap64_in (by omega) (by omega),← Int.natCast_add,zHG,← hda,← hdb]; rfl
    rw[hx,obs,hda,hdb,zB8]
    cases zBb a[i] b[j]&&(DL (a[i]::a.drop (i+1)) (b[j]::b.drop (j+1)) == DL (a.drop (i+1)) (b.drop (j+1))+D a[i] b[j]) with
    | true =>
     simp only[cond_true]
     rw[zCs (by simp; omega),zHZ n ha hb hwa hwb k (i+1) (j+1) _ (by omega) (by omega) (by omega) (by simp; omega)]
     simp[zCP]
    | false =>
     simp only[cond_false]
     rw[← hda,← hdb,cntI,wrap64_in (by omega) (by omega),← Int.natCast_add,zHG,cntI,wrap64_in (by omega) (by omega),← Int.natCast_add,zHG]
     have hz:∀ X:Option Bool,X=some ((DL (a.drop i) (b.drop j) == DL (a.drop (i+1)) (b.drop j)+a[i].cnt)&&(!(DL (a.drop i) (b.drop j) == DL (a.drop i) (b.drop (j+1))+b[j].cnt)||Op.bytesLess (zDT a[i]) (zDT b[j])))->∀ K:Bool->Option (List (Int×Int)),X.bind K=K ((DL (a.drop i) (b.drop j) == DL (a.drop (i+1)) (b.drop j)+a[i].cnt)&&(!(DL (a.drop i) (b.drop j) == DL (a.drop i) (b.drop (j+1))+b[j].cnt)||Op.bytesLess (zDT a[i]) (zDT b[j]))):=fun X h K=>by rw[h]; rfl
     refine(hz _ ?_ _).trans ?_
     ·have key:∀ (p q r:Bool),(bif p then (bif !q then some true else some r) else some false:Option Bool)=some (p&&(!q||r)) :=(by intro p q r; cases p <;> cases q <;> rfl);rcases e:a[i] with ⟨e1,e2,e3,e4⟩
      rcases e':b[j] with ⟨f1,f2,f3,f4⟩
      rw[e]at d1;rw[e']at d2;simp only[d1,d2,obs]
      exact key _ _ _
     cases((DL (a.drop i) (b.drop j) == DL (a.drop (i+1)) (b.drop j)+a[i].cnt)&&(!(DL (a.drop i) (b.drop j) == DL (a.drop i) (b.drop (j+1))+b[j].cnt)||Op.bytesLess (zDT a[i]) (zDT b[j]))) with
     | true =>
      simp only[cond_true]
      rw[zHZ n ha hb hwa hwb k (i+1) j _ (by omega) (by omega) (by omega) (by omega)]
     | false =>
      simp only[cond_false]
      rw[zHZ n ha hb hwa hwb k i (j+1) _ (by omega) (by omega) (by omega) (by omega)]
   ·rw[zBn (by omega),obs,cond_false]
    obtain rfl:j=b.length :=(by omega);rw[List.drop_length]
    cases a.drop i <;> simp[zB8]
  ·rw[zBn (by omega),cond_false,obs,cond_false]
   obtain rfl:i=a.length :=(by omega);rw[List.drop_length]
   simp[zB8]
theorem zLH {t x:Nd} (hr:t.rng) (h:x∈t.kids):x.rng:=by
 obtain⟨a,b,c,ks⟩:=t;exact Nd.rng_mem hr.2.2 h
theorem zZE (x y:Nd) (xs ys:List Nd):(zBb x y=true/\DL (x::xs) (y::ys)=DL xs ys+D x y)∨DL (x::xs) (y::ys)=DL xs (y::ys)+x.cnt∨DL (x::xs) (y::ys)=DL (x::xs) ys+y.cnt:=by
 have h:DL (x::xs) (y::ys)=if zBb x y then min (min (x.cnt+DL xs (y::ys)) (y.cnt+DL (x::xs) ys)) (D x y+DL xs ys) else min (x.cnt+DL xs (y::ys)) (y.cnt+DL (x::xs) ys):=rfl
 split at h
 ·rename_i ha
  simp only[Nat.min_def]at h
  repeat' split at h
  ·right; left; omega
  ·left; exact⟨ha,by omega⟩
  ·right; right; omega
  ·left; exact⟨ha,by omega⟩
 ·simp only[Nat.min_def]at h;split at h
  ·right; left; omega
  ·right; right; omega
def Good (t:Nd) (p:List Int) (l:List Nd):Prop:=zAA t=true/\Fd t p (rowN l)
theorem zZY {t z u:Nd}{p q:List Int} (h:Fd t p z) (h2:Fd z q u):Fd t (p++q) u:=by
 induction h with
 | nil t=>exact h2
 | step hi hs _ ih=>exact .step hi hs (ih h2)
theorem zZi {t z:Nd}{p:List Int} (h:Fd t p z) (q:List Int) (r:Nd):putL t (p++q) r=putL t p (putL z q r):=by
 induction h with
 | nil t=>rw[List.nil_append,zC8]
 | @step k tx c ks i k2 tx2 c2 ks2 s z r' p hi hs _ ih=>rw[List.cons_append,List.cons_append,zCd hi hs,zCd hi hs,ih]
theorem zP2 {l:List Nd} (h:zBo 1 l=true) (hl:l.length<=200):zCJ (rowN l)=true:=by
 have:((l.length:Nat):Int)<=200 :=(by omega);simp[rowN,zCJ,zJ9,zML,h,this]
theorem zTH {l:List Nd} (h:zCJ (rowN l)=true):l.length<=200:=by
 simp[rowN,zCJ,zJ9,zML]at h
 omega
theorem zEP (l:List Nd):(rowN l).cnt=Nd.cnts l+1:=by simp[rowN,Nd.cnt]
theorem zLM (l:List Nd):(rowN l).dep=Nd.deps l+1:=rfl
theorem Good.row {t:Nd}{p:List Int}{l:List Nd} (h:Good t p l):zBo 1 l=true/\l.length<=200/\Nd.deps l+1+p.length<=24/\Nd.cnts l+1<=t.cnt/\t.cnt<=1000:=by
 obtain⟨k,f,c,d⟩:=zFQ h.1;obtain⟨f1,f2⟩:=h.2.form f k;have d1:=h.2.deep;have s1:=h.2.small;rw[zLM]at d1;rw[zEP]at s1;exact⟨(zF4 f1 rfl).2,zTH f1,by omega,s1.1,c⟩
theorem Good.put {t:Nd}{p:List Int}{l l':List Nd} (h:Good t p l) (hf:zBo 1 l'=true) (hl:l'.length<=200) (hd:Nd.deps l'+1+p.length<=24) (hc:t.cnt+Nd.cnts l'<=1000+Nd.cnts l):Good (putL t p (rowN l')) p l':=by
 obtain⟨k,f,c,d⟩:=zFQ h.1;obtain⟨g1,g2⟩:=h.2.put_form f k (zP2 hf hl) rfl;have hcn:=h.2.cnt (rowN l')
 rw[zEP,zEP]at hcn;exact⟨zQd g2 g1 (by omega) (h.2.put_dep (rowN l') d (by rw[zLM]; omega)),h.2.put _⟩
theorem zVY {x:Nd}{l:List Nd} (h:zBo 1 l=true) (hx:x∈l) (hc:Nd.cnts l<=999) (hd:Nd.deps l<=23):zAA (rowN [x])=true:=by
 obtain⟨f1,f2⟩:=zCK h hx;have c1:=Nd.cnts_mem hx;have d1:=zEf hx;refine zQd rfl (zP2 ?_ (by simp)) (by rw[zEP]; simp only[Nd.cnts]; omega) (by rw[zLM]; simp only[Nd.deps]; exact Nat.succ_le_succ (Nat.max_le.2 ⟨by omega,Nat.zero_le _⟩))
 show((!((x.kind == 1) == ((1:Int) == 1))&&zCJ x)&&true)=true;rw[f2,f1]
 rfl
theorem zEi {k:Int}:∀ {a b:List Nd},zBo k (a++b)=true↔zBo k a=true/\zBo k b=true
 | [],b=>by simp[zBo]
 | x::a,b=>by simp only[List.cons_append,zBo,Bool.and_eq_true,zEi (a:=a),and_assoc]
theorem zLA:∀ {a b:List Nd},Nd.deps (a++b)=Nat.max (Nd.deps a) (Nd.deps b)
 | [],b=>by simp[Nd.deps]
 | x::a,b=>by
  simp only[List.cons_append,Nd.deps,zLA (a:=a)]
  exact(Nat.max_assoc _ _ _).symm
def zGx (p:List Int) (i:Nat) (x:Nd):Op8:=(2,p,(i:Int),0,[x],0,[],[])
def zFS (p:List Int) (j:Nat) (y:Nd):Op8:=(1,p,(j:Int),0,[y],0,[],[])
def zKL (p:List Int) (j:Nat) (old text:List UInt8):Op8:=(5,p,(j:Int),0,[],0,old,text)
theorem zSZ (pre mid post b:List Nd):splS (pre++mid++post) pre.length (pre.length+mid.length) b=pre++b++post:=by
 have h1:(pre++mid++post).take pre.length=pre :=(by rw[List.append_assoc]; exact List.take_left' rfl);have h2:(pre++mid++post).drop (pre.length+mid.length)=post :=(by rw[← List.length_append]; exact List.drop_left' rfl);unfold splS;rw[h1,h2]
theorem zZq (pre mid post:List Nd):segS (pre++mid++post) pre.length (pre.length+mid.length)=mid:=by
 unfold segS;rw[← List.length_append,List.take_left' rfl,List.drop_left' rfl]
theorem Good.del {t:Nd}{p:List Int}{pre post:List Nd}{x:Nd} (h:Good t p (pre++x::post)):App t (zGx p pre.length x) (putL t p (rowN (pre++post))) 0/\Good (putL t p (rowN (pre++post))) p (pre++post):=by
 obtain⟨r1,r2,r3,r4,r5⟩:=h.row;have hv:zAA (rowN [x])=true:=zVY r1 (x:=x) (by simp) (by omega) (by omega)
 have e:pre++x::post=pre++[x]++post :=(by simp);have hc:Chg (rowN (pre++x::post)).kids (zGx p pre.length x) (pre++post) 0:=by
  have:=Chg.del (l:=pre++[x]++post) (row:=p) (p:=pre.length) (m:=0) (nodes:=[x]) (slot:=0) (old:=[]) (text:=[]) (by simp) (zZq pre [x] post)
  rw[show pre.length + [x].length=pre.length + [x].length from rfl,zSZ,List.append_nil]at this;rw[e]
  exact this
 have g:Good (putL t p (rowN (pre++post))) p (pre++post):=by
  obtain⟨f1,f2⟩:=zEi.1 r1;simp only[zBo,Bool.and_eq_true]at f2;refine h.put (zEi.2 ⟨f1,f2.2⟩) (by simp only[List.length_append,List.length_cons]at r2 ⊢; omega) ?_ ?_
  ·have:Nd.deps (pre++post)<=Nd.deps (pre++x::post):=by
    rw[zLA,zLA]
    exact Nat.max_le.2 ⟨Nat.le_max_left _ _,Nat.le_trans (by simp only[Nd.deps]; exact Nat.le_max_right _ _) (Nat.le_max_right _ _)⟩
   omega
  ·simp only[Nd.cnts_append,Nd.cnts]; omega
 exact⟨.ok h.1 (.inl ⟨.inr rfl,by simp,hv,rfl,rfl,rfl,rfl⟩) h.2 hc g.1,g⟩
theorem zG2 {t u v:Nd}{a b:List Op8}{e e':Int} (h:Runs t a u e) (he:e=0) (h2:Runs u b v e'):Runs t (a++b) v e':=by
 induction h with
 | nil t=>exact h2
 | stop h he'=>exact absurd he he'
 | next h _ ih=>exact .next h (ih he h2)
inductive Mv where | mat | del | ins
inductive Sc:List Mv->List Nd->List Nd->Prop
 | nil:Sc [] [] []
 | mat {s:List Mv} {x y:Nd} {xs ys:List Nd} (ha:zBb x y=true) (h:Sc s xs ys):Sc (.mat::s) (x::xs) (y::ys)
 | del {s:List Mv} {x:Nd} {xs b:List Nd} (h:Sc s xs b):Sc (.del::s) (x::xs) b
 | ins {s:List Mv} {y:Nd} {a ys:List Nd} (h:Sc s a ys):Sc (.ins::s) a (y::ys)
def reI (v:Nd) (ks:List Nd):Nd:=.mk v.kind v.text v.cols ks
abbrev RowR:=List Nd->List Nd->List Nd
abbrev RowO:=List Int->List Nd->List Nd->List Op8
def slotL (F:RowR):List Nd->List Nd->List Nd
 | u::us,v::vs=>rowN (F u.kids v.kids)::slotL F us vs
 | _,_=>[]
def delW (F:RowR):List Mv->List Nd->List Nd->List Nd
 | .mat::s,x::xs,y::ys=>reI x (slotL F x.kids y.kids)::delW F s xs ys
 | .del::s,_::xs,b=>delW F s xs b
 | .ins::s,a,_::ys=>delW F s a ys
 | _,_,_=>[]
def zCv (G:RowO) (p:List Int) (i:Nat):Nat->List Nd->List Nd->List Op8
 | s,u::us,v::vs=>zCv G p i (s+1) us vs++G (p++[(i:Int),(s:Int)]) u.kids v.kids
 | _,_,_=>[]
def zDk (G:RowO) (p:List Int):Nat->List Mv->List Nd->List Nd->List Op8
 | i,.mat::s,x::xs,y::ys=>zDk G p (i+1) s xs ys++zCv G p i 0 x.kids y.kids
 | i,.del::s,x::xs,b=>zDk G p (i+1) s xs b++[zGx p i x]
 | i,.ins::s,a,_::ys=>zDk G p i s a ys
 | _,_,_,_=>[]
def Does (G:RowO) (F:RowR) (a b:List Nd):Prop:=∀ t q,Good t q a->Runs t (G q a b) (putL t q (rowN (F a b))) 0/\Good (putL t q (rowN (F a b))) q (F a b)
theorem Good.slot {t:Nd}{p:List Int}{pre post pk us:List Nd}{v u:Nd} (h:Good t p (pre++reI v (pk++u::us)::post)):u=rowN u.kids/\Good t (p++[(pre.length:Int),(pk.length:Int)]) u.kids /\
  ∀ r,putL t (p++[(pre.length:Int),(pk.length:Int)]) r=putL t p (rowN (pre++reI v (pk++r::us)::post)):=by
 obtain⟨r1,_⟩:=h.row;obtain⟨_,f2⟩:=zEi.1 r1;have hit:(pre++reI v (pk++u::us)::post)[pre.length]? = some (.mk v.kind v.text v.cols (pk++u::us)) :=(by simp[reI]);have hsl:(pk++u::us)[pk.length]? = some u :=(by simp);obtain⟨_,hu⟩:=zLP r1 (List.mem_of_getElem? hit) (s:=pk.length) (z:=u) hsl;have fd:Fd (rowN (pre++reI v (pk++u::us)::post)) [(pre.length:Int),(pk.length:Int)] u:=.step hit hsl (.nil u)
 refine⟨hu,⟨h.1,?_⟩,fun r=>?_⟩
 ·rw[← hu]
  exact zZY h.2 fd
 ·rw[zZi h.2]
  congr 1
  have:=zCd (k:=1) (tx:=[]) (c:=0) (r:=r) (p:=[]) hit hsl;rw[zC8]at this;refine this.trans ?_;unfold rowN
  congr 1
  rw[List.set_append_right _ _ (Nat.le_refl _),Nat.sub_self,List.set_cons_zero,List.set_append_right _ _ (Nat.le_refl _),Nat.sub_self,List.set_cons_zero]
  rfl
theorem zOR {G:RowO}{F:RowR}{p:List Int}{pre post:List Nd}{x:Nd}:∀ (us vs pk:List Nd) (t:Nd),us.length=vs.length->(∀ u∈us,∀ v∈vs,Does G F u.kids v.kids)->Good t p (pre++reI x (pk++us)::post) ->
  Runs t (zCv G p pre.length pk.length us vs) (putL t p (rowN (pre++reI x (pk++slotL F us vs)::post))) 0/\Good (putL t p (rowN (pre++reI x (pk++slotL F us vs)::post))) p (pre++reI x (pk++slotL F us vs)::post)
 | [],[],pk,t,_,_,h=>by
  simp only[zCv,slotL]
  rw[h.2.put_self]
  exact⟨.nil _,h⟩
 | [],_::_,_,_,hl,_,_=>by cases hl
 | _::_,[],_,_,hl,_,_=>by cases hl
 | u::us,v::vs,pk,t,hl,hD,h=>by
  have e:pk++u::us=(pk++[u])++us :=(by simp);rw[e]at h;obtain⟨h1,h2⟩:=zOR us vs (pk++[u]) t (by simpa using hl) (fun u hu v hv=>hD u (List.mem_cons_of_mem _ hu) v (List.mem_cons_of_mem _ hv)) h;have e2:(pk++[u])++slotL F us vs=pk++u::slotL F us vs :=(by simp);rw[e2]at h1 h2;obtain⟨_,g2,g3⟩:=h2.slot;obtain⟨k1,k2⟩:=hD u List.mem_cons_self v List.mem_cons_self _ _ g2;rw[g3,h.2.put_put]at k1 k2;simp only[zCv,slotL]
  rw[List.length_append,List.length_singleton]at h1;refine⟨zG2 h1 rfl k1,⟨k2.1,h.2.put _⟩⟩
theorem zP1 (x:Nd):reI x x.kids=x:=by cases x; rfl
theorem del_walk {G:RowO}{F:RowR}{p:List Int}{s:List Mv}{a b:List Nd} (hs:Sc s a b):(∀ x∈a,∀ y∈b,∀ u∈x.kids,∀ v∈y.kids,Does G F u.kids v.kids)->∀ (pre:List Nd) (t:Nd),Good t p (pre++a) ->
  Runs t (zDk G p pre.length s a b) (putL t p (rowN (pre++delW F s a b))) 0/\Good (putL t p (rowN (pre++delW F s a b))) p (pre++delW F s a b):=by
 induction hs with
 | nil =>
  intro _ pre t h;simp only[zDk,delW]
  rw[h.2.put_self]
  exact⟨.nil _,h⟩
 | @mat s x y xs ys ha _ ih =>
  intro hD pre t h;have e:pre++x::xs=(pre++[x])++xs :=(by simp);have h':=h;rw[e]at h';obtain⟨h1,h2⟩:=ih (fun x hx y hy=>hD x (List.mem_cons_of_mem _ hx) y (List.mem_cons_of_mem _ hy)) (pre++[x]) t h';have e2:(pre++[x])++delW F s xs ys=pre++x::delW F s xs ys :=(by simp);rw[e2]at h1 h2;rw[List.length_append,List.length_singleton]at h1;have h3:Good (putL t p (rowN (pre++x::delW F s xs ys))) p (pre++reI x ([]++x.kids)::delW F s xs ys):=by
   rw[List.nil_append,zP1]; exact h2
  obtain⟨k1,k2⟩:=zOR (G:=G) (F:=F) (p:=p) (pre:=pre) (post:=delW F s xs ys) (x:=x) x.kids y.kids [] _ (zCH.1 ha).2.1 (hD x List.mem_cons_self y List.mem_cons_self) h3;rw[List.nil_append,List.length_nil]at k1;rw[List.nil_append]at k2;rw[h.2.put_put]at k1 k2;simp only[zDk,delW]
  exact⟨zG2 h1 rfl k1,k2⟩
 | @del s x xs b _ ih =>
  intro hD pre t h;have e:pre++x::xs=(pre++[x])++xs :=(by simp);have h':=h;rw[e]at h';obtain⟨h1,h2⟩:=ih (fun x hx y hy=>hD x (List.mem_cons_of_mem _ hx) y hy) (pre++[x]) t h';have e2:(pre++[x])++delW F s xs b=pre++x::delW F s xs b :=(by simp);rw[e2]at h1 h2;rw[List.length_append,List.length_singleton]at h1;obtain⟨k1,k2⟩:=h2.del;rw[h.2.put_put]at k1 k2;simp only[zDk,delW]
  exact⟨zG2 h1 rfl (.next k1 (.nil _)),k2⟩
 | @ins s y a ys _ ih =>
  intro hD pre t h;simp only[zDk,delW]
  exact ih (fun x hx y hy=>hD x hx y (List.mem_cons_of_mem _ hy)) pre t h
def setO (p:List Int) (j:Nat) (x y:Nd):List Op8:=if x.text=y.text then [] else [zKL p j x.text y.text]
def zCt (G:RowO) (p:List Int) (j:Nat):Nat->List Nd->List Nd->List Op8
 | s,u::us,v::vs=>G (p++[(j:Int),(s:Int)]) u.kids v.kids++zCt G p j (s+1) us vs
 | _,_,_=>[]
def zDj (G:RowO) (p:List Int):Nat->List Mv->List Nd->List Nd->List Op8
 | j,.mat::s,x::xs,y::ys=>setO p j x y++(zCt G p j 0 x.kids y.kids++zDj G p (j+1) s xs ys)
 | j,.del::s,_::xs,b=>zDj G p j s xs b
 | j,.ins::s,a,y::ys=>zFS p j y::zDj G p (j+1) s a ys
 | _,_,_,_=>[]
def yAs (t:Nd) (q:List Int) (l b:List Nd):Prop:=t.cnt+Nd.cnts b<=1000+Nd.cnts l/\zBo 1 b=true/\b.length<=200/\Nd.deps b+1+q.length<=24
def zYM (G:RowO) (F:RowR) (a b:List Nd):Prop:=Nd.cnts (F a b)<=Nd.cnts b/\∀ t q,Good t q (F a b)->yAs t q (F a b) b->Runs t (G q a b) (putL t q (rowN b)) 0/\Good (putL t q (rowN b)) q b
theorem zWF {k:Int}{t1 t2:List UInt8} (h1:zJ9 k t1=true) (h2:zJ9 k t2=true) (hne:t1 ≠ t2):zSE k=true:=by
 unfold zJ9 at h1 h2;unfold zSE
 by_cases e2:k=2
 ·subst e2; rfl
 ·by_cases e3:k=3
  ·subst e3; rfl
  ·by_cases e4:k=4
   ·subst e4; rfl
   ·by_cases e10:k=10
    ·subst e10; rfl
    ·by_cases e11:k=11
     ·subst e11; rfl
     ·rw[if_neg e2,if_neg e3,if_neg e4,if_neg e10,if_neg e11]at h1 h2;exact absurd ((eq_of_beq h1).trans (eq_of_beq h2).symm) hne
theorem zKs {v:Nd} (h:zCJ v=true):zJ9 v.kind v.text=true/\zML v.kind v.cols (v.kids.length:Int)=true/\zBo v.kind v.kids=true:=by
 cases v;simp only[zCJ,Bool.and_eq_true]at h;exact⟨h.1.1,h.1.2,h.2⟩
theorem zY5 {k:Int}{t:List UInt8}{c:Int}{ks:List Nd} (h1:zJ9 k t=true) (h2:zML k c (ks.length:Int)=true) (h3:zBo k ks=true):zCJ (.mk k t c ks)=true:=by
 simp only[zCJ,Bool.and_eq_true]
 exact⟨⟨h1,h2⟩,h3⟩
theorem Good.cnt_put {t:Nd}{p:List Int}{l:List Nd} (h:Good t p l) (l':List Nd):(putL t p (rowN l')).cnt+Nd.cnts l=t.cnt+Nd.cnts l':=by
 have:=h.2.cnt (rowN l')
 rw[zEP,zEP]at this
 omega
theorem zD0 {x:Nd}{l:List Nd}{D:Nat}:Nd.deps (x::l)<=D↔x.dep<=D/\Nd.deps l<=D:=by
 simp only[Nd.deps]
 exact Nat.max_le
theorem zGO {a b:List Nd}{D:Nat}:Nd.deps (a++b)<=D↔Nd.deps a<=D/\Nd.deps b<=D:=by
 rw[zLA]
 exact Nat.max_le
theorem Good.repl {t:Nd}{p:List Int}{pre post:List Nd}{x x':Nd} (h:Good t p (pre++x::post)) (hf:zCJ x'=true) (hk:x'.kind=x.kind) (hd:x'.dep+1+p.length<=24) (hc:t.cnt+x'.cnt<=1000+x.cnt):Good (putL t p (rowN (pre++x'::post))) p (pre++x'::post):=by
 obtain⟨r1,r2,r3,r4,r5⟩:=h.row;obtain⟨f1,f2⟩:=zEi.1 r1;refine h.put ?_ (by simpa using r2) ?_ ?_
 ·refine zEi.2 ⟨f1,?_⟩
  simp only[zBo,Bool.and_eq_true]at f2 ⊢;rw[hk]
  exact⟨⟨f2.1.1,hf⟩,f2.2⟩
 ·have h1:Nd.deps (pre++x::post)<=23 - p.length :=(by omega);obtain⟨d1,d2⟩:=zGO.1 h1;obtain⟨d3,d4⟩:=zD0.1 d2;have:Nd.deps (pre++x'::post)<=23 - p.length:=zGO.2 ⟨d1,zD0.2 ⟨by omega,d4⟩⟩
  omega
 ·simp only[Nd.cnts_append,Nd.cnts]; omega
theorem Good.setT {t:Nd}{p:List Int}{pre post:List Nd}{x:Nd}{text:List UInt8} (h:Good t p (pre++x::post)) (ht:zJ9 x.kind text=true) (hne:x.text ≠ text) :
  App t (zKL p pre.length x.text text) (putL t p (rowN (pre++.mk x.kind text x.cols x.kids::post))) 0/\Good (putL t p (rowN (pre++.mk x.kind text x.cols x.kids::post))) p (pre++.mk x.kind text x.cols x.kids::post):=by
 obtain⟨r1,r2,r3,r4,r5⟩:=h.row;obtain⟨f1,f2⟩:=zEi.1 r1;simp only[zBo,Bool.and_eq_true]at f2;obtain⟨p1,p2,p3⟩:=zKs f2.1.2;have e1:(Nd.mk x.kind text x.cols x.kids).dep=x.dep :=(by cases x; rfl);have e2:(Nd.mk x.kind text x.cols x.kids).cnt=x.cnt :=(by cases x; rfl);have hd:x.dep<=Nd.deps (pre++x::post):=zEf (by simp)
 have g:Good (putL t p (rowN (pre++.mk x.kind text x.cols x.kids::post))) p (pre++.mk x.kind text x.cols x.kids::post) :=
  h.repl (zY5 ht p2 p3) rfl (by rw[e1]; omega) (by rw[e2]; omega)
 have hc:Chg (rowN (pre++x::post)).kids (zKL p pre.length x.text text) (pre++.mk x.kind text x.cols x.kids::post) 0:=by
  have:=Chg.set (l:=pre++[x]++post) (row:=p) (p:=pre.length) (m:=0) (nodes:=[]) (it:=x) (slot:=0) (old:=x.text) (text:=text) (by simp) (zWF p1 ht hne) rfl;have e:=zSZ pre [x] post [.mk x.kind text x.cols x.kids]
  rw[List.length_singleton]at e;rw[e]at this;have e3:pre++[x]++post=pre++x::post :=(by simp);have e4:pre++[Nd.mk x.kind text x.cols x.kids]++post=pre++.mk x.kind text x.cols x.kids::post :=(by simp);rw[e3,e4]at this;exact this
 exact⟨.ok h.1 (.inr (.inr ⟨rfl,hne,rfl,rfl,rfl⟩)) h.2 hc g.1,g⟩
theorem Good.insI {t:Nd}{p:List Int}{pre post:List Nd}{y:Nd} (h:Good t p (pre++post)) (hf:zCJ y=true) (hk:((y.kind == 1) == ((1:Int) == 1))=false) (hl:pre.length+post.length+1<=200) (hd:y.dep+1+p.length<=24) (hc:t.cnt+y.cnt<=1000) :
  App t (zFS p pre.length y) (putL t p (rowN (pre++y::post))) 0/\Good (putL t p (rowN (pre++y::post))) p (pre++y::post):=by
 obtain⟨r1,r2,r3,r4,r5⟩:=h.row;obtain⟨f1,f2⟩:=zEi.1 r1;have hy:zBo 1 [y]=true:=by
  show((!((y.kind == 1) == ((1:Int) == 1))&&zCJ y)&&true)=true;rw[hk,hf]; rfl
 have hv:zAA (rowN [y])=true:=by
  have:=t.cnt_pos;refine zQd rfl (zP2 hy (by simp)) (by rw[zEP]; simp only[Nd.cnts]; omega) (by rw[zLM]; simp only[Nd.deps]; exact Nat.succ_le_succ (Nat.max_le.2 ⟨by omega,Nat.zero_le _⟩))
 have g:Good (putL t p (rowN (pre++y::post))) p (pre++y::post):=by
  refine h.put ?_ (by simp only[List.length_append,List.length_cons]; omega) ?_ ?_
  ·refine zEi.2 ⟨f1,?_⟩
   simp only[zBo,Bool.and_eq_true]
   exact⟨⟨by rw[hk]; rfl,hf⟩,f2⟩
  ·have h1:Nd.deps (pre++post)<=23 - p.length :=(by omega);obtain⟨d1,d2⟩:=zGO.1 h1;have:Nd.deps (pre++y::post)<=23 - p.length:=zGO.2 ⟨d1,zD0.2 ⟨by omega,d2⟩⟩
   omega
  ·simp only[Nd.cnts_append,Nd.cnts]; omega
 have hc':Chg (rowN (pre++post)).kids (zFS p pre.length y) (pre++y::post) 0:=by
  have:=Chg.ins (l:=pre++[]++post) (row:=p) (p:=pre.length) (m:=0) (nodes:=[y]) (slot:=0) (old:=[]) (text:=[]) (by simp)
  have e:=zSZ pre [] post [y]
  rw[List.length_nil,Nat.add_zero]at e;rw[e]at this;have e3:pre++[]++post=pre++post :=(by simp);have e4:pre++[y]++post=pre++y::post :=(by simp);rw[e3,e4]at this;exact this
 exact⟨.ok h.1 (.inl ⟨.inl rfl,by simp,hv,rfl,rfl,rfl,rfl⟩) h.2 hc' g.1,g⟩
theorem zNl (F:RowR):∀ (us vs:List Nd),(∀ u∈us,∀ v∈vs,Nd.cnts (F u.kids v.kids)<=Nd.cnts v.kids)->Nd.cnts (slotL F us vs)<=Nd.cnts vs
 | [],vs,_=>by simp only[slotL,Nd.cnts]; omega
 | _::_,[],_=>by simp only[slotL,Nd.cnts]; omega
 | u::us,v::vs,h=>by
  have h1:=h u List.mem_cons_self v List.mem_cons_self;have h2:=zNl F us vs fun u hu v hv=>h u (List.mem_cons_of_mem _ hu) v (List.mem_cons_of_mem _ hv)
  have e:=v.cnt_kids;simp only[slotL,Nd.cnts,zEP]
  omega
theorem zPn (F:RowR){s:List Mv}{a b:List Nd} (hs:Sc s a b):(∀ x∈a,∀ y∈b,∀ u∈x.kids,∀ v∈y.kids,Nd.cnts (F u.kids v.kids)<=Nd.cnts v.kids)->Nd.cnts (delW F s a b)<=Nd.cnts b:=by
 induction hs with
 | nil=>intro _; exact Nat.le_refl _
 | @mat s x y xs ys ha _ ih =>
  intro h;have h1:=zNl F x.kids y.kids (h x List.mem_cons_self y List.mem_cons_self)
  have h2:=ih fun x hx y hy=>h x (List.mem_cons_of_mem _ hx) y (List.mem_cons_of_mem _ hy)
  have e:=y.cnt_kids;have e2:(reI x (slotL F x.kids y.kids)).cnt=Nd.cnts (slotL F x.kids y.kids)+1:=Nd.cnt_kids _;simp only[delW,Nd.cnts]
  omega
 | @del s x xs b _ ih=>intro h; exact ih fun x hx=>h x (List.mem_cons_of_mem _ hx)
 | @ins s y a ys _ ih =>
  intro h;have h2:=ih fun x hx y hy=>h x hx y (List.mem_cons_of_mem _ hy)
  simp only[delW,Nd.cnts]
  omega
theorem zNm {G:RowO}{F:RowR}{p:List Int}{pre post:List Nd}{y:Nd}:∀ (us vs pk:List Nd) (t:Nd),us.length=vs.length->(∀ u∈us,∀ v∈vs,zYM G F u.kids v.kids)->(∀ v∈vs,zCJ v=true/\v=rowN v.kids)->t.cnt+Nd.cnts vs<=1000+Nd.cnts (slotL F us vs)->Nd.deps vs+2+p.length<=24 ->
  Good t p (pre++reI y (pk++slotL F us vs)::post) ->
  Runs t (zCt G p pre.length pk.length us vs) (putL t p (rowN (pre++reI y (pk++vs)::post))) 0/\Good (putL t p (rowN (pre++reI y (pk++vs)::post))) p (pre++reI y (pk++vs)::post)
 | [],[],pk,t,_,_,_,_,_,h=>by
  simp only[zCt,slotL]at h ⊢;rw[h.2.put_self]
  exact⟨.nil _,h⟩
 | [],_::_,_,_,hl,_,_,_,_,_=>by cases hl
 | _::_,[],_,_,hl,_,_,_,_,_=>by cases hl
 | u::us,v::vs,pk,t,hl,hD,hv,hc,hd,h=>by
  simp only[slotL]at h;obtain⟨g1,g2,g3⟩:=h.slot;have g1':(rowN (F u.kids v.kids)).kids=F u.kids v.kids:=rfl;rw[g1']at g2;obtain⟨v1,v2⟩:=hv v List.mem_cons_self;have hvf:zCJ (rowN v.kids)=true :=(by rw[← v2]; exact v1);have cv:=v.cnt_kids;have dv:v.dep=Nd.deps v.kids+1 :=(by cases v; rfl);have hmo:=zNl F us vs fun u hu v hv=>(hD u (List.mem_cons_of_mem _ hu) v (List.mem_cons_of_mem _ hv)).1
  simp only[slotL,Nd.cnts,zEP]at hc;have hdd:Nd.deps (v::vs)<=22 - p.length :=(by omega);obtain⟨hd1,hd2⟩:=zD0.1 hdd;obtain⟨k1,k2⟩:=(hD u List.mem_cons_self v List.mem_cons_self).2 _ _ g2 ⟨by omega,(zF4 hvf rfl).2,zTH hvf,by simp only[List.length_append,List.length_cons,List.length_nil]; omega⟩
  have hcn:=g2.cnt_put v.kids;rw[g3,← v2]at k1;rw[g3,← v2]at k2;rw[g3,← v2]at hcn;have g4:Good (putL t p (rowN (pre++reI y (pk++v::slotL F us vs)::post))) p (pre++reI y ((pk++[v])++slotL F us vs)::post):=by
   refine⟨k2.1,?_⟩
   have e:(pk++[v])++slotL F us vs=pk++v::slotL F us vs :=(by simp);rw[e]
   exact h.2.put _
  obtain⟨m1,m2⟩:=zNm us vs (pk++[v]) _ (by simpa using hl) (fun u hu v hv=>hD u (List.mem_cons_of_mem _ hu) v (List.mem_cons_of_mem _ hv)) (fun v h=>hv v (List.mem_cons_of_mem _ h)) (by omega) (by omega) g4;have e2:(pk++[v])++vs=pk++v::vs :=(by simp);rw[e2,h.2.put_put,List.length_append,List.length_singleton]at m1;rw[e2,h.2.put_put]at m2;simp only[zCt]
  exact⟨zG2 k1 rfl m1,m2⟩
theorem zXc (F:RowR){s:List Mv}{a b:List Nd} (h:Sc s a b):(delW F s a b).length<=b.length:=by
 induction h with
 | nil=>exact Nat.zero_le _
 | mat ha h ih=>simp only[delW,List.length_cons]; omega
 | del h ih=>simp only[delW]; exact ih
 | ins h ih=>simp only[delW,List.length_cons]; omega
theorem zW6 {G:RowO}{F:RowR}{p:List Int}{s:List Mv}{a b:List Nd} (hs:Sc s a b):(∀ x∈a,∀ y∈b,∀ u∈x.kids,∀ v∈y.kids,zYM G F u.kids v.kids)->zBo 1 b=true->Nd.deps b+1+p.length<=24->∀ (pre:List Nd) (t:Nd),Good t p (pre++delW F s a b)->t.cnt+Nd.cnts b<=1000+Nd.cnts (delW F s a b)->pre.length+b.length<=200 ->
  Runs t (zDj G p pre.length s a b) (putL t p (rowN (pre++b))) 0/\Good (putL t p (rowN (pre++b))) p (pre++b):=by
 induction hs with
 | nil =>
  intro _ _ _ pre t h _ _;simp only[zDj,delW]at h ⊢;rw[h.2.put_self]
  exact⟨.nil _,h⟩
 | @mat s x y xs ys ha hsc ih =>
  intro hD hf hd pre t h hc hlen;obtain⟨a1,a2,a3⟩:=zCH.1 ha;have hmo:=zPn F hsc fun x hx y hy u hu v hv=>(hD x (List.mem_cons_of_mem _ hx) y (List.mem_cons_of_mem _ hy) u hu v hv).1
  have cr:(reI x (slotL F x.kids y.kids)).cnt=Nd.cnts (slotL F x.kids y.kids)+1:=Nd.cnt_kids _;simp only[delW]at h hc;simp only[zBo,Bool.and_eq_true,Bool.not_eq_true']at hf;obtain⟨⟨hfk,hfy⟩,hfs⟩:=hf;obtain⟨y1,y2,y3⟩:=zKs hfy;have cy:=y.cnt_kids;have dy:y.dep=Nd.deps y.kids+1 :=(by cases y; rfl);simp only[Nd.cnts]at hc;have hdd:Nd.deps (y::ys)<=23 - p.length :=(by omega);obtain⟨hd1,hd2⟩:=zD0.1 hdd;have hky:y.kind ≠ 1:=fun e=>by rw[e]at hfk; cases hfk
  have key:Runs t (setO p pre.length x y) (putL t p (rowN (pre++reI y (slotL F x.kids y.kids)::delW F s xs ys))) 0/\Good (putL t p (rowN (pre++reI y (slotL F x.kids y.kids)::delW F s xs ys))) p (pre++reI y (slotL F x.kids y.kids)::delW F s xs ys):=by
   have e:∀ tx,Nd.mk x.kind tx x.cols (slotL F x.kids y.kids)=Nd.mk y.kind tx y.cols (slotL F x.kids y.kids):=fun tx=>by rw[a1,a3]
   unfold setO
   by_cases ht:x.text=y.text
   ·rw[if_pos ht]
    have:reI y (slotL F x.kids y.kids)=reI x (slotL F x.kids y.kids) :=(by unfold reI; rw[e,ht]);rw[this,h.2.put_self]
    exact⟨.nil _,h⟩
   ·rw[if_neg ht]
    obtain⟨k1,k2⟩:=h.setT (text:=y.text) (show zJ9 x.kind y.text=true by rw[a1]; exact y1) ht;have:(Nd.mk (reI x (slotL F x.kids y.kids)).kind y.text (reI x (slotL F x.kids y.kids)).cols (reI x (slotL F x.kids y.kids)).kids)=reI y (slotL F x.kids y.kids):=e y.text;rw[this]at k1 k2;exact⟨.next k1 (.nil _),k2⟩
  obtain⟨k1,k2⟩:=key;have hcn:=h.cnt_put (pre++reI y (slotL F x.kids y.kids)::delW F s xs ys)
  have e1:(reI y (slotL F x.kids y.kids)).cnt=(reI x (slotL F x.kids y.kids)).cnt:=rfl;simp only[Nd.cnts_append,Nd.cnts,e1]at hcn;have k2':Good (putL t p (rowN (pre++reI y (slotL F x.kids y.kids)::delW F s xs ys))) p (pre++reI y ([]++slotL F x.kids y.kids)::delW F s xs ys):=k2;obtain⟨m1,m2⟩:=zNm (G:=G) (F:=F) (p:=p) (pre:=pre) (post:=delW F s xs ys) (y:=y) x.kids y.kids [] _ a2 (hD x List.mem_cons_self y List.mem_cons_self) (fun v hv=>by
   obtain⟨q1,q2⟩:=zCK y3 hv;rw[zDq hky]at q2;have kv:v.kind=1:=by cases e:v.kind == 1 with | true=>exact eq_of_beq e | false=>rw[e]at q2; cases q2
   exact⟨q1,(zF4 q1 kv).1⟩) (by omega) (by omega) k2'
  rw[List.nil_append,zP1,h.2.put_put,List.length_nil]at m1;rw[List.nil_append,zP1,h.2.put_put]at m2;have hcn2:=h.cnt_put (pre++y::delW F s xs ys)
  simp only[Nd.cnts_append,Nd.cnts]at hcn2;have e2:pre++y::delW F s xs ys=(pre++[y])++delW F s xs ys :=(by simp);have m2':=m2;rw[e2]at m2';simp only[List.length_cons]at hlen;obtain⟨n1,n2⟩:=ih (fun x hx y hy=>hD x (List.mem_cons_of_mem _ hx) y (List.mem_cons_of_mem _ hy)) hfs (by omega) (pre++[y]) _ m2' (by rw[← e2]; omega) (by simp only[List.length_append,List.length_cons,List.length_nil]; omega)
  have e3:(pre++[y])++ys=pre++y::ys :=(by simp);rw[← e2,e3,h.2.put_put,List.length_append,List.length_singleton]at n1;rw[← e2,e3,h.2.put_put]at n2;simp only[zDj]
  exact⟨zG2 k1 rfl (zG2 m1 rfl n1),n2⟩
 | @del s x xs b _ ih =>
  intro hD hf hd pre t h hc hlen;simp only[zDj,delW]at h hc ⊢;exact ih (fun x hx y hy=>hD x (List.mem_cons_of_mem _ hx) y hy) hf hd pre t h hc hlen
 | @ins s y a ys hsc ih =>
  intro hD hf hd pre t h hc hlen;have hmo:=zPn F hsc fun x hx y hy u hu v hv=>(hD x hx y (List.mem_cons_of_mem _ hy) u hu v hv).1
  simp only[delW]at h hc;simp only[zBo,Bool.and_eq_true,Bool.not_eq_true']at hf;obtain⟨⟨hfk,hfy⟩,hfs⟩:=hf;simp only[Nd.cnts]at hc;have hdd:Nd.deps (y::ys)<=23 - p.length :=(by omega);obtain⟨hd1,hd2⟩:=zD0.1 hdd;have hy1:1<=y.dep:=y.dep_pos;have hl:=zXc F hsc;simp only[List.length_cons]at hlen;obtain⟨k1,k2⟩:=h.insI hfy hfk (by omega) (by omega) (by omega)
  have hcn:=h.cnt_put (pre++y::delW F s a ys)
  simp only[Nd.cnts_append,Nd.cnts]at hcn;have e2:pre++y::delW F s a ys=(pre++[y])++delW F s a ys :=(by simp);have k2':=k2;rw[e2]at k2';obtain⟨n1,n2⟩:=ih (fun x hx y hy=>hD x hx y (List.mem_cons_of_mem _ hy)) hfs (by omega) (pre++[y]) _ k2' (by rw[← e2]; omega) (by simp only[List.length_append,List.length_cons,List.length_nil]; omega)
  have e3:(pre++[y])++ys=pre++y::ys :=(by simp);rw[← e2,e3,h.2.put_put,List.length_append,List.length_singleton]at n1;rw[← e2,e3,h.2.put_put]at n2;simp only[zDj]
  exact⟨.next k1 n1,n2⟩
def scr:Nat->List Nd->List Nd->List Mv
 | 0,_,_=>[]
 | k+1,[],b=>b.map fun _=>.ins
 | k+1,x::xs,[]=>(x::xs).map fun _=>.del
 | k+1,x::xs,y::ys =>
  bif zBb x y&&(DL (x::xs) (y::ys) == DL xs ys+D x y) then .mat::scr k xs ys
  else bif (DL (x::xs) (y::ys) == DL xs (y::ys)+x.cnt)&&(!(DL (x::xs) (y::ys) == DL (x::xs) ys+y.cnt)||Op.bytesLess (zDT x) (zDT y)) then .del::scr k xs (y::ys)
  else .ins::scr k (x::xs) ys
theorem zYz:∀ b:List Nd,Sc (b.map fun _=>.ins) [] b
 | []=>.nil
 | _::ys=>.ins (zYz ys)
theorem zYy:∀ a:List Nd,Sc (a.map fun _=>.del) a []
 | []=>.nil
 | _::xs=>.del (zYy xs)
theorem zTM:∀ (k:Nat) (a b:List Nd),a.length+b.length<k->Sc (scr k a b) a b
 | 0,_,_,h=>by omega
 | k+1,[],b,_=>by unfold scr; exact zYz b
 | k+1,x::xs,[],_=>by unfold scr; exact zYy (x::xs)
 | k+1,x::xs,y::ys,h=>by
  simp only[List.length_cons]at h;unfold scr;cases h1:(zBb x y&&(DL (x::xs) (y::ys) == DL xs ys+D x y)) with
  | true =>
   rw[cond_true]
   simp only[Bool.and_eq_true]at h1;exact .mat h1.1 (zTM k xs ys (by omega))
  | false =>
   rw[cond_false]
   generalize ((DL (x::xs) (y::ys) == DL xs (y::ys)+x.cnt)&&(!(DL (x::xs) (y::ys) == DL (x::xs) ys+y.cnt)||Op.bytesLess (zDT x) (zDT y)))=c;cases c with
   | true=>exact .del (zTM k xs (y::ys) (by simp only[List.length_cons]; omega))
   | false=>exact .ins (zTM k (x::xs) ys (by simp only[List.length_cons]; omega))
def sK (a b:List Nd):List Mv:=scr (a.length+b.length+1) a b
theorem zNi (a b:List Nd):Sc (sK a b) a b:=zTM _ _ _ (Nat.lt_succ_self _)
def delL:Nat->RowR
 | 0,_,_=>[]
 | N+1,a,b=>delW (delL N) (sK a b) a b
def zDe:Nat->RowO
 | 0,_,_,_=>[]
 | N+1,p,a,b=>zDk (zDe N) p 0 (sK a b) a b
def zDo:Nat->RowO
 | 0,_,_,_=>[]
 | N+1,p,a,b=>zDj (zDo N) p 0 (sK a b) a b
theorem zH5 {a:List Nd}{x u:Nd} (hx:x∈a) (hu:u∈x.kids):Nd.cnts u.kids+2<=Nd.cnts a:=by
 have h1:=Nd.cnts_mem hx;have h2:=Nd.cnts_mem hu;have e1:=x.cnt_kids;have e2:=u.cnt_kids
 omega
theorem zTd:∀ (N:Nat) (a b:List Nd),Nd.cnts a<N->Does (zDe N) (delL N) a b
 | 0,_,_,h=>by omega
 | N+1,a,b,h=>fun t q hg=>by
  unfold zDe delL;exact del_walk (zNi a b) (fun x hx y hy u hu v hv=>zTd N u.kids v.kids (by have:=zH5 hx hu; omega)) [] t hg
theorem zTa:∀ (N:Nat) (a b:List Nd),Nd.cnts a<N->zYM (zDo N) (delL N) a b
 | 0,_,_,h=>by omega
 | N+1,a,b,h=>by
  have hd:=fun x (hx:x∈a) y (_:y∈b) u (hu:u∈x.kids) v (_:v∈y.kids)=>zTa N u.kids v.kids (by have:=zH5 hx hu; omega)
  refine⟨?_,fun t q hg hf=>?_⟩
  ·unfold delL;exact zPn _ (zNi a b) fun x hx y hy u hu v hv=>(hd x hx y hy u hu v hv).1
  ·unfold delL at hg hf;unfold zDo;obtain⟨f1,f2,f3,f4⟩:=hf;exact zW6 (zNi a b) hd f2 f4 [] t hg f1 (by simpa using f3)
def wop (o:Op8):Nat:=if o.1=5 then 1 else Nd.cnts o.2.2.2.2.1
def wgt:List Op8->Nat
 | []=>0
 | o::l=>wop o+wgt l
theorem zKT:∀ a b:List Op8,wgt (a++b)=wgt a+wgt b
 | [],b=>by simp[wgt]
 | o::a,b=>by simp only[List.cons_append,wgt,zKT a b]; omega
theorem zR7 {G H:RowO}{p q:List Int}{i j:Nat}:∀ (s s':Nat) (us vs:List Nd),(∀ u∈us,∀ v p q,wgt (G p u.kids v)+wgt (H q u.kids v)=DL u.kids v)->wgt (zCv G p i s us vs)+wgt (zCt H q j s' us vs)=sumD DL us vs
 | _,_,[],vs,_=>by simp only[zCv,zCt,wgt,sumD]
 | _,_,_::_,[],_=>by simp only[zCv,zCt,wgt,sumD]
 | s,s',u::us,v::vs,h=>by
  have h1:=h u List.mem_cons_self v.kids (p++[(i:Int),(s:Int)]) (q++[(j:Int),(s':Int)])
  have h2:=zR7 (G:=G) (H:=H) (p:=p) (q:=q) (i:=i) (j:=j) (s+1) (s'+1) us vs fun u hu=>h u (List.mem_cons_of_mem _ hu)
  simp only[zCv,zCt,zKT,sumD]
  omega
theorem zYI (b:List Nd):Nd.cnts b<=DL [] b:=by
 have:=zYj (zQf [] b) fun x hx=>by cases hx
 simpa [Nd.cnts] using this
theorem zIE:∀ b:List Nd,DL [] b=Nd.cnts b
 | []=>rfl
 | y::ys=>by
  have h1:=zKX (.ins (zQf [] ys):Al [] (y::ys) _)
  have h2:=zIE ys;have h3:=zYI (y::ys)
  simp only[Nd.cnts]at *
  omega
theorem zWP {G H:RowO}{p q:List Int}:∀ (b:List Nd) (i j:Nat),wgt (zDk G p i (b.map fun _=>.ins) [] b)+wgt (zDj H q j (b.map fun _=>.ins) [] b)=Nd.cnts b
 | [],_,_=>rfl
 | y::ys,i,j=>by
  have ih:=zWP (G:=G) (H:=H) (p:=p) (q:=q) ys i (j+1)
  have hw:wop (zFS q j y)=y.cnt :=(by simp[wop,zFS,Nd.cnts]);simp only[List.map_cons,zDk,zDj,wgt,Nd.cnts]
  omega
theorem zWO {G H:RowO}{p q:List Int}:∀ (a:List Nd) (i j:Nat),wgt (zDk G p i (a.map fun _=>.del) a [])+wgt (zDj H q j (a.map fun _=>.del) a [])=Nd.cnts a
 | [],_,_=>rfl
 | x::xs,i,j=>by
  have ih:=zWO (G:=G) (H:=H) (p:=p) (q:=q) xs (i+1) j;have hw:wgt [zGx p i x]=x.cnt :=(by simp[wgt,wop,zGx,Nd.cnts]);simp only[List.map_cons,zDk,zDj,zKT,Nd.cnts]
  omega
theorem zLS {G H:RowO}{p q:List Int}:∀ (k:Nat) (a b:List Nd) (i j:Nat),a.length+b.length<k->(∀ x∈a,∀ u∈x.kids,∀ v p q,wgt (G p u.kids v)+wgt (H q u.kids v)=DL u.kids v)->wgt (zDk G p i (scr k a b) a b)+wgt (zDj H q j (scr k a b) a b)=DL a b
 | 0,_,_,_,_,h,_=>by omega
 | k+1,[],b,i,j,_,_=>by
  unfold scr;rw[zIE]
  exact zWP b i j
 | k+1,x::xs,[],i,j,_,_=>by
  unfold scr;rw[zYJ,zIE]
  exact zWO (x::xs) i j
 | k+1,x::xs,y::ys,i,j,h,hh=>by
  simp only[List.length_cons]at h;unfold scr;cases h1:(zBb x y&&(DL (x::xs) (y::ys) == DL xs ys+D x y)) with
  | true =>
   simp only[Bool.and_eq_true,beq_iff_eq]at h1;have ih:=zLS (G:=G) (H:=H) (p:=p) (q:=q) k xs ys (i+1) (j+1) (by omega) fun x hx=>hh x (List.mem_cons_of_mem _ hx)
   have hs:=zR7 (G:=G) (H:=H) (p:=p) (q:=q) (i:=i) (j:=j) 0 0 x.kids y.kids (hh x List.mem_cons_self)
   have hd:=D_eq x y;have ht:wgt (setO q j x y)=txt x y:=by
    unfold setO txt
    by_cases e:x.text=y.text
    ·rw[if_pos e,e,beq_self_eq_true]; rfl
    ·rw[if_neg e,show(x.text == y.text)=false from beq_eq_false_iff_ne.2 e]; rfl
   simp only[cond_true,zDk,zDj,zKT]
   omega
  | false =>
   simp only[cond_false]
   cases hc:((DL (x::xs) (y::ys) == DL xs (y::ys)+x.cnt)&&(!(DL (x::xs) (y::ys) == DL (x::xs) ys+y.cnt)||Op.bytesLess (zDT x) (zDT y))) with
   | true =>
    simp only[Bool.and_eq_true,beq_iff_eq]at hc;have ih:=zLS (G:=G) (H:=H) (p:=p) (q:=q) k xs (y::ys) (i+1) j (by simp only[List.length_cons]; omega) fun x hx=>hh x (List.mem_cons_of_mem _ hx)
    have hw:wgt [zGx p i x]=x.cnt :=(by simp[wgt,wop,zGx,Nd.cnts]);simp only[cond_true,zDk,zDj,zKT]
    omega
   | false =>
    have hr:DL (x::xs) (y::ys)=DL (x::xs) ys+y.cnt:=by
     rcases zZE x y xs ys with ⟨g1,g2⟩ | g | g
     ·rw[g1,g2,beq_self_eq_true]at h1; cases h1
     ·rw[g,beq_self_eq_true,Bool.true_and]at hc;cases hq:(DL xs (y::ys)+x.cnt == DL (x::xs) ys+y.cnt) with
      | true=>rw[g]; exact eq_of_beq hq
      | false=>rw[hq]at hc; cases hc
     ·exact g
    have ih:=zLS (G:=G) (H:=H) (p:=p) (q:=q) k (x::xs) ys i (j+1) (by simp only[List.length_cons]; omega) hh;have hw:wop (zFS q j y)=y.cnt :=(by simp[wop,zFS,Nd.cnts]);simp only[cond_false,zDk,zDj,wgt]
    omega
theorem zTv:∀ (N:Nat) (a b:List Nd) (p q:List Int),Nd.cnts a<N->wgt (zDe N p a b)+wgt (zDo N q a b)=DL a b
 | 0,_,_,_,_,h=>by omega
 | N+1,a,b,p,q,h=>by
  unfold zDe zDo;exact zLS _ a b 0 0 (Nat.lt_succ_self _) fun x hx u hu v p q=>zTv N u.kids v p q (by have:=zH5 hx hu; omega)
def opsK (a b:Nd):List Op8:=zDe 130 [] a.kids b.kids++zDo 130 [] a.kids b.kids
theorem zTw {a b:Nd} (va:zAA a=true) (vb:zAA b=true) (ca:a.cnt<=120):Runs a (opsK a b) b 0:=by
 have ea:=(zFR va).1;have eb:=(zFR vb).1;have ka:=a.cnt_kids;have ga:Good a [] a.kids:=⟨va,by show Fd a [] (.mk 1 [] 0 a.kids); rw[← ea]; exact .nil a⟩
 obtain⟨h1,h2⟩:=zTd 130 a.kids b.kids (by omega) a [] ga;have gb:Good b [] b.kids:=⟨vb,by show Fd b [] (.mk 1 [] 0 b.kids); rw[← eb]; exact .nil b⟩
 obtain⟨r1,r2,r3,r4,r5⟩:=gb.row;have hcn:(putL a [] (rowN (delL 130 a.kids b.kids))).cnt=Nd.cnts (delL 130 a.kids b.kids)+1 :=(by rw[zC8,zEP]);obtain⟨k1,k2⟩:=(zTa 130 a.kids b.kids (by omega)).2 _ [] h2 ⟨by omega,r1,r2,r3⟩
 have e:putL (putL a [] (rowN (delL 130 a.kids b.kids))) [] (rowN b.kids)=b:=by
  rw[zC8]
  exact eb.symm
 rw[e]at k1;exact zG2 h1 rfl k1
def opw (o:Op8):Nat:=Nd.ws o.nodes+o.text.length+4
def sw:List Op8->Nat
 | []=>0
 | o::l=>opw o+sw l
theorem zJ6:∀ a b:List Op8,sw (a++b)=sw a+sw b
 | [],b=>by simp[sw]
 | o::a,b=>by simp only[List.cons_append,sw,zJ6 a b]; omega
theorem zTU:∀ l:List Op8,4 * l.length<=sw l
 | []=>Nat.zero_le _
 | o::l=>by
  have:=zTU l;simp only[List.length_cons,sw,opw]
  omega
theorem zQY (n:Nat) (hn:200000000<n){ops:List Op8} (hl:ops.length<=10000000) (ho:∀ o∈ops,opw o<=1900000):∀ (k i:Nat) (t:Nd),ops.length - i<k->i<=ops.length->t.w+sw (ops.drop i)<=40000000 ->
  ∃ f,zBF n ops k t.kind t.text t.cols t.kids (i:Int)=some f/\Runs t (ops.drop i) (endOf f).1 (endOf f).2.2/\((endOf f).2.2=0->(endOf f).2.1=0)
 | 0,i,t,h,_,_=>by omega
 | k+1,i,t,h,hi,hw=>by
  unfold zBF
  by_cases hj:i<ops.length
  ·have hd:=List.drop_eq_getElem_cons hj;have hs:=ho _ (List.getElem_mem hj)
   rw[hd]at hw;simp only[sw]at hw;unfold opw at hw hs;obtain⟨t',e,g1,g3⟩:=zPs n t ops[i] hn (by omega) (by omega) (by simp only[Op8.text]at hs; omega)
   have hw':=g3.w;rw[zBs (Int.ofNat_lt.2 hj),zBJ hj,hd]
   simp only[cond_true]
   generalize ops[i]=o at *;obtain⟨q1,q2,q3,q4,q5,q6,q7,q8⟩:=o;obtain⟨t1,t2,t3,t4⟩:=t;have ih:=zQY n hn hl ho k (i+1) t' (by omega) (by omega) (by simp only[Op8.text]at hw; dsimp only at hw' hw; omega)
   obtain⟨u1,u2,u3,u4⟩:=t';simp only[Nd.kind,Nd.text,Nd.cols,Nd.kids]at ih ⊢;simp only[obs,g1]
   by_cases he:e=0
   ·subst he;simp only[show((0:Int) != 0)=false from rfl,cond_false,zAP (show i<9223372036854775807 by omega)]
    obtain⟨f,h1,h3,h4⟩:=ih;exact⟨f,h1,.next g3 h3,h4⟩
   ·have hne:(e != 0)=true:=bne_iff_ne.2 he;simp only[hne,cond_true]
    exact⟨_,rfl,.stop g3 he,fun h=>absurd h he⟩
  ·rw[zBn (by omega),List.drop_eq_nil_iff.2 (by omega)]
   obtain⟨t1,t2,t3,t4⟩:=t;simp only[cond_false]
   exact⟨_,rfl,.nil _,fun _=>rfl⟩
theorem zSt (n:Nat) (t:Nd) (ops:List Op8) (hn:200000000<n) (hw:t.w+sw ops<=40000000) (ho:∀ o∈ops,opw o<=1900000) :
  ∃ u i e,zBE n t ops=some (u,i,e)/\zYO t ops u e/\(e=0->i=0):=by
 have ct:=Nd.cnt_w t;have sl:=zTU ops;have v1:=zC0 n t (by omega) (by omega)
 have hd:zBK t=some t:=zIP (by omega)
 obtain⟨f,h1,h3,h4⟩:=zQY n hn (ops:=ops) (by omega) ho n 0 t (by omega) (by omega) (by rw[List.drop_zero]; exact hw)
 rw[show((0:Nat):Int)=0 from rfl]at h1;rw[List.drop_zero]at h3;obtain⟨t1,t2,t3,t4⟩:=t;simp only[Nd.kind,Nd.text,Nd.cols,Nd.kids]at h1;unfold zBE;simp only[v1,obs,hd,h1]
 cases hv:zAA (.mk t1 t2 t3 t4) with
 | false=>exact⟨_,0,1,rfl,.bad hv,fun h=>by cases h⟩
 | true =>
  simp only[Bool.not_true,cond_false]
  cases f with
  | ret r =>
   obtain⟨u,i,e⟩:=r;exact⟨u,i,e,rfl,.go hv h3,h4⟩
  | go g =>
   obtain⟨a,b,c,d⟩:=g;exact⟨_,0,0,rfl,.go hv h3,fun _=>rfl⟩
theorem yAf {x:Nd}{p:List Int}{i:Nat}:sw [zGx p i x]=x.w+5:=by
 simp[sw,opw,zGx,Op8.nodes,Op8.text,Nd.ws]
theorem zYC {x:Nd}{p:List Int}{i:Nat}:opw (zFS p i x)=x.w+5:=by
 simp[opw,zFS,Op8.nodes,Op8.text,Nd.ws]
theorem yAh (p:List Int) (j:Nat) (x y:Nd):sw (setO p j x y)<=y.text.length+4:=by
 unfold setO;split
 ·exact Nat.zero_le _
 ·simp[sw,opw,zKL,Op8.nodes,Op8.text,Nd.ws]
theorem zHW {v:Nd}:v.w=v.text.length+Nd.ws v.kids+1:=by cases v; rfl
theorem zR1 {G:RowO}{p:List Int}{i:Nat}:∀ (s:Nat) (us vs:List Nd),(∀ u∈us,∀ v p,sw (G p u.kids v)<=5 * Nd.ws u.kids)->sw (zCv G p i s us vs)<=5 * Nd.ws us
 | _,[],vs,_=>by simp only[zCv,sw]; omega
 | _,_::_,[],_=>by simp only[zCv,sw]; omega
 | s,u::us,v::vs,h=>by
  have h1:=h u List.mem_cons_self v.kids (p++[(i:Int),(s:Int)])
  have h2:=zR1 (G:=G) (p:=p) (i:=i) (s+1) us vs fun u hu=>h u (List.mem_cons_of_mem _ hu)
  have e:=zHW (v:=u)
  simp only[zCv,zJ6,Nd.ws]
  omega
theorem zR0 {G:RowO}{p:List Int}{i:Nat}:∀ (s:Nat) (us vs:List Nd),(∀ v∈vs,∀ u p,sw (G p u v.kids)<=5 * Nd.ws v.kids)->sw (zCt G p i s us vs)<=5 * Nd.ws vs
 | _,[],vs,_=>by simp only[zCt,sw]; omega
 | _,_::_,[],_=>by simp only[zCt,sw]; omega
 | s,u::us,v::vs,h=>by
  have h1:=h v List.mem_cons_self u.kids (p++[(i:Int),(s:Int)])
  have h2:=zR0 (G:=G) (p:=p) (i:=i) (s+1) us vs fun u hu=>h u (List.mem_cons_of_mem _ hu)
  have e:=zHW (v:=v)
  simp only[zCt,zJ6,Nd.ws]
  omega
theorem zZt {G:RowO}{p:List Int}{s:List Mv}{a b:List Nd} (hs:Sc s a b):(∀ x∈a,∀ u∈x.kids,∀ v p,sw (G p u.kids v)<=5 * Nd.ws u.kids)->∀ i,sw (zDk G p i s a b)<=5 * Nd.ws a:=by
 induction hs with
 | nil=>intro _ i; exact Nat.zero_le _
 | @mat s x y xs ys ha _ ih =>
  intro h i;have h1:=ih (fun x hx=>h x (List.mem_cons_of_mem _ hx)) (i+1)
  have h2:=zR1 (G:=G) (p:=p) (i:=i) 0 x.kids y.kids (h x List.mem_cons_self)
  have e:=zHW (v:=x)
  simp only[zDk,zJ6,Nd.ws]
  omega
 | @del s x xs b _ ih =>
  intro h i;have h1:=ih (fun x hx=>h x (List.mem_cons_of_mem _ hx)) (i+1)
  simp only[zDk,zJ6,yAf,Nd.ws]
  omega
 | @ins s y a ys _ ih=>intro h i; exact ih h i
theorem zZs {G:RowO}{p:List Int}{s:List Mv}{a b:List Nd} (hs:Sc s a b):(∀ y∈b,∀ v∈y.kids,∀ u p,sw (G p u v.kids)<=5 * Nd.ws v.kids)->∀ j,sw (zDj G p j s a b)<=5 * Nd.ws b:=by
 induction hs with
 | nil=>intro _ i; exact Nat.zero_le _
 | @mat s x y xs ys ha _ ih =>
  intro h j;have h1:=ih (fun x hx=>h x (List.mem_cons_of_mem _ hx)) (j+1)
  have h2:=zR0 (G:=G) (p:=p) (i:=j) 0 x.kids y.kids (h y List.mem_cons_self)
  have h3:=yAh p j x y;have e:=zHW (v:=y)
  simp only[zDj,zJ6,Nd.ws]
  omega
 | @del s x xs b _ ih=>intro h j; exact ih h j
 | @ins s y a ys _ ih =>
  intro h j;have h1:=ih (fun x hx=>h x (List.mem_cons_of_mem _ hx)) (j+1)
  have e:=zYC (x:=y) (p:=p) (i:=j)
  simp only[zDj,sw,Nd.ws]
  omega
theorem zJ8:∀ (N:Nat) (p:List Int) (a b:List Nd),sw (zDe N p a b)<=5 * Nd.ws a
 | 0,_,_,_=>Nat.zero_le _
 | N+1,p,a,b=>by
  unfold zDe;exact zZt (zNi a b) (fun x _ u _ v q=>zJ8 N q u.kids v) 0
theorem zJ7:∀ (N:Nat) (p:List Int) (a b:List Nd),sw (zDo N p a b)<=5 * Nd.ws b
 | 0,_,_,_=>Nat.zero_le _
 | N+1,p,a,b=>by
  unfold zDo;exact zZs (zNi a b) (fun y _ v _ u q=>zJ7 N q u v.kids) 0
theorem zTK {t u u':Nd}{ops:List Op8}{e e':Int} (h:Runs t ops u e) (h':Runs t ops u' e'):u=u'/\e=e':=by
 induction h generalizing u' e' with
 | nil t=>cases h'; exact⟨rfl,rfl⟩
 | stop h he =>
  cases h' with
  | stop g _=>exact⟨rfl,(h.det g).2⟩
  | next g _=>exact absurd (h.det g).2 he
 | next h _ ih =>
  cases h' with
  | stop g he=>exact absurd (h.det g).2.symm he
  | next g gr =>
   obtain⟨rfl,_⟩:=h.det g;exact ih gr
theorem zRd {G:RowO}{p:List Int}{i:Nat}{o:Op8}:∀ (s:Nat) (us vs:List Nd),o∈zCv G p i s us vs->∃ u∈us,∃ v∈vs,∃ q,o∈G q u.kids v.kids
 | _,[],_,h=>by simp only[zCv]at h; cases h
 | _,_::_,[],h=>by simp only[zCv]at h; cases h
 | s,u::us,v::vs,h=>by
  simp only[zCv]at h;rcases List.mem_append.1 h with h | h
  ·obtain⟨u',h1,v',h2,q,h3⟩:=zRd (s+1) us vs h;exact⟨u',List.mem_cons_of_mem _ h1,v',List.mem_cons_of_mem _ h2,q,h3⟩
  ·exact⟨u,List.mem_cons_self,v,List.mem_cons_self,_,h⟩
theorem zRb {G:RowO}{p:List Int}{i:Nat}{o:Op8}:∀ (s:Nat) (us vs:List Nd),o∈zCt G p i s us vs->∃ u∈us,∃ v∈vs,∃ q,o∈G q u.kids v.kids
 | _,[],_,h=>by simp only[zCt]at h; cases h
 | _,_::_,[],h=>by simp only[zCt]at h; cases h
 | s,u::us,v::vs,h=>by
  simp only[zCt]at h;rcases List.mem_append.1 h with h | h
  ·exact⟨u,List.mem_cons_self,v,List.mem_cons_self,_,h⟩
  ·obtain⟨u',h1,v',h2,q,h3⟩:=zRb (s+1) us vs h;exact⟨u',List.mem_cons_of_mem _ h1,v',List.mem_cons_of_mem _ h2,q,h3⟩
theorem zVF {G:RowO}{p:List Int}{s:List Mv}{a b:List Nd}{o:Op8} (hs:Sc s a b):∀ i,o∈zDk G p i s a b->(∃ x∈a,∃ i,o=zGx p i x)∨∃ x∈a,∃ y∈b,∃ u∈x.kids,∃ v∈y.kids,∃ q,o∈G q u.kids v.kids:=by
 induction hs with
 | nil=>intro i h; simp only[zDk]at h; cases h
 | @mat s x y xs ys ha _ ih =>
  intro i h;simp only[zDk]at h;rcases List.mem_append.1 h with h | h
  ·rcases ih _ h with ⟨z,h1,h2⟩ | ⟨z,h1,w,h2,h3⟩
   ·exact .inl ⟨z,List.mem_cons_of_mem _ h1,h2⟩
   ·exact .inr ⟨z,List.mem_cons_of_mem _ h1,w,List.mem_cons_of_mem _ h2,h3⟩
  ·obtain⟨u,h1,v,h2,q,h3⟩:=zRd 0 _ _ h;exact .inr ⟨x,List.mem_cons_self,y,List.mem_cons_self,u,h1,v,h2,q,h3⟩
 | @del s x xs b _ ih =>
  intro i h;simp only[zDk]at h;rcases List.mem_append.1 h with h | h
  ·rcases ih _ h with ⟨z,h1,h2⟩ | ⟨z,h1,w,h2,h3⟩
   ·exact .inl ⟨z,List.mem_cons_of_mem _ h1,h2⟩
   ·exact .inr ⟨z,List.mem_cons_of_mem _ h1,w,h2,h3⟩
  ·exact .inl ⟨x,List.mem_cons_self,i,List.mem_singleton.1 h⟩
 | @ins s y a ys _ ih =>
  intro i h;rcases ih _ h with ⟨z,h1,h2⟩ | ⟨z,h1,w,h2,h3⟩
  ·exact .inl ⟨z,h1,h2⟩
  ·exact .inr ⟨z,h1,w,List.mem_cons_of_mem _ h2,h3⟩
theorem zVE {G:RowO}{p:List Int}{s:List Mv}{a b:List Nd}{o:Op8} (hs:Sc s a b):∀ j,o∈zDj G p j s a b->(∃ y∈b,∃ j,o=zFS p j y)∨(∃ x∈a,∃ y∈b,∃ j,o=zKL p j x.text y.text)∨∃ x∈a,∃ y∈b,∃ u∈x.kids,∃ v∈y.kids,∃ q,o∈G q u.kids v.kids:=by
 induction hs with
 | nil=>intro i h; simp only[zDj]at h; cases h
 | @mat s x y xs ys ha _ ih =>
  intro j h;simp only[zDj]at h;rcases List.mem_append.1 h with h | h
  ·unfold setO at h;split at h
   ·cases h
   ·exact .inr (.inl ⟨x,List.mem_cons_self,y,List.mem_cons_self,j,List.mem_singleton.1 h⟩)
  ·rcases List.mem_append.1 h with h | h
   ·obtain⟨u,h1,v,h2,q,h3⟩:=zRb 0 _ _ h;exact .inr (.inr ⟨x,List.mem_cons_self,y,List.mem_cons_self,u,h1,v,h2,q,h3⟩)
   ·rcases ih _ h with ⟨z,h1,h2⟩ | ⟨z,h1,w,h2,h3⟩ | ⟨z,h1,w,h2,h3⟩
    ·exact .inl ⟨z,List.mem_cons_of_mem _ h1,h2⟩
    ·exact .inr (.inl ⟨z,List.mem_cons_of_mem _ h1,w,List.mem_cons_of_mem _ h2,h3⟩)
    ·exact .inr (.inr ⟨z,List.mem_cons_of_mem _ h1,w,List.mem_cons_of_mem _ h2,h3⟩)
 | @del s x xs b _ ih =>
  intro j h;rcases ih _ h with ⟨z,h1,h2⟩ | ⟨z,h1,w,h2,h3⟩ | ⟨z,h1,w,h2,h3⟩
  ·exact .inl ⟨z,h1,h2⟩
  ·exact .inr (.inl ⟨z,List.mem_cons_of_mem _ h1,w,h2,h3⟩)
  ·exact .inr (.inr ⟨z,List.mem_cons_of_mem _ h1,w,h2,h3⟩)
 | @ins s y a ys _ ih =>
  intro j h;simp only[zDj]at h;rcases List.mem_cons.1 h with h | h
  ·exact .inl ⟨y,List.mem_cons_self,j,h⟩
  ·rcases ih _ h with ⟨z,h1,h2⟩ | ⟨z,h1,w,h2,h3⟩ | ⟨z,h1,w,h2,h3⟩
   ·exact .inl ⟨z,List.mem_cons_of_mem _ h1,h2⟩
   ·exact .inr (.inl ⟨z,h1,w,List.mem_cons_of_mem _ h2,h3⟩)
   ·exact .inr (.inr ⟨z,h1,w,List.mem_cons_of_mem _ h2,h3⟩)
theorem zYF {a:List Nd}{x u:Nd} (hx:x∈a) (hu:u∈x.kids):Nd.ws u.kids<=Nd.ws a:=by
 have h1:=Nd.w_mem hx;have h2:=Nd.w_mem hu;have e1:=zHW (v:=x)
 have e2:=zHW (v:=u)
 omega
theorem zPo:∀ (N:Nat) (p:List Int) (a b:List Nd),∀ o∈zDe N p a b,opw o<=Nd.ws a+5
 | 0,_,_,_,_,h=>by cases h
 | N+1,p,a,b,o,h=>by
  unfold zDe at h;rcases zVF (zNi a b) _ h with ⟨x,h1,i,rfl⟩ | ⟨x,h1,y,_,u,h2,v,_,q,h3⟩
  ·have:=Nd.w_mem h1;have e:opw (zGx p i x)=x.w+5:=by simp[opw,zGx,Op8.nodes,Op8.text,Nd.ws]
   omega
  ·have h4:=zPo N q u.kids v.kids o h3;have:=zYF h1 h2
   omega
theorem zPk:∀ (N:Nat) (p:List Int) (a b:List Nd),∀ o∈zDo N p a b,opw o<=Nd.ws b+5
 | 0,_,_,_,_,h=>by cases h
 | N+1,p,a,b,o,h=>by
  unfold zDo at h;rcases zVE (zNi a b) _ h with ⟨y,h1,j,rfl⟩ | ⟨x,_,y,h1,j,rfl⟩ | ⟨x,_,y,h1,u,_,v,h2,q,h3⟩
  ·have:=Nd.w_mem h1;have e:=zYC (x:=y) (p:=p) (i:=j)
   omega
  ·have:=Nd.w_mem h1;have e:=zHW (v:=y)
   have e2:opw (zKL p j x.text y.text)=y.text.length+4:=by simp[opw,zKL,Op8.nodes,Op8.text,Nd.ws]
   omega
  ·have h4:=zPk N q u.kids v.kids o h3;have:=zYF h1 h2
   omega
theorem zVZ (n:Nat){a b:Nd} (hn:200000000<n) (va:zAA a=true) (vb:zAA b=true) (ca:a.cnt<=120) (wa:a.w<=1048576) (wb:b.w<=1048576):zBE n a (opsK a b)=some (b,0,0):=by
 have e1:=zHW (v:=a)
 have e2:=zHW (v:=b)
 have s1:=zJ8 130 [] a.kids b.kids;have s2:=zJ7 130 [] a.kids b.kids;have hsw:sw (opsK a b)=sw (zDe 130 [] a.kids b.kids)+sw (zDo 130 [] a.kids b.kids):=zJ6 _ _;obtain⟨u,i,e,h1,h2,h3⟩:=zSt n a (opsK a b) hn (by omega) (fun o ho=>by
  rcases List.mem_append.1 ho with ho | ho
  ·have:=zPo _ _ _ _ o ho; omega
  ·have:=zPk _ _ _ _ o ho; omega)
 have hl:=zTw va vb ca;cases h2 with
 | bad h=>rw[va]at h; cases h
 | go _ hr =>
  obtain⟨rfl,rfl⟩:=zTK hr hl;rw[h1,h3 rfl]
theorem zGv:∀ (k i j:Nat) (a b:List Nd),∀ u∈zB8 k i j a b,∃ s t x y,u=(i+s,j+t)/\a[s]? = some x/\b[t]? = some y/\zBb x y=true
 | 0,i,j,a,b,u,h=>by unfold zB8 at h; cases h
 | k+1,i,j,[],b,u,h=>by unfold zB8 at h; cases h
 | k+1,i,j,x::xs,[],u,h=>by unfold zB8 at h; cases h
 | k+1,i,j,x::xs,y::ys,u,h=>by
  unfold zB8 at h;cases h1:(zBb x y&&(DL (x::xs) (y::ys) == DL xs ys+D x y)) with
  | true =>
   rw[h1,cond_true]at h;rcases List.mem_cons.1 h with rfl | h
   ·exact⟨0,0,x,y,rfl,rfl,rfl,(Bool.and_eq_true _ _ ▸ h1).1⟩
   ·obtain⟨s,t,x',y',rfl,h2,h3,h4⟩:=zGv k (i+1) (j+1) xs ys u h;exact⟨s+1,t+1,x',y',by rw[Nat.add_assoc,Nat.add_comm 1,Nat.add_assoc j,Nat.add_comm 1],h2,h3,h4⟩
  | false =>
   rw[h1,cond_false]at h;generalize ((DL (x::xs) (y::ys) == DL xs (y::ys)+x.cnt)&&(!(DL (x::xs) (y::ys) == DL (x::xs) ys+y.cnt)||Op.bytesLess (zDT x) (zDT y)))=c at h;cases c with
   | true =>
    obtain⟨s,t,x',y',rfl,h2,h3,h4⟩:=zGv k (i+1) j xs (y::ys) u h;exact⟨s+1,t,x',y',by rw[Nat.add_assoc,Nat.add_comm 1],h2,h3,h4⟩
   | false =>
    obtain⟨s,t,x',y',rfl,h2,h3,h4⟩:=zGv k i (j+1) (x::xs) ys u h;exact⟨s,t+1,x',y',by rw[Nat.add_assoc j,Nat.add_comm 1],h2,h3,h4⟩
theorem zFa:∀ (k i j:Nat) (a b:List Nd),(zB8 k i j a b).Pairwise fun u v=>u.1<v.1/\u.2<v.2
 | 0,i,j,a,b=>by unfold zB8; exact .nil
 | k+1,i,j,[],b=>by unfold zB8; exact .nil
 | k+1,i,j,x::xs,[]=>by unfold zB8; exact .nil
 | k+1,i,j,x::xs,y::ys=>by
  unfold zB8;cases h1:(zBb x y&&(DL (x::xs) (y::ys) == DL xs ys+D x y)) with
  | true =>
   rw[cond_true]
   refine .cons (fun u hu=>?_) (zFa k (i+1) (j+1) xs ys)
   obtain⟨s,t,_,_,rfl,_⟩:=zGv k (i+1) (j+1) xs ys u hu;dsimp only
   omega
  | false =>
   rw[cond_false]
   generalize ((DL (x::xs) (y::ys) == DL xs (y::ys)+x.cnt)&&(!(DL (x::xs) (y::ys) == DL (x::xs) ys+y.cnt)||Op.bytesLess (zDT x) (zDT y)))=c;cases c with
   | true=>exact zFa k (i+1) j xs (y::ys)
   | false=>exact zFa k i (j+1) (x::xs) ys
def rowK (l:List Nd):Nd:=.mk 1 [] 0 l
def parK (l:List (Nat×Nat)) (i:Nat):Option Nat:=(l.find? fun u=>u.1 == i).map (·.2)
def zJU (a b:List Nd):List (Nat×Nat):=zB8 (a.length+b.length+1) 0 0 a b
def noN:Nd:=.mk 0 [] 0 []
def parB (l:List (Nat×Nat)) (j:Nat):Option Nat:=(l.find? fun u=>u.2 == j).map (·.1)
def delF (G:RowO) (p:List Int) (A B:List Nd) (l:List (Nat×Nat)) (i:Nat):List Op8 :=
 match parK l i with
 | none=>[zGx p i (A.getD i noN)]
 | some j=>zCv G p i 0 (A.getD i noN).kids (B.getD j noN).kids
def chgF (G:RowO) (p:List Int) (A B:List Nd) (l:List (Nat×Nat)) (j:Nat):List Op8 :=
 match parB l j with
 | none=>[zFS p j (B.getD j noN)]
 | some i=>setO p j (A.getD i noN) (B.getD j noN)++zCt G p j 0 (A.getD i noN).kids (B.getD j noN).kids
theorem zM5 {u:Nat×Nat}{l:List (Nat×Nat)}{i:Nat}:parK (u::l) i=if u.1=i then some u.2 else parK l i:=by
 unfold parK;rw[List.find?_cons]
 by_cases h:u.1=i
 ·rw[if_pos h,show(u.1 == i)=true from beq_iff_eq.2 h]; rfl
 ·rw[if_neg h,show(u.1 == i)=false from beq_eq_false_iff_ne.2 h]
theorem zJV {u:Nat×Nat}{l:List (Nat×Nat)}{j:Nat}:parB (u::l) j=if u.2=j then some u.1 else parB l j:=by
 unfold parB;rw[List.find?_cons]
 by_cases h:u.2=j
 ·rw[if_pos h,show(u.2 == j)=true from beq_iff_eq.2 h]; rfl
 ·rw[if_neg h,show(u.2 == j)=false from beq_eq_false_iff_ne.2 h]
theorem zPZ {l:List (Nat×Nat)}{i:Nat} (h:∀ u∈l,u.1 ≠ i):parK l i=none:=by
 unfold parK;rw[List.find?_eq_none.2 fun u hu=>by simpa using h u hu]
 rfl
theorem zPY {l:List (Nat×Nat)}{j:Nat} (h:∀ u∈l,u.2 ≠ j):parB l j=none:=by
 unfold parB;rw[List.find?_eq_none.2 fun u hu=>by simpa using h u hu]
 rfl
theorem zH1 {A:List Nd}{i:Nat}{x:Nd}{xs:List Nd} (h:A.drop i=x::xs):A.getD i noN=x/\A.drop (i+1)=xs:=by
 have hi:i<A.length:=by
  have:=congrArg List.length h;simp only[List.length_drop,List.length_cons]at this
  omega
 rw[List.drop_eq_getElem_cons hi]at h;obtain⟨h1,h2⟩:=List.cons.inj h;exact⟨by rw[List.getD_eq_getElem?_getD,List.getElem?_eq_getElem hi,h1]; rfl,h2⟩
theorem zLL {f:Nat->List Op8} (i n:Nat):(List.range' i (n+1)).reverse.flatMap f=(List.range' (i+1) n).reverse.flatMap f++f i:=by
 rw[List.range'_succ,List.reverse_cons,List.flatMap_append]
 simp
theorem zKr {f g:Nat->List Op8}{l:List Nat} (h:∀ i∈l,f i=g i):l.flatMap f=l.flatMap g:=by
 induction l with
 | nil=>rfl
 | cons x l ih=>rw[List.flatMap_cons,List.flatMap_cons,h x List.mem_cons_self,ih fun i hi=>h i (List.mem_cons_of_mem _ hi)]
theorem zVr {G:RowO}{p:List Int}{A B:List Nd}:∀ (a:List Nd) (i:Nat),A.drop i=a->zDk G p i (a.map fun _=>.del) a []=(List.range' i a.length).reverse.flatMap (delF G p A B [])
 | [],i,_=>rfl
 | x::xs,i,h=>by
  obtain⟨h1,h2⟩:=zH1 h;have ih:=zVr (G:=G) (p:=p) (A:=A) (B:=B) xs (i+1) h2;rw[List.length_cons,zLL,List.map_cons]
  simp only[zDk]
  rw[ih]
  have:delF G p A B [] i=[zGx p i x] :=(by unfold delF; rw[zPZ (fun u hu=>by cases hu),h1]);rw[this]
theorem zVp {G:RowO}{p:List Int}:∀ (b:List Nd) (i:Nat),zDk G p i (b.map fun _=>.ins) [] b=[]
 | [],_=>rfl
 | y::ys,i=>by rw[List.map_cons]; simp only[zDk]; exact zVp ys i
theorem zVb {G:RowO}{p:List Int}:∀ (a:List Nd) (j:Nat),zDj G p j (a.map fun _=>.del) a []=[]
 | [],_=>rfl
 | x::xs,j=>by rw[List.map_cons]; simp only[zDj]; exact zVb xs j
theorem zVd {G:RowO}{p:List Int}{A B:List Nd}:∀ (b:List Nd) (j:Nat),B.drop j=b->zDj G p j (b.map fun _=>.ins) [] b=(List.range' j b.length).flatMap (chgF G p A B [])
 | [],j,_=>rfl
 | y::ys,j,h=>by
  obtain⟨h1,h2⟩:=zH1 h;have ih:=zVd (G:=G) (p:=p) (A:=A) (B:=B) ys (j+1) h2;rw[List.length_cons,List.range'_succ,List.flatMap_cons,List.map_cons]
  simp only[zDj]
  rw[ih]
  have:chgF G p A B [] j=[zFS p j y] :=(by unfold chgF; rw[zPY (fun u hu=>by cases hu),h1]);rw[this]; rfl
theorem zZL {k i j:Nat}{a b:List Nd}{u:Nat×Nat} (h:u∈zB8 k i j a b):i<=u.1/\j<=u.2:=by
 obtain⟨s,t,_,_,rfl,_⟩:=zGv k i j a b u h;dsimp only
 omega
theorem zJy {G:RowO}{p:List Int}{A B:List Nd}:∀ (k i j:Nat) (a b:List Nd),a.length+b.length<k->A.drop i=a->B.drop j=b->zDk G p i (scr k a b) a b=(List.range' i a.length).reverse.flatMap (delF G p A B (zB8 k i j a b))
 | 0,_,_,_,_,h,_,_=>by omega
 | k+1,i,j,[],b,_,_,_=>by unfold scr; rw[zVp]; rfl
 | k+1,i,j,x::xs,[],_,ha,_=>by unfold scr zB8; exact zVr (x::xs) i ha
 | k+1,i,j,x::xs,y::ys,h,ha,hb=>by
  obtain⟨ha1,ha2⟩:=zH1 ha;obtain⟨hb1,hb2⟩:=zH1 hb;simp only[List.length_cons]at h;unfold scr zB8;cases h1:(zBb x y&&(DL (x::xs) (y::ys) == DL xs ys+D x y)) with
  | true =>
   have ih:=zJy (G:=G) (p:=p) k (i+1) (j+1) xs ys (by omega) ha2 hb2;simp only[cond_true,zDk]
   rw[ih,List.length_cons,zLL]
   congr 1
   ·refine zKr fun q hq=>?_
    have hq':=List.mem_range'_1.1 (List.mem_reverse.1 hq)
    unfold delF;rw[zM5,if_neg (by dsimp only; omega)]
   ·unfold delF;rw[zM5,if_pos rfl]
    dsimp only;rw[ha1,hb1]
  | false =>
   simp only[cond_false]
   generalize ((DL (x::xs) (y::ys) == DL xs (y::ys)+x.cnt)&&(!(DL (x::xs) (y::ys) == DL (x::xs) ys+y.cnt)||Op.bytesLess (zDT x) (zDT y)))=c;cases c with
   | true =>
    have ih:=zJy (G:=G) (p:=p) k (i+1) j xs (y::ys) (by simp only[List.length_cons]; omega) ha2 hb;simp only[cond_true,zDk]
    rw[ih,List.length_cons,zLL]
    congr 1
    unfold delF;rw[zPZ fun u hu=>by have:=zZL hu; omega,ha1]
   | false =>
    have ih:=zJy (G:=G) (p:=p) k i (j+1) (x::xs) ys (by simp only[List.length_cons]; omega) ha hb2;simp only[cond_false,zDk]
    exact ih
theorem zJv {G:RowO}{p:List Int}{A B:List Nd}:∀ (k i j:Nat) (a b:List Nd),a.length+b.length<k->A.drop i=a->B.drop j=b->zDj G p j (scr k a b) a b=(List.range' j b.length).flatMap (chgF G p A B (zB8 k i j a b))
 | 0,_,_,_,_,h,_,_=>by omega
 | k+1,i,j,[],b,_,_,hb=>by unfold scr zB8; exact zVd b j hb
 | k+1,i,j,x::xs,[],_,ha,_=>by unfold scr; rw[zVb]; rfl
 | k+1,i,j,x::xs,y::ys,h,ha,hb=>by
  obtain⟨ha1,ha2⟩:=zH1 ha;obtain⟨hb1,hb2⟩:=zH1 hb;simp only[List.length_cons]at h;unfold scr zB8;cases h1:(zBb x y&&(DL (x::xs) (y::ys) == DL xs ys+D x y)) with
  | true =>
   have ih:=zJv (G:=G) (p:=p) k (i+1) (j+1) xs ys (by omega) ha2 hb2;simp only[cond_true,zDj]
   rw[ih,List.length_cons,List.range'_succ,List.flatMap_cons,← List.append_assoc]
   congr 1
   ·unfold chgF;rw[zJV,if_pos rfl]
    dsimp only;rw[ha1,hb1]
   ·refine zKr fun q hq=>?_
    have hq':=List.mem_range'_1.1 hq;unfold chgF;rw[zJV,if_neg (by dsimp only; omega)]
  | false =>
   simp only[cond_false]
   generalize ((DL (x::xs) (y::ys) == DL xs (y::ys)+x.cnt)&&(!(DL (x::xs) (y::ys) == DL (x::xs) ys+y.cnt)||Op.bytesLess (zDT x) (zDT y)))=c;cases c with
   | true =>
    have ih:=zJv (G:=G) (p:=p) k (i+1) j xs (y::ys) (by simp only[List.length_cons]; omega) ha2 hb;simp only[cond_true,zDj]
    exact ih
   | false =>
    have ih:=zJv (G:=G) (p:=p) k i (j+1) (x::xs) ys (by simp only[List.length_cons]; omega) ha hb2;simp only[cond_false,zDj]
    rw[ih,List.length_cons,List.range'_succ,List.flatMap_cons]
    have:chgF G p A B (zB8 k i (j+1) (x::xs) ys) j=[zFS p j y]:=by
     unfold chgF;rw[zPY fun u hu=>by have:=zZL hu; omega,hb1]
    rw[this]; rfl
theorem zQS (N:Nat) (p:List Int) (a b:List Nd):zDe (N+1) p a b=(List.range' 0 a.length).reverse.flatMap (delF (zDe N) p a b (zJU a b)):=by
 unfold zDe sK zJU;exact zJy _ 0 0 a b (Nat.lt_succ_self _) rfl rfl
theorem zQM (N:Nat) (p:List Int) (a b:List Nd):zDo (N+1) p a b=(List.range' 0 b.length).flatMap (chgF (zDo N) p a b (zJU a b)):=by
 unfold zDo sK zJU;exact zJv _ 0 0 a b (Nat.lt_succ_self _) rfl rfl
theorem zGM:∀ (k k' i j:Nat) (a b:List Nd),a.length+b.length<k->a.length+b.length<k'->zB8 k i j a b=zB8 k' i j a b
 | 0,_,_,_,_,_,h,_=>by omega
 | _+1,0,_,_,_,_,_,h=>by omega
 | k+1,k'+1,i,j,[],b,_,_=>by unfold zB8; rfl
 | k+1,k'+1,i,j,x::xs,[],_,_=>by unfold zB8; rfl
 | k+1,k'+1,i,j,x::xs,y::ys,h,h'=>by
  simp only[List.length_cons]at h h';unfold zB8;rw[zGM k k' (i+1) (j+1) xs ys (by omega) (by omega),zGM k k' (i+1) j xs (y::ys) (by simp only[List.length_cons]; omega) (by simp only[List.length_cons]; omega),zGM k k' i (j+1) (x::xs) ys (by simp only[List.length_cons]; omega) (by simp only[List.length_cons]; omega)]
theorem zLE {l:List Nd}{q:Nat}{v:Nd} (h:l[q]? = some v):l.drop q=v::l.drop (q+1):=by
 obtain⟨h1,rfl⟩:=List.getElem?_eq_some_iff.1 h;exact List.drop_eq_getElem_cons h1
theorem Nd.w_eq (v:Nd):v.w=v.text.length+Nd.ws v.kids+1:=by cases v; rfl
def okR (b:List Nd):Prop:=zAA (rowK b)=true/\(rowK b).rng
theorem okR.sub {b:List Nd}{v u:Nd} (h:okR b) (hv:v∈b) (hu:u∈v.kids):okR u.kids/\u=rowK u.kids:=by
 obtain⟨h1,h2⟩:=h;unfold zAA at h1;simp only[Bool.and_eq_true,decide_eq_true_eq]at h1;obtain⟨k1,f1,c1,d1⟩:=h1;have fb:zBo 1 b=true:=(zF4 f1 rfl).2;obtain⟨f2,k2⟩:=zCK fb hv;have gv:zBo v.kind v.kids=true :=(by cases v; simp only[zCJ,Bool.and_eq_true]at f2; exact f2.2);obtain⟨f3,k3⟩:=zCK gv hu;have kv:v.kind ≠ 1:=fun e=>by rw[e]at k2; cases k2
 rw[zDq kv]at k3;have ku:u.kind=1:=by cases e:u.kind == 1 with | true=>exact eq_of_beq e | false=>rw[e]at k3; cases k3
 obtain⟨r1,r2⟩:=zF4 f3 ku;have c2:=Nd.cnts_mem hv;have c3:=Nd.cnts_mem hu;have e2:=v.cnt_kids;have cb:(rowK b).cnt=Nd.cnts b+1 :=(by simp[rowK,Nd.cnt]);have db:(rowK b).dep=Nd.deps b+1:=rfl;have d2:=zPp hv;have d3:=zPp hu;have ev:v.dep=Nd.deps v.kids+1 :=(by cases v; rfl);have eu:rowK u.kids=u:=r1.symm;refine⟨⟨?_,?_⟩,r1⟩
 ·rw[eu]
  unfold zAA;simp only[Bool.and_eq_true,decide_eq_true_eq]
  exact⟨by rw[ku]; rfl,f3,by omega,by omega⟩
 ·rw[eu]
  have:v.rng:=zLH h2 (t:=rowK b) hv;exact zLH this hu
theorem zYt {t:Nd} (h:zAA t=true) (hr:t.rng):okR t.kids/\t=rowK t.kids:=by
 have e:=(zFR h).1;have e':rowK t.kids=t:=e.symm;exact⟨⟨by rw[e']; exact h,by rw[e']; exact hr⟩,e⟩
theorem zXj {n:Int} (h:0<=n/\n<=1073741824):zDh n=some []:=zCs h
theorem zVk (k:Nat) (p:List Int) (i s:Int) (hp:p.length<=1000000):zAG [p,[i,s]] (k+3) 0 0=some ((p.length:Int)+2):=by
 have w1:IntKind.i64.wrap ((0:Int)+(p.length:Int))=(p.length:Int) :=(by rw[wrap64_in (by omega) (by omega)]; omega);have w2:IntKind.i64.wrap ((p.length:Int)+2)=(p.length:Int)+2:=wrap64_in (by omega) (by omega)
 have c0:at? [p,[i,s]] 0=some p:=rfl;have c1:at? [p,[i,s]] 1=some [i,s]:=rfl;have v1:IntKind.i64.wrap ((0:Int)+1)=1 :=(by decide);have v2:IntKind.i64.wrap ((1:Int)+1)=2 :=(by decide);have hl:(([p,[i,s]]:List (List Int)).length:Int)=2:=rfl;have h2:(([i,s]:List Int).length:Int)=2:=rfl;unfold zAG;rw[hl,zBs (by decide),cond_true,c0]
 simp only[obs]
 rw[w1,zBn (by omega),cond_false,v1]
 unfold zAG;rw[hl,zBs (by decide),cond_true,c1]
 simp only[obs]
 rw[h2,w2,zBn (by omega),cond_false,v2]
 unfold zAG;rw[hl,zBn (by decide),cond_false]
theorem zVl (k:Nat) (p:List Int) (i s:Int) (hp:p.length<=1000000):zAH [p,[i,s]] (k+3) 0 []=some (p++[i,s]):=by
 have c0:at? [p,[i,s]] 0=some p:=rfl;have c1:at? [p,[i,s]] 1=some [i,s]:=rfl;have v1:IntKind.i64.wrap ((0:Int)+1)=1 :=(by decide);have v2:IntKind.i64.wrap ((1:Int)+1)=2 :=(by decide);have hl:(([p,[i,s]]:List (List Int)).length:Int)=2:=rfl;have q1:([]:List Int).length+p.length<=4294967296 :=(by rw[List.length_nil]; omega);have q2:p.length + [i,s].length<=4294967296 :=(by rw[List.length_cons,List.length_cons,List.length_nil]; omega);unfold zAH;rw[hl,zBs (by decide),cond_true,c0]
 simp only[obs]
 rw[zCs q1,v1]
 unfold zAH;rw[hl,zBs (by decide),cond_true,c1]
 simp only[obs,List.nil_append]
 rw[zCs q2,v2]
 unfold zAH;rw[hl,zBn (by decide),cond_false]
theorem zOj (n:Nat) (p:List Int) (i s:Int) (hn:5<n) (hp:p.length<=1000000):zBi n [p,[i,s]]=some (p++[i,s]):=by
 obtain⟨k,rfl⟩:∃ k,n=k+3:=⟨n - 3,by omega⟩
 have e1:=zVk k p i s hp;have e2:zDh ((p.length:Int)+2)=some []:=zXj ⟨by omega,by omega⟩
 have e3:=zVl k p i s hp;unfold zBi;dsimp only;rw[e1,obs,e2,obs,e3,obs]
theorem zSo {l:List Nd}{n:Nat}{v:Nd} (h:l[n]? = some v):at? l (n:Int)=some v:=by
 obtain⟨h1,rfl⟩:=List.getElem?_eq_some_iff.1 h;exact zBJ h1
theorem zMT {l:List Nd} (hb:Nd.cnts l<=16777216):∀ (k i:Nat),l.length - i<k->i<=l.length->zBy l k (i:Int) (l.take i)=some l
 | 0,i,h,_=>by omega
 | k+1,i,h,hi=>by
  have hlen:=Nd.cnts_len l;unfold zBy
  by_cases hj:i<l.length
  ·have hm:=Nd.cnts_mem (List.getElem_mem hj)
   have hd:zBK l[i]=some l[i]:=zIP (by omega)
   have ht:l.take i++[l[i]]=l.take (i+1) :=(by rw[List.take_append_getElem hj]);rw[zBs (Int.ofNat_lt.2 hj),cond_true,zBJ hj]
   have ih:=zMT hb k (i+1) (by omega) (by omega)
   rw[← ht]at ih;generalize l[i]=v at *;obtain⟨v1,v2,v3,v4⟩:=v;simp only[obs,hd]
   rw[zCs (by simp only[List.length_take,List.length_cons,List.length_nil]; omega),zAP (show i<9223372036854775807 by omega),ih]
  ·rw[zBn (by omega),cond_false,List.take_of_length_le (by omega)]
theorem zVo (n:Nat) (o:Op8) (hn:Nd.cnts o.nodes<n) (hb:Nd.cnts o.nodes<=16777216) (hr:o.row.length<=16777216):zFC n o=some o:=by
 obtain⟨k,row,a,m,nodes,slot,old,text⟩:=o;simp only[Op8.nodes,Op8.row]at hn hb hr;have hlen:=Nd.cnts_len nodes;have h1:zCX row=some row:=zCs (by omega)
 have h2:=zMT hb n 0 (by omega) (by omega)
 rw[show((0:Nat):Int)=0 from rfl,List.take_zero]at h2;unfold zFC zFB zEW;simp only[h1,h2,obs]
theorem zSu (n:Nat) (o:Op8) (l:List Op8) (hn:Nd.cnts o.nodes<n) (hb:Nd.cnts o.nodes<=16777216) (hr:o.row.length<=16777216) (hl:l.length<=4000000):zCR n o l=some (l++[o]):=by
 have h:=zVo n o hn hb hr;obtain⟨k,row,a,m,nodes,slot,old,text⟩:=o;unfold zCR;simp only[h,obs]
 rw[zCs (by rw[List.length_cons,List.length_nil]; omega)]
theorem zQD (n:Nat) (a b:List Nd) (h:4 * Nd.ws a+4 * Nd.ws b+200<n) (ha:Nd.ws a<=15999999) (hb:Nd.ws b<=15999999) (ca:Nd.cnts a<=999) (cb:Nd.cnts b<=999) (ra:(rowK a).rng) (rb:(rowK b).rng):zD3 n a b=some ((zJU a b).map zCP):=by
 have k1:=Nd.cnts_ws a;have k2:=Nd.cnts_ws b;have l1:=Nd.cnts_len a;have l2:=Nd.cnts_len b;have e2:=(zSv n).2 a b (by omega) (by omega) (by omega)
 have e3:=zHZ n (a:=a) (b:=b) (by omega) (by omega) (fun x hx=>by have:=Nd.w_mem hx; exact⟨by omega,by omega,zLH ra (t:=rowK a) hx⟩) (fun x hx=>by have:=Nd.w_mem hx; exact⟨by omega,by omega,zLH rb (t:=rowK b) hx⟩) n 0 0 [] (by omega) (by omega) (by omega) (by simp)
 rw[show((0:Nat):Int)=0 from rfl,List.drop_zero,List.drop_zero,List.nil_append]at e3;have hf:zB8 n 0 0 a b=zJU a b:=zGM _ _ _ _ _ _ (by omega) (by omega)
 rw[hf]at e3;unfold zD3;simp only[e2,e3,obs]
structure Rest (a b:List Nd) (L:List (Nat×Nat)):Prop where
 inn:∀ u∈L,∃ x y,a[u.1]? = some x/\b[u.2]? = some y/\zBb x y=true
 sorted:L.Pairwise fun u v=>u.1<v.1/\u.2<v.2
theorem zOF (a b:List Nd):Rest a b (zJU a b):=by
 refine⟨fun u hu=>?_,zFa _ _ _ _ _⟩
 obtain⟨s,t,x,y,rfl,h1,h2,h3⟩:=zGv _ _ _ _ _ u hu;exact⟨x,y,by simpa using h1,by simpa using h2,h3⟩
abbrev zUZ:=List Nd->List Nd->List Int->List Op8->Option (List Op8)
theorem zRe (N:Nat) (p:List Int) (j:Nat) (xk yk:List Nd) (F:zUZ) (G:RowO) (hN:5<N) (hp:p.length<=1000000) (hl:xk.length=yk.length) (hb:yk.length<=4000000)
  (hF:∀ (s:Nat) (u v:Nd) (o:List Op8),xk[s]? = some u->yk[s]? = some v->o.length+(G (p++[(j:Int),(s:Int)]) u.kids v.kids).length<=4000000->F u.kids v.kids (p++[(j:Int),(s:Int)]) o=some (o++G (p++[(j:Int),(s:Int)]) u.kids v.kids)) :
  ∀ (k s:Nat) (o:List Op8),yk.length - s<k->s<=yk.length->o.length+(zCt G p j s (xk.drop s) (yk.drop s)).length<=4000000 ->
   zBg F N p (j:Int) yk xk k (s:Int) o=some (o++zCt G p j s (xk.drop s) (yk.drop s))
 | 0,s,o,h,_,_=>by omega
 | k+1,s,o,h,hs,ho=>by
  unfold zBg
  by_cases hj:s<yk.length
  ·have g1:xk[s]? = some (xk[s]'(by omega)):=List.getElem?_eq_getElem (by omega)
   have g2:yk[s]? = some yk[s]:=List.getElem?_eq_getElem hj;generalize xk[s]'(by omega)=u at *;generalize yk[s]=v at *;rw[zLE g1,zLE g2]at ho ⊢;simp only[zCt,List.length_append]at ho;have e1:=hF s u v o g1 g2 (by omega)
   rw[zBs (Int.ofNat_lt.2 hj),cond_true,zSo g1,zSo g2]
   have ih:=zRe N p j xk yk F G hN hp hl hb hF k (s+1) (o++G (p++[(j:Int),(s:Int)]) u.kids v.kids) (by omega) (by omega) (by rw[List.length_append]; omega)
   obtain⟨u1,u2,u3,u4⟩:=u;obtain⟨v1,v2,v3,v4⟩:=v;simp only[Nd.kids]at e1 ih;simp only[obs]
   rw[zOj N p j s hN hp]
   simp only[obs,e1]
   rw[zAP (by omega),ih]
   simp only[zCt,Nd.kids,List.append_assoc]
  ·rw[zBn (by omega),cond_false,List.drop_of_length_le (by omega),List.drop_of_length_le (by omega)]
   simp only[zCt,List.append_nil]
theorem zKf {o:Op8}{x:Nd}{p:List Int}{j:Nat}:(zFS p j x).nodes=[x]/\(zGx p j x).nodes=[x]:=⟨rfl,rfl⟩
theorem zPA (N:Nat) (p:List Int) (a b:List Nd) (F:zUZ) (G:RowO) (hN:1000<N) (hp:p.length<=1000000) (hca:Nd.cnts a<=999) (hcb:Nd.cnts b<=999)
  (hF:∀ x∈a,∀ y∈b,∀ (j s:Nat) (u v:Nd) (o:List Op8),x.kids[s]? = some u->y.kids[s]? = some v->o.length+(G (p++[(j:Int),(s:Int)]) u.kids v.kids).length<=4000000->F u.kids v.kids (p++[(j:Int),(s:Int)]) o=some (o++G (p++[(j:Int),(s:Int)]) u.kids v.kids)) :
  ∀ (k j:Nat) (S:List (Nat×Nat)) (o:List Op8),b.length - j<k->j<=b.length->Rest a b S->(∀ u∈S,j<=u.2)->o.length+((List.range' j (b.length - j)).flatMap (chgF G p a b S)).length<=4000000 ->
   zBf F N a b p k (j:Int) (S.map zCP) o=some (o++(List.range' j (b.length - j)).flatMap (chgF G p a b S))
 | 0,j,S,o,h,_,_,_,_=>by omega
 | k+1,j,S,o,h,hjb,hR,hS,ho=>by
  have lb:=Nd.cnts_len b;unfold zBf
  by_cases hj:j<b.length
  ·have g2:b[j]? = some b[j]:=List.getElem?_eq_getElem hj;have hd:b.getD j noN=b[j] :=(by rw[List.getD_eq_getElem?_getD,g2]; rfl);generalize b[j]=y at *;have my:=List.mem_of_getElem? g2;have cy:=Nd.cnts_mem my;rw[zBs (Int.ofNat_lt.2 hj),cond_true,zSo g2]
   have er:b.length - j=(b.length - (j+1))+1 :=(by omega);rw[er,List.range'_succ,List.flatMap_cons]at ho ⊢;rw[List.length_append]at ho;have none_case:(bif (((S.map zCP).length:Int) == 0) then some true else (at? (S.map zCP) 0).bind fun e=>some (e.2 != (j:Int)):Option Bool)=some true->parB S j=none ->
     (∀ j',j<=j'->True)->(∀ u∈S,j+1<=u.2)->True:=fun _ _ _ _=>trivial
   clear none_case
   by_cases hmt:∃ i S',S=(i,j)::S'
   ·obtain⟨i,S',rfl⟩:=hmt;obtain⟨x,y',gx,gy,hal⟩:=hR.inn _ List.mem_cons_self;dsimp only at gx gy;obtain rfl:y=y':=Option.some.inj (g2.symm.trans gy)
    have mx:=List.mem_of_getElem? gx;have cx:=Nd.cnts_mem mx;have hlen:=zMg hal;have kx:=x.cnt_kids;have lx:=Nd.cnts_len x.kids;have hda:a.getD i noN=x :=(by rw[List.getD_eq_getElem?_getD,gx]; rfl);have hpar:chgF G p a b ((i,j)::S') j=setO p j x y++zCt G p j 0 x.kids y.kids:=by
     unfold chgF;rw[zJV,if_pos rfl]
     dsimp only;rw[hda,hd]
    have hsort:=List.pairwise_cons.1 hR.sorted;have hrest:∀ q∈List.range' (j+1) (b.length - (j+1)),chgF G p a b ((i,j)::S') q=chgF G p a b S' q:=fun q hq=>by
     have hq':=List.mem_range'_1.1 hq;unfold chgF;rw[zJV,if_neg (by dsimp only; omega)]
    rw[zKr hrest]at ho ⊢;rw[hpar]at ho ⊢;rw[List.length_append]at ho;have c0:((((i,j)::S').map zCP).length:Int)=((S'.length+1:Nat):Int) :=(by simp);have a0:at? (((i,j)::S').map zCP) 0=some ((i:Int),(j:Int)):=rfl;have hc:(bif (((((i,j)::S').map zCP).length:Int) == 0) then some true else (at? (((i,j)::S').map zCP) 0).bind fun e=>some (e.2 != (j:Int)):Option Bool)=some false:=by
     rw[c0,zDq (by omega),cond_false,a0]
     simp
    have es1:x.text=y.text->setO p j x y=[]:=fun h=>if_pos h
    have es2:x.text ≠ y.text->setO p j x y=[zKL p j x.text y.text]:=fun h=>if_neg h
    have ih:=zPA N p a b F G hN hp hca hcb hF k (j+1) S' (o++(setO p j x y++zCt G p j 0 x.kids y.kids)) (by omega) (by omega) ⟨fun u hu=>hR.inn u (List.mem_cons_of_mem _ hu),hsort.2⟩ (fun u hu=>(hsort.1 u hu).2) (by rw[List.length_append,List.length_append]; omega)
    have el:=zRe N p j x.kids y.kids F G (by omega) hp hlen (by omega) (fun s u v o h1 h2 h3=>hF x mx y my j s u v o h1 h2 h3) N 0 (o++setO p j x y) (by omega) (Nat.zero_le _) (by rw[List.drop_zero,List.drop_zero,List.length_append]; omega)
    rw[show((0:Nat):Int)=0 from rfl,List.drop_zero,List.drop_zero]at el;have ee:x.text ≠ y.text->zCR N (zKL p j x.text y.text) o=some (o++[zKL p j x.text y.text]):=fun _=>zSu N _ o (by show Nd.cnts []<N; simp only[Nd.cnts]; omega) (by show Nd.cnts []<=_; simp only[Nd.cnts]; omega) (by show p.length<=_; omega) (by omega)
    have at2:=zSo gx;have htk:((((i,j)::S').map zCP).take ((((i,j)::S').map zCP).length:Int).toNat).drop (1:Int).toNat=S'.map zCP:=by
     rw[Int.toNat_natCast,List.take_length]; rfl
    obtain⟨x1,x2,x3,x4⟩:=x;obtain⟨y1,y2,y3,y4⟩:=y;simp only[Nd.text,Nd.kids]at ee el es1 es2 ih;simp only[obs,a0]at hc ⊢;rw[hc]
    simp only[obs,cond_false,at2]
    rw[zCs (by rw[c0]; omega),htk]
    by_cases ht:x2=y2
    ·rw[es1 ht,List.append_nil]at el;rw[es1 ht,List.nil_append]at ih;rw[show(x2 == y2)=true from beq_iff_eq.2 ht]
     simp only[Bool.not_true,cond_false,obs,el]
     rw[zAP (by omega),ih,es1 ht,List.nil_append,List.append_assoc]
     rfl
    ·rw[es2 ht]at el ih;rw[show(x2 == y2)=false from beq_eq_false_iff_ne.2 ht]
     simp only[Bool.not_false,cond_true,obs]
     have ee':=ee ht;unfold zKL at ee';rw[ee']
     simp only[obs]
     unfold zKL at el;rw[el]
     simp only[obs]
     unfold zKL at ih;rw[zAP (by omega)]
     simp only[List.append_assoc]at ih ⊢;rw[ih,es2 ht]
     rfl
   ·have hout:∀ u∈S,j+1<=u.2:=fun u hu=>by
     cases S with
     | nil=>cases hu
     | cons v S' =>
      have hv:=hS v List.mem_cons_self;have hne:v.2 ≠ j:=fun e=>hmt ⟨v.1,S',by rw[← e]⟩
      rcases List.mem_cons.1 hu with rfl | hu
      ·omega
      ·have:=(List.pairwise_cons.1 hR.sorted).1 u hu
       omega
    have hpar:chgF G p a b S j=[zFS p j y]:=by
     unfold chgF;rw[zPY fun u hu=>by have:=hout u hu; omega,hd]
    rw[hpar]at ho ⊢;have hc:(bif (((S.map zCP).length:Int) == 0) then some true else (at? (S.map zCP) 0).bind fun e=>some (e.2 != (j:Int)):Option Bool)=some true:=by
     cases S with
     | nil=>rfl
     | cons v S' =>
      have hv:=hout v List.mem_cons_self;have c0:(((v::S').map zCP).length:Int)=((S'.length+1:Nat):Int) :=(by simp);have a0:at? ((v::S').map zCP) 0=some (zCP v):=rfl;rw[c0,zDq (by omega),cond_false,a0]
      simp only[obs,zCP]
      congr 1
      exact bne_iff_ne.2 (by omega)
    have ih:=zPA N p a b F G hN hp hca hcb hF k (j+1) S (o++[zFS p j y]) (by omega) (by omega) hR hout (by rw[List.length_append]; omega)
    have ee:=zSu N (zFS p j y) o (by rw[(zKf (o:=zFS p j y)).1]; simp only[Nd.cnts]; omega) (by rw[(zKf (o:=zFS p j y)).1]; simp only[Nd.cnts]; omega) (by show p.length<=_; omega) (by omega)
    obtain⟨y1,y2,y3,y4⟩:=y;unfold zFS at ee;simp only[obs]
    rw[hc]
    simp only[obs,cond_true,ee]
    unfold zFS at ih;rw[zAP (by omega),ih]
    unfold zFS;simp only[List.append_assoc]
  ·rw[zBn (by omega),cond_false,show b.length - j=0 by omega]
   simp
theorem zV6 {L:List (Nat×Nat)} (hs:L.Pairwise fun u v=>u.1<v.1/\u.2<v.2){i q:Nat} (h:(i,q)∈L):parK L i=some q:=by
 induction L with
 | nil=>cases h
 | cons u L ih =>
  obtain⟨h1,h2⟩:=List.pairwise_cons.1 hs;rw[zM5]
  rcases List.mem_cons.1 h with rfl | h
  ·rw[if_pos rfl]
  ·rw[if_neg (by have:=h1 _ h; dsimp only at this; omega)]
   exact ih h2 h
theorem zQT (N:Nat) (p:List Int) (j:Nat) (xk yk:List Nd) (F:zUZ) (G:RowO) (hN:5<N) (hp:p.length<=1000000) (hl:xk.length=yk.length)
  (hF:∀ (s:Nat) (u v:Nd) (o:List Op8),xk[s]? = some u->yk[s]? = some v->o.length+(G (p++[(j:Int),(s:Int)]) u.kids v.kids).length<=4000000->F u.kids v.kids (p++[(j:Int),(s:Int)]) o=some (o++G (p++[(j:Int),(s:Int)]) u.kids v.kids)) (o:List Op8) :
  ∀ (i:Nat),i<=xk.length->o.length+(zCv G p j (xk.length - i) (xk.drop (xk.length - i)) (yk.drop (xk.length - i))).length<=4000000 ->
   zBB F N xk yk p (j:Int) o i=some (o++zCv G p j (xk.length - i) (xk.drop (xk.length - i)) (yk.drop (xk.length - i)))
 | 0,_,_=>by
  unfold zBB;rw[Nat.sub_zero,List.drop_length]
  simp only[zCv,List.append_nil]
 | i+1,hi,ho=>by
  unfold zBB;have e:xk.length - i=(xk.length - (i+1))+1 :=(by omega);have e2:xk.length - 1 - i=xk.length - (i+1) :=(by omega);have hs:xk.length - (i+1)<xk.length :=(by omega);have ih:=zQT N p j xk yk F G hN hp hl hF o i (by omega)
  rw[e]at ih;rw[e2]
  generalize xk.length - (i+1)=s at *;have g1:xk[s]? = some xk[s]:=List.getElem?_eq_getElem hs;have g2:yk[s]? = some (yk[s]'(by omega)):=List.getElem?_eq_getElem (by omega)
  generalize xk[s]=u at *;generalize yk[s]'(by omega)=v at *;rw[zLE g1,zLE g2]at ho ⊢;simp only[zCv,List.length_append]at ho;rw[ih (by omega)]
  have e1:=hF s u v (o++zCv G p j (s+1) (xk.drop (s+1)) (yk.drop (s+1))) g1 g2 (by rw[List.length_append]; omega)
  rw[zSo g1,zSo g2]
  obtain⟨u1,u2,u3,u4⟩:=u;obtain⟨v1,v2,v3,v4⟩:=v;simp only[Nd.kids]at e1;simp only[obs]
  rw[zOj N p j s hN hp]
  simp only[obs,e1]
  simp only[zCv,Nd.kids,List.append_assoc]
theorem zRk (P:List (Nat×Nat)) (u:Nat×Nat) (hl:P.length<=4000000):IntKind.i64.wrap ((((P++[u]).map zCP).length:Int) - 1)=(P.length:Int)/\at? ((P++[u]).map zCP) (P.length:Int)=some (zCP u)/\((P++[u]).map zCP).take (P.length:Int).toNat=P.map zCP:=by
 have h1:(((P++[u]).map zCP).length:Int) - 1=(P.length:Int) :=(by simp);refine⟨by rw[h1,wrap64_in (by omega) (by omega)],?_,?_⟩
 ·unfold at?
  rw[if_pos (by omega),Int.toNat_natCast]
  simp
 ·rw[Int.toNat_natCast]
  simp
theorem zYW (N:Nat) (p:List Int) (a b:List Nd) (L P:List (Nat×Nat)) (F:zUZ) (G:RowO) (hN:1000<N) (hp:p.length<=1000000) (hca:Nd.cnts a<=999) (hcb:Nd.cnts b<=999)
  (hF:∀ x∈a,∀ y∈b,∀ (j s:Nat) (u v:Nd) (o:List Op8),x.kids[s]? = some u->y.kids[s]? = some v->o.length+(G (p++[(j:Int),(s:Int)]) u.kids v.kids).length<=4000000->F u.kids v.kids (p++[(j:Int),(s:Int)]) o=some (o++G (p++[(j:Int),(s:Int)]) u.kids v.kids))
  (hR:Rest a b L) (hP:P <+: L) (j:Nat) (hPj:∀ u∈P,u.1<j+1) (hQ:∀ u∈L,u ∉ P->j<u.1) (x:Nd) (gx:a[j]? = some x) (o:List Op8) (ho:o.length+(delF G p a b L j).length<=4000000) :
  ∃ P',P' <+: L/\(∀ u∈P',u.1<j)/\(∀ u∈L,u ∉ P'->j<=u.1)/\zBR F N b p (j:Int) x (P.map zCP) o=some (P'.map zCP,o++delF G p a b L j):=by
 have lb:=Nd.cnts_len b;have la:=Nd.cnts_len a;have mx:=List.mem_of_getElem? gx;have cx:=Nd.cnts_mem mx;have kx:=x.cnt_kids;have lx:=Nd.cnts_len x.kids;have hda:a.getD j noN=x :=(by rw[List.getD_eq_getElem?_getD,gx]; rfl);have hPs:P.Pairwise fun u v=>u.1<v.1/\u.2<v.2:=List.Pairwise.sublist hP.sublist hR.sorted
 by_cases hmt:∃ P' q,P=P'++[(j,q)]
 ·obtain⟨P',q,rfl⟩:=hmt;have hmem:(j,q)∈L:=hP.subset (by simp)
  obtain⟨x',y,gx',gy,hal⟩:=hR.inn _ hmem;dsimp only at gx' gy;obtain rfl:x=x':=Option.some.inj (gx.symm.trans gx')
  have my:=List.mem_of_getElem? gy;have hdb:b.getD q noN=y :=(by rw[List.getD_eq_getElem?_getD,gy]; rfl);have hsp:=List.pairwise_append.1 hPs;have hlt:∀ u∈P',u.1<j:=fun u hu=>(hsp.2.2 u hu _ (List.mem_singleton.2 rfl)).1
  have hdel:delF G p a b L j=zCv G p j 0 x.kids y.kids:=by
   unfold delF;rw[zV6 hR.sorted hmem]
   dsimp only;rw[hda,hdb]
  rw[hdel]at ho ⊢;have hlen:P'.length<=4000000:=by
   have:=hP.length_le;have h2:L.length<=a.length:=by
    have hs:=hR.sorted;have hin:=hR.inn
    clear hmem hPs hsp hdel hQ hPj hP
    have key:∀ (n:Nat) (l:List (Nat×Nat)),(l.Pairwise fun u v=>u.1<v.1/\u.2<v.2)->(∀ u∈l,n<=u.1/\u.1<a.length)->l.length<=a.length - n:=by
     intro n l
     induction l generalizing n with
     | nil=>intro _ _; exact Nat.zero_le _
     | cons u l ih =>
      intro h1 h2;obtain⟨h3,h4⟩:=List.pairwise_cons.1 h1;have:=ih (u.1+1) h4 fun w hw=>⟨(h3 w hw).1,(h2 w (List.mem_cons_of_mem _ hw)).2⟩
      have:=h2 u List.mem_cons_self;simp only[List.length_cons]
      omega
    have:=key 0 L hs fun u hu=>by
     obtain⟨x,y,h1,_,_⟩:=hin u hu;exact⟨Nat.zero_le _,(List.getElem?_eq_some_iff.1 h1).1⟩
    omega
   simp only[List.length_append,List.length_cons,List.length_nil]at this
   omega
  obtain⟨w1,w2,w3⟩:=zRk P' (j,q) hlen;refine⟨P',(List.prefix_append P' [(j,q)]).trans hP,hlt,fun u hu hn=>?_,?_⟩
  ·by_cases hu2:u∈P'++[(j,q)]
   ·rcases List.mem_append.1 hu2 with h | h
    ·exact absurd h hn
    ·rw[List.mem_singleton.1 h]; exact Nat.le_refl _
   ·exact Nat.le_of_lt (hQ u hu hu2)
  have hl0:((((P'++[(j,q)]).map zCP).length:Int) == 0)=false:=zDq (by simp; omega)
  have hc:(bif ((((P'++[(j,q)]).map zCP).length:Int) == 0) then some true else (at? ((P'++[(j,q)]).map zCP) (IntKind.i64.wrap ((((P'++[(j,q)]).map zCP).length:Int) - 1))).bind fun e=>some (e.1 != (j:Int)):Option Bool)=some false:=by
   rw[hl0,cond_false,w1,w2]
   simp[zCP]
  have el:=zQT N p j x.kids y.kids F G (by omega) hp (zMg hal) (fun s u v o h1 h2 h3=>hF x mx y my j s u v o h1 h2 h3) o x.kids.length (Nat.le_refl _) (by rw[Nat.sub_self,List.drop_zero,List.drop_zero]; exact ho)
  rw[Nat.sub_self,List.drop_zero,List.drop_zero]at el;have at2:=zSo gy;have hw:(P'.length:Int)<=(((P'++[(j,q)]).map zCP).length:Int) :=(by simp; omega);obtain⟨x1,x2,x3,x4⟩:=x;obtain⟨y1,y2,y3,y4⟩:=y;unfold zBR;simp only[Nd.kids]at el lx kx ⊢;rw[hc]
  simp only[obs,cond_false]
  rw[w1,w2]
  simp only[obs,zCP,at2]
  rw[zCs ⟨by omega,hw,by omega⟩,el]
  simp only[obs]
  rw[w3]
 ·have hout:∀ u∈P,u.1<j:=by
   intro u hu;rcases List.eq_nil_or_concat P with rfl | ⟨P',v,rfl⟩
   ·cases hu
   ·have hne:v.1 ≠ j:=fun e=>hmt ⟨P',v.2,by rw[← e]; simp⟩
    have hv:=hPj v (by simp)
    rw[List.concat_eq_append]at hu hPs;rcases List.mem_append.1 hu with h | h
    ·have:=((List.pairwise_append.1 hPs).2.2 u h v (List.mem_singleton.2 rfl)).1
     omega
    ·rw[List.mem_singleton.1 h]; omega
  have hnone:parK L j=none:=zPZ fun u hu=>by
   by_cases h:u∈P
   ·have:=hout u h; omega
   ·have:=hQ u hu h; omega
  have hdel:delF G p a b L j=[zGx p j x]:=by
   unfold delF;rw[hnone]
   dsimp only;rw[hda]
  rw[hdel]at ho ⊢;refine⟨P,hP,hout,fun u hu hn=>Nat.le_of_lt (hQ u hu hn),?_⟩
  have hlen:P.length<=4000000:=by
   have h2:∀ (n:Nat) (l:List (Nat×Nat)),(l.Pairwise fun u v=>u.1<v.1/\u.2<v.2)->(∀ u∈l,n<=u.1/\u.1<j)->l.length<=j - n:=by
    intro n l
    induction l generalizing n with
    | nil=>intro _ _; exact Nat.zero_le _
    | cons u l ih =>
     intro h1 h2;obtain⟨h3,h4⟩:=List.pairwise_cons.1 h1;have:=ih (u.1+1) h4 fun w hw=>⟨(h3 w hw).1,(h2 w (List.mem_cons_of_mem _ hw)).2⟩
     have:=h2 u List.mem_cons_self;simp only[List.length_cons]
     omega
   have:=h2 0 P hPs fun u hu=>⟨Nat.zero_le _,hout u hu⟩
   have:=(List.getElem?_eq_some_iff.1 gx).1
   omega
  have hc:(bif (((P.map zCP).length:Int) == 0) then some true else (at? (P.map zCP) (IntKind.i64.wrap (((P.map zCP).length:Int) - 1))).bind fun e=>some (e.1 != (j:Int)):Option Bool)=some true:=by
   rcases List.eq_nil_or_concat P with rfl | ⟨P',v,rfl⟩
   ·rfl
   ·rw[List.concat_eq_append]at hlen hout ⊢;obtain⟨w1,w2,w3⟩:=zRk P' v (by simp only[List.length_append,List.length_cons,List.length_nil]at hlen; omega)
    rw[w1,w2,zDq (by simp; omega),cond_false]
    have:=hout v (by simp)
    simp only[obs,zCP]
    congr 1
    exact bne_iff_ne.2 (by omega)
  have ee:=zSu N (zGx p j x) o (by rw[(zKf (o:=zGx p j x) (x:=x)).2]; simp only[Nd.cnts]; omega) (by rw[(zKf (o:=zGx p j x) (x:=x)).2]; simp only[Nd.cnts]; omega) (by show p.length<=_; omega) (by omega)
  obtain⟨x1,x2,x3,x4⟩:=x;unfold zGx at ee;unfold zBR;dsimp only;rw[hc]
  simp only[obs,cond_true,ee]
  rfl
theorem zQR (N:Nat) (p:List Int) (a b:List Nd) (L:List (Nat×Nat)) (F:zUZ) (G:RowO) (hN:1000<N) (hp:p.length<=1000000) (hca:Nd.cnts a<=999) (hcb:Nd.cnts b<=999)
  (hF:∀ x∈a,∀ y∈b,∀ (j s:Nat) (u v:Nd) (o:List Op8),x.kids[s]? = some u->y.kids[s]? = some v->o.length+(G (p++[(j:Int),(s:Int)]) u.kids v.kids).length<=4000000->F u.kids v.kids (p++[(j:Int),(s:Int)]) o=some (o++G (p++[(j:Int),(s:Int)]) u.kids v.kids))
  (hR:Rest a b L) (o:List Op8):∀ (i:Nat),i<=a.length->o.length+((List.range' (a.length - i) i).reverse.flatMap (delF G p a b L)).length<=4000000 ->
   ∃ P,P <+: L/\(∀ u∈P,u.1<a.length - i)/\(∀ u∈L,u ∉ P->a.length - i<=u.1)/\zBA F N a b p (L.map zCP) o i=some (P.map zCP,o++(List.range' (a.length - i) i).reverse.flatMap (delF G p a b L))
 | 0,_,_=>by
  refine⟨L,List.prefix_refl _,fun u hu=>?_,fun u hu hn=>absurd hu hn,?_⟩
  ·obtain⟨x,y,h1,_,_⟩:=hR.inn u hu;exact(List.getElem?_eq_some_iff.1 h1).1
  ·unfold zBA;simp
 | i+1,hi,ho=>by
  have e:a.length - i=(a.length - (i+1))+1 :=(by omega);have e2:a.length - 1 - i=a.length - (i+1) :=(by omega);have hj:a.length - (i+1)<a.length :=(by omega);have ih:=zQR N p a b L F G hN hp hca hcb hF hR o i (by omega)
  rw[zLL]at ho ⊢;unfold zBA;rw[e2]
  rw[e]at ih;generalize a.length - (i+1)=j at *;rw[List.length_append]at ho;obtain⟨P,h1,h2,h3,h4⟩:=ih (by omega)
  have gx:a[j]? = some a[j]:=List.getElem?_eq_getElem hj;obtain⟨P',g1,g2,g3,g4⟩:=zYW N p a b L P F G hN hp hca hcb hF hR h1 j h2 (fun u hu hn=>by have:=h3 u hu hn; omega) _ gx (o++(List.range' (j+1) i).reverse.flatMap (delF G p a b L)) (by rw[List.length_append]; omega)
  refine⟨P',g1,g2,g3,?_⟩
  rw[h4]
  simp only[obs]
  rw[gx,obs,g4]
  simp only[List.append_assoc]
theorem zVc (K:Nat) (p:List Int) (a b:List Nd):4 * (zDo K p a b).length<=5 * Nd.ws b:=Nat.le_trans (zTU _) (zJ7 K p a b)
theorem zVq (K:Nat) (p:List Int) (a b:List Nd):4 * (zDe K p a b).length<=5 * Nd.ws a:=Nat.le_trans (zTU _) (zJ8 K p a b)
theorem zJ5 {a:List Nd}{x u:Nd}{s:Nat} (hx:x∈a) (hu:x.kids[s]? = some u):Nd.cnts u.kids+2<=Nd.cnts a/\Nd.ws u.kids+2<=Nd.ws a/\u∈x.kids:=by
 have h:=List.mem_of_getElem? hu;have h1:=zH5 hx h;have h2:=Nd.w_mem hx;have h3:=Nd.w_mem h;have e1:=x.w_eq;have e2:=u.w_eq;exact⟨h1,by omega,h⟩
theorem ins_eq:∀ (K n:Nat) (p:List Int) (a b:List Nd) (o:List Op8),Nd.cnts a<K->4 * Nd.ws a+4 * Nd.ws b+1300<n->p.length+Nd.cnts a<=900000->okR a->okR b->Nd.cnts a<=999->Nd.cnts b<=999->Nd.ws a<=15999999->Nd.ws b<=15999999->o.length+(zDo K p a b).length<=4000000 ->
  zAT n a b p o=some (o++zDo K p a b)
 | 0,_,_,_,_,_,h,_,_,_,_,_,_,_,_,_=>by omega
 | _+1,0,_,_,_,_,_,h,_,_,_,_,_,_,_,_=>by omega
 | K+1,n+1,p,a,b,o,hK,hn,hp,oa,ob,ca,cb,wa,wb,ho=>by
  have hbw:=Nd.cnts_ws b;have lb:=Nd.cnts_len b;have e1:=zQD n a b (by omega) wa wb ca cb oa.2 ob.2;rw[zQM]at ho ⊢;have e2:=zPA n p a b (zAT n) (zDo K) (by omega) (by omega) ca cb (fun x mx y my j s u v o' gu gv ho'=>by
   obtain⟨s1,s2,s3⟩:=zJ5 mx gu;obtain⟨t1,t2,t3⟩:=zJ5 my gv;exact ins_eq K n (p++[(j:Int),(s:Int)]) u.kids v.kids o' (by omega) (by omega) (by simp only[List.length_append,List.length_cons,List.length_nil]; omega) (oa.sub mx s3).1 (ob.sub my t3).1 (by omega) (by omega) (by omega) (by omega) ho') n 0 (zJU a b) o (by omega) (Nat.zero_le _) (zOF a b) (fun _ _=>Nat.zero_le _) (by rw[Nat.sub_zero]; exact ho)
  rw[show((0:Nat):Int)=0 from rfl,Nat.sub_zero]at e2;unfold zAT;rw[e1,obs,e2]
  rfl
theorem del_eq:∀ (K n:Nat) (p:List Int) (a b:List Nd) (o:List Op8),Nd.cnts a<K->4 * Nd.ws a+4 * Nd.ws b+1300<n->p.length+Nd.cnts a<=900000->okR a->okR b->Nd.cnts a<=999->Nd.cnts b<=999->Nd.ws a<=15999999->Nd.ws b<=15999999->o.length+(zDe K p a b).length<=4000000 ->
  zBX n a b p o=some (o++zDe K p a b)
 | 0,_,_,_,_,_,h,_,_,_,_,_,_,_,_,_=>by omega
 | _+1,0,_,_,_,_,_,h,_,_,_,_,_,_,_,_=>by omega
 | K+1,n+1,p,a,b,o,hK,hn,hp,oa,ob,ca,cb,wa,wb,ho=>by
  have la:=Nd.cnts_len a;have e1:=zQD n a b (by omega) wa wb ca cb oa.2 ob.2;rw[zQS]at ho ⊢;obtain⟨P,_,_,_,e2⟩:=zQR n p a b (zJU a b) (zBX n) (zDe K) (by omega) (by omega) ca cb (fun x mx y my j s u v o' gu gv ho'=>by
   obtain⟨s1,s2,s3⟩:=zJ5 mx gu;obtain⟨t1,t2,t3⟩:=zJ5 my gv;exact del_eq K n (p++[(j:Int),(s:Int)]) u.kids v.kids o' (by omega) (by omega) (by simp only[List.length_append,List.length_cons,List.length_nil]; omega) (oa.sub mx s3).1 (ob.sub my t3).1 (by omega) (by omega) (by omega) (by omega) ho') (zOF a b) o a.length (Nat.le_refl _) (by rw[Nat.sub_self]; exact ho)
  rw[Nat.sub_self]at e2;unfold zBX;rw[e1,obs,zCs (by omega),e2]
  rfl
theorem zZI (n:Nat) (a b:Nd) (h:4 * a.w+4 * b.w+1400<n) (ha:a.w<=1048576) (hb:b.w<=1048576) (ca:a.cnt<=120) (cb:b.cnt<=1000) (ra:a.rng) (rb:b.rng) :
  zEF n a b=some (bif zAA a&&zAA b then (opsK a b,0) else ([],1)):=by
 have e1:=zJz n a b (by omega) (by omega) (by omega) (by omega)
 have k1:=a.cnt_kids;have k2:=b.cnt_kids;have w1:=a.w_eq;have w2:=b.w_eq;have l1:=zVq 130 [] a.kids b.kids;have l2:=zVc 130 [] a.kids b.kids;cases hva:zAA a with
 | false =>
  rw[hva]at e1;obtain⟨a1,a2,a3,a4⟩:=a;obtain⟨b1,b2,b3,b4⟩:=b;unfold zEF;simp only[e1,obs,Bool.false_and,Bool.not_false,cond_true,cond_false]
 | true =>
  cases hvb:zAA b with
  | false =>
   rw[hva,hvb]at e1;obtain⟨a1,a2,a3,a4⟩:=a;obtain⟨b1,b2,b3,b4⟩:=b;unfold zEF;simp only[e1,obs,Bool.and_false,Bool.not_false,cond_true,cond_false]
  | true =>
   have oa:=(zYt hva ra).1;have ob:=(zYt hvb rb).1;have e2:=del_eq 130 n [] a.kids b.kids [] (by omega) (by omega) (by simp only[List.length_nil]; omega) oa ob (by omega) (by omega) (by omega) (by omega) (by simp only[List.length_nil]; omega)
   have e3:=ins_eq 130 n [] a.kids b.kids (zDe 130 [] a.kids b.kids) (by omega) (by omega) (by simp only[List.length_nil]; omega) oa ob (by omega) (by omega) (by omega) (by omega) (by omega)
   rw[List.nil_append]at e2;rw[hva,hvb]at e1;unfold opsK;obtain⟨a1,a2,a3,a4⟩:=a;obtain⟨b1,b2,b3,b4⟩:=b;simp only[Nd.kids]at e2 e3 ⊢;unfold zEF;simp only[e1,e2,e3,obs,Bool.and_self,Bool.not_true,cond_true,cond_false]
theorem zOy (n:Nat){l:List Nd} (hb:Nd.cnts l<=16777216):∀ (k i:Nat),l.length - i<k->i<=l.length->zBy l k (i:Int) (l.take i)=some l
 | 0,i,h,_=>by omega
 | k+1,i,h,hi=>by
  have hlen:=Nd.cnts_len l;unfold zBy
  by_cases hj:i<l.length
  ·have hm:=Nd.cnts_mem (List.getElem_mem hj)
   have hd:zBK l[i]=some l[i]:=zIP (by omega)
   have ht:l.take i++[l[i]]=l.take (i+1) :=(by rw[List.take_append_getElem hj]);rw[zBs (Int.ofNat_lt.2 hj),cond_true,zBJ hj]
   have ih:=zOy n hb k (i+1) (by omega) (by omega)
   rw[← ht]at ih;generalize l[i]=v at *;obtain⟨v1,v2,v3,v4⟩:=v;simp only[obs,hd]
   rw[zCs (by simp only[List.length_take,List.length_cons,List.length_nil]; omega),zAP (show i<9223372036854775807 by omega),ih]
  ·rw[zBn (by omega),cond_false,List.take_of_length_le (by omega)]
theorem zUV (n:Nat) (o:Op8) (hn:Nd.cnts o.nodes<n) (hb:Nd.cnts o.nodes<=16777216) (hr:o.row.length<=16777216):zB6 n o=some (invO o):=by
 obtain⟨k,row,a,m,nodes,slot,old,text⟩:=o;simp only[Op8.nodes,Op8.row]at hn hb hr;have hlen:=Nd.cnts_len nodes;have h1:zCX row=some row:=zCs (by omega)
 have h2:=zOy n hb n 0 (by omega) (by omega)
 rw[show((0:Nat):Int)=0 from rfl,List.take_zero]at h2;unfold zB6 zFC zFB zEW;simp only[h1,h2,obs]
 unfold invO;dsimp only
 by_cases k1:k=1
 ·subst k1; rfl
 by_cases k2:k=2
 ·subst k2; rfl
 by_cases k3:k=3
 ·subst k3; rfl
 by_cases k4:k=4
 ·subst k4; rfl
 by_cases k5:k=5
 ·subst k5; rfl
 rw[zDq k1,zDq k2,zDq k3,zDq k4,zDq k5,if_neg k1,if_neg k2,if_neg k3,if_neg k4,if_neg k5,if_neg k5]
 rfl
theorem zXR (l:List Op8){i:Nat} (hi:i<l.length):(l.map invO).reverse.take i++[invO l[l.length - 1 - i]]=(l.map invO).reverse.take (i+1):=by
 have hlen:i<(l.map invO).reverse.length :=(by simpa using hi);rw[← List.take_append_getElem hlen]
 congr 2
 rw[List.getElem_reverse,List.getElem_map]
 congr 2
 simp only[List.length_map]
theorem zIq (n:Nat){ops:List Op8} (ho:∀ o∈ops,zB6 n o=some (invO o)) (hl:ops.length<=4294967296):∀ i,i<=ops.length->zA7 n ops i=some ((ops.map invO).reverse.take i)
 | 0,_=>by rw[List.take_zero]; rfl
 | i+1,hi=>by
  have hj:ops.length - 1 - i<ops.length :=(by omega);unfold zA7;rw[zIq n ho hl i (by omega),List.getElem?_eq_getElem hj]
  simp only[obs,ho _ (List.getElem_mem hj)]
  rw[zCs (by simp only[List.length_take,List.length_reverse,List.length_map]; omega),zXR ops (by omega)]
theorem zQi (n:Nat){ops:List Op8} (ho:∀ o∈ops,zB6 n o=some (invO o)) (hl:ops.length<=4294967296):zCm n ops=some (ops.map invO).reverse:=by
 unfold zCm;dsimp only;rw[zCs hl,zIq n ho hl _ (Nat.le_refl _),List.take_of_length_le (by simp)]
theorem Runs.app {t u v:Nd}{a b:List Op8}{e:Int} (h:Runs t a u 0) (h2:Runs u b v e):Runs t (a++b) v e:=by
 generalize hz:(0:Int)=z at h
 induction h with
 | nil t=>exact h2
 | stop h he=>exact absurd hz.symm he
 | next h hr ih=>exact .next h (ih h2 hz)
theorem Runs.back {t u:Nd}{ops:List Op8} (h:Runs t ops u 0) (hv:zAA t=true):Runs u (ops.map invO).reverse t 0/\zAA u=true:=by
 generalize hz:(0:Int)=z at h
 induction h with
 | nil t=>exact⟨.nil t,hv⟩
 | stop h he=>exact absurd hz.symm he
 | next h hr ih =>
  subst hz;obtain⟨h1,h2⟩:=h.inv;obtain⟨h3,h4⟩:=ih h2 rfl;rw[List.map_cons,List.reverse_cons]
  exact⟨h3.app (.next h1 (.nil _)),h4⟩
theorem pw2 (n:Nat){nodes:List Nd} (hn:Nd.cnts nodes<n) (hb:Nd.cnts nodes<=4000000) :
  ∀ (k i:Nat) (c:Nat),nodes.length - i<k->i<=nodes.length->c+Nd.cnts (nodes.drop i)<=100000000->zBW n nodes k (i:Int) (c:Int)=some ((c+Nd.cnts (nodes.drop i):Nat):Int)
 | 0,_,_,h,_,_=>by omega
 | k+1,i,c,hk,hi,hc=>by
  have hl:=Nd.cnts_len nodes;unfold zBW
  by_cases h:i<nodes.length
  ·rw[zBs (Int.ofNat_lt.2 h)]
   simp only[cond_true,zBJ h,obs]
   have hm:=Nd.cnts_mem (List.getElem_mem h)
   have hd:=Nd.cnts_drop h;rcases e:nodes[i] with ⟨a,b,c',d⟩
   rw[e]at hm hd;simp only[zJH n _ (show(Nd.mk a b c' d).cnt<n by omega) (by omega),obs]
   rw[zAP (by omega),wrap64_in (by omega) (by omega),← Int.natCast_add,pw2 n hn hb k (i+1) _ (by omega) (by omega) (by omega)]
   congr 2; omega
  ·rw[zBn (by omega)]
   obtain rfl:i=nodes.length :=(by omega);simp[Nd.cnts]
def zI5 (o:Op8):Prop:=o.1=1∨o.1=2∨o.1=5
theorem pw1 (n:Nat){ops:List Op8} (hn:∀ o∈ops,Nd.cnts o.nodes<n/\Nd.cnts o.nodes<=4000000/\zI5 o) (hl:ops.length<=4000000) :
  ∀ (k i:Nat) (c:Nat),ops.length - i<k->i<=ops.length->c+wgt (ops.drop i)<=4000000->zBV n ops k (i:Int) (c:Int)=some (.go ((c+wgt (ops.drop i):Nat):Int))
 | 0,_,_,h,_,_=>by omega
 | k+1,i,c,hk,hi,hc=>by
  unfold zBV
  by_cases h:i<ops.length
  ·rw[zBs (Int.ofNat_lt.2 h)]
   obtain⟨h1,h2,h3⟩:=hn _ (List.getElem_mem h)
   have hp:=zBJ h;rw[List.drop_eq_getElem_cons h]at hc ⊢;simp only[wgt]at hc ⊢;rcases e:ops[i] with ⟨k1,k2,k3,k4,nodes,k5,k6,k7⟩
   rw[e]at h1 h2 h3 hp hc;simp only[Op8.nodes]at h1 h2;have hlen:=Nd.cnts_len nodes;simp only[cond_true,hp,obs]
   rw[zAP (i:=i) (by omega)]
   have ih:=fun c' h=>pw1 n hn hl k (i+1) c' (by omega) (by omega) h
   unfold zI5 at h3;dsimp only at h3
   by_cases hk5:k1=5
   ·subst hk5;have hw:wop (5,k2,k3,k4,nodes,k5,k6,k7)=1:=rfl;rw[hw]at hc ⊢;simp only[show((5:Int) == 1)=false from rfl,show((5:Int) == 2)=false from rfl,beq_self_eq_true,obs,cond_true,cond_false]
    rw[zAP (i:=c) (by omega),ih (c+1) (by omega)]
    congr 3; omega
   ·have hw:wop (k1,k2,k3,k4,nodes,k5,k6,k7)=Nd.cnts nodes :=(by simp[wop,hk5]);rw[hw]at hc ⊢;have h2:=pw2 n h1 h2 n 0 c (by omega) (by omega) (by rw[List.drop_zero]; omega)
    rw[show((0:Nat):Int)=0 from rfl,List.drop_zero]at h2;have hb:(bif (k1 == 1) then some (k1 == 1) else some (k1 == 2):Option Bool)=some true:=by
     rcases h3 with rfl | rfl | h3
     ·rfl
     ·rfl
     ·exact absurd h3 hk5
    rw[hb]
    simp only[obs,cond_true,h2]
    rw[ih _ (by omega)]
    congr 3; omega
  ·rw[zBn (by omega)]
   obtain rfl:i=ops.length :=(by omega);simp[wgt]
theorem zTe:∀ (N:Nat) (p:List Int) (a b:List Nd),∀ o∈zDe N p a b,zI5 o
 | 0,_,_,_,_,h=>by cases h
 | N+1,p,a,b,o,h=>by
  unfold zDe at h;rcases zVF (zNi a b) _ h with ⟨x,h1,i,rfl⟩ | ⟨x,h1,y,_,u,h2,v,_,q,h3⟩
  ·exact .inr (.inl rfl)
  ·exact zTe N q u.kids v.kids o h3
theorem zTb:∀ (N:Nat) (p:List Int) (a b:List Nd),∀ o∈zDo N p a b,zI5 o
 | 0,_,_,_,_,h=>by cases h
 | N+1,p,a,b,o,h=>by
  unfold zDo at h;rcases zVE (zNi a b) _ h with ⟨y,h1,j,rfl⟩ | ⟨x,_,y,h1,j,rfl⟩ | ⟨x,_,y,h1,u,_,v,h2,q,h3⟩
  ·exact .inl rfl
  ·exact .inr (.inr rfl)
  ·exact zTb N q u.kids v.kids o h3
theorem zV0 {a b:Nd} (wa:a.w<=1048576) (wb:b.w<=1048576):(opsK a b).length<=4000000/\∀ o∈opsK a b,Nd.cnts o.nodes<=1048581/\zI5 o:=by
 have w1:=a.w_eq;have w2:=b.w_eq;have l1:=zVq 130 [] a.kids b.kids;have l2:=zVc 130 [] a.kids b.kids;refine⟨by unfold opsK; rw[List.length_append]; omega,fun o ho=>?_⟩
 unfold opsK at ho;have hc:=Nd.cnts_ws o.nodes;rcases List.mem_append.1 ho with ho | ho
 ·have h1:=zPo _ _ _ _ o ho;unfold opw at h1;exact⟨by omega,zTe _ _ _ _ o ho⟩
 ·have h1:=zPk _ _ _ _ o ho;unfold opw at h1;exact⟨by omega,zTb _ _ _ _ o ho⟩
theorem zOQ {G:RowO}{p:List Int}{i M:Nat} (hG:∀ q u v o,q.length=p.length+2->o∈G q u v->o.row.length<=M){o:Op8}:∀ (s:Nat) (us vs:List Nd),o∈zCv G p i s us vs->o.row.length<=M
 | _,[],_,h=>by simp only[zCv]at h; cases h
 | _,_::_,[],h=>by simp only[zCv]at h; cases h
 | s,u::us,v::vs,h=>by
  simp only[zCv]at h;rcases List.mem_append.1 h with h | h
  ·exact zOQ hG (s+1) us vs h
  ·exact hG _ _ _ _ (by simp) h
theorem zOP {G:RowO}{p:List Int}{i M:Nat} (hG:∀ q u v o,q.length=p.length+2->o∈G q u v->o.row.length<=M){o:Op8}:∀ (s:Nat) (us vs:List Nd),o∈zCt G p i s us vs->o.row.length<=M
 | _,[],_,h=>by simp only[zCt]at h; cases h
 | _,_::_,[],h=>by simp only[zCt]at h; cases h
 | s,u::us,v::vs,h=>by
  simp only[zCt]at h;rcases List.mem_append.1 h with h | h
  ·exact hG _ _ _ _ (by simp) h
  ·exact zOP hG (s+1) us vs h
theorem zXd {G:RowO}{p:List Int}{M:Nat} (hp:p.length<=M) (hG:∀ q u v o,q.length=p.length+2->o∈G q u v->o.row.length<=M){o:Op8}{s:List Mv}{a b:List Nd} (hs:Sc s a b):∀ i,o∈zDk G p i s a b->o.row.length<=M:=by
 induction hs with
 | nil=>intro i h; simp only[zDk]at h; cases h
 | @mat s x y xs ys ha _ ih =>
  intro i h;simp only[zDk]at h;rcases List.mem_append.1 h with h | h
  ·exact ih _ h
  ·exact zOQ hG 0 _ _ h
 | @del s x xs b _ ih =>
  intro i h;simp only[zDk]at h;rcases List.mem_append.1 h with h | h
  ·exact ih _ h
  ·rw[List.mem_singleton.1 h]; exact hp
 | @ins s y a ys _ ih=>intro i h; exact ih i h
theorem zW5 {G:RowO}{p:List Int}{M:Nat} (hp:p.length<=M) (hG:∀ q u v o,q.length=p.length+2->o∈G q u v->o.row.length<=M){o:Op8}{s:List Mv}{a b:List Nd} (hs:Sc s a b):∀ i,o∈zDj G p i s a b->o.row.length<=M:=by
 induction hs with
 | nil=>intro i h; simp only[zDj]at h; cases h
 | @mat s x y xs ys ha _ ih =>
  intro i h;simp only[zDj]at h;rcases List.mem_append.1 h with h | h
  ·unfold setO at h;split at h
   ·cases h
   ·rw[List.mem_singleton.1 h]; exact hp
  ·rcases List.mem_append.1 h with h | h
   ·exact zOP hG 0 _ _ h
   ·exact ih _ h
 | @del s x xs b _ ih=>intro i h; exact ih i h
 | @ins s y a ys _ ih =>
  intro i h;simp only[zDj]at h;rcases List.mem_cons.1 h with h | h
  ·rw[h]; exact hp
  ·exact ih _ h
theorem zVs:∀ (N:Nat) (p:List Int) (a b:List Nd),∀ o∈zDe N p a b,o.row.length<=p.length+2 * N
 | 0,_,_,_,_,h=>by cases h
 | N+1,p,a,b,o,h=>by
  unfold zDe at h;exact zXd (by omega) (fun q u v o hq ho=>by have:=zVs N q u v o ho; omega) (zNi a b) _ h
theorem zVe:∀ (N:Nat) (p:List Int) (a b:List Nd),∀ o∈zDo N p a b,o.row.length<=p.length+2 * N
 | 0,_,_,_,_,h=>by cases h
 | N+1,p,a,b,o,h=>by
  unfold zDo at h;exact zW5 (by omega) (fun q u v o hq ho=>by have:=zVe N q u v o ho; omega) (zNi a b) _ h
theorem zZf {a b:Nd}{o:Op8} (ho:o∈opsK a b):o.row.length<=260:=by
 unfold opsK at ho;rcases List.mem_append.1 ho with ho | ho
 ·have:=zVs _ _ _ _ o ho; simpa using this
 ·have:=zVe _ _ _ _ o ho; simpa using this
theorem zTV {k:Int}{t:List UInt8} (h:zJ9 k t=true):t.length<=200:=by
 unfold zJ9 at h;split at h
 ·unfold symB at h;split at h
  ·omega
  ·simp only[Bool.and_eq_true,decide_eq_true_eq]at h; omega
 ·split at h
  ·unfold numB at h;simp only[Bool.and_eq_true,decide_eq_true_eq]at h; omega
  ·split at h
   ·simp only[Bool.and_eq_true,decide_eq_true_eq]at h; exact h.1
   ·split at h
    ·obtain⟨e,he,h1⟩:=List.any_eq_true.1 h;rw[← eq_of_beq h1]
     have:∀ e∈acL,e.length<=200 :=(by decide);exact this e he
    ·split at h
     ·unfold fenB at h;simp only[Bool.and_eq_true,decide_eq_true_eq]at h; omega
     ·rw[eq_of_beq h]; exact Nat.zero_le _
theorem zXm {k c m:Int} (h:zML k c m=true):zLr k/\zLr c:=by
 have key:∀ {j:Int},0<=j->j<=16->zLr j:=fun h1 h2=>by unfold zLr; omega
 unfold zML at h;split at h
 ·rename_i hk
  simp only[Bool.and_eq_true,decide_eq_true_eq]at h;exact⟨key (by omega) (by omega),key (by omega) (by omega)⟩
 ·simp only[Bool.and_eq_true,beq_iff_eq]at h;obtain⟨rfl,h⟩:=h;refine⟨?_,key (by omega) (by omega)⟩
  by_cases hk:1<=k/\k<=11
  ·exact key (by omega) (by omega)
  ·simp only[if_neg (show ¬ k=1 by omega),if_neg (show ¬ k=2 by omega),if_neg (show ¬ k=3 by omega),if_neg (show ¬ k=4 by omega),if_neg (show ¬ k=5 by omega),if_neg (show ¬ k=6 by omega),if_neg (show ¬ k=7 by omega),if_neg (show ¬ k=8 by omega),if_neg (show ¬ k=9 by omega),if_neg (show ¬ k=10 by omega),if_neg (show ¬ k=11 by omega),Bool.false_eq_true]at h
mutual
theorem zOq:∀ v:Nd,zCJ v=true->v.w+1<=202 * v.cnt/\v.rng
 | .mk k t c ks,h=>by
  simp only[zCJ,Bool.and_eq_true]at h
  obtain⟨h1,h2⟩:=zME k ks h.2
  have h3:=zTV h.1.1
  obtain⟨h4,h5⟩:=zXm h.1.2
  simp only[Nd.w,Nd.cnt,Nd.rng]
  exact⟨by omega,h4,h5,h2⟩
theorem zME:∀ (k:Int) (l:List Nd),zBo k l=true->Nd.ws l<=202 * Nd.cnts l/\Nd.rngs l
 | _,[],_=>by simp[Nd.ws,Nd.cnts,Nd.rngs]
 | k,v::vs,h=>by
  simp only[zBo,Bool.and_eq_true]at h
  obtain⟨h1,h2⟩:=zOq v h.1.2
  obtain⟨h3,h4⟩:=zME k vs h.2
  simp only[Nd.ws,Nd.cnts,Nd.rngs]
  exact⟨by omega,h2,h4⟩
end
theorem zG4 {t:Nd} (h:zAA t=true):t.w<=202000/\t.cnt<=1000/\t.rng:=by
 obtain⟨h1,h2,h3,h4⟩:=zFQ h;obtain⟨h5,h6⟩:=zOq t h2;exact⟨by omega,h3,h6⟩
theorem Fd.put_DL {t z:Nd}{p:List Int} (h:Fd t p z) (l:List Nd):DL t.kids (putL t p (rowN l)).kids<=DL z.kids l:=by
 induction h with
 | nil t=>rw[zC8]; exact Nat.le_refl _
 | @step k tx c ks i k2 tx2 c2 ks2 s z r p hi hs _ ih =>
  rw[zCd hi hs]
  have hl:=(List.getElem?_eq_some_iff.1 hi).1;have hl2:=(List.getElem?_eq_some_iff.1 hs).1;have e1:ks[i] = .mk k2 tx2 c2 ks2:=(List.getElem?_eq_some_iff.1 hi).2;have e2:ks2[s]=z:=(List.getElem?_eq_some_iff.1 hs).2;have h1:=zZF (l:=ks) hl (.mk k2 tx2 c2 (ks2.set s (putL z p (rowN l)))) (by rw[e1]; exact zCH.2 ⟨rfl,by simp[Nd.kids],rfl⟩)
  rw[e1,D_eq,show txt (.mk k2 tx2 c2 ks2) (.mk k2 tx2 c2 (ks2.set s (putL z p (rowN l))))=0 from zKd.2 rfl,Nat.zero_add]at h1;have h2:=zWC (us:=ks2) hl2 (putL z p (rowN l))
  rw[e2]at h2;simp only[Nd.kids]at h1 h2 ih ⊢
  omega
theorem Chg.dlw {l l':List Nd}{o:Op8}{e:Int} (h:Chg l o l' e) (he:e=0) (hk:zI5 o):DL l l'<=wop o:=by
 cases h with
 | range h=>cases he
 | @ins row p m nodes slot old text h =>
  have:=zLW l nodes (p:=p) (q:=p) (Nat.le_refl _) (by rw[List.drop_eq_nil_of_le (by rw[List.length_take]; omega)]; exact zKg nodes)
  exact this
 | @del row p m nodes slot old text h hs =>
  have:=zLW l [] (p:=p) (q:=p+nodes.length) (by omega) (zN5 _)
  have e1:(l.take (p+nodes.length)).drop p=nodes:=hs;rw[e1]at this;exact this
 | del_no=>cases he
 | wrap=>rcases hk with hk | hk | hk <;> exact absurd hk (by simp)
 | unwrap=>rcases hk with hk | hk | hk <;> exact absurd hk (by simp)
 | unwrap_no=>cases he
 | @set row p m nodes it slot old text h hl h2 =>
  have hp:=(List.getElem?_eq_some_iff.1 h).1;have e1:l[p]=it:=(List.getElem?_eq_some_iff.1 h).2;have hal:zBb it (.mk it.kind text it.cols it.kids)=true:=zCH.2 ⟨rfl,rfl,rfl⟩
  have h3:Al [it] [.mk it.kind text it.cols it.kids] (D it (.mk it.kind text it.cols it.kids)+0):=.mat hal .nil;have:=zLW l [.mk it.kind text it.cols it.kids] (p:=p) (q:=p+1) (by omega) (by rw[zP8 l hp,e1]; exact h3)
  have h4:D it (.mk it.kind text it.cols it.kids)<=1:=by
   rw[D_eq]
   have h5:sumD DL it.kids (Nd.mk it.kind text it.cols it.kids).kids=0:=zLR it.kids fun u _=>zO2 u.kids
   have h6:txt it (.mk it.kind text it.cols it.kids)<=1:=by unfold txt; cases(it.text == (Nd.mk it.kind text it.cols it.kids).text) <;> simp
   omega
  show DL l _<=1;exact Nat.le_trans this (by omega)
 | set_no=>cases he
theorem App.dlw {t t':Nd}{o:Op8}{e:Int} (h:App t o t' e) (he:e=0) (hk:zI5 o):DL t.kids t'.kids<=wop o:=by
 cases h with
 | arg=>cases he
 | form=>cases he
 | none=>cases he
 | chg _ _ _ _ h=>exact absurd he h
 | limit=>cases he
 | ok h hf hr hc hv=>exact Nat.le_trans (hr.put_DL _) (hc.dlw rfl hk)
theorem Runs.dlw {t u:Nd}{ops:List Op8}{e:Int} (h:Runs t ops u e):e=0->(∀ o∈ops,o.1 ≠ 3/\o.1 ≠ 4)->DL t.kids u.kids<=wgt ops/\∀ o∈ops,zI5 o:=by
 induction h with
 | nil t=>intro _ _; exact⟨by rw[zO2]; exact Nat.zero_le _,fun o ho=>by cases ho⟩
 | stop h he=>intro e; exact absurd e he
 | @next t t' u o ops e h hr ih =>
  intro he hk;obtain⟨h1,h2⟩:=ih he fun o ho=>hk o (List.mem_cons_of_mem _ ho)
  have hko:zI5 o:=by
   have h3:FormP o:=by cases h with | ok _ hf _ _ _=>exact hf | chg _ _ _ _ h=>exact absurd rfl h
   obtain⟨k,row,a,m,nodes,slot,old,text⟩:=o;have h4:=hk _ List.mem_cons_self;unfold zI5;dsimp only at h4 ⊢;rcases h3 with ⟨h3,_⟩ | ⟨h3,_⟩ | ⟨h3,_⟩ <;> omega
  have h5:=h.dlw rfl hko;have h6:=zZG t.kids t'.kids u.kids;refine⟨by simp only[wgt]; omega,fun o ho=>?_⟩
  rcases List.mem_cons.1 ho with rfl | ho
  ·exact hko
  ·exact h2 o ho
theorem Runs.valid {t u:Nd}{ops:List Op8}{e:Int} (h:Runs t ops u e):e=0->zAA t=true->zAA u=true:=by
 induction h with
 | nil t=>intro _ h; exact h
 | stop h he=>intro e; exact absurd e he
 | next h hr ih =>
  intro he _;refine ih he ?_;cases h with
  | ok _ _ _ _ hv=>exact hv
  | chg _ _ _ _ h=>exact absurd rfl h
theorem zQU {b:List UInt8} (hb:b.length<=1073741824):∀ (k i:Nat) (h:Int),b.length - i<k->∃ y,zBC b k h (i:Int)=some y
 | 0,i,h,hk=>by omega
 | k+1,i,h,hk=>by
  unfold zBC
  by_cases hj:i<b.length
  ·rw[zBs (Int.ofNat_lt.2 hj),cond_true,zBJ hj]
   simp only[obs,zAP (show i<9223372036854775807 by omega)]
   exact zQU hb k (i+1) _ (by omega)
  ·rw[zBn (by omega)]
   exact⟨_,rfl⟩
theorem zXe (n:Nat){b:List UInt8} (hn:b.length<n) (hb:b.length<=1073741824):∃ y,zDL n b=some y:=by
 obtain⟨y,h⟩:=zQU hb n 0 14695981039346656037 (by omega)
 rw[show((0:Nat):Int)=0 from rfl]at h;refine⟨y,?_⟩
 unfold zDL zEn;simp only[h,obs]
theorem zRx (x:Int):∀ (j k:Nat) (l:List UInt8),j<=8->j<k->l.length<=1000000000+(8 - j)->∃ r,zBl x k (8 * (j:Int) - 8) l=some r/\r.length=l.length+j
 | _,0,_,_,h,_=>by omega
 | 0,k+1,l,_,_,_=>by
  unfold zBl;rw[zBn (by omega)]
  exact⟨l,rfl,rfl⟩
 | j+1,k+1,l,h1,h2,h3=>by
  unfold zBl;rw[zBs (by omega),cond_true,zCs (by omega),zCs (by simp only[List.length_cons,List.length_nil]; omega),wrap64_in (by omega) (by omega),show(8 * ((j+1:Nat):Int) - 8) - 8=8 * (j:Int) - 8 by omega]
  generalize b8of _=c;obtain⟨r,e1,e2⟩:=zRx x j k (l++[c]) (by omega) (by omega) (by simp only[List.length_append,List.length_cons,List.length_nil]; omega)
  exact⟨r,e1,by rw[e2]; simp only[List.length_append,List.length_cons,List.length_nil]; omega⟩
theorem zJA (n:Nat) (b:List UInt8) (x:Int) (hn:8<n) (hb:b.length<=1000000000):∃ r,zBD n b x=some r/\r.length=b.length+8:=by
 obtain⟨r,e1,e2⟩:=zRx x 8 n b (Nat.le_refl _) hn (by omega)
 rw[show 8 * ((8:Nat):Int) - 8=56 from rfl]at e1;refine⟨r,?_,e2⟩
 unfold zBD;simp only[e1,obs]
theorem zRg (n:Nat){l:List Int} (hn:8<n) (hl:l.length<=10000000):∀ (k i:Nat) (b:List UInt8),l.length - i<k->i<=l.length->b.length+8 * (l.length - i)<=1000000000->∃ r,zBY n l k (i:Int) b=some r/\r.length<=1000000000/\r.length=b.length+8 * (l.length - i)
 | 0,_,_,h,_,_=>by omega
 | k+1,i,b,hk,hi,hb=>by
  unfold zBY
  by_cases h:i<l.length
  ·rw[zBs (Int.ofNat_lt.2 h),cond_true,zBJ h]
   obtain⟨y,e1,e2⟩:=zJA n b l[i] hn (by omega)
   simp only[obs,e1,zAP (show i<9223372036854775807 by omega)]
   obtain⟨r,e3,e4,e5⟩:=zRg n hn hl k (i+1) y (by omega) (by omega) (by omega)
   exact⟨r,e3,e4,by omega⟩
  ·rw[zBn (by omega)]
   exact⟨b,rfl,by omega,by omega⟩
theorem zW0 (n:Nat) (k:Int) (t:List UInt8) (c:Int) (l:List Int) (hn:t.length+8 * l.length+40<n) (ht:t.length<=10000000) (hl:l.length<=10000000):∃ y,zEm n k t c l=some y:=by
 obtain⟨y6,a1,b1⟩:=zJA n (List.replicate (0:Int).toNat (b8of 0)) (IntKind.u64.wrap k) (by omega) (by simp)
 obtain⟨y7,a2,b2⟩:=zJA n y6 (IntKind.u64.wrap (t.length:Int)) (by omega) (by rw[b1]; simp)
 simp only[List.length_replicate,Int.toNat_zero,Nat.zero_add]at b1;obtain⟨y8,a3,b3⟩:=zJA n (y7++t) (IntKind.u64.wrap c) (by omega) (by rw[List.length_append]; omega)
 rw[List.length_append]at b3;obtain⟨y10,a4,b4⟩:=zJA n y8 (IntKind.u64.wrap (l.length:Int)) (by omega) (by omega)
 obtain⟨r,a5,b5,b6⟩:=zRg n (l:=l) (by omega) hl n 0 y10 (by omega) (by omega) (by omega)
 rw[show((0:Nat):Int)=0 from rfl]at a5;obtain⟨y,a6⟩:=zXe n (b:=r) (by omega) (by omega)
 refine⟨y,?_⟩
 unfold zEm;dsimp only;rw[wrap64_in (n:=32+(t.length:Int)) (by omega) (by omega),wrap64_in (n:=8 * (l.length:Int)) (by omega) (by omega),wrap64_in (n:=32+(t.length:Int)+8 * (l.length:Int)) (by omega) (by omega),zCs (by omega)]
 simp only[a1,a2,obs]
 rw[zCs (by omega)]
 simp only[a3,a4,a5,a6,obs]
theorem zOk {F:Nd->Option Int}{ks:List Nd} (hF:∀ v∈ks,∃ y,F v=some y) (hk:ks.length<=1073741824):∀ (k i:Nat) (l:List Int),ks.length - i<k->i<=ks.length->l.length=ks.length->∃ r,zBZ F ks k (i:Int) l=some r/\r.length=ks.length
 | 0,_,_,h,_,_=>by omega
 | k+1,i,l,hk',hi,hl=>by
  unfold zBZ
  by_cases h:i<ks.length
  ·rw[zBs (Int.ofNat_lt.2 h),cond_true,zBJ h,zBJ (show i<l.length by omega)]
   obtain⟨y,e1⟩:=hF _ (List.getElem_mem h)
   generalize ks[i]=v at *;obtain⟨v1,v2,v3,v4⟩:=v;simp only[obs,e1,zAP (show i<9223372036854775807 by omega)]
   exact zOk hF hk k (i+1) _ (by omega) (by omega) (by rw[List.length_set]; exact hl)
  ·rw[zBn (by omega)]
   exact⟨l,rfl,hl⟩
theorem zQW:∀ (n:Nat) (t:Nd),t.w<=1048576->100000000+t.cnt<n->∃ y,zB5 n t=some y
 | 0,_,_,h=>by omega
 | n+1,.mk k t c ks,hw,hn=>by
  simp only[Nd.w]at hw;simp only[Nd.cnt]at hn;have hl:=Nd.cnts_len ks;have hlw:=Nd.ws_len ks;obtain⟨r,e1,e2⟩:=zOk (F:=zB5 n) (ks:=ks) (fun v hv=>by
   have h1:=Nd.w_mem hv;have h2:=Nd.cnts_mem hv;exact zQW n v (by omega) (by omega)) (by omega) n 0 (List.replicate (ks.length:Int).toNat 0) (by omega) (by omega) (by simp)
  rw[show((0:Nat):Int)=0 from rfl]at e1;obtain⟨y,e3⟩:=zW0 n k t c r (by omega) (by omega) (by omega)
  refine⟨y,?_⟩
  unfold zB5;rw[zCs (by omega)]
  simp only[e1,e3,obs]
theorem zVn (n:Nat) (t:Nd) (hw:t.w<=1048576) (hn:101048577<n):∃ y,zDw n t=some y:=by
 have:=Nd.cnt_w t;obtain⟨y,h⟩:=zQW n t hw (by omega)
 obtain⟨a,b,c,d⟩:=t;refine⟨y,?_⟩
 unfold zDw;simp only[h,obs]
theorem zTX (n:Nat) (hn:310<n){ops:List Op8} (hl:ops.length<=10):∀ (k i:Nat),ops.length - i<k->i<=ops.length->(∀ (j:Nat) (o:Op8),j<i->ops[j]? = some o->FewO o/\o.1 ≠ 3/\o.1 ≠ 4) ->
  zAL n ops k (i:Int)=some (.ret true)∨(zAL n ops k (i:Int)=some (.go ())/\∀ o∈ops,FewO o/\o.1 ≠ 3/\o.1 ≠ 4)
 | 0,_,h,_,_=>by omega
 | k+1,i,hk,hi,hp=>by
  unfold zAL
  by_cases h:i<ops.length
  ·obtain⟨y,h1,h2⟩:=zUH n ops[i] hn;have hg:=zBJ h;have hi2:ops[i]? = some ops[i]:=List.getElem?_eq_getElem h;rcases e:ops[i] with ⟨k1,k2,k3,k4,k5,k6,k7,k8⟩
   rw[e]at h1 h2 hg hi2;rw[zBs (Int.ofNat_lt.2 h),cond_true]
   simp only[hg,obs,h1]
   cases y with
   | false=>exact .inl rfl
   | true =>
    cases e3:(k1 == 3) with
    | true=>exact .inl rfl
    | false =>
     cases e4:(k1 == 4) with
     | true=>exact .inl rfl
     | false =>
      simp only[Bool.not_true,cond_false,obs,zAP (show i<9223372036854775807 by omega)]
      refine zTX n hn hl k (i+1) (by omega) (by omega) fun j o hj ho=>?_
      by_cases e5:j=i
      ·subst e5;rw[hi2]at ho;cases ho;exact⟨h2 rfl,fun h=>(by rw[show k1=3 from h]at e3; cases e3),fun h=>(by rw[show k1=4 from h]at e4; cases e4)⟩
      ·exact hp j o (by omega) ho
  ·rw[zBn (by omega)]
   refine .inr ⟨rfl,fun o ho=>?_⟩
   obtain⟨j,hj⟩:=List.getElem?_of_mem ho;exact hp j o (by have:=(List.getElem?_eq_some_iff.1 hj).1; omega) hj
theorem zSl (n:Nat){ops:List Op8} (hn:200000000<n) (ho:∀ o∈ops,FewO o/\zI5 o) (hl:ops.length<=10):zEl n ops=some ((wgt ops:Int),0):=by
 have hw:∀ l:List Op8,(∀ o∈l,FewO o)->wgt l<=99 * l.length:=fun l=>by
  induction l with
  | nil=>intro _; exact Nat.zero_le _
  | cons o l ih =>
   intro h;have h1:=ih fun o ho=>h o (List.mem_cons_of_mem _ ho)
   have h2:=(h o List.mem_cons_self).1;have h3:wop o<=99 :=(by unfold wop; split <;> first | omega | exact h2);simp only[wgt,List.length_cons]
   omega
 have h1:=hw ops fun o h=>(ho o h).1
 have hp:=pw1 n (ops:=ops) (fun o h=>by have:=(ho o h).1.1; exact⟨by omega,by omega,(ho o h).2⟩) (by omega) n 0 0 (by omega) (Nat.zero_le _) (by rw[List.drop_zero]; omega)
 rw[show((0:Nat):Int)=0 from rfl,List.drop_zero,Nat.zero_add]at hp;unfold zEl;dsimp only;rw[hp]
 rfl
theorem zYD:∀ l:List Op8,sw l.reverse=sw l
 | []=>rfl
 | o::l=>by rw[List.reverse_cons,zJ6,zYD l]; simp only[sw]; omega
theorem App.old_len {t t':Nd}{o:Op8} (h:App t o t' 0) (hk:zI5 o):opw (invO o)<=opw o+200/\1<=wop o:=by
 cases h with
 | chg _ _ _ _ h=>exact absurd rfl h
 | @ok r l hv hf hr hc _ =>
  obtain⟨k,row,a,m,nodes,slot,old,text⟩:=o;have hcn:=Nd.cnts_len nodes;rcases hf with ⟨hk',h1,_⟩ | ⟨hk',_⟩ | ⟨rfl,_,rfl,_⟩
  ·have h2:k ≠ 5 :=(by omega);refine⟨by simp only[opw,invO,Op8.nodes,Op8.text,if_neg h2]; omega,?_⟩
   have:1<=nodes.length:=by cases nodes with | nil=>exact absurd rfl h1 | cons=>simp
   simp only[wop,if_neg h2]
   omega
  ·unfold zI5 at hk; dsimp only at hk; omega
  ·refine⟨?_,by simp[wop]⟩
   cases hc with
   | @set _ p _ _ it _ _ _ hp hl he =>
    obtain⟨f1,f2⟩:=hr.form (zFQ hv).2.1 (zFQ hv).1;obtain⟨_,f4⟩:=zF4 f1 f2;obtain⟨f5,_⟩:=zCK f4 (List.mem_of_getElem? hp)
    have f6:=zTV (zKs f5).1;rw[he]at f6;simp only[opw,invO,Op8.nodes,Op8.text,if_true,Nd.ws]
    omega
theorem Runs.inv_sw {t u:Nd}{ops:List Op8}{e:Int} (h:Runs t ops u e):e=0->(∀ o∈ops,zI5 o)->sw (ops.map invO)<=sw ops+200 * ops.length/\ops.length<=wgt ops/\∀ o∈ops,opw (invO o)<=opw o+200:=by
 induction h with
 | nil t=>intro _ _; exact⟨Nat.zero_le _,Nat.zero_le _,fun o ho=>by cases ho⟩
 | stop h he=>intro e; exact absurd e he
 | @next t t' u o ops e h hr ih =>
  intro he hk;obtain⟨h1,h2,h3⟩:=ih he fun o ho=>hk o (List.mem_cons_of_mem _ ho)
  obtain⟨h4,h5⟩:=h.old_len (hk o List.mem_cons_self)
  refine⟨by simp only[List.map_cons,sw,List.length_cons]; omega,by simp only[wgt,List.length_cons]; omega,fun o' ho=>?_⟩
  rcases List.mem_cons.1 ho with rfl | ho
  ·exact h4
  ·exact h3 o' ho
theorem zXB (n:Nat){a b:Nd} (hn:200000000<n) (va:zAA a=true) (vb:zAA b=true) (ca:a.cnt<=120):∃ l,zCm n (opsK a b)=some l/\zBE n b l=some (a,0,0):=by
 obtain⟨wa,ka,_⟩:=zG4 va;obtain⟨wb,kb,_⟩:=zG4 vb;have e1:=zHW (v:=a)
 have e2:=zHW (v:=b)
 have c1:=a.cnt_kids;have c2:=b.cnt_kids;have s1:=zJ8 130 [] a.kids b.kids;have s2:=zJ7 130 [] a.kids b.kids;have hsw:sw (opsK a b)=sw (zDe 130 [] a.kids b.kids)+sw (zDo 130 [] a.kids b.kids):=zJ6 _ _;obtain⟨hl0,hsm⟩:=zV0 (a:=a) (b:=b) (by omega) (by omega)
 have hl:=zTw va vb ca;obtain⟨i1,i2,i3⟩:=hl.inv_sw rfl fun o ho=>(hsm o ho).2
 have hc:=zTv 130 a.kids b.kids [] [] (by omega)
 have hle:DL a.kids b.kids<=Nd.cnts a.kids+Nd.cnts b.kids:=zQC (P:=D) a.kids b.kids;have hw:wgt (opsK a b)=DL a.kids b.kids :=(by unfold opsK; rw[zKT,hc]);have hopw:∀ o∈opsK a b,opw o<=300000:=fun o ho=>by
  unfold opsK at ho;rcases List.mem_append.1 ho with ho | ho
  ·have:=zPo _ _ _ _ o ho; omega
  ·have:=zPk _ _ _ _ o ho; omega
 have k1:=zQi n (ops:=opsK a b) (fun o ho=>zUV n o (by have:=(hsm o ho).1; omega) (by have:=(hsm o ho).1; omega) (by have:=zZf ho; omega)) (by omega)
 obtain⟨u,i,e,h1,h2,h3⟩:=zSt n b ((opsK a b).map invO).reverse hn (by rw[zYD]; omega) (fun o ho=>by
  obtain⟨o',ho',rfl⟩:=List.mem_map.1 (List.mem_reverse.1 ho)
  have:=i3 o' ho';have:=hopw o' ho'
  omega)
 refine⟨_,k1,?_⟩
 cases h2 with
 | bad h=>rw[vb]at h; cases h
 | go _ hr =>
  obtain⟨rfl,rfl⟩:=zTK hr (hl.back va).1;rw[h1,h3 rfl]
theorem yAg {M:Nat}:∀ {l:List Op8},(∀ o∈l,opw o<=M)->sw l<=M * l.length
 | [],_=>Nat.zero_le _
 | o::l,h=>by
  have h1:=yAg fun o ho=>h o (List.mem_cons_of_mem _ ho)
  have h2:=h o List.mem_cons_self;simp only[sw,List.length_cons,Nat.mul_add,Nat.mul_one]
  omega
theorem zJq (a:Nd) (ops:List Op8) (ha:a.w<=1048576) (hs:∀ o∈ops,opw o<=1048580):zA3 (300000000+60) a ops=some true:=by
 obtain⟨y,f1,f2⟩:=zYl (300000000+60) a 60 (by omega) (by omega)
 rw[show((60:Nat):Int)=60 from rfl]at f1;generalize hn:300000000+60=n at *;have hn2:200000000<n/\n=300000060:=by omega
 clear hn
 obtain⟨hn,hn3⟩:=hn2;have hw:zFc=some true:=rfl;have fw:zFE n a=some y:=by
  obtain⟨a1,a2,a3,a4⟩:=a;unfold zFE;simp only[f1,obs]
 cases y with
 | false =>
  obtain⟨a1,a2,a3,a4⟩:=a;unfold zA3;simp only[hw,fw,obs,Bool.not_true,cond_false,Bool.not_false,cond_true]
 | true =>
  have ca:=f2 rfl
  by_cases hlen:10<(ops.length:Int)
  ·obtain⟨a1,a2,a3,a4⟩:=a;unfold zA3;simp only[hw,fw,obs,Bool.not_true,cond_false,zBs hlen,cond_true]
  ·have hl10:ops.length<=10 :=(by omega);have hloop:=zTX n (by omega) hl10 n 0 (by omega) (Nat.zero_le _) (fun j o h=>by omega)
   rw[show((0:Nat):Int)=0 from rfl]at hloop;rcases hloop with hloop | ⟨hloop,hops⟩
   ·obtain⟨a1,a2,a3,a4⟩:=a;unfold zA3;simp only[hw,fw,obs,Bool.not_true,cond_false,zBn hlen,hloop]
   ·obtain⟨b,i,e,h1,h2,h3⟩:=zSt n a ops hn (by have:=yAg hs; have:1048580 * ops.length<=1048580 * 10:=Nat.mul_le_mul_left _ hl10; omega) (fun o ho=>by have:=hs o ho; omega)
    by_cases he:e=0
    ·subst he;cases h2 with
     | go va hr =>
      have vb:=hr.valid rfl va;obtain⟨wa,ka,ra⟩:=zG4 va;obtain⟨wb,kb,rb⟩:=zG4 vb;obtain⟨d1,d2⟩:=hr.dlw rfl fun o ho=>(hops o ho).2
      have e2:=zSl n hn (fun o ho=>⟨(hops o ho).1,d2 o ho⟩) hl10;have e3:=zZI n a b (by omega) (by omega) (by omega) (by omega) kb ra rb;have e4:=zVZ n hn va vb (by omega) (by omega) (by omega)
      obtain⟨l,e5,e6⟩:=zXB n hn va vb (by omega)
      have e7:=zYH n a b (by omega) (by omega) (by omega) (by omega) (by omega)
      obtain⟨r,e8,e9⟩:=(zO3 n).1 b b (by omega) (by omega)
      obtain rfl:=e9.2 rfl;obtain⟨r,e10,e11⟩:=(zO3 n).1 a a (by omega) (by omega)
      obtain rfl:=e11.2 rfl;obtain⟨dg,e12⟩:=zVn n b (by omega) (by omega)
      rw[va,vb]at e3 e7;simp only[Bool.and_self,cond_true]at e3 e7;generalize opsK a b=L at *
      clear va vb hr
      obtain⟨a1,a2,a3,a4⟩:=a;obtain⟨b1,b2,b3,b4⟩:=b;unfold zA3;simp only[hw,fw,obs,Bool.not_true,cond_false,zBn hlen,hloop,h1,e2,e3,e4,e5,e6,e7,e8,e10,e12,bne_self_eq_false,beq_self_eq_true,cond_true]
      rw[zBs (by omega)]
      rfl
    ·have hb:(e != 0)=true :=(by simpa using he);obtain⟨a1,a2,a3,a4⟩:=a;obtain⟨b1,b2,b3,b4⟩:=b;unfold zA3;simp only[hw,fw,obs,Bool.not_true,cond_false,zBn hlen,hloop,h1,hb,cond_true]
end Go.Proofs.YtbfnjnljboncgaaGreatDoor
