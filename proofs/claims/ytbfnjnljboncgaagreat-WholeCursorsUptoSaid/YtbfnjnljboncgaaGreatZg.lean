/-
  Joined out of: PVal, PDist, PMet, PPut, PPos, PDump, PNode, PRow, PWith, PWt, PLeast, PLeast2, PEdit1, PEdit2, PEdit3, PEdit4, PEdit5, PCur1, PEdit6, PEdit7, PCur2, PDif4, PHs2, PHs3, PHs4, PR10, PCur3, PCur4, PCur5, PRun1, PRun2, PRun3, PRun4, PRun5, PRun6, PRun7, PHs8, PCur6.
-/
import Derived.Lib.ItoaLen
import Derived.Test.YtbfnjnljboncgaaGreatZf
open List
open Go.IntKind (i16 i32 i64 i8 u16 u32 u64 u8)
set_option linter.unusedVariables false
set_option linter.unusedSimpArgs false
set_option maxHeartbeats 2000000
set_option maxRecDepth 100000
namespace Go.Proofs.YtbfnjnljboncgaaGreat
open Go.Abs
def Nd.kind:Nd->Int | .mk k _ _ _=>k
def zTM (k:Int) (t:List UInt8):Bool :=
 if k=2 then symB t else if k=3 then numB t else if k=4 then (decide (t.length<=200)&&t.all zHz) else if k=10 then acL.any (fun e=>e == t) else if k=11 then fenB t else t == []
def zHc (k c:Int) (m:Int):Bool :=
 if k=12 then decide (1<=c)&&(decide (c<=16)&&(decide (1<=m)&&(decide (m<=256)&&(m.tmod c == 0))))
 else (c == 0)&&(if k=1 then decide (m<=200) else if k=2 then m == 0 else if k=3 then m == 0 else if k=4 then m == 0 else if k=5 then m == 2 else if k=6 then m == 2 else if k=7 then m == 2 else if k=8 then m == 2
  else if k=9 then m == 3 else if k=10 then m == 1 else if k=11 then m == 1 else false)
mutual
def zFz:Nd->Bool
 | .mk k t c ks=>(zTM k t&&zHc k c (ks.length:Int))&&zEI k ks
def zEI:Int->List Nd->Bool
 | _,[]=>true
 | k,v::vs=>(!((v.kind == 1) == (k == 1))&&zFz v)&&zEI k vs
end
mutual
def Nd.dep:Nd->Nat
 | .mk _ _ _ ks=>Nd.deps ks+1
def Nd.deps:List Nd->Nat
 | []=>0
 | v::vs=>Nat.max v.dep (Nd.deps vs)
end
variable {a:List Nd}
theorem zPC {k:Int}{i:Nat} (h:i<a.length):zEI k (a.drop i)=((!((a[i].kind == 1) == (k == 1))&&zFz a[i])&&zEI k (a.drop (i+1))):=by
 exact kK
theorem zSH {i:Nat} (h:i<a.length):Nd.deps (a.drop i)=Nat.max (a[i]).dep (Nd.deps (a.drop (i+1))):=by
 exact kK
mutual
theorem Nd.dep_cnt:∀ v:Nd,v.dep<=v.cnt
 | .mk _ _ _ ks=>by have:=Nd.deps_cnts ks; simp only[Nd.dep,Nd.cnt]; omega
theorem Nd.deps_cnts:∀ vs:List Nd,Nd.deps vs<=Nd.cnts vs
 | []=>Nat.le_refl _
 | v::vs=>by
  have:=Nd.dep_cnt v; have:=Nd.deps_cnts vs
  simp only[Nd.deps,Nd.cnts]
  exact Nat.max_le.2 ⟨by omega,by omega⟩
end
mutual
theorem Nd.cnt_w:∀ v:Nd,v.cnt<=v.w
 | .mk _ t _ ks=>by have:=Nd.cnts_ws ks; simp only[Nd.cnt,Nd.w]; omega
theorem Nd.cnts_ws:∀ vs:List Nd,Nd.cnts vs<=Nd.ws vs
 | []=>Nat.le_refl _
 | v::vs=>by have:=Nd.cnt_w v; have:=Nd.cnts_ws vs; simp only[Nd.cnts,Nd.ws]; omega
end
theorem zB1 {a b:Int} (h:a ≠ b):(a == b)=false:=by
 cases e:(a == b) with
 | false=>rfl
 | true=>exact absurd (eq_of_beq e) h
theorem zUQ (n:Nat) (k:Int) (t:List UInt8) (c:Int) (ks:List Nd) (h:t.length+40<n) (hb:t.length<=1073741824):zHv n (.mk k t c ks)=some (zTM k t):=by
 have e200:=zGq t.length 200;rw[show((200:Nat):Int)=200 from rfl]at e200;have ea:zFp n acL t=some (acL.any fun e=>e == t):=zOe n acL t (by simp only[acL,length_cons,length_nil]; omega) (by simp[acL])
 have a1:zD2=some acL:=rfl;unfold zHv zTM;dsimp only
 by_cases h2:k=2
 ·subst h2; simp only[beq_self_eq_true,cond_true,zRx n t h hb,obs,if_true]
 rw[zB1 h2,if_neg h2,cond_false]
 by_cases h3:k=3
 ·subst h3; simp only[beq_self_eq_true,cond_true,zRw n t (by omega) hb,obs,if_true]
 rw[zB1 h3,if_neg h3,cond_false]
 by_cases h4:k=4
 ·subst h4; simp only[beq_self_eq_true,cond_true,zMP n t (by omega) hb,obs,if_true,e200]
  cases decide (t.length<=200) <;> rfl
 rw[zB1 h4,if_neg h4,cond_false]
 by_cases h10:k=10
 ·subst h10; simp only[beq_self_eq_true,cond_true,a1,ea,obs,if_true]
 rw[zB1 h10,if_neg h10,cond_false]
 by_cases h11:k=11
 ·subst h11; rw[if_pos rfl,beq_self_eq_true,cond_true,zTy n t (by omega)]; rfl
 rw[zB1 h11,if_neg h11,cond_false]
theorem kinds (k:Int):k=1∨k=2∨k=3∨k=4∨k=5∨k=6∨k=7∨k=8∨k=9∨k=10∨k=11∨k=12∨(k<1∨12<k):=by omega
theorem gU {P:Prop} (h:P:=by simp only[bne,zHc]; generalize (c == 0)=z; generalize (m == 2)=y; cases z <;> rfl):P:=h
theorem kJ {P:Prop} (h:P:=by simp only[bne,zHc]; generalize (c == 0)=z; generalize (m == 0)=y; cases z <;> rfl):P:=h
theorem zUP (k:Int) (t:List UInt8) (c:Int) (ks:List Nd):zHu (.mk k t c ks)=some (zHc k c (ks.length:Int)):=by
 unfold zHu;dsimp only;generalize (ks.length:Int)=m;rcases kinds k with rfl | rfl | rfl | rfl | rfl | rfl | rfl | rfl | rfl | rfl | rfl | rfl | h
 ·simp only[bne,zHc]; generalize (c == 0)=z; generalize decide (m<=200)=y; cases z <;> rfl
 ·exact kJ
 ·exact kJ
 ·exact kJ
 ·exact gU
 ·exact gU
 ·exact gU
 ·exact gU
 ·simp only[bne,zHc]; generalize (c == 0)=z; generalize (m == 3)=y; cases z <;> rfl
 ·simp only[bne,zHc]; generalize (c == 0)=z; generalize (m == 1)=y; cases z <;> rfl
 ·simp only[bne,zHc]; generalize (c == 0)=z; generalize (m == 1)=y; cases z <;> rfl
 ·unfold zHc;rw[if_pos rfl,beq_self_eq_true,cond_true]
  by_cases h1:1<=c
  ·rw[zAH h1,zA5 (by omega)]
   generalize (m.tmod c == 0)=y;cases decide (c<=16) <;> cases decide (1<=m) <;> cases decide (m<=256) <;> rfl
  ·rw[zAE h1]; rfl
 ·have e:∀ i:Int,1<=i->i<=12->(k == i)=false:=fun i h1 h2=>zB1 (by omega)
  have f:∀ i:Int,1<=i->i<=12->k ≠ i:=fun i h1 h2=>by omega
  unfold zHc;rw[if_neg (f 12 (by decide) (by decide)),if_neg (f 1 (by decide) (by decide)),if_neg (f 2 (by decide) (by decide)),if_neg (f 3 (by decide) (by decide)),if_neg (f 4 (by decide) (by decide)),if_neg (f 5 (by decide) (by decide)),
   if_neg (f 6 (by decide) (by decide)),if_neg (f 7 (by decide) (by decide)),if_neg (f 8 (by decide) (by decide)),if_neg (f 9 (by decide) (by decide)),if_neg (f 10 (by decide) (by decide)),if_neg (f 11 (by decide) (by decide))]
  rw[e 12 (by decide) (by decide),e 1 (by decide) (by decide),e 2 (by decide) (by decide),e 3 (by decide) (by decide),e 4 (by decide) (by decide),e 5 (by decide) (by decide),
   e 6 (by decide) (by decide),e 7 (by decide) (by decide),e 8 (by decide) (by decide),e 9 (by decide) (by decide),e 10 (by decide) (by decide),e 11 (by decide) (by decide)]
  cases(c == 0) <;> cases(c != 0) <;> rfl
theorem kG {P:Prop} (h:P:=by cases t == [] <;> cases c == 0 <;> rfl):P:=h
theorem yBZ (n:Nat) (x:Int) (k:Int) (t:List UInt8) (c:Int) (ks:List Nd) (h:t.length+40<n) (hb:t.length<=1073741824) :
  zCF n ((),x) (.mk k t c ks)=some (zTM k t&&zHc k c (ks.length:Int),((),x)):=by
 have e200:=zGq t.length 200;rw[show((200:Nat):Int)=200 from rfl]at e200;unfold zCF;dsimp only;generalize (ks.length:Int)=m;have em:zCh t=some (t == []):=rfl;rcases kinds k with rfl | rfl | rfl | rfl | rfl | rfl | rfl | rfl | rfl | rfl | rfl | rfl | h
 ·simp only[em]
  show _=some ((t == [])&&((c == 0)&&decide (m<=200)),((),x))
  exact kG
 ·simp only[zOU n t h hb]
  show _=some (symB t&&((c == 0)&&(m == 0)),((),x))
  cases symB t <;> cases c == 0 <;> rfl
 ·simp only[zOT n t (by omega) hb]
  show _=some (numB t&&((c == 0)&&(m == 0)),((),x))
  cases numB t <;> cases c == 0 <;> rfl
 ·simp only[zQ0 n t (by omega) hb,e200]
  show _=some ((decide (t.length<=200)&&t.all zHz)&&((c == 0)&&(m == 0)),((),x))
  cases decide (t.length<=200) <;> cases t.all zHz <;> cases c == 0 <;> rfl
 ·simp only[em]
  show _=some ((t == [])&&((c == 0)&&(m == 2)),((),x))
  exact kG
 ·simp only[em]
  show _=some ((t == [])&&((c == 0)&&(m == 2)),((),x))
  exact kG
 ·simp only[em]
  show _=some ((t == [])&&((c == 0)&&(m == 2)),((),x))
  exact kG
 ·simp only[em]
  show _=some ((t == [])&&((c == 0)&&(m == 2)),((),x))
  exact kG
 ·simp only[em]
  show _=some ((t == [])&&((c == 0)&&(m == 3)),((),x))
  exact kG
 ·simp only[zJK]
  show _=some ((acL.any fun e=>e == t)&&((c == 0)&&(m == 1)),((),x))
  cases(acL.any fun e=>e == t) <;> cases c == 0 <;> rfl
 ·simp only[zQZ]
  show _=some (fenB t&&((c == 0)&&(m == 1)),((),x))
  cases fenB t <;> cases c == 0 <;> rfl
 ·simp only[em]
  show _=some ((t == [])&&(decide (1<=c)&&(decide (c<=16)&&(decide (1<=m)&&(decide (m<=256)&&(m.tmod c == 0))))),((),x))
  by_cases h1:1<=c
  ·rw[zAH h1,zA5 (by omega)]
   generalize (m.tmod c == 0)=y;cases t == [] <;> cases decide (c<=16) <;> cases decide (1<=m) <;> cases decide (m<=256) <;> rfl
  ·rw[zAE h1]
   cases t == [] <;> rfl
 ·have f:∀ i:Int,1<=i->i<=12->k ≠ i:=fun i h1 h2=>by omega
  have hk:zHc k c m=false:=by
   unfold zHc;rw[if_neg (f 12 (by decide) (by decide)),if_neg (f 1 (by decide) (by decide)),if_neg (f 2 (by decide) (by decide)),if_neg (f 3 (by decide) (by decide)),if_neg (f 4 (by decide) (by decide)),if_neg (f 5 (by decide) (by decide)),
    if_neg (f 6 (by decide) (by decide)),if_neg (f 7 (by decide) (by decide)),if_neg (f 8 (by decide) (by decide)),if_neg (f 9 (by decide) (by decide)),if_neg (f 10 (by decide) (by decide)),if_neg (f 11 (by decide) (by decide))]
   exact Bool.and_false _
  rw[hk,Bool.and_false]
  by_cases h1:k<1
  ·rw[zAH h1]; rfl
  ·rw[zAE h1,zAH (show 12<k by omega)]; rfl
theorem zLa {F:Nd->Option Bool}{k:Int}{ks:List Nd} (hF:∀ v∈ks,F v=some (zFz v)) (hl:ks.length<=1073741824) :
  ∀ (q i:Nat),ks.length - i<q->i<=ks.length->zDf F k ks q (i:Int)=some (if zEI k (ks.drop i) then .go () else .ret false)
 | 0,_,h,_=>by omega
 | q+1,i,hq,hi=>by
  unfold zDf
  by_cases h:i<ks.length
  ·rw[zAH (Int.ofNat_lt.2 h),cond_true,zAK h]
   have hf:=hF _ (getElem_mem h)
   have g1:=zPC (k:=k) h;rcases e:ks[i] with ⟨a,b,c,d⟩
   rw[e]at hf g1;simp only[Nd.kind]at g1;generalize zEI k (ks.drop i)=g at g1 ⊢;subst g1;simp only[obs,hf]
   rw[zAL (by omega),zLa hF hl q (i+1) (by omega) (by omega)]
   cases((a == 1) == (k == 1)) <;> cases zFz (Nd.mk a b c d) <;> simp
  ·rw[zAE (by omega),cond_false]
   obtain rfl:i=ks.length :=(by omega);simp[zEI]
theorem zOg:∀ (n:Nat) (t:Nd),t.w+45<n->t.w<=1073741824->zD3 n t=some (zFz t)
 | 0,_,h,_=>by omega
 | n+1,.mk k t c ks,h,hb=>by
  simp only[Nd.w]at h hb;have hl:=Nd.ws_len ks;unfold zD3;rw[zUQ n k t c ks (by omega) (by omega),zUP]
  have:=zLa (F:=zD3 n) (k:=k) (ks:=ks) (fun v hv=>zOg n v (by have:=Nd.w_mem hv; omega) (by have:=Nd.w_mem hv; omega)) (by omega) n 0 (by omega) (by omega)
  rw[show((0:Nat):Int)=0 from rfl,drop_zero]at this;simp only[obs,this,zFz]
  cases zTM k t <;> cases zHc k c (ks.length:Int) <;> cases zEI k ks <;> rfl
theorem zJQ {F:Nd->Option Int}{ks:List Nd} (hF:∀ v∈ks,F v=some (v.dep:Int)) (hl:ks.length<=1073741824) :
  ∀ (q i o:Nat),ks.length - i<q->i<=ks.length->zCN F ks q (o:Int) (i:Int)=some ((Nat.max o (Nd.deps (ks.drop i)):Nat):Int)
 | 0,_,_,h,_=>by omega
 | q+1,i,o,hq,hi=>by
  unfold zCN
  by_cases h:i<ks.length
  ·rw[zAH (Int.ofNat_lt.2 h),cond_true,zAK h,zSH h]
   have hf:=hF _ (getElem_mem h)
   rcases e:ks[i] with ⟨a,b,c,d⟩
   rw[e]at hf;simp only[obs,hf]
   have hm:(if (o:Int)<((Nd.mk a b c d).dep:Int) then ((Nd.mk a b c d).dep:Int) else (o:Int))=((Nat.max o (Nd.mk a b c d).dep:Nat):Int):=by
    by_cases g:(o:Int)<((Nd.mk a b c d).dep:Int)
    ·rw[if_pos g]; congr 1; exact(Nat.max_eq_right (by omega)).symm
    ·rw[if_neg g]; congr 1; exact(Nat.max_eq_left (by omega)).symm
   rw[zAL (by omega),hm,zJQ hF hl q (i+1) _ (by omega) (by omega)]
   congr 2
   exact Nat.max_assoc _ _ _
  ·rw[zAE (by omega),cond_false]
   obtain rfl:i=ks.length :=(by omega);rw[drop_length]
   congr 2
   exact(Nat.max_eq_left (Nat.zero_le _)).symm
theorem zMx:∀ (n:Nat) (t:Nd),t.cnt<n->t.cnt<=67108864->zDe n t=some (t.dep:Int)
 | 0,_,h,_=>by omega
 | n+1,.mk k t c ks,h,hb=>by
  simp only[Nd.cnt]at h hb;have hl:=Nd.cnts_len ks;have hd:=Nd.deps_cnts ks;unfold zDe;have:=zJQ (F:=zDe n) (ks:=ks) (fun v hv=>zMx n v (by have:=Nd.cnts_mem hv; omega) (by have:=Nd.cnts_mem hv; omega)) (by omega) n 0 0 (by omega) (by omega)
  rw[show((0:Nat):Int)=0 from rfl,drop_zero]at this;rw[this,obs,show Nat.max 0 (Nd.deps ks)=Nd.deps ks from Nat.max_eq_right (Nat.zero_le _),zAL (by omega)]
  rfl
def zAB (t:Nd):Bool:=(t.kind == 1)&&(zFz t&&(decide (t.cnt<=1000)&&decide (t.dep<=24)))
theorem zCK (n:Nat) (t:Nd) (h:t.w+45<n) (hb:t.w<=67108864):zAU n t=some (zAB t):=by
 have hc:=Nd.cnt_w t;have e1:=zOg n t h (by omega)
 have e2:=zMw n t (by omega) (by omega)
 have e3:=zMx n t (by omega) (by omega)
 have e4:=zGq t.cnt 1000;rw[show((1000:Nat):Int)=1000 from rfl]at e4;have e5:=zGq t.dep 24;rw[show((24:Nat):Int)=24 from rfl]at e5;obtain⟨k,s,c,ks⟩:=t;unfold zAU zAB;simp only[e1,e2,e3,obs,e4,e5,Nd.kind]
 cases k == 1 <;> cases zFz (.mk k s c ks) <;> cases decide ((Nd.mk k s c ks).cnt<=1000) <;> rfl
abbrev okN (t:Nd) (x d:Nat):Prop:=zFz t=true/\x+t.cnt<=1000/\d+t.dep<=25
abbrev okNs (k:Int) (vs:List Nd) (x d:Nat):Prop:=zEI k vs=true/\x+Nd.cnts vs<=1000/\d+Nd.deps vs<=24
theorem zPx {F:(Unit×Int)->Nd->Int->Option (Bool×(Unit×Int))}{k:Int}{ks:List Nd}{d:Nat} (hd:d<=24)
  (hF:∀ v∈ks,∀ x:Nat,x<=1000->∃ y,F ((),(x:Int)) v ((d+1:Nat):Int)=some (decide (okN v x (d+1)),((),y))/\(okN v x (d+1)->y=((x+v.cnt:Nat):Int))) (hl:ks.length<=1073741824) :
  ∀ (q i x:Nat),ks.length - i<q->i<=ks.length->x<=1000 ->
   (okNs k (ks.drop i) x d/\zAR F k ks (d:Int) q (x:Int) (i:Int)=some (.go ((x+Nd.cnts (ks.drop i):Nat):Int))) ∨
   (¬ okNs k (ks.drop i) x d/\∃ z,zAR F k ks (d:Int) q (x:Int) (i:Int)=some (.ret (false,((),z))))
 | 0,_,_,h,_,_=>by omega
 | q+1,i,x,hq,hi,hx=>by
  unfold zAR
  by_cases h:i<ks.length
  ·rw[zAH (Int.ofNat_lt.2 h),cond_true,zAK h]
   obtain⟨y,hf,hy⟩:=hF _ (getElem_mem h) x hx;have g1:=zPC (k:=k) h;have g2:=Nd.cnts_drop h;have g3:=zSH h;rcases e:ks[i] with ⟨a,b,c,ds⟩
   rw[e]at hf hy g1 g2 g3;simp only[obs]
   rw[zAL (by omega),zAL (by omega),hf]
   simp only[obs]
   have g4:Nd.deps (ks.drop i)=Nat.max (Nd.mk a b c ds).dep (Nd.deps (ks.drop (i+1))):=g3;have g5:(Nd.mk a b c ds).dep<=Nd.deps (ks.drop i) :=(by rw[g4]; exact Nat.le_max_left _ _);have g6:Nd.deps (ks.drop (i+1))<=Nd.deps (ks.drop i) :=(by rw[g4]; exact Nat.le_max_right _ _);rw[show((k == 1) == (a == 1))=((a == 1) == (k == 1)) by cases k == 1 <;> cases a == 1 <;> rfl]
   cases hkk:((a == 1) == (k == 1)) with
   | true =>
    simp only[cond_true,obs]
    refine .inr ⟨fun⟨h1,_⟩=>?_,_,rfl⟩
    rw[g1]at h1;simp[Nd.kind,hkk]at h1
   | false =>
    simp only[cond_false,obs]
    by_cases hok:okN (Nd.mk a b c ds) x (d+1)
    ·rw[zAH hok]
     simp only[Bool.not_true,cond_false]
     rw[hy hok]
     have hp:=(Nd.mk a b c ds).cnt_pos;rcases zPx hd hF hl q (i+1) (x+(Nd.mk a b c ds).cnt) (by omega) (by omega) hok.2.1 with ⟨hr,hr2⟩ | ⟨hr,z,hr2⟩
     ·refine .inl ⟨⟨?_,?_,?_⟩,?_⟩
      ·rw[g1,hr.1,hok.1]; simp[Nd.kind,hkk]
      ·have:=hr.2.1; omega
      ·have:=hr.2.2;have:=hok.2.2;have:Nd.deps (ks.drop i)<=24 - d:=by rw[g4]; exact Nat.max_le.2 ⟨by omega,by omega⟩
       omega
      ·rw[hr2,g2]; congr 3; omega
     ·refine .inr ⟨fun⟨h1,h2,h3⟩=>hr ⟨?_,by omega,by omega⟩,z,hr2⟩
      rw[g1]at h1;simp only[Bool.and_eq_true]at h1;exact h1.2
    ·rw[zAE hok]
     simp only[Bool.not_false,cond_true]
     refine .inr ⟨fun⟨h1,h2,h3⟩=>hok ⟨?_,by omega,by omega⟩,y,rfl⟩
     rw[g1]at h1;simp only[Bool.and_eq_true]at h1;exact h1.1.2
  ·rw[zAE (by omega),cond_false]
   obtain rfl:i=ks.length :=(by omega);rw[drop_length]
   exact .inl ⟨⟨rfl,hx,hd⟩,rfl⟩
theorem zVd:∀ (n:Nat) (t:Nd) (x d:Nat),t.w+45<n->t.w<=67108864->x<=1000->d<=25 ->
  ∃ y,zA1 n ((),(x:Int)) t (d:Int)=some (decide (okN t x d),((),y))/\(okN t x d->y=((x+t.cnt:Nat):Int))
 | 0,_,_,_,h,_,_,_=>by omega
 | n+1,.mk k t c ks,x,d,h,hb,hx,hd=>by
  simp only[Nd.w]at h hb;have hl:=Nd.ws_len ks;unfold zA1;rw[zAL (by omega)]
  by_cases h1:1000<((x+1:Nat):Int)
  ·rw[zAH h1]
   simp only[cond_true,obs]
   have hn:¬ okN (.mk k t c ks) x d:=fun⟨_,h2,_⟩=>by simp only[Nd.cnt]at h2; omega
   exact⟨_,by rw[zAE hn],fun h=>absurd h hn⟩
  ·rw[zAE h1,cond_false]
   by_cases h2:24<(d:Int)
   ·rw[zAH h2]
    simp only[cond_true,obs]
    have hn:¬ okN (.mk k t c ks) x d:=fun⟨_,_,h2⟩=>by simp only[Nd.dep]at h2; omega
    exact⟨_,by rw[zAE hn],fun h=>absurd h hn⟩
   ·rw[zAE h2,cond_false,yBZ n _ k t c ks (by omega) (by omega)]
    simp only[obs]
    cases ho:(zTM k t&&zHc k c (ks.length:Int)) with
    | false =>
     simp only[Bool.not_false,cond_true]
     have hn:¬ okN (.mk k t c ks) x d:=fun⟨h1,_⟩=>by rw[zFz,ho]at h1; cases h1
     exact⟨_,by rw[zAE hn],fun h=>absurd h hn⟩
    | true =>
     simp only[Bool.not_true,cond_false]
     have:=zPx (F:=zA1 n) (k:=k) (ks:=ks) (d:=d) (by omega) (fun v hv z hz=>zVd n v z (d+1) (by have:=Nd.w_mem hv; omega) (by have:=Nd.w_mem hv; omega) hz (by omega)) (by omega) n 0 (x+1) (by omega) (by omega) (by omega)
     rw[show((0:Nat):Int)=0 from rfl,drop_zero]at this;rcases this with ⟨hr,hr2⟩ | ⟨hr,z,hr2⟩
     ·have hy:okN (.mk k t c ks) x d:=⟨by rw[zFz,ho,hr.1]; rfl,by have:=hr.2.1; simp only[Nd.cnt]; omega,by have:=hr.2.2; simp only[Nd.dep]; omega⟩
      rw[hr2]
      exact⟨_,by rw[zAH hy]; rfl,fun _=>by simp only[Nd.cnt]; omega⟩
     ·have hn:¬ okN (.mk k t c ks) x d:=fun⟨g1,g2,g3⟩=>hr ⟨by rw[zFz,ho]at g1; exact g1,by simp only[Nd.cnt]at g2; omega,by simp only[Nd.dep]at g3; omega⟩
      rw[hr2]
      exact⟨_,by rw[zAE hn]; rfl,fun h=>absurd h hn⟩
theorem zDj (n:Nat) (t:Nd) (h:t.w+45<n) (hb:t.w<=67108864):zA8 n t=some (zAB t):=by
 obtain⟨y,h1,_⟩:=zVd n t 0 1 h hb (by omega) (by omega)
 rw[show((0:Nat):Int)=0 from rfl,show((1:Nat):Int)=1 from rfl]at h1;obtain⟨k,s,c,ks⟩:=t;unfold zA8 zAB;have hk:zGY=some ():=rfl;simp only[hk,h1,obs,Nd.kind]
 cases k == 1 with
 | false=>rfl
 | true =>
  simp only[cond_true,obs,Bool.true_and,Option.some.injEq,okN]
  cases zFz (.mk k s c ks) with
  | false=>simp
  | true =>
   by_cases g1:(Nd.mk k s c ks).cnt<=1000
   ·by_cases g2:(Nd.mk k s c ks).dep<=24
    ·rw[zAH g1,zAH g2,zAH ⟨rfl,by omega,by omega⟩]; rfl
    ·rw[zAH g1,zAE g2,zAE (fun h=>g2 (by omega))]; rfl
   ·rw[zAE g1,zAE (fun h=>g1 (by omega))]; rfl
def Nd.text:Nd->List UInt8 | .mk _ t _ _=>t
def Nd.cols:Nd->Int | .mk _ _ c _=>c
theorem Nd.cnt_kids:∀ x:Nd,x.cnt=Nd.cnts x.kids+1
 | .mk _ _ _ _=>rfl
def yBC (x y:Nd):Bool:=(x.kind == y.kind)&&(((x.kids.length:Int) == (y.kids.length:Int))&&(x.cols == y.cols))
def rowD (P:Nd->Nd->Nat) (x:Nd) (f:List Nd->Nat):List Nd->Nat
 | []=>x.cnt+f []
 | y::ys=>if yBC x y then min (min (x.cnt+f (y::ys)) (y.cnt+rowD P x f ys)) (P x y+f ys) else min (x.cnt+f (y::ys)) (y.cnt+rowD P x f ys)
def TD (P:Nd->Nd->Nat):List Nd->List Nd->Nat
 | []=>Nd.cnts
 | x::xs=>rowD P x (TD P xs)
def sumD (f:List Nd->List Nd->Nat):List Nd->List Nd->Nat
 | u::us,v::vs=>f u.kids v.kids+sumD f us vs
 | _,_=>0
def txt (x y:Nd):Nat:=bif x.text == y.text then 0 else 1
def PD:Nat->Nd->Nd->Nat
 | 0,_,_=>0
 | n+1,x,y=>txt x y+sumD (TD (PD n)) x.kids y.kids
def D (x y:Nd):Nat:=PD x.cnt x y
def DL (a b:List Nd):Nat:=TD D a b
theorem zGu {k:Int}:∀ {a:List Nd}{v:Nd},zEI k a=true->v∈a->zFz v=true/\((v.kind == 1) == (k == 1))=false
 | u::a,v,h,hm=>by
  simp only[zEI,Bool.and_eq_true,Bool.not_eq_true']at h;rcases List.mem_cons.1 hm with rfl | hm
  ·exact⟨h.1.2,h.1.1⟩
  ·exact zGu h.2 hm
theorem zVk {u:Nd} (h:zFz u=true) (hk:u.kind=1):u = .mk 1 [] 0 u.kids/\zEI 1 u.kids=true:=by
 obtain⟨k,t,c,ks⟩:=u;simp only[Nd.kind]at hk;subst hk;simp only[zFz,Bool.and_eq_true]at h;obtain⟨⟨h1,h2⟩,h3⟩:=h;have h1':(t == [])=true:=h1;have h2':((c == 0)&&decide ((ks.length:Int)<=200))=true:=h2;simp only[Bool.and_eq_true]at h2';rw[eq_of_beq h1',eq_of_beq h2'.1]
 exact⟨rfl,h3⟩
theorem zTF {F:Nd->Nd->Option Bool}{a b:List Nd} (hF:∀ u∈a,∀ v∈b,∃ y,F u v=some y/\(y=true↔u=v)) (hl:a.length=b.length) (hb:a.length<=1073741824) :
  ∀ (q i:Nat),a.length - i<q->i<=a.length->∃ y,zBI F a b q (i:Int)=some (if y then .go () else .ret false)/\(y=true↔a.drop i=b.drop i)
 | 0,_,h,_=>by omega
 | q+1,i,hq,hi=>by
  unfold zBI
  by_cases h:i<a.length
  ·have h':i<b.length :=(by omega);rw[zAH (Int.ofNat_lt.2 h),cond_true,zAK h,zAK h']
   obtain⟨y,f1,f2⟩:=hF _ (getElem_mem h) _ (getElem_mem h')
   have d1:=drop_eq_getElem_cons h;have d2:=drop_eq_getElem_cons h';rcases e:a[i] with ⟨x1,x2,x3,x4⟩
   rcases e':b[i] with ⟨y1,y2,y3,y4⟩
   rw[e,e']at f1 f2;rw[e]at d1;rw[e']at d2;simp only[obs,f1]
   cases y with
   | false =>
    refine⟨false,rfl,⟨(fun h=>by cases h),fun h=>?_⟩⟩
    rw[d1,d2]at h;exact f2.2 (List.cons.inj h).1
   | true =>
    simp only[Bool.not_true,cond_false]
    rw[zAL (by omega)]
    obtain⟨z,g1,g2⟩:=zTF hF hl hb q (i+1) (by omega) (by omega)
    refine⟨z,g1,?_⟩
    rw[d1,d2,g2,f2.1 rfl]
    simp
  ·rw[zAE (by omega),cond_false]
   obtain rfl:i=a.length :=(by omega);refine⟨true,rfl,?_⟩
   rw[drop_length,hl,drop_length]
   simp
theorem zQb:∀ N:Nat,(∀ x y:Nd,2 * x.cnt<N->x.cnt<=67108864->∃ r,zCq N x y=some r/\(r=true↔x=y)) /\
  (∀ a b:List Nd,2 * Nd.cnts a+1<N->Nd.cnts a<=67108864->∃ r,zCs N a b=some r/\(r=true↔a=b))
 | 0=>⟨fun _ _ h _=>by omega,fun _ _ h _=>by omega⟩
 | n+1=>by
  obtain⟨ih1,ih2⟩:=zQb n;refine⟨fun x y h hx=>?_,fun a b h ha=>?_⟩
  ·obtain⟨a,b,c,d⟩:=x;obtain⟨a',b',c',d'⟩:=y;simp only[Nd.cnt]at h hx;obtain⟨r,h1,h2⟩:=ih2 d d' (by omega) (by omega)
   unfold zCq;simp only[h1,obs]
   cases e1:a == a' with
   | false=>exact⟨false,rfl,⟨(fun h=>by cases h),fun h=>by cases h; simp at e1⟩⟩
   | true =>
    cases e2:b == b' with
    | false=>exact⟨false,rfl,⟨(fun h=>by cases h),fun h=>by cases h; simp at e2⟩⟩
    | true =>
     cases e3:c == c' with
     | false=>exact⟨false,rfl,⟨(fun h=>by cases h),fun h=>by cases h; simp at e3⟩⟩
     | true =>
      refine⟨r,rfl,h2.trans ⟨fun h=>?_,fun h=>by cases h; rfl⟩⟩
      rw[eq_of_beq e1,eq_of_beq e2,eq_of_beq e3,h]
  ·unfold zCs;have l1:=Nd.cnts_len a
   by_cases hl:a.length=b.length
   ·obtain⟨y,g1,g2⟩:=zTF (F:=zCq n) (a:=a) (b:=b) (fun u hu v _=>ih1 u v (by have:=Nd.cnts_mem hu; omega) (by have:=Nd.cnts_mem hu; omega)) hl (by omega) n 0 (by omega) (by omega)
    rw[show((0:Nat):Int)=0 from rfl]at g1;rw[hl,bne_self_eq_false,cond_false,g1]
    refine⟨y,by cases y <;> rfl,g2⟩
   ·have:((a.length:Int) != (b.length:Int))=true:=by
     unfold bne;rw[zB1 (by omega)]; rfl
    rw[this]
    exact⟨false,rfl,⟨(fun h=>by cases h),fun h=>absurd (congrArg List.length h) hl⟩⟩
theorem zLm {x:Nd} (h:zAB x=true):x = .mk 1 [] 0 x.kids/\zEI 1 x.kids=true:=by
 unfold zAB at h;simp only[Bool.and_eq_true]at h;exact zVk h.2.1 (eq_of_beq h.1)
inductive Fd:Nd->List Int->Nd->Prop
 | nil (t:Nd):Fd t [] t
 | step {k:Int} {tx:List UInt8} {c:Int} {ks:List Nd} {i:Nat} {k2:Int} {tx2:List UInt8} {c2:Int} {ks2:List Nd} {s:Nat} {z r:Nd} {p:List Int}
   (hi:ks[i]? = some (.mk k2 tx2 c2 ks2)) (hs:ks2[s]? = some z) (h:Fd z p r):Fd (.mk k tx c ks) ((i:Int)::(s:Int)::p) r
variable {p:List Int}{r t:Nd}
theorem Fd.find  (h:Fd t p r):zBE t p=some r:=by
 induction h with
 | nil t=>rw[zBE]
 | @step k tx c ks i k2 tx2 c2 ks2 s z r p hi hs _ ih =>
  have hl:=(List.getElem?_eq_some_iff.1 hi).1;have hl2:=(List.getElem?_eq_some_iff.1 hs).1;rw[zBE,if_pos ⟨by omega,show(i:Int)<(ks.length:Int) by omega⟩]
  simp only[Nd.kids,getD_eq_getElem?_getD,Int.toNat_natCast,hi,hs,Option.getD_some]
  rw[if_pos ⟨by omega,show(s:Int)<(ks2.length:Int) by omega⟩]
  exact ih
theorem Fd.of:∀ (N:Nat) (p:List Int) (t r:Nd),p.length<N->zBE t p=some r->Fd t p r
 | 0,p,_,_,h,_=>by omega
 | N+1,[],t,r,_,h=>by
  rw[zBE]at h;cases h;exact .nil t
 | N+1,[_],t,r,_,h=>by
  rw[zBE]at h;cases h
 | N+1,i::s::p,.mk k tx c ks,r,hN,h=>by
  rw[zBE]at h;split at h
  ·rename_i hi
   replace hi:0<=i/\i<ks.length:=hi;obtain⟨i,rfl⟩:=Int.eq_ofNat_of_zero_le hi.1;have hx:ks[i]? = some ks[i]:=List.getElem?_eq_getElem (by omega)
   generalize ks[i]=x at hx;obtain⟨k2,tx2,c2,ks2⟩:=x;simp only[Nd.kids,getD_eq_getElem?_getD,Int.toNat_natCast,hx,Option.getD_some]at h;split at h
   ·rename_i hs
    obtain⟨s,rfl⟩:=Int.eq_ofNat_of_zero_le hs.1;have hz:ks2[s]? = some ks2[s]:=List.getElem?_eq_getElem (by omega)
    generalize ks2[s]=z at hz;rw[Int.toNat_natCast,hz,Option.getD_some]at h;exact .step hx hz (Fd.of N p z r (by simp only[length_cons]at hN; omega) h)
   ·cases h
  ·cases h
theorem zZl  (h:zBE t p=some r):Fd t p r:=Fd.of _ p t r (Nat.lt_succ_self _) h
theorem zGG:putL t [] r=r:=by cases t; rw[putL]; intros; contradiction
variable {z:Nd}{i:Nat}{ks:List Nd}{tx:List UInt8}
theorem zEa {k:Int}{c:Int}{k2:Int}{tx2:List UInt8}{c2:Int}{ks2:List Nd}{s:Nat} (hi:ks[i]? = some (.mk k2 tx2 c2 ks2)) (hs:ks2[s]? = some z) :
  putL (.mk k tx c ks) ((i:Int)::(s:Int)::p) r = .mk k tx c (ks.set i (.mk k2 tx2 c2 (ks2.set s (putL z p r)))):=by
 rw[putL,Int.toNat_natCast,hi]
 dsimp only;rw[Int.toNat_natCast,hs]
theorem zKk:∀ {ks:List Nd}{i:Nat}{x y:Nd},ks[i]? = some x->Nd.ws (ks.set i y)+x.w=Nd.ws ks+y.w
 | [],i,x,y,h=>by simp at h
 | v::ks,0,x,y,h=>by
  obtain rfl:v=x :=(by simpa using h);simp only[set_cons_zero,Nd.ws]; omega
 | v::ks,i+1,x,y,h=>by
  have:=zKk (ks:=ks) (i:=i) (x:=x) (y:=y) (by simpa using h)
  simp only[set_cons_succ,Nd.ws]; omega
theorem zNF:∀ {ks:List Nd}{i:Nat}{x y:Nd},ks[i]? = some x->Nd.cnts (ks.set i y)+x.cnt=Nd.cnts ks+y.cnt
 | [],i,x,y,h=>by simp at h
 | v::ks,0,x,y,h=>by
  obtain rfl:v=x :=(by simpa using h);simp only[set_cons_zero,Nd.cnts]; omega
 | v::ks,i+1,x,y,h=>by
  have:=zNF (ks:=ks) (i:=i) (x:=x) (y:=y) (by simpa using h)
  simp only[set_cons_succ,Nd.cnts]; omega
theorem Fd.w  (h:Fd t p z) (r:Nd):(putL t p r).w+z.w=t.w+r.w:=by
 induction h with
 | nil t=>rw[zGG]; omega
 | @step k tx c ks i k2 tx2 c2 ks2 s z r' p hi hs _ ih =>
  rw[zEa hi hs]
  have h1:=zKk (y:=.mk k2 tx2 c2 (ks2.set s (putL z p r))) hi;have h2:=zKk (y:=putL z p r) hs;simp only[Nd.w]at *
  omega
theorem Fd.cnt  (h:Fd t p z) (r:Nd):(putL t p r).cnt+z.cnt=t.cnt+r.cnt:=by
 induction h with
 | nil t=>rw[zGG]; omega
 | @step k tx c ks i k2 tx2 c2 ks2 s z r' p hi hs _ ih =>
  rw[zEa hi hs]
  have h1:=zNF (y:=.mk k2 tx2 c2 (ks2.set s (putL z p r))) hi;have h2:=zNF (y:=putL z p r) hs;simp only[Nd.cnt]at *
  omega
variable {α:Type}
theorem zMC {l:List α}{x y:α} (h:l[i]? = some x):(l.set i y)[i]? = some y:=by
 rw[List.getElem?_set,if_pos rfl,if_pos (List.getElem?_eq_some_iff.1 h).1]
theorem zM1 {l:List α}{x y:α} (h:l[i]? = some x):(l.set i y).set i x=l:=by
 refine ext_getElem? fun j=>?_
 rw[set_set,List.getElem?_set]
 split
 ·rename_i e
  subst e;rw[if_pos (List.getElem?_eq_some_iff.1 h).1,h]
 ·rfl
theorem Fd.put  (h:Fd t p z) (r:Nd):Fd (putL t p r) p r:=by
 induction h with
 | nil t=>rw[zGG]; exact .nil r
 | @step k tx c ks i k2 tx2 c2 ks2 s z r' p hi hs _ ih =>
  rw[zEa hi hs]
  exact .step (zMC hi) (zMC hs) ih
theorem Fd.put_put  (h:Fd t p z) (r q:Nd):putL (putL t p r) p q=putL t p q:=by
 induction h with
 | nil t=>simp only[zGG]
 | @step k tx c ks i k2 tx2 c2 ks2 s z r' p hi hs _ ih =>
  rw[zEa hi hs,zEa hi hs,zEa (zMC hi) (zMC hs),ih]
  simp only[set_set]
theorem Fd.put_self  (h:Fd t p z):putL t p z=t:=by
 induction h with
 | nil t=>rw[zGG]
 | @step k tx c ks i k2 tx2 c2 ks2 s z r' p hi hs _ ih =>
  rw[zEa hi hs,ih]
  have e1:ks2.set s z=ks2:=by
   have:=zM1 (y:=z) hs
   rwa [set_set]at this
  have e2:ks.set i (.mk k2 tx2 c2 ks2)=ks:=by
   have:=zM1 (y:=.mk k2 tx2 c2 ks2) hi
   rwa [set_set]at this
  rw[e1,e2]
theorem Fd.back  (h:Fd t p z) (r:Nd):putL (putL t p r) p z=t:=by rw[h.put_put,h.put_self]
theorem zIw:∀ {ks:List Nd}{v:Nd},v∈ks->v.dep<=Nd.deps ks
 | u::ks,v,h=>by
  simp only[Nd.deps]
  rcases List.mem_cons.1 h with rfl | h
  ·exact Nat.le_max_left _ _
  ·exact Nat.le_trans (zIw h) (Nat.le_max_right _ _)
theorem zKS {k:Int}{c:Int} (h:zFz (.mk k tx c ks)=true):zEI k ks=true:=by
 simp only[zFz,Bool.and_eq_true]at h;exact h.2
theorem Fd.form  (h:Fd t p z) (hf:zFz t=true) (hk:t.kind=1):zFz z=true/\z.kind=1:=by
 induction h with
 | nil t=>exact⟨hf,hk⟩
 | @step k tx c ks i k2 tx2 c2 ks2 s z r' p hi hs _ ih =>
  obtain⟨f1,f2⟩:=zGu (zKS hf) (mem_of_getElem? hi)
  obtain⟨g1,g2⟩:=zGu (zKS f1) (mem_of_getElem? hs)
  have hk:k=1:=hk;subst hk;have f3:(k2 == 1)=false :=(by simpa [Nd.kind] using f2);rw[f3]at g2;refine ih g1 ?_;cases e:z.kind == 1 with
  | true=>exact eq_of_beq e
  | false=>rw[e]at g2; cases g2
theorem Fd.small  (h:Fd t p z):z.cnt<=t.cnt/\z.dep<=t.dep/\z.w<=t.w:=by
 induction h with
 | nil t=>exact⟨Nat.le_refl _,Nat.le_refl _,Nat.le_refl _⟩
 | @step k tx c ks i k2 tx2 c2 ks2 s z r' p hi hs _ ih =>
  have m1:=Nd.w_mem (mem_of_getElem? hi)
  have m2:=Nd.w_mem (mem_of_getElem? hs)
  have n1:=Nd.cnts_mem (mem_of_getElem? hi)
  have n2:=Nd.cnts_mem (mem_of_getElem? hs)
  have d1:=zIw (mem_of_getElem? hi)
  have d2:=zIw (mem_of_getElem? hs)
  simp only[Nd.w,Nd.cnt,Nd.dep]at *
  omega
theorem Fd.valid  (h:Fd t p z) (hv:zAB t=true):zAB z=true:=by
 unfold zAB at hv ⊢;simp only[Bool.and_eq_true,decide_eq_true_eq]at hv ⊢;obtain⟨h1,h2,h3,h4⟩:=hv;obtain⟨f1,f2⟩:=h.form h2 (eq_of_beq h1)
 obtain⟨s1,s2,_⟩:=h.small;exact⟨by rw[f2]; rfl,f1,by omega,by omega⟩
mutual
def posI:List Int->Nat->List Nd->List (List Int)
 | p,i,[]=>[p++[(i:Int)]]
 | p,i,x::xs=>(p++[(i:Int)])::(posX p i x++posI p (i+1) xs)
def posX:List Int->Nat->Nd->List (List Int)
 | p,i,.mk _ _ _ ks=>posS p i 0 ks
def posS:List Int->Nat->Nat->List Nd->List (List Int)
 | _,_,_,[]=>[]
 | p,i,s,u::us=>posU (p++[(i:Int),(s:Int)]) u++posS p i (s+1) us
def posU:List Int->Nd->List (List Int)
 | p,.mk _ _ _ ks=>posI p 0 ks
end
def inL:List Nd->List Int->Prop
 | l,[o]=>0<=o/\o<=(l.length:Int)
 | l,i::s::r=>0<=i/\∃ x,l[i.toNat]? = some x/\0<=s/\∃ u,x.kids[s.toNat]? = some u/\inL u.kids r
 | _,[]=>False
variable {l:List Nd}
theorem zHR {o:Int}:inL l [o]↔0<=o/\o<=(l.length:Int):=Iff.rfl
theorem zDx {i s:Int}{r:List Int}:inL l (i::s::r)↔0<=i/\∃ x,l[i.toNat]? = some x/\0<=s/\∃ u,x.kids[s.toNat]? = some u/\inL u.kids r:=by
 cases r <;> rfl
mutual
theorem zMY:∀ (p:List Int) (i:Nat) (xs:List Nd) (q:List Int),q∈posI p i xs↔∃ a r,q=p++a::r/\(i:Int)<=a/\inL xs ((a - i)::r)
 | p,i,[],q=>by
  rw[posI,mem_singleton]
  constructor
  ·rintro rfl
   exact⟨i,[],rfl,Int.le_refl _,by rw[Int.sub_self]; exact⟨Int.le_refl _,Int.le_refl _⟩⟩
  ·rintro⟨a,r,rfl,h1,h2⟩
   cases r with
   | nil =>
    have:=zHR.1 h2
    have e:a=i:=by simp at this; omega
    rw[e]
   | cons s r =>
    obtain⟨_,x,h,_⟩:=zDx.1 h2
    simp at h
 | p,i,x::xs,q=>by
  rw[posI,mem_cons,mem_append,zQU p i x q,zMY p (i+1) xs q]
  constructor
  ·rintro(rfl | ⟨s,r,rfl,h0,u,h1,h2⟩ | ⟨a,r,rfl,h1,h2⟩)
   ·exact⟨i,[],rfl,Int.le_refl _,by rw[Int.sub_self]; exact⟨Int.le_refl _,by simp; omega⟩⟩
   ·refine⟨i,s::r,by simp,Int.le_refl _,?_⟩
    rw[Int.sub_self]
    exact zDx.2 ⟨Int.le_refl _,x,rfl,h0,u,h1,h2⟩
   ·refine⟨a,r,rfl,by omega,?_⟩
    have e:a - (i:Int)=(a - ((i+1:Nat):Int))+1:=by omega
    rw[e]
    cases r with
    | nil =>
     have:=zHR.1 h2
     exact⟨by omega,by simp; omega⟩
    | cons s r =>
     obtain⟨g0,y,g1,g2⟩:=zDx.1 h2
     refine zDx.2 ⟨by omega,y,?_,g2⟩
     rw[show(a - ((i+1:Nat):Int)+1).toNat=(a - ((i+1:Nat):Int)).toNat+1 by omega]
     simpa using g1
  ·rintro⟨a,r,rfl,h1,h2⟩
   by_cases ha:a=i
   ·subst ha
    rw[Int.sub_self]at h2
    cases r with
    | nil=>exact .inl rfl
    | cons s r =>
     obtain⟨g0,y,g1,g2,u,g3,g4⟩:=zDx.1 h2
     obtain rfl:x=y:=by simpa using g1
     exact .inr (.inl ⟨s,r,by simp,g2,u,g3,g4⟩)
   ·refine .inr (.inr ⟨a,r,rfl,by omega,?_⟩)
    have e:a - (i:Int)=(a - ((i+1:Nat):Int))+1:=by omega
    rw[e]at h2
    cases r with
    | nil =>
     have:=zHR.1 h2
     exact⟨by omega,by simp at this; omega⟩
    | cons s r =>
     obtain⟨g0,y,g1,g2⟩:=zDx.1 h2
     refine zDx.2 ⟨by omega,y,?_,g2⟩
     rw[show(a - ((i+1:Nat):Int)+1).toNat=(a - ((i+1:Nat):Int)).toNat+1 by omega]at g1
     simpa using g1
theorem zQU:∀ (p:List Int) (i:Nat) (x:Nd) (q:List Int),q∈posX p i x↔∃ s r,q=p++[(i:Int)]++s::r/\0<=s/\∃ u,x.kids[s.toNat]? = some u/\inL u.kids r
 | p,i,.mk k t c ks,q=>by
  rw[posX,zQS p i 0 ks q]
  constructor
  ·rintro⟨s,r,h1,h2,u,h3,h4⟩
   exact⟨s,r,h1,by omega,u,by simpa [Nd.kids] using h3,h4⟩
  ·rintro⟨s,r,h1,h2,u,h3,h4⟩
   exact⟨s,r,h1,by omega,u,by simpa [Nd.kids] using h3,h4⟩
theorem zQS:∀ (p:List Int) (i s:Nat) (us:List Nd) (q:List Int),q∈posS p i s us↔∃ b r,q=p++[(i:Int)]++b::r/\(s:Int)<=b/\∃ u,us[(b - s).toNat]? = some u/\inL u.kids r
 | p,i,s,[],q=>by
  rw[posS]
  constructor
  ·intro h; cases h
  ·rintro⟨b,r,_,_,u,h,_⟩; simp at h
 | p,i,s,u::us,q=>by
  rw[posS,mem_append,zQT (p++[(i:Int),(s:Int)]) u q,zQS p i (s+1) us q]
  constructor
  ·rintro(⟨r,rfl,h⟩ | ⟨b,r,rfl,h1,v,h2,h3⟩)
   ·exact⟨s,r,by simp,Int.le_refl _,u,by rw[Int.sub_self]; rfl,h⟩
   ·refine⟨b,r,rfl,by omega,v,?_,h3⟩
    rw[show(b - (s:Int)).toNat=(b - ((s+1:Nat):Int)).toNat+1 by omega]
    simpa using h2
  ·rintro⟨b,r,rfl,h1,v,h2,h3⟩
   by_cases hb:b=s
   ·subst hb
    rw[Int.sub_self]at h2
    obtain rfl:u=v:=by simpa using h2
    exact .inl ⟨r,by simp,h3⟩
   ·refine .inr ⟨b,r,rfl,by omega,v,?_,h3⟩
    rw[show(b - (s:Int)).toNat=(b - ((s+1:Nat):Int)).toNat+1 by omega]at h2
    simpa using h2
theorem zQT:∀ (p:List Int) (u:Nd) (q:List Int),q∈posU p u↔∃ r,q=p++r/\inL u.kids r
 | p,.mk k t c ks,q=>by
  rw[posU,zMY p 0 ks q]
  constructor
  ·rintro⟨a,r,rfl,h1,h2⟩
   exact⟨a::r,rfl,by simpa [Nd.kids] using h2⟩
  ·rintro⟨r,rfl,h⟩
   cases r with
   | nil=>exact h.elim
   | cons a r =>
    refine⟨a,r,rfl,?_,by simpa [Nd.kids] using h⟩
    cases r with
    | nil=>exact(zHR.1 h).1
    | cons s r=>exact(zDx.1 h).1
end
def posT (t:Nd):List (List Int):=posU [] t
theorem zD7 (t:Nd) (q:List Int):q∈posT t↔inL t.kids q:=by
 unfold posT;rw[zQT]
 constructor
 ·rintro⟨r,rfl,h⟩; exact h
 ·intro h; exact⟨q,rfl,h⟩
mutual
theorem zRs:∀ (p:List Int) (i:Nat) (xs:List Nd),(posI p i xs).length<=Nd.cnts xs+1
 | p,i,[]=>by rw[posI]; simp
 | p,i,x::xs=>by
  have h1:=zZE p i x
  have h2:=zRs p (i+1) xs
  rw[posI]
  simp only[length_cons,length_append,Nd.cnts]
  omega
theorem zZE:∀ (p:List Int) (i:Nat) (x:Nd),(posX p i x).length+1<=x.cnt
 | p,i,.mk k t c ks=>by
  have h:=zVD p i 0 ks
  rw[posX]
  simp only[Nd.cnt]
  omega
theorem zVD:∀ (p:List Int) (i s:Nat) (us:List Nd),(posS p i s us).length<=Nd.cnts us
 | p,i,s,[]=>by rw[posS]; simp
 | p,i,s,u::us=>by
  have h1:=zVE (p++[(i:Int),(s:Int)]) u
  have h2:=zVD p i (s+1) us
  rw[posS]
  simp only[length_append,Nd.cnts]
  omega
theorem zVE:∀ (p:List Int) (u:Nd),(posU p u).length<=u.cnt
 | p,.mk k t c ks=>by
  have h:=zRs p 0 ks
  rw[posU]
  simp only[Nd.cnt]
  omega
end
theorem zRt (t:Nd):(posT t).length<=t.cnt:=zVE [] t
theorem zXO:∀ (q:List Int) (l:List Nd),inL l q->q.length<=2 * Nd.deps l+1
 | [],_,h=>h.elim
 | [_],_,_=>by simp
 | i::s::r,l,h=>by
  obtain⟨_,x,h1,_,u,h2,h3⟩:=zDx.1 h;have ih:=zXO r u.kids h3;have d1:=zIw (mem_of_getElem? h1)
  have d2:=zIw (mem_of_getElem? h2)
  have e1:x.dep=Nd.deps x.kids+1 :=(by cases x; rfl);have e2:u.dep=Nd.deps u.kids+1 :=(by cases u; rfl);simp only[length_cons]
  omega
def hd (l:List UInt8) (s:List UInt8):Prop:=∀ b r,l=b::r->b∈s
theorem zPN {F:Nd->Nd->Option Bool}{a b:List Nd} (hF:∀ u∈a,∀ v∈b,∃ y,F u v=some y/\(y=true↔u=v)) (hl:a.length=b.length) (hb:a.length<=1073741824) :
  ∀ (q i:Nat),a.length - i<q->i<=a.length->∃ y,zAM F a b q (i:Int)=some (if y then .go () else .ret false)/\(y=true↔a.drop i=b.drop i)
 | 0,_,h,_=>by omega
 | q+1,i,hq,hi=>by
  unfold zAM
  by_cases h:i<a.length
  ·have h':i<b.length :=(by omega);rw[zAH (Int.ofNat_lt.2 h),cond_true,zAK h,zAK h']
   obtain⟨y,f1,f2⟩:=hF _ (getElem_mem h) _ (getElem_mem h')
   have d1:=drop_eq_getElem_cons h;have d2:=drop_eq_getElem_cons h';rcases e:a[i] with ⟨x1,x2,x3,x4⟩
   rcases e':b[i] with ⟨y1,y2,y3,y4⟩
   rw[e,e']at f1 f2;rw[e]at d1;rw[e']at d2;simp only[obs,f1]
   cases y with
   | false =>
    refine⟨false,rfl,⟨(fun h=>by cases h),fun h=>?_⟩⟩
    rw[d1,d2]at h;exact f2.2 (List.cons.inj h).1
   | true =>
    simp only[Bool.not_true,cond_false]
    rw[zAL (by omega)]
    obtain⟨z,g1,g2⟩:=zPN hF hl hb q (i+1) (by omega) (by omega)
    refine⟨z,g1,?_⟩
    rw[d1,d2,g2,f2.1 rfl]
    simp
  ·rw[zAE (by omega),cond_false]
   obtain rfl:i=a.length :=(by omega);refine⟨true,rfl,?_⟩
   rw[drop_length,hl,drop_length]
   simp
theorem zHU:∀ N:Nat,(∀ x y:Nd,2 * x.cnt<N->x.cnt<=67108864->∃ r,zCg N x y=some r/\(r=true↔x=y)) /\
  (∀ a b:List Nd,2 * Nd.cnts a+1<N->Nd.cnts a<=67108864->∃ r,zAY N a b=some r/\(r=true↔a=b))
 | 0=>⟨fun _ _ h _=>by omega,fun _ _ h _=>by omega⟩
 | n+1=>by
  obtain⟨ih1,ih2⟩:=zHU n;refine⟨fun x y h hx=>?_,fun a b h ha=>?_⟩
  ·obtain⟨a,b,c,d⟩:=x;obtain⟨a',b',c',d'⟩:=y;simp only[Nd.cnt]at h hx;obtain⟨r,h1,h2⟩:=ih2 d d' (by omega) (by omega)
   unfold zCg;simp only[h1,obs]
   cases e1:a == a' with
   | false=>exact⟨false,rfl,⟨(fun h=>by cases h),fun h=>by cases h; simp at e1⟩⟩
   | true =>
    cases e2:b == b' with
    | false=>exact⟨false,rfl,⟨(fun h=>by cases h),fun h=>by cases h; simp at e2⟩⟩
    | true =>
     cases e3:c == c' with
     | false=>exact⟨false,rfl,⟨(fun h=>by cases h),fun h=>by cases h; simp at e3⟩⟩
     | true =>
      refine⟨r,rfl,h2.trans ⟨fun h=>?_,fun h=>by cases h; rfl⟩⟩
      rw[eq_of_beq e1,eq_of_beq e2,eq_of_beq e3,h]
  ·unfold zAY;have l1:=Nd.cnts_len a
   by_cases hl:a.length=b.length
   ·obtain⟨y,g1,g2⟩:=zPN (F:=zCg n) (a:=a) (b:=b) (fun u hu v _=>ih1 u v (by have:=Nd.cnts_mem hu; omega) (by have:=Nd.cnts_mem hu; omega)) hl (by omega) n 0 (by omega) (by omega)
    rw[show((0:Nat):Int)=0 from rfl]at g1;rw[hl,bne_self_eq_false,cond_false,g1]
    refine⟨y,by cases y <;> rfl,g2⟩
   ·have:((a.length:Int) != (b.length:Int))=true:=by
     unfold bne;rw[zB1 (by omega)]; rfl
    rw[this]
    exact⟨false,rfl,⟨(fun h=>by cases h),fun h=>absurd (congrArg List.length h) hl⟩⟩
variable {p:List Int}{n:Nd}
theorem zMk {i s:Int} (h:¬ (0<=i/\i<n.kids.length)):zBE n (i::s::p)=none:=by rw[zBE,if_neg h]
theorem zMl {x:Nd}{i:Nat}{s:Int} (hx:n.kids[i]? = some x) (h:¬ (0<=s/\s<x.kids.length)):zBE n ((i:Int)::s::p)=none:=by
 have hl:=(List.getElem?_eq_some_iff.1 hx).1;rw[zBE,if_pos ⟨by omega,by omega⟩]
 simp only[getD_eq_getElem?_getD,Int.toNat_natCast,hx,Option.getD_some]
 rw[if_neg h]
theorem zNK {x z:Nd}{i s:Nat} (hx:n.kids[i]? = some x) (hz:x.kids[s]? = some z):zBE n ((i:Int)::(s:Int)::p)=zBE z p:=by
 have hl:=(List.getElem?_eq_some_iff.1 hx).1;have hl2:=(List.getElem?_eq_some_iff.1 hz).1;rw[zBE,if_pos ⟨by omega,by omega⟩]
 simp only[getD_eq_getElem?_getD,Int.toNat_natCast,hx,hz,Option.getD_some]
 rw[if_pos ⟨by omega,by omega⟩]
theorem zUg {α:Type}{l:List α}{i:Int} (h0:0<=i) (h1:i<(l.length:Int)):∃ p:Nat,i=(p:Int)/\∃ h:p<l.length,at? l i=some l[p]:=by
 obtain⟨p,rfl⟩:=Int.eq_ofNat_of_zero_le h0;exact⟨p,rfl,by omega,zAK (by omega)⟩
theorem zPB:∀ (k:Nat) (t:Nd) (path:List Int),path.length<k ->
  (zBE t path=none/\∃ r,zCe k t.kind t.text t.cols t.kids path=some (.ret (r,false))) ∨
  (zBE t path=none/\∃ (r:Nd) (p:List Int),p ≠ []/\zCe k t.kind t.text t.cols t.kids path=some (.go (p,r.kind,r.text,r.cols,r.kids))) ∨
  ∃ r,zBE t path=some r/\zCe k t.kind t.text t.cols t.kids path=some (.go ([],r.kind,r.text,r.cols,r.kids))
 | 0,_,_,h=>by omega
 | k+1,t,path,h=>by
  unfold zCe
  match path,h with
  | [],h=>exact .inr (.inr ⟨t,rfl,rfl⟩)
  | [x],h=>exact .inr (.inl ⟨rfl,t,[x],by simp,rfl⟩)
  | x::y::p,h =>
   have e0:at? (x::y::p) (0:Int)=some x:=rfl;have e1:at? (x::y::p) (1:Int)=some y:=rfl;have e2:(((x::y::p).take (((x::y::p).length:Int)).toNat).drop (2:Int).toNat)=p:=by
    rw[Int.toNat_natCast,take_length]; rfl
   rw[zAH (by simp only[length_cons]; omega),cond_true]
   simp only[e0,e1,obs,e2]
   by_cases h1:x<0
   ·rw[zAH h1]; exact .inl ⟨zMk (fun h=>by omega),_,rfl⟩
   ·rw[zAE h1]
    by_cases h2:(t.kids.length:Int)<=x
    ·rw[zAH h2]; exact .inl ⟨zMk (fun h=>by omega),_,rfl⟩
    ·rw[zAE h2]
     obtain⟨i,rfl,hi,hg⟩:=zUg (l:=t.kids) (i:=x) (by omega) (by omega)
     rw[hg]
     have hgi:t.kids[i]? = some t.kids[i]:=List.getElem?_eq_getElem hi;generalize t.kids[i]=e at hgi;obtain⟨x1,x2,x3,x4⟩:=e;simp only[cond_false,obs]
     by_cases h3:y<0
     ·rw[zAH h3]; exact .inl ⟨zMl hgi (fun h=>by omega),_,rfl⟩
     ·rw[zAE h3]
      by_cases h4:(x4.length:Int)<=y
      ·rw[zAH h4]; exact .inl ⟨zMl hgi (fun h=>by have:y<x4.length:=h.2; omega),_,rfl⟩
      ·rw[zAE h4]
       obtain⟨j,rfl,hj,hg2⟩:=zUg (l:=x4) (i:=y) (by omega) (by omega)
       rw[hg2]
       have hgj:x4[j]? = some x4[j]:=List.getElem?_eq_getElem hj;generalize x4[j]=f at hgj;obtain⟨y1,y2,y3,y4⟩:=f;simp only[cond_false,obs]
       rw[zA5 ⟨by omega,by simp only[length_cons]; omega,by omega⟩]
       rw[zNK hgi hgj]
       exact zPB k (.mk y1 y2 y3 y4) p (by simp only[length_cons]at h; omega)
theorem zUO (n:Nat) (t:Nd) (path:List Int) (h:path.length<n):∃ r ok,zHt n t path=some (r,ok)/\zBE t path=bif ok then some r else none:=by
 obtain⟨a,b,c,d⟩:=t;unfold zHt;dsimp only;rcases zPB n (.mk a b c d) path h with ⟨h0,r,h1⟩ | ⟨h0,r,p,hp,h1⟩ | ⟨r,h0,h1⟩
 ·simp only[Nd.kind,Nd.text,Nd.cols,Nd.kids]at h1;rw[h1]
  exact⟨r,false,rfl,h0⟩
 ·obtain⟨r1,r2,r3,r4⟩:=r;simp only[Nd.kind,Nd.text,Nd.cols,Nd.kids]at h1;rw[h1]
  refine⟨.mk r1 r2 r3 r4,false,?_,h0⟩
  have:((p.length:Int) == 0)=false:=beq_eq_false_iff_ne.2 fun e=>hp (eq_nil_of_length_eq_zero (by omega))
  simp only[obs,this]
 ·obtain⟨r1,r2,r3,r4⟩:=r;simp only[Nd.kind,Nd.text,Nd.cols,Nd.kids]at h1;rw[h1]
  exact⟨.mk r1 r2 r3 r4,true,rfl,h0⟩
def rowS (t:Nd) (p:List Int):Nd×Int:=if zAB t=true then (match zBE t p with | some r=>(r,0) | none=>(zCy,8)) else (zCy,1)
theorem zIy:∀ (N:Nat) (p:List Int) (t r:Nd),p.length<N->zBE t p=some r->r.w<=t.w/\r.cnt<=t.cnt
 | 0,p,_,_,h,_=>by omega
 | N+1,[],t,r,_,h=>by
  rw[zBE]at h;cases h;exact⟨Nat.le_refl _,Nat.le_refl _⟩
 | N+1,[_],t,r,_,h=>by
  rw[zBE]at h;cases h
 | N+1,i::s::p,.mk k tx c ks,r,hN,h=>by
  rw[zBE]at h;split at h
  ·rename_i hi
   replace hi:0<=i/\i<ks.length:=hi;have hi0:i.toNat<ks.length :=(by omega);have hx:ks[i.toNat]? = some ks[i.toNat]:=List.getElem?_eq_getElem hi0;generalize ks[i.toNat]=x at hx;obtain⟨k2,tx2,c2,ks2⟩:=x;simp only[Nd.kids,getD_eq_getElem?_getD,hx,Option.getD_some]at h;split at h
   ·rename_i hs
    have hs0:s.toNat<ks2.length :=(by omega);have hz:ks2[s.toNat]? = some ks2[s.toNat]:=List.getElem?_eq_getElem hs0;generalize ks2[s.toNat]=z at hz;rw[hz,Option.getD_some]at h;obtain⟨q1,q2⟩:=zIy N p z r (by simp only[length_cons]at hN; omega) h;have m1:=Nd.w_mem (mem_of_getElem? hx)
    have m2:=Nd.w_mem (mem_of_getElem? hz)
    have n1:=Nd.cnts_mem (mem_of_getElem? hx)
    have n2:=Nd.cnts_mem (mem_of_getElem? hz)
    simp only[Nd.w,Nd.cnt]at m1 m2 n1 n2 ⊢
    omega
   ·cases h
  ·cases h
theorem zJe (n:Nat) (t:Nd) (p:List Int) (hp:p.length<n) (hv:zAU n t=some (zAB t)):zFH n t p=some (rowS t p):=by
 obtain⟨r,ok,h1,h2⟩:=zUO n t p hp;obtain⟨k,tx,c,ks⟩:=t;unfold zFH rowS;dsimp only;rw[hv]
 simp only[obs]
 cases hb:zAB (.mk k tx c ks) with
 | false=>rfl
 | true =>
  rw[h1,h2]
  obtain⟨r1,r2,r3,r4⟩:=r;cases ok <;> rfl
theorem zG9 {t:Nd} (h:t.cnt<=1000000000):zA0 t=some t:=zA5 h
theorem zUy (n:Nat) (t:Nd) (p:List Int) (hv:zA8 n t=some (zAB t)) (hc:t.cnt<=1000000000):zHs n t p=some (rowS t p):=by
 unfold zHs rowS;rw[hv]
 simp only[obs]
 split
 ·cases hf:zBE t p with
  | none=>rfl
  | some r =>
   have:=(zIy _ p t r (Nat.lt_succ_self _) hf).2;simp only[zG9 (Nat.le_trans this hc),obs]
 ·rfl
def zUq (t:Nd) (p:List Int) (i:Int):Nd×Int:=if zAB t=true then (match zBE t p with | some r=>if 0<=i/\i<r.kids.length then (r.kids.getD i.toNat r,0) else (zCy,2) | none=>(zCy,8)) else (zCy,1)
theorem zOf (n:Nat) (t:Nd) (p:List Int) (i:Int) (hp:p.length<n) (hv:zAU n t=some (zAB t)):zGb n t p i=some (zUq t p i):=by
 have hr:=zJe n t p hp hv;obtain⟨k,tx,c,ks⟩:=t;unfold zGb;dsimp only;rw[hr]
 unfold rowS zUq;split
 ·cases hf:zBE (.mk k tx c ks) p with
  | none=>rfl
  | some r =>
   obtain⟨k2,tx2,c2,ks2⟩:=r;simp only[obs,show((0:Int) != 0)=false from rfl,cond_false]
   by_cases h1:i<0
   ·rw[zAH h1,if_neg (fun h=>by omega)]; rfl
   ·rw[zAE h1]
    by_cases h2:(ks2.length:Int)<=i
    ·rw[zAH h2,if_neg (fun h=>by have:i<(ks2.length:Int):=h.2; omega)]; rfl
    ·rw[zAE h2,if_pos ⟨by omega,show i<(ks2.length:Int) by omega⟩]
     obtain⟨j,rfl,hj,hg⟩:=zUg (l:=ks2) (i:=i) (by omega) (by omega)
     have hgg:(Nd.mk k2 tx2 c2 ks2).kids.getD ((j:Int)).toNat (Nd.mk k2 tx2 c2 ks2)=ks2[j]:=by
      show ks2.getD ((j:Int)).toNat _=_;rw[getD_eq_getElem?_getD,Int.toNat_natCast,List.getElem?_eq_getElem hj,Option.getD_some]
     rw[hgg]
     simp only[cond_false,obs]
     rw[hg]
     generalize ks2[j]=z;cases z; rfl
 ·rfl
theorem zHL {α:Type}{l:List α}{i:Nat}{x:α} (h:l[i]? = some x):at? l (i:Int)=some x:=by
 have hl:=(List.getElem?_eq_some_iff.1 h).1;rw[zAK hl,← List.getElem?_eq_getElem hl,h]
theorem zE6 {k:Int}{tx:List UInt8}{c:Int}{ks:List Nd}{i:Nat}{x y:Nd} (hi:ks[i]? = some y) (hl:ks.length<=4294967296):zBs (.mk k tx c ks) (i:Int) x=some (.mk k tx c (ks.set i x)):=by
 obtain⟨x1,x2,x3,x4⟩:=x;obtain⟨y1,y2,y3,y4⟩:=y;unfold zBs;dsimp only;rw[zA5 (by simpa using hl),zHL hi]
 simp only[obs,Int.toNat_natCast]
def zU5 (t:Nd) (p:List Int) (r:Nd):Nd×Int:=if zAB t=true then (match zBE t p with
 | some _=>if zAB r=true then (if zAB (putL t p r)=true then (putL t p r,0) else (zCy,6)) else (zCy,4)
 | none=>(zCy,8)) else (zCy,1)
theorem zTa (n:Nat) (t:Nd) (p:List Int) (r:Nd) (hv:zA8 n t=some (zAB t)) (hr:zA8 n r=some (zAB r)) (hp:∀ z,Fd t p z->zA8 n (putL t p r)=some (zAB (putL t p r))) (hc:t.cnt<=1000000000) (hcr:r.cnt<=1000000000) :
  zFf n t p r=some (zU5 t p r):=by
 unfold zFf zU5;rw[hv,zG9 hc,hr,zG9 hcr]
 simp only[obs]
 split
 ·cases hf:zBE t p with
  | none=>rfl
  | some z =>
   dsimp only;rw[hp z (zZl hf)]
   simp only[obs]
   split
   ·split <;> rfl
   ·rfl
 ·rfl
theorem zZ9 {t z r:Nd}{p:List Int} (hv:zAB t=true) (h:zBE t p=some z) (hr:zAB r=true) (hp:zAB (putL t p r)=true):zU5 t p r=(putL t p r,0):=by unfold zU5; rw[if_pos hv,h]; dsimp only; rw[if_pos hr,if_pos hp]
abbrev Op8:=Int×List Int×Int×Int×List Nd×Int×List UInt8×List UInt8
def Op8.nodes (o:Op8):List Nd:=o.2.2.2.2.1
variable {α:Type}
theorem take3  (l:List α){p q:Nat} (h:p<=q):(l.take p++(l.take q).drop p)++l.drop q=l:=by
 have:l.take p=(l.take q).take p :=(by rw[take_take,Nat.min_eq_left h]);rw[this,take_append_drop,take_append_drop]
theorem zTR (l by':List Nd){p q:Nat} (h:p<=q):Nd.ws ((l.take p++by')++l.drop q)+Nd.ws ((l.take q).drop p)=Nd.ws l+Nd.ws by':=by
 have:=congrArg Nd.ws (take3 l h)
 rw[Nd.ws_append,Nd.ws_append]at this ⊢
 omega
theorem zYL (l by':List Nd) (p q:Nat) (hp:p<=l.length) (hq:q<=l.length) (hl:l.length<=1073741824) (hb:by'.length<=1073741824) :
  zCj l (p:Int) (q:Int) by'=some ((l.take p++by')++l.drop q):=by
 unfold zCj;dsimp only;have e1:(l.take (p:Int).toNat).drop (0:Int).toNat=l.take p :=(by simp);have e2:(l.take (l.length:Int).toNat).drop (q:Int).toNat=l.drop q :=(by simp);rw[e1,e2,zA5 ⟨by omega,by omega,by omega⟩,zA5 (by simp; omega),zA5 (by simp; omega),zA5 ⟨by omega,by omega,by omega⟩,zA5 (by simp; omega)]
theorem zUb (t:Nd) (i:Nat) (v:Nd) (h:i<t.kids.length) (hl:t.kids.length<=1073741824):zBs t (i:Int) v=some (.mk t.kind t.text t.cols (t.kids.set i v)):=by
 obtain⟨a,b,c,d⟩:=t;obtain⟨a',b',c',d'⟩:=v;simp only[Nd.kids]at h hl;unfold zBs;simp only;rw[zA5 (by simp; omega),zAK h]
 rcases e:d[i] with ⟨x1,x2,x3,x4⟩
 simp only[obs,Int.toNat_natCast,Nd.kind,Nd.text,Nd.cols,Nd.kids]
theorem zSQ (t:Nd) (i:Nat) (l:List Nd) (h:i<t.kids.length) (hl:t.kids.length<=1073741824) (hl2:l.length<=1073741824):zDR t (i:Int) l=some (.mk t.kind t.text t.cols (t.kids.set i (.mk 1 [] 0 l))):=by
 have:=zUb t i (.mk 1 [] 0 l) h hl;obtain⟨a,b,c,d⟩:=t;unfold zDR;simp only[zA2,obs]
 rw[zA5 (by simp; omega),this]
 rfl
theorem yAh {l:List α}{i:Int} (h0:0<=i) (h1:i<(l.length:Int)):∃ p:Nat,i=(p:Int)/\∃ h:p<l.length,at? l i=some l[p]:=by
 obtain⟨p,rfl⟩:=Int.eq_ofNat_of_zero_le h0;exact⟨p,rfl,by omega,zAK (by omega)⟩
theorem zG3 (t:Nd):t.w=t.text.length+Nd.ws t.kids+1:=by cases t; rfl
def Fits (k:Int) (nodes:List Nd) (text:List UInt8) (a l:List Nd):Prop :=
 Nd.ws l<=Nd.ws a+Nd.ws nodes+text.length+3/\((k=1∨k=2)->DL a l<=Nd.cnts nodes)/\(k=5->DL a l<=1)
theorem yAw (l:List Nd){p q:Nat} (h:p<=q):Nd.ws ((l.take q).drop p)<=Nd.ws l:=by
 have:=zTR l [] h;simp only[Nd.ws]at this; omega
theorem zU0 (l:List Nd){p:Nat} (h:p<l.length):(l.take (p+1)).drop p=[l[p]]:=by
 rw[take_succ_eq_append_getElem h,drop_append_of_le_length (by simp; omega),drop_take]
 simp
def splS (l:List Nd) (p q:Nat) (b:List Nd):List Nd:=(l.take p++b)++l.drop q
def segS (l:List Nd) (p q:Nat):List Nd:=(l.take q).drop p
def rowN (l:List Nd):Nd:=.mk 1 [] 0 l
def zGt (v:Nd) (s:Nat) (l:List Nd):Nd:=.mk v.kind v.text v.cols (v.kids.set s (rowN l))
def zWy (k:Int):Bool:=(k == 2)||((k == 3)||((k == 4)||((k == 10)||(k == 11))))
def zD8 (k m:Int) (nodes:List Nd):Int:=if k=1 then 0 else if k=2 then nodes.length else if k=3 then m else 1
def zSn (nodes:List Nd) (slot:Int):Prop:=∃ (v:Nd) (s:Nat) (z:Nd),nodes=[v]/\slot=(s:Int)/\zAB (rowN [v])=true/\v.kids[s]? = some z/\z.kids=[]
def FormP:Op8->Prop
 | (k,_,_,m,nodes,slot,old,text) =>
  ((k=1∨k=2)/\nodes ≠ []/\zAB (rowN nodes)=true/\m=0/\slot=0/\old=[]/\text=[]) ∨
  ((k=3∨k=4)/\0<=m/\zSn nodes slot/\old=[]/\text=[]) ∨
  (k=5/\old ≠ text/\nodes=[]/\m=0/\slot=0)
inductive Chg (l:List Nd):Op8->List Nd->Int->Prop
 | range {k:Int} {row:List Int} {a m:Int} {nodes:List Nd} {slot:Int} {old text:List UInt8} (h:a<0∨(l.length:Int)<a∨(l.length:Int) - a<zD8 k m nodes):Chg l (k,row,a,m,nodes,slot,old,text) [] 2
 | ins {row:List Int} {p:Nat} {m:Int} {nodes:List Nd} {slot:Int} {old text:List UInt8} (h:p<=l.length):Chg l (1,row,(p:Int),m,nodes,slot,old,text) (splS l p p nodes) 0
 | del {row:List Int} {p:Nat} {m:Int} {nodes:List Nd} {slot:Int} {old text:List UInt8} (h:p+nodes.length<=l.length) (he:segS l p (p+nodes.length)=nodes):Chg l (2,row,(p:Int),m,nodes,slot,old,text) (splS l p (p+nodes.length) []) 0
 | del_no {row:List Int} {p:Nat} {m:Int} {nodes:List Nd} {slot:Int} {old text:List UInt8} (h:p+nodes.length<=l.length) (he:segS l p (p+nodes.length) ≠ nodes):Chg l (2,row,(p:Int),m,nodes,slot,old,text) [] 7
 | wrap {row:List Int} {p m:Nat} {v:Nd} {s:Nat} {old text:List UInt8} (h:p+m<=l.length):Chg l (3,row,(p:Int),(m:Int),[v],(s:Int),old,text) (splS l p (p+m) [zGt v s (segS l p (p+m))]) 0
 | unwrap {row:List Int} {p:Nat} {m:Int} {v it z:Nd} {s:Nat} {old text:List UInt8} (h:l[p]? = some it) (hz:it.kids[s]? = some z) (hm:(z.kids.length:Int)=m) (he:it=zGt v s z.kids):Chg l (4,row,(p:Int),m,[v],(s:Int),old,text) (splS l p (p+1) z.kids) 0
 | unwrap_no {row:List Int} {p:Nat} {m:Int} {v it:Nd} {s:Nat} {old text:List UInt8} (h:l[p]? = some it) (hz:∀ z,it.kids[s]? = some z->(z.kids.length:Int)=m->it ≠ zGt v s z.kids):Chg l (4,row,(p:Int),m,[v],(s:Int),old,text) [] 7
 | set {row:List Int} {p:Nat} {m:Int} {nodes:List Nd} {it:Nd} {slot:Int} {old text:List UInt8} (h:l[p]? = some it) (hl:zWy it.kind=true) (he:it.text=old):Chg l (5,row,(p:Int),m,nodes,slot,old,text) (splS l p (p+1) [.mk it.kind text it.cols it.kids]) 0
 | set_no {row:List Int} {p:Nat} {m:Int} {nodes:List Nd} {it:Nd} {slot:Int} {old text:List UInt8} (h:l[p]? = some it) (hl:¬ (zWy it.kind=true/\it.text=old)):Chg l (5,row,(p:Int),m,nodes,slot,old,text) [] 7
inductive App (t:Nd):Op8->Nd->Int->Prop
 | arg {o:Op8} (h:zAB t=false):App t o zCy 1
 | form {o:Op8} (h:zAB t=true) (hf:¬ FormP o):App t o zCy 4
 | none {o:Op8} (h:zAB t=true) (hf:FormP o) (hn:zBE t o.2.1=Option.none):App t o zCy 8
 | chg {o:Op8} {r:Nd} {l:List Nd} {e:Int} (h:zAB t=true) (hf:FormP o) (hr:Fd t o.2.1 r) (hc:Chg r.kids o l e) (he:e ≠ 0):App t o zCy e
 | limit {o:Op8} {r:Nd} {l:List Nd} (h:zAB t=true) (hf:FormP o) (hr:Fd t o.2.1 r) (hc:Chg r.kids o l 0) (hv:zAB (putL t o.2.1 (rowN l))=false):App t o zCy 6
 | ok {o:Op8} {r:Nd} {l:List Nd} (h:zAB t=true) (hf:FormP o) (hr:Fd t o.2.1 r) (hc:Chg r.kids o l 0) (hv:zAB (putL t o.2.1 (rowN l))=true):App t o (putL t o.2.1 (rowN l)) 0
def Op8.row (o:Op8):List Int:=o.2.1
def Op8.text (o:Op8):List UInt8:=o.2.2.2.2.2.2.2
variable {old text:List UInt8}{slot:Int}{nodes:List Nd}{row:List Int}
theorem kB {P:Prop} (h:P:=by have:=zU0 l (List.getElem?_eq_some_iff.1 h).1;rw[segS,this,(List.getElem?_eq_some_iff.1 h).2]):P:=h
theorem Chg.w {l l':List Nd}{k:Int}{a m:Int}{e:Int} (h:Chg l (k,row,a,m,nodes,slot,old,text) l' e):Nd.ws l'<=Nd.ws l+Nd.ws nodes+text.length+3/\l'.length<=l.length+Nd.ws nodes+Nd.ws l+1:=by
 have key:∀ p q b,p<=q->Nd.ws (splS l p q b)+Nd.ws (segS l p q)=Nd.ws l+Nd.ws b:=fun p q b h=>zTR l b h
 have hlen:∀ l':List Nd,l'.length<=Nd.ws l':=Nd.ws_len
 have h1:Nd.ws l'<=Nd.ws l+Nd.ws nodes+text.length+3:=by
  cases h with
  | range=>simp only[Nd.ws]; omega
  | @ins _ p _ _ _ _ _ h=>have:=key p p nodes (Nat.le_refl _); omega
  | @del _ p _ _ _ _ _ h he=>have:=key p (p+nodes.length) [] (Nat.le_add_right _ _); simp only[Nd.ws]at this; omega
  | del_no=>simp only[Nd.ws]; omega
  | @wrap _ p m v s _ _ h =>
   have:=key p (p+m) [zGt v s (segS l p (p+m))] (Nat.le_add_right _ _)
   have hf:(zGt v s (segS l p (p+m))).w<=v.w+Nd.ws (segS l p (p+m))+1:=by
    rw[zG3 v]
    simp only[zGt,rowN,Nd.w]
    by_cases hs:s<v.kids.length
    ·have:=zKk (ks:=v.kids) (i:=s) (y:=.mk 1 [] 0 (segS l p (p+m))) (List.getElem?_eq_getElem hs)
     simp only[Nd.w,length_nil]at this
     omega
    ·rw[set_eq_of_length_le (by omega)]; omega
   simp only[Nd.ws]at this ⊢
   omega
  | @unwrap _ p _ v it z s _ _ h hz hm he =>
   have:=key p (p+1) z.kids (Nat.le_add_right _ _)
   have hsg:segS l p (p+1)=[it]:=by
    exact kB
   have w1:=Nd.w_mem (mem_of_getElem? hz)
   have w2:=zG3 z;have w3:=zG3 it;rw[hsg]at this;simp only[Nd.ws]at this
   omega
  | unwrap_no=>simp only[Nd.ws]; omega
  | @set _ p _ _ it _ _ _ h hl he =>
   have:=key p (p+1) [.mk it.kind text it.cols it.kids] (Nat.le_add_right _ _)
   have hsg:segS l p (p+1)=[it]:=by
    exact kB
   have w3:=zG3 it;rw[hsg]at this;simp only[Nd.ws,Nd.w]at this
   omega
  | set_no=>simp only[Nd.ws]; omega
 refine⟨h1,?_⟩
 cases h with
 | range=>simp
 | @ins _ p _ _ _ _ _ h=>have:=hlen nodes; simp only[splS,length_append,length_take,length_drop]; omega
 | @del _ p _ _ _ _ _ h he=>simp only[splS,length_append,length_take,length_drop,length_nil]; omega
 | del_no=>simp
 | @wrap _ p m v s _ _ h=>simp only[splS,length_append,length_take,length_drop,length_cons,length_nil]; omega
 | @unwrap _ p _ v it z s _ _ h hz hm he =>
  have w1:=Nd.w_mem (mem_of_getElem? hz)
  have w4:=Nd.w_mem (mem_of_getElem? h)
  have w2:=zG3 z;have w3:=zG3 it;have:=hlen z.kids;simp only[splS,length_append,length_take,length_drop]; omega
 | unwrap_no=>simp
 | @set _ p _ _ it _ _ _ h hl he=>simp only[splS,length_append,length_take,length_drop,length_cons,length_nil]; omega
 | set_no=>simp
theorem zF7 (n:Nat) (nodes:List Nd) (h:Nd.ws nodes+50<n) (hb:Nd.ws nodes<=67000000):zB5 n nodes=some (zAB (rowN nodes)):=by
 unfold zB5;simp only[zA2,obs]
 rw[zCK n _ (by simp only[Nd.w,length_nil]; omega) (by simp only[Nd.w,length_nil]; omega)]; rfl
theorem zOh (n:Nat) (l:List Nd) (slot:Int) (h:Nd.ws l+50<n) (hb:Nd.ws l<=67000000):∃ b,zEn n l slot=some b/\(b=true↔zSn l slot):=by
 unfold zEn;dsimp only;cases e1:((l.length:Int) == 1) with
 | false=>exact⟨false,rfl,(fun h=>by cases h),fun⟨v,s,z,h,_⟩=>by rw[h]at e1; cases e1⟩
 | true =>
  have hl:l.length=1 :=(by have:=eq_of_beq e1; omega);obtain⟨v,rfl⟩:=List.length_eq_one_iff.1 hl;have hv:=zF7 n [v] h hb;obtain⟨a,b,c,d⟩:=v;have h0:at? [Nd.mk a b c d] (0:Int)=some (Nd.mk a b c d):=rfl;simp only[cond_true,hv,obs,h0]
  cases hvb:zAB (rowN [.mk a b c d]) with
  | false=>exact⟨false,rfl,(fun h=>by cases h),fun⟨v,s,z,h,_,h2,_⟩=>by cases h; rw[hvb]at h2; cases h2⟩
  | true =>
   by_cases h1:0<=slot
   ·by_cases h2:slot<(d.length:Int)
    ·obtain⟨p,rfl,hp,hg⟩:=yAh h1 h2;simp only[cond_true,zAH h1,zAH h2,hg,obs]
     have hz:d[p]? = some d[p]:=List.getElem?_eq_getElem hp;generalize d[p]=z at hz;obtain⟨x1,x2,x3,x4⟩:=z;refine⟨_,rfl,fun h=>⟨_,p,_,rfl,rfl,hvb,hz,?_⟩,fun⟨v,s,z,h,hs,_,hz',hk⟩=>?_⟩
     ·have:=eq_of_beq h;exact eq_nil_of_length_eq_zero (by simp only[Nd.kids]; omega)
     ·cases h;obtain rfl:p=s :=(by omega);simp only[Nd.kids]at hz';rw[hz]at hz';cases hz';simp only[Nd.kids]at hk;subst hk
      rfl
    ·simp only[cond_true,zAH h1,zAE h2]
     refine⟨false,rfl,(fun h=>by cases h),fun⟨v,s,z,h,hs,_,hz,_⟩=>?_⟩
     cases h;have:=(List.getElem?_eq_some_iff.1 hz).1;simp only[Nd.kids]at this
     omega
   ·simp only[cond_true,zAE h1]
    refine⟨false,rfl,(fun h=>by cases h),fun⟨v,s,z,h,hs,_⟩=>?_⟩
    omega
theorem kL {P:Prop} (h:P:=by exact⟨false,rfl,by simp[beq_eq_false_iff_ne.1 e1]⟩):P:=h
theorem kM {P:Prop} (h:P:=by exact⟨false,rfl,by simp[beq_eq_false_iff_ne.1 e3]⟩):P:=h
theorem zHX (n:Nat) (k:Int) (row:List Int) (at' m:Int) (nodes:List Nd) (slot:Int) (old text:List UInt8) (h:Nd.ws nodes+50<n) (hb:Nd.ws nodes<=67000000) :
  ∃ b,zEM n (k,row,at',m,nodes,slot,old,text)=some b/\(b=true↔FormP (k,row,at',m,nodes,slot,old,text)):=by
 have hv:=zF7 n nodes h hb;obtain⟨tb,t1,t2⟩:=zOh n nodes slot h hb;have hlen:decide (0<(nodes.length:Int))=true↔nodes ≠ [] :=(by cases nodes <;> simp);have hlen0:((nodes.length:Int) == 0)=true↔nodes=[] :=(by cases nodes <;> simp <;> omega);unfold zEM;simp only[hv,t1,obs,FormP]
 by_cases k12:k=1∨k=2
 ·have e:(bif (k == 1) then some (k == 1) else some (k == 2):Option Bool)=some true:=by rcases k12 with rfl | rfl <;> rfl
  have hk:¬ (k=3∨k=4)/\¬ k=5 :=(by omega);rw[e]
  simp only[obs,cond_true,k12,hk.1,hk.2,true_and,false_and,or_false]
  rw[← hlen]
  generalize decide (0<(nodes.length:Int))=b1;generalize zAB (rowN nodes)=b2;cases b1 <;> cases b2 <;> simp only[cond_true,cond_false,obs] <;> try exact⟨false,rfl,by simp⟩
  cases e1:m == 0 <;> simp only[cond_true,cond_false,obs]
  ·exact kL
  cases e2:slot == 0 <;> simp only[cond_true,cond_false,obs]
  ·exact⟨false,rfl,by simp[beq_eq_false_iff_ne.1 e2]⟩
  cases e3:old == [] <;> simp only[cond_true,cond_false,obs]
  ·exact kM
  refine⟨_,rfl,?_⟩
  rw[eq_of_beq e1,eq_of_beq e2,eq_of_beq e3]
  simp
 ·have e:(bif (k == 1) then some (k == 1) else some (k == 2):Option Bool)=some false:=by
   rw[zB1 (fun h=>k12 (.inl h)),zB1 (fun h=>k12 (.inr h))]; rfl
  rw[e]
  simp only[obs,cond_false,k12,false_and,false_or]
  by_cases k34:k=3∨k=4
  ·have e:(bif (k == 3) then some (k == 3) else some (k == 4):Option Bool)=some true:=by rcases k34 with rfl | rfl <;> rfl
   have hk:¬ k=5 :=(by omega);rw[e]
   simp only[obs,cond_true,k34,hk,true_and,false_and,or_false]
   rw[← t2]
   by_cases hm:0<=m
   ·rw[zAH hm]
    cases tb <;> simp only[cond_true,cond_false,obs]
    ·exact⟨false,rfl,by simp⟩
    cases e3:old == [] <;> simp only[cond_true,cond_false,obs]
    ·exact kM
    refine⟨_,rfl,?_⟩
    rw[eq_of_beq e3]
    simp[hm]
   ·rw[zAE hm]
    exact⟨false,rfl,by simp[hm]⟩
  ·have e:(bif (k == 3) then some (k == 3) else some (k == 4):Option Bool)=some false:=by
    rw[zB1 (fun h=>k34 (.inl h)),zB1 (fun h=>k34 (.inr h))]; rfl
   rw[e]
   simp only[obs,cond_false,k34,false_and,false_or]
   by_cases k5:k=5
   ·subst k5;simp only[beq_self_eq_true,cond_true,obs,true_and]
    rw[← hlen0]
    generalize ((nodes.length:Int) == 0)=b1;cases e0:old == text <;> simp only[Bool.not_true,Bool.not_false,cond_true,cond_false,obs]
    ·have:=beq_eq_false_iff_ne.1 e0;cases b1 <;> simp only[cond_true,cond_false,obs]
     ·exact⟨false,rfl,by simp⟩
     cases e1:m == 0 <;> simp only[cond_true,cond_false,obs]
     ·exact kL
     refine⟨_,rfl,?_⟩
     rw[eq_of_beq e1]
     simp[this]
    ·exact⟨false,rfl,by simp[eq_of_beq e0]⟩
   ·rw[zB1 k5]
    exact⟨false,rfl,by simp[k5]⟩
theorem zVs (k:Int):(bif (k == 2) then some (k == 2) else bif (k == 3) then some (k == 3) else bif (k == 4) then some (k == 4) else bif (k == 10) then some (k == 10) else some (k == 11):Option Bool)=some (zWy k):=by
 unfold zWy;cases e1:k == 2 <;> cases e2:k == 3 <;> cases e3:k == 4 <;> cases e4:k == 10 <;> rfl
theorem zVx (k m:Int) (nodes:List Nd):(bif (k == 1) then some 0 else bif (k == 2) then some (nodes.length:Int) else bif (k == 3) then some m else some 1:Option Int)=some (zD8 k m nodes):=by
 unfold zD8
 by_cases k1:k=1
 ·subst k1; rfl
 by_cases k2:k=2
 ·subst k2; rfl
 by_cases k3:k=3
 ·subst k3; rfl
 rw[zB1 k1,zB1 k2,zB1 k3,if_neg k1,if_neg k2,if_neg k3]; rfl
theorem zUx {k:Int}{a m:Int} (hf:FormP (k,row,a,m,nodes,slot,old,text)):0<=zD8 k m nodes:=by
 unfold zD8;rcases hf with ⟨rfl | rfl,_⟩ | ⟨rfl | rfl,hm,_⟩ | ⟨rfl,_⟩ <;> simp <;> omega
theorem zRy (n:Nat) (l:List Nd) (k:Int) (row:List Int) (a m:Int) (nodes:List Nd) (slot:Int) (old text:List UInt8) (hf:FormP (k,row,a,m,nodes,slot,old,text)) (hn:2 * Nd.ws l+2 * Nd.ws nodes+50<n) (ha:Nd.ws l<=60000000) (hb:Nd.ws nodes<=2000000) :
  ∃ l' e,zFK n l (k,row,a,m,nodes,slot,old,text)=some (l',e)/\Chg l (k,row,a,m,nodes,slot,old,text) l' e:=by
 have la:=Nd.ws_len l;have lb:=Nd.ws_len nodes;have cl:=Nd.cnts_ws l;have cb:=Nd.cnts_ws nodes;have hnn:=zUx hf;unfold zFK;dsimp only;rw[zVx]
 simp only[obs]
 by_cases h1:a<0
 ·rw[zAH h1]; exact⟨[],2,rfl,.range (.inl h1)⟩
 rw[zAE h1]
 by_cases h2:(l.length:Int)<a
 ·rw[zAH h2]; exact⟨[],2,rfl,.range (.inr (.inl h2))⟩
 rw[zAE h2,wrap64_in (n:=(l.length:Int) - a) (by omega) (by omega)]
 by_cases h3:(l.length:Int) - a<zD8 k m nodes
 ·rw[zAH h3]; exact⟨[],2,rfl,.range (.inr (.inr h3))⟩
 rw[zAE h3]
 simp only[cond_false,obs]
 obtain⟨p,rfl⟩:=Int.eq_ofNat_of_zero_le (show 0<=a by omega)
 obtain⟨y,hy⟩:=Int.eq_ofNat_of_zero_le hnn;rw[hy]at h3 ⊢;rw[wrap64_in (n:=(p:Int)+(y:Int)) (by omega) (by omega),← Int.natCast_add]
 have hseg:=yAw l (Nat.le_add_right p y)
 have lseg:=Nd.ws_len ((l.take (p+y)).drop p)
 have cseg:=Nd.cnts_ws ((l.take (p+y)).drop p)
 have hsp:∀ by':List Nd,by'.length<=1073741824->zCj l (p:Int) ((p+y:Nat):Int) by'=some (splS l p (p+y) by'):=fun by' hby=>zYL l by' p (p+y) (by omega) (by omega) (by omega) hby
 rcases hf with ⟨rfl | rfl,h0⟩ | ⟨rfl | rfl,hm,⟨v,s,z,rfl,rfl,hvv,hz,hzk⟩,_⟩ | ⟨rfl,h0⟩
 ·obtain rfl:y=0 :=(by have:zD8 1 m nodes=0:=rfl; omega);simp only[beq_self_eq_true,cond_true,Nat.add_zero]at hsp ⊢;rw[hsp nodes (by omega)]
  exact⟨_,0,rfl,.ins (by omega)⟩
 ·obtain rfl:y=nodes.length :=(by have:zD8 2 m nodes=(nodes.length:Int):=rfl; omega);simp only[show((2:Int) == 1)=false from rfl,cond_false,beq_self_eq_true,cond_true,Int.toNat_natCast]
  rw[zA5 ⟨by omega,by omega,by omega⟩]
  obtain⟨r,g1,g2⟩:=(zQb n).2 ((l.take (p+nodes.length)).drop p) nodes (by omega) (by omega)
  rw[g1]
  simp only[obs]
  cases r with
  | false=>exact⟨[],7,rfl,.del_no (by omega) fun e=>by have:=g2.2 e; cases this⟩
  | true =>
   simp only[Bool.not_true,cond_false,hsp [] (by simp),obs]
   exact⟨_,0,rfl,.del (by omega) (g2.1 rfl)⟩
 ·obtain rfl:m=(y:Int):=hy;have hs:=(List.getElem?_eq_some_iff.1 hz).1;have hfe:=zSQ v s ((l.take (p+y)).drop p) hs (by have:=Nd.ws_len v.kids; have:=zG3 v; simp only[Nd.ws]at lb hb; omega) (by omega)
  have hv0:at? [v] (0:Int)=some v:=rfl;obtain⟨v1,v2,v3,v4⟩:=v;simp only[show((3:Int) == 1)=false from rfl,show((3:Int) == 2)=false from rfl,cond_false,beq_self_eq_true,cond_true,Int.toNat_natCast,hv0,obs]
  rw[zA5 ⟨by omega,by omega,by omega⟩,hfe]
  simp only[obs]
  rw[hsp _ (by simp)]
  exact⟨_,0,rfl,.wrap (by omega)⟩
 ·obtain rfl:y=1 :=(by have:zD8 4 m [v]=1:=rfl; omega);have hs:=(List.getElem?_eq_some_iff.1 hz).1;have hv0:at? [v] (0:Int)=some v:=rfl;have hpl:p<l.length :=(by omega);have hit:l[p]? = some l[p]:=List.getElem?_eq_getElem hpl;have hia:at? l (p:Int)=some l[p]:=zAK hpl;generalize l[p]=it at hit hia;have hiw:=Nd.w_mem (mem_of_getElem? hit)
  have hic:=Nd.cnt_w it;have hlk:=Nd.ws_len v.kids;have hwv:=zG3 v;simp only[Nd.ws]at hb hn;have hfe:∀ l':List Nd,l'.length<=1073741824->zDR v (s:Int) l'=some (zGt v s l'):=fun l' hl'=>zSQ v s l' hs (by omega) hl'
  have heq:∀ x:Nd,∃ r,zCq n it x=some r/\(r=true↔it=x):=fun x=>(zQb n).1 it x (by omega) (by omega)
  obtain⟨i1,i2,i3,i4⟩:=it;have hwi:(Nd.mk i1 i2 i3 i4).w=i2.length+Nd.ws i4+1:=rfl;have hlk4:=Nd.ws_len i4;obtain⟨v1,v2,v3,v4⟩:=v;simp only[show((4:Int) == 1)=false from rfl,show((4:Int) == 2)=false from rfl,show((4:Int) == 3)=false from rfl,cond_false,beq_self_eq_true,cond_true,hia,obs,hv0]
  by_cases hsl:(i4.length:Int)<=(s:Int)
  ·rw[zAH hsl]
   refine⟨[],7,rfl,.unwrap_no hit fun z' hz'=>?_⟩
   have:=(List.getElem?_eq_some_iff.1 hz').1;simp only[Nd.kids]at this
   omega
  rw[zAE hsl]
  have hsi:s<i4.length :=(by omega);have hzi:i4[s]? = some i4[s]:=List.getElem?_eq_getElem hsi;have hza:at? i4 (s:Int)=some i4[s]:=zAK hsi;generalize i4[s]=z' at hzi hza;have hzw:=Nd.w_mem (mem_of_getElem? hzi)
  have hzw2:=zG3 z';have hzl:=Nd.ws_len z'.kids;have hfe':=hfe z'.kids (by omega)
  obtain⟨rb,g1,g2⟩:=heq (zGt (.mk v1 v2 v3 v4) s z'.kids)
  have hsp':=hsp z'.kids (by omega)
  obtain⟨z1,z2,z3,z4⟩:=z';simp only[Nd.kids]at hfe' hsp' g1 g2;simp only[cond_false,hza,obs]
  by_cases hmz:(z4.length:Int)=m
  ·have:((z4.length:Int) != m)=false :=(by unfold bne; rw[beq_iff_eq.2 hmz]; rfl);rw[this]
   simp only[cond_false,hfe',obs]
   have hfx:zGt (.mk v1 v2 v3 v4) s z4 = .mk v1 v2 v3 (v4.set s (rowN z4)):=rfl;rw[hfx]at g1 g2 ⊢;simp only[obs,g1]
   cases rb with
   | false =>
    refine⟨[],7,rfl,.unwrap_no hit fun z'' hz'' hm'' he=>?_⟩
    simp only[Nd.kids]at hz'';rw[hzi]at hz'';cases hz'';have:=g2.2 he;cases this
   | true =>
    simp only[Bool.not_true,cond_false,hsp',obs]
    exact⟨_,0,rfl,.unwrap (z:=.mk z1 z2 z3 z4) hit hzi hmz (g2.1 rfl)⟩
  ·have:((z4.length:Int) != m)=true:=bne_iff_ne.2 hmz;rw[this]
   refine⟨[],7,rfl,.unwrap_no hit fun z'' hz'' hm'' he=>?_⟩
   simp only[Nd.kids]at hz'';rw[hzi]at hz'';cases hz'';exact hmz hm''
 ·obtain rfl:y=1 :=(by have:zD8 5 m nodes=1:=rfl; omega);have hpl:p<l.length :=(by omega);have hit:l[p]? = some l[p]:=List.getElem?_eq_getElem hpl;have hia:at? l (p:Int)=some l[p]:=zAK hpl;generalize l[p]=it at hit hia;obtain⟨i1,i2,i3,i4⟩:=it;simp only[show((5:Int) == 1)=false from rfl,show((5:Int) == 2)=false from rfl,show((5:Int) == 3)=false from rfl,show((5:Int) == 4)=false from rfl,cond_false,hia,obs,zVs]
  cases hlf:zWy i1 with
  | false=>exact⟨[],7,rfl,.set_no hit fun h=>by have:=h.1; simp only[Nd.kind]at this; rw[hlf]at this; cases this⟩
  | true =>
   simp only[cond_true]
   cases ht:i2 == old with
   | false=>exact⟨[],7,rfl,.set_no hit fun h=>beq_eq_false_iff_ne.1 ht h.2⟩
   | true =>
    simp only[cond_true,hsp [Nd.mk i1 text i3 i4] (by simp),obs]
    exact⟨_,0,rfl,.set (it:=.mk i1 i2 i3 i4) hit hlf (eq_of_beq ht)⟩
theorem zWW {t z:Nd}{p:List Int} (h:Fd t p z) (l:List Nd):∀ n,p.length<n->t.cnt<=4294967296->zFL n t p l=some (putL t p (rowN l)):=by
 induction h with
 | nil t =>
  intro n hn _;obtain⟨n,rfl⟩:∃ m,n=m+1:=⟨n - 1,by omega⟩
  rw[zGG]
  obtain⟨t1,t2,t3,t4⟩:=t;unfold zFL
  rfl
 | @step k tx c ks i k2 tx2 c2 ks2 s z r' p hi hs _ ih =>
  intro n hn hc;obtain⟨n,rfl⟩:∃ m,n=m+1:=⟨n - 1,by omega⟩
  have n1:=Nd.cnts_mem (mem_of_getElem? hi)
  have n2:=Nd.cnts_mem (mem_of_getElem? hs)
  have l1:=Nd.cnts_len ks;have l2:=Nd.cnts_len ks2;simp only[Nd.cnt]at hc n1;have ih:=ih n (by simp only[length_cons]at hn; omega) (by omega)
  rw[zEa hi hs]
  have e1:((((i:Int)::(s:Int)::p).length:Int) == 0)=false:=zB1 (by simp only[length_cons]; omega)
  have e2:at? ((i:Int)::(s:Int)::p) (0:Int)=some (i:Int):=rfl;have e3:at? ((i:Int)::(s:Int)::p) (1:Int)=some (s:Int):=rfl;have e4:(((((i:Int)::(s:Int)::p)).take ((((i:Int)::(s:Int)::p)).length:Int).toNat).drop (2:Int).toNat)=p:=by
   rw[Int.toNat_natCast,take_length]; rfl
  obtain⟨z1,z2,z3,z4⟩:=z;unfold zFL;simp only[e1,e2,e3,cond_false,obs,zHL hi,zHL hs,e4]
  rw[zA5 ⟨by omega,by simp only[length_cons]; omega,by omega⟩,ih]
  generalize putL (Nd.mk z1 z2 z3 z4) p (rowN l)=Z;obtain⟨q1,q2,q3,q4⟩:=Z;simp only[obs]
  rw[zE6 hs (by omega)]
  simp only[obs]
  rw[zE6 hi (by omega)]
  rfl
theorem zMz (n:Nat) (t:Nd) (o:Op8) (hn:200000000<n) (ht:t.w<=50000000) (hb:Nd.ws o.nodes<=2000000) (hx:o.2.2.2.2.2.2.2.length<=2000000) (hr:o.2.1.length<=2000000):∃ t' e,zEw n t o=some (t',e)/\App t o t' e:=by
 obtain⟨k,row,a,m,nodes,slot,old,text⟩:=o;simp only[Op8.nodes]at hb;dsimp only at hx hr;have v1:=zCK n t (by omega) (by omega)
 obtain⟨b,f1,f2⟩:=zHX n k row a m nodes slot old text (by omega) (by omega)
 have e1:=zJe n t row (by omega) v1;have hput:∀ r l,Fd t row r->zFL n t row l=some (putL t row (rowN l)):=fun r l h=>zWW h l n (by omega) (by have:=Nd.cnt_w t; omega)
 have hval:∀ r l,Fd t row r->Nd.ws l<=5000000+r.w->zAU n (putL t row (rowN l))=some (zAB (putL t row (rowN l))):=fun r l h hl=>by
  have:=h.w (rowN l)
  have e:(rowN l).w=Nd.ws l+1 :=(by simp[rowN,Nd.w]);exact zCK n _ (by omega) (by omega)
 obtain⟨t1,t2,t3,t4⟩:=t;unfold zEw;simp only[v1,f1,e1,obs]
 cases hv:zAB (.mk t1 t2 t3 t4) with
 | false=>exact⟨_,1,rfl,.arg hv⟩
 | true =>
  simp only[Bool.not_true,cond_false]
  cases b with
  | false=>exact⟨_,4,rfl,.form hv fun h=>by have:=f2.2 h; cases this⟩
  | true =>
   have hf:=f2.1 rfl;simp only[Bool.not_true,cond_false,rowS,if_pos hv]
   cases hfd:zBE (.mk t1 t2 t3 t4) row with
   | none=>exact⟨_,8,rfl,.none hv hf hfd⟩
   | some r =>
    have hr':=zZl hfd;have hsm:=hr'.small;have hwr:=zG3 r;obtain⟨l',e,c1,c2⟩:=zRy n r.kids k row a m nodes slot old text hf (by omega) (by omega) (by omega)
    obtain⟨r1,r2,r3,r4⟩:=r;simp only[Nd.kids]at c1 c2 hwr;simp only[obs,show((0:Int) != 0)=false from rfl,cond_false,c1]
    by_cases he:e=0
    ·subst he;have hcw:=c2.w;have hv2:=hval _ l' hr' (by omega)
     simp only[show((0:Int) != 0)=false from rfl,cond_false,hput _ l' hr',obs]
     cases hvo:zAB (putL (.mk t1 t2 t3 t4) row (rowN l')) with
     | false =>
      have hL:=App.limit (t:=.mk t1 t2 t3 t4) (o:=(k,row,a,m,nodes,slot,old,text)) hv hf hr' c2 hvo;generalize putL (Nd.mk t1 t2 t3 t4) row (rowN l')=Z at *;obtain⟨q1,q2,q3,q4⟩:=Z;simp only[obs,hv2,hvo,Bool.not_false,cond_true]
      exact⟨_,6,rfl,hL⟩
     | true =>
      have hO:=App.ok (t:=.mk t1 t2 t3 t4) (o:=(k,row,a,m,nodes,slot,old,text)) hv hf hr' c2 hvo;dsimp only at hO;generalize putL (Nd.mk t1 t2 t3 t4) row (rowN l')=Z at *;obtain⟨q1,q2,q3,q4⟩:=Z;simp only[obs,hv2,hvo,Bool.not_true,cond_false]
      exact⟨_,0,rfl,hO⟩
    ·have:(e != 0)=true:=bne_iff_ne.2 he;simp only[this,cond_true]
     exact⟨_,e,rfl,.chg (t:=.mk t1 t2 t3 t4) (o:=(k,row,a,m,nodes,slot,old,text)) hv hf hr' c2 he⟩
variable {e1 e2:Int}{l:List Nd}
theorem Chg.det {l1 l2:List Nd}{o:Op8} (hf:FormP o) (h1:Chg l o l1 e1) (h2:Chg l o l2 e2):l1=l2/\e1=e2:=by
 obtain⟨k,row,a,m,nodes,slot,old,text⟩:=o;have hnn:=zUx hf;cases h1 with
 | range h =>
  cases h2 with
  | range=>exact⟨rfl,rfl⟩
  | ins h'=>simp only[zD8,if_true]at h; omega
  | del h'=>simp only[zD8]at h; simp at h; omega
  | del_no h'=>simp only[zD8]at h; simp at h; omega
  | wrap h'=>simp only[zD8]at h; simp at h; omega
  | unwrap h'=>have:=(List.getElem?_eq_some_iff.1 h').1; simp only[zD8]at h; simp at h; omega
  | unwrap_no h'=>exact⟨rfl,by have:=(List.getElem?_eq_some_iff.1 h').1; simp only[zD8]at h; simp at h; omega⟩
  | set h'=>have:=(List.getElem?_eq_some_iff.1 h').1; simp only[zD8]at h; simp at h; omega
  | set_no h'=>exact⟨rfl,by have:=(List.getElem?_eq_some_iff.1 h').1; simp only[zD8]at h; simp at h; omega⟩
 | ins h' =>
  generalize ha:((_:Nat):Int)=a' at h2;cases h2 with
  | range h=>simp only[zD8,if_true]at h; omega
  | ins h=>obtain rfl:=Int.ofNat.inj ha; exact⟨rfl,rfl⟩
 | del h' he =>
  generalize ha:((_:Nat):Int)=a' at h2;cases h2 with
  | range h=>simp only[zD8]at h; simp at h; omega
  | del h=>obtain rfl:=Int.ofNat.inj ha; exact⟨rfl,rfl⟩
  | del_no h he'=>obtain rfl:=Int.ofNat.inj ha; exact absurd he he'
 | del_no h' he =>
  generalize ha:((_:Nat):Int)=a' at h2;cases h2 with
  | range h=>simp only[zD8]at h; simp at h; omega
  | del h he'=>obtain rfl:=Int.ofNat.inj ha; exact absurd he' he
  | del_no h he'=>exact⟨rfl,rfl⟩
 | wrap h' =>
  generalize ha:((_:Nat):Int)=a' at h2;generalize hm:((_:Nat):Int)=m' at h2;generalize hs:((_:Nat):Int)=s' at h2;cases h2 with
  | range h=>simp only[zD8]at h; simp at h; omega
  | wrap h=>obtain rfl:=Int.ofNat.inj ha; obtain rfl:=Int.ofNat.inj hm; obtain rfl:=Int.ofNat.inj hs; exact⟨rfl,rfl⟩
 | unwrap h' hz hm he =>
  generalize ha:((_:Nat):Int)=a' at h2;generalize hs:((_:Nat):Int)=s' at h2;cases h2 with
  | range h=>have:=(List.getElem?_eq_some_iff.1 h').1; simp only[zD8]at h; simp at h; omega
  | unwrap h hz2 =>
   obtain rfl:=Int.ofNat.inj ha; obtain rfl:=Int.ofNat.inj hs
   rw[h']at h; cases h
   rw[hz]at hz2; cases hz2
   exact qH
  | unwrap_no h hz2 =>
   obtain rfl:=Int.ofNat.inj ha; obtain rfl:=Int.ofNat.inj hs
   rw[h']at h; cases h
   exact absurd he (hz2 _ hz hm)
 | unwrap_no h' hz =>
  generalize ha:((_:Nat):Int)=a' at h2;generalize hs:((_:Nat):Int)=s' at h2;cases h2 with
  | range h=>exact⟨rfl,by have:=(List.getElem?_eq_some_iff.1 h').1; simp only[zD8]at h; simp at h; omega⟩
  | unwrap h hz2 hm he =>
   obtain rfl:=Int.ofNat.inj ha; obtain rfl:=Int.ofNat.inj hs
   rw[h']at h; cases h
   exact absurd he (hz _ hz2 hm)
  | unwrap_no h hz2=>exact⟨rfl,rfl⟩
 | set h' hl he =>
  generalize ha:((_:Nat):Int)=a' at h2;cases h2 with
  | range h=>have:=(List.getElem?_eq_some_iff.1 h').1; simp only[zD8]at h; simp at h; omega
  | set h=>obtain rfl:=Int.ofNat.inj ha; rw[h']at h; cases h; exact⟨rfl,rfl⟩
  | set_no h hl2=>obtain rfl:=Int.ofNat.inj ha; rw[h']at h; cases h; exact absurd ⟨hl,he⟩ hl2
 | set_no h' hl =>
  generalize ha:((_:Nat):Int)=a' at h2;cases h2 with
  | range h=>exact⟨rfl,by have:=(List.getElem?_eq_some_iff.1 h').1; simp only[zD8]at h; simp at h; omega⟩
  | set h hl2 he=>obtain rfl:=Int.ofNat.inj ha; rw[h']at h; cases h; exact absurd ⟨hl2,he⟩ hl
  | set_no h hl2=>exact⟨rfl,rfl⟩
theorem Fd.det {t r1 r2:Nd}{p:List Int} (h1:Fd t p r1) (h2:Fd t p r2):r1=r2:=Option.some.inj (h1.find.symm.trans h2.find)
theorem App.det {t t1 t2:Nd}{o:Op8} (h1:App t o t1 e1) (h2:App t o t2 e2):t1=t2/\e1=e2:=by
 have tf:∀ {b:Bool},b=true->b=false->False:=fun h h'=>by rw[h]at h'; cases h'
 have fn:∀ {r:Nd} {p:List Int},Fd t p r->zBE t p=Option.none->False:=fun h h'=>by rw[h.find]at h'; cases h'
 cases h1 with
 | arg h=>cases h2 with
  | arg h'=>exact⟨rfl,rfl⟩
  | form h'=>exact(tf h' h).elim
  | none h'=>exact(tf h' h).elim
  | chg h'=>exact(tf h' h).elim
  | limit h'=>exact(tf h' h).elim
  | ok h'=>exact(tf h' h).elim
 | form h hf=>cases h2 with
  | arg h'=>exact(tf h h').elim
  | form h'=>exact⟨rfl,rfl⟩
  | none h' hf'=>exact absurd hf' hf
  | chg h' hf'=>exact absurd hf' hf
  | limit h' hf'=>exact absurd hf' hf
  | ok h' hf'=>exact absurd hf' hf
 | none h hf hn=>cases h2 with
  | arg h'=>exact(tf h h').elim
  | form h' hf'=>exact absurd hf hf'
  | none=>exact⟨rfl,rfl⟩
  | chg h' hf' hr=>exact(fn hr hn).elim
  | limit h' hf' hr=>exact(fn hr hn).elim
  | ok h' hf' hr=>exact(fn hr hn).elim
 | chg h hf hr hc he=>cases h2 with
  | arg h'=>exact(tf h h').elim
  | form h' hf'=>exact absurd hf hf'
  | none h' hf' hn=>exact(fn hr hn).elim
  | chg h' hf' hr' hc' he'=>obtain rfl:=hr.det hr'; exact⟨rfl,(hc.det hf hc').2⟩
  | limit h' hf' hr' hc'=>obtain rfl:=hr.det hr'; exact absurd (hc.det hf hc').2 he
  | ok h' hf' hr' hc'=>obtain rfl:=hr.det hr'; exact absurd (hc.det hf hc').2 he
 | limit h hf hr hc hv=>cases h2 with
  | arg h'=>exact(tf h h').elim
  | form h' hf'=>exact absurd hf hf'
  | none h' hf' hn=>exact(fn hr hn).elim
  | chg h' hf' hr' hc' he'=>obtain rfl:=hr.det hr'; exact absurd (hc'.det hf hc).2 he'
  | limit h' hf' hr' hc'=>exact⟨rfl,rfl⟩
  | ok h' hf' hr' hc' hv'=>obtain rfl:=hr.det hr'; obtain rfl:=(hc.det hf hc').1; exact(tf hv' hv).elim
 | ok h hf hr hc hv=>cases h2 with
  | arg h'=>exact(tf h h').elim
  | form h' hf'=>exact absurd hf hf'
  | none h' hf' hn=>exact(fn hr hn).elim
  | chg h' hf' hr' hc' he'=>obtain rfl:=hr.det hr'; exact absurd (hc'.det hf hc).2 he'
  | limit h' hf' hr' hc' hv'=>obtain rfl:=hr.det hr'; obtain rfl:=(hc.det hf hc').1; exact(tf hv hv').elim
  | ok h' hf' hr' hc' hv'=>obtain rfl:=hr.det hr'; obtain rfl:=(hc.det hf hc').1; exact⟨rfl,rfl⟩
def lens:List (List Nd)->Nat
 | []=>0
 | a::L=>a.length+lens L
theorem zS3 {L:List (List Nd)}{i:Nat} (h:i<L.length):lens (L.drop i)=(L[i]).length+lens (L.drop (i+1)):=by
 exact kK
theorem zXz {L:List (List Nd)} (hl:L.length<=1073741824):∀ (k i s:Nat),L.length - i<k->i<=L.length->s+lens (L.drop i)<=1073741824->zAW L k (i:Int) (s:Int)=some ((s+lens (L.drop i):Nat):Int)
 | 0,i,s,h,_,_=>by omega
 | k+1,i,s,hk,hi,hs=>by
  unfold zAW
  by_cases h:i<L.length
  ·have hd:=zS3 h;rw[zAH (Int.ofNat_lt.2 h),cond_true,zAK h]
   simp only[obs]
   rw[wrap64_in (n:=(s:Int)+((L[i]).length:Int)) (by omega) (by omega),zAE (by omega),cond_false,zAL (by omega),← Int.natCast_add,zXz hl k (i+1) _ (by omega) (by omega) (by omega),hd]
   congr 2; omega
  ·rw[zAE (by omega),cond_false]
   have:L.drop i=[]:=List.drop_eq_nil_iff.2 (by omega)
   rw[this]; rfl
theorem zXA {L:List (List Nd)} (hl:L.length<=1073741824):∀ (k i:Nat) (s:List Nd),L.length - i<k->i<=L.length->s.length+lens (L.drop i)<=1073741824->zAX L k (i:Int) s=some (s++(L.drop i).flatten)
 | 0,i,s,h,_,_=>by omega
 | k+1,i,s,hk,hi,hs=>by
  unfold zAX
  by_cases h:i<L.length
  ·have hd:=zS3 h;rw[zAH (Int.ofNat_lt.2 h),cond_true,zAK h]
   simp only[obs]
   rw[zA5 (by omega),zAL (by omega),zXA hl k (i+1) _ (by omega) (by omega) (by rw[length_append]; omega),drop_eq_getElem_cons h,flatten_cons,append_assoc]
  ·rw[zAE (by omega),cond_false]
   have:L.drop i=[]:=List.drop_eq_nil_iff.2 (by omega)
   rw[this]; simp
theorem zXB (n:Nat) (L:List (List Nd)) (hn:L.length<n) (hl:L.length<=1073741824) (hs:lens L<=1073741824):zBW n L=some L.flatten:=by
 have e1:=zXz hl n 0 0 (by omega) (by omega) (by simpa using hs)
 have e2:=zXA hl n 0 [] (by omega) (by omega) (by simpa using hs)
 rw[show((0:Nat):Int)=0 from rfl]at e1 e2;unfold zBW zEy;simp only[e1,obs,drop_zero,Nat.zero_add]
 simp only[drop_zero,nil_append]at e2;rw[zA5 ⟨by omega,by omega⟩]
 simp only[obs,e2]
theorem yA3 (n:Nat) (k:Int) (row:List Int) (p y:Nat) (m:Int) (nodes:List Nd) (slot:Int) (old text:List UInt8) (l b:List Nd) (hn:10<n) (hp:p+y<=l.length) (hl:l.length<=500000000) (hb:b.length<=500000000) :
  zAZ n ((k,row,(p:Int),m,nodes,slot,old,text),l) (y:Int) b=some (splS l p (p+y) b):=by
 unfold zAZ;dsimp only;rw[zA5 ⟨by omega,by omega,by omega⟩,wrap64_in (n:=(p:Int)+(y:Int)) (by omega) (by omega),← Int.natCast_add,zA5 ⟨by omega,by omega,by omega⟩]
 have e1:(l.take (p:Int).toNat).drop (0:Int).toNat=l.take p :=(by simp);have e2:(l.take (l.length:Int).toNat).drop ((p+y:Nat):Int).toNat=l.drop (p+y) :=(by rw[Int.toNat_natCast,Int.toNat_natCast,take_length]);rw[e1,e2,zXB n _ (by simp; omega) (by simp) (by simp only[lens,length_take,length_drop]; omega)]
 simp only[obs,splS,flatten_cons,flatten_nil,append_nil,append_assoc]
theorem zRE {it z:Nd}{s:Nat} (hl:zEI 1 l=true) (hit:it∈l) (hz:it.kids[s]? = some z):it.kind ≠ 1/\z=rowN z.kids:=by
 obtain⟨f1,f2⟩:=zGu hl hit;have hk:(it.kind == 1)=false :=(by simpa using f2);obtain⟨i1,i2,i3,i4⟩:=it;simp only[Nd.kind]at hk;simp only[Nd.kids]at hz;obtain⟨g1,g2⟩:=zGu (zKS f1) (mem_of_getElem? hz)
 rw[hk]at g2;have hz1:z.kind=1:=by
  cases e:z.kind == 1 with
  | true=>exact eq_of_beq e
  | false=>rw[e]at g2; cases g2
 exact⟨beq_eq_false_iff_ne.1 hk,(zVk g1 hz1).1⟩
theorem zSW {it:Nd} (hl:zEI 1 l=true) (hit:it∈l):it.kind ≠ 1:=by
 obtain⟨_,f2⟩:=zGu hl hit;exact beq_eq_false_iff_ne.1 (by simpa using f2)
theorem zKj  (h:zAB (rowN l)=true):zEI 1 l=true:=by
 have:=(zLm h).2;exact this
theorem zU9 (v:Nd) (h:v.kind ≠ 1):zDJ v=some (v.kids.length:Int):=by
 obtain⟨a,b,c,d⟩:=v;unfold zDJ;simp only[Nd.kind]at h;simp only[zB1 h,cond_false,Nd.kids]
theorem zGZ (n:Nat) (nodes:List Nd) (h:Nd.ws nodes+50<n) (hb:Nd.ws nodes<=67000000):zCm n nodes=some (zAB (rowN nodes)):=by
 unfold zCm;dsimp only;rw[zDj n _ (by simp only[Nd.w,length_nil]; omega) (by simp only[Nd.w,length_nil]; omega)]; rfl
theorem zSE (n:Nat) (l:List Nd) (slot:Int) (h:Nd.ws l+50<n) (hb:Nd.ws l<=67000000):∃ b,zDo n l slot=some b/\(b=true↔zSn l slot):=by
 unfold zDo;dsimp only;cases e1:((l.length:Int) != 1) with
 | true=>exact⟨false,rfl,(fun h=>by cases h),fun⟨v,s,z,h,_⟩=>by rw[h]at e1; cases e1⟩
 | false =>
  have hl:l.length=1:=by
   by_cases h:(l.length:Int)=1
   ·omega
   ·rw[bne_iff_ne.2 h]at e1; cases e1
  obtain⟨v,rfl⟩:=List.length_eq_one_iff.1 hl;have hv:=zGZ n [v] h hb;have h0:at? [v] (0:Int)=some v:=rfl;simp only[cond_false,hv,obs]
  cases hvb:zAB (rowN [v]) with
  | false=>exact⟨false,rfl,(fun h=>by cases h),fun⟨v',s,z,h,_,h2,_⟩=>by cases h; rw[hvb]at h2; cases h2⟩
  | true =>
   have hsl:=zU9 v (zSW (zKj hvb) mem_cons_self)
   obtain⟨a,b,c,d⟩:=v;simp only[Nd.kids]at hsl;simp only[Bool.not_true,cond_false]
   by_cases h1:slot<0
   ·rw[zAH h1]
    exact⟨false,rfl,(fun h=>by cases h),fun⟨v,s,z,h,hs,_⟩=>by omega⟩
   ·rw[zAE h1]
    simp only[cond_false,h0,obs,hsl]
    by_cases h2:(d.length:Int)<=slot
    ·rw[zAH h2]
     refine⟨false,rfl,(fun h=>by cases h),fun⟨v,s,z,h,hs,_,hz,_⟩=>?_⟩
     cases h;have:=(List.getElem?_eq_some_iff.1 hz).1;simp only[Nd.kids]at this
     omega
    ·rw[zAE h2]
     obtain⟨p,rfl,hp,hg⟩:=yAh (l:=d) (i:=slot) (by omega) (by omega)
     have hz:d[p]? = some d[p]:=List.getElem?_eq_getElem hp;rw[hg]
     generalize d[p]=z at hz;obtain⟨x1,x2,x3,x4⟩:=z;simp only[cond_false,obs]
     refine⟨_,rfl,fun h=>⟨_,p,_,rfl,rfl,hvb,hz,?_⟩,fun⟨v,s,z,h,hs,_,hz',hk⟩=>?_⟩
     ·have:=eq_of_beq h;exact eq_nil_of_length_eq_zero (by simp only[Nd.kids]; omega)
     ·cases h;obtain rfl:p=s :=(by omega);simp only[Nd.kids]at hz';rw[hz]at hz';cases hz';simp only[Nd.kids]at hk;subst hk
      rfl
theorem zOR (n:Nat) (k:Int) (row:List Int) (a m:Int) (nodes:List Nd) (slot:Int) (old text:List UInt8) (h:Nd.ws nodes+50<n) (hb:Nd.ws nodes<=67000000) :
  ∃ b,zEW n (k,row,a,m,nodes,slot,old,text)=some b/\(b=true↔FormP (k,row,a,m,nodes,slot,old,text)):=by
 have hv:=zGZ n nodes h hb;obtain⟨tb,t1,t2⟩:=zSE n nodes slot h hb;have hlen:decide (0<(nodes.length:Int))=true↔nodes ≠ [] :=(by cases nodes <;> simp);have hlen0:((nodes.length:Int) == 0)=true↔nodes=[] :=(by cases nodes <;> simp <;> omega);have htx:(bif (!(old == [])) then some true else some (!(text == [])):Option Bool)=some (!((old == [])&&(text == []))) :=(by cases old == [] <;> cases text == [] <;> rfl);unfold zEW;simp only[hv,t1,htx,obs,FormP]
 by_cases k12:k=1∨k=2
 ·have e:(bif (k == 1) then some (k == 1) else some (k == 2):Option Bool)=some true:=by rcases k12 with rfl | rfl <;> rfl
  have hk:¬ (k=3∨k=4)/\¬ k=5 :=(by omega);rw[e]
  simp only[obs,cond_true,k12,hk.1,hk.2,true_and,false_and,or_false]
  rw[← hlen]
  generalize decide (0<(nodes.length:Int))=b1;generalize zAB (rowN nodes)=b2;cases e1:m == 0 <;> simp only[cond_true,cond_false,obs]
  ·exact kL
  cases e2:slot == 0 <;> simp only[cond_true,cond_false,obs]
  ·exact⟨false,rfl,by simp[beq_eq_false_iff_ne.1 e2]⟩
  cases e3:old == [] <;> simp only[Bool.false_and,Bool.true_and,Bool.not_false,Bool.not_not,cond_true,cond_false,obs]
  ·exact kM
  cases e4:text == [] <;> simp only[Bool.not_true,Bool.not_false,cond_true,cond_false,obs]
  ·exact⟨false,rfl,by simp[beq_eq_false_iff_ne.1 e4]⟩
  rw[eq_of_beq e1,eq_of_beq e2,eq_of_beq e3,eq_of_beq e4]
  cases b1 <;> cases b2 <;> exact⟨_,rfl,by simp⟩
 ·have e:(bif (k == 1) then some (k == 1) else some (k == 2):Option Bool)=some false:=by
   rw[zB1 (fun h=>k12 (.inl h)),zB1 (fun h=>k12 (.inr h))]; rfl
  rw[e]
  simp only[obs,cond_false,k12,false_and,false_or]
  by_cases k34:k=3∨k=4
  ·have e:(bif (k == 3) then some (k == 3) else some (k == 4):Option Bool)=some true:=by rcases k34 with rfl | rfl <;> rfl
   have hk:¬ k=5 :=(by omega);rw[e]
   simp only[obs,cond_true,k34,hk,true_and,false_and,or_false]
   rw[← t2]
   by_cases hm:0<=m
   ·rw[zAH hm]
    simp only[cond_true]
    cases e3:old == [] <;> simp only[Bool.false_and,Bool.true_and,Bool.not_false,Bool.not_not,cond_true,cond_false,obs]
    ·exact kM
    cases e4:text == [] <;> simp only[Bool.not_true,Bool.not_false,cond_true,cond_false,obs]
    ·exact⟨false,rfl,by simp[beq_eq_false_iff_ne.1 e4]⟩
    rw[eq_of_beq e3,eq_of_beq e4]
    exact⟨_,rfl,by simp[hm]⟩
   ·rw[zAE hm]
    exact⟨false,rfl,by simp[hm]⟩
  ·have e:(bif (k == 3) then some (k == 3) else some (k == 4):Option Bool)=some false:=by
    rw[zB1 (fun h=>k34 (.inl h)),zB1 (fun h=>k34 (.inr h))]; rfl
   rw[e]
   simp only[obs,cond_false,k34,false_and,false_or]
   by_cases k5:k=5
   ·subst k5;simp only[beq_self_eq_true,cond_true,obs,true_and]
    rw[← hlen0]
    generalize ((nodes.length:Int) == 0)=b1;cases e1:m == 0 <;> simp only[cond_true,cond_false,obs]
    ·exact kL
    cases e2:slot == 0 <;> simp only[cond_true,cond_false,obs]
    ·exact⟨false,rfl,by simp[beq_eq_false_iff_ne.1 e2]⟩
    rw[eq_of_beq e1,eq_of_beq e2]
    cases b1 <;> simp only[cond_true,cond_false,obs]
    ·exact⟨false,rfl,by simp⟩
    cases e0:old == text <;> simp only[Bool.not_true,Bool.not_false]
    ·exact⟨true,rfl,by simp[beq_eq_false_iff_ne.1 e0]⟩
    ·exact⟨false,rfl,by simp[eq_of_beq e0]⟩
   ·rw[zB1 k5]
    exact⟨false,rfl,by simp[k5]⟩
theorem zXI (k:Int) (row:List Int) (a m:Int) (nodes:List Nd) (slot:Int) (old text:List UInt8) (l:List Nd) (hl:l.length<=1073741824) :
  zB8 ((k,row,a,m,nodes,slot,old,text),l)=some (if a<0∨(l.length:Int)<a∨(l.length:Int) - a<zD8 k m nodes then 2 else 0):=by
 unfold zB8;dsimp only;rw[zVx]
 simp only[obs]
 by_cases h1:a<0
 ·rw[zAH h1,if_pos (.inl h1)]; rfl
 rw[zAE h1]
 by_cases h2:(l.length:Int)<a
 ·rw[zAH h2,if_pos (.inr (.inl h2))]; rfl
 rw[zAE h2,wrap64_in (n:=(l.length:Int) - a) (by omega) (by omega)]
 by_cases h3:(l.length:Int) - a<zD8 k m nodes
 ·rw[zAH h3,if_pos (.inr (.inr h3))]; rfl
 rw[zAE h3,if_neg (fun h=>h.elim h1 fun h=>h.elim h2 h3)]; rfl
theorem zZm {v it z:Nd}{s:Nat}{y:Nd} (hv:v.kids[s]? = some y) (hy:y=rowN []) (hz:it.kids[s]? = some z) (hzr:z=rowN z.kids):Nd.mk it.kind it.text it.cols (it.kids.set s (rowN []))=v↔it=zGt v s z.kids:=by
 obtain⟨v1,v2,v3,v4⟩:=v;obtain⟨i1,i2,i3,i4⟩:=it;obtain⟨z1,z2,z3,z4⟩:=z;obtain⟨rfl,rfl,rfl,-⟩:=Nd.mk.inj hzr
 clear hzr
 simp only[Nd.kids]at hv hz;simp only[zGt,Nd.kind,Nd.text,Nd.cols,Nd.kids]
 subst hy
 constructor
 ·intro h;obtain⟨rfl,rfl,rfl,rfl⟩:=Nd.mk.inj h;rw[set_set]
  congr 1
  have:=zM1 (y:=.mk 1 [] 0 z4) hz;rw[set_set]at this;exact this.symm
 ·intro h;obtain⟨rfl,rfl,rfl,rfl⟩:=Nd.mk.inj h;rw[set_set]
  congr 1
  have:=zM1 (y:=rowN []) hv;rw[set_set]at this;exact this
theorem zNE (n:Nat) (l:List Nd) (k:Int) (row:List Int) (a m:Int) (nodes:List Nd) (slot:Int) (old text:List UInt8) (hf:FormP (k,row,a,m,nodes,slot,old,text)) (hv:zEI 1 l=true) (hn:2 * Nd.ws l+2 * Nd.ws nodes+50<n) (ha:Nd.ws l<=60000000) (hb:Nd.ws nodes<=2000000) :
  ∃ l' e,zCo n ((k,row,a,m,nodes,slot,old,text),l)=some (l',e)/\Chg l (k,row,a,m,nodes,slot,old,text) l' e:=by
 have la:=Nd.ws_len l;have lb:=Nd.ws_len nodes;have cl:=Nd.cnts_ws l;have cb:=Nd.cnts_ws nodes;have hnn:=zUx hf;unfold zCo;simp only[zXI _ _ _ _ _ _ _ _ l (show l.length<=1073741824 by omega),obs]
 by_cases hr:a<0∨(l.length:Int)<a∨(l.length:Int) - a<zD8 k m nodes
 ·rw[if_pos hr]; exact⟨[],2,rfl,.range hr⟩
 rw[if_neg hr]
 simp only[show((0:Int) != 0)=false from rfl,cond_false]
 have h1:¬ a<0:=fun h=>hr (.inl h)
 have h2:¬ (l.length:Int)<a:=fun h=>hr (.inr (.inl h))
 have h3:¬ (l.length:Int) - a<zD8 k m nodes:=fun h=>hr (.inr (.inr h))
 obtain⟨p,rfl⟩:=Int.eq_ofNat_of_zero_le (show 0<=a by omega)
 obtain⟨y,hy⟩:=Int.eq_ofNat_of_zero_le hnn;rw[hy]at h3;have hseg:=yAw l (Nat.le_add_right p y)
 have lseg:=Nd.ws_len ((l.take (p+y)).drop p)
 have cseg:=Nd.cnts_ws ((l.take (p+y)).drop p)
 have hj:∀ by':List Nd,by'.length<=500000000->zAZ n ((k,row,(p:Int),m,nodes,slot,old,text),l) (y:Int) by'=some (splS l p (p+y) by'):=fun by' hby=>yA3 n k row p y m nodes slot old text l by' (by omega) (by omega) (by omega) hby
 rcases hf with ⟨rfl | rfl,h0⟩ | ⟨rfl | rfl,hm,⟨v,s,z,rfl,rfl,hvv,hz,hzk⟩,_⟩ | ⟨rfl,h0⟩
 ·obtain rfl:y=0 :=(by have:zD8 1 m nodes=0:=rfl; omega);rw[show((0:Nat):Int)=0 from rfl]at hj;simp only[beq_self_eq_true,cond_true,zCS,hj nodes (by omega),obs]
  exact⟨_,0,rfl,.ins (by omega)⟩
 ·obtain rfl:y=nodes.length :=(by have:zD8 2 m nodes=(nodes.length:Int):=rfl; omega);obtain⟨r,g1,g2⟩:=(zHU n).2 ((l.take (p+nodes.length)).drop p) nodes (by omega) (by omega)
  simp only[show((2:Int) == 1)=false from rfl,cond_false,beq_self_eq_true,cond_true,zCT]
  rw[wrap64_in (n:=(p:Int)+(nodes.length:Int)) (by omega) (by omega),← Int.natCast_add,zA5 ⟨by omega,by omega,by omega⟩,Int.toNat_natCast,Int.toNat_natCast,g1]
  simp only[obs]
  cases r with
  | false=>exact⟨[],7,rfl,.del_no (by omega) fun e=>by have:=g2.2 e; cases this⟩
  | true =>
   simp only[Bool.not_true,cond_false,hj [] (by simp),obs]
   exact⟨_,0,rfl,.del (by omega) (g2.1 rfl)⟩
 ·obtain rfl:m=(y:Int):=hy;obtain⟨hvk,hzr⟩:=zRE (zKj hvv) mem_cons_self hz;rw[hzk]at hzr;have hv0:at? [v] (0:Int)=some v:=rfl;have hcv:=Nd.cnts_mem (mem_cons_self (a:=v) (l:=[]))
  have hd:zCW v=some v:=zA5 ⟨by omega,fun e=>by rw[e]at hz; simp at hz⟩
  have hza:=zHL hz;have hcl:zEh ((l.take (p+y)).drop p)=some ((l.take (p+y)).drop p):=zA5 (by omega)
  have hj':=hj [zGt v s ((l.take (p+y)).drop p)] (by simp)
  have hfx:zGt v s ((l.take (p+y)).drop p)=Nd.mk v.kind v.text v.cols (v.kids.set s (rowN ((l.take (p+y)).drop p))):=rfl;rw[hfx]at hj';have hC:=Chg.wrap (l:=l) (row:=row) (p:=p) (m:=y) (v:=v) (s:=s) (old:=old) (text:=text) (by omega)
  have hfx2:zGt v s (segS l p (p+y))=Nd.mk v.kind v.text v.cols (v.kids.set s (rowN ((l.take (p+y)).drop p))):=rfl;rw[hfx2]at hC;subst hzr;obtain⟨v1,v2,v3,v4⟩:=v;simp only[Nd.kind,Nd.text,Nd.cols,Nd.kids]at hza hj' hC;unfold rowN at hza;simp only[show((3:Int) == 1)=false from rfl,show((3:Int) == 2)=false from rfl,cond_false,beq_self_eq_true,cond_true,zDC,hv0,hd,obs]
  rw[wrap64_in (n:=(p:Int)+(y:Int)) (by omega) (by omega),← Int.natCast_add,zA5 ⟨by omega,by omega,by omega⟩,Int.toNat_natCast,Int.toNat_natCast,hcl]
  simp only[obs,hza,Int.toNat_natCast]
  unfold rowN at hj' hC;rw[hj']
  exact⟨_,0,rfl,hC⟩
 ·obtain rfl:y=1 :=(by have:zD8 4 m [v]=1:=rfl; omega);obtain⟨hvk,hzr⟩:=zRE (zKj hvv) mem_cons_self hz;rw[hzk]at hzr;have hv0:at? [v] (0:Int)=some v:=rfl;have hpl:p<l.length :=(by omega);have hit:l[p]? = some l[p]:=List.getElem?_eq_getElem hpl;have hia:at? l (p:Int)=some l[p]:=zAK hpl;have hmem:=getElem_mem hpl;generalize l[p]=it at hit hia hmem;have hiw:=Nd.w_mem hmem;have hic:=Nd.cnt_w it;have hik:=zSW hv hmem;have hslots:=zU9 it hik;have hdn:zA0 it=some it:=zG9 (by omega)
  have hwi:=zG3 it;have hlk4:=Nd.ws_len it.kids;simp only[show((4:Int) == 1)=false from rfl,show((4:Int) == 2)=false from rfl,show((4:Int) == 3)=false from rfl,cond_false,beq_self_eq_true,cond_true]
  have hnone:zBq ((4,row,(p:Int),m,[v],(s:Int),old,text),l)=if (it.kids.length:Int)<=(s:Int) then some ([],7) else none:=by
   unfold zBq;simp only[hia]
   by_cases h:(it.kids.length:Int)<=(s:Int)
   ·rw[if_pos h]
    obtain⟨i1,i2,i3,i4⟩:=it;simp only[Nd.kids]at h hslots;simp only[obs,hdn,hslots,zAH h]; rfl
   ·rw[if_neg h]
    obtain⟨i1,i2,i3,i4⟩:=it;simp only[Nd.kids]at h hslots;simp only[obs,hdn,hslots,zAE h]; rfl
  by_cases hsl:(it.kids.length:Int)<=(s:Int)
  ·have:zBj n ((4,row,(p:Int),m,[v],(s:Int),old,text),l)=some ([],7):=by
    unfold zBj;rw[hnone,if_pos hsl]
   rw[this]
   refine⟨[],7,rfl,.unwrap_no hit fun z' hz'=>?_⟩
   have:=(List.getElem?_eq_some_iff.1 hz').1
   omega
  have hsi:s<it.kids.length :=(by omega);have hzi:it.kids[s]? = some it.kids[s]:=List.getElem?_eq_getElem hsi;generalize it.kids[s]=z' at hzi;obtain⟨_,hzr'⟩:=zRE hv hmem hzi;have hzw:=Nd.w_mem (mem_of_getElem? hzi)
  have hzw2:=zG3 z';have hzl:=Nd.ws_len z'.kids;have hfi:=zZm hz hzr hzi hzr';have hws:=zKk (y:=rowN []) hzi;have hj':=hj z'.kids (by omega)
  rw[show((1:Nat):Int)=1 from rfl]at hj';have hcs:(Nd.mk it.kind it.text it.cols (it.kids.set s (rowN []))).cnt<=it.w+1:=by
   have h1:=Nd.cnt_w (Nd.mk it.kind it.text it.cols (it.kids.set s (rowN [])))
   have e:(rowN []).w=1:=rfl;simp only[Nd.w]at h1
   omega
  obtain⟨rb,g1,g2⟩:=(zHU n).1 (Nd.mk it.kind it.text it.cols (it.kids.set s (rowN []))) v (by omega) (by omega)
  have hdo:zCW it=some it:=zA5 ⟨by omega,fun e=>by rw[e]at hzi; simp at hzi⟩
  have hza:=zHL hzi;have hkids:∃ l' e,zBp n ((4,row,(p:Int),m,[v],(s:Int),old,text),l)=some (l',e)/\Chg l (4,row,(p:Int),m,[v],(s:Int),old,text) l' e:=by
   unfold zBp;obtain⟨i1,i2,i3,i4⟩:=it;obtain⟨v1,v2,v3,v4⟩:=v;obtain⟨z1,z2,z3,z4⟩:=z';obtain⟨rfl,rfl,rfl,-⟩:=Nd.mk.inj hzr';simp only[Nd.kind,Nd.text,Nd.cols,Nd.kids]at hza g1 hslots hj' hsl;simp only[hia,obs,hdo,hslots,zAE hsl,cond_false,hza,hv0,Int.toNat_natCast]
   by_cases hmz:(z4.length:Int)=m
   ·have:((z4.length:Int) != m)=false :=(by unfold bne; rw[beq_iff_eq.2 hmz]; rfl);unfold rowN at g1;rw[this]
    simp only[cond_false,g1,obs]
    cases rb with
    | false =>
     refine⟨[],7,rfl,.unwrap_no hit fun z'' hz'' hm'' he=>?_⟩
     rw[hzi]at hz'';cases hz'';have:=g2.2 (hfi.2 he)
     cases this
    | true =>
     simp only[Bool.not_true,cond_false,hj',obs]
     exact⟨_,0,rfl,.unwrap (z:=.mk 1 [] 0 z4) hit hzi hmz (hfi.1 (g2.1 rfl))⟩
   ·have:((z4.length:Int) != m)=true:=bne_iff_ne.2 hmz;rw[this]
    refine⟨[],7,rfl,.unwrap_no hit fun z'' hz'' hm'' he=>?_⟩
    rw[hzi]at hz'';cases hz'';exact hmz hm''
  obtain⟨l',e,h4,h5⟩:=hkids;have:zBj n ((4,row,(p:Int),m,[v],(s:Int),old,text),l)=some (l',e):=by
   unfold zBj;rw[hnone,if_neg hsl]
   exact h4
  rw[this]
  exact⟨l',e,rfl,h5⟩
 ·obtain rfl:y=1 :=(by have:zD8 5 m nodes=1:=rfl; omega);have hpl:p<l.length :=(by omega);have hit:l[p]? = some l[p]:=List.getElem?_eq_getElem hpl;have hia:at? l (p:Int)=some l[p]:=zAK hpl;generalize l[p]=it at hit hia;obtain⟨i1,i2,i3,i4⟩:=it;rw[show((1:Nat):Int)=1 from rfl]at hj;simp only[show((5:Int) == 1)=false from rfl,show((5:Int) == 2)=false from rfl,show((5:Int) == 3)=false from rfl,show((5:Int) == 4)=false from rfl,cond_false,zDY,hia,obs,zVs]
  cases hlf:zWy i1 with
  | false=>exact⟨[],7,rfl,.set_no hit fun h=>by have:=h.1; simp only[Nd.kind]at this; rw[hlf]at this; cases this⟩
  | true =>
   simp only[cond_true,obs]
   cases ht:i2 == old with
   | false=>exact⟨[],7,rfl,.set_no hit fun h=>beq_eq_false_iff_ne.1 ht h.2⟩
   | true =>
    simp only[Bool.not_true,cond_false,hj [Nd.mk i1 text i3 i4] (by simp),obs]
    exact⟨_,0,rfl,.set (it:=.mk i1 i2 i3 i4) hit hlf (eq_of_beq ht)⟩
theorem zKQ (n:Nat) (t:Nd) (o:Op8) (hn:200000000<n) (ht:t.w<=50000000) (hb:Nd.ws o.nodes<=2000000) (hx:o.2.2.2.2.2.2.2.length<=2000000):∃ t' e,zEJ n t o=some (t',e)/\App t o t' e:=by
 obtain⟨k,row,a,m,nodes,slot,old,text⟩:=o;simp only[Op8.nodes]at hb;dsimp only at hx;have v1:=zDj n t (by omega) (by omega)
 have ct:=Nd.cnt_w t;obtain⟨b,f1,f2⟩:=zOR n k row a m nodes slot old text (by omega) (by omega)
 have e1:=zUy n t row v1 (by omega)
 have hwith:∀ r l,Fd t row r->Nd.ws l<=5000000+r.w->zFf n t row (rowN l)=some (zU5 t row (rowN l)):=fun r l h hl=>by
  have hs:=h.small;have hc:(rowN l).w=Nd.ws l+1 :=(by simp[rowN,Nd.w]);refine zTa n t row (rowN l) v1 (zDj n _ (by omega) (by omega)) (fun z hz=>?_) (by omega) (by have:=Nd.cnt_w (rowN l); omega)
  obtain rfl:=h.det hz;have:=h.w (rowN l)
  exact zDj n _ (by omega) (by omega)
 obtain⟨t1,t2,t3,t4⟩:=t;unfold zEJ;simp only[v1,f1,e1,obs]
 cases hv:zAB (.mk t1 t2 t3 t4) with
 | false=>exact⟨_,1,rfl,.arg hv⟩
 | true =>
  simp only[Bool.not_true,cond_false]
  cases b with
  | false=>exact⟨_,4,rfl,.form hv fun h=>by have:=f2.2 h; cases this⟩
  | true =>
   have hf:=f2.1 rfl;simp only[Bool.not_true,cond_false,rowS,if_pos hv]
   cases hfd:zBE (.mk t1 t2 t3 t4) row with
   | none=>exact⟨_,8,rfl,.none hv hf hfd⟩
   | some r =>
    have hr':=zZl hfd;have hsm:=hr'.small;have hwr:=zG3 r;have hvr:=hr'.valid hv;have hrr:=(zLm hvr).1;have hfr:=(zLm hvr).2;obtain⟨l',e,c1,c2⟩:=zNE n r.kids k row a m nodes slot old text hf hfr (by omega) (by omega) (by omega)
    obtain⟨r1,r2,r3,r4⟩:=r;obtain⟨rfl,rfl,rfl,-⟩:=Nd.mk.inj hrr;simp only[Nd.kids]at c1 c2 hwr;simp only[obs,show((0:Int) != 0)=false from rfl,cond_false,c1]
    by_cases he:e=0
    ·subst he;have hcw:=c2.w;have hw:=hwith _ l' hr' (by omega)
     unfold rowN at hw;simp only[show((0:Int) != 0)=false from rfl,cond_false,hw,obs]
     cases hvo:zAB (putL (.mk t1 t2 t3 t4) row (rowN l')) with
     | false =>
      have hL:=App.limit (t:=.mk t1 t2 t3 t4) (o:=(k,row,a,m,nodes,slot,old,text)) hv hf hr' c2 hvo;have hws:∃ q,zU5 (.mk t1 t2 t3 t4) row (.mk 1 [] 0 l')=(zCy,q)/\q ≠ 0:=by
       unfold zU5;rw[if_pos hv,hfd]
       dsimp only
       by_cases h:zAB (.mk 1 [] 0 l')=true
       ·rw[if_pos h]
        unfold rowN at hvo;rw[hvo,if_neg (by decide)]
        exact⟨6,rfl,by decide⟩
       ·rw[if_neg h]; exact⟨4,rfl,by decide⟩
      obtain⟨q,hq,hq0⟩:=hws;rw[hq]
      have:(q != 0)=true:=bne_iff_ne.2 hq0;simp only[zCy,this,cond_true]
      exact⟨_,6,rfl,hL⟩
     | true =>
      have hO:=App.ok (t:=.mk t1 t2 t3 t4) (o:=(k,row,a,m,nodes,slot,old,text)) hv hf hr' c2 hvo;have hvl:=(hr'.put (rowN l')).valid hvo;have hws:=zZ9 (r:=rowN l') hv hfd hvl hvo;unfold rowN at hws;rw[hws]
      dsimp only at hO;unfold rowN at hO;generalize putL (Nd.mk t1 t2 t3 t4) row (Nd.mk 1 [] 0 l')=Z at *;obtain⟨q1,q2,q3,q4⟩:=Z;exact⟨_,0,rfl,hO⟩
    ·have:(e != 0)=true:=bne_iff_ne.2 he;simp only[this,cond_true]
     exact⟨_,e,rfl,.chg (t:=.mk t1 t2 t3 t4) (o:=(k,row,a,m,nodes,slot,old,text)) hv hf hr' c2 he⟩
theorem App.w {t t':Nd}{o:Op8}{e:Int} (h:App t o t' e):t'.w<=t.w+Nd.ws o.nodes+o.2.2.2.2.2.2.2.length+4:=by
 have hz:zCy.w=1:=rfl;obtain⟨k,row,a,m,nodes,slot,old,text⟩:=o;simp only[Op8.nodes]
 cases h with
 | arg=>omega
 | form=>omega
 | none=>omega
 | chg=>omega
 | limit=>omega
 | @ok r l h hf hr hc hv =>
  have h1:=hr.w (rowN l)
  have h2:=hc.w;have h3:=zG3 r;have h4:(rowN l).w=Nd.ws l+1 :=(by simp[rowN,Nd.w]);dsimp only at h1 ⊢
  omega
theorem yAF (n:Nat) (t:Nd) (o:Op8) (hn:200000000<n) (ht:t.w<=50000000) (hb:Nd.ws o.nodes<=2000000) (hx:o.text.length<=2000000) (hr:o.row.length<=2000000) :
  ∃ t' e,zEJ n t o=some (t',e)/\zEw n t o=some (t',e)/\App t o t' e:=by
 obtain⟨t1,e1,f1,g1⟩:=zKQ n t o hn ht hb hx;obtain⟨t2,e2,f2,g2⟩:=zMz n t o hn ht hb hx hr;obtain⟨rfl,rfl⟩:=g1.det g2;exact⟨_,_,f1,f2,g1⟩
inductive Runs:Nd->List Op8->Nd->Int->Prop
 | nil (t:Nd):Runs t [] t 0
 | stop {t t':Nd} {o:Op8} {ops:List Op8} {e:Int} (h:App t o t' e) (he:e ≠ 0):Runs t (o::ops) zCy e
 | next {t t' u:Nd} {o:Op8} {ops:List Op8} {e:Int} (h:App t o t' 0) (hr:Runs t' ops u e):Runs t (o::ops) u e
def endOf (f:Fl (Nd×Int×Int) (Int×List UInt8×Int×List Nd)):Nd×Int×Int:=match f with
 | .ret r=>r
 | .go (a,b,c,d)=>(.mk a b c d,0,0)
theorem zVb (n:Nat) (hn:200000000<n){ops:List Op8} (ho:∀ o∈ops,Nd.ws o.nodes+o.text.length+o.row.length<=1048576) (hl:ops.length<=12):∀ (k i:Nat) (t:Nd),ops.length - i<k->i<=ops.length->t.w<=17000000+i * 1048580 ->
  ∃ f,zBa n ops k t.kind t.text t.cols t.kids (i:Int)=some f/\zBO n ops k t.kind t.text t.cols t.kids (i:Int)=some f/\Runs t (ops.drop i) (endOf f).1 (endOf f).2.2/\(endOf f).1.w<=36000000
 | 0,i,t,h,_,_=>by omega
 | k+1,i,t,h,hi,hw=>by
  unfold zBa zBO
  by_cases hj:i<ops.length
  ·have hb:=ho _ (getElem_mem hj)
   have hd:=drop_eq_getElem_cons hj;obtain⟨t',e,g1,g2,g3⟩:=yAF n t ops[i] hn (by omega) (by omega) (by omega) (by omega)
   have hw':=g3.w;rw[zAH (Int.ofNat_lt.2 hj),zAK hj,hd]
   simp only[cond_true]
   generalize ops[i]=o at *;obtain⟨q1,q2,q3,q4,q5,q6,q7,q8⟩:=o;obtain⟨t1,t2,t3,t4⟩:=t;have ih:=zVb n hn ho hl k (i+1) t' (by omega) (by omega) (by simp only[Op8.text]at hb; dsimp only at hw' hb; simp only[Nat.add_mul]; omega)
   obtain⟨u1,u2,u3,u4⟩:=t';simp only[Nd.kind,Nd.text,Nd.cols,Nd.kids]at ih ⊢;simp only[obs,g1,g2]
   by_cases he:e=0
   ·subst he;simp only[show((0:Int) != 0)=false from rfl,cond_false,zAL (show i<9223372036854775807 by omega)]
    obtain⟨f,h1,h2,h3,h4⟩:=ih;exact⟨f,h1,h2,.next g3 h3,h4⟩
   ·have hne:(e != 0)=true:=bne_iff_ne.2 he;simp only[hne,cond_true]
    exact⟨_,rfl,rfl,.stop g3 he,by show zCy.w<=36000000; decide⟩
  ·rw[zAE (by omega),List.drop_eq_nil_iff.2 (by omega)]
   obtain⟨t1,t2,t3,t4⟩:=t;simp only[cond_false]
   refine⟨_,rfl,rfl,.nil _,?_⟩
   show(Nd.mk t1 t2 t3 t4).w<=36000000;have:i * 1048580<=12 * 1048580:=Nat.mul_le_mul_right _ (by omega)
   omega
inductive zY9 (t:Nd) (ops:List Op8):Nd->Int->Prop
 | bad (h:zAB t=false):zY9 t ops zCy 1
 | go {u:Nd} {e:Int} (h:zAB t=true) (hr:Runs t ops u e):zY9 t ops u e
theorem yBD (n:Nat) (t:Nd) (ops:List Op8) (hn:200000000<n) (ht:t.w<=17000000) (ho:∀ o∈ops,Nd.ws o.nodes+o.text.length+o.row.length<=1048576) (hl:ops.length<=12) :
  ∃ u i e,zBR n t ops=some (u,i,e)/\zDt n t ops=some (u,i,e)/\zY9 t ops u e/\u.w<=36000000:=by
 have ct:=Nd.cnt_w t;have v1:=zDj n t (by omega) (by omega)
 have v2:=zCK n t (by omega) (by omega)
 have hd:zA0 t=some t:=zG9 (by omega)
 obtain⟨f,h1,h2,h3,h4⟩:=zVb n hn ho hl n 0 t (by omega) (by omega) (by omega)
 rw[show((0:Nat):Int)=0 from rfl]at h1 h2;rw[drop_zero]at h3;obtain⟨t1,t2,t3,t4⟩:=t;simp only[Nd.kind,Nd.text,Nd.cols,Nd.kids]at h1 h2;unfold zBR zDt;simp only[v1,v2,obs,hd,h1,h2]
 cases hv:zAB (.mk t1 t2 t3 t4) with
 | false=>exact⟨_,0,1,rfl,rfl,.bad hv,by decide⟩
 | true =>
  simp only[Bool.not_true,cond_false]
  cases f with
  | ret r =>
   obtain⟨u,i,e⟩:=r;exact⟨u,i,e,rfl,rfl,.go hv h3,h4⟩
  | go g =>
   obtain⟨a,b,c,d⟩:=g;exact⟨_,0,0,rfl,rfl,.go hv h3,h4⟩
variable {p q:Nat}
theorem zYJ (l b:List Nd) (hp:p<=l.length):segS (splS l p q b) p (p+b.length)=b:=by
 have h:(l.take p).length=p :=(by rw[length_take]; omega);unfold segS splS;rw[append_assoc,take_append,take_of_length_le (by omega),h,show p+b.length - p=b.length by omega,take_left,drop_append,drop_of_length_le (by omega),h,Nat.sub_self]
 rfl
theorem zOw (l b c:List Nd) (hp:p<=l.length):splS (splS l p q b) p (p+b.length) c=splS l p q c:=by
 have h:(l.take p).length=p :=(by rw[length_take]; omega);unfold splS;have e1:((l.take p++b)++l.drop q).take p=l.take p:=by
  rw[append_assoc,take_append,h,Nat.sub_self,take_take,Nat.min_self]; simp
 have e2:((l.take p++b)++l.drop q).drop (p+b.length)=l.drop q:=by
  rw[drop_append,length_append,h,Nat.sub_self,drop_of_length_le (by rw[length_append,h]; omega)]; simp
 rw[e1,e2]
theorem zOv (l:List Nd) (hpq:p<=q):splS l p q (segS l p q)=l:=by
 unfold splS segS;have:l.take p++(l.take q).drop p=l.take q:=by
  have h:=take_append_drop p (l.take q)
  rw[take_take,Nat.min_eq_left hpq]at h;exact h
 rw[this,take_append_drop]
theorem zU1 (l b:List Nd) (hp:p<=q) (hq:q<=l.length):(splS l p q b).length+(q - p)=l.length+b.length:=by
 unfold splS;simp only[length_append,length_take,length_drop]
 omega
theorem zYI (l:List Nd) (hp:p<=q) (hq:q<=l.length):(segS l p q).length=q - p:=by
 unfold segS;simp only[length_take,length_drop]
 omega
variable {l:List Nd}
theorem yAv {it:Nd} (h:l[p]? = some it):segS l p (p+1)=[it]:=by
 exact kB
theorem zVQ (l:List Nd) (x:Nd) (hp:p<=l.length):(splS l p q [x])[p]? = some x:=by
 have h:(l.take p).length=p :=(by rw[length_take]; omega);unfold splS;rw[append_assoc,List.getElem?_append_right (by omega),h,Nat.sub_self]; rfl
theorem cnt_kids (v:Nd):v.cnt=Nd.cnts v.kids+1:=by cases v; simp only[Nd.cnt,Nd.kids]; try omega
def invO:Op8->Op8
 | (k,row,a,m,nodes,slot,old,text) =>
  (if k=1 then 2 else if k=2 then 1 else if k=3 then 4 else if k=4 then 3 else k,row,a,m,nodes,slot,if k=5 then text else old,if k=5 then old else text)
variable {o:Op8}
theorem FormP.inv  (h:FormP o):FormP (invO o):=by
 obtain⟨k,row,a,m,nodes,slot,old,text⟩:=o;rcases h with ⟨rfl | rfl,h⟩ | ⟨rfl | rfl,h⟩ | ⟨rfl,h1,h⟩
 ·exact .inl ⟨.inr rfl,h⟩
 ·exact .inl ⟨.inl rfl,h⟩
 ·exact .inr (.inl ⟨.inr rfl,h⟩)
 ·exact .inr (.inl ⟨.inl rfl,h⟩)
 ·exact .inr (.inr ⟨rfl,Ne.symm h1,h⟩)
theorem Chg.inv {l':List Nd} (hf:FormP o) (h:Chg l o l' 0):Chg l' (invO o) l 0:=by
 obtain⟨k,row,a,m,nodes,slot,old,text⟩:=o;cases h with
 | @ins _ p _ _ _ _ _ h =>
  have hl:=zU1 l nodes (Nat.le_refl p) h;have h1:=zYJ l nodes (q:=p) h;have h2:=zOw l nodes [] (q:=p) h;have h3:=zOv l (Nat.le_refl p)
  have h4:segS l p p=[] :=(by unfold segS; simp);rw[h4]at h3;have:=Chg.del (l:=splS l p p nodes) (row:=row) (p:=p) (m:=m) (nodes:=nodes) (slot:=slot) (old:=old) (text:=text) (by omega) h1;rw[h2,h3]at this;exact this
 | @del _ p _ _ _ _ _ h he =>
  have hl:=zU1 l [] (Nat.le_add_right p nodes.length) h;have h2:=zOw l [] nodes (q:=p+nodes.length) (p:=p) (by omega)
  have h3:=zOv l (Nat.le_add_right p nodes.length)
  rw[he]at h3;simp only[length_nil,Nat.add_zero]at h2;have:=Chg.ins (l:=splS l p (p+nodes.length) []) (row:=row) (p:=p) (m:=m) (nodes:=nodes) (slot:=slot) (old:=old) (text:=text) (by simp only[length_nil]at hl; omega)
  rw[h2,h3]at this;exact this
 | @wrap _ p m v s _ _ h =>
  have ht:zSn [v] (s:Int):=by
   rcases hf with ⟨h0 | h0,_⟩ | ⟨_,_,h0,_⟩ | ⟨h0,_⟩
   ·cases h0
   ·cases h0
   ·exact h0
   ·cases h0
  obtain⟨v',s',z,e1,e2,_,hz,hk⟩:=ht;cases e1;obtain rfl:=Int.ofNat.inj e2;have h1:=zVQ l (q:=p+m) (zGt v s (segS l p (p+m))) (p:=p) (by omega)
  have h2:=zOw l [zGt v s (segS l p (p+m))] (segS l p (p+m)) (q:=p+m) (p:=p) (by omega)
  rw[zOv l (Nat.le_add_right p m)]at h2;have hk2:(zGt v s (segS l p (p+m))).kids[s]? = some (rowN (segS l p (p+m))):=zMC hz;have hm:((rowN (segS l p (p+m))).kids.length:Int)=(m:Int):=by
   have:=zYI l (Nat.le_add_right p m) h;show((segS l p (p+m)).length:Int)=m
   omega
  have:=Chg.unwrap (row:=row) (v:=v) (old:=old) (text:=text) h1 hk2 hm rfl;rw[show(rowN (segS l p (p+m))).kids=segS l p (p+m) from rfl]at this;simp only[length_cons,length_nil,Nat.zero_add]at h2;rw[h2]at this;exact this
 | @unwrap _ p _ v it z s _ _ h hz hm he =>
  have hp:=(List.getElem?_eq_some_iff.1 h).1;have hl:=zU1 l z.kids (Nat.le_add_right p 1) (by omega)
  have h1:=zYJ l z.kids (q:=p+1) (p:=p) (by omega)
  have h2:=zOw l z.kids [zGt v s z.kids] (q:=p+1) (p:=p) (by omega)
  have h3:=zOv l (Nat.le_add_right p 1)
  rw[yAv h,he]at h3;rw[h3]at h2;subst hm;have:=Chg.wrap (l:=splS l p (p+1) z.kids) (row:=row) (p:=p) (m:=z.kids.length) (v:=v) (s:=s) (old:=old) (text:=text) (by omega)
  rw[h1,h2]at this;exact this
 | @set _ p _ _ it _ _ _ h hl he =>
  have hp:=(List.getElem?_eq_some_iff.1 h).1;have h1:=zVQ l (q:=p+1) (.mk it.kind text it.cols it.kids) (p:=p) (by omega)
  have h2:=zOw l [.mk it.kind text it.cols it.kids] [it] (q:=p+1) (p:=p) (by omega)
  have h3:=zOv l (Nat.le_add_right p 1)
  rw[yAv h]at h3;rw[h3]at h2;simp only[length_cons,length_nil,Nat.zero_add]at h2;have:=Chg.set (row:=row) (m:=m) (nodes:=nodes) (slot:=slot) (old:=text) (text:=old) h1 hl rfl;obtain⟨i1,i2,i3,i4⟩:=it;have he:i2=old:=he;subst he;simp only[Nd.kind,Nd.cols,Nd.kids]at this h2;rw[h2]at this;exact this
theorem zQJ (o:Op8):(invO o).2.1=o.2.1:=rfl
theorem App.inv {t t':Nd} (h:App t o t' 0):App t' (invO o) t 0/\zAB t'=true:=by
 cases h with
 | chg h hf hr hc he=>exact absurd rfl he
 | @ok r l h hf hr hc hv =>
  have hrr:=(zLm (hr.valid h)).1;have hput:=hr.put (rowN l)
  have hb:=hr.back (rowN l)
  have hci:=hc.inv hf;have:App (putL t o.2.1 (rowN l)) (invO o) (putL (putL t o.2.1 (rowN l)) (invO o).2.1 (rowN r.kids)) 0:=by
   refine App.ok hv hf.inv (r:=rowN l) (by rw[zQJ]; exact hput) hci ?_;rw[zQJ,show rowN r.kids=r from hrr.symm,hb]
   exact h
  rw[zQJ,show rowN r.kids=r from hrr.symm,hb]at this;exact⟨this,hv⟩
theorem zGM {t:Nd} (h:zAB t=true):t.kind=1/\zFz t=true/\t.cnt<=1000/\t.dep<=24:=by
 unfold zAB at h;simp only[Bool.and_eq_true,decide_eq_true_eq]at h;exact⟨eq_of_beq h.1,h.2⟩
def leP:List Int->List Int->Prop
 | [],_=>True
 | _::_,[]=>False
 | a::p,b::q=>a<b∨(a=b/\leP p q)
theorem zQM:∀ p:List Int,leP p p
 | []=>trivial
 | _::p=>.inr ⟨rfl,zQM p⟩
theorem zJ8:∀ (p:List Int){q r:List Int},leP (p++q) (p++r)↔leP q r
 | [],_,_=>Iff.rfl
 | a::p,q,r=>by
  show(a<a∨(a=a/\leP (p++q) (p++r)))↔_;rw[zJ8 p]
  exact⟨fun h=>h.elim (fun h=>by omega) (·.2),fun h=>.inr ⟨rfl,h⟩⟩
def mvL (k a n:Int) (c:Int) (slot:Int) (af:Bool):List Int->List Int
 | []=>[]
 | [i] =>
  if k=1 then (if i<a∨(i=a/\af=false) then [i] else [i+c])
  else if k=2 then (if i<=a then [i] else if i<a+c then [a] else [i - c])
  else if k=3 then (if i=a/\n=0/\af=true then [a+1] else if i<=a then [i] else if i<a+n then [a,slot,i - a] else [i - n+1])
  else if k=4 then (if i<=a then [i] else [i - 1+n])
  else [i]
 | i::s::r =>
  if k=1 then (if i<a then i::s::r else (i+c)::s::r)
  else if k=2 then (if i<a then i::s::r else if i<a+c then [a] else (i - c)::s::r)
  else if k=3 then (if i<a then i::s::r else if i<a+n then a::slot::(i - a)::s::r else (i - n+1)::s::r)
  else if k=4 then (if i<a then i::s::r else if a<i then (i - 1+n)::s::r else if s<slot then [a] else if slot<s then [a+n] else match r with | []=>[a] | j::r'=>(a+j)::r')
  else i::s::r
variable {j p:Nat}{b l:List Nd}
theorem zTI {q:Nat} (h:j<p) (hp:p<=l.length):(splS l p q b)[j]? = l[j]?:=by
 unfold splS;rw[append_assoc,List.getElem?_append_left (by rw[length_take]; omega),List.getElem?_take_of_lt h]
theorem zZZ {q:Nat} (h:j<b.length) (hp:p<=l.length):(splS l p q b)[p+j]? = b[j]?:=by
 unfold splS;have e:(l.take p).length=p :=(by rw[length_take]; omega);rw[append_assoc,List.getElem?_append_right (by rw[e]; omega),e,Nat.add_sub_cancel_left,List.getElem?_append_left h]
theorem zTH {q:Nat} (hp:p<=l.length):(splS l p q b)[p+b.length+j]? = l[q+j]?:=by
 unfold splS;have e:(l.take p++b).length=p+b.length :=(by rw[length_append,length_take]; omega);rw[List.getElem?_append_right (by rw[e]; omega),e,Nat.add_sub_cancel_left,List.getElem?_drop]
theorem zLg {q:Nat} (hp:p<=l.length) (hq:q<=l.length):(splS l p q b).length=p+b.length+(l.length - q):=by
 unfold splS;rw[length_append,length_append,length_take,length_drop]; omega
variable {q:List Int}
theorem zBA  (h:inL l q):(∃ j:Nat,q=[(j:Int)]/\j<=l.length)∨∃ (j b:Nat) (r:List Int) (x u:Nd),q=(j:Int)::(b:Int)::r/\l[j]? = some x/\x.kids[b]? = some u/\inL u.kids r:=by
 match q,h with
 | [o],h =>
  obtain⟨h1,h2⟩:=zHR.1 h;exact .inl ⟨o.toNat,by rw[Int.toNat_of_nonneg h1],by omega⟩
 | i::s::r,h =>
  obtain⟨h1,x,h2,h3,u,h4,h5⟩:=zDx.1 h;exact .inr ⟨i.toNat,s.toNat,r,x,u,by rw[Int.toNat_of_nonneg h1,Int.toNat_of_nonneg h3],h2,h4,h5⟩
theorem zDG {z:Int} (h:z=(j:Int)) (hj:j<=l.length):inL l [z]:=h ▸ zHR.2 ⟨Int.natCast_nonneg _,by omega⟩
theorem zEU {b:Nat}{r:List Int}{x u:Nd}{z:Int} (h:z=(j:Int)) (h1:l[j]? = some x) (h2:x.kids[b]? = some u) (h3:inL u.kids r):inL l (z::(b:Int)::r) :=
 h ▸ zDx.2 ⟨Int.natCast_nonneg _,x,by rwa [Int.toNat_natCast],Int.natCast_nonneg _,u,by rwa [Int.toNat_natCast],h3⟩
theorem zGv {x:Nd} (h:l[j]? = some x):j<l.length:=(List.getElem?_eq_some_iff.1 h).1
variable {old text:List UInt8}{a slot:Int}{l' nodes:List Nd}{row:List Int}
theorem kX {P:Prop} (h:P:=by exact zEU rfl (by rw[zTI (by omega) (by omega)]; exact h1) h2 h3):P:=h
theorem qC {P:Prop} (h:P:=by exact zDG rfl (by omega)):P:=h
theorem Chg.pos {k:Int}{m:Int} (h:Chg l (k,row,a,m,nodes,slot,old,text) l' 0) (af:Bool) (hf:FormP (k,row,a,m,nodes,slot,old,text)) (hq:inL l q):inL l' (mvL k a m nodes.length slot af q):=by
 cases h with
 | @ins _ p _ _ _ _ _ h =>
  have hl:=zLg (b:=nodes) h h;rcases zBA hq with ⟨j,rfl,hj⟩ | ⟨j,b,r,x,u,rfl,h1,h2,h3⟩
  ·simp only[mvL,Int.reduceEq,reduceIte]
   split
   ·exact qC
   ·exact zDG (j:=j+nodes.length) (by omega) (by omega)
  ·have hj:=zGv h1;simp only[mvL,Int.reduceEq,reduceIte]
   split
   ·exact zEU rfl (by rw[zTI (by omega) h]; exact h1) h2 h3
   ·refine zEU (j:=p+nodes.length+(j - p)) (by omega) ?_ h2 h3;rw[zTH h,show p+(j - p)=j by omega]; exact h1
 | @del _ p _ _ _ _ _ h he =>
  have hl:=zLg (l:=l) (b:=[]) (p:=p) (q:=p+nodes.length) (by omega) h;rw[length_nil]at hl;rcases zBA hq with ⟨j,rfl,hj⟩ | ⟨j,b,r,x,u,rfl,h1,h2,h3⟩
  ·simp only[mvL,Int.reduceEq,reduceIte]
   split
   ·exact qC
   ·split
    ·exact qC
    ·exact zDG (j:=j - nodes.length) (by omega) (by omega)
  ·have hj:=zGv h1;simp only[mvL,Int.reduceEq,reduceIte]
   split
   ·exact kX
   ·split
    ·exact qC
    ·refine zEU (j:=p+List.length ([]:List Nd)+(j - (p+nodes.length))) (by rw[length_nil]; omega) ?_ h2 h3;rw[zTH (by omega),show p+nodes.length+(j - (p+nodes.length))=j by omega]; exact h1
 | @wrap _ p m v s _ _ h =>
  have hs:s<v.kids.length:=by
   have:zSn [v] (s:Int):=by
    rcases hf with ⟨h0 | h0,_⟩ | ⟨_,_,h0,_⟩ | ⟨h0,_⟩
    ·cases h0
    ·cases h0
    ·exact h0
    ·cases h0
   obtain⟨v',s',z,e1,e2,_,hz,hk⟩:=this;cases e1;obtain rfl:=Int.ofNat.inj e2;exact zGv hz
  have hsl:=zYI l (Nat.le_add_right p m) h;have hl:=zLg (l:=l) (b:=[zGt v s (segS l p (p+m))]) (p:=p) (q:=p+m) (by omega) h;rw[length_singleton]at hl;have hm:(splS l p (p+m) [zGt v s (segS l p (p+m))])[p]? = some (zGt v s (segS l p (p+m))):=zVQ l _ (by omega)
  have hk:(zGt v s (segS l p (p+m))).kids[s]? = some (rowN (segS l p (p+m))):=by
   show(v.kids.set s _)[s]? = _;rw[List.getElem?_set_self hs]
  rcases zBA hq with ⟨j,rfl,hj⟩ | ⟨j,b,r,x,u,rfl,h1,h2,h3⟩
  ·simp only[mvL,Int.reduceEq,reduceIte]
   split
   ·exact zDG (j:=p+1) (by omega) (by omega)
   ·split
    ·exact qC
    ·split
     ·refine zEU rfl hm hk (zDG (j:=j - p) (by omega) ?_)
      show j - p<=(segS l p (p+m)).length
      omega
     ·exact zDG (j:=j - m+1) (by omega) (by omega)
  ·have hj:=zGv h1;simp only[mvL,Int.reduceEq,reduceIte]
   split
   ·exact kX
   ·split
    ·refine zEU rfl hm hk (zEU (j:=j - p) (by omega) ?_ h2 h3)
     show(segS l p (p+m))[j - p]? = _;unfold segS;rw[List.getElem?_drop,List.getElem?_take_of_lt (by omega),show p+(j - p)=j by omega]; exact h1
    ·refine zEU (j:=p+List.length [zGt v s (segS l p (p+m))]+(j - (p+m))) (by rw[length_singleton]; omega) ?_ h2 h3;rw[zTH (by omega),show p+m+(j - (p+m))=j by omega]; exact h1
 | @unwrap _ p _ v it z s _ _ h hz hm he =>
  have hp:=zGv h;have hl:=zLg (l:=l) (b:=z.kids) (p:=p) (q:=p+1) (by omega) (by omega)
  rcases zBA hq with ⟨j,rfl,hj⟩ | ⟨j,b,r,x,u,rfl,h1,h2,h3⟩
  ·simp only[mvL,Int.reduceEq,reduceIte]
   split
   ·exact qC
   ·exact zDG (j:=j - 1+z.kids.length) (by omega) (by omega)
  ·have hj:=zGv h1;simp only[mvL,Int.reduceEq,reduceIte]
   split
   ·exact kX
   ·split
    ·refine zEU (j:=p+z.kids.length+(j - (p+1))) (by omega) ?_ h2 h3;rw[zTH (by omega),show p+1+(j - (p+1))=j by omega]; exact h1
    ·obtain rfl:j=p :=(by omega);split
     ·exact qC
     ·split
      ·exact zDG (j:=j+z.kids.length) (by omega) (by omega)
      ·obtain rfl:b=s :=(by omega);obtain rfl:it=x:=Option.some.inj (h.symm.trans h1)
       obtain rfl:z=u:=Option.some.inj (hz.symm.trans h2)
       rcases zBA h3 with ⟨i,rfl,hi⟩ | ⟨i,b',r',x',u',rfl,g1,g2,g3⟩
       ·exact zDG (j:=j+i) (by omega) (by omega)
       ·have hi:=zGv g1;exact zEU (j:=j+i) (by omega) (by rw[zZZ hi (by omega)]; exact g1) g2 g3
 | @set _ p _ _ it _ _ _ h hl he =>
  have hp:=zGv h;have hl:=zLg (l:=l) (b:=[.mk it.kind text it.cols it.kids]) (p:=p) (q:=p+1) (by omega) (by omega)
  rw[length_singleton]at hl;rcases zBA hq with ⟨j,rfl,hj⟩ | ⟨j,b,r,x,u,rfl,h1,h2,h3⟩
  ·simp only[mvL,Int.reduceEq,reduceIte]
   exact qC
  ·have hj:=zGv h1;simp only[mvL,Int.reduceEq,reduceIte]
   by_cases hjp:j=p
   ·subst hjp;obtain rfl:it=x:=Option.some.inj (h.symm.trans h1)
    exact zEU rfl (zVQ l _ (by omega)) h2 h3
   ·by_cases hlt:j<p
    ·exact zEU rfl (by rw[zTI hlt (by omega)]; exact h1) h2 h3
    ·refine zEU (j:=p+List.length [Nd.mk it.kind text it.cols it.kids]+(j - (p+1))) (by rw[length_singleton]; omega) ?_ h2 h3;rw[zTH (by omega),show p+1+(j - (p+1))=j by omega]; exact h1
theorem zBw {b:Int}{p:List Int}:leP (a::p) (b::q)↔a<b∨(a=b/\leP p q):=Iff.rfl
theorem zGw:leP [] q↔True:=by cases q <;> exact Iff.rfl
theorem zS1 {p:List Int}:leP (a::p) []↔False:=Iff.rfl
theorem kD {P:Prop} (h:P:=by simp only[zBw]at hle; omega):P:=h
theorem Chg.mono {k:Int}{m:Int} (h:Chg l (k,row,a,m,nodes,slot,old,text) l' 0) (af:Bool){q':List Int} (hq:inL l q) (hq':inL l q') (hle:leP q q'):leP (mvL k a m nodes.length slot af q) (mvL k a m nodes.length slot af q'):=by
 cases h with
 | @ins _ p _ _ _ _ _ h =>
  rcases zBA hq with ⟨j,rfl,hj⟩ | ⟨j,b,r,x,u,rfl,h1,h2,h3⟩ <;> rcases zBA hq' with ⟨i,rfl,hi⟩ | ⟨i,c,r',y,v,rfl,g1,g2,g3⟩ <;> cases af <;> simp only[mvL,Int.reduceEq,reduceIte,and_true,or_false,and_false,reduceCtorEq] <;> (repeat' split) <;> (simp only[zBw,zGw,zS1,and_true,and_false,or_false,or_true,true_and]at hle ⊢) <;> (try omega) <;> (by_cases hL:leP r r' <;> simp only[hL,and_true,and_false,or_false,or_true]at hle⊢<;> omega)
 | @del _ p _ _ _ _ _ h he =>
  rcases zBA hq with ⟨j,rfl,hj⟩ | ⟨j,b,r,x,u,rfl,h1,h2,h3⟩ <;> rcases zBA hq' with ⟨i,rfl,hi⟩ | ⟨i,c,r',y,v,rfl,g1,g2,g3⟩ <;> simp only[mvL,Int.reduceEq,reduceIte] <;> (repeat' split) <;> (simp only[zBw,zGw,zS1,and_true,and_false,or_false,or_true,true_and]at hle ⊢) <;> (try omega) <;> (by_cases hL:leP r r' <;> simp only[hL,and_true,and_false,or_false,or_true]at hle⊢<;> omega)
 | @wrap _ p m v s _ _ h =>
  rcases zBA hq with ⟨j,rfl,hj⟩ | ⟨j,b,r,x,u,rfl,h1,h2,h3⟩ <;> rcases zBA hq' with ⟨i,rfl,hi⟩ | ⟨i,c,r',y,v,rfl,g1,g2,g3⟩ <;> cases af <;> simp only[mvL,Int.reduceEq,reduceIte,and_true,and_false,reduceCtorEq] <;> (repeat' split) <;> (simp only[zBw,zGw,zS1,and_true,and_false,or_false,or_true,true_and]at hle ⊢) <;> (try omega) <;> (by_cases hL:leP r r' <;> simp only[hL,and_true,and_false,or_false,or_true]at hle⊢<;> omega)
 | @unwrap _ p _ v it z s _ _ h hz hm he =>
  have key:∀ {j b:Nat} {r:List Int} {x u:Nd},l[j]? = some x->x.kids[b]? = some u->inL u.kids r->j=p->b=s->∃ (i:Nat) (r0:List Int),r=(i:Int)::r0/\i<=z.kids.length/\(r0 ≠ []->i<z.kids.length):=by
   rintro j b r x u h1 h2 h3 rfl rfl;obtain rfl:it=x:=Option.some.inj (h.symm.trans h1)
   obtain rfl:z=u:=Option.some.inj (hz.symm.trans h2)
   rcases zBA h3 with ⟨i,rfl,hi⟩ | ⟨i,b',r',x',u',rfl,g1,g2,g3⟩
   ·exact⟨i,[],rfl,hi,fun h=>(h rfl).elim⟩
   ·have:=zGv g1;exact⟨i,_,rfl,by omega,fun _=>this⟩
  have loc:∀ {q:List Int},inL l q->(∃ (j:Nat) (r:List Int),q=(j:Int)::r/\j<p/\mvL 4 p m [v].length s af q=q)∨(∃ (r:List Int),q=(p:Int)::r/\(r=[]∨∃ (b:Nat) (r0:List Int),r=(b:Int)::r0/\b<s)/\mvL 4 p m [v].length s af q=[(p:Int)])∨(∃ (i:Nat) (r0:List Int),q=(p:Int)::(s:Int)::(i:Int)::r0/\i<=z.kids.length/\(r0 ≠ []->i<z.kids.length)/\mvL 4 p m [v].length s af q=((p:Int)+i)::r0)∨(∃ (b:Nat) (r0:List Int),q=(p:Int)::(b:Int)::r0/\s<b/\mvL 4 p m [v].length s af q=[(p:Int)+m])∨(∃ (j:Nat) (r:List Int),q=(j:Int)::r/\p<j/\mvL 4 p m [v].length s af q=((j:Int) - 1+m)::r):=by
   intro q hq;rcases zBA hq with ⟨j,rfl,hj⟩ | ⟨j,b,r,x,u,rfl,h1,h2,h3⟩
   ·by_cases h1:p<j
    ·exact .inr (.inr (.inr (.inr ⟨j,[],rfl,h1,by simp only[mvL,Int.reduceEq,reduceIte]; rw[if_neg (by omega)]⟩)))
    ·by_cases h2:j=p
     ·subst h2;exact .inr (.inl ⟨[],rfl,.inl rfl,by simp only[mvL,Int.reduceEq,reduceIte]; rw[if_pos (by omega)]⟩)
     ·exact .inl ⟨j,[],rfl,by omega,by simp only[mvL,Int.reduceEq,reduceIte]; rw[if_pos (by omega)]⟩
   ·by_cases h4:p<j
    ·exact .inr (.inr (.inr (.inr ⟨j,_,rfl,h4,by simp only[mvL,Int.reduceEq,reduceIte]; rw[if_neg (by omega),if_pos (by omega)]⟩)))
    ·by_cases h5:j<p
     ·exact .inl ⟨j,_,rfl,h5,by simp only[mvL,Int.reduceEq,reduceIte]; rw[if_pos (by omega)]⟩
     ·obtain rfl:j=p:=by omega
      by_cases h6:b<s
      ·exact .inr (.inl ⟨_,rfl,.inr ⟨b,_,rfl,h6⟩,by simp only[mvL,Int.reduceEq,reduceIte]; rw[if_neg (by omega),if_neg (by omega),if_pos (by omega)]⟩)
      ·by_cases h7:s<b
       ·exact .inr (.inr (.inr (.inl ⟨b,_,rfl,h7,by simp only[mvL,Int.reduceEq,reduceIte]; rw[if_neg (by omega),if_neg (by omega),if_neg (by omega),if_pos (by omega)]⟩)))
       ·obtain rfl:b=s :=(by omega);obtain⟨i,r0,rfl,g1,g2⟩:=key h1 h2 h3 rfl rfl;exact .inr (.inr (.inl ⟨i,r0,rfl,g1,g2,by simp only[mvL,Int.reduceEq,reduceIte]; rw[if_neg (by omega),if_neg (by omega),if_neg (by omega),if_neg (by omega)]⟩))
  have hnil:∀ {r0:List Int} {i:Nat},(r0 ≠ []->i<z.kids.length)->i<=z.kids.length->r0=[]∨i<z.kids.length:=fun {r0 i} h h'=>by
   by_cases h0:r0=[]
   ·exact .inl h0
   ·exact .inr (h h0)
  rcases loc hq with ⟨j,r,rfl,h1,e⟩ | ⟨r,rfl,h1,e⟩ | ⟨i,r,rfl,h1,h2,e⟩ | ⟨b,r,rfl,h1,e⟩ | ⟨j,r,rfl,h1,e⟩ <;> rw[e] <;> clear e <;> rcases loc hq' with ⟨j',r',rfl,h1',e⟩ | ⟨r',rfl,h1',e⟩ | ⟨i',r',rfl,h1',h2',e⟩ | ⟨b',r',rfl,h1',e⟩ | ⟨j',r',rfl,h1',e⟩ <;> rw[e] <;> clear e
  ·exact hle
  ·exact .inl (by omega)
  ·exact .inl (by omega)
  ·exact .inl (by omega)
  ·exact .inl (by omega)
  ·exact kD
  ·exact zQM _
  ·rw[zBw,zGw,and_true]; omega
  ·rw[zBw,zGw,and_true]; omega
  ·rw[zBw,zGw,and_true]; omega
  ·exact kD
  ·rcases h1' with rfl | ⟨b',r0,rfl,h1'⟩
   ·simp only[zBw,zS1,and_false,or_false]at hle; omega
   ·exact kD
  ·simp only[zBw]at hle ⊢;rcases hle with hle | ⟨_,hle | ⟨_,hle | ⟨h5,hle⟩⟩⟩
   ·omega
   ·omega
   ·exact .inl (by omega)
   ·exact .inr ⟨by omega,hle⟩
  ·rcases hnil h2 h1 with rfl | h3
   ·rw[zBw,zGw,and_true]; omega
   ·exact .inl (by omega)
  ·rcases hnil h2 h1 with rfl | h3
   ·rw[zBw,zGw,and_true]; omega
   ·exact .inl (by omega)
  ·exact kD
  ·rcases h1' with rfl | ⟨b',r0,rfl,h1'⟩
   ·simp only[zBw,zS1,and_false,or_false]at hle; omega
   ·exact kD
  ·exact kD
  ·exact zQM _
  ·rw[zBw,zGw,and_true]; omega
  ·exact kD
  ·exact kD
  ·exact kD
  ·exact kD
  ·simp only[zBw]at hle ⊢;rcases hle with hle | ⟨h5,hle⟩
   ·exact .inl (by omega)
   ·exact .inr ⟨by omega,hle⟩
 | @set _ p _ _ it _ _ _ h hl he =>
  rcases zBA hq with ⟨j,rfl,hj⟩ | ⟨j,b,r,x,u,rfl,h1,h2,h3⟩ <;> rcases zBA hq' with ⟨i,rfl,hi⟩ | ⟨i,c,r',y,v,rfl,g1,g2,g3⟩ <;> simp only[mvL,Int.reduceEq,reduceIte] <;> exact hle
theorem jU {P:Prop} (h:P:=by rw[zA5 (by simp only[length_take,length_cons,length_nil]; omega),zAL (show i<9223372036854775807 by omega),ih]):P:=h
theorem kE {P:Prop} (h:P:=by rw[zAE (by omega),cond_false,take_of_length_le (by omega)]):P:=h
theorem zPM (n:Nat){l:List Nd} (hb:Nd.cnts l<=16777216):∀ (k i:Nat),l.length - i<k->i<=l.length->zBG l k (i:Int) (l.take i)=some l
 | 0,i,h,_=>by omega
 | k+1,i,h,hi=>by
  have hlen:=Nd.cnts_len l;unfold zBG
  by_cases hj:i<l.length
  ·have hm:=Nd.cnts_mem (getElem_mem hj)
   have hd:zA0 l[i]=some l[i]:=zG9 (by omega)
   have ht:l.take i++[l[i]]=l.take (i+1) :=(by rw[take_append_getElem hj]);rw[zAH (Int.ofNat_lt.2 hj),cond_true,zAK hj]
   have ih:=zPM n hb k (i+1) (by omega) (by omega)
   rw[← ht]at ih;generalize l[i]=v at *;obtain⟨v1,v2,v3,v4⟩:=v;simp only[obs,hd]
   exact jU
  ·exact kE
theorem zXa (n:Nat) (o:Op8) (hn:Nd.cnts o.nodes<n) (hb:Nd.cnts o.nodes<=16777216) (hr:o.row.length<=16777216):zCd n o=some (invO o):=by
 obtain⟨k,row,a,m,nodes,slot,old,text⟩:=o;simp only[Op8.nodes,Op8.row]at hn hb hr;have hlen:=Nd.cnts_len nodes;have h1:zAP row=some row:=zA5 (by omega)
 have h2:=zPM n hb n 0 (by omega) (by omega)
 rw[show((0:Nat):Int)=0 from rfl,take_zero]at h2;unfold zCd zFD zDI zFC;simp only[h1,h2,obs]
 unfold invO;dsimp only
 by_cases k1:k=1
 ·subst k1; rfl
 by_cases k2:k=2
 ·subst k2; rfl
 by_cases k3:k=3
 ·subst k3; rfl
 by_cases k4:k=4
 ·subst k4; rfl
 by_cases k5:k=5
 ·subst k5; rfl
 rw[zB1 k1,zB1 k2,zB1 k3,zB1 k4,zB1 k5,if_neg k1,if_neg k2,if_neg k3,if_neg k4,if_neg k5,if_neg k5]
 rfl
theorem zZN (l:List Op8){i:Nat} (hi:i<l.length):(l.map invO).reverse.take i++[invO l[l.length - 1 - i]]=(l.map invO).reverse.take (i+1):=by
 have hlen:i<(l.map invO).reverse.length :=(by simpa using hi);rw[← take_append_getElem hlen]
 congr 2
 rw[getElem_reverse,getElem_map]
 congr 2
 simp only[length_map]
theorem zJw (n:Nat){ops:List Op8} (ho:∀ o∈ops,zCd n o=some (invO o)) (hl:ops.length<=4294967296):∀ i,i<=ops.length->zBb n ops i=some ((ops.map invO).reverse.take i)
 | 0,_=>by rw[take_zero]; rfl
 | i+1,hi=>by
  have hj:ops.length - 1 - i<ops.length :=(by omega);unfold zBb;rw[zJw n ho hl i (by omega),List.getElem?_eq_getElem hj]
  simp only[obs,ho _ (getElem_mem hj)]
  rw[zA5 (by simp only[length_take,length_reverse,length_map]; omega),zZN ops (by omega)]
variable {ops:List Op8}
theorem zRM (n:Nat) (ho:∀ o∈ops,zCd n o=some (invO o)) (hl:ops.length<=4294967296):zCA n ops=some (ops.map invO).reverse:=by
 unfold zCA;dsimp only;rw[zA5 hl,zJw n ho hl _ (Nat.le_refl _),take_of_length_le (by simp)]
variable {t u:Nd}
theorem Runs.app {v:Nd}{a b:List Op8}{e:Int} (h:Runs t a u 0) (h2:Runs u b v e):Runs t (a++b) v e:=by
 generalize hz:(0:Int)=z at h
 induction h with
 | nil t=>exact h2
 | stop h he=>exact absurd hz.symm he
 | next h hr ih=>exact .next h (ih h2 hz)
theorem Runs.back  (h:Runs t ops u 0) (hv:zAB t=true):Runs u (ops.map invO).reverse t 0/\zAB u=true:=by
 generalize hz:(0:Int)=z at h
 induction h with
 | nil t=>exact⟨.nil t,hv⟩
 | stop h he=>exact absurd hz.symm he
 | next h hr ih =>
  subst hz;obtain⟨h1,h2⟩:=h.inv;obtain⟨h3,h4⟩:=ih h2 rfl;rw[map_cons,reverse_cons]
  exact⟨h3.app (.next h1 (.nil _)),h4⟩
theorem Runs.det {u':Nd}{e e':Int} (h:Runs t ops u e) (h':Runs t ops u' e'):u=u'/\e=e':=by
 induction h generalizing u' e' with
 | nil t=>cases h'; exact⟨rfl,rfl⟩
 | stop h he =>
  cases h' with
  | stop g hg=>exact⟨rfl,(h.det g).2⟩
  | next g hr=>exact absurd (h.det g).2 he
 | next h hr ih =>
  cases h' with
  | stop g hg=>exact absurd (h.det g).2.symm hg
  | next g hr' =>
   obtain⟨rfl,_⟩:=h.det g;exact ih hr'
def mapR (f:List Int->List Int):List Int->List Int->List Int
 | i::s::p,j::b::q=>if i=j/\s=b then j::b::mapR f p q else j::b::q
 | [],q=>f q
 | _,q=>q
def mapO (af:Bool):Op8->List Int->List Int
 | (k,row,a,m,nodes,slot,_,_),q=>mapR (mvL k a m nodes.length slot af) row q
variable {q:List Int}{f:List Int->List Int}
theorem zMX:mapR f [] q=f q:=by cases q <;> rfl
variable {p:List Int}
theorem zQQ {i s o:Int}:mapR f (i::s::p) [o]=[o]:=rfl
theorem zHT {i s j b:Int}:mapR f (i::s::p) (j::b::q)=if i=j/\s=b then j::b::mapR f p q else j::b::q:=rfl
variable {t:Nd}
theorem zVw {z:Nd} (h:Fd t p z){l:List Nd} (hf:∀ q,inL z.kids q->inL l (f q)):∀ q,inL t.kids q->inL (putL t p (rowN l)).kids (mapR f p q):=by
 induction h with
 | nil t=>intro q hq; rw[zGG,zMX]; exact hf q hq
 | @step k tx c ks i k2 tx2 c2 ks2 s z r p hi hs _ ih =>
  intro q hq;rw[zEa hi hs]
  show inL (ks.set i _) _;rcases zBA (l:=ks) hq with ⟨j,rfl,hj⟩ | ⟨j,b,r,x,u,rfl,h1,h2,h3⟩
  ·rw[zQQ]
   exact zDG rfl (by rw[length_set]; exact hj)
  ·rw[zHT]
   by_cases hij:i=j
   ·subst hij;obtain rfl:x = .mk k2 tx2 c2 ks2:=Option.some.inj (h1.symm.trans hi)
    by_cases hsb:s=b
    ·subst hsb;obtain rfl:u=z:=Option.some.inj (h2.symm.trans hs)
     rw[if_pos ⟨rfl,rfl⟩]
     exact zEU rfl (zMC hi) (zMC hs) (ih hf r h3)
    ·rw[if_neg (by omega)]
     refine zEU rfl (zMC hi) ?_ h3;show(ks2.set s _)[b]? = _;rw[List.getElem?_set,if_neg hsb]; exact h2
   ·rw[if_neg (by omega)]
    exact zEU rfl (by rw[List.getElem?_set,if_neg hij]; exact h1) h2 h3
theorem zXZ {z:Nd} (h:Fd t p z) (hf:∀ q q',inL z.kids q->inL z.kids q'->leP q q'->leP (f q) (f q')):∀ q q',inL t.kids q->inL t.kids q'->leP q q'->leP (mapR f p q) (mapR f p q'):=by
 induction h with
 | nil t=>intro q q' hq hq' hle; rw[zMX,zMX]; exact hf q q' hq hq' hle
 | @step k tx c ks i k2 tx2 c2 ks2 s z r p hi hs _ ih =>
  intro q q' hq hq' hle;rcases zBA (l:=ks) hq with ⟨j,rfl,hj⟩ | ⟨j,b,r,x,u,rfl,h1,h2,h3⟩ <;> rcases zBA (l:=ks) hq' with ⟨j',rfl,hj'⟩ | ⟨j',b',r',x',u',rfl,h1',h2',h3'⟩
  ·exact hle
  ·rw[zQQ,zHT]
   split
   ·exact hle.imp id (fun h=>⟨h.1,trivial⟩)
   ·exact hle
  ·rw[zQQ,zHT]
   split
   ·exact hle.imp id (fun h=>⟨h.1,h.2.elim⟩)
   ·exact hle
  ·rw[zHT,zHT]
   by_cases h4:(i:Int)=j/\(s:Int)=b
   ·by_cases h5:(i:Int)=j'/\(s:Int)=b'
    ·rw[if_pos h4,if_pos h5]
     obtain rfl:i=j :=(by omega);obtain rfl:s=b :=(by omega);obtain rfl:i=j' :=(by omega);obtain rfl:s=b' :=(by omega);obtain rfl:x = .mk k2 tx2 c2 ks2:=Option.some.inj (h1.symm.trans hi)
     obtain rfl:u=z:=Option.some.inj (h2.symm.trans hs)
     obtain rfl:x' = .mk k2 tx2 c2 ks2:=Option.some.inj (h1'.symm.trans hi)
     obtain rfl:u'=u:=Option.some.inj (h2'.symm.trans hs)
     exact(zJ8 [(i:Int),(s:Int)]).2 (ih hf r r' h3 h3' ((zJ8 [(i:Int),(s:Int)]).1 hle))
    ·rw[if_pos h4,if_neg h5]
     simp only[zBw]at hle ⊢;rcases hle with hle | ⟨e,hle | ⟨e',_⟩⟩
     ·exact .inl hle
     ·exact .inr ⟨e,.inl hle⟩
     ·omega
   ·by_cases h5:(i:Int)=j'/\(s:Int)=b'
    ·rw[if_neg h4,if_pos h5]
     simp only[zBw]at hle ⊢;rcases hle with hle | ⟨e,hle | ⟨e',_⟩⟩
     ·exact .inl hle
     ·exact .inr ⟨e,.inl hle⟩
     ·omega
    ·rw[if_neg h4,if_neg h5]; exact hle
theorem App.maps {u:Nd}{o:Op8} (h:App t o u 0) (af:Bool):(∀ q,inL t.kids q->inL u.kids (mapO af o q))/\(∀ q q',inL t.kids q->inL t.kids q'->leP q q'->leP (mapO af o q) (mapO af o q')):=by
 cases h with
 | chg h hf hr hc he=>exact(he rfl).elim
 | ok h hf hr hc hv =>
  obtain⟨k,row,a,m,nodes,slot,old,text⟩:=o;exact⟨zVw hr (fun q hq=>hc.pos af hf hq),zXZ hr (fun q q' hq hq' hle=>hc.mono af hq hq' hle)⟩
def zNV (af:Bool) (ops:List Op8) (q:List Int):List Int:=ops.foldl (fun q o=>mapO af o q) q
theorem Runs.maps {u:Nd}{ops:List Op8}{e:Int} (h:Runs t ops u e) (he:e=0) (af:Bool):(∀ q,inL t.kids q->inL u.kids (zNV af ops q))/\(∀ q q',inL t.kids q->inL t.kids q'->leP q q'->leP (zNV af ops q) (zNV af ops q')):=by
 induction h with
 | nil t=>exact⟨fun q hq=>hq,fun q q' _ _ h=>h⟩
 | stop h he'=>exact(he' he).elim
 | @next t t' u o ops e h hr ih =>
  obtain⟨h1,h2⟩:=h.maps af;obtain⟨h3,h4⟩:=ih he;exact⟨fun q hq=>h3 _ (h1 q hq),fun q q' hq hq' hle=>h4 _ _ (h1 q hq) (h1 q' hq') (h2 q q' hq hq' hle)⟩
def opw (o:Op8):Nat:=Nd.ws o.nodes+o.text.length+4
def sw:List Op8->Nat
 | []=>0
 | o::l=>opw o+sw l
theorem zYN:∀ l:List Op8,4 * l.length<=sw l
 | []=>Nat.zero_le _
 | o::l=>by
  have:=zYN l;simp only[length_cons,sw,opw]
  omega
theorem zSJ (n:Nat) (hn:200000000<n){ops:List Op8} (hl:ops.length<=10000000) (ho:∀ o∈ops,opw o<=1900000):∀ (k i:Nat) (t:Nd),ops.length - i<k->i<=ops.length->t.w+sw (ops.drop i)<=40000000 ->
  ∃ f,zBa n ops k t.kind t.text t.cols t.kids (i:Int)=some f/\Runs t (ops.drop i) (endOf f).1 (endOf f).2.2/\((endOf f).2.2=0->(endOf f).2.1=0)
 | 0,i,t,h,_,_=>by omega
 | k+1,i,t,h,hi,hw=>by
  unfold zBa
  by_cases hj:i<ops.length
  ·have hd:=drop_eq_getElem_cons hj;have hs:=ho _ (getElem_mem hj)
   rw[hd]at hw;simp only[sw]at hw;unfold opw at hw hs;obtain⟨t',e,g1,g3⟩:=zKQ n t ops[i] hn (by omega) (by omega) (by simp only[Op8.text]at hs; omega)
   have hw':=g3.w;rw[zAH (Int.ofNat_lt.2 hj),zAK hj,hd]
   simp only[cond_true]
   generalize ops[i]=o at *;obtain⟨q1,q2,q3,q4,q5,q6,q7,q8⟩:=o;obtain⟨t1,t2,t3,t4⟩:=t;have ih:=zSJ n hn hl ho k (i+1) t' (by omega) (by omega) (by simp only[Op8.text]at hw; dsimp only at hw' hw; omega)
   obtain⟨u1,u2,u3,u4⟩:=t';simp only[Nd.kind,Nd.text,Nd.cols,Nd.kids]at ih ⊢;simp only[obs,g1]
   by_cases he:e=0
   ·subst he;simp only[show((0:Int) != 0)=false from rfl,cond_false,zAL (show i<9223372036854775807 by omega)]
    obtain⟨f,h1,h3,h4⟩:=ih;exact⟨f,h1,.next g3 h3,h4⟩
   ·have hne:(e != 0)=true:=bne_iff_ne.2 he;simp only[hne,cond_true]
    exact⟨_,rfl,.stop g3 he,fun h=>absurd h he⟩
  ·rw[zAE (by omega),List.drop_eq_nil_iff.2 (by omega)]
   obtain⟨t1,t2,t3,t4⟩:=t;simp only[cond_false]
   exact⟨_,rfl,.nil _,fun _=>rfl⟩
theorem yAS (n:Nat) (t:Nd) (ops:List Op8) (hn:200000000<n) (hw:t.w+sw ops<=40000000) (ho:∀ o∈ops,opw o<=1900000) :
  ∃ u i e,zBR n t ops=some (u,i,e)/\zY9 t ops u e/\(e=0->i=0):=by
 have ct:=Nd.cnt_w t;have sl:=zYN ops;have v1:=zDj n t (by omega) (by omega)
 have hd:zA0 t=some t:=zG9 (by omega)
 obtain⟨f,h1,h3,h4⟩:=zSJ n hn (ops:=ops) (by omega) ho n 0 t (by omega) (by omega) (by rw[drop_zero]; exact hw)
 rw[show((0:Nat):Int)=0 from rfl]at h1;rw[drop_zero]at h3;obtain⟨t1,t2,t3,t4⟩:=t;simp only[Nd.kind,Nd.text,Nd.cols,Nd.kids]at h1;unfold zBR;simp only[v1,obs,hd,h1]
 cases hv:zAB (.mk t1 t2 t3 t4) with
 | false=>exact⟨_,0,1,rfl,.bad hv,fun h=>by cases h⟩
 | true =>
  simp only[Bool.not_true,cond_false]
  cases f with
  | ret r =>
   obtain⟨u,i,e⟩:=r;exact⟨u,i,e,rfl,.go hv h3,h4⟩
  | go g =>
   obtain⟨a,b,c,d⟩:=g;exact⟨_,0,0,rfl,.go hv h3,fun _=>rfl⟩
theorem zHD {v:Nd}:v.w=v.text.length+Nd.ws v.kids+1:=by cases v; rfl
theorem zZ2 {k:Int}{t:List UInt8} (h:zTM k t=true):t.length<=200:=by
 unfold zTM at h
 by_cases k2:k=2
 ·rw[if_pos k2]at h;unfold symB at h
  by_cases h1:t.length=1
  ·omega
  ·rw[if_neg h1]at h;simp only[Bool.and_eq_true,decide_eq_true_eq]at h
   omega
 rw[if_neg k2]at h
 by_cases k3:k=3
 ·rw[if_pos k3]at h;unfold numB at h;simp only[Bool.and_eq_true,decide_eq_true_eq]at h
  omega
 rw[if_neg k3]at h
 by_cases k4:k=4
 ·rw[if_pos k4]at h;simp only[Bool.and_eq_true,decide_eq_true_eq]at h;exact h.1
 rw[if_neg k4]at h
 by_cases k10:k=10
 ·rw[if_pos k10]at h;obtain⟨e,he,h2⟩:=List.any_eq_true.1 h;rw[← eq_of_beq h2]
  have:∀ e∈acL,e.length<=200 :=(by decide);exact this e he
 rw[if_neg k10]at h
 by_cases k11:k=11
 ·rw[if_pos k11]at h;unfold fenB at h;simp only[Bool.and_eq_true,decide_eq_true_eq]at h
  omega
 rw[if_neg k11]at h;rw[eq_of_beq h]
 exact Nat.zero_le _
mutual
theorem yAn:∀ t:Nd,zFz t=true->t.w+1<=202 * t.cnt
 | .mk k t c ks,h=>by
  simp only[zFz,Bool.and_eq_true]at h
  have h1:=zZ2 h.1.1
  have h2:=zXM ks k h.2
  simp only[Nd.w,Nd.cnt]
  omega
theorem zXM:∀ (l:List Nd) (k:Int),zEI k l=true->Nd.ws l<=202 * Nd.cnts l
 | [],_,_=>Nat.zero_le _
 | v::l,k,h=>by
  simp only[zEI,Bool.and_eq_true]at h
  have h1:=yAn v h.1.2
  have h2:=zXM l k h.2
  simp only[Nd.ws,Nd.cnts]
  omega
end
theorem zFS {t:Nd} (h:zAB t=true):t.w<=202000:=by
 obtain⟨k,f,c,d⟩:=zGM h;have:=yAn t f
 omega
structure OSmall (l:List Op8):Prop where
 size:sw l<=20000000
 op:∀ o∈l,opw o<=1900000
 isize:sw (l.map invO)<=20000000
 oi:∀ o∈l,opw (invO o)<=1900000
 row:∀ o∈l,o.row.length<=16777216
variable {l:List Op8}
theorem OSmall.len  (h:OSmall l):l.length<=5000000:=by
 have:=zYN l;have:=h.size
 omega
theorem OSmall.cnt  (h:OSmall l):∀ o∈l,Nd.cnts o.nodes<=1900000:=fun o ho=>by
 have h1:=h.op o ho;have h2:=Nd.cnts_ws o.nodes;unfold opw at h1
 omega
theorem OSmall.apply  (h:OSmall l) (n:Nat){t:Nd} (hn:200000000<n) (hv:zAB t=true):∃ u i e,zBR n t l=some (u,i,e)/\Runs t l u e/\(e=0->i=0):=by
 have hw:=zFS hv;have h1:=h.size;obtain⟨u,i,e,g1,g2,g3⟩:=yAS n t l hn (by omega) h.op;cases g2 with
 | bad g=>rw[hv]at g; cases g
 | go _ g=>exact⟨u,i,e,g1,g,g3⟩
abbrev Cur:=List Int×List Int
abbrev Rc:=List Op8×Cur×Cur
abbrev Hs:=Nd×Nd×List Rc×Int
theorem zIz {l:List Nd} (hb:Nd.cnts l<=16777216):∀ (k i:Nat),l.length - i<k->i<=l.length->zBG l k (i:Int) (l.take i)=some l
 | 0,i,h,_=>by omega
 | k+1,i,h,hi=>by
  have hlen:=Nd.cnts_len l;unfold zBG
  by_cases hj:i<l.length
  ·have hm:=Nd.cnts_mem (getElem_mem hj)
   have hd:zA0 l[i]=some l[i]:=zG9 (by omega)
   have ht:l.take i++[l[i]]=l.take (i+1) :=(by rw[take_append_getElem hj]);rw[zAH (Int.ofNat_lt.2 hj),cond_true,zAK hj]
   have ih:=zIz hb k (i+1) (by omega) (by omega)
   rw[← ht]at ih;generalize l[i]=v at *;obtain⟨v1,v2,v3,v4⟩:=v;simp only[obs,hd]
   exact jU
  ·exact kE
theorem zWv (n:Nat) (o:Op8) (hn:Nd.cnts o.nodes<n) (hb:Nd.cnts o.nodes<=16777216) (hr:o.row.length<=16777216):zFD n o=some o:=by
 obtain⟨k,row,a,m,nodes,slot,old,text⟩:=o;simp only[Op8.nodes,Op8.row]at hn hb hr;have hlen:=Nd.cnts_len nodes;have h1:zAP row=some row:=zA5 (by omega)
 have h2:=zIz hb n 0 (by omega) (by omega)
 rw[show((0:Nat):Int)=0 from rfl,take_zero]at h2;unfold zFD zDI zFC;simp only[h1,h2,obs]
theorem zKU (n:Nat){l:List Op8} (ho:∀ o∈l,zFD n o=some o) (hl:l.length<=1073741824):∀ (k i:Nat),l.length - i<k->i<=l.length->zDb n l k (i:Int) (l.take i)=some l
 | 0,i,h,_=>by omega
 | k+1,i,h,hi=>by
  unfold zDb
  by_cases hj:i<l.length
  ·have hd:=ho _ (getElem_mem hj)
   have ht:l.take i++[l[i]]=l.take (i+1) :=(by rw[take_append_getElem hj]);rw[zAH (Int.ofNat_lt.2 hj),cond_true,zAK hj]
   have ih:=zKU n ho hl k (i+1) (by omega) (by omega)
   rw[← ht]at ih;generalize l[i]=v at *;obtain⟨v1,v2,v3,v4,v5,v6,v7,v8⟩:=v;simp only[obs,hd]
   exact jU
  ·exact kE
theorem zJI (c:Cur) (h1:c.1.length<=1073741824) (h2:c.2.length<=1073741824):zCE c=some c:=by
 obtain⟨p,q⟩:=c;have e1:zAP p=some p:=zA5 (by dsimp only at h1; omega)
 have e2:zAP q=some q:=zA5 (by dsimp only at h2; omega)
 unfold zCE zDI;simp only[e1,e2,obs]
structure RSmall (r:Rc):Prop where
 ops:OSmall r.1
 b1:r.2.1.1.length<=16777216
 b2:r.2.1.2.length<=16777216
 a1:r.2.2.1.length<=16777216
 a2:r.2.2.2.length<=16777216
variable {r:Rc}
theorem RSmall.before  (h:RSmall r):zCE r.2.1=some r.2.1:=zJI _ (by have:=h.b1; omega) (by have:=h.b2; omega)
theorem RSmall.after  (h:RSmall r):zCE r.2.2=some r.2.2:=zJI _ (by have:=h.a1; omega) (by have:=h.a2; omega)
theorem RSmall.copy  (h:RSmall r) (n:Nat) (hn:200000000<n):zDc n r=some r:=by
 have h2:=h.before;have h3:=h.after;have hl:=h.ops.len;have h1:=zKU n (l:=r.1) (fun o ho=>by
  have g1:=h.ops.cnt o ho;have g2:=h.ops.row o ho;exact zWv n o (by omega) (by omega) (by omega)) (by omega) n 0 (by omega) (Nat.zero_le _)
 rw[show((0:Nat):Int)=0 from rfl,take_zero]at h1;obtain⟨a,⟨b1,b2⟩,⟨c1,c2⟩⟩:=r;dsimp only at h1 h2 h3;unfold zDc zI7;simp only[h1,h2,h3,obs]
theorem zW4 {t:Nd} (h:zAB t=true):zA0 t=some t:=by
 have h1:=zFS h;have h2:=Nd.cnt_w t;exact zG9 (by omega)
structure HInv (h:Hs) (ts:List Nd):Prop where
 len:ts.length=h.2.2.1.length+1
 orig:ts[0]? = some h.1
 valid:∀ t∈ts,zAB t=true
 step:∀ (i:Nat) (r:Rc),h.2.2.1[i]? = some r->∃ t u,ts[i]? = some t/\ts[i+1]? = some u/\Runs t r.1 u 0
 small:∀ r∈h.2.2.1,RSmall r
 lim:h.2.2.1.length<=1000
structure HAt (h:Hs) (ts:List Nd) (j:Nat):Prop where
 inv:HInv h ts
 done:h.2.2.2=(j:Int)
 le:j<=h.2.2.1.length
 tree:ts[j]? = some h.2.1
variable {ts:List Nd}{h:Hs}
theorem HAt.vtree {j:Nat} (a:HAt h ts j):zAB h.2.1=true:=a.inv.valid _ (mem_of_getElem? a.tree)
theorem yBw (n:Nat){t:Nd} (hn:200000000<n) (ht:t.w<=16777216):zEX n t=some (bif zAB t then (some (t,t,[],0),0) else (none,1))/\(zAB t=true->HAt (t,t,[],0) [t] 0):=by
 have v:=zDj n t (by omega) (by omega)
 have ct:=Nd.cnt_w t;have hd:zA0 t=some t:=zG9 (by omega)
 refine⟨?_,fun hv=>⟨⟨rfl,rfl,fun u hu=>by rw[List.mem_singleton.1 hu]; exact hv,fun i r h=>by simp at h,fun r h=>by simp at h,Nat.zero_le _⟩,rfl,Nat.le_refl _,rfl⟩⟩
 obtain⟨t1,t2,t3,t4⟩:=t;unfold zEX;simp only[v,hd,obs]
 cases zAB (.mk t1 t2 t3 t4) <;> rfl
theorem zXm  (hv:zAB h.2.1=true):zBo h=some (h.2.1,h):=by
 have hd:=zW4 hv;obtain⟨⟨a1,a2,a3,a4⟩,⟨b1,b2,b3,b4⟩,rs,d⟩:=h;dsimp only at hd;unfold zBo;simp only[hd,obs]
theorem yCe (n:Nat){j:Nat} (a:HAt h ts j) (hr:RSmall r) (hn:200000000<n) (hj:j<1000):∃ u e,Runs h.2.1 r.1 u e /\
  ((e ≠ 0/\zBk n h r=some (e,h))∨(e=0/\zBk n h r=some (0,(h.1,u,h.2.2.1.take j++[r],((j+1:Nat):Int)))/\HAt (h.1,u,h.2.2.1.take j++[r],((j+1:Nat):Int)) (ts.take (j+1)++[u]) (j+1))):=by
 obtain⟨u,i,e,g1,g2,g3⟩:=hr.ops.apply n hn a.vtree;refine⟨u,e,g2,?_⟩
 by_cases he:e=0
 ·subst he;refine .inr ⟨rfl,?_,?_⟩
  ·have hd:=a.done;have hle:=a.le;have hc:=hr.copy n hn;obtain⟨⟨a1,a2,a3,a4⟩,⟨b1,b2,b3,b4⟩,rs,d⟩:=h;obtain⟨ops,⟨c1,c2⟩,⟨c3,c4⟩⟩:=r;obtain⟨u1,u2,u3,u4⟩:=u;dsimp only at hd hle g1 hc ⊢;subst hd;unfold zBk;simp only[g1,obs,show((0:Int) != 0)=false from rfl,cond_false]
   rw[zAE (by omega),cond_false,zA5 ⟨by omega,by omega⟩,hc]
   simp only[obs,Int.toNat_natCast]
   rw[zA5 (by simp only[length_take,length_cons,length_nil]; omega),zAL (by omega)]
  ·have hle:=a.le;have hlen:=a.inv.len;have hlt:(h.2.2.1.take j).length=j :=(by rw[length_take]; omega);have hl2:(ts.take (j+1)).length=j+1 :=(by rw[length_take]; omega);have g0:∀ i,i<=j->(ts.take (j+1)++[u])[i]? = ts[i]?:=fun i hi=>by
    rw[List.getElem?_append_left (by omega),List.getElem?_take,if_pos (by omega)]
   have gl:(ts.take (j+1)++[u])[j+1]? = some u:=by
    rw[List.getElem?_append_right (by omega),hl2,Nat.sub_self]; rfl
   refine⟨⟨?_,?_,?_,?_,?_,?_⟩,rfl,?_,gl⟩
   ·simp only[length_append,length_cons,length_nil,hlt,hl2]
   ·rw[g0 0 (Nat.zero_le _)]; exact a.inv.orig
   ·intro t ht;rcases List.mem_append.1 ht with ht | ht
    ·exact a.inv.valid t (mem_of_mem_take ht)
    ·rw[List.mem_singleton.1 ht]; exact(g2.back a.vtree).2
   ·intro i q hq;dsimp only at hq
    by_cases hi:i<j
    ·rw[List.getElem?_append_left (by omega),List.getElem?_take,if_pos hi]at hq;obtain⟨t,v,k1,k2,k3⟩:=a.inv.step i q hq;exact⟨t,v,by rw[g0 i (by omega)]; exact k1,by rw[g0 (i+1) (by omega)]; exact k2,k3⟩
    ·rw[List.getElem?_append_right (by omega),hlt]at hq;have hij:i=j:=by
      rcases Nat.lt_or_ge (i - j) 1 with h | h
      ·omega
      ·rw[List.getElem?_eq_none (by simpa using h)]at hq; cases hq
     subst hij;rw[Nat.sub_self]at hq;obtain rfl:r=q :=(by simpa using hq);exact⟨h.2.1,u,by rw[g0 i (Nat.le_refl _)]; exact a.tree,gl,g2⟩
   ·intro q hq;rcases List.mem_append.1 hq with hq | hq
    ·exact a.inv.small q (mem_of_mem_take hq)
    ·rw[List.mem_singleton.1 hq]; exact hr
   ·dsimp only;simp only[length_append,length_cons,length_nil,hlt]
    omega
   ·dsimp only;simp only[length_append,length_cons,length_nil,hlt]
    omega
 ·refine .inl ⟨he,?_⟩
  obtain⟨⟨a1,a2,a3,a4⟩,⟨b1,b2,b3,b4⟩,rs,d⟩:=h;obtain⟨ops,⟨c1,c2⟩,⟨c3,c4⟩⟩:=r;obtain⟨u1,u2,u3,u4⟩:=u;dsimp only at g1;unfold zBk;simp only[g1,obs,show(e != 0)=true from bne_iff_ne.2 he,cond_true]
def hAt (h:Hs) (t:Nd) (j:Nat):Hs:=(h.1,t,h.2.2.1,(j:Int))
def zHy (o:Op8):Nat:=Nd.ws o.nodes+o.2.2.2.2.2.2.1.length+o.text.length+o.row.length
structure RFew (r:Rc):Prop where
 len:r.1.length<=12
 bulk:∀ o∈r.1,zHy o<=1048576
 b1:r.2.1.1.length<=16777216
 b2:r.2.1.2.length<=16777216
 a1:r.2.2.1.length<=16777216
 a2:r.2.2.2.length<=16777216
theorem yB5 {l:List Op8}{b:Nat}:(∀ o∈l,opw o<=b)->sw l<=l.length * b:=by
 induction l with
 | nil=>intro _; exact Nat.zero_le _
 | cons o l ih =>
  intro h;have h1:=h o mem_cons_self;have h2:=ih fun o ho=>h o (mem_cons_of_mem _ ho)
  simp only[sw,length_cons,Nat.succ_mul]
  omega
theorem zZB (o:Op8):opw o<=zHy o+4:=by unfold opw zHy; omega
theorem zZA (o:Op8):opw (invO o)<=zHy o+4:=by
 obtain⟨k,row,a,m,nodes,slot,old,text⟩:=o;unfold opw zHy invO;simp only[Op8.nodes,Op8.text,Op8.row]
 by_cases h:k=5
 ·rw[if_pos h]; omega
 ·rw[if_neg h]; omega
variable {r:Rc}
theorem RFew.osmall  (h:RFew r):OSmall r.1:=by
 have h1:∀ o∈r.1,opw o<=1048580:=fun o ho=>by have:=h.bulk o ho; have:=zZB o; omega
 have h2:∀ o∈r.1.map invO,opw o<=1048580:=fun o ho=>by
  obtain⟨o',ho',rfl⟩:=List.mem_map.1 ho;have:=h.bulk o' ho'; have:=zZA o'; omega
 have s1:=yB5 h1;have s2:=yB5 h2;rw[length_map]at s2;have hl:=h.len;have hm:r.1.length * 1048580<=12 * 1048580:=Nat.mul_le_mul_right _ hl;exact⟨by omega,fun o ho=>by have:=h1 o ho; omega,by omega,fun o ho=>by have:=h2 (invO o) (mem_map_of_mem ho); omega,fun o ho=>by have:=h.bulk o ho; unfold zHy at this; omega⟩
theorem RFew.small  (h:RFew r):RSmall r:=⟨h.osmall,h.b1,h.b2,h.a1,h.a2⟩
theorem RFew.ref  (h:RFew r) (n:Nat) (hn:200000000<n){t:Nd} (hv:zAB t=true):∃ u i e,zDt n t r.1=some (u,i,e)/\Runs t r.1 u e:=by
 have hw:=zFS hv;obtain⟨u,i,e,_,g2,g3,_⟩:=yBD n t r.1 hn (by omega) (fun o ho=>by have:=h.bulk o ho; unfold zHy at this; omega) h.len;cases g3 with
 | bad g=>rw[hv]at g; cases g
 | go _ g=>exact⟨u,i,e,g2,g⟩
theorem yBa (p:List Int) (i:Int) (hp:p.length<=4000000):zNU p [i]=some (p++[i]):=by
 unfold zNU;dsimp only;rw[zA5 (by simp only[length_cons,length_nil]; omega)]
variable {l:List Nd}
theorem zNu {n:Nat}{v:Nd} (h:l[n]? = some v):at? l (n:Int)=some v:=by
 obtain⟨h1,rfl⟩:=List.getElem?_eq_some_iff.1 h;exact zAK h1
theorem zXE {q:Nat}{v:Nd} (h:l[q]? = some v):l.drop q=v::l.drop (q+1):=by
 obtain⟨h1,rfl⟩:=List.getElem?_eq_some_iff.1 h;exact drop_eq_getElem_cons h1
abbrev AllF:=Nd->List Int->Option (List (List Int))
theorem zSp (F:AllF) (kids:List Nd) (p:List Int) (i:Nat) (x:Nd) (hx:kids[i]? = some x) (hp:p.length<=3000000) (hk:x.kids.length<=1000000)
  (hF:∀ (s:Nat) (u:Nd),x.kids[s]? = some u->F u (p++[(i:Int),(s:Int)])=some (posU (p++[(i:Int),(s:Int)]) u)) :
  ∀ (k s:Nat) (l:List (List Int)),x.kids.length - s<k->s<=x.kids.length->l.length+(posS p i s (x.kids.drop s)).length<=4000000 ->
   zDQ F kids p (i:Int) k (s:Int) l=some (l++posS p i s (x.kids.drop s))
 | 0,s,l,h,_,_=>by omega
 | k+1,s,l,h,hs,hl=>by
  unfold zDQ;rw[zNu hx]
  by_cases hj:s<x.kids.length
  ·have g:x.kids[s]? = some x.kids[s]:=List.getElem?_eq_getElem hj;generalize x.kids[s]=u at *;rw[zXE g]at hl ⊢;rw[posS]at hl ⊢;rw[length_append]at hl;have e1:=hF s u g;have ih:=zSp F kids p i x hx hp hk hF k (s+1) (l++posU (p++[(i:Int),(s:Int)]) u) (by omega) (by omega) (by rw[length_append]; omega)
   have at2:=zNu g;have hlen:(x.kids.length:Int)=(x.kids.length:Int):=rfl;obtain⟨x1,x2,x3,x4⟩:=x;obtain⟨u1,u2,u3,u4⟩:=u;simp only[Nd.kids]at *;simp only[obs,zAH (Int.ofNat_lt.2 hj),cond_true,at2]
   rw[zA5 (by rw[length_nil]; omega),zA5 (by simp only[length_cons,length_nil]; omega),e1]
   simp only[obs]
   rw[zA5 (by omega),zAL (by omega),ih,append_assoc]
  ·have e:x.kids.drop s=[]:=drop_of_length_le (by omega)
   rw[e,posS]
   obtain⟨x1,x2,x3,x4⟩:=x;simp only[Nd.kids]at hj hs;simp only[obs]
   rw[zAE (by omega),cond_false,append_nil]
theorem zSo (F:AllF) (N:Nat) (kids:List Nd) (p:List Int) (hp:p.length<=3000000) (hc:Nd.cnts kids<=1000000) (hN:Nd.cnts kids+1<N)
  (hF:∀ (i s:Nat) (x u:Nd),kids[i]? = some x->x.kids[s]? = some u->F u (p++[(i:Int),(s:Int)])=some (posU (p++[(i:Int),(s:Int)]) u)) :
  ∀ (k i:Nat) (l:List (List Int)),kids.length - i+1<k->i<=kids.length->l.length+(posI p i (kids.drop i)).length<=4000000 ->
   zDP F N kids p k (i:Int) l=some (l++posI p i (kids.drop i))
 | 0,i,l,h,_,_=>by omega
 | k+1,i,l,h,hi,hl=>by
  have hlk:=Nd.cnts_len kids;unfold zDP;rw[zAH (by omega),cond_true,yBa p i (by omega)]
  simp only[obs]
  by_cases hj:i<kids.length
  ·have g:kids[i]? = some kids[i]:=List.getElem?_eq_getElem hj;generalize kids[i]=x at *;have mx:=Nd.cnts_mem (mem_of_getElem? g)
   have kx:=x.cnt_kids;have lx:=Nd.cnts_len x.kids;have hX:posX p i x=posS p i 0 x.kids :=(by cases x; rw[posX]; rfl);rw[zXE g]at hl ⊢;rw[posI,hX]at hl ⊢;rw[length_cons,length_append]at hl;rw[zA5 (by simp only[length_cons,length_nil]; omega),zB1 (by omega),cond_false]
   have e2:=zSp F kids p i x g hp (by omega) (fun s u hu=>hF i s x u g hu) N 0 (l++[p++[(i:Int)]]) (by omega) (Nat.zero_le _) (by rw[drop_zero,length_append]; simp only[length_cons,length_nil]; omega)
   rw[show((0:Nat):Int)=0 from rfl,drop_zero]at e2;rw[e2]
   simp only[obs]
   have ih:=zSo F N kids p hp hc hN hF k (i+1) (l++[p++[(i:Int)]]++posS p i 0 x.kids) (by omega) (by omega) (by simp only[length_append,length_cons,length_nil]; omega)
   rw[zAL (by omega),ih]
   simp only[append_assoc,cons_append,nil_append]
  ·obtain rfl:i=kids.length :=(by omega);rw[drop_length,posI]at hl ⊢;rw[zA5 (by simp only[length_cons,length_nil]at hl ⊢; omega),beq_self_eq_true,cond_true]
theorem zPV:∀ (n:Nat) (t:Nd) (p:List Int),t.cnt+1<n->t.cnt<=1000000->p.length+2 * t.cnt<=3000000->zDO n t p=some (posU p t)
 | 0,t,p,h,_,_=>by omega
 | n+1,t,p,h,hc,hp=>by
  have k1:=t.cnt_kids;have l1:=Nd.cnts_len t.kids;have hlen:=zRs p 0 t.kids;have hU:posU p t=posI p 0 t.kids :=(by cases t; rw[posU]; rfl);have e:=zSo (zDO n) n t.kids p (by omega) (by omega) (by omega) (fun i s x u hx hu=>by
   have m1:=Nd.cnts_mem (mem_of_getElem? hx)
   have m2:=Nd.cnts_mem (mem_of_getElem? hu)
   have c1:=x.cnt_kids;exact zPV n u _ (by omega) (by omega) (by simp only[length_append,length_cons,length_nil]; omega)) n 0 [] (by omega) (Nat.zero_le _) (by rw[drop_zero,length_nil]; omega)
  rw[show((0:Nat):Int)=0 from rfl,drop_zero,nil_append]at e;rw[hU]
  obtain⟨t1,t2,t3,t4⟩:=t;simp only[Nd.kids]at e ⊢;unfold zDO;simp only[e,obs]
theorem zJf (n:Nat) (t:Nd) (hv:zAU n t=some (zAB t)) (hn:t.cnt+1<n) (hc:t.cnt<=1000000):zFJ n t=some (bif zAB t then (posT t,0) else ([],1)):=by
 have e:=zPV n t [] hn hc (by rw[length_nil]; omega)
 unfold posT;obtain⟨t1,t2,t3,t4⟩:=t;unfold zFJ;simp only[hv,e,obs]
 cases zAB (.mk t1 t2 t3 t4) <;> rfl
theorem zVf {a b:List Int} (ha:a.length<=1073741824):∀ (k i:Nat),a.length - i<k->i<=a.length->i<=b.length->a.take i=b.take i ->
  ∃ fl,zBx a b k (i:Int)=some fl/\((∃ z,fl = .ret z/\z ≠ 0/\a ≠ b)∨(fl = .go ()/\(a.length=b.length->a=b)))
 | 0,i,h,_,_,_=>by omega
 | k+1,i,h,hi,hb,ht=>by
  unfold zBx
  by_cases h1:i<a.length
  ·rw[zAH (Int.ofNat_lt.2 h1),cond_true]
   by_cases h2:i<b.length
   ·rw[zAH (Int.ofNat_lt.2 h2)]
    simp only[obs,cond_true,zAK h1,zAK h2]
    by_cases h3:a[i]<b[i]
    ·rw[zAH h3,cond_true]
     exact⟨_,rfl,.inl ⟨-1,rfl,by decide,fun e=>by subst e; omega⟩⟩
    ·rw[zAE h3,cond_false]
     by_cases h4:b[i]<a[i]
     ·rw[zAH h4,cond_true]
      exact⟨_,rfl,.inl ⟨1,rfl,by decide,fun e=>by subst e; omega⟩⟩
     ·rw[zAE h4,cond_false,zAL (by omega)]
      have he:a[i]=b[i] :=(by omega);refine zVf ha k (i+1) (by omega) (by omega) (by omega) ?_;rw[← take_append_getElem h1,← take_append_getElem h2,ht,he]
   ·rw[zAE (by omega)]
    simp only[obs,cond_false]
    exact⟨_,rfl,.inr ⟨rfl,fun e=>by omega⟩⟩
  ·rw[zAE (by omega),cond_false]
   simp only[obs,cond_false]
   refine⟨_,rfl,.inr ⟨rfl,fun e=>?_⟩⟩
   have:i=a.length :=(by omega);subst this;rw[take_length]at ht;rw[ht,take_of_length_le (by omega)]
theorem cmp_eq (n:Nat) (a b:List Int) (ha:a.length<=1073741824) (hn:a.length<n):∃ c,zCf n a b=some c/\(c=0↔a=b):=by
 obtain⟨fl,h1,h2⟩:=zVf (a:=a) (b:=b) ha n 0 (by omega) (Nat.zero_le _) (Nat.zero_le _) rfl;rw[show((0:Nat):Int)=0 from rfl]at h1;unfold zCf;dsimp only;rw[h1]
 rcases h2 with ⟨z,rfl,hz,hne⟩ | ⟨rfl,he⟩
 ·exact⟨z,rfl,fun h=>absurd h hz,fun h=>absurd h hne⟩
 ·simp only[obs]
  by_cases h3:a.length<b.length
  ·rw[zAH (Int.ofNat_lt.2 h3)]
   exact⟨-1,rfl,fun h=>(by omega),fun h=>(by subst h; omega)⟩
  ·rw[zAE (by omega),cond_false]
   by_cases h4:b.length<a.length
   ·rw[zAH (Int.ofNat_lt.2 h4)]
    exact⟨1,rfl,fun h=>(by omega),fun h=>(by subst h; omega)⟩
   ·rw[zAE (by omega),cond_false]
    exact⟨0,rfl,fun _=>he (by omega),fun _=>rfl⟩
theorem zVm (n:Nat) (pos:List Int) (L:List (List Int)) (hL:L.length<=1073741824) (hb:∀ q∈L,q.length<=1073741824/\q.length<n):∀ (k i:Nat),L.length - i<k->i<=L.length ->
  ∃ fl,zCO n pos L k (i:Int)=some fl/\((∃ j:Nat,fl = .ret ((j:Int),0)/\L[j]? = some pos)∨(fl = .go ()/\pos ∉ L.drop i))
 | 0,i,h,_=>by omega
 | k+1,i,h,hi=>by
  unfold zCO
  by_cases hj:i<L.length
  ·have hm:=hb _ (getElem_mem hj)
   obtain⟨c,h1,h2⟩:=cmp_eq n L[i] pos hm.1 hm.2;rw[zAH (Int.ofNat_lt.2 hj),cond_true,zAK hj]
   simp only[obs,h1]
   by_cases hc:c=0
   ·subst hc;exact⟨_,rfl,.inl ⟨i,rfl,by rw[List.getElem?_eq_getElem hj,h2.1 rfl]⟩⟩
   ·rw[zB1 hc,cond_false,zAL (by omega)]
    obtain⟨fl,g1,g2⟩:=zVm n pos L hL hb k (i+1) (by omega) (by omega)
    refine⟨fl,g1,g2.imp id fun⟨g3,g4⟩=>⟨g3,fun hm'=>?_⟩⟩
    rw[drop_eq_getElem_cons hj]at hm';rcases List.mem_cons.1 hm' with hm' | hm'
    ·exact hc (h2.2 hm'.symm)
    ·exact g4 hm'
  ·rw[zAE (by omega),cond_false,drop_of_length_le (by omega)]
   exact⟨_,rfl,.inr ⟨rfl,fun h=>by cases h⟩⟩
theorem zEo {t:Nd} (hv:zAB t=true){q:List Int} (h:q∈posT t):q.length<=49:=by
 obtain⟨k,f,c,d⟩:=zGM hv;have h1:=zXO q t.kids ((zD7 t q).1 h)
 have e:t.dep=Nd.deps t.kids+1:=by cases t; rfl
 omega
theorem zMy (n:Nat) (t:Nd) (pos:List Int) (hv:zAU n t=some (zAB t)) (hn:2000<n) (hc:t.cnt+1<n) (hc2:t.cnt<=1000000):∃ i e,zEv n t pos=some (i,e)/\((e=0/\zAB t=true/\∃ j:Nat,i=(j:Int)/\(posT t)[j]? = some pos)∨(e ≠ 0/\(zAB t=true->pos ∉ posT t))):=by
 have e1:=zJf n t hv hc hc2;have hlen:=zRt t;cases hvt:zAB t with
 | false =>
  rw[hvt]at e1;obtain⟨t1,t2,t3,t4⟩:=t;refine⟨0,1,?_,.inr ⟨by decide,fun h=>by cases h⟩⟩
  unfold zEv;simp only[e1,cond_false,obs]
  rfl
 | true =>
  rw[hvt]at e1;obtain⟨k,f,c,d⟩:=zGM hvt;obtain⟨fl,g1,g2⟩:=zVm n pos (posT t) (by omega) (fun q hq=>by have:=zEo hvt hq; omega) n 0 (by omega) (Nat.zero_le _)
  rw[show((0:Nat):Int)=0 from rfl]at g1;rw[drop_zero]at g2;generalize posT t=L at *;obtain⟨t1,t2,t3,t4⟩:=t;unfold zEv;simp only[e1,cond_true,obs,show((0:Int) != 0)=false from rfl,cond_false,g1]
  rcases g2 with ⟨j,rfl,hj⟩ | ⟨rfl,hj⟩
  ·exact⟨_,_,rfl,.inl ⟨rfl,trivial,j,rfl,hj⟩⟩
  ·exact⟨_,_,rfl,.inr ⟨by decide,fun _=>hj⟩⟩
theorem zG1 (n:Nat) (t:Nd) (pos:List Int) (hv:zAU n t=some (zAB t)) (hn:2000<n) (hc:t.cnt+1<n) (hc2:t.cnt<=1000000):∃ b,zDN n t pos=some b/\(b=true↔zAB t=true/\inL t.kids pos):=by
 obtain⟨i,e,h1,h2⟩:=zMy n t pos hv hn hc hc2;refine⟨e == 0,?_,?_⟩
 ·obtain⟨t1,t2,t3,t4⟩:=t;unfold zDN;simp only[h1,obs]
 ·rw[beq_iff_eq]
  rcases h2 with ⟨rfl,g1,j,rfl,g2⟩ | ⟨g1,g2⟩
  ·exact⟨fun _=>⟨g1,(zD7 t pos).1 (mem_of_getElem? g2)⟩,fun _=>rfl⟩
  ·exact⟨fun h=>absurd h g1,fun⟨h,h'⟩=>absurd ((zD7 t pos).2 h') (g2 h)⟩
theorem zSS {L:List (List Int)}{i:Nat} (h:i<L.length):(L.drop i).flatten=L[i]++(L.drop (i+1)).flatten:=by
 rw[drop_eq_getElem_cons h,flatten_cons]
theorem yBG {L:List (List Int)} (hl:L.length<=1073741824):∀ (k i s:Nat),L.length - i<k->i<=L.length->s+(L.drop i).flatten.length<=1073741824->zA3 L k (i:Int) (s:Int)=some ((s+(L.drop i).flatten.length:Nat):Int)
 | 0,i,s,h,_,_=>by omega
 | k+1,i,s,hk,hi,hs=>by
  unfold zA3
  by_cases h:i<L.length
  ·have hd:=congrArg List.length (zSS h)
   rw[length_append]at hd;rw[zAH (Int.ofNat_lt.2 h),cond_true,zAK h]
   simp only[obs]
   rw[wrap64_in (n:=(s:Int)+((L[i]).length:Int)) (by omega) (by omega),zAE (by omega),cond_false,zAL (by omega),← Int.natCast_add,yBG hl k (i+1) _ (by omega) (by omega) (by omega),hd]
   congr 2; omega
  ·rw[zAE (by omega),cond_false]
   have:L.drop i=[]:=List.drop_eq_nil_iff.2 (by omega)
   rw[this]; rfl
theorem yBH {L:List (List Int)} (hl:L.length<=1073741824):∀ (k i:Nat) (s:List Int),L.length - i<k->i<=L.length->s.length+(L.drop i).flatten.length<=1073741824->zA4 L k (i:Int) s=some (s++(L.drop i).flatten)
 | 0,i,s,h,_,_=>by omega
 | k+1,i,s,hk,hi,hs=>by
  unfold zA4
  by_cases h:i<L.length
  ·have hd:=zSS h;have hd':=congrArg List.length hd;rw[length_append]at hd';rw[zAH (Int.ofNat_lt.2 h),cond_true,zAK h]
   simp only[obs]
   rw[zA5 (by omega),zAL (by omega),yBH hl k (i+1) _ (by omega) (by omega) (by rw[length_append]; omega),hd,append_assoc]
  ·rw[zAE (by omega),cond_false]
   have:L.drop i=[]:=List.drop_eq_nil_iff.2 (by omega)
   rw[this]; simp
theorem zXu (n:Nat) (L:List (List Int)) (hn:L.length<n) (hl:L.length<=1073741824) (hs:L.flatten.length<=1073741824):zAy n L=some L.flatten:=by
 have e1:=yBG hl n 0 0 (by omega) (by omega) (by simpa using hs)
 have e2:=yBH hl n 0 [] (by omega) (by omega) (by simpa using hs)
 rw[show((0:Nat):Int)=0 from rfl]at e1 e2;unfold zAy zE0;simp only[e1,obs,drop_zero,Nat.zero_add]
 simp only[drop_zero,nil_append]at e2;rw[zA5 ⟨by omega,by omega⟩]
 simp only[obs,e2]
variable {a b:List Int}
theorem cat2 (n:Nat) (hn:5<n) (h:a.length+b.length<=1073741824):zAy n [a,b]=some (a++b):=by
 rw[zXu n _ (by simp only[length_cons,length_nil]; omega) (by simp only[length_cons,length_nil]; omega) (by simp; omega)]
 simp
theorem cat3 (n:Nat){s:Int} (hn:5<n) (h:a.length+b.length<=1073741820):zAy n [a,[s],b]=some (a++s::b):=by
 rw[zXu n _ (by simp only[length_cons,length_nil]; omega) (by simp only[length_cons,length_nil]; omega) (by simp; omega)]
 simp
theorem zSD {a b:List Int} (ha:a.length<=1073741824):∀ (k i:Nat),a.length - i<k->i<=a.length->i<=b.length->leP (a.drop i) (b.drop i) ->
  ∃ fl,zBx a b k (i:Int)=some fl/\((∃ z,fl = .ret z/\z<=0)∨(fl = .go ()/\a.length<=b.length))
 | 0,i,h,_,_,_=>by omega
 | k+1,i,h,hi,hb,hle=>by
  unfold zBx
  by_cases h1:i<a.length
  ·rw[zAH (Int.ofNat_lt.2 h1),cond_true]
   rw[drop_eq_getElem_cons h1]at hle
   by_cases h2:i<b.length
   ·rw[drop_eq_getElem_cons h2]at hle;rw[zAH (Int.ofNat_lt.2 h2)]
    simp only[obs,cond_true,zAK h1,zAK h2]
    rcases hle with h3 | ⟨h3,hle⟩
    ·rw[zAH h3,cond_true]
     exact⟨_,rfl,.inl ⟨-1,rfl,by decide⟩⟩
    ·rw[zAE (by omega),cond_false,zAE (by omega),cond_false,zAL (by omega)]
     exact zSD ha k (i+1) (by omega) (by omega) (by omega) hle
   ·rw[drop_of_length_le (l:=b) (by omega)]at hle;exact hle.elim
  ·rw[zAE (by omega),cond_false]
   simp only[obs,cond_false]
   exact⟨_,rfl,.inr ⟨rfl,by omega⟩⟩
theorem yAk (n:Nat) (a b:List Int) (ha:a.length<=1073741824) (hn:a.length<n) (h:leP a b):∃ c,zCf n a b=some c/\c<=0:=by
 obtain⟨fl,h1,h2⟩:=zSD (a:=a) (b:=b) ha n 0 (by omega) (Nat.zero_le _) (Nat.zero_le _) (by simpa using h)
 rw[show((0:Nat):Int)=0 from rfl]at h1;unfold zCf;dsimp only;rw[h1]
 rcases h2 with ⟨z,rfl,hz⟩ | ⟨rfl,he⟩
 ·exact⟨z,rfl,hz⟩
 ·simp only[obs]
  by_cases h3:a.length<b.length
  ·rw[zAH (Int.ofNat_lt.2 h3)]
   exact⟨-1,rfl,by decide⟩
  ·rw[zAE (by omega),cond_false,zAE (by omega),cond_false]
   exact⟨0,rfl,by decide⟩
theorem zVg {a b:List Int} (hl:a.length=b.length) (ha:a.length<=1073741824):∀ (k i:Nat),a.length - i<k->i<=a.length->zA9 a b k (i:Int)=some (if a.drop i=b.drop i then .go () else .ret false)
 | 0,i,h,_=>by omega
 | k+1,i,h,hi=>by
  unfold zA9
  by_cases h1:i<a.length
  ·have h2:i<b.length :=(by omega);rw[zAH (Int.ofNat_lt.2 h1),cond_true,drop_eq_getElem_cons h1,drop_eq_getElem_cons h2]
   simp only[obs,zAK h1,zAK h2]
   by_cases he:a[i]=b[i]
   ·rw[he,bne_self_eq_false,cond_false,zAL (by omega),zVg hl ha k (i+1) (by omega) (by omega)]
    simp only[List.cons.injEq,true_and]
   ·rw[bne_iff_ne.2 he,cond_true,if_neg (fun e=>he (List.cons.inj e).1)]
  ·rw[zAE (by omega),cond_false,drop_of_length_le (by omega),drop_of_length_le (by omega),if_pos rfl]
theorem zXJ (n:Nat) (a b:List Int) (ha:a.length<=1073741824) (hn:a.length<n):zCw n a b=some (decide (a=b)):=by
 unfold zCw;dsimp only
 by_cases hl:a.length=b.length
 ·rw[hl,bne_self_eq_false,cond_false]
  have:=zVg hl ha n 0 (by omega) (Nat.zero_le _)
  rw[show((0:Nat):Int)=0 from rfl]at this;rw[this,drop_zero,drop_zero]
  by_cases h:a=b
  ·rw[if_pos h,decide_eq_true h]; rfl
  ·rw[if_neg h,decide_eq_false h]; rfl
 ·rw[bne_iff_ne.2 (by omega),cond_true,decide_eq_false (fun h=>hl (congrArg _ h))]
theorem zQR {f:List Int->List Int}:∀ (row q:List Int),row.length % 2=0->mapR f row (row++q)=row++f q
 | [],q,_=>zMX
 | [_],q,h=>by simp at h
 | i::s::p,q,h=>by
  simp only[length_cons]at h;rw[cons_append,cons_append,zHT,if_pos ⟨rfl,rfl⟩,zQR p q (by omega)]; rfl
theorem zX0 {f:List Int->List Int}:∀ (row q:List Int),q.length % 2=1->(∀ q',q' ≠ []->q ≠ row++q')->mapR f row q=q
 | [],q,h,hn=>(hn q (fun e=>by subst e; simp at h) rfl).elim
 | [_],[],h,hn=>rfl
 | [_],[_],h,hn=>rfl
 | [_],_::_::_,h,hn=>rfl
 | i::s::p,[],h,hn=>rfl
 | i::s::p,[o],h,hn=>rfl
 | i::s::p,j::b::q,h,hn=>by
  simp only[length_cons]at h;rw[zHT]
  split
  ·rename_i e
   rw[zX0 p q (by omega) (fun q' h1 h2=>hn q' h1 (by rw[h2,e.1,e.2]; rfl))]
  ·rfl
theorem zUp:∀ (q:List Int) (l:List Nd),inL l q->q.length % 2=1
 | [],l,h=>h.elim
 | [_],l,h=>rfl
 | i::s::r,l,h=>by
  obtain⟨_,x,_,_,u,_,h⟩:=zDx.1 h;have:=zUp r _ h;simp only[length_cons]; omega
theorem yBK (n:Nat) (o:Op8) (q:List Int) (h1:q.length % 2=1) (h2:o.row.length % 2=0) (hl:q.length<=1000) (hr:o.row.length<=1000) (hn:5000<n) (h:∀ q',q' ≠ []->q ≠ o.row++q'):∃ p,zCi n o q=some (p,false):=by
 obtain⟨k,row,a,m,nodes,slot,old,text⟩:=o;simp only[Op8.row]at *;unfold zCi;dsimp only
 by_cases h3:q.length<=row.length
 ·rw[zAH (Int.ofNat_le.2 h3)]
  exact⟨_,rfl⟩
 ·rw[zAE (by omega),wrap64_in (n:=(row.length:Int)+2) (by omega) (by omega)]
  have h4:((q.length:Int) == (row.length:Int)+2)=false:=beq_eq_false_iff_ne.2 (by omega)
  rw[h4,cond_false,cond_false,zA5 (by omega)]
  have h5:(q.take (row.length:Int).toNat).drop (0:Int).toNat=q.take row.length :=(by simp);rw[h5,zXJ n _ _ (by rw[length_take]; omega) (by rw[length_take]; omega),decide_eq_false (fun e=>h (q.drop row.length) (fun h'=>h3 (List.drop_eq_nil_iff.1 h')) (by have:=take_append_drop row.length q; rw[e]at this; exact this.symm))]
  exact⟨_,rfl⟩
theorem yAM (n:Nat) (k:Int) (row:List Int) (a m:Int) (nodes:List Nd) (slot:Int) (old text:List UInt8) (i:Int) (hr:row.length<=1000) (hn:5000<n):zCi n (k,row,a,m,nodes,slot,old,text) (row++[i])=some (((k,row,a,m,nodes,slot,old,text),(nodes.length:Int),i,false,0,[]),true):=by
 unfold zCi;dsimp only;have hl:(row++[i]).length=row.length+1 :=(by simp);rw[hl,zAE (by omega),wrap64_in (n:=(row.length:Int)+2) (by omega) (by omega),wrap64_in (n:=(row.length:Int)+1) (by omega) (by omega)]
 have h4:(((row.length+1:Nat):Int) == (row.length:Int)+2)=false:=beq_eq_false_iff_ne.2 (by omega)
 rw[h4,cond_false,cond_false,zA5 (by omega)]
 have h5:((row++[i]).take (row.length:Int).toNat).drop (0:Int).toNat=row :=(by simp);rw[h5,zXJ n _ _ (by omega) (by omega),decide_eq_true rfl]
 have h6:at? (row++[i]) (row.length:Int)=some i:=zHL (by simp)
 simp only[obs,Bool.not_true,cond_false,h6]
 rw[zAE (by omega)]
 rfl
theorem yAN (n:Nat) (k:Int) (row:List Int) (a m:Int) (nodes:List Nd) (slot:Int) (old text:List UInt8) (i s:Int) (r:List Int) (hr:row.length<=1000) (hq:r.length<=1000) (hr0:r ≠ []) (hn:5000<n):zCi n (k,row,a,m,nodes,slot,old,text) (row++i::s::r)=some (((k,row,a,m,nodes,slot,old,text),(nodes.length:Int),i,true,s,r),true):=by
 unfold zCi;dsimp only;have hl:(row++i::s::r).length=row.length+2+r.length :=(by simp; omega);have hpos:=List.length_pos_iff.2 hr0;rw[hl,zAE (by omega),wrap64_in (n:=(row.length:Int)+2) (by omega) (by omega),wrap64_in (n:=(row.length:Int)+1) (by omega) (by omega)]
 have h4:(((row.length+2+r.length:Nat):Int) == (row.length:Int)+2)=false:=beq_eq_false_iff_ne.2 (by omega)
 rw[h4,cond_false,cond_false,zA5 (by omega)]
 have h5:((row++i::s::r).take (row.length:Int).toNat).drop (0:Int).toNat=row :=(by simp);rw[h5,zXJ n _ _ (by omega) (by omega),decide_eq_true rfl]
 have h6:at? (row++i::s::r) (row.length:Int)=some i:=zHL (by simp)
 have h7:at? (row++i::s::r) ((row.length:Int)+1)=some s:=by
  rw[show(row.length:Int)+1=((row.length+1:Nat):Int) by omega]; exact zHL (by rw[List.getElem?_append_right (by omega)]; simp)
 simp only[obs,Bool.not_true,cond_false,h6]
 rw[zAH (by omega),cond_true,h7]
 simp only[obs]
 rw[zA5 (by omega)]
 have h8:((row++i::s::r).take ((row.length+2+r.length:Nat):Int).toNat).drop ((row.length:Int)+2).toNat=r:=by
  rw[take_of_length_le (by rw[hl,Int.toNat_natCast]; omega),show((row.length:Int)+2).toNat=row.length+2 by omega,drop_append]
  simp
 rw[h8]
 rfl
theorem yA0 (n:Nat) (row:List Int) (a m:Int) (nodes:List Nd) (slot:Int) (old text:List UInt8) (i:Int) (af:Bool) (hi:0<=i/\i<=1099511627776) (hc:nodes.length<=1099511627776):zAs n ((1,row,a,m,nodes,slot,old,text),(nodes.length:Int),i,false,0,[]) af=some (mvL 1 a m nodes.length slot af [i],false):=by
 have hw:i64.wrap (i+(nodes.length:Int))=i+nodes.length:=wrap64_in (by omega) (by omega)
 simp only[zAs,zBT,zAt,mvL,Int.reduceEq,reduceIte,hw]
 by_cases h1:i<a
 ·simp[h1]
 ·by_cases h2:i=a
  ·subst h2; cases af <;> simp
  ·have hb:(i == a)=false:=beq_eq_false_iff_ne.2 h2;simp[h1,h2,hb]
theorem yA1 (n:Nat) (row:List Int) (a m:Int) (nodes:List Nd) (slot:Int) (old text:List UInt8) (i s:Int) (r:List Int) (af:Bool) (hn:5<n) (hr:r.length<=1000) (hi:0<=i/\i<=1099511627776) (hc:nodes.length<=1099511627776):zAs n ((1,row,a,m,nodes,slot,old,text),(nodes.length:Int),i,true,s,r) af=some (mvL 1 a m nodes.length slot af (i::s::r),false):=by
 have hw:i64.wrap (i+(nodes.length:Int))=i+nodes.length:=wrap64_in (by omega) (by omega)
 have hcat:∀ x:Int,zAy n [[x],[s],r]=some (x::s::r):=fun x=>cat3 n hn (by simp only[length_cons,length_nil]; omega)
 simp only[zAs,zBT,zAt,mvL,Int.reduceEq,reduceIte,hw,hcat]
 by_cases h1:i<a
 ·simp[h1]
 ·by_cases h2:i=a
  ·subst h2; cases af <;> simp
  ·have hb:(i == a)=false:=beq_eq_false_iff_ne.2 h2;simp[h1,h2,hb]
theorem yAO (n:Nat) (row:List Int) (a m:Int) (nodes:List Nd) (slot:Int) (old text:List UInt8) (i:Int) (af:Bool) (hi:0<=i/\i<=1099511627776) (ha:0<=a/\a<=1099511627776) (hc:nodes.length<=1099511627776):∃ b,zAs n ((2,row,a,m,nodes,slot,old,text),(nodes.length:Int),i,false,0,[]) af=some (mvL 2 a m nodes.length slot af [i],b):=by
 have hw:i64.wrap (i - (nodes.length:Int))=i - nodes.length:=wrap64_in (by omega) (by omega)
 have hw2:i64.wrap (a+(nodes.length:Int))=a+nodes.length:=wrap64_in (by omega) (by omega)
 simp only[zAs,zBU,zAt,mvL,Int.reduceEq,reduceIte,hw,hw2]
 by_cases h1:i<a
 ·have h3:i<=a :=(by omega);simp[h1,h3]
 ·by_cases h2:i=a
  ·subst h2; simp
  ·have hb:(i == a)=false:=beq_eq_false_iff_ne.2 h2;have h3:¬ i<=a:=by omega
   by_cases h4:i<a+nodes.length <;> simp[h1,h2,hb,h3,h4]
theorem yAP (n:Nat) (row:List Int) (a m:Int) (nodes:List Nd) (slot:Int) (old text:List UInt8) (i s:Int) (r:List Int) (af:Bool) (hn:5<n) (hr:r.length<=1000) (hi:0<=i/\i<=1099511627776) (ha:0<=a/\a<=1099511627776) (hc:nodes.length<=1099511627776):∃ b,zAs n ((2,row,a,m,nodes,slot,old,text),(nodes.length:Int),i,true,s,r) af=some (mvL 2 a m nodes.length slot af (i::s::r),b):=by
 have hw:i64.wrap (i - (nodes.length:Int))=i - nodes.length:=wrap64_in (by omega) (by omega)
 have hw2:i64.wrap (a+(nodes.length:Int))=a+nodes.length:=wrap64_in (by omega) (by omega)
 have hcat:∀ x:Int,zAy n [[x],[s],r]=some (x::s::r):=fun x=>cat3 n hn (by simp only[length_cons,length_nil]; omega)
 simp only[zAs,zBU,zAt,mvL,Int.reduceEq,reduceIte,hw,hw2,hcat]
 by_cases h1:i<a
 ·simp[h1]
 ·by_cases h2:i=a
  ·subst h2
   by_cases h4:i<i+nodes.length <;> simp[h4] <;> simp at h4 <;> simp[h4]
  ·have hb:(i == a)=false:=beq_eq_false_iff_ne.2 h2
   by_cases h4:i<a+nodes.length <;> simp[h1,h2,hb,h4]
theorem wrap_one (n:Nat) (row:List Int) (a m:Int) (nodes:List Nd) (slot:Int) (old text:List UInt8) (c i:Int) (af:Bool) (hi:0<=i/\i<=1099511627776) (ha:0<=a/\a<=1099511627776) (hm:0<=m/\m<=1099511627776):zAs n ((3,row,a,m,nodes,slot,old,text),c,i,false,0,[]) af=some (mvL 3 a m nodes.length slot af [i],false):=by
 have hw:i64.wrap (i - m)=i - m:=wrap64_in (by omega) (by omega)
 have hw2:i64.wrap (a+m)=a+m:=wrap64_in (by omega) (by omega)
 have hw3:i64.wrap (a+1)=a+1:=wrap64_in (by omega) (by omega)
 have hw4:i64.wrap (i - m+1)=i - m+1:=wrap64_in (by omega) (by omega)
 have hw5:i64.wrap (i - a)=i - a:=wrap64_in (by omega) (by omega)
 simp only[zAs,zCp,zAt,mvL,Int.reduceEq,reduceIte,hw,hw2,hw3,hw4,hw5]
 by_cases h1:i<a
 ·have h3:i<=a :=(by omega);have h5:(i == a)=false:=beq_eq_false_iff_ne.2 (by omega)
  have h6:i ≠ a :=(by omega);simp[h1,h3,h5,h6]
 ·by_cases h2:i=a
  ·subst h2
   by_cases h6:m=0
   ·cases af <;> simp[h6]
   ·have h7:(m == 0)=false:=beq_eq_false_iff_ne.2 h6;cases af <;> simp[h6,h7]
  ·have hb:(i == a)=false:=beq_eq_false_iff_ne.2 h2;have h3:¬ i<=a:=by omega
   by_cases h4:i<a+m <;> simp[h1,h2,hb,h3,h4]
theorem yAb (n:Nat) (row:List Int) (a m:Int) (nodes:List Nd) (slot:Int) (old text:List UInt8) (c i s:Int) (r:List Int) (af:Bool) (hn:5<n) (hr:r.length<=1000) (hi:0<=i/\i<=1099511627776) (ha:0<=a/\a<=1099511627776) (hm:0<=m/\m<=1099511627776):zAs n ((3,row,a,m,nodes,slot,old,text),c,i,true,s,r) af=some (mvL 3 a m nodes.length slot af (i::s::r),false):=by
 have hw:i64.wrap (i - m)=i - m:=wrap64_in (by omega) (by omega)
 have hw2:i64.wrap (a+m)=a+m:=wrap64_in (by omega) (by omega)
 have hw4:i64.wrap (i - m+1)=i - m+1:=wrap64_in (by omega) (by omega)
 have hw5:i64.wrap (i - a)=i - a:=wrap64_in (by omega) (by omega)
 have hcat:∀ x:Int,zAy n [[x],[s],r]=some (x::s::r):=fun x=>cat3 n hn (by simp only[length_cons,length_nil]; omega)
 have hcat2:∀ x y z:Int,zAy n [[x,y,z],[s],r]=some (x::y::z::s::r):=fun x y z=>cat3 n hn (by simp only[length_cons,length_nil]; omega)
 simp only[zAs,zCp,zAt,mvL,Int.reduceEq,reduceIte,hw,hw2,hw4,hw5,hcat,hcat2]
 by_cases h1:i<a
 ·simp[h1]
 ·by_cases h2:i=a
  ·subst h2
   by_cases h4:i<i+m <;> simp[h4] <;> simp at h4 <;> simp[h4]
  ·have hb:(i == a)=false:=beq_eq_false_iff_ne.2 h2
   by_cases h4:i<a+m <;> simp[h1,h2,hb,h4]
theorem yBp (n:Nat) (row:List Int) (a m:Int) (nodes:List Nd) (slot:Int) (old text:List UInt8) (c i:Int) (af:Bool) (hi:0<=i/\i<=1099511627776) (ha:0<=a/\a<=1099511627776) (hm:0<=m/\m<=1099511627776):∃ b,zAs n ((4,row,a,m,nodes,slot,old,text),c,i,false,0,[]) af=some (mvL 4 a m nodes.length slot af [i],b):=by
 have hw:i64.wrap (i - 1)=i - 1:=wrap64_in (by omega) (by omega)
 have hw2:i64.wrap (i - 1+m)=i - 1+m:=wrap64_in (by omega) (by omega)
 simp only[zAs,zBV,zAt,mvL,Int.reduceEq,reduceIte,hw,hw2]
 by_cases h1:i<a
 ·have h3:i<=a :=(by omega);simp[h1,h3]
 ·by_cases h2:i=a
  ·subst h2; simp
  ·have hb:(i == a)=false:=beq_eq_false_iff_ne.2 h2;have h3:¬ i<=a :=(by omega);have h4:a<i :=(by omega);simp[h1,h2,hb,h3,h4]
theorem yBq (n:Nat) (row:List Int) (a m:Int) (nodes:List Nd) (slot:Int) (old text:List UInt8) (c i s j:Int) (r:List Int) (af:Bool) (hn:5<n) (hr:r.length<=1000) (hi:0<=i/\i<=1099511627776) (ha:0<=a/\a<=1099511627776) (hm:0<=m/\m<=1099511627776) (hj:0<=j/\j<=1099511627776):∃ b,zAs n ((4,row,a,m,nodes,slot,old,text),c,i,true,s,j::r) af=some (mvL 4 a m nodes.length slot af (i::s::j::r),b):=by
 have hw:i64.wrap (i - 1)=i - 1:=wrap64_in (by omega) (by omega)
 have hw2:i64.wrap (i - 1+m)=i - 1+m:=wrap64_in (by omega) (by omega)
 have hw3:i64.wrap (a+m)=a+m:=wrap64_in (by omega) (by omega)
 have hw4:i64.wrap (a+j)=a+j:=wrap64_in (by omega) (by omega)
 have hcat:∀ x:Int,zAy n [[x],[s],j::r]=some (x::s::j::r):=fun x=>cat3 n hn (by simp only[length_cons,length_nil]; omega)
 have hcat2:∀ x:Int,zAy n [[x],r]=some (x::r):=fun x=>cat2 n hn (by simp only[length_cons,length_nil]; omega)
 have hat:at? (j::r) 0=some j:=zHL (i:=0) rfl;have hd:((j::r).take (((j::r).length:Nat):Int).toNat).drop (1:Int).toNat=r :=(by simp);simp only[zAs,zBV,zAt,mvL,Int.reduceEq,reduceIte,hw,hw2,hw3,hw4,hcat,hat,hd]
 by_cases h1:i<a
 ·simp[h1]
 ·by_cases h2:a<i
  ·have h3:i ≠ a :=(by omega);have hb:(i == a)=false:=beq_eq_false_iff_ne.2 h3;simp[h1,h2,h3,hb]
  ·have h3:i=a :=(by omega);subst h3
   by_cases h4:s<slot
   ·simp[h4]
   ·by_cases h5:slot<s
    ·simp[h4,h5]
    ·have hq:(1:Int)<=(r.length:Int)+1 :=(by omega);simp[h4,h5,hcat2,req,hq]
     exact hw4
theorem yBh (n:Nat) (row:List Int) (a m:Int) (nodes:List Nd) (slot:Int) (old text:List UInt8) (c i:Int) (af:Bool):zAs n ((5,row,a,m,nodes,slot,old,text),c,i,false,0,[]) af=some (mvL 5 a m nodes.length slot af [i],false):=by
 simp[zAs,zAt,mvL]
theorem yBi (n:Nat) (row:List Int) (a m:Int) (nodes:List Nd) (slot:Int) (old text:List UInt8) (c i s:Int) (r:List Int) (af:Bool) (hn:5<n) (hr:r.length<=1000):zAs n ((5,row,a,m,nodes,slot,old,text),c,i,true,s,r) af=some (mvL 5 a m nodes.length slot af (i::s::r),false):=by
 have hcat:∀ x:Int,zAy n [[x],[s],r]=some (x::s::r):=fun x=>cat3 n hn (by simp only[length_cons,length_nil]; omega)
 simp[zAs,zAt,mvL,hcat]
variable {p:List Int}{t:Nd}
theorem Fd.low {z:Nd} (h:Fd t p z):∀ q,inL z.kids q->inL t.kids (p++q):=by
 induction h with
 | nil t=>exact fun q h=>h
 | @step k tx c ks i k2 tx2 c2 ks2 s z r p hi hs _ ih =>
  exact fun q h=>zEU (l:=ks) rfl hi hs (ih q h)
theorem Fd.low' {z:Nd} (h:Fd t p z):∀ q,q ≠ []->inL t.kids (p++q)->inL z.kids q:=by
 induction h with
 | nil t=>exact fun q _ h=>h
 | @step k tx c ks i k2 tx2 c2 ks2 s z r p hi hs _ ih =>
  intro q hq h;obtain⟨_,x,h1,_,u,h2,h3⟩:=zDx.1 h;obtain rfl:x = .mk k2 tx2 c2 ks2:=Option.some.inj (h1.symm.trans (by rw[Int.toNat_natCast]; exact hi))
  obtain rfl:u=z:=Option.some.inj (h2.symm.trans (by rw[Int.toNat_natCast]; exact hs))
  exact ih q hq h3
theorem zSV:∀ (q:List Int) (l:List Nd),inL l q->∀ v∈q,0<=v/\v<=(Nd.cnts l:Int)
 | [],l,h=>h.elim
 | [o],l,h=>by
  obtain⟨h1,h2⟩:=zHR.1 h;have:=Nd.cnts_len l;intro v hv;rw[List.mem_singleton.1 hv]
  exact⟨h1,by omega⟩
 | i::s::r,l,h=>by
  obtain⟨h1,x,h2,h3,u,h4,h5⟩:=zDx.1 h;have ih:=zSV r _ h5;have g1:=Nd.cnts_len l;have g2:=zGv h2;have g3:=Nd.cnts_mem (mem_of_getElem? h2)
  have g4:=x.cnt_kids;have g5:=zGv h4;have g6:=Nd.cnts_len x.kids;have g7:=Nd.cnts_mem (mem_of_getElem? h4)
  have g8:=u.cnt_kids;intro v hv;rcases List.mem_cons.1 hv with rfl | hv
  ·exact⟨h1,by omega⟩
  ·rcases List.mem_cons.1 hv with rfl | hv
   ·exact⟨h3,by omega⟩
   ·have:=ih v hv;exact⟨this.1,by omega⟩
variable {q:List Int}
theorem yBv (n:Nat){u:Nd}{o:Op8} (h:App t o u 0) (af:Bool) (hq:inL t.kids q) (hn:5000<n):zEK n o q af=some (mapO af o q):=by
 cases h with
 | chg h hf hr hc he=>exact(he rfl).elim
 | @ok r l h hf hr hc hv =>
  obtain⟨k,row,a,m,nodes,slot,old,text⟩:=o;dsimp only at hr hv;have hlen:=zEo h ((zD7 t q).2 hq)
  have hodd:=zUp q _ hq;have h0:=hr.low [0] (zHR.2 ⟨by omega,by omega⟩)
  have hrl:=zEo h ((zD7 t _).2 h0)
  have hre:=zUp _ _ h0;rw[length_append,length_singleton]at hrl hre
  by_cases hp:∃ q',q' ≠ []/\q=row++q'
  ·obtain⟨q',hq',rfl⟩:=hp;have hq2:=hr.low' q' hq' hq;have hb:=zSV _ _ hq2;have hz:Nd.cnts r.kids<=1000000:=by
    have g1:=hr.cnt zCy;have g2:=r.cnt_kids;have g3:=zFS h;have g4:=Nd.cnt_w t;have g5:zCy.cnt=1:=rfl
    omega
   have hzl:=Nd.cnts_len r.kids;have hnl:nodes.length<=1000000:=by
    rcases hf with ⟨_,_,h1,_⟩ | ⟨_,_,⟨v,s,z,e1,_⟩,_⟩ | ⟨_,_,h1,_⟩
    ·have g1:=zFS h1;have g2:=Nd.cnt_w (rowN nodes)
     have g3:(rowN nodes).cnt=Nd.cnts nodes+1:=cnt_kids _;have g4:=Nd.cnts_len nodes
     omega
    ·rw[e1]; exact Nat.le_of_ble_eq_true rfl
    ·rw[h1]; exact Nat.le_of_ble_eq_true rfl
   have hmo:mapO af (k,row,a,m,nodes,slot,old,text) (row++q')=row++mvL k a m nodes.length slot af q':=zQR row q' (by omega)
   have hx:=hc.pos af hf hq2;rw[hmo]
   have key:∃ p x b,zCi n (k,row,a,m,nodes,slot,old,text) (row++q')=some (p,true)/\zAs n p af=some (x,b)/\x=mvL k a m nodes.length slot af q':=by
    have hq3:q'.length<=49 :=(by rw[length_append]at hlen; omega);rcases zBA hq2 with ⟨j,rfl,hj⟩ | ⟨j,b,rr,x,y,rfl,h1,h2,h3⟩
    ·have hc1:=yAM n k row a m nodes slot old text j (by omega) hn;cases hc with
     | @ins _ p _ _ _ _ _ hh=>exact⟨_,_,_,hc1,yA0 n row p m nodes slot old text j af ⟨by omega,by omega⟩ (by omega),rfl⟩
     | @del _ p _ _ _ _ _ hh he =>
      obtain⟨b,e⟩:=yAO n row p m nodes slot old text j af ⟨by omega,by omega⟩ ⟨Int.natCast_nonneg _,by omega⟩ (by omega)
      exact⟨_,_,_,hc1,e,rfl⟩
     | @wrap _ p m v s _ _ hh=>exact⟨_,_,_,hc1,wrap_one n row p m [v] s old text _ j af ⟨by omega,by omega⟩ ⟨by omega,by omega⟩ ⟨by omega,by omega⟩,rfl⟩
     | @unwrap _ p _ v it z s _ _ hh hz' hm he =>
      have g1:=zGv hh;have g2:=Nd.cnts_mem (mem_of_getElem? hh)
      have g3:=it.cnt_kids;have g4:=Nd.cnts_mem (mem_of_getElem? hz')
      have g5:=z.cnt_kids;have g6:=Nd.cnts_len z.kids;obtain⟨b,e⟩:=yBp n row p m [v] (s:Int) old text (([v].length:Nat):Int) j af ⟨by omega,by omega⟩ ⟨Int.natCast_nonneg _,by omega⟩ ⟨by omega,by omega⟩
      exact⟨_,_,_,hc1,e,rfl⟩
     | set hh hl he=>exact⟨_,_,_,hc1,yBh n _ _ _ _ _ _ _ _ _ af,rfl⟩
    ·have hr0:rr ≠ []:=fun e=>by rw[e]at h3; exact h3
     have hj:=zGv h1;have hrr:rr.length<=1000 :=(by simp only[length_cons]at hq3; omega);have hc1:=yAN n k row a m nodes slot old text j b rr (by omega) (by omega) hr0 hn;cases hc with
     | @ins _ p _ _ _ _ _ hh=>exact⟨_,_,_,hc1,yA1 n row p m nodes slot old text j b rr af (by omega) hrr ⟨by omega,by omega⟩ (by omega),rfl⟩
     | @del _ p _ _ _ _ _ hh he =>
      obtain⟨b',e⟩:=yAP n row p m nodes slot old text j b rr af (by omega) hrr ⟨by omega,by omega⟩ ⟨Int.natCast_nonneg _,by omega⟩ (by omega)
      exact⟨_,_,_,hc1,e,rfl⟩
     | @wrap _ p m v s _ _ hh=>exact⟨_,_,_,hc1,yAb n row p m [v] s old text _ j b rr af (by omega) hrr ⟨by omega,by omega⟩ ⟨by omega,by omega⟩ ⟨by omega,by omega⟩,rfl⟩
     | @unwrap _ p _ v it z s _ _ hh hz' hm he =>
      have g1:=zGv hh;have g2:=Nd.cnts_mem (mem_of_getElem? hh)
      have g3:=it.cnt_kids;have g4:=Nd.cnts_mem (mem_of_getElem? hz')
      have g5:=z.cnt_kids;have g6:=Nd.cnts_len z.kids;obtain⟨w,r0,rfl⟩:∃ w r0,rr=w::r0:=by
       cases rr with
       | nil=>exact(hr0 rfl).elim
       | cons w r0=>exact⟨w,r0,rfl⟩
      have hw:=hb w (by simp)
      obtain⟨b',e⟩:=yBq n row p m [v] (s:Int) old text (([v].length:Nat):Int) j b w r0 af (by omega) (by simp only[length_cons]at hrr; omega) ⟨by omega,by omega⟩ ⟨Int.natCast_nonneg _,by omega⟩ ⟨by omega,by omega⟩ ⟨by omega,by omega⟩
      exact⟨_,_,_,hc1,e,rfl⟩
     | set hh hl he=>exact⟨_,_,_,hc1,yBi n _ _ _ _ _ _ _ _ _ _ _ af (by omega) hrr,rfl⟩
   obtain⟨⟨⟨p1,p2,p3,p4,p5,p6,p7,p8⟩,p9,p10,p11,p12,p13⟩,x,b,e1,e2,rfl⟩:=key;have hxl:(mvL k a m nodes.length slot af q').length<=1000:=by
    have g:=(zVw hr (l:=l) (fun q hq=>hc.pos af hf hq)) _ hq;have g2:=zEo hv ((zD7 _ _).2 g)
    rw[zQR row q' (by omega),length_append]at g2
    omega
   unfold zEK;simp only[e1,e2,obs,Bool.not_true,cond_false]
   rw[cat2 n (by omega) (by omega)]
   rfl
  ·have hn':∀ q',q' ≠ []->q ≠ row++q':=fun q' h1 h2=>hp ⟨q',h1,h2⟩
   obtain⟨⟨⟨p1,p2,p3,p4,p5,p6,p7,p8⟩,p9,p10,p11,p12,p13⟩,e⟩:=yBK n (k,row,a,m,nodes,slot,old,text) q hodd (by simp only[Op8.row]; omega) (by omega) (by simp only[Op8.row]; omega) hn hn';have hmo:mapO af (k,row,a,m,nodes,slot,old,text) q=q:=zX0 row q hodd hn';rw[hmo]
   have hcl:zAP q=some q:=zA5 (by omega)
   unfold zEK;simp only[e,obs,Bool.not_false,cond_true,hcl]
theorem zNW (n:Nat) (ops:List Op8) (af:Bool) (hn:5000<n) (hl:ops.length<=1073741824):∀ (k i:Nat) (t u:Nd) (q:List Int),ops.length - i<k->i<=ops.length->Runs t (ops.drop i) u 0->inL t.kids q->zBH n ops af k (i:Int) q=some (zNV af (ops.drop i) q)
 | 0,i,t,u,q,h,_,_,_=>by omega
 | k+1,i,t,u,q,h,hi,hr,hq=>by
  unfold zBH
  by_cases hj:i<ops.length
  ·rw[drop_eq_getElem_cons hj]at hr ⊢;rw[zAH (Int.ofNat_lt.2 hj),cond_true,zAK hj]
   generalize ops[i]=o at *;obtain⟨o1,o2,o3,o4,o5,o6,o7,o8⟩:=o;cases hr with
   | stop h he=>exact(he rfl).elim
   | @next _ t' _ _ _ _ h hr =>
    have e1:=yBv n h af hq hn;have hq':=(h.maps af).1 q hq;simp only[obs,e1]
    rw[zAL (by omega),zNW n ops af hn hl k (i+1) t' u _ (by omega) (by omega) hr hq']
    rfl
  ·rw[zAE (by omega),cond_false,List.drop_eq_nil_iff.2 (by omega)]
   rfl
theorem zRN (n:Nat){u:Nd}{ops:List Op8} (h:Runs t ops u 0) (af:Bool) (hq:inL t.kids q) (hv:zAB t=true) (hn:ops.length+5000<n) (hl:ops.length<=1073741824):zCX n ops q af=some (zNV af ops q):=by
 have hlen:=zEo hv ((zD7 t q).2 hq)
 have hcl:zAP q=some q:=zA5 (by omega)
 have e:=zNW n ops af (by omega) hl n 0 t u q (by omega) (Nat.zero_le _) (by rwa [drop_zero]) hq;rw[show((0:Nat):Int)=0 from rfl,drop_zero]at e;unfold zCX;simp only[hcl,obs,e]
mutual
theorem zTu:∀ (p:List Int) (i:Nat) (xs:List Nd),(posI p i xs).Pairwise leP
 | p,i,[]=>by rw[posI]; exact pairwise_singleton _ _
 | p,i,x::xs=>by
  rw[posI,pairwise_cons,pairwise_append]
  refine⟨fun q hq=>?_,zYi p i x,zTu p (i+1) xs,fun q hq q' hq'=>?_⟩
  ·rcases List.mem_append.1 hq with hq | hq
   ·obtain⟨s,r,rfl,_⟩:=(zQU p i x q).1 hq
    rw[append_assoc]
    exact(zJ8 p).2 (.inr ⟨rfl,by cases r <;> trivial⟩)
   ·obtain⟨a,r,rfl,h,_⟩:=(zMY p (i+1) xs q).1 hq
    exact(zJ8 p).2 (.inl (by omega))
  ·obtain⟨s,r,rfl,_⟩:=(zQU p i x q).1 hq
   obtain⟨a,r',rfl,h,_⟩:=(zMY p (i+1) xs q').1 hq'
   rw[append_assoc]
   exact(zJ8 p).2 (.inl (by omega))
theorem zYi:∀ (p:List Int) (i:Nat) (x:Nd),(posX p i x).Pairwise leP
 | p,i,.mk k t c ks=>by rw[posX]; exact zTv p i 0 ks
theorem zTv:∀ (p:List Int) (i s:Nat) (us:List Nd),(posS p i s us).Pairwise leP
 | p,i,s,[]=>by rw[posS]; exact .nil
 | p,i,s,u::us=>by
  rw[posS,pairwise_append]
  refine⟨zTw (p++[(i:Int),(s:Int)]) u,zTv p i (s+1) us,fun q hq q' hq'=>?_⟩
  obtain⟨r,rfl,_⟩:=(zQT (p++[(i:Int),(s:Int)]) u q).1 hq
  obtain⟨b,r',rfl,h,_⟩:=(zQS p i (s+1) us q').1 hq'
  rw[append_assoc,append_assoc]
  exact(zJ8 p).2 (.inr ⟨rfl,.inl (by omega)⟩)
theorem zTw:∀ (p:List Int) (u:Nd),(posU p u).Pairwise leP
 | p,.mk k t c ks=>by rw[posU]; exact zTu p 0 ks
end
theorem zYh (t:Nd):(posT t).Pairwise leP:=zTw [] t
structure Tok (n:Nat) (t:Nd):Prop where
 fuel:200000000<n
 valid:zAB t=true
variable {t:Nd}{n:Nat}
theorem Tok.w  (k:Tok n t):t.w<=202000:=zFS k.valid
theorem Tok.cnt  (k:Tok n t):t.cnt<=1000:=by
 obtain⟨_,_,c,_⟩:=zGM k.valid;exact c
theorem Tok.rv  (k:Tok n t):zAU n t=some (zAB t):=zCK n t (by have:=k.w; have:=k.fuel; omega) (by have:=k.w; omega)
variable {q:List Int}
theorem zVn {l:List Nd} (h:inL l q):0<q.length:=by
 cases q with
 | nil=>exact h.elim
 | cons a q=>simp
theorem Tok.short  (k:Tok n t) (h:inL t.kids q):q.length<=49:=zEo k.valid ((zD7 t q).2 h)
theorem zSv {a b:List Int} (ha:a.length<=1000000) (hb:b.length<=1000000):∀ (k x:Nat),a.length - x<k->x<a.length->x<b.length->∃ z:Nat,zB6 a b k (x:Int)=some (z:Int)/\z<a.length/\z<b.length
 | 0,x,h,_,_=>by omega
 | k+1,x,h,h1,h2=>by
  unfold zB6;have w2:i64.wrap ((x:Int)+2)=((x+2:Nat):Int) :=(by rw[wrap64_in (by omega) (by omega)]; omega);have w1:i64.wrap ((x:Int)+1)=((x+1:Nat):Int):=zAL (by omega)
  rw[w2,w1]
  by_cases h3:x+2<a.length
  ·rw[zAH (Int.ofNat_lt.2 h3),cond_true]
   by_cases h4:x+2<b.length
   ·rw[zAH (Int.ofNat_lt.2 h4),cond_true,zAK h1,zAK h2,zAK (show x+1<a.length by omega),zAK (show x+1<b.length by omega)]
    simp only[obs]
    cases(a[x] == b[x]) with
    | false=>exact⟨x,rfl,h1,h2⟩
    | true =>
     simp only[cond_true,obs]
     cases(a[x+1]'(by omega) == b[x+1]'(by omega)) with
     | false=>exact⟨x,rfl,h1,h2⟩
     | true =>
      simp only[cond_true]
      exact zSv ha hb k (x+2) (by omega) h3 h4
   ·rw[zAE (by omega)]
    exact⟨x,rfl,h1,h2⟩
  ·rw[zAE (by omega)]
   exact⟨x,rfl,h1,h2⟩
theorem zXH (p:List Int) (z:Nat) (hz:z<p.length):∃ a b,zGc p (z:Int)=some (a,b):=by
 unfold zGc;dsimp only;rw[zAK hz]
 simp only[obs]
 cases((p.length:Int) == i64.wrap ((z:Int)+1)) with
 | true=>exact⟨_,_,rfl⟩
 | false=>exact⟨_,_,rfl⟩
theorem zPg  (k:Tok n t) (a b:List Int):∃ r e,zCH n t a b=some (r,e)/\(e=0->inL t.kids a/\inL t.kids b/\r.1.length<=49):=by
 have hv:=k.rv;have hf:=k.fuel;have hc:=k.cnt;obtain⟨x,g1,g2⟩:=zG1 n t a hv (by omega) (by omega) (by omega)
 obtain⟨y,g3,g4⟩:=zG1 n t b hv (by omega) (by omega) (by omega)
 rw[k.valid]at hv;cases x with
 | false =>
  obtain⟨t1,t2,t3,t4⟩:=t;refine⟨([],0,0),2,?_,fun h=>by cases h⟩
  unfold zCH;simp only[hv,obs,Bool.not_true,cond_false,g1,Bool.not_false,cond_true]
 | true =>
  cases y with
  | false =>
   obtain⟨t1,t2,t3,t4⟩:=t;refine⟨([],0,0),2,?_,fun h=>by cases h⟩
   unfold zCH;simp only[hv,obs,Bool.not_true,cond_false,g1,g3,Bool.not_false,cond_true]
  | true =>
   have ia:=(g2.1 rfl).2;have ib:=(g4.1 rfl).2;have sa:=k.short ia;have sb:=k.short ib;obtain⟨z,e1,z1,z2⟩:=zSv (a:=a) (b:=b) (by omega) (by omega) n 0 (by omega) (zVn ia) (zVn ib)
   rw[show((0:Nat):Int)=0 from rfl]at e1;obtain⟨p1,p2,e2⟩:=zXH a z z1;obtain⟨q1,q2,e3⟩:=zXH b z z2;refine⟨((a.take (z:Int).toNat).drop (0:Int).toNat,(if q1<p1 then q1 else p1),(if p2<q2 then q2 else p2)),0,?_,fun _=>⟨ia,ib,?_⟩⟩
   ·obtain⟨t1,t2,t3,t4⟩:=t;unfold zCH;simp only[hv,obs,Bool.not_true,cond_false,g1,g3,e1,e2,e3]
    rw[zA5 ⟨by omega,by omega,by omega⟩,zA5 (by simp only[length_nil,length_drop,length_take]; omega)]
   ·simp only[length_drop,length_take]
    omega
theorem zHN  (k:Tok n t) (c:Cur):∃ r e,zCv n t c=some (r,e)/\(e=0->inL t.kids c.1/\r.1.length<=49):=by
 obtain⟨p,q⟩:=c;have key:∃ r e,zKX n t (p,q)=some (r,e)/\(e=0->inL t.kids p/\r.1.length<=49):=by
  obtain⟨r,e,h1,h2⟩:=zPg k p p;obtain⟨r',e',h3,h4⟩:=zPg k p q;obtain⟨t1,t2,t3,t4⟩:=t;obtain⟨r1,r2,r3⟩:=r;obtain⟨s1,s2,s3⟩:=r';unfold zKX;dsimp only;cases((q.length:Int) == 0) with
  | true =>
   simp only[cond_true,h1,obs]
   exact⟨_,_,rfl,fun h=>⟨(h2 h).1,(h2 h).2.2⟩⟩
  | false =>
   simp only[cond_false,h3,obs]
   exact⟨_,_,rfl,fun h=>⟨(h4 h).1,(h4 h).2.2⟩⟩
 obtain⟨r,e,h1,h2⟩:=key;obtain⟨t1,t2,t3,t4⟩:=t;obtain⟨r1,r2,r3⟩:=r;unfold zCv;simp only[h1,obs]
 exact⟨_,_,rfl,h2⟩
theorem yBr (l:List Nd) (p q:Nat):Nd.ws ((l.take q).drop p)<=Nd.ws l:=by
 have h1:=Nd.ws_append (l.take q) (l.drop q)
 have h2:=Nd.ws_append ((l.take q).take p) ((l.take q).drop p)
 rw[take_append_drop]at h1 h2
 omega
theorem yAt {p:List Int}:(rowS t p).1.w<=t.w:=by
 have h1:zCy.w<=t.w :=(by have:=zHD (v:=t); show 1<=t.w; omega);unfold rowS;split
 ·cases h:zBE t p with
  | none=>exact h1
  | some r=>exact(zIy _ p t r (Nat.lt_succ_self _) h).1
 ·exact h1
theorem zU6  (k:Tok n t) (r:List Int×Int×Int) (hp:r.1.length<=100):∃ l e,zFh n t r=some (l,e)/\Nd.ws l<=t.w:=by
 obtain⟨p,x,y⟩:=r;have hf:=k.fuel;have hw:=k.w;have hr:=zJe n t p (by dsimp only at hp; omega) k.rv;have hle:=yAt (t:=t) (p:=p)
 generalize rowS t p=q at hr hle;obtain⟨⟨u1,u2,u3,u4⟩,e⟩:=q;have hu:Nd.ws u4<=t.w:=by
  have:(Nd.mk u1 u2 u3 u4).w=u2.length+Nd.ws u4+1:=rfl;have hle':(Nd.mk u1 u2 u3 u4).w<=t.w:=hle
  omega
 have hul:=Nd.ws_len u4;obtain⟨t1,t2,t3,t4⟩:=t;unfold zFh;simp only[hr,obs]
 cases(e != 0) with
 | true=>exact⟨[],e,rfl,Nat.zero_le _⟩
 | false =>
  simp only[cond_false]
  by_cases h1:x<0
  ·rw[zAH h1]
   exact⟨[],2,rfl,Nat.zero_le _⟩
  ·rw[zAE h1]
   by_cases h2:y<x
   ·rw[zAH h2]
    exact⟨[],2,rfl,Nat.zero_le _⟩
   ·rw[zAE h2]
    by_cases h3:(u4.length:Int)<y
    ·rw[zAH h3]
     exact⟨[],2,rfl,Nat.zero_le _⟩
    ·rw[zAE h3]
     simp only[cond_false,obs]
     rw[zA5 ⟨by omega,by omega,by omega⟩,zA5 (by simp only[length_nil,length_drop,length_take]; omega)]
     exact⟨_,_,rfl,Nat.le_trans (yBr _ _ _) hu⟩
theorem zXC  (k:Tok n t) (r:List Int×Int×Int) (hp:r.1.length<=100):∃ l,zGA n t r=some l/\l.length<=1/\∀ o∈l,zHy o<=t.w+100:=by
 obtain⟨l,e,h1,h2⟩:=zU6 k r hp;obtain⟨p,x,y⟩:=r;obtain⟨t1,t2,t3,t4⟩:=t;unfold zGA;simp only[h1,obs]
 cases((l.length:Int) == 0) with
 | true=>exact⟨[],rfl,by simp,fun o h=>by cases h⟩
 | false =>
  refine⟨_,rfl,by simp,fun o h=>?_⟩
  rw[List.mem_singleton.1 h]
  simp only[zHy,Op8.nodes,Op8.text,Op8.row,length_nil]
  dsimp only at hp
  omega
def Ans (t:Nd) (x:Option (Rc×Int)):Prop:=∃ r e,x=some (r,e)/\RFew r/\(e=0->∃ u,Runs t r.1 u 0)
theorem yAg:RFew (([],([],[]),([],[])):Rc):=⟨by decide,fun o h=>(by cases h),by decide,by decide,by decide,by decide⟩
theorem Ans.zero  (e:Int) (he:e ≠ 0):Ans t (some ((([],([],[]),([],[])):Rc),e)):=⟨_,_,rfl,yAg,fun h=>(he h).elim⟩
theorem zFQ  (k:Tok n t) (c:Cur) (ops:List Op8) (pos:List Int) (hc:c.1.length<=10000/\c.2.length<=10000) (hl:ops.length<=12) (ho:∀ o∈ops,zHy o<=1048576) (hp:pos.length<=1000000):Ans t (zBC n t c ops pos):=by
 have hf:RFew (ops,c,(pos,[])):=⟨hl,ho,by have:=hc.1; dsimp only; omega,by have:=hc.2; dsimp only; omega,by dsimp only; omega,Nat.zero_le _⟩
 obtain⟨u,i,e,h1,h2⟩:=hf.ref n k.fuel k.valid;obtain⟨c1,c2⟩:=c;obtain⟨u1,u2,u3,u4⟩:=u;obtain⟨t1,t2,t3,t4⟩:=t;dsimp only at h1;unfold zBC;simp only[h1,obs]
 cases he:(e != 0) with
 | true=>exact Ans.zero 6 (by decide)
 | false =>
  obtain rfl:e=0 :=(by simpa using he);exact⟨_,_,rfl,hf,fun _=>⟨_,h2⟩⟩
theorem zHK (p q:List Int) (hp:p.length<=1000000) (hq:q.length<=1000000):zD5 p q=some (p++q):=by
 unfold zD5;dsimp only;rw[zA5 (by simp only[length_nil]; omega),zA5 (by omega)]
theorem zMi (ks:List Nd) (but:Int) (hl:ks.length<=1073741824):∀ (k i:Nat),ks.length - i<k->i<=ks.length->∃ fl,zB7 ks but k (i:Int)=some fl
 | 0,i,h,_=>by omega
 | k+1,i,h,hi=>by
  unfold zB7
  by_cases hj:i<ks.length
  ·rw[zAH (Int.ofNat_lt.2 hj),cond_true,zAK hj]
   obtain⟨x1,x2,x3,x4⟩:=ks[i];have ih:=zMi ks but hl k (i+1) (by omega) (by omega)
   rw[zAL (by omega)]
   cases((i:Int) != but) with
   | false =>
    simp only[cond_false,obs]
    exact ih
   | true =>
    simp only[cond_true,obs]
    cases decide (0<(x4.length:Int)) with
    | true=>exact⟨_,rfl⟩
    | false=>exact ih
  ·rw[zAE (by omega)]
   exact⟨_,rfl⟩
theorem zPy (n:Nat) (x:Nd) (but:Int) (hl:x.kids.length<=1073741824) (hn:x.kids.length<n):∃ b,zD6 n x but=some b:=by
 obtain⟨fl,h⟩:=zMi x.kids but hl n 0 (by omega) (Nat.zero_le _)
 rw[show((0:Nat):Int)=0 from rfl]at h;obtain⟨x1,x2,x3,x4⟩:=x;simp only[Nd.kids]at h;unfold zD6;simp only[h,obs]
 cases fl with
 | ret b=>exact⟨b,rfl⟩
 | go u=>exact⟨false,rfl⟩
theorem zPE:∀ (q:List Int) (v:Nd),inL v.kids q->3<=q.length->∃ (p:List Int) (i s:Nat) (o:Int) (row x u:Nd),q=p++[(i:Int),(s:Int),o]/\zBE v p=some row/\row.kids[i]? = some x/\x.kids[s]? = some u
 | [],v,h,_=>h.elim
 | [_],v,_,h=>by simp at h
 | [_,_],v,h,_=>by
  obtain⟨_,_,_,_,u,_,h⟩:=zDx.1 h;exact h.elim
 | a::b::c::[],v,h,_=>by
  obtain⟨h1,x,h2,h3,u,h4,h5⟩:=zDx.1 h;refine⟨[],a.toNat,b.toNat,c,v,x,u,?_,?_,h2,h4⟩
  ·rw[Int.toNat_of_nonneg h1,Int.toNat_of_nonneg h3]; rfl
  ·rw[zBE]
 | a::b::c::d::r,v,h,_=>by
  obtain⟨h1,x,h2,h3,u,h4,h5⟩:=zDx.1 h;have hr:3<=(c::d::r).length:=by
   cases r with
   | nil =>
    obtain⟨_,_,_,_,u',_,h⟩:=zDx.1 h5;exact h.elim
   | cons e r=>simp
  obtain⟨p,i,s,o,row,x',u',g1,g2,g3,g4⟩:=zPE (c::d::r) u h5 hr;refine⟨a::b::p,i,s,o,row,x',u',by rw[g1]; rfl,?_,g3,g4⟩
  have:=zNK (n:=v) (p:=p) h2 h4;rw[Int.toNat_of_nonneg h1,Int.toNat_of_nonneg h3]at this;rw[this]
  exact g2
variable {p:List Int}{t:Nd}
theorem yA2 {i:Int}:(zUq t p i).1.w<=t.w:=by
 have h1:zCy.w<=t.w :=(by have:=zHD (v:=t); show 1<=t.w; omega);unfold zUq;split
 ·cases h:zBE t p with
  | none=>exact h1
  | some r =>
   dsimp only;have hw:=(zIy _ p t r (Nat.lt_succ_self _) h).1;split
   ·rename_i hi
    have hlt:i.toNat<r.kids.length :=(by omega);have hm:r.kids.getD i.toNat r∈r.kids :=(by rw[getD_eq_getElem?_getD,List.getElem?_eq_getElem hlt]; exact getElem_mem hlt);have:=Nd.w_mem hm;have:=zHD (v:=r)
    dsimp only
    omega
   ·exact h1
 ·exact h1
variable {n:Nat}
theorem zKK  (k:Tok n t){q:List Int} (h:inL t.kids q):(∃ y,zCk n t q=some (y,false)) ∨
  ∃ (p:List Int) (i s:Nat) (o:Int) (x u:Nd),q=p++[(i:Int),(s:Int),o]/\p.length<=46/\zCk n t q=some ((p,(i:Int),(s:Int),x),true)/\x.kids[s]? = some u/\x.w<=t.w/\zFz x=true/\i<=1000/\x.kids.length<=1000:=by
 have hs:=k.short h;have hf:=k.fuel
 by_cases h3:q.length<3
 ·left
  obtain⟨t1,t2,t3,t4⟩:=t;unfold zCk;dsimp only;rw[zAH (by omega),cond_true]
  exact⟨_,rfl⟩
 ·right
  obtain⟨p,i,s,o,row,x,u,rfl,g2,g3,g4⟩:=zPE q t h (by omega)
  simp only[length_append,length_cons,length_nil]at hs;have hp:p.length<=46 :=(by omega);have hfd:=zZl g2;obtain⟨vk,vf,vc,vd⟩:=zGM k.valid;obtain⟨rf,rk⟩:=hfd.form vf vk;have hm:=mem_of_getElem? g3;have hsub:=zIy _ p t row (Nat.lt_succ_self _) g2;have hw:=Nd.w_mem hm;have hrw:=zHD (v:=row)
  have hil:=(List.getElem?_eq_some_iff.1 g3).1;have hcm:=Nd.cnts_mem hm;have hck:=row.cnt_kids;have hcl:=Nd.cnts_len row.kids;have hxk:=x.cnt_kids;have hxl:=Nd.cnts_len x.kids;have hfx:zFz x=true:=(zGu (k:=row.kind) (a:=row.kids) (by cases row; exact zKS rf) hm).1;have hit:=zOf n t p (i:Int) (by omega) k.rv;have hitS:zUq t p (i:Int)=(x,0):=by
   unfold zUq;rw[if_pos k.valid,g2]
   dsimp only;rw[if_pos ⟨by omega,by omega⟩,Int.toNat_natCast,getD_eq_getElem?_getD,g3]
   rfl
  rw[hitS]at hit;refine⟨p,i,s,o,x,u,rfl,hp,?_,g4,by omega,hfx,by omega,by omega⟩
  have l0:((p++[(i:Int),(s:Int),o]).length:Int)=((p.length+3:Nat):Int) :=(by simp);have w3:i64.wrap (((p.length+3:Nat):Int) - 3)=(p.length:Int) :=(by rw[wrap64_in (by omega) (by omega)]; omega);have w2:i64.wrap (((p.length+3:Nat):Int) - 2)=((p.length+1:Nat):Int) :=(by rw[wrap64_in (by omega) (by omega)]; omega);have a1:at? (p++[(i:Int),(s:Int),o]) (p.length:Int)=some (i:Int):=by
   rw[zAK (by simp)]; simp
  have a2:at? (p++[(i:Int),(s:Int),o]) ((p.length+1:Nat):Int)=some (s:Int):=by
   rw[zAK (by simp)]; simp
  have tk:((p++[(i:Int),(s:Int),o]).take (p.length:Int).toNat).drop (0:Int).toNat=p:=by
   rw[Int.toNat_natCast,take_left]; rfl
  obtain⟨t1,t2,t3,t4⟩:=t;obtain⟨x1,x2,x3,x4⟩:=x;unfold zCk;dsimp only;rw[l0,zAE (by omega),cond_false,w3,w2,a1,a2,tk,zA5 ⟨by omega,by omega,by omega⟩]
  simp only[obs,hit]
  rw[zA5 ⟨by omega,by omega,by omega⟩]
theorem zOC (p:List Int) (i s:Nat){x u:Nd} (hu:x.kids[s]? = some u) (hl:x.kids.length<=1000) (hp:p.length<=46):∃ m z,zEO (p,(i:Int),(s:Int),x)=some (4,p,(i:Int),m,[z],(s:Int),[],[])/\z.w<=x.w+2:=by
 have hr:=zE6 (k:=x.kind) (tx:=x.text) (c:=x.cols) (ks:=x.kids) (i:=s) (x:=.mk 1 [] 0 []) hu (by omega)
 have ha:=zNu hu;have hw:=zKk (y:=.mk 1 [] 0 []) hu;have e1:(Nd.mk 1 [] 0 []).w=1:=rfl;have e2:=zHD (v:=x)
 have e3:(Nd.mk x.kind x.text x.cols (x.kids.set s (.mk 1 [] 0 []))).w=x.text.length+Nd.ws (x.kids.set s (.mk 1 [] 0 []))+1:=rfl;have e4:=zHD (v:=u)
 refine⟨(u.kids.length:Int),.mk x.kind x.text x.cols (x.kids.set s (.mk 1 [] 0 [])),?_,by omega⟩
 obtain⟨x1,x2,x3,x4⟩:=x;obtain⟨u1,u2,u3,u4⟩:=u;simp only[Nd.kind,Nd.text,Nd.cols,Nd.kids]at hr ha;unfold zEO zA2;simp only[ha,obs,hr]
 rfl
theorem zRJ {i m s:Int}{z:Nd}:zHy (4,p,i,m,[z],s,[],[])=z.w+1+p.length:=by
 simp[zHy,Op8.nodes,Op8.text,Op8.row,Nd.ws]
theorem zW9  (k:Tok n t) (c:Cur) (items:List Nd) (hc:c.1.length<=10000/\c.2.length<=10000) (hi:Nd.ws items<=1000000):Ans t (zC0 n t c items):=by
 have hv:=k.rv;have hf:=k.fuel;have hw:=k.w;rw[k.valid]at hv;have hi2:=zF7 n items (by omega) (by omega)
 have hil:=Nd.ws_len items;obtain⟨⟨r1,r2,r3⟩,e,h1,h2⟩:=zHN k c
 by_cases he:e=0
 ·obtain⟨g1,g2⟩:=h2 he;obtain⟨l,h3,h4,h5⟩:=zXC k (r1,r2,r3) (by dsimp only at g2 ⊢; omega)
  have h6:=zHK r1 [i64.wrap (r2+(items.length:Int))] (by dsimp only at g2; omega) (by simp)
  have h7:=zFQ k c (l++[(1,r1,r2,0,items,0,[],[])]) (r1++[i64.wrap (r2+(items.length:Int))]) hc (by simp only[length_append,length_cons,length_nil]; omega) (fun o ho=>by
   rcases List.mem_append.1 ho with ho | ho
   ·have:=h5 o ho; omega
   ·rw[List.mem_singleton.1 ho]
    simp only[zHy,Op8.nodes,Op8.text,Op8.row,length_nil]
    dsimp only at g2
    omega) (by simp only[length_append,length_cons,length_nil]; dsimp only at g2; omega)
  have h8:=zFQ k c l (r1++[i64.wrap (r2+(items.length:Int))]) hc (by omega) (fun o ho=>by have:=h5 o ho; omega) (by simp only[length_append,length_cons,length_nil]; dsimp only at g2; omega)
  obtain⟨c1,c2⟩:=c;obtain⟨t1,t2,t3,t4⟩:=t;unfold zC0;simp only[hv,hi2,obs,Bool.not_true,cond_false]
  cases zAB (rowN items) with
  | false=>exact Ans.zero 1 (by decide)
  | true =>
   simp only[Bool.not_true,cond_false,h1,obs,he,show((0:Int) != 0)=false from rfl,h3,h6]
   cases decide (0<(items.length:Int)) with
   | true =>
    simp only[cond_true]
    rw[zA5 (by simp only[length_cons,length_nil]; omega)]
    simp only[obs]
    obtain⟨⟨a,⟨b1,b2⟩,⟨d1,d2⟩⟩,e',q1,q2⟩:=h7;simp only[q1,obs]
    exact⟨_,_,rfl,q2⟩
   | false =>
    simp only[cond_false,obs]
    obtain⟨⟨a,⟨b1,b2⟩,⟨d1,d2⟩⟩,e',q1,q2⟩:=h8;simp only[q1,obs]
    exact⟨_,_,rfl,q2⟩
 ·obtain⟨c1,c2⟩:=c;obtain⟨t1,t2,t3,t4⟩:=t;unfold zC0;simp only[hv,hi2,obs,Bool.not_true,cond_false]
  cases zAB (rowN items) with
  | false=>exact Ans.zero 1 (by decide)
  | true =>
   simp only[Bool.not_true,cond_false,h1,obs,show(e != 0)=true from bne_iff_ne.2 he,cond_true]
   exact Ans.zero e he
theorem zTQ (ks:List Nd) (sl:Int) (row:List Int) (a b:Int) (hr:row.length<=1000) (hl:ks.length<=1000000):∀ (k t:Nat) (x:List Int),t<k->t<=ks.length->x.length<=2000->∃ y,zCJ ks sl row a b k x ((t:Int) - 1)=some y/\y.length<=2000
 | 0,t,x,h,_,_=>by omega
 | k+1,0,x,_,_,hx=>by
  unfold zCJ;rw[zAE (by omega)]
  exact⟨x,rfl,hx⟩
 | k+1,t+1,x,h,ht,hx=>by
  unfold zCJ;have ez:(((t+1:Nat):Int) - 1)=(t:Int) :=(by omega);have g:ks[t]? = some (ks[t]'(by omega)):=List.getElem?_eq_getElem (by omega)
  generalize ks[t]'(by omega)=v at g;have ha:=zHK row [a,(t:Int),0] (by omega) (by simp)
  obtain⟨v1,v2,v3,v4⟩:=v;have w1:i64.wrap ((t:Int) - 1)=(t:Int) - 1:=wrap64_in (by omega) (by omega)
  rw[ez,zAH (by omega),cond_true,zNu g,ha,w1]
  simp only[obs]
  have ih:=fun x hx=>zTQ ks sl row a b hr hl k t x (by omega) (by omega) hx
  cases hc:((v4.length:Int) == 0) with
  | false =>
   simp only[cond_false,obs]
   exact ih x hx
  | true =>
   simp only[cond_true]
   cases((t:Int) != sl) with
   | true =>
    simp only[cond_true,obs]
    exact ih _ (by simp only[length_append,length_cons,length_nil]; omega)
   | false =>
    simp only[cond_false,obs]
    cases(i64.wrap (b - a) == 0) with
    | true =>
     simp only[cond_true,obs]
     exact ih _ (by simp only[length_append,length_cons,length_nil]; omega)
    | false =>
     simp only[cond_false,obs]
     exact ih x hx
theorem yAB  (k:Tok n t) (c:Cur) (x:Nd) (sl:Int) (hc:c.1.length<=10000/\c.2.length<=10000) (hx:x.w<=1000000):Ans t (zEN n t c x sl):=by
 have hv:=k.rv;have hf:=k.fuel;rw[k.valid]at hv;have hws:Nd.ws [x]=x.w+1 :=(by simp[Nd.ws]);obtain⟨fb,hfo,_⟩:=zHX n 3 [] 0 0 [x] sl [] [] (by omega) (by omega)
 have hkw:=zHD (v:=x)
 have hkl:=Nd.ws_len x.kids;obtain⟨⟨r1,r2,r3⟩,e,h1,h2⟩:=zHN k c
 by_cases he:e=0
 ·obtain⟨g1,g2⟩:=h2 he;dsimp only at g2;have h6:=zHK r1 [i64.wrap (r2+1)] (by omega) (by simp)
  obtain⟨y,h7,h8⟩:=zTQ x.kids sl r1 r2 r3 (by omega) (by omega) n x.kids.length (r1++[i64.wrap (r2+1)]) (by omega) (Nat.le_refl _) (by simp only[length_append,length_cons,length_nil]; omega)
  have h9:=zFQ k c [(3,r1,r2,i64.wrap (r3 - r2),[x],sl,[],[])] y hc (by simp) (fun o ho=>by
   rw[List.mem_singleton.1 ho]
   simp only[zHy,Op8.nodes,Op8.text,Op8.row,length_nil,hws]
   omega) (by omega)
  have hwr:i64.wrap ((x.kids.length:Int) - 1)=(x.kids.length:Int) - 1:=wrap64_in (by omega) (by omega)
  obtain⟨c1,c2⟩:=c;obtain⟨t1,t2,t3,t4⟩:=t;obtain⟨x1,x2,x3,x4⟩:=x;simp only[Nd.kids]at h7 hwr;unfold zEN;simp only[hv,hfo,obs,Bool.not_true,cond_false]
  cases fb with
  | false=>exact Ans.zero 1 (by decide)
  | true =>
   simp only[Bool.not_true,cond_false,h1,obs,he,show((0:Int) != 0)=false from rfl,h6,hwr,h7]
   obtain⟨⟨a,⟨b1,b2⟩,⟨d1,d2⟩⟩,e',q1,q2⟩:=h9;simp only[q1,obs]
   exact⟨_,_,rfl,q2⟩
 ·obtain⟨c1,c2⟩:=c;obtain⟨t1,t2,t3,t4⟩:=t;obtain⟨x1,x2,x3,x4⟩:=x;unfold zEN;simp only[hv,hfo,obs,Bool.not_true,cond_false]
  cases fb with
  | false=>exact Ans.zero 1 (by decide)
  | true =>
   simp only[Bool.not_true,cond_false,h1,obs,show(e != 0)=true from bne_iff_ne.2 he,cond_true]
   exact Ans.zero e he
theorem zOD (a b:List Int) (o:Int) (s:Int) (i:Int) (hb:a=b++[i,s,o]) (hl:b.length<=1000000):∀ (k j:Nat),b.length - j<k->j<=b.length->zCt a b k (j:Int)=some (.go ())
 | 0,j,h,_=>by omega
 | k+1,j,h,hj=>by
  unfold zCt
  by_cases h1:j<b.length
  ·have h2:j<a.length :=(by rw[hb]; simp; omega);have e:a[j]=b[j] :=(by subst hb; rw[getElem_append_left h1]);rw[zAH (Int.ofNat_lt.2 h1),cond_true,zAK h1,zAK h2,e]
   simp only[obs,bne_self_eq_false,cond_false]
   rw[zAL (by omega)]
   exact zOD a b o s i hb hl k (j+1) (by omega) (by omega)
  ·rw[zAE (by omega)]; rfl
theorem yAA (n:Nat) (p:List Int) (i s:Nat) (o m:Int) (z:Nd) (hp:p.length<=46) (hn:1000<n):∃ y,zIG n (4,p,(i:Int),m,[z],(s:Int),[],[]) (p++[(i:Int),(s:Int),o]) false=some y/\y.length<=1000:=by
 have hw:=zOD (p++[(i:Int),(s:Int),o]) p o s i rfl (by omega) n 0 (by omega) (Nat.zero_le _)
 rw[show((0:Nat):Int)=0 from rfl]at hw;have l0:((p++[(i:Int),(s:Int),o]).length:Int)=(p.length:Int)+3 :=(by simp);have w1:i64.wrap ((p.length:Int)+1)=(p.length:Int)+1:=wrap64_in (by omega) (by omega)
 have w2:i64.wrap ((p.length:Int)+2)=(p.length:Int)+2:=wrap64_in (by omega) (by omega)
 have hwi:zFN n (p++[(i:Int),(s:Int),o]) p=some true:=by
  unfold zFN;dsimp only;rw[l0,zAE (by omega),cond_false,hw]
  simp only[obs]
  rw[w2]
  congr 1
  exact bne_iff_ne.2 (by omega)
 have a1:at? (p++[(i:Int),(s:Int),o]) (p.length:Int)=some (i:Int) :=(by rw[zAK (by simp)]; simp);have a2:at? (p++[(i:Int),(s:Int),o]) ((p.length:Int)+1)=some (s:Int):=by
  rw[show((p.length:Int)+1)=((p.length+1:Nat):Int) from rfl,zAK (by simp)]; simp
 have dr:((p++[(i:Int),(s:Int),o]).take ((p.length:Int)+3).toNat).drop ((p.length:Int)+2).toNat=[o]:=by
  rw[show((p.length:Int)+3).toNat=p.length+3 by omega,show((p.length:Int)+2).toNat=p.length+2 by omega,take_of_length_le (by simp),drop_append]
  simp
 have ins:∃ y,zFM (4,p,(i:Int),m,[z],(s:Int),[],[]) (i:Int) (s:Int) [o]=some y/\y.length=1:=by
  refine⟨[i64.wrap ((i:Int)+o)],?_,rfl⟩
  have d1:decide ((i:Int)<(i:Int))=false:=zAE (by omega)
  have d2:decide ((s:Int)<(s:Int))=false:=zAE (by omega)
  unfold zFM;simp only[d1,d2,cond_false,cond_true,obs,beq_self_eq_true,show((4:Int) == 1)=false from rfl,show((4:Int) == 2)=false from rfl,show((4:Int) == 3)=false from rfl]
  rfl
 obtain⟨y,e1,e2⟩:=ins;refine⟨p++y,?_,by rw[length_append,e2]; omega⟩
 unfold zIG;simp only[hwi,obs,Bool.not_true,cond_false]
 rw[zA5 (by simp only[length_nil]; omega),l0,w1,zB1 (by omega),cond_false,a1,a2,w2,dr]
 simp only[obs]
 rw[zA5 ⟨by omega,by omega,by omega⟩,e1]
 simp only[obs]
 rw[zA5 (by rw[e2]; omega)]
theorem zXn {n:Nat}{t:Nd} (k:Tok n t) (c:Cur) (hc:c.1.length<=10000/\c.2.length<=10000):Ans t (zDS n t c):=by
 have hf:=k.fuel;have hw:=k.w;obtain⟨⟨r1,r2,r3⟩,e,h1,h2⟩:=zHN k c
 by_cases he:e=0
 ·obtain⟨g1,g2⟩:=h2 he;rcases zKK k g1 with ⟨⟨y1,y2,y3,⟨y4,y5,y6,y7⟩⟩,h3⟩ | ⟨p,i,s,o,x,u,q1,q2,q3,q4,q5,q6,q7,q8⟩
  ·obtain⟨c1,c2⟩:=c;obtain⟨t1,t2,t3,t4⟩:=t;unfold zDS;simp only[h1,obs,he,show((0:Int) != 0)=false from rfl,cond_false,h3,Bool.not_false,cond_true]
   exact Ans.zero 8 (by decide)
  ·obtain⟨m,z,h4,h5⟩:=zOC p i s q4 q8 q2;obtain⟨y,h6,h7⟩:=yAA n p i s o m z q2 (by omega)
   rw[← q1]at h6;have h8:=zFQ k c [(4,p,(i:Int),m,[z],(s:Int),[],[])] y hc (by simp) (fun o ho=>by rw[List.mem_singleton.1 ho,zRJ]; omega) (by omega)
   obtain⟨c1,c2⟩:=c;obtain⟨t1,t2,t3,t4⟩:=t;obtain⟨x1,x2,x3,x4⟩:=x;dsimp only at h6;unfold zDS;simp only[h1,obs,he,show((0:Int) != 0)=false from rfl,cond_false,q3,Bool.not_true,h4,h6]
   obtain⟨⟨a,⟨b1,b2⟩,⟨d1,d2⟩⟩,e',w1,w2⟩:=h8;simp only[w1,obs]
   exact⟨_,_,rfl,w2⟩
 ·obtain⟨c1,c2⟩:=c;obtain⟨t1,t2,t3,t4⟩:=t;unfold zDS;simp only[h1,obs,show(e != 0)=true from bne_iff_ne.2 he,cond_true]
  exact Ans.zero e he
theorem zVq {p:List Int}{a b o:Int}:(((p++[a,b,o]).length:Int)=(p.length:Int)+3)/\at? (p++[a,b,o]) ((p.length:Int)+2)=some o:=by
 refine⟨by simp,?_⟩
 rw[show((p.length:Int)+2)=((p.length+2:Nat):Int) from rfl,zAK (by simp)]
 simp
theorem zZa {n:Nat}{t:Nd} (k:Tok n t) (c:Cur) (hc:c.1.length<=10000/\c.2.length<=10000):Ans t (zEx n t c):=by
 have hf:=k.fuel;have hw:=k.w;obtain⟨⟨r1,r2,r3⟩,e,h1,h2⟩:=zHN k c
 by_cases he:e=0
 ·obtain⟨g1,g2⟩:=h2 he;rcases zKK k g1 with ⟨⟨y1,y2,y3,⟨y4,y5,y6,y7⟩⟩,h3⟩ | ⟨p,i,s,o,x,u,q1,q2,q3,q4,q5,q6,q7,q8⟩
  ·obtain⟨c1,c2⟩:=c;obtain⟨t1,t2,t3,t4⟩:=t;unfold zEx;simp only[h1,obs,he,show((0:Int) != 0)=false from rfl,cond_false,h3,Bool.not_false,cond_true]
   exact Ans.zero 8 (by decide)
  ·obtain⟨l0,a0⟩:=zVq (p:=p) (a:=(i:Int)) (b:=(s:Int)) (o:=o)
   rw[← q1]at l0 a0;have w1:i64.wrap ((c.1.length:Int) - 1)=(p.length:Int)+2 :=(by rw[l0,wrap64_in (by omega) (by omega)]; omega);have h4:=zHK p [(i:Int),(s:Int)] (by omega) (by simp)
   obtain⟨l,e2,h5,h6⟩:=zU6 k (p++[(i:Int),(s:Int)],o,(u.kids.length:Int)) (by simp only[length_append,length_cons,length_nil]; omega)
   obtain⟨l',h7,h8,h9⟩:=zXC k (p++[(i:Int),(s:Int)],o,(u.kids.length:Int)) (by simp only[length_append,length_cons,length_nil]; omega)
   have ha:=zNu q4;have hr:=zE6 (k:=x.kind) (tx:=x.text) (c:=x.cols) (ks:=x.kids) (i:=s) (x:=.mk 1 [] 0 l) q4 (by omega)
   have hws:=zKk (y:=.mk 1 [] 0 l) q4;have hl1:(Nd.mk 1 [] 0 l).w=Nd.ws l+1 :=(by simp[Nd.w]);have hk:=zHD (v:=x)
   have hz:(Nd.mk x.kind x.text x.cols (x.kids.set s (.mk 1 [] 0 l))).w=x.text.length+Nd.ws (x.kids.set s (.mk 1 [] 0 l))+1:=rfl;have h10:=zHK p [i64.wrap ((i:Int)+1),(s:Int),0] (by omega) (by simp)
   have h11:=zFQ k c (l'++[(1,p,i64.wrap ((i:Int)+1),0,[Nd.mk x.kind x.text x.cols (x.kids.set s (.mk 1 [] 0 l))],0,[],[])]) (p++[i64.wrap ((i:Int)+1),(s:Int),0]) hc (by simp only[length_append,length_cons,length_nil]; omega) (fun o ho=>by
    rcases List.mem_append.1 ho with ho | ho
    ·have:=h9 o ho; omega
    ·rw[List.mem_singleton.1 ho]
     simp only[zHy,Op8.nodes,Op8.text,Op8.row,length_nil,Nd.ws]
     omega) (by simp only[length_append,length_cons,length_nil]; omega)
   obtain⟨c1,c2⟩:=c;obtain⟨t1,t2,t3,t4⟩:=t;obtain⟨x1,x2,x3,x4⟩:=x;obtain⟨u1,u2,u3,u4⟩:=u;simp only[Nd.kind,Nd.text,Nd.cols,Nd.kids]at *;unfold zEx zA2;simp only[h1,obs,he,show((0:Int) != 0)=false from rfl,cond_false,q3,Bool.not_true,w1,a0]
   have hb:∃ v,(bif decide (r2<r3) then some true else bif (x1 != 11) then some (x1 != 10) else some false:Option Bool)=some v:=by
    cases decide (r2<r3) <;> cases(x1 != 11) <;> exact⟨_,rfl⟩
   obtain⟨v,hb⟩:=hb;simp only[hb,obs]
   cases v with
   | true=>exact Ans.zero 7 (by decide)
   | false =>
    simp only[cond_false,h4,ha,h5,h7,h10,hr,obs]
    rw[zA5 (by simp only[length_cons,length_nil]; omega)]
    obtain⟨⟨a,⟨b1,b2⟩,⟨d1,d2⟩⟩,e',q1',q2'⟩:=h11;simp only[q1',obs]
    exact⟨_,_,rfl,q2'⟩
 ·obtain⟨c1,c2⟩:=c;obtain⟨t1,t2,t3,t4⟩:=t;unfold zEx;simp only[h1,obs,show(e != 0)=true from bne_iff_ne.2 he,cond_true]
  exact Ans.zero e he
theorem zYj (q:List Int) (h0:0<q.length) (h1:q.length<=1000000):∃ p o,q=p++[o]/\i64.wrap ((q.length:Int) - 1)=(p.length:Int)/\at? q (p.length:Int)=some o/\(q.take (p.length:Int).toNat).drop (0:Int).toNat=p/\p.length+1=q.length:=by
 rcases eq_nil_or_concat q with rfl | ⟨p,o,rfl⟩
 ·simp at h0
 ·rw[concat_eq_append]at *;rw[length_append,length_singleton]at h1;refine⟨p,o,rfl,?_,?_,?_,by simp⟩
  ·rw[length_append,length_singleton,wrap64_in (by omega) (by omega)]; omega
  ·rw[zAK (by simp)]; simp
  ·rw[Int.toNat_natCast,take_left]; rfl
variable {t:Nd}{n:Nat}
theorem yBz  (k:Tok n t) (c:Cur) (x:List UInt8) (hc:c.1.length<=10000/\c.2.length<=10000) (hx:x.length<=10000):Ans t (zHw n t c x):=by
 have hf:=k.fuel;have hw:=k.w;obtain⟨⟨r1,r2,r3⟩,e,h1,h2⟩:=zHN k c
 by_cases he:e=0
 ·obtain⟨g1,g2⟩:=h2 he;have hs:=k.short g1;obtain⟨c1,c2⟩:=c;dsimp only at g1 hs hc;obtain⟨p,o,p1,p2,p3,p4,p5⟩:=zYj c1 (zVn g1) (by omega)
  have hi:=zOf n t p (i64.wrap (o - 1)) (by omega) k.rv;have hiw:=yA2 (t:=t) (p:=p) (i:=i64.wrap (o - 1))
  generalize zUq t p (i64.wrap (o - 1))=y at hi hiw;obtain⟨⟨y1,y2,y3,y4⟩,ye⟩:=y;have hy:(Nd.mk y1 y2 y3 y4).w=y2.length+Nd.ws y4+1:=rfl;dsimp only at hiw;obtain⟨⟨a1,a2,a3,a4⟩,e',ha,_⟩:=zMz n t (5,p,i64.wrap (o - 1),0,[],0,y2,x) (by omega) (by omega) (Nat.zero_le _) (by dsimp only; omega) (by dsimp only; omega)
  obtain⟨⟨v1,⟨v2,v3⟩,⟨v4,v5⟩⟩,ve,d1,d2⟩:=zFQ k (c1,c2) [(5,p,i64.wrap (o - 1),0,[],0,y2,x)] [] hc (by simp) (fun o ho=>by
   rw[List.mem_singleton.1 ho]
   simp only[zHy,Op8.nodes,Op8.text,Op8.row,Nd.ws]
   omega) (by simp)
  obtain⟨t1,t2,t3,t4⟩:=t;unfold zHw;simp only[h1,obs,he,show((0:Int) != 0)=false from rfl,cond_false,p2,p3,p4]
  rw[zA5 ⟨by omega,by omega,by omega⟩]
  cases(o == 0) with
  | true=>exact Ans.zero 8 (by decide)
  | false =>
   simp only[cond_false,hi,ha,obs]
   have hb:∃ v,(bif (e' == 4) then some true else some (e' == 7):Option Bool)=some v:=by
    cases(e' == 4) <;> exact⟨_,rfl⟩
   obtain⟨v,hb⟩:=hb;simp only[hb,obs]
   cases v with
   | true=>exact Ans.zero 7 (by decide)
   | false =>
    simp only[cond_false,d1,obs]
    cases(ve == 0) with
    | false=>exact⟨_,_,rfl,d2⟩
    | true=>exact⟨_,_,rfl,⟨d2.1.len,d2.1.bulk,d2.1.b1,d2.1.b2,by dsimp only; omega,by dsimp only; omega⟩,d2.2⟩
 ·obtain⟨c1,c2⟩:=c;obtain⟨t1,t2,t3,t4⟩:=t;unfold zHw;simp only[h1,obs,show(e != 0)=true from bne_iff_ne.2 he,cond_true]
  exact Ans.zero e he
theorem zYo  (k:Tok n t) (i:Int):∃ r e,zKW n t i=some (r,e)/\r.length<=49:=by
 have hc:=k.cnt;have hf:=k.fuel;have e1:=zJf n t k.rv (by omega) (by omega)
 rw[k.valid,cond_true]at e1;have hm:∀ q∈posT t,q.length<=49:=fun q hq=>zEo k.valid hq
 obtain⟨t1,t2,t3,t4⟩:=t;unfold zKW;simp only[e1,obs,show((0:Int) != 0)=false from rfl,cond_false]
 by_cases h1:i<0
 ·rw[zAH h1]
  exact⟨[],2,rfl,Nat.zero_le _⟩
 ·rw[zAE h1]
  by_cases h2:(posT (.mk t1 t2 t3 t4)).length<=i.toNat
  ·have h3:((posT (.mk t1 t2 t3 t4)).length:Int)<=i :=(by omega);simp only[cond_false,obs]
   rw[zAH h3]
   exact⟨[],2,rfl,Nat.zero_le _⟩
  ·have h3:¬ ((posT (.mk t1 t2 t3 t4)).length:Int)<=i :=(by omega);simp only[cond_false,obs]
   rw[zAE h3,cond_false]
   have h4:i=((i.toNat:Nat):Int) :=(by omega);have h5:i.toNat<(posT (.mk t1 t2 t3 t4)).length :=(by omega);rw[h4,zAK h5]
   exact⟨_,_,rfl,hm _ (getElem_mem h5)⟩
theorem zUR  (k:Tok n t) (q:List Int) (i:Int):∃ r e,zFg n t q i=some (r,e)/\r.length<=49:=by
 have hc:=k.cnt;have hf:=k.fuel;obtain⟨j,e,h1,_⟩:=zMy n t q k.rv (by omega) (by omega) (by omega)
 obtain⟨r,e',h2,h3⟩:=zYo k (i64.wrap (j+i))
 obtain⟨t1,t2,t3,t4⟩:=t;unfold zFg;simp only[h1,h2,obs]
 cases(e != 0) with
 | true=>exact⟨_,_,rfl,Nat.zero_le _⟩
 | false =>
  simp only[cond_false]
  cases(e' != 0) with
  | true=>exact⟨_,_,rfl,Nat.zero_le _⟩
  | false=>exact⟨_,_,rfl,h3⟩
theorem zWd (p:List Int) (x y:Int) (hp:p.length<=1000000):zGz (p,x,y)=some (p++[x]):=by
 unfold zGz;dsimp only;rw[zA5 (by simp only[length_nil]; omega),zA5 (by simp only[length_cons,length_nil]; omega)]
variable {t:Nd}
theorem Ans.pass {x:Option (Rc×Int)} (h:Ans t x):Ans t (x.bind fun⟨⟨a,⟨b1,b2⟩,⟨d1,d2⟩⟩,e⟩=>some ((a,(b1,b2),(d1,d2)),e)):=by
 obtain⟨⟨a,⟨b1,b2⟩,⟨d1,d2⟩⟩,e,rfl,h2⟩:=h;exact⟨_,_,rfl,h2⟩
theorem zVX {n:Nat} (k:Tok n t) (c:Cur) (q:List Int) (d:Int) (hc:c.1.length<=10000/\c.2.length<=10000):∃ r e,zFg n t q d=some (r,e)/\Ans t (zBC n t c [] r):=by
 obtain⟨r,e,h1,h2⟩:=zUR k q d;exact⟨r,e,h1,zFQ k c [] r hc (by simp) (fun o ho=>by cases ho) (by omega)⟩
theorem zY3 {n:Nat} (k:Tok n t) (c:Cur) (fl:Bool) (hc:c.1.length<=10000/\c.2.length<=10000):Ans t (zFi n t c fl):=by
 have hf:=k.fuel;have hw:=k.w;obtain⟨⟨r1,r2,r3⟩,e,h1,h2⟩:=zHN k c
 by_cases he:e=0
 ·obtain⟨g1,g2⟩:=h2 he;have hs:=k.short g1;dsimp only at g2;obtain⟨l,h3,h4,h5⟩:=zXC k (r1,r2,r3) (by dsimp only; omega)
  have h6:=zWd r1 r2 r3 (by omega)
  obtain⟨⟨v1,⟨v2,v3⟩,⟨v4,v5⟩⟩,ve,d1,d2⟩:=zFQ k c l (r1++[r2]) hc (by omega) (fun o ho=>by have:=h5 o ho; omega) (by simp only[length_append,length_cons,length_nil]; omega)
  have har:=zKK k g1;obtain⟨c1,c2⟩:=c;dsimp only at g1 hs hc har;obtain⟨p,o,p1,p2,p3,p4,p5⟩:=zYj c1 (zVn g1) (by omega)
  have hr:=zJe n t p (by omega) k.rv;have hrw:=yAt (t:=t) (p:=p)
  generalize rowS t p=y at hr hrw;obtain⟨⟨y1,y2,y3,y4⟩,ye⟩:=y;have hy:(Nd.mk y1 y2 y3 y4).w=y2.length+Nd.ws y4+1:=rfl;dsimp only at hrw;have hz:∃ z d,(bif fl then some (i64.wrap (o - 1),-1) else some (o,1):Option (Int×Int))=some (z,d):=by
   cases fl <;> exact⟨_,_,rfl⟩
  obtain⟨z,d,hz⟩:=hz;obtain⟨w1,w2,w3,w4⟩:=zVX k (c1,c2) c1 d hc;have step:Ans t ((zFg n t c1 d).bind fun⟨y47,y48⟩ =>
    bif (y48 != 0) then (
     some (([],([],[]),([],[])),y48)
    ) else (
     (zBC n t (c1,c2) [] y47).bind fun⟨⟨y49N,⟨y49P,y49Q⟩,⟨y49R,y49S⟩⟩,y50⟩ =>
     some ((y49N,(y49P,y49Q),(y49R,y49S)),y50)
    )):=by
   simp only[w3,obs]
   cases hw2:(w2 != 0) with
   | true=>exact Ans.zero w2 (bne_iff_ne.1 hw2)
   | false=>exact w4.pass
  have hb:∃ v,(bif decide (0<=z) then some (decide (z<(y4.length:Int))) else some false:Option Bool)=some v/\(v=true->0<=z/\z<(y4.length:Int)):=by
   by_cases q1:0<=z
   ·rw[zAH q1,cond_true]
    by_cases q2:z<(y4.length:Int)
    ·rw[zAH q2]; exact⟨true,rfl,fun _=>⟨q1,q2⟩⟩
    ·rw[zAE q2]; exact⟨false,rfl,fun h=>by cases h⟩
   ·rw[zAE q1]; exact⟨false,rfl,fun h=>by cases h⟩
  obtain⟨v,hb,hv⟩:=hb;obtain⟨t1,t2,t3,t4⟩:=t;unfold zFi;simp only[h1,obs,he,show((0:Int) != 0)=false from rfl,cond_false,p2,p3,p4]
  cases decide (r2<r3) with
  | true =>
   simp only[cond_true,h3,h6,d1,obs]
   exact⟨_,_,rfl,d2⟩
  | false =>
   rw[cond_false,zA5 ⟨by omega,by omega,by omega⟩]
   simp only[hr,hz,hb,obs]
   cases v with
   | true =>
    obtain⟨z1,z2⟩:=hv rfl;have z3:z=((z.toNat:Nat):Int) :=(by omega);have hg:y4[z.toNat]? = some (y4[z.toNat]'(by omega)):=List.getElem?_eq_getElem (by omega)
    have hm:y4[z.toNat]'(by omega)∈y4:=getElem_mem _;generalize y4[z.toNat]'(by omega)=u at hg hm;have hmw:=Nd.w_mem hm;have ha:at? y4 z=some u :=(by rw[z3]; exact zNu hg);have hk:=zHD (v:=u)
    have hl:=Nd.ws_len u.kids;obtain⟨b,hcb⟩:=zPy n u (-1) (by omega) (by omega)
    have hat:=zHK p [z] (by omega) (by simp)
    have hdn:=zFQ k (c1,c2) [(2,p,z,0,[u],0,[],[])] (p++[z]) hc (by simp) (fun o ho=>by
     rw[List.mem_singleton.1 ho]
     have:Nd.ws [u]=u.w+1 :=(by simp[Nd.ws]);simp only[zHy,Op8.nodes,Op8.text,Op8.row,length_nil,this]
     omega) (by simp only[length_append,length_cons,length_nil]; omega)
    obtain⟨u1,u2,u3,u4⟩:=u;simp only[cond_true,ha,hcb,obs]
    cases b with
    | true =>
     simp only[Bool.not_true,cond_false,obs]
     exact step
    | false =>
     obtain⟨⟨v1,⟨v2,v3⟩,⟨v4,v5⟩⟩,ve,d1,d2⟩:=hdn;simp only[Bool.not_false,cond_true,hat,d1,obs]
     exact⟨_,_,rfl,d2⟩
   | false =>
    simp only[cond_false]
    rcases har with ⟨⟨y1',y2',y3',⟨y4',y5',y6',y7'⟩⟩,h3'⟩ | ⟨p',i,s,o',x,u,q1,q2,q3,q4,q5,q6,q7,q8⟩
    ·simp only[h3',cond_false,obs]
     exact step
    ·have hk:=zHD (v:=x)
     have hl:=Nd.ws_len x.kids;obtain⟨b,hcb⟩:=zPy n x (s:Int) (by omega) (by omega)
     obtain⟨m,zz,h4',h5'⟩:=zOC p' i s q4 q8 q2;obtain⟨x1,x2,x3,x4⟩:=x;simp only[q3,hcb,cond_true,obs]
     cases b with
     | true =>
      simp only[Bool.not_true,cond_false,obs]
      exact step
     | false =>
      simp only[Bool.not_false,cond_true,h4',obs]
      cases fl with
      | true =>
       have hat:=zHK p' [(i:Int)] (by omega) (by simp)
       obtain⟨⟨v1,⟨v2,v3⟩,⟨v4,v5⟩⟩,ve,d1,d2⟩:=zFQ k (c1,c2) [(4,p',(i:Int),m,[zz],(s:Int),[],[])] (p'++[(i:Int)]) hc (by simp) (fun o ho=>by rw[List.mem_singleton.1 ho,zRJ]; omega) (by simp only[length_append,length_cons,length_nil]; omega)
       simp only[cond_true,hat,d1,obs]
       exact⟨_,_,rfl,d2⟩
      | false =>
       have hat:=zHK p' [i64.wrap ((i:Int)+m)] (by omega) (by simp)
       obtain⟨⟨v1,⟨v2,v3⟩,⟨v4,v5⟩⟩,ve,d1,d2⟩:=zFQ k (c1,c2) [(4,p',(i:Int),m,[zz],(s:Int),[],[])] (p'++[i64.wrap ((i:Int)+m)]) hc (by simp) (fun o ho=>by rw[List.mem_singleton.1 ho,zRJ]; omega) (by simp only[length_append,length_cons,length_nil]; omega)
       simp only[cond_false,hat,d1,obs]
       exact⟨_,_,rfl,d2⟩
 ·obtain⟨c1,c2⟩:=c;obtain⟨t1,t2,t3,t4⟩:=t;unfold zFi;simp only[h1,obs,show(e != 0)=true from bne_iff_ne.2 he,cond_true]
  exact Ans.zero e he
theorem yBT (fl:Bool) (own cols x:Int) (h0:1<=cols) (h1:cols<=16):∀ (k j:Nat) (l:List Nd),16 - j<k->l.length+(16 - j)<=1000000->∃ l',zCI fl own cols x k (j:Int) l=some l'/\Nd.ws l'<=Nd.ws l+2 * (16 - j)/\l'.length<=l.length+(16 - j)
 | 0,j,l,h,_=>by omega
 | k+1,j,l,h,hl=>by
  unfold zCI zA2
  by_cases hj:(j:Int)<cols
  ·rw[zAH hj,cond_true]
   rw[zA5 (show cols ≠ 0 by omega)]
   have hw:Nd.ws (l++[.mk 1 [] 0 []])=Nd.ws l+2 :=(by rw[Nd.ws_append]; rfl);obtain⟨l',e1,e2,e3⟩:=yBT fl own cols x h0 h1 k (j+1) (l++[.mk 1 [] 0 []]) (by omega) (by simp only[length_append,length_cons,length_nil]; omega)
   simp only[length_append,length_cons,length_nil]at e3;have done:Nd.ws l<=Nd.ws l+2 * (16 - j)/\l.length<=l.length+(16 - j):=⟨by omega,by omega⟩
   have go:∃ l'',(req (l.length + [Nd.mk 1 [] 0 []].length<=4294967296) <| zCI fl own cols x k (i64.wrap ((j:Int)+1)) (l++[Nd.mk 1 [] 0 []]))=some l''/\Nd.ws l''<=Nd.ws l+2 * (16 - j)/\l''.length<=l.length+(16 - j):=by
    rw[zA5 (by simp only[length_cons,length_nil]; omega),zAL (by omega),e1]
    exact⟨l',rfl,by omega,by omega⟩
   cases fl with
   | true=>exact⟨l,rfl,done⟩
   | false =>
    simp only[Bool.not_false,cond_true,obs]
    cases(x == i64.wrap (i64.wrap (i64.wrap (i64.wrap (own.tdiv cols) * cols)+cols) - 1)) with
    | false=>exact⟨l,rfl,done⟩
    | true =>
     simp only[cond_true]
     exact go
  ·rw[zAE hj]
   exact⟨l,rfl,by omega,by omega⟩
theorem yBS (n:Nat) (fl:Bool) (own cols:Int) (ks:List Nd) (h0:1<=cols) (h1:cols<=16) (hn:100<n) (hm:ks.length<=1000):∀ (k i:Nat) (x:Int) (l:List Nd),ks.length - i<k->i<=ks.length->Nd.ws l+Nd.ws (ks.drop i)+40 * (ks.length - i)<=900000->∃ y l',zDg n fl own cols ks k x (i:Int) l=some (y,l')/\Nd.ws l'<=Nd.ws l+Nd.ws (ks.drop i)+40 * (ks.length - i)
 | 0,i,x,l,h,_,_=>by omega
 | k+1,i,x,l,h,hi,hb=>by
  unfold zDg zA2
  by_cases hj:i<ks.length
  ·have hd:Nd.ws (ks.drop i)=(ks[i]).w+1+Nd.ws (ks.drop (i+1)):=by
    rw[drop_eq_getElem_cons hj]; simp only[Nd.ws]; omega
   have g:ks[i]? = some ks[i]:=List.getElem?_eq_getElem hj;generalize ks[i]=u at hd g;have ha:=zNu g;have hll:=Nd.ws_len l;have hw:Nd.ws (l++[u])=Nd.ws l+(u.w+1) :=(by rw[Nd.ws_append]; simp[Nd.ws]);have hw2:Nd.ws ((l++[u])++[.mk 1 [] 0 []])=Nd.ws l+(u.w+1)+2 :=(by rw[Nd.ws_append,hw]; rfl);have hx:∃ v,(bif ((i:Int) == own) then some (l.length:Int) else some x:Option Int)=some v:=by
    cases((i:Int) == own) <;> exact⟨_,rfl⟩
   obtain⟨v,hx⟩:=hx;have hx28:∃ b,(bif fl then (req (cols ≠ 0) <| req (cols ≠ 0) <| some (((i:Int).tmod cols) == (own.tmod cols))) else some false:Option Bool)=some b:=by
    cases fl with
    | false=>exact⟨_,rfl⟩
    | true =>
     rw[cond_true,zA5 (by omega),zA5 (by omega)]
     exact⟨_,rfl⟩
   obtain⟨b,hx28⟩:=hx28;have hl29:∃ l29,(bif b then (req ((l++[u]).length + [Nd.mk 1 [] 0 []].length<=4294967296) <| some ((l++[u])++[Nd.mk 1 [] 0 []])) else some (l++[u]):Option (List Nd))=some l29/\Nd.ws l29<=Nd.ws l+(u.w+1)+2:=by
    cases b with
    | false=>exact⟨_,rfl,by omega⟩
    | true =>
     rw[cond_true,zA5 (by simp only[length_append,length_cons,length_nil]; omega)]
     exact⟨_,rfl,by omega⟩
   obtain⟨l29,e29,w29⟩:=hl29;have hl2:=Nd.ws_len l29;obtain⟨l40,e40,w40,_⟩:=yBT fl own cols (i:Int) h0 h1 n 0 l29 (by omega) (by omega)
   obtain⟨y,l',e,w⟩:=yBS n fl own cols ks h0 h1 hn hm k (i+1) v l40 (by omega) (by omega) (by omega)
   rw[show((0:Nat):Int)=0 from rfl]at e40;obtain⟨u1,u2,u3,u4⟩:=u;rw[zAH (Int.ofNat_lt.2 hj),cond_true]
   simp only[hx,ha,obs]
   rw[zA5 (by simp only[length_cons,length_nil]; omega)]
   simp only[hx28,e29,e40,obs]
   rw[zAL (by omega),e]
   exact⟨y,l',rfl,by omega⟩
  ·rw[zAE (by omega)]
   exact⟨x,l,rfl,by omega⟩
variable {t:Nd}{n:Nat}
theorem yAz  (k:Tok n t) (c:Cur) (fl:Bool) (hc:c.1.length<=10000/\c.2.length<=10000):Ans t (zFj n t c fl):=by
 have hf:=k.fuel;have hw:=k.w;obtain⟨⟨r1,r2,r3⟩,e,h1,h2⟩:=zHN k c
 by_cases he:e=0
 ·obtain⟨g1,g2⟩:=h2 he;have hs:=k.short g1;rcases zKK k g1 with ⟨⟨y1,y2,y3,⟨y4,y5,y6,y7⟩⟩,h3⟩ | ⟨p,i,s,o,x,u,q1,q2,q3,q4,q5,q6,q7,q8⟩
  ·obtain⟨c1,c2⟩:=c;obtain⟨t1,t2,t3,t4⟩:=t;unfold zFj;simp only[h1,obs,he,show((0:Int) != 0)=false from rfl,cond_false,h3,Bool.not_false,cond_true]
   exact Ans.zero 8 (by decide)
  ·obtain⟨c1,c2⟩:=c;obtain⟨t1,t2,t3,t4⟩:=t;have hkw:=zHD (v:=x)
   have hsx:Nd.ws [x]=x.w+1 :=(by simp[Nd.ws]);obtain⟨x1,x2,x3,x4⟩:=x;simp only[Nd.kids]at *;unfold zFj;simp only[h1,obs,he,show((0:Int) != 0)=false from rfl,cond_false,q3,Bool.not_true]
   by_cases hk:x1=12
   ·subst hk;have hx:1<=x3/\x3<=16:=by
     unfold zFz at q6;simp only[Bool.and_eq_true]at q6;have h7:=q6.1.2;unfold zHc at h7;rw[if_pos rfl]at h7;simp only[Bool.and_eq_true,decide_eq_true_eq]at h7;exact⟨h7.1,h7.2.1⟩
    obtain⟨l0,a0⟩:=zVq (p:=p) (a:=(i:Int)) (b:=(s:Int)) (o:=o)
    rw[← q1]at l0 a0;have w1:i64.wrap ((c1.length:Int) - 1)=(p.length:Int)+2 :=(by rw[l0,wrap64_in (by omega) (by omega)]; omega);obtain⟨y,l',e1,w2⟩:=yBS n fl (s:Int) x3 x4 hx.1 hx.2 (by omega) q8 n 0 0 [] (by omega) (Nat.zero_le _) (by rw[drop_zero]; show 0+_+_<=_; omega)
    rw[drop_zero]at w2;rw[show((0:Nat):Int)=0 from rfl]at e1;have w2':Nd.ws l'<=Nd.ws x4+40 * x4.length:=by
     have:Nd.ws ([]:List Nd)=0:=rfl
     omega
    have hb:∃ v,(bif fl then some (i64.wrap (x3+1)) else some x3:Option Int)=some v:=by
     cases fl <;> exact⟨_,rfl⟩
    obtain⟨v,hb⟩:=hb;have hat:=zHK p [(i:Int),y,o] (by omega) (by simp)
    have hsl:Nd.ws [.mk 12 [] v l']=Nd.ws l'+2 :=(by simp[Nd.ws,Nd.w]);obtain⟨⟨v1,⟨v2,v3⟩,⟨v4,v5⟩⟩,ve,d1,d2⟩:=zFQ k (c1,c2) [(2,p,(i:Int),0,[Nd.mk 12 x2 x3 x4],0,[],[]),(1,p,(i:Int),0,[Nd.mk 12 [] v l'],0,[],[])] (p++[(i:Int),y,o]) hc (by simp) (fun o ho=>by
     simp only[mem_cons,not_mem_nil,or_false]at ho;rcases ho with rfl | rfl
     ·simp only[zHy,Op8.nodes,Op8.text,Op8.row,length_nil,hsx]
      omega
     ·simp only[zHy,Op8.nodes,Op8.text,Op8.row,length_nil,hsl]
      omega) (by simp only[length_append,length_cons,length_nil]; omega)
    simp only[show((12:Int) != 12)=false from rfl,cond_false,hb,e1,w1,a0,hat,d1,obs]
    exact⟨_,_,rfl,d2⟩
   ·simp only[show(x1 != 12)=true from bne_iff_ne.2 hk,cond_true]
    exact Ans.zero 7 (by decide)
 ·obtain⟨c1,c2⟩:=c;obtain⟨t1,t2,t3,t4⟩:=t;unfold zFj;simp only[h1,obs,show(e != 0)=true from bne_iff_ne.2 he,cond_true]
  exact Ans.zero e he
theorem zVY  (k:Tok n t) (c:Cur) (items:List Nd) (hc:c.1.length<=10000/\c.2.length<=10000) (hi:Nd.ws items<=2000000):Ans t (zC0 n t c items):=by
 cases hv:zAB (rowN items) with
 | true =>
  have h1:=zFS hv;have h2:=zHD (v:=rowN items)
  have h3:(rowN items).kids=items:=rfl;rw[h3]at h2;exact zW9 k c items hc (by omega)
 | false =>
  have hr:=k.rv;have hf:=k.fuel;rw[k.valid]at hr;have hi2:=zF7 n items (by omega) (by omega)
  obtain⟨c1,c2⟩:=c;obtain⟨t1,t2,t3,t4⟩:=t;unfold zC0;simp only[hr,hi2,hv,obs,Bool.not_true,cond_false,Bool.not_false,cond_true]
  exact Ans.zero 1 (by decide)
theorem zZb  (k:Tok n t) (c:Cur) (x:Nd) (sl:Int) (hc:c.1.length<=10000/\c.2.length<=10000) (hx:x.w<=2000000):Ans t (zEN n t c x sl):=by
 have hf:=k.fuel;have hws:Nd.ws [x]=x.w+1 :=(by simp[Nd.ws]);obtain⟨fb,hfo,hff⟩:=zHX n 3 [] 0 0 [x] sl [] [] (by omega) (by omega)
 cases fb with
 | true =>
  have hv:zAB (rowN [x])=true:=by
   rcases hff.1 rfl with ⟨h,_⟩ | ⟨_,_,⟨v,s,z,h1,_,h2,_⟩,_⟩ | ⟨h,_⟩
   ·omega
   ·rw[h1]; exact h2
   ·omega
  have h1:=zFS hv;have h2:=zHD (v:=rowN [x])
  have h3:(rowN [x]).kids=[x]:=rfl;rw[h3]at h2;exact yAB k c x sl hc (by omega)
 | false =>
  have hr:=k.rv;rw[k.valid]at hr;obtain⟨c1,c2⟩:=c;obtain⟨t1,t2,t3,t4⟩:=t;obtain⟨x1,x2,x3,x4⟩:=x;unfold zEN;simp only[hr,hfo,obs,Bool.not_true,cond_false,Bool.not_false,cond_true]
  exact Ans.zero 1 (by decide)
theorem yBy  (k:Tok n t) (c:Cur) (m:Int×List Nd×Int×List UInt8×Bool) (hc:c.1.length<=10000/\c.2.length<=10000) (hi:Nd.ws m.2.1<=2000000) (hx:m.2.2.2.1.length<=10000):Ans t (zIJ n t c m):=by
 obtain⟨m1,m2,m3,m4,m5⟩:=m;dsimp only at hi hx;have f0:∃ x,zGB m2=some x/\x.w<=2000000:=by
  unfold zGB;dsimp only;cases m2 with
  | nil=>exact⟨_,rfl,by decide⟩
  | cons x l =>
   rw[show((((x::l).length:Int)) == 0)=false from zB1 (by simp only[length_cons]; omega),cond_false]
   have ha:at? (x::l) 0=some x:=rfl;simp only[ha,obs]
   simp only[Nd.ws]at hi;exact⟨x,by cases x; rfl,by omega⟩
 obtain⟨x,e1,e2⟩:=f0;have g0:=(zVY k c m2 hc hi).pass;have g1:=(zY3 k c m5 hc).pass;have g2:=(zZb k c x m3 hc e2).pass;have g3:=(zXn k c hc).pass;have g4:=(zZa k c hc).pass;have g5:=(yBz k c m4 hc hx).pass;have g6:=(yAz k c m5 hc).pass;obtain⟨c1,c2⟩:=c;obtain⟨t1,t2,t3,t4⟩:=t;obtain⟨x1,x2,x3,x4⟩:=x;unfold zIJ;simp only[e1,obs]
 cases(m1 == 0) with
 | true=>exact g0
 | false =>
 cases(m1 == 1) with
 | true=>exact g1
 | false =>
 cases(m1 == 2) with
 | true=>exact g2
 | false =>
 cases(m1 == 3) with
 | true=>exact g3
 | false =>
 cases(m1 == 4) with
 | true=>exact g4
 | false =>
 cases(m1 == 5) with
 | true=>exact g5
 | false =>
 cases(m1 == 6) with
 | true=>exact g6
 | false=>exact Ans.zero 1 (by decide)
theorem zUS (n:Nat) (c:Int×List Nd×Int×List UInt8×Bool) (hn:200<n):∃ b,zII n c=some b/\(b=true->c.2.2.2.1.length<=300):=by
 obtain⟨k,nodes,slot,text,fl⟩:=c;obtain⟨b,e,_⟩:=zW7 n (.mk 1 [] 0 nodes) 100 (by omega) (by omega)
 rw[show((100:Nat):Int)=100 from rfl]at e;unfold zII zA2;simp only[e,obs]
 cases b with
 | true=>exact⟨_,rfl,fun h=>by have:=of_decide_eq_true h; omega⟩
 | false=>exact⟨_,rfl,fun h=>by cases h⟩
theorem zKO (n:Nat){l:List Rc} (ho:∀ r∈l,zDc n r=some r) (hl:l.length<=1073741824):∀ (k i:Nat),l.length - i<k->i<=l.length->zBe n l k (i:Int) (l.take i)=some l
 | 0,i,h,_=>by omega
 | k+1,i,h,hi=>by
  unfold zBe
  by_cases hj:i<l.length
  ·have hd:=ho _ (getElem_mem hj)
   have ht:l.take i++[l[i]]=l.take (i+1) :=(by rw[take_append_getElem hj]);rw[zAH (Int.ofNat_lt.2 hj),cond_true,zAK hj]
   have ih:=zKO n ho hl k (i+1) (by omega) (by omega)
   rw[← ht]at ih;generalize l[i]=v at *;obtain⟨v1,⟨v2,v3⟩,⟨v4,v5⟩⟩:=v;simp only[obs,hd]
   exact jU
  ·exact kE
theorem zWb (n:Nat) (hn:200000000<n){h:Hs}{ts:List Nd}{j:Nat} (a:HAt h ts j):zBr n h=some (h.2.2.1,h):=by
 have hlim:=a.inv.lim;have g:=zKO n (l:=h.2.2.1) (fun r hr=>(a.inv.small r hr).copy n hn) (by omega) n 0 (by omega) (Nat.zero_le _)
 rw[show((0:Nat):Int)=0 from rfl,take_zero]at g;obtain⟨⟨x1,x2,x3,x4⟩,⟨y1,y2,y3,y4⟩,z,w⟩:=h;dsimp only at g;unfold zBr zDB;simp only[g,obs]
abbrev Cm:=(Int×List Nd×Int×List UInt8×Bool)×Int×Int
theorem zOB (n:Nat) (l:List Cm) (hn:2000<n) (hl:l.length<=2000000):∀ (k i:Nat),l.length - i<k->zC1 n l k (i:Int)=some (.ret false)∨(zC1 n l k (i:Int)=some (.go ())/\∀ c∈l.drop i,c.1.2.2.2.1.length<=300)
 | 0,i,h=>by omega
 | k+1,i,h=>by
  unfold zC1
  by_cases hj:i<l.length
  ·have ih:=zOB n l hn hl k (i+1) (by omega)
   have ha:=zAK hj;rw[drop_eq_getElem_cons hj]
   generalize l[i]=c at ha;obtain⟨b,f1,f2⟩:=zUS n c.1 (by omega)
   obtain⟨b2,f3,_⟩:=zW7 n (.mk 1 [] 0 c.1.2.1) 12 (by omega) (by omega)
   rw[show((12:Nat):Int)=12 from rfl]at f3;obtain⟨⟨c1,c2,c3,c4,c5⟩,c6,c7⟩:=c;dsimp only at f1 f2 f3;rw[zAH (Int.ofNat_lt.2 hj),cond_true,zAL (by omega)]
   unfold zA2;simp only[ha,obs,f1]
   cases b with
   | false=>exact .inl rfl
   | true =>
    simp only[Bool.not_true,cond_false,f3,obs]
    cases b2 with
    | false=>exact .inl rfl
    | true =>
     rcases ih with ih | ⟨ih,ih2⟩
     ·exact .inl ih
     ·refine .inr ⟨ih,fun c hc=>?_⟩
      rcases List.mem_cons.1 hc with rfl | hc
      ·exact f2 rfl
      ·exact ih2 c hc
  ·rw[zAE (by omega)]
   refine .inr ⟨rfl,fun s hs=>?_⟩
   rw[drop_eq_nil_of_le (by omega)]at hs;cases hs
theorem zYP (n:Nat) (t:Nd) (l:List Cm) (hn:3000000<n) (hl:l.length<=2000000):∃ b,zIK n t l=some b/\(b=true->l.length<=12/\∀ c∈l,c.1.2.2.2.1.length<=300):=by
 have h1:=zOB n l (by omega) hl n 0 (by omega)
 obtain⟨b,e,_⟩:=zW7 n t 60 (by omega) (by omega)
 rw[show((60:Nat):Int)=60 from rfl]at e;rw[show((0:Nat):Int)=0 from rfl,drop_zero]at h1;obtain⟨t1,t2,t3,t4⟩:=t;unfold zIK zHS;rcases h1 with h1 | ⟨h1,h2⟩
 ·simp only[h1,obs]
  exact⟨false,rfl,fun h=>by cases h⟩
 ·simp only[h1,obs,e]
  cases b with
  | false=>exact⟨false,rfl,fun h=>by cases h⟩
  | true=>exact⟨_,rfl,fun h=>⟨by have:=of_decide_eq_true h; omega,h2⟩⟩
structure CmOk (c:Cm):Prop where
 items:Nd.ws c.1.2.1<=2000000
 text:c.1.2.2.2.1.length<=10000
 pos:0<=c.2.1/\c.2.1<=255
 mark:0<=c.2.2/\c.2.2<=255
structure CInv (t0:Nd) (h:Hs) (ts:List Nd) (i:Nat):Prop where
 at':HAt h ts h.2.2.1.length
 le:h.2.2.1.length<=i
 few:∀ r∈h.2.2.1,RFew r
 orig:h.1=t0
 runs:Runs t0 (h.2.2.1.map (·.1)).flatten h.2.1 0
theorem zVC (t:Nd) (hv:zAB t=true){p:Int} (hp:0<=p/\p<=255) (hne:((posT t).length:Int) ≠ 0):∃ q,at? (posT t) ((i64.wrap p).tmod ((posT t).length:Int))=some q/\q.length<=49:=by
 have hw:i64.wrap p=p:=wrap64_in (by omega) (by omega)
 have h0:=Int.tmod_nonneg (b:=((posT t).length:Int)) (a:=p) hp.1;have h1:=Int.tmod_lt_of_pos p (b:=((posT t).length:Int)) (by omega)
 rw[hw]
 obtain⟨j,hj⟩:=Int.eq_ofNat_of_zero_le h0;rw[hj]at h1 ⊢;have hjl:j<(posT t).length :=(by omega);exact⟨_,zAK hjl,zEo hv (getElem_mem hjl)⟩
theorem zUM (t:Nd):((posT t).length:Int) ≠ 0:=by
 have h:[(0:Int)]∈posT t:=(zD7 t [0]).2 (zHR.2 ⟨by omega,by omega⟩)
 have:=length_pos_of_mem h
 omega
theorem zSB (n:Nat) (hn:200000000<n){t0:Nd}{l:List Cm} (hl:l.length<=12) (hc:∀ c∈l,CmOk c):∀ (k i:Nat) (h:Hs) (ts:List Nd),l.length - i<k->i<=l.length->CInv t0 h ts i ->
  ∃ h' ts',zBP n l k h.1.kind h.1.text h.1.cols h.1.kids h.2.1.kind h.2.1.text h.2.1.cols h.2.1.kids h.2.2.2 (i:Int) h.2.2.1=some (.go (h'.1.kind,h'.1.text,h'.1.cols,h'.1.kids,h'.2.1.kind,h'.2.1.text,h'.2.1.cols,h'.2.1.kids,h'.2.2.2,h'.2.2.1))/\CInv t0 h' ts' l.length
 | 0,i,h,ts,hk,_,_=>by omega
 | k+1,i,h,ts,hk,hi,hh=>by
  unfold zBP
  by_cases hj:i<l.length
  ·have hcm:=hc _ (getElem_mem hj)
   have ha:=zAK hj;generalize l[i]=c at ha hcm;have ih:=fun h ts=>zSB n hn (t0:=t0) hl hc k (i+1) h ts (by omega) (by omega)
   have hv:=hh.at'.vtree;have hTr:=zXm hv;have hcnt:=Nd.cnt_w h.2.1;have hw:=zFS hv;have hAll:=zJf n h.2.1 (zCK n h.2.1 (by omega) (by omega)) (by omega) (by omega)
   rw[hv,cond_true]at hAll;obtain⟨q1,p1,p2⟩:=zVC h.2.1 hv hcm.pos (zUM _)
   obtain⟨q2,p3,p4⟩:=zVC h.2.1 hv hcm.mark (zUM _)
   have hne:=zUM h.2.1;obtain⟨r,e,r1,r2,r3⟩:=yBy (n:=n) (t:=h.2.1) ⟨hn,hv⟩ (q1,q2) c.1 ⟨by dsimp only; omega,by dsimp only; omega⟩ hcm.items hcm.text;have hDo:=fun(he:e=0)=>yCe n hh.at' r2.small hn (by have:=hh.le; omega)
   have hAt:=hh.at';have hle:=hh.le;have hfew:=hh.few;have horig:=hh.orig;have hruns:=hh.runs;have hlen:h.2.2.1.take h.2.2.1.length=h.2.2.1:=take_length;rw[zAH (Int.ofNat_lt.2 hj),cond_true,ha,zAL (by omega)]
   simp only[obs]
   obtain⟨⟨a1,a2,a3,a4⟩,⟨b1,b2,b3,b4⟩,rs,d⟩:=h;obtain⟨⟨c1,c2,c3,c4,c5⟩,c6,c7⟩:=c;dsimp only[Nd.kind,Nd.text,Nd.cols,Nd.kids]at *;simp only[hTr,hAll,obs]
   rw[zB1 hne,cond_false,zA5 hne,p1]
   simp only[obs]
   rw[zA5 hne,p3]
   simp only[obs,r1]
   obtain⟨ops,⟨g1,g2⟩,⟨g3,g4⟩⟩:=r;dsimp only at r2 r3
   by_cases he:e=0
   ·subst he;obtain⟨u',hu'⟩:=r3 rfl;obtain⟨u,e',k1,k2⟩:=hDo rfl;obtain⟨rfl,rfl⟩:=hu'.det k1;rcases k2 with ⟨k2,_⟩ | ⟨_,k2,k3⟩
    ·exact(k2 rfl).elim
    ·rw[hlen]at k2 k3;obtain⟨u1,u2,u3,u4⟩:=u';obtain⟨h',ts',i1,i2⟩:=ih _ _ (⟨by
       have e0:(rs++[(ops,(g1,g2),(g3,g4))]).length=rs.length+1 :=(by simp);dsimp only;rw[e0]; exact k3,by simp; omega,fun r hr=>by
        rcases List.mem_append.1 hr with hr | hr
        ·exact hfew r hr
        ·rw[List.mem_singleton.1 hr]; exact r2,horig,by
        rw[map_append,flatten_append]
        exact hruns.app (by simpa using k1)⟩:CInv t0 (.mk a1 a2 a3 a4,.mk u1 u2 u3 u4,rs++[(ops,(g1,g2),(g3,g4))],((rs.length+1:Nat):Int)) (ts.take (rs.length+1)++[.mk u1 u2 u3 u4]) (i+1))
     refine⟨h',ts',?_,i2⟩
     simp only[beq_self_eq_true,cond_true,k2,obs,bne_self_eq_false,cond_false]
     exact i1
   ·rw[zB1 he]
    simp only[cond_false,obs]
    obtain⟨h',ts',i1,i2⟩:=ih (.mk a1 a2 a3 a4,.mk b1 b2 b3 b4,rs,d) ts ⟨hAt,by dsimp only; omega,hfew,horig,hruns⟩
    exact⟨h',ts',i1,i2⟩
  ·obtain rfl:i=l.length :=(by omega);rw[zAE (by omega),cond_false]
   exact⟨h,ts,rfl,hh⟩
end Go.Proofs.YtbfnjnljboncgaaGreat
