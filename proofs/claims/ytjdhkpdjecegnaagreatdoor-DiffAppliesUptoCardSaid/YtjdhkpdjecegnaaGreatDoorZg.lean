/-
  Joined out of: PDif3, PDif4, PMrg1, PMrg2, PDif5, PMrg3, PMrg5, PMrg6, PDif6, PDif7, PDif8, PDif9.
-/
import Derived.Test.YtjdhkpdjecegnaaGreatDoorZf
set_option linter.unusedVariables false
set_option linter.unusedSimpArgs false
set_option maxHeartbeats 2000000
set_option maxRecDepth 100000
namespace Go.Proofs.YtjdhkpdjecegnaaGreatDoor
open Go.Abs
def scr : Nat → List Nd → List Nd → List Mv
 | 0,_,_ => []
 | k + 1,[],b => b.map fun _ => .ins
 | k + 1,x :: xs,[] => (x :: xs).map fun _ => .del
 | k + 1,x :: xs,y :: ys =>
  bif zBS x y && (DL (x :: xs) (y :: ys) == DL xs ys + D x y) then .mat :: scr k xs ys
  else bif (DL (x :: xs) (y :: ys) == DL xs (y :: ys) + x.cnt) && (!(DL (x :: xs) (y :: ys) == DL (x :: xs) ys + y.cnt) || Op.bytesLess (zDH x) (zDH y)) then .del :: scr k xs (y :: ys)
  else .ins :: scr k (x :: xs) ys
theorem zUY : ∀ b : List Nd,Sc (b.map fun _ => .ins) [] b
 | [] => .nil
 | _ :: ys => .ins (zUY ys)
theorem zUX : ∀ a : List Nd,Sc (a.map fun _ => .del) a []
 | [] => .nil
 | _ :: xs => .del (zUX xs)
theorem zRv : ∀ (k : Nat) (a b : List Nd),a.length + b.length < k → Sc (scr k a b) a b
 | 0,_,_,h => by omega
 | k + 1,[],b,_ => by unfold scr; exact zUY b
 | k + 1,x :: xs,[],_ => by unfold scr; exact zUX (x :: xs)
 | k + 1,x :: xs,y :: ys,h => by
  simp only [List.length_cons] at h;unfold scr;cases h1 : (zBS x y && (DL (x :: xs) (y :: ys) == DL xs ys + D x y)) with
  | true =>
   rw [cond_true]
   simp only [Bool.and_eq_true] at h1;exact .mat h1.1 (zRv k xs ys (by omega))
  | false =>
   rw [cond_false]
   generalize ((DL (x :: xs) (y :: ys) == DL xs (y :: ys) + x.cnt) && (!(DL (x :: xs) (y :: ys) == DL (x :: xs) ys + y.cnt) || Op.bytesLess (zDH x) (zDH y))) = c;cases c with
   | true => exact .del (zRv k xs (y :: ys) (by simp only [List.length_cons]; omega))
   | false => exact .ins (zRv k (x :: xs) ys (by simp only [List.length_cons]; omega))
def sK (a b : List Nd) : List Mv:=scr (a.length + b.length + 1) a b
theorem zN8 (a b : List Nd) : Sc (sK a b) a b:=zRv _ _ _ (Nat.lt_succ_self _)
def delL : Nat → RowR
 | 0,_,_ => []
 | N + 1,a,b => delW (delL N) (sK a b) a b
def zDB : Nat → RowO
 | 0,_,_,_ => []
 | N + 1,p,a,b => zDA (zDB N) p 0 (sK a b) a b
def zDS : Nat → RowO
 | 0,_,_,_ => []
 | N + 1,p,a,b => zDy (zDS N) p 0 (sK a b) a b
theorem zHB {a : List Nd} {x u : Nd} (hx : x ∈ a) (hu : u ∈ x.kids) : Nd.cnts u.kids + 2 ≤ Nd.cnts a:=by
 have h1:=Nd.cnts_mem hx;have h2:=Nd.cnts_mem hu;have e1:=x.cnt_kids;have e2:=u.cnt_kids
 omega
theorem zQ6 : ∀ (N : Nat) (a b : List Nd),Nd.cnts a < N → Does (zDB N) (delL N) a b
 | 0,_,_,h => by omega
 | N + 1,a,b,h => fun t q hg => by
  unfold zDB delL;exact del_walk (zN8 a b) (fun x hx y hy u hu v hv => zQ6 N u.kids v.kids (by have:=zHB hx hu; omega)) [] t hg
theorem zQ4 : ∀ (N : Nat) (a b : List Nd),Nd.cnts a < N → zU6 (zDS N) (delL N) a b
 | 0,_,_,h => by omega
 | N + 1,a,b,h => fun t q hg hf => by
  unfold delL at hg;unfold zDS;obtain ⟨f1,f2,f3,f4⟩:=hf;exact zTX (zN8 a b) (fun x hx y hy u hu v hv => zQ4 N u.kids v.kids (by have:=zHB hx hu; omega)) f2 f4 [] t hg f1 (by simpa using f3)
theorem zPV (F : RowR) : ∀ (us vs : List Nd),(∀ u ∈ us,∀ v,Nd.cnts (F u.kids v) ≤ Nd.cnts u.kids) → Nd.cnts (slotL F us vs) ≤ Nd.cnts us
 | [],vs,_ => by simp only [slotL,Nd.cnts]; omega
 | _ :: _,[],_ => by simp only [slotL,Nd.cnts]; omega
 | u :: us,v :: vs,h => by
  have h1:=h u List.mem_cons_self v.kids;have h2:=zPV F us vs fun u hu => h u (List.mem_cons_of_mem _ hu)
  have e:=u.cnt_kids;simp only [slotL,Nd.cnts,zEY]
  omega
theorem zT1 (F : RowR) {s : List Mv} {a b : List Nd} (hs : Sc s a b) : (∀ x ∈ a,∀ u ∈ x.kids,∀ v,Nd.cnts (F u.kids v) ≤ Nd.cnts u.kids) → Nd.cnts (delW F s a b) ≤ Nd.cnts a:=by
 induction hs with
 | nil => intro _; exact Nat.le_refl _
 | @mat s x y xs ys ha _ ih =>
  intro h;have h1:=zPV F x.kids y.kids (h x List.mem_cons_self)
  have h2:=ih fun x hx => h x (List.mem_cons_of_mem _ hx)
  have e:=x.cnt_kids;have e2 : (reI x (slotL F x.kids y.kids)).cnt = Nd.cnts (slotL F x.kids y.kids) + 1:=Nd.cnt_kids _;simp only [delW,Nd.cnts]
  omega
 | @del s x xs b _ ih =>
  intro h;have h2:=ih fun x hx => h x (List.mem_cons_of_mem _ hx)
  simp only [delW,Nd.cnts]
  omega
 | @ins s y a ys _ ih => intro h; exact ih h
theorem zSI : ∀ (N : Nat) (a b : List Nd),Nd.cnts (delL N a b) ≤ Nd.cnts a
 | 0,a,b => by simp only [delL,Nd.cnts]; omega
 | N + 1,a,b => by
  unfold delL;exact zT1 _ (zN8 a b) fun x _ u _ v => zSI N u.kids v
def wop (o : Op8) : Nat:=if o.1 = 5 then 1 else Nd.cnts o.2.2.2.2.1
def wgt : List Op8 → Nat
 | [] => 0
 | o :: l => wop o + wgt l
theorem zJO : ∀ a b : List Op8,wgt (a ++ b) = wgt a + wgt b
 | [],b => by simp [wgt]
 | o :: a,b => by simp only [List.cons_append,wgt,zJO a b]; omega
theorem zP4 {G H : RowO} {p q : List Int} {i j : Nat} : ∀ (s s' : Nat) (us vs : List Nd),(∀ u ∈ us,∀ v p q,wgt (G p u.kids v) + wgt (H q u.kids v) = DL u.kids v) → wgt (zCR G p i s us vs) + wgt (zCQ H q j s' us vs) = sumD DL us vs
 | _,_,[],vs,_ => by simp only [zCR,zCQ,wgt,sumD]
 | _,_,_ :: _,[],_ => by simp only [zCR,zCQ,wgt,sumD]
 | s,s',u :: us,v :: vs,h => by
  have h1:=h u List.mem_cons_self v.kids (p ++ [(i : Int),(s : Int)]) (q ++ [(j : Int),(s' : Int)])
  have h2:=zP4 (G:=G) (H:=H) (p:=p) (q:=q) (i:=i) (j:=j) (s + 1) (s' + 1) us vs fun u hu => h u (List.mem_cons_of_mem _ hu)
  simp only [zCR,zCQ,zJO,sumD]
  omega
theorem zU4 (b : List Nd) : Nd.cnts b ≤ DL [] b:=by
 have:=zVE (zSg [] b) fun x hx => by cases hx
 simpa [Nd.cnts] using this
theorem zH5 : ∀ b : List Nd,DL [] b = Nd.cnts b
 | [] => rfl
 | y :: ys => by
  have h1:=zSh (.ins (zSg [] ys) : Al [] (y :: ys) _)
  have h2:=zH5 ys;have h3:=zU4 (y :: ys)
  simp only [Nd.cnts] at *
  omega
theorem zTK {G H : RowO} {p q : List Int} : ∀ (b : List Nd) (i j : Nat),wgt (zDA G p i (b.map fun _ => .ins) [] b) + wgt (zDy H q j (b.map fun _ => .ins) [] b) = Nd.cnts b
 | [],_,_ => rfl
 | y :: ys,i,j => by
  have ih:=zTK (G:=G) (H:=H) (p:=p) (q:=q) ys i (j + 1)
  have hw : wop (zFv q j y) = y.cnt:=by simp [wop,zFv,Nd.cnts]
  simp only [List.map_cons,zDA,zDy,wgt,Nd.cnts]
  omega
theorem zTJ {G H : RowO} {p q : List Int} : ∀ (a : List Nd) (i j : Nat),wgt (zDA G p i (a.map fun _ => .del) a []) + wgt (zDy H q j (a.map fun _ => .del) a []) = Nd.cnts a
 | [],_,_ => rfl
 | x :: xs,i,j => by
  have ih:=zTJ (G:=G) (H:=H) (p:=p) (q:=q) xs (i + 1) j;have hw : wgt [zF9 p i x] = x.cnt:=by simp [wgt,wop,zF9,Nd.cnts]
  simp only [List.map_cons,zDA,zDy,zJO,Nd.cnts]
  omega
theorem zKJ {G H : RowO} {p q : List Int} : ∀ (k : Nat) (a b : List Nd) (i j : Nat),a.length + b.length < k → (∀ x ∈ a,∀ u ∈ x.kids,∀ v p q,wgt (G p u.kids v) + wgt (H q u.kids v) = DL u.kids v) → wgt (zDA G p i (scr k a b) a b) + wgt (zDy H q j (scr k a b) a b) = DL a b
 | 0,_,_,_,_,h,_ => by omega
 | k + 1,[],b,i,j,_,_ => by
  unfold scr;rw [zH5]
  exact zTK b i j
 | k + 1,x :: xs,[],i,j,_,_ => by
  unfold scr;rw [zU5,zH5]
  exact zTJ (x :: xs) i j
 | k + 1,x :: xs,y :: ys,i,j,h,hh => by
  simp only [List.length_cons] at h;unfold scr;cases h1 : (zBS x y && (DL (x :: xs) (y :: ys) == DL xs ys + D x y)) with
  | true =>
   simp only [Bool.and_eq_true,beq_iff_eq] at h1;have ih:=zKJ (G:=G) (H:=H) (p:=p) (q:=q) k xs ys (i + 1) (j + 1) (by omega) fun x hx => hh x (List.mem_cons_of_mem _ hx)
   have hs:=zP4 (G:=G) (H:=H) (p:=p) (q:=q) (i:=i) (j:=j) 0 0 x.kids y.kids (hh x List.mem_cons_self)
   have hd:=D_eq x y;have ht : wgt (setO q j x y) = txt x y:=by
    unfold setO txt
    by_cases e : x.text = y.text
    ·rw [if_pos e,e,beq_self_eq_true]; rfl
    ·rw [if_neg e,show (x.text == y.text) = false from beq_eq_false_iff_ne.2 e]; rfl
   simp only [cond_true,zDA,zDy,zJO]
   omega
  | false =>
   simp only [cond_false]
   cases hc : ((DL (x :: xs) (y :: ys) == DL xs (y :: ys) + x.cnt) && (!(DL (x :: xs) (y :: ys) == DL (x :: xs) ys + y.cnt) || Op.bytesLess (zDH x) (zDH y))) with
   | true =>
    simp only [Bool.and_eq_true,beq_iff_eq] at hc;have ih:=zKJ (G:=G) (H:=H) (p:=p) (q:=q) k xs (y :: ys) (i + 1) j (by simp only [List.length_cons]; omega) fun x hx => hh x (List.mem_cons_of_mem _ hx)
    have hw : wgt [zF9 p i x] = x.cnt:=by simp [wgt,wop,zF9,Nd.cnts]
    simp only [cond_true,zDA,zDy,zJO]
    omega
   | false =>
    have hr : DL (x :: xs) (y :: ys) = DL (x :: xs) ys + y.cnt:=by
     rcases zVF x y xs ys with ⟨g1,g2⟩ | g | g
     ·rw [g1,g2,beq_self_eq_true] at h1; cases h1
     ·rw [g,beq_self_eq_true,Bool.true_and] at hc;cases hq : (DL xs (y :: ys) + x.cnt == DL (x :: xs) ys + y.cnt) with
      | true => rw [g]; exact eq_of_beq hq
      | false => rw [hq] at hc; cases hc
     ·exact g
    have ih:=zKJ (G:=G) (H:=H) (p:=p) (q:=q) k (x :: xs) ys i (j + 1) (by simp only [List.length_cons]; omega) hh;have hw : wop (zFv q j y) = y.cnt:=by simp [wop,zFv,Nd.cnts]
    simp only [cond_false,zDA,zDy,wgt]
    omega
theorem zRk : ∀ (N : Nat) (a b : List Nd) (p q : List Int),Nd.cnts a < N → wgt (zDB N p a b) + wgt (zDS N q a b) = DL a b
 | 0,_,_,_,_,h => by omega
 | N + 1,a,b,p,q,h => by
  unfold zDB zDS;exact zKJ _ a b 0 0 (Nat.lt_succ_self _) fun x hx u hu v p q => zRk N u.kids v p q (by have:=zHB hx hu; omega)
def opsK (a b : Nd) : List Op8:=zDB 130 [] a.kids b.kids ++ zDS 130 [] a.kids b.kids
theorem zUj {a b : Nd} (va : zAL a = true) (vb : zAL b = true) (ca : a.cnt ≤ 120) (cb : b.cnt ≤ 120) : Runs a (opsK a b) b 0:=by
 have ea:=(zGp va).1;have eb:=(zGp vb).1;have ka:=a.cnt_kids;have kb:=b.cnt_kids;have ga : Good a [] a.kids:=⟨va,by show Fd a [] (.mk 1 [] 0 a.kids); rw [← ea]; exact .nil a⟩
 obtain ⟨h1,h2⟩:=zQ6 130 a.kids b.kids (by omega) a [] ga;have hcn:=ga.cnt_put (delL 130 a.kids b.kids)
 have gb : Good b [] b.kids:=⟨vb,by show Fd b [] (.mk 1 [] 0 b.kids); rw [← eb]; exact .nil b⟩
 obtain ⟨r1,r2,r3,r4,r5⟩:=gb.row;have hsm : Nd.cnts (delL 130 a.kids b.kids) + 1 ≤ 500:=by
  obtain ⟨q1,q2,q3,q4,q5⟩:=h2.row;rw [zDd] at q4 q5 hcn;rw [zEY] at q4 q5 hcn;have : Nd.cnts (delL 130 a.kids b.kids) ≤ Nd.cnts a.kids:=zSI 130 a.kids b.kids
  omega
 obtain ⟨k1,k2⟩:=zQ4 130 a.kids b.kids (by omega) _ [] h2 ⟨by omega,r1,r2,r3⟩
 have e : putL (putL a [] (rowN (delL 130 a.kids b.kids))) [] (rowN b.kids) = b:=by
  rw [zDd]
  exact eb.symm
 rw [e] at k1;exact zGI h1 rfl k1
end Go.Proofs.YtjdhkpdjecegnaaGreatDoor
namespace Go.Proofs.YtjdhkpdjecegnaaGreatDoor
open Go.Abs
def opw (o : Op8) : Nat:=Nd.ws o.nodes + o.text.length + 4
def sw : List Op8 → Nat
 | [] => 0
 | o :: l => opw o + sw l
theorem zLV : ∀ a b : List Op8,sw (a ++ b) = sw a + sw b
 | [],b => by simp [sw]
 | o :: a,b => by simp only [List.cons_append,sw,zLV a b]; omega
theorem zRB : ∀ l : List Op8,4 * l.length ≤ sw l
 | [] => Nat.zero_le _
 | o :: l => by
  have:=zRB l;simp only [List.length_cons,sw,opw]
  omega
theorem zOX (n : Nat) (hn : 200000000 < n) {ops : List Op8} (hl : ops.length ≤ 10000000) (ho : ∀ o ∈ ops,opw o ≤ 1900000) : ∀ (k i : Nat) (t : Nd),ops.length - i < k → i ≤ ops.length → t.w + sw (ops.drop i) ≤ 40000000 →
  ∃ f,zBx n ops k t.kind t.text t.cols t.kids (i : Int) = some f ∧ Runs t (ops.drop i) (endOf f).1 (endOf f).2.2 ∧ ((endOf f).2.2 = 0 → (endOf f).2.1 = 0)
 | 0,i,t,h,_,_ => by omega
 | k + 1,i,t,h,hi,hw => by
  unfold zBx
  by_cases hj : i < ops.length
  ·have hd:=List.drop_eq_getElem_cons hj;have hs:=ho _ (List.getElem_mem hj)
   rw [hd] at hw;simp only [sw] at hw;unfold opw at hw hs;obtain ⟨t',e,g1,g3⟩:=zNy n t ops[i] hn (by omega) (by omega) (by simp only [Op8.text] at hs; omega)
   have hw':=g3.w;rw [zBd (Int.ofNat_lt.2 hj),zBt hj,hd]
   simp only [cond_true]
   generalize ops[i] = o at *;obtain ⟨q1,q2,q3,q4,q5,q6,q7,q8⟩:=o;obtain ⟨t1,t2,t3,t4⟩:=t;have ih:=zOX n hn hl ho k (i + 1) t' (by omega) (by omega) (by simp only [Op8.text] at hw; dsimp only at hw' hw; omega)
   obtain ⟨u1,u2,u3,u4⟩:=t';simp only [Nd.kind,Nd.text,Nd.cols,Nd.kids] at ih ⊢;simp only [Option.bind_some,g1]
   by_cases he : e = 0
   ·subst he;simp only [show ((0 : Int) != 0) = false from rfl,cond_false,zAS (show i < 9223372036854775807 by omega)]
    obtain ⟨f,h1,h3,h4⟩:=ih;exact ⟨f,h1,.next g3 h3,h4⟩
   ·have hne : (e != 0) = true:=bne_iff_ne.2 he;simp only [hne,cond_true]
    exact ⟨_,rfl,.stop g3 he,fun h => absurd h he⟩
  ·rw [zBc (by omega),List.drop_eq_nil_iff.2 (by omega)]
   obtain ⟨t1,t2,t3,t4⟩:=t;simp only [cond_false]
   exact ⟨_,rfl,.nil _,fun _ => rfl⟩
theorem zVf (n : Nat) (t : Nd) (ops : List Op8) (hn : 200000000 < n) (hw : t.w + sw ops ≤ 40000000) (ho : ∀ o ∈ ops,opw o ≤ 1900000) :
  ∃ u i e,zCr n t ops = some (u,i,e) ∧ zU8 t ops u e ∧ (e = 0 → i = 0):=by
 have ct:=Nd.cnt_w t;have sl:=zRB ops;have v1:=zCI n t (by omega) (by omega)
 have hd : zBL t = some t:=zJw (by omega)
 obtain ⟨f,h1,h3,h4⟩:=zOX n hn (ops:=ops) (by omega) ho n 0 t (by omega) (by omega) (by rw [List.drop_zero]; exact hw)
 rw [show ((0 : Nat) : Int) = 0 from rfl] at h1;rw [List.drop_zero] at h3;obtain ⟨t1,t2,t3,t4⟩:=t;simp only [Nd.kind,Nd.text,Nd.cols,Nd.kids] at h1;unfold zCr;simp only [v1,Option.bind_some,hd,h1]
 cases hv : zAL (.mk t1 t2 t3 t4) with
 | false => exact ⟨_,0,1,rfl,.bad hv,fun h => by cases h⟩
 | true =>
  simp only [Bool.not_true,cond_false]
  cases f with
  | ret r =>
   obtain ⟨u,i,e⟩:=r;exact ⟨u,i,e,rfl,.go hv h3,h4⟩
  | go g =>
   obtain ⟨a,b,c,d⟩:=g;exact ⟨_,0,0,rfl,.go hv h3,fun _ => rfl⟩
theorem zV2 {x : Nd} {p : List Int} {i : Nat} : sw [zF9 p i x] = x.w + 5:=by
 simp [sw,opw,zF9,Op8.nodes,Op8.text,Nd.ws]
theorem zUZ {x : Nd} {p : List Int} {i : Nat} : opw (zFv p i x) = x.w + 5:=by
 simp [opw,zFv,Op8.nodes,Op8.text,Nd.ws]
theorem zV3 (p : List Int) (j : Nat) (x y : Nd) : sw (setO p j x y) ≤ y.text.length + 4:=by
 unfold setO;split
 ·exact Nat.zero_le _
 ·simp [sw,opw,zJK,Op8.nodes,Op8.text,Nd.ws]
theorem zJo {v : Nd} : v.w = v.text.length + Nd.ws v.kids + 1:=by cases v; rfl
theorem zPX {G : RowO} {p : List Int} {i : Nat} : ∀ (s : Nat) (us vs : List Nd),(∀ u ∈ us,∀ v p,sw (G p u.kids v) ≤ 5 * Nd.ws u.kids) → sw (zCR G p i s us vs) ≤ 5 * Nd.ws us
 | _,[],vs,_ => by simp only [zCR,sw]; omega
 | _,_ :: _,[],_ => by simp only [zCR,sw]; omega
 | s,u :: us,v :: vs,h => by
  have h1:=h u List.mem_cons_self v.kids (p ++ [(i : Int),(s : Int)])
  have h2:=zPX (G:=G) (p:=p) (i:=i) (s + 1) us vs fun u hu => h u (List.mem_cons_of_mem _ hu)
  have e:=zJo (v:=u)
  simp only [zCR,zLV,Nd.ws]
  omega
theorem zPW {G : RowO} {p : List Int} {i : Nat} : ∀ (s : Nat) (us vs : List Nd),(∀ v ∈ vs,∀ u p,sw (G p u v.kids) ≤ 5 * Nd.ws v.kids) → sw (zCQ G p i s us vs) ≤ 5 * Nd.ws vs
 | _,[],vs,_ => by simp only [zCQ,sw]; omega
 | _,_ :: _,[],_ => by simp only [zCQ,sw]; omega
 | s,u :: us,v :: vs,h => by
  have h1:=h v List.mem_cons_self u.kids (p ++ [(i : Int),(s : Int)])
  have h2:=zPW (G:=G) (p:=p) (i:=i) (s + 1) us vs fun u hu => h u (List.mem_cons_of_mem _ hu)
  have e:=zJo (v:=v)
  simp only [zCQ,zLV,Nd.ws]
  omega
theorem zVA {G : RowO} {p : List Int} {s : List Mv} {a b : List Nd} (hs : Sc s a b) : (∀ x ∈ a,∀ u ∈ x.kids,∀ v p,sw (G p u.kids v) ≤ 5 * Nd.ws u.kids) → ∀ i,sw (zDA G p i s a b) ≤ 5 * Nd.ws a:=by
 induction hs with
 | nil => intro _ i; exact Nat.zero_le _
 | @mat s x y xs ys ha _ ih =>
  intro h i;have h1:=ih (fun x hx => h x (List.mem_cons_of_mem _ hx)) (i + 1)
  have h2:=zPX (G:=G) (p:=p) (i:=i) 0 x.kids y.kids (h x List.mem_cons_self)
  have e:=zJo (v:=x)
  simp only [zDA,zLV,Nd.ws]
  omega
 | @del s x xs b _ ih =>
  intro h i;have h1:=ih (fun x hx => h x (List.mem_cons_of_mem _ hx)) (i + 1)
  simp only [zDA,zLV,zV2,Nd.ws]
  omega
 | @ins s y a ys _ ih => intro h i; exact ih h i
theorem zVz {G : RowO} {p : List Int} {s : List Mv} {a b : List Nd} (hs : Sc s a b) : (∀ y ∈ b,∀ v ∈ y.kids,∀ u p,sw (G p u v.kids) ≤ 5 * Nd.ws v.kids) → ∀ j,sw (zDy G p j s a b) ≤ 5 * Nd.ws b:=by
 induction hs with
 | nil => intro _ i; exact Nat.zero_le _
 | @mat s x y xs ys ha _ ih =>
  intro h j;have h1:=ih (fun x hx => h x (List.mem_cons_of_mem _ hx)) (j + 1)
  have h2:=zPW (G:=G) (p:=p) (i:=j) 0 x.kids y.kids (h y List.mem_cons_self)
  have h3:=zV3 p j x y;have e:=zJo (v:=y)
  simp only [zDy,zLV,Nd.ws]
  omega
 | @del s x xs b _ ih => intro h j; exact ih h j
 | @ins s y a ys _ ih =>
  intro h j;have h1:=ih (fun x hx => h x (List.mem_cons_of_mem _ hx)) (j + 1)
  have e:=zUZ (x:=y) (p:=p) (i:=j)
  simp only [zDy,sw,Nd.ws]
  omega
theorem zLX : ∀ (N : Nat) (p : List Int) (a b : List Nd),sw (zDB N p a b) ≤ 5 * Nd.ws a
 | 0,_,_,_ => Nat.zero_le _
 | N + 1,p,a,b => by
  unfold zDB;exact zVA (zN8 a b) (fun x _ u _ v q => zLX N q u.kids v) 0
theorem zLW : ∀ (N : Nat) (p : List Int) (a b : List Nd),sw (zDS N p a b) ≤ 5 * Nd.ws b
 | 0,_,_,_ => Nat.zero_le _
 | N + 1,p,a,b => by
  unfold zDS;exact zVz (zN8 a b) (fun y _ v _ u q => zLW N q u v.kids) 0
theorem zUC {t u u' : Nd} {ops : List Op8} {e e' : Int} (h : Runs t ops u e) (h' : Runs t ops u' e') : u = u' ∧ e = e':=by
 induction h generalizing u' e' with
 | nil t => cases h'; exact ⟨rfl,rfl⟩
 | stop h he =>
  cases h' with
  | stop g _ => exact ⟨rfl,(h.det g).2⟩
  | next g _ => exact absurd (h.det g).2 he
 | next h _ ih =>
  cases h' with
  | stop g he => exact absurd (h.det g).2.symm he
  | next g gr =>
   obtain ⟨rfl,_⟩:=h.det g;exact ih gr
theorem zPb {G : RowO} {p : List Int} {i : Nat} {o : Op8} : ∀ (s : Nat) (us vs : List Nd),o ∈ zCR G p i s us vs → ∃ u ∈ us,∃ v ∈ vs,∃ q,o ∈ G q u.kids v.kids
 | _,[],_,h => by simp only [zCR] at h; cases h
 | _,_ :: _,[],h => by simp only [zCR] at h; cases h
 | s,u :: us,v :: vs,h => by
  simp only [zCR] at h;rcases List.mem_append.1 h with h | h
  ·obtain ⟨u',h1,v',h2,q,h3⟩:=zPb (s + 1) us vs h;exact ⟨u',List.mem_cons_of_mem _ h1,v',List.mem_cons_of_mem _ h2,q,h3⟩
  ·exact ⟨u,List.mem_cons_self,v,List.mem_cons_self,_,h⟩
theorem zPa {G : RowO} {p : List Int} {i : Nat} {o : Op8} : ∀ (s : Nat) (us vs : List Nd),o ∈ zCQ G p i s us vs → ∃ u ∈ us,∃ v ∈ vs,∃ q,o ∈ G q u.kids v.kids
 | _,[],_,h => by simp only [zCQ] at h; cases h
 | _,_ :: _,[],h => by simp only [zCQ] at h; cases h
 | s,u :: us,v :: vs,h => by
  simp only [zCQ] at h;rcases List.mem_append.1 h with h | h
  ·exact ⟨u,List.mem_cons_self,v,List.mem_cons_self,_,h⟩
  ·obtain ⟨u',h1,v',h2,q,h3⟩:=zPa (s + 1) us vs h;exact ⟨u',List.mem_cons_of_mem _ h1,v',List.mem_cons_of_mem _ h2,q,h3⟩
theorem zSV {G : RowO} {p : List Int} {s : List Mv} {a b : List Nd} {o : Op8} (hs : Sc s a b) : ∀ i,o ∈ zDA G p i s a b → (∃ x ∈ a,∃ i,o = zF9 p i x) ∨ ∃ x ∈ a,∃ y ∈ b,∃ u ∈ x.kids,∃ v ∈ y.kids,∃ q,o ∈ G q u.kids v.kids:=by
 induction hs with
 | nil => intro i h; simp only [zDA] at h; cases h
 | @mat s x y xs ys ha _ ih =>
  intro i h;simp only [zDA] at h;rcases List.mem_append.1 h with h | h
  ·rcases ih _ h with ⟨z,h1,h2⟩ | ⟨z,h1,w,h2,h3⟩
   ·exact .inl ⟨z,List.mem_cons_of_mem _ h1,h2⟩
   ·exact .inr ⟨z,List.mem_cons_of_mem _ h1,w,List.mem_cons_of_mem _ h2,h3⟩
  ·obtain ⟨u,h1,v,h2,q,h3⟩:=zPb 0 _ _ h;exact .inr ⟨x,List.mem_cons_self,y,List.mem_cons_self,u,h1,v,h2,q,h3⟩
 | @del s x xs b _ ih =>
  intro i h;simp only [zDA] at h;rcases List.mem_append.1 h with h | h
  ·rcases ih _ h with ⟨z,h1,h2⟩ | ⟨z,h1,w,h2,h3⟩
   ·exact .inl ⟨z,List.mem_cons_of_mem _ h1,h2⟩
   ·exact .inr ⟨z,List.mem_cons_of_mem _ h1,w,h2,h3⟩
  ·exact .inl ⟨x,List.mem_cons_self,i,List.mem_singleton.1 h⟩
 | @ins s y a ys _ ih =>
  intro i h;rcases ih _ h with ⟨z,h1,h2⟩ | ⟨z,h1,w,h2,h3⟩
  ·exact .inl ⟨z,h1,h2⟩
  ·exact .inr ⟨z,h1,w,List.mem_cons_of_mem _ h2,h3⟩
theorem zSU {G : RowO} {p : List Int} {s : List Mv} {a b : List Nd} {o : Op8} (hs : Sc s a b) : ∀ j,o ∈ zDy G p j s a b → (∃ y ∈ b,∃ j,o = zFv p j y) ∨ (∃ x ∈ a,∃ y ∈ b,∃ j,o = zJK p j x.text y.text) ∨ ∃ x ∈ a,∃ y ∈ b,∃ u ∈ x.kids,∃ v ∈ y.kids,∃ q,o ∈ G q u.kids v.kids:=by
 induction hs with
 | nil => intro i h; simp only [zDy] at h; cases h
 | @mat s x y xs ys ha _ ih =>
  intro j h;simp only [zDy] at h;rcases List.mem_append.1 h with h | h
  ·unfold setO at h;split at h
   ·cases h
   ·exact .inr (.inl ⟨x,List.mem_cons_self,y,List.mem_cons_self,j,List.mem_singleton.1 h⟩)
  ·rcases List.mem_append.1 h with h | h
   ·obtain ⟨u,h1,v,h2,q,h3⟩:=zPa 0 _ _ h;exact .inr (.inr ⟨x,List.mem_cons_self,y,List.mem_cons_self,u,h1,v,h2,q,h3⟩)
   ·rcases ih _ h with ⟨z,h1,h2⟩ | ⟨z,h1,w,h2,h3⟩ | ⟨z,h1,w,h2,h3⟩
    ·exact .inl ⟨z,List.mem_cons_of_mem _ h1,h2⟩
    ·exact .inr (.inl ⟨z,List.mem_cons_of_mem _ h1,w,List.mem_cons_of_mem _ h2,h3⟩)
    ·exact .inr (.inr ⟨z,List.mem_cons_of_mem _ h1,w,List.mem_cons_of_mem _ h2,h3⟩)
 | @del s x xs b _ ih =>
  intro j h;rcases ih _ h with ⟨z,h1,h2⟩ | ⟨z,h1,w,h2,h3⟩ | ⟨z,h1,w,h2,h3⟩
  ·exact .inl ⟨z,h1,h2⟩
  ·exact .inr (.inl ⟨z,List.mem_cons_of_mem _ h1,w,h2,h3⟩)
  ·exact .inr (.inr ⟨z,List.mem_cons_of_mem _ h1,w,h2,h3⟩)
 | @ins s y a ys _ ih =>
  intro j h;simp only [zDy] at h;rcases List.mem_cons.1 h with h | h
  ·exact .inl ⟨y,List.mem_cons_self,j,h⟩
  ·rcases ih _ h with ⟨z,h1,h2⟩ | ⟨z,h1,w,h2,h3⟩ | ⟨z,h1,w,h2,h3⟩
   ·exact .inl ⟨z,List.mem_cons_of_mem _ h1,h2⟩
   ·exact .inr (.inl ⟨z,h1,w,List.mem_cons_of_mem _ h2,h3⟩)
   ·exact .inr (.inr ⟨z,h1,w,List.mem_cons_of_mem _ h2,h3⟩)
theorem zU2 {a : List Nd} {x u : Nd} (hx : x ∈ a) (hu : u ∈ x.kids) : Nd.ws u.kids ≤ Nd.ws a:=by
 have h1:=Nd.w_mem hx;have h2:=Nd.w_mem hu;have e1:=zJo (v:=x)
 have e2:=zJo (v:=u)
 omega
theorem zQp : ∀ (N : Nat) (p : List Int) (a b : List Nd),∀ o ∈ zDB N p a b,opw o ≤ Nd.ws a + 5
 | 0,_,_,_,_,h => by cases h
 | N + 1,p,a,b,o,h => by
  unfold zDB at h;rcases zSV (zN8 a b) _ h with ⟨x,h1,i,rfl⟩ | ⟨x,h1,y,_,u,h2,v,_,q,h3⟩
  ·have:=Nd.w_mem h1;have e : opw (zF9 p i x) = x.w + 5:=by simp [opw,zF9,Op8.nodes,Op8.text,Nd.ws]
   omega
  ·have h4:=zQp N q u.kids v.kids o h3;have:=zU2 h1 h2
   omega
theorem zQn : ∀ (N : Nat) (p : List Int) (a b : List Nd),∀ o ∈ zDS N p a b,opw o ≤ Nd.ws b + 5
 | 0,_,_,_,_,h => by cases h
 | N + 1,p,a,b,o,h => by
  unfold zDS at h;rcases zSU (zN8 a b) _ h with ⟨y,h1,j,rfl⟩ | ⟨x,_,y,h1,j,rfl⟩ | ⟨x,_,y,h1,u,_,v,h2,q,h3⟩
  ·have:=Nd.w_mem h1;have e:=zUZ (x:=y) (p:=p) (i:=j)
   omega
  ·have:=Nd.w_mem h1;have e:=zJo (v:=y)
   have e2 : opw (zJK p j x.text y.text) = y.text.length + 4:=by simp [opw,zJK,Op8.nodes,Op8.text,Nd.ws]
   omega
  ·have h4:=zQn N q u.kids v.kids o h3;have:=zU2 h1 h2
   omega
theorem zTc (n : Nat) {a b : Nd} (hn : 200000000 < n) (va : zAL a = true) (vb : zAL b = true) (ca : a.cnt ≤ 120) (cb : b.cnt ≤ 120) (wa : a.w ≤ 1048576) (wb : b.w ≤ 1048576) : zCr n a (opsK a b) = some (b,0,0):=by
 have e1:=zJo (v:=a)
 have e2:=zJo (v:=b)
 have s1:=zLX 130 [] a.kids b.kids;have s2:=zLW 130 [] a.kids b.kids;have hsw : sw (opsK a b) = sw (zDB 130 [] a.kids b.kids) + sw (zDS 130 [] a.kids b.kids):=zLV _ _;obtain ⟨u,i,e,h1,h2,h3⟩:=zVf n a (opsK a b) hn (by omega) (fun o ho => by
  rcases List.mem_append.1 ho with ho | ho
  ·have:=zQp _ _ _ _ o ho; omega
  ·have:=zQn _ _ _ _ o ho; omega)
 have hl:=zUj va vb ca cb;cases h2 with
 | bad h => rw [va] at h; cases h
 | go _ hr =>
  obtain ⟨rfl,rfl⟩:=zUC hr hl;rw [h1,h3 rfl]
end Go.Proofs.YtjdhkpdjecegnaaGreatDoor
namespace Go.Proofs.YtjdhkpdjecegnaaGreatDoor
open Go.Abs
theorem zF5 : ∀ (k i j : Nat) (a b : List Nd),∀ u ∈ zBR k i j a b,∃ s t x y,u = (i + s,j + t) ∧ a[s]? = some x ∧ b[t]? = some y ∧ zBS x y = true
 | 0,i,j,a,b,u,h => by unfold zBR at h; cases h
 | k + 1,i,j,[],b,u,h => by unfold zBR at h; cases h
 | k + 1,i,j,x :: xs,[],u,h => by unfold zBR at h; cases h
 | k + 1,i,j,x :: xs,y :: ys,u,h => by
  unfold zBR at h;cases h1 : (zBS x y && (DL (x :: xs) (y :: ys) == DL xs ys + D x y)) with
  | true =>
   rw [h1,cond_true] at h;rcases List.mem_cons.1 h with rfl | h
   ·exact ⟨0,0,x,y,rfl,rfl,rfl,(Bool.and_eq_true _ _ ▸ h1).1⟩
   ·obtain ⟨s,t,x',y',rfl,h2,h3,h4⟩:=zF5 k (i + 1) (j + 1) xs ys u h;exact ⟨s + 1,t + 1,x',y',by rw [Nat.add_assoc,Nat.add_comm 1,Nat.add_assoc j,Nat.add_comm 1],h2,h3,h4⟩
  | false =>
   rw [h1,cond_false] at h;generalize ((DL (x :: xs) (y :: ys) == DL xs (y :: ys) + x.cnt) && (!(DL (x :: xs) (y :: ys) == DL (x :: xs) ys + y.cnt) || Op.bytesLess (zDH x) (zDH y))) = c at h;cases c with
   | true =>
    obtain ⟨s,t,x',y',rfl,h2,h3,h4⟩:=zF5 k (i + 1) j xs (y :: ys) u h;exact ⟨s + 1,t,x',y',by rw [Nat.add_assoc,Nat.add_comm 1],h2,h3,h4⟩
   | false =>
    obtain ⟨s,t,x',y',rfl,h2,h3,h4⟩:=zF5 k i (j + 1) (x :: xs) ys u h;exact ⟨s,t + 1,x',y',by rw [Nat.add_assoc j,Nat.add_comm 1],h2,h3,h4⟩
theorem zEQ : ∀ (k i j : Nat) (a b : List Nd),(zBR k i j a b).Pairwise fun u v => u.1 < v.1 ∧ u.2 < v.2
 | 0,i,j,a,b => by unfold zBR; exact .nil
 | k + 1,i,j,[],b => by unfold zBR; exact .nil
 | k + 1,i,j,x :: xs,[] => by unfold zBR; exact .nil
 | k + 1,i,j,x :: xs,y :: ys => by
  unfold zBR;cases h1 : (zBS x y && (DL (x :: xs) (y :: ys) == DL xs ys + D x y)) with
  | true =>
   rw [cond_true]
   refine .cons (fun u hu => ?_) (zEQ k (i + 1) (j + 1) xs ys)
   obtain ⟨s,t,_,_,rfl,_⟩:=zF5 k (i + 1) (j + 1) xs ys u hu;dsimp only
   omega
  | false =>
   rw [cond_false]
   generalize ((DL (x :: xs) (y :: ys) == DL xs (y :: ys) + x.cnt) && (!(DL (x :: xs) (y :: ys) == DL (x :: xs) ys + y.cnt) || Op.bytesLess (zDH x) (zDH y))) = c;cases c with
   | true => exact zEQ k (i + 1) j xs (y :: ys)
   | false => exact zEQ k i (j + 1) (x :: xs) ys
end Go.Proofs.YtjdhkpdjecegnaaGreatDoor
namespace Go.Proofs.YtjdhkpdjecegnaaGreatDoor
open Go.Abs
def rowK (l : List Nd) : Nd:=.mk 1 [] 0 l
def parK (l : List (Nat × Nat)) (i : Nat) : Option Nat:=(l.find? fun u => u.1 == i).map (·.2)
def zJd (a b : List Nd) : List (Nat × Nat):=zBR (a.length + b.length + 1) 0 0 a b
end Go.Proofs.YtjdhkpdjecegnaaGreatDoor
namespace Go.Proofs.YtjdhkpdjecegnaaGreatDoor
open Go.Abs
def noN : Nd:=.mk 0 [] 0 []
def parB (l : List (Nat × Nat)) (j : Nat) : Option Nat:=(l.find? fun u => u.2 == j).map (·.1)
def delF (G : RowO) (p : List Int) (A B : List Nd) (l : List (Nat × Nat)) (i : Nat) : List Op8 :=
 match parK l i with
 | none => [zF9 p i (A.getD i noN)]
 | some j => zCR G p i 0 (A.getD i noN).kids (B.getD j noN).kids
def chgF (G : RowO) (p : List Int) (A B : List Nd) (l : List (Nat × Nat)) (j : Nat) : List Op8 :=
 match parB l j with
 | none => [zFv p j (B.getD j noN)]
 | some i => setO p j (A.getD i noN) (B.getD j noN) ++ zCQ G p j 0 (A.getD i noN).kids (B.getD j noN).kids
theorem zLE {u : Nat × Nat} {l : List (Nat × Nat)} {i : Nat} : parK (u :: l) i = if u.1 = i then some u.2 else parK l i:=by
 unfold parK;rw [List.find?_cons]
 by_cases h : u.1 = i
 ·rw [if_pos h,show (u.1 == i) = true from beq_iff_eq.2 h]; rfl
 ·rw [if_neg h,show (u.1 == i) = false from beq_eq_false_iff_ne.2 h]
theorem zJe {u : Nat × Nat} {l : List (Nat × Nat)} {j : Nat} : parB (u :: l) j = if u.2 = j then some u.1 else parB l j:=by
 unfold parB;rw [List.find?_cons]
 by_cases h : u.2 = j
 ·rw [if_pos h,show (u.2 == j) = true from beq_iff_eq.2 h]; rfl
 ·rw [if_neg h,show (u.2 == j) = false from beq_eq_false_iff_ne.2 h]
theorem zNZ {l : List (Nat × Nat)} {i : Nat} (h : ∀ u ∈ l,u.1 ≠ i) : parK l i = none:=by
 unfold parK;rw [List.find?_eq_none.2 fun u hu => by simpa using h u hu]
 rfl
theorem zNY {l : List (Nat × Nat)} {j : Nat} (h : ∀ u ∈ l,u.2 ≠ j) : parB l j = none:=by
 unfold parB;rw [List.find?_eq_none.2 fun u hu => by simpa using h u hu]
 rfl
theorem zHw {A : List Nd} {i : Nat} {x : Nd} {xs : List Nd} (h : A.drop i = x :: xs) : A.getD i noN = x ∧ A.drop (i + 1) = xs:=by
 have hi : i < A.length:=by
  have:=congrArg List.length h;simp only [List.length_drop,List.length_cons] at this
  omega
 rw [List.drop_eq_getElem_cons hi] at h;obtain ⟨h1,h2⟩:=List.cons.inj h;exact ⟨by rw [List.getD_eq_getElem?_getD,List.getElem?_eq_getElem hi,h1]; rfl,h2⟩
theorem zKE {f : Nat → List Op8} (i n : Nat) : (List.range' i (n + 1)).reverse.flatMap f = (List.range' (i + 1) n).reverse.flatMap f ++ f i:=by
 rw [List.range'_succ,List.reverse_cons,List.flatMap_append]
 simp
theorem zJx {f g : Nat → List Op8} {l : List Nat} (h : ∀ i ∈ l,f i = g i) : l.flatMap f = l.flatMap g:=by
 induction l with
 | nil => rfl
 | cons x l ih => rw [List.flatMap_cons,List.flatMap_cons,h x List.mem_cons_self,ih fun i hi => h i (List.mem_cons_of_mem _ hi)]
theorem zSL {G : RowO} {p : List Int} {A B : List Nd} : ∀ (a : List Nd) (i : Nat),A.drop i = a → zDA G p i (a.map fun _ => .del) a [] = (List.range' i a.length).reverse.flatMap (delF G p A B [])
 | [],i,_ => rfl
 | x :: xs,i,h => by
  obtain ⟨h1,h2⟩:=zHw h;have ih:=zSL (G:=G) (p:=p) (A:=A) (B:=B) xs (i + 1) h2;rw [List.length_cons,zKE,List.map_cons]
  simp only [zDA]
  rw [ih]
  have : delF G p A B [] i = [zF9 p i x]:=by unfold delF; rw [zNZ (fun u hu => by cases hu),h1]
  rw [this]
theorem zSJ {G : RowO} {p : List Int} : ∀ (b : List Nd) (i : Nat),zDA G p i (b.map fun _ => .ins) [] b = []
 | [],_ => rfl
 | y :: ys,i => by rw [List.map_cons]; simp only [zDA]; exact zSJ ys i
theorem zSy {G : RowO} {p : List Int} : ∀ (a : List Nd) (j : Nat),zDy G p j (a.map fun _ => .del) a [] = []
 | [],_ => rfl
 | x :: xs,j => by rw [List.map_cons]; simp only [zDy]; exact zSy xs j
theorem zSA {G : RowO} {p : List Int} {A B : List Nd} : ∀ (b : List Nd) (j : Nat),B.drop j = b → zDy G p j (b.map fun _ => .ins) [] b = (List.range' j b.length).flatMap (chgF G p A B [])
 | [],j,_ => rfl
 | y :: ys,j,h => by
  obtain ⟨h1,h2⟩:=zHw h;have ih:=zSA (G:=G) (p:=p) (A:=A) (B:=B) ys (j + 1) h2;rw [List.length_cons,List.range'_succ,List.flatMap_cons,List.map_cons]
  simp only [zDy]
  rw [ih]
  have : chgF G p A B [] j = [zFv p j y]:=by unfold chgF; rw [zNY (fun u hu => by cases hu),h1]
  rw [this]; rfl
theorem zVJ {k i j : Nat} {a b : List Nd} {u : Nat × Nat} (h : u ∈ zBR k i j a b) : i ≤ u.1 ∧ j ≤ u.2:=by
 obtain ⟨s,t,_,_,rfl,_⟩:=zF5 k i j a b u h;dsimp only
 omega
theorem zIV {G : RowO} {p : List Int} {A B : List Nd} : ∀ (k i j : Nat) (a b : List Nd),a.length + b.length < k → A.drop i = a → B.drop j = b → zDA G p i (scr k a b) a b = (List.range' i a.length).reverse.flatMap (delF G p A B (zBR k i j a b))
 | 0,_,_,_,_,h,_,_ => by omega
 | k + 1,i,j,[],b,_,_,_ => by unfold scr; rw [zSJ]; rfl
 | k + 1,i,j,x :: xs,[],_,ha,_ => by unfold scr zBR; exact zSL (x :: xs) i ha
 | k + 1,i,j,x :: xs,y :: ys,h,ha,hb => by
  obtain ⟨ha1,ha2⟩:=zHw ha;obtain ⟨hb1,hb2⟩:=zHw hb;simp only [List.length_cons] at h;unfold scr zBR;cases h1 : (zBS x y && (DL (x :: xs) (y :: ys) == DL xs ys + D x y)) with
  | true =>
   have ih:=zIV (G:=G) (p:=p) k (i + 1) (j + 1) xs ys (by omega) ha2 hb2;simp only [cond_true,zDA]
   rw [ih,List.length_cons,zKE]
   congr 1
   ·refine zJx fun q hq => ?_
    have hq':=List.mem_range'_1.1 (List.mem_reverse.1 hq)
    unfold delF;rw [zLE,if_neg (by dsimp only; omega)]
   ·unfold delF;rw [zLE,if_pos rfl]
    dsimp only;rw [ha1,hb1]
  | false =>
   simp only [cond_false]
   generalize ((DL (x :: xs) (y :: ys) == DL xs (y :: ys) + x.cnt) && (!(DL (x :: xs) (y :: ys) == DL (x :: xs) ys + y.cnt) || Op.bytesLess (zDH x) (zDH y))) = c;cases c with
   | true =>
    have ih:=zIV (G:=G) (p:=p) k (i + 1) j xs (y :: ys) (by simp only [List.length_cons]; omega) ha2 hb;simp only [cond_true,zDA]
    rw [ih,List.length_cons,zKE]
    congr 1
    unfold delF;rw [zNZ fun u hu => by have:=zVJ hu; omega,ha1]
   | false =>
    have ih:=zIV (G:=G) (p:=p) k i (j + 1) (x :: xs) ys (by simp only [List.length_cons]; omega) ha hb2;simp only [cond_false,zDA]
    exact ih
theorem zIS {G : RowO} {p : List Int} {A B : List Nd} : ∀ (k i j : Nat) (a b : List Nd),a.length + b.length < k → A.drop i = a → B.drop j = b → zDy G p j (scr k a b) a b = (List.range' j b.length).flatMap (chgF G p A B (zBR k i j a b))
 | 0,_,_,_,_,h,_,_ => by omega
 | k + 1,i,j,[],b,_,_,hb => by unfold scr zBR; exact zSA b j hb
 | k + 1,i,j,x :: xs,[],_,ha,_ => by unfold scr; rw [zSy]; rfl
 | k + 1,i,j,x :: xs,y :: ys,h,ha,hb => by
  obtain ⟨ha1,ha2⟩:=zHw ha;obtain ⟨hb1,hb2⟩:=zHw hb;simp only [List.length_cons] at h;unfold scr zBR;cases h1 : (zBS x y && (DL (x :: xs) (y :: ys) == DL xs ys + D x y)) with
  | true =>
   have ih:=zIS (G:=G) (p:=p) k (i + 1) (j + 1) xs ys (by omega) ha2 hb2;simp only [cond_true,zDy]
   rw [ih,List.length_cons,List.range'_succ,List.flatMap_cons,← List.append_assoc]
   congr 1
   ·unfold chgF;rw [zJe,if_pos rfl]
    dsimp only;rw [ha1,hb1]
   ·refine zJx fun q hq => ?_
    have hq':=List.mem_range'_1.1 hq;unfold chgF;rw [zJe,if_neg (by dsimp only; omega)]
  | false =>
   simp only [cond_false]
   generalize ((DL (x :: xs) (y :: ys) == DL xs (y :: ys) + x.cnt) && (!(DL (x :: xs) (y :: ys) == DL (x :: xs) ys + y.cnt) || Op.bytesLess (zDH x) (zDH y))) = c;cases c with
   | true =>
    have ih:=zIS (G:=G) (p:=p) k (i + 1) j xs (y :: ys) (by simp only [List.length_cons]; omega) ha2 hb;simp only [cond_true,zDy]
    exact ih
   | false =>
    have ih:=zIS (G:=G) (p:=p) k i (j + 1) (x :: xs) ys (by simp only [List.length_cons]; omega) ha hb2;simp only [cond_false,zDy]
    rw [ih,List.length_cons,List.range'_succ,List.flatMap_cons]
    have : chgF G p A B (zBR k i (j + 1) (x :: xs) ys) j = [zFv p j y]:=by
     unfold chgF;rw [zNY fun u hu => by have:=zVJ hu; omega,hb1]
    rw [this]; rfl
theorem zOS (N : Nat) (p : List Int) (a b : List Nd) : zDB (N + 1) p a b = (List.range' 0 a.length).reverse.flatMap (delF (zDB N) p a b (zJd a b)):=by
 unfold zDB sK zJd;exact zIV _ 0 0 a b (Nat.lt_succ_self _) rfl rfl
theorem zON (N : Nat) (p : List Int) (a b : List Nd) : zDS (N + 1) p a b = (List.range' 0 b.length).flatMap (chgF (zDS N) p a b (zJd a b)):=by
 unfold zDS sK zJd;exact zIS _ 0 0 a b (Nat.lt_succ_self _) rfl rfl
end Go.Proofs.YtjdhkpdjecegnaaGreatDoor
namespace Go.Proofs.YtjdhkpdjecegnaaGreatDoor
open Go.Abs
theorem zGs : ∀ (k k' i j : Nat) (a b : List Nd),a.length + b.length < k → a.length + b.length < k' → zBR k i j a b = zBR k' i j a b
 | 0,_,_,_,_,_,h,_ => by omega
 | _ + 1,0,_,_,_,_,_,h => by omega
 | k + 1,k' + 1,i,j,[],b,_,_ => by unfold zBR; rfl
 | k + 1,k' + 1,i,j,x :: xs,[],_,_ => by unfold zBR; rfl
 | k + 1,k' + 1,i,j,x :: xs,y :: ys,h,h' => by
  simp only [List.length_cons] at h h';unfold zBR;rw [zGs k k' (i + 1) (j + 1) xs ys (by omega) (by omega),zGs k k' (i + 1) j xs (y :: ys) (by simp only [List.length_cons]; omega) (by simp only [List.length_cons]; omega),zGs k k' i (j + 1) (x :: xs) ys (by simp only [List.length_cons]; omega) (by simp only [List.length_cons]; omega)]
end Go.Proofs.YtjdhkpdjecegnaaGreatDoor
namespace Go.Proofs.YtjdhkpdjecegnaaGreatDoor
open Go.Abs
theorem zKz {l : List Nd} {q : Nat} {v : Nd} (h : l[q]? = some v) : l.drop q = v :: l.drop (q + 1):=by
 obtain ⟨h1,rfl⟩:=List.getElem?_eq_some_iff.1 h;exact List.drop_eq_getElem_cons h1
theorem Nd.w_eq (v : Nd) : v.w = v.text.length + Nd.ws v.kids + 1:=by cases v; rfl
def okR (b : List Nd) : Prop:=zAL (rowK b) = true ∧ (rowK b).rng
theorem okR.sub {b : List Nd} {v u : Nd} (h : okR b) (hv : v ∈ b) (hu : u ∈ v.kids) : okR u.kids ∧ u = rowK u.kids:=by
 obtain ⟨h1,h2⟩:=h;unfold zAL at h1;simp only [Bool.and_eq_true,decide_eq_true_eq] at h1;obtain ⟨k1,f1,c1,d1⟩:=h1;have fb : zBf 1 b = true:=(zGw f1 rfl).2;obtain ⟨f2,k2⟩:=zCN fb hv;have gv : zBf v.kind v.kids = true:=by cases v; simp only [zCa,Bool.and_eq_true] at f2; exact f2.2
 obtain ⟨f3,k3⟩:=zCN gv hu;have kv : v.kind ≠ 1:=fun e => by rw [e] at k2; cases k2
 rw [zC2 kv] at k3;have ku : u.kind = 1:=by cases e : u.kind == 1 with | true => exact eq_of_beq e | false => rw [e] at k3; cases k3
 obtain ⟨r1,r2⟩:=zGw f3 ku;have c2:=Nd.cnts_mem hv;have c3:=Nd.cnts_mem hu;have e2:=v.cnt_kids;have cb : (rowK b).cnt = Nd.cnts b + 1:=by simp [rowK,Nd.cnt]
 have db : (rowK b).dep = Nd.deps b + 1:=rfl;have d2:=zNw hv;have d3:=zNw hu;have ev : v.dep = Nd.deps v.kids + 1:=by cases v; rfl
 have eu : rowK u.kids = u:=r1.symm;refine ⟨⟨?_,?_⟩,r1⟩
 ·rw [eu]
  unfold zAL;simp only [Bool.and_eq_true,decide_eq_true_eq]
  exact ⟨by rw [ku]; rfl,f3,by omega,by omega⟩
 ·rw [eu]
  have : v.rng:=zKB h2 (t:=rowK b) hv;exact zKB this hu
theorem zUW {t : Nd} (h : zAL t = true) (hr : t.rng) : okR t.kids ∧ t = rowK t.kids:=by
 have e:=(zGp h).1;have e' : rowK t.kids = t:=e.symm;exact ⟨⟨by rw [e']; exact h,by rw [e']; exact hr⟩,e⟩
end Go.Proofs.YtjdhkpdjecegnaaGreatDoor
namespace Go.Proofs.YtjdhkpdjecegnaaGreatDoor
open Go.Abs
theorem zT7 {n : Int} (h : 0 ≤ n ∧ n ≤ 1073741824) : zC1 n = some []:=zC4 h
theorem zSE (k : Nat) (p : List Int) (i s : Int) (hp : p.length ≤ 1000000) : zAO [p,[i,s]] (k + 3) 0 0 = some ((p.length : Int) + 2):=by
 have w1 : IntKind.i64.wrap ((0 : Int) + (p.length : Int)) = (p.length : Int):=by rw [wrap64_in (by omega) (by omega)]; omega
 have w2 : IntKind.i64.wrap ((p.length : Int) + 2) = (p.length : Int) + 2:=wrap64_in (by omega) (by omega)
 have c0 : at? [p,[i,s]] 0 = some p:=rfl;have c1 : at? [p,[i,s]] 1 = some [i,s]:=rfl;have v1 : IntKind.i64.wrap ((0 : Int) + 1) = 1:=by decide
 have v2 : IntKind.i64.wrap ((1 : Int) + 1) = 2:=by decide
 have hl : (([p,[i,s]] : List (List Int)).length : Int) = 2:=rfl;have h2 : (([i,s] : List Int).length : Int) = 2:=rfl;unfold zAO;rw [hl,zBd (by decide),cond_true,c0]
 simp only [Option.bind_some]
 rw [w1,zBc (by omega),cond_false,v1]
 unfold zAO;rw [hl,zBd (by decide),cond_true,c1]
 simp only [Option.bind_some]
 rw [h2,w2,zBc (by omega),cond_false,v2]
 unfold zAO;rw [hl,zBc (by decide),cond_false]
theorem zSF (k : Nat) (p : List Int) (i s : Int) (hp : p.length ≤ 1000000) : zAP [p,[i,s]] (k + 3) 0 [] = some (p ++ [i,s]):=by
 have c0 : at? [p,[i,s]] 0 = some p:=rfl;have c1 : at? [p,[i,s]] 1 = some [i,s]:=rfl;have v1 : IntKind.i64.wrap ((0 : Int) + 1) = 1:=by decide
 have v2 : IntKind.i64.wrap ((1 : Int) + 1) = 2:=by decide
 have hl : (([p,[i,s]] : List (List Int)).length : Int) = 2:=rfl;have q1 : ([] : List Int).length + p.length ≤ 4294967296:=by rw [List.length_nil]; omega
 have q2 : p.length + [i,s].length ≤ 4294967296:=by rw [List.length_cons,List.length_cons,List.length_nil]; omega
 unfold zAP;rw [hl,zBd (by decide),cond_true,c0]
 simp only [Option.bind_some]
 rw [zC4 q1,v1]
 unfold zAP;rw [hl,zBd (by decide),cond_true,c1]
 simp only [Option.bind_some,List.nil_append]
 rw [zC4 q2,v2]
 unfold zAP;rw [hl,zBc (by decide),cond_false]
theorem zMK (n : Nat) (p : List Int) (i s : Int) (hn : 5 < n) (hp : p.length ≤ 1000000) : zBk n [p,[i,s]] = some (p ++ [i,s]):=by
 obtain ⟨k,rfl⟩ : ∃ k,n = k + 3:=⟨n - 3,by omega⟩
 have e1:=zSE k p i s hp;have e2 : zC1 ((p.length : Int) + 2) = some []:=zT7 ⟨by omega,by omega⟩
 have e3:=zSF k p i s hp;unfold zBk;dsimp only;rw [e1,Option.bind_some,e2,Option.bind_some,e3,Option.bind_some]
theorem zQj {l : List Nd} {n : Nat} {v : Nd} (h : l[n]? = some v) : at? l (n : Int) = some v:=by
 obtain ⟨h1,rfl⟩:=List.getElem?_eq_some_iff.1 h;exact zBt h1
end Go.Proofs.YtjdhkpdjecegnaaGreatDoor
namespace Go.Proofs.YtjdhkpdjecegnaaGreatDoor
open Go.Abs
theorem zLv {l : List Nd} (hb : Nd.cnts l ≤ 16777216) : ∀ (k i : Nat),l.length - i < k → i ≤ l.length → zB0 l k (i : Int) (l.take i) = some l
 | 0,i,h,_ => by omega
 | k + 1,i,h,hi => by
  have hlen:=Nd.cnts_len l;unfold zB0
  by_cases hj : i < l.length
  ·have hm:=Nd.cnts_mem (List.getElem_mem hj)
   have hd : zBL l[i] = some l[i]:=zJw (by omega)
   have ht : l.take i ++ [l[i]] = l.take (i + 1):=by rw [List.take_append_getElem hj]
   rw [zBd (Int.ofNat_lt.2 hj),cond_true,zBt hj]
   have ih:=zLv hb k (i + 1) (by omega) (by omega)
   rw [← ht] at ih;generalize l[i] = v at *;obtain ⟨v1,v2,v3,v4⟩:=v;simp only [Option.bind_some,hd]
   rw [zC4 (by simp only [List.length_take,List.length_cons,List.length_nil]; omega),zAS (show i < 9223372036854775807 by omega),ih]
  ·rw [zBc (by omega),cond_false,List.take_of_length_le (by omega)]
theorem zSH (n : Nat) (o : Op8) (hn : Nd.cnts o.nodes < n) (hb : Nd.cnts o.nodes ≤ 16777216) (hr : o.row.length ≤ 16777216) : zHa n o = some o:=by
 obtain ⟨k,row,a,m,nodes,slot,old,text⟩:=o;simp only [Op8.nodes,Op8.row] at hn hb hr;have hlen:=Nd.cnts_len nodes;have h1 : zDI row = some row:=zC4 (by omega)
 have h2:=zLv hb n 0 (by omega) (by omega)
 rw [show ((0 : Nat) : Int) = 0 from rfl,List.take_zero] at h2;unfold zHa zGA zFH;simp only [h1,h2,Option.bind_some]
theorem zQq (n : Nat) (o : Op8) (l : List Op8) (hn : Nd.cnts o.nodes < n) (hb : Nd.cnts o.nodes ≤ 16777216) (hr : o.row.length ≤ 16777216) (hl : l.length ≤ 4000000) : zCy n o l = some (l ++ [o]):=by
 have h:=zSH n o hn hb hr;obtain ⟨k,row,a,m,nodes,slot,old,text⟩:=o;unfold zCy;simp only [h,Option.bind_some]
 rw [zC4 (by rw [List.length_cons,List.length_nil]; omega)]
theorem zOG (n : Nat) (a b : List Nd) (h : 4 * Nd.ws a + 4 * Nd.ws b + 200 < n) (ha : Nd.ws a ≤ 15999999) (hb : Nd.ws b ≤ 15999999) (ca : Nd.cnts a ≤ 900) (cb : Nd.cnts b ≤ 900) (ra : (rowK a).rng) (rb : (rowK b).rng) : zDU n a b = some ((zJd a b).map zCw):=by
 have k1:=Nd.cnts_ws a;have k2:=Nd.cnts_ws b;have l1:=Nd.cnts_len a;have l2:=Nd.cnts_len b;have e2:=(zQr n).2 a b (by omega) (by omega) (by omega)
 have e3:=zHv n (a:=a) (b:=b) (by omega) (by omega) (fun x hx => by have:=Nd.w_mem hx; exact ⟨by omega,by omega,zKB ra (t:=rowK a) hx⟩) (fun x hx => by have:=Nd.w_mem hx; exact ⟨by omega,by omega,zKB rb (t:=rowK b) hx⟩) n 0 0 [] (by omega) (by omega) (by omega) (by simp)
 rw [show ((0 : Nat) : Int) = 0 from rfl,List.drop_zero,List.drop_zero,List.nil_append] at e3;have hf : zBR n 0 0 a b = zJd a b:=zGs _ _ _ _ _ _ (by omega) (by omega)
 rw [hf] at e3;unfold zDU;simp only [e2,e3,Option.bind_some]
structure Rest (a b : List Nd) (L : List (Nat × Nat)) : Prop where
 inn : ∀ u ∈ L,∃ x y,a[u.1]? = some x ∧ b[u.2]? = some y ∧ zBS x y = true
 sorted : L.Pairwise fun u v => u.1 < v.1 ∧ u.2 < v.2
theorem zM2 (a b : List Nd) : Rest a b (zJd a b):=by
 refine ⟨fun u hu => ?_,zEQ _ _ _ _ _⟩
 obtain ⟨s,t,x,y,rfl,h1,h2,h3⟩:=zF5 _ _ _ _ _ u hu;exact ⟨x,y,by simpa using h1,by simpa using h2,h3⟩
abbrev zSq:=List Nd → List Nd → List Int → List Op8 → Option (List Op8)
theorem zPc (N : Nat) (p : List Int) (j : Nat) (xk yk : List Nd) (F : zSq) (G : RowO) (hN : 5 < N) (hp : p.length ≤ 1000000) (hl : xk.length = yk.length) (hb : yk.length ≤ 4000000)
  (hF : ∀ (s : Nat) (u v : Nd) (o : List Op8),xk[s]? = some u → yk[s]? = some v → o.length + (G (p ++ [(j : Int),(s : Int)]) u.kids v.kids).length ≤ 4000000 → F u.kids v.kids (p ++ [(j : Int),(s : Int)]) o = some (o ++ G (p ++ [(j : Int),(s : Int)]) u.kids v.kids)) :
  ∀ (k s : Nat) (o : List Op8),yk.length - s < k → s ≤ yk.length → o.length + (zCQ G p j s (xk.drop s) (yk.drop s)).length ≤ 4000000 →
   zBi F N p (j : Int) yk xk k (s : Int) o = some (o ++ zCQ G p j s (xk.drop s) (yk.drop s))
 | 0,s,o,h,_,_ => by omega
 | k + 1,s,o,h,hs,ho => by
  unfold zBi
  by_cases hj : s < yk.length
  ·have g1 : xk[s]? = some (xk[s]'(by omega)):=List.getElem?_eq_getElem (by omega)
   have g2 : yk[s]? = some yk[s]:=List.getElem?_eq_getElem hj;generalize xk[s]'(by omega) = u at *;generalize yk[s] = v at *;rw [zKz g1,zKz g2] at ho ⊢;simp only [zCQ,List.length_append] at ho;have e1:=hF s u v o g1 g2 (by omega)
   rw [zBd (Int.ofNat_lt.2 hj),cond_true,zQj g1,zQj g2]
   have ih:=zPc N p j xk yk F G hN hp hl hb hF k (s + 1) (o ++ G (p ++ [(j : Int),(s : Int)]) u.kids v.kids) (by omega) (by omega) (by rw [List.length_append]; omega)
   obtain ⟨u1,u2,u3,u4⟩:=u;obtain ⟨v1,v2,v3,v4⟩:=v;simp only [Nd.kids] at e1 ih;simp only [Option.bind_some]
   rw [zMK N p j s hN hp]
   simp only [Option.bind_some,e1]
   rw [zAS (by omega),ih]
   simp only [zCQ,Nd.kids,List.append_assoc]
  ·rw [zBc (by omega),cond_false,List.drop_of_length_le (by omega),List.drop_of_length_le (by omega)]
   simp only [zCQ,List.append_nil]
theorem zJn {o : Op8} {x : Nd} {p : List Int} {j : Nat} : (zFv p j x).nodes = [x] ∧ (zF9 p j x).nodes = [x]:=⟨rfl,rfl⟩
theorem zNC (N : Nat) (p : List Int) (a b : List Nd) (F : zSq) (G : RowO) (hN : 1000 < N) (hp : p.length ≤ 1000000) (hca : Nd.cnts a ≤ 900) (hcb : Nd.cnts b ≤ 900)
  (hF : ∀ x ∈ a,∀ y ∈ b,∀ (j s : Nat) (u v : Nd) (o : List Op8),x.kids[s]? = some u → y.kids[s]? = some v → o.length + (G (p ++ [(j : Int),(s : Int)]) u.kids v.kids).length ≤ 4000000 → F u.kids v.kids (p ++ [(j : Int),(s : Int)]) o = some (o ++ G (p ++ [(j : Int),(s : Int)]) u.kids v.kids)) :
  ∀ (k j : Nat) (S : List (Nat × Nat)) (o : List Op8),b.length - j < k → j ≤ b.length → Rest a b S → (∀ u ∈ S,j ≤ u.2) → o.length + ((List.range' j (b.length - j)).flatMap (chgF G p a b S)).length ≤ 4000000 →
   zBh F N a b p k (j : Int) (S.map zCw) o = some (o ++ (List.range' j (b.length - j)).flatMap (chgF G p a b S))
 | 0,j,S,o,h,_,_,_,_ => by omega
 | k + 1,j,S,o,h,hjb,hR,hS,ho => by
  have lb:=Nd.cnts_len b;unfold zBh
  by_cases hj : j < b.length
  ·have g2 : b[j]? = some b[j]:=List.getElem?_eq_getElem hj;have hd : b.getD j noN = b[j]:=by rw [List.getD_eq_getElem?_getD,g2]; rfl
   generalize b[j] = y at *;have my:=List.mem_of_getElem? g2;have cy:=Nd.cnts_mem my;rw [zBd (Int.ofNat_lt.2 hj),cond_true,zQj g2]
   have er : b.length - j = (b.length - (j + 1)) + 1:=by omega
   rw [er,List.range'_succ,List.flatMap_cons] at ho ⊢;rw [List.length_append] at ho;have none_case : (bif (((S.map zCw).length : Int) == 0) then some true else (at? (S.map zCw) 0).bind fun e => some (e.2 != (j : Int)) : Option Bool) = some true → parB S j = none →
     (∀ j',j ≤ j' → True) → (∀ u ∈ S,j + 1 ≤ u.2) → True:=fun _ _ _ _ => trivial
   clear none_case
   by_cases hmt : ∃ i S',S = (i,j) :: S'
   ·obtain ⟨i,S',rfl⟩:=hmt;obtain ⟨x,y',gx,gy,hal⟩:=hR.inn _ List.mem_cons_self;dsimp only at gx gy;obtain rfl : y = y':=Option.some.inj (g2.symm.trans gy)
    have mx:=List.mem_of_getElem? gx;have cx:=Nd.cnts_mem mx;have hlen:=zK5 hal;have kx:=x.cnt_kids;have lx:=Nd.cnts_len x.kids;have hda : a.getD i noN = x:=by rw [List.getD_eq_getElem?_getD,gx]; rfl
    have hpar : chgF G p a b ((i,j) :: S') j = setO p j x y ++ zCQ G p j 0 x.kids y.kids:=by
     unfold chgF;rw [zJe,if_pos rfl]
     dsimp only;rw [hda,hd]
    have hsort:=List.pairwise_cons.1 hR.sorted;have hrest : ∀ q ∈ List.range' (j + 1) (b.length - (j + 1)),chgF G p a b ((i,j) :: S') q = chgF G p a b S' q:=fun q hq => by
     have hq':=List.mem_range'_1.1 hq;unfold chgF;rw [zJe,if_neg (by dsimp only; omega)]
    rw [zJx hrest] at ho ⊢;rw [hpar] at ho ⊢;rw [List.length_append] at ho;have c0 : ((((i,j) :: S').map zCw).length : Int) = ((S'.length + 1 : Nat) : Int):=by simp
    have a0 : at? (((i,j) :: S').map zCw) 0 = some ((i : Int),(j : Int)):=rfl;have hc : (bif (((((i,j) :: S').map zCw).length : Int) == 0) then some true else (at? (((i,j) :: S').map zCw) 0).bind fun e => some (e.2 != (j : Int)) : Option Bool) = some false:=by
     rw [c0,zC2 (by omega),cond_false,a0]
     simp
    have es1 : x.text = y.text → setO p j x y = []:=fun h => if_pos h
    have es2 : x.text ≠ y.text → setO p j x y = [zJK p j x.text y.text]:=fun h => if_neg h
    have ih:=zNC N p a b F G hN hp hca hcb hF k (j + 1) S' (o ++ (setO p j x y ++ zCQ G p j 0 x.kids y.kids)) (by omega) (by omega) ⟨fun u hu => hR.inn u (List.mem_cons_of_mem _ hu),hsort.2⟩ (fun u hu => (hsort.1 u hu).2) (by rw [List.length_append,List.length_append]; omega)
    have el:=zPc N p j x.kids y.kids F G (by omega) hp hlen (by omega) (fun s u v o h1 h2 h3 => hF x mx y my j s u v o h1 h2 h3) N 0 (o ++ setO p j x y) (by omega) (Nat.zero_le _) (by rw [List.drop_zero,List.drop_zero,List.length_append]; omega)
    rw [show ((0 : Nat) : Int) = 0 from rfl,List.drop_zero,List.drop_zero] at el;have ee : x.text ≠ y.text → zCy N (zJK p j x.text y.text) o = some (o ++ [zJK p j x.text y.text]):=fun _ => zQq N _ o (by show Nd.cnts [] < N; simp only [Nd.cnts]; omega) (by show Nd.cnts [] ≤ _; simp only [Nd.cnts]; omega) (by show p.length ≤ _; omega) (by omega)
    have at2:=zQj gx;have htk : ((((i,j) :: S').map zCw).take ((((i,j) :: S').map zCw).length : Int).toNat).drop (1 : Int).toNat = S'.map zCw:=by
     rw [Int.toNat_natCast,List.take_length]; rfl
    obtain ⟨x1,x2,x3,x4⟩:=x;obtain ⟨y1,y2,y3,y4⟩:=y;simp only [Nd.text,Nd.kids] at ee el es1 es2 ih;simp only [Option.bind_some,a0] at hc ⊢;rw [hc]
    simp only [Option.bind_some,cond_false,at2]
    rw [zC4 (by rw [c0]; omega),htk]
    by_cases ht : x2 = y2
    ·rw [es1 ht,List.append_nil] at el;rw [es1 ht,List.nil_append] at ih;rw [show (x2 == y2) = true from beq_iff_eq.2 ht]
     simp only [Bool.not_true,cond_false,Option.bind_some,el]
     rw [zAS (by omega),ih,es1 ht,List.nil_append,List.append_assoc]
     rfl
    ·rw [es2 ht] at el ih;rw [show (x2 == y2) = false from beq_eq_false_iff_ne.2 ht]
     simp only [Bool.not_false,cond_true,Option.bind_some]
     have ee':=ee ht;unfold zJK at ee';rw [ee']
     simp only [Option.bind_some]
     unfold zJK at el;rw [el]
     simp only [Option.bind_some]
     unfold zJK at ih;rw [zAS (by omega)]
     simp only [List.append_assoc] at ih ⊢;rw [ih,es2 ht]
     rfl
   ·have hout : ∀ u ∈ S,j + 1 ≤ u.2:=fun u hu => by
     cases S with
     | nil => cases hu
     | cons v S' =>
      have hv:=hS v List.mem_cons_self;have hne : v.2 ≠ j:=fun e => hmt ⟨v.1,S',by rw [← e]⟩
      rcases List.mem_cons.1 hu with rfl | hu
      ·omega
      ·have:=(List.pairwise_cons.1 hR.sorted).1 u hu
       omega
    have hpar : chgF G p a b S j = [zFv p j y]:=by
     unfold chgF;rw [zNY fun u hu => by have:=hout u hu; omega,hd]
    rw [hpar] at ho ⊢;have hc : (bif (((S.map zCw).length : Int) == 0) then some true else (at? (S.map zCw) 0).bind fun e => some (e.2 != (j : Int)) : Option Bool) = some true:=by
     cases S with
     | nil => rfl
     | cons v S' =>
      have hv:=hout v List.mem_cons_self;have c0 : (((v :: S').map zCw).length : Int) = ((S'.length + 1 : Nat) : Int):=by simp
      have a0 : at? ((v :: S').map zCw) 0 = some (zCw v):=rfl;rw [c0,zC2 (by omega),cond_false,a0]
      simp only [Option.bind_some,zCw]
      congr 1
      exact bne_iff_ne.2 (by omega)
    have ih:=zNC N p a b F G hN hp hca hcb hF k (j + 1) S (o ++ [zFv p j y]) (by omega) (by omega) hR hout (by rw [List.length_append]; omega)
    have ee:=zQq N (zFv p j y) o (by rw [(zJn (o:=zFv p j y)).1]; simp only [Nd.cnts]; omega) (by rw [(zJn (o:=zFv p j y)).1]; simp only [Nd.cnts]; omega) (by show p.length ≤ _; omega) (by omega)
    obtain ⟨y1,y2,y3,y4⟩:=y;unfold zFv at ee;simp only [Option.bind_some]
    rw [hc]
    simp only [Option.bind_some,cond_true,ee]
    unfold zFv at ih;rw [zAS (by omega),ih]
    unfold zFv;simp only [List.append_assoc]
  ·rw [zBc (by omega),cond_false,show b.length - j = 0 by omega]
   simp
end Go.Proofs.YtjdhkpdjecegnaaGreatDoor
namespace Go.Proofs.YtjdhkpdjecegnaaGreatDoor
open Go.Abs
theorem zTi {L : List (Nat × Nat)} (hs : L.Pairwise fun u v => u.1 < v.1 ∧ u.2 < v.2) {i q : Nat} (h : (i,q) ∈ L) : parK L i = some q:=by
 induction L with
 | nil => cases h
 | cons u L ih =>
  obtain ⟨h1,h2⟩:=List.pairwise_cons.1 hs;rw [zLE]
  rcases List.mem_cons.1 h with rfl | h
  ·rw [if_pos rfl]
  ·rw [if_neg (by have:=h1 _ h; dsimp only at this; omega)]
   exact ih h2 h
theorem zOT (N : Nat) (p : List Int) (j : Nat) (xk yk : List Nd) (F : zSq) (G : RowO) (hN : 5 < N) (hp : p.length ≤ 1000000) (hl : xk.length = yk.length)
  (hF : ∀ (s : Nat) (u v : Nd) (o : List Op8),xk[s]? = some u → yk[s]? = some v → o.length + (G (p ++ [(j : Int),(s : Int)]) u.kids v.kids).length ≤ 4000000 → F u.kids v.kids (p ++ [(j : Int),(s : Int)]) o = some (o ++ G (p ++ [(j : Int),(s : Int)]) u.kids v.kids)) (o : List Op8) :
  ∀ (i : Nat),i ≤ xk.length → o.length + (zCR G p j (xk.length - i) (xk.drop (xk.length - i)) (yk.drop (xk.length - i))).length ≤ 4000000 →
   zBw F N xk yk p (j : Int) o i = some (o ++ zCR G p j (xk.length - i) (xk.drop (xk.length - i)) (yk.drop (xk.length - i)))
 | 0,_,_ => by
  unfold zBw;rw [Nat.sub_zero,List.drop_length]
  simp only [zCR,List.append_nil]
 | i + 1,hi,ho => by
  unfold zBw;have e : xk.length - i = (xk.length - (i + 1)) + 1:=by omega
  have e2 : xk.length - 1 - i = xk.length - (i + 1):=by omega
  have hs : xk.length - (i + 1) < xk.length:=by omega
  have ih:=zOT N p j xk yk F G hN hp hl hF o i (by omega)
  rw [e] at ih;rw [e2]
  generalize xk.length - (i + 1) = s at *;have g1 : xk[s]? = some xk[s]:=List.getElem?_eq_getElem hs;have g2 : yk[s]? = some (yk[s]'(by omega)):=List.getElem?_eq_getElem (by omega)
  generalize xk[s] = u at *;generalize yk[s]'(by omega) = v at *;rw [zKz g1,zKz g2] at ho ⊢;simp only [zCR,List.length_append] at ho;rw [ih (by omega)]
  have e1:=hF s u v (o ++ zCR G p j (s + 1) (xk.drop (s + 1)) (yk.drop (s + 1))) g1 g2 (by rw [List.length_append]; omega)
  rw [zQj g1,zQj g2]
  obtain ⟨u1,u2,u3,u4⟩:=u;obtain ⟨v1,v2,v3,v4⟩:=v;simp only [Nd.kids] at e1;simp only [Option.bind_some]
  rw [zMK N p j s hN hp]
  simp only [Option.bind_some,e1]
  simp only [zCR,Nd.kids,List.append_assoc]
theorem zPg (P : List (Nat × Nat)) (u : Nat × Nat) (hl : P.length ≤ 4000000) : IntKind.i64.wrap ((((P ++ [u]).map zCw).length : Int) - 1) = (P.length : Int) ∧ at? ((P ++ [u]).map zCw) (P.length : Int) = some (zCw u) ∧ ((P ++ [u]).map zCw).take (P.length : Int).toNat = P.map zCw:=by
 have h1 : (((P ++ [u]).map zCw).length : Int) - 1 = (P.length : Int):=by simp
 refine ⟨by rw [h1,wrap64_in (by omega) (by omega)],?_,?_⟩
 ·unfold at?
  rw [if_pos (by omega),Int.toNat_natCast]
  simp
 ·rw [Int.toNat_natCast]
  simp
theorem zVd (N : Nat) (p : List Int) (a b : List Nd) (L P : List (Nat × Nat)) (F : zSq) (G : RowO) (hN : 1000 < N) (hp : p.length ≤ 1000000) (hca : Nd.cnts a ≤ 900) (hcb : Nd.cnts b ≤ 900)
  (hF : ∀ x ∈ a,∀ y ∈ b,∀ (j s : Nat) (u v : Nd) (o : List Op8),x.kids[s]? = some u → y.kids[s]? = some v → o.length + (G (p ++ [(j : Int),(s : Int)]) u.kids v.kids).length ≤ 4000000 → F u.kids v.kids (p ++ [(j : Int),(s : Int)]) o = some (o ++ G (p ++ [(j : Int),(s : Int)]) u.kids v.kids))
  (hR : Rest a b L) (hP : P <+: L) (j : Nat) (hPj : ∀ u ∈ P,u.1 < j + 1) (hQ : ∀ u ∈ L,u ∉ P → j < u.1) (x : Nd) (gx : a[j]? = some x) (o : List Op8) (ho : o.length + (delF G p a b L j).length ≤ 4000000) :
  ∃ P',P' <+: L ∧ (∀ u ∈ P',u.1 < j) ∧ (∀ u ∈ L,u ∉ P' → j ≤ u.1) ∧ zBI F N b p (j : Int) x (P.map zCw) o = some (P'.map zCw,o ++ delF G p a b L j):=by
 have lb:=Nd.cnts_len b;have la:=Nd.cnts_len a;have mx:=List.mem_of_getElem? gx;have cx:=Nd.cnts_mem mx;have kx:=x.cnt_kids;have lx:=Nd.cnts_len x.kids;have hda : a.getD j noN = x:=by rw [List.getD_eq_getElem?_getD,gx]; rfl
 have hPs : P.Pairwise fun u v => u.1 < v.1 ∧ u.2 < v.2:=List.Pairwise.sublist hP.sublist hR.sorted
 by_cases hmt : ∃ P' q,P = P' ++ [(j,q)]
 ·obtain ⟨P',q,rfl⟩:=hmt;have hmem : (j,q) ∈ L:=hP.subset (by simp)
  obtain ⟨x',y,gx',gy,hal⟩:=hR.inn _ hmem;dsimp only at gx' gy;obtain rfl : x = x':=Option.some.inj (gx.symm.trans gx')
  have my:=List.mem_of_getElem? gy;have hdb : b.getD q noN = y:=by rw [List.getD_eq_getElem?_getD,gy]; rfl
  have hsp:=List.pairwise_append.1 hPs;have hlt : ∀ u ∈ P',u.1 < j:=fun u hu => (hsp.2.2 u hu _ (List.mem_singleton.2 rfl)).1
  have hdel : delF G p a b L j = zCR G p j 0 x.kids y.kids:=by
   unfold delF;rw [zTi hR.sorted hmem]
   dsimp only;rw [hda,hdb]
  rw [hdel] at ho ⊢;have hlen : P'.length ≤ 4000000:=by
   have:=hP.length_le;have h2 : L.length ≤ a.length:=by
    have hs:=hR.sorted;have hin:=hR.inn
    clear hmem hPs hsp hdel hQ hPj hP
    have key : ∀ (n : Nat) (l : List (Nat × Nat)),(l.Pairwise fun u v => u.1 < v.1 ∧ u.2 < v.2) → (∀ u ∈ l,n ≤ u.1 ∧ u.1 < a.length) → l.length ≤ a.length - n:=by
     intro n l
     induction l generalizing n with
     | nil => intro _ _; exact Nat.zero_le _
     | cons u l ih =>
      intro h1 h2;obtain ⟨h3,h4⟩:=List.pairwise_cons.1 h1;have:=ih (u.1 + 1) h4 fun w hw => ⟨(h3 w hw).1,(h2 w (List.mem_cons_of_mem _ hw)).2⟩
      have:=h2 u List.mem_cons_self;simp only [List.length_cons]
      omega
    have:=key 0 L hs fun u hu => by
     obtain ⟨x,y,h1,_,_⟩:=hin u hu;exact ⟨Nat.zero_le _,(List.getElem?_eq_some_iff.1 h1).1⟩
    omega
   simp only [List.length_append,List.length_cons,List.length_nil] at this
   omega
  obtain ⟨w1,w2,w3⟩:=zPg P' (j,q) hlen;refine ⟨P',(List.prefix_append P' [(j,q)]).trans hP,hlt,fun u hu hn => ?_,?_⟩
  ·by_cases hu2 : u ∈ P' ++ [(j,q)]
   ·rcases List.mem_append.1 hu2 with h | h
    ·exact absurd h hn
    ·rw [List.mem_singleton.1 h]; exact Nat.le_refl _
   ·exact Nat.le_of_lt (hQ u hu hu2)
  have hl0 : ((((P' ++ [(j,q)]).map zCw).length : Int) == 0) = false:=zC2 (by simp; omega)
  have hc : (bif ((((P' ++ [(j,q)]).map zCw).length : Int) == 0) then some true else (at? ((P' ++ [(j,q)]).map zCw) (IntKind.i64.wrap ((((P' ++ [(j,q)]).map zCw).length : Int) - 1))).bind fun e => some (e.1 != (j : Int)) : Option Bool) = some false:=by
   rw [hl0,cond_false,w1,w2]
   simp [zCw]
  have el:=zOT N p j x.kids y.kids F G (by omega) hp (zK5 hal) (fun s u v o h1 h2 h3 => hF x mx y my j s u v o h1 h2 h3) o x.kids.length (Nat.le_refl _) (by rw [Nat.sub_self,List.drop_zero,List.drop_zero]; exact ho)
  rw [Nat.sub_self,List.drop_zero,List.drop_zero] at el;have at2:=zQj gy;have hw : (P'.length : Int) ≤ (((P' ++ [(j,q)]).map zCw).length : Int):=by simp; omega
  obtain ⟨x1,x2,x3,x4⟩:=x;obtain ⟨y1,y2,y3,y4⟩:=y;unfold zBI;simp only [Nd.kids] at el lx kx ⊢;rw [hc]
  simp only [Option.bind_some,cond_false]
  rw [w1,w2]
  simp only [Option.bind_some,zCw,at2]
  rw [zC4 ⟨by omega,hw,by omega⟩,el]
  simp only [Option.bind_some]
  rw [w3]
 ·have hout : ∀ u ∈ P,u.1 < j:=by
   intro u hu;rcases List.eq_nil_or_concat P with rfl | ⟨P',v,rfl⟩
   ·cases hu
   ·have hne : v.1 ≠ j:=fun e => hmt ⟨P',v.2,by rw [← e]; simp⟩
    have hv:=hPj v (by simp)
    rw [List.concat_eq_append] at hu hPs;rcases List.mem_append.1 hu with h | h
    ·have:=((List.pairwise_append.1 hPs).2.2 u h v (List.mem_singleton.2 rfl)).1
     omega
    ·rw [List.mem_singleton.1 h]; omega
  have hnone : parK L j = none:=zNZ fun u hu => by
   by_cases h : u ∈ P
   ·have:=hout u h; omega
   ·have:=hQ u hu h; omega
  have hdel : delF G p a b L j = [zF9 p j x]:=by
   unfold delF;rw [hnone]
   dsimp only;rw [hda]
  rw [hdel] at ho ⊢;refine ⟨P,hP,hout,fun u hu hn => Nat.le_of_lt (hQ u hu hn),?_⟩
  have hlen : P.length ≤ 4000000:=by
   have h2 : ∀ (n : Nat) (l : List (Nat × Nat)),(l.Pairwise fun u v => u.1 < v.1 ∧ u.2 < v.2) → (∀ u ∈ l,n ≤ u.1 ∧ u.1 < j) → l.length ≤ j - n:=by
    intro n l
    induction l generalizing n with
    | nil => intro _ _; exact Nat.zero_le _
    | cons u l ih =>
     intro h1 h2;obtain ⟨h3,h4⟩:=List.pairwise_cons.1 h1;have:=ih (u.1 + 1) h4 fun w hw => ⟨(h3 w hw).1,(h2 w (List.mem_cons_of_mem _ hw)).2⟩
     have:=h2 u List.mem_cons_self;simp only [List.length_cons]
     omega
   have:=h2 0 P hPs fun u hu => ⟨Nat.zero_le _,hout u hu⟩
   have:=(List.getElem?_eq_some_iff.1 gx).1
   omega
  have hc : (bif (((P.map zCw).length : Int) == 0) then some true else (at? (P.map zCw) (IntKind.i64.wrap (((P.map zCw).length : Int) - 1))).bind fun e => some (e.1 != (j : Int)) : Option Bool) = some true:=by
   rcases List.eq_nil_or_concat P with rfl | ⟨P',v,rfl⟩
   ·rfl
   ·rw [List.concat_eq_append] at hlen hout ⊢;obtain ⟨w1,w2,w3⟩:=zPg P' v (by simp only [List.length_append,List.length_cons,List.length_nil] at hlen; omega)
    rw [w1,w2,zC2 (by simp; omega),cond_false]
    have:=hout v (by simp)
    simp only [Option.bind_some,zCw]
    congr 1
    exact bne_iff_ne.2 (by omega)
  have ee:=zQq N (zF9 p j x) o (by rw [(zJn (o:=zF9 p j x) (x:=x)).2]; simp only [Nd.cnts]; omega) (by rw [(zJn (o:=zF9 p j x) (x:=x)).2]; simp only [Nd.cnts]; omega) (by show p.length ≤ _; omega) (by omega)
  obtain ⟨x1,x2,x3,x4⟩:=x;unfold zF9 at ee;unfold zBI;dsimp only;rw [hc]
  simp only [Option.bind_some,cond_true,ee]
  rfl
theorem zOR (N : Nat) (p : List Int) (a b : List Nd) (L : List (Nat × Nat)) (F : zSq) (G : RowO) (hN : 1000 < N) (hp : p.length ≤ 1000000) (hca : Nd.cnts a ≤ 900) (hcb : Nd.cnts b ≤ 900)
  (hF : ∀ x ∈ a,∀ y ∈ b,∀ (j s : Nat) (u v : Nd) (o : List Op8),x.kids[s]? = some u → y.kids[s]? = some v → o.length + (G (p ++ [(j : Int),(s : Int)]) u.kids v.kids).length ≤ 4000000 → F u.kids v.kids (p ++ [(j : Int),(s : Int)]) o = some (o ++ G (p ++ [(j : Int),(s : Int)]) u.kids v.kids))
  (hR : Rest a b L) (o : List Op8) : ∀ (i : Nat),i ≤ a.length → o.length + ((List.range' (a.length - i) i).reverse.flatMap (delF G p a b L)).length ≤ 4000000 →
   ∃ P,P <+: L ∧ (∀ u ∈ P,u.1 < a.length - i) ∧ (∀ u ∈ L,u ∉ P → a.length - i ≤ u.1) ∧ zBv F N a b p (L.map zCw) o i = some (P.map zCw,o ++ (List.range' (a.length - i) i).reverse.flatMap (delF G p a b L))
 | 0,_,_ => by
  refine ⟨L,List.prefix_refl _,fun u hu => ?_,fun u hu hn => absurd hu hn,?_⟩
  ·obtain ⟨x,y,h1,_,_⟩:=hR.inn u hu;exact (List.getElem?_eq_some_iff.1 h1).1
  ·unfold zBv;simp
 | i + 1,hi,ho => by
  have e : a.length - i = (a.length - (i + 1)) + 1:=by omega
  have e2 : a.length - 1 - i = a.length - (i + 1):=by omega
  have hj : a.length - (i + 1) < a.length:=by omega
  have ih:=zOR N p a b L F G hN hp hca hcb hF hR o i (by omega)
  rw [zKE] at ho ⊢;unfold zBv;rw [e2]
  rw [e] at ih;generalize a.length - (i + 1) = j at *;rw [List.length_append] at ho;obtain ⟨P,h1,h2,h3,h4⟩:=ih (by omega)
  have gx : a[j]? = some a[j]:=List.getElem?_eq_getElem hj;obtain ⟨P',g1,g2,g3,g4⟩:=zVd N p a b L P F G hN hp hca hcb hF hR h1 j h2 (fun u hu hn => by have:=h3 u hu hn; omega) _ gx (o ++ (List.range' (j + 1) i).reverse.flatMap (delF G p a b L)) (by rw [List.length_append]; omega)
  refine ⟨P',g1,g2,g3,?_⟩
  rw [h4]
  simp only [Option.bind_some]
  rw [gx,Option.bind_some,g4]
  simp only [List.append_assoc]
end Go.Proofs.YtjdhkpdjecegnaaGreatDoor
namespace Go.Proofs.YtjdhkpdjecegnaaGreatDoor
open Go.Abs
theorem zSz (K : Nat) (p : List Int) (a b : List Nd) : 4 * (zDS K p a b).length ≤ 5 * Nd.ws b:=Nat.le_trans (zRB _) (zLW K p a b)
theorem zSK (K : Nat) (p : List Int) (a b : List Nd) : 4 * (zDB K p a b).length ≤ 5 * Nd.ws a:=Nat.le_trans (zRB _) (zLX K p a b)
theorem zJl {a : List Nd} {x u : Nd} {s : Nat} (hx : x ∈ a) (hu : x.kids[s]? = some u) : Nd.cnts u.kids + 2 ≤ Nd.cnts a ∧ Nd.ws u.kids + 2 ≤ Nd.ws a ∧ u ∈ x.kids:=by
 have h:=List.mem_of_getElem? hu;have h1:=zHB hx h;have h2:=Nd.w_mem hx;have h3:=Nd.w_mem h;have e1:=x.w_eq;have e2:=u.w_eq;exact ⟨h1,by omega,h⟩
theorem ins_eq : ∀ (K n : Nat) (p : List Int) (a b : List Nd) (o : List Op8),Nd.cnts a < K → 4 * Nd.ws a + 4 * Nd.ws b + 1300 < n → p.length + Nd.cnts a ≤ 900000 → okR a → okR b → Nd.cnts a ≤ 900 → Nd.cnts b ≤ 900 → Nd.ws a ≤ 15999999 → Nd.ws b ≤ 15999999 → o.length + (zDS K p a b).length ≤ 4000000 →
  zA1 n a b p o = some (o ++ zDS K p a b)
 | 0,_,_,_,_,_,h,_,_,_,_,_,_,_,_,_ => by omega
 | _ + 1,0,_,_,_,_,_,h,_,_,_,_,_,_,_,_ => by omega
 | K + 1,n + 1,p,a,b,o,hK,hn,hp,oa,ob,ca,cb,wa,wb,ho => by
  have hbw:=Nd.cnts_ws b;have lb:=Nd.cnts_len b;have e1:=zOG n a b (by omega) wa wb ca cb oa.2 ob.2;rw [zON] at ho ⊢;have e2:=zNC n p a b (zA1 n) (zDS K) (by omega) (by omega) ca cb (fun x mx y my j s u v o' gu gv ho' => by
   obtain ⟨s1,s2,s3⟩:=zJl mx gu;obtain ⟨t1,t2,t3⟩:=zJl my gv;exact ins_eq K n (p ++ [(j : Int),(s : Int)]) u.kids v.kids o' (by omega) (by omega) (by simp only [List.length_append,List.length_cons,List.length_nil]; omega) (oa.sub mx s3).1 (ob.sub my t3).1 (by omega) (by omega) (by omega) (by omega) ho') n 0 (zJd a b) o (by omega) (Nat.zero_le _) (zM2 a b) (fun _ _ => Nat.zero_le _) (by rw [Nat.sub_zero]; exact ho)
  rw [show ((0 : Nat) : Int) = 0 from rfl,Nat.sub_zero] at e2;unfold zA1;rw [e1,Option.bind_some,e2]
  rfl
theorem del_eq : ∀ (K n : Nat) (p : List Int) (a b : List Nd) (o : List Op8),Nd.cnts a < K → 4 * Nd.ws a + 4 * Nd.ws b + 1300 < n → p.length + Nd.cnts a ≤ 900000 → okR a → okR b → Nd.cnts a ≤ 900 → Nd.cnts b ≤ 900 → Nd.ws a ≤ 15999999 → Nd.ws b ≤ 15999999 → o.length + (zDB K p a b).length ≤ 4000000 →
  zBO n a b p o = some (o ++ zDB K p a b)
 | 0,_,_,_,_,_,h,_,_,_,_,_,_,_,_,_ => by omega
 | _ + 1,0,_,_,_,_,_,h,_,_,_,_,_,_,_,_ => by omega
 | K + 1,n + 1,p,a,b,o,hK,hn,hp,oa,ob,ca,cb,wa,wb,ho => by
  have la:=Nd.cnts_len a;have e1:=zOG n a b (by omega) wa wb ca cb oa.2 ob.2;rw [zOS] at ho ⊢;obtain ⟨P,_,_,_,e2⟩:=zOR n p a b (zJd a b) (zBO n) (zDB K) (by omega) (by omega) ca cb (fun x mx y my j s u v o' gu gv ho' => by
   obtain ⟨s1,s2,s3⟩:=zJl mx gu;obtain ⟨t1,t2,t3⟩:=zJl my gv;exact del_eq K n (p ++ [(j : Int),(s : Int)]) u.kids v.kids o' (by omega) (by omega) (by simp only [List.length_append,List.length_cons,List.length_nil]; omega) (oa.sub mx s3).1 (ob.sub my t3).1 (by omega) (by omega) (by omega) (by omega) ho') (zM2 a b) o a.length (Nat.le_refl _) (by rw [Nat.sub_self]; exact ho)
  rw [Nat.sub_self] at e2;unfold zBO;rw [e1,Option.bind_some,zC4 (by omega),e2]
  rfl
theorem zVG (n : Nat) (a b : Nd) (h : 4 * a.w + 4 * b.w + 1400 < n) (ha : a.w ≤ 1048576) (hb : b.w ≤ 1048576) (ca : a.cnt ≤ 120) (cb : b.cnt ≤ 120) (ra : a.rng) (rb : b.rng) :
  zEm n a b = some (bif zAL a && zAL b then (opsK a b,0) else ([],1)):=by
 have e1:=zIW n a b (by omega) (by omega) (by omega) (by omega)
 have k1:=a.cnt_kids;have k2:=b.cnt_kids;have w1:=a.w_eq;have w2:=b.w_eq;have l1:=zSK 130 [] a.kids b.kids;have l2:=zSz 130 [] a.kids b.kids;cases hva : zAL a with
 | false =>
  rw [hva] at e1;obtain ⟨a1,a2,a3,a4⟩:=a;obtain ⟨b1,b2,b3,b4⟩:=b;unfold zEm;simp only [e1,Option.bind_some,Bool.false_and,Bool.not_false,cond_true,cond_false]
 | true =>
  cases hvb : zAL b with
  | false =>
   rw [hva,hvb] at e1;obtain ⟨a1,a2,a3,a4⟩:=a;obtain ⟨b1,b2,b3,b4⟩:=b;unfold zEm;simp only [e1,Option.bind_some,Bool.and_false,Bool.not_false,cond_true,cond_false]
  | true =>
   have oa:=(zUW hva ra).1;have ob:=(zUW hvb rb).1;have e2:=del_eq 130 n [] a.kids b.kids [] (by omega) (by omega) (by simp only [List.length_nil]; omega) oa ob (by omega) (by omega) (by omega) (by omega) (by simp only [List.length_nil]; omega)
   have e3:=ins_eq 130 n [] a.kids b.kids (zDB 130 [] a.kids b.kids) (by omega) (by omega) (by simp only [List.length_nil]; omega) oa ob (by omega) (by omega) (by omega) (by omega) (by omega)
   rw [List.nil_append] at e2;rw [hva,hvb] at e1;unfold opsK;obtain ⟨a1,a2,a3,a4⟩:=a;obtain ⟨b1,b2,b3,b4⟩:=b;simp only [Nd.kids] at e2 e3 ⊢;unfold zEm;simp only [e1,e2,e3,Option.bind_some,Bool.and_self,Bool.not_true,cond_true,cond_false]
end Go.Proofs.YtjdhkpdjecegnaaGreatDoor
namespace Go.Proofs.YtjdhkpdjecegnaaGreatDoor
open Go.Abs
theorem pw2 (n : Nat) {nodes : List Nd} (hn : Nd.cnts nodes < n) (hb : Nd.cnts nodes ≤ 4000000) :
  ∀ (k i : Nat) (c : Nat),nodes.length - i < k → i ≤ nodes.length → c + Nd.cnts (nodes.drop i) ≤ 100000000 → zBN n nodes k (i : Int) (c : Int) = some ((c + Nd.cnts (nodes.drop i) : Nat) : Int)
 | 0,_,_,h,_,_ => by omega
 | k + 1,i,c,hk,hi,hc => by
  have hl:=Nd.cnts_len nodes;unfold zBN
  by_cases h : i < nodes.length
  ·rw [zBd (Int.ofNat_lt.2 h)]
   simp only [cond_true,zBt h,Option.bind_some]
   have hm:=Nd.cnts_mem (List.getElem_mem h)
   have hd:=Nd.cnts_drop h;rcases e : nodes[i] with ⟨a,b,c',d⟩
   rw [e] at hm hd;simp only [zI2 n _ (show (Nd.mk a b c' d).cnt < n by omega) (by omega),Option.bind_some]
   rw [zAS (by omega),wrap64_in (by omega) (by omega),← Int.natCast_add,pw2 n hn hb k (i + 1) _ (by omega) (by omega) (by omega)]
   congr 2; omega
  ·rw [zBc (by omega)]
   obtain rfl : i = nodes.length:=by omega
   simp [Nd.cnts]
def zSk (o : Op8) : Prop:=o.1 = 1 ∨ o.1 = 2 ∨ o.1 = 5
theorem pw1 (n : Nat) {ops : List Op8} (hn : ∀ o ∈ ops,Nd.cnts o.nodes < n ∧ Nd.cnts o.nodes ≤ 4000000 ∧ zSk o) (hl : ops.length ≤ 4000000) :
  ∀ (k i : Nat) (c : Nat),ops.length - i < k → i ≤ ops.length → c + wgt (ops.drop i) ≤ 4000000 → zBM n ops k (i : Int) (c : Int) = some (.go ((c + wgt (ops.drop i) : Nat) : Int))
 | 0,_,_,h,_,_ => by omega
 | k + 1,i,c,hk,hi,hc => by
  unfold zBM
  by_cases h : i < ops.length
  ·rw [zBd (Int.ofNat_lt.2 h)]
   obtain ⟨h1,h2,h3⟩:=hn _ (List.getElem_mem h)
   have hp:=zBt h;rw [List.drop_eq_getElem_cons h] at hc ⊢;simp only [wgt] at hc ⊢;rcases e : ops[i] with ⟨k1,k2,k3,k4,nodes,k5,k6,k7⟩
   rw [e] at h1 h2 h3 hp hc;simp only [Op8.nodes] at h1 h2;have hlen:=Nd.cnts_len nodes;simp only [cond_true,hp,Option.bind_some]
   rw [zAS (i:=i) (by omega)]
   have ih:=fun c' h => pw1 n hn hl k (i + 1) c' (by omega) (by omega) h
   unfold zSk at h3;dsimp only at h3
   by_cases hk5 : k1 = 5
   ·subst hk5;have hw : wop (5,k2,k3,k4,nodes,k5,k6,k7) = 1:=rfl;rw [hw] at hc ⊢;simp only [show ((5 : Int) == 1) = false from rfl,show ((5 : Int) == 2) = false from rfl,beq_self_eq_true,Option.bind_some,cond_true,cond_false]
    rw [zAS (i:=c) (by omega),ih (c + 1) (by omega)]
    congr 3; omega
   ·have hw : wop (k1,k2,k3,k4,nodes,k5,k6,k7) = Nd.cnts nodes:=by simp [wop,hk5]
    rw [hw] at hc ⊢;have h2:=pw2 n h1 h2 n 0 c (by omega) (by omega) (by rw [List.drop_zero]; omega)
    rw [show ((0 : Nat) : Int) = 0 from rfl,List.drop_zero] at h2;have hb : (bif (k1 == 1) then some (k1 == 1) else some (k1 == 2) : Option Bool) = some true:=by
     rcases h3 with rfl | rfl | h3
     ·rfl
     ·rfl
     ·exact absurd h3 hk5
    rw [hb]
    simp only [Option.bind_some,cond_true,h2]
    rw [ih _ (by omega)]
    congr 3; omega
  ·rw [zBc (by omega)]
   obtain rfl : i = ops.length:=by omega
   simp [wgt]
theorem zQ7 : ∀ (N : Nat) (p : List Int) (a b : List Nd),∀ o ∈ zDB N p a b,zSk o
 | 0,_,_,_,_,h => by cases h
 | N + 1,p,a,b,o,h => by
  unfold zDB at h;rcases zSV (zN8 a b) _ h with ⟨x,h1,i,rfl⟩ | ⟨x,h1,y,_,u,h2,v,_,q,h3⟩
  ·exact .inr (.inl rfl)
  ·exact zQ7 N q u.kids v.kids o h3
theorem zQ5 : ∀ (N : Nat) (p : List Int) (a b : List Nd),∀ o ∈ zDS N p a b,zSk o
 | 0,_,_,_,_,h => by cases h
 | N + 1,p,a,b,o,h => by
  unfold zDS at h;rcases zSU (zN8 a b) _ h with ⟨y,h1,j,rfl⟩ | ⟨x,_,y,h1,j,rfl⟩ | ⟨x,_,y,h1,u,_,v,h2,q,h3⟩
  ·exact .inl rfl
  ·exact .inr (.inr rfl)
  ·exact zQ5 N q u.kids v.kids o h3
theorem zTd {a b : Nd} (wa : a.w ≤ 1048576) (wb : b.w ≤ 1048576) : (opsK a b).length ≤ 4000000 ∧ ∀ o ∈ opsK a b,Nd.cnts o.nodes ≤ 1048581 ∧ zSk o:=by
 have w1:=a.w_eq;have w2:=b.w_eq;have l1:=zSK 130 [] a.kids b.kids;have l2:=zSz 130 [] a.kids b.kids;refine ⟨by unfold opsK; rw [List.length_append]; omega,fun o ho => ?_⟩
 unfold opsK at ho;have hc:=Nd.cnts_ws o.nodes;rcases List.mem_append.1 ho with ho | ho
 ·have h1:=zQp _ _ _ _ o ho;unfold opw at h1;exact ⟨by omega,zQ7 _ _ _ _ o ho⟩
 ·have h1:=zQn _ _ _ _ o ho;unfold opw at h1;exact ⟨by omega,zQ5 _ _ _ _ o ho⟩
theorem zR4 (n : Nat) {a b : Nd} (hn : 5000000 < n) (wa : a.w ≤ 1048576) (wb : b.w ≤ 1048576) (ca : a.cnt ≤ 120) (cb : b.cnt ≤ 120) : zD6 n (opsK a b) = some ((DL a.kids b.kids : Int),0):=by
 obtain ⟨h1,h2⟩:=zTd (a:=a) (b:=b) wa wb;have k1:=a.cnt_kids;have k2:=b.cnt_kids;have hc:=zRk 130 a.kids b.kids [] [] (by omega)
 have hle : DL a.kids b.kids ≤ Nd.cnts a.kids + Nd.cnts b.kids:=zOF (P:=D) a.kids b.kids;have hw : wgt (opsK a b) = DL a.kids b.kids:=by unfold opsK; rw [zJO,hc]
 have hp:=pw1 n (ops:=opsK a b) (fun o ho => by have:=h2 o ho; exact ⟨by omega,by omega,this.2⟩) h1 n 0 0 (by omega) (Nat.zero_le _) (by rw [List.drop_zero]; omega)
 rw [show ((0 : Nat) : Int) = 0 from rfl,List.drop_zero,hw,Nat.zero_add] at hp;unfold zD6;dsimp only;rw [hp]
 rfl
theorem zL2 (a b : Nd) (ha : a.w ≤ 1048576) (hb : b.w ≤ 1048576) (ra : a.rng) (rb : b.rng) : zCs (300000000 + 60) a b = some true:=by
 have hw:=zTV 300000000;obtain ⟨y,f1,f2⟩:=zVQ (300000000 + 60) a b (by omega)
 cases y with
 | false =>
  obtain ⟨a1,a2,a3,a4⟩:=a;obtain ⟨b1,b2,b3,b4⟩:=b;unfold zCs;simp only [hw,f1,Option.bind_some,Bool.not_true,cond_false,Bool.not_false,cond_true]
 | true =>
  obtain ⟨ca,cb⟩:=f2 rfl;have e1:=zKd (300000000 + 60) a (by omega) (by omega)
  have e2:=zKd (300000000 + 60) b (by omega) (by omega)
  have e3:=zVG (300000000 + 60) a b (by omega) ha hb ca cb ra rb;have e4:=fun va vb => zTc (300000000 + 60) (a:=a) (b:=b) (by omega) va vb ca cb ha hb
  have e5:=zR4 (300000000 + 60) (a:=a) (b:=b) (by omega) ha hb ca cb;have e6:=zU3 (300000000 + 60) a b (by omega) (by omega) (by omega) (Nat.le_trans (Nd.cnt_w a) ha) (Nat.le_trans (Nd.cnt_w b) hb)
  obtain ⟨r,e7,e8⟩:=(zQ0 (300000000 + 60)).1 b b (by omega) (by omega)
  obtain rfl:=e8.2 rfl;generalize 300000000 + 60 = n at *;generalize opsK a b = L at *;obtain ⟨a1,a2,a3,a4⟩:=a;obtain ⟨b1,b2,b3,b4⟩:=b;unfold zCs;simp only [hw,f1,e1,e2,e3,e6,Option.bind_some,Bool.not_true,cond_false]
  cases hva : zAL (.mk a1 a2 a3 a4) with
  | false => rfl
  | true =>
   cases hvb : zAL (.mk b1 b2 b3 b4) with
   | false => rfl
   | true => simp only [Bool.and_self,Bool.not_true,cond_true,cond_false,Option.bind_some,beq_self_eq_true,e4 hva hvb,e5,e7,bne_self_eq_false]
end Go.Proofs.YtjdhkpdjecegnaaGreatDoor
