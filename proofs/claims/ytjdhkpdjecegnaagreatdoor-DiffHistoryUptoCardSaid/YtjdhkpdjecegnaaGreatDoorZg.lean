/-
  Joined out of: PEdit5, PAlign, PDif1, PDif2, PDif3, PDif4, PMrg1, PMrg2, PDif5, PMrg3, PMrg5, PMrg6, PDif6, PDif7, PDif8, PEdit6, PEdit7, PDif9, PHis0, PHis1.
-/
import Derived.Test.YtjdhkpdjecegnaaGreatDoorZf
set_option linter.unusedVariables false
set_option linter.unusedSimpArgs false
set_option maxHeartbeats 2000000
set_option maxRecDepth 100000
namespace Go.Proofs.YtjdhkpdjecegnaaGreatDoor
open Go.Abs
theorem zUC (l b : List Nd) {p q : Nat} (hp : p ≤ l.length) : segS (splS l p q b) p (p + b.length) = b:=by
 have h : (l.take p).length = p :=(by rw [List.length_take]; omega);unfold segS splS;rw [List.append_assoc,List.take_append,List.take_of_length_le (by omega),h,show p + b.length - p = b.length by omega,List.take_left,List.drop_append,List.drop_of_length_le (by omega),h,Nat.sub_self]
 rfl
theorem zMs (l b c : List Nd) {p q : Nat} (hp : p ≤ l.length) : splS (splS l p q b) p (p + b.length) c = splS l p q c:=by
 have h : (l.take p).length = p :=(by rw [List.length_take]; omega);unfold splS;have e1 : ((l.take p ++ b) ++ l.drop q).take p = l.take p:=by
  rw [List.append_assoc,List.take_append,h,Nat.sub_self,List.take_take,Nat.min_self]; simp
 have e2 : ((l.take p ++ b) ++ l.drop q).drop (p + b.length) = l.drop q:=by
  rw [List.drop_append,List.length_append,h,Nat.sub_self,List.drop_of_length_le (by rw [List.length_append,h]; omega)]; simp
 rw [e1,e2]
theorem zMr (l : List Nd) {p q : Nat} (hpq : p ≤ q) : splS l p q (segS l p q) = l:=by
 unfold splS segS;have : l.take p ++ (l.take q).drop p = l.take q:=by
  have h:=List.take_append_drop p (l.take q)
  rw [List.take_take,Nat.min_eq_left hpq] at h;exact h
 rw [this,List.take_append_drop]
theorem zRW (l b : List Nd) {p q : Nat} (hp : p ≤ q) (hq : q ≤ l.length) : (splS l p q b).length + (q - p) = l.length + b.length:=by
 unfold splS;simp only [List.length_append,List.length_take,List.length_drop]
 omega
theorem zWw (l : List Nd) {p q : Nat} (hp : p ≤ q) (hq : q ≤ l.length) : (segS l p q).length = q - p:=by
 unfold segS;simp only [List.length_take,List.length_drop]
 omega
theorem zVT {l : List Nd} {p : Nat} {it : Nd} (h : l[p]? = some it) : segS l p (p + 1) = [it]:=by
 have:=zRV l (List.getElem?_eq_some_iff.1 h).1;rw [segS,this,(List.getElem?_eq_some_iff.1 h).2]
theorem zVU (l : List Nd) {p q : Nat} (x : Nd) (hp : p ≤ l.length) : (splS l p q [x])[p]? = some x:=by
 have h : (l.take p).length = p :=(by rw [List.length_take]; omega);unfold splS;rw [List.append_assoc,List.getElem?_append_right (by omega),h,Nat.sub_self]; rfl
theorem cnt_kids (v : Nd) : v.cnt = Nd.cnts v.kids + 1:=by cases v; simp only [Nd.cnt,Nd.kids]; try omega
def invO : Op8 → Op8
 | (k,row,a,m,nodes,slot,old,text) =>
  (if k = 1 then 2 else if k = 2 then 1 else if k = 3 then 4 else if k = 4 then 3 else k,row,a,m,nodes,slot,if k = 5 then text else old,if k = 5 then old else text)
theorem FormP.inv {o : Op8} (h : FormP o) : FormP (invO o):=by
 obtain ⟨k,row,a,m,nodes,slot,old,text⟩:=o;rcases h with ⟨rfl | rfl,h⟩ | ⟨rfl | rfl,h⟩ | ⟨rfl,h1,h⟩
 ·exact .inl ⟨.inr rfl,h⟩
 ·exact .inl ⟨.inl rfl,h⟩
 ·exact .inr (.inl ⟨.inr rfl,h⟩)
 ·exact .inr (.inl ⟨.inl rfl,h⟩)
 ·exact .inr (.inr ⟨rfl,Ne.symm h1,h⟩)
theorem Chg.inv {l l' : List Nd} {o : Op8} (hf : FormP o) (h : Chg l o l' 0) : Chg l' (invO o) l 0:=by
 obtain ⟨k,row,a,m,nodes,slot,old,text⟩:=o;cases h with
 | @ins _ p _ _ _ _ _ h =>
  have hl:=zRW l nodes (Nat.le_refl p) h;have h1:=zUC l nodes (q:=p) h;have h2:=zMs l nodes [] (q:=p) h;have h3:=zMr l (Nat.le_refl p)
  have h4 : segS l p p = [] :=(by unfold segS; simp);rw [h4] at h3;have:=Chg.del (l:=splS l p p nodes) (row:=row) (p:=p) (m:=m) (nodes:=nodes) (slot:=slot) (old:=old) (text:=text) (by omega) h1;rw [h2,h3] at this;exact this
 | @del _ p _ _ _ _ _ h he =>
  have hl:=zRW l [] (Nat.le_add_right p nodes.length) h;have h2:=zMs l [] nodes (q:=p + nodes.length) (p:=p) (by omega)
  have h3:=zMr l (Nat.le_add_right p nodes.length)
  rw [he] at h3;simp only [List.length_nil,Nat.add_zero] at h2;have:=Chg.ins (l:=splS l p (p + nodes.length) []) (row:=row) (p:=p) (m:=m) (nodes:=nodes) (slot:=slot) (old:=old) (text:=text) (by simp only [List.length_nil] at hl; omega)
  rw [h2,h3] at this;exact this
 | @wrap _ p m v s _ _ h =>
  have ht : zTj [v] (s : Int):=by
   rcases hf with ⟨h0 | h0,_⟩ | ⟨_,_,h0,_⟩ | ⟨h0,_⟩
   ·cases h0
   ·cases h0
   ·exact h0
   ·cases h0
  obtain ⟨v',s',z,e1,e2,_,hz,hk⟩:=ht;cases e1;obtain rfl:=Int.ofNat.inj e2;have h1:=zVU l (q:=p + m) (zIQ v s (segS l p (p + m))) (p:=p) (by omega)
  have h2:=zMs l [zIQ v s (segS l p (p + m))] (segS l p (p + m)) (q:=p + m) (p:=p) (by omega)
  rw [zMr l (Nat.le_add_right p m)] at h2;have hk2 : (zIQ v s (segS l p (p + m))).kids[s]? = some (rowN (segS l p (p + m))):=zQP hz;have hm : ((rowN (segS l p (p + m))).kids.length : Int) = (m : Int):=by
   have:=zWw l (Nat.le_add_right p m) h;show ((segS l p (p + m)).length : Int) = m
   omega
  have:=Chg.unwrap (row:=row) (v:=v) (old:=old) (text:=text) h1 hk2 hm rfl;rw [show (rowN (segS l p (p + m))).kids = segS l p (p + m) from rfl] at this;simp only [List.length_cons,List.length_nil,Nat.zero_add] at h2;rw [h2] at this;exact this
 | @unwrap _ p _ v it z s _ _ h hz hm he =>
  have hp:=(List.getElem?_eq_some_iff.1 h).1;have hl:=zRW l z.kids (Nat.le_add_right p 1) (by omega)
  have h1:=zUC l z.kids (q:=p + 1) (p:=p) (by omega)
  have h2:=zMs l z.kids [zIQ v s z.kids] (q:=p + 1) (p:=p) (by omega)
  have h3:=zMr l (Nat.le_add_right p 1)
  rw [zVT h,he] at h3;rw [h3] at h2;subst hm;have:=Chg.wrap (l:=splS l p (p + 1) z.kids) (row:=row) (p:=p) (m:=z.kids.length) (v:=v) (s:=s) (old:=old) (text:=text) (by omega)
  rw [h1,h2] at this;exact this
 | @set _ p _ _ it _ _ _ h hl he =>
  have hp:=(List.getElem?_eq_some_iff.1 h).1;have h1:=zVU l (q:=p + 1) (.mk it.kind text it.cols it.kids) (p:=p) (by omega)
  have h2:=zMs l [.mk it.kind text it.cols it.kids] [it] (q:=p + 1) (p:=p) (by omega)
  have h3:=zMr l (Nat.le_add_right p 1)
  rw [zVT h] at h3;rw [h3] at h2;simp only [List.length_cons,List.length_nil,Nat.zero_add] at h2;have:=Chg.set (row:=row) (m:=m) (nodes:=nodes) (slot:=slot) (old:=text) (text:=old) h1 hl rfl;obtain ⟨i1,i2,i3,i4⟩:=it;have he : i2 = old:=he;subst he;simp only [Nd.kind,Nd.cols,Nd.kids] at this h2;rw [h2] at this;exact this
theorem zOr (o : Op8) : (invO o).2.1 = o.2.1:=rfl
theorem App.inv {t t' : Nd} {o : Op8} (h : App t o t' 0) : App t' (invO o) t 0 ∧ zAL t' = true:=by
 cases h with
 | chg h hf hr hc he=>exact absurd rfl he
 | @ok r l h hf hr hc hv =>
  have hrr:=(zFS (hr.valid h)).1;have hput:=hr.put (rowN l)
  have hb:=hr.back (rowN l)
  have hci:=hc.inv hf;have : App (putL t o.2.1 (rowN l)) (invO o) (putL (putL t o.2.1 (rowN l)) (invO o).2.1 (rowN r.kids)) 0:=by
   refine App.ok hv hf.inv (r:=rowN l) (by rw [zOr]; exact hput) hci ?_;rw [zOr,show rowN r.kids = r from hrr.symm,hb]
   exact h
  rw [zOr,show rowN r.kids = r from hrr.symm,hb] at this;exact ⟨this,hv⟩
theorem zR9 {ks : List Nd} {i : Nat} {x y : Nd} {D : Nat} (h : ks[i]? = some x) (h1 : Nd.deps ks ≤ D) (h2 : y.dep ≤ D) : Nd.deps (ks.set i y) ≤ D:=by
 induction ks generalizing i with
 | nil=>cases h
 | cons u ks ih =>
  simp only [Nd.deps] at h1;have a1:=Nat.le_trans (Nat.le_max_left _ _) h1;have a2:=Nat.le_trans (Nat.le_max_right _ _) h1;cases i with
  | zero=>simp only [List.set_cons_zero,Nd.deps]; exact Nat.max_le.2 ⟨h2,a2⟩
  | succ i=>simp only [List.set_cons_succ,Nd.deps]; exact Nat.max_le.2 ⟨a1,ih h a2⟩
theorem Fd.deep {t z : Nd} {p : List Int} (h : Fd t p z) : z.dep + p.length ≤ t.dep:=by
 induction h with
 | nil t=>simp
 | @step k tx c ks i k2 tx2 c2 ks2 s z r' p hi hs _ ih =>
  have d1:=zEg (List.mem_of_getElem? hi)
  have d2:=zEg (List.mem_of_getElem? hs)
  simp only [Nd.dep,List.length_cons] at *
  omega
theorem Fd.put_dep {t z : Nd} {p : List Int} (h : Fd t p z) (r : Nd) {D : Nat} (h1 : t.dep ≤ D) (h2 : r.dep + p.length ≤ D) : (putL t p r).dep ≤ D:=by
 induction h generalizing D with
 | nil t=>rw [zDt]; simpa using h2
 | @step k tx c ks i k2 tx2 c2 ks2 s z r' p hi hs _ ih =>
  rw [zCk hi hs]
  have d1:=zEg (List.mem_of_getElem? hi)
  have d2:=zEg (List.mem_of_getElem? hs)
  simp only [Nd.dep,List.length_cons] at *;have:=ih (D:=D - 2) (by omega) (by omega)
  have e1:=zR9 (D:=D - 2) (y:=putL z p r) hs (by omega) this;have e2:=zR9 (D:=D - 1) (y:=.mk k2 tx2 c2 (ks2.set s (putL z p r))) hi (by omega) (by simp only [Nd.dep]; omega)
  omega
theorem zPS {k : Int} {ks : List Nd} {i : Nat} {x y : Nd} (h : ks[i]? = some x) (hf : zBi k ks = true) (hk : y.kind = x.kind) (hy : zCm y = true) : zBi k (ks.set i y) = true:=by
 induction ks generalizing i with
 | nil=>cases h
 | cons u ks ih =>
  simp only [zBi,Bool.and_eq_true] at hf;cases i with
  | zero =>
   obtain rfl : u = x:=Option.some.inj h;simp only [List.set_cons_zero,zBi,Bool.and_eq_true,hk]
   exact ⟨⟨hf.1.1,hy⟩,hf.2⟩
  | succ i=>simp only [List.set_cons_succ,zBi,Bool.and_eq_true]; exact ⟨hf.1,ih h hf.2⟩
theorem Fd.put_form {t z : Nd} {p : List Int} (h : Fd t p z) {r : Nd} (hf : zCm t = true) (hk : t.kind = 1) (hr : zCm r = true) (hrk : r.kind = 1) : zCm (putL t p r) = true ∧ (putL t p r).kind = 1:=by
 induction h with
 | nil t=>rw [zDt]; exact ⟨hr,hrk⟩
 | @step k tx c ks i k2 tx2 c2 ks2 s z r' p hi hs hz ih =>
  obtain ⟨f1,f2⟩:=zC6 (zFI hf) (List.mem_of_getElem? hi)
  obtain ⟨g1,g2⟩:=zC6 (zFI f1) (List.mem_of_getElem? hs)
  have hk : k = 1:=hk;subst hk;have f3 : (k2 == 1) = false :=(by simpa [Nd.kind] using f2);have hzk : z.kind = 1:=by
   rw [f3] at g2;cases e : z.kind == 1 with
   | true=>exact eq_of_beq e
   | false=>rw [e] at g2; cases g2
  obtain ⟨i1,i2⟩:=ih g1 hzk;rw [zCk hi hs]
  refine ⟨?_,rfl⟩
  have e1:=zPS (y:=putL z p r) hs (zFI f1) (i2.trans hzk.symm) i1;have f4 : zCm (.mk k2 tx2 c2 (ks2.set s (putL z p r))) = true:=by
   simp only [zCm,Bool.and_eq_true,List.length_set] at f1 ⊢;exact ⟨f1.1,e1⟩
  have e2:=zPS (y:=.mk k2 tx2 c2 (ks2.set s (putL z p r))) hi (zFI hf) rfl f4;simp only [zCm,Bool.and_eq_true,List.length_set] at hf ⊢;exact ⟨hf.1,e2⟩
theorem zMy {t : Nd} (h : zAL t = true) : t.kind = 1 ∧ zCm t = true ∧ t.cnt ≤ 1000 ∧ t.dep ≤ 24:=by
 unfold zAL at h;simp only [Bool.and_eq_true,decide_eq_true_eq] at h;exact ⟨eq_of_beq h.1,h.2⟩
theorem zO3 {t : Nd} (h1 : t.kind = 1) (h2 : zCm t = true) (h3 : t.cnt ≤ 1000) (h4 : t.dep ≤ 24) : zAL t = true:=by
 unfold zAL;simp only [Bool.and_eq_true,decide_eq_true_eq]
 exact ⟨by rw [h1]; rfl,h2,h3,h4⟩
end Go.Proofs.YtjdhkpdjecegnaaGreatDoor
namespace Go.Proofs.YtjdhkpdjecegnaaGreatDoor
open Go.Abs
def zB0 : Nat → Nat → Nat → List Nd → List Nd → List (Nat × Nat)
 | k + 1,i,j,x :: xs,y :: ys =>
  bif zDe x y && (DL (x :: xs) (y :: ys) == DL xs ys + D x y) then (i,j) :: zB0 k (i + 1) (j + 1) xs ys
  else bif (DL (x :: xs) (y :: ys) == DL xs (y :: ys) + x.cnt) && (!(DL (x :: xs) (y :: ys) == DL (x :: xs) ys + y.cnt) || Op.bytesLess (zEh x) (zEh y)) then zB0 k (i + 1) j xs (y :: ys)
  else zB0 k i (j + 1) (x :: xs) ys
 | _,_,_,_,_=>[]
theorem zHF (a b : Nat) : ((a : Int) == (b : Int)) = (a == b):=by
 by_cases h : a = b
 ·subst h; simp
 ·rw [beq_eq_false_iff_ne.2 h,beq_eq_false_iff_ne.2 (by omega)]
theorem zUE (P : Nd → Nd → Nat) (b : List Nd) : ∀ (a : List Nd) (i : Nat),i ≤ a.length → at? (tabD P a b) (i : Int) = some (sufs (TD P (a.drop i)) b)
 | [],0,_=>rfl
 | [],i + 1,h=>by simp at h
 | x :: xs,0,_=>rfl
 | x :: xs,i + 1,h=>by
  have:=zUE P b xs i (by simpa using h)
  unfold at? at this ⊢;rw [if_pos (by omega)] at this ⊢;simp only [Int.toNat_natCast] at this ⊢
  simpa [tabD] using this
theorem zMu (f : List Nd → Nat) : ∀ (b : List Nd) (j : Nat),j ≤ b.length → at? (sufs f b) (j : Int) = some (f (b.drop j) : Int)
 | [],0,_=>rfl
 | [],j + 1,h=>by simp at h
 | y :: ys,0,_=>rfl
 | y :: ys,j + 1,h=>by
  have:=zMu f ys j (by simpa using h)
  unfold at? at this ⊢;rw [if_pos (by omega)] at this ⊢;simp only [Int.toNat_natCast] at this ⊢
  simpa [sufs] using this
theorem zSi {α β : Type} (f : α → β) {l : List α} {i : Nat} (h : i < l.length) : at? (l.map f) (i : Int) = some (f l[i]):=by
 rw [zBx (by simpa using h)]; simp
def zCK (p : Nat × Nat) : Int × Int:=((p.1 : Int),(p.2 : Int))
theorem zHY (n : Nat) {a b : List Nd} (ha : Nd.cnts a ≤ 1000000) (hb : Nd.cnts b ≤ 1000000) (hwa : ∀ x ∈ a,2 * x.w < n ∧ x.w ≤ 16777216 ∧ x.rng) (hwb : ∀ x ∈ b,2 * x.w < n ∧ x.w ≤ 16777216 ∧ x.rng) :
  ∀ (k i j : Nat) (l : List (Int × Int)),(a.length - i) + (b.length - j) < k → i ≤ a.length → j ≤ b.length → l.length ≤ i →
   zBA n a b (tabD D a b) (a.map fun x=>b.map (prI x)) (a.map cntI) (b.map cntI) k (i : Int) (j : Int) l = some (l ++ (zB0 k i j (a.drop i) (b.drop j)).map zCK)
 | 0,_,_,_,h,_,_,_=>by omega
 | k + 1,i,j,l,hk,hi,hj,hl=>by
  have la:=Nd.cnts_len a;have lb:=Nd.cnts_len b;unfold zBA
  by_cases hia : i < a.length
  ·rw [zBg (Int.ofNat_lt.2 hia),cond_true]
   by_cases hjb : j < b.length
   ·rw [zBg (Int.ofNat_lt.2 hjb),Option.bind_some,cond_true]
    have hda:=List.drop_eq_getElem_cons hia;have hdb:=List.drop_eq_getElem_cons hjb;have ca:=Nd.cnts_drop hia;have cb:=Nd.cnts_drop hjb;obtain ⟨x1,x2,x3⟩:=hwa _ (List.getElem_mem hia)
    obtain ⟨y1,y2,y3⟩:=hwb _ (List.getElem_mem hjb)
    have ca' : Nd.cnts (a.drop i) ≤ Nd.cnts a:=by
     have:=Nd.cnts_append (a.take i) (a.drop i); rw [List.take_append_drop] at this; omega
    have cb' : Nd.cnts (b.drop j) ≤ Nd.cnts b:=by
     have:=Nd.cnts_append (b.take j) (b.drop j); rw [List.take_append_drop] at this; omega
    have b1:=zRf (P:=D) (a.drop i) (b.drop j)
    have b2:=zRf (P:=D) (a.drop (i + 1)) (b.drop j)
    have b3:=zRf (P:=D) (a.drop i) (b.drop (j + 1))
    have b4:=zRf (P:=D) (a.drop (i + 1)) (b.drop (j + 1))
    have b5:=D_le a[i] b[j];have t1:=zUE D b a i (by omega)
    have t2:=zUE D b a (i + 1) (by omega)
    have s1:=zMu (TD D (a.drop i)) b j (by omega)
    have s2:=zMu (TD D (a.drop (i + 1))) b j (by omega)
    have s3:=zMu (TD D (a.drop i)) b (j + 1) (by omega)
    have s4:=zMu (TD D (a.drop (i + 1))) b (j + 1) (by omega)
    have p1:=zSi (fun x=>b.map (prI x)) hia;have p2:=zSi (prI a[i]) hjb;have c1:=zSi cntI hia;have c2:=zSi cntI hjb;have d1:=zKH n a[i] x1 x2 x3;have d2:=zKH n b[j] y1 y2 y3;rw [zAX (by omega),zAX (by omega)]
    simp only [t1,t2,s1,s2,s3,s4,p1,p2,c1,c2,Option.bind_some,zBx hia,zBx hjb]
    have hx : (bif decide (0 ≤ prI a[i] b[j]) then some ((TD D (a.drop i) (b.drop j) : Int) == IntKind.i64.wrap ((TD D (a.drop (i + 1)) (b.drop (j + 1)) : Int) + prI a[i] b[j])) else some false : Option Bool) = some (zDe a[i] b[j] && (DL (a[i] :: a.drop (i + 1)) (b[j] :: b.drop (j + 1)) == DL (a.drop (i + 1)) (b.drop (j + 1)) + D a[i] b[j])):=by
     unfold prI;cases hal : zDe a[i] b[j] with
     | false=>rfl
     | true =>
      rw [cond_true,zBg (by omega),cond_true,wrap64_in (by omega) (by omega),← Int.natCast_add,zHF,← hda,← hdb]; rfl
    rw [hx,Option.bind_some,hda,hdb,zB0]
    cases zDe a[i] b[j] && (DL (a[i] :: a.drop (i + 1)) (b[j] :: b.drop (j + 1)) == DL (a.drop (i + 1)) (b.drop (j + 1)) + D a[i] b[j]) with
    | true =>
     simp only [cond_true]
     rw [zCg (by simp; omega),zHY n ha hb hwa hwb k (i + 1) (j + 1) _ (by omega) (by omega) (by omega) (by simp; omega)]
     simp [zCK]
    | false =>
     simp only [cond_false]
     rw [← hda,← hdb,cntI,wrap64_in (by omega) (by omega),← Int.natCast_add,zHF,cntI,wrap64_in (by omega) (by omega),← Int.natCast_add,zHF]
     have hz : ∀ X : Option Bool,X = some ((DL (a.drop i) (b.drop j) == DL (a.drop (i + 1)) (b.drop j) + a[i].cnt) && (!(DL (a.drop i) (b.drop j) == DL (a.drop i) (b.drop (j + 1)) + b[j].cnt) || Op.bytesLess (zEh a[i]) (zEh b[j]))) → ∀ K : Bool → Option (List (Int × Int)),X.bind K = K ((DL (a.drop i) (b.drop j) == DL (a.drop (i + 1)) (b.drop j) + a[i].cnt) && (!(DL (a.drop i) (b.drop j) == DL (a.drop i) (b.drop (j + 1)) + b[j].cnt) || Op.bytesLess (zEh a[i]) (zEh b[j]))):=fun X h K=>by rw [h]; rfl
     refine (hz _ ?_ _).trans ?_
     ·have key : ∀ (p q r : Bool),(bif p then (bif !q then some true else some r) else some false : Option Bool) = some (p && (!q || r)) :=(by intro p q r; cases p <;> cases q <;> rfl);rcases e : a[i] with ⟨e1,e2,e3,e4⟩
      rcases e' : b[j] with ⟨f1,f2,f3,f4⟩
      rw [e] at d1;rw [e'] at d2;simp only [d1,d2,Option.bind_some]
      exact key _ _ _
     cases ((DL (a.drop i) (b.drop j) == DL (a.drop (i + 1)) (b.drop j) + a[i].cnt) && (!(DL (a.drop i) (b.drop j) == DL (a.drop i) (b.drop (j + 1)) + b[j].cnt) || Op.bytesLess (zEh a[i]) (zEh b[j]))) with
     | true =>
      simp only [cond_true]
      rw [zHY n ha hb hwa hwb k (i + 1) j _ (by omega) (by omega) (by omega) (by omega)]
     | false =>
      simp only [cond_false]
      rw [zHY n ha hb hwa hwb k i (j + 1) _ (by omega) (by omega) (by omega) (by omega)]
   ·rw [zBf (by omega),Option.bind_some,cond_false]
    obtain rfl : j = b.length :=(by omega);rw [List.drop_length]
    cases a.drop i <;> simp [zB0]
  ·rw [zBf (by omega),cond_false,Option.bind_some,cond_false]
   obtain rfl : i = a.length :=(by omega);rw [List.drop_length]
   simp [zB0]
theorem zLd {t x : Nd} (hr : t.rng) (h : x ∈ t.kids) : x.rng:=by
 obtain ⟨a,b,c,ks⟩:=t;exact Nd.rng_mem hr.2.2 h
end Go.Proofs.YtjdhkpdjecegnaaGreatDoor
namespace Go.Proofs.YtjdhkpdjecegnaaGreatDoor
open Go.Abs
def Good (t : Nd) (p : List Int) (l : List Nd) : Prop:=zAL t = true ∧ Fd t p (rowN l)
theorem zWN {t z u : Nd} {p q : List Int} (h : Fd t p z) (h2 : Fd z q u) : Fd t (p ++ q) u:=by
 induction h with
 | nil t=>exact h2
 | step hi hs _ ih=>exact .step hi hs (ih h2)
theorem zWq {t z : Nd} {p : List Int} (h : Fd t p z) (q : List Int) (r : Nd) : putL t (p ++ q) r = putL t p (putL z q r):=by
 induction h with
 | nil t=>rw [List.nil_append,zDt]
 | @step k tx c ks i k2 tx2 c2 ks2 s z r' p hi hs _ ih=>rw [List.cons_append,List.cons_append,zCk hi hs,zCk hi hs,ih]
theorem zOU {l : List Nd} (h : zBi 1 l = true) (hl : l.length ≤ 200) : zCm (rowN l) = true:=by
 have : ((l.length : Nat) : Int) ≤ 200 :=(by omega);simp [rowN,zCm,zI7,zFe,h,this]
theorem zSt {l : List Nd} (h : zCm (rowN l) = true) : l.length ≤ 200:=by
 simp [rowN,zCm,zI7,zFe] at h
 omega
theorem zFj (l : List Nd) : (rowN l).cnt = Nd.cnts l + 1:=by simp [rowN,Nd.cnt]
theorem zLh (l : List Nd) : (rowN l).dep = Nd.deps l + 1:=rfl
theorem Good.row {t : Nd} {p : List Int} {l : List Nd} (h : Good t p l) : zBi 1 l = true ∧ l.length ≤ 200 ∧ Nd.deps l + 1 + p.length ≤ 24 ∧ Nd.cnts l + 1 ≤ t.cnt ∧ t.cnt ≤ 1000:=by
 obtain ⟨k,f,c,d⟩:=zMy h.1;obtain ⟨f1,f2⟩:=h.2.form f k;have d1:=h.2.deep;have s1:=h.2.small;rw [zLh] at d1;rw [zFj] at s1;exact ⟨(zGW f1 rfl).2,zSt f1,by omega,s1.1,c⟩
theorem Good.put {t : Nd} {p : List Int} {l l' : List Nd} (h : Good t p l) (hf : zBi 1 l' = true) (hl : l'.length ≤ 200) (hd : Nd.deps l' + 1 + p.length ≤ 24) (hc : t.cnt + Nd.cnts l' ≤ 1000 + Nd.cnts l) : Good (putL t p (rowN l')) p l':=by
 obtain ⟨k,f,c,d⟩:=zMy h.1;obtain ⟨g1,g2⟩:=h.2.put_form f k (zOU hf hl) rfl;have hcn:=h.2.cnt (rowN l')
 rw [zFj,zFj] at hcn;exact ⟨zO3 g2 g1 (by omega) (h.2.put_dep (rowN l') d (by rw [zLh]; omega)),h.2.put _⟩
theorem zT9 {x : Nd} {l : List Nd} (h : zBi 1 l = true) (hx : x ∈ l) (hc : Nd.cnts l ≤ 999) (hd : Nd.deps l ≤ 23) : zAL (rowN [x]) = true:=by
 obtain ⟨f1,f2⟩:=zC6 h hx;have c1:=Nd.cnts_mem hx;have d1:=zEg hx;refine zO3 rfl (zOU ?_ (by simp)) (by rw [zFj]; simp only [Nd.cnts]; omega) (by rw [zLh]; simp only [Nd.deps]; exact Nat.succ_le_succ (Nat.max_le.2 ⟨by omega,Nat.zero_le _⟩))
 show ((!((x.kind == 1) == ((1 : Int) == 1)) && zCm x) && true) = true;rw [f2,f1]
 rfl
theorem zEi {k : Int} : ∀ {a b : List Nd},zBi k (a ++ b) = true ↔ zBi k a = true ∧ zBi k b = true
 | [],b=>by simp [zBi]
 | x :: a,b=>by simp only [List.cons_append,zBi,Bool.and_eq_true,zEi (a:=a),and_assoc]
theorem zK8 : ∀ {a b : List Nd},Nd.deps (a ++ b) = Nat.max (Nd.deps a) (Nd.deps b)
 | [],b=>by simp [Nd.deps]
 | x :: a,b=>by
  simp only [List.cons_append,Nd.deps,zK8 (a:=a)]
  exact (Nat.max_assoc _ _ _).symm
def zGw (p : List Int) (i : Nat) (x : Nd) : Op8:=(2,p,(i : Int),0,[x],0,[],[])
def zFT (p : List Int) (j : Nat) (y : Nd) : Op8:=(1,p,(j : Int),0,[y],0,[],[])
def zIl (p : List Int) (j : Nat) (old text : List UInt8) : Op8:=(5,p,(j : Int),0,[],0,old,text)
theorem zRX (pre mid post b : List Nd) : splS (pre ++ mid ++ post) pre.length (pre.length + mid.length) b = pre ++ b ++ post:=by
 have h1 : (pre ++ mid ++ post).take pre.length = pre :=(by rw [List.append_assoc]; exact List.take_left' rfl);have h2 : (pre ++ mid ++ post).drop (pre.length + mid.length) = post :=(by rw [← List.length_append]; exact List.drop_left' rfl);unfold splS;rw [h1,h2]
theorem zWx (pre mid post : List Nd) : segS (pre ++ mid ++ post) pre.length (pre.length + mid.length) = mid:=by
 unfold segS;rw [← List.length_append,List.take_left' rfl,List.drop_left' rfl]
theorem Good.del {t : Nd} {p : List Int} {pre post : List Nd} {x : Nd} (h : Good t p (pre ++ x :: post)) : App t (zGw p pre.length x) (putL t p (rowN (pre ++ post))) 0 ∧ Good (putL t p (rowN (pre ++ post))) p (pre ++ post):=by
 obtain ⟨r1,r2,r3,r4,r5⟩:=h.row;have hv : zAL (rowN [x]) = true:=zT9 r1 (x:=x) (by simp) (by omega) (by omega)
 have e : pre ++ x :: post = pre ++ [x] ++ post :=(by simp);have hc : Chg (rowN (pre ++ x :: post)).kids (zGw p pre.length x) (pre ++ post) 0:=by
  have:=Chg.del (l:=pre ++ [x] ++ post) (row:=p) (p:=pre.length) (m:=0) (nodes:=[x]) (slot:=0) (old:=[]) (text:=[]) (by simp) (zWx pre [x] post)
  rw [show pre.length + [x].length = pre.length + [x].length from rfl,zRX,List.append_nil] at this;rw [e]
  exact this
 have g : Good (putL t p (rowN (pre ++ post))) p (pre ++ post):=by
  obtain ⟨f1,f2⟩:=zEi.1 r1;simp only [zBi,Bool.and_eq_true] at f2;refine h.put (zEi.2 ⟨f1,f2.2⟩) (by simp only [List.length_append,List.length_cons] at r2 ⊢; omega) ?_ ?_
  ·have : Nd.deps (pre ++ post) ≤ Nd.deps (pre ++ x :: post):=by
    rw [zK8,zK8]
    exact Nat.max_le.2 ⟨Nat.le_max_left _ _,Nat.le_trans (by simp only [Nd.deps]; exact Nat.le_max_right _ _) (Nat.le_max_right _ _)⟩
   omega
  ·simp only [Nd.cnts_append,Nd.cnts]; omega
 exact ⟨.ok h.1 (.inl ⟨.inr rfl,by simp,hv,rfl,rfl,rfl,rfl⟩) h.2 hc g.1,g⟩
theorem zG9 {t u v : Nd} {a b : List Op8} {e e' : Int} (h : Runs t a u e) (he : e = 0) (h2 : Runs u b v e') : Runs t (a ++ b) v e':=by
 induction h with
 | nil t=>exact h2
 | stop h he'=>exact absurd he he'
 | next h _ ih=>exact .next h (ih he h2)
inductive Mv where | mat | del | ins
inductive Sc : List Mv → List Nd → List Nd → Prop
 | nil : Sc [] [] []
 | mat {s : List Mv} {x y : Nd} {xs ys : List Nd} (ha : zDe x y = true) (h : Sc s xs ys) : Sc (.mat :: s) (x :: xs) (y :: ys)
 | del {s : List Mv} {x : Nd} {xs b : List Nd} (h : Sc s xs b) : Sc (.del :: s) (x :: xs) b
 | ins {s : List Mv} {y : Nd} {a ys : List Nd} (h : Sc s a ys) : Sc (.ins :: s) a (y :: ys)
def reI (v : Nd) (ks : List Nd) : Nd:=.mk v.kind v.text v.cols ks
abbrev RowR:=List Nd → List Nd → List Nd
abbrev RowO:=List Int → List Nd → List Nd → List Op8
def slotL (F : RowR) : List Nd → List Nd → List Nd
 | u :: us,v :: vs=>rowN (F u.kids v.kids) :: slotL F us vs
 | _,_=>[]
def delW (F : RowR) : List Mv → List Nd → List Nd → List Nd
 | .mat :: s,x :: xs,y :: ys=>reI x (slotL F x.kids y.kids) :: delW F s xs ys
 | .del :: s,_ :: xs,b=>delW F s xs b
 | .ins :: s,a,_ :: ys=>delW F s a ys
 | _,_,_=>[]
def zCs (G : RowO) (p : List Int) (i : Nat) : Nat → List Nd → List Nd → List Op8
 | s,u :: us,v :: vs=>zCs G p i (s + 1) us vs ++ G (p ++ [(i : Int),(s : Int)]) u.kids v.kids
 | _,_,_=>[]
def zDW (G : RowO) (p : List Int) : Nat → List Mv → List Nd → List Nd → List Op8
 | i,.mat :: s,x :: xs,y :: ys=>zDW G p (i + 1) s xs ys ++ zCs G p i 0 x.kids y.kids
 | i,.del :: s,x :: xs,b=>zDW G p (i + 1) s xs b ++ [zGw p i x]
 | i,.ins :: s,a,_ :: ys=>zDW G p i s a ys
 | _,_,_,_=>[]
def Does (G : RowO) (F : RowR) (a b : List Nd) : Prop:=∀ t q,Good t q a → Runs t (G q a b) (putL t q (rowN (F a b))) 0 ∧ Good (putL t q (rowN (F a b))) q (F a b)
theorem Good.slot {t : Nd} {p : List Int} {pre post pk us : List Nd} {v u : Nd} (h : Good t p (pre ++ reI v (pk ++ u :: us) :: post)) : u = rowN u.kids ∧ Good t (p ++ [(pre.length : Int),(pk.length : Int)]) u.kids ∧
  ∀ r,putL t (p ++ [(pre.length : Int),(pk.length : Int)]) r = putL t p (rowN (pre ++ reI v (pk ++ r :: us) :: post)):=by
 obtain ⟨r1,_⟩:=h.row;obtain ⟨_,f2⟩:=zEi.1 r1;have hit : (pre ++ reI v (pk ++ u :: us) :: post)[pre.length]? = some (.mk v.kind v.text v.cols (pk ++ u :: us)) :=(by simp [reI]);have hsl : (pk ++ u :: us)[pk.length]? = some u :=(by simp);obtain ⟨_,hu⟩:=zLk r1 (List.mem_of_getElem? hit) (s:=pk.length) (z:=u) hsl;have fd : Fd (rowN (pre ++ reI v (pk ++ u :: us) :: post)) [(pre.length : Int),(pk.length : Int)] u:=.step hit hsl (.nil u)
 refine ⟨hu,⟨h.1,?_⟩,fun r=>?_⟩
 ·rw [← hu]
  exact zWN h.2 fd
 ·rw [zWq h.2]
  congr 1
  have:=zCk (k:=1) (tx:=[]) (c:=0) (r:=r) (p:=[]) hit hsl;rw [zDt] at this;refine this.trans ?_;unfold rowN
  congr 1
  rw [List.set_append_right _ _ (Nat.le_refl _),Nat.sub_self,List.set_cons_zero,List.set_append_right _ _ (Nat.le_refl _),Nat.sub_self,List.set_cons_zero]
  rfl
theorem zNS {G : RowO} {F : RowR} {p : List Int} {pre post : List Nd} {x : Nd} : ∀ (us vs pk : List Nd) (t : Nd),us.length = vs.length → (∀ u ∈ us,∀ v ∈ vs,Does G F u.kids v.kids) → Good t p (pre ++ reI x (pk ++ us) :: post) →
  Runs t (zCs G p pre.length pk.length us vs) (putL t p (rowN (pre ++ reI x (pk ++ slotL F us vs) :: post))) 0 ∧ Good (putL t p (rowN (pre ++ reI x (pk ++ slotL F us vs) :: post))) p (pre ++ reI x (pk ++ slotL F us vs) :: post)
 | [],[],pk,t,_,_,h=>by
  simp only [zCs,slotL]
  rw [h.2.put_self]
  exact ⟨.nil _,h⟩
 | [],_ :: _,_,_,hl,_,_=>by cases hl
 | _ :: _,[],_,_,hl,_,_=>by cases hl
 | u :: us,v :: vs,pk,t,hl,hD,h=>by
  have e : pk ++ u :: us = (pk ++ [u]) ++ us :=(by simp);rw [e] at h;obtain ⟨h1,h2⟩:=zNS us vs (pk ++ [u]) t (by simpa using hl) (fun u hu v hv=>hD u (List.mem_cons_of_mem _ hu) v (List.mem_cons_of_mem _ hv)) h;have e2 : (pk ++ [u]) ++ slotL F us vs = pk ++ u :: slotL F us vs :=(by simp);rw [e2] at h1 h2;obtain ⟨_,g2,g3⟩:=h2.slot;obtain ⟨k1,k2⟩:=hD u List.mem_cons_self v List.mem_cons_self _ _ g2;rw [g3,h.2.put_put] at k1 k2;simp only [zCs,slotL]
  rw [List.length_append,List.length_singleton] at h1;refine ⟨zG9 h1 rfl k1,⟨k2.1,h.2.put _⟩⟩
theorem zOT (x : Nd) : reI x x.kids = x:=by cases x; rfl
theorem del_walk {G : RowO} {F : RowR} {p : List Int} {s : List Mv} {a b : List Nd} (hs : Sc s a b) : (∀ x ∈ a,∀ y ∈ b,∀ u ∈ x.kids,∀ v ∈ y.kids,Does G F u.kids v.kids) → ∀ (pre : List Nd) (t : Nd),Good t p (pre ++ a) →
  Runs t (zDW G p pre.length s a b) (putL t p (rowN (pre ++ delW F s a b))) 0 ∧ Good (putL t p (rowN (pre ++ delW F s a b))) p (pre ++ delW F s a b):=by
 induction hs with
 | nil =>
  intro _ pre t h;simp only [zDW,delW]
  rw [h.2.put_self]
  exact ⟨.nil _,h⟩
 | @mat s x y xs ys ha _ ih =>
  intro hD pre t h;have e : pre ++ x :: xs = (pre ++ [x]) ++ xs :=(by simp);have h':=h;rw [e] at h';obtain ⟨h1,h2⟩:=ih (fun x hx y hy=>hD x (List.mem_cons_of_mem _ hx) y (List.mem_cons_of_mem _ hy)) (pre ++ [x]) t h';have e2 : (pre ++ [x]) ++ delW F s xs ys = pre ++ x :: delW F s xs ys :=(by simp);rw [e2] at h1 h2;rw [List.length_append,List.length_singleton] at h1;have h3 : Good (putL t p (rowN (pre ++ x :: delW F s xs ys))) p (pre ++ reI x ([] ++ x.kids) :: delW F s xs ys):=by
   rw [List.nil_append,zOT]; exact h2
  obtain ⟨k1,k2⟩:=zNS (G:=G) (F:=F) (p:=p) (pre:=pre) (post:=delW F s xs ys) (x:=x) x.kids y.kids [] _ (zPu.1 ha).2.1 (hD x List.mem_cons_self y List.mem_cons_self) h3;rw [List.nil_append,List.length_nil] at k1;rw [List.nil_append] at k2;rw [h.2.put_put] at k1 k2;simp only [zDW,delW]
  exact ⟨zG9 h1 rfl k1,k2⟩
 | @del s x xs b _ ih =>
  intro hD pre t h;have e : pre ++ x :: xs = (pre ++ [x]) ++ xs :=(by simp);have h':=h;rw [e] at h';obtain ⟨h1,h2⟩:=ih (fun x hx y hy=>hD x (List.mem_cons_of_mem _ hx) y hy) (pre ++ [x]) t h';have e2 : (pre ++ [x]) ++ delW F s xs b = pre ++ x :: delW F s xs b :=(by simp);rw [e2] at h1 h2;rw [List.length_append,List.length_singleton] at h1;obtain ⟨k1,k2⟩:=h2.del;rw [h.2.put_put] at k1 k2;simp only [zDW,delW]
  exact ⟨zG9 h1 rfl (.next k1 (.nil _)),k2⟩
 | @ins s y a ys _ ih =>
  intro hD pre t h;simp only [zDW,delW]
  exact ih (fun x hx y hy=>hD x hx y (List.mem_cons_of_mem _ hy)) pre t h
end Go.Proofs.YtjdhkpdjecegnaaGreatDoor
namespace Go.Proofs.YtjdhkpdjecegnaaGreatDoor
open Go.Abs
def setO (p : List Int) (j : Nat) (x y : Nd) : List Op8:=if x.text = y.text then [] else [zIl p j x.text y.text]
def zCr (G : RowO) (p : List Int) (j : Nat) : Nat → List Nd → List Nd → List Op8
 | s,u :: us,v :: vs=>G (p ++ [(j : Int),(s : Int)]) u.kids v.kids ++ zCr G p j (s + 1) us vs
 | _,_,_=>[]
def zDO (G : RowO) (p : List Int) : Nat → List Mv → List Nd → List Nd → List Op8
 | j,.mat :: s,x :: xs,y :: ys=>setO p j x y ++ (zCr G p j 0 x.kids y.kids ++ zDO G p (j + 1) s xs ys)
 | j,.del :: s,_ :: xs,b=>zDO G p j s xs b
 | j,.ins :: s,a,y :: ys=>zFT p j y :: zDO G p (j + 1) s a ys
 | _,_,_,_=>[]
def zW7 (t : Nd) (q : List Int) (b : List Nd) : Prop:=t.cnt + Nd.cnts b ≤ 1000 ∧ zBi 1 b = true ∧ b.length ≤ 200 ∧ Nd.deps b + 1 + q.length ≤ 24
def zVZ (G : RowO) (F : RowR) (a b : List Nd) : Prop:=∀ t q,Good t q (F a b) → zW7 t q b → Runs t (G q a b) (putL t q (rowN b)) 0 ∧ Good (putL t q (rowN b)) q b
theorem zUF {k : Int} {t1 t2 : List UInt8} (h1 : zI7 k t1 = true) (h2 : zI7 k t2 = true) (hne : t1 ≠ t2) : zRv k = true:=by
 unfold zI7 at h1 h2;unfold zRv
 by_cases e2 : k = 2
 ·subst e2; rfl
 ·by_cases e3 : k = 3
  ·subst e3; rfl
  ·by_cases e4 : k = 4
   ·subst e4; rfl
   ·by_cases e10 : k = 10
    ·subst e10; rfl
    ·by_cases e11 : k = 11
     ·subst e11; rfl
     ·rw [if_neg e2,if_neg e3,if_neg e4,if_neg e10,if_neg e11] at h1 h2;exact absurd ((eq_of_beq h1).trans (eq_of_beq h2).symm) hne
theorem zNr {v : Nd} (h : zCm v = true) : zI7 v.kind v.text = true ∧ zFe v.kind v.cols (v.kids.length : Int) = true ∧ zBi v.kind v.kids = true:=by
 cases v;simp only [zCm,Bool.and_eq_true] at h;exact ⟨h.1.1,h.1.2,h.2⟩
theorem zWd {k : Int} {t : List UInt8} {c : Int} {ks : List Nd} (h1 : zI7 k t = true) (h2 : zFe k c (ks.length : Int) = true) (h3 : zBi k ks = true) : zCm (.mk k t c ks) = true:=by
 simp only [zCm,Bool.and_eq_true]
 exact ⟨⟨h1,h2⟩,h3⟩
theorem Good.cnt_put {t : Nd} {p : List Int} {l : List Nd} (h : Good t p l) (l' : List Nd) : (putL t p (rowN l')).cnt + Nd.cnts l = t.cnt + Nd.cnts l':=by
 have:=h.2.cnt (rowN l')
 rw [zFj,zFj] at this
 omega
theorem zD6 {x : Nd} {l : List Nd} {D : Nat} : Nd.deps (x :: l) ≤ D ↔ x.dep ≤ D ∧ Nd.deps l ≤ D:=by
 simp only [Nd.deps]
 exact Nat.max_le
theorem zGT {a b : List Nd} {D : Nat} : Nd.deps (a ++ b) ≤ D ↔ Nd.deps a ≤ D ∧ Nd.deps b ≤ D:=by
 rw [zK8]
 exact Nat.max_le
theorem Good.repl {t : Nd} {p : List Int} {pre post : List Nd} {x x' : Nd} (h : Good t p (pre ++ x :: post)) (hf : zCm x' = true) (hk : x'.kind = x.kind) (hd : x'.dep + 1 + p.length ≤ 24) (hc : t.cnt + x'.cnt ≤ 1000 + x.cnt) : Good (putL t p (rowN (pre ++ x' :: post))) p (pre ++ x' :: post):=by
 obtain ⟨r1,r2,r3,r4,r5⟩:=h.row;obtain ⟨f1,f2⟩:=zEi.1 r1;refine h.put ?_ (by simpa using r2) ?_ ?_
 ·refine zEi.2 ⟨f1,?_⟩
  simp only [zBi,Bool.and_eq_true] at f2 ⊢;rw [hk]
  exact ⟨⟨f2.1.1,hf⟩,f2.2⟩
 ·have h1 : Nd.deps (pre ++ x :: post) ≤ 23 - p.length :=(by omega);obtain ⟨d1,d2⟩:=zGT.1 h1;obtain ⟨d3,d4⟩:=zD6.1 d2;have : Nd.deps (pre ++ x' :: post) ≤ 23 - p.length:=zGT.2 ⟨d1,zD6.2 ⟨by omega,d4⟩⟩
  omega
 ·simp only [Nd.cnts_append,Nd.cnts]; omega
theorem Good.setT {t : Nd} {p : List Int} {pre post : List Nd} {x : Nd} {text : List UInt8} (h : Good t p (pre ++ x :: post)) (ht : zI7 x.kind text = true) (hne : x.text ≠ text) :
  App t (zIl p pre.length x.text text) (putL t p (rowN (pre ++ .mk x.kind text x.cols x.kids :: post))) 0 ∧ Good (putL t p (rowN (pre ++ .mk x.kind text x.cols x.kids :: post))) p (pre ++ .mk x.kind text x.cols x.kids :: post):=by
 obtain ⟨r1,r2,r3,r4,r5⟩:=h.row;obtain ⟨f1,f2⟩:=zEi.1 r1;simp only [zBi,Bool.and_eq_true] at f2;obtain ⟨p1,p2,p3⟩:=zNr f2.1.2;have e1 : (Nd.mk x.kind text x.cols x.kids).dep = x.dep :=(by cases x; rfl);have e2 : (Nd.mk x.kind text x.cols x.kids).cnt = x.cnt :=(by cases x; rfl);have hd : x.dep ≤ Nd.deps (pre ++ x :: post):=zEg (by simp)
 have g : Good (putL t p (rowN (pre ++ .mk x.kind text x.cols x.kids :: post))) p (pre ++ .mk x.kind text x.cols x.kids :: post) :=
  h.repl (zWd ht p2 p3) rfl (by rw [e1]; omega) (by rw [e2]; omega)
 have hc : Chg (rowN (pre ++ x :: post)).kids (zIl p pre.length x.text text) (pre ++ .mk x.kind text x.cols x.kids :: post) 0:=by
  have:=Chg.set (l:=pre ++ [x] ++ post) (row:=p) (p:=pre.length) (m:=0) (nodes:=[]) (it:=x) (slot:=0) (old:=x.text) (text:=text) (by simp) (zUF p1 ht hne) rfl;have e:=zRX pre [x] post [.mk x.kind text x.cols x.kids]
  rw [List.length_singleton] at e;rw [e] at this;have e3 : pre ++ [x] ++ post = pre ++ x :: post :=(by simp);have e4 : pre ++ [Nd.mk x.kind text x.cols x.kids] ++ post = pre ++ .mk x.kind text x.cols x.kids :: post :=(by simp);rw [e3,e4] at this;exact this
 exact ⟨.ok h.1 (.inr (.inr ⟨rfl,hne,rfl,rfl,rfl⟩)) h.2 hc g.1,g⟩
theorem Good.insI {t : Nd} {p : List Int} {pre post : List Nd} {y : Nd} (h : Good t p (pre ++ post)) (hf : zCm y = true) (hk : ((y.kind == 1) == ((1 : Int) == 1)) = false) (hl : pre.length + post.length + 1 ≤ 200) (hd : y.dep + 1 + p.length ≤ 24) (hc : t.cnt + y.cnt ≤ 1000) :
  App t (zFT p pre.length y) (putL t p (rowN (pre ++ y :: post))) 0 ∧ Good (putL t p (rowN (pre ++ y :: post))) p (pre ++ y :: post):=by
 obtain ⟨r1,r2,r3,r4,r5⟩:=h.row;obtain ⟨f1,f2⟩:=zEi.1 r1;have hy : zBi 1 [y] = true:=by
  show ((!((y.kind == 1) == ((1 : Int) == 1)) && zCm y) && true) = true;rw [hk,hf]; rfl
 have hv : zAL (rowN [y]) = true:=by
  have:=t.cnt_pos;refine zO3 rfl (zOU hy (by simp)) (by rw [zFj]; simp only [Nd.cnts]; omega) (by rw [zLh]; simp only [Nd.deps]; exact Nat.succ_le_succ (Nat.max_le.2 ⟨by omega,Nat.zero_le _⟩))
 have g : Good (putL t p (rowN (pre ++ y :: post))) p (pre ++ y :: post):=by
  refine h.put ?_ (by simp only [List.length_append,List.length_cons]; omega) ?_ ?_
  ·refine zEi.2 ⟨f1,?_⟩
   simp only [zBi,Bool.and_eq_true]
   exact ⟨⟨by rw [hk]; rfl,hf⟩,f2⟩
  ·have h1 : Nd.deps (pre ++ post) ≤ 23 - p.length :=(by omega);obtain ⟨d1,d2⟩:=zGT.1 h1;have : Nd.deps (pre ++ y :: post) ≤ 23 - p.length:=zGT.2 ⟨d1,zD6.2 ⟨by omega,d2⟩⟩
   omega
  ·simp only [Nd.cnts_append,Nd.cnts]; omega
 have hc' : Chg (rowN (pre ++ post)).kids (zFT p pre.length y) (pre ++ y :: post) 0:=by
  have:=Chg.ins (l:=pre ++ [] ++ post) (row:=p) (p:=pre.length) (m:=0) (nodes:=[y]) (slot:=0) (old:=[]) (text:=[]) (by simp)
  have e:=zRX pre [] post [y]
  rw [List.length_nil,Nat.add_zero] at e;rw [e] at this;have e3 : pre ++ [] ++ post = pre ++ post :=(by simp);have e4 : pre ++ [y] ++ post = pre ++ y :: post :=(by simp);rw [e3,e4] at this;exact this
 exact ⟨.ok h.1 (.inl ⟨.inl rfl,by simp,hv,rfl,rfl,rfl,rfl⟩) h.2 hc' g.1,g⟩
theorem zMq {G : RowO} {F : RowR} {p : List Int} {pre post : List Nd} {y : Nd} : ∀ (us vs pk : List Nd) (t : Nd),us.length = vs.length → (∀ u ∈ us,∀ v ∈ vs,zVZ G F u.kids v.kids) → (∀ v ∈ vs,zCm v = true ∧ v = rowN v.kids) → t.cnt + Nd.cnts vs ≤ 1000 → Nd.deps vs + 2 + p.length ≤ 24 →
  Good t p (pre ++ reI y (pk ++ slotL F us vs) :: post) →
  Runs t (zCr G p pre.length pk.length us vs) (putL t p (rowN (pre ++ reI y (pk ++ vs) :: post))) 0 ∧ Good (putL t p (rowN (pre ++ reI y (pk ++ vs) :: post))) p (pre ++ reI y (pk ++ vs) :: post)
 | [],[],pk,t,_,_,_,_,_,h=>by
  simp only [zCr,slotL] at h ⊢;rw [h.2.put_self]
  exact ⟨.nil _,h⟩
 | [],_ :: _,_,_,hl,_,_,_,_,_=>by cases hl
 | _ :: _,[],_,_,hl,_,_,_,_,_=>by cases hl
 | u :: us,v :: vs,pk,t,hl,hD,hv,hc,hd,h=>by
  simp only [slotL] at h;obtain ⟨g1,g2,g3⟩:=h.slot;have g1' : (rowN (F u.kids v.kids)).kids = F u.kids v.kids:=rfl;rw [g1'] at g2;obtain ⟨v1,v2⟩:=hv v List.mem_cons_self;have hvf : zCm (rowN v.kids) = true :=(by rw [← v2]; exact v1);have cv:=v.cnt_kids;have dv : v.dep = Nd.deps v.kids + 1 :=(by cases v; rfl);simp only [Nd.cnts] at hc;have hdd : Nd.deps (v :: vs) ≤ 22 - p.length :=(by omega);obtain ⟨hd1,hd2⟩:=zD6.1 hdd;obtain ⟨k1,k2⟩:=hD u List.mem_cons_self v List.mem_cons_self _ _ g2 ⟨by omega,(zGW hvf rfl).2,zSt hvf,by simp only [List.length_append,List.length_cons,List.length_nil]; omega⟩
  have hcn:=g2.cnt_put v.kids;rw [g3,← v2] at k1;rw [g3,← v2] at k2;rw [g3,← v2] at hcn;have g4 : Good (putL t p (rowN (pre ++ reI y (pk ++ v :: slotL F us vs) :: post))) p (pre ++ reI y ((pk ++ [v]) ++ slotL F us vs) :: post):=by
   refine ⟨k2.1,?_⟩
   have e : (pk ++ [v]) ++ slotL F us vs = pk ++ v :: slotL F us vs :=(by simp);rw [e]
   exact h.2.put _
  obtain ⟨m1,m2⟩:=zMq us vs (pk ++ [v]) _ (by simpa using hl) (fun u hu v hv=>hD u (List.mem_cons_of_mem _ hu) v (List.mem_cons_of_mem _ hv)) (fun v h=>hv v (List.mem_cons_of_mem _ h)) (by omega) (by omega) g4;have e2 : (pk ++ [v]) ++ vs = pk ++ v :: vs :=(by simp);rw [e2,h.2.put_put,List.length_append,List.length_singleton] at m1;rw [e2,h.2.put_put] at m2;simp only [zCr]
  exact ⟨zG9 k1 rfl m1,m2⟩
theorem zU0 (F : RowR) {s : List Mv} {a b : List Nd} (h : Sc s a b) : (delW F s a b).length ≤ b.length:=by
 induction h with
 | nil=>exact Nat.zero_le _
 | mat ha h ih=>simp only [delW,List.length_cons]; omega
 | del h ih=>simp only [delW]; exact ih
 | ins h ih=>simp only [delW,List.length_cons]; omega
theorem zUV {G : RowO} {F : RowR} {p : List Int} {s : List Mv} {a b : List Nd} (hs : Sc s a b) : (∀ x ∈ a,∀ y ∈ b,∀ u ∈ x.kids,∀ v ∈ y.kids,zVZ G F u.kids v.kids) → zBi 1 b = true → Nd.deps b + 1 + p.length ≤ 24 → ∀ (pre : List Nd) (t : Nd),Good t p (pre ++ delW F s a b) → t.cnt + Nd.cnts b ≤ 1000 → pre.length + b.length ≤ 200 →
  Runs t (zDO G p pre.length s a b) (putL t p (rowN (pre ++ b))) 0 ∧ Good (putL t p (rowN (pre ++ b))) p (pre ++ b):=by
 induction hs with
 | nil =>
  intro _ _ _ pre t h _ _;simp only [zDO,delW] at h ⊢;rw [h.2.put_self]
  exact ⟨.nil _,h⟩
 | @mat s x y xs ys ha hsc ih =>
  intro hD hf hd pre t h hc hlen;obtain ⟨a1,a2,a3⟩:=zPu.1 ha;simp only [delW] at h;simp only [zBi,Bool.and_eq_true,Bool.not_eq_true'] at hf;obtain ⟨⟨hfk,hfy⟩,hfs⟩:=hf;obtain ⟨y1,y2,y3⟩:=zNr hfy;have cy:=y.cnt_kids;have dy : y.dep = Nd.deps y.kids + 1 :=(by cases y; rfl);simp only [Nd.cnts] at hc;have hdd : Nd.deps (y :: ys) ≤ 23 - p.length :=(by omega);obtain ⟨hd1,hd2⟩:=zD6.1 hdd;have hky : y.kind ≠ 1:=fun e=>by rw [e] at hfk; cases hfk
  have key : Runs t (setO p pre.length x y) (putL t p (rowN (pre ++ reI y (slotL F x.kids y.kids) :: delW F s xs ys))) 0 ∧ Good (putL t p (rowN (pre ++ reI y (slotL F x.kids y.kids) :: delW F s xs ys))) p (pre ++ reI y (slotL F x.kids y.kids) :: delW F s xs ys):=by
   have e : ∀ tx,Nd.mk x.kind tx x.cols (slotL F x.kids y.kids) = Nd.mk y.kind tx y.cols (slotL F x.kids y.kids):=fun tx=>by rw [a1,a3]
   unfold setO
   by_cases ht : x.text = y.text
   ·rw [if_pos ht]
    have : reI y (slotL F x.kids y.kids) = reI x (slotL F x.kids y.kids) :=(by unfold reI; rw [e,ht]);rw [this,h.2.put_self]
    exact ⟨.nil _,h⟩
   ·rw [if_neg ht]
    obtain ⟨k1,k2⟩:=h.setT (text:=y.text) (show zI7 x.kind y.text = true by rw [a1]; exact y1) ht;have : (Nd.mk (reI x (slotL F x.kids y.kids)).kind y.text (reI x (slotL F x.kids y.kids)).cols (reI x (slotL F x.kids y.kids)).kids) = reI y (slotL F x.kids y.kids):=e y.text;rw [this] at k1 k2;exact ⟨.next k1 (.nil _),k2⟩
  obtain ⟨k1,k2⟩:=key;have hcn:=h.cnt_put (pre ++ reI y (slotL F x.kids y.kids) :: delW F s xs ys)
  have e1 : (reI y (slotL F x.kids y.kids)).cnt = (reI x (slotL F x.kids y.kids)).cnt:=rfl;simp only [Nd.cnts_append,Nd.cnts,e1] at hcn;have k2' : Good (putL t p (rowN (pre ++ reI y (slotL F x.kids y.kids) :: delW F s xs ys))) p (pre ++ reI y ([] ++ slotL F x.kids y.kids) :: delW F s xs ys):=k2;obtain ⟨m1,m2⟩:=zMq (G:=G) (F:=F) (p:=p) (pre:=pre) (post:=delW F s xs ys) (y:=y) x.kids y.kids [] _ a2 (hD x List.mem_cons_self y List.mem_cons_self) (fun v hv=>by
   obtain ⟨q1,q2⟩:=zC6 y3 hv;rw [zCi hky] at q2;have kv : v.kind = 1:=by cases e : v.kind == 1 with | true=>exact eq_of_beq e | false=>rw [e] at q2; cases q2
   exact ⟨q1,(zGW q1 kv).1⟩) (by omega) (by omega) k2'
  rw [List.nil_append,zOT,h.2.put_put,List.length_nil] at m1;rw [List.nil_append,zOT,h.2.put_put] at m2;have hcn2:=h.cnt_put (pre ++ y :: delW F s xs ys)
  simp only [Nd.cnts_append,Nd.cnts] at hcn2;have e2 : pre ++ y :: delW F s xs ys = (pre ++ [y]) ++ delW F s xs ys :=(by simp);have m2':=m2;rw [e2] at m2';simp only [List.length_cons] at hlen;obtain ⟨n1,n2⟩:=ih (fun x hx y hy=>hD x (List.mem_cons_of_mem _ hx) y (List.mem_cons_of_mem _ hy)) hfs (by omega) (pre ++ [y]) _ m2' (by rw [← e2]; omega) (by simp only [List.length_append,List.length_cons,List.length_nil]; omega)
  have e3 : (pre ++ [y]) ++ ys = pre ++ y :: ys :=(by simp);rw [← e2,e3,h.2.put_put,List.length_append,List.length_singleton] at n1;rw [← e2,e3,h.2.put_put] at n2;simp only [zDO]
  exact ⟨zG9 k1 rfl (zG9 m1 rfl n1),n2⟩
 | @del s x xs b _ ih =>
  intro hD hf hd pre t h hc hlen;simp only [zDO,delW] at h ⊢;exact ih (fun x hx y hy=>hD x (List.mem_cons_of_mem _ hx) y hy) hf hd pre t h hc hlen
 | @ins s y a ys hsc ih =>
  intro hD hf hd pre t h hc hlen;simp only [delW] at h;simp only [zBi,Bool.and_eq_true,Bool.not_eq_true'] at hf;obtain ⟨⟨hfk,hfy⟩,hfs⟩:=hf;simp only [Nd.cnts] at hc;have hdd : Nd.deps (y :: ys) ≤ 23 - p.length :=(by omega);obtain ⟨hd1,hd2⟩:=zD6.1 hdd;have hy1 : 1 ≤ y.dep:=y.dep_pos;have hl:=zU0 F hsc;simp only [List.length_cons] at hlen;obtain ⟨k1,k2⟩:=h.insI hfy hfk (by omega) (by omega) (by omega)
  have hcn:=h.cnt_put (pre ++ y :: delW F s a ys)
  simp only [Nd.cnts_append,Nd.cnts] at hcn;have e2 : pre ++ y :: delW F s a ys = (pre ++ [y]) ++ delW F s a ys :=(by simp);have k2':=k2;rw [e2] at k2';obtain ⟨n1,n2⟩:=ih (fun x hx y hy=>hD x hx y (List.mem_cons_of_mem _ hy)) hfs (by omega) (pre ++ [y]) _ k2' (by rw [← e2]; omega) (by simp only [List.length_append,List.length_cons,List.length_nil]; omega)
  have e3 : (pre ++ [y]) ++ ys = pre ++ y :: ys :=(by simp);rw [← e2,e3,h.2.put_put,List.length_append,List.length_singleton] at n1;rw [← e2,e3,h.2.put_put] at n2;simp only [zDO]
  exact ⟨.next k1 n1,n2⟩
end Go.Proofs.YtjdhkpdjecegnaaGreatDoor
namespace Go.Proofs.YtjdhkpdjecegnaaGreatDoor
open Go.Abs
def scr : Nat → List Nd → List Nd → List Mv
 | 0,_,_=>[]
 | k + 1,[],b=>b.map fun _=>.ins
 | k + 1,x :: xs,[]=>(x :: xs).map fun _=>.del
 | k + 1,x :: xs,y :: ys =>
  bif zDe x y && (DL (x :: xs) (y :: ys) == DL xs ys + D x y) then .mat :: scr k xs ys
  else bif (DL (x :: xs) (y :: ys) == DL xs (y :: ys) + x.cnt) && (!(DL (x :: xs) (y :: ys) == DL (x :: xs) ys + y.cnt) || Op.bytesLess (zEh x) (zEh y)) then .del :: scr k xs (y :: ys)
  else .ins :: scr k (x :: xs) ys
theorem zVS : ∀ b : List Nd,Sc (b.map fun _=>.ins) [] b
 | []=>.nil
 | _ :: ys=>.ins (zVS ys)
theorem zVR : ∀ a : List Nd,Sc (a.map fun _=>.del) a []
 | []=>.nil
 | _ :: xs=>.del (zVR xs)
theorem zSw : ∀ (k : Nat) (a b : List Nd),a.length + b.length < k → Sc (scr k a b) a b
 | 0,_,_,h=>by omega
 | k + 1,[],b,_=>by unfold scr; exact zVS b
 | k + 1,x :: xs,[],_=>by unfold scr; exact zVR (x :: xs)
 | k + 1,x :: xs,y :: ys,h=>by
  simp only [List.length_cons] at h;unfold scr;cases h1 : (zDe x y && (DL (x :: xs) (y :: ys) == DL xs ys + D x y)) with
  | true =>
   rw [cond_true]
   simp only [Bool.and_eq_true] at h1;exact .mat h1.1 (zSw k xs ys (by omega))
  | false =>
   rw [cond_false]
   generalize ((DL (x :: xs) (y :: ys) == DL xs (y :: ys) + x.cnt) && (!(DL (x :: xs) (y :: ys) == DL (x :: xs) ys + y.cnt) || Op.bytesLess (zEh x) (zEh y))) = c;cases c with
   | true=>exact .del (zSw k xs (y :: ys) (by simp only [List.length_cons]; omega))
   | false=>exact .ins (zSw k (x :: xs) ys (by simp only [List.length_cons]; omega))
def sK (a b : List Nd) : List Mv:=scr (a.length + b.length + 1) a b
theorem zI3 (a b : List Nd) : Sc (sK a b) a b:=zSw _ _ _ (Nat.lt_succ_self _)
def delL : Nat → RowR
 | 0,_,_=>[]
 | N + 1,a,b=>delW (delL N) (sK a b) a b
def zCN : Nat → RowO
 | 0,_,_,_=>[]
 | N + 1,p,a,b=>zDW (zCN N) p 0 (sK a b) a b
def zC4 : Nat → RowO
 | 0,_,_,_=>[]
 | N + 1,p,a,b=>zDO (zC4 N) p 0 (sK a b) a b
theorem zJ7 {a : List Nd} {x u : Nd} (hx : x ∈ a) (hu : u ∈ x.kids) : Nd.cnts u.kids + 2 ≤ Nd.cnts a:=by
 have h1:=Nd.cnts_mem hx;have h2:=Nd.cnts_mem hu;have e1:=x.cnt_kids;have e2:=u.cnt_kids
 omega
theorem zR7 : ∀ (N : Nat) (a b : List Nd),Nd.cnts a < N → Does (zCN N) (delL N) a b
 | 0,_,_,h=>by omega
 | N + 1,a,b,h=>fun t q hg=>by
  unfold zCN delL;exact del_walk (zI3 a b) (fun x hx y hy u hu v hv=>zR7 N u.kids v.kids (by have:=zJ7 hx hu; omega)) [] t hg
theorem zR5 : ∀ (N : Nat) (a b : List Nd),Nd.cnts a < N → zVZ (zC4 N) (delL N) a b
 | 0,_,_,h=>by omega
 | N + 1,a,b,h=>fun t q hg hf=>by
  unfold delL at hg;unfold zC4;obtain ⟨f1,f2,f3,f4⟩:=hf;exact zUV (zI3 a b) (fun x hx y hy u hu v hv=>zR5 N u.kids v.kids (by have:=zJ7 hx hu; omega)) f2 f4 [] t hg f1 (by simpa using f3)
theorem zQQ (F : RowR) : ∀ (us vs : List Nd),(∀ u ∈ us,∀ v,Nd.cnts (F u.kids v) ≤ Nd.cnts u.kids) → Nd.cnts (slotL F us vs) ≤ Nd.cnts us
 | [],vs,_=>by simp only [slotL,Nd.cnts]; omega
 | _ :: _,[],_=>by simp only [slotL,Nd.cnts]; omega
 | u :: us,v :: vs,h=>by
  have h1:=h u List.mem_cons_self v.kids;have h2:=zQQ F us vs fun u hu=>h u (List.mem_cons_of_mem _ hu)
  have e:=u.cnt_kids;simp only [slotL,Nd.cnts,zFj]
  omega
theorem zUZ (F : RowR) {s : List Mv} {a b : List Nd} (hs : Sc s a b) : (∀ x ∈ a,∀ u ∈ x.kids,∀ v,Nd.cnts (F u.kids v) ≤ Nd.cnts u.kids) → Nd.cnts (delW F s a b) ≤ Nd.cnts a:=by
 induction hs with
 | nil=>intro _; exact Nat.le_refl _
 | @mat s x y xs ys ha _ ih =>
  intro h;have h1:=zQQ F x.kids y.kids (h x List.mem_cons_self)
  have h2:=ih fun x hx=>h x (List.mem_cons_of_mem _ hx)
  have e:=x.cnt_kids;have e2 : (reI x (slotL F x.kids y.kids)).cnt = Nd.cnts (slotL F x.kids y.kids) + 1:=Nd.cnt_kids _;simp only [delW,Nd.cnts]
  omega
 | @del s x xs b _ ih =>
  intro h;have h2:=ih fun x hx=>h x (List.mem_cons_of_mem _ hx)
  simp only [delW,Nd.cnts]
  omega
 | @ins s y a ys _ ih=>intro h; exact ih h
theorem zTD : ∀ (N : Nat) (a b : List Nd),Nd.cnts (delL N a b) ≤ Nd.cnts a
 | 0,a,b=>by simp only [delL,Nd.cnts]; omega
 | N + 1,a,b=>by
  unfold delL;exact zUZ _ (zI3 a b) fun x _ u _ v=>zTD N u.kids v
def opsK (a b : Nd) : List Op8:=zCN 130 [] a.kids b.kids ++ zC4 130 [] a.kids b.kids
theorem zSk {a b : Nd} (va : zAL a = true) (vb : zAL b = true) (ca : a.cnt ≤ 120) (cb : b.cnt ≤ 120) : Runs a (opsK a b) b 0:=by
 have ea:=(zFS va).1;have eb:=(zFS vb).1;have ka:=a.cnt_kids;have kb:=b.cnt_kids;have ga : Good a [] a.kids:=⟨va,by show Fd a [] (.mk 1 [] 0 a.kids); rw [← ea]; exact .nil a⟩
 obtain ⟨h1,h2⟩:=zR7 130 a.kids b.kids (by omega) a [] ga;have hcn:=ga.cnt_put (delL 130 a.kids b.kids)
 have gb : Good b [] b.kids:=⟨vb,by show Fd b [] (.mk 1 [] 0 b.kids); rw [← eb]; exact .nil b⟩
 obtain ⟨r1,r2,r3,r4,r5⟩:=gb.row;have hsm : Nd.cnts (delL 130 a.kids b.kids) + 1 ≤ 500:=by
  obtain ⟨q1,q2,q3,q4,q5⟩:=h2.row;rw [zDt] at q4 q5 hcn;rw [zFj] at q4 q5 hcn;have : Nd.cnts (delL 130 a.kids b.kids) ≤ Nd.cnts a.kids:=zTD 130 a.kids b.kids
  omega
 obtain ⟨k1,k2⟩:=zR5 130 a.kids b.kids (by omega) _ [] h2 ⟨by omega,r1,r2,r3⟩
 have e : putL (putL a [] (rowN (delL 130 a.kids b.kids))) [] (rowN b.kids) = b:=by
  rw [zDt]
  exact eb.symm
 rw [e] at k1;exact zG9 h1 rfl k1
end Go.Proofs.YtjdhkpdjecegnaaGreatDoor
namespace Go.Proofs.YtjdhkpdjecegnaaGreatDoor
open Go.Abs
def opw (o : Op8) : Nat:=Nd.ws o.nodes + o.text.length + 4
def sw : List Op8 → Nat
 | []=>0
 | o :: l=>opw o + sw l
theorem zJV : ∀ a b : List Op8,sw (a ++ b) = sw a + sw b
 | [],b=>by simp [sw]
 | o :: a,b=>by simp only [List.cons_append,sw,zJV a b]; omega
theorem zSz : ∀ l : List Op8,4 * l.length ≤ sw l
 | []=>Nat.zero_le _
 | o :: l=>by
  have:=zSz l;simp only [List.length_cons,sw,opw]
  omega
theorem zPM (n : Nat) (hn : 200000000 < n) {ops : List Op8} (hl : ops.length ≤ 10000000) (ho : ∀ o ∈ ops,opw o ≤ 1900000) : ∀ (k i : Nat) (t : Nd),ops.length - i < k → i ≤ ops.length → t.w + sw (ops.drop i) ≤ 40000000 →
  ∃ f,zBD n ops k t.kind t.text t.cols t.kids (i : Int) = some f ∧ Runs t (ops.drop i) (endOf f).1 (endOf f).2.2 ∧ ((endOf f).2.2 = 0 → (endOf f).2.1 = 0)
 | 0,i,t,h,_,_=>by omega
 | k + 1,i,t,h,hi,hw=>by
  unfold zBD
  by_cases hj : i < ops.length
  ·have hd:=List.drop_eq_getElem_cons hj;have hs:=ho _ (List.getElem_mem hj)
   rw [hd] at hw;simp only [sw] at hw;unfold opw at hw hs;obtain ⟨t',e,g1,g3⟩:=zOm n t ops[i] hn (by omega) (by omega) (by simp only [Op8.text] at hs; omega)
   have hw':=g3.w;rw [zBg (Int.ofNat_lt.2 hj),zBx hj,hd]
   simp only [cond_true]
   generalize ops[i] = o at *;obtain ⟨q1,q2,q3,q4,q5,q6,q7,q8⟩:=o;obtain ⟨t1,t2,t3,t4⟩:=t;have ih:=zPM n hn hl ho k (i + 1) t' (by omega) (by omega) (by simp only [Op8.text] at hw; dsimp only at hw' hw; omega)
   obtain ⟨u1,u2,u3,u4⟩:=t';simp only [Nd.kind,Nd.text,Nd.cols,Nd.kids] at ih ⊢;simp only [Option.bind_some,g1]
   by_cases he : e = 0
   ·subst he;simp only [show ((0 : Int) != 0) = false from rfl,cond_false,zAX (show i < 9223372036854775807 by omega)]
    obtain ⟨f,h1,h3,h4⟩:=ih;exact ⟨f,h1,.next g3 h3,h4⟩
   ·have hne : (e != 0) = true:=bne_iff_ne.2 he;simp only [hne,cond_true]
    exact ⟨_,rfl,.stop g3 he,fun h=>absurd h he⟩
  ·rw [zBf (by omega),List.drop_eq_nil_iff.2 (by omega)]
   obtain ⟨t1,t2,t3,t4⟩:=t;simp only [cond_false]
   exact ⟨_,rfl,.nil _,fun _=>rfl⟩
theorem zTK (n : Nat) (t : Nd) (ops : List Op8) (hn : 200000000 < n) (hw : t.w + sw ops ≤ 40000000) (ho : ∀ o ∈ ops,opw o ≤ 1900000) :
  ∃ u i e,zBs n t ops = some (u,i,e) ∧ zV2 t ops u e ∧ (e = 0 → i = 0):=by
 have ct:=Nd.cnt_w t;have sl:=zSz ops;have v1:=zCq n t (by omega) (by omega)
 have hd : zBc t = some t:=zGS (by omega)
 obtain ⟨f,h1,h3,h4⟩:=zPM n hn (ops:=ops) (by omega) ho n 0 t (by omega) (by omega) (by rw [List.drop_zero]; exact hw)
 rw [show ((0 : Nat) : Int) = 0 from rfl] at h1;rw [List.drop_zero] at h3;obtain ⟨t1,t2,t3,t4⟩:=t;simp only [Nd.kind,Nd.text,Nd.cols,Nd.kids] at h1;unfold zBs;simp only [v1,Option.bind_some,hd,h1]
 cases hv : zAL (.mk t1 t2 t3 t4) with
 | false=>exact ⟨_,0,1,rfl,.bad hv,fun h=>by cases h⟩
 | true =>
  simp only [Bool.not_true,cond_false]
  cases f with
  | ret r =>
   obtain ⟨u,i,e⟩:=r;exact ⟨u,i,e,rfl,.go hv h3,h4⟩
  | go g =>
   obtain ⟨a,b,c,d⟩:=g;exact ⟨_,0,0,rfl,.go hv h3,fun _=>rfl⟩
theorem zW1 {x : Nd} {p : List Int} {i : Nat} : sw [zGw p i x] = x.w + 5:=by
 simp [sw,opw,zGw,Op8.nodes,Op8.text,Nd.ws]
theorem zVV {x : Nd} {p : List Int} {i : Nat} : opw (zFT p i x) = x.w + 5:=by
 simp [opw,zFT,Op8.nodes,Op8.text,Nd.ws]
theorem zW2 (p : List Int) (j : Nat) (x y : Nd) : sw (setO p j x y) ≤ y.text.length + 4:=by
 unfold setO;split
 ·exact Nat.zero_le _
 ·simp [sw,opw,zIl,Op8.nodes,Op8.text,Nd.ws]
theorem zEx {v : Nd} : v.w = v.text.length + Nd.ws v.kids + 1:=by cases v; rfl
theorem zQT {G : RowO} {p : List Int} {i : Nat} : ∀ (s : Nat) (us vs : List Nd),(∀ u ∈ us,∀ v p,sw (G p u.kids v) ≤ 5 * Nd.ws u.kids) → sw (zCs G p i s us vs) ≤ 5 * Nd.ws us
 | _,[],vs,_=>by simp only [zCs,sw]; omega
 | _,_ :: _,[],_=>by simp only [zCs,sw]; omega
 | s,u :: us,v :: vs,h=>by
  have h1:=h u List.mem_cons_self v.kids (p ++ [(i : Int),(s : Int)])
  have h2:=zQT (G:=G) (p:=p) (i:=i) (s + 1) us vs fun u hu=>h u (List.mem_cons_of_mem _ hu)
  have e:=zEx (v:=u)
  simp only [zCs,zJV,Nd.ws]
  omega
theorem zQS {G : RowO} {p : List Int} {i : Nat} : ∀ (s : Nat) (us vs : List Nd),(∀ v ∈ vs,∀ u p,sw (G p u v.kids) ≤ 5 * Nd.ws v.kids) → sw (zCr G p i s us vs) ≤ 5 * Nd.ws vs
 | _,[],vs,_=>by simp only [zCr,sw]; omega
 | _,_ :: _,[],_=>by simp only [zCr,sw]; omega
 | s,u :: us,v :: vs,h=>by
  have h1:=h v List.mem_cons_self u.kids (p ++ [(i : Int),(s : Int)])
  have h2:=zQS (G:=G) (p:=p) (i:=i) (s + 1) us vs fun u hu=>h u (List.mem_cons_of_mem _ hu)
  have e:=zEx (v:=v)
  simp only [zCr,zJV,Nd.ws]
  omega
theorem zWz {G : RowO} {p : List Int} {s : List Mv} {a b : List Nd} (hs : Sc s a b) : (∀ x ∈ a,∀ u ∈ x.kids,∀ v p,sw (G p u.kids v) ≤ 5 * Nd.ws u.kids) → ∀ i,sw (zDW G p i s a b) ≤ 5 * Nd.ws a:=by
 induction hs with
 | nil=>intro _ i; exact Nat.zero_le _
 | @mat s x y xs ys ha _ ih =>
  intro h i;have h1:=ih (fun x hx=>h x (List.mem_cons_of_mem _ hx)) (i + 1)
  have h2:=zQT (G:=G) (p:=p) (i:=i) 0 x.kids y.kids (h x List.mem_cons_self)
  have e:=zEx (v:=x)
  simp only [zDW,zJV,Nd.ws]
  omega
 | @del s x xs b _ ih =>
  intro h i;have h1:=ih (fun x hx=>h x (List.mem_cons_of_mem _ hx)) (i + 1)
  simp only [zDW,zJV,zW1,Nd.ws]
  omega
 | @ins s y a ys _ ih=>intro h i; exact ih h i
theorem zWy {G : RowO} {p : List Int} {s : List Mv} {a b : List Nd} (hs : Sc s a b) : (∀ y ∈ b,∀ v ∈ y.kids,∀ u p,sw (G p u v.kids) ≤ 5 * Nd.ws v.kids) → ∀ j,sw (zDO G p j s a b) ≤ 5 * Nd.ws b:=by
 induction hs with
 | nil=>intro _ i; exact Nat.zero_le _
 | @mat s x y xs ys ha _ ih =>
  intro h j;have h1:=ih (fun x hx=>h x (List.mem_cons_of_mem _ hx)) (j + 1)
  have h2:=zQS (G:=G) (p:=p) (i:=j) 0 x.kids y.kids (h y List.mem_cons_self)
  have h3:=zW2 p j x y;have e:=zEx (v:=y)
  simp only [zDO,zJV,Nd.ws]
  omega
 | @del s x xs b _ ih=>intro h j; exact ih h j
 | @ins s y a ys _ ih =>
  intro h j;have h1:=ih (fun x hx=>h x (List.mem_cons_of_mem _ hx)) (j + 1)
  have e:=zVV (x:=y) (p:=p) (i:=j)
  simp only [zDO,sw,Nd.ws]
  omega
theorem zMx : ∀ (N : Nat) (p : List Int) (a b : List Nd),sw (zCN N p a b) ≤ 5 * Nd.ws a
 | 0,_,_,_=>Nat.zero_le _
 | N + 1,p,a,b=>by
  unfold zCN;exact zWz (zI3 a b) (fun x _ u _ v q=>zMx N q u.kids v) 0
theorem zMw : ∀ (N : Nat) (p : List Int) (a b : List Nd),sw (zC4 N p a b) ≤ 5 * Nd.ws b
 | 0,_,_,_=>Nat.zero_le _
 | N + 1,p,a,b=>by
  unfold zC4;exact zWy (zI3 a b) (fun y _ v _ u q=>zMw N q u v.kids) 0
theorem zSv {t u u' : Nd} {ops : List Op8} {e e' : Int} (h : Runs t ops u e) (h' : Runs t ops u' e') : u = u' ∧ e = e':=by
 induction h generalizing u' e' with
 | nil t=>cases h'; exact ⟨rfl,rfl⟩
 | stop h he =>
  cases h' with
  | stop g _=>exact ⟨rfl,(h.det g).2⟩
  | next g _=>exact absurd (h.det g).2 he
 | next h _ ih =>
  cases h' with
  | stop g he=>exact absurd (h.det g).2.symm he
  | next g gr =>
   obtain ⟨rfl,_⟩:=h.det g;exact ih gr
theorem zP0 {G : RowO} {p : List Int} {i : Nat} {o : Op8} : ∀ (s : Nat) (us vs : List Nd),o ∈ zCs G p i s us vs → ∃ u ∈ us,∃ v ∈ vs,∃ q,o ∈ G q u.kids v.kids
 | _,[],_,h=>by simp only [zCs] at h; cases h
 | _,_ :: _,[],h=>by simp only [zCs] at h; cases h
 | s,u :: us,v :: vs,h=>by
  simp only [zCs] at h;rcases List.mem_append.1 h with h | h
  ·obtain ⟨u',h1,v',h2,q,h3⟩:=zP0 (s + 1) us vs h;exact ⟨u',List.mem_cons_of_mem _ h1,v',List.mem_cons_of_mem _ h2,q,h3⟩
  ·exact ⟨u,List.mem_cons_self,v,List.mem_cons_self,_,h⟩
theorem zPZ {G : RowO} {p : List Int} {i : Nat} {o : Op8} : ∀ (s : Nat) (us vs : List Nd),o ∈ zCr G p i s us vs → ∃ u ∈ us,∃ v ∈ vs,∃ q,o ∈ G q u.kids v.kids
 | _,[],_,h=>by simp only [zCr] at h; cases h
 | _,_ :: _,[],h=>by simp only [zCr] at h; cases h
 | s,u :: us,v :: vs,h=>by
  simp only [zCr] at h;rcases List.mem_append.1 h with h | h
  ·exact ⟨u,List.mem_cons_self,v,List.mem_cons_self,_,h⟩
  ·obtain ⟨u',h1,v',h2,q,h3⟩:=zPZ (s + 1) us vs h;exact ⟨u',List.mem_cons_of_mem _ h1,v',List.mem_cons_of_mem _ h2,q,h3⟩
theorem zRs {G : RowO} {p : List Int} {s : List Mv} {a b : List Nd} {o : Op8} (hs : Sc s a b) : ∀ i,o ∈ zDW G p i s a b → (∃ x ∈ a,∃ i,o = zGw p i x) ∨ ∃ x ∈ a,∃ y ∈ b,∃ u ∈ x.kids,∃ v ∈ y.kids,∃ q,o ∈ G q u.kids v.kids:=by
 induction hs with
 | nil=>intro i h; simp only [zDW] at h; cases h
 | @mat s x y xs ys ha _ ih =>
  intro i h;simp only [zDW] at h;rcases List.mem_append.1 h with h | h
  ·rcases ih _ h with ⟨z,h1,h2⟩ | ⟨z,h1,w,h2,h3⟩
   ·exact .inl ⟨z,List.mem_cons_of_mem _ h1,h2⟩
   ·exact .inr ⟨z,List.mem_cons_of_mem _ h1,w,List.mem_cons_of_mem _ h2,h3⟩
  ·obtain ⟨u,h1,v,h2,q,h3⟩:=zP0 0 _ _ h;exact .inr ⟨x,List.mem_cons_self,y,List.mem_cons_self,u,h1,v,h2,q,h3⟩
 | @del s x xs b _ ih =>
  intro i h;simp only [zDW] at h;rcases List.mem_append.1 h with h | h
  ·rcases ih _ h with ⟨z,h1,h2⟩ | ⟨z,h1,w,h2,h3⟩
   ·exact .inl ⟨z,List.mem_cons_of_mem _ h1,h2⟩
   ·exact .inr ⟨z,List.mem_cons_of_mem _ h1,w,h2,h3⟩
  ·exact .inl ⟨x,List.mem_cons_self,i,List.mem_singleton.1 h⟩
 | @ins s y a ys _ ih =>
  intro i h;rcases ih _ h with ⟨z,h1,h2⟩ | ⟨z,h1,w,h2,h3⟩
  ·exact .inl ⟨z,h1,h2⟩
  ·exact .inr ⟨z,h1,w,List.mem_cons_of_mem _ h2,h3⟩
theorem zRr {G : RowO} {p : List Int} {s : List Mv} {a b : List Nd} {o : Op8} (hs : Sc s a b) : ∀ j,o ∈ zDO G p j s a b → (∃ y ∈ b,∃ j,o = zFT p j y) ∨ (∃ x ∈ a,∃ y ∈ b,∃ j,o = zIl p j x.text y.text) ∨ ∃ x ∈ a,∃ y ∈ b,∃ u ∈ x.kids,∃ v ∈ y.kids,∃ q,o ∈ G q u.kids v.kids:=by
 induction hs with
 | nil=>intro i h; simp only [zDO] at h; cases h
 | @mat s x y xs ys ha _ ih =>
  intro j h;simp only [zDO] at h;rcases List.mem_append.1 h with h | h
  ·unfold setO at h;split at h
   ·cases h
   ·exact .inr (.inl ⟨x,List.mem_cons_self,y,List.mem_cons_self,j,List.mem_singleton.1 h⟩)
  ·rcases List.mem_append.1 h with h | h
   ·obtain ⟨u,h1,v,h2,q,h3⟩:=zPZ 0 _ _ h;exact .inr (.inr ⟨x,List.mem_cons_self,y,List.mem_cons_self,u,h1,v,h2,q,h3⟩)
   ·rcases ih _ h with ⟨z,h1,h2⟩ | ⟨z,h1,w,h2,h3⟩ | ⟨z,h1,w,h2,h3⟩
    ·exact .inl ⟨z,List.mem_cons_of_mem _ h1,h2⟩
    ·exact .inr (.inl ⟨z,List.mem_cons_of_mem _ h1,w,List.mem_cons_of_mem _ h2,h3⟩)
    ·exact .inr (.inr ⟨z,List.mem_cons_of_mem _ h1,w,List.mem_cons_of_mem _ h2,h3⟩)
 | @del s x xs b _ ih =>
  intro j h;rcases ih _ h with ⟨z,h1,h2⟩ | ⟨z,h1,w,h2,h3⟩ | ⟨z,h1,w,h2,h3⟩
  ·exact .inl ⟨z,h1,h2⟩
  ·exact .inr (.inl ⟨z,List.mem_cons_of_mem _ h1,w,h2,h3⟩)
  ·exact .inr (.inr ⟨z,List.mem_cons_of_mem _ h1,w,h2,h3⟩)
 | @ins s y a ys _ ih =>
  intro j h;simp only [zDO] at h;rcases List.mem_cons.1 h with h | h
  ·exact .inl ⟨y,List.mem_cons_self,j,h⟩
  ·rcases ih _ h with ⟨z,h1,h2⟩ | ⟨z,h1,w,h2,h3⟩ | ⟨z,h1,w,h2,h3⟩
   ·exact .inl ⟨z,List.mem_cons_of_mem _ h1,h2⟩
   ·exact .inr (.inl ⟨z,h1,w,List.mem_cons_of_mem _ h2,h3⟩)
   ·exact .inr (.inr ⟨z,h1,w,List.mem_cons_of_mem _ h2,h3⟩)
theorem zQ2 {a : List Nd} {x u : Nd} (hx : x ∈ a) (hu : u ∈ x.kids) : Nd.ws u.kids ≤ Nd.ws a:=by
 have h1:=Nd.w_mem hx;have h2:=Nd.w_mem hu;have e1:=zEx (v:=x)
 have e2:=zEx (v:=u)
 omega
theorem zRn : ∀ (N : Nat) (p : List Int) (a b : List Nd),∀ o ∈ zCN N p a b,opw o ≤ Nd.ws a + 5
 | 0,_,_,_,_,h=>by cases h
 | N + 1,p,a,b,o,h=>by
  unfold zCN at h;rcases zRs (zI3 a b) _ h with ⟨x,h1,i,rfl⟩ | ⟨x,h1,y,_,u,h2,v,_,q,h3⟩
  ·have:=Nd.w_mem h1;have e : opw (zGw p i x) = x.w + 5:=by simp [opw,zGw,Op8.nodes,Op8.text,Nd.ws]
   omega
  ·have h4:=zRn N q u.kids v.kids o h3;have:=zQ2 h1 h2
   omega
theorem zRl : ∀ (N : Nat) (p : List Int) (a b : List Nd),∀ o ∈ zC4 N p a b,opw o ≤ Nd.ws b + 5
 | 0,_,_,_,_,h=>by cases h
 | N + 1,p,a,b,o,h=>by
  unfold zC4 at h;rcases zRr (zI3 a b) _ h with ⟨y,h1,j,rfl⟩ | ⟨x,_,y,h1,j,rfl⟩ | ⟨x,_,y,h1,u,_,v,h2,q,h3⟩
  ·have:=Nd.w_mem h1;have e:=zVV (x:=y) (p:=p) (i:=j)
   omega
  ·have:=Nd.w_mem h1;have e:=zEx (v:=y)
   have e2 : opw (zIl p j x.text y.text) = y.text.length + 4:=by simp [opw,zIl,Op8.nodes,Op8.text,Nd.ws]
   omega
  ·have h4:=zRl N q u.kids v.kids o h3;have:=zQ2 h1 h2
   omega
theorem zUb (n : Nat) {a b : Nd} (hn : 200000000 < n) (va : zAL a = true) (vb : zAL b = true) (ca : a.cnt ≤ 120) (cb : b.cnt ≤ 120) (wa : a.w ≤ 1048576) (wb : b.w ≤ 1048576) : zBs n a (opsK a b) = some (b,0,0):=by
 have e1:=zEx (v:=a)
 have e2:=zEx (v:=b)
 have s1:=zMx 130 [] a.kids b.kids;have s2:=zMw 130 [] a.kids b.kids;have hsw : sw (opsK a b) = sw (zCN 130 [] a.kids b.kids) + sw (zC4 130 [] a.kids b.kids):=zJV _ _;obtain ⟨u,i,e,h1,h2,h3⟩:=zTK n a (opsK a b) hn (by omega) (fun o ho=>by
  rcases List.mem_append.1 ho with ho | ho
  ·have:=zRn _ _ _ _ o ho; omega
  ·have:=zRl _ _ _ _ o ho; omega)
 have hl:=zSk va vb ca cb;cases h2 with
 | bad h=>rw [va] at h; cases h
 | go _ hr =>
  obtain ⟨rfl,rfl⟩:=zSv hr hl;rw [h1,h3 rfl]
end Go.Proofs.YtjdhkpdjecegnaaGreatDoor
namespace Go.Proofs.YtjdhkpdjecegnaaGreatDoor
open Go.Abs
theorem zGs : ∀ (k i j : Nat) (a b : List Nd),∀ u ∈ zB0 k i j a b,∃ s t x y,u = (i + s,j + t) ∧ a[s]? = some x ∧ b[t]? = some y ∧ zDe x y = true
 | 0,i,j,a,b,u,h=>by unfold zB0 at h; cases h
 | k + 1,i,j,[],b,u,h=>by unfold zB0 at h; cases h
 | k + 1,i,j,x :: xs,[],u,h=>by unfold zB0 at h; cases h
 | k + 1,i,j,x :: xs,y :: ys,u,h=>by
  unfold zB0 at h;cases h1 : (zDe x y && (DL (x :: xs) (y :: ys) == DL xs ys + D x y)) with
  | true =>
   rw [h1,cond_true] at h;rcases List.mem_cons.1 h with rfl | h
   ·exact ⟨0,0,x,y,rfl,rfl,rfl,(Bool.and_eq_true _ _ ▸ h1).1⟩
   ·obtain ⟨s,t,x',y',rfl,h2,h3,h4⟩:=zGs k (i + 1) (j + 1) xs ys u h;exact ⟨s + 1,t + 1,x',y',by rw [Nat.add_assoc,Nat.add_comm 1,Nat.add_assoc j,Nat.add_comm 1],h2,h3,h4⟩
  | false =>
   rw [h1,cond_false] at h;generalize ((DL (x :: xs) (y :: ys) == DL xs (y :: ys) + x.cnt) && (!(DL (x :: xs) (y :: ys) == DL (x :: xs) ys + y.cnt) || Op.bytesLess (zEh x) (zEh y))) = c at h;cases c with
   | true =>
    obtain ⟨s,t,x',y',rfl,h2,h3,h4⟩:=zGs k (i + 1) j xs (y :: ys) u h;exact ⟨s + 1,t,x',y',by rw [Nat.add_assoc,Nat.add_comm 1],h2,h3,h4⟩
   | false =>
    obtain ⟨s,t,x',y',rfl,h2,h3,h4⟩:=zGs k i (j + 1) (x :: xs) ys u h;exact ⟨s,t + 1,x',y',by rw [Nat.add_assoc j,Nat.add_comm 1],h2,h3,h4⟩
theorem zFb : ∀ (k i j : Nat) (a b : List Nd),(zB0 k i j a b).Pairwise fun u v=>u.1 < v.1 ∧ u.2 < v.2
 | 0,i,j,a,b=>by unfold zB0; exact .nil
 | k + 1,i,j,[],b=>by unfold zB0; exact .nil
 | k + 1,i,j,x :: xs,[]=>by unfold zB0; exact .nil
 | k + 1,i,j,x :: xs,y :: ys=>by
  unfold zB0;cases h1 : (zDe x y && (DL (x :: xs) (y :: ys) == DL xs ys + D x y)) with
  | true =>
   rw [cond_true]
   refine .cons (fun u hu=>?_) (zFb k (i + 1) (j + 1) xs ys)
   obtain ⟨s,t,_,_,rfl,_⟩:=zGs k (i + 1) (j + 1) xs ys u hu;dsimp only
   omega
  | false =>
   rw [cond_false]
   generalize ((DL (x :: xs) (y :: ys) == DL xs (y :: ys) + x.cnt) && (!(DL (x :: xs) (y :: ys) == DL (x :: xs) ys + y.cnt) || Op.bytesLess (zEh x) (zEh y))) = c;cases c with
   | true=>exact zFb k (i + 1) j xs (y :: ys)
   | false=>exact zFb k i (j + 1) (x :: xs) ys
end Go.Proofs.YtjdhkpdjecegnaaGreatDoor
namespace Go.Proofs.YtjdhkpdjecegnaaGreatDoor
open Go.Abs
def rowK (l : List Nd) : Nd:=.mk 1 [] 0 l
def parK (l : List (Nat × Nat)) (i : Nat) : Option Nat:=(l.find? fun u=>u.1 == i).map (·.2)
def zJL (a b : List Nd) : List (Nat × Nat):=zB0 (a.length + b.length + 1) 0 0 a b
end Go.Proofs.YtjdhkpdjecegnaaGreatDoor
namespace Go.Proofs.YtjdhkpdjecegnaaGreatDoor
open Go.Abs
def noN : Nd:=.mk 0 [] 0 []
def parB (l : List (Nat × Nat)) (j : Nat) : Option Nat:=(l.find? fun u=>u.2 == j).map (·.1)
def delF (G : RowO) (p : List Int) (A B : List Nd) (l : List (Nat × Nat)) (i : Nat) : List Op8 :=
 match parK l i with
 | none=>[zGw p i (A.getD i noN)]
 | some j=>zCs G p i 0 (A.getD i noN).kids (B.getD j noN).kids
def chgF (G : RowO) (p : List Int) (A B : List Nd) (l : List (Nat × Nat)) (j : Nat) : List Op8 :=
 match parB l j with
 | none=>[zFT p j (B.getD j noN)]
 | some i=>setO p j (A.getD i noN) (B.getD j noN) ++ zCr G p j 0 (A.getD i noN).kids (B.getD j noN).kids
theorem zMe {u : Nat × Nat} {l : List (Nat × Nat)} {i : Nat} : parK (u :: l) i = if u.1 = i then some u.2 else parK l i:=by
 unfold parK;rw [List.find?_cons]
 by_cases h : u.1 = i
 ·rw [if_pos h,show (u.1 == i) = true from beq_iff_eq.2 h]; rfl
 ·rw [if_neg h,show (u.1 == i) = false from beq_eq_false_iff_ne.2 h]
theorem zJM {u : Nat × Nat} {l : List (Nat × Nat)} {j : Nat} : parB (u :: l) j = if u.2 = j then some u.1 else parB l j:=by
 unfold parB;rw [List.find?_cons]
 by_cases h : u.2 = j
 ·rw [if_pos h,show (u.2 == j) = true from beq_iff_eq.2 h]; rfl
 ·rw [if_neg h,show (u.2 == j) = false from beq_eq_false_iff_ne.2 h]
theorem zOP {l : List (Nat × Nat)} {i : Nat} (h : ∀ u ∈ l,u.1 ≠ i) : parK l i = none:=by
 unfold parK;rw [List.find?_eq_none.2 fun u hu=>by simpa using h u hu]
 rfl
theorem zOO {l : List (Nat × Nat)} {j : Nat} (h : ∀ u ∈ l,u.2 ≠ j) : parB l j = none:=by
 unfold parB;rw [List.find?_eq_none.2 fun u hu=>by simpa using h u hu]
 rfl
theorem zHZ {A : List Nd} {i : Nat} {x : Nd} {xs : List Nd} (h : A.drop i = x :: xs) : A.getD i noN = x ∧ A.drop (i + 1) = xs:=by
 have hi : i < A.length:=by
  have:=congrArg List.length h;simp only [List.length_drop,List.length_cons] at this
  omega
 rw [List.drop_eq_getElem_cons hi] at h;obtain ⟨h1,h2⟩:=List.cons.inj h;exact ⟨by rw [List.getD_eq_getElem?_getD,List.getElem?_eq_getElem hi,h1]; rfl,h2⟩
theorem zLg {f : Nat → List Op8} (i n : Nat) : (List.range' i (n + 1)).reverse.flatMap f = (List.range' (i + 1) n).reverse.flatMap f ++ f i:=by
 rw [List.range'_succ,List.reverse_cons,List.flatMap_append]
 simp
theorem zJ5 {f g : Nat → List Op8} {l : List Nat} (h : ∀ i ∈ l,f i = g i) : l.flatMap f = l.flatMap g:=by
 induction l with
 | nil=>rfl
 | cons x l ih=>rw [List.flatMap_cons,List.flatMap_cons,h x List.mem_cons_self,ih fun i hi=>h i (List.mem_cons_of_mem _ hi)]
theorem zTG {G : RowO} {p : List Int} {A B : List Nd} : ∀ (a : List Nd) (i : Nat),A.drop i = a → zDW G p i (a.map fun _=>.del) a [] = (List.range' i a.length).reverse.flatMap (delF G p A B [])
 | [],i,_=>rfl
 | x :: xs,i,h=>by
  obtain ⟨h1,h2⟩:=zHZ h;have ih:=zTG (G:=G) (p:=p) (A:=A) (B:=B) xs (i + 1) h2;rw [List.length_cons,zLg,List.map_cons]
  simp only [zDW]
  rw [ih]
  have : delF G p A B [] i = [zGw p i x] :=(by unfold delF; rw [zOP (fun u hu=>by cases hu),h1]);rw [this]
theorem zTE {G : RowO} {p : List Int} : ∀ (b : List Nd) (i : Nat),zDW G p i (b.map fun _=>.ins) [] b = []
 | [],_=>rfl
 | y :: ys,i=>by rw [List.map_cons]; simp only [zDW]; exact zTE ys i
theorem zTs {G : RowO} {p : List Int} : ∀ (a : List Nd) (j : Nat),zDO G p j (a.map fun _=>.del) a [] = []
 | [],_=>rfl
 | x :: xs,j=>by rw [List.map_cons]; simp only [zDO]; exact zTs xs j
theorem zTu {G : RowO} {p : List Int} {A B : List Nd} : ∀ (b : List Nd) (j : Nat),B.drop j = b → zDO G p j (b.map fun _=>.ins) [] b = (List.range' j b.length).flatMap (chgF G p A B [])
 | [],j,_=>rfl
 | y :: ys,j,h=>by
  obtain ⟨h1,h2⟩:=zHZ h;have ih:=zTu (G:=G) (p:=p) (A:=A) (B:=B) ys (j + 1) h2;rw [List.length_cons,List.range'_succ,List.flatMap_cons,List.map_cons]
  simp only [zDO]
  rw [ih]
  have : chgF G p A B [] j = [zFT p j y] :=(by unfold chgF; rw [zOO (fun u hu=>by cases hu),h1]);rw [this]; rfl
theorem zWI {k i j : Nat} {a b : List Nd} {u : Nat × Nat} (h : u ∈ zB0 k i j a b) : i ≤ u.1 ∧ j ≤ u.2:=by
 obtain ⟨s,t,_,_,rfl,_⟩:=zGs k i j a b u h;dsimp only
 omega
theorem zJx {G : RowO} {p : List Int} {A B : List Nd} : ∀ (k i j : Nat) (a b : List Nd),a.length + b.length < k → A.drop i = a → B.drop j = b → zDW G p i (scr k a b) a b = (List.range' i a.length).reverse.flatMap (delF G p A B (zB0 k i j a b))
 | 0,_,_,_,_,h,_,_=>by omega
 | k + 1,i,j,[],b,_,_,_=>by unfold scr; rw [zTE]; rfl
 | k + 1,i,j,x :: xs,[],_,ha,_=>by unfold scr zB0; exact zTG (x :: xs) i ha
 | k + 1,i,j,x :: xs,y :: ys,h,ha,hb=>by
  obtain ⟨ha1,ha2⟩:=zHZ ha;obtain ⟨hb1,hb2⟩:=zHZ hb;simp only [List.length_cons] at h;unfold scr zB0;cases h1 : (zDe x y && (DL (x :: xs) (y :: ys) == DL xs ys + D x y)) with
  | true =>
   have ih:=zJx (G:=G) (p:=p) k (i + 1) (j + 1) xs ys (by omega) ha2 hb2;simp only [cond_true,zDW]
   rw [ih,List.length_cons,zLg]
   congr 1
   ·refine zJ5 fun q hq=>?_
    have hq':=List.mem_range'_1.1 (List.mem_reverse.1 hq)
    unfold delF;rw [zMe,if_neg (by dsimp only; omega)]
   ·unfold delF;rw [zMe,if_pos rfl]
    dsimp only;rw [ha1,hb1]
  | false =>
   simp only [cond_false]
   generalize ((DL (x :: xs) (y :: ys) == DL xs (y :: ys) + x.cnt) && (!(DL (x :: xs) (y :: ys) == DL (x :: xs) ys + y.cnt) || Op.bytesLess (zEh x) (zEh y))) = c;cases c with
   | true =>
    have ih:=zJx (G:=G) (p:=p) k (i + 1) j xs (y :: ys) (by simp only [List.length_cons]; omega) ha2 hb;simp only [cond_true,zDW]
    rw [ih,List.length_cons,zLg]
    congr 1
    unfold delF;rw [zOP fun u hu=>by have:=zWI hu; omega,ha1]
   | false =>
    have ih:=zJx (G:=G) (p:=p) k i (j + 1) (x :: xs) ys (by simp only [List.length_cons]; omega) ha hb2;simp only [cond_false,zDW]
    exact ih
theorem zJu {G : RowO} {p : List Int} {A B : List Nd} : ∀ (k i j : Nat) (a b : List Nd),a.length + b.length < k → A.drop i = a → B.drop j = b → zDO G p j (scr k a b) a b = (List.range' j b.length).flatMap (chgF G p A B (zB0 k i j a b))
 | 0,_,_,_,_,h,_,_=>by omega
 | k + 1,i,j,[],b,_,_,hb=>by unfold scr zB0; exact zTu b j hb
 | k + 1,i,j,x :: xs,[],_,ha,_=>by unfold scr; rw [zTs]; rfl
 | k + 1,i,j,x :: xs,y :: ys,h,ha,hb=>by
  obtain ⟨ha1,ha2⟩:=zHZ ha;obtain ⟨hb1,hb2⟩:=zHZ hb;simp only [List.length_cons] at h;unfold scr zB0;cases h1 : (zDe x y && (DL (x :: xs) (y :: ys) == DL xs ys + D x y)) with
  | true =>
   have ih:=zJu (G:=G) (p:=p) k (i + 1) (j + 1) xs ys (by omega) ha2 hb2;simp only [cond_true,zDO]
   rw [ih,List.length_cons,List.range'_succ,List.flatMap_cons,← List.append_assoc]
   congr 1
   ·unfold chgF;rw [zJM,if_pos rfl]
    dsimp only;rw [ha1,hb1]
   ·refine zJ5 fun q hq=>?_
    have hq':=List.mem_range'_1.1 hq;unfold chgF;rw [zJM,if_neg (by dsimp only; omega)]
  | false =>
   simp only [cond_false]
   generalize ((DL (x :: xs) (y :: ys) == DL xs (y :: ys) + x.cnt) && (!(DL (x :: xs) (y :: ys) == DL (x :: xs) ys + y.cnt) || Op.bytesLess (zEh x) (zEh y))) = c;cases c with
   | true =>
    have ih:=zJu (G:=G) (p:=p) k (i + 1) j xs (y :: ys) (by simp only [List.length_cons]; omega) ha2 hb;simp only [cond_true,zDO]
    exact ih
   | false =>
    have ih:=zJu (G:=G) (p:=p) k i (j + 1) (x :: xs) ys (by simp only [List.length_cons]; omega) ha hb2;simp only [cond_false,zDO]
    rw [ih,List.length_cons,List.range'_succ,List.flatMap_cons]
    have : chgF G p A B (zB0 k i (j + 1) (x :: xs) ys) j = [zFT p j y]:=by
     unfold chgF;rw [zOO fun u hu=>by have:=zWI hu; omega,hb1]
    rw [this]; rfl
theorem zPH (N : Nat) (p : List Int) (a b : List Nd) : zCN (N + 1) p a b = (List.range' 0 a.length).reverse.flatMap (delF (zCN N) p a b (zJL a b)):=by
 unfold zCN sK zJL;exact zJx _ 0 0 a b (Nat.lt_succ_self _) rfl rfl
theorem zPB (N : Nat) (p : List Int) (a b : List Nd) : zC4 (N + 1) p a b = (List.range' 0 b.length).flatMap (chgF (zC4 N) p a b (zJL a b)):=by
 unfold zC4 sK zJL;exact zJu _ 0 0 a b (Nat.lt_succ_self _) rfl rfl
end Go.Proofs.YtjdhkpdjecegnaaGreatDoor
namespace Go.Proofs.YtjdhkpdjecegnaaGreatDoor
open Go.Abs
theorem zGQ : ∀ (k k' i j : Nat) (a b : List Nd),a.length + b.length < k → a.length + b.length < k' → zB0 k i j a b = zB0 k' i j a b
 | 0,_,_,_,_,_,h,_=>by omega
 | _ + 1,0,_,_,_,_,_,h=>by omega
 | k + 1,k' + 1,i,j,[],b,_,_=>by unfold zB0; rfl
 | k + 1,k' + 1,i,j,x :: xs,[],_,_=>by unfold zB0; rfl
 | k + 1,k' + 1,i,j,x :: xs,y :: ys,h,h'=>by
  simp only [List.length_cons] at h h';unfold zB0;rw [zGQ k k' (i + 1) (j + 1) xs ys (by omega) (by omega),zGQ k k' (i + 1) j xs (y :: ys) (by simp only [List.length_cons]; omega) (by simp only [List.length_cons]; omega),zGQ k k' i (j + 1) (x :: xs) ys (by simp only [List.length_cons]; omega) (by simp only [List.length_cons]; omega)]
end Go.Proofs.YtjdhkpdjecegnaaGreatDoor
namespace Go.Proofs.YtjdhkpdjecegnaaGreatDoor
open Go.Abs
theorem zLb {l : List Nd} {q : Nat} {v : Nd} (h : l[q]? = some v) : l.drop q = v :: l.drop (q + 1):=by
 obtain ⟨h1,rfl⟩:=List.getElem?_eq_some_iff.1 h;exact List.drop_eq_getElem_cons h1
theorem Nd.w_eq (v : Nd) : v.w = v.text.length + Nd.ws v.kids + 1:=by cases v; rfl
def okR (b : List Nd) : Prop:=zAL (rowK b) = true ∧ (rowK b).rng
theorem okR.sub {b : List Nd} {v u : Nd} (h : okR b) (hv : v ∈ b) (hu : u ∈ v.kids) : okR u.kids ∧ u = rowK u.kids:=by
 obtain ⟨h1,h2⟩:=h;unfold zAL at h1;simp only [Bool.and_eq_true,decide_eq_true_eq] at h1;obtain ⟨k1,f1,c1,d1⟩:=h1;have fb : zBi 1 b = true:=(zGW f1 rfl).2;obtain ⟨f2,k2⟩:=zC6 fb hv;have gv : zBi v.kind v.kids = true :=(by cases v; simp only [zCm,Bool.and_eq_true] at f2; exact f2.2);obtain ⟨f3,k3⟩:=zC6 gv hu;have kv : v.kind ≠ 1:=fun e=>by rw [e] at k2; cases k2
 rw [zCi kv] at k3;have ku : u.kind = 1:=by cases e : u.kind == 1 with | true=>exact eq_of_beq e | false=>rw [e] at k3; cases k3
 obtain ⟨r1,r2⟩:=zGW f3 ku;have c2:=Nd.cnts_mem hv;have c3:=Nd.cnts_mem hu;have e2:=v.cnt_kids;have cb : (rowK b).cnt = Nd.cnts b + 1 :=(by simp [rowK,Nd.cnt]);have db : (rowK b).dep = Nd.deps b + 1:=rfl;have d2:=zOj hv;have d3:=zOj hu;have ev : v.dep = Nd.deps v.kids + 1 :=(by cases v; rfl);have eu : rowK u.kids = u:=r1.symm;refine ⟨⟨?_,?_⟩,r1⟩
 ·rw [eu]
  unfold zAL;simp only [Bool.and_eq_true,decide_eq_true_eq]
  exact ⟨by rw [ku]; rfl,f3,by omega,by omega⟩
 ·rw [eu]
  have : v.rng:=zLd h2 (t:=rowK b) hv;exact zLd this hu
theorem zVQ {t : Nd} (h : zAL t = true) (hr : t.rng) : okR t.kids ∧ t = rowK t.kids:=by
 have e:=(zFS h).1;have e' : rowK t.kids = t:=e.symm;exact ⟨⟨by rw [e']; exact h,by rw [e']; exact hr⟩,e⟩
end Go.Proofs.YtjdhkpdjecegnaaGreatDoor
namespace Go.Proofs.YtjdhkpdjecegnaaGreatDoor
open Go.Abs
theorem zU6 {n : Int} (h : 0 ≤ n ∧ n ≤ 1073741824) : zDi n = some []:=zCg h
theorem zTA (k : Nat) (p : List Int) (i s : Int) (hp : p.length ≤ 1000000) : zAS [p,[i,s]] (k + 3) 0 0 = some ((p.length : Int) + 2):=by
 have w1 : IntKind.i64.wrap ((0 : Int) + (p.length : Int)) = (p.length : Int) :=(by rw [wrap64_in (by omega) (by omega)]; omega);have w2 : IntKind.i64.wrap ((p.length : Int) + 2) = (p.length : Int) + 2:=wrap64_in (by omega) (by omega)
 have c0 : at? [p,[i,s]] 0 = some p:=rfl;have c1 : at? [p,[i,s]] 1 = some [i,s]:=rfl;have v1 : IntKind.i64.wrap ((0 : Int) + 1) = 1 :=(by decide);have v2 : IntKind.i64.wrap ((1 : Int) + 1) = 2 :=(by decide);have hl : (([p,[i,s]] : List (List Int)).length : Int) = 2:=rfl;have h2 : (([i,s] : List Int).length : Int) = 2:=rfl;unfold zAS;rw [hl,zBg (by decide),cond_true,c0]
 simp only [Option.bind_some]
 rw [w1,zBf (by omega),cond_false,v1]
 unfold zAS;rw [hl,zBg (by decide),cond_true,c1]
 simp only [Option.bind_some]
 rw [h2,w2,zBf (by omega),cond_false,v2]
 unfold zAS;rw [hl,zBf (by decide),cond_false]
theorem zTB (k : Nat) (p : List Int) (i s : Int) (hp : p.length ≤ 1000000) : zAT [p,[i,s]] (k + 3) 0 [] = some (p ++ [i,s]):=by
 have c0 : at? [p,[i,s]] 0 = some p:=rfl;have c1 : at? [p,[i,s]] 1 = some [i,s]:=rfl;have v1 : IntKind.i64.wrap ((0 : Int) + 1) = 1 :=(by decide);have v2 : IntKind.i64.wrap ((1 : Int) + 1) = 2 :=(by decide);have hl : (([p,[i,s]] : List (List Int)).length : Int) = 2:=rfl;have q1 : ([] : List Int).length + p.length ≤ 4294967296 :=(by rw [List.length_nil]; omega);have q2 : p.length + [i,s].length ≤ 4294967296 :=(by rw [List.length_cons,List.length_cons,List.length_nil]; omega);unfold zAT;rw [hl,zBg (by decide),cond_true,c0]
 simp only [Option.bind_some]
 rw [zCg q1,v1]
 unfold zAT;rw [hl,zBg (by decide),cond_true,c1]
 simp only [Option.bind_some,List.nil_append]
 rw [zCg q2,v2]
 unfold zAT;rw [hl,zBf (by decide),cond_false]
theorem zNm (n : Nat) (p : List Int) (i s : Int) (hn : 5 < n) (hp : p.length ≤ 1000000) : zBn n [p,[i,s]] = some (p ++ [i,s]):=by
 obtain ⟨k,rfl⟩ : ∃ k,n = k + 3:=⟨n - 3,by omega⟩
 have e1:=zTA k p i s hp;have e2 : zDi ((p.length : Int) + 2) = some []:=zU6 ⟨by omega,by omega⟩
 have e3:=zTB k p i s hp;unfold zBn;dsimp only;rw [e1,Option.bind_some,e2,Option.bind_some,e3,Option.bind_some]
theorem zRh {l : List Nd} {n : Nat} {v : Nd} (h : l[n]? = some v) : at? l (n : Int) = some v:=by
 obtain ⟨h1,rfl⟩:=List.getElem?_eq_some_iff.1 h;exact zBx h1
end Go.Proofs.YtjdhkpdjecegnaaGreatDoor
namespace Go.Proofs.YtjdhkpdjecegnaaGreatDoor
open Go.Abs
theorem zL5 {l : List Nd} (hb : Nd.cnts l ≤ 16777216) : ∀ (k i : Nat),l.length - i < k → i ≤ l.length → zBz l k (i : Int) (l.take i) = some l
 | 0,i,h,_=>by omega
 | k + 1,i,h,hi=>by
  have hlen:=Nd.cnts_len l;unfold zBz
  by_cases hj : i < l.length
  ·have hm:=Nd.cnts_mem (List.getElem_mem hj)
   have hd : zBc l[i] = some l[i]:=zGS (by omega)
   have ht : l.take i ++ [l[i]] = l.take (i + 1) :=(by rw [List.take_append_getElem hj]);rw [zBg (Int.ofNat_lt.2 hj),cond_true,zBx hj]
   have ih:=zL5 hb k (i + 1) (by omega) (by omega)
   rw [← ht] at ih;generalize l[i] = v at *;obtain ⟨v1,v2,v3,v4⟩:=v;simp only [Option.bind_some,hd]
   rw [zCg (by simp only [List.length_take,List.length_cons,List.length_nil]; omega),zAX (show i < 9223372036854775807 by omega),ih]
  ·rw [zBf (by omega),cond_false,List.take_of_length_le (by omega)]
theorem zPF (n : Nat) (o : Op8) (hn : Nd.cnts o.nodes < n) (hb : Nd.cnts o.nodes ≤ 16777216) (hr : o.row.length ≤ 16777216) : zDo n o = some o:=by
 obtain ⟨k,row,a,m,nodes,slot,old,text⟩:=o;simp only [Op8.nodes,Op8.row] at hn hb hr;have hlen:=Nd.cnts_len nodes;have h1 : zBJ row = some row:=zCg (by omega)
 have h2:=zL5 hb n 0 (by omega) (by omega)
 rw [show ((0 : Nat) : Int) = 0 from rfl,List.take_zero] at h2;unfold zDo zDn zEV;simp only [h1,h2,Option.bind_some]
theorem zRo (n : Nat) (o : Op8) (l : List Op8) (hn : Nd.cnts o.nodes < n) (hb : Nd.cnts o.nodes ≤ 16777216) (hr : o.row.length ≤ 16777216) (hl : l.length ≤ 4000000) : zCO n o l = some (l ++ [o]):=by
 have h:=zPF n o hn hb hr;obtain ⟨k,row,a,m,nodes,slot,old,text⟩:=o;unfold zCO;simp only [h,Option.bind_some]
 rw [zCg (by rw [List.length_cons,List.length_nil]; omega)]
theorem zPt (n : Nat) (a b : List Nd) (h : 4 * Nd.ws a + 4 * Nd.ws b + 200 < n) (ha : Nd.ws a ≤ 15999999) (hb : Nd.ws b ≤ 15999999) (ca : Nd.cnts a ≤ 900) (cb : Nd.cnts b ≤ 900) (ra : (rowK a).rng) (rb : (rowK b).rng) : zD7 n a b = some ((zJL a b).map zCK):=by
 have k1:=Nd.cnts_ws a;have k2:=Nd.cnts_ws b;have l1:=Nd.cnts_len a;have l2:=Nd.cnts_len b;have e2:=(zTP n).2 a b (by omega) (by omega) (by omega)
 have e3:=zHY n (a:=a) (b:=b) (by omega) (by omega) (fun x hx=>by have:=Nd.w_mem hx; exact ⟨by omega,by omega,zLd ra (t:=rowK a) hx⟩) (fun x hx=>by have:=Nd.w_mem hx; exact ⟨by omega,by omega,zLd rb (t:=rowK b) hx⟩) n 0 0 [] (by omega) (by omega) (by omega) (by simp)
 rw [show ((0 : Nat) : Int) = 0 from rfl,List.drop_zero,List.drop_zero,List.nil_append] at e3;have hf : zB0 n 0 0 a b = zJL a b:=zGQ _ _ _ _ _ _ (by omega) (by omega)
 rw [hf] at e3;unfold zD7;simp only [e2,e3,Option.bind_some]
structure Rest (a b : List Nd) (L : List (Nat × Nat)) : Prop where
 inn : ∀ u ∈ L,∃ x y,a[u.1]? = some x ∧ b[u.2]? = some y ∧ zDe x y = true
 sorted : L.Pairwise fun u v=>u.1 < v.1 ∧ u.2 < v.2
theorem zNG (a b : List Nd) : Rest a b (zJL a b):=by
 refine ⟨fun u hu=>?_,zFb _ _ _ _ _⟩
 obtain ⟨s,t,x,y,rfl,h1,h2,h3⟩:=zGs _ _ _ _ _ u hu;exact ⟨x,y,by simpa using h1,by simpa using h2,h3⟩
abbrev zTi:=List Nd → List Nd → List Int → List Op8 → Option (List Op8)
theorem zP1 (N : Nat) (p : List Int) (j : Nat) (xk yk : List Nd) (F : zTi) (G : RowO) (hN : 5 < N) (hp : p.length ≤ 1000000) (hl : xk.length = yk.length) (hb : yk.length ≤ 4000000)
  (hF : ∀ (s : Nat) (u v : Nd) (o : List Op8),xk[s]? = some u → yk[s]? = some v → o.length + (G (p ++ [(j : Int),(s : Int)]) u.kids v.kids).length ≤ 4000000 → F u.kids v.kids (p ++ [(j : Int),(s : Int)]) o = some (o ++ G (p ++ [(j : Int),(s : Int)]) u.kids v.kids)) :
  ∀ (k s : Nat) (o : List Op8),yk.length - s < k → s ≤ yk.length → o.length + (zCr G p j s (xk.drop s) (yk.drop s)).length ≤ 4000000 →
   zBl F N p (j : Int) yk xk k (s : Int) o = some (o ++ zCr G p j s (xk.drop s) (yk.drop s))
 | 0,s,o,h,_,_=>by omega
 | k + 1,s,o,h,hs,ho=>by
  unfold zBl
  by_cases hj : s < yk.length
  ·have g1 : xk[s]? = some (xk[s]'(by omega)):=List.getElem?_eq_getElem (by omega)
   have g2 : yk[s]? = some yk[s]:=List.getElem?_eq_getElem hj;generalize xk[s]'(by omega) = u at *;generalize yk[s] = v at *;rw [zLb g1,zLb g2] at ho ⊢;simp only [zCr,List.length_append] at ho;have e1:=hF s u v o g1 g2 (by omega)
   rw [zBg (Int.ofNat_lt.2 hj),cond_true,zRh g1,zRh g2]
   have ih:=zP1 N p j xk yk F G hN hp hl hb hF k (s + 1) (o ++ G (p ++ [(j : Int),(s : Int)]) u.kids v.kids) (by omega) (by omega) (by rw [List.length_append]; omega)
   obtain ⟨u1,u2,u3,u4⟩:=u;obtain ⟨v1,v2,v3,v4⟩:=v;simp only [Nd.kids] at e1 ih;simp only [Option.bind_some]
   rw [zNm N p j s hN hp]
   simp only [Option.bind_some,e1]
   rw [zAX (by omega),ih]
   simp only [zCr,Nd.kids,List.append_assoc]
  ·rw [zBf (by omega),cond_false,List.drop_of_length_le (by omega),List.drop_of_length_le (by omega)]
   simp only [zCr,List.append_nil]
theorem zJX {o : Op8} {x : Nd} {p : List Int} {j : Nat} : (zFT p j x).nodes = [x] ∧ (zGw p j x).nodes = [x]:=⟨rfl,rfl⟩
theorem zOq (N : Nat) (p : List Int) (a b : List Nd) (F : zTi) (G : RowO) (hN : 1000 < N) (hp : p.length ≤ 1000000) (hca : Nd.cnts a ≤ 900) (hcb : Nd.cnts b ≤ 900)
  (hF : ∀ x ∈ a,∀ y ∈ b,∀ (j s : Nat) (u v : Nd) (o : List Op8),x.kids[s]? = some u → y.kids[s]? = some v → o.length + (G (p ++ [(j : Int),(s : Int)]) u.kids v.kids).length ≤ 4000000 → F u.kids v.kids (p ++ [(j : Int),(s : Int)]) o = some (o ++ G (p ++ [(j : Int),(s : Int)]) u.kids v.kids)) :
  ∀ (k j : Nat) (S : List (Nat × Nat)) (o : List Op8),b.length - j < k → j ≤ b.length → Rest a b S → (∀ u ∈ S,j ≤ u.2) → o.length + ((List.range' j (b.length - j)).flatMap (chgF G p a b S)).length ≤ 4000000 →
   zBk F N a b p k (j : Int) (S.map zCK) o = some (o ++ (List.range' j (b.length - j)).flatMap (chgF G p a b S))
 | 0,j,S,o,h,_,_,_,_=>by omega
 | k + 1,j,S,o,h,hjb,hR,hS,ho=>by
  have lb:=Nd.cnts_len b;unfold zBk
  by_cases hj : j < b.length
  ·have g2 : b[j]? = some b[j]:=List.getElem?_eq_getElem hj;have hd : b.getD j noN = b[j] :=(by rw [List.getD_eq_getElem?_getD,g2]; rfl);generalize b[j] = y at *;have my:=List.mem_of_getElem? g2;have cy:=Nd.cnts_mem my;rw [zBg (Int.ofNat_lt.2 hj),cond_true,zRh g2]
   have er : b.length - j = (b.length - (j + 1)) + 1 :=(by omega);rw [er,List.range'_succ,List.flatMap_cons] at ho ⊢;rw [List.length_append] at ho;have none_case : (bif (((S.map zCK).length : Int) == 0) then some true else (at? (S.map zCK) 0).bind fun e=>some (e.2 != (j : Int)) : Option Bool) = some true → parB S j = none →
     (∀ j',j ≤ j' → True) → (∀ u ∈ S,j + 1 ≤ u.2) → True:=fun _ _ _ _=>trivial
   clear none_case
   by_cases hmt : ∃ i S',S = (i,j) :: S'
   ·obtain ⟨i,S',rfl⟩:=hmt;obtain ⟨x,y',gx,gy,hal⟩:=hR.inn _ List.mem_cons_self;dsimp only at gx gy;obtain rfl : y = y':=Option.some.inj (g2.symm.trans gy)
    have mx:=List.mem_of_getElem? gx;have cx:=Nd.cnts_mem mx;have hlen:=zLG hal;have kx:=x.cnt_kids;have lx:=Nd.cnts_len x.kids;have hda : a.getD i noN = x :=(by rw [List.getD_eq_getElem?_getD,gx]; rfl);have hpar : chgF G p a b ((i,j) :: S') j = setO p j x y ++ zCr G p j 0 x.kids y.kids:=by
     unfold chgF;rw [zJM,if_pos rfl]
     dsimp only;rw [hda,hd]
    have hsort:=List.pairwise_cons.1 hR.sorted;have hrest : ∀ q ∈ List.range' (j + 1) (b.length - (j + 1)),chgF G p a b ((i,j) :: S') q = chgF G p a b S' q:=fun q hq=>by
     have hq':=List.mem_range'_1.1 hq;unfold chgF;rw [zJM,if_neg (by dsimp only; omega)]
    rw [zJ5 hrest] at ho ⊢;rw [hpar] at ho ⊢;rw [List.length_append] at ho;have c0 : ((((i,j) :: S').map zCK).length : Int) = ((S'.length + 1 : Nat) : Int) :=(by simp);have a0 : at? (((i,j) :: S').map zCK) 0 = some ((i : Int),(j : Int)):=rfl;have hc : (bif (((((i,j) :: S').map zCK).length : Int) == 0) then some true else (at? (((i,j) :: S').map zCK) 0).bind fun e=>some (e.2 != (j : Int)) : Option Bool) = some false:=by
     rw [c0,zCi (by omega),cond_false,a0]
     simp
    have es1 : x.text = y.text → setO p j x y = []:=fun h=>if_pos h
    have es2 : x.text ≠ y.text → setO p j x y = [zIl p j x.text y.text]:=fun h=>if_neg h
    have ih:=zOq N p a b F G hN hp hca hcb hF k (j + 1) S' (o ++ (setO p j x y ++ zCr G p j 0 x.kids y.kids)) (by omega) (by omega) ⟨fun u hu=>hR.inn u (List.mem_cons_of_mem _ hu),hsort.2⟩ (fun u hu=>(hsort.1 u hu).2) (by rw [List.length_append,List.length_append]; omega)
    have el:=zP1 N p j x.kids y.kids F G (by omega) hp hlen (by omega) (fun s u v o h1 h2 h3=>hF x mx y my j s u v o h1 h2 h3) N 0 (o ++ setO p j x y) (by omega) (Nat.zero_le _) (by rw [List.drop_zero,List.drop_zero,List.length_append]; omega)
    rw [show ((0 : Nat) : Int) = 0 from rfl,List.drop_zero,List.drop_zero] at el;have ee : x.text ≠ y.text → zCO N (zIl p j x.text y.text) o = some (o ++ [zIl p j x.text y.text]):=fun _=>zRo N _ o (by show Nd.cnts [] < N; simp only [Nd.cnts]; omega) (by show Nd.cnts [] ≤ _; simp only [Nd.cnts]; omega) (by show p.length ≤ _; omega) (by omega)
    have at2:=zRh gx;have htk : ((((i,j) :: S').map zCK).take ((((i,j) :: S').map zCK).length : Int).toNat).drop (1 : Int).toNat = S'.map zCK:=by
     rw [Int.toNat_natCast,List.take_length]; rfl
    obtain ⟨x1,x2,x3,x4⟩:=x;obtain ⟨y1,y2,y3,y4⟩:=y;simp only [Nd.text,Nd.kids] at ee el es1 es2 ih;simp only [Option.bind_some,a0] at hc ⊢;rw [hc]
    simp only [Option.bind_some,cond_false,at2]
    rw [zCg (by rw [c0]; omega),htk]
    by_cases ht : x2 = y2
    ·rw [es1 ht,List.append_nil] at el;rw [es1 ht,List.nil_append] at ih;rw [show (x2 == y2) = true from beq_iff_eq.2 ht]
     simp only [Bool.not_true,cond_false,Option.bind_some,el]
     rw [zAX (by omega),ih,es1 ht,List.nil_append,List.append_assoc]
     rfl
    ·rw [es2 ht] at el ih;rw [show (x2 == y2) = false from beq_eq_false_iff_ne.2 ht]
     simp only [Bool.not_false,cond_true,Option.bind_some]
     have ee':=ee ht;unfold zIl at ee';rw [ee']
     simp only [Option.bind_some]
     unfold zIl at el;rw [el]
     simp only [Option.bind_some]
     unfold zIl at ih;rw [zAX (by omega)]
     simp only [List.append_assoc] at ih ⊢;rw [ih,es2 ht]
     rfl
   ·have hout : ∀ u ∈ S,j + 1 ≤ u.2:=fun u hu=>by
     cases S with
     | nil=>cases hu
     | cons v S' =>
      have hv:=hS v List.mem_cons_self;have hne : v.2 ≠ j:=fun e=>hmt ⟨v.1,S',by rw [← e]⟩
      rcases List.mem_cons.1 hu with rfl | hu
      ·omega
      ·have:=(List.pairwise_cons.1 hR.sorted).1 u hu
       omega
    have hpar : chgF G p a b S j = [zFT p j y]:=by
     unfold chgF;rw [zOO fun u hu=>by have:=hout u hu; omega,hd]
    rw [hpar] at ho ⊢;have hc : (bif (((S.map zCK).length : Int) == 0) then some true else (at? (S.map zCK) 0).bind fun e=>some (e.2 != (j : Int)) : Option Bool) = some true:=by
     cases S with
     | nil=>rfl
     | cons v S' =>
      have hv:=hout v List.mem_cons_self;have c0 : (((v :: S').map zCK).length : Int) = ((S'.length + 1 : Nat) : Int) :=(by simp);have a0 : at? ((v :: S').map zCK) 0 = some (zCK v):=rfl;rw [c0,zCi (by omega),cond_false,a0]
      simp only [Option.bind_some,zCK]
      congr 1
      exact bne_iff_ne.2 (by omega)
    have ih:=zOq N p a b F G hN hp hca hcb hF k (j + 1) S (o ++ [zFT p j y]) (by omega) (by omega) hR hout (by rw [List.length_append]; omega)
    have ee:=zRo N (zFT p j y) o (by rw [(zJX (o:=zFT p j y)).1]; simp only [Nd.cnts]; omega) (by rw [(zJX (o:=zFT p j y)).1]; simp only [Nd.cnts]; omega) (by show p.length ≤ _; omega) (by omega)
    obtain ⟨y1,y2,y3,y4⟩:=y;unfold zFT at ee;simp only [Option.bind_some]
    rw [hc]
    simp only [Option.bind_some,cond_true,ee]
    unfold zFT at ih;rw [zAX (by omega),ih]
    unfold zFT;simp only [List.append_assoc]
  ·rw [zBf (by omega),cond_false,show b.length - j = 0 by omega]
   simp
end Go.Proofs.YtjdhkpdjecegnaaGreatDoor
namespace Go.Proofs.YtjdhkpdjecegnaaGreatDoor
open Go.Abs
theorem zUh {L : List (Nat × Nat)} (hs : L.Pairwise fun u v=>u.1 < v.1 ∧ u.2 < v.2) {i q : Nat} (h : (i,q) ∈ L) : parK L i = some q:=by
 induction L with
 | nil=>cases h
 | cons u L ih =>
  obtain ⟨h1,h2⟩:=List.pairwise_cons.1 hs;rw [zMe]
  rcases List.mem_cons.1 h with rfl | h
  ·rw [if_pos rfl]
  ·rw [if_neg (by have:=h1 _ h; dsimp only at this; omega)]
   exact ih h2 h
theorem zPI (N : Nat) (p : List Int) (j : Nat) (xk yk : List Nd) (F : zTi) (G : RowO) (hN : 5 < N) (hp : p.length ≤ 1000000) (hl : xk.length = yk.length)
  (hF : ∀ (s : Nat) (u v : Nd) (o : List Op8),xk[s]? = some u → yk[s]? = some v → o.length + (G (p ++ [(j : Int),(s : Int)]) u.kids v.kids).length ≤ 4000000 → F u.kids v.kids (p ++ [(j : Int),(s : Int)]) o = some (o ++ G (p ++ [(j : Int),(s : Int)]) u.kids v.kids)) (o : List Op8) :
  ∀ (i : Nat),i ≤ xk.length → o.length + (zCs G p j (xk.length - i) (xk.drop (xk.length - i)) (yk.drop (xk.length - i))).length ≤ 4000000 →
   zBC F N xk yk p (j : Int) o i = some (o ++ zCs G p j (xk.length - i) (xk.drop (xk.length - i)) (yk.drop (xk.length - i)))
 | 0,_,_=>by
  unfold zBC;rw [Nat.sub_zero,List.drop_length]
  simp only [zCs,List.append_nil]
 | i + 1,hi,ho=>by
  unfold zBC;have e : xk.length - i = (xk.length - (i + 1)) + 1 :=(by omega);have e2 : xk.length - 1 - i = xk.length - (i + 1) :=(by omega);have hs : xk.length - (i + 1) < xk.length :=(by omega);have ih:=zPI N p j xk yk F G hN hp hl hF o i (by omega)
  rw [e] at ih;rw [e2]
  generalize xk.length - (i + 1) = s at *;have g1 : xk[s]? = some xk[s]:=List.getElem?_eq_getElem hs;have g2 : yk[s]? = some (yk[s]'(by omega)):=List.getElem?_eq_getElem (by omega)
  generalize xk[s] = u at *;generalize yk[s]'(by omega) = v at *;rw [zLb g1,zLb g2] at ho ⊢;simp only [zCs,List.length_append] at ho;rw [ih (by omega)]
  have e1:=hF s u v (o ++ zCs G p j (s + 1) (xk.drop (s + 1)) (yk.drop (s + 1))) g1 g2 (by rw [List.length_append]; omega)
  rw [zRh g1,zRh g2]
  obtain ⟨u1,u2,u3,u4⟩:=u;obtain ⟨v1,v2,v3,v4⟩:=v;simp only [Nd.kids] at e1;simp only [Option.bind_some]
  rw [zNm N p j s hN hp]
  simp only [Option.bind_some,e1]
  simp only [zCs,Nd.kids,List.append_assoc]
theorem zP9 (P : List (Nat × Nat)) (u : Nat × Nat) (hl : P.length ≤ 4000000) : IntKind.i64.wrap ((((P ++ [u]).map zCK).length : Int) - 1) = (P.length : Int) ∧ at? ((P ++ [u]).map zCK) (P.length : Int) = some (zCK u) ∧ ((P ++ [u]).map zCK).take (P.length : Int).toNat = P.map zCK:=by
 have h1 : (((P ++ [u]).map zCK).length : Int) - 1 = (P.length : Int) :=(by simp);refine ⟨by rw [h1,wrap64_in (by omega) (by omega)],?_,?_⟩
 ·unfold at?
  rw [if_pos (by omega),Int.toNat_natCast]
  simp
 ·rw [Int.toNat_natCast]
  simp
theorem zV9 (N : Nat) (p : List Int) (a b : List Nd) (L P : List (Nat × Nat)) (F : zTi) (G : RowO) (hN : 1000 < N) (hp : p.length ≤ 1000000) (hca : Nd.cnts a ≤ 900) (hcb : Nd.cnts b ≤ 900)
  (hF : ∀ x ∈ a,∀ y ∈ b,∀ (j s : Nat) (u v : Nd) (o : List Op8),x.kids[s]? = some u → y.kids[s]? = some v → o.length + (G (p ++ [(j : Int),(s : Int)]) u.kids v.kids).length ≤ 4000000 → F u.kids v.kids (p ++ [(j : Int),(s : Int)]) o = some (o ++ G (p ++ [(j : Int),(s : Int)]) u.kids v.kids))
  (hR : Rest a b L) (hP : P <+: L) (j : Nat) (hPj : ∀ u ∈ P,u.1 < j + 1) (hQ : ∀ u ∈ L,u ∉ P → j < u.1) (x : Nd) (gx : a[j]? = some x) (o : List Op8) (ho : o.length + (delF G p a b L j).length ≤ 4000000) :
  ∃ P',P' <+: L ∧ (∀ u ∈ P',u.1 < j) ∧ (∀ u ∈ L,u ∉ P' → j ≤ u.1) ∧ zBQ F N b p (j : Int) x (P.map zCK) o = some (P'.map zCK,o ++ delF G p a b L j):=by
 have lb:=Nd.cnts_len b;have la:=Nd.cnts_len a;have mx:=List.mem_of_getElem? gx;have cx:=Nd.cnts_mem mx;have kx:=x.cnt_kids;have lx:=Nd.cnts_len x.kids;have hda : a.getD j noN = x :=(by rw [List.getD_eq_getElem?_getD,gx]; rfl);have hPs : P.Pairwise fun u v=>u.1 < v.1 ∧ u.2 < v.2:=List.Pairwise.sublist hP.sublist hR.sorted
 by_cases hmt : ∃ P' q,P = P' ++ [(j,q)]
 ·obtain ⟨P',q,rfl⟩:=hmt;have hmem : (j,q) ∈ L:=hP.subset (by simp)
  obtain ⟨x',y,gx',gy,hal⟩:=hR.inn _ hmem;dsimp only at gx' gy;obtain rfl : x = x':=Option.some.inj (gx.symm.trans gx')
  have my:=List.mem_of_getElem? gy;have hdb : b.getD q noN = y :=(by rw [List.getD_eq_getElem?_getD,gy]; rfl);have hsp:=List.pairwise_append.1 hPs;have hlt : ∀ u ∈ P',u.1 < j:=fun u hu=>(hsp.2.2 u hu _ (List.mem_singleton.2 rfl)).1
  have hdel : delF G p a b L j = zCs G p j 0 x.kids y.kids:=by
   unfold delF;rw [zUh hR.sorted hmem]
   dsimp only;rw [hda,hdb]
  rw [hdel] at ho ⊢;have hlen : P'.length ≤ 4000000:=by
   have:=hP.length_le;have h2 : L.length ≤ a.length:=by
    have hs:=hR.sorted;have hin:=hR.inn
    clear hmem hPs hsp hdel hQ hPj hP
    have key : ∀ (n : Nat) (l : List (Nat × Nat)),(l.Pairwise fun u v=>u.1 < v.1 ∧ u.2 < v.2) → (∀ u ∈ l,n ≤ u.1 ∧ u.1 < a.length) → l.length ≤ a.length - n:=by
     intro n l
     induction l generalizing n with
     | nil=>intro _ _; exact Nat.zero_le _
     | cons u l ih =>
      intro h1 h2;obtain ⟨h3,h4⟩:=List.pairwise_cons.1 h1;have:=ih (u.1 + 1) h4 fun w hw=>⟨(h3 w hw).1,(h2 w (List.mem_cons_of_mem _ hw)).2⟩
      have:=h2 u List.mem_cons_self;simp only [List.length_cons]
      omega
    have:=key 0 L hs fun u hu=>by
     obtain ⟨x,y,h1,_,_⟩:=hin u hu;exact ⟨Nat.zero_le _,(List.getElem?_eq_some_iff.1 h1).1⟩
    omega
   simp only [List.length_append,List.length_cons,List.length_nil] at this
   omega
  obtain ⟨w1,w2,w3⟩:=zP9 P' (j,q) hlen;refine ⟨P',(List.prefix_append P' [(j,q)]).trans hP,hlt,fun u hu hn=>?_,?_⟩
  ·by_cases hu2 : u ∈ P' ++ [(j,q)]
   ·rcases List.mem_append.1 hu2 with h | h
    ·exact absurd h hn
    ·rw [List.mem_singleton.1 h]; exact Nat.le_refl _
   ·exact Nat.le_of_lt (hQ u hu hu2)
  have hl0 : ((((P' ++ [(j,q)]).map zCK).length : Int) == 0) = false:=zCi (by simp; omega)
  have hc : (bif ((((P' ++ [(j,q)]).map zCK).length : Int) == 0) then some true else (at? ((P' ++ [(j,q)]).map zCK) (IntKind.i64.wrap ((((P' ++ [(j,q)]).map zCK).length : Int) - 1))).bind fun e=>some (e.1 != (j : Int)) : Option Bool) = some false:=by
   rw [hl0,cond_false,w1,w2]
   simp [zCK]
  have el:=zPI N p j x.kids y.kids F G (by omega) hp (zLG hal) (fun s u v o h1 h2 h3=>hF x mx y my j s u v o h1 h2 h3) o x.kids.length (Nat.le_refl _) (by rw [Nat.sub_self,List.drop_zero,List.drop_zero]; exact ho)
  rw [Nat.sub_self,List.drop_zero,List.drop_zero] at el;have at2:=zRh gy;have hw : (P'.length : Int) ≤ (((P' ++ [(j,q)]).map zCK).length : Int) :=(by simp; omega);obtain ⟨x1,x2,x3,x4⟩:=x;obtain ⟨y1,y2,y3,y4⟩:=y;unfold zBQ;simp only [Nd.kids] at el lx kx ⊢;rw [hc]
  simp only [Option.bind_some,cond_false]
  rw [w1,w2]
  simp only [Option.bind_some,zCK,at2]
  rw [zCg ⟨by omega,hw,by omega⟩,el]
  simp only [Option.bind_some]
  rw [w3]
 ·have hout : ∀ u ∈ P,u.1 < j:=by
   intro u hu;rcases List.eq_nil_or_concat P with rfl | ⟨P',v,rfl⟩
   ·cases hu
   ·have hne : v.1 ≠ j:=fun e=>hmt ⟨P',v.2,by rw [← e]; simp⟩
    have hv:=hPj v (by simp)
    rw [List.concat_eq_append] at hu hPs;rcases List.mem_append.1 hu with h | h
    ·have:=((List.pairwise_append.1 hPs).2.2 u h v (List.mem_singleton.2 rfl)).1
     omega
    ·rw [List.mem_singleton.1 h]; omega
  have hnone : parK L j = none:=zOP fun u hu=>by
   by_cases h : u ∈ P
   ·have:=hout u h; omega
   ·have:=hQ u hu h; omega
  have hdel : delF G p a b L j = [zGw p j x]:=by
   unfold delF;rw [hnone]
   dsimp only;rw [hda]
  rw [hdel] at ho ⊢;refine ⟨P,hP,hout,fun u hu hn=>Nat.le_of_lt (hQ u hu hn),?_⟩
  have hlen : P.length ≤ 4000000:=by
   have h2 : ∀ (n : Nat) (l : List (Nat × Nat)),(l.Pairwise fun u v=>u.1 < v.1 ∧ u.2 < v.2) → (∀ u ∈ l,n ≤ u.1 ∧ u.1 < j) → l.length ≤ j - n:=by
    intro n l
    induction l generalizing n with
    | nil=>intro _ _; exact Nat.zero_le _
    | cons u l ih =>
     intro h1 h2;obtain ⟨h3,h4⟩:=List.pairwise_cons.1 h1;have:=ih (u.1 + 1) h4 fun w hw=>⟨(h3 w hw).1,(h2 w (List.mem_cons_of_mem _ hw)).2⟩
     have:=h2 u List.mem_cons_self;simp only [List.length_cons]
     omega
   have:=h2 0 P hPs fun u hu=>⟨Nat.zero_le _,hout u hu⟩
   have:=(List.getElem?_eq_some_iff.1 gx).1
   omega
  have hc : (bif (((P.map zCK).length : Int) == 0) then some true else (at? (P.map zCK) (IntKind.i64.wrap (((P.map zCK).length : Int) - 1))).bind fun e=>some (e.1 != (j : Int)) : Option Bool) = some true:=by
   rcases List.eq_nil_or_concat P with rfl | ⟨P',v,rfl⟩
   ·rfl
   ·rw [List.concat_eq_append] at hlen hout ⊢;obtain ⟨w1,w2,w3⟩:=zP9 P' v (by simp only [List.length_append,List.length_cons,List.length_nil] at hlen; omega)
    rw [w1,w2,zCi (by simp; omega),cond_false]
    have:=hout v (by simp)
    simp only [Option.bind_some,zCK]
    congr 1
    exact bne_iff_ne.2 (by omega)
  have ee:=zRo N (zGw p j x) o (by rw [(zJX (o:=zGw p j x) (x:=x)).2]; simp only [Nd.cnts]; omega) (by rw [(zJX (o:=zGw p j x) (x:=x)).2]; simp only [Nd.cnts]; omega) (by show p.length ≤ _; omega) (by omega)
  obtain ⟨x1,x2,x3,x4⟩:=x;unfold zGw at ee;unfold zBQ;dsimp only;rw [hc]
  simp only [Option.bind_some,cond_true,ee]
  rfl
theorem zPG (N : Nat) (p : List Int) (a b : List Nd) (L : List (Nat × Nat)) (F : zTi) (G : RowO) (hN : 1000 < N) (hp : p.length ≤ 1000000) (hca : Nd.cnts a ≤ 900) (hcb : Nd.cnts b ≤ 900)
  (hF : ∀ x ∈ a,∀ y ∈ b,∀ (j s : Nat) (u v : Nd) (o : List Op8),x.kids[s]? = some u → y.kids[s]? = some v → o.length + (G (p ++ [(j : Int),(s : Int)]) u.kids v.kids).length ≤ 4000000 → F u.kids v.kids (p ++ [(j : Int),(s : Int)]) o = some (o ++ G (p ++ [(j : Int),(s : Int)]) u.kids v.kids))
  (hR : Rest a b L) (o : List Op8) : ∀ (i : Nat),i ≤ a.length → o.length + ((List.range' (a.length - i) i).reverse.flatMap (delF G p a b L)).length ≤ 4000000 →
   ∃ P,P <+: L ∧ (∀ u ∈ P,u.1 < a.length - i) ∧ (∀ u ∈ L,u ∉ P → a.length - i ≤ u.1) ∧ zBB F N a b p (L.map zCK) o i = some (P.map zCK,o ++ (List.range' (a.length - i) i).reverse.flatMap (delF G p a b L))
 | 0,_,_=>by
  refine ⟨L,List.prefix_refl _,fun u hu=>?_,fun u hu hn=>absurd hu hn,?_⟩
  ·obtain ⟨x,y,h1,_,_⟩:=hR.inn u hu;exact (List.getElem?_eq_some_iff.1 h1).1
  ·unfold zBB;simp
 | i + 1,hi,ho=>by
  have e : a.length - i = (a.length - (i + 1)) + 1 :=(by omega);have e2 : a.length - 1 - i = a.length - (i + 1) :=(by omega);have hj : a.length - (i + 1) < a.length :=(by omega);have ih:=zPG N p a b L F G hN hp hca hcb hF hR o i (by omega)
  rw [zLg] at ho ⊢;unfold zBB;rw [e2]
  rw [e] at ih;generalize a.length - (i + 1) = j at *;rw [List.length_append] at ho;obtain ⟨P,h1,h2,h3,h4⟩:=ih (by omega)
  have gx : a[j]? = some a[j]:=List.getElem?_eq_getElem hj;obtain ⟨P',g1,g2,g3,g4⟩:=zV9 N p a b L P F G hN hp hca hcb hF hR h1 j h2 (fun u hu hn=>by have:=h3 u hu hn; omega) _ gx (o ++ (List.range' (j + 1) i).reverse.flatMap (delF G p a b L)) (by rw [List.length_append]; omega)
  refine ⟨P',g1,g2,g3,?_⟩
  rw [h4]
  simp only [Option.bind_some]
  rw [gx,Option.bind_some,g4]
  simp only [List.append_assoc]
end Go.Proofs.YtjdhkpdjecegnaaGreatDoor
namespace Go.Proofs.YtjdhkpdjecegnaaGreatDoor
open Go.Abs
theorem zTt (K : Nat) (p : List Int) (a b : List Nd) : 4 * (zC4 K p a b).length ≤ 5 * Nd.ws b:=Nat.le_trans (zSz _) (zMw K p a b)
theorem zTF (K : Nat) (p : List Int) (a b : List Nd) : 4 * (zCN K p a b).length ≤ 5 * Nd.ws a:=Nat.le_trans (zSz _) (zMx K p a b)
theorem zJU {a : List Nd} {x u : Nd} {s : Nat} (hx : x ∈ a) (hu : x.kids[s]? = some u) : Nd.cnts u.kids + 2 ≤ Nd.cnts a ∧ Nd.ws u.kids + 2 ≤ Nd.ws a ∧ u ∈ x.kids:=by
 have h:=List.mem_of_getElem? hu;have h1:=zJ7 hx h;have h2:=Nd.w_mem hx;have h3:=Nd.w_mem h;have e1:=x.w_eq;have e2:=u.w_eq;exact ⟨h1,by omega,h⟩
theorem ins_eq : ∀ (K n : Nat) (p : List Int) (a b : List Nd) (o : List Op8),Nd.cnts a < K → 4 * Nd.ws a + 4 * Nd.ws b + 1300 < n → p.length + Nd.cnts a ≤ 900000 → okR a → okR b → Nd.cnts a ≤ 900 → Nd.cnts b ≤ 900 → Nd.ws a ≤ 15999999 → Nd.ws b ≤ 15999999 → o.length + (zC4 K p a b).length ≤ 4000000 →
  zA3 n a b p o = some (o ++ zC4 K p a b)
 | 0,_,_,_,_,_,h,_,_,_,_,_,_,_,_,_=>by omega
 | _ + 1,0,_,_,_,_,_,h,_,_,_,_,_,_,_,_=>by omega
 | K + 1,n + 1,p,a,b,o,hK,hn,hp,oa,ob,ca,cb,wa,wb,ho=>by
  have hbw:=Nd.cnts_ws b;have lb:=Nd.cnts_len b;have e1:=zPt n a b (by omega) wa wb ca cb oa.2 ob.2;rw [zPB] at ho ⊢;have e2:=zOq n p a b (zA3 n) (zC4 K) (by omega) (by omega) ca cb (fun x mx y my j s u v o' gu gv ho'=>by
   obtain ⟨s1,s2,s3⟩:=zJU mx gu;obtain ⟨t1,t2,t3⟩:=zJU my gv;exact ins_eq K n (p ++ [(j : Int),(s : Int)]) u.kids v.kids o' (by omega) (by omega) (by simp only [List.length_append,List.length_cons,List.length_nil]; omega) (oa.sub mx s3).1 (ob.sub my t3).1 (by omega) (by omega) (by omega) (by omega) ho') n 0 (zJL a b) o (by omega) (Nat.zero_le _) (zNG a b) (fun _ _=>Nat.zero_le _) (by rw [Nat.sub_zero]; exact ho)
  rw [show ((0 : Nat) : Int) = 0 from rfl,Nat.sub_zero] at e2;unfold zA3;rw [e1,Option.bind_some,e2]
  rfl
theorem del_eq : ∀ (K n : Nat) (p : List Int) (a b : List Nd) (o : List Op8),Nd.cnts a < K → 4 * Nd.ws a + 4 * Nd.ws b + 1300 < n → p.length + Nd.cnts a ≤ 900000 → okR a → okR b → Nd.cnts a ≤ 900 → Nd.cnts b ≤ 900 → Nd.ws a ≤ 15999999 → Nd.ws b ≤ 15999999 → o.length + (zCN K p a b).length ≤ 4000000 →
  zBT n a b p o = some (o ++ zCN K p a b)
 | 0,_,_,_,_,_,h,_,_,_,_,_,_,_,_,_=>by omega
 | _ + 1,0,_,_,_,_,_,h,_,_,_,_,_,_,_,_=>by omega
 | K + 1,n + 1,p,a,b,o,hK,hn,hp,oa,ob,ca,cb,wa,wb,ho=>by
  have la:=Nd.cnts_len a;have e1:=zPt n a b (by omega) wa wb ca cb oa.2 ob.2;rw [zPH] at ho ⊢;obtain ⟨P,_,_,_,e2⟩:=zPG n p a b (zJL a b) (zBT n) (zCN K) (by omega) (by omega) ca cb (fun x mx y my j s u v o' gu gv ho'=>by
   obtain ⟨s1,s2,s3⟩:=zJU mx gu;obtain ⟨t1,t2,t3⟩:=zJU my gv;exact del_eq K n (p ++ [(j : Int),(s : Int)]) u.kids v.kids o' (by omega) (by omega) (by simp only [List.length_append,List.length_cons,List.length_nil]; omega) (oa.sub mx s3).1 (ob.sub my t3).1 (by omega) (by omega) (by omega) (by omega) ho') (zNG a b) o a.length (Nat.le_refl _) (by rw [Nat.sub_self]; exact ho)
  rw [Nat.sub_self] at e2;unfold zBT;rw [e1,Option.bind_some,zCg (by omega),e2]
  rfl
theorem zWF (n : Nat) (a b : Nd) (h : 4 * a.w + 4 * b.w + 1400 < n) (ha : a.w ≤ 1048576) (hb : b.w ≤ 1048576) (ca : a.cnt ≤ 120) (cb : b.cnt ≤ 120) (ra : a.rng) (rb : b.rng) :
  zEE n a b = some (bif zAL a && zAL b then (opsK a b,0) else ([],1)):=by
 have e1:=zOk n a b (by omega) (by omega) (by omega) (by omega)
 have k1:=a.cnt_kids;have k2:=b.cnt_kids;have w1:=a.w_eq;have w2:=b.w_eq;have l1:=zTF 130 [] a.kids b.kids;have l2:=zTt 130 [] a.kids b.kids;cases hva : zAL a with
 | false =>
  rw [hva] at e1;obtain ⟨a1,a2,a3,a4⟩:=a;obtain ⟨b1,b2,b3,b4⟩:=b;unfold zEE;simp only [e1,Option.bind_some,Bool.false_and,Bool.not_false,cond_true,cond_false]
 | true =>
  cases hvb : zAL b with
  | false =>
   rw [hva,hvb] at e1;obtain ⟨a1,a2,a3,a4⟩:=a;obtain ⟨b1,b2,b3,b4⟩:=b;unfold zEE;simp only [e1,Option.bind_some,Bool.and_false,Bool.not_false,cond_true,cond_false]
  | true =>
   have oa:=(zVQ hva ra).1;have ob:=(zVQ hvb rb).1;have e2:=del_eq 130 n [] a.kids b.kids [] (by omega) (by omega) (by simp only [List.length_nil]; omega) oa ob (by omega) (by omega) (by omega) (by omega) (by simp only [List.length_nil]; omega)
   have e3:=ins_eq 130 n [] a.kids b.kids (zCN 130 [] a.kids b.kids) (by omega) (by omega) (by simp only [List.length_nil]; omega) oa ob (by omega) (by omega) (by omega) (by omega) (by omega)
   rw [List.nil_append] at e2;rw [hva,hvb] at e1;unfold opsK;obtain ⟨a1,a2,a3,a4⟩:=a;obtain ⟨b1,b2,b3,b4⟩:=b;simp only [Nd.kids] at e2 e3 ⊢;unfold zEE;simp only [e1,e2,e3,Option.bind_some,Bool.and_self,Bool.not_true,cond_true,cond_false]
end Go.Proofs.YtjdhkpdjecegnaaGreatDoor
namespace Go.Proofs.YtjdhkpdjecegnaaGreatDoor
open Go.Abs
theorem zNA (n : Nat) {l : List Nd} (hb : Nd.cnts l ≤ 16777216) : ∀ (k i : Nat),l.length - i < k → i ≤ l.length → zBz l k (i : Int) (l.take i) = some l
 | 0,i,h,_=>by omega
 | k + 1,i,h,hi=>by
  have hlen:=Nd.cnts_len l;unfold zBz
  by_cases hj : i < l.length
  ·have hm:=Nd.cnts_mem (List.getElem_mem hj)
   have hd : zBc l[i] = some l[i]:=zGS (by omega)
   have ht : l.take i ++ [l[i]] = l.take (i + 1) :=(by rw [List.take_append_getElem hj]);rw [zBg (Int.ofNat_lt.2 hj),cond_true,zBx hj]
   have ih:=zNA n hb k (i + 1) (by omega) (by omega)
   rw [← ht] at ih;generalize l[i] = v at *;obtain ⟨v1,v2,v3,v4⟩:=v;simp only [Option.bind_some,hd]
   rw [zCg (by simp only [List.length_take,List.length_cons,List.length_nil]; omega),zAX (show i < 9223372036854775807 by omega),ih]
  ·rw [zBf (by omega),cond_false,List.take_of_length_le (by omega)]
theorem zTc (n : Nat) (o : Op8) (hn : Nd.cnts o.nodes < n) (hb : Nd.cnts o.nodes ≤ 16777216) (hr : o.row.length ≤ 16777216) : zBY n o = some (invO o):=by
 obtain ⟨k,row,a,m,nodes,slot,old,text⟩:=o;simp only [Op8.nodes,Op8.row] at hn hb hr;have hlen:=Nd.cnts_len nodes;have h1 : zBJ row = some row:=zCg (by omega)
 have h2:=zNA n hb n 0 (by omega) (by omega)
 rw [show ((0 : Nat) : Int) = 0 from rfl,List.take_zero] at h2;unfold zBY zDo zDn zEV;simp only [h1,h2,Option.bind_some]
 unfold invO;dsimp only
 by_cases k1 : k = 1
 ·subst k1; rfl
 by_cases k2 : k = 2
 ·subst k2; rfl
 by_cases k3 : k = 3
 ·subst k3; rfl
 by_cases k4 : k = 4
 ·subst k4; rfl
 by_cases k5 : k = 5
 ·subst k5; rfl
 rw [zCi k1,zCi k2,zCi k3,zCi k4,zCi k5,if_neg k1,if_neg k2,if_neg k3,if_neg k4,if_neg k5,if_neg k5]
 rfl
end Go.Proofs.YtjdhkpdjecegnaaGreatDoor
namespace Go.Proofs.YtjdhkpdjecegnaaGreatDoor
open Go.Abs
theorem zVv (l : List Op8) {i : Nat} (hi : i < l.length) : (l.map invO).reverse.take i ++ [invO l[l.length - 1 - i]] = (l.map invO).reverse.take (i + 1):=by
 have hlen : i < (l.map invO).reverse.length :=(by simpa using hi);rw [← List.take_append_getElem hlen]
 congr 2
 rw [List.getElem_reverse,List.getElem_map]
 congr 2
 simp only [List.length_map]
theorem zIn (n : Nat) {ops : List Op8} (ho : ∀ o ∈ ops,zBY n o = some (invO o)) (hl : ops.length ≤ 4294967296) : ∀ i,i ≤ ops.length → zBd n ops i = some ((ops.map invO).reverse.take i)
 | 0,_=>by rw [List.take_zero]; rfl
 | i + 1,hi=>by
  have hj : ops.length - 1 - i < ops.length :=(by omega);unfold zBd;rw [zIn n ho hl i (by omega),List.getElem?_eq_getElem hj]
  simp only [Option.bind_some,ho _ (List.getElem_mem hj)]
  rw [zCg (by simp only [List.length_take,List.length_reverse,List.length_map]; omega),zVv ops (by omega)]
theorem zO5 (n : Nat) {ops : List Op8} (ho : ∀ o ∈ ops,zBY n o = some (invO o)) (hl : ops.length ≤ 4294967296) : zBU n ops = some (ops.map invO).reverse:=by
 unfold zBU;dsimp only;rw [zCg hl,zIn n ho hl _ (Nat.le_refl _),List.take_of_length_le (by simp)]
theorem Runs.app {t u v : Nd} {a b : List Op8} {e : Int} (h : Runs t a u 0) (h2 : Runs u b v e) : Runs t (a ++ b) v e:=by
 generalize hz : (0 : Int) = z at h
 induction h with
 | nil t=>exact h2
 | stop h he=>exact absurd hz.symm he
 | next h hr ih=>exact .next h (ih h2 hz)
theorem Runs.back {t u : Nd} {ops : List Op8} (h : Runs t ops u 0) (hv : zAL t = true) : Runs u (ops.map invO).reverse t 0 ∧ zAL u = true:=by
 generalize hz : (0 : Int) = z at h
 induction h with
 | nil t=>exact ⟨.nil t,hv⟩
 | stop h he=>exact absurd hz.symm he
 | next h hr ih =>
  subst hz;obtain ⟨h1,h2⟩:=h.inv;obtain ⟨h3,h4⟩:=ih h2 rfl;rw [List.map_cons,List.reverse_cons]
  exact ⟨h3.app (.next h1 (.nil _)),h4⟩
end Go.Proofs.YtjdhkpdjecegnaaGreatDoor
namespace Go.Proofs.YtjdhkpdjecegnaaGreatDoor
open Go.Abs
def zV0 (o : Op8) : Prop:=o.1 = 1 ∨ o.1 = 2 ∨ o.1 = 5
theorem zR8 : ∀ (N : Nat) (p : List Int) (a b : List Nd),∀ o ∈ zCN N p a b,zV0 o
 | 0,_,_,_,_,h=>by cases h
 | N + 1,p,a,b,o,h=>by
  unfold zCN at h;rcases zRs (zI3 a b) _ h with ⟨x,h1,i,rfl⟩ | ⟨x,h1,y,_,u,h2,v,_,q,h3⟩
  ·exact .inr (.inl rfl)
  ·exact zR8 N q u.kids v.kids o h3
theorem zR6 : ∀ (N : Nat) (p : List Int) (a b : List Nd),∀ o ∈ zC4 N p a b,zV0 o
 | 0,_,_,_,_,h=>by cases h
 | N + 1,p,a,b,o,h=>by
  unfold zC4 at h;rcases zRr (zI3 a b) _ h with ⟨y,h1,j,rfl⟩ | ⟨x,_,y,h1,j,rfl⟩ | ⟨x,_,y,h1,u,_,v,h2,q,h3⟩
  ·exact .inl rfl
  ·exact .inr (.inr rfl)
  ·exact zR6 N q u.kids v.kids o h3
theorem zQB {a b : Nd} (wa : a.w ≤ 1048576) (wb : b.w ≤ 1048576) : (opsK a b).length ≤ 4000000 ∧ ∀ o ∈ opsK a b,Nd.cnts o.nodes ≤ 1048581 ∧ zV0 o:=by
 have w1:=a.w_eq;have w2:=b.w_eq;have l1:=zTF 130 [] a.kids b.kids;have l2:=zTt 130 [] a.kids b.kids;refine ⟨by unfold opsK; rw [List.length_append]; omega,fun o ho=>?_⟩
 unfold opsK at ho;have hc:=Nd.cnts_ws o.nodes;rcases List.mem_append.1 ho with ho | ho
 ·have h1:=zRn _ _ _ _ o ho;unfold opw at h1;exact ⟨by omega,zR8 _ _ _ _ o ho⟩
 ·have h1:=zRl _ _ _ _ o ho;unfold opw at h1;exact ⟨by omega,zR6 _ _ _ _ o ho⟩
theorem zNR {G : RowO} {p : List Int} {i M : Nat} (hG : ∀ q u v o,q.length = p.length + 2 → o ∈ G q u v → o.row.length ≤ M) {o : Op8} : ∀ (s : Nat) (us vs : List Nd),o ∈ zCs G p i s us vs → o.row.length ≤ M
 | _,[],_,h=>by simp only [zCs] at h; cases h
 | _,_ :: _,[],h=>by simp only [zCs] at h; cases h
 | s,u :: us,v :: vs,h=>by
  simp only [zCs] at h;rcases List.mem_append.1 h with h | h
  ·exact zNR hG (s + 1) us vs h
  ·exact hG _ _ _ _ (by simp) h
theorem zNQ {G : RowO} {p : List Int} {i M : Nat} (hG : ∀ q u v o,q.length = p.length + 2 → o ∈ G q u v → o.row.length ≤ M) {o : Op8} : ∀ (s : Nat) (us vs : List Nd),o ∈ zCr G p i s us vs → o.row.length ≤ M
 | _,[],_,h=>by simp only [zCr] at h; cases h
 | _,_ :: _,[],h=>by simp only [zCr] at h; cases h
 | s,u :: us,v :: vs,h=>by
  simp only [zCr] at h;rcases List.mem_append.1 h with h | h
  ·exact hG _ _ _ _ (by simp) h
  ·exact zNQ hG (s + 1) us vs h
theorem zU1 {G : RowO} {p : List Int} {M : Nat} (hp : p.length ≤ M) (hG : ∀ q u v o,q.length = p.length + 2 → o ∈ G q u v → o.row.length ≤ M) {o : Op8} {s : List Mv} {a b : List Nd} (hs : Sc s a b) : ∀ i,o ∈ zDW G p i s a b → o.row.length ≤ M:=by
 induction hs with
 | nil=>intro i h; simp only [zDW] at h; cases h
 | @mat s x y xs ys ha _ ih =>
  intro i h;simp only [zDW] at h;rcases List.mem_append.1 h with h | h
  ·exact ih _ h
  ·exact zNR hG 0 _ _ h
 | @del s x xs b _ ih =>
  intro i h;simp only [zDW] at h;rcases List.mem_append.1 h with h | h
  ·exact ih _ h
  ·rw [List.mem_singleton.1 h]; exact hp
 | @ins s y a ys _ ih=>intro i h; exact ih i h
theorem zUU {G : RowO} {p : List Int} {M : Nat} (hp : p.length ≤ M) (hG : ∀ q u v o,q.length = p.length + 2 → o ∈ G q u v → o.row.length ≤ M) {o : Op8} {s : List Mv} {a b : List Nd} (hs : Sc s a b) : ∀ i,o ∈ zDO G p i s a b → o.row.length ≤ M:=by
 induction hs with
 | nil=>intro i h; simp only [zDO] at h; cases h
 | @mat s x y xs ys ha _ ih =>
  intro i h;simp only [zDO] at h;rcases List.mem_append.1 h with h | h
  ·unfold setO at h;split at h
   ·cases h
   ·rw [List.mem_singleton.1 h]; exact hp
  ·rcases List.mem_append.1 h with h | h
   ·exact zNQ hG 0 _ _ h
   ·exact ih _ h
 | @del s x xs b _ ih=>intro i h; exact ih i h
 | @ins s y a ys _ ih =>
  intro i h;simp only [zDO] at h;rcases List.mem_cons.1 h with h | h
  ·rw [h]; exact hp
  ·exact ih _ h
theorem zTI : ∀ (N : Nat) (p : List Int) (a b : List Nd),∀ o ∈ zCN N p a b,o.row.length ≤ p.length + 2 * N
 | 0,_,_,_,_,h=>by cases h
 | N + 1,p,a,b,o,h=>by
  unfold zCN at h;exact zU1 (by omega) (fun q u v o hq ho=>by have:=zTI N q u v o ho; omega) (zI3 a b) _ h
theorem zTw : ∀ (N : Nat) (p : List Int) (a b : List Nd),∀ o ∈ zC4 N p a b,o.row.length ≤ p.length + 2 * N
 | 0,_,_,_,_,h=>by cases h
 | N + 1,p,a,b,o,h=>by
  unfold zC4 at h;exact zUU (by omega) (fun q u v o hq ho=>by have:=zTw N q u v o ho; omega) (zI3 a b) _ h
theorem zUc {a b : Nd} {o : Op8} (ho : o ∈ opsK a b) : o.row.length ≤ 260:=by
 unfold opsK at ho;rcases List.mem_append.1 ho with ho | ho
 ·have:=zTI _ _ _ _ o ho; simpa using this
 ·have:=zTw _ _ _ _ o ho; simpa using this
end Go.Proofs.YtjdhkpdjecegnaaGreatDoor
namespace Go.Proofs.YtjdhkpdjecegnaaGreatDoor
open Go.Abs
theorem zVW : ∀ l : List Op8,sw l.reverse = sw l
 | []=>rfl
 | o :: l=>by rw [List.reverse_cons,zJV,zVW l]; simp only [sw]; omega
def iw (l : List Op8) : Nat:=sw (l.map invO)
theorem zNu (a b : List Op8) : iw (a ++ b) = iw a + iw b:=by unfold iw; rw [List.map_append,zJV]
theorem zWT {x : Nd} {p : List Int} {i : Nat} : iw [zGw p i x] = x.w + 5:=by
 simp [iw,sw,opw,zGw,invO,Op8.nodes,Op8.text,Nd.ws]
theorem zWU {x : Nd} {p : List Int} {i : Nat} (l : List Op8) : iw (zFT p i x :: l) = x.w + 5 + iw l:=by
 simp [iw,sw,opw,zFT,invO,Op8.nodes,Op8.text,Nd.ws]
theorem zWV (p : List Int) (j : Nat) (x y : Nd) : iw (setO p j x y) ≤ x.text.length + 4:=by
 unfold setO;split
 ·exact Nat.zero_le _
 ·simp [iw,sw,opw,zIl,invO,Op8.nodes,Op8.text,Nd.ws]
theorem zP6 {G : RowO} {p : List Int} {i : Nat} : ∀ (s : Nat) (us vs : List Nd),(∀ u ∈ us,∀ v p,iw (G p u.kids v) ≤ 5 * Nd.ws u.kids) → iw (zCs G p i s us vs) ≤ 5 * Nd.ws us
 | _,[],vs,_=>by simp only [zCs,iw,List.map_nil,sw]; omega
 | _,_ :: _,[],_=>by simp only [zCs,iw,List.map_nil,sw]; omega
 | s,u :: us,v :: vs,h=>by
  have h1:=h u List.mem_cons_self v.kids (p ++ [(i : Int),(s : Int)])
  have h2:=zP6 (G:=G) (p:=p) (i:=i) (s + 1) us vs fun u hu=>h u (List.mem_cons_of_mem _ hu)
  have e:=zEx (v:=u)
  simp only [zCs,zNu,Nd.ws]
  omega
theorem zP5 {G : RowO} {p : List Int} {i : Nat} : ∀ (s : Nat) (us vs : List Nd),(∀ u ∈ us,∀ v ∈ vs,∀ p,iw (G p u.kids v.kids) ≤ Nd.ws u.kids + 5 * Nd.ws v.kids) → iw (zCr G p i s us vs) ≤ Nd.ws us + 5 * Nd.ws vs
 | _,[],vs,_=>by simp only [zCr,iw,List.map_nil,sw]; omega
 | _,_ :: _,[],_=>by simp only [zCr,iw,List.map_nil,sw]; omega
 | s,u :: us,v :: vs,h=>by
  have h1:=h u List.mem_cons_self v List.mem_cons_self (p ++ [(i : Int),(s : Int)])
  have h2:=zP5 (G:=G) (p:=p) (i:=i) (s + 1) us vs fun u hu v hv=>h u (List.mem_cons_of_mem _ hu) v (List.mem_cons_of_mem _ hv)
  have e:=zEx (v:=v)
  have e':=zEx (v:=u)
  simp only [zCr,zNu,Nd.ws]
  omega
theorem zWg {G : RowO} {p : List Int} {s : List Mv} {a b : List Nd} (hs : Sc s a b) : (∀ x ∈ a,∀ u ∈ x.kids,∀ v p,iw (G p u.kids v) ≤ 5 * Nd.ws u.kids) → ∀ i,iw (zDW G p i s a b) ≤ 5 * Nd.ws a:=by
 induction hs with
 | nil=>intro _ i; exact Nat.zero_le _
 | @mat s x y xs ys ha _ ih =>
  intro h i;have h1:=ih (fun x hx=>h x (List.mem_cons_of_mem _ hx)) (i + 1)
  have h2:=zP6 (G:=G) (p:=p) (i:=i) 0 x.kids y.kids (h x List.mem_cons_self)
  have e:=zEx (v:=x)
  simp only [zDW,zNu,Nd.ws]
  omega
 | @del s x xs b _ ih =>
  intro h i;have h1:=ih (fun x hx=>h x (List.mem_cons_of_mem _ hx)) (i + 1)
  simp only [zDW,zNu,zWT,Nd.ws]
  omega
 | @ins s y a ys _ ih=>intro h i; exact ih h i
theorem zWf {G : RowO} {p : List Int} {s : List Mv} {a b : List Nd} (hs : Sc s a b) : (∀ x ∈ a,∀ u ∈ x.kids,∀ y ∈ b,∀ v ∈ y.kids,∀ p,iw (G p u.kids v.kids) ≤ Nd.ws u.kids + 5 * Nd.ws v.kids) → ∀ j,iw (zDO G p j s a b) ≤ Nd.ws a + 5 * Nd.ws b:=by
 induction hs with
 | nil=>intro _ i; exact Nat.zero_le _
 | @mat s x y xs ys ha _ ih =>
  intro h j;have h1:=ih (fun x hx u hu y hy=>h x (List.mem_cons_of_mem _ hx) u hu y (List.mem_cons_of_mem _ hy)) (j + 1)
  have h2:=zP5 (G:=G) (p:=p) (i:=j) 0 x.kids y.kids (fun u hu v hv=>h x List.mem_cons_self u hu y List.mem_cons_self v hv)
  have h3:=zWV p j x y;have e:=zEx (v:=y)
  have e':=zEx (v:=x)
  simp only [zDO,zNu,Nd.ws]
  omega
 | @del s x xs b _ ih =>
  intro h j;have h1:=ih (fun x hx u hu y hy=>h x (List.mem_cons_of_mem _ hx) u hu y hy) j;simp only [zDO,Nd.ws]
  omega
 | @ins s y a ys _ ih =>
  intro h j;have h1:=ih (fun x hx u hu y hy=>h x hx u hu y (List.mem_cons_of_mem _ hy)) (j + 1)
  simp only [zDO,zWU,Nd.ws]
  omega
theorem zP4 : ∀ (N : Nat) (p : List Int) (a b : List Nd),iw (zCN N p a b) ≤ 5 * Nd.ws a
 | 0,_,_,_=>Nat.zero_le _
 | N + 1,p,a,b=>by
  unfold zCN;exact zWg (zI3 a b) (fun x _ u _ v q=>zP4 N q u.kids v) 0
theorem zP3 : ∀ (N : Nat) (p : List Int) (a b : List Nd),iw (zC4 N p a b) ≤ Nd.ws a + 5 * Nd.ws b
 | 0,_,_,_=>Nat.zero_le _
 | N + 1,p,a,b=>by
  unfold zC4;exact zWf (zI3 a b) (fun x _ u _ y _ v _ q=>zP3 N q u.kids v.kids) 0
theorem zTH : ∀ (N : Nat) (p : List Int) (a b : List Nd),∀ o ∈ zCN N p a b,opw (invO o) ≤ Nd.ws a + 5
 | 0,_,_,_,_,h=>by cases h
 | N + 1,p,a,b,o,h=>by
  unfold zCN at h;rcases zRs (zI3 a b) _ h with ⟨x,h1,i,rfl⟩ | ⟨x,h1,y,_,u,h2,v,_,q,h3⟩
  ·have:=Nd.w_mem h1;have e : opw (invO (zGw p i x)) = x.w + 5:=by simp [opw,zGw,invO,Op8.nodes,Op8.text,Nd.ws]
   omega
  ·have h4:=zTH N q u.kids v.kids o h3;have:=zQ2 h1 h2
   omega
theorem zTv : ∀ (N : Nat) (p : List Int) (a b : List Nd),∀ o ∈ zC4 N p a b,opw (invO o) ≤ Nd.ws a + Nd.ws b + 5
 | 0,_,_,_,_,h=>by cases h
 | N + 1,p,a,b,o,h=>by
  unfold zC4 at h;rcases zRr (zI3 a b) _ h with ⟨y,h1,j,rfl⟩ | ⟨x,hx,y,h1,j,rfl⟩ | ⟨x,hx,y,h1,u,hu,v,h2,q,h3⟩
  ·have:=Nd.w_mem h1;have e : opw (invO (zFT p j y)) = y.w + 5:=by simp [opw,zFT,invO,Op8.nodes,Op8.text,Nd.ws]
   omega
  ·have:=Nd.w_mem hx;have e:=zEx (v:=x)
   have e2 : opw (invO (zIl p j x.text y.text)) = x.text.length + 4:=by simp [opw,zIl,invO,Op8.nodes,Op8.text,Nd.ws]
   omega
  ·have h4:=zTv N q u.kids v.kids o h3;have:=zQ2 h1 h2;have:=zQ2 hx hu
   omega
theorem zVh (n : Nat) {a b : Nd} (hn : 200000000 < n) (va : zAL a = true) (vb : zAL b = true) (ca : a.cnt ≤ 120) (cb : b.cnt ≤ 120) (wa : a.w ≤ 1048576) (wb : b.w ≤ 1048576) (hab : a.w + b.w ≤ 1600000) :
  zBU n (opsK a b) = some ((opsK a b).map invO).reverse ∧ zBs n b ((opsK a b).map invO).reverse = some (a,0,0):=by
 have e1:=zEx (v:=a)
 have e2:=zEx (v:=b)
 have s1:=zP4 130 [] a.kids b.kids;have s2:=zP3 130 [] a.kids b.kids;have hsw : iw (opsK a b) = iw (zCN 130 [] a.kids b.kids) + iw (zC4 130 [] a.kids b.kids):=zNu _ _;have hsw2 : sw ((opsK a b).map invO).reverse = iw (opsK a b):=zVW _;obtain ⟨s3,s4⟩:=zQB (a:=a) (b:=b) wa wb;refine ⟨zO5 n (fun o ho=>?_) (by omega),?_⟩
 ·have h1:=s4 o ho;have h2:=zUc ho;exact zTc n o (by omega) (by omega) (by omega)
 obtain ⟨u,i,e,h1,h2,h3⟩:=zTK n b ((opsK a b).map invO).reverse hn (by omega) (fun o ho=>by
  obtain ⟨o',ho',rfl⟩:=List.mem_map.1 (List.mem_reverse.1 ho)
  rcases List.mem_append.1 ho' with ho' | ho'
  ·have:=zTH _ _ _ _ o' ho'; omega
  ·have:=zTv _ _ _ _ o' ho'; omega)
 obtain ⟨hl,_⟩:=(zSk va vb ca cb).back va;cases h2 with
 | bad h=>rw [vb] at h; cases h
 | go _ hr =>
  obtain ⟨rfl,rfl⟩:=zSv hr hl;rw [h1,h3 rfl]
end Go.Proofs.YtjdhkpdjecegnaaGreatDoor
namespace Go.Proofs.YtjdhkpdjecegnaaGreatDoor
open Go.Abs
abbrev Rc:=List Op8 × zCu × zCu
abbrev Hs:=Nd × Nd × List Rc × Int
theorem zKD (n : Nat) {l : List Op8} (ho : ∀ o ∈ l,zDo n o = some o) (hl : l.length ≤ 1073741824) : ∀ (k i : Nat),l.length - i < k → i ≤ l.length → zCU n l k (i : Int) (l.take i) = some l
 | 0,i,h,_=>by omega
 | k + 1,i,h,hi=>by
  unfold zCU
  by_cases hj : i < l.length
  ·have hd:=ho _ (List.getElem_mem hj)
   have ht : l.take i ++ [l[i]] = l.take (i + 1) :=(by rw [List.take_append_getElem hj]);rw [zBg (Int.ofNat_lt.2 hj),cond_true,zBx hj]
   have ih:=zKD n ho hl k (i + 1) (by omega) (by omega)
   rw [← ht] at ih;generalize l[i] = v at *;obtain ⟨v1,v2,v3,v4,v5,v6,v7,v8⟩:=v;simp only [Option.bind_some,hd]
   rw [zCg (by simp only [List.length_take,List.length_cons,List.length_nil]; omega),zAX (show i < 9223372036854775807 by omega),ih]
  ·rw [zBf (by omega),cond_false,List.take_of_length_le (by omega)]
theorem zSP (n : Nat) {l : List Op8} (ho : ∀ o ∈ l,zDo n o = some o) (hl : l.length ≤ 1073741824) (hn : l.length < n) : zGB n l = some l:=by
 have h:=zKD n ho hl n 0 (by omega) (Nat.zero_le _)
 rw [show ((0 : Nat) : Int) = 0 from rfl,List.take_zero] at h;unfold zGB;dsimp only;rw [h]
 rfl
theorem zGR (c : List Int × List Int) (h1 : c.1.length ≤ 1073741824) (h2 : c.2.length ≤ 1073741824) : zCn c = some c:=by
 obtain ⟨p,q⟩:=c;have e1 : zBJ p = some p:=zCg (by dsimp only at h1; omega)
 have e2 : zBJ q = some q:=zCg (by dsimp only at h2; omega)
 unfold zCn zDn;simp only [e1,e2,Option.bind_some]
theorem zOi (n : Nat) (r : Rc) (ho : ∀ o ∈ r.1,zDo n o = some o) (hl : r.1.length ≤ 1073741824) (hn : r.1.length < n) (hb : r.2.1.1.length ≤ 1073741824 ∧ r.2.1.2.length ≤ 1073741824) (ha : r.2.2.1.length ≤ 1073741824 ∧ r.2.2.2.length ≤ 1073741824) : zCV n r = some r:=by
 have h1:=zSP n ho hl hn;have h2:=zGR r.2.1 hb.1 hb.2;have h3:=zGR r.2.2 ha.1 ha.2;obtain ⟨a,⟨b1,b2⟩,⟨c1,c2⟩⟩:=r;dsimp only at h1 h2 h3;unfold zCV;simp only [h1,h2,h3,Option.bind_some]
theorem zWE (n : Nat) (t : Nd) (h1 : t.w + 45 < n) (h2 : t.w ≤ 16777216) : zEl n t = some (bif zAL t then (some (t,t,[],0),0) else (none,1)):=by
 have v:=zCq n t h1 (by omega)
 have ct:=Nd.cnt_w t;have hd : zBc t = some t:=zGS (by omega)
 obtain ⟨t1,t2,t3,t4⟩:=t;unfold zEl;simp only [v,hd,Option.bind_some]
 cases zAL (.mk t1 t2 t3 t4) <;> rfl
theorem zTk (h : Hs) (hw : h.2.1.w ≤ 16777216) : zBq h = some (h.2.1,h):=by
 have ct:=Nd.cnt_w h.2.1;have hd : zBc h.2.1 = some h.2.1:=zGS (by omega)
 obtain ⟨⟨a1,a2,a3,a4⟩,⟨b1,b2,b3,b4⟩,rs,d⟩:=h;dsimp only at hd;unfold zBq;simp only [hd,Option.bind_some]
theorem zW6 (n : Nat) (h : Hs) (r : Rc) {u : Nd} {i : Int} {j : Nat} (hd : h.2.2.2 = (j : Int)) (hj : j ≤ h.2.2.1.length) (hj2 : j < 1000) (ha : zBs n h.2.1 r.1 = some (u,i,0)) (hr : zCV n r = some r) :
  zBX n h r = some (0,(h.1,u,h.2.2.1.take j ++ [r],((j + 1 : Nat) : Int))):=by
 obtain ⟨⟨a1,a2,a3,a4⟩,⟨b1,b2,b3,b4⟩,rs,d⟩:=h;obtain ⟨ops,⟨c1,c2⟩,⟨c3,c4⟩⟩:=r;obtain ⟨u1,u2,u3,u4⟩:=u;dsimp only at hd hj ha hr ⊢;subst hd;unfold zBX;simp only [ha,Option.bind_some,show ((0 : Int) != 0) = false from rfl,cond_false]
 rw [zBf (by omega),cond_false,zCg ⟨by omega,by omega⟩,hr]
 simp only [Option.bind_some,Int.toNat_natCast]
 rw [zCg (by simp only [List.length_take,List.length_cons,List.length_nil]; omega),zAX (by omega)]
theorem zV3 (n : Nat) (h : Hs) {r : Rc} {inv : List Op8} {u : Nd} {i : Int} {j : Nat} (hd : h.2.2.2 = ((j + 1 : Nat) : Int)) (hj : j < 1000000) (hr : h.2.2.1[j]? = some r) (hi : zBU n r.1 = some inv) (ha : zBs n h.2.1 inv = some (u,i,0)) (hc : zCn r.2.1 = some r.2.1) :
  zBH n h = some (r.2.1,0,(h.1,u,h.2.2.1,(j : Int))):=by
 have hr' : at? h.2.2.1 (j : Int) = some r:=by
  obtain ⟨h1,rfl⟩:=List.getElem?_eq_some_iff.1 hr;exact zBx h1
 obtain ⟨⟨a1,a2,a3,a4⟩,⟨b1,b2,b3,b4⟩,rs,d⟩:=h;obtain ⟨ops,⟨c1,c2⟩,⟨c3,c4⟩⟩:=r;obtain ⟨u1,u2,u3,u4⟩:=u;dsimp only at hd hr' ha hi hc ⊢;subst hd;have hw : IntKind.i64.wrap (((j + 1 : Nat) : Int) - 1) = (j : Int) :=(by rw [wrap64_in (by omega) (by omega)]; omega);unfold zBH;dsimp only;rw [zCi (by omega),cond_false,hw,hr']
 simp only [Option.bind_some,hi,ha,show ((0 : Int) != 0) = false from rfl,cond_false,hc]
theorem zMC (a b : Nd) (ha : a.w ≤ 1048576) (hb : b.w ≤ 1048576) (hab : a.w + b.w ≤ 1600000) (ra : a.rng) (rb : b.rng) : zCG (300000000 + 60) a b = some true:=by
 have hw:=zUS 300000000;obtain ⟨y,f1,f2⟩:=zWP (300000000 + 60) a b (by omega)
 have e1:=zKO (300000000 + 60) a (by omega) (by omega)
 have e2:=zKO (300000000 + 60) b (by omega) (by omega)
 by_cases hy : y = true ∧ zAL a = true ∧ zAL b = true
 ·obtain ⟨rfl,va,vb⟩:=hy;obtain ⟨ca,cb⟩:=f2 rfl;rw [va] at e1;rw [vb] at e2;have e3:=zWF (300000000 + 60) a b (by omega) ha hb ca cb ra rb;rw [va,vb] at e3;simp only [Bool.and_self,cond_true] at e3;have e4:=zWE (300000000 + 60) a (by omega) (by omega)
  rw [va,cond_true] at e4;have e5:=zUb (300000000 + 60) (a:=a) (b:=b) (by omega) va vb ca cb ha hb;obtain ⟨e6,e7⟩:=zVh (300000000 + 60) (a:=a) (b:=b) (by omega) va vb ca cb ha hb hab;obtain ⟨s1,s2⟩:=zQB (a:=a) (b:=b) ha hb;have e8 : zCV (300000000 + 60) (opsK a b,([],[]),([],[])) = some (opsK a b,([],[]),([],[])):=zOi _ _ (fun o ho=>by
   have h1:=s2 o ho;have h2:=zUc ho;exact zPF _ o (by omega) (by omega) (by omega)) (by dsimp only; omega) (by dsimp only; omega) ⟨Nat.zero_le _,Nat.zero_le _⟩ ⟨Nat.zero_le _,Nat.zero_le _⟩
  have e9:=zW6 (300000000 + 60) (a,a,[],0) (opsK a b,([],[]),([],[])) (u:=b) (i:=0) (j:=0) rfl (Nat.le_refl _) (by decide) e5 e8;have e10:=zTk (a,b,[(opsK a b,([],[]),([],[]))],((0 + 1 : Nat) : Int)) (by dsimp only; omega)
  have e11:=zV3 (300000000 + 60) (a,b,[(opsK a b,([],[]),([],[]))],((0 + 1 : Nat) : Int)) (r:=(opsK a b,([],[]),([],[]))) (u:=a) (i:=0) (j:=0) rfl (by decide) rfl e6 e7 (zGR _ (Nat.zero_le _) (Nat.zero_le _))
  have e12:=zTk (a,a,[(opsK a b,([],[]),([],[]))],((0 : Nat) : Int)) (by dsimp only; omega)
  obtain ⟨r,e13,e14⟩:=(zNX (300000000 + 60)).1 b b (by omega) (by omega)
  obtain rfl:=e14.2 rfl;obtain ⟨r,e15,e16⟩:=(zNX (300000000 + 60)).1 a a (by omega) (by omega)
  obtain rfl:=e16.2 rfl;generalize 300000000 + 60 = n at *;generalize opsK a b = L at *;simp only [List.take_zero,List.nil_append] at e9;obtain ⟨a1,a2,a3,a4⟩:=a;obtain ⟨b1,b2,b3,b4⟩:=b;unfold zCG;simp only [hw,f1,e1,e2,e3,e4,Option.bind_some,Bool.not_true,cond_false,show ((0 : Int) != 0) = false from rfl,e9,e10,e13,e11,e12,e15,beq_self_eq_true,cond_true]
  exact zCg trivial
 ·have hx : (bif (!y) then some true else bif (!zAL a) then some true else some (!zAL b) : Option Bool) = some true:=by
   cases y with
   | false=>rfl
   | true =>
    cases h1 : zAL a with
    | false=>rfl
    | true =>
     cases h2 : zAL b with
     | false=>rfl
     | true=>exact absurd ⟨rfl,h1,h2⟩ hy
  generalize 300000000 + 60 = n at *;obtain ⟨a1,a2,a3,a4⟩:=a;obtain ⟨b1,b2,b3,b4⟩:=b;unfold zCG;simp only [hw,f1,e1,e2,Option.bind_some,Bool.not_true,cond_false,hx,cond_true]
end Go.Proofs.YtjdhkpdjecegnaaGreatDoor
