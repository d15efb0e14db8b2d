/-
  Joined out of: PMrg5, PMrg6, PMrg7, PMrg8, PRow, PMrg9, PMrgD, PMrgA, PMrgB, PMrgE.
-/
import Derived.Test.YtgfneloodabafaaGreatDoorZf
set_option linter.unusedVariables false
set_option linter.unusedSimpArgs false
set_option maxHeartbeats 2000000
set_option maxRecDepth 100000
namespace Go.Proofs.YtgfneloodabafaaGreatDoor
open Go.Abs
theorem zFD (l : List Nd) (q : Nat) : Nd.cnts l = Nd.cnts (l.take q) + Nd.cnts (l.drop q):=by
 have:=Nd.cnts_append (l.take q) (l.drop q)
 rwa [List.take_append_drop] at this
theorem zQh {l : List Nd} {p q : Nat} (h : p ≤ q) : l.drop p = cutK l p q ++ l.drop q:=by
 unfold cutK
 rw [List.drop_take]
 have : l.drop q = (l.drop p).drop (q - p):=by rw [List.drop_drop]; congr 1; omega
 rw [this,List.take_append_drop]
theorem zCX {l : List Nd} {q : Nat} {v : Nd} (h : l[q]? = some v) : l.drop q = v :: l.drop (q + 1):=by
 obtain ⟨h1,rfl⟩:=List.getElem?_eq_some_iff.1 h
 exact List.drop_eq_getElem_cons h1
theorem zMM {l : List Nd} {p q : Nat} {v : Nd} (h : p ≤ q) (g : l[q]? = some v) : l.drop p = cutK l p q ++ v :: l.drop (q + 1):=by rw [zQh h,zCX g]
theorem zFv (l : List Nd) (p q : Nat) : Nd.cnts (cutK l p q) ≤ Nd.cnts l:=by
 have h1:=zFD l q
 have h2:=zFD (l.take q) p
 unfold cutK
 omega
theorem zDF {l : List Nd} {q : Nat} {v d : Nd} (h : l[q]? = some v) : l.getD q d = v:=by
 rw [List.getD_eq_getElem?_getD,h]; rfl
theorem zG9 {l : List (Nat × Nat)} {i p : Nat} (h : parK l i = some p) : (i,p) ∈ l:=by
 unfold parK at h
 cases e : l.find? (fun u => u.1 == i) with
 | none => rw [e] at h; cases h
 | some u =>
  rw [e] at h
  obtain rfl:=Option.some.inj h
  have h1:=List.find?_some e
  have h2:=List.mem_of_find?_eq_some e
  have h3 : u.1 = i:=eq_of_beq h1
  rw [← h3]; exact h2
theorem zPX : ∀ {l : List (Nat × Nat)},(l.Pairwise fun u v => u.1 < v.1 ∧ u.2 < v.2) → ∀ {u v : Nat × Nat},u ∈ l → v ∈ l → u.1 < v.1 → u.2 < v.2
 | [],_,_,_,h,_,_ => by cases h
 | w :: l,h,u,v,hu,hv,huv => by
  obtain ⟨h1,h2⟩:=List.pairwise_cons.1 h
  rcases List.mem_cons.1 hu with eu | hu'
  ·rcases List.mem_cons.1 hv with ev | hv'
   ·subst eu; subst ev; omega
   ·subst eu; exact (h1 v hv').2
  ·rcases List.mem_cons.1 hv with ev | hv'
   ·subst ev; have:=h1 u hu'; omega
   ·exact zPX h2 hu' hv' huv
def KO (b x y : List Nd) (i j k : Nat) (T : List (Nat × Nat × Nat)) : Prop :=
 (T.Pairwise fun u v => u.1 < v.1 ∧ u.2.1 < v.2.1 ∧ u.2.2 < v.2.2) ∧
 ∀ u ∈ T,i ≤ u.1 ∧ j ≤ u.2.1 ∧ k ≤ u.2.2 ∧ ∃ v w z,b[u.1]? = some v ∧ x[u.2.1]? = some w ∧ y[u.2.2]? = some z ∧ zBK v w = true ∧ zBK v z = true
theorem KO.tail {b x y : List Nd} {i j k n p q : Nat} {T : List (Nat × Nat × Nat)} (h : KO b x y i j k ((n,p,q) :: T)) : KO b x y (n + 1) (p + 1) (q + 1) T:=by
 obtain ⟨h1,h2⟩:=List.pairwise_cons.1 h.1
 refine ⟨h2,fun u hu => ?_⟩
 obtain ⟨_,_,_,h4⟩:=h.2 u (List.mem_cons_of_mem _ hu)
 have:=h1 u hu
 dsimp only at this
 exact ⟨by omega,by omega,by omega,h4⟩
theorem KO.head {b x y : List Nd} {i j k n p q : Nat} {T : List (Nat × Nat × Nat)} (h : KO b x y i j k ((n,p,q) :: T)) :
  i ≤ n ∧ j ≤ p ∧ k ≤ q ∧ ∃ v w z,b[n]? = some v ∧ x[p]? = some w ∧ y[q]? = some z ∧ zBK v w = true ∧ zBK v z = true:=h.2 _ List.mem_cons_self
def gK (px py : List (Nat × Nat)) (i : Nat) : Option (Nat × Nat × Nat):=(parK px i).bind fun p => (parK py i).map fun q => (i,p,q)
def zF9 (len : Nat) (px py : List (Nat × Nat)) (n : Nat) : List (Nat × Nat × Nat):=(List.range' n (len - n)).filterMap (gK px py)
theorem zIQ (n : Nat) (px py : List (Nat × Nat)) : zS9 n px py = zF9 n px py 0:=by
 unfold zS9 zF9
 rw [List.range_eq_range']
 rfl
theorem zKz {px py : List (Nat × Nat)} {i : Nat} {u : Nat × Nat × Nat} (h : gK px py i = some u) : u.1 = i ∧ parK px i = some u.2.1 ∧ parK py i = some u.2.2:=by
 unfold gK at h
 cases e1 : parK px i with
 | none => rw [e1] at h; cases h
 | some p =>
  cases e2 : parK py i with
  | none => rw [e1,e2] at h; cases h
  | some q =>
   rw [e1,e2] at h
   obtain rfl:=Option.some.inj h
   exact ⟨rfl,rfl,rfl⟩
theorem zOS {a b : List Nd} {p q : Nat} (h : (p,q) ∈ zCB a b) : ∃ x y,a[p]? = some x ∧ b[q]? = some y ∧ zBK x y = true:=by
 obtain ⟨s,t,x,y,e,h1,h2,h3⟩:=zFS _ _ _ _ _ _ h
 have e1:=(Prod.mk.inj e).1
 have e2:=(Prod.mk.inj e).2
 rw [Nat.zero_add] at e1 e2
 subst e1 e2
 exact ⟨x,y,h1,h2,h3⟩
theorem zP2 (b x y : List Nd) (n : Nat) : KO b x y 0 0 0 (zF9 b.length (zCB b x) (zCB b y) n):=by
 constructor
 ·refine List.pairwise_filterMap.2 ((List.pairwise_lt_range' (s:=n) (n:=b.length - n)).imp fun {i i'} hii u hu v hv => ?_)
  obtain ⟨rfl,h1,h2⟩:=zKz hu
  obtain ⟨rfl,h3,h4⟩:=zKz hv
  have a1:=zPX (l:=zCB b x) (zDd _ _ _ _ _) (zG9 h1) (zG9 h3) hii
  have a2:=zPX (l:=zCB b y) (zDd _ _ _ _ _) (zG9 h2) (zG9 h4) hii
  exact ⟨hii,a1,a2⟩
 ·intro u hu
  obtain ⟨i,_,hi⟩:=List.mem_filterMap.1 hu
  obtain ⟨rfl,h1,h2⟩:=zKz hi
  obtain ⟨v,w,g1,g2,g3⟩:=zOS (zG9 h1)
  obtain ⟨v',z,g4,g5,g6⟩:=zOS (zG9 h2)
  rw [g1] at g4
  obtain rfl:=Option.some.inj g4
  exact ⟨Nat.zero_le _,Nat.zero_le _,Nat.zero_le _,v,w,z,g1,g2,g5,g3,g6⟩
theorem zPG (b x y : List Nd) : KO b x y 0 0 0 (zS9 b.length (zCB b x) (zCB b y)):=by rw [zIQ]; exact zP2 b x y 0
theorem Nd.w_eq (v : Nd) : v.w = v.text.length + Nd.ws v.kids + 1:=by cases v; rfl
theorem zSi (side : Int) (b x y : List Nd) : Nd.ws (zPY side b x y) ≤ Nd.ws b + Nd.ws x + Nd.ws y:=by
 unfold zPY
 repeat' split
 all_goals omega
theorem zSh (side : Int) (path : List Int) (i : Nat) (b x y : List Nd) : Nd.ws (zED side path i b x y).1 ≤ Nd.ws b + Nd.ws x + Nd.ws y:=by
 unfold zED
 repeat' split
 ·dsimp only; omega
 ·dsimp only; omega
 ·exact zSi ..
theorem zQM {F : RowF} (hF : ∀ p b x y,Nd.ws (F p b x y).1 ≤ Nd.ws b + Nd.ws x + Nd.ws y) (path : List Int) (i : Nat) : ∀ (s : Nat) (b x y : List Nd),Nd.ws (zBC F path i s b x y).1 ≤ Nd.ws b + Nd.ws x + Nd.ws y
 | s,b :: bs,x :: xs,y :: ys => by
  have h1:=hF (path ++ [(i : Int),(s : Int)]) b.kids x.kids y.kids
  have h2:=zQM hF path i (s + 1) bs xs ys
  have e1:=b.w_eq
  have e2:=x.w_eq
  have e3:=y.w_eq
  simp only [zBC,Nd.ws,rowK,Nd.w,List.length_nil]
  omega
 | s,[],x,y => by simp only [zBC,Nd.ws]; omega
 | s,b :: bs,[],y => by simp only [zBC,Nd.ws]; omega
 | s,b :: bs,x :: xs,[] => by simp only [zBC,Nd.ws]; omega
theorem zT0 {F : RowF} (hF : ∀ p b x y,Nd.ws (F p b x y).1 ≤ Nd.ws b + Nd.ws x + Nd.ws y) (side : Int) (path : List Int) (i : Nat) (b x y : Nd) : Nd.ws (zFF F side path i b x y).1 ≤ b.w + x.w + y.w + 3:=by
 have h:=zQM hF path i 0 b.kids x.kids y.kids
 have e1:=b.w_eq
 have e2:=x.w_eq
 have e3:=y.w_eq
 have h2:=zSi side [b] [x] [y]
 unfold zFF
 split
 ·simp only [Nd.ws,Nd.w]; omega
 ·split
  ·simp only [Nd.ws,Nd.w]; omega
  ·simp only [Nd.ws] at h2 ⊢; omega
theorem zSO {F : RowF} (hF : ∀ p b x y,Nd.ws (F p b x y).1 ≤ Nd.ws b + Nd.ws x + Nd.ws y) (side : Int) (path : List Int) (b x y : List Nd) : ∀ (T : List (Nat × Nat × Nat)) (i j k : Nat),KO b x y i j k T → Nd.ws (zEG F side path b x y i j k T).1 ≤ Nd.ws (b.drop i) + Nd.ws (x.drop j) + Nd.ws (y.drop k)
 | [],i,j,k,h => by unfold zEG; exact zSh ..
 | (n,p,q) :: T,i,j,k,h => by
  obtain ⟨h1,h2,h3,v,w,z,g1,g2,g3,g4,g5⟩:=h.head
  have ih:=zSO hF side path b x y T (n + 1) (p + 1) (q + 1) h.tail
  have hp:=zSh side path i (cutK b i n) (cutK x j p) (cutK y k q)
  have hi:=zT0 hF side path n v w z
  rw [zMM h1 g1,zMM h2 g2,zMM h3 g3]
  unfold zEG appK
  rw [zDF g1,zDF g2,zDF g3]
  simp only [Nd.ws_append,Nd.ws]
  omega
theorem zMi (side : Int) : ∀ (N : Nat) (p : List Int) (b x y : List Nd),Nd.ws (rowM N side p b x y).1 ≤ Nd.ws b + Nd.ws x + Nd.ws y
 | 0,p,b,x,y => by unfold rowM; exact Nat.zero_le _
 | N + 1,p,b,x,y => by
  have:=zSO (zMi side N) side p b x y _ 0 0 0 (zPG b x y)
  unfold rowM
  exact this
theorem zSf (side : Int) (path : List Int) (i : Nat) (b x y : List Nd) : (zED side path i b x y).2.length ≤ 1:=by
 unfold zED
 repeat' split
 all_goals simp
theorem zQK {F : RowF} (hF : ∀ p b x y,(F p b x y).2.length ≤ 2 * Nd.cnts b + 1) (path : List Int) (i : Nat) : ∀ (s : Nat) (b x y : List Nd),(zBC F path i s b x y).2.length ≤ 2 * Nd.cnts b
 | s,b :: bs,x :: xs,y :: ys => by
  have h1:=hF (path ++ [(i : Int),(s : Int)]) b.kids x.kids y.kids
  have h2:=zQK hF path i (s + 1) bs xs ys
  have e1:=b.cnt_kids
  simp only [zBC,Nd.cnts,List.length_append]
  omega
 | s,[],x,y => by simp only [zBC,List.length_nil]; omega
 | s,b :: bs,[],y => by simp only [zBC,List.length_nil]; omega
 | s,b :: bs,x :: xs,[] => by simp only [zBC,List.length_nil]; omega
theorem zTZ {F : RowF} (hF : ∀ p b x y,(F p b x y).2.length ≤ 2 * Nd.cnts b + 1) (side : Int) (path : List Int) (i : Nat) (b x y : Nd) : (zFF F side path i b x y).2.length + 1 ≤ 2 * b.cnt:=by
 have h:=zQK hF path i 0 b.kids x.kids y.kids
 have e1:=b.cnt_kids
 unfold zFF
 repeat' split
 ·dsimp only; omega
 ·dsimp only; omega
 ·simp only [List.length_cons,List.length_nil]; omega
theorem zSN {F : RowF} (hF : ∀ p b x y,(F p b x y).2.length ≤ 2 * Nd.cnts b + 1) (side : Int) (path : List Int) (b x y : List Nd) : ∀ (T : List (Nat × Nat × Nat)) (i j k : Nat),KO b x y i j k T → (zEG F side path b x y i j k T).2.length ≤ 2 * Nd.cnts (b.drop i) + 1
 | [],i,j,k,h => by have:=zSf side path i (b.drop i) (x.drop j) (y.drop k); unfold zEG; omega
 | (n,p,q) :: T,i,j,k,h => by
  obtain ⟨h1,h2,h3,v,w,z,g1,g2,g3,g4,g5⟩:=h.head
  have ih:=zSN hF side path b x y T (n + 1) (p + 1) (q + 1) h.tail
  have hp:=zSf side path i (cutK b i n) (cutK x j p) (cutK y k q)
  have hi:=zTZ hF side path n v w z
  rw [zMM h1 g1]
  unfold zEG appK
  rw [zDF g1,zDF g2,zDF g3]
  simp only [Nd.cnts_append,Nd.cnts,List.length_append]
  omega
theorem zQD (side : Int) : ∀ (N : Nat) (p : List Int) (b x y : List Nd),(rowM N side p b x y).2.length ≤ 2 * Nd.cnts b + 1
 | 0,p,b,x,y => by unfold rowM; exact Nat.zero_le _
 | N + 1,p,b,x,y => by
  have:=zSN (zQD side N) side p b x y _ 0 0 0 (zPG b x y)
  unfold rowM
  exact this
def okR (b : List Nd) : Prop:=zBD (rowK b) = true ∧ (rowK b).rng
theorem okR.sub {b : List Nd} {v u : Nd} (h : okR b) (hv : v ∈ b) (hu : u ∈ v.kids) : okR u.kids ∧ u = rowK u.kids:=by
 obtain ⟨h1,h2⟩:=h
 unfold zBD at h1
 simp only [Bool.and_eq_true,decide_eq_true_eq] at h1
 obtain ⟨k1,f1,c1,d1⟩:=h1
 have fb : zFf 1 b = true:=(zMR f1 rfl).2
 obtain ⟨f2,k2⟩:=zKx fb hv
 have gv : zFf v.kind v.kids = true:=by cases v; simp only [zGL,Bool.and_eq_true] at f2; exact f2.2
 obtain ⟨f3,k3⟩:=zKx gv hu
 have kv : v.kind ≠ 1:=fun e => by rw [e] at k2; cases k2
 rw [zGQ kv] at k3
 have ku : u.kind = 1:=by cases e : u.kind == 1 with | true => exact eq_of_beq e | false => rw [e] at k3; cases k3
 obtain ⟨r1,r2⟩:=zMR f3 ku
 have c2:=Nd.cnts_mem hv
 have c3:=Nd.cnts_mem hu
 have e2:=v.cnt_kids
 have cb : (rowK b).cnt = Nd.cnts b + 1:=by simp [rowK,Nd.cnt]
 have db : (rowK b).dep = Nd.deps b + 1:=rfl
 have d2:=zMO hv
 have d3:=zMO hu
 have ev : v.dep = Nd.deps v.kids + 1:=by cases v; rfl
 have eu : rowK u.kids = u:=r1.symm
 refine ⟨⟨?_,?_⟩,r1⟩
 ·rw [eu]
  unfold zBD
  simp only [Bool.and_eq_true,decide_eq_true_eq]
  exact ⟨by rw [ku]; rfl,f3,by omega,by omega⟩
 ·rw [eu]
  have : v.rng:=zG7 h2 (t:=rowK b) hv
  exact zG7 this hu
theorem zL4 {t : Nd} (h : zBD t = true) (hr : t.rng) : okR t.kids ∧ t = rowK t.kids:=by
 have e:=(zSM h).1
 have e' : rowK t.kids = t:=e.symm
 exact ⟨⟨by rw [e']; exact h,by rw [e']; exact hr⟩,e⟩
end Go.Proofs.YtgfneloodabafaaGreatDoor
namespace Go.Proofs.YtgfneloodabafaaGreatDoor
open Go.Abs
theorem zS7 {n : Int} (h : 0 ≤ n ∧ n ≤ 1073741824) : zCY n = some []:=zBp h
theorem zRG (k : Nat) (p : List Int) (i s : Int) (hp : p.length ≤ 1000000) : zAU [p,[i,s]] (k + 3) 0 0 = some ((p.length : Int) + 2):=by
 have w1 : IntKind.i64.wrap ((0 : Int) + (p.length : Int)) = (p.length : Int):=by rw [wrap64_in (by omega) (by omega)]; omega
 have w2 : IntKind.i64.wrap ((p.length : Int) + 2) = (p.length : Int) + 2:=wrap64_in (by omega) (by omega)
 have c0 : at? [p,[i,s]] 0 = some p:=rfl
 have c1 : at? [p,[i,s]] 1 = some [i,s]:=rfl
 have v1 : IntKind.i64.wrap ((0 : Int) + 1) = 1:=by decide
 have v2 : IntKind.i64.wrap ((1 : Int) + 1) = 2:=by decide
 have hl : (([p,[i,s]] : List (List Int)).length : Int) = 2:=rfl
 have h2 : (([i,s] : List Int).length : Int) = 2:=rfl
 unfold zAU
 rw [hl,zBh (by decide),cond_true,c0]
 simp only [Option.bind_some]
 rw [w1,zA7 (by omega),cond_false,v1]
 unfold zAU
 rw [hl,zBh (by decide),cond_true,c1]
 simp only [Option.bind_some]
 rw [h2,w2,zA7 (by omega),cond_false,v2]
 unfold zAU
 rw [hl,zA7 (by decide),cond_false]
theorem zRH (k : Nat) (p : List Int) (i s : Int) (hp : p.length ≤ 1000000) : zAW [p,[i,s]] (k + 3) 0 [] = some (p ++ [i,s]):=by
 have c0 : at? [p,[i,s]] 0 = some p:=rfl
 have c1 : at? [p,[i,s]] 1 = some [i,s]:=rfl
 have v1 : IntKind.i64.wrap ((0 : Int) + 1) = 1:=by decide
 have v2 : IntKind.i64.wrap ((1 : Int) + 1) = 2:=by decide
 have hl : (([p,[i,s]] : List (List Int)).length : Int) = 2:=rfl
 have q1 : ([] : List Int).length + p.length ≤ 4294967296:=by rw [List.length_nil]; omega
 have q2 : p.length + [i,s].length ≤ 4294967296:=by rw [List.length_cons,List.length_cons,List.length_nil]; omega
 unfold zAW
 rw [hl,zBh (by decide),cond_true,c0]
 simp only [Option.bind_some]
 rw [zBp q1,v1]
 unfold zAW
 rw [hl,zBh (by decide),cond_true,c1]
 simp only [Option.bind_some,List.nil_append]
 rw [zBp q2,v2]
 unfold zAW
 rw [hl,zA7 (by decide),cond_false]
theorem zQ0 (n : Nat) (p : List Int) (i s : Int) (hn : 5 < n) (hp : p.length ≤ 1000000) : zB3 n [p,[i,s]] = some (p ++ [i,s]):=by
 obtain ⟨k,rfl⟩ : ∃ k,n = k + 3:=⟨n - 3,by omega⟩
 have e1:=zRG k p i s hp
 have e2 : zCY ((p.length : Int) + 2) = some []:=zS7 ⟨by omega,by omega⟩
 have e3:=zRH k p i s hp
 unfold zB3
 dsimp only
 rw [e1,Option.bind_some,e2,Option.bind_some,e3,Option.bind_some]
theorem zRR {F : RowF} {side : Int} {path : List Int} {i : Nat} {b x y : Nd} (h : x.text = b.text) : zFF F side path i b x y = ([.mk b.kind y.text b.cols (zBC F path i 0 b.kids x.kids y.kids).1],(zBC F path i 0 b.kids x.kids y.kids).2):=by
 unfold zFF; rw [if_pos h]
theorem zRS {F : RowF} {side : Int} {path : List Int} {i : Nat} {b x y : Nd} (h : ¬ x.text = b.text) (h2 : y.text = b.text ∨ y.text = x.text) : zFF F side path i b x y = ([.mk b.kind x.text b.cols (zBC F path i 0 b.kids x.kids y.kids).1],(zBC F path i 0 b.kids x.kids y.kids).2):=by
 unfold zFF; rw [if_neg h,if_pos h2]
theorem zRT {F : RowF} {side : Int} {path : List Int} {i : Nat} {b x y : Nd} (h : ¬ x.text = b.text) (h2 : ¬ (y.text = b.text ∨ y.text = x.text)) : zFF F side path i b x y = (zPY side [b] [x] [y],[(path,(i : Int),(i : Int) + 1,[x],[y])]):=by
 unfold zFF; rw [if_neg h,if_neg h2]
theorem zJL {l : List Nd} {n : Nat} {v : Nd} (h : l[n]? = some v) : at? l (n : Int) = some v:=by
 obtain ⟨h1,rfl⟩:=List.getElem?_eq_some_iff.1 h
 exact zBv h1
theorem zTQ {len : Nat} {l : List (Nat × Nat)} {n : Nat} (h : n < len) : at? (vecK len l) (n : Int) = some (parZ l n):=by
 have hl : n < (vecK len l).length:=by simpa [vecK] using h
 rw [zBv hl]; simp [vecK]
theorem zO0 {len : Nat} {px py : List (Nat × Nat)} {n : Nat} (h : n < len) : zF9 len px py n = (gK px py n).toList ++ zF9 len px py (n + 1):=by
 unfold zF9
 rw [show len - n = len - (n + 1) + 1 by omega,List.range'_succ,List.filterMap_cons]
 cases gK px py n <;> rfl
abbrev zUz:=(Int × List Cf) → List Int → Int → Nd → Nd → Nd → Option (List Nd × (Int × List Cf))
abbrev zUi:=(Int × List Cf) → List Int → List Nd → List Nd → List Nd → Option (List Nd × (Int × List Cf))
theorem zLZ (N : Nat) (side : Int) (path : List Int) (i : Nat) (bk xk yk : List Nd) (F : zUi) (FR : RowF) (hN : 5 < N) (hp : path.length ≤ 1000000) (hb : bk.length ≤ 1000000) (hx : bk.length = xk.length) (hy : bk.length = yk.length)
  (hF : ∀ (s : Nat) (u v w : Nd) (cs : List Cf),bk[s]? = some u → xk[s]? = some v → yk[s]? = some w → cs.length + (FR (path ++ [(i : Int),(s : Int)]) u.kids v.kids w.kids).2.length ≤ 1000000 →
   F (side,cs) (path ++ [(i : Int),(s : Int)]) u.kids v.kids w.kids = some ((FR (path ++ [(i : Int),(s : Int)]) u.kids v.kids w.kids).1,(side,cs ++ (FR (path ++ [(i : Int),(s : Int)]) u.kids v.kids w.kids).2))) :
  ∀ (k s : Nat) (cs : List Cf) (acc : List Nd),bk.length - s < k → s ≤ bk.length → acc.length ≤ s → cs.length + (zBC FR path i s (bk.drop s) (xk.drop s) (yk.drop s)).2.length ≤ 1000000 →
   zA2 F N path (i : Int) bk xk yk k side (s : Int) cs acc = some (side,cs ++ (zBC FR path i s (bk.drop s) (xk.drop s) (yk.drop s)).2,acc ++ (zBC FR path i s (bk.drop s) (xk.drop s) (yk.drop s)).1)
 | 0,s,cs,acc,h,_,_,_ => by omega
 | k + 1,s,cs,acc,h,hs,ha,hc => by
  unfold zA2
  by_cases hj : s < bk.length
  ·have g1 : bk[s]? = some bk[s]:=List.getElem?_eq_getElem hj
   have g2 : xk[s]? = some (xk[s]'(by omega)):=List.getElem?_eq_getElem (by omega)
   have g3 : yk[s]? = some (yk[s]'(by omega)):=List.getElem?_eq_getElem (by omega)
   generalize bk[s] = u at *
   generalize xk[s]'(by omega) = v at *
   generalize yk[s]'(by omega) = w at *
   have hc':=hc
   rw [zCX g1,zCX g2,zCX g3] at hc'
   simp only [zBC,List.length_append] at hc'
   have e1:=hF s u v w cs g1 g2 g3 (by omega)
   rw [zBh (Int.ofNat_lt.2 hj),cond_true,zQ0 N path i s hN hp,zJL g1,zJL g2,zJL g3,zCX g1,zCX g2,zCX g3]
   obtain ⟨u1,u2,u3,u4⟩:=u
   obtain ⟨v1,v2,v3,v4⟩:=v
   obtain ⟨w1,w2,w3,w4⟩:=w
   simp only [Nd.kids] at e1 hc'
   simp only [Option.bind_some,e1]
   have ih:=zLZ N side path i bk xk yk F FR hN hp hb hx hy hF k (s + 1) (cs ++ (FR (path ++ [(i : Int),(s : Int)]) u4 v4 w4).2) (acc ++ [Nd.mk 1 [] 0 (FR (path ++ [(i : Int),(s : Int)]) u4 v4 w4).1]) (by omega) (by omega) (by simp only [List.length_append,List.length_cons,List.length_nil]; omega) (by simp only [List.length_append]; omega)
   rw [zBp (by simp only [List.length_cons,List.length_nil]; omega),zAL (by omega),ih]
   simp only [zBC,Nd.kids,rowK,List.append_assoc,List.cons_append,List.nil_append]
  ·rw [zA7 (by omega),cond_false,List.drop_of_length_le (by omega)]
   simp only [zBC,List.append_nil]
theorem zKH (N : Nat) (side : Int) (hs : side = 0 ∨ side = 1 ∨ side = 2) (path : List Int) (hp : path.length ≤ 1000000) (b x y : List Nd) (px py : List (Nat × Nat)) (FR : RowF) (F : zUz)
  (hn : 2 * Nd.cnts b + 2 * Nd.cnts x + 2 * Nd.cnts y + 10 < N) (hc : Nd.cnts b + Nd.cnts x + Nd.cnts y ≤ 1000000)
  (hF : ∀ (n p q : Nat) (v w z : Nd) (cs : List Cf),b[n]? = some v → x[p]? = some w → y[q]? = some z → zBK v w = true → zBK v z = true → cs.length + (zFF FR side path n v w z).2.length ≤ 1000000 →
   F (side,cs) path (n : Int) v w z = some ((zFF FR side path n v w z).1,(side,cs ++ (zFF FR side path n v w z).2))) :
  ∀ (k n i j l : Nat) (cs : List Cf) (acc : List Nd),b.length - n < k → n ≤ b.length → i ≤ n → j ≤ x.length → l ≤ y.length → KO b x y i j l (zF9 b.length px py n) →
   cs.length + (zEG FR side path b x y i j l (zF9 b.length px py n)).2.length ≤ 1000000 → acc.length + (zEG FR side path b x y i j l (zF9 b.length px py n)).1.length ≤ 4294967296 →
   ∃ (i' j' l' : Nat) (cs' : List Cf) (acc' : List Nd),zA1 F N path b x y (vecK b.length px) (vecK b.length py) k side (i : Int) (j : Int) (l : Int) (n : Int) cs acc = some ((i' : Int),(j' : Int),(l' : Int),side,cs',acc') ∧
    i' ≤ b.length ∧ j' ≤ x.length ∧ l' ≤ y.length ∧ acc' ++ (zED side path i' (b.drop i') (x.drop j') (y.drop l')).1 = acc ++ (zEG FR side path b x y i j l (zF9 b.length px py n)).1 ∧
    cs' ++ (zED side path i' (b.drop i') (x.drop j') (y.drop l')).2 = cs ++ (zEG FR side path b x y i j l (zF9 b.length px py n)).2
 | 0,n,i,j,l,cs,acc,h,_,_,_,_,_,_,_ => by omega
 | k + 1,n,i,j,l,cs,acc,h,hnb,hi,hj,hl,ko,hcs,hac => by
  have lb:=Nd.cnts_len b
  have lx:=Nd.cnts_len x
  have ly:=Nd.cnts_len y
  by_cases hlt : n < b.length
  ·unfold zA1
   rw [zBh (Int.ofNat_lt.2 hlt),cond_true,zTQ hlt,zTQ hlt]
   simp only [Option.bind_some]
   rw [zO0 hlt] at ko hcs hac ⊢
   cases hg : gK px py n with
   | none =>
    rw [hg] at ko hcs hac
    have hneg : (bif decide (parZ px n < 0) then some true else some (decide (parZ py n < 0)) : Option Bool) = some true:=by
     unfold gK at hg
     unfold parZ
     cases h1 : parK px n with
     | none => rfl
     | some p =>
      rw [h1] at hg
      cases h2 : parK py n with
      | none =>
       dsimp only
       rw [zA7 (show ¬ ((p : Int) < 0) by omega)]
       rfl
      | some q => rw [h2] at hg; cases hg
    rw [hneg]
    simp only [Option.bind_some,cond_true]
    rw [zAL (by omega)]
    exact zKH N side hs path hp b x y px py FR F hn hc hF k (n + 1) i j l cs acc (by omega) (by omega) (by omega) hj hl ko hcs hac
   | some u =>
    rw [hg] at ko hcs hac
    obtain ⟨g1,g2,g3⟩:=zKz hg
    obtain ⟨n',p,q⟩:=u
    dsimp only at g1 g2 g3
    subst g1
    have z1 : parZ px n' = (p : Int):=by unfold parZ; rw [g2]
    have z2 : parZ py n' = (q : Int):=by unfold parZ; rw [g3]
    obtain ⟨o1,o2,o3,v,w,z,r1,r2,r3,r4,r5⟩:=KO.head (n:=n') (p:=p) (q:=q) ko
    have hpx:=(List.getElem?_eq_some_iff.1 r2).1
    have hqy:=(List.getElem?_eq_some_iff.1 r3).1
    simp only [Option.toList_some,List.cons_append,List.nil_append,zEG,appK,List.length_append,zDF r1,zDF r2,zDF r3] at hcs hac ko ⊢
    have c1:=zFv b i n'
    have c2:=zFv x j p
    have c3:=zFv y l q
    have ep:=zSg N side cs path i (cutK b i n') (cutK x j p) (cutK y l q) hs (by omega) (by omega) hp (by omega) (by omega)
    have ei:=hF n' p q v w z (cs ++ (zED side path i (cutK b i n') (cutK x j p) (cutK y l q)).2) r1 r2 r3 r4 r5 (by rw [List.length_append]; omega)
    rw [z1,z2]
    rw [zA7 (show ¬ ((p : Int) < 0) by omega),cond_false,zA7 (show ¬ ((q : Int) < 0) by omega)]
    simp only [Option.bind_some,cond_false]
    rw [zBp ⟨by omega,by omega,by omega⟩]
    rw [zBp ⟨by omega,by omega,by omega⟩,zBp ⟨by omega,by omega,by omega⟩]
    have ep' : zBw N (side,cs) path (i : Int) ((b.take (n' : Int).toNat).drop (i : Int).toNat,(x.take (p : Int).toNat).drop (j : Int).toNat,(y.take (q : Int).toNat).drop (l : Int).toNat) = _:=ep
    rw [ep',zJL r1,zJL r2,zJL r3]
    obtain ⟨v1,v2,v3,v4⟩:=v
    obtain ⟨w1,w2,w3,w4⟩:=w
    obtain ⟨y1,y2,y3,y4⟩:=z
    simp only [Option.bind_some,ei]
    have hac1 : acc.length + (zED side path i (cutK b i n') (cutK x j p) (cutK y l q)).1.length ≤ 4294967296:=by omega
    rw [zBp hac1,zBp (by first | omega | (rw [List.length_append]; omega))]
    simp only [Option.bind_some]
    rw [zAL (by omega),zAL (by omega),zAL (by omega)]
    have ih:=zKH N side hs path hp b x y px py FR F hn hc hF k (n' + 1) (n' + 1) (p + 1) (q + 1) ((cs ++ (zED side path i (cutK b i n') (cutK x j p) (cutK y l q)).2) ++ (zFF FR side path n' (.mk v1 v2 v3 v4) (.mk w1 w2 w3 w4) (.mk y1 y2 y3 y4)).2) ((acc ++ (zED side path i (cutK b i n') (cutK x j p) (cutK y l q)).1) ++ (zFF FR side path n' (.mk v1 v2 v3 v4) (.mk w1 w2 w3 w4) (.mk y1 y2 y3 y4)).1)
     (by omega) (by omega) (Nat.le_refl _) (by omega) (by omega) ko.tail (by simp only [List.length_append]; omega) (by simp only [List.length_append]; omega)
    simp only [← List.append_assoc]
    exact ih
  ·obtain rfl : n = b.length:=by omega
   unfold zA1
   rw [zA7 (by omega),cond_false]
   have e : zF9 b.length px py b.length = []:=by unfold zF9; rw [Nat.sub_self]; rfl
   rw [e]
   exact ⟨i,j,l,cs,acc,rfl,hi,hj,hl,by unfold zEG; rfl,by unfold zEG; rfl⟩
theorem zSv (side : Int) (hs : side = 0 ∨ side = 1 ∨ side = 2) : ∀ (K n : Nat) (path : List Int) (cs : List Cf) (b x y : List Nd),Nd.cnts b < K → 4 * (Nd.ws b + Nd.ws x + Nd.ws y) + 300 < n → path.length + Nd.cnts b ≤ 900000 → okR b → okR x → okR y →
  Nd.cnts b ≤ 110 → Nd.cnts x ≤ 110 → Nd.cnts y ≤ 110 → Nd.ws b ≤ 15999999 → Nd.ws x ≤ 15999999 → Nd.ws y ≤ 15999999 → cs.length + (rowM K side path b x y).2.length ≤ 1000000 →
  zA0 n (side,cs) path b x y = some ((rowM K side path b x y).1,(side,cs ++ (rowM K side path b x y).2))
 | 0,n,_,_,_,_,_,h,_,_,_,_,_,_,_,_,_,_,_,_ => by omega
 | K + 1,0,_,_,_,_,_,_,h,_,_,_,_,_,_,_,_,_,_,_ => by omega
 | K + 1,n + 1,path,cs,b,x,y,hK,hn,hp,ob,ox,oy,cb,cx,cy,wb,wx,wy,hcs => by
  have lb:=Nd.cnts_len b
  have hbw:=Nd.cnts_ws b
  have hxw:=Nd.cnts_ws x
  have hyw:=Nd.cnts_ws y
  have p1:=partners_eq n b x (by omega) wb wx cb cx ob.2 ox.2 ob.1 ox.1
  have p2:=partners_eq n b y (by omega) wb wy cb cy ob.2 oy.2 ob.1 oy.1
  have hw:=zMi side (K + 1) path b x y
  have hlen:=Nd.ws_len (rowM (K + 1) side path b x y).1
  unfold rowM at hcs hw hlen
  unfold rowM
  unfold zA0
  simp only [p1,p2,Option.bind_some]
  rw [zIQ] at hcs hw hlen ⊢
  obtain ⟨i,j,l,cs',acc',e1,e2,e3,e4,e5,e6⟩:=zKH n side hs path (by omega) b x y (zCB b x) (zCB b y) (rowM K side) (zA9 n) (by omega) (by omega) (fun m p q v w z ds g1 g2 g3 g4 g5 hds => by
   obtain ⟨k,rfl⟩ : ∃ k,n = k + 1:=⟨n - 1,by omega⟩
   have mv:=List.mem_of_getElem? g1
   have mw:=List.mem_of_getElem? g2
   have mz:=List.mem_of_getElem? g3
   have cv:=Nd.cnts_mem mv
   have cw:=Nd.cnts_mem mw
   have cz:=Nd.cnts_mem mz
   have wv:=Nd.w_mem mv
   have ww:=Nd.w_mem mw
   have wz:=Nd.w_mem mz
   have kv:=v.cnt_kids
   have kw:=w.cnt_kids
   have kz:=z.cnt_kids
   have uv:=v.w_eq
   have uw:=w.w_eq
   have uz:=z.w_eq
   have mb:=(List.getElem?_eq_some_iff.1 g1).1
   have lv:=Nd.cnts_len v.kids
   have loop:=zLZ k side path m v.kids w.kids z.kids (zA0 k) (rowM K side) (by omega) (by omega) (by omega) (zFT g4) (zFT g5) (fun s u u' u'' es h1 h2 h3 hes => by
    have n1:=List.mem_of_getElem? h1
    have n2:=List.mem_of_getElem? h2
    have n3:=List.mem_of_getElem? h3
    have d1:=Nd.cnts_mem n1
    have d2:=Nd.cnts_mem n2
    have d3:=Nd.cnts_mem n3
    have f1:=Nd.w_mem n1
    have f2:=Nd.w_mem n2
    have f3:=Nd.w_mem n3
    have k1:=u.cnt_kids
    have k2:=u'.cnt_kids
    have k3:=u''.cnt_kids
    have j1:=u.w_eq
    have j2:=u'.w_eq
    have j3:=u''.w_eq
    exact zSv side hs K k (path ++ [(m : Int),(s : Int)]) es u.kids u'.kids u''.kids (by omega) (by omega) (by simp only [List.length_append,List.length_cons,List.length_nil]; omega) (ob.sub mv n1).1 (ox.sub mw n2).1 (oy.sub mz n3).1 (by omega) (by omega) (by omega) (by omega) (by omega) (by omega) hes)
   obtain ⟨v1,v2,v3,v4⟩:=v
   obtain ⟨w1,w2,w3,w4⟩:=w
   obtain ⟨z1,z2,z3,z4⟩:=z
   simp only [Nd.kids] at loop
   unfold zA9
   have key : ds.length + (zBC (rowM K side) path m 0 v4 w4 z4).2.length ≤ 1000000 → zA2 (zA0 k) k path (m : Int) v4 w4 z4 k side 0 ds [] = some (side,ds ++ (zBC (rowM K side) path m 0 v4 w4 z4).2,(zBC (rowM K side) path m 0 v4 w4 z4).1):=fun hd => by
    have:=loop k 0 ds [] (by simp only [Nd.kids] at lv kv; omega) (Nat.zero_le _) (Nat.le_refl _) (by simpa using hd)
    simpa using this
   by_cases t1 : w2 = v2
   ·rw [zRR (show (Nd.mk w1 w2 w3 w4).text = (Nd.mk v1 v2 v3 v4).text from t1)] at hds ⊢
    simp only [Nd.text,Nd.kind,Nd.cols,Nd.kids] at hds ⊢
    rw [show (w2 == v2) = true from beq_iff_eq.2 t1]
    simp only [cond_true,Option.bind_some,key hds]
   ·rw [show (w2 == v2) = false from beq_eq_false_iff_ne.2 t1]
    simp only [cond_false]
    by_cases t2 : z2 = v2 ∨ z2 = w2
    ·rw [zRS (show ¬ (Nd.mk w1 w2 w3 w4).text = (Nd.mk v1 v2 v3 v4).text from t1) (show (Nd.mk z1 z2 z3 z4).text = (Nd.mk v1 v2 v3 v4).text ∨ (Nd.mk z1 z2 z3 z4).text = (Nd.mk w1 w2 w3 w4).text from t2)] at hds ⊢
     simp only [Nd.text,Nd.kind,Nd.cols,Nd.kids] at hds ⊢
     have hb : (bif z2 == v2 then some true else some (z2 == w2) : Option Bool) = some true:=by
      rcases t2 with t2 | t2
      ·rw [show (z2 == v2) = true from beq_iff_eq.2 t2]; rfl
      ·rw [show (z2 == w2) = true from beq_iff_eq.2 t2]; cases (z2 == v2) <;> rfl
     rw [hb]
     simp only [cond_true,Option.bind_some,key hds]
    ·rw [zRT (show ¬ (Nd.mk w1 w2 w3 w4).text = (Nd.mk v1 v2 v3 v4).text from t1) (show ¬ ((Nd.mk z1 z2 z3 z4).text = (Nd.mk v1 v2 v3 v4).text ∨ (Nd.mk z1 z2 z3 z4).text = (Nd.mk w1 w2 w3 w4).text) from t2)] at hds ⊢
     dsimp only at hds ⊢
     have hb : (bif z2 == v2 then some true else some (z2 == w2) : Option Bool) = some false:=by
      rw [show (z2 == v2) = false from beq_eq_false_iff_ne.2 fun e => t2 (.inl e),show (z2 == w2) = false from beq_eq_false_iff_ne.2 fun e => t2 (.inr e)]; rfl
     rw [hb]
     have ec:=zKs k side ds path m [.mk v1 v2 v3 v4] [.mk w1 w2 w3 w4] [.mk z1 z2 z3 z4] hs (by simp only [Nd.cnts]; omega) (by simp only [Nd.cnts]; omega) (by omega) (by omega) (by simp only [List.length_cons,List.length_nil] at hds; omega)
     simp only [cond_false,Option.bind_some,ec]
     rfl) n 0 0 0 0 cs [] (by omega) (Nat.zero_le _) (Nat.le_refl _) (Nat.zero_le _) (Nat.zero_le _) (zP2 b x y 0) hcs (by rw [List.length_nil]; omega)
  have e1' : zA1 (zA9 n) n path b x y (vecK b.length (zCB b x)) (vecK b.length (zCB b y)) n side 0 0 0 0 cs [] = _:=e1
  rw [e1']
  simp only [Option.bind_some]
  rw [zBp ⟨by omega,by omega,by omega⟩,zBp ⟨by omega,by omega,by omega⟩,zBp ⟨by omega,by omega,by omega⟩]
  simp only [Int.toNat_natCast,List.take_length]
  have c1:=zFD b i
  have c2:=zFD x j
  have c3:=zFD y l
  have hl6:=congrArg List.length e6
  have hl5:=congrArg List.length e5
  simp only [List.length_append,List.length_nil] at hl5 hl6
  have ep:=zSg n side cs' path i (b.drop i) (x.drop j) (y.drop l) hs (by omega) (by omega) (by omega) (by omega) (by omega)
  rw [ep]
  simp only [Option.bind_some]
  rw [zBp (by omega),e5,e6,List.nil_append]
end Go.Proofs.YtgfneloodabafaaGreatDoor
namespace Go.Proofs.YtgfneloodabafaaGreatDoor
open Go.Abs
noncomputable def zBn (side : Int) (b x y : Nd) : Nd × List Cf × Int :=
 if zBD b = true ∧ zBD x = true ∧ zBD y = true then
  (if zBD (rowK (rowM 111 side [] b.kids x.kids y.kids).1) = true then (rowK (rowM 111 side [] b.kids x.kids y.kids).1,(rowM 111 side [] b.kids x.kids y.kids).2,0) else (zPi,[],6))
 else (zPi,[],1)
theorem zUa (n : Nat) (side : Int) (hs : side = 0 ∨ side = 1 ∨ side = 2) (b x y : Nd) (hn : 4 * (b.w + x.w + y.w) + 400 < n) (wb : b.w ≤ 16000000) (wx : x.w ≤ 16000000) (wy : y.w ≤ 16000000) (cb : b.cnt ≤ 110) (cx : x.cnt ≤ 110) (cy : y.cnt ≤ 110) (rb : b.rng) (rx : x.rng) (ry : y.rng) :
  ∃ cs,zBO n (side,[]) b x y = some ((zBn side b x y).1,(zBn side b x y).2.2,(side,cs)) ∧ ((zBn side b x y).2.2 = 0 → cs = (zBn side b x y).2.1):=by
 have v1:=zDs n b (by omega) (by omega)
 have v2:=zDs n x (by omega) (by omega)
 have v3:=zDs n y (by omega) (by omega)
 have b1:=b.w_eq
 have b2:=x.w_eq
 have b3:=y.w_eq
 have c1:=b.cnt_kids
 have c2:=x.cnt_kids
 have c3:=y.cnt_kids
 unfold zBn
 by_cases h : zBD b = true ∧ zBD x = true ∧ zBD y = true
 ·rw [if_pos h]
  obtain ⟨o1,e1⟩:=zL4 h.1 rb
  obtain ⟨o2,e2⟩:=zL4 h.2.1 rx
  obtain ⟨o3,e3⟩:=zL4 h.2.2 ry
  have hcs:=zQD side 111 [] b.kids x.kids y.kids
  have hws:=zMi side 111 [] b.kids x.kids y.kids
  have hr:=zSv side hs 111 n [] [] b.kids x.kids y.kids (by omega) (by omega) (by simp only [List.length_nil]; omega) o1 o2 o3 (by omega) (by omega) (by omega) (by omega) (by omega) (by omega) (by simp only [List.length_nil]; omega)
  have wr : (rowK (rowM 111 side [] b.kids x.kids y.kids).1).w = Nd.ws (rowM 111 side [] b.kids x.kids y.kids).1 + 1:=by simp [rowK,Nd.w]
  have vr:=zDs n (rowK (rowM 111 side [] b.kids x.kids y.kids).1) (by omega) (by omega)
  rw [h.1] at v1
  rw [h.2.1] at v2
  rw [h.2.2] at v3
  unfold rowK at vr
  unfold rowK
  obtain ⟨p1,p2,p3,p4⟩:=b
  obtain ⟨q1,q2,q3,q4⟩:=x
  obtain ⟨r1,r2,r3,r4⟩:=y
  simp only [Nd.kids] at hr vr ⊢
  refine ⟨(rowM 111 side [] p4 q4 r4).2,?_⟩
  unfold zBO
  simp only [v1,v2,v3,Option.bind_some,Bool.not_true,cond_false,hr,vr,List.nil_append]
  by_cases hv : zBD (Nd.mk 1 [] 0 (rowM 111 side [] p4 q4 r4).1) = true
  ·simp only [hv,if_true,Bool.not_true,cond_false]
   exact ⟨trivial,fun _ => trivial⟩
  ·have hv' : zBD (Nd.mk 1 [] 0 (rowM 111 side [] p4 q4 r4).1) = false:=Bool.eq_false_iff.2 hv
   simp only [hv',Bool.false_eq_true,if_false,Bool.not_false,cond_true]
   exact ⟨rfl,fun h => by cases h⟩
 ·rw [if_neg h]
  refine ⟨[],?_,fun h => by cases h⟩
  obtain ⟨p1,p2,p3,p4⟩:=b
  obtain ⟨q1,q2,q3,q4⟩:=x
  obtain ⟨r1,r2,r3,r4⟩:=y
  unfold zBO
  simp only [v1,v2,v3,Option.bind_some]
  cases g1 : zBD (Nd.mk p1 p2 p3 p4) with
  | false => rfl
  | true =>
   cases g2 : zBD (Nd.mk q1 q2 q3 q4) with
   | false => rfl
   | true =>
    cases g3 : zBD (Nd.mk r1 r2 r3 r4) with
    | false => rfl
    | true => exact absurd ⟨g1,g2,g3⟩ h
theorem zRc (side : Int) (b x y : Nd) : (zBn side b x y).2.2 ≠ 0 → (zBn side b x y).1 = zPi ∧ (zBn side b x y).2.1 = []:=by
 unfold zBn
 split
 ·split
  ·intro h; exact absurd rfl h
  ·intro _; exact ⟨rfl,rfl⟩
 ·intro _; exact ⟨rfl,rfl⟩
theorem zSV (n : Nat) (b x y : Nd) (hn : 4 * (b.w + x.w + y.w) + 400 < n) (wb : b.w ≤ 16000000) (wx : x.w ≤ 16000000) (wy : y.w ≤ 16000000) (cb : b.cnt ≤ 110) (cx : x.cnt ≤ 110) (cy : y.cnt ≤ 110) (rb : b.rng) (rx : x.rng) (ry : y.rng) :
  zB4 n b x y = some ((zBn 0 b x y).1,(zBn 0 b x y).2.1,(zBn 0 b x y).2.2):=by
 obtain ⟨cs,h1,h2⟩:=zUa n 0 (.inl rfl) b x y hn wb wx wy cb cx cy rb rx ry
 have h3:=zRc 0 b x y
 obtain ⟨p1,p2,p3,p4⟩:=b
 obtain ⟨q1,q2,q3,q4⟩:=x
 obtain ⟨r1,r2,r3,r4⟩:=y
 unfold zB4
 dsimp only
 rw [h1]
 generalize zBn 0 (Nd.mk p1 p2 p3 p4) (Nd.mk q1 q2 q3 q4) (Nd.mk r1 r2 r3 r4) = m at *
 obtain ⟨⟨m1,m2,m3,m4⟩,ms,me⟩:=m
 dsimp only at h2 h3 ⊢
 simp only [Option.bind_some]
 by_cases he : me = 0
 ·subst he
  rw [h2 rfl]; rfl
 ·obtain ⟨g1,g2⟩:=h3 he
  rw [show (me != 0) = true from bne_iff_ne.2 he,cond_true,g1,g2]; rfl
theorem zS5 (n : Nat) (a b c : Nd) (h : 110 < n) : ∃ y,zGP n a b c = some y ∧ (y = true → a.cnt ≤ 100 ∧ b.cnt ≤ 100 ∧ c.cnt ≤ 100):=by
 obtain ⟨y1,h1,g1⟩:=zRt n a 100 (by omega) (by omega)
 obtain ⟨y2,h2,g2⟩:=zRt n b 100 (by omega) (by omega)
 obtain ⟨y3,h3,g3⟩:=zRt n c 100 (by omega) (by omega)
 rw [show ((100 : Nat) : Int) = 100 from rfl] at h1 h2 h3
 obtain ⟨a1,a2,a3,a4⟩:=a
 obtain ⟨b1,b2,b3,b4⟩:=b
 obtain ⟨c1,c2,c3,c4⟩:=c
 refine ⟨y1 && (y2 && y3),?_,fun h => ?_⟩
 ·unfold zGP
  simp only [h1,h2,h3,Option.bind_some]
  cases y1 <;> cases y2 <;> rfl
 ·simp only [Bool.and_eq_true] at h
  exact ⟨g1 h.1,g2 h.2.1,g3 h.2.2⟩
end Go.Proofs.YtgfneloodabafaaGreatDoor
namespace Go.Proofs.YtgfneloodabafaaGreatDoor
open Go.Abs
def swC (c : Cf) : Cf:=(c.1,c.2.1,c.2.2.1,c.2.2.2.2,c.2.2.2.1)
end Go.Proofs.YtgfneloodabafaaGreatDoor
namespace Go.Proofs.YtgfneloodabafaaGreatDoor
open Go.Abs
theorem zOf {n : Nd} {i s : Int} {p : List Int} (h : ¬ (0 ≤ i ∧ i < n.kids.length)) : zKw n (i :: s :: p) = none:=by rw [zKw,if_neg h]
theorem zOg {n x : Nd} {i : Nat} {s : Int} {p : List Int} (hx : n.kids[i]? = some x) (h : ¬ (0 ≤ s ∧ s < x.kids.length)) : zKw n ((i : Int) :: s :: p) = none:=by
 have hl:=(List.getElem?_eq_some_iff.1 hx).1
 rw [zKw,if_pos ⟨by omega,by omega⟩]
 simp only [List.getD_eq_getElem?_getD,Int.toNat_natCast,hx,Option.getD_some]
 rw [if_neg h]
theorem zHO {n x z : Nd} {i s : Nat} {p : List Int} (hx : n.kids[i]? = some x) (hz : x.kids[s]? = some z) : zKw n ((i : Int) :: (s : Int) :: p) = zKw z p:=by
 have hl:=(List.getElem?_eq_some_iff.1 hx).1
 have hl2:=(List.getElem?_eq_some_iff.1 hz).1
 rw [zKw,if_pos ⟨by omega,by omega⟩]
 simp only [List.getD_eq_getElem?_getD,Int.toNat_natCast,hx,hz,Option.getD_some]
 rw [if_pos ⟨by omega,by omega⟩]
end Go.Proofs.YtgfneloodabafaaGreatDoor
namespace Go.Proofs.YtgfneloodabafaaGreatDoor
open Go.Abs
theorem zQ2 {t t' : Nd} (h : t.kids = t'.kids) : ∀ {p : List Int} {r : Nd},zKw t p = some r → ∃ r',zKw t' p = some r' ∧ r'.kids = r.kids
 | [],r,e => by
  obtain rfl:=Option.some.inj (show some t = some r from e)
  exact ⟨t',rfl,h.symm⟩
 | [_],r,e => by cases e
 | i :: s :: p,r,e => by
  by_cases h1 : 0 ≤ i ∧ i < t.kids.length
  ·have hi : i.toNat < t.kids.length:=by omega
   have hx : t.kids[i.toNat]? = some t.kids[i.toNat]:=List.getElem?_eq_getElem hi
   have hx' : t'.kids[i.toNat]? = some t.kids[i.toNat]:=by rw [← h]; exact hx
   have ei : ((i.toNat : Nat) : Int) = i:=by omega
   by_cases h2 : 0 ≤ s ∧ s < (t.kids[i.toNat]).kids.length
   ·have hs : s.toNat < (t.kids[i.toNat]).kids.length:=by omega
    have hz : (t.kids[i.toNat]).kids[s.toNat]? = some (t.kids[i.toNat]).kids[s.toNat]:=List.getElem?_eq_getElem hs
    have es : ((s.toNat : Nat) : Int) = s:=by omega
    have s1:=zHO (p:=p) hx hz
    have s2:=zHO (n:=t') (p:=p) hx' hz
    rw [ei,es] at s1 s2
    rw [s1] at e
    exact ⟨r,s2.trans e,rfl⟩
   ·have:=zOg (s:=s) (p:=p) hx h2
    rw [ei] at this
    rw [this] at e
    cases e
  ·rw [zOf h1] at e
   cases e
def CfOk (b x y : List Nd) (path : List Int) (c : Cf) : Prop :=
 ∃ (rest : List Int) (r : Nd) (f t : Nat),c.1 = path ++ rest ∧ rest.length ≤ 2 * Nd.cnts b ∧ zKw (rowK b) rest = some r ∧ c.2.1 = (f : Int) ∧ c.2.2.1 = (t : Int) ∧ f ≤ t ∧ t ≤ r.kids.length ∧
  c.2.2.2.1 ≠ c.2.2.2.2 ∧ c.2.2.2.1 ≠ cutK r.kids f t ∧ c.2.2.2.2 ≠ cutK r.kids f t ∧ Nd.cnts c.2.2.2.1 ≤ Nd.cnts x ∧ Nd.cnts c.2.2.2.2 ≤ Nd.cnts y
theorem zRI {l : List Nd} {p q : Nat} (h : p ≤ q) (h' : q ≤ l.length) : (cutK l p q).length = q - p:=by
 unfold cutK
 rw [List.length_drop,List.length_take]
 omega
theorem zOT {side : Int} {path : List Int} {b x y cx cy : List Nd} {i n : Nat} (h : i ≤ n) (h' : n ≤ b.length) (hx : Nd.cnts cx ≤ Nd.cnts x) (hy : Nd.cnts cy ≤ Nd.cnts y) {c : Cf} (hc : c ∈ (zED side path i (cutK b i n) cx cy).2) : CfOk b x y path c:=by
 unfold zED at hc
 split at hc
 ·cases hc
 ·rename_i h1
  split at hc
  ·cases hc
  ·rename_i h2
   obtain rfl:=List.mem_singleton.1 hc
   have el : i + (cutK b i n).length = n:=by rw [zRI h h']; omega
   refine ⟨[],rowK b,i,n,(List.append_nil _).symm,Nat.zero_le _,rfl,rfl,?_,h,h',?_,?_,?_,hx,hy⟩
   ·show (i : Int) + ((cutK b i n).length : Int) = (n : Int)
    omega
   ·exact fun e => h2 (.inr e.symm)
   ·exact h1
   ·exact fun e => h2 (.inl e)
theorem zQL {F : RowF} {path : List Int} {i : Nat} {c : Cf} : ∀ (s : Nat) (b x y : List Nd),c ∈ (zBC F path i s b x y).2 → ∃ (r : Nat) (u v w : Nd),b[r]? = some u ∧ x[r]? = some v ∧ y[r]? = some w ∧ c ∈ (F (path ++ [(i : Int),((s + r : Nat) : Int)]) u.kids v.kids w.kids).2
 | s,b :: bs,x :: xs,y :: ys,h => by
  simp only [zBC] at h
  rcases List.mem_append.1 h with h | h
  ·exact ⟨0,b,x,y,rfl,rfl,rfl,h⟩
  ·obtain ⟨r,u,v,w,h1,h2,h3,h4⟩:=zQL (s + 1) bs xs ys h
   exact ⟨r + 1,u,v,w,h1,h2,h3,by rw [show s + (r + 1) = s + 1 + r by omega]; exact h4⟩
 | s,[],_,_,h => by simp only [zBC] at h; cases h
 | s,_ :: _,[],_,h => by simp only [zBC] at h; cases h
 | s,_ :: _,_ :: _,[],h => by simp only [zBC] at h; cases h
theorem zPf {F : RowF} {side : Int} {path : List Int} {b x y : List Nd} (hF : ∀ p b x y,∀ c ∈ (F p b x y).2,CfOk b x y p c) : ∀ (T : List (Nat × Nat × Nat)) (i j k : Nat),i ≤ b.length → KO b x y i j k T → ∀ c ∈ (zEG F side path b x y i j k T).2,CfOk b x y path c
 | [],i,j,k,hi,_,c,hc => by
  unfold zEG at hc
  have e : b.drop i = cutK b i b.length:=by unfold cutK; rw [List.take_length]
  rw [e] at hc
  have h1:=zFD x j
  have h2:=zFD y k
  exact zOT hi (Nat.le_refl _) (by omega) (by omega) hc
 | (n,p,q) :: T,i,j,k,hi,ko,c,hc => by
  obtain ⟨o1,o2,o3,v,w,z,r1,r2,r3,r4,r5⟩:=ko.head
  have hn:=(List.getElem?_eq_some_iff.1 r1).1
  simp only [zEG,appK,zDF r1,zDF r2,zDF r3] at hc
  rcases List.mem_append.1 hc with hc | hc
  ·exact zOT o1 (by omega) (zFv x j p) (zFv y k q) hc
  ·rcases List.mem_append.1 hc with hc | hc
   ·have mv:=List.mem_of_getElem? r1
    have cv:=Nd.cnts_mem mv
    have cw:=Nd.cnts_mem (List.mem_of_getElem? r2)
    have cz:=Nd.cnts_mem (List.mem_of_getElem? r3)
    have kv:=v.cnt_kids
    have kw:=w.cnt_kids
    have kz:=z.cnt_kids
    have slots : c ∈ (zBC F path n 0 v.kids w.kids z.kids).2 → CfOk b x y path c:=fun hc => by
     obtain ⟨s,u,u',u'',g1,g2,g3,g4⟩:=zQL 0 _ _ _ hc
     obtain ⟨rest,r,f,t,h1,h2,h3,h4,h5,h6,h7,h8,h9,h10,h11,h12⟩:=hF _ _ _ _ c g4
     have e1:=Nd.cnts_mem (List.mem_of_getElem? g1)
     have e2:=Nd.cnts_mem (List.mem_of_getElem? g2)
     have e3:=Nd.cnts_mem (List.mem_of_getElem? g3)
     have ku:=u.cnt_kids
     have ku':=u'.cnt_kids
     have ku'':=u''.cnt_kids
     obtain ⟨r',f1,f2⟩:=zQ2 (t:=rowK u.kids) (t':=u) rfl h3
     refine ⟨[(n : Int),(s : Int)] ++ rest,r',f,t,?_,?_,?_,h4,h5,h6,by rw [f2]; exact h7,h8,by rw [f2]; exact h9,by rw [f2]; exact h10,by omega,by omega⟩
     ·rw [h1,Nat.zero_add,List.append_assoc]
     ·simp only [List.length_append,List.length_cons,List.length_nil]; omega
     ·exact (zHO (n:=rowK b) r1 g1).trans f1
    unfold zFF at hc
    split at hc
    ·exact slots hc
    ·rename_i t1
     split at hc
     ·exact slots hc
     ·rename_i t2
      obtain rfl:=List.mem_singleton.1 hc
      have e : cutK b n (n + 1) = [v]:=by
       have:=zQh (l:=b) (Nat.le_succ n)
       rw [zCX r1] at this
       have hl:=zRI (l:=b) (Nat.le_succ n) hn
       rw [Nat.succ_eq_add_one] at this hl
       match hcut : cutK b n (n + 1),hl with
       | [v'],_ => rw [hcut] at this; rw [(List.cons.inj this).1]
       | [],hl => simp at hl
       | _ :: _ :: _,hl => simp only [List.length_cons] at hl; omega
      refine ⟨[],rowK b,n,n + 1,(List.append_nil _).symm,Nat.zero_le _,rfl,rfl,rfl,Nat.le_succ n,hn,?_,?_,?_,?_,?_⟩
      ·exact fun h => t2 (.inr (by rw [(List.cons.inj h).1]))
      ·intro h
       rw [show cutK (rowK b).kids n (n + 1) = [v] from e] at h
       exact t1 (by rw [(List.cons.inj h).1])
      ·intro h
       rw [show cutK (rowK b).kids n (n + 1) = [v] from e] at h
       exact t2 (.inl (by rw [(List.cons.inj h).1]))
      ·simp only [Nd.cnts]; omega
      ·simp only [Nd.cnts]; omega
   ·exact zPf hF T (n + 1) (p + 1) (q + 1) hn ko.tail c hc
theorem zQC (side : Int) : ∀ (N : Nat) (p : List Int) (b x y : List Nd),∀ c ∈ (rowM N side p b x y).2,CfOk b x y p c
 | 0,_,_,_,_,_,h => by cases h
 | N + 1,p,b,x,y,c,h => by
  unfold rowM at h
  exact zPf (zQC side N) _ 0 0 0 (Nat.zero_le _) (zPG b x y) c h
end Go.Proofs.YtgfneloodabafaaGreatDoor
namespace Go.Proofs.YtgfneloodabafaaGreatDoor
open Go.Abs
theorem zJy (L : List (Nat × Nat)) (i : Nat) (hl : L.length ≤ 1073741824) : ∀ (k s : Nat),L.length - s < k → s ≤ L.length →
  zB2 (L.map zFc) (i : Int) k (s : Int) = some (match (L.drop s).find? (fun u => u.1 == i) with | some u => .ret (u.2 : Int) | none => .go ())
 | 0,s,h,_ => by omega
 | k + 1,s,h,hs => by
  unfold zB2
  rw [List.length_map]
  by_cases hj : s < L.length
  ·have hm : at? (L.map zFc) (s : Int) = some (zFc L[s]):=zKF zFc hj
   rw [zBh (Int.ofNat_lt.2 hj),cond_true,hm,List.drop_eq_getElem_cons hj,List.find?_cons]
   generalize L[s] = u
   simp only [Option.bind_some,zFc,zDc]
   cases hc : (u.1 == i) with
   | true => rfl
   | false =>
    simp only [cond_false]
    rw [zAL (by omega)]
    exact zJy L i hl k (s + 1) (by omega) (by omega)
  ·rw [zA7 (by omega),cond_false,List.drop_of_length_le (by omega)]; rfl
theorem zL8 (n : Nat) (L : List (Nat × Nat)) (i : Nat) (hl : L.length ≤ 1073741824) (hn : L.length < n) : zDr n (L.map zFc) (i : Int) = some (parZ L i):=by
 have h:=zJy L i hl n 0 (by omega) (Nat.zero_le _)
 rw [show ((0 : Nat) : Int) = 0 from rfl,List.drop_zero] at h
 unfold zDr parZ parK
 dsimp only
 rw [h]
 cases L.find? (fun u => u.1 == i) <;> rfl
theorem zJB (n : Nat) (a b : List Nd) (h : 4 * Nd.ws a + 4 * Nd.ws b + 200 < n) (ha : Nd.ws a ≤ 15999999) (hb : Nd.ws b ≤ 15999999) (ca : Nd.cnts a ≤ 110) (cb : Nd.cnts b ≤ 110) (ra : (rowK a).rng) (rb : (rowK b).rng) : zEg n a b = some ((zCB a b).map zFc):=by
 have k1:=Nd.cnts_ws a
 have k2:=Nd.cnts_ws b
 have l1:=Nd.cnts_len a
 have l2:=Nd.cnts_len b
 have e4:=(zSk n).2 a b (by omega) (by omega) (by omega)
 have e5:=zGo n (a:=a) (b:=b) (by omega) (by omega) (by omega) (fun x hx => by have:=Nd.w_mem hx; exact ⟨by omega,by omega,zG7 ra (t:=rowK a) hx⟩) (fun x hx => by have:=Nd.w_mem hx; exact ⟨by omega,by omega,zG7 rb (t:=rowK b) hx⟩) n 0 0 [] (by omega) (by omega) (by omega) (by simp)
 rw [show ((0 : Nat) : Int) = 0 from rfl,List.drop_zero,List.drop_zero,List.nil_append] at e5
 have hf : zBM n 0 0 a b = zCB a b:=zFb _ _ _ _ _ _ (by omega) (by omega)
 rw [hf] at e5
 unfold zEg
 simp only [e4,e5,Option.bind_some]
theorem zNl (n : Nat) (a b : List Nd) (h : 2 * Nd.cnts a + 1 < n) (hc : Nd.cnts a ≤ 67108864) : ∃ r,zBd n a b = some r ∧ (r = true ↔ a = b):=(zH3 n).2 a b h hc
theorem zJC (n : Nat) (side : Int) (cs : List Cf) (path : List Int) (i : Nat) (b x y : List Nd) (hs : side = 0 ∨ side = 1 ∨ side = 2) (hb : b.length ≤ 1000000) (hp : path.length ≤ 1000000) (hi : i ≤ 1000000) (hl : cs.length ≤ 1000000) :
  zBA n (side,cs) path (i : Int) b x y = some (zPY side b x y,(side,cs ++ [(path,(i : Int),(i : Int) + b.length,x,y)])):=by
 unfold zBA
 dsimp only
 rw [zBp ⟨by omega,by omega⟩,wrap64_in (n:=(i : Int) + (b.length : Int)) (by omega) (by omega)]
 rcases hs with rfl | rfl | rfl <;> rfl
theorem zQE (n : Nat) (side : Int) (cs : List Cf) (path : List Int) (i : Nat) (b x y : List Nd) (hs : side = 0 ∨ side = 1 ∨ side = 2) (hn : 2 * Nd.cnts b + 2 * Nd.cnts x + 2 * Nd.cnts y + 10 < n) (hc : Nd.cnts b + Nd.cnts x + Nd.cnts y ≤ 1000000) (hp : path.length ≤ 1000000) (hi : i ≤ 1000000) (hl : cs.length ≤ 1000000) :
  zBQ n (side,cs) path (i : Int) b x y = some ((zED side path i b x y).1,(side,cs ++ (zED side path i b x y).2)):=by
 have lb:=Nd.cnts_len b
 have ec:=zJC n side cs path i b x y hs (by omega) hp hi hl
 obtain ⟨r1,h1,g1⟩:=zNl n x b (by omega) (by omega)
 obtain ⟨r2,h2,g2⟩:=zNl n y b (by omega) (by omega)
 obtain ⟨r3,h3,g3⟩:=zNl n y x (by omega) (by omega)
 unfold zBQ zED
 simp only [h1,h2,h3,Option.bind_some]
 cases r1 with
 | true => rw [if_pos (g1.1 rfl),List.append_nil]; rfl
 | false =>
  rw [if_neg fun h => by have:=g1.2 h; cases this]
  simp only [cond_false]
  cases r2 with
  | true => rw [if_pos (.inl (g2.1 rfl)),List.append_nil]; rfl
  | false =>
   cases r3 with
   | true => rw [if_pos (.inr (g3.1 rfl)),List.append_nil]; rfl
   | false =>
    rw [if_neg fun h => h.elim (fun h => by have:=g2.2 h; cases this) fun h => by have:=g3.2 h; cases this]
    simp only [cond_false,Option.bind_some,ec]
abbrev zUg:=(Int × List Cf) → List Int → Int → Nd → Nd → Nd → Option (Nd × (Int × List Cf))
theorem zMg (side : Int) (path : List Int) (i : Nat) (bk xk yk : List Nd) (F : zUi) (FR : RowF) (hp : path.length ≤ 1000000) (hb : bk.length ≤ 1000000) (hx : bk.length = xk.length) (hy : bk.length = yk.length)
  (hF : ∀ (s : Nat) (u v w : Nd) (cs : List Cf),bk[s]? = some u → xk[s]? = some v → yk[s]? = some w → cs.length + (FR (path ++ [(i : Int),(s : Int)]) u.kids v.kids w.kids).2.length ≤ 1000000 →
   F (side,cs) (path ++ [(i : Int),(s : Int)]) u.kids v.kids w.kids = some ((FR (path ++ [(i : Int),(s : Int)]) u.kids v.kids w.kids).1,(side,cs ++ (FR (path ++ [(i : Int),(s : Int)]) u.kids v.kids w.kids).2))) :
  ∀ (k s : Nat) (cs : List Cf) (acc : List Nd),bk.length - s < k → s ≤ bk.length → acc.length ≤ s → cs.length + (zBC FR path i s (bk.drop s) (xk.drop s) (yk.drop s)).2.length ≤ 1000000 →
   zBg F path (i : Int) bk xk yk k side (s : Int) cs acc = some (side,cs ++ (zBC FR path i s (bk.drop s) (xk.drop s) (yk.drop s)).2,acc ++ (zBC FR path i s (bk.drop s) (xk.drop s) (yk.drop s)).1)
 | 0,s,cs,acc,h,_,_,_ => by omega
 | k + 1,s,cs,acc,h,hs,ha,hc => by
  unfold zBg
  by_cases hj : s < bk.length
  ·have g1 : bk[s]? = some bk[s]:=List.getElem?_eq_getElem hj
   have g2 : xk[s]? = some (xk[s]'(by omega)):=List.getElem?_eq_getElem (by omega)
   have g3 : yk[s]? = some (yk[s]'(by omega)):=List.getElem?_eq_getElem (by omega)
   generalize bk[s] = u at *
   generalize xk[s]'(by omega) = v at *
   generalize yk[s]'(by omega) = w at *
   have hc':=hc
   rw [zCX g1,zCX g2,zCX g3] at hc'
   simp only [zBC,List.length_append] at hc'
   have e1:=hF s u v w cs g1 g2 g3 (by omega)
   rw [zBh (Int.ofNat_lt.2 hj),cond_true,zBp (by rw [List.length_nil]; omega),zBp (by rw [List.length_cons,List.length_cons,List.length_nil]; omega),zJL g1,zJL g2,zJL g3,zCX g1,zCX g2,zCX g3]
   obtain ⟨u1,u2,u3,u4⟩:=u
   obtain ⟨v1,v2,v3,v4⟩:=v
   obtain ⟨w1,w2,w3,w4⟩:=w
   simp only [Nd.kids] at e1 hc'
   simp only [Option.bind_some,e1,zEf]
   have ih:=zMg side path i bk xk yk F FR hp hb hx hy hF k (s + 1) (cs ++ (FR (path ++ [(i : Int),(s : Int)]) u4 v4 w4).2) (acc ++ [Nd.mk 1 [] 0 (FR (path ++ [(i : Int),(s : Int)]) u4 v4 w4).1]) (by omega) (by omega) (by simp only [List.length_append,List.length_cons,List.length_nil]; omega) (by simp only [List.length_append]; omega)
   rw [zBp (by simp only [List.length_cons,List.length_nil]; omega),zAL (by omega),ih]
   simp only [zBC,Nd.kids,rowK,List.append_assoc,List.cons_append,List.nil_append]
  ·rw [zA7 (by omega),cond_false,List.drop_of_length_le (by omega)]
   simp only [zBC,List.append_nil]
theorem zK2 (N : Nat) (side : Int) (hs : side = 0 ∨ side = 1 ∨ side = 2) (path : List Int) (hp : path.length ≤ 1000000) (b x y : List Nd) (px py : List (Nat × Nat)) (FR : RowF) (F : zUg) (hpx : px.length ≤ 1000000 ∧ px.length < N) (hpy : py.length ≤ 1000000 ∧ py.length < N)
  (hn : 2 * Nd.cnts b + 2 * Nd.cnts x + 2 * Nd.cnts y + 10 < N) (hc : Nd.cnts b + Nd.cnts x + Nd.cnts y ≤ 1000000)
  (hF : ∀ (n p q : Nat) (v w z : Nd) (cs : List Cf),b[n]? = some v → x[p]? = some w → y[q]? = some z → zBK v w = true → zBK v z = true → cs.length + (zFF FR side path n v w z).2.length ≤ 1000000 →
   ∃ w',(zFF FR side path n v w z).1 = [w'] ∧ F (side,cs) path (n : Int) v w z = some (w',(side,cs ++ (zFF FR side path n v w z).2))) :
  ∀ (k n i j l : Nat) (cs : List Cf) (acc : List Nd),b.length - n < k → n ≤ b.length → i ≤ n → j ≤ x.length → l ≤ y.length → KO b x y i j l (zF9 b.length px py n) →
   cs.length + (zEG FR side path b x y i j l (zF9 b.length px py n)).2.length ≤ 1000000 → acc.length + (zEG FR side path b x y i j l (zF9 b.length px py n)).1.length ≤ 4294967296 →
   ∃ (i' j' l' : Nat) (cs' : List Cf) (acc' : List Nd),zBb F N path b x y (px.map zFc) (py.map zFc) k side (i : Int) (j : Int) (l : Int) (n : Int) cs acc = some ((i' : Int),(j' : Int),(l' : Int),side,cs',acc') ∧
    i' ≤ b.length ∧ j' ≤ x.length ∧ l' ≤ y.length ∧ acc' ++ (zED side path i' (b.drop i') (x.drop j') (y.drop l')).1 = acc ++ (zEG FR side path b x y i j l (zF9 b.length px py n)).1 ∧
    cs' ++ (zED side path i' (b.drop i') (x.drop j') (y.drop l')).2 = cs ++ (zEG FR side path b x y i j l (zF9 b.length px py n)).2
 | 0,n,i,j,l,cs,acc,h,_,_,_,_,_,_,_ => by omega
 | k + 1,n,i,j,l,cs,acc,h,hnb,hi,hj,hl,ko,hcs,hac => by
  have lb:=Nd.cnts_len b
  have lx:=Nd.cnts_len x
  have ly:=Nd.cnts_len y
  by_cases hlt : n < b.length
  ·unfold zBb
   rw [zBh (Int.ofNat_lt.2 hlt),cond_true,zL8 N px n (by omega) hpx.2,zL8 N py n (by omega) hpy.2]
   simp only [Option.bind_some]
   rw [zO0 hlt] at ko hcs hac ⊢
   cases hg : gK px py n with
   | none =>
    rw [hg] at ko hcs hac
    have hneg : (bif decide (parZ px n < 0) then some true else some (decide (parZ py n < 0)) : Option Bool) = some true:=by
     unfold gK at hg
     unfold parZ
     cases h1 : parK px n with
     | none => rfl
     | some p =>
      rw [h1] at hg
      cases h2 : parK py n with
      | none =>
       dsimp only
       rw [zA7 (show ¬ ((p : Int) < 0) by omega)]
       rfl
      | some q => rw [h2] at hg; cases hg
    rw [hneg]
    simp only [Option.bind_some,cond_true]
    rw [zAL (by omega)]
    exact zK2 N side hs path hp b x y px py FR F hpx hpy hn hc hF k (n + 1) i j l cs acc (by omega) (by omega) (by omega) hj hl ko hcs hac
   | some u =>
    rw [hg] at ko hcs hac
    obtain ⟨g1,g2,g3⟩:=zKz hg
    obtain ⟨n',p,q⟩:=u
    dsimp only at g1 g2 g3
    subst g1
    have z1 : parZ px n' = (p : Int):=by unfold parZ; rw [g2]
    have z2 : parZ py n' = (q : Int):=by unfold parZ; rw [g3]
    obtain ⟨o1,o2,o3,v,w,z,r1,r2,r3,r4,r5⟩:=KO.head (n:=n') (p:=p) (q:=q) ko
    have hpx':=(List.getElem?_eq_some_iff.1 r2).1
    have hqy:=(List.getElem?_eq_some_iff.1 r3).1
    simp only [Option.toList_some,List.cons_append,List.nil_append,zEG,appK,List.length_append,zDF r1,zDF r2,zDF r3] at hcs hac ko ⊢
    have c1:=zFv b i n'
    have c2:=zFv x j p
    have c3:=zFv y l q
    have ep:=zQE N side cs path i (cutK b i n') (cutK x j p) (cutK y l q) hs (by omega) (by omega) hp (by omega) (by omega)
    obtain ⟨w',ew,ei⟩:=hF n' p q v w z (cs ++ (zED side path i (cutK b i n') (cutK x j p) (cutK y l q)).2) r1 r2 r3 r4 r5 (by rw [List.length_append]; omega)
    rw [z1,z2]
    rw [zA7 (show ¬ ((p : Int) < 0) by omega),cond_false,zA7 (show ¬ ((q : Int) < 0) by omega)]
    simp only [Option.bind_some,cond_false]
    rw [zBp ⟨by omega,by omega,by omega⟩]
    rw [zBp ⟨by omega,by omega,by omega⟩,zBp ⟨by omega,by omega,by omega⟩]
    have ep' : zBQ N (side,cs) path (i : Int) ((b.take (n' : Int).toNat).drop (i : Int).toNat) ((x.take (p : Int).toNat).drop (j : Int).toNat) ((y.take (q : Int).toNat).drop (l : Int).toNat) = _:=ep
    rw [ep',zJL r1,zJL r2,zJL r3]
    rw [ew] at hac ⊢
    simp only [List.length_cons,List.length_nil] at hac
    obtain ⟨v1,v2,v3,v4⟩:=v
    obtain ⟨w1,w2,w3,w4⟩:=w
    obtain ⟨y1,y2,y3,y4⟩:=z
    obtain ⟨t1,t2,t3,t4⟩:=w'
    simp only [Option.bind_some,ei]
    have hac1 : acc.length + (zED side path i (cutK b i n') (cutK x j p) (cutK y l q)).1.length ≤ 4294967296:=by omega
    rw [zBp hac1,zBp (by first | (rw [List.length_append]; simp only [List.length_cons,List.length_nil]; omega) | (simp only [List.length_append,List.length_cons,List.length_nil]; omega))]
    simp only [Option.bind_some]
    rw [zAL (by omega),zAL (by omega),zAL (by omega)]
    have ih:=zK2 N side hs path hp b x y px py FR F hpx hpy hn hc hF k (n' + 1) (n' + 1) (p + 1) (q + 1) ((cs ++ (zED side path i (cutK b i n') (cutK x j p) (cutK y l q)).2) ++ (zFF FR side path n' (.mk v1 v2 v3 v4) (.mk w1 w2 w3 w4) (.mk y1 y2 y3 y4)).2) ((acc ++ (zED side path i (cutK b i n') (cutK x j p) (cutK y l q)).1) ++ [.mk t1 t2 t3 t4])
     (by omega) (by omega) (Nat.le_refl _) (by omega) (by omega) ko.tail (by simp only [List.length_append]; omega) (by simp only [List.length_append,List.length_cons,List.length_nil]; omega)
    simp only [List.append_assoc,List.cons_append,List.nil_append] at ih ⊢
    exact ih
  ·obtain rfl : n = b.length:=by omega
   unfold zBb
   rw [zA7 (by omega),cond_false]
   have e : zF9 b.length px py b.length = []:=by unfold zF9; rw [Nat.sub_self]; rfl
   rw [e]
   exact ⟨i,j,l,cs,acc,rfl,hi,hj,hl,by unfold zEG; rfl,by unfold zEG; rfl⟩
theorem zQF (side : Int) (hs : side = 0 ∨ side = 1 ∨ side = 2) : ∀ (K n : Nat) (path : List Int) (cs : List Cf) (b x y : List Nd),Nd.cnts b < K → 4 * (Nd.ws b + Nd.ws x + Nd.ws y) + 300 < n → path.length + Nd.cnts b ≤ 900000 → okR b → okR x → okR y →
  Nd.cnts b ≤ 110 → Nd.cnts x ≤ 110 → Nd.cnts y ≤ 110 → Nd.ws b ≤ 15999999 → Nd.ws x ≤ 15999999 → Nd.ws y ≤ 15999999 → cs.length + (rowM K side path b x y).2.length ≤ 1000000 →
  zBe n (side,cs) path b x y = some ((rowM K side path b x y).1,(side,cs ++ (rowM K side path b x y).2))
 | 0,n,_,_,_,_,_,h,_,_,_,_,_,_,_,_,_,_,_,_ => by omega
 | K + 1,0,_,_,_,_,_,_,h,_,_,_,_,_,_,_,_,_,_,_ => by omega
 | K + 1,n + 1,path,cs,b,x,y,hK,hn,hp,ob,ox,oy,cb,cx,cy,wb,wx,wy,hcs => by
  have lb:=Nd.cnts_len b
  have hbw:=Nd.cnts_ws b
  have hxw:=Nd.cnts_ws x
  have hyw:=Nd.cnts_ws y
  have p1:=zJB n b x (by omega) wb wx cb cx ob.2 ox.2
  have p2:=zJB n b y (by omega) wb wy cb cy ob.2 oy.2
  have q1:=zES (b.length + x.length + 1) 0 0 b x
  have q2:=zES (b.length + y.length + 1) 0 0 b y
  have hw:=zMi side (K + 1) path b x y
  have hlen:=Nd.ws_len (rowM (K + 1) side path b x y).1
  unfold rowM at hcs hw hlen
  unfold rowM
  unfold zBe
  simp only [p1,p2,Option.bind_some]
  rw [zIQ] at hcs hw hlen ⊢
  obtain ⟨i,j,l,cs',acc',e1,e2,e3,e4,e5,e6⟩:=zK2 n side hs path (by omega) b x y (zCB b x) (zCB b y) (rowM K side) (zBr n) (by unfold zCB; omega) (by unfold zCB; omega) (by omega) (by omega) (fun m p q v w z ds g1 g2 g3 g4 g5 hds => by
   obtain ⟨k,rfl⟩ : ∃ k,n = k + 1:=⟨n - 1,by omega⟩
   have mv:=List.mem_of_getElem? g1
   have mw:=List.mem_of_getElem? g2
   have mz:=List.mem_of_getElem? g3
   have cv:=Nd.cnts_mem mv
   have cw:=Nd.cnts_mem mw
   have cz:=Nd.cnts_mem mz
   have wv:=Nd.w_mem mv
   have ww:=Nd.w_mem mw
   have wz:=Nd.w_mem mz
   have kv:=v.cnt_kids
   have kw:=w.cnt_kids
   have kz:=z.cnt_kids
   have uv:=v.w_eq
   have uw:=w.w_eq
   have uz:=z.w_eq
   have mb:=(List.getElem?_eq_some_iff.1 g1).1
   have lv:=Nd.cnts_len v.kids
   have loop:=zMg side path m v.kids w.kids z.kids (zBe k) (rowM K side) (by omega) (by omega) (zFT g4) (zFT g5) (fun s u u' u'' es h1 h2 h3 hes => by
    have n1:=List.mem_of_getElem? h1
    have n2:=List.mem_of_getElem? h2
    have n3:=List.mem_of_getElem? h3
    have d1:=Nd.cnts_mem n1
    have d2:=Nd.cnts_mem n2
    have d3:=Nd.cnts_mem n3
    have f1:=Nd.w_mem n1
    have f2:=Nd.w_mem n2
    have f3:=Nd.w_mem n3
    have k1:=u.cnt_kids
    have k2:=u'.cnt_kids
    have k3:=u''.cnt_kids
    have j1:=u.w_eq
    have j2:=u'.w_eq
    have j3:=u''.w_eq
    exact zQF side hs K k (path ++ [(m : Int),(s : Int)]) es u.kids u'.kids u''.kids (by omega) (by omega) (by simp only [List.length_append,List.length_cons,List.length_nil]; omega) (ob.sub mv n1).1 (ox.sub mw n2).1 (oy.sub mz n3).1 (by omega) (by omega) (by omega) (by omega) (by omega) (by omega) hes)
   obtain ⟨v1,v2,v3,v4⟩:=v
   obtain ⟨w1,w2,w3,w4⟩:=w
   obtain ⟨z1,z2,z3,z4⟩:=z
   simp only [Nd.kids] at loop
   unfold zBr
   have key : ds.length + (zBC (rowM K side) path m 0 v4 w4 z4).2.length ≤ 1000000 → zBg (zBe k) path (m : Int) v4 w4 z4 k side 0 ds [] = some (side,ds ++ (zBC (rowM K side) path m 0 v4 w4 z4).2,(zBC (rowM K side) path m 0 v4 w4 z4).1):=fun hd => by
    have:=loop k 0 ds [] (by simp only [Nd.kids] at lv kv; omega) (Nat.zero_le _) (Nat.le_refl _) (by simpa using hd)
    simpa using this
   by_cases t1 : w2 = v2
   ·rw [zRR (show (Nd.mk w1 w2 w3 w4).text = (Nd.mk v1 v2 v3 v4).text from t1)] at hds ⊢
    simp only [Nd.text,Nd.kind,Nd.cols,Nd.kids] at hds ⊢
    refine ⟨_,rfl,?_⟩
    rw [show (w2 == v2) = true from beq_iff_eq.2 t1]
    simp only [cond_true,Option.bind_some,key hds]
   ·rw [show (w2 == v2) = false from beq_eq_false_iff_ne.2 t1]
    simp only [cond_false]
    by_cases t2 : z2 = v2 ∨ z2 = w2
    ·rw [zRS (show ¬ (Nd.mk w1 w2 w3 w4).text = (Nd.mk v1 v2 v3 v4).text from t1) (show (Nd.mk z1 z2 z3 z4).text = (Nd.mk v1 v2 v3 v4).text ∨ (Nd.mk z1 z2 z3 z4).text = (Nd.mk w1 w2 w3 w4).text from t2)] at hds ⊢
     simp only [Nd.text,Nd.kind,Nd.cols,Nd.kids] at hds ⊢
     refine ⟨_,rfl,?_⟩
     have hb : (bif !(z2 == v2) then some (!(z2 == w2)) else some false : Option Bool) = some false:=by
      rcases t2 with t2 | t2
      ·rw [show (z2 == v2) = true from beq_iff_eq.2 t2]; rfl
      ·rw [show (z2 == w2) = true from beq_iff_eq.2 t2]; cases (z2 == v2) <;> rfl
     rw [hb]
     simp only [cond_false,Option.bind_some,key hds]
    ·rw [zRT (show ¬ (Nd.mk w1 w2 w3 w4).text = (Nd.mk v1 v2 v3 v4).text from t1) (show ¬ ((Nd.mk z1 z2 z3 z4).text = (Nd.mk v1 v2 v3 v4).text ∨ (Nd.mk z1 z2 z3 z4).text = (Nd.mk w1 w2 w3 w4).text) from t2)] at hds ⊢
     dsimp only at hds ⊢
     have hb : (bif !(z2 == v2) then some (!(z2 == w2)) else some false : Option Bool) = some true:=by
      rw [show (z2 == v2) = false from beq_eq_false_iff_ne.2 fun e => t2 (.inl e),show (z2 == w2) = false from beq_eq_false_iff_ne.2 fun e => t2 (.inr e)]; rfl
     rw [hb]
     have ec:=zJC k side ds path m [.mk v1 v2 v3 v4] [.mk w1 w2 w3 w4] [.mk z1 z2 z3 z4] hs (by simp only [List.length_cons,List.length_nil]; omega) (by omega) (by omega) (by simp only [List.length_cons,List.length_nil] at hds; omega)
     simp only [cond_true,Option.bind_some,ec]
     rcases hs with rfl | rfl | rfl
     ·exact ⟨.mk v1 v2 v3 v4,rfl,rfl⟩
     ·exact ⟨.mk w1 w2 w3 w4,rfl,rfl⟩
     ·exact ⟨.mk z1 z2 z3 z4,rfl,rfl⟩) n 0 0 0 0 cs [] (by omega) (Nat.zero_le _) (Nat.le_refl _) (Nat.zero_le _) (Nat.zero_le _) (zP2 b x y 0) hcs (by rw [List.length_nil]; omega)
  have e1' : zBb (zBr n) n path b x y ((zCB b x).map zFc) ((zCB b y).map zFc) n side 0 0 0 0 cs [] = _:=e1
  rw [e1']
  simp only [Option.bind_some]
  rw [zBp ⟨by omega,by omega,by omega⟩,zBp ⟨by omega,by omega,by omega⟩,zBp ⟨by omega,by omega,by omega⟩]
  simp only [Int.toNat_natCast,List.take_length]
  have c1:=zFD b i
  have c2:=zFD x j
  have c3:=zFD y l
  have hl6:=congrArg List.length e6
  have hl5:=congrArg List.length e5
  simp only [List.length_append,List.length_nil] at hl5 hl6
  have ep:=zQE n side cs' path i (b.drop i) (x.drop j) (y.drop l) hs (by omega) (by omega) (by omega) (by omega) (by omega)
  rw [ep]
  simp only [Option.bind_some]
  rw [zBp (by omega),e5,e6,List.nil_append]
theorem zOY (n : Nat) (side : Int) (hs : side = 0 ∨ side = 1 ∨ side = 2) (b x y : Nd) (hn : 4 * (b.w + x.w + y.w) + 400 < n) (wb : b.w ≤ 16000000) (wx : x.w ≤ 16000000) (wy : y.w ≤ 16000000) (cb : b.cnt ≤ 110) (cx : x.cnt ≤ 110) (cy : y.cnt ≤ 110) (rb : b.rng) (rx : x.rng) (ry : y.rng) :
  zEi n b x y side = some ((zBn side b x y).1,(zBn side b x y).2.1,(zBn side b x y).2.2):=by
 have v1:=zFz n b (by omega) (by omega)
 have v2:=zFz n x (by omega) (by omega)
 have v3:=zFz n y (by omega) (by omega)
 have b1:=b.w_eq
 have b2:=x.w_eq
 have b3:=y.w_eq
 have c1:=b.cnt_kids
 have c2:=x.cnt_kids
 have c3:=y.cnt_kids
 unfold zBn
 by_cases h : zBD b = true ∧ zBD x = true ∧ zBD y = true
 ·rw [if_pos h]
  obtain ⟨o1,e1⟩:=zL4 h.1 rb
  obtain ⟨o2,e2⟩:=zL4 h.2.1 rx
  obtain ⟨o3,e3⟩:=zL4 h.2.2 ry
  have hcs:=zQD side 111 [] b.kids x.kids y.kids
  have hws:=zMi side 111 [] b.kids x.kids y.kids
  have hr:=zQF side hs 111 n [] [] b.kids x.kids y.kids (by omega) (by omega) (by simp only [List.length_nil]; omega) o1 o2 o3 (by omega) (by omega) (by omega) (by omega) (by omega) (by omega) (by simp only [List.length_nil]; omega)
  have wr : (rowK (rowM 111 side [] b.kids x.kids y.kids).1).w = Nd.ws (rowM 111 side [] b.kids x.kids y.kids).1 + 1:=by simp [rowK,Nd.w]
  have vr:=zFz n (rowK (rowM 111 side [] b.kids x.kids y.kids).1) (by omega) (by omega)
  rw [h.1] at v1
  rw [h.2.1] at v2
  rw [h.2.2] at v3
  unfold rowK at vr
  unfold rowK
  obtain ⟨p1,p2,p3,p4⟩:=b
  obtain ⟨q1,q2,q3,q4⟩:=x
  obtain ⟨r1,r2,r3,r4⟩:=y
  simp only [Nd.kids] at hr vr ⊢
  unfold zEi
  simp only [v1,v2,v3,Option.bind_some,Bool.not_true,cond_false,hr,zEf,vr,List.nil_append]
  by_cases hv : zBD (Nd.mk 1 [] 0 (rowM 111 side [] p4 q4 r4).1) = true
  ·simp only [hv,if_true,Bool.not_true,cond_false]
  ·have hv' : zBD (Nd.mk 1 [] 0 (rowM 111 side [] p4 q4 r4).1) = false:=Bool.eq_false_iff.2 hv
   simp only [hv',Bool.false_eq_true,if_false,Bool.not_false,cond_true]
   rfl
 ·rw [if_neg h]
  obtain ⟨p1,p2,p3,p4⟩:=b
  obtain ⟨q1,q2,q3,q4⟩:=x
  obtain ⟨r1,r2,r3,r4⟩:=y
  unfold zEi
  simp only [v1,v2,v3,Option.bind_some]
  cases g1 : zBD (Nd.mk p1 p2 p3 p4) with
  | false => rfl
  | true =>
   cases g2 : zBD (Nd.mk q1 q2 q3 q4) with
   | false => rfl
   | true =>
    cases g3 : zBD (Nd.mk r1 r2 r3 r4) with
    | false => rfl
    | true => exact absurd ⟨g1,g2,g3⟩ h
theorem zSl (n : Nat) (b x y : Nd) (hn : 4 * (b.w + x.w + y.w) + 400 < n) (wb : b.w ≤ 16000000) (wx : x.w ≤ 16000000) (wy : y.w ≤ 16000000) (cb : b.cnt ≤ 110) (cx : x.cnt ≤ 110) (cy : y.cnt ≤ 110) (rb : b.rng) (rx : x.rng) (ry : y.rng) :
  zEh n b x y = some ((zBn 0 b x y).1,(zBn 0 b x y).2.1,(zBn 0 b x y).2.2):=by
 have h1:=zOY n 0 (.inl rfl) b x y hn wb wx wy cb cx cy rb rx ry
 obtain ⟨p1,p2,p3,p4⟩:=b
 obtain ⟨q1,q2,q3,q4⟩:=x
 obtain ⟨r1,r2,r3,r4⟩:=y
 unfold zEh
 dsimp only
 rw [h1]
 generalize zBn 0 (Nd.mk p1 p2 p3 p4) (Nd.mk q1 q2 q3 q4) (Nd.mk r1 r2 r3 r4) = m
 obtain ⟨⟨m1,m2,m3,m4⟩,ms,me⟩:=m
 rfl
theorem zSS (n : Nat) (b x y : Nd) (h : zB4 n b x y = some ((zBn 0 b x y).1,(zBn 0 b x y).2.1,(zBn 0 b x y).2.2)) : zDk n b x y = some (((zBn 0 b x y).2.2 == 0) && (((zBn 0 b x y).2.1.length : Int) == 0)):=by
 obtain ⟨p1,p2,p3,p4⟩:=b
 obtain ⟨q1,q2,q3,q4⟩:=x
 obtain ⟨r1,r2,r3,r4⟩:=y
 unfold zDk
 dsimp only
 rw [h]
 generalize zBn 0 (Nd.mk p1 p2 p3 p4) (Nd.mk q1 q2 q3 q4) (Nd.mk r1 r2 r3 r4) = m
 obtain ⟨⟨m1,m2,m3,m4⟩,ms,me⟩:=m
 simp only [Option.bind_some]
 cases me == 0 <;> rfl
end Go.Proofs.YtgfneloodabafaaGreatDoor
namespace Go.Proofs.YtgfneloodabafaaGreatDoor
open Go.Abs
theorem zQX (k : Nat) : zGi (k + 100) = some true:=by
 with_unfolding_all rfl
end Go.Proofs.YtgfneloodabafaaGreatDoor
namespace Go.Proofs.YtgfneloodabafaaGreatDoor
open Go.Abs
theorem zTR (n : Nat) (t : Nd) (h : 2 * t.cnt < n) (hc : t.cnt ≤ 67108864) : zB1 n t t = some true:=by
 obtain ⟨r,h1,h2⟩:=(zH3 n).1 t t h hc
 rw [h1,h2.2 rfl]
theorem zRb (side : Int) (b x y : Nd) : (zBn side b x y).1.cnt ≤ (zBn side b x y).1.w:=Nd.cnt_w _
theorem zTg (side : Int) (b x y : Nd) : (zBn side b x y).1.w ≤ b.w + x.w + y.w:=by
 have h:=zMi side 111 [] b.kids x.kids y.kids
 have e1:=b.w_eq
 have e2:=x.w_eq
 have e3:=y.w_eq
 unfold zBn
 split
 ·split
  ·simp only [rowK,Nd.w,List.length_nil]; omega
  ·simp only [zPi,Nd.w,Nd.ws,List.length_nil]; omega
 ·simp only [zPi,Nd.w,Nd.ws,List.length_nil]; omega
theorem zQa (p : List Int) (hp : p.length ≤ 1000000) {a1 a2 : List Cf} {i : Nat} {f t f' t' : Int} {l r l' r' : List Nd} (h1 : at? a1 (i : Int) = some (p,f,t,l,r)) (h2 : at? a2 (i : Int) = some (p,f',t',l',r')) : ∀ (k s : Nat),p.length - s < k → s ≤ p.length → zBj a1 a2 (i : Int) k (s : Int) = some (.go ())
 | 0,s,h,_ => by omega
 | k + 1,s,h,hs => by
  unfold zBj
  rw [h1]
  simp only [Option.bind_some]
  by_cases hj : s < p.length
  ·rw [zBh (Int.ofNat_lt.2 hj),cond_true,zBv hj,h2]
   simp only [Option.bind_some,zBv hj,bne_self_eq_false,cond_false]
   rw [zAL (by omega)]
   exact zQa p hp h1 h2 k (s + 1) (by omega) (by omega)
  ·rw [zA7 (by omega),cond_false]
theorem zSG (n : Nat) (ex : Bool) (cs : List Cf) (hl : cs.length ≤ 1000000) (hc : ∀ c ∈ cs,c.1.length ≤ 1000000 ∧ c.1.length < n ∧ Nd.cnts c.2.2.2.1 ≤ 1000000 ∧ Nd.cnts c.2.2.2.2 ≤ 1000000) (hn : 2000002 < n) : ∀ (k i : Nat),cs.length - i < k → i ≤ cs.length →
  zBi n cs (bif ex then cs.map swC else cs) ex k (i : Int) = some (.go ())
 | 0,i,h,_ => by omega
 | k + 1,i,h,hi => by
  unfold zBi
  by_cases hj : i < cs.length
  ·have h1 : at? cs (i : Int) = some cs[i]:=zBv hj
   have h2 : at? (bif ex then cs.map swC else cs) (i : Int) = some (bif ex then swC cs[i] else cs[i]):=by
    cases ex with
    | true => exact zKF swC hj
    | false => exact h1
   obtain ⟨c1,c2,c3,c4⟩:=hc _ (List.getElem_mem hj)
   have ih:=zSG n ex cs hl hc hn k (i + 1) (by omega) (by omega)
   rw [zBh (Int.ofNat_lt.2 hj),cond_true]
   generalize cs[i] = c at *
   obtain ⟨p,f,t,l,r⟩:=c
   dsimp only at c1 c2 c3 c4
   obtain ⟨r1,q1,g1⟩:=(zH3 n).2 l l (by omega) (by omega)
   obtain ⟨r2,q2,g2⟩:=(zH3 n).2 r r (by omega) (by omega)
   rw [g1.2 rfl] at q1
   rw [g2.2 rfl] at q2
   cases ex with
   | true =>
    have h2' : at? (cs.map swC) (i : Int) = some (p,f,t,r,l):=h2
    have hp:=zQa p c1 h1 h2' n 0 (by omega) (Nat.zero_le _)
    rw [show ((0 : Nat) : Int) = 0 from rfl] at hp
    simp only [cond_true] at ih ⊢
    simp only [h1,h2',Option.bind_some,bne_self_eq_false,cond_false,q1,q2,Bool.not_true,hp,zAL (show i < 9223372036854775807 by omega),ih]
   | false =>
    have hp:=zQa p c1 h1 h1 n 0 (by omega) (Nat.zero_le _)
    rw [show ((0 : Nat) : Int) = 0 from rfl] at hp
    simp only [cond_false] at ih ⊢
    simp only [h1,Option.bind_some,bne_self_eq_false,cond_false,q1,q2,Bool.not_true,hp,zAL (show i < 9223372036854775807 by omega),ih]
  ·rw [zA7 (by omega),cond_false]
theorem zUE (n : Nat) (ex : Bool) (cs : List Cf) (hl : cs.length ≤ 1000000) (hc : ∀ c ∈ cs,c.1.length ≤ 1000000 ∧ c.1.length < n ∧ Nd.cnts c.2.2.2.1 ≤ 1000000 ∧ Nd.cnts c.2.2.2.2 ≤ 1000000) (hn : 2000002 < n) : zBP n cs (bif ex then cs.map swC else cs) ex = some true:=by
 have:=zSG n ex cs hl hc hn n 0 (by omega) (Nat.zero_le _)
 rw [show ((0 : Nat) : Int) = 0 from rfl] at this
 have e : (bif ex then cs.map swC else cs).length = cs.length:=by cases ex <;> simp
 unfold zBP
 dsimp only
 rw [e,bne_self_eq_false,cond_false,this]
 rfl
theorem zPL {side : Int} {b x y : Nd} : ∀ c ∈ (zBn side b x y).2.1,zBD b = true ∧ CfOk b.kids x.kids y.kids [] c:=by
 unfold zBn
 intro c hc
 split at hc
 ·rename_i h
  split at hc
  ·exact ⟨h.1,zQC side 111 [] _ _ _ c hc⟩
  ·cases hc
 ·cases hc
theorem zRd (side : Int) (b x y : Nd) : (zBn side b x y).2.1.length ≤ 2 * b.cnt:=by
 have h:=zQD side 111 [] b.kids x.kids y.kids
 have k:=b.cnt_kids
 unfold zBn
 split
 ·split
  ·dsimp only; omega
  ·exact Nat.zero_le _
 ·exact Nat.zero_le _
theorem zOs {side : Int} {b x y : Nd} (hb : b.cnt ≤ 110) (hx : x.cnt ≤ 110) (hy : y.cnt ≤ 110) (n : Nat) (hn : 1000 < n) : ∀ c ∈ (zBn side b x y).2.1,c.1.length ≤ 1000000 ∧ c.1.length < n ∧ Nd.cnts c.2.2.2.1 ≤ 1000000 ∧ Nd.cnts c.2.2.2.2 ≤ 1000000:=fun c hc => by
 obtain ⟨_,rest,r,f,t,h1,h2,h3,h4,h5,h6,h7,h8,h9,h10,h11,h12⟩:=zPL c hc
 have k1:=b.cnt_kids
 have k2:=x.cnt_kids
 have k3:=y.cnt_kids
 rw [h1,List.nil_append]
 omega
end Go.Proofs.YtgfneloodabafaaGreatDoor
namespace Go.Proofs.YtgfneloodabafaaGreatDoor
open Go.Abs
theorem zMs (a b c : Nd) (ha : a.w ≤ 1048576) (hb : b.w ≤ 1048576) (hc : c.w ≤ 1048576) (ra : a.rng) (rb : b.rng) (rc : c.rng) : zDD (60000000 + 100) a b c = some true:=by
 have hw:=zQX 60000000
 obtain ⟨y,h1,h2⟩:=zS5 (60000000 + 100) a b c (by omega)
 have key : y = true → zB4 (60000000 + 100) a b c = some ((zBn 0 a b c).1,(zBn 0 a b c).2.1,(zBn 0 a b c).2.2) ∧ zEh (60000000 + 100) a b c = some ((zBn 0 a b c).1,(zBn 0 a b c).2.1,(zBn 0 a b c).2.2) ∧
   zBP (60000000 + 100) (zBn 0 a b c).2.1 (zBn 0 a b c).2.1 false = some true ∧ zDk (60000000 + 100) a b c = some (((zBn 0 a b c).2.2 == 0) && (((zBn 0 a b c).2.1.length : Int) == 0)):=fun hy => by
  obtain ⟨c1,c2,c3⟩:=h2 hy
  have t1:=zSV (60000000 + 100) a b c (by omega) (by omega) (by omega) (by omega) (by omega) (by omega) (by omega) ra rb rc
  have t2:=zSl (60000000 + 100) a b c (by omega) (by omega) (by omega) (by omega) (by omega) (by omega) (by omega) ra rb rc
  have hl:=zRd 0 a b c
  exact ⟨t1,t2,zUE (60000000 + 100) false _ (by omega) (zOs (by omega) (by omega) (by omega) _ (by omega)) (by omega),zSS _ a b c t1⟩
 have q1:=zTg 0 a b c
 have q3:=zRb 0 a b c
 have e1:=zTR (60000000 + 100) (zBn 0 a b c).1 (by omega) (by omega)
 clear ra rb rc ha hb hc h2 q1 q3
 obtain ⟨a1,a2,a3,a4⟩:=a
 obtain ⟨b1,b2,b3,b4⟩:=b
 obtain ⟨c1,c2,c3,c4⟩:=c
 unfold zDD
 dsimp only
 rw [hw]
 simp only [Option.bind_some,Bool.not_true,cond_false,h1]
 cases y with
 | false => rfl
 | true =>
  obtain ⟨t1,t2,t3,t4⟩:=key rfl
  rw [t1,t2,t4]
  generalize zBn 0 (Nd.mk a1 a2 a3 a4) (Nd.mk b1 b2 b3 b4) (Nd.mk c1 c2 c3 c4) = m at *
  obtain ⟨⟨m1,m2,m3,m4⟩,ms,me⟩:=m
  dsimp only at t3 e1
  simp only [Bool.not_true,cond_false,Option.bind_some,beq_self_eq_true,cond_true,e1,t3]
  cases he : (me == 0) with
  | true => simp
  | false => simp
end Go.Proofs.YtgfneloodabafaaGreatDoor
