/-
  Joined out of: PMrg5, PMrg6, PDif6, PDif7, PDif8, PEdit7, PDif9.
-/
import Derived.Test.YtjdhkpdjecegnaaGreatDoorZf
set_option linter.unusedVariables false
set_option linter.unusedSimpArgs false
set_option maxHeartbeats 2000000
set_option maxRecDepth 100000
namespace Go.Proofs.YtjdhkpdjecegnaaGreatDoor
open Go.Abs
theorem zGQ {l : List Nd} {q : Nat} {v : Nd} (h : l[q]? = some v) : l.drop q = v :: l.drop (q + 1):=by
 obtain ⟨h1,rfl⟩:=List.getElem?_eq_some_iff.1 h;exact List.drop_eq_getElem_cons h1
theorem Nd.w_eq (v : Nd) : v.w = v.text.length + Nd.ws v.kids + 1:=by cases v; rfl
def okR (b : List Nd) : Prop:=zDk (rowK b) = true ∧ (rowK b).rng
theorem okR.sub {b : List Nd} {v u : Nd} (h : okR b) (hv : v ∈ b) (hu : u ∈ v.kids) : okR u.kids ∧ u = rowK u.kids:=by
 obtain ⟨h1,h2⟩:=h;unfold zDk at h1;simp only [Bool.and_eq_true,decide_eq_true_eq] at h1;obtain ⟨k1,f1,c1,d1⟩:=h1;have fb : zEY 1 b = true:=(zMM f1 rfl).2;obtain ⟨f2,k2⟩:=zKo fb hv;have gv : zEY v.kind v.kids = true :=(by cases v; simp only [zGq,Bool.and_eq_true] at f2; exact f2.2);obtain ⟨f3,k3⟩:=zKo gv hu;have kv : v.kind ≠ 1:=fun e => by rw [e] at k2; cases k2
 rw [zFd kv] at k3;have ku : u.kind = 1:=by cases e : u.kind == 1 with | true => exact eq_of_beq e | false => rw [e] at k3; cases k3
 obtain ⟨r1,r2⟩:=zMM f3 ku;have c2:=Nd.cnts_mem hv;have c3:=Nd.cnts_mem hu;have e2:=v.cnt_kids;have cb : (rowK b).cnt = Nd.cnts b + 1 :=(by simp [rowK,Nd.cnt]);have db : (rowK b).dep = Nd.deps b + 1:=rfl;have d2:=zMI hv;have d3:=zMI hu;have ev : v.dep = Nd.deps v.kids + 1 :=(by cases v; rfl);have eu : rowK u.kids = u:=r1.symm;refine ⟨⟨?_,?_⟩,r1⟩
 ·rw [eu]
  unfold zDk;simp only [Bool.and_eq_true,decide_eq_true_eq]
  exact ⟨by rw [ku]; rfl,f3,by omega,by omega⟩
 ·rw [eu]
  have : v.rng:=zGT h2 (t:=rowK b) hv;exact zGT this hu
theorem zQy {t : Nd} (h : zDk t = true) (hr : t.rng) : okR t.kids ∧ t = rowK t.kids:=by
 have e:=(zS2 h).1;have e' : rowK t.kids = t:=e.symm;exact ⟨⟨by rw [e']; exact h,by rw [e']; exact hr⟩,e⟩
end Go.Proofs.YtjdhkpdjecegnaaGreatDoor
namespace Go.Proofs.YtjdhkpdjecegnaaGreatDoor
open Go.Abs
theorem zTm {n : Int} (h : 0 ≤ n ∧ n ≤ 1073741824) : zCN n = some []:=zBx h
theorem zRU (k : Nat) (p : List Int) (i s : Int) (hp : p.length ≤ 1000000) : zAT [p,[i,s]] (k + 3) 0 0 = some ((p.length : Int) + 2):=by
 have w1 : IntKind.i64.wrap ((0 : Int) + (p.length : Int)) = (p.length : Int) :=(by rw [wrap64_in (by omega) (by omega)]; omega);have w2 : IntKind.i64.wrap ((p.length : Int) + 2) = (p.length : Int) + 2:=wrap64_in (by omega) (by omega)
 have c0 : at? [p,[i,s]] 0 = some p:=rfl;have c1 : at? [p,[i,s]] 1 = some [i,s]:=rfl;have v1 : IntKind.i64.wrap ((0 : Int) + 1) = 1 :=(by decide);have v2 : IntKind.i64.wrap ((1 : Int) + 1) = 2 :=(by decide);have hl : (([p,[i,s]] : List (List Int)).length : Int) = 2:=rfl;have h2 : (([i,s] : List Int).length : Int) = 2:=rfl;unfold zAT;rw [hl,zA8 (by decide),cond_true,c0]
 simp only [Option.bind_some]
 rw [w1,zA5 (by omega),cond_false,v1]
 unfold zAT;rw [hl,zA8 (by decide),cond_true,c1]
 simp only [Option.bind_some]
 rw [h2,w2,zA5 (by omega),cond_false,v2]
 unfold zAT;rw [hl,zA5 (by decide),cond_false]
theorem zRV (k : Nat) (p : List Int) (i s : Int) (hp : p.length ≤ 1000000) : zAU [p,[i,s]] (k + 3) 0 [] = some (p ++ [i,s]):=by
 have c0 : at? [p,[i,s]] 0 = some p:=rfl;have c1 : at? [p,[i,s]] 1 = some [i,s]:=rfl;have v1 : IntKind.i64.wrap ((0 : Int) + 1) = 1 :=(by decide);have v2 : IntKind.i64.wrap ((1 : Int) + 1) = 2 :=(by decide);have hl : (([p,[i,s]] : List (List Int)).length : Int) = 2:=rfl;have q1 : ([] : List Int).length + p.length ≤ 4294967296 :=(by rw [List.length_nil]; omega);have q2 : p.length + [i,s].length ≤ 4294967296 :=(by rw [List.length_cons,List.length_cons,List.length_nil]; omega);unfold zAU;rw [hl,zA8 (by decide),cond_true,c0]
 simp only [Option.bind_some]
 rw [zBx q1,v1]
 unfold zAU;rw [hl,zA8 (by decide),cond_true,c1]
 simp only [Option.bind_some,List.nil_append]
 rw [zBx q2,v2]
 unfold zAU;rw [hl,zA5 (by decide),cond_false]
theorem zLP (n : Nat) (p : List Int) (i s : Int) (hn : 5 < n) (hp : p.length ≤ 1000000) : zBh n [p,[i,s]] = some (p ++ [i,s]):=by
 obtain ⟨k,rfl⟩ : ∃ k,n = k + 3:=⟨n - 3,by omega⟩
 have e1:=zRU k p i s hp;have e2 : zCN ((p.length : Int) + 2) = some []:=zTm ⟨by omega,by omega⟩
 have e3:=zRV k p i s hp;unfold zBh;dsimp only;rw [e1,Option.bind_some,e2,Option.bind_some,e3,Option.bind_some]
theorem zGm {l : List Nd} {n : Nat} {v : Nd} (h : l[n]? = some v) : at? l (n : Int) = some v:=by
 obtain ⟨h1,rfl⟩:=List.getElem?_eq_some_iff.1 h;exact zBA h1
end Go.Proofs.YtjdhkpdjecegnaaGreatDoor
namespace Go.Proofs.YtjdhkpdjecegnaaGreatDoor
open Go.Abs
theorem zKy {l : List Nd} (hb : Nd.cnts l ≤ 16777216) : ∀ (k i : Nat),l.length - i < k → i ≤ l.length → zBV l k (i : Int) (l.take i) = some l
 | 0,i,h,_ => by omega
 | k + 1,i,h,hi => by
  have hlen:=Nd.cnts_len l;unfold zBV
  by_cases hj : i < l.length
  ·have hm:=Nd.cnts_mem (List.getElem_mem hj)
   have hd : zFT l[i] = some l[i]:=zUa (by omega)
   have ht : l.take i ++ [l[i]] = l.take (i + 1) :=(by rw [List.take_append_getElem hj]);rw [zA8 (Int.ofNat_lt.2 hj),cond_true,zBA hj]
   have ih:=zKy hb k (i + 1) (by omega) (by omega)
   rw [← ht] at ih;generalize l[i] = v at *;obtain ⟨v1,v2,v3,v4⟩:=v;simp only [Option.bind_some,hd]
   rw [zBx (by simp only [List.length_take,List.length_cons,List.length_nil]; omega),zAL (show i < 9223372036854775807 by omega),ih]
  ·rw [zA5 (by omega),cond_false,List.take_of_length_le (by omega)]
theorem zRX (n : Nat) (o : Op8) (hn : Nd.cnts o.nodes < n) (hb : Nd.cnts o.nodes ≤ 16777216) (hr : o.row.length ≤ 16777216) : zGu n o = some o:=by
 obtain ⟨k,row,a,m,nodes,slot,old,text⟩:=o;simp only [Op8.nodes,Op8.row] at hn hb hr;have hlen:=Nd.cnts_len nodes;have h1 : zDm row = some row:=zBx (by omega)
 have h2:=zKy hb n 0 (by omega) (by omega)
 rw [show ((0 : Nat) : Int) = 0 from rfl,List.take_zero] at h2;unfold zGu zFS zFc;simp only [h1,h2,Option.bind_some]
theorem zPK (n : Nat) (o : Op8) (l : List Op8) (hn : Nd.cnts o.nodes < n) (hb : Nd.cnts o.nodes ≤ 16777216) (hr : o.row.length ≤ 16777216) (hl : l.length ≤ 4000000) : zCo n o l = some (l ++ [o]):=by
 have h:=zRX n o hn hb hr;obtain ⟨k,row,a,m,nodes,slot,old,text⟩:=o;unfold zCo;simp only [h,Option.bind_some]
 rw [zBx (by rw [List.length_cons,List.length_nil]; omega)]
theorem zNZ (n : Nat) (a b : List Nd) (h : 4 * Nd.ws a + 4 * Nd.ws b + 200 < n) (ha : Nd.ws a ≤ 15999999) (hb : Nd.ws b ≤ 15999999) (ca : Nd.cnts a ≤ 900) (cb : Nd.cnts b ≤ 900) (ra : (rowK a).rng) (rb : (rowK b).rng) : zDt n a b = some ((zFe a b).map zBd):=by
 have k1:=Nd.cnts_ws a;have k2:=Nd.cnts_ws b;have l1:=Nd.cnts_len a;have l2:=Nd.cnts_len b;have e2:=(zR5 n).2 a b (by omega) (by omega) (by omega)
 have e3:=zGM n (a:=a) (b:=b) (by omega) (by omega) (fun x hx => by have:=Nd.w_mem hx; exact ⟨by omega,by omega,zGT ra (t:=rowK a) hx⟩) (fun x hx => by have:=Nd.w_mem hx; exact ⟨by omega,by omega,zGT rb (t:=rowK b) hx⟩) n 0 0 [] (by omega) (by omega) (by omega) (by simp)
 rw [show ((0 : Nat) : Int) = 0 from rfl,List.drop_zero,List.drop_zero,List.nil_append] at e3;have hf : zBi n 0 0 a b = zFe a b:=zET _ _ _ _ _ _ (by omega) (by omega)
 rw [hf] at e3;unfold zDt;simp only [e2,e3,Option.bind_some]
structure Rest (a b : List Nd) (L : List (Nat × Nat)) : Prop where
 inn : ∀ u ∈ L,∃ x y,a[u.1]? = some x ∧ b[u.2]? = some y ∧ zBE x y = true
 sorted : L.Pairwise fun u v => u.1 < v.1 ∧ u.2 < v.2
theorem zGV (a b : List Nd) : Rest a b (zFe a b):=by
 refine ⟨fun u hu => ?_,zEr _ _ _ _ _⟩
 obtain ⟨s,t,x,y,rfl,h1,h2,h3⟩:=zFu _ _ _ _ _ u hu;exact ⟨x,y,by simpa using h1,by simpa using h2,h3⟩
abbrev zRI:=List Nd → List Nd → List Int → List Op8 → Option (List Op8)
theorem zOr (N : Nat) (p : List Int) (j : Nat) (xk yk : List Nd) (F : zRI) (G : RowO) (hN : 5 < N) (hp : p.length ≤ 1000000) (hl : xk.length = yk.length) (hb : yk.length ≤ 4000000)
  (hF : ∀ (s : Nat) (u v : Nd) (o : List Op8),xk[s]? = some u → yk[s]? = some v → o.length + (G (p ++ [(j : Int),(s : Int)]) u.kids v.kids).length ≤ 4000000 → F u.kids v.kids (p ++ [(j : Int),(s : Int)]) o = some (o ++ G (p ++ [(j : Int),(s : Int)]) u.kids v.kids)) :
  ∀ (k s : Nat) (o : List Op8),yk.length - s < k → s ≤ yk.length → o.length + (zCf G p j s (xk.drop s) (yk.drop s)).length ≤ 4000000 →
   zBf F N p (j : Int) yk xk k (s : Int) o = some (o ++ zCf G p j s (xk.drop s) (yk.drop s))
 | 0,s,o,h,_,_ => by omega
 | k + 1,s,o,h,hs,ho => by
  unfold zBf
  by_cases hj : s < yk.length
  ·have g1 : xk[s]? = some (xk[s]'(by omega)):=List.getElem?_eq_getElem (by omega)
   have g2 : yk[s]? = some yk[s]:=List.getElem?_eq_getElem hj;generalize xk[s]'(by omega) = u at *;generalize yk[s] = v at *;rw [zGQ g1,zGQ g2] at ho ⊢;simp only [zCf,List.length_append] at ho;have e1:=hF s u v o g1 g2 (by omega)
   rw [zA8 (Int.ofNat_lt.2 hj),cond_true,zGm g1,zGm g2]
   have ih:=zOr N p j xk yk F G hN hp hl hb hF k (s + 1) (o ++ G (p ++ [(j : Int),(s : Int)]) u.kids v.kids) (by omega) (by omega) (by rw [List.length_append]; omega)
   obtain ⟨u1,u2,u3,u4⟩:=u;obtain ⟨v1,v2,v3,v4⟩:=v;simp only [Nd.kids] at e1 ih;simp only [Option.bind_some]
   rw [zLP N p j s hN hp]
   simp only [Option.bind_some,e1]
   rw [zAL (by omega),ih]
   simp only [zCf,Nd.kids,List.append_assoc]
  ·rw [zA5 (by omega),cond_false,List.drop_of_length_le (by omega),List.drop_of_length_le (by omega)]
   simp only [zCf,List.append_nil]
theorem zIt {o : Op8} {x : Nd} {p : List Int} {j : Nat} : (zF7 p j x).nodes = [x] ∧ (zGY p j x).nodes = [x]:=⟨rfl,rfl⟩
theorem zMO (N : Nat) (p : List Int) (a b : List Nd) (F : zRI) (G : RowO) (hN : 1000 < N) (hp : p.length ≤ 1000000) (hca : Nd.cnts a ≤ 900) (hcb : Nd.cnts b ≤ 900)
  (hF : ∀ x ∈ a,∀ y ∈ b,∀ (j s : Nat) (u v : Nd) (o : List Op8),x.kids[s]? = some u → y.kids[s]? = some v → o.length + (G (p ++ [(j : Int),(s : Int)]) u.kids v.kids).length ≤ 4000000 → F u.kids v.kids (p ++ [(j : Int),(s : Int)]) o = some (o ++ G (p ++ [(j : Int),(s : Int)]) u.kids v.kids)) :
  ∀ (k j : Nat) (S : List (Nat × Nat)) (o : List Op8),b.length - j < k → j ≤ b.length → Rest a b S → (∀ u ∈ S,j ≤ u.2) → o.length + ((List.range' j (b.length - j)).flatMap (chgF G p a b S)).length ≤ 4000000 →
   zBe F N a b p k (j : Int) (S.map zBd) o = some (o ++ (List.range' j (b.length - j)).flatMap (chgF G p a b S))
 | 0,j,S,o,h,_,_,_,_ => by omega
 | k + 1,j,S,o,h,hjb,hR,hS,ho => by
  have lb:=Nd.cnts_len b;unfold zBe
  by_cases hj : j < b.length
  ·have g2 : b[j]? = some b[j]:=List.getElem?_eq_getElem hj;have hd : b.getD j noN = b[j] :=(by rw [List.getD_eq_getElem?_getD,g2]; rfl);generalize b[j] = y at *;have my:=List.mem_of_getElem? g2;have cy:=Nd.cnts_mem my;rw [zA8 (Int.ofNat_lt.2 hj),cond_true,zGm g2]
   have er : b.length - j = (b.length - (j + 1)) + 1 :=(by omega);rw [er,List.range'_succ,List.flatMap_cons] at ho ⊢;rw [List.length_append] at ho;have none_case : (bif (((S.map zBd).length : Int) == 0) then some true else (at? (S.map zBd) 0).bind fun e => some (e.2 != (j : Int)) : Option Bool) = some true → parB S j = none →
     (∀ j',j ≤ j' → True) → (∀ u ∈ S,j + 1 ≤ u.2) → True:=fun _ _ _ _ => trivial
   clear none_case
   by_cases hmt : ∃ i S',S = (i,j) :: S'
   ·obtain ⟨i,S',rfl⟩:=hmt;obtain ⟨x,y',gx,gy,hal⟩:=hR.inn _ List.mem_cons_self;dsimp only at gx gy;obtain rfl : y = y':=Option.some.inj (g2.symm.trans gy)
    have mx:=List.mem_of_getElem? gx;have cx:=Nd.cnts_mem mx;have hlen:=zEd hal;have kx:=x.cnt_kids;have lx:=Nd.cnts_len x.kids;have hda : a.getD i noN = x :=(by rw [List.getD_eq_getElem?_getD,gx]; rfl);have hpar : chgF G p a b ((i,j) :: S') j = setO p j x y ++ zCf G p j 0 x.kids y.kids:=by
     unfold chgF;rw [zGC,if_pos rfl]
     dsimp only;rw [hda,hd]
    have hsort:=List.pairwise_cons.1 hR.sorted;have hrest : ∀ q ∈ List.range' (j + 1) (b.length - (j + 1)),chgF G p a b ((i,j) :: S') q = chgF G p a b S' q:=fun q hq => by
     have hq':=List.mem_range'_1.1 hq;unfold chgF;rw [zGC,if_neg (by dsimp only; omega)]
    rw [zIB hrest] at ho ⊢;rw [hpar] at ho ⊢;rw [List.length_append] at ho;have c0 : ((((i,j) :: S').map zBd).length : Int) = ((S'.length + 1 : Nat) : Int) :=(by simp);have a0 : at? (((i,j) :: S').map zBd) 0 = some ((i : Int),(j : Int)):=rfl;have hc : (bif (((((i,j) :: S').map zBd).length : Int) == 0) then some true else (at? (((i,j) :: S').map zBd) 0).bind fun e => some (e.2 != (j : Int)) : Option Bool) = some false:=by
     rw [c0,zFd (by omega),cond_false,a0]
     simp
    have es1 : x.text = y.text → setO p j x y = []:=fun h => if_pos h
    have es2 : x.text ≠ y.text → setO p j x y = [zIS p j x.text y.text]:=fun h => if_neg h
    have ih:=zMO N p a b F G hN hp hca hcb hF k (j + 1) S' (o ++ (setO p j x y ++ zCf G p j 0 x.kids y.kids)) (by omega) (by omega) ⟨fun u hu => hR.inn u (List.mem_cons_of_mem _ hu),hsort.2⟩ (fun u hu => (hsort.1 u hu).2) (by rw [List.length_append,List.length_append]; omega)
    have el:=zOr N p j x.kids y.kids F G (by omega) hp hlen (by omega) (fun s u v o h1 h2 h3 => hF x mx y my j s u v o h1 h2 h3) N 0 (o ++ setO p j x y) (by omega) (Nat.zero_le _) (by rw [List.drop_zero,List.drop_zero,List.length_append]; omega)
    rw [show ((0 : Nat) : Int) = 0 from rfl,List.drop_zero,List.drop_zero] at el;have ee : x.text ≠ y.text → zCo N (zIS p j x.text y.text) o = some (o ++ [zIS p j x.text y.text]):=fun _ => zPK N _ o (by show Nd.cnts [] < N; simp only [Nd.cnts]; omega) (by show Nd.cnts [] ≤ _; simp only [Nd.cnts]; omega) (by show p.length ≤ _; omega) (by omega)
    have at2:=zGm gx;have htk : ((((i,j) :: S').map zBd).take ((((i,j) :: S').map zBd).length : Int).toNat).drop (1 : Int).toNat = S'.map zBd:=by
     rw [Int.toNat_natCast,List.take_length]; rfl
    obtain ⟨x1,x2,x3,x4⟩:=x;obtain ⟨y1,y2,y3,y4⟩:=y;simp only [Nd.text,Nd.kids] at ee el es1 es2 ih;simp only [Option.bind_some,a0] at hc ⊢;rw [hc]
    simp only [Option.bind_some,cond_false,at2]
    rw [zBx (by rw [c0]; omega),htk]
    by_cases ht : x2 = y2
    ·rw [es1 ht,List.append_nil] at el;rw [es1 ht,List.nil_append] at ih;rw [show (x2 == y2) = true from beq_iff_eq.2 ht]
     simp only [Bool.not_true,cond_false,Option.bind_some,el]
     rw [zAL (by omega),ih,es1 ht,List.nil_append,List.append_assoc]
     rfl
    ·rw [es2 ht] at el ih;rw [show (x2 == y2) = false from beq_eq_false_iff_ne.2 ht]
     simp only [Bool.not_false,cond_true,Option.bind_some]
     have ee':=ee ht;unfold zIS at ee';rw [ee']
     simp only [Option.bind_some]
     unfold zIS at el;rw [el]
     simp only [Option.bind_some]
     unfold zIS at ih;rw [zAL (by omega)]
     simp only [List.append_assoc] at ih ⊢;rw [ih,es2 ht]
     rfl
   ·have hout : ∀ u ∈ S,j + 1 ≤ u.2:=fun u hu => by
     cases S with
     | nil => cases hu
     | cons v S' =>
      have hv:=hS v List.mem_cons_self;have hne : v.2 ≠ j:=fun e => hmt ⟨v.1,S',by rw [← e]⟩
      rcases List.mem_cons.1 hu with rfl | hu
      ·omega
      ·have:=(List.pairwise_cons.1 hR.sorted).1 u hu
       omega
    have hpar : chgF G p a b S j = [zF7 p j y]:=by
     unfold chgF;rw [zNe fun u hu => by have:=hout u hu; omega,hd]
    rw [hpar] at ho ⊢;have hc : (bif (((S.map zBd).length : Int) == 0) then some true else (at? (S.map zBd) 0).bind fun e => some (e.2 != (j : Int)) : Option Bool) = some true:=by
     cases S with
     | nil => rfl
     | cons v S' =>
      have hv:=hout v List.mem_cons_self;have c0 : (((v :: S').map zBd).length : Int) = ((S'.length + 1 : Nat) : Int) :=(by simp);have a0 : at? ((v :: S').map zBd) 0 = some (zBd v):=rfl;rw [c0,zFd (by omega),cond_false,a0]
      simp only [Option.bind_some,zBd]
      congr 1
      exact bne_iff_ne.2 (by omega)
    have ih:=zMO N p a b F G hN hp hca hcb hF k (j + 1) S (o ++ [zF7 p j y]) (by omega) (by omega) hR hout (by rw [List.length_append]; omega)
    have ee:=zPK N (zF7 p j y) o (by rw [(zIt (o:=zF7 p j y)).1]; simp only [Nd.cnts]; omega) (by rw [(zIt (o:=zF7 p j y)).1]; simp only [Nd.cnts]; omega) (by show p.length ≤ _; omega) (by omega)
    obtain ⟨y1,y2,y3,y4⟩:=y;unfold zF7 at ee;simp only [Option.bind_some]
    rw [hc]
    simp only [Option.bind_some,cond_true,ee]
    unfold zF7 at ih;rw [zAL (by omega),ih]
    unfold zF7;simp only [List.append_assoc]
  ·rw [zA5 (by omega),cond_false,show b.length - j = 0 by omega]
   simp
end Go.Proofs.YtjdhkpdjecegnaaGreatDoor
namespace Go.Proofs.YtjdhkpdjecegnaaGreatDoor
open Go.Abs
theorem zKK {L : List (Nat × Nat)} (hs : L.Pairwise fun u v => u.1 < v.1 ∧ u.2 < v.2) {i q : Nat} (h : (i,q) ∈ L) : parK L i = some q:=by
 induction L with
 | nil => cases h
 | cons u L ih =>
  obtain ⟨h1,h2⟩:=List.pairwise_cons.1 hs;rw [zKJ]
  rcases List.mem_cons.1 h with rfl | h
  ·rw [if_pos rfl]
  ·rw [if_neg (by have:=h1 _ h; dsimp only at this; omega)]
   exact ih h2 h
theorem zQC {L : List (Nat × Nat)} (hs : L.Pairwise fun u v => u.1 < v.1 ∧ u.2 < v.2) {i q : Nat} (h : (i,q) ∈ L) : parB L q = some i:=by
 induction L with
 | nil => cases h
 | cons u L ih =>
  obtain ⟨h1,h2⟩:=List.pairwise_cons.1 hs;rw [zGC]
  rcases List.mem_cons.1 h with rfl | h
  ·rw [if_pos rfl]
  ·rw [if_neg (by have:=h1 _ h; dsimp only at this; omega)]
   exact ih h2 h
theorem zOa (N : Nat) (p : List Int) (j : Nat) (xk yk : List Nd) (F : zRI) (G : RowO) (hN : 5 < N) (hp : p.length ≤ 1000000) (hl : xk.length = yk.length)
  (hF : ∀ (s : Nat) (u v : Nd) (o : List Op8),xk[s]? = some u → yk[s]? = some v → o.length + (G (p ++ [(j : Int),(s : Int)]) u.kids v.kids).length ≤ 4000000 → F u.kids v.kids (p ++ [(j : Int),(s : Int)]) o = some (o ++ G (p ++ [(j : Int),(s : Int)]) u.kids v.kids)) (o : List Op8) :
  ∀ (i : Nat),i ≤ xk.length → o.length + (zB1 G p j (xk.length - i) (xk.drop (xk.length - i)) (yk.drop (xk.length - i))).length ≤ 4000000 →
   zBs F N xk yk p (j : Int) o i = some (o ++ zB1 G p j (xk.length - i) (xk.drop (xk.length - i)) (yk.drop (xk.length - i)))
 | 0,_,_ => by
  unfold zBs;rw [Nat.sub_zero,List.drop_length]
  simp only [zB1,List.append_nil]
 | i + 1,hi,ho => by
  unfold zBs;have e : xk.length - i = (xk.length - (i + 1)) + 1 :=(by omega);have e2 : xk.length - 1 - i = xk.length - (i + 1) :=(by omega);have hs : xk.length - (i + 1) < xk.length :=(by omega);have ih:=zOa N p j xk yk F G hN hp hl hF o i (by omega)
  rw [e] at ih;rw [e2]
  generalize xk.length - (i + 1) = s at *;have g1 : xk[s]? = some xk[s]:=List.getElem?_eq_getElem hs;have g2 : yk[s]? = some (yk[s]'(by omega)):=List.getElem?_eq_getElem (by omega)
  generalize xk[s] = u at *;generalize yk[s]'(by omega) = v at *;rw [zGQ g1,zGQ g2] at ho ⊢;simp only [zB1,List.length_append] at ho;rw [ih (by omega)]
  have e1:=hF s u v (o ++ zB1 G p j (s + 1) (xk.drop (s + 1)) (yk.drop (s + 1))) g1 g2 (by rw [List.length_append]; omega)
  rw [zGm g1,zGm g2]
  obtain ⟨u1,u2,u3,u4⟩:=u;obtain ⟨v1,v2,v3,v4⟩:=v;simp only [Nd.kids] at e1;simp only [Option.bind_some]
  rw [zLP N p j s hN hp]
  simp only [Option.bind_some,e1]
  simp only [zB1,Nd.kids,List.append_assoc]
theorem zOt (P : List (Nat × Nat)) (u : Nat × Nat) (hl : P.length ≤ 4000000) : IntKind.i64.wrap ((((P ++ [u]).map zBd).length : Int) - 1) = (P.length : Int) ∧ at? ((P ++ [u]).map zBd) (P.length : Int) = some (zBd u) ∧ ((P ++ [u]).map zBd).take (P.length : Int).toNat = P.map zBd:=by
 have h1 : (((P ++ [u]).map zBd).length : Int) - 1 = (P.length : Int) :=(by simp);refine ⟨by rw [h1,wrap64_in (by omega) (by omega)],?_,?_⟩
 ·unfold at?
  rw [if_pos (by omega),Int.toNat_natCast]
  simp
 ·rw [Int.toNat_natCast]
  simp
theorem zUb (N : Nat) (p : List Int) (a b : List Nd) (L P : List (Nat × Nat)) (F : zRI) (G : RowO) (hN : 1000 < N) (hp : p.length ≤ 1000000) (hca : Nd.cnts a ≤ 900) (hcb : Nd.cnts b ≤ 900)
  (hF : ∀ x ∈ a,∀ y ∈ b,∀ (j s : Nat) (u v : Nd) (o : List Op8),x.kids[s]? = some u → y.kids[s]? = some v → o.length + (G (p ++ [(j : Int),(s : Int)]) u.kids v.kids).length ≤ 4000000 → F u.kids v.kids (p ++ [(j : Int),(s : Int)]) o = some (o ++ G (p ++ [(j : Int),(s : Int)]) u.kids v.kids))
  (hR : Rest a b L) (hP : P <+: L) (j : Nat) (hPj : ∀ u ∈ P,u.1 < j + 1) (hQ : ∀ u ∈ L,u ∉ P → j < u.1) (x : Nd) (gx : a[j]? = some x) (o : List Op8) (ho : o.length + (delF G p a b L j).length ≤ 4000000) :
  ∃ P',P' <+: L ∧ (∀ u ∈ P',u.1 < j) ∧ (∀ u ∈ L,u ∉ P' → j ≤ u.1) ∧ zBI F N b p (j : Int) x (P.map zBd) o = some (P'.map zBd,o ++ delF G p a b L j):=by
 have lb:=Nd.cnts_len b;have la:=Nd.cnts_len a;have mx:=List.mem_of_getElem? gx;have cx:=Nd.cnts_mem mx;have kx:=x.cnt_kids;have lx:=Nd.cnts_len x.kids;have hda : a.getD j noN = x :=(by rw [List.getD_eq_getElem?_getD,gx]; rfl);have hPs : P.Pairwise fun u v => u.1 < v.1 ∧ u.2 < v.2:=List.Pairwise.sublist hP.sublist hR.sorted
 by_cases hmt : ∃ P' q,P = P' ++ [(j,q)]
 ·obtain ⟨P',q,rfl⟩:=hmt;have hmem : (j,q) ∈ L:=hP.subset (by simp)
  obtain ⟨x',y,gx',gy,hal⟩:=hR.inn _ hmem;dsimp only at gx' gy;obtain rfl : x = x':=Option.some.inj (gx.symm.trans gx')
  have my:=List.mem_of_getElem? gy;have hdb : b.getD q noN = y :=(by rw [List.getD_eq_getElem?_getD,gy]; rfl);have hsp:=List.pairwise_append.1 hPs;have hlt : ∀ u ∈ P',u.1 < j:=fun u hu => (hsp.2.2 u hu _ (List.mem_singleton.2 rfl)).1
  have hdel : delF G p a b L j = zB1 G p j 0 x.kids y.kids:=by
   unfold delF;rw [zKK hR.sorted hmem]
   dsimp only;rw [hda,hdb]
  rw [hdel] at ho ⊢;have hlen : P'.length ≤ 4000000:=by
   have:=hP.length_le;have h2 : L.length ≤ a.length:=by
    have hs:=hR.sorted;have hin:=hR.inn
    clear hmem hPs hsp hdel hQ hPj hP
    have key : ∀ (n : Nat) (l : List (Nat × Nat)),(l.Pairwise fun u v => u.1 < v.1 ∧ u.2 < v.2) → (∀ u ∈ l,n ≤ u.1 ∧ u.1 < a.length) → l.length ≤ a.length - n:=by
     intro n l
     induction l generalizing n with
     | nil => intro _ _; exact Nat.zero_le _
     | cons u l ih =>
      intro h1 h2;obtain ⟨h3,h4⟩:=List.pairwise_cons.1 h1;have:=ih (u.1 + 1) h4 fun w hw => ⟨(h3 w hw).1,(h2 w (List.mem_cons_of_mem _ hw)).2⟩
      have:=h2 u List.mem_cons_self;simp only [List.length_cons]
      omega
    have:=key 0 L hs fun u hu => by
     obtain ⟨x,y,h1,_,_⟩:=hin u hu;exact ⟨Nat.zero_le _,(List.getElem?_eq_some_iff.1 h1).1⟩
    omega
   simp only [List.length_append,List.length_cons,List.length_nil] at this
   omega
  obtain ⟨w1,w2,w3⟩:=zOt P' (j,q) hlen;refine ⟨P',(List.prefix_append P' [(j,q)]).trans hP,hlt,fun u hu hn => ?_,?_⟩
  ·by_cases hu2 : u ∈ P' ++ [(j,q)]
   ·rcases List.mem_append.1 hu2 with h | h
    ·exact absurd h hn
    ·rw [List.mem_singleton.1 h]; exact Nat.le_refl _
   ·exact Nat.le_of_lt (hQ u hu hu2)
  have hl0 : ((((P' ++ [(j,q)]).map zBd).length : Int) == 0) = false:=zFd (by simp; omega)
  have hc : (bif ((((P' ++ [(j,q)]).map zBd).length : Int) == 0) then some true else (at? ((P' ++ [(j,q)]).map zBd) (IntKind.i64.wrap ((((P' ++ [(j,q)]).map zBd).length : Int) - 1))).bind fun e => some (e.1 != (j : Int)) : Option Bool) = some false:=by
   rw [hl0,cond_false,w1,w2]
   simp [zBd]
  have el:=zOa N p j x.kids y.kids F G (by omega) hp (zEd hal) (fun s u v o h1 h2 h3 => hF x mx y my j s u v o h1 h2 h3) o x.kids.length (Nat.le_refl _) (by rw [Nat.sub_self,List.drop_zero,List.drop_zero]; exact ho)
  rw [Nat.sub_self,List.drop_zero,List.drop_zero] at el;have at2:=zGm gy;have hw : (P'.length : Int) ≤ (((P' ++ [(j,q)]).map zBd).length : Int) :=(by simp; omega);obtain ⟨x1,x2,x3,x4⟩:=x;obtain ⟨y1,y2,y3,y4⟩:=y;unfold zBI;simp only [Nd.kids] at el lx kx ⊢;rw [hc]
  simp only [Option.bind_some,cond_false]
  rw [w1,w2]
  simp only [Option.bind_some,zBd,at2]
  rw [zBx ⟨by omega,hw,by omega⟩,el]
  simp only [Option.bind_some]
  rw [w3]
 ·have hout : ∀ u ∈ P,u.1 < j:=by
   intro u hu;rcases List.eq_nil_or_concat P with rfl | ⟨P',v,rfl⟩
   ·cases hu
   ·have hne : v.1 ≠ j:=fun e => hmt ⟨P',v.2,by rw [← e]; simp⟩
    have hv:=hPj v (by simp)
    rw [List.concat_eq_append] at hu hPs;rcases List.mem_append.1 hu with h | h
    ·have:=((List.pairwise_append.1 hPs).2.2 u h v (List.mem_singleton.2 rfl)).1
     omega
    ·rw [List.mem_singleton.1 h]; omega
  have hnone : parK L j = none:=zNf fun u hu => by
   by_cases h : u ∈ P
   ·have:=hout u h; omega
   ·have:=hQ u hu h; omega
  have hdel : delF G p a b L j = [zGY p j x]:=by
   unfold delF;rw [hnone]
   dsimp only;rw [hda]
  rw [hdel] at ho ⊢;refine ⟨P,hP,hout,fun u hu hn => Nat.le_of_lt (hQ u hu hn),?_⟩
  have hlen : P.length ≤ 4000000:=by
   have h2 : ∀ (n : Nat) (l : List (Nat × Nat)),(l.Pairwise fun u v => u.1 < v.1 ∧ u.2 < v.2) → (∀ u ∈ l,n ≤ u.1 ∧ u.1 < j) → l.length ≤ j - n:=by
    intro n l
    induction l generalizing n with
    | nil => intro _ _; exact Nat.zero_le _
    | cons u l ih =>
     intro h1 h2;obtain ⟨h3,h4⟩:=List.pairwise_cons.1 h1;have:=ih (u.1 + 1) h4 fun w hw => ⟨(h3 w hw).1,(h2 w (List.mem_cons_of_mem _ hw)).2⟩
     have:=h2 u List.mem_cons_self;simp only [List.length_cons]
     omega
   have:=h2 0 P hPs fun u hu => ⟨Nat.zero_le _,hout u hu⟩
   have:=(List.getElem?_eq_some_iff.1 gx).1
   omega
  have hc : (bif (((P.map zBd).length : Int) == 0) then some true else (at? (P.map zBd) (IntKind.i64.wrap (((P.map zBd).length : Int) - 1))).bind fun e => some (e.1 != (j : Int)) : Option Bool) = some true:=by
   rcases List.eq_nil_or_concat P with rfl | ⟨P',v,rfl⟩
   ·rfl
   ·rw [List.concat_eq_append] at hlen hout ⊢;obtain ⟨w1,w2,w3⟩:=zOt P' v (by simp only [List.length_append,List.length_cons,List.length_nil] at hlen; omega)
    rw [w1,w2,zFd (by simp; omega),cond_false]
    have:=hout v (by simp)
    simp only [Option.bind_some,zBd]
    congr 1
    exact bne_iff_ne.2 (by omega)
  have ee:=zPK N (zGY p j x) o (by rw [(zIt (o:=zGY p j x) (x:=x)).2]; simp only [Nd.cnts]; omega) (by rw [(zIt (o:=zGY p j x) (x:=x)).2]; simp only [Nd.cnts]; omega) (by show p.length ≤ _; omega) (by omega)
  obtain ⟨x1,x2,x3,x4⟩:=x;unfold zGY at ee;unfold zBI;dsimp only;rw [hc]
  simp only [Option.bind_some,cond_true,ee]
  rfl
theorem zN9 (N : Nat) (p : List Int) (a b : List Nd) (L : List (Nat × Nat)) (F : zRI) (G : RowO) (hN : 1000 < N) (hp : p.length ≤ 1000000) (hca : Nd.cnts a ≤ 900) (hcb : Nd.cnts b ≤ 900)
  (hF : ∀ x ∈ a,∀ y ∈ b,∀ (j s : Nat) (u v : Nd) (o : List Op8),x.kids[s]? = some u → y.kids[s]? = some v → o.length + (G (p ++ [(j : Int),(s : Int)]) u.kids v.kids).length ≤ 4000000 → F u.kids v.kids (p ++ [(j : Int),(s : Int)]) o = some (o ++ G (p ++ [(j : Int),(s : Int)]) u.kids v.kids))
  (hR : Rest a b L) (o : List Op8) : ∀ (i : Nat),i ≤ a.length → o.length + ((List.range' (a.length - i) i).reverse.flatMap (delF G p a b L)).length ≤ 4000000 →
   ∃ P,P <+: L ∧ (∀ u ∈ P,u.1 < a.length - i) ∧ (∀ u ∈ L,u ∉ P → a.length - i ≤ u.1) ∧ zBr F N a b p (L.map zBd) o i = some (P.map zBd,o ++ (List.range' (a.length - i) i).reverse.flatMap (delF G p a b L))
 | 0,_,_ => by
  refine ⟨L,List.prefix_refl _,fun u hu => ?_,fun u hu hn => absurd hu hn,?_⟩
  ·obtain ⟨x,y,h1,_,_⟩:=hR.inn u hu;exact (List.getElem?_eq_some_iff.1 h1).1
  ·unfold zBr;simp
 | i + 1,hi,ho => by
  have e : a.length - i = (a.length - (i + 1)) + 1 :=(by omega);have e2 : a.length - 1 - i = a.length - (i + 1) :=(by omega);have hj : a.length - (i + 1) < a.length :=(by omega);have ih:=zN9 N p a b L F G hN hp hca hcb hF hR o i (by omega)
  rw [zJS] at ho ⊢;unfold zBr;rw [e2]
  rw [e] at ih;generalize a.length - (i + 1) = j at *;rw [List.length_append] at ho;obtain ⟨P,h1,h2,h3,h4⟩:=ih (by omega)
  have gx : a[j]? = some a[j]:=List.getElem?_eq_getElem hj;obtain ⟨P',g1,g2,g3,g4⟩:=zUb N p a b L P F G hN hp hca hcb hF hR h1 j h2 (fun u hu hn => by have:=h3 u hu hn; omega) _ gx (o ++ (List.range' (j + 1) i).reverse.flatMap (delF G p a b L)) (by rw [List.length_append]; omega)
  refine ⟨P',g1,g2,g3,?_⟩
  rw [h4]
  simp only [Option.bind_some]
  rw [gx,Option.bind_some,g4]
  simp only [List.append_assoc]
end Go.Proofs.YtjdhkpdjecegnaaGreatDoor
namespace Go.Proofs.YtjdhkpdjecegnaaGreatDoor
open Go.Abs
theorem zME (K : Nat) (p : List Int) (a b : List Nd) : 4 * (zDE K p a b).length ≤ 5 * Nd.ws b:=Nat.le_trans (zSX _) (zPd K p a b)
theorem zMH (K : Nat) (p : List Int) (a b : List Nd) : 4 * (zDs K p a b).length ≤ 5 * Nd.ws a:=Nat.le_trans (zSX _) (zPe K p a b)
theorem zEn {a : List Nd} {x u : Nd} {s : Nat} (hx : x ∈ a) (hu : x.kids[s]? = some u) : Nd.cnts u.kids + 2 ≤ Nd.cnts a ∧ Nd.ws u.kids + 2 ≤ Nd.ws a ∧ u ∈ x.kids:=by
 have h:=List.mem_of_getElem? hu;have h1:=zQ9 hx h;have h2:=Nd.w_mem hx;have h3:=Nd.w_mem h;have e1:=x.w_eq;have e2:=u.w_eq;exact ⟨h1,by omega,h⟩
theorem ins_eq : ∀ (K n : Nat) (p : List Int) (a b : List Nd) (o : List Op8),Nd.cnts a < K → 4 * Nd.ws a + 4 * Nd.ws b + 1300 < n → p.length + Nd.cnts a ≤ 900000 → okR a → okR b → Nd.cnts a ≤ 900 → Nd.cnts b ≤ 900 → Nd.ws a ≤ 15999999 → Nd.ws b ≤ 15999999 → o.length + (zDE K p a b).length ≤ 4000000 →
  zA0 n a b p o = some (o ++ zDE K p a b)
 | 0,_,_,_,_,_,h,_,_,_,_,_,_,_,_,_ => by omega
 | _ + 1,0,_,_,_,_,_,h,_,_,_,_,_,_,_,_ => by omega
 | K + 1,n + 1,p,a,b,o,hK,hn,hp,oa,ob,ca,cb,wa,wb,ho => by
  have hbw:=Nd.cnts_ws b;have lb:=Nd.cnts_len b;have e1:=zNZ n a b (by omega) wa wb ca cb oa.2 ob.2;rw [zJd] at ho ⊢;have e2:=zMO n p a b (zA0 n) (zDE K) (by omega) (by omega) ca cb (fun x mx y my j s u v o' gu gv ho' => by
   obtain ⟨s1,s2,s3⟩:=zEn mx gu;obtain ⟨t1,t2,t3⟩:=zEn my gv;exact ins_eq K n (p ++ [(j : Int),(s : Int)]) u.kids v.kids o' (by omega) (by omega) (by simp only [List.length_append,List.length_cons,List.length_nil]; omega) (oa.sub mx s3).1 (ob.sub my t3).1 (by omega) (by omega) (by omega) (by omega) ho') n 0 (zFe a b) o (by omega) (Nat.zero_le _) (zGV a b) (fun _ _ => Nat.zero_le _) (by rw [Nat.sub_zero]; exact ho)
  rw [show ((0 : Nat) : Int) = 0 from rfl,Nat.sub_zero] at e2;unfold zA0;rw [e1,Option.bind_some,e2]
  rfl
theorem del_eq : ∀ (K n : Nat) (p : List Int) (a b : List Nd) (o : List Op8),Nd.cnts a < K → 4 * Nd.ws a + 4 * Nd.ws b + 1300 < n → p.length + Nd.cnts a ≤ 900000 → okR a → okR b → Nd.cnts a ≤ 900 → Nd.cnts b ≤ 900 → Nd.ws a ≤ 15999999 → Nd.ws b ≤ 15999999 → o.length + (zDs K p a b).length ≤ 4000000 →
  zBK n a b p o = some (o ++ zDs K p a b)
 | 0,_,_,_,_,_,h,_,_,_,_,_,_,_,_,_ => by omega
 | _ + 1,0,_,_,_,_,_,h,_,_,_,_,_,_,_,_ => by omega
 | K + 1,n + 1,p,a,b,o,hK,hn,hp,oa,ob,ca,cb,wa,wb,ho => by
  have la:=Nd.cnts_len a;have e1:=zNZ n a b (by omega) wa wb ca cb oa.2 ob.2;rw [zJe] at ho ⊢;obtain ⟨P,_,_,_,e2⟩:=zN9 n p a b (zFe a b) (zBK n) (zDs K) (by omega) (by omega) ca cb (fun x mx y my j s u v o' gu gv ho' => by
   obtain ⟨s1,s2,s3⟩:=zEn mx gu;obtain ⟨t1,t2,t3⟩:=zEn my gv;exact del_eq K n (p ++ [(j : Int),(s : Int)]) u.kids v.kids o' (by omega) (by omega) (by simp only [List.length_append,List.length_cons,List.length_nil]; omega) (oa.sub mx s3).1 (ob.sub my t3).1 (by omega) (by omega) (by omega) (by omega) ho') (zGV a b) o a.length (Nat.le_refl _) (by rw [Nat.sub_self]; exact ho)
  rw [Nat.sub_self] at e2;unfold zBK;rw [e1,Option.bind_some,zBx (by omega),e2]
  rfl
theorem zUx (n : Nat) (a b : Nd) (h : 4 * a.w + 4 * b.w + 1400 < n) (ha : a.w ≤ 1048576) (hb : b.w ≤ 1048576) (ca : a.cnt ≤ 120) (cb : b.cnt ≤ 120) (ra : a.rng) (rb : b.rng) :
  zDY n a b = some (bif zDk a && zDk b then (opsK a b,0) else ([],1)):=by
 have e1:=zMJ n a b (by omega) (by omega) (by omega) (by omega)
 have k1:=a.cnt_kids;have k2:=b.cnt_kids;have w1:=a.w_eq;have w2:=b.w_eq;have l1:=zMH 130 [] a.kids b.kids;have l2:=zME 130 [] a.kids b.kids;cases hva : zDk a with
 | false =>
  rw [hva] at e1;obtain ⟨a1,a2,a3,a4⟩:=a;obtain ⟨b1,b2,b3,b4⟩:=b;unfold zDY;simp only [e1,Option.bind_some,Bool.false_and,Bool.not_false,cond_true,cond_false]
 | true =>
  cases hvb : zDk b with
  | false =>
   rw [hva,hvb] at e1;obtain ⟨a1,a2,a3,a4⟩:=a;obtain ⟨b1,b2,b3,b4⟩:=b;unfold zDY;simp only [e1,Option.bind_some,Bool.and_false,Bool.not_false,cond_true,cond_false]
  | true =>
   have oa:=(zQy hva ra).1;have ob:=(zQy hvb rb).1;have e2:=del_eq 130 n [] a.kids b.kids [] (by omega) (by omega) (by simp only [List.length_nil]; omega) oa ob (by omega) (by omega) (by omega) (by omega) (by simp only [List.length_nil]; omega)
   have e3:=ins_eq 130 n [] a.kids b.kids (zDs 130 [] a.kids b.kids) (by omega) (by omega) (by simp only [List.length_nil]; omega) oa ob (by omega) (by omega) (by omega) (by omega) (by omega)
   rw [List.nil_append] at e2;rw [hva,hvb] at e1;unfold opsK;obtain ⟨a1,a2,a3,a4⟩:=a;obtain ⟨b1,b2,b3,b4⟩:=b;simp only [Nd.kids] at e2 e3 ⊢;unfold zDY;simp only [e1,e2,e3,Option.bind_some,Bool.and_self,Bool.not_true,cond_true,cond_false]
theorem zKI (L : List (Nat × Nat)) (i : Nat) (hl : L.length ≤ 1073741824) : ∀ (k s : Nat),L.length - s < k → s ≤ L.length →
  ∃ fl,zB0 (L.map zBd) (i : Int) k (s : Int) = some fl ∧ ((fl = .go () ∧ (L.drop s).find? (fun u => u.1 == i) = none) ∨ ∃ (t : Nat) (u : Nat × Nat),fl = .ret (t : Int) ∧ L[t]? = some u ∧ (L.drop s).find? (fun u => u.1 == i) = some u)
 | 0,s,h,_ => by omega
 | k + 1,s,h,hs => by
  unfold zB0;rw [List.length_map]
  by_cases hj : s < L.length
  ·have hm : at? (L.map zBd) (s : Int) = some (zBd L[s]):=zJi zBd hj;have g : L[s]? = some L[s]:=List.getElem?_eq_getElem hj;rw [zA8 (Int.ofNat_lt.2 hj),cond_true,hm,List.drop_eq_getElem_cons hj,List.find?_cons]
   generalize L[s] = u at *;simp only [Option.bind_some,zBd,zCq]
   cases hc : (u.1 == i) with
   | true => exact ⟨_,rfl,.inr ⟨s,u,rfl,g,rfl⟩⟩
   | false =>
    simp only [cond_false]
    rw [zAL (by omega)]
    exact zKI L i hl k (s + 1) (by omega) (by omega)
  ·rw [zA5 (by omega),cond_false,List.drop_of_length_le (by omega)]; exact ⟨_,rfl,.inl ⟨rfl,rfl⟩⟩
theorem zSx (n : Nat) (L : List (Nat × Nat)) (i : Nat) (hl : L.length ≤ 1073741824) (hn : L.length < n) :
  ∃ r,zEl n (L.map zBd) (i : Int) = some r ∧ ((r = -1 ∧ parK L i = none) ∨ ∃ (t : Nat) (u : Nat × Nat),r = (t : Int) ∧ L[t]? = some u ∧ parK L i = some u.2):=by
 obtain ⟨fl,h1,h2⟩:=zKI L i hl n 0 (by omega) (Nat.zero_le _)
 rw [show ((0 : Nat) : Int) = 0 from rfl] at h1;rw [List.drop_zero] at h2;unfold zEl parK;dsimp only;rw [h1]
 rcases h2 with ⟨rfl,h2⟩ | ⟨t,u,rfl,h2,h3⟩
 ·exact ⟨_,rfl,.inl ⟨rfl,by rw [h2]; rfl⟩⟩
 ·exact ⟨_,rfl,.inr ⟨t,u,rfl,h2,by rw [h3]; rfl⟩⟩
theorem zJn (L : List (Nat × Nat)) (i : Nat) (hl : L.length ≤ 1073741824) : ∀ (k s : Nat),L.length - s < k → s ≤ L.length →
  ∃ fl,zBc (L.map zBd) (i : Int) k (s : Int) = some fl ∧ ((fl = .go () ∧ (L.drop s).find? (fun u => u.2 == i) = none) ∨ ∃ (t : Nat) (u : Nat × Nat),fl = .ret (t : Int) ∧ L[t]? = some u ∧ (L.drop s).find? (fun u => u.2 == i) = some u)
 | 0,s,h,_ => by omega
 | k + 1,s,h,hs => by
  unfold zBc;rw [List.length_map]
  by_cases hj : s < L.length
  ·have hm : at? (L.map zBd) (s : Int) = some (zBd L[s]):=zJi zBd hj;have g : L[s]? = some L[s]:=List.getElem?_eq_getElem hj;rw [zA8 (Int.ofNat_lt.2 hj),cond_true,hm,List.drop_eq_getElem_cons hj,List.find?_cons]
   generalize L[s] = u at *;simp only [Option.bind_some,zBd,zCq]
   cases hc : (u.2 == i) with
   | true => exact ⟨_,rfl,.inr ⟨s,u,rfl,g,rfl⟩⟩
   | false =>
    simp only [cond_false]
    rw [zAL (by omega)]
    exact zJn L i hl k (s + 1) (by omega) (by omega)
  ·rw [zA5 (by omega),cond_false,List.drop_of_length_le (by omega)]; exact ⟨_,rfl,.inl ⟨rfl,rfl⟩⟩
theorem zRq (n : Nat) (L : List (Nat × Nat)) (i : Nat) (hl : L.length ≤ 1073741824) (hn : L.length < n) :
  ∃ r,zB7 n (L.map zBd) (i : Int) = some r ∧ ((r = -1 ∧ parB L i = none) ∨ ∃ (t : Nat) (u : Nat × Nat),r = (t : Int) ∧ L[t]? = some u ∧ parB L i = some u.1):=by
 obtain ⟨fl,h1,h2⟩:=zJn L i hl n 0 (by omega) (Nat.zero_le _)
 rw [show ((0 : Nat) : Int) = 0 from rfl] at h1;rw [List.drop_zero] at h2;unfold zB7 parB;dsimp only;rw [h1]
 rcases h2 with ⟨rfl,h2⟩ | ⟨t,u,rfl,h2,h3⟩
 ·exact ⟨_,rfl,.inl ⟨rfl,by rw [h2]; rfl⟩⟩
 ·exact ⟨_,rfl,.inr ⟨t,u,rfl,h2,by rw [h3]; rfl⟩⟩
theorem zO1 (n : Nat) (a b : List Nd) (h : 4 * Nd.ws a + 4 * Nd.ws b + 200 < n) (ha : Nd.ws a ≤ 15999999) (hb : Nd.ws b ≤ 15999999) (ca : Nd.cnts a ≤ 900) (cb : Nd.cnts b ≤ 900) (ra : (rowK a).rng) (rb : (rowK b).rng) : zD1 n a b = some ((zFe a b).map zBd):=by
 have k1:=Nd.cnts_ws a;have k2:=Nd.cnts_ws b;have l1:=Nd.cnts_len a;have l2:=Nd.cnts_len b;have e4:=(zSA n).2 a b (by omega) (by omega) (by omega)
 have e5:=zFZ n (a:=a) (b:=b) (by omega) (by omega) (by omega) (fun x hx => by have:=Nd.w_mem hx; exact ⟨by omega,by omega,zGT ra (t:=rowK a) hx⟩) (fun x hx => by have:=Nd.w_mem hx; exact ⟨by omega,by omega,zGT rb (t:=rowK b) hx⟩) n 0 0 [] (by omega) (by omega) (by omega) (by simp)
 rw [show ((0 : Nat) : Int) = 0 from rfl,List.drop_zero,List.drop_zero,List.nil_append] at e5;have hf : zBi n 0 0 a b = zFe a b:=zET _ _ _ _ _ _ (by omega) (by omega)
 rw [hf] at e5;unfold zD1;simp only [e4,e5,Option.bind_some]
theorem zR4 (p : List Int) (j s : Int) (hp : p.length ≤ 1000000) : zEH p j s = some (p ++ [j,s]):=by
 unfold zEH;dsimp only;rw [zBx (by simp only [List.length_nil]; omega),zBx (by simp only [List.length_cons,List.length_nil]; omega)]
theorem zPJ (p : List Int) (hp : p.length ≤ 1000000) : zIb p = some p:=zBx (by omega)
theorem zKY {G : RowO} {p : List Int} {j : Nat} {u v : Nd} : ∀ (s : Nat) (us vs : List Nd),us.length = vs.length → zB1 G p j s (us ++ [u]) (vs ++ [v]) = G (p ++ [(j : Int),((s + us.length : Nat) : Int)]) u.kids v.kids ++ zB1 G p j s us vs
 | s,[],[],_ => by simp [zB1]
 | s,_ :: _,[],h => by simp at h
 | s,[],_ :: _,h => by simp at h
 | s,x :: us,y :: vs,h => by
  have ih:=zKY (G:=G) (p:=p) (j:=j) (u:=u) (v:=v) (s + 1) us vs (by simpa using h)
  simp only [List.cons_append,zB1,ih,List.length_cons,List.append_assoc]
  rw [show s + 1 + us.length = s + (us.length + 1) by omega]
abbrev zS8:=List Int → List Nd → List Nd → Option (List Op8)
theorem zL7 (p : List Int) (j : Nat) (a : List Nd) (x y : Nd) (ga : a[j]? = some x) (F : zS8) (G : RowO) (hp : p.length ≤ 1000000) (hl : x.kids.length = y.kids.length) (hb : x.kids.length ≤ 4000000)
  (hF : ∀ (s : Nat) (u v : Nd),x.kids[s]? = some u → y.kids[s]? = some v → F (p ++ [(j : Int),(s : Int)]) u.kids v.kids = some (G (p ++ [(j : Int),(s : Int)]) u.kids v.kids)) :
  ∀ (k t : Nat) (l : List Op8),t < k → t ≤ x.kids.length → l.length + (zB1 G p j 0 (x.kids.take t) (y.kids.take t)).length ≤ 4000000 →
   zBm F p a (j : Int) y.kids k ((t : Int) - 1) l = some (l ++ zB1 G p j 0 (x.kids.take t) (y.kids.take t))
 | 0,t,l,h,_,_ => by omega
 | k + 1,0,l,_,_,_ => by
  unfold zBm;rw [zA5 (by omega),cond_false]
  simp only [List.take_zero,zB1,List.append_nil]
 | k + 1,t + 1,l,h,ht,ho => by
  unfold zBm;have g1 : x.kids[t]? = some (x.kids[t]'(by omega)):=List.getElem?_eq_getElem (by omega)
  have g2 : y.kids[t]? = some (y.kids[t]'(by omega)):=List.getElem?_eq_getElem (by omega)
  have t1 : x.kids.take (t + 1) = x.kids.take t ++ [x.kids[t]'(by omega)]:=(List.take_append_getElem (by omega)).symm;have t2 : y.kids.take (t + 1) = y.kids.take t ++ [y.kids[t]'(by omega)]:=(List.take_append_getElem (by omega)).symm;generalize x.kids[t]'(by omega) = u at *;generalize y.kids[t]'(by omega) = v at *;have hlt : (x.kids.take t).length = (y.kids.take t).length :=(by simp only [List.length_take]; omega);have hlt2 : 0 + (x.kids.take t).length = t :=(by simp only [List.length_take]; omega);rw [t1,t2,zKY 0 _ _ hlt,hlt2] at ho ⊢;rw [List.length_append] at ho;have ez : (((t + 1 : Nat) : Int) - 1) = (t : Int):=by omega
  rw [ez,zA8 (by omega),cond_true,zR4 p j t hp]
  have e1:=hF t u v g1 g2;have ih:=zL7 p j a x y ga F G hp hl hb hF k t (l ++ G (p ++ [(j : Int),(t : Int)]) u.kids v.kids) (by omega) (by omega) (by rw [List.length_append]; omega)
  have h1:=zGm ga;have h2:=zGm g1;have h3:=zGm g2;obtain ⟨x1,x2,x3,x4⟩:=x;obtain ⟨y1,y2,y3,y4⟩:=y;obtain ⟨u1,u2,u3,u4⟩:=u;obtain ⟨v1,v2,v3,v4⟩:=v;simp only [Nd.kids] at *;simp only [Option.bind_some,h1,h2,h3,e1]
  rw [zBx (by omega),wrap64_in (by omega) (by omega),ih]
  simp only [List.append_assoc]
theorem zO4 (N : Nat) (p : List Int) (a b : List Nd) (L : List (Nat × Nat)) (F : zS8) (G : RowO) (hN : 1000 < N) (hp : p.length ≤ 1000000) (hca : Nd.cnts a ≤ 900) (hcb : Nd.cnts b ≤ 900) (hL : L.length ≤ 900) (hR : Rest a b L)
  (hF : ∀ x ∈ a,∀ y ∈ b,∀ (j s : Nat) (u v : Nd),x.kids[s]? = some u → y.kids[s]? = some v → F (p ++ [(j : Int),(s : Int)]) u.kids v.kids = some (G (p ++ [(j : Int),(s : Int)]) u.kids v.kids)) :
  ∀ (k t : Nat) (l : List Op8),t < k → t ≤ a.length → l.length + ((List.range' 0 t).reverse.flatMap (delF G p a b L)).length ≤ 4000000 →
   zBl F N p a b (L.map zBd) k ((t : Int) - 1) l = some (l ++ (List.range' 0 t).reverse.flatMap (delF G p a b L))
 | 0,t,l,h,_,_ => by omega
 | k + 1,0,l,_,_,_ => by
  unfold zBl;rw [zA5 (by omega),cond_false]
  simp
 | k + 1,t + 1,l,h,ht,ho => by
  have la:=Nd.cnts_len a;have er : (List.range' 0 (t + 1)).reverse.flatMap (delF G p a b L) = delF G p a b L t ++ (List.range' 0 t).reverse.flatMap (delF G p a b L):=by
   rw [List.range'_concat,List.reverse_append,List.flatMap_append]
   simp
  rw [er] at ho ⊢;rw [List.length_append] at ho;unfold zBl;have g1 : a[t]? = some (a[t]'(by omega)):=List.getElem?_eq_getElem (by omega)
  generalize a[t]'(by omega) = x at *;have mx:=List.mem_of_getElem? g1;have cx:=Nd.cnts_mem mx;have kx:=x.cnt_kids;have lx:=Nd.cnts_len x.kids;have hda : a.getD t noN = x :=(by rw [List.getD_eq_getElem?_getD,g1]; rfl);have ez : (((t + 1 : Nat) : Int) - 1) = (t : Int) :=(by omega);rw [ez,zA8 (by omega),cond_true]
  obtain ⟨r,e1,e2⟩:=zSx N L t (by omega) (by omega)
  rw [e1]
  have ih:=zO4 N p a b L F G hN hp hca hcb hL hR hF k t (l ++ delF G p a b L t) (by omega) (by omega) (by rw [List.length_append]; omega)
  have at1:=zGm g1;rcases e2 with ⟨rfl,e2⟩ | ⟨q,u,rfl,e2,e3⟩
  ·have hdel : delF G p a b L t = [zGY p t x]:=by
    unfold delF;rw [e2]
    dsimp only;rw [hda]
   rw [hdel] at ho ih ⊢;unfold zGY at ih ⊢;obtain ⟨x1,x2,x3,x4⟩:=x;simp only [Option.bind_some,show decide ((-1 : Int) < 0) = true from rfl,cond_true,zPJ p hp,at1]
   rw [zBx (by simp only [List.length_cons,List.length_nil]; omega)]
   simp only [Option.bind_some]
   rw [wrap64_in (by omega) (by omega),ih]
   simp only [List.append_assoc]
  ·obtain ⟨x',y,gx,gy,hal⟩:=hR.inn u (List.mem_of_getElem? e2)
   have hu1 : u.1 = t:=by
    unfold parK at e3;cases hf : L.find? (fun u => u.1 == t) with
    | none => rw [hf] at e3; cases e3
    | some w =>
     rw [hf] at e3;have hw:=List.find?_some hf;have hwm:=List.mem_of_find?_eq_some hf;have hw1 : w.1 = t:=eq_of_beq hw;have hum:=List.mem_of_getElem? e2;have h2 : w.2 = u.2:=Option.some.inj e3;have p1:=zQC hR.sorted (i:=w.1) (q:=w.2) hwm;have p2:=zQC hR.sorted (i:=u.1) (q:=u.2) hum;rw [h2] at p1;have:=Option.some.inj (p1.symm.trans p2)
     omega
   rw [hu1] at gx;obtain rfl : x = x':=Option.some.inj (g1.symm.trans gx)
   have my:=List.mem_of_getElem? gy;have hdb : b.getD u.2 noN = y :=(by rw [List.getD_eq_getElem?_getD,gy]; rfl);have hdel : delF G p a b L t = zB1 G p t 0 x.kids y.kids:=by
    unfold delF;rw [e3]
    dsimp only;rw [hda,hdb]
   rw [hdel] at ho ih ⊢;have el:=zL7 p t a x y g1 F G hp (zEd hal) (by omega) (fun s u v h1 h2 => hF x mx y my t s u v h1 h2) N x.kids.length l (by omega) (Nat.le_refl _) (by rw [List.take_length,List.take_of_length_le (by rw [zEd hal]; exact Nat.le_refl _)]; omega)
   rw [List.take_length,List.take_of_length_le (by rw [zEd hal]; exact Nat.le_refl _)] at el;have hq : q < L.length:=(List.getElem?_eq_some_iff.1 e2).1;have a2 : at? (L.map zBd) (q : Int) = some (zBd u):=by
    rw [zJi zBd hq]
    rw [List.getElem?_eq_getElem hq] at e2;rw [Option.some.inj e2]
   have at2:=zGm gy;have hwr : IntKind.i64.wrap ((x.kids.length : Int) - 1) = (x.kids.length : Int) - 1:=wrap64_in (by omega) (by omega)
   obtain ⟨x1,x2,x3,x4⟩:=x;obtain ⟨y1,y2,y3,y4⟩:=y;simp only [Nd.kids] at el hwr ih ⊢;simp only [Option.bind_some,zA5 (show ¬ ((q : Int) < 0) by omega),cond_false,a2,zBd,at2,at1,hwr,el]
   rw [wrap64_in (by omega) (by omega),ih]
   simp only [List.append_assoc]
theorem zL6 (p : List Int) (j : Nat) (b : List Nd) (x y : Nd) (gb : b[j]? = some y) (F : zS8) (G : RowO) (hp : p.length ≤ 1000000) (hl : x.kids.length = y.kids.length) (hb : y.kids.length ≤ 4000000)
  (hF : ∀ (s : Nat) (u v : Nd),x.kids[s]? = some u → y.kids[s]? = some v → F (p ++ [(j : Int),(s : Int)]) u.kids v.kids = some (G (p ++ [(j : Int),(s : Int)]) u.kids v.kids)) :
  ∀ (k s : Nat) (l : List Op8),y.kids.length - s < k → s ≤ y.kids.length → l.length + (zCf G p j s (x.kids.drop s) (y.kids.drop s)).length ≤ 4000000 →
   zBN F p b (j : Int) x.kids k (s : Int) l = some (l ++ zCf G p j s (x.kids.drop s) (y.kids.drop s))
 | 0,s,l,h,_,_ => by omega
 | k + 1,s,l,h,hs,ho => by
  unfold zBN;have h1:=zGm gb
  by_cases hj : s < y.kids.length
  ·have g1 : x.kids[s]? = some (x.kids[s]'(by omega)):=List.getElem?_eq_getElem (by omega)
   have g2 : y.kids[s]? = some y.kids[s]:=List.getElem?_eq_getElem hj;generalize x.kids[s]'(by omega) = u at *;generalize y.kids[s] = v at *;rw [zGQ g1,zGQ g2] at ho ⊢;simp only [zCf,List.length_append] at ho;have e1:=hF s u v g1 g2;have ih:=zL6 p j b x y gb F G hp hl hb hF k (s + 1) (l ++ G (p ++ [(j : Int),(s : Int)]) u.kids v.kids) (by omega) (by omega) (by rw [List.length_append]; omega)
   have h2:=zGm g1;have h3:=zGm g2;obtain ⟨x1,x2,x3,x4⟩:=x;obtain ⟨y1,y2,y3,y4⟩:=y;obtain ⟨u1,u2,u3,u4⟩:=u;obtain ⟨v1,v2,v3,v4⟩:=v;simp only [Nd.kids] at *;simp only [Option.bind_some,h1,zA8 (Int.ofNat_lt.2 hj),cond_true,zR4 p j s hp,h2,h3,e1]
   rw [zBx (by omega),zAL (by omega),ih]
   simp only [zCf,Nd.kids,List.append_assoc]
  ·have e1 : y.kids.drop s = []:=List.drop_of_length_le (by omega)
   have e2 : x.kids.drop s = []:=List.drop_of_length_le (by omega)
   rw [e1,e2]
   obtain ⟨y1,y2,y3,y4⟩:=y;simp only [Nd.kids] at hj hs;simp only [Option.bind_some,h1]
   rw [zA5 (by omega),cond_false]
   simp only [zCf,List.append_nil]
theorem zO2 (N : Nat) (p : List Int) (a b : List Nd) (L : List (Nat × Nat)) (F : zS8) (G : RowO) (hN : 1000 < N) (hp : p.length ≤ 1000000) (hca : Nd.cnts a ≤ 900) (hcb : Nd.cnts b ≤ 900) (hL : L.length ≤ 900) (hR : Rest a b L)
  (hF : ∀ x ∈ a,∀ y ∈ b,∀ (j s : Nat) (u v : Nd),x.kids[s]? = some u → y.kids[s]? = some v → F (p ++ [(j : Int),(s : Int)]) u.kids v.kids = some (G (p ++ [(j : Int),(s : Int)]) u.kids v.kids)) :
  ∀ (k j : Nat) (l : List Op8),b.length - j < k → j ≤ b.length → l.length + ((List.range' j (b.length - j)).flatMap (chgF G p a b L)).length ≤ 4000000 →
   zBM F N p a b (L.map zBd) k (j : Int) l = some (l ++ (List.range' j (b.length - j)).flatMap (chgF G p a b L))
 | 0,j,l,h,_,_ => by omega
 | k + 1,j,l,h,hjb,ho => by
  have lb:=Nd.cnts_len b;unfold zBM
  by_cases hj : j < b.length
  ·have g1 : b[j]? = some b[j]:=List.getElem?_eq_getElem hj;generalize b[j] = y at *;have my:=List.mem_of_getElem? g1;have cy:=Nd.cnts_mem my;have ky:=y.cnt_kids;have ly:=Nd.cnts_len y.kids;have hdb : b.getD j noN = y :=(by rw [List.getD_eq_getElem?_getD,g1]; rfl);have er : b.length - j = (b.length - (j + 1)) + 1 :=(by omega);rw [er,List.range'_succ,List.flatMap_cons] at ho ⊢;rw [List.length_append] at ho;rw [zA8 (Int.ofNat_lt.2 hj),cond_true]
   obtain ⟨r,e1,e2⟩:=zRq N L j (by omega) (by omega)
   rw [e1]
   have ih:=zO2 N p a b L F G hN hp hca hcb hL hR hF k (j + 1) (l ++ chgF G p a b L j) (by omega) (by omega) (by rw [List.length_append]; omega)
   have at1:=zGm g1;rcases e2 with ⟨rfl,e2⟩ | ⟨q,u,rfl,e2,e3⟩
   ·have hdel : chgF G p a b L j = [zF7 p j y]:=by
     unfold chgF;rw [e2]
     dsimp only;rw [hdb]
    rw [hdel] at ho ih ⊢;unfold zF7 at ih ⊢;obtain ⟨y1,y2,y3,y4⟩:=y;simp only [Option.bind_some,show decide ((-1 : Int) < 0) = true from rfl,cond_true,zPJ p hp,at1]
    rw [zBx (by simp only [List.length_cons,List.length_nil]; omega)]
    simp only [Option.bind_some]
    rw [zAL (by omega),ih]
    simp only [List.append_assoc]
   ·obtain ⟨x,y',gx,gy,hal⟩:=hR.inn u (List.mem_of_getElem? e2)
    have hu1 : u.2 = j:=by
     unfold parB at e3;cases hf : L.find? (fun u => u.2 == j) with
     | none => rw [hf] at e3; cases e3
     | some w =>
      rw [hf] at e3;have hw:=List.find?_some hf;have hwm:=List.mem_of_find?_eq_some hf;have hw1 : w.2 = j:=eq_of_beq hw;have hum:=List.mem_of_getElem? e2;have h2 : w.1 = u.1:=Option.some.inj e3;have p1:=zKK hR.sorted (i:=w.1) (q:=w.2) hwm;have p2:=zKK hR.sorted (i:=u.1) (q:=u.2) hum;rw [h2] at p1;have:=Option.some.inj (p1.symm.trans p2)
      omega
    rw [hu1] at gy;obtain rfl : y = y':=Option.some.inj (g1.symm.trans gy)
    have mx:=List.mem_of_getElem? gx;have hda : a.getD u.1 noN = x :=(by rw [List.getD_eq_getElem?_getD,gx]; rfl);have hdel : chgF G p a b L j = setO p j x y ++ zCf G p j 0 x.kids y.kids:=by
     unfold chgF;rw [e3]
     dsimp only;rw [hda,hdb]
    rw [hdel] at ho ih ⊢;rw [List.length_append] at ho;have es1 : x.text = y.text → setO p j x y = []:=fun h => if_pos h
    have es2 : x.text ≠ y.text → setO p j x y = [zIS p j x.text y.text]:=fun h => if_neg h
    have el:=zL6 p j b x y g1 F G hp (zEd hal) (by omega) (fun s u v h1 h2 => hF x mx y my j s u v h1 h2) N 0 (l ++ setO p j x y) (by omega) (Nat.zero_le _) (by rw [List.drop_zero,List.drop_zero,List.length_append]; omega)
    rw [show ((0 : Nat) : Int) = 0 from rfl,List.drop_zero,List.drop_zero] at el;have hq : q < L.length:=(List.getElem?_eq_some_iff.1 e2).1;have a2 : at? (L.map zBd) (q : Int) = some (zBd u):=by
     rw [zJi zBd hq]
     rw [List.getElem?_eq_getElem hq] at e2;rw [Option.some.inj e2]
    have at2:=zGm gx;obtain ⟨x1,x2,x3,x4⟩:=x;obtain ⟨y1,y2,y3,y4⟩:=y;simp only [Nd.text,Nd.kids] at es1 es2 el ih ⊢;simp only [Option.bind_some,zA5 (show ¬ ((q : Int) < 0) by omega),cond_false,a2,zBd,at2,at1]
    by_cases ht : x2 = y2
    ·rw [es1 ht,List.append_nil] at el;rw [es1 ht,List.nil_append] at ih ⊢;rw [show (x2 == y2) = true from beq_iff_eq.2 ht]
     simp only [Bool.not_true,cond_false,Option.bind_some,el]
     rw [zAL (by omega),ih]
     simp only [List.append_assoc]
    ·rw [es2 ht] at el ih ⊢;rw [show (x2 == y2) = false from beq_eq_false_iff_ne.2 ht]
     unfold zIS at el ih ⊢;simp only [Bool.not_false,cond_true,Option.bind_some,zPJ p hp]
     rw [zBx (by simp only [List.length_cons,List.length_nil]; omega)]
     simp only [Option.bind_some,el]
     rw [zAL (by omega)]
     simp only [List.append_assoc] at ih ⊢;rw [ih]
  ·rw [zA5 (by omega),cond_false,show b.length - j = 0 by omega]
   simp
theorem zOY (a b : List Nd) : (zFe a b).length ≤ a.length:=zGL _ _ _ _ _
theorem zSE : ∀ (K n : Nat) (p : List Int) (a b : List Nd),Nd.cnts a < K → 4 * Nd.ws a + 4 * Nd.ws b + 1300 < n → p.length + Nd.cnts a ≤ 900000 → okR a → okR b → Nd.cnts a ≤ 900 → Nd.cnts b ≤ 900 → Nd.ws a ≤ 1048576 → Nd.ws b ≤ 1048576 →
  zBb n p a b = some (zDs K p a b)
 | 0,_,_,_,_,h,_,_,_,_,_,_,_,_ => by omega
 | _ + 1,0,_,_,_,_,h,_,_,_,_,_,_,_ => by omega
 | K + 1,n + 1,p,a,b,hK,hn,hp,oa,ob,ca,cb,wa,wb => by
  have la:=Nd.cnts_len a;have lp:=zOY a b;have ho:=zMH (K + 1) p a b;have e1:=zO1 n a b (by omega) (by omega) (by omega) ca cb oa.2 ob.2;rw [zJe] at ho ⊢;have e2:=zO4 n p a b (zFe a b) (zBb n) (zDs K) (by omega) (by omega) ca cb (by omega) (zGV a b) (fun x mx y my j s u v gu gv => by
   obtain ⟨s1,s2,s3⟩:=zEn mx gu;obtain ⟨t1,t2,t3⟩:=zEn my gv;exact zSE K n (p ++ [(j : Int),(s : Int)]) u.kids v.kids (by omega) (by omega) (by simp only [List.length_append,List.length_cons,List.length_nil]; omega) (oa.sub mx s3).1 (ob.sub my t3).1 (by omega) (by omega) (by omega) (by omega)) n a.length [] (by omega) (Nat.le_refl _) (by rw [List.length_nil]; omega)
  rw [List.nil_append] at e2;unfold zBb;rw [e1,Option.bind_some,wrap64_in (by omega) (by omega),e2]
  rfl
theorem zSB : ∀ (K n : Nat) (p : List Int) (a b : List Nd),Nd.cnts a < K → 4 * Nd.ws a + 4 * Nd.ws b + 1300 < n → p.length + Nd.cnts a ≤ 900000 → okR a → okR b → Nd.cnts a ≤ 900 → Nd.cnts b ≤ 900 → Nd.ws a ≤ 1048576 → Nd.ws b ≤ 1048576 →
  zBv n p a b = some (zDE K p a b)
 | 0,_,_,_,_,h,_,_,_,_,_,_,_,_ => by omega
 | _ + 1,0,_,_,_,_,h,_,_,_,_,_,_,_ => by omega
 | K + 1,n + 1,p,a,b,hK,hn,hp,oa,ob,ca,cb,wa,wb => by
  have la:=Nd.cnts_len a;have lb:=Nd.cnts_len b;have lp:=zOY a b;have ho:=zME (K + 1) p a b;have e1:=zO1 n a b (by omega) (by omega) (by omega) ca cb oa.2 ob.2;rw [zJd] at ho ⊢;have e2:=zO2 n p a b (zFe a b) (zBv n) (zDE K) (by omega) (by omega) ca cb (by omega) (zGV a b) (fun x mx y my j s u v gu gv => by
   obtain ⟨s1,s2,s3⟩:=zEn mx gu;obtain ⟨t1,t2,t3⟩:=zEn my gv;exact zSB K n (p ++ [(j : Int),(s : Int)]) u.kids v.kids (by omega) (by omega) (by simp only [List.length_append,List.length_cons,List.length_nil]; omega) (oa.sub mx s3).1 (ob.sub my t3).1 (by omega) (by omega) (by omega) (by omega)) n 0 [] (by omega) (Nat.zero_le _) (by rw [List.length_nil,Nat.sub_zero]; omega)
  rw [List.nil_append,show ((0 : Nat) : Int) = 0 from rfl,Nat.sub_zero] at e2;unfold zBv;rw [e1,Option.bind_some,e2]
  rfl
theorem zUm (n : Nat) (a b : Nd) (h : 4 * a.w + 4 * b.w + 1400 < n) (ha : a.w ≤ 1048576) (hb : b.w ≤ 1048576) (ca : a.cnt ≤ 120) (cb : b.cnt ≤ 120) (ra : a.rng) (rb : b.rng) (va : zDk a = true) (vb : zDk b = true) :
  zGw n a b = some (opsK a b):=by
 have k1:=a.cnt_kids;have k2:=b.cnt_kids;have w1:=a.w_eq;have w2:=b.w_eq;have l1:=zMH 130 [] a.kids b.kids;have l2:=zME 130 [] a.kids b.kids;have oa:=(zQy va ra).1;have ob:=(zQy vb rb).1;have e2:=zSE 130 n [] a.kids b.kids (by omega) (by omega) (by simp only [List.length_nil]; omega) oa ob (by omega) (by omega) (by omega) (by omega)
 have e3:=zSB 130 n [] a.kids b.kids (by omega) (by omega) (by simp only [List.length_nil]; omega) oa ob (by omega) (by omega) (by omega) (by omega)
 unfold opsK;obtain ⟨a1,a2,a3,a4⟩:=a;obtain ⟨b1,b2,b3,b4⟩:=b;simp only [Nd.kids] at e2 e3 l1 l2 ⊢;unfold zGw;simp only [e2,e3,Option.bind_some]
 rw [zBx (by simp only [Nd.kids] at w1 w2; omega)]
end Go.Proofs.YtjdhkpdjecegnaaGreatDoor
namespace Go.Proofs.YtjdhkpdjecegnaaGreatDoor
open Go.Abs
theorem zMc (r : List Int) (hl : r.length ≤ 1073741824) : ∀ (k i : Nat),r.length - i < k → i ≤ r.length → zCx r r k (i : Int) = some (.go ())
 | 0,i,h,_ => by omega
 | k + 1,i,h,hi => by
  unfold zCx
  by_cases hj : i < r.length
  ·rw [zA8 (Int.ofNat_lt.2 hj),cond_true,zBA hj]
   simp only [Option.bind_some,bne_self_eq_false,cond_false]
   rw [zAL (by omega),zMc r hl k (i + 1) (by omega) (by omega)]
  ·rw [zA5 (by omega)]; rfl
theorem zSU (n : Nat) (o : Op8) (hn : 2 * Nd.cnts o.nodes + 10 < n) (hc : Nd.cnts o.nodes ≤ 67000000) (hr : o.row.length ≤ 1073741824) (hrn : o.row.length < n) : zEG n o o = some true:=by
 obtain ⟨k,row,a,m,nodes,slot,old,text⟩:=o;simp only [Op8.nodes,Op8.row] at hn hc hr hrn;obtain ⟨b,h1,h2⟩:=(zQg n).2 nodes nodes (by omega) (by omega)
 obtain rfl:=h2.2 rfl;have h3:=zMc row hr n 0 (by omega) (by omega)
 rw [show ((0 : Nat) : Int) = 0 from rfl] at h3;unfold zEG;simp only [bne_self_eq_false,cond_false,beq_self_eq_true,Bool.not_true,Option.bind_some,h3,h1]
theorem zJu (n : Nat) {ops : List Op8} (hs : ∀ o ∈ ops,zEG n o o = some true) (hl : ops.length ≤ 1073741824) : ∀ (k i : Nat),ops.length - i < k → i ≤ ops.length → zBL n ops ops k (i : Int) = some (.go ())
 | 0,i,h,_ => by omega
 | k + 1,i,h,hi => by
  unfold zBL
  by_cases hj : i < ops.length
  ·have h1:=hs _ (List.getElem_mem hj)
   rw [zA8 (Int.ofNat_lt.2 hj),cond_true,zBA hj]
   generalize ops[i] = o at *;obtain ⟨k,row,a,m,nodes,slot,old,text⟩:=o;simp only [Option.bind_some,h1,Bool.not_true,cond_false]
   rw [zAL (by omega),zJu n hs hl _ (i + 1) (by omega) (by omega)]
  ·rw [zA5 (by omega)]; rfl
end Go.Proofs.YtjdhkpdjecegnaaGreatDoor
namespace Go.Proofs.YtjdhkpdjecegnaaGreatDoor
open Go.Abs
def zT4 (o : Op8) : Prop:=o.1 = 1 ∨ o.1 = 2 ∨ o.1 = 5
theorem zQl : ∀ (N : Nat) (p : List Int) (a b : List Nd),∀ o ∈ zDs N p a b,zT4 o
 | 0,_,_,_,_,h => by cases h
 | N + 1,p,a,b,o,h => by
  unfold zDs at h;rcases zSb (zO9 a b) _ h with ⟨x,h1,i,rfl⟩ | ⟨x,h1,y,_,u,h2,v,_,q,h3⟩
  ·exact .inr (.inl rfl)
  ·exact zQl N q u.kids v.kids o h3
theorem zQk : ∀ (N : Nat) (p : List Int) (a b : List Nd),∀ o ∈ zDE N p a b,zT4 o
 | 0,_,_,_,_,h => by cases h
 | N + 1,p,a,b,o,h => by
  unfold zDE at h;rcases zSa (zO9 a b) _ h with ⟨y,h1,j,rfl⟩ | ⟨x,_,y,h1,j,rfl⟩ | ⟨x,_,y,h1,u,_,v,h2,q,h3⟩
  ·exact .inl rfl
  ·exact .inr (.inr rfl)
  ·exact zQk N q u.kids v.kids o h3
theorem zSs {a b : Nd} (wa : a.w ≤ 1048576) (wb : b.w ≤ 1048576) : (opsK a b).length ≤ 4000000 ∧ ∀ o ∈ opsK a b,Nd.cnts o.nodes ≤ 1048581 ∧ zT4 o:=by
 have w1:=a.w_eq;have w2:=b.w_eq;have l1:=zMH 130 [] a.kids b.kids;have l2:=zME 130 [] a.kids b.kids;refine ⟨by unfold opsK; rw [List.length_append]; omega,fun o ho => ?_⟩
 unfold opsK at ho;have hc:=Nd.cnts_ws o.nodes;rcases List.mem_append.1 ho with ho | ho
 ·have h1:=zR0 _ _ _ _ o ho;unfold opw at h1;exact ⟨by omega,zQl _ _ _ _ o ho⟩
 ·have h1:=zRR _ _ _ _ o ho;unfold opw at h1;exact ⟨by omega,zQk _ _ _ _ o ho⟩
theorem zMi {G : RowO} {p : List Int} {i M : Nat} (hG : ∀ q u v o,q.length = p.length + 2 → o ∈ G q u v → o.row.length ≤ M) {o : Op8} : ∀ (s : Nat) (us vs : List Nd),o ∈ zB1 G p i s us vs → o.row.length ≤ M
 | _,[],_,h => by simp only [zB1] at h; cases h
 | _,_ :: _,[],h => by simp only [zB1] at h; cases h
 | s,u :: us,v :: vs,h => by
  simp only [zB1] at h;rcases List.mem_append.1 h with h | h
  ·exact zMi hG (s + 1) us vs h
  ·exact hG _ _ _ _ (by simp) h
theorem zMh {G : RowO} {p : List Int} {i M : Nat} (hG : ∀ q u v o,q.length = p.length + 2 → o ∈ G q u v → o.row.length ≤ M) {o : Op8} : ∀ (s : Nat) (us vs : List Nd),o ∈ zCf G p i s us vs → o.row.length ≤ M
 | _,[],_,h => by simp only [zCf] at h; cases h
 | _,_ :: _,[],h => by simp only [zCf] at h; cases h
 | s,u :: us,v :: vs,h => by
  simp only [zCf] at h;rcases List.mem_append.1 h with h | h
  ·exact hG _ _ _ _ (by simp) h
  ·exact zMh hG (s + 1) us vs h
theorem zTi {G : RowO} {p : List Int} {M : Nat} (hp : p.length ≤ M) (hG : ∀ q u v o,q.length = p.length + 2 → o ∈ G q u v → o.row.length ≤ M) {o : Op8} {s : List Mv} {a b : List Nd} (hs : Sc s a b) : ∀ i,o ∈ zEW G p i s a b → o.row.length ≤ M:=by
 induction hs with
 | nil => intro i h; simp only [zEW] at h; cases h
 | @mat s x y xs ys ha _ ih =>
  intro i h;simp only [zEW] at h;rcases List.mem_append.1 h with h | h
  ·exact ih _ h
  ·exact zMi hG 0 _ _ h
 | @del s x xs b _ ih =>
  intro i h;simp only [zEW] at h;rcases List.mem_append.1 h with h | h
  ·exact ih _ h
  ·rw [List.mem_singleton.1 h]; exact hp
 | @ins s y a ys _ ih => intro i h; exact ih i h
theorem zTf {G : RowO} {p : List Int} {M : Nat} (hp : p.length ≤ M) (hG : ∀ q u v o,q.length = p.length + 2 → o ∈ G q u v → o.row.length ≤ M) {o : Op8} {s : List Mv} {a b : List Nd} (hs : Sc s a b) : ∀ i,o ∈ zEV G p i s a b → o.row.length ≤ M:=by
 induction hs with
 | nil => intro i h; simp only [zEV] at h; cases h
 | @mat s x y xs ys ha _ ih =>
  intro i h;simp only [zEV] at h;rcases List.mem_append.1 h with h | h
  ·unfold setO at h;split at h
   ·cases h
   ·rw [List.mem_singleton.1 h]; exact hp
  ·rcases List.mem_append.1 h with h | h
   ·exact zMh hG 0 _ _ h
   ·exact ih _ h
 | @del s x xs b _ ih => intro i h; exact ih i h
 | @ins s y a ys _ ih =>
  intro i h;simp only [zEV] at h;rcases List.mem_cons.1 h with h | h
  ·rw [h]; exact hp
  ·exact ih _ h
theorem zR1 : ∀ (N : Nat) (p : List Int) (a b : List Nd),∀ o ∈ zDs N p a b,o.row.length ≤ p.length + 2 * N
 | 0,_,_,_,_,h => by cases h
 | N + 1,p,a,b,o,h => by
  unfold zDs at h;exact zTi (by omega) (fun q u v o hq ho => by have:=zR1 N q u v o ho; omega) (zO9 a b) _ h
theorem zRS : ∀ (N : Nat) (p : List Int) (a b : List Nd),∀ o ∈ zDE N p a b,o.row.length ≤ p.length + 2 * N
 | 0,_,_,_,_,h => by cases h
 | N + 1,p,a,b,o,h => by
  unfold zDE at h;exact zTf (by omega) (fun q u v o hq ho => by have:=zRS N q u v o ho; omega) (zO9 a b) _ h
theorem zUj {a b : Nd} {o : Op8} (ho : o ∈ opsK a b) : o.row.length ≤ 260:=by
 unfold opsK at ho;rcases List.mem_append.1 ho with ho | ho
 ·have:=zR1 _ _ _ _ o ho; simpa using this
 ·have:=zRS _ _ _ _ o ho; simpa using this
theorem zQU (a b : Nd) (ha : a.w ≤ 1048576) (hb : b.w ≤ 1048576) (ra : a.rng) (rb : b.rng) : zDH (300000000 + 60) a b = some true:=by
 have hw:=zTd 300000000;obtain ⟨y,f1,f2⟩:=zUE (300000000 + 60) a b (by omega)
 cases y with
 | false =>
  obtain ⟨a1,a2,a3,a4⟩:=a;obtain ⟨b1,b2,b3,b4⟩:=b;unfold zDH;simp only [hw,f1,Option.bind_some,Bool.not_true,cond_false,Bool.not_false,cond_true]
 | true =>
  obtain ⟨ca,cb⟩:=f2 rfl;have e1:=zJr (300000000 + 60) a (by omega) (by omega)
  have e2:=zJr (300000000 + 60) b (by omega) (by omega)
  have e3:=zUx (300000000 + 60) a b (by omega) ha hb ca cb ra rb;have e4:=zUm (300000000 + 60) a b (by omega) ha hb ca cb ra rb;obtain ⟨s1,s2⟩:=zSs (a:=a) (b:=b) ha hb;have e5 : zDL (300000000 + 60) (opsK a b) (opsK a b) = some true:=by
   have h:=zJu (300000000 + 60) (ops:=opsK a b) (fun o ho => by
    have h1:=s2 o ho;have h2:=zUj ho;exact zSU _ o (by omega) (by omega) (by omega) (by omega)) (by omega) (300000000 + 60) 0 (by omega) (Nat.zero_le _)
   rw [show ((0 : Nat) : Int) = 0 from rfl] at h;unfold zDL;simp only [h,bne_self_eq_false,cond_false,Option.bind_some]
  generalize 300000000 + 60 = n at *;generalize opsK a b = L at *;obtain ⟨a1,a2,a3,a4⟩:=a;obtain ⟨b1,b2,b3,b4⟩:=b;unfold zDH;simp only [hw,f1,e1,e2,e3,Option.bind_some,Bool.not_true,cond_false]
  cases hva : zDk (.mk a1 a2 a3 a4) with
  | false => rfl
  | true =>
   cases hvb : zDk (.mk b1 b2 b3 b4) with
   | false => rfl
   | true => simp only [Bool.and_self,Bool.not_true,cond_true,cond_false,Option.bind_some,beq_self_eq_true,e4 hva hvb,e5]
end Go.Proofs.YtjdhkpdjecegnaaGreatDoor
