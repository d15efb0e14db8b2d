/-
  Joined out of: PMrg6, PMrg7, PMrgD, PMrgA, PMrgB, PMrgE.
-/
import Derived.Test.YtgfneloodabafaaGreatDoorZf
set_option linter.unusedVariables false
set_option linter.unusedSimpArgs false
set_option maxHeartbeats 2000000
set_option maxRecDepth 100000
namespace Go.Proofs.YtgfneloodabafaaGreatDoor
open Go.Abs
theorem zSM {n : Int} (h : 0 ≤ n ∧ n ≤ 1073741824) : zCV n = some []:=zBl h
theorem zRn (k : Nat) (p : List Int) (i s : Int) (hp : p.length ≤ 1000000) : zAU [p,[i,s]] (k + 3) 0 0 = some ((p.length : Int) + 2):=by
 have w1 : IntKind.i64.wrap ((0 : Int) + (p.length : Int)) = (p.length : Int):=by rw [wrap64_in (by omega) (by omega)]; omega
 have w2 : IntKind.i64.wrap ((p.length : Int) + 2) = (p.length : Int) + 2:=wrap64_in (by omega) (by omega)
 have c0 : at? [p,[i,s]] 0 = some p:=rfl
 have c1 : at? [p,[i,s]] 1 = some [i,s]:=rfl
 have v1 : IntKind.i64.wrap ((0 : Int) + 1) = 1:=by decide
 have v2 : IntKind.i64.wrap ((1 : Int) + 1) = 2:=by decide
 have hl : (([p,[i,s]] : List (List Int)).length : Int) = 2:=rfl
 have h2 : (([i,s] : List Int).length : Int) = 2:=rfl
 unfold zAU
 rw [hl,zBi (by decide),cond_true,c0]
 simp only [Option.bind_some]
 rw [w1,zA8 (by omega),cond_false,v1]
 unfold zAU
 rw [hl,zBi (by decide),cond_true,c1]
 simp only [Option.bind_some]
 rw [h2,w2,zA8 (by omega),cond_false,v2]
 unfold zAU
 rw [hl,zA8 (by decide),cond_false]
theorem zRo (k : Nat) (p : List Int) (i s : Int) (hp : p.length ≤ 1000000) : zAW [p,[i,s]] (k + 3) 0 [] = some (p ++ [i,s]):=by
 have c0 : at? [p,[i,s]] 0 = some p:=rfl
 have c1 : at? [p,[i,s]] 1 = some [i,s]:=rfl
 have v1 : IntKind.i64.wrap ((0 : Int) + 1) = 1:=by decide
 have v2 : IntKind.i64.wrap ((1 : Int) + 1) = 2:=by decide
 have hl : (([p,[i,s]] : List (List Int)).length : Int) = 2:=rfl
 have q1 : ([] : List Int).length + p.length ≤ 4294967296:=by rw [List.length_nil]; omega
 have q2 : p.length + [i,s].length ≤ 4294967296:=by rw [List.length_cons,List.length_cons,List.length_nil]; omega
 unfold zAW
 rw [hl,zBi (by decide),cond_true,c0]
 simp only [Option.bind_some]
 rw [zBl q1,v1]
 unfold zAW
 rw [hl,zBi (by decide),cond_true,c1]
 simp only [Option.bind_some,List.nil_append]
 rw [zBl q2,v2]
 unfold zAW
 rw [hl,zA8 (by decide),cond_false]
theorem zQI (n : Nat) (p : List Int) (i s : Int) (hn : 5 < n) (hp : p.length ≤ 1000000) : zBZ n [p,[i,s]] = some (p ++ [i,s]):=by
 obtain ⟨k,rfl⟩ : ∃ k,n = k + 3:=⟨n - 3,by omega⟩
 have e1:=zRn k p i s hp
 have e2 : zCV ((p.length : Int) + 2) = some []:=zSM ⟨by omega,by omega⟩
 have e3:=zRo k p i s hp
 unfold zBZ
 dsimp only
 rw [e1,Option.bind_some,e2,Option.bind_some,e3,Option.bind_some]
theorem zRx {F : RowF} {side : Int} {path : List Int} {i : Nat} {b x y : Nd} (h : x.text = b.text) : zFQ F side path i b x y = ([.mk b.kind y.text b.cols (zBW F path i 0 b.kids x.kids y.kids).1],(zBW F path i 0 b.kids x.kids y.kids).2):=by
 unfold zFQ; rw [if_pos h]
theorem zRy {F : RowF} {side : Int} {path : List Int} {i : Nat} {b x y : Nd} (h : ¬ x.text = b.text) (h2 : y.text = b.text ∨ y.text = x.text) : zFQ F side path i b x y = ([.mk b.kind x.text b.cols (zBW F path i 0 b.kids x.kids y.kids).1],(zBW F path i 0 b.kids x.kids y.kids).2):=by
 unfold zFQ; rw [if_neg h,if_pos h2]
theorem zRz {F : RowF} {side : Int} {path : List Int} {i : Nat} {b x y : Nd} (h : ¬ x.text = b.text) (h2 : ¬ (y.text = b.text ∨ y.text = x.text)) : zFQ F side path i b x y = (zPJ side [b] [x] [y],[(path,(i : Int),(i : Int) + 1,[x],[y])]):=by
 unfold zFQ; rw [if_neg h,if_neg h2]
theorem zJC {l : List Nd} {n : Nat} {v : Nd} (h : l[n]? = some v) : at? l (n : Int) = some v:=by
 obtain ⟨h1,rfl⟩:=List.getElem?_eq_some_iff.1 h
 exact zBA h1
theorem zTu {len : Nat} {l : List (Nat × Nat)} {n : Nat} (h : n < len) : at? (vecK len l) (n : Int) = some (parZ l n):=by
 have hl : n < (vecK len l).length:=by simpa [vecK] using h
 rw [zBA hl]; simp [vecK]
theorem zOQ {len : Nat} {px py : List (Nat × Nat)} {n : Nat} (h : n < len) : zF0 len px py n = (gK px py n).toList ++ zF0 len px py (n + 1):=by
 unfold zF0
 rw [show len - n = len - (n + 1) + 1 by omega,List.range'_succ,List.filterMap_cons]
 cases gK px py n <;> rfl
abbrev zUc:=(Int × List Cf) → List Int → Int → Nd → Nd → Nd → Option (List Nd × (Int × List Cf))
abbrev zTV:=(Int × List Cf) → List Int → List Nd → List Nd → List Nd → Option (List Nd × (Int × List Cf))
theorem zLT (N : Nat) (side : Int) (path : List Int) (i : Nat) (bk xk yk : List Nd) (F : zTV) (FR : RowF) (hN : 5 < N) (hp : path.length ≤ 1000000) (hb : bk.length ≤ 1000000) (hx : bk.length = xk.length) (hy : bk.length = yk.length)
  (hF : ∀ (s : Nat) (u v w : Nd) (cs : List Cf),bk[s]? = some u → xk[s]? = some v → yk[s]? = some w → cs.length + (FR (path ++ [(i : Int),(s : Int)]) u.kids v.kids w.kids).2.length ≤ 1000000 →
   F (side,cs) (path ++ [(i : Int),(s : Int)]) u.kids v.kids w.kids = some ((FR (path ++ [(i : Int),(s : Int)]) u.kids v.kids w.kids).1,(side,cs ++ (FR (path ++ [(i : Int),(s : Int)]) u.kids v.kids w.kids).2))) :
  ∀ (k s : Nat) (cs : List Cf) (acc : List Nd),bk.length - s < k → s ≤ bk.length → acc.length ≤ s → cs.length + (zBW FR path i s (bk.drop s) (xk.drop s) (yk.drop s)).2.length ≤ 1000000 →
   zA2 F N path (i : Int) bk xk yk k side (s : Int) cs acc = some (side,cs ++ (zBW FR path i s (bk.drop s) (xk.drop s) (yk.drop s)).2,acc ++ (zBW FR path i s (bk.drop s) (xk.drop s) (yk.drop s)).1)
 | 0,s,cs,acc,h,_,_,_ => by omega
 | k + 1,s,cs,acc,h,hs,ha,hc => by
  unfold zA2
  by_cases hj : s < bk.length
  ·have g1 : bk[s]? = some bk[s]:=List.getElem?_eq_getElem hj
   have g2 : xk[s]? = some (xk[s]'(by omega)):=List.getElem?_eq_getElem (by omega)
   have g3 : yk[s]? = some (yk[s]'(by omega)):=List.getElem?_eq_getElem (by omega)
   generalize bk[s] = u at *
   generalize xk[s]'(by omega) = v at *
   generalize yk[s]'(by omega) = w at *
   have hc':=hc
   rw [zDd g1,zDd g2,zDd g3] at hc'
   simp only [zBW,List.length_append] at hc'
   have e1:=hF s u v w cs g1 g2 g3 (by omega)
   rw [zBi (Int.ofNat_lt.2 hj),cond_true,zQI N path i s hN hp,zJC g1,zJC g2,zJC g3,zDd g1,zDd g2,zDd g3]
   obtain ⟨u1,u2,u3,u4⟩:=u
   obtain ⟨v1,v2,v3,v4⟩:=v
   obtain ⟨w1,w2,w3,w4⟩:=w
   simp only [Nd.kids] at e1 hc'
   simp only [Option.bind_some,e1]
   have ih:=zLT N side path i bk xk yk F FR hN hp hb hx hy hF k (s + 1) (cs ++ (FR (path ++ [(i : Int),(s : Int)]) u4 v4 w4).2) (acc ++ [Nd.mk 1 [] 0 (FR (path ++ [(i : Int),(s : Int)]) u4 v4 w4).1]) (by omega) (by omega) (by simp only [List.length_append,List.length_cons,List.length_nil]; omega) (by simp only [List.length_append]; omega)
   rw [zBl (by simp only [List.length_cons,List.length_nil]; omega),zAM (by omega),ih]
   simp only [zBW,Nd.kids,rowK,List.append_assoc,List.cons_append,List.nil_append]
  ·rw [zA8 (by omega),cond_false,List.drop_of_length_le (by omega)]
   simp only [zBW,List.append_nil]
theorem zKx (N : Nat) (side : Int) (hs : side = 0 ∨ side = 1 ∨ side = 2) (path : List Int) (hp : path.length ≤ 1000000) (b x y : List Nd) (px py : List (Nat × Nat)) (FR : RowF) (F : zUc)
  (hn : 2 * Nd.cnts b + 2 * Nd.cnts x + 2 * Nd.cnts y + 10 < N) (hc : Nd.cnts b + Nd.cnts x + Nd.cnts y ≤ 1000000)
  (hF : ∀ (n p q : Nat) (v w z : Nd) (cs : List Cf),b[n]? = some v → x[p]? = some w → y[q]? = some z → zBH v w = true → zBH v z = true → cs.length + (zFQ FR side path n v w z).2.length ≤ 1000000 →
   F (side,cs) path (n : Int) v w z = some ((zFQ FR side path n v w z).1,(side,cs ++ (zFQ FR side path n v w z).2))) :
  ∀ (k n i j l : Nat) (cs : List Cf) (acc : List Nd),b.length - n < k → n ≤ b.length → i ≤ n → j ≤ x.length → l ≤ y.length → KO b x y i j l (zF0 b.length px py n) →
   cs.length + (zFi FR side path b x y i j l (zF0 b.length px py n)).2.length ≤ 1000000 → acc.length + (zFi FR side path b x y i j l (zF0 b.length px py n)).1.length ≤ 4294967296 →
   ∃ (i' j' l' : Nat) (cs' : List Cf) (acc' : List Nd),zA1 F N path b x y (vecK b.length px) (vecK b.length py) k side (i : Int) (j : Int) (l : Int) (n : Int) cs acc = some ((i' : Int),(j' : Int),(l' : Int),side,cs',acc') ∧
    i' ≤ b.length ∧ j' ≤ x.length ∧ l' ≤ y.length ∧ acc' ++ (zEJ side path i' (b.drop i') (x.drop j') (y.drop l')).1 = acc ++ (zFi FR side path b x y i j l (zF0 b.length px py n)).1 ∧
    cs' ++ (zEJ side path i' (b.drop i') (x.drop j') (y.drop l')).2 = cs ++ (zFi FR side path b x y i j l (zF0 b.length px py n)).2
 | 0,n,i,j,l,cs,acc,h,_,_,_,_,_,_,_ => by omega
 | k + 1,n,i,j,l,cs,acc,h,hnb,hi,hj,hl,ko,hcs,hac => by
  have lb:=Nd.cnts_len b
  have lx:=Nd.cnts_len x
  have ly:=Nd.cnts_len y
  by_cases hlt : n < b.length
  ·unfold zA1
   rw [zBi (Int.ofNat_lt.2 hlt),cond_true,zTu hlt,zTu hlt]
   simp only [Option.bind_some]
   rw [zOQ hlt] at ko hcs hac ⊢
   cases hg : gK px py n with
   | none =>
    rw [hg] at ko hcs hac
    have hneg : (bif decide (parZ px n < 0) then some true else some (decide (parZ py n < 0)) : Option Bool) = some true:=by
     unfold gK at hg
     unfold parZ
     cases h1 : parK px n with
     | none => rfl
     | some p =>
      rw [h1] at hg
      cases h2 : parK py n with
      | none =>
       dsimp only
       rw [zA8 (show ¬ ((p : Int) < 0) by omega)]
       rfl
      | some q => rw [h2] at hg; cases hg
    rw [hneg]
    simp only [Option.bind_some,cond_true]
    rw [zAM (by omega)]
    exact zKx N side hs path hp b x y px py FR F hn hc hF k (n + 1) i j l cs acc (by omega) (by omega) (by omega) hj hl ko hcs hac
   | some u =>
    rw [hg] at ko hcs hac
    obtain ⟨g1,g2,g3⟩:=zKq hg
    obtain ⟨n',p,q⟩:=u
    dsimp only at g1 g2 g3
    subst g1
    have z1 : parZ px n' = (p : Int):=by unfold parZ; rw [g2]
    have z2 : parZ py n' = (q : Int):=by unfold parZ; rw [g3]
    obtain ⟨o1,o2,o3,v,w,z,r1,r2,r3,r4,r5⟩:=KO.head (n:=n') (p:=p) (q:=q) ko
    have hpx:=(List.getElem?_eq_some_iff.1 r2).1
    have hqy:=(List.getElem?_eq_some_iff.1 r3).1
    simp only [Option.toList_some,List.cons_append,List.nil_append,zFi,appK,List.length_append,zEB r1,zEB r2,zEB r3] at hcs hac ko ⊢
    have c1:=zGY b i n'
    have c2:=zGY x j p
    have c3:=zGY y l q
    have ep:=zRX N side cs path i (cutK b i n') (cutK x j p) (cutK y l q) hs (by omega) (by omega) hp (by omega) (by omega)
    have ei:=hF n' p q v w z (cs ++ (zEJ side path i (cutK b i n') (cutK x j p) (cutK y l q)).2) r1 r2 r3 r4 r5 (by rw [List.length_append]; omega)
    rw [z1,z2]
    rw [zA8 (show ¬ ((p : Int) < 0) by omega),cond_false,zA8 (show ¬ ((q : Int) < 0) by omega)]
    simp only [Option.bind_some,cond_false]
    rw [zBl ⟨by omega,by omega,by omega⟩]
    rw [zBl ⟨by omega,by omega,by omega⟩,zBl ⟨by omega,by omega,by omega⟩]
    have ep' : zBs N (side,cs) path (i : Int) ((b.take (n' : Int).toNat).drop (i : Int).toNat,(x.take (p : Int).toNat).drop (j : Int).toNat,(y.take (q : Int).toNat).drop (l : Int).toNat) = _:=ep
    rw [ep',zJC r1,zJC r2,zJC r3]
    obtain ⟨v1,v2,v3,v4⟩:=v
    obtain ⟨w1,w2,w3,w4⟩:=w
    obtain ⟨y1,y2,y3,y4⟩:=z
    simp only [Option.bind_some,ei]
    have hac1 : acc.length + (zEJ side path i (cutK b i n') (cutK x j p) (cutK y l q)).1.length ≤ 4294967296:=by omega
    rw [zBl hac1,zBl (by first | omega | (rw [List.length_append]; omega))]
    simp only [Option.bind_some]
    rw [zAM (by omega),zAM (by omega),zAM (by omega)]
    have ih:=zKx N side hs path hp b x y px py FR F hn hc hF k (n' + 1) (n' + 1) (p + 1) (q + 1) ((cs ++ (zEJ side path i (cutK b i n') (cutK x j p) (cutK y l q)).2) ++ (zFQ FR side path n' (.mk v1 v2 v3 v4) (.mk w1 w2 w3 w4) (.mk y1 y2 y3 y4)).2) ((acc ++ (zEJ side path i (cutK b i n') (cutK x j p) (cutK y l q)).1) ++ (zFQ FR side path n' (.mk v1 v2 v3 v4) (.mk w1 w2 w3 w4) (.mk y1 y2 y3 y4)).1)
     (by omega) (by omega) (Nat.le_refl _) (by omega) (by omega) ko.tail (by simp only [List.length_append]; omega) (by simp only [List.length_append]; omega)
    simp only [← List.append_assoc]
    exact ih
  ·obtain rfl : n = b.length:=by omega
   unfold zA1
   rw [zA8 (by omega),cond_false]
   have e : zF0 b.length px py b.length = []:=by unfold zF0; rw [Nat.sub_self]; rfl
   rw [e]
   exact ⟨i,j,l,cs,acc,rfl,hi,hj,hl,by unfold zFi; rfl,by unfold zFi; rfl⟩
theorem zSb (side : Int) (hs : side = 0 ∨ side = 1 ∨ side = 2) : ∀ (K n : Nat) (path : List Int) (cs : List Cf) (b x y : List Nd),Nd.cnts b < K → 4 * (Nd.ws b + Nd.ws x + Nd.ws y) + 300 < n → path.length + Nd.cnts b ≤ 900000 → okR b → okR x → okR y →
  Nd.cnts b ≤ 110 → Nd.cnts x ≤ 110 → Nd.cnts y ≤ 110 → Nd.ws b ≤ 15999999 → Nd.ws x ≤ 15999999 → Nd.ws y ≤ 15999999 → cs.length + (rowM K side path b x y).2.length ≤ 1000000 →
  zA0 n (side,cs) path b x y = some ((rowM K side path b x y).1,(side,cs ++ (rowM K side path b x y).2))
 | 0,n,_,_,_,_,_,h,_,_,_,_,_,_,_,_,_,_,_,_ => by omega
 | K + 1,0,_,_,_,_,_,_,h,_,_,_,_,_,_,_,_,_,_,_ => by omega
 | K + 1,n + 1,path,cs,b,x,y,hK,hn,hp,ob,ox,oy,cb,cx,cy,wb,wx,wy,hcs => by
  have lb:=Nd.cnts_len b
  have hbw:=Nd.cnts_ws b
  have hxw:=Nd.cnts_ws x
  have hyw:=Nd.cnts_ws y
  have p1:=partners_eq n b x (by omega) wb wx cb cx ob.2 ox.2 ob.1 ox.1
  have p2:=partners_eq n b y (by omega) wb wy cb cy ob.2 oy.2 ob.1 oy.1
  have hw:=zMc side (K + 1) path b x y
  have hlen:=Nd.ws_len (rowM (K + 1) side path b x y).1
  unfold rowM at hcs hw hlen
  unfold rowM
  unfold zA0
  simp only [p1,p2,Option.bind_some]
  rw [zIJ] at hcs hw hlen ⊢
  obtain ⟨i,j,l,cs',acc',e1,e2,e3,e4,e5,e6⟩:=zKx n side hs path (by omega) b x y (zCy b x) (zCy b y) (rowM K side) (zA9 n) (by omega) (by omega) (fun m p q v w z ds g1 g2 g3 g4 g5 hds => by
   obtain ⟨k,rfl⟩ : ∃ k,n = k + 1:=⟨n - 1,by omega⟩
   have mv:=List.mem_of_getElem? g1
   have mw:=List.mem_of_getElem? g2
   have mz:=List.mem_of_getElem? g3
   have cv:=Nd.cnts_mem mv
   have cw:=Nd.cnts_mem mw
   have cz:=Nd.cnts_mem mz
   have wv:=Nd.w_mem mv
   have ww:=Nd.w_mem mw
   have wz:=Nd.w_mem mz
   have kv:=v.cnt_kids
   have kw:=w.cnt_kids
   have kz:=z.cnt_kids
   have uv:=v.w_eq
   have uw:=w.w_eq
   have uz:=z.w_eq
   have mb:=(List.getElem?_eq_some_iff.1 g1).1
   have lv:=Nd.cnts_len v.kids
   have loop:=zLT k side path m v.kids w.kids z.kids (zA0 k) (rowM K side) (by omega) (by omega) (by omega) (zFJ g4) (zFJ g5) (fun s u u' u'' es h1 h2 h3 hes => by
    have n1:=List.mem_of_getElem? h1
    have n2:=List.mem_of_getElem? h2
    have n3:=List.mem_of_getElem? h3
    have d1:=Nd.cnts_mem n1
    have d2:=Nd.cnts_mem n2
    have d3:=Nd.cnts_mem n3
    have f1:=Nd.w_mem n1
    have f2:=Nd.w_mem n2
    have f3:=Nd.w_mem n3
    have k1:=u.cnt_kids
    have k2:=u'.cnt_kids
    have k3:=u''.cnt_kids
    have j1:=u.w_eq
    have j2:=u'.w_eq
    have j3:=u''.w_eq
    exact zSb side hs K k (path ++ [(m : Int),(s : Int)]) es u.kids u'.kids u''.kids (by omega) (by omega) (by simp only [List.length_append,List.length_cons,List.length_nil]; omega) (ob.sub mv n1).1 (ox.sub mw n2).1 (oy.sub mz n3).1 (by omega) (by omega) (by omega) (by omega) (by omega) (by omega) hes)
   obtain ⟨v1,v2,v3,v4⟩:=v
   obtain ⟨w1,w2,w3,w4⟩:=w
   obtain ⟨z1,z2,z3,z4⟩:=z
   simp only [Nd.kids] at loop
   unfold zA9
   have key : ds.length + (zBW (rowM K side) path m 0 v4 w4 z4).2.length ≤ 1000000 → zA2 (zA0 k) k path (m : Int) v4 w4 z4 k side 0 ds [] = some (side,ds ++ (zBW (rowM K side) path m 0 v4 w4 z4).2,(zBW (rowM K side) path m 0 v4 w4 z4).1):=fun hd => by
    have:=loop k 0 ds [] (by simp only [Nd.kids] at lv kv; omega) (Nat.zero_le _) (Nat.le_refl _) (by simpa using hd)
    simpa using this
   by_cases t1 : w2 = v2
   ·rw [zRx (show (Nd.mk w1 w2 w3 w4).text = (Nd.mk v1 v2 v3 v4).text from t1)] at hds ⊢
    simp only [Nd.text,Nd.kind,Nd.cols,Nd.kids] at hds ⊢
    rw [show (w2 == v2) = true from beq_iff_eq.2 t1]
    simp only [cond_true,Option.bind_some,key hds]
   ·rw [show (w2 == v2) = false from beq_eq_false_iff_ne.2 t1]
    simp only [cond_false]
    by_cases t2 : z2 = v2 ∨ z2 = w2
    ·rw [zRy (show ¬ (Nd.mk w1 w2 w3 w4).text = (Nd.mk v1 v2 v3 v4).text from t1) (show (Nd.mk z1 z2 z3 z4).text = (Nd.mk v1 v2 v3 v4).text ∨ (Nd.mk z1 z2 z3 z4).text = (Nd.mk w1 w2 w3 w4).text from t2)] at hds ⊢
     simp only [Nd.text,Nd.kind,Nd.cols,Nd.kids] at hds ⊢
     have hb : (bif z2 == v2 then some true else some (z2 == w2) : Option Bool) = some true:=by
      rcases t2 with t2 | t2
      ·rw [show (z2 == v2) = true from beq_iff_eq.2 t2]; rfl
      ·rw [show (z2 == w2) = true from beq_iff_eq.2 t2]; cases (z2 == v2) <;> rfl
     rw [hb]
     simp only [cond_true,Option.bind_some,key hds]
    ·rw [zRz (show ¬ (Nd.mk w1 w2 w3 w4).text = (Nd.mk v1 v2 v3 v4).text from t1) (show ¬ ((Nd.mk z1 z2 z3 z4).text = (Nd.mk v1 v2 v3 v4).text ∨ (Nd.mk z1 z2 z3 z4).text = (Nd.mk w1 w2 w3 w4).text) from t2)] at hds ⊢
     dsimp only at hds ⊢
     have hb : (bif z2 == v2 then some true else some (z2 == w2) : Option Bool) = some false:=by
      rw [show (z2 == v2) = false from beq_eq_false_iff_ne.2 fun e => t2 (.inl e),show (z2 == w2) = false from beq_eq_false_iff_ne.2 fun e => t2 (.inr e)]; rfl
     rw [hb]
     have ec:=zKk k side ds path m [.mk v1 v2 v3 v4] [.mk w1 w2 w3 w4] [.mk z1 z2 z3 z4] hs (by simp only [Nd.cnts]; omega) (by simp only [Nd.cnts]; omega) (by omega) (by omega) (by simp only [List.length_cons,List.length_nil] at hds; omega)
     simp only [cond_false,Option.bind_some,ec]
     rfl) n 0 0 0 0 cs [] (by omega) (Nat.zero_le _) (Nat.le_refl _) (Nat.zero_le _) (Nat.zero_le _) (zPN b x y 0) hcs (by rw [List.length_nil]; omega)
  have e1' : zA1 (zA9 n) n path b x y (vecK b.length (zCy b x)) (vecK b.length (zCy b y)) n side 0 0 0 0 cs [] = _:=e1
  rw [e1']
  simp only [Option.bind_some]
  rw [zBl ⟨by omega,by omega,by omega⟩,zBl ⟨by omega,by omega,by omega⟩,zBl ⟨by omega,by omega,by omega⟩]
  simp only [Int.toNat_natCast,List.take_length]
  have c1:=zGD b i
  have c2:=zGD x j
  have c3:=zGD y l
  have hl6:=congrArg List.length e6
  have hl5:=congrArg List.length e5
  simp only [List.length_append,List.length_nil] at hl5 hl6
  have ep:=zRX n side cs' path i (b.drop i) (x.drop j) (y.drop l) hs (by omega) (by omega) (by omega) (by omega) (by omega)
  rw [ep]
  simp only [Option.bind_some]
  rw [zBl (by omega),e5,e6,List.nil_append]
end Go.Proofs.YtgfneloodabafaaGreatDoor
namespace Go.Proofs.YtgfneloodabafaaGreatDoor
open Go.Abs
noncomputable def zCx (side : Int) (b x y : Nd) : Nd × List Cf × Int :=
 if zBG b = true ∧ zBG x = true ∧ zBG y = true then
  (if zBG (rowK (rowM 111 side [] b.kids x.kids y.kids).1) = true then (rowK (rowM 111 side [] b.kids x.kids y.kids).1,(rowM 111 side [] b.kids x.kids y.kids).2,0) else (zQA,[],6))
 else (zQA,[],1)
theorem zTN (n : Nat) (side : Int) (hs : side = 0 ∨ side = 1 ∨ side = 2) (b x y : Nd) (hn : 4 * (b.w + x.w + y.w) + 400 < n) (wb : b.w ≤ 16000000) (wx : x.w ≤ 16000000) (wy : y.w ≤ 16000000) (cb : b.cnt ≤ 110) (cx : x.cnt ≤ 110) (cy : y.cnt ≤ 110) (rb : b.rng) (rx : x.rng) (ry : y.rng) :
  ∃ cs,zBt n (side,[]) b x y = some ((zCx side b x y).1,(zCx side b x y).2.2,(side,cs)) ∧ ((zCx side b x y).2.2 = 0 → cs = (zCx side b x y).2.1):=by
 have v1:=zDq n b (by omega) (by omega)
 have v2:=zDq n x (by omega) (by omega)
 have v3:=zDq n y (by omega) (by omega)
 have b1:=b.w_eq
 have b2:=x.w_eq
 have b3:=y.w_eq
 have c1:=b.cnt_kids
 have c2:=x.cnt_kids
 have c3:=y.cnt_kids
 unfold zCx
 by_cases h : zBG b = true ∧ zBG x = true ∧ zBG y = true
 ·rw [if_pos h]
  obtain ⟨o1,e1⟩:=zLY h.1 rb
  obtain ⟨o2,e2⟩:=zLY h.2.1 rx
  obtain ⟨o3,e3⟩:=zLY h.2.2 ry
  have hcs:=zSc side 111 [] b.kids x.kids y.kids
  have hws:=zMc side 111 [] b.kids x.kids y.kids
  have hr:=zSb side hs 111 n [] [] b.kids x.kids y.kids (by omega) (by omega) (by simp only [List.length_nil]; omega) o1 o2 o3 (by omega) (by omega) (by omega) (by omega) (by omega) (by omega) (by simp only [List.length_nil]; omega)
  have wr : (rowK (rowM 111 side [] b.kids x.kids y.kids).1).w = Nd.ws (rowM 111 side [] b.kids x.kids y.kids).1 + 1:=by simp [rowK,Nd.w]
  have vr:=zDq n (rowK (rowM 111 side [] b.kids x.kids y.kids).1) (by omega) (by omega)
  rw [h.1] at v1
  rw [h.2.1] at v2
  rw [h.2.2] at v3
  unfold rowK at vr
  unfold rowK
  obtain ⟨p1,p2,p3,p4⟩:=b
  obtain ⟨q1,q2,q3,q4⟩:=x
  obtain ⟨r1,r2,r3,r4⟩:=y
  simp only [Nd.kids] at hr vr ⊢
  refine ⟨(rowM 111 side [] p4 q4 r4).2,?_⟩
  unfold zBt
  simp only [v1,v2,v3,Option.bind_some,Bool.not_true,cond_false,hr,vr,List.nil_append]
  by_cases hv : zBG (Nd.mk 1 [] 0 (rowM 111 side [] p4 q4 r4).1) = true
  ·simp only [hv,if_true,Bool.not_true,cond_false]
   exact ⟨trivial,fun _ => trivial⟩
  ·have hv' : zBG (Nd.mk 1 [] 0 (rowM 111 side [] p4 q4 r4).1) = false:=Bool.eq_false_iff.2 hv
   simp only [hv',Bool.false_eq_true,if_false,Bool.not_false,cond_true]
   exact ⟨rfl,fun h => by cases h⟩
 ·rw [if_neg h]
  refine ⟨[],?_,fun h => by cases h⟩
  obtain ⟨p1,p2,p3,p4⟩:=b
  obtain ⟨q1,q2,q3,q4⟩:=x
  obtain ⟨r1,r2,r3,r4⟩:=y
  unfold zBt
  simp only [v1,v2,v3,Option.bind_some]
  cases g1 : zBG (Nd.mk p1 p2 p3 p4) with
  | false => rfl
  | true =>
   cases g2 : zBG (Nd.mk q1 q2 q3 q4) with
   | false => rfl
   | true =>
    cases g3 : zBG (Nd.mk r1 r2 r3 r4) with
    | false => rfl
    | true => exact absurd ⟨g1,g2,g3⟩ h
theorem zQ8 (n : Nat) (b x y : Nd) (left : Bool) (hn : 4 * (b.w + x.w + y.w) + 400 < n) (wb : b.w ≤ 16000000) (wx : x.w ≤ 16000000) (wy : y.w ≤ 16000000) (cb : b.cnt ≤ 110) (cx : x.cnt ≤ 110) (cy : y.cnt ≤ 110) (rb : b.rng) (rx : x.rng) (ry : y.rng) :
  zCl n b x y left = some ((zCx (bif left then 1 else 2) b x y).1,(zCx (bif left then 1 else 2) b x y).2.2):=by
 obtain ⟨cs,h1,_⟩:=zTN n (bif left then 1 else 2) (by cases left <;> simp) b x y hn wb wx wy cb cx cy rb rx ry
 obtain ⟨p1,p2,p3,p4⟩:=b
 obtain ⟨q1,q2,q3,q4⟩:=x
 obtain ⟨r1,r2,r3,r4⟩:=y
 unfold zCl
 dsimp only
 have e : (bif left then some 1 else some 2 : Option Int) = some (bif left then 1 else 2):=by cases left <;> rfl
 rw [e]
 simp only [Option.bind_some,h1]
 generalize zCx (bif left then 1 else 2) (Nd.mk p1 p2 p3 p4) (Nd.mk q1 q2 q3 q4) (Nd.mk r1 r2 r3 r4) = m
 obtain ⟨⟨m1,m2,m3,m4⟩,ms,me⟩:=m
 rfl
theorem zSK (n : Nat) (a b c : Nd) (h : 110 < n) : ∃ y,zGI n a b c = some y ∧ (y = true → a.cnt ≤ 100 ∧ b.cnt ≤ 100 ∧ c.cnt ≤ 100):=by
 obtain ⟨y1,h1,g1⟩:=zRa n a 100 (by omega) (by omega)
 obtain ⟨y2,h2,g2⟩:=zRa n b 100 (by omega) (by omega)
 obtain ⟨y3,h3,g3⟩:=zRa n c 100 (by omega) (by omega)
 rw [show ((100 : Nat) : Int) = 100 from rfl] at h1 h2 h3
 obtain ⟨a1,a2,a3,a4⟩:=a
 obtain ⟨b1,b2,b3,b4⟩:=b
 obtain ⟨c1,c2,c3,c4⟩:=c
 refine ⟨y1 && (y2 && y3),?_,fun h => ?_⟩
 ·unfold zGI
  simp only [h1,h2,h3,Option.bind_some]
  cases y1 <;> cases y2 <;> rfl
 ·simp only [Bool.and_eq_true] at h
  exact ⟨g1 h.1,g2 h.2.1,g3 h.2.2⟩
end Go.Proofs.YtgfneloodabafaaGreatDoor
namespace Go.Proofs.YtgfneloodabafaaGreatDoor
open Go.Abs
theorem zJr (L : List (Nat × Nat)) (i : Nat) (hl : L.length ≤ 1073741824) : ∀ (k s : Nat),L.length - s < k → s ≤ L.length →
  zBY (L.map zE5) (i : Int) k (s : Int) = some (match (L.drop s).find? (fun u => u.1 == i) with | some u => .ret (u.2 : Int) | none => .go ())
 | 0,s,h,_ => by omega
 | k + 1,s,h,hs => by
  unfold zBY
  rw [List.length_map]
  by_cases hj : s < L.length
  ·have hm : at? (L.map zE5) (s : Int) = some (zE5 L[s]):=zLR zE5 hj
   rw [zBi (Int.ofNat_lt.2 hj),cond_true,hm,List.drop_eq_getElem_cons hj,List.find?_cons]
   generalize L[s] = u
   simp only [Option.bind_some,zE5,zDa]
   cases hc : (u.1 == i) with
   | true => rfl
   | false =>
    simp only [cond_false]
    rw [zAM (by omega)]
    exact zJr L i hl k (s + 1) (by omega) (by omega)
  ·rw [zA8 (by omega),cond_false,List.drop_of_length_le (by omega)]; rfl
theorem zL2 (n : Nat) (L : List (Nat × Nat)) (i : Nat) (hl : L.length ≤ 1073741824) (hn : L.length < n) : zDp n (L.map zE5) (i : Int) = some (parZ L i):=by
 have h:=zJr L i hl n 0 (by omega) (Nat.zero_le _)
 rw [show ((0 : Nat) : Int) = 0 from rfl,List.drop_zero] at h
 unfold zDp parZ parK
 dsimp only
 rw [h]
 cases L.find? (fun u => u.1 == i) <;> rfl
theorem zJu (n : Nat) (a b : List Nd) (h : 4 * Nd.ws a + 4 * Nd.ws b + 200 < n) (ha : Nd.ws a ≤ 15999999) (hb : Nd.ws b ≤ 15999999) (ca : Nd.cnts a ≤ 110) (cb : Nd.cnts b ≤ 110) (ra : (rowK a).rng) (rb : (rowK b).rng) : zEd n a b = some ((zCy a b).map zE5):=by
 have k1:=Nd.cnts_ws a
 have k2:=Nd.cnts_ws b
 have l1:=Nd.cnts_len a
 have l2:=Nd.cnts_len b
 have e4:=(zR1 n).2 a b (by omega) (by omega) (by omega)
 have e5:=zGg n (a:=a) (b:=b) (by omega) (by omega) (by omega) (fun x hx => by have:=Nd.w_mem hx; exact ⟨by omega,by omega,zG1 ra (t:=rowK a) hx⟩) (fun x hx => by have:=Nd.w_mem hx; exact ⟨by omega,by omega,zG1 rb (t:=rowK b) hx⟩) n 0 0 [] (by omega) (by omega) (by omega) (by simp)
 rw [show ((0 : Nat) : Int) = 0 from rfl,List.drop_zero,List.drop_zero,List.nil_append] at e5
 have hf : zBJ n 0 0 a b = zCy a b:=zE4 _ _ _ _ _ _ (by omega) (by omega)
 rw [hf] at e5
 unfold zEd
 simp only [e4,e5,Option.bind_some]
theorem zNf (n : Nat) (a b : List Nd) (h : 2 * Nd.cnts a + 1 < n) (hc : Nd.cnts a ≤ 67108864) : ∃ r,zBr n a b = some r ∧ (r = true ↔ a = b):=(zMm n).2 a b h hc
theorem zJv (n : Nat) (side : Int) (cs : List Cf) (path : List Int) (i : Nat) (b x y : List Nd) (hs : side = 0 ∨ side = 1 ∨ side = 2) (hb : b.length ≤ 1000000) (hp : path.length ≤ 1000000) (hi : i ≤ 1000000) (hl : cs.length ≤ 1000000) :
  zBx n (side,cs) path (i : Int) b x y = some (zPJ side b x y,(side,cs ++ [(path,(i : Int),(i : Int) + b.length,x,y)])):=by
 unfold zBx
 dsimp only
 rw [zBl ⟨by omega,by omega⟩,wrap64_in (n:=(i : Int) + (b.length : Int)) (by omega) (by omega)]
 rcases hs with rfl | rfl | rfl <;> rfl
theorem zQm (n : Nat) (side : Int) (cs : List Cf) (path : List Int) (i : Nat) (b x y : List Nd) (hs : side = 0 ∨ side = 1 ∨ side = 2) (hn : 2 * Nd.cnts b + 2 * Nd.cnts x + 2 * Nd.cnts y + 10 < n) (hc : Nd.cnts b + Nd.cnts x + Nd.cnts y ≤ 1000000) (hp : path.length ≤ 1000000) (hi : i ≤ 1000000) (hl : cs.length ≤ 1000000) :
  zBM n (side,cs) path (i : Int) b x y = some ((zEJ side path i b x y).1,(side,cs ++ (zEJ side path i b x y).2)):=by
 have lb:=Nd.cnts_len b
 have ec:=zJv n side cs path i b x y hs (by omega) hp hi hl
 obtain ⟨r1,h1,g1⟩:=zNf n x b (by omega) (by omega)
 obtain ⟨r2,h2,g2⟩:=zNf n y b (by omega) (by omega)
 obtain ⟨r3,h3,g3⟩:=zNf n y x (by omega) (by omega)
 unfold zBM zEJ
 simp only [h1,h2,h3,Option.bind_some]
 cases r1 with
 | true => rw [if_pos (g1.1 rfl),List.append_nil]; rfl
 | false =>
  rw [if_neg fun h => by have:=g1.2 h; cases this]
  simp only [cond_false]
  cases r2 with
  | true => rw [if_pos (.inl (g2.1 rfl)),List.append_nil]; rfl
  | false =>
   cases r3 with
   | true => rw [if_pos (.inr (g3.1 rfl)),List.append_nil]; rfl
   | false =>
    rw [if_neg fun h => h.elim (fun h => by have:=g2.2 h; cases this) fun h => by have:=g3.2 h; cases this]
    simp only [cond_false,Option.bind_some,ec]
abbrev zTT:=(Int × List Cf) → List Int → Int → Nd → Nd → Nd → Option (Nd × (Int × List Cf))
theorem zMa (side : Int) (path : List Int) (i : Nat) (bk xk yk : List Nd) (F : zTV) (FR : RowF) (hp : path.length ≤ 1000000) (hb : bk.length ≤ 1000000) (hx : bk.length = xk.length) (hy : bk.length = yk.length)
  (hF : ∀ (s : Nat) (u v w : Nd) (cs : List Cf),bk[s]? = some u → xk[s]? = some v → yk[s]? = some w → cs.length + (FR (path ++ [(i : Int),(s : Int)]) u.kids v.kids w.kids).2.length ≤ 1000000 →
   F (side,cs) (path ++ [(i : Int),(s : Int)]) u.kids v.kids w.kids = some ((FR (path ++ [(i : Int),(s : Int)]) u.kids v.kids w.kids).1,(side,cs ++ (FR (path ++ [(i : Int),(s : Int)]) u.kids v.kids w.kids).2))) :
  ∀ (k s : Nat) (cs : List Cf) (acc : List Nd),bk.length - s < k → s ≤ bk.length → acc.length ≤ s → cs.length + (zBW FR path i s (bk.drop s) (xk.drop s) (yk.drop s)).2.length ≤ 1000000 →
   zBf F path (i : Int) bk xk yk k side (s : Int) cs acc = some (side,cs ++ (zBW FR path i s (bk.drop s) (xk.drop s) (yk.drop s)).2,acc ++ (zBW FR path i s (bk.drop s) (xk.drop s) (yk.drop s)).1)
 | 0,s,cs,acc,h,_,_,_ => by omega
 | k + 1,s,cs,acc,h,hs,ha,hc => by
  unfold zBf
  by_cases hj : s < bk.length
  ·have g1 : bk[s]? = some bk[s]:=List.getElem?_eq_getElem hj
   have g2 : xk[s]? = some (xk[s]'(by omega)):=List.getElem?_eq_getElem (by omega)
   have g3 : yk[s]? = some (yk[s]'(by omega)):=List.getElem?_eq_getElem (by omega)
   generalize bk[s] = u at *
   generalize xk[s]'(by omega) = v at *
   generalize yk[s]'(by omega) = w at *
   have hc':=hc
   rw [zDd g1,zDd g2,zDd g3] at hc'
   simp only [zBW,List.length_append] at hc'
   have e1:=hF s u v w cs g1 g2 g3 (by omega)
   rw [zBi (Int.ofNat_lt.2 hj),cond_true,zBl (by rw [List.length_nil]; omega),zBl (by rw [List.length_cons,List.length_cons,List.length_nil]; omega),zJC g1,zJC g2,zJC g3,zDd g1,zDd g2,zDd g3]
   obtain ⟨u1,u2,u3,u4⟩:=u
   obtain ⟨v1,v2,v3,v4⟩:=v
   obtain ⟨w1,w2,w3,w4⟩:=w
   simp only [Nd.kids] at e1 hc'
   simp only [Option.bind_some,e1,zEc]
   have ih:=zMa side path i bk xk yk F FR hp hb hx hy hF k (s + 1) (cs ++ (FR (path ++ [(i : Int),(s : Int)]) u4 v4 w4).2) (acc ++ [Nd.mk 1 [] 0 (FR (path ++ [(i : Int),(s : Int)]) u4 v4 w4).1]) (by omega) (by omega) (by simp only [List.length_append,List.length_cons,List.length_nil]; omega) (by simp only [List.length_append]; omega)
   rw [zBl (by simp only [List.length_cons,List.length_nil]; omega),zAM (by omega),ih]
   simp only [zBW,Nd.kids,rowK,List.append_assoc,List.cons_append,List.nil_append]
  ·rw [zA8 (by omega),cond_false,List.drop_of_length_le (by omega)]
   simp only [zBW,List.append_nil]
theorem zKT (N : Nat) (side : Int) (hs : side = 0 ∨ side = 1 ∨ side = 2) (path : List Int) (hp : path.length ≤ 1000000) (b x y : List Nd) (px py : List (Nat × Nat)) (FR : RowF) (F : zTT) (hpx : px.length ≤ 1000000 ∧ px.length < N) (hpy : py.length ≤ 1000000 ∧ py.length < N)
  (hn : 2 * Nd.cnts b + 2 * Nd.cnts x + 2 * Nd.cnts y + 10 < N) (hc : Nd.cnts b + Nd.cnts x + Nd.cnts y ≤ 1000000)
  (hF : ∀ (n p q : Nat) (v w z : Nd) (cs : List Cf),b[n]? = some v → x[p]? = some w → y[q]? = some z → zBH v w = true → zBH v z = true → cs.length + (zFQ FR side path n v w z).2.length ≤ 1000000 →
   ∃ w',(zFQ FR side path n v w z).1 = [w'] ∧ F (side,cs) path (n : Int) v w z = some (w',(side,cs ++ (zFQ FR side path n v w z).2))) :
  ∀ (k n i j l : Nat) (cs : List Cf) (acc : List Nd),b.length - n < k → n ≤ b.length → i ≤ n → j ≤ x.length → l ≤ y.length → KO b x y i j l (zF0 b.length px py n) →
   cs.length + (zFi FR side path b x y i j l (zF0 b.length px py n)).2.length ≤ 1000000 → acc.length + (zFi FR side path b x y i j l (zF0 b.length px py n)).1.length ≤ 4294967296 →
   ∃ (i' j' l' : Nat) (cs' : List Cf) (acc' : List Nd),zBb F N path b x y (px.map zE5) (py.map zE5) k side (i : Int) (j : Int) (l : Int) (n : Int) cs acc = some ((i' : Int),(j' : Int),(l' : Int),side,cs',acc') ∧
    i' ≤ b.length ∧ j' ≤ x.length ∧ l' ≤ y.length ∧ acc' ++ (zEJ side path i' (b.drop i') (x.drop j') (y.drop l')).1 = acc ++ (zFi FR side path b x y i j l (zF0 b.length px py n)).1 ∧
    cs' ++ (zEJ side path i' (b.drop i') (x.drop j') (y.drop l')).2 = cs ++ (zFi FR side path b x y i j l (zF0 b.length px py n)).2
 | 0,n,i,j,l,cs,acc,h,_,_,_,_,_,_,_ => by omega
 | k + 1,n,i,j,l,cs,acc,h,hnb,hi,hj,hl,ko,hcs,hac => by
  have lb:=Nd.cnts_len b
  have lx:=Nd.cnts_len x
  have ly:=Nd.cnts_len y
  by_cases hlt : n < b.length
  ·unfold zBb
   rw [zBi (Int.ofNat_lt.2 hlt),cond_true,zL2 N px n (by omega) hpx.2,zL2 N py n (by omega) hpy.2]
   simp only [Option.bind_some]
   rw [zOQ hlt] at ko hcs hac ⊢
   cases hg : gK px py n with
   | none =>
    rw [hg] at ko hcs hac
    have hneg : (bif decide (parZ px n < 0) then some true else some (decide (parZ py n < 0)) : Option Bool) = some true:=by
     unfold gK at hg
     unfold parZ
     cases h1 : parK px n with
     | none => rfl
     | some p =>
      rw [h1] at hg
      cases h2 : parK py n with
      | none =>
       dsimp only
       rw [zA8 (show ¬ ((p : Int) < 0) by omega)]
       rfl
      | some q => rw [h2] at hg; cases hg
    rw [hneg]
    simp only [Option.bind_some,cond_true]
    rw [zAM (by omega)]
    exact zKT N side hs path hp b x y px py FR F hpx hpy hn hc hF k (n + 1) i j l cs acc (by omega) (by omega) (by omega) hj hl ko hcs hac
   | some u =>
    rw [hg] at ko hcs hac
    obtain ⟨g1,g2,g3⟩:=zKq hg
    obtain ⟨n',p,q⟩:=u
    dsimp only at g1 g2 g3
    subst g1
    have z1 : parZ px n' = (p : Int):=by unfold parZ; rw [g2]
    have z2 : parZ py n' = (q : Int):=by unfold parZ; rw [g3]
    obtain ⟨o1,o2,o3,v,w,z,r1,r2,r3,r4,r5⟩:=KO.head (n:=n') (p:=p) (q:=q) ko
    have hpx':=(List.getElem?_eq_some_iff.1 r2).1
    have hqy:=(List.getElem?_eq_some_iff.1 r3).1
    simp only [Option.toList_some,List.cons_append,List.nil_append,zFi,appK,List.length_append,zEB r1,zEB r2,zEB r3] at hcs hac ko ⊢
    have c1:=zGY b i n'
    have c2:=zGY x j p
    have c3:=zGY y l q
    have ep:=zQm N side cs path i (cutK b i n') (cutK x j p) (cutK y l q) hs (by omega) (by omega) hp (by omega) (by omega)
    obtain ⟨w',ew,ei⟩:=hF n' p q v w z (cs ++ (zEJ side path i (cutK b i n') (cutK x j p) (cutK y l q)).2) r1 r2 r3 r4 r5 (by rw [List.length_append]; omega)
    rw [z1,z2]
    rw [zA8 (show ¬ ((p : Int) < 0) by omega),cond_false,zA8 (show ¬ ((q : Int) < 0) by omega)]
    simp only [Option.bind_some,cond_false]
    rw [zBl ⟨by omega,by omega,by omega⟩]
    rw [zBl ⟨by omega,by omega,by omega⟩,zBl ⟨by omega,by omega,by omega⟩]
    have ep' : zBM N (side,cs) path (i : Int) ((b.take (n' : Int).toNat).drop (i : Int).toNat) ((x.take (p : Int).toNat).drop (j : Int).toNat) ((y.take (q : Int).toNat).drop (l : Int).toNat) = _:=ep
    rw [ep',zJC r1,zJC r2,zJC r3]
    rw [ew] at hac ⊢
    simp only [List.length_cons,List.length_nil] at hac
    obtain ⟨v1,v2,v3,v4⟩:=v
    obtain ⟨w1,w2,w3,w4⟩:=w
    obtain ⟨y1,y2,y3,y4⟩:=z
    obtain ⟨t1,t2,t3,t4⟩:=w'
    simp only [Option.bind_some,ei]
    have hac1 : acc.length + (zEJ side path i (cutK b i n') (cutK x j p) (cutK y l q)).1.length ≤ 4294967296:=by omega
    rw [zBl hac1,zBl (by first | (rw [List.length_append]; simp only [List.length_cons,List.length_nil]; omega) | (simp only [List.length_append,List.length_cons,List.length_nil]; omega))]
    simp only [Option.bind_some]
    rw [zAM (by omega),zAM (by omega),zAM (by omega)]
    have ih:=zKT N side hs path hp b x y px py FR F hpx hpy hn hc hF k (n' + 1) (n' + 1) (p + 1) (q + 1) ((cs ++ (zEJ side path i (cutK b i n') (cutK x j p) (cutK y l q)).2) ++ (zFQ FR side path n' (.mk v1 v2 v3 v4) (.mk w1 w2 w3 w4) (.mk y1 y2 y3 y4)).2) ((acc ++ (zEJ side path i (cutK b i n') (cutK x j p) (cutK y l q)).1) ++ [.mk t1 t2 t3 t4])
     (by omega) (by omega) (Nat.le_refl _) (by omega) (by omega) ko.tail (by simp only [List.length_append]; omega) (by simp only [List.length_append,List.length_cons,List.length_nil]; omega)
    simp only [List.append_assoc,List.cons_append,List.nil_append] at ih ⊢
    exact ih
  ·obtain rfl : n = b.length:=by omega
   unfold zBb
   rw [zA8 (by omega),cond_false]
   have e : zF0 b.length px py b.length = []:=by unfold zF0; rw [Nat.sub_self]; rfl
   rw [e]
   exact ⟨i,j,l,cs,acc,rfl,hi,hj,hl,by unfold zFi; rfl,by unfold zFi; rfl⟩
theorem zQn (side : Int) (hs : side = 0 ∨ side = 1 ∨ side = 2) : ∀ (K n : Nat) (path : List Int) (cs : List Cf) (b x y : List Nd),Nd.cnts b < K → 4 * (Nd.ws b + Nd.ws x + Nd.ws y) + 300 < n → path.length + Nd.cnts b ≤ 900000 → okR b → okR x → okR y →
  Nd.cnts b ≤ 110 → Nd.cnts x ≤ 110 → Nd.cnts y ≤ 110 → Nd.ws b ≤ 15999999 → Nd.ws x ≤ 15999999 → Nd.ws y ≤ 15999999 → cs.length + (rowM K side path b x y).2.length ≤ 1000000 →
  zBd n (side,cs) path b x y = some ((rowM K side path b x y).1,(side,cs ++ (rowM K side path b x y).2))
 | 0,n,_,_,_,_,_,h,_,_,_,_,_,_,_,_,_,_,_,_ => by omega
 | K + 1,0,_,_,_,_,_,_,h,_,_,_,_,_,_,_,_,_,_,_ => by omega
 | K + 1,n + 1,path,cs,b,x,y,hK,hn,hp,ob,ox,oy,cb,cx,cy,wb,wx,wy,hcs => by
  have lb:=Nd.cnts_len b
  have hbw:=Nd.cnts_ws b
  have hxw:=Nd.cnts_ws x
  have hyw:=Nd.cnts_ws y
  have p1:=zJu n b x (by omega) wb wx cb cx ob.2 ox.2
  have p2:=zJu n b y (by omega) wb wy cb cy ob.2 oy.2
  have q1:=zEO (b.length + x.length + 1) 0 0 b x
  have q2:=zEO (b.length + y.length + 1) 0 0 b y
  have hw:=zMc side (K + 1) path b x y
  have hlen:=Nd.ws_len (rowM (K + 1) side path b x y).1
  unfold rowM at hcs hw hlen
  unfold rowM
  unfold zBd
  simp only [p1,p2,Option.bind_some]
  rw [zIJ] at hcs hw hlen ⊢
  obtain ⟨i,j,l,cs',acc',e1,e2,e3,e4,e5,e6⟩:=zKT n side hs path (by omega) b x y (zCy b x) (zCy b y) (rowM K side) (zBn n) (by unfold zCy; omega) (by unfold zCy; omega) (by omega) (by omega) (fun m p q v w z ds g1 g2 g3 g4 g5 hds => by
   obtain ⟨k,rfl⟩ : ∃ k,n = k + 1:=⟨n - 1,by omega⟩
   have mv:=List.mem_of_getElem? g1
   have mw:=List.mem_of_getElem? g2
   have mz:=List.mem_of_getElem? g3
   have cv:=Nd.cnts_mem mv
   have cw:=Nd.cnts_mem mw
   have cz:=Nd.cnts_mem mz
   have wv:=Nd.w_mem mv
   have ww:=Nd.w_mem mw
   have wz:=Nd.w_mem mz
   have kv:=v.cnt_kids
   have kw:=w.cnt_kids
   have kz:=z.cnt_kids
   have uv:=v.w_eq
   have uw:=w.w_eq
   have uz:=z.w_eq
   have mb:=(List.getElem?_eq_some_iff.1 g1).1
   have lv:=Nd.cnts_len v.kids
   have loop:=zMa side path m v.kids w.kids z.kids (zBd k) (rowM K side) (by omega) (by omega) (zFJ g4) (zFJ g5) (fun s u u' u'' es h1 h2 h3 hes => by
    have n1:=List.mem_of_getElem? h1
    have n2:=List.mem_of_getElem? h2
    have n3:=List.mem_of_getElem? h3
    have d1:=Nd.cnts_mem n1
    have d2:=Nd.cnts_mem n2
    have d3:=Nd.cnts_mem n3
    have f1:=Nd.w_mem n1
    have f2:=Nd.w_mem n2
    have f3:=Nd.w_mem n3
    have k1:=u.cnt_kids
    have k2:=u'.cnt_kids
    have k3:=u''.cnt_kids
    have j1:=u.w_eq
    have j2:=u'.w_eq
    have j3:=u''.w_eq
    exact zQn side hs K k (path ++ [(m : Int),(s : Int)]) es u.kids u'.kids u''.kids (by omega) (by omega) (by simp only [List.length_append,List.length_cons,List.length_nil]; omega) (ob.sub mv n1).1 (ox.sub mw n2).1 (oy.sub mz n3).1 (by omega) (by omega) (by omega) (by omega) (by omega) (by omega) hes)
   obtain ⟨v1,v2,v3,v4⟩:=v
   obtain ⟨w1,w2,w3,w4⟩:=w
   obtain ⟨z1,z2,z3,z4⟩:=z
   simp only [Nd.kids] at loop
   unfold zBn
   have key : ds.length + (zBW (rowM K side) path m 0 v4 w4 z4).2.length ≤ 1000000 → zBf (zBd k) path (m : Int) v4 w4 z4 k side 0 ds [] = some (side,ds ++ (zBW (rowM K side) path m 0 v4 w4 z4).2,(zBW (rowM K side) path m 0 v4 w4 z4).1):=fun hd => by
    have:=loop k 0 ds [] (by simp only [Nd.kids] at lv kv; omega) (Nat.zero_le _) (Nat.le_refl _) (by simpa using hd)
    simpa using this
   by_cases t1 : w2 = v2
   ·rw [zRx (show (Nd.mk w1 w2 w3 w4).text = (Nd.mk v1 v2 v3 v4).text from t1)] at hds ⊢
    simp only [Nd.text,Nd.kind,Nd.cols,Nd.kids] at hds ⊢
    refine ⟨_,rfl,?_⟩
    rw [show (w2 == v2) = true from beq_iff_eq.2 t1]
    simp only [cond_true,Option.bind_some,key hds]
   ·rw [show (w2 == v2) = false from beq_eq_false_iff_ne.2 t1]
    simp only [cond_false]
    by_cases t2 : z2 = v2 ∨ z2 = w2
    ·rw [zRy (show ¬ (Nd.mk w1 w2 w3 w4).text = (Nd.mk v1 v2 v3 v4).text from t1) (show (Nd.mk z1 z2 z3 z4).text = (Nd.mk v1 v2 v3 v4).text ∨ (Nd.mk z1 z2 z3 z4).text = (Nd.mk w1 w2 w3 w4).text from t2)] at hds ⊢
     simp only [Nd.text,Nd.kind,Nd.cols,Nd.kids] at hds ⊢
     refine ⟨_,rfl,?_⟩
     have hb : (bif !(z2 == v2) then some (!(z2 == w2)) else some false : Option Bool) = some false:=by
      rcases t2 with t2 | t2
      ·rw [show (z2 == v2) = true from beq_iff_eq.2 t2]; rfl
      ·rw [show (z2 == w2) = true from beq_iff_eq.2 t2]; cases (z2 == v2) <;> rfl
     rw [hb]
     simp only [cond_false,Option.bind_some,key hds]
    ·rw [zRz (show ¬ (Nd.mk w1 w2 w3 w4).text = (Nd.mk v1 v2 v3 v4).text from t1) (show ¬ ((Nd.mk z1 z2 z3 z4).text = (Nd.mk v1 v2 v3 v4).text ∨ (Nd.mk z1 z2 z3 z4).text = (Nd.mk w1 w2 w3 w4).text) from t2)] at hds ⊢
     dsimp only at hds ⊢
     have hb : (bif !(z2 == v2) then some (!(z2 == w2)) else some false : Option Bool) = some true:=by
      rw [show (z2 == v2) = false from beq_eq_false_iff_ne.2 fun e => t2 (.inl e),show (z2 == w2) = false from beq_eq_false_iff_ne.2 fun e => t2 (.inr e)]; rfl
     rw [hb]
     have ec:=zJv k side ds path m [.mk v1 v2 v3 v4] [.mk w1 w2 w3 w4] [.mk z1 z2 z3 z4] hs (by simp only [List.length_cons,List.length_nil]; omega) (by omega) (by omega) (by simp only [List.length_cons,List.length_nil] at hds; omega)
     simp only [cond_true,Option.bind_some,ec]
     rcases hs with rfl | rfl | rfl
     ·exact ⟨.mk v1 v2 v3 v4,rfl,rfl⟩
     ·exact ⟨.mk w1 w2 w3 w4,rfl,rfl⟩
     ·exact ⟨.mk z1 z2 z3 z4,rfl,rfl⟩) n 0 0 0 0 cs [] (by omega) (Nat.zero_le _) (Nat.le_refl _) (Nat.zero_le _) (Nat.zero_le _) (zPN b x y 0) hcs (by rw [List.length_nil]; omega)
  have e1' : zBb (zBn n) n path b x y ((zCy b x).map zE5) ((zCy b y).map zE5) n side 0 0 0 0 cs [] = _:=e1
  rw [e1']
  simp only [Option.bind_some]
  rw [zBl ⟨by omega,by omega,by omega⟩,zBl ⟨by omega,by omega,by omega⟩,zBl ⟨by omega,by omega,by omega⟩]
  simp only [Int.toNat_natCast,List.take_length]
  have c1:=zGD b i
  have c2:=zGD x j
  have c3:=zGD y l
  have hl6:=congrArg List.length e6
  have hl5:=congrArg List.length e5
  simp only [List.length_append,List.length_nil] at hl5 hl6
  have ep:=zQm n side cs' path i (b.drop i) (x.drop j) (y.drop l) hs (by omega) (by omega) (by omega) (by omega) (by omega)
  rw [ep]
  simp only [Option.bind_some]
  rw [zBl (by omega),e5,e6,List.nil_append]
theorem zOO (n : Nat) (side : Int) (hs : side = 0 ∨ side = 1 ∨ side = 2) (b x y : Nd) (hn : 4 * (b.w + x.w + y.w) + 400 < n) (wb : b.w ≤ 16000000) (wx : x.w ≤ 16000000) (wy : y.w ≤ 16000000) (cb : b.cnt ≤ 110) (cx : x.cnt ≤ 110) (cy : y.cnt ≤ 110) (rb : b.rng) (rx : x.rng) (ry : y.rng) :
  zEe n b x y side = some ((zCx side b x y).1,(zCx side b x y).2.1,(zCx side b x y).2.2):=by
 have v1:=zFs n b (by omega) (by omega)
 have v2:=zFs n x (by omega) (by omega)
 have v3:=zFs n y (by omega) (by omega)
 have b1:=b.w_eq
 have b2:=x.w_eq
 have b3:=y.w_eq
 have c1:=b.cnt_kids
 have c2:=x.cnt_kids
 have c3:=y.cnt_kids
 unfold zCx
 by_cases h : zBG b = true ∧ zBG x = true ∧ zBG y = true
 ·rw [if_pos h]
  obtain ⟨o1,e1⟩:=zLY h.1 rb
  obtain ⟨o2,e2⟩:=zLY h.2.1 rx
  obtain ⟨o3,e3⟩:=zLY h.2.2 ry
  have hcs:=zSc side 111 [] b.kids x.kids y.kids
  have hws:=zMc side 111 [] b.kids x.kids y.kids
  have hr:=zQn side hs 111 n [] [] b.kids x.kids y.kids (by omega) (by omega) (by simp only [List.length_nil]; omega) o1 o2 o3 (by omega) (by omega) (by omega) (by omega) (by omega) (by omega) (by simp only [List.length_nil]; omega)
  have wr : (rowK (rowM 111 side [] b.kids x.kids y.kids).1).w = Nd.ws (rowM 111 side [] b.kids x.kids y.kids).1 + 1:=by simp [rowK,Nd.w]
  have vr:=zFs n (rowK (rowM 111 side [] b.kids x.kids y.kids).1) (by omega) (by omega)
  rw [h.1] at v1
  rw [h.2.1] at v2
  rw [h.2.2] at v3
  unfold rowK at vr
  unfold rowK
  obtain ⟨p1,p2,p3,p4⟩:=b
  obtain ⟨q1,q2,q3,q4⟩:=x
  obtain ⟨r1,r2,r3,r4⟩:=y
  simp only [Nd.kids] at hr vr ⊢
  unfold zEe
  simp only [v1,v2,v3,Option.bind_some,Bool.not_true,cond_false,hr,zEc,vr,List.nil_append]
  by_cases hv : zBG (Nd.mk 1 [] 0 (rowM 111 side [] p4 q4 r4).1) = true
  ·simp only [hv,if_true,Bool.not_true,cond_false]
  ·have hv' : zBG (Nd.mk 1 [] 0 (rowM 111 side [] p4 q4 r4).1) = false:=Bool.eq_false_iff.2 hv
   simp only [hv',Bool.false_eq_true,if_false,Bool.not_false,cond_true]
   rfl
 ·rw [if_neg h]
  obtain ⟨p1,p2,p3,p4⟩:=b
  obtain ⟨q1,q2,q3,q4⟩:=x
  obtain ⟨r1,r2,r3,r4⟩:=y
  unfold zEe
  simp only [v1,v2,v3,Option.bind_some]
  cases g1 : zBG (Nd.mk p1 p2 p3 p4) with
  | false => rfl
  | true =>
   cases g2 : zBG (Nd.mk q1 q2 q3 q4) with
   | false => rfl
   | true =>
    cases g3 : zBG (Nd.mk r1 r2 r3 r4) with
    | false => rfl
    | true => exact absurd ⟨g1,g2,g3⟩ h
theorem zQ3 (n : Nat) (b x y : Nd) (left : Bool) (hn : 4 * (b.w + x.w + y.w) + 400 < n) (wb : b.w ≤ 16000000) (wx : x.w ≤ 16000000) (wy : y.w ≤ 16000000) (cb : b.cnt ≤ 110) (cx : x.cnt ≤ 110) (cy : y.cnt ≤ 110) (rb : b.rng) (rx : x.rng) (ry : y.rng) :
  zC9 n b x y left = some ((zCx (bif left then 1 else 2) b x y).1,(zCx (bif left then 1 else 2) b x y).2.2):=by
 have h1:=zOO n (bif left then 1 else 2) (by cases left <;> simp) b x y hn wb wx wy cb cx cy rb rx ry
 obtain ⟨p1,p2,p3,p4⟩:=b
 obtain ⟨q1,q2,q3,q4⟩:=x
 obtain ⟨r1,r2,r3,r4⟩:=y
 unfold zC9
 dsimp only
 have e : (bif left then some 1 else some 2 : Option Int) = some (bif left then 1 else 2):=by cases left <;> rfl
 rw [e]
 simp only [Option.bind_some,h1]
 generalize zCx (bif left then 1 else 2) (Nd.mk p1 p2 p3 p4) (Nd.mk q1 q2 q3 q4) (Nd.mk r1 r2 r3 r4) = m
 obtain ⟨⟨m1,m2,m3,m4⟩,ms,me⟩:=m
 rfl
end Go.Proofs.YtgfneloodabafaaGreatDoor
namespace Go.Proofs.YtgfneloodabafaaGreatDoor
open Go.Abs
theorem zQF (k : Nat) : zF9 (k + 100) = some true:=by
 with_unfolding_all rfl
end Go.Proofs.YtgfneloodabafaaGreatDoor
namespace Go.Proofs.YtgfneloodabafaaGreatDoor
open Go.Abs
theorem zQ9 (n : Nat) (t : Nd) (h : 2 * t.cnt < n) (hc : t.cnt ≤ 67108864) : zBL n t t = some true:=by
 obtain ⟨r,h1,h2⟩:=(zMm n).1 t t h hc
 rw [h1,h2.2 rfl]
theorem zLS (side : Int) (b x y : Nd) : (zCx side b x y).1.cnt ≤ (zCx side b x y).1.w:=Nd.cnt_w _
theorem zQe (side : Int) (b x y : Nd) : (zCx side b x y).1.w ≤ b.w + x.w + y.w:=by
 have h:=zMc side 111 [] b.kids x.kids y.kids
 have e1:=b.w_eq
 have e2:=x.w_eq
 have e3:=y.w_eq
 unfold zCx
 split
 ·split
  ·simp only [rowK,Nd.w,List.length_nil]; omega
  ·simp only [zQA,Nd.w,Nd.ws,List.length_nil]; omega
 ·simp only [zQA,Nd.w,Nd.ws,List.length_nil]; omega
end Go.Proofs.YtgfneloodabafaaGreatDoor
namespace Go.Proofs.YtgfneloodabafaaGreatDoor
open Go.Abs
theorem zJU (a b c : Nd) (ha : a.w ≤ 1048576) (hb : b.w ≤ 1048576) (hc : c.w ≤ 1048576) (ra : a.rng) (rb : b.rng) (rc : c.rng) : zCU (60000000 + 100) a b c = some true:=by
 have hw:=zQF 60000000
 obtain ⟨y,h1,h2⟩:=zSK (60000000 + 100) a b c (by omega)
 have key : y = true → ∀ left,zCl (60000000 + 100) a b c left = some ((zCx (bif left then 1 else 2) a b c).1,(zCx (bif left then 1 else 2) a b c).2.2) ∧ zC9 (60000000 + 100) a b c left = some ((zCx (bif left then 1 else 2) a b c).1,(zCx (bif left then 1 else 2) a b c).2.2):=fun hy left => by
  obtain ⟨c1,c2,c3⟩:=h2 hy
  exact ⟨zQ8 (60000000 + 100) a b c left (by omega) (by omega) (by omega) (by omega) (by omega) (by omega) (by omega) ra rb rc,zQ3 (60000000 + 100) a b c left (by omega) (by omega) (by omega) (by omega) (by omega) (by omega) (by omega) ra rb rc⟩
 have q1:=zQe 1 a b c
 have q2:=zQe 2 a b c
 have q3:=zLS 1 a b c
 have q4:=zLS 2 a b c
 have e1:=zQ9 (60000000 + 100) (zCx 1 a b c).1 (by omega) (by omega)
 have e2:=zQ9 (60000000 + 100) (zCx 2 a b c).1 (by omega) (by omega)
 clear ra rb rc ha hb hc h2 q1 q2 q3 q4
 obtain ⟨a1,a2,a3,a4⟩:=a
 obtain ⟨b1,b2,b3,b4⟩:=b
 obtain ⟨c1,c2,c3,c4⟩:=c
 unfold zCU
 dsimp only
 rw [hw]
 simp only [Option.bind_some,Bool.not_true,cond_false,h1]
 cases y with
 | false => rfl
 | true =>
  obtain ⟨t1,t2⟩:=key rfl true
  obtain ⟨t3,t4⟩:=key rfl false
  simp only [cond_true] at t1 t2
  simp only [cond_false] at t3 t4
  rw [t1,t2,t3,t4]
  generalize zCx 1 (Nd.mk a1 a2 a3 a4) (Nd.mk b1 b2 b3 b4) (Nd.mk c1 c2 c3 c4) = m at *
  generalize zCx 2 (Nd.mk a1 a2 a3 a4) (Nd.mk b1 b2 b3 b4) (Nd.mk c1 c2 c3 c4) = m' at *
  obtain ⟨⟨m1,m2,m3,m4⟩,ms,me⟩:=m
  obtain ⟨⟨n1,n2,n3,n4⟩,ns,ne⟩:=m'
  dsimp only at e1 e2
  simp only [Bool.not_true,cond_false,Option.bind_some,beq_self_eq_true,cond_true,e1,e2]
end Go.Proofs.YtgfneloodabafaaGreatDoor
