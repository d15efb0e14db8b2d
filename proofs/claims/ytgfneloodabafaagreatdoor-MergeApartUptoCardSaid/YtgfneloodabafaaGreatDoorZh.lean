/-
  Joined out of: PNode, PAlign, PMrg1, PMrg2, PMrg3, PMrg4, PMrg5, PMrg6, PMrg7, PMrg8, PRow, PMrgD, PMrgA, PMrgB, PPut, PMrgC, PWith, PWt, PLeast, PLeast2, PEdit1, PEdit2, PEdit3, PEdit4, PMrgF.
-/
import Derived.Test.YtgfneloodabafaaGreatDoorZg
set_option linter.unusedVariables false
set_option linter.unusedSimpArgs false
set_option maxHeartbeats 2000000
set_option maxRecDepth 100000
namespace Go.Proofs.YtgfneloodabafaaGreatDoor
open Go.Abs
theorem zLV {F : Nd → Nd → Option Bool} {a b : List Nd} (hF : ∀ u ∈ a, ∀ v ∈ b, ∃ y, F u v = some y ∧ (y = true ↔ u = v)) (hl : a.length = b.length) (hb : a.length ≤ 1073741824) :
  ∀ (q i : Nat), a.length - i < q → i ≤ a.length → ∃ y, zAW F a b q (i : Int) = some (if y then .go () else .ret false) ∧ (y = true ↔ a.drop i = b.drop i)
 | 0, _, h, _ => by omega
 | q + 1, i, hq, hi => by
  unfold zAW
  by_cases h : i < a.length
  ·have h' : i < b.length := by omega
   rw [zA8 (Int.ofNat_lt.2 h), cond_true, zBi h, zBi h']
   obtain ⟨y, f1, f2⟩ := hF _ (List.getElem_mem h) _ (List.getElem_mem h')
   have d1 := List.drop_eq_getElem_cons h
   have d2 := List.drop_eq_getElem_cons h'
   rcases e : a[i] with ⟨x1, x2, x3, x4⟩
   rcases e' : b[i] with ⟨y1, y2, y3, y4⟩
   rw [e, e'] at f1 f2
   rw [e] at d1
   rw [e'] at d2
   simp only [Option.bind_some, f1]
   cases y with
   | false =>
    refine ⟨false, rfl, ⟨(fun h => by cases h), fun h => ?_⟩⟩
    rw [d1, d2] at h
    exact f2.2 (List.cons.inj h).1
   | true =>
    simp only [Bool.not_true, cond_false]
    rw [zAX (by omega)]
    obtain ⟨z, g1, g2⟩ := zLV hF hl hb q (i + 1) (by omega) (by omega)
    refine ⟨z, g1, ?_⟩
    rw [d1, d2, g2, f2.1 rfl]
    simp
  ·rw [zA7 (by omega), cond_false]
   obtain rfl : i = a.length := by omega
   refine ⟨true, rfl, ?_⟩
   rw [List.drop_length, hl, List.drop_length]
   simp
theorem zH6 : ∀ N : Nat, (∀ x y : Nd, 2 * x.cnt < N → x.cnt ≤ 67108864 → ∃ r, zCd N x y = some r ∧ (r = true ↔ x = y)) ∧
  (∀ a b : List Nd, 2 * Nd.cnts a + 1 < N → Nd.cnts a ≤ 67108864 → ∃ r, zA3 N a b = some r ∧ (r = true ↔ a = b))
 | 0 => ⟨fun _ _ h _ => by omega, fun _ _ h _ => by omega⟩
 | n + 1 => by
  obtain ⟨ih1, ih2⟩ := zH6 n
  refine ⟨fun x y h hx => ?_, fun a b h ha => ?_⟩
  ·obtain ⟨a, b, c, d⟩ := x
   obtain ⟨a', b', c', d'⟩ := y
   simp only [Nd.cnt] at h hx
   obtain ⟨r, h1, h2⟩ := ih2 d d' (by omega) (by omega)
   unfold zCd
   simp only [h1, Option.bind_some]
   cases e1 : a == a' with
   | false => exact ⟨false, rfl, ⟨(fun h => by cases h), fun h => by cases h; simp at e1⟩⟩
   | true =>
    cases e2 : b == b' with
    | false => exact ⟨false, rfl, ⟨(fun h => by cases h), fun h => by cases h; simp at e2⟩⟩
    | true =>
     cases e3 : c == c' with
     | false => exact ⟨false, rfl, ⟨(fun h => by cases h), fun h => by cases h; simp at e3⟩⟩
     | true =>
      refine ⟨r, rfl, h2.trans ⟨fun h => ?_, fun h => by cases h; rfl⟩⟩
      rw [eq_of_beq e1, eq_of_beq e2, eq_of_beq e3, h]
  ·unfold zA3
   have l1 := Nd.cnts_len a
   by_cases hl : a.length = b.length
   ·obtain ⟨y, g1, g2⟩ := zLV (F := zCd n) (a := a) (b := b) (fun u hu v _ => ih1 u v (by have := Nd.cnts_mem hu; omega) (by have := Nd.cnts_mem hu; omega)) hl (by omega) n 0 (by omega) (by omega)
    rw [show ((0 : Nat) : Int) = 0 from rfl] at g1
    rw [hl, bne_self_eq_false, cond_false, g1]
    refine ⟨y, by cases y <;> rfl, g2⟩
   ·have : ((a.length : Int) != (b.length : Int)) = true := by
     unfold bne
     rw [zDN (by omega)]; rfl
    rw [this]
    exact ⟨false, rfl, ⟨(fun h => by cases h), fun h => absurd (congrArg List.length h) hl⟩⟩
theorem zTe (a b : Nat) : Nat.max a b = if a ≤ b then b else a := rfl
theorem zMA : ∀ {ks : List Nd} {v : Nd}, v ∈ ks → v.dep ≤ Nd.deps ks
 | u :: ks, v, h => by
  simp only [Nd.deps, zTe]
  rcases List.mem_cons.1 h with rfl | h
  ·split <;> omega
  ·have := zMA h; split <;> omega
end Go.Proofs.YtgfneloodabafaaGreatDoor
namespace Go.Proofs.YtgfneloodabafaaGreatDoor
open Go.Abs
def zBE : Nat → Nat → Nat → List Nd → List Nd → List (Nat × Nat)
 | k + 1, i, j, x :: xs, y :: ys =>
  bif zA5 x y && (DL (x :: xs) (y :: ys) == DL xs ys + D x y) then (i, j) :: zBE k (i + 1) (j + 1) xs ys
  else bif (DL (x :: xs) (y :: ys) == DL xs (y :: ys) + x.cnt) && (!(DL (x :: xs) (y :: ys) == DL (x :: xs) ys + y.cnt) || Op.bytesLess (zER x) (zER y)) then zBE k (i + 1) j xs (y :: ys)
  else zBE k i (j + 1) (x :: xs) ys
 | _, _, _, _, _ => []
theorem zGw (a b : Nat) : ((a : Int) == (b : Int)) = (a == b) := by
 by_cases h : a = b
 ·subst h; simp
 ·rw [beq_eq_false_iff_ne.2 h, beq_eq_false_iff_ne.2 (by omega)]
theorem zSz (P : Nd → Nd → Nat) (b : List Nd) : ∀ (a : List Nd) (i : Nat), i ≤ a.length → at? (tabD P a b) (i : Int) = some (sufs (TD P (a.drop i)) b)
 | [], 0, _ => rfl
 | [], i + 1, h => by simp at h
 | x :: xs, 0, _ => rfl
 | x :: xs, i + 1, h => by
  have := zSz P b xs i (by simpa using h)
  unfold at? at this ⊢
  rw [if_pos (by omega)] at this ⊢
  simp only [Int.toNat_natCast] at this ⊢
  simpa [tabD] using this
theorem zKR (f : List Nd → Nat) : ∀ (b : List Nd) (j : Nat), j ≤ b.length → at? (sufs f b) (j : Int) = some (f (b.drop j) : Int)
 | [], 0, _ => rfl
 | [], j + 1, h => by simp at h
 | y :: ys, 0, _ => rfl
 | y :: ys, j + 1, h => by
  have := zKR f ys j (by simpa using h)
  unfold at? at this ⊢
  rw [if_pos (by omega)] at this ⊢
  simp only [Int.toNat_natCast] at this ⊢
  simpa [sufs] using this
theorem zOm {α β : Type} (f : α → β) {l : List α} {i : Nat} (h : i < l.length) : at? (l.map f) (i : Int) = some (f l[i]) := by
 rw [zBi (by simpa using h)]; simp
def zNW (p : Nat × Nat) : Int × Int := ((p.1 : Int), (p.2 : Int))
theorem zGQ (n : Nat) {a b : List Nd} (ha : Nd.cnts a ≤ 1000000) (hb : Nd.cnts b ≤ 1000000) (hwa : ∀ x ∈ a, 2 * x.w < n ∧ x.w ≤ 16777216 ∧ x.rng) (hwb : ∀ x ∈ b, 2 * x.w < n ∧ x.w ≤ 16777216 ∧ x.rng) :
  ∀ (k i j : Nat) (l : List (Int × Int)), (a.length - i) + (b.length - j) < k → i ≤ a.length → j ≤ b.length → l.length ≤ i →
   zBt n a b (tabD D a b) (a.map fun x => b.map (prI x)) (a.map cntI) (b.map cntI) k (i : Int) (j : Int) l = some (l ++ (zBE k i j (a.drop i) (b.drop j)).map zNW)
 | 0, _, _, _, h, _, _, _ => by omega
 | k + 1, i, j, l, hk, hi, hj, hl => by
  have la := Nd.cnts_len a
  have lb := Nd.cnts_len b
  unfold zBt
  by_cases hia : i < a.length
  ·rw [zA8 (Int.ofNat_lt.2 hia), cond_true]
   by_cases hjb : j < b.length
   ·rw [zA8 (Int.ofNat_lt.2 hjb), Option.bind_some, cond_true]
    have hda := List.drop_eq_getElem_cons hia
    have hdb := List.drop_eq_getElem_cons hjb
    have ca := Nd.cnts_drop hia
    have cb := Nd.cnts_drop hjb
    obtain ⟨x1, x2, x3⟩ := hwa _ (List.getElem_mem hia)
    obtain ⟨y1, y2, y3⟩ := hwb _ (List.getElem_mem hjb)
    have ca' : Nd.cnts (a.drop i) ≤ Nd.cnts a := by
     have := Nd.cnts_append (a.take i) (a.drop i); rw [List.take_append_drop] at this; omega
    have cb' : Nd.cnts (b.drop j) ≤ Nd.cnts b := by
     have := Nd.cnts_append (b.take j) (b.drop j); rw [List.take_append_drop] at this; omega
    have b1 := zPl (P := D) (a.drop i) (b.drop j)
    have b2 := zPl (P := D) (a.drop (i + 1)) (b.drop j)
    have b3 := zPl (P := D) (a.drop i) (b.drop (j + 1))
    have b4 := zPl (P := D) (a.drop (i + 1)) (b.drop (j + 1))
    have b5 := D_le a[i] b[j]
    have t1 := zSz D b a i (by omega)
    have t2 := zSz D b a (i + 1) (by omega)
    have s1 := zKR (TD D (a.drop i)) b j (by omega)
    have s2 := zKR (TD D (a.drop (i + 1))) b j (by omega)
    have s3 := zKR (TD D (a.drop i)) b (j + 1) (by omega)
    have s4 := zKR (TD D (a.drop (i + 1))) b (j + 1) (by omega)
    have p1 := zOm (fun x => b.map (prI x)) hia
    have p2 := zOm (prI a[i]) hjb
    have c1 := zOm cntI hia
    have c2 := zOm cntI hjb
    have d1 := zJa n a[i] x1 x2 x3
    have d2 := zJa n b[j] y1 y2 y3
    rw [zAX (by omega), zAX (by omega)]
    simp only [t1, t2, s1, s2, s3, s4, p1, p2, c1, c2, Option.bind_some, zBi hia, zBi hjb]
    have hx : (bif decide (0 ≤ prI a[i] b[j]) then some ((TD D (a.drop i) (b.drop j) : Int) == IntKind.i64.wrap ((TD D (a.drop (i + 1)) (b.drop (j + 1)) : Int) + prI a[i] b[j])) else some false : Option Bool) = some (zA5 a[i] b[j] && (DL (a[i] :: a.drop (i + 1)) (b[j] :: b.drop (j + 1)) == DL (a.drop (i + 1)) (b.drop (j + 1)) + D a[i] b[j])) := by
     unfold prI
     cases hal : zA5 a[i] b[j] with
     | false => rfl
     | true =>
      rw [cond_true, zA8 (by omega), cond_true, wrap64_in (by omega) (by omega), ← Int.natCast_add, zGw, ← hda, ← hdb]; rfl
    rw [hx, Option.bind_some, hda, hdb, zBE]
    cases zA5 a[i] b[j] && (DL (a[i] :: a.drop (i + 1)) (b[j] :: b.drop (j + 1)) == DL (a.drop (i + 1)) (b.drop (j + 1)) + D a[i] b[j]) with
    | true =>
     simp only [cond_true]
     rw [zB6 (by simp; omega), zGQ n ha hb hwa hwb k (i + 1) (j + 1) _ (by omega) (by omega) (by omega) (by simp; omega)]
     simp [zNW]
    | false =>
     simp only [cond_false]
     rw [← hda, ← hdb, cntI, wrap64_in (by omega) (by omega), ← Int.natCast_add, zGw, cntI, wrap64_in (by omega) (by omega), ← Int.natCast_add, zGw]
     have hz : ∀ X : Option Bool, X = some ((DL (a.drop i) (b.drop j) == DL (a.drop (i + 1)) (b.drop j) + a[i].cnt) && (!(DL (a.drop i) (b.drop j) == DL (a.drop i) (b.drop (j + 1)) + b[j].cnt) || Op.bytesLess (zER a[i]) (zER b[j]))) → ∀ K : Bool → Option (List (Int × Int)), X.bind K = K ((DL (a.drop i) (b.drop j) == DL (a.drop (i + 1)) (b.drop j) + a[i].cnt) && (!(DL (a.drop i) (b.drop j) == DL (a.drop i) (b.drop (j + 1)) + b[j].cnt) || Op.bytesLess (zER a[i]) (zER b[j]))) := fun X h K => by rw [h]; rfl
     refine (hz _ ?_ _).trans ?_
     ·have key : ∀ (p q r : Bool), (bif p then (bif !q then some true else some r) else some false : Option Bool) = some (p && (!q || r)) := by intro p q r; cases p <;> cases q <;> rfl
      rcases e : a[i] with ⟨e1, e2, e3, e4⟩
      rcases e' : b[j] with ⟨f1, f2, f3, f4⟩
      rw [e] at d1
      rw [e'] at d2
      simp only [d1, d2, Option.bind_some]
      exact key _ _ _
     cases ((DL (a.drop i) (b.drop j) == DL (a.drop (i + 1)) (b.drop j) + a[i].cnt) && (!(DL (a.drop i) (b.drop j) == DL (a.drop i) (b.drop (j + 1)) + b[j].cnt) || Op.bytesLess (zER a[i]) (zER b[j]))) with
     | true =>
      simp only [cond_true]
      rw [zGQ n ha hb hwa hwb k (i + 1) j _ (by omega) (by omega) (by omega) (by omega)]
     | false =>
      simp only [cond_false]
      rw [zGQ n ha hb hwa hwb k i (j + 1) _ (by omega) (by omega) (by omega) (by omega)]
   ·rw [zA7 (by omega), Option.bind_some, cond_false]
    obtain rfl : j = b.length := by omega
    rw [List.drop_length]
    cases a.drop i <;> simp [zBE]
  ·rw [zA7 (by omega), cond_false, Option.bind_some, cond_false]
   obtain rfl : i = a.length := by omega
   rw [List.drop_length]
   simp [zBE]
theorem zGP : ∀ (k i j : Nat) (a b : List Nd), (zBE k i j a b).length ≤ a.length
 | 0, _, _, _, _ => by simp [zBE]
 | k + 1, i, j, [], _ => by simp [zBE]
 | k + 1, i, j, _ :: _, [] => by simp [zBE]
 | k + 1, i, j, x :: xs, y :: ys => by
  have h1 := zGP k (i + 1) (j + 1) xs ys
  have h2 := zGP k (i + 1) j xs (y :: ys)
  have h3 := zGP k i (j + 1) (x :: xs) ys
  simp only [zBE]
  cases zA5 x y && (DL (x :: xs) (y :: ys) == DL xs ys + D x y) <;> cases (DL (x :: xs) (y :: ys) == DL xs (y :: ys) + x.cnt) && (!(DL (x :: xs) (y :: ys) == DL (x :: xs) ys + y.cnt) || Op.bytesLess (zER x) (zER y)) <;>
   simp only [cond_true, cond_false, List.length_cons] at * <;> omega
theorem zTU {t x : Nd} (h : x ∈ t.kids) : x.w < t.w := by
 have := Nd.w_mem h
 have e : t.w = t.text.length + Nd.ws t.kids + 1 := by cases t; rfl
 omega
theorem zJB {t x : Nd} (hr : t.rng) (h : x ∈ t.kids) : x.rng := by
 obtain ⟨a, b, c, ks⟩ := t
 exact Nd.rng_mem hr.2.2 h
theorem zSJ (n : Nat) (a b : Nd) (h : 4 * a.w + 4 * b.w + 100 < n) (ha : a.w ≤ 16000000) (hb : b.w ≤ 16000000) (ca : a.cnt ≤ 120) (cb : b.cnt ≤ 120) (ra : a.rng) (rb : b.rng) :
  zD9 n a b = some (bif zAR a && zAR b then ((zBE n 0 0 a.kids b.kids).map zNW, 0) else ([], 1)) := by
 have e1 := zMB n a b (by omega) (by omega) (by omega) (by omega)
 have c1 := Nd.cnt_w a
 have c2 := Nd.cnt_w b
 have k1 := a.cnt_kids
 have k2 := b.cnt_kids
 have l1 := Nd.cnts_len a.kids
 have l2 := Nd.cnts_len b.kids
 have e2 := (zRz n).2 a.kids b.kids (by omega) (by omega) (by omega)
 have e3 := zGQ n (a := a.kids) (b := b.kids) (by omega) (by omega) (fun x hx => by have := zTU hx; exact ⟨by omega, by omega, zJB ra hx⟩) (fun x hx => by have := zTU hx; exact ⟨by omega, by omega, zJB rb hx⟩) n 0 0 [] (by omega) (by omega) (by omega) (by simp)
 rw [show ((0 : Nat) : Int) = 0 from rfl, List.drop_zero, List.drop_zero, List.nil_append] at e3
 obtain ⟨a1, a2, a3, a4⟩ := a
 obtain ⟨b1, b2, b3, b4⟩ := b
 simp only [Nd.kids] at e2 e3
 unfold zD9 zFg
 simp only [e1, e2, e3, Option.bind_some]
 cases zAR (.mk a1 a2 a3 a4) && zAR (.mk b1 b2 b3 b4) <;> rfl
theorem zTO (x y : Nd) (xs ys : List Nd) : (zA5 x y = true ∧ DL (x :: xs) (y :: ys) = DL xs ys + D x y) ∨ DL (x :: xs) (y :: ys) = DL xs (y :: ys) + x.cnt ∨ DL (x :: xs) (y :: ys) = DL (x :: xs) ys + y.cnt := by
 have h : DL (x :: xs) (y :: ys) = if zA5 x y then min (min (x.cnt + DL xs (y :: ys)) (y.cnt + DL (x :: xs) ys)) (D x y + DL xs ys) else min (x.cnt + DL xs (y :: ys)) (y.cnt + DL (x :: xs) ys) := rfl
 split at h
 ·rename_i ha
  simp only [Nat.min_def] at h
  repeat' split at h
  ·right; left; omega
  ·left; exact ⟨ha, by omega⟩
  ·right; right; omega
  ·left; exact ⟨ha, by omega⟩
 ·simp only [Nat.min_def] at h
  split at h
  ·right; left; omega
  ·right; right; omega
end Go.Proofs.YtgfneloodabafaaGreatDoor
namespace Go.Proofs.YtgfneloodabafaaGreatDoor
open Go.Abs
theorem zFC : ∀ (k i j : Nat) (a b : List Nd), ∀ u ∈ zBE k i j a b, ∃ s t x y, u = (i + s, j + t) ∧ a[s]? = some x ∧ b[t]? = some y ∧ zA5 x y = true
 | 0, i, j, a, b, u, h => by unfold zBE at h; cases h
 | k + 1, i, j, [], b, u, h => by unfold zBE at h; cases h
 | k + 1, i, j, x :: xs, [], u, h => by unfold zBE at h; cases h
 | k + 1, i, j, x :: xs, y :: ys, u, h => by
  unfold zBE at h
  cases h1 : (zA5 x y && (DL (x :: xs) (y :: ys) == DL xs ys + D x y)) with
  | true =>
   rw [h1, cond_true] at h
   rcases List.mem_cons.1 h with rfl | h
   ·exact ⟨0, 0, x, y, rfl, rfl, rfl, (Bool.and_eq_true _ _ ▸ h1).1⟩
   ·obtain ⟨s, t, x', y', rfl, h2, h3, h4⟩ := zFC k (i + 1) (j + 1) xs ys u h
    exact ⟨s + 1, t + 1, x', y', by rw [Nat.add_assoc, Nat.add_comm 1, Nat.add_assoc j, Nat.add_comm 1], h2, h3, h4⟩
  | false =>
   rw [h1, cond_false] at h
   generalize ((DL (x :: xs) (y :: ys) == DL xs (y :: ys) + x.cnt) && (!(DL (x :: xs) (y :: ys) == DL (x :: xs) ys + y.cnt) || Op.bytesLess (zER x) (zER y))) = c at h
   cases c with
   | true =>
    obtain ⟨s, t, x', y', rfl, h2, h3, h4⟩ := zFC k (i + 1) j xs (y :: ys) u h
    exact ⟨s + 1, t, x', y', by rw [Nat.add_assoc, Nat.add_comm 1], h2, h3, h4⟩
   | false =>
    obtain ⟨s, t, x', y', rfl, h2, h3, h4⟩ := zFC k i (j + 1) (x :: xs) ys u h
    exact ⟨s, t + 1, x', y', by rw [Nat.add_assoc j, Nat.add_comm 1], h2, h3, h4⟩
theorem zCZ : ∀ (k i j : Nat) (a b : List Nd), (zBE k i j a b).Pairwise fun u v => u.1 < v.1 ∧ u.2 < v.2
 | 0, i, j, a, b => by unfold zBE; exact .nil
 | k + 1, i, j, [], b => by unfold zBE; exact .nil
 | k + 1, i, j, x :: xs, [] => by unfold zBE; exact .nil
 | k + 1, i, j, x :: xs, y :: ys => by
  unfold zBE
  cases h1 : (zA5 x y && (DL (x :: xs) (y :: ys) == DL xs ys + D x y)) with
  | true =>
   rw [cond_true]
   refine .cons (fun u hu => ?_) (zCZ k (i + 1) (j + 1) xs ys)
   obtain ⟨s, t, _, _, rfl, _⟩ := zFC k (i + 1) (j + 1) xs ys u hu
   dsimp only
   omega
  | false =>
   rw [cond_false]
   generalize ((DL (x :: xs) (y :: ys) == DL xs (y :: ys) + x.cnt) && (!(DL (x :: xs) (y :: ys) == DL (x :: xs) ys + y.cnt) || Op.bytesLess (zER x) (zER y))) = c
   cases c with
   | true => exact zCZ k (i + 1) j xs (y :: ys)
   | false => exact zCZ k i (j + 1) (x :: xs) ys
theorem zFY : ∀ (k i j : Nat) (a : List Nd), a.length < k → zBE k i j a a = (List.range a.length).map fun s => (i + s, j + s)
 | 0, i, j, a, h => by omega
 | k + 1, i, j, [], h => rfl
 | k + 1, i, j, x :: xs, h => by
  unfold zBE
  have e : (zA5 x x && (DL (x :: xs) (x :: xs) == DL xs xs + D x x)) = true := by
   rw [alike_refl, zIo, zIo, zLu _ x (Nat.le_refl _)]; rfl
  rw [e, cond_true, zFY k (i + 1) (j + 1) xs (by simpa using h), List.length_cons, List.range_succ_eq_map, List.map_cons, List.map_map]
  congr 1
  refine List.map_congr_left fun s _ => ?_
  simp only [Function.comp_apply, Prod.mk.injEq]
  omega
theorem zTN {x y : Nd} (h : zA5 x y = true) (xs ys : List Nd) : DL (x :: xs) (y :: ys) ≤ D x y + DL xs ys := zIK (.mat h (zKZ xs ys))
theorem zUz (x : Nd) (xs ys : List Nd) : DL (x :: xs) ys ≤ x.cnt + DL xs ys := zIK (.del (zKZ xs ys))
theorem zUA (y : Nd) (xs ys : List Nd) : DL xs (y :: ys) ≤ y.cnt + DL xs ys := zIK (.ins (zKZ xs ys))
end Go.Proofs.YtgfneloodabafaaGreatDoor
namespace Go.Proofs.YtgfneloodabafaaGreatDoor
open Go.Abs
abbrev Cf := List Int × Int × Int × List Nd × List Nd
def rowK (l : List Nd) : Nd := .mk 1 [] 0 l
def cutK (l : List Nd) (p q : Nat) : List Nd := (l.take q).drop p
def parK (l : List (Nat × Nat)) (i : Nat) : Option Nat := (l.find? fun u => u.1 == i).map (·.2)
def zCu (a b : List Nd) : List (Nat × Nat) := zBE (a.length + b.length + 1) 0 0 a b
def zOd (n : Nat) (px py : List (Nat × Nat)) : List (Nat × Nat × Nat) := (List.range n).filterMap fun i => (parK px i).bind fun p => (parK py i).map fun q => (i, p, q)
def zOL (side : Int) (b x y : List Nd) : List Nd := if side = 0 then b else if side = 1 then x else y
open Classical in
noncomputable def zEn (side : Int) (path : List Int) (i : Nat) (b x y : List Nd) : List Nd × List Cf :=
 if x = b then (y, []) else if y = b ∨ y = x then (x, []) else (zOL side b x y, [(path, (i : Int), (i : Int) + b.length, x, y)])
def appK (u v : List Nd × List Cf) : List Nd × List Cf := (u.1 ++ v.1, u.2 ++ v.2)
abbrev RowF := List Int → List Nd → List Nd → List Nd → List Nd × List Cf
noncomputable def zBH (F : RowF) (path : List Int) (i : Nat) : Nat → List Nd → List Nd → List Nd → List Nd × List Cf
 | s, b :: bs, x :: xs, y :: ys => let r := F (path ++ [(i : Int), (s : Int)]) b.kids x.kids y.kids; let t := zBH F path i (s + 1) bs xs ys; (rowK r.1 :: t.1, r.2 ++ t.2)
 | _, _, _, _ => ([], [])
noncomputable def zEm (F : RowF) (side : Int) (path : List Int) (i : Nat) (b x y : Nd) : List Nd × List Cf :=
 let go := fun t => let r := zBH F path i 0 b.kids x.kids y.kids; ([Nd.mk b.kind t b.cols r.1], r.2)
 if x.text = b.text then go y.text else if y.text = b.text ∨ y.text = x.text then go x.text else (zOL side [b] [x] [y], [(path, (i : Int), (i : Int) + 1, [x], [y])])
noncomputable def zEw (F : RowF) (side : Int) (path : List Int) (b x y : List Nd) : Nat → Nat → Nat → List (Nat × Nat × Nat) → List Nd × List Cf
 | i, j, k, [] => zEn side path i (b.drop i) (x.drop j) (y.drop k)
 | i, j, k, (n, p, q) :: r => appK (zEn side path i (cutK b i n) (cutK x j p) (cutK y k q)) (appK (zEm F side path n (b.getD n (rowK [])) (x.getD p (rowK [])) (y.getD q (rowK []))) (zEw F side path b x y (n + 1) (p + 1) (q + 1) r))
noncomputable def rowM : Nat → Int → RowF
 | 0, _, _, _, _, _ => ([], [])
 | N + 1, side, path, b, x, y => zEw (rowM N side) side path b x y 0 0 0 (zOd b.length (zCu b x) (zCu b y))
theorem zKD {side : Int} {path : List Int} {i : Nat} {b x : List Nd} : zEn side path i b x b = (x, []) := by
 unfold zEn
 by_cases h : x = b
 ·rw [if_pos h, h]
 ·rw [if_neg h, if_pos (.inl rfl)]
end Go.Proofs.YtgfneloodabafaaGreatDoor
namespace Go.Proofs.YtgfneloodabafaaGreatDoor
open Go.Abs
def parZ (l : List (Nat × Nat)) (i : Nat) : Int := match parK l i with | some q => (q : Int) | none => -1
theorem zOJ (base : List Nd) (hl : base.length ≤ 1073741824) : ∀ (k i : Nat), base.length - i < k → i ≤ base.length →
  zBm base k (i : Int) (List.replicate i (-1) ++ List.replicate (base.length - i) 0) = some (List.replicate base.length (-1))
 | 0, i, h, _ => by omega
 | k + 1, i, h, hi => by
  unfold zBm
  simp only [List.length_replicate, Int.toNat_natCast]
  by_cases hj : i < base.length
  ·have hlen : i < (List.replicate i (-1 : Int) ++ List.replicate (base.length - i) 0).length := by simp; omega
   have hset : (List.replicate i (-1 : Int) ++ List.replicate (base.length - i) 0).set i (-1) = List.replicate (i + 1) (-1) ++ List.replicate (base.length - (i + 1)) 0 := by
    rw [List.set_append_right _ _ (by simp)]
    rw [List.length_replicate, Nat.sub_self, show base.length - i = base.length - (i + 1) + 1 by omega, List.replicate_succ, List.set_cons_zero, List.replicate_succ', List.append_assoc]
    rfl
   rw [zA8 (Int.ofNat_lt.2 hj), cond_true, zBi hlen]
   simp only [Option.bind_some]
   rw [hset, zAX (by omega), zOJ base hl k (i + 1) (by omega) (by omega)]
  ·obtain rfl : i = base.length := by omega
   rw [zA7 (by omega), cond_false, Nat.sub_self]
   simp
def vecK (len : Nat) (l : List (Nat × Nat)) : List Int := (List.range len).map (parZ l)
theorem zR0 {l : List (Nat × Nat)} {u : Nat × Nat} (h : ∀ v ∈ l, v.1 < u.1) (i : Nat) : parZ (l ++ [u]) i = if u.1 = i then (u.2 : Int) else parZ l i := by
 unfold parZ parK
 rw [List.find?_append]
 by_cases hi : u.1 = i
 ·have : l.find? (fun v => v.1 == i) = none := List.find?_eq_none.2 fun v hv => by
   have := h v hv
   simp
   omega
  rw [this, if_pos hi]
  simp [hi]
 ·rw [if_neg hi]
  have : [u].find? (fun v => v.1 == i) = none := List.find?_eq_none.2 fun v hv => by
   rw [List.mem_singleton.1 hv]
   simpa using hi
  rw [this, Option.or_none]
theorem zTJ {len : Nat} {l : List (Nat × Nat)} {u : Nat × Nat} (h : ∀ v ∈ l, v.1 < u.1) : vecK len (l ++ [u]) = (vecK len l).set u.1 (u.2 : Int) := by
 apply List.ext_getElem
 ·simp [vecK]
 ·intro i h1 h2
  rw [List.getElem_set]
  simp only [vecK, List.getElem_map, List.getElem_range, zR0 h]
theorem zUu (len : Nat) : vecK len [] = List.replicate len (-1) := by
 apply List.ext_getElem
 ·simp [vecK]
 ·intro i h1 h2
  simp [vecK, parZ, parK]
theorem zOK {L : List (Nat × Nat)} {len : Nat} (hs : L.Pairwise fun u v => u.1 < v.1 ∧ u.2 < v.2) (hb : ∀ u ∈ L, u.1 < len) (hl : L.length ≤ 1073741824) : ∀ (k s : Nat), L.length - s < k → s ≤ L.length →
  zBn (L.map zNW) k (s : Int) (vecK len (L.take s)) = some (vecK len L)
 | 0, s, h, _ => by omega
 | k + 1, s, h, hi => by
  unfold zBn
  rw [List.length_map]
  by_cases hj : s < L.length
  ·have hm : at? (L.map zNW) (s : Int) = some (zNW L[s]) := zOm zNW hj
   have hlt := hb _ (List.getElem_mem hj)
   have hsn : ∀ v ∈ L.take s, v.1 < (L[s]).1 := fun v hv => by
    obtain ⟨i, hi', rfl⟩ := List.getElem_of_mem hv
    rw [List.length_take] at hi'
    rw [List.getElem_take]
    exact (List.pairwise_iff_getElem.1 hs i s (by omega) hj (by omega)).1
   have hset := zTJ (len := len) hsn
   rw [List.take_append_getElem hj] at hset
   have hlen : (L[s]).1 < (vecK len (L.take s)).length := by simpa [vecK] using hlt
   rw [zA8 (Int.ofNat_lt.2 hj), cond_true, hm]
   generalize L[s] = u at *
   simp only [Option.bind_some, zNW, zBi hlen, Int.toNat_natCast]
   rw [← hset, zAX (by omega), zOK hs hb hl k (s + 1) (by omega) (by omega)]
  ·rw [zA7 (by omega), cond_false, List.take_of_length_le (by omega)]
theorem zFX : ∀ (k k' i j : Nat) (a b : List Nd), a.length + b.length < k → a.length + b.length < k' → zBE k i j a b = zBE k' i j a b
 | 0, _, _, _, _, _, h, _ => by omega
 | _ + 1, 0, _, _, _, _, _, h => by omega
 | k + 1, k' + 1, i, j, [], b, _, _ => by unfold zBE; rfl
 | k + 1, k' + 1, i, j, x :: xs, [], _, _ => by unfold zBE; rfl
 | k + 1, k' + 1, i, j, x :: xs, y :: ys, h, h' => by
  simp only [List.length_cons] at h h'
  unfold zBE
  rw [zFX k k' (i + 1) (j + 1) xs ys (by omega) (by omega), zFX k k' (i + 1) j xs (y :: ys) (by simp only [List.length_cons]; omega) (by simp only [List.length_cons]; omega), zFX k k' i (j + 1) (x :: xs) ys (by simp only [List.length_cons]; omega) (by simp only [List.length_cons]; omega)]
theorem zTi {a b : List Nd} {u : Nat × Nat} (h : u ∈ zCu a b) : u.1 < a.length ∧ u.2 < b.length := by
 obtain ⟨s, t, x, y, rfl, h1, h2, _⟩ := zFC _ _ _ _ _ _ h
 have := (List.getElem?_eq_some_iff.1 h1).1
 have := (List.getElem?_eq_some_iff.1 h2).1
 dsimp only
 omega
theorem partners_eq (n : Nat) (b x : List Nd) (h : 4 * Nd.ws b + 4 * Nd.ws x + 200 < n) (hb : Nd.ws b ≤ 15999999) (hx : Nd.ws x ≤ 15999999) (cb : Nd.cnts b ≤ 110) (cx : Nd.cnts x ≤ 110) (rb : (rowK b).rng) (rx : (rowK x).rng) (vb : zAR (rowK b) = true) (vx : zAR (rowK x) = true) :
  zB8 n b x = some (vecK b.length (zCu b x)) := by
 have lb := Nd.ws_len b
 have lx := Nd.ws_len x
 have wb : (rowK b).w = Nd.ws b + 1 := by simp [rowK, Nd.w]
 have wx : (rowK x).w = Nd.ws x + 1 := by simp [rowK, Nd.w]
 have kb : (rowK b).cnt = Nd.cnts b + 1 := by simp [rowK, Nd.cnt]
 have kx : (rowK x).cnt = Nd.cnts x + 1 := by simp [rowK, Nd.cnt]
 have e := zSJ n (rowK b) (rowK x) (by omega) (by omega) (by omega) (by omega) (by omega) rb rx
 rw [vb, vx] at e
 have hf : zBE n 0 0 (rowK b).kids (rowK x).kids = zCu b x := zFX _ _ _ _ _ _ (by show b.length + x.length < n; omega) (by show b.length + x.length < _; omega)
 rw [hf] at e
 have hlen := zGP (b.length + x.length + 1) 0 0 b x
 have e1 := zOJ b (by omega) n 0 (by omega) (by omega)
 rw [show ((0 : Nat) : Int) = 0 from rfl, Nat.sub_zero, List.replicate_zero, List.nil_append] at e1
 have e2 := zOK (L := zCu b x) (len := b.length) (zCZ _ _ _ _ _) (fun u hu => (zTi hu).1) (by unfold zCu; omega) n 0 (by unfold zCu; omega) (Nat.zero_le _)
 rw [show ((0 : Nat) : Int) = 0 from rfl, List.take_zero, zUu] at e2
 unfold rowK at e
 unfold zB8
 simp only [e, Bool.and_self, cond_true, Option.bind_some]
 rw [zB6 ⟨by omega, by omega⟩, Int.toNat_natCast, e1]
 simp only [Option.bind_some, e2]
end Go.Proofs.YtgfneloodabafaaGreatDoor
namespace Go.Proofs.YtgfneloodabafaaGreatDoor
open Go.Abs
theorem zLI {l : List Nd} (hb : Nd.cnts l ≤ 16777216) : ∀ (k i : Nat), l.length - i < k → i ≤ l.length → zBZ l k (i : Int) (l.take i) = some l
 | 0, i, h, _ => by omega
 | k + 1, i, h, hi => by
  have hlen := Nd.cnts_len l
  unfold zBZ
  by_cases hj : i < l.length
  ·have hm := Nd.cnts_mem (List.getElem_mem hj)
   have hd : zHy l[i] = some l[i] := zB6 (by omega)
   have ht : l.take i ++ [l[i]] = l.take (i + 1) := by rw [List.take_append_getElem hj]
   rw [zA8 (Int.ofNat_lt.2 hj), cond_true, zBi hj]
   have ih := zLI hb k (i + 1) (by omega) (by omega)
   rw [← ht] at ih
   generalize l[i] = v at *
   obtain ⟨v1, v2, v3, v4⟩ := v
   simp only [Option.bind_some, hd]
   rw [zB6 (by simp only [List.length_take, List.length_cons, List.length_nil]; omega), zAX (show i < 9223372036854775807 by omega), ih]
  ·rw [zA7 (by omega), cond_false, List.take_of_length_le (by omega)]
theorem zH0 (n : Nat) (l : List Nd) (hn : Nd.cnts l < n) (hb : Nd.cnts l ≤ 16777216) : zBF n l = some l := by
 have hlen := Nd.cnts_len l
 have h := zLI hb n 0 (by omega) (by omega)
 rw [show ((0 : Nat) : Int) = 0 from rfl, List.take_zero] at h
 unfold zBF
 simp only [h, Option.bind_some]
theorem zSY (l : List Int) (h : l.length ≤ 4294967296) : zEV l = some l := by
 have : zDu l = some l := zB6 h
 unfold zEV
 simp only [this, Option.bind_some]
theorem same_eq (n : Nat) (a b : List Nd) (h : 2 * Nd.cnts a + 1 < n) (hc : Nd.cnts a ≤ 67108864) : ∃ r, zCT n a b = some r ∧ (r = true ↔ a = b) := by
 obtain ⟨r, h1, h2⟩ := (zH6 n).2 a b h hc
 exact ⟨r, by unfold zCT; simp only [h1, Option.bind_some], h2⟩
theorem zKb (n : Nat) (side : Int) (cs : List Cf) (path : List Int) (i : Nat) (b x y : List Nd) (hs : side = 0 ∨ side = 1 ∨ side = 2) (hn : Nd.cnts b + Nd.cnts x + Nd.cnts y < n) (hc : Nd.cnts b + Nd.cnts x + Nd.cnts y ≤ 16777216) (hp : path.length ≤ 1000000) (hi : i ≤ 1000000) (hl : cs.length ≤ 1000000) :
  zBh n (side, cs) path (i : Int) (b, x, y) = some (zOL side b x y, (side, cs ++ [(path, (i : Int), (i : Int) + b.length, x, y)])) := by
 have lb := Nd.cnts_len b
 have e0 := zH0 n b (by omega) (by omega)
 have e1 := zH0 n x (by omega) (by omega)
 have e2 := zH0 n y (by omega) (by omega)
 unfold zBh
 simp only [zSY path (by omega), e0, e1, e2, Option.bind_some]
 rw [zB6 (by simp only [List.length_cons, List.length_nil]; omega), wrap64_in (n := (i : Int) + (b.length : Int)) (by omega) (by omega)]
 rcases hs with rfl | rfl | rfl <;> rfl
theorem zR2 (n : Nat) (side : Int) (cs : List Cf) (path : List Int) (i : Nat) (b x y : List Nd) (hs : side = 0 ∨ side = 1 ∨ side = 2) (hn : 2 * Nd.cnts b + 2 * Nd.cnts x + 2 * Nd.cnts y + 10 < n) (hc : Nd.cnts b + Nd.cnts x + Nd.cnts y ≤ 16777216) (hp : path.length ≤ 1000000) (hi : i ≤ 1000000) (hl : cs.length ≤ 1000000) :
  zBl n (side, cs) path (i : Int) (b, x, y) = some ((zEn side path i b x y).1, (side, cs ++ (zEn side path i b x y).2)) := by
 have e1 := zH0 n x (by omega) (by omega)
 have e2 := zH0 n y (by omega) (by omega)
 have ec := zKb n side cs path i b x y hs (by omega) hc hp hi hl
 obtain ⟨r1, h1, g1⟩ := same_eq n x b (by omega) (by omega)
 obtain ⟨r2, h2, g2⟩ := same_eq n y b (by omega) (by omega)
 obtain ⟨r3, h3, g3⟩ := same_eq n y x (by omega) (by omega)
 unfold zBl zEn
 simp only [h1, h2, h3, e1, e2, Option.bind_some]
 cases r1 with
 | true => rw [if_pos (g1.1 rfl), List.append_nil]; rfl
 | false =>
  rw [if_neg fun h => by have := g1.2 h; cases this]
  simp only [cond_false]
  cases r2 with
  | true => rw [if_pos (.inl (g2.1 rfl)), List.append_nil]; rfl
  | false =>
   cases r3 with
   | true => rw [if_pos (.inr (g3.1 rfl)), List.append_nil]; rfl
   | false =>
    rw [if_neg fun h => h.elim (fun h => by have := g2.2 h; cases this) fun h => by have := g3.2 h; cases this]
    simp only [cond_false, Option.bind_some, ec]
end Go.Proofs.YtgfneloodabafaaGreatDoor
namespace Go.Proofs.YtgfneloodabafaaGreatDoor
open Go.Abs
theorem zKa (l : List Nd) (q : Nat) : Nd.cnts l = Nd.cnts (l.take q) + Nd.cnts (l.drop q) := by
 have := Nd.cnts_append (l.take q) (l.drop q)
 rwa [List.take_append_drop] at this
theorem zSX {l : List Nd} {p q : Nat} (h : p ≤ q) : l.drop p = cutK l p q ++ l.drop q := by
 unfold cutK
 rw [List.drop_take]
 have : l.drop q = (l.drop p).drop (q - p) := by rw [List.drop_drop]; congr 1; omega
 rw [this, List.take_append_drop]
theorem zFf {l : List Nd} {q : Nat} {v : Nd} (h : l[q]? = some v) : l.drop q = v :: l.drop (q + 1) := by
 obtain ⟨h1, rfl⟩ := List.getElem?_eq_some_iff.1 h
 exact List.drop_eq_getElem_cons h1
theorem zKd {l : List Nd} {p q : Nat} {v : Nd} (h : p ≤ q) (g : l[q]? = some v) : l.drop p = cutK l p q ++ v :: l.drop (q + 1) := by rw [zSX h, zFf g]
theorem zMy (l : List Nd) (p q : Nat) : Nd.cnts (cutK l p q) ≤ Nd.cnts l := by
 have h1 := zKa l q
 have h2 := zKa (l.take q) p
 unfold cutK
 omega
theorem zDt {l : List Nd} {q : Nat} {v d : Nd} (h : l[q]? = some v) : l.getD q d = v := by
 rw [List.getD_eq_getElem?_getD, h]; rfl
theorem zFk {l : List (Nat × Nat)} {i p : Nat} (h : parK l i = some p) : (i, p) ∈ l := by
 unfold parK at h
 cases e : l.find? (fun u => u.1 == i) with
 | none => rw [e] at h; cases h
 | some u =>
  rw [e] at h
  obtain rfl := Option.some.inj h
  have h1 := List.find?_some e
  have h2 := List.mem_of_find?_eq_some e
  have h3 : u.1 = i := eq_of_beq h1
  rw [← h3]; exact h2
theorem zPL : ∀ {l : List (Nat × Nat)}, (l.Pairwise fun u v => u.1 < v.1 ∧ u.2 < v.2) → ∀ {u v : Nat × Nat}, u ∈ l → v ∈ l → u.1 < v.1 → u.2 < v.2
 | [], _, _, _, h, _, _ => by cases h
 | w :: l, h, u, v, hu, hv, huv => by
  obtain ⟨h1, h2⟩ := List.pairwise_cons.1 h
  rcases List.mem_cons.1 hu with eu | hu'
  ·rcases List.mem_cons.1 hv with ev | hv'
   ·subst eu; subst ev; omega
   ·subst eu; exact (h1 v hv').2
  ·rcases List.mem_cons.1 hv with ev | hv'
   ·subst ev; have := h1 u hu'; omega
   ·exact zPL h2 hu' hv' huv
def KO (b x y : List Nd) (i j k : Nat) (T : List (Nat × Nat × Nat)) : Prop :=
 (T.Pairwise fun u v => u.1 < v.1 ∧ u.2.1 < v.2.1 ∧ u.2.2 < v.2.2) ∧
 ∀ u ∈ T, i ≤ u.1 ∧ j ≤ u.2.1 ∧ k ≤ u.2.2 ∧ ∃ v w z, b[u.1]? = some v ∧ x[u.2.1]? = some w ∧ y[u.2.2]? = some z ∧ zA5 v w = true ∧ zA5 v z = true
theorem KO.tail {b x y : List Nd} {i j k n p q : Nat} {T : List (Nat × Nat × Nat)} (h : KO b x y i j k ((n, p, q) :: T)) : KO b x y (n + 1) (p + 1) (q + 1) T := by
 obtain ⟨h1, h2⟩ := List.pairwise_cons.1 h.1
 refine ⟨h2, fun u hu => ?_⟩
 obtain ⟨_, _, _, h4⟩ := h.2 u (List.mem_cons_of_mem _ hu)
 have := h1 u hu
 dsimp only at this
 exact ⟨by omega, by omega, by omega, h4⟩
theorem KO.head {b x y : List Nd} {i j k n p q : Nat} {T : List (Nat × Nat × Nat)} (h : KO b x y i j k ((n, p, q) :: T)) :
  i ≤ n ∧ j ≤ p ∧ k ≤ q ∧ ∃ v w z, b[n]? = some v ∧ x[p]? = some w ∧ y[q]? = some z ∧ zA5 v w = true ∧ zA5 v z = true := h.2 _ List.mem_cons_self
def gK (px py : List (Nat × Nat)) (i : Nat) : Option (Nat × Nat × Nat) := (parK px i).bind fun p => (parK py i).map fun q => (i, p, q)
def zGH (len : Nat) (px py : List (Nat × Nat)) (n : Nat) : List (Nat × Nat × Nat) := (List.range' n (len - n)).filterMap (gK px py)
theorem zEx (n : Nat) (px py : List (Nat × Nat)) : zOd n px py = zGH n px py 0 := by
 unfold zOd zGH
 rw [List.range_eq_range']
 rfl
theorem zKi {px py : List (Nat × Nat)} {i : Nat} {u : Nat × Nat × Nat} (h : gK px py i = some u) : u.1 = i ∧ parK px i = some u.2.1 ∧ parK py i = some u.2.2 := by
 unfold gK at h
 cases e1 : parK px i with
 | none => rw [e1] at h; cases h
 | some p =>
  cases e2 : parK py i with
  | none => rw [e1, e2] at h; cases h
  | some q =>
   rw [e1, e2] at h
   obtain rfl := Option.some.inj h
   exact ⟨rfl, rfl, rfl⟩
theorem zOH {a b : List Nd} {p q : Nat} (h : (p, q) ∈ zCu a b) : ∃ x y, a[p]? = some x ∧ b[q]? = some y ∧ zA5 x y = true := by
 obtain ⟨s, t, x, y, e, h1, h2, h3⟩ := zFC _ _ _ _ _ _ h
 have e1 := (Prod.mk.inj e).1
 have e2 := (Prod.mk.inj e).2
 rw [Nat.zero_add] at e1 e2
 subst e1 e2
 exact ⟨x, y, h1, h2, h3⟩
theorem zSh (b x y : List Nd) (n : Nat) : KO b x y 0 0 0 (zGH b.length (zCu b x) (zCu b y) n) := by
 constructor
 ·refine List.pairwise_filterMap.2 ((List.pairwise_lt_range' (s := n) (n := b.length - n)).imp fun {i i'} hii u hu v hv => ?_)
  obtain ⟨rfl, h1, h2⟩ := zKi hu
  obtain ⟨rfl, h3, h4⟩ := zKi hv
  have a1 := zPL (l := zCu b x) (zCZ _ _ _ _ _) (zFk h1) (zFk h3) hii
  have a2 := zPL (l := zCu b y) (zCZ _ _ _ _ _) (zFk h2) (zFk h4) hii
  exact ⟨hii, a1, a2⟩
 ·intro u hu
  obtain ⟨i, _, hi⟩ := List.mem_filterMap.1 hu
  obtain ⟨rfl, h1, h2⟩ := zKi hi
  obtain ⟨v, w, g1, g2, g3⟩ := zOH (zFk h1)
  obtain ⟨v', z, g4, g5, g6⟩ := zOH (zFk h2)
  rw [g1] at g4
  obtain rfl := Option.some.inj g4
  exact ⟨Nat.zero_le _, Nat.zero_le _, Nat.zero_le _, v, w, z, g1, g2, g5, g3, g6⟩
theorem zPx (b x y : List Nd) : KO b x y 0 0 0 (zOd b.length (zCu b x) (zCu b y)) := by rw [zEx]; exact zSh b x y 0
theorem Nd.w_eq (v : Nd) : v.w = v.text.length + Nd.ws v.kids + 1 := by cases v; rfl
theorem zR6 (side : Int) (b x y : List Nd) : Nd.ws (zOL side b x y) ≤ Nd.ws b + Nd.ws x + Nd.ws y := by
 unfold zOL
 repeat' split
 all_goals omega
theorem zR4 (side : Int) (path : List Int) (i : Nat) (b x y : List Nd) : Nd.ws (zEn side path i b x y).1 ≤ Nd.ws b + Nd.ws x + Nd.ws y := by
 unfold zEn
 repeat' split
 ·dsimp only; omega
 ·dsimp only; omega
 ·exact zR6 ..
theorem zQv {F : RowF} (hF : ∀ p b x y, Nd.ws (F p b x y).1 ≤ Nd.ws b + Nd.ws x + Nd.ws y) (path : List Int) (i : Nat) : ∀ (s : Nat) (b x y : List Nd), Nd.ws (zBH F path i s b x y).1 ≤ Nd.ws b + Nd.ws x + Nd.ws y
 | s, b :: bs, x :: xs, y :: ys => by
  have h1 := hF (path ++ [(i : Int), (s : Int)]) b.kids x.kids y.kids
  have h2 := zQv hF path i (s + 1) bs xs ys
  have e1 := b.w_eq
  have e2 := x.w_eq
  have e3 := y.w_eq
  simp only [zBH, Nd.ws, rowK, Nd.w, List.length_nil]
  omega
 | s, [], x, y => by simp only [zBH, Nd.ws]; omega
 | s, b :: bs, [], y => by simp only [zBH, Nd.ws]; omega
 | s, b :: bs, x :: xs, [] => by simp only [zBH, Nd.ws]; omega
theorem zUf {F : RowF} (hF : ∀ p b x y, Nd.ws (F p b x y).1 ≤ Nd.ws b + Nd.ws x + Nd.ws y) (side : Int) (path : List Int) (i : Nat) (b x y : Nd) : Nd.ws (zEm F side path i b x y).1 ≤ b.w + x.w + y.w + 3 := by
 have h := zQv hF path i 0 b.kids x.kids y.kids
 have e1 := b.w_eq
 have e2 := x.w_eq
 have e3 := y.w_eq
 have h2 := zR6 side [b] [x] [y]
 unfold zEm
 split
 ·simp only [Nd.ws, Nd.w]; omega
 ·split
  ·simp only [Nd.ws, Nd.w]; omega
  ·simp only [Nd.ws] at h2 ⊢; omega
theorem zSH {F : RowF} (hF : ∀ p b x y, Nd.ws (F p b x y).1 ≤ Nd.ws b + Nd.ws x + Nd.ws y) (side : Int) (path : List Int) (b x y : List Nd) : ∀ (T : List (Nat × Nat × Nat)) (i j k : Nat), KO b x y i j k T → Nd.ws (zEw F side path b x y i j k T).1 ≤ Nd.ws (b.drop i) + Nd.ws (x.drop j) + Nd.ws (y.drop k)
 | [], i, j, k, h => by unfold zEw; exact zR4 ..
 | (n, p, q) :: T, i, j, k, h => by
  obtain ⟨h1, h2, h3, v, w, z, g1, g2, g3, g4, g5⟩ := h.head
  have ih := zSH hF side path b x y T (n + 1) (p + 1) (q + 1) h.tail
  have hp := zR4 side path i (cutK b i n) (cutK x j p) (cutK y k q)
  have hi := zUf hF side path n v w z
  rw [zKd h1 g1, zKd h2 g2, zKd h3 g3]
  unfold zEw appK
  rw [zDt g1, zDt g2, zDt g3]
  simp only [Nd.ws_append, Nd.ws]
  omega
theorem zSk (side : Int) : ∀ (N : Nat) (p : List Int) (b x y : List Nd), Nd.ws (rowM N side p b x y).1 ≤ Nd.ws b + Nd.ws x + Nd.ws y
 | 0, p, b, x, y => by unfold rowM; exact Nat.zero_le _
 | N + 1, p, b, x, y => by
  have := zSH (zSk side N) side p b x y _ 0 0 0 (zPx b x y)
  unfold rowM
  exact this
theorem zR1 (side : Int) (path : List Int) (i : Nat) (b x y : List Nd) : (zEn side path i b x y).2.length ≤ 1 := by
 unfold zEn
 repeat' split
 all_goals simp
theorem zQs {F : RowF} (hF : ∀ p b x y, (F p b x y).2.length ≤ 2 * Nd.cnts b + 1) (path : List Int) (i : Nat) : ∀ (s : Nat) (b x y : List Nd), (zBH F path i s b x y).2.length ≤ 2 * Nd.cnts b
 | s, b :: bs, x :: xs, y :: ys => by
  have h1 := hF (path ++ [(i : Int), (s : Int)]) b.kids x.kids y.kids
  have h2 := zQs hF path i (s + 1) bs xs ys
  have e1 := b.cnt_kids
  simp only [zBH, Nd.cnts, List.length_append]
  omega
 | s, [], x, y => by simp only [zBH, List.length_nil]; omega
 | s, b :: bs, [], y => by simp only [zBH, List.length_nil]; omega
 | s, b :: bs, x :: xs, [] => by simp only [zBH, List.length_nil]; omega
theorem zUc {F : RowF} (hF : ∀ p b x y, (F p b x y).2.length ≤ 2 * Nd.cnts b + 1) (side : Int) (path : List Int) (i : Nat) (b x y : Nd) : (zEm F side path i b x y).2.length + 1 ≤ 2 * b.cnt := by
 have h := zQs hF path i 0 b.kids x.kids y.kids
 have e1 := b.cnt_kids
 unfold zEm
 repeat' split
 ·dsimp only; omega
 ·dsimp only; omega
 ·simp only [List.length_cons, List.length_nil]; omega
theorem zSE {F : RowF} (hF : ∀ p b x y, (F p b x y).2.length ≤ 2 * Nd.cnts b + 1) (side : Int) (path : List Int) (b x y : List Nd) : ∀ (T : List (Nat × Nat × Nat)) (i j k : Nat), KO b x y i j k T → (zEw F side path b x y i j k T).2.length ≤ 2 * Nd.cnts (b.drop i) + 1
 | [], i, j, k, h => by have := zR1 side path i (b.drop i) (x.drop j) (y.drop k); unfold zEw; omega
 | (n, p, q) :: T, i, j, k, h => by
  obtain ⟨h1, h2, h3, v, w, z, g1, g2, g3, g4, g5⟩ := h.head
  have ih := zSE hF side path b x y T (n + 1) (p + 1) (q + 1) h.tail
  have hp := zR1 side path i (cutK b i n) (cutK x j p) (cutK y k q)
  have hi := zUc hF side path n v w z
  rw [zKd h1 g1]
  unfold zEw appK
  rw [zDt g1, zDt g2, zDt g3]
  simp only [Nd.cnts_append, Nd.cnts, List.length_append]
  omega
theorem zTW (side : Int) : ∀ (N : Nat) (p : List Int) (b x y : List Nd), (rowM N side p b x y).2.length ≤ 2 * Nd.cnts b + 1
 | 0, p, b, x, y => by unfold rowM; exact Nat.zero_le _
 | N + 1, p, b, x, y => by
  have := zSE (zTW side N) side p b x y _ 0 0 0 (zPx b x y)
  unfold rowM
  exact this
def okR (b : List Nd) : Prop := zAR (rowK b) = true ∧ (rowK b).rng
theorem okR.sub {b : List Nd} {v u : Nd} (h : okR b) (hv : v ∈ b) (hu : u ∈ v.kids) : okR u.kids ∧ u = rowK u.kids := by
 obtain ⟨h1, h2⟩ := h
 unfold zAR at h1
 simp only [Bool.and_eq_true, decide_eq_true_eq] at h1
 obtain ⟨k1, f1, c1, d1⟩ := h1
 have fb : zDS 1 b = true := (zME f1 rfl).2
 obtain ⟨f2, k2⟩ := zGr fb hv
 have gv : zDS v.kind v.kids = true := by cases v; simp only [zET, Bool.and_eq_true] at f2; exact f2.2
 obtain ⟨f3, k3⟩ := zGr gv hu
 have kv : v.kind ≠ 1 := fun e => by rw [e] at k2; cases k2
 rw [zDN kv] at k3
 have ku : u.kind = 1 := by cases e : u.kind == 1 with | true => exact eq_of_beq e | false => rw [e] at k3; cases k3
 obtain ⟨r1, r2⟩ := zME f3 ku
 have c2 := Nd.cnts_mem hv
 have c3 := Nd.cnts_mem hu
 have e2 := v.cnt_kids
 have cb : (rowK b).cnt = Nd.cnts b + 1 := by simp [rowK, Nd.cnt]
 have db : (rowK b).dep = Nd.deps b + 1 := rfl
 have d2 := zMA hv
 have d3 := zMA hu
 have ev : v.dep = Nd.deps v.kids + 1 := by cases v; rfl
 have eu : rowK u.kids = u := r1.symm
 refine ⟨⟨?_, ?_⟩, r1⟩
 ·rw [eu]
  unfold zAR
  simp only [Bool.and_eq_true, decide_eq_true_eq]
  exact ⟨by rw [ku]; rfl, f3, by omega, by omega⟩
 ·rw [eu]
  have : v.rng := zJB h2 (t := rowK b) hv
  exact zJB this hu
theorem zKt {t : Nd} (h : zAR t = true) (hr : t.rng) : okR t.kids ∧ t = rowK t.kids := by
 have e := (zSD h).1
 have e' : rowK t.kids = t := e.symm
 exact ⟨⟨by rw [e']; exact h, by rw [e']; exact hr⟩, e⟩
end Go.Proofs.YtgfneloodabafaaGreatDoor
namespace Go.Proofs.YtgfneloodabafaaGreatDoor
open Go.Abs
theorem zS2 {n : Int} (h : 0 ≤ n ∧ n ≤ 1073741824) : zCM n = some [] := zB6 h
theorem zRv (k : Nat) (p : List Int) (i s : Int) (hp : p.length ≤ 1000000) : zAS [p, [i, s]] (k + 3) 0 0 = some ((p.length : Int) + 2) := by
 have w1 : IntKind.i64.wrap ((0 : Int) + (p.length : Int)) = (p.length : Int) := by rw [wrap64_in (by omega) (by omega)]; omega
 have w2 : IntKind.i64.wrap ((p.length : Int) + 2) = (p.length : Int) + 2 := wrap64_in (by omega) (by omega)
 have c0 : at? [p, [i, s]] 0 = some p := rfl
 have c1 : at? [p, [i, s]] 1 = some [i, s] := rfl
 have v1 : IntKind.i64.wrap ((0 : Int) + 1) = 1 := by decide
 have v2 : IntKind.i64.wrap ((1 : Int) + 1) = 2 := by decide
 have hl : (([p, [i, s]] : List (List Int)).length : Int) = 2 := rfl
 have h2 : (([i, s] : List Int).length : Int) = 2 := rfl
 unfold zAS
 rw [hl, zA8 (by decide), cond_true, c0]
 simp only [Option.bind_some]
 rw [w1, zA7 (by omega), cond_false, v1]
 unfold zAS
 rw [hl, zA8 (by decide), cond_true, c1]
 simp only [Option.bind_some]
 rw [h2, w2, zA7 (by omega), cond_false, v2]
 unfold zAS
 rw [hl, zA7 (by decide), cond_false]
theorem zRw (k : Nat) (p : List Int) (i s : Int) (hp : p.length ≤ 1000000) : zAT [p, [i, s]] (k + 3) 0 [] = some (p ++ [i, s]) := by
 have c0 : at? [p, [i, s]] 0 = some p := rfl
 have c1 : at? [p, [i, s]] 1 = some [i, s] := rfl
 have v1 : IntKind.i64.wrap ((0 : Int) + 1) = 1 := by decide
 have v2 : IntKind.i64.wrap ((1 : Int) + 1) = 2 := by decide
 have hl : (([p, [i, s]] : List (List Int)).length : Int) = 2 := rfl
 have q1 : ([] : List Int).length + p.length ≤ 4294967296 := by rw [List.length_nil]; omega
 have q2 : p.length + [i, s].length ≤ 4294967296 := by rw [List.length_cons, List.length_cons, List.length_nil]; omega
 unfold zAT
 rw [hl, zA8 (by decide), cond_true, c0]
 simp only [Option.bind_some]
 rw [zB6 q1, v1]
 unfold zAT
 rw [hl, zA8 (by decide), cond_true, c1]
 simp only [Option.bind_some, List.nil_append]
 rw [zB6 q2, v2]
 unfold zAT
 rw [hl, zA7 (by decide), cond_false]
theorem zQK (n : Nat) (p : List Int) (i s : Int) (hn : 5 < n) (hp : p.length ≤ 1000000) : zBM n [p, [i, s]] = some (p ++ [i, s]) := by
 obtain ⟨k, rfl⟩ : ∃ k, n = k + 3 := ⟨n - 3, by omega⟩
 have e1 := zRv k p i s hp
 have e2 : zCM ((p.length : Int) + 2) = some [] := zS2 ⟨by omega, by omega⟩
 have e3 := zRw k p i s hp
 unfold zBM
 dsimp only
 rw [e1, Option.bind_some, e2, Option.bind_some, e3, Option.bind_some]
theorem zRD {F : RowF} {side : Int} {path : List Int} {i : Nat} {b x y : Nd} (h : x.text = b.text) : zEm F side path i b x y = ([.mk b.kind y.text b.cols (zBH F path i 0 b.kids x.kids y.kids).1], (zBH F path i 0 b.kids x.kids y.kids).2) := by
 unfold zEm; rw [if_pos h]
theorem zRE {F : RowF} {side : Int} {path : List Int} {i : Nat} {b x y : Nd} (h : ¬ x.text = b.text) (h2 : y.text = b.text ∨ y.text = x.text) : zEm F side path i b x y = ([.mk b.kind x.text b.cols (zBH F path i 0 b.kids x.kids y.kids).1], (zBH F path i 0 b.kids x.kids y.kids).2) := by
 unfold zEm; rw [if_neg h, if_pos h2]
theorem zUb {F : RowF} {side : Int} {path : List Int} {i : Nat} {b x y : Nd} (h : ¬ x.text = b.text) (h2 : ¬ (y.text = b.text ∨ y.text = x.text)) : zEm F side path i b x y = (zOL side [b] [x] [y], [(path, (i : Int), (i : Int) + 1, [x], [y])]) := by
 unfold zEm; rw [if_neg h, if_neg h2]
theorem zQG {l : List Nd} {n : Nat} {v : Nd} (h : l[n]? = some v) : at? l (n : Int) = some v := by
 obtain ⟨h1, rfl⟩ := List.getElem?_eq_some_iff.1 h
 exact zBi h1
theorem zTZ {len : Nat} {l : List (Nat × Nat)} {n : Nat} (h : n < len) : at? (vecK len l) (n : Int) = some (parZ l n) := by
 have hl : n < (vecK len l).length := by simpa [vecK] using h
 rw [zBi hl]; simp [vecK]
theorem zOT {len : Nat} {px py : List (Nat × Nat)} {n : Nat} (h : n < len) : zGH len px py n = (gK px py n).toList ++ zGH len px py (n + 1) := by
 unfold zGH
 rw [show len - n = len - (n + 1) + 1 by omega, List.range'_succ, List.filterMap_cons]
 cases gK px py n <;> rfl
abbrev zUY := (Int × List Cf) → List Int → Int → Nd → Nd → Nd → Option (List Nd × (Int × List Cf))
abbrev zUZ := (Int × List Cf) → List Int → List Nd → List Nd → List Nd → Option (List Nd × (Int × List Cf))
theorem zLS (N : Nat) (side : Int) (path : List Int) (i : Nat) (bk xk yk : List Nd) (F : zUZ) (FR : RowF) (hN : 5 < N) (hp : path.length ≤ 1000000) (hb : bk.length ≤ 1000000) (hx : bk.length = xk.length) (hy : bk.length = yk.length)
  (hF : ∀ (s : Nat) (u v w : Nd) (cs : List Cf), bk[s]? = some u → xk[s]? = some v → yk[s]? = some w → cs.length + (FR (path ++ [(i : Int), (s : Int)]) u.kids v.kids w.kids).2.length ≤ 1000000 →
   F (side, cs) (path ++ [(i : Int), (s : Int)]) u.kids v.kids w.kids = some ((FR (path ++ [(i : Int), (s : Int)]) u.kids v.kids w.kids).1, (side, cs ++ (FR (path ++ [(i : Int), (s : Int)]) u.kids v.kids w.kids).2))) :
  ∀ (k s : Nat) (cs : List Cf) (acc : List Nd), bk.length - s < k → s ≤ bk.length → acc.length ≤ s → cs.length + (zBH FR path i s (bk.drop s) (xk.drop s) (yk.drop s)).2.length ≤ 1000000 →
   zA0 F N path (i : Int) bk xk yk k side (s : Int) cs acc = some (side, cs ++ (zBH FR path i s (bk.drop s) (xk.drop s) (yk.drop s)).2, acc ++ (zBH FR path i s (bk.drop s) (xk.drop s) (yk.drop s)).1)
 | 0, s, cs, acc, h, _, _, _ => by omega
 | k + 1, s, cs, acc, h, hs, ha, hc => by
  unfold zA0
  by_cases hj : s < bk.length
  ·have g1 : bk[s]? = some bk[s] := List.getElem?_eq_getElem hj
   have g2 : xk[s]? = some (xk[s]'(by omega)) := List.getElem?_eq_getElem (by omega)
   have g3 : yk[s]? = some (yk[s]'(by omega)) := List.getElem?_eq_getElem (by omega)
   generalize bk[s] = u at *
   generalize xk[s]'(by omega) = v at *
   generalize yk[s]'(by omega) = w at *
   have hc' := hc
   rw [zFf g1, zFf g2, zFf g3] at hc'
   simp only [zBH, List.length_append] at hc'
   have e1 := hF s u v w cs g1 g2 g3 (by omega)
   rw [zA8 (Int.ofNat_lt.2 hj), cond_true, zQK N path i s hN hp, zQG g1, zQG g2, zQG g3, zFf g1, zFf g2, zFf g3]
   obtain ⟨u1, u2, u3, u4⟩ := u
   obtain ⟨v1, v2, v3, v4⟩ := v
   obtain ⟨w1, w2, w3, w4⟩ := w
   simp only [Nd.kids] at e1 hc'
   simp only [Option.bind_some, e1]
   have ih := zLS N side path i bk xk yk F FR hN hp hb hx hy hF k (s + 1) (cs ++ (FR (path ++ [(i : Int), (s : Int)]) u4 v4 w4).2) (acc ++ [Nd.mk 1 [] 0 (FR (path ++ [(i : Int), (s : Int)]) u4 v4 w4).1]) (by omega) (by omega) (by simp only [List.length_append, List.length_cons, List.length_nil]; omega) (by simp only [List.length_append]; omega)
   rw [zB6 (by simp only [List.length_cons, List.length_nil]; omega), zAX (by omega), ih]
   simp only [zBH, Nd.kids, rowK, List.append_assoc, List.cons_append, List.nil_append]
  ·rw [zA7 (by omega), cond_false, List.drop_of_length_le (by omega)]
   simp only [zBH, List.append_nil]
theorem zKp (N : Nat) (side : Int) (hs : side = 0 ∨ side = 1 ∨ side = 2) (path : List Int) (hp : path.length ≤ 1000000) (b x y : List Nd) (px py : List (Nat × Nat)) (FR : RowF) (F : zUY)
  (hn : 2 * Nd.cnts b + 2 * Nd.cnts x + 2 * Nd.cnts y + 10 < N) (hc : Nd.cnts b + Nd.cnts x + Nd.cnts y ≤ 1000000)
  (hF : ∀ (n p q : Nat) (v w z : Nd) (cs : List Cf), b[n]? = some v → x[p]? = some w → y[q]? = some z → zA5 v w = true → zA5 v z = true → cs.length + (zEm FR side path n v w z).2.length ≤ 1000000 →
   F (side, cs) path (n : Int) v w z = some ((zEm FR side path n v w z).1, (side, cs ++ (zEm FR side path n v w z).2))) :
  ∀ (k n i j l : Nat) (cs : List Cf) (acc : List Nd), b.length - n < k → n ≤ b.length → i ≤ n → j ≤ x.length → l ≤ y.length → KO b x y i j l (zGH b.length px py n) →
   cs.length + (zEw FR side path b x y i j l (zGH b.length px py n)).2.length ≤ 1000000 → acc.length + (zEw FR side path b x y i j l (zGH b.length px py n)).1.length ≤ 4294967296 →
   ∃ (i' j' l' : Nat) (cs' : List Cf) (acc' : List Nd), zAZ F N path b x y (vecK b.length px) (vecK b.length py) k side (i : Int) (j : Int) (l : Int) (n : Int) cs acc = some ((i' : Int), (j' : Int), (l' : Int), side, cs', acc') ∧
    i' ≤ b.length ∧ j' ≤ x.length ∧ l' ≤ y.length ∧ acc' ++ (zEn side path i' (b.drop i') (x.drop j') (y.drop l')).1 = acc ++ (zEw FR side path b x y i j l (zGH b.length px py n)).1 ∧
    cs' ++ (zEn side path i' (b.drop i') (x.drop j') (y.drop l')).2 = cs ++ (zEw FR side path b x y i j l (zGH b.length px py n)).2
 | 0, n, i, j, l, cs, acc, h, _, _, _, _, _, _, _ => by omega
 | k + 1, n, i, j, l, cs, acc, h, hnb, hi, hj, hl, ko, hcs, hac => by
  have lb := Nd.cnts_len b
  have lx := Nd.cnts_len x
  have ly := Nd.cnts_len y
  by_cases hlt : n < b.length
  ·unfold zAZ
   rw [zA8 (Int.ofNat_lt.2 hlt), cond_true, zTZ hlt, zTZ hlt]
   simp only [Option.bind_some]
   rw [zOT hlt] at ko hcs hac ⊢
   cases hg : gK px py n with
   | none =>
    rw [hg] at ko hcs hac
    have hneg : (bif decide (parZ px n < 0) then some true else some (decide (parZ py n < 0)) : Option Bool) = some true := by
     unfold gK at hg
     unfold parZ
     cases h1 : parK px n with
     | none => rfl
     | some p =>
      rw [h1] at hg
      cases h2 : parK py n with
      | none =>
       dsimp only
       rw [zA7 (show ¬ ((p : Int) < 0) by omega)]
       rfl
      | some q => rw [h2] at hg; cases hg
    rw [hneg]
    simp only [Option.bind_some, cond_true]
    rw [zAX (by omega)]
    exact zKp N side hs path hp b x y px py FR F hn hc hF k (n + 1) i j l cs acc (by omega) (by omega) (by omega) hj hl ko hcs hac
   | some u =>
    rw [hg] at ko hcs hac
    obtain ⟨g1, g2, g3⟩ := zKi hg
    obtain ⟨n', p, q⟩ := u
    dsimp only at g1 g2 g3
    subst g1
    have z1 : parZ px n' = (p : Int) := by unfold parZ; rw [g2]
    have z2 : parZ py n' = (q : Int) := by unfold parZ; rw [g3]
    obtain ⟨o1, o2, o3, v, w, z, r1, r2, r3, r4, r5⟩ := KO.head (n := n') (p := p) (q := q) ko
    have hpx := (List.getElem?_eq_some_iff.1 r2).1
    have hqy := (List.getElem?_eq_some_iff.1 r3).1
    simp only [Option.toList_some, List.cons_append, List.nil_append, zEw, appK, List.length_append, zDt r1, zDt r2, zDt r3] at hcs hac ko ⊢
    have c1 := zMy b i n'
    have c2 := zMy x j p
    have c3 := zMy y l q
    have ep := zR2 N side cs path i (cutK b i n') (cutK x j p) (cutK y l q) hs (by omega) (by omega) hp (by omega) (by omega)
    have ei := hF n' p q v w z (cs ++ (zEn side path i (cutK b i n') (cutK x j p) (cutK y l q)).2) r1 r2 r3 r4 r5 (by rw [List.length_append]; omega)
    rw [z1, z2]
    rw [zA7 (show ¬ ((p : Int) < 0) by omega), cond_false, zA7 (show ¬ ((q : Int) < 0) by omega)]
    simp only [Option.bind_some, cond_false]
    rw [zB6 ⟨by omega, by omega, by omega⟩]
    rw [zB6 ⟨by omega, by omega, by omega⟩, zB6 ⟨by omega, by omega, by omega⟩]
    have ep' : zBl N (side, cs) path (i : Int) ((b.take (n' : Int).toNat).drop (i : Int).toNat, (x.take (p : Int).toNat).drop (j : Int).toNat, (y.take (q : Int).toNat).drop (l : Int).toNat) = _ := ep
    rw [ep', zQG r1, zQG r2, zQG r3]
    obtain ⟨v1, v2, v3, v4⟩ := v
    obtain ⟨w1, w2, w3, w4⟩ := w
    obtain ⟨y1, y2, y3, y4⟩ := z
    simp only [Option.bind_some, ei]
    have hac1 : acc.length + (zEn side path i (cutK b i n') (cutK x j p) (cutK y l q)).1.length ≤ 4294967296 := by omega
    rw [zB6 hac1, zB6 (by first | omega | (rw [List.length_append]; omega))]
    simp only [Option.bind_some]
    rw [zAX (by omega), zAX (by omega), zAX (by omega)]
    have ih := zKp N side hs path hp b x y px py FR F hn hc hF k (n' + 1) (n' + 1) (p + 1) (q + 1) ((cs ++ (zEn side path i (cutK b i n') (cutK x j p) (cutK y l q)).2) ++ (zEm FR side path n' (.mk v1 v2 v3 v4) (.mk w1 w2 w3 w4) (.mk y1 y2 y3 y4)).2) ((acc ++ (zEn side path i (cutK b i n') (cutK x j p) (cutK y l q)).1) ++ (zEm FR side path n' (.mk v1 v2 v3 v4) (.mk w1 w2 w3 w4) (.mk y1 y2 y3 y4)).1)
     (by omega) (by omega) (Nat.le_refl _) (by omega) (by omega) ko.tail (by simp only [List.length_append]; omega) (by simp only [List.length_append]; omega)
    simp only [← List.append_assoc]
    exact ih
  ·obtain rfl : n = b.length := by omega
   unfold zAZ
   rw [zA7 (by omega), cond_false]
   have e : zGH b.length px py b.length = [] := by unfold zGH; rw [Nat.sub_self]; rfl
   rw [e]
   exact ⟨i, j, l, cs, acc, rfl, hi, hj, hl, by unfold zEw; rfl, by unfold zEw; rfl⟩
theorem zSj (side : Int) (hs : side = 0 ∨ side = 1 ∨ side = 2) : ∀ (K n : Nat) (path : List Int) (cs : List Cf) (b x y : List Nd), Nd.cnts b < K → 4 * (Nd.ws b + Nd.ws x + Nd.ws y) + 300 < n → path.length + Nd.cnts b ≤ 900000 → okR b → okR x → okR y →
  Nd.cnts b ≤ 110 → Nd.cnts x ≤ 110 → Nd.cnts y ≤ 110 → Nd.ws b ≤ 15999999 → Nd.ws x ≤ 15999999 → Nd.ws y ≤ 15999999 → cs.length + (rowM K side path b x y).2.length ≤ 1000000 →
  zAY n (side, cs) path b x y = some ((rowM K side path b x y).1, (side, cs ++ (rowM K side path b x y).2))
 | 0, n, _, _, _, _, _, h, _, _, _, _, _, _, _, _, _, _, _, _ => by omega
 | K + 1, 0, _, _, _, _, _, _, h, _, _, _, _, _, _, _, _, _, _, _ => by omega
 | K + 1, n + 1, path, cs, b, x, y, hK, hn, hp, ob, ox, oy, cb, cx, cy, wb, wx, wy, hcs => by
  have lb := Nd.cnts_len b
  have hbw := Nd.cnts_ws b
  have hxw := Nd.cnts_ws x
  have hyw := Nd.cnts_ws y
  have p1 := partners_eq n b x (by omega) wb wx cb cx ob.2 ox.2 ob.1 ox.1
  have p2 := partners_eq n b y (by omega) wb wy cb cy ob.2 oy.2 ob.1 oy.1
  have hw := zSk side (K + 1) path b x y
  have hlen := Nd.ws_len (rowM (K + 1) side path b x y).1
  unfold rowM at hcs hw hlen
  unfold rowM
  unfold zAY
  simp only [p1, p2, Option.bind_some]
  rw [zEx] at hcs hw hlen ⊢
  obtain ⟨i, j, l, cs', acc', e1, e2, e3, e4, e5, e6⟩ := zKp n side hs path (by omega) b x y (zCu b x) (zCu b y) (rowM K side) (zA9 n) (by omega) (by omega) (fun m p q v w z ds g1 g2 g3 g4 g5 hds => by
   obtain ⟨k, rfl⟩ : ∃ k, n = k + 1 := ⟨n - 1, by omega⟩
   have mv := List.mem_of_getElem? g1
   have mw := List.mem_of_getElem? g2
   have mz := List.mem_of_getElem? g3
   have cv := Nd.cnts_mem mv
   have cw := Nd.cnts_mem mw
   have cz := Nd.cnts_mem mz
   have wv := Nd.w_mem mv
   have ww := Nd.w_mem mw
   have wz := Nd.w_mem mz
   have kv := v.cnt_kids
   have kw := w.cnt_kids
   have kz := z.cnt_kids
   have uv := v.w_eq
   have uw := w.w_eq
   have uz := z.w_eq
   have mb := (List.getElem?_eq_some_iff.1 g1).1
   have lv := Nd.cnts_len v.kids
   have loop := zLS k side path m v.kids w.kids z.kids (zAY k) (rowM K side) (by omega) (by omega) (by omega) (zHV g4) (zHV g5) (fun s u u' u'' es h1 h2 h3 hes => by
    have n1 := List.mem_of_getElem? h1
    have n2 := List.mem_of_getElem? h2
    have n3 := List.mem_of_getElem? h3
    have d1 := Nd.cnts_mem n1
    have d2 := Nd.cnts_mem n2
    have d3 := Nd.cnts_mem n3
    have f1 := Nd.w_mem n1
    have f2 := Nd.w_mem n2
    have f3 := Nd.w_mem n3
    have k1 := u.cnt_kids
    have k2 := u'.cnt_kids
    have k3 := u''.cnt_kids
    have j1 := u.w_eq
    have j2 := u'.w_eq
    have j3 := u''.w_eq
    exact zSj side hs K k (path ++ [(m : Int), (s : Int)]) es u.kids u'.kids u''.kids (by omega) (by omega) (by simp only [List.length_append, List.length_cons, List.length_nil]; omega) (ob.sub mv n1).1 (ox.sub mw n2).1 (oy.sub mz n3).1 (by omega) (by omega) (by omega) (by omega) (by omega) (by omega) hes)
   obtain ⟨v1, v2, v3, v4⟩ := v
   obtain ⟨w1, w2, w3, w4⟩ := w
   obtain ⟨z1, z2, z3, z4⟩ := z
   simp only [Nd.kids] at loop
   unfold zA9
   have key : ds.length + (zBH (rowM K side) path m 0 v4 w4 z4).2.length ≤ 1000000 → zA0 (zAY k) k path (m : Int) v4 w4 z4 k side 0 ds [] = some (side, ds ++ (zBH (rowM K side) path m 0 v4 w4 z4).2, (zBH (rowM K side) path m 0 v4 w4 z4).1) := fun hd => by
    have := loop k 0 ds [] (by simp only [Nd.kids] at lv kv; omega) (Nat.zero_le _) (Nat.le_refl _) (by simpa using hd)
    simpa using this
   by_cases t1 : w2 = v2
   ·rw [zRD (show (Nd.mk w1 w2 w3 w4).text = (Nd.mk v1 v2 v3 v4).text from t1)] at hds ⊢
    simp only [Nd.text, Nd.kind, Nd.cols, Nd.kids] at hds ⊢
    rw [show (w2 == v2) = true from beq_iff_eq.2 t1]
    simp only [cond_true, Option.bind_some, key hds]
   ·rw [show (w2 == v2) = false from beq_eq_false_iff_ne.2 t1]
    simp only [cond_false]
    by_cases t2 : z2 = v2 ∨ z2 = w2
    ·rw [zRE (show ¬ (Nd.mk w1 w2 w3 w4).text = (Nd.mk v1 v2 v3 v4).text from t1) (show (Nd.mk z1 z2 z3 z4).text = (Nd.mk v1 v2 v3 v4).text ∨ (Nd.mk z1 z2 z3 z4).text = (Nd.mk w1 w2 w3 w4).text from t2)] at hds ⊢
     simp only [Nd.text, Nd.kind, Nd.cols, Nd.kids] at hds ⊢
     have hb : (bif z2 == v2 then some true else some (z2 == w2) : Option Bool) = some true := by
      rcases t2 with t2 | t2
      ·rw [show (z2 == v2) = true from beq_iff_eq.2 t2]; rfl
      ·rw [show (z2 == w2) = true from beq_iff_eq.2 t2]; cases (z2 == v2) <;> rfl
     rw [hb]
     simp only [cond_true, Option.bind_some, key hds]
    ·rw [zUb (show ¬ (Nd.mk w1 w2 w3 w4).text = (Nd.mk v1 v2 v3 v4).text from t1) (show ¬ ((Nd.mk z1 z2 z3 z4).text = (Nd.mk v1 v2 v3 v4).text ∨ (Nd.mk z1 z2 z3 z4).text = (Nd.mk w1 w2 w3 w4).text) from t2)] at hds ⊢
     dsimp only at hds ⊢
     have hb : (bif z2 == v2 then some true else some (z2 == w2) : Option Bool) = some false := by
      rw [show (z2 == v2) = false from beq_eq_false_iff_ne.2 fun e => t2 (.inl e), show (z2 == w2) = false from beq_eq_false_iff_ne.2 fun e => t2 (.inr e)]; rfl
     rw [hb]
     have ec := zKb k side ds path m [.mk v1 v2 v3 v4] [.mk w1 w2 w3 w4] [.mk z1 z2 z3 z4] hs (by simp only [Nd.cnts]; omega) (by simp only [Nd.cnts]; omega) (by omega) (by omega) (by simp only [List.length_cons, List.length_nil] at hds; omega)
     simp only [cond_false, Option.bind_some, ec]
     rfl) n 0 0 0 0 cs [] (by omega) (Nat.zero_le _) (Nat.le_refl _) (Nat.zero_le _) (Nat.zero_le _) (zSh b x y 0) hcs (by rw [List.length_nil]; omega)
  have e1' : zAZ (zA9 n) n path b x y (vecK b.length (zCu b x)) (vecK b.length (zCu b y)) n side 0 0 0 0 cs [] = _ := e1
  rw [e1']
  simp only [Option.bind_some]
  rw [zB6 ⟨by omega, by omega, by omega⟩, zB6 ⟨by omega, by omega, by omega⟩, zB6 ⟨by omega, by omega, by omega⟩]
  simp only [Int.toNat_natCast, List.take_length]
  have c1 := zKa b i
  have c2 := zKa x j
  have c3 := zKa y l
  have hl6 := congrArg List.length e6
  have hl5 := congrArg List.length e5
  simp only [List.length_append, List.length_nil] at hl5 hl6
  have ep := zR2 n side cs' path i (b.drop i) (x.drop j) (y.drop l) hs (by omega) (by omega) (by omega) (by omega) (by omega)
  rw [ep]
  simp only [Option.bind_some]
  rw [zB6 (by omega), e5, e6, List.nil_append]
end Go.Proofs.YtgfneloodabafaaGreatDoor
namespace Go.Proofs.YtgfneloodabafaaGreatDoor
open Go.Abs
noncomputable def zDj (side : Int) (b x y : Nd) : Nd × List Cf × Int :=
 if zAR b = true ∧ zAR x = true ∧ zAR y = true then
  (if zAR (rowK (rowM 111 side [] b.kids x.kids y.kids).1) = true then (rowK (rowM 111 side [] b.kids x.kids y.kids).1, (rowM 111 side [] b.kids x.kids y.kids).2, 0) else (zFn, [], 6))
 else (zFn, [], 1)
theorem zUs (n : Nat) (side : Int) (hs : side = 0 ∨ side = 1 ∨ side = 2) (b x y : Nd) (hn : 4 * (b.w + x.w + y.w) + 400 < n) (wb : b.w ≤ 16000000) (wx : x.w ≤ 16000000) (wy : y.w ≤ 16000000) (cb : b.cnt ≤ 110) (cx : x.cnt ≤ 110) (cy : y.cnt ≤ 110) (rb : b.rng) (rx : x.rng) (ry : y.rng) :
  ∃ cs, zBz n (side, []) b x y = some ((zDj side b x y).1, (zDj side b x y).2.2, (side, cs)) ∧ ((zDj side b x y).2.2 = 0 → cs = (zDj side b x y).2.1) := by
 have v1 := zDd n b (by omega) (by omega)
 have v2 := zDd n x (by omega) (by omega)
 have v3 := zDd n y (by omega) (by omega)
 have b1 := b.w_eq
 have b2 := x.w_eq
 have b3 := y.w_eq
 have c1 := b.cnt_kids
 have c2 := x.cnt_kids
 have c3 := y.cnt_kids
 unfold zDj
 by_cases h : zAR b = true ∧ zAR x = true ∧ zAR y = true
 ·rw [if_pos h]
  obtain ⟨o1, e1⟩ := zKt h.1 rb
  obtain ⟨o2, e2⟩ := zKt h.2.1 rx
  obtain ⟨o3, e3⟩ := zKt h.2.2 ry
  have hcs := zTW side 111 [] b.kids x.kids y.kids
  have hws := zSk side 111 [] b.kids x.kids y.kids
  have hr := zSj side hs 111 n [] [] b.kids x.kids y.kids (by omega) (by omega) (by simp only [List.length_nil]; omega) o1 o2 o3 (by omega) (by omega) (by omega) (by omega) (by omega) (by omega) (by simp only [List.length_nil]; omega)
  have wr : (rowK (rowM 111 side [] b.kids x.kids y.kids).1).w = Nd.ws (rowM 111 side [] b.kids x.kids y.kids).1 + 1 := by simp [rowK, Nd.w]
  have vr := zDd n (rowK (rowM 111 side [] b.kids x.kids y.kids).1) (by omega) (by omega)
  rw [h.1] at v1
  rw [h.2.1] at v2
  rw [h.2.2] at v3
  unfold rowK at vr
  unfold rowK
  obtain ⟨p1, p2, p3, p4⟩ := b
  obtain ⟨q1, q2, q3, q4⟩ := x
  obtain ⟨r1, r2, r3, r4⟩ := y
  simp only [Nd.kids] at hr vr ⊢
  refine ⟨(rowM 111 side [] p4 q4 r4).2, ?_⟩
  unfold zBz
  simp only [v1, v2, v3, Option.bind_some, Bool.not_true, cond_false, hr, vr, List.nil_append]
  by_cases hv : zAR (Nd.mk 1 [] 0 (rowM 111 side [] p4 q4 r4).1) = true
  ·simp only [hv, if_true, Bool.not_true, cond_false]
   exact ⟨trivial, fun _ => trivial⟩
  ·have hv' : zAR (Nd.mk 1 [] 0 (rowM 111 side [] p4 q4 r4).1) = false := Bool.eq_false_iff.2 hv
   simp only [hv', Bool.false_eq_true, if_false, Bool.not_false, cond_true]
   exact ⟨rfl, fun h => by cases h⟩
 ·rw [if_neg h]
  refine ⟨[], ?_, fun h => by cases h⟩
  obtain ⟨p1, p2, p3, p4⟩ := b
  obtain ⟨q1, q2, q3, q4⟩ := x
  obtain ⟨r1, r2, r3, r4⟩ := y
  unfold zBz
  simp only [v1, v2, v3, Option.bind_some]
  cases g1 : zAR (Nd.mk p1 p2 p3 p4) with
  | false => rfl
  | true =>
   cases g2 : zAR (Nd.mk q1 q2 q3 q4) with
   | false => rfl
   | true =>
    cases g3 : zAR (Nd.mk r1 r2 r3 r4) with
    | false => rfl
    | true => exact absurd ⟨g1, g2, g3⟩ h
theorem zQT (side : Int) (b x y : Nd) : (zDj side b x y).2.2 ≠ 0 → (zDj side b x y).1 = zFn ∧ (zDj side b x y).2.1 = [] := by
 unfold zDj
 split
 ·split
  ·intro h; exact absurd rfl h
  ·intro _; exact ⟨rfl, rfl⟩
 ·intro _; exact ⟨rfl, rfl⟩
theorem zSP (n : Nat) (b x y : Nd) (hn : 4 * (b.w + x.w + y.w) + 400 < n) (wb : b.w ≤ 16000000) (wx : x.w ≤ 16000000) (wy : y.w ≤ 16000000) (cb : b.cnt ≤ 110) (cx : x.cnt ≤ 110) (cy : y.cnt ≤ 110) (rb : b.rng) (rx : x.rng) (ry : y.rng) :
  zBN n b x y = some ((zDj 0 b x y).1, (zDj 0 b x y).2.1, (zDj 0 b x y).2.2) := by
 obtain ⟨cs, h1, h2⟩ := zUs n 0 (.inl rfl) b x y hn wb wx wy cb cx cy rb rx ry
 have h3 := zQT 0 b x y
 obtain ⟨p1, p2, p3, p4⟩ := b
 obtain ⟨q1, q2, q3, q4⟩ := x
 obtain ⟨r1, r2, r3, r4⟩ := y
 unfold zBN
 dsimp only
 rw [h1]
 generalize zDj 0 (Nd.mk p1 p2 p3 p4) (Nd.mk q1 q2 q3 q4) (Nd.mk r1 r2 r3 r4) = m at *
 obtain ⟨⟨m1, m2, m3, m4⟩, ms, me⟩ := m
 dsimp only at h2 h3 ⊢
 simp only [Option.bind_some]
 by_cases he : me = 0
 ·subst he
  rw [h2 rfl]; rfl
 ·obtain ⟨g1, g2⟩ := h3 he
  rw [show (me != 0) = true from bne_iff_ne.2 he, cond_true, g1, g2]; rfl
theorem zS0 (n : Nat) (a b c : Nd) (h : 110 < n) : ∃ y, zFK n a b c = some y ∧ (y = true → a.cnt ≤ 100 ∧ b.cnt ≤ 100 ∧ c.cnt ≤ 100) := by
 obtain ⟨y1, h1, g1⟩ := zNl n a 100 (by omega) (by omega)
 obtain ⟨y2, h2, g2⟩ := zNl n b 100 (by omega) (by omega)
 obtain ⟨y3, h3, g3⟩ := zNl n c 100 (by omega) (by omega)
 rw [show ((100 : Nat) : Int) = 100 from rfl] at h1 h2 h3
 obtain ⟨a1, a2, a3, a4⟩ := a
 obtain ⟨b1, b2, b3, b4⟩ := b
 obtain ⟨c1, c2, c3, c4⟩ := c
 refine ⟨y1 && (y2 && y3), ?_, fun h => ?_⟩
 ·unfold zFK
  simp only [h1, h2, h3, Option.bind_some]
  cases y1 <;> cases y2 <;> rfl
 ·simp only [Bool.and_eq_true] at h
  exact ⟨g1 h.1, g2 h.2.1, g3 h.2.2⟩
end Go.Proofs.YtgfneloodabafaaGreatDoor
namespace Go.Proofs.YtgfneloodabafaaGreatDoor
open Go.Abs
def swC (c : Cf) : Cf := (c.1, c.2.1, c.2.2.1, c.2.2.2.2, c.2.2.2.1)
def swS (s : Int) : Int := if s = 1 then 2 else if s = 2 then 1 else s
def swT (u : Nat × Nat × Nat) : Nat × Nat × Nat := (u.1, u.2.2, u.2.1)
theorem zR5 {side : Int} (hs : side = 0 ∨ side = 1 ∨ side = 2) (b x y : List Nd) : zOL (swS side) b y x = zOL side b x y := by
 rcases hs with rfl | rfl | rfl <;> rfl
theorem zR3 {side : Int} (hs : side = 0 ∨ side = 1 ∨ side = 2) (path : List Int) (i : Nat) (b x y : List Nd) : zEn (swS side) path i b y x = ((zEn side path i b x y).1, (zEn side path i b x y).2.map swC) := by
 unfold zEn
 by_cases h1 : x = b
 ·by_cases h2 : y = b
  ·rw [if_pos h2, if_pos h1, h1, h2]; rfl
  ·rw [if_neg h2, if_pos (.inl h1), if_pos h1]; rfl
 ·by_cases h2 : y = b
  ·rw [if_pos h2, if_neg h1, if_pos (.inl h2)]; rfl
  ·rw [if_neg h2, if_neg h1]
   by_cases h3 : x = y
   ·rw [if_pos (.inr h3), if_pos (.inr h3.symm), h3]; rfl
   ·rw [if_neg (fun h => h.elim h1 h3), if_neg (fun h => h.elim h2 fun e => h3 e.symm), zR5 hs]; rfl
theorem zQu {F F' : RowF} (h : ∀ p b x y, F' p b y x = ((F p b x y).1, (F p b x y).2.map swC)) (path : List Int) (i : Nat) : ∀ (s : Nat) (b x y : List Nd), zBH F' path i s b y x = ((zBH F path i s b x y).1, (zBH F path i s b x y).2.map swC)
 | s, b :: bs, x :: xs, y :: ys => by
  simp only [zBH, h, zQu h path i (s + 1) bs xs ys, List.map_append]
 | s, [], x, y => by cases x <;> cases y <;> rfl
 | s, b :: bs, [], y => by cases y <;> rfl
 | s, b :: bs, x :: xs, [] => rfl
theorem zUe {F F' : RowF} (h : ∀ p b x y, F' p b y x = ((F p b x y).1, (F p b x y).2.map swC)) {side : Int} (hs : side = 0 ∨ side = 1 ∨ side = 2) (path : List Int) (i : Nat) (b x y : Nd) : zEm F' (swS side) path i b y x = ((zEm F side path i b x y).1, (zEm F side path i b x y).2.map swC) := by
 unfold zEm
 rw [zQu h]
 by_cases h1 : x.text = b.text
 ·by_cases h2 : y.text = b.text
  ·rw [if_pos h2, if_pos h1, h1, h2]
  ·rw [if_neg h2, if_pos (.inl h1), if_pos h1]
 ·by_cases h2 : y.text = b.text
  ·rw [if_pos h2, if_neg h1, if_pos (.inl h2)]
  ·rw [if_neg h2, if_neg h1]
   by_cases h3 : x.text = y.text
   ·rw [if_pos (.inr h3), if_pos (.inr h3.symm), h3]
   ·rw [if_neg (fun h => h.elim h1 h3), if_neg (fun h => h.elim h2 fun e => h3 e.symm), zR5 hs]; rfl
theorem zSG {F F' : RowF} (h : ∀ p b x y, F' p b y x = ((F p b x y).1, (F p b x y).2.map swC)) {side : Int} (hs : side = 0 ∨ side = 1 ∨ side = 2) (path : List Int) (b x y : List Nd) : ∀ (T : List (Nat × Nat × Nat)) (i j k : Nat),
  zEw F' (swS side) path b y x i k j (T.map swT) = ((zEw F side path b x y i j k T).1, (zEw F side path b x y i j k T).2.map swC)
 | [], i, j, k => zR3 hs ..
 | (n, p, q) :: T, i, j, k => by
  have ih := zSG h hs path b x y T (n + 1) (p + 1) (q + 1)
  simp only [List.map_cons, swT, zEw, appK]
  rw [ih, zR3 hs, zUe h hs]
  simp only [List.map_append]
theorem zU2 (px py : List (Nat × Nat)) (i : Nat) : gK py px i = (gK px py i).map swT := by
 unfold gK
 cases parK px i <;> cases parK py i <;> rfl
theorem zUg (n : Nat) (px py : List (Nat × Nat)) : zOd n py px = (zOd n px py).map swT := by
 rw [zEx, zEx]
 unfold zGH
 rw [List.map_filterMap]
 congr 1
 funext i
 exact zU2 px py i
theorem zTX {side : Int} (hs : side = 0 ∨ side = 1 ∨ side = 2) : ∀ (N : Nat) (p : List Int) (b x y : List Nd), rowM N (swS side) p b y x = ((rowM N side p b x y).1, (rowM N side p b x y).2.map swC)
 | 0, p, b, x, y => rfl
 | N + 1, p, b, x, y => by
  have := zSG (zTX hs N) hs p b x y (zOd b.length (zCu b x) (zCu b y)) 0 0 0
  unfold rowM
  rw [zUg]
  exact this
theorem zQA {F : RowF} {side : Int} {path : List Int} {b x y : List Nd} (R : Nat → Nat → Nat → Prop)
  (hpart : ∀ i n j p k q, R i j k → R n p q → zEn side path i (cutK b i n) (cutK x j p) (cutK y k q) = (cutK x j p, [])) (hend : ∀ i j k, R i j k → zEn side path i (b.drop i) (x.drop j) (y.drop k) = (x.drop j, []))
  (hitem : ∀ n p q v w z, R n p q → b[n]? = some v → x[p]? = some w → y[q]? = some z → zA5 v w = true → zA5 v z = true → zEm F side path n v w z = ([w], [])) (hR : ∀ n p q, R n p q → R (n + 1) (p + 1) (q + 1)) :
  ∀ (T : List (Nat × Nat × Nat)) (i j k : Nat), (∀ u ∈ T, R u.1 u.2.1 u.2.2) → R i j k → KO b x y i j k T → zEw F side path b x y i j k T = (x.drop j, [])
 | [], i, j, k, _, h, _ => hend i j k h
 | (n, p, q) :: T, i, j, k, hT, h, ko => by
  obtain ⟨o1, o2, o3, v, w, z, r1, r2, r3, r4, r5⟩ := ko.head
  have hu := hT (n, p, q) List.mem_cons_self
  have ih := zQA R hpart hend hitem hR T (n + 1) (p + 1) (q + 1) (fun u hu => hT u (List.mem_cons_of_mem _ hu)) (hR _ _ _ hu) ko.tail
  unfold zEw
  rw [hpart i n j p k q h hu, zDt r1, zDt r2, zDt r3, hitem n p q v w z hu r1 r2 r3 r4 r5, ih, zKd o2 r2]
  rfl
theorem zS4 {n : Nat} {px py : List (Nat × Nat)} {u : Nat × Nat × Nat} (h : u ∈ zOd n px py) : (u.1, u.2.1) ∈ px ∧ (u.1, u.2.2) ∈ py := by
 rw [zEx] at h
 obtain ⟨i, _, hi⟩ := List.mem_filterMap.1 h
 obtain ⟨rfl, h1, h2⟩ := zKi hi
 exact ⟨zFk h1, zFk h2⟩
theorem zQ5 {b : List Nd} {u : Nat × Nat} (h : u ∈ zCu b b) : u.2 = u.1 := by
 unfold zCu at h
 rw [zFY _ 0 0 b (by omega)] at h
 obtain ⟨s, _, rfl⟩ := List.mem_map.1 h
 rfl
theorem zO0 {F : RowF} {path : List Int} {i : Nat} : ∀ (s : Nat) (b x y : List Nd), b.length = x.length → b.length = y.length → (∀ p u v w, u ∈ b → v ∈ x → (∃ r : Nat, b[r]? = some u ∧ y[r]? = some w) → True → (y = b → w = u) → (y = x → w = v) → (rowK (F p u.kids v.kids w.kids).1 = v ∧ (F p u.kids v.kids w.kids).2 = [])) → (y = b ∨ y = x) → zBH F path i s b x y = (x, [])
 | s, [], [], [], _, _, _, _ => rfl
 | s, [], _ :: _, _, h, _, _, _ => by cases h
 | s, [], [], _ :: _, _, h, _, _ => by cases h
 | s, _ :: _, [], _, h, _, _, _ => by cases h
 | s, _ :: _, _ :: _, [], _, h, _, _ => by cases h
 | s, b :: bs, x :: xs, y :: ys, hx, hy, h, hyy => by
  obtain ⟨e1, e2⟩ := h (path ++ [(i : Int), (s : Int)]) b x y List.mem_cons_self List.mem_cons_self ⟨0, rfl, rfl⟩ trivial (fun e => (List.cons.inj e).1) (fun e => (List.cons.inj e).1)
  have ih := zO0 (F := F) (path := path) (i := i) (s + 1) bs xs ys (by simpa using hx) (by simpa using hy) (fun p u v w hu hv hw _ g1 g2 => h p u v w (List.mem_cons_of_mem _ hu) (List.mem_cons_of_mem _ hv) (by obtain ⟨r, h1, h2⟩ := hw; exact ⟨r + 1, h1, h2⟩) trivial (fun e => g1 (List.cons.inj e).2) (fun e => g2 (List.cons.inj e).2))
   (hyy.elim (fun e => .inl (List.cons.inj e).2) fun e => .inr (List.cons.inj e).2)
  unfold zBH
  rw [ih]
  simp only [e1, e2, List.append_nil]
theorem zS3 {F : RowF} {side : Int} {path : List Int} {n : Nat} {v w z : Nd} (hz : z = v ∨ z = w) (ha : zA5 v w = true) (hs : zBH F path n 0 v.kids w.kids z.kids = (w.kids, [])) : zEm F side path n v w z = ([w], []) := by
 obtain ⟨a1, a2, a3⟩ := zCP.1 ha
 by_cases h : w.text = v.text
 ·have hz' : z.text = w.text := by
   rcases hz with rfl | rfl
   ·exact h.symm
   ·rfl
  rw [zRD h, hs, hz', a1, a3]
  cases w; rfl
 ·rw [zRE h (hz.elim (fun e => .inl (by rw [e])) fun e => .inr (by rw [e])), hs, a1, a3]
  cases w; rfl
theorem zKM (side : Int) : ∀ (N : Nat) (p : List Int) (b x : List Nd), Nd.cnts b < N → okR x → rowM N side p b x b = (x, [])
 | 0, _, _, _, h, _ => by omega
 | N + 1, p, b, x, h, ox => by
  unfold rowM
  refine zQA (fun i _ k => k = i) (fun i n j p' k q h1 h2 => by subst h1; subst h2; exact zKD) (fun i j k h1 => by subst h1; exact zKD) (fun n p' q v w z h1 g1 g2 g3 a1 a2 => ?_) (fun n p q h => by rw [h]) _ 0 0 0 (fun u hu => zQ5 (zS4 hu).2) rfl (zPx b x b)
  subst h1
  rw [g1] at g3
  obtain rfl := Option.some.inj g3
  refine zS3 (.inl rfl) a1 (zO0 0 _ _ _ (zHV a1) rfl (fun p u v' w' hu hv hw _ hb _ => ?_) (.inl rfl))
  obtain rfl := hb rfl
  have m1 := Nd.cnts_mem (List.mem_of_getElem? g1)
  have m2 := Nd.cnts_mem hu
  have k1 := v.cnt_kids
  have k2 := w'.cnt_kids
  obtain ⟨o1, o2⟩ := ox.sub (List.mem_of_getElem? g2) hv
  rw [zKM side N p w'.kids v'.kids (by omega) o1]
  exact ⟨o2.symm, rfl⟩
theorem zTv {side : Int} (hs : side = 0 ∨ side = 1 ∨ side = 2) (N : Nat) (p : List Int) (b y : List Nd) (h : Nd.cnts b < N) (oy : okR y) : rowM N side p b b y = (y, []) := by
 have hs' : swS side = 0 ∨ swS side = 1 ∨ swS side = 2 := by rcases hs with rfl | rfl | rfl <;> decide
 have e := zTX hs' N p b y b
 have e' : swS (swS side) = side := by rcases hs with rfl | rfl | rfl <;> decide
 rw [e', zKM (swS side) N p b y h oy] at e
 exact e
end Go.Proofs.YtgfneloodabafaaGreatDoor
namespace Go.Proofs.YtgfneloodabafaaGreatDoor
open Go.Abs
theorem zI5 {n : Nd} {i s : Int} {p : List Int} (h : ¬ (0 ≤ i ∧ i < n.kids.length)) : zCQ n (i :: s :: p) = none := by rw [zCQ, if_neg h]
theorem zI6 {n x : Nd} {i : Nat} {s : Int} {p : List Int} (hx : n.kids[i]? = some x) (h : ¬ (0 ≤ s ∧ s < x.kids.length)) : zCQ n ((i : Int) :: s :: p) = none := by
 have hl := (List.getElem?_eq_some_iff.1 hx).1
 rw [zCQ, if_pos ⟨by omega, by omega⟩]
 simp only [List.getD_eq_getElem?_getD, Int.toNat_natCast, hx, Option.getD_some]
 rw [if_neg h]
theorem zPu {n x z : Nd} {i s : Nat} {p : List Int} (hx : n.kids[i]? = some x) (hz : x.kids[s]? = some z) : zCQ n ((i : Int) :: (s : Int) :: p) = zCQ z p := by
 have hl := (List.getElem?_eq_some_iff.1 hx).1
 have hl2 := (List.getElem?_eq_some_iff.1 hz).1
 rw [zCQ, if_pos ⟨by omega, by omega⟩]
 simp only [List.getD_eq_getElem?_getD, Int.toNat_natCast, hx, hz, Option.getD_some]
 rw [if_pos ⟨by omega, by omega⟩]
theorem zRp {α : Type} {l : List α} {i : Int} (h0 : 0 ≤ i) (h1 : i < (l.length : Int)) : ∃ p : Nat, i = (p : Int) ∧ ∃ h : p < l.length, at? l i = some l[p] := by
 obtain ⟨p, rfl⟩ := Int.eq_ofNat_of_zero_le h0
 exact ⟨p, rfl, by omega, zBi (by omega)⟩
theorem zLN : ∀ (k : Nat) (t : Nd) (path : List Int), path.length < k →
  (zCQ t path = none ∧ ∃ r, zBO k t.kind t.text t.cols t.kids path = some (.ret (r, false))) ∨
  (zCQ t path = none ∧ ∃ (r : Nd) (p : List Int), p ≠ [] ∧ zBO k t.kind t.text t.cols t.kids path = some (.go (p, r.kind, r.text, r.cols, r.kids))) ∨
  ∃ r, zCQ t path = some r ∧ zBO k t.kind t.text t.cols t.kids path = some (.go ([], r.kind, r.text, r.cols, r.kids))
 | 0, _, _, h => by omega
 | k + 1, t, path, h => by
  unfold zBO
  match path, h with
  | [], h => exact .inr (.inr ⟨t, rfl, rfl⟩)
  | [x], h => exact .inr (.inl ⟨rfl, t, [x], by simp, rfl⟩)
  | x :: y :: p, h =>
   have e0 : at? (x :: y :: p) (0 : Int) = some x := rfl
   have e1 : at? (x :: y :: p) (1 : Int) = some y := rfl
   have e2 : (((x :: y :: p).take (((x :: y :: p).length : Int)).toNat).drop (2 : Int).toNat) = p := by
    rw [Int.toNat_natCast, List.take_length]; rfl
   rw [zA8 (by simp only [List.length_cons]; omega), cond_true]
   simp only [e0, e1, Option.bind_some, e2]
   by_cases h1 : x < 0
   ·rw [zA8 h1]; exact .inl ⟨zI5 (fun h => by omega), _, rfl⟩
   ·rw [zA7 h1]
    by_cases h2 : (t.kids.length : Int) ≤ x
    ·rw [zA8 h2]; exact .inl ⟨zI5 (fun h => by omega), _, rfl⟩
    ·rw [zA7 h2]
     obtain ⟨i, rfl, hi, hg⟩ := zRp (l := t.kids) (i := x) (by omega) (by omega)
     rw [hg]
     have hgi : t.kids[i]? = some t.kids[i] := List.getElem?_eq_getElem hi
     generalize t.kids[i] = e at hgi
     obtain ⟨x1, x2, x3, x4⟩ := e
     simp only [cond_false, Option.bind_some]
     by_cases h3 : y < 0
     ·rw [zA8 h3]; exact .inl ⟨zI6 hgi (fun h => by omega), _, rfl⟩
     ·rw [zA7 h3]
      by_cases h4 : (x4.length : Int) ≤ y
      ·rw [zA8 h4]; exact .inl ⟨zI6 hgi (fun h => by have : y < x4.length := h.2; omega), _, rfl⟩
      ·rw [zA7 h4]
       obtain ⟨j, rfl, hj, hg2⟩ := zRp (l := x4) (i := y) (by omega) (by omega)
       rw [hg2]
       have hgj : x4[j]? = some x4[j] := List.getElem?_eq_getElem hj
       generalize x4[j] = f at hgj
       obtain ⟨y1, y2, y3, y4⟩ := f
       simp only [cond_false, Option.bind_some]
       rw [zB6 ⟨by omega, by simp only [List.length_cons]; omega, by omega⟩]
       rw [zPu hgi hgj]
       exact zLN k (.mk y1 y2 y3 y4) p (by simp only [List.length_cons] at h; omega)
theorem zPM (n : Nat) (t : Nd) (path : List Int) (h : path.length < n) : ∃ r ok, zFL n t path = some (r, ok) ∧ zCQ t path = bif ok then some r else none := by
 obtain ⟨a, b, c, d⟩ := t
 unfold zFL
 dsimp only
 rcases zLN n (.mk a b c d) path h with ⟨h0, r, h1⟩ | ⟨h0, r, p, hp, h1⟩ | ⟨r, h0, h1⟩
 ·simp only [Nd.kind, Nd.text, Nd.cols, Nd.kids] at h1
  rw [h1]
  exact ⟨r, false, rfl, h0⟩
 ·obtain ⟨r1, r2, r3, r4⟩ := r
  simp only [Nd.kind, Nd.text, Nd.cols, Nd.kids] at h1
  rw [h1]
  refine ⟨.mk r1 r2 r3 r4, false, ?_, h0⟩
  have : ((p.length : Int) == 0) = false := beq_eq_false_iff_ne.2 fun e => hp (List.eq_nil_of_length_eq_zero (by omega))
  simp only [Option.bind_some, this]
 ·obtain ⟨r1, r2, r3, r4⟩ := r
  simp only [Nd.kind, Nd.text, Nd.cols, Nd.kids] at h1
  rw [h1]
  exact ⟨.mk r1 r2 r3 r4, true, rfl, h0⟩
def rowS (t : Nd) (p : List Int) : Nd × Int := if zAR t = true then (match zCQ t p with | some r => (r, 0) | none => (zFn, 8)) else (zFn, 1)
theorem zQ7 (n : Nat) (t : Nd) (p : List Int) (hp : p.length < n) (hv : zB4 n t = some (zAR t)) : zGu n t p = some (rowS t p) := by
 obtain ⟨r, ok, h1, h2⟩ := zPM n t p hp
 obtain ⟨k, tx, c, ks⟩ := t
 unfold zGu rowS
 dsimp only
 rw [hv]
 simp only [Option.bind_some]
 cases hb : zAR (.mk k tx c ks) with
 | false => rfl
 | true =>
  rw [h1, h2]
  obtain ⟨r1, r2, r3, r4⟩ := r
  cases ok <;> rfl
end Go.Proofs.YtgfneloodabafaaGreatDoor
namespace Go.Proofs.YtgfneloodabafaaGreatDoor
open Go.Abs
theorem zSL (n : Nat) (b x y : Nd) (h : zBN n b x y = some ((zDj 0 b x y).1, (zDj 0 b x y).2.1, (zDj 0 b x y).2.2)) : zC6 n b x y = some (((zDj 0 b x y).2.2 == 0) && (((zDj 0 b x y).2.1.length : Int) == 0)) := by
 obtain ⟨p1, p2, p3, p4⟩ := b
 obtain ⟨q1, q2, q3, q4⟩ := x
 obtain ⟨r1, r2, r3, r4⟩ := y
 unfold zC6
 dsimp only
 rw [h]
 generalize zDj 0 (Nd.mk p1 p2 p3 p4) (Nd.mk q1 q2 q3 q4) (Nd.mk r1 r2 r3 r4) = m
 obtain ⟨⟨m1, m2, m3, m4⟩, ms, me⟩ := m
 simp only [Option.bind_some]
 cases me == 0 <;> rfl
end Go.Proofs.YtgfneloodabafaaGreatDoor
namespace Go.Proofs.YtgfneloodabafaaGreatDoor
open Go.Abs
theorem zQH (k : Nat) : zF1 (k + 100) = some true := by
 with_unfolding_all rfl
end Go.Proofs.YtgfneloodabafaaGreatDoor
namespace Go.Proofs.YtgfneloodabafaaGreatDoor
open Go.Abs
theorem zT2 (n : Nat) (t : Nd) (h : 2 * t.cnt < n) (hc : t.cnt ≤ 67108864) : zBo n t t = some true := by
 obtain ⟨r, h1, h2⟩ := (zJx n).1 t t h hc
 rw [h1, h2.2 rfl]
theorem zRQ {side : Int} {b x y : Nd} {l : List Nd} (vb : zAR b = true) (vx : zAR x = true) (vy : zAR y = true) (h : rowM 111 side [] b.kids x.kids y.kids = (l, [])) (vl : zAR (rowK l) = true) : zDj side b x y = (rowK l, [], 0) := by
 unfold zDj
 rw [if_pos ⟨vb, vx, vy⟩, h, if_pos vl]
end Go.Proofs.YtgfneloodabafaaGreatDoor
namespace Go.Proofs.YtgfneloodabafaaGreatDoor
open Go.Abs
inductive Fd : Nd → List Int → Nd → Prop
 | nil (t : Nd) : Fd t [] t
 | step {k : Int} {tx : List UInt8} {c : Int} {ks : List Nd} {i : Nat} {k2 : Int} {tx2 : List UInt8} {c2 : Int} {ks2 : List Nd} {s : Nat} {z r : Nd} {p : List Int}
   (hi : ks[i]? = some (.mk k2 tx2 c2 ks2)) (hs : ks2[s]? = some z) (h : Fd z p r) : Fd (.mk k tx c ks) ((i : Int) :: (s : Int) :: p) r
theorem Fd.find {t r : Nd} {p : List Int} (h : Fd t p r) : zCQ t p = some r := by
 induction h with
 | nil t => rw [zCQ]
 | @step k tx c ks i k2 tx2 c2 ks2 s z r p hi hs _ ih =>
  have hl := (List.getElem?_eq_some_iff.1 hi).1
  have hl2 := (List.getElem?_eq_some_iff.1 hs).1
  rw [zCQ, if_pos ⟨by omega, show (i : Int) < (ks.length : Int) by omega⟩]
  simp only [Nd.kids, List.getD_eq_getElem?_getD, Int.toNat_natCast, hi, hs, Option.getD_some]
  rw [if_pos ⟨by omega, show (s : Int) < (ks2.length : Int) by omega⟩]
  exact ih
theorem Fd.of : ∀ (N : Nat) (p : List Int) (t r : Nd), p.length < N → zCQ t p = some r → Fd t p r
 | 0, p, _, _, h, _ => by omega
 | N + 1, [], t, r, _, h => by
  rw [zCQ] at h
  cases h
  exact .nil t
 | N + 1, [_], t, r, _, h => by
  rw [zCQ] at h
  cases h
 | N + 1, i :: s :: p, .mk k tx c ks, r, hN, h => by
  rw [zCQ] at h
  split at h
  ·rename_i hi
   replace hi : 0 ≤ i ∧ i < ks.length := hi
   obtain ⟨i, rfl⟩ := Int.eq_ofNat_of_zero_le hi.1
   have hx : ks[i]? = some ks[i] := List.getElem?_eq_getElem (by omega)
   generalize ks[i] = x at hx
   obtain ⟨k2, tx2, c2, ks2⟩ := x
   simp only [Nd.kids, List.getD_eq_getElem?_getD, Int.toNat_natCast, hx, Option.getD_some] at h
   split at h
   ·rename_i hs
    obtain ⟨s, rfl⟩ := Int.eq_ofNat_of_zero_le hs.1
    have hz : ks2[s]? = some ks2[s] := List.getElem?_eq_getElem (by omega)
    generalize ks2[s] = z at hz
    rw [Int.toNat_natCast, hz, Option.getD_some] at h
    exact .step hx hz (Fd.of N p z r (by simp only [List.length_cons] at hN; omega) h)
   ·cases h
  ·cases h
theorem zU0 {p : List Int} {t r : Nd} (h : zCQ t p = some r) : Fd t p r := Fd.of _ p t r (Nat.lt_succ_self _) h
theorem zIe {t r : Nd} : putL t [] r = r := by cases t; rw [putL]; intros; contradiction
theorem zCa {k : Int} {tx : List UInt8} {c : Int} {ks : List Nd} {i : Nat} {k2 : Int} {tx2 : List UInt8} {c2 : Int} {ks2 : List Nd} {s : Nat} {z r : Nd} {p : List Int} (hi : ks[i]? = some (.mk k2 tx2 c2 ks2)) (hs : ks2[s]? = some z) :
  putL (.mk k tx c ks) ((i : Int) :: (s : Int) :: p) r = .mk k tx c (ks.set i (.mk k2 tx2 c2 (ks2.set s (putL z p r)))) := by
 rw [putL, Int.toNat_natCast, hi]
 dsimp only
 rw [Int.toNat_natCast, hs]
theorem zNi : ∀ {ks : List Nd} {i : Nat} {x y : Nd}, ks[i]? = some x → Nd.ws (ks.set i y) + x.w = Nd.ws ks + y.w
 | [], i, x, y, h => by simp at h
 | v :: ks, 0, x, y, h => by
  obtain rfl : v = x := by simpa using h
  simp only [List.set_cons_zero, Nd.ws]; omega
 | v :: ks, i + 1, x, y, h => by
  have := zNi (ks := ks) (i := i) (x := x) (y := y) (by simpa using h)
  simp only [List.set_cons_succ, Nd.ws]; omega
theorem zJ9 : ∀ {ks : List Nd} {i : Nat} {x y : Nd}, ks[i]? = some x → Nd.cnts (ks.set i y) + x.cnt = Nd.cnts ks + y.cnt
 | [], i, x, y, h => by simp at h
 | v :: ks, 0, x, y, h => by
  obtain rfl : v = x := by simpa using h
  simp only [List.set_cons_zero, Nd.cnts]; omega
 | v :: ks, i + 1, x, y, h => by
  have := zJ9 (ks := ks) (i := i) (x := x) (y := y) (by simpa using h)
  simp only [List.set_cons_succ, Nd.cnts]; omega
theorem Fd.w {t z : Nd} {p : List Int} (h : Fd t p z) (r : Nd) : (putL t p r).w + z.w = t.w + r.w := by
 induction h with
 | nil t => rw [zIe]; omega
 | @step k tx c ks i k2 tx2 c2 ks2 s z r' p hi hs _ ih =>
  rw [zCa hi hs]
  have h1 := zNi (y := .mk k2 tx2 c2 (ks2.set s (putL z p r))) hi
  have h2 := zNi (y := putL z p r) hs
  simp only [Nd.w] at *
  omega
theorem Fd.cnt {t z : Nd} {p : List Int} (h : Fd t p z) (r : Nd) : (putL t p r).cnt + z.cnt = t.cnt + r.cnt := by
 induction h with
 | nil t => rw [zIe]; omega
 | @step k tx c ks i k2 tx2 c2 ks2 s z r' p hi hs _ ih =>
  rw [zCa hi hs]
  have h1 := zJ9 (y := .mk k2 tx2 c2 (ks2.set s (putL z p r))) hi
  have h2 := zJ9 (y := putL z p r) hs
  simp only [Nd.cnt] at *
  omega
theorem zE2 {α : Type} {l : List α} {i : Nat} {x y : α} (h : l[i]? = some x) : (l.set i y)[i]? = some y := by
 rw [List.getElem?_set, if_pos rfl, if_pos (List.getElem?_eq_some_iff.1 h).1]
theorem Fd.put {t z : Nd} {p : List Int} (h : Fd t p z) (r : Nd) : Fd (putL t p r) p r := by
 induction h with
 | nil t => rw [zIe]; exact .nil r
 | @step k tx c ks i k2 tx2 c2 ks2 s z r' p hi hs _ ih =>
  rw [zCa hi hs]
  exact .step (zE2 hi) (zE2 hs) ih
theorem zI7 {n : Nd} {i s : Int} {p : List Int} (h : ¬ (0 ≤ i ∧ i < n.kids.length)) : zCQ n (i :: s :: p) = none := by rw [zCQ, if_neg h]
theorem zFc {n x : Nd} {i : Nat} {s : Int} {p : List Int} (hx : n.kids[i]? = some x) (h : ¬ (0 ≤ s ∧ s < x.kids.length)) : zCQ n ((i : Int) :: s :: p) = none := by
 have hl := (List.getElem?_eq_some_iff.1 hx).1
 rw [zCQ, if_pos ⟨by omega, by omega⟩]
 simp only [List.getD_eq_getElem?_getD, Int.toNat_natCast, hx, Option.getD_some]
 rw [if_neg h]
theorem zGR {n x z : Nd} {i s : Nat} {p : List Int} (hx : n.kids[i]? = some x) (hz : x.kids[s]? = some z) : zCQ n ((i : Int) :: (s : Int) :: p) = zCQ z p := by
 have hl := (List.getElem?_eq_some_iff.1 hx).1
 have hl2 := (List.getElem?_eq_some_iff.1 hz).1
 rw [zCQ, if_pos ⟨by omega, by omega⟩]
 simp only [List.getD_eq_getElem?_getD, Int.toNat_natCast, hx, hz, Option.getD_some]
 rw [if_pos ⟨by omega, by omega⟩]
def Apart (p q : List Int) : Prop := ¬ p <+: q ∧ ¬ q <+: p
theorem Apart.symm {p q : List Int} (h : Apart p q) : Apart q p := ⟨h.2, h.1⟩
theorem Apart.tail {i s : Int} {p q : List Int} (h : Apart (i :: s :: p) (i :: s :: q)) : Apart p q :=
 ⟨fun hp => h.1 (List.cons_prefix_cons.2 ⟨rfl, List.cons_prefix_cons.2 ⟨rfl, hp⟩⟩), fun hp => h.2 (List.cons_prefix_cons.2 ⟨rfl, List.cons_prefix_cons.2 ⟨rfl, hp⟩⟩)⟩
theorem Fd.other {t z : Nd} {p : List Int} (h : Fd t p z) (r : Nd) : ∀ q, Apart p q → zCQ (putL t p r) q = zCQ t q := by
 induction h with
 | nil t => exact fun q hq => absurd (List.nil_prefix) hq.1
 | @step k tx c ks i k2 tx2 c2 ks2 s z r' p hi hs _ ih =>
  intro q hq
  rw [zCa hi hs]
  match q, hq with
  | [], hq => exact absurd (List.nil_prefix) hq.2
  | [_], hq => rw [zCQ, zCQ]
  | j :: u :: q, hq =>
   by_cases hj : 0 ≤ j ∧ j < (ks.length : Int)
   ·obtain ⟨j, rfl⟩ := Int.eq_ofNat_of_zero_le hj.1
    by_cases hji : i = j
    ·subst hji
     have hx1 : (Nd.mk k tx c (ks.set i (.mk k2 tx2 c2 (ks2.set s (putL z p r))))).kids[i]? = some (.mk k2 tx2 c2 (ks2.set s (putL z p r))) := zE2 hi
     have hx2 : (Nd.mk k tx c ks).kids[i]? = some (.mk k2 tx2 c2 ks2) := hi
     by_cases hu : 0 ≤ u ∧ u < (ks2.length : Int)
     ·obtain ⟨u, rfl⟩ := Int.eq_ofNat_of_zero_le hu.1
      by_cases hus : s = u
      ·subst hus
       rw [zGR hx1 (zE2 hs), zGR hx2 hs]
       exact ih q hq.tail
      ·obtain ⟨y, hy⟩ : ∃ y, ks2[u]? = some y := ⟨_, List.getElem?_eq_getElem (by omega)⟩
       have hy' : (ks2.set s (putL z p r))[u]? = some y := by rw [List.getElem?_set, if_neg hus, hy]
       rw [zGR hx1 hy', zGR hx2 hy]
     ·rw [zFc hx1 (fun h => hu ⟨h.1, by simpa [Nd.kids] using h.2⟩), zFc hx2 hu]
    ·obtain ⟨y, hy⟩ : ∃ y, ks[j]? = some y := ⟨_, List.getElem?_eq_getElem (by omega)⟩
     have hx1 : (Nd.mk k tx c (ks.set i (.mk k2 tx2 c2 (ks2.set s (putL z p r))))).kids[j]? = some y := by
      show (ks.set i _)[j]? = some y
      rw [List.getElem?_set, if_neg hji, hy]
     have hx2 : (Nd.mk k tx c ks).kids[j]? = some y := hy
     by_cases hu : 0 ≤ u ∧ u < (y.kids.length : Int)
     ·obtain ⟨u, rfl⟩ := Int.eq_ofNat_of_zero_le hu.1
      obtain ⟨v, hv⟩ : ∃ v, y.kids[u]? = some v := ⟨_, List.getElem?_eq_getElem (by omega)⟩
      rw [zGR hx1 hv, zGR hx2 hv]
     ·rw [zFc hx1 hu, zFc hx2 hu]
   ·rw [zI7 (fun h => hj ⟨h.1, by simpa [Nd.kids] using h.2⟩), zI7 hj]
theorem zKe : ∀ {ks : List Nd} {v : Nd}, v ∈ ks → v.dep ≤ Nd.deps ks
 | u :: ks, v, h => by
  simp only [Nd.deps]
  rcases List.mem_cons.1 h with rfl | h
  ·exact Nat.le_max_left _ _
  ·exact Nat.le_trans (zKe h) (Nat.le_max_right _ _)
theorem zN7 {k : Int} {tx : List UInt8} {c : Int} {ks : List Nd} (h : zET (.mk k tx c ks) = true) : zDS k ks = true := by
 simp only [zET, Bool.and_eq_true] at h
 exact h.2
theorem Fd.form {t z : Nd} {p : List Int} (h : Fd t p z) (hf : zET t = true) (hk : t.kind = 1) : zET z = true ∧ z.kind = 1 := by
 induction h with
 | nil t => exact ⟨hf, hk⟩
 | @step k tx c ks i k2 tx2 c2 ks2 s z r' p hi hs _ ih =>
  obtain ⟨f1, f2⟩ := zGr (zN7 hf) (List.mem_of_getElem? hi)
  obtain ⟨g1, g2⟩ := zGr (zN7 f1) (List.mem_of_getElem? hs)
  have hk : k = 1 := hk
  subst hk
  have f3 : (k2 == 1) = false := by simpa [Nd.kind] using f2
  rw [f3] at g2
  refine ih g1 ?_
  cases e : z.kind == 1 with
  | true => exact eq_of_beq e
  | false => rw [e] at g2; cases g2
theorem Fd.small {t z : Nd} {p : List Int} (h : Fd t p z) : z.cnt ≤ t.cnt ∧ z.dep ≤ t.dep ∧ z.w ≤ t.w := by
 induction h with
 | nil t => exact ⟨Nat.le_refl _, Nat.le_refl _, Nat.le_refl _⟩
 | @step k tx c ks i k2 tx2 c2 ks2 s z r' p hi hs _ ih =>
  have m1 := Nd.w_mem (List.mem_of_getElem? hi)
  have m2 := Nd.w_mem (List.mem_of_getElem? hs)
  have n1 := Nd.cnts_mem (List.mem_of_getElem? hi)
  have n2 := Nd.cnts_mem (List.mem_of_getElem? hs)
  have d1 := zKe (List.mem_of_getElem? hi)
  have d2 := zKe (List.mem_of_getElem? hs)
  simp only [Nd.w, Nd.cnt, Nd.dep] at *
  omega
end Go.Proofs.YtgfneloodabafaaGreatDoor
namespace Go.Proofs.YtgfneloodabafaaGreatDoor
open Go.Abs
def reK (v : Nd) (ks : List Nd) : Nd := .mk v.kind v.text v.cols ks
def Ch : List Int → List Nd → List Nd → Prop
 | [], _, _ => True
 | [i], a, a' => a' = a ∨ ∃ (n : Nat) (v : Nd) (ks : List Nd), i = (n : Int) ∧ a[n]? = some v ∧ ks.length = v.kids.length ∧ a' = a.set n (reK v ks)
 | i :: s :: p, a, a' => a' = a ∨ ∃ (n m : Nat) (v u u' : Nd), i = (n : Int) ∧ s = (m : Int) ∧ a[n]? = some v ∧ v.kids[m]? = some u ∧ Ch p u.kids u'.kids ∧ a' = a.set n (reK v (v.kids.set m u'))
theorem Ch.refl : ∀ (p : List Int) (a : List Nd), Ch p a a
 | [], _ => trivial
 | [_], _ => .inl rfl
 | _ :: _ :: _, _ => .inl rfl
theorem Ch.weak {i : Int} {p : List Int} {a a' : List Nd} (h : Ch (i :: p) a a') : a' = a ∨ ∃ (n : Nat) (v : Nd) (ks : List Nd), i = (n : Int) ∧ a[n]? = some v ∧ ks.length = v.kids.length ∧ a' = a.set n (reK v ks) := by
 match p, h with
 | [], h => exact h
 | s :: p, h =>
  rcases h with h | ⟨n, m, v, u, u', h1, h2, h3, h4, h5, h6⟩
  ·exact .inl h
  ·exact .inr ⟨n, v, _, h1, h3, by simp, h6⟩
theorem Ch.len {i : Int} {p : List Int} {a a' : List Nd} (h : Ch (i :: p) a a') : a'.length = a.length := by
 rcases h.weak with rfl | ⟨n, v, ks, h1, h2, h3, rfl⟩
 ·rfl
 ·simp
theorem Ch.off {i : Int} {p : List Int} {a a' : List Nd} (h : Ch (i :: p) a a') {k : Nat} (hk : (k : Int) ≠ i) : a'[k]? = a[k]? := by
 rcases h.weak with rfl | ⟨n, v, ks, h1, h2, h3, rfl⟩
 ·rfl
 ·rw [List.getElem?_set, if_neg (by omega)]
theorem Ch.on {i : Int} {p : List Int} {a a' : List Nd} (h : Ch (i :: p) a a') {k : Nat} {v : Nd} (hv : a[k]? = some v) : ∃ ks, ks.length = v.kids.length ∧ a'[k]? = some (reK v ks) := by
 rcases h.weak with rfl | ⟨n, v', ks, h1, h2, h3, rfl⟩
 ·exact ⟨v.kids, rfl, by rw [hv]; cases v; rfl⟩
 ·by_cases hk : n = k
  ·subst hk
   rw [h2] at hv
   obtain rfl := Option.some.inj hv
   exact ⟨ks, h3, zE2 h2⟩
  ·exact ⟨v.kids, rfl, by rw [List.getElem?_set, if_neg hk, hv]; cases v; rfl⟩
theorem Ch.slot_off {i s : Int} {p : List Int} {a a' : List Nd} (h : Ch (i :: s :: p) a a') {k m : Nat} {v v' : Nd} (hv : a[k]? = some v) (hv' : a'[k]? = some v') (hm : (m : Int) ≠ s) : v'.kids[m]? = v.kids[m]? := by
 rcases h with h | ⟨n, m', v1, u, u', h1, h2, h3, h4, h5, h6⟩
 ·rw [h, hv] at hv'
  rw [Option.some.inj hv']
 ·rw [h6, List.getElem?_set] at hv'
  by_cases hk : n = k
  ·subst hk
   rw [h3] at hv
   obtain rfl := Option.some.inj hv
   rw [if_pos rfl, if_pos (List.getElem?_eq_some_iff.1 h3).1] at hv'
   obtain rfl := Option.some.inj hv'
   show (v1.kids.set m' u')[m]? = _
   rw [List.getElem?_set, if_neg (by omega)]
  ·rw [if_neg hk, hv] at hv'
   rw [Option.some.inj hv']
theorem Ch.slot_on {i s : Int} {p : List Int} {a a' : List Nd} (h : Ch (i :: s :: p) a a') {k m : Nat} {v v' u : Nd} (hv : a[k]? = some v) (hv' : a'[k]? = some v') (hu : v.kids[m]? = some u) (hk : (k : Int) = i) (hm : (m : Int) = s) : ∃ u', v'.kids[m]? = some u' ∧ Ch p u.kids u'.kids := by
 rcases h with h | ⟨n, m', v1, u1, u', h1, h2, h3, h4, h5, h6⟩
 ·rw [h, hv] at hv'
  obtain rfl := Option.some.inj hv'
  exact ⟨u, hu, Ch.refl _ _⟩
 ·obtain rfl : n = k := by omega
  obtain rfl : m' = m := by omega
  rw [h3] at hv
  obtain rfl := Option.some.inj hv
  rw [h4] at hu
  obtain rfl := Option.some.inj hu
  rw [h6, zE2 h3] at hv'
  obtain rfl := Option.some.inj hv'
  exact ⟨u', zE2 h4, h5⟩
theorem Ch.trans : ∀ {p : List Int} {a b c : List Nd}, Ch p a b → Ch p b c → Ch p a c
 | [], _, _, _, _, _ => trivial
 | [i], a, b, c, h, h' => by
  rcases h with rfl | ⟨n, v, ks, h1, h2, h3, rfl⟩
  ·exact h'
  ·rcases h' with rfl | ⟨n', v', ks', g1, g2, g3, rfl⟩
   ·exact .inr ⟨n, v, ks, h1, h2, h3, rfl⟩
   ·obtain rfl : n = n' := by omega
    rw [zE2 h2] at g2
    obtain rfl := Option.some.inj g2
    exact .inr ⟨n, v, ks', h1, h2, g3.trans h3, by rw [List.set_set]; rfl⟩
 | i :: s :: p, a, b, c, h, h' => by
  rcases h with rfl | ⟨n, m, v, u, u', h1, h2, h3, h4, h5, rfl⟩
  ·exact h'
  ·rcases h' with rfl | ⟨n', m', v', w, w', g1, g2, g3, g4, g5, rfl⟩
   ·exact .inr ⟨n, m, v, u, u', h1, h2, h3, h4, h5, rfl⟩
   ·obtain rfl : n = n' := by omega
    obtain rfl : m = m' := by omega
    rw [zE2 h3] at g3
    obtain rfl := Option.some.inj g3
    replace g4 : (v.kids.set m u')[m]? = some w := g4
    rw [zE2 h4] at g4
    obtain rfl := Option.some.inj g4
    refine .inr ⟨n, m, v, u, w', h1, h2, h3, h4, Ch.trans h5 g5, ?_⟩
    rw [List.set_set]
    show a.set n (reK v ((v.kids.set m u').set m w')) = _
    rw [List.set_set]
theorem Fd.ch {t z : Nd} {q : List Int} (h : Fd t q z) (r : Nd) : ∀ p, p <+: q → Ch p t.kids (putL t q r).kids := by
 induction h with
 | nil t =>
  intro p hp
  obtain rfl := List.prefix_nil.1 hp
  trivial
 | @step k tx c ks i k2 tx2 c2 ks2 s z r' p' hi hs _ ih =>
  intro p hp
  rw [zCa hi hs]
  match p, hp with
  | [], _ => trivial
  | [j], hp =>
   obtain ⟨rfl, _⟩ := List.cons_prefix_cons.1 hp
   exact .inr ⟨i, _, ks2.set s (putL z p' r), rfl, hi, by simp [Nd.kids], rfl⟩
  | j :: j' :: p, hp =>
   obtain ⟨e1, hp1⟩ := List.cons_prefix_cons.1 hp
   obtain ⟨e2, hp2⟩ := List.cons_prefix_cons.1 hp1
   exact .inr ⟨i, s, _, z, putL z p' r, e1, e2, hi, hs, ih p hp2, rfl⟩
theorem Ch.put {t z : Nd} {q : List Int} (h : Fd t q z) (r : Nd) : ∀ (p : List Int) (t' : Nd), Apart p q → Ch p t.kids t'.kids → ∃ z', Fd t' q z' ∧ z' = z ∧ Ch p (putL t q r).kids (putL t' q r).kids := by
 induction h with
 | nil t => exact fun p t' ha _ => absurd (List.nil_prefix) ha.2
 | @step k tx c ks i k2 tx2 c2 ks2 s z r' q hi hs hz ih =>
  intro p t' ha hc
  obtain ⟨l1, l2, l3, ks'⟩ := t'
  replace hc : Ch p ks ks' := hc
  match p, ha, hc with
  | [], ha, _ => exact absurd (List.nil_prefix) ha.1
  | j :: p, ha, hc =>
   obtain ⟨kk, hkk, hi'⟩ := hc.on hi
   replace hi' : ks'[i]? = some (.mk k2 tx2 c2 kk) := hi'
   by_cases hij : (i : Int) = j
   ·subst hij
    match p, ha, hc with
    | [], ha, hc => exact absurd (List.cons_prefix_cons.2 ⟨rfl, List.nil_prefix⟩) ha.1
    | j' :: p, ha, hc =>
     by_cases hsj : (s : Int) = j'
     ·subst hsj
      obtain ⟨u', hu', hcu⟩ := hc.slot_on (k := i) (m := s) hi hi' hs rfl rfl
      replace hu' : kk[s]? = some u' := hu'
      obtain ⟨z', g1, g2, g3⟩ := ih p u' ha.tail hcu
      refine ⟨z', .step hi' hu' g1, g2, ?_⟩
      rw [zCa hi hs, zCa hi' hu']
      refine .inr ⟨i, s, _, putL z q r, putL u' q r, rfl, rfl, zE2 hi, zE2 hs, g3, ?_⟩
      rcases hc with rfl | ⟨n, m, v, u, w, h1, h2, h3, h4, h5, rfl⟩
      ·rw [hi] at hi'
       obtain ⟨_, _, _, rfl⟩ := Nd.mk.inj (Option.some.inj hi')
       show ks'.set i _ = (ks'.set i _).set i (Nd.mk k2 tx2 c2 ((ks2.set s (putL z q r)).set s (putL u' q r)))
       rw [List.set_set, List.set_set]
      ·obtain rfl : n = i := by omega
       obtain rfl : m = s := by omega
       rw [hi] at h3
       obtain rfl := Option.some.inj h3
       rw [zE2 hi] at hi'
       replace hi' : Nd.mk k2 tx2 c2 (ks2.set m w) = Nd.mk k2 tx2 c2 kk := Option.some.inj hi'
       obtain ⟨_, _, _, rfl⟩ := Nd.mk.inj hi'
       show (ks.set n _).set n _ = (ks.set n _).set n (Nd.mk k2 tx2 c2 ((ks2.set m (putL z q r)).set m (putL u' q r)))
       rw [List.set_set, List.set_set, List.set_set, List.set_set]
     ·have hs' : kk[s]? = some z := (hc.slot_off (k := i) (m := s) hi hi' hsj).trans hs
      refine ⟨_, .step hi' hs' hz, rfl, ?_⟩
      rw [zCa hi hs, zCa hi' hs']
      rcases hc with rfl | ⟨n, m, v, u, w, h1, h2, h3, h4, h5, rfl⟩
      ·rw [hi] at hi'
       obtain ⟨_, _, _, rfl⟩ := Nd.mk.inj (Option.some.inj hi')
       exact Ch.refl _ _
      ·obtain rfl : n = i := by omega
       rw [hi] at h3
       obtain rfl := Option.some.inj h3
       replace h4 : ks2[m]? = some u := h4
       rw [zE2 hi] at hi'
       replace hi' : Nd.mk k2 tx2 c2 (ks2.set m w) = Nd.mk k2 tx2 c2 kk := Option.some.inj hi'
       obtain ⟨_, _, _, rfl⟩ := Nd.mk.inj hi'
       have hne : s ≠ m := by omega
       refine .inr ⟨n, m, _, u, w, rfl, h2, zE2 hi, ?_, h5, ?_⟩
       ·show (ks2.set s (putL z q r))[m]? = some u
        rw [List.getElem?_set, if_neg hne, h4]
       ·show (ks.set n _).set n _ = (ks.set n _).set n (Nd.mk k2 tx2 c2 ((ks2.set s (putL z q r)).set m w))
        rw [List.set_set, List.set_set, List.set_comm _ _ hne]
   ·rw [hc.off hij, hi] at hi'
    obtain ⟨_, _, _, rfl⟩ := Nd.mk.inj (Option.some.inj hi')
    have hi2 : ks'[i]? = some (.mk k2 tx2 c2 ks2) := by rw [hc.off hij, hi]
    refine ⟨_, .step hi2 hs hz, rfl, ?_⟩
    rw [zCa hi hs, zCa hi2 hs]
    show Ch (j :: p) (ks.set i _) (ks'.set i _)
    match p, ha, hc with
    | [], ha, hc =>
     rcases hc with rfl | ⟨n, v, ks3, h1, h2, h3, rfl⟩
     ·exact Ch.refl _ _
     ·have hne : i ≠ n := by omega
      exact .inr ⟨n, v, ks3, h1, by rw [List.getElem?_set, if_neg hne, h2], h3, by rw [List.set_comm _ _ hne]⟩
    | j' :: p, ha, hc =>
     rcases hc with rfl | ⟨n, m, v, u, w, h1, h2, h3, h4, h5, rfl⟩
     ·exact Ch.refl _ _
     ·have hne : i ≠ n := by omega
      exact .inr ⟨n, m, v, u, w, h1, h2, by rw [List.getElem?_set, if_neg hne, h3], h4, h5, by rw [List.set_comm _ _ hne]⟩
theorem zUX (x : Nd) (xs ys : List Nd) : DL (x :: xs) (x :: ys) = DL xs ys := by
 have h0 := zTN (alike_refl x) xs ys
 rw [zLu _ x (Nat.le_refl _)] at h0
 have h1 := zUz x ys ys
 have h2 := zUA x xs xs
 rw [zIo] at h1 h2
 have t1 := zTP xs (x :: ys) ys
 have t2 := zTP xs (x :: xs) ys
 rcases zTO x x xs ys with ⟨_, h⟩ | h | h
 ·rw [h, zLu _ x (Nat.le_refl _)]; omega
 ·omega
 ·omega
theorem zTM (a b : List Nd) : Nd.cnts b ≤ Nd.cnts a + DL a b := zTK (zKZ a b) fun x _ y _ h => zSM _ x y (Nat.le_refl _) h
theorem zT0 {v w : Nd} (h : zA5 v w = true) (t : List Nd) : DL (v :: t) (w :: t) = D v w := by
 have h0 := zTN h t t
 rw [zIo] at h0
 have h1 := zTM t (w :: t)
 have h2 := zTM t (v :: t)
 rw [zT1 t (v :: t)] at h2
 have h3 := D_le v w
 simp only [Nd.cnts] at h1 h2
 rcases zTO v w t t with ⟨_, h⟩ | h | h
 ·rw [h, zIo]; omega
 ·omega
 ·omega
theorem zNN : ∀ (k i j : Nat) (b : List Nd) (n : Nat) (v w : Nd), b.length < k → b[n]? = some v → zA5 v w = true → zBE k i j b (b.set n w) = (List.range b.length).map fun s => (i + s, j + s)
 | 0, i, j, b, n, v, w, h, _, _ => by omega
 | k + 1, i, j, [], n, v, w, h, hn, _ => by simp at hn
 | k + 1, i, j, x :: xs, 0, v, w, h, hn, ha => by
  obtain rfl : x = v := Option.some.inj hn
  rw [List.set_cons_zero]
  unfold zBE
  have e : (zA5 x w && (DL (x :: xs) (w :: xs) == DL xs xs + D x w)) = true := by
   rw [ha, zT0 ha, zIo, Nat.zero_add, beq_self_eq_true]; rfl
  rw [e, cond_true, zFY k (i + 1) (j + 1) xs (by simpa using h), List.length_cons, List.range_succ_eq_map, List.map_cons, List.map_map]
  congr 1
  refine List.map_congr_left fun s _ => ?_
  simp only [Function.comp_apply, Prod.mk.injEq]
  omega
 | k + 1, i, j, x :: xs, n + 1, v, w, h, hn, ha => by
  rw [List.set_cons_succ]
  unfold zBE
  have e : (zA5 x x && (DL (x :: xs) (x :: xs.set n w) == DL xs (xs.set n w) + D x x)) = true := by
   rw [alike_refl, zUX, zLu _ x (Nat.le_refl _), Nat.add_zero, beq_self_eq_true]; rfl
  rw [e, cond_true, zNN k (i + 1) (j + 1) xs n v w (by simpa using h) hn ha, List.length_cons, List.range_succ_eq_map, List.map_cons, List.map_map]
  congr 1
  refine List.map_congr_left fun s _ => ?_
  simp only [Function.comp_apply, Prod.mk.injEq]
  omega
theorem zSa (v : Nd) {ks : List Nd} (h : ks.length = v.kids.length) : zA5 v (reK v ks) = true := zCP.2 ⟨rfl, h.symm, rfl⟩
theorem zUn {n k : Nat} (h : k < n) : parK ((List.range n).map fun s => (0 + s, 0 + s)) k = some k := by
 unfold parK
 have hf : (((List.range n).map fun s => (0 + s, 0 + s)).find? fun u => u.1 == k) = some (k, k) := by
  rw [List.find?_eq_some_iff_append]
  refine ⟨by simp, (List.range k).map (fun s => (0 + s, 0 + s)), (List.range' (k + 1) (n - (k + 1))).map (fun s => (0 + s, 0 + s)), ?_, ?_⟩
  ·have : List.range n = List.range k ++ k :: List.range' (k + 1) (n - (k + 1)) := by
    rw [List.range_eq_range', List.range_eq_range', ← List.range'_succ (s := k) (n := n - (k + 1)) (step := 1)]
    have := List.range'_append_1 (s := 0) (m := k) (n := n - (k + 1) + 1)
    rw [Nat.zero_add] at this
    rw [this]
    congr 1
    omega
   rw [this, List.map_append, List.map_cons]
   simp
  ·intro a ha
   obtain ⟨s, hs, rfl⟩ := List.mem_map.1 ha
   have := List.mem_range.1 hs
   simp
   omega
 rw [hf]; rfl
theorem Ch.pairs {i : Int} {p : List Int} {a a' : List Nd} (h : Ch (i :: p) a a') {k : Nat} (hk : k < a.length) : parK (zCu a a') k = some k := by
 have : zCu a a' = (List.range a.length).map fun s => (0 + s, 0 + s) := by
  unfold zCu
  rcases h.weak with rfl | ⟨n, v, ks, h1, h2, h3, rfl⟩
  ·exact zFY _ 0 0 _ (by omega)
  ·exact zNN _ 0 0 a n v _ (by omega) h2 (zSa v h3)
 rw [this]
 exact zUn hk
theorem zMz (l : List Nd) (n : Nat) : cutK l n n = [] := by
 unfold cutK
 rw [List.drop_eq_nil_iff, List.length_take]
 omega
theorem zOI (side : Int) (path : List Int) (i : Nat) : zEn side path i [] [] [] = ([], []) := by unfold zEn; rw [if_pos rfl]
theorem zSF {F : RowF} {side : Int} {path : List Int} {b x y w : List Nd} {px py : List (Nat × Nat)} (hx : x.length = b.length) (hy : y.length = b.length) (hw : w.length = b.length) (hpx : ∀ k, k < b.length → parK px k = some k) (hpy : ∀ k, k < b.length → parK py k = some k)
  (hi : ∀ n v v1 v2 v3, b[n]? = some v → x[n]? = some v1 → y[n]? = some v2 → w[n]? = some v3 → zEm F side path n v v1 v2 = ([v3], [])) : ∀ (k n : Nat), b.length - n < k → n ≤ b.length → zEw F side path b x y n n n (zGH b.length px py n) = (w.drop n, [])
 | 0, n, h, _ => by omega
 | k + 1, n, h, hn => by
  by_cases hlt : n < b.length
  ·obtain ⟨v, g1⟩ : ∃ v, b[n]? = some v := ⟨_, List.getElem?_eq_getElem hlt⟩
   obtain ⟨v1, g2⟩ : ∃ v, x[n]? = some v := ⟨_, List.getElem?_eq_getElem (by omega)⟩
   obtain ⟨v2, g3⟩ : ∃ v, y[n]? = some v := ⟨_, List.getElem?_eq_getElem (by omega)⟩
   obtain ⟨v3, g4⟩ : ∃ v, w[n]? = some v := ⟨_, List.getElem?_eq_getElem (by omega)⟩
   have ih := zSF (F := F) (side := side) (path := path) hx hy hw hpx hpy hi k (n + 1) (by omega) (by omega)
   have hg : gK px py n = some (n, n, n) := by unfold gK; rw [hpx n hlt, hpy n hlt]; rfl
   rw [zOT hlt, hg]
   simp only [Option.toList_some, List.cons_append, List.nil_append, zEw, appK]
   rw [zMz, zMz, zMz, zOI, zDt g1, zDt g2, zDt g3, hi n v v1 v2 v3 g1 g2 g3 g4, ih, zFf g4]
   rfl
  ·obtain rfl : n = b.length := by omega
   have e : zGH b.length px py b.length = [] := by unfold zGH; rw [Nat.sub_self]; rfl
   rw [e]
   unfold zEw
   rw [List.drop_length, List.drop_of_length_le (by omega), List.drop_of_length_le (by omega), List.drop_of_length_le (by omega), zOI]
theorem zQt {F : RowF} {path : List Int} {i : Nat} : ∀ (s : Nat) (b x y w : List Nd), x.length = b.length → y.length = b.length → w.length = b.length →
  (∀ (r : Nat) (u u1 u2 u3 : Nd) (p : List Int), b[r]? = some u → x[r]? = some u1 → y[r]? = some u2 → w[r]? = some u3 → F p u.kids u1.kids u2.kids = (u3.kids, []) ∧ u3 = rowK u3.kids) → zBH F path i s b x y = (w, [])
 | s, [], [], [], [], _, _, _, _ => rfl
 | s, [], _ :: _, _, _, h, _, _, _ => by cases h
 | s, [], [], _ :: _, _, _, h, _, _ => by cases h
 | s, [], [], [], _ :: _, _, _, h, _ => by cases h
 | s, _ :: _, [], _, _, h, _, _, _ => by cases h
 | s, _ :: _, _ :: _, [], _, _, h, _, _ => by cases h
 | s, _ :: _, _ :: _, _ :: _, [], _, _, h, _ => by cases h
 | s, b :: bs, x :: xs, y :: ys, w :: ws, hx, hy, hw, h => by
  obtain ⟨e1, e2⟩ := h 0 b x y w (path ++ [(i : Int), (s : Int)]) rfl rfl rfl rfl
  have ih := zQt (F := F) (path := path) (i := i) (s + 1) bs xs ys ws (by simpa using hx) (by simpa using hy) (by simpa using hw) fun r u u1 u2 u3 p h1 h2 h3 h4 => h (r + 1) u u1 u2 u3 p h1 h2 h3 h4
  unfold zBH
  simp only [e1, ih, List.append_nil]
  rw [← e2]
theorem zUd {F : RowF} {side : Int} {path : List Int} {n : Nat} {v : Nd} {k1 k2 k3 : List Nd} (hs : zBH F path n 0 v.kids k1 k2 = (k3, [])) : zEm F side path n v (reK v k1) (reK v k2) = ([reK v k3], []) := by
 unfold zEm
 have e1 : (reK v k1).text = v.text := rfl
 have e2 : (reK v k2).text = v.text := rfl
 have e3 : (reK v k1).kids = k1 := rfl
 have e4 : (reK v k2).kids = k2 := rfl
 rw [if_pos e1, e2, e3, e4, hs]
 rfl
theorem zOU {side : Int} (hs : side = 0 ∨ side = 1 ∨ side = 2) : ∀ (N : Nat) (pa pb path : List Int) (b x y w : List Nd), Apart pa pb → Nd.cnts b < N → okR b → okR x → okR y → okR w → Ch pa b x → Ch pb b y → Ch pb x w → Ch pa y w → rowM N side path b x y = (w, [])
 | 0, _, _, _, _, _, _, _, _, h, _, _, _, _, _, _, _, _ => by omega
 | N + 1, pa, pb, path, b, x, y, w, ha, hN, ob, ox, oy, ow, h1, h2, h3, h4 => by
  match pa, pb, ha, h1, h2, h3, h4 with
  | [], pb, ha, _, _, _, _ => exact absurd (List.nil_prefix) ha.1
  | _ :: _, [], ha, _, _, _, _ => exact absurd (List.nil_prefix) ha.2
  | i :: pa, j :: pb, ha, h1, h2, h3, h4 =>
   unfold rowM
   rw [zEx]
   refine zSF (w := w) h1.len h2.len (h3.len.trans h1.len) (fun k hk => h1.pairs hk) (fun k hk => h2.pairs hk) (fun n v v1 v2 v3 g1 g2 g3 g4 => ?_) (b.length + 1) 0 (by omega) (Nat.zero_le _)
   obtain ⟨k1, l1, e1⟩ := h1.on g1
   obtain ⟨k2, l2, e2⟩ := h2.on g1
   obtain ⟨k3, l3, e3⟩ := h3.on e1
   rw [g2] at e1
   rw [g3] at e2
   rw [g4] at e3
   obtain rfl := Option.some.inj e1
   obtain rfl := Option.some.inj e2
   obtain rfl := Option.some.inj e3
   replace l3 : k3.length = k1.length := l3
   have e4 : reK (reK v k1) k3 = reK v k3 := rfl
   rw [e4] at g4 ⊢
   refine zUd (zQt 0 v.kids k1 k2 k3 l1 l2 (l3.trans l1) fun r u u1 u2 u3 p f1 f2 f3 f4 => ?_)
   have m0 := List.mem_of_getElem? g1
   have mu := List.mem_of_getElem? f1
   have c1 := Nd.cnts_mem m0
   have c2 := Nd.cnts_mem mu
   have c3 := v.cnt_kids
   have c4 := u.cnt_kids
   obtain ⟨o0, r0⟩ := ob.sub m0 mu
   obtain ⟨o1, r1⟩ := ox.sub (List.mem_of_getElem? g2) (List.mem_of_getElem? (show (reK v k1).kids[r]? = some u1 from f2))
   obtain ⟨o2, r2⟩ := oy.sub (List.mem_of_getElem? g3) (List.mem_of_getElem? (show (reK v k2).kids[r]? = some u2 from f3))
   obtain ⟨o3, r3⟩ := ow.sub (List.mem_of_getElem? g4) (List.mem_of_getElem? (show (reK v k3).kids[r]? = some u3 from f4))
   refine ⟨?_, r3⟩
   have right : u2 = u → u3 = u1 → rowM N side p u.kids u1.kids u2.kids = (u3.kids, []) := fun q1 q2 => by subst q1; subst q2; exact zKM side N p _ _ (by omega) o3
   have left : u1 = u → u3 = u2 → rowM N side p u.kids u1.kids u2.kids = (u3.kids, []) := fun q1 q2 => by subst q1; subst q2; exact zTv hs N p _ _ (by omega) o3
   have same : ∀ {kk kk' : List Nd} {q : Nat} {y1 y2 : Nd}, some (reK v kk) = some (reK v kk') → kk[q]? = some y1 → kk'[q]? = some y2 → y1 = y2 := fun e a1 a2 => by
    have := (Nd.mk.inj (Option.some.inj e)).2.2.2
    rw [this] at a1
    rw [a1] at a2
    exact Option.some.inj a2
   have gv : b[n]? = some (reK v v.kids) := by rw [g1]; cases v; rfl
   by_cases hi : (n : Int) = i
   ·subst hi
    by_cases hj : (n : Int) = j
    ·subst hj
     match pa, pb, ha, h1, h2, h3, h4 with
     | [], _, ha, _, _, _, _ => exact absurd (List.cons_prefix_cons.2 ⟨rfl, List.nil_prefix⟩) ha.1
     | _ :: _, [], ha, _, _, _, _ => exact absurd (List.cons_prefix_cons.2 ⟨rfl, List.nil_prefix⟩) ha.2
     | s :: pa, t :: pb, ha, h1, h2, h3, h4 =>
      by_cases hr : (r : Int) = s
      ·subst hr
       by_cases ht : (r : Int) = t
       ·subst ht
        obtain ⟨w1, d1, ch1⟩ := h1.slot_on (k := n) (m := r) g1 g2 f1 rfl rfl
        obtain ⟨w2, d2, ch2⟩ := h2.slot_on (k := n) (m := r) g1 g3 f1 rfl rfl
        obtain ⟨w3, d3, ch3⟩ := h3.slot_on (k := n) (m := r) g2 g4 (show (reK v k1).kids[r]? = some u1 from f2) rfl rfl
        obtain ⟨w4, d4, ch4⟩ := h4.slot_on (k := n) (m := r) g3 g4 (show (reK v k2).kids[r]? = some u2 from f3) rfl rfl
        replace d1 : k1[r]? = some w1 := d1
        replace d2 : k2[r]? = some w2 := d2
        replace d3 : k3[r]? = some w3 := d3
        replace d4 : k3[r]? = some w4 := d4
        rw [f2] at d1
        rw [f3] at d2
        rw [f4] at d3 d4
        obtain rfl := Option.some.inj d1
        obtain rfl := Option.some.inj d2
        obtain rfl := Option.some.inj d3
        obtain rfl := Option.some.inj d4
        exact zOU hs N pa pb p u.kids u1.kids u2.kids u3.kids ha.tail (by omega) o0 o1 o2 o3 ch1 ch2 ch3 ch4
       ·have d2 := h2.slot_off (k := n) (m := r) g1 g3 ht
        have d3 := h3.slot_off (k := n) (m := r) g2 g4 ht
        replace d2 : k2[r]? = v.kids[r]? := d2
        replace d3 : k3[r]? = k1[r]? := d3
        rw [f3, f1] at d2
        rw [f4, f2] at d3
        exact right (Option.some.inj d2) (Option.some.inj d3)
      ·have d1 := h1.slot_off (k := n) (m := r) g1 g2 hr
       have d4 := h4.slot_off (k := n) (m := r) g3 g4 hr
       replace d1 : k1[r]? = v.kids[r]? := d1
       replace d4 : k3[r]? = k2[r]? := d4
       rw [f2, f1] at d1
       rw [f4, f3] at d4
       exact left (Option.some.inj d1) (Option.some.inj d4)
    ·have d2 := h2.off hj
     have d3 := h3.off hj
     rw [g3, gv] at d2
     rw [g4, g2] at d3
     exact right (same d2 f3 f1) (same d3 f4 f2)
   ·have d1 := h1.off hi
    have d4 := h4.off hi
    rw [g2, gv] at d1
    rw [g4, g3] at d4
    exact left (same d1 f2 f1) (same d4 f4 f3)
end Go.Proofs.YtgfneloodabafaaGreatDoor
namespace Go.Proofs.YtgfneloodabafaaGreatDoor
open Go.Abs
theorem zPp {α : Type} {l : List α} {i : Nat} {x : α} (h : l[i]? = some x) : at? l (i : Int) = some x := by
 have hl := (List.getElem?_eq_some_iff.1 h).1
 rw [zBi hl, ← List.getElem?_eq_getElem hl, h]
theorem zGF {k : Int} {tx : List UInt8} {c : Int} {ks : List Nd} {i : Nat} {x y : Nd} (hi : ks[i]? = some y) (hl : ks.length ≤ 4294967296) : zBC (.mk k tx c ks) (i : Int) x = some (.mk k tx c (ks.set i x)) := by
 obtain ⟨x1, x2, x3, x4⟩ := x
 obtain ⟨y1, y2, y3, y4⟩ := y
 unfold zBC
 dsimp only
 rw [zB6 (by simpa using hl), zPp hi]
 simp only [Option.bind_some, Int.toNat_natCast]
end Go.Proofs.YtgfneloodabafaaGreatDoor
namespace Go.Proofs.YtgfneloodabafaaGreatDoor
open Go.Abs
abbrev Op8 := Int × List Int × Int × Int × List Nd × Int × List UInt8 × List UInt8
def Op8.nodes (o : Op8) : List Nd := o.2.2.2.2.1
end Go.Proofs.YtgfneloodabafaaGreatDoor
namespace Go.Proofs.YtgfneloodabafaaGreatDoor
open Go.Abs
theorem take3 {α : Type} (l : List α) {p q : Nat} (h : p ≤ q) : (l.take p ++ (l.take q).drop p) ++ l.drop q = l := by
 have : l.take p = (l.take q).take p := by rw [List.take_take, Nat.min_eq_left h]
 rw [this, List.take_append_drop, List.take_append_drop]
theorem zO7 (l by' : List Nd) {p q : Nat} (h : p ≤ q) : Nd.ws ((l.take p ++ by') ++ l.drop q) + Nd.ws ((l.take q).drop p) = Nd.ws l + Nd.ws by' := by
 have := congrArg Nd.ws (take3 l h)
 rw [Nd.ws_append, Nd.ws_append] at this ⊢
 omega
theorem zSw (l by' : List Nd) (p q : Nat) (hp : p ≤ l.length) (hq : q ≤ l.length) (hl : l.length ≤ 1073741824) (hb : by'.length ≤ 1073741824) :
  zBT l (p : Int) (q : Int) by' = some ((l.take p ++ by') ++ l.drop q) := by
 unfold zBT
 dsimp only
 have e1 : (l.take (p : Int).toNat).drop (0 : Int).toNat = l.take p := by simp
 have e2 : (l.take (l.length : Int).toNat).drop (q : Int).toNat = l.drop q := by simp
 rw [e1, e2, zB6 ⟨by omega, by omega, by omega⟩, zB6 (by simp; omega), zB6 (by simp; omega), zB6 ⟨by omega, by omega, by omega⟩, zB6 (by simp; omega)]
theorem zPk (t : Nd) (i : Nat) (v : Nd) (h : i < t.kids.length) (hl : t.kids.length ≤ 1073741824) : zBC t (i : Int) v = some (.mk t.kind t.text t.cols (t.kids.set i v)) := by
 obtain ⟨a, b, c, d⟩ := t
 obtain ⟨a', b', c', d'⟩ := v
 simp only [Nd.kids] at h hl
 unfold zBC
 simp only
 rw [zB6 (by simp; omega), zBi h]
 rcases e : d[i] with ⟨x1, x2, x3, x4⟩
 simp only [Option.bind_some, Int.toNat_natCast, Nd.kind, Nd.text, Nd.cols, Nd.kids]
theorem zN6 (t : Nd) (i : Nat) (l : List Nd) (h : i < t.kids.length) (hl : t.kids.length ≤ 1073741824) (hl2 : l.length ≤ 1073741824) : zCX t (i : Int) l = some (.mk t.kind t.text t.cols (t.kids.set i (.mk 1 [] 0 l))) := by
 have := zPk t i (.mk 1 [] 0 l) h hl
 obtain ⟨a, b, c, d⟩ := t
 unfold zCX
 simp only [zCz, Option.bind_some]
 rw [zB6 (by simp; omega), this]
 rfl
theorem zUF {α : Type} {l : List α} {i : Int} (h0 : 0 ≤ i) (h1 : i < (l.length : Int)) : ∃ p : Nat, i = (p : Int) ∧ ∃ h : p < l.length, at? l i = some l[p] := by
 obtain ⟨p, rfl⟩ := Int.eq_ofNat_of_zero_le h0
 exact ⟨p, rfl, by omega, zBi (by omega)⟩
theorem zGO (t : Nd) : t.w = t.text.length + Nd.ws t.kids + 1 := by cases t; rfl
end Go.Proofs.YtgfneloodabafaaGreatDoor
namespace Go.Proofs.YtgfneloodabafaaGreatDoor
open Go.Abs
theorem zUT (l : List Nd) {p q : Nat} (h : p ≤ q) : Nd.ws ((l.take q).drop p) ≤ Nd.ws l := by
 have := zO7 l [] h
 simp only [Nd.ws] at this; omega
theorem zSu (l : List Nd) {p : Nat} (h : p < l.length) : (l.take (p + 1)).drop p = [l[p]] := by
 rw [List.take_succ_eq_append_getElem h, List.drop_append_of_le_length (by simp; omega), List.drop_take]
 simp
end Go.Proofs.YtgfneloodabafaaGreatDoor
namespace Go.Proofs.YtgfneloodabafaaGreatDoor
open Go.Abs
def splS (l : List Nd) (p q : Nat) (b : List Nd) : List Nd := (l.take p ++ b) ++ l.drop q
def segS (l : List Nd) (p q : Nat) : List Nd := (l.take q).drop p
def rowN (l : List Nd) : Nd := .mk 1 [] 0 l
def zMD (v : Nd) (s : Nat) (l : List Nd) : Nd := .mk v.kind v.text v.cols (v.kids.set s (rowN l))
def zRK (k : Int) : Bool := (k == 2) || ((k == 3) || ((k == 4) || ((k == 10) || (k == 11))))
def zEj (k m : Int) (nodes : List Nd) : Int := if k = 1 then 0 else if k = 2 then nodes.length else if k = 3 then m else 1
def zTQ (nodes : List Nd) (slot : Int) : Prop := ∃ (v : Nd) (s : Nat) (z : Nd), nodes = [v] ∧ slot = (s : Int) ∧ zAR (rowN [v]) = true ∧ v.kids[s]? = some z ∧ z.kids = []
def zJJ : Op8 → Prop
 | (k, _, _, m, nodes, slot, old, text) =>
  ((k = 1 ∨ k = 2) ∧ nodes ≠ [] ∧ zAR (rowN nodes) = true ∧ m = 0 ∧ slot = 0 ∧ old = [] ∧ text = []) ∨
  ((k = 3 ∨ k = 4) ∧ 0 ≤ m ∧ zTQ nodes slot ∧ old = [] ∧ text = []) ∨
  (k = 5 ∧ old ≠ text ∧ nodes = [] ∧ m = 0 ∧ slot = 0)
inductive Chg (l : List Nd) : Op8 → List Nd → Int → Prop
 | range {k : Int} {row : List Int} {a m : Int} {nodes : List Nd} {slot : Int} {old text : List UInt8} (h : a < 0 ∨ (l.length : Int) < a ∨ (l.length : Int) - a < zEj k m nodes) : Chg l (k, row, a, m, nodes, slot, old, text) [] 2
 | ins {row : List Int} {p : Nat} {m : Int} {nodes : List Nd} {slot : Int} {old text : List UInt8} (h : p ≤ l.length) : Chg l (1, row, (p : Int), m, nodes, slot, old, text) (splS l p p nodes) 0
 | del {row : List Int} {p : Nat} {m : Int} {nodes : List Nd} {slot : Int} {old text : List UInt8} (h : p + nodes.length ≤ l.length) (he : segS l p (p + nodes.length) = nodes) : Chg l (2, row, (p : Int), m, nodes, slot, old, text) (splS l p (p + nodes.length) []) 0
 | del_no {row : List Int} {p : Nat} {m : Int} {nodes : List Nd} {slot : Int} {old text : List UInt8} (h : p + nodes.length ≤ l.length) (he : segS l p (p + nodes.length) ≠ nodes) : Chg l (2, row, (p : Int), m, nodes, slot, old, text) [] 7
 | wrap {row : List Int} {p m : Nat} {v : Nd} {s : Nat} {old text : List UInt8} (h : p + m ≤ l.length) : Chg l (3, row, (p : Int), (m : Int), [v], (s : Int), old, text) (splS l p (p + m) [zMD v s (segS l p (p + m))]) 0
 | unwrap {row : List Int} {p : Nat} {m : Int} {v it z : Nd} {s : Nat} {old text : List UInt8} (h : l[p]? = some it) (hz : it.kids[s]? = some z) (hm : (z.kids.length : Int) = m) (he : it = zMD v s z.kids) : Chg l (4, row, (p : Int), m, [v], (s : Int), old, text) (splS l p (p + 1) z.kids) 0
 | unwrap_no {row : List Int} {p : Nat} {m : Int} {v it : Nd} {s : Nat} {old text : List UInt8} (h : l[p]? = some it) (hz : ∀ z, it.kids[s]? = some z → (z.kids.length : Int) = m → it ≠ zMD v s z.kids) : Chg l (4, row, (p : Int), m, [v], (s : Int), old, text) [] 7
 | set {row : List Int} {p : Nat} {m : Int} {nodes : List Nd} {it : Nd} {slot : Int} {old text : List UInt8} (h : l[p]? = some it) (hl : zRK it.kind = true) (he : it.text = old) : Chg l (5, row, (p : Int), m, nodes, slot, old, text) (splS l p (p + 1) [.mk it.kind text it.cols it.kids]) 0
 | set_no {row : List Int} {p : Nat} {m : Int} {nodes : List Nd} {it : Nd} {slot : Int} {old text : List UInt8} (h : l[p]? = some it) (hl : ¬ (zRK it.kind = true ∧ it.text = old)) : Chg l (5, row, (p : Int), m, nodes, slot, old, text) [] 7
inductive App (t : Nd) : Op8 → Nd → Int → Prop
 | arg {o : Op8} (h : zAR t = false) : App t o zFn 1
 | form {o : Op8} (h : zAR t = true) (hf : ¬ zJJ o) : App t o zFn 4
 | none {o : Op8} (h : zAR t = true) (hf : zJJ o) (hn : zCQ t o.2.1 = Option.none) : App t o zFn 8
 | chg {o : Op8} {r : Nd} {l : List Nd} {e : Int} (h : zAR t = true) (hf : zJJ o) (hr : Fd t o.2.1 r) (hc : Chg r.kids o l e) (he : e ≠ 0) : App t o zFn e
 | limit {o : Op8} {r : Nd} {l : List Nd} (h : zAR t = true) (hf : zJJ o) (hr : Fd t o.2.1 r) (hc : Chg r.kids o l 0) (hv : zAR (putL t o.2.1 (rowN l)) = false) : App t o zFn 6
 | ok {o : Op8} {r : Nd} {l : List Nd} (h : zAR t = true) (hf : zJJ o) (hr : Fd t o.2.1 r) (hc : Chg r.kids o l 0) (hv : zAR (putL t o.2.1 (rowN l)) = true) : App t o (putL t o.2.1 (rowN l)) 0
theorem Chg.w {l l' : List Nd} {k : Int} {row : List Int} {a m : Int} {nodes : List Nd} {slot : Int} {old text : List UInt8} {e : Int} (h : Chg l (k, row, a, m, nodes, slot, old, text) l' e) : Nd.ws l' ≤ Nd.ws l + Nd.ws nodes + text.length + 3 ∧ l'.length ≤ l.length + Nd.ws nodes + Nd.ws l + 1 := by
 have key : ∀ p q b, p ≤ q → Nd.ws (splS l p q b) + Nd.ws (segS l p q) = Nd.ws l + Nd.ws b := fun p q b h => zO7 l b h
 have hlen : ∀ l' : List Nd, l'.length ≤ Nd.ws l' := Nd.ws_len
 have h1 : Nd.ws l' ≤ Nd.ws l + Nd.ws nodes + text.length + 3 := by
  cases h with
  | range => simp only [Nd.ws]; omega
  | @ins _ p _ _ _ _ _ h => have := key p p nodes (Nat.le_refl _); omega
  | @del _ p _ _ _ _ _ h he => have := key p (p + nodes.length) [] (Nat.le_add_right _ _); simp only [Nd.ws] at this; omega
  | del_no => simp only [Nd.ws]; omega
  | @wrap _ p m v s _ _ h =>
   have := key p (p + m) [zMD v s (segS l p (p + m))] (Nat.le_add_right _ _)
   have hf : (zMD v s (segS l p (p + m))).w ≤ v.w + Nd.ws (segS l p (p + m)) + 1 := by
    rw [zGO v]
    simp only [zMD, rowN, Nd.w]
    by_cases hs : s < v.kids.length
    ·have := zNi (ks := v.kids) (i := s) (y := .mk 1 [] 0 (segS l p (p + m))) (List.getElem?_eq_getElem hs)
     simp only [Nd.w, List.length_nil] at this
     omega
    ·rw [List.set_eq_of_length_le (by omega)]; omega
   simp only [Nd.ws] at this ⊢
   omega
  | @unwrap _ p _ v it z s _ _ h hz hm he =>
   have := key p (p + 1) z.kids (Nat.le_add_right _ _)
   have hsg : segS l p (p + 1) = [it] := by
    have := zSu l (List.getElem?_eq_some_iff.1 h).1
    rw [segS, this, (List.getElem?_eq_some_iff.1 h).2]
   have w1 := Nd.w_mem (List.mem_of_getElem? hz)
   have w2 := zGO z
   have w3 := zGO it
   rw [hsg] at this
   simp only [Nd.ws] at this
   omega
  | unwrap_no => simp only [Nd.ws]; omega
  | @set _ p _ _ it _ _ _ h hl he =>
   have := key p (p + 1) [.mk it.kind text it.cols it.kids] (Nat.le_add_right _ _)
   have hsg : segS l p (p + 1) = [it] := by
    have := zSu l (List.getElem?_eq_some_iff.1 h).1
    rw [segS, this, (List.getElem?_eq_some_iff.1 h).2]
   have w3 := zGO it
   rw [hsg] at this
   simp only [Nd.ws, Nd.w] at this
   omega
  | set_no => simp only [Nd.ws]; omega
 refine ⟨h1, ?_⟩
 cases h with
 | range => simp
 | @ins _ p _ _ _ _ _ h => have := hlen nodes; simp only [splS, List.length_append, List.length_take, List.length_drop]; omega
 | @del _ p _ _ _ _ _ h he => simp only [splS, List.length_append, List.length_take, List.length_drop, List.length_nil]; omega
 | del_no => simp
 | @wrap _ p m v s _ _ h => simp only [splS, List.length_append, List.length_take, List.length_drop, List.length_cons, List.length_nil]; omega
 | @unwrap _ p _ v it z s _ _ h hz hm he =>
  have w1 := Nd.w_mem (List.mem_of_getElem? hz)
  have w4 := Nd.w_mem (List.mem_of_getElem? h)
  have w2 := zGO z
  have w3 := zGO it
  have := hlen z.kids
  simp only [splS, List.length_append, List.length_take, List.length_drop]; omega
 | unwrap_no => simp
 | @set _ p _ _ it _ _ _ h hl he => simp only [splS, List.length_append, List.length_take, List.length_drop, List.length_cons, List.length_nil]; omega
 | set_no => simp
theorem zIm (n : Nat) (nodes : List Nd) (h : Nd.ws nodes + 50 < n) (hb : Nd.ws nodes ≤ 67000000) : zB9 n nodes = some (zAR (rowN nodes)) := by
 unfold zB9
 simp only [zCz, Option.bind_some]
 rw [zFl n _ (by simp only [Nd.w, List.length_nil]; omega) (by simp only [Nd.w, List.length_nil]; omega)]; rfl
theorem zKI (n : Nat) (l : List Nd) (slot : Int) (h : Nd.ws l + 50 < n) (hb : Nd.ws l ≤ 67000000) : ∃ b, zDo n l slot = some b ∧ (b = true ↔ zTQ l slot) := by
 unfold zDo
 dsimp only
 cases e1 : ((l.length : Int) == 1) with
 | false => exact ⟨false, rfl, (fun h => by cases h), fun ⟨v, s, z, h, _⟩ => by rw [h] at e1; cases e1⟩
 | true =>
  have hl : l.length = 1 := by have := eq_of_beq e1; omega
  obtain ⟨v, rfl⟩ := List.length_eq_one_iff.1 hl
  have hv := zIm n [v] h hb
  obtain ⟨a, b, c, d⟩ := v
  have h0 : at? [Nd.mk a b c d] (0 : Int) = some (Nd.mk a b c d) := rfl
  simp only [cond_true, hv, Option.bind_some, h0]
  cases hvb : zAR (rowN [.mk a b c d]) with
  | false => exact ⟨false, rfl, (fun h => by cases h), fun ⟨v, s, z, h, _, h2, _⟩ => by cases h; rw [hvb] at h2; cases h2⟩
  | true =>
   by_cases h1 : 0 ≤ slot
   ·by_cases h2 : slot < (d.length : Int)
    ·obtain ⟨p, rfl, hp, hg⟩ := zUF h1 h2
     simp only [cond_true, zA8 h1, zA8 h2, hg, Option.bind_some]
     have hz : d[p]? = some d[p] := List.getElem?_eq_getElem hp
     generalize d[p] = z at hz
     obtain ⟨x1, x2, x3, x4⟩ := z
     refine ⟨_, rfl, fun h => ⟨_, p, _, rfl, rfl, hvb, hz, ?_⟩, fun ⟨v, s, z, h, hs, _, hz', hk⟩ => ?_⟩
     ·have := eq_of_beq h
      exact List.eq_nil_of_length_eq_zero (by simp only [Nd.kids]; omega)
     ·cases h
      obtain rfl : p = s := by omega
      simp only [Nd.kids] at hz'
      rw [hz] at hz'
      cases hz'
      simp only [Nd.kids] at hk
      subst hk
      rfl
    ·simp only [cond_true, zA8 h1, zA7 h2]
     refine ⟨false, rfl, (fun h => by cases h), fun ⟨v, s, z, h, hs, _, hz, _⟩ => ?_⟩
     cases h
     have := (List.getElem?_eq_some_iff.1 hz).1
     simp only [Nd.kids] at this
     omega
   ·simp only [cond_true, zA7 h1]
    refine ⟨false, rfl, (fun h => by cases h), fun ⟨v, s, z, h, hs, _⟩ => ?_⟩
    omega
theorem zM8 (n : Nat) (k : Int) (row : List Int) (at' m : Int) (nodes : List Nd) (slot : Int) (old text : List UInt8) (h : Nd.ws nodes + 50 < n) (hb : Nd.ws nodes ≤ 67000000) :
  ∃ b, zEg n (k, row, at', m, nodes, slot, old, text) = some b ∧ (b = true ↔ zJJ (k, row, at', m, nodes, slot, old, text)) := by
 have hv := zIm n nodes h hb
 obtain ⟨tb, t1, t2⟩ := zKI n nodes slot h hb
 have hlen : decide (0 < (nodes.length : Int)) = true ↔ nodes ≠ [] := by cases nodes <;> simp
 have hlen0 : ((nodes.length : Int) == 0) = true ↔ nodes = [] := by cases nodes <;> simp <;> omega
 unfold zEg
 simp only [hv, t1, Option.bind_some, zJJ]
 by_cases k12 : k = 1 ∨ k = 2
 ·have e : (bif (k == 1) then some (k == 1) else some (k == 2) : Option Bool) = some true := by rcases k12 with rfl | rfl <;> rfl
  have hk : ¬ (k = 3 ∨ k = 4) ∧ ¬ k = 5 := by omega
  rw [e]
  simp only [Option.bind_some, cond_true, k12, hk.1, hk.2, true_and, false_and, or_false]
  rw [← hlen]
  generalize decide (0 < (nodes.length : Int)) = b1
  generalize zAR (rowN nodes) = b2
  cases b1 <;> cases b2 <;> simp only [cond_true, cond_false, Option.bind_some] <;> try exact ⟨false, rfl, by simp⟩
  cases e1 : m == 0 <;> simp only [cond_true, cond_false, Option.bind_some]
  ·exact ⟨false, rfl, by simp [beq_eq_false_iff_ne.1 e1]⟩
  cases e2 : slot == 0 <;> simp only [cond_true, cond_false, Option.bind_some]
  ·exact ⟨false, rfl, by simp [beq_eq_false_iff_ne.1 e2]⟩
  cases e3 : old == [] <;> simp only [cond_true, cond_false, Option.bind_some]
  ·exact ⟨false, rfl, by simp [beq_eq_false_iff_ne.1 e3]⟩
  refine ⟨_, rfl, ?_⟩
  rw [eq_of_beq e1, eq_of_beq e2, eq_of_beq e3]
  simp
 ·have e : (bif (k == 1) then some (k == 1) else some (k == 2) : Option Bool) = some false := by
   rw [zDN (fun h => k12 (.inl h)), zDN (fun h => k12 (.inr h))]; rfl
  rw [e]
  simp only [Option.bind_some, cond_false, k12, false_and, false_or]
  by_cases k34 : k = 3 ∨ k = 4
  ·have e : (bif (k == 3) then some (k == 3) else some (k == 4) : Option Bool) = some true := by rcases k34 with rfl | rfl <;> rfl
   have hk : ¬ k = 5 := by omega
   rw [e]
   simp only [Option.bind_some, cond_true, k34, hk, true_and, false_and, or_false]
   rw [← t2]
   by_cases hm : 0 ≤ m
   ·rw [zA8 hm]
    cases tb <;> simp only [cond_true, cond_false, Option.bind_some]
    ·exact ⟨false, rfl, by simp⟩
    cases e3 : old == [] <;> simp only [cond_true, cond_false, Option.bind_some]
    ·exact ⟨false, rfl, by simp [beq_eq_false_iff_ne.1 e3]⟩
    refine ⟨_, rfl, ?_⟩
    rw [eq_of_beq e3]
    simp [hm]
   ·rw [zA7 hm]
    exact ⟨false, rfl, by simp [hm]⟩
  ·have e : (bif (k == 3) then some (k == 3) else some (k == 4) : Option Bool) = some false := by
    rw [zDN (fun h => k34 (.inl h)), zDN (fun h => k34 (.inr h))]; rfl
   rw [e]
   simp only [Option.bind_some, cond_false, k34, false_and, false_or]
   by_cases k5 : k = 5
   ·subst k5
    simp only [beq_self_eq_true, cond_true, Option.bind_some, true_and]
    rw [← hlen0]
    generalize ((nodes.length : Int) == 0) = b1
    cases e0 : old == text <;> simp only [Bool.not_true, Bool.not_false, cond_true, cond_false, Option.bind_some]
    ·have := beq_eq_false_iff_ne.1 e0
     cases b1 <;> simp only [cond_true, cond_false, Option.bind_some]
     ·exact ⟨false, rfl, by simp⟩
     cases e1 : m == 0 <;> simp only [cond_true, cond_false, Option.bind_some]
     ·exact ⟨false, rfl, by simp [beq_eq_false_iff_ne.1 e1]⟩
     refine ⟨_, rfl, ?_⟩
     rw [eq_of_beq e1]
     simp [this]
    ·exact ⟨false, rfl, by simp [eq_of_beq e0]⟩
   ·rw [zDN k5]
    exact ⟨false, rfl, by simp [k5]⟩
theorem zS7 (k : Int) : (bif (k == 2) then some (k == 2) else bif (k == 3) then some (k == 3) else bif (k == 4) then some (k == 4) else bif (k == 10) then some (k == 10) else some (k == 11) : Option Bool) = some (zRK k) := by
 unfold zRK
 cases e1 : k == 2 <;> cases e2 : k == 3 <;> cases e3 : k == 4 <;> cases e4 : k == 10 <;> rfl
theorem zTc (k m : Int) (nodes : List Nd) : (bif (k == 1) then some 0 else bif (k == 2) then some (nodes.length : Int) else bif (k == 3) then some m else some 1 : Option Int) = some (zEj k m nodes) := by
 unfold zEj
 by_cases k1 : k = 1
 ·subst k1; rfl
 by_cases k2 : k = 2
 ·subst k2; rfl
 by_cases k3 : k = 3
 ·subst k3; rfl
 rw [zDN k1, zDN k2, zDN k3, if_neg k1, if_neg k2, if_neg k3]; rfl
theorem zRS {k : Int} {row : List Int} {a m : Int} {nodes : List Nd} {slot : Int} {old text : List UInt8} (hf : zJJ (k, row, a, m, nodes, slot, old, text)) : 0 ≤ zEj k m nodes := by
 unfold zEj
 rcases hf with ⟨rfl | rfl, _⟩ | ⟨rfl | rfl, hm, _⟩ | ⟨rfl, _⟩ <;> simp <;> omega
theorem zM9 (n : Nat) (l : List Nd) (k : Int) (row : List Int) (a m : Int) (nodes : List Nd) (slot : Int) (old text : List UInt8) (hf : zJJ (k, row, a, m, nodes, slot, old, text)) (hn : 2 * Nd.ws l + 2 * Nd.ws nodes + 50 < n) (ha : Nd.ws l ≤ 60000000) (hb : Nd.ws nodes ≤ 2000000) :
  ∃ l' e, zEh n l (k, row, a, m, nodes, slot, old, text) = some (l', e) ∧ Chg l (k, row, a, m, nodes, slot, old, text) l' e := by
 have la := Nd.ws_len l
 have lb := Nd.ws_len nodes
 have cl := Nd.cnts_ws l
 have cb := Nd.cnts_ws nodes
 have hnn := zRS hf
 unfold zEh
 dsimp only
 rw [zTc]
 simp only [Option.bind_some]
 by_cases h1 : a < 0
 ·rw [zA8 h1]; exact ⟨[], 2, rfl, .range (.inl h1)⟩
 rw [zA7 h1]
 by_cases h2 : (l.length : Int) < a
 ·rw [zA8 h2]; exact ⟨[], 2, rfl, .range (.inr (.inl h2))⟩
 rw [zA7 h2, wrap64_in (n := (l.length : Int) - a) (by omega) (by omega)]
 by_cases h3 : (l.length : Int) - a < zEj k m nodes
 ·rw [zA8 h3]; exact ⟨[], 2, rfl, .range (.inr (.inr h3))⟩
 rw [zA7 h3]
 simp only [cond_false, Option.bind_some]
 obtain ⟨p, rfl⟩ := Int.eq_ofNat_of_zero_le (show 0 ≤ a by omega)
 obtain ⟨y, hy⟩ := Int.eq_ofNat_of_zero_le hnn
 rw [hy] at h3 ⊢
 rw [wrap64_in (n := (p : Int) + (y : Int)) (by omega) (by omega), ← Int.natCast_add]
 have hseg := zUT l (Nat.le_add_right p y)
 have lseg := Nd.ws_len ((l.take (p + y)).drop p)
 have cseg := Nd.cnts_ws ((l.take (p + y)).drop p)
 have hsp : ∀ by' : List Nd, by'.length ≤ 1073741824 → zBT l (p : Int) ((p + y : Nat) : Int) by' = some (splS l p (p + y) by') := fun by' hby => zSw l by' p (p + y) (by omega) (by omega) (by omega) hby
 rcases hf with ⟨rfl | rfl, h0⟩ | ⟨rfl | rfl, hm, ⟨v, s, z, rfl, rfl, hvv, hz, hzk⟩, _⟩ | ⟨rfl, h0⟩
 ·obtain rfl : y = 0 := by have : zEj 1 m nodes = 0 := rfl; omega
  simp only [beq_self_eq_true, cond_true, Nat.add_zero] at hsp ⊢
  rw [hsp nodes (by omega)]
  exact ⟨_, 0, rfl, .ins (by omega)⟩
 ·obtain rfl : y = nodes.length := by have : zEj 2 m nodes = (nodes.length : Int) := rfl; omega
  simp only [show ((2 : Int) == 1) = false from rfl, cond_false, beq_self_eq_true, cond_true, Int.toNat_natCast]
  rw [zB6 ⟨by omega, by omega, by omega⟩]
  obtain ⟨r, g1, g2⟩ := (zJx n).2 ((l.take (p + nodes.length)).drop p) nodes (by omega) (by omega)
  rw [g1]
  simp only [Option.bind_some]
  cases r with
  | false => exact ⟨[], 7, rfl, .del_no (by omega) fun e => by have := g2.2 e; cases this⟩
  | true =>
   simp only [Bool.not_true, cond_false, hsp [] (by simp), Option.bind_some]
   exact ⟨_, 0, rfl, .del (by omega) (g2.1 rfl)⟩
 ·obtain rfl : m = (y : Int) := hy
  have hs := (List.getElem?_eq_some_iff.1 hz).1
  have hfe := zN6 v s ((l.take (p + y)).drop p) hs (by have := Nd.ws_len v.kids; have := zGO v; simp only [Nd.ws] at lb hb; omega) (by omega)
  have hv0 : at? [v] (0 : Int) = some v := rfl
  obtain ⟨v1, v2, v3, v4⟩ := v
  simp only [show ((3 : Int) == 1) = false from rfl, show ((3 : Int) == 2) = false from rfl, cond_false, beq_self_eq_true, cond_true, Int.toNat_natCast, hv0, Option.bind_some]
  rw [zB6 ⟨by omega, by omega, by omega⟩, hfe]
  simp only [Option.bind_some]
  rw [hsp _ (by simp)]
  exact ⟨_, 0, rfl, .wrap (by omega)⟩
 ·obtain rfl : y = 1 := by have : zEj 4 m [v] = 1 := rfl; omega
  have hs := (List.getElem?_eq_some_iff.1 hz).1
  have hv0 : at? [v] (0 : Int) = some v := rfl
  have hpl : p < l.length := by omega
  have hit : l[p]? = some l[p] := List.getElem?_eq_getElem hpl
  have hia : at? l (p : Int) = some l[p] := zBi hpl
  generalize l[p] = it at hit hia
  have hiw := Nd.w_mem (List.mem_of_getElem? hit)
  have hic := Nd.cnt_w it
  have hlk := Nd.ws_len v.kids
  have hwv := zGO v
  simp only [Nd.ws] at hb hn
  have hfe : ∀ l' : List Nd, l'.length ≤ 1073741824 → zCX v (s : Int) l' = some (zMD v s l') := fun l' hl' => zN6 v s l' hs (by omega) hl'
  have heq : ∀ x : Nd, ∃ r, zBo n it x = some r ∧ (r = true ↔ it = x) := fun x => (zJx n).1 it x (by omega) (by omega)
  obtain ⟨i1, i2, i3, i4⟩ := it
  have hwi : (Nd.mk i1 i2 i3 i4).w = i2.length + Nd.ws i4 + 1 := rfl
  have hlk4 := Nd.ws_len i4
  obtain ⟨v1, v2, v3, v4⟩ := v
  simp only [show ((4 : Int) == 1) = false from rfl, show ((4 : Int) == 2) = false from rfl, show ((4 : Int) == 3) = false from rfl, cond_false, beq_self_eq_true, cond_true, hia, Option.bind_some, hv0]
  by_cases hsl : (i4.length : Int) ≤ (s : Int)
  ·rw [zA8 hsl]
   refine ⟨[], 7, rfl, .unwrap_no hit fun z' hz' => ?_⟩
   have := (List.getElem?_eq_some_iff.1 hz').1
   simp only [Nd.kids] at this
   omega
  rw [zA7 hsl]
  have hsi : s < i4.length := by omega
  have hzi : i4[s]? = some i4[s] := List.getElem?_eq_getElem hsi
  have hza : at? i4 (s : Int) = some i4[s] := zBi hsi
  generalize i4[s] = z' at hzi hza
  have hzw := Nd.w_mem (List.mem_of_getElem? hzi)
  have hzw2 := zGO z'
  have hzl := Nd.ws_len z'.kids
  have hfe' := hfe z'.kids (by omega)
  obtain ⟨rb, g1, g2⟩ := heq (zMD (.mk v1 v2 v3 v4) s z'.kids)
  have hsp' := hsp z'.kids (by omega)
  obtain ⟨z1, z2, z3, z4⟩ := z'
  simp only [Nd.kids] at hfe' hsp' g1 g2
  simp only [cond_false, hza, Option.bind_some]
  by_cases hmz : (z4.length : Int) = m
  ·have : ((z4.length : Int) != m) = false := by unfold bne; rw [beq_iff_eq.2 hmz]; rfl
   rw [this]
   simp only [cond_false, hfe', Option.bind_some]
   have hfx : zMD (.mk v1 v2 v3 v4) s z4 = .mk v1 v2 v3 (v4.set s (rowN z4)) := rfl
   rw [hfx] at g1 g2 ⊢
   simp only [Option.bind_some, g1]
   cases rb with
   | false =>
    refine ⟨[], 7, rfl, .unwrap_no hit fun z'' hz'' hm'' he => ?_⟩
    simp only [Nd.kids] at hz''
    rw [hzi] at hz''
    cases hz''
    have := g2.2 he
    cases this
   | true =>
    simp only [Bool.not_true, cond_false, hsp', Option.bind_some]
    exact ⟨_, 0, rfl, .unwrap (z := .mk z1 z2 z3 z4) hit hzi hmz (g2.1 rfl)⟩
  ·have : ((z4.length : Int) != m) = true := bne_iff_ne.2 hmz
   rw [this]
   refine ⟨[], 7, rfl, .unwrap_no hit fun z'' hz'' hm'' he => ?_⟩
   simp only [Nd.kids] at hz''
   rw [hzi] at hz''
   cases hz''
   exact hmz hm''
 ·obtain rfl : y = 1 := by have : zEj 5 m nodes = 1 := rfl; omega
  have hpl : p < l.length := by omega
  have hit : l[p]? = some l[p] := List.getElem?_eq_getElem hpl
  have hia : at? l (p : Int) = some l[p] := zBi hpl
  generalize l[p] = it at hit hia
  obtain ⟨i1, i2, i3, i4⟩ := it
  simp only [show ((5 : Int) == 1) = false from rfl, show ((5 : Int) == 2) = false from rfl, show ((5 : Int) == 3) = false from rfl, show ((5 : Int) == 4) = false from rfl, cond_false, hia, Option.bind_some, zS7]
  cases hlf : zRK i1 with
  | false => exact ⟨[], 7, rfl, .set_no hit fun h => by have := h.1; simp only [Nd.kind] at this; rw [hlf] at this; cases this⟩
  | true =>
   simp only [cond_true]
   cases ht : i2 == old with
   | false => exact ⟨[], 7, rfl, .set_no hit fun h => beq_eq_false_iff_ne.1 ht h.2⟩
   | true =>
    simp only [cond_true, hsp [Nd.mk i1 text i3 i4] (by simp), Option.bind_some]
    exact ⟨_, 0, rfl, .set (it := .mk i1 i2 i3 i4) hit hlf (eq_of_beq ht)⟩
theorem zQ9 {t z : Nd} {p : List Int} (h : Fd t p z) (l : List Nd) : ∀ n, p.length < n → t.cnt ≤ 4294967296 → zEi n t p l = some (putL t p (rowN l)) := by
 induction h with
 | nil t =>
  intro n hn _
  obtain ⟨n, rfl⟩ : ∃ m, n = m + 1 := ⟨n - 1, by omega⟩
  rw [zIe]
  obtain ⟨t1, t2, t3, t4⟩ := t
  unfold zEi
  rfl
 | @step k tx c ks i k2 tx2 c2 ks2 s z r' p hi hs _ ih =>
  intro n hn hc
  obtain ⟨n, rfl⟩ : ∃ m, n = m + 1 := ⟨n - 1, by omega⟩
  have n1 := Nd.cnts_mem (List.mem_of_getElem? hi)
  have n2 := Nd.cnts_mem (List.mem_of_getElem? hs)
  have l1 := Nd.cnts_len ks
  have l2 := Nd.cnts_len ks2
  simp only [Nd.cnt] at hc n1
  have ih := ih n (by simp only [List.length_cons] at hn; omega) (by omega)
  rw [zCa hi hs]
  have e1 : ((((i : Int) :: (s : Int) :: p).length : Int) == 0) = false := zDN (by simp only [List.length_cons]; omega)
  have e2 : at? ((i : Int) :: (s : Int) :: p) (0 : Int) = some (i : Int) := rfl
  have e3 : at? ((i : Int) :: (s : Int) :: p) (1 : Int) = some (s : Int) := rfl
  have e4 : (((((i : Int) :: (s : Int) :: p)).take ((((i : Int) :: (s : Int) :: p)).length : Int).toNat).drop (2 : Int).toNat) = p := by
   rw [Int.toNat_natCast, List.take_length]; rfl
  obtain ⟨z1, z2, z3, z4⟩ := z
  unfold zEi
  simp only [e1, e2, e3, cond_false, Option.bind_some, zPp hi, zPp hs, e4]
  rw [zB6 ⟨by omega, by simp only [List.length_cons]; omega, by omega⟩, ih]
  generalize putL (Nd.mk z1 z2 z3 z4) p (rowN l) = Z
  obtain ⟨q1, q2, q3, q4⟩ := Z
  simp only [Option.bind_some]
  rw [zGF hs (by omega)]
  simp only [Option.bind_some]
  rw [zGF hi (by omega)]
  rfl
theorem zOQ (n : Nat) (t : Nd) (o : Op8) (hn : 200000000 < n) (ht : t.w ≤ 50000000) (hb : Nd.ws o.nodes ≤ 2000000) (hx : o.2.2.2.2.2.2.2.length ≤ 2000000) (hr : o.2.1.length ≤ 2000000) : ∃ t' e, zEX n t o = some (t', e) ∧ App t o t' e := by
 obtain ⟨k, row, a, m, nodes, slot, old, text⟩ := o
 simp only [Op8.nodes] at hb
 dsimp only at hx hr
 have v1 := zFl n t (by omega) (by omega)
 obtain ⟨b, f1, f2⟩ := zM8 n k row a m nodes slot old text (by omega) (by omega)
 have e1 := zQ7 n t row (by omega) v1
 have hput : ∀ r l, Fd t row r → zEi n t row l = some (putL t row (rowN l)) := fun r l h => zQ9 h l n (by omega) (by have := Nd.cnt_w t; omega)
 have hval : ∀ r l, Fd t row r → Nd.ws l ≤ 5000000 + r.w → zB4 n (putL t row (rowN l)) = some (zAR (putL t row (rowN l))) := fun r l h hl => by
  have := h.w (rowN l)
  have e : (rowN l).w = Nd.ws l + 1 := by simp [rowN, Nd.w]
  exact zFl n _ (by omega) (by omega)
 obtain ⟨t1, t2, t3, t4⟩ := t
 unfold zEX
 simp only [v1, f1, e1, Option.bind_some]
 cases hv : zAR (.mk t1 t2 t3 t4) with
 | false => exact ⟨_, 1, rfl, .arg hv⟩
 | true =>
  simp only [Bool.not_true, cond_false]
  cases b with
  | false => exact ⟨_, 4, rfl, .form hv fun h => by have := f2.2 h; cases this⟩
  | true =>
   have hf := f2.1 rfl
   simp only [Bool.not_true, cond_false, rowS, if_pos hv]
   cases hfd : zCQ (.mk t1 t2 t3 t4) row with
   | none => exact ⟨_, 8, rfl, .none hv hf hfd⟩
   | some r =>
    have hr' := zU0 hfd
    have hsm := hr'.small
    have hwr := zGO r
    obtain ⟨l', e, c1, c2⟩ := zM9 n r.kids k row a m nodes slot old text hf (by omega) (by omega) (by omega)
    obtain ⟨r1, r2, r3, r4⟩ := r
    simp only [Nd.kids] at c1 c2 hwr
    simp only [Option.bind_some, show ((0 : Int) != 0) = false from rfl, cond_false, c1]
    by_cases he : e = 0
    ·subst he
     have hcw := c2.w
     have hv2 := hval _ l' hr' (by omega)
     simp only [show ((0 : Int) != 0) = false from rfl, cond_false, hput _ l' hr', Option.bind_some]
     cases hvo : zAR (putL (.mk t1 t2 t3 t4) row (rowN l')) with
     | false =>
      have hL := App.limit (t := .mk t1 t2 t3 t4) (o := (k, row, a, m, nodes, slot, old, text)) hv hf hr' c2 hvo
      generalize putL (Nd.mk t1 t2 t3 t4) row (rowN l') = Z at *
      obtain ⟨q1, q2, q3, q4⟩ := Z
      simp only [Option.bind_some, hv2, hvo, Bool.not_false, cond_true]
      exact ⟨_, 6, rfl, hL⟩
     | true =>
      have hO := App.ok (t := .mk t1 t2 t3 t4) (o := (k, row, a, m, nodes, slot, old, text)) hv hf hr' c2 hvo
      dsimp only at hO
      generalize putL (Nd.mk t1 t2 t3 t4) row (rowN l') = Z at *
      obtain ⟨q1, q2, q3, q4⟩ := Z
      simp only [Option.bind_some, hv2, hvo, Bool.not_true, cond_false]
      exact ⟨_, 0, rfl, hO⟩
    ·have : (e != 0) = true := bne_iff_ne.2 he
     simp only [this, cond_true]
     exact ⟨_, e, rfl, .chg (t := .mk t1 t2 t3 t4) (o := (k, row, a, m, nodes, slot, old, text)) hv hf hr' c2 he⟩
end Go.Proofs.YtgfneloodabafaaGreatDoor
namespace Go.Proofs.YtgfneloodabafaaGreatDoor
open Go.Abs
theorem Chg.det {l l1 l2 : List Nd} {o : Op8} {e1 e2 : Int} (hf : zJJ o) (h1 : Chg l o l1 e1) (h2 : Chg l o l2 e2) : l1 = l2 ∧ e1 = e2 := by
 obtain ⟨k, row, a, m, nodes, slot, old, text⟩ := o
 have hnn := zRS hf
 cases h1 with
 | range h =>
  cases h2 with
  | range => exact ⟨rfl, rfl⟩
  | ins h' => simp only [zEj, if_true] at h; omega
  | del h' => simp only [zEj] at h; simp at h; omega
  | del_no h' => simp only [zEj] at h; simp at h; omega
  | wrap h' => simp only [zEj] at h; simp at h; omega
  | unwrap h' => have := (List.getElem?_eq_some_iff.1 h').1; simp only [zEj] at h; simp at h; omega
  | unwrap_no h' => exact ⟨rfl, by have := (List.getElem?_eq_some_iff.1 h').1; simp only [zEj] at h; simp at h; omega⟩
  | set h' => have := (List.getElem?_eq_some_iff.1 h').1; simp only [zEj] at h; simp at h; omega
  | set_no h' => exact ⟨rfl, by have := (List.getElem?_eq_some_iff.1 h').1; simp only [zEj] at h; simp at h; omega⟩
 | ins h' =>
  generalize ha : ((_ : Nat) : Int) = a' at h2
  cases h2 with
  | range h => simp only [zEj, if_true] at h; omega
  | ins h => obtain rfl := Int.ofNat.inj ha; exact ⟨rfl, rfl⟩
 | del h' he =>
  generalize ha : ((_ : Nat) : Int) = a' at h2
  cases h2 with
  | range h => simp only [zEj] at h; simp at h; omega
  | del h => obtain rfl := Int.ofNat.inj ha; exact ⟨rfl, rfl⟩
  | del_no h he' => obtain rfl := Int.ofNat.inj ha; exact absurd he he'
 | del_no h' he =>
  generalize ha : ((_ : Nat) : Int) = a' at h2
  cases h2 with
  | range h => simp only [zEj] at h; simp at h; omega
  | del h he' => obtain rfl := Int.ofNat.inj ha; exact absurd he' he
  | del_no h he' => exact ⟨rfl, rfl⟩
 | wrap h' =>
  generalize ha : ((_ : Nat) : Int) = a' at h2
  generalize hm : ((_ : Nat) : Int) = m' at h2
  generalize hs : ((_ : Nat) : Int) = s' at h2
  cases h2 with
  | range h => simp only [zEj] at h; simp at h; omega
  | wrap h => obtain rfl := Int.ofNat.inj ha; obtain rfl := Int.ofNat.inj hm; obtain rfl := Int.ofNat.inj hs; exact ⟨rfl, rfl⟩
 | unwrap h' hz hm he =>
  generalize ha : ((_ : Nat) : Int) = a' at h2
  generalize hs : ((_ : Nat) : Int) = s' at h2
  cases h2 with
  | range h => have := (List.getElem?_eq_some_iff.1 h').1; simp only [zEj] at h; simp at h; omega
  | unwrap h hz2 =>
   obtain rfl := Int.ofNat.inj ha; obtain rfl := Int.ofNat.inj hs
   rw [h'] at h; cases h
   rw [hz] at hz2; cases hz2
   exact ⟨rfl, rfl⟩
  | unwrap_no h hz2 =>
   obtain rfl := Int.ofNat.inj ha; obtain rfl := Int.ofNat.inj hs
   rw [h'] at h; cases h
   exact absurd he (hz2 _ hz hm)
 | unwrap_no h' hz =>
  generalize ha : ((_ : Nat) : Int) = a' at h2
  generalize hs : ((_ : Nat) : Int) = s' at h2
  cases h2 with
  | range h => exact ⟨rfl, by have := (List.getElem?_eq_some_iff.1 h').1; simp only [zEj] at h; simp at h; omega⟩
  | unwrap h hz2 hm he =>
   obtain rfl := Int.ofNat.inj ha; obtain rfl := Int.ofNat.inj hs
   rw [h'] at h; cases h
   exact absurd he (hz _ hz2 hm)
  | unwrap_no h hz2 => exact ⟨rfl, rfl⟩
 | set h' hl he =>
  generalize ha : ((_ : Nat) : Int) = a' at h2
  cases h2 with
  | range h => have := (List.getElem?_eq_some_iff.1 h').1; simp only [zEj] at h; simp at h; omega
  | set h => obtain rfl := Int.ofNat.inj ha; rw [h'] at h; cases h; exact ⟨rfl, rfl⟩
  | set_no h hl2 => obtain rfl := Int.ofNat.inj ha; rw [h'] at h; cases h; exact absurd ⟨hl, he⟩ hl2
 | set_no h' hl =>
  generalize ha : ((_ : Nat) : Int) = a' at h2
  cases h2 with
  | range h => exact ⟨rfl, by have := (List.getElem?_eq_some_iff.1 h').1; simp only [zEj] at h; simp at h; omega⟩
  | set h hl2 he => obtain rfl := Int.ofNat.inj ha; rw [h'] at h; cases h; exact absurd ⟨hl2, he⟩ hl
  | set_no h hl2 => exact ⟨rfl, rfl⟩
theorem Fd.det {t r1 r2 : Nd} {p : List Int} (h1 : Fd t p r1) (h2 : Fd t p r2) : r1 = r2 := Option.some.inj (h1.find.symm.trans h2.find)
theorem App.det {t t1 t2 : Nd} {o : Op8} {e1 e2 : Int} (h1 : App t o t1 e1) (h2 : App t o t2 e2) : t1 = t2 ∧ e1 = e2 := by
 have tf : ∀ {b : Bool}, b = true → b = false → False := fun h h' => by rw [h] at h'; cases h'
 have fn : ∀ {r : Nd} {p : List Int}, Fd t p r → zCQ t p = Option.none → False := fun h h' => by rw [h.find] at h'; cases h'
 cases h1 with
 | arg h => cases h2 with
  | arg h' => exact ⟨rfl, rfl⟩
  | form h' => exact (tf h' h).elim
  | none h' => exact (tf h' h).elim
  | chg h' => exact (tf h' h).elim
  | limit h' => exact (tf h' h).elim
  | ok h' => exact (tf h' h).elim
 | form h hf => cases h2 with
  | arg h' => exact (tf h h').elim
  | form h' => exact ⟨rfl, rfl⟩
  | none h' hf' => exact absurd hf' hf
  | chg h' hf' => exact absurd hf' hf
  | limit h' hf' => exact absurd hf' hf
  | ok h' hf' => exact absurd hf' hf
 | none h hf hn => cases h2 with
  | arg h' => exact (tf h h').elim
  | form h' hf' => exact absurd hf hf'
  | none => exact ⟨rfl, rfl⟩
  | chg h' hf' hr => exact (fn hr hn).elim
  | limit h' hf' hr => exact (fn hr hn).elim
  | ok h' hf' hr => exact (fn hr hn).elim
 | chg h hf hr hc he => cases h2 with
  | arg h' => exact (tf h h').elim
  | form h' hf' => exact absurd hf hf'
  | none h' hf' hn => exact (fn hr hn).elim
  | chg h' hf' hr' hc' he' => obtain rfl := hr.det hr'; exact ⟨rfl, (hc.det hf hc').2⟩
  | limit h' hf' hr' hc' => obtain rfl := hr.det hr'; exact absurd (hc.det hf hc').2 he
  | ok h' hf' hr' hc' => obtain rfl := hr.det hr'; exact absurd (hc.det hf hc').2 he
 | limit h hf hr hc hv => cases h2 with
  | arg h' => exact (tf h h').elim
  | form h' hf' => exact absurd hf hf'
  | none h' hf' hn => exact (fn hr hn).elim
  | chg h' hf' hr' hc' he' => obtain rfl := hr.det hr'; exact absurd (hc'.det hf hc).2 he'
  | limit h' hf' hr' hc' => exact ⟨rfl, rfl⟩
  | ok h' hf' hr' hc' hv' => obtain rfl := hr.det hr'; obtain rfl := (hc.det hf hc').1; exact (tf hv' hv).elim
 | ok h hf hr hc hv => cases h2 with
  | arg h' => exact (tf h h').elim
  | form h' hf' => exact absurd hf hf'
  | none h' hf' hn => exact (fn hr hn).elim
  | chg h' hf' hr' hc' he' => obtain rfl := hr.det hr'; exact absurd (hc'.det hf hc).2 he'
  | limit h' hf' hr' hc' hv' => obtain rfl := hr.det hr'; obtain rfl := (hc.det hf hc').1; exact (tf hv hv').elim
  | ok h' hf' hr' hc' hv' => obtain rfl := hr.det hr'; obtain rfl := (hc.det hf hc').1; exact ⟨rfl, rfl⟩
end Go.Proofs.YtgfneloodabafaaGreatDoor
namespace Go.Proofs.YtgfneloodabafaaGreatDoor
open Go.Abs
theorem App.w {t t' : Nd} {o : Op8} {e : Int} (h : App t o t' e) : t'.w ≤ t.w + Nd.ws o.nodes + o.2.2.2.2.2.2.2.length + 4 := by
 have hz : zFn.w = 1 := rfl
 obtain ⟨k, row, a, m, nodes, slot, old, text⟩ := o
 simp only [Op8.nodes]
 cases h with
 | arg => omega
 | form => omega
 | none => omega
 | chg => omega
 | limit => omega
 | @ok r l h hf hr hc hv =>
  have h1 := hr.w (rowN l)
  have h2 := hc.w
  have h3 := zGO r
  have h4 : (rowN l).w = Nd.ws l + 1 := by simp [rowN, Nd.w]
  dsimp only at h1 ⊢
  omega
end Go.Proofs.YtgfneloodabafaaGreatDoor
namespace Go.Proofs.YtgfneloodabafaaGreatDoor
open Go.Abs
def Op8.row (o : Op8) : List Int := o.2.1
def Op8.text (o : Op8) : List UInt8 := o.2.2.2.2.2.2.2
def FewO (o : Op8) : Prop := Nd.cnts o.nodes ≤ 99 ∧ o.row.length ≤ 60
theorem zQ8 (n : Nat) (o : Op8) (h : 310 < n) : ∃ y, zGv n o = some y ∧ (y = true → FewO o) := by
 obtain ⟨k, row, a, m, nodes, slot, old, text⟩ := o
 obtain ⟨y, h1, h2⟩ := zNl n (.mk 1 [] 0 nodes) 100 (by omega) (by omega)
 rw [show ((100 : Nat) : Int) = 100 from rfl] at h1
 unfold zGv
 simp only [zCz, Option.bind_some, h1]
 cases y with
 | false => exact ⟨false, rfl, fun h => by cases h⟩
 | true =>
  refine ⟨_, rfl, fun h => ⟨?_, ?_⟩⟩
  ·have := h2 rfl
   simp only [Nd.cnt] at this
   show Nd.cnts nodes ≤ 99
   omega
  ·have := of_decide_eq_true h
   show row.length ≤ 60
   omega
inductive Runs : Nd → List Op8 → Nd → Int → Prop
 | nil (t : Nd) : Runs t [] t 0
 | stop {t t' : Nd} {o : Op8} {ops : List Op8} {e : Int} (h : App t o t' e) (he : e ≠ 0) : Runs t (o :: ops) zFn e
 | next {t t' u : Nd} {o : Op8} {ops : List Op8} {e : Int} (h : App t o t' 0) (hr : Runs t' ops u e) : Runs t (o :: ops) u e
def endOf (f : Fl (Nd × Int × Int) (Int × List UInt8 × Int × List Nd)) : Nd × Int × Int := match f with
 | .ret r => r
 | .go (a, b, c, d) => (.mk a b c d, 0, 0)
inductive zT3 (t : Nd) (ops : List Op8) : Nd → Int → Prop
 | bad (h : zAR t = false) : zT3 t ops zFn 1
 | go {u : Nd} {e : Int} (h : zAR t = true) (hr : Runs t ops u e) : zT3 t ops u e
end Go.Proofs.YtgfneloodabafaaGreatDoor
namespace Go.Proofs.YtgfneloodabafaaGreatDoor
open Go.Abs
theorem zQO {k c m : Int} (h : zEU k c m = true) : zKj k ∧ zKj c := by
 have hk : 1 ≤ k ∧ k ≤ 12 := by
  by_cases hk : 1 ≤ k ∧ k ≤ 12
  ·exact hk
  ·exfalso
   unfold zEU at h
   rw [if_neg (by omega), if_neg (by omega), if_neg (by omega), if_neg (by omega), if_neg (by omega), if_neg (by omega), if_neg (by omega), if_neg (by omega), if_neg (by omega), if_neg (by omega), if_neg (by omega), if_neg (by omega), Bool.and_false] at h
   cases h
 have hc : 0 ≤ c ∧ c ≤ 16 := by
  unfold zEU at h
  split at h
  ·simp only [Bool.and_eq_true, decide_eq_true_eq] at h
   omega
  ·simp only [Bool.and_eq_true, beq_iff_eq] at h
   omega
 unfold zKj
 omega
mutual
theorem zP9 : ∀ t : Nd, zET t = true → t.rng
 | .mk k t c ks, h => by
  simp only [zET, Bool.and_eq_true] at h
  obtain ⟨⟨_, h2⟩, h3⟩ := h
  obtain ⟨g1, g2⟩ := zQO h2
  exact ⟨g1, g2, zN8 k ks h3⟩
theorem zN8 : ∀ (k : Int) (l : List Nd), zDS k l = true → Nd.rngs l
 | _, [], _ => trivial
 | k, v :: vs, h => by
  simp only [zDS, Bool.and_eq_true] at h
  exact ⟨zP9 v h.1.2, zN8 k vs h.2⟩
end
theorem zE5 {t : Nd} (h : zAR t = true) : t.rng := by
 unfold zAR at h
 simp only [Bool.and_eq_true] at h
 exact zP9 t h.2.1
theorem zHX {l w : List Int} (hlw : w.length ≤ l.length) (hl : w.length ≤ 1073741824) : ∀ (k i : Nat), w.length - i < k → i ≤ w.length → zB1 l w k (i : Int) = some (bif (w.drop i).isPrefixOf (l.drop i) then .go () else .ret false)
 | 0, i, h, _ => by omega
 | k + 1, i, h, hi => by
  unfold zB1
  by_cases hj : i < w.length
  ·have hj' : i < l.length := by omega
   rw [zA8 (Int.ofNat_lt.2 hj), cond_true, zBi hj', zBi hj]
   simp only [Option.bind_some]
   rw [List.drop_eq_getElem_cons hj, List.drop_eq_getElem_cons hj', List.isPrefixOf_cons_cons, zAX (by omega), zHX hlw hl k (i + 1) (by omega) (by omega)]
   cases e : l[i] == w[i] with
   | true =>
    have e' := eq_of_beq e
    rw [e']
    simp only [bne_self_eq_false, cond_false, beq_self_eq_true, Bool.true_and]
   | false =>
    have e' : ¬ l[i] = w[i] := beq_eq_false_iff_ne.1 e
    have e2 : (l[i] != w[i]) = true := bne_iff_ne.2 e'
    have e3 : (w[i] == l[i]) = false := beq_eq_false_iff_ne.2 fun h => e' h.symm
    rw [e2, e3]; rfl
  ·rw [zA7 (by omega), cond_false]
   have : w.drop i = [] := List.drop_eq_nil_iff.2 (by omega)
   rw [this]; rfl
theorem zHq (n : Nat) (l w : List Int) (h : w.length < n) (hl : w.length ≤ 1073741824) : zCc n l w = some (w.isPrefixOf l) := by
 unfold zCc
 dsimp only
 by_cases hlw : w.length ≤ l.length
 ·have e := zHX hlw hl n 0 (by omega) (by omega)
  rw [show ((0 : Nat) : Int) = 0 from rfl] at e
  rw [zA7 (by omega), cond_false, e]
  simp only [List.drop_zero]
  cases w.isPrefixOf l <;> rfl
 ·rw [zA8 (by omega), cond_true]
  have : w.isPrefixOf l = false := by
   cases e : w.isPrefixOf l with
   | false => rfl
   | true => exact absurd (List.isPrefixOf_iff_prefix.1 e).length_le hlw
  rw [this]
theorem zKE (n : Nat) (hn : 310 < n) (p : List Int) (hp : p.length ≤ 60) {ops : List Op8} (hl : ops.length ≤ 6) : ∀ (k i : Nat), ops.length - i < k → i ≤ ops.length →
  ∃ f, zBf n p ops k (i : Int) = some f ∧ (f = .ret false ∨ (f = .go () ∧ ∀ o ∈ ops.drop i, p <+: o.2.1))
 | 0, i, h, _ => by omega
 | k + 1, i, h, hi => by
  unfold zBf
  by_cases hj : i < ops.length
  ·obtain ⟨y, h1, h2⟩ := zQ8 n ops[i] hn
   have hd := List.drop_eq_getElem_cons hj
   have hb := zHq n ops[i].2.1 p (by omega) (by omega)
   obtain ⟨f, g1, g2⟩ := zKE n hn p hp hl k (i + 1) (by omega) (by omega)
   rw [zA8 (Int.ofNat_lt.2 hj), cond_true, zBi hj]
   rw [hd]
   generalize ops[i] = o at *
   obtain ⟨q1, q2, q3, q4, q5, q6, q7, q8⟩ := o
   dsimp only at hb
   simp only [Option.bind_some, h1]
   cases y with
   | false => exact ⟨_, rfl, .inl rfl⟩
   | true =>
    simp only [Bool.not_true, cond_false, hb, Option.bind_some]
    cases hpre : p.isPrefixOf q2 with
    | false => exact ⟨_, rfl, .inl rfl⟩
    | true =>
     simp only [Bool.not_true, cond_false]
     rw [zAX (by omega), g1]
     refine ⟨f, rfl, g2.imp id fun ⟨e, g⟩ => ⟨e, fun o ho => ?_⟩⟩
     rcases List.mem_cons.1 ho with rfl | ho
     ·exact List.isPrefixOf_iff_prefix.1 hpre
     ·exact g o ho
  ·rw [zA7 (by omega), cond_false, List.drop_eq_nil_iff.2 (by omega)]
   exact ⟨_, rfl, .inr ⟨rfl, fun o ho => by cases ho⟩⟩
theorem zON (n : Nat) (hn : 310 < n) (p : List Int) (ops : List Op8) : ∃ b, zBK n (p, ops) = some b ∧ (b = true → ops.length ≤ 6 ∧ p.length ≤ 60 ∧ ∀ o ∈ ops, p <+: o.2.1) := by
 unfold zBK
 dsimp only
 by_cases h1 : ops.length ≤ 6
 ·rw [zA7 (show ¬ ((6 : Int) < (ops.length : Int)) by omega), cond_false]
  by_cases h2 : p.length ≤ 60
  ·rw [zA7 (show ¬ ((60 : Int) < (p.length : Int)) by omega)]
   obtain ⟨f, g1, g2⟩ := zKE n hn p h2 h1 n 0 (by omega) (Nat.zero_le _)
   rw [show ((0 : Nat) : Int) = 0 from rfl] at g1
   simp only [Option.bind_some, cond_false, g1]
   rcases g2 with rfl | ⟨rfl, g⟩
   ·exact ⟨false, rfl, fun h => by cases h⟩
   ·exact ⟨true, rfl, fun _ => ⟨h1, h2, g⟩⟩
  ·rw [zA8 (show (60 : Int) < (p.length : Int) by omega)]
   exact ⟨false, rfl, fun h => by cases h⟩
 ·rw [zA8 (show (6 : Int) < (ops.length : Int) by omega), cond_true]
  exact ⟨false, rfl, fun h => by cases h⟩
theorem zOR (n : Nat) (hn : 200000000 < n) {ops : List Op8} (ho : ∀ o ∈ ops, Nd.ws o.nodes + o.text.length + o.row.length ≤ 1048576) (hl : ops.length ≤ 12) : ∀ (k i : Nat) (t : Nd), ops.length - i < k → i ≤ ops.length → t.w ≤ 17000000 + i * 1048580 →
  ∃ f, zBA n ops k t.kind t.text t.cols t.kids (i : Int) = some f ∧ Runs t (ops.drop i) (endOf f).1 (endOf f).2.2
 | 0, i, t, h, _, _ => by omega
 | k + 1, i, t, h, hi, hw => by
  unfold zBA
  by_cases hj : i < ops.length
  ·have hb := ho _ (List.getElem_mem hj)
   have hd := List.drop_eq_getElem_cons hj
   obtain ⟨t', e, g2, g3⟩ := zOQ n t ops[i] hn (by omega) (by omega) (by simp only [Op8.text] at hb; omega) (by simp only [Op8.row] at hb; omega)
   have hw' := g3.w
   rw [zA8 (Int.ofNat_lt.2 hj), zBi hj, hd]
   simp only [cond_true]
   generalize ops[i] = o at *
   obtain ⟨q1, q2, q3, q4, q5, q6, q7, q8⟩ := o
   obtain ⟨t1, t2, t3, t4⟩ := t
   have ih := zOR n hn ho hl k (i + 1) t' (by omega) (by omega) (by simp only [Op8.text] at hb; dsimp only at hw' hb; simp only [Nat.add_mul]; omega)
   obtain ⟨u1, u2, u3, u4⟩ := t'
   simp only [Nd.kind, Nd.text, Nd.cols, Nd.kids] at ih ⊢
   simp only [Option.bind_some, g2]
   by_cases he : e = 0
   ·subst he
    simp only [show ((0 : Int) != 0) = false from rfl, cond_false, zAX (show i < 9223372036854775807 by omega)]
    obtain ⟨f, h2, h3⟩ := ih
    exact ⟨f, h2, .next g3 h3⟩
   ·have hne : (e != 0) = true := bne_iff_ne.2 he
    simp only [hne, cond_true]
    exact ⟨_, rfl, .stop g3 he⟩
  ·rw [zA7 (by omega), List.drop_eq_nil_iff.2 (by omega)]
   obtain ⟨t1, t2, t3, t4⟩ := t
   simp only [cond_false]
   exact ⟨_, rfl, .nil _⟩
theorem zPP (n : Nat) (t : Nd) (ops : List Op8) (hn : 200000000 < n) (ht : t.w ≤ 17000000) (ho : ∀ o ∈ ops, Nd.ws o.nodes + o.text.length + o.row.length ≤ 1048576) (hl : ops.length ≤ 12) :
  ∃ u i e, zBq n t ops = some (u, i, e) ∧ zT3 t ops u e := by
 have v2 := zFl n t (by omega) (by omega)
 obtain ⟨f, h2, h3⟩ := zOR n hn ho hl n 0 t (by omega) (by omega) (by omega)
 rw [show ((0 : Nat) : Int) = 0 from rfl] at h2
 rw [List.drop_zero] at h3
 obtain ⟨t1, t2, t3, t4⟩ := t
 simp only [Nd.kind, Nd.text, Nd.cols, Nd.kids] at h2
 unfold zBq
 simp only [v2, Option.bind_some, h2]
 cases hv : zAR (.mk t1 t2 t3 t4) with
 | false => exact ⟨_, 0, 1, rfl, .bad hv⟩
 | true =>
  simp only [Bool.not_true, cond_false]
  cases f with
  | ret r =>
   obtain ⟨u, i, e⟩ := r
   exact ⟨u, i, e, rfl, .go hv h3⟩
  | go g =>
   obtain ⟨a, b, c, d⟩ := g
   exact ⟨_, 0, 0, rfl, .go hv h3⟩
theorem Nd.w_pos (t : Nd) : 1 ≤ t.w := by have := t.w_eq; omega
theorem Runs.w {t u : Nd} {ops : List Op8} {e : Int} (h : Runs t ops u e) : (∀ o ∈ ops, Nd.ws o.nodes + o.text.length + o.row.length ≤ 1048576) → u.w ≤ t.w + ops.length * 1048580 := by
 induction h with
 | nil t => intro _; omega
 | @stop t t' o ops e h he =>
  intro _
  have : zFn.w = 1 := rfl
  have := t.w_pos
  omega
 | @next t t' u o ops e h hr ih =>
  intro ho
  have h1 := ih fun o ho' => ho o (List.mem_cons_of_mem _ ho')
  have h2 := h.w
  have h3 := ho o List.mem_cons_self
  simp only [Op8.text] at h3
  simp only [List.length_cons, Nat.add_mul]
  omega
theorem Runs.ok_valid {t u : Nd} {ops : List Op8} {e : Int} (h : Runs t ops u e) : e = 0 → zAR t = true → zAR u = true := by
 induction h with
 | nil t => exact fun _ h => h
 | stop h he => exact fun h => absurd h he
 | @next t t' u o ops e h hr ih =>
  intro e0 _
  refine ih e0 ?_
  cases h with
  | chg h hf hr hc he => exact absurd rfl he
  | ok h hf hr hc hv => exact hv
theorem App.put {t t' : Nd} {o : Op8} (h : App t o t' 0) : ∃ r l, zJJ o ∧ Fd t o.2.1 r ∧ Chg r.kids o l 0 ∧ t' = putL t o.2.1 (rowN l) := by
 cases h with
 | chg h hf hr hc he => exact absurd rfl he
 | @ok r l h hf hr hc hv => exact ⟨r, l, hf, hr, hc, rfl⟩
theorem Runs.ch {p : List Int} {t u : Nd} {ops : List Op8} {e : Int} (h : Runs t ops u e) : e = 0 → (∀ o ∈ ops, p <+: o.2.1) → Ch p t.kids u.kids := by
 induction h with
 | nil t => exact fun _ _ => Ch.refl _ _
 | stop h he => exact fun h => absurd h he
 | @next t t' u o ops e h hr ih =>
  intro e0 ho
  obtain ⟨r, l, _, h1, _, rfl⟩ := h.put
  exact Ch.trans (h1.ch (rowN l) p (ho o List.mem_cons_self)) (ih e0 fun o ho' => ho o (List.mem_cons_of_mem _ ho'))
theorem App.both {p : List Int} {t t1 t' t1' : Nd} {o : Op8} (h : App t o t1 0) (h' : App t' o t1' 0) (ha : Apart p o.2.1) (hc : Ch p t.kids t'.kids) : Ch p t1.kids t1'.kids := by
 obtain ⟨r, l, hf, h1, h2, rfl⟩ := h.put
 obtain ⟨r', l', _, h3, h4, rfl⟩ := h'.put
 obtain ⟨z, g1, g2, g3⟩ := Ch.put h1 (rowN l) p t' ha hc
 subst g2
 have e := Fd.det h3 g1
 subst e
 obtain ⟨rfl, _⟩ := Chg.det hf h2 h4
 exact g3
theorem Runs.both {p : List Int} {t u : Nd} {ops : List Op8} {e : Int} (h : Runs t ops u e) : ∀ {t' u' : Nd} {e' : Int}, Runs t' ops u' e' → e = 0 → e' = 0 → (∀ o ∈ ops, Apart p o.2.1) → Ch p t.kids t'.kids → Ch p u.kids u'.kids := by
 induction h with
 | nil t => intro t' u' e' h' _ _ _ hc; cases h'; exact hc
 | stop h he => intro t' u' e' h' e0; exact absurd e0 he
 | @next t t1 u o ops e h hr ih =>
  intro t' u' e' h' e0 e0' ha hc
  cases h' with
  | stop _ he => exact absurd e0' he
  | next g gr => exact ih gr e0 e0' (fun o ho => ha o (List.mem_cons_of_mem _ ho)) (h.both g (ha o List.mem_cons_self) hc)
theorem Apart.below {p q r : List Int} (h : Apart p q) (hr : q <+: r) : Apart p r := by
 constructor
 ·intro hp
  rcases List.prefix_or_prefix_of_prefix hp hr with h1 | h1
  ·exact h.1 h1
  ·exact h.2 h1
 ·exact fun hp => h.2 (hr.trans hp)
theorem zRo {a x y w : Nd} {p q : List Int} {ops1 ops2 : List Op8} (hv : zAR a = true) (ca : a.cnt ≤ 100) (hpq : Apart p q) (h1 : ∀ o ∈ ops1, p <+: o.2.1) (h2 : ∀ o ∈ ops2, q <+: o.2.1) (rx : Runs a ops1 x 0) (ry : Runs a ops2 y 0) (rw' : Runs x ops2 w 0) :
  zAR x = true ∧ zAR y = true ∧ zAR w = true ∧ zDj 0 a x y = (w, [], 0) := by
 have vx := rx.ok_valid rfl hv
 have vy := ry.ok_valid rfl hv
 have vw := rw'.ok_valid rfl vx
 obtain ⟨o1, e1⟩ := zKt hv (zE5 hv)
 obtain ⟨o2, e2⟩ := zKt vx (zE5 vx)
 obtain ⟨o3, e3⟩ := zKt vy (zE5 vy)
 obtain ⟨o4, e4⟩ := zKt vw (zE5 vw)
 have c1 : Ch p a.kids x.kids := rx.ch rfl h1
 have c2 : Ch q a.kids y.kids := ry.ch rfl h2
 have c3 : Ch q x.kids w.kids := rw'.ch rfl h2
 have c4 : Ch p y.kids w.kids := ry.both rw' rfl rfl (fun o ho => hpq.below (h2 o ho)) c1
 have k := a.cnt_kids
 have hr := zOU (side := 0) (.inl rfl) 111 p q [] a.kids x.kids y.kids w.kids hpq (by omega) o1 o2 o3 o4 c1 c2 c3 c4
 refine ⟨vx, vy, vw, ?_⟩
 have := zRQ hv vx vy hr (e4 ▸ vw)
 rw [this, ← e4]
theorem zJc {p q : List Int} (h : p.isPrefixOf q = false) : ¬ p <+: q := fun hp => by
 rw [List.isPrefixOf_iff_prefix.2 hp] at h
 cases h
theorem zMf (a : Nd) (p q : List Int) (ops1 ops2 : List Op8) (ha : a.w ≤ 1048576) (ho1 : ∀ o ∈ ops1, Nd.ws o.nodes + o.text.length + o.row.length ≤ 1048576) (ho2 : ∀ o ∈ ops2, Nd.ws o.nodes + o.text.length + o.row.length ≤ 1048576) : zDr (300000000 + 100) a (p, ops1) (q, ops2) = some true := by
 have hw := zQH 300000000
 obtain ⟨y0, f1, f2⟩ := zNl (300000000 + 100) a 100 (by omega) (by omega)
 rw [show ((100 : Nat) : Int) = 100 from rfl] at f1
 obtain ⟨y1, g1, g2⟩ := zON (300000000 + 100) (by omega) p ops1
 obtain ⟨y2, g3, g4⟩ := zON (300000000 + 100) (by omega) q ops2
 have main : y0 = true → y1 = true → y2 = true → zCc (300000000 + 100) p q = some (q.isPrefixOf p) ∧ zCc (300000000 + 100) q p = some (p.isPrefixOf q) ∧ (q.isPrefixOf p = false → p.isPrefixOf q = false →
   ∃ x i1 e1 y i2 e2, zBq (300000000 + 100) a ops1 = some (x, i1, e1) ∧ zBq (300000000 + 100) a ops2 = some (y, i2, e2) ∧ (e1 = 0 → e2 = 0 → ∃ b, zFK (300000000 + 100) a x y = some b ∧ (b = true →
    ∃ w i3 e3, zBq (300000000 + 100) x ops2 = some (w, i3, e3) ∧ (e3 = 0 → zBN (300000000 + 100) a x y = some (w, [], 0) ∧ zC6 (300000000 + 100) a x y = some true ∧ zBo (300000000 + 100) w w = some true)))) := fun hy0 hy1 hy2 => by
  obtain ⟨l1, p1, b1⟩ := g2 hy1
  obtain ⟨l2, p2, b2⟩ := g4 hy2
  have ca := f2 hy0
  refine ⟨zHq _ _ _ (by omega) (by omega), zHq _ _ _ (by omega) (by omega), fun n1 n2 => ?_⟩
  have hpq : Apart p q := ⟨zJc n2, zJc n1⟩
  obtain ⟨x, i1, e1, s1, r1⟩ := zPP (300000000 + 100) a ops1 (by omega) (by omega) ho1 (by omega)
  obtain ⟨y, i2, e2, s2, r2⟩ := zPP (300000000 + 100) a ops2 (by omega) (by omega) ho2 (by omega)
  refine ⟨x, i1, e1, y, i2, e2, s1, s2, fun z1 z2 => ?_⟩
  subst z1 z2
  obtain ⟨b, k1, k2⟩ := zS0 (300000000 + 100) a x y (by omega)
  refine ⟨b, k1, fun hb => ?_⟩
  obtain ⟨_, cx, cy⟩ := k2 hb
  cases r1 with
  | go va r1 =>
  cases r2 with
  | go _ r2 =>
  have wx := r1.w ho1
  have wy := r2.w ho2
  have m1 : ops1.length * 1048580 ≤ 6 * 1048580 := Nat.mul_le_mul_right _ l1
  have m2 : ops2.length * 1048580 ≤ 6 * 1048580 := Nat.mul_le_mul_right _ l2
  obtain ⟨w, i3, e3, s3, r3⟩ := zPP (300000000 + 100) x ops2 (by omega) (by omega) ho2 (by omega)
  refine ⟨w, i3, e3, s3, fun z3 => ?_⟩
  subst z3
  cases r3 with
  | go _ r3 =>
  obtain ⟨vx, vy, vw, hm⟩ := zRo va ca hpq b1 b2 r1 r2 r3
  have t := zSP (300000000 + 100) a x y (by omega) (by omega) (by omega) (by omega) (by omega) (by omega) (by omega) (zE5 va) (zE5 vx) (zE5 vy)
  have t2 := zSL (300000000 + 100) a x y t
  have cw : w.cnt ≤ 1000 := by
   unfold zAR at vw
   simp only [Bool.and_eq_true, decide_eq_true_eq] at vw
   exact vw.2.2.1
  rw [hm] at t t2
  exact ⟨t, t2, zT2 _ w (by omega) (by omega)⟩
 clear ha ho1 ho2 f2 g2 g4
 obtain ⟨a1, a2, a3, a4⟩ := a
 unfold zDr
 dsimp only
 rw [hw]
 simp only [Option.bind_some, Bool.not_true, cond_false, f1]
 cases y0 with
 | false => rfl
 | true =>
  simp only [Bool.not_true, cond_false, g1, Option.bind_some]
  cases y1 with
  | false => rfl
  | true =>
   simp only [Bool.not_true, cond_false, g3, Option.bind_some]
   cases y2 with
   | false => rfl
   | true =>
    obtain ⟨b1, b2, main⟩ := main rfl rfl rfl
    simp only [Bool.not_true, cond_false, b1, Option.bind_some]
    cases h1 : q.isPrefixOf p with
    | true => rfl
    | false =>
     simp only [cond_false, b2, Option.bind_some]
     cases h2 : p.isPrefixOf q with
     | true => rfl
     | false =>
      obtain ⟨x, i1, e1, y, i2, e2, s1, s2, main⟩ := main h1 h2
      obtain ⟨x1, x2, x3, x4⟩ := x
      obtain ⟨z1, z2, z3, z4⟩ := y
      simp only [cond_false, s1, s2, Option.bind_some]
      by_cases he1 : e1 = 0
      ·by_cases he2 : e2 = 0
       ·obtain ⟨b, k1, main⟩ := main he1 he2
        subst he1 he2
        simp only [bne_self_eq_false, cond_false, k1, Option.bind_some]
        cases b with
        | false => rfl
        | true =>
         obtain ⟨w, i3, e3, s3, main⟩ := main rfl
         obtain ⟨w1, w2, w3, w4⟩ := w
         simp only [Bool.not_true, cond_false, s3, Option.bind_some]
         by_cases he3 : e3 = 0
         ·obtain ⟨t1, t2, t3⟩ := main he3
          subst he3
          simp only [bne_self_eq_false, cond_false, t1, t2, t3, Option.bind_some]
          rfl
         ·rw [show (e3 != 0) = true from bne_iff_ne.2 he3, cond_true]
       ·subst he1
        simp only [bne_self_eq_false, cond_false]
        rw [show (e2 != 0) = true from bne_iff_ne.2 he2]
        rfl
      ·rw [show (e1 != 0) = true from bne_iff_ne.2 he1]
       rfl
end Go.Proofs.YtgfneloodabafaaGreatDoor
