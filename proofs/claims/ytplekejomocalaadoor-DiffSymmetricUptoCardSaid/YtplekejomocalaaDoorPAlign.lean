/-
  PLAIN: the alignment of two rows: the program's and the reference's are the same; the other direction's is the exchanged one.
-/
import Derived.Test.YtplekejomocalaaDoorPNode
set_option linter.unusedVariables false
set_option linter.unusedSimpArgs false
namespace Go.Proofs.YtplekejomocalaaDoor
open Go.Abs

/-- The alignment of two rests, which begin at i and j. -/
def alignP : Nat → Nat → Nat → List Nd → List Nd → List (Nat × Nat)
  | k + 1, i, j, x :: xs, y :: ys =>
    bif alikeB x y && (DL (x :: xs) (y :: ys) == DL xs ys + D x y) then (i, j) :: alignP k (i + 1) (j + 1) xs ys
    else bif (DL (x :: xs) (y :: ys) == DL xs (y :: ys) + x.cnt) && (!(DL (x :: xs) (y :: ys) == DL (x :: xs) ys + y.cnt) || Op.bytesLess (dumpL x) (dumpL y)) then alignP k (i + 1) j xs (y :: ys)
    else alignP k i (j + 1) (x :: xs) ys
  | _, _, _, _, _ => []
theorem nat_beq_cast (a b : Nat) : ((a : Int) == (b : Int)) = (a == b) := by
  by_cases h : a = b
  · subst h; simp
  · rw [beq_eq_false_iff_ne.2 h, beq_eq_false_iff_ne.2 (by omega)]
theorem bcommN (a b : Nat) : (a == b) = (b == a) := by
  by_cases h : a = b
  · subst h; rfl
  · rw [beq_eq_false_iff_ne.2 h, beq_eq_false_iff_ne.2 (Ne.symm h)]
theorem tab_at (P : Nd → Nd → Nat) (b : List Nd) : ∀ (a : List Nd) (i : Nat), i ≤ a.length → at? (tabD P a b) (i : Int) = some (sufs (TD P (a.drop i)) b)
  | [], 0, _ => rfl
  | [], i + 1, h => by simp at h
  | x :: xs, 0, _ => rfl
  | x :: xs, i + 1, h => by
    have := tab_at P b xs i (by simpa using h)
    unfold at? at this ⊢
    rw [if_pos (by omega)] at this ⊢
    simp only [Int.toNat_natCast] at this ⊢
    simpa [tabD] using this
theorem sufs_at (f : List Nd → Nat) : ∀ (b : List Nd) (j : Nat), j ≤ b.length → at? (sufs f b) (j : Int) = some (f (b.drop j) : Int)
  | [], 0, _ => rfl
  | [], j + 1, h => by simp at h
  | y :: ys, 0, _ => rfl
  | y :: ys, j + 1, h => by
    have := sufs_at f ys j (by simpa using h)
    unfold at? at this ⊢
    rw [if_pos (by omega)] at this ⊢
    simp only [Int.toNat_natCast] at this ⊢
    simpa [sufs] using this
theorem map_at {α β : Type} (f : α → β) {l : List α} {i : Nat} (h : i < l.length) : at? (l.map f) (i : Int) = some (f l[i]) := by
  rw [at_get (by simpa using h)]; simp
def cast2 (p : Nat × Nat) : Int × Int := ((p.1 : Int), (p.2 : Int))

theorem align_loop (n : Nat) {a b : List Nd} (ha : Nd.cnts a ≤ 1000000) (hb : Nd.cnts b ≤ 1000000) (hwa : ∀ x ∈ a, 2 * x.w < n ∧ x.w ≤ 16777216 ∧ x.rng) (hwb : ∀ x ∈ b, 2 * x.w < n ∧ x.w ≤ 16777216 ∧ x.rng) :
    ∀ (k i j : Nat) (l : List (Int × Int)), (a.length - i) + (b.length - j) < k → i ≤ a.length → j ≤ b.length → l.length ≤ i →
      m_diff_align_l1 n a b (tabD D a b) (a.map fun x => b.map (prI x)) (a.map cntI) (b.map cntI) k (i : Int) (j : Int) l = some (l ++ (alignP k i j (a.drop i) (b.drop j)).map cast2)
  | 0, _, _, _, h, _, _, _ => by omega
  | k + 1, i, j, l, hk, hi, hj, hl => by
    have la := Nd.cnts_len a
    have lb := Nd.cnts_len b
    unfold m_diff_align_l1
    by_cases hia : i < a.length
    · rw [dec_t (Int.ofNat_lt.2 hia), cond_true]
      by_cases hjb : j < b.length
      · rw [dec_t (Int.ofNat_lt.2 hjb), Option.bind_some, cond_true]
        have hda := List.drop_eq_getElem_cons hia
        have hdb := List.drop_eq_getElem_cons hjb
        have ca := Nd.cnts_drop hia
        have cb := Nd.cnts_drop hjb
        obtain ⟨x1, x2, x3⟩ := hwa _ (List.getElem_mem hia)
        obtain ⟨y1, y2, y3⟩ := hwb _ (List.getElem_mem hjb)
        have ca' : Nd.cnts (a.drop i) ≤ Nd.cnts a := by
          have := Nd.cnts_append (a.take i) (a.drop i); rw [List.take_append_drop] at this; omega
        have cb' : Nd.cnts (b.drop j) ≤ Nd.cnts b := by
          have := Nd.cnts_append (b.take j) (b.drop j); rw [List.take_append_drop] at this; omega
        have b1 := TD_le (P := D) (a.drop i) (b.drop j)
        have b2 := TD_le (P := D) (a.drop (i + 1)) (b.drop j)
        have b3 := TD_le (P := D) (a.drop i) (b.drop (j + 1))
        have b4 := TD_le (P := D) (a.drop (i + 1)) (b.drop (j + 1))
        have b5 := D_le a[i] b[j]
        have t1 := tab_at D b a i (by omega)
        have t2 := tab_at D b a (i + 1) (by omega)
        have s1 := sufs_at (TD D (a.drop i)) b j (by omega)
        have s2 := sufs_at (TD D (a.drop (i + 1))) b j (by omega)
        have s3 := sufs_at (TD D (a.drop i)) b (j + 1) (by omega)
        have s4 := sufs_at (TD D (a.drop (i + 1))) b (j + 1) (by omega)
        have p1 := map_at (fun x => b.map (prI x)) hia
        have p2 := map_at (prI a[i]) hjb
        have c1 := map_at cntI hia
        have c2 := map_at cntI hjb
        have d1 := node_Dump_eq n a[i] x1 x2 x3
        have d2 := node_Dump_eq n b[j] y1 y2 y3
        rw [wi_succ (by omega), wi_succ (by omega)]
        simp only [t1, t2, s1, s2, s3, s4, p1, p2, c1, c2, Option.bind_some, at_get hia, at_get hjb]
        have hx : (bif decide (0 ≤ prI a[i] b[j]) then some ((TD D (a.drop i) (b.drop j) : Int) == IntKind.i64.wrap ((TD D (a.drop (i + 1)) (b.drop (j + 1)) : Int) + prI a[i] b[j])) else some false : Option Bool) = some (alikeB a[i] b[j] && (DL (a[i] :: a.drop (i + 1)) (b[j] :: b.drop (j + 1)) == DL (a.drop (i + 1)) (b.drop (j + 1)) + D a[i] b[j])) := by
          unfold prI
          cases hal : alikeB a[i] b[j] with
          | false => rfl
          | true =>
            rw [cond_true, dec_t (by omega), cond_true, wrap64_in (by omega) (by omega), ← Int.natCast_add, nat_beq_cast, ← hda, ← hdb]; rfl
        rw [hx, Option.bind_some, hda, hdb, alignP]
        cases alikeB a[i] b[j] && (DL (a[i] :: a.drop (i + 1)) (b[j] :: b.drop (j + 1)) == DL (a.drop (i + 1)) (b.drop (j + 1)) + D a[i] b[j]) with
        | true =>
          simp only [cond_true]
          rw [req_t (by simp; omega), align_loop n ha hb hwa hwb k (i + 1) (j + 1) _ (by omega) (by omega) (by omega) (by simp; omega)]
          simp [cast2]
        | false =>
          simp only [cond_false]
          rw [← hda, ← hdb, cntI, wrap64_in (by omega) (by omega), ← Int.natCast_add, nat_beq_cast, cntI, wrap64_in (by omega) (by omega), ← Int.natCast_add, nat_beq_cast]
          have hz : ∀ X : Option Bool, X = some ((DL (a.drop i) (b.drop j) == DL (a.drop (i + 1)) (b.drop j) + a[i].cnt) && (!(DL (a.drop i) (b.drop j) == DL (a.drop i) (b.drop (j + 1)) + b[j].cnt) || Op.bytesLess (dumpL a[i]) (dumpL b[j]))) → ∀ K : Bool → Option (List (Int × Int)), X.bind K = K ((DL (a.drop i) (b.drop j) == DL (a.drop (i + 1)) (b.drop j) + a[i].cnt) && (!(DL (a.drop i) (b.drop j) == DL (a.drop i) (b.drop (j + 1)) + b[j].cnt) || Op.bytesLess (dumpL a[i]) (dumpL b[j]))) := fun X h K => by rw [h]; rfl
          refine (hz _ ?_ _).trans ?_
          · have key : ∀ (p q r : Bool), (bif p then (bif !q then some true else some r) else some false : Option Bool) = some (p && (!q || r)) := by intro p q r; cases p <;> cases q <;> rfl
            rcases e : a[i] with ⟨e1, e2, e3, e4⟩
            rcases e' : b[j] with ⟨f1, f2, f3, f4⟩
            rw [e] at d1
            rw [e'] at d2
            simp only [d1, d2, Option.bind_some]
            exact key _ _ _
          cases ((DL (a.drop i) (b.drop j) == DL (a.drop (i + 1)) (b.drop j) + a[i].cnt) && (!(DL (a.drop i) (b.drop j) == DL (a.drop i) (b.drop (j + 1)) + b[j].cnt) || Op.bytesLess (dumpL a[i]) (dumpL b[j]))) with
          | true =>
            simp only [cond_true]
            rw [align_loop n ha hb hwa hwb k (i + 1) j _ (by omega) (by omega) (by omega) (by omega)]
          | false =>
            simp only [cond_false]
            rw [align_loop n ha hb hwa hwb k i (j + 1) _ (by omega) (by omega) (by omega) (by omega)]
      · rw [dec_f (by omega), Option.bind_some, cond_false]
        obtain rfl : j = b.length := by omega
        rw [List.drop_length]
        cases a.drop i <;> simp [alignP]
    · rw [dec_f (by omega), cond_false, Option.bind_some, cond_false]
      obtain rfl : i = a.length := by omega
      rw [List.drop_length]
      simp [alignP]

theorem rpairs_loop (n : Nat) {a b : List Nd} (hn : 2 * Nd.cnts a + 2 * Nd.cnts b + 2 < n) (ha : Nd.cnts a ≤ 1000000) (hb : Nd.cnts b ≤ 1000000) (hwa : ∀ x ∈ a, x.w + 40 < n ∧ x.w ≤ 16777216 ∧ x.rng) (hwb : ∀ x ∈ b, x.w + 40 < n ∧ x.w ≤ 16777216 ∧ x.rng) :
    ∀ (k i j : Nat) (l : List (Int × Int)), (a.length - i) + (b.length - j) < k → i ≤ a.length → j ≤ b.length → l.length ≤ i →
      m_r16_Pairs_l1 n a b (tabD D a b) k (i : Int) (j : Int) l = some (l ++ (alignP k i j (a.drop i) (b.drop j)).map cast2)
  | 0, _, _, _, h, _, _, _ => by omega
  | k + 1, i, j, l, hk, hi, hj, hl => by
    have la := Nd.cnts_len a
    have lb := Nd.cnts_len b
    unfold m_r16_Pairs_l1
    by_cases hia : i < a.length
    · rw [dec_t (Int.ofNat_lt.2 hia), cond_true]
      by_cases hjb : j < b.length
      · rw [dec_t (Int.ofNat_lt.2 hjb), Option.bind_some, cond_true]
        have hda := List.drop_eq_getElem_cons hia
        have hdb := List.drop_eq_getElem_cons hjb
        have ca := Nd.cnts_drop hia
        have cb := Nd.cnts_drop hjb
        obtain ⟨x1, x2, x3⟩ := hwa _ (List.getElem_mem hia)
        obtain ⟨y1, y2, y3⟩ := hwb _ (List.getElem_mem hjb)
        have mx := Nd.cnts_mem (List.getElem_mem hia)
        have my := Nd.cnts_mem (List.getElem_mem hjb)
        have ca' : Nd.cnts (a.drop i) ≤ Nd.cnts a := by
          have := Nd.cnts_append (a.take i) (a.drop i); rw [List.take_append_drop] at this; omega
        have cb' : Nd.cnts (b.drop j) ≤ Nd.cnts b := by
          have := Nd.cnts_append (b.take j) (b.drop j); rw [List.take_append_drop] at this; omega
        have b1 := TD_le (P := D) (a.drop i) (b.drop j)
        have b2 := TD_le (P := D) (a.drop (i + 1)) (b.drop j)
        have b3 := TD_le (P := D) (a.drop i) (b.drop (j + 1))
        have b4 := TD_le (P := D) (a.drop (i + 1)) (b.drop (j + 1))
        have b5 := D_le a[i] b[j]
        have t1 := tab_at D b a i (by omega)
        have t2 := tab_at D b a (i + 1) (by omega)
        have s1 := sufs_at (TD D (a.drop i)) b j (by omega)
        have s2 := sufs_at (TD D (a.drop (i + 1))) b j (by omega)
        have s3 := sufs_at (TD D (a.drop i)) b (j + 1) (by omega)
        have s4 := sufs_at (TD D (a.drop (i + 1))) b (j + 1) (by omega)
        have d1 := r09_Dump_eq n a[i] x1 x2 x3
        have d2 := r09_Dump_eq n b[j] y1 y2 y3
        have k1 := r09_Count_eq n a[i] (by omega) (by omega)
        have k2 := r09_Count_eq n b[j] (by omega) (by omega)
        have al := Alike_eq a[i] b[j]
        have pr := (r16_eq n).1 a[i] b[j]
        have hP : ∀ (x y : Nd), x = a[i] → y = b[j] → m_r16_Pairs_l1 n a b (tabD D a b) (k + 1) (i : Int) (j : Int) l = some (l ++ (alignP (k + 1) i j (a.drop i) (b.drop j)).map cast2) → True := fun _ _ _ _ _ => trivial
        clear hP
        rw [wi_succ (by omega), wi_succ (by omega)]
        simp only [t1, t2, s1, s2, s3, s4, Option.bind_some, at_get hia, at_get hjb]
        have fin : ∀ (A B C : Bool), A = (alikeB a[i] b[j] && (DL (a[i] :: a.drop (i + 1)) (b[j] :: b.drop (j + 1)) == DL (a.drop (i + 1)) (b.drop (j + 1)) + D a[i] b[j])) →
            B = ((DL (a[i] :: a.drop (i + 1)) (b[j] :: b.drop (j + 1)) == DL (a.drop (i + 1)) (b[j] :: b.drop (j + 1)) + a[i].cnt) && (!(DL (a[i] :: a.drop (i + 1)) (b[j] :: b.drop (j + 1)) == DL (a[i] :: a.drop (i + 1)) (b.drop (j + 1)) + b[j].cnt) || Op.bytesLess (dumpL a[i]) (dumpL b[j]))) →
            (bif A then req (l.length + [((i : Int), (j : Int))].length ≤ 4294967296) (m_r16_Pairs_l1 n a b (tabD D a b) k ((i + 1 : Nat) : Int) ((j + 1 : Nat) : Int) (l ++ [((i : Int), (j : Int))]))
              else bif B then m_r16_Pairs_l1 n a b (tabD D a b) k ((i + 1 : Nat) : Int) (j : Int) l else m_r16_Pairs_l1 n a b (tabD D a b) k (i : Int) ((j + 1 : Nat) : Int) l) = some (l ++ (alignP (k + 1) i j (a.drop i) (b.drop j)).map cast2) := fun A B C hA hB => by
          rw [hda, hdb, alignP, ← hA, ← hB]
          cases A with
          | true =>
            simp only [cond_true]
            rw [req_t (by simp; omega), rpairs_loop n hn ha hb hwa hwb k (i + 1) (j + 1) _ (by omega) (by omega) (by omega) (by simp; omega)]
            simp [cast2]
          | false =>
            cases B with
            | true =>
              simp only [cond_true, cond_false]
              rw [rpairs_loop n hn ha hb hwa hwb k (i + 1) j _ (by omega) (by omega) (by omega) (by omega), ← hdb]
            | false =>
              simp only [cond_false]
              rw [rpairs_loop n hn ha hb hwa hwb k i (j + 1) _ (by omega) (by omega) (by omega) (by omega), ← hda]
        rw [← hda, ← hdb] at fin
        rcases e : a[i] with ⟨e1, e2, e3, e4⟩
        rcases e' : b[j] with ⟨f1, f2, f3, f4⟩
        rw [e] at d1 k1 mx ca b5
        rw [e'] at d2 k2 my cb b5
        rw [e, e'] at al pr fin
        simp only [k1, k2, d1, d2, al, Option.bind_some]
        rw [wrap64_in (by omega) (by omega), ← Int.natCast_add, nat_beq_cast, wrap64_in (by omega) (by omega), ← Int.natCast_add, nat_beq_cast]
        have hA : (bif alikeB (.mk e1 e2 e3 e4) (.mk f1 f2 f3 f4) then (m_r16_pair n (.mk e1 e2 e3 e4) (.mk f1 f2 f3 f4)).bind fun y44 => some (IntKind.i64.wrap (y44 + (TD D (a.drop (i + 1)) (b.drop (j + 1)) : Int)) == (TD D (a.drop i) (b.drop j) : Int)) else some false : Option Bool) = some (alikeB (.mk e1 e2 e3 e4) (.mk f1 f2 f3 f4) && (DL (a.drop i) (b.drop j) == DL (a.drop (i + 1)) (b.drop (j + 1)) + D (.mk e1 e2 e3 e4) (.mk f1 f2 f3 f4))) := by
          cases hal : alikeB (.mk e1 e2 e3 e4) (.mk f1 f2 f3 f4) with
          | false => rfl
          | true =>
            rw [cond_true, pr hal (by omega) (by omega) (by omega), Option.bind_some, wrap64_in (by omega) (by omega), ← Int.natCast_add, nat_beq_cast, bcommN, Nat.add_comm]; rfl
        rw [hA, Option.bind_some]
        have hB : (bif (TD D (a.drop (i + 1)) (b.drop j) + 0 == 0) then some true else some false : Option Bool) = (bif (TD D (a.drop (i + 1)) (b.drop j) + 0 == 0) then some true else some false : Option Bool) := rfl
        clear hB
        have key : ∀ (p q r : Bool) (Y N : Option (List (Int × Int))), ((bif p then (bif !q then some true else some r) else some false : Option Bool).bind fun x => bif x then Y else N) = bif (p && (!q || r)) then Y else N := by intro p q r Y N; cases p <;> cases q <;> cases r <;> rfl
        refine Eq.trans ?_ (fin _ _ true rfl rfl)
        congr 1
        rw [key, bcommN, Nat.add_comm (Nd.mk e1 e2 e3 e4).cnt, bcommN (_ + TD D (a.drop i) (b.drop (j + 1))), Nat.add_comm (Nd.mk f1 f2 f3 f4).cnt]
        rfl
      · rw [dec_f (by omega), Option.bind_some, cond_false]
        obtain rfl : j = b.length := by omega
        rw [List.drop_length]
        cases a.drop i <;> simp [alignP]
    · rw [dec_f (by omega), cond_false, Option.bind_some, cond_false]
      obtain rfl : i = a.length := by omega
      rw [List.drop_length]
      simp [alignP]

theorem alignP_len : ∀ (k i j : Nat) (a b : List Nd), (alignP k i j a b).length ≤ a.length
  | 0, _, _, _, _ => by simp [alignP]
  | k + 1, i, j, [], _ => by simp [alignP]
  | k + 1, i, j, _ :: _, [] => by simp [alignP]
  | k + 1, i, j, x :: xs, y :: ys => by
    have h1 := alignP_len k (i + 1) (j + 1) xs ys
    have h2 := alignP_len k (i + 1) j xs (y :: ys)
    have h3 := alignP_len k i (j + 1) (x :: xs) ys
    simp only [alignP]
    cases alikeB x y && (DL (x :: xs) (y :: ys) == DL xs ys + D x y) <;> cases (DL (x :: xs) (y :: ys) == DL xs (y :: ys) + x.cnt) && (!(DL (x :: xs) (y :: ys) == DL (x :: xs) ys + y.cnt) || Op.bytesLess (dumpL x) (dumpL y)) <;>
      simp only [cond_true, cond_false, List.length_cons] at * <;> omega
theorem sp_loop (l : List (Int × Int)) (hl : l.length ≤ 1073741824) : ∀ (k i : Nat), l.length - i < k → i ≤ l.length → m_r16_SamePairs_l1 l l k (i : Int) = some (.go ())
  | 0, _, h, _ => by omega
  | k + 1, i, hk, hi => by
    unfold m_r16_SamePairs_l1
    by_cases h : i < l.length
    · rw [dec_t (Int.ofNat_lt.2 h), cond_true, at_get h, wi_succ (by omega)]
      rcases l[i] with ⟨p, q⟩
      simp only [Option.bind_some, beq_self_eq_true, Bool.and_self, Bool.not_true, cond_false]
      exact sp_loop l hl k (i + 1) (by omega) (by omega)
    · rw [dec_f (by omega), cond_false]
theorem sp_self (n : Nat) (l : List (Int × Int)) (hn : l.length < n) (hl : l.length ≤ 1073741824) : m_r16_SamePairs n l l = some true := by
  unfold m_r16_SamePairs
  have := sp_loop l hl n 0 (by omega) (by omega)
  rw [show ((0 : Nat) : Int) = 0 from rfl] at this
  show (bif ((l.length : Int) != (l.length : Int)) then _ else _) = _
  rw [bne_self_eq_false, cond_false, this]; rfl
theorem kids_w {t x : Nd} (h : x ∈ t.kids) : x.w < t.w := by
  have := Nd.w_mem h
  have e : t.w = t.text.length + Nd.ws t.kids + 1 := by cases t; rfl
  omega
theorem kids_rng {t x : Nd} (hr : t.rng) (h : x ∈ t.kids) : x.rng := by
  obtain ⟨a, b, c, ks⟩ := t
  exact Nd.rng_mem hr.2.2 h
theorem Align_eq (n : Nat) (a b : Nd) (h : 4 * a.w + 4 * b.w + 100 < n) (ha : a.w ≤ 1048576) (hb : b.w ≤ 1048576) (ca : a.cnt ≤ 120) (cb : b.cnt ≤ 120) (ra : a.rng) (rb : b.rng) :
    m_diff_Align n a b = some (bif validB a && validB b then ((alignP n 0 0 a.kids b.kids).map cast2, 0) else ([], 1)) := by
  have e1 := diff_valid_eq n a b (by omega) (by omega) (by omega) (by omega)
  have c1 := Nd.cnt_w a
  have c2 := Nd.cnt_w b
  have k1 := a.cnt_kids
  have k2 := b.cnt_kids
  have l1 := Nd.cnts_len a.kids
  have l2 := Nd.cnts_len b.kids
  have e2 := (fill_eq n).2 a.kids b.kids (by omega) (by omega) (by omega)
  have e3 := align_loop n (a := a.kids) (b := b.kids) (by omega) (by omega) (fun x hx => by have := kids_w hx; exact ⟨by omega, by omega, kids_rng ra hx⟩) (fun x hx => by have := kids_w hx; exact ⟨by omega, by omega, kids_rng rb hx⟩) n 0 0 [] (by omega) (by omega) (by omega) (by simp)
  rw [show ((0 : Nat) : Int) = 0 from rfl, List.drop_zero, List.drop_zero, List.nil_append] at e3
  obtain ⟨a1, a2, a3, a4⟩ := a
  obtain ⟨b1, b2, b3, b4⟩ := b
  simp only [Nd.kids] at e2 e3
  unfold m_diff_Align m_diff_align
  simp only [e1, e2, e3, Option.bind_some]
  cases validB (.mk a1 a2 a3 a4) && validB (.mk b1 b2 b3 b4) <;> rfl
theorem DiffAligns_eq (a b : Nd) (ha : a.w ≤ 1048576) (hb : b.w ≤ 1048576) (ra : a.rng) (rb : b.rng) : m_l16_DiffAligns (60000000 + 60) a b = some true := by
  have hw := awake_ok 60000000
  obtain ⟨y, f1, f2⟩ := few_eq (60000000 + 60) a b (by omega)
  cases y with
  | false =>
    obtain ⟨a1, a2, a3, a4⟩ := a
    obtain ⟨b1, b2, b3, b4⟩ := b
    unfold m_l16_DiffAligns
    simp only [hw, f1, Option.bind_some, Bool.not_true, cond_false, Bool.not_false, cond_true]
  | true =>
    obtain ⟨ca, cb⟩ := f2 rfl
    have k1 := a.cnt_kids
    have k2 := b.cnt_kids
    have l1 := Nd.cnts_len a.kids
    have l2 := Nd.cnts_len b.kids
    have e1 := r09_Valid_eq (60000000 + 60) a (by omega) (by omega)
    have e2 := r09_Valid_eq (60000000 + 60) b (by omega) (by omega)
    have e3 := Align_eq (60000000 + 60) a b (by omega) ha hb ca cb ra rb
    have e4 := (r16_eq (60000000 + 60)).2 a.kids b.kids (by omega) (by omega) (by omega)
    have e5 := rpairs_loop (60000000 + 60) (a := a.kids) (b := b.kids) (by omega) (by omega) (by omega) (fun x hx => by have := kids_w hx; exact ⟨by omega, by omega, kids_rng ra hx⟩) (fun x hx => by have := kids_w hx; exact ⟨by omega, by omega, kids_rng rb hx⟩) (60000000 + 60) 0 0 [] (by omega) (by omega) (by omega) (by simp)
    have hlen := alignP_len (60000000 + 60) 0 0 a.kids b.kids
    have e6 := sp_self (60000000 + 60) ((alignP (60000000 + 60) 0 0 a.kids b.kids).map cast2) (by rw [List.length_map]; omega) (by rw [List.length_map]; omega)
    rw [show ((0 : Nat) : Int) = 0 from rfl, List.drop_zero, List.drop_zero, List.nil_append] at e5
    generalize 60000000 + 60 = n at *
    obtain ⟨a1, a2, a3, a4⟩ := a
    obtain ⟨b1, b2, b3, b4⟩ := b
    simp only [Nd.kids] at e3 e4 e5 e6
    unfold m_l16_DiffAligns m_r16_Pairs
    simp only [hw, f1, e1, e2, e3, e4, e5, Option.bind_some, Bool.not_true, cond_false]
    cases validB (.mk a1 a2 a3 a4) with
    | false => rfl
    | true =>
      cases validB (.mk b1 b2 b3 b4) with
      | false => rfl
      | true => simp only [Bool.and_self, Bool.not_true, cond_true, cond_false, Option.bind_some, beq_self_eq_true, e6]

/- The other direction. -/
theorem bl_asymm : ∀ a b : List UInt8, Op.bytesLess a b = true → Op.bytesLess b a = false
  | [], [], h => by simp [Op.bytesLess] at h
  | [], _ :: _, _ => rfl
  | _ :: _, [], h => by simp [Op.bytesLess] at h
  | a :: x, b :: y, h => by
    simp only [Op.bytesLess, Bool.or_eq_true, decide_eq_true_eq, Bool.and_eq_true] at h
    simp only [Op.bytesLess, Bool.or_eq_false_iff, decide_eq_false_iff_not, Bool.and_eq_false_iff]
    rcases h with h | ⟨h1, h2⟩
    · exact ⟨by rw [UInt8.lt_iff_toNat_lt] at *; omega, .inl (beq_eq_false_iff_ne.2 fun e => by subst e; rw [UInt8.lt_iff_toNat_lt] at h; omega)⟩
    · have e := eq_of_beq h1
      subst e
      exact ⟨by rw [UInt8.lt_iff_toNat_lt]; omega, .inr (bl_asymm x y h2)⟩
theorem bl_total : ∀ a b : List UInt8, Op.bytesLess a b = false → Op.bytesLess b a = false → a = b
  | [], [], _, _ => rfl
  | [], _ :: _, h, _ => by simp [Op.bytesLess] at h
  | _ :: _, [], _, h => by simp [Op.bytesLess] at h
  | a :: x, b :: y, h1, h2 => by
    simp only [Op.bytesLess, Bool.or_eq_false_iff, decide_eq_false_iff_not, Bool.and_eq_false_iff] at h1 h2
    have e : a = b := by
      have h3 := h1.1
      have h4 := h2.1
      rw [UInt8.lt_iff_toNat_lt] at h3 h4
      exact UInt8.toNat_inj.1 (by omega)
    subst e
    rcases h1.2 with h | h
    · simp at h
    · rcases h2.2 with g | g
      · simp at g
      · rw [bl_total x y h g]
theorem alike_comm (x y : Nd) : alikeB x y = alikeB y x := Bool.eq_iff_iff.2 ⟨alike_symm, alike_symm⟩
theorem D_symm' (x y : Nd) : D x y = D y x := D_symm _ x y (Nat.le_refl _)
theorem DL_opt (x y : Nd) (xs ys : List Nd) : (alikeB x y = true ∧ DL (x :: xs) (y :: ys) = DL xs ys + D x y) ∨ DL (x :: xs) (y :: ys) = DL xs (y :: ys) + x.cnt ∨ DL (x :: xs) (y :: ys) = DL (x :: xs) ys + y.cnt := by
  have h : DL (x :: xs) (y :: ys) = if alikeB x y then min (min (x.cnt + DL xs (y :: ys)) (y.cnt + DL (x :: xs) ys)) (D x y + DL xs ys) else min (x.cnt + DL xs (y :: ys)) (y.cnt + DL (x :: xs) ys) := rfl
  split at h
  · rename_i ha
    simp only [Nat.min_def] at h
    repeat' split at h
    · right; left; omega
    · left; exact ⟨ha, by omega⟩
    · right; right; omega
    · left; exact ⟨ha, by omega⟩
  · simp only [Nat.min_def] at h
    split at h
    · right; left; omega
    · right; right; omega
theorem DL_same (x : Nd) (xs ys : List Nd) (h : DL (x :: xs) (x :: ys) = DL xs (x :: ys) + x.cnt) : DL (x :: xs) (x :: ys) = DL xs ys + D x x := by
  have h0 : D x x = 0 := D_self _ x (Nat.le_refl _)
  have h1 : DL (x :: xs) (x :: ys) ≤ D x x + DL xs ys := rowD_3 (alike_refl x)
  have h2 := DL_tri xs (x :: ys) ys
  have h3 : DL (x :: ys) ys ≤ x.cnt + 0 := Al_min (Al.del (Al_self ys fun z _ => D_self _ z (Nat.le_refl _)))
  omega
def swp (p : Nat × Nat) : Nat × Nat := (p.2, p.1)
theorem alignP_swap : ∀ (k i j : Nat) (a b : List Nd), alignP k j i b a = (alignP k i j a b).map swp
  | 0, _, _, _, _ => by simp [alignP]
  | k + 1, i, j, [], [] => by simp [alignP]
  | k + 1, i, j, [], _ :: _ => by simp [alignP]
  | k + 1, i, j, _ :: _, [] => by simp [alignP]
  | k + 1, i, j, x :: xs, y :: ys => by
    have i1 := alignP_swap k (i + 1) (j + 1) xs ys
    have i2 := alignP_swap k (i + 1) j xs (y :: ys)
    have i3 := alignP_swap k i (j + 1) (x :: xs) ys
    simp only [alignP]
    rw [alike_comm y x, DL_symm (y :: ys) (x :: xs), DL_symm ys xs, D_symm' y x, DL_symm ys (x :: xs), DL_symm (y :: ys) xs]
    cases hA : alikeB x y && (DL (x :: xs) (y :: ys) == DL xs ys + D x y) with
    | true => simp only [cond_true, List.map_cons, i1, swp]
    | false =>
      simp only [cond_false]
      have hB : ((DL (x :: xs) (y :: ys) == DL (x :: xs) ys + y.cnt) && (!(DL (x :: xs) (y :: ys) == DL xs (y :: ys) + x.cnt) || Op.bytesLess (dumpL y) (dumpL x))) = !((DL (x :: xs) (y :: ys) == DL xs (y :: ys) + x.cnt) && (!(DL (x :: xs) (y :: ys) == DL (x :: xs) ys + y.cnt) || Op.bytesLess (dumpL x) (dumpL y))) := by
        cases hp : (DL (x :: xs) (y :: ys) == DL xs (y :: ys) + x.cnt) with
        | false =>
          cases hq : (DL (x :: xs) (y :: ys) == DL (x :: xs) ys + y.cnt) with
          | false =>
            exfalso
            rcases DL_opt x y xs ys with ⟨h1, h2⟩ | h | h
            · rw [h1, beq_iff_eq.2 h2] at hA; cases hA
            · rw [beq_iff_eq.2 h] at hp; cases hp
            · rw [beq_iff_eq.2 h] at hq; cases hq
          | true => rfl
        | true =>
          cases hq : (DL (x :: xs) (y :: ys) == DL (x :: xs) ys + y.cnt) with
          | false => rfl
          | true =>
            simp only [Bool.not_true, Bool.false_or, Bool.true_and]
            cases h1 : Op.bytesLess (dumpL x) (dumpL y) with
            | true => rw [bl_asymm _ _ h1]; rfl
            | false =>
              cases h2 : Op.bytesLess (dumpL y) (dumpL x) with
              | true => rfl
              | false =>
                exfalso
                have e := dump_inj (bl_total _ _ h1 h2)
                subst e
                rw [alike_refl, beq_iff_eq.2 (DL_same x xs ys (eq_of_beq hp))] at hA
                cases hA
      rw [hB]
      cases ((DL (x :: xs) (y :: ys) == DL xs (y :: ys) + x.cnt) && (!(DL (x :: xs) (y :: ys) == DL (x :: xs) ys + y.cnt) || Op.bytesLess (dumpL x) (dumpL y))) with
      | true => simp only [Bool.not_true, cond_true, cond_false, i2]
      | false => simp only [Bool.not_false, cond_true, cond_false, i3]
theorem sym_loop (l : List (Nat × Nat)) (hl : l.length ≤ 1073741824) : ∀ (k i : Nat), l.length - i < k → i ≤ l.length → m_l16_DiffSymmetric_l1 (l.map cast2) ((l.map swp).map cast2) k (i : Int) = some (.go ())
  | 0, _, h, _ => by omega
  | k + 1, i, hk, hi => by
    unfold m_l16_DiffSymmetric_l1
    have hlen : ((l.map cast2).length : Int) = (l.length : Int) := by simp
    by_cases h : i < l.length
    · have h1 : at? (l.map cast2) (i : Int) = some (cast2 l[i]) := map_at cast2 h
      have h2 : at? ((l.map swp).map cast2) (i : Int) = some (cast2 (swp l[i])) := by
        rw [List.map_map]; exact map_at (cast2 ∘ swp) h
      rw [hlen, dec_t (Int.ofNat_lt.2 h), cond_true, h1, h2, wi_succ (by omega)]
      rcases l[i] with ⟨p, q⟩
      simp only [cast2, swp, Option.bind_some, bne_self_eq_false, cond_false]
      exact sym_loop l hl k (i + 1) (by omega) (by omega)
    · rw [hlen, dec_f (by omega), cond_false]
theorem DiffSymmetric_eq (a b : Nd) (ha : a.w ≤ 1048576) (hb : b.w ≤ 1048576) (ra : a.rng) (rb : b.rng) : m_l16_DiffSymmetric (60000000 + 60) a b = some true := by
  have hw := awake_ok 60000000
  obtain ⟨y, f1, f2⟩ := few_eq (60000000 + 60) a b (by omega)
  cases y with
  | false =>
    obtain ⟨a1, a2, a3, a4⟩ := a
    obtain ⟨b1, b2, b3, b4⟩ := b
    unfold m_l16_DiffSymmetric
    simp only [hw, f1, Option.bind_some, Bool.not_true, cond_false, Bool.not_false, cond_true]
  | true =>
    obtain ⟨ca, cb⟩ := f2 rfl
    have k1 := a.cnt_kids
    have l1 := Nd.cnts_len a.kids
    have e3 := Align_eq (60000000 + 60) a b (by omega) ha hb ca cb ra rb
    have e4 := Align_eq (60000000 + 60) b a (by omega) hb ha cb ca rb ra
    have hlen := alignP_len (60000000 + 60) 0 0 a.kids b.kids
    have e5 := sym_loop (alignP (60000000 + 60) 0 0 a.kids b.kids) (by omega) (60000000 + 60) 0 (by omega) (by omega)
    rw [← alignP_swap, show ((0 : Nat) : Int) = 0 from rfl] at e5
    have e6 : ((alignP (60000000 + 60) 0 0 b.kids a.kids).map cast2).length = ((alignP (60000000 + 60) 0 0 a.kids b.kids).map cast2).length := by rw [alignP_swap _ 0 0 a.kids b.kids]; simp
    have e7 : m_l16_DiffSymmetric_l1 [] [] (60000000 + 60) 0 = some (.go ()) := rfl
    generalize 60000000 + 60 = n at *
    obtain ⟨a1, a2, a3, a4⟩ := a
    obtain ⟨b1, b2, b3, b4⟩ := b
    simp only [Nd.kids] at e3 e4 e5 e6
    unfold m_l16_DiffSymmetric
    rw [Bool.and_comm] at e4
    simp only [hw, f1, e3, e4, Option.bind_some, Bool.not_true, cond_false]
    cases validB (.mk a1 a2 a3 a4) && validB (.mk b1 b2 b3 b4) with
    | false => simp only [cond_false, bne_self_eq_false, Option.bind_some, e7]
    | true => simp only [cond_true, bne_self_eq_false, cond_false, e6, Option.bind_some, e5]
end Go.Proofs.YtplekejomocalaaDoor
