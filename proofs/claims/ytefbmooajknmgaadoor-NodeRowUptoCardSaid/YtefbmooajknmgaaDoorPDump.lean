/-
  PLAIN: the dump of a tree as a function of the tree; two trees have the same dump only if they are the same; node.Dump and the reference's Dump are the dump.
-/
import Derived.Test.YtefbmooajknmgaaDoorPVal
import Derived.Test.YtefbmooajknmgaaDoorPDist
import Derived.Lib.ItoaLen
set_option linter.unusedVariables false
set_option linter.unusedSimpArgs false
namespace Go.Proofs.YtefbmooajknmgaaDoor
open Go.Abs

def names12 : List (List UInt8) := [[114, 111, 119], [115, 121, 109], [110, 117, 109], [116, 101, 120, 116], [102, 114, 97, 99], [114, 111, 111, 116], [115, 117, 98], [115, 117, 112],
  [98, 111, 116, 104], [97, 99, 99, 101, 110, 116], [102, 101, 110, 99, 101], [109, 97, 116, 114, 105, 120]]
def kindName (k : Int) : List UInt8 := if 1 ≤ k ∧ k ≤ 12 then names12.getD (k.toNat - 1) [] else [110, 111, 100, 101] ++ Lib.itoa k
def escL : List UInt8 → List UInt8
  | [] => []
  | c :: r => if c = 34 ∨ c = 92 then 92 :: c :: escL r else c :: escL r
def textL (t : List UInt8) : List UInt8 := if t = [] then [] else 58 :: 34 :: (escL t ++ [34])
def colsL (c : Int) : List UInt8 := if c = 0 then [] else 42 :: Lib.itoa c
def headL (k : Int) (t : List UInt8) (c : Int) : List UInt8 := kindName k ++ (textL t ++ colsL c)
def kidsL : List UInt8 → List UInt8
  | [] => []
  | _ :: r => 40 :: (r ++ [41])
mutual
def dumpL : Nd → List UInt8
  | .mk k t c ks => headL k t c ++ kidsL (dumpsL ks)
/- every one behind a space -/
def dumpsL : List Nd → List UInt8
  | [] => []
  | v :: vs => 32 :: (dumpL v ++ dumpsL vs)
end

/- Numerals. -/
def nameC (b : UInt8) : Bool := (decide (97 ≤ b.toNat) && decide (b.toNat ≤ 122)) || ((decide (48 ≤ b.toNat) && decide (b.toNat ≤ 57)) || decide (b.toNat = 45))
def decVal (l : List UInt8) : Nat := l.foldl (fun a b => 10 * a + (b.toNat - 48)) 0
theorem decVal_snoc (l : List UInt8) (b : UInt8) : decVal (l ++ [b]) = 10 * decVal l + (b.toNat - 48) := by simp [decVal]
theorem dig_nat {u : Nat} (h : u < 10) : (UInt8.ofNat (48 + u)).toNat = 48 + u := by
  simp [UInt8.toNat_ofNat']; omega
theorem decDigits_val (u : Nat) : decVal (Lib.decDigits u) = u := by
  induction u using Nat.strongRecOn with
  | _ u ih =>
    by_cases h : u < 10
    · rw [Lib.decDigits, dif_pos h]
      simp only [decVal, List.foldl_cons, List.foldl_nil, dig_nat h]; omega
    · rw [Lib.decDigits, dif_neg h, decVal_snoc, ih (u / 10) (by omega), dig_nat (Nat.mod_lt _ (by decide))]; omega
theorem decDigits_name (u : Nat) : (Lib.decDigits u).all nameC = true := by
  induction u using Nat.strongRecOn with
  | _ u ih =>
    have hd : ∀ v, v < 10 → nameC (UInt8.ofNat (48 + v)) = true := fun v hv => by
      unfold nameC; rw [dig_nat hv]
      have h1 : decide (48 ≤ 48 + v) = true := decide_eq_true (by omega)
      have h2 : decide (48 + v ≤ 57) = true := decide_eq_true (by omega)
      rw [h1, h2]; simp
    by_cases h : u < 10
    · rw [Lib.decDigits, dif_pos h, List.all_cons, hd u h]; rfl
    · rw [Lib.decDigits, dif_neg h, List.all_append, ih (u / 10) (by omega), List.all_cons, hd _ (Nat.mod_lt u (by decide : 0 < 10))]; rfl
theorem decDigits_head (u : Nat) : ∃ b r, Lib.decDigits u = b :: r ∧ b ≠ 45 := by
  induction u using Nat.strongRecOn with
  | _ u ih =>
    by_cases h : u < 10
    · refine ⟨_, [], by rw [Lib.decDigits, dif_pos h], fun e => ?_⟩
      have := congrArg UInt8.toNat e
      rw [dig_nat h] at this
      have e45 : (45 : UInt8).toNat = 45 := rfl
      omega
    · obtain ⟨b, r, h1, h2⟩ := ih (u / 10) (by omega)
      exact ⟨b, r ++ [UInt8.ofNat (48 + u % 10)], by rw [Lib.decDigits, dif_neg h, h1]; rfl, h2⟩
theorem itoa_inj {m n : Int} (h : Lib.itoa m = Lib.itoa n) : m = n := by
  unfold Lib.itoa at h
  split at h <;> split at h
  · have := congrArg decVal (List.cons.inj h).2
    rw [decDigits_val, decDigits_val] at this; omega
  · obtain ⟨b, r, h1, h2⟩ := decDigits_head n.toNat
    rw [h1] at h; exact absurd (List.cons.inj h).1.symm h2
  · obtain ⟨b, r, h1, h2⟩ := decDigits_head m.toNat
    rw [h1] at h; exact absurd (List.cons.inj h).1 h2
  · have := congrArg decVal h
    rw [decDigits_val, decDigits_val] at this; omega
theorem itoa_name (n : Int) : (Lib.itoa n).all nameC = true := by
  unfold Lib.itoa
  split
  · rw [List.all_cons, decDigits_name]; rfl
  · exact decDigits_name _
theorem itoa_ne (n : Int) : Lib.itoa n ≠ [] := by
  unfold Lib.itoa
  split
  · simp
  · obtain ⟨b, r, h, _⟩ := decDigits_head n.toNat; rw [h]; simp
theorem names12_name : ∀ i < 12, (names12.getD i []).all nameC = true := by decide
theorem names12_ne : ∀ i < 12, names12.getD i [] ≠ [] := by decide
theorem names12_node : ∀ i < 12, (names12.getD i []).take 4 ≠ [110, 111, 100, 101] := by decide
theorem names12_inj : ∀ i < 12, ∀ j < 12, names12.getD i [] = names12.getD j [] → i = j := by decide
theorem kindName_name (k : Int) : (kindName k).all nameC = true := by
  unfold kindName
  split
  · exact names12_name _ (by omega)
  · rw [List.all_append, itoa_name]; rfl
theorem kindName_ne (k : Int) : kindName k ≠ [] := by
  unfold kindName
  split
  · exact names12_ne _ (by omega)
  · simp
theorem kindName_inj {m n : Int} (h : kindName m = kindName n) : m = n := by
  unfold kindName at h
  split at h <;> split at h
  · have := names12_inj _ (by omega) _ (by omega) h; omega
  · rename_i h1 h2
    exact absurd (by rw [h]; simp) (names12_node (m.toNat - 1) (by omega))
  · rename_i h1 h2
    exact absurd (by rw [← h]; simp) (names12_node (n.toNat - 1) (by omega))
  · exact itoa_inj (List.append_cancel_left h)

/- Reading a dump from the front. -/
def stops (p : UInt8 → Bool) (l : List UInt8) : Prop := ∀ b r, l = b :: r → p b = false
theorem cut_name {p : UInt8 → Bool} : ∀ {l1 l2 u v : List UInt8}, l1.all p = true → l2.all p = true → stops p u → stops p v → l1 ++ u = l2 ++ v → l1 = l2 ∧ u = v
  | [], [], u, v, _, _, _, _, h => ⟨rfl, h⟩
  | [], b :: l2, u, v, _, h2, hu, _, h => by
    simp only [List.all_cons, Bool.and_eq_true] at h2
    have := hu b (l2 ++ v) (by simpa using h)
    rw [h2.1] at this; cases this
  | b :: l1, [], u, v, h1, _, _, hv, h => by
    simp only [List.all_cons, Bool.and_eq_true] at h1
    have := hv b (l1 ++ u) (by simpa using h.symm)
    rw [h1.1] at this; cases this
  | a :: l1, b :: l2, u, v, h1, h2, hu, hv, h => by
    simp only [List.all_cons, Bool.and_eq_true] at h1 h2
    simp only [List.cons_append, List.cons.injEq] at h
    obtain ⟨e1, e2⟩ := cut_name h1.2 h2.2 hu hv h.2
    exact ⟨by rw [h.1, e1], e2⟩
theorem esc_cut : ∀ {s t u v : List UInt8}, escL s ++ 34 :: u = escL t ++ 34 :: v → s = t ∧ u = v
  | [], [], u, v, h => ⟨rfl, by simpa [escL] using h⟩
  | [], c :: t, u, v, h => by
    exfalso
    simp only [escL, List.nil_append] at h
    split at h
    · simp at h
    · rename_i hc
      simp only [List.cons_append, List.cons.injEq] at h
      exact hc (.inl h.1.symm)
  | c :: s, [], u, v, h => by
    exfalso
    simp only [escL, List.nil_append] at h
    split at h
    · simp at h
    · rename_i hc
      simp only [List.cons_append, List.cons.injEq] at h
      exact hc (.inl h.1)
  | c :: s, d :: t, u, v, h => by
    simp only [escL] at h
    split at h <;> split at h
    · simp only [List.cons_append, List.cons.injEq, true_and] at h
      obtain ⟨e1, e2⟩ := esc_cut h.2
      exact ⟨by rw [h.1, e1], e2⟩
    · rename_i hc hd
      simp only [List.cons_append, List.cons.injEq] at h
      exact absurd (.inr h.1.symm) hd
    · rename_i hc hd
      simp only [List.cons_append, List.cons.injEq] at h
      exact absurd (.inr h.1) hc
    · simp only [List.cons_append, List.cons.injEq] at h
      obtain ⟨e1, e2⟩ := esc_cut h.2
      exact ⟨by rw [h.1, e1], e2⟩
/-- What may stand behind a tree's dump. -/
def fol (l : List UInt8) : Prop := ∀ b r, l = b :: r → b = 32 ∨ b = 41
def hd (l : List UInt8) (s : List UInt8) : Prop := ∀ b r, l = b :: r → b ∈ s
theorem kids_hd (d u : List UInt8) (hu : fol u) : hd (kidsL d ++ u) [40, 32, 41] := fun b r h => by
  cases d with
  | nil =>
    simp only [kidsL, List.nil_append] at h
    rcases hu b r h with e | e <;> simp [e]
  | cons _ d =>
    simp only [kidsL, List.cons_append, List.cons.injEq] at h
    simp [← h.1]
theorem cols_hd (c : Int) (l : List UInt8) (hl : hd l [40, 32, 41]) : hd (colsL c ++ l) [42, 40, 32, 41] := fun b r h => by
  unfold colsL at h
  split at h
  · exact List.mem_cons_of_mem _ (hl b r (by simpa using h))
  · simp only [List.cons_append, List.cons.injEq] at h; simp [← h.1]
theorem text_hd (t l : List UInt8) (hl : hd l [42, 40, 32, 41]) : hd (textL t ++ l) [58, 42, 40, 32, 41] := fun b r h => by
  unfold textL at h
  split at h
  · exact List.mem_cons_of_mem _ (hl b r (by simpa using h))
  · simp only [List.cons_append, List.cons.injEq] at h; simp [← h.1]
theorem hd_stops {l s : List UInt8} (h : hd l s) (hs : ∀ b ∈ s, nameC b = false) : stops nameC l := fun b r e => hs b (h b r e)
theorem cols_cut {c d : Int} {u v : List UInt8} (hu : hd u [40, 32, 41]) (hv : hd v [40, 32, 41]) (h : colsL c ++ u = colsL d ++ v) : c = d ∧ u = v := by
  have no : ∀ {l : List UInt8} {x : List UInt8}, hd l [40, 32, 41] → l = 42 :: x → False := fun hl e => by have := hl 42 _ e; simp at this
  unfold colsL at h
  split at h <;> split at h
  · rename_i h1 h2; exact ⟨by rw [h1, h2], by simpa using h⟩
  · exact (no hu (by simpa using h)).elim
  · exact (no hv (by simpa using h.symm)).elim
  · simp only [List.cons_append, List.cons.injEq, true_and] at h
    obtain ⟨e1, e2⟩ := cut_name (itoa_name c) (itoa_name d) (hd_stops hu (by decide)) (hd_stops hv (by decide)) h
    exact ⟨itoa_inj e1, e2⟩
theorem text_cut {s t u v : List UInt8} (hu : hd u [42, 40, 32, 41]) (hv : hd v [42, 40, 32, 41]) (h : textL s ++ u = textL t ++ v) : s = t ∧ u = v := by
  have no : ∀ {l : List UInt8} {x : List UInt8}, hd l [42, 40, 32, 41] → l = 58 :: x → False := fun hl e => by have := hl 58 _ e; simp at this
  unfold textL at h
  split at h <;> split at h
  · rename_i h1 h2; exact ⟨by rw [h1, h2], by simpa using h⟩
  · exact (no hu (by simpa using h)).elim
  · exact (no hv (by simpa using h.symm)).elim
  · simp only [List.cons_append, List.cons.injEq, true_and, List.append_assoc, List.nil_append] at h
    exact esc_cut h
theorem dumps_fol : ∀ (vs : List Nd) (u : List UInt8), fol u → fol (dumpsL vs ++ u)
  | [], u, h => by simpa [dumpsL] using h
  | v :: vs, u, h => fun b r e => by
    simp only [dumpsL, List.cons_append, List.cons.injEq] at e
    exact .inl e.1.symm
mutual
theorem dump_cut : ∀ (a b : Nd) {u v : List UInt8}, fol u → fol v → dumpL a ++ u = dumpL b ++ v → a = b ∧ u = v
  | .mk k t c ks, .mk k' t' c' ks', u, v, hu, hv, h => by
    simp only [dumpL, headL, List.append_assoc] at h
    have a1 := kids_hd (dumpsL ks) u hu
    have b1 := kids_hd (dumpsL ks') v hv
    have a2 := cols_hd c _ a1
    have b2 := cols_hd c' _ b1
    obtain ⟨e1, h1⟩ := cut_name (kindName_name k) (kindName_name k') (hd_stops (text_hd t _ a2) (by decide)) (hd_stops (text_hd t' _ b2) (by decide)) h
    obtain ⟨e2, h2⟩ := text_cut a2 b2 h1
    obtain ⟨e3, h3⟩ := cols_cut a1 b1 h2
    obtain rfl := kindName_inj e1
    subst e2; subst e3
    clear h h1 h2 a1 b1 a2 b2
    have fin : ks = ks' ∧ u = v := by
      match ks, ks', h3 with
      | [], [], h => exact ⟨rfl, by simpa [dumpsL, kidsL] using h⟩
      | [], y :: ys, h =>
        simp only [dumpsL, kidsL, List.nil_append, List.cons_append] at h
        rcases hu _ _ h with e | e <;> simp at e
      | x :: xs, [], h =>
        simp only [dumpsL, kidsL, List.nil_append, List.cons_append] at h
        rcases hv _ _ h.symm with e | e <;> simp at e
      | x :: xs, y :: ys, h =>
        simp only [dumpsL, kidsL, List.cons_append, List.cons.injEq, true_and, List.append_assoc, List.nil_append] at h
        have hf : ∀ w, fol (41 :: w) := fun w b r e => .inr (List.cons.inj e).1.symm
        obtain ⟨e4, h5⟩ := dump_cut x y (dumps_fol xs _ (hf u)) (dumps_fol ys _ (hf v)) h
        obtain ⟨e5, h6⟩ := dumps_cut xs ys h5
        exact ⟨by rw [e4, e5], h6⟩
    exact ⟨by rw [fin.1], fin.2⟩
theorem dumps_cut : ∀ (a b : List Nd) {u v : List UInt8}, dumpsL a ++ 41 :: u = dumpsL b ++ 41 :: v → a = b ∧ u = v
  | [], [], u, v, h => ⟨rfl, by simpa [dumpsL] using h⟩
  | [], y :: ys, u, v, h => by simp [dumpsL] at h
  | x :: xs, [], u, v, h => by simp [dumpsL] at h
  | x :: xs, y :: ys, u, v, h => by
    have hf : ∀ w, fol (41 :: w) := fun w b r e => .inr (List.cons.inj e).1.symm
    simp only [dumpsL, List.cons_append, List.cons.injEq, true_and, List.append_assoc] at h
    obtain ⟨e4, h⟩ := dump_cut x y (dumps_fol xs _ (hf u)) (dumps_fol ys _ (hf v)) h
    obtain ⟨e5, h⟩ := dumps_cut xs ys h
    exact ⟨by rw [e4, e5], h⟩
end
theorem dump_inj {a b : Nd} (h : dumpL a = dumpL b) : a = b :=
  (dump_cut a b (u := []) (v := []) (fun _ _ e => by cases e) (fun _ _ e => by cases e) (by simpa using h)).1

/- Lengths. -/
theorem escL_len : ∀ t : List UInt8, (escL t).length ≤ 2 * t.length
  | [] => Nat.le_refl _
  | c :: r => by
    have := escL_len r
    simp only [escL]
    split <;> simp only [List.length_cons] <;> omega
theorem kindName_len {k : Int} (h : in64i k) : (kindName k).length ≤ 25 := by
  unfold kindName
  split
  · have : ∀ i < 12, (names12.getD i []).length ≤ 25 := by decide
    exact this _ (by omega)
  · have := Lib.itoa_length_le k h.1 h.2
    simp; omega
theorem headL_len {k : Int} {t : List UInt8} {c : Int} (hk : in64i k) (hc : in64i c) : (headL k t c).length ≤ 55 + 2 * t.length := by
  have h1 := kindName_len hk
  have h2 := escL_len t
  have h3 := Lib.itoa_length_le c hc.1 hc.2
  have h4 : (textL t).length ≤ 3 + 2 * t.length := by unfold textL; split <;> simp; omega
  have h5 : (colsL c).length ≤ 22 := by unfold colsL; split <;> simp; omega
  simp only [headL, List.length_append]; omega
theorem kidsL_len (l : List UInt8) : (kidsL l).length ≤ l.length + 1 := by cases l <;> simp [kidsL]
mutual
theorem dumpL_len : ∀ v : Nd, v.rng → (dumpL v).length ≤ 60 * v.w
  | .mk k t c ks, h => by
    have h1 := headL_len (t := t) h.1 h.2.1
    have h2 := dumpsL_len ks h.2.2
    have h3 := kidsL_len (dumpsL ks)
    simp only [dumpL, List.length_append, Nd.w]; omega
theorem dumpsL_len : ∀ vs : List Nd, Nd.rngs vs → (dumpsL vs).length ≤ 60 * Nd.ws vs
  | [], _ => by simp [dumpsL]
  | v :: vs, h => by
    have h1 := dumpL_len v h.1
    have h2 := dumpsL_len vs h.2
    simp only [dumpsL, List.length_cons, List.length_append, Nd.ws]; omega
end

/- The builder. -/
theorem wb_eq (c : UInt8) (l : List UInt8) (h : l.length < 4294967296) : m_strings_Builder_WriteByte c l = some ((), l ++ [c]) := by
  unfold m_strings_Builder_WriteByte m_strings_Builder_copyCheck
  simp only [Option.bind_some]
  rw [req_t (by simp; omega)]
theorem ws_eq (s l : List UInt8) (h : l.length + s.length ≤ 4294967296) : m_strings_Builder_WriteString s l = some ((s.length : Int), (), l ++ s) := by
  unfold m_strings_Builder_WriteString m_strings_Builder_copyCheck
  simp only [Option.bind_some]
  rw [req_t h]
theorem ito_eq {n : Int} (h : in64i n) : m_strconv_Itoa n = some (Lib.itoa n) := by
  unfold m_strconv_Itoa
  exact req_t (show -9223372036854775808 ≤ n ∧ n ≤ 9223372036854775807 from h)
theorem byte_q (c : UInt8) : ((c.toNat : Int) == 34) = (c == 34) ∧ ((c.toNat : Int) == 92) = (c == 92) :=
  ⟨of_decide_eq_true (u8_all (P := fun c => decide (((c.toNat : Int) == 34) = (c == 34))) (by decide +kernel) c), of_decide_eq_true (u8_all (P := fun c => decide (((c.toNat : Int) == 92) = (c == 92))) (by decide +kernel) c)⟩
theorem escL_drop {t : List UInt8} {i : Nat} (h : i < t.length) : escL (t.drop i) = if t[i] = 34 ∨ t[i] = 92 then 92 :: t[i] :: escL (t.drop (i + 1)) else t[i] :: escL (t.drop (i + 1)) := by
  rw [List.drop_eq_getElem_cons h]; rfl
theorem head_loop (t : List UInt8) (ht : t.length ≤ 1073741824) : ∀ (k i : Nat) (l : List UInt8), t.length - i < k → i ≤ t.length → l.length + 2 * (t.length - i) < 4294967296 →
    m_node_dumper_head_l1 t k (i : Int) l = some (l ++ escL (t.drop i))
  | 0, _, _, h, _, _ => by omega
  | k + 1, i, l, hk, hi, hl => by
    unfold m_node_dumper_head_l1
    by_cases h : i < t.length
    · rw [dec_t (Int.ofNat_lt.2 h), cond_true, at_get h, escL_drop h]
      simp only [Option.bind_some, (byte_q t[i]).1, (byte_q t[i]).2]
      rw [wi_succ (by omega)]
      have e92 : b8of 92 = 92 := rfl
      by_cases h1 : t[i] = 34
      · rw [if_pos (.inl h1), show (t[i] == 34) = true from beq_iff_eq.2 h1, cond_true]
        simp only [Option.bind_some, cond_true]
        rw [e92, wb_eq _ _ (by omega)]
        simp only [Option.bind_some]
        rw [wb_eq _ _ (by simp; omega)]
        simp only [Option.bind_some]
        rw [head_loop t ht k (i + 1) _ (by omega) (by omega) (by simp; omega)]
        simp
      · rw [show (t[i] == 34) = false from beq_eq_false_iff_ne.2 h1, cond_false]
        simp only [Option.bind_some]
        by_cases h2 : t[i] = 92
        · rw [if_pos (.inr h2), show (t[i] == 92) = true from beq_iff_eq.2 h2, cond_true]
          try simp only [Option.bind_some, cond_true]
          rw [e92, wb_eq _ _ (by omega)]
          simp only [Option.bind_some]
          rw [wb_eq _ _ (by simp; omega)]
          simp only [Option.bind_some]
          rw [head_loop t ht k (i + 1) _ (by omega) (by omega) (by simp; omega)]
          simp [h2]
        · rw [if_neg (by intro h; exact h.elim h1 h2), show (t[i] == 92) = false from beq_eq_false_iff_ne.2 h2, cond_false]
          simp only [Option.bind_some]
          rw [wb_eq _ _ (by omega)]
          simp only [Option.bind_some]
          rw [head_loop t ht k (i + 1) _ (by omega) (by omega) (by simp; omega)]
          simp
    · rw [dec_f (by omega), cond_false]
      obtain rfl : i = t.length := by omega
      simp [escL]
theorem kindName_lit (k : Int) : kindName k = if k = 1 then [114, 111, 119] else if k = 2 then [115, 121, 109] else if k = 3 then [110, 117, 109] else if k = 4 then [116, 101, 120, 116]
  else if k = 5 then [102, 114, 97, 99] else if k = 6 then [114, 111, 111, 116] else if k = 7 then [115, 117, 98] else if k = 8 then [115, 117, 112]
  else if k = 9 then [98, 111, 116, 104] else if k = 10 then [97, 99, 99, 101, 110, 116] else if k = 11 then [102, 101, 110, 99, 101]
  else if k = 12 then [109, 97, 116, 114, 105, 120] else [110, 111, 100, 101] ++ Lib.itoa k := by
  rcases kinds k with rfl | rfl | rfl | rfl | rfl | rfl | rfl | rfl | rfl | rfl | rfl | rfl | hk
  all_goals first | rfl | skip
  unfold kindName
  rw [if_neg (by omega), if_neg (by omega), if_neg (by omega), if_neg (by omega), if_neg (by omega), if_neg (by omega), if_neg (by omega), if_neg (by omega), if_neg (by omega), if_neg (by omega), if_neg (by omega), if_neg (by omega), if_neg (by omega)]

theorem kind_in (k : Int) : (bif decide (1 ≤ k) then some (decide (k ≤ 12)) else some false : Option Bool) = some (decide (1 ≤ k ∧ k ≤ 12)) := by
  by_cases h : 1 ≤ k
  · rw [dec_t h, cond_true]; congr 1; by_cases h2 : k ≤ 12 <;> simp [h, h2]
  · rw [dec_f h, cond_false]; congr 1; simp [h]
theorem head_eq (n : Nat) (k : Int) (t : List UInt8) (c : Int) (ks : List Nd) (l : List UInt8) (hn : t.length < n) (ht : t.length ≤ 1073741824) (hk : in64i k) (hc : in64i c) (hl : l.length + 2 * t.length + 60 < 4294967296) :
    m_node_dumper_head n (.mk k t c ks) l = some (l ++ headL k t c) := by
  unfold m_node_dumper_head
  have hki := Lib.itoa_length_le k hk.1 hk.2
  have hci := Lib.itoa_length_le c hc.1 hc.2
  have h1 : ∀ X : Option (List UInt8), X = some (l ++ kindName k) → ∀ K : List UInt8 → Option (List UInt8), X.bind K = K (l ++ kindName k) := fun X h K => by rw [h]; rfl
  simp only [kind_in, Option.bind_some]
  have hlen := kindName_len hk
  rw [h1 _ ?_]
  · have h2 : ∀ X : Option (List UInt8), X = some ((l ++ kindName k) ++ textL t) → ∀ K : List UInt8 → Option (List UInt8), X.bind K = K ((l ++ kindName k) ++ textL t) := fun X h K => by rw [h]; rfl
    rw [h2 _ ?_]
    · unfold headL colsL
      have htx : (textL t).length ≤ 3 + 2 * t.length := by have := escL_len t; unfold textL; split <;> simp; omega
      by_cases h0 : c = 0
      · subst h0
        rw [if_pos rfl, show ((0 : Int) != 0) = false from rfl, cond_false]
        simp
      · rw [if_neg h0, show (c != 0) = true from bne_iff_ne.2 h0, cond_true, ito_eq hc]
        simp only [Option.bind_some]
        rw [req_t (by simp; omega), ws_eq _ _ (by simp; omega)]
        simp
    · unfold textL
      by_cases h0 : t = []
      · subst h0
        simp
      · rw [if_neg h0, show (!(t == [])) = true from by simp [h0], cond_true, ws_eq _ _ (by simp; omega)]
        simp only [Option.bind_some]
        have := head_loop t ht n 0 ((l ++ kindName k) ++ [58, 34]) (by omega) (by omega) (by simp; omega)
        rw [show ((0 : Nat) : Int) = 0 from rfl] at this
        rw [this]
        have he := escL_len t
        simp only [Option.bind_some, List.drop_zero]
        rw [show b8of 34 = 34 from rfl, wb_eq _ _ (by simp; omega)]
        simp
  · rw [kindName_lit]
    have go : ∀ s : List UInt8, s.length ≤ 25 → ((m_strings_Builder_WriteString s l).bind fun x => match x with | (_, _, b) => some b) = some (l ++ s) := fun s hs => by
      rw [ws_eq _ _ (by omega)]; rfl
    rcases kinds k with rfl | rfl | rfl | rfl | rfl | rfl | rfl | rfl | rfl | rfl | rfl | rfl | hk'
    all_goals first | exact go _ (by decide) | skip
    rw [show decide (1 ≤ k ∧ k ≤ 12) = false from decide_eq_false (by omega), cond_false, ito_eq hk]
    simp only [Option.bind_some]
    rw [req_t (by simp; omega), if_neg (by omega), if_neg (by omega), if_neg (by omega), if_neg (by omega), if_neg (by omega), if_neg (by omega), if_neg (by omega), if_neg (by omega), if_neg (by omega), if_neg (by omega), if_neg (by omega), if_neg (by omega)]
    exact go _ (by simp; omega)

/-- What is still to be written of a node of which i kids are begun. -/
def remK (ks : List Nd) (i : Nat) : List UInt8 := if i = 0 then kidsL (dumpsL ks) else dumpsL (ks.drop i) ++ [41]
def outS : List (Nd × Nat) → List UInt8
  | [] => []
  | p :: r => outS r ++ remK p.1.kids p.2
def itS : List (Nd × Nat) → Nat
  | [] => 0
  | p :: r => itS r + (1 + 2 * Nd.cnts (p.1.kids.drop p.2))
theorem outS_snoc (p : Nd × Nat) : ∀ L, outS (L ++ [p]) = remK p.1.kids p.2 ++ outS L
  | [] => by simp [outS]
  | q :: r => by simp only [List.cons_append, outS, outS_snoc p r, List.append_assoc]
theorem itS_snoc (p : Nd × Nat) : ∀ L, itS (L ++ [p]) = itS L + (1 + 2 * Nd.cnts (p.1.kids.drop p.2))
  | [] => by simp [itS]
  | q :: r => by simp only [List.cons_append, itS, itS_snoc p r]; omega
theorem itS_len : ∀ L, L.length ≤ itS L
  | [] => Nat.le_refl _
  | q :: r => by have := itS_len r; simp only [itS, List.length_cons]; omega
theorem remK_step {ks : List Nd} {i : Nat} (h : i < ks.length) : remK ks i = (if i = 0 then 40 else 32) :: (dumpL ks[i] ++ remK ks (i + 1)) := by
  unfold remK
  rw [if_neg (by omega : ¬ i + 1 = 0)]
  by_cases h0 : i = 0
  · subst h0
    rw [if_pos rfl, if_pos rfl]
    match ks, h with
    | v :: vs, _ => simp [dumpsL, kidsL]
  · rw [if_neg h0, if_neg h0, List.drop_eq_getElem_cons h]
    simp [dumpsL]
theorem remK_end (ks : List Nd) : remK ks ks.length = if ks.length = 0 then [] else [41] := by
  unfold remK
  by_cases h : ks.length = 0
  · rw [if_pos h, if_pos h, List.length_eq_zero_iff.1 h]; rfl
  · rw [if_neg h, if_neg h, List.drop_length]; rfl
theorem dumpL_eq (k : Int) (t : List UInt8) (c : Int) (ks : List Nd) : dumpL (.mk k t c ks) = headL k t c ++ remK ks 0 := by
  simp [dumpL, remK]
theorem w_kids' (k : Int) (t : List UInt8) (c : Int) (ks : List Nd) : (Nd.mk k t c ks).w = t.length + Nd.ws ks + 1 := rfl
def entI (p : Nd × Nat) : Nd × Int := (p.1, (p.2 : Int))
theorem Dump_loop (n : Nat) : ∀ (k : Nat) (L : List (Nd × Nat)) (b : List UInt8), itS L < k → itS L ≤ 1000000000 → (∀ p ∈ L, p.2 ≤ p.1.kids.length ∧ p.1.rng ∧ p.1.w ≤ 16777216 ∧ p.1.w < n) → b.length + (outS L).length ≤ 4000000000 →
    m_node_Dump_l1 n k b (L.map entI) = some (b ++ outS L)
  | 0, _, _, h, _, _, _ => by omega
  | k + 1, L, b, hk, hit, hL, hb => by
    unfold m_node_Dump_l1
    rcases List.eq_nil_or_concat L with rfl | ⟨L, ⟨v, i⟩, rfl⟩
    · simp [outS]
    · rw [List.concat_eq_append] at *
      obtain ⟨hi, hr, hw, hwn⟩ := hL (v, i) (by simp)
      obtain ⟨k0, t, c, ks⟩ := v
      replace hr : (Nd.mk k0 t c ks).rng := hr
      replace hw : (Nd.mk k0 t c ks).w ≤ 16777216 := hw
      replace hwn : (Nd.mk k0 t c ks).w < n := hwn
      have hlen : ((List.map entI (L ++ [(Nd.mk k0 t c ks, i)])).length : Int) = (L.length : Int) + 1 := by simp
      have hll := itS_len (L ++ [(Nd.mk k0 t c ks, i)])
      rw [List.length_append, List.length_singleton] at hll
      have hwr : IntKind.i64.wrap (((List.map entI (L ++ [(Nd.mk k0 t c ks, i)])).length : Int) - 1) = (L.length : Int) := by rw [hlen, wrap64_in (by omega) (by omega)]; omega
      have hat : at? (List.map entI (L ++ [(Nd.mk k0 t c ks, i)])) (L.length : Int) = some (Nd.mk k0 t c ks, (i : Int)) := by
        rw [at_get (by simp)]; simp [entI]
      rw [dec_t (by omega), cond_true, hwr, hat]
      simp only [Option.bind_some, Nd.kids] at hi ⊢
      rw [outS_snoc] at hb ⊢
      rw [itS_snoc] at hk hit
      simp only [Nd.kids] at hb hk hit ⊢
      by_cases he : i = ks.length
      · subst he
        rw [show ((ks.length : Int) == (ks.length : Int)) = true from beq_self_eq_true _, cond_true]
        have hre := remK_end ks
        have hx : (bif decide (0 < (ks.length : Int)) then (m_strings_Builder_WriteByte (b8of 41) b).bind (fun x => match x with | (_, b14) => some b14) else some b) = some (b ++ remK ks ks.length) := by
          rw [hre]
          by_cases h0 : ks.length = 0
          · rw [dec_f (by omega), cond_false, if_pos h0]; simp
          · rw [dec_t (by omega), cond_true, if_neg h0, wb_eq _ _ (by omega)]; rfl
        have hx' : ∀ X : Option (List UInt8), X = some (b ++ remK ks ks.length) → ∀ K : List UInt8 → Option (List UInt8), X.bind K = K (b ++ remK ks ks.length) := fun X h K => by rw [h]; rfl
        rw [hx' _ hx, req_t (by omega), Int.toNat_natCast]
        have ht : List.take L.length (List.map entI (L ++ [(Nd.mk k0 t c ks, ks.length)])) = L.map entI := by simp
        rw [ht, Dump_loop n k L _ (by omega) (by omega) (fun p hp => hL p (by simp [hp])) (by simp only [List.length_append] at hb ⊢; omega)]
        simp
      · have h : i < ks.length := by omega
        rw [ne_beq (by omega : (i : Int) ≠ (ks.length : Int)), cond_false, at_get h]
        have hd := Nd.cnts_drop h
        have hrs := remK_step h
        rw [hrs] at hb ⊢
        have hkr : (ks[i]).rng := Nd.rng_mem hr.2.2 (List.getElem_mem h)
        have hkw : (ks[i]).w < Nd.ws ks := Nd.w_mem (List.getElem_mem h)
        have hwt := w_kids' k0 t c ks
        rcases e : ks[i] with ⟨e1, e2, e3, e4⟩
        rw [e] at hd hkr hkw hb
        have hwt2 := w_kids' e1 e2 e3 e4
        have hct := Nd.cnt_kids (.mk e1 e2 e3 e4)
        simp only [Nd.kids] at hct
        rw [dumpL_eq] at hb
        simp only [Option.bind_some]
        have hsep : at? ([40, 32] : List UInt8) (if 1 < (i : Int) then 1 else (i : Int)) = some (if i = 0 then 40 else 32) := by
          by_cases h0 : i = 0
          · subst h0; rfl
          · rw [if_neg h0]
            by_cases h1 : i = 1
            · subst h1; rfl
            · rw [if_pos (by omega)]; rfl
        rw [hsep]
        simp only [Option.bind_some]
        simp only [List.length_append, List.length_cons] at hb
        rw [wb_eq _ _ (by omega)]
        simp only [Option.bind_some]
        rw [head_eq n e1 e2 e3 e4 _ (by omega) (by omega) hkr.1 hkr.2.1 (by simp; omega)]
        simp only [Option.bind_some]
        have hset : (List.map entI (L ++ [(Nd.mk k0 t c ks, i)])).set (L.length : Int).toNat (Nd.mk k0 t c ks, IntKind.i64.wrap ((i : Int) + 1)) ++ [(Nd.mk e1 e2 e3 e4, 0)] = (L ++ [(Nd.mk k0 t c ks, i + 1)] ++ [(Nd.mk e1 e2 e3 e4, 0)]).map entI := by
          have hlk := Nd.ws_len ks
          rw [wrap64_in (by omega) (by omega)]
          simp [entI]
        have hll2 := itS_len L
        rw [req_t (by simp; omega), hset]
        rw [Dump_loop n k _ _ (by rw [itS_snoc, itS_snoc]; simp only [Nd.kids, List.drop_zero]; omega) (by rw [itS_snoc, itS_snoc]; simp only [Nd.kids, List.drop_zero]; omega) ?_ ?_]
        · rw [outS_snoc, outS_snoc, dumpL_eq]
          simp [Nd.kids]
        · intro p hp
          rcases List.mem_append.1 hp with hp | hp
          · rcases List.mem_append.1 hp with hp | hp
            · exact hL p (by simp [hp])
            · simp only [List.mem_singleton] at hp; subst hp
              exact ⟨h, hr, hw, hwn⟩
          · simp only [List.mem_singleton] at hp; subst hp
            exact ⟨Nat.zero_le _, hkr, (show (Nd.mk e1 e2 e3 e4).w ≤ 16777216 by omega), (show (Nd.mk e1 e2 e3 e4).w < n by omega)⟩
        · rw [outS_snoc, outS_snoc]
          simp only [Nd.kids, List.length_append, List.length_cons, List.length_nil]
          omega
theorem dumpL_ne (t : Nd) : dumpL t ≠ [] := by
  obtain ⟨k, t, c, ks⟩ := t
  rw [dumpL_eq]
  unfold headL
  have := kindName_ne k
  simp [this]
theorem node_Dump_eq (n : Nat) (t : Nd) (h : 2 * t.w < n) (hw : t.w ≤ 16777216) (hr : t.rng) : m_node_Dump n t = some (dumpL t) := by
  have hlen := dumpL_len t hr
  have hne := dumpL_ne t
  have hcw := Nd.cnt_w t
  have hck := Nd.cnt_kids t
  obtain ⟨k, tx, c, ks⟩ := t
  have hwt := w_kids' k tx c ks
  simp only [Nd.kids] at hck
  unfold m_node_Dump m_node_kinds
  simp only [Option.bind_some]
  rw [head_eq n k tx c ks [] (by omega) (by omega) hr.1 hr.2.1 (by simp; omega)]
  simp only [Option.bind_some, List.nil_append]
  have hl := Dump_loop n n [(.mk k tx c ks, 0)] (headL k tx c) (by simp [itS, Nd.kids]; omega) (by simp [itS, Nd.kids]; omega) (fun p hp => by simp only [List.mem_singleton] at hp; subst hp; exact ⟨Nat.zero_le _, hr, hw, (show (Nd.mk k tx c ks).w < n by omega)⟩) (by
    rw [dumpL_eq] at hlen
    simp only [outS, Nd.kids, List.length_append, List.nil_append] at hlen ⊢; omega)
  have e : List.map entI [(Nd.mk k tx c ks, 0)] = [(Nd.mk k tx c ks, 0)] := rfl
  rw [e] at hl
  rw [hl, Option.bind_some]
  have e2 : headL k tx c ++ outS [(Nd.mk k tx c ks, 0)] = dumpL (.mk k tx c ks) := by rw [dumpL_eq]; simp [outS, Nd.kids]
  rw [e2]
  unfold m_strings_Builder_String
  rw [req_t ⟨hne, by omega⟩, Option.bind_some]

theorem digit_pos (r : Nat) (h : r < 10) : b8of (IntKind.u8.wrap (IntKind.i64.wrap (48 + (r : Int)))) = UInt8.ofNat (48 + r) := by
  have : ∀ r < 10, b8of (IntKind.u8.wrap (IntKind.i64.wrap (48 + ((r : Nat) : Int)))) = UInt8.ofNat (48 + r) := by decide
  exact this r h
theorem digit_neg (r : Nat) (h : r < 10) : b8of (IntKind.u8.wrap (IntKind.i64.wrap (48 - -(r : Int)))) = UInt8.ofNat (48 + r) := by
  have : ∀ r < 10, b8of (IntKind.u8.wrap (IntKind.i64.wrap (48 - -((r : Nat) : Int)))) = UInt8.ofNat (48 + r) := by decide
  exact this r h
/-- The loop: the digits but the first one. -/
theorem int_loop : ∀ (k u : Nat) (s : List UInt8), u < 10 ^ k → u < 9223372036854775808 → s.length + k ≤ 1000 → ∃ (q : Nat) (r : List UInt8), m_r09_Int_l1 (k + 1) (u : Int) s = some ((q : Int), r) ∧ q < 10 ∧ r.length ≤ s.length + k ∧ UInt8.ofNat (48 + q) :: r = Lib.decDigits u ++ s
  | k, u, s, hk, hu, hs => by
    unfold m_r09_Int_l1
    by_cases h : u < 10
    · rw [dec_f (by omega), cond_false]
      exact ⟨u, s, rfl, h, by omega, by rw [Lib.decDigits, dif_pos h]; rfl⟩
    · rw [dec_t (by omega), cond_true]
      match k, hk with
      | 0, hk => simp at hk; omega
      | k + 1, hk =>
        have e1 : (u : Int).tmod 10 = ((u % 10 : Nat) : Int) := by rw [Int.tmod_eq_emod_of_nonneg (by omega)]; rfl
        have e2 : IntKind.i64.wrap ((u : Int).tdiv 10) = ((u / 10 : Nat) : Int) := by
          rw [Int.tdiv_eq_ediv_of_nonneg (by omega), wrap64_in (by omega) (by omega)]; rfl
        rw [e1, e2, digit_pos _ (Nat.mod_lt _ (by decide)), req_t (by simp; omega)]
        obtain ⟨q, r, h1, h2, h3, h4⟩ := int_loop k (u / 10) ([UInt8.ofNat (48 + u % 10)] ++ s) (by rw [Nat.pow_succ] at hk; omega) (by omega) (by simp; omega)
        refine ⟨q, r, h1, h2, by simp at h3; omega, ?_⟩
        rw [h4, Lib.decDigits.eq_def u, dif_neg h]
        simp
theorem r09_Int_nn (n u : Nat) (h : 25 ≤ n) (hu : u < 9223372036854775808) : m_r09_Int (n + 1) (u : Int) = some (Lib.decDigits u) := by
  unfold m_r09_Int
  rw [dec_f (by omega), cond_false]
  obtain ⟨q, r, h1, h2, h3, h4⟩ := int_loop (min (n - 1) 900) u [] (by
    have : (10 : Nat) ^ 24 ≤ 10 ^ (min (n - 1) 900) := Nat.pow_le_pow_right (by decide) (by omega)
    have : (9223372036854775808 : Nat) ≤ 10 ^ 24 := by decide
    omega) hu (by simp; omega)
  have hl : ∀ (k m : Nat) (x : Int) (s : List UInt8) y, m_r09_Int_l1 k x s = some y → m_r09_Int_l1 (k + m) x s = some y := by
    intro k
    induction k with
    | zero => intro m x s y h; simp [m_r09_Int_l1] at h
    | succ k ih =>
      intro m x s y h
      rw [show k + 1 + m = (k + m) + 1 by omega]
      unfold m_r09_Int_l1 at h ⊢
      by_cases hx : 10 ≤ x
      · rw [dec_t hx, cond_true] at h ⊢
        obtain ⟨hq, h⟩ := req_out h
        rw [req_t hq]
        exact ih m _ _ _ h
      · rw [dec_f hx, cond_false] at h ⊢
        exact h
  have := hl _ (n - (min (n - 1) 900 + 1)) _ _ _ h1
  rw [show min (n - 1) 900 + 1 + (n - (min (n - 1) 900 + 1)) = n by omega] at this
  rw [this]
  simp only [Option.bind_some]
  rw [digit_pos q h2, req_t (by simp at h3 ⊢; omega)]
  simpa using h4
theorem r09_Int_eq (n : Nat) (x : Int) (h : 30 ≤ n) (hx : in64i x) : m_r09_Int n x = some (Lib.itoa x) := by
  unfold in64i at hx
  obtain ⟨n, rfl⟩ : ∃ m, n = m + 1 := ⟨n - 1, by omega⟩
  by_cases h0 : x < 0
  · obtain ⟨u, rfl⟩ : ∃ u : Nat, x = -(u : Int) := ⟨x.natAbs, by omega⟩
    have e1 : (-(u : Int)).tmod 10 = -((u % 10 : Nat) : Int) := by rw [Int.neg_tmod, Int.tmod_eq_emod_of_nonneg (by omega)]; rfl
    have e2 : IntKind.i64.wrap ((-(u : Int)).tdiv 10) = -((u / 10 : Nat) : Int) := by
      rw [Int.neg_tdiv, Int.tdiv_eq_ediv_of_nonneg (by omega), wrap64_in (by omega) (by omega)]; rfl
    unfold m_r09_Int Lib.itoa
    rw [dec_t h0, cond_true, if_pos h0, e1, e2, digit_neg _ (Nat.mod_lt _ (by decide)), show (-(u : Int)).natAbs = u by omega]
    by_cases h1 : u / 10 = 0
    · rw [h1, show (-((0 : Nat) : Int) != 0) = false from rfl, cond_false, req_t (by simp), Lib.decDigits, dif_pos (by omega), Nat.mod_eq_of_lt (by omega)]
      rfl
    · rw [show (-((u / 10 : Nat) : Int) != 0) = true from bne_iff_ne.2 (by omega), cond_true]
      have e3 : IntKind.i64.wrap (0 - -((u / 10 : Nat) : Int)) = ((u / 10 : Nat) : Int) := by rw [wrap64_in (by omega) (by omega)]; omega
      obtain ⟨m, rfl⟩ : ∃ m, n = m + 1 := ⟨n - 1, by omega⟩
      rw [e3, r09_Int_nn m (u / 10) (by omega) (by omega)]
      have hl := Lib.nDigits_le20 (u / 10) (by omega)
      have hl2 := Lib.decDigits_length (u / 10)
      simp only [Option.bind_some]
      rw [req_t (by simp; omega), req_t (by simp; omega), Lib.decDigits.eq_def u, dif_neg (by omega)]
      simp
  · obtain ⟨u, rfl⟩ : ∃ u : Nat, x = (u : Int) := ⟨x.toNat, by omega⟩
    unfold Lib.itoa
    rw [if_neg h0, Int.toNat_natCast]
    exact r09_Int_nn n u (by omega) (by omega)

/- Quoted. -/
theorem quot_loop (t : List UInt8) (ht : t.length ≤ 1073741824) : ∀ (k i : Nat) (l : List UInt8), t.length - i < k → i ≤ t.length → l.length + 2 * (t.length - i) < 4294967296 →
    m_r09_Quoted_l1 t k (i : Int) l = some (l ++ escL (t.drop i))
  | 0, _, _, h, _, _ => by omega
  | k + 1, i, l, hk, hi, hl => by
    unfold m_r09_Quoted_l1
    by_cases h : i < t.length
    · rw [dec_t (Int.ofNat_lt.2 h), cond_true, at_get h, escL_drop h]
      simp only [Option.bind_some, (byte_q t[i]).1, (byte_q t[i]).2]
      rw [wi_succ (by omega)]
      have e92 : b8of 92 = 92 := rfl
      have hx : (bif t[i] == 34 then some true else some (t[i] == 92) : Option Bool) = some (decide (t[i] = 34 ∨ t[i] = 92)) := by
        by_cases h1 : t[i] = 34
        · simp [h1]
        · by_cases h2 : t[i] = 92
          · simp [h2]
          · rw [beq_eq_false_iff_ne.2 h1, beq_eq_false_iff_ne.2 h2, cond_false, decide_eq_false (by intro h; exact h.elim h1 h2)]
      rw [hx]
      simp only [Option.bind_some]
      by_cases hq : t[i] = 34 ∨ t[i] = 92
      · rw [decide_eq_true hq, cond_true, if_pos hq, req_t (by simp; omega)]
        simp only [Option.bind_some]
        rw [req_t (by simp; omega)]
        simp only [Option.bind_some]
        rw [quot_loop t ht k (i + 1) _ (by omega) (by omega) (by simp; omega), e92]
        simp
      · rw [decide_eq_false hq, cond_false, if_neg hq]
        simp only [Option.bind_some]
        rw [req_t (by simp; omega)]
        simp only [Option.bind_some]
        rw [quot_loop t ht k (i + 1) _ (by omega) (by omega) (by simp; omega)]
        simp
    · rw [dec_f (by omega), cond_false]
      obtain rfl : i = t.length := by omega
      simp [escL]
theorem r09_Quoted_eq (n : Nat) (t : List UInt8) (hn : t.length < n) (ht : t.length ≤ 1073741824) : m_r09_Quoted n t = some (34 :: (escL t ++ [34])) := by
  unfold m_r09_Quoted
  have := quot_loop t ht n 0 [34] (by omega) (by omega) (by simp; omega)
  rw [show ((0 : Nat) : Int) = 0 from rfl, List.drop_zero] at this
  have he := escL_len t
  show (m_r09_Quoted_l1 t n 0 [b8of 34]).bind _ = _
  rw [show b8of 34 = 34 from rfl, this, Option.bind_some, req_t (by simp; omega)]
  simp

/- The reference's Dump. -/
theorem rdump_loop {F : Nd → Option (List UInt8)} {ks : List Nd} (hF : ∀ v ∈ ks, F v = some (dumpL v)) (hl : ks.length ≤ 1073741824) :
    ∀ (q i : Nat) (x : List UInt8), ks.length - i < q → i ≤ ks.length → x.length + (dumpsL (ks.drop i)).length ≤ 4294967296 →
      m_r09_Dump_l1 F ks q x (i : Int) = some (x ++ (if i = 0 then (dumpsL ks).tail else dumpsL (ks.drop i)))
  | 0, _, _, h, _, _ => by omega
  | q + 1, i, x, hq, hi, hx => by
    unfold m_r09_Dump_l1
    by_cases h : i < ks.length
    · have hd := List.drop_eq_getElem_cons h
      have hf := hF _ (List.getElem_mem h)
      rw [hd] at hx
      rw [dec_t (Int.ofNat_lt.2 h), cond_true, at_get h]
      rcases e : ks[i] with ⟨e1, e2, e3, e4⟩
      rw [e] at hf hd hx
      simp only [dumpsL, List.length_cons, List.length_append] at hx
      simp only [Option.bind_some, hf]
      rw [wi_succ (by omega)]
      by_cases h0 : i = 0
      · subst h0
        rw [dec_f (by omega), cond_false]
        simp only [Option.bind_some]
        rw [req_t (by omega)]
        simp only [Option.bind_some]
        have ih := rdump_loop hF hl q 1 (x ++ dumpL (.mk e1 e2 e3 e4)) (by omega) (by omega) (by simp at hx ⊢; omega)
        rw [show (((0 + 1 : Nat)) : Int) = ((1 : Nat) : Int) from rfl, ih, if_neg (by decide)]
        rw [List.drop_zero] at hd
        have hd' := congrArg dumpsL hd
        simp only [dumpsL] at hd'
        simp [hd']
      · rw [dec_t (by omega), cond_true, req_t (by simp; omega)]
        simp only [Option.bind_some]
        rw [req_t (by simp; omega)]
        simp only [Option.bind_some]
        rw [rdump_loop hF hl q (i + 1) _ (by omega) (by omega) (by simp; omega), if_neg (by omega), if_neg h0, hd]
        simp [dumpsL]
    · rw [dec_f (by omega), cond_false]
      obtain rfl : i = ks.length := by omega
      congr 1
      by_cases h0 : ks.length = 0
      · rw [if_pos h0, List.length_eq_zero_iff.1 h0]; simp [dumpsL]
      · rw [if_neg h0, List.drop_length]; simp [dumpsL]
theorem kidsL_tail {l : List UInt8} (h : l ≠ []) : kidsL l = 40 :: (l.tail ++ [41]) := by
  cases l with
  | nil => exact absurd rfl h
  | cons a l => rfl
theorem r09_Dump_eq : ∀ (n : Nat) (t : Nd), t.w + 40 < n → t.w ≤ 16777216 → t.rng → m_r09_Dump n t = some (dumpL t)
  | 0, _, h, _, _ => by omega
  | n + 1, .mk k t c ks, h, hw, hr => by
    have hwt := w_kids' k t c ks
    have hki := Lib.itoa_length_le k hr.1.1 hr.1.2
    have hci := Lib.itoa_length_le c hr.2.1.1 hr.2.1.2
    have hkl := kindName_len hr.1
    have he := escL_len t
    have hd := dumpsL_len ks hr.2.2
    unfold m_r09_Dump
    rw [r09_Int_eq n k (by omega) hr.1]
    simp only [Option.bind_some]
    rw [req_t (by simp; omega), kind_in]
    simp only [Option.bind_some]
    have h1 : ∀ X : Option (List UInt8), X = some (kindName k) → ∀ K : List UInt8 → Option (List UInt8), X.bind K = K (kindName k) := fun X h K => by rw [h]; rfl
    rw [h1 _ ?_]
    · have h2 : ∀ X : Option (List UInt8), X = some (kindName k ++ textL t) → ∀ K : List UInt8 → Option (List UInt8), X.bind K = K (kindName k ++ textL t) := fun X h K => by rw [h]; rfl
      rw [h2 _ ?_]
      · have hx : (textL t).length ≤ 3 + 2 * t.length := by unfold textL; split <;> simp; omega
        have h3 : ∀ X : Option (List UInt8), X = some ((kindName k ++ textL t) ++ colsL c) → ∀ K : List UInt8 → Option (List UInt8), X.bind K = K ((kindName k ++ textL t) ++ colsL c) := fun X h K => by rw [h]; rfl
        rw [h3 _ ?_]
        · have hy : (colsL c).length ≤ 22 := by unfold colsL; split <;> simp; omega
          by_cases h0 : ks = []
          · subst h0
            simp [dumpL, dumpsL, kidsL, headL]
          · have hkl : ks.length ≠ 0 := by simpa using h0
            rw [ne_beq (by omega : (ks.length : Int) ≠ 0), cond_false, req_t (by simp; omega)]
            have hlk := Nd.ws_len ks
            have hlo := rdump_loop (F := m_r09_Dump n) (ks := ks) (fun v hv => r09_Dump_eq n v (by have := Nd.w_mem hv; omega) (by have := Nd.w_mem hv; omega) (Nd.rng_mem hr.2.2 hv)) (by omega) n 0 (((kindName k ++ textL t) ++ colsL c) ++ [40]) (by omega) (by omega) (by simp; omega)
            rw [show ((0 : Nat) : Int) = 0 from rfl, if_pos rfl] at hlo
            rw [hlo, Option.bind_some, req_t (by simp; omega)]
            have hne : dumpsL ks ≠ [] := by
              cases ks with
              | nil => exact absurd rfl h0
              | cons v vs => simp [dumpsL]
            simp [dumpL, headL, kidsL_tail hne]
        · unfold colsL
          by_cases h0 : c = 0
          · subst h0; simp
          · rw [if_neg h0, show (c != 0) = true from bne_iff_ne.2 h0, cond_true, req_t (by simp; omega), r09_Int_eq n c (by omega) hr.2.1]
            simp only [Option.bind_some]
            rw [req_t (by simp; omega)]
            simp
      · unfold textL
        by_cases h0 : t = []
        · subst h0; simp
        · rw [if_neg h0, show (!(t == [])) = true from by simp [h0], cond_true, req_t (by simp; omega), r09_Quoted_eq n t (by omega) (by omega)]
          simp only [Option.bind_some]
          rw [req_t (by simp; omega)]
          simp
    · rw [kindName_lit]
      rcases kinds k with rfl | rfl | rfl | rfl | rfl | rfl | rfl | rfl | rfl | rfl | rfl | rfl | hk'
      all_goals first | rfl | skip
      rw [show decide (1 ≤ k ∧ k ≤ 12) = false from decide_eq_false (by omega), cond_false, if_neg (by omega), if_neg (by omega), if_neg (by omega), if_neg (by omega), if_neg (by omega), if_neg (by omega), if_neg (by omega), if_neg (by omega), if_neg (by omega), if_neg (by omega), if_neg (by omega), if_neg (by omega)]
end Go.Proofs.YtefbmooajknmgaaDoor
