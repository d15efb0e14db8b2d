/-
  Joined out of: PCnt, PByte, PText, PVal, PDist, PDump, PFill, PMet, PNode, PAlign, PMrg1, PMrg2, PMrg3, PMrg4, PMrg5, PMrg6, PMrg7, PMrg8, PRow, PMrg9, PMrgA, PMrgB.
-/
import Derived.Lib.ItoaLen
import Derived.Test.YtgfneloodabafaaDoorZf
set_option linter.unusedVariables false
set_option linter.unusedSimpArgs false
namespace Go.Proofs.YtgfneloodabafaaDoor
open Go.Abs
theorem dec_t {φ : Prop} [Decidable φ] (h : φ) : decide φ = true := decide_eq_true h
theorem dec_f {φ : Prop} [Decidable φ] (h : ¬ φ) : decide φ = false := decide_eq_false h
theorem r09_Count_loop {F : Nd → Option Int} {ks : List Nd} (hF : ∀ v ∈ ks, F v = some (v.cnt : Int)) :
    ∀ (k i : Nat) (o : Nat), ks.length - i < k → i ≤ ks.length → o + Nd.cnts (ks.drop i) ≤ 1073741824 → ks.length ≤ 1073741824 → m_r09_Count_l1 F ks k (o : Int) (i : Int) = some ((o + Nd.cnts (ks.drop i) : Nat) : Int)
  | 0, _, _, h, _, _, _ => by omega
  | k + 1, i, o, hk, hi, ho, hl => by
    unfold m_r09_Count_l1
    by_cases h : i < ks.length
    · rw [dec_t (Int.ofNat_lt.2 h), cond_true, at_get h]
      have hd := Nd.cnts_drop h
      have hf := hF _ (List.getElem_mem h)
      rcases e : ks[i] with ⟨a, b, c, d⟩
      rw [e] at hd hf
      simp only [Option.bind_some, hf]
      rw [wrap64_in (by omega) (by omega), wi_succ (by omega), ← Int.natCast_add, r09_Count_loop hF k (i + 1) _ (by omega) (by omega) (by omega) hl, hd]
      congr 2; omega
    · rw [dec_f (by omega), cond_false]
      obtain rfl : i = ks.length := by omega
      simp [Nd.cnts]
theorem r09_Count_eq : ∀ (n : Nat) (t : Nd), t.cnt < n → t.cnt ≤ 67108864 → m_r09_Count n t = some (t.cnt : Int)
  | 0, _, h, _ => by omega
  | n + 1, .mk a b c ks, h, hb => by
    simp only [Nd.cnt] at h hb
    have hl := Nd.cnts_len ks
    unfold m_r09_Count
    have := r09_Count_loop (F := m_r09_Count n) (ks := ks) (fun v hv => r09_Count_eq n v (by have := Nd.cnts_mem hv; omega) (by have := Nd.cnts_mem hv; omega)) n 0 1 (by omega) (by omega) (by simp; omega) (by omega)
    rw [show ((0 : Nat) : Int) = 0 from rfl, show ((1 : Nat) : Int) = 1 from rfl] at this
    rw [this]
    simp only [Option.bind_some, List.drop_zero, Nd.cnt]
    congr 2; omega
def scnt : List (Nd × Int) → Nat
  | [] => 0
  | p :: l => p.1.cnt + scnt l
theorem scnt_append : ∀ a b : List (Nd × Int), scnt (a ++ b) = scnt a + scnt b
  | [], b => by simp [scnt]
  | v :: a, b => by simp only [List.cons_append, scnt, scnt_append a b]; omega
theorem scnt_len : ∀ a : List (Nd × Int), a.length ≤ scnt a
  | [] => Nat.le_refl _
  | v :: a => by have := scnt_len a; have := v.1.cnt_pos; simp only [scnt, List.length_cons]; omega
theorem each_loop2 {ks : List Nd} {d : Int} : ∀ (k i : Nat) (l : List (Nd × Int)), ks.length - i < k → i ≤ ks.length → scnt l + Nd.cnts (ks.drop i) ≤ 1073741824 → ks.length ≤ 1073741824 →
    ∃ l', m_node_each_l2 ks d k (i : Int) l = some l' ∧ scnt l' = scnt l + Nd.cnts (ks.drop i)
  | 0, _, _, h, _, _, _ => by omega
  | k + 1, i, l, hk, hi, ho, hl => by
    unfold m_node_each_l2
    by_cases h : i < ks.length
    · rw [dec_t (Int.ofNat_lt.2 h), cond_true, at_get h]
      have hd := Nd.cnts_drop h
      rcases e : ks[i] with ⟨a, b, c, e4⟩
      rw [e] at hd
      have hp := (Nd.mk a b c e4).cnt_pos
      have hll := scnt_len l
      simp only [Option.bind_some]
      rw [req_t (by simp only [List.length_singleton]; omega), wi_succ (by omega)]
      have hs : scnt (l ++ [(Nd.mk a b c e4, IntKind.i64.wrap (d + 1))]) = scnt l + (Nd.mk a b c e4).cnt := by rw [scnt_append]; simp [scnt]
      obtain ⟨l', h1, h2⟩ := each_loop2 (ks := ks) (d := d) k (i + 1) (l ++ [(Nd.mk a b c e4, IntKind.i64.wrap (d + 1))]) (by omega) (by omega) (by omega) hl
      exact ⟨l', h1, by omega⟩
    · rw [dec_f (by omega), cond_false]
      obtain rfl : i = ks.length := by omega
      exact ⟨l, rfl, by simp [Nd.cnts]⟩
theorem each_loop1 (n : Nat) : ∀ (k : Nat) (x : Nat) (l : List (Nd × Int)), scnt l < k → scnt l < n → x + scnt l ≤ 67108864 → m_node_each_l1 n k (x : Int) l = some ((x + scnt l : Nat) : Int)
  | 0, _, _, h, _, _ => by omega
  | k + 1, x, l, hk, hn, hx => by
    unfold m_node_each_l1
    rcases List.eq_nil_or_concat l with rfl | ⟨l, p, rfl⟩
    · simp [scnt]
    · rw [List.concat_eq_append] at *
      obtain ⟨⟨a, b, c, ks⟩, d⟩ := p
      have hs : scnt (l ++ [(Nd.mk a b c ks, d)]) = scnt l + (Nd.cnts ks + 1) := by rw [scnt_append]; simp [scnt, Nd.cnt]
      have hll := scnt_len l
      have hlk := Nd.cnts_len ks
      have hlen : ((l ++ [(Nd.mk a b c ks, d)]).length : Int) = (l.length : Int) + 1 := by simp
      have hw : IntKind.i64.wrap (((l ++ [(Nd.mk a b c ks, d)]).length : Int) - 1) = (l.length : Int) := by rw [hlen, wrap64_in (by omega) (by omega)]; omega
      rw [dec_t (by omega), cond_true, hw, at_get (by simp)]
      simp only [List.getElem_concat_length, Option.bind_some]
      rw [req_t (by omega)]
      simp only [m_node_Count_1, Option.bind_some, Int.toNat_natCast, List.take_left]
      obtain ⟨l', h1, h2⟩ := each_loop2 (ks := ks) (d := d) n 0 l (by omega) (by omega) (by simp; omega) (by omega)
      rw [List.drop_zero] at h2
      rw [show ((0 : Nat) : Int) = 0 from rfl] at h1
      rw [h1, Option.bind_some, wi_succ (by omega), each_loop1 n k (x + 1) l' (by omega) (by omega) (by omega)]
      congr 2; omega
theorem node_Count_eq (n : Nat) (t : Nd) (h : t.cnt < n) (hb : t.cnt ≤ 67108864) : m_node_Count n t = some (t.cnt : Int) := by
  obtain ⟨a, b, c, ks⟩ := t
  have := each_loop1 n n 0 [(.mk a b c ks, 1)] (by simpa [scnt] using h) (by simpa [scnt] using h) (by simp only [scnt]; omega)
  rw [show ((0 : Nat) : Int) = 0 from rfl] at this
  simp only [m_node_Count, m_node_each, this, Option.bind_some, scnt]
  congr 2; omega
theorem left_loop {F : Nd → Int → Option Int} {ks : List Nd} {b : Nat} (hF : ∀ (v : Nd) (m : Nat), m ≤ b → ∃ r, F v (m : Int) = some r ∧ -1 ≤ r ∧ r < m ∧ (0 ≤ r → r + v.cnt = m)) :
    ∀ (k i : Nat) (m : Int), m + 1 < k → -1 ≤ m → m ≤ b → i ≤ ks.length → (i : Int) + m < 4611686018427387904 → ∃ r, m_r09_left_l1 F ks k m (i : Int) = some r ∧ -1 ≤ r ∧ r ≤ m ∧ (0 ≤ r → r + Nd.cnts (ks.drop i) = m)
  | 0, _, _, h, _, _, _, _ => by omega
  | k + 1, i, m, hk, hm, hb, hi, hx => by
    unfold m_r09_left_l1
    by_cases h : i < ks.length
    · rw [dec_t (Int.ofNat_lt.2 h), cond_true]
      simp only [Option.bind_some]
      by_cases h0 : 0 ≤ m
      · rw [dec_t h0, cond_true, at_get h]
        have hd := Nd.cnts_drop h
        rcases e : ks[i] with ⟨e1, e2, e3, e4⟩
        rw [e] at hd
        simp only [Option.bind_some]
        obtain ⟨m', rfl⟩ := Int.eq_ofNat_of_zero_le h0
        obtain ⟨r, h1, h2, h3, h4⟩ := hF (.mk e1 e2 e3 e4) m' (by omega)
        rw [h1, Option.bind_some, wi_succ (by omega)]
        obtain ⟨r', g1, g2, g3, g4⟩ := left_loop (ks := ks) hF k (i + 1) r (by omega) h2 (by omega) (by omega) (by omega)
        exact ⟨r', g1, g2, by omega, fun g => by have := g4 g; have := h4 (by omega); omega⟩
      · rw [dec_f h0, cond_false]
        exact ⟨m, rfl, hm, Int.le_refl _, fun g => by omega⟩
    · rw [dec_f (by omega), cond_false]
      simp only [Option.bind_some, cond_false]
      obtain rfl : i = ks.length := by omega
      exact ⟨m, rfl, hm, Int.le_refl _, fun _ => by simp [Nd.cnts]⟩
theorem left_eq : ∀ (n : Nat) (t : Nd) (m : Nat), m + 1 < n → m ≤ 67108864 → ∃ r, m_r09_left n t (m : Int) = some r ∧ -1 ≤ r ∧ r < m ∧ (0 ≤ r → r + t.cnt = m)
  | 0, _, _, h, _ => by omega
  | n + 1, .mk a b c ks, m, h, hm => by
    unfold m_r09_left
    rw [wrap64_in (by omega) (by omega)]
    cases m with
    | zero =>
      cases n with
      | zero => omega
      | succ n =>
        refine ⟨-1, ?_, by omega, by omega, fun h => by omega⟩
        unfold m_r09_left_l1
        cases decide (((0 : Nat) : Int) < (ks.length : Int)) <;> simp <;> rfl
    | succ m =>
      obtain ⟨r, h1, h2, h3, h4⟩ := left_loop (F := m_r09_left n) (ks := ks) (b := m) (fun v q hq => left_eq n v q (by omega) (by omega)) n 0 (m : Int) (by omega) (by omega) (by omega) (by omega) (by omega)
      rw [show ((0 : Nat) : Int) = 0 from rfl] at h1
      rw [show ((m + 1 : Nat) : Int) - 1 = (m : Int) by omega, h1]
      exact ⟨r, rfl, h2, by omega, fun g => by have := h4 g; rw [List.drop_zero] at this; simp only [Nd.cnt]; omega⟩
theorem Few_eq (n : Nat) (t : Nd) (m : Nat) (h : m + 1 < n) (hm : m ≤ 67108864) : ∃ b, m_r09_Few n t (m : Int) = some b ∧ (b = true → t.cnt ≤ m) := by
  obtain ⟨a, b, c, ks⟩ := t
  obtain ⟨r, h1, h2, h3, h4⟩ := left_eq n (.mk a b c ks) m h hm
  refine ⟨decide (0 ≤ r), by simp [m_r09_Few, h1], fun g => by have g0 := of_decide_eq_true g; have := h4 g0; omega⟩
end Go.Proofs.YtgfneloodabafaaDoor
namespace Go.Proofs.YtgfneloodabafaaDoor
open Go.Abs
def allFl {α : Type} (p : α → Bool) (l : List α) : Fl Bool Unit := if l.all p then .go () else .ret false
theorem all_drop {α : Type} {p : α → Bool} {l : List α} {i : Nat} (h : i < l.length) : (l.drop i).all p = (p l[i] && (l.drop (i + 1)).all p) := by
  rw [List.drop_eq_getElem_cons h]; rfl
theorem any_drop {α : Type} {p : α → Bool} {l : List α} {i : Nat} (h : i < l.length) : (l.drop i).any p = (p l[i] || (l.drop (i + 1)).any p) := by
  rw [List.drop_eq_getElem_cons h]; rfl
theorem loop_all {α : Type} {p : α → Bool} {l : List α} (L : Nat → Int → Option (Fl Bool Unit)) (hb : l.length ≤ 1073741824)
    (h1 : ∀ (k i : Nat) (h : i < l.length), L (k + 1) (i : Int) = if p l[i] then L k (((i + 1 : Nat)) : Int) else some (.ret false)) (h2 : ∀ k, L (k + 1) (l.length : Int) = some (.go ())) :
    ∀ (k i : Nat), l.length - i < k → i ≤ l.length → L k (i : Int) = some (allFl p (l.drop i))
  | 0, _, h, _ => by omega
  | k + 1, i, hk, hi => by
    by_cases h : i < l.length
    · rw [h1 k i h, loop_all L hb h1 h2 k (i + 1) (by omega) (by omega)]
      unfold allFl
      rw [all_drop h]
      cases p l[i] <;> simp
    · obtain rfl : i = l.length := by omega
      rw [h2]; simp [allFl]
theorem loop_any {α : Type} {p : α → Bool} {l : List α} (L : Nat → Int → Option (Fl Bool Unit)) (hb : l.length ≤ 1073741824)
    (h1 : ∀ (k i : Nat) (h : i < l.length), L (k + 1) (i : Int) = if p l[i] then some (.ret true) else L k (((i + 1 : Nat)) : Int)) (h2 : ∀ k, L (k + 1) (l.length : Int) = some (.go ())) :
    ∀ (k i : Nat), l.length - i < k → i ≤ l.length → L k (i : Int) = some (if (l.drop i).any p then .ret true else .go ())
  | 0, _, h, _ => by omega
  | k + 1, i, hk, hi => by
    by_cases h : i < l.length
    · rw [h1 k i h, loop_any L hb h1 h2 k (i + 1) (by omega) (by omega), any_drop h]
      cases p l[i] <;> simp
    · obtain rfl : i = l.length := by omega
      rw [h2]; simp
theorem u8_all {P : UInt8 → Bool} (h : (List.range 256).all (fun n => P n.toUInt8) = true) (b : UInt8) : P b = true := by
  have : P (UInt8.ofNat b.toNat) = true := List.all_eq_true.1 h b.toNat (List.mem_range.2 b.toNat_lt)
  rwa [UInt8.ofNat_toNat] at this
def letterB (b : UInt8) : Bool := (decide (97 ≤ b.toNat) && decide (b.toNat ≤ 122)) || (decide (65 ≤ b.toNat) && decide (b.toNat ≤ 90))
def digitB (b : UInt8) : Bool := decide (48 ≤ b.toNat) && decide (b.toNat ≤ 57)
def printB (b : UInt8) : Bool := decide (32 ≤ b.toNat) && decide (b.toNat ≤ 126)
theorem byte_letter1 (b : UInt8) : (bif decide ((bitOp .or .u8 (b.toNat : Int) 32) < 97) then some true else some (decide (122 < (bitOp .or .u8 (b.toNat : Int) 32)))) = some (!letterB b) :=
  of_decide_eq_true (u8_all (P := fun b => decide ((bif decide ((bitOp .or .u8 (b.toNat : Int) 32) < 97) then some true else some (decide (122 < (bitOp .or .u8 (b.toNat : Int) 32)))) = some (!letterB b))) (by decide +kernel) b)
theorem byte_letter2 (b : UInt8) : m_r09_Letter (b.toNat : Int) = some (letterB b) :=
  of_decide_eq_true (u8_all (P := fun b => decide (m_r09_Letter (b.toNat : Int) = some (letterB b))) (by decide +kernel) b)
theorem byte_digit2 (b : UInt8) : m_r09_Digit (b.toNat : Int) = some (digitB b) :=
  of_decide_eq_true (u8_all (P := fun b => decide (m_r09_Digit (b.toNat : Int) = some (digitB b))) (by decide +kernel) b)
theorem node_letters_eq (n : Nat) (s : List UInt8) (h : s.length < n) (hb : s.length ≤ 1073741824) : m_node_letters n s = some (s.all letterB) := by
  have := loop_all (p := letterB) (l := s) (m_node_letters_l1 s) hb (fun k i h => by
    rw [m_node_letters_l1, dec_t (Int.ofNat_lt.2 h), cond_true, at_get h]
    simp only [Option.bind_some, byte_letter1]
    rw [wi_succ (by omega)]
    cases letterB s[i] <;> rfl) (fun k => by rw [m_node_letters_l1, dec_f (by omega)]; rfl) n 0 (by omega) (by omega)
  rw [show ((0 : Nat) : Int) = 0 from rfl, List.drop_zero] at this
  rw [m_node_letters, this]
  unfold allFl
  cases s.all letterB <;> rfl
theorem r09_letters_eq (n : Nat) (s : List UInt8) (h : s.length < n) (hb : s.length ≤ 1073741824) : m_r09_Symbol_l1 s n 0 = some (allFl letterB s) := by
  have := loop_all (p := letterB) (l := s) (m_r09_Symbol_l1 s) hb (fun k i h => by
    rw [m_r09_Symbol_l1, dec_t (Int.ofNat_lt.2 h), cond_true, at_get h]
    simp only [Option.bind_some, byte_letter2]
    rw [wi_succ (by omega)]
    cases letterB s[i] <;> rfl) (fun k => by rw [m_r09_Symbol_l1, dec_f (by omega)]; rfl) n 0 (by omega) (by omega)
  rwa [show ((0 : Nat) : Int) = 0 from rfl, List.drop_zero] at this
theorem r09_has_eq (n : Nat) (s : List UInt8) (c : Int) (h : s.length < n) (hb : s.length ≤ 1073741824) : m_r09_has n s c = some (s.any fun b => (b.toNat : Int) == c) := by
  have := loop_any (p := fun b => (b.toNat : Int) == c) (l := s) (m_r09_has_l1 s c) hb (fun k i h => by
    rw [m_r09_has_l1, dec_t (Int.ofNat_lt.2 h), cond_true, at_get h]
    simp only [Option.bind_some]
    rw [wi_succ (by omega)]
    cases ((s[i].toNat : Int) == c) <;> rfl) (fun k => by rw [m_r09_has_l1, dec_f (by omega)]; rfl) n 0 (by omega) (by omega)
  rw [show ((0 : Nat) : Int) = 0 from rfl, List.drop_zero] at this
  rw [m_r09_has, this]
  cases s.any fun b => (b.toNat : Int) == c <;> rfl
theorem r09_In_eq (n : Nat) (l : List (List UInt8)) (s : List UInt8) (h : l.length < n) (hb : l.length ≤ 1073741824) : m_r09_In n l s = some (l.any fun e => e == s) := by
  have := loop_any (p := fun e => e == s) (l := l) (m_r09_In_l1 l s) hb (fun k i h => by
    rw [m_r09_In_l1, dec_t (Int.ofNat_lt.2 h), cond_true, at_get h]
    simp only [Option.bind_some]
    rw [wi_succ (by omega)]
    cases (l[i] == s) <;> rfl) (fun k => by rw [m_r09_In_l1, dec_f (by omega)]; rfl) n 0 (by omega) (by omega)
  rw [show ((0 : Nat) : Int) = 0 from rfl, List.drop_zero] at this
  rw [m_r09_In, this]
  cases l.any fun e => e == s <;> rfl
theorem node_digits_eq (n : Nat) (s : List UInt8) (h : s.length < n) (hb : s.length ≤ 1073741824) : m_node_digits n s = some (s.all digitB && !(s == [])) := by
  have := loop_all (p := digitB) (l := s) (m_node_digits_l1 s) hb (fun k i h => by
    rw [m_node_digits_l1, dec_t (Int.ofNat_lt.2 h), cond_true, at_get h]
    simp only [Option.bind_some]
    rw [wi_succ (by omega)]
    unfold digitB
    by_cases a : 48 ≤ s[i].toNat
    · by_cases b : s[i].toNat ≤ 57
      · simp [a, b, show ¬ ((s[i].toNat : Int) < 48) by omega, show ¬ (57 < (s[i].toNat : Int)) by omega]
      · simp [a, b, show ¬ ((s[i].toNat : Int) < 48) by omega, show (57 < (s[i].toNat : Int)) by omega]
    · simp [a, show ((s[i].toNat : Int) < 48) by omega]) (fun k => by rw [m_node_digits_l1, dec_f (by omega)]; rfl) n 0 (by omega) (by omega)
  rw [show ((0 : Nat) : Int) = 0 from rfl, List.drop_zero] at this
  rw [m_node_digits, this]
  unfold allFl
  cases s.all digitB <;> rfl
theorem print_bit (b : UInt8) : (bif decide ((b.toNat : Int) < 32) then some true else some (decide (126 < (b.toNat : Int))) : Option Bool) = some (!printB b) := by
  unfold printB
  by_cases a : 32 ≤ b.toNat
  · by_cases c : b.toNat ≤ 126
    · simp [a, c, show ¬ ((b.toNat : Int) < 32) by omega, show ¬ (126 < (b.toNat : Int)) by omega]
    · simp [a, c, show ¬ ((b.toNat : Int) < 32) by omega, show (126 < (b.toNat : Int)) by omega]
  · simp [a, show ((b.toNat : Int) < 32) by omega]
theorem node_plain_eq (n : Nat) (s : List UInt8) (h : s.length < n) (hb : s.length ≤ 1073741824) : m_node_plain n s = some (s.all printB && decide ((s.length : Int) ≤ 200)) := by
  have := loop_all (p := printB) (l := s) (m_node_plain_l1 s) hb (fun k i h => by
    rw [m_node_plain_l1, dec_t (Int.ofNat_lt.2 h), cond_true, at_get h]
    simp only [Option.bind_some, print_bit]
    rw [wi_succ (by omega)]
    cases printB s[i] <;> rfl) (fun k => by rw [m_node_plain_l1, dec_f (by omega)]; rfl) n 0 (by omega) (by omega)
  rw [show ((0 : Nat) : Int) = 0 from rfl, List.drop_zero] at this
  rw [m_node_plain, this]
  unfold allFl
  cases s.all printB <;> rfl
theorem r09_Printable_eq (n : Nat) (s : List UInt8) (h : s.length < n) (hb : s.length ≤ 1073741824) : m_r09_Printable n s = some (s.all printB) := by
  have := loop_all (p := printB) (l := s) (m_r09_Printable_l1 s) hb (fun k i h => by
    rw [m_r09_Printable_l1, dec_t (Int.ofNat_lt.2 h), cond_true, at_get h]
    simp only [Option.bind_some, print_bit]
    rw [wi_succ (by omega)]
    cases printB s[i] <;> rfl) (fun k => by rw [m_r09_Printable_l1, dec_f (by omega)]; rfl) n 0 (by omega) (by omega)
  rw [show ((0 : Nat) : Int) = 0 from rfl, List.drop_zero] at this
  rw [m_r09_Printable, this]
  unfold allFl
  cases s.all printB <;> rfl
end Go.Proofs.YtgfneloodabafaaDoor
namespace Go.Proofs.YtgfneloodabafaaDoor
open Go.Abs
def spL : List UInt8 := [43, 45, 42, 47, 61, 60, 62, 44, 59, 58, 33, 124, 39, 63, 126, 64]
def fsL : List UInt8 := [40, 41, 91, 93, 123, 125, 60, 62, 47, 124, 46]
def kwL : List (List UInt8) := [[102, 114, 97, 99], [114, 111, 111, 116], [109, 97, 116, 114, 105, 120], [102, 101, 110, 99, 101]]
def acL : List (List UInt8) := [[104, 97, 116], [98, 97, 114], [118, 101, 99], [100, 111, 116], [116, 105, 108, 100, 101], [99, 104, 101, 99, 107]]
def spB (c : UInt8) : Bool := decide (0 ≤ Lib.indexByte spL c)
def fsB (c : UInt8) : Bool := decide (0 ≤ Lib.indexByte fsL c)
theorem byte_sp (c : UInt8) : (spL.any fun b => (b.toNat : Int) == (c.toNat : Int)) = spB c :=
  of_decide_eq_true (u8_all (P := fun c => decide ((spL.any fun b => (b.toNat : Int) == (c.toNat : Int)) = spB c)) (by decide +kernel) c)
theorem byte_fs (c : UInt8) : (([40, 41, 91, 93, 123, 125, 124, 60, 62, 47, 46] : List UInt8).any fun b => (b.toNat : Int) == (c.toNat : Int)) = fsB c :=
  of_decide_eq_true (u8_all (P := fun c => decide ((([40, 41, 91, 93, 123, 125, 124, 60, 62, 47, 46] : List UInt8).any fun b => (b.toNat : Int) == (c.toNat : Int)) = fsB c)) (by decide +kernel) c)
theorem byte_fs1 (c : UInt8) : Lib.indexByte fsL ((c.toNat : Int).toNat.toUInt8) = Lib.indexByte fsL c := by
  rw [Int.toNat_natCast]; congr 1; exact UInt8.ofNat_toNat
theorem bcomm (e s : List UInt8) : (e == s) = (s == e) := by
  rw [Bool.eq_iff_iff]; simp only [beq_iff_eq]; exact eq_comm
theorem node_keyword_eq (s : List UInt8) : m_node_keyword s = some (kwL.any fun e => e == s) := by
  simp only [m_node_keyword, kwL, List.any_cons, List.any_nil, bcomm [102, 114, 97, 99] s, bcomm [114, 111, 111, 116] s, bcomm [109, 97, 116, 114, 105, 120] s, bcomm [102, 101, 110, 99, 101] s]
  generalize (s == [102, 114, 97, 99]) = b1
  generalize (s == [114, 111, 111, 116]) = b2
  generalize (s == [109, 97, 116, 114, 105, 120]) = b3
  generalize (s == [102, 101, 110, 99, 101]) = b4
  cases b1 <;> cases b2 <;> cases b3 <;> cases b4 <;> rfl
theorem node_accent_eq (s : List UInt8) : m_node_accent s = some (acL.any fun e => e == s) := by
  simp only [m_node_accent, acL, List.any_cons, List.any_nil, bcomm [104, 97, 116] s, bcomm [98, 97, 114] s, bcomm [118, 101, 99] s, bcomm [100, 111, 116] s, bcomm [116, 105, 108, 100, 101] s, bcomm [99, 104, 101, 99, 107] s]
  generalize (s == [104, 97, 116]) = b1
  generalize (s == [98, 97, 114]) = b2
  generalize (s == [118, 101, 99]) = b3
  generalize (s == [100, 111, 116]) = b4
  generalize (s == [116, 105, 108, 100, 101]) = b5
  generalize (s == [99, 104, 101, 99, 107]) = b6
  cases b1 <;> cases b2 <;> cases b3 <;> cases b4 <;> cases b5 <;> cases b6 <;> rfl
def symB (s : List UInt8) : Bool :=
  if s.length = 1 then s.all letterB || s.all spB
  else s.all letterB && (decide (2 ≤ s.length) && (decide (s.length ≤ 16) && (!(kwL.any fun e => e == s) && !(acL.any fun e => e == s))))
theorem len1 (s : List UInt8) : ((s.length : Int) == 1) = decide (s.length = 1) := by
  by_cases h : s.length = 1
  · simp [h]
  · rw [dec_f h]
    cases e : ((s.length : Int) == 1) with
    | false => rfl
    | true => have := eq_of_beq e; omega
theorem cast_le (a b : Nat) : decide ((a : Int) ≤ (b : Int)) = decide (a ≤ b) := by
  by_cases h : a ≤ b
  · rw [dec_t h, dec_t (by omega)]
  · rw [dec_f h, dec_f (by omega)]
theorem cast_lt (a b : Nat) : decide ((a : Int) < (b : Int)) = decide (a < b) := by
  by_cases h : a < b
  · rw [dec_t h, dec_t (by omega)]
  · rw [dec_f h, dec_f (by omega)]
theorem node_Symbol_eq (n : Nat) (s : List UInt8) (h : s.length + 40 < n) (hb : s.length ≤ 1073741824) : m_node_Symbol n s = some (symB s) := by
  rw [m_node_Symbol, len1, node_letters_eq n s (by omega) hb]
  unfold symB
  by_cases h1 : s.length = 1
  · rw [dec_t h1, if_pos h1]
    obtain ⟨c, rfl⟩ := List.length_eq_one_iff.1 h1
    have : m_strings_Contains [43, 45, 42, 47, 61, 60, 62, 44, 59, 58, 33, 124, 39, 63, 126, 64] [c] = some (spB c) := rfl
    simp only [cond_true, Option.bind_some, this, List.all_cons, List.all_nil, Bool.and_true]
    cases letterB c <;> rfl
  · rw [dec_f h1, if_neg h1]
    have e2 := cast_le 2 s.length
    have e16 := cast_le s.length 16
    rw [show ((2 : Nat) : Int) = 2 from rfl] at e2
    rw [show ((16 : Nat) : Int) = 16 from rfl] at e16
    simp only [cond_false, Option.bind_some, node_keyword_eq, node_accent_eq, e2, e16]
    cases s.all letterB <;> cases decide (2 ≤ s.length) <;> cases decide (s.length ≤ 16) <;> cases (kwL.any fun e => e == s) <;> rfl
theorem r09_Symbol_eq (n : Nat) (s : List UInt8) (h : s.length + 40 < n) (hb : s.length ≤ 1073741824) : m_r09_Symbol n s = some (symB s) := by
  rw [m_r09_Symbol, len1, r09_letters_eq n s (by omega) hb]
  unfold symB
  by_cases h1 : s.length = 1
  · rw [dec_t h1, if_pos h1]
    obtain ⟨c, rfl⟩ := List.length_eq_one_iff.1 h1
    have e1 : at? [c] (0 : Int) = some c := rfl
    have e2 : m_r09_has n [43, 45, 42, 47, 61, 60, 62, 44, 59, 58, 33, 124, 39, 63, 126, 64] (c.toNat : Int) = some (spB c) := by
      rw [r09_has_eq n _ _ (by simp only [List.length_cons, List.length_nil]; omega) (by simp only [List.length_cons, List.length_nil]; omega)]
      exact congrArg some (byte_sp c)
    simp only [cond_true, Option.bind_some, e1, m_r09_Character, byte_letter2, e2, List.all_cons, List.all_nil, Bool.and_true]
    cases letterB c <;> rfl
  · rw [dec_f h1, if_neg h1]
    have e2 := cast_le 2 s.length
    have e16 := cast_le s.length 16
    rw [show ((2 : Nat) : Int) = 2 from rfl] at e2
    rw [show ((16 : Nat) : Int) = 16 from rfl] at e16
    have ek : m_r09_In n kwL s = some (kwL.any fun e => e == s) := r09_In_eq n kwL s (by simp only [kwL, List.length_cons, List.length_nil]; omega) (by simp [kwL])
    have ea : m_r09_In n acL s = some (acL.any fun e => e == s) := r09_In_eq n acL s (by simp only [acL, List.length_cons, List.length_nil]; omega) (by simp [acL])
    have k1 : m_r09_Keywords = some kwL := rfl
    have a1 : m_r09_Accents = some acL := rfl
    unfold allFl
    simp only [cond_false, Option.bind_some, k1, a1, ek, ea, e2, e16]
    cases s.all letterB <;> cases decide (2 ≤ s.length) <;> cases decide (s.length ≤ 16) <;> cases (kwL.any fun e => e == s) <;> rfl
def fenB (s : List UInt8) : Bool := decide (s.length = 2) && s.all fsB
theorem len2 (s : List UInt8) : ((s.length : Int) == 2) = decide (s.length = 2) := by
  by_cases h : s.length = 2
  · simp [h]
  · rw [dec_f h]
    cases e : ((s.length : Int) == 2) with
    | false => rfl
    | true => have := eq_of_beq e; omega
theorem node_fence_eq (s : List UInt8) : m_node_fence s = some (fenB s) := by
  rw [m_node_fence, len2]
  unfold fenB
  by_cases h1 : s.length = 2
  · rw [dec_t h1]
    match s, h1 with
    | [c, d], _ =>
      have e0 : at? [c, d] (0 : Int) = some c := rfl
      have e1 : at? [c, d] (1 : Int) = some d := rfl
      have f : ∀ c : UInt8, m_strings_IndexByte [40, 41, 91, 93, 123, 125, 60, 62, 47, 124, 46] (c.toNat : Int) = some (Lib.indexByte fsL c) := fun c => congrArg some (byte_fs1 c)
      have g : ∀ c : UInt8, decide (0 ≤ Lib.indexByte fsL c) = fsB c := fun c => rfl
      simp only [cond_true, e0, e1, f, Option.bind_some, g, List.all_cons, List.all_nil, Bool.and_true, Bool.true_and]
      cases fsB c <;> rfl
  · rw [dec_f h1]; rfl
theorem r09_fence_eq (n : Nat) (s : List UInt8) (h : 40 < n) : (bif ((s.length : Int) == 2) then (
                (at? s 0).bind fun c9 =>
                (m_r09_has n [40, 41, 91, 93, 123, 125, 124, 60, 62, 47, 46] (c9.toNat : Int)).bind fun y11 =>
                bif y11 then (
                  (at? s 1).bind fun c12 =>
                  (m_r09_has n [40, 41, 91, 93, 123, 125, 124, 60, 62, 47, 46] (c12.toNat : Int)).bind fun y14 =>
                  some y14
                ) else (
                  some false
                )
              ) else (
                some false
              )) = some (fenB s) := by
  rw [len2]
  unfold fenB
  by_cases h1 : s.length = 2
  · rw [dec_t h1]
    match s, h1 with
    | [c, d], _ =>
      have e0 : at? [c, d] (0 : Int) = some c := rfl
      have e1 : at? [c, d] (1 : Int) = some d := rfl
      have f : ∀ c : UInt8, m_r09_has n [40, 41, 91, 93, 123, 125, 124, 60, 62, 47, 46] (c.toNat : Int) = some (fsB c) := fun c => by
        rw [r09_has_eq n _ _ (by simp only [List.length_cons, List.length_nil]; omega) (by simp only [List.length_cons, List.length_nil]; omega)]
        exact congrArg some (byte_fs c)
      simp only [cond_true, e0, e1, f, Option.bind_some, List.all_cons, List.all_nil, Bool.and_true, Bool.true_and]
      cases fsB c <;> rfl
  · rw [dec_f h1]; rfl
def okL (L : Nat) : Nat → List UInt8 → Bool
  | _, [] => true
  | i, c :: r => ((c == 46 && (decide (0 < i) && decide (i + 1 < L))) || digitB c) && okL L (i + 1) r
def numB (s : List UInt8) : Bool := okL s.length 0 s && (decide (0 < s.length) && (decide (s.length ≤ 20) && decide (s.count 46 ≤ 1)))
theorem byte46 (c : UInt8) : ((c.toNat : Int) == 46) = (c == 46) :=
  of_decide_eq_true (u8_all (P := fun c => decide (((c.toNat : Int) == 46) = (c == 46))) (by decide +kernel) c)
theorem dig46 : digitB 46 = false := by decide
theorem num_loop (s : List UInt8) (hb : s.length ≤ 1073741824) : ∀ (k i p : Nat), s.length - i < k → i ≤ s.length → p ≤ i →
    m_r09_Number_l1 s k (p : Int) (i : Int) = some (if okL s.length i (s.drop i) then .go ((p + (s.drop i).count 46 : Nat) : Int) else .ret false)
  | 0, _, _, h, _, _ => by omega
  | k + 1, i, p, hk, hi, hp => by
    unfold m_r09_Number_l1
    by_cases h : i < s.length
    · rw [dec_t (Int.ofNat_lt.2 h), cond_true, at_get h, List.drop_eq_getElem_cons h]
      generalize s[i] = c
      simp only [Option.bind_some, byte46, byte_digit2, okL, List.count_cons]
      rw [wi_succ (by omega), wi_succ (by omega), wrap64_in (by omega) (by omega)]
      have d1 : decide ((0 : Int) < (i : Int)) = decide (0 < i) := cast_lt 0 i
      have d2 : decide ((i : Int) < (s.length : Int) - 1) = decide (i + 1 < s.length) := by
        by_cases h : i + 1 < s.length
        · rw [dec_t h, dec_t (by omega)]
        · rw [dec_f h, dec_f (by omega)]
      rw [d1, d2]
      cases e : c == 46 with
      | true =>
        obtain rfl : c = 46 := eq_of_beq e
        simp only [cond_true, dig46, Bool.true_and, Bool.or_false]
        cases decide (0 < i) with
        | false => rfl
        | true =>
          simp only [cond_true, Option.bind_some, Bool.true_and]
          cases decide (i + 1 < s.length) with
          | false => rfl
          | true =>
            simp only [cond_true, Option.bind_some, Bool.true_and]
            rw [num_loop s hb k (i + 1) (p + 1) (by omega) (by omega) (by omega)]
            simp only [if_true]
            rw [show p + 1 + (s.drop (i + 1)).count 46 = p + ((s.drop (i + 1)).count 46 + 1) by omega]
      | false =>
        simp only [cond_false, Option.bind_some, Bool.false_and, Bool.false_or]
        cases digitB c with
        | false => rfl
        | true =>
          simp only [Bool.not_true, cond_false, Option.bind_some, Bool.true_and]
          rw [num_loop s hb k (i + 1) p (by omega) (by omega) (by omega)]
          simp
    · rw [dec_f (by omega), cond_false]
      obtain rfl : i = s.length := by omega
      simp [okL]
theorem r09_Number_eq (n : Nat) (s : List UInt8) (h : s.length < n) (hb : s.length ≤ 1073741824) : m_r09_Number n s = some (numB s) := by
  have := num_loop s hb n 0 0 (by omega) (by omega) (by omega)
  rw [show ((0 : Nat) : Int) = 0 from rfl, List.drop_zero] at this
  rw [m_r09_Number, this]
  unfold numB
  have e0 := cast_lt 0 s.length
  have e20 := cast_le s.length 20
  have e1 := cast_le (s.count 46) 1
  rw [show ((0 : Nat) : Int) = 0 from rfl] at e0
  rw [show ((20 : Nat) : Int) = 20 from rfl] at e20
  rw [show ((1 : Nat) : Int) = 1 from rfl] at e1
  cases okL s.length 0 s with
  | false => rfl
  | true =>
    simp only [if_true, Option.bind_some, e0, e20, Nat.zero_add, e1]
    cases decide (0 < s.length) <;> cases decide (s.length ≤ 20) <;> rfl
theorem cut_cases : ∀ s : List UInt8, (s.count 46 = 0 ∧ Lib.indexByte s 46 = -1) ∨ ∃ a b, s = a ++ 46 :: b ∧ a.count 46 = 0 ∧ Lib.indexByte s 46 = (a.length : Int)
  | [] => .inl ⟨rfl, rfl⟩
  | c :: s => by
    by_cases h : c = 46
    · subst h
      exact .inr ⟨[], s, rfl, rfl, by simp [Lib.indexByte]⟩
    · have hc : (c == 46) = false := by simpa using h
      rcases cut_cases s with ⟨h1, h2⟩ | ⟨a, b, rfl, h1, h2⟩
      · exact .inl ⟨by rw [List.count_cons, h1, hc]; rfl, by simp [Lib.indexByte, hc, h2]⟩
      · refine .inr ⟨c :: a, b, rfl, by rw [List.count_cons, h1, hc]; rfl, ?_⟩
        have h3 : ((a.length : Int) == -1) = false := by
          cases e : ((a.length : Int) == -1) with
          | false => rfl
          | true => have := eq_of_beq e; omega
        simp [Lib.indexByte, hc, h2, h3]
theorem okL_plain (L : Nat) : ∀ (i : Nat) (a : List UInt8), a.count 46 = 0 → okL L i a = a.all digitB
  | _, [], _ => rfl
  | i, c :: a, h => by
    have hc : (c == 46) = false := by
      cases e : c == 46 with
      | false => rfl
      | true => rw [List.count_cons, e] at h; simp at h
    rw [List.count_cons, hc] at h
    rw [okL, hc, okL_plain L (i + 1) a (by simpa using h)]
    simp
theorem okL_append (L : Nat) : ∀ (i : Nat) (a b : List UInt8), okL L i (a ++ b) = (okL L i a && okL L (i + a.length) b)
  | _, [], b => by simp [okL]
  | i, c :: a, b => by
    simp only [List.cons_append, okL, okL_append L (i + 1) a b, List.length_cons, Bool.and_assoc, show i + 1 + a.length = i + (a.length + 1) by omega]
theorem dig_no46 : ∀ a : List UInt8, a.all digitB = true → a.count 46 = 0
  | [], _ => rfl
  | c :: a, h => by
    simp only [List.all_cons, Bool.and_eq_true] at h
    have hc : (c == 46) = false := by
      cases e : c == 46 with
      | false => rfl
      | true => obtain rfl : c = 46 := eq_of_beq e; simp [dig46] at h
    rw [List.count_cons, hc, dig_no46 a h.2]; rfl
theorem num_cut (a b : List UInt8) (ha : a.count 46 = 0) : numB (a ++ 46 :: b) = (decide ((a ++ 46 :: b).length ≤ 20) && ((a.all digitB && !(a == [])) && (b.all digitB && !(b == [])))) := by
  unfold numB
  have hl : (a ++ 46 :: b).length = a.length + (b.length + 1) := by simp
  rw [okL_append, okL_plain _ _ a ha, hl]
  simp only [okL, dig46, Bool.or_false, List.count_append, List.count_cons, ha, beq_self_eq_true, Bool.true_and, if_true, Nat.zero_add]
  have e1 : decide (0 < a.length) = !(a == []) := by cases a <;> rfl
  have e2 : decide (a.length + 1 < a.length + (b.length + 1)) = !(b == []) := by
    cases b with
    | nil => simp
    | cons c b => simp
  have e3 : decide (0 < a.length + (b.length + 1)) = true := dec_t (by omega)
  rw [e1, e2, e3]
  cases hb : b.all digitB with
  | true =>
    rw [okL_plain _ _ b (dig_no46 b hb), hb, dig_no46 b hb]
    cases a.all digitB <;> cases a == [] <;> cases b == [] <;> cases decide (a.length + (b.length + 1) ≤ 20) <;> rfl
  | false =>
    cases hc : decide (b.count 46 + 1 ≤ 1) with
    | true =>
      have : b.count 46 = 0 := by have := of_decide_eq_true hc; omega
      rw [okL_plain _ _ b this, hb]
      cases a.all digitB <;> cases a == [] <;> cases b == [] <;> cases decide (a.length + (b.length + 1) ≤ 20) <;> rfl
    | false =>
      generalize okL _ _ b = z
      cases z <;> cases a.all digitB <;> cases a == [] <;> cases b == [] <;> cases decide (a.length + (b.length + 1) ≤ 20) <;> rfl
theorem num_plain (s : List UInt8) (h : s.count 46 = 0) : numB s = (decide (s.length ≤ 20) && (s.all digitB && !(s == []))) := by
  unfold numB
  rw [okL_plain _ _ s h, h]
  have e1 : decide (0 < s.length) = !(s == []) := by cases s <;> rfl
  rw [e1]
  cases s.all digitB <;> cases s == [] <;> cases decide (s.length ≤ 20) <;> rfl
theorem node_Number_eq (n : Nat) (s : List UInt8) (h : s.length < n) (hb : s.length ≤ 1073741824) : m_node_Number n s = some (numB s) := by
  have e20 := cast_le s.length 20
  rw [show ((20 : Nat) : Int) = 20 from rfl] at e20
  have hi : m_stringslite_Index s [46] = some (Lib.indexByte s 46) := rfl
  rcases cut_cases s with ⟨h1, h2⟩ | ⟨a, b, rfl, h1, h2⟩
  · rw [num_plain s h1]
    simp only [m_node_Number, m_strings_Cut, m_stringslite_Cut, hi, h2, Option.bind_some, show decide ((0 : Int) ≤ -1) = false from rfl, cond_false, e20, node_digits_eq n s h hb]
    cases decide (s.length ≤ 20) <;> cases (s.all digitB && !(s == [])) <;> rfl
  · have hl : (a ++ 46 :: b).length = a.length + (b.length + 1) := by simp
    rw [num_cut a b h1]
    have w1 : IntKind.i64.wrap ((a.length : Int) + (([46] : List UInt8).length : Int)) = ((a.length + 1 : Nat) : Int) := wi_succ (by omega)
    have t1 : ((a ++ 46 :: b).take ((a.length : Int)).toNat).drop (0 : Int).toNat = a := by simp
    have t2 : ((a ++ 46 :: b).take (((a ++ 46 :: b).length : Int)).toNat).drop (((a.length + 1 : Nat) : Int)).toNat = b := by
      rw [Int.toNat_natCast, Int.toNat_natCast, List.take_length, List.drop_append]
      simp
    simp only [m_node_Number, m_strings_Cut, m_stringslite_Cut, hi, h2, Option.bind_some, w1]
    rw [dec_t (by omega), cond_true, req_t (by omega), req_t (by omega), t1, t2]
    simp only [Option.bind_some, e20, node_digits_eq n a (by omega) (by omega), node_digits_eq n b (by omega) (by omega)]
    cases decide ((a ++ 46 :: b).length ≤ 20) <;> cases (a.all digitB && !(a == [])) <;> cases (b.all digitB && !(b == [])) <;> rfl
end Go.Proofs.YtgfneloodabafaaDoor
namespace Go.Proofs.YtgfneloodabafaaDoor
open Go.Abs
def Nd.kind : Nd → Int | .mk k _ _ _ => k
def textB (k : Int) (t : List UInt8) : Bool :=
  if k = 2 then symB t else if k = 3 then numB t else if k = 4 then (decide (t.length ≤ 200) && t.all printB) else if k = 10 then acL.any (fun e => e == t) else if k = 11 then fenB t else t == []
def kidsB (k c : Int) (m : Int) : Bool :=
  if k = 12 then decide (1 ≤ c) && (decide (c ≤ 16) && (decide (1 ≤ m) && (decide (m ≤ 256) && (m.tmod c == 0))))
  else (c == 0) && (if k = 1 then decide (m ≤ 200) else if k = 2 then m == 0 else if k = 3 then m == 0 else if k = 4 then m == 0 else if k = 5 then m == 2 else if k = 6 then m == 2 else if k = 7 then m == 2 else if k = 8 then m == 2
    else if k = 9 then m == 3 else if k = 10 then m == 1 else if k = 11 then m == 1 else false)
mutual
def formB : Nd → Bool
  | .mk k t c ks => (textB k t && kidsB k c (ks.length : Int)) && formsB k ks
def formsB : Int → List Nd → Bool
  | _, [] => true
  | k, v :: vs => (!((v.kind == 1) == (k == 1)) && formB v) && formsB k vs
end
mutual
def Nd.dep : Nd → Nat
  | .mk _ _ _ ks => Nd.deps ks + 1
def Nd.deps : List Nd → Nat
  | [] => 0
  | v :: vs => Nat.max v.dep (Nd.deps vs)
end
theorem forms_drop {k : Int} {a : List Nd} {i : Nat} (h : i < a.length) : formsB k (a.drop i) = ((!((a[i].kind == 1) == (k == 1)) && formB a[i]) && formsB k (a.drop (i + 1))) := by
  rw [List.drop_eq_getElem_cons h]; rfl
theorem deps_drop {a : List Nd} {i : Nat} (h : i < a.length) : Nd.deps (a.drop i) = Nat.max (a[i]).dep (Nd.deps (a.drop (i + 1))) := by
  rw [List.drop_eq_getElem_cons h]; rfl
mutual
theorem Nd.dep_cnt : ∀ v : Nd, v.dep ≤ v.cnt
  | .mk _ _ _ ks => by have := Nd.deps_cnts ks; simp only [Nd.dep, Nd.cnt]; omega
theorem Nd.deps_cnts : ∀ vs : List Nd, Nd.deps vs ≤ Nd.cnts vs
  | [] => Nat.le_refl _
  | v :: vs => by
    have := Nd.dep_cnt v; have := Nd.deps_cnts vs
    simp only [Nd.deps, Nd.cnts]
    exact Nat.max_le.2 ⟨by omega, by omega⟩
end
mutual
theorem Nd.cnt_w : ∀ v : Nd, v.cnt ≤ v.w
  | .mk _ t _ ks => by have := Nd.cnts_ws ks; simp only [Nd.cnt, Nd.w]; omega
theorem Nd.cnts_ws : ∀ vs : List Nd, Nd.cnts vs ≤ Nd.ws vs
  | [] => Nat.le_refl _
  | v :: vs => by have := Nd.cnt_w v; have := Nd.cnts_ws vs; simp only [Nd.cnts, Nd.ws]; omega
end
theorem ne_beq {a b : Int} (h : a ≠ b) : (a == b) = false := by
  cases e : (a == b) with
  | false => rfl
  | true => exact absurd (eq_of_beq e) h
theorem r09_text_eq (n : Nat) (k : Int) (t : List UInt8) (c : Int) (ks : List Nd) (h : t.length + 40 < n) (hb : t.length ≤ 1073741824) : m_r09_text n (.mk k t c ks) = some (textB k t) := by
  have e200 := cast_le t.length 200
  rw [show ((200 : Nat) : Int) = 200 from rfl] at e200
  have ea : m_r09_In n acL t = some (acL.any fun e => e == t) := r09_In_eq n acL t (by simp only [acL, List.length_cons, List.length_nil]; omega) (by simp [acL])
  have a1 : m_r09_Accents = some acL := rfl
  unfold m_r09_text textB
  dsimp only
  by_cases h2 : k = 2
  · subst h2; simp only [beq_self_eq_true, cond_true, r09_Symbol_eq n t h hb, Option.bind_some, if_true]
  rw [ne_beq h2, if_neg h2, cond_false]
  by_cases h3 : k = 3
  · subst h3; simp only [beq_self_eq_true, cond_true, r09_Number_eq n t (by omega) hb, Option.bind_some, if_true]
  rw [ne_beq h3, if_neg h3, cond_false]
  by_cases h4 : k = 4
  · subst h4; simp only [beq_self_eq_true, cond_true, r09_Printable_eq n t (by omega) hb, Option.bind_some, if_true, e200]
    cases decide (t.length ≤ 200) <;> rfl
  rw [ne_beq h4, if_neg h4, cond_false]
  by_cases h10 : k = 10
  · subst h10; simp only [beq_self_eq_true, cond_true, a1, ea, Option.bind_some, if_true]
  rw [ne_beq h10, if_neg h10, cond_false]
  by_cases h11 : k = 11
  · subst h11; rw [if_pos rfl, beq_self_eq_true, cond_true, r09_fence_eq n t (by omega)]; rfl
  rw [ne_beq h11, if_neg h11, cond_false]
theorem kinds (k : Int) : k = 1 ∨ k = 2 ∨ k = 3 ∨ k = 4 ∨ k = 5 ∨ k = 6 ∨ k = 7 ∨ k = 8 ∨ k = 9 ∨ k = 10 ∨ k = 11 ∨ k = 12 ∨ (k < 1 ∨ 12 < k) := by omega
theorem r09_kids_eq (k : Int) (t : List UInt8) (c : Int) (ks : List Nd) : m_r09_kids (.mk k t c ks) = some (kidsB k c (ks.length : Int)) := by
  unfold m_r09_kids
  dsimp only
  generalize (ks.length : Int) = m
  rcases kinds k with rfl | rfl | rfl | rfl | rfl | rfl | rfl | rfl | rfl | rfl | rfl | rfl | h
  · simp only [bne, kidsB]; generalize (c == 0) = z; generalize decide (m ≤ 200) = y; cases z <;> rfl
  · simp only [bne, kidsB]; generalize (c == 0) = z; generalize (m == 0) = y; cases z <;> rfl
  · simp only [bne, kidsB]; generalize (c == 0) = z; generalize (m == 0) = y; cases z <;> rfl
  · simp only [bne, kidsB]; generalize (c == 0) = z; generalize (m == 0) = y; cases z <;> rfl
  · simp only [bne, kidsB]; generalize (c == 0) = z; generalize (m == 2) = y; cases z <;> rfl
  · simp only [bne, kidsB]; generalize (c == 0) = z; generalize (m == 2) = y; cases z <;> rfl
  · simp only [bne, kidsB]; generalize (c == 0) = z; generalize (m == 2) = y; cases z <;> rfl
  · simp only [bne, kidsB]; generalize (c == 0) = z; generalize (m == 2) = y; cases z <;> rfl
  · simp only [bne, kidsB]; generalize (c == 0) = z; generalize (m == 3) = y; cases z <;> rfl
  · simp only [bne, kidsB]; generalize (c == 0) = z; generalize (m == 1) = y; cases z <;> rfl
  · simp only [bne, kidsB]; generalize (c == 0) = z; generalize (m == 1) = y; cases z <;> rfl
  · unfold kidsB
    rw [if_pos rfl, beq_self_eq_true, cond_true]
    by_cases h1 : 1 ≤ c
    · rw [dec_t h1, req_t (by omega)]
      generalize (m.tmod c == 0) = y
      cases decide (c ≤ 16) <;> cases decide (1 ≤ m) <;> cases decide (m ≤ 256) <;> rfl
    · rw [dec_f h1]; rfl
  · have e : ∀ i : Int, 1 ≤ i → i ≤ 12 → (k == i) = false := fun i h1 h2 => ne_beq (by omega)
    have f : ∀ i : Int, 1 ≤ i → i ≤ 12 → k ≠ i := fun i h1 h2 => by omega
    unfold kidsB
    rw [if_neg (f 12 (by decide) (by decide)), if_neg (f 1 (by decide) (by decide)), if_neg (f 2 (by decide) (by decide)), if_neg (f 3 (by decide) (by decide)), if_neg (f 4 (by decide) (by decide)), if_neg (f 5 (by decide) (by decide)),
      if_neg (f 6 (by decide) (by decide)), if_neg (f 7 (by decide) (by decide)), if_neg (f 8 (by decide) (by decide)), if_neg (f 9 (by decide) (by decide)), if_neg (f 10 (by decide) (by decide)), if_neg (f 11 (by decide) (by decide))]
    rw [e 12 (by decide) (by decide), e 1 (by decide) (by decide), e 2 (by decide) (by decide), e 3 (by decide) (by decide), e 4 (by decide) (by decide), e 5 (by decide) (by decide),
      e 6 (by decide) (by decide), e 7 (by decide) (by decide), e 8 (by decide) (by decide), e 9 (by decide) (by decide), e 10 (by decide) (by decide), e 11 (by decide) (by decide)]
    cases (c == 0) <;> cases (c != 0) <;> rfl
theorem own_eq (n : Nat) (x : Int) (k : Int) (t : List UInt8) (c : Int) (ks : List Nd) (h : t.length + 40 < n) (hb : t.length ≤ 1073741824) :
    m_node_checker_own n ((), x) (.mk k t c ks) = some (textB k t && kidsB k c (ks.length : Int), ((), x)) := by
  have e200 := cast_le t.length 200
  rw [show ((200 : Nat) : Int) = 200 from rfl] at e200
  unfold m_node_checker_own
  dsimp only
  generalize (ks.length : Int) = m
  have em : m_node_empty t = some (t == []) := rfl
  rcases kinds k with rfl | rfl | rfl | rfl | rfl | rfl | rfl | rfl | rfl | rfl | rfl | rfl | h
  · simp only [em]
    show _ = some ((t == []) && ((c == 0) && decide (m ≤ 200)), ((), x))
    cases t == [] <;> cases c == 0 <;> rfl
  · simp only [node_Symbol_eq n t h hb]
    show _ = some (symB t && ((c == 0) && (m == 0)), ((), x))
    cases symB t <;> cases c == 0 <;> rfl
  · simp only [node_Number_eq n t (by omega) hb]
    show _ = some (numB t && ((c == 0) && (m == 0)), ((), x))
    cases numB t <;> cases c == 0 <;> rfl
  · simp only [node_plain_eq n t (by omega) hb, e200]
    show _ = some ((decide (t.length ≤ 200) && t.all printB) && ((c == 0) && (m == 0)), ((), x))
    cases decide (t.length ≤ 200) <;> cases t.all printB <;> cases c == 0 <;> rfl
  · simp only [em]
    show _ = some ((t == []) && ((c == 0) && (m == 2)), ((), x))
    cases t == [] <;> cases c == 0 <;> rfl
  · simp only [em]
    show _ = some ((t == []) && ((c == 0) && (m == 2)), ((), x))
    cases t == [] <;> cases c == 0 <;> rfl
  · simp only [em]
    show _ = some ((t == []) && ((c == 0) && (m == 2)), ((), x))
    cases t == [] <;> cases c == 0 <;> rfl
  · simp only [em]
    show _ = some ((t == []) && ((c == 0) && (m == 2)), ((), x))
    cases t == [] <;> cases c == 0 <;> rfl
  · simp only [em]
    show _ = some ((t == []) && ((c == 0) && (m == 3)), ((), x))
    cases t == [] <;> cases c == 0 <;> rfl
  · simp only [node_accent_eq]
    show _ = some ((acL.any fun e => e == t) && ((c == 0) && (m == 1)), ((), x))
    cases (acL.any fun e => e == t) <;> cases c == 0 <;> rfl
  · simp only [node_fence_eq]
    show _ = some (fenB t && ((c == 0) && (m == 1)), ((), x))
    cases fenB t <;> cases c == 0 <;> rfl
  · simp only [em]
    show _ = some ((t == []) && (decide (1 ≤ c) && (decide (c ≤ 16) && (decide (1 ≤ m) && (decide (m ≤ 256) && (m.tmod c == 0))))), ((), x))
    by_cases h1 : 1 ≤ c
    · rw [dec_t h1, req_t (by omega)]
      generalize (m.tmod c == 0) = y
      cases t == [] <;> cases decide (c ≤ 16) <;> cases decide (1 ≤ m) <;> cases decide (m ≤ 256) <;> rfl
    · rw [dec_f h1]
      cases t == [] <;> rfl
  · have f : ∀ i : Int, 1 ≤ i → i ≤ 12 → k ≠ i := fun i h1 h2 => by omega
    have hk : kidsB k c m = false := by
      unfold kidsB
      rw [if_neg (f 12 (by decide) (by decide)), if_neg (f 1 (by decide) (by decide)), if_neg (f 2 (by decide) (by decide)), if_neg (f 3 (by decide) (by decide)), if_neg (f 4 (by decide) (by decide)), if_neg (f 5 (by decide) (by decide)),
        if_neg (f 6 (by decide) (by decide)), if_neg (f 7 (by decide) (by decide)), if_neg (f 8 (by decide) (by decide)), if_neg (f 9 (by decide) (by decide)), if_neg (f 10 (by decide) (by decide)), if_neg (f 11 (by decide) (by decide))]
      exact Bool.and_false _
    rw [hk, Bool.and_false]
    by_cases h1 : k < 1
    · rw [dec_t h1]; rfl
    · rw [dec_f h1, dec_t (show 12 < k by omega)]; rfl
theorem r09_form_loop {F : Nd → Option Bool} {k : Int} {ks : List Nd} (hF : ∀ v ∈ ks, F v = some (formB v)) (hl : ks.length ≤ 1073741824) :
    ∀ (q i : Nat), ks.length - i < q → i ≤ ks.length → m_r09_form_l1 F k ks q (i : Int) = some (if formsB k (ks.drop i) then .go () else .ret false)
  | 0, _, h, _ => by omega
  | q + 1, i, hq, hi => by
    unfold m_r09_form_l1
    by_cases h : i < ks.length
    · rw [dec_t (Int.ofNat_lt.2 h), cond_true, at_get h]
      have hf := hF _ (List.getElem_mem h)
      have g1 := forms_drop (k := k) h
      rcases e : ks[i] with ⟨a, b, c, d⟩
      rw [e] at hf g1
      simp only [Nd.kind] at g1
      generalize formsB k (ks.drop i) = g at g1 ⊢
      subst g1
      simp only [Option.bind_some, hf]
      rw [wi_succ (by omega), r09_form_loop hF hl q (i + 1) (by omega) (by omega)]
      cases ((a == 1) == (k == 1)) <;> cases formB (Nd.mk a b c d) <;> simp
    · rw [dec_f (by omega), cond_false]
      obtain rfl : i = ks.length := by omega
      simp [formsB]
theorem r09_form_eq : ∀ (n : Nat) (t : Nd), t.w + 45 < n → t.w ≤ 1073741824 → m_r09_form n t = some (formB t)
  | 0, _, h, _ => by omega
  | n + 1, .mk k t c ks, h, hb => by
    simp only [Nd.w] at h hb
    have hl := Nd.ws_len ks
    unfold m_r09_form
    rw [r09_text_eq n k t c ks (by omega) (by omega), r09_kids_eq]
    have := r09_form_loop (F := m_r09_form n) (k := k) (ks := ks) (fun v hv => r09_form_eq n v (by have := Nd.w_mem hv; omega) (by have := Nd.w_mem hv; omega)) (by omega) n 0 (by omega) (by omega)
    rw [show ((0 : Nat) : Int) = 0 from rfl, List.drop_zero] at this
    simp only [Option.bind_some, this, formB]
    cases textB k t <;> cases kidsB k c (ks.length : Int) <;> cases formsB k ks <;> rfl
theorem r09_Depth_loop {F : Nd → Option Int} {ks : List Nd} (hF : ∀ v ∈ ks, F v = some (v.dep : Int)) (hl : ks.length ≤ 1073741824) :
    ∀ (q i o : Nat), ks.length - i < q → i ≤ ks.length → m_r09_Depth_l1 F ks q (o : Int) (i : Int) = some ((Nat.max o (Nd.deps (ks.drop i)) : Nat) : Int)
  | 0, _, _, h, _ => by omega
  | q + 1, i, o, hq, hi => by
    unfold m_r09_Depth_l1
    by_cases h : i < ks.length
    · rw [dec_t (Int.ofNat_lt.2 h), cond_true, at_get h, deps_drop h]
      have hf := hF _ (List.getElem_mem h)
      rcases e : ks[i] with ⟨a, b, c, d⟩
      rw [e] at hf
      simp only [Option.bind_some, hf]
      have hm : (if (o : Int) < ((Nd.mk a b c d).dep : Int) then ((Nd.mk a b c d).dep : Int) else (o : Int)) = ((Nat.max o (Nd.mk a b c d).dep : Nat) : Int) := by
        by_cases g : (o : Int) < ((Nd.mk a b c d).dep : Int)
        · rw [if_pos g]; congr 1; exact (Nat.max_eq_right (by omega)).symm
        · rw [if_neg g]; congr 1; exact (Nat.max_eq_left (by omega)).symm
      rw [wi_succ (by omega), hm, r09_Depth_loop hF hl q (i + 1) _ (by omega) (by omega)]
      congr 2
      exact Nat.max_assoc _ _ _
    · rw [dec_f (by omega), cond_false]
      obtain rfl : i = ks.length := by omega
      rw [List.drop_length]
      congr 2
      exact (Nat.max_eq_left (Nat.zero_le _)).symm
theorem r09_Depth_eq : ∀ (n : Nat) (t : Nd), t.cnt < n → t.cnt ≤ 67108864 → m_r09_Depth n t = some (t.dep : Int)
  | 0, _, h, _ => by omega
  | n + 1, .mk k t c ks, h, hb => by
    simp only [Nd.cnt] at h hb
    have hl := Nd.cnts_len ks
    have hd := Nd.deps_cnts ks
    unfold m_r09_Depth
    have := r09_Depth_loop (F := m_r09_Depth n) (ks := ks) (fun v hv => r09_Depth_eq n v (by have := Nd.cnts_mem hv; omega) (by have := Nd.cnts_mem hv; omega)) (by omega) n 0 0 (by omega) (by omega)
    rw [show ((0 : Nat) : Int) = 0 from rfl, List.drop_zero] at this
    rw [this, Option.bind_some, show Nat.max 0 (Nd.deps ks) = Nd.deps ks from Nat.max_eq_right (Nat.zero_le _), wi_succ (by omega)]
    rfl
def validB (t : Nd) : Bool := (t.kind == 1) && (formB t && (decide (t.cnt ≤ 1000) && decide (t.dep ≤ 24)))
theorem r09_Valid_eq (n : Nat) (t : Nd) (h : t.w + 45 < n) (hb : t.w ≤ 67108864) : m_r09_Valid n t = some (validB t) := by
  have hc := Nd.cnt_w t
  have e1 := r09_form_eq n t h (by omega)
  have e2 := r09_Count_eq n t (by omega) (by omega)
  have e3 := r09_Depth_eq n t (by omega) (by omega)
  have e4 := cast_le t.cnt 1000
  rw [show ((1000 : Nat) : Int) = 1000 from rfl] at e4
  have e5 := cast_le t.dep 24
  rw [show ((24 : Nat) : Int) = 24 from rfl] at e5
  obtain ⟨k, s, c, ks⟩ := t
  unfold m_r09_Valid validB
  simp only [e1, e2, e3, Option.bind_some, e4, e5, Nd.kind]
  cases k == 1 <;> cases formB (.mk k s c ks) <;> cases decide ((Nd.mk k s c ks).cnt ≤ 1000) <;> rfl
abbrev okN (t : Nd) (x d : Nat) : Prop := formB t = true ∧ x + t.cnt ≤ 1000 ∧ d + t.dep ≤ 25
abbrev okNs (k : Int) (vs : List Nd) (x d : Nat) : Prop := formsB k vs = true ∧ x + Nd.cnts vs ≤ 1000 ∧ d + Nd.deps vs ≤ 24
theorem check_loop {F : (Unit × Int) → Nd → Int → Option (Bool × (Unit × Int))} {k : Int} {ks : List Nd} {d : Nat} (hd : d ≤ 24)
    (hF : ∀ v ∈ ks, ∀ x : Nat, x ≤ 1000 → ∃ y, F ((), (x : Int)) v ((d + 1 : Nat) : Int) = some (decide (okN v x (d + 1)), ((), y)) ∧ (okN v x (d + 1) → y = ((x + v.cnt : Nat) : Int))) (hl : ks.length ≤ 1073741824) :
    ∀ (q i x : Nat), ks.length - i < q → i ≤ ks.length → x ≤ 1000 →
      (okNs k (ks.drop i) x d ∧ m_node_checker_node_l1 F k ks (d : Int) q (x : Int) (i : Int) = some (.go ((x + Nd.cnts (ks.drop i) : Nat) : Int))) ∨
      (¬ okNs k (ks.drop i) x d ∧ ∃ z, m_node_checker_node_l1 F k ks (d : Int) q (x : Int) (i : Int) = some (.ret (false, ((), z))))
  | 0, _, _, h, _, _ => by omega
  | q + 1, i, x, hq, hi, hx => by
    unfold m_node_checker_node_l1
    by_cases h : i < ks.length
    · rw [dec_t (Int.ofNat_lt.2 h), cond_true, at_get h]
      obtain ⟨y, hf, hy⟩ := hF _ (List.getElem_mem h) x hx
      have g1 := forms_drop (k := k) h
      have g2 := Nd.cnts_drop h
      have g3 := deps_drop h
      rcases e : ks[i] with ⟨a, b, c, ds⟩
      rw [e] at hf hy g1 g2 g3
      simp only [Option.bind_some]
      rw [wi_succ (by omega), wi_succ (by omega), hf]
      simp only [Option.bind_some]
      have g4 : Nd.deps (ks.drop i) = Nat.max (Nd.mk a b c ds).dep (Nd.deps (ks.drop (i + 1))) := g3
      have g5 : (Nd.mk a b c ds).dep ≤ Nd.deps (ks.drop i) := by rw [g4]; exact Nat.le_max_left _ _
      have g6 : Nd.deps (ks.drop (i + 1)) ≤ Nd.deps (ks.drop i) := by rw [g4]; exact Nat.le_max_right _ _
      rw [show ((k == 1) == (a == 1)) = ((a == 1) == (k == 1)) by cases k == 1 <;> cases a == 1 <;> rfl]
      cases hkk : ((a == 1) == (k == 1)) with
      | true =>
        simp only [cond_true, Option.bind_some]
        refine .inr ⟨fun ⟨h1, _⟩ => ?_, _, rfl⟩
        rw [g1] at h1
        simp [Nd.kind, hkk] at h1
      | false =>
        simp only [cond_false, Option.bind_some]
        by_cases hok : okN (Nd.mk a b c ds) x (d + 1)
        · rw [dec_t hok]
          simp only [Bool.not_true, cond_false]
          rw [hy hok]
          have hp := (Nd.mk a b c ds).cnt_pos
          rcases check_loop hd hF hl q (i + 1) (x + (Nd.mk a b c ds).cnt) (by omega) (by omega) hok.2.1 with ⟨hr, hr2⟩ | ⟨hr, z, hr2⟩
          · refine .inl ⟨⟨?_, ?_, ?_⟩, ?_⟩
            · rw [g1, hr.1, hok.1]; simp [Nd.kind, hkk]
            · have := hr.2.1; omega
            · have := hr.2.2
              have := hok.2.2
              have : Nd.deps (ks.drop i) ≤ 24 - d := by rw [g4]; exact Nat.max_le.2 ⟨by omega, by omega⟩
              omega
            · rw [hr2, g2]; congr 3; omega
          · refine .inr ⟨fun ⟨h1, h2, h3⟩ => hr ⟨?_, by omega, by omega⟩, z, hr2⟩
            rw [g1] at h1
            simp only [Bool.and_eq_true] at h1
            exact h1.2
        · rw [dec_f hok]
          simp only [Bool.not_false, cond_true]
          refine .inr ⟨fun ⟨h1, h2, h3⟩ => hok ⟨?_, by omega, by omega⟩, y, rfl⟩
          rw [g1] at h1
          simp only [Bool.and_eq_true] at h1
          exact h1.1.2
    · rw [dec_f (by omega), cond_false]
      obtain rfl : i = ks.length := by omega
      rw [List.drop_length]
      exact .inl ⟨⟨rfl, hx, hd⟩, rfl⟩
theorem check_eq : ∀ (n : Nat) (t : Nd) (x d : Nat), t.w + 45 < n → t.w ≤ 67108864 → x ≤ 1000 → d ≤ 25 →
    ∃ y, m_node_checker_node n ((), (x : Int)) t (d : Int) = some (decide (okN t x d), ((), y)) ∧ (okN t x d → y = ((x + t.cnt : Nat) : Int))
  | 0, _, _, _, h, _, _, _ => by omega
  | n + 1, .mk k t c ks, x, d, h, hb, hx, hd => by
    simp only [Nd.w] at h hb
    have hl := Nd.ws_len ks
    unfold m_node_checker_node
    rw [wi_succ (by omega)]
    by_cases h1 : 1000 < ((x + 1 : Nat) : Int)
    · rw [dec_t h1]
      simp only [cond_true, Option.bind_some]
      have hn : ¬ okN (.mk k t c ks) x d := fun ⟨_, h2, _⟩ => by simp only [Nd.cnt] at h2; omega
      exact ⟨_, by rw [dec_f hn], fun h => absurd h hn⟩
    · rw [dec_f h1, cond_false]
      by_cases h2 : 24 < (d : Int)
      · rw [dec_t h2]
        simp only [cond_true, Option.bind_some]
        have hn : ¬ okN (.mk k t c ks) x d := fun ⟨_, _, h2⟩ => by simp only [Nd.dep] at h2; omega
        exact ⟨_, by rw [dec_f hn], fun h => absurd h hn⟩
      · rw [dec_f h2, cond_false, own_eq n _ k t c ks (by omega) (by omega)]
        simp only [Option.bind_some]
        cases ho : (textB k t && kidsB k c (ks.length : Int)) with
        | false =>
          simp only [Bool.not_false, cond_true]
          have hn : ¬ okN (.mk k t c ks) x d := fun ⟨h1, _⟩ => by rw [formB, ho] at h1; cases h1
          exact ⟨_, by rw [dec_f hn], fun h => absurd h hn⟩
        | true =>
          simp only [Bool.not_true, cond_false]
          have := check_loop (F := m_node_checker_node n) (k := k) (ks := ks) (d := d) (by omega) (fun v hv z hz => check_eq n v z (d + 1) (by have := Nd.w_mem hv; omega) (by have := Nd.w_mem hv; omega) hz (by omega)) (by omega) n 0 (x + 1) (by omega) (by omega) (by omega)
          rw [show ((0 : Nat) : Int) = 0 from rfl, List.drop_zero] at this
          rcases this with ⟨hr, hr2⟩ | ⟨hr, z, hr2⟩
          · have hy : okN (.mk k t c ks) x d := ⟨by rw [formB, ho, hr.1]; rfl, by have := hr.2.1; simp only [Nd.cnt]; omega, by have := hr.2.2; simp only [Nd.dep]; omega⟩
            rw [hr2]
            exact ⟨_, by rw [dec_t hy]; rfl, fun _ => by simp only [Nd.cnt]; omega⟩
          · have hn : ¬ okN (.mk k t c ks) x d := fun ⟨g1, g2, g3⟩ => hr ⟨by rw [formB, ho] at g1; exact g1, by simp only [Nd.cnt] at g2; omega, by simp only [Nd.dep] at g3; omega⟩
            rw [hr2]
            exact ⟨_, by rw [dec_f hn]; rfl, fun h => absurd h hn⟩
theorem node_Valid_eq (n : Nat) (t : Nd) (h : t.w + 45 < n) (hb : t.w ≤ 67108864) : m_node_Valid n t = some (validB t) := by
  obtain ⟨y, h1, _⟩ := check_eq n t 0 1 h hb (by omega) (by omega)
  rw [show ((0 : Nat) : Int) = 0 from rfl, show ((1 : Nat) : Int) = 1 from rfl] at h1
  obtain ⟨k, s, c, ks⟩ := t
  unfold m_node_Valid validB
  have hk : m_node_kinds = some () := rfl
  simp only [hk, h1, Option.bind_some, Nd.kind]
  cases k == 1 with
  | false => rfl
  | true =>
    simp only [cond_true, Option.bind_some, Bool.true_and, Option.some.injEq, okN]
    cases formB (.mk k s c ks) with
    | false => simp
    | true =>
      by_cases g1 : (Nd.mk k s c ks).cnt ≤ 1000
      · by_cases g2 : (Nd.mk k s c ks).dep ≤ 24
        · rw [dec_t g1, dec_t g2, dec_t ⟨rfl, by omega, by omega⟩]; rfl
        · rw [dec_t g1, dec_f g2, dec_f (fun h => g2 (by omega))]; rfl
      · rw [dec_f g1, dec_f (fun h => g1 (by omega))]; rfl
end Go.Proofs.YtgfneloodabafaaDoor
namespace Go.Proofs.YtgfneloodabafaaDoor
open Go.Abs
def Nd.text : Nd → List UInt8 | .mk _ t _ _ => t
def Nd.cols : Nd → Int | .mk _ _ c _ => c
theorem Nd.cnt_kids : ∀ x : Nd, x.cnt = Nd.cnts x.kids + 1
  | .mk _ _ _ _ => rfl
def alikeB (x y : Nd) : Bool := (x.kind == y.kind) && (((x.kids.length : Int) == (y.kids.length : Int)) && (x.cols == y.cols))
def rowD (P : Nd → Nd → Nat) (x : Nd) (f : List Nd → Nat) : List Nd → Nat
  | [] => x.cnt + f []
  | y :: ys => if alikeB x y then min (min (x.cnt + f (y :: ys)) (y.cnt + rowD P x f ys)) (P x y + f ys) else min (x.cnt + f (y :: ys)) (y.cnt + rowD P x f ys)
def TD (P : Nd → Nd → Nat) : List Nd → List Nd → Nat
  | [] => Nd.cnts
  | x :: xs => rowD P x (TD P xs)
def sumD (f : List Nd → List Nd → Nat) : List Nd → List Nd → Nat
  | u :: us, v :: vs => f u.kids v.kids + sumD f us vs
  | _, _ => 0
def txt (x y : Nd) : Nat := bif x.text == y.text then 0 else 1
def PD : Nat → Nd → Nd → Nat
  | 0, _, _ => 0
  | n + 1, x, y => txt x y + sumD (TD (PD n)) x.kids y.kids
def D (x y : Nd) : Nat := PD x.cnt x y
def DL (a b : List Nd) : Nat := TD D a b
theorem rowD_congr {P P' : Nd → Nd → Nat} {x : Nd} {f : List Nd → Nat} (h : ∀ y, P x y = P' x y) : ∀ b, rowD P x f b = rowD P' x f b
  | [] => rfl
  | y :: ys => by simp only [rowD, rowD_congr h ys, h]
theorem TD_congr {P P' : Nd → Nd → Nat} : ∀ {a : List Nd}, (∀ x ∈ a, ∀ y, P x y = P' x y) → TD P a = TD P' a
  | [], _ => rfl
  | x :: xs, h => by
    rw [TD, TD, TD_congr fun x hx => h x (List.mem_cons_of_mem _ hx)]
    exact funext (rowD_congr (h x List.mem_cons_self))
theorem sumD_congr {f g : List Nd → List Nd → Nat} : ∀ {us : List Nd} (vs : List Nd), (∀ u ∈ us, f u.kids = g u.kids) → sumD f us vs = sumD g us vs
  | [], vs, _ => by cases vs <;> rfl
  | u :: us, [], _ => rfl
  | u :: us, v :: vs, h => by
    rw [sumD, sumD, h u List.mem_cons_self, sumD_congr vs fun u hu => h u (List.mem_cons_of_mem _ hu)]
theorem PD_stable : ∀ (n m : Nat) (x y : Nd), x.cnt ≤ n → x.cnt ≤ m → PD n x y = PD m x y
  | 0, _, x, _, h, _ => by have := x.cnt_pos; omega
  | _ + 1, 0, x, _, _, h => by have := x.cnt_pos; omega
  | n + 1, m + 1, x, y, h1, h2 => by
    rw [PD, PD]
    congr 1
    refine sumD_congr _ fun u hu => TD_congr fun x' hx' y' => ?_
    have e1 := x.cnt_kids
    have e2 := u.cnt_kids
    have e3 := Nd.cnts_mem hu
    have e4 := Nd.cnts_mem hx'
    exact PD_stable n m x' y' (by omega) (by omega)
theorem D_eq (x y : Nd) : D x y = txt x y + sumD DL x.kids y.kids := by
  unfold D DL
  have e1 := x.cnt_kids
  rw [e1, PD]
  congr 1
  refine sumD_congr _ fun u hu => TD_congr fun x' hx' y' => ?_
  have e2 := u.cnt_kids
  have e3 := Nd.cnts_mem hu
  have e4 := Nd.cnts_mem hx'
  exact PD_stable _ _ x' y' (by omega) (Nat.le_refl _)
theorem rowD_le {P : Nd → Nd → Nat} {x : Nd} {f : List Nd → Nat} {c : Nat} (h : ∀ b, f b ≤ c + Nd.cnts b) : ∀ b, rowD P x f b ≤ x.cnt + c + Nd.cnts b
  | [] => by have := h []; simp only [rowD]; omega
  | y :: ys => by
    have h1 := h (y :: ys)
    have : rowD P x f (y :: ys) ≤ x.cnt + f (y :: ys) := by
      simp only [rowD]
      split
      · exact Nat.le_trans (Nat.min_le_left _ _) (Nat.min_le_left _ _)
      · exact Nat.min_le_left _ _
    omega
theorem TD_le {P : Nd → Nd → Nat} : ∀ a b : List Nd, TD P a b ≤ Nd.cnts a + Nd.cnts b
  | [], b => by simp [TD, Nd.cnts]
  | x :: xs, b => by
    have := rowD_le (P := P) (x := x) (TD_le (P := P) xs) b
    simp only [TD, Nd.cnts]; omega
theorem sumD_le : ∀ us vs : List Nd, sumD DL us vs ≤ Nd.cnts us + Nd.cnts vs
  | [], vs => by cases vs <;> simp [sumD]
  | u :: us, [] => by simp [sumD]
  | u :: us, v :: vs => by
    have h1 := sumD_le us vs
    have h2 : DL u.kids v.kids ≤ _ := TD_le u.kids v.kids
    have e1 := u.cnt_kids
    have e2 := v.cnt_kids
    simp only [sumD, Nd.cnts]; omega
theorem txt_le (x y : Nd) : txt x y ≤ 1 := by
  unfold txt
  cases x.text == y.text
  · exact Nat.le_refl _
  · exact Nat.zero_le _
theorem D_le (x y : Nd) : D x y ≤ x.cnt + y.cnt := by
  have h1 := sumD_le x.kids y.kids
  have h2 := txt_le x y
  have e1 := x.cnt_kids
  have e2 := y.cnt_kids
  rw [D_eq]; omega
def sufs (f : List Nd → Nat) : List Nd → List Int
  | [] => [(f [] : Int)]
  | y :: ys => (f (y :: ys) : Int) :: sufs f ys
theorem sufs_head (f : List Nd → Nat) : ∀ b, ∃ r, sufs f b = (f b : Int) :: r
  | [] => ⟨_, rfl⟩
  | y :: ys => ⟨_, rfl⟩
theorem sufs_headD (f : List Nd → Nat) (b : List Nd) : (sufs f b).headD 0 = (f b : Int) := by
  obtain ⟨r, h⟩ := sufs_head f b; rw [h]; rfl
def tabD (P : Nd → Nd → Nat) : List Nd → List Nd → List (List Int)
  | [], b => [sufs (TD P []) b]
  | x :: xs, b => sufs (TD P (x :: xs)) b :: tabD P xs b
theorem tabD_head (P : Nd → Nd → Nat) : ∀ a b, ∃ r, tabD P a b = sufs (TD P a) b :: r
  | [], b => ⟨_, rfl⟩
  | x :: xs, b => ⟨_, rfl⟩
theorem tab00 (P : Nd → Nd → Nat) (a b : List Nd) : ∃ r, at? (tabD P a b) 0 = some r ∧ at? r 0 = some (TD P a b : Int) := by
  obtain ⟨r, h⟩ := tabD_head P a b
  obtain ⟨r', h'⟩ := sufs_head (TD P a) b
  exact ⟨sufs (TD P a) b, by rw [h]; rfl, by rw [h']; rfl⟩
theorem min_pick (a b : Nat) : (if (a : Int) < (b : Int) then (a : Int) else (b : Int)) = ((min a b : Nat) : Int) := by
  by_cases h : (a : Int) < (b : Int)
  · rw [if_pos h, Nat.min_eq_left (by omega)]
  · rw [if_neg h, Nat.min_eq_right (by omega)]
theorem sum_drop {f : List Nd → List Nd → Nat} {a b : List Nd} {i : Nat} (h : i < a.length) (h' : i < b.length) : sumD f (a.drop i) (b.drop i) = f a[i].kids b[i].kids + sumD f (a.drop (i + 1)) (b.drop (i + 1)) := by
  rw [List.drop_eq_getElem_cons h, List.drop_eq_getElem_cons h']; rfl
theorem alike_len {x y : Nd} (h : alikeB x y = true) : x.kids.length = y.kids.length := by
  unfold alikeB at h
  simp only [Bool.and_eq_true] at h
  have := eq_of_beq h.2.1
  omega
end Go.Proofs.YtgfneloodabafaaDoor
namespace Go.Proofs.YtgfneloodabafaaDoor
open Go.Abs
def names12 : List (List UInt8) := [[114, 111, 119], [115, 121, 109], [110, 117, 109], [116, 101, 120, 116], [102, 114, 97, 99], [114, 111, 111, 116], [115, 117, 98], [115, 117, 112],
  [98, 111, 116, 104], [97, 99, 99, 101, 110, 116], [102, 101, 110, 99, 101], [109, 97, 116, 114, 105, 120]]
def kindName (k : Int) : List UInt8 := if 1 ≤ k ∧ k ≤ 12 then names12.getD (k.toNat - 1) [] else [110, 111, 100, 101] ++ Lib.itoa k
def escL : List UInt8 → List UInt8
  | [] => []
  | c :: r => if c = 34 ∨ c = 92 then 92 :: c :: escL r else c :: escL r
def textL (t : List UInt8) : List UInt8 := if t = [] then [] else 58 :: 34 :: (escL t ++ [34])
def colsL (c : Int) : List UInt8 := if c = 0 then [] else 42 :: Lib.itoa c
def headL (k : Int) (t : List UInt8) (c : Int) : List UInt8 := kindName k ++ (textL t ++ colsL c)
def kidsL : List UInt8 → List UInt8
  | [] => []
  | _ :: r => 40 :: (r ++ [41])
mutual
def dumpL : Nd → List UInt8
  | .mk k t c ks => headL k t c ++ kidsL (dumpsL ks)
def dumpsL : List Nd → List UInt8
  | [] => []
  | v :: vs => 32 :: (dumpL v ++ dumpsL vs)
end
theorem names12_ne : ∀ i < 12, names12.getD i [] ≠ [] := by decide
theorem kindName_ne (k : Int) : kindName k ≠ [] := by
  unfold kindName
  split
  · exact names12_ne _ (by omega)
  · simp
def hd (l : List UInt8) (s : List UInt8) : Prop := ∀ b r, l = b :: r → b ∈ s
theorem escL_len : ∀ t : List UInt8, (escL t).length ≤ 2 * t.length
  | [] => Nat.le_refl _
  | c :: r => by
    have := escL_len r
    simp only [escL]
    split <;> simp only [List.length_cons] <;> omega
theorem kindName_len {k : Int} (h : in64i k) : (kindName k).length ≤ 25 := by
  unfold kindName
  split
  · have : ∀ i < 12, (names12.getD i []).length ≤ 25 := by decide
    exact this _ (by omega)
  · have := Lib.itoa_length_le k h.1 h.2
    simp; omega
theorem headL_len {k : Int} {t : List UInt8} {c : Int} (hk : in64i k) (hc : in64i c) : (headL k t c).length ≤ 55 + 2 * t.length := by
  have h1 := kindName_len hk
  have h2 := escL_len t
  have h3 := Lib.itoa_length_le c hc.1 hc.2
  have h4 : (textL t).length ≤ 3 + 2 * t.length := by unfold textL; split <;> simp; omega
  have h5 : (colsL c).length ≤ 22 := by unfold colsL; split <;> simp; omega
  simp only [headL, List.length_append]; omega
theorem kidsL_len (l : List UInt8) : (kidsL l).length ≤ l.length + 1 := by cases l <;> simp [kidsL]
mutual
theorem dumpL_len : ∀ v : Nd, v.rng → (dumpL v).length ≤ 60 * v.w
  | .mk k t c ks, h => by
    have h1 := headL_len (t := t) h.1 h.2.1
    have h2 := dumpsL_len ks h.2.2
    have h3 := kidsL_len (dumpsL ks)
    simp only [dumpL, List.length_append, Nd.w]; omega
theorem dumpsL_len : ∀ vs : List Nd, Nd.rngs vs → (dumpsL vs).length ≤ 60 * Nd.ws vs
  | [], _ => by simp [dumpsL]
  | v :: vs, h => by
    have h1 := dumpL_len v h.1
    have h2 := dumpsL_len vs h.2
    simp only [dumpsL, List.length_cons, List.length_append, Nd.ws]; omega
end
theorem wb_eq (c : UInt8) (l : List UInt8) (h : l.length < 4294967296) : m_strings_Builder_WriteByte c l = some ((), l ++ [c]) := by
  unfold m_strings_Builder_WriteByte m_strings_Builder_copyCheck
  simp only [Option.bind_some]
  rw [req_t (by simp; omega)]
theorem ws_eq (s l : List UInt8) (h : l.length + s.length ≤ 4294967296) : m_strings_Builder_WriteString s l = some ((s.length : Int), (), l ++ s) := by
  unfold m_strings_Builder_WriteString m_strings_Builder_copyCheck
  simp only [Option.bind_some]
  rw [req_t h]
theorem ito_eq {n : Int} (h : in64i n) : m_strconv_Itoa n = some (Lib.itoa n) := by
  unfold m_strconv_Itoa
  exact req_t (show -9223372036854775808 ≤ n ∧ n ≤ 9223372036854775807 from h)
theorem byte_q (c : UInt8) : ((c.toNat : Int) == 34) = (c == 34) ∧ ((c.toNat : Int) == 92) = (c == 92) :=
  ⟨of_decide_eq_true (u8_all (P := fun c => decide (((c.toNat : Int) == 34) = (c == 34))) (by decide +kernel) c), of_decide_eq_true (u8_all (P := fun c => decide (((c.toNat : Int) == 92) = (c == 92))) (by decide +kernel) c)⟩
theorem escL_drop {t : List UInt8} {i : Nat} (h : i < t.length) : escL (t.drop i) = if t[i] = 34 ∨ t[i] = 92 then 92 :: t[i] :: escL (t.drop (i + 1)) else t[i] :: escL (t.drop (i + 1)) := by
  rw [List.drop_eq_getElem_cons h]; rfl
theorem head_loop (t : List UInt8) (ht : t.length ≤ 1073741824) : ∀ (k i : Nat) (l : List UInt8), t.length - i < k → i ≤ t.length → l.length + 2 * (t.length - i) < 4294967296 →
    m_node_dumper_head_l1 t k (i : Int) l = some (l ++ escL (t.drop i))
  | 0, _, _, h, _, _ => by omega
  | k + 1, i, l, hk, hi, hl => by
    unfold m_node_dumper_head_l1
    by_cases h : i < t.length
    · rw [dec_t (Int.ofNat_lt.2 h), cond_true, at_get h, escL_drop h]
      simp only [Option.bind_some, (byte_q t[i]).1, (byte_q t[i]).2]
      rw [wi_succ (by omega)]
      have e92 : b8of 92 = 92 := rfl
      by_cases h1 : t[i] = 34
      · rw [if_pos (.inl h1), show (t[i] == 34) = true from beq_iff_eq.2 h1, cond_true]
        simp only [Option.bind_some, cond_true]
        rw [e92, wb_eq _ _ (by omega)]
        simp only [Option.bind_some]
        rw [wb_eq _ _ (by simp; omega)]
        simp only [Option.bind_some]
        rw [head_loop t ht k (i + 1) _ (by omega) (by omega) (by simp; omega)]
        simp
      · rw [show (t[i] == 34) = false from beq_eq_false_iff_ne.2 h1, cond_false]
        simp only [Option.bind_some]
        by_cases h2 : t[i] = 92
        · rw [if_pos (.inr h2), show (t[i] == 92) = true from beq_iff_eq.2 h2, cond_true]
          try simp only [Option.bind_some, cond_true]
          rw [e92, wb_eq _ _ (by omega)]
          simp only [Option.bind_some]
          rw [wb_eq _ _ (by simp; omega)]
          simp only [Option.bind_some]
          rw [head_loop t ht k (i + 1) _ (by omega) (by omega) (by simp; omega)]
          simp [h2]
        · rw [if_neg (by intro h; exact h.elim h1 h2), show (t[i] == 92) = false from beq_eq_false_iff_ne.2 h2, cond_false]
          simp only [Option.bind_some]
          rw [wb_eq _ _ (by omega)]
          simp only [Option.bind_some]
          rw [head_loop t ht k (i + 1) _ (by omega) (by omega) (by simp; omega)]
          simp
    · rw [dec_f (by omega), cond_false]
      obtain rfl : i = t.length := by omega
      simp [escL]
theorem kindName_lit (k : Int) : kindName k = if k = 1 then [114, 111, 119] else if k = 2 then [115, 121, 109] else if k = 3 then [110, 117, 109] else if k = 4 then [116, 101, 120, 116]
  else if k = 5 then [102, 114, 97, 99] else if k = 6 then [114, 111, 111, 116] else if k = 7 then [115, 117, 98] else if k = 8 then [115, 117, 112]
  else if k = 9 then [98, 111, 116, 104] else if k = 10 then [97, 99, 99, 101, 110, 116] else if k = 11 then [102, 101, 110, 99, 101]
  else if k = 12 then [109, 97, 116, 114, 105, 120] else [110, 111, 100, 101] ++ Lib.itoa k := by
  rcases kinds k with rfl | rfl | rfl | rfl | rfl | rfl | rfl | rfl | rfl | rfl | rfl | rfl | hk
  all_goals first | rfl | skip
  unfold kindName
  rw [if_neg (by omega), if_neg (by omega), if_neg (by omega), if_neg (by omega), if_neg (by omega), if_neg (by omega), if_neg (by omega), if_neg (by omega), if_neg (by omega), if_neg (by omega), if_neg (by omega), if_neg (by omega), if_neg (by omega)]
theorem kind_in (k : Int) : (bif decide (1 ≤ k) then some (decide (k ≤ 12)) else some false : Option Bool) = some (decide (1 ≤ k ∧ k ≤ 12)) := by
  by_cases h : 1 ≤ k
  · rw [dec_t h, cond_true]; congr 1; by_cases h2 : k ≤ 12 <;> simp [h, h2]
  · rw [dec_f h, cond_false]; congr 1; simp [h]
theorem head_eq (n : Nat) (k : Int) (t : List UInt8) (c : Int) (ks : List Nd) (l : List UInt8) (hn : t.length < n) (ht : t.length ≤ 1073741824) (hk : in64i k) (hc : in64i c) (hl : l.length + 2 * t.length + 60 < 4294967296) :
    m_node_dumper_head n (.mk k t c ks) l = some (l ++ headL k t c) := by
  unfold m_node_dumper_head
  have hki := Lib.itoa_length_le k hk.1 hk.2
  have hci := Lib.itoa_length_le c hc.1 hc.2
  have h1 : ∀ X : Option (List UInt8), X = some (l ++ kindName k) → ∀ K : List UInt8 → Option (List UInt8), X.bind K = K (l ++ kindName k) := fun X h K => by rw [h]; rfl
  simp only [kind_in, Option.bind_some]
  have hlen := kindName_len hk
  rw [h1 _ ?_]
  · have h2 : ∀ X : Option (List UInt8), X = some ((l ++ kindName k) ++ textL t) → ∀ K : List UInt8 → Option (List UInt8), X.bind K = K ((l ++ kindName k) ++ textL t) := fun X h K => by rw [h]; rfl
    rw [h2 _ ?_]
    · unfold headL colsL
      have htx : (textL t).length ≤ 3 + 2 * t.length := by have := escL_len t; unfold textL; split <;> simp; omega
      by_cases h0 : c = 0
      · subst h0
        rw [if_pos rfl, show ((0 : Int) != 0) = false from rfl, cond_false]
        simp
      · rw [if_neg h0, show (c != 0) = true from bne_iff_ne.2 h0, cond_true, ito_eq hc]
        simp only [Option.bind_some]
        rw [req_t (by simp; omega), ws_eq _ _ (by simp; omega)]
        simp
    · unfold textL
      by_cases h0 : t = []
      · subst h0
        simp
      · rw [if_neg h0, show (!(t == [])) = true from by simp [h0], cond_true, ws_eq _ _ (by simp; omega)]
        simp only [Option.bind_some]
        have := head_loop t ht n 0 ((l ++ kindName k) ++ [58, 34]) (by omega) (by omega) (by simp; omega)
        rw [show ((0 : Nat) : Int) = 0 from rfl] at this
        rw [this]
        have he := escL_len t
        simp only [Option.bind_some, List.drop_zero]
        rw [show b8of 34 = 34 from rfl, wb_eq _ _ (by simp; omega)]
        simp
  · rw [kindName_lit]
    have go : ∀ s : List UInt8, s.length ≤ 25 → ((m_strings_Builder_WriteString s l).bind fun x => match x with | (_, _, b) => some b) = some (l ++ s) := fun s hs => by
      rw [ws_eq _ _ (by omega)]; rfl
    rcases kinds k with rfl | rfl | rfl | rfl | rfl | rfl | rfl | rfl | rfl | rfl | rfl | rfl | hk'
    all_goals first | exact go _ (by decide) | skip
    rw [show decide (1 ≤ k ∧ k ≤ 12) = false from decide_eq_false (by omega), cond_false, ito_eq hk]
    simp only [Option.bind_some]
    rw [req_t (by simp; omega), if_neg (by omega), if_neg (by omega), if_neg (by omega), if_neg (by omega), if_neg (by omega), if_neg (by omega), if_neg (by omega), if_neg (by omega), if_neg (by omega), if_neg (by omega), if_neg (by omega), if_neg (by omega)]
    exact go _ (by simp; omega)
def remK (ks : List Nd) (i : Nat) : List UInt8 := if i = 0 then kidsL (dumpsL ks) else dumpsL (ks.drop i) ++ [41]
def outS : List (Nd × Nat) → List UInt8
  | [] => []
  | p :: r => outS r ++ remK p.1.kids p.2
def itS : List (Nd × Nat) → Nat
  | [] => 0
  | p :: r => itS r + (1 + 2 * Nd.cnts (p.1.kids.drop p.2))
theorem outS_snoc (p : Nd × Nat) : ∀ L, outS (L ++ [p]) = remK p.1.kids p.2 ++ outS L
  | [] => by simp [outS]
  | q :: r => by simp only [List.cons_append, outS, outS_snoc p r, List.append_assoc]
theorem itS_snoc (p : Nd × Nat) : ∀ L, itS (L ++ [p]) = itS L + (1 + 2 * Nd.cnts (p.1.kids.drop p.2))
  | [] => by simp [itS]
  | q :: r => by simp only [List.cons_append, itS, itS_snoc p r]; omega
theorem itS_len : ∀ L, L.length ≤ itS L
  | [] => Nat.le_refl _
  | q :: r => by have := itS_len r; simp only [itS, List.length_cons]; omega
theorem remK_step {ks : List Nd} {i : Nat} (h : i < ks.length) : remK ks i = (if i = 0 then 40 else 32) :: (dumpL ks[i] ++ remK ks (i + 1)) := by
  unfold remK
  rw [if_neg (by omega : ¬ i + 1 = 0)]
  by_cases h0 : i = 0
  · subst h0
    rw [if_pos rfl, if_pos rfl]
    match ks, h with
    | v :: vs, _ => simp [dumpsL, kidsL]
  · rw [if_neg h0, if_neg h0, List.drop_eq_getElem_cons h]
    simp [dumpsL]
theorem remK_end (ks : List Nd) : remK ks ks.length = if ks.length = 0 then [] else [41] := by
  unfold remK
  by_cases h : ks.length = 0
  · rw [if_pos h, if_pos h, List.length_eq_zero_iff.1 h]; rfl
  · rw [if_neg h, if_neg h, List.drop_length]; rfl
theorem dumpL_eq (k : Int) (t : List UInt8) (c : Int) (ks : List Nd) : dumpL (.mk k t c ks) = headL k t c ++ remK ks 0 := by
  simp [dumpL, remK]
theorem w_kids' (k : Int) (t : List UInt8) (c : Int) (ks : List Nd) : (Nd.mk k t c ks).w = t.length + Nd.ws ks + 1 := rfl
def entI (p : Nd × Nat) : Nd × Int := (p.1, (p.2 : Int))
theorem Dump_loop (n : Nat) : ∀ (k : Nat) (L : List (Nd × Nat)) (b : List UInt8), itS L < k → itS L ≤ 1000000000 → (∀ p ∈ L, p.2 ≤ p.1.kids.length ∧ p.1.rng ∧ p.1.w ≤ 16777216 ∧ p.1.w < n) → b.length + (outS L).length ≤ 4000000000 →
    m_node_Dump_l1 n k b (L.map entI) = some (b ++ outS L)
  | 0, _, _, h, _, _, _ => by omega
  | k + 1, L, b, hk, hit, hL, hb => by
    unfold m_node_Dump_l1
    rcases List.eq_nil_or_concat L with rfl | ⟨L, ⟨v, i⟩, rfl⟩
    · simp [outS]
    · rw [List.concat_eq_append] at *
      obtain ⟨hi, hr, hw, hwn⟩ := hL (v, i) (by simp)
      obtain ⟨k0, t, c, ks⟩ := v
      replace hr : (Nd.mk k0 t c ks).rng := hr
      replace hw : (Nd.mk k0 t c ks).w ≤ 16777216 := hw
      replace hwn : (Nd.mk k0 t c ks).w < n := hwn
      have hlen : ((List.map entI (L ++ [(Nd.mk k0 t c ks, i)])).length : Int) = (L.length : Int) + 1 := by simp
      have hll := itS_len (L ++ [(Nd.mk k0 t c ks, i)])
      rw [List.length_append, List.length_singleton] at hll
      have hwr : IntKind.i64.wrap (((List.map entI (L ++ [(Nd.mk k0 t c ks, i)])).length : Int) - 1) = (L.length : Int) := by rw [hlen, wrap64_in (by omega) (by omega)]; omega
      have hat : at? (List.map entI (L ++ [(Nd.mk k0 t c ks, i)])) (L.length : Int) = some (Nd.mk k0 t c ks, (i : Int)) := by
        rw [at_get (by simp)]; simp [entI]
      rw [dec_t (by omega), cond_true, hwr, hat]
      simp only [Option.bind_some, Nd.kids] at hi ⊢
      rw [outS_snoc] at hb ⊢
      rw [itS_snoc] at hk hit
      simp only [Nd.kids] at hb hk hit ⊢
      by_cases he : i = ks.length
      · subst he
        rw [show ((ks.length : Int) == (ks.length : Int)) = true from beq_self_eq_true _, cond_true]
        have hre := remK_end ks
        have hx : (bif decide (0 < (ks.length : Int)) then (m_strings_Builder_WriteByte (b8of 41) b).bind (fun x => match x with | (_, b14) => some b14) else some b) = some (b ++ remK ks ks.length) := by
          rw [hre]
          by_cases h0 : ks.length = 0
          · rw [dec_f (by omega), cond_false, if_pos h0]; simp
          · rw [dec_t (by omega), cond_true, if_neg h0, wb_eq _ _ (by omega)]; rfl
        have hx' : ∀ X : Option (List UInt8), X = some (b ++ remK ks ks.length) → ∀ K : List UInt8 → Option (List UInt8), X.bind K = K (b ++ remK ks ks.length) := fun X h K => by rw [h]; rfl
        rw [hx' _ hx, req_t (by omega), Int.toNat_natCast]
        have ht : List.take L.length (List.map entI (L ++ [(Nd.mk k0 t c ks, ks.length)])) = L.map entI := by simp
        rw [ht, Dump_loop n k L _ (by omega) (by omega) (fun p hp => hL p (by simp [hp])) (by simp only [List.length_append] at hb ⊢; omega)]
        simp
      · have h : i < ks.length := by omega
        rw [ne_beq (by omega : (i : Int) ≠ (ks.length : Int)), cond_false, at_get h]
        have hd := Nd.cnts_drop h
        have hrs := remK_step h
        rw [hrs] at hb ⊢
        have hkr : (ks[i]).rng := Nd.rng_mem hr.2.2 (List.getElem_mem h)
        have hkw : (ks[i]).w < Nd.ws ks := Nd.w_mem (List.getElem_mem h)
        have hwt := w_kids' k0 t c ks
        rcases e : ks[i] with ⟨e1, e2, e3, e4⟩
        rw [e] at hd hkr hkw hb
        have hwt2 := w_kids' e1 e2 e3 e4
        have hct := Nd.cnt_kids (.mk e1 e2 e3 e4)
        simp only [Nd.kids] at hct
        rw [dumpL_eq] at hb
        simp only [Option.bind_some]
        have hsep : at? ([40, 32] : List UInt8) (if 1 < (i : Int) then 1 else (i : Int)) = some (if i = 0 then 40 else 32) := by
          by_cases h0 : i = 0
          · subst h0; rfl
          · rw [if_neg h0]
            by_cases h1 : i = 1
            · subst h1; rfl
            · rw [if_pos (by omega)]; rfl
        rw [hsep]
        simp only [Option.bind_some]
        simp only [List.length_append, List.length_cons] at hb
        rw [wb_eq _ _ (by omega)]
        simp only [Option.bind_some]
        rw [head_eq n e1 e2 e3 e4 _ (by omega) (by omega) hkr.1 hkr.2.1 (by simp; omega)]
        simp only [Option.bind_some]
        have hset : (List.map entI (L ++ [(Nd.mk k0 t c ks, i)])).set (L.length : Int).toNat (Nd.mk k0 t c ks, IntKind.i64.wrap ((i : Int) + 1)) ++ [(Nd.mk e1 e2 e3 e4, 0)] = (L ++ [(Nd.mk k0 t c ks, i + 1)] ++ [(Nd.mk e1 e2 e3 e4, 0)]).map entI := by
          have hlk := Nd.ws_len ks
          rw [wrap64_in (by omega) (by omega)]
          simp [entI]
        have hll2 := itS_len L
        rw [req_t (by simp; omega), hset]
        rw [Dump_loop n k _ _ (by rw [itS_snoc, itS_snoc]; simp only [Nd.kids, List.drop_zero]; omega) (by rw [itS_snoc, itS_snoc]; simp only [Nd.kids, List.drop_zero]; omega) ?_ ?_]
        · rw [outS_snoc, outS_snoc, dumpL_eq]
          simp [Nd.kids]
        · intro p hp
          rcases List.mem_append.1 hp with hp | hp
          · rcases List.mem_append.1 hp with hp | hp
            · exact hL p (by simp [hp])
            · simp only [List.mem_singleton] at hp; subst hp
              exact ⟨h, hr, hw, hwn⟩
          · simp only [List.mem_singleton] at hp; subst hp
            exact ⟨Nat.zero_le _, hkr, (show (Nd.mk e1 e2 e3 e4).w ≤ 16777216 by omega), (show (Nd.mk e1 e2 e3 e4).w < n by omega)⟩
        · rw [outS_snoc, outS_snoc]
          simp only [Nd.kids, List.length_append, List.length_cons, List.length_nil]
          omega
theorem dumpL_ne (t : Nd) : dumpL t ≠ [] := by
  obtain ⟨k, t, c, ks⟩ := t
  rw [dumpL_eq]
  unfold headL
  have := kindName_ne k
  simp [this]
theorem node_Dump_eq (n : Nat) (t : Nd) (h : 2 * t.w < n) (hw : t.w ≤ 16777216) (hr : t.rng) : m_node_Dump n t = some (dumpL t) := by
  have hlen := dumpL_len t hr
  have hne := dumpL_ne t
  have hcw := Nd.cnt_w t
  have hck := Nd.cnt_kids t
  obtain ⟨k, tx, c, ks⟩ := t
  have hwt := w_kids' k tx c ks
  simp only [Nd.kids] at hck
  unfold m_node_Dump m_node_kinds
  simp only [Option.bind_some]
  rw [head_eq n k tx c ks [] (by omega) (by omega) hr.1 hr.2.1 (by simp; omega)]
  simp only [Option.bind_some, List.nil_append]
  have hl := Dump_loop n n [(.mk k tx c ks, 0)] (headL k tx c) (by simp [itS, Nd.kids]; omega) (by simp [itS, Nd.kids]; omega) (fun p hp => by simp only [List.mem_singleton] at hp; subst hp; exact ⟨Nat.zero_le _, hr, hw, (show (Nd.mk k tx c ks).w < n by omega)⟩) (by
    rw [dumpL_eq] at hlen
    simp only [outS, Nd.kids, List.length_append, List.nil_append] at hlen ⊢; omega)
  have e : List.map entI [(Nd.mk k tx c ks, 0)] = [(Nd.mk k tx c ks, 0)] := rfl
  rw [e] at hl
  rw [hl, Option.bind_some]
  have e2 : headL k tx c ++ outS [(Nd.mk k tx c ks, 0)] = dumpL (.mk k tx c ks) := by rw [dumpL_eq]; simp [outS, Nd.kids]
  rw [e2]
  unfold m_strings_Builder_String
  rw [req_t ⟨hne, by omega⟩, Option.bind_some]
end Go.Proofs.YtgfneloodabafaaDoor
namespace Go.Proofs.YtgfneloodabafaaDoor
open Go.Abs
def cntI (x : Nd) : Int := (x.cnt : Int)
theorem sizes_loop (n : Nat) {l : List Nd} (hn : ∀ v ∈ l, v.cnt < n) (hb : Nd.cnts l ≤ 1048576) : ∀ (q i : Nat), l.length - i < q → i ≤ l.length →
    m_diff_sizes_l1 n l q (i : Int) ((l.take i).map cntI ++ List.replicate (l.length - i) 0) = some (l.map cntI)
  | 0, _, h, _ => by omega
  | q + 1, i, hq, hi => by
    have l1 := Nd.cnts_len l
    unfold m_diff_sizes_l1
    by_cases h : i < l.length
    · rw [dec_t (Int.ofNat_lt.2 h), cond_true, at_get h]
      have hm := List.getElem_mem h
      have hc := node_Count_eq n _ (hn _ hm) (by have := Nd.cnts_mem hm; omega)
      have ht : l.take (i + 1) = l.take i ++ [l[i]] := List.take_append_getElem h ▸ rfl
      rcases e : l[i] with ⟨a, b, c, d⟩
      rw [e] at hc ht
      simp only [Option.bind_some, hc]
      have hlen : ((l.take i).map cntI).length = i := by simp; omega
      obtain ⟨m, hm⟩ : ∃ m, l.length - i = m + 1 := ⟨l.length - i - 1, by omega⟩
      have hg : at? ((l.take i).map cntI ++ List.replicate (l.length - i) (0 : Int)) (i : Int) = some 0 := by
        unfold at?
        rw [if_pos (by omega), Int.toNat_natCast, List.getElem?_append_right (by omega), hlen, hm]
        simp
      rw [hg, Option.bind_some, wi_succ (by omega), Int.toNat_natCast]
      have hs : ((l.take i).map cntI ++ List.replicate (l.length - i) (0 : Int)).set i ((Nd.mk a b c d).cnt : Int) = (l.take (i + 1)).map cntI ++ List.replicate (l.length - (i + 1)) 0 := by
        rw [List.set_append_right _ _ (by omega), hlen, Nat.sub_self, hm, ht, show l.length - (i + 1) = m by omega, List.replicate_succ, List.set_cons_zero, List.map_append]
        simp [cntI]
      rw [hs]
      exact sizes_loop n hn hb q (i + 1) (by omega) (by omega)
    · rw [dec_f (by omega), cond_false]
      obtain rfl : i = l.length := by omega
      simp
theorem sizes_eq (n : Nat) (l : List Nd) (hn : Nd.cnts l + 1 < n) (hb : Nd.cnts l ≤ 1048576) : m_diff_sizes n l = some (l.map cntI) := by
  have l1 := Nd.cnts_len l
  have := sizes_loop n (l := l) (fun v hv => by have := Nd.cnts_mem hv; omega) hb n 0 (by omega) (by omega)
  rw [show ((0 : Nat) : Int) = 0 from rfl] at this
  simp only [List.take_zero, List.map_nil, List.nil_append, Nat.sub_zero] at this
  rw [m_diff_sizes, req_t ⟨by omega, by omega⟩, Int.toNat_natCast, this]; rfl
theorem flast_eq : ∀ b : List Nd, Nd.cnts b ≤ 1048576 → m_diff_fill_last (b.map cntI) = sufs (TD D []) b
  | [], _ => rfl
  | y :: ys, hb => by
    simp only [Nd.cnts] at hb
    have hf : TD D [] ys = Nd.cnts ys := rfl
    rw [List.map_cons, m_diff_fill_last, flast_eq ys (by omega), sufs_headD, hf, cntI, wrap64_in (by omega) (by omega), sufs, show TD D [] (y :: ys) = y.cnt + Nd.cnts ys from rfl]
    congr 1; omega
def prI (x y : Nd) : Int := bif alikeB x y then (D x y : Int) else -1
theorem frow_eq {F : Nd → Nd → Option Int} {x : Nd} {f : List Nd → Nat} {c : Nat} (hx : x.cnt ≤ 1048576) (hc : c ≤ 1048576) (hf : ∀ b, f b ≤ c + Nd.cnts b) :
    ∀ (b : List Nd), (∀ y ∈ b, F x y = some (prI x y)) → Nd.cnts b ≤ 1048576 → m_diff_fill_row F x (x.cnt : Int) b (b.map cntI) (sufs f b) = some (sufs (rowD D x f) b, b.map (prI x))
  | [], _, _ => by
    have := hf []
    simp only [Nd.cnts] at this
    simp only [sufs, List.map_nil, m_diff_fill_row, rowD]
    rw [wrap64_in (by omega) (by omega), Nat.add_comm]; rfl
  | y :: ys, h1, hb => by
    simp only [Nd.cnts] at hb
    have g1 := hf (y :: ys)
    simp only [Nd.cnts] at g1
    have g2 := hf ys
    have g3 := rowD_le (P := D) (x := x) hf ys
    have g4 := D_le x y
    have ih := frow_eq (F := F) hx hc hf ys (fun y hy => h1 y (List.mem_cons_of_mem _ hy)) (by omega)
    obtain ⟨r, hr⟩ := sufs_head f ys
    rw [sufs, hr, List.map_cons, m_diff_fill_row, ← hr, ih, Option.bind_some, h1 y List.mem_cons_self, Option.bind_some]
    dsimp only
    rw [sufs_headD, cntI, wrap64_in (n := (f (y :: ys) : Int) + (x.cnt : Int)) (by omega) (by omega), wrap64_in (n := (rowD D x f ys : Int) + _) (by omega) (by omega), ← Int.natCast_add, ← Int.natCast_add, min_pick, Nat.add_comm (f (y :: ys)), Nat.add_comm (rowD D x f ys)]
    unfold prI
    cases ha : alikeB x y with
    | false =>
      simp only [cond_false, sufs, rowD, ha, List.map_cons]
      rw [if_neg (by omega)]
      simp [prI, ha]
    | true =>
      simp only [cond_true]
      rw [if_pos (by omega), wrap64_in (by omega) (by omega), ← Int.natCast_add, min_pick, Nat.min_comm, Nat.add_comm (f ys)]
      simp [sufs, rowD, ha, prI]
theorem frows_eq {F : Nd → Nd → Option Int} {b : List Nd} (hb : Nd.cnts b ≤ 1048576) :
    ∀ (a : List Nd), (∀ x ∈ a, ∀ y ∈ b, F x y = some (prI x y)) → Nd.cnts a ≤ 1048576 → m_diff_fill_rows F b (b.map cntI) a (a.map cntI) = some (tabD D a b, a.map fun x => b.map (prI x))
  | [], _, _ => by rw [List.map_nil, m_diff_fill_rows, flast_eq b hb]; rfl
  | x :: xs, h1, ha => by
    simp only [Nd.cnts] at ha
    rw [List.map_cons, m_diff_fill_rows, frows_eq hb xs (fun y hy => h1 y (List.mem_cons_of_mem _ hy)) (by omega), Option.bind_some]
    obtain ⟨r, hr⟩ := tabD_head D xs b
    rw [hr]
    dsimp only
    rw [cntI, frow_eq (c := Nd.cnts xs) (by omega) (by omega) (TD_le xs) b (h1 x List.mem_cons_self) hb, Option.bind_some, ← hr]
    rfl
theorem pairing_loop {F : List Nd → List Nd → Option (List (List Int) × List (List Int) × List Int × List Int)} {a b : List Nd} (hF : ∀ u ∈ a, ∀ v ∈ b, ∃ p, F u.kids v.kids = some (tabD D u.kids v.kids, p)) (hl : a.length = b.length) (ha : Nd.cnts a ≤ 1048576) :
    ∀ (q i o : Nat), a.length - i < q → i ≤ a.length → o + sumD DL (a.drop i) (b.drop i) ≤ 4000000 → m_diff_pairing_l1 F a b q (o : Int) (i : Int) = some ((o + sumD DL (a.drop i) (b.drop i) : Nat) : Int)
  | 0, _, _, h, _, _ => by omega
  | q + 1, i, o, hq, hi, ho => by
    have l1 := Nd.cnts_len a
    unfold m_diff_pairing_l1
    by_cases h : i < a.length
    · have h' : i < b.length := by omega
      rw [dec_t (Int.ofNat_lt.2 h), cond_true, at_get h, at_get h']
      obtain ⟨p, hf⟩ := hF _ (List.getElem_mem h) _ (List.getElem_mem h')
      have hs := sum_drop (f := DL) h h'
      rcases e : a[i] with ⟨x1, x2, x3, x4⟩
      rcases e' : b[i] with ⟨y1, y2, y3, y4⟩
      rw [e, e'] at hf hs
      simp only [Nd.kids] at hf hs
      obtain ⟨r, r1, r2⟩ := tab00 D x4 y4
      have hd : TD D x4 y4 = DL x4 y4 := rfl
      rw [hd] at r2
      obtain ⟨p1, p2, p3⟩ := p
      simp only [Option.bind_some, hf, r1, r2]
      rw [wi_succ (by omega), wrap64_in (by omega) (by omega), ← Int.natCast_add, pairing_loop hF hl ha q (i + 1) _ (by omega) (by omega) (by omega)]
      congr 2; omega
    · rw [dec_f (by omega), cond_false]
      obtain rfl : i = a.length := by omega
      rw [List.drop_length]
      cases List.drop a.length b <;> rfl
theorem fill_eq : ∀ N : Nat, (∀ x y : Nd, 2 * x.cnt + 2 * y.cnt < N → x.cnt ≤ 1048576 → y.cnt ≤ 1048576 → m_diff_pairing N x y = some (prI x y)) ∧
    (∀ a b : List Nd, 2 * Nd.cnts a + 2 * Nd.cnts b + 2 < N → Nd.cnts a ≤ 1048576 → Nd.cnts b ≤ 1048576 → m_diff_fill N a b = some (tabD D a b, (a.map fun x => b.map (prI x)), a.map cntI, b.map cntI))
  | 0 => ⟨fun _ _ h _ _ => by omega, fun _ _ h _ _ => by omega⟩
  | n + 1 => by
    obtain ⟨ih1, ih2⟩ := fill_eq n
    refine ⟨fun x y h hx hy => ?_, fun a b h ha hb => ?_⟩
    · have e1 := x.cnt_kids
      have e2 := y.cnt_kids
      have hle := sumD_le x.kids y.kids
      have hD := D_eq x y
      have l1 := Nd.cnts_len x.kids
      have hF : ∀ u ∈ x.kids, ∀ v ∈ y.kids, ∃ p, m_diff_fill n u.kids v.kids = some (tabD D u.kids v.kids, p) := fun u hu v hv => by
        have := Nd.cnts_mem hu
        have := Nd.cnts_mem hv
        have := u.cnt_kids
        have := v.cnt_kids
        exact ⟨_, ih2 _ _ (by omega) (by omega) (by omega)⟩
      have ht := txt_le x y
      have hal : alikeB x y = true → x.kids.length = y.kids.length := alike_len
      have hlp : x.kids.length = y.kids.length → _ := fun hl => pairing_loop hF hl (by omega) n 0 (txt x y) (by omega) (by omega) (by simp only [List.drop_zero]; omega)
      rw [show ((0 : Nat) : Int) = 0 from rfl, List.drop_zero, List.drop_zero, ← hD] at hlp
      obtain ⟨a, b, c, d⟩ := x
      obtain ⟨a', b', c', d'⟩ := y
      unfold m_diff_pairing
      have e : (bif (!(b == b')) then some 1 else some 0 : Option Int) = some (txt (.mk a b c d) (.mk a' b' c' d') : Int) := by
        unfold txt
        simp only [Nd.text]
        cases b == b' <;> rfl
      have e3 : (bif (a != a') then some true else bif (c != c') then some true else some ((d.length : Int) != (d'.length : Int)) : Option Bool) = some (!alikeB (.mk a b c d) (.mk a' b' c' d')) := by
        unfold alikeB bne
        simp only [Nd.kind, Nd.kids, Nd.cols]
        cases a == a' <;> cases c == c' <;> cases ((d.length : Int) == (d'.length : Int)) <;> rfl
      rw [e, e3]
      unfold prI
      cases hab : alikeB (.mk a b c d) (.mk a' b' c' d') with
      | false => rfl
      | true =>
        simp only [Nd.kids] at hlp hal
        simp only [Option.bind_some, Bool.not_true, cond_false, cond_true]
        rw [hlp (hal hab)]; rfl
    · have l1 := Nd.cnts_len a
      have l2 := Nd.cnts_len b
      rw [m_diff_fill, sizes_eq n a (by omega) ha, sizes_eq n b (by omega) hb, Option.bind_some, Option.bind_some, req_t ⟨by omega, by omega, by simp⟩]
      rw [frows_eq hb a (fun x hx y hy => ?_) ha]
      · rfl
      · have := Nd.cnts_mem hy
        have := Nd.cnts_mem hx
        exact ih1 x y (by omega) (by omega) (by omega)
theorem diff_valid_eq (n : Nat) (a b : Nd) (ha : a.w + 45 < n) (ha' : a.w ≤ 67108864) (hb : b.w + 45 < n) (hb' : b.w ≤ 67108864) : m_diff_valid n a b = some (validB a && validB b) := by
  have e1 := node_Valid_eq n a ha ha'
  have e2 := node_Valid_eq n b hb hb'
  obtain ⟨a1, a2, a3, a4⟩ := a
  obtain ⟨b1, b2, b3, b4⟩ := b
  unfold m_diff_valid
  simp only [e1, e2, Option.bind_some]
  cases validB (.mk a1 a2 a3 a4) <;> rfl
end Go.Proofs.YtgfneloodabafaaDoor
namespace Go.Proofs.YtgfneloodabafaaDoor
open Go.Abs
inductive Al : List Nd → List Nd → Nat → Prop
  | nil : Al [] [] 0
  | del {x xs b k} : Al xs b k → Al (x :: xs) b (x.cnt + k)
  | ins {y a ys k} : Al a ys k → Al a (y :: ys) (y.cnt + k)
  | mat {x y xs ys k} : alikeB x y = true → Al xs ys k → Al (x :: xs) (y :: ys) (D x y + k)
theorem rowD_1 {P : Nd → Nd → Nat} {x y : Nd} {f : List Nd → Nat} {ys : List Nd} : rowD P x f (y :: ys) ≤ x.cnt + f (y :: ys) := by
  simp only [rowD]; split
  · exact Nat.le_trans (Nat.min_le_left _ _) (Nat.min_le_left _ _)
  · exact Nat.min_le_left _ _
theorem rowD_2 {P : Nd → Nd → Nat} {x y : Nd} {f : List Nd → Nat} {ys : List Nd} : rowD P x f (y :: ys) ≤ y.cnt + rowD P x f ys := by
  rw [rowD]; split
  · exact Nat.le_trans (Nat.min_le_left _ _) (Nat.min_le_right _ _)
  · exact Nat.min_le_right _ _
theorem rowD_3 {P : Nd → Nd → Nat} {x y : Nd} {f : List Nd → Nat} {ys : List Nd} (h : alikeB x y = true) : rowD P x f (y :: ys) ≤ P x y + f ys := by
  rw [rowD, if_pos h]; exact Nat.min_le_right _ _
theorem Al_min {a b : List Nd} {k : Nat} (h : Al a b k) : DL a b ≤ k := by
  induction h with
  | nil => exact Nat.le_refl _
  | @del x xs b k _ ih =>
    cases b with
    | nil => exact Nat.add_le_add_left ih _
    | cons y ys => exact Nat.le_trans rowD_1 (Nat.add_le_add_left ih _)
  | @ins y a ys k _ ih =>
    cases a with
    | nil => exact Nat.add_le_add_left ih _
    | cons x xs => exact Nat.le_trans rowD_2 (Nat.add_le_add_left ih _)
  | @mat x y xs ys k hal _ ih => exact Nat.le_trans (rowD_3 hal) (Nat.add_le_add_left ih _)
theorem alike_iff {x y : Nd} : alikeB x y = true ↔ x.kind = y.kind ∧ x.kids.length = y.kids.length ∧ x.cols = y.cols := by
  unfold alikeB
  simp only [Bool.and_eq_true, beq_iff_eq]
  omega
theorem alike_refl (x : Nd) : alikeB x x = true := alike_iff.2 ⟨rfl, rfl, rfl⟩
theorem txt_zero {x y : Nd} : txt x y = 0 ↔ x.text = y.text := by
  unfold txt
  cases e : x.text == y.text with
  | true => simpa using e
  | false => simpa using e
theorem forms_mem {k : Int} : ∀ {a : List Nd} {v : Nd}, formsB k a = true → v ∈ a → formB v = true ∧ ((v.kind == 1) == (k == 1)) = false
  | u :: a, v, h, hm => by
    simp only [formsB, Bool.and_eq_true, Bool.not_eq_true'] at h
    rcases List.mem_cons.1 hm with rfl | hm
    · exact ⟨h.1.2, h.1.1⟩
    · exact forms_mem h.2 hm
theorem form_row {u : Nd} (h : formB u = true) (hk : u.kind = 1) : u = .mk 1 [] 0 u.kids ∧ formsB 1 u.kids = true := by
  obtain ⟨k, t, c, ks⟩ := u
  simp only [Nd.kind] at hk
  subst hk
  simp only [formB, Bool.and_eq_true] at h
  obtain ⟨⟨h1, h2⟩, h3⟩ := h
  have h1' : (t == []) = true := h1
  have h2' : ((c == 0) && decide ((ks.length : Int) ≤ 200)) = true := h2
  simp only [Bool.and_eq_true] at h2'
  rw [eq_of_beq h1', eq_of_beq h2'.1]
  exact ⟨rfl, h3⟩
theorem Al_self : ∀ (a : List Nd), (∀ x ∈ a, D x x = 0) → Al a a 0
  | [], _ => .nil
  | x :: xs, h => by
    have := Al.mat (alike_refl x) (Al_self xs fun x hx => h x (List.mem_cons_of_mem _ hx))
    rwa [h x List.mem_cons_self] at this
theorem sum_self : ∀ (us : List Nd), (∀ u ∈ us, DL u.kids u.kids = 0) → sumD DL us us = 0
  | [], _ => rfl
  | u :: us, h => by rw [sumD, h u List.mem_cons_self, sum_self us fun u hu => h u (List.mem_cons_of_mem _ hu)]
theorem D_self : ∀ (N : Nat) (x : Nd), x.cnt ≤ N → D x x = 0
  | 0, x, h => by have := x.cnt_pos; omega
  | N + 1, x, h => by
    have e1 := x.cnt_kids
    rw [D_eq, txt_zero.2 rfl, sum_self]
    intro u hu
    have e2 := u.cnt_kids
    have e3 := Nd.cnts_mem hu
    exact Nat.le_zero.1 (Al_min (Al_self u.kids fun x' hx' => D_self N x' (by have := Nd.cnts_mem hx'; omega)))
theorem DL_self (a : List Nd) : DL a a = 0 := Nat.le_zero.1 (Al_min (Al_self a fun x _ => D_self _ x (Nat.le_refl _)))
theorem same_loop {F : Nd → Nd → Option Bool} {a b : List Nd} (hF : ∀ u ∈ a, ∀ v ∈ b, ∃ y, F u v = some y ∧ (y = true ↔ u = v)) (hl : a.length = b.length) (hb : a.length ≤ 1073741824) :
    ∀ (q i : Nat), a.length - i < q → i ≤ a.length → ∃ y, m_r09_SameItems_l1 F a b q (i : Int) = some (if y then .go () else .ret false) ∧ (y = true ↔ a.drop i = b.drop i)
  | 0, _, h, _ => by omega
  | q + 1, i, hq, hi => by
    unfold m_r09_SameItems_l1
    by_cases h : i < a.length
    · have h' : i < b.length := by omega
      rw [dec_t (Int.ofNat_lt.2 h), cond_true, at_get h, at_get h']
      obtain ⟨y, f1, f2⟩ := hF _ (List.getElem_mem h) _ (List.getElem_mem h')
      have d1 := List.drop_eq_getElem_cons h
      have d2 := List.drop_eq_getElem_cons h'
      rcases e : a[i] with ⟨x1, x2, x3, x4⟩
      rcases e' : b[i] with ⟨y1, y2, y3, y4⟩
      rw [e, e'] at f1 f2
      rw [e] at d1
      rw [e'] at d2
      simp only [Option.bind_some, f1]
      cases y with
      | false =>
        refine ⟨false, rfl, ⟨(fun h => by cases h), fun h => ?_⟩⟩
        rw [d1, d2] at h
        exact f2.2 (List.cons.inj h).1
      | true =>
        simp only [Bool.not_true, cond_false]
        rw [wi_succ (by omega)]
        obtain ⟨z, g1, g2⟩ := same_loop hF hl hb q (i + 1) (by omega) (by omega)
        refine ⟨z, g1, ?_⟩
        rw [d1, d2, g2, f2.1 rfl]
        simp
    · rw [dec_f (by omega), cond_false]
      obtain rfl : i = a.length := by omega
      refine ⟨true, rfl, ?_⟩
      rw [List.drop_length, hl, List.drop_length]
      simp
theorem Equal_eq : ∀ N : Nat, (∀ x y : Nd, 2 * x.cnt < N → x.cnt ≤ 67108864 → ∃ r, m_r09_Equal N x y = some r ∧ (r = true ↔ x = y)) ∧
    (∀ a b : List Nd, 2 * Nd.cnts a + 1 < N → Nd.cnts a ≤ 67108864 → ∃ r, m_r09_SameItems N a b = some r ∧ (r = true ↔ a = b))
  | 0 => ⟨fun _ _ h _ => by omega, fun _ _ h _ => by omega⟩
  | n + 1 => by
    obtain ⟨ih1, ih2⟩ := Equal_eq n
    refine ⟨fun x y h hx => ?_, fun a b h ha => ?_⟩
    · obtain ⟨a, b, c, d⟩ := x
      obtain ⟨a', b', c', d'⟩ := y
      simp only [Nd.cnt] at h hx
      obtain ⟨r, h1, h2⟩ := ih2 d d' (by omega) (by omega)
      unfold m_r09_Equal
      simp only [h1, Option.bind_some]
      cases e1 : a == a' with
      | false => exact ⟨false, rfl, ⟨(fun h => by cases h), fun h => by cases h; simp at e1⟩⟩
      | true =>
        cases e2 : b == b' with
        | false => exact ⟨false, rfl, ⟨(fun h => by cases h), fun h => by cases h; simp at e2⟩⟩
        | true =>
          cases e3 : c == c' with
          | false => exact ⟨false, rfl, ⟨(fun h => by cases h), fun h => by cases h; simp at e3⟩⟩
          | true =>
            refine ⟨r, rfl, h2.trans ⟨fun h => ?_, fun h => by cases h; rfl⟩⟩
            rw [eq_of_beq e1, eq_of_beq e2, eq_of_beq e3, h]
    · unfold m_r09_SameItems
      have l1 := Nd.cnts_len a
      by_cases hl : a.length = b.length
      · obtain ⟨y, g1, g2⟩ := same_loop (F := m_r09_Equal n) (a := a) (b := b) (fun u hu v _ => ih1 u v (by have := Nd.cnts_mem hu; omega) (by have := Nd.cnts_mem hu; omega)) hl (by omega) n 0 (by omega) (by omega)
        rw [show ((0 : Nat) : Int) = 0 from rfl] at g1
        rw [hl, bne_self_eq_false, cond_false, g1]
        refine ⟨y, by cases y <;> rfl, g2⟩
      · have : ((a.length : Int) != (b.length : Int)) = true := by
          unfold bne
          rw [ne_beq (by omega)]; rfl
        rw [this]
        exact ⟨false, rfl, ⟨(fun h => by cases h), fun h => absurd (congrArg List.length h) hl⟩⟩
theorem valid_row {x : Nd} (h : validB x = true) : x = .mk 1 [] 0 x.kids ∧ formsB 1 x.kids = true := by
  unfold validB at h
  simp only [Bool.and_eq_true] at h
  exact form_row h.2.1 (eq_of_beq h.1)
end Go.Proofs.YtgfneloodabafaaDoor
namespace Go.Proofs.YtgfneloodabafaaDoor
open Go.Abs
theorem nsame_loop {F : Nd → Nd → Option Bool} {a b : List Nd} (hF : ∀ u ∈ a, ∀ v ∈ b, ∃ y, F u v = some y ∧ (y = true ↔ u = v)) (hl : a.length = b.length) (hb : a.length ≤ 1073741824) :
    ∀ (q i : Nat), a.length - i < q → i ≤ a.length → ∃ y, m_slices_EqualFunc_sNode_l1 F a b q (i : Int) = some (if y then .go () else .ret false) ∧ (y = true ↔ a.drop i = b.drop i)
  | 0, _, h, _ => by omega
  | q + 1, i, hq, hi => by
    unfold m_slices_EqualFunc_sNode_l1
    by_cases h : i < a.length
    · have h' : i < b.length := by omega
      rw [dec_t (Int.ofNat_lt.2 h), cond_true, at_get h, at_get h']
      obtain ⟨y, f1, f2⟩ := hF _ (List.getElem_mem h) _ (List.getElem_mem h')
      have d1 := List.drop_eq_getElem_cons h
      have d2 := List.drop_eq_getElem_cons h'
      rcases e : a[i] with ⟨x1, x2, x3, x4⟩
      rcases e' : b[i] with ⟨y1, y2, y3, y4⟩
      rw [e, e'] at f1 f2
      rw [e] at d1
      rw [e'] at d2
      simp only [Option.bind_some, f1]
      cases y with
      | false =>
        refine ⟨false, rfl, ⟨(fun h => by cases h), fun h => ?_⟩⟩
        rw [d1, d2] at h
        exact f2.2 (List.cons.inj h).1
      | true =>
        simp only [Bool.not_true, cond_false]
        rw [wi_succ (by omega)]
        obtain ⟨z, g1, g2⟩ := nsame_loop hF hl hb q (i + 1) (by omega) (by omega)
        refine ⟨z, g1, ?_⟩
        rw [d1, d2, g2, f2.1 rfl]
        simp
    · rw [dec_f (by omega), cond_false]
      obtain rfl : i = a.length := by omega
      refine ⟨true, rfl, ?_⟩
      rw [List.drop_length, hl, List.drop_length]
      simp
theorem node_Equal_eq : ∀ N : Nat, (∀ x y : Nd, 2 * x.cnt < N → x.cnt ≤ 67108864 → ∃ r, m_node_Equal N x y = some r ∧ (r = true ↔ x = y)) ∧
    (∀ a b : List Nd, 2 * Nd.cnts a + 1 < N → Nd.cnts a ≤ 67108864 → ∃ r, m_slices_EqualFunc_sNode N a b = some r ∧ (r = true ↔ a = b))
  | 0 => ⟨fun _ _ h _ => by omega, fun _ _ h _ => by omega⟩
  | n + 1 => by
    obtain ⟨ih1, ih2⟩ := node_Equal_eq n
    refine ⟨fun x y h hx => ?_, fun a b h ha => ?_⟩
    · obtain ⟨a, b, c, d⟩ := x
      obtain ⟨a', b', c', d'⟩ := y
      simp only [Nd.cnt] at h hx
      obtain ⟨r, h1, h2⟩ := ih2 d d' (by omega) (by omega)
      unfold m_node_Equal
      simp only [h1, Option.bind_some]
      cases e1 : a == a' with
      | false => exact ⟨false, rfl, ⟨(fun h => by cases h), fun h => by cases h; simp at e1⟩⟩
      | true =>
        cases e2 : b == b' with
        | false => exact ⟨false, rfl, ⟨(fun h => by cases h), fun h => by cases h; simp at e2⟩⟩
        | true =>
          cases e3 : c == c' with
          | false => exact ⟨false, rfl, ⟨(fun h => by cases h), fun h => by cases h; simp at e3⟩⟩
          | true =>
            refine ⟨r, rfl, h2.trans ⟨fun h => ?_, fun h => by cases h; rfl⟩⟩
            rw [eq_of_beq e1, eq_of_beq e2, eq_of_beq e3, h]
    · unfold m_slices_EqualFunc_sNode
      have l1 := Nd.cnts_len a
      by_cases hl : a.length = b.length
      · obtain ⟨y, g1, g2⟩ := nsame_loop (F := m_node_Equal n) (a := a) (b := b) (fun u hu v _ => ih1 u v (by have := Nd.cnts_mem hu; omega) (by have := Nd.cnts_mem hu; omega)) hl (by omega) n 0 (by omega) (by omega)
        rw [show ((0 : Nat) : Int) = 0 from rfl] at g1
        rw [hl, bne_self_eq_false, cond_false, g1]
        refine ⟨y, by cases y <;> rfl, g2⟩
      · have : ((a.length : Int) != (b.length : Int)) = true := by
          unfold bne
          rw [ne_beq (by omega)]; rfl
        rw [this]
        exact ⟨false, rfl, ⟨(fun h => by cases h), fun h => absurd (congrArg List.length h) hl⟩⟩
theorem nmax_def (a b : Nat) : Nat.max a b = if a ≤ b then b else a := rfl
theorem deps_mem : ∀ {ks : List Nd} {v : Nd}, v ∈ ks → v.dep ≤ Nd.deps ks
  | u :: ks, v, h => by
    simp only [Nd.deps, nmax_def]
    rcases List.mem_cons.1 h with rfl | h
    · split <;> omega
    · have := deps_mem h; split <;> omega
end Go.Proofs.YtgfneloodabafaaDoor
namespace Go.Proofs.YtgfneloodabafaaDoor
open Go.Abs
def alignP : Nat → Nat → Nat → List Nd → List Nd → List (Nat × Nat)
  | k + 1, i, j, x :: xs, y :: ys =>
    bif alikeB x y && (DL (x :: xs) (y :: ys) == DL xs ys + D x y) then (i, j) :: alignP k (i + 1) (j + 1) xs ys
    else bif (DL (x :: xs) (y :: ys) == DL xs (y :: ys) + x.cnt) && (!(DL (x :: xs) (y :: ys) == DL (x :: xs) ys + y.cnt) || Op.bytesLess (dumpL x) (dumpL y)) then alignP k (i + 1) j xs (y :: ys)
    else alignP k i (j + 1) (x :: xs) ys
  | _, _, _, _, _ => []
theorem nat_beq_cast (a b : Nat) : ((a : Int) == (b : Int)) = (a == b) := by
  by_cases h : a = b
  · subst h; simp
  · rw [beq_eq_false_iff_ne.2 h, beq_eq_false_iff_ne.2 (by omega)]
theorem tab_at (P : Nd → Nd → Nat) (b : List Nd) : ∀ (a : List Nd) (i : Nat), i ≤ a.length → at? (tabD P a b) (i : Int) = some (sufs (TD P (a.drop i)) b)
  | [], 0, _ => rfl
  | [], i + 1, h => by simp at h
  | x :: xs, 0, _ => rfl
  | x :: xs, i + 1, h => by
    have := tab_at P b xs i (by simpa using h)
    unfold at? at this ⊢
    rw [if_pos (by omega)] at this ⊢
    simp only [Int.toNat_natCast] at this ⊢
    simpa [tabD] using this
theorem sufs_at (f : List Nd → Nat) : ∀ (b : List Nd) (j : Nat), j ≤ b.length → at? (sufs f b) (j : Int) = some (f (b.drop j) : Int)
  | [], 0, _ => rfl
  | [], j + 1, h => by simp at h
  | y :: ys, 0, _ => rfl
  | y :: ys, j + 1, h => by
    have := sufs_at f ys j (by simpa using h)
    unfold at? at this ⊢
    rw [if_pos (by omega)] at this ⊢
    simp only [Int.toNat_natCast] at this ⊢
    simpa [sufs] using this
theorem map_at {α β : Type} (f : α → β) {l : List α} {i : Nat} (h : i < l.length) : at? (l.map f) (i : Int) = some (f l[i]) := by
  rw [at_get (by simpa using h)]; simp
def cast2 (p : Nat × Nat) : Int × Int := ((p.1 : Int), (p.2 : Int))
theorem align_loop (n : Nat) {a b : List Nd} (ha : Nd.cnts a ≤ 1000000) (hb : Nd.cnts b ≤ 1000000) (hwa : ∀ x ∈ a, 2 * x.w < n ∧ x.w ≤ 16777216 ∧ x.rng) (hwb : ∀ x ∈ b, 2 * x.w < n ∧ x.w ≤ 16777216 ∧ x.rng) :
    ∀ (k i j : Nat) (l : List (Int × Int)), (a.length - i) + (b.length - j) < k → i ≤ a.length → j ≤ b.length → l.length ≤ i →
      m_diff_align_l1 n a b (tabD D a b) (a.map fun x => b.map (prI x)) (a.map cntI) (b.map cntI) k (i : Int) (j : Int) l = some (l ++ (alignP k i j (a.drop i) (b.drop j)).map cast2)
  | 0, _, _, _, h, _, _, _ => by omega
  | k + 1, i, j, l, hk, hi, hj, hl => by
    have la := Nd.cnts_len a
    have lb := Nd.cnts_len b
    unfold m_diff_align_l1
    by_cases hia : i < a.length
    · rw [dec_t (Int.ofNat_lt.2 hia), cond_true]
      by_cases hjb : j < b.length
      · rw [dec_t (Int.ofNat_lt.2 hjb), Option.bind_some, cond_true]
        have hda := List.drop_eq_getElem_cons hia
        have hdb := List.drop_eq_getElem_cons hjb
        have ca := Nd.cnts_drop hia
        have cb := Nd.cnts_drop hjb
        obtain ⟨x1, x2, x3⟩ := hwa _ (List.getElem_mem hia)
        obtain ⟨y1, y2, y3⟩ := hwb _ (List.getElem_mem hjb)
        have ca' : Nd.cnts (a.drop i) ≤ Nd.cnts a := by
          have := Nd.cnts_append (a.take i) (a.drop i); rw [List.take_append_drop] at this; omega
        have cb' : Nd.cnts (b.drop j) ≤ Nd.cnts b := by
          have := Nd.cnts_append (b.take j) (b.drop j); rw [List.take_append_drop] at this; omega
        have b1 := TD_le (P := D) (a.drop i) (b.drop j)
        have b2 := TD_le (P := D) (a.drop (i + 1)) (b.drop j)
        have b3 := TD_le (P := D) (a.drop i) (b.drop (j + 1))
        have b4 := TD_le (P := D) (a.drop (i + 1)) (b.drop (j + 1))
        have b5 := D_le a[i] b[j]
        have t1 := tab_at D b a i (by omega)
        have t2 := tab_at D b a (i + 1) (by omega)
        have s1 := sufs_at (TD D (a.drop i)) b j (by omega)
        have s2 := sufs_at (TD D (a.drop (i + 1))) b j (by omega)
        have s3 := sufs_at (TD D (a.drop i)) b (j + 1) (by omega)
        have s4 := sufs_at (TD D (a.drop (i + 1))) b (j + 1) (by omega)
        have p1 := map_at (fun x => b.map (prI x)) hia
        have p2 := map_at (prI a[i]) hjb
        have c1 := map_at cntI hia
        have c2 := map_at cntI hjb
        have d1 := node_Dump_eq n a[i] x1 x2 x3
        have d2 := node_Dump_eq n b[j] y1 y2 y3
        rw [wi_succ (by omega), wi_succ (by omega)]
        simp only [t1, t2, s1, s2, s3, s4, p1, p2, c1, c2, Option.bind_some, at_get hia, at_get hjb]
        have hx : (bif decide (0 ≤ prI a[i] b[j]) then some ((TD D (a.drop i) (b.drop j) : Int) == IntKind.i64.wrap ((TD D (a.drop (i + 1)) (b.drop (j + 1)) : Int) + prI a[i] b[j])) else some false : Option Bool) = some (alikeB a[i] b[j] && (DL (a[i] :: a.drop (i + 1)) (b[j] :: b.drop (j + 1)) == DL (a.drop (i + 1)) (b.drop (j + 1)) + D a[i] b[j])) := by
          unfold prI
          cases hal : alikeB a[i] b[j] with
          | false => rfl
          | true =>
            rw [cond_true, dec_t (by omega), cond_true, wrap64_in (by omega) (by omega), ← Int.natCast_add, nat_beq_cast, ← hda, ← hdb]; rfl
        rw [hx, Option.bind_some, hda, hdb, alignP]
        cases alikeB a[i] b[j] && (DL (a[i] :: a.drop (i + 1)) (b[j] :: b.drop (j + 1)) == DL (a.drop (i + 1)) (b.drop (j + 1)) + D a[i] b[j]) with
        | true =>
          simp only [cond_true]
          rw [req_t (by simp; omega), align_loop n ha hb hwa hwb k (i + 1) (j + 1) _ (by omega) (by omega) (by omega) (by simp; omega)]
          simp [cast2]
        | false =>
          simp only [cond_false]
          rw [← hda, ← hdb, cntI, wrap64_in (by omega) (by omega), ← Int.natCast_add, nat_beq_cast, cntI, wrap64_in (by omega) (by omega), ← Int.natCast_add, nat_beq_cast]
          have hz : ∀ X : Option Bool, X = some ((DL (a.drop i) (b.drop j) == DL (a.drop (i + 1)) (b.drop j) + a[i].cnt) && (!(DL (a.drop i) (b.drop j) == DL (a.drop i) (b.drop (j + 1)) + b[j].cnt) || Op.bytesLess (dumpL a[i]) (dumpL b[j]))) → ∀ K : Bool → Option (List (Int × Int)), X.bind K = K ((DL (a.drop i) (b.drop j) == DL (a.drop (i + 1)) (b.drop j) + a[i].cnt) && (!(DL (a.drop i) (b.drop j) == DL (a.drop i) (b.drop (j + 1)) + b[j].cnt) || Op.bytesLess (dumpL a[i]) (dumpL b[j]))) := fun X h K => by rw [h]; rfl
          refine (hz _ ?_ _).trans ?_
          · have key : ∀ (p q r : Bool), (bif p then (bif !q then some true else some r) else some false : Option Bool) = some (p && (!q || r)) := by intro p q r; cases p <;> cases q <;> rfl
            rcases e : a[i] with ⟨e1, e2, e3, e4⟩
            rcases e' : b[j] with ⟨f1, f2, f3, f4⟩
            rw [e] at d1
            rw [e'] at d2
            simp only [d1, d2, Option.bind_some]
            exact key _ _ _
          cases ((DL (a.drop i) (b.drop j) == DL (a.drop (i + 1)) (b.drop j) + a[i].cnt) && (!(DL (a.drop i) (b.drop j) == DL (a.drop i) (b.drop (j + 1)) + b[j].cnt) || Op.bytesLess (dumpL a[i]) (dumpL b[j]))) with
          | true =>
            simp only [cond_true]
            rw [align_loop n ha hb hwa hwb k (i + 1) j _ (by omega) (by omega) (by omega) (by omega)]
          | false =>
            simp only [cond_false]
            rw [align_loop n ha hb hwa hwb k i (j + 1) _ (by omega) (by omega) (by omega) (by omega)]
      · rw [dec_f (by omega), Option.bind_some, cond_false]
        obtain rfl : j = b.length := by omega
        rw [List.drop_length]
        cases a.drop i <;> simp [alignP]
    · rw [dec_f (by omega), cond_false, Option.bind_some, cond_false]
      obtain rfl : i = a.length := by omega
      rw [List.drop_length]
      simp [alignP]
theorem alignP_len : ∀ (k i j : Nat) (a b : List Nd), (alignP k i j a b).length ≤ a.length
  | 0, _, _, _, _ => by simp [alignP]
  | k + 1, i, j, [], _ => by simp [alignP]
  | k + 1, i, j, _ :: _, [] => by simp [alignP]
  | k + 1, i, j, x :: xs, y :: ys => by
    have h1 := alignP_len k (i + 1) (j + 1) xs ys
    have h2 := alignP_len k (i + 1) j xs (y :: ys)
    have h3 := alignP_len k i (j + 1) (x :: xs) ys
    simp only [alignP]
    cases alikeB x y && (DL (x :: xs) (y :: ys) == DL xs ys + D x y) <;> cases (DL (x :: xs) (y :: ys) == DL xs (y :: ys) + x.cnt) && (!(DL (x :: xs) (y :: ys) == DL (x :: xs) ys + y.cnt) || Op.bytesLess (dumpL x) (dumpL y)) <;>
      simp only [cond_true, cond_false, List.length_cons] at * <;> omega
theorem kids_w {t x : Nd} (h : x ∈ t.kids) : x.w < t.w := by
  have := Nd.w_mem h
  have e : t.w = t.text.length + Nd.ws t.kids + 1 := by cases t; rfl
  omega
theorem kids_rng {t x : Nd} (hr : t.rng) (h : x ∈ t.kids) : x.rng := by
  obtain ⟨a, b, c, ks⟩ := t
  exact Nd.rng_mem hr.2.2 h
theorem Align_eq (n : Nat) (a b : Nd) (h : 4 * a.w + 4 * b.w + 100 < n) (ha : a.w ≤ 1048576) (hb : b.w ≤ 1048576) (ca : a.cnt ≤ 120) (cb : b.cnt ≤ 120) (ra : a.rng) (rb : b.rng) :
    m_diff_Align n a b = some (bif validB a && validB b then ((alignP n 0 0 a.kids b.kids).map cast2, 0) else ([], 1)) := by
  have e1 := diff_valid_eq n a b (by omega) (by omega) (by omega) (by omega)
  have c1 := Nd.cnt_w a
  have c2 := Nd.cnt_w b
  have k1 := a.cnt_kids
  have k2 := b.cnt_kids
  have l1 := Nd.cnts_len a.kids
  have l2 := Nd.cnts_len b.kids
  have e2 := (fill_eq n).2 a.kids b.kids (by omega) (by omega) (by omega)
  have e3 := align_loop n (a := a.kids) (b := b.kids) (by omega) (by omega) (fun x hx => by have := kids_w hx; exact ⟨by omega, by omega, kids_rng ra hx⟩) (fun x hx => by have := kids_w hx; exact ⟨by omega, by omega, kids_rng rb hx⟩) n 0 0 [] (by omega) (by omega) (by omega) (by simp)
  rw [show ((0 : Nat) : Int) = 0 from rfl, List.drop_zero, List.drop_zero, List.nil_append] at e3
  obtain ⟨a1, a2, a3, a4⟩ := a
  obtain ⟨b1, b2, b3, b4⟩ := b
  simp only [Nd.kids] at e2 e3
  unfold m_diff_Align m_diff_align
  simp only [e1, e2, e3, Option.bind_some]
  cases validB (.mk a1 a2 a3 a4) && validB (.mk b1 b2 b3 b4) <;> rfl
end Go.Proofs.YtgfneloodabafaaDoor
namespace Go.Proofs.YtgfneloodabafaaDoor
open Go.Abs
theorem alignP_in : ∀ (k i j : Nat) (a b : List Nd), ∀ u ∈ alignP k i j a b, ∃ s t x y, u = (i + s, j + t) ∧ a[s]? = some x ∧ b[t]? = some y ∧ alikeB x y = true
  | 0, i, j, a, b, u, h => by unfold alignP at h; cases h
  | k + 1, i, j, [], b, u, h => by unfold alignP at h; cases h
  | k + 1, i, j, x :: xs, [], u, h => by unfold alignP at h; cases h
  | k + 1, i, j, x :: xs, y :: ys, u, h => by
    unfold alignP at h
    cases h1 : (alikeB x y && (DL (x :: xs) (y :: ys) == DL xs ys + D x y)) with
    | true =>
      rw [h1, cond_true] at h
      rcases List.mem_cons.1 h with rfl | h
      · exact ⟨0, 0, x, y, rfl, rfl, rfl, (Bool.and_eq_true _ _ ▸ h1).1⟩
      · obtain ⟨s, t, x', y', rfl, h2, h3, h4⟩ := alignP_in k (i + 1) (j + 1) xs ys u h
        exact ⟨s + 1, t + 1, x', y', by rw [Nat.add_assoc, Nat.add_comm 1, Nat.add_assoc j, Nat.add_comm 1], h2, h3, h4⟩
    | false =>
      rw [h1, cond_false] at h
      generalize ((DL (x :: xs) (y :: ys) == DL xs (y :: ys) + x.cnt) && (!(DL (x :: xs) (y :: ys) == DL (x :: xs) ys + y.cnt) || Op.bytesLess (dumpL x) (dumpL y))) = c at h
      cases c with
      | true =>
        obtain ⟨s, t, x', y', rfl, h2, h3, h4⟩ := alignP_in k (i + 1) j xs (y :: ys) u h
        exact ⟨s + 1, t, x', y', by rw [Nat.add_assoc, Nat.add_comm 1], h2, h3, h4⟩
      | false =>
        obtain ⟨s, t, x', y', rfl, h2, h3, h4⟩ := alignP_in k i (j + 1) (x :: xs) ys u h
        exact ⟨s, t + 1, x', y', by rw [Nat.add_assoc j, Nat.add_comm 1], h2, h3, h4⟩
theorem alignP_sorted : ∀ (k i j : Nat) (a b : List Nd), (alignP k i j a b).Pairwise fun u v => u.1 < v.1 ∧ u.2 < v.2
  | 0, i, j, a, b => by unfold alignP; exact .nil
  | k + 1, i, j, [], b => by unfold alignP; exact .nil
  | k + 1, i, j, x :: xs, [] => by unfold alignP; exact .nil
  | k + 1, i, j, x :: xs, y :: ys => by
    unfold alignP
    cases h1 : (alikeB x y && (DL (x :: xs) (y :: ys) == DL xs ys + D x y)) with
    | true =>
      rw [cond_true]
      refine .cons (fun u hu => ?_) (alignP_sorted k (i + 1) (j + 1) xs ys)
      obtain ⟨s, t, _, _, rfl, _⟩ := alignP_in k (i + 1) (j + 1) xs ys u hu
      dsimp only
      omega
    | false =>
      rw [cond_false]
      generalize ((DL (x :: xs) (y :: ys) == DL xs (y :: ys) + x.cnt) && (!(DL (x :: xs) (y :: ys) == DL (x :: xs) ys + y.cnt) || Op.bytesLess (dumpL x) (dumpL y))) = c
      cases c with
      | true => exact alignP_sorted k (i + 1) j xs (y :: ys)
      | false => exact alignP_sorted k i (j + 1) (x :: xs) ys
theorem alignP_self : ∀ (k i j : Nat) (a : List Nd), a.length < k → alignP k i j a a = (List.range a.length).map fun s => (i + s, j + s)
  | 0, i, j, a, h => by omega
  | k + 1, i, j, [], h => rfl
  | k + 1, i, j, x :: xs, h => by
    unfold alignP
    have e : (alikeB x x && (DL (x :: xs) (x :: xs) == DL xs xs + D x x)) = true := by
      rw [alike_refl, DL_self, DL_self, D_self _ x (Nat.le_refl _)]; rfl
    rw [e, cond_true, alignP_self k (i + 1) (j + 1) xs (by simpa using h), List.length_cons, List.range_succ_eq_map, List.map_cons, List.map_map]
    congr 1
    refine List.map_congr_left fun s _ => ?_
    simp only [Function.comp_apply, Prod.mk.injEq]
    omega
end Go.Proofs.YtgfneloodabafaaDoor
namespace Go.Proofs.YtgfneloodabafaaDoor
open Go.Abs
abbrev Cf := List Int × Int × Int × List Nd × List Nd
def rowK (l : List Nd) : Nd := .mk 1 [] 0 l
def cutK (l : List Nd) (p q : Nat) : List Nd := (l.take q).drop p
def parK (l : List (Nat × Nat)) (i : Nat) : Option Nat := (l.find? fun u => u.1 == i).map (·.2)
def pairsK (a b : List Nd) : List (Nat × Nat) := alignP (a.length + b.length + 1) 0 0 a b
def keptK (n : Nat) (px py : List (Nat × Nat)) : List (Nat × Nat × Nat) := (List.range n).filterMap fun i => (parK px i).bind fun p => (parK py i).map fun q => (i, p, q)
def pickK (side : Int) (b x y : List Nd) : List Nd := if side = 0 then b else if side = 1 then x else y
open Classical in
noncomputable def partK (side : Int) (path : List Int) (i : Nat) (b x y : List Nd) : List Nd × List Cf :=
  if x = b then (y, []) else if y = b ∨ y = x then (x, []) else (pickK side b x y, [(path, (i : Int), (i : Int) + b.length, x, y)])
def appK (u v : List Nd × List Cf) : List Nd × List Cf := (u.1 ++ v.1, u.2 ++ v.2)
abbrev RowF := List Int → List Nd → List Nd → List Nd → List Nd × List Cf
noncomputable def slotsK (F : RowF) (path : List Int) (i : Nat) : Nat → List Nd → List Nd → List Nd → List Nd × List Cf
  | s, b :: bs, x :: xs, y :: ys => let r := F (path ++ [(i : Int), (s : Int)]) b.kids x.kids y.kids; let t := slotsK F path i (s + 1) bs xs ys; (rowK r.1 :: t.1, r.2 ++ t.2)
  | _, _, _, _ => ([], [])
noncomputable def itemK (F : RowF) (side : Int) (path : List Int) (i : Nat) (b x y : Nd) : List Nd × List Cf :=
  let go := fun t => let r := slotsK F path i 0 b.kids x.kids y.kids; ([Nd.mk b.kind t b.cols r.1], r.2)
  if x.text = b.text then go y.text else if y.text = b.text ∨ y.text = x.text then go x.text else (pickK side [b] [x] [y], [(path, (i : Int), (i : Int) + 1, [x], [y])])
noncomputable def walkK (F : RowF) (side : Int) (path : List Int) (b x y : List Nd) : Nat → Nat → Nat → List (Nat × Nat × Nat) → List Nd × List Cf
  | i, j, k, [] => partK side path i (b.drop i) (x.drop j) (y.drop k)
  | i, j, k, (n, p, q) :: r => appK (partK side path i (cutK b i n) (cutK x j p) (cutK y k q)) (appK (itemK F side path n (b.getD n (rowK [])) (x.getD p (rowK [])) (y.getD q (rowK []))) (walkK F side path b x y (n + 1) (p + 1) (q + 1) r))
noncomputable def rowM : Nat → Int → RowF
  | 0, _, _, _, _, _ => ([], [])
  | N + 1, side, path, b, x, y => walkK (rowM N side) side path b x y 0 0 0 (keptK b.length (pairsK b x) (pairsK b y))
theorem partK_right {side : Int} {path : List Int} {i : Nat} {b x : List Nd} : partK side path i b x b = (x, []) := by
  unfold partK
  by_cases h : x = b
  · rw [if_pos h, h]
  · rw [if_neg h, if_pos (.inl rfl)]
theorem partK_same {side : Int} {path : List Int} {i : Nat} {b x : List Nd} : partK side path i b x x = (x, []) := by
  unfold partK
  by_cases h : x = b
  · rw [if_pos h]
  · rw [if_neg h, if_pos (.inr rfl)]
end Go.Proofs.YtgfneloodabafaaDoor
namespace Go.Proofs.YtgfneloodabafaaDoor
open Go.Abs
def parZ (l : List (Nat × Nat)) (i : Nat) : Int := match parK l i with | some q => (q : Int) | none => -1
theorem partners1 (base : List Nd) (hl : base.length ≤ 1073741824) : ∀ (k i : Nat), base.length - i < k → i ≤ base.length →
    m_merge_partners_l1 base k (i : Int) (List.replicate i (-1) ++ List.replicate (base.length - i) 0) = some (List.replicate base.length (-1))
  | 0, i, h, _ => by omega
  | k + 1, i, h, hi => by
    unfold m_merge_partners_l1
    simp only [List.length_replicate, Int.toNat_natCast]
    by_cases hj : i < base.length
    · have hlen : i < (List.replicate i (-1 : Int) ++ List.replicate (base.length - i) 0).length := by simp; omega
      have hset : (List.replicate i (-1 : Int) ++ List.replicate (base.length - i) 0).set i (-1) = List.replicate (i + 1) (-1) ++ List.replicate (base.length - (i + 1)) 0 := by
        rw [List.set_append_right _ _ (by simp)]
        rw [List.length_replicate, Nat.sub_self, show base.length - i = base.length - (i + 1) + 1 by omega, List.replicate_succ, List.set_cons_zero, List.replicate_succ', List.append_assoc]
        rfl
      rw [dec_t (Int.ofNat_lt.2 hj), cond_true, at_get hlen]
      simp only [Option.bind_some]
      rw [hset, wi_succ (by omega), partners1 base hl k (i + 1) (by omega) (by omega)]
    · obtain rfl : i = base.length := by omega
      rw [dec_f (by omega), cond_false, Nat.sub_self]
      simp
def vecK (len : Nat) (l : List (Nat × Nat)) : List Int := (List.range len).map (parZ l)
theorem parZ_snoc {l : List (Nat × Nat)} {u : Nat × Nat} (h : ∀ v ∈ l, v.1 < u.1) (i : Nat) : parZ (l ++ [u]) i = if u.1 = i then (u.2 : Int) else parZ l i := by
  unfold parZ parK
  rw [List.find?_append]
  by_cases hi : u.1 = i
  · have : l.find? (fun v => v.1 == i) = none := List.find?_eq_none.2 fun v hv => by
      have := h v hv
      simp
      omega
    rw [this, if_pos hi]
    simp [hi]
  · rw [if_neg hi]
    have : [u].find? (fun v => v.1 == i) = none := List.find?_eq_none.2 fun v hv => by
      rw [List.mem_singleton.1 hv]
      simpa using hi
    rw [this, Option.or_none]
theorem vec_snoc {len : Nat} {l : List (Nat × Nat)} {u : Nat × Nat} (h : ∀ v ∈ l, v.1 < u.1) : vecK len (l ++ [u]) = (vecK len l).set u.1 (u.2 : Int) := by
  apply List.ext_getElem
  · simp [vecK]
  · intro i h1 h2
    rw [List.getElem_set]
    simp only [vecK, List.getElem_map, List.getElem_range, parZ_snoc h]
theorem vec_nil (len : Nat) : vecK len [] = List.replicate len (-1) := by
  apply List.ext_getElem
  · simp [vecK]
  · intro i h1 h2
    simp [vecK, parZ, parK]
theorem partners2 {L : List (Nat × Nat)} {len : Nat} (hs : L.Pairwise fun u v => u.1 < v.1 ∧ u.2 < v.2) (hb : ∀ u ∈ L, u.1 < len) (hl : L.length ≤ 1073741824) : ∀ (k s : Nat), L.length - s < k → s ≤ L.length →
    m_merge_partners_l2 (L.map cast2) k (s : Int) (vecK len (L.take s)) = some (vecK len L)
  | 0, s, h, _ => by omega
  | k + 1, s, h, hi => by
    unfold m_merge_partners_l2
    rw [List.length_map]
    by_cases hj : s < L.length
    · have hm : at? (L.map cast2) (s : Int) = some (cast2 L[s]) := map_at cast2 hj
      have hlt := hb _ (List.getElem_mem hj)
      have hsn : ∀ v ∈ L.take s, v.1 < (L[s]).1 := fun v hv => by
        obtain ⟨i, hi', rfl⟩ := List.getElem_of_mem hv
        rw [List.length_take] at hi'
        rw [List.getElem_take]
        exact (List.pairwise_iff_getElem.1 hs i s (by omega) hj (by omega)).1
      have hset := vec_snoc (len := len) hsn
      rw [List.take_append_getElem hj] at hset
      have hlen : (L[s]).1 < (vecK len (L.take s)).length := by simpa [vecK] using hlt
      rw [dec_t (Int.ofNat_lt.2 hj), cond_true, hm]
      generalize L[s] = u at *
      simp only [Option.bind_some, cast2, at_get hlen, Int.toNat_natCast]
      rw [← hset, wi_succ (by omega), partners2 hs hb hl k (s + 1) (by omega) (by omega)]
    · rw [dec_f (by omega), cond_false, List.take_of_length_le (by omega)]
theorem alignP_fuel : ∀ (k k' i j : Nat) (a b : List Nd), a.length + b.length < k → a.length + b.length < k' → alignP k i j a b = alignP k' i j a b
  | 0, _, _, _, _, _, h, _ => by omega
  | _ + 1, 0, _, _, _, _, _, h => by omega
  | k + 1, k' + 1, i, j, [], b, _, _ => by unfold alignP; rfl
  | k + 1, k' + 1, i, j, x :: xs, [], _, _ => by unfold alignP; rfl
  | k + 1, k' + 1, i, j, x :: xs, y :: ys, h, h' => by
    simp only [List.length_cons] at h h'
    unfold alignP
    rw [alignP_fuel k k' (i + 1) (j + 1) xs ys (by omega) (by omega), alignP_fuel k k' (i + 1) j xs (y :: ys) (by simp only [List.length_cons]; omega) (by simp only [List.length_cons]; omega), alignP_fuel k k' i (j + 1) (x :: xs) ys (by simp only [List.length_cons]; omega) (by simp only [List.length_cons]; omega)]
theorem pairs_in {a b : List Nd} {u : Nat × Nat} (h : u ∈ pairsK a b) : u.1 < a.length ∧ u.2 < b.length := by
  obtain ⟨s, t, x, y, rfl, h1, h2, _⟩ := alignP_in _ _ _ _ _ _ h
  have := (List.getElem?_eq_some_iff.1 h1).1
  have := (List.getElem?_eq_some_iff.1 h2).1
  dsimp only
  omega
theorem partners_eq (n : Nat) (b x : List Nd) (h : 4 * Nd.ws b + 4 * Nd.ws x + 200 < n) (hb : Nd.ws b ≤ 1048575) (hx : Nd.ws x ≤ 1048575) (cb : Nd.cnts b ≤ 110) (cx : Nd.cnts x ≤ 110) (rb : (rowK b).rng) (rx : (rowK x).rng) (vb : validB (rowK b) = true) (vx : validB (rowK x) = true) :
    m_merge_partners n b x = some (vecK b.length (pairsK b x)) := by
  have lb := Nd.ws_len b
  have lx := Nd.ws_len x
  have wb : (rowK b).w = Nd.ws b + 1 := by simp [rowK, Nd.w]
  have wx : (rowK x).w = Nd.ws x + 1 := by simp [rowK, Nd.w]
  have kb : (rowK b).cnt = Nd.cnts b + 1 := by simp [rowK, Nd.cnt]
  have kx : (rowK x).cnt = Nd.cnts x + 1 := by simp [rowK, Nd.cnt]
  have e := Align_eq n (rowK b) (rowK x) (by omega) (by omega) (by omega) (by omega) (by omega) rb rx
  rw [vb, vx] at e
  have hf : alignP n 0 0 (rowK b).kids (rowK x).kids = pairsK b x := alignP_fuel _ _ _ _ _ _ (by show b.length + x.length < n; omega) (by show b.length + x.length < _; omega)
  rw [hf] at e
  have hlen := alignP_len (b.length + x.length + 1) 0 0 b x
  have e1 := partners1 b (by omega) n 0 (by omega) (by omega)
  rw [show ((0 : Nat) : Int) = 0 from rfl, Nat.sub_zero, List.replicate_zero, List.nil_append] at e1
  have e2 := partners2 (L := pairsK b x) (len := b.length) (alignP_sorted _ _ _ _ _) (fun u hu => (pairs_in hu).1) (by unfold pairsK; omega) n 0 (by unfold pairsK; omega) (Nat.zero_le _)
  rw [show ((0 : Nat) : Int) = 0 from rfl, List.take_zero, vec_nil] at e2
  unfold rowK at e
  unfold m_merge_partners
  simp only [e, Bool.and_self, cond_true, Option.bind_some]
  rw [req_t ⟨by omega, by omega⟩, Int.toNat_natCast, e1]
  simp only [Option.bind_some, e2]
end Go.Proofs.YtgfneloodabafaaDoor
namespace Go.Proofs.YtgfneloodabafaaDoor
open Go.Abs
theorem deepN_loop {l : List Nd} (hb : Nd.cnts l ≤ 16777216) : ∀ (k i : Nat), l.length - i < k → i ≤ l.length → m_deep_Nodes_l1 l k (i : Int) (l.take i) = some l
  | 0, i, h, _ => by omega
  | k + 1, i, h, hi => by
    have hlen := Nd.cnts_len l
    unfold m_deep_Nodes_l1
    by_cases hj : i < l.length
    · have hm := Nd.cnts_mem (List.getElem_mem hj)
      have hd : m_deep_Node l[i] = some l[i] := req_t (by omega)
      have ht : l.take i ++ [l[i]] = l.take (i + 1) := by rw [List.take_append_getElem hj]
      rw [dec_t (Int.ofNat_lt.2 hj), cond_true, at_get hj]
      have ih := deepN_loop hb k (i + 1) (by omega) (by omega)
      rw [← ht] at ih
      generalize l[i] = v at *
      obtain ⟨v1, v2, v3, v4⟩ := v
      simp only [Option.bind_some, hd]
      rw [req_t (by simp only [List.length_take, List.length_cons, List.length_nil]; omega), wi_succ (show i < 9223372036854775807 by omega), ih]
    · rw [dec_f (by omega), cond_false, List.take_of_length_le (by omega)]
theorem deepN_eq (n : Nat) (l : List Nd) (hn : Nd.cnts l < n) (hb : Nd.cnts l ≤ 16777216) : m_deep_Nodes n l = some l := by
  have hlen := Nd.cnts_len l
  have h := deepN_loop hb n 0 (by omega) (by omega)
  rw [show ((0 : Nat) : Int) = 0 from rfl, List.take_zero] at h
  unfold m_deep_Nodes
  simp only [h, Option.bind_some]
theorem deepI_eq (l : List Int) (h : l.length ≤ 4294967296) : m_deep_Ints l = some l := by
  have : m_slices_Clone_sint l = some l := req_t h
  unfold m_deep_Ints
  simp only [this, Option.bind_some]
theorem same_eq (n : Nat) (a b : List Nd) (h : 2 * Nd.cnts a + 1 < n) (hc : Nd.cnts a ≤ 67108864) : ∃ r, m_merge_same n a b = some r ∧ (r = true ↔ a = b) := by
  obtain ⟨r, h1, h2⟩ := (node_Equal_eq n).2 a b h hc
  exact ⟨r, by unfold m_merge_same; simp only [h1, Option.bind_some], h2⟩
theorem conflict_eq (n : Nat) (side : Int) (cs : List Cf) (path : List Int) (i : Nat) (b x y : List Nd) (hs : side = 0 ∨ side = 1 ∨ side = 2) (hn : Nd.cnts b + Nd.cnts x + Nd.cnts y < n) (hc : Nd.cnts b + Nd.cnts x + Nd.cnts y ≤ 16777216) (hp : path.length ≤ 1000000) (hi : i ≤ 1000000) (hl : cs.length ≤ 1000000) :
    m_merge_merger_conflict n (side, cs) path (i : Int) (b, x, y) = some (pickK side b x y, (side, cs ++ [(path, (i : Int), (i : Int) + b.length, x, y)])) := by
  have lb := Nd.cnts_len b
  have e0 := deepN_eq n b (by omega) (by omega)
  have e1 := deepN_eq n x (by omega) (by omega)
  have e2 := deepN_eq n y (by omega) (by omega)
  unfold m_merge_merger_conflict
  simp only [deepI_eq path (by omega), e0, e1, e2, Option.bind_some]
  rw [req_t (by simp only [List.length_cons, List.length_nil]; omega), wrap64_in (n := (i : Int) + (b.length : Int)) (by omega) (by omega)]
  rcases hs with rfl | rfl | rfl <;> rfl
theorem part_eq (n : Nat) (side : Int) (cs : List Cf) (path : List Int) (i : Nat) (b x y : List Nd) (hs : side = 0 ∨ side = 1 ∨ side = 2) (hn : 2 * Nd.cnts b + 2 * Nd.cnts x + 2 * Nd.cnts y + 10 < n) (hc : Nd.cnts b + Nd.cnts x + Nd.cnts y ≤ 16777216) (hp : path.length ≤ 1000000) (hi : i ≤ 1000000) (hl : cs.length ≤ 1000000) :
    m_merge_merger_part n (side, cs) path (i : Int) (b, x, y) = some ((partK side path i b x y).1, (side, cs ++ (partK side path i b x y).2)) := by
  have e1 := deepN_eq n x (by omega) (by omega)
  have e2 := deepN_eq n y (by omega) (by omega)
  have ec := conflict_eq n side cs path i b x y hs (by omega) hc hp hi hl
  obtain ⟨r1, h1, g1⟩ := same_eq n x b (by omega) (by omega)
  obtain ⟨r2, h2, g2⟩ := same_eq n y b (by omega) (by omega)
  obtain ⟨r3, h3, g3⟩ := same_eq n y x (by omega) (by omega)
  unfold m_merge_merger_part partK
  simp only [h1, h2, h3, e1, e2, Option.bind_some]
  cases r1 with
  | true => rw [if_pos (g1.1 rfl), List.append_nil]; rfl
  | false =>
    rw [if_neg fun h => by have := g1.2 h; cases this]
    simp only [cond_false]
    cases r2 with
    | true => rw [if_pos (.inl (g2.1 rfl)), List.append_nil]; rfl
    | false =>
      cases r3 with
      | true => rw [if_pos (.inr (g3.1 rfl)), List.append_nil]; rfl
      | false =>
        rw [if_neg fun h => h.elim (fun h => by have := g2.2 h; cases this) fun h => by have := g3.2 h; cases this]
        simp only [cond_false, Option.bind_some, ec]
end Go.Proofs.YtgfneloodabafaaDoor
namespace Go.Proofs.YtgfneloodabafaaDoor
open Go.Abs
theorem cnts_tk (l : List Nd) (q : Nat) : Nd.cnts l = Nd.cnts (l.take q) + Nd.cnts (l.drop q) := by
  have := Nd.cnts_append (l.take q) (l.drop q)
  rwa [List.take_append_drop] at this
theorem cut_drop {l : List Nd} {p q : Nat} (h : p ≤ q) : l.drop p = cutK l p q ++ l.drop q := by
  unfold cutK
  rw [List.drop_take]
  have : l.drop q = (l.drop p).drop (q - p) := by rw [List.drop_drop]; congr 1; omega
  rw [this, List.take_append_drop]
theorem get_drop {l : List Nd} {q : Nat} {v : Nd} (h : l[q]? = some v) : l.drop q = v :: l.drop (q + 1) := by
  obtain ⟨h1, rfl⟩ := List.getElem?_eq_some_iff.1 h
  exact List.drop_eq_getElem_cons h1
theorem cut_get {l : List Nd} {p q : Nat} {v : Nd} (h : p ≤ q) (g : l[q]? = some v) : l.drop p = cutK l p q ++ v :: l.drop (q + 1) := by rw [cut_drop h, get_drop g]
theorem cut_cnts (l : List Nd) (p q : Nat) : Nd.cnts (cutK l p q) ≤ Nd.cnts l := by
  have h1 := cnts_tk l q
  have h2 := cnts_tk (l.take q) p
  unfold cutK
  omega
theorem getD_nd {l : List Nd} {q : Nat} {v d : Nd} (h : l[q]? = some v) : l.getD q d = v := by
  rw [List.getD_eq_getElem?_getD, h]; rfl
theorem parK_mem {l : List (Nat × Nat)} {i p : Nat} (h : parK l i = some p) : (i, p) ∈ l := by
  unfold parK at h
  cases e : l.find? (fun u => u.1 == i) with
  | none => rw [e] at h; cases h
  | some u =>
    rw [e] at h
    obtain rfl := Option.some.inj h
    have h1 := List.find?_some e
    have h2 := List.mem_of_find?_eq_some e
    have h3 : u.1 = i := eq_of_beq h1
    rw [← h3]; exact h2
theorem pair_lt : ∀ {l : List (Nat × Nat)}, (l.Pairwise fun u v => u.1 < v.1 ∧ u.2 < v.2) → ∀ {u v : Nat × Nat}, u ∈ l → v ∈ l → u.1 < v.1 → u.2 < v.2
  | [], _, _, _, h, _, _ => by cases h
  | w :: l, h, u, v, hu, hv, huv => by
    obtain ⟨h1, h2⟩ := List.pairwise_cons.1 h
    rcases List.mem_cons.1 hu with eu | hu'
    · rcases List.mem_cons.1 hv with ev | hv'
      · subst eu; subst ev; omega
      · subst eu; exact (h1 v hv').2
    · rcases List.mem_cons.1 hv with ev | hv'
      · subst ev; have := h1 u hu'; omega
      · exact pair_lt h2 hu' hv' huv
def KO (b x y : List Nd) (i j k : Nat) (T : List (Nat × Nat × Nat)) : Prop :=
  (T.Pairwise fun u v => u.1 < v.1 ∧ u.2.1 < v.2.1 ∧ u.2.2 < v.2.2) ∧
  ∀ u ∈ T, i ≤ u.1 ∧ j ≤ u.2.1 ∧ k ≤ u.2.2 ∧ ∃ v w z, b[u.1]? = some v ∧ x[u.2.1]? = some w ∧ y[u.2.2]? = some z ∧ alikeB v w = true ∧ alikeB v z = true
theorem KO.tail {b x y : List Nd} {i j k n p q : Nat} {T : List (Nat × Nat × Nat)} (h : KO b x y i j k ((n, p, q) :: T)) : KO b x y (n + 1) (p + 1) (q + 1) T := by
  obtain ⟨h1, h2⟩ := List.pairwise_cons.1 h.1
  refine ⟨h2, fun u hu => ?_⟩
  obtain ⟨_, _, _, h4⟩ := h.2 u (List.mem_cons_of_mem _ hu)
  have := h1 u hu
  dsimp only at this
  exact ⟨by omega, by omega, by omega, h4⟩
theorem KO.head {b x y : List Nd} {i j k n p q : Nat} {T : List (Nat × Nat × Nat)} (h : KO b x y i j k ((n, p, q) :: T)) :
    i ≤ n ∧ j ≤ p ∧ k ≤ q ∧ ∃ v w z, b[n]? = some v ∧ x[p]? = some w ∧ y[q]? = some z ∧ alikeB v w = true ∧ alikeB v z = true := h.2 _ List.mem_cons_self
def gK (px py : List (Nat × Nat)) (i : Nat) : Option (Nat × Nat × Nat) := (parK px i).bind fun p => (parK py i).map fun q => (i, p, q)
def restK (len : Nat) (px py : List (Nat × Nat)) (n : Nat) : List (Nat × Nat × Nat) := (List.range' n (len - n)).filterMap (gK px py)
theorem keptK_rest (n : Nat) (px py : List (Nat × Nat)) : keptK n px py = restK n px py 0 := by
  unfold keptK restK
  rw [List.range_eq_range']
  rfl
theorem gK_some {px py : List (Nat × Nat)} {i : Nat} {u : Nat × Nat × Nat} (h : gK px py i = some u) : u.1 = i ∧ parK px i = some u.2.1 ∧ parK py i = some u.2.2 := by
  unfold gK at h
  cases e1 : parK px i with
  | none => rw [e1] at h; cases h
  | some p =>
    cases e2 : parK py i with
    | none => rw [e1, e2] at h; cases h
    | some q =>
      rw [e1, e2] at h
      obtain rfl := Option.some.inj h
      exact ⟨rfl, rfl, rfl⟩
theorem pairs_get {a b : List Nd} {p q : Nat} (h : (p, q) ∈ pairsK a b) : ∃ x y, a[p]? = some x ∧ b[q]? = some y ∧ alikeB x y = true := by
  obtain ⟨s, t, x, y, e, h1, h2, h3⟩ := alignP_in _ _ _ _ _ _ h
  have e1 := (Prod.mk.inj e).1
  have e2 := (Prod.mk.inj e).2
  rw [Nat.zero_add] at e1 e2
  subst e1 e2
  exact ⟨x, y, h1, h2, h3⟩
theorem rest_KO (b x y : List Nd) (n : Nat) : KO b x y 0 0 0 (restK b.length (pairsK b x) (pairsK b y) n) := by
  constructor
  · refine List.pairwise_filterMap.2 ((List.pairwise_lt_range' (s := n) (n := b.length - n)).imp fun {i i'} hii u hu v hv => ?_)
    obtain ⟨rfl, h1, h2⟩ := gK_some hu
    obtain ⟨rfl, h3, h4⟩ := gK_some hv
    have a1 := pair_lt (l := pairsK b x) (alignP_sorted _ _ _ _ _) (parK_mem h1) (parK_mem h3) hii
    have a2 := pair_lt (l := pairsK b y) (alignP_sorted _ _ _ _ _) (parK_mem h2) (parK_mem h4) hii
    exact ⟨hii, a1, a2⟩
  · intro u hu
    obtain ⟨i, _, hi⟩ := List.mem_filterMap.1 hu
    obtain ⟨rfl, h1, h2⟩ := gK_some hi
    obtain ⟨v, w, g1, g2, g3⟩ := pairs_get (parK_mem h1)
    obtain ⟨v', z, g4, g5, g6⟩ := pairs_get (parK_mem h2)
    rw [g1] at g4
    obtain rfl := Option.some.inj g4
    exact ⟨Nat.zero_le _, Nat.zero_le _, Nat.zero_le _, v, w, z, g1, g2, g5, g3, g6⟩
theorem kept_KO (b x y : List Nd) : KO b x y 0 0 0 (keptK b.length (pairsK b x) (pairsK b y)) := by rw [keptK_rest]; exact rest_KO b x y 0
theorem Nd.w_eq (v : Nd) : v.w = v.text.length + Nd.ws v.kids + 1 := by cases v; rfl
theorem pick_ws (side : Int) (b x y : List Nd) : Nd.ws (pickK side b x y) ≤ Nd.ws b + Nd.ws x + Nd.ws y := by
  unfold pickK
  repeat' split
  all_goals omega
theorem part_ws (side : Int) (path : List Int) (i : Nat) (b x y : List Nd) : Nd.ws (partK side path i b x y).1 ≤ Nd.ws b + Nd.ws x + Nd.ws y := by
  unfold partK
  repeat' split
  · dsimp only; omega
  · dsimp only; omega
  · exact pick_ws ..
theorem slots_ws {F : RowF} (hF : ∀ p b x y, Nd.ws (F p b x y).1 ≤ Nd.ws b + Nd.ws x + Nd.ws y) (path : List Int) (i : Nat) : ∀ (s : Nat) (b x y : List Nd), Nd.ws (slotsK F path i s b x y).1 ≤ Nd.ws b + Nd.ws x + Nd.ws y
  | s, b :: bs, x :: xs, y :: ys => by
    have h1 := hF (path ++ [(i : Int), (s : Int)]) b.kids x.kids y.kids
    have h2 := slots_ws hF path i (s + 1) bs xs ys
    have e1 := b.w_eq
    have e2 := x.w_eq
    have e3 := y.w_eq
    simp only [slotsK, Nd.ws, rowK, Nd.w, List.length_nil]
    omega
  | s, [], x, y => by simp only [slotsK, Nd.ws]; omega
  | s, b :: bs, [], y => by simp only [slotsK, Nd.ws]; omega
  | s, b :: bs, x :: xs, [] => by simp only [slotsK, Nd.ws]; omega
theorem item_ws {F : RowF} (hF : ∀ p b x y, Nd.ws (F p b x y).1 ≤ Nd.ws b + Nd.ws x + Nd.ws y) (side : Int) (path : List Int) (i : Nat) (b x y : Nd) : Nd.ws (itemK F side path i b x y).1 ≤ b.w + x.w + y.w + 3 := by
  have h := slots_ws hF path i 0 b.kids x.kids y.kids
  have e1 := b.w_eq
  have e2 := x.w_eq
  have e3 := y.w_eq
  have h2 := pick_ws side [b] [x] [y]
  unfold itemK
  split
  · simp only [Nd.ws, Nd.w]; omega
  · split
    · simp only [Nd.ws, Nd.w]; omega
    · simp only [Nd.ws] at h2 ⊢; omega
theorem walk_ws {F : RowF} (hF : ∀ p b x y, Nd.ws (F p b x y).1 ≤ Nd.ws b + Nd.ws x + Nd.ws y) (side : Int) (path : List Int) (b x y : List Nd) : ∀ (T : List (Nat × Nat × Nat)) (i j k : Nat), KO b x y i j k T → Nd.ws (walkK F side path b x y i j k T).1 ≤ Nd.ws (b.drop i) + Nd.ws (x.drop j) + Nd.ws (y.drop k)
  | [], i, j, k, h => by unfold walkK; exact part_ws ..
  | (n, p, q) :: T, i, j, k, h => by
    obtain ⟨h1, h2, h3, v, w, z, g1, g2, g3, g4, g5⟩ := h.head
    have ih := walk_ws hF side path b x y T (n + 1) (p + 1) (q + 1) h.tail
    have hp := part_ws side path i (cutK b i n) (cutK x j p) (cutK y k q)
    have hi := item_ws hF side path n v w z
    rw [cut_get h1 g1, cut_get h2 g2, cut_get h3 g3]
    unfold walkK appK
    rw [getD_nd g1, getD_nd g2, getD_nd g3]
    simp only [Nd.ws_append, Nd.ws]
    omega
theorem row_ws (side : Int) : ∀ (N : Nat) (p : List Int) (b x y : List Nd), Nd.ws (rowM N side p b x y).1 ≤ Nd.ws b + Nd.ws x + Nd.ws y
  | 0, p, b, x, y => by unfold rowM; exact Nat.zero_le _
  | N + 1, p, b, x, y => by
    have := walk_ws (row_ws side N) side p b x y _ 0 0 0 (kept_KO b x y)
    unfold rowM
    exact this
theorem part_cs (side : Int) (path : List Int) (i : Nat) (b x y : List Nd) : (partK side path i b x y).2.length ≤ 1 := by
  unfold partK
  repeat' split
  all_goals simp
theorem slots_cs {F : RowF} (hF : ∀ p b x y, (F p b x y).2.length ≤ 2 * Nd.cnts b + 1) (path : List Int) (i : Nat) : ∀ (s : Nat) (b x y : List Nd), (slotsK F path i s b x y).2.length ≤ 2 * Nd.cnts b
  | s, b :: bs, x :: xs, y :: ys => by
    have h1 := hF (path ++ [(i : Int), (s : Int)]) b.kids x.kids y.kids
    have h2 := slots_cs hF path i (s + 1) bs xs ys
    have e1 := b.cnt_kids
    simp only [slotsK, Nd.cnts, List.length_append]
    omega
  | s, [], x, y => by simp only [slotsK, List.length_nil]; omega
  | s, b :: bs, [], y => by simp only [slotsK, List.length_nil]; omega
  | s, b :: bs, x :: xs, [] => by simp only [slotsK, List.length_nil]; omega
theorem item_cs {F : RowF} (hF : ∀ p b x y, (F p b x y).2.length ≤ 2 * Nd.cnts b + 1) (side : Int) (path : List Int) (i : Nat) (b x y : Nd) : (itemK F side path i b x y).2.length + 1 ≤ 2 * b.cnt := by
  have h := slots_cs hF path i 0 b.kids x.kids y.kids
  have e1 := b.cnt_kids
  unfold itemK
  repeat' split
  · dsimp only; omega
  · dsimp only; omega
  · simp only [List.length_cons, List.length_nil]; omega
theorem walk_cs {F : RowF} (hF : ∀ p b x y, (F p b x y).2.length ≤ 2 * Nd.cnts b + 1) (side : Int) (path : List Int) (b x y : List Nd) : ∀ (T : List (Nat × Nat × Nat)) (i j k : Nat), KO b x y i j k T → (walkK F side path b x y i j k T).2.length ≤ 2 * Nd.cnts (b.drop i) + 1
  | [], i, j, k, h => by have := part_cs side path i (b.drop i) (x.drop j) (y.drop k); unfold walkK; omega
  | (n, p, q) :: T, i, j, k, h => by
    obtain ⟨h1, h2, h3, v, w, z, g1, g2, g3, g4, g5⟩ := h.head
    have ih := walk_cs hF side path b x y T (n + 1) (p + 1) (q + 1) h.tail
    have hp := part_cs side path i (cutK b i n) (cutK x j p) (cutK y k q)
    have hi := item_cs hF side path n v w z
    rw [cut_get h1 g1]
    unfold walkK appK
    rw [getD_nd g1, getD_nd g2, getD_nd g3]
    simp only [Nd.cnts_append, Nd.cnts, List.length_append]
    omega
theorem row_cs (side : Int) : ∀ (N : Nat) (p : List Int) (b x y : List Nd), (rowM N side p b x y).2.length ≤ 2 * Nd.cnts b + 1
  | 0, p, b, x, y => by unfold rowM; exact Nat.zero_le _
  | N + 1, p, b, x, y => by
    have := walk_cs (row_cs side N) side p b x y _ 0 0 0 (kept_KO b x y)
    unfold rowM
    exact this
def okR (b : List Nd) : Prop := validB (rowK b) = true ∧ (rowK b).rng
theorem okR.sub {b : List Nd} {v u : Nd} (h : okR b) (hv : v ∈ b) (hu : u ∈ v.kids) : okR u.kids ∧ u = rowK u.kids := by
  obtain ⟨h1, h2⟩ := h
  unfold validB at h1
  simp only [Bool.and_eq_true, decide_eq_true_eq] at h1
  obtain ⟨k1, f1, c1, d1⟩ := h1
  have fb : formsB 1 b = true := (form_row f1 rfl).2
  obtain ⟨f2, k2⟩ := forms_mem fb hv
  have gv : formsB v.kind v.kids = true := by cases v; simp only [formB, Bool.and_eq_true] at f2; exact f2.2
  obtain ⟨f3, k3⟩ := forms_mem gv hu
  have kv : v.kind ≠ 1 := fun e => by rw [e] at k2; cases k2
  rw [ne_beq kv] at k3
  have ku : u.kind = 1 := by cases e : u.kind == 1 with | true => exact eq_of_beq e | false => rw [e] at k3; cases k3
  obtain ⟨r1, r2⟩ := form_row f3 ku
  have c2 := Nd.cnts_mem hv
  have c3 := Nd.cnts_mem hu
  have e2 := v.cnt_kids
  have cb : (rowK b).cnt = Nd.cnts b + 1 := by simp [rowK, Nd.cnt]
  have db : (rowK b).dep = Nd.deps b + 1 := rfl
  have d2 := deps_mem hv
  have d3 := deps_mem hu
  have ev : v.dep = Nd.deps v.kids + 1 := by cases v; rfl
  have eu : rowK u.kids = u := r1.symm
  refine ⟨⟨?_, ?_⟩, r1⟩
  · rw [eu]
    unfold validB
    simp only [Bool.and_eq_true, decide_eq_true_eq]
    exact ⟨by rw [ku]; rfl, f3, by omega, by omega⟩
  · rw [eu]
    have : v.rng := kids_rng h2 (t := rowK b) hv
    exact kids_rng this hu
theorem okR_of {t : Nd} (h : validB t = true) (hr : t.rng) : okR t.kids ∧ t = rowK t.kids := by
  have e := (valid_row h).1
  have e' : rowK t.kids = t := e.symm
  exact ⟨⟨by rw [e']; exact h, by rw [e']; exact hr⟩, e⟩
end Go.Proofs.YtgfneloodabafaaDoor
namespace Go.Proofs.YtgfneloodabafaaDoor
open Go.Abs
theorem grow_int {n : Int} (h : 0 ≤ n ∧ n ≤ 1073741824) : m_slices_Grow_sint n = some [] := req_t h
theorem concatI_1 (k : Nat) (p : List Int) (i s : Int) (hp : p.length ≤ 1000000) : m_slices_Concat_sint_l1 [p, [i, s]] (k + 3) 0 0 = some ((p.length : Int) + 2) := by
  have w1 : IntKind.i64.wrap ((0 : Int) + (p.length : Int)) = (p.length : Int) := by rw [wrap64_in (by omega) (by omega)]; omega
  have w2 : IntKind.i64.wrap ((p.length : Int) + 2) = (p.length : Int) + 2 := wrap64_in (by omega) (by omega)
  have c0 : at? [p, [i, s]] 0 = some p := rfl
  have c1 : at? [p, [i, s]] 1 = some [i, s] := rfl
  have v1 : IntKind.i64.wrap ((0 : Int) + 1) = 1 := by decide
  have v2 : IntKind.i64.wrap ((1 : Int) + 1) = 2 := by decide
  have hl : (([p, [i, s]] : List (List Int)).length : Int) = 2 := rfl
  have h2 : (([i, s] : List Int).length : Int) = 2 := rfl
  unfold m_slices_Concat_sint_l1
  rw [hl, dec_t (by decide), cond_true, c0]
  simp only [Option.bind_some]
  rw [w1, dec_f (by omega), cond_false, v1]
  unfold m_slices_Concat_sint_l1
  rw [hl, dec_t (by decide), cond_true, c1]
  simp only [Option.bind_some]
  rw [h2, w2, dec_f (by omega), cond_false, v2]
  unfold m_slices_Concat_sint_l1
  rw [hl, dec_f (by decide), cond_false]
theorem concatI_2 (k : Nat) (p : List Int) (i s : Int) (hp : p.length ≤ 1000000) : m_slices_Concat_sint_l2 [p, [i, s]] (k + 3) 0 [] = some (p ++ [i, s]) := by
  have c0 : at? [p, [i, s]] 0 = some p := rfl
  have c1 : at? [p, [i, s]] 1 = some [i, s] := rfl
  have v1 : IntKind.i64.wrap ((0 : Int) + 1) = 1 := by decide
  have v2 : IntKind.i64.wrap ((1 : Int) + 1) = 2 := by decide
  have hl : (([p, [i, s]] : List (List Int)).length : Int) = 2 := rfl
  have q1 : ([] : List Int).length + p.length ≤ 4294967296 := by rw [List.length_nil]; omega
  have q2 : p.length + [i, s].length ≤ 4294967296 := by rw [List.length_cons, List.length_cons, List.length_nil]; omega
  unfold m_slices_Concat_sint_l2
  rw [hl, dec_t (by decide), cond_true, c0]
  simp only [Option.bind_some]
  rw [req_t q1, v1]
  unfold m_slices_Concat_sint_l2
  rw [hl, dec_t (by decide), cond_true, c1]
  simp only [Option.bind_some, List.nil_append]
  rw [req_t q2, v2]
  unfold m_slices_Concat_sint_l2
  rw [hl, dec_f (by decide), cond_false]
theorem concatI_eq (n : Nat) (p : List Int) (i s : Int) (hn : 5 < n) (hp : p.length ≤ 1000000) : m_slices_Concat_sint n [p, [i, s]] = some (p ++ [i, s]) := by
  obtain ⟨k, rfl⟩ : ∃ k, n = k + 3 := ⟨n - 3, by omega⟩
  have e1 := concatI_1 k p i s hp
  have e2 : m_slices_Grow_sint ((p.length : Int) + 2) = some [] := grow_int ⟨by omega, by omega⟩
  have e3 := concatI_2 k p i s hp
  unfold m_slices_Concat_sint
  dsimp only
  rw [e1, Option.bind_some, e2, Option.bind_some, e3, Option.bind_some]
theorem itemK_1 {F : RowF} {side : Int} {path : List Int} {i : Nat} {b x y : Nd} (h : x.text = b.text) : itemK F side path i b x y = ([.mk b.kind y.text b.cols (slotsK F path i 0 b.kids x.kids y.kids).1], (slotsK F path i 0 b.kids x.kids y.kids).2) := by
  unfold itemK; rw [if_pos h]
theorem itemK_2 {F : RowF} {side : Int} {path : List Int} {i : Nat} {b x y : Nd} (h : ¬ x.text = b.text) (h2 : y.text = b.text ∨ y.text = x.text) : itemK F side path i b x y = ([.mk b.kind x.text b.cols (slotsK F path i 0 b.kids x.kids y.kids).1], (slotsK F path i 0 b.kids x.kids y.kids).2) := by
  unfold itemK; rw [if_neg h, if_pos h2]
theorem itemK_3 {F : RowF} {side : Int} {path : List Int} {i : Nat} {b x y : Nd} (h : ¬ x.text = b.text) (h2 : ¬ (y.text = b.text ∨ y.text = x.text)) : itemK F side path i b x y = (pickK side [b] [x] [y], [(path, (i : Int), (i : Int) + 1, [x], [y])]) := by
  unfold itemK; rw [if_neg h, if_neg h2]
theorem at_nd {l : List Nd} {n : Nat} {v : Nd} (h : l[n]? = some v) : at? l (n : Int) = some v := by
  obtain ⟨h1, rfl⟩ := List.getElem?_eq_some_iff.1 h
  exact at_get h1
theorem vec_at {len : Nat} {l : List (Nat × Nat)} {n : Nat} (h : n < len) : at? (vecK len l) (n : Int) = some (parZ l n) := by
  have hl : n < (vecK len l).length := by simpa [vecK] using h
  rw [at_get hl]; simp [vecK]
theorem rest_cons {len : Nat} {px py : List (Nat × Nat)} {n : Nat} (h : n < len) : restK len px py n = (gK px py n).toList ++ restK len px py (n + 1) := by
  unfold restK
  rw [show len - n = len - (n + 1) + 1 by omega, List.range'_succ, List.filterMap_cons]
  cases gK px py n <;> rfl
abbrev ItemM := (Int × List Cf) → List Int → Int → Nd → Nd → Nd → Option (List Nd × (Int × List Cf))
abbrev RowMM := (Int × List Cf) → List Int → List Nd → List Nd → List Nd → Option (List Nd × (Int × List Cf))
theorem mitem_loop (N : Nat) (side : Int) (path : List Int) (i : Nat) (bk xk yk : List Nd) (F : RowMM) (FR : RowF) (hN : 5 < N) (hp : path.length ≤ 1000000) (hb : bk.length ≤ 1000000) (hx : bk.length = xk.length) (hy : bk.length = yk.length)
    (hF : ∀ (s : Nat) (u v w : Nd) (cs : List Cf), bk[s]? = some u → xk[s]? = some v → yk[s]? = some w → cs.length + (FR (path ++ [(i : Int), (s : Int)]) u.kids v.kids w.kids).2.length ≤ 1000000 →
      F (side, cs) (path ++ [(i : Int), (s : Int)]) u.kids v.kids w.kids = some ((FR (path ++ [(i : Int), (s : Int)]) u.kids v.kids w.kids).1, (side, cs ++ (FR (path ++ [(i : Int), (s : Int)]) u.kids v.kids w.kids).2))) :
    ∀ (k s : Nat) (cs : List Cf) (acc : List Nd), bk.length - s < k → s ≤ bk.length → acc.length ≤ s → cs.length + (slotsK FR path i s (bk.drop s) (xk.drop s) (yk.drop s)).2.length ≤ 1000000 →
      m_merge_merger_item_l1 F N path (i : Int) bk xk yk k side (s : Int) cs acc = some (side, cs ++ (slotsK FR path i s (bk.drop s) (xk.drop s) (yk.drop s)).2, acc ++ (slotsK FR path i s (bk.drop s) (xk.drop s) (yk.drop s)).1)
  | 0, s, cs, acc, h, _, _, _ => by omega
  | k + 1, s, cs, acc, h, hs, ha, hc => by
    unfold m_merge_merger_item_l1
    by_cases hj : s < bk.length
    · have g1 : bk[s]? = some bk[s] := List.getElem?_eq_getElem hj
      have g2 : xk[s]? = some (xk[s]'(by omega)) := List.getElem?_eq_getElem (by omega)
      have g3 : yk[s]? = some (yk[s]'(by omega)) := List.getElem?_eq_getElem (by omega)
      generalize bk[s] = u at *
      generalize xk[s]'(by omega) = v at *
      generalize yk[s]'(by omega) = w at *
      have hc' := hc
      rw [get_drop g1, get_drop g2, get_drop g3] at hc'
      simp only [slotsK, List.length_append] at hc'
      have e1 := hF s u v w cs g1 g2 g3 (by omega)
      rw [dec_t (Int.ofNat_lt.2 hj), cond_true, concatI_eq N path i s hN hp, at_nd g1, at_nd g2, at_nd g3, get_drop g1, get_drop g2, get_drop g3]
      obtain ⟨u1, u2, u3, u4⟩ := u
      obtain ⟨v1, v2, v3, v4⟩ := v
      obtain ⟨w1, w2, w3, w4⟩ := w
      simp only [Nd.kids] at e1 hc'
      simp only [Option.bind_some, e1]
      have ih := mitem_loop N side path i bk xk yk F FR hN hp hb hx hy hF k (s + 1) (cs ++ (FR (path ++ [(i : Int), (s : Int)]) u4 v4 w4).2) (acc ++ [Nd.mk 1 [] 0 (FR (path ++ [(i : Int), (s : Int)]) u4 v4 w4).1]) (by omega) (by omega) (by simp only [List.length_append, List.length_cons, List.length_nil]; omega) (by simp only [List.length_append]; omega)
      rw [req_t (by simp only [List.length_cons, List.length_nil]; omega), wi_succ (by omega), ih]
      simp only [slotsK, Nd.kids, rowK, List.append_assoc, List.cons_append, List.nil_append]
    · rw [dec_f (by omega), cond_false, List.drop_of_length_le (by omega)]
      simp only [slotsK, List.append_nil]
theorem mrow_loop (N : Nat) (side : Int) (hs : side = 0 ∨ side = 1 ∨ side = 2) (path : List Int) (hp : path.length ≤ 1000000) (b x y : List Nd) (px py : List (Nat × Nat)) (FR : RowF) (F : ItemM)
    (hn : 2 * Nd.cnts b + 2 * Nd.cnts x + 2 * Nd.cnts y + 10 < N) (hc : Nd.cnts b + Nd.cnts x + Nd.cnts y ≤ 1000000)
    (hF : ∀ (n p q : Nat) (v w z : Nd) (cs : List Cf), b[n]? = some v → x[p]? = some w → y[q]? = some z → alikeB v w = true → alikeB v z = true → cs.length + (itemK FR side path n v w z).2.length ≤ 1000000 →
      F (side, cs) path (n : Int) v w z = some ((itemK FR side path n v w z).1, (side, cs ++ (itemK FR side path n v w z).2))) :
    ∀ (k n i j l : Nat) (cs : List Cf) (acc : List Nd), b.length - n < k → n ≤ b.length → i ≤ n → j ≤ x.length → l ≤ y.length → KO b x y i j l (restK b.length px py n) →
      cs.length + (walkK FR side path b x y i j l (restK b.length px py n)).2.length ≤ 1000000 → acc.length + (walkK FR side path b x y i j l (restK b.length px py n)).1.length ≤ 4294967296 →
      ∃ (i' j' l' : Nat) (cs' : List Cf) (acc' : List Nd), m_merge_merger_row_l1 F N path b x y (vecK b.length px) (vecK b.length py) k side (i : Int) (j : Int) (l : Int) (n : Int) cs acc = some ((i' : Int), (j' : Int), (l' : Int), side, cs', acc') ∧
        i' ≤ b.length ∧ j' ≤ x.length ∧ l' ≤ y.length ∧ acc' ++ (partK side path i' (b.drop i') (x.drop j') (y.drop l')).1 = acc ++ (walkK FR side path b x y i j l (restK b.length px py n)).1 ∧
        cs' ++ (partK side path i' (b.drop i') (x.drop j') (y.drop l')).2 = cs ++ (walkK FR side path b x y i j l (restK b.length px py n)).2
  | 0, n, i, j, l, cs, acc, h, _, _, _, _, _, _, _ => by omega
  | k + 1, n, i, j, l, cs, acc, h, hnb, hi, hj, hl, ko, hcs, hac => by
    have lb := Nd.cnts_len b
    have lx := Nd.cnts_len x
    have ly := Nd.cnts_len y
    by_cases hlt : n < b.length
    · unfold m_merge_merger_row_l1
      rw [dec_t (Int.ofNat_lt.2 hlt), cond_true, vec_at hlt, vec_at hlt]
      simp only [Option.bind_some]
      rw [rest_cons hlt] at ko hcs hac ⊢
      cases hg : gK px py n with
      | none =>
        rw [hg] at ko hcs hac
        have hneg : (bif decide (parZ px n < 0) then some true else some (decide (parZ py n < 0)) : Option Bool) = some true := by
          unfold gK at hg
          unfold parZ
          cases h1 : parK px n with
          | none => rfl
          | some p =>
            rw [h1] at hg
            cases h2 : parK py n with
            | none =>
              dsimp only
              rw [dec_f (show ¬ ((p : Int) < 0) by omega)]
              rfl
            | some q => rw [h2] at hg; cases hg
        rw [hneg]
        simp only [Option.bind_some, cond_true]
        rw [wi_succ (by omega)]
        exact mrow_loop N side hs path hp b x y px py FR F hn hc hF k (n + 1) i j l cs acc (by omega) (by omega) (by omega) hj hl ko hcs hac
      | some u =>
        rw [hg] at ko hcs hac
        obtain ⟨g1, g2, g3⟩ := gK_some hg
        obtain ⟨n', p, q⟩ := u
        dsimp only at g1 g2 g3
        subst g1
        have z1 : parZ px n' = (p : Int) := by unfold parZ; rw [g2]
        have z2 : parZ py n' = (q : Int) := by unfold parZ; rw [g3]
        obtain ⟨o1, o2, o3, v, w, z, r1, r2, r3, r4, r5⟩ := KO.head (n := n') (p := p) (q := q) ko
        have hpx := (List.getElem?_eq_some_iff.1 r2).1
        have hqy := (List.getElem?_eq_some_iff.1 r3).1
        simp only [Option.toList_some, List.cons_append, List.nil_append, walkK, appK, List.length_append, getD_nd r1, getD_nd r2, getD_nd r3] at hcs hac ko ⊢
        have c1 := cut_cnts b i n'
        have c2 := cut_cnts x j p
        have c3 := cut_cnts y l q
        have ep := part_eq N side cs path i (cutK b i n') (cutK x j p) (cutK y l q) hs (by omega) (by omega) hp (by omega) (by omega)
        have ei := hF n' p q v w z (cs ++ (partK side path i (cutK b i n') (cutK x j p) (cutK y l q)).2) r1 r2 r3 r4 r5 (by rw [List.length_append]; omega)
        rw [z1, z2]
        rw [dec_f (show ¬ ((p : Int) < 0) by omega), cond_false, dec_f (show ¬ ((q : Int) < 0) by omega)]
        simp only [Option.bind_some, cond_false]
        rw [req_t ⟨by omega, by omega, by omega⟩]
        rw [req_t ⟨by omega, by omega, by omega⟩, req_t ⟨by omega, by omega, by omega⟩]
        have ep' : m_merge_merger_part N (side, cs) path (i : Int) ((b.take (n' : Int).toNat).drop (i : Int).toNat, (x.take (p : Int).toNat).drop (j : Int).toNat, (y.take (q : Int).toNat).drop (l : Int).toNat) = _ := ep
        rw [ep', at_nd r1, at_nd r2, at_nd r3]
        obtain ⟨v1, v2, v3, v4⟩ := v
        obtain ⟨w1, w2, w3, w4⟩ := w
        obtain ⟨y1, y2, y3, y4⟩ := z
        simp only [Option.bind_some, ei]
        have hac1 : acc.length + (partK side path i (cutK b i n') (cutK x j p) (cutK y l q)).1.length ≤ 4294967296 := by omega
        rw [req_t hac1, req_t (by first | omega | (rw [List.length_append]; omega))]
        simp only [Option.bind_some]
        rw [wi_succ (by omega), wi_succ (by omega), wi_succ (by omega)]
        have ih := mrow_loop N side hs path hp b x y px py FR F hn hc hF k (n' + 1) (n' + 1) (p + 1) (q + 1) ((cs ++ (partK side path i (cutK b i n') (cutK x j p) (cutK y l q)).2) ++ (itemK FR side path n' (.mk v1 v2 v3 v4) (.mk w1 w2 w3 w4) (.mk y1 y2 y3 y4)).2) ((acc ++ (partK side path i (cutK b i n') (cutK x j p) (cutK y l q)).1) ++ (itemK FR side path n' (.mk v1 v2 v3 v4) (.mk w1 w2 w3 w4) (.mk y1 y2 y3 y4)).1)
          (by omega) (by omega) (Nat.le_refl _) (by omega) (by omega) ko.tail (by simp only [List.length_append]; omega) (by simp only [List.length_append]; omega)
        simp only [← List.append_assoc]
        exact ih
    · obtain rfl : n = b.length := by omega
      unfold m_merge_merger_row_l1
      rw [dec_f (by omega), cond_false]
      have e : restK b.length px py b.length = [] := by unfold restK; rw [Nat.sub_self]; rfl
      rw [e]
      exact ⟨i, j, l, cs, acc, rfl, hi, hj, hl, by unfold walkK; rfl, by unfold walkK; rfl⟩
theorem rowM_eq (side : Int) (hs : side = 0 ∨ side = 1 ∨ side = 2) : ∀ (K n : Nat) (path : List Int) (cs : List Cf) (b x y : List Nd), Nd.cnts b < K → 4 * (Nd.ws b + Nd.ws x + Nd.ws y) + 300 < n → path.length + Nd.cnts b ≤ 900000 → okR b → okR x → okR y →
    Nd.cnts b ≤ 110 → Nd.cnts x ≤ 110 → Nd.cnts y ≤ 110 → Nd.ws b ≤ 1048575 → Nd.ws x ≤ 1048575 → Nd.ws y ≤ 1048575 → cs.length + (rowM K side path b x y).2.length ≤ 1000000 →
    m_merge_merger_row n (side, cs) path b x y = some ((rowM K side path b x y).1, (side, cs ++ (rowM K side path b x y).2))
  | 0, n, _, _, _, _, _, h, _, _, _, _, _, _, _, _, _, _, _, _ => by omega
  | K + 1, 0, _, _, _, _, _, _, h, _, _, _, _, _, _, _, _, _, _, _ => by omega
  | K + 1, n + 1, path, cs, b, x, y, hK, hn, hp, ob, ox, oy, cb, cx, cy, wb, wx, wy, hcs => by
    have lb := Nd.cnts_len b
    have hbw := Nd.cnts_ws b
    have hxw := Nd.cnts_ws x
    have hyw := Nd.cnts_ws y
    have p1 := partners_eq n b x (by omega) wb wx cb cx ob.2 ox.2 ob.1 ox.1
    have p2 := partners_eq n b y (by omega) wb wy cb cy ob.2 oy.2 ob.1 oy.1
    have hw := row_ws side (K + 1) path b x y
    have hlen := Nd.ws_len (rowM (K + 1) side path b x y).1
    unfold rowM at hcs hw hlen
    unfold rowM
    unfold m_merge_merger_row
    simp only [p1, p2, Option.bind_some]
    rw [keptK_rest] at hcs hw hlen ⊢
    obtain ⟨i, j, l, cs', acc', e1, e2, e3, e4, e5, e6⟩ := mrow_loop n side hs path (by omega) b x y (pairsK b x) (pairsK b y) (rowM K side) (m_merge_merger_item n) (by omega) (by omega) (fun m p q v w z ds g1 g2 g3 g4 g5 hds => by
      obtain ⟨k, rfl⟩ : ∃ k, n = k + 1 := ⟨n - 1, by omega⟩
      have mv := List.mem_of_getElem? g1
      have mw := List.mem_of_getElem? g2
      have mz := List.mem_of_getElem? g3
      have cv := Nd.cnts_mem mv
      have cw := Nd.cnts_mem mw
      have cz := Nd.cnts_mem mz
      have wv := Nd.w_mem mv
      have ww := Nd.w_mem mw
      have wz := Nd.w_mem mz
      have kv := v.cnt_kids
      have kw := w.cnt_kids
      have kz := z.cnt_kids
      have uv := v.w_eq
      have uw := w.w_eq
      have uz := z.w_eq
      have mb := (List.getElem?_eq_some_iff.1 g1).1
      have lv := Nd.cnts_len v.kids
      have loop := mitem_loop k side path m v.kids w.kids z.kids (m_merge_merger_row k) (rowM K side) (by omega) (by omega) (by omega) (alike_len g4) (alike_len g5) (fun s u u' u'' es h1 h2 h3 hes => by
        have n1 := List.mem_of_getElem? h1
        have n2 := List.mem_of_getElem? h2
        have n3 := List.mem_of_getElem? h3
        have d1 := Nd.cnts_mem n1
        have d2 := Nd.cnts_mem n2
        have d3 := Nd.cnts_mem n3
        have f1 := Nd.w_mem n1
        have f2 := Nd.w_mem n2
        have f3 := Nd.w_mem n3
        have k1 := u.cnt_kids
        have k2 := u'.cnt_kids
        have k3 := u''.cnt_kids
        have j1 := u.w_eq
        have j2 := u'.w_eq
        have j3 := u''.w_eq
        exact rowM_eq side hs K k (path ++ [(m : Int), (s : Int)]) es u.kids u'.kids u''.kids (by omega) (by omega) (by simp only [List.length_append, List.length_cons, List.length_nil]; omega) (ob.sub mv n1).1 (ox.sub mw n2).1 (oy.sub mz n3).1 (by omega) (by omega) (by omega) (by omega) (by omega) (by omega) hes)
      obtain ⟨v1, v2, v3, v4⟩ := v
      obtain ⟨w1, w2, w3, w4⟩ := w
      obtain ⟨z1, z2, z3, z4⟩ := z
      simp only [Nd.kids] at loop
      unfold m_merge_merger_item
      have key : ds.length + (slotsK (rowM K side) path m 0 v4 w4 z4).2.length ≤ 1000000 → m_merge_merger_item_l1 (m_merge_merger_row k) k path (m : Int) v4 w4 z4 k side 0 ds [] = some (side, ds ++ (slotsK (rowM K side) path m 0 v4 w4 z4).2, (slotsK (rowM K side) path m 0 v4 w4 z4).1) := fun hd => by
        have := loop k 0 ds [] (by simp only [Nd.kids] at lv kv; omega) (Nat.zero_le _) (Nat.le_refl _) (by simpa using hd)
        simpa using this
      by_cases t1 : w2 = v2
      · rw [itemK_1 (show (Nd.mk w1 w2 w3 w4).text = (Nd.mk v1 v2 v3 v4).text from t1)] at hds ⊢
        simp only [Nd.text, Nd.kind, Nd.cols, Nd.kids] at hds ⊢
        rw [show (w2 == v2) = true from beq_iff_eq.2 t1]
        simp only [cond_true, Option.bind_some, key hds]
      · rw [show (w2 == v2) = false from beq_eq_false_iff_ne.2 t1]
        simp only [cond_false]
        by_cases t2 : z2 = v2 ∨ z2 = w2
        · rw [itemK_2 (show ¬ (Nd.mk w1 w2 w3 w4).text = (Nd.mk v1 v2 v3 v4).text from t1) (show (Nd.mk z1 z2 z3 z4).text = (Nd.mk v1 v2 v3 v4).text ∨ (Nd.mk z1 z2 z3 z4).text = (Nd.mk w1 w2 w3 w4).text from t2)] at hds ⊢
          simp only [Nd.text, Nd.kind, Nd.cols, Nd.kids] at hds ⊢
          have hb : (bif z2 == v2 then some true else some (z2 == w2) : Option Bool) = some true := by
            rcases t2 with t2 | t2
            · rw [show (z2 == v2) = true from beq_iff_eq.2 t2]; rfl
            · rw [show (z2 == w2) = true from beq_iff_eq.2 t2]; cases (z2 == v2) <;> rfl
          rw [hb]
          simp only [cond_true, Option.bind_some, key hds]
        · rw [itemK_3 (show ¬ (Nd.mk w1 w2 w3 w4).text = (Nd.mk v1 v2 v3 v4).text from t1) (show ¬ ((Nd.mk z1 z2 z3 z4).text = (Nd.mk v1 v2 v3 v4).text ∨ (Nd.mk z1 z2 z3 z4).text = (Nd.mk w1 w2 w3 w4).text) from t2)] at hds ⊢
          dsimp only at hds ⊢
          have hb : (bif z2 == v2 then some true else some (z2 == w2) : Option Bool) = some false := by
            rw [show (z2 == v2) = false from beq_eq_false_iff_ne.2 fun e => t2 (.inl e), show (z2 == w2) = false from beq_eq_false_iff_ne.2 fun e => t2 (.inr e)]; rfl
          rw [hb]
          have ec := conflict_eq k side ds path m [.mk v1 v2 v3 v4] [.mk w1 w2 w3 w4] [.mk z1 z2 z3 z4] hs (by simp only [Nd.cnts]; omega) (by simp only [Nd.cnts]; omega) (by omega) (by omega) (by simp only [List.length_cons, List.length_nil] at hds; omega)
          simp only [cond_false, Option.bind_some, ec]
          rfl) n 0 0 0 0 cs [] (by omega) (Nat.zero_le _) (Nat.le_refl _) (Nat.zero_le _) (Nat.zero_le _) (rest_KO b x y 0) hcs (by rw [List.length_nil]; omega)
    have e1' : m_merge_merger_row_l1 (m_merge_merger_item n) n path b x y (vecK b.length (pairsK b x)) (vecK b.length (pairsK b y)) n side 0 0 0 0 cs [] = _ := e1
    rw [e1']
    simp only [Option.bind_some]
    rw [req_t ⟨by omega, by omega, by omega⟩, req_t ⟨by omega, by omega, by omega⟩, req_t ⟨by omega, by omega, by omega⟩]
    simp only [Int.toNat_natCast, List.take_length]
    have c1 := cnts_tk b i
    have c2 := cnts_tk x j
    have c3 := cnts_tk y l
    have hl6 := congrArg List.length e6
    have hl5 := congrArg List.length e5
    simp only [List.length_append, List.length_nil] at hl5 hl6
    have ep := part_eq n side cs' path i (b.drop i) (x.drop j) (y.drop l) hs (by omega) (by omega) (by omega) (by omega) (by omega)
    rw [ep]
    simp only [Option.bind_some]
    rw [req_t (by omega), e5, e6, List.nil_append]
end Go.Proofs.YtgfneloodabafaaDoor
namespace Go.Proofs.YtgfneloodabafaaDoor
open Go.Abs
noncomputable def mergeS (side : Int) (b x y : Nd) : Nd × List Cf × Int :=
  if validB b = true ∧ validB x = true ∧ validB y = true then
    (if validB (rowK (rowM 111 side [] b.kids x.kids y.kids).1) = true then (rowK (rowM 111 side [] b.kids x.kids y.kids).1, (rowM 111 side [] b.kids x.kids y.kids).2, 0) else (zeroNd, [], 6))
  else (zeroNd, [], 1)
theorem tree_eq (n : Nat) (side : Int) (hs : side = 0 ∨ side = 1 ∨ side = 2) (b x y : Nd) (hn : 4 * (b.w + x.w + y.w) + 400 < n) (wb : b.w ≤ 1048576) (wx : x.w ≤ 1048576) (wy : y.w ≤ 1048576) (cb : b.cnt ≤ 110) (cx : x.cnt ≤ 110) (cy : y.cnt ≤ 110) (rb : b.rng) (rx : x.rng) (ry : y.rng) :
    ∃ cs, m_merge_merger_tree n (side, []) b x y = some ((mergeS side b x y).1, (mergeS side b x y).2.2, (side, cs)) ∧ ((mergeS side b x y).2.2 = 0 → cs = (mergeS side b x y).2.1) := by
  have v1 := node_Valid_eq n b (by omega) (by omega)
  have v2 := node_Valid_eq n x (by omega) (by omega)
  have v3 := node_Valid_eq n y (by omega) (by omega)
  have b1 := b.w_eq
  have b2 := x.w_eq
  have b3 := y.w_eq
  have c1 := b.cnt_kids
  have c2 := x.cnt_kids
  have c3 := y.cnt_kids
  unfold mergeS
  by_cases h : validB b = true ∧ validB x = true ∧ validB y = true
  · rw [if_pos h]
    obtain ⟨o1, e1⟩ := okR_of h.1 rb
    obtain ⟨o2, e2⟩ := okR_of h.2.1 rx
    obtain ⟨o3, e3⟩ := okR_of h.2.2 ry
    have hcs := row_cs side 111 [] b.kids x.kids y.kids
    have hws := row_ws side 111 [] b.kids x.kids y.kids
    have hr := rowM_eq side hs 111 n [] [] b.kids x.kids y.kids (by omega) (by omega) (by simp only [List.length_nil]; omega) o1 o2 o3 (by omega) (by omega) (by omega) (by omega) (by omega) (by omega) (by simp only [List.length_nil]; omega)
    have wr : (rowK (rowM 111 side [] b.kids x.kids y.kids).1).w = Nd.ws (rowM 111 side [] b.kids x.kids y.kids).1 + 1 := by simp [rowK, Nd.w]
    have vr := node_Valid_eq n (rowK (rowM 111 side [] b.kids x.kids y.kids).1) (by omega) (by omega)
    rw [h.1] at v1
    rw [h.2.1] at v2
    rw [h.2.2] at v3
    unfold rowK at vr
    unfold rowK
    obtain ⟨p1, p2, p3, p4⟩ := b
    obtain ⟨q1, q2, q3, q4⟩ := x
    obtain ⟨r1, r2, r3, r4⟩ := y
    simp only [Nd.kids] at hr vr ⊢
    refine ⟨(rowM 111 side [] p4 q4 r4).2, ?_⟩
    unfold m_merge_merger_tree
    simp only [v1, v2, v3, Option.bind_some, Bool.not_true, cond_false, hr, vr, List.nil_append]
    by_cases hv : validB (Nd.mk 1 [] 0 (rowM 111 side [] p4 q4 r4).1) = true
    · simp only [hv, if_true, Bool.not_true, cond_false]
      exact ⟨trivial, fun _ => trivial⟩
    · have hv' : validB (Nd.mk 1 [] 0 (rowM 111 side [] p4 q4 r4).1) = false := Bool.eq_false_iff.2 hv
      simp only [hv', Bool.false_eq_true, if_false, Bool.not_false, cond_true]
      exact ⟨rfl, fun h => by cases h⟩
  · rw [if_neg h]
    refine ⟨[], ?_, fun h => by cases h⟩
    obtain ⟨p1, p2, p3, p4⟩ := b
    obtain ⟨q1, q2, q3, q4⟩ := x
    obtain ⟨r1, r2, r3, r4⟩ := y
    unfold m_merge_merger_tree
    simp only [v1, v2, v3, Option.bind_some]
    cases g1 : validB (Nd.mk p1 p2 p3 p4) with
    | false => rfl
    | true =>
      cases g2 : validB (Nd.mk q1 q2 q3 q4) with
      | false => rfl
      | true =>
        cases g3 : validB (Nd.mk r1 r2 r3 r4) with
        | false => rfl
        | true => exact absurd ⟨g1, g2, g3⟩ h
theorem mergeS_err (side : Int) (b x y : Nd) : (mergeS side b x y).2.2 ≠ 0 → (mergeS side b x y).1 = zeroNd ∧ (mergeS side b x y).2.1 = [] := by
  unfold mergeS
  split
  · split
    · intro h; exact absurd rfl h
    · intro _; exact ⟨rfl, rfl⟩
  · intro _; exact ⟨rfl, rfl⟩
theorem Three_eq (n : Nat) (b x y : Nd) (hn : 4 * (b.w + x.w + y.w) + 400 < n) (wb : b.w ≤ 1048576) (wx : x.w ≤ 1048576) (wy : y.w ≤ 1048576) (cb : b.cnt ≤ 110) (cx : x.cnt ≤ 110) (cy : y.cnt ≤ 110) (rb : b.rng) (rx : x.rng) (ry : y.rng) :
    m_merge_Three n b x y = some ((mergeS 0 b x y).1, (mergeS 0 b x y).2.1, (mergeS 0 b x y).2.2) := by
  obtain ⟨cs, h1, h2⟩ := tree_eq n 0 (.inl rfl) b x y hn wb wx wy cb cx cy rb rx ry
  have h3 := mergeS_err 0 b x y
  obtain ⟨p1, p2, p3, p4⟩ := b
  obtain ⟨q1, q2, q3, q4⟩ := x
  obtain ⟨r1, r2, r3, r4⟩ := y
  unfold m_merge_Three
  dsimp only
  rw [h1]
  generalize mergeS 0 (Nd.mk p1 p2 p3 p4) (Nd.mk q1 q2 q3 q4) (Nd.mk r1 r2 r3 r4) = m at *
  obtain ⟨⟨m1, m2, m3, m4⟩, ms, me⟩ := m
  dsimp only at h2 h3 ⊢
  simp only [Option.bind_some]
  by_cases he : me = 0
  · subst he
    rw [h2 rfl]; rfl
  · obtain ⟨g1, g2⟩ := h3 he
    rw [show (me != 0) = true from bne_iff_ne.2 he, cond_true, g1, g2]; rfl
theorem few17_eq (n : Nat) (a b c : Nd) (h : 110 < n) : ∃ y, m_l17_few n a b c = some y ∧ (y = true → a.cnt ≤ 100 ∧ b.cnt ≤ 100 ∧ c.cnt ≤ 100) := by
  obtain ⟨y1, h1, g1⟩ := Few_eq n a 100 (by omega) (by omega)
  obtain ⟨y2, h2, g2⟩ := Few_eq n b 100 (by omega) (by omega)
  obtain ⟨y3, h3, g3⟩ := Few_eq n c 100 (by omega) (by omega)
  rw [show ((100 : Nat) : Int) = 100 from rfl] at h1 h2 h3
  obtain ⟨a1, a2, a3, a4⟩ := a
  obtain ⟨b1, b2, b3, b4⟩ := b
  obtain ⟨c1, c2, c3, c4⟩ := c
  refine ⟨y1 && (y2 && y3), ?_, fun h => ?_⟩
  · unfold m_l17_few
    simp only [h1, h2, h3, Option.bind_some]
    cases y1 <;> cases y2 <;> rfl
  · simp only [Bool.and_eq_true] at h
    exact ⟨g1 h.1, g2 h.2.1, g3 h.2.2⟩
end Go.Proofs.YtgfneloodabafaaDoor
namespace Go.Proofs.YtgfneloodabafaaDoor
open Go.Abs
def swC (c : Cf) : Cf := (c.1, c.2.1, c.2.2.1, c.2.2.2.2, c.2.2.2.1)
def swS (s : Int) : Int := if s = 1 then 2 else if s = 2 then 1 else s
def swT (u : Nat × Nat × Nat) : Nat × Nat × Nat := (u.1, u.2.2, u.2.1)
theorem pick_sw {side : Int} (hs : side = 0 ∨ side = 1 ∨ side = 2) (b x y : List Nd) : pickK (swS side) b y x = pickK side b x y := by
  rcases hs with rfl | rfl | rfl <;> rfl
theorem part_sw {side : Int} (hs : side = 0 ∨ side = 1 ∨ side = 2) (path : List Int) (i : Nat) (b x y : List Nd) : partK (swS side) path i b y x = ((partK side path i b x y).1, (partK side path i b x y).2.map swC) := by
  unfold partK
  by_cases h1 : x = b
  · by_cases h2 : y = b
    · rw [if_pos h2, if_pos h1, h1, h2]; rfl
    · rw [if_neg h2, if_pos (.inl h1), if_pos h1]; rfl
  · by_cases h2 : y = b
    · rw [if_pos h2, if_neg h1, if_pos (.inl h2)]; rfl
    · rw [if_neg h2, if_neg h1]
      by_cases h3 : x = y
      · rw [if_pos (.inr h3), if_pos (.inr h3.symm), h3]; rfl
      · rw [if_neg (fun h => h.elim h1 h3), if_neg (fun h => h.elim h2 fun e => h3 e.symm), pick_sw hs]; rfl
theorem slots_sw {F F' : RowF} (h : ∀ p b x y, F' p b y x = ((F p b x y).1, (F p b x y).2.map swC)) (path : List Int) (i : Nat) : ∀ (s : Nat) (b x y : List Nd), slotsK F' path i s b y x = ((slotsK F path i s b x y).1, (slotsK F path i s b x y).2.map swC)
  | s, b :: bs, x :: xs, y :: ys => by
    simp only [slotsK, h, slots_sw h path i (s + 1) bs xs ys, List.map_append]
  | s, [], x, y => by cases x <;> cases y <;> rfl
  | s, b :: bs, [], y => by cases y <;> rfl
  | s, b :: bs, x :: xs, [] => rfl
theorem item_sw {F F' : RowF} (h : ∀ p b x y, F' p b y x = ((F p b x y).1, (F p b x y).2.map swC)) {side : Int} (hs : side = 0 ∨ side = 1 ∨ side = 2) (path : List Int) (i : Nat) (b x y : Nd) : itemK F' (swS side) path i b y x = ((itemK F side path i b x y).1, (itemK F side path i b x y).2.map swC) := by
  unfold itemK
  rw [slots_sw h]
  by_cases h1 : x.text = b.text
  · by_cases h2 : y.text = b.text
    · rw [if_pos h2, if_pos h1, h1, h2]
    · rw [if_neg h2, if_pos (.inl h1), if_pos h1]
  · by_cases h2 : y.text = b.text
    · rw [if_pos h2, if_neg h1, if_pos (.inl h2)]
    · rw [if_neg h2, if_neg h1]
      by_cases h3 : x.text = y.text
      · rw [if_pos (.inr h3), if_pos (.inr h3.symm), h3]
      · rw [if_neg (fun h => h.elim h1 h3), if_neg (fun h => h.elim h2 fun e => h3 e.symm), pick_sw hs]; rfl
theorem walk_sw {F F' : RowF} (h : ∀ p b x y, F' p b y x = ((F p b x y).1, (F p b x y).2.map swC)) {side : Int} (hs : side = 0 ∨ side = 1 ∨ side = 2) (path : List Int) (b x y : List Nd) : ∀ (T : List (Nat × Nat × Nat)) (i j k : Nat),
    walkK F' (swS side) path b y x i k j (T.map swT) = ((walkK F side path b x y i j k T).1, (walkK F side path b x y i j k T).2.map swC)
  | [], i, j, k => part_sw hs ..
  | (n, p, q) :: T, i, j, k => by
    have ih := walk_sw h hs path b x y T (n + 1) (p + 1) (q + 1)
    simp only [List.map_cons, swT, walkK, appK]
    rw [ih, part_sw hs, item_sw h hs]
    simp only [List.map_append]
theorem gK_sw (px py : List (Nat × Nat)) (i : Nat) : gK py px i = (gK px py i).map swT := by
  unfold gK
  cases parK px i <;> cases parK py i <;> rfl
theorem kept_sw (n : Nat) (px py : List (Nat × Nat)) : keptK n py px = (keptK n px py).map swT := by
  rw [keptK_rest, keptK_rest]
  unfold restK
  rw [List.map_filterMap]
  congr 1
  funext i
  exact gK_sw px py i
theorem row_sw {side : Int} (hs : side = 0 ∨ side = 1 ∨ side = 2) : ∀ (N : Nat) (p : List Int) (b x y : List Nd), rowM N (swS side) p b y x = ((rowM N side p b x y).1, (rowM N side p b x y).2.map swC)
  | 0, p, b, x, y => rfl
  | N + 1, p, b, x, y => by
    have := walk_sw (row_sw hs N) hs p b x y (keptK b.length (pairsK b x) (pairsK b y)) 0 0 0
    unfold rowM
    rw [kept_sw]
    exact this
theorem walk_one {F : RowF} {side : Int} {path : List Int} {b x y : List Nd} (R : Nat → Nat → Nat → Prop)
    (hpart : ∀ i n j p k q, R i j k → R n p q → partK side path i (cutK b i n) (cutK x j p) (cutK y k q) = (cutK x j p, [])) (hend : ∀ i j k, R i j k → partK side path i (b.drop i) (x.drop j) (y.drop k) = (x.drop j, []))
    (hitem : ∀ n p q v w z, R n p q → b[n]? = some v → x[p]? = some w → y[q]? = some z → alikeB v w = true → alikeB v z = true → itemK F side path n v w z = ([w], [])) (hR : ∀ n p q, R n p q → R (n + 1) (p + 1) (q + 1)) :
    ∀ (T : List (Nat × Nat × Nat)) (i j k : Nat), (∀ u ∈ T, R u.1 u.2.1 u.2.2) → R i j k → KO b x y i j k T → walkK F side path b x y i j k T = (x.drop j, [])
  | [], i, j, k, _, h, _ => hend i j k h
  | (n, p, q) :: T, i, j, k, hT, h, ko => by
    obtain ⟨o1, o2, o3, v, w, z, r1, r2, r3, r4, r5⟩ := ko.head
    have hu := hT (n, p, q) List.mem_cons_self
    have ih := walk_one R hpart hend hitem hR T (n + 1) (p + 1) (q + 1) (fun u hu => hT u (List.mem_cons_of_mem _ hu)) (hR _ _ _ hu) ko.tail
    unfold walkK
    rw [hpart i n j p k q h hu, getD_nd r1, getD_nd r2, getD_nd r3, hitem n p q v w z hu r1 r2 r3 r4 r5, ih, cut_get o2 r2]
    rfl
theorem kept_mem {n : Nat} {px py : List (Nat × Nat)} {u : Nat × Nat × Nat} (h : u ∈ keptK n px py) : (u.1, u.2.1) ∈ px ∧ (u.1, u.2.2) ∈ py := by
  rw [keptK_rest] at h
  obtain ⟨i, _, hi⟩ := List.mem_filterMap.1 h
  obtain ⟨rfl, h1, h2⟩ := gK_some hi
  exact ⟨parK_mem h1, parK_mem h2⟩
theorem kept_both {n : Nat} {px : List (Nat × Nat)} {u : Nat × Nat × Nat} (h : u ∈ keptK n px px) : u.2.2 = u.2.1 := by
  rw [keptK_rest] at h
  obtain ⟨i, _, hi⟩ := List.mem_filterMap.1 h
  obtain ⟨rfl, h1, h2⟩ := gK_some hi
  rw [h1] at h2
  exact (Option.some.inj h2).symm
theorem pairs_self {b : List Nd} {u : Nat × Nat} (h : u ∈ pairsK b b) : u.2 = u.1 := by
  unfold pairsK at h
  rw [alignP_self _ 0 0 b (by omega)] at h
  obtain ⟨s, _, rfl⟩ := List.mem_map.1 h
  rfl
theorem slots_one {F : RowF} {path : List Int} {i : Nat} : ∀ (s : Nat) (b x y : List Nd), b.length = x.length → b.length = y.length → (∀ p u v w, u ∈ b → v ∈ x → (∃ r : Nat, b[r]? = some u ∧ y[r]? = some w) → True → (y = b → w = u) → (y = x → w = v) → (rowK (F p u.kids v.kids w.kids).1 = v ∧ (F p u.kids v.kids w.kids).2 = [])) → (y = b ∨ y = x) → slotsK F path i s b x y = (x, [])
  | s, [], [], [], _, _, _, _ => rfl
  | s, [], _ :: _, _, h, _, _, _ => by cases h
  | s, [], [], _ :: _, _, h, _, _ => by cases h
  | s, _ :: _, [], _, h, _, _, _ => by cases h
  | s, _ :: _, _ :: _, [], _, h, _, _ => by cases h
  | s, b :: bs, x :: xs, y :: ys, hx, hy, h, hyy => by
    obtain ⟨e1, e2⟩ := h (path ++ [(i : Int), (s : Int)]) b x y List.mem_cons_self List.mem_cons_self ⟨0, rfl, rfl⟩ trivial (fun e => (List.cons.inj e).1) (fun e => (List.cons.inj e).1)
    have ih := slots_one (F := F) (path := path) (i := i) (s + 1) bs xs ys (by simpa using hx) (by simpa using hy) (fun p u v w hu hv hw _ g1 g2 => h p u v w (List.mem_cons_of_mem _ hu) (List.mem_cons_of_mem _ hv) (by obtain ⟨r, h1, h2⟩ := hw; exact ⟨r + 1, h1, h2⟩) trivial (fun e => g1 (List.cons.inj e).2) (fun e => g2 (List.cons.inj e).2))
      (hyy.elim (fun e => .inl (List.cons.inj e).2) fun e => .inr (List.cons.inj e).2)
    unfold slotsK
    rw [ih]
    simp only [e1, e2, List.append_nil]
theorem item_one {F : RowF} {side : Int} {path : List Int} {n : Nat} {v w z : Nd} (hz : z = v ∨ z = w) (ha : alikeB v w = true) (hs : slotsK F path n 0 v.kids w.kids z.kids = (w.kids, [])) : itemK F side path n v w z = ([w], []) := by
  obtain ⟨a1, a2, a3⟩ := alike_iff.1 ha
  by_cases h : w.text = v.text
  · have hz' : z.text = w.text := by
      rcases hz with rfl | rfl
      · exact h.symm
      · rfl
    rw [itemK_1 h, hs, hz', a1, a3]
    cases w; rfl
  · rw [itemK_2 h (hz.elim (fun e => .inl (by rw [e])) fun e => .inr (by rw [e])), hs, a1, a3]
    cases w; rfl
theorem row_right (side : Int) : ∀ (N : Nat) (p : List Int) (b x : List Nd), Nd.cnts b < N → okR x → rowM N side p b x b = (x, [])
  | 0, _, _, _, h, _ => by omega
  | N + 1, p, b, x, h, ox => by
    unfold rowM
    refine walk_one (fun i _ k => k = i) (fun i n j p' k q h1 h2 => by subst h1; subst h2; exact partK_right) (fun i j k h1 => by subst h1; exact partK_right) (fun n p' q v w z h1 g1 g2 g3 a1 a2 => ?_) (fun n p q h => by rw [h]) _ 0 0 0 (fun u hu => pairs_self (kept_mem hu).2) rfl (kept_KO b x b)
    subst h1
    rw [g1] at g3
    obtain rfl := Option.some.inj g3
    refine item_one (.inl rfl) a1 (slots_one 0 _ _ _ (alike_len a1) rfl (fun p u v' w' hu hv hw _ hb _ => ?_) (.inl rfl))
    obtain rfl := hb rfl
    have m1 := Nd.cnts_mem (List.mem_of_getElem? g1)
    have m2 := Nd.cnts_mem hu
    have k1 := v.cnt_kids
    have k2 := w'.cnt_kids
    obtain ⟨o1, o2⟩ := ox.sub (List.mem_of_getElem? g2) hv
    rw [row_right side N p w'.kids v'.kids (by omega) o1]
    exact ⟨o2.symm, rfl⟩
theorem row_both (side : Int) : ∀ (N : Nat) (p : List Int) (b x : List Nd), Nd.cnts b < N → okR x → rowM N side p b x x = (x, [])
  | 0, _, _, _, h, _ => by omega
  | N + 1, p, b, x, h, ox => by
    unfold rowM
    refine walk_one (fun _ j k => k = j) (fun i n j p' k q h1 h2 => by subst h1; subst h2; exact partK_same) (fun i j k h1 => by subst h1; exact partK_same) (fun n p' q v w z h1 g1 g2 g3 a1 a2 => ?_) (fun n p q h => by rw [h]) _ 0 0 0 (fun u hu => kept_both hu) rfl (kept_KO b x x)
    subst h1
    rw [g2] at g3
    obtain rfl := Option.some.inj g3
    refine item_one (.inr rfl) a1 (slots_one 0 _ _ _ (alike_len a1) (alike_len a1) (fun p u v' w' hu hv hw _ _ hx => ?_) (.inr rfl))
    obtain rfl := hx rfl
    have m1 := Nd.cnts_mem (List.mem_of_getElem? g1)
    have m2 := Nd.cnts_mem hu
    have k1 := v.cnt_kids
    have k2 := u.cnt_kids
    obtain ⟨o1, o2⟩ := ox.sub (List.mem_of_getElem? g2) hv
    rw [row_both side N p u.kids w'.kids (by omega) o1]
    exact ⟨o2.symm, rfl⟩
theorem row_left {side : Int} (hs : side = 0 ∨ side = 1 ∨ side = 2) (N : Nat) (p : List Int) (b y : List Nd) (h : Nd.cnts b < N) (oy : okR y) : rowM N side p b b y = (y, []) := by
  have hs' : swS side = 0 ∨ swS side = 1 ∨ swS side = 2 := by rcases hs with rfl | rfl | rfl <;> decide
  have e := row_sw hs' N p b y b
  have e' : swS (swS side) = side := by rcases hs with rfl | rfl | rfl <;> decide
  rw [e', row_right (swS side) N p b y h oy] at e
  exact e
end Go.Proofs.YtgfneloodabafaaDoor
namespace Go.Proofs.YtgfneloodabafaaDoor
open Go.Abs
theorem findL_none1' {n : Nd} {i s : Int} {p : List Int} (h : ¬ (0 ≤ i ∧ i < n.kids.length)) : findL n (i :: s :: p) = none := by rw [findL, if_neg h]
theorem findL_none2' {n x : Nd} {i : Nat} {s : Int} {p : List Int} (hx : n.kids[i]? = some x) (h : ¬ (0 ≤ s ∧ s < x.kids.length)) : findL n ((i : Int) :: s :: p) = none := by
  have hl := (List.getElem?_eq_some_iff.1 hx).1
  rw [findL, if_pos ⟨by omega, by omega⟩]
  simp only [List.getD_eq_getElem?_getD, Int.toNat_natCast, hx, Option.getD_some]
  rw [if_neg h]
theorem findL_step' {n x z : Nd} {i s : Nat} {p : List Int} (hx : n.kids[i]? = some x) (hz : x.kids[s]? = some z) : findL n ((i : Int) :: (s : Int) :: p) = findL z p := by
  have hl := (List.getElem?_eq_some_iff.1 hx).1
  have hl2 := (List.getElem?_eq_some_iff.1 hz).1
  rw [findL, if_pos ⟨by omega, by omega⟩]
  simp only [List.getD_eq_getElem?_getD, Int.toNat_natCast, hx, hz, Option.getD_some]
  rw [if_pos ⟨by omega, by omega⟩]
theorem at_int9 {α : Type} {l : List α} {i : Int} (h0 : 0 ≤ i) (h1 : i < (l.length : Int)) : ∃ p : Nat, i = (p : Int) ∧ ∃ h : p < l.length, at? l i = some l[p] := by
  obtain ⟨p, rfl⟩ := Int.eq_ofNat_of_zero_le h0
  exact ⟨p, rfl, by omega, at_get (by omega)⟩
theorem find_loop9 : ∀ (k : Nat) (t : Nd) (path : List Int), path.length < k →
    (findL t path = none ∧ ∃ r, m_r09_find_l1 k t.kind t.text t.cols t.kids path = some (.ret (r, false))) ∨
    (findL t path = none ∧ ∃ (r : Nd) (p : List Int), p ≠ [] ∧ m_r09_find_l1 k t.kind t.text t.cols t.kids path = some (.go (p, r.kind, r.text, r.cols, r.kids))) ∨
    ∃ r, findL t path = some r ∧ m_r09_find_l1 k t.kind t.text t.cols t.kids path = some (.go ([], r.kind, r.text, r.cols, r.kids))
  | 0, _, _, h => by omega
  | k + 1, t, path, h => by
    unfold m_r09_find_l1
    match path, h with
    | [], h => exact .inr (.inr ⟨t, rfl, rfl⟩)
    | [x], h => exact .inr (.inl ⟨rfl, t, [x], by simp, rfl⟩)
    | x :: y :: p, h =>
      have e0 : at? (x :: y :: p) (0 : Int) = some x := rfl
      have e1 : at? (x :: y :: p) (1 : Int) = some y := rfl
      have e2 : (((x :: y :: p).take (((x :: y :: p).length : Int)).toNat).drop (2 : Int).toNat) = p := by
        rw [Int.toNat_natCast, List.take_length]; rfl
      rw [dec_t (by simp only [List.length_cons]; omega), cond_true]
      simp only [e0, e1, Option.bind_some, e2]
      by_cases h1 : x < 0
      · rw [dec_t h1]; exact .inl ⟨findL_none1' (fun h => by omega), _, rfl⟩
      · rw [dec_f h1]
        by_cases h2 : (t.kids.length : Int) ≤ x
        · rw [dec_t h2]; exact .inl ⟨findL_none1' (fun h => by omega), _, rfl⟩
        · rw [dec_f h2]
          obtain ⟨i, rfl, hi, hg⟩ := at_int9 (l := t.kids) (i := x) (by omega) (by omega)
          rw [hg]
          have hgi : t.kids[i]? = some t.kids[i] := List.getElem?_eq_getElem hi
          generalize t.kids[i] = e at hgi
          obtain ⟨x1, x2, x3, x4⟩ := e
          simp only [cond_false, Option.bind_some]
          by_cases h3 : y < 0
          · rw [dec_t h3]; exact .inl ⟨findL_none2' hgi (fun h => by omega), _, rfl⟩
          · rw [dec_f h3]
            by_cases h4 : (x4.length : Int) ≤ y
            · rw [dec_t h4]; exact .inl ⟨findL_none2' hgi (fun h => by have : y < x4.length := h.2; omega), _, rfl⟩
            · rw [dec_f h4]
              obtain ⟨j, rfl, hj, hg2⟩ := at_int9 (l := x4) (i := y) (by omega) (by omega)
              rw [hg2]
              have hgj : x4[j]? = some x4[j] := List.getElem?_eq_getElem hj
              generalize x4[j] = f at hgj
              obtain ⟨y1, y2, y3, y4⟩ := f
              simp only [cond_false, Option.bind_some]
              rw [req_t ⟨by omega, by simp only [List.length_cons]; omega, by omega⟩]
              rw [findL_step' hgi hgj]
              exact find_loop9 k (.mk y1 y2 y3 y4) p (by simp only [List.length_cons] at h; omega)
theorem r09_find_eq (n : Nat) (t : Nd) (path : List Int) (h : path.length < n) : ∃ r ok, m_r09_find n t path = some (r, ok) ∧ findL t path = bif ok then some r else none := by
  obtain ⟨a, b, c, d⟩ := t
  unfold m_r09_find
  dsimp only
  rcases find_loop9 n (.mk a b c d) path h with ⟨h0, r, h1⟩ | ⟨h0, r, p, hp, h1⟩ | ⟨r, h0, h1⟩
  · simp only [Nd.kind, Nd.text, Nd.cols, Nd.kids] at h1
    rw [h1]
    exact ⟨r, false, rfl, h0⟩
  · obtain ⟨r1, r2, r3, r4⟩ := r
    simp only [Nd.kind, Nd.text, Nd.cols, Nd.kids] at h1
    rw [h1]
    refine ⟨.mk r1 r2 r3 r4, false, ?_, h0⟩
    have : ((p.length : Int) == 0) = false := beq_eq_false_iff_ne.2 fun e => hp (List.eq_nil_of_length_eq_zero (by omega))
    simp only [Option.bind_some, this]
  · obtain ⟨r1, r2, r3, r4⟩ := r
    simp only [Nd.kind, Nd.text, Nd.cols, Nd.kids] at h1
    rw [h1]
    exact ⟨.mk r1 r2 r3 r4, true, rfl, h0⟩
def rowS (t : Nd) (p : List Int) : Nd × Int := if validB t = true then (match findL t p with | some r => (r, 0) | none => (zeroNd, 8)) else (zeroNd, 1)
theorem r09_Row_eq (n : Nat) (t : Nd) (p : List Int) (hp : p.length < n) (hv : m_r09_Valid n t = some (validB t)) : m_r09_Row n t p = some (rowS t p) := by
  obtain ⟨r, ok, h1, h2⟩ := r09_find_eq n t p hp
  obtain ⟨k, tx, c, ks⟩ := t
  unfold m_r09_Row rowS
  dsimp only
  rw [hv]
  simp only [Option.bind_some]
  cases hb : validB (.mk k tx c ks) with
  | false => rfl
  | true =>
    rw [h1, h2]
    obtain ⟨r1, r2, r3, r4⟩ := r
    cases ok <;> rfl
end Go.Proofs.YtgfneloodabafaaDoor
namespace Go.Proofs.YtgfneloodabafaaDoor
open Go.Abs
theorem findL_kids {t t' : Nd} (h : t.kids = t'.kids) : ∀ {p : List Int} {r : Nd}, findL t p = some r → ∃ r', findL t' p = some r' ∧ r'.kids = r.kids
  | [], r, e => by
    obtain rfl := Option.some.inj (show some t = some r from e)
    exact ⟨t', rfl, h.symm⟩
  | [_], r, e => by cases e
  | i :: s :: p, r, e => by
    by_cases h1 : 0 ≤ i ∧ i < t.kids.length
    · have hi : i.toNat < t.kids.length := by omega
      have hx : t.kids[i.toNat]? = some t.kids[i.toNat] := List.getElem?_eq_getElem hi
      have hx' : t'.kids[i.toNat]? = some t.kids[i.toNat] := by rw [← h]; exact hx
      have ei : ((i.toNat : Nat) : Int) = i := by omega
      by_cases h2 : 0 ≤ s ∧ s < (t.kids[i.toNat]).kids.length
      · have hs : s.toNat < (t.kids[i.toNat]).kids.length := by omega
        have hz : (t.kids[i.toNat]).kids[s.toNat]? = some (t.kids[i.toNat]).kids[s.toNat] := List.getElem?_eq_getElem hs
        have es : ((s.toNat : Nat) : Int) = s := by omega
        have s1 := findL_step' (p := p) hx hz
        have s2 := findL_step' (n := t') (p := p) hx' hz
        rw [ei, es] at s1 s2
        rw [s1] at e
        exact ⟨r, s2.trans e, rfl⟩
      · have := findL_none2' (s := s) (p := p) hx h2
        rw [ei] at this
        rw [this] at e
        cases e
    · rw [findL_none1' h1] at e
      cases e
def CfOk (b x y : List Nd) (path : List Int) (c : Cf) : Prop :=
  ∃ (rest : List Int) (r : Nd) (f t : Nat), c.1 = path ++ rest ∧ rest.length ≤ 2 * Nd.cnts b ∧ findL (rowK b) rest = some r ∧ c.2.1 = (f : Int) ∧ c.2.2.1 = (t : Int) ∧ f ≤ t ∧ t ≤ r.kids.length ∧
    c.2.2.2.1 ≠ c.2.2.2.2 ∧ c.2.2.2.1 ≠ cutK r.kids f t ∧ c.2.2.2.2 ≠ cutK r.kids f t ∧ Nd.cnts c.2.2.2.1 ≤ Nd.cnts x ∧ Nd.cnts c.2.2.2.2 ≤ Nd.cnts y
theorem cut_len {l : List Nd} {p q : Nat} (h : p ≤ q) (h' : q ≤ l.length) : (cutK l p q).length = q - p := by
  unfold cutK
  rw [List.length_drop, List.length_take]
  omega
theorem part_conf {side : Int} {path : List Int} {b x y cx cy : List Nd} {i n : Nat} (h : i ≤ n) (h' : n ≤ b.length) (hx : Nd.cnts cx ≤ Nd.cnts x) (hy : Nd.cnts cy ≤ Nd.cnts y) {c : Cf} (hc : c ∈ (partK side path i (cutK b i n) cx cy).2) : CfOk b x y path c := by
  unfold partK at hc
  split at hc
  · cases hc
  · rename_i h1
    split at hc
    · cases hc
    · rename_i h2
      obtain rfl := List.mem_singleton.1 hc
      have el : i + (cutK b i n).length = n := by rw [cut_len h h']; omega
      refine ⟨[], rowK b, i, n, (List.append_nil _).symm, Nat.zero_le _, rfl, rfl, ?_, h, h', ?_, ?_, ?_, hx, hy⟩
      · show (i : Int) + ((cutK b i n).length : Int) = (n : Int)
        omega
      · exact fun e => h2 (.inr e.symm)
      · exact h1
      · exact fun e => h2 (.inl e)
theorem slots_in {F : RowF} {path : List Int} {i : Nat} {c : Cf} : ∀ (s : Nat) (b x y : List Nd), c ∈ (slotsK F path i s b x y).2 → ∃ (r : Nat) (u v w : Nd), b[r]? = some u ∧ x[r]? = some v ∧ y[r]? = some w ∧ c ∈ (F (path ++ [(i : Int), ((s + r : Nat) : Int)]) u.kids v.kids w.kids).2
  | s, b :: bs, x :: xs, y :: ys, h => by
    simp only [slotsK] at h
    rcases List.mem_append.1 h with h | h
    · exact ⟨0, b, x, y, rfl, rfl, rfl, h⟩
    · obtain ⟨r, u, v, w, h1, h2, h3, h4⟩ := slots_in (s + 1) bs xs ys h
      exact ⟨r + 1, u, v, w, h1, h2, h3, by rw [show s + (r + 1) = s + 1 + r by omega]; exact h4⟩
  | s, [], _, _, h => by simp only [slotsK] at h; cases h
  | s, _ :: _, [], _, h => by simp only [slotsK] at h; cases h
  | s, _ :: _, _ :: _, [], h => by simp only [slotsK] at h; cases h
theorem walk_conf {F : RowF} {side : Int} {path : List Int} {b x y : List Nd} (hF : ∀ p b x y, ∀ c ∈ (F p b x y).2, CfOk b x y p c) : ∀ (T : List (Nat × Nat × Nat)) (i j k : Nat), i ≤ b.length → KO b x y i j k T → ∀ c ∈ (walkK F side path b x y i j k T).2, CfOk b x y path c
  | [], i, j, k, hi, _, c, hc => by
    unfold walkK at hc
    have e : b.drop i = cutK b i b.length := by unfold cutK; rw [List.take_length]
    rw [e] at hc
    have h1 := cnts_tk x j
    have h2 := cnts_tk y k
    exact part_conf hi (Nat.le_refl _) (by omega) (by omega) hc
  | (n, p, q) :: T, i, j, k, hi, ko, c, hc => by
    obtain ⟨o1, o2, o3, v, w, z, r1, r2, r3, r4, r5⟩ := ko.head
    have hn := (List.getElem?_eq_some_iff.1 r1).1
    simp only [walkK, appK, getD_nd r1, getD_nd r2, getD_nd r3] at hc
    rcases List.mem_append.1 hc with hc | hc
    · exact part_conf o1 (by omega) (cut_cnts x j p) (cut_cnts y k q) hc
    · rcases List.mem_append.1 hc with hc | hc
      · have mv := List.mem_of_getElem? r1
        have cv := Nd.cnts_mem mv
        have cw := Nd.cnts_mem (List.mem_of_getElem? r2)
        have cz := Nd.cnts_mem (List.mem_of_getElem? r3)
        have kv := v.cnt_kids
        have kw := w.cnt_kids
        have kz := z.cnt_kids
        have slots : c ∈ (slotsK F path n 0 v.kids w.kids z.kids).2 → CfOk b x y path c := fun hc => by
          obtain ⟨s, u, u', u'', g1, g2, g3, g4⟩ := slots_in 0 _ _ _ hc
          obtain ⟨rest, r, f, t, h1, h2, h3, h4, h5, h6, h7, h8, h9, h10, h11, h12⟩ := hF _ _ _ _ c g4
          have e1 := Nd.cnts_mem (List.mem_of_getElem? g1)
          have e2 := Nd.cnts_mem (List.mem_of_getElem? g2)
          have e3 := Nd.cnts_mem (List.mem_of_getElem? g3)
          have ku := u.cnt_kids
          have ku' := u'.cnt_kids
          have ku'' := u''.cnt_kids
          obtain ⟨r', f1, f2⟩ := findL_kids (t := rowK u.kids) (t' := u) rfl h3
          refine ⟨[(n : Int), (s : Int)] ++ rest, r', f, t, ?_, ?_, ?_, h4, h5, h6, by rw [f2]; exact h7, h8, by rw [f2]; exact h9, by rw [f2]; exact h10, by omega, by omega⟩
          · rw [h1, Nat.zero_add, List.append_assoc]
          · simp only [List.length_append, List.length_cons, List.length_nil]; omega
          · exact (findL_step' (n := rowK b) r1 g1).trans f1
        unfold itemK at hc
        split at hc
        · exact slots hc
        · rename_i t1
          split at hc
          · exact slots hc
          · rename_i t2
            obtain rfl := List.mem_singleton.1 hc
            have e : cutK b n (n + 1) = [v] := by
              have := cut_drop (l := b) (Nat.le_succ n)
              rw [get_drop r1] at this
              have hl := cut_len (l := b) (Nat.le_succ n) hn
              rw [Nat.succ_eq_add_one] at this hl
              match hcut : cutK b n (n + 1), hl with
              | [v'], _ => rw [hcut] at this; rw [(List.cons.inj this).1]
              | [], hl => simp at hl
              | _ :: _ :: _, hl => simp only [List.length_cons] at hl; omega
            refine ⟨[], rowK b, n, n + 1, (List.append_nil _).symm, Nat.zero_le _, rfl, rfl, rfl, Nat.le_succ n, hn, ?_, ?_, ?_, ?_, ?_⟩
            · exact fun h => t2 (.inr (by rw [(List.cons.inj h).1]))
            · intro h
              rw [show cutK (rowK b).kids n (n + 1) = [v] from e] at h
              exact t1 (by rw [(List.cons.inj h).1])
            · intro h
              rw [show cutK (rowK b).kids n (n + 1) = [v] from e] at h
              exact t2 (.inl (by rw [(List.cons.inj h).1]))
            · simp only [Nd.cnts]; omega
            · simp only [Nd.cnts]; omega
      · exact walk_conf hF T (n + 1) (p + 1) (q + 1) hn ko.tail c hc
theorem row_conf (side : Int) : ∀ (N : Nat) (p : List Int) (b x y : List Nd), ∀ c ∈ (rowM N side p b x y).2, CfOk b x y p c
  | 0, _, _, _, _, _, h => by cases h
  | N + 1, p, b, x, y, c, h => by
    unfold rowM at h
    exact walk_conf (row_conf side N) _ 0 0 0 (Nat.zero_le _) (kept_KO b x y) c h
end Go.Proofs.YtgfneloodabafaaDoor
namespace Go.Proofs.YtgfneloodabafaaDoor
open Go.Abs
theorem awake17_ok (k : Nat) : m_l17_awake (k + 100) = some true := by
  with_unfolding_all rfl
end Go.Proofs.YtgfneloodabafaaDoor
namespace Go.Proofs.YtgfneloodabafaaDoor
open Go.Abs
theorem Eq_self (n : Nat) (t : Nd) (h : 2 * t.cnt < n) (hc : t.cnt ≤ 67108864) : m_r09_Equal n t t = some true := by
  obtain ⟨r, h1, h2⟩ := (Equal_eq n).1 t t h hc
  rw [h1, h2.2 rfl]
theorem mergeS_ok {side : Int} {b x y : Nd} {l : List Nd} (vb : validB b = true) (vx : validB x = true) (vy : validB y = true) (h : rowM 111 side [] b.kids x.kids y.kids = (l, [])) (vl : validB (rowK l) = true) : mergeS side b x y = (rowK l, [], 0) := by
  unfold mergeS
  rw [if_pos ⟨vb, vx, vy⟩, h, if_pos vl]
theorem MergeOne_eq (a b : Nd) (ha : a.w ≤ 1048576) (hb : b.w ≤ 1048576) (ra : a.rng) (rb : b.rng) : m_l17_MergeOne (60000000 + 100) a b = some true := by
  have hw := awake17_ok 60000000
  obtain ⟨y, h1, h2⟩ := few17_eq (60000000 + 100) a b b (by omega)
  have va := r09_Valid_eq (60000000 + 100) a (by omega) (by omega)
  have vb := r09_Valid_eq (60000000 + 100) b (by omega) (by omega)
  have ca := Nd.cnt_w a
  have cb := Nd.cnt_w b
  have es := Eq_self (60000000 + 100) b (by omega) (by omega)
  have t1 := Three_eq (60000000 + 100) a b a (by omega) ha hb ha
  have t2 := Three_eq (60000000 + 100) a a b (by omega) ha ha hb
  have t3 := Three_eq (60000000 + 100) a b b (by omega) ha hb hb
  have key : y = true → validB a = true → validB b = true → mergeS 0 a b a = (b, [], 0) ∧ mergeS 0 a a b = (b, [], 0) ∧ mergeS 0 a b b = (b, [], 0) := fun hy va vb => by
    obtain ⟨c1, c2, _⟩ := h2 hy
    obtain ⟨o1, e1⟩ := okR_of va ra
    obtain ⟨o2, e2⟩ := okR_of vb rb
    have k1 := a.cnt_kids
    rw [e2] at vb
    have r1 := mergeS_ok va (e2 ▸ vb) va (row_right 0 111 [] a.kids b.kids (by omega) o2) vb
    have r2 := mergeS_ok va va (e2 ▸ vb) (row_left (.inl rfl) 111 [] a.kids b.kids (by omega) o2) vb
    have r3 := mergeS_ok va (e2 ▸ vb) (e2 ▸ vb) (row_both 0 111 [] a.kids b.kids (by omega) o2) vb
    rw [← e2] at r1 r2 r3
    exact ⟨r1, r2, r3⟩
  have t1' := fun hy : y = true => t1 (by have := h2 hy; omega) (by have := h2 hy; omega) (by have := h2 hy; omega) ra rb ra
  have t2' := fun hy : y = true => t2 (by have := h2 hy; omega) (by have := h2 hy; omega) (by have := h2 hy; omega) ra ra rb
  have t3' := fun hy : y = true => t3 (by have := h2 hy; omega) (by have := h2 hy; omega) (by have := h2 hy; omega) ra rb rb
  clear t1 t2 t3 ra rb ha hb ca cb h2
  obtain ⟨a1, a2, a3, a4⟩ := a
  obtain ⟨b1, b2, b3, b4⟩ := b
  unfold m_l17_MergeOne
  dsimp only
  rw [hw]
  simp only [Option.bind_some, Bool.not_true, cond_false, h1]
  cases y with
  | false => rfl
  | true =>
    simp only [Bool.not_true, cond_false, va, vb, Option.bind_some]
    cases g1 : validB (Nd.mk a1 a2 a3 a4) with
    | false => rfl
    | true =>
      cases g2 : validB (Nd.mk b1 b2 b3 b4) with
      | false => rfl
      | true =>
        obtain ⟨k1, k2, k3⟩ := key rfl g1 g2
        have u1 := t1' rfl
        have u2 := t2' rfl
        have u3 := t3' rfl
        rw [k1] at u1
        rw [k2] at u2
        rw [k3] at u3
        simp only [Bool.not_true, cond_false, Option.bind_some, u1, u2, u3, es]
        rfl
theorem mergeS_conf {side : Int} {b x y : Nd} : ∀ c ∈ (mergeS side b x y).2.1, validB b = true ∧ CfOk b.kids x.kids y.kids [] c := by
  unfold mergeS
  intro c hc
  split at hc
  · rename_i h
    split at hc
    · exact ⟨h.1, row_conf side 111 [] _ _ _ c hc⟩
    · cases hc
  · cases hc
theorem mergeS_len (side : Int) (b x y : Nd) : (mergeS side b x y).2.1.length ≤ 2 * b.cnt := by
  have h := row_cs side 111 [] b.kids x.kids y.kids
  have k := b.cnt_kids
  unfold mergeS
  split
  · split
    · dsimp only; omega
    · exact Nat.zero_le _
  · exact Nat.zero_le _
theorem mconf_loop (n : Nat) (a1 : Int) (a2 : List UInt8) (a3 : Int) (a4 x y : List Nd) (hb : Nd.cnts a4 ≤ 1000) (hx : Nd.cnts x ≤ 1000) (hy : Nd.cnts y ≤ 1000) (hn : 100000 < n) (hv : m_r09_Valid n (.mk a1 a2 a3 a4) = some (validB (.mk a1 a2 a3 a4))) (cs : List Cf) (hl : cs.length ≤ 1000000) (hc : ∀ c ∈ cs, validB (.mk a1 a2 a3 a4) = true ∧ CfOk a4 x y [] c) :
    ∀ (k i : Nat), cs.length - i < k → i ≤ cs.length → m_l17_MergeConflicts_l1 n a1 a2 a3 a4 cs k (i : Int) = some (.go ())
  | 0, i, h, _ => by omega
  | k + 1, i, h, hi => by
    unfold m_l17_MergeConflicts_l1
    by_cases hj : i < cs.length
    · have h1 : at? cs (i : Int) = some cs[i] := at_get hj
      obtain ⟨v, rest, r, f, t, g1, g2, g3, g4, g5, g6, g7, g8, g9, g10, g11, g12⟩ := hc _ (List.getElem_mem hj)
      have ih := mconf_loop n a1 a2 a3 a4 x y hb hx hy hn hv cs hl hc k (i + 1) (by omega) (by omega)
      rw [dec_t (Int.ofNat_lt.2 hj), cond_true, h1]
      generalize cs[i] = c at *
      obtain ⟨p, f', t', l, m⟩ := c
      dsimp only at g1 g4 g5 g8 g9 g10 g11 g12
      rw [List.nil_append] at g1
      subst g1 g4 g5
      obtain ⟨r', e1, e2⟩ := findL_kids (t := rowK a4) (t' := .mk a1 a2 a3 a4) rfl g3
      have row := r09_Row_eq n (.mk a1 a2 a3 a4) p (by omega) hv
      have hrow : rowS (.mk a1 a2 a3 a4) p = (r', 0) := by
        unfold rowS
        rw [v, e1]; rfl
      rw [hrow] at row
      obtain ⟨r1, r2, r3, r4⟩ := r'
      obtain ⟨s1, s2, s3, s4⟩ := r
      simp only [Nd.kids] at e2 g7 g9 g10
      subst e2
      obtain ⟨b1, q1, o1⟩ := (Equal_eq n).2 l m (by omega) (by omega)
      obtain ⟨b2, q2, o2⟩ := (Equal_eq n).2 l (cutK r4 f t) (by omega) (by omega)
      obtain ⟨b3, q3, o3⟩ := (Equal_eq n).2 m (cutK r4 f t) (by omega) (by omega)
      have f1 : b1 = false := by cases b1 with | false => rfl | true => exact absurd (o1.1 rfl) g8
      have f2 : b2 = false := by cases b2 with | false => rfl | true => exact absurd (o2.1 rfl) g9
      have f3 : b3 = false := by cases b3 with | false => rfl | true => exact absurd (o3.1 rfl) g10
      subst f1 f2 f3
      have q2' : m_r09_SameItems n l ((r4.take (t : Int).toNat).drop (f : Int).toNat) = some false := q2
      have q3' : m_r09_SameItems n m ((r4.take (t : Int).toNat).drop (f : Int).toNat) = some false := q3
      simp only [Option.bind_some, row, bne_self_eq_false, cond_false]
      rw [dec_f (show ¬ ((f : Int) < 0) by omega), cond_false, dec_f (show ¬ ((t : Int) < (f : Int)) by omega), cond_false, dec_f (show ¬ ((r4.length : Int) < (t : Int)) by omega)]
      simp only [Option.bind_some, cond_false]
      rw [req_t ⟨by omega, by omega, by omega⟩, q1]
      simp only [Option.bind_some, cond_false, q2', q3']
      rw [wi_succ (by omega), ih]
    · rw [dec_f (by omega), cond_false]
theorem MergeConflicts_eq (a b c : Nd) (ha : a.w ≤ 1048576) (hb : b.w ≤ 1048576) (hc : c.w ≤ 1048576) (ra : a.rng) (rb : b.rng) (rc : c.rng) : m_l17_MergeConflicts (60000000 + 100) a b c = some true := by
  have hw := awake17_ok 60000000
  obtain ⟨y, h1, h2⟩ := few17_eq (60000000 + 100) a b c (by omega)
  have va := r09_Valid_eq (60000000 + 100) a (by omega) (by omega)
  have t1 := fun hy : y = true => Three_eq (60000000 + 100) a b c (by omega) ha hb hc (by have := h2 hy; omega) (by have := h2 hy; omega) (by have := h2 hy; omega) ra rb rc
  have conf := mergeS_conf (side := 0) (b := a) (x := b) (y := c)
  have len := mergeS_len 0 a b c
  have ka := a.cnt_kids
  have kb := b.cnt_kids
  have kc := c.cnt_kids
  clear ra rb rc ha hb hc
  obtain ⟨a1, a2, a3, a4⟩ := a
  obtain ⟨b1, b2, b3, b4⟩ := b
  obtain ⟨c1, c2, c3, c4⟩ := c
  unfold m_l17_MergeConflicts
  dsimp only
  rw [hw]
  simp only [Option.bind_some, Bool.not_true, cond_false, h1]
  cases y with
  | false => rfl
  | true =>
    obtain ⟨k1, k2, k3⟩ := h2 rfl
    rw [t1 rfl]
    generalize mergeS 0 (Nd.mk a1 a2 a3 a4) (Nd.mk b1 b2 b3 b4) (Nd.mk c1 c2 c3 c4) = m at *
    obtain ⟨⟨m1, m2, m3, m4⟩, ms, me⟩ := m
    simp only [Nd.kids] at ka kb kc
    dsimp only at conf len
    have loop := mconf_loop (60000000 + 100) a1 a2 a3 a4 b4 c4 (by omega) (by omega) (by omega) (by omega) va ms (by omega) conf (60000000 + 100) 0 (by omega) (Nat.zero_le _)
    rw [show ((0 : Nat) : Int) = 0 from rfl] at loop
    simp only [Bool.not_true, cond_false, Option.bind_some, loop]
end Go.Proofs.YtgfneloodabafaaDoor
