/-
  TEXTS: what the two readers of a text say.
-/
import Derived.Test.YtefbmooajknmgaaDoorPCnt
set_option linter.unusedVariables false
namespace Go.Proofs.YtefbmooajknmgaaDoor
open Go.Abs

/-- A walk that stops at the first byte that fails. -/
def allFl {α : Type} (p : α → Bool) (l : List α) : Fl Bool Unit := if l.all p then .go () else .ret false
theorem all_drop {α : Type} {p : α → Bool} {l : List α} {i : Nat} (h : i < l.length) : (l.drop i).all p = (p l[i] && (l.drop (i + 1)).all p) := by
  rw [List.drop_eq_getElem_cons h]; rfl
theorem any_drop {α : Type} {p : α → Bool} {l : List α} {i : Nat} (h : i < l.length) : (l.drop i).any p = (p l[i] || (l.drop (i + 1)).any p) := by
  rw [List.drop_eq_getElem_cons h]; rfl
/-- Any loop of this form. -/
theorem loop_all {α : Type} {p : α → Bool} {l : List α} (L : Nat → Int → Option (Fl Bool Unit)) (hb : l.length ≤ 1073741824)
    (h1 : ∀ (k i : Nat) (h : i < l.length), L (k + 1) (i : Int) = if p l[i] then L k (((i + 1 : Nat)) : Int) else some (.ret false)) (h2 : ∀ k, L (k + 1) (l.length : Int) = some (.go ())) :
    ∀ (k i : Nat), l.length - i < k → i ≤ l.length → L k (i : Int) = some (allFl p (l.drop i))
  | 0, _, h, _ => by omega
  | k + 1, i, hk, hi => by
    by_cases h : i < l.length
    · rw [h1 k i h, loop_all L hb h1 h2 k (i + 1) (by omega) (by omega)]
      unfold allFl
      rw [all_drop h]
      cases p l[i] <;> simp
    · obtain rfl : i = l.length := by omega
      rw [h2]; simp [allFl]
theorem loop_any {α : Type} {p : α → Bool} {l : List α} (L : Nat → Int → Option (Fl Bool Unit)) (hb : l.length ≤ 1073741824)
    (h1 : ∀ (k i : Nat) (h : i < l.length), L (k + 1) (i : Int) = if p l[i] then some (.ret true) else L k (((i + 1 : Nat)) : Int)) (h2 : ∀ k, L (k + 1) (l.length : Int) = some (.go ())) :
    ∀ (k i : Nat), l.length - i < k → i ≤ l.length → L k (i : Int) = some (if (l.drop i).any p then .ret true else .go ())
  | 0, _, h, _ => by omega
  | k + 1, i, hk, hi => by
    by_cases h : i < l.length
    · rw [h1 k i h, loop_any L hb h1 h2 k (i + 1) (by omega) (by omega), any_drop h]
      cases p l[i] <;> simp
    · obtain rfl : i = l.length := by omega
      rw [h2]; simp
theorem u8_all {P : UInt8 → Bool} (h : (List.range 256).all (fun n => P n.toUInt8) = true) (b : UInt8) : P b = true := by
  have : P (UInt8.ofNat b.toNat) = true := List.all_eq_true.1 h b.toNat (List.mem_range.2 b.toNat_lt)
  rwa [UInt8.ofNat_toNat] at this

def letterB (b : UInt8) : Bool := (decide (97 ≤ b.toNat) && decide (b.toNat ≤ 122)) || (decide (65 ≤ b.toNat) && decide (b.toNat ≤ 90))
def digitB (b : UInt8) : Bool := decide (48 ≤ b.toNat) && decide (b.toNat ≤ 57)
def printB (b : UInt8) : Bool := decide (32 ≤ b.toNat) && decide (b.toNat ≤ 126)

theorem byte_letter1 (b : UInt8) : (bif decide ((bitOp .or .u8 (b.toNat : Int) 32) < 97) then some true else some (decide (122 < (bitOp .or .u8 (b.toNat : Int) 32)))) = some (!letterB b) :=
  of_decide_eq_true (u8_all (P := fun b => decide ((bif decide ((bitOp .or .u8 (b.toNat : Int) 32) < 97) then some true else some (decide (122 < (bitOp .or .u8 (b.toNat : Int) 32)))) = some (!letterB b))) (by decide +kernel) b)
theorem byte_letter2 (b : UInt8) : m_r09_Letter (b.toNat : Int) = some (letterB b) :=
  of_decide_eq_true (u8_all (P := fun b => decide (m_r09_Letter (b.toNat : Int) = some (letterB b))) (by decide +kernel) b)
theorem byte_digit2 (b : UInt8) : m_r09_Digit (b.toNat : Int) = some (digitB b) :=
  of_decide_eq_true (u8_all (P := fun b => decide (m_r09_Digit (b.toNat : Int) = some (digitB b))) (by decide +kernel) b)

theorem node_letters_eq (n : Nat) (s : List UInt8) (h : s.length < n) (hb : s.length ≤ 1073741824) : m_node_letters n s = some (s.all letterB) := by
  have := loop_all (p := letterB) (l := s) (m_node_letters_l1 s) hb (fun k i h => by
    rw [m_node_letters_l1, dec_t (Int.ofNat_lt.2 h), cond_true, at_get h]
    simp only [Option.bind_some, byte_letter1]
    rw [wi_succ (by omega)]
    cases letterB s[i] <;> rfl) (fun k => by rw [m_node_letters_l1, dec_f (by omega)]; rfl) n 0 (by omega) (by omega)
  rw [show ((0 : Nat) : Int) = 0 from rfl, List.drop_zero] at this
  rw [m_node_letters, this]
  unfold allFl
  cases s.all letterB <;> rfl
theorem r09_letters_eq (n : Nat) (s : List UInt8) (h : s.length < n) (hb : s.length ≤ 1073741824) : m_r09_Symbol_l1 s n 0 = some (allFl letterB s) := by
  have := loop_all (p := letterB) (l := s) (m_r09_Symbol_l1 s) hb (fun k i h => by
    rw [m_r09_Symbol_l1, dec_t (Int.ofNat_lt.2 h), cond_true, at_get h]
    simp only [Option.bind_some, byte_letter2]
    rw [wi_succ (by omega)]
    cases letterB s[i] <;> rfl) (fun k => by rw [m_r09_Symbol_l1, dec_f (by omega)]; rfl) n 0 (by omega) (by omega)
  rwa [show ((0 : Nat) : Int) = 0 from rfl, List.drop_zero] at this
theorem r09_has_eq (n : Nat) (s : List UInt8) (c : Int) (h : s.length < n) (hb : s.length ≤ 1073741824) : m_r09_has n s c = some (s.any fun b => (b.toNat : Int) == c) := by
  have := loop_any (p := fun b => (b.toNat : Int) == c) (l := s) (m_r09_has_l1 s c) hb (fun k i h => by
    rw [m_r09_has_l1, dec_t (Int.ofNat_lt.2 h), cond_true, at_get h]
    simp only [Option.bind_some]
    rw [wi_succ (by omega)]
    cases ((s[i].toNat : Int) == c) <;> rfl) (fun k => by rw [m_r09_has_l1, dec_f (by omega)]; rfl) n 0 (by omega) (by omega)
  rw [show ((0 : Nat) : Int) = 0 from rfl, List.drop_zero] at this
  rw [m_r09_has, this]
  cases s.any fun b => (b.toNat : Int) == c <;> rfl
theorem r09_In_eq (n : Nat) (l : List (List UInt8)) (s : List UInt8) (h : l.length < n) (hb : l.length ≤ 1073741824) : m_r09_In n l s = some (l.any fun e => e == s) := by
  have := loop_any (p := fun e => e == s) (l := l) (m_r09_In_l1 l s) hb (fun k i h => by
    rw [m_r09_In_l1, dec_t (Int.ofNat_lt.2 h), cond_true, at_get h]
    simp only [Option.bind_some]
    rw [wi_succ (by omega)]
    cases (l[i] == s) <;> rfl) (fun k => by rw [m_r09_In_l1, dec_f (by omega)]; rfl) n 0 (by omega) (by omega)
  rw [show ((0 : Nat) : Int) = 0 from rfl, List.drop_zero] at this
  rw [m_r09_In, this]
  cases l.any fun e => e == s <;> rfl
theorem node_digits_eq (n : Nat) (s : List UInt8) (h : s.length < n) (hb : s.length ≤ 1073741824) : m_node_digits n s = some (s.all digitB && !(s == [])) := by
  have := loop_all (p := digitB) (l := s) (m_node_digits_l1 s) hb (fun k i h => by
    rw [m_node_digits_l1, dec_t (Int.ofNat_lt.2 h), cond_true, at_get h]
    simp only [Option.bind_some]
    rw [wi_succ (by omega)]
    unfold digitB
    by_cases a : 48 ≤ s[i].toNat
    · by_cases b : s[i].toNat ≤ 57
      · simp [a, b, show ¬ ((s[i].toNat : Int) < 48) by omega, show ¬ (57 < (s[i].toNat : Int)) by omega]
      · simp [a, b, show ¬ ((s[i].toNat : Int) < 48) by omega, show (57 < (s[i].toNat : Int)) by omega]
    · simp [a, show ((s[i].toNat : Int) < 48) by omega]) (fun k => by rw [m_node_digits_l1, dec_f (by omega)]; rfl) n 0 (by omega) (by omega)
  rw [show ((0 : Nat) : Int) = 0 from rfl, List.drop_zero] at this
  rw [m_node_digits, this]
  unfold allFl
  cases s.all digitB <;> rfl
theorem print_step {α : Type} (b : UInt8) (X Y : α) : ((bif decide ((b.toNat : Int) < 32) then some true else some (decide (126 < (b.toNat : Int))) : Option Bool).bind fun x3 => bif x3 then some X else some Y) = some (if printB b then Y else X) := by
  unfold printB
  by_cases a : 32 ≤ b.toNat
  · by_cases c : b.toNat ≤ 126
    · simp [a, c, show ¬ ((b.toNat : Int) < 32) by omega, show ¬ (126 < (b.toNat : Int)) by omega]
    · simp [a, c, show ¬ ((b.toNat : Int) < 32) by omega, show (126 < (b.toNat : Int)) by omega]
  · simp [a, show ((b.toNat : Int) < 32) by omega]
theorem print_bit (b : UInt8) : (bif decide ((b.toNat : Int) < 32) then some true else some (decide (126 < (b.toNat : Int))) : Option Bool) = some (!printB b) := by
  unfold printB
  by_cases a : 32 ≤ b.toNat
  · by_cases c : b.toNat ≤ 126
    · simp [a, c, show ¬ ((b.toNat : Int) < 32) by omega, show ¬ (126 < (b.toNat : Int)) by omega]
    · simp [a, c, show ¬ ((b.toNat : Int) < 32) by omega, show (126 < (b.toNat : Int)) by omega]
  · simp [a, show ((b.toNat : Int) < 32) by omega]
theorem node_plain_eq (n : Nat) (s : List UInt8) (h : s.length < n) (hb : s.length ≤ 1073741824) : m_node_plain n s = some (s.all printB && decide ((s.length : Int) ≤ 200)) := by
  have := loop_all (p := printB) (l := s) (m_node_plain_l1 s) hb (fun k i h => by
    rw [m_node_plain_l1, dec_t (Int.ofNat_lt.2 h), cond_true, at_get h]
    simp only [Option.bind_some, print_bit]
    rw [wi_succ (by omega)]
    cases printB s[i] <;> rfl) (fun k => by rw [m_node_plain_l1, dec_f (by omega)]; rfl) n 0 (by omega) (by omega)
  rw [show ((0 : Nat) : Int) = 0 from rfl, List.drop_zero] at this
  rw [m_node_plain, this]
  unfold allFl
  cases s.all printB <;> rfl
theorem r09_Printable_eq (n : Nat) (s : List UInt8) (h : s.length < n) (hb : s.length ≤ 1073741824) : m_r09_Printable n s = some (s.all printB) := by
  have := loop_all (p := printB) (l := s) (m_r09_Printable_l1 s) hb (fun k i h => by
    rw [m_r09_Printable_l1, dec_t (Int.ofNat_lt.2 h), cond_true, at_get h]
    simp only [Option.bind_some, print_bit]
    rw [wi_succ (by omega)]
    cases printB s[i] <;> rfl) (fun k => by rw [m_r09_Printable_l1, dec_f (by omega)]; rfl) n 0 (by omega) (by omega)
  rw [show ((0 : Nat) : Int) = 0 from rfl, List.drop_zero] at this
  rw [m_r09_Printable, this]
  unfold allFl
  cases s.all printB <;> rfl
end Go.Proofs.YtefbmooajknmgaaDoor
