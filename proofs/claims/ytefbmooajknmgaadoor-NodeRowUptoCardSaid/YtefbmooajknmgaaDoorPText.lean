/-
  TEXTS: symbols, numbers, fences: both readers say the same.
-/
import Derived.Test.YtefbmooajknmgaaDoorPByte
set_option linter.unusedVariables false
set_option linter.unusedSimpArgs false
namespace Go.Proofs.YtefbmooajknmgaaDoor
open Go.Abs

def spL : List UInt8 := [43, 45, 42, 47, 61, 60, 62, 44, 59, 58, 33, 124, 39, 63, 126, 64]
def fsL : List UInt8 := [40, 41, 91, 93, 123, 125, 60, 62, 47, 124, 46]
def kwL : List (List UInt8) := [[102, 114, 97, 99], [114, 111, 111, 116], [109, 97, 116, 114, 105, 120], [102, 101, 110, 99, 101]]
def acL : List (List UInt8) := [[104, 97, 116], [98, 97, 114], [118, 101, 99], [100, 111, 116], [116, 105, 108, 100, 101], [99, 104, 101, 99, 107]]
def spB (c : UInt8) : Bool := decide (0 ≤ Lib.indexByte spL c)
def fsB (c : UInt8) : Bool := decide (0 ≤ Lib.indexByte fsL c)
theorem byte_sp (c : UInt8) : (spL.any fun b => (b.toNat : Int) == (c.toNat : Int)) = spB c :=
  of_decide_eq_true (u8_all (P := fun c => decide ((spL.any fun b => (b.toNat : Int) == (c.toNat : Int)) = spB c)) (by decide +kernel) c)
theorem byte_fs (c : UInt8) : (([40, 41, 91, 93, 123, 125, 124, 60, 62, 47, 46] : List UInt8).any fun b => (b.toNat : Int) == (c.toNat : Int)) = fsB c :=
  of_decide_eq_true (u8_all (P := fun c => decide ((([40, 41, 91, 93, 123, 125, 124, 60, 62, 47, 46] : List UInt8).any fun b => (b.toNat : Int) == (c.toNat : Int)) = fsB c)) (by decide +kernel) c)
theorem byte_fs1 (c : UInt8) : Lib.indexByte fsL ((c.toNat : Int).toNat.toUInt8) = Lib.indexByte fsL c := by
  rw [Int.toNat_natCast]; congr 1; exact UInt8.ofNat_toNat
theorem bcomm (e s : List UInt8) : (e == s) = (s == e) := by
  rw [Bool.eq_iff_iff]; simp only [beq_iff_eq]; exact eq_comm
theorem node_keyword_eq (s : List UInt8) : m_node_keyword s = some (kwL.any fun e => e == s) := by
  simp only [m_node_keyword, kwL, List.any_cons, List.any_nil, bcomm [102, 114, 97, 99] s, bcomm [114, 111, 111, 116] s, bcomm [109, 97, 116, 114, 105, 120] s, bcomm [102, 101, 110, 99, 101] s]
  generalize (s == [102, 114, 97, 99]) = b1
  generalize (s == [114, 111, 111, 116]) = b2
  generalize (s == [109, 97, 116, 114, 105, 120]) = b3
  generalize (s == [102, 101, 110, 99, 101]) = b4
  cases b1 <;> cases b2 <;> cases b3 <;> cases b4 <;> rfl
theorem node_accent_eq (s : List UInt8) : m_node_accent s = some (acL.any fun e => e == s) := by
  simp only [m_node_accent, acL, List.any_cons, List.any_nil, bcomm [104, 97, 116] s, bcomm [98, 97, 114] s, bcomm [118, 101, 99] s, bcomm [100, 111, 116] s, bcomm [116, 105, 108, 100, 101] s, bcomm [99, 104, 101, 99, 107] s]
  generalize (s == [104, 97, 116]) = b1
  generalize (s == [98, 97, 114]) = b2
  generalize (s == [118, 101, 99]) = b3
  generalize (s == [100, 111, 116]) = b4
  generalize (s == [116, 105, 108, 100, 101]) = b5
  generalize (s == [99, 104, 101, 99, 107]) = b6
  cases b1 <;> cases b2 <;> cases b3 <;> cases b4 <;> cases b5 <;> cases b6 <;> rfl

def symB (s : List UInt8) : Bool :=
  if s.length = 1 then s.all letterB || s.all spB
  else s.all letterB && (decide (2 ≤ s.length) && (decide (s.length ≤ 16) && (!(kwL.any fun e => e == s) && !(acL.any fun e => e == s))))
theorem len1 (s : List UInt8) : ((s.length : Int) == 1) = decide (s.length = 1) := by
  by_cases h : s.length = 1
  · simp [h]
  · rw [dec_f h]
    cases e : ((s.length : Int) == 1) with
    | false => rfl
    | true => have := eq_of_beq e; omega
theorem cast_le (a b : Nat) : decide ((a : Int) ≤ (b : Int)) = decide (a ≤ b) := by
  by_cases h : a ≤ b
  · rw [dec_t h, dec_t (by omega)]
  · rw [dec_f h, dec_f (by omega)]
theorem cast_lt (a b : Nat) : decide ((a : Int) < (b : Int)) = decide (a < b) := by
  by_cases h : a < b
  · rw [dec_t h, dec_t (by omega)]
  · rw [dec_f h, dec_f (by omega)]
theorem node_Symbol_eq (n : Nat) (s : List UInt8) (h : s.length + 40 < n) (hb : s.length ≤ 1073741824) : m_node_Symbol n s = some (symB s) := by
  rw [m_node_Symbol, len1, node_letters_eq n s (by omega) hb]
  unfold symB
  by_cases h1 : s.length = 1
  · rw [dec_t h1, if_pos h1]
    obtain ⟨c, rfl⟩ := List.length_eq_one_iff.1 h1
    have : m_strings_Contains [43, 45, 42, 47, 61, 60, 62, 44, 59, 58, 33, 124, 39, 63, 126, 64] [c] = some (spB c) := rfl
    simp only [cond_true, Option.bind_some, this, List.all_cons, List.all_nil, Bool.and_true]
    cases letterB c <;> rfl
  · rw [dec_f h1, if_neg h1]
    have e2 := cast_le 2 s.length
    have e16 := cast_le s.length 16
    rw [show ((2 : Nat) : Int) = 2 from rfl] at e2
    rw [show ((16 : Nat) : Int) = 16 from rfl] at e16
    simp only [cond_false, Option.bind_some, node_keyword_eq, node_accent_eq, e2, e16]
    cases s.all letterB <;> cases decide (2 ≤ s.length) <;> cases decide (s.length ≤ 16) <;> cases (kwL.any fun e => e == s) <;> rfl
theorem r09_Symbol_eq (n : Nat) (s : List UInt8) (h : s.length + 40 < n) (hb : s.length ≤ 1073741824) : m_r09_Symbol n s = some (symB s) := by
  rw [m_r09_Symbol, len1, r09_letters_eq n s (by omega) hb]
  unfold symB
  by_cases h1 : s.length = 1
  · rw [dec_t h1, if_pos h1]
    obtain ⟨c, rfl⟩ := List.length_eq_one_iff.1 h1
    have e1 : at? [c] (0 : Int) = some c := rfl
    have e2 : m_r09_has n [43, 45, 42, 47, 61, 60, 62, 44, 59, 58, 33, 124, 39, 63, 126, 64] (c.toNat : Int) = some (spB c) := by
      rw [r09_has_eq n _ _ (by simp only [List.length_cons, List.length_nil]; omega) (by simp only [List.length_cons, List.length_nil]; omega)]
      exact congrArg some (byte_sp c)
    simp only [cond_true, Option.bind_some, e1, m_r09_Character, byte_letter2, e2, List.all_cons, List.all_nil, Bool.and_true]
    cases letterB c <;> rfl
  · rw [dec_f h1, if_neg h1]
    have e2 := cast_le 2 s.length
    have e16 := cast_le s.length 16
    rw [show ((2 : Nat) : Int) = 2 from rfl] at e2
    rw [show ((16 : Nat) : Int) = 16 from rfl] at e16
    have ek : m_r09_In n kwL s = some (kwL.any fun e => e == s) := r09_In_eq n kwL s (by simp only [kwL, List.length_cons, List.length_nil]; omega) (by simp [kwL])
    have ea : m_r09_In n acL s = some (acL.any fun e => e == s) := r09_In_eq n acL s (by simp only [acL, List.length_cons, List.length_nil]; omega) (by simp [acL])
    have k1 : m_r09_Keywords = some kwL := rfl
    have a1 : m_r09_Accents = some acL := rfl
    unfold allFl
    simp only [cond_false, Option.bind_some, k1, a1, ek, ea, e2, e16]
    cases s.all letterB <;> cases decide (2 ≤ s.length) <;> cases decide (s.length ≤ 16) <;> cases (kwL.any fun e => e == s) <;> rfl

/- fences -/
def fenB (s : List UInt8) : Bool := decide (s.length = 2) && s.all fsB
theorem len2 (s : List UInt8) : ((s.length : Int) == 2) = decide (s.length = 2) := by
  by_cases h : s.length = 2
  · simp [h]
  · rw [dec_f h]
    cases e : ((s.length : Int) == 2) with
    | false => rfl
    | true => have := eq_of_beq e; omega
theorem node_fence_eq (s : List UInt8) : m_node_fence s = some (fenB s) := by
  rw [m_node_fence, len2]
  unfold fenB
  by_cases h1 : s.length = 2
  · rw [dec_t h1]
    match s, h1 with
    | [c, d], _ =>
      have e0 : at? [c, d] (0 : Int) = some c := rfl
      have e1 : at? [c, d] (1 : Int) = some d := rfl
      have f : ∀ c : UInt8, m_strings_IndexByte [40, 41, 91, 93, 123, 125, 60, 62, 47, 124, 46] (c.toNat : Int) = some (Lib.indexByte fsL c) := fun c => congrArg some (byte_fs1 c)
      have g : ∀ c : UInt8, decide (0 ≤ Lib.indexByte fsL c) = fsB c := fun c => rfl
      simp only [cond_true, e0, e1, f, Option.bind_some, g, List.all_cons, List.all_nil, Bool.and_true, Bool.true_and]
      cases fsB c <;> rfl
  · rw [dec_f h1]; rfl
theorem r09_fence_eq (n : Nat) (s : List UInt8) (h : 40 < n) : (bif ((s.length : Int) == 2) then (
                (at? s 0).bind fun c9 =>
                (m_r09_has n [40, 41, 91, 93, 123, 125, 124, 60, 62, 47, 46] (c9.toNat : Int)).bind fun y11 =>
                bif y11 then (
                  (at? s 1).bind fun c12 =>
                  (m_r09_has n [40, 41, 91, 93, 123, 125, 124, 60, 62, 47, 46] (c12.toNat : Int)).bind fun y14 =>
                  some y14
                ) else (
                  some false
                )
              ) else (
                some false
              )) = some (fenB s) := by
  rw [len2]
  unfold fenB
  by_cases h1 : s.length = 2
  · rw [dec_t h1]
    match s, h1 with
    | [c, d], _ =>
      have e0 : at? [c, d] (0 : Int) = some c := rfl
      have e1 : at? [c, d] (1 : Int) = some d := rfl
      have f : ∀ c : UInt8, m_r09_has n [40, 41, 91, 93, 123, 125, 124, 60, 62, 47, 46] (c.toNat : Int) = some (fsB c) := fun c => by
        rw [r09_has_eq n _ _ (by simp only [List.length_cons, List.length_nil]; omega) (by simp only [List.length_cons, List.length_nil]; omega)]
        exact congrArg some (byte_fs c)
      simp only [cond_true, e0, e1, f, Option.bind_some, List.all_cons, List.all_nil, Bool.and_true, Bool.true_and]
      cases fsB c <;> rfl
  · rw [dec_f h1]; rfl

/- numbers -/
def okL (L : Nat) : Nat → List UInt8 → Bool
  | _, [] => true
  | i, c :: r => ((c == 46 && (decide (0 < i) && decide (i + 1 < L))) || digitB c) && okL L (i + 1) r
def numB (s : List UInt8) : Bool := okL s.length 0 s && (decide (0 < s.length) && (decide (s.length ≤ 20) && decide (s.count 46 ≤ 1)))
theorem byte46 (c : UInt8) : ((c.toNat : Int) == 46) = (c == 46) :=
  of_decide_eq_true (u8_all (P := fun c => decide (((c.toNat : Int) == 46) = (c == 46))) (by decide +kernel) c)
theorem dig46 : digitB 46 = false := by decide
theorem num_loop (s : List UInt8) (hb : s.length ≤ 1073741824) : ∀ (k i p : Nat), s.length - i < k → i ≤ s.length → p ≤ i →
    m_r09_Number_l1 s k (p : Int) (i : Int) = some (if okL s.length i (s.drop i) then .go ((p + (s.drop i).count 46 : Nat) : Int) else .ret false)
  | 0, _, _, h, _, _ => by omega
  | k + 1, i, p, hk, hi, hp => by
    unfold m_r09_Number_l1
    by_cases h : i < s.length
    · rw [dec_t (Int.ofNat_lt.2 h), cond_true, at_get h, List.drop_eq_getElem_cons h]
      generalize s[i] = c
      simp only [Option.bind_some, byte46, byte_digit2, okL, List.count_cons]
      rw [wi_succ (by omega), wi_succ (by omega), wrap64_in (by omega) (by omega)]
      have d1 : decide ((0 : Int) < (i : Int)) = decide (0 < i) := cast_lt 0 i
      have d2 : decide ((i : Int) < (s.length : Int) - 1) = decide (i + 1 < s.length) := by
        by_cases h : i + 1 < s.length
        · rw [dec_t h, dec_t (by omega)]
        · rw [dec_f h, dec_f (by omega)]
      rw [d1, d2]
      cases e : c == 46 with
      | true =>
        obtain rfl : c = 46 := eq_of_beq e
        simp only [cond_true, dig46, Bool.true_and, Bool.or_false]
        cases decide (0 < i) with
        | false => rfl
        | true =>
          simp only [cond_true, Option.bind_some, Bool.true_and]
          cases decide (i + 1 < s.length) with
          | false => rfl
          | true =>
            simp only [cond_true, Option.bind_some, Bool.true_and]
            rw [num_loop s hb k (i + 1) (p + 1) (by omega) (by omega) (by omega)]
            simp only [if_true]
            rw [show p + 1 + (s.drop (i + 1)).count 46 = p + ((s.drop (i + 1)).count 46 + 1) by omega]
      | false =>
        simp only [cond_false, Option.bind_some, Bool.false_and, Bool.false_or]
        cases digitB c with
        | false => rfl
        | true =>
          simp only [Bool.not_true, cond_false, Option.bind_some, Bool.true_and]
          rw [num_loop s hb k (i + 1) p (by omega) (by omega) (by omega)]
          simp
    · rw [dec_f (by omega), cond_false]
      obtain rfl : i = s.length := by omega
      simp [okL]
theorem r09_Number_eq (n : Nat) (s : List UInt8) (h : s.length < n) (hb : s.length ≤ 1073741824) : m_r09_Number n s = some (numB s) := by
  have := num_loop s hb n 0 0 (by omega) (by omega) (by omega)
  rw [show ((0 : Nat) : Int) = 0 from rfl, List.drop_zero] at this
  rw [m_r09_Number, this]
  unfold numB
  have e0 := cast_lt 0 s.length
  have e20 := cast_le s.length 20
  have e1 := cast_le (s.count 46) 1
  rw [show ((0 : Nat) : Int) = 0 from rfl] at e0
  rw [show ((20 : Nat) : Int) = 20 from rfl] at e20
  rw [show ((1 : Nat) : Int) = 1 from rfl] at e1
  cases okL s.length 0 s with
  | false => rfl
  | true =>
    simp only [if_true, Option.bind_some, e0, e20, Nat.zero_add, e1]
    cases decide (0 < s.length) <;> cases decide (s.length ≤ 20) <;> rfl
theorem cut_cases : ∀ s : List UInt8, (s.count 46 = 0 ∧ Lib.indexByte s 46 = -1) ∨ ∃ a b, s = a ++ 46 :: b ∧ a.count 46 = 0 ∧ Lib.indexByte s 46 = (a.length : Int)
  | [] => .inl ⟨rfl, rfl⟩
  | c :: s => by
    by_cases h : c = 46
    · subst h
      exact .inr ⟨[], s, rfl, rfl, by simp [Lib.indexByte]⟩
    · have hc : (c == 46) = false := by simpa using h
      rcases cut_cases s with ⟨h1, h2⟩ | ⟨a, b, rfl, h1, h2⟩
      · exact .inl ⟨by rw [List.count_cons, h1, hc]; rfl, by simp [Lib.indexByte, hc, h2]⟩
      · refine .inr ⟨c :: a, b, rfl, by rw [List.count_cons, h1, hc]; rfl, ?_⟩
        have h3 : ((a.length : Int) == -1) = false := by
          cases e : ((a.length : Int) == -1) with
          | false => rfl
          | true => have := eq_of_beq e; omega
        simp [Lib.indexByte, hc, h2, h3]
theorem okL_plain (L : Nat) : ∀ (i : Nat) (a : List UInt8), a.count 46 = 0 → okL L i a = a.all digitB
  | _, [], _ => rfl
  | i, c :: a, h => by
    have hc : (c == 46) = false := by
      cases e : c == 46 with
      | false => rfl
      | true => rw [List.count_cons, e] at h; simp at h
    rw [List.count_cons, hc] at h
    rw [okL, hc, okL_plain L (i + 1) a (by simpa using h)]
    simp
theorem okL_append (L : Nat) : ∀ (i : Nat) (a b : List UInt8), okL L i (a ++ b) = (okL L i a && okL L (i + a.length) b)
  | _, [], b => by simp [okL]
  | i, c :: a, b => by
    simp only [List.cons_append, okL, okL_append L (i + 1) a b, List.length_cons, Bool.and_assoc, show i + 1 + a.length = i + (a.length + 1) by omega]
theorem dig_no46 : ∀ a : List UInt8, a.all digitB = true → a.count 46 = 0
  | [], _ => rfl
  | c :: a, h => by
    simp only [List.all_cons, Bool.and_eq_true] at h
    have hc : (c == 46) = false := by
      cases e : c == 46 with
      | false => rfl
      | true => obtain rfl : c = 46 := eq_of_beq e; simp [dig46] at h
    rw [List.count_cons, hc, dig_no46 a h.2]; rfl
theorem num_cut (a b : List UInt8) (ha : a.count 46 = 0) : numB (a ++ 46 :: b) = (decide ((a ++ 46 :: b).length ≤ 20) && ((a.all digitB && !(a == [])) && (b.all digitB && !(b == [])))) := by
  unfold numB
  have hl : (a ++ 46 :: b).length = a.length + (b.length + 1) := by simp
  rw [okL_append, okL_plain _ _ a ha, hl]
  simp only [okL, dig46, Bool.or_false, List.count_append, List.count_cons, ha, beq_self_eq_true, Bool.true_and, if_true, Nat.zero_add]
  have e1 : decide (0 < a.length) = !(a == []) := by cases a <;> rfl
  have e2 : decide (a.length + 1 < a.length + (b.length + 1)) = !(b == []) := by
    cases b with
    | nil => simp
    | cons c b => simp
  have e3 : decide (0 < a.length + (b.length + 1)) = true := dec_t (by omega)
  rw [e1, e2, e3]
  cases hb : b.all digitB with
  | true =>
    rw [okL_plain _ _ b (dig_no46 b hb), hb, dig_no46 b hb]
    cases a.all digitB <;> cases a == [] <;> cases b == [] <;> cases decide (a.length + (b.length + 1) ≤ 20) <;> rfl
  | false =>
    cases hc : decide (b.count 46 + 1 ≤ 1) with
    | true =>
      have : b.count 46 = 0 := by have := of_decide_eq_true hc; omega
      rw [okL_plain _ _ b this, hb]
      cases a.all digitB <;> cases a == [] <;> cases b == [] <;> cases decide (a.length + (b.length + 1) ≤ 20) <;> rfl
    | false =>
      generalize okL _ _ b = z
      cases z <;> cases a.all digitB <;> cases a == [] <;> cases b == [] <;> cases decide (a.length + (b.length + 1) ≤ 20) <;> rfl
theorem num_plain (s : List UInt8) (h : s.count 46 = 0) : numB s = (decide (s.length ≤ 20) && (s.all digitB && !(s == []))) := by
  unfold numB
  rw [okL_plain _ _ s h, h]
  have e1 : decide (0 < s.length) = !(s == []) := by cases s <;> rfl
  rw [e1]
  cases s.all digitB <;> cases s == [] <;> cases decide (s.length ≤ 20) <;> rfl
theorem node_Number_eq (n : Nat) (s : List UInt8) (h : s.length < n) (hb : s.length ≤ 1073741824) : m_node_Number n s = some (numB s) := by
  have e20 := cast_le s.length 20
  rw [show ((20 : Nat) : Int) = 20 from rfl] at e20
  have hi : m_stringslite_Index s [46] = some (Lib.indexByte s 46) := rfl
  rcases cut_cases s with ⟨h1, h2⟩ | ⟨a, b, rfl, h1, h2⟩
  · rw [num_plain s h1]
    simp only [m_node_Number, m_strings_Cut, m_stringslite_Cut, hi, h2, Option.bind_some, show decide ((0 : Int) ≤ -1) = false from rfl, cond_false, e20, node_digits_eq n s h hb]
    cases decide (s.length ≤ 20) <;> cases (s.all digitB && !(s == [])) <;> rfl
  · have hl : (a ++ 46 :: b).length = a.length + (b.length + 1) := by simp
    rw [num_cut a b h1]
    have w1 : IntKind.i64.wrap ((a.length : Int) + (([46] : List UInt8).length : Int)) = ((a.length + 1 : Nat) : Int) := wi_succ (by omega)
    have t1 : ((a ++ 46 :: b).take ((a.length : Int)).toNat).drop (0 : Int).toNat = a := by simp
    have t2 : ((a ++ 46 :: b).take (((a ++ 46 :: b).length : Int)).toNat).drop (((a.length + 1 : Nat) : Int)).toNat = b := by
      rw [Int.toNat_natCast, Int.toNat_natCast, List.take_length, List.drop_append]
      simp
    simp only [m_node_Number, m_strings_Cut, m_stringslite_Cut, hi, h2, Option.bind_some, w1]
    rw [dec_t (by omega), cond_true, req_t (by omega), req_t (by omega), t1, t2]
    simp only [Option.bind_some, e20, node_digits_eq n a (by omega) (by omega), node_digits_eq n b (by omega) (by omega)]
    cases decide ((a ++ 46 :: b).length ≤ 20) <;> cases (a.all digitB && !(a == [])) <;> cases (b.all digitB && !(b == [])) <;> rfl
end Go.Proofs.YtefbmooajknmgaaDoor
