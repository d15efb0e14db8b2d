/-
  Joined out of: PCnt, PByte, PText, PVal, PDist, PDump, PMet, PNode, PRow, PPut, PWith, PWt, PLeast, PLeast2, PEdit1, PEdit2, PEdit3, PEdit4, PEdit5, PEdit6, PEdit7.
-/
import Derived.Lib.ItoaLen
import Derived.Test.YtfbggpmdmhgpfaaZe
set_option linter.unusedVariables false
set_option linter.unusedSimpArgs false
namespace Go.Proofs.Ytfbggpmdmhgpfaa
open Go.Abs
theorem dec_t {φ : Prop} [Decidable φ] (h : φ) : decide φ = true := decide_eq_true h
theorem dec_f {φ : Prop} [Decidable φ] (h : ¬ φ) : decide φ = false := decide_eq_false h
theorem r09_Count_loop {F : Nd → Option Int} {ks : List Nd} (hF : ∀ v ∈ ks, F v = some (v.cnt : Int)) :
    ∀ (k i : Nat) (o : Nat), ks.length - i < k → i ≤ ks.length → o + Nd.cnts (ks.drop i) ≤ 1073741824 → ks.length ≤ 1073741824 → m_r09_Count_l1 F ks k (o : Int) (i : Int) = some ((o + Nd.cnts (ks.drop i) : Nat) : Int)
  | 0, _, _, h, _, _, _ => by omega
  | k + 1, i, o, hk, hi, ho, hl => by
    unfold m_r09_Count_l1
    by_cases h : i < ks.length
    · rw [dec_t (Int.ofNat_lt.2 h), cond_true, at_get h]
      have hd := Nd.cnts_drop h
      have hf := hF _ (List.getElem_mem h)
      rcases e : ks[i] with ⟨a, b, c, d⟩
      rw [e] at hd hf
      simp only [Option.bind_some, hf]
      rw [wrap64_in (by omega) (by omega), wi_succ (by omega), ← Int.natCast_add, r09_Count_loop hF k (i + 1) _ (by omega) (by omega) (by omega) hl, hd]
      congr 2; omega
    · rw [dec_f (by omega), cond_false]
      obtain rfl : i = ks.length := by omega
      simp [Nd.cnts]
theorem r09_Count_eq : ∀ (n : Nat) (t : Nd), t.cnt < n → t.cnt ≤ 67108864 → m_r09_Count n t = some (t.cnt : Int)
  | 0, _, h, _ => by omega
  | n + 1, .mk a b c ks, h, hb => by
    simp only [Nd.cnt] at h hb
    have hl := Nd.cnts_len ks
    unfold m_r09_Count
    have := r09_Count_loop (F := m_r09_Count n) (ks := ks) (fun v hv => r09_Count_eq n v (by have := Nd.cnts_mem hv; omega) (by have := Nd.cnts_mem hv; omega)) n 0 1 (by omega) (by omega) (by simp; omega) (by omega)
    rw [show ((0 : Nat) : Int) = 0 from rfl, show ((1 : Nat) : Int) = 1 from rfl] at this
    rw [this]
    simp only [Option.bind_some, List.drop_zero, Nd.cnt]
    congr 2; omega
theorem left_loop {F : Nd → Int → Option Int} {ks : List Nd} {b : Nat} (hF : ∀ (v : Nd) (m : Nat), m ≤ b → ∃ r, F v (m : Int) = some r ∧ -1 ≤ r ∧ r < m ∧ (0 ≤ r → r + v.cnt = m)) :
    ∀ (k i : Nat) (m : Int), m + 1 < k → -1 ≤ m → m ≤ b → i ≤ ks.length → (i : Int) + m < 4611686018427387904 → ∃ r, m_r09_left_l1 F ks k m (i : Int) = some r ∧ -1 ≤ r ∧ r ≤ m ∧ (0 ≤ r → r + Nd.cnts (ks.drop i) = m)
  | 0, _, _, h, _, _, _, _ => by omega
  | k + 1, i, m, hk, hm, hb, hi, hx => by
    unfold m_r09_left_l1
    by_cases h : i < ks.length
    · rw [dec_t (Int.ofNat_lt.2 h), cond_true]
      simp only [Option.bind_some]
      by_cases h0 : 0 ≤ m
      · rw [dec_t h0, cond_true, at_get h]
        have hd := Nd.cnts_drop h
        rcases e : ks[i] with ⟨e1, e2, e3, e4⟩
        rw [e] at hd
        simp only [Option.bind_some]
        obtain ⟨m', rfl⟩ := Int.eq_ofNat_of_zero_le h0
        obtain ⟨r, h1, h2, h3, h4⟩ := hF (.mk e1 e2 e3 e4) m' (by omega)
        rw [h1, Option.bind_some, wi_succ (by omega)]
        obtain ⟨r', g1, g2, g3, g4⟩ := left_loop (ks := ks) hF k (i + 1) r (by omega) h2 (by omega) (by omega) (by omega)
        exact ⟨r', g1, g2, by omega, fun g => by have := g4 g; have := h4 (by omega); omega⟩
      · rw [dec_f h0, cond_false]
        exact ⟨m, rfl, hm, Int.le_refl _, fun g => by omega⟩
    · rw [dec_f (by omega), cond_false]
      simp only [Option.bind_some, cond_false]
      obtain rfl : i = ks.length := by omega
      exact ⟨m, rfl, hm, Int.le_refl _, fun _ => by simp [Nd.cnts]⟩
theorem left_eq : ∀ (n : Nat) (t : Nd) (m : Nat), m + 1 < n → m ≤ 67108864 → ∃ r, m_r09_left n t (m : Int) = some r ∧ -1 ≤ r ∧ r < m ∧ (0 ≤ r → r + t.cnt = m)
  | 0, _, _, h, _ => by omega
  | n + 1, .mk a b c ks, m, h, hm => by
    unfold m_r09_left
    rw [wrap64_in (by omega) (by omega)]
    cases m with
    | zero =>
      cases n with
      | zero => omega
      | succ n =>
        refine ⟨-1, ?_, by omega, by omega, fun h => by omega⟩
        unfold m_r09_left_l1
        cases decide (((0 : Nat) : Int) < (ks.length : Int)) <;> simp <;> rfl
    | succ m =>
      obtain ⟨r, h1, h2, h3, h4⟩ := left_loop (F := m_r09_left n) (ks := ks) (b := m) (fun v q hq => left_eq n v q (by omega) (by omega)) n 0 (m : Int) (by omega) (by omega) (by omega) (by omega) (by omega)
      rw [show ((0 : Nat) : Int) = 0 from rfl] at h1
      rw [show ((m + 1 : Nat) : Int) - 1 = (m : Int) by omega, h1]
      exact ⟨r, rfl, h2, by omega, fun g => by have := h4 g; rw [List.drop_zero] at this; simp only [Nd.cnt]; omega⟩
theorem Few_eq (n : Nat) (t : Nd) (m : Nat) (h : m + 1 < n) (hm : m ≤ 67108864) : ∃ b, m_r09_Few n t (m : Int) = some b ∧ (b = true → t.cnt ≤ m) := by
  obtain ⟨a, b, c, ks⟩ := t
  obtain ⟨r, h1, h2, h3, h4⟩ := left_eq n (.mk a b c ks) m h hm
  refine ⟨decide (0 ≤ r), by simp [m_r09_Few, h1], fun g => by have g0 := of_decide_eq_true g; have := h4 g0; omega⟩
end Go.Proofs.Ytfbggpmdmhgpfaa
namespace Go.Proofs.Ytfbggpmdmhgpfaa
open Go.Abs
def allFl {α : Type} (p : α → Bool) (l : List α) : Fl Bool Unit := if l.all p then .go () else .ret false
theorem all_drop {α : Type} {p : α → Bool} {l : List α} {i : Nat} (h : i < l.length) : (l.drop i).all p = (p l[i] && (l.drop (i + 1)).all p) := by
  rw [List.drop_eq_getElem_cons h]; rfl
theorem any_drop {α : Type} {p : α → Bool} {l : List α} {i : Nat} (h : i < l.length) : (l.drop i).any p = (p l[i] || (l.drop (i + 1)).any p) := by
  rw [List.drop_eq_getElem_cons h]; rfl
theorem loop_all {α : Type} {p : α → Bool} {l : List α} (L : Nat → Int → Option (Fl Bool Unit)) (hb : l.length ≤ 1073741824)
    (h1 : ∀ (k i : Nat) (h : i < l.length), L (k + 1) (i : Int) = if p l[i] then L k (((i + 1 : Nat)) : Int) else some (.ret false)) (h2 : ∀ k, L (k + 1) (l.length : Int) = some (.go ())) :
    ∀ (k i : Nat), l.length - i < k → i ≤ l.length → L k (i : Int) = some (allFl p (l.drop i))
  | 0, _, h, _ => by omega
  | k + 1, i, hk, hi => by
    by_cases h : i < l.length
    · rw [h1 k i h, loop_all L hb h1 h2 k (i + 1) (by omega) (by omega)]
      unfold allFl
      rw [all_drop h]
      cases p l[i] <;> simp
    · obtain rfl : i = l.length := by omega
      rw [h2]; simp [allFl]
theorem loop_any {α : Type} {p : α → Bool} {l : List α} (L : Nat → Int → Option (Fl Bool Unit)) (hb : l.length ≤ 1073741824)
    (h1 : ∀ (k i : Nat) (h : i < l.length), L (k + 1) (i : Int) = if p l[i] then some (.ret true) else L k (((i + 1 : Nat)) : Int)) (h2 : ∀ k, L (k + 1) (l.length : Int) = some (.go ())) :
    ∀ (k i : Nat), l.length - i < k → i ≤ l.length → L k (i : Int) = some (if (l.drop i).any p then .ret true else .go ())
  | 0, _, h, _ => by omega
  | k + 1, i, hk, hi => by
    by_cases h : i < l.length
    · rw [h1 k i h, loop_any L hb h1 h2 k (i + 1) (by omega) (by omega), any_drop h]
      cases p l[i] <;> simp
    · obtain rfl : i = l.length := by omega
      rw [h2]; simp
theorem u8_all {P : UInt8 → Bool} (h : (List.range 256).all (fun n => P n.toUInt8) = true) (b : UInt8) : P b = true := by
  have : P (UInt8.ofNat b.toNat) = true := List.all_eq_true.1 h b.toNat (List.mem_range.2 b.toNat_lt)
  rwa [UInt8.ofNat_toNat] at this
def letterB (b : UInt8) : Bool := (decide (97 ≤ b.toNat) && decide (b.toNat ≤ 122)) || (decide (65 ≤ b.toNat) && decide (b.toNat ≤ 90))
def digitB (b : UInt8) : Bool := decide (48 ≤ b.toNat) && decide (b.toNat ≤ 57)
def printB (b : UInt8) : Bool := decide (32 ≤ b.toNat) && decide (b.toNat ≤ 126)
theorem byte_letter1 (b : UInt8) : (bif decide ((bitOp .or .u8 (b.toNat : Int) 32) < 97) then some true else some (decide (122 < (bitOp .or .u8 (b.toNat : Int) 32)))) = some (!letterB b) :=
  of_decide_eq_true (u8_all (P := fun b => decide ((bif decide ((bitOp .or .u8 (b.toNat : Int) 32) < 97) then some true else some (decide (122 < (bitOp .or .u8 (b.toNat : Int) 32)))) = some (!letterB b))) (by decide +kernel) b)
theorem byte_letter2 (b : UInt8) : m_r09_Letter (b.toNat : Int) = some (letterB b) :=
  of_decide_eq_true (u8_all (P := fun b => decide (m_r09_Letter (b.toNat : Int) = some (letterB b))) (by decide +kernel) b)
theorem byte_digit2 (b : UInt8) : m_r09_Digit (b.toNat : Int) = some (digitB b) :=
  of_decide_eq_true (u8_all (P := fun b => decide (m_r09_Digit (b.toNat : Int) = some (digitB b))) (by decide +kernel) b)
theorem node_letters_eq (n : Nat) (s : List UInt8) (h : s.length < n) (hb : s.length ≤ 1073741824) : m_node_letters n s = some (s.all letterB) := by
  have := loop_all (p := letterB) (l := s) (m_node_letters_l1 s) hb (fun k i h => by
    rw [m_node_letters_l1, dec_t (Int.ofNat_lt.2 h), cond_true, at_get h]
    simp only [Option.bind_some, byte_letter1]
    rw [wi_succ (by omega)]
    cases letterB s[i] <;> rfl) (fun k => by rw [m_node_letters_l1, dec_f (by omega)]; rfl) n 0 (by omega) (by omega)
  rw [show ((0 : Nat) : Int) = 0 from rfl, List.drop_zero] at this
  rw [m_node_letters, this]
  unfold allFl
  cases s.all letterB <;> rfl
theorem r09_letters_eq (n : Nat) (s : List UInt8) (h : s.length < n) (hb : s.length ≤ 1073741824) : m_r09_Symbol_l1 s n 0 = some (allFl letterB s) := by
  have := loop_all (p := letterB) (l := s) (m_r09_Symbol_l1 s) hb (fun k i h => by
    rw [m_r09_Symbol_l1, dec_t (Int.ofNat_lt.2 h), cond_true, at_get h]
    simp only [Option.bind_some, byte_letter2]
    rw [wi_succ (by omega)]
    cases letterB s[i] <;> rfl) (fun k => by rw [m_r09_Symbol_l1, dec_f (by omega)]; rfl) n 0 (by omega) (by omega)
  rwa [show ((0 : Nat) : Int) = 0 from rfl, List.drop_zero] at this
theorem r09_has_eq (n : Nat) (s : List UInt8) (c : Int) (h : s.length < n) (hb : s.length ≤ 1073741824) : m_r09_has n s c = some (s.any fun b => (b.toNat : Int) == c) := by
  have := loop_any (p := fun b => (b.toNat : Int) == c) (l := s) (m_r09_has_l1 s c) hb (fun k i h => by
    rw [m_r09_has_l1, dec_t (Int.ofNat_lt.2 h), cond_true, at_get h]
    simp only [Option.bind_some]
    rw [wi_succ (by omega)]
    cases ((s[i].toNat : Int) == c) <;> rfl) (fun k => by rw [m_r09_has_l1, dec_f (by omega)]; rfl) n 0 (by omega) (by omega)
  rw [show ((0 : Nat) : Int) = 0 from rfl, List.drop_zero] at this
  rw [m_r09_has, this]
  cases s.any fun b => (b.toNat : Int) == c <;> rfl
theorem r09_In_eq (n : Nat) (l : List (List UInt8)) (s : List UInt8) (h : l.length < n) (hb : l.length ≤ 1073741824) : m_r09_In n l s = some (l.any fun e => e == s) := by
  have := loop_any (p := fun e => e == s) (l := l) (m_r09_In_l1 l s) hb (fun k i h => by
    rw [m_r09_In_l1, dec_t (Int.ofNat_lt.2 h), cond_true, at_get h]
    simp only [Option.bind_some]
    rw [wi_succ (by omega)]
    cases (l[i] == s) <;> rfl) (fun k => by rw [m_r09_In_l1, dec_f (by omega)]; rfl) n 0 (by omega) (by omega)
  rw [show ((0 : Nat) : Int) = 0 from rfl, List.drop_zero] at this
  rw [m_r09_In, this]
  cases l.any fun e => e == s <;> rfl
theorem node_digits_eq (n : Nat) (s : List UInt8) (h : s.length < n) (hb : s.length ≤ 1073741824) : m_node_digits n s = some (s.all digitB && !(s == [])) := by
  have := loop_all (p := digitB) (l := s) (m_node_digits_l1 s) hb (fun k i h => by
    rw [m_node_digits_l1, dec_t (Int.ofNat_lt.2 h), cond_true, at_get h]
    simp only [Option.bind_some]
    rw [wi_succ (by omega)]
    unfold digitB
    by_cases a : 48 ≤ s[i].toNat
    · by_cases b : s[i].toNat ≤ 57
      · simp [a, b, show ¬ ((s[i].toNat : Int) < 48) by omega, show ¬ (57 < (s[i].toNat : Int)) by omega]
      · simp [a, b, show ¬ ((s[i].toNat : Int) < 48) by omega, show (57 < (s[i].toNat : Int)) by omega]
    · simp [a, show ((s[i].toNat : Int) < 48) by omega]) (fun k => by rw [m_node_digits_l1, dec_f (by omega)]; rfl) n 0 (by omega) (by omega)
  rw [show ((0 : Nat) : Int) = 0 from rfl, List.drop_zero] at this
  rw [m_node_digits, this]
  unfold allFl
  cases s.all digitB <;> rfl
theorem print_bit (b : UInt8) : (bif decide ((b.toNat : Int) < 32) then some true else some (decide (126 < (b.toNat : Int))) : Option Bool) = some (!printB b) := by
  unfold printB
  by_cases a : 32 ≤ b.toNat
  · by_cases c : b.toNat ≤ 126
    · simp [a, c, show ¬ ((b.toNat : Int) < 32) by omega, show ¬ (126 < (b.toNat : Int)) by omega]
    · simp [a, c, show ¬ ((b.toNat : Int) < 32) by omega, show (126 < (b.toNat : Int)) by omega]
  · simp [a, show ((b.toNat : Int) < 32) by omega]
theorem node_plain_eq (n : Nat) (s : List UInt8) (h : s.length < n) (hb : s.length ≤ 1073741824) : m_node_plain n s = some (s.all printB && decide ((s.length : Int) ≤ 200)) := by
  have := loop_all (p := printB) (l := s) (m_node_plain_l1 s) hb (fun k i h => by
    rw [m_node_plain_l1, dec_t (Int.ofNat_lt.2 h), cond_true, at_get h]
    simp only [Option.bind_some, print_bit]
    rw [wi_succ (by omega)]
    cases printB s[i] <;> rfl) (fun k => by rw [m_node_plain_l1, dec_f (by omega)]; rfl) n 0 (by omega) (by omega)
  rw [show ((0 : Nat) : Int) = 0 from rfl, List.drop_zero] at this
  rw [m_node_plain, this]
  unfold allFl
  cases s.all printB <;> rfl
theorem r09_Printable_eq (n : Nat) (s : List UInt8) (h : s.length < n) (hb : s.length ≤ 1073741824) : m_r09_Printable n s = some (s.all printB) := by
  have := loop_all (p := printB) (l := s) (m_r09_Printable_l1 s) hb (fun k i h => by
    rw [m_r09_Printable_l1, dec_t (Int.ofNat_lt.2 h), cond_true, at_get h]
    simp only [Option.bind_some, print_bit]
    rw [wi_succ (by omega)]
    cases printB s[i] <;> rfl) (fun k => by rw [m_r09_Printable_l1, dec_f (by omega)]; rfl) n 0 (by omega) (by omega)
  rw [show ((0 : Nat) : Int) = 0 from rfl, List.drop_zero] at this
  rw [m_r09_Printable, this]
  unfold allFl
  cases s.all printB <;> rfl
end Go.Proofs.Ytfbggpmdmhgpfaa
namespace Go.Proofs.Ytfbggpmdmhgpfaa
open Go.Abs
def spL : List UInt8 := [43, 45, 42, 47, 61, 60, 62, 44, 59, 58, 33, 124, 39, 63, 126, 64]
def fsL : List UInt8 := [40, 41, 91, 93, 123, 125, 60, 62, 47, 124, 46]
def kwL : List (List UInt8) := [[102, 114, 97, 99], [114, 111, 111, 116], [109, 97, 116, 114, 105, 120], [102, 101, 110, 99, 101]]
def acL : List (List UInt8) := [[104, 97, 116], [98, 97, 114], [118, 101, 99], [100, 111, 116], [116, 105, 108, 100, 101], [99, 104, 101, 99, 107]]
def spB (c : UInt8) : Bool := decide (0 ≤ Lib.indexByte spL c)
def fsB (c : UInt8) : Bool := decide (0 ≤ Lib.indexByte fsL c)
theorem byte_sp (c : UInt8) : (spL.any fun b => (b.toNat : Int) == (c.toNat : Int)) = spB c :=
  of_decide_eq_true (u8_all (P := fun c => decide ((spL.any fun b => (b.toNat : Int) == (c.toNat : Int)) = spB c)) (by decide +kernel) c)
theorem byte_fs (c : UInt8) : (([40, 41, 91, 93, 123, 125, 124, 60, 62, 47, 46] : List UInt8).any fun b => (b.toNat : Int) == (c.toNat : Int)) = fsB c :=
  of_decide_eq_true (u8_all (P := fun c => decide ((([40, 41, 91, 93, 123, 125, 124, 60, 62, 47, 46] : List UInt8).any fun b => (b.toNat : Int) == (c.toNat : Int)) = fsB c)) (by decide +kernel) c)
theorem byte_fs1 (c : UInt8) : Lib.indexByte fsL ((c.toNat : Int).toNat.toUInt8) = Lib.indexByte fsL c := by
  rw [Int.toNat_natCast]; congr 1; exact UInt8.ofNat_toNat
theorem bcomm (e s : List UInt8) : (e == s) = (s == e) := by
  rw [Bool.eq_iff_iff]; simp only [beq_iff_eq]; exact eq_comm
theorem node_keyword_eq (s : List UInt8) : m_node_keyword s = some (kwL.any fun e => e == s) := by
  simp only [m_node_keyword, kwL, List.any_cons, List.any_nil, bcomm [102, 114, 97, 99] s, bcomm [114, 111, 111, 116] s, bcomm [109, 97, 116, 114, 105, 120] s, bcomm [102, 101, 110, 99, 101] s]
  generalize (s == [102, 114, 97, 99]) = b1
  generalize (s == [114, 111, 111, 116]) = b2
  generalize (s == [109, 97, 116, 114, 105, 120]) = b3
  generalize (s == [102, 101, 110, 99, 101]) = b4
  cases b1 <;> cases b2 <;> cases b3 <;> cases b4 <;> rfl
theorem node_accent_eq (s : List UInt8) : m_node_accent s = some (acL.any fun e => e == s) := by
  simp only [m_node_accent, acL, List.any_cons, List.any_nil, bcomm [104, 97, 116] s, bcomm [98, 97, 114] s, bcomm [118, 101, 99] s, bcomm [100, 111, 116] s, bcomm [116, 105, 108, 100, 101] s, bcomm [99, 104, 101, 99, 107] s]
  generalize (s == [104, 97, 116]) = b1
  generalize (s == [98, 97, 114]) = b2
  generalize (s == [118, 101, 99]) = b3
  generalize (s == [100, 111, 116]) = b4
  generalize (s == [116, 105, 108, 100, 101]) = b5
  generalize (s == [99, 104, 101, 99, 107]) = b6
  cases b1 <;> cases b2 <;> cases b3 <;> cases b4 <;> cases b5 <;> cases b6 <;> rfl
def symB (s : List UInt8) : Bool :=
  if s.length = 1 then s.all letterB || s.all spB
  else s.all letterB && (decide (2 ≤ s.length) && (decide (s.length ≤ 16) && (!(kwL.any fun e => e == s) && !(acL.any fun e => e == s))))
theorem len1 (s : List UInt8) : ((s.length : Int) == 1) = decide (s.length = 1) := by
  by_cases h : s.length = 1
  · simp [h]
  · rw [dec_f h]
    cases e : ((s.length : Int) == 1) with
    | false => rfl
    | true => have := eq_of_beq e; omega
theorem cast_le (a b : Nat) : decide ((a : Int) ≤ (b : Int)) = decide (a ≤ b) := by
  by_cases h : a ≤ b
  · rw [dec_t h, dec_t (by omega)]
  · rw [dec_f h, dec_f (by omega)]
theorem cast_lt (a b : Nat) : decide ((a : Int) < (b : Int)) = decide (a < b) := by
  by_cases h : a < b
  · rw [dec_t h, dec_t (by omega)]
  · rw [dec_f h, dec_f (by omega)]
theorem node_Symbol_eq (n : Nat) (s : List UInt8) (h : s.length + 40 < n) (hb : s.length ≤ 1073741824) : m_node_Symbol n s = some (symB s) := by
  rw [m_node_Symbol, len1, node_letters_eq n s (by omega) hb]
  unfold symB
  by_cases h1 : s.length = 1
  · rw [dec_t h1, if_pos h1]
    obtain ⟨c, rfl⟩ := List.length_eq_one_iff.1 h1
    have : m_strings_Contains [43, 45, 42, 47, 61, 60, 62, 44, 59, 58, 33, 124, 39, 63, 126, 64] [c] = some (spB c) := rfl
    simp only [cond_true, Option.bind_some, this, List.all_cons, List.all_nil, Bool.and_true]
    cases letterB c <;> rfl
  · rw [dec_f h1, if_neg h1]
    have e2 := cast_le 2 s.length
    have e16 := cast_le s.length 16
    rw [show ((2 : Nat) : Int) = 2 from rfl] at e2
    rw [show ((16 : Nat) : Int) = 16 from rfl] at e16
    simp only [cond_false, Option.bind_some, node_keyword_eq, node_accent_eq, e2, e16]
    cases s.all letterB <;> cases decide (2 ≤ s.length) <;> cases decide (s.length ≤ 16) <;> cases (kwL.any fun e => e == s) <;> rfl
theorem r09_Symbol_eq (n : Nat) (s : List UInt8) (h : s.length + 40 < n) (hb : s.length ≤ 1073741824) : m_r09_Symbol n s = some (symB s) := by
  rw [m_r09_Symbol, len1, r09_letters_eq n s (by omega) hb]
  unfold symB
  by_cases h1 : s.length = 1
  · rw [dec_t h1, if_pos h1]
    obtain ⟨c, rfl⟩ := List.length_eq_one_iff.1 h1
    have e1 : at? [c] (0 : Int) = some c := rfl
    have e2 : m_r09_has n [43, 45, 42, 47, 61, 60, 62, 44, 59, 58, 33, 124, 39, 63, 126, 64] (c.toNat : Int) = some (spB c) := by
      rw [r09_has_eq n _ _ (by simp only [List.length_cons, List.length_nil]; omega) (by simp only [List.length_cons, List.length_nil]; omega)]
      exact congrArg some (byte_sp c)
    simp only [cond_true, Option.bind_some, e1, m_r09_Character, byte_letter2, e2, List.all_cons, List.all_nil, Bool.and_true]
    cases letterB c <;> rfl
  · rw [dec_f h1, if_neg h1]
    have e2 := cast_le 2 s.length
    have e16 := cast_le s.length 16
    rw [show ((2 : Nat) : Int) = 2 from rfl] at e2
    rw [show ((16 : Nat) : Int) = 16 from rfl] at e16
    have ek : m_r09_In n kwL s = some (kwL.any fun e => e == s) := r09_In_eq n kwL s (by simp only [kwL, List.length_cons, List.length_nil]; omega) (by simp [kwL])
    have ea : m_r09_In n acL s = some (acL.any fun e => e == s) := r09_In_eq n acL s (by simp only [acL, List.length_cons, List.length_nil]; omega) (by simp [acL])
    have k1 : m_r09_Keywords = some kwL := rfl
    have a1 : m_r09_Accents = some acL := rfl
    unfold allFl
    simp only [cond_false, Option.bind_some, k1, a1, ek, ea, e2, e16]
    cases s.all letterB <;> cases decide (2 ≤ s.length) <;> cases decide (s.length ≤ 16) <;> cases (kwL.any fun e => e == s) <;> rfl
def fenB (s : List UInt8) : Bool := decide (s.length = 2) && s.all fsB
theorem len2 (s : List UInt8) : ((s.length : Int) == 2) = decide (s.length = 2) := by
  by_cases h : s.length = 2
  · simp [h]
  · rw [dec_f h]
    cases e : ((s.length : Int) == 2) with
    | false => rfl
    | true => have := eq_of_beq e; omega
theorem node_fence_eq (s : List UInt8) : m_node_fence s = some (fenB s) := by
  rw [m_node_fence, len2]
  unfold fenB
  by_cases h1 : s.length = 2
  · rw [dec_t h1]
    match s, h1 with
    | [c, d], _ =>
      have e0 : at? [c, d] (0 : Int) = some c := rfl
      have e1 : at? [c, d] (1 : Int) = some d := rfl
      have f : ∀ c : UInt8, m_strings_IndexByte [40, 41, 91, 93, 123, 125, 60, 62, 47, 124, 46] (c.toNat : Int) = some (Lib.indexByte fsL c) := fun c => congrArg some (byte_fs1 c)
      have g : ∀ c : UInt8, decide (0 ≤ Lib.indexByte fsL c) = fsB c := fun c => rfl
      simp only [cond_true, e0, e1, f, Option.bind_some, g, List.all_cons, List.all_nil, Bool.and_true, Bool.true_and]
      cases fsB c <;> rfl
  · rw [dec_f h1]; rfl
theorem r09_fence_eq (n : Nat) (s : List UInt8) (h : 40 < n) : (bif ((s.length : Int) == 2) then (
                (at? s 0).bind fun c9 =>
                (m_r09_has n [40, 41, 91, 93, 123, 125, 124, 60, 62, 47, 46] (c9.toNat : Int)).bind fun y11 =>
                bif y11 then (
                  (at? s 1).bind fun c12 =>
                  (m_r09_has n [40, 41, 91, 93, 123, 125, 124, 60, 62, 47, 46] (c12.toNat : Int)).bind fun y14 =>
                  some y14
                ) else (
                  some false
                )
              ) else (
                some false
              )) = some (fenB s) := by
  rw [len2]
  unfold fenB
  by_cases h1 : s.length = 2
  · rw [dec_t h1]
    match s, h1 with
    | [c, d], _ =>
      have e0 : at? [c, d] (0 : Int) = some c := rfl
      have e1 : at? [c, d] (1 : Int) = some d := rfl
      have f : ∀ c : UInt8, m_r09_has n [40, 41, 91, 93, 123, 125, 124, 60, 62, 47, 46] (c.toNat : Int) = some (fsB c) := fun c => by
        rw [r09_has_eq n _ _ (by simp only [List.length_cons, List.length_nil]; omega) (by simp only [List.length_cons, List.length_nil]; omega)]
        exact congrArg some (byte_fs c)
      simp only [cond_true, e0, e1, f, Option.bind_some, List.all_cons, List.all_nil, Bool.and_true, Bool.true_and]
      cases fsB c <;> rfl
  · rw [dec_f h1]; rfl
def okL (L : Nat) : Nat → List UInt8 → Bool
  | _, [] => true
  | i, c :: r => ((c == 46 && (decide (0 < i) && decide (i + 1 < L))) || digitB c) && okL L (i + 1) r
def numB (s : List UInt8) : Bool := okL s.length 0 s && (decide (0 < s.length) && (decide (s.length ≤ 20) && decide (s.count 46 ≤ 1)))
theorem byte46 (c : UInt8) : ((c.toNat : Int) == 46) = (c == 46) :=
  of_decide_eq_true (u8_all (P := fun c => decide (((c.toNat : Int) == 46) = (c == 46))) (by decide +kernel) c)
theorem dig46 : digitB 46 = false := by decide
theorem num_loop (s : List UInt8) (hb : s.length ≤ 1073741824) : ∀ (k i p : Nat), s.length - i < k → i ≤ s.length → p ≤ i →
    m_r09_Number_l1 s k (p : Int) (i : Int) = some (if okL s.length i (s.drop i) then .go ((p + (s.drop i).count 46 : Nat) : Int) else .ret false)
  | 0, _, _, h, _, _ => by omega
  | k + 1, i, p, hk, hi, hp => by
    unfold m_r09_Number_l1
    by_cases h : i < s.length
    · rw [dec_t (Int.ofNat_lt.2 h), cond_true, at_get h, List.drop_eq_getElem_cons h]
      generalize s[i] = c
      simp only [Option.bind_some, byte46, byte_digit2, okL, List.count_cons]
      rw [wi_succ (by omega), wi_succ (by omega), wrap64_in (by omega) (by omega)]
      have d1 : decide ((0 : Int) < (i : Int)) = decide (0 < i) := cast_lt 0 i
      have d2 : decide ((i : Int) < (s.length : Int) - 1) = decide (i + 1 < s.length) := by
        by_cases h : i + 1 < s.length
        · rw [dec_t h, dec_t (by omega)]
        · rw [dec_f h, dec_f (by omega)]
      rw [d1, d2]
      cases e : c == 46 with
      | true =>
        obtain rfl : c = 46 := eq_of_beq e
        simp only [cond_true, dig46, Bool.true_and, Bool.or_false]
        cases decide (0 < i) with
        | false => rfl
        | true =>
          simp only [cond_true, Option.bind_some, Bool.true_and]
          cases decide (i + 1 < s.length) with
          | false => rfl
          | true =>
            simp only [cond_true, Option.bind_some, Bool.true_and]
            rw [num_loop s hb k (i + 1) (p + 1) (by omega) (by omega) (by omega)]
            simp only [if_true]
            rw [show p + 1 + (s.drop (i + 1)).count 46 = p + ((s.drop (i + 1)).count 46 + 1) by omega]
      | false =>
        simp only [cond_false, Option.bind_some, Bool.false_and, Bool.false_or]
        cases digitB c with
        | false => rfl
        | true =>
          simp only [Bool.not_true, cond_false, Option.bind_some, Bool.true_and]
          rw [num_loop s hb k (i + 1) p (by omega) (by omega) (by omega)]
          simp
    · rw [dec_f (by omega), cond_false]
      obtain rfl : i = s.length := by omega
      simp [okL]
theorem r09_Number_eq (n : Nat) (s : List UInt8) (h : s.length < n) (hb : s.length ≤ 1073741824) : m_r09_Number n s = some (numB s) := by
  have := num_loop s hb n 0 0 (by omega) (by omega) (by omega)
  rw [show ((0 : Nat) : Int) = 0 from rfl, List.drop_zero] at this
  rw [m_r09_Number, this]
  unfold numB
  have e0 := cast_lt 0 s.length
  have e20 := cast_le s.length 20
  have e1 := cast_le (s.count 46) 1
  rw [show ((0 : Nat) : Int) = 0 from rfl] at e0
  rw [show ((20 : Nat) : Int) = 20 from rfl] at e20
  rw [show ((1 : Nat) : Int) = 1 from rfl] at e1
  cases okL s.length 0 s with
  | false => rfl
  | true =>
    simp only [if_true, Option.bind_some, e0, e20, Nat.zero_add, e1]
    cases decide (0 < s.length) <;> cases decide (s.length ≤ 20) <;> rfl
theorem cut_cases : ∀ s : List UInt8, (s.count 46 = 0 ∧ Lib.indexByte s 46 = -1) ∨ ∃ a b, s = a ++ 46 :: b ∧ a.count 46 = 0 ∧ Lib.indexByte s 46 = (a.length : Int)
  | [] => .inl ⟨rfl, rfl⟩
  | c :: s => by
    by_cases h : c = 46
    · subst h
      exact .inr ⟨[], s, rfl, rfl, by simp [Lib.indexByte]⟩
    · have hc : (c == 46) = false := by simpa using h
      rcases cut_cases s with ⟨h1, h2⟩ | ⟨a, b, rfl, h1, h2⟩
      · exact .inl ⟨by rw [List.count_cons, h1, hc]; rfl, by simp [Lib.indexByte, hc, h2]⟩
      · refine .inr ⟨c :: a, b, rfl, by rw [List.count_cons, h1, hc]; rfl, ?_⟩
        have h3 : ((a.length : Int) == -1) = false := by
          cases e : ((a.length : Int) == -1) with
          | false => rfl
          | true => have := eq_of_beq e; omega
        simp [Lib.indexByte, hc, h2, h3]
theorem okL_plain (L : Nat) : ∀ (i : Nat) (a : List UInt8), a.count 46 = 0 → okL L i a = a.all digitB
  | _, [], _ => rfl
  | i, c :: a, h => by
    have hc : (c == 46) = false := by
      cases e : c == 46 with
      | false => rfl
      | true => rw [List.count_cons, e] at h; simp at h
    rw [List.count_cons, hc] at h
    rw [okL, hc, okL_plain L (i + 1) a (by simpa using h)]
    simp
theorem okL_append (L : Nat) : ∀ (i : Nat) (a b : List UInt8), okL L i (a ++ b) = (okL L i a && okL L (i + a.length) b)
  | _, [], b => by simp [okL]
  | i, c :: a, b => by
    simp only [List.cons_append, okL, okL_append L (i + 1) a b, List.length_cons, Bool.and_assoc, show i + 1 + a.length = i + (a.length + 1) by omega]
theorem dig_no46 : ∀ a : List UInt8, a.all digitB = true → a.count 46 = 0
  | [], _ => rfl
  | c :: a, h => by
    simp only [List.all_cons, Bool.and_eq_true] at h
    have hc : (c == 46) = false := by
      cases e : c == 46 with
      | false => rfl
      | true => obtain rfl : c = 46 := eq_of_beq e; simp [dig46] at h
    rw [List.count_cons, hc, dig_no46 a h.2]; rfl
theorem num_cut (a b : List UInt8) (ha : a.count 46 = 0) : numB (a ++ 46 :: b) = (decide ((a ++ 46 :: b).length ≤ 20) && ((a.all digitB && !(a == [])) && (b.all digitB && !(b == [])))) := by
  unfold numB
  have hl : (a ++ 46 :: b).length = a.length + (b.length + 1) := by simp
  rw [okL_append, okL_plain _ _ a ha, hl]
  simp only [okL, dig46, Bool.or_false, List.count_append, List.count_cons, ha, beq_self_eq_true, Bool.true_and, if_true, Nat.zero_add]
  have e1 : decide (0 < a.length) = !(a == []) := by cases a <;> rfl
  have e2 : decide (a.length + 1 < a.length + (b.length + 1)) = !(b == []) := by
    cases b with
    | nil => simp
    | cons c b => simp
  have e3 : decide (0 < a.length + (b.length + 1)) = true := dec_t (by omega)
  rw [e1, e2, e3]
  cases hb : b.all digitB with
  | true =>
    rw [okL_plain _ _ b (dig_no46 b hb), hb, dig_no46 b hb]
    cases a.all digitB <;> cases a == [] <;> cases b == [] <;> cases decide (a.length + (b.length + 1) ≤ 20) <;> rfl
  | false =>
    cases hc : decide (b.count 46 + 1 ≤ 1) with
    | true =>
      have : b.count 46 = 0 := by have := of_decide_eq_true hc; omega
      rw [okL_plain _ _ b this, hb]
      cases a.all digitB <;> cases a == [] <;> cases b == [] <;> cases decide (a.length + (b.length + 1) ≤ 20) <;> rfl
    | false =>
      generalize okL _ _ b = z
      cases z <;> cases a.all digitB <;> cases a == [] <;> cases b == [] <;> cases decide (a.length + (b.length + 1) ≤ 20) <;> rfl
theorem num_plain (s : List UInt8) (h : s.count 46 = 0) : numB s = (decide (s.length ≤ 20) && (s.all digitB && !(s == []))) := by
  unfold numB
  rw [okL_plain _ _ s h, h]
  have e1 : decide (0 < s.length) = !(s == []) := by cases s <;> rfl
  rw [e1]
  cases s.all digitB <;> cases s == [] <;> cases decide (s.length ≤ 20) <;> rfl
theorem node_Number_eq (n : Nat) (s : List UInt8) (h : s.length < n) (hb : s.length ≤ 1073741824) : m_node_Number n s = some (numB s) := by
  have e20 := cast_le s.length 20
  rw [show ((20 : Nat) : Int) = 20 from rfl] at e20
  have hi : m_stringslite_Index s [46] = some (Lib.indexByte s 46) := rfl
  rcases cut_cases s with ⟨h1, h2⟩ | ⟨a, b, rfl, h1, h2⟩
  · rw [num_plain s h1]
    simp only [m_node_Number, m_strings_Cut, m_stringslite_Cut, hi, h2, Option.bind_some, show decide ((0 : Int) ≤ -1) = false from rfl, cond_false, e20, node_digits_eq n s h hb]
    cases decide (s.length ≤ 20) <;> cases (s.all digitB && !(s == [])) <;> rfl
  · have hl : (a ++ 46 :: b).length = a.length + (b.length + 1) := by simp
    rw [num_cut a b h1]
    have w1 : IntKind.i64.wrap ((a.length : Int) + (([46] : List UInt8).length : Int)) = ((a.length + 1 : Nat) : Int) := wi_succ (by omega)
    have t1 : ((a ++ 46 :: b).take ((a.length : Int)).toNat).drop (0 : Int).toNat = a := by simp
    have t2 : ((a ++ 46 :: b).take (((a ++ 46 :: b).length : Int)).toNat).drop (((a.length + 1 : Nat) : Int)).toNat = b := by
      rw [Int.toNat_natCast, Int.toNat_natCast, List.take_length, List.drop_append]
      simp
    simp only [m_node_Number, m_strings_Cut, m_stringslite_Cut, hi, h2, Option.bind_some, w1]
    rw [dec_t (by omega), cond_true, req_t (by omega), req_t (by omega), t1, t2]
    simp only [Option.bind_some, e20, node_digits_eq n a (by omega) (by omega), node_digits_eq n b (by omega) (by omega)]
    cases decide ((a ++ 46 :: b).length ≤ 20) <;> cases (a.all digitB && !(a == [])) <;> cases (b.all digitB && !(b == [])) <;> rfl
end Go.Proofs.Ytfbggpmdmhgpfaa
namespace Go.Proofs.Ytfbggpmdmhgpfaa
open Go.Abs
def Nd.kind : Nd → Int | .mk k _ _ _ => k
def textB (k : Int) (t : List UInt8) : Bool :=
  if k = 2 then symB t else if k = 3 then numB t else if k = 4 then (decide (t.length ≤ 200) && t.all printB) else if k = 10 then acL.any (fun e => e == t) else if k = 11 then fenB t else t == []
def kidsB (k c : Int) (m : Int) : Bool :=
  if k = 12 then decide (1 ≤ c) && (decide (c ≤ 16) && (decide (1 ≤ m) && (decide (m ≤ 256) && (m.tmod c == 0))))
  else (c == 0) && (if k = 1 then decide (m ≤ 200) else if k = 2 then m == 0 else if k = 3 then m == 0 else if k = 4 then m == 0 else if k = 5 then m == 2 else if k = 6 then m == 2 else if k = 7 then m == 2 else if k = 8 then m == 2
    else if k = 9 then m == 3 else if k = 10 then m == 1 else if k = 11 then m == 1 else false)
mutual
def formB : Nd → Bool
  | .mk k t c ks => (textB k t && kidsB k c (ks.length : Int)) && formsB k ks
def formsB : Int → List Nd → Bool
  | _, [] => true
  | k, v :: vs => (!((v.kind == 1) == (k == 1)) && formB v) && formsB k vs
end
mutual
def Nd.dep : Nd → Nat
  | .mk _ _ _ ks => Nd.deps ks + 1
def Nd.deps : List Nd → Nat
  | [] => 0
  | v :: vs => Nat.max v.dep (Nd.deps vs)
end
theorem forms_drop {k : Int} {a : List Nd} {i : Nat} (h : i < a.length) : formsB k (a.drop i) = ((!((a[i].kind == 1) == (k == 1)) && formB a[i]) && formsB k (a.drop (i + 1))) := by
  rw [List.drop_eq_getElem_cons h]; rfl
theorem deps_drop {a : List Nd} {i : Nat} (h : i < a.length) : Nd.deps (a.drop i) = Nat.max (a[i]).dep (Nd.deps (a.drop (i + 1))) := by
  rw [List.drop_eq_getElem_cons h]; rfl
mutual
theorem Nd.dep_cnt : ∀ v : Nd, v.dep ≤ v.cnt
  | .mk _ _ _ ks => by have := Nd.deps_cnts ks; simp only [Nd.dep, Nd.cnt]; omega
theorem Nd.deps_cnts : ∀ vs : List Nd, Nd.deps vs ≤ Nd.cnts vs
  | [] => Nat.le_refl _
  | v :: vs => by
    have := Nd.dep_cnt v; have := Nd.deps_cnts vs
    simp only [Nd.deps, Nd.cnts]
    exact Nat.max_le.2 ⟨by omega, by omega⟩
end
mutual
theorem Nd.cnt_w : ∀ v : Nd, v.cnt ≤ v.w
  | .mk _ t _ ks => by have := Nd.cnts_ws ks; simp only [Nd.cnt, Nd.w]; omega
theorem Nd.cnts_ws : ∀ vs : List Nd, Nd.cnts vs ≤ Nd.ws vs
  | [] => Nat.le_refl _
  | v :: vs => by have := Nd.cnt_w v; have := Nd.cnts_ws vs; simp only [Nd.cnts, Nd.ws]; omega
end
theorem ne_beq {a b : Int} (h : a ≠ b) : (a == b) = false := by
  cases e : (a == b) with
  | false => rfl
  | true => exact absurd (eq_of_beq e) h
theorem r09_text_eq (n : Nat) (k : Int) (t : List UInt8) (c : Int) (ks : List Nd) (h : t.length + 40 < n) (hb : t.length ≤ 1073741824) : m_r09_text n (.mk k t c ks) = some (textB k t) := by
  have e200 := cast_le t.length 200
  rw [show ((200 : Nat) : Int) = 200 from rfl] at e200
  have ea : m_r09_In n acL t = some (acL.any fun e => e == t) := r09_In_eq n acL t (by simp only [acL, List.length_cons, List.length_nil]; omega) (by simp [acL])
  have a1 : m_r09_Accents = some acL := rfl
  unfold m_r09_text textB
  dsimp only
  by_cases h2 : k = 2
  · subst h2; simp only [beq_self_eq_true, cond_true, r09_Symbol_eq n t h hb, Option.bind_some, if_true]
  rw [ne_beq h2, if_neg h2, cond_false]
  by_cases h3 : k = 3
  · subst h3; simp only [beq_self_eq_true, cond_true, r09_Number_eq n t (by omega) hb, Option.bind_some, if_true]
  rw [ne_beq h3, if_neg h3, cond_false]
  by_cases h4 : k = 4
  · subst h4; simp only [beq_self_eq_true, cond_true, r09_Printable_eq n t (by omega) hb, Option.bind_some, if_true, e200]
    cases decide (t.length ≤ 200) <;> rfl
  rw [ne_beq h4, if_neg h4, cond_false]
  by_cases h10 : k = 10
  · subst h10; simp only [beq_self_eq_true, cond_true, a1, ea, Option.bind_some, if_true]
  rw [ne_beq h10, if_neg h10, cond_false]
  by_cases h11 : k = 11
  · subst h11; rw [if_pos rfl, beq_self_eq_true, cond_true, r09_fence_eq n t (by omega)]; rfl
  rw [ne_beq h11, if_neg h11, cond_false]
theorem kinds (k : Int) : k = 1 ∨ k = 2 ∨ k = 3 ∨ k = 4 ∨ k = 5 ∨ k = 6 ∨ k = 7 ∨ k = 8 ∨ k = 9 ∨ k = 10 ∨ k = 11 ∨ k = 12 ∨ (k < 1 ∨ 12 < k) := by omega
theorem r09_kids_eq (k : Int) (t : List UInt8) (c : Int) (ks : List Nd) : m_r09_kids (.mk k t c ks) = some (kidsB k c (ks.length : Int)) := by
  unfold m_r09_kids
  dsimp only
  generalize (ks.length : Int) = m
  rcases kinds k with rfl | rfl | rfl | rfl | rfl | rfl | rfl | rfl | rfl | rfl | rfl | rfl | h
  · simp only [bne, kidsB]; generalize (c == 0) = z; generalize decide (m ≤ 200) = y; cases z <;> rfl
  · simp only [bne, kidsB]; generalize (c == 0) = z; generalize (m == 0) = y; cases z <;> rfl
  · simp only [bne, kidsB]; generalize (c == 0) = z; generalize (m == 0) = y; cases z <;> rfl
  · simp only [bne, kidsB]; generalize (c == 0) = z; generalize (m == 0) = y; cases z <;> rfl
  · simp only [bne, kidsB]; generalize (c == 0) = z; generalize (m == 2) = y; cases z <;> rfl
  · simp only [bne, kidsB]; generalize (c == 0) = z; generalize (m == 2) = y; cases z <;> rfl
  · simp only [bne, kidsB]; generalize (c == 0) = z; generalize (m == 2) = y; cases z <;> rfl
  · simp only [bne, kidsB]; generalize (c == 0) = z; generalize (m == 2) = y; cases z <;> rfl
  · simp only [bne, kidsB]; generalize (c == 0) = z; generalize (m == 3) = y; cases z <;> rfl
  · simp only [bne, kidsB]; generalize (c == 0) = z; generalize (m == 1) = y; cases z <;> rfl
  · simp only [bne, kidsB]; generalize (c == 0) = z; generalize (m == 1) = y; cases z <;> rfl
  · unfold kidsB
    rw [if_pos rfl, beq_self_eq_true, cond_true]
    by_cases h1 : 1 ≤ c
    · rw [dec_t h1, req_t (by omega)]
      generalize (m.tmod c == 0) = y
      cases decide (c ≤ 16) <;> cases decide (1 ≤ m) <;> cases decide (m ≤ 256) <;> rfl
    · rw [dec_f h1]; rfl
  · have e : ∀ i : Int, 1 ≤ i → i ≤ 12 → (k == i) = false := fun i h1 h2 => ne_beq (by omega)
    have f : ∀ i : Int, 1 ≤ i → i ≤ 12 → k ≠ i := fun i h1 h2 => by omega
    unfold kidsB
    rw [if_neg (f 12 (by decide) (by decide)), if_neg (f 1 (by decide) (by decide)), if_neg (f 2 (by decide) (by decide)), if_neg (f 3 (by decide) (by decide)), if_neg (f 4 (by decide) (by decide)), if_neg (f 5 (by decide) (by decide)),
      if_neg (f 6 (by decide) (by decide)), if_neg (f 7 (by decide) (by decide)), if_neg (f 8 (by decide) (by decide)), if_neg (f 9 (by decide) (by decide)), if_neg (f 10 (by decide) (by decide)), if_neg (f 11 (by decide) (by decide))]
    rw [e 12 (by decide) (by decide), e 1 (by decide) (by decide), e 2 (by decide) (by decide), e 3 (by decide) (by decide), e 4 (by decide) (by decide), e 5 (by decide) (by decide),
      e 6 (by decide) (by decide), e 7 (by decide) (by decide), e 8 (by decide) (by decide), e 9 (by decide) (by decide), e 10 (by decide) (by decide), e 11 (by decide) (by decide)]
    cases (c == 0) <;> cases (c != 0) <;> rfl
theorem own_eq (n : Nat) (x : Int) (k : Int) (t : List UInt8) (c : Int) (ks : List Nd) (h : t.length + 40 < n) (hb : t.length ≤ 1073741824) :
    m_node_checker_own n ((), x) (.mk k t c ks) = some (textB k t && kidsB k c (ks.length : Int), ((), x)) := by
  have e200 := cast_le t.length 200
  rw [show ((200 : Nat) : Int) = 200 from rfl] at e200
  unfold m_node_checker_own
  dsimp only
  generalize (ks.length : Int) = m
  have em : m_node_empty t = some (t == []) := rfl
  rcases kinds k with rfl | rfl | rfl | rfl | rfl | rfl | rfl | rfl | rfl | rfl | rfl | rfl | h
  · simp only [em]
    show _ = some ((t == []) && ((c == 0) && decide (m ≤ 200)), ((), x))
    cases t == [] <;> cases c == 0 <;> rfl
  · simp only [node_Symbol_eq n t h hb]
    show _ = some (symB t && ((c == 0) && (m == 0)), ((), x))
    cases symB t <;> cases c == 0 <;> rfl
  · simp only [node_Number_eq n t (by omega) hb]
    show _ = some (numB t && ((c == 0) && (m == 0)), ((), x))
    cases numB t <;> cases c == 0 <;> rfl
  · simp only [node_plain_eq n t (by omega) hb, e200]
    show _ = some ((decide (t.length ≤ 200) && t.all printB) && ((c == 0) && (m == 0)), ((), x))
    cases decide (t.length ≤ 200) <;> cases t.all printB <;> cases c == 0 <;> rfl
  · simp only [em]
    show _ = some ((t == []) && ((c == 0) && (m == 2)), ((), x))
    cases t == [] <;> cases c == 0 <;> rfl
  · simp only [em]
    show _ = some ((t == []) && ((c == 0) && (m == 2)), ((), x))
    cases t == [] <;> cases c == 0 <;> rfl
  · simp only [em]
    show _ = some ((t == []) && ((c == 0) && (m == 2)), ((), x))
    cases t == [] <;> cases c == 0 <;> rfl
  · simp only [em]
    show _ = some ((t == []) && ((c == 0) && (m == 2)), ((), x))
    cases t == [] <;> cases c == 0 <;> rfl
  · simp only [em]
    show _ = some ((t == []) && ((c == 0) && (m == 3)), ((), x))
    cases t == [] <;> cases c == 0 <;> rfl
  · simp only [node_accent_eq]
    show _ = some ((acL.any fun e => e == t) && ((c == 0) && (m == 1)), ((), x))
    cases (acL.any fun e => e == t) <;> cases c == 0 <;> rfl
  · simp only [node_fence_eq]
    show _ = some (fenB t && ((c == 0) && (m == 1)), ((), x))
    cases fenB t <;> cases c == 0 <;> rfl
  · simp only [em]
    show _ = some ((t == []) && (decide (1 ≤ c) && (decide (c ≤ 16) && (decide (1 ≤ m) && (decide (m ≤ 256) && (m.tmod c == 0))))), ((), x))
    by_cases h1 : 1 ≤ c
    · rw [dec_t h1, req_t (by omega)]
      generalize (m.tmod c == 0) = y
      cases t == [] <;> cases decide (c ≤ 16) <;> cases decide (1 ≤ m) <;> cases decide (m ≤ 256) <;> rfl
    · rw [dec_f h1]
      cases t == [] <;> rfl
  · have f : ∀ i : Int, 1 ≤ i → i ≤ 12 → k ≠ i := fun i h1 h2 => by omega
    have hk : kidsB k c m = false := by
      unfold kidsB
      rw [if_neg (f 12 (by decide) (by decide)), if_neg (f 1 (by decide) (by decide)), if_neg (f 2 (by decide) (by decide)), if_neg (f 3 (by decide) (by decide)), if_neg (f 4 (by decide) (by decide)), if_neg (f 5 (by decide) (by decide)),
        if_neg (f 6 (by decide) (by decide)), if_neg (f 7 (by decide) (by decide)), if_neg (f 8 (by decide) (by decide)), if_neg (f 9 (by decide) (by decide)), if_neg (f 10 (by decide) (by decide)), if_neg (f 11 (by decide) (by decide))]
      exact Bool.and_false _
    rw [hk, Bool.and_false]
    by_cases h1 : k < 1
    · rw [dec_t h1]; rfl
    · rw [dec_f h1, dec_t (show 12 < k by omega)]; rfl
theorem r09_form_loop {F : Nd → Option Bool} {k : Int} {ks : List Nd} (hF : ∀ v ∈ ks, F v = some (formB v)) (hl : ks.length ≤ 1073741824) :
    ∀ (q i : Nat), ks.length - i < q → i ≤ ks.length → m_r09_form_l1 F k ks q (i : Int) = some (if formsB k (ks.drop i) then .go () else .ret false)
  | 0, _, h, _ => by omega
  | q + 1, i, hq, hi => by
    unfold m_r09_form_l1
    by_cases h : i < ks.length
    · rw [dec_t (Int.ofNat_lt.2 h), cond_true, at_get h]
      have hf := hF _ (List.getElem_mem h)
      have g1 := forms_drop (k := k) h
      rcases e : ks[i] with ⟨a, b, c, d⟩
      rw [e] at hf g1
      simp only [Nd.kind] at g1
      generalize formsB k (ks.drop i) = g at g1 ⊢
      subst g1
      simp only [Option.bind_some, hf]
      rw [wi_succ (by omega), r09_form_loop hF hl q (i + 1) (by omega) (by omega)]
      cases ((a == 1) == (k == 1)) <;> cases formB (Nd.mk a b c d) <;> simp
    · rw [dec_f (by omega), cond_false]
      obtain rfl : i = ks.length := by omega
      simp [formsB]
theorem r09_form_eq : ∀ (n : Nat) (t : Nd), t.w + 45 < n → t.w ≤ 1073741824 → m_r09_form n t = some (formB t)
  | 0, _, h, _ => by omega
  | n + 1, .mk k t c ks, h, hb => by
    simp only [Nd.w] at h hb
    have hl := Nd.ws_len ks
    unfold m_r09_form
    rw [r09_text_eq n k t c ks (by omega) (by omega), r09_kids_eq]
    have := r09_form_loop (F := m_r09_form n) (k := k) (ks := ks) (fun v hv => r09_form_eq n v (by have := Nd.w_mem hv; omega) (by have := Nd.w_mem hv; omega)) (by omega) n 0 (by omega) (by omega)
    rw [show ((0 : Nat) : Int) = 0 from rfl, List.drop_zero] at this
    simp only [Option.bind_some, this, formB]
    cases textB k t <;> cases kidsB k c (ks.length : Int) <;> cases formsB k ks <;> rfl
theorem r09_Depth_loop {F : Nd → Option Int} {ks : List Nd} (hF : ∀ v ∈ ks, F v = some (v.dep : Int)) (hl : ks.length ≤ 1073741824) :
    ∀ (q i o : Nat), ks.length - i < q → i ≤ ks.length → m_r09_Depth_l1 F ks q (o : Int) (i : Int) = some ((Nat.max o (Nd.deps (ks.drop i)) : Nat) : Int)
  | 0, _, _, h, _ => by omega
  | q + 1, i, o, hq, hi => by
    unfold m_r09_Depth_l1
    by_cases h : i < ks.length
    · rw [dec_t (Int.ofNat_lt.2 h), cond_true, at_get h, deps_drop h]
      have hf := hF _ (List.getElem_mem h)
      rcases e : ks[i] with ⟨a, b, c, d⟩
      rw [e] at hf
      simp only [Option.bind_some, hf]
      have hm : (if (o : Int) < ((Nd.mk a b c d).dep : Int) then ((Nd.mk a b c d).dep : Int) else (o : Int)) = ((Nat.max o (Nd.mk a b c d).dep : Nat) : Int) := by
        by_cases g : (o : Int) < ((Nd.mk a b c d).dep : Int)
        · rw [if_pos g]; congr 1; exact (Nat.max_eq_right (by omega)).symm
        · rw [if_neg g]; congr 1; exact (Nat.max_eq_left (by omega)).symm
      rw [wi_succ (by omega), hm, r09_Depth_loop hF hl q (i + 1) _ (by omega) (by omega)]
      congr 2
      exact Nat.max_assoc _ _ _
    · rw [dec_f (by omega), cond_false]
      obtain rfl : i = ks.length := by omega
      rw [List.drop_length]
      congr 2
      exact (Nat.max_eq_left (Nat.zero_le _)).symm
theorem r09_Depth_eq : ∀ (n : Nat) (t : Nd), t.cnt < n → t.cnt ≤ 67108864 → m_r09_Depth n t = some (t.dep : Int)
  | 0, _, h, _ => by omega
  | n + 1, .mk k t c ks, h, hb => by
    simp only [Nd.cnt] at h hb
    have hl := Nd.cnts_len ks
    have hd := Nd.deps_cnts ks
    unfold m_r09_Depth
    have := r09_Depth_loop (F := m_r09_Depth n) (ks := ks) (fun v hv => r09_Depth_eq n v (by have := Nd.cnts_mem hv; omega) (by have := Nd.cnts_mem hv; omega)) (by omega) n 0 0 (by omega) (by omega)
    rw [show ((0 : Nat) : Int) = 0 from rfl, List.drop_zero] at this
    rw [this, Option.bind_some, show Nat.max 0 (Nd.deps ks) = Nd.deps ks from Nat.max_eq_right (Nat.zero_le _), wi_succ (by omega)]
    rfl
def validB (t : Nd) : Bool := (t.kind == 1) && (formB t && (decide (t.cnt ≤ 1000) && decide (t.dep ≤ 24)))
theorem r09_Valid_eq (n : Nat) (t : Nd) (h : t.w + 45 < n) (hb : t.w ≤ 67108864) : m_r09_Valid n t = some (validB t) := by
  have hc := Nd.cnt_w t
  have e1 := r09_form_eq n t h (by omega)
  have e2 := r09_Count_eq n t (by omega) (by omega)
  have e3 := r09_Depth_eq n t (by omega) (by omega)
  have e4 := cast_le t.cnt 1000
  rw [show ((1000 : Nat) : Int) = 1000 from rfl] at e4
  have e5 := cast_le t.dep 24
  rw [show ((24 : Nat) : Int) = 24 from rfl] at e5
  obtain ⟨k, s, c, ks⟩ := t
  unfold m_r09_Valid validB
  simp only [e1, e2, e3, Option.bind_some, e4, e5, Nd.kind]
  cases k == 1 <;> cases formB (.mk k s c ks) <;> cases decide ((Nd.mk k s c ks).cnt ≤ 1000) <;> rfl
abbrev okN (t : Nd) (x d : Nat) : Prop := formB t = true ∧ x + t.cnt ≤ 1000 ∧ d + t.dep ≤ 25
abbrev okNs (k : Int) (vs : List Nd) (x d : Nat) : Prop := formsB k vs = true ∧ x + Nd.cnts vs ≤ 1000 ∧ d + Nd.deps vs ≤ 24
theorem check_loop {F : (Unit × Int) → Nd → Int → Option (Bool × (Unit × Int))} {k : Int} {ks : List Nd} {d : Nat} (hd : d ≤ 24)
    (hF : ∀ v ∈ ks, ∀ x : Nat, x ≤ 1000 → ∃ y, F ((), (x : Int)) v ((d + 1 : Nat) : Int) = some (decide (okN v x (d + 1)), ((), y)) ∧ (okN v x (d + 1) → y = ((x + v.cnt : Nat) : Int))) (hl : ks.length ≤ 1073741824) :
    ∀ (q i x : Nat), ks.length - i < q → i ≤ ks.length → x ≤ 1000 →
      (okNs k (ks.drop i) x d ∧ m_node_checker_node_l1 F k ks (d : Int) q (x : Int) (i : Int) = some (.go ((x + Nd.cnts (ks.drop i) : Nat) : Int))) ∨
      (¬ okNs k (ks.drop i) x d ∧ ∃ z, m_node_checker_node_l1 F k ks (d : Int) q (x : Int) (i : Int) = some (.ret (false, ((), z))))
  | 0, _, _, h, _, _ => by omega
  | q + 1, i, x, hq, hi, hx => by
    unfold m_node_checker_node_l1
    by_cases h : i < ks.length
    · rw [dec_t (Int.ofNat_lt.2 h), cond_true, at_get h]
      obtain ⟨y, hf, hy⟩ := hF _ (List.getElem_mem h) x hx
      have g1 := forms_drop (k := k) h
      have g2 := Nd.cnts_drop h
      have g3 := deps_drop h
      rcases e : ks[i] with ⟨a, b, c, ds⟩
      rw [e] at hf hy g1 g2 g3
      simp only [Option.bind_some]
      rw [wi_succ (by omega), wi_succ (by omega), hf]
      simp only [Option.bind_some]
      have g4 : Nd.deps (ks.drop i) = Nat.max (Nd.mk a b c ds).dep (Nd.deps (ks.drop (i + 1))) := g3
      have g5 : (Nd.mk a b c ds).dep ≤ Nd.deps (ks.drop i) := by rw [g4]; exact Nat.le_max_left _ _
      have g6 : Nd.deps (ks.drop (i + 1)) ≤ Nd.deps (ks.drop i) := by rw [g4]; exact Nat.le_max_right _ _
      rw [show ((k == 1) == (a == 1)) = ((a == 1) == (k == 1)) by cases k == 1 <;> cases a == 1 <;> rfl]
      cases hkk : ((a == 1) == (k == 1)) with
      | true =>
        simp only [cond_true, Option.bind_some]
        refine .inr ⟨fun ⟨h1, _⟩ => ?_, _, rfl⟩
        rw [g1] at h1
        simp [Nd.kind, hkk] at h1
      | false =>
        simp only [cond_false, Option.bind_some]
        by_cases hok : okN (Nd.mk a b c ds) x (d + 1)
        · rw [dec_t hok]
          simp only [Bool.not_true, cond_false]
          rw [hy hok]
          have hp := (Nd.mk a b c ds).cnt_pos
          rcases check_loop hd hF hl q (i + 1) (x + (Nd.mk a b c ds).cnt) (by omega) (by omega) hok.2.1 with ⟨hr, hr2⟩ | ⟨hr, z, hr2⟩
          · refine .inl ⟨⟨?_, ?_, ?_⟩, ?_⟩
            · rw [g1, hr.1, hok.1]; simp [Nd.kind, hkk]
            · have := hr.2.1; omega
            · have := hr.2.2
              have := hok.2.2
              have : Nd.deps (ks.drop i) ≤ 24 - d := by rw [g4]; exact Nat.max_le.2 ⟨by omega, by omega⟩
              omega
            · rw [hr2, g2]; congr 3; omega
          · refine .inr ⟨fun ⟨h1, h2, h3⟩ => hr ⟨?_, by omega, by omega⟩, z, hr2⟩
            rw [g1] at h1
            simp only [Bool.and_eq_true] at h1
            exact h1.2
        · rw [dec_f hok]
          simp only [Bool.not_false, cond_true]
          refine .inr ⟨fun ⟨h1, h2, h3⟩ => hok ⟨?_, by omega, by omega⟩, y, rfl⟩
          rw [g1] at h1
          simp only [Bool.and_eq_true] at h1
          exact h1.1.2
    · rw [dec_f (by omega), cond_false]
      obtain rfl : i = ks.length := by omega
      rw [List.drop_length]
      exact .inl ⟨⟨rfl, hx, hd⟩, rfl⟩
theorem check_eq : ∀ (n : Nat) (t : Nd) (x d : Nat), t.w + 45 < n → t.w ≤ 67108864 → x ≤ 1000 → d ≤ 25 →
    ∃ y, m_node_checker_node n ((), (x : Int)) t (d : Int) = some (decide (okN t x d), ((), y)) ∧ (okN t x d → y = ((x + t.cnt : Nat) : Int))
  | 0, _, _, _, h, _, _, _ => by omega
  | n + 1, .mk k t c ks, x, d, h, hb, hx, hd => by
    simp only [Nd.w] at h hb
    have hl := Nd.ws_len ks
    unfold m_node_checker_node
    rw [wi_succ (by omega)]
    by_cases h1 : 1000 < ((x + 1 : Nat) : Int)
    · rw [dec_t h1]
      simp only [cond_true, Option.bind_some]
      have hn : ¬ okN (.mk k t c ks) x d := fun ⟨_, h2, _⟩ => by simp only [Nd.cnt] at h2; omega
      exact ⟨_, by rw [dec_f hn], fun h => absurd h hn⟩
    · rw [dec_f h1, cond_false]
      by_cases h2 : 24 < (d : Int)
      · rw [dec_t h2]
        simp only [cond_true, Option.bind_some]
        have hn : ¬ okN (.mk k t c ks) x d := fun ⟨_, _, h2⟩ => by simp only [Nd.dep] at h2; omega
        exact ⟨_, by rw [dec_f hn], fun h => absurd h hn⟩
      · rw [dec_f h2, cond_false, own_eq n _ k t c ks (by omega) (by omega)]
        simp only [Option.bind_some]
        cases ho : (textB k t && kidsB k c (ks.length : Int)) with
        | false =>
          simp only [Bool.not_false, cond_true]
          have hn : ¬ okN (.mk k t c ks) x d := fun ⟨h1, _⟩ => by rw [formB, ho] at h1; cases h1
          exact ⟨_, by rw [dec_f hn], fun h => absurd h hn⟩
        | true =>
          simp only [Bool.not_true, cond_false]
          have := check_loop (F := m_node_checker_node n) (k := k) (ks := ks) (d := d) (by omega) (fun v hv z hz => check_eq n v z (d + 1) (by have := Nd.w_mem hv; omega) (by have := Nd.w_mem hv; omega) hz (by omega)) (by omega) n 0 (x + 1) (by omega) (by omega) (by omega)
          rw [show ((0 : Nat) : Int) = 0 from rfl, List.drop_zero] at this
          rcases this with ⟨hr, hr2⟩ | ⟨hr, z, hr2⟩
          · have hy : okN (.mk k t c ks) x d := ⟨by rw [formB, ho, hr.1]; rfl, by have := hr.2.1; simp only [Nd.cnt]; omega, by have := hr.2.2; simp only [Nd.dep]; omega⟩
            rw [hr2]
            exact ⟨_, by rw [dec_t hy]; rfl, fun _ => by simp only [Nd.cnt]; omega⟩
          · have hn : ¬ okN (.mk k t c ks) x d := fun ⟨g1, g2, g3⟩ => hr ⟨by rw [formB, ho] at g1; exact g1, by simp only [Nd.cnt] at g2; omega, by simp only [Nd.dep] at g3; omega⟩
            rw [hr2]
            exact ⟨_, by rw [dec_f hn]; rfl, fun h => absurd h hn⟩
theorem node_Valid_eq (n : Nat) (t : Nd) (h : t.w + 45 < n) (hb : t.w ≤ 67108864) : m_node_Valid n t = some (validB t) := by
  obtain ⟨y, h1, _⟩ := check_eq n t 0 1 h hb (by omega) (by omega)
  rw [show ((0 : Nat) : Int) = 0 from rfl, show ((1 : Nat) : Int) = 1 from rfl] at h1
  obtain ⟨k, s, c, ks⟩ := t
  unfold m_node_Valid validB
  have hk : m_node_kinds = some () := rfl
  simp only [hk, h1, Option.bind_some, Nd.kind]
  cases k == 1 with
  | false => rfl
  | true =>
    simp only [cond_true, Option.bind_some, Bool.true_and, Option.some.injEq, okN]
    cases formB (.mk k s c ks) with
    | false => simp
    | true =>
      by_cases g1 : (Nd.mk k s c ks).cnt ≤ 1000
      · by_cases g2 : (Nd.mk k s c ks).dep ≤ 24
        · rw [dec_t g1, dec_t g2, dec_t ⟨rfl, by omega, by omega⟩]; rfl
        · rw [dec_t g1, dec_f g2, dec_f (fun h => g2 (by omega))]; rfl
      · rw [dec_f g1, dec_f (fun h => g1 (by omega))]; rfl
end Go.Proofs.Ytfbggpmdmhgpfaa
namespace Go.Proofs.Ytfbggpmdmhgpfaa
open Go.Abs
def Nd.text : Nd → List UInt8 | .mk _ t _ _ => t
def Nd.cols : Nd → Int | .mk _ _ c _ => c
theorem Nd.cnt_kids : ∀ x : Nd, x.cnt = Nd.cnts x.kids + 1
  | .mk _ _ _ _ => rfl
def alikeB (x y : Nd) : Bool := (x.kind == y.kind) && (((x.kids.length : Int) == (y.kids.length : Int)) && (x.cols == y.cols))
def rowD (P : Nd → Nd → Nat) (x : Nd) (f : List Nd → Nat) : List Nd → Nat
  | [] => x.cnt + f []
  | y :: ys => if alikeB x y then min (min (x.cnt + f (y :: ys)) (y.cnt + rowD P x f ys)) (P x y + f ys) else min (x.cnt + f (y :: ys)) (y.cnt + rowD P x f ys)
def TD (P : Nd → Nd → Nat) : List Nd → List Nd → Nat
  | [] => Nd.cnts
  | x :: xs => rowD P x (TD P xs)
def sumD (f : List Nd → List Nd → Nat) : List Nd → List Nd → Nat
  | u :: us, v :: vs => f u.kids v.kids + sumD f us vs
  | _, _ => 0
def txt (x y : Nd) : Nat := bif x.text == y.text then 0 else 1
def PD : Nat → Nd → Nd → Nat
  | 0, _, _ => 0
  | n + 1, x, y => txt x y + sumD (TD (PD n)) x.kids y.kids
def D (x y : Nd) : Nat := PD x.cnt x y
end Go.Proofs.Ytfbggpmdmhgpfaa
namespace Go.Proofs.Ytfbggpmdmhgpfaa
open Go.Abs
def hd (l : List UInt8) (s : List UInt8) : Prop := ∀ b r, l = b :: r → b ∈ s
end Go.Proofs.Ytfbggpmdmhgpfaa
namespace Go.Proofs.Ytfbggpmdmhgpfaa
open Go.Abs
theorem forms_mem {k : Int} : ∀ {a : List Nd} {v : Nd}, formsB k a = true → v ∈ a → formB v = true ∧ ((v.kind == 1) == (k == 1)) = false
  | u :: a, v, h, hm => by
    simp only [formsB, Bool.and_eq_true, Bool.not_eq_true'] at h
    rcases List.mem_cons.1 hm with rfl | hm
    · exact ⟨h.1.2, h.1.1⟩
    · exact forms_mem h.2 hm
theorem form_row {u : Nd} (h : formB u = true) (hk : u.kind = 1) : u = .mk 1 [] 0 u.kids ∧ formsB 1 u.kids = true := by
  obtain ⟨k, t, c, ks⟩ := u
  simp only [Nd.kind] at hk
  subst hk
  simp only [formB, Bool.and_eq_true] at h
  obtain ⟨⟨h1, h2⟩, h3⟩ := h
  have h1' : (t == []) = true := h1
  have h2' : ((c == 0) && decide ((ks.length : Int) ≤ 200)) = true := h2
  simp only [Bool.and_eq_true] at h2'
  rw [eq_of_beq h1', eq_of_beq h2'.1]
  exact ⟨rfl, h3⟩
theorem same_loop {F : Nd → Nd → Option Bool} {a b : List Nd} (hF : ∀ u ∈ a, ∀ v ∈ b, ∃ y, F u v = some y ∧ (y = true ↔ u = v)) (hl : a.length = b.length) (hb : a.length ≤ 1073741824) :
    ∀ (q i : Nat), a.length - i < q → i ≤ a.length → ∃ y, m_r09_SameItems_l1 F a b q (i : Int) = some (if y then .go () else .ret false) ∧ (y = true ↔ a.drop i = b.drop i)
  | 0, _, h, _ => by omega
  | q + 1, i, hq, hi => by
    unfold m_r09_SameItems_l1
    by_cases h : i < a.length
    · have h' : i < b.length := by omega
      rw [dec_t (Int.ofNat_lt.2 h), cond_true, at_get h, at_get h']
      obtain ⟨y, f1, f2⟩ := hF _ (List.getElem_mem h) _ (List.getElem_mem h')
      have d1 := List.drop_eq_getElem_cons h
      have d2 := List.drop_eq_getElem_cons h'
      rcases e : a[i] with ⟨x1, x2, x3, x4⟩
      rcases e' : b[i] with ⟨y1, y2, y3, y4⟩
      rw [e, e'] at f1 f2
      rw [e] at d1
      rw [e'] at d2
      simp only [Option.bind_some, f1]
      cases y with
      | false =>
        refine ⟨false, rfl, ⟨(fun h => by cases h), fun h => ?_⟩⟩
        rw [d1, d2] at h
        exact f2.2 (List.cons.inj h).1
      | true =>
        simp only [Bool.not_true, cond_false]
        rw [wi_succ (by omega)]
        obtain ⟨z, g1, g2⟩ := same_loop hF hl hb q (i + 1) (by omega) (by omega)
        refine ⟨z, g1, ?_⟩
        rw [d1, d2, g2, f2.1 rfl]
        simp
    · rw [dec_f (by omega), cond_false]
      obtain rfl : i = a.length := by omega
      refine ⟨true, rfl, ?_⟩
      rw [List.drop_length, hl, List.drop_length]
      simp
theorem Equal_eq : ∀ N : Nat, (∀ x y : Nd, 2 * x.cnt < N → x.cnt ≤ 67108864 → ∃ r, m_r09_Equal N x y = some r ∧ (r = true ↔ x = y)) ∧
    (∀ a b : List Nd, 2 * Nd.cnts a + 1 < N → Nd.cnts a ≤ 67108864 → ∃ r, m_r09_SameItems N a b = some r ∧ (r = true ↔ a = b))
  | 0 => ⟨fun _ _ h _ => by omega, fun _ _ h _ => by omega⟩
  | n + 1 => by
    obtain ⟨ih1, ih2⟩ := Equal_eq n
    refine ⟨fun x y h hx => ?_, fun a b h ha => ?_⟩
    · obtain ⟨a, b, c, d⟩ := x
      obtain ⟨a', b', c', d'⟩ := y
      simp only [Nd.cnt] at h hx
      obtain ⟨r, h1, h2⟩ := ih2 d d' (by omega) (by omega)
      unfold m_r09_Equal
      simp only [h1, Option.bind_some]
      cases e1 : a == a' with
      | false => exact ⟨false, rfl, ⟨(fun h => by cases h), fun h => by cases h; simp at e1⟩⟩
      | true =>
        cases e2 : b == b' with
        | false => exact ⟨false, rfl, ⟨(fun h => by cases h), fun h => by cases h; simp at e2⟩⟩
        | true =>
          cases e3 : c == c' with
          | false => exact ⟨false, rfl, ⟨(fun h => by cases h), fun h => by cases h; simp at e3⟩⟩
          | true =>
            refine ⟨r, rfl, h2.trans ⟨fun h => ?_, fun h => by cases h; rfl⟩⟩
            rw [eq_of_beq e1, eq_of_beq e2, eq_of_beq e3, h]
    · unfold m_r09_SameItems
      have l1 := Nd.cnts_len a
      by_cases hl : a.length = b.length
      · obtain ⟨y, g1, g2⟩ := same_loop (F := m_r09_Equal n) (a := a) (b := b) (fun u hu v _ => ih1 u v (by have := Nd.cnts_mem hu; omega) (by have := Nd.cnts_mem hu; omega)) hl (by omega) n 0 (by omega) (by omega)
        rw [show ((0 : Nat) : Int) = 0 from rfl] at g1
        rw [hl, bne_self_eq_false, cond_false, g1]
        refine ⟨y, by cases y <;> rfl, g2⟩
      · have : ((a.length : Int) != (b.length : Int)) = true := by
          unfold bne
          rw [ne_beq (by omega)]; rfl
        rw [this]
        exact ⟨false, rfl, ⟨(fun h => by cases h), fun h => absurd (congrArg List.length h) hl⟩⟩
theorem valid_row {x : Nd} (h : validB x = true) : x = .mk 1 [] 0 x.kids ∧ formsB 1 x.kids = true := by
  unfold validB at h
  simp only [Bool.and_eq_true] at h
  exact form_row h.2.1 (eq_of_beq h.1)
end Go.Proofs.Ytfbggpmdmhgpfaa
namespace Go.Proofs.Ytfbggpmdmhgpfaa
open Go.Abs
theorem nsame_loop {F : Nd → Nd → Option Bool} {a b : List Nd} (hF : ∀ u ∈ a, ∀ v ∈ b, ∃ y, F u v = some y ∧ (y = true ↔ u = v)) (hl : a.length = b.length) (hb : a.length ≤ 1073741824) :
    ∀ (q i : Nat), a.length - i < q → i ≤ a.length → ∃ y, m_slices_EqualFunc_sNode_l1 F a b q (i : Int) = some (if y then .go () else .ret false) ∧ (y = true ↔ a.drop i = b.drop i)
  | 0, _, h, _ => by omega
  | q + 1, i, hq, hi => by
    unfold m_slices_EqualFunc_sNode_l1
    by_cases h : i < a.length
    · have h' : i < b.length := by omega
      rw [dec_t (Int.ofNat_lt.2 h), cond_true, at_get h, at_get h']
      obtain ⟨y, f1, f2⟩ := hF _ (List.getElem_mem h) _ (List.getElem_mem h')
      have d1 := List.drop_eq_getElem_cons h
      have d2 := List.drop_eq_getElem_cons h'
      rcases e : a[i] with ⟨x1, x2, x3, x4⟩
      rcases e' : b[i] with ⟨y1, y2, y3, y4⟩
      rw [e, e'] at f1 f2
      rw [e] at d1
      rw [e'] at d2
      simp only [Option.bind_some, f1]
      cases y with
      | false =>
        refine ⟨false, rfl, ⟨(fun h => by cases h), fun h => ?_⟩⟩
        rw [d1, d2] at h
        exact f2.2 (List.cons.inj h).1
      | true =>
        simp only [Bool.not_true, cond_false]
        rw [wi_succ (by omega)]
        obtain ⟨z, g1, g2⟩ := nsame_loop hF hl hb q (i + 1) (by omega) (by omega)
        refine ⟨z, g1, ?_⟩
        rw [d1, d2, g2, f2.1 rfl]
        simp
    · rw [dec_f (by omega), cond_false]
      obtain rfl : i = a.length := by omega
      refine ⟨true, rfl, ?_⟩
      rw [List.drop_length, hl, List.drop_length]
      simp
theorem node_Equal_eq : ∀ N : Nat, (∀ x y : Nd, 2 * x.cnt < N → x.cnt ≤ 67108864 → ∃ r, m_node_Equal N x y = some r ∧ (r = true ↔ x = y)) ∧
    (∀ a b : List Nd, 2 * Nd.cnts a + 1 < N → Nd.cnts a ≤ 67108864 → ∃ r, m_slices_EqualFunc_sNode N a b = some r ∧ (r = true ↔ a = b))
  | 0 => ⟨fun _ _ h _ => by omega, fun _ _ h _ => by omega⟩
  | n + 1 => by
    obtain ⟨ih1, ih2⟩ := node_Equal_eq n
    refine ⟨fun x y h hx => ?_, fun a b h ha => ?_⟩
    · obtain ⟨a, b, c, d⟩ := x
      obtain ⟨a', b', c', d'⟩ := y
      simp only [Nd.cnt] at h hx
      obtain ⟨r, h1, h2⟩ := ih2 d d' (by omega) (by omega)
      unfold m_node_Equal
      simp only [h1, Option.bind_some]
      cases e1 : a == a' with
      | false => exact ⟨false, rfl, ⟨(fun h => by cases h), fun h => by cases h; simp at e1⟩⟩
      | true =>
        cases e2 : b == b' with
        | false => exact ⟨false, rfl, ⟨(fun h => by cases h), fun h => by cases h; simp at e2⟩⟩
        | true =>
          cases e3 : c == c' with
          | false => exact ⟨false, rfl, ⟨(fun h => by cases h), fun h => by cases h; simp at e3⟩⟩
          | true =>
            refine ⟨r, rfl, h2.trans ⟨fun h => ?_, fun h => by cases h; rfl⟩⟩
            rw [eq_of_beq e1, eq_of_beq e2, eq_of_beq e3, h]
    · unfold m_slices_EqualFunc_sNode
      have l1 := Nd.cnts_len a
      by_cases hl : a.length = b.length
      · obtain ⟨y, g1, g2⟩ := nsame_loop (F := m_node_Equal n) (a := a) (b := b) (fun u hu v _ => ih1 u v (by have := Nd.cnts_mem hu; omega) (by have := Nd.cnts_mem hu; omega)) hl (by omega) n 0 (by omega) (by omega)
        rw [show ((0 : Nat) : Int) = 0 from rfl] at g1
        rw [hl, bne_self_eq_false, cond_false, g1]
        refine ⟨y, by cases y <;> rfl, g2⟩
      · have : ((a.length : Int) != (b.length : Int)) = true := by
          unfold bne
          rw [ne_beq (by omega)]; rfl
        rw [this]
        exact ⟨false, rfl, ⟨(fun h => by cases h), fun h => absurd (congrArg List.length h) hl⟩⟩
end Go.Proofs.Ytfbggpmdmhgpfaa
namespace Go.Proofs.Ytfbggpmdmhgpfaa
open Go.Abs
theorem findL_none1' {n : Nd} {i s : Int} {p : List Int} (h : ¬ (0 ≤ i ∧ i < n.kids.length)) : findL n (i :: s :: p) = none := by rw [findL, if_neg h]
theorem findL_none2' {n x : Nd} {i : Nat} {s : Int} {p : List Int} (hx : n.kids[i]? = some x) (h : ¬ (0 ≤ s ∧ s < x.kids.length)) : findL n ((i : Int) :: s :: p) = none := by
  have hl := (List.getElem?_eq_some_iff.1 hx).1
  rw [findL, if_pos ⟨by omega, by omega⟩]
  simp only [List.getD_eq_getElem?_getD, Int.toNat_natCast, hx, Option.getD_some]
  rw [if_neg h]
theorem findL_step' {n x z : Nd} {i s : Nat} {p : List Int} (hx : n.kids[i]? = some x) (hz : x.kids[s]? = some z) : findL n ((i : Int) :: (s : Int) :: p) = findL z p := by
  have hl := (List.getElem?_eq_some_iff.1 hx).1
  have hl2 := (List.getElem?_eq_some_iff.1 hz).1
  rw [findL, if_pos ⟨by omega, by omega⟩]
  simp only [List.getD_eq_getElem?_getD, Int.toNat_natCast, hx, hz, Option.getD_some]
  rw [if_pos ⟨by omega, by omega⟩]
theorem at_int9 {α : Type} {l : List α} {i : Int} (h0 : 0 ≤ i) (h1 : i < (l.length : Int)) : ∃ p : Nat, i = (p : Int) ∧ ∃ h : p < l.length, at? l i = some l[p] := by
  obtain ⟨p, rfl⟩ := Int.eq_ofNat_of_zero_le h0
  exact ⟨p, rfl, by omega, at_get (by omega)⟩
theorem find_loop9 : ∀ (k : Nat) (t : Nd) (path : List Int), path.length < k →
    (findL t path = none ∧ ∃ r, m_r09_find_l1 k t.kind t.text t.cols t.kids path = some (.ret (r, false))) ∨
    (findL t path = none ∧ ∃ (r : Nd) (p : List Int), p ≠ [] ∧ m_r09_find_l1 k t.kind t.text t.cols t.kids path = some (.go (p, r.kind, r.text, r.cols, r.kids))) ∨
    ∃ r, findL t path = some r ∧ m_r09_find_l1 k t.kind t.text t.cols t.kids path = some (.go ([], r.kind, r.text, r.cols, r.kids))
  | 0, _, _, h => by omega
  | k + 1, t, path, h => by
    unfold m_r09_find_l1
    match path, h with
    | [], h => exact .inr (.inr ⟨t, rfl, rfl⟩)
    | [x], h => exact .inr (.inl ⟨rfl, t, [x], by simp, rfl⟩)
    | x :: y :: p, h =>
      have e0 : at? (x :: y :: p) (0 : Int) = some x := rfl
      have e1 : at? (x :: y :: p) (1 : Int) = some y := rfl
      have e2 : (((x :: y :: p).take (((x :: y :: p).length : Int)).toNat).drop (2 : Int).toNat) = p := by
        rw [Int.toNat_natCast, List.take_length]; rfl
      rw [dec_t (by simp only [List.length_cons]; omega), cond_true]
      simp only [e0, e1, Option.bind_some, e2]
      by_cases h1 : x < 0
      · rw [dec_t h1]; exact .inl ⟨findL_none1' (fun h => by omega), _, rfl⟩
      · rw [dec_f h1]
        by_cases h2 : (t.kids.length : Int) ≤ x
        · rw [dec_t h2]; exact .inl ⟨findL_none1' (fun h => by omega), _, rfl⟩
        · rw [dec_f h2]
          obtain ⟨i, rfl, hi, hg⟩ := at_int9 (l := t.kids) (i := x) (by omega) (by omega)
          rw [hg]
          have hgi : t.kids[i]? = some t.kids[i] := List.getElem?_eq_getElem hi
          generalize t.kids[i] = e at hgi
          obtain ⟨x1, x2, x3, x4⟩ := e
          simp only [cond_false, Option.bind_some]
          by_cases h3 : y < 0
          · rw [dec_t h3]; exact .inl ⟨findL_none2' hgi (fun h => by omega), _, rfl⟩
          · rw [dec_f h3]
            by_cases h4 : (x4.length : Int) ≤ y
            · rw [dec_t h4]; exact .inl ⟨findL_none2' hgi (fun h => by have : y < x4.length := h.2; omega), _, rfl⟩
            · rw [dec_f h4]
              obtain ⟨j, rfl, hj, hg2⟩ := at_int9 (l := x4) (i := y) (by omega) (by omega)
              rw [hg2]
              have hgj : x4[j]? = some x4[j] := List.getElem?_eq_getElem hj
              generalize x4[j] = f at hgj
              obtain ⟨y1, y2, y3, y4⟩ := f
              simp only [cond_false, Option.bind_some]
              rw [req_t ⟨by omega, by simp only [List.length_cons]; omega, by omega⟩]
              rw [findL_step' hgi hgj]
              exact find_loop9 k (.mk y1 y2 y3 y4) p (by simp only [List.length_cons] at h; omega)
theorem r09_find_eq (n : Nat) (t : Nd) (path : List Int) (h : path.length < n) : ∃ r ok, m_r09_find n t path = some (r, ok) ∧ findL t path = bif ok then some r else none := by
  obtain ⟨a, b, c, d⟩ := t
  unfold m_r09_find
  dsimp only
  rcases find_loop9 n (.mk a b c d) path h with ⟨h0, r, h1⟩ | ⟨h0, r, p, hp, h1⟩ | ⟨r, h0, h1⟩
  · simp only [Nd.kind, Nd.text, Nd.cols, Nd.kids] at h1
    rw [h1]
    exact ⟨r, false, rfl, h0⟩
  · obtain ⟨r1, r2, r3, r4⟩ := r
    simp only [Nd.kind, Nd.text, Nd.cols, Nd.kids] at h1
    rw [h1]
    refine ⟨.mk r1 r2 r3 r4, false, ?_, h0⟩
    have : ((p.length : Int) == 0) = false := beq_eq_false_iff_ne.2 fun e => hp (List.eq_nil_of_length_eq_zero (by omega))
    simp only [Option.bind_some, this]
  · obtain ⟨r1, r2, r3, r4⟩ := r
    simp only [Nd.kind, Nd.text, Nd.cols, Nd.kids] at h1
    rw [h1]
    exact ⟨.mk r1 r2 r3 r4, true, rfl, h0⟩
def rowS (t : Nd) (p : List Int) : Nd × Int := if validB t = true then (match findL t p with | some r => (r, 0) | none => (zeroNd, 8)) else (zeroNd, 1)
theorem findL_sub : ∀ (N : Nat) (p : List Int) (t r : Nd), p.length < N → findL t p = some r → r.w ≤ t.w ∧ r.cnt ≤ t.cnt
  | 0, p, _, _, h, _ => by omega
  | N + 1, [], t, r, _, h => by
    rw [findL] at h
    cases h
    exact ⟨Nat.le_refl _, Nat.le_refl _⟩
  | N + 1, [_], t, r, _, h => by
    rw [findL] at h
    cases h
  | N + 1, i :: s :: p, .mk k tx c ks, r, hN, h => by
    rw [findL] at h
    split at h
    · rename_i hi
      replace hi : 0 ≤ i ∧ i < ks.length := hi
      have hi0 : i.toNat < ks.length := by omega
      have hx : ks[i.toNat]? = some ks[i.toNat] := List.getElem?_eq_getElem hi0
      generalize ks[i.toNat] = x at hx
      obtain ⟨k2, tx2, c2, ks2⟩ := x
      simp only [Nd.kids, List.getD_eq_getElem?_getD, hx, Option.getD_some] at h
      split at h
      · rename_i hs
        have hs0 : s.toNat < ks2.length := by omega
        have hz : ks2[s.toNat]? = some ks2[s.toNat] := List.getElem?_eq_getElem hs0
        generalize ks2[s.toNat] = z at hz
        rw [hz, Option.getD_some] at h
        obtain ⟨q1, q2⟩ := findL_sub N p z r (by simp only [List.length_cons] at hN; omega) h
        have m1 := Nd.w_mem (List.mem_of_getElem? hx)
        have m2 := Nd.w_mem (List.mem_of_getElem? hz)
        have n1 := Nd.cnts_mem (List.mem_of_getElem? hx)
        have n2 := Nd.cnts_mem (List.mem_of_getElem? hz)
        simp only [Nd.w, Nd.cnt] at m1 m2 n1 n2 ⊢
        omega
      · cases h
    · cases h
theorem r09_Row_eq (n : Nat) (t : Nd) (p : List Int) (hp : p.length < n) (hv : m_r09_Valid n t = some (validB t)) : m_r09_Row n t p = some (rowS t p) := by
  obtain ⟨r, ok, h1, h2⟩ := r09_find_eq n t p hp
  obtain ⟨k, tx, c, ks⟩ := t
  unfold m_r09_Row rowS
  dsimp only
  rw [hv]
  simp only [Option.bind_some]
  cases hb : validB (.mk k tx c ks) with
  | false => rfl
  | true =>
    rw [h1, h2]
    obtain ⟨r1, r2, r3, r4⟩ := r
    cases ok <;> rfl
theorem deep_eq {t : Nd} (h : t.cnt ≤ 1000000000) : m_deep_Node t = some t := req_t h
theorem node_Row_eq (n : Nat) (t : Nd) (p : List Int) (hv : m_node_Valid n t = some (validB t)) (hc : t.cnt ≤ 1000000000) : m_node_Row n t p = some (rowS t p) := by
  unfold m_node_Row rowS
  rw [hv]
  simp only [Option.bind_some]
  split
  · cases hf : findL t p with
    | none => rfl
    | some r =>
      have := (findL_sub _ p t r (Nat.lt_succ_self _) hf).2
      simp only [deep_eq (Nat.le_trans this hc), Option.bind_some]
  · rfl
end Go.Proofs.Ytfbggpmdmhgpfaa
namespace Go.Proofs.Ytfbggpmdmhgpfaa
open Go.Abs
inductive Fd : Nd → List Int → Nd → Prop
  | nil (t : Nd) : Fd t [] t
  | step {k : Int} {tx : List UInt8} {c : Int} {ks : List Nd} {i : Nat} {k2 : Int} {tx2 : List UInt8} {c2 : Int} {ks2 : List Nd} {s : Nat} {z r : Nd} {p : List Int}
      (hi : ks[i]? = some (.mk k2 tx2 c2 ks2)) (hs : ks2[s]? = some z) (h : Fd z p r) : Fd (.mk k tx c ks) ((i : Int) :: (s : Int) :: p) r
theorem Fd.find {t r : Nd} {p : List Int} (h : Fd t p r) : findL t p = some r := by
  induction h with
  | nil t => rw [findL]
  | @step k tx c ks i k2 tx2 c2 ks2 s z r p hi hs _ ih =>
    have hl := (List.getElem?_eq_some_iff.1 hi).1
    have hl2 := (List.getElem?_eq_some_iff.1 hs).1
    rw [findL, if_pos ⟨by omega, show (i : Int) < (ks.length : Int) by omega⟩]
    simp only [Nd.kids, List.getD_eq_getElem?_getD, Int.toNat_natCast, hi, hs, Option.getD_some]
    rw [if_pos ⟨by omega, show (s : Int) < (ks2.length : Int) by omega⟩]
    exact ih
theorem Fd.of : ∀ (N : Nat) (p : List Int) (t r : Nd), p.length < N → findL t p = some r → Fd t p r
  | 0, p, _, _, h, _ => by omega
  | N + 1, [], t, r, _, h => by
    rw [findL] at h
    cases h
    exact .nil t
  | N + 1, [_], t, r, _, h => by
    rw [findL] at h
    cases h
  | N + 1, i :: s :: p, .mk k tx c ks, r, hN, h => by
    rw [findL] at h
    split at h
    · rename_i hi
      replace hi : 0 ≤ i ∧ i < ks.length := hi
      obtain ⟨i, rfl⟩ := Int.eq_ofNat_of_zero_le hi.1
      have hx : ks[i]? = some ks[i] := List.getElem?_eq_getElem (by omega)
      generalize ks[i] = x at hx
      obtain ⟨k2, tx2, c2, ks2⟩ := x
      simp only [Nd.kids, List.getD_eq_getElem?_getD, Int.toNat_natCast, hx, Option.getD_some] at h
      split at h
      · rename_i hs
        obtain ⟨s, rfl⟩ := Int.eq_ofNat_of_zero_le hs.1
        have hz : ks2[s]? = some ks2[s] := List.getElem?_eq_getElem (by omega)
        generalize ks2[s] = z at hz
        rw [Int.toNat_natCast, hz, Option.getD_some] at h
        exact .step hx hz (Fd.of N p z r (by simp only [List.length_cons] at hN; omega) h)
      · cases h
    · cases h
theorem fd_of {p : List Int} {t r : Nd} (h : findL t p = some r) : Fd t p r := Fd.of _ p t r (Nat.lt_succ_self _) h
theorem putL_nil' {t r : Nd} : putL t [] r = r := by cases t; rw [putL]; intros; contradiction
theorem putL_step' {k : Int} {tx : List UInt8} {c : Int} {ks : List Nd} {i : Nat} {k2 : Int} {tx2 : List UInt8} {c2 : Int} {ks2 : List Nd} {s : Nat} {z r : Nd} {p : List Int} (hi : ks[i]? = some (.mk k2 tx2 c2 ks2)) (hs : ks2[s]? = some z) :
    putL (.mk k tx c ks) ((i : Int) :: (s : Int) :: p) r = .mk k tx c (ks.set i (.mk k2 tx2 c2 (ks2.set s (putL z p r)))) := by
  rw [putL, Int.toNat_natCast, hi]
  dsimp only
  rw [Int.toNat_natCast, hs]
theorem ws_setp : ∀ {ks : List Nd} {i : Nat} {x y : Nd}, ks[i]? = some x → Nd.ws (ks.set i y) + x.w = Nd.ws ks + y.w
  | [], i, x, y, h => by simp at h
  | v :: ks, 0, x, y, h => by
    obtain rfl : v = x := by simpa using h
    simp only [List.set_cons_zero, Nd.ws]; omega
  | v :: ks, i + 1, x, y, h => by
    have := ws_setp (ks := ks) (i := i) (x := x) (y := y) (by simpa using h)
    simp only [List.set_cons_succ, Nd.ws]; omega
theorem cnts_setp : ∀ {ks : List Nd} {i : Nat} {x y : Nd}, ks[i]? = some x → Nd.cnts (ks.set i y) + x.cnt = Nd.cnts ks + y.cnt
  | [], i, x, y, h => by simp at h
  | v :: ks, 0, x, y, h => by
    obtain rfl : v = x := by simpa using h
    simp only [List.set_cons_zero, Nd.cnts]; omega
  | v :: ks, i + 1, x, y, h => by
    have := cnts_setp (ks := ks) (i := i) (x := x) (y := y) (by simpa using h)
    simp only [List.set_cons_succ, Nd.cnts]; omega
theorem Fd.w {t z : Nd} {p : List Int} (h : Fd t p z) (r : Nd) : (putL t p r).w + z.w = t.w + r.w := by
  induction h with
  | nil t => rw [putL_nil']; omega
  | @step k tx c ks i k2 tx2 c2 ks2 s z r' p hi hs _ ih =>
    rw [putL_step' hi hs]
    have h1 := ws_setp (y := .mk k2 tx2 c2 (ks2.set s (putL z p r))) hi
    have h2 := ws_setp (y := putL z p r) hs
    simp only [Nd.w] at *
    omega
theorem Fd.cnt {t z : Nd} {p : List Int} (h : Fd t p z) (r : Nd) : (putL t p r).cnt + z.cnt = t.cnt + r.cnt := by
  induction h with
  | nil t => rw [putL_nil']; omega
  | @step k tx c ks i k2 tx2 c2 ks2 s z r' p hi hs _ ih =>
    rw [putL_step' hi hs]
    have h1 := cnts_setp (y := .mk k2 tx2 c2 (ks2.set s (putL z p r))) hi
    have h2 := cnts_setp (y := putL z p r) hs
    simp only [Nd.cnt] at *
    omega
theorem set_at {α : Type} {l : List α} {i : Nat} {x y : α} (h : l[i]? = some x) : (l.set i y)[i]? = some y := by
  rw [List.getElem?_set, if_pos rfl, if_pos (List.getElem?_eq_some_iff.1 h).1]
theorem set_back {α : Type} {l : List α} {i : Nat} {x y : α} (h : l[i]? = some x) : (l.set i y).set i x = l := by
  refine List.ext_getElem? fun j => ?_
  rw [List.set_set, List.getElem?_set]
  split
  · rename_i e
    subst e
    rw [if_pos (List.getElem?_eq_some_iff.1 h).1, h]
  · rfl
theorem Fd.put {t z : Nd} {p : List Int} (h : Fd t p z) (r : Nd) : Fd (putL t p r) p r := by
  induction h with
  | nil t => rw [putL_nil']; exact .nil r
  | @step k tx c ks i k2 tx2 c2 ks2 s z r' p hi hs _ ih =>
    rw [putL_step' hi hs]
    exact .step (set_at hi) (set_at hs) ih
theorem Fd.put_put {t z : Nd} {p : List Int} (h : Fd t p z) (r q : Nd) : putL (putL t p r) p q = putL t p q := by
  induction h with
  | nil t => simp only [putL_nil']
  | @step k tx c ks i k2 tx2 c2 ks2 s z r' p hi hs _ ih =>
    rw [putL_step' hi hs, putL_step' hi hs, putL_step' (set_at hi) (set_at hs), ih]
    simp only [List.set_set]
theorem Fd.put_self {t z : Nd} {p : List Int} (h : Fd t p z) : putL t p z = t := by
  induction h with
  | nil t => rw [putL_nil']
  | @step k tx c ks i k2 tx2 c2 ks2 s z r' p hi hs _ ih =>
    rw [putL_step' hi hs, ih]
    have e1 : ks2.set s z = ks2 := by
      have := set_back (y := z) hs
      rwa [List.set_set] at this
    have e2 : ks.set i (.mk k2 tx2 c2 ks2) = ks := by
      have := set_back (y := .mk k2 tx2 c2 ks2) hi
      rwa [List.set_set] at this
    rw [e1, e2]
theorem Fd.back {t z : Nd} {p : List Int} (h : Fd t p z) (r : Nd) : putL (putL t p r) p z = t := by rw [h.put_put, h.put_self]
theorem findL_none_a {n : Nd} {i s : Int} {p : List Int} (h : ¬ (0 ≤ i ∧ i < n.kids.length)) : findL n (i :: s :: p) = none := by rw [findL, if_neg h]
theorem findL_none_b {n x : Nd} {i : Nat} {s : Int} {p : List Int} (hx : n.kids[i]? = some x) (h : ¬ (0 ≤ s ∧ s < x.kids.length)) : findL n ((i : Int) :: s :: p) = none := by
  have hl := (List.getElem?_eq_some_iff.1 hx).1
  rw [findL, if_pos ⟨by omega, by omega⟩]
  simp only [List.getD_eq_getElem?_getD, Int.toNat_natCast, hx, Option.getD_some]
  rw [if_neg h]
theorem findL_on {n x z : Nd} {i s : Nat} {p : List Int} (hx : n.kids[i]? = some x) (hz : x.kids[s]? = some z) : findL n ((i : Int) :: (s : Int) :: p) = findL z p := by
  have hl := (List.getElem?_eq_some_iff.1 hx).1
  have hl2 := (List.getElem?_eq_some_iff.1 hz).1
  rw [findL, if_pos ⟨by omega, by omega⟩]
  simp only [List.getD_eq_getElem?_getD, Int.toNat_natCast, hx, hz, Option.getD_some]
  rw [if_pos ⟨by omega, by omega⟩]
def Apart (p q : List Int) : Prop := ¬ p <+: q ∧ ¬ q <+: p
theorem Apart.symm {p q : List Int} (h : Apart p q) : Apart q p := ⟨h.2, h.1⟩
theorem Apart.tail {i s : Int} {p q : List Int} (h : Apart (i :: s :: p) (i :: s :: q)) : Apart p q :=
  ⟨fun hp => h.1 (List.cons_prefix_cons.2 ⟨rfl, List.cons_prefix_cons.2 ⟨rfl, hp⟩⟩), fun hp => h.2 (List.cons_prefix_cons.2 ⟨rfl, List.cons_prefix_cons.2 ⟨rfl, hp⟩⟩)⟩
theorem Fd.other {t z : Nd} {p : List Int} (h : Fd t p z) (r : Nd) : ∀ q, Apart p q → findL (putL t p r) q = findL t q := by
  induction h with
  | nil t => exact fun q hq => absurd (List.nil_prefix) hq.1
  | @step k tx c ks i k2 tx2 c2 ks2 s z r' p hi hs _ ih =>
    intro q hq
    rw [putL_step' hi hs]
    match q, hq with
    | [], hq => exact absurd (List.nil_prefix) hq.2
    | [_], hq => rw [findL, findL]
    | j :: u :: q, hq =>
      by_cases hj : 0 ≤ j ∧ j < (ks.length : Int)
      · obtain ⟨j, rfl⟩ := Int.eq_ofNat_of_zero_le hj.1
        by_cases hji : i = j
        · subst hji
          have hx1 : (Nd.mk k tx c (ks.set i (.mk k2 tx2 c2 (ks2.set s (putL z p r))))).kids[i]? = some (.mk k2 tx2 c2 (ks2.set s (putL z p r))) := set_at hi
          have hx2 : (Nd.mk k tx c ks).kids[i]? = some (.mk k2 tx2 c2 ks2) := hi
          by_cases hu : 0 ≤ u ∧ u < (ks2.length : Int)
          · obtain ⟨u, rfl⟩ := Int.eq_ofNat_of_zero_le hu.1
            by_cases hus : s = u
            · subst hus
              rw [findL_on hx1 (set_at hs), findL_on hx2 hs]
              exact ih q hq.tail
            · obtain ⟨y, hy⟩ : ∃ y, ks2[u]? = some y := ⟨_, List.getElem?_eq_getElem (by omega)⟩
              have hy' : (ks2.set s (putL z p r))[u]? = some y := by rw [List.getElem?_set, if_neg hus, hy]
              rw [findL_on hx1 hy', findL_on hx2 hy]
          · rw [findL_none_b hx1 (fun h => hu ⟨h.1, by simpa [Nd.kids] using h.2⟩), findL_none_b hx2 hu]
        · obtain ⟨y, hy⟩ : ∃ y, ks[j]? = some y := ⟨_, List.getElem?_eq_getElem (by omega)⟩
          have hx1 : (Nd.mk k tx c (ks.set i (.mk k2 tx2 c2 (ks2.set s (putL z p r))))).kids[j]? = some y := by
            show (ks.set i _)[j]? = some y
            rw [List.getElem?_set, if_neg hji, hy]
          have hx2 : (Nd.mk k tx c ks).kids[j]? = some y := hy
          by_cases hu : 0 ≤ u ∧ u < (y.kids.length : Int)
          · obtain ⟨u, rfl⟩ := Int.eq_ofNat_of_zero_le hu.1
            obtain ⟨v, hv⟩ : ∃ v, y.kids[u]? = some v := ⟨_, List.getElem?_eq_getElem (by omega)⟩
            rw [findL_on hx1 hv, findL_on hx2 hv]
          · rw [findL_none_b hx1 hu, findL_none_b hx2 hu]
      · rw [findL_none_a (fun h => hj ⟨h.1, by simpa [Nd.kids] using h.2⟩), findL_none_a hj]
theorem deps_mem' : ∀ {ks : List Nd} {v : Nd}, v ∈ ks → v.dep ≤ Nd.deps ks
  | u :: ks, v, h => by
    simp only [Nd.deps]
    rcases List.mem_cons.1 h with rfl | h
    · exact Nat.le_max_left _ _
    · exact Nat.le_trans (deps_mem' h) (Nat.le_max_right _ _)
theorem form_kids {k : Int} {tx : List UInt8} {c : Int} {ks : List Nd} (h : formB (.mk k tx c ks) = true) : formsB k ks = true := by
  simp only [formB, Bool.and_eq_true] at h
  exact h.2
theorem Fd.form {t z : Nd} {p : List Int} (h : Fd t p z) (hf : formB t = true) (hk : t.kind = 1) : formB z = true ∧ z.kind = 1 := by
  induction h with
  | nil t => exact ⟨hf, hk⟩
  | @step k tx c ks i k2 tx2 c2 ks2 s z r' p hi hs _ ih =>
    obtain ⟨f1, f2⟩ := forms_mem (form_kids hf) (List.mem_of_getElem? hi)
    obtain ⟨g1, g2⟩ := forms_mem (form_kids f1) (List.mem_of_getElem? hs)
    have hk : k = 1 := hk
    subst hk
    have f3 : (k2 == 1) = false := by simpa [Nd.kind] using f2
    rw [f3] at g2
    refine ih g1 ?_
    cases e : z.kind == 1 with
    | true => exact eq_of_beq e
    | false => rw [e] at g2; cases g2
theorem Fd.small {t z : Nd} {p : List Int} (h : Fd t p z) : z.cnt ≤ t.cnt ∧ z.dep ≤ t.dep ∧ z.w ≤ t.w := by
  induction h with
  | nil t => exact ⟨Nat.le_refl _, Nat.le_refl _, Nat.le_refl _⟩
  | @step k tx c ks i k2 tx2 c2 ks2 s z r' p hi hs _ ih =>
    have m1 := Nd.w_mem (List.mem_of_getElem? hi)
    have m2 := Nd.w_mem (List.mem_of_getElem? hs)
    have n1 := Nd.cnts_mem (List.mem_of_getElem? hi)
    have n2 := Nd.cnts_mem (List.mem_of_getElem? hs)
    have d1 := deps_mem' (List.mem_of_getElem? hi)
    have d2 := deps_mem' (List.mem_of_getElem? hs)
    simp only [Nd.w, Nd.cnt, Nd.dep] at *
    omega
theorem Fd.valid {t z : Nd} {p : List Int} (h : Fd t p z) (hv : validB t = true) : validB z = true := by
  unfold validB at hv ⊢
  simp only [Bool.and_eq_true, decide_eq_true_eq] at hv ⊢
  obtain ⟨h1, h2, h3, h4⟩ := hv
  obtain ⟨f1, f2⟩ := h.form h2 (eq_of_beq h1)
  obtain ⟨s1, s2, _⟩ := h.small
  exact ⟨by rw [f2]; rfl, f1, by omega, by omega⟩
end Go.Proofs.Ytfbggpmdmhgpfaa
namespace Go.Proofs.Ytfbggpmdmhgpfaa
open Go.Abs
theorem at_some {α : Type} {l : List α} {i : Nat} {x : α} (h : l[i]? = some x) : at? l (i : Int) = some x := by
  have hl := (List.getElem?_eq_some_iff.1 h).1
  rw [at_get hl, ← List.getElem?_eq_getElem hl, h]
theorem r09_Replaced_eq {k : Int} {tx : List UInt8} {c : Int} {ks : List Nd} {i : Nat} {x y : Nd} (hi : ks[i]? = some y) (hl : ks.length ≤ 4294967296) : m_r09_Replaced (.mk k tx c ks) (i : Int) x = some (.mk k tx c (ks.set i x)) := by
  obtain ⟨x1, x2, x3, x4⟩ := x
  obtain ⟨y1, y2, y3, y4⟩ := y
  unfold m_r09_Replaced
  dsimp only
  rw [req_t (by simpa using hl), at_some hi]
  simp only [Option.bind_some, Int.toNat_natCast]
def withS (t : Nd) (p : List Int) (r : Nd) : Nd × Int := if validB t = true then (match findL t p with
  | some _ => if validB r = true then (if validB (putL t p r) = true then (putL t p r, 0) else (zeroNd, 6)) else (zeroNd, 4)
  | none => (zeroNd, 8)) else (zeroNd, 1)
theorem node_With_eq (n : Nat) (t : Nd) (p : List Int) (r : Nd) (hv : m_node_Valid n t = some (validB t)) (hr : m_node_Valid n r = some (validB r)) (hp : ∀ z, Fd t p z → m_node_Valid n (putL t p r) = some (validB (putL t p r))) (hc : t.cnt ≤ 1000000000) (hcr : r.cnt ≤ 1000000000) :
    m_node_With n t p r = some (withS t p r) := by
  unfold m_node_With withS
  rw [hv, deep_eq hc, hr, deep_eq hcr]
  simp only [Option.bind_some]
  split
  · cases hf : findL t p with
    | none => rfl
    | some z =>
      dsimp only
      rw [hp z (fd_of hf)]
      simp only [Option.bind_some]
      split
      · split <;> rfl
      · rfl
  · rfl
theorem withS_at {t z r : Nd} {p : List Int} (hv : validB t = true) (h : findL t p = some z) (hr : validB r = true) (hp : validB (putL t p r) = true) : withS t p r = (putL t p r, 0) := by unfold withS; rw [if_pos hv, h]; dsimp only; rw [if_pos hr, if_pos hp]
end Go.Proofs.Ytfbggpmdmhgpfaa
namespace Go.Proofs.Ytfbggpmdmhgpfaa
open Go.Abs
abbrev Op8 := Int × List Int × Int × Int × List Nd × Int × List UInt8 × List UInt8
def Op8.nodes (o : Op8) : List Nd := o.2.2.2.2.1
end Go.Proofs.Ytfbggpmdmhgpfaa
namespace Go.Proofs.Ytfbggpmdmhgpfaa
open Go.Abs
theorem take3 {α : Type} (l : List α) {p q : Nat} (h : p ≤ q) : (l.take p ++ (l.take q).drop p) ++ l.drop q = l := by
  have : l.take p = (l.take q).take p := by rw [List.take_take, Nat.min_eq_left h]
  rw [this, List.take_append_drop, List.take_append_drop]
theorem ws_splice (l by' : List Nd) {p q : Nat} (h : p ≤ q) : Nd.ws ((l.take p ++ by') ++ l.drop q) + Nd.ws ((l.take q).drop p) = Nd.ws l + Nd.ws by' := by
  have := congrArg Nd.ws (take3 l h)
  rw [Nd.ws_append, Nd.ws_append] at this ⊢
  omega
theorem splice_eq (l by' : List Nd) (p q : Nat) (hp : p ≤ l.length) (hq : q ≤ l.length) (hl : l.length ≤ 1073741824) (hb : by'.length ≤ 1073741824) :
    m_r12_splice l (p : Int) (q : Int) by' = some ((l.take p ++ by') ++ l.drop q) := by
  unfold m_r12_splice
  dsimp only
  have e1 : (l.take (p : Int).toNat).drop (0 : Int).toNat = l.take p := by simp
  have e2 : (l.take (l.length : Int).toNat).drop (q : Int).toNat = l.drop q := by simp
  rw [e1, e2, req_t ⟨by omega, by omega, by omega⟩, req_t (by simp; omega), req_t (by simp; omega), req_t ⟨by omega, by omega, by omega⟩, req_t (by simp; omega)]
theorem Replaced_eq (t : Nd) (i : Nat) (v : Nd) (h : i < t.kids.length) (hl : t.kids.length ≤ 1073741824) : m_r09_Replaced t (i : Int) v = some (.mk t.kind t.text t.cols (t.kids.set i v)) := by
  obtain ⟨a, b, c, d⟩ := t
  obtain ⟨a', b', c', d'⟩ := v
  simp only [Nd.kids] at h hl
  unfold m_r09_Replaced
  simp only
  rw [req_t (by simp; omega), at_get h]
  rcases e : d[i] with ⟨x1, x2, x3, x4⟩
  simp only [Option.bind_some, Int.toNat_natCast, Nd.kind, Nd.text, Nd.cols, Nd.kids]
theorem filled_eq (t : Nd) (i : Nat) (l : List Nd) (h : i < t.kids.length) (hl : t.kids.length ≤ 1073741824) (hl2 : l.length ≤ 1073741824) : m_r12_filled t (i : Int) l = some (.mk t.kind t.text t.cols (t.kids.set i (.mk 1 [] 0 l))) := by
  have := Replaced_eq t i (.mk 1 [] 0 l) h hl
  obtain ⟨a, b, c, d⟩ := t
  unfold m_r12_filled
  simp only [m_r09_ToRow, Option.bind_some]
  rw [req_t (by simp; omega), this]
  rfl
theorem at_int {α : Type} {l : List α} {i : Int} (h0 : 0 ≤ i) (h1 : i < (l.length : Int)) : ∃ p : Nat, i = (p : Int) ∧ ∃ h : p < l.length, at? l i = some l[p] := by
  obtain ⟨p, rfl⟩ := Int.eq_ofNat_of_zero_le h0
  exact ⟨p, rfl, by omega, at_get (by omega)⟩
theorem w_kids (t : Nd) : t.w = t.text.length + Nd.ws t.kids + 1 := by cases t; rfl
end Go.Proofs.Ytfbggpmdmhgpfaa
namespace Go.Proofs.Ytfbggpmdmhgpfaa
open Go.Abs
theorem seg_ws (l : List Nd) {p q : Nat} (h : p ≤ q) : Nd.ws ((l.take q).drop p) ≤ Nd.ws l := by
  have := ws_splice l [] h
  simp only [Nd.ws] at this; omega
theorem seg_one (l : List Nd) {p : Nat} (h : p < l.length) : (l.take (p + 1)).drop p = [l[p]] := by
  rw [List.take_succ_eq_append_getElem h, List.drop_append_of_le_length (by simp; omega), List.drop_take]
  simp
end Go.Proofs.Ytfbggpmdmhgpfaa
namespace Go.Proofs.Ytfbggpmdmhgpfaa
open Go.Abs
def splS (l : List Nd) (p q : Nat) (b : List Nd) : List Nd := (l.take p ++ b) ++ l.drop q
def segS (l : List Nd) (p q : Nat) : List Nd := (l.take q).drop p
def rowN (l : List Nd) : Nd := .mk 1 [] 0 l
def fillN (v : Nd) (s : Nat) (l : List Nd) : Nd := .mk v.kind v.text v.cols (v.kids.set s (rowN l))
def leafB (k : Int) : Bool := (k == 2) || ((k == 3) || ((k == 4) || ((k == 10) || (k == 11))))
def needI (k m : Int) (nodes : List Nd) : Int := if k = 1 then 0 else if k = 2 then nodes.length else if k = 3 then m else 1
def TemplP (nodes : List Nd) (slot : Int) : Prop := ∃ (v : Nd) (s : Nat) (z : Nd), nodes = [v] ∧ slot = (s : Int) ∧ validB (rowN [v]) = true ∧ v.kids[s]? = some z ∧ z.kids = []
def FormP : Op8 → Prop
  | (k, _, _, m, nodes, slot, old, text) =>
    ((k = 1 ∨ k = 2) ∧ nodes ≠ [] ∧ validB (rowN nodes) = true ∧ m = 0 ∧ slot = 0 ∧ old = [] ∧ text = []) ∨
    ((k = 3 ∨ k = 4) ∧ 0 ≤ m ∧ TemplP nodes slot ∧ old = [] ∧ text = []) ∨
    (k = 5 ∧ old ≠ text ∧ nodes = [] ∧ m = 0 ∧ slot = 0)
inductive Chg (l : List Nd) : Op8 → List Nd → Int → Prop
  | range {k : Int} {row : List Int} {a m : Int} {nodes : List Nd} {slot : Int} {old text : List UInt8} (h : a < 0 ∨ (l.length : Int) < a ∨ (l.length : Int) - a < needI k m nodes) : Chg l (k, row, a, m, nodes, slot, old, text) [] 2
  | ins {row : List Int} {p : Nat} {m : Int} {nodes : List Nd} {slot : Int} {old text : List UInt8} (h : p ≤ l.length) : Chg l (1, row, (p : Int), m, nodes, slot, old, text) (splS l p p nodes) 0
  | del {row : List Int} {p : Nat} {m : Int} {nodes : List Nd} {slot : Int} {old text : List UInt8} (h : p + nodes.length ≤ l.length) (he : segS l p (p + nodes.length) = nodes) : Chg l (2, row, (p : Int), m, nodes, slot, old, text) (splS l p (p + nodes.length) []) 0
  | del_no {row : List Int} {p : Nat} {m : Int} {nodes : List Nd} {slot : Int} {old text : List UInt8} (h : p + nodes.length ≤ l.length) (he : segS l p (p + nodes.length) ≠ nodes) : Chg l (2, row, (p : Int), m, nodes, slot, old, text) [] 7
  | wrap {row : List Int} {p m : Nat} {v : Nd} {s : Nat} {old text : List UInt8} (h : p + m ≤ l.length) : Chg l (3, row, (p : Int), (m : Int), [v], (s : Int), old, text) (splS l p (p + m) [fillN v s (segS l p (p + m))]) 0
  | unwrap {row : List Int} {p : Nat} {m : Int} {v it z : Nd} {s : Nat} {old text : List UInt8} (h : l[p]? = some it) (hz : it.kids[s]? = some z) (hm : (z.kids.length : Int) = m) (he : it = fillN v s z.kids) : Chg l (4, row, (p : Int), m, [v], (s : Int), old, text) (splS l p (p + 1) z.kids) 0
  | unwrap_no {row : List Int} {p : Nat} {m : Int} {v it : Nd} {s : Nat} {old text : List UInt8} (h : l[p]? = some it) (hz : ∀ z, it.kids[s]? = some z → (z.kids.length : Int) = m → it ≠ fillN v s z.kids) : Chg l (4, row, (p : Int), m, [v], (s : Int), old, text) [] 7
  | set {row : List Int} {p : Nat} {m : Int} {nodes : List Nd} {it : Nd} {slot : Int} {old text : List UInt8} (h : l[p]? = some it) (hl : leafB it.kind = true) (he : it.text = old) : Chg l (5, row, (p : Int), m, nodes, slot, old, text) (splS l p (p + 1) [.mk it.kind text it.cols it.kids]) 0
  | set_no {row : List Int} {p : Nat} {m : Int} {nodes : List Nd} {it : Nd} {slot : Int} {old text : List UInt8} (h : l[p]? = some it) (hl : ¬ (leafB it.kind = true ∧ it.text = old)) : Chg l (5, row, (p : Int), m, nodes, slot, old, text) [] 7
inductive App (t : Nd) : Op8 → Nd → Int → Prop
  | arg {o : Op8} (h : validB t = false) : App t o zeroNd 1
  | form {o : Op8} (h : validB t = true) (hf : ¬ FormP o) : App t o zeroNd 4
  | none {o : Op8} (h : validB t = true) (hf : FormP o) (hn : findL t o.2.1 = Option.none) : App t o zeroNd 8
  | chg {o : Op8} {r : Nd} {l : List Nd} {e : Int} (h : validB t = true) (hf : FormP o) (hr : Fd t o.2.1 r) (hc : Chg r.kids o l e) (he : e ≠ 0) : App t o zeroNd e
  | limit {o : Op8} {r : Nd} {l : List Nd} (h : validB t = true) (hf : FormP o) (hr : Fd t o.2.1 r) (hc : Chg r.kids o l 0) (hv : validB (putL t o.2.1 (rowN l)) = false) : App t o zeroNd 6
  | ok {o : Op8} {r : Nd} {l : List Nd} (h : validB t = true) (hf : FormP o) (hr : Fd t o.2.1 r) (hc : Chg r.kids o l 0) (hv : validB (putL t o.2.1 (rowN l)) = true) : App t o (putL t o.2.1 (rowN l)) 0
theorem Chg.w {l l' : List Nd} {k : Int} {row : List Int} {a m : Int} {nodes : List Nd} {slot : Int} {old text : List UInt8} {e : Int} (h : Chg l (k, row, a, m, nodes, slot, old, text) l' e) : Nd.ws l' ≤ Nd.ws l + Nd.ws nodes + text.length + 3 ∧ l'.length ≤ l.length + Nd.ws nodes + Nd.ws l + 1 := by
  have key : ∀ p q b, p ≤ q → Nd.ws (splS l p q b) + Nd.ws (segS l p q) = Nd.ws l + Nd.ws b := fun p q b h => ws_splice l b h
  have hlen : ∀ l' : List Nd, l'.length ≤ Nd.ws l' := Nd.ws_len
  have h1 : Nd.ws l' ≤ Nd.ws l + Nd.ws nodes + text.length + 3 := by
    cases h with
    | range => simp only [Nd.ws]; omega
    | @ins _ p _ _ _ _ _ h => have := key p p nodes (Nat.le_refl _); omega
    | @del _ p _ _ _ _ _ h he => have := key p (p + nodes.length) [] (Nat.le_add_right _ _); simp only [Nd.ws] at this; omega
    | del_no => simp only [Nd.ws]; omega
    | @wrap _ p m v s _ _ h =>
      have := key p (p + m) [fillN v s (segS l p (p + m))] (Nat.le_add_right _ _)
      have hf : (fillN v s (segS l p (p + m))).w ≤ v.w + Nd.ws (segS l p (p + m)) + 1 := by
        rw [w_kids v]
        simp only [fillN, rowN, Nd.w]
        by_cases hs : s < v.kids.length
        · have := ws_setp (ks := v.kids) (i := s) (y := .mk 1 [] 0 (segS l p (p + m))) (List.getElem?_eq_getElem hs)
          simp only [Nd.w, List.length_nil] at this
          omega
        · rw [List.set_eq_of_length_le (by omega)]; omega
      simp only [Nd.ws] at this ⊢
      omega
    | @unwrap _ p _ v it z s _ _ h hz hm he =>
      have := key p (p + 1) z.kids (Nat.le_add_right _ _)
      have hsg : segS l p (p + 1) = [it] := by
        have := seg_one l (List.getElem?_eq_some_iff.1 h).1
        rw [segS, this, (List.getElem?_eq_some_iff.1 h).2]
      have w1 := Nd.w_mem (List.mem_of_getElem? hz)
      have w2 := w_kids z
      have w3 := w_kids it
      rw [hsg] at this
      simp only [Nd.ws] at this
      omega
    | unwrap_no => simp only [Nd.ws]; omega
    | @set _ p _ _ it _ _ _ h hl he =>
      have := key p (p + 1) [.mk it.kind text it.cols it.kids] (Nat.le_add_right _ _)
      have hsg : segS l p (p + 1) = [it] := by
        have := seg_one l (List.getElem?_eq_some_iff.1 h).1
        rw [segS, this, (List.getElem?_eq_some_iff.1 h).2]
      have w3 := w_kids it
      rw [hsg] at this
      simp only [Nd.ws, Nd.w] at this
      omega
    | set_no => simp only [Nd.ws]; omega
  refine ⟨h1, ?_⟩
  cases h with
  | range => simp
  | @ins _ p _ _ _ _ _ h => have := hlen nodes; simp only [splS, List.length_append, List.length_take, List.length_drop]; omega
  | @del _ p _ _ _ _ _ h he => simp only [splS, List.length_append, List.length_take, List.length_drop, List.length_nil]; omega
  | del_no => simp
  | @wrap _ p m v s _ _ h => simp only [splS, List.length_append, List.length_take, List.length_drop, List.length_cons, List.length_nil]; omega
  | @unwrap _ p _ v it z s _ _ h hz hm he =>
    have w1 := Nd.w_mem (List.mem_of_getElem? hz)
    have w4 := Nd.w_mem (List.mem_of_getElem? h)
    have w2 := w_kids z
    have w3 := w_kids it
    have := hlen z.kids
    simp only [splS, List.length_append, List.length_take, List.length_drop]; omega
  | unwrap_no => simp
  | @set _ p _ _ it _ _ _ h hl he => simp only [splS, List.length_append, List.length_take, List.length_drop, List.length_cons, List.length_nil]; omega
  | set_no => simp
theorem validItems_eq (n : Nat) (nodes : List Nd) (h : Nd.ws nodes + 50 < n) (hb : Nd.ws nodes ≤ 67000000) : m_r09_ValidItems n nodes = some (validB (rowN nodes)) := by
  unfold m_r09_ValidItems
  simp only [m_r09_ToRow, Option.bind_some]
  rw [r09_Valid_eq n _ (by simp only [Nd.w, List.length_nil]; omega) (by simp only [Nd.w, List.length_nil]; omega)]; rfl
theorem r12_template_eq (n : Nat) (l : List Nd) (slot : Int) (h : Nd.ws l + 50 < n) (hb : Nd.ws l ≤ 67000000) : ∃ b, m_r12_template n l slot = some b ∧ (b = true ↔ TemplP l slot) := by
  unfold m_r12_template
  dsimp only
  cases e1 : ((l.length : Int) == 1) with
  | false => exact ⟨false, rfl, (fun h => by cases h), fun ⟨v, s, z, h, _⟩ => by rw [h] at e1; cases e1⟩
  | true =>
    have hl : l.length = 1 := by have := eq_of_beq e1; omega
    obtain ⟨v, rfl⟩ := List.length_eq_one_iff.1 hl
    have hv := validItems_eq n [v] h hb
    obtain ⟨a, b, c, d⟩ := v
    have h0 : at? [Nd.mk a b c d] (0 : Int) = some (Nd.mk a b c d) := rfl
    simp only [cond_true, hv, Option.bind_some, h0]
    cases hvb : validB (rowN [.mk a b c d]) with
    | false => exact ⟨false, rfl, (fun h => by cases h), fun ⟨v, s, z, h, _, h2, _⟩ => by cases h; rw [hvb] at h2; cases h2⟩
    | true =>
      by_cases h1 : 0 ≤ slot
      · by_cases h2 : slot < (d.length : Int)
        · obtain ⟨p, rfl, hp, hg⟩ := at_int h1 h2
          simp only [cond_true, dec_t h1, dec_t h2, hg, Option.bind_some]
          have hz : d[p]? = some d[p] := List.getElem?_eq_getElem hp
          generalize d[p] = z at hz
          obtain ⟨x1, x2, x3, x4⟩ := z
          refine ⟨_, rfl, fun h => ⟨_, p, _, rfl, rfl, hvb, hz, ?_⟩, fun ⟨v, s, z, h, hs, _, hz', hk⟩ => ?_⟩
          · have := eq_of_beq h
            exact List.eq_nil_of_length_eq_zero (by simp only [Nd.kids]; omega)
          · cases h
            obtain rfl : p = s := by omega
            simp only [Nd.kids] at hz'
            rw [hz] at hz'
            cases hz'
            simp only [Nd.kids] at hk
            subst hk
            rfl
        · simp only [cond_true, dec_t h1, dec_f h2]
          refine ⟨false, rfl, (fun h => by cases h), fun ⟨v, s, z, h, hs, _, hz, _⟩ => ?_⟩
          cases h
          have := (List.getElem?_eq_some_iff.1 hz).1
          simp only [Nd.kids] at this
          omega
      · simp only [cond_true, dec_f h1]
        refine ⟨false, rfl, (fun h => by cases h), fun ⟨v, s, z, h, hs, _⟩ => ?_⟩
        omega
theorem r12_Formed_eq (n : Nat) (k : Int) (row : List Int) (at' m : Int) (nodes : List Nd) (slot : Int) (old text : List UInt8) (h : Nd.ws nodes + 50 < n) (hb : Nd.ws nodes ≤ 67000000) :
    ∃ b, m_r12_Formed n (k, row, at', m, nodes, slot, old, text) = some b ∧ (b = true ↔ FormP (k, row, at', m, nodes, slot, old, text)) := by
  have hv := validItems_eq n nodes h hb
  obtain ⟨tb, t1, t2⟩ := r12_template_eq n nodes slot h hb
  have hlen : decide (0 < (nodes.length : Int)) = true ↔ nodes ≠ [] := by cases nodes <;> simp
  have hlen0 : ((nodes.length : Int) == 0) = true ↔ nodes = [] := by cases nodes <;> simp <;> omega
  unfold m_r12_Formed
  simp only [hv, t1, Option.bind_some, FormP]
  by_cases k12 : k = 1 ∨ k = 2
  · have e : (bif (k == 1) then some (k == 1) else some (k == 2) : Option Bool) = some true := by rcases k12 with rfl | rfl <;> rfl
    have hk : ¬ (k = 3 ∨ k = 4) ∧ ¬ k = 5 := by omega
    rw [e]
    simp only [Option.bind_some, cond_true, k12, hk.1, hk.2, true_and, false_and, or_false]
    rw [← hlen]
    generalize decide (0 < (nodes.length : Int)) = b1
    generalize validB (rowN nodes) = b2
    cases b1 <;> cases b2 <;> simp only [cond_true, cond_false, Option.bind_some] <;> try exact ⟨false, rfl, by simp⟩
    cases e1 : m == 0 <;> simp only [cond_true, cond_false, Option.bind_some]
    · exact ⟨false, rfl, by simp [beq_eq_false_iff_ne.1 e1]⟩
    cases e2 : slot == 0 <;> simp only [cond_true, cond_false, Option.bind_some]
    · exact ⟨false, rfl, by simp [beq_eq_false_iff_ne.1 e2]⟩
    cases e3 : old == [] <;> simp only [cond_true, cond_false, Option.bind_some]
    · exact ⟨false, rfl, by simp [beq_eq_false_iff_ne.1 e3]⟩
    refine ⟨_, rfl, ?_⟩
    rw [eq_of_beq e1, eq_of_beq e2, eq_of_beq e3]
    simp
  · have e : (bif (k == 1) then some (k == 1) else some (k == 2) : Option Bool) = some false := by
      rw [ne_beq (fun h => k12 (.inl h)), ne_beq (fun h => k12 (.inr h))]; rfl
    rw [e]
    simp only [Option.bind_some, cond_false, k12, false_and, false_or]
    by_cases k34 : k = 3 ∨ k = 4
    · have e : (bif (k == 3) then some (k == 3) else some (k == 4) : Option Bool) = some true := by rcases k34 with rfl | rfl <;> rfl
      have hk : ¬ k = 5 := by omega
      rw [e]
      simp only [Option.bind_some, cond_true, k34, hk, true_and, false_and, or_false]
      rw [← t2]
      by_cases hm : 0 ≤ m
      · rw [dec_t hm]
        cases tb <;> simp only [cond_true, cond_false, Option.bind_some]
        · exact ⟨false, rfl, by simp⟩
        cases e3 : old == [] <;> simp only [cond_true, cond_false, Option.bind_some]
        · exact ⟨false, rfl, by simp [beq_eq_false_iff_ne.1 e3]⟩
        refine ⟨_, rfl, ?_⟩
        rw [eq_of_beq e3]
        simp [hm]
      · rw [dec_f hm]
        exact ⟨false, rfl, by simp [hm]⟩
    · have e : (bif (k == 3) then some (k == 3) else some (k == 4) : Option Bool) = some false := by
        rw [ne_beq (fun h => k34 (.inl h)), ne_beq (fun h => k34 (.inr h))]; rfl
      rw [e]
      simp only [Option.bind_some, cond_false, k34, false_and, false_or]
      by_cases k5 : k = 5
      · subst k5
        simp only [beq_self_eq_true, cond_true, Option.bind_some, true_and]
        rw [← hlen0]
        generalize ((nodes.length : Int) == 0) = b1
        cases e0 : old == text <;> simp only [Bool.not_true, Bool.not_false, cond_true, cond_false, Option.bind_some]
        · have := beq_eq_false_iff_ne.1 e0
          cases b1 <;> simp only [cond_true, cond_false, Option.bind_some]
          · exact ⟨false, rfl, by simp⟩
          cases e1 : m == 0 <;> simp only [cond_true, cond_false, Option.bind_some]
          · exact ⟨false, rfl, by simp [beq_eq_false_iff_ne.1 e1]⟩
          refine ⟨_, rfl, ?_⟩
          rw [eq_of_beq e1]
          simp [this]
        · exact ⟨false, rfl, by simp [eq_of_beq e0]⟩
      · rw [ne_beq k5]
        exact ⟨false, rfl, by simp [k5]⟩
theorem leaf_opt (k : Int) : (bif (k == 2) then some (k == 2) else bif (k == 3) then some (k == 3) else bif (k == 4) then some (k == 4) else bif (k == 10) then some (k == 10) else some (k == 11) : Option Bool) = some (leafB k) := by
  unfold leafB
  cases e1 : k == 2 <;> cases e2 : k == 3 <;> cases e3 : k == 4 <;> cases e4 : k == 10 <;> rfl
theorem need_opt (k m : Int) (nodes : List Nd) : (bif (k == 1) then some 0 else bif (k == 2) then some (nodes.length : Int) else bif (k == 3) then some m else some 1 : Option Int) = some (needI k m nodes) := by
  unfold needI
  by_cases k1 : k = 1
  · subst k1; rfl
  by_cases k2 : k = 2
  · subst k2; rfl
  by_cases k3 : k = 3
  · subst k3; rfl
  rw [ne_beq k1, ne_beq k2, ne_beq k3, if_neg k1, if_neg k2, if_neg k3]; rfl
theorem need_nn {k : Int} {row : List Int} {a m : Int} {nodes : List Nd} {slot : Int} {old text : List UInt8} (hf : FormP (k, row, a, m, nodes, slot, old, text)) : 0 ≤ needI k m nodes := by
  unfold needI
  rcases hf with ⟨rfl | rfl, _⟩ | ⟨rfl | rfl, hm, _⟩ | ⟨rfl, _⟩ <;> simp <;> omega
theorem r12_change_eq (n : Nat) (l : List Nd) (k : Int) (row : List Int) (a m : Int) (nodes : List Nd) (slot : Int) (old text : List UInt8) (hf : FormP (k, row, a, m, nodes, slot, old, text)) (hn : 2 * Nd.ws l + 2 * Nd.ws nodes + 50 < n) (ha : Nd.ws l ≤ 60000000) (hb : Nd.ws nodes ≤ 2000000) :
    ∃ l' e, m_r12_change n l (k, row, a, m, nodes, slot, old, text) = some (l', e) ∧ Chg l (k, row, a, m, nodes, slot, old, text) l' e := by
  have la := Nd.ws_len l
  have lb := Nd.ws_len nodes
  have cl := Nd.cnts_ws l
  have cb := Nd.cnts_ws nodes
  have hnn := need_nn hf
  unfold m_r12_change
  dsimp only
  rw [need_opt]
  simp only [Option.bind_some]
  by_cases h1 : a < 0
  · rw [dec_t h1]; exact ⟨[], 2, rfl, .range (.inl h1)⟩
  rw [dec_f h1]
  by_cases h2 : (l.length : Int) < a
  · rw [dec_t h2]; exact ⟨[], 2, rfl, .range (.inr (.inl h2))⟩
  rw [dec_f h2, wrap64_in (n := (l.length : Int) - a) (by omega) (by omega)]
  by_cases h3 : (l.length : Int) - a < needI k m nodes
  · rw [dec_t h3]; exact ⟨[], 2, rfl, .range (.inr (.inr h3))⟩
  rw [dec_f h3]
  simp only [cond_false, Option.bind_some]
  obtain ⟨p, rfl⟩ := Int.eq_ofNat_of_zero_le (show 0 ≤ a by omega)
  obtain ⟨y, hy⟩ := Int.eq_ofNat_of_zero_le hnn
  rw [hy] at h3 ⊢
  rw [wrap64_in (n := (p : Int) + (y : Int)) (by omega) (by omega), ← Int.natCast_add]
  have hseg := seg_ws l (Nat.le_add_right p y)
  have lseg := Nd.ws_len ((l.take (p + y)).drop p)
  have cseg := Nd.cnts_ws ((l.take (p + y)).drop p)
  have hsp : ∀ by' : List Nd, by'.length ≤ 1073741824 → m_r12_splice l (p : Int) ((p + y : Nat) : Int) by' = some (splS l p (p + y) by') := fun by' hby => splice_eq l by' p (p + y) (by omega) (by omega) (by omega) hby
  rcases hf with ⟨rfl | rfl, h0⟩ | ⟨rfl | rfl, hm, ⟨v, s, z, rfl, rfl, hvv, hz, hzk⟩, _⟩ | ⟨rfl, h0⟩
  · obtain rfl : y = 0 := by have : needI 1 m nodes = 0 := rfl; omega
    simp only [beq_self_eq_true, cond_true, Nat.add_zero] at hsp ⊢
    rw [hsp nodes (by omega)]
    exact ⟨_, 0, rfl, .ins (by omega)⟩
  · obtain rfl : y = nodes.length := by have : needI 2 m nodes = (nodes.length : Int) := rfl; omega
    simp only [show ((2 : Int) == 1) = false from rfl, cond_false, beq_self_eq_true, cond_true, Int.toNat_natCast]
    rw [req_t ⟨by omega, by omega, by omega⟩]
    obtain ⟨r, g1, g2⟩ := (Equal_eq n).2 ((l.take (p + nodes.length)).drop p) nodes (by omega) (by omega)
    rw [g1]
    simp only [Option.bind_some]
    cases r with
    | false => exact ⟨[], 7, rfl, .del_no (by omega) fun e => by have := g2.2 e; cases this⟩
    | true =>
      simp only [Bool.not_true, cond_false, hsp [] (by simp), Option.bind_some]
      exact ⟨_, 0, rfl, .del (by omega) (g2.1 rfl)⟩
  · obtain rfl : m = (y : Int) := hy
    have hs := (List.getElem?_eq_some_iff.1 hz).1
    have hfe := filled_eq v s ((l.take (p + y)).drop p) hs (by have := Nd.ws_len v.kids; have := w_kids v; simp only [Nd.ws] at lb hb; omega) (by omega)
    have hv0 : at? [v] (0 : Int) = some v := rfl
    obtain ⟨v1, v2, v3, v4⟩ := v
    simp only [show ((3 : Int) == 1) = false from rfl, show ((3 : Int) == 2) = false from rfl, cond_false, beq_self_eq_true, cond_true, Int.toNat_natCast, hv0, Option.bind_some]
    rw [req_t ⟨by omega, by omega, by omega⟩, hfe]
    simp only [Option.bind_some]
    rw [hsp _ (by simp)]
    exact ⟨_, 0, rfl, .wrap (by omega)⟩
  · obtain rfl : y = 1 := by have : needI 4 m [v] = 1 := rfl; omega
    have hs := (List.getElem?_eq_some_iff.1 hz).1
    have hv0 : at? [v] (0 : Int) = some v := rfl
    have hpl : p < l.length := by omega
    have hit : l[p]? = some l[p] := List.getElem?_eq_getElem hpl
    have hia : at? l (p : Int) = some l[p] := at_get hpl
    generalize l[p] = it at hit hia
    have hiw := Nd.w_mem (List.mem_of_getElem? hit)
    have hic := Nd.cnt_w it
    have hlk := Nd.ws_len v.kids
    have hwv := w_kids v
    simp only [Nd.ws] at hb hn
    have hfe : ∀ l' : List Nd, l'.length ≤ 1073741824 → m_r12_filled v (s : Int) l' = some (fillN v s l') := fun l' hl' => filled_eq v s l' hs (by omega) hl'
    have heq : ∀ x : Nd, ∃ r, m_r09_Equal n it x = some r ∧ (r = true ↔ it = x) := fun x => (Equal_eq n).1 it x (by omega) (by omega)
    obtain ⟨i1, i2, i3, i4⟩ := it
    have hwi : (Nd.mk i1 i2 i3 i4).w = i2.length + Nd.ws i4 + 1 := rfl
    have hlk4 := Nd.ws_len i4
    obtain ⟨v1, v2, v3, v4⟩ := v
    simp only [show ((4 : Int) == 1) = false from rfl, show ((4 : Int) == 2) = false from rfl, show ((4 : Int) == 3) = false from rfl, cond_false, beq_self_eq_true, cond_true, hia, Option.bind_some, hv0]
    by_cases hsl : (i4.length : Int) ≤ (s : Int)
    · rw [dec_t hsl]
      refine ⟨[], 7, rfl, .unwrap_no hit fun z' hz' => ?_⟩
      have := (List.getElem?_eq_some_iff.1 hz').1
      simp only [Nd.kids] at this
      omega
    rw [dec_f hsl]
    have hsi : s < i4.length := by omega
    have hzi : i4[s]? = some i4[s] := List.getElem?_eq_getElem hsi
    have hza : at? i4 (s : Int) = some i4[s] := at_get hsi
    generalize i4[s] = z' at hzi hza
    have hzw := Nd.w_mem (List.mem_of_getElem? hzi)
    have hzw2 := w_kids z'
    have hzl := Nd.ws_len z'.kids
    have hfe' := hfe z'.kids (by omega)
    obtain ⟨rb, g1, g2⟩ := heq (fillN (.mk v1 v2 v3 v4) s z'.kids)
    have hsp' := hsp z'.kids (by omega)
    obtain ⟨z1, z2, z3, z4⟩ := z'
    simp only [Nd.kids] at hfe' hsp' g1 g2
    simp only [cond_false, hza, Option.bind_some]
    by_cases hmz : (z4.length : Int) = m
    · have : ((z4.length : Int) != m) = false := by unfold bne; rw [beq_iff_eq.2 hmz]; rfl
      rw [this]
      simp only [cond_false, hfe', Option.bind_some]
      have hfx : fillN (.mk v1 v2 v3 v4) s z4 = .mk v1 v2 v3 (v4.set s (rowN z4)) := rfl
      rw [hfx] at g1 g2 ⊢
      simp only [Option.bind_some, g1]
      cases rb with
      | false =>
        refine ⟨[], 7, rfl, .unwrap_no hit fun z'' hz'' hm'' he => ?_⟩
        simp only [Nd.kids] at hz''
        rw [hzi] at hz''
        cases hz''
        have := g2.2 he
        cases this
      | true =>
        simp only [Bool.not_true, cond_false, hsp', Option.bind_some]
        exact ⟨_, 0, rfl, .unwrap (z := .mk z1 z2 z3 z4) hit hzi hmz (g2.1 rfl)⟩
    · have : ((z4.length : Int) != m) = true := bne_iff_ne.2 hmz
      rw [this]
      refine ⟨[], 7, rfl, .unwrap_no hit fun z'' hz'' hm'' he => ?_⟩
      simp only [Nd.kids] at hz''
      rw [hzi] at hz''
      cases hz''
      exact hmz hm''
  · obtain rfl : y = 1 := by have : needI 5 m nodes = 1 := rfl; omega
    have hpl : p < l.length := by omega
    have hit : l[p]? = some l[p] := List.getElem?_eq_getElem hpl
    have hia : at? l (p : Int) = some l[p] := at_get hpl
    generalize l[p] = it at hit hia
    obtain ⟨i1, i2, i3, i4⟩ := it
    simp only [show ((5 : Int) == 1) = false from rfl, show ((5 : Int) == 2) = false from rfl, show ((5 : Int) == 3) = false from rfl, show ((5 : Int) == 4) = false from rfl, cond_false, hia, Option.bind_some, leaf_opt]
    cases hlf : leafB i1 with
    | false => exact ⟨[], 7, rfl, .set_no hit fun h => by have := h.1; simp only [Nd.kind] at this; rw [hlf] at this; cases this⟩
    | true =>
      simp only [cond_true]
      cases ht : i2 == old with
      | false => exact ⟨[], 7, rfl, .set_no hit fun h => beq_eq_false_iff_ne.1 ht h.2⟩
      | true =>
        simp only [cond_true, hsp [Nd.mk i1 text i3 i4] (by simp), Option.bind_some]
        exact ⟨_, 0, rfl, .set (it := .mk i1 i2 i3 i4) hit hlf (eq_of_beq ht)⟩
theorem r12_put_eq {t z : Nd} {p : List Int} (h : Fd t p z) (l : List Nd) : ∀ n, p.length < n → t.cnt ≤ 4294967296 → m_r12_put n t p l = some (putL t p (rowN l)) := by
  induction h with
  | nil t =>
    intro n hn _
    obtain ⟨n, rfl⟩ : ∃ m, n = m + 1 := ⟨n - 1, by omega⟩
    rw [putL_nil']
    obtain ⟨t1, t2, t3, t4⟩ := t
    unfold m_r12_put
    rfl
  | @step k tx c ks i k2 tx2 c2 ks2 s z r' p hi hs _ ih =>
    intro n hn hc
    obtain ⟨n, rfl⟩ : ∃ m, n = m + 1 := ⟨n - 1, by omega⟩
    have n1 := Nd.cnts_mem (List.mem_of_getElem? hi)
    have n2 := Nd.cnts_mem (List.mem_of_getElem? hs)
    have l1 := Nd.cnts_len ks
    have l2 := Nd.cnts_len ks2
    simp only [Nd.cnt] at hc n1
    have ih := ih n (by simp only [List.length_cons] at hn; omega) (by omega)
    rw [putL_step' hi hs]
    have e1 : ((((i : Int) :: (s : Int) :: p).length : Int) == 0) = false := ne_beq (by simp only [List.length_cons]; omega)
    have e2 : at? ((i : Int) :: (s : Int) :: p) (0 : Int) = some (i : Int) := rfl
    have e3 : at? ((i : Int) :: (s : Int) :: p) (1 : Int) = some (s : Int) := rfl
    have e4 : (((((i : Int) :: (s : Int) :: p)).take ((((i : Int) :: (s : Int) :: p)).length : Int).toNat).drop (2 : Int).toNat) = p := by
      rw [Int.toNat_natCast, List.take_length]; rfl
    obtain ⟨z1, z2, z3, z4⟩ := z
    unfold m_r12_put
    simp only [e1, e2, e3, cond_false, Option.bind_some, at_some hi, at_some hs, e4]
    rw [req_t ⟨by omega, by simp only [List.length_cons]; omega, by omega⟩, ih]
    generalize putL (Nd.mk z1 z2 z3 z4) p (rowN l) = Z
    obtain ⟨q1, q2, q3, q4⟩ := Z
    simp only [Option.bind_some]
    rw [r09_Replaced_eq hs (by omega)]
    simp only [Option.bind_some]
    rw [r09_Replaced_eq hi (by omega)]
    rfl
theorem r12_Apply_eq (n : Nat) (t : Nd) (o : Op8) (hn : 200000000 < n) (ht : t.w ≤ 50000000) (hb : Nd.ws o.nodes ≤ 2000000) (hx : o.2.2.2.2.2.2.2.length ≤ 2000000) (hr : o.2.1.length ≤ 2000000) : ∃ t' e, m_r12_Apply n t o = some (t', e) ∧ App t o t' e := by
  obtain ⟨k, row, a, m, nodes, slot, old, text⟩ := o
  simp only [Op8.nodes] at hb
  dsimp only at hx hr
  have v1 := r09_Valid_eq n t (by omega) (by omega)
  obtain ⟨b, f1, f2⟩ := r12_Formed_eq n k row a m nodes slot old text (by omega) (by omega)
  have e1 := r09_Row_eq n t row (by omega) v1
  have hput : ∀ r l, Fd t row r → m_r12_put n t row l = some (putL t row (rowN l)) := fun r l h => r12_put_eq h l n (by omega) (by have := Nd.cnt_w t; omega)
  have hval : ∀ r l, Fd t row r → Nd.ws l ≤ 5000000 + r.w → m_r09_Valid n (putL t row (rowN l)) = some (validB (putL t row (rowN l))) := fun r l h hl => by
    have := h.w (rowN l)
    have e : (rowN l).w = Nd.ws l + 1 := by simp [rowN, Nd.w]
    exact r09_Valid_eq n _ (by omega) (by omega)
  obtain ⟨t1, t2, t3, t4⟩ := t
  unfold m_r12_Apply
  simp only [v1, f1, e1, Option.bind_some]
  cases hv : validB (.mk t1 t2 t3 t4) with
  | false => exact ⟨_, 1, rfl, .arg hv⟩
  | true =>
    simp only [Bool.not_true, cond_false]
    cases b with
    | false => exact ⟨_, 4, rfl, .form hv fun h => by have := f2.2 h; cases this⟩
    | true =>
      have hf := f2.1 rfl
      simp only [Bool.not_true, cond_false, rowS, if_pos hv]
      cases hfd : findL (.mk t1 t2 t3 t4) row with
      | none => exact ⟨_, 8, rfl, .none hv hf hfd⟩
      | some r =>
        have hr' := fd_of hfd
        have hsm := hr'.small
        have hwr := w_kids r
        obtain ⟨l', e, c1, c2⟩ := r12_change_eq n r.kids k row a m nodes slot old text hf (by omega) (by omega) (by omega)
        obtain ⟨r1, r2, r3, r4⟩ := r
        simp only [Nd.kids] at c1 c2 hwr
        simp only [Option.bind_some, show ((0 : Int) != 0) = false from rfl, cond_false, c1]
        by_cases he : e = 0
        · subst he
          have hcw := c2.w
          have hv2 := hval _ l' hr' (by omega)
          simp only [show ((0 : Int) != 0) = false from rfl, cond_false, hput _ l' hr', Option.bind_some]
          cases hvo : validB (putL (.mk t1 t2 t3 t4) row (rowN l')) with
          | false =>
            have hL := App.limit (t := .mk t1 t2 t3 t4) (o := (k, row, a, m, nodes, slot, old, text)) hv hf hr' c2 hvo
            generalize putL (Nd.mk t1 t2 t3 t4) row (rowN l') = Z at *
            obtain ⟨q1, q2, q3, q4⟩ := Z
            simp only [Option.bind_some, hv2, hvo, Bool.not_false, cond_true]
            exact ⟨_, 6, rfl, hL⟩
          | true =>
            have hO := App.ok (t := .mk t1 t2 t3 t4) (o := (k, row, a, m, nodes, slot, old, text)) hv hf hr' c2 hvo
            dsimp only at hO
            generalize putL (Nd.mk t1 t2 t3 t4) row (rowN l') = Z at *
            obtain ⟨q1, q2, q3, q4⟩ := Z
            simp only [Option.bind_some, hv2, hvo, Bool.not_true, cond_false]
            exact ⟨_, 0, rfl, hO⟩
        · have : (e != 0) = true := bne_iff_ne.2 he
          simp only [this, cond_true]
          exact ⟨_, e, rfl, .chg (t := .mk t1 t2 t3 t4) (o := (k, row, a, m, nodes, slot, old, text)) hv hf hr' c2 he⟩
end Go.Proofs.Ytfbggpmdmhgpfaa
namespace Go.Proofs.Ytfbggpmdmhgpfaa
open Go.Abs
theorem Chg.det {l l1 l2 : List Nd} {o : Op8} {e1 e2 : Int} (hf : FormP o) (h1 : Chg l o l1 e1) (h2 : Chg l o l2 e2) : l1 = l2 ∧ e1 = e2 := by
  obtain ⟨k, row, a, m, nodes, slot, old, text⟩ := o
  have hnn := need_nn hf
  cases h1 with
  | range h =>
    cases h2 with
    | range => exact ⟨rfl, rfl⟩
    | ins h' => simp only [needI, if_true] at h; omega
    | del h' => simp only [needI] at h; simp at h; omega
    | del_no h' => simp only [needI] at h; simp at h; omega
    | wrap h' => simp only [needI] at h; simp at h; omega
    | unwrap h' => have := (List.getElem?_eq_some_iff.1 h').1; simp only [needI] at h; simp at h; omega
    | unwrap_no h' => exact ⟨rfl, by have := (List.getElem?_eq_some_iff.1 h').1; simp only [needI] at h; simp at h; omega⟩
    | set h' => have := (List.getElem?_eq_some_iff.1 h').1; simp only [needI] at h; simp at h; omega
    | set_no h' => exact ⟨rfl, by have := (List.getElem?_eq_some_iff.1 h').1; simp only [needI] at h; simp at h; omega⟩
  | ins h' =>
    generalize ha : ((_ : Nat) : Int) = a' at h2
    cases h2 with
    | range h => simp only [needI, if_true] at h; omega
    | ins h => obtain rfl := Int.ofNat.inj ha; exact ⟨rfl, rfl⟩
  | del h' he =>
    generalize ha : ((_ : Nat) : Int) = a' at h2
    cases h2 with
    | range h => simp only [needI] at h; simp at h; omega
    | del h => obtain rfl := Int.ofNat.inj ha; exact ⟨rfl, rfl⟩
    | del_no h he' => obtain rfl := Int.ofNat.inj ha; exact absurd he he'
  | del_no h' he =>
    generalize ha : ((_ : Nat) : Int) = a' at h2
    cases h2 with
    | range h => simp only [needI] at h; simp at h; omega
    | del h he' => obtain rfl := Int.ofNat.inj ha; exact absurd he' he
    | del_no h he' => exact ⟨rfl, rfl⟩
  | wrap h' =>
    generalize ha : ((_ : Nat) : Int) = a' at h2
    generalize hm : ((_ : Nat) : Int) = m' at h2
    generalize hs : ((_ : Nat) : Int) = s' at h2
    cases h2 with
    | range h => simp only [needI] at h; simp at h; omega
    | wrap h => obtain rfl := Int.ofNat.inj ha; obtain rfl := Int.ofNat.inj hm; obtain rfl := Int.ofNat.inj hs; exact ⟨rfl, rfl⟩
  | unwrap h' hz hm he =>
    generalize ha : ((_ : Nat) : Int) = a' at h2
    generalize hs : ((_ : Nat) : Int) = s' at h2
    cases h2 with
    | range h => have := (List.getElem?_eq_some_iff.1 h').1; simp only [needI] at h; simp at h; omega
    | unwrap h hz2 =>
      obtain rfl := Int.ofNat.inj ha; obtain rfl := Int.ofNat.inj hs
      rw [h'] at h; cases h
      rw [hz] at hz2; cases hz2
      exact ⟨rfl, rfl⟩
    | unwrap_no h hz2 =>
      obtain rfl := Int.ofNat.inj ha; obtain rfl := Int.ofNat.inj hs
      rw [h'] at h; cases h
      exact absurd he (hz2 _ hz hm)
  | unwrap_no h' hz =>
    generalize ha : ((_ : Nat) : Int) = a' at h2
    generalize hs : ((_ : Nat) : Int) = s' at h2
    cases h2 with
    | range h => exact ⟨rfl, by have := (List.getElem?_eq_some_iff.1 h').1; simp only [needI] at h; simp at h; omega⟩
    | unwrap h hz2 hm he =>
      obtain rfl := Int.ofNat.inj ha; obtain rfl := Int.ofNat.inj hs
      rw [h'] at h; cases h
      exact absurd he (hz _ hz2 hm)
    | unwrap_no h hz2 => exact ⟨rfl, rfl⟩
  | set h' hl he =>
    generalize ha : ((_ : Nat) : Int) = a' at h2
    cases h2 with
    | range h => have := (List.getElem?_eq_some_iff.1 h').1; simp only [needI] at h; simp at h; omega
    | set h => obtain rfl := Int.ofNat.inj ha; rw [h'] at h; cases h; exact ⟨rfl, rfl⟩
    | set_no h hl2 => obtain rfl := Int.ofNat.inj ha; rw [h'] at h; cases h; exact absurd ⟨hl, he⟩ hl2
  | set_no h' hl =>
    generalize ha : ((_ : Nat) : Int) = a' at h2
    cases h2 with
    | range h => exact ⟨rfl, by have := (List.getElem?_eq_some_iff.1 h').1; simp only [needI] at h; simp at h; omega⟩
    | set h hl2 he => obtain rfl := Int.ofNat.inj ha; rw [h'] at h; cases h; exact absurd ⟨hl2, he⟩ hl
    | set_no h hl2 => exact ⟨rfl, rfl⟩
theorem Fd.det {t r1 r2 : Nd} {p : List Int} (h1 : Fd t p r1) (h2 : Fd t p r2) : r1 = r2 := Option.some.inj (h1.find.symm.trans h2.find)
theorem App.det {t t1 t2 : Nd} {o : Op8} {e1 e2 : Int} (h1 : App t o t1 e1) (h2 : App t o t2 e2) : t1 = t2 ∧ e1 = e2 := by
  have tf : ∀ {b : Bool}, b = true → b = false → False := fun h h' => by rw [h] at h'; cases h'
  have fn : ∀ {r : Nd} {p : List Int}, Fd t p r → findL t p = Option.none → False := fun h h' => by rw [h.find] at h'; cases h'
  cases h1 with
  | arg h => cases h2 with
    | arg h' => exact ⟨rfl, rfl⟩
    | form h' => exact (tf h' h).elim
    | none h' => exact (tf h' h).elim
    | chg h' => exact (tf h' h).elim
    | limit h' => exact (tf h' h).elim
    | ok h' => exact (tf h' h).elim
  | form h hf => cases h2 with
    | arg h' => exact (tf h h').elim
    | form h' => exact ⟨rfl, rfl⟩
    | none h' hf' => exact absurd hf' hf
    | chg h' hf' => exact absurd hf' hf
    | limit h' hf' => exact absurd hf' hf
    | ok h' hf' => exact absurd hf' hf
  | none h hf hn => cases h2 with
    | arg h' => exact (tf h h').elim
    | form h' hf' => exact absurd hf hf'
    | none => exact ⟨rfl, rfl⟩
    | chg h' hf' hr => exact (fn hr hn).elim
    | limit h' hf' hr => exact (fn hr hn).elim
    | ok h' hf' hr => exact (fn hr hn).elim
  | chg h hf hr hc he => cases h2 with
    | arg h' => exact (tf h h').elim
    | form h' hf' => exact absurd hf hf'
    | none h' hf' hn => exact (fn hr hn).elim
    | chg h' hf' hr' hc' he' => obtain rfl := hr.det hr'; exact ⟨rfl, (hc.det hf hc').2⟩
    | limit h' hf' hr' hc' => obtain rfl := hr.det hr'; exact absurd (hc.det hf hc').2 he
    | ok h' hf' hr' hc' => obtain rfl := hr.det hr'; exact absurd (hc.det hf hc').2 he
  | limit h hf hr hc hv => cases h2 with
    | arg h' => exact (tf h h').elim
    | form h' hf' => exact absurd hf hf'
    | none h' hf' hn => exact (fn hr hn).elim
    | chg h' hf' hr' hc' he' => obtain rfl := hr.det hr'; exact absurd (hc'.det hf hc).2 he'
    | limit h' hf' hr' hc' => exact ⟨rfl, rfl⟩
    | ok h' hf' hr' hc' hv' => obtain rfl := hr.det hr'; obtain rfl := (hc.det hf hc').1; exact (tf hv' hv).elim
  | ok h hf hr hc hv => cases h2 with
    | arg h' => exact (tf h h').elim
    | form h' hf' => exact absurd hf hf'
    | none h' hf' hn => exact (fn hr hn).elim
    | chg h' hf' hr' hc' he' => obtain rfl := hr.det hr'; exact absurd (hc'.det hf hc).2 he'
    | limit h' hf' hr' hc' hv' => obtain rfl := hr.det hr'; obtain rfl := (hc.det hf hc').1; exact (tf hv hv').elim
    | ok h' hf' hr' hc' hv' => obtain rfl := hr.det hr'; obtain rfl := (hc.det hf hc').1; exact ⟨rfl, rfl⟩
def lens : List (List Nd) → Nat
  | [] => 0
  | a :: L => a.length + lens L
theorem lens_drop {L : List (List Nd)} {i : Nat} (h : i < L.length) : lens (L.drop i) = (L[i]).length + lens (L.drop (i + 1)) := by
  rw [List.drop_eq_getElem_cons h]; rfl
theorem concat1 {L : List (List Nd)} (hl : L.length ≤ 1073741824) : ∀ (k i s : Nat), L.length - i < k → i ≤ L.length → s + lens (L.drop i) ≤ 1073741824 → m_slices_Concat_sNode_l1 L k (i : Int) (s : Int) = some ((s + lens (L.drop i) : Nat) : Int)
  | 0, i, s, h, _, _ => by omega
  | k + 1, i, s, hk, hi, hs => by
    unfold m_slices_Concat_sNode_l1
    by_cases h : i < L.length
    · have hd := lens_drop h
      rw [dec_t (Int.ofNat_lt.2 h), cond_true, at_get h]
      simp only [Option.bind_some]
      rw [wrap64_in (n := (s : Int) + ((L[i]).length : Int)) (by omega) (by omega), dec_f (by omega), cond_false, wi_succ (by omega), ← Int.natCast_add, concat1 hl k (i + 1) _ (by omega) (by omega) (by omega), hd]
      congr 2; omega
    · rw [dec_f (by omega), cond_false]
      have : L.drop i = [] := List.drop_eq_nil_iff.2 (by omega)
      rw [this]; rfl
theorem concat2 {L : List (List Nd)} (hl : L.length ≤ 1073741824) : ∀ (k i : Nat) (s : List Nd), L.length - i < k → i ≤ L.length → s.length + lens (L.drop i) ≤ 1073741824 → m_slices_Concat_sNode_l2 L k (i : Int) s = some (s ++ (L.drop i).flatten)
  | 0, i, s, h, _, _ => by omega
  | k + 1, i, s, hk, hi, hs => by
    unfold m_slices_Concat_sNode_l2
    by_cases h : i < L.length
    · have hd := lens_drop h
      rw [dec_t (Int.ofNat_lt.2 h), cond_true, at_get h]
      simp only [Option.bind_some]
      rw [req_t (by omega), wi_succ (by omega), concat2 hl k (i + 1) _ (by omega) (by omega) (by rw [List.length_append]; omega), List.drop_eq_getElem_cons h, List.flatten_cons, List.append_assoc]
    · rw [dec_f (by omega), cond_false]
      have : L.drop i = [] := List.drop_eq_nil_iff.2 (by omega)
      rw [this]; simp
theorem concat_eq (n : Nat) (L : List (List Nd)) (hn : L.length < n) (hl : L.length ≤ 1073741824) (hs : lens L ≤ 1073741824) : m_slices_Concat_sNode n L = some L.flatten := by
  have e1 := concat1 hl n 0 0 (by omega) (by omega) (by simpa using hs)
  have e2 := concat2 hl n 0 [] (by omega) (by omega) (by simpa using hs)
  rw [show ((0 : Nat) : Int) = 0 from rfl] at e1 e2
  unfold m_slices_Concat_sNode m_slices_Grow_sNode
  simp only [e1, Option.bind_some, List.drop_zero, Nat.zero_add]
  simp only [List.drop_zero, List.nil_append] at e2
  rw [req_t ⟨by omega, by omega⟩]
  simp only [Option.bind_some, e2]
theorem join_eq (n : Nat) (k : Int) (row : List Int) (p y : Nat) (m : Int) (nodes : List Nd) (slot : Int) (old text : List UInt8) (l b : List Nd) (hn : 10 < n) (hp : p + y ≤ l.length) (hl : l.length ≤ 500000000) (hb : b.length ≤ 500000000) :
    m_edit_change_join n ((k, row, (p : Int), m, nodes, slot, old, text), l) (y : Int) b = some (splS l p (p + y) b) := by
  unfold m_edit_change_join
  dsimp only
  rw [req_t ⟨by omega, by omega, by omega⟩, wrap64_in (n := (p : Int) + (y : Int)) (by omega) (by omega), ← Int.natCast_add, req_t ⟨by omega, by omega, by omega⟩]
  have e1 : (l.take (p : Int).toNat).drop (0 : Int).toNat = l.take p := by simp
  have e2 : (l.take (l.length : Int).toNat).drop ((p + y : Nat) : Int).toNat = l.drop (p + y) := by rw [Int.toNat_natCast, Int.toNat_natCast, List.take_length]
  rw [e1, e2, concat_eq n _ (by simp; omega) (by simp) (by simp only [lens, List.length_take, List.length_drop]; omega)]
  simp only [Option.bind_some, splS, List.flatten_cons, List.flatten_nil, List.append_nil, List.append_assoc]
theorem slot_row {l : List Nd} {it z : Nd} {s : Nat} (hl : formsB 1 l = true) (hit : it ∈ l) (hz : it.kids[s]? = some z) : it.kind ≠ 1 ∧ z = rowN z.kids := by
  obtain ⟨f1, f2⟩ := forms_mem hl hit
  have hk : (it.kind == 1) = false := by simpa using f2
  obtain ⟨i1, i2, i3, i4⟩ := it
  simp only [Nd.kind] at hk
  simp only [Nd.kids] at hz
  obtain ⟨g1, g2⟩ := forms_mem (form_kids f1) (List.mem_of_getElem? hz)
  rw [hk] at g2
  have hz1 : z.kind = 1 := by
    cases e : z.kind == 1 with
    | true => exact eq_of_beq e
    | false => rw [e] at g2; cases g2
  exact ⟨beq_eq_false_iff_ne.1 hk, (form_row g1 hz1).1⟩
theorem item_kind {l : List Nd} {it : Nd} (hl : formsB 1 l = true) (hit : it ∈ l) : it.kind ≠ 1 := by
  obtain ⟨_, f2⟩ := forms_mem hl hit
  exact beq_eq_false_iff_ne.1 (by simpa using f2)
theorem valid_forms {l : List Nd} (h : validB (rowN l) = true) : formsB 1 l = true := by
  have := (valid_row h).2
  exact this
theorem Slots_eq (v : Nd) (h : v.kind ≠ 1) : m_node_Slots v = some (v.kids.length : Int) := by
  obtain ⟨a, b, c, d⟩ := v
  unfold m_node_Slots
  simp only [Nd.kind] at h
  simp only [ne_beq h, cond_false, Nd.kids]
theorem node_validItems_eq (n : Nat) (nodes : List Nd) (h : Nd.ws nodes + 50 < n) (hb : Nd.ws nodes ≤ 67000000) : m_node_ValidItems n nodes = some (validB (rowN nodes)) := by
  unfold m_node_ValidItems
  dsimp only
  rw [node_Valid_eq n _ (by simp only [Nd.w, List.length_nil]; omega) (by simp only [Nd.w, List.length_nil]; omega)]; rfl
theorem container_eq (n : Nat) (l : List Nd) (slot : Int) (h : Nd.ws l + 50 < n) (hb : Nd.ws l ≤ 67000000) : ∃ b, m_edit_container n l slot = some b ∧ (b = true ↔ TemplP l slot) := by
  unfold m_edit_container
  dsimp only
  cases e1 : ((l.length : Int) != 1) with
  | true => exact ⟨false, rfl, (fun h => by cases h), fun ⟨v, s, z, h, _⟩ => by rw [h] at e1; cases e1⟩
  | false =>
    have hl : l.length = 1 := by
      by_cases h : (l.length : Int) = 1
      · omega
      · rw [bne_iff_ne.2 h] at e1; cases e1
    obtain ⟨v, rfl⟩ := List.length_eq_one_iff.1 hl
    have hv := node_validItems_eq n [v] h hb
    have h0 : at? [v] (0 : Int) = some v := rfl
    simp only [cond_false, hv, Option.bind_some]
    cases hvb : validB (rowN [v]) with
    | false => exact ⟨false, rfl, (fun h => by cases h), fun ⟨v', s, z, h, _, h2, _⟩ => by cases h; rw [hvb] at h2; cases h2⟩
    | true =>
      have hsl := Slots_eq v (item_kind (valid_forms hvb) List.mem_cons_self)
      obtain ⟨a, b, c, d⟩ := v
      simp only [Nd.kids] at hsl
      simp only [Bool.not_true, cond_false]
      by_cases h1 : slot < 0
      · rw [dec_t h1]
        exact ⟨false, rfl, (fun h => by cases h), fun ⟨v, s, z, h, hs, _⟩ => by omega⟩
      · rw [dec_f h1]
        simp only [cond_false, h0, Option.bind_some, hsl]
        by_cases h2 : (d.length : Int) ≤ slot
        · rw [dec_t h2]
          refine ⟨false, rfl, (fun h => by cases h), fun ⟨v, s, z, h, hs, _, hz, _⟩ => ?_⟩
          cases h
          have := (List.getElem?_eq_some_iff.1 hz).1
          simp only [Nd.kids] at this
          omega
        · rw [dec_f h2]
          obtain ⟨p, rfl, hp, hg⟩ := at_int (l := d) (i := slot) (by omega) (by omega)
          have hz : d[p]? = some d[p] := List.getElem?_eq_getElem hp
          rw [hg]
          generalize d[p] = z at hz
          obtain ⟨x1, x2, x3, x4⟩ := z
          simp only [cond_false, Option.bind_some]
          refine ⟨_, rfl, fun h => ⟨_, p, _, rfl, rfl, hvb, hz, ?_⟩, fun ⟨v, s, z, h, hs, _, hz', hk⟩ => ?_⟩
          · have := eq_of_beq h
            exact List.eq_nil_of_length_eq_zero (by simp only [Nd.kids]; omega)
          · cases h
            obtain rfl : p = s := by omega
            simp only [Nd.kids] at hz'
            rw [hz] at hz'
            cases hz'
            simp only [Nd.kids] at hk
            subst hk
            rfl
theorem edit_Formed_eq (n : Nat) (k : Int) (row : List Int) (a m : Int) (nodes : List Nd) (slot : Int) (old text : List UInt8) (h : Nd.ws nodes + 50 < n) (hb : Nd.ws nodes ≤ 67000000) :
    ∃ b, m_edit_Formed n (k, row, a, m, nodes, slot, old, text) = some b ∧ (b = true ↔ FormP (k, row, a, m, nodes, slot, old, text)) := by
  have hv := node_validItems_eq n nodes h hb
  obtain ⟨tb, t1, t2⟩ := container_eq n nodes slot h hb
  have hlen : decide (0 < (nodes.length : Int)) = true ↔ nodes ≠ [] := by cases nodes <;> simp
  have hlen0 : ((nodes.length : Int) == 0) = true ↔ nodes = [] := by cases nodes <;> simp <;> omega
  have htx : (bif (!(old == [])) then some true else some (!(text == [])) : Option Bool) = some (!((old == []) && (text == []))) := by cases old == [] <;> cases text == [] <;> rfl
  unfold m_edit_Formed
  simp only [hv, t1, htx, Option.bind_some, FormP]
  by_cases k12 : k = 1 ∨ k = 2
  · have e : (bif (k == 1) then some (k == 1) else some (k == 2) : Option Bool) = some true := by rcases k12 with rfl | rfl <;> rfl
    have hk : ¬ (k = 3 ∨ k = 4) ∧ ¬ k = 5 := by omega
    rw [e]
    simp only [Option.bind_some, cond_true, k12, hk.1, hk.2, true_and, false_and, or_false]
    rw [← hlen]
    generalize decide (0 < (nodes.length : Int)) = b1
    generalize validB (rowN nodes) = b2
    cases e1 : m == 0 <;> simp only [cond_true, cond_false, Option.bind_some]
    · exact ⟨false, rfl, by simp [beq_eq_false_iff_ne.1 e1]⟩
    cases e2 : slot == 0 <;> simp only [cond_true, cond_false, Option.bind_some]
    · exact ⟨false, rfl, by simp [beq_eq_false_iff_ne.1 e2]⟩
    cases e3 : old == [] <;> simp only [Bool.false_and, Bool.true_and, Bool.not_false, Bool.not_not, cond_true, cond_false, Option.bind_some]
    · exact ⟨false, rfl, by simp [beq_eq_false_iff_ne.1 e3]⟩
    cases e4 : text == [] <;> simp only [Bool.not_true, Bool.not_false, cond_true, cond_false, Option.bind_some]
    · exact ⟨false, rfl, by simp [beq_eq_false_iff_ne.1 e4]⟩
    rw [eq_of_beq e1, eq_of_beq e2, eq_of_beq e3, eq_of_beq e4]
    cases b1 <;> cases b2 <;> exact ⟨_, rfl, by simp⟩
  · have e : (bif (k == 1) then some (k == 1) else some (k == 2) : Option Bool) = some false := by
      rw [ne_beq (fun h => k12 (.inl h)), ne_beq (fun h => k12 (.inr h))]; rfl
    rw [e]
    simp only [Option.bind_some, cond_false, k12, false_and, false_or]
    by_cases k34 : k = 3 ∨ k = 4
    · have e : (bif (k == 3) then some (k == 3) else some (k == 4) : Option Bool) = some true := by rcases k34 with rfl | rfl <;> rfl
      have hk : ¬ k = 5 := by omega
      rw [e]
      simp only [Option.bind_some, cond_true, k34, hk, true_and, false_and, or_false]
      rw [← t2]
      by_cases hm : 0 ≤ m
      · rw [dec_t hm]
        simp only [cond_true]
        cases e3 : old == [] <;> simp only [Bool.false_and, Bool.true_and, Bool.not_false, Bool.not_not, cond_true, cond_false, Option.bind_some]
        · exact ⟨false, rfl, by simp [beq_eq_false_iff_ne.1 e3]⟩
        cases e4 : text == [] <;> simp only [Bool.not_true, Bool.not_false, cond_true, cond_false, Option.bind_some]
        · exact ⟨false, rfl, by simp [beq_eq_false_iff_ne.1 e4]⟩
        rw [eq_of_beq e3, eq_of_beq e4]
        exact ⟨_, rfl, by simp [hm]⟩
      · rw [dec_f hm]
        exact ⟨false, rfl, by simp [hm]⟩
    · have e : (bif (k == 3) then some (k == 3) else some (k == 4) : Option Bool) = some false := by
        rw [ne_beq (fun h => k34 (.inl h)), ne_beq (fun h => k34 (.inr h))]; rfl
      rw [e]
      simp only [Option.bind_some, cond_false, k34, false_and, false_or]
      by_cases k5 : k = 5
      · subst k5
        simp only [beq_self_eq_true, cond_true, Option.bind_some, true_and]
        rw [← hlen0]
        generalize ((nodes.length : Int) == 0) = b1
        cases e1 : m == 0 <;> simp only [cond_true, cond_false, Option.bind_some]
        · exact ⟨false, rfl, by simp [beq_eq_false_iff_ne.1 e1]⟩
        cases e2 : slot == 0 <;> simp only [cond_true, cond_false, Option.bind_some]
        · exact ⟨false, rfl, by simp [beq_eq_false_iff_ne.1 e2]⟩
        rw [eq_of_beq e1, eq_of_beq e2]
        cases b1 <;> simp only [cond_true, cond_false, Option.bind_some]
        · exact ⟨false, rfl, by simp⟩
        cases e0 : old == text <;> simp only [Bool.not_true, Bool.not_false]
        · exact ⟨true, rfl, by simp [beq_eq_false_iff_ne.1 e0]⟩
        · exact ⟨false, rfl, by simp [eq_of_beq e0]⟩
      · rw [ne_beq k5]
        exact ⟨false, rfl, by simp [k5]⟩
end Go.Proofs.Ytfbggpmdmhgpfaa
namespace Go.Proofs.Ytfbggpmdmhgpfaa
open Go.Abs
theorem enough_eq (k : Int) (row : List Int) (a m : Int) (nodes : List Nd) (slot : Int) (old text : List UInt8) (l : List Nd) (hl : l.length ≤ 1073741824) :
    m_edit_change_enough ((k, row, a, m, nodes, slot, old, text), l) = some (if a < 0 ∨ (l.length : Int) < a ∨ (l.length : Int) - a < needI k m nodes then 2 else 0) := by
  unfold m_edit_change_enough
  dsimp only
  rw [need_opt]
  simp only [Option.bind_some]
  by_cases h1 : a < 0
  · rw [dec_t h1, if_pos (.inl h1)]; rfl
  rw [dec_f h1]
  by_cases h2 : (l.length : Int) < a
  · rw [dec_t h2, if_pos (.inr (.inl h2))]; rfl
  rw [dec_f h2, wrap64_in (n := (l.length : Int) - a) (by omega) (by omega)]
  by_cases h3 : (l.length : Int) - a < needI k m nodes
  · rw [dec_t h3, if_pos (.inr (.inr h3))]; rfl
  rw [dec_f h3, if_neg (fun h => h.elim h1 fun h => h.elim h2 h3)]; rfl
theorem fill_iff {v it z : Nd} {s : Nat} {y : Nd} (hv : v.kids[s]? = some y) (hy : y = rowN []) (hz : it.kids[s]? = some z) (hzr : z = rowN z.kids) : Nd.mk it.kind it.text it.cols (it.kids.set s (rowN [])) = v ↔ it = fillN v s z.kids := by
  obtain ⟨v1, v2, v3, v4⟩ := v
  obtain ⟨i1, i2, i3, i4⟩ := it
  obtain ⟨z1, z2, z3, z4⟩ := z
  obtain ⟨rfl, rfl, rfl, -⟩ := Nd.mk.inj hzr
  clear hzr
  simp only [Nd.kids] at hv hz
  simp only [fillN, Nd.kind, Nd.text, Nd.cols, Nd.kids]
  subst hy
  constructor
  · intro h
    obtain ⟨rfl, rfl, rfl, rfl⟩ := Nd.mk.inj h
    rw [List.set_set]
    congr 1
    have := set_back (y := .mk 1 [] 0 z4) hz
    rw [List.set_set] at this
    exact this.symm
  · intro h
    obtain ⟨rfl, rfl, rfl, rfl⟩ := Nd.mk.inj h
    rw [List.set_set]
    congr 1
    have := set_back (y := rowN []) hv
    rw [List.set_set] at this
    exact this
theorem change_apply_eq (n : Nat) (l : List Nd) (k : Int) (row : List Int) (a m : Int) (nodes : List Nd) (slot : Int) (old text : List UInt8) (hf : FormP (k, row, a, m, nodes, slot, old, text)) (hv : formsB 1 l = true) (hn : 2 * Nd.ws l + 2 * Nd.ws nodes + 50 < n) (ha : Nd.ws l ≤ 60000000) (hb : Nd.ws nodes ≤ 2000000) :
    ∃ l' e, m_edit_change_apply n ((k, row, a, m, nodes, slot, old, text), l) = some (l', e) ∧ Chg l (k, row, a, m, nodes, slot, old, text) l' e := by
  have la := Nd.ws_len l
  have lb := Nd.ws_len nodes
  have cl := Nd.cnts_ws l
  have cb := Nd.cnts_ws nodes
  have hnn := need_nn hf
  unfold m_edit_change_apply
  simp only [enough_eq _ _ _ _ _ _ _ _ l (show l.length ≤ 1073741824 by omega), Option.bind_some]
  by_cases hr : a < 0 ∨ (l.length : Int) < a ∨ (l.length : Int) - a < needI k m nodes
  · rw [if_pos hr]; exact ⟨[], 2, rfl, .range hr⟩
  rw [if_neg hr]
  simp only [show ((0 : Int) != 0) = false from rfl, cond_false]
  have h1 : ¬ a < 0 := fun h => hr (.inl h)
  have h2 : ¬ (l.length : Int) < a := fun h => hr (.inr (.inl h))
  have h3 : ¬ (l.length : Int) - a < needI k m nodes := fun h => hr (.inr (.inr h))
  obtain ⟨p, rfl⟩ := Int.eq_ofNat_of_zero_le (show 0 ≤ a by omega)
  obtain ⟨y, hy⟩ := Int.eq_ofNat_of_zero_le hnn
  rw [hy] at h3
  have hseg := seg_ws l (Nat.le_add_right p y)
  have lseg := Nd.ws_len ((l.take (p + y)).drop p)
  have cseg := Nd.cnts_ws ((l.take (p + y)).drop p)
  have hj : ∀ by' : List Nd, by'.length ≤ 500000000 → m_edit_change_join n ((k, row, (p : Int), m, nodes, slot, old, text), l) (y : Int) by' = some (splS l p (p + y) by') := fun by' hby => join_eq n k row p y m nodes slot old text l by' (by omega) (by omega) (by omega) hby
  rcases hf with ⟨rfl | rfl, h0⟩ | ⟨rfl | rfl, hm, ⟨v, s, z, rfl, rfl, hvv, hz, hzk⟩, _⟩ | ⟨rfl, h0⟩
  · obtain rfl : y = 0 := by have : needI 1 m nodes = 0 := rfl; omega
    rw [show ((0 : Nat) : Int) = 0 from rfl] at hj
    simp only [beq_self_eq_true, cond_true, m_edit_change_insert, hj nodes (by omega), Option.bind_some]
    exact ⟨_, 0, rfl, .ins (by omega)⟩
  · obtain rfl : y = nodes.length := by have : needI 2 m nodes = (nodes.length : Int) := rfl; omega
    obtain ⟨r, g1, g2⟩ := (node_Equal_eq n).2 ((l.take (p + nodes.length)).drop p) nodes (by omega) (by omega)
    simp only [show ((2 : Int) == 1) = false from rfl, cond_false, beq_self_eq_true, cond_true, m_edit_change_remove]
    rw [wrap64_in (n := (p : Int) + (nodes.length : Int)) (by omega) (by omega), ← Int.natCast_add, req_t ⟨by omega, by omega, by omega⟩, Int.toNat_natCast, Int.toNat_natCast, g1]
    simp only [Option.bind_some]
    cases r with
    | false => exact ⟨[], 7, rfl, .del_no (by omega) fun e => by have := g2.2 e; cases this⟩
    | true =>
      simp only [Bool.not_true, cond_false, hj [] (by simp), Option.bind_some]
      exact ⟨_, 0, rfl, .del (by omega) (g2.1 rfl)⟩
  · obtain rfl : m = (y : Int) := hy
    obtain ⟨hvk, hzr⟩ := slot_row (valid_forms hvv) List.mem_cons_self hz
    rw [hzk] at hzr
    have hv0 : at? [v] (0 : Int) = some v := rfl
    have hcv := Nd.cnts_mem (List.mem_cons_self (a := v) (l := []))
    have hd : m_deep_Node_own v = some v := req_t ⟨by omega, fun e => by rw [e] at hz; simp at hz⟩
    have hza := at_some hz
    have hcl : m_slices_Clone_sNode ((l.take (p + y)).drop p) = some ((l.take (p + y)).drop p) := req_t (by omega)
    have hj' := hj [fillN v s ((l.take (p + y)).drop p)] (by simp)
    have hfx : fillN v s ((l.take (p + y)).drop p) = Nd.mk v.kind v.text v.cols (v.kids.set s (rowN ((l.take (p + y)).drop p))) := rfl
    rw [hfx] at hj'
    have hC := Chg.wrap (l := l) (row := row) (p := p) (m := y) (v := v) (s := s) (old := old) (text := text) (by omega)
    have hfx2 : fillN v s (segS l p (p + y)) = Nd.mk v.kind v.text v.cols (v.kids.set s (rowN ((l.take (p + y)).drop p))) := rfl
    rw [hfx2] at hC
    subst hzr
    obtain ⟨v1, v2, v3, v4⟩ := v
    simp only [Nd.kind, Nd.text, Nd.cols, Nd.kids] at hza hj' hC
    unfold rowN at hza
    simp only [show ((3 : Int) == 1) = false from rfl, show ((3 : Int) == 2) = false from rfl, cond_false, beq_self_eq_true, cond_true, m_edit_change_wrap, hv0, hd, Option.bind_some]
    rw [wrap64_in (n := (p : Int) + (y : Int)) (by omega) (by omega), ← Int.natCast_add, req_t ⟨by omega, by omega, by omega⟩, Int.toNat_natCast, Int.toNat_natCast, hcl]
    simp only [Option.bind_some, hza, Int.toNat_natCast]
    unfold rowN at hj' hC
    rw [hj']
    exact ⟨_, 0, rfl, hC⟩
  · obtain rfl : y = 1 := by have : needI 4 m [v] = 1 := rfl; omega
    obtain ⟨hvk, hzr⟩ := slot_row (valid_forms hvv) List.mem_cons_self hz
    rw [hzk] at hzr
    have hv0 : at? [v] (0 : Int) = some v := rfl
    have hpl : p < l.length := by omega
    have hit : l[p]? = some l[p] := List.getElem?_eq_getElem hpl
    have hia : at? l (p : Int) = some l[p] := at_get hpl
    have hmem := List.getElem_mem hpl
    generalize l[p] = it at hit hia hmem
    have hiw := Nd.w_mem hmem
    have hic := Nd.cnt_w it
    have hik := item_kind hv hmem
    have hslots := Slots_eq it hik
    have hdn : m_deep_Node it = some it := deep_eq (by omega)
    have hwi := w_kids it
    have hlk4 := Nd.ws_len it.kids
    simp only [show ((4 : Int) == 1) = false from rfl, show ((4 : Int) == 2) = false from rfl, show ((4 : Int) == 3) = false from rfl, cond_false, beq_self_eq_true, cond_true]
    have hnone : m_edit_change_unwrap_none ((4, row, (p : Int), m, [v], (s : Int), old, text), l) = if (it.kids.length : Int) ≤ (s : Int) then some ([], 7) else none := by
      unfold m_edit_change_unwrap_none
      simp only [hia]
      by_cases h : (it.kids.length : Int) ≤ (s : Int)
      · rw [if_pos h]
        obtain ⟨i1, i2, i3, i4⟩ := it
        simp only [Nd.kids] at h hslots
        simp only [Option.bind_some, hdn, hslots, dec_t h]; rfl
      · rw [if_neg h]
        obtain ⟨i1, i2, i3, i4⟩ := it
        simp only [Nd.kids] at h hslots
        simp only [Option.bind_some, hdn, hslots, dec_f h]; rfl
    by_cases hsl : (it.kids.length : Int) ≤ (s : Int)
    · have : m_edit_change_unwrap n ((4, row, (p : Int), m, [v], (s : Int), old, text), l) = some ([], 7) := by
        unfold m_edit_change_unwrap
        rw [hnone, if_pos hsl]
      rw [this]
      refine ⟨[], 7, rfl, .unwrap_no hit fun z' hz' => ?_⟩
      have := (List.getElem?_eq_some_iff.1 hz').1
      omega
    have hsi : s < it.kids.length := by omega
    have hzi : it.kids[s]? = some it.kids[s] := List.getElem?_eq_getElem hsi
    generalize it.kids[s] = z' at hzi
    obtain ⟨_, hzr'⟩ := slot_row hv hmem hzi
    have hzw := Nd.w_mem (List.mem_of_getElem? hzi)
    have hzw2 := w_kids z'
    have hzl := Nd.ws_len z'.kids
    have hfi := fill_iff hz hzr hzi hzr'
    have hws := ws_setp (y := rowN []) hzi
    have hj' := hj z'.kids (by omega)
    rw [show ((1 : Nat) : Int) = 1 from rfl] at hj'
    have hcs : (Nd.mk it.kind it.text it.cols (it.kids.set s (rowN []))).cnt ≤ it.w + 1 := by
      have h1 := Nd.cnt_w (Nd.mk it.kind it.text it.cols (it.kids.set s (rowN [])))
      have e : (rowN []).w = 1 := rfl
      simp only [Nd.w] at h1
      omega
    obtain ⟨rb, g1, g2⟩ := (node_Equal_eq n).1 (Nd.mk it.kind it.text it.cols (it.kids.set s (rowN []))) v (by omega) (by omega)
    have hdo : m_deep_Node_own it = some it := req_t ⟨by omega, fun e => by rw [e] at hzi; simp at hzi⟩
    have hza := at_some hzi
    have hkids : ∃ l' e, m_edit_change_unwrap_kids n ((4, row, (p : Int), m, [v], (s : Int), old, text), l) = some (l', e) ∧ Chg l (4, row, (p : Int), m, [v], (s : Int), old, text) l' e := by
      unfold m_edit_change_unwrap_kids
      obtain ⟨i1, i2, i3, i4⟩ := it
      obtain ⟨v1, v2, v3, v4⟩ := v
      obtain ⟨z1, z2, z3, z4⟩ := z'
      obtain ⟨rfl, rfl, rfl, -⟩ := Nd.mk.inj hzr'
      simp only [Nd.kind, Nd.text, Nd.cols, Nd.kids] at hza g1 hslots hj' hsl
      simp only [hia, Option.bind_some, hdo, hslots, dec_f hsl, cond_false, hza, hv0, Int.toNat_natCast]
      by_cases hmz : (z4.length : Int) = m
      · have : ((z4.length : Int) != m) = false := by unfold bne; rw [beq_iff_eq.2 hmz]; rfl
        unfold rowN at g1
        rw [this]
        simp only [cond_false, g1, Option.bind_some]
        cases rb with
        | false =>
          refine ⟨[], 7, rfl, .unwrap_no hit fun z'' hz'' hm'' he => ?_⟩
          rw [hzi] at hz''
          cases hz''
          have := g2.2 (hfi.2 he)
          cases this
        | true =>
          simp only [Bool.not_true, cond_false, hj', Option.bind_some]
          exact ⟨_, 0, rfl, .unwrap (z := .mk 1 [] 0 z4) hit hzi hmz (hfi.1 (g2.1 rfl))⟩
      · have : ((z4.length : Int) != m) = true := bne_iff_ne.2 hmz
        rw [this]
        refine ⟨[], 7, rfl, .unwrap_no hit fun z'' hz'' hm'' he => ?_⟩
        rw [hzi] at hz''
        cases hz''
        exact hmz hm''
    obtain ⟨l', e, h4, h5⟩ := hkids
    have : m_edit_change_unwrap n ((4, row, (p : Int), m, [v], (s : Int), old, text), l) = some (l', e) := by
      unfold m_edit_change_unwrap
      rw [hnone, if_neg hsl]
      exact h4
    rw [this]
    exact ⟨l', e, rfl, h5⟩
  · obtain rfl : y = 1 := by have : needI 5 m nodes = 1 := rfl; omega
    have hpl : p < l.length := by omega
    have hit : l[p]? = some l[p] := List.getElem?_eq_getElem hpl
    have hia : at? l (p : Int) = some l[p] := at_get hpl
    generalize l[p] = it at hit hia
    obtain ⟨i1, i2, i3, i4⟩ := it
    rw [show ((1 : Nat) : Int) = 1 from rfl] at hj
    simp only [show ((5 : Int) == 1) = false from rfl, show ((5 : Int) == 2) = false from rfl, show ((5 : Int) == 3) = false from rfl, show ((5 : Int) == 4) = false from rfl, cond_false, m_edit_change_set, hia, Option.bind_some, leaf_opt]
    cases hlf : leafB i1 with
    | false => exact ⟨[], 7, rfl, .set_no hit fun h => by have := h.1; simp only [Nd.kind] at this; rw [hlf] at this; cases this⟩
    | true =>
      simp only [cond_true, Option.bind_some]
      cases ht : i2 == old with
      | false => exact ⟨[], 7, rfl, .set_no hit fun h => beq_eq_false_iff_ne.1 ht h.2⟩
      | true =>
        simp only [Bool.not_true, cond_false, hj [Nd.mk i1 text i3 i4] (by simp), Option.bind_some]
        exact ⟨_, 0, rfl, .set (it := .mk i1 i2 i3 i4) hit hlf (eq_of_beq ht)⟩
theorem edit_Apply_eq (n : Nat) (t : Nd) (o : Op8) (hn : 200000000 < n) (ht : t.w ≤ 50000000) (hb : Nd.ws o.nodes ≤ 2000000) (hx : o.2.2.2.2.2.2.2.length ≤ 2000000) : ∃ t' e, m_edit_Apply n t o = some (t', e) ∧ App t o t' e := by
  obtain ⟨k, row, a, m, nodes, slot, old, text⟩ := o
  simp only [Op8.nodes] at hb
  dsimp only at hx
  have v1 := node_Valid_eq n t (by omega) (by omega)
  have ct := Nd.cnt_w t
  obtain ⟨b, f1, f2⟩ := edit_Formed_eq n k row a m nodes slot old text (by omega) (by omega)
  have e1 := node_Row_eq n t row v1 (by omega)
  have hwith : ∀ r l, Fd t row r → Nd.ws l ≤ 5000000 + r.w → m_node_With n t row (rowN l) = some (withS t row (rowN l)) := fun r l h hl => by
    have hs := h.small
    have hc : (rowN l).w = Nd.ws l + 1 := by simp [rowN, Nd.w]
    refine node_With_eq n t row (rowN l) v1 (node_Valid_eq n _ (by omega) (by omega)) (fun z hz => ?_) (by omega) (by have := Nd.cnt_w (rowN l); omega)
    obtain rfl := h.det hz
    have := h.w (rowN l)
    exact node_Valid_eq n _ (by omega) (by omega)
  obtain ⟨t1, t2, t3, t4⟩ := t
  unfold m_edit_Apply
  simp only [v1, f1, e1, Option.bind_some]
  cases hv : validB (.mk t1 t2 t3 t4) with
  | false => exact ⟨_, 1, rfl, .arg hv⟩
  | true =>
    simp only [Bool.not_true, cond_false]
    cases b with
    | false => exact ⟨_, 4, rfl, .form hv fun h => by have := f2.2 h; cases this⟩
    | true =>
      have hf := f2.1 rfl
      simp only [Bool.not_true, cond_false, rowS, if_pos hv]
      cases hfd : findL (.mk t1 t2 t3 t4) row with
      | none => exact ⟨_, 8, rfl, .none hv hf hfd⟩
      | some r =>
        have hr' := fd_of hfd
        have hsm := hr'.small
        have hwr := w_kids r
        have hvr := hr'.valid hv
        have hrr := (valid_row hvr).1
        have hfr := (valid_row hvr).2
        obtain ⟨l', e, c1, c2⟩ := change_apply_eq n r.kids k row a m nodes slot old text hf hfr (by omega) (by omega) (by omega)
        obtain ⟨r1, r2, r3, r4⟩ := r
        obtain ⟨rfl, rfl, rfl, -⟩ := Nd.mk.inj hrr
        simp only [Nd.kids] at c1 c2 hwr
        simp only [Option.bind_some, show ((0 : Int) != 0) = false from rfl, cond_false, c1]
        by_cases he : e = 0
        · subst he
          have hcw := c2.w
          have hw := hwith _ l' hr' (by omega)
          unfold rowN at hw
          simp only [show ((0 : Int) != 0) = false from rfl, cond_false, hw, Option.bind_some]
          cases hvo : validB (putL (.mk t1 t2 t3 t4) row (rowN l')) with
          | false =>
            have hL := App.limit (t := .mk t1 t2 t3 t4) (o := (k, row, a, m, nodes, slot, old, text)) hv hf hr' c2 hvo
            have hws : ∃ q, withS (.mk t1 t2 t3 t4) row (.mk 1 [] 0 l') = (zeroNd, q) ∧ q ≠ 0 := by
              unfold withS
              rw [if_pos hv, hfd]
              dsimp only
              by_cases h : validB (.mk 1 [] 0 l') = true
              · rw [if_pos h]
                unfold rowN at hvo
                rw [hvo, if_neg (by decide)]
                exact ⟨6, rfl, by decide⟩
              · rw [if_neg h]; exact ⟨4, rfl, by decide⟩
            obtain ⟨q, hq, hq0⟩ := hws
            rw [hq]
            have : (q != 0) = true := bne_iff_ne.2 hq0
            simp only [zeroNd, this, cond_true]
            exact ⟨_, 6, rfl, hL⟩
          | true =>
            have hO := App.ok (t := .mk t1 t2 t3 t4) (o := (k, row, a, m, nodes, slot, old, text)) hv hf hr' c2 hvo
            have hvl := (hr'.put (rowN l')).valid hvo
            have hws := withS_at (r := rowN l') hv hfd hvl hvo
            unfold rowN at hws
            rw [hws]
            dsimp only at hO
            unfold rowN at hO
            generalize putL (Nd.mk t1 t2 t3 t4) row (Nd.mk 1 [] 0 l') = Z at *
            obtain ⟨q1, q2, q3, q4⟩ := Z
            exact ⟨_, 0, rfl, hO⟩
        · have : (e != 0) = true := bne_iff_ne.2 he
          simp only [this, cond_true]
          exact ⟨_, e, rfl, .chg (t := .mk t1 t2 t3 t4) (o := (k, row, a, m, nodes, slot, old, text)) hv hf hr' c2 he⟩
theorem App.w {t t' : Nd} {o : Op8} {e : Int} (h : App t o t' e) : t'.w ≤ t.w + Nd.ws o.nodes + o.2.2.2.2.2.2.2.length + 4 := by
  have hz : zeroNd.w = 1 := rfl
  obtain ⟨k, row, a, m, nodes, slot, old, text⟩ := o
  simp only [Op8.nodes]
  cases h with
  | arg => omega
  | form => omega
  | none => omega
  | chg => omega
  | limit => omega
  | @ok r l h hf hr hc hv =>
    have h1 := hr.w (rowN l)
    have h2 := hc.w
    have h3 := w_kids r
    have h4 : (rowN l).w = Nd.ws l + 1 := by simp [rowN, Nd.w]
    dsimp only at h1 ⊢
    omega
end Go.Proofs.Ytfbggpmdmhgpfaa
namespace Go.Proofs.Ytfbggpmdmhgpfaa
open Go.Abs
def Op8.row (o : Op8) : List Int := o.2.1
def Op8.text (o : Op8) : List UInt8 := o.2.2.2.2.2.2.2
theorem equal_self (n : Nat) (t : Nd) (h : 2 * t.cnt < n) (hc : t.cnt ≤ 67108864) : m_r09_Equal n t t = some true := by
  obtain ⟨r, h1, h2⟩ := (Equal_eq n).1 t t h hc
  obtain rfl := h2.2 rfl
  exact h1
theorem awake12_ok (n : Nat) (hn : 200000000 < n) : m_l12_awake n = some true := by
  obtain ⟨t', e, h1, h2⟩ := edit_Apply_eq n (.mk 1 [] 0 [.mk 2 [97] 0 [], .mk 2 [98] 0 []]) (3, [], 0, 2, [.mk 5 [] 0 [.mk 1 [] 0 [], .mk 1 [] 0 []]], 0, [], []) hn (by decide) (by decide) (by decide)
  have h3 : App (.mk 1 [] 0 [.mk 2 [97] 0 [], .mk 2 [98] 0 []]) (3, [], 0, 2, [.mk 5 [] 0 [.mk 1 [] 0 [], .mk 1 [] 0 []]], 0, [], []) (.mk 1 [] 0 [.mk 5 [] 0 [.mk 1 [] 0 [.mk 2 [97] 0 [], .mk 2 [98] 0 []], .mk 1 [] 0 []]]) 0 := by
    have hf : FormP (3, [], 0, 2, [.mk 5 [] 0 [.mk 1 [] 0 [], .mk 1 [] 0 []]], 0, [], []) := .inr (.inl ⟨.inl rfl, by decide, ⟨_, 0, _, rfl, rfl, by decide, rfl, rfl⟩, rfl, rfl⟩)
    have hc := Chg.wrap (l := [.mk 2 [97] 0 [], .mk 2 [98] 0 []]) (row := []) (p := 0) (m := 2) (v := .mk 5 [] 0 [.mk 1 [] 0 [], .mk 1 [] 0 []]) (s := 0) (old := []) (text := []) (by decide)
    have := App.ok (t := .mk 1 [] 0 [.mk 2 [97] 0 [], .mk 2 [98] 0 []]) (by decide) hf (.nil _) hc (by dsimp only; rw [putL_nil']; decide)
    dsimp only at this
    rw [putL_nil'] at this
    exact this
  obtain ⟨rfl, rfl⟩ := h2.det h3
  unfold m_l12_awake m_l12_awake_1
  simp only [Option.bind_some, h1, beq_self_eq_true, cond_true]
  rw [equal_self n _ (by have : (Nd.mk 1 [] 0 [.mk 5 [] 0 [.mk 1 [] 0 [.mk 2 [97] 0 [], .mk 2 [98] 0 []], .mk 1 [] 0 []]]).cnt = 6 := rfl; omega) (by decide)]
  rfl
def FewO (o : Op8) : Prop := Nd.cnts o.nodes ≤ 99 ∧ o.row.length ≤ 60
theorem r12_few_eq (n : Nat) (o : Op8) (h : 310 < n) : ∃ y, m_r12_Few n o = some y ∧ (y = true → FewO o) := by
  obtain ⟨k, row, a, m, nodes, slot, old, text⟩ := o
  obtain ⟨y, h1, h2⟩ := Few_eq n (.mk 1 [] 0 nodes) 100 (by omega) (by omega)
  rw [show ((100 : Nat) : Int) = 100 from rfl] at h1
  unfold m_r12_Few
  simp only [m_r09_ToRow, Option.bind_some, h1]
  cases y with
  | false => exact ⟨false, rfl, fun h => by cases h⟩
  | true =>
    refine ⟨_, rfl, fun h => ⟨?_, ?_⟩⟩
    · have := h2 rfl
      simp only [Nd.cnt] at this
      show Nd.cnts nodes ≤ 99
      omega
    · have := of_decide_eq_true h
      show row.length ≤ 60
      omega
theorem few_loop12 (n : Nat) (hn : 310 < n) {ops : List Op8} (hl : ops.length ≤ 1073741824) : ∀ (k i : Nat), ops.length - i < k → i ≤ ops.length →
    ∃ f, m_l12_few_l1 n ops k (i : Int) = some f ∧ (f = .ret false ∨ (f = .go () ∧ ∀ o ∈ ops.drop i, FewO o))
  | 0, i, h, _ => by omega
  | k + 1, i, h, hi => by
    unfold m_l12_few_l1
    by_cases hj : i < ops.length
    · obtain ⟨y, h1, h2⟩ := r12_few_eq n ops[i] hn
      have hd := List.drop_eq_getElem_cons hj
      rw [dec_t (Int.ofNat_lt.2 hj), cond_true, at_get hj]
      generalize ops[i] = o at *
      obtain ⟨q1, q2, q3, q4, q5, q6, q7, q8⟩ := o
      simp only [Option.bind_some, h1]
      cases y with
      | false => exact ⟨_, rfl, .inl rfl⟩
      | true =>
        obtain ⟨f, g1, g2⟩ := few_loop12 n hn hl k (i + 1) (by omega) (by omega)
        simp only [Bool.not_true, cond_false, wi_succ (show i < 9223372036854775807 by omega), g1]
        refine ⟨f, rfl, g2.imp_right fun h => ⟨h.1, fun o ho => ?_⟩⟩
        rw [hd] at ho
        rcases List.mem_cons.1 ho with rfl | ho
        · exact h2 rfl
        · exact h.2 o ho
    · rw [dec_f (by omega)]
      refine ⟨_, rfl, .inr ⟨rfl, fun o ho => ?_⟩⟩
      rw [List.drop_eq_nil_iff.2 (by omega)] at ho
      cases ho
theorem few12_eq (n : Nat) (t : Nd) (ops : List Op8) (hn : 310 < n) (hl : ops.length ≤ 1073741824) (ho : ops.length < n) : ∃ y, m_l12_few n t ops = some y ∧ (y = true → t.cnt ≤ 300 ∧ (∀ o ∈ ops, FewO o) ∧ ops.length ≤ 12) := by
  obtain ⟨y, h1, h2⟩ := Few_eq n t 300 (by omega) (by omega)
  rw [show ((300 : Nat) : Int) = 300 from rfl] at h1
  obtain ⟨f, g1, g2⟩ := few_loop12 n hn hl n 0 (by omega) (by omega)
  rw [show ((0 : Nat) : Int) = 0 from rfl] at g1
  obtain ⟨t1, t2, t3, t4⟩ := t
  unfold m_l12_few
  simp only [g1, h1, Option.bind_some]
  rcases g2 with rfl | ⟨rfl, g3⟩
  · exact ⟨false, rfl, fun h => by cases h⟩
  · cases y with
    | false => exact ⟨false, rfl, fun h => by cases h⟩
    | true => exact ⟨_, rfl, fun h => ⟨h2 rfl, g3, by have := of_decide_eq_true h; omega⟩⟩
theorem both_eq (n : Nat) (t : Nd) (o : Op8) (hn : 200000000 < n) (ht : t.w ≤ 50000000) (hb : Nd.ws o.nodes ≤ 2000000) (hx : o.text.length ≤ 2000000) (hr : o.row.length ≤ 2000000) :
    ∃ t' e, m_edit_Apply n t o = some (t', e) ∧ m_r12_Apply n t o = some (t', e) ∧ App t o t' e := by
  obtain ⟨t1, e1, f1, g1⟩ := edit_Apply_eq n t o hn ht hb hx
  obtain ⟨t2, e2, f2, g2⟩ := r12_Apply_eq n t o hn ht hb hx hr
  obtain ⟨rfl, rfl⟩ := g1.det g2
  exact ⟨_, _, f1, f2, g1⟩
inductive Runs : Nd → List Op8 → Nd → Int → Prop
  | nil (t : Nd) : Runs t [] t 0
  | stop {t t' : Nd} {o : Op8} {ops : List Op8} {e : Int} (h : App t o t' e) (he : e ≠ 0) : Runs t (o :: ops) zeroNd e
  | next {t t' u : Nd} {o : Op8} {ops : List Op8} {e : Int} (h : App t o t' 0) (hr : Runs t' ops u e) : Runs t (o :: ops) u e
def endOf (f : Fl (Nd × Int × Int) (Int × List UInt8 × Int × List Nd)) : Nd × Int × Int := match f with
  | .ret r => r
  | .go (a, b, c, d) => (.mk a b c d, 0, 0)
theorem all_loop (n : Nat) (hn : 200000000 < n) {ops : List Op8} (ho : ∀ o ∈ ops, Nd.ws o.nodes + o.text.length + o.row.length ≤ 1048576) (hl : ops.length ≤ 12) : ∀ (k i : Nat) (t : Nd), ops.length - i < k → i ≤ ops.length → t.w ≤ 17000000 + i * 1048580 →
    ∃ f, m_edit_ApplyAll_l1 n ops k t.kind t.text t.cols t.kids (i : Int) = some f ∧ m_r12_ApplyAll_l1 n ops k t.kind t.text t.cols t.kids (i : Int) = some f ∧ Runs t (ops.drop i) (endOf f).1 (endOf f).2.2 ∧ (endOf f).1.w ≤ 36000000
  | 0, i, t, h, _, _ => by omega
  | k + 1, i, t, h, hi, hw => by
    unfold m_edit_ApplyAll_l1 m_r12_ApplyAll_l1
    by_cases hj : i < ops.length
    · have hb := ho _ (List.getElem_mem hj)
      have hd := List.drop_eq_getElem_cons hj
      obtain ⟨t', e, g1, g2, g3⟩ := both_eq n t ops[i] hn (by omega) (by omega) (by omega) (by omega)
      have hw' := g3.w
      rw [dec_t (Int.ofNat_lt.2 hj), at_get hj, hd]
      simp only [cond_true]
      generalize ops[i] = o at *
      obtain ⟨q1, q2, q3, q4, q5, q6, q7, q8⟩ := o
      obtain ⟨t1, t2, t3, t4⟩ := t
      have ih := all_loop n hn ho hl k (i + 1) t' (by omega) (by omega) (by simp only [Op8.text] at hb; dsimp only at hw' hb; simp only [Nat.add_mul]; omega)
      obtain ⟨u1, u2, u3, u4⟩ := t'
      simp only [Nd.kind, Nd.text, Nd.cols, Nd.kids] at ih ⊢
      simp only [Option.bind_some, g1, g2]
      by_cases he : e = 0
      · subst he
        simp only [show ((0 : Int) != 0) = false from rfl, cond_false, wi_succ (show i < 9223372036854775807 by omega)]
        obtain ⟨f, h1, h2, h3, h4⟩ := ih
        exact ⟨f, h1, h2, .next g3 h3, h4⟩
      · have hne : (e != 0) = true := bne_iff_ne.2 he
        simp only [hne, cond_true]
        exact ⟨_, rfl, rfl, .stop g3 he, by show zeroNd.w ≤ 36000000; decide⟩
    · rw [dec_f (by omega), List.drop_eq_nil_iff.2 (by omega)]
      obtain ⟨t1, t2, t3, t4⟩ := t
      simp only [cond_false]
      refine ⟨_, rfl, rfl, .nil _, ?_⟩
      show (Nd.mk t1 t2 t3 t4).w ≤ 36000000
      have : i * 1048580 ≤ 12 * 1048580 := Nat.mul_le_mul_right _ (by omega)
      omega
inductive RunsV (t : Nd) (ops : List Op8) : Nd → Int → Prop
  | bad (h : validB t = false) : RunsV t ops zeroNd 1
  | go {u : Nd} {e : Int} (h : validB t = true) (hr : Runs t ops u e) : RunsV t ops u e
theorem all_eq (n : Nat) (t : Nd) (ops : List Op8) (hn : 200000000 < n) (ht : t.w ≤ 17000000) (ho : ∀ o ∈ ops, Nd.ws o.nodes + o.text.length + o.row.length ≤ 1048576) (hl : ops.length ≤ 12) :
    ∃ u i e, m_edit_ApplyAll n t ops = some (u, i, e) ∧ m_r12_ApplyAll n t ops = some (u, i, e) ∧ RunsV t ops u e ∧ u.w ≤ 36000000 := by
  have ct := Nd.cnt_w t
  have v1 := node_Valid_eq n t (by omega) (by omega)
  have v2 := r09_Valid_eq n t (by omega) (by omega)
  have hd : m_deep_Node t = some t := deep_eq (by omega)
  obtain ⟨f, h1, h2, h3, h4⟩ := all_loop n hn ho hl n 0 t (by omega) (by omega) (by omega)
  rw [show ((0 : Nat) : Int) = 0 from rfl] at h1 h2
  rw [List.drop_zero] at h3
  obtain ⟨t1, t2, t3, t4⟩ := t
  simp only [Nd.kind, Nd.text, Nd.cols, Nd.kids] at h1 h2
  unfold m_edit_ApplyAll m_r12_ApplyAll
  simp only [v1, v2, Option.bind_some, hd, h1, h2]
  cases hv : validB (.mk t1 t2 t3 t4) with
  | false => exact ⟨_, 0, 1, rfl, rfl, .bad hv, by decide⟩
  | true =>
    simp only [Bool.not_true, cond_false]
    cases f with
    | ret r =>
      obtain ⟨u, i, e⟩ := r
      exact ⟨u, i, e, rfl, rfl, .go hv h3, h4⟩
    | go g =>
      obtain ⟨a, b, c, d⟩ := g
      exact ⟨_, 0, 0, rfl, rfl, .go hv h3, h4⟩
end Go.Proofs.Ytfbggpmdmhgpfaa
namespace Go.Proofs.Ytfbggpmdmhgpfaa
open Go.Abs
theorem seg_spl (l b : List Nd) {p q : Nat} (hp : p ≤ l.length) : segS (splS l p q b) p (p + b.length) = b := by
  have h : (l.take p).length = p := by rw [List.length_take]; omega
  unfold segS splS
  rw [List.append_assoc, List.take_append, List.take_of_length_le (by omega), h, show p + b.length - p = b.length by omega, List.take_left, List.drop_append, List.drop_of_length_le (by omega), h, Nat.sub_self]
  rfl
theorem spl_spl (l b c : List Nd) {p q : Nat} (hp : p ≤ l.length) : splS (splS l p q b) p (p + b.length) c = splS l p q c := by
  have h : (l.take p).length = p := by rw [List.length_take]; omega
  unfold splS
  have e1 : ((l.take p ++ b) ++ l.drop q).take p = l.take p := by
    rw [List.append_assoc, List.take_append, h, Nat.sub_self, List.take_take, Nat.min_self]; simp
  have e2 : ((l.take p ++ b) ++ l.drop q).drop (p + b.length) = l.drop q := by
    rw [List.drop_append, List.length_append, h, Nat.sub_self, List.drop_of_length_le (by rw [List.length_append, h]; omega)]; simp
  rw [e1, e2]
theorem spl_seg (l : List Nd) {p q : Nat} (hpq : p ≤ q) : splS l p q (segS l p q) = l := by
  unfold splS segS
  have : l.take p ++ (l.take q).drop p = l.take q := by
    have h := List.take_append_drop p (l.take q)
    rw [List.take_take, Nat.min_eq_left hpq] at h
    exact h
  rw [this, List.take_append_drop]
theorem spl_len (l b : List Nd) {p q : Nat} (hp : p ≤ q) (hq : q ≤ l.length) : (splS l p q b).length + (q - p) = l.length + b.length := by
  unfold splS
  simp only [List.length_append, List.length_take, List.length_drop]
  omega
theorem seg_len (l : List Nd) {p q : Nat} (hp : p ≤ q) (hq : q ≤ l.length) : (segS l p q).length = q - p := by
  unfold segS
  simp only [List.length_take, List.length_drop]
  omega
theorem seg_it {l : List Nd} {p : Nat} {it : Nd} (h : l[p]? = some it) : segS l p (p + 1) = [it] := by
  have := seg_one l (List.getElem?_eq_some_iff.1 h).1
  rw [segS, this, (List.getElem?_eq_some_iff.1 h).2]
theorem spl_at (l : List Nd) {p q : Nat} (x : Nd) (hp : p ≤ l.length) : (splS l p q [x])[p]? = some x := by
  have h : (l.take p).length = p := by rw [List.length_take]; omega
  unfold splS
  rw [List.append_assoc, List.getElem?_append_right (by omega), h, Nat.sub_self]; rfl
theorem cnts_splice (l b : List Nd) {p q : Nat} (h : p ≤ q) : Nd.cnts (splS l p q b) + Nd.cnts (segS l p q) = Nd.cnts l + Nd.cnts b := by
  have e := congrArg Nd.cnts (spl_seg l h)
  unfold splS segS at *
  rw [Nd.cnts_append, Nd.cnts_append] at e ⊢
  omega
theorem cnt_kids (v : Nd) : v.cnt = Nd.cnts v.kids + 1 := by cases v; simp only [Nd.cnt, Nd.kids]; try omega
theorem fill_cnt {v : Nd} {s : Nat} {z : Nd} (hz : v.kids[s]? = some z) (hk : z.kids = []) (l : List Nd) : (fillN v s l).cnt = v.cnt + Nd.cnts l := by
  have h1 := cnts_setp (y := rowN l) hz
  have h2 := cnt_kids z
  have h3 := cnt_kids v
  have h4 : (fillN v s l).cnt = Nd.cnts (v.kids.set s (rowN l)) + 1 := cnt_kids _
  have h5 : (rowN l).cnt = Nd.cnts l + 1 := cnt_kids _
  rw [hk] at h2
  simp only [Nd.cnts] at h2
  omega
def plusI (k : Int) (nodes : List Nd) : Int := if k = 2 ∨ k = 4 then 0 - (Nd.cnts nodes : Int) else (Nd.cnts nodes : Int)
theorem Chg.cnts {l l' : List Nd} {k : Int} {row : List Int} {a m : Int} {nodes : List Nd} {slot : Int} {old text : List UInt8} (hf : FormP (k, row, a, m, nodes, slot, old, text)) (h : Chg l (k, row, a, m, nodes, slot, old, text) l' 0) : (Nd.cnts l' : Int) = Nd.cnts l + plusI k nodes := by
  unfold plusI
  cases h with
  | @ins _ p _ _ _ _ _ h =>
    have h1 := cnts_splice l nodes (Nat.le_refl p)
    have h2 : segS l p p = [] := by unfold segS; simp
    rw [h2] at h1
    simp only [Nd.cnts] at h1
    simp
    omega
  | @del _ p _ _ _ _ _ h he => have h1 := cnts_splice l [] (Nat.le_add_right p nodes.length); rw [he] at h1; simp only [Nd.cnts] at h1; simp; omega
  | @wrap _ p m v s _ _ h =>
    have h1 := cnts_splice l [fillN v s (segS l p (p + m))] (Nat.le_add_right p m)
    have : TemplP [v] (s : Int) := by
      rcases hf with ⟨h0 | h0, _⟩ | ⟨_, _, h0, _⟩ | ⟨h0, _⟩
      · cases h0
      · cases h0
      · exact h0
      · cases h0
    obtain ⟨v', s', z, e1, e2, _, hz, hk⟩ := this
    cases e1
    obtain rfl := Int.ofNat.inj e2
    have h2 := fill_cnt hz hk (segS l p (p + m))
    simp only [Nd.cnts] at h1 ⊢
    simp
    omega
  | @unwrap _ p _ v it z s _ _ h hz hm he =>
    have h1 := cnts_splice l z.kids (Nat.le_add_right p 1)
    have : TemplP [v] (s : Int) := by
      rcases hf with ⟨h0 | h0, _⟩ | ⟨_, _, h0, _⟩ | ⟨h0, _⟩
      · cases h0
      · cases h0
      · exact h0
      · cases h0
    obtain ⟨v', s', z', e1, e2, _, hz', hk⟩ := this
    cases e1
    obtain rfl := Int.ofNat.inj e2
    have h2 := fill_cnt hz' hk z.kids
    rw [seg_it h] at h1
    rw [← he] at h2
    simp only [Nd.cnts] at h1 ⊢
    simp
    omega
  | @set _ p _ _ it _ _ _ h hl he =>
    have h1 := cnts_splice l [.mk it.kind text it.cols it.kids] (Nat.le_add_right p 1)
    have h0 : nodes = [] := by
      rcases hf with ⟨h0 | h0, _⟩ | ⟨h0 | h0, _⟩ | ⟨_, _, h0, _⟩
      · cases h0
      · cases h0
      · cases h0
      · cases h0
      · exact h0
    subst h0
    have h2 := cnt_kids it
    rw [seg_it h] at h1
    simp only [Nd.cnts, Nd.cnt] at h1 ⊢
    simp
    omega
def invO : Op8 → Op8
  | (k, row, a, m, nodes, slot, old, text) =>
    (if k = 1 then 2 else if k = 2 then 1 else if k = 3 then 4 else if k = 4 then 3 else k, row, a, m, nodes, slot, if k = 5 then text else old, if k = 5 then old else text)
theorem FormP.inv {o : Op8} (h : FormP o) : FormP (invO o) := by
  obtain ⟨k, row, a, m, nodes, slot, old, text⟩ := o
  rcases h with ⟨rfl | rfl, h⟩ | ⟨rfl | rfl, h⟩ | ⟨rfl, h1, h⟩
  · exact .inl ⟨.inr rfl, h⟩
  · exact .inl ⟨.inl rfl, h⟩
  · exact .inr (.inl ⟨.inr rfl, h⟩)
  · exact .inr (.inl ⟨.inl rfl, h⟩)
  · exact .inr (.inr ⟨rfl, Ne.symm h1, h⟩)
theorem Chg.inv {l l' : List Nd} {o : Op8} (hf : FormP o) (h : Chg l o l' 0) : Chg l' (invO o) l 0 := by
  obtain ⟨k, row, a, m, nodes, slot, old, text⟩ := o
  cases h with
  | @ins _ p _ _ _ _ _ h =>
    have hl := spl_len l nodes (Nat.le_refl p) h
    have h1 := seg_spl l nodes (q := p) h
    have h2 := spl_spl l nodes [] (q := p) h
    have h3 := spl_seg l (Nat.le_refl p)
    have h4 : segS l p p = [] := by unfold segS; simp
    rw [h4] at h3
    have := Chg.del (l := splS l p p nodes) (row := row) (p := p) (m := m) (nodes := nodes) (slot := slot) (old := old) (text := text) (by omega) h1
    rw [h2, h3] at this
    exact this
  | @del _ p _ _ _ _ _ h he =>
    have hl := spl_len l [] (Nat.le_add_right p nodes.length) h
    have h2 := spl_spl l [] nodes (q := p + nodes.length) (p := p) (by omega)
    have h3 := spl_seg l (Nat.le_add_right p nodes.length)
    rw [he] at h3
    simp only [List.length_nil, Nat.add_zero] at h2
    have := Chg.ins (l := splS l p (p + nodes.length) []) (row := row) (p := p) (m := m) (nodes := nodes) (slot := slot) (old := old) (text := text) (by simp only [List.length_nil] at hl; omega)
    rw [h2, h3] at this
    exact this
  | @wrap _ p m v s _ _ h =>
    have ht : TemplP [v] (s : Int) := by
      rcases hf with ⟨h0 | h0, _⟩ | ⟨_, _, h0, _⟩ | ⟨h0, _⟩
      · cases h0
      · cases h0
      · exact h0
      · cases h0
    obtain ⟨v', s', z, e1, e2, _, hz, hk⟩ := ht
    cases e1
    obtain rfl := Int.ofNat.inj e2
    have h1 := spl_at l (q := p + m) (fillN v s (segS l p (p + m))) (p := p) (by omega)
    have h2 := spl_spl l [fillN v s (segS l p (p + m))] (segS l p (p + m)) (q := p + m) (p := p) (by omega)
    rw [spl_seg l (Nat.le_add_right p m)] at h2
    have hk2 : (fillN v s (segS l p (p + m))).kids[s]? = some (rowN (segS l p (p + m))) := set_at hz
    have hm : ((rowN (segS l p (p + m))).kids.length : Int) = (m : Int) := by
      have := seg_len l (Nat.le_add_right p m) h
      show ((segS l p (p + m)).length : Int) = m
      omega
    have := Chg.unwrap (row := row) (v := v) (old := old) (text := text) h1 hk2 hm rfl
    rw [show (rowN (segS l p (p + m))).kids = segS l p (p + m) from rfl] at this
    simp only [List.length_cons, List.length_nil, Nat.zero_add] at h2
    rw [h2] at this
    exact this
  | @unwrap _ p _ v it z s _ _ h hz hm he =>
    have hp := (List.getElem?_eq_some_iff.1 h).1
    have hl := spl_len l z.kids (Nat.le_add_right p 1) (by omega)
    have h1 := seg_spl l z.kids (q := p + 1) (p := p) (by omega)
    have h2 := spl_spl l z.kids [fillN v s z.kids] (q := p + 1) (p := p) (by omega)
    have h3 := spl_seg l (Nat.le_add_right p 1)
    rw [seg_it h, he] at h3
    rw [h3] at h2
    subst hm
    have := Chg.wrap (l := splS l p (p + 1) z.kids) (row := row) (p := p) (m := z.kids.length) (v := v) (s := s) (old := old) (text := text) (by omega)
    rw [h1, h2] at this
    exact this
  | @set _ p _ _ it _ _ _ h hl he =>
    have hp := (List.getElem?_eq_some_iff.1 h).1
    have h1 := spl_at l (q := p + 1) (.mk it.kind text it.cols it.kids) (p := p) (by omega)
    have h2 := spl_spl l [.mk it.kind text it.cols it.kids] [it] (q := p + 1) (p := p) (by omega)
    have h3 := spl_seg l (Nat.le_add_right p 1)
    rw [seg_it h] at h3
    rw [h3] at h2
    simp only [List.length_cons, List.length_nil, Nat.zero_add] at h2
    have := Chg.set (row := row) (m := m) (nodes := nodes) (slot := slot) (old := text) (text := old) h1 hl rfl
    obtain ⟨i1, i2, i3, i4⟩ := it
    have he : i2 = old := he
    subst he
    simp only [Nd.kind, Nd.cols, Nd.kids] at this h2
    rw [h2] at this
    exact this
theorem invO_row (o : Op8) : (invO o).2.1 = o.2.1 := rfl
theorem App.inv {t t' : Nd} {o : Op8} (h : App t o t' 0) : App t' (invO o) t 0 ∧ validB t' = true := by
  cases h with
  | chg h hf hr hc he => exact absurd rfl he
  | @ok r l h hf hr hc hv =>
    have hrr := (valid_row (hr.valid h)).1
    have hput := hr.put (rowN l)
    have hb := hr.back (rowN l)
    have hci := hc.inv hf
    have : App (putL t o.2.1 (rowN l)) (invO o) (putL (putL t o.2.1 (rowN l)) (invO o).2.1 (rowN r.kids)) 0 := by
      refine App.ok hv hf.inv (r := rowN l) (by rw [invO_row]; exact hput) hci ?_
      rw [invO_row, show rowN r.kids = r from hrr.symm, hb]
      exact h
    rw [invO_row, show rowN r.kids = r from hrr.symm, hb] at this
    exact ⟨this, hv⟩
theorem App.cnt {t t' : Nd} {k : Int} {row : List Int} {a m : Int} {nodes : List Nd} {slot : Int} {old text : List UInt8} (h : App t (k, row, a, m, nodes, slot, old, text) t' 0) : (t'.cnt : Int) = t.cnt + plusI k nodes := by
  cases h with
  | chg h hf hr hc he => exact absurd rfl he
  | @ok r l h hf hr hc hv =>
    have h1 := hr.cnt (rowN l)
    have h2 := hc.cnts hf
    have h3 := cnt_kids r
    have h4 : (rowN l).cnt = Nd.cnts l + 1 := cnt_kids _
    dsimp only at h1 ⊢
    omega
theorem Fd.deep {t z : Nd} {p : List Int} (h : Fd t p z) : z.dep + p.length ≤ t.dep := by
  induction h with
  | nil t => simp
  | @step k tx c ks i k2 tx2 c2 ks2 s z r' p hi hs _ ih =>
    have d1 := deps_mem' (List.mem_of_getElem? hi)
    have d2 := deps_mem' (List.mem_of_getElem? hs)
    simp only [Nd.dep, List.length_cons] at *
    omega
end Go.Proofs.Ytfbggpmdmhgpfaa
namespace Go.Proofs.Ytfbggpmdmhgpfaa
open Go.Abs
theorem nodes_loop (n : Nat) {l : List Nd} (hb : Nd.cnts l ≤ 16777216) : ∀ (k i : Nat), l.length - i < k → i ≤ l.length → m_deep_Nodes_l1 l k (i : Int) (l.take i) = some l
  | 0, i, h, _ => by omega
  | k + 1, i, h, hi => by
    have hlen := Nd.cnts_len l
    unfold m_deep_Nodes_l1
    by_cases hj : i < l.length
    · have hm := Nd.cnts_mem (List.getElem_mem hj)
      have hd : m_deep_Node l[i] = some l[i] := deep_eq (by omega)
      have ht : l.take i ++ [l[i]] = l.take (i + 1) := by rw [List.take_append_getElem hj]
      rw [dec_t (Int.ofNat_lt.2 hj), cond_true, at_get hj]
      have ih := nodes_loop n hb k (i + 1) (by omega) (by omega)
      rw [← ht] at ih
      generalize l[i] = v at *
      obtain ⟨v1, v2, v3, v4⟩ := v
      simp only [Option.bind_some, hd]
      rw [req_t (by simp only [List.length_take, List.length_cons, List.length_nil]; omega), wi_succ (show i < 9223372036854775807 by omega), ih]
    · rw [dec_f (by omega), cond_false, List.take_of_length_le (by omega)]
theorem Invert_eq (n : Nat) (o : Op8) (hn : Nd.cnts o.nodes < n) (hb : Nd.cnts o.nodes ≤ 16777216) (hr : o.row.length ≤ 16777216) : m_edit_Invert n o = some (invO o) := by
  obtain ⟨k, row, a, m, nodes, slot, old, text⟩ := o
  simp only [Op8.nodes, Op8.row] at hn hb hr
  have hlen := Nd.cnts_len nodes
  have h1 : m_slices_Clone_sint row = some row := req_t (by omega)
  have h2 := nodes_loop n hb n 0 (by omega) (by omega)
  rw [show ((0 : Nat) : Int) = 0 from rfl, List.take_zero] at h2
  unfold m_edit_Invert m_deep_Op m_deep_Ints m_deep_Nodes
  simp only [h1, h2, Option.bind_some]
  unfold invO
  dsimp only
  by_cases k1 : k = 1
  · subst k1; rfl
  by_cases k2 : k = 2
  · subst k2; rfl
  by_cases k3 : k = 3
  · subst k3; rfl
  by_cases k4 : k = 4
  · subst k4; rfl
  by_cases k5 : k = 5
  · subst k5; rfl
  rw [ne_beq k1, ne_beq k2, ne_beq k3, ne_beq k4, ne_beq k5, if_neg k1, if_neg k2, if_neg k3, if_neg k4, if_neg k5, if_neg k5]
  rfl
end Go.Proofs.Ytfbggpmdmhgpfaa
namespace Go.Proofs.Ytfbggpmdmhgpfaa
open Go.Abs
theorem invO_invO (o : Op8) : invO (invO o) = o := by
  obtain ⟨k, row, a, m, nodes, slot, old, text⟩ := o
  unfold invO
  dsimp only
  by_cases k1 : k = 1
  · subst k1; rfl
  by_cases k2 : k = 2
  · subst k2; rfl
  by_cases k3 : k = 3
  · subst k3; rfl
  by_cases k4 : k = 4
  · subst k4; rfl
  by_cases k5 : k = 5
  · subst k5; rfl
  simp only [if_neg k1, if_neg k2, if_neg k3, if_neg k4, if_neg k5]
theorem r12_Invert_eq (o : Op8) : m_r12_Invert o = some (invO o) := by
  obtain ⟨k, row, a, m, nodes, slot, old, text⟩ := o
  unfold m_r12_Invert invO
  dsimp only
  by_cases k1 : k = 1
  · subst k1; rfl
  by_cases k2 : k = 2
  · subst k2; rfl
  by_cases k3 : k = 3
  · subst k3; rfl
  by_cases k4 : k = 4
  · subst k4; rfl
  by_cases k5 : k = 5
  · subst k5; rfl
  rw [ne_beq k1, ne_beq k2, ne_beq k3, ne_beq k4, ne_beq k5, if_neg k1, if_neg k2, if_neg k3, if_neg k4, if_neg k5, if_neg k5]
  rfl
theorem rsame_loop (r : List Int) (hl : r.length ≤ 1073741824) : ∀ (k i : Nat), r.length - i < k → i ≤ r.length → m_r12_Same_l1 r r k (i : Int) = some (.go ())
  | 0, i, h, _ => by omega
  | k + 1, i, h, hi => by
    unfold m_r12_Same_l1
    by_cases hj : i < r.length
    · rw [dec_t (Int.ofNat_lt.2 hj), cond_true, at_get hj]
      simp only [Option.bind_some, bne_self_eq_false, cond_false]
      rw [wi_succ (by omega), rsame_loop r hl k (i + 1) (by omega) (by omega)]
    · rw [dec_f (by omega)]; rfl
theorem same_self (n : Nat) (o : Op8) (hn : 2 * Nd.cnts o.nodes + 10 < n) (hc : Nd.cnts o.nodes ≤ 67000000) (hr : o.row.length ≤ 1073741824) (hrn : o.row.length < n) : m_r12_Same n o o = some true := by
  obtain ⟨k, row, a, m, nodes, slot, old, text⟩ := o
  simp only [Op8.nodes, Op8.row] at hn hc hr hrn
  obtain ⟨b, h1, h2⟩ := (Equal_eq n).2 nodes nodes (by omega) (by omega)
  obtain rfl := h2.2 rfl
  have h3 := rsame_loop row hr n 0 (by omega) (by omega)
  rw [show ((0 : Nat) : Int) = 0 from rfl] at h3
  unfold m_r12_Same
  simp only [bne_self_eq_false, cond_false, beq_self_eq_true, Bool.not_true, Option.bind_some, h3, h1]
theorem sameall_loop (n : Nat) {ops : List Op8} (hs : ∀ o ∈ ops, m_r12_Same n o o = some true) (hl : ops.length ≤ 1073741824) : ∀ (k i : Nat), ops.length - i < k → i ≤ ops.length → m_r12_SameAll_l1 n ops ops k (i : Int) = some (.go ())
  | 0, i, h, _ => by omega
  | k + 1, i, h, hi => by
    unfold m_r12_SameAll_l1
    by_cases hj : i < ops.length
    · have h1 := hs _ (List.getElem_mem hj)
      rw [dec_t (Int.ofNat_lt.2 hj), cond_true, at_get hj]
      generalize ops[i] = o at *
      obtain ⟨k, row, a, m, nodes, slot, old, text⟩ := o
      simp only [Option.bind_some, h1, Bool.not_true, cond_false]
      rw [wi_succ (by omega), sameall_loop n hs hl _ (i + 1) (by omega) (by omega)]
    · rw [dec_f (by omega)]; rfl
theorem rev_take (l : List Op8) {i : Nat} (hi : i < l.length) : (l.map invO).reverse.take i ++ [invO l[l.length - 1 - i]] = (l.map invO).reverse.take (i + 1) := by
  have hlen : i < (l.map invO).reverse.length := by simpa using hi
  rw [← List.take_append_getElem hlen]
  congr 2
  rw [List.getElem_reverse, List.getElem_map]
  congr 2
  simp only [List.length_map]
theorem InvertAll_r_eq (n : Nat) {ops : List Op8} (ho : ∀ o ∈ ops, m_edit_Invert n o = some (invO o)) (hl : ops.length ≤ 4294967296) : ∀ i, i ≤ ops.length → m_edit_InvertAll_r n ops i = some ((ops.map invO).reverse.take i)
  | 0, _ => by rw [List.take_zero]; rfl
  | i + 1, hi => by
    have hj : ops.length - 1 - i < ops.length := by omega
    unfold m_edit_InvertAll_r
    rw [InvertAll_r_eq n ho hl i (by omega), List.getElem?_eq_getElem hj]
    simp only [Option.bind_some, ho _ (List.getElem_mem hj)]
    rw [req_t (by simp only [List.length_take, List.length_reverse, List.length_map]; omega), rev_take ops (by omega)]
theorem InvertAll_eq (n : Nat) {ops : List Op8} (ho : ∀ o ∈ ops, m_edit_Invert n o = some (invO o)) (hl : ops.length ≤ 4294967296) : m_edit_InvertAll n ops = some (ops.map invO).reverse := by
  unfold m_edit_InvertAll
  dsimp only
  rw [req_t hl, InvertAll_r_eq n ho hl _ (Nat.le_refl _), List.take_of_length_le (by simp)]
theorem r12_InvertAll_loop {ops : List Op8} (hl : ops.length ≤ 1073741824) : ∀ (k i : Nat), ops.length - i < k → i ≤ ops.length → m_r12_InvertAll_l1 ops k ((ops.length : Int) - 1 - i) ((ops.map invO).reverse.take i) = some (ops.map invO).reverse
  | 0, i, h, _ => by omega
  | k + 1, i, h, hi => by
    unfold m_r12_InvertAll_l1
    by_cases hj : i < ops.length
    · have hz : (ops.length : Int) - 1 - i = ((ops.length - 1 - i : Nat) : Int) := by omega
      have hj' : ops.length - 1 - i < ops.length := by omega
      have ht := rev_take ops hj
      have hw : IntKind.i64.wrap ((ops.length : Int) - 1 - i - 1) = (ops.length : Int) - 1 - ((i + 1 : Nat) : Int) := by rw [wrap64_in (by omega) (by omega)]; omega
      have he : at? ops ((ops.length : Int) - 1 - i) = some ops[ops.length - 1 - i] := by rw [hz]; exact at_get hj'
      rw [dec_t (by omega), cond_true, he]
      generalize ops[ops.length - 1 - i] = o at *
      have h1 := r12_Invert_eq o
      obtain ⟨q1, q2, q3, q4, q5, q6, q7, q8⟩ := o
      generalize invO (q1, q2, q3, q4, q5, q6, q7, q8) = o' at *
      obtain ⟨p1, p2, p3, p4, p5, p6, p7, p8⟩ := o'
      simp only [Option.bind_some, h1]
      rw [req_t (by simp only [List.length_take, List.length_reverse, List.length_map, List.length_cons, List.length_nil]; omega), ht, hw]
      exact r12_InvertAll_loop hl k (i + 1) (by omega) (by omega)
    · obtain rfl : i = ops.length := by omega
      rw [dec_f (by omega), cond_false, List.take_of_length_le (by simp)]
theorem r12_InvertAll_eq (n : Nat) {ops : List Op8} (hn : ops.length < n) (hl : ops.length ≤ 1073741824) : m_r12_InvertAll n ops = some (ops.map invO).reverse := by
  have := r12_InvertAll_loop hl n 0 (by omega) (by omega)
  rw [List.take_zero] at this
  unfold m_r12_InvertAll
  dsimp only
  rw [wrap64_in (by omega) (by omega), show (ops.length : Int) - 1 = (ops.length : Int) - 1 - ((0 : Nat) : Int) by omega, this]
  rfl
theorem EditInvert_loop (n : Nat) {ops : List Op8} (ho : ∀ o ∈ ops, m_edit_Invert n o = some (invO o) ∧ m_edit_Invert n (invO o) = some o ∧ m_r12_Same n o o = some true ∧ m_r12_Same n (invO o) (invO o) = some true) (hl : ops.length ≤ 1073741824) :
    ∀ (k i : Nat), ops.length - i < k → i ≤ ops.length → m_l12_EditInvert_l1 n ops k (i : Int) = some (.go ())
  | 0, i, h, _ => by omega
  | k + 1, i, h, hi => by
    unfold m_l12_EditInvert_l1
    by_cases hj : i < ops.length
    · obtain ⟨h1, h2, h3, h4⟩ := ho _ (List.getElem_mem hj)
      have h5 := r12_Invert_eq ops[i]
      rw [dec_t (Int.ofNat_lt.2 hj), cond_true, at_get hj]
      generalize ops[i] = o at *
      generalize invO o = o' at *
      obtain ⟨k, row, a, m, nodes, slot, old, text⟩ := o
      obtain ⟨p1, p2, p3, p4, p5, p6, p7, p8⟩ := o'
      simp only [Option.bind_some, h1, h2, h3, h4, h5, Bool.not_true, cond_false]
      rw [wi_succ (by omega), EditInvert_loop n ho hl _ (i + 1) (by omega) (by omega)]
    · rw [dec_f (by omega)]; rfl
theorem EditInvert_eq (ops : List Op8) (hl : ops.length ≤ 1048576) (ho : ∀ o ∈ ops, Nd.ws o.nodes + o.text.length + o.row.length ≤ 1048576) : m_l12_EditInvert 300000000 ops = some true := by
  have hw := awake12_ok 300000000 (by decide)
  obtain ⟨y, f1, _⟩ := few12_eq 300000000 (.mk 0 [] 0 []) ops (by decide) (by omega) (by omega)
  have hb : ∀ o ∈ ops, Nd.cnts o.nodes ≤ 1048576 ∧ o.row.length ≤ 1048576 := fun o h => by
    have := ho o h
    have := Nd.cnts_ws o.nodes
    omega
  have hi : ∀ o ∈ ops, m_edit_Invert 300000000 o = some (invO o) ∧ m_edit_Invert 300000000 (invO o) = some o ∧ m_r12_Same 300000000 o o = some true ∧ m_r12_Same 300000000 (invO o) (invO o) = some true := fun o h => by
    obtain ⟨h1, h2⟩ := hb o h
    have e1 : (invO o).nodes = o.nodes := rfl
    have e2 : (invO o).row = o.row := rfl
    refine ⟨Invert_eq _ o (by omega) (by omega) (by omega), ?_, same_self _ o (by omega) (by omega) (by omega) (by omega), same_self _ (invO o) (by rw [e1]; omega) (by rw [e1]; omega) (by rw [e2]; omega) (by rw [e2]; omega)⟩
    rw [Invert_eq _ (invO o) (by rw [e1]; omega) (by rw [e1]; omega) (by rw [e2]; omega), invO_invO]
  have h1 := EditInvert_loop 300000000 hi (by omega) 300000000 0 (by omega) (by omega)
  rw [show ((0 : Nat) : Int) = 0 from rfl] at h1
  have h2 := InvertAll_eq 300000000 (fun o h => (hi o h).1) (by omega)
  have h3 := r12_InvertAll_eq 300000000 (ops := ops) (by omega) (by omega)
  have h4 := sameall_loop 300000000 (ops := (ops.map invO).reverse) (fun o h => by
    rw [List.mem_reverse] at h
    obtain ⟨o', h', rfl⟩ := List.mem_map.1 h
    exact (hi o' h').2.2.2) (by simp only [List.length_reverse, List.length_map]; omega) 300000000 0 (by simp only [List.length_reverse, List.length_map]; omega) (Nat.zero_le _)
  rw [show ((0 : Nat) : Int) = 0 from rfl] at h4
  generalize 300000000 = n at *
  unfold m_l12_EditInvert
  simp only [hw, f1, Option.bind_some, Bool.not_true, cond_false]
  cases y with
  | false => rfl
  | true =>
    simp only [Bool.not_true, cond_false, h1, h2, h3, Option.bind_some]
    unfold m_r12_SameAll
    simp only [bne_self_eq_false, cond_false, h4, Option.bind_some]
theorem Runs.app {t u v : Nd} {a b : List Op8} {e : Int} (h : Runs t a u 0) (h2 : Runs u b v e) : Runs t (a ++ b) v e := by
  generalize hz : (0 : Int) = z at h
  induction h with
  | nil t => exact h2
  | stop h he => exact absurd hz.symm he
  | next h hr ih => exact .next h (ih h2 hz)
theorem Runs.back {t u : Nd} {ops : List Op8} (h : Runs t ops u 0) (hv : validB t = true) : Runs u (ops.map invO).reverse t 0 ∧ validB u = true := by
  generalize hz : (0 : Int) = z at h
  induction h with
  | nil t => exact ⟨.nil t, hv⟩
  | stop h he => exact absurd hz.symm he
  | next h hr ih =>
    subst hz
    obtain ⟨h1, h2⟩ := h.inv
    obtain ⟨h3, h4⟩ := ih h2 rfl
    rw [List.map_cons, List.reverse_cons]
    exact ⟨h3.app (.next h1 (.nil _)), h4⟩
theorem Runs.det {t u u' : Nd} {ops : List Op8} {e e' : Int} (h : Runs t ops u e) (h' : Runs t ops u' e') : u = u' ∧ e = e' := by
  induction h generalizing u' e' with
  | nil t => cases h'; exact ⟨rfl, rfl⟩
  | stop h he =>
    cases h' with
    | stop g hg => exact ⟨rfl, (h.det g).2⟩
    | next g hr => exact absurd (h.det g).2 he
  | next h hr ih =>
    cases h' with
    | stop g hg => exact absurd (h.det g).2.symm hg
    | next g hr' =>
      obtain ⟨rfl, _⟩ := h.det g
      exact ih hr'
theorem EditUndoAll_eq (t : Nd) (ops : List Op8) (ht : t.w ≤ 1048576) (hl : ops.length ≤ 1048576) (ho : ∀ o ∈ ops, Nd.ws o.nodes + o.text.length + o.row.length ≤ 1048576) (ho2 : ∀ o ∈ ops, Nd.ws (invO o).nodes + (invO o).text.length + (invO o).row.length ≤ 1048576) : m_l12_EditUndoAll 300000000 t ops = some true := by
  have hw := awake12_ok 300000000 (by decide)
  obtain ⟨y, f1, f2⟩ := few12_eq 300000000 t ops (by decide) (by omega) (by omega)
  have hall := all_eq 300000000 t ops (by decide) (by omega) ho
  have hinv := InvertAll_eq 300000000 (ops := ops) (fun o h => Invert_eq _ o (by have := ho o h; have := Nd.cnts_ws o.nodes; omega) (by have := ho o h; have := Nd.cnts_ws o.nodes; omega) (by have := ho o h; omega)) (by omega)
  have hall2 := fun u : Nd => all_eq 300000000 u (ops.map invO).reverse (by decide)
  have ho3 : ∀ o ∈ (ops.map invO).reverse, Nd.ws o.nodes + o.text.length + o.row.length ≤ 1048576 := fun o h => by
    rw [List.mem_reverse] at h
    obtain ⟨o', h', rfl⟩ := List.mem_map.1 h
    exact ho2 o' h'
  have q := equal_self 300000000 t (by have := Nd.cnt_w t; omega) (by have := Nd.cnt_w t; omega)
  generalize 300000000 = n at *
  cases y with
  | false =>
    obtain ⟨t1, t2, t3, t4⟩ := t
    unfold m_l12_EditUndoAll
    simp only [hw, f1, Option.bind_some, Bool.not_true, cond_false]
    rfl
  | true =>
    have h12 := (f2 rfl).2.2
    obtain ⟨u, i, e, g1, _, g3, _⟩ := hall h12
    by_cases he : e = 0
    · subst he
      cases g3 with
      | go hv hr =>
        have hu : u.w ≤ 17000000 := by
          have key : ∀ (L : List Op8) (t u : Nd), Runs t L u 0 → (∀ o ∈ L, Nd.ws o.nodes + o.text.length + o.row.length ≤ 1048576) → u.w ≤ t.w + L.length * 1048580 := fun L => by
            induction L with
            | nil => intro t u h _; cases h; omega
            | cons o L ih =>
              intro t u h hb
              cases h with
              | stop h he => exact absurd rfl he
              | next h hr =>
                have h1 := h.w
                have h2 := ih _ _ hr (fun o ho => hb o (List.mem_cons_of_mem _ ho))
                have h3 := hb o List.mem_cons_self
                simp only [Op8.text] at h3
                rw [List.length_cons, Nat.succ_mul]
                omega
          have := key ops t u hr ho
          have : ops.length * 1048580 ≤ 12 * 1048580 := Nat.mul_le_mul_right _ h12
          omega
        obtain ⟨hb, hvu⟩ := hr.back hv
        obtain ⟨v, i', e', k1, _, k3, _⟩ := hall2 u hu ho3 (by simp only [List.length_reverse, List.length_map]; omega)
        cases k3 with
        | bad h => rw [hvu] at h; cases h
        | go _ hr2 =>
          obtain ⟨rfl, rfl⟩ := hb.det hr2
          obtain ⟨t1, t2, t3, t4⟩ := t
          obtain ⟨u1, u2, u3, u4⟩ := u
          unfold m_l12_EditUndoAll
          simp only [hw, f1, Option.bind_some, Bool.not_true, cond_false, g1, show ((0 : Int) != 0) = false from rfl, hinv, k1, beq_self_eq_true, cond_true, q]
    · have hne : (e != 0) = true := bne_iff_ne.2 he
      obtain ⟨t1, t2, t3, t4⟩ := t
      obtain ⟨u1, u2, u3, u4⟩ := u
      unfold m_l12_EditUndoAll
      simp only [hw, f1, Option.bind_some, Bool.not_true, cond_false, g1, hne, cond_true]
end Go.Proofs.Ytfbggpmdmhgpfaa
