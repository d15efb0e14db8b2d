/-
  THE CODEC, PART E: plain facts of the models: numbers, heads, encodings.
-/
import Derived.Test.YtjjljekedgdnnaaCodD
set_option linter.unusedVariables false
set_option linter.unusedSimpArgs false
namespace Go.Proofs.Ytjjljekedgdnnaa
open Go.Abs

theorem w8 {n : Int} (h0 : 0 ≤ n) (h1 : n < 256) : IntKind.u8.wrap n = n := by
  have : IntKind.u8.wrap n = n % 256 := by
    simp only [IntKind.wrap, IntKind.bits, IntKind.signed]
    simp
  rw [this]; omega
theorem w8' (n : Int) : IntKind.u8.wrap n = n % 256 := by
  simp only [IntKind.wrap, IntKind.bits, IntKind.signed]
  simp

/-- The number of an integer. -/
def zig (i : Int) : Nat := if i < 0 then (2 * (-(i + 1)) + 1).toNat else (2 * i).toNat
def CV.num : CV → Nat
  | .mk k i t l => if k = 2 then t.length else if k = 3 then l.length else zig i
theorem zig_lt {i : Int} (h : in64i i) : zig i < 18446744073709551616 := by
  obtain ⟨h0, h1⟩ := h
  unfold zig; split <;> omega
theorem CV.num_lt {v : CV} (hr : v.rng) (hw : v.w ≤ 1000000000000) : v.num < 18446744073709551616 := by
  obtain ⟨k, i, t, l⟩ := v
  have := CV.ws_len l
  simp only [CV.w] at hw
  have := zig_lt hr.2.1
  simp only [CV.num]
  split
  · omega
  · split <;> omega
theorem m39_eq {v : CV} (hr : v.rng) (hw : v.w ≤ 1048576) : m39 v = some (v.num : Int) := by
  obtain ⟨k, i, t, l⟩ := v
  have hl := CV.ws_len l
  simp only [CV.w] at hw
  obtain ⟨_, ⟨h0, h1⟩, _⟩ := hr
  rw [m39, CV.num]
  by_cases h2 : k = 2
  · subst h2
    rw [if_pos rfl, show ((2 : Int) == 2) = true from rfl, cond_true, wrapU_in (by omega) (by omega)]
  · have e2 : (k == 2) = false := by simpa using h2
    rw [if_neg h2, e2, cond_false]
    by_cases h3 : k = 3
    · subst h3
      rw [if_pos rfl, show ((3 : Int) == 3) = true from rfl, cond_true, wrapU_in (by omega) (by omega)]
    · have e3 : (k == 3) = false := by simpa using h3
      rw [if_neg h3, e3, cond_false, zig]
      by_cases h4 : i < 0
      · rw [if_pos h4, decide_eq_true h4, cond_true, wrap64_in (n := i + 1) (by omega) (by omega), wrap64_in (by omega) (by omega), wrapU_in (n := 0 - (i + 1)) (by omega) (by omega),
          wrapU_in (n := 2 * (0 - (i + 1))) (by omega) (by omega), wrapU_in (by omega) (by omega)]
        congr 1; omega
      · rw [if_neg h4, decide_eq_false h4, cond_false, wrapU_in (n := i) (by omega) (by omega), wrapU_in (by omega) (by omega)]
        congr 1; omega
theorem m25_m39 (v : CV) : m25 v = m39 v := by cases v; rfl

/-- The number of bytes of a number. -/
def blen (n : Nat) : Nat := if n < 256 then 1 else blen (n / 256) + 1
termination_by n
decreasing_by omega
theorem blen_small {n : Nat} (h : n < 256) : blen n = 1 := by rw [blen, if_pos h]
theorem blen_big {n : Nat} (h : 256 ≤ n) : blen n = blen (n / 256) + 1 := by rw [blen, if_neg (by omega)]
theorem blen_pos (n : Nat) : 1 ≤ blen n := by rw [blen]; split <;> omega
theorem blen_lt : ∀ (n : Nat), n < 256 ^ blen n := by
  intro n
  induction n using Nat.strongRecOn with
  | _ n ih =>
    by_cases h : n < 256
    · rw [blen_small h]; omega
    · have := ih (n / 256) (by omega)
      rw [blen_big (by omega), Nat.pow_succ]; omega
theorem blen_ge : ∀ (n : Nat), 1 ≤ n → 256 ^ (blen n - 1) ≤ n := by
  intro n
  induction n using Nat.strongRecOn with
  | _ n ih =>
    intro h1
    by_cases h : n < 256
    · rw [blen_small h]; simp; omega
    · have h2 := ih (n / 256) (by omega) (by omega)
      have h3 := blen_pos (n / 256)
      rw [blen_big (by omega), Nat.add_sub_cancel]
      have e : 256 ^ blen (n / 256) = 256 ^ (blen (n / 256) - 1) * 256 := by
        rw [← Nat.pow_succ]; congr 1; omega
      rw [e]
      have := Nat.mul_le_mul_right 256 h2
      omega
theorem blen_le {n k : Nat} (hk : 1 ≤ k) (h : n < 256 ^ k) : blen n ≤ k := by
  by_cases h0 : n = 0
  · subst h0; rw [blen_small (by omega)]; exact hk
  · have h1 := blen_ge n (by omega)
    have h2 : blen n - 1 < k := (Nat.pow_lt_pow_iff_right (a := 256) (by omega)).1 (Nat.lt_of_le_of_lt h1 h)
    omega
theorem blen_eq {n k : Nat} (hk : 1 ≤ k) (h : n < 256 ^ k) (h' : 256 ^ (k - 1) ≤ n) : blen n = k := by
  have h1 := blen_le hk h
  have h2 := blen_lt n
  have h3 : k - 1 < blen n := (Nat.pow_lt_pow_iff_right (a := 256) (by omega)).1 (Nat.lt_of_le_of_lt h' h2)
  omega
theorem blen8 {n : Nat} (h : n < 18446744073709551616) : blen n ≤ 8 := blen_le (by omega) (by simpa using h)

theorem shr_nat (n i : Nat) (h : i ≤ 64) : ((n : Int).fdiv (2 ^ (min (i : Int).toNat IntKind.u64.bits))) = ((n / 2 ^ i : Nat) : Int) := by
  have e : min (i : Int).toNat IntKind.u64.bits = i := by show min (i : Int).toNat 64 = i; omega
  rw [e, Int.fdiv_eq_ediv_of_nonneg _ (by exact_mod_cast Nat.zero_le _)]
  push_cast
  rfl

theorem m40_l1_eq : ∀ (f m c : Nat), m < 256 ^ f → c + f < 1000000 → m40_l1 (f + 1) (m : Int) (c : Int) = some ((c + (if m = 0 then 0 else blen m) : Nat) : Int)
  | f, m, c, h, hc => by
    rw [m40_l1]
    by_cases h0 : m = 0
    · subst h0; simp
    · have e : ((m : Int) != 0) = true := by simpa using h0
      rw [e, cond_true, if_neg h0]
      match f, h, hc with
      | 0, h, hc => simp at h; omega
      | f + 1, h, hc =>
        have e8 := shr_nat m 8 (by omega)
        rw [show ((8 : Nat) : Int) = 8 from rfl, show (2 : Nat) ^ 8 = 256 from rfl] at e8
        rw [e8, wrap64_in (by omega) (by omega), show ((c : Int) + 1) = ((c + 1 : Nat) : Int) by omega]
        rw [m40_l1_eq f (m / 256) (c + 1) (by rw [Nat.pow_succ] at h; omega) (by omega)]
        congr 1
        by_cases hs : m < 256
        · rw [blen_small (n := m) hs, if_pos (by omega)]
        · rw [blen_big (n := m) (by omega), if_neg (by omega)]; omega
theorem m40_eq {n m : Nat} (hn : 10 ≤ n) (h : m < 18446744073709551616) : m40 n (m : Int) = some (blen m : Int) := by
  obtain ⟨f, rfl⟩ : ∃ f, n = f + 9 := ⟨n - 9, by omega⟩
  have e8 := shr_nat m 8 (by omega)
  rw [show ((8 : Nat) : Int) = 8 from rfl, show (2 : Nat) ^ 8 = 256 from rfl] at e8
  rw [m40, e8]
  have key : ∀ (g x c : Nat), x < 256 ^ 8 → c < 100 → m40_l1 (g + 9) (x : Int) (c : Int) = some ((c + (if x = 0 then 0 else blen x) : Nat) : Int) := by
    intro g
    have : ∀ (d a x c : Nat), x < 256 ^ d → c + d < 1000 → m40_l1 (a + d + 1) (x : Int) (c : Int) = some ((c + (if x = 0 then 0 else blen x) : Nat) : Int) := by
      intro d
      induction d with
      | zero =>
        intro a x c hx hc
        have : x = 0 := by simpa using hx
        subst this
        rw [m40_l1]; simp
      | succ d ih =>
        intro a x c hx hc
        rw [m40_l1]
        by_cases h0 : x = 0
        · subst h0; simp
        · have e : ((x : Int) != 0) = true := by simpa using h0
          have e8 := shr_nat x 8 (by omega)
          rw [show ((8 : Nat) : Int) = 8 from rfl, show (2 : Nat) ^ 8 = 256 from rfl] at e8
          rw [e, cond_true, if_neg h0, e8, wrap64_in (by omega) (by omega), show ((c : Int) + 1) = ((c + 1 : Nat) : Int) by omega, show a + (d + 1) = a + d + 1 by omega]
          rw [ih a (x / 256) (c + 1) (by rw [Nat.pow_succ] at hx; omega) (by omega)]
          congr 1
          by_cases hs : x < 256
          · rw [blen_small (n := x) hs, if_pos (by omega)]
          · rw [blen_big (n := x) (by omega), if_neg (by omega)]; omega
    intro x c hx hc
    exact this 8 g x c hx (by omega)
  have := key f (m / 256) 1 (by omega) (by omega)
  rw [show ((1 : Nat) : Int) = 1 from rfl] at this
  rw [this, Option.bind_some]
  congr 1
  by_cases hs : m < 256
  · rw [blen_small (n := m) hs, if_pos (by omega)]
  · rw [blen_big (n := m) (by omega), if_neg (by omega)]; omega

/-- The digits, the greatest first. -/
def dig (i n : Nat) : UInt8 := UInt8.ofNat (n / 256 ^ i)
def beK : Nat → Nat → List UInt8
  | 0, _ => []
  | i + 1, n => dig i n :: beK i n
theorem beK_length : ∀ (k n : Nat), (beK k n).length = k
  | 0, _ => rfl
  | k + 1, n => by simp [beK, beK_length k n]
theorem dig_up (i n : Nat) : dig (i + 1) n = dig i (n / 256) := by
  unfold dig; rw [Nat.pow_succ, Nat.mul_comm, ← Nat.div_div_eq_div_mul]
theorem beK_snoc : ∀ (k n : Nat), beK (k + 1) n = beK k (n / 256) ++ [dig 0 n]
  | 0, n => rfl
  | k + 1, n => by
    have := beK_snoc k n
    simp only [beK] at this ⊢
    rw [dig_up k n, this]; rfl
theorem b8of_nat (m : Nat) : b8of (IntKind.u8.wrap (m : Int)) = UInt8.ofNat m := by
  rw [w8']
  apply UInt8.toNat_inj.1
  have e : ((m : Int) % 256).toNat = m % 256 := by omega
  simp [b8of, e, UInt8.toNat_ofNat']

def CV.head (v : CV) : List UInt8 :=
  match v with
  | .mk k i t l => if v.num < 56 then [UInt8.ofNat (64 * k.toNat + v.num)] else UInt8.ofNat (64 * k.toNat + 55 + blen v.num) :: beK (blen v.num) v.num
def kind3 (k : Int) : Prop := k = 1 ∨ k = 2 ∨ k = 3
theorem CV.head_len (v : CV) (hr : v.rng) (hw : v.w ≤ 1048576) : v.head.length ≤ 9 := by
  have := blen8 (CV.num_lt hr (Nat.le_trans hw (by decide)))
  cases v
  simp only [CV.head]; split
  · simp
  · simp [beK_length]; exact this

theorem m35_l1_eq {y : Nat} : ∀ (i : Nat) (k : Nat) (l : List UInt8), i ≤ 8 → i < k → l.length + i ≤ 4294967296 → m35_l1 (y : Int) k ((i : Int) - 1) l = some (l ++ beK i y)
  | 0, k + 1, l, _, _, _ => by
    rw [m35_l1]; simp [beK]
  | i + 1, k + 1, l, h8, hk, hl => by
    have e : ((i + 1 : Nat) : Int) - 1 = (i : Int) := by omega
    have e1 : IntKind.i64.wrap (8 * (i : Int)) = ((8 * i : Nat) : Int) := by rw [wrap64_in (by omega) (by omega)]; omega
    have e2 := shr_nat y (8 * i) (by omega)
    rw [m35_l1, e, decide_eq_true (by omega : (0 : Int) ≤ i), cond_true, e1, req_t (by omega), e2, b8of_nat, req_t (by simp; omega), wrap64_in (n := (i : Int) - 1) (by omega) (by omega),
      m35_l1_eq i k _ (by omega) (by omega) (by simp; omega), beK, dig, Nat.pow_mul]
    simp
theorem m35_eq {n : Nat} {b : List UInt8} {v : CV} (hn : 20 ≤ n) (hr : v.rng) (hw : v.w ≤ 1048576) (hk : kind3 (match v with | .mk k _ _ _ => k)) (hb : b.length ≤ 4294967000) : m35 n b v = some (b ++ v.head) := by
  have h39 := m39_eq hr hw
  have hlt := CV.num_lt hr (Nat.le_trans hw (by decide))
  obtain ⟨k, i, t, l⟩ := v
  rw [m35, h39, Option.bind_some, CV.head]
  generalize (CV.mk k i t l).num = y at *
  simp only at hk
  obtain ⟨q, hq, rfl⟩ : ∃ q : Nat, q ≤ 3 ∧ k = (q : Int) := by
    rcases hk with rfl | rfl | rfl
    · exact ⟨1, by omega, rfl⟩
    · exact ⟨2, by omega, rfl⟩
    · exact ⟨3, by omega, rfl⟩
  by_cases h : y < 56
  · have e : IntKind.u8.wrap (IntKind.i64.wrap (64 * (q : Int))) + IntKind.u8.wrap (y : Int) = ((64 * q + y : Nat) : Int) := by
      rw [wrap64_in (by omega) (by omega), w8 (by omega) (by omega), w8 (by omega) (by omega)]; omega
    rw [decide_eq_true (by omega : (y : Int) < 56), cond_true, e, b8of_nat, req_t (by simp; omega), if_pos h]
    rfl
  · have h8 := blen8 hlt
    have hp := blen_pos y
    rw [decide_eq_false (by omega : ¬ (y : Int) < 56), cond_false, m40_eq (by omega) hlt, Option.bind_some, if_neg h]
    have e : IntKind.i64.wrap (IntKind.i64.wrap (IntKind.i64.wrap (IntKind.i64.wrap (64 * (q : Int)) + 56) - 1) + (blen y : Int)) = ((64 * q + 55 + blen y : Nat) : Int) := by
      rw [wrap64_in (n := 64 * (q : Int)) (by omega) (by omega), wrap64_in (n := 64 * (q : Int) + 56) (by omega) (by omega), wrap64_in (n := 64 * (q : Int) + 56 - 1) (by omega) (by omega), wrap64_in (by omega) (by omega)]; omega
    rw [e, b8of_nat, req_t (by simp; omega), wrap64_in (n := (blen y : Int) - 1) (by omega) (by omega), m35_l1_eq (blen y) n _ h8 (by omega) (by simp; omega)]
    simp
theorem m33_l1_eq : ∀ (k y : Nat) (l : List UInt8), y < 256 ^ k → y < 18446744073709551616 → l.length + k ≤ 4294967295 → ∀ g, m33_l1 (g + k + 1) (y : Int) l = some ((if y = 0 then [] else beK (blen y) y) ++ l)
  | 0, y, l, h, _, _, g => by
    have : y = 0 := by simpa using h
    subst this
    rw [m33_l1]; simp
  | k + 1, y, l, h, hy, hl, g => by
    by_cases h0 : y = 0
    · subst h0; rw [m33_l1]; simp
    · have e1 : (y : Int).tmod 256 = ((y % 256 : Nat) : Int) := by rw [Int.tmod_eq_emod_of_nonneg (by omega)]; omega
      have e2 : (y : Int).tdiv 256 = ((y / 256 : Nat) : Int) := by rw [Int.tdiv_eq_ediv_of_nonneg (by omega)]; omega
      rw [m33_l1, decide_eq_true (by omega : 0 < (y : Int)), cond_true, e1, e2, b8of_nat, req_t (by simp; omega), wrapU_in (by omega) (by omega), show g + (k + 1) = g + k + 1 by omega,
        m33_l1_eq k (y / 256) _ (by rw [Nat.pow_succ] at h; omega) (by omega) (by simp; omega) g, if_neg h0]
      have ed : UInt8.ofNat (y % 256) = dig 0 y := by
        apply UInt8.toNat_inj.1; simp [dig, UInt8.toNat_ofNat']
      rw [ed]
      by_cases hs : y < 256
      · rw [blen_small (n := y) hs, if_pos (by omega)]; rfl
      · rw [blen_big (n := y) (by omega), if_neg (by omega), beK_snoc]; simp
theorem m33_eq {n : Nat} {v : CV} (hn : 20 ≤ n) (hr : v.rng) (hw : v.w ≤ 1048576) (hk : kind3 (match v with | .mk k _ _ _ => k)) : m33 n v = some v.head := by
  have h39 := m39_eq hr hw
  have hlt := CV.num_lt hr (Nat.le_trans hw (by decide))
  rw [← m25_m39] at h39
  obtain ⟨k, i, t, l⟩ := v
  rw [m33, h39, Option.bind_some, CV.head]
  generalize (CV.mk k i t l).num = y at *
  simp only at hk
  obtain ⟨q, hq, rfl⟩ : ∃ q : Nat, q ≤ 3 ∧ k = (q : Int) := by
    rcases hk with rfl | rfl | rfl
    · exact ⟨1, by omega, rfl⟩
    · exact ⟨2, by omega, rfl⟩
    · exact ⟨3, by omega, rfl⟩
  by_cases h : y < 56
  · have e : IntKind.i64.wrap (IntKind.i64.wrap (64 * (q : Int)) + IntKind.i64.wrap (y : Int)) = ((64 * q + y : Nat) : Int) := by
      rw [wrap64_in (n := 64 * (q : Int)) (by omega) (by omega), wrap64_in (n := (y : Int)) (by omega) (by omega), wrap64_in (by omega) (by omega)]; omega
    rw [decide_eq_true (by omega : (y : Int) < 56), cond_true, e, b8of_nat, if_pos h]
    rfl
  · have h8 := blen8 hlt
    have hp := blen_pos y
    obtain ⟨g, rfl⟩ : ∃ g, n = g + 8 + 1 := ⟨n - 9, by omega⟩
    rw [decide_eq_false (by omega : ¬ (y : Int) < 56), cond_false, m33_l1_eq 8 y [] (by simpa using hlt) hlt (by simp) g, Option.bind_some, if_neg h, if_neg (by omega), List.append_nil, beK_length]
    have e : IntKind.i64.wrap (IntKind.i64.wrap (IntKind.i64.wrap (64 * (q : Int)) + 55) + (blen y : Int)) = ((64 * q + 55 + blen y : Nat) : Int) := by
      rw [wrap64_in (n := 64 * (q : Int)) (by omega) (by omega), wrap64_in (n := 64 * (q : Int) + 55) (by omega) (by omega), wrap64_in (by omega) (by omega)]; omega
    rw [e, b8of_nat, req_t (by simp; omega)]
    rfl
end Go.Proofs.Ytjjljekedgdnnaa
