/-
  THE DIGEST, PART F: a number in eight bytes, on both sides.
-/
import Derived.Test.YtpahhoappfbleaaDigD
import Derived.Test.YtpahhoappfbleaaAbsP
set_option linter.unusedVariables false
namespace Go.Proofs.Ytpahhoappfbleaa
open Go.Abs

/-- the byte of a number at a shift -/
def byteAt (n : Int) (s : Nat) : UInt8 := UInt8.ofNat (IntKind.u8.wrap (n.fdiv (2 ^ (min s 64)))).toNat
theorem wrap8_in (n : Int) : 0 ≤ IntKind.u8.wrap n ∧ IntKind.u8.wrap n ≤ 255 := by
  have : IntKind.u8.wrap n = n % 256 := by
    simp only [IntKind.wrap, IntKind.bits, IntKind.signed]
    simp
  rw [this]; omega
theorem byteAt_row (n : Int) (s : Nat) : [S.int .u8 (IntKind.u8.wrap (n.fdiv (2 ^ (min s 64))))] = brow (byteAt n s) := by
  obtain ⟨h0, h1⟩ := wrap8_in (n.fdiv (2 ^ (min s 64)))
  have : (byteAt n s).toNat = (IntKind.u8.wrap (n.fdiv (2 ^ (min s 64)))).toNat := by
    simp [byteAt, UInt8.toNat_ofNat']; omega
  simp only [brow, this, Int.toNat_of_nonneg h0]

def first (n : Int) (j : Nat) : List UInt8 := (List.range j).map fun i => byteAt n (56 - 8 * i)
def eight (n : Int) : List UInt8 := first n 8
theorem first_succ (n : Int) (j : Nat) : first n (j + 1) = first n j ++ [byteAt n (56 - 8 * j)] := by
  simp [first, List.range_succ]
theorem eight_length (n : Int) : (eight n).length = 8 := by simp [eight, first]
theorem first_length (n : Int) (j : Nat) : (first n j).length = j := by simp [first]

def numberS : PSpec := ospec fun xs os x os' => ∃ (bs : List UInt8) (n : Int), bs.length ≤ 1099511627776 ∧ xs = [.orow 0, .s (.int .u64 n)] ∧ os = [.row 5 1 (bs.map brow)] ∧ x = .orow 1 ∧
  os' = [none, some (.row 5 1 ((bs ++ eight n).map brow))]

theorem step_rows {bs : List UInt8} {n : Int} {j : Nat} {s : Int} (hs : s = 56 - 8 * (j : Int)) (hj : j < 8) :
    (bs ++ first n j).map brow ++ [[S.int .u8 (IntKind.u8.wrap (n.fdiv (2 ^ (min s.toNat IntKind.u64.bits))))]] = (bs ++ first n (j + 1)).map brow := by
  have e : s.toNat = 56 - 8 * j := by omega
  rw [first_succ, e, show IntKind.u64.bits = 64 from rfl, byteAt_row]
  simp

theorem number_ok : PSound Try.prog 19 numberS := by
  refine osound tok Try.call19 Try.func19 rfl (fun xs os x os' h => by obtain ⟨bs, n, _, rfl, rfl, _, rfl⟩ := h; exact ⟨by show 2 ≤ 18; decide, by show 1 ≤ 2; decide⟩) 18 rfl ?_
  rintro xs os x os' w0 G0 B0 ⟨bs, n, hb, rfl, rfl, rfl, rfl⟩ _
  refine tri_seq (tri_region (Γ := fun _ => none) tok (fun _ _ h => by cases h) [] [] rfl ?_)
  show Tri _ _ _ _
  refine tri_seq (tri_seq (tri_region (Γ := fun _ => none) tok (fun _ _ h => by cases h) [] [] rfl ?_))
  show Tri _ _ _ _
  refine tri_block (tri_loopI (X := Nat) (fun j => ⟨ofL [(0, .orow 1), (1, .s (.int .u64 n)), (5, .s (.int .i64 (56 - 8 * (j : Int))))], ofH [(1, .row 5 1 ((bs ++ first n j).map brow))], 2⟩)
    (fun j => j ≤ 8) (fun j => 8 - j) 0 (Nat.zero_le _) ?_ ?_)
  · exact Le.rename [(0, 1)] [(0, .orow 1), (1, .s (.int .u64 n)), (5, .s (.int .i64 (56 - 8 * ((0 : Nat) : Int))))] _ _ ⟨rfl, rfl, rfl, trivial⟩ ⟨rfl, ⟨_, rfl, by simp [Ob.ren, first]⟩, trivial⟩ rfl rfl rfl rfl rfl
  · intro j hj
    refine tri_seq (tri_seq (tri_region (Γ := fun _ => none) tok (fun _ _ h => by cases h) [] [] rfl ?_))
    show Tri _ _ _ _
    refine tri_cond rfl (fun hb => ?_) (fun hb => ?_)
    · refine tri_skip ?_
      show Tri _ _ _ _
      have hj8 : j < 8 := by
        have : (0 : Int) ≤ 56 - 8 * (j : Int) := by simpa using hb
        omega
      refine tri_seq (tri_block (tri_region (Γ := fun _ => none) tok (fun _ _ h => by cases h) [16] [] rfl ?_))
      refine And.intro (by simp; omega) ?_
      refine And.intro (by simp [first_length]; omega) ?_
      show Tri _ _ _ _
      refine tri_region (Γ := fun _ => none) tok (fun _ _ h => by cases h) [] [] rfl ?_
      refine ⟨j + 1, hj8, ?_, by show 8 - (j + 1) < 8 - j; omega⟩
      refine Le.rename [(2, 1)] _ _ _ ⟨rfl, rfl, ?_, trivial⟩ ⟨rfl, ⟨_, rfl, ?_⟩, trivial⟩ rfl rfl rfl rfl rfl
      · exact congrArg (fun n => AV.s (.int .i64 n)) ((wrap64_in (by omega) (by omega)).trans (by omega))
      · exact congrArg (fun r => Ob.row 5 1 r) (step_rows rfl hj8)
    · refine tri_exit ?_
      show Tri _ _ _ _
      have hj8 : j = 8 := by
        have : ¬ (0 : Int) ≤ 56 - 8 * (j : Int) := by simpa using hb
        omega
      subst hj8
      refine tri_seq (tri_region (Γ := fun _ => none) tok (fun _ _ h => by cases h) [] [] rfl ?_)
      show Tri _ _ _ _
      refine tri_ret ?_
      unfold GivesO
      exact ⟨_, Le.refl _ _, rfl, rfl, rfl, rfl, trivial⟩

def eightS : PSpec := pspec fun xs r => ∃ n : Int, xs = [.s (.int .u64 n)] ∧ r = .row 5 1 ((eight n).map brow)

theorem eight_ok : PSound Try.prog 20 eightS := by
  refine psound tok Try.call20 Try.func20 rfl (fun xs r h => by obtain ⟨n, rfl, _⟩ := h; show 1 ≤ 19; decide) 19 rfl ?_
  rintro xs r w0 G0 ⟨n, rfl, rfl⟩ _
  refine tri_seq (tri_region (Γ := fun _ => none) tok (fun _ _ h => by cases h) [] [] rfl ?_)
  show Tri _ _ _ _
  refine tri_seq (tri_region (Γ := fun _ => none) tok (fun _ _ h => by cases h) [3] [] rfl ?_)
  show Tri _ _ _ _
  refine tri_seq (tri_seq (tri_region (Γ := fun _ => none) tok (fun _ _ h => by cases h) [] [] rfl ?_))
  show Tri _ _ _ _
  refine tri_block (tri_loopI (X := Nat) (fun j => ⟨ofL [(0, .s (.int .u64 n)), (3, .orow 0), (4, .s (.int .i64 (j : Int)))], ofH [(0, .row 5 1 ((first n j).map brow))], 1⟩)
    (fun j => j ≤ 8) (fun j => 8 - j) 0 (Nat.zero_le _) ?_ ?_)
  · exact Le.rename [(0, 0)] [(0, .s (.int .u64 n)), (3, .orow 0), (4, .s (.int .i64 ((0 : Nat) : Int)))] _ _ ⟨rfl, rfl, rfl, trivial⟩ ⟨rfl, ⟨_, rfl, rfl⟩, trivial⟩ rfl rfl rfl rfl rfl
  · intro j hj
    refine tri_seq (tri_seq (tri_region (Γ := fun _ => none) tok (fun _ _ h => by cases h) [] [] rfl ?_))
    show Tri _ _ _ _
    refine tri_cond rfl (fun hb => ?_) (fun hb => ?_)
    · refine tri_skip ?_
      show Tri _ _ _ _
      have hj8 : j < 8 := by
        have : (j : Int) < 8 := by simpa using hb
        omega
      have hw : IntKind.i64.wrap (56 - IntKind.i64.wrap (8 * (j : Int))) = 56 - 8 * (j : Int) := by
        rw [wrap64_in (n := 8 * (j : Int)) (by omega) (by omega), wrap64_in (by omega) (by omega)]
      refine tri_seq (tri_block (tri_region (Γ := fun _ => none) tok (fun _ _ h => by cases h) [17] [] rfl ?_))
      refine And.intro (show (0 : Int) ≤ IntKind.i64.wrap (56 - IntKind.i64.wrap (8 * (j : Int))) by rw [hw]; omega) ?_
      refine And.intro (by simp [first_length]; omega) ?_
      show Tri _ _ _ _
      refine tri_region (Γ := fun _ => none) tok (fun _ _ h => by cases h) [] [] rfl ?_
      refine ⟨j + 1, hj8, ?_, by show 8 - (j + 1) < 8 - j; omega⟩
      refine Le.rename [(1, 0)] _ _ _ ⟨rfl, rfl, ?_, trivial⟩ ⟨rfl, ⟨_, rfl, ?_⟩, trivial⟩ rfl rfl rfl rfl rfl
      · exact congrArg (fun n => AV.s (.int .i64 n)) ((wrap64_in (by omega) (by omega)).trans (by omega))
      · exact congrArg (fun r => Ob.row 5 1 r) (by simpa using step_rows (bs := []) hw hj8)
    · refine tri_exit ?_
      show Tri _ _ _ _
      have hj8 : j = 8 := by
        have : ¬ (j : Int) < 8 := by simpa using hb
        omega
      subst hj8
      refine tri_seq (tri_region (Γ := fun _ => none) tok (fun _ _ h => by cases h) [] [] rfl ?_)
      show Tri _ _ _ _
      refine tri_ret ?_
      unfold Gives
      exact ⟨_, Le.refl _ _, 0, rfl, rfl⟩
end Go.Proofs.Ytpahhoappfbleaa
