/-
  THE CODEC, PART B: values as data.
-/
import Derived.Test.YtjjljekedgdnnaaCodA
set_option linter.unusedVariables false
namespace Go.Proofs.Ytjjljekedgdnnaa
open Go.Abs

/-- A value. -/
inductive CV where
  | mk (kind int : Int) (text : List UInt8) (list : List CV)

mutual
def CV.enc : CV → List S
  | .mk k n t vs => [.int .i64 k, .int .i64 n, .str t, .sl 4 (CV.encs vs)]
def CV.encs : List CV → List (List S)
  | [] => []
  | v :: vs => v.enc :: CV.encs vs
end
/- Its weight: all texts and all values. -/
mutual
def CV.w : CV → Nat
  | .mk _ _ t vs => t.length + CV.ws vs + 1
def CV.ws : List CV → Nat
  | [] => 0
  | v :: vs => v.w + CV.ws vs + 1
end
def in64i (n : Int) : Prop := -9223372036854775808 ≤ n ∧ n ≤ 9223372036854775807
mutual
def CV.rng : CV → Prop
  | .mk k n t vs => in64i k ∧ in64i n ∧ CV.rngs vs
def CV.rngs : List CV → Prop
  | [] => True
  | v :: vs => v.rng ∧ CV.rngs vs
end

theorem CV.encs_eq : ∀ (vs : List CV), CV.encs vs = vs.map CV.enc
  | [] => rfl
  | v :: vs => by simp [CV.encs, CV.encs_eq vs]
theorem CV.rngAll : ∀ {vs : List CV}, (∀ v ∈ vs, v.rng) → CV.rngs vs
  | [], _ => trivial
  | v :: vs, h => ⟨h v List.mem_cons_self, CV.rngAll fun u hu => h u (List.mem_cons_of_mem _ hu)⟩
theorem CV.rng_mem : ∀ {vs : List CV} {v : CV}, CV.rngs vs → v ∈ vs → v.rng
  | u :: vs, v, h, hm => by
    rcases List.mem_cons.1 hm with rfl | hm
    · exact h.1
    · exact CV.rng_mem h.2 hm
theorem CV.w_mem : ∀ {vs : List CV} {v : CV}, v ∈ vs → v.w < CV.ws vs
  | u :: vs, v, hm => by
    simp only [CV.ws]
    rcases List.mem_cons.1 hm with rfl | hm
    · omega
    · have := CV.w_mem hm; omega
theorem CV.ws_len : ∀ (vs : List CV), vs.length ≤ CV.ws vs
  | [] => Nat.le_refl _
  | v :: vs => by have := CV.ws_len vs; simp only [CV.ws, List.length_cons]; omega
theorem CV.ws_append : ∀ (a b : List CV), CV.ws (a ++ b) = CV.ws a + CV.ws b
  | [], b => by simp [CV.ws]
  | v :: a, b => by simp only [List.cons_append, CV.ws, CV.ws_append a b]; omega

mutual
theorem CV.w_bulk : ∀ (v : CV), v.w + 1 ≤ bulkL v.enc
  | .mk k n t vs => by
    have := CV.ws_bulk vs
    simp only [CV.w, CV.enc, bulkL, S.bulk]; omega
theorem CV.ws_bulk : ∀ (vs : List CV), CV.ws vs ≤ bulkLL (CV.encs vs)
  | [] => Nat.zero_le _
  | v :: vs => by
    have h1 := CV.w_bulk v
    have h2 := CV.ws_bulk vs
    simp only [CV.ws, CV.encs, bulkLL]; omega
end

theorem typed_value {e s : Nat} {i j : TI} (he : T e = some i) (hk : i.k = .struct [(0,3),(1,3),(2,9),(3,s)]) (hs : T s = some j) (hj : j.k = .slice e) (hz : szOf T e = 4) :
    ∀ (n : Nat) {ss : List S}, Typed T n e ss → ∃ t : CV, ss = t.enc ∧ t.rng := by
  intro n
  induction n using Nat.strongRecOn with
  | _ n ih =>
    intro ss h
    obtain ⟨m, rfl, a0, q0, rfl, u0, a1, q1, rfl, u1, a2, q2, rfl, u2, a3, q3, rfl, u3, rfl⟩ := typed_struct (T := T) he hk h
    obtain ⟨k, rfl, k1, k2⟩ := typed_int (T := T) (k := .i64) rfl rfl u0
    obtain ⟨c, rfl, c1, c2⟩ := typed_int (T := T) (k := .i64) rfl rfl u1
    obtain ⟨t, rfl, _⟩ := typed_str (T := T) rfl rfl u2
    obtain ⟨m', rows, rfl, rfl, _, hr⟩ := typed_slice (T := T) hs hj u3
    obtain ⟨ks, rfl, hks⟩ := all_map (f := CV.enc) (q := CV.rng) (l := rows) fun r hr' => ih m' (by omega) (hr r hr')
    refine ⟨.mk k c t ks, by simp only [CV.enc, CV.encs_eq, hz]; rfl, ?_⟩
    have e1 : IntKind.i64.min = -9223372036854775808 ∧ IntKind.i64.max = 9223372036854775807 := by decide
    rw [e1.1] at k1 c1; rw [e1.2] at k2 c2
    exact ⟨⟨k1, k2⟩, ⟨c1, c2⟩, CV.rngAll hks⟩
end Go.Proofs.Ytjjljekedgdnnaa
