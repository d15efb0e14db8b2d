/-
  TREES AS DATA.
-/
import Derived.Test.YtefbmooajknmgaaDoorAbsQ
set_option linter.unusedVariables false
namespace Go.Proofs.YtefbmooajknmgaaDoor
open Go.Abs

/-- A tree. -/
inductive Nd where
  | mk (kind : Int) (text : List UInt8) (cols : Int) (kids : List Nd)

mutual
def Nd.enc : Nd → List S
  | .mk k t c ks => [.int .i64 k, .str t, .int .i64 c, .sl 4 (Nd.encs ks)]
def Nd.encs : List Nd → List (List S)
  | [] => []
  | v :: vs => v.enc :: Nd.encs vs
end
/- Its weight: all texts and all nodes. -/
mutual
def Nd.w : Nd → Nat
  | .mk _ t _ ks => t.length + Nd.ws ks + 1
def Nd.ws : List Nd → Nat
  | [] => 0
  | v :: vs => v.w + Nd.ws vs + 1
end
def in64i (n : Int) : Prop := -9223372036854775808 ≤ n ∧ n ≤ 9223372036854775807
mutual
def Nd.rng : Nd → Prop
  | .mk k _ c ks => in64i k ∧ in64i c ∧ Nd.rngs ks
def Nd.rngs : List Nd → Prop
  | [] => True
  | v :: vs => v.rng ∧ Nd.rngs vs
end

theorem Nd.encs_eq : ∀ (vs : List Nd), Nd.encs vs = vs.map Nd.enc
  | [] => rfl
  | v :: vs => by simp [Nd.encs, Nd.encs_eq vs]
theorem Nd.rngAll : ∀ {vs : List Nd}, (∀ v ∈ vs, v.rng) → Nd.rngs vs
  | [], _ => trivial
  | v :: vs, h => ⟨h v List.mem_cons_self, Nd.rngAll fun u hu => h u (List.mem_cons_of_mem _ hu)⟩
theorem Nd.rng_mem : ∀ {vs : List Nd} {v : Nd}, Nd.rngs vs → v ∈ vs → v.rng
  | u :: vs, v, h, hm => by
    rcases List.mem_cons.1 hm with rfl | hm
    · exact h.1
    · exact Nd.rng_mem h.2 hm
theorem Nd.w_mem : ∀ {vs : List Nd} {v : Nd}, v ∈ vs → v.w < Nd.ws vs
  | u :: vs, v, hm => by
    simp only [Nd.ws]
    rcases List.mem_cons.1 hm with rfl | hm
    · omega
    · have := Nd.w_mem hm; omega
theorem Nd.ws_len : ∀ (vs : List Nd), vs.length ≤ Nd.ws vs
  | [] => Nat.le_refl _
  | v :: vs => by have := Nd.ws_len vs; simp only [Nd.ws, List.length_cons]; omega
theorem Nd.ws_append : ∀ (a b : List Nd), Nd.ws (a ++ b) = Nd.ws a + Nd.ws b
  | [], b => by simp [Nd.ws]
  | v :: a, b => by simp only [List.cons_append, Nd.ws, Nd.ws_append a b]; omega

mutual
theorem Nd.w_bulk : ∀ (v : Nd), v.w + 1 ≤ bulkL v.enc
  | .mk k t c vs => by
    have := Nd.ws_bulk vs
    simp only [Nd.w, Nd.enc, bulkL, S.bulk]; omega
theorem Nd.ws_bulk : ∀ (vs : List Nd), Nd.ws vs ≤ bulkLL (Nd.encs vs)
  | [] => Nat.zero_le _
  | v :: vs => by
    have h1 := Nd.w_bulk v
    have h2 := Nd.ws_bulk vs
    simp only [Nd.ws, Nd.encs, bulkLL]; omega
end

theorem typed_node {T : Nat → Option TI} {e s ki st : Nat} {i j k1 k2 : TI} (he : T e = some i) (hk : i.k = .struct [(0,ki),(1,st),(2,ki),(3,s)]) (hs : T s = some j) (hj : j.k = .slice e) (hz : szOf T e = 4)
    (hi : T ki = some k1) (hki : k1.k = .int .i64) (ht : T st = some k2) (hkt : k2.k = .str) :
    ∀ (n : Nat) {ss : List S}, Typed T n e ss → ∃ t : Nd, ss = t.enc ∧ t.rng := by
  intro n
  induction n using Nat.strongRecOn with
  | _ n ih =>
    intro ss h
    obtain ⟨m, rfl, a0, q0, rfl, u0, a1, q1, rfl, u1, a2, q2, rfl, u2, a3, q3, rfl, u3, rfl⟩ := typed_struct (T := T) he hk h
    obtain ⟨k, rfl, k1, k2⟩ := typed_int (T := T) (k := .i64) hi hki u0
    obtain ⟨t, rfl, _⟩ := typed_str (T := T) ht hkt u1
    obtain ⟨c, rfl, c1, c2⟩ := typed_int (T := T) (k := .i64) hi hki u2
    obtain ⟨m', rows, rfl, rfl, _, hr⟩ := typed_slice (T := T) hs hj u3
    obtain ⟨ks, rfl, hks⟩ := all_map (f := Nd.enc) (q := Nd.rng) (l := rows) fun r hr' => ih m' (by omega) (hr r hr')
    refine ⟨.mk k t c ks, by simp only [Nd.enc, Nd.encs_eq, hz]; rfl, ?_⟩
    have e1 : IntKind.i64.min = -9223372036854775808 ∧ IntKind.i64.max = 9223372036854775807 := by decide
    rw [e1.1] at k1 c1; rw [e1.2] at k2 c2
    exact ⟨⟨k1, k2⟩, ⟨c1, c2⟩, Nd.rngAll hks⟩
end Go.Proofs.YtefbmooajknmgaaDoor
