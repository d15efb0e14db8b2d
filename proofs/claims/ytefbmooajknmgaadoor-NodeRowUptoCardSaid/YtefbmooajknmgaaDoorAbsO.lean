/-
  THE ABSTRACT MACHINE, PART O: tables by number, and small things that every proof over the machine needs.
-/
import Derived.Test.YtefbmooajknmgaaDoorAbsN
namespace Go.Abs

def look? {α : Type} (k : Nat) : List (Nat × α) → Option α
  | [] => none
  | (a, b) :: r => match Nat.beq k a with | true => some b | false => look? k r

theorem look_all {α : Type} {Q : Nat → α → Prop} : ∀ {l : List (Nat × α)}, (∀ p ∈ l, Q p.1 p.2) → ∀ t i, look? t l = some i → Q t i
  | [], _, t, i, h => by simp [look?] at h
  | (a, b) :: r, hl, t, i, h => by
    simp only [look?] at h
    split at h
    · rename_i e; cases h; obtain rfl := Nat.eq_of_beq_eq_true e; exact hl _ List.mem_cons_self
    · exact look_all (fun p hp => hl p (List.mem_cons_of_mem _ hp)) t i h

def okT (P : Program) (t : Nat) (i : TI) : Prop := ∃ d info z, P.underlying t = some d ∧ tkOf d = i.k ∧ P.info? t = some info ∧ info.size = i.size ∧ info.bytes = i.bytes ∧
    info.zero = some z ∧ z = (if i.k.agg then .agg (i.zero.map S.zval).toArray else (i.zero.headD .np).zval) ∧ i.zero.length = i.size ∧ (i.k.agg = false → i.size = 1) ∧ i.zero.all S.zok = true

theorem tok_of {P : Program} {tab : List (Nat × TI)} (h : ∀ p ∈ tab, okT P p.1 p.2) : TOk P (fun t => look? t tab) := look_all (Q := okT P) h

theorem closed_of {tab : List (Nat × TI)} (h : tab.all (fun p => closedAt (fun t => look? t tab) p.2) = true) : ∀ t i, look? t tab = some i → closedAt (fun t => look? t tab) i = true :=
  look_all (Q := fun _ i => closedAt (fun t => look? t tab) i = true) fun p hp => List.all_eq_true.1 h p hp

theorem wrap64_in {n : Int} (h0 : -9223372036854775808 ≤ n) (h1 : n < 9223372036854775808) : IntKind.i64.wrap n = n := by
  simp only [IntKind.wrap, IntKind.bits, IntKind.signed]
  by_cases hn : 0 ≤ n
  · have e : n % (2 ^ 64 : Int) = n := Int.emod_eq_of_lt hn (by omega)
    simp only [e]
    rw [if_neg (by simp; omega)]
  · have e : n % (2 ^ 64 : Int) = n + 2 ^ 64 := by
      rw [← Int.add_emod_right]; exact Int.emod_eq_of_lt (by omega) (by omega)
    simp only [e]
    rw [if_pos (by simp; omega)]
    omega

theorem wrapU_in {n : Int} (h0 : 0 ≤ n) (h1 : n < 18446744073709551616) : IntKind.u64.wrap n = n := by
  have e : n % (2 ^ 64 : Int) = n := Int.emod_eq_of_lt h0 (by omega)
  simp only [IntKind.wrap, IntKind.bits, IntKind.signed, e]
  simp

end Go.Abs
