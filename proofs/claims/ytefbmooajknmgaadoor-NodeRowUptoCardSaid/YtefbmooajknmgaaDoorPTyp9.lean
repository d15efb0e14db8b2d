/-
  WHAT THE ARGUMENTS ARE: nodes, texts, paths.
-/
import Derived.Test.YtefbmooajknmgaaDoorNdA
import Derived.Test.YtefbmooajknmgaaDoorAbsP
set_option linter.unusedVariables false
namespace Go.Proofs.YtefbmooajknmgaaDoor
open Go.Abs

theorem typed_nd {n : Nat} {ss : List S} (h : Typed T n 26 ss) : ∃ t : Nd, ss = t.enc ∧ t.rng :=
  typed_node (T := T) (e := 26) (s := 24) (ki := 3) (st := 9) rfl rfl rfl rfl rfl rfl rfl rfl rfl n h
theorem typed_path {n : Nat} {ss : List S} (h : Typed T n 33 ss) : ∃ l : List Int, ss = [.sl 1 (l.map (irow .i64))] ∧ ∀ x ∈ l, in64i x := by
  obtain ⟨l, rfl, _, hx⟩ := typed_ints (T := T) (k := .i64) (e := 3) rfl rfl rfl rfl h
  have e1 : IntKind.i64.min = -9223372036854775808 ∧ IntKind.i64.max = 9223372036854775807 := by decide
  rw [e1.1, e1.2] at hx
  exact ⟨l, rfl, hx⟩
end Go.Proofs.YtefbmooajknmgaaDoor

