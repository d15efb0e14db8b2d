/-
  WHAT THE ARGUMENTS ARE: nodes, texts, paths.
-/
import Derived.Test.YtplekejomocalaaDoorDidA
import Derived.Test.YtplekejomocalaaDoorAbsP
set_option linter.unusedVariables false
namespace Go.Proofs.YtplekejomocalaaDoor
open Go.Abs

theorem typed_nd {n : Nat} {ss : List S} (h : Typed T n 24 ss) : ∃ t : Nd, ss = t.enc ∧ t.rng :=
  typed_node (T := T) (e := 24) (s := 22) (ki := 3) (st := 9) rfl rfl rfl rfl rfl rfl rfl rfl rfl n h
end Go.Proofs.YtplekejomocalaaDoor

