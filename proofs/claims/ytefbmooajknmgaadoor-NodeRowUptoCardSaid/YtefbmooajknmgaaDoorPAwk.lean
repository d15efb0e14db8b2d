/-
  The law's own example comes out.
-/
import Derived.Test.YtefbmooajknmgaaDoorMNod
set_option linter.unusedVariables false
namespace Go.Proofs.YtefbmooajknmgaaDoor
open Go.Abs

theorem awake_ok (k : Nat) : m_l16_awake (k + 60) = some true := by
  with_unfolding_all rfl
end Go.Proofs.YtefbmooajknmgaaDoor
