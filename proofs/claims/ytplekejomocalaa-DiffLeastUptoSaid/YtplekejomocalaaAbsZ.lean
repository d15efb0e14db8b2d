/-
  THE ABSTRACT MACHINE, PART Z: what the program's package-level variables hold that the walks read (per seat).
-/
import Derived.Test.YtplekejomocalaaAbsA
namespace Go.Abs

/-- The rows of the package-level variables that are read, by their blocks. -/
def globs (_ : Nat) : Option (List S) := none

end Go.Abs
