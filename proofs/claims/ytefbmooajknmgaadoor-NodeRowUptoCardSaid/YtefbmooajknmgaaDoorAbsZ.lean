/-
  THE ABSTRACT MACHINE, PART Z: what the program's package-level variables hold that the walks, or the library, read (per seat).
-/
import Derived.Test.YtefbmooajknmgaaDoorAbsA
import Derived.Lib.ItoaNum
namespace Go.Abs

/-- The rows of the package-level variables that are read, by their blocks. -/
def globs (_ : Nat) : Option (List S) := none
/-- The whole blocks of package-level variables that only the library reads: the powers of ten. -/
def gtabs (g : Nat) : Option (Array Value) := bif Nat.beq g 1 then some (Lib.pow10Tab.map fun z => Value.int .u64 z).toArray else none

end Go.Abs

