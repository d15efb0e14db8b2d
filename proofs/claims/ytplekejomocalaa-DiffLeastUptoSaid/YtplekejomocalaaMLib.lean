/-
  MODELS of functions of the library.
-/
import Derived.Test.YtplekejomocalaaMTyp
import Derived.Lib.Strings
import Derived.Lib.Slices
import Derived.Lib.Bytealg
namespace Go.Proofs.Ytplekejomocalaa
open Go.Abs

def m_stringslite_Index (s p : List UInt8) : Option Int := req (p.length = 1) <| some (Lib.indexByte s (p.headD 0))
def m_strings_Contains (s p : List UInt8) : Option Bool := req (p.length = 1) <| some (decide (0 ≤ Lib.indexByte s (p.headD 0)))
def m_strings_IndexByte (s : List UInt8) (c : Int) : Option Int := some (Lib.indexByte s c.toNat.toUInt8)
end Go.Proofs.Ytplekejomocalaa
