/-
  MODELS of functions of the library.
-/
import Derived.Test.YtefbmooajknmgaaDoorMTyp
import Derived.Lib.Strings
import Derived.Lib.Slices
import Derived.Lib.Bytealg
import Derived.Lib.ItoaNum
namespace Go.Proofs.YtefbmooajknmgaaDoor
open Go.Abs

def m_stringslite_Index (s p : List UInt8) : Option Int := req (p.length = 1) <| some (Lib.indexByte s (p.headD 0))
def m_strings_Contains (s p : List UInt8) : Option Bool := req (p.length = 1) <| some (decide (0 ≤ Lib.indexByte s (p.headD 0)))
def m_strings_IndexByte (s : List UInt8) (c : Int) : Option Int := some (Lib.indexByte s c.toNat.toUInt8)
def m_strings_Builder_copyCheck (b : List UInt8) : Option (List UInt8) := some b
def m_strings_Builder_String (b : List UInt8) : Option (List UInt8) := req (b ≠ [] ∧ b.length ≤ 9223372036854775807) <| some b
def m_strconv_Itoa (n : Int) : Option (List UInt8) := req (-9223372036854775808 ≤ n ∧ n ≤ 9223372036854775807) <| some (Lib.itoa n)
end Go.Proofs.YtefbmooajknmgaaDoor
