/-
  DERIVED. GIVEN WITH THE SEED: THE CARDS: each row of YtplekejomocalaaDoorRows.lean that lists a variable, with what it lists TIED to the program's text (the seventh form; the later family's looks); each row that meets fmt, with fmt's text TOLD by the authors' own Lean function (tested against real Go, not proved from fmt's source: count such statements apart). THE CARD IS WHAT COUNTS. Prove the row's statement (the work); the ties are given (YtplekejomocalaaDoorTie.lean); close each card by the builder's one call (the guide's Derived/Test/ToyasCard.lean, 'card_holds'). Laid BY PROGRAM, IN A SANDBOX (cutbox-door.mjs). By AI agents, Wed Nov 11 2026. No macro, syntax, notation, axiom, sorry.
-/
import Derived.Test.YtplekejomocalaaDoorRows
import GoSem.ClaimSeven
namespace Go.Proofs.YtplekejomocalaaDoor
namespace Rows

/-- THE TIED CARD OF 'vinculumlaw16.DiffAligns'. -/
def diffAlignsCard : Claim7 := { stood := { row := diffAlignsRow, standIns := [], harness := (true, "1d70789cbe322aeaed399cea15162b1066758101d11c4938f68a4b8e649d27a0"), looks := false }, kinds := [], alts := [], laidByText := true, laidKinds := [.data, .data, .data], laidTests := true, laidLooks := .later }
def DiffAlignsCardSaid : Prop := Claim7.holds Tryd.pinned (.plain (OpenSpec.ofChange diffAlignsSpec)) diffAlignsCard

/-- THE TIED CARD OF 'vinculumlaw16.DiffSymmetric'. -/
def diffSymmetricCard : Claim7 := { stood := { row := diffSymmetricRow, standIns := [], harness := (true, "1d70789cbe322aeaed399cea15162b1066758101d11c4938f68a4b8e649d27a0"), looks := false }, kinds := [], alts := [], laidByText := true, laidKinds := [.data, .data, .data], laidTests := true, laidLooks := .later }
def DiffSymmetricCardSaid : Prop := Claim7.holds Tryd.pinned (.plain (OpenSpec.ofChange diffSymmetricSpec)) diffSymmetricCard

/-- THE SECOND FORM's CARD OF 'vinculumlaw16.DiffAligns'. -/
def diffAlignsUptoCard : Claim7 := { stood := { row := diffAlignsUptoRow, standIns := [], harness := (true, "1d70789cbe322aeaed399cea15162b1066758101d11c4938f68a4b8e649d27a0"), looks := false }, kinds := [], alts := [], laidByText := true, laidKinds := [.data, .data, .data], laidTests := true, laidLooks := .later }
def DiffAlignsUptoCardSaid : Prop := Claim7.holds Tryd.pinned (.plain (OpenSpec.upto diffAlignsSpec)) diffAlignsUptoCard

/-- THE SECOND FORM's CARD OF 'vinculumlaw16.DiffSymmetric'. -/
def diffSymmetricUptoCard : Claim7 := { stood := { row := diffSymmetricUptoRow, standIns := [], harness := (true, "1d70789cbe322aeaed399cea15162b1066758101d11c4938f68a4b8e649d27a0"), looks := false }, kinds := [], alts := [], laidByText := true, laidKinds := [.data, .data, .data], laidTests := true, laidLooks := .later }
def DiffSymmetricUptoCardSaid : Prop := Claim7.holds Tryd.pinned (.plain (OpenSpec.upto diffSymmetricSpec)) diffSymmetricUptoCard
end Rows
end Go.Proofs.YtplekejomocalaaDoor
