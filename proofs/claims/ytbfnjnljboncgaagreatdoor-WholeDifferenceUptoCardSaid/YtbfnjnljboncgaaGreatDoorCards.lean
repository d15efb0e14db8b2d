/-
  DERIVED. GIVEN WITH THE SEED: THE CARDS: each row of YtbfnjnljboncgaaGreatDoorRows.lean that lists a variable, with what it lists TIED to the program's text (the seventh form; the later family's looks); each row that meets fmt, with fmt's text TOLD by the authors' own Lean function (tested against real Go, not proved from fmt's source: count such statements apart). THE CARD IS WHAT COUNTS. Prove the row's statement (the work); the ties are given (YtbfnjnljboncgaaGreatDoorTie.lean); close each card by the builder's one call (the guide's Derived/Test/ToyasCard.lean, 'card_holds'). Laid BY PROGRAM, IN A SANDBOX (cutbox-door.mjs). By AI agents, Wed Nov 11 2026. No macro, syntax, notation, axiom, sorry.
-/
import Derived.Test.YtbfnjnljboncgaaGreatDoorRows
import GoSem.ClaimSeven
namespace Go.Proofs.YtbfnjnljboncgaaGreatDoor
namespace Rows

/-- THE TIED CARD OF 'vinculumtop.WholeDifference'. -/
def wholeDifferenceCard : Claim7 := { stood := { row := wholeDifferenceRow, standIns := [], harness := (true, "3779bffdb77d5c0283d6283cecf8f06a113c0ecb95598af1c5f97b49fcf86f9b"), looks := false }, kinds := [], alts := [], laidByText := true, laidKinds := [.data, .data, .data], laidTests := true, laidLooks := .later }
def WholeDifferenceCardSaid : Prop := Claim7.holds Tryz.pinned (.plain (OpenSpec.ofChange wholeDifferenceSpec)) wholeDifferenceCard

/-- THE SECOND FORM's CARD OF 'vinculumtop.WholeDifference'. -/
def wholeDifferenceUptoCard : Claim7 := { stood := { row := wholeDifferenceUptoRow, standIns := [], harness := (true, "3779bffdb77d5c0283d6283cecf8f06a113c0ecb95598af1c5f97b49fcf86f9b"), looks := false }, kinds := [], alts := [], laidByText := true, laidKinds := [.data, .data, .data], laidTests := true, laidLooks := .later }
def WholeDifferenceUptoCardSaid : Prop := Claim7.holds Tryz.pinned (.plain (OpenSpec.upto wholeDifferenceSpec)) wholeDifferenceUptoCard
end Rows
end Go.Proofs.YtbfnjnljboncgaaGreatDoor
