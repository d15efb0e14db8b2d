/-
  DERIVED. GIVEN WITH THE SEED: THE CARDS: each row of YtgfneloodabafaaGreatDoorRows.lean that lists a variable, with what it lists TIED to the program's text (the seventh form; the later family's looks); each row that meets fmt, with fmt's text TOLD by the authors' own Lean function (tested against real Go, not proved from fmt's source: count such statements apart). THE CARD IS WHAT COUNTS. Prove the row's statement (the work); the ties are given (YtgfneloodabafaaGreatDoorTie.lean); close each card by the builder's one call (the guide's Derived/Test/ToyasCard.lean, 'card_holds'). Laid BY PROGRAM, IN A SANDBOX (cutbox-door.mjs). By AI agents, Wed Nov 11 2026. No macro, syntax, notation, axiom, sorry.
-/
import Derived.Test.YtgfneloodabafaaGreatDoorRows
import GoSem.ClaimSeven
namespace Go.Proofs.YtgfneloodabafaaGreatDoor
namespace Rows

/-- THE TIED CARD OF 'vinculumlaw17.MergeThree'. -/
def mergeThreeCard : Claim7 := { stood := { row := mergeThreeRow, standIns := [], harness := (true, "73c13b6641523414779f18583001d441f63bb00b2d9b68ceb7d7b511d326605d"), looks := false }, kinds := [], alts := [], laidByText := true, laidKinds := [.data, .data, .data], laidTests := true, laidLooks := .later }
def MergeThreeCardSaid : Prop := Claim7.holds Tryz.pinned (.plain (OpenSpec.ofChange mergeThreeSpec)) mergeThreeCard

/-- THE TIED CARD OF 'vinculumlaw17.MergeApart'. -/
def mergeApartCard : Claim7 := { stood := { row := mergeApartRow, standIns := [], harness := (true, "73c13b6641523414779f18583001d441f63bb00b2d9b68ceb7d7b511d326605d"), looks := false }, kinds := [], alts := [], laidByText := true, laidKinds := [.data, .data, .data], laidTests := true, laidLooks := .later }
def MergeApartCardSaid : Prop := Claim7.holds Tryz.pinned (.plain (OpenSpec.ofChange mergeApartSpec)) mergeApartCard

/-- THE TIED CARD OF 'vinculumlaw17.MergeChooses'. -/
def mergeChoosesCard : Claim7 := { stood := { row := mergeChoosesRow, standIns := [], harness := (true, "73c13b6641523414779f18583001d441f63bb00b2d9b68ceb7d7b511d326605d"), looks := false }, kinds := [], alts := [], laidByText := true, laidKinds := [.data, .data, .data], laidTests := true, laidLooks := .later }
def MergeChoosesCardSaid : Prop := Claim7.holds Tryz.pinned (.plain (OpenSpec.ofChange mergeChoosesSpec)) mergeChoosesCard

/-- THE SECOND FORM's CARD OF 'vinculumlaw17.MergeThree'. -/
def mergeThreeUptoCard : Claim7 := { stood := { row := mergeThreeUptoRow, standIns := [], harness := (true, "73c13b6641523414779f18583001d441f63bb00b2d9b68ceb7d7b511d326605d"), looks := false }, kinds := [], alts := [], laidByText := true, laidKinds := [.data, .data, .data], laidTests := true, laidLooks := .later }
def MergeThreeUptoCardSaid : Prop := Claim7.holds Tryz.pinned (.plain (OpenSpec.upto mergeThreeSpec)) mergeThreeUptoCard

/-- THE SECOND FORM's CARD OF 'vinculumlaw17.MergeApart'. -/
def mergeApartUptoCard : Claim7 := { stood := { row := mergeApartUptoRow, standIns := [], harness := (true, "73c13b6641523414779f18583001d441f63bb00b2d9b68ceb7d7b511d326605d"), looks := false }, kinds := [], alts := [], laidByText := true, laidKinds := [.data, .data, .data], laidTests := true, laidLooks := .later }
def MergeApartUptoCardSaid : Prop := Claim7.holds Tryz.pinned (.plain (OpenSpec.upto mergeApartSpec)) mergeApartUptoCard

/-- THE SECOND FORM's CARD OF 'vinculumlaw17.MergeChooses'. -/
def mergeChoosesUptoCard : Claim7 := { stood := { row := mergeChoosesUptoRow, standIns := [], harness := (true, "73c13b6641523414779f18583001d441f63bb00b2d9b68ceb7d7b511d326605d"), looks := false }, kinds := [], alts := [], laidByText := true, laidKinds := [.data, .data, .data], laidTests := true, laidLooks := .later }
def MergeChoosesUptoCardSaid : Prop := Claim7.holds Tryz.pinned (.plain (OpenSpec.upto mergeChoosesSpec)) mergeChoosesUptoCard
end Rows
end Go.Proofs.YtgfneloodabafaaGreatDoor
