/-
  DERIVED. GIVEN WITH THE SEED: THE CARDS: each row of YtgfneloodabafaaDoorRows.lean that lists a variable, with what it lists TIED to the program's text (the seventh form; the later family's looks); each row that meets fmt, with fmt's text TOLD by the authors' own Lean function (tested against real Go, not proved from fmt's source: count such statements apart). THE CARD IS WHAT COUNTS. Prove the row's statement (the work); the ties are given (YtgfneloodabafaaDoorTie.lean); close each card by the builder's one call (the guide's Derived/Test/ToyasCard.lean, 'card_holds'). Laid BY PROGRAM, IN A SANDBOX (cutbox-door.mjs). By AI agents, Wed Nov 11 2026. No macro, syntax, notation, axiom, sorry.
-/
import Derived.Test.YtgfneloodabafaaDoorRows
import GoSem.ClaimSeven
namespace Go.Proofs.YtgfneloodabafaaDoor
namespace Rows

/-- THE TIED CARD OF 'vinculumlaw17.MergeOne'. -/
def mergeOneCard : Claim7 := { stood := { row := mergeOneRow, standIns := [], harness := (true, "24d70ed95385243b5bad0a3d7aaa837bd17cb1f19762bb696726d8164417b3d9"), looks := false }, kinds := [], alts := [], laidByText := true, laidKinds := [.data, .data, .data], laidTests := true, laidLooks := .later }
def MergeOneCardSaid : Prop := Claim7.holds Tryd.pinned (.plain (OpenSpec.ofChange mergeOneSpec)) mergeOneCard

/-- THE TIED CARD OF 'vinculumlaw17.MergeConflicts'. -/
def mergeConflictsCard : Claim7 := { stood := { row := mergeConflictsRow, standIns := [], harness := (true, "24d70ed95385243b5bad0a3d7aaa837bd17cb1f19762bb696726d8164417b3d9"), looks := false }, kinds := [], alts := [], laidByText := true, laidKinds := [.data, .data, .data], laidTests := true, laidLooks := .later }
def MergeConflictsCardSaid : Prop := Claim7.holds Tryd.pinned (.plain (OpenSpec.ofChange mergeConflictsSpec)) mergeConflictsCard

/-- THE TIED CARD OF 'vinculumlaw17.MergeCost'. -/
def mergeCostCard : Claim7 := { stood := { row := mergeCostRow, standIns := [], harness := (true, "24d70ed95385243b5bad0a3d7aaa837bd17cb1f19762bb696726d8164417b3d9"), looks := false }, kinds := [], alts := [], laidByText := true, laidKinds := [.data, .data, .data], laidTests := true, laidLooks := .later }
def MergeCostCardSaid : Prop := Claim7.holds Tryd.pinned (.plain (OpenSpec.ofChange mergeCostSpec)) mergeCostCard

/-- THE TIED CARD OF 'vinculumlaw17.MergeSides'. -/
def mergeSidesCard : Claim7 := { stood := { row := mergeSidesRow, standIns := [], harness := (true, "24d70ed95385243b5bad0a3d7aaa837bd17cb1f19762bb696726d8164417b3d9"), looks := false }, kinds := [], alts := [], laidByText := true, laidKinds := [.data, .data, .data], laidTests := true, laidLooks := .later }
def MergeSidesCardSaid : Prop := Claim7.holds Tryd.pinned (.plain (OpenSpec.ofChange mergeSidesSpec)) mergeSidesCard

/-- THE SECOND FORM's CARD OF 'vinculumlaw17.MergeOne'. -/
def mergeOneUptoCard : Claim7 := { stood := { row := mergeOneUptoRow, standIns := [], harness := (true, "24d70ed95385243b5bad0a3d7aaa837bd17cb1f19762bb696726d8164417b3d9"), looks := false }, kinds := [], alts := [], laidByText := true, laidKinds := [.data, .data, .data], laidTests := true, laidLooks := .later }
def MergeOneUptoCardSaid : Prop := Claim7.holds Tryd.pinned (.plain (OpenSpec.upto mergeOneSpec)) mergeOneUptoCard

/-- THE SECOND FORM's CARD OF 'vinculumlaw17.MergeConflicts'. -/
def mergeConflictsUptoCard : Claim7 := { stood := { row := mergeConflictsUptoRow, standIns := [], harness := (true, "24d70ed95385243b5bad0a3d7aaa837bd17cb1f19762bb696726d8164417b3d9"), looks := false }, kinds := [], alts := [], laidByText := true, laidKinds := [.data, .data, .data], laidTests := true, laidLooks := .later }
def MergeConflictsUptoCardSaid : Prop := Claim7.holds Tryd.pinned (.plain (OpenSpec.upto mergeConflictsSpec)) mergeConflictsUptoCard

/-- THE SECOND FORM's CARD OF 'vinculumlaw17.MergeCost'. -/
def mergeCostUptoCard : Claim7 := { stood := { row := mergeCostUptoRow, standIns := [], harness := (true, "24d70ed95385243b5bad0a3d7aaa837bd17cb1f19762bb696726d8164417b3d9"), looks := false }, kinds := [], alts := [], laidByText := true, laidKinds := [.data, .data, .data], laidTests := true, laidLooks := .later }
def MergeCostUptoCardSaid : Prop := Claim7.holds Tryd.pinned (.plain (OpenSpec.upto mergeCostSpec)) mergeCostUptoCard

/-- THE SECOND FORM's CARD OF 'vinculumlaw17.MergeSides'. -/
def mergeSidesUptoCard : Claim7 := { stood := { row := mergeSidesUptoRow, standIns := [], harness := (true, "24d70ed95385243b5bad0a3d7aaa837bd17cb1f19762bb696726d8164417b3d9"), looks := false }, kinds := [], alts := [], laidByText := true, laidKinds := [.data, .data, .data], laidTests := true, laidLooks := .later }
def MergeSidesUptoCardSaid : Prop := Claim7.holds Tryd.pinned (.plain (OpenSpec.upto mergeSidesSpec)) mergeSidesUptoCard
end Rows
end Go.Proofs.YtgfneloodabafaaDoor
