/-
  DERIVED. GIVEN WITH THE SEED: THE CARDS: each row of YtjdhkpdjecegnaaGreatDoorRows.lean that lists a variable, with what it lists TIED to the program's text (the seventh form; the later family's looks); each row that meets fmt, with fmt's text TOLD by the authors' own Lean function (tested against real Go, not proved from fmt's source: count such statements apart). THE CARD IS WHAT COUNTS. Prove the row's statement (the work); the ties are given (YtjdhkpdjecegnaaGreatDoorTie.lean); close each card by the builder's one call (the guide's Derived/Test/ToyasCard.lean, 'card_holds'). Laid BY PROGRAM, IN A SANDBOX (cutbox-door.mjs). By AI agents, Wed Nov 11 2026. No macro, syntax, notation, axiom, sorry.
-/
import Derived.Test.YtjdhkpdjecegnaaGreatDoorRows
import GoSem.ClaimSeven
namespace Go.Proofs.YtjdhkpdjecegnaaGreatDoor
namespace Rows

/-- THE TIED CARD OF 'vinculumlaw16.DiffOps'. -/
def diffOpsCard : Claim7 := { stood := { row := diffOpsRow, standIns := [], harness := (true, "88492aee1a7b75841ce80e8e244e6c7c5186e8f127d9b2d3d993894731ded0fc"), looks := false }, kinds := [], alts := [], laidByText := true, laidKinds := [.data, .data, .data], laidTests := true, laidLooks := .later }
def DiffOpsCardSaid : Prop := Claim7.holds Tryz.pinned (.plain (OpenSpec.ofChange diffOpsSpec)) diffOpsCard

/-- THE TIED CARD OF 'vinculumlaw16.DiffApplies'. -/
def diffAppliesCard : Claim7 := { stood := { row := diffAppliesRow, standIns := [], harness := (true, "88492aee1a7b75841ce80e8e244e6c7c5186e8f127d9b2d3d993894731ded0fc"), looks := false }, kinds := [], alts := [], laidByText := true, laidKinds := [.data, .data, .data], laidTests := true, laidLooks := .later }
def DiffAppliesCardSaid : Prop := Claim7.holds Tryz.pinned (.plain (OpenSpec.ofChange diffAppliesSpec)) diffAppliesCard

/-- THE TIED CARD OF 'vinculumlaw16.DiffHistory'. -/
def diffHistoryCard : Claim7 := { stood := { row := diffHistoryRow, standIns := [], harness := (true, "88492aee1a7b75841ce80e8e244e6c7c5186e8f127d9b2d3d993894731ded0fc"), looks := false }, kinds := [], alts := [], laidByText := true, laidKinds := [.data, .data, .data], laidTests := true, laidLooks := .later }
def DiffHistoryCardSaid : Prop := Claim7.holds Tryz.pinned (.plain (OpenSpec.ofChange diffHistorySpec)) diffHistoryCard

/-- THE SECOND FORM's CARD OF 'vinculumlaw16.DiffOps'. -/
def diffOpsUptoCard : Claim7 := { stood := { row := diffOpsUptoRow, standIns := [], harness := (true, "88492aee1a7b75841ce80e8e244e6c7c5186e8f127d9b2d3d993894731ded0fc"), looks := false }, kinds := [], alts := [], laidByText := true, laidKinds := [.data, .data, .data], laidTests := true, laidLooks := .later }
def DiffOpsUptoCardSaid : Prop := Claim7.holds Tryz.pinned (.plain (OpenSpec.upto diffOpsSpec)) diffOpsUptoCard

/-- THE SECOND FORM's CARD OF 'vinculumlaw16.DiffApplies'. -/
def diffAppliesUptoCard : Claim7 := { stood := { row := diffAppliesUptoRow, standIns := [], harness := (true, "88492aee1a7b75841ce80e8e244e6c7c5186e8f127d9b2d3d993894731ded0fc"), looks := false }, kinds := [], alts := [], laidByText := true, laidKinds := [.data, .data, .data], laidTests := true, laidLooks := .later }
def DiffAppliesUptoCardSaid : Prop := Claim7.holds Tryz.pinned (.plain (OpenSpec.upto diffAppliesSpec)) diffAppliesUptoCard

/-- THE SECOND FORM's CARD OF 'vinculumlaw16.DiffHistory'. -/
def diffHistoryUptoCard : Claim7 := { stood := { row := diffHistoryUptoRow, standIns := [], harness := (true, "88492aee1a7b75841ce80e8e244e6c7c5186e8f127d9b2d3d993894731ded0fc"), looks := false }, kinds := [], alts := [], laidByText := true, laidKinds := [.data, .data, .data], laidTests := true, laidLooks := .later }
def DiffHistoryUptoCardSaid : Prop := Claim7.holds Tryz.pinned (.plain (OpenSpec.upto diffHistorySpec)) diffHistoryUptoCard
end Rows
end Go.Proofs.YtjdhkpdjecegnaaGreatDoor
