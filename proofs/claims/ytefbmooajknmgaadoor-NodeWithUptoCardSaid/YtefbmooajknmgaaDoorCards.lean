/-
  DERIVED. GIVEN WITH THE SEED: THE CARDS: each row of YtefbmooajknmgaaDoorRows.lean that lists a variable, with what it lists TIED to the program's text (the seventh form; the later family's looks); each row that meets fmt, with fmt's text TOLD by the authors' own Lean function (tested against real Go, not proved from fmt's source: count such statements apart). THE CARD IS WHAT COUNTS. Prove the row's statement (the work); the ties are given (YtefbmooajknmgaaDoorTie.lean); close each card by the builder's one call (the guide's Derived/Test/ToyasCard.lean, 'card_holds'). Laid BY PROGRAM, IN A SANDBOX (cutbox-door.mjs). By AI agents, Wed Nov 11 2026. No macro, syntax, notation, axiom, sorry.
-/
import Derived.Test.YtefbmooajknmgaaDoorRows
import GoSem.ClaimSeven
namespace Go.Proofs.YtefbmooajknmgaaDoor
namespace Rows

/-- THE TIED CARD OF 'vinculumlaw09.NodeNames'. -/
def nodeNamesCard : Claim7 := { stood := { row := nodeNamesRow, standIns := [], harness := (true, "f466460a5d341a23736b663edd3b28c68176923a15f8816bf9e76bd1f5c0cfb8"), looks := false }, kinds := [], alts := [], laidByText := true, laidKinds := [.data, .data, .data], laidTests := true, laidLooks := .later }
def NodeNamesCardSaid : Prop := Claim7.holds Tryd.pinned (.plain (OpenSpec.ofChange nodeNamesSpec)) nodeNamesCard

/-- THE TIED CARD OF 'vinculumlaw09.NodeDump'. -/
def nodeDumpCard : Claim7 := { stood := { row := nodeDumpRow, standIns := [], harness := (true, "f466460a5d341a23736b663edd3b28c68176923a15f8816bf9e76bd1f5c0cfb8"), looks := false }, kinds := [], alts := [], laidByText := true, laidKinds := [.data, .data, .data], laidTests := true, laidLooks := .later }
def NodeDumpCardSaid : Prop := Claim7.holds Tryd.pinned (.plain (OpenSpec.ofChange nodeDumpSpec)) nodeDumpCard

/-- THE TIED CARD OF 'vinculumlaw09.NodeValid'. -/
def nodeValidCard : Claim7 := { stood := { row := nodeValidRow, standIns := [], harness := (true, "f466460a5d341a23736b663edd3b28c68176923a15f8816bf9e76bd1f5c0cfb8"), looks := false }, kinds := [], alts := [], laidByText := true, laidKinds := [.data, .data, .data], laidTests := true, laidLooks := .later }
def NodeValidCardSaid : Prop := Claim7.holds Tryd.pinned (.plain (OpenSpec.ofChange nodeValidSpec)) nodeValidCard

/-- THE TIED CARD OF 'vinculumlaw09.NodeEqual'. -/
def nodeEqualCard : Claim7 := { stood := { row := nodeEqualRow, standIns := [], harness := (true, "f466460a5d341a23736b663edd3b28c68176923a15f8816bf9e76bd1f5c0cfb8"), looks := false }, kinds := [], alts := [], laidByText := true, laidKinds := [.data, .data, .data], laidTests := true, laidLooks := .later }
def NodeEqualCardSaid : Prop := Claim7.holds Tryd.pinned (.plain (OpenSpec.ofChange nodeEqualSpec)) nodeEqualCard

/-- THE TIED CARD OF 'vinculumlaw09.NodeSizes'. -/
def nodeSizesCard : Claim7 := { stood := { row := nodeSizesRow, standIns := [], harness := (true, "f466460a5d341a23736b663edd3b28c68176923a15f8816bf9e76bd1f5c0cfb8"), looks := false }, kinds := [], alts := [], laidByText := true, laidKinds := [.data, .data, .data], laidTests := true, laidLooks := .later }
def NodeSizesCardSaid : Prop := Claim7.holds Tryd.pinned (.plain (OpenSpec.ofChange nodeSizesSpec)) nodeSizesCard

/-- THE TIED CARD OF 'vinculumlaw09.NodeWith'. -/
def nodeWithCard : Claim7 := { stood := { row := nodeWithRow, standIns := [], harness := (true, "f466460a5d341a23736b663edd3b28c68176923a15f8816bf9e76bd1f5c0cfb8"), looks := false }, kinds := [], alts := [], laidByText := true, laidKinds := [.data, .data, .data], laidTests := true, laidLooks := .later }
def NodeWithCardSaid : Prop := Claim7.holds Tryd.pinned (.plain (OpenSpec.ofChange nodeWithSpec)) nodeWithCard

/-- THE TIED CARD OF 'vinculumlaw09.NodeRow'. -/
def nodeRowCard : Claim7 := { stood := { row := nodeRowRow, standIns := [], harness := (true, "f466460a5d341a23736b663edd3b28c68176923a15f8816bf9e76bd1f5c0cfb8"), looks := false }, kinds := [], alts := [], laidByText := true, laidKinds := [.data, .data, .data], laidTests := true, laidLooks := .later }
def NodeRowCardSaid : Prop := Claim7.holds Tryd.pinned (.plain (OpenSpec.ofChange nodeRowSpec)) nodeRowCard

/-- THE TIED CARD OF 'vinculumlaw09.NodeReplace'. -/
def nodeReplaceCard : Claim7 := { stood := { row := nodeReplaceRow, standIns := [], harness := (true, "f466460a5d341a23736b663edd3b28c68176923a15f8816bf9e76bd1f5c0cfb8"), looks := false }, kinds := [], alts := [], laidByText := true, laidKinds := [.data, .data, .data], laidTests := true, laidLooks := .later }
def NodeReplaceCardSaid : Prop := Claim7.holds Tryd.pinned (.plain (OpenSpec.ofChange nodeReplaceSpec)) nodeReplaceCard

/-- THE SECOND FORM's CARD OF 'vinculumlaw09.NodeNames'. -/
def nodeNamesUptoCard : Claim7 := { stood := { row := nodeNamesUptoRow, standIns := [], harness := (true, "f466460a5d341a23736b663edd3b28c68176923a15f8816bf9e76bd1f5c0cfb8"), looks := false }, kinds := [], alts := [], laidByText := true, laidKinds := [.data, .data, .data], laidTests := true, laidLooks := .later }
def NodeNamesUptoCardSaid : Prop := Claim7.holds Tryd.pinned (.plain (OpenSpec.upto nodeNamesSpec)) nodeNamesUptoCard

/-- THE SECOND FORM's CARD OF 'vinculumlaw09.NodeDump'. -/
def nodeDumpUptoCard : Claim7 := { stood := { row := nodeDumpUptoRow, standIns := [], harness := (true, "f466460a5d341a23736b663edd3b28c68176923a15f8816bf9e76bd1f5c0cfb8"), looks := false }, kinds := [], alts := [], laidByText := true, laidKinds := [.data, .data, .data], laidTests := true, laidLooks := .later }
def NodeDumpUptoCardSaid : Prop := Claim7.holds Tryd.pinned (.plain (OpenSpec.upto nodeDumpSpec)) nodeDumpUptoCard

/-- THE SECOND FORM's CARD OF 'vinculumlaw09.NodeValid'. -/
def nodeValidUptoCard : Claim7 := { stood := { row := nodeValidUptoRow, standIns := [], harness := (true, "f466460a5d341a23736b663edd3b28c68176923a15f8816bf9e76bd1f5c0cfb8"), looks := false }, kinds := [], alts := [], laidByText := true, laidKinds := [.data, .data, .data], laidTests := true, laidLooks := .later }
def NodeValidUptoCardSaid : Prop := Claim7.holds Tryd.pinned (.plain (OpenSpec.upto nodeValidSpec)) nodeValidUptoCard

/-- THE SECOND FORM's CARD OF 'vinculumlaw09.NodeEqual'. -/
def nodeEqualUptoCard : Claim7 := { stood := { row := nodeEqualUptoRow, standIns := [], harness := (true, "f466460a5d341a23736b663edd3b28c68176923a15f8816bf9e76bd1f5c0cfb8"), looks := false }, kinds := [], alts := [], laidByText := true, laidKinds := [.data, .data, .data], laidTests := true, laidLooks := .later }
def NodeEqualUptoCardSaid : Prop := Claim7.holds Tryd.pinned (.plain (OpenSpec.upto nodeEqualSpec)) nodeEqualUptoCard

/-- THE SECOND FORM's CARD OF 'vinculumlaw09.NodeSizes'. -/
def nodeSizesUptoCard : Claim7 := { stood := { row := nodeSizesUptoRow, standIns := [], harness := (true, "f466460a5d341a23736b663edd3b28c68176923a15f8816bf9e76bd1f5c0cfb8"), looks := false }, kinds := [], alts := [], laidByText := true, laidKinds := [.data, .data, .data], laidTests := true, laidLooks := .later }
def NodeSizesUptoCardSaid : Prop := Claim7.holds Tryd.pinned (.plain (OpenSpec.upto nodeSizesSpec)) nodeSizesUptoCard

/-- THE SECOND FORM's CARD OF 'vinculumlaw09.NodeWith'. -/
def nodeWithUptoCard : Claim7 := { stood := { row := nodeWithUptoRow, standIns := [], harness := (true, "f466460a5d341a23736b663edd3b28c68176923a15f8816bf9e76bd1f5c0cfb8"), looks := false }, kinds := [], alts := [], laidByText := true, laidKinds := [.data, .data, .data], laidTests := true, laidLooks := .later }
def NodeWithUptoCardSaid : Prop := Claim7.holds Tryd.pinned (.plain (OpenSpec.upto nodeWithSpec)) nodeWithUptoCard

/-- THE SECOND FORM's CARD OF 'vinculumlaw09.NodeRow'. -/
def nodeRowUptoCard : Claim7 := { stood := { row := nodeRowUptoRow, standIns := [], harness := (true, "f466460a5d341a23736b663edd3b28c68176923a15f8816bf9e76bd1f5c0cfb8"), looks := false }, kinds := [], alts := [], laidByText := true, laidKinds := [.data, .data, .data], laidTests := true, laidLooks := .later }
def NodeRowUptoCardSaid : Prop := Claim7.holds Tryd.pinned (.plain (OpenSpec.upto nodeRowSpec)) nodeRowUptoCard

/-- THE SECOND FORM's CARD OF 'vinculumlaw09.NodeReplace'. -/
def nodeReplaceUptoCard : Claim7 := { stood := { row := nodeReplaceUptoRow, standIns := [], harness := (true, "f466460a5d341a23736b663edd3b28c68176923a15f8816bf9e76bd1f5c0cfb8"), looks := false }, kinds := [], alts := [], laidByText := true, laidKinds := [.data, .data, .data], laidTests := true, laidLooks := .later }
def NodeReplaceUptoCardSaid : Prop := Claim7.holds Tryd.pinned (.plain (OpenSpec.upto nodeReplaceSpec)) nodeReplaceUptoCard
end Rows
end Go.Proofs.YtefbmooajknmgaaDoor
