/-
  NARROWER THAN 'FOR EVERY INPUT', by the rows' own cells (each row's printed sentence says how): EditCounts: loops · EditElsewhere: loops · EditApply: loops · EditApplyAll: loops · EditCommutes: loops · EditUndo: loops · EditInvert: loops · EditUndoAll: loops.
  DERIVED. THE GIVEN ROWS OF THIS SEAT. 8 by the template 'for every input the law returns true; each argument reads behind the call as it read before'; 0 by the template 'total and deterministic' (their statements: YtfbggpmdmhgpfaaTotals.lean).
  GIVEN WITH THE SEED: the statements are not yours to turn. If you find one false, say at which input.
  Laid BY PROGRAM, IN A SANDBOX (cutbox-rows.mjs): the forced cells as the released guide's own fill.sh prints them over the translation 2e091b2093a724e8… (all of the seat's roots in one cut). By AI agents, Wed Nov 11 2026. No macro, syntax, notation, axiom, sorry.
-/
import Derived.Test.YtfbggpmdmhgpfaaChecked
import GoSem.Claim
import GoSem.ClaimJoined
import GoSem.ClaimMapViews
import Derived.JoinedTies
import Derived.KernelRfl
namespace Go.Proofs.Ytfbggpmdmhgpfaa
/- THE CELL 'sum', in the pinned program and in every row, IS THE sha256 OF THE DUMP (.gsa) THAT YtfbggpmdmhgpfaaProg.lean LOADS. Nothing in Lean hashes anything: it is a label: what it is worth is what the hold of that sum in a sandbox is worth. -/
noncomputable def Try.pinned : Pinned := { name := "ytfbggpmdmhgpfaa", sum := "2e091b2093a724e8ef7eeab21e10bcaafdd952ee35aad52f092f9055a1b34075", checked := Try.checked }
namespace Rows
def none {H : Type} : Left H := { results := [], args := [] }

/-- 'vinculumlaw12.EditCounts': WHATEVER THE INPUT: true; the input reads as it did. -/
def editCountsSpec : ChangeSpec := { name := "editCounts", fn := fun _ => fun
  | [d1, d2] => { results := [.lit (.bool true)], args := [d1, d2] }
  | _ => none }
def editCountsRow : OpenClaim := { program := "ytfbggpmdmhgpfaa", sum := "2e091b2093a724e8ef7eeab21e10bcaafdd952ee35aad52f092f9055a1b34075", func := "vinculum/vinculumlaw12.EditCounts", spec := "editCounts", inPlace := ["internal/bytealg.IndexByteString", "internal/bytealg.IndexString"], unfollowed := true, recurses := true, named := ["internal/bytealg.MaxLen"], loops := true, apart := false }
def EditCountsSaid : Prop := editCountsRow.holds Try.pinned (OpenSpec.ofChange editCountsSpec)

/-- ITS FALSE NEIGHBOUR: 'it returns false'. Refute it at one input. -/
def editCountsWrong : ChangeSpec := { name := "editCounts", fn := fun _ => fun
  | [d1, d2] => { results := [.lit (.bool false)], args := [d1, d2] }
  | _ => none }
def EditCountsWrongFalsely : Prop := editCountsRow.holds Try.pinned (OpenSpec.ofChange editCountsWrong)

/-- 'vinculumlaw12.EditElsewhere': WHATEVER THE INPUT: true; the input reads as it did. -/
def editElsewhereSpec : ChangeSpec := { name := "editElsewhere", fn := fun _ => fun
  | [d1, d2, d3] => { results := [.lit (.bool true)], args := [d1, d2, d3] }
  | _ => none }
def editElsewhereRow : OpenClaim := { program := "ytfbggpmdmhgpfaa", sum := "2e091b2093a724e8ef7eeab21e10bcaafdd952ee35aad52f092f9055a1b34075", func := "vinculum/vinculumlaw12.EditElsewhere", spec := "editElsewhere", inPlace := ["internal/bytealg.IndexByteString", "internal/bytealg.IndexString"], unfollowed := true, recurses := true, named := ["internal/bytealg.MaxLen"], loops := true, apart := false }
def EditElsewhereSaid : Prop := editElsewhereRow.holds Try.pinned (OpenSpec.ofChange editElsewhereSpec)

/-- ITS FALSE NEIGHBOUR: 'it returns false'. Refute it at one input. -/
def editElsewhereWrong : ChangeSpec := { name := "editElsewhere", fn := fun _ => fun
  | [d1, d2, d3] => { results := [.lit (.bool false)], args := [d1, d2, d3] }
  | _ => none }
def EditElsewhereWrongFalsely : Prop := editElsewhereRow.holds Try.pinned (OpenSpec.ofChange editElsewhereWrong)

/-- 'vinculumlaw12.EditApply': WHATEVER THE INPUT: true; the input reads as it did. -/
def editApplySpec : ChangeSpec := { name := "editApply", fn := fun _ => fun
  | [d1, d2] => { results := [.lit (.bool true)], args := [d1, d2] }
  | _ => none }
def editApplyRow : OpenClaim := { program := "ytfbggpmdmhgpfaa", sum := "2e091b2093a724e8ef7eeab21e10bcaafdd952ee35aad52f092f9055a1b34075", func := "vinculum/vinculumlaw12.EditApply", spec := "editApply", inPlace := ["internal/bytealg.IndexByteString", "internal/bytealg.IndexString"], unfollowed := true, recurses := true, named := ["internal/bytealg.MaxLen"], loops := true, apart := false }
def EditApplySaid : Prop := editApplyRow.holds Try.pinned (OpenSpec.ofChange editApplySpec)

/-- ITS FALSE NEIGHBOUR: 'it returns false'. Refute it at one input. -/
def editApplyWrong : ChangeSpec := { name := "editApply", fn := fun _ => fun
  | [d1, d2] => { results := [.lit (.bool false)], args := [d1, d2] }
  | _ => none }
def EditApplyWrongFalsely : Prop := editApplyRow.holds Try.pinned (OpenSpec.ofChange editApplyWrong)

/-- 'vinculumlaw12.EditApplyAll': WHATEVER THE INPUT: true; the input reads as it did. -/
def editApplyAllSpec : ChangeSpec := { name := "editApplyAll", fn := fun _ => fun
  | [d1, d2] => { results := [.lit (.bool true)], args := [d1, d2] }
  | _ => none }
def editApplyAllRow : OpenClaim := { program := "ytfbggpmdmhgpfaa", sum := "2e091b2093a724e8ef7eeab21e10bcaafdd952ee35aad52f092f9055a1b34075", func := "vinculum/vinculumlaw12.EditApplyAll", spec := "editApplyAll", inPlace := ["internal/bytealg.IndexByteString", "internal/bytealg.IndexString"], unfollowed := true, recurses := true, named := ["internal/bytealg.MaxLen"], loops := true, apart := false }
def EditApplyAllSaid : Prop := editApplyAllRow.holds Try.pinned (OpenSpec.ofChange editApplyAllSpec)

/-- ITS FALSE NEIGHBOUR: 'it returns false'. Refute it at one input. -/
def editApplyAllWrong : ChangeSpec := { name := "editApplyAll", fn := fun _ => fun
  | [d1, d2] => { results := [.lit (.bool false)], args := [d1, d2] }
  | _ => none }
def EditApplyAllWrongFalsely : Prop := editApplyAllRow.holds Try.pinned (OpenSpec.ofChange editApplyAllWrong)

/-- 'vinculumlaw12.EditCommutes': WHATEVER THE INPUT: true; the input reads as it did. -/
def editCommutesSpec : ChangeSpec := { name := "editCommutes", fn := fun _ => fun
  | [d1, d2, d3] => { results := [.lit (.bool true)], args := [d1, d2, d3] }
  | _ => none }
def editCommutesRow : OpenClaim := { program := "ytfbggpmdmhgpfaa", sum := "2e091b2093a724e8ef7eeab21e10bcaafdd952ee35aad52f092f9055a1b34075", func := "vinculum/vinculumlaw12.EditCommutes", spec := "editCommutes", inPlace := ["internal/bytealg.IndexByteString", "internal/bytealg.IndexString"], unfollowed := true, recurses := true, named := ["internal/bytealg.MaxLen"], loops := true, apart := false }
def EditCommutesSaid : Prop := editCommutesRow.holds Try.pinned (OpenSpec.ofChange editCommutesSpec)

/-- ITS FALSE NEIGHBOUR: 'it returns false'. Refute it at one input. -/
def editCommutesWrong : ChangeSpec := { name := "editCommutes", fn := fun _ => fun
  | [d1, d2, d3] => { results := [.lit (.bool false)], args := [d1, d2, d3] }
  | _ => none }
def EditCommutesWrongFalsely : Prop := editCommutesRow.holds Try.pinned (OpenSpec.ofChange editCommutesWrong)

/-- 'vinculumlaw12.EditUndo': WHATEVER THE INPUT: true; the input reads as it did. -/
def editUndoSpec : ChangeSpec := { name := "editUndo", fn := fun _ => fun
  | [d1, d2] => { results := [.lit (.bool true)], args := [d1, d2] }
  | _ => none }
def editUndoRow : OpenClaim := { program := "ytfbggpmdmhgpfaa", sum := "2e091b2093a724e8ef7eeab21e10bcaafdd952ee35aad52f092f9055a1b34075", func := "vinculum/vinculumlaw12.EditUndo", spec := "editUndo", inPlace := ["internal/bytealg.IndexByteString", "internal/bytealg.IndexString"], unfollowed := true, recurses := true, named := ["internal/bytealg.MaxLen"], loops := true, apart := false }
def EditUndoSaid : Prop := editUndoRow.holds Try.pinned (OpenSpec.ofChange editUndoSpec)

/-- ITS FALSE NEIGHBOUR: 'it returns false'. Refute it at one input. -/
def editUndoWrong : ChangeSpec := { name := "editUndo", fn := fun _ => fun
  | [d1, d2] => { results := [.lit (.bool false)], args := [d1, d2] }
  | _ => none }
def EditUndoWrongFalsely : Prop := editUndoRow.holds Try.pinned (OpenSpec.ofChange editUndoWrong)

/-- 'vinculumlaw12.EditInvert': WHATEVER THE INPUT: true; the input reads as it did. -/
def editInvertSpec : ChangeSpec := { name := "editInvert", fn := fun _ => fun
  | [d] => { results := [.lit (.bool true)], args := [d] }
  | _ => none }
def editInvertRow : OpenClaim := { program := "ytfbggpmdmhgpfaa", sum := "2e091b2093a724e8ef7eeab21e10bcaafdd952ee35aad52f092f9055a1b34075", func := "vinculum/vinculumlaw12.EditInvert", spec := "editInvert", inPlace := ["internal/bytealg.IndexByteString", "internal/bytealg.IndexString"], unfollowed := true, recurses := true, named := ["internal/bytealg.MaxLen"], loops := true, apart := false }
def EditInvertSaid : Prop := editInvertRow.holds Try.pinned (OpenSpec.ofChange editInvertSpec)

/-- ITS FALSE NEIGHBOUR: 'it returns false'. Refute it at one input. -/
def editInvertWrong : ChangeSpec := { name := "editInvert", fn := fun _ => fun
  | [d] => { results := [.lit (.bool false)], args := [d] }
  | _ => none }
def EditInvertWrongFalsely : Prop := editInvertRow.holds Try.pinned (OpenSpec.ofChange editInvertWrong)

/-- 'vinculumlaw12.EditUndoAll': WHATEVER THE INPUT: true; the input reads as it did. -/
def editUndoAllSpec : ChangeSpec := { name := "editUndoAll", fn := fun _ => fun
  | [d1, d2] => { results := [.lit (.bool true)], args := [d1, d2] }
  | _ => none }
def editUndoAllRow : OpenClaim := { program := "ytfbggpmdmhgpfaa", sum := "2e091b2093a724e8ef7eeab21e10bcaafdd952ee35aad52f092f9055a1b34075", func := "vinculum/vinculumlaw12.EditUndoAll", spec := "editUndoAll", inPlace := ["internal/bytealg.IndexByteString", "internal/bytealg.IndexString"], unfollowed := true, recurses := true, named := ["internal/bytealg.MaxLen"], loops := true, apart := false }
def EditUndoAllSaid : Prop := editUndoAllRow.holds Try.pinned (OpenSpec.ofChange editUndoAllSpec)

/-- ITS FALSE NEIGHBOUR: 'it returns false'. Refute it at one input. -/
def editUndoAllWrong : ChangeSpec := { name := "editUndoAll", fn := fun _ => fun
  | [d1, d2] => { results := [.lit (.bool false)], args := [d1, d2] }
  | _ => none }
def EditUndoAllWrongFalsely : Prop := editUndoAllRow.holds Try.pinned (OpenSpec.ofChange editUndoAllWrong)

/- THE SECOND FORM. 'bulk': how many values and letters a reading holds, each counted each time it is reached (what is shared counts as often as it is met; a slice's spare places count too). A statement '..UptoSaid' is the law's where the arguments, and the package variables that the reading takes, are together of bulk at most 1048576: NARROWER than '..Said'. Prove '..Said' where nothing that the law and all that it calls make is longer than what came in: it says more and counts as full. Else prove '..UptoSaid'. A law counts once. -/
mutual
def uptoBulk {H : Type} : DataW H → Nat
  | .lit (.string bytes) => bytes.length + 1
  | .lit _ => 1
  | .nil => 1
  | .ptr d => uptoBulk d + 1
  | .slice elems spare => uptoBulkAll elems + uptoBulkAll spare + 1
  | .agg parts => uptoBulkAll parts + 1
  | .iface _ d => uptoBulk d + 1
  | .map entries => uptoBulkEntries entries + 1
  | .held _ => 1
def uptoBulkAll {H : Type} : List (DataW H) → Nat
  | [] => 0
  | d :: r => uptoBulk d + uptoBulkAll r
def uptoBulkEntries {H : Type} : List (Lit × DataW H) → Nat
  | [] => 0
  | x :: r => uptoBulkEntry x + uptoBulkEntries r
def uptoBulkEntry {H : Type} : Lit × DataW H → Nat
  | (.string bytes, d) => bytes.length + uptoBulk d + 1
  | (_, d) => uptoBulk d + 1
 end
def uptoSmall : (H : Type) → List (DataW H) → Bool := fun _ ds => decide (uptoBulkAll ds ≤ 1048576)
def OpenSpec.upto (s : _root_.Go.ChangeSpec) : _root_.Go.OpenSpec := { _root_.Go.OpenSpec.ofChange s with cond := some uptoSmall }

/-- 'vinculumlaw12.EditCounts', WHERE WHAT IT READS IS OF BULK AT MOST 1048576: true; the input reads as it did. -/
def editCountsUptoRow : OpenClaim := { program := "ytfbggpmdmhgpfaa", sum := "2e091b2093a724e8ef7eeab21e10bcaafdd952ee35aad52f092f9055a1b34075", func := "vinculum/vinculumlaw12.EditCounts", spec := "editCounts", inPlace := ["internal/bytealg.IndexByteString", "internal/bytealg.IndexString"], unfollowed := true, recurses := true, named := ["internal/bytealg.MaxLen"], loops := true, apart := false, narrowed := true }
def EditCountsUptoSaid : Prop := editCountsUptoRow.holds Try.pinned (OpenSpec.upto editCountsSpec)

/-- 'vinculumlaw12.EditElsewhere', WHERE WHAT IT READS IS OF BULK AT MOST 1048576: true; the input reads as it did. -/
def editElsewhereUptoRow : OpenClaim := { program := "ytfbggpmdmhgpfaa", sum := "2e091b2093a724e8ef7eeab21e10bcaafdd952ee35aad52f092f9055a1b34075", func := "vinculum/vinculumlaw12.EditElsewhere", spec := "editElsewhere", inPlace := ["internal/bytealg.IndexByteString", "internal/bytealg.IndexString"], unfollowed := true, recurses := true, named := ["internal/bytealg.MaxLen"], loops := true, apart := false, narrowed := true }
def EditElsewhereUptoSaid : Prop := editElsewhereUptoRow.holds Try.pinned (OpenSpec.upto editElsewhereSpec)

/-- 'vinculumlaw12.EditApply', WHERE WHAT IT READS IS OF BULK AT MOST 1048576: true; the input reads as it did. -/
def editApplyUptoRow : OpenClaim := { program := "ytfbggpmdmhgpfaa", sum := "2e091b2093a724e8ef7eeab21e10bcaafdd952ee35aad52f092f9055a1b34075", func := "vinculum/vinculumlaw12.EditApply", spec := "editApply", inPlace := ["internal/bytealg.IndexByteString", "internal/bytealg.IndexString"], unfollowed := true, recurses := true, named := ["internal/bytealg.MaxLen"], loops := true, apart := false, narrowed := true }
def EditApplyUptoSaid : Prop := editApplyUptoRow.holds Try.pinned (OpenSpec.upto editApplySpec)

/-- 'vinculumlaw12.EditApplyAll', WHERE WHAT IT READS IS OF BULK AT MOST 1048576: true; the input reads as it did. -/
def editApplyAllUptoRow : OpenClaim := { program := "ytfbggpmdmhgpfaa", sum := "2e091b2093a724e8ef7eeab21e10bcaafdd952ee35aad52f092f9055a1b34075", func := "vinculum/vinculumlaw12.EditApplyAll", spec := "editApplyAll", inPlace := ["internal/bytealg.IndexByteString", "internal/bytealg.IndexString"], unfollowed := true, recurses := true, named := ["internal/bytealg.MaxLen"], loops := true, apart := false, narrowed := true }
def EditApplyAllUptoSaid : Prop := editApplyAllUptoRow.holds Try.pinned (OpenSpec.upto editApplyAllSpec)

/-- 'vinculumlaw12.EditCommutes', WHERE WHAT IT READS IS OF BULK AT MOST 1048576: true; the input reads as it did. -/
def editCommutesUptoRow : OpenClaim := { program := "ytfbggpmdmhgpfaa", sum := "2e091b2093a724e8ef7eeab21e10bcaafdd952ee35aad52f092f9055a1b34075", func := "vinculum/vinculumlaw12.EditCommutes", spec := "editCommutes", inPlace := ["internal/bytealg.IndexByteString", "internal/bytealg.IndexString"], unfollowed := true, recurses := true, named := ["internal/bytealg.MaxLen"], loops := true, apart := false, narrowed := true }
def EditCommutesUptoSaid : Prop := editCommutesUptoRow.holds Try.pinned (OpenSpec.upto editCommutesSpec)

/-- 'vinculumlaw12.EditUndo', WHERE WHAT IT READS IS OF BULK AT MOST 1048576: true; the input reads as it did. -/
def editUndoUptoRow : OpenClaim := { program := "ytfbggpmdmhgpfaa", sum := "2e091b2093a724e8ef7eeab21e10bcaafdd952ee35aad52f092f9055a1b34075", func := "vinculum/vinculumlaw12.EditUndo", spec := "editUndo", inPlace := ["internal/bytealg.IndexByteString", "internal/bytealg.IndexString"], unfollowed := true, recurses := true, named := ["internal/bytealg.MaxLen"], loops := true, apart := false, narrowed := true }
def EditUndoUptoSaid : Prop := editUndoUptoRow.holds Try.pinned (OpenSpec.upto editUndoSpec)

/-- 'vinculumlaw12.EditInvert', WHERE WHAT IT READS IS OF BULK AT MOST 1048576: true; the input reads as it did. -/
def editInvertUptoRow : OpenClaim := { program := "ytfbggpmdmhgpfaa", sum := "2e091b2093a724e8ef7eeab21e10bcaafdd952ee35aad52f092f9055a1b34075", func := "vinculum/vinculumlaw12.EditInvert", spec := "editInvert", inPlace := ["internal/bytealg.IndexByteString", "internal/bytealg.IndexString"], unfollowed := true, recurses := true, named := ["internal/bytealg.MaxLen"], loops := true, apart := false, narrowed := true }
def EditInvertUptoSaid : Prop := editInvertUptoRow.holds Try.pinned (OpenSpec.upto editInvertSpec)

/-- 'vinculumlaw12.EditUndoAll', WHERE WHAT IT READS IS OF BULK AT MOST 1048576: true; the input reads as it did. -/
def editUndoAllUptoRow : OpenClaim := { program := "ytfbggpmdmhgpfaa", sum := "2e091b2093a724e8ef7eeab21e10bcaafdd952ee35aad52f092f9055a1b34075", func := "vinculum/vinculumlaw12.EditUndoAll", spec := "editUndoAll", inPlace := ["internal/bytealg.IndexByteString", "internal/bytealg.IndexString"], unfollowed := true, recurses := true, named := ["internal/bytealg.MaxLen"], loops := true, apart := false, narrowed := true }
def EditUndoAllUptoSaid : Prop := editUndoAllUptoRow.holds Try.pinned (OpenSpec.upto editUndoAllSpec)

end Rows
end Go.Proofs.Ytfbggpmdmhgpfaa
