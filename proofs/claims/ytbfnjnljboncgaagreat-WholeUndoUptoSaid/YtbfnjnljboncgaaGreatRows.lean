/-
  NARROWER THAN 'FOR EVERY INPUT', by the rows' own cells (each row's printed sentence says how): WholeCursors: loops · WholeUndo: loops.
  DERIVED. THE GIVEN ROWS OF THIS SEAT. 2 by the template 'for every input the law returns true; each argument reads behind the call as it read before'; 0 by the template 'total and deterministic' (their statements: YtbfnjnljboncgaaGreatTotals.lean).
  GIVEN WITH THE SEED: the statements are not yours to turn. If you find one false, say at which input.
  Laid BY PROGRAM, IN A SANDBOX (cutbox-rows.mjs): the forced cells as the released guide's own fill.sh prints them over the translation 062cafda9fc2a8ca… (all of the seat's roots in one cut). By AI agents, Wed Nov 11 2026. No macro, syntax, notation, axiom, sorry.
-/
import Derived.Test.YtbfnjnljboncgaaGreatChecked
import GoSem.Claim
import GoSem.ClaimJoined
import GoSem.ClaimMapViews
import Derived.JoinedTies
import Derived.KernelRfl
namespace Go.Proofs.YtbfnjnljboncgaaGreat
/- THE CELL 'sum', in the pinned program and in every row, IS THE sha256 OF THE DUMP (.gsa) THAT YtbfnjnljboncgaaGreatProg.lean LOADS. Nothing in Lean hashes anything: it is a label: what it is worth is what the hold of that sum in a sandbox is worth. -/
noncomputable def Tryz.pinned : Pinned := { name := "ytbfnjnljboncgaagreat", sum := "062cafda9fc2a8cade4d1237c144232984ce516445de0a6485ad9e948f8db71a", checked := Tryz.checked }
namespace Rows
def none {H : Type} : Left H := { results := [], args := [] }

/-- 'vinculumtop.WholeCursors': WHATEVER THE INPUT: true; the input reads as it did. -/
def wholeCursorsSpec : ChangeSpec := { name := "wholeCursors", fn := fun _ => fun
  | [d1, d2, d3] => { results := [.lit (.bool true)], args := [d1, d2, d3] }
  | _ => none }
def wholeCursorsRow : OpenClaim := { program := "ytbfnjnljboncgaagreat", sum := "062cafda9fc2a8cade4d1237c144232984ce516445de0a6485ad9e948f8db71a", func := "vinculum/vinculumtop.WholeCursors", spec := "wholeCursors", inPlace := ["internal/abi.NoEscape", "internal/bytealg.IndexByteString", "internal/bytealg.IndexString"], unfollowed := true, recurses := true, named := ["internal/bytealg.MaxLen"], loops := true, apart := false }
def WholeCursorsSaid : Prop := wholeCursorsRow.holds Tryz.pinned (OpenSpec.ofChange wholeCursorsSpec)

/-- ITS FALSE NEIGHBOUR: 'it returns false'. Refute it at one input. -/
def wholeCursorsWrong : ChangeSpec := { name := "wholeCursors", fn := fun _ => fun
  | [d1, d2, d3] => { results := [.lit (.bool false)], args := [d1, d2, d3] }
  | _ => none }
def WholeCursorsWrongFalsely : Prop := wholeCursorsRow.holds Tryz.pinned (OpenSpec.ofChange wholeCursorsWrong)

/-- 'vinculumtop.WholeUndo': WHATEVER THE INPUT: true; the input reads as it did. -/
def wholeUndoSpec : ChangeSpec := { name := "wholeUndo", fn := fun _ => fun
  | [d1, d2] => { results := [.lit (.bool true)], args := [d1, d2] }
  | _ => none }
def wholeUndoRow : OpenClaim := { program := "ytbfnjnljboncgaagreat", sum := "062cafda9fc2a8cade4d1237c144232984ce516445de0a6485ad9e948f8db71a", func := "vinculum/vinculumtop.WholeUndo", spec := "wholeUndo", inPlace := ["internal/abi.NoEscape", "internal/bytealg.IndexByteString", "internal/bytealg.IndexString"], unfollowed := true, recurses := true, named := ["internal/bytealg.MaxLen"], loops := true, apart := false }
def WholeUndoSaid : Prop := wholeUndoRow.holds Tryz.pinned (OpenSpec.ofChange wholeUndoSpec)

/-- ITS FALSE NEIGHBOUR: 'it returns false'. Refute it at one input. -/
def wholeUndoWrong : ChangeSpec := { name := "wholeUndo", fn := fun _ => fun
  | [d1, d2] => { results := [.lit (.bool false)], args := [d1, d2] }
  | _ => none }
def WholeUndoWrongFalsely : Prop := wholeUndoRow.holds Tryz.pinned (OpenSpec.ofChange wholeUndoWrong)

/- THE SECOND FORM. 'bulk': how many values and letters a reading holds, each counted each time it is reached (what is shared counts as often as it is met; a slice's spare places count too). A statement '..UptoSaid' is the law's where the arguments, and the package variables that the reading takes, are together of bulk at most 1048576: NARROWER than '..Said'. Prove '..Said' where nothing that the law and all that it calls make is longer than what came in: it says more and counts as full. Else prove '..UptoSaid'. A law counts once. -/
mutual
def uptoBulk {H : Type} : DataW H → Nat
  | .lit (.string bytes) => bytes.length + 1
  | .lit _ => 1
  | .nil => 1
  | .ptr d => uptoBulk d + 1
  | .slice elems spare => uptoBulkAll elems + uptoBulkAll spare + 1
  | .agg parts => uptoBulkAll parts + 1
  | .iface _ d => uptoBulk d + 1
  | .map entries => uptoBulkEntries entries + 1
  | .held _ => 1
def uptoBulkAll {H : Type} : List (DataW H) → Nat
  | [] => 0
  | d :: r => uptoBulk d + uptoBulkAll r
def uptoBulkEntries {H : Type} : List (Lit × DataW H) → Nat
  | [] => 0
  | x :: r => uptoBulkEntry x + uptoBulkEntries r
def uptoBulkEntry {H : Type} : Lit × DataW H → Nat
  | (.string bytes, d) => bytes.length + uptoBulk d + 1
  | (_, d) => uptoBulk d + 1
 end
def uptoSmall : (H : Type) → List (DataW H) → Bool := fun _ ds => decide (uptoBulkAll ds ≤ 1048576)
def OpenSpec.upto (s : _root_.Go.ChangeSpec) : _root_.Go.OpenSpec := { _root_.Go.OpenSpec.ofChange s with cond := some uptoSmall }

/-- 'vinculumtop.WholeCursors', WHERE WHAT IT READS IS OF BULK AT MOST 1048576: true; the input reads as it did. -/
def wholeCursorsUptoRow : OpenClaim := { program := "ytbfnjnljboncgaagreat", sum := "062cafda9fc2a8cade4d1237c144232984ce516445de0a6485ad9e948f8db71a", func := "vinculum/vinculumtop.WholeCursors", spec := "wholeCursors", inPlace := ["internal/abi.NoEscape", "internal/bytealg.IndexByteString", "internal/bytealg.IndexString"], unfollowed := true, recurses := true, named := ["internal/bytealg.MaxLen"], loops := true, apart := false, narrowed := true }
def WholeCursorsUptoSaid : Prop := wholeCursorsUptoRow.holds Tryz.pinned (OpenSpec.upto wholeCursorsSpec)

/-- 'vinculumtop.WholeUndo', WHERE WHAT IT READS IS OF BULK AT MOST 1048576: true; the input reads as it did. -/
def wholeUndoUptoRow : OpenClaim := { program := "ytbfnjnljboncgaagreat", sum := "062cafda9fc2a8cade4d1237c144232984ce516445de0a6485ad9e948f8db71a", func := "vinculum/vinculumtop.WholeUndo", spec := "wholeUndo", inPlace := ["internal/abi.NoEscape", "internal/bytealg.IndexByteString", "internal/bytealg.IndexString"], unfollowed := true, recurses := true, named := ["internal/bytealg.MaxLen"], loops := true, apart := false, narrowed := true }
def WholeUndoUptoSaid : Prop := wholeUndoUptoRow.holds Tryz.pinned (OpenSpec.upto wholeUndoSpec)

end Rows
end Go.Proofs.YtbfnjnljboncgaaGreat
