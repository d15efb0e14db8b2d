/-
  NARROWER THAN 'FOR EVERY INPUT', by the rows' own cells (each row's printed sentence says how): HistoryUndo: loops · HistorySeek: loops · HistoryScript: loops · HistoryAll: loops.
  DERIVED. THE GIVEN ROWS OF THIS SEAT. 4 by the template 'for every input the law returns true; each argument reads behind the call as it read before'; 0 by the template 'total and deterministic' (their statements: YtffhjiplcfncdaaGreatTotals.lean).
  GIVEN WITH THE SEED: the statements are not yours to turn. If you find one false, say at which input.
  Laid BY PROGRAM, IN A SANDBOX (cutbox-rows.mjs): the forced cells as the released guide's own fill.sh prints them over the translation b01889ab76d80623… (all of the seat's roots in one cut). By AI agents, Wed Nov 11 2026. No macro, syntax, notation, axiom, sorry.
-/
import Derived.Test.YtffhjiplcfncdaaGreatChecked
import GoSem.Claim
import GoSem.ClaimJoined
import GoSem.ClaimMapViews
import Derived.JoinedTies
import Derived.KernelRfl
namespace Go.Proofs.YtffhjiplcfncdaaGreat
/- THE CELL 'sum', in the pinned program and in every row, IS THE sha256 OF THE DUMP (.gsa) THAT YtffhjiplcfncdaaGreatProg.lean LOADS. Nothing in Lean hashes anything: it is a label: what it is worth is what the hold of that sum in a sandbox is worth. -/
noncomputable def Tryz.pinned : Pinned := { name := "ytffhjiplcfncdaagreat", sum := "b01889ab76d80623b7b51fcce65d757c5a7e440c954b219332fbcef5313f0442", checked := Tryz.checked }
namespace Rows
def none {H : Type} : Left H := { results := [], args := [] }

/-- 'vinculumlaw15.HistoryUndo': WHATEVER THE INPUT: true; the input reads as it did. -/
def historyUndoSpec : ChangeSpec := { name := "historyUndo", fn := fun _ => fun
  | [d1, d2, d3] => { results := [.lit (.bool true)], args := [d1, d2, d3] }
  | _ => none }
def historyUndoRow : OpenClaim := { program := "ytffhjiplcfncdaagreat", sum := "b01889ab76d80623b7b51fcce65d757c5a7e440c954b219332fbcef5313f0442", func := "vinculum/vinculumlaw15.HistoryUndo", spec := "historyUndo", inPlace := ["internal/bytealg.IndexByteString", "internal/bytealg.IndexString"], unfollowed := true, recurses := true, named := ["internal/bytealg.MaxLen"], loops := true, apart := false }
def HistoryUndoSaid : Prop := historyUndoRow.holds Tryz.pinned (OpenSpec.ofChange historyUndoSpec)

/-- ITS FALSE NEIGHBOUR: 'it returns false'. Refute it at one input. -/
def historyUndoWrong : ChangeSpec := { name := "historyUndo", fn := fun _ => fun
  | [d1, d2, d3] => { results := [.lit (.bool false)], args := [d1, d2, d3] }
  | _ => none }
def HistoryUndoWrongFalsely : Prop := historyUndoRow.holds Tryz.pinned (OpenSpec.ofChange historyUndoWrong)

/-- 'vinculumlaw15.HistorySeek': WHATEVER THE INPUT: true; the input reads as it did. -/
def historySeekSpec : ChangeSpec := { name := "historySeek", fn := fun _ => fun
  | [d1, d2, d3] => { results := [.lit (.bool true)], args := [d1, d2, d3] }
  | _ => none }
def historySeekRow : OpenClaim := { program := "ytffhjiplcfncdaagreat", sum := "b01889ab76d80623b7b51fcce65d757c5a7e440c954b219332fbcef5313f0442", func := "vinculum/vinculumlaw15.HistorySeek", spec := "historySeek", inPlace := ["internal/bytealg.IndexByteString", "internal/bytealg.IndexString"], unfollowed := true, recurses := true, named := ["internal/bytealg.MaxLen"], loops := true, apart := false }
def HistorySeekSaid : Prop := historySeekRow.holds Tryz.pinned (OpenSpec.ofChange historySeekSpec)

/-- ITS FALSE NEIGHBOUR: 'it returns false'. Refute it at one input. -/
def historySeekWrong : ChangeSpec := { name := "historySeek", fn := fun _ => fun
  | [d1, d2, d3] => { results := [.lit (.bool false)], args := [d1, d2, d3] }
  | _ => none }
def HistorySeekWrongFalsely : Prop := historySeekRow.holds Tryz.pinned (OpenSpec.ofChange historySeekWrong)

/-- 'vinculumlaw15.HistoryScript': WHATEVER THE INPUT: true; the input reads as it did. -/
def historyScriptSpec : ChangeSpec := { name := "historyScript", fn := fun _ => fun
  | [d1, d2] => { results := [.lit (.bool true)], args := [d1, d2] }
  | _ => none }
def historyScriptRow : OpenClaim := { program := "ytffhjiplcfncdaagreat", sum := "b01889ab76d80623b7b51fcce65d757c5a7e440c954b219332fbcef5313f0442", func := "vinculum/vinculumlaw15.HistoryScript", spec := "historyScript", inPlace := ["internal/bytealg.IndexByteString", "internal/bytealg.IndexString"], unfollowed := true, recurses := true, named := ["internal/bytealg.MaxLen"], loops := true, apart := false }
def HistoryScriptSaid : Prop := historyScriptRow.holds Tryz.pinned (OpenSpec.ofChange historyScriptSpec)

/-- ITS FALSE NEIGHBOUR: 'it returns false'. Refute it at one input. -/
def historyScriptWrong : ChangeSpec := { name := "historyScript", fn := fun _ => fun
  | [d1, d2] => { results := [.lit (.bool false)], args := [d1, d2] }
  | _ => none }
def HistoryScriptWrongFalsely : Prop := historyScriptRow.holds Tryz.pinned (OpenSpec.ofChange historyScriptWrong)

/-- 'vinculumlaw15.HistoryAll': WHATEVER THE INPUT: true; the input reads as it did. -/
def historyAllSpec : ChangeSpec := { name := "historyAll", fn := fun _ => fun
  | [d1, d2] => { results := [.lit (.bool true)], args := [d1, d2] }
  | _ => none }
def historyAllRow : OpenClaim := { program := "ytffhjiplcfncdaagreat", sum := "b01889ab76d80623b7b51fcce65d757c5a7e440c954b219332fbcef5313f0442", func := "vinculum/vinculumlaw15.HistoryAll", spec := "historyAll", inPlace := ["internal/bytealg.IndexByteString", "internal/bytealg.IndexString"], unfollowed := true, recurses := true, named := ["internal/bytealg.MaxLen"], loops := true, apart := false }
def HistoryAllSaid : Prop := historyAllRow.holds Tryz.pinned (OpenSpec.ofChange historyAllSpec)

/-- ITS FALSE NEIGHBOUR: 'it returns false'. Refute it at one input. -/
def historyAllWrong : ChangeSpec := { name := "historyAll", fn := fun _ => fun
  | [d1, d2] => { results := [.lit (.bool false)], args := [d1, d2] }
  | _ => none }
def HistoryAllWrongFalsely : Prop := historyAllRow.holds Tryz.pinned (OpenSpec.ofChange historyAllWrong)

/- THE SECOND FORM. 'bulk': how many values and letters a reading holds, each counted each time it is reached (what is shared counts as often as it is met; a slice's spare places count too). A statement '..UptoSaid' is the law's where the arguments, and the package variables that the reading takes, are together of bulk at most 1048576: NARROWER than '..Said'. Prove '..Said' where nothing that the law and all that it calls make is longer than what came in: it says more and counts as full. Else prove '..UptoSaid'. A law counts once. -/
mutual
def uptoBulk {H : Type} : DataW H → Nat
  | .lit (.string bytes) => bytes.length + 1
  | .lit _ => 1
  | .nil => 1
  | .ptr d => uptoBulk d + 1
  | .slice elems spare => uptoBulkAll elems + uptoBulkAll spare + 1
  | .agg parts => uptoBulkAll parts + 1
  | .iface _ d => uptoBulk d + 1
  | .map entries => uptoBulkEntries entries + 1
  | .held _ => 1
def uptoBulkAll {H : Type} : List (DataW H) → Nat
  | [] => 0
  | d :: r => uptoBulk d + uptoBulkAll r
def uptoBulkEntries {H : Type} : List (Lit × DataW H) → Nat
  | [] => 0
  | x :: r => uptoBulkEntry x + uptoBulkEntries r
def uptoBulkEntry {H : Type} : Lit × DataW H → Nat
  | (.string bytes, d) => bytes.length + uptoBulk d + 1
  | (_, d) => uptoBulk d + 1
 end
def uptoSmall : (H : Type) → List (DataW H) → Bool := fun _ ds => decide (uptoBulkAll ds ≤ 1048576)
def OpenSpec.upto (s : _root_.Go.ChangeSpec) : _root_.Go.OpenSpec := { _root_.Go.OpenSpec.ofChange s with cond := some uptoSmall }

/-- 'vinculumlaw15.HistoryUndo', WHERE WHAT IT READS IS OF BULK AT MOST 1048576: true; the input reads as it did. -/
def historyUndoUptoRow : OpenClaim := { program := "ytffhjiplcfncdaagreat", sum := "b01889ab76d80623b7b51fcce65d757c5a7e440c954b219332fbcef5313f0442", func := "vinculum/vinculumlaw15.HistoryUndo", spec := "historyUndo", inPlace := ["internal/bytealg.IndexByteString", "internal/bytealg.IndexString"], unfollowed := true, recurses := true, named := ["internal/bytealg.MaxLen"], loops := true, apart := false, narrowed := true }
def HistoryUndoUptoSaid : Prop := historyUndoUptoRow.holds Tryz.pinned (OpenSpec.upto historyUndoSpec)

/-- 'vinculumlaw15.HistorySeek', WHERE WHAT IT READS IS OF BULK AT MOST 1048576: true; the input reads as it did. -/
def historySeekUptoRow : OpenClaim := { program := "ytffhjiplcfncdaagreat", sum := "b01889ab76d80623b7b51fcce65d757c5a7e440c954b219332fbcef5313f0442", func := "vinculum/vinculumlaw15.HistorySeek", spec := "historySeek", inPlace := ["internal/bytealg.IndexByteString", "internal/bytealg.IndexString"], unfollowed := true, recurses := true, named := ["internal/bytealg.MaxLen"], loops := true, apart := false, narrowed := true }
def HistorySeekUptoSaid : Prop := historySeekUptoRow.holds Tryz.pinned (OpenSpec.upto historySeekSpec)

/-- 'vinculumlaw15.HistoryScript', WHERE WHAT IT READS IS OF BULK AT MOST 1048576: true; the input reads as it did. -/
def historyScriptUptoRow : OpenClaim := { program := "ytffhjiplcfncdaagreat", sum := "b01889ab76d80623b7b51fcce65d757c5a7e440c954b219332fbcef5313f0442", func := "vinculum/vinculumlaw15.HistoryScript", spec := "historyScript", inPlace := ["internal/bytealg.IndexByteString", "internal/bytealg.IndexString"], unfollowed := true, recurses := true, named := ["internal/bytealg.MaxLen"], loops := true, apart := false, narrowed := true }
def HistoryScriptUptoSaid : Prop := historyScriptUptoRow.holds Tryz.pinned (OpenSpec.upto historyScriptSpec)

/-- 'vinculumlaw15.HistoryAll', WHERE WHAT IT READS IS OF BULK AT MOST 1048576: true; the input reads as it did. -/
def historyAllUptoRow : OpenClaim := { program := "ytffhjiplcfncdaagreat", sum := "b01889ab76d80623b7b51fcce65d757c5a7e440c954b219332fbcef5313f0442", func := "vinculum/vinculumlaw15.HistoryAll", spec := "historyAll", inPlace := ["internal/bytealg.IndexByteString", "internal/bytealg.IndexString"], unfollowed := true, recurses := true, named := ["internal/bytealg.MaxLen"], loops := true, apart := false, narrowed := true }
def HistoryAllUptoSaid : Prop := historyAllUptoRow.holds Tryz.pinned (OpenSpec.upto historyAllSpec)

end Rows
end Go.Proofs.YtffhjiplcfncdaaGreat
