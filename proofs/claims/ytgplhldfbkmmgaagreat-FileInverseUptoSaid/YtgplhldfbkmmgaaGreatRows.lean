/-
  NARROWER THAN 'FOR EVERY INPUT', by the rows' own cells (each row's printed sentence says how): FileValid: loops · FileVersion: loops · FileInverse: loops · FileHistory: loops.
  DERIVED. THE GIVEN ROWS OF THIS SEAT. 5 by the template 'for every input the law returns true; each argument reads behind the call as it read before'; 0 by the template 'total and deterministic' (their statements: YtgplhldfbkmmgaaGreatTotals.lean).
  GIVEN WITH THE SEED: the statements are not yours to turn. If you find one false, say at which input.
  Laid BY PROGRAM, IN A SANDBOX (cutbox-rows.mjs): the forced cells as the released guide's own fill.sh prints them over the translation 183d4a1e0f472df1… (all of the seat's roots in one cut). By AI agents, Wed Nov 11 2026. No macro, syntax, notation, axiom, sorry.
-/
import Derived.Test.YtgplhldfbkmmgaaGreatChecked
import GoSem.Claim
import GoSem.ClaimJoined
import GoSem.ClaimMapViews
import Derived.JoinedTies
import Derived.KernelRfl
namespace Go.Proofs.YtgplhldfbkmmgaaGreat
/- THE CELL 'sum', in the pinned program and in every row, IS THE sha256 OF THE DUMP (.gsa) THAT YtgplhldfbkmmgaaGreatProg.lean LOADS. Nothing in Lean hashes anything: it is a label: what it is worth is what the hold of that sum in a sandbox is worth. -/
noncomputable def Tryz.pinned : Pinned := { name := "ytgplhldfbkmmgaagreat", sum := "183d4a1e0f472df1d21aab33d35005005c9ecbedcb1895ffa0ac059ba479a1a0", checked := Tryz.checked }
namespace Rows
def none {H : Type} : Left H := { results := [], args := [] }

/-- 'vinculumlaw56.FileValid': WHATEVER THE INPUT: true; the input reads as it did. -/
def fileValidSpec : ChangeSpec := { name := "fileValid", fn := fun _ => fun
  | [d] => { results := [.lit (.bool true)], args := [d] }
  | _ => none }
def fileValidRow : OpenClaim := { program := "ytgplhldfbkmmgaagreat", sum := "183d4a1e0f472df1d21aab33d35005005c9ecbedcb1895ffa0ac059ba479a1a0", func := "vinculum/vinculumlaw56.FileValid", spec := "fileValid", inPlace := ["internal/bytealg.IndexByteString", "internal/bytealg.IndexString"], unfollowed := true, recurses := true, named := ["internal/bytealg.MaxLen"], loops := true, apart := false }
def FileValidSaid : Prop := fileValidRow.holds Tryz.pinned (OpenSpec.ofChange fileValidSpec)

/-- ITS FALSE NEIGHBOUR: 'it returns false'. Refute it at one input. -/
def fileValidWrong : ChangeSpec := { name := "fileValid", fn := fun _ => fun
  | [d] => { results := [.lit (.bool false)], args := [d] }
  | _ => none }
def FileValidWrongFalsely : Prop := fileValidRow.holds Tryz.pinned (OpenSpec.ofChange fileValidWrong)

/-- 'vinculumlaw56.FileVersion': WHATEVER THE INPUT: true; the input reads as it did. -/
def fileVersionSpec : ChangeSpec := { name := "fileVersion", fn := fun _ => fun
  | [d1, d2] => { results := [.lit (.bool true)], args := [d1, d2] }
  | _ => none }
def fileVersionRow : OpenClaim := { program := "ytgplhldfbkmmgaagreat", sum := "183d4a1e0f472df1d21aab33d35005005c9ecbedcb1895ffa0ac059ba479a1a0", func := "vinculum/vinculumlaw56.FileVersion", spec := "fileVersion", inPlace := ["internal/bytealg.IndexByteString", "internal/bytealg.IndexString"], unfollowed := true, recurses := true, named := ["internal/bytealg.MaxLen"], loops := true, apart := false }
def FileVersionSaid : Prop := fileVersionRow.holds Tryz.pinned (OpenSpec.ofChange fileVersionSpec)

/-- ITS FALSE NEIGHBOUR: 'it returns false'. Refute it at one input. -/
def fileVersionWrong : ChangeSpec := { name := "fileVersion", fn := fun _ => fun
  | [d1, d2] => { results := [.lit (.bool false)], args := [d1, d2] }
  | _ => none }
def FileVersionWrongFalsely : Prop := fileVersionRow.holds Tryz.pinned (OpenSpec.ofChange fileVersionWrong)

/-- 'vinculumlaw56.FileLoad': WHATEVER THE INPUT: true; the input reads as it did. -/
def fileLoadSpec : ChangeSpec := { name := "fileLoad", fn := fun _ => fun
  | [d] => { results := [.lit (.bool true)], args := [d] }
  | _ => none }
def fileLoadRow : OpenClaim := { program := "ytgplhldfbkmmgaagreat", sum := "183d4a1e0f472df1d21aab33d35005005c9ecbedcb1895ffa0ac059ba479a1a0", func := "vinculum/vinculumlaw56.FileLoad", spec := "fileLoad", inPlace := ["internal/bytealg.IndexByteString", "internal/bytealg.IndexString"], unfollowed := true, recurses := true, named := ["internal/bytealg.MaxLen"], apart := false }
def FileLoadSaid : Prop := fileLoadRow.holds Tryz.pinned (OpenSpec.ofChange fileLoadSpec)

/-- ITS FALSE NEIGHBOUR: 'it returns false'. Refute it at one input. -/
def fileLoadWrong : ChangeSpec := { name := "fileLoad", fn := fun _ => fun
  | [d] => { results := [.lit (.bool false)], args := [d] }
  | _ => none }
def FileLoadWrongFalsely : Prop := fileLoadRow.holds Tryz.pinned (OpenSpec.ofChange fileLoadWrong)

/-- 'vinculumlaw56.FileInverse': WHATEVER THE INPUT: true; the input reads as it did. -/
def fileInverseSpec : ChangeSpec := { name := "fileInverse", fn := fun _ => fun
  | [d1, d2] => { results := [.lit (.bool true)], args := [d1, d2] }
  | _ => none }
def fileInverseRow : OpenClaim := { program := "ytgplhldfbkmmgaagreat", sum := "183d4a1e0f472df1d21aab33d35005005c9ecbedcb1895ffa0ac059ba479a1a0", func := "vinculum/vinculumlaw56.FileInverse", spec := "fileInverse", inPlace := ["internal/bytealg.IndexByteString", "internal/bytealg.IndexString"], unfollowed := true, recurses := true, named := ["internal/bytealg.MaxLen"], loops := true, apart := false }
def FileInverseSaid : Prop := fileInverseRow.holds Tryz.pinned (OpenSpec.ofChange fileInverseSpec)

/-- ITS FALSE NEIGHBOUR: 'it returns false'. Refute it at one input. -/
def fileInverseWrong : ChangeSpec := { name := "fileInverse", fn := fun _ => fun
  | [d1, d2] => { results := [.lit (.bool false)], args := [d1, d2] }
  | _ => none }
def FileInverseWrongFalsely : Prop := fileInverseRow.holds Tryz.pinned (OpenSpec.ofChange fileInverseWrong)

/-- 'vinculumlaw56.FileHistory': WHATEVER THE INPUT: true; the input reads as it did. -/
def fileHistorySpec : ChangeSpec := { name := "fileHistory", fn := fun _ => fun
  | [d] => { results := [.lit (.bool true)], args := [d] }
  | _ => none }
def fileHistoryRow : OpenClaim := { program := "ytgplhldfbkmmgaagreat", sum := "183d4a1e0f472df1d21aab33d35005005c9ecbedcb1895ffa0ac059ba479a1a0", func := "vinculum/vinculumlaw56.FileHistory", spec := "fileHistory", inPlace := ["internal/bytealg.IndexByteString", "internal/bytealg.IndexString"], unfollowed := true, recurses := true, named := ["internal/bytealg.MaxLen"], loops := true, apart := false }
def FileHistorySaid : Prop := fileHistoryRow.holds Tryz.pinned (OpenSpec.ofChange fileHistorySpec)

/-- ITS FALSE NEIGHBOUR: 'it returns false'. Refute it at one input. -/
def fileHistoryWrong : ChangeSpec := { name := "fileHistory", fn := fun _ => fun
  | [d] => { results := [.lit (.bool false)], args := [d] }
  | _ => none }
def FileHistoryWrongFalsely : Prop := fileHistoryRow.holds Tryz.pinned (OpenSpec.ofChange fileHistoryWrong)

/- THE SECOND FORM. 'bulk': how many values and letters a reading holds, each counted each time it is reached (what is shared counts as often as it is met; a slice's spare places count too). A statement '..UptoSaid' is the law's where the arguments, and the package variables that the reading takes, are together of bulk at most 1048576: NARROWER than '..Said'. Prove '..Said' where nothing that the law and all that it calls make is longer than what came in: it says more and counts as full. Else prove '..UptoSaid'. A law counts once. -/
mutual
def uptoBulk {H : Type} : DataW H → Nat
  | .lit (.string bytes) => bytes.length + 1
  | .lit _ => 1
  | .nil => 1
  | .ptr d => uptoBulk d + 1
  | .slice elems spare => uptoBulkAll elems + uptoBulkAll spare + 1
  | .agg parts => uptoBulkAll parts + 1
  | .iface _ d => uptoBulk d + 1
  | .map entries => uptoBulkEntries entries + 1
  | .held _ => 1
def uptoBulkAll {H : Type} : List (DataW H) → Nat
  | [] => 0
  | d :: r => uptoBulk d + uptoBulkAll r
def uptoBulkEntries {H : Type} : List (Lit × DataW H) → Nat
  | [] => 0
  | x :: r => uptoBulkEntry x + uptoBulkEntries r
def uptoBulkEntry {H : Type} : Lit × DataW H → Nat
  | (.string bytes, d) => bytes.length + uptoBulk d + 1
  | (_, d) => uptoBulk d + 1
 end
def uptoSmall : (H : Type) → List (DataW H) → Bool := fun _ ds => decide (uptoBulkAll ds ≤ 1048576)
def OpenSpec.upto (s : _root_.Go.ChangeSpec) : _root_.Go.OpenSpec := { _root_.Go.OpenSpec.ofChange s with cond := some uptoSmall }

/-- 'vinculumlaw56.FileValid', WHERE WHAT IT READS IS OF BULK AT MOST 1048576: true; the input reads as it did. -/
def fileValidUptoRow : OpenClaim := { program := "ytgplhldfbkmmgaagreat", sum := "183d4a1e0f472df1d21aab33d35005005c9ecbedcb1895ffa0ac059ba479a1a0", func := "vinculum/vinculumlaw56.FileValid", spec := "fileValid", inPlace := ["internal/bytealg.IndexByteString", "internal/bytealg.IndexString"], unfollowed := true, recurses := true, named := ["internal/bytealg.MaxLen"], loops := true, apart := false, narrowed := true }
def FileValidUptoSaid : Prop := fileValidUptoRow.holds Tryz.pinned (OpenSpec.upto fileValidSpec)

/-- 'vinculumlaw56.FileVersion', WHERE WHAT IT READS IS OF BULK AT MOST 1048576: true; the input reads as it did. -/
def fileVersionUptoRow : OpenClaim := { program := "ytgplhldfbkmmgaagreat", sum := "183d4a1e0f472df1d21aab33d35005005c9ecbedcb1895ffa0ac059ba479a1a0", func := "vinculum/vinculumlaw56.FileVersion", spec := "fileVersion", inPlace := ["internal/bytealg.IndexByteString", "internal/bytealg.IndexString"], unfollowed := true, recurses := true, named := ["internal/bytealg.MaxLen"], loops := true, apart := false, narrowed := true }
def FileVersionUptoSaid : Prop := fileVersionUptoRow.holds Tryz.pinned (OpenSpec.upto fileVersionSpec)

/-- 'vinculumlaw56.FileLoad', WHERE WHAT IT READS IS OF BULK AT MOST 1048576: true; the input reads as it did. -/
def fileLoadUptoRow : OpenClaim := { program := "ytgplhldfbkmmgaagreat", sum := "183d4a1e0f472df1d21aab33d35005005c9ecbedcb1895ffa0ac059ba479a1a0", func := "vinculum/vinculumlaw56.FileLoad", spec := "fileLoad", inPlace := ["internal/bytealg.IndexByteString", "internal/bytealg.IndexString"], unfollowed := true, recurses := true, named := ["internal/bytealg.MaxLen"], apart := false, narrowed := true }
def FileLoadUptoSaid : Prop := fileLoadUptoRow.holds Tryz.pinned (OpenSpec.upto fileLoadSpec)

/-- 'vinculumlaw56.FileInverse', WHERE WHAT IT READS IS OF BULK AT MOST 1048576: true; the input reads as it did. -/
def fileInverseUptoRow : OpenClaim := { program := "ytgplhldfbkmmgaagreat", sum := "183d4a1e0f472df1d21aab33d35005005c9ecbedcb1895ffa0ac059ba479a1a0", func := "vinculum/vinculumlaw56.FileInverse", spec := "fileInverse", inPlace := ["internal/bytealg.IndexByteString", "internal/bytealg.IndexString"], unfollowed := true, recurses := true, named := ["internal/bytealg.MaxLen"], loops := true, apart := false, narrowed := true }
def FileInverseUptoSaid : Prop := fileInverseUptoRow.holds Tryz.pinned (OpenSpec.upto fileInverseSpec)

/-- 'vinculumlaw56.FileHistory', WHERE WHAT IT READS IS OF BULK AT MOST 1048576: true; the input reads as it did. -/
def fileHistoryUptoRow : OpenClaim := { program := "ytgplhldfbkmmgaagreat", sum := "183d4a1e0f472df1d21aab33d35005005c9ecbedcb1895ffa0ac059ba479a1a0", func := "vinculum/vinculumlaw56.FileHistory", spec := "fileHistory", inPlace := ["internal/bytealg.IndexByteString", "internal/bytealg.IndexString"], unfollowed := true, recurses := true, named := ["internal/bytealg.MaxLen"], loops := true, apart := false, narrowed := true }
def FileHistoryUptoSaid : Prop := fileHistoryUptoRow.holds Tryz.pinned (OpenSpec.upto fileHistorySpec)

end Rows
end Go.Proofs.YtgplhldfbkmmgaaGreat
