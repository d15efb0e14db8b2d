/-
  NARROWER THAN 'FOR EVERY INPUT', by the rows' own cells (each row's printed sentence says how): CodecEqual: loops · CodecEncodes: loops · CodecCut: loops · CodecStreams: loops · CodecRoundTrip: loops.
  DERIVED. THE GIVEN ROWS OF THIS SEAT. 8 by the template 'for every input the law returns true; each argument reads behind the call as it read before'; 0 by the template 'total and deterministic' (their statements: YtjjljekedgdnnaaTotals.lean).
  GIVEN WITH THE SEED: the statements are not yours to turn. If you find one false, say at which input.
  Laid BY PROGRAM, IN A SANDBOX (cutbox-rows.mjs): the forced cells as the released guide's own fill.sh prints them over the translation d5b8a5dc700d5b07… (all of the seat's roots in one cut). By AI agents, Wed Nov 11 2026. No macro, syntax, notation, axiom, sorry.
-/
import Derived.Test.YtjjljekedgdnnaaChecked
import GoSem.Claim
import GoSem.ClaimJoined
import GoSem.ClaimMapViews
import Derived.JoinedTies
import Derived.KernelRfl
namespace Go.Proofs.Ytjjljekedgdnnaa
/- THE CELL 'sum', in the pinned program and in every row, IS THE sha256 OF THE DUMP (.gsa) THAT YtjjljekedgdnnaaProg.lean LOADS. Nothing in Lean hashes anything: it is a label: what it is worth is what the hold of that sum in a sandbox is worth. -/
noncomputable def Try.pinned : Pinned := { name := "ytjjljekedgdnnaa", sum := "d5b8a5dc700d5b0765c490208159e6722bedbde169c193a26b6496502a33f732", checked := Try.checked }
namespace Rows
def none {H : Type} : Left H := { results := [], args := [] }

/-- 'vinculumlaw03.CodecEqual': WHATEVER THE INPUT: true; the input reads as it did. -/
def codecEqualSpec : ChangeSpec := { name := "codecEqual", fn := fun _ => fun
  | [d1, d2] => { results := [.lit (.bool true)], args := [d1, d2] }
  | _ => none }
def codecEqualRow : OpenClaim := { program := "ytjjljekedgdnnaa", sum := "d5b8a5dc700d5b0765c490208159e6722bedbde169c193a26b6496502a33f732", func := "vinculum/vinculumlaw03.CodecEqual", spec := "codecEqual", recurses := true, loops := true, apart := false }
def CodecEqualSaid : Prop := codecEqualRow.holds Try.pinned (OpenSpec.ofChange codecEqualSpec)

/-- ITS FALSE NEIGHBOUR: 'it returns false'. Refute it at one input. -/
def codecEqualWrong : ChangeSpec := { name := "codecEqual", fn := fun _ => fun
  | [d1, d2] => { results := [.lit (.bool false)], args := [d1, d2] }
  | _ => none }
def CodecEqualWrongFalsely : Prop := codecEqualRow.holds Try.pinned (OpenSpec.ofChange codecEqualWrong)

/-- 'vinculumlaw03.CodecEncodes': WHATEVER THE INPUT: true; the input reads as it did. -/
def codecEncodesSpec : ChangeSpec := { name := "codecEncodes", fn := fun _ => fun
  | [d] => { results := [.lit (.bool true)], args := [d] }
  | _ => none }
def codecEncodesRow : OpenClaim := { program := "ytjjljekedgdnnaa", sum := "d5b8a5dc700d5b0765c490208159e6722bedbde169c193a26b6496502a33f732", func := "vinculum/vinculumlaw03.CodecEncodes", spec := "codecEncodes", recurses := true, loops := true, apart := false }
def CodecEncodesSaid : Prop := codecEncodesRow.holds Try.pinned (OpenSpec.ofChange codecEncodesSpec)

/-- ITS FALSE NEIGHBOUR: 'it returns false'. Refute it at one input. -/
def codecEncodesWrong : ChangeSpec := { name := "codecEncodes", fn := fun _ => fun
  | [d] => { results := [.lit (.bool false)], args := [d] }
  | _ => none }
def CodecEncodesWrongFalsely : Prop := codecEncodesRow.holds Try.pinned (OpenSpec.ofChange codecEncodesWrong)

/-- 'vinculumlaw03.CodecDecodes': WHATEVER THE INPUT: true; the input reads as it did. -/
def codecDecodesSpec : ChangeSpec := { name := "codecDecodes", fn := fun _ => fun
  | [d] => { results := [.lit (.bool true)], args := [d] }
  | _ => none }
def codecDecodesRow : OpenClaim := { program := "ytjjljekedgdnnaa", sum := "d5b8a5dc700d5b0765c490208159e6722bedbde169c193a26b6496502a33f732", func := "vinculum/vinculumlaw03.CodecDecodes", spec := "codecDecodes", unfollowed := true, recurses := true, apart := false }
def CodecDecodesSaid : Prop := codecDecodesRow.holds Try.pinned (OpenSpec.ofChange codecDecodesSpec)

/-- ITS FALSE NEIGHBOUR: 'it returns false'. Refute it at one input. -/
def codecDecodesWrong : ChangeSpec := { name := "codecDecodes", fn := fun _ => fun
  | [d] => { results := [.lit (.bool false)], args := [d] }
  | _ => none }
def CodecDecodesWrongFalsely : Prop := codecDecodesRow.holds Try.pinned (OpenSpec.ofChange codecDecodesWrong)

/-- 'vinculumlaw03.CodecCut': WHATEVER THE INPUT: true; the input reads as it did. -/
def codecCutSpec : ChangeSpec := { name := "codecCut", fn := fun _ => fun
  | [d1, d2, d3] => { results := [.lit (.bool true)], args := [d1, d2, d3] }
  | _ => none }
def codecCutRow : OpenClaim := { program := "ytjjljekedgdnnaa", sum := "d5b8a5dc700d5b0765c490208159e6722bedbde169c193a26b6496502a33f732", func := "vinculum/vinculumlaw03.CodecCut", spec := "codecCut", unfollowed := true, recurses := true, loops := true, apart := false }
def CodecCutSaid : Prop := codecCutRow.holds Try.pinned (OpenSpec.ofChange codecCutSpec)

/-- ITS FALSE NEIGHBOUR: 'it returns false'. Refute it at one input. -/
def codecCutWrong : ChangeSpec := { name := "codecCut", fn := fun _ => fun
  | [d1, d2, d3] => { results := [.lit (.bool false)], args := [d1, d2, d3] }
  | _ => none }
def CodecCutWrongFalsely : Prop := codecCutRow.holds Try.pinned (OpenSpec.ofChange codecCutWrong)

/-- 'vinculumlaw03.CodecIntegers': WHATEVER THE INPUT: true; the input reads as it did. -/
def codecIntegersSpec : ChangeSpec := { name := "codecIntegers", fn := fun _ => fun
  | [d1, d2] => { results := [.lit (.bool true)], args := [d1, d2] }
  | _ => none }
def codecIntegersRow : OpenClaim := { program := "ytjjljekedgdnnaa", sum := "d5b8a5dc700d5b0765c490208159e6722bedbde169c193a26b6496502a33f732", func := "vinculum/vinculumlaw03.CodecIntegers", spec := "codecIntegers", unfollowed := true, recurses := true, apart := false }
def CodecIntegersSaid : Prop := codecIntegersRow.holds Try.pinned (OpenSpec.ofChange codecIntegersSpec)

/-- ITS FALSE NEIGHBOUR: 'it returns false'. Refute it at one input. -/
def codecIntegersWrong : ChangeSpec := { name := "codecIntegers", fn := fun _ => fun
  | [d1, d2] => { results := [.lit (.bool false)], args := [d1, d2] }
  | _ => none }
def CodecIntegersWrongFalsely : Prop := codecIntegersRow.holds Try.pinned (OpenSpec.ofChange codecIntegersWrong)

/-- 'vinculumlaw03.CodecNext': WHATEVER THE INPUT: true; the input reads as it did. -/
def codecNextSpec : ChangeSpec := { name := "codecNext", fn := fun _ => fun
  | [d] => { results := [.lit (.bool true)], args := [d] }
  | _ => none }
def codecNextRow : OpenClaim := { program := "ytjjljekedgdnnaa", sum := "d5b8a5dc700d5b0765c490208159e6722bedbde169c193a26b6496502a33f732", func := "vinculum/vinculumlaw03.CodecNext", spec := "codecNext", unfollowed := true, recurses := true, apart := false }
def CodecNextSaid : Prop := codecNextRow.holds Try.pinned (OpenSpec.ofChange codecNextSpec)

/-- ITS FALSE NEIGHBOUR: 'it returns false'. Refute it at one input. -/
def codecNextWrong : ChangeSpec := { name := "codecNext", fn := fun _ => fun
  | [d] => { results := [.lit (.bool false)], args := [d] }
  | _ => none }
def CodecNextWrongFalsely : Prop := codecNextRow.holds Try.pinned (OpenSpec.ofChange codecNextWrong)

/-- 'vinculumlaw03.CodecStreams': WHATEVER THE INPUT: true; the input reads as it did. -/
def codecStreamsSpec : ChangeSpec := { name := "codecStreams", fn := fun _ => fun
  | [d] => { results := [.lit (.bool true)], args := [d] }
  | _ => none }
def codecStreamsRow : OpenClaim := { program := "ytjjljekedgdnnaa", sum := "d5b8a5dc700d5b0765c490208159e6722bedbde169c193a26b6496502a33f732", func := "vinculum/vinculumlaw03.CodecStreams", spec := "codecStreams", unfollowed := true, recurses := true, loops := true, apart := false }
def CodecStreamsSaid : Prop := codecStreamsRow.holds Try.pinned (OpenSpec.ofChange codecStreamsSpec)

/-- ITS FALSE NEIGHBOUR: 'it returns false'. Refute it at one input. -/
def codecStreamsWrong : ChangeSpec := { name := "codecStreams", fn := fun _ => fun
  | [d] => { results := [.lit (.bool false)], args := [d] }
  | _ => none }
def CodecStreamsWrongFalsely : Prop := codecStreamsRow.holds Try.pinned (OpenSpec.ofChange codecStreamsWrong)

/-- 'vinculumlaw03.CodecRoundTrip': WHATEVER THE INPUT: true; the input reads as it did. -/
def codecRoundTripSpec : ChangeSpec := { name := "codecRoundTrip", fn := fun _ => fun
  | [d1, d2] => { results := [.lit (.bool true)], args := [d1, d2] }
  | _ => none }
def codecRoundTripRow : OpenClaim := { program := "ytjjljekedgdnnaa", sum := "d5b8a5dc700d5b0765c490208159e6722bedbde169c193a26b6496502a33f732", func := "vinculum/vinculumlaw03.CodecRoundTrip", spec := "codecRoundTrip", unfollowed := true, recurses := true, loops := true, apart := false }
def CodecRoundTripSaid : Prop := codecRoundTripRow.holds Try.pinned (OpenSpec.ofChange codecRoundTripSpec)

/-- ITS FALSE NEIGHBOUR: 'it returns false'. Refute it at one input. -/
def codecRoundTripWrong : ChangeSpec := { name := "codecRoundTrip", fn := fun _ => fun
  | [d1, d2] => { results := [.lit (.bool false)], args := [d1, d2] }
  | _ => none }
def CodecRoundTripWrongFalsely : Prop := codecRoundTripRow.holds Try.pinned (OpenSpec.ofChange codecRoundTripWrong)

/- THE SECOND FORM. 'bulk': how many values and letters a reading holds, each counted each time it is reached (what is shared counts as often as it is met; a slice's spare places count too). A statement '..UptoSaid' is the law's where the arguments, and the package variables that the reading takes, are together of bulk at most 1048576: NARROWER than '..Said'. Prove '..Said' where nothing that the law and all that it calls make is longer than what came in: it says more and counts as full. Else prove '..UptoSaid'. A law counts once. -/
mutual
def uptoBulk {H : Type} : DataW H → Nat
  | .lit (.string bytes) => bytes.length + 1
  | .lit _ => 1
  | .nil => 1
  | .ptr d => uptoBulk d + 1
  | .slice elems spare => uptoBulkAll elems + uptoBulkAll spare + 1
  | .agg parts => uptoBulkAll parts + 1
  | .iface _ d => uptoBulk d + 1
  | .map entries => uptoBulkEntries entries + 1
  | .held _ => 1
def uptoBulkAll {H : Type} : List (DataW H) → Nat
  | [] => 0
  | d :: r => uptoBulk d + uptoBulkAll r
def uptoBulkEntries {H : Type} : List (Lit × DataW H) → Nat
  | [] => 0
  | x :: r => uptoBulkEntry x + uptoBulkEntries r
def uptoBulkEntry {H : Type} : Lit × DataW H → Nat
  | (.string bytes, d) => bytes.length + uptoBulk d + 1
  | (_, d) => uptoBulk d + 1
 end
def uptoSmall : (H : Type) → List (DataW H) → Bool := fun _ ds => decide (uptoBulkAll ds ≤ 1048576)
def OpenSpec.upto (s : _root_.Go.ChangeSpec) : _root_.Go.OpenSpec := { _root_.Go.OpenSpec.ofChange s with cond := some uptoSmall }

/-- 'vinculumlaw03.CodecEqual', WHERE WHAT IT READS IS OF BULK AT MOST 1048576: true; the input reads as it did. -/
def codecEqualUptoRow : OpenClaim := { program := "ytjjljekedgdnnaa", sum := "d5b8a5dc700d5b0765c490208159e6722bedbde169c193a26b6496502a33f732", func := "vinculum/vinculumlaw03.CodecEqual", spec := "codecEqual", recurses := true, loops := true, apart := false, narrowed := true }
def CodecEqualUptoSaid : Prop := codecEqualUptoRow.holds Try.pinned (OpenSpec.upto codecEqualSpec)

/-- 'vinculumlaw03.CodecEncodes', WHERE WHAT IT READS IS OF BULK AT MOST 1048576: true; the input reads as it did. -/
def codecEncodesUptoRow : OpenClaim := { program := "ytjjljekedgdnnaa", sum := "d5b8a5dc700d5b0765c490208159e6722bedbde169c193a26b6496502a33f732", func := "vinculum/vinculumlaw03.CodecEncodes", spec := "codecEncodes", recurses := true, loops := true, apart := false, narrowed := true }
def CodecEncodesUptoSaid : Prop := codecEncodesUptoRow.holds Try.pinned (OpenSpec.upto codecEncodesSpec)

/-- 'vinculumlaw03.CodecDecodes', WHERE WHAT IT READS IS OF BULK AT MOST 1048576: true; the input reads as it did. -/
def codecDecodesUptoRow : OpenClaim := { program := "ytjjljekedgdnnaa", sum := "d5b8a5dc700d5b0765c490208159e6722bedbde169c193a26b6496502a33f732", func := "vinculum/vinculumlaw03.CodecDecodes", spec := "codecDecodes", unfollowed := true, recurses := true, apart := false, narrowed := true }
def CodecDecodesUptoSaid : Prop := codecDecodesUptoRow.holds Try.pinned (OpenSpec.upto codecDecodesSpec)

/-- 'vinculumlaw03.CodecCut', WHERE WHAT IT READS IS OF BULK AT MOST 1048576: true; the input reads as it did. -/
def codecCutUptoRow : OpenClaim := { program := "ytjjljekedgdnnaa", sum := "d5b8a5dc700d5b0765c490208159e6722bedbde169c193a26b6496502a33f732", func := "vinculum/vinculumlaw03.CodecCut", spec := "codecCut", unfollowed := true, recurses := true, loops := true, apart := false, narrowed := true }
def CodecCutUptoSaid : Prop := codecCutUptoRow.holds Try.pinned (OpenSpec.upto codecCutSpec)

/-- 'vinculumlaw03.CodecIntegers', WHERE WHAT IT READS IS OF BULK AT MOST 1048576: true; the input reads as it did. -/
def codecIntegersUptoRow : OpenClaim := { program := "ytjjljekedgdnnaa", sum := "d5b8a5dc700d5b0765c490208159e6722bedbde169c193a26b6496502a33f732", func := "vinculum/vinculumlaw03.CodecIntegers", spec := "codecIntegers", unfollowed := true, recurses := true, apart := false, narrowed := true }
def CodecIntegersUptoSaid : Prop := codecIntegersUptoRow.holds Try.pinned (OpenSpec.upto codecIntegersSpec)

/-- 'vinculumlaw03.CodecNext', WHERE WHAT IT READS IS OF BULK AT MOST 1048576: true; the input reads as it did. -/
def codecNextUptoRow : OpenClaim := { program := "ytjjljekedgdnnaa", sum := "d5b8a5dc700d5b0765c490208159e6722bedbde169c193a26b6496502a33f732", func := "vinculum/vinculumlaw03.CodecNext", spec := "codecNext", unfollowed := true, recurses := true, apart := false, narrowed := true }
def CodecNextUptoSaid : Prop := codecNextUptoRow.holds Try.pinned (OpenSpec.upto codecNextSpec)

/-- 'vinculumlaw03.CodecStreams', WHERE WHAT IT READS IS OF BULK AT MOST 1048576: true; the input reads as it did. -/
def codecStreamsUptoRow : OpenClaim := { program := "ytjjljekedgdnnaa", sum := "d5b8a5dc700d5b0765c490208159e6722bedbde169c193a26b6496502a33f732", func := "vinculum/vinculumlaw03.CodecStreams", spec := "codecStreams", unfollowed := true, recurses := true, loops := true, apart := false, narrowed := true }
def CodecStreamsUptoSaid : Prop := codecStreamsUptoRow.holds Try.pinned (OpenSpec.upto codecStreamsSpec)

/-- 'vinculumlaw03.CodecRoundTrip', WHERE WHAT IT READS IS OF BULK AT MOST 1048576: true; the input reads as it did. -/
def codecRoundTripUptoRow : OpenClaim := { program := "ytjjljekedgdnnaa", sum := "d5b8a5dc700d5b0765c490208159e6722bedbde169c193a26b6496502a33f732", func := "vinculum/vinculumlaw03.CodecRoundTrip", spec := "codecRoundTrip", unfollowed := true, recurses := true, loops := true, apart := false, narrowed := true }
def CodecRoundTripUptoSaid : Prop := codecRoundTripUptoRow.holds Try.pinned (OpenSpec.upto codecRoundTripSpec)

end Rows
end Go.Proofs.Ytjjljekedgdnnaa
