/-
  NARROWER THAN 'FOR EVERY INPUT', by the rows' own cells (each row's printed sentence says how): DigestTree: loops · DigestKids: loops.
  DERIVED. THE GIVEN ROWS OF THIS SEAT. 6 by the template 'for every input the law returns true; each argument reads behind the call as it read before'; 0 by the template 'total and deterministic' (their statements: YtpahhoappfbleaaTotals.lean).
  GIVEN WITH THE SEED: the statements are not yours to turn. If you find one false, say at which input.
  Laid BY PROGRAM, IN A SANDBOX (cutbox-rows.mjs): the forced cells as the released guide's own fill.sh prints them over the translation 537490ba029598fb… (all of the seat's roots in one cut). By AI agents, Wed Nov 11 2026. No macro, syntax, notation, axiom, sorry.
-/
import Derived.Test.YtpahhoappfbleaaChecked
import GoSem.Claim
import GoSem.ClaimJoined
import GoSem.ClaimMapViews
import Derived.JoinedTies
import Derived.KernelRfl
namespace Go.Proofs.Ytpahhoappfbleaa
/- THE CELL 'sum', in the pinned program and in every row, IS THE sha256 OF THE DUMP (.gsa) THAT YtpahhoappfbleaaProg.lean LOADS. Nothing in Lean hashes anything: it is a label: what it is worth is what the hold of that sum in a sandbox is worth. -/
noncomputable def Try.pinned : Pinned := { name := "ytpahhoappfbleaa", sum := "537490ba029598fb739df8a04304a924ac3638ba5082aee8799a578927fb1bd6", checked := Try.checked }
namespace Rows
def none {H : Type} : Left H := { results := [], args := [] }

/-- 'vinculumlaw04.DigestBytes': WHATEVER THE INPUT: true; the input reads as it did. -/
def digestBytesSpec : ChangeSpec := { name := "digestBytes", fn := fun _ => fun
  | [d1, d2] => { results := [.lit (.bool true)], args := [d1, d2] }
  | _ => none }
def digestBytesRow : OpenClaim := { program := "ytpahhoappfbleaa", sum := "537490ba029598fb739df8a04304a924ac3638ba5082aee8799a578927fb1bd6", func := "vinculum/vinculumlaw04.DigestBytes", spec := "digestBytes", apart := false }
def DigestBytesSaid : Prop := digestBytesRow.holds Try.pinned (OpenSpec.ofChange digestBytesSpec)

/-- ITS FALSE NEIGHBOUR: 'it returns false'. Refute it at one input. -/
def digestBytesWrong : ChangeSpec := { name := "digestBytes", fn := fun _ => fun
  | [d1, d2] => { results := [.lit (.bool false)], args := [d1, d2] }
  | _ => none }
def DigestBytesWrongFalsely : Prop := digestBytesRow.holds Try.pinned (OpenSpec.ofChange digestBytesWrong)

/-- 'vinculumlaw04.DigestUpdates': WHATEVER THE INPUT: true; the input reads as it did. -/
def digestUpdatesSpec : ChangeSpec := { name := "digestUpdates", fn := fun _ => fun
  | [d1, d2] => { results := [.lit (.bool true)], args := [d1, d2] }
  | _ => none }
def digestUpdatesRow : OpenClaim := { program := "ytpahhoappfbleaa", sum := "537490ba029598fb739df8a04304a924ac3638ba5082aee8799a578927fb1bd6", func := "vinculum/vinculumlaw04.DigestUpdates", spec := "digestUpdates", apart := false }
def DigestUpdatesSaid : Prop := digestUpdatesRow.holds Try.pinned (OpenSpec.ofChange digestUpdatesSpec)

/-- ITS FALSE NEIGHBOUR: 'it returns false'. Refute it at one input. -/
def digestUpdatesWrong : ChangeSpec := { name := "digestUpdates", fn := fun _ => fun
  | [d1, d2] => { results := [.lit (.bool false)], args := [d1, d2] }
  | _ => none }
def DigestUpdatesWrongFalsely : Prop := digestUpdatesRow.holds Try.pinned (OpenSpec.ofChange digestUpdatesWrong)

/-- 'vinculumlaw04.DigestByte': WHATEVER THE INPUT: true; the input reads as it did. -/
def digestByteSpec : ChangeSpec := { name := "digestByte", fn := fun _ => fun
  | [d1, d2, d3] => { results := [.lit (.bool true)], args := [d1, d2, d3] }
  | _ => none }
def digestByteRow : OpenClaim := { program := "ytpahhoappfbleaa", sum := "537490ba029598fb739df8a04304a924ac3638ba5082aee8799a578927fb1bd6", func := "vinculum/vinculumlaw04.DigestByte", spec := "digestByte", apart := false }
def DigestByteSaid : Prop := digestByteRow.holds Try.pinned (OpenSpec.ofChange digestByteSpec)

/-- ITS FALSE NEIGHBOUR: 'it returns false'. Refute it at one input. -/
def digestByteWrong : ChangeSpec := { name := "digestByte", fn := fun _ => fun
  | [d1, d2, d3] => { results := [.lit (.bool false)], args := [d1, d2, d3] }
  | _ => none }
def DigestByteWrongFalsely : Prop := digestByteRow.holds Try.pinned (OpenSpec.ofChange digestByteWrong)

/-- 'vinculumlaw04.DigestJoin': WHATEVER THE INPUT: true; the input reads as it did. -/
def digestJoinSpec : ChangeSpec := { name := "digestJoin", fn := fun _ => fun
  | [d1, d2, d3] => { results := [.lit (.bool true)], args := [d1, d2, d3] }
  | _ => none }
def digestJoinRow : OpenClaim := { program := "ytpahhoappfbleaa", sum := "537490ba029598fb739df8a04304a924ac3638ba5082aee8799a578927fb1bd6", func := "vinculum/vinculumlaw04.DigestJoin", spec := "digestJoin", apart := false }
def DigestJoinSaid : Prop := digestJoinRow.holds Try.pinned (OpenSpec.ofChange digestJoinSpec)

/-- ITS FALSE NEIGHBOUR: 'it returns false'. Refute it at one input. -/
def digestJoinWrong : ChangeSpec := { name := "digestJoin", fn := fun _ => fun
  | [d1, d2, d3] => { results := [.lit (.bool false)], args := [d1, d2, d3] }
  | _ => none }
def DigestJoinWrongFalsely : Prop := digestJoinRow.holds Try.pinned (OpenSpec.ofChange digestJoinWrong)

/-- 'vinculumlaw04.DigestTree': WHATEVER THE INPUT: true; the input reads as it did. -/
def digestTreeSpec : ChangeSpec := { name := "digestTree", fn := fun _ => fun
  | [d] => { results := [.lit (.bool true)], args := [d] }
  | _ => none }
def digestTreeRow : OpenClaim := { program := "ytpahhoappfbleaa", sum := "537490ba029598fb739df8a04304a924ac3638ba5082aee8799a578927fb1bd6", func := "vinculum/vinculumlaw04.DigestTree", spec := "digestTree", recurses := true, loops := true, apart := false }
def DigestTreeSaid : Prop := digestTreeRow.holds Try.pinned (OpenSpec.ofChange digestTreeSpec)

/-- ITS FALSE NEIGHBOUR: 'it returns false'. Refute it at one input. -/
def digestTreeWrong : ChangeSpec := { name := "digestTree", fn := fun _ => fun
  | [d] => { results := [.lit (.bool false)], args := [d] }
  | _ => none }
def DigestTreeWrongFalsely : Prop := digestTreeRow.holds Try.pinned (OpenSpec.ofChange digestTreeWrong)

/-- 'vinculumlaw04.DigestKids': WHATEVER THE INPUT: true; the input reads as it did. -/
def digestKidsSpec : ChangeSpec := { name := "digestKids", fn := fun _ => fun
  | [d] => { results := [.lit (.bool true)], args := [d] }
  | _ => none }
def digestKidsRow : OpenClaim := { program := "ytpahhoappfbleaa", sum := "537490ba029598fb739df8a04304a924ac3638ba5082aee8799a578927fb1bd6", func := "vinculum/vinculumlaw04.DigestKids", spec := "digestKids", recurses := true, loops := true, apart := false }
def DigestKidsSaid : Prop := digestKidsRow.holds Try.pinned (OpenSpec.ofChange digestKidsSpec)

/-- ITS FALSE NEIGHBOUR: 'it returns false'. Refute it at one input. -/
def digestKidsWrong : ChangeSpec := { name := "digestKids", fn := fun _ => fun
  | [d] => { results := [.lit (.bool false)], args := [d] }
  | _ => none }
def DigestKidsWrongFalsely : Prop := digestKidsRow.holds Try.pinned (OpenSpec.ofChange digestKidsWrong)

/- THE SECOND FORM. 'bulk': how many values and letters a reading holds, each counted each time it is reached (what is shared counts as often as it is met; a slice's spare places count too). A statement '..UptoSaid' is the law's where the arguments, and the package variables that the reading takes, are together of bulk at most 1048576: NARROWER than '..Said'. Prove '..Said' where nothing that the law and all that it calls make is longer than what came in: it says more and counts as full. Else prove '..UptoSaid'. A law counts once. -/
mutual
def uptoBulk {H : Type} : DataW H → Nat
  | .lit (.string bytes) => bytes.length + 1
  | .lit _ => 1
  | .nil => 1
  | .ptr d => uptoBulk d + 1
  | .slice elems spare => uptoBulkAll elems + uptoBulkAll spare + 1
  | .agg parts => uptoBulkAll parts + 1
  | .iface _ d => uptoBulk d + 1
  | .map entries => uptoBulkEntries entries + 1
  | .held _ => 1
def uptoBulkAll {H : Type} : List (DataW H) → Nat
  | [] => 0
  | d :: r => uptoBulk d + uptoBulkAll r
def uptoBulkEntries {H : Type} : List (Lit × DataW H) → Nat
  | [] => 0
  | x :: r => uptoBulkEntry x + uptoBulkEntries r
def uptoBulkEntry {H : Type} : Lit × DataW H → Nat
  | (.string bytes, d) => bytes.length + uptoBulk d + 1
  | (_, d) => uptoBulk d + 1
 end
def uptoSmall : (H : Type) → List (DataW H) → Bool := fun _ ds => decide (uptoBulkAll ds ≤ 1048576)
def OpenSpec.upto (s : _root_.Go.ChangeSpec) : _root_.Go.OpenSpec := { _root_.Go.OpenSpec.ofChange s with cond := some uptoSmall }

/-- 'vinculumlaw04.DigestBytes', WHERE WHAT IT READS IS OF BULK AT MOST 1048576: true; the input reads as it did. -/
def digestBytesUptoRow : OpenClaim := { program := "ytpahhoappfbleaa", sum := "537490ba029598fb739df8a04304a924ac3638ba5082aee8799a578927fb1bd6", func := "vinculum/vinculumlaw04.DigestBytes", spec := "digestBytes", apart := false, narrowed := true }
def DigestBytesUptoSaid : Prop := digestBytesUptoRow.holds Try.pinned (OpenSpec.upto digestBytesSpec)

/-- 'vinculumlaw04.DigestUpdates', WHERE WHAT IT READS IS OF BULK AT MOST 1048576: true; the input reads as it did. -/
def digestUpdatesUptoRow : OpenClaim := { program := "ytpahhoappfbleaa", sum := "537490ba029598fb739df8a04304a924ac3638ba5082aee8799a578927fb1bd6", func := "vinculum/vinculumlaw04.DigestUpdates", spec := "digestUpdates", apart := false, narrowed := true }
def DigestUpdatesUptoSaid : Prop := digestUpdatesUptoRow.holds Try.pinned (OpenSpec.upto digestUpdatesSpec)

/-- 'vinculumlaw04.DigestByte', WHERE WHAT IT READS IS OF BULK AT MOST 1048576: true; the input reads as it did. -/
def digestByteUptoRow : OpenClaim := { program := "ytpahhoappfbleaa", sum := "537490ba029598fb739df8a04304a924ac3638ba5082aee8799a578927fb1bd6", func := "vinculum/vinculumlaw04.DigestByte", spec := "digestByte", apart := false, narrowed := true }
def DigestByteUptoSaid : Prop := digestByteUptoRow.holds Try.pinned (OpenSpec.upto digestByteSpec)

/-- 'vinculumlaw04.DigestJoin', WHERE WHAT IT READS IS OF BULK AT MOST 1048576: true; the input reads as it did. -/
def digestJoinUptoRow : OpenClaim := { program := "ytpahhoappfbleaa", sum := "537490ba029598fb739df8a04304a924ac3638ba5082aee8799a578927fb1bd6", func := "vinculum/vinculumlaw04.DigestJoin", spec := "digestJoin", apart := false, narrowed := true }
def DigestJoinUptoSaid : Prop := digestJoinUptoRow.holds Try.pinned (OpenSpec.upto digestJoinSpec)

/-- 'vinculumlaw04.DigestTree', WHERE WHAT IT READS IS OF BULK AT MOST 1048576: true; the input reads as it did. -/
def digestTreeUptoRow : OpenClaim := { program := "ytpahhoappfbleaa", sum := "537490ba029598fb739df8a04304a924ac3638ba5082aee8799a578927fb1bd6", func := "vinculum/vinculumlaw04.DigestTree", spec := "digestTree", recurses := true, loops := true, apart := false, narrowed := true }
def DigestTreeUptoSaid : Prop := digestTreeUptoRow.holds Try.pinned (OpenSpec.upto digestTreeSpec)

/-- 'vinculumlaw04.DigestKids', WHERE WHAT IT READS IS OF BULK AT MOST 1048576: true; the input reads as it did. -/
def digestKidsUptoRow : OpenClaim := { program := "ytpahhoappfbleaa", sum := "537490ba029598fb739df8a04304a924ac3638ba5082aee8799a578927fb1bd6", func := "vinculum/vinculumlaw04.DigestKids", spec := "digestKids", recurses := true, loops := true, apart := false, narrowed := true }
def DigestKidsUptoSaid : Prop := digestKidsUptoRow.holds Try.pinned (OpenSpec.upto digestKidsSpec)

end Rows
end Go.Proofs.Ytpahhoappfbleaa
