/-
  NARROWER THAN 'FOR EVERY INPUT', by the rows' own cells (each row's printed sentence says how): DiffCost: loops · DiffLeast: loops · DiffMetric: loops · DiffWeight: loops.
  DERIVED. THE GIVEN ROWS OF THIS SEAT. 4 by the template 'for every input the law returns true; each argument reads behind the call as it read before'; 0 by the template 'total and deterministic' (their statements: YtplekejomocalaaTotals.lean).
  GIVEN WITH THE SEED: the statements are not yours to turn. If you find one false, say at which input.
  Laid BY PROGRAM, IN A SANDBOX (cutbox-rows.mjs): the forced cells as the released guide's own fill.sh prints them over the translation 4bb3a4d5ae2305ed… (all of the seat's roots in one cut). By AI agents, Wed Nov 11 2026. No macro, syntax, notation, axiom, sorry.
-/
import Derived.Test.YtplekejomocalaaChecked
import GoSem.Claim
import GoSem.ClaimJoined
import GoSem.ClaimMapViews
import Derived.JoinedTies
import Derived.KernelRfl
namespace Go.Proofs.Ytplekejomocalaa
/- THE CELL 'sum', in the pinned program and in every row, IS THE sha256 OF THE DUMP (.gsa) THAT YtplekejomocalaaProg.lean LOADS. Nothing in Lean hashes anything: it is a label: what it is worth is what the hold of that sum in a sandbox is worth. -/
noncomputable def Try.pinned : Pinned := { name := "ytplekejomocalaa", sum := "4bb3a4d5ae2305ed4c39609416b096290a3162ca4def97f754ca9a3e7827c02b", checked := Try.checked }
namespace Rows
def none {H : Type} : Left H := { results := [], args := [] }

/-- 'vinculumlaw16.DiffCost': WHATEVER THE INPUT: true; the input reads as it did. -/
def diffCostSpec : ChangeSpec := { name := "diffCost", fn := fun _ => fun
  | [d1, d2] => { results := [.lit (.bool true)], args := [d1, d2] }
  | _ => none }
def diffCostRow : OpenClaim := { program := "ytplekejomocalaa", sum := "4bb3a4d5ae2305ed4c39609416b096290a3162ca4def97f754ca9a3e7827c02b", func := "vinculum/vinculumlaw16.DiffCost", spec := "diffCost", inPlace := ["internal/bytealg.IndexByteString", "internal/bytealg.IndexString"], unfollowed := true, recurses := true, named := ["internal/bytealg.MaxLen"], loops := true, apart := false }
def DiffCostSaid : Prop := diffCostRow.holds Try.pinned (OpenSpec.ofChange diffCostSpec)

/-- ITS FALSE NEIGHBOUR: 'it returns false'. Refute it at one input. -/
def diffCostWrong : ChangeSpec := { name := "diffCost", fn := fun _ => fun
  | [d1, d2] => { results := [.lit (.bool false)], args := [d1, d2] }
  | _ => none }
def DiffCostWrongFalsely : Prop := diffCostRow.holds Try.pinned (OpenSpec.ofChange diffCostWrong)

/-- 'vinculumlaw16.DiffLeast': WHATEVER THE INPUT: true; the input reads as it did. -/
def diffLeastSpec : ChangeSpec := { name := "diffLeast", fn := fun _ => fun
  | [d1, d2] => { results := [.lit (.bool true)], args := [d1, d2] }
  | _ => none }
def diffLeastRow : OpenClaim := { program := "ytplekejomocalaa", sum := "4bb3a4d5ae2305ed4c39609416b096290a3162ca4def97f754ca9a3e7827c02b", func := "vinculum/vinculumlaw16.DiffLeast", spec := "diffLeast", inPlace := ["internal/bytealg.IndexByteString", "internal/bytealg.IndexString"], unfollowed := true, recurses := true, named := ["internal/bytealg.MaxLen"], loops := true, apart := false }
def DiffLeastSaid : Prop := diffLeastRow.holds Try.pinned (OpenSpec.ofChange diffLeastSpec)

/-- ITS FALSE NEIGHBOUR: 'it returns false'. Refute it at one input. -/
def diffLeastWrong : ChangeSpec := { name := "diffLeast", fn := fun _ => fun
  | [d1, d2] => { results := [.lit (.bool false)], args := [d1, d2] }
  | _ => none }
def DiffLeastWrongFalsely : Prop := diffLeastRow.holds Try.pinned (OpenSpec.ofChange diffLeastWrong)

/-- 'vinculumlaw16.DiffMetric': WHATEVER THE INPUT: true; the input reads as it did. -/
def diffMetricSpec : ChangeSpec := { name := "diffMetric", fn := fun _ => fun
  | [d1, d2, d3] => { results := [.lit (.bool true)], args := [d1, d2, d3] }
  | _ => none }
def diffMetricRow : OpenClaim := { program := "ytplekejomocalaa", sum := "4bb3a4d5ae2305ed4c39609416b096290a3162ca4def97f754ca9a3e7827c02b", func := "vinculum/vinculumlaw16.DiffMetric", spec := "diffMetric", inPlace := ["internal/bytealg.IndexByteString", "internal/bytealg.IndexString"], unfollowed := true, recurses := true, named := ["internal/bytealg.MaxLen"], loops := true, apart := false }
def DiffMetricSaid : Prop := diffMetricRow.holds Try.pinned (OpenSpec.ofChange diffMetricSpec)

/-- ITS FALSE NEIGHBOUR: 'it returns false'. Refute it at one input. -/
def diffMetricWrong : ChangeSpec := { name := "diffMetric", fn := fun _ => fun
  | [d1, d2, d3] => { results := [.lit (.bool false)], args := [d1, d2, d3] }
  | _ => none }
def DiffMetricWrongFalsely : Prop := diffMetricRow.holds Try.pinned (OpenSpec.ofChange diffMetricWrong)

/-- 'vinculumlaw16.DiffWeight': WHATEVER THE INPUT: true; the input reads as it did. -/
def diffWeightSpec : ChangeSpec := { name := "diffWeight", fn := fun _ => fun
  | [d] => { results := [.lit (.bool true)], args := [d] }
  | _ => none }
def diffWeightRow : OpenClaim := { program := "ytplekejomocalaa", sum := "4bb3a4d5ae2305ed4c39609416b096290a3162ca4def97f754ca9a3e7827c02b", func := "vinculum/vinculumlaw16.DiffWeight", spec := "diffWeight", inPlace := ["internal/bytealg.IndexByteString", "internal/bytealg.IndexString"], unfollowed := true, recurses := true, named := ["internal/bytealg.MaxLen"], loops := true, apart := false }
def DiffWeightSaid : Prop := diffWeightRow.holds Try.pinned (OpenSpec.ofChange diffWeightSpec)

/-- ITS FALSE NEIGHBOUR: 'it returns false'. Refute it at one input. -/
def diffWeightWrong : ChangeSpec := { name := "diffWeight", fn := fun _ => fun
  | [d] => { results := [.lit (.bool false)], args := [d] }
  | _ => none }
def DiffWeightWrongFalsely : Prop := diffWeightRow.holds Try.pinned (OpenSpec.ofChange diffWeightWrong)

/- THE SECOND FORM. 'bulk': how many values and letters a reading holds, each counted each time it is reached (what is shared counts as often as it is met; a slice's spare places count too). A statement '..UptoSaid' is the law's where the arguments, and the package variables that the reading takes, are together of bulk at most 1048576: NARROWER than '..Said'. Prove '..Said' where nothing that the law and all that it calls make is longer than what came in: it says more and counts as full. Else prove '..UptoSaid'. A law counts once. -/
mutual
def uptoBulk {H : Type} : DataW H → Nat
  | .lit (.string bytes) => bytes.length + 1
  | .lit _ => 1
  | .nil => 1
  | .ptr d => uptoBulk d + 1
  | .slice elems spare => uptoBulkAll elems + uptoBulkAll spare + 1
  | .agg parts => uptoBulkAll parts + 1
  | .iface _ d => uptoBulk d + 1
  | .map entries => uptoBulkEntries entries + 1
  | .held _ => 1
def uptoBulkAll {H : Type} : List (DataW H) → Nat
  | [] => 0
  | d :: r => uptoBulk d + uptoBulkAll r
def uptoBulkEntries {H : Type} : List (Lit × DataW H) → Nat
  | [] => 0
  | x :: r => uptoBulkEntry x + uptoBulkEntries r
def uptoBulkEntry {H : Type} : Lit × DataW H → Nat
  | (.string bytes, d) => bytes.length + uptoBulk d + 1
  | (_, d) => uptoBulk d + 1
 end
def uptoSmall : (H : Type) → List (DataW H) → Bool := fun _ ds => decide (uptoBulkAll ds ≤ 1048576)
def OpenSpec.upto (s : _root_.Go.ChangeSpec) : _root_.Go.OpenSpec := { _root_.Go.OpenSpec.ofChange s with cond := some uptoSmall }

/-- 'vinculumlaw16.DiffCost', WHERE WHAT IT READS IS OF BULK AT MOST 1048576: true; the input reads as it did. -/
def diffCostUptoRow : OpenClaim := { program := "ytplekejomocalaa", sum := "4bb3a4d5ae2305ed4c39609416b096290a3162ca4def97f754ca9a3e7827c02b", func := "vinculum/vinculumlaw16.DiffCost", spec := "diffCost", inPlace := ["internal/bytealg.IndexByteString", "internal/bytealg.IndexString"], unfollowed := true, recurses := true, named := ["internal/bytealg.MaxLen"], loops := true, apart := false, narrowed := true }
def DiffCostUptoSaid : Prop := diffCostUptoRow.holds Try.pinned (OpenSpec.upto diffCostSpec)

/-- 'vinculumlaw16.DiffLeast', WHERE WHAT IT READS IS OF BULK AT MOST 1048576: true; the input reads as it did. -/
def diffLeastUptoRow : OpenClaim := { program := "ytplekejomocalaa", sum := "4bb3a4d5ae2305ed4c39609416b096290a3162ca4def97f754ca9a3e7827c02b", func := "vinculum/vinculumlaw16.DiffLeast", spec := "diffLeast", inPlace := ["internal/bytealg.IndexByteString", "internal/bytealg.IndexString"], unfollowed := true, recurses := true, named := ["internal/bytealg.MaxLen"], loops := true, apart := false, narrowed := true }
def DiffLeastUptoSaid : Prop := diffLeastUptoRow.holds Try.pinned (OpenSpec.upto diffLeastSpec)

/-- 'vinculumlaw16.DiffMetric', WHERE WHAT IT READS IS OF BULK AT MOST 1048576: true; the input reads as it did. -/
def diffMetricUptoRow : OpenClaim := { program := "ytplekejomocalaa", sum := "4bb3a4d5ae2305ed4c39609416b096290a3162ca4def97f754ca9a3e7827c02b", func := "vinculum/vinculumlaw16.DiffMetric", spec := "diffMetric", inPlace := ["internal/bytealg.IndexByteString", "internal/bytealg.IndexString"], unfollowed := true, recurses := true, named := ["internal/bytealg.MaxLen"], loops := true, apart := false, narrowed := true }
def DiffMetricUptoSaid : Prop := diffMetricUptoRow.holds Try.pinned (OpenSpec.upto diffMetricSpec)

/-- 'vinculumlaw16.DiffWeight', WHERE WHAT IT READS IS OF BULK AT MOST 1048576: true; the input reads as it did. -/
def diffWeightUptoRow : OpenClaim := { program := "ytplekejomocalaa", sum := "4bb3a4d5ae2305ed4c39609416b096290a3162ca4def97f754ca9a3e7827c02b", func := "vinculum/vinculumlaw16.DiffWeight", spec := "diffWeight", inPlace := ["internal/bytealg.IndexByteString", "internal/bytealg.IndexString"], unfollowed := true, recurses := true, named := ["internal/bytealg.MaxLen"], loops := true, apart := false, narrowed := true }
def DiffWeightUptoSaid : Prop := diffWeightUptoRow.holds Try.pinned (OpenSpec.upto diffWeightSpec)

end Rows
end Go.Proofs.Ytplekejomocalaa
