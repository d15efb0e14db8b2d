/-
  WHAT THE ARGUMENTS ARE: nodes and operations.
-/
import Derived.Test.YtplekejomocalaaDifWJ
import Derived.Test.YtplekejomocalaaAbsP
set_option linter.unusedVariables false
namespace Go.Proofs.Ytplekejomocalaa
open Go.Abs

theorem typed_nd {n : Nat} {ss : List S} (h : Typed T n 24 ss) : ∃ t : Nd, ss = t.enc ∧ t.rng :=
  typed_node (T := T) (e := 24) (s := 22) (ki := 3) (st := 9) rfl rfl rfl rfl rfl rfl rfl rfl rfl n h
theorem typed_nodes {n t : Nat} {ss : List S} (h : Typed T n 22 ss) : ∃ l : List Nd, ss = [.sl 4 (Nd.encs l)] ∧ Nd.rngs l := by
  obtain ⟨m, rows, rfl, rfl, _, hr⟩ := typed_slice (T := T) (e := 24) rfl rfl h
  obtain ⟨ks, rfl, hks⟩ := all_map (f := Nd.enc) (q := Nd.rng) (l := rows) fun r hr' => typed_node (T := T) (e := 24) (s := 22) (ki := 3) (st := 9) rfl rfl rfl rfl rfl rfl rfl rfl rfl m (hr r hr')
  exact ⟨ks, by rw [Nd.encs_eq]; rfl, Nd.rngAll hks⟩
theorem typed_op {n : Nat} {ss : List S} (h : Typed T n 37 ss) : ∃ o : (Int × List Int × Int × Int × List Nd × Int × List UInt8 × List UInt8), ss = enc_api_Op o ∧ True := by
  obtain ⟨m, rfl, a0, q0, rfl, u0, a1, q1, rfl, u1, a2, q2, rfl, u2, a3, q3, rfl, u3, a4, q4, rfl, u4, a5, q5, rfl, u5, a6, q6, rfl, u6, a7, q7, rfl, u7, rfl⟩ := typed_struct (T := T) (t := 37) rfl rfl h
  obtain ⟨x0, rfl, _⟩ := typed_int (T := T) (k := .i64) rfl rfl u0
  obtain ⟨x1, rfl, _⟩ := typed_ints (T := T) (k := .i64) (e := 3) rfl rfl rfl rfl u1
  obtain ⟨x2, rfl, _⟩ := typed_int (T := T) (k := .i64) rfl rfl u2
  obtain ⟨x3, rfl, _⟩ := typed_int (T := T) (k := .i64) rfl rfl u3
  obtain ⟨x4, rfl, _⟩ := typed_nodes (t := 0) u4
  obtain ⟨x5, rfl, _⟩ := typed_int (T := T) (k := .i64) rfl rfl u5
  obtain ⟨x6, rfl, _⟩ := typed_str (T := T) rfl rfl u6
  obtain ⟨x7, rfl, _⟩ := typed_str (T := T) rfl rfl u7
  exact ⟨(x0, x1, x2, x3, x4, x5, x6, x7), rfl, trivial⟩
theorem typed_ops {n : Nat} {ss : List S} (h : Typed T n 32 ss) : ∃ l : List (Int × List Int × Int × Int × List Nd × Int × List UInt8 × List UInt8), ss = [.sl 8 (l.map enc_api_Op)] := by
  obtain ⟨m, rows, rfl, rfl, _, hr⟩ := typed_slice (T := T) (e := 37) rfl rfl h
  obtain ⟨ks, rfl, hks⟩ := all_map (f := enc_api_Op) (q := fun _ => True) (l := rows) fun r hr' => typed_op (hr r hr')
  exact ⟨ks, rfl⟩
theorem bulk_mem {α : Type} {f : α → List S} : ∀ {l : List α} {x : α}, x ∈ l → bulkL (f x) ≤ bulkLL (l.map f)
  | y :: l, x, h => by
    simp only [List.map_cons, bulkLL]
    rcases List.mem_cons.1 h with rfl | h
    · omega
    · have := bulk_mem (f := f) h; omega
theorem op_bulk (o : (Int × List Int × Int × Int × List Nd × Int × List UInt8 × List UInt8)) : Nd.ws o.2.2.2.2.1 + o.2.2.2.2.2.2.2.length + o.2.1.length ≤ bulkL (enc_api_Op o) := by
  have h1 := Nd.ws_bulk o.2.2.2.2.1
  have h2 := bulk_ints .i64 o.2.1
  simp only [enc_api_Op, bulkL, S.bulk]
  omega
end Go.Proofs.Ytplekejomocalaa
