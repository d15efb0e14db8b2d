/-
  NODES COUNTED; models of functions whose walks are by hand.
-/
import Derived.Test.YtefbmooajknmgaaDoorMNod
set_option linter.unusedVariables false
namespace Go.Proofs.YtefbmooajknmgaaDoor
open Go.Abs

/- The number of nodes. -/
mutual
def Nd.cnt : Nd → Nat
  | .mk _ _ _ ks => Nd.cnts ks + 1
def Nd.cnts : List Nd → Nat
  | [] => 0
  | v :: vs => v.cnt + Nd.cnts vs
end
theorem Nd.cnt_pos : ∀ v : Nd, 1 ≤ v.cnt
  | .mk _ _ _ ks => by simp only [Nd.cnt]; omega
theorem Nd.cnts_append : ∀ a b : List Nd, Nd.cnts (a ++ b) = Nd.cnts a + Nd.cnts b
  | [], b => by simp [Nd.cnts]
  | v :: a, b => by simp only [List.cons_append, Nd.cnts, Nd.cnts_append a b]; omega
theorem Nd.cnts_len : ∀ a : List Nd, a.length ≤ Nd.cnts a
  | [] => Nat.le_refl _
  | v :: a => by have := Nd.cnts_len a; have := v.cnt_pos; simp only [Nd.cnts, List.length_cons]; omega
theorem Nd.cnts_mem : ∀ {a : List Nd} {v : Nd}, v ∈ a → v.cnt ≤ Nd.cnts a
  | u :: a, v, h => by
    simp only [Nd.cnts]
    rcases List.mem_cons.1 h with rfl | h
    · omega
    · have := Nd.cnts_mem h; omega
theorem Nd.cnts_drop {a : List Nd} {i : Nat} (h : i < a.length) : Nd.cnts (a.drop i) = (a[i]).cnt + Nd.cnts (a.drop (i + 1)) := by
  rw [List.drop_eq_getElem_cons h]; rfl

def m_deep_Node (n : Nd) : Option Nd := req (n.cnt ≤ 1000000000) (some n)
def Nd.kids : Nd → List Nd
  | .mk _ _ _ ks => ks
/-- The row with a path. -/
def findL : Nd → List Int → Option Nd
  | n, [] => some n
  | _, [_] => none
  | n, i :: s :: path => if 0 ≤ i ∧ i < n.kids.length then
      let item := n.kids.getD i.toNat n
      if 0 ≤ s ∧ s < item.kids.length then findL (item.kids.getD s.toNat n) path else none
    else none
def zeroNd : Nd := .mk 0 [] 0 []
/-- The tree with another one at a path. -/
def putL : Nd → List Int → Nd → Nd
  | .mk k t c ks, i :: s :: path, r => .mk k t c (ks.set i.toNat (match ks[i.toNat]? with
    | some (.mk k2 t2 c2 ks2) => .mk k2 t2 c2 (ks2.set s.toNat (match ks2[s.toNat]? with
      | some z => putL z path r
      | none => r))
    | none => r))
  | _, _, r => r
def m_node_Row (f : Nat) (n : Nd) (path : List Int) : Option (Nd × Int) :=
  (m_node_Valid f n).bind fun b => if b = true then (match findL n path with
    | some r => (m_deep_Node r).bind fun r => some (r, 0)
    | none => some (zeroNd, 8)) else some (zeroNd, 1)
def m_node_Item (f : Nat) (n : Nd) (path : List Int) (i : Int) : Option (Nd × Int) :=
  (m_node_Valid f n).bind fun b => if b = true then (match findL n path with
    | some r => if 0 ≤ i ∧ i < r.kids.length then (m_deep_Node (r.kids.getD i.toNat r)).bind fun r => some (r, 0) else some (zeroNd, 2)
    | none => some (zeroNd, 8)) else some (zeroNd, 1)
def m_node_With (f : Nat) (n : Nd) (path : List Int) (row : Nd) : Option (Nd × Int) :=
  (m_node_Valid f n).bind fun b => if b = true then (m_deep_Node n).bind fun n => (match findL n path with
    | some _ => (m_node_Valid f row).bind fun b => if b = true then (m_deep_Node row).bind fun row => (m_node_Valid f (putL n path row)).bind fun b => if b = true then some (putL n path row, 0) else some (zeroNd, 6)
        else some (zeroNd, 4)
    | none => some (zeroNd, 8)) else some (zeroNd, 1)
end Go.Proofs.YtefbmooajknmgaaDoor
