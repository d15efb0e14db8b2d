/-
  THE ABSTRACT MACHINE, PART M: what a reading of the input is, as abstract data; and a law's contract from an abstract one.
-/
import Derived.Test.YtefbmooajknmgaaDoorAbsL
import Derived.Test.YtefbmooajknmgaaDoorRows
import Derived.WalkKit
import Derived.ProofKit
import Derived.OpenShut
import Derived.JoinedCond
import Derived.Carry
import Derived.Deep.Slices
set_option linter.unusedSimpArgs false
set_option linter.unusedVariables false
namespace Go.Abs
open Go.ChangeShapes Go.WideShapes Go.RowKit Go.Proofs.YtefbmooajknmgaaDoor

def szOf (T : Nat → Option TI) (t : Nat) : Nat := match T t with | some i => i.size | none => 0

def seqOf (p : Nat → List S → Prop) : List Nat → List S → Prop
  | [], ss => ss = []
  | t :: ts, ss => ∃ a b, ss = a ++ b ∧ p t a ∧ seqOf p ts b

/-- The data of a type, down to a depth. -/
def Typed (T : Nat → Option TI) : Nat → Nat → List S → Prop
  | 0, _, _ => False
  | n + 1, t, ss => match T t with
    | none => False
    | some i => match i.k with
      | .bool => ∃ b, ss = [.bool b]
      | .int k => ∃ x : Int, ss = [.int k x] ∧ k.min ≤ x ∧ x ≤ k.max
      | .str => ∃ l : List UInt8, ss = [.str l] ∧ l.length ≤ maxLen
      | .slice e => ∃ rows : List (List S), ss = [.sl (szOf T e) rows] ∧ rows.length ≤ maxLen ∧ ∀ r ∈ rows, Typed T n e r
      | .ptr e => ss = [.np] ∨ ∃ row, ss = [.pt row] ∧ Typed T n e row
      | .struct fs => seqOf (Typed T n) (fs.map (·.2)) ss
      | .arr len e => seqOf (Typed T n) (List.replicate len e) ss
      | _ => False

mutual
def S.bulk : S → Nat
  | .str l => l.length + 1
  | .sl _ rows => bulkLL rows + 1
  | .pt row => bulkL row + 1
  | _ => 1
def bulkL : List S → Nat
  | [] => 0
  | s :: r => s.bulk + bulkL r
def bulkLL : List (List S) → Nat
  | [] => 0
  | r :: rs => bulkL r + bulkLL rs
end

theorem bulkL_append : ∀ (a b : List S), bulkL (a ++ b) = bulkL a + bulkL b
  | [], b => by simp [bulkL]
  | s :: a, b => by simp only [List.cons_append, bulkL, bulkL_append a b]; omega

/-- The fields lie one behind the other. -/
def fits (T : Nat → Option TI) : List (Nat × Nat) → Nat → Nat → Bool
  | [], off, n => Nat.beq off n
  | (o, t) :: r, off, n => Nat.beq o off && (T t).isSome && fits T r (off + szOf T t) n

/-- What a type is made of is in the table too. -/
def closedAt (T : Nat → Option TI) (i : TI) : Bool := match i.k with
  | .bool | .int _ | .str => true
  | .slice e => (T e).isSome && Nat.ble 1 (szOf T e)
  | .ptr e => (T e).isSome && Nat.ble 1 (szOf T e)
  | .struct fs => fits T fs 0 i.size
  | .arr n e => (T e).isSome && Nat.beq (n * szOf T e) i.size
  | _ => false

section
variable {H : Type} {enc : TypeId × Value → H} {P : Program} {T : Nat → Option TI} {w : World} {spare : Nat → Bool} {held : Bool}

theorem cellsOf_sz (hT : TOk P T) {t : Nat} (h : (T t).isSome = true) : P.cellsOf t = szOf T t := by
  obtain ⟨i, hi⟩ := Option.isSome_iff_exists.1 h
  obtain ⟨d, info, z, h1, h2, h3, h4, _⟩ := hT t i hi
  simp [Program.cellsOf, h3, h4, szOf, hi]

def old (w : World) (b : Nat) : Prop := b < w.heap.size

theorem cell_old {w : World} {a : Addr} {v : Value} (h : w.cell? a = some v) : old w a.block ∧ a.spot = none := by
  unfold World.cell? at h
  unfold old
  split at h
  · rename_i c x y e
    refine ⟨(Array.getElem?_eq_some_iff.1 e).1, ?_⟩
    split at h
    · cases h
    · rename_i hs
      cases hh : a.spot with
      | none => rfl
      | some s => rw [hh] at hs; simp at hs
  · cases h

theorem row_of_cells {b off : Nat} {ss : List S} {cs : List Value} (h : Reps (old w) w ss cs) (hc : ∀ i, i < ss.length → w.cell? ⟨b, off + i, none⟩ = cs[i]?) : RepRow (old w) w b ss off :=
  RepRow.mk fun i s hs => by
    have hi : i < ss.length := (List.getElem?_eq_some_iff.1 hs).1
    have hi' : i < cs.length := by rw [h.1]; exact hi
    have hv : cs[i]? = some cs[i] := List.getElem?_eq_getElem hi'
    have hcell := (hc i hi).trans hv
    exact ⟨(cell_old hcell).1, _, hcell, h.2 i s _ hs hv⟩

theorem addr_at {a : Addr} (hs : a.spot = none) (k : Nat) : a.add k = ⟨a.block, a.off + k, none⟩ := by
  unfold Addr.add
  obtain ⟨b, o, s⟩ := a
  simp only at hs; subst hs
  split
  · rename_i h; subst h; rfl
  · rfl

theorem bulk_range {R : Nat → List S} {D : Nat → DataW H} : ∀ {l : List Nat}, (∀ i ∈ l, bulkL (R i) ≤ Rows.uptoBulk (D i)) → bulkLL (l.map R) ≤ Rows.uptoBulkAll (l.map D)
  | [], _ => by simp [bulkLL]
  | i :: l, h => by
    simp only [List.map_cons, bulkLL, Rows.uptoBulkAll]
    have h1 := h i List.mem_cons_self
    have h2 := bulk_range (fun j hj => h j (List.mem_cons_of_mem _ hj))
    omega

theorem seq_conv {n : Nat} {p : Nat → List S → Prop} (hT : TOk P T)
    (ih : ∀ t cs x, (T t).isSome = true → DataW.trod enc P w 0 spare held n t cs = some x → ∃ ss, Reps (old w) w ss cs ∧ p t ss ∧ bulkL ss ≤ Rows.uptoBulk x.1) :
    ∀ (fs : List (Nat × Nat)) (off tot : Nat) (cs : List Value) (xs : List (DataW H × List MemPlace)), fits T fs off tot = true → cs.length = tot → xs.length = fs.length →
      (∀ (i : Nat) f, fs[i]? = some f → DataW.trod enc P w 0 spare held n f.2 ((cs.drop f.1).take (P.cellsOf f.2)) = xs[i]?) →
      ∃ ss, Reps (old w) w ss (cs.drop off) ∧ seqOf p (fs.map (·.2)) ss ∧ bulkL ss ≤ Rows.uptoBulkAll (xs.map (·.1))
  | [], off, tot, cs, xs, hf, hl, _, _ => by
    obtain rfl := Nat.eq_of_beq_eq_true hf
    refine ⟨[], ⟨by simp [hl], fun i s v h => by simp at h⟩, rfl, by simp [bulkL]⟩
  | (o, t) :: fs, off, tot, cs, xs, hf, hl, hxl, hx => by
    simp only [fits, Bool.and_eq_true] at hf
    obtain ⟨⟨ho, ht⟩, hr⟩ := hf
    obtain rfl := Nat.eq_of_beq_eq_true ho
    match xs, hxl with
    | y :: ys, hxl =>
      have h0 := hx 0 (o, t) rfl
      simp only [List.getElem?_cons_zero] at h0
      obtain ⟨s1, r1, p1, b1⟩ := ih t _ y ht h0
      obtain ⟨s2, r2, p2, b2⟩ := seq_conv hT ih fs (o + szOf T t) tot cs ys hr hl (by simpa using hxl) (fun i f hi => by simpa using hx (i + 1) f (by simpa using hi))
      rw [cellsOf_sz hT ht] at r1
      have e : cs.drop o = (cs.drop o).take (szOf T t) ++ cs.drop (o + szOf T t) := by
        rw [← List.drop_drop, List.take_append_drop]
      refine ⟨s1 ++ s2, ?_, ⟨s1, s2, rfl, p1, p2⟩, ?_⟩
      · rw [e]; exact r1.append r2
      · simp only [List.map_cons, Rows.uptoBulkAll, bulkL_append]; omega

theorem fits_arr {e : Nat} (he : (T e).isSome = true) : ∀ (n off : Nat), fits T ((List.range n).map (fun i => (off + i * szOf T e, e))) off (off + n * szOf T e) = true
  | 0, off => by simp [fits]
  | n + 1, off => by
    rw [List.range_succ_eq_map]
    simp only [List.map_cons, List.map_map, fits, Nat.zero_mul, Nat.add_zero, Nat.beq_eq, he, Bool.true_and, Bool.and_true]
    have := fits_arr he n (off + szOf T e)
    have e1 : (List.range n).map (fun i => (off + szOf T e + i * szOf T e, e)) = (List.range n).map ((fun i => (off + i * szOf T e, e)) ∘ Nat.succ) := by
      refine List.map_congr_left fun i _ => ?_
      simp only [Function.comp, Nat.succ_eq_add_one, Nat.add_mul]
      congr 1; omega
    rw [← e1, show off + (n + 1) * szOf T e = off + szOf T e + n * szOf T e by rw [Nat.add_mul]; omega, this]
    simp

theorem conv (hT : TOk P T) (hC : ∀ t i, T t = some i → closedAt T i = true) : ∀ (n : Nat) (t : Nat) (cs : List Value) (x : DataW H × List MemPlace), (T t).isSome = true →
    DataW.trod enc P w 0 spare held n t cs = some x → ∃ ss, Reps (old w) w ss cs ∧ Typed T n t ss ∧ bulkL ss ≤ Rows.uptoBulk x.1
  | 0, t, cs, x, _, h => by simp [DataW.trod] at h
  | n + 1, t, cs, x, ht, h => by
    obtain ⟨i, hi⟩ := Option.isSome_iff_exists.1 ht
    have hcl := hC t i hi
    obtain ⟨d, info, z, h1, h2, h3, h4, h5, h6, h7, h8, h9, h10⟩ := hT t i hi
    have one : ∀ {s : S} {v : Value}, Rep (old w) w s v → Reps (old w) w [s] [v] := fun {s v} hr => ⟨rfl, fun j s' v' hs hv => by
      cases j with
      | zero => simp at hs hv; subst hs; subst hv; exact hr
      | succ j => simp at hs⟩
    cases d <;> simp only [tkOf] at h2
    case bool =>
      obtain ⟨b, rfl, rfl⟩ := DataW.trod_bool h1 h
      exact ⟨[.bool b], one (by simp [Rep]), by simp [Typed, hi, ← h2], by simp [bulkL, S.bulk, Rows.uptoBulk]⟩
    case int k =>
      obtain ⟨m, rfl, rfl, hw⟩ := DataW.trod_int h1 h
      have hb : k.min ≤ m ∧ m ≤ k.max := by simpa [Lit.wf] using hw
      exact ⟨[.int k m], one (by simp [Rep]), by simp [Typed, hi, ← h2, hb], by simp [bulkL, S.bulk, Rows.uptoBulk]⟩
    case string =>
      obtain ⟨s, rfl, rfl, hl⟩ := DataW.trod_string h1 h
      refine ⟨[.str s.data.toList], one (by simp [Rep]), ?_, by simp [bulkL, S.bulk, Rows.uptoBulk]⟩
      simp only [Typed, hi, ← h2]
      exact ⟨_, rfl, by simpa using hl⟩
    case pointer e =>
      simp only [closedAt, ← h2, Bool.and_eq_true] at hcl
      rcases DataW.trod_pointer h1 h with ⟨rfl, rfl⟩ | ⟨a, cs', y, m, hm, rfl, rfl, hcs, hy⟩
      · exact ⟨[.np], one (by simp [Rep]), by simp [Typed, hi, ← h2], by simp [bulkL, S.bulk, Rows.uptoBulk]⟩
      · cases hm
        obtain ⟨ss, r1, r2, r3⟩ := conv hT hC n e cs' y hcl.1 hy
        obtain ⟨_, g2, g3⟩ := World.cells?_some hcs
        rw [cellsOf_sz hT hcl.1] at g2 g3
        have hpos := Nat.le_of_ble_eq_true hcl.2
        have hspot : a.spot = none := by
          have := g3 0 (by omega)
          rw [List.getElem?_eq_getElem (by omega)] at this
          have := (cell_old this).2
          simpa [Addr.add] using this
        refine ⟨[.pt ss], one ?_, ?_, by simp only [bulkL, S.bulk, Rows.uptoBulk]; omega⟩
        · simp only [Rep]
          refine ⟨a.block, a.off, ?_, row_of_cells r1 fun j hj => ?_⟩
          · obtain ⟨b, o, s⟩ := a; simp only at hspot; subst hspot; rfl
          · rw [← addr_at hspot]; exact g3 j (by rw [← g2, r1.1]; exact hj)
        · simp only [Typed, hi, ← h2]
          exact .inr ⟨ss, rfl, r2⟩
    case slice e =>
      simp only [closedAt, ← h2, Bool.and_eq_true] at hcl
      have hpos := Nat.le_of_ble_eq_true hcl.2
      rcases DataW.trod_slice h1 h with ⟨rfl, rfl⟩ | ⟨a, len, cap, elems, rest, m, hm, rfl, rfl, hb, hl, hcm, hlen, hel, _, _⟩
      · refine ⟨[.sl (szOf T e) []], one (by simp only [Rep]; exact .inl ⟨trivial, none, 0, rfl⟩), ?_, by simp [bulkL, S.bulk, Rows.uptoBulk, bulkLL]⟩
        simp only [Typed, hi, ← h2]
        exact ⟨[], rfl, by simp, fun r hr => by cases hr⟩
      · cases hm
        subst hlen
        have key : ∀ j, j < elems.length → ∃ ss : List S, ss.length = szOf T e ∧ a.spot = none ∧ RepRow (old w) w a.block ss (a.off + j * szOf T e) ∧ Typed T n e ss ∧ bulkL ss ≤ Rows.uptoBulk ((elems.map (·.1)).getD j .nil) := fun j hj => by
          have hspot : a.spot = none := by
            have h0 := hel 0 (by omega)
            rw [List.getElem?_eq_getElem (by omega)] at h0
            obtain ⟨cs', g1, _⟩ := Option.bind_eq_some_iff.1 h0
            obtain ⟨_, g2, g3⟩ := World.cells?_some g1
            rw [cellsOf_sz hT hcl.1] at g2 g3
            have := g3 0 (by omega)
            rw [List.getElem?_eq_getElem (by omega)] at this
            have := (cell_old this).2
            simpa [Addr.add] using this
          have h0 := hel j hj
          rw [List.getElem?_eq_getElem hj] at h0
          obtain ⟨cs', g1, gy⟩ := Option.bind_eq_some_iff.1 h0
          obtain ⟨_, g2, g3⟩ := World.cells?_some g1
          rw [cellsOf_sz hT hcl.1] at g2 g3
          obtain ⟨ss, r1, r2, r3⟩ := conv hT hC n e cs' elems[j] hcl.1 gy
          refine ⟨ss, by rw [← r1.1, g2], hspot, row_of_cells r1 fun q hq => ?_, r2, by simpa [List.getD, List.getElem?_eq_getElem hj] using r3⟩
          have := g3 q (by rw [← g2, r1.1]; exact hq)
          rw [addr_at hspot, addr_at (a := ⟨a.block, _, none⟩) rfl] at this
          exact this
        obtain ⟨R, hR⟩ := Go.Deep.choose_lt key
        refine ⟨[.sl (szOf T e) ((List.range elems.length).map R)], one ?_, ?_, ?_⟩
        · simp only [Rep]
          by_cases h0 : elems.length = 0
          · exact .inl ⟨by simp [h0], some a, cap, by rw [h0]⟩
          · have hspot := (hR 0 (by omega)).2.1
            refine .inr ⟨a.block, a.off, cap, ?_, by simpa using hl, RepRows.mk fun j r hr => ?_⟩
            · obtain ⟨b, o, s⟩ := a; simp only at hspot; subst hspot; simp
            · simp only [List.getElem?_map, Option.map_eq_some_iff] at hr
              obtain ⟨j', hj', rfl⟩ := hr
              obtain ⟨hlt, rfl⟩ := List.getElem?_eq_some_iff.1 hj'
              simp only [List.getElem_range, List.length_range] at hlt ⊢
              exact ⟨(hR j hlt).1, (hR j hlt).2.2.1⟩
        · simp only [Typed, hi, ← h2]
          refine ⟨_, rfl, by simp; omega, fun r hr => ?_⟩
          obtain ⟨j, hj, rfl⟩ := List.mem_map.1 hr
          exact (hR j (by simpa using hj)).2.2.2.1
        · have hb := bulk_range (R := R) (D := fun j => (elems.map (·.1)).getD j .nil) (l := List.range elems.length) (fun j hj => (hR j (by simpa using hj)).2.2.2.2)
          have e1 : (List.range elems.length).map (fun j => (elems.map (·.1)).getD j DataW.nil) = elems.map (·.1) := by
            apply List.ext_getElem (by simp)
            intro j g1 g2
            simp only [List.length_map] at g2
            simp [List.getD, List.getElem?_eq_getElem g2]
          rw [e1] at hb
          simp only [bulkL, S.bulk, Rows.uptoBulk]; omega
    case struct fs =>
      simp only [closedAt, ← h2] at hcl
      obtain ⟨xs, m, hm, rfl, hlen, hxl, hx⟩ := DataW.trod_struct h1 h
      cases hm
      rw [cellsOf_sz hT ht] at hlen
      obtain ⟨ss, r1, r2, r3⟩ := seq_conv (p := Typed T n) hT (conv hT hC n) (fs.toList.map fun f => (f.offset, f.type)) 0 i.size cs xs hcl (by rw [hlen, szOf, hi]) (by simpa using hxl) (fun j f hf => by
        simp only [List.getElem?_map, Option.map_eq_some_iff] at hf
        obtain ⟨g, hg, rfl⟩ := hf
        exact hx j g (by simpa using hg))
      refine ⟨ss, by simpa using r1, ?_, by simp only [Rows.uptoBulk]; omega⟩
      simp only [Typed, hi, ← h2]
      exact r2
    case array len e =>
      simp only [closedAt, ← h2, Bool.and_eq_true] at hcl
      obtain ⟨he, hsz⟩ := hcl
      have hsz := Nat.eq_of_beq_eq_true hsz
      have h' : cs.length = P.cellsOf t ∧ ∃ xs, (List.range len).mapM (fun i => DataW.trod enc P w 0 spare held n e ((cs.drop (i * P.cellsOf e)).take (P.cellsOf e))) = some xs ∧ x = (.agg (xs.map (·.1)), xs.flatMap (·.2)) := by
        unfold DataW.trod at h
        rw [h1] at h
        split at h <;> simp_all
        obtain ⟨hl, xs, hp, hd⟩ := h
        exact ⟨xs, hp, hd.symm⟩
      obtain ⟨hlen, xs, hp, rfl⟩ := h'
      rw [cellsOf_sz hT ht] at hlen
      have hxl := mapM_some_length hp
      obtain ⟨ss, r1, r2, r3⟩ := seq_conv (p := Typed T n) hT (conv hT hC n) ((List.range len).map fun i => (0 + i * szOf T e, e)) 0 i.size cs xs (by
          have := fits_arr he len 0
          rwa [Nat.zero_add (len * szOf T e), hsz] at this) (by rw [hlen, szOf, hi]) (by simpa using hxl) (fun j f hf => by
        simp only [List.getElem?_map, Option.map_eq_some_iff] at hf
        obtain ⟨g, hg, rfl⟩ := hf
        have := mapM_some_get hp j g hg
        rw [cellsOf_sz hT he] at this ⊢
        simpa using this)
      refine ⟨ss, by simpa using r1, ?_, by simp only [Rows.uptoBulk]; omega⟩
      simp only [Typed, hi, ← h2]
      have e1 : ((List.range len).map fun i => (0 + i * szOf T e, e)).map (·.2) = List.replicate len e := by
        rw [List.map_map]
        apply List.ext_getElem (by simp)
        intro j g1 g2
        simp
      rwa [e1] at r2
    all_goals simp [closedAt, ← h2] at hcl

end
end Go.Abs
