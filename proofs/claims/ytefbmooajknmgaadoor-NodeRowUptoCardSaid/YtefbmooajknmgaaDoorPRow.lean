/-
  PLAIN: rows and items by their paths; the law NodeRow.
-/
import Derived.Test.YtefbmooajknmgaaDoorPNode
import Derived.Test.YtefbmooajknmgaaDoorMNoe
set_option linter.unusedVariables false
set_option linter.unusedSimpArgs false
namespace Go.Proofs.YtefbmooajknmgaaDoor
open Go.Abs

theorem findL_none1' {n : Nd} {i s : Int} {p : List Int} (h : ¬ (0 ≤ i ∧ i < n.kids.length)) : findL n (i :: s :: p) = none := by rw [findL, if_neg h]
theorem findL_none2' {n x : Nd} {i : Nat} {s : Int} {p : List Int} (hx : n.kids[i]? = some x) (h : ¬ (0 ≤ s ∧ s < x.kids.length)) : findL n ((i : Int) :: s :: p) = none := by
  have hl := (List.getElem?_eq_some_iff.1 hx).1
  rw [findL, if_pos ⟨by omega, by omega⟩]
  simp only [List.getD_eq_getElem?_getD, Int.toNat_natCast, hx, Option.getD_some]
  rw [if_neg h]
theorem findL_step' {n x z : Nd} {i s : Nat} {p : List Int} (hx : n.kids[i]? = some x) (hz : x.kids[s]? = some z) : findL n ((i : Int) :: (s : Int) :: p) = findL z p := by
  have hl := (List.getElem?_eq_some_iff.1 hx).1
  have hl2 := (List.getElem?_eq_some_iff.1 hz).1
  rw [findL, if_pos ⟨by omega, by omega⟩]
  simp only [List.getD_eq_getElem?_getD, Int.toNat_natCast, hx, hz, Option.getD_some]
  rw [if_pos ⟨by omega, by omega⟩]
theorem at_int9 {α : Type} {l : List α} {i : Int} (h0 : 0 ≤ i) (h1 : i < (l.length : Int)) : ∃ p : Nat, i = (p : Int) ∧ ∃ h : p < l.length, at? l i = some l[p] := by
  obtain ⟨p, rfl⟩ := Int.eq_ofNat_of_zero_le h0
  exact ⟨p, rfl, by omega, at_get (by omega)⟩
theorem find_loop9 : ∀ (k : Nat) (t : Nd) (path : List Int), path.length < k →
    (findL t path = none ∧ ∃ r, m_r09_find_l1 k t.kind t.text t.cols t.kids path = some (.ret (r, false))) ∨
    (findL t path = none ∧ ∃ (r : Nd) (p : List Int), p ≠ [] ∧ m_r09_find_l1 k t.kind t.text t.cols t.kids path = some (.go (p, r.kind, r.text, r.cols, r.kids))) ∨
    ∃ r, findL t path = some r ∧ m_r09_find_l1 k t.kind t.text t.cols t.kids path = some (.go ([], r.kind, r.text, r.cols, r.kids))
  | 0, _, _, h => by omega
  | k + 1, t, path, h => by
    unfold m_r09_find_l1
    match path, h with
    | [], h => exact .inr (.inr ⟨t, rfl, rfl⟩)
    | [x], h => exact .inr (.inl ⟨rfl, t, [x], by simp, rfl⟩)
    | x :: y :: p, h =>
      have e0 : at? (x :: y :: p) (0 : Int) = some x := rfl
      have e1 : at? (x :: y :: p) (1 : Int) = some y := rfl
      have e2 : (((x :: y :: p).take (((x :: y :: p).length : Int)).toNat).drop (2 : Int).toNat) = p := by
        rw [Int.toNat_natCast, List.take_length]; rfl
      rw [dec_t (by simp only [List.length_cons]; omega), cond_true]
      simp only [e0, e1, Option.bind_some, e2]
      by_cases h1 : x < 0
      · rw [dec_t h1]; exact .inl ⟨findL_none1' (fun h => by omega), _, rfl⟩
      · rw [dec_f h1]
        by_cases h2 : (t.kids.length : Int) ≤ x
        · rw [dec_t h2]; exact .inl ⟨findL_none1' (fun h => by omega), _, rfl⟩
        · rw [dec_f h2]
          obtain ⟨i, rfl, hi, hg⟩ := at_int9 (l := t.kids) (i := x) (by omega) (by omega)
          rw [hg]
          have hgi : t.kids[i]? = some t.kids[i] := List.getElem?_eq_getElem hi
          generalize t.kids[i] = e at hgi
          obtain ⟨x1, x2, x3, x4⟩ := e
          simp only [cond_false, Option.bind_some]
          by_cases h3 : y < 0
          · rw [dec_t h3]; exact .inl ⟨findL_none2' hgi (fun h => by omega), _, rfl⟩
          · rw [dec_f h3]
            by_cases h4 : (x4.length : Int) ≤ y
            · rw [dec_t h4]; exact .inl ⟨findL_none2' hgi (fun h => by have : y < x4.length := h.2; omega), _, rfl⟩
            · rw [dec_f h4]
              obtain ⟨j, rfl, hj, hg2⟩ := at_int9 (l := x4) (i := y) (by omega) (by omega)
              rw [hg2]
              have hgj : x4[j]? = some x4[j] := List.getElem?_eq_getElem hj
              generalize x4[j] = f at hgj
              obtain ⟨y1, y2, y3, y4⟩ := f
              simp only [cond_false, Option.bind_some]
              rw [req_t ⟨by omega, by simp only [List.length_cons]; omega, by omega⟩]
              rw [findL_step' hgi hgj]
              exact find_loop9 k (.mk y1 y2 y3 y4) p (by simp only [List.length_cons] at h; omega)
theorem r09_find_eq (n : Nat) (t : Nd) (path : List Int) (h : path.length < n) : ∃ r ok, m_r09_find n t path = some (r, ok) ∧ findL t path = bif ok then some r else none := by
  obtain ⟨a, b, c, d⟩ := t
  unfold m_r09_find
  dsimp only
  rcases find_loop9 n (.mk a b c d) path h with ⟨h0, r, h1⟩ | ⟨h0, r, p, hp, h1⟩ | ⟨r, h0, h1⟩
  · simp only [Nd.kind, Nd.text, Nd.cols, Nd.kids] at h1
    rw [h1]
    exact ⟨r, false, rfl, h0⟩
  · obtain ⟨r1, r2, r3, r4⟩ := r
    simp only [Nd.kind, Nd.text, Nd.cols, Nd.kids] at h1
    rw [h1]
    refine ⟨.mk r1 r2 r3 r4, false, ?_, h0⟩
    have : ((p.length : Int) == 0) = false := beq_eq_false_iff_ne.2 fun e => hp (List.eq_nil_of_length_eq_zero (by omega))
    simp only [Option.bind_some, this]
  · obtain ⟨r1, r2, r3, r4⟩ := r
    simp only [Nd.kind, Nd.text, Nd.cols, Nd.kids] at h1
    rw [h1]
    exact ⟨.mk r1 r2 r3 r4, true, rfl, h0⟩

/-- What Row says. -/
def rowS (t : Nd) (p : List Int) : Nd × Int := if validB t = true then (match findL t p with | some r => (r, 0) | none => (zeroNd, 8)) else (zeroNd, 1)
theorem findL_sub : ∀ (N : Nat) (p : List Int) (t r : Nd), p.length < N → findL t p = some r → r.w ≤ t.w ∧ r.cnt ≤ t.cnt
  | 0, p, _, _, h, _ => by omega
  | N + 1, [], t, r, _, h => by
    rw [findL] at h
    cases h
    exact ⟨Nat.le_refl _, Nat.le_refl _⟩
  | N + 1, [_], t, r, _, h => by
    rw [findL] at h
    cases h
  | N + 1, i :: s :: p, .mk k tx c ks, r, hN, h => by
    rw [findL] at h
    split at h
    · rename_i hi
      replace hi : 0 ≤ i ∧ i < ks.length := hi
      have hi0 : i.toNat < ks.length := by omega
      have hx : ks[i.toNat]? = some ks[i.toNat] := List.getElem?_eq_getElem hi0
      generalize ks[i.toNat] = x at hx
      obtain ⟨k2, tx2, c2, ks2⟩ := x
      simp only [Nd.kids, List.getD_eq_getElem?_getD, hx, Option.getD_some] at h
      split at h
      · rename_i hs
        have hs0 : s.toNat < ks2.length := by omega
        have hz : ks2[s.toNat]? = some ks2[s.toNat] := List.getElem?_eq_getElem hs0
        generalize ks2[s.toNat] = z at hz
        rw [hz, Option.getD_some] at h
        obtain ⟨q1, q2⟩ := findL_sub N p z r (by simp only [List.length_cons] at hN; omega) h
        have m1 := Nd.w_mem (List.mem_of_getElem? hx)
        have m2 := Nd.w_mem (List.mem_of_getElem? hz)
        have n1 := Nd.cnts_mem (List.mem_of_getElem? hx)
        have n2 := Nd.cnts_mem (List.mem_of_getElem? hz)
        simp only [Nd.w, Nd.cnt] at m1 m2 n1 n2 ⊢
        omega
      · cases h
    · cases h
theorem r09_Row_eq (n : Nat) (t : Nd) (p : List Int) (hp : p.length < n) (hv : m_r09_Valid n t = some (validB t)) : m_r09_Row n t p = some (rowS t p) := by
  obtain ⟨r, ok, h1, h2⟩ := r09_find_eq n t p hp
  obtain ⟨k, tx, c, ks⟩ := t
  unfold m_r09_Row rowS
  dsimp only
  rw [hv]
  simp only [Option.bind_some]
  cases hb : validB (.mk k tx c ks) with
  | false => rfl
  | true =>
    rw [h1, h2]
    obtain ⟨r1, r2, r3, r4⟩ := r
    cases ok <;> rfl
theorem deep_eq {t : Nd} (h : t.cnt ≤ 1000000000) : m_deep_Node t = some t := req_t h
theorem node_Row_eq (n : Nat) (t : Nd) (p : List Int) (hv : m_node_Valid n t = some (validB t)) (hc : t.cnt ≤ 1000000000) : m_node_Row n t p = some (rowS t p) := by
  unfold m_node_Row rowS
  rw [hv]
  simp only [Option.bind_some]
  split
  · cases hf : findL t p with
    | none => rfl
    | some r =>
      have := (findL_sub _ p t r (Nat.lt_succ_self _) hf).2
      simp only [deep_eq (Nat.le_trans this hc), Option.bind_some]
  · rfl
/-- What Item says. -/
def itemS (t : Nd) (p : List Int) (i : Int) : Nd × Int := if validB t = true then (match findL t p with | some r => if 0 ≤ i ∧ i < r.kids.length then (r.kids.getD i.toNat r, 0) else (zeroNd, 2) | none => (zeroNd, 8)) else (zeroNd, 1)
theorem node_Item_eq (n : Nat) (t : Nd) (p : List Int) (i : Int) (hv : m_node_Valid n t = some (validB t)) (hc : t.cnt ≤ 1000000000) : m_node_Item n t p i = some (itemS t p i) := by
  unfold m_node_Item itemS
  rw [hv]
  simp only [Option.bind_some]
  split
  · cases hf : findL t p with
    | none => rfl
    | some r =>
      have h1 := (findL_sub _ p t r (Nat.lt_succ_self _) hf).2
      obtain ⟨k, tx, c, ks⟩ := r
      by_cases hi : 0 ≤ i ∧ i < ((Nd.mk k tx c ks).kids.length : Int)
      · have hi2 : 0 ≤ i ∧ i < (ks.length : Int) := hi
        obtain ⟨x, hx⟩ : ∃ x, ks[i.toNat]? = some x := ⟨_, List.getElem?_eq_getElem (by omega)⟩
        have n1 := Nd.cnts_mem (List.mem_of_getElem? hx)
        simp only [Nd.cnt] at h1
        have hg : (Nd.mk k tx c ks).kids.getD i.toNat (Nd.mk k tx c ks) = x := by
          show ks.getD i.toNat _ = x
          rw [List.getD_eq_getElem?_getD, hx, Option.getD_some]
        dsimp only
        rw [if_pos hi, if_pos hi, hg, deep_eq (by omega)]; rfl
      · dsimp only
        rw [if_neg hi, if_neg hi]
  · rfl
theorem r09_Item_eq (n : Nat) (t : Nd) (p : List Int) (i : Int) (hp : p.length < n) (hv : m_r09_Valid n t = some (validB t)) : m_r09_Item n t p i = some (itemS t p i) := by
  have hr := r09_Row_eq n t p hp hv
  obtain ⟨k, tx, c, ks⟩ := t
  unfold m_r09_Item
  dsimp only
  rw [hr]
  unfold rowS itemS
  split
  · cases hf : findL (.mk k tx c ks) p with
    | none => rfl
    | some r =>
      obtain ⟨k2, tx2, c2, ks2⟩ := r
      simp only [Option.bind_some, show ((0 : Int) != 0) = false from rfl, cond_false]
      by_cases h1 : i < 0
      · rw [dec_t h1, if_neg (fun h => by omega)]; rfl
      · rw [dec_f h1]
        by_cases h2 : (ks2.length : Int) ≤ i
        · rw [dec_t h2, if_neg (fun h => by have : i < (ks2.length : Int) := h.2; omega)]; rfl
        · rw [dec_f h2, if_pos ⟨by omega, show i < (ks2.length : Int) by omega⟩]
          obtain ⟨j, rfl, hj, hg⟩ := at_int9 (l := ks2) (i := i) (by omega) (by omega)
          have hgg : (Nd.mk k2 tx2 c2 ks2).kids.getD ((j : Int)).toNat (Nd.mk k2 tx2 c2 ks2) = ks2[j] := by
            show ks2.getD ((j : Int)).toNat _ = _
            rw [List.getD_eq_getElem?_getD, Int.toNat_natCast, List.getElem?_eq_getElem hj, Option.getD_some]
          rw [hgg]
          simp only [cond_false, Option.bind_some]
          rw [hg]
          generalize ks2[j] = z
          cases z; rfl
  · rfl
theorem zero_cnt (t : Nd) : zeroNd.cnt ≤ t.cnt := t.cnt_pos
theorem rowS_cnt (t : Nd) (p : List Int) : (rowS t p).1.cnt ≤ t.cnt := by
  unfold rowS
  split
  · split
    · rename_i r hr
      exact (findL_sub _ p t r (Nat.lt_succ_self _) hr).2
    · exact zero_cnt t
  · exact zero_cnt t
theorem itemS_cnt (t : Nd) (p : List Int) (i : Int) : (itemS t p i).1.cnt ≤ t.cnt := by
  unfold itemS
  split
  · split
    · rename_i r hr
      have h1 := (findL_sub _ p t r (Nat.lt_succ_self _) hr).2
      obtain ⟨k, tx, c, ks⟩ := r
      by_cases hi : 0 ≤ i ∧ i < ((Nd.mk k tx c ks).kids.length : Int)
      · have hi2 : 0 ≤ i ∧ i < (ks.length : Int) := hi
        obtain ⟨x, hx⟩ : ∃ x, ks[i.toNat]? = some x := ⟨_, List.getElem?_eq_getElem (by omega)⟩
        have n1 := Nd.cnts_mem (List.mem_of_getElem? hx)
        simp only [Nd.cnt] at h1
        have hg : (Nd.mk k tx c ks).kids.getD i.toNat (Nd.mk k tx c ks) = x := by
          show ks.getD i.toNat _ = x
          rw [List.getD_eq_getElem?_getD, hx, Option.getD_some]
        rw [if_pos hi, hg]
        show x.cnt ≤ t.cnt
        omega
      · rw [if_neg hi]
        exact zero_cnt t
    · exact zero_cnt t
  · exact zero_cnt t
theorem r09_Equal_self (t : Nd) (h : t.cnt ≤ 1048576) : m_r09_Equal 70000000 t t = some true := by
  obtain ⟨r, q1, q2⟩ := (Equal_eq 70000000).1 t t (by omega) (by omega)
  rw [q1, q2.2 rfl]
theorem NodeRow_eq (a : Nd) (p : List Int) (i : Int) (ha : a.w ≤ 1048576) : m_l09_NodeRow 70000000 a p i = some true := by
  have hw := awake9_ok 70000000 (by decide)
  have ca := Nd.cnt_w a
  obtain ⟨y, f1, _⟩ := few9_eq 70000000 a (by omega)
  have v1 := node_Valid_eq 70000000 a (by omega) (by omega)
  have v2 := r09_Valid_eq 70000000 a (by omega) (by omega)
  have e1 := node_Row_eq 70000000 a p v1 (by omega)
  have e3 := node_Item_eq 70000000 a p i v1 (by omega)
  have q1 := r09_Equal_self (rowS a p).1 (by have := rowS_cnt a p; omega)
  have q2 := r09_Equal_self (itemS a p i).1 (by have := itemS_cnt a p i; omega)
  have e2 : ¬ 60 < (p.length : Int) → m_r09_Row 70000000 a p = some (rowS a p) := fun h => r09_Row_eq 70000000 a p (by omega) v2
  have e4 : ¬ 60 < (p.length : Int) → m_r09_Item 70000000 a p i = some (itemS a p i) := fun h => r09_Item_eq 70000000 a p i (by omega) v2
  generalize 70000000 = n at *
  obtain ⟨a1, a2, a3, a4⟩ := a
  unfold m_l09_NodeRow
  simp only [hw, f1, Option.bind_some, cond_true, cond_false, Bool.not_true]
  cases y with
  | false => rfl
  | true =>
    simp only [Bool.not_true, cond_false, Option.bind_some]
    by_cases h : 60 < (p.length : Int)
    · rw [dec_t h]; rfl
    · rw [dec_f h, e1, e2 h, e3, e4 h]
      generalize rowS _ p = R at *
      generalize itemS _ p i = I at *
      obtain ⟨⟨r1, r2, r3, r4⟩, r5⟩ := R
      obtain ⟨⟨i1, i2, i3, i4⟩, i5⟩ := I
      simp only [Option.bind_some, cond_true, cond_false, beq_self_eq_true, q1, q2]
end Go.Proofs.YtefbmooajknmgaaDoor
