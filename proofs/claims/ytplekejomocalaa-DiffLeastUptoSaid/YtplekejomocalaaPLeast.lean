/-
  NO OPERATIONS REACH A ROW MORE CHEAPLY THAN ITS DISTANCE.
-/
import Derived.Test.YtplekejomocalaaPMet
import Derived.Test.YtplekejomocalaaPWt
set_option linter.unusedVariables false
set_option linter.unusedSimpArgs false
namespace Go.Proofs.Ytplekejomocalaa
open Go.Abs

theorem D_self' (x : Nd) : D x x = 0 := D_self _ x (Nat.le_refl _)
theorem Al_self' (a : List Nd) : Al a a 0 := Al_self a fun x _ => D_self' x
theorem Al_append {a b c d : List Nd} {k l : Nat} (h : Al a b k) (h2 : Al c d l) : Al (a ++ c) (b ++ d) (k + l) := by
  induction h with
  | nil => simpa using h2
  | del _ ih => rw [Nat.add_assoc]; exact .del ih
  | ins _ ih => rw [Nat.add_assoc]; exact .ins ih
  | mat hal _ ih => rw [Nat.add_assoc]; exact .mat hal ih
theorem Al_del_all : ∀ a : List Nd, Al a [] (Nd.cnts a)
  | [] => .nil
  | x :: xs => .del (Al_del_all xs)
theorem take3 {α : Type} (l : List α) {p q : Nat} (h : p ≤ q) : (l.take p ++ (l.take q).drop p) ++ l.drop q = l := by
  have : l.take p = (l.take q).take p := by rw [List.take_take, Nat.min_eq_left h]
  rw [this, List.take_append_drop, List.take_append_drop]
theorem DL_splice (l by' : List Nd) {p q k : Nat} (h : p ≤ q) (hk : Al ((l.take q).drop p) by' k) : DL l ((l.take p ++ by') ++ l.drop q) ≤ k := by
  have := Al_append (Al_append (Al_self' (l.take p)) hk) (Al_self' (l.drop q))
  rw [take3 l h] at this
  have := Al_min this
  omega
theorem ws_splice (l by' : List Nd) {p q : Nat} (h : p ≤ q) : Nd.ws ((l.take p ++ by') ++ l.drop q) + Nd.ws ((l.take q).drop p) = Nd.ws l + Nd.ws by' := by
  have := congrArg Nd.ws (take3 l h)
  rw [Nd.ws_append, Nd.ws_append] at this ⊢
  omega
theorem ws_set : ∀ {l : List Nd} {i : Nat} (h : i < l.length) (v : Nd), Nd.ws (l.set i v) + (l[i]).w = Nd.ws l + v.w
  | x :: xs, 0, _, v => by simp only [List.set_cons_zero, Nd.ws, List.getElem_cons_zero]; omega
  | x :: xs, i + 1, h, v => by
    have := ws_set (l := xs) (i := i) (by simpa using h) v
    simp only [List.set_cons_succ, Nd.ws, List.getElem_cons_succ]; omega
theorem sum_set : ∀ {us : List Nd} {j : Nat} (h : j < us.length) (v : Nd), sumD DL us (us.set j v) = DL us[j].kids v.kids
  | x :: xs, 0, _, v => by rw [List.set_cons_zero, sumD, sum_self xs fun u _ => DL_self u.kids]; rfl
  | x :: xs, i + 1, h, v => by
    rw [List.set_cons_succ, sumD, sum_set (us := xs) (j := i) (by simpa using h) v, DL_self]; simp
theorem DL_set {l : List Nd} {i : Nat} (h : i < l.length) (v : Nd) (hal : alikeB l[i] v = true) : DL l (l.set i v) ≤ D l[i] v := by
  have h1 := Al_append (Al_self' (l.take i)) (Al.mat hal (Al_self' (l.drop (i + 1))))
  rw [← List.drop_eq_getElem_cons h, List.take_append_drop] at h1
  have h2 := Al_min h1
  rw [List.set_eq_take_append_cons_drop, if_pos h]
  omega

/- splice -/
theorem splice_eq (l by' : List Nd) (p q : Nat) (hp : p ≤ l.length) (hq : q ≤ l.length) (hl : l.length ≤ 1073741824) (hb : by'.length ≤ 1073741824) :
    m_r12_splice l (p : Int) (q : Int) by' = some ((l.take p ++ by') ++ l.drop q) := by
  unfold m_r12_splice
  dsimp only
  have e1 : (l.take (p : Int).toNat).drop (0 : Int).toNat = l.take p := by simp
  have e2 : (l.take (l.length : Int).toNat).drop (q : Int).toNat = l.drop q := by simp
  rw [e1, e2, req_t ⟨by omega, by omega, by omega⟩, req_t (by simp; omega), req_t (by simp; omega), req_t ⟨by omega, by omega, by omega⟩, req_t (by simp; omega)]
theorem Replaced_eq (t : Nd) (i : Nat) (v : Nd) (h : i < t.kids.length) (hl : t.kids.length ≤ 1073741824) : m_r09_Replaced t (i : Int) v = some (.mk t.kind t.text t.cols (t.kids.set i v)) := by
  obtain ⟨a, b, c, d⟩ := t
  obtain ⟨a', b', c', d'⟩ := v
  simp only [Nd.kids] at h hl
  unfold m_r09_Replaced
  simp only
  rw [req_t (by simp; omega), at_get h]
  rcases e : d[i] with ⟨x1, x2, x3, x4⟩
  simp only [Option.bind_some, Int.toNat_natCast, Nd.kind, Nd.text, Nd.cols, Nd.kids]
theorem filled_eq (t : Nd) (i : Nat) (l : List Nd) (h : i < t.kids.length) (hl : t.kids.length ≤ 1073741824) (hl2 : l.length ≤ 1073741824) : m_r12_filled t (i : Int) l = some (.mk t.kind t.text t.cols (t.kids.set i (.mk 1 [] 0 l))) := by
  have := Replaced_eq t i (.mk 1 [] 0 l) h hl
  obtain ⟨a, b, c, d⟩ := t
  unfold m_r12_filled
  simp only [m_r09_ToRow, Option.bind_some]
  rw [req_t (by simp; omega), this]
  rfl
theorem at_int {α : Type} {l : List α} {i : Int} (h0 : 0 ≤ i) (h1 : i < (l.length : Int)) : ∃ p : Nat, i = (p : Int) ∧ ∃ h : p < l.length, at? l i = some l[p] := by
  obtain ⟨p, rfl⟩ := Int.eq_ofNat_of_zero_le h0
  exact ⟨p, rfl, by omega, at_get (by omega)⟩
theorem w_get {l : List Nd} {i : Nat} (h : i < l.length) : (l[i]).w < Nd.ws l := Nd.w_mem (List.getElem_mem h)
theorem w_kids (t : Nd) : t.w = t.text.length + Nd.ws t.kids + 1 := by cases t; rfl

/- a form of an operation -/
theorem template_eq (n : Nat) (l : List Nd) (slot : Int) (h : Nd.ws l + 50 < n) (hb : Nd.ws l ≤ 67000000) : ∃ b, m_r12_template n l slot = some b ∧ (b = true → ∃ v, l = [v] ∧ 0 ≤ slot ∧ slot < (v.kids.length : Int)) := by
  unfold m_r12_template
  dsimp only
  cases e1 : ((l.length : Int) == 1) with
  | false => exact ⟨false, rfl, fun h => by cases h⟩
  | true =>
    have hl : l.length = 1 := by have := eq_of_beq e1; omega
    obtain ⟨v, rfl⟩ := List.length_eq_one_iff.1 hl
    have hv : m_r09_ValidItems n [v] = some (validB (.mk 1 [] 0 [v])) := by
      unfold m_r09_ValidItems
      simp only [m_r09_ToRow, Option.bind_some]
      rw [r09_Valid_eq n _ (by simp only [Nd.w, List.length_nil]; omega) (by simp only [Nd.w, List.length_nil]; omega)]; rfl
    obtain ⟨a, b, c, d⟩ := v
    have h0 : at? [Nd.mk a b c d] (0 : Int) = some (Nd.mk a b c d) := rfl
    simp only [cond_true, hv, Option.bind_some, h0]
    cases validB (.mk 1 [] 0 [.mk a b c d]) with
    | false => exact ⟨false, rfl, fun h => by cases h⟩
    | true =>
      by_cases h1 : 0 ≤ slot
      · by_cases h2 : slot < (d.length : Int)
        · obtain ⟨p, rfl, hp, hg⟩ := at_int h1 h2
          simp only [cond_true, dec_t h1, dec_t h2, hg, Option.bind_some]
          rcases d[p] with ⟨x1, x2, x3, x4⟩
          exact ⟨_, rfl, fun _ => ⟨_, rfl, h1, h2⟩⟩
        · simp only [cond_true, dec_t h1, dec_f h2]
          exact ⟨false, rfl, fun h => by cases h⟩
      · simp only [cond_true, dec_f h1]
        exact ⟨false, rfl, fun h => by cases h⟩
theorem Formed_eq (n : Nat) (k : Int) (row : List Int) (at' m : Int) (nodes : List Nd) (slot : Int) (old text : List UInt8) (h : Nd.ws nodes + 50 < n) (hb : Nd.ws nodes ≤ 67000000) :
    ∃ b, m_r12_Formed n (k, row, at', m, nodes, slot, old, text) = some b ∧ (b = true → (k = 1 ∨ k = 2 ∨ k = 5) ∨ ((k = 3 ∨ k = 4) ∧ 0 ≤ m ∧ ∃ v, nodes = [v] ∧ 0 ≤ slot ∧ slot < (v.kids.length : Int))) := by
  have hv : m_r09_ValidItems n nodes = some (validB (.mk 1 [] 0 nodes)) := by
    unfold m_r09_ValidItems
    simp only [m_r09_ToRow, Option.bind_some]
    rw [r09_Valid_eq n _ (by simp only [Nd.w, List.length_nil]; omega) (by simp only [Nd.w, List.length_nil]; omega)]; rfl
  obtain ⟨tb, t1, t2⟩ := template_eq n nodes slot h hb
  unfold m_r12_Formed
  simp only [hv, t1, Option.bind_some]
  by_cases k1 : k = 1
  · subst k1
    generalize validB _ = v
    cases decide (0 < (nodes.length : Int)) <;> cases v <;> cases m == 0 <;> cases slot == 0 <;> cases old == [] <;> exact ⟨_, rfl, fun _ => .inl (.inl rfl)⟩
  · by_cases k2 : k = 2
    · subst k2
      generalize validB _ = v
      cases decide (0 < (nodes.length : Int)) <;> cases v <;> cases m == 0 <;> cases slot == 0 <;> cases old == [] <;> exact ⟨_, rfl, fun _ => .inl (.inr (.inl rfl))⟩
    · rw [ne_beq k1, ne_beq k2]
      simp only [cond_false, Option.bind_some]
      by_cases k34 : k = 3 ∨ k = 4
      · have e : (bif (k == 3) then some (k == 3) else some (k == 4) : Option Bool) = some true := by
          rcases k34 with rfl | rfl <;> rfl
        rw [e]
        simp only [Option.bind_some, cond_true]
        by_cases hm : 0 ≤ m
        · rw [dec_t hm]
          cases tb with
          | false => exact ⟨false, rfl, fun h => by cases h⟩
          | true =>
            obtain ⟨v, r1, r2, r3⟩ := t2 rfl
            cases old == [] <;> exact ⟨_, rfl, fun _ => .inr ⟨k34, hm, v, r1, r2, r3⟩⟩
        · rw [dec_f hm]
          exact ⟨false, rfl, fun h => by cases h⟩
      · have e : (bif (k == 3) then some (k == 3) else some (k == 4) : Option Bool) = some false := by
          rw [ne_beq (fun h => k34 (.inl h)), ne_beq (fun h => k34 (.inr h))]; rfl
        rw [e]
        simp only [Option.bind_some, cond_false]
        by_cases k5 : k = 5
        · subst k5
          cases old == text <;> cases ((nodes.length : Int) == 0) <;> cases m == 0 <;> exact ⟨_, rfl, fun _ => .inl (.inr (.inr rfl))⟩
        · rw [ne_beq k5]
          exact ⟨false, rfl, fun h => by cases h⟩

/- a place -/
inductive Sub : Nd → List Int → Nd → Prop
  | nil {t} : Sub t [] t
  | cons {t : Nd} {i j : Nat} {e f r : Nd} {p : List Int} : t.kids[i]? = some e → e.kids[j]? = some f → Sub f p r → Sub t ((i : Int) :: (j : Int) :: p) r
theorem find_loop : ∀ (k : Nat) (t : Nd) (path : List Int), path.length < k → 
    (∃ r, m_r09_find_l1 k t.kind t.text t.cols t.kids path = some (.ret (r, false))) ∨
    ∃ r p, m_r09_find_l1 k t.kind t.text t.cols t.kids path = some (.go (p, r.kind, r.text, r.cols, r.kids)) ∧ (p = [] → Sub t path r)
  | 0, _, _, h => by omega
  | k + 1, t, path, h => by
    unfold m_r09_find_l1
    match path, h with
    | [], h => exact .inr ⟨t, [], rfl, fun _ => .nil⟩
    | [x], h => exact .inr ⟨t, [x], rfl, fun h => by cases h⟩
    | x :: y :: p, h =>
      have e0 : at? (x :: y :: p) (0 : Int) = some x := rfl
      have e1 : at? (x :: y :: p) (1 : Int) = some y := rfl
      have e2 : (((x :: y :: p).take (((x :: y :: p).length : Int)).toNat).drop (2 : Int).toNat) = p := by
        rw [Int.toNat_natCast, List.take_length]; rfl
      rw [dec_t (by simp only [List.length_cons]; omega), cond_true]
      simp only [e0, e1, Option.bind_some, e2]
      by_cases h1 : x < 0
      · rw [dec_t h1]; exact .inl ⟨_, rfl⟩
      · rw [dec_f h1]
        by_cases h2 : (t.kids.length : Int) ≤ x
        · rw [dec_t h2]; exact .inl ⟨_, rfl⟩
        · rw [dec_f h2]
          obtain ⟨i, rfl, hi, hg⟩ := at_int (l := t.kids) (i := x) (by omega) (by omega)
          rw [hg]
          have hgi : t.kids[i]? = some t.kids[i] := List.getElem?_eq_getElem hi
          generalize t.kids[i] = e at hgi
          obtain ⟨x1, x2, x3, x4⟩ := e
          simp only [cond_false, Option.bind_some]
          by_cases h3 : y < 0
          · rw [dec_t h3]; exact .inl ⟨_, rfl⟩
          · rw [dec_f h3]
            by_cases h4 : (x4.length : Int) ≤ y
            · rw [dec_t h4]; exact .inl ⟨_, rfl⟩
            · rw [dec_f h4]
              obtain ⟨j, rfl, hj, hg2⟩ := at_int (l := x4) (i := y) (by omega) (by omega)
              rw [hg2]
              have hgj : x4[j]? = some x4[j] := List.getElem?_eq_getElem hj
              generalize x4[j] = f at hgj
              obtain ⟨y1, y2, y3, y4⟩ := f
              simp only [cond_false, Option.bind_some]
              rw [req_t ⟨by omega, by simp only [List.length_cons]; omega, by omega⟩]
              rcases find_loop k (.mk y1 y2 y3 y4) p (by simp only [List.length_cons] at h; omega) with h5 | ⟨r, q, h5, h6⟩
              · exact .inl h5
              · exact .inr ⟨r, q, h5, fun hq => .cons hgi hgj (h6 hq)⟩
theorem find_eq (n : Nat) (t : Nd) (path : List Int) (h : path.length < n) : ∃ r ok, m_r09_find n t path = some (r, ok) ∧ (ok = true → Sub t path r) := by
  obtain ⟨a, b, c, d⟩ := t
  unfold m_r09_find
  dsimp only
  rcases find_loop n (.mk a b c d) path h with ⟨r, h1⟩ | ⟨r, p, h1, h2⟩
  · simp only [Nd.kind, Nd.text, Nd.cols, Nd.kids] at h1
    rw [h1]
    exact ⟨r, false, rfl, fun h => by cases h⟩
  · obtain ⟨r1, r2, r3, r4⟩ := r
    simp only [Nd.kind, Nd.text, Nd.cols, Nd.kids] at h1
    rw [h1]
    refine ⟨_, _, rfl, fun h => ?_⟩
    have := eq_of_beq h
    exact h2 (List.eq_nil_of_length_eq_zero (by omega))
end Go.Proofs.Ytplekejomocalaa
