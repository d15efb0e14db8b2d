/-
  Joined out of: PMet, PNode, PAlign, PMrg1, PMrg2, PMrg3, PMrg4, PMrg5, PMrg6, PMrg7, PMrg8, PRow, PMrg9, PMrgA, PMrgB.
-/
import Derived.Test.YtgfneloodabafaaDoorZf
set_option linter.unusedVariables false
set_option linter.unusedSimpArgs false
namespace Go.Proofs.YtgfneloodabafaaDoor
open Go.Abs
inductive Al : List Nd → List Nd → Nat → Prop
  | nil : Al [] [] 0
  | del {x xs b k} : Al xs b k → Al (x :: xs) b (x.cnt + k)
  | ins {y a ys k} : Al a ys k → Al a (y :: ys) (y.cnt + k)
  | mat {x y xs ys k} : alikeB x y = true → Al xs ys k → Al (x :: xs) (y :: ys) (D x y + k)
theorem rowD_1 {P : Nd → Nd → Nat} {x y : Nd} {f : List Nd → Nat} {ys : List Nd} : rowD P x f (y :: ys) ≤ x.cnt + f (y :: ys) := by
  simp only [rowD]; split
  · exact Nat.le_trans (Nat.min_le_left _ _) (Nat.min_le_left _ _)
  · exact Nat.min_le_left _ _
theorem rowD_2 {P : Nd → Nd → Nat} {x y : Nd} {f : List Nd → Nat} {ys : List Nd} : rowD P x f (y :: ys) ≤ y.cnt + rowD P x f ys := by
  rw [rowD]; split
  · exact Nat.le_trans (Nat.min_le_left _ _) (Nat.min_le_right _ _)
  · exact Nat.min_le_right _ _
theorem rowD_3 {P : Nd → Nd → Nat} {x y : Nd} {f : List Nd → Nat} {ys : List Nd} (h : alikeB x y = true) : rowD P x f (y :: ys) ≤ P x y + f ys := by
  rw [rowD, if_pos h]; exact Nat.min_le_right _ _
theorem Al_min {a b : List Nd} {k : Nat} (h : Al a b k) : DL a b ≤ k := by
  induction h with
  | nil => exact Nat.le_refl _
  | @del x xs b k _ ih =>
    cases b with
    | nil => exact Nat.add_le_add_left ih _
    | cons y ys => exact Nat.le_trans rowD_1 (Nat.add_le_add_left ih _)
  | @ins y a ys k _ ih =>
    cases a with
    | nil => exact Nat.add_le_add_left ih _
    | cons x xs => exact Nat.le_trans rowD_2 (Nat.add_le_add_left ih _)
  | @mat x y xs ys k hal _ ih => exact Nat.le_trans (rowD_3 hal) (Nat.add_le_add_left ih _)
theorem Al_ins_all : ∀ b : List Nd, Al [] b (Nd.cnts b)
  | [] => .nil
  | y :: ys => .ins (Al_ins_all ys)
theorem Al_row {x : Nd} {xs : List Nd} (h : ∀ b, Al xs b (DL xs b)) : ∀ b, Al (x :: xs) b (rowD D x (DL xs) b)
  | [] => .del (h [])
  | y :: ys => by
    have ih := Al_row (x := x) h ys
    have h1 : Al (x :: xs) (y :: ys) (min (x.cnt + DL xs (y :: ys)) (y.cnt + rowD D x (DL xs) ys)) := by
      rcases Nat.le_total (x.cnt + DL xs (y :: ys)) (y.cnt + rowD D x (DL xs) ys) with g | g
      · rw [Nat.min_eq_left g]; exact .del (h _)
      · rw [Nat.min_eq_right g]; exact .ins ih
    rw [rowD]
    split
    · rename_i hal
      rcases Nat.le_total (min (x.cnt + DL xs (y :: ys)) (y.cnt + rowD D x (DL xs) ys)) (D x y + DL xs ys) with g | g
      · rw [Nat.min_eq_left g]; exact h1
      · rw [Nat.min_eq_right g]; exact .mat hal (h _)
    · exact h1
theorem Al_ex : ∀ a b : List Nd, Al a b (DL a b)
  | [], b => Al_ins_all b
  | x :: xs, b => Al_row (Al_ex xs) b
theorem alike_iff {x y : Nd} : alikeB x y = true ↔ x.kind = y.kind ∧ x.kids.length = y.kids.length ∧ x.cols = y.cols := by
  unfold alikeB
  simp only [Bool.and_eq_true, beq_iff_eq]
  omega
theorem alike_refl (x : Nd) : alikeB x x = true := alike_iff.2 ⟨rfl, rfl, rfl⟩
theorem txt_zero {x y : Nd} : txt x y = 0 ↔ x.text = y.text := by
  unfold txt
  cases e : x.text == y.text with
  | true => simpa using e
  | false => simpa using e
theorem forms_mem {k : Int} : ∀ {a : List Nd} {v : Nd}, formsB k a = true → v ∈ a → formB v = true ∧ ((v.kind == 1) == (k == 1)) = false
  | u :: a, v, h, hm => by
    simp only [formsB, Bool.and_eq_true, Bool.not_eq_true'] at h
    rcases List.mem_cons.1 hm with rfl | hm
    · exact ⟨h.1.2, h.1.1⟩
    · exact forms_mem h.2 hm
theorem form_row {u : Nd} (h : formB u = true) (hk : u.kind = 1) : u = .mk 1 [] 0 u.kids ∧ formsB 1 u.kids = true := by
  obtain ⟨k, t, c, ks⟩ := u
  simp only [Nd.kind] at hk
  subst hk
  simp only [formB, Bool.and_eq_true] at h
  obtain ⟨⟨h1, h2⟩, h3⟩ := h
  have h1' : (t == []) = true := h1
  have h2' : ((c == 0) && decide ((ks.length : Int) ≤ 200)) = true := h2
  simp only [Bool.and_eq_true] at h2'
  rw [eq_of_beq h1', eq_of_beq h2'.1]
  exact ⟨rfl, h3⟩
theorem Al_self : ∀ (a : List Nd), (∀ x ∈ a, D x x = 0) → Al a a 0
  | [], _ => .nil
  | x :: xs, h => by
    have := Al.mat (alike_refl x) (Al_self xs fun x hx => h x (List.mem_cons_of_mem _ hx))
    rwa [h x List.mem_cons_self] at this
theorem sum_self : ∀ (us : List Nd), (∀ u ∈ us, DL u.kids u.kids = 0) → sumD DL us us = 0
  | [], _ => rfl
  | u :: us, h => by rw [sumD, h u List.mem_cons_self, sum_self us fun u hu => h u (List.mem_cons_of_mem _ hu)]
theorem D_self : ∀ (N : Nat) (x : Nd), x.cnt ≤ N → D x x = 0
  | 0, x, h => by have := x.cnt_pos; omega
  | N + 1, x, h => by
    have e1 := x.cnt_kids
    rw [D_eq, txt_zero.2 rfl, sum_self]
    intro u hu
    have e2 := u.cnt_kids
    have e3 := Nd.cnts_mem hu
    exact Nat.le_zero.1 (Al_min (Al_self u.kids fun x' hx' => D_self N x' (by have := Nd.cnts_mem hx'; omega)))
theorem DL_self (a : List Nd) : DL a a = 0 := Nat.le_zero.1 (Al_min (Al_self a fun x _ => D_self _ x (Nat.le_refl _)))
theorem same_loop {F : Nd → Nd → Option Bool} {a b : List Nd} (hF : ∀ u ∈ a, ∀ v ∈ b, ∃ y, F u v = some y ∧ (y = true ↔ u = v)) (hl : a.length = b.length) (hb : a.length ≤ 1073741824) :
    ∀ (q i : Nat), a.length - i < q → i ≤ a.length → ∃ y, m_r09_SameItems_l1 F a b q (i : Int) = some (if y then .go () else .ret false) ∧ (y = true ↔ a.drop i = b.drop i)
  | 0, _, h, _ => by omega
  | q + 1, i, hq, hi => by
    unfold m_r09_SameItems_l1
    by_cases h : i < a.length
    · have h' : i < b.length := by omega
      rw [dec_t (Int.ofNat_lt.2 h), cond_true, at_get h, at_get h']
      obtain ⟨y, f1, f2⟩ := hF _ (List.getElem_mem h) _ (List.getElem_mem h')
      have d1 := List.drop_eq_getElem_cons h
      have d2 := List.drop_eq_getElem_cons h'
      rcases e : a[i] with ⟨x1, x2, x3, x4⟩
      rcases e' : b[i] with ⟨y1, y2, y3, y4⟩
      rw [e, e'] at f1 f2
      rw [e] at d1
      rw [e'] at d2
      simp only [Option.bind_some, f1]
      cases y with
      | false =>
        refine ⟨false, rfl, ⟨(fun h => by cases h), fun h => ?_⟩⟩
        rw [d1, d2] at h
        exact f2.2 (List.cons.inj h).1
      | true =>
        simp only [Bool.not_true, cond_false]
        rw [wi_succ (by omega)]
        obtain ⟨z, g1, g2⟩ := same_loop hF hl hb q (i + 1) (by omega) (by omega)
        refine ⟨z, g1, ?_⟩
        rw [d1, d2, g2, f2.1 rfl]
        simp
    · rw [dec_f (by omega), cond_false]
      obtain rfl : i = a.length := by omega
      refine ⟨true, rfl, ?_⟩
      rw [List.drop_length, hl, List.drop_length]
      simp
theorem Equal_eq : ∀ N : Nat, (∀ x y : Nd, 2 * x.cnt < N → x.cnt ≤ 67108864 → ∃ r, m_r09_Equal N x y = some r ∧ (r = true ↔ x = y)) ∧
    (∀ a b : List Nd, 2 * Nd.cnts a + 1 < N → Nd.cnts a ≤ 67108864 → ∃ r, m_r09_SameItems N a b = some r ∧ (r = true ↔ a = b))
  | 0 => ⟨fun _ _ h _ => by omega, fun _ _ h _ => by omega⟩
  | n + 1 => by
    obtain ⟨ih1, ih2⟩ := Equal_eq n
    refine ⟨fun x y h hx => ?_, fun a b h ha => ?_⟩
    · obtain ⟨a, b, c, d⟩ := x
      obtain ⟨a', b', c', d'⟩ := y
      simp only [Nd.cnt] at h hx
      obtain ⟨r, h1, h2⟩ := ih2 d d' (by omega) (by omega)
      unfold m_r09_Equal
      simp only [h1, Option.bind_some]
      cases e1 : a == a' with
      | false => exact ⟨false, rfl, ⟨(fun h => by cases h), fun h => by cases h; simp at e1⟩⟩
      | true =>
        cases e2 : b == b' with
        | false => exact ⟨false, rfl, ⟨(fun h => by cases h), fun h => by cases h; simp at e2⟩⟩
        | true =>
          cases e3 : c == c' with
          | false => exact ⟨false, rfl, ⟨(fun h => by cases h), fun h => by cases h; simp at e3⟩⟩
          | true =>
            refine ⟨r, rfl, h2.trans ⟨fun h => ?_, fun h => by cases h; rfl⟩⟩
            rw [eq_of_beq e1, eq_of_beq e2, eq_of_beq e3, h]
    · unfold m_r09_SameItems
      have l1 := Nd.cnts_len a
      by_cases hl : a.length = b.length
      · obtain ⟨y, g1, g2⟩ := same_loop (F := m_r09_Equal n) (a := a) (b := b) (fun u hu v _ => ih1 u v (by have := Nd.cnts_mem hu; omega) (by have := Nd.cnts_mem hu; omega)) hl (by omega) n 0 (by omega) (by omega)
        rw [show ((0 : Nat) : Int) = 0 from rfl] at g1
        rw [hl, bne_self_eq_false, cond_false, g1]
        refine ⟨y, by cases y <;> rfl, g2⟩
      · have : ((a.length : Int) != (b.length : Int)) = true := by
          unfold bne
          rw [ne_beq (by omega)]; rfl
        rw [this]
        exact ⟨false, rfl, ⟨(fun h => by cases h), fun h => absurd (congrArg List.length h) hl⟩⟩
theorem valid_row {x : Nd} (h : validB x = true) : x = .mk 1 [] 0 x.kids ∧ formsB 1 x.kids = true := by
  unfold validB at h
  simp only [Bool.and_eq_true] at h
  exact form_row h.2.1 (eq_of_beq h.1)
end Go.Proofs.YtgfneloodabafaaDoor
namespace Go.Proofs.YtgfneloodabafaaDoor
open Go.Abs
theorem nsame_loop {F : Nd → Nd → Option Bool} {a b : List Nd} (hF : ∀ u ∈ a, ∀ v ∈ b, ∃ y, F u v = some y ∧ (y = true ↔ u = v)) (hl : a.length = b.length) (hb : a.length ≤ 1073741824) :
    ∀ (q i : Nat), a.length - i < q → i ≤ a.length → ∃ y, m_slices_EqualFunc_sNode_l1 F a b q (i : Int) = some (if y then .go () else .ret false) ∧ (y = true ↔ a.drop i = b.drop i)
  | 0, _, h, _ => by omega
  | q + 1, i, hq, hi => by
    unfold m_slices_EqualFunc_sNode_l1
    by_cases h : i < a.length
    · have h' : i < b.length := by omega
      rw [dec_t (Int.ofNat_lt.2 h), cond_true, at_get h, at_get h']
      obtain ⟨y, f1, f2⟩ := hF _ (List.getElem_mem h) _ (List.getElem_mem h')
      have d1 := List.drop_eq_getElem_cons h
      have d2 := List.drop_eq_getElem_cons h'
      rcases e : a[i] with ⟨x1, x2, x3, x4⟩
      rcases e' : b[i] with ⟨y1, y2, y3, y4⟩
      rw [e, e'] at f1 f2
      rw [e] at d1
      rw [e'] at d2
      simp only [Option.bind_some, f1]
      cases y with
      | false =>
        refine ⟨false, rfl, ⟨(fun h => by cases h), fun h => ?_⟩⟩
        rw [d1, d2] at h
        exact f2.2 (List.cons.inj h).1
      | true =>
        simp only [Bool.not_true, cond_false]
        rw [wi_succ (by omega)]
        obtain ⟨z, g1, g2⟩ := nsame_loop hF hl hb q (i + 1) (by omega) (by omega)
        refine ⟨z, g1, ?_⟩
        rw [d1, d2, g2, f2.1 rfl]
        simp
    · rw [dec_f (by omega), cond_false]
      obtain rfl : i = a.length := by omega
      refine ⟨true, rfl, ?_⟩
      rw [List.drop_length, hl, List.drop_length]
      simp
theorem node_Equal_eq : ∀ N : Nat, (∀ x y : Nd, 2 * x.cnt < N → x.cnt ≤ 67108864 → ∃ r, m_node_Equal N x y = some r ∧ (r = true ↔ x = y)) ∧
    (∀ a b : List Nd, 2 * Nd.cnts a + 1 < N → Nd.cnts a ≤ 67108864 → ∃ r, m_slices_EqualFunc_sNode N a b = some r ∧ (r = true ↔ a = b))
  | 0 => ⟨fun _ _ h _ => by omega, fun _ _ h _ => by omega⟩
  | n + 1 => by
    obtain ⟨ih1, ih2⟩ := node_Equal_eq n
    refine ⟨fun x y h hx => ?_, fun a b h ha => ?_⟩
    · obtain ⟨a, b, c, d⟩ := x
      obtain ⟨a', b', c', d'⟩ := y
      simp only [Nd.cnt] at h hx
      obtain ⟨r, h1, h2⟩ := ih2 d d' (by omega) (by omega)
      unfold m_node_Equal
      simp only [h1, Option.bind_some]
      cases e1 : a == a' with
      | false => exact ⟨false, rfl, ⟨(fun h => by cases h), fun h => by cases h; simp at e1⟩⟩
      | true =>
        cases e2 : b == b' with
        | false => exact ⟨false, rfl, ⟨(fun h => by cases h), fun h => by cases h; simp at e2⟩⟩
        | true =>
          cases e3 : c == c' with
          | false => exact ⟨false, rfl, ⟨(fun h => by cases h), fun h => by cases h; simp at e3⟩⟩
          | true =>
            refine ⟨r, rfl, h2.trans ⟨fun h => ?_, fun h => by cases h; rfl⟩⟩
            rw [eq_of_beq e1, eq_of_beq e2, eq_of_beq e3, h]
    · unfold m_slices_EqualFunc_sNode
      have l1 := Nd.cnts_len a
      by_cases hl : a.length = b.length
      · obtain ⟨y, g1, g2⟩ := nsame_loop (F := m_node_Equal n) (a := a) (b := b) (fun u hu v _ => ih1 u v (by have := Nd.cnts_mem hu; omega) (by have := Nd.cnts_mem hu; omega)) hl (by omega) n 0 (by omega) (by omega)
        rw [show ((0 : Nat) : Int) = 0 from rfl] at g1
        rw [hl, bne_self_eq_false, cond_false, g1]
        refine ⟨y, by cases y <;> rfl, g2⟩
      · have : ((a.length : Int) != (b.length : Int)) = true := by
          unfold bne
          rw [ne_beq (by omega)]; rfl
        rw [this]
        exact ⟨false, rfl, ⟨(fun h => by cases h), fun h => absurd (congrArg List.length h) hl⟩⟩
theorem nmax_def (a b : Nat) : Nat.max a b = if a ≤ b then b else a := rfl
theorem deps_mem : ∀ {ks : List Nd} {v : Nd}, v ∈ ks → v.dep ≤ Nd.deps ks
  | u :: ks, v, h => by
    simp only [Nd.deps, nmax_def]
    rcases List.mem_cons.1 h with rfl | h
    · split <;> omega
    · have := deps_mem h; split <;> omega
end Go.Proofs.YtgfneloodabafaaDoor
namespace Go.Proofs.YtgfneloodabafaaDoor
open Go.Abs
def alignP : Nat → Nat → Nat → List Nd → List Nd → List (Nat × Nat)
  | k + 1, i, j, x :: xs, y :: ys =>
    bif alikeB x y && (DL (x :: xs) (y :: ys) == DL xs ys + D x y) then (i, j) :: alignP k (i + 1) (j + 1) xs ys
    else bif (DL (x :: xs) (y :: ys) == DL xs (y :: ys) + x.cnt) && (!(DL (x :: xs) (y :: ys) == DL (x :: xs) ys + y.cnt) || Op.bytesLess (dumpL x) (dumpL y)) then alignP k (i + 1) j xs (y :: ys)
    else alignP k i (j + 1) (x :: xs) ys
  | _, _, _, _, _ => []
theorem nat_beq_cast (a b : Nat) : ((a : Int) == (b : Int)) = (a == b) := by
  by_cases h : a = b
  · subst h; simp
  · rw [beq_eq_false_iff_ne.2 h, beq_eq_false_iff_ne.2 (by omega)]
theorem tab_at (P : Nd → Nd → Nat) (b : List Nd) : ∀ (a : List Nd) (i : Nat), i ≤ a.length → at? (tabD P a b) (i : Int) = some (sufs (TD P (a.drop i)) b)
  | [], 0, _ => rfl
  | [], i + 1, h => by simp at h
  | x :: xs, 0, _ => rfl
  | x :: xs, i + 1, h => by
    have := tab_at P b xs i (by simpa using h)
    unfold at? at this ⊢
    rw [if_pos (by omega)] at this ⊢
    simp only [Int.toNat_natCast] at this ⊢
    simpa [tabD] using this
theorem sufs_at (f : List Nd → Nat) : ∀ (b : List Nd) (j : Nat), j ≤ b.length → at? (sufs f b) (j : Int) = some (f (b.drop j) : Int)
  | [], 0, _ => rfl
  | [], j + 1, h => by simp at h
  | y :: ys, 0, _ => rfl
  | y :: ys, j + 1, h => by
    have := sufs_at f ys j (by simpa using h)
    unfold at? at this ⊢
    rw [if_pos (by omega)] at this ⊢
    simp only [Int.toNat_natCast] at this ⊢
    simpa [sufs] using this
theorem map_at {α β : Type} (f : α → β) {l : List α} {i : Nat} (h : i < l.length) : at? (l.map f) (i : Int) = some (f l[i]) := by
  rw [at_get (by simpa using h)]; simp
def cast2 (p : Nat × Nat) : Int × Int := ((p.1 : Int), (p.2 : Int))
theorem align_loop (n : Nat) {a b : List Nd} (ha : Nd.cnts a ≤ 1000000) (hb : Nd.cnts b ≤ 1000000) (hwa : ∀ x ∈ a, 2 * x.w < n ∧ x.w ≤ 16777216 ∧ x.rng) (hwb : ∀ x ∈ b, 2 * x.w < n ∧ x.w ≤ 16777216 ∧ x.rng) :
    ∀ (k i j : Nat) (l : List (Int × Int)), (a.length - i) + (b.length - j) < k → i ≤ a.length → j ≤ b.length → l.length ≤ i →
      m_diff_align_l1 n a b (tabD D a b) (a.map fun x => b.map (prI x)) (a.map cntI) (b.map cntI) k (i : Int) (j : Int) l = some (l ++ (alignP k i j (a.drop i) (b.drop j)).map cast2)
  | 0, _, _, _, h, _, _, _ => by omega
  | k + 1, i, j, l, hk, hi, hj, hl => by
    have la := Nd.cnts_len a
    have lb := Nd.cnts_len b
    unfold m_diff_align_l1
    by_cases hia : i < a.length
    · rw [dec_t (Int.ofNat_lt.2 hia), cond_true]
      by_cases hjb : j < b.length
      · rw [dec_t (Int.ofNat_lt.2 hjb), Option.bind_some, cond_true]
        have hda := List.drop_eq_getElem_cons hia
        have hdb := List.drop_eq_getElem_cons hjb
        have ca := Nd.cnts_drop hia
        have cb := Nd.cnts_drop hjb
        obtain ⟨x1, x2, x3⟩ := hwa _ (List.getElem_mem hia)
        obtain ⟨y1, y2, y3⟩ := hwb _ (List.getElem_mem hjb)
        have ca' : Nd.cnts (a.drop i) ≤ Nd.cnts a := by
          have := Nd.cnts_append (a.take i) (a.drop i); rw [List.take_append_drop] at this; omega
        have cb' : Nd.cnts (b.drop j) ≤ Nd.cnts b := by
          have := Nd.cnts_append (b.take j) (b.drop j); rw [List.take_append_drop] at this; omega
        have b1 := TD_le (P := D) (a.drop i) (b.drop j)
        have b2 := TD_le (P := D) (a.drop (i + 1)) (b.drop j)
        have b3 := TD_le (P := D) (a.drop i) (b.drop (j + 1))
        have b4 := TD_le (P := D) (a.drop (i + 1)) (b.drop (j + 1))
        have b5 := D_le a[i] b[j]
        have t1 := tab_at D b a i (by omega)
        have t2 := tab_at D b a (i + 1) (by omega)
        have s1 := sufs_at (TD D (a.drop i)) b j (by omega)
        have s2 := sufs_at (TD D (a.drop (i + 1))) b j (by omega)
        have s3 := sufs_at (TD D (a.drop i)) b (j + 1) (by omega)
        have s4 := sufs_at (TD D (a.drop (i + 1))) b (j + 1) (by omega)
        have p1 := map_at (fun x => b.map (prI x)) hia
        have p2 := map_at (prI a[i]) hjb
        have c1 := map_at cntI hia
        have c2 := map_at cntI hjb
        have d1 := node_Dump_eq n a[i] x1 x2 x3
        have d2 := node_Dump_eq n b[j] y1 y2 y3
        rw [wi_succ (by omega), wi_succ (by omega)]
        simp only [t1, t2, s1, s2, s3, s4, p1, p2, c1, c2, Option.bind_some, at_get hia, at_get hjb]
        have hx : (bif decide (0 ≤ prI a[i] b[j]) then some ((TD D (a.drop i) (b.drop j) : Int) == IntKind.i64.wrap ((TD D (a.drop (i + 1)) (b.drop (j + 1)) : Int) + prI a[i] b[j])) else some false : Option Bool) = some (alikeB a[i] b[j] && (DL (a[i] :: a.drop (i + 1)) (b[j] :: b.drop (j + 1)) == DL (a.drop (i + 1)) (b.drop (j + 1)) + D a[i] b[j])) := by
          unfold prI
          cases hal : alikeB a[i] b[j] with
          | false => rfl
          | true =>
            rw [cond_true, dec_t (by omega), cond_true, wrap64_in (by omega) (by omega), ← Int.natCast_add, nat_beq_cast, ← hda, ← hdb]; rfl
        rw [hx, Option.bind_some, hda, hdb, alignP]
        cases alikeB a[i] b[j] && (DL (a[i] :: a.drop (i + 1)) (b[j] :: b.drop (j + 1)) == DL (a.drop (i + 1)) (b.drop (j + 1)) + D a[i] b[j]) with
        | true =>
          simp only [cond_true]
          rw [req_t (by simp; omega), align_loop n ha hb hwa hwb k (i + 1) (j + 1) _ (by omega) (by omega) (by omega) (by simp; omega)]
          simp [cast2]
        | false =>
          simp only [cond_false]
          rw [← hda, ← hdb, cntI, wrap64_in (by omega) (by omega), ← Int.natCast_add, nat_beq_cast, cntI, wrap64_in (by omega) (by omega), ← Int.natCast_add, nat_beq_cast]
          have hz : ∀ X : Option Bool, X = some ((DL (a.drop i) (b.drop j) == DL (a.drop (i + 1)) (b.drop j) + a[i].cnt) && (!(DL (a.drop i) (b.drop j) == DL (a.drop i) (b.drop (j + 1)) + b[j].cnt) || Op.bytesLess (dumpL a[i]) (dumpL b[j]))) → ∀ K : Bool → Option (List (Int × Int)), X.bind K = K ((DL (a.drop i) (b.drop j) == DL (a.drop (i + 1)) (b.drop j) + a[i].cnt) && (!(DL (a.drop i) (b.drop j) == DL (a.drop i) (b.drop (j + 1)) + b[j].cnt) || Op.bytesLess (dumpL a[i]) (dumpL b[j]))) := fun X h K => by rw [h]; rfl
          refine (hz _ ?_ _).trans ?_
          · have key : ∀ (p q r : Bool), (bif p then (bif !q then some true else some r) else some false : Option Bool) = some (p && (!q || r)) := by intro p q r; cases p <;> cases q <;> rfl
            rcases e : a[i] with ⟨e1, e2, e3, e4⟩
            rcases e' : b[j] with ⟨f1, f2, f3, f4⟩
            rw [e] at d1
            rw [e'] at d2
            simp only [d1, d2, Option.bind_some]
            exact key _ _ _
          cases ((DL (a.drop i) (b.drop j) == DL (a.drop (i + 1)) (b.drop j) + a[i].cnt) && (!(DL (a.drop i) (b.drop j) == DL (a.drop i) (b.drop (j + 1)) + b[j].cnt) || Op.bytesLess (dumpL a[i]) (dumpL b[j]))) with
          | true =>
            simp only [cond_true]
            rw [align_loop n ha hb hwa hwb k (i + 1) j _ (by omega) (by omega) (by omega) (by omega)]
          | false =>
            simp only [cond_false]
            rw [align_loop n ha hb hwa hwb k i (j + 1) _ (by omega) (by omega) (by omega) (by omega)]
      · rw [dec_f (by omega), Option.bind_some, cond_false]
        obtain rfl : j = b.length := by omega
        rw [List.drop_length]
        cases a.drop i <;> simp [alignP]
    · rw [dec_f (by omega), cond_false, Option.bind_some, cond_false]
      obtain rfl : i = a.length := by omega
      rw [List.drop_length]
      simp [alignP]
theorem alignP_len : ∀ (k i j : Nat) (a b : List Nd), (alignP k i j a b).length ≤ a.length
  | 0, _, _, _, _ => by simp [alignP]
  | k + 1, i, j, [], _ => by simp [alignP]
  | k + 1, i, j, _ :: _, [] => by simp [alignP]
  | k + 1, i, j, x :: xs, y :: ys => by
    have h1 := alignP_len k (i + 1) (j + 1) xs ys
    have h2 := alignP_len k (i + 1) j xs (y :: ys)
    have h3 := alignP_len k i (j + 1) (x :: xs) ys
    simp only [alignP]
    cases alikeB x y && (DL (x :: xs) (y :: ys) == DL xs ys + D x y) <;> cases (DL (x :: xs) (y :: ys) == DL xs (y :: ys) + x.cnt) && (!(DL (x :: xs) (y :: ys) == DL (x :: xs) ys + y.cnt) || Op.bytesLess (dumpL x) (dumpL y)) <;>
      simp only [cond_true, cond_false, List.length_cons] at * <;> omega
theorem kids_w {t x : Nd} (h : x ∈ t.kids) : x.w < t.w := by
  have := Nd.w_mem h
  have e : t.w = t.text.length + Nd.ws t.kids + 1 := by cases t; rfl
  omega
theorem kids_rng {t x : Nd} (hr : t.rng) (h : x ∈ t.kids) : x.rng := by
  obtain ⟨a, b, c, ks⟩ := t
  exact Nd.rng_mem hr.2.2 h
theorem Align_eq (n : Nat) (a b : Nd) (h : 4 * a.w + 4 * b.w + 100 < n) (ha : a.w ≤ 1048576) (hb : b.w ≤ 1048576) (ca : a.cnt ≤ 120) (cb : b.cnt ≤ 120) (ra : a.rng) (rb : b.rng) :
    m_diff_Align n a b = some (bif validB a && validB b then ((alignP n 0 0 a.kids b.kids).map cast2, 0) else ([], 1)) := by
  have e1 := diff_valid_eq n a b (by omega) (by omega) (by omega) (by omega)
  have c1 := Nd.cnt_w a
  have c2 := Nd.cnt_w b
  have k1 := a.cnt_kids
  have k2 := b.cnt_kids
  have l1 := Nd.cnts_len a.kids
  have l2 := Nd.cnts_len b.kids
  have e2 := (fill_eq n).2 a.kids b.kids (by omega) (by omega) (by omega)
  have e3 := align_loop n (a := a.kids) (b := b.kids) (by omega) (by omega) (fun x hx => by have := kids_w hx; exact ⟨by omega, by omega, kids_rng ra hx⟩) (fun x hx => by have := kids_w hx; exact ⟨by omega, by omega, kids_rng rb hx⟩) n 0 0 [] (by omega) (by omega) (by omega) (by simp)
  rw [show ((0 : Nat) : Int) = 0 from rfl, List.drop_zero, List.drop_zero, List.nil_append] at e3
  obtain ⟨a1, a2, a3, a4⟩ := a
  obtain ⟨b1, b2, b3, b4⟩ := b
  simp only [Nd.kids] at e2 e3
  unfold m_diff_Align m_diff_align
  simp only [e1, e2, e3, Option.bind_some]
  cases validB (.mk a1 a2 a3 a4) && validB (.mk b1 b2 b3 b4) <;> rfl
theorem DL_opt (x y : Nd) (xs ys : List Nd) : (alikeB x y = true ∧ DL (x :: xs) (y :: ys) = DL xs ys + D x y) ∨ DL (x :: xs) (y :: ys) = DL xs (y :: ys) + x.cnt ∨ DL (x :: xs) (y :: ys) = DL (x :: xs) ys + y.cnt := by
  have h : DL (x :: xs) (y :: ys) = if alikeB x y then min (min (x.cnt + DL xs (y :: ys)) (y.cnt + DL (x :: xs) ys)) (D x y + DL xs ys) else min (x.cnt + DL xs (y :: ys)) (y.cnt + DL (x :: xs) ys) := rfl
  split at h
  · rename_i ha
    simp only [Nat.min_def] at h
    repeat' split at h
    · right; left; omega
    · left; exact ⟨ha, by omega⟩
    · right; right; omega
    · left; exact ⟨ha, by omega⟩
  · simp only [Nat.min_def] at h
    split at h
    · right; left; omega
    · right; right; omega
end Go.Proofs.YtgfneloodabafaaDoor
namespace Go.Proofs.YtgfneloodabafaaDoor
open Go.Abs
theorem alignP_in : ∀ (k i j : Nat) (a b : List Nd), ∀ u ∈ alignP k i j a b, ∃ s t x y, u = (i + s, j + t) ∧ a[s]? = some x ∧ b[t]? = some y ∧ alikeB x y = true
  | 0, i, j, a, b, u, h => by unfold alignP at h; cases h
  | k + 1, i, j, [], b, u, h => by unfold alignP at h; cases h
  | k + 1, i, j, x :: xs, [], u, h => by unfold alignP at h; cases h
  | k + 1, i, j, x :: xs, y :: ys, u, h => by
    unfold alignP at h
    cases h1 : (alikeB x y && (DL (x :: xs) (y :: ys) == DL xs ys + D x y)) with
    | true =>
      rw [h1, cond_true] at h
      rcases List.mem_cons.1 h with rfl | h
      · exact ⟨0, 0, x, y, rfl, rfl, rfl, (Bool.and_eq_true _ _ ▸ h1).1⟩
      · obtain ⟨s, t, x', y', rfl, h2, h3, h4⟩ := alignP_in k (i + 1) (j + 1) xs ys u h
        exact ⟨s + 1, t + 1, x', y', by rw [Nat.add_assoc, Nat.add_comm 1, Nat.add_assoc j, Nat.add_comm 1], h2, h3, h4⟩
    | false =>
      rw [h1, cond_false] at h
      generalize ((DL (x :: xs) (y :: ys) == DL xs (y :: ys) + x.cnt) && (!(DL (x :: xs) (y :: ys) == DL (x :: xs) ys + y.cnt) || Op.bytesLess (dumpL x) (dumpL y))) = c at h
      cases c with
      | true =>
        obtain ⟨s, t, x', y', rfl, h2, h3, h4⟩ := alignP_in k (i + 1) j xs (y :: ys) u h
        exact ⟨s + 1, t, x', y', by rw [Nat.add_assoc, Nat.add_comm 1], h2, h3, h4⟩
      | false =>
        obtain ⟨s, t, x', y', rfl, h2, h3, h4⟩ := alignP_in k i (j + 1) (x :: xs) ys u h
        exact ⟨s, t + 1, x', y', by rw [Nat.add_assoc j, Nat.add_comm 1], h2, h3, h4⟩
theorem alignP_sorted : ∀ (k i j : Nat) (a b : List Nd), (alignP k i j a b).Pairwise fun u v => u.1 < v.1 ∧ u.2 < v.2
  | 0, i, j, a, b => by unfold alignP; exact .nil
  | k + 1, i, j, [], b => by unfold alignP; exact .nil
  | k + 1, i, j, x :: xs, [] => by unfold alignP; exact .nil
  | k + 1, i, j, x :: xs, y :: ys => by
    unfold alignP
    cases h1 : (alikeB x y && (DL (x :: xs) (y :: ys) == DL xs ys + D x y)) with
    | true =>
      rw [cond_true]
      refine .cons (fun u hu => ?_) (alignP_sorted k (i + 1) (j + 1) xs ys)
      obtain ⟨s, t, _, _, rfl, _⟩ := alignP_in k (i + 1) (j + 1) xs ys u hu
      dsimp only
      omega
    | false =>
      rw [cond_false]
      generalize ((DL (x :: xs) (y :: ys) == DL xs (y :: ys) + x.cnt) && (!(DL (x :: xs) (y :: ys) == DL (x :: xs) ys + y.cnt) || Op.bytesLess (dumpL x) (dumpL y))) = c
      cases c with
      | true => exact alignP_sorted k (i + 1) j xs (y :: ys)
      | false => exact alignP_sorted k i (j + 1) (x :: xs) ys
theorem Al_app {a b a' b' : List Nd} {k l : Nat} (h : Al a b k) (h' : Al a' b' l) : Al (a ++ a') (b ++ b') (k + l) := by
  induction h with
  | nil => simpa using h'
  | del h ih => rw [List.cons_append, Nat.add_assoc]; exact .del ih
  | ins h ih => rw [List.cons_append, Nat.add_assoc]; exact .ins ih
  | mat ha h ih => rw [List.cons_append, List.cons_append, Nat.add_assoc]; exact .mat ha ih
theorem DL_app (a b a' b' : List Nd) : DL (a ++ a') (b ++ b') ≤ DL a b + DL a' b' := Al_min (Al_app (Al_ex a b) (Al_ex a' b'))
theorem DL_mat {x y : Nd} (h : alikeB x y = true) (xs ys : List Nd) : DL (x :: xs) (y :: ys) ≤ D x y + DL xs ys := Al_min (.mat h (Al_ex xs ys))
theorem DL_del (x : Nd) (xs ys : List Nd) : DL (x :: xs) ys ≤ x.cnt + DL xs ys := Al_min (.del (Al_ex xs ys))
theorem DL_ins (y : Nd) (xs ys : List Nd) : DL xs (y :: ys) ≤ y.cnt + DL xs ys := Al_min (.ins (Al_ex xs ys))
theorem DL_nil : DL [] [] = 0 := rfl
theorem align_split : ∀ (k i j : Nat) (a b : List Nd) (s t : Nat), (i + s, j + t) ∈ alignP k i j a b → ∃ x y, a[s]? = some x ∧ b[t]? = some y ∧ alikeB x y = true ∧
    DL (a.take s) (b.take t) + D x y + DL (a.drop (s + 1)) (b.drop (t + 1)) ≤ DL a b
  | 0, i, j, a, b, s, t, h => by unfold alignP at h; cases h
  | k + 1, i, j, [], b, s, t, h => by unfold alignP at h; cases h
  | k + 1, i, j, x :: xs, [], s, t, h => by unfold alignP at h; cases h
  | k + 1, i, j, x :: xs, y :: ys, s, t, h => by
    unfold alignP at h
    cases h1 : (alikeB x y && (DL (x :: xs) (y :: ys) == DL xs ys + D x y)) with
    | true =>
      rw [h1, cond_true] at h
      simp only [Bool.and_eq_true, beq_iff_eq] at h1
      rcases List.mem_cons.1 h with e | h
      · have e1 := (Prod.mk.inj e).1
        have e2 := (Prod.mk.inj e).2
        obtain rfl : s = 0 := by omega
        obtain rfl : t = 0 := by omega
        refine ⟨x, y, rfl, rfl, h1.1, ?_⟩
        simp only [List.take_zero, List.drop_succ_cons, List.drop_zero, DL_nil]
        omega
      · obtain ⟨s', t', _, _, e, _⟩ := alignP_in k (i + 1) (j + 1) xs ys _ h
        have e1 := (Prod.mk.inj e).1
        have e2 := (Prod.mk.inj e).2
        obtain rfl : s = s' + 1 := by omega
        obtain rfl : t = t' + 1 := by omega
        rw [show i + (s' + 1) = i + 1 + s' by omega, show j + (t' + 1) = j + 1 + t' by omega] at h
        obtain ⟨x', y', g1, g2, g3, g4⟩ := align_split k (i + 1) (j + 1) xs ys s' t' h
        refine ⟨x', y', g1, g2, g3, ?_⟩
        simp only [List.take_succ_cons, List.drop_succ_cons]
        have := DL_mat h1.1 (xs.take s') (ys.take t')
        omega
    | false =>
      rw [h1, cond_false] at h
      cases hc : ((DL (x :: xs) (y :: ys) == DL xs (y :: ys) + x.cnt) && (!(DL (x :: xs) (y :: ys) == DL (x :: xs) ys + y.cnt) || Op.bytesLess (dumpL x) (dumpL y))) with
      | true =>
        rw [hc, cond_true] at h
        simp only [Bool.and_eq_true, beq_iff_eq] at hc
        obtain ⟨s', t', _, _, e, _⟩ := alignP_in k (i + 1) j xs (y :: ys) _ h
        have e1 := (Prod.mk.inj e).1
        have e2 := (Prod.mk.inj e).2
        obtain rfl : s = s' + 1 := by omega
        rw [show i + (s' + 1) = i + 1 + s' by omega] at h
        obtain ⟨x', y', g1, g2, g3, g4⟩ := align_split k (i + 1) j xs (y :: ys) s' t h
        refine ⟨x', y', g1, g2, g3, ?_⟩
        simp only [List.take_succ_cons, List.drop_succ_cons]
        have := DL_del x (xs.take s') ((y :: ys).take t)
        simp only [List.drop_succ_cons] at g4
        omega
      | false =>
        rw [hc, cond_false] at h
        have hr : DL (x :: xs) (y :: ys) = DL (x :: xs) ys + y.cnt := by
          rcases DL_opt x y xs ys with ⟨g1, g2⟩ | g | g
          · rw [g1, g2, beq_self_eq_true] at h1; cases h1
          · rw [g, beq_self_eq_true, Bool.true_and] at hc
            cases hq : (DL xs (y :: ys) + x.cnt == DL (x :: xs) ys + y.cnt) with
            | true => rw [g]; exact eq_of_beq hq
            | false => rw [hq] at hc; cases hc
          · exact g
        obtain ⟨s', t', _, _, e, _⟩ := alignP_in k i (j + 1) (x :: xs) ys _ h
        have e1 := (Prod.mk.inj e).1
        have e2 := (Prod.mk.inj e).2
        obtain rfl : t = t' + 1 := by omega
        rw [show j + (t' + 1) = j + 1 + t' by omega] at h
        obtain ⟨x', y', g1, g2, g3, g4⟩ := align_split k i (j + 1) (x :: xs) ys s t' h
        refine ⟨x', y', g1, g2, g3, ?_⟩
        simp only [List.take_succ_cons, List.drop_succ_cons]
        have := DL_ins y ((x :: xs).take s) (ys.take t')
        simp only [List.drop_succ_cons] at g4
        omega
end Go.Proofs.YtgfneloodabafaaDoor
namespace Go.Proofs.YtgfneloodabafaaDoor
open Go.Abs
abbrev Cf := List Int × Int × Int × List Nd × List Nd
def rowK (l : List Nd) : Nd := .mk 1 [] 0 l
def cutK (l : List Nd) (p q : Nat) : List Nd := (l.take q).drop p
def parK (l : List (Nat × Nat)) (i : Nat) : Option Nat := (l.find? fun u => u.1 == i).map (·.2)
def pairsK (a b : List Nd) : List (Nat × Nat) := alignP (a.length + b.length + 1) 0 0 a b
def keptK (n : Nat) (px py : List (Nat × Nat)) : List (Nat × Nat × Nat) := (List.range n).filterMap fun i => (parK px i).bind fun p => (parK py i).map fun q => (i, p, q)
def pickK (side : Int) (b x y : List Nd) : List Nd := if side = 0 then b else if side = 1 then x else y
open Classical in
noncomputable def partK (side : Int) (path : List Int) (i : Nat) (b x y : List Nd) : List Nd × List Cf :=
  if x = b then (y, []) else if y = b ∨ y = x then (x, []) else (pickK side b x y, [(path, (i : Int), (i : Int) + b.length, x, y)])
def appK (u v : List Nd × List Cf) : List Nd × List Cf := (u.1 ++ v.1, u.2 ++ v.2)
abbrev RowF := List Int → List Nd → List Nd → List Nd → List Nd × List Cf
noncomputable def slotsK (F : RowF) (path : List Int) (i : Nat) : Nat → List Nd → List Nd → List Nd → List Nd × List Cf
  | s, b :: bs, x :: xs, y :: ys => let r := F (path ++ [(i : Int), (s : Int)]) b.kids x.kids y.kids; let t := slotsK F path i (s + 1) bs xs ys; (rowK r.1 :: t.1, r.2 ++ t.2)
  | _, _, _, _ => ([], [])
noncomputable def itemK (F : RowF) (side : Int) (path : List Int) (i : Nat) (b x y : Nd) : List Nd × List Cf :=
  let go := fun t => let r := slotsK F path i 0 b.kids x.kids y.kids; ([Nd.mk b.kind t b.cols r.1], r.2)
  if x.text = b.text then go y.text else if y.text = b.text ∨ y.text = x.text then go x.text else (pickK side [b] [x] [y], [(path, (i : Int), (i : Int) + 1, [x], [y])])
noncomputable def walkK (F : RowF) (side : Int) (path : List Int) (b x y : List Nd) : Nat → Nat → Nat → List (Nat × Nat × Nat) → List Nd × List Cf
  | i, j, k, [] => partK side path i (b.drop i) (x.drop j) (y.drop k)
  | i, j, k, (n, p, q) :: r => appK (partK side path i (cutK b i n) (cutK x j p) (cutK y k q)) (appK (itemK F side path n (b.getD n (rowK [])) (x.getD p (rowK [])) (y.getD q (rowK []))) (walkK F side path b x y (n + 1) (p + 1) (q + 1) r))
noncomputable def rowM : Nat → Int → RowF
  | 0, _, _, _, _, _ => ([], [])
  | N + 1, side, path, b, x, y => walkK (rowM N side) side path b x y 0 0 0 (keptK b.length (pairsK b x) (pairsK b y))
end Go.Proofs.YtgfneloodabafaaDoor
namespace Go.Proofs.YtgfneloodabafaaDoor
open Go.Abs
def parZ (l : List (Nat × Nat)) (i : Nat) : Int := match parK l i with | some q => (q : Int) | none => -1
theorem partners1 (base : List Nd) (hl : base.length ≤ 1073741824) : ∀ (k i : Nat), base.length - i < k → i ≤ base.length →
    m_merge_partners_l1 base k (i : Int) (List.replicate i (-1) ++ List.replicate (base.length - i) 0) = some (List.replicate base.length (-1))
  | 0, i, h, _ => by omega
  | k + 1, i, h, hi => by
    unfold m_merge_partners_l1
    simp only [List.length_replicate, Int.toNat_natCast]
    by_cases hj : i < base.length
    · have hlen : i < (List.replicate i (-1 : Int) ++ List.replicate (base.length - i) 0).length := by simp; omega
      have hset : (List.replicate i (-1 : Int) ++ List.replicate (base.length - i) 0).set i (-1) = List.replicate (i + 1) (-1) ++ List.replicate (base.length - (i + 1)) 0 := by
        rw [List.set_append_right _ _ (by simp)]
        rw [List.length_replicate, Nat.sub_self, show base.length - i = base.length - (i + 1) + 1 by omega, List.replicate_succ, List.set_cons_zero, List.replicate_succ', List.append_assoc]
        rfl
      rw [dec_t (Int.ofNat_lt.2 hj), cond_true, at_get hlen]
      simp only [Option.bind_some]
      rw [hset, wi_succ (by omega), partners1 base hl k (i + 1) (by omega) (by omega)]
    · obtain rfl : i = base.length := by omega
      rw [dec_f (by omega), cond_false, Nat.sub_self]
      simp
def vecK (len : Nat) (l : List (Nat × Nat)) : List Int := (List.range len).map (parZ l)
theorem parZ_snoc {l : List (Nat × Nat)} {u : Nat × Nat} (h : ∀ v ∈ l, v.1 < u.1) (i : Nat) : parZ (l ++ [u]) i = if u.1 = i then (u.2 : Int) else parZ l i := by
  unfold parZ parK
  rw [List.find?_append]
  by_cases hi : u.1 = i
  · have : l.find? (fun v => v.1 == i) = none := List.find?_eq_none.2 fun v hv => by
      have := h v hv
      simp
      omega
    rw [this, if_pos hi]
    simp [hi]
  · rw [if_neg hi]
    have : [u].find? (fun v => v.1 == i) = none := List.find?_eq_none.2 fun v hv => by
      rw [List.mem_singleton.1 hv]
      simpa using hi
    rw [this, Option.or_none]
theorem vec_snoc {len : Nat} {l : List (Nat × Nat)} {u : Nat × Nat} (h : ∀ v ∈ l, v.1 < u.1) : vecK len (l ++ [u]) = (vecK len l).set u.1 (u.2 : Int) := by
  apply List.ext_getElem
  · simp [vecK]
  · intro i h1 h2
    rw [List.getElem_set]
    simp only [vecK, List.getElem_map, List.getElem_range, parZ_snoc h]
theorem vec_nil (len : Nat) : vecK len [] = List.replicate len (-1) := by
  apply List.ext_getElem
  · simp [vecK]
  · intro i h1 h2
    simp [vecK, parZ, parK]
theorem partners2 {L : List (Nat × Nat)} {len : Nat} (hs : L.Pairwise fun u v => u.1 < v.1 ∧ u.2 < v.2) (hb : ∀ u ∈ L, u.1 < len) (hl : L.length ≤ 1073741824) : ∀ (k s : Nat), L.length - s < k → s ≤ L.length →
    m_merge_partners_l2 (L.map cast2) k (s : Int) (vecK len (L.take s)) = some (vecK len L)
  | 0, s, h, _ => by omega
  | k + 1, s, h, hi => by
    unfold m_merge_partners_l2
    rw [List.length_map]
    by_cases hj : s < L.length
    · have hm : at? (L.map cast2) (s : Int) = some (cast2 L[s]) := map_at cast2 hj
      have hlt := hb _ (List.getElem_mem hj)
      have hsn : ∀ v ∈ L.take s, v.1 < (L[s]).1 := fun v hv => by
        obtain ⟨i, hi', rfl⟩ := List.getElem_of_mem hv
        rw [List.length_take] at hi'
        rw [List.getElem_take]
        exact (List.pairwise_iff_getElem.1 hs i s (by omega) hj (by omega)).1
      have hset := vec_snoc (len := len) hsn
      rw [List.take_append_getElem hj] at hset
      have hlen : (L[s]).1 < (vecK len (L.take s)).length := by simpa [vecK] using hlt
      rw [dec_t (Int.ofNat_lt.2 hj), cond_true, hm]
      generalize L[s] = u at *
      simp only [Option.bind_some, cast2, at_get hlen, Int.toNat_natCast]
      rw [← hset, wi_succ (by omega), partners2 hs hb hl k (s + 1) (by omega) (by omega)]
    · rw [dec_f (by omega), cond_false, List.take_of_length_le (by omega)]
theorem alignP_fuel : ∀ (k k' i j : Nat) (a b : List Nd), a.length + b.length < k → a.length + b.length < k' → alignP k i j a b = alignP k' i j a b
  | 0, _, _, _, _, _, h, _ => by omega
  | _ + 1, 0, _, _, _, _, _, h => by omega
  | k + 1, k' + 1, i, j, [], b, _, _ => by unfold alignP; rfl
  | k + 1, k' + 1, i, j, x :: xs, [], _, _ => by unfold alignP; rfl
  | k + 1, k' + 1, i, j, x :: xs, y :: ys, h, h' => by
    simp only [List.length_cons] at h h'
    unfold alignP
    rw [alignP_fuel k k' (i + 1) (j + 1) xs ys (by omega) (by omega), alignP_fuel k k' (i + 1) j xs (y :: ys) (by simp only [List.length_cons]; omega) (by simp only [List.length_cons]; omega), alignP_fuel k k' i (j + 1) (x :: xs) ys (by simp only [List.length_cons]; omega) (by simp only [List.length_cons]; omega)]
theorem pairs_in {a b : List Nd} {u : Nat × Nat} (h : u ∈ pairsK a b) : u.1 < a.length ∧ u.2 < b.length := by
  obtain ⟨s, t, x, y, rfl, h1, h2, _⟩ := alignP_in _ _ _ _ _ _ h
  have := (List.getElem?_eq_some_iff.1 h1).1
  have := (List.getElem?_eq_some_iff.1 h2).1
  dsimp only
  omega
theorem partners_eq (n : Nat) (b x : List Nd) (h : 4 * Nd.ws b + 4 * Nd.ws x + 200 < n) (hb : Nd.ws b ≤ 1048575) (hx : Nd.ws x ≤ 1048575) (cb : Nd.cnts b ≤ 110) (cx : Nd.cnts x ≤ 110) (rb : (rowK b).rng) (rx : (rowK x).rng) (vb : validB (rowK b) = true) (vx : validB (rowK x) = true) :
    m_merge_partners n b x = some (vecK b.length (pairsK b x)) := by
  have lb := Nd.ws_len b
  have lx := Nd.ws_len x
  have wb : (rowK b).w = Nd.ws b + 1 := by simp [rowK, Nd.w]
  have wx : (rowK x).w = Nd.ws x + 1 := by simp [rowK, Nd.w]
  have kb : (rowK b).cnt = Nd.cnts b + 1 := by simp [rowK, Nd.cnt]
  have kx : (rowK x).cnt = Nd.cnts x + 1 := by simp [rowK, Nd.cnt]
  have e := Align_eq n (rowK b) (rowK x) (by omega) (by omega) (by omega) (by omega) (by omega) rb rx
  rw [vb, vx] at e
  have hf : alignP n 0 0 (rowK b).kids (rowK x).kids = pairsK b x := alignP_fuel _ _ _ _ _ _ (by show b.length + x.length < n; omega) (by show b.length + x.length < _; omega)
  rw [hf] at e
  have hlen := alignP_len (b.length + x.length + 1) 0 0 b x
  have e1 := partners1 b (by omega) n 0 (by omega) (by omega)
  rw [show ((0 : Nat) : Int) = 0 from rfl, Nat.sub_zero, List.replicate_zero, List.nil_append] at e1
  have e2 := partners2 (L := pairsK b x) (len := b.length) (alignP_sorted _ _ _ _ _) (fun u hu => (pairs_in hu).1) (by unfold pairsK; omega) n 0 (by unfold pairsK; omega) (Nat.zero_le _)
  rw [show ((0 : Nat) : Int) = 0 from rfl, List.take_zero, vec_nil] at e2
  unfold rowK at e
  unfold m_merge_partners
  simp only [e, Bool.and_self, cond_true, Option.bind_some]
  rw [req_t ⟨by omega, by omega⟩, Int.toNat_natCast, e1]
  simp only [Option.bind_some, e2]
end Go.Proofs.YtgfneloodabafaaDoor
namespace Go.Proofs.YtgfneloodabafaaDoor
open Go.Abs
theorem deepN_loop {l : List Nd} (hb : Nd.cnts l ≤ 16777216) : ∀ (k i : Nat), l.length - i < k → i ≤ l.length → m_deep_Nodes_l1 l k (i : Int) (l.take i) = some l
  | 0, i, h, _ => by omega
  | k + 1, i, h, hi => by
    have hlen := Nd.cnts_len l
    unfold m_deep_Nodes_l1
    by_cases hj : i < l.length
    · have hm := Nd.cnts_mem (List.getElem_mem hj)
      have hd : m_deep_Node l[i] = some l[i] := req_t (by omega)
      have ht : l.take i ++ [l[i]] = l.take (i + 1) := by rw [List.take_append_getElem hj]
      rw [dec_t (Int.ofNat_lt.2 hj), cond_true, at_get hj]
      have ih := deepN_loop hb k (i + 1) (by omega) (by omega)
      rw [← ht] at ih
      generalize l[i] = v at *
      obtain ⟨v1, v2, v3, v4⟩ := v
      simp only [Option.bind_some, hd]
      rw [req_t (by simp only [List.length_take, List.length_cons, List.length_nil]; omega), wi_succ (show i < 9223372036854775807 by omega), ih]
    · rw [dec_f (by omega), cond_false, List.take_of_length_le (by omega)]
theorem deepN_eq (n : Nat) (l : List Nd) (hn : Nd.cnts l < n) (hb : Nd.cnts l ≤ 16777216) : m_deep_Nodes n l = some l := by
  have hlen := Nd.cnts_len l
  have h := deepN_loop hb n 0 (by omega) (by omega)
  rw [show ((0 : Nat) : Int) = 0 from rfl, List.take_zero] at h
  unfold m_deep_Nodes
  simp only [h, Option.bind_some]
theorem deepI_eq (l : List Int) (h : l.length ≤ 4294967296) : m_deep_Ints l = some l := by
  have : m_slices_Clone_sint l = some l := req_t h
  unfold m_deep_Ints
  simp only [this, Option.bind_some]
theorem same_eq (n : Nat) (a b : List Nd) (h : 2 * Nd.cnts a + 1 < n) (hc : Nd.cnts a ≤ 67108864) : ∃ r, m_merge_same n a b = some r ∧ (r = true ↔ a = b) := by
  obtain ⟨r, h1, h2⟩ := (node_Equal_eq n).2 a b h hc
  exact ⟨r, by unfold m_merge_same; simp only [h1, Option.bind_some], h2⟩
theorem conflict_eq (n : Nat) (side : Int) (cs : List Cf) (path : List Int) (i : Nat) (b x y : List Nd) (hs : side = 0 ∨ side = 1 ∨ side = 2) (hn : Nd.cnts b + Nd.cnts x + Nd.cnts y < n) (hc : Nd.cnts b + Nd.cnts x + Nd.cnts y ≤ 16777216) (hp : path.length ≤ 1000000) (hi : i ≤ 1000000) (hl : cs.length ≤ 1000000) :
    m_merge_merger_conflict n (side, cs) path (i : Int) (b, x, y) = some (pickK side b x y, (side, cs ++ [(path, (i : Int), (i : Int) + b.length, x, y)])) := by
  have lb := Nd.cnts_len b
  have e0 := deepN_eq n b (by omega) (by omega)
  have e1 := deepN_eq n x (by omega) (by omega)
  have e2 := deepN_eq n y (by omega) (by omega)
  unfold m_merge_merger_conflict
  simp only [deepI_eq path (by omega), e0, e1, e2, Option.bind_some]
  rw [req_t (by simp only [List.length_cons, List.length_nil]; omega), wrap64_in (n := (i : Int) + (b.length : Int)) (by omega) (by omega)]
  rcases hs with rfl | rfl | rfl <;> rfl
theorem part_eq (n : Nat) (side : Int) (cs : List Cf) (path : List Int) (i : Nat) (b x y : List Nd) (hs : side = 0 ∨ side = 1 ∨ side = 2) (hn : 2 * Nd.cnts b + 2 * Nd.cnts x + 2 * Nd.cnts y + 10 < n) (hc : Nd.cnts b + Nd.cnts x + Nd.cnts y ≤ 16777216) (hp : path.length ≤ 1000000) (hi : i ≤ 1000000) (hl : cs.length ≤ 1000000) :
    m_merge_merger_part n (side, cs) path (i : Int) (b, x, y) = some ((partK side path i b x y).1, (side, cs ++ (partK side path i b x y).2)) := by
  have e1 := deepN_eq n x (by omega) (by omega)
  have e2 := deepN_eq n y (by omega) (by omega)
  have ec := conflict_eq n side cs path i b x y hs (by omega) hc hp hi hl
  obtain ⟨r1, h1, g1⟩ := same_eq n x b (by omega) (by omega)
  obtain ⟨r2, h2, g2⟩ := same_eq n y b (by omega) (by omega)
  obtain ⟨r3, h3, g3⟩ := same_eq n y x (by omega) (by omega)
  unfold m_merge_merger_part partK
  simp only [h1, h2, h3, e1, e2, Option.bind_some]
  cases r1 with
  | true => rw [if_pos (g1.1 rfl), List.append_nil]; rfl
  | false =>
    rw [if_neg fun h => by have := g1.2 h; cases this]
    simp only [cond_false]
    cases r2 with
    | true => rw [if_pos (.inl (g2.1 rfl)), List.append_nil]; rfl
    | false =>
      cases r3 with
      | true => rw [if_pos (.inr (g3.1 rfl)), List.append_nil]; rfl
      | false =>
        rw [if_neg fun h => h.elim (fun h => by have := g2.2 h; cases this) fun h => by have := g3.2 h; cases this]
        simp only [cond_false, Option.bind_some, ec]
end Go.Proofs.YtgfneloodabafaaDoor
namespace Go.Proofs.YtgfneloodabafaaDoor
open Go.Abs
theorem cnts_tk (l : List Nd) (q : Nat) : Nd.cnts l = Nd.cnts (l.take q) + Nd.cnts (l.drop q) := by
  have := Nd.cnts_append (l.take q) (l.drop q)
  rwa [List.take_append_drop] at this
theorem cut_drop {l : List Nd} {p q : Nat} (h : p ≤ q) : l.drop p = cutK l p q ++ l.drop q := by
  unfold cutK
  rw [List.drop_take]
  have : l.drop q = (l.drop p).drop (q - p) := by rw [List.drop_drop]; congr 1; omega
  rw [this, List.take_append_drop]
theorem get_drop {l : List Nd} {q : Nat} {v : Nd} (h : l[q]? = some v) : l.drop q = v :: l.drop (q + 1) := by
  obtain ⟨h1, rfl⟩ := List.getElem?_eq_some_iff.1 h
  exact List.drop_eq_getElem_cons h1
theorem cut_get {l : List Nd} {p q : Nat} {v : Nd} (h : p ≤ q) (g : l[q]? = some v) : l.drop p = cutK l p q ++ v :: l.drop (q + 1) := by rw [cut_drop h, get_drop g]
theorem cut_cnts (l : List Nd) (p q : Nat) : Nd.cnts (cutK l p q) ≤ Nd.cnts l := by
  have h1 := cnts_tk l q
  have h2 := cnts_tk (l.take q) p
  unfold cutK
  omega
theorem getD_nd {l : List Nd} {q : Nat} {v d : Nd} (h : l[q]? = some v) : l.getD q d = v := by
  rw [List.getD_eq_getElem?_getD, h]; rfl
theorem parK_mem {l : List (Nat × Nat)} {i p : Nat} (h : parK l i = some p) : (i, p) ∈ l := by
  unfold parK at h
  cases e : l.find? (fun u => u.1 == i) with
  | none => rw [e] at h; cases h
  | some u =>
    rw [e] at h
    obtain rfl := Option.some.inj h
    have h1 := List.find?_some e
    have h2 := List.mem_of_find?_eq_some e
    have h3 : u.1 = i := eq_of_beq h1
    rw [← h3]; exact h2
theorem pair_lt : ∀ {l : List (Nat × Nat)}, (l.Pairwise fun u v => u.1 < v.1 ∧ u.2 < v.2) → ∀ {u v : Nat × Nat}, u ∈ l → v ∈ l → u.1 < v.1 → u.2 < v.2
  | [], _, _, _, h, _, _ => by cases h
  | w :: l, h, u, v, hu, hv, huv => by
    obtain ⟨h1, h2⟩ := List.pairwise_cons.1 h
    rcases List.mem_cons.1 hu with eu | hu'
    · rcases List.mem_cons.1 hv with ev | hv'
      · subst eu; subst ev; omega
      · subst eu; exact (h1 v hv').2
    · rcases List.mem_cons.1 hv with ev | hv'
      · subst ev; have := h1 u hu'; omega
      · exact pair_lt h2 hu' hv' huv
def KO (b x y : List Nd) (i j k : Nat) (T : List (Nat × Nat × Nat)) : Prop :=
  (T.Pairwise fun u v => u.1 < v.1 ∧ u.2.1 < v.2.1 ∧ u.2.2 < v.2.2) ∧
  ∀ u ∈ T, i ≤ u.1 ∧ j ≤ u.2.1 ∧ k ≤ u.2.2 ∧ ∃ v w z, b[u.1]? = some v ∧ x[u.2.1]? = some w ∧ y[u.2.2]? = some z ∧ alikeB v w = true ∧ alikeB v z = true
theorem KO.tail {b x y : List Nd} {i j k n p q : Nat} {T : List (Nat × Nat × Nat)} (h : KO b x y i j k ((n, p, q) :: T)) : KO b x y (n + 1) (p + 1) (q + 1) T := by
  obtain ⟨h1, h2⟩ := List.pairwise_cons.1 h.1
  refine ⟨h2, fun u hu => ?_⟩
  obtain ⟨_, _, _, h4⟩ := h.2 u (List.mem_cons_of_mem _ hu)
  have := h1 u hu
  dsimp only at this
  exact ⟨by omega, by omega, by omega, h4⟩
theorem KO.head {b x y : List Nd} {i j k n p q : Nat} {T : List (Nat × Nat × Nat)} (h : KO b x y i j k ((n, p, q) :: T)) :
    i ≤ n ∧ j ≤ p ∧ k ≤ q ∧ ∃ v w z, b[n]? = some v ∧ x[p]? = some w ∧ y[q]? = some z ∧ alikeB v w = true ∧ alikeB v z = true := h.2 _ List.mem_cons_self
def gK (px py : List (Nat × Nat)) (i : Nat) : Option (Nat × Nat × Nat) := (parK px i).bind fun p => (parK py i).map fun q => (i, p, q)
def restK (len : Nat) (px py : List (Nat × Nat)) (n : Nat) : List (Nat × Nat × Nat) := (List.range' n (len - n)).filterMap (gK px py)
theorem keptK_rest (n : Nat) (px py : List (Nat × Nat)) : keptK n px py = restK n px py 0 := by
  unfold keptK restK
  rw [List.range_eq_range']
  rfl
theorem gK_some {px py : List (Nat × Nat)} {i : Nat} {u : Nat × Nat × Nat} (h : gK px py i = some u) : u.1 = i ∧ parK px i = some u.2.1 ∧ parK py i = some u.2.2 := by
  unfold gK at h
  cases e1 : parK px i with
  | none => rw [e1] at h; cases h
  | some p =>
    cases e2 : parK py i with
    | none => rw [e1, e2] at h; cases h
    | some q =>
      rw [e1, e2] at h
      obtain rfl := Option.some.inj h
      exact ⟨rfl, rfl, rfl⟩
theorem pairs_get {a b : List Nd} {p q : Nat} (h : (p, q) ∈ pairsK a b) : ∃ x y, a[p]? = some x ∧ b[q]? = some y ∧ alikeB x y = true := by
  obtain ⟨s, t, x, y, e, h1, h2, h3⟩ := alignP_in _ _ _ _ _ _ h
  have e1 := (Prod.mk.inj e).1
  have e2 := (Prod.mk.inj e).2
  rw [Nat.zero_add] at e1 e2
  subst e1 e2
  exact ⟨x, y, h1, h2, h3⟩
theorem rest_KO (b x y : List Nd) (n : Nat) : KO b x y 0 0 0 (restK b.length (pairsK b x) (pairsK b y) n) := by
  constructor
  · refine List.pairwise_filterMap.2 ((List.pairwise_lt_range' (s := n) (n := b.length - n)).imp fun {i i'} hii u hu v hv => ?_)
    obtain ⟨rfl, h1, h2⟩ := gK_some hu
    obtain ⟨rfl, h3, h4⟩ := gK_some hv
    have a1 := pair_lt (l := pairsK b x) (alignP_sorted _ _ _ _ _) (parK_mem h1) (parK_mem h3) hii
    have a2 := pair_lt (l := pairsK b y) (alignP_sorted _ _ _ _ _) (parK_mem h2) (parK_mem h4) hii
    exact ⟨hii, a1, a2⟩
  · intro u hu
    obtain ⟨i, _, hi⟩ := List.mem_filterMap.1 hu
    obtain ⟨rfl, h1, h2⟩ := gK_some hi
    obtain ⟨v, w, g1, g2, g3⟩ := pairs_get (parK_mem h1)
    obtain ⟨v', z, g4, g5, g6⟩ := pairs_get (parK_mem h2)
    rw [g1] at g4
    obtain rfl := Option.some.inj g4
    exact ⟨Nat.zero_le _, Nat.zero_le _, Nat.zero_le _, v, w, z, g1, g2, g5, g3, g6⟩
theorem kept_KO (b x y : List Nd) : KO b x y 0 0 0 (keptK b.length (pairsK b x) (pairsK b y)) := by rw [keptK_rest]; exact rest_KO b x y 0
theorem Nd.w_eq (v : Nd) : v.w = v.text.length + Nd.ws v.kids + 1 := by cases v; rfl
theorem pick_ws (side : Int) (b x y : List Nd) : Nd.ws (pickK side b x y) ≤ Nd.ws b + Nd.ws x + Nd.ws y := by
  unfold pickK
  repeat' split
  all_goals omega
theorem part_ws (side : Int) (path : List Int) (i : Nat) (b x y : List Nd) : Nd.ws (partK side path i b x y).1 ≤ Nd.ws b + Nd.ws x + Nd.ws y := by
  unfold partK
  repeat' split
  · dsimp only; omega
  · dsimp only; omega
  · exact pick_ws ..
theorem slots_ws {F : RowF} (hF : ∀ p b x y, Nd.ws (F p b x y).1 ≤ Nd.ws b + Nd.ws x + Nd.ws y) (path : List Int) (i : Nat) : ∀ (s : Nat) (b x y : List Nd), Nd.ws (slotsK F path i s b x y).1 ≤ Nd.ws b + Nd.ws x + Nd.ws y
  | s, b :: bs, x :: xs, y :: ys => by
    have h1 := hF (path ++ [(i : Int), (s : Int)]) b.kids x.kids y.kids
    have h2 := slots_ws hF path i (s + 1) bs xs ys
    have e1 := b.w_eq
    have e2 := x.w_eq
    have e3 := y.w_eq
    simp only [slotsK, Nd.ws, rowK, Nd.w, List.length_nil]
    omega
  | s, [], x, y => by simp only [slotsK, Nd.ws]; omega
  | s, b :: bs, [], y => by simp only [slotsK, Nd.ws]; omega
  | s, b :: bs, x :: xs, [] => by simp only [slotsK, Nd.ws]; omega
theorem item_ws {F : RowF} (hF : ∀ p b x y, Nd.ws (F p b x y).1 ≤ Nd.ws b + Nd.ws x + Nd.ws y) (side : Int) (path : List Int) (i : Nat) (b x y : Nd) : Nd.ws (itemK F side path i b x y).1 ≤ b.w + x.w + y.w + 3 := by
  have h := slots_ws hF path i 0 b.kids x.kids y.kids
  have e1 := b.w_eq
  have e2 := x.w_eq
  have e3 := y.w_eq
  have h2 := pick_ws side [b] [x] [y]
  unfold itemK
  split
  · simp only [Nd.ws, Nd.w]; omega
  · split
    · simp only [Nd.ws, Nd.w]; omega
    · simp only [Nd.ws] at h2 ⊢; omega
theorem walk_ws {F : RowF} (hF : ∀ p b x y, Nd.ws (F p b x y).1 ≤ Nd.ws b + Nd.ws x + Nd.ws y) (side : Int) (path : List Int) (b x y : List Nd) : ∀ (T : List (Nat × Nat × Nat)) (i j k : Nat), KO b x y i j k T → Nd.ws (walkK F side path b x y i j k T).1 ≤ Nd.ws (b.drop i) + Nd.ws (x.drop j) + Nd.ws (y.drop k)
  | [], i, j, k, h => by unfold walkK; exact part_ws ..
  | (n, p, q) :: T, i, j, k, h => by
    obtain ⟨h1, h2, h3, v, w, z, g1, g2, g3, g4, g5⟩ := h.head
    have ih := walk_ws hF side path b x y T (n + 1) (p + 1) (q + 1) h.tail
    have hp := part_ws side path i (cutK b i n) (cutK x j p) (cutK y k q)
    have hi := item_ws hF side path n v w z
    rw [cut_get h1 g1, cut_get h2 g2, cut_get h3 g3]
    unfold walkK appK
    rw [getD_nd g1, getD_nd g2, getD_nd g3]
    simp only [Nd.ws_append, Nd.ws]
    omega
theorem row_ws (side : Int) : ∀ (N : Nat) (p : List Int) (b x y : List Nd), Nd.ws (rowM N side p b x y).1 ≤ Nd.ws b + Nd.ws x + Nd.ws y
  | 0, p, b, x, y => by unfold rowM; exact Nat.zero_le _
  | N + 1, p, b, x, y => by
    have := walk_ws (row_ws side N) side p b x y _ 0 0 0 (kept_KO b x y)
    unfold rowM
    exact this
theorem part_cs (side : Int) (path : List Int) (i : Nat) (b x y : List Nd) : (partK side path i b x y).2.length ≤ 1 := by
  unfold partK
  repeat' split
  all_goals simp
theorem slots_cs {F : RowF} (hF : ∀ p b x y, (F p b x y).2.length ≤ 2 * Nd.cnts b + 1) (path : List Int) (i : Nat) : ∀ (s : Nat) (b x y : List Nd), (slotsK F path i s b x y).2.length ≤ 2 * Nd.cnts b
  | s, b :: bs, x :: xs, y :: ys => by
    have h1 := hF (path ++ [(i : Int), (s : Int)]) b.kids x.kids y.kids
    have h2 := slots_cs hF path i (s + 1) bs xs ys
    have e1 := b.cnt_kids
    simp only [slotsK, Nd.cnts, List.length_append]
    omega
  | s, [], x, y => by simp only [slotsK, List.length_nil]; omega
  | s, b :: bs, [], y => by simp only [slotsK, List.length_nil]; omega
  | s, b :: bs, x :: xs, [] => by simp only [slotsK, List.length_nil]; omega
theorem item_cs {F : RowF} (hF : ∀ p b x y, (F p b x y).2.length ≤ 2 * Nd.cnts b + 1) (side : Int) (path : List Int) (i : Nat) (b x y : Nd) : (itemK F side path i b x y).2.length + 1 ≤ 2 * b.cnt := by
  have h := slots_cs hF path i 0 b.kids x.kids y.kids
  have e1 := b.cnt_kids
  unfold itemK
  repeat' split
  · dsimp only; omega
  · dsimp only; omega
  · simp only [List.length_cons, List.length_nil]; omega
theorem walk_cs {F : RowF} (hF : ∀ p b x y, (F p b x y).2.length ≤ 2 * Nd.cnts b + 1) (side : Int) (path : List Int) (b x y : List Nd) : ∀ (T : List (Nat × Nat × Nat)) (i j k : Nat), KO b x y i j k T → (walkK F side path b x y i j k T).2.length ≤ 2 * Nd.cnts (b.drop i) + 1
  | [], i, j, k, h => by have := part_cs side path i (b.drop i) (x.drop j) (y.drop k); unfold walkK; omega
  | (n, p, q) :: T, i, j, k, h => by
    obtain ⟨h1, h2, h3, v, w, z, g1, g2, g3, g4, g5⟩ := h.head
    have ih := walk_cs hF side path b x y T (n + 1) (p + 1) (q + 1) h.tail
    have hp := part_cs side path i (cutK b i n) (cutK x j p) (cutK y k q)
    have hi := item_cs hF side path n v w z
    rw [cut_get h1 g1]
    unfold walkK appK
    rw [getD_nd g1, getD_nd g2, getD_nd g3]
    simp only [Nd.cnts_append, Nd.cnts, List.length_append]
    omega
theorem row_cs (side : Int) : ∀ (N : Nat) (p : List Int) (b x y : List Nd), (rowM N side p b x y).2.length ≤ 2 * Nd.cnts b + 1
  | 0, p, b, x, y => by unfold rowM; exact Nat.zero_le _
  | N + 1, p, b, x, y => by
    have := walk_cs (row_cs side N) side p b x y _ 0 0 0 (kept_KO b x y)
    unfold rowM
    exact this
def okR (b : List Nd) : Prop := validB (rowK b) = true ∧ (rowK b).rng
theorem okR.sub {b : List Nd} {v u : Nd} (h : okR b) (hv : v ∈ b) (hu : u ∈ v.kids) : okR u.kids ∧ u = rowK u.kids := by
  obtain ⟨h1, h2⟩ := h
  unfold validB at h1
  simp only [Bool.and_eq_true, decide_eq_true_eq] at h1
  obtain ⟨k1, f1, c1, d1⟩ := h1
  have fb : formsB 1 b = true := (form_row f1 rfl).2
  obtain ⟨f2, k2⟩ := forms_mem fb hv
  have gv : formsB v.kind v.kids = true := by cases v; simp only [formB, Bool.and_eq_true] at f2; exact f2.2
  obtain ⟨f3, k3⟩ := forms_mem gv hu
  have kv : v.kind ≠ 1 := fun e => by rw [e] at k2; cases k2
  rw [ne_beq kv] at k3
  have ku : u.kind = 1 := by cases e : u.kind == 1 with | true => exact eq_of_beq e | false => rw [e] at k3; cases k3
  obtain ⟨r1, r2⟩ := form_row f3 ku
  have c2 := Nd.cnts_mem hv
  have c3 := Nd.cnts_mem hu
  have e2 := v.cnt_kids
  have cb : (rowK b).cnt = Nd.cnts b + 1 := by simp [rowK, Nd.cnt]
  have db : (rowK b).dep = Nd.deps b + 1 := rfl
  have d2 := deps_mem hv
  have d3 := deps_mem hu
  have ev : v.dep = Nd.deps v.kids + 1 := by cases v; rfl
  have eu : rowK u.kids = u := r1.symm
  refine ⟨⟨?_, ?_⟩, r1⟩
  · rw [eu]
    unfold validB
    simp only [Bool.and_eq_true, decide_eq_true_eq]
    exact ⟨by rw [ku]; rfl, f3, by omega, by omega⟩
  · rw [eu]
    have : v.rng := kids_rng h2 (t := rowK b) hv
    exact kids_rng this hu
theorem okR_of {t : Nd} (h : validB t = true) (hr : t.rng) : okR t.kids ∧ t = rowK t.kids := by
  have e := (valid_row h).1
  have e' : rowK t.kids = t := e.symm
  exact ⟨⟨by rw [e']; exact h, by rw [e']; exact hr⟩, e⟩
end Go.Proofs.YtgfneloodabafaaDoor
namespace Go.Proofs.YtgfneloodabafaaDoor
open Go.Abs
theorem grow_int {n : Int} (h : 0 ≤ n ∧ n ≤ 1073741824) : m_slices_Grow_sint n = some [] := req_t h
theorem concatI_1 (k : Nat) (p : List Int) (i s : Int) (hp : p.length ≤ 1000000) : m_slices_Concat_sint_l1 [p, [i, s]] (k + 3) 0 0 = some ((p.length : Int) + 2) := by
  have w1 : IntKind.i64.wrap ((0 : Int) + (p.length : Int)) = (p.length : Int) := by rw [wrap64_in (by omega) (by omega)]; omega
  have w2 : IntKind.i64.wrap ((p.length : Int) + 2) = (p.length : Int) + 2 := wrap64_in (by omega) (by omega)
  have c0 : at? [p, [i, s]] 0 = some p := rfl
  have c1 : at? [p, [i, s]] 1 = some [i, s] := rfl
  have v1 : IntKind.i64.wrap ((0 : Int) + 1) = 1 := by decide
  have v2 : IntKind.i64.wrap ((1 : Int) + 1) = 2 := by decide
  have hl : (([p, [i, s]] : List (List Int)).length : Int) = 2 := rfl
  have h2 : (([i, s] : List Int).length : Int) = 2 := rfl
  unfold m_slices_Concat_sint_l1
  rw [hl, dec_t (by decide), cond_true, c0]
  simp only [Option.bind_some]
  rw [w1, dec_f (by omega), cond_false, v1]
  unfold m_slices_Concat_sint_l1
  rw [hl, dec_t (by decide), cond_true, c1]
  simp only [Option.bind_some]
  rw [h2, w2, dec_f (by omega), cond_false, v2]
  unfold m_slices_Concat_sint_l1
  rw [hl, dec_f (by decide), cond_false]
theorem concatI_2 (k : Nat) (p : List Int) (i s : Int) (hp : p.length ≤ 1000000) : m_slices_Concat_sint_l2 [p, [i, s]] (k + 3) 0 [] = some (p ++ [i, s]) := by
  have c0 : at? [p, [i, s]] 0 = some p := rfl
  have c1 : at? [p, [i, s]] 1 = some [i, s] := rfl
  have v1 : IntKind.i64.wrap ((0 : Int) + 1) = 1 := by decide
  have v2 : IntKind.i64.wrap ((1 : Int) + 1) = 2 := by decide
  have hl : (([p, [i, s]] : List (List Int)).length : Int) = 2 := rfl
  have q1 : ([] : List Int).length + p.length ≤ 4294967296 := by rw [List.length_nil]; omega
  have q2 : p.length + [i, s].length ≤ 4294967296 := by rw [List.length_cons, List.length_cons, List.length_nil]; omega
  unfold m_slices_Concat_sint_l2
  rw [hl, dec_t (by decide), cond_true, c0]
  simp only [Option.bind_some]
  rw [req_t q1, v1]
  unfold m_slices_Concat_sint_l2
  rw [hl, dec_t (by decide), cond_true, c1]
  simp only [Option.bind_some, List.nil_append]
  rw [req_t q2, v2]
  unfold m_slices_Concat_sint_l2
  rw [hl, dec_f (by decide), cond_false]
theorem concatI_eq (n : Nat) (p : List Int) (i s : Int) (hn : 5 < n) (hp : p.length ≤ 1000000) : m_slices_Concat_sint n [p, [i, s]] = some (p ++ [i, s]) := by
  obtain ⟨k, rfl⟩ : ∃ k, n = k + 3 := ⟨n - 3, by omega⟩
  have e1 := concatI_1 k p i s hp
  have e2 : m_slices_Grow_sint ((p.length : Int) + 2) = some [] := grow_int ⟨by omega, by omega⟩
  have e3 := concatI_2 k p i s hp
  unfold m_slices_Concat_sint
  dsimp only
  rw [e1, Option.bind_some, e2, Option.bind_some, e3, Option.bind_some]
theorem itemK_1 {F : RowF} {side : Int} {path : List Int} {i : Nat} {b x y : Nd} (h : x.text = b.text) : itemK F side path i b x y = ([.mk b.kind y.text b.cols (slotsK F path i 0 b.kids x.kids y.kids).1], (slotsK F path i 0 b.kids x.kids y.kids).2) := by
  unfold itemK; rw [if_pos h]
theorem itemK_2 {F : RowF} {side : Int} {path : List Int} {i : Nat} {b x y : Nd} (h : ¬ x.text = b.text) (h2 : y.text = b.text ∨ y.text = x.text) : itemK F side path i b x y = ([.mk b.kind x.text b.cols (slotsK F path i 0 b.kids x.kids y.kids).1], (slotsK F path i 0 b.kids x.kids y.kids).2) := by
  unfold itemK; rw [if_neg h, if_pos h2]
theorem itemK_3 {F : RowF} {side : Int} {path : List Int} {i : Nat} {b x y : Nd} (h : ¬ x.text = b.text) (h2 : ¬ (y.text = b.text ∨ y.text = x.text)) : itemK F side path i b x y = (pickK side [b] [x] [y], [(path, (i : Int), (i : Int) + 1, [x], [y])]) := by
  unfold itemK; rw [if_neg h, if_neg h2]
theorem at_nd {l : List Nd} {n : Nat} {v : Nd} (h : l[n]? = some v) : at? l (n : Int) = some v := by
  obtain ⟨h1, rfl⟩ := List.getElem?_eq_some_iff.1 h
  exact at_get h1
theorem vec_at {len : Nat} {l : List (Nat × Nat)} {n : Nat} (h : n < len) : at? (vecK len l) (n : Int) = some (parZ l n) := by
  have hl : n < (vecK len l).length := by simpa [vecK] using h
  rw [at_get hl]; simp [vecK]
theorem rest_cons {len : Nat} {px py : List (Nat × Nat)} {n : Nat} (h : n < len) : restK len px py n = (gK px py n).toList ++ restK len px py (n + 1) := by
  unfold restK
  rw [show len - n = len - (n + 1) + 1 by omega, List.range'_succ, List.filterMap_cons]
  cases gK px py n <;> rfl
abbrev ItemM := (Int × List Cf) → List Int → Int → Nd → Nd → Nd → Option (List Nd × (Int × List Cf))
abbrev RowMM := (Int × List Cf) → List Int → List Nd → List Nd → List Nd → Option (List Nd × (Int × List Cf))
theorem mitem_loop (N : Nat) (side : Int) (path : List Int) (i : Nat) (bk xk yk : List Nd) (F : RowMM) (FR : RowF) (hN : 5 < N) (hp : path.length ≤ 1000000) (hb : bk.length ≤ 1000000) (hx : bk.length = xk.length) (hy : bk.length = yk.length)
    (hF : ∀ (s : Nat) (u v w : Nd) (cs : List Cf), bk[s]? = some u → xk[s]? = some v → yk[s]? = some w → cs.length + (FR (path ++ [(i : Int), (s : Int)]) u.kids v.kids w.kids).2.length ≤ 1000000 →
      F (side, cs) (path ++ [(i : Int), (s : Int)]) u.kids v.kids w.kids = some ((FR (path ++ [(i : Int), (s : Int)]) u.kids v.kids w.kids).1, (side, cs ++ (FR (path ++ [(i : Int), (s : Int)]) u.kids v.kids w.kids).2))) :
    ∀ (k s : Nat) (cs : List Cf) (acc : List Nd), bk.length - s < k → s ≤ bk.length → acc.length ≤ s → cs.length + (slotsK FR path i s (bk.drop s) (xk.drop s) (yk.drop s)).2.length ≤ 1000000 →
      m_merge_merger_item_l1 F N path (i : Int) bk xk yk k side (s : Int) cs acc = some (side, cs ++ (slotsK FR path i s (bk.drop s) (xk.drop s) (yk.drop s)).2, acc ++ (slotsK FR path i s (bk.drop s) (xk.drop s) (yk.drop s)).1)
  | 0, s, cs, acc, h, _, _, _ => by omega
  | k + 1, s, cs, acc, h, hs, ha, hc => by
    unfold m_merge_merger_item_l1
    by_cases hj : s < bk.length
    · have g1 : bk[s]? = some bk[s] := List.getElem?_eq_getElem hj
      have g2 : xk[s]? = some (xk[s]'(by omega)) := List.getElem?_eq_getElem (by omega)
      have g3 : yk[s]? = some (yk[s]'(by omega)) := List.getElem?_eq_getElem (by omega)
      generalize bk[s] = u at *
      generalize xk[s]'(by omega) = v at *
      generalize yk[s]'(by omega) = w at *
      have hc' := hc
      rw [get_drop g1, get_drop g2, get_drop g3] at hc'
      simp only [slotsK, List.length_append] at hc'
      have e1 := hF s u v w cs g1 g2 g3 (by omega)
      rw [dec_t (Int.ofNat_lt.2 hj), cond_true, concatI_eq N path i s hN hp, at_nd g1, at_nd g2, at_nd g3, get_drop g1, get_drop g2, get_drop g3]
      obtain ⟨u1, u2, u3, u4⟩ := u
      obtain ⟨v1, v2, v3, v4⟩ := v
      obtain ⟨w1, w2, w3, w4⟩ := w
      simp only [Nd.kids] at e1 hc'
      simp only [Option.bind_some, e1]
      have ih := mitem_loop N side path i bk xk yk F FR hN hp hb hx hy hF k (s + 1) (cs ++ (FR (path ++ [(i : Int), (s : Int)]) u4 v4 w4).2) (acc ++ [Nd.mk 1 [] 0 (FR (path ++ [(i : Int), (s : Int)]) u4 v4 w4).1]) (by omega) (by omega) (by simp only [List.length_append, List.length_cons, List.length_nil]; omega) (by simp only [List.length_append]; omega)
      rw [req_t (by simp only [List.length_cons, List.length_nil]; omega), wi_succ (by omega), ih]
      simp only [slotsK, Nd.kids, rowK, List.append_assoc, List.cons_append, List.nil_append]
    · rw [dec_f (by omega), cond_false, List.drop_of_length_le (by omega)]
      simp only [slotsK, List.append_nil]
theorem mrow_loop (N : Nat) (side : Int) (hs : side = 0 ∨ side = 1 ∨ side = 2) (path : List Int) (hp : path.length ≤ 1000000) (b x y : List Nd) (px py : List (Nat × Nat)) (FR : RowF) (F : ItemM)
    (hn : 2 * Nd.cnts b + 2 * Nd.cnts x + 2 * Nd.cnts y + 10 < N) (hc : Nd.cnts b + Nd.cnts x + Nd.cnts y ≤ 1000000)
    (hF : ∀ (n p q : Nat) (v w z : Nd) (cs : List Cf), b[n]? = some v → x[p]? = some w → y[q]? = some z → alikeB v w = true → alikeB v z = true → cs.length + (itemK FR side path n v w z).2.length ≤ 1000000 →
      F (side, cs) path (n : Int) v w z = some ((itemK FR side path n v w z).1, (side, cs ++ (itemK FR side path n v w z).2))) :
    ∀ (k n i j l : Nat) (cs : List Cf) (acc : List Nd), b.length - n < k → n ≤ b.length → i ≤ n → j ≤ x.length → l ≤ y.length → KO b x y i j l (restK b.length px py n) →
      cs.length + (walkK FR side path b x y i j l (restK b.length px py n)).2.length ≤ 1000000 → acc.length + (walkK FR side path b x y i j l (restK b.length px py n)).1.length ≤ 4294967296 →
      ∃ (i' j' l' : Nat) (cs' : List Cf) (acc' : List Nd), m_merge_merger_row_l1 F N path b x y (vecK b.length px) (vecK b.length py) k side (i : Int) (j : Int) (l : Int) (n : Int) cs acc = some ((i' : Int), (j' : Int), (l' : Int), side, cs', acc') ∧
        i' ≤ b.length ∧ j' ≤ x.length ∧ l' ≤ y.length ∧ acc' ++ (partK side path i' (b.drop i') (x.drop j') (y.drop l')).1 = acc ++ (walkK FR side path b x y i j l (restK b.length px py n)).1 ∧
        cs' ++ (partK side path i' (b.drop i') (x.drop j') (y.drop l')).2 = cs ++ (walkK FR side path b x y i j l (restK b.length px py n)).2
  | 0, n, i, j, l, cs, acc, h, _, _, _, _, _, _, _ => by omega
  | k + 1, n, i, j, l, cs, acc, h, hnb, hi, hj, hl, ko, hcs, hac => by
    have lb := Nd.cnts_len b
    have lx := Nd.cnts_len x
    have ly := Nd.cnts_len y
    by_cases hlt : n < b.length
    · unfold m_merge_merger_row_l1
      rw [dec_t (Int.ofNat_lt.2 hlt), cond_true, vec_at hlt, vec_at hlt]
      simp only [Option.bind_some]
      rw [rest_cons hlt] at ko hcs hac ⊢
      cases hg : gK px py n with
      | none =>
        rw [hg] at ko hcs hac
        have hneg : (bif decide (parZ px n < 0) then some true else some (decide (parZ py n < 0)) : Option Bool) = some true := by
          unfold gK at hg
          unfold parZ
          cases h1 : parK px n with
          | none => rfl
          | some p =>
            rw [h1] at hg
            cases h2 : parK py n with
            | none =>
              dsimp only
              rw [dec_f (show ¬ ((p : Int) < 0) by omega)]
              rfl
            | some q => rw [h2] at hg; cases hg
        rw [hneg]
        simp only [Option.bind_some, cond_true]
        rw [wi_succ (by omega)]
        exact mrow_loop N side hs path hp b x y px py FR F hn hc hF k (n + 1) i j l cs acc (by omega) (by omega) (by omega) hj hl ko hcs hac
      | some u =>
        rw [hg] at ko hcs hac
        obtain ⟨g1, g2, g3⟩ := gK_some hg
        obtain ⟨n', p, q⟩ := u
        dsimp only at g1 g2 g3
        subst g1
        have z1 : parZ px n' = (p : Int) := by unfold parZ; rw [g2]
        have z2 : parZ py n' = (q : Int) := by unfold parZ; rw [g3]
        obtain ⟨o1, o2, o3, v, w, z, r1, r2, r3, r4, r5⟩ := KO.head (n := n') (p := p) (q := q) ko
        have hpx := (List.getElem?_eq_some_iff.1 r2).1
        have hqy := (List.getElem?_eq_some_iff.1 r3).1
        simp only [Option.toList_some, List.cons_append, List.nil_append, walkK, appK, List.length_append, getD_nd r1, getD_nd r2, getD_nd r3] at hcs hac ko ⊢
        have c1 := cut_cnts b i n'
        have c2 := cut_cnts x j p
        have c3 := cut_cnts y l q
        have ep := part_eq N side cs path i (cutK b i n') (cutK x j p) (cutK y l q) hs (by omega) (by omega) hp (by omega) (by omega)
        have ei := hF n' p q v w z (cs ++ (partK side path i (cutK b i n') (cutK x j p) (cutK y l q)).2) r1 r2 r3 r4 r5 (by rw [List.length_append]; omega)
        rw [z1, z2]
        rw [dec_f (show ¬ ((p : Int) < 0) by omega), cond_false, dec_f (show ¬ ((q : Int) < 0) by omega)]
        simp only [Option.bind_some, cond_false]
        rw [req_t ⟨by omega, by omega, by omega⟩]
        rw [req_t ⟨by omega, by omega, by omega⟩, req_t ⟨by omega, by omega, by omega⟩]
        have ep' : m_merge_merger_part N (side, cs) path (i : Int) ((b.take (n' : Int).toNat).drop (i : Int).toNat, (x.take (p : Int).toNat).drop (j : Int).toNat, (y.take (q : Int).toNat).drop (l : Int).toNat) = _ := ep
        rw [ep', at_nd r1, at_nd r2, at_nd r3]
        obtain ⟨v1, v2, v3, v4⟩ := v
        obtain ⟨w1, w2, w3, w4⟩ := w
        obtain ⟨y1, y2, y3, y4⟩ := z
        simp only [Option.bind_some, ei]
        have hac1 : acc.length + (partK side path i (cutK b i n') (cutK x j p) (cutK y l q)).1.length ≤ 4294967296 := by omega
        rw [req_t hac1, req_t (by first | omega | (rw [List.length_append]; omega))]
        simp only [Option.bind_some]
        rw [wi_succ (by omega), wi_succ (by omega), wi_succ (by omega)]
        have ih := mrow_loop N side hs path hp b x y px py FR F hn hc hF k (n' + 1) (n' + 1) (p + 1) (q + 1) ((cs ++ (partK side path i (cutK b i n') (cutK x j p) (cutK y l q)).2) ++ (itemK FR side path n' (.mk v1 v2 v3 v4) (.mk w1 w2 w3 w4) (.mk y1 y2 y3 y4)).2) ((acc ++ (partK side path i (cutK b i n') (cutK x j p) (cutK y l q)).1) ++ (itemK FR side path n' (.mk v1 v2 v3 v4) (.mk w1 w2 w3 w4) (.mk y1 y2 y3 y4)).1)
          (by omega) (by omega) (Nat.le_refl _) (by omega) (by omega) ko.tail (by simp only [List.length_append]; omega) (by simp only [List.length_append]; omega)
        simp only [← List.append_assoc]
        exact ih
    · obtain rfl : n = b.length := by omega
      unfold m_merge_merger_row_l1
      rw [dec_f (by omega), cond_false]
      have e : restK b.length px py b.length = [] := by unfold restK; rw [Nat.sub_self]; rfl
      rw [e]
      exact ⟨i, j, l, cs, acc, rfl, hi, hj, hl, by unfold walkK; rfl, by unfold walkK; rfl⟩
theorem rowM_eq (side : Int) (hs : side = 0 ∨ side = 1 ∨ side = 2) : ∀ (K n : Nat) (path : List Int) (cs : List Cf) (b x y : List Nd), Nd.cnts b < K → 4 * (Nd.ws b + Nd.ws x + Nd.ws y) + 300 < n → path.length + Nd.cnts b ≤ 900000 → okR b → okR x → okR y →
    Nd.cnts b ≤ 110 → Nd.cnts x ≤ 110 → Nd.cnts y ≤ 110 → Nd.ws b ≤ 1048575 → Nd.ws x ≤ 1048575 → Nd.ws y ≤ 1048575 → cs.length + (rowM K side path b x y).2.length ≤ 1000000 →
    m_merge_merger_row n (side, cs) path b x y = some ((rowM K side path b x y).1, (side, cs ++ (rowM K side path b x y).2))
  | 0, n, _, _, _, _, _, h, _, _, _, _, _, _, _, _, _, _, _, _ => by omega
  | K + 1, 0, _, _, _, _, _, _, h, _, _, _, _, _, _, _, _, _, _, _ => by omega
  | K + 1, n + 1, path, cs, b, x, y, hK, hn, hp, ob, ox, oy, cb, cx, cy, wb, wx, wy, hcs => by
    have lb := Nd.cnts_len b
    have hbw := Nd.cnts_ws b
    have hxw := Nd.cnts_ws x
    have hyw := Nd.cnts_ws y
    have p1 := partners_eq n b x (by omega) wb wx cb cx ob.2 ox.2 ob.1 ox.1
    have p2 := partners_eq n b y (by omega) wb wy cb cy ob.2 oy.2 ob.1 oy.1
    have hw := row_ws side (K + 1) path b x y
    have hlen := Nd.ws_len (rowM (K + 1) side path b x y).1
    unfold rowM at hcs hw hlen
    unfold rowM
    unfold m_merge_merger_row
    simp only [p1, p2, Option.bind_some]
    rw [keptK_rest] at hcs hw hlen ⊢
    obtain ⟨i, j, l, cs', acc', e1, e2, e3, e4, e5, e6⟩ := mrow_loop n side hs path (by omega) b x y (pairsK b x) (pairsK b y) (rowM K side) (m_merge_merger_item n) (by omega) (by omega) (fun m p q v w z ds g1 g2 g3 g4 g5 hds => by
      obtain ⟨k, rfl⟩ : ∃ k, n = k + 1 := ⟨n - 1, by omega⟩
      have mv := List.mem_of_getElem? g1
      have mw := List.mem_of_getElem? g2
      have mz := List.mem_of_getElem? g3
      have cv := Nd.cnts_mem mv
      have cw := Nd.cnts_mem mw
      have cz := Nd.cnts_mem mz
      have wv := Nd.w_mem mv
      have ww := Nd.w_mem mw
      have wz := Nd.w_mem mz
      have kv := v.cnt_kids
      have kw := w.cnt_kids
      have kz := z.cnt_kids
      have uv := v.w_eq
      have uw := w.w_eq
      have uz := z.w_eq
      have mb := (List.getElem?_eq_some_iff.1 g1).1
      have lv := Nd.cnts_len v.kids
      have loop := mitem_loop k side path m v.kids w.kids z.kids (m_merge_merger_row k) (rowM K side) (by omega) (by omega) (by omega) (alike_len g4) (alike_len g5) (fun s u u' u'' es h1 h2 h3 hes => by
        have n1 := List.mem_of_getElem? h1
        have n2 := List.mem_of_getElem? h2
        have n3 := List.mem_of_getElem? h3
        have d1 := Nd.cnts_mem n1
        have d2 := Nd.cnts_mem n2
        have d3 := Nd.cnts_mem n3
        have f1 := Nd.w_mem n1
        have f2 := Nd.w_mem n2
        have f3 := Nd.w_mem n3
        have k1 := u.cnt_kids
        have k2 := u'.cnt_kids
        have k3 := u''.cnt_kids
        have j1 := u.w_eq
        have j2 := u'.w_eq
        have j3 := u''.w_eq
        exact rowM_eq side hs K k (path ++ [(m : Int), (s : Int)]) es u.kids u'.kids u''.kids (by omega) (by omega) (by simp only [List.length_append, List.length_cons, List.length_nil]; omega) (ob.sub mv n1).1 (ox.sub mw n2).1 (oy.sub mz n3).1 (by omega) (by omega) (by omega) (by omega) (by omega) (by omega) hes)
      obtain ⟨v1, v2, v3, v4⟩ := v
      obtain ⟨w1, w2, w3, w4⟩ := w
      obtain ⟨z1, z2, z3, z4⟩ := z
      simp only [Nd.kids] at loop
      unfold m_merge_merger_item
      have key : ds.length + (slotsK (rowM K side) path m 0 v4 w4 z4).2.length ≤ 1000000 → m_merge_merger_item_l1 (m_merge_merger_row k) k path (m : Int) v4 w4 z4 k side 0 ds [] = some (side, ds ++ (slotsK (rowM K side) path m 0 v4 w4 z4).2, (slotsK (rowM K side) path m 0 v4 w4 z4).1) := fun hd => by
        have := loop k 0 ds [] (by simp only [Nd.kids] at lv kv; omega) (Nat.zero_le _) (Nat.le_refl _) (by simpa using hd)
        simpa using this
      by_cases t1 : w2 = v2
      · rw [itemK_1 (show (Nd.mk w1 w2 w3 w4).text = (Nd.mk v1 v2 v3 v4).text from t1)] at hds ⊢
        simp only [Nd.text, Nd.kind, Nd.cols, Nd.kids] at hds ⊢
        rw [show (w2 == v2) = true from beq_iff_eq.2 t1]
        simp only [cond_true, Option.bind_some, key hds]
      · rw [show (w2 == v2) = false from beq_eq_false_iff_ne.2 t1]
        simp only [cond_false]
        by_cases t2 : z2 = v2 ∨ z2 = w2
        · rw [itemK_2 (show ¬ (Nd.mk w1 w2 w3 w4).text = (Nd.mk v1 v2 v3 v4).text from t1) (show (Nd.mk z1 z2 z3 z4).text = (Nd.mk v1 v2 v3 v4).text ∨ (Nd.mk z1 z2 z3 z4).text = (Nd.mk w1 w2 w3 w4).text from t2)] at hds ⊢
          simp only [Nd.text, Nd.kind, Nd.cols, Nd.kids] at hds ⊢
          have hb : (bif z2 == v2 then some true else some (z2 == w2) : Option Bool) = some true := by
            rcases t2 with t2 | t2
            · rw [show (z2 == v2) = true from beq_iff_eq.2 t2]; rfl
            · rw [show (z2 == w2) = true from beq_iff_eq.2 t2]; cases (z2 == v2) <;> rfl
          rw [hb]
          simp only [cond_true, Option.bind_some, key hds]
        · rw [itemK_3 (show ¬ (Nd.mk w1 w2 w3 w4).text = (Nd.mk v1 v2 v3 v4).text from t1) (show ¬ ((Nd.mk z1 z2 z3 z4).text = (Nd.mk v1 v2 v3 v4).text ∨ (Nd.mk z1 z2 z3 z4).text = (Nd.mk w1 w2 w3 w4).text) from t2)] at hds ⊢
          dsimp only at hds ⊢
          have hb : (bif z2 == v2 then some true else some (z2 == w2) : Option Bool) = some false := by
            rw [show (z2 == v2) = false from beq_eq_false_iff_ne.2 fun e => t2 (.inl e), show (z2 == w2) = false from beq_eq_false_iff_ne.2 fun e => t2 (.inr e)]; rfl
          rw [hb]
          have ec := conflict_eq k side ds path m [.mk v1 v2 v3 v4] [.mk w1 w2 w3 w4] [.mk z1 z2 z3 z4] hs (by simp only [Nd.cnts]; omega) (by simp only [Nd.cnts]; omega) (by omega) (by omega) (by simp only [List.length_cons, List.length_nil] at hds; omega)
          simp only [cond_false, Option.bind_some, ec]
          rfl) n 0 0 0 0 cs [] (by omega) (Nat.zero_le _) (Nat.le_refl _) (Nat.zero_le _) (Nat.zero_le _) (rest_KO b x y 0) hcs (by rw [List.length_nil]; omega)
    have e1' : m_merge_merger_row_l1 (m_merge_merger_item n) n path b x y (vecK b.length (pairsK b x)) (vecK b.length (pairsK b y)) n side 0 0 0 0 cs [] = _ := e1
    rw [e1']
    simp only [Option.bind_some]
    rw [req_t ⟨by omega, by omega, by omega⟩, req_t ⟨by omega, by omega, by omega⟩, req_t ⟨by omega, by omega, by omega⟩]
    simp only [Int.toNat_natCast, List.take_length]
    have c1 := cnts_tk b i
    have c2 := cnts_tk x j
    have c3 := cnts_tk y l
    have hl6 := congrArg List.length e6
    have hl5 := congrArg List.length e5
    simp only [List.length_append, List.length_nil] at hl5 hl6
    have ep := part_eq n side cs' path i (b.drop i) (x.drop j) (y.drop l) hs (by omega) (by omega) (by omega) (by omega) (by omega)
    rw [ep]
    simp only [Option.bind_some]
    rw [req_t (by omega), e5, e6, List.nil_append]
end Go.Proofs.YtgfneloodabafaaDoor
namespace Go.Proofs.YtgfneloodabafaaDoor
open Go.Abs
noncomputable def mergeS (side : Int) (b x y : Nd) : Nd × List Cf × Int :=
  if validB b = true ∧ validB x = true ∧ validB y = true then
    (if validB (rowK (rowM 111 side [] b.kids x.kids y.kids).1) = true then (rowK (rowM 111 side [] b.kids x.kids y.kids).1, (rowM 111 side [] b.kids x.kids y.kids).2, 0) else (zeroNd, [], 6))
  else (zeroNd, [], 1)
theorem tree_eq (n : Nat) (side : Int) (hs : side = 0 ∨ side = 1 ∨ side = 2) (b x y : Nd) (hn : 4 * (b.w + x.w + y.w) + 400 < n) (wb : b.w ≤ 1048576) (wx : x.w ≤ 1048576) (wy : y.w ≤ 1048576) (cb : b.cnt ≤ 110) (cx : x.cnt ≤ 110) (cy : y.cnt ≤ 110) (rb : b.rng) (rx : x.rng) (ry : y.rng) :
    ∃ cs, m_merge_merger_tree n (side, []) b x y = some ((mergeS side b x y).1, (mergeS side b x y).2.2, (side, cs)) ∧ ((mergeS side b x y).2.2 = 0 → cs = (mergeS side b x y).2.1) := by
  have v1 := node_Valid_eq n b (by omega) (by omega)
  have v2 := node_Valid_eq n x (by omega) (by omega)
  have v3 := node_Valid_eq n y (by omega) (by omega)
  have b1 := b.w_eq
  have b2 := x.w_eq
  have b3 := y.w_eq
  have c1 := b.cnt_kids
  have c2 := x.cnt_kids
  have c3 := y.cnt_kids
  unfold mergeS
  by_cases h : validB b = true ∧ validB x = true ∧ validB y = true
  · rw [if_pos h]
    obtain ⟨o1, e1⟩ := okR_of h.1 rb
    obtain ⟨o2, e2⟩ := okR_of h.2.1 rx
    obtain ⟨o3, e3⟩ := okR_of h.2.2 ry
    have hcs := row_cs side 111 [] b.kids x.kids y.kids
    have hws := row_ws side 111 [] b.kids x.kids y.kids
    have hr := rowM_eq side hs 111 n [] [] b.kids x.kids y.kids (by omega) (by omega) (by simp only [List.length_nil]; omega) o1 o2 o3 (by omega) (by omega) (by omega) (by omega) (by omega) (by omega) (by simp only [List.length_nil]; omega)
    have wr : (rowK (rowM 111 side [] b.kids x.kids y.kids).1).w = Nd.ws (rowM 111 side [] b.kids x.kids y.kids).1 + 1 := by simp [rowK, Nd.w]
    have vr := node_Valid_eq n (rowK (rowM 111 side [] b.kids x.kids y.kids).1) (by omega) (by omega)
    rw [h.1] at v1
    rw [h.2.1] at v2
    rw [h.2.2] at v3
    unfold rowK at vr
    unfold rowK
    obtain ⟨p1, p2, p3, p4⟩ := b
    obtain ⟨q1, q2, q3, q4⟩ := x
    obtain ⟨r1, r2, r3, r4⟩ := y
    simp only [Nd.kids] at hr vr ⊢
    refine ⟨(rowM 111 side [] p4 q4 r4).2, ?_⟩
    unfold m_merge_merger_tree
    simp only [v1, v2, v3, Option.bind_some, Bool.not_true, cond_false, hr, vr, List.nil_append]
    by_cases hv : validB (Nd.mk 1 [] 0 (rowM 111 side [] p4 q4 r4).1) = true
    · simp only [hv, if_true, Bool.not_true, cond_false]
      exact ⟨trivial, fun _ => trivial⟩
    · have hv' : validB (Nd.mk 1 [] 0 (rowM 111 side [] p4 q4 r4).1) = false := Bool.eq_false_iff.2 hv
      simp only [hv', Bool.false_eq_true, if_false, Bool.not_false, cond_true]
      exact ⟨rfl, fun h => by cases h⟩
  · rw [if_neg h]
    refine ⟨[], ?_, fun h => by cases h⟩
    obtain ⟨p1, p2, p3, p4⟩ := b
    obtain ⟨q1, q2, q3, q4⟩ := x
    obtain ⟨r1, r2, r3, r4⟩ := y
    unfold m_merge_merger_tree
    simp only [v1, v2, v3, Option.bind_some]
    cases g1 : validB (Nd.mk p1 p2 p3 p4) with
    | false => rfl
    | true =>
      cases g2 : validB (Nd.mk q1 q2 q3 q4) with
      | false => rfl
      | true =>
        cases g3 : validB (Nd.mk r1 r2 r3 r4) with
        | false => rfl
        | true => exact absurd ⟨g1, g2, g3⟩ h
theorem mergeS_err (side : Int) (b x y : Nd) : (mergeS side b x y).2.2 ≠ 0 → (mergeS side b x y).1 = zeroNd ∧ (mergeS side b x y).2.1 = [] := by
  unfold mergeS
  split
  · split
    · intro h; exact absurd rfl h
    · intro _; exact ⟨rfl, rfl⟩
  · intro _; exact ⟨rfl, rfl⟩
theorem Three_eq (n : Nat) (b x y : Nd) (hn : 4 * (b.w + x.w + y.w) + 400 < n) (wb : b.w ≤ 1048576) (wx : x.w ≤ 1048576) (wy : y.w ≤ 1048576) (cb : b.cnt ≤ 110) (cx : x.cnt ≤ 110) (cy : y.cnt ≤ 110) (rb : b.rng) (rx : x.rng) (ry : y.rng) :
    m_merge_Three n b x y = some ((mergeS 0 b x y).1, (mergeS 0 b x y).2.1, (mergeS 0 b x y).2.2) := by
  obtain ⟨cs, h1, h2⟩ := tree_eq n 0 (.inl rfl) b x y hn wb wx wy cb cx cy rb rx ry
  have h3 := mergeS_err 0 b x y
  obtain ⟨p1, p2, p3, p4⟩ := b
  obtain ⟨q1, q2, q3, q4⟩ := x
  obtain ⟨r1, r2, r3, r4⟩ := y
  unfold m_merge_Three
  dsimp only
  rw [h1]
  generalize mergeS 0 (Nd.mk p1 p2 p3 p4) (Nd.mk q1 q2 q3 q4) (Nd.mk r1 r2 r3 r4) = m at *
  obtain ⟨⟨m1, m2, m3, m4⟩, ms, me⟩ := m
  dsimp only at h2 h3 ⊢
  simp only [Option.bind_some]
  by_cases he : me = 0
  · subst he
    rw [h2 rfl]; rfl
  · obtain ⟨g1, g2⟩ := h3 he
    rw [show (me != 0) = true from bne_iff_ne.2 he, cond_true, g1, g2]; rfl
theorem Choose_eq (n : Nat) (b x y : Nd) (left : Bool) (hn : 4 * (b.w + x.w + y.w) + 400 < n) (wb : b.w ≤ 1048576) (wx : x.w ≤ 1048576) (wy : y.w ≤ 1048576) (cb : b.cnt ≤ 110) (cx : x.cnt ≤ 110) (cy : y.cnt ≤ 110) (rb : b.rng) (rx : x.rng) (ry : y.rng) :
    m_merge_Choose n b x y left = some ((mergeS (bif left then 1 else 2) b x y).1, (mergeS (bif left then 1 else 2) b x y).2.2) := by
  obtain ⟨cs, h1, _⟩ := tree_eq n (bif left then 1 else 2) (by cases left <;> simp) b x y hn wb wx wy cb cx cy rb rx ry
  obtain ⟨p1, p2, p3, p4⟩ := b
  obtain ⟨q1, q2, q3, q4⟩ := x
  obtain ⟨r1, r2, r3, r4⟩ := y
  unfold m_merge_Choose
  dsimp only
  have e : (bif left then some 1 else some 2 : Option Int) = some (bif left then 1 else 2) := by cases left <;> rfl
  rw [e]
  simp only [Option.bind_some, h1]
  generalize mergeS (bif left then 1 else 2) (Nd.mk p1 p2 p3 p4) (Nd.mk q1 q2 q3 q4) (Nd.mk r1 r2 r3 r4) = m
  obtain ⟨⟨m1, m2, m3, m4⟩, ms, me⟩ := m
  rfl
theorem few17_eq (n : Nat) (a b c : Nd) (h : 110 < n) : ∃ y, m_l17_few n a b c = some y ∧ (y = true → a.cnt ≤ 100 ∧ b.cnt ≤ 100 ∧ c.cnt ≤ 100) := by
  obtain ⟨y1, h1, g1⟩ := Few_eq n a 100 (by omega) (by omega)
  obtain ⟨y2, h2, g2⟩ := Few_eq n b 100 (by omega) (by omega)
  obtain ⟨y3, h3, g3⟩ := Few_eq n c 100 (by omega) (by omega)
  rw [show ((100 : Nat) : Int) = 100 from rfl] at h1 h2 h3
  obtain ⟨a1, a2, a3, a4⟩ := a
  obtain ⟨b1, b2, b3, b4⟩ := b
  obtain ⟨c1, c2, c3, c4⟩ := c
  refine ⟨y1 && (y2 && y3), ?_, fun h => ?_⟩
  · unfold m_l17_few
    simp only [h1, h2, h3, Option.bind_some]
    cases y1 <;> cases y2 <;> rfl
  · simp only [Bool.and_eq_true] at h
    exact ⟨g1 h.1, g2 h.2.1, g3 h.2.2⟩
end Go.Proofs.YtgfneloodabafaaDoor
namespace Go.Proofs.YtgfneloodabafaaDoor
open Go.Abs
def swC (c : Cf) : Cf := (c.1, c.2.1, c.2.2.1, c.2.2.2.2, c.2.2.2.1)
def swS (s : Int) : Int := if s = 1 then 2 else if s = 2 then 1 else s
def swT (u : Nat × Nat × Nat) : Nat × Nat × Nat := (u.1, u.2.2, u.2.1)
theorem pick_sw {side : Int} (hs : side = 0 ∨ side = 1 ∨ side = 2) (b x y : List Nd) : pickK (swS side) b y x = pickK side b x y := by
  rcases hs with rfl | rfl | rfl <;> rfl
theorem part_sw {side : Int} (hs : side = 0 ∨ side = 1 ∨ side = 2) (path : List Int) (i : Nat) (b x y : List Nd) : partK (swS side) path i b y x = ((partK side path i b x y).1, (partK side path i b x y).2.map swC) := by
  unfold partK
  by_cases h1 : x = b
  · by_cases h2 : y = b
    · rw [if_pos h2, if_pos h1, h1, h2]; rfl
    · rw [if_neg h2, if_pos (.inl h1), if_pos h1]; rfl
  · by_cases h2 : y = b
    · rw [if_pos h2, if_neg h1, if_pos (.inl h2)]; rfl
    · rw [if_neg h2, if_neg h1]
      by_cases h3 : x = y
      · rw [if_pos (.inr h3), if_pos (.inr h3.symm), h3]; rfl
      · rw [if_neg (fun h => h.elim h1 h3), if_neg (fun h => h.elim h2 fun e => h3 e.symm), pick_sw hs]; rfl
theorem slots_sw {F F' : RowF} (h : ∀ p b x y, F' p b y x = ((F p b x y).1, (F p b x y).2.map swC)) (path : List Int) (i : Nat) : ∀ (s : Nat) (b x y : List Nd), slotsK F' path i s b y x = ((slotsK F path i s b x y).1, (slotsK F path i s b x y).2.map swC)
  | s, b :: bs, x :: xs, y :: ys => by
    simp only [slotsK, h, slots_sw h path i (s + 1) bs xs ys, List.map_append]
  | s, [], x, y => by cases x <;> cases y <;> rfl
  | s, b :: bs, [], y => by cases y <;> rfl
  | s, b :: bs, x :: xs, [] => rfl
theorem item_sw {F F' : RowF} (h : ∀ p b x y, F' p b y x = ((F p b x y).1, (F p b x y).2.map swC)) {side : Int} (hs : side = 0 ∨ side = 1 ∨ side = 2) (path : List Int) (i : Nat) (b x y : Nd) : itemK F' (swS side) path i b y x = ((itemK F side path i b x y).1, (itemK F side path i b x y).2.map swC) := by
  unfold itemK
  rw [slots_sw h]
  by_cases h1 : x.text = b.text
  · by_cases h2 : y.text = b.text
    · rw [if_pos h2, if_pos h1, h1, h2]
    · rw [if_neg h2, if_pos (.inl h1), if_pos h1]
  · by_cases h2 : y.text = b.text
    · rw [if_pos h2, if_neg h1, if_pos (.inl h2)]
    · rw [if_neg h2, if_neg h1]
      by_cases h3 : x.text = y.text
      · rw [if_pos (.inr h3), if_pos (.inr h3.symm), h3]
      · rw [if_neg (fun h => h.elim h1 h3), if_neg (fun h => h.elim h2 fun e => h3 e.symm), pick_sw hs]; rfl
theorem walk_sw {F F' : RowF} (h : ∀ p b x y, F' p b y x = ((F p b x y).1, (F p b x y).2.map swC)) {side : Int} (hs : side = 0 ∨ side = 1 ∨ side = 2) (path : List Int) (b x y : List Nd) : ∀ (T : List (Nat × Nat × Nat)) (i j k : Nat),
    walkK F' (swS side) path b y x i k j (T.map swT) = ((walkK F side path b x y i j k T).1, (walkK F side path b x y i j k T).2.map swC)
  | [], i, j, k => part_sw hs ..
  | (n, p, q) :: T, i, j, k => by
    have ih := walk_sw h hs path b x y T (n + 1) (p + 1) (q + 1)
    simp only [List.map_cons, swT, walkK, appK]
    rw [ih, part_sw hs, item_sw h hs]
    simp only [List.map_append]
theorem gK_sw (px py : List (Nat × Nat)) (i : Nat) : gK py px i = (gK px py i).map swT := by
  unfold gK
  cases parK px i <;> cases parK py i <;> rfl
theorem kept_sw (n : Nat) (px py : List (Nat × Nat)) : keptK n py px = (keptK n px py).map swT := by
  rw [keptK_rest, keptK_rest]
  unfold restK
  rw [List.map_filterMap]
  congr 1
  funext i
  exact gK_sw px py i
theorem row_sw {side : Int} (hs : side = 0 ∨ side = 1 ∨ side = 2) : ∀ (N : Nat) (p : List Int) (b x y : List Nd), rowM N (swS side) p b y x = ((rowM N side p b x y).1, (rowM N side p b x y).2.map swC)
  | 0, p, b, x, y => rfl
  | N + 1, p, b, x, y => by
    have := walk_sw (row_sw hs N) hs p b x y (keptK b.length (pairsK b x) (pairsK b y)) 0 0 0
    unfold rowM
    rw [kept_sw]
    exact this
theorem mergeS_sw {side : Int} (hs : side = 0 ∨ side = 1 ∨ side = 2) (b x y : Nd) : mergeS (swS side) b y x = ((mergeS side b x y).1, (mergeS side b x y).2.1.map swC, (mergeS side b x y).2.2) := by
  unfold mergeS
  rw [row_sw hs]
  by_cases h : validB b = true ∧ validB x = true ∧ validB y = true
  · rw [if_pos h, if_pos ⟨h.1, h.2.2, h.2.1⟩]
    split <;> rfl
  · rw [if_neg h, if_neg fun g => h ⟨g.1, g.2.2, g.2.1⟩]; rfl
theorem kept_mem {n : Nat} {px py : List (Nat × Nat)} {u : Nat × Nat × Nat} (h : u ∈ keptK n px py) : (u.1, u.2.1) ∈ px ∧ (u.1, u.2.2) ∈ py := by
  rw [keptK_rest] at h
  obtain ⟨i, _, hi⟩ := List.mem_filterMap.1 h
  obtain ⟨rfl, h1, h2⟩ := gK_some hi
  exact ⟨parK_mem h1, parK_mem h2⟩
end Go.Proofs.YtgfneloodabafaaDoor
namespace Go.Proofs.YtgfneloodabafaaDoor
open Go.Abs
theorem findL_none1' {n : Nd} {i s : Int} {p : List Int} (h : ¬ (0 ≤ i ∧ i < n.kids.length)) : findL n (i :: s :: p) = none := by rw [findL, if_neg h]
theorem findL_none2' {n x : Nd} {i : Nat} {s : Int} {p : List Int} (hx : n.kids[i]? = some x) (h : ¬ (0 ≤ s ∧ s < x.kids.length)) : findL n ((i : Int) :: s :: p) = none := by
  have hl := (List.getElem?_eq_some_iff.1 hx).1
  rw [findL, if_pos ⟨by omega, by omega⟩]
  simp only [List.getD_eq_getElem?_getD, Int.toNat_natCast, hx, Option.getD_some]
  rw [if_neg h]
theorem findL_step' {n x z : Nd} {i s : Nat} {p : List Int} (hx : n.kids[i]? = some x) (hz : x.kids[s]? = some z) : findL n ((i : Int) :: (s : Int) :: p) = findL z p := by
  have hl := (List.getElem?_eq_some_iff.1 hx).1
  have hl2 := (List.getElem?_eq_some_iff.1 hz).1
  rw [findL, if_pos ⟨by omega, by omega⟩]
  simp only [List.getD_eq_getElem?_getD, Int.toNat_natCast, hx, hz, Option.getD_some]
  rw [if_pos ⟨by omega, by omega⟩]
end Go.Proofs.YtgfneloodabafaaDoor
namespace Go.Proofs.YtgfneloodabafaaDoor
open Go.Abs
theorem rowK_kids (l : List Nd) : (rowK l).kids = l := rfl
theorem mk_kids (k : Int) (t : List UInt8) (c : Int) (l : List Nd) : (Nd.mk k t c l).kids = l := rfl
theorem align_tail : ∀ (k i j : Nat) (a b : List Nd) (s t : Nat), (i + s, j + t) ∈ alignP k i j a b → ∃ k', ∀ u ∈ alignP k i j a b, i + s < u.1 → u ∈ alignP k' (i + s + 1) (j + t + 1) (a.drop (s + 1)) (b.drop (t + 1))
  | 0, i, j, a, b, s, t, h => by unfold alignP at h; cases h
  | k + 1, i, j, [], b, s, t, h => by unfold alignP at h; cases h
  | k + 1, i, j, x :: xs, [], s, t, h => by unfold alignP at h; cases h
  | k + 1, i, j, x :: xs, y :: ys, s, t, h => by
    unfold alignP at h
    cases h1 : (alikeB x y && (DL (x :: xs) (y :: ys) == DL xs ys + D x y)) with
    | true =>
      rw [h1, cond_true] at h
      have hu : alignP (k + 1) i j (x :: xs) (y :: ys) = (i, j) :: alignP k (i + 1) (j + 1) xs ys := by rw [alignP, h1, cond_true]
      rw [hu]
      rcases List.mem_cons.1 h with e | h
      · have e1 := (Prod.mk.inj e).1
        have e2 := (Prod.mk.inj e).2
        obtain rfl : s = 0 := by omega
        obtain rfl : t = 0 := by omega
        refine ⟨k, fun u hu hlt => ?_⟩
        rcases List.mem_cons.1 hu with rfl | hu
        · dsimp only at hlt; omega
        · exact hu
      · obtain ⟨s', t', _, _, e, _⟩ := alignP_in k (i + 1) (j + 1) xs ys _ h
        have e1 := (Prod.mk.inj e).1
        have e2 := (Prod.mk.inj e).2
        obtain rfl : s = s' + 1 := by omega
        obtain rfl : t = t' + 1 := by omega
        rw [show i + (s' + 1) = i + 1 + s' by omega, show j + (t' + 1) = j + 1 + t' by omega] at h ⊢
        obtain ⟨k', g⟩ := align_tail k (i + 1) (j + 1) xs ys s' t' h
        refine ⟨k', fun u hu hlt => ?_⟩
        rcases List.mem_cons.1 hu with rfl | hu
        · dsimp only at hlt; omega
        · exact g u hu hlt
    | false =>
      rw [h1, cond_false] at h
      cases hc : ((DL (x :: xs) (y :: ys) == DL xs (y :: ys) + x.cnt) && (!(DL (x :: xs) (y :: ys) == DL (x :: xs) ys + y.cnt) || Op.bytesLess (dumpL x) (dumpL y))) with
      | true =>
        rw [hc, cond_true] at h
        have hu : alignP (k + 1) i j (x :: xs) (y :: ys) = alignP k (i + 1) j xs (y :: ys) := by rw [alignP, h1, cond_false, hc, cond_true]
        rw [hu]
        obtain ⟨s', t', _, _, e, _⟩ := alignP_in k (i + 1) j xs (y :: ys) _ h
        have e1 := (Prod.mk.inj e).1
        have e2 := (Prod.mk.inj e).2
        obtain rfl : s = s' + 1 := by omega
        rw [show i + (s' + 1) = i + 1 + s' by omega] at h ⊢
        obtain ⟨k', g⟩ := align_tail k (i + 1) j xs (y :: ys) s' t h
        exact ⟨k', fun u hu hlt => g u hu hlt⟩
      | false =>
        rw [hc, cond_false] at h
        have hu : alignP (k + 1) i j (x :: xs) (y :: ys) = alignP k i (j + 1) (x :: xs) ys := by rw [alignP, h1, cond_false, hc, cond_false]
        rw [hu]
        obtain ⟨s', t', _, _, e, _⟩ := alignP_in k i (j + 1) (x :: xs) ys _ h
        have e1 := (Prod.mk.inj e).1
        have e2 := (Prod.mk.inj e).2
        obtain rfl : t = t' + 1 := by omega
        rw [show j + (t' + 1) = j + 1 + t' by omega] at h ⊢
        obtain ⟨k', g⟩ := align_tail k i (j + 1) (x :: xs) ys s t' h
        exact ⟨k', fun u hu hlt => g u hu hlt⟩
theorem part_cost {side : Int} (path : List Int) (i : Nat) (b x y : List Nd) : DL b (partK side path i b x y).1 ≤ DL b x + DL b y := by
  unfold partK pickK
  have := DL_self b
  repeat' split
  all_goals first
    | (dsimp only; omega)
theorem DL_one {v w : Nd} (h : alikeB v w = true) : DL [v] [w] ≤ D v w := by
  have := DL_mat h [] []
  rw [DL_nil] at this
  omega
theorem slots_cost {F : RowF} (path : List Int) (i : Nat) : ∀ (s : Nat) (b x y : List Nd), b.length = x.length → b.length = y.length → (∀ p u v w, u ∈ b → DL u.kids (F p u.kids v w).1 ≤ DL u.kids v + DL u.kids w) →
    sumD DL b (slotsK F path i s b x y).1 ≤ sumD DL b x + sumD DL b y ∧ (slotsK F path i s b x y).1.length = b.length
  | s, [], [], [], _, _, _ => ⟨Nat.zero_le _, rfl⟩
  | s, [], _ :: _, _, h, _, _ => by cases h
  | s, [], [], _ :: _, _, h, _ => by cases h
  | s, _ :: _, [], _, h, _, _ => by cases h
  | s, _ :: _, _ :: _, [], _, h, _ => by cases h
  | s, b :: bs, x :: xs, y :: ys, hx, hy, h => by
    obtain ⟨h1, h2⟩ := slots_cost (F := F) path i (s + 1) bs xs ys (by simpa using hx) (by simpa using hy) fun p u v w hu => h p u v w (List.mem_cons_of_mem _ hu)
    have h3 := h (path ++ [(i : Int), (s : Int)]) b x.kids y.kids List.mem_cons_self
    simp only [slotsK, sumD, rowK_kids, List.length_cons]
    omega
theorem item_cost {F : RowF} {side : Int} (path : List Int) (n : Nat) (v w z : Nd) (h1 : alikeB v w = true) (h2 : alikeB v z = true) (hF : ∀ p u a c, u ∈ v.kids → DL u.kids (F p u.kids a c).1 ≤ DL u.kids a + DL u.kids c) : DL [v] (itemK F side path n v w z).1 ≤ D v w + D v z := by
  obtain ⟨s1, s2⟩ := slots_cost (F := F) path n 0 v.kids w.kids z.kids (alike_len h1) (alike_len h2) hF
  have d1 := D_eq v w
  have d2 := D_eq v z
  have o1 := DL_one h1
  have o2 := DL_one h2
  have ha : ∀ t, alikeB v (.mk v.kind t v.cols (slotsK F path n 0 v.kids w.kids z.kids).1) = true := fun t => alike_iff.2 ⟨rfl, s2.symm, rfl⟩
  have key : ∀ t, DL [v] [Nd.mk v.kind t v.cols (slotsK F path n 0 v.kids w.kids z.kids).1] ≤ txt v (.mk v.kind t v.cols []) + (sumD DL v.kids w.kids + sumD DL v.kids z.kids) := fun t => by
    have q1 := DL_one (ha t)
    have q2 := D_eq v (.mk v.kind t v.cols (slotsK F path n 0 v.kids w.kids z.kids).1)
    have q3 : txt v (.mk v.kind t v.cols (slotsK F path n 0 v.kids w.kids z.kids).1) = txt v (.mk v.kind t v.cols []) := rfl
    simp only [mk_kids] at q2
    omega
  by_cases t1 : w.text = v.text
  · rw [itemK_1 t1]
    have k := key z.text
    have q : txt v (.mk v.kind z.text v.cols []) = txt v z := rfl
    dsimp only
    omega
  · by_cases t2 : z.text = v.text ∨ z.text = w.text
    · rw [itemK_2 t1 t2]
      have k := key w.text
      have q : txt v (.mk v.kind w.text v.cols []) = txt v w := rfl
      dsimp only
      omega
    · rw [itemK_3 t1 t2]
      have := DL_self [v]
      unfold pickK
      dsimp only
      repeat' split
      all_goals omega
theorem drop_take_cut {l : List Nd} {p q : Nat} (h : p ≤ q) : (l.drop p).take (q - p) = cutK l p q := by unfold cutK; rw [List.drop_take]
theorem walk_cost {F : RowF} {side : Int} (path : List Int) (b x y : List Nd) (hF : ∀ v ∈ b, ∀ p u a c, u ∈ v.kids → DL u.kids (F p u.kids a c).1 ≤ DL u.kids a + DL u.kids c) : ∀ (T : List (Nat × Nat × Nat)) (i j k kx ky : Nat), KO b x y i j k T →
    (∀ u ∈ T, (u.1, u.2.1) ∈ alignP kx i j (b.drop i) (x.drop j)) → (∀ u ∈ T, (u.1, u.2.2) ∈ alignP ky i k (b.drop i) (y.drop k)) →
    DL (b.drop i) (walkK F side path b x y i j k T).1 ≤ DL (b.drop i) (x.drop j) + DL (b.drop i) (y.drop k)
  | [], i, j, k, kx, ky, _, _, _ => part_cost ..
  | (n, p, q) :: T, i, j, k, kx, ky, ko, hx, hy => by
    obtain ⟨o1, o2, o3, v, w, z, r1, r2, r3, r4, r5⟩ := ko.head
    have mx := hx (n, p, q) List.mem_cons_self
    have my := hy (n, p, q) List.mem_cons_self
    dsimp only at mx my
    have lt := (List.pairwise_cons.1 ko.1).1
    have tx : ∃ k', ∀ u ∈ T, (u.1, u.2.1) ∈ alignP k' (n + 1) (p + 1) (b.drop (n + 1)) (x.drop (p + 1)) := by
      obtain ⟨k', g⟩ := align_tail kx i j (b.drop i) (x.drop j) (n - i) (p - j) (by rw [Nat.add_sub_cancel' o1, Nat.add_sub_cancel' o2]; exact mx)
      rw [List.drop_drop, List.drop_drop, Nat.add_sub_cancel' o1, Nat.add_sub_cancel' o2, show i + (n - i + 1) = n + 1 by omega, show j + (p - j + 1) = p + 1 by omega] at g
      exact ⟨k', fun u hu => g _ (hx u (List.mem_cons_of_mem _ hu)) (lt u hu).1⟩
    have ty : ∃ k', ∀ u ∈ T, (u.1, u.2.2) ∈ alignP k' (n + 1) (q + 1) (b.drop (n + 1)) (y.drop (q + 1)) := by
      obtain ⟨k', g⟩ := align_tail ky i k (b.drop i) (y.drop k) (n - i) (q - k) (by rw [Nat.add_sub_cancel' o1, Nat.add_sub_cancel' o3]; exact my)
      rw [List.drop_drop, List.drop_drop, Nat.add_sub_cancel' o1, Nat.add_sub_cancel' o3, show i + (n - i + 1) = n + 1 by omega, show k + (q - k + 1) = q + 1 by omega] at g
      exact ⟨k', fun u hu => g _ (hy u (List.mem_cons_of_mem _ hu)) (lt u hu).1⟩
    obtain ⟨kx', tx⟩ := tx
    obtain ⟨ky', ty⟩ := ty
    have ih := walk_cost (F := F) (side := side) path b x y hF T (n + 1) (p + 1) (q + 1) kx' ky' ko.tail tx ty
    obtain ⟨v1, w1, f1, f2, f3, f4⟩ := align_split kx i j (b.drop i) (x.drop j) (n - i) (p - j) (by rw [Nat.add_sub_cancel' o1, Nat.add_sub_cancel' o2]; exact mx)
    obtain ⟨v2, z2, g1, g2, g3, g4⟩ := align_split ky i k (b.drop i) (y.drop k) (n - i) (q - k) (by rw [Nat.add_sub_cancel' o1, Nat.add_sub_cancel' o3]; exact my)
    rw [List.getElem?_drop, Nat.add_sub_cancel' o1, r1] at f1 g1
    rw [List.getElem?_drop, Nat.add_sub_cancel' o2, r2] at f2
    rw [List.getElem?_drop, Nat.add_sub_cancel' o3, r3] at g2
    obtain rfl := Option.some.inj f1
    obtain rfl := Option.some.inj g1
    obtain rfl := Option.some.inj f2
    obtain rfl := Option.some.inj g2
    rw [drop_take_cut o1, drop_take_cut o2, List.drop_drop, List.drop_drop, show i + (n - i + 1) = n + 1 by omega, show j + (p - j + 1) = p + 1 by omega] at f4
    rw [drop_take_cut o1, drop_take_cut o3, List.drop_drop, List.drop_drop, show i + (n - i + 1) = n + 1 by omega, show k + (q - k + 1) = q + 1 by omega] at g4
    have hp := part_cost (side := side) path i (cutK b i n) (cutK x j p) (cutK y k q)
    have hi := item_cost (F := F) (side := side) path n v w z r4 r5 (hF v (List.mem_of_getElem? r1))
    have e : (walkK F side path b x y i j k ((n, p, q) :: T)).1 = (partK side path i (cutK b i n) (cutK x j p) (cutK y k q)).1 ++ ((itemK F side path n v w z).1 ++ (walkK F side path b x y (n + 1) (p + 1) (q + 1) T).1) := by
      simp only [walkK, appK, getD_nd r1, getD_nd r2, getD_nd r3]
    rw [e]
    have a1 := DL_app (cutK b i n) (partK side path i (cutK b i n) (cutK x j p) (cutK y k q)).1 (v :: b.drop (n + 1)) ((itemK F side path n v w z).1 ++ (walkK F side path b x y (n + 1) (p + 1) (q + 1) T).1)
    have a2 := DL_app [v] (itemK F side path n v w z).1 (b.drop (n + 1)) (walkK F side path b x y (n + 1) (p + 1) (q + 1) T).1
    rw [← cut_get o1 r1] at a1
    rw [show [v] ++ b.drop (n + 1) = v :: b.drop (n + 1) from rfl] at a2
    omega
theorem row_cost (side : Int) : ∀ (N : Nat) (p : List Int) (b x y : List Nd), Nd.cnts b < N → DL b (rowM N side p b x y).1 ≤ DL b x + DL b y
  | 0, _, _, _, _, h => by omega
  | N + 1, p, b, x, y, h => by
    have := walk_cost (F := rowM N side) (side := side) p b x y (fun v hv p u a c hu => row_cost side N p u.kids a c (by
      have m1 := Nd.cnts_mem hv
      have m2 := Nd.cnts_mem hu
      have k1 := v.cnt_kids
      have k2 := u.cnt_kids
      omega)) (keptK b.length (pairsK b x) (pairsK b y)) 0 0 0 _ _ (kept_KO b x y) (fun u hu => (kept_mem hu).1) (fun u hu => (kept_mem hu).2)
    unfold rowM
    exact this
theorem findL_kids {t t' : Nd} (h : t.kids = t'.kids) : ∀ {p : List Int} {r : Nd}, findL t p = some r → ∃ r', findL t' p = some r' ∧ r'.kids = r.kids
  | [], r, e => by
    obtain rfl := Option.some.inj (show some t = some r from e)
    exact ⟨t', rfl, h.symm⟩
  | [_], r, e => by cases e
  | i :: s :: p, r, e => by
    by_cases h1 : 0 ≤ i ∧ i < t.kids.length
    · have hi : i.toNat < t.kids.length := by omega
      have hx : t.kids[i.toNat]? = some t.kids[i.toNat] := List.getElem?_eq_getElem hi
      have hx' : t'.kids[i.toNat]? = some t.kids[i.toNat] := by rw [← h]; exact hx
      have ei : ((i.toNat : Nat) : Int) = i := by omega
      by_cases h2 : 0 ≤ s ∧ s < (t.kids[i.toNat]).kids.length
      · have hs : s.toNat < (t.kids[i.toNat]).kids.length := by omega
        have hz : (t.kids[i.toNat]).kids[s.toNat]? = some (t.kids[i.toNat]).kids[s.toNat] := List.getElem?_eq_getElem hs
        have es : ((s.toNat : Nat) : Int) = s := by omega
        have s1 := findL_step' (p := p) hx hz
        have s2 := findL_step' (n := t') (p := p) hx' hz
        rw [ei, es] at s1 s2
        rw [s1] at e
        exact ⟨r, s2.trans e, rfl⟩
      · have := findL_none2' (s := s) (p := p) hx h2
        rw [ei] at this
        rw [this] at e
        cases e
    · rw [findL_none1' h1] at e
      cases e
def CfOk (b x y : List Nd) (path : List Int) (c : Cf) : Prop :=
  ∃ (rest : List Int) (r : Nd) (f t : Nat), c.1 = path ++ rest ∧ rest.length ≤ 2 * Nd.cnts b ∧ findL (rowK b) rest = some r ∧ c.2.1 = (f : Int) ∧ c.2.2.1 = (t : Int) ∧ f ≤ t ∧ t ≤ r.kids.length ∧
    c.2.2.2.1 ≠ c.2.2.2.2 ∧ c.2.2.2.1 ≠ cutK r.kids f t ∧ c.2.2.2.2 ≠ cutK r.kids f t ∧ Nd.cnts c.2.2.2.1 ≤ Nd.cnts x ∧ Nd.cnts c.2.2.2.2 ≤ Nd.cnts y
theorem cut_len {l : List Nd} {p q : Nat} (h : p ≤ q) (h' : q ≤ l.length) : (cutK l p q).length = q - p := by
  unfold cutK
  rw [List.length_drop, List.length_take]
  omega
theorem part_conf {side : Int} {path : List Int} {b x y cx cy : List Nd} {i n : Nat} (h : i ≤ n) (h' : n ≤ b.length) (hx : Nd.cnts cx ≤ Nd.cnts x) (hy : Nd.cnts cy ≤ Nd.cnts y) {c : Cf} (hc : c ∈ (partK side path i (cutK b i n) cx cy).2) : CfOk b x y path c := by
  unfold partK at hc
  split at hc
  · cases hc
  · rename_i h1
    split at hc
    · cases hc
    · rename_i h2
      obtain rfl := List.mem_singleton.1 hc
      have el : i + (cutK b i n).length = n := by rw [cut_len h h']; omega
      refine ⟨[], rowK b, i, n, (List.append_nil _).symm, Nat.zero_le _, rfl, rfl, ?_, h, h', ?_, ?_, ?_, hx, hy⟩
      · show (i : Int) + ((cutK b i n).length : Int) = (n : Int)
        omega
      · exact fun e => h2 (.inr e.symm)
      · exact h1
      · exact fun e => h2 (.inl e)
theorem slots_in {F : RowF} {path : List Int} {i : Nat} {c : Cf} : ∀ (s : Nat) (b x y : List Nd), c ∈ (slotsK F path i s b x y).2 → ∃ (r : Nat) (u v w : Nd), b[r]? = some u ∧ x[r]? = some v ∧ y[r]? = some w ∧ c ∈ (F (path ++ [(i : Int), ((s + r : Nat) : Int)]) u.kids v.kids w.kids).2
  | s, b :: bs, x :: xs, y :: ys, h => by
    simp only [slotsK] at h
    rcases List.mem_append.1 h with h | h
    · exact ⟨0, b, x, y, rfl, rfl, rfl, h⟩
    · obtain ⟨r, u, v, w, h1, h2, h3, h4⟩ := slots_in (s + 1) bs xs ys h
      exact ⟨r + 1, u, v, w, h1, h2, h3, by rw [show s + (r + 1) = s + 1 + r by omega]; exact h4⟩
  | s, [], _, _, h => by simp only [slotsK] at h; cases h
  | s, _ :: _, [], _, h => by simp only [slotsK] at h; cases h
  | s, _ :: _, _ :: _, [], h => by simp only [slotsK] at h; cases h
theorem walk_conf {F : RowF} {side : Int} {path : List Int} {b x y : List Nd} (hF : ∀ p b x y, ∀ c ∈ (F p b x y).2, CfOk b x y p c) : ∀ (T : List (Nat × Nat × Nat)) (i j k : Nat), i ≤ b.length → KO b x y i j k T → ∀ c ∈ (walkK F side path b x y i j k T).2, CfOk b x y path c
  | [], i, j, k, hi, _, c, hc => by
    unfold walkK at hc
    have e : b.drop i = cutK b i b.length := by unfold cutK; rw [List.take_length]
    rw [e] at hc
    have h1 := cnts_tk x j
    have h2 := cnts_tk y k
    exact part_conf hi (Nat.le_refl _) (by omega) (by omega) hc
  | (n, p, q) :: T, i, j, k, hi, ko, c, hc => by
    obtain ⟨o1, o2, o3, v, w, z, r1, r2, r3, r4, r5⟩ := ko.head
    have hn := (List.getElem?_eq_some_iff.1 r1).1
    simp only [walkK, appK, getD_nd r1, getD_nd r2, getD_nd r3] at hc
    rcases List.mem_append.1 hc with hc | hc
    · exact part_conf o1 (by omega) (cut_cnts x j p) (cut_cnts y k q) hc
    · rcases List.mem_append.1 hc with hc | hc
      · have mv := List.mem_of_getElem? r1
        have cv := Nd.cnts_mem mv
        have cw := Nd.cnts_mem (List.mem_of_getElem? r2)
        have cz := Nd.cnts_mem (List.mem_of_getElem? r3)
        have kv := v.cnt_kids
        have kw := w.cnt_kids
        have kz := z.cnt_kids
        have slots : c ∈ (slotsK F path n 0 v.kids w.kids z.kids).2 → CfOk b x y path c := fun hc => by
          obtain ⟨s, u, u', u'', g1, g2, g3, g4⟩ := slots_in 0 _ _ _ hc
          obtain ⟨rest, r, f, t, h1, h2, h3, h4, h5, h6, h7, h8, h9, h10, h11, h12⟩ := hF _ _ _ _ c g4
          have e1 := Nd.cnts_mem (List.mem_of_getElem? g1)
          have e2 := Nd.cnts_mem (List.mem_of_getElem? g2)
          have e3 := Nd.cnts_mem (List.mem_of_getElem? g3)
          have ku := u.cnt_kids
          have ku' := u'.cnt_kids
          have ku'' := u''.cnt_kids
          obtain ⟨r', f1, f2⟩ := findL_kids (t := rowK u.kids) (t' := u) rfl h3
          refine ⟨[(n : Int), (s : Int)] ++ rest, r', f, t, ?_, ?_, ?_, h4, h5, h6, by rw [f2]; exact h7, h8, by rw [f2]; exact h9, by rw [f2]; exact h10, by omega, by omega⟩
          · rw [h1, Nat.zero_add, List.append_assoc]
          · simp only [List.length_append, List.length_cons, List.length_nil]; omega
          · exact (findL_step' (n := rowK b) r1 g1).trans f1
        unfold itemK at hc
        split at hc
        · exact slots hc
        · rename_i t1
          split at hc
          · exact slots hc
          · rename_i t2
            obtain rfl := List.mem_singleton.1 hc
            have e : cutK b n (n + 1) = [v] := by
              have := cut_drop (l := b) (Nat.le_succ n)
              rw [get_drop r1] at this
              have hl := cut_len (l := b) (Nat.le_succ n) hn
              rw [Nat.succ_eq_add_one] at this hl
              match hcut : cutK b n (n + 1), hl with
              | [v'], _ => rw [hcut] at this; rw [(List.cons.inj this).1]
              | [], hl => simp at hl
              | _ :: _ :: _, hl => simp only [List.length_cons] at hl; omega
            refine ⟨[], rowK b, n, n + 1, (List.append_nil _).symm, Nat.zero_le _, rfl, rfl, rfl, Nat.le_succ n, hn, ?_, ?_, ?_, ?_, ?_⟩
            · exact fun h => t2 (.inr (by rw [(List.cons.inj h).1]))
            · intro h
              rw [show cutK (rowK b).kids n (n + 1) = [v] from e] at h
              exact t1 (by rw [(List.cons.inj h).1])
            · intro h
              rw [show cutK (rowK b).kids n (n + 1) = [v] from e] at h
              exact t2 (.inl (by rw [(List.cons.inj h).1]))
            · simp only [Nd.cnts]; omega
            · simp only [Nd.cnts]; omega
      · exact walk_conf hF T (n + 1) (p + 1) (q + 1) hn ko.tail c hc
theorem row_conf (side : Int) : ∀ (N : Nat) (p : List Int) (b x y : List Nd), ∀ c ∈ (rowM N side p b x y).2, CfOk b x y p c
  | 0, _, _, _, _, _, h => by cases h
  | N + 1, p, b, x, y, c, h => by
    unfold rowM at h
    exact walk_conf (row_conf side N) _ 0 0 0 (Nat.zero_le _) (kept_KO b x y) c h
end Go.Proofs.YtgfneloodabafaaDoor
namespace Go.Proofs.YtgfneloodabafaaDoor
open Go.Abs
theorem awake17_ok (k : Nat) : m_l17_awake (k + 100) = some true := by
  with_unfolding_all rfl
end Go.Proofs.YtgfneloodabafaaDoor
namespace Go.Proofs.YtgfneloodabafaaDoor
open Go.Abs
theorem Eq_self (n : Nat) (t : Nd) (h : 2 * t.cnt < n) (hc : t.cnt ≤ 67108864) : m_r09_Equal n t t = some true := by
  obtain ⟨r, h1, h2⟩ := (Equal_eq n).1 t t h hc
  rw [h1, h2.2 rfl]
theorem mergeS_cnt (side : Int) (b x y : Nd) : (mergeS side b x y).1.cnt ≤ (mergeS side b x y).1.w := Nd.cnt_w _
theorem mergeS_w (side : Int) (b x y : Nd) : (mergeS side b x y).1.w ≤ b.w + x.w + y.w := by
  have h := row_ws side 111 [] b.kids x.kids y.kids
  have e1 := b.w_eq
  have e2 := x.w_eq
  have e3 := y.w_eq
  unfold mergeS
  split
  · split
    · simp only [rowK, Nd.w, List.length_nil]; omega
    · simp only [zeroNd, Nd.w, Nd.ws, List.length_nil]; omega
  · simp only [zeroNd, Nd.w, Nd.ws, List.length_nil]; omega
theorem sc_path (p : List Int) (hp : p.length ≤ 1000000) {a1 a2 : List Cf} {i : Nat} {f t f' t' : Int} {l r l' r' : List Nd} (h1 : at? a1 (i : Int) = some (p, f, t, l, r)) (h2 : at? a2 (i : Int) = some (p, f', t', l', r')) : ∀ (k s : Nat), p.length - s < k → s ≤ p.length → m_r17_SameConflicts_l2 a1 a2 (i : Int) k (s : Int) = some (.go ())
  | 0, s, h, _ => by omega
  | k + 1, s, h, hs => by
    unfold m_r17_SameConflicts_l2
    rw [h1]
    simp only [Option.bind_some]
    by_cases hj : s < p.length
    · rw [dec_t (Int.ofNat_lt.2 hj), cond_true, at_get hj, h2]
      simp only [Option.bind_some, at_get hj, bne_self_eq_false, cond_false]
      rw [wi_succ (by omega)]
      exact sc_path p hp h1 h2 k (s + 1) (by omega) (by omega)
    · rw [dec_f (by omega), cond_false]
theorem sc_loop (n : Nat) (ex : Bool) (cs : List Cf) (hl : cs.length ≤ 1000000) (hc : ∀ c ∈ cs, c.1.length ≤ 1000000 ∧ c.1.length < n ∧ Nd.cnts c.2.2.2.1 ≤ 1000000 ∧ Nd.cnts c.2.2.2.2 ≤ 1000000) (hn : 2000002 < n) : ∀ (k i : Nat), cs.length - i < k → i ≤ cs.length →
    m_r17_SameConflicts_l1 n cs (bif ex then cs.map swC else cs) ex k (i : Int) = some (.go ())
  | 0, i, h, _ => by omega
  | k + 1, i, h, hi => by
    unfold m_r17_SameConflicts_l1
    by_cases hj : i < cs.length
    · have h1 : at? cs (i : Int) = some cs[i] := at_get hj
      have h2 : at? (bif ex then cs.map swC else cs) (i : Int) = some (bif ex then swC cs[i] else cs[i]) := by
        cases ex with
        | true => exact map_at swC hj
        | false => exact h1
      obtain ⟨c1, c2, c3, c4⟩ := hc _ (List.getElem_mem hj)
      have ih := sc_loop n ex cs hl hc hn k (i + 1) (by omega) (by omega)
      rw [dec_t (Int.ofNat_lt.2 hj), cond_true]
      generalize cs[i] = c at *
      obtain ⟨p, f, t, l, r⟩ := c
      dsimp only at c1 c2 c3 c4
      obtain ⟨r1, q1, g1⟩ := (Equal_eq n).2 l l (by omega) (by omega)
      obtain ⟨r2, q2, g2⟩ := (Equal_eq n).2 r r (by omega) (by omega)
      rw [g1.2 rfl] at q1
      rw [g2.2 rfl] at q2
      cases ex with
      | true =>
        have h2' : at? (cs.map swC) (i : Int) = some (p, f, t, r, l) := h2
        have hp := sc_path p c1 h1 h2' n 0 (by omega) (Nat.zero_le _)
        rw [show ((0 : Nat) : Int) = 0 from rfl] at hp
        simp only [cond_true] at ih ⊢
        simp only [h1, h2', Option.bind_some, bne_self_eq_false, cond_false, q1, q2, Bool.not_true, hp, wi_succ (show i < 9223372036854775807 by omega), ih]
      | false =>
        have hp := sc_path p c1 h1 h1 n 0 (by omega) (Nat.zero_le _)
        rw [show ((0 : Nat) : Int) = 0 from rfl] at hp
        simp only [cond_false] at ih ⊢
        simp only [h1, Option.bind_some, bne_self_eq_false, cond_false, q1, q2, Bool.not_true, hp, wi_succ (show i < 9223372036854775807 by omega), ih]
    · rw [dec_f (by omega), cond_false]
theorem sc_eq (n : Nat) (ex : Bool) (cs : List Cf) (hl : cs.length ≤ 1000000) (hc : ∀ c ∈ cs, c.1.length ≤ 1000000 ∧ c.1.length < n ∧ Nd.cnts c.2.2.2.1 ≤ 1000000 ∧ Nd.cnts c.2.2.2.2 ≤ 1000000) (hn : 2000002 < n) : m_r17_SameConflicts n cs (bif ex then cs.map swC else cs) ex = some true := by
  have := sc_loop n ex cs hl hc hn n 0 (by omega) (Nat.zero_le _)
  rw [show ((0 : Nat) : Int) = 0 from rfl] at this
  have e : (bif ex then cs.map swC else cs).length = cs.length := by cases ex <;> simp
  unfold m_r17_SameConflicts
  dsimp only
  rw [e, bne_self_eq_false, cond_false, this]
  rfl
theorem mergeS_conf {side : Int} {b x y : Nd} : ∀ c ∈ (mergeS side b x y).2.1, validB b = true ∧ CfOk b.kids x.kids y.kids [] c := by
  unfold mergeS
  intro c hc
  split at hc
  · rename_i h
    split at hc
    · exact ⟨h.1, row_conf side 111 [] _ _ _ c hc⟩
    · cases hc
  · cases hc
theorem mergeS_len (side : Int) (b x y : Nd) : (mergeS side b x y).2.1.length ≤ 2 * b.cnt := by
  have h := row_cs side 111 [] b.kids x.kids y.kids
  have k := b.cnt_kids
  unfold mergeS
  split
  · split
    · dsimp only; omega
    · exact Nat.zero_le _
  · exact Nat.zero_le _
theorem mergeS_small {side : Int} {b x y : Nd} (hb : b.cnt ≤ 110) (hx : x.cnt ≤ 110) (hy : y.cnt ≤ 110) (n : Nat) (hn : 1000 < n) : ∀ c ∈ (mergeS side b x y).2.1, c.1.length ≤ 1000000 ∧ c.1.length < n ∧ Nd.cnts c.2.2.2.1 ≤ 1000000 ∧ Nd.cnts c.2.2.2.2 ≤ 1000000 := fun c hc => by
  obtain ⟨_, rest, r, f, t, h1, h2, h3, h4, h5, h6, h7, h8, h9, h10, h11, h12⟩ := mergeS_conf c hc
  have k1 := b.cnt_kids
  have k2 := x.cnt_kids
  have k3 := y.cnt_kids
  rw [h1, List.nil_append]
  omega
theorem MergeSides_eq (a b c : Nd) (ha : a.w ≤ 1048576) (hb : b.w ≤ 1048576) (hc : c.w ≤ 1048576) (ra : a.rng) (rb : b.rng) (rc : c.rng) : m_l17_MergeSides (60000000 + 100) a b c = some true := by
  have hw := awake17_ok 60000000
  obtain ⟨y, h1, h2⟩ := few17_eq (60000000 + 100) a b c (by omega)
  have key : y = true → m_merge_Three (60000000 + 100) a b c = some ((mergeS 0 a b c).1, (mergeS 0 a b c).2.1, (mergeS 0 a b c).2.2) ∧ m_merge_Three (60000000 + 100) a c b = some ((mergeS 0 a b c).1, (mergeS 0 a b c).2.1.map swC, (mergeS 0 a b c).2.2) ∧
      m_merge_Choose (60000000 + 100) a b c true = some ((mergeS 1 a b c).1, (mergeS 1 a b c).2.2) ∧ m_merge_Choose (60000000 + 100) a c b false = some ((mergeS 1 a b c).1, (mergeS 1 a b c).2.2) ∧
      m_r17_SameConflicts (60000000 + 100) (mergeS 0 a b c).2.1 ((mergeS 0 a b c).2.1.map swC) true = some true := fun hy => by
    obtain ⟨c1, c2, c3⟩ := h2 hy
    have t1 := Three_eq (60000000 + 100) a b c (by omega) ha hb hc (by omega) (by omega) (by omega) ra rb rc
    have t2 := Three_eq (60000000 + 100) a c b (by omega) ha hc hb (by omega) (by omega) (by omega) ra rc rb
    have t3 := Choose_eq (60000000 + 100) a b c true (by omega) ha hb hc (by omega) (by omega) (by omega) ra rb rc
    have t4 := Choose_eq (60000000 + 100) a c b false (by omega) ha hc hb (by omega) (by omega) (by omega) ra rc rb
    have s1 := mergeS_sw (.inl rfl) a b c
    have s2 := mergeS_sw (.inr (.inl rfl)) a b c
    have w0 : swS 0 = 0 := rfl
    have w1 : swS 1 = 2 := rfl
    rw [w0] at s1
    rw [w1] at s2
    rw [s1] at t2
    simp only [cond_true, cond_false] at t3 t4
    rw [s2] at t4
    have hl := mergeS_len 0 a b c
    exact ⟨t1, t2, t3, t4, sc_eq (60000000 + 100) true _ (by omega) (mergeS_small (by omega) (by omega) (by omega) _ (by omega)) (by omega)⟩
  have q1 := mergeS_w 0 a b c
  have q2 := mergeS_w 1 a b c
  have q3 := mergeS_cnt 0 a b c
  have q4 := mergeS_cnt 1 a b c
  have e1 := Eq_self (60000000 + 100) (mergeS 0 a b c).1 (by omega) (by omega)
  have e2 := Eq_self (60000000 + 100) (mergeS 1 a b c).1 (by omega) (by omega)
  clear ra rb rc ha hb hc h2 q1 q2 q3 q4
  obtain ⟨a1, a2, a3, a4⟩ := a
  obtain ⟨b1, b2, b3, b4⟩ := b
  obtain ⟨c1, c2, c3, c4⟩ := c
  unfold m_l17_MergeSides
  dsimp only
  rw [hw]
  simp only [Option.bind_some, Bool.not_true, cond_false, h1]
  cases y with
  | false => rfl
  | true =>
    obtain ⟨t1, t2, t3, t4, t5⟩ := key rfl
    rw [t1, t2, t3, t4]
    generalize mergeS 0 (Nd.mk a1 a2 a3 a4) (Nd.mk b1 b2 b3 b4) (Nd.mk c1 c2 c3 c4) = m at *
    generalize mergeS 1 (Nd.mk a1 a2 a3 a4) (Nd.mk b1 b2 b3 b4) (Nd.mk c1 c2 c3 c4) = m' at *
    obtain ⟨⟨m1, m2, m3, m4⟩, ms, me⟩ := m
    obtain ⟨⟨n1, n2, n3, n4⟩, ns, ne⟩ := m'
    dsimp only at t5 e1 e2
    simp only [Bool.not_true, cond_false, Option.bind_some, beq_self_eq_true, cond_true, e1, e2, t5]
theorem MergeCost_eq (a b c : Nd) (ha : a.w ≤ 1048576) (hb : b.w ≤ 1048576) (hc : c.w ≤ 1048576) (ra : a.rng) (rb : b.rng) (rc : c.rng) : m_l17_MergeCost (60000000 + 100) a b c = some true := by
  have hw := awake17_ok 60000000
  obtain ⟨y, h1, h2⟩ := few17_eq (60000000 + 100) a b c (by omega)
  have ca := Nd.cnt_w a
  have cb := Nd.cnt_w b
  have cc := Nd.cnt_w c
  have q1 := mergeS_w 0 a b c
  have q3 := mergeS_cnt 0 a b c
  have t1 := fun hy : y = true => Three_eq (60000000 + 100) a b c (by omega) ha hb hc (by have := h2 hy; omega) (by have := h2 hy; omega) (by have := h2 hy; omega) ra rb rc
  have d1 := Cost_eq (60000000 + 100) a b (by omega) (by omega) (by omega) (by omega) (by omega)
  have d2 := Cost_eq (60000000 + 100) a c (by omega) (by omega) (by omega) (by omega) (by omega)
  have d3 := fun hv : validB (mergeS 0 a b c).1 = true => Cost_eq (60000000 + 100) a (mergeS 0 a b c).1 (by omega) (by omega) (by omega) (by omega) (by
    unfold validB at hv
    simp only [Bool.and_eq_true, decide_eq_true_eq] at hv
    omega)
  have err := mergeS_err 0 a b c
  have key : y = true → (mergeS 0 a b c).2.2 = 0 → validB a = true ∧ validB b = true ∧ validB c = true ∧ validB (mergeS 0 a b c).1 = true ∧ DL a.kids (mergeS 0 a b c).1.kids ≤ DL a.kids b.kids + DL a.kids c.kids ∧ DL a.kids b.kids ≤ 1000 ∧ DL a.kids c.kids ≤ 1000 := fun hy he => by
    obtain ⟨c1, c2, c3⟩ := h2 hy
    have k1 := a.cnt_kids
    have k2 := b.cnt_kids
    have k3 := c.cnt_kids
    have l1 : DL a.kids b.kids ≤ Nd.cnts a.kids + Nd.cnts b.kids := TD_le a.kids b.kids
    have l2 : DL a.kids c.kids ≤ Nd.cnts a.kids + Nd.cnts c.kids := TD_le a.kids c.kids
    have l3 := row_cost 0 111 [] a.kids b.kids c.kids (by omega)
    unfold mergeS at he ⊢
    by_cases hv : validB a = true ∧ validB b = true ∧ validB c = true
    · rw [if_pos hv] at he ⊢
      by_cases hv2 : validB (rowK (rowM 111 0 [] a.kids b.kids c.kids).1) = true
      · rw [if_pos hv2] at he ⊢
        exact ⟨hv.1, hv.2.1, hv.2.2, hv2, l3, by omega, by omega⟩
      · rw [if_neg hv2] at he; cases he
    · rw [if_neg hv] at he; cases he
  have z : m_r09_Equal (60000000 + 100) (Nd.mk 0 [] 0 []) (Nd.mk 0 [] 0 []) = some true := Eq_self _ _ (by simp [Nd.cnt, Nd.cnts]) (by simp [Nd.cnt, Nd.cnts])
  clear ra rb rc ha hb hc h2 ca cb cc q1 q3
  obtain ⟨a1, a2, a3, a4⟩ := a
  obtain ⟨b1, b2, b3, b4⟩ := b
  obtain ⟨c1, c2, c3, c4⟩ := c
  unfold m_l17_MergeCost
  dsimp only
  rw [hw]
  simp only [Option.bind_some, Bool.not_true, cond_false, h1]
  cases y with
  | false => rfl
  | true =>
    rw [t1 rfl]
    have key := key rfl
    generalize mergeS 0 (Nd.mk a1 a2 a3 a4) (Nd.mk b1 b2 b3 b4) (Nd.mk c1 c2 c3 c4) = m at *
    obtain ⟨⟨m1, m2, m3, m4⟩, ms, me⟩ := m
    dsimp only at err key d3
    simp only [Bool.not_true, cond_false, Option.bind_some]
    by_cases he : me = 0
    · subst he
      obtain ⟨k1, k2, k3, k4, k5, k6, k7⟩ := key rfl
      rw [k1, k2] at d1
      rw [k1, k3] at d2
      replace d3 := d3 k4
      rw [k1, k4] at d3
      simp only [Nd.kids] at k5 k6 k7 d1 d2 d3
      simp only [bne_self_eq_false, cond_false, d1, d2, d3, Option.bind_some, Bool.and_self, cond_true, beq_self_eq_true]
      rw [wrap64_in (by omega) (by omega), dec_t (by omega)]
    · rw [show (me != 0) = true from bne_iff_ne.2 he, cond_true]
      have e := (err he).1
      unfold zeroNd at e
      rw [e, z]; rfl
end Go.Proofs.YtgfneloodabafaaDoor
