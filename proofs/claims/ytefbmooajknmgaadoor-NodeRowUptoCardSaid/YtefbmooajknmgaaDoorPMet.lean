/-
  THE DISTANCE IS A METRIC.
-/
import Derived.Test.YtefbmooajknmgaaDoorPCost
set_option linter.unusedVariables false
set_option linter.unusedSimpArgs false
namespace Go.Proofs.YtefbmooajknmgaaDoor
open Go.Abs

/-- An alignment and its cost. -/
inductive Al : List Nd → List Nd → Nat → Prop
  | nil : Al [] [] 0
  | del {x xs b k} : Al xs b k → Al (x :: xs) b (x.cnt + k)
  | ins {y a ys k} : Al a ys k → Al a (y :: ys) (y.cnt + k)
  | mat {x y xs ys k} : alikeB x y = true → Al xs ys k → Al (x :: xs) (y :: ys) (D x y + k)

theorem rowD_1 {P : Nd → Nd → Nat} {x y : Nd} {f : List Nd → Nat} {ys : List Nd} : rowD P x f (y :: ys) ≤ x.cnt + f (y :: ys) := by
  simp only [rowD]; split
  · exact Nat.le_trans (Nat.min_le_left _ _) (Nat.min_le_left _ _)
  · exact Nat.min_le_left _ _
theorem rowD_2 {P : Nd → Nd → Nat} {x y : Nd} {f : List Nd → Nat} {ys : List Nd} : rowD P x f (y :: ys) ≤ y.cnt + rowD P x f ys := by
  rw [rowD]; split
  · exact Nat.le_trans (Nat.min_le_left _ _) (Nat.min_le_right _ _)
  · exact Nat.min_le_right _ _
theorem rowD_3 {P : Nd → Nd → Nat} {x y : Nd} {f : List Nd → Nat} {ys : List Nd} (h : alikeB x y = true) : rowD P x f (y :: ys) ≤ P x y + f ys := by
  rw [rowD, if_pos h]; exact Nat.min_le_right _ _
theorem Al_min {a b : List Nd} {k : Nat} (h : Al a b k) : DL a b ≤ k := by
  induction h with
  | nil => exact Nat.le_refl _
  | @del x xs b k _ ih =>
    cases b with
    | nil => exact Nat.add_le_add_left ih _
    | cons y ys => exact Nat.le_trans rowD_1 (Nat.add_le_add_left ih _)
  | @ins y a ys k _ ih =>
    cases a with
    | nil => exact Nat.add_le_add_left ih _
    | cons x xs => exact Nat.le_trans rowD_2 (Nat.add_le_add_left ih _)
  | @mat x y xs ys k hal _ ih => exact Nat.le_trans (rowD_3 hal) (Nat.add_le_add_left ih _)
theorem Al_ins_all : ∀ b : List Nd, Al [] b (Nd.cnts b)
  | [] => .nil
  | y :: ys => .ins (Al_ins_all ys)
theorem Al_row {x : Nd} {xs : List Nd} (h : ∀ b, Al xs b (DL xs b)) : ∀ b, Al (x :: xs) b (rowD D x (DL xs) b)
  | [] => .del (h [])
  | y :: ys => by
    have ih := Al_row (x := x) h ys
    have h1 : Al (x :: xs) (y :: ys) (min (x.cnt + DL xs (y :: ys)) (y.cnt + rowD D x (DL xs) ys)) := by
      rcases Nat.le_total (x.cnt + DL xs (y :: ys)) (y.cnt + rowD D x (DL xs) ys) with g | g
      · rw [Nat.min_eq_left g]; exact .del (h _)
      · rw [Nat.min_eq_right g]; exact .ins ih
    rw [rowD]
    split
    · rename_i hal
      rcases Nat.le_total (min (x.cnt + DL xs (y :: ys)) (y.cnt + rowD D x (DL xs) ys)) (D x y + DL xs ys) with g | g
      · rw [Nat.min_eq_left g]; exact h1
      · rw [Nat.min_eq_right g]; exact .mat hal (h _)
    · exact h1
theorem Al_ex : ∀ a b : List Nd, Al a b (DL a b)
  | [], b => Al_ins_all b
  | x :: xs, b => Al_row (Al_ex xs) b

theorem alike_iff {x y : Nd} : alikeB x y = true ↔ x.kind = y.kind ∧ x.kids.length = y.kids.length ∧ x.cols = y.cols := by
  unfold alikeB
  simp only [Bool.and_eq_true, beq_iff_eq]
  omega
theorem alike_symm {x y : Nd} (h : alikeB x y = true) : alikeB y x = true := by
  obtain ⟨h1, h2, h3⟩ := alike_iff.1 h; exact alike_iff.2 ⟨h1.symm, h2.symm, h3.symm⟩
theorem alike_trans {x y z : Nd} (h : alikeB x y = true) (h' : alikeB y z = true) : alikeB x z = true := by
  obtain ⟨h1, h2, h3⟩ := alike_iff.1 h; obtain ⟨g1, g2, g3⟩ := alike_iff.1 h'
  exact alike_iff.2 ⟨h1.trans g1, h2.trans g2, h3.trans g3⟩
theorem alike_refl (x : Nd) : alikeB x x = true := alike_iff.2 ⟨rfl, rfl, rfl⟩
theorem txt_zero {x y : Nd} : txt x y = 0 ↔ x.text = y.text := by
  unfold txt
  cases e : x.text == y.text with
  | true => simpa using e
  | false => simpa using e
theorem txt_symm (x y : Nd) : txt x y = txt y x := by
  unfold txt; rw [bcomm]
theorem txt_tri (x y z : Nd) : txt x z ≤ txt x y + txt y z := by
  have h1 := txt_le x z
  by_cases h : txt x y = 0
  · by_cases g : txt y z = 0
    · have := txt_zero.2 ((txt_zero.1 h).trans (txt_zero.1 g)); omega
    · omega
  · omega

/- symmetry -/
theorem sum_symm : ∀ (us vs : List Nd), (∀ u ∈ us, ∀ v, DL u.kids v = DL v u.kids) → sumD DL us vs = sumD DL vs us
  | [], vs, _ => by cases vs <;> rfl
  | u :: us, [], _ => rfl
  | u :: us, v :: vs, h => by
    rw [sumD, sumD, h u List.mem_cons_self, sum_symm us vs fun u hu => h u (List.mem_cons_of_mem _ hu)]
theorem Al_symm {a b : List Nd} {k : Nat} (h : Al a b k) : (∀ x ∈ a, ∀ y ∈ b, D x y = D y x) → Al b a k := by
  induction h with
  | nil => exact fun _ => .nil
  | del _ ih => exact fun hd => .ins (ih fun x hx => hd x (List.mem_cons_of_mem _ hx))
  | ins _ ih => exact fun hd => .del (ih fun x hx y hy => hd x hx y (List.mem_cons_of_mem _ hy))
  | mat hal _ ih => exact fun hd => by rw [hd _ List.mem_cons_self _ List.mem_cons_self]; exact .mat (alike_symm hal) (ih fun x hx y hy => hd x (List.mem_cons_of_mem _ hx) y (List.mem_cons_of_mem _ hy))
theorem DL_symm_of {a b : List Nd} (h : ∀ x ∈ a, ∀ y ∈ b, D x y = D y x) : DL a b = DL b a :=
  Nat.le_antisymm (Al_min (Al_symm (Al_ex b a) fun x hx y hy => (h y hy x hx).symm)) (Al_min (Al_symm (Al_ex a b) h))
theorem D_symm : ∀ (N : Nat) (x y : Nd), x.cnt ≤ N → D x y = D y x
  | 0, x, _, h => by have := x.cnt_pos; omega
  | N + 1, x, y, h => by
    rw [D_eq, D_eq, txt_symm, sum_symm]
    intro u hu v
    have e1 := x.cnt_kids
    have e2 := u.cnt_kids
    have e3 := Nd.cnts_mem hu
    exact DL_symm_of fun x' hx' y' _ => D_symm N x' y' (by have := Nd.cnts_mem hx'; omega)
theorem DL_symm (a b : List Nd) : DL a b = DL b a := DL_symm_of fun x _ y _ => D_symm _ x y (Nat.le_refl _)

/- counts -/
theorem Al_cnt {a b : List Nd} {k : Nat} (h : Al a b k) : (∀ x ∈ a, ∀ y ∈ b, alikeB x y = true → y.cnt ≤ x.cnt + D x y) → Nd.cnts b ≤ Nd.cnts a + k := by
  induction h with
  | nil => exact fun _ => Nat.le_refl _
  | del _ ih => exact fun hd => by have := ih fun x hx => hd x (List.mem_cons_of_mem _ hx); simp only [Nd.cnts]; omega
  | ins _ ih => exact fun hd => by have := ih fun x hx y hy => hd x hx y (List.mem_cons_of_mem _ hy); simp only [Nd.cnts]; omega
  | mat hal _ ih =>
      intro hd
      have h1 := hd _ List.mem_cons_self _ List.mem_cons_self hal
      have := ih fun x hx y hy => hd x (List.mem_cons_of_mem _ hx) y (List.mem_cons_of_mem _ hy)
      simp only [Nd.cnts]; omega
theorem sum_cnt : ∀ (us vs : List Nd), us.length = vs.length → (∀ u ∈ us, ∀ v, Nd.cnts v ≤ Nd.cnts u.kids + DL u.kids v) → Nd.cnts vs ≤ Nd.cnts us + sumD DL us vs
  | [], [], _, _ => Nat.le_refl _
  | [], _ :: _, h, _ => by cases h
  | _ :: _, [], h, _ => by cases h
  | u :: us, v :: vs, hl, h => by
    have h1 := h u List.mem_cons_self v.kids
    have h2 := sum_cnt us vs (by simpa using hl) fun u hu => h u (List.mem_cons_of_mem _ hu)
    have e1 := u.cnt_kids
    have e2 := v.cnt_kids
    simp only [Nd.cnts, sumD]; omega
theorem D_cnt : ∀ (N : Nat) (x y : Nd), x.cnt ≤ N → alikeB x y = true → y.cnt ≤ x.cnt + D x y
  | 0, x, _, h, _ => by have := x.cnt_pos; omega
  | N + 1, x, y, h, hal => by
    have e1 := x.cnt_kids
    have e2 := y.cnt_kids
    have := sum_cnt x.kids y.kids (alike_iff.1 hal).2.1 fun u hu v => by
      have e2 := u.cnt_kids
      have e3 := Nd.cnts_mem hu
      exact Al_cnt (Al_ex u.kids v) fun x' hx' y' _ ha' => D_cnt N x' y' (by have := Nd.cnts_mem hx'; omega) ha'
    rw [D_eq]; omega

/- the triangle -/
theorem Al_tri : ∀ (n : Nat) {a b c : List Nd} {k l : Nat}, a.length + b.length + c.length ≤ n → Al a b k → Al b c l →
    (∀ x ∈ a, ∀ y ∈ b, ∀ z ∈ c, alikeB x y = true → alikeB y z = true → D x z ≤ D x y + D y z) → ∃ m, m ≤ k + l ∧ Al a c m
  | n, _, _, _, _, _, hn, .nil, .nil, _ => ⟨0, Nat.le_refl _, .nil⟩
  | 0, _, _, _, _, _, hn, .del _, _, _ => by simp at hn
  | 0, _, _, _, _, _, hn, .ins _, _, _ => by simp at hn
  | 0, _, _, _, _, _, hn, .mat _ _, _, _ => by simp at hn
  | 0, _, _, _, _, _, hn, .nil, .ins _, _ => by simp at hn
  | n + 1, _, _, _, _, _, hn, .del h, h2, hd => by
    obtain ⟨m, hm, ha⟩ := Al_tri n (by simp only [List.length_cons] at hn; omega) h h2 fun x hx => hd x (List.mem_cons_of_mem _ hx)
    exact ⟨_, by omega, .del ha⟩
  | n + 1, _, _, _, _, _, hn, h, .ins h2, hd => by
    obtain ⟨m, hm, ha⟩ := Al_tri n (by simp only [List.length_cons] at hn; omega) h h2 fun x hx y hy z hz => hd x hx y hy z (List.mem_cons_of_mem _ hz)
    exact ⟨_, by omega, .ins ha⟩
  | n + 1, _, _, _, _, _, hn, .ins h, .del h2, hd => by
    obtain ⟨m, hm, ha⟩ := Al_tri n (by simp only [List.length_cons] at hn; omega) h h2 fun x hx y hy => hd x hx y (List.mem_cons_of_mem _ hy)
    exact ⟨m, by omega, ha⟩
  | n + 1, _, _, _, _, _, hn, .ins h, .mat hal h2, hd => by
    obtain ⟨m, hm, ha⟩ := Al_tri n (by simp only [List.length_cons] at hn; omega) h h2 fun x hx y hy z hz => hd x hx y (List.mem_cons_of_mem _ hy) z (List.mem_cons_of_mem _ hz)
    have := D_cnt _ _ _ (Nat.le_refl _) hal
    exact ⟨_, by omega, .ins ha⟩
  | n + 1, _, _, _, _, _, hn, .mat hal h, .del h2, hd => by
    obtain ⟨m, hm, ha⟩ := Al_tri n (by simp only [List.length_cons] at hn; omega) h h2 fun x hx y hy => hd x (List.mem_cons_of_mem _ hx) y (List.mem_cons_of_mem _ hy)
    have := D_cnt _ _ _ (Nat.le_refl _) (alike_symm hal)
    rw [D_symm _ _ _ (Nat.le_refl _)] at this
    exact ⟨_, by omega, .del ha⟩
  | n + 1, _, _, _, _, _, hn, .mat hal h, .mat hal2 h2, hd => by
    obtain ⟨m, hm, ha⟩ := Al_tri n (by simp only [List.length_cons] at hn; omega) h h2 fun x hx y hy z hz => hd x (List.mem_cons_of_mem _ hx) y (List.mem_cons_of_mem _ hy) z (List.mem_cons_of_mem _ hz)
    have := hd _ List.mem_cons_self _ List.mem_cons_self _ List.mem_cons_self hal hal2
    exact ⟨_, by omega, .mat (alike_trans hal hal2) ha⟩
theorem DL_tri_of {a b c : List Nd} (h : ∀ x ∈ a, ∀ y ∈ b, ∀ z ∈ c, alikeB x y = true → alikeB y z = true → D x z ≤ D x y + D y z) : DL a c ≤ DL a b + DL b c := by
  obtain ⟨m, hm, ha⟩ := Al_tri _ (Nat.le_refl _) (Al_ex a b) (Al_ex b c) h
  exact Nat.le_trans (Al_min ha) hm
theorem sum_tri : ∀ (us vs ws : List Nd), us.length = vs.length → vs.length = ws.length → (∀ u ∈ us, ∀ v w, DL u.kids w ≤ DL u.kids v + DL v w) → sumD DL us ws ≤ sumD DL us vs + sumD DL vs ws
  | [], [], [], _, _, _ => Nat.le_refl _
  | [], _ :: _, _, h, _, _ => by cases h
  | _ :: _, [], _, h, _, _ => by cases h
  | _, [], _ :: _, _, h, _ => by cases h
  | _, _ :: _, [], _, h, _ => by cases h
  | u :: us, v :: vs, w :: ws, h1, h2, h => by
    have g1 := h u List.mem_cons_self v.kids w.kids
    have g2 := sum_tri us vs ws (by simpa using h1) (by simpa using h2) fun u hu => h u (List.mem_cons_of_mem _ hu)
    simp only [sumD]; omega
theorem D_tri : ∀ (N : Nat) (x y z : Nd), x.cnt ≤ N → alikeB x y = true → alikeB y z = true → D x z ≤ D x y + D y z
  | 0, x, _, _, h, _, _ => by have := x.cnt_pos; omega
  | N + 1, x, y, z, h, h1, h2 => by
    have e1 := x.cnt_kids
    have := txt_tri x y z
    have := sum_tri x.kids y.kids z.kids (alike_iff.1 h1).2.1 (alike_iff.1 h2).2.1 fun u hu v w => by
      have e2 := u.cnt_kids
      have e3 := Nd.cnts_mem hu
      exact DL_tri_of fun x' hx' y' _ z' _ g1 g2 => D_tri N x' y' z' (by have := Nd.cnts_mem hx'; omega) g1 g2
    rw [D_eq, D_eq, D_eq]; omega
theorem DL_tri (a b c : List Nd) : DL a c ≤ DL a b + DL b c := DL_tri_of fun x _ y _ z _ => D_tri _ x y z (Nat.le_refl _)

/- zero -/
theorem Al_zero {a b : List Nd} {k : Nat} (h : Al a b k) : k = 0 → (∀ x ∈ a, ∀ y ∈ b, alikeB x y = true → D x y = 0 → x = y) → a = b := by
  induction h with
  | nil => exact fun _ _ => rfl
  | @del x xs b k _ ih => exact fun h0 _ => by have := x.cnt_pos; omega
  | @ins y a ys k _ ih => exact fun h0 _ => by have := y.cnt_pos; omega
  | @mat x y xs ys k hal _ ih =>
      intro h0 hd
      rw [hd x List.mem_cons_self y List.mem_cons_self hal (by omega), ih (by omega) fun x hx y hy => hd x (List.mem_cons_of_mem _ hx) y (List.mem_cons_of_mem _ hy)]
theorem forms_mem {k : Int} : ∀ {a : List Nd} {v : Nd}, formsB k a = true → v ∈ a → formB v = true ∧ ((v.kind == 1) == (k == 1)) = false
  | u :: a, v, h, hm => by
    simp only [formsB, Bool.and_eq_true, Bool.not_eq_true'] at h
    rcases List.mem_cons.1 hm with rfl | hm
    · exact ⟨h.1.2, h.1.1⟩
    · exact forms_mem h.2 hm
/-- A row that is well formed. -/
theorem form_row {u : Nd} (h : formB u = true) (hk : u.kind = 1) : u = .mk 1 [] 0 u.kids ∧ formsB 1 u.kids = true := by
  obtain ⟨k, t, c, ks⟩ := u
  simp only [Nd.kind] at hk
  subst hk
  simp only [formB, Bool.and_eq_true] at h
  obtain ⟨⟨h1, h2⟩, h3⟩ := h
  have h1' : (t == []) = true := h1
  have h2' : ((c == 0) && decide ((ks.length : Int) ≤ 200)) = true := h2
  simp only [Bool.and_eq_true] at h2'
  rw [eq_of_beq h1', eq_of_beq h2'.1]
  exact ⟨rfl, h3⟩
theorem sum_zero : ∀ (us vs : List Nd), us.length = vs.length → sumD DL us vs = 0 → (∀ u ∈ us, ∀ v ∈ vs, DL u.kids v.kids = 0 → u = v) → us = vs
  | [], [], _, _, _ => rfl
  | [], _ :: _, h, _, _ => by cases h
  | _ :: _, [], h, _, _ => by cases h
  | u :: us, v :: vs, hl, h0, h => by
    simp only [sumD] at h0
    rw [h u List.mem_cons_self v List.mem_cons_self (by omega), sum_zero us vs (by simpa using hl) (by omega) fun u hu v hv => h u (List.mem_cons_of_mem _ hu) v (List.mem_cons_of_mem _ hv)]
theorem D_zero : ∀ (N : Nat) (x y : Nd), x.cnt ≤ N → formB x = true → formB y = true → x.kind ≠ 1 → alikeB x y = true → D x y = 0 → x = y
  | 0, x, _, h, _, _, _, _, _ => by have := x.cnt_pos; omega
  | N + 1, x, y, h, fx, fy, hk, hal, h0 => by
    have e1 := x.cnt_kids
    rw [D_eq] at h0
    obtain ⟨a1, a2, a3⟩ := alike_iff.1 hal
    have ht := txt_zero.1 (show txt x y = 0 by omega)
    have gx : formsB x.kind x.kids = true := by cases x; simp only [formB, Bool.and_eq_true] at fx; exact fx.2
    have gy : formsB y.kind y.kids = true := by cases y; simp only [formB, Bool.and_eq_true] at fy; exact fy.2
    have hs := sum_zero x.kids y.kids a2 (by omega) fun u hu v hv h00 => by
      obtain ⟨f1, f2⟩ := forms_mem gx hu
      obtain ⟨g1, g2⟩ := forms_mem gy hv
      rw [ne_beq hk] at f2
      rw [← a1, ne_beq hk] at g2
      have ku : u.kind = 1 := by cases e : u.kind == 1 with | true => exact eq_of_beq e | false => rw [e] at f2; cases f2
      have kv : v.kind = 1 := by cases e : v.kind == 1 with | true => exact eq_of_beq e | false => rw [e] at g2; cases g2
      obtain ⟨r1, r2⟩ := form_row f1 ku
      obtain ⟨s1, s2⟩ := form_row g1 kv
      have e2 := u.cnt_kids
      have e3 := Nd.cnts_mem hu
      rw [r1, s1, Al_zero (Al_ex u.kids v.kids) h00 fun x' hx' y' hy' al' d0 => by
        obtain ⟨p1, p2⟩ := forms_mem r2 hx'
        obtain ⟨q1, q2⟩ := forms_mem s2 hy'
        exact D_zero N x' y' (by have := Nd.cnts_mem hx'; omega) p1 q1 (fun e => by rw [e] at p2; cases p2) al' d0]
    obtain ⟨xk, xt, xc, xs⟩ := x
    obtain ⟨yk, yt, yc, ys⟩ := y
    simp only [Nd.kind, Nd.text, Nd.cols, Nd.kids] at a1 ht a3 hs
    rw [a1, ht, a3, hs]
theorem DL_zero {a b : List Nd} (ha : formsB 1 a = true) (hb : formsB 1 b = true) (h : DL a b = 0) : a = b :=
  Al_zero (Al_ex a b) h fun x' hx' y' hy' al' d0 => by
    obtain ⟨p1, p2⟩ := forms_mem ha hx'
    obtain ⟨q1, q2⟩ := forms_mem hb hy'
    exact D_zero _ x' y' (Nat.le_refl _) p1 q1 (fun e => by rw [e] at p2; cases p2) al' d0
theorem Al_self : ∀ (a : List Nd), (∀ x ∈ a, D x x = 0) → Al a a 0
  | [], _ => .nil
  | x :: xs, h => by
    have := Al.mat (alike_refl x) (Al_self xs fun x hx => h x (List.mem_cons_of_mem _ hx))
    rwa [h x List.mem_cons_self] at this
theorem sum_self : ∀ (us : List Nd), (∀ u ∈ us, DL u.kids u.kids = 0) → sumD DL us us = 0
  | [], _ => rfl
  | u :: us, h => by rw [sumD, h u List.mem_cons_self, sum_self us fun u hu => h u (List.mem_cons_of_mem _ hu)]
theorem D_self : ∀ (N : Nat) (x : Nd), x.cnt ≤ N → D x x = 0
  | 0, x, h => by have := x.cnt_pos; omega
  | N + 1, x, h => by
    have e1 := x.cnt_kids
    rw [D_eq, txt_zero.2 rfl, sum_self]
    intro u hu
    have e2 := u.cnt_kids
    have e3 := Nd.cnts_mem hu
    exact Nat.le_zero.1 (Al_min (Al_self u.kids fun x' hx' => D_self N x' (by have := Nd.cnts_mem hx'; omega)))
theorem DL_self (a : List Nd) : DL a a = 0 := Nat.le_zero.1 (Al_min (Al_self a fun x _ => D_self _ x (Nat.le_refl _)))

/- equality -/
theorem same_loop {F : Nd → Nd → Option Bool} {a b : List Nd} (hF : ∀ u ∈ a, ∀ v ∈ b, ∃ y, F u v = some y ∧ (y = true ↔ u = v)) (hl : a.length = b.length) (hb : a.length ≤ 1073741824) :
    ∀ (q i : Nat), a.length - i < q → i ≤ a.length → ∃ y, m_r09_SameItems_l1 F a b q (i : Int) = some (if y then .go () else .ret false) ∧ (y = true ↔ a.drop i = b.drop i)
  | 0, _, h, _ => by omega
  | q + 1, i, hq, hi => by
    unfold m_r09_SameItems_l1
    by_cases h : i < a.length
    · have h' : i < b.length := by omega
      rw [dec_t (Int.ofNat_lt.2 h), cond_true, at_get h, at_get h']
      obtain ⟨y, f1, f2⟩ := hF _ (List.getElem_mem h) _ (List.getElem_mem h')
      have d1 := List.drop_eq_getElem_cons h
      have d2 := List.drop_eq_getElem_cons h'
      rcases e : a[i] with ⟨x1, x2, x3, x4⟩
      rcases e' : b[i] with ⟨y1, y2, y3, y4⟩
      rw [e, e'] at f1 f2
      rw [e] at d1
      rw [e'] at d2
      simp only [Option.bind_some, f1]
      cases y with
      | false =>
        refine ⟨false, rfl, ⟨(fun h => by cases h), fun h => ?_⟩⟩
        rw [d1, d2] at h
        exact f2.2 (List.cons.inj h).1
      | true =>
        simp only [Bool.not_true, cond_false]
        rw [wi_succ (by omega)]
        obtain ⟨z, g1, g2⟩ := same_loop hF hl hb q (i + 1) (by omega) (by omega)
        refine ⟨z, g1, ?_⟩
        rw [d1, d2, g2, f2.1 rfl]
        simp
    · rw [dec_f (by omega), cond_false]
      obtain rfl : i = a.length := by omega
      refine ⟨true, rfl, ?_⟩
      rw [List.drop_length, hl, List.drop_length]
      simp
theorem Equal_eq : ∀ N : Nat, (∀ x y : Nd, 2 * x.cnt < N → x.cnt ≤ 67108864 → ∃ r, m_r09_Equal N x y = some r ∧ (r = true ↔ x = y)) ∧
    (∀ a b : List Nd, 2 * Nd.cnts a + 1 < N → Nd.cnts a ≤ 67108864 → ∃ r, m_r09_SameItems N a b = some r ∧ (r = true ↔ a = b))
  | 0 => ⟨fun _ _ h _ => by omega, fun _ _ h _ => by omega⟩
  | n + 1 => by
    obtain ⟨ih1, ih2⟩ := Equal_eq n
    refine ⟨fun x y h hx => ?_, fun a b h ha => ?_⟩
    · obtain ⟨a, b, c, d⟩ := x
      obtain ⟨a', b', c', d'⟩ := y
      simp only [Nd.cnt] at h hx
      obtain ⟨r, h1, h2⟩ := ih2 d d' (by omega) (by omega)
      unfold m_r09_Equal
      simp only [h1, Option.bind_some]
      cases e1 : a == a' with
      | false => exact ⟨false, rfl, ⟨(fun h => by cases h), fun h => by cases h; simp at e1⟩⟩
      | true =>
        cases e2 : b == b' with
        | false => exact ⟨false, rfl, ⟨(fun h => by cases h), fun h => by cases h; simp at e2⟩⟩
        | true =>
          cases e3 : c == c' with
          | false => exact ⟨false, rfl, ⟨(fun h => by cases h), fun h => by cases h; simp at e3⟩⟩
          | true =>
            refine ⟨r, rfl, h2.trans ⟨fun h => ?_, fun h => by cases h; rfl⟩⟩
            rw [eq_of_beq e1, eq_of_beq e2, eq_of_beq e3, h]
    · unfold m_r09_SameItems
      have l1 := Nd.cnts_len a
      by_cases hl : a.length = b.length
      · obtain ⟨y, g1, g2⟩ := same_loop (F := m_r09_Equal n) (a := a) (b := b) (fun u hu v _ => ih1 u v (by have := Nd.cnts_mem hu; omega) (by have := Nd.cnts_mem hu; omega)) hl (by omega) n 0 (by omega) (by omega)
        rw [show ((0 : Nat) : Int) = 0 from rfl] at g1
        rw [hl, bne_self_eq_false, cond_false, g1]
        refine ⟨y, by cases y <;> rfl, g2⟩
      · have : ((a.length : Int) != (b.length : Int)) = true := by
          unfold bne
          rw [ne_beq (by omega)]; rfl
        rw [this]
        exact ⟨false, rfl, ⟨(fun h => by cases h), fun h => absurd (congrArg List.length h) hl⟩⟩
theorem valid_row {x : Nd} (h : validB x = true) : x = .mk 1 [] 0 x.kids ∧ formsB 1 x.kids = true := by
  unfold validB at h
  simp only [Bool.and_eq_true] at h
  exact form_row h.2.1 (eq_of_beq h.1)
theorem DiffMetric_eq (a b c : Nd) (ha : a.w ≤ 1048576) (hb : b.w ≤ 1048576) (hc : c.w ≤ 1048576) : m_l16_DiffMetric (6000000 + 60) a b c = some true := by
  have hw := awake_ok 6000000
  obtain ⟨y, f1, f2⟩ := few_eq (6000000 + 60) a b (by omega)
  obtain ⟨y3, g1, g2⟩ := Few_eq (6000000 + 60) c 120 (by omega) (by omega)
  rw [show ((120 : Nat) : Int) = 120 from rfl] at g1
  have e1 := r09_Valid_eq (6000000 + 60) a (by omega) (by omega)
  have e2 := r09_Valid_eq (6000000 + 60) b (by omega) (by omega)
  have e3 := r09_Valid_eq (6000000 + 60) c (by omega) (by omega)
  have d1 := Cost_eq (6000000 + 60) a b (by omega) (by omega) (by omega) (Nat.le_trans (Nd.cnt_w a) ha) (Nat.le_trans (Nd.cnt_w b) hb)
  have d2 := Cost_eq (6000000 + 60) b a (by omega) (by omega) (by omega) (Nat.le_trans (Nd.cnt_w b) hb) (Nat.le_trans (Nd.cnt_w a) ha)
  have d3 := Cost_eq (6000000 + 60) b c (by omega) (by omega) (by omega) (Nat.le_trans (Nd.cnt_w b) hb) (Nat.le_trans (Nd.cnt_w c) hc)
  have d4 := Cost_eq (6000000 + 60) a c (by omega) (by omega) (by omega) (Nat.le_trans (Nd.cnt_w a) ha) (Nat.le_trans (Nd.cnt_w c) hc)
  have w1 := Nd.cnt_w a
  have w2 := Nd.cnt_w b
  have w3 := Nd.cnt_w c
  have k1 := a.cnt_kids
  have k2 := b.cnt_kids
  have k3 := c.cnt_kids
  obtain ⟨r, q1, q2⟩ := (Equal_eq (6000000 + 60)).1 a b (by omega) (by omega)
  have t := DL_tri a.kids b.kids c.kids
  have s := DL_symm a.kids b.kids
  have m1 : DL a.kids b.kids ≤ _ := TD_le a.kids b.kids
  have m2 : DL b.kids c.kids ≤ _ := TD_le b.kids c.kids
  have z : validB a = true → validB b = true → (((DL a.kids b.kids : Nat) : Int) == 0) = r := fun va vb => by
    obtain ⟨p1, p2⟩ := valid_row va
    obtain ⟨p3, p4⟩ := valid_row vb
    rw [Bool.eq_iff_iff, q2, beq_iff_eq]
    refine ⟨fun h => ?_, fun h => by rw [h, DL_self]; rfl⟩
    rw [p1, p3, DL_zero p2 p4 (by omega)]
  generalize 6000000 + 60 = n at *
  obtain ⟨a1, a2, a3, a4⟩ := a
  obtain ⟨b1, b2, b3, b4⟩ := b
  obtain ⟨c1, c2, c3, c4⟩ := c
  simp only [Nd.kids] at *
  unfold m_l16_DiffMetric
  simp only [hw, f1, g1, e1, e2, e3, Option.bind_some, Bool.not_true, cond_false]
  cases y with
  | false => rfl
  | true =>
    cases y3 with
    | false => rfl
    | true =>
      cases va : validB (.mk a1 a2 a3 a4) with
      | false => rfl
      | true =>
        cases vb : validB (.mk b1 b2 b3 b4) with
        | false => rfl
        | true =>
          cases vc : validB (.mk c1 c2 c3 c4) with
          | false => rfl
          | true =>
            have z' := z va vb
            rw [va, vb] at d1 d2
            rw [vb, vc] at d3
            rw [va, vc] at d4
            simp only [Bool.and_self, cond_true] at d1 d2 d3 d4
            simp only [d1, d2, d3, d4, q1, Option.bind_some, Bool.not_true, cond_false, bne_self_eq_false]
            simp only [Nd.cnt] at w1 w2 w3 k1 k2 k3
            rw [z', s, beq_self_eq_true, beq_self_eq_true, cond_true, cond_true, wrap64_in (by omega) (by omega), dec_t (by omega)]
            rfl
end Go.Proofs.YtefbmooajknmgaaDoor
