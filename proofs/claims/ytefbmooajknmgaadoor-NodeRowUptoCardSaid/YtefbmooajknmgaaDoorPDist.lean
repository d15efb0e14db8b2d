/-
  THE DISTANCE: what the tables hold.
-/
import Derived.Test.YtefbmooajknmgaaDoorPVal
set_option linter.unusedVariables false
set_option linter.unusedSimpArgs false
namespace Go.Proofs.YtefbmooajknmgaaDoor
open Go.Abs

def Nd.text : Nd → List UInt8 | .mk _ t _ _ => t
def Nd.cols : Nd → Int | .mk _ _ c _ => c
theorem Nd.cnt_kids : ∀ x : Nd, x.cnt = Nd.cnts x.kids + 1
  | .mk _ _ _ _ => rfl
def alikeB (x y : Nd) : Bool := (x.kind == y.kind) && (((x.kids.length : Int) == (y.kids.length : Int)) && (x.cols == y.cols))
def rowD (P : Nd → Nd → Nat) (x : Nd) (f : List Nd → Nat) : List Nd → Nat
  | [] => x.cnt + f []
  | y :: ys => if alikeB x y then min (min (x.cnt + f (y :: ys)) (y.cnt + rowD P x f ys)) (P x y + f ys) else min (x.cnt + f (y :: ys)) (y.cnt + rowD P x f ys)
def TD (P : Nd → Nd → Nat) : List Nd → List Nd → Nat
  | [] => Nd.cnts
  | x :: xs => rowD P x (TD P xs)
def sumD (f : List Nd → List Nd → Nat) : List Nd → List Nd → Nat
  | u :: us, v :: vs => f u.kids v.kids + sumD f us vs
  | _, _ => 0
def txt (x y : Nd) : Nat := bif x.text == y.text then 0 else 1
def PD : Nat → Nd → Nd → Nat
  | 0, _, _ => 0
  | n + 1, x, y => txt x y + sumD (TD (PD n)) x.kids y.kids
def D (x y : Nd) : Nat := PD x.cnt x y
def DL (a b : List Nd) : Nat := TD D a b

theorem rowD_congr {P P' : Nd → Nd → Nat} {x : Nd} {f : List Nd → Nat} (h : ∀ y, P x y = P' x y) : ∀ b, rowD P x f b = rowD P' x f b
  | [] => rfl
  | y :: ys => by simp only [rowD, rowD_congr h ys, h]
theorem TD_congr {P P' : Nd → Nd → Nat} : ∀ {a : List Nd}, (∀ x ∈ a, ∀ y, P x y = P' x y) → TD P a = TD P' a
  | [], _ => rfl
  | x :: xs, h => by
    rw [TD, TD, TD_congr fun x hx => h x (List.mem_cons_of_mem _ hx)]
    exact funext (rowD_congr (h x List.mem_cons_self))
theorem sumD_congr {f g : List Nd → List Nd → Nat} : ∀ {us : List Nd} (vs : List Nd), (∀ u ∈ us, f u.kids = g u.kids) → sumD f us vs = sumD g us vs
  | [], vs, _ => by cases vs <;> rfl
  | u :: us, [], _ => rfl
  | u :: us, v :: vs, h => by
    rw [sumD, sumD, h u List.mem_cons_self, sumD_congr vs fun u hu => h u (List.mem_cons_of_mem _ hu)]
theorem PD_stable : ∀ (n m : Nat) (x y : Nd), x.cnt ≤ n → x.cnt ≤ m → PD n x y = PD m x y
  | 0, _, x, _, h, _ => by have := x.cnt_pos; omega
  | _ + 1, 0, x, _, _, h => by have := x.cnt_pos; omega
  | n + 1, m + 1, x, y, h1, h2 => by
    rw [PD, PD]
    congr 1
    refine sumD_congr _ fun u hu => TD_congr fun x' hx' y' => ?_
    have e1 := x.cnt_kids
    have e2 := u.cnt_kids
    have e3 := Nd.cnts_mem hu
    have e4 := Nd.cnts_mem hx'
    exact PD_stable n m x' y' (by omega) (by omega)
theorem D_eq (x y : Nd) : D x y = txt x y + sumD DL x.kids y.kids := by
  unfold D DL
  have e1 := x.cnt_kids
  rw [e1, PD]
  congr 1
  refine sumD_congr _ fun u hu => TD_congr fun x' hx' y' => ?_
  have e2 := u.cnt_kids
  have e3 := Nd.cnts_mem hu
  have e4 := Nd.cnts_mem hx'
  exact PD_stable _ _ x' y' (by omega) (Nat.le_refl _)
theorem rowD_le {P : Nd → Nd → Nat} {x : Nd} {f : List Nd → Nat} {c : Nat} (h : ∀ b, f b ≤ c + Nd.cnts b) : ∀ b, rowD P x f b ≤ x.cnt + c + Nd.cnts b
  | [] => by have := h []; simp only [rowD]; omega
  | y :: ys => by
    have h1 := h (y :: ys)
    have : rowD P x f (y :: ys) ≤ x.cnt + f (y :: ys) := by
      simp only [rowD]
      split
      · exact Nat.le_trans (Nat.min_le_left _ _) (Nat.min_le_left _ _)
      · exact Nat.min_le_left _ _
    omega
theorem TD_le {P : Nd → Nd → Nat} : ∀ a b : List Nd, TD P a b ≤ Nd.cnts a + Nd.cnts b
  | [], b => by simp [TD, Nd.cnts]
  | x :: xs, b => by
    have := rowD_le (P := P) (x := x) (TD_le (P := P) xs) b
    simp only [TD, Nd.cnts]; omega
theorem sumD_le : ∀ us vs : List Nd, sumD DL us vs ≤ Nd.cnts us + Nd.cnts vs
  | [], vs => by cases vs <;> simp [sumD]
  | u :: us, [] => by simp [sumD]
  | u :: us, v :: vs => by
    have h1 := sumD_le us vs
    have h2 : DL u.kids v.kids ≤ _ := TD_le u.kids v.kids
    have e1 := u.cnt_kids
    have e2 := v.cnt_kids
    simp only [sumD, Nd.cnts]; omega
theorem txt_le (x y : Nd) : txt x y ≤ 1 := by
  unfold txt
  cases x.text == y.text
  · exact Nat.le_refl _
  · exact Nat.zero_le _
theorem D_le (x y : Nd) : D x y ≤ x.cnt + y.cnt := by
  have h1 := sumD_le x.kids y.kids
  have h2 := txt_le x y
  have e1 := x.cnt_kids
  have e2 := y.cnt_kids
  rw [D_eq]; omega

def sufs (f : List Nd → Nat) : List Nd → List Int
  | [] => [(f [] : Int)]
  | y :: ys => (f (y :: ys) : Int) :: sufs f ys
theorem sufs_head (f : List Nd → Nat) : ∀ b, ∃ r, sufs f b = (f b : Int) :: r
  | [] => ⟨_, rfl⟩
  | y :: ys => ⟨_, rfl⟩
theorem sufs_headD (f : List Nd → Nat) (b : List Nd) : (sufs f b).headD 0 = (f b : Int) := by
  obtain ⟨r, h⟩ := sufs_head f b; rw [h]; rfl
def tabD (P : Nd → Nd → Nat) : List Nd → List Nd → List (List Int)
  | [], b => [sufs (TD P []) b]
  | x :: xs, b => sufs (TD P (x :: xs)) b :: tabD P xs b
theorem tabD_head (P : Nd → Nd → Nat) : ∀ a b, ∃ r, tabD P a b = sufs (TD P a) b :: r
  | [], b => ⟨_, rfl⟩
  | x :: xs, b => ⟨_, rfl⟩
theorem tab00 (P : Nd → Nd → Nat) (a b : List Nd) : ∃ r, at? (tabD P a b) 0 = some r ∧ at? r 0 = some (TD P a b : Int) := by
  obtain ⟨r, h⟩ := tabD_head P a b
  obtain ⟨r', h'⟩ := sufs_head (TD P a) b
  exact ⟨sufs (TD P a) b, by rw [h]; rfl, by rw [h']; rfl⟩

/- the reference's table -/
theorem tlast_eq {C : Nd → Option Int} : ∀ (b : List Nd), (∀ y ∈ b, C y = some (y.cnt : Int)) → Nd.cnts b ≤ 1048576 → m_r16_table_last C b = some (sufs (TD D []) b)
  | [], _, _ => rfl
  | y :: ys, h, hb => by
    simp only [Nd.cnts] at hb
    have hf : TD D [] ys = Nd.cnts ys := rfl
    rw [m_r16_table_last, tlast_eq ys (fun y hy => h y (List.mem_cons_of_mem _ hy)) (by omega), Option.bind_some, h y List.mem_cons_self, Option.bind_some, sufs_headD, hf, wrap64_in (by omega) (by omega)]
    rfl
theorem min_pick (a b : Nat) : (if (a : Int) < (b : Int) then (a : Int) else (b : Int)) = ((min a b : Nat) : Int) := by
  by_cases h : (a : Int) < (b : Int)
  · rw [if_pos h, Nat.min_eq_left (by omega)]
  · rw [if_neg h, Nat.min_eq_right (by omega)]
theorem trow_eq {C : Nd → Option Int} {A : Nd → Nd → Option Bool} {Q : Nd → Nd → Option Int} {x : Nd} {f : List Nd → Nat} {c : Nat} (hx : x.cnt ≤ 1048576) (hc : c ≤ 1048576) (hf : ∀ b, f b ≤ c + Nd.cnts b) :
    ∀ (b : List Nd), (∀ y ∈ b, C y = some (y.cnt : Int)) → (∀ y ∈ b, A x y = some (alikeB x y)) → (∀ y ∈ b, alikeB x y = true → Q x y = some (D x y : Int)) → Nd.cnts b ≤ 1048576 →
    m_r16_table_row C A Q x (x.cnt : Int) b (sufs f b) = some (sufs (rowD D x f) b)
  | [], _, _, _, _ => by
    have := hf []
    simp only [Nd.cnts] at this
    simp only [sufs, m_r16_table_row, rowD]
    rw [wrap64_in (by omega) (by omega)]; rfl
  | y :: ys, h1, h2, h3, hb => by
    simp only [Nd.cnts] at hb
    have g1 := hf (y :: ys)
    simp only [Nd.cnts] at g1
    have g2 := hf ys
    have g3 := rowD_le (P := D) (x := x) hf ys
    have g4 := D_le x y
    have ih := trow_eq (C := C) (A := A) (Q := Q) hx hc hf ys (fun y hy => h1 y (List.mem_cons_of_mem _ hy)) (fun y hy => h2 y (List.mem_cons_of_mem _ hy)) (fun y hy => h3 y (List.mem_cons_of_mem _ hy)) (by omega)
    obtain ⟨r, hr⟩ := sufs_head f ys
    rw [sufs, hr, m_r16_table_row, ← hr, ih, Option.bind_some, h1 y List.mem_cons_self, Option.bind_some, h2 y List.mem_cons_self, Option.bind_some, sufs_headD]
    dsimp only
    rw [wrap64_in (by omega) (by omega), wrap64_in (n := (y.cnt : Int) + _) (by omega) (by omega), dec_f (by omega), Bool.false_or]
    have e1 : (bif decide ((y.cnt : Int) + (rowD D x f ys : Int) < (x.cnt : Int) + (f (y :: ys) : Int)) then (y.cnt : Int) + (rowD D x f ys : Int) else (x.cnt : Int) + (f (y :: ys) : Int)) = ((min (x.cnt + f (y :: ys)) (y.cnt + rowD D x f ys) : Nat) : Int) := by
      by_cases h : (y.cnt : Int) + (rowD D x f ys : Int) < (x.cnt : Int) + (f (y :: ys) : Int)
      · rw [dec_t h, Nat.min_eq_right (by omega)]; rfl
      · rw [dec_f h, Nat.min_eq_left (by omega)]; rfl
    rw [e1]
    cases ha : alikeB x y with
    | false => simp only [cond_false, sufs, rowD, ha]; simp
    | true =>
      rw [cond_true, h3 y List.mem_cons_self ha, Option.bind_some]
      rw [wrap64_in (by omega) (by omega), ← Int.natCast_add, min_pick, Nat.min_comm]
      simp only [sufs, rowD, ha, if_true]
theorem trows_eq {C : Nd → Option Int} {A : Nd → Nd → Option Bool} {Q : Nd → Nd → Option Int} {b : List Nd} (hb : Nd.cnts b ≤ 1048576) (hC : ∀ y ∈ b, C y = some (y.cnt : Int)) :
    ∀ (a : List Nd), (∀ x ∈ a, C x = some (x.cnt : Int)) → (∀ x ∈ a, ∀ y ∈ b, A x y = some (alikeB x y)) → (∀ x ∈ a, ∀ y ∈ b, alikeB x y = true → Q x y = some (D x y : Int)) → Nd.cnts a ≤ 1048576 →
    m_r16_table_rows C A Q b a = some (tabD D a b)
  | [], _, _, _, _ => by rw [m_r16_table_rows, tlast_eq b hC hb]; rfl
  | x :: xs, h1, h2, h3, ha => by
    simp only [Nd.cnts] at ha
    rw [m_r16_table_rows, trows_eq hb hC xs (fun y hy => h1 y (List.mem_cons_of_mem _ hy)) (fun y hy => h2 y (List.mem_cons_of_mem _ hy)) (fun y hy => h3 y (List.mem_cons_of_mem _ hy)) (by omega), Option.bind_some, h1 x List.mem_cons_self, Option.bind_some]
    obtain ⟨r, hr⟩ := tabD_head D xs b
    rw [hr]
    dsimp only
    rw [trow_eq (c := Nd.cnts xs) (by omega) (by omega) (TD_le xs) b hC (h2 x List.mem_cons_self) (h3 x List.mem_cons_self) hb, Option.bind_some, ← hr]
    rfl
theorem Alike_eq (x y : Nd) : m_r16_Alike x y = some (alikeB x y) := by
  obtain ⟨a, b, c, d⟩ := x
  obtain ⟨a', b', c', d'⟩ := y
  unfold m_r16_Alike alikeB
  simp only [Nd.kind, Nd.kids, Nd.cols]
  cases a == a' <;> cases ((d.length : Int) == (d'.length : Int)) <;> rfl
theorem sum_drop {f : List Nd → List Nd → Nat} {a b : List Nd} {i : Nat} (h : i < a.length) (h' : i < b.length) : sumD f (a.drop i) (b.drop i) = f a[i].kids b[i].kids + sumD f (a.drop (i + 1)) (b.drop (i + 1)) := by
  rw [List.drop_eq_getElem_cons h, List.drop_eq_getElem_cons h']; rfl
theorem pair_loop {F : List Nd → List Nd → Option (List (List Int))} {a b : List Nd} (hF : ∀ u ∈ a, ∀ v ∈ b, F u.kids v.kids = some (tabD D u.kids v.kids)) (hl : a.length = b.length) (ha : Nd.cnts a ≤ 1048576) (hb : Nd.cnts b ≤ 1048576) :
    ∀ (q i o : Nat), a.length - i < q → i ≤ a.length → o + sumD DL (a.drop i) (b.drop i) ≤ 4000000 → m_r16_pair_l1 F a b q (o : Int) (i : Int) = some ((o + sumD DL (a.drop i) (b.drop i) : Nat) : Int)
  | 0, _, _, h, _, _ => by omega
  | q + 1, i, o, hq, hi, ho => by
    have l1 := Nd.cnts_len a
    unfold m_r16_pair_l1
    by_cases h : i < a.length
    · have h' : i < b.length := by omega
      rw [dec_t (Int.ofNat_lt.2 h), cond_true, at_get h, at_get h']
      have hf := hF _ (List.getElem_mem h) _ (List.getElem_mem h')
      have hs := sum_drop (f := DL) h h'
      rcases e : a[i] with ⟨x1, x2, x3, x4⟩
      rcases e' : b[i] with ⟨y1, y2, y3, y4⟩
      rw [e, e'] at hf hs
      simp only [Nd.kids] at hf hs
      obtain ⟨r, r1, r2⟩ := tab00 D x4 y4
      have hd : TD D x4 y4 = DL x4 y4 := rfl
      rw [hd] at r2
      simp only [Option.bind_some, hf, r1, r2]
      rw [wi_succ (by omega), wrap64_in (by omega) (by omega), ← Int.natCast_add, pair_loop hF hl ha hb q (i + 1) _ (by omega) (by omega) (by omega)]
      congr 2; omega
    · rw [dec_f (by omega), cond_false]
      obtain rfl : i = a.length := by omega
      rw [List.drop_length]
      cases List.drop a.length b <;> rfl
theorem alike_len {x y : Nd} (h : alikeB x y = true) : x.kids.length = y.kids.length := by
  unfold alikeB at h
  simp only [Bool.and_eq_true] at h
  have := eq_of_beq h.2.1
  omega
theorem r16_eq : ∀ N : Nat, (∀ x y : Nd, alikeB x y = true → 2 * x.cnt + 2 * y.cnt < N → x.cnt ≤ 1048576 → y.cnt ≤ 1048576 → m_r16_pair N x y = some (D x y : Int)) ∧
    (∀ a b : List Nd, 2 * Nd.cnts a + 2 * Nd.cnts b + 2 < N → Nd.cnts a ≤ 1048576 → Nd.cnts b ≤ 1048576 → m_r16_table N a b = some (tabD D a b))
  | 0 => ⟨fun _ _ _ h _ _ => by omega, fun _ _ h _ _ => by omega⟩
  | n + 1 => by
    obtain ⟨ih1, ih2⟩ := r16_eq n
    refine ⟨fun x y hal h hx hy => ?_, fun a b h ha hb => ?_⟩
    · have e1 := x.cnt_kids
      have e2 := y.cnt_kids
      have hl := alike_len hal
      have hle := sumD_le x.kids y.kids
      have hD := D_eq x y
      have l1 := Nd.cnts_len x.kids
      have hF : ∀ u ∈ x.kids, ∀ v ∈ y.kids, m_r16_table n u.kids v.kids = some (tabD D u.kids v.kids) := fun u hu v hv => by
        have := Nd.cnts_mem hu
        have := Nd.cnts_mem hv
        have := u.cnt_kids
        have := v.cnt_kids
        exact ih2 _ _ (by omega) (by omega) (by omega)
      have ht := txt_le x y
      have := pair_loop hF hl (by omega) (by omega) n 0 (txt x y) (by omega) (by omega) (by simp only [List.drop_zero]; omega)
      rw [show ((0 : Nat) : Int) = 0 from rfl, List.drop_zero, List.drop_zero, ← hD] at this
      obtain ⟨a, b, c, d⟩ := x
      obtain ⟨a', b', c', d'⟩ := y
      unfold m_r16_pair
      have e : (bif (!(b == b')) then some 1 else some 0 : Option Int) = some (txt (.mk a b c d) (.mk a' b' c' d') : Int) := by
        unfold txt
        simp only [Nd.text]
        cases b == b' <;> rfl
      rw [e]
      simp only [Option.bind_some]
      simp only [Nd.kids] at this
      rw [this]; rfl
    · have l1 := Nd.cnts_len a
      have l2 := Nd.cnts_len b
      rw [m_r16_table, req_t ⟨by omega, by omega⟩]
      refine trows_eq hb (fun y hy => ?_) a (fun x hx => ?_) (fun x _ y _ => Alike_eq x y) (fun x hx y hy hal => ?_) ha
      · have := Nd.cnts_mem hy; exact r09_Count_eq n y (by omega) (by omega)
      · have := Nd.cnts_mem hx; exact r09_Count_eq n x (by omega) (by omega)
      · have := Nd.cnts_mem hy
        have := Nd.cnts_mem hx
        exact ih1 x y hal (by omega) (by omega) (by omega)
theorem r16_Distance_eq (n : Nat) (a b : List Nd) (h : 2 * Nd.cnts a + 2 * Nd.cnts b + 2 < n) (ha : Nd.cnts a ≤ 1048576) (hb : Nd.cnts b ≤ 1048576) : m_r16_Distance n a b = some (DL a b : Int) := by
  obtain ⟨r, r1, r2⟩ := tab00 D a b
  have hd : TD D a b = DL a b := rfl
  rw [hd] at r2
  simp only [m_r16_Distance, (r16_eq n).2 a b h ha hb, Option.bind_some, r1, r2]
end Go.Proofs.YtefbmooajknmgaaDoor
