/-
  A NODE IS VALID: the checker and the reference say the same.
-/
import Derived.Test.YtefbmooajknmgaaDoorPText
set_option linter.unusedVariables false
set_option linter.unusedSimpArgs false
namespace Go.Proofs.YtefbmooajknmgaaDoor
open Go.Abs

def Nd.kind : Nd → Int | .mk k _ _ _ => k
def textB (k : Int) (t : List UInt8) : Bool :=
  if k = 2 then symB t else if k = 3 then numB t else if k = 4 then (decide (t.length ≤ 200) && t.all printB) else if k = 10 then acL.any (fun e => e == t) else if k = 11 then fenB t else t == []
def kidsB (k c : Int) (m : Int) : Bool :=
  if k = 12 then decide (1 ≤ c) && (decide (c ≤ 16) && (decide (1 ≤ m) && (decide (m ≤ 256) && (m.tmod c == 0))))
  else (c == 0) && (if k = 1 then decide (m ≤ 200) else if k = 2 then m == 0 else if k = 3 then m == 0 else if k = 4 then m == 0 else if k = 5 then m == 2 else if k = 6 then m == 2 else if k = 7 then m == 2 else if k = 8 then m == 2
    else if k = 9 then m == 3 else if k = 10 then m == 1 else if k = 11 then m == 1 else false)
mutual
def formB : Nd → Bool
  | .mk k t c ks => (textB k t && kidsB k c (ks.length : Int)) && formsB k ks
def formsB : Int → List Nd → Bool
  | _, [] => true
  | k, v :: vs => (!((v.kind == 1) == (k == 1)) && formB v) && formsB k vs
end
mutual
def Nd.dep : Nd → Nat
  | .mk _ _ _ ks => Nd.deps ks + 1
def Nd.deps : List Nd → Nat
  | [] => 0
  | v :: vs => Nat.max v.dep (Nd.deps vs)
end
theorem forms_drop {k : Int} {a : List Nd} {i : Nat} (h : i < a.length) : formsB k (a.drop i) = ((!((a[i].kind == 1) == (k == 1)) && formB a[i]) && formsB k (a.drop (i + 1))) := by
  rw [List.drop_eq_getElem_cons h]; rfl
theorem deps_drop {a : List Nd} {i : Nat} (h : i < a.length) : Nd.deps (a.drop i) = Nat.max (a[i]).dep (Nd.deps (a.drop (i + 1))) := by
  rw [List.drop_eq_getElem_cons h]; rfl
theorem Nd.dep_pos : ∀ v : Nd, 1 ≤ v.dep
  | .mk _ _ _ ks => by simp only [Nd.dep]; omega
mutual
theorem Nd.dep_cnt : ∀ v : Nd, v.dep ≤ v.cnt
  | .mk _ _ _ ks => by have := Nd.deps_cnts ks; simp only [Nd.dep, Nd.cnt]; omega
theorem Nd.deps_cnts : ∀ vs : List Nd, Nd.deps vs ≤ Nd.cnts vs
  | [] => Nat.le_refl _
  | v :: vs => by
    have := Nd.dep_cnt v; have := Nd.deps_cnts vs
    simp only [Nd.deps, Nd.cnts]
    exact Nat.max_le.2 ⟨by omega, by omega⟩
end
mutual
theorem Nd.cnt_w : ∀ v : Nd, v.cnt ≤ v.w
  | .mk _ t _ ks => by have := Nd.cnts_ws ks; simp only [Nd.cnt, Nd.w]; omega
theorem Nd.cnts_ws : ∀ vs : List Nd, Nd.cnts vs ≤ Nd.ws vs
  | [] => Nat.le_refl _
  | v :: vs => by have := Nd.cnt_w v; have := Nd.cnts_ws vs; simp only [Nd.cnts, Nd.ws]; omega
end

theorem ne_beq {a b : Int} (h : a ≠ b) : (a == b) = false := by
  cases e : (a == b) with
  | false => rfl
  | true => exact absurd (eq_of_beq e) h
theorem r09_text_eq (n : Nat) (k : Int) (t : List UInt8) (c : Int) (ks : List Nd) (h : t.length + 40 < n) (hb : t.length ≤ 1073741824) : m_r09_text n (.mk k t c ks) = some (textB k t) := by
  have e200 := cast_le t.length 200
  rw [show ((200 : Nat) : Int) = 200 from rfl] at e200
  have ea : m_r09_In n acL t = some (acL.any fun e => e == t) := r09_In_eq n acL t (by simp only [acL, List.length_cons, List.length_nil]; omega) (by simp [acL])
  have a1 : m_r09_Accents = some acL := rfl
  unfold m_r09_text textB
  dsimp only
  by_cases h2 : k = 2
  · subst h2; simp only [beq_self_eq_true, cond_true, r09_Symbol_eq n t h hb, Option.bind_some, if_true]
  rw [ne_beq h2, if_neg h2, cond_false]
  by_cases h3 : k = 3
  · subst h3; simp only [beq_self_eq_true, cond_true, r09_Number_eq n t (by omega) hb, Option.bind_some, if_true]
  rw [ne_beq h3, if_neg h3, cond_false]
  by_cases h4 : k = 4
  · subst h4; simp only [beq_self_eq_true, cond_true, r09_Printable_eq n t (by omega) hb, Option.bind_some, if_true, e200]
    cases decide (t.length ≤ 200) <;> rfl
  rw [ne_beq h4, if_neg h4, cond_false]
  by_cases h10 : k = 10
  · subst h10; simp only [beq_self_eq_true, cond_true, a1, ea, Option.bind_some, if_true]
  rw [ne_beq h10, if_neg h10, cond_false]
  by_cases h11 : k = 11
  · subst h11; rw [if_pos rfl, beq_self_eq_true, cond_true, r09_fence_eq n t (by omega)]; rfl
  rw [ne_beq h11, if_neg h11, cond_false]
theorem kinds (k : Int) : k = 1 ∨ k = 2 ∨ k = 3 ∨ k = 4 ∨ k = 5 ∨ k = 6 ∨ k = 7 ∨ k = 8 ∨ k = 9 ∨ k = 10 ∨ k = 11 ∨ k = 12 ∨ (k < 1 ∨ 12 < k) := by omega
theorem r09_kids_eq (k : Int) (t : List UInt8) (c : Int) (ks : List Nd) : m_r09_kids (.mk k t c ks) = some (kidsB k c (ks.length : Int)) := by
  unfold m_r09_kids
  dsimp only
  generalize (ks.length : Int) = m
  rcases kinds k with rfl | rfl | rfl | rfl | rfl | rfl | rfl | rfl | rfl | rfl | rfl | rfl | h
  · simp only [bne, kidsB]; generalize (c == 0) = z; generalize decide (m ≤ 200) = y; cases z <;> rfl
  · simp only [bne, kidsB]; generalize (c == 0) = z; generalize (m == 0) = y; cases z <;> rfl
  · simp only [bne, kidsB]; generalize (c == 0) = z; generalize (m == 0) = y; cases z <;> rfl
  · simp only [bne, kidsB]; generalize (c == 0) = z; generalize (m == 0) = y; cases z <;> rfl
  · simp only [bne, kidsB]; generalize (c == 0) = z; generalize (m == 2) = y; cases z <;> rfl
  · simp only [bne, kidsB]; generalize (c == 0) = z; generalize (m == 2) = y; cases z <;> rfl
  · simp only [bne, kidsB]; generalize (c == 0) = z; generalize (m == 2) = y; cases z <;> rfl
  · simp only [bne, kidsB]; generalize (c == 0) = z; generalize (m == 2) = y; cases z <;> rfl
  · simp only [bne, kidsB]; generalize (c == 0) = z; generalize (m == 3) = y; cases z <;> rfl
  · simp only [bne, kidsB]; generalize (c == 0) = z; generalize (m == 1) = y; cases z <;> rfl
  · simp only [bne, kidsB]; generalize (c == 0) = z; generalize (m == 1) = y; cases z <;> rfl
  · unfold kidsB
    rw [if_pos rfl, beq_self_eq_true, cond_true]
    by_cases h1 : 1 ≤ c
    · rw [dec_t h1, req_t (by omega)]
      generalize (m.tmod c == 0) = y
      cases decide (c ≤ 16) <;> cases decide (1 ≤ m) <;> cases decide (m ≤ 256) <;> rfl
    · rw [dec_f h1]; rfl
  · have e : ∀ i : Int, 1 ≤ i → i ≤ 12 → (k == i) = false := fun i h1 h2 => ne_beq (by omega)
    have f : ∀ i : Int, 1 ≤ i → i ≤ 12 → k ≠ i := fun i h1 h2 => by omega
    unfold kidsB
    rw [if_neg (f 12 (by decide) (by decide)), if_neg (f 1 (by decide) (by decide)), if_neg (f 2 (by decide) (by decide)), if_neg (f 3 (by decide) (by decide)), if_neg (f 4 (by decide) (by decide)), if_neg (f 5 (by decide) (by decide)),
      if_neg (f 6 (by decide) (by decide)), if_neg (f 7 (by decide) (by decide)), if_neg (f 8 (by decide) (by decide)), if_neg (f 9 (by decide) (by decide)), if_neg (f 10 (by decide) (by decide)), if_neg (f 11 (by decide) (by decide))]
    rw [e 12 (by decide) (by decide), e 1 (by decide) (by decide), e 2 (by decide) (by decide), e 3 (by decide) (by decide), e 4 (by decide) (by decide), e 5 (by decide) (by decide),
      e 6 (by decide) (by decide), e 7 (by decide) (by decide), e 8 (by decide) (by decide), e 9 (by decide) (by decide), e 10 (by decide) (by decide), e 11 (by decide) (by decide)]
    cases (c == 0) <;> cases (c != 0) <;> rfl
theorem own_eq (n : Nat) (x : Int) (k : Int) (t : List UInt8) (c : Int) (ks : List Nd) (h : t.length + 40 < n) (hb : t.length ≤ 1073741824) :
    m_node_checker_own n ((), x) (.mk k t c ks) = some (textB k t && kidsB k c (ks.length : Int), ((), x)) := by
  have e200 := cast_le t.length 200
  rw [show ((200 : Nat) : Int) = 200 from rfl] at e200
  unfold m_node_checker_own
  dsimp only
  generalize (ks.length : Int) = m
  have em : m_node_empty t = some (t == []) := rfl
  rcases kinds k with rfl | rfl | rfl | rfl | rfl | rfl | rfl | rfl | rfl | rfl | rfl | rfl | h
  · simp only [em]
    show _ = some ((t == []) && ((c == 0) && decide (m ≤ 200)), ((), x))
    cases t == [] <;> cases c == 0 <;> rfl
  · simp only [node_Symbol_eq n t h hb]
    show _ = some (symB t && ((c == 0) && (m == 0)), ((), x))
    cases symB t <;> cases c == 0 <;> rfl
  · simp only [node_Number_eq n t (by omega) hb]
    show _ = some (numB t && ((c == 0) && (m == 0)), ((), x))
    cases numB t <;> cases c == 0 <;> rfl
  · simp only [node_plain_eq n t (by omega) hb, e200]
    show _ = some ((decide (t.length ≤ 200) && t.all printB) && ((c == 0) && (m == 0)), ((), x))
    cases decide (t.length ≤ 200) <;> cases t.all printB <;> cases c == 0 <;> rfl
  · simp only [em]
    show _ = some ((t == []) && ((c == 0) && (m == 2)), ((), x))
    cases t == [] <;> cases c == 0 <;> rfl
  · simp only [em]
    show _ = some ((t == []) && ((c == 0) && (m == 2)), ((), x))
    cases t == [] <;> cases c == 0 <;> rfl
  · simp only [em]
    show _ = some ((t == []) && ((c == 0) && (m == 2)), ((), x))
    cases t == [] <;> cases c == 0 <;> rfl
  · simp only [em]
    show _ = some ((t == []) && ((c == 0) && (m == 2)), ((), x))
    cases t == [] <;> cases c == 0 <;> rfl
  · simp only [em]
    show _ = some ((t == []) && ((c == 0) && (m == 3)), ((), x))
    cases t == [] <;> cases c == 0 <;> rfl
  · simp only [node_accent_eq]
    show _ = some ((acL.any fun e => e == t) && ((c == 0) && (m == 1)), ((), x))
    cases (acL.any fun e => e == t) <;> cases c == 0 <;> rfl
  · simp only [node_fence_eq]
    show _ = some (fenB t && ((c == 0) && (m == 1)), ((), x))
    cases fenB t <;> cases c == 0 <;> rfl
  · simp only [em]
    show _ = some ((t == []) && (decide (1 ≤ c) && (decide (c ≤ 16) && (decide (1 ≤ m) && (decide (m ≤ 256) && (m.tmod c == 0))))), ((), x))
    by_cases h1 : 1 ≤ c
    · rw [dec_t h1, req_t (by omega)]
      generalize (m.tmod c == 0) = y
      cases t == [] <;> cases decide (c ≤ 16) <;> cases decide (1 ≤ m) <;> cases decide (m ≤ 256) <;> rfl
    · rw [dec_f h1]
      cases t == [] <;> rfl
  · have f : ∀ i : Int, 1 ≤ i → i ≤ 12 → k ≠ i := fun i h1 h2 => by omega
    have hk : kidsB k c m = false := by
      unfold kidsB
      rw [if_neg (f 12 (by decide) (by decide)), if_neg (f 1 (by decide) (by decide)), if_neg (f 2 (by decide) (by decide)), if_neg (f 3 (by decide) (by decide)), if_neg (f 4 (by decide) (by decide)), if_neg (f 5 (by decide) (by decide)),
        if_neg (f 6 (by decide) (by decide)), if_neg (f 7 (by decide) (by decide)), if_neg (f 8 (by decide) (by decide)), if_neg (f 9 (by decide) (by decide)), if_neg (f 10 (by decide) (by decide)), if_neg (f 11 (by decide) (by decide))]
      exact Bool.and_false _
    rw [hk, Bool.and_false]
    by_cases h1 : k < 1
    · rw [dec_t h1]; rfl
    · rw [dec_f h1, dec_t (show 12 < k by omega)]; rfl

theorem r09_form_loop {F : Nd → Option Bool} {k : Int} {ks : List Nd} (hF : ∀ v ∈ ks, F v = some (formB v)) (hl : ks.length ≤ 1073741824) :
    ∀ (q i : Nat), ks.length - i < q → i ≤ ks.length → m_r09_form_l1 F k ks q (i : Int) = some (if formsB k (ks.drop i) then .go () else .ret false)
  | 0, _, h, _ => by omega
  | q + 1, i, hq, hi => by
    unfold m_r09_form_l1
    by_cases h : i < ks.length
    · rw [dec_t (Int.ofNat_lt.2 h), cond_true, at_get h]
      have hf := hF _ (List.getElem_mem h)
      have g1 := forms_drop (k := k) h
      rcases e : ks[i] with ⟨a, b, c, d⟩
      rw [e] at hf g1
      simp only [Nd.kind] at g1
      generalize formsB k (ks.drop i) = g at g1 ⊢
      subst g1
      simp only [Option.bind_some, hf]
      rw [wi_succ (by omega), r09_form_loop hF hl q (i + 1) (by omega) (by omega)]
      cases ((a == 1) == (k == 1)) <;> cases formB (Nd.mk a b c d) <;> simp
    · rw [dec_f (by omega), cond_false]
      obtain rfl : i = ks.length := by omega
      simp [formsB]
theorem r09_form_eq : ∀ (n : Nat) (t : Nd), t.w + 45 < n → t.w ≤ 1073741824 → m_r09_form n t = some (formB t)
  | 0, _, h, _ => by omega
  | n + 1, .mk k t c ks, h, hb => by
    simp only [Nd.w] at h hb
    have hl := Nd.ws_len ks
    unfold m_r09_form
    rw [r09_text_eq n k t c ks (by omega) (by omega), r09_kids_eq]
    have := r09_form_loop (F := m_r09_form n) (k := k) (ks := ks) (fun v hv => r09_form_eq n v (by have := Nd.w_mem hv; omega) (by have := Nd.w_mem hv; omega)) (by omega) n 0 (by omega) (by omega)
    rw [show ((0 : Nat) : Int) = 0 from rfl, List.drop_zero] at this
    simp only [Option.bind_some, this, formB]
    cases textB k t <;> cases kidsB k c (ks.length : Int) <;> cases formsB k ks <;> rfl
theorem r09_Depth_loop {F : Nd → Option Int} {ks : List Nd} (hF : ∀ v ∈ ks, F v = some (v.dep : Int)) (hl : ks.length ≤ 1073741824) :
    ∀ (q i o : Nat), ks.length - i < q → i ≤ ks.length → m_r09_Depth_l1 F ks q (o : Int) (i : Int) = some ((Nat.max o (Nd.deps (ks.drop i)) : Nat) : Int)
  | 0, _, _, h, _ => by omega
  | q + 1, i, o, hq, hi => by
    unfold m_r09_Depth_l1
    by_cases h : i < ks.length
    · rw [dec_t (Int.ofNat_lt.2 h), cond_true, at_get h, deps_drop h]
      have hf := hF _ (List.getElem_mem h)
      rcases e : ks[i] with ⟨a, b, c, d⟩
      rw [e] at hf
      simp only [Option.bind_some, hf]
      have hm : (if (o : Int) < ((Nd.mk a b c d).dep : Int) then ((Nd.mk a b c d).dep : Int) else (o : Int)) = ((Nat.max o (Nd.mk a b c d).dep : Nat) : Int) := by
        by_cases g : (o : Int) < ((Nd.mk a b c d).dep : Int)
        · rw [if_pos g]; congr 1; exact (Nat.max_eq_right (by omega)).symm
        · rw [if_neg g]; congr 1; exact (Nat.max_eq_left (by omega)).symm
      rw [wi_succ (by omega), hm, r09_Depth_loop hF hl q (i + 1) _ (by omega) (by omega)]
      congr 2
      exact Nat.max_assoc _ _ _
    · rw [dec_f (by omega), cond_false]
      obtain rfl : i = ks.length := by omega
      rw [List.drop_length]
      congr 2
      exact (Nat.max_eq_left (Nat.zero_le _)).symm
theorem r09_Depth_eq : ∀ (n : Nat) (t : Nd), t.cnt < n → t.cnt ≤ 67108864 → m_r09_Depth n t = some (t.dep : Int)
  | 0, _, h, _ => by omega
  | n + 1, .mk k t c ks, h, hb => by
    simp only [Nd.cnt] at h hb
    have hl := Nd.cnts_len ks
    have hd := Nd.deps_cnts ks
    unfold m_r09_Depth
    have := r09_Depth_loop (F := m_r09_Depth n) (ks := ks) (fun v hv => r09_Depth_eq n v (by have := Nd.cnts_mem hv; omega) (by have := Nd.cnts_mem hv; omega)) (by omega) n 0 0 (by omega) (by omega)
    rw [show ((0 : Nat) : Int) = 0 from rfl, List.drop_zero] at this
    rw [this, Option.bind_some, show Nat.max 0 (Nd.deps ks) = Nd.deps ks from Nat.max_eq_right (Nat.zero_le _), wi_succ (by omega)]
    rfl

def validB (t : Nd) : Bool := (t.kind == 1) && (formB t && (decide (t.cnt ≤ 1000) && decide (t.dep ≤ 24)))
theorem r09_Valid_eq (n : Nat) (t : Nd) (h : t.w + 45 < n) (hb : t.w ≤ 67108864) : m_r09_Valid n t = some (validB t) := by
  have hc := Nd.cnt_w t
  have e1 := r09_form_eq n t h (by omega)
  have e2 := r09_Count_eq n t (by omega) (by omega)
  have e3 := r09_Depth_eq n t (by omega) (by omega)
  have e4 := cast_le t.cnt 1000
  rw [show ((1000 : Nat) : Int) = 1000 from rfl] at e4
  have e5 := cast_le t.dep 24
  rw [show ((24 : Nat) : Int) = 24 from rfl] at e5
  obtain ⟨k, s, c, ks⟩ := t
  unfold m_r09_Valid validB
  simp only [e1, e2, e3, Option.bind_some, e4, e5, Nd.kind]
  cases k == 1 <;> cases formB (.mk k s c ks) <;> cases decide ((Nd.mk k s c ks).cnt ≤ 1000) <;> rfl

/- the checker -/
abbrev okN (t : Nd) (x d : Nat) : Prop := formB t = true ∧ x + t.cnt ≤ 1000 ∧ d + t.dep ≤ 25
abbrev okNs (k : Int) (vs : List Nd) (x d : Nat) : Prop := formsB k vs = true ∧ x + Nd.cnts vs ≤ 1000 ∧ d + Nd.deps vs ≤ 24
theorem check_loop {F : (Unit × Int) → Nd → Int → Option (Bool × (Unit × Int))} {k : Int} {ks : List Nd} {d : Nat} (hd : d ≤ 24)
    (hF : ∀ v ∈ ks, ∀ x : Nat, x ≤ 1000 → ∃ y, F ((), (x : Int)) v ((d + 1 : Nat) : Int) = some (decide (okN v x (d + 1)), ((), y)) ∧ (okN v x (d + 1) → y = ((x + v.cnt : Nat) : Int))) (hl : ks.length ≤ 1073741824) :
    ∀ (q i x : Nat), ks.length - i < q → i ≤ ks.length → x ≤ 1000 →
      (okNs k (ks.drop i) x d ∧ m_node_checker_node_l1 F k ks (d : Int) q (x : Int) (i : Int) = some (.go ((x + Nd.cnts (ks.drop i) : Nat) : Int))) ∨
      (¬ okNs k (ks.drop i) x d ∧ ∃ z, m_node_checker_node_l1 F k ks (d : Int) q (x : Int) (i : Int) = some (.ret (false, ((), z))))
  | 0, _, _, h, _, _ => by omega
  | q + 1, i, x, hq, hi, hx => by
    unfold m_node_checker_node_l1
    by_cases h : i < ks.length
    · rw [dec_t (Int.ofNat_lt.2 h), cond_true, at_get h]
      obtain ⟨y, hf, hy⟩ := hF _ (List.getElem_mem h) x hx
      have g1 := forms_drop (k := k) h
      have g2 := Nd.cnts_drop h
      have g3 := deps_drop h
      rcases e : ks[i] with ⟨a, b, c, ds⟩
      rw [e] at hf hy g1 g2 g3
      simp only [Option.bind_some]
      rw [wi_succ (by omega), wi_succ (by omega), hf]
      simp only [Option.bind_some]
      have g4 : Nd.deps (ks.drop i) = Nat.max (Nd.mk a b c ds).dep (Nd.deps (ks.drop (i + 1))) := g3
      have g5 : (Nd.mk a b c ds).dep ≤ Nd.deps (ks.drop i) := by rw [g4]; exact Nat.le_max_left _ _
      have g6 : Nd.deps (ks.drop (i + 1)) ≤ Nd.deps (ks.drop i) := by rw [g4]; exact Nat.le_max_right _ _
      rw [show ((k == 1) == (a == 1)) = ((a == 1) == (k == 1)) by cases k == 1 <;> cases a == 1 <;> rfl]
      cases hkk : ((a == 1) == (k == 1)) with
      | true =>
        simp only [cond_true, Option.bind_some]
        refine .inr ⟨fun ⟨h1, _⟩ => ?_, _, rfl⟩
        rw [g1] at h1
        simp [Nd.kind, hkk] at h1
      | false =>
        simp only [cond_false, Option.bind_some]
        by_cases hok : okN (Nd.mk a b c ds) x (d + 1)
        · rw [dec_t hok]
          simp only [Bool.not_true, cond_false]
          rw [hy hok]
          have hp := (Nd.mk a b c ds).cnt_pos
          rcases check_loop hd hF hl q (i + 1) (x + (Nd.mk a b c ds).cnt) (by omega) (by omega) hok.2.1 with ⟨hr, hr2⟩ | ⟨hr, z, hr2⟩
          · refine .inl ⟨⟨?_, ?_, ?_⟩, ?_⟩
            · rw [g1, hr.1, hok.1]; simp [Nd.kind, hkk]
            · have := hr.2.1; omega
            · have := hr.2.2
              have := hok.2.2
              have : Nd.deps (ks.drop i) ≤ 24 - d := by rw [g4]; exact Nat.max_le.2 ⟨by omega, by omega⟩
              omega
            · rw [hr2, g2]; congr 3; omega
          · refine .inr ⟨fun ⟨h1, h2, h3⟩ => hr ⟨?_, by omega, by omega⟩, z, hr2⟩
            rw [g1] at h1
            simp only [Bool.and_eq_true] at h1
            exact h1.2
        · rw [dec_f hok]
          simp only [Bool.not_false, cond_true]
          refine .inr ⟨fun ⟨h1, h2, h3⟩ => hok ⟨?_, by omega, by omega⟩, y, rfl⟩
          rw [g1] at h1
          simp only [Bool.and_eq_true] at h1
          exact h1.1.2
    · rw [dec_f (by omega), cond_false]
      obtain rfl : i = ks.length := by omega
      rw [List.drop_length]
      exact .inl ⟨⟨rfl, hx, hd⟩, rfl⟩
theorem check_eq : ∀ (n : Nat) (t : Nd) (x d : Nat), t.w + 45 < n → t.w ≤ 67108864 → x ≤ 1000 → d ≤ 25 → 
    ∃ y, m_node_checker_node n ((), (x : Int)) t (d : Int) = some (decide (okN t x d), ((), y)) ∧ (okN t x d → y = ((x + t.cnt : Nat) : Int))
  | 0, _, _, _, h, _, _, _ => by omega
  | n + 1, .mk k t c ks, x, d, h, hb, hx, hd => by
    simp only [Nd.w] at h hb
    have hl := Nd.ws_len ks
    unfold m_node_checker_node
    rw [wi_succ (by omega)]
    by_cases h1 : 1000 < ((x + 1 : Nat) : Int)
    · rw [dec_t h1]
      simp only [cond_true, Option.bind_some]
      have hn : ¬ okN (.mk k t c ks) x d := fun ⟨_, h2, _⟩ => by simp only [Nd.cnt] at h2; omega
      exact ⟨_, by rw [dec_f hn], fun h => absurd h hn⟩
    · rw [dec_f h1, cond_false]
      by_cases h2 : 24 < (d : Int)
      · rw [dec_t h2]
        simp only [cond_true, Option.bind_some]
        have hn : ¬ okN (.mk k t c ks) x d := fun ⟨_, _, h2⟩ => by simp only [Nd.dep] at h2; omega
        exact ⟨_, by rw [dec_f hn], fun h => absurd h hn⟩
      · rw [dec_f h2, cond_false, own_eq n _ k t c ks (by omega) (by omega)]
        simp only [Option.bind_some]
        cases ho : (textB k t && kidsB k c (ks.length : Int)) with
        | false =>
          simp only [Bool.not_false, cond_true]
          have hn : ¬ okN (.mk k t c ks) x d := fun ⟨h1, _⟩ => by rw [formB, ho] at h1; cases h1
          exact ⟨_, by rw [dec_f hn], fun h => absurd h hn⟩
        | true =>
          simp only [Bool.not_true, cond_false]
          have := check_loop (F := m_node_checker_node n) (k := k) (ks := ks) (d := d) (by omega) (fun v hv z hz => check_eq n v z (d + 1) (by have := Nd.w_mem hv; omega) (by have := Nd.w_mem hv; omega) hz (by omega)) (by omega) n 0 (x + 1) (by omega) (by omega) (by omega)
          rw [show ((0 : Nat) : Int) = 0 from rfl, List.drop_zero] at this
          rcases this with ⟨hr, hr2⟩ | ⟨hr, z, hr2⟩
          · have hy : okN (.mk k t c ks) x d := ⟨by rw [formB, ho, hr.1]; rfl, by have := hr.2.1; simp only [Nd.cnt]; omega, by have := hr.2.2; simp only [Nd.dep]; omega⟩
            rw [hr2]
            exact ⟨_, by rw [dec_t hy]; rfl, fun _ => by simp only [Nd.cnt]; omega⟩
          · have hn : ¬ okN (.mk k t c ks) x d := fun ⟨g1, g2, g3⟩ => hr ⟨by rw [formB, ho] at g1; exact g1, by simp only [Nd.cnt] at g2; omega, by simp only [Nd.dep] at g3; omega⟩
            rw [hr2]
            exact ⟨_, by rw [dec_f hn]; rfl, fun h => absurd h hn⟩
theorem node_Valid_eq (n : Nat) (t : Nd) (h : t.w + 45 < n) (hb : t.w ≤ 67108864) : m_node_Valid n t = some (validB t) := by
  obtain ⟨y, h1, _⟩ := check_eq n t 0 1 h hb (by omega) (by omega)
  rw [show ((0 : Nat) : Int) = 0 from rfl, show ((1 : Nat) : Int) = 1 from rfl] at h1
  obtain ⟨k, s, c, ks⟩ := t
  unfold m_node_Valid validB
  have hk : m_node_kinds = some () := rfl
  simp only [hk, h1, Option.bind_some, Nd.kind]
  cases k == 1 with
  | false => rfl
  | true =>
    simp only [cond_true, Option.bind_some, Bool.true_and, Option.some.injEq, okN]
    cases formB (.mk k s c ks) with
    | false => simp
    | true =>
      by_cases g1 : (Nd.mk k s c ks).cnt ≤ 1000
      · by_cases g2 : (Nd.mk k s c ks).dep ≤ 24
        · rw [dec_t g1, dec_t g2, dec_t ⟨rfl, by omega, by omega⟩]; rfl
        · rw [dec_t g1, dec_f g2, dec_f (fun h => g2 (by omega))]; rfl
      · rw [dec_f g1, dec_f (fun h => g1 (by omega))]; rfl
end Go.Proofs.YtefbmooajknmgaaDoor
