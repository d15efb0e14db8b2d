/-
  Joined out of: PEdit1, PEdit2, PEdit3, PEdit4, PEdit5, PEdit6.
-/
import Derived.Test.YtfbggpmdmhgpfaaZg
set_option linter.unusedVariables false
set_option linter.unusedSimpArgs false
namespace Go.Proofs.Ytfbggpmdmhgpfaa
open Go.Abs
def splS (l : List Nd) (p q : Nat) (b : List Nd) : List Nd := (l.take p ++ b) ++ l.drop q
def segS (l : List Nd) (p q : Nat) : List Nd := (l.take q).drop p
def rowN (l : List Nd) : Nd := .mk 1 [] 0 l
def fillN (v : Nd) (s : Nat) (l : List Nd) : Nd := .mk v.kind v.text v.cols (v.kids.set s (rowN l))
def leafB (k : Int) : Bool := (k == 2) || ((k == 3) || ((k == 4) || ((k == 10) || (k == 11))))
def needI (k m : Int) (nodes : List Nd) : Int := if k = 1 then 0 else if k = 2 then nodes.length else if k = 3 then m else 1
def TemplP (nodes : List Nd) (slot : Int) : Prop := ∃ (v : Nd) (s : Nat) (z : Nd), nodes = [v] ∧ slot = (s : Int) ∧ validB (rowN [v]) = true ∧ v.kids[s]? = some z ∧ z.kids = []
def FormP : Op8 → Prop
  | (k, _, _, m, nodes, slot, old, text) =>
    ((k = 1 ∨ k = 2) ∧ nodes ≠ [] ∧ validB (rowN nodes) = true ∧ m = 0 ∧ slot = 0 ∧ old = [] ∧ text = []) ∨
    ((k = 3 ∨ k = 4) ∧ 0 ≤ m ∧ TemplP nodes slot ∧ old = [] ∧ text = []) ∨
    (k = 5 ∧ old ≠ text ∧ nodes = [] ∧ m = 0 ∧ slot = 0)
inductive Chg (l : List Nd) : Op8 → List Nd → Int → Prop
  | range {k : Int} {row : List Int} {a m : Int} {nodes : List Nd} {slot : Int} {old text : List UInt8} (h : a < 0 ∨ (l.length : Int) < a ∨ (l.length : Int) - a < needI k m nodes) : Chg l (k, row, a, m, nodes, slot, old, text) [] 2
  | ins {row : List Int} {p : Nat} {m : Int} {nodes : List Nd} {slot : Int} {old text : List UInt8} (h : p ≤ l.length) : Chg l (1, row, (p : Int), m, nodes, slot, old, text) (splS l p p nodes) 0
  | del {row : List Int} {p : Nat} {m : Int} {nodes : List Nd} {slot : Int} {old text : List UInt8} (h : p + nodes.length ≤ l.length) (he : segS l p (p + nodes.length) = nodes) : Chg l (2, row, (p : Int), m, nodes, slot, old, text) (splS l p (p + nodes.length) []) 0
  | del_no {row : List Int} {p : Nat} {m : Int} {nodes : List Nd} {slot : Int} {old text : List UInt8} (h : p + nodes.length ≤ l.length) (he : segS l p (p + nodes.length) ≠ nodes) : Chg l (2, row, (p : Int), m, nodes, slot, old, text) [] 7
  | wrap {row : List Int} {p m : Nat} {v : Nd} {s : Nat} {old text : List UInt8} (h : p + m ≤ l.length) : Chg l (3, row, (p : Int), (m : Int), [v], (s : Int), old, text) (splS l p (p + m) [fillN v s (segS l p (p + m))]) 0
  | unwrap {row : List Int} {p : Nat} {m : Int} {v it z : Nd} {s : Nat} {old text : List UInt8} (h : l[p]? = some it) (hz : it.kids[s]? = some z) (hm : (z.kids.length : Int) = m) (he : it = fillN v s z.kids) : Chg l (4, row, (p : Int), m, [v], (s : Int), old, text) (splS l p (p + 1) z.kids) 0
  | unwrap_no {row : List Int} {p : Nat} {m : Int} {v it : Nd} {s : Nat} {old text : List UInt8} (h : l[p]? = some it) (hz : ∀ z, it.kids[s]? = some z → (z.kids.length : Int) = m → it ≠ fillN v s z.kids) : Chg l (4, row, (p : Int), m, [v], (s : Int), old, text) [] 7
  | set {row : List Int} {p : Nat} {m : Int} {nodes : List Nd} {it : Nd} {slot : Int} {old text : List UInt8} (h : l[p]? = some it) (hl : leafB it.kind = true) (he : it.text = old) : Chg l (5, row, (p : Int), m, nodes, slot, old, text) (splS l p (p + 1) [.mk it.kind text it.cols it.kids]) 0
  | set_no {row : List Int} {p : Nat} {m : Int} {nodes : List Nd} {it : Nd} {slot : Int} {old text : List UInt8} (h : l[p]? = some it) (hl : ¬ (leafB it.kind = true ∧ it.text = old)) : Chg l (5, row, (p : Int), m, nodes, slot, old, text) [] 7
inductive App (t : Nd) : Op8 → Nd → Int → Prop
  | arg {o : Op8} (h : validB t = false) : App t o zeroNd 1
  | form {o : Op8} (h : validB t = true) (hf : ¬ FormP o) : App t o zeroNd 4
  | none {o : Op8} (h : validB t = true) (hf : FormP o) (hn : findL t o.2.1 = Option.none) : App t o zeroNd 8
  | chg {o : Op8} {r : Nd} {l : List Nd} {e : Int} (h : validB t = true) (hf : FormP o) (hr : Fd t o.2.1 r) (hc : Chg r.kids o l e) (he : e ≠ 0) : App t o zeroNd e
  | limit {o : Op8} {r : Nd} {l : List Nd} (h : validB t = true) (hf : FormP o) (hr : Fd t o.2.1 r) (hc : Chg r.kids o l 0) (hv : validB (putL t o.2.1 (rowN l)) = false) : App t o zeroNd 6
  | ok {o : Op8} {r : Nd} {l : List Nd} (h : validB t = true) (hf : FormP o) (hr : Fd t o.2.1 r) (hc : Chg r.kids o l 0) (hv : validB (putL t o.2.1 (rowN l)) = true) : App t o (putL t o.2.1 (rowN l)) 0
theorem Chg.w {l l' : List Nd} {k : Int} {row : List Int} {a m : Int} {nodes : List Nd} {slot : Int} {old text : List UInt8} {e : Int} (h : Chg l (k, row, a, m, nodes, slot, old, text) l' e) : Nd.ws l' ≤ Nd.ws l + Nd.ws nodes + text.length + 3 ∧ l'.length ≤ l.length + Nd.ws nodes + Nd.ws l + 1 := by
  have key : ∀ p q b, p ≤ q → Nd.ws (splS l p q b) + Nd.ws (segS l p q) = Nd.ws l + Nd.ws b := fun p q b h => ws_splice l b h
  have hlen : ∀ l' : List Nd, l'.length ≤ Nd.ws l' := Nd.ws_len
  have h1 : Nd.ws l' ≤ Nd.ws l + Nd.ws nodes + text.length + 3 := by
    cases h with
    | range => simp only [Nd.ws]; omega
    | @ins _ p _ _ _ _ _ h => have := key p p nodes (Nat.le_refl _); omega
    | @del _ p _ _ _ _ _ h he => have := key p (p + nodes.length) [] (Nat.le_add_right _ _); simp only [Nd.ws] at this; omega
    | del_no => simp only [Nd.ws]; omega
    | @wrap _ p m v s _ _ h =>
      have := key p (p + m) [fillN v s (segS l p (p + m))] (Nat.le_add_right _ _)
      have hf : (fillN v s (segS l p (p + m))).w ≤ v.w + Nd.ws (segS l p (p + m)) + 1 := by
        rw [w_kids v]
        simp only [fillN, rowN, Nd.w]
        by_cases hs : s < v.kids.length
        · have := ws_setp (ks := v.kids) (i := s) (y := .mk 1 [] 0 (segS l p (p + m))) (List.getElem?_eq_getElem hs)
          simp only [Nd.w, List.length_nil] at this
          omega
        · rw [List.set_eq_of_length_le (by omega)]; omega
      simp only [Nd.ws] at this ⊢
      omega
    | @unwrap _ p _ v it z s _ _ h hz hm he =>
      have := key p (p + 1) z.kids (Nat.le_add_right _ _)
      have hsg : segS l p (p + 1) = [it] := by
        have := seg_one l (List.getElem?_eq_some_iff.1 h).1
        rw [segS, this, (List.getElem?_eq_some_iff.1 h).2]
      have w1 := Nd.w_mem (List.mem_of_getElem? hz)
      have w2 := w_kids z
      have w3 := w_kids it
      rw [hsg] at this
      simp only [Nd.ws] at this
      omega
    | unwrap_no => simp only [Nd.ws]; omega
    | @set _ p _ _ it _ _ _ h hl he =>
      have := key p (p + 1) [.mk it.kind text it.cols it.kids] (Nat.le_add_right _ _)
      have hsg : segS l p (p + 1) = [it] := by
        have := seg_one l (List.getElem?_eq_some_iff.1 h).1
        rw [segS, this, (List.getElem?_eq_some_iff.1 h).2]
      have w3 := w_kids it
      rw [hsg] at this
      simp only [Nd.ws, Nd.w] at this
      omega
    | set_no => simp only [Nd.ws]; omega
  refine ⟨h1, ?_⟩
  cases h with
  | range => simp
  | @ins _ p _ _ _ _ _ h => have := hlen nodes; simp only [splS, List.length_append, List.length_take, List.length_drop]; omega
  | @del _ p _ _ _ _ _ h he => simp only [splS, List.length_append, List.length_take, List.length_drop, List.length_nil]; omega
  | del_no => simp
  | @wrap _ p m v s _ _ h => simp only [splS, List.length_append, List.length_take, List.length_drop, List.length_cons, List.length_nil]; omega
  | @unwrap _ p _ v it z s _ _ h hz hm he =>
    have w1 := Nd.w_mem (List.mem_of_getElem? hz)
    have w4 := Nd.w_mem (List.mem_of_getElem? h)
    have w2 := w_kids z
    have w3 := w_kids it
    have := hlen z.kids
    simp only [splS, List.length_append, List.length_take, List.length_drop]; omega
  | unwrap_no => simp
  | @set _ p _ _ it _ _ _ h hl he => simp only [splS, List.length_append, List.length_take, List.length_drop, List.length_cons, List.length_nil]; omega
  | set_no => simp
theorem validItems_eq (n : Nat) (nodes : List Nd) (h : Nd.ws nodes + 50 < n) (hb : Nd.ws nodes ≤ 67000000) : m_r09_ValidItems n nodes = some (validB (rowN nodes)) := by
  unfold m_r09_ValidItems
  simp only [m_r09_ToRow, Option.bind_some]
  rw [r09_Valid_eq n _ (by simp only [Nd.w, List.length_nil]; omega) (by simp only [Nd.w, List.length_nil]; omega)]; rfl
theorem r12_template_eq (n : Nat) (l : List Nd) (slot : Int) (h : Nd.ws l + 50 < n) (hb : Nd.ws l ≤ 67000000) : ∃ b, m_r12_template n l slot = some b ∧ (b = true ↔ TemplP l slot) := by
  unfold m_r12_template
  dsimp only
  cases e1 : ((l.length : Int) == 1) with
  | false => exact ⟨false, rfl, (fun h => by cases h), fun ⟨v, s, z, h, _⟩ => by rw [h] at e1; cases e1⟩
  | true =>
    have hl : l.length = 1 := by have := eq_of_beq e1; omega
    obtain ⟨v, rfl⟩ := List.length_eq_one_iff.1 hl
    have hv := validItems_eq n [v] h hb
    obtain ⟨a, b, c, d⟩ := v
    have h0 : at? [Nd.mk a b c d] (0 : Int) = some (Nd.mk a b c d) := rfl
    simp only [cond_true, hv, Option.bind_some, h0]
    cases hvb : validB (rowN [.mk a b c d]) with
    | false => exact ⟨false, rfl, (fun h => by cases h), fun ⟨v, s, z, h, _, h2, _⟩ => by cases h; rw [hvb] at h2; cases h2⟩
    | true =>
      by_cases h1 : 0 ≤ slot
      · by_cases h2 : slot < (d.length : Int)
        · obtain ⟨p, rfl, hp, hg⟩ := at_int h1 h2
          simp only [cond_true, dec_t h1, dec_t h2, hg, Option.bind_some]
          have hz : d[p]? = some d[p] := List.getElem?_eq_getElem hp
          generalize d[p] = z at hz
          obtain ⟨x1, x2, x3, x4⟩ := z
          refine ⟨_, rfl, fun h => ⟨_, p, _, rfl, rfl, hvb, hz, ?_⟩, fun ⟨v, s, z, h, hs, _, hz', hk⟩ => ?_⟩
          · have := eq_of_beq h
            exact List.eq_nil_of_length_eq_zero (by simp only [Nd.kids]; omega)
          · cases h
            obtain rfl : p = s := by omega
            simp only [Nd.kids] at hz'
            rw [hz] at hz'
            cases hz'
            simp only [Nd.kids] at hk
            subst hk
            rfl
        · simp only [cond_true, dec_t h1, dec_f h2]
          refine ⟨false, rfl, (fun h => by cases h), fun ⟨v, s, z, h, hs, _, hz, _⟩ => ?_⟩
          cases h
          have := (List.getElem?_eq_some_iff.1 hz).1
          simp only [Nd.kids] at this
          omega
      · simp only [cond_true, dec_f h1]
        refine ⟨false, rfl, (fun h => by cases h), fun ⟨v, s, z, h, hs, _⟩ => ?_⟩
        omega
theorem r12_Formed_eq (n : Nat) (k : Int) (row : List Int) (at' m : Int) (nodes : List Nd) (slot : Int) (old text : List UInt8) (h : Nd.ws nodes + 50 < n) (hb : Nd.ws nodes ≤ 67000000) :
    ∃ b, m_r12_Formed n (k, row, at', m, nodes, slot, old, text) = some b ∧ (b = true ↔ FormP (k, row, at', m, nodes, slot, old, text)) := by
  have hv := validItems_eq n nodes h hb
  obtain ⟨tb, t1, t2⟩ := r12_template_eq n nodes slot h hb
  have hlen : decide (0 < (nodes.length : Int)) = true ↔ nodes ≠ [] := by cases nodes <;> simp
  have hlen0 : ((nodes.length : Int) == 0) = true ↔ nodes = [] := by cases nodes <;> simp <;> omega
  unfold m_r12_Formed
  simp only [hv, t1, Option.bind_some, FormP]
  by_cases k12 : k = 1 ∨ k = 2
  · have e : (bif (k == 1) then some (k == 1) else some (k == 2) : Option Bool) = some true := by rcases k12 with rfl | rfl <;> rfl
    have hk : ¬ (k = 3 ∨ k = 4) ∧ ¬ k = 5 := by omega
    rw [e]
    simp only [Option.bind_some, cond_true, k12, hk.1, hk.2, true_and, false_and, or_false]
    rw [← hlen]
    generalize decide (0 < (nodes.length : Int)) = b1
    generalize validB (rowN nodes) = b2
    cases b1 <;> cases b2 <;> simp only [cond_true, cond_false, Option.bind_some] <;> try exact ⟨false, rfl, by simp⟩
    cases e1 : m == 0 <;> simp only [cond_true, cond_false, Option.bind_some]
    · exact ⟨false, rfl, by simp [beq_eq_false_iff_ne.1 e1]⟩
    cases e2 : slot == 0 <;> simp only [cond_true, cond_false, Option.bind_some]
    · exact ⟨false, rfl, by simp [beq_eq_false_iff_ne.1 e2]⟩
    cases e3 : old == [] <;> simp only [cond_true, cond_false, Option.bind_some]
    · exact ⟨false, rfl, by simp [beq_eq_false_iff_ne.1 e3]⟩
    refine ⟨_, rfl, ?_⟩
    rw [eq_of_beq e1, eq_of_beq e2, eq_of_beq e3]
    simp
  · have e : (bif (k == 1) then some (k == 1) else some (k == 2) : Option Bool) = some false := by
      rw [ne_beq (fun h => k12 (.inl h)), ne_beq (fun h => k12 (.inr h))]; rfl
    rw [e]
    simp only [Option.bind_some, cond_false, k12, false_and, false_or]
    by_cases k34 : k = 3 ∨ k = 4
    · have e : (bif (k == 3) then some (k == 3) else some (k == 4) : Option Bool) = some true := by rcases k34 with rfl | rfl <;> rfl
      have hk : ¬ k = 5 := by omega
      rw [e]
      simp only [Option.bind_some, cond_true, k34, hk, true_and, false_and, or_false]
      rw [← t2]
      by_cases hm : 0 ≤ m
      · rw [dec_t hm]
        cases tb <;> simp only [cond_true, cond_false, Option.bind_some]
        · exact ⟨false, rfl, by simp⟩
        cases e3 : old == [] <;> simp only [cond_true, cond_false, Option.bind_some]
        · exact ⟨false, rfl, by simp [beq_eq_false_iff_ne.1 e3]⟩
        refine ⟨_, rfl, ?_⟩
        rw [eq_of_beq e3]
        simp [hm]
      · rw [dec_f hm]
        exact ⟨false, rfl, by simp [hm]⟩
    · have e : (bif (k == 3) then some (k == 3) else some (k == 4) : Option Bool) = some false := by
        rw [ne_beq (fun h => k34 (.inl h)), ne_beq (fun h => k34 (.inr h))]; rfl
      rw [e]
      simp only [Option.bind_some, cond_false, k34, false_and, false_or]
      by_cases k5 : k = 5
      · subst k5
        simp only [beq_self_eq_true, cond_true, Option.bind_some, true_and]
        rw [← hlen0]
        generalize ((nodes.length : Int) == 0) = b1
        cases e0 : old == text <;> simp only [Bool.not_true, Bool.not_false, cond_true, cond_false, Option.bind_some]
        · have := beq_eq_false_iff_ne.1 e0
          cases b1 <;> simp only [cond_true, cond_false, Option.bind_some]
          · exact ⟨false, rfl, by simp⟩
          cases e1 : m == 0 <;> simp only [cond_true, cond_false, Option.bind_some]
          · exact ⟨false, rfl, by simp [beq_eq_false_iff_ne.1 e1]⟩
          refine ⟨_, rfl, ?_⟩
          rw [eq_of_beq e1]
          simp [this]
        · exact ⟨false, rfl, by simp [eq_of_beq e0]⟩
      · rw [ne_beq k5]
        exact ⟨false, rfl, by simp [k5]⟩
theorem leaf_opt (k : Int) : (bif (k == 2) then some (k == 2) else bif (k == 3) then some (k == 3) else bif (k == 4) then some (k == 4) else bif (k == 10) then some (k == 10) else some (k == 11) : Option Bool) = some (leafB k) := by
  unfold leafB
  cases e1 : k == 2 <;> cases e2 : k == 3 <;> cases e3 : k == 4 <;> cases e4 : k == 10 <;> rfl
theorem need_opt (k m : Int) (nodes : List Nd) : (bif (k == 1) then some 0 else bif (k == 2) then some (nodes.length : Int) else bif (k == 3) then some m else some 1 : Option Int) = some (needI k m nodes) := by
  unfold needI
  by_cases k1 : k = 1
  · subst k1; rfl
  by_cases k2 : k = 2
  · subst k2; rfl
  by_cases k3 : k = 3
  · subst k3; rfl
  rw [ne_beq k1, ne_beq k2, ne_beq k3, if_neg k1, if_neg k2, if_neg k3]; rfl
theorem need_nn {k : Int} {row : List Int} {a m : Int} {nodes : List Nd} {slot : Int} {old text : List UInt8} (hf : FormP (k, row, a, m, nodes, slot, old, text)) : 0 ≤ needI k m nodes := by
  unfold needI
  rcases hf with ⟨rfl | rfl, _⟩ | ⟨rfl | rfl, hm, _⟩ | ⟨rfl, _⟩ <;> simp <;> omega
theorem r12_change_eq (n : Nat) (l : List Nd) (k : Int) (row : List Int) (a m : Int) (nodes : List Nd) (slot : Int) (old text : List UInt8) (hf : FormP (k, row, a, m, nodes, slot, old, text)) (hn : 2 * Nd.ws l + 2 * Nd.ws nodes + 50 < n) (ha : Nd.ws l ≤ 60000000) (hb : Nd.ws nodes ≤ 2000000) :
    ∃ l' e, m_r12_change n l (k, row, a, m, nodes, slot, old, text) = some (l', e) ∧ Chg l (k, row, a, m, nodes, slot, old, text) l' e := by
  have la := Nd.ws_len l
  have lb := Nd.ws_len nodes
  have cl := Nd.cnts_ws l
  have cb := Nd.cnts_ws nodes
  have hnn := need_nn hf
  unfold m_r12_change
  dsimp only
  rw [need_opt]
  simp only [Option.bind_some]
  by_cases h1 : a < 0
  · rw [dec_t h1]; exact ⟨[], 2, rfl, .range (.inl h1)⟩
  rw [dec_f h1]
  by_cases h2 : (l.length : Int) < a
  · rw [dec_t h2]; exact ⟨[], 2, rfl, .range (.inr (.inl h2))⟩
  rw [dec_f h2, wrap64_in (n := (l.length : Int) - a) (by omega) (by omega)]
  by_cases h3 : (l.length : Int) - a < needI k m nodes
  · rw [dec_t h3]; exact ⟨[], 2, rfl, .range (.inr (.inr h3))⟩
  rw [dec_f h3]
  simp only [cond_false, Option.bind_some]
  obtain ⟨p, rfl⟩ := Int.eq_ofNat_of_zero_le (show 0 ≤ a by omega)
  obtain ⟨y, hy⟩ := Int.eq_ofNat_of_zero_le hnn
  rw [hy] at h3 ⊢
  rw [wrap64_in (n := (p : Int) + (y : Int)) (by omega) (by omega), ← Int.natCast_add]
  have hseg := seg_ws l (Nat.le_add_right p y)
  have lseg := Nd.ws_len ((l.take (p + y)).drop p)
  have cseg := Nd.cnts_ws ((l.take (p + y)).drop p)
  have hsp : ∀ by' : List Nd, by'.length ≤ 1073741824 → m_r12_splice l (p : Int) ((p + y : Nat) : Int) by' = some (splS l p (p + y) by') := fun by' hby => splice_eq l by' p (p + y) (by omega) (by omega) (by omega) hby
  rcases hf with ⟨rfl | rfl, h0⟩ | ⟨rfl | rfl, hm, ⟨v, s, z, rfl, rfl, hvv, hz, hzk⟩, _⟩ | ⟨rfl, h0⟩
  · obtain rfl : y = 0 := by have : needI 1 m nodes = 0 := rfl; omega
    simp only [beq_self_eq_true, cond_true, Nat.add_zero] at hsp ⊢
    rw [hsp nodes (by omega)]
    exact ⟨_, 0, rfl, .ins (by omega)⟩
  · obtain rfl : y = nodes.length := by have : needI 2 m nodes = (nodes.length : Int) := rfl; omega
    simp only [show ((2 : Int) == 1) = false from rfl, cond_false, beq_self_eq_true, cond_true, Int.toNat_natCast]
    rw [req_t ⟨by omega, by omega, by omega⟩]
    obtain ⟨r, g1, g2⟩ := (Equal_eq n).2 ((l.take (p + nodes.length)).drop p) nodes (by omega) (by omega)
    rw [g1]
    simp only [Option.bind_some]
    cases r with
    | false => exact ⟨[], 7, rfl, .del_no (by omega) fun e => by have := g2.2 e; cases this⟩
    | true =>
      simp only [Bool.not_true, cond_false, hsp [] (by simp), Option.bind_some]
      exact ⟨_, 0, rfl, .del (by omega) (g2.1 rfl)⟩
  · obtain rfl : m = (y : Int) := hy
    have hs := (List.getElem?_eq_some_iff.1 hz).1
    have hfe := filled_eq v s ((l.take (p + y)).drop p) hs (by have := Nd.ws_len v.kids; have := w_kids v; simp only [Nd.ws] at lb hb; omega) (by omega)
    have hv0 : at? [v] (0 : Int) = some v := rfl
    obtain ⟨v1, v2, v3, v4⟩ := v
    simp only [show ((3 : Int) == 1) = false from rfl, show ((3 : Int) == 2) = false from rfl, cond_false, beq_self_eq_true, cond_true, Int.toNat_natCast, hv0, Option.bind_some]
    rw [req_t ⟨by omega, by omega, by omega⟩, hfe]
    simp only [Option.bind_some]
    rw [hsp _ (by simp)]
    exact ⟨_, 0, rfl, .wrap (by omega)⟩
  · obtain rfl : y = 1 := by have : needI 4 m [v] = 1 := rfl; omega
    have hs := (List.getElem?_eq_some_iff.1 hz).1
    have hv0 : at? [v] (0 : Int) = some v := rfl
    have hpl : p < l.length := by omega
    have hit : l[p]? = some l[p] := List.getElem?_eq_getElem hpl
    have hia : at? l (p : Int) = some l[p] := at_get hpl
    generalize l[p] = it at hit hia
    have hiw := Nd.w_mem (List.mem_of_getElem? hit)
    have hic := Nd.cnt_w it
    have hlk := Nd.ws_len v.kids
    have hwv := w_kids v
    simp only [Nd.ws] at hb hn
    have hfe : ∀ l' : List Nd, l'.length ≤ 1073741824 → m_r12_filled v (s : Int) l' = some (fillN v s l') := fun l' hl' => filled_eq v s l' hs (by omega) hl'
    have heq : ∀ x : Nd, ∃ r, m_r09_Equal n it x = some r ∧ (r = true ↔ it = x) := fun x => (Equal_eq n).1 it x (by omega) (by omega)
    obtain ⟨i1, i2, i3, i4⟩ := it
    have hwi : (Nd.mk i1 i2 i3 i4).w = i2.length + Nd.ws i4 + 1 := rfl
    have hlk4 := Nd.ws_len i4
    obtain ⟨v1, v2, v3, v4⟩ := v
    simp only [show ((4 : Int) == 1) = false from rfl, show ((4 : Int) == 2) = false from rfl, show ((4 : Int) == 3) = false from rfl, cond_false, beq_self_eq_true, cond_true, hia, Option.bind_some, hv0]
    by_cases hsl : (i4.length : Int) ≤ (s : Int)
    · rw [dec_t hsl]
      refine ⟨[], 7, rfl, .unwrap_no hit fun z' hz' => ?_⟩
      have := (List.getElem?_eq_some_iff.1 hz').1
      simp only [Nd.kids] at this
      omega
    rw [dec_f hsl]
    have hsi : s < i4.length := by omega
    have hzi : i4[s]? = some i4[s] := List.getElem?_eq_getElem hsi
    have hza : at? i4 (s : Int) = some i4[s] := at_get hsi
    generalize i4[s] = z' at hzi hza
    have hzw := Nd.w_mem (List.mem_of_getElem? hzi)
    have hzw2 := w_kids z'
    have hzl := Nd.ws_len z'.kids
    have hfe' := hfe z'.kids (by omega)
    obtain ⟨rb, g1, g2⟩ := heq (fillN (.mk v1 v2 v3 v4) s z'.kids)
    have hsp' := hsp z'.kids (by omega)
    obtain ⟨z1, z2, z3, z4⟩ := z'
    simp only [Nd.kids] at hfe' hsp' g1 g2
    simp only [cond_false, hza, Option.bind_some]
    by_cases hmz : (z4.length : Int) = m
    · have : ((z4.length : Int) != m) = false := by unfold bne; rw [beq_iff_eq.2 hmz]; rfl
      rw [this]
      simp only [cond_false, hfe', Option.bind_some]
      have hfx : fillN (.mk v1 v2 v3 v4) s z4 = .mk v1 v2 v3 (v4.set s (rowN z4)) := rfl
      rw [hfx] at g1 g2 ⊢
      simp only [Option.bind_some, g1]
      cases rb with
      | false =>
        refine ⟨[], 7, rfl, .unwrap_no hit fun z'' hz'' hm'' he => ?_⟩
        simp only [Nd.kids] at hz''
        rw [hzi] at hz''
        cases hz''
        have := g2.2 he
        cases this
      | true =>
        simp only [Bool.not_true, cond_false, hsp', Option.bind_some]
        exact ⟨_, 0, rfl, .unwrap (z := .mk z1 z2 z3 z4) hit hzi hmz (g2.1 rfl)⟩
    · have : ((z4.length : Int) != m) = true := bne_iff_ne.2 hmz
      rw [this]
      refine ⟨[], 7, rfl, .unwrap_no hit fun z'' hz'' hm'' he => ?_⟩
      simp only [Nd.kids] at hz''
      rw [hzi] at hz''
      cases hz''
      exact hmz hm''
  · obtain rfl : y = 1 := by have : needI 5 m nodes = 1 := rfl; omega
    have hpl : p < l.length := by omega
    have hit : l[p]? = some l[p] := List.getElem?_eq_getElem hpl
    have hia : at? l (p : Int) = some l[p] := at_get hpl
    generalize l[p] = it at hit hia
    obtain ⟨i1, i2, i3, i4⟩ := it
    simp only [show ((5 : Int) == 1) = false from rfl, show ((5 : Int) == 2) = false from rfl, show ((5 : Int) == 3) = false from rfl, show ((5 : Int) == 4) = false from rfl, cond_false, hia, Option.bind_some, leaf_opt]
    cases hlf : leafB i1 with
    | false => exact ⟨[], 7, rfl, .set_no hit fun h => by have := h.1; simp only [Nd.kind] at this; rw [hlf] at this; cases this⟩
    | true =>
      simp only [cond_true]
      cases ht : i2 == old with
      | false => exact ⟨[], 7, rfl, .set_no hit fun h => beq_eq_false_iff_ne.1 ht h.2⟩
      | true =>
        simp only [cond_true, hsp [Nd.mk i1 text i3 i4] (by simp), Option.bind_some]
        exact ⟨_, 0, rfl, .set (it := .mk i1 i2 i3 i4) hit hlf (eq_of_beq ht)⟩
theorem r12_put_eq {t z : Nd} {p : List Int} (h : Fd t p z) (l : List Nd) : ∀ n, p.length < n → t.cnt ≤ 4294967296 → m_r12_put n t p l = some (putL t p (rowN l)) := by
  induction h with
  | nil t =>
    intro n hn _
    obtain ⟨n, rfl⟩ : ∃ m, n = m + 1 := ⟨n - 1, by omega⟩
    rw [putL_nil']
    obtain ⟨t1, t2, t3, t4⟩ := t
    unfold m_r12_put
    rfl
  | @step k tx c ks i k2 tx2 c2 ks2 s z r' p hi hs _ ih =>
    intro n hn hc
    obtain ⟨n, rfl⟩ : ∃ m, n = m + 1 := ⟨n - 1, by omega⟩
    have n1 := Nd.cnts_mem (List.mem_of_getElem? hi)
    have n2 := Nd.cnts_mem (List.mem_of_getElem? hs)
    have l1 := Nd.cnts_len ks
    have l2 := Nd.cnts_len ks2
    simp only [Nd.cnt] at hc n1
    have ih := ih n (by simp only [List.length_cons] at hn; omega) (by omega)
    rw [putL_step' hi hs]
    have e1 : ((((i : Int) :: (s : Int) :: p).length : Int) == 0) = false := ne_beq (by simp only [List.length_cons]; omega)
    have e2 : at? ((i : Int) :: (s : Int) :: p) (0 : Int) = some (i : Int) := rfl
    have e3 : at? ((i : Int) :: (s : Int) :: p) (1 : Int) = some (s : Int) := rfl
    have e4 : (((((i : Int) :: (s : Int) :: p)).take ((((i : Int) :: (s : Int) :: p)).length : Int).toNat).drop (2 : Int).toNat) = p := by
      rw [Int.toNat_natCast, List.take_length]; rfl
    obtain ⟨z1, z2, z3, z4⟩ := z
    unfold m_r12_put
    simp only [e1, e2, e3, cond_false, Option.bind_some, at_some hi, at_some hs, e4]
    rw [req_t ⟨by omega, by simp only [List.length_cons]; omega, by omega⟩, ih]
    generalize putL (Nd.mk z1 z2 z3 z4) p (rowN l) = Z
    obtain ⟨q1, q2, q3, q4⟩ := Z
    simp only [Option.bind_some]
    rw [r09_Replaced_eq hs (by omega)]
    simp only [Option.bind_some]
    rw [r09_Replaced_eq hi (by omega)]
    rfl
theorem r12_Apply_eq (n : Nat) (t : Nd) (o : Op8) (hn : 200000000 < n) (ht : t.w ≤ 50000000) (hb : Nd.ws o.nodes ≤ 2000000) (hx : o.2.2.2.2.2.2.2.length ≤ 2000000) (hr : o.2.1.length ≤ 2000000) : ∃ t' e, m_r12_Apply n t o = some (t', e) ∧ App t o t' e := by
  obtain ⟨k, row, a, m, nodes, slot, old, text⟩ := o
  simp only [Op8.nodes] at hb
  dsimp only at hx hr
  have v1 := r09_Valid_eq n t (by omega) (by omega)
  obtain ⟨b, f1, f2⟩ := r12_Formed_eq n k row a m nodes slot old text (by omega) (by omega)
  have e1 := r09_Row_eq n t row (by omega) v1
  have hput : ∀ r l, Fd t row r → m_r12_put n t row l = some (putL t row (rowN l)) := fun r l h => r12_put_eq h l n (by omega) (by have := Nd.cnt_w t; omega)
  have hval : ∀ r l, Fd t row r → Nd.ws l ≤ 5000000 + r.w → m_r09_Valid n (putL t row (rowN l)) = some (validB (putL t row (rowN l))) := fun r l h hl => by
    have := h.w (rowN l)
    have e : (rowN l).w = Nd.ws l + 1 := by simp [rowN, Nd.w]
    exact r09_Valid_eq n _ (by omega) (by omega)
  obtain ⟨t1, t2, t3, t4⟩ := t
  unfold m_r12_Apply
  simp only [v1, f1, e1, Option.bind_some]
  cases hv : validB (.mk t1 t2 t3 t4) with
  | false => exact ⟨_, 1, rfl, .arg hv⟩
  | true =>
    simp only [Bool.not_true, cond_false]
    cases b with
    | false => exact ⟨_, 4, rfl, .form hv fun h => by have := f2.2 h; cases this⟩
    | true =>
      have hf := f2.1 rfl
      simp only [Bool.not_true, cond_false, rowS, if_pos hv]
      cases hfd : findL (.mk t1 t2 t3 t4) row with
      | none => exact ⟨_, 8, rfl, .none hv hf hfd⟩
      | some r =>
        have hr' := fd_of hfd
        have hsm := hr'.small
        have hwr := w_kids r
        obtain ⟨l', e, c1, c2⟩ := r12_change_eq n r.kids k row a m nodes slot old text hf (by omega) (by omega) (by omega)
        obtain ⟨r1, r2, r3, r4⟩ := r
        simp only [Nd.kids] at c1 c2 hwr
        simp only [Option.bind_some, show ((0 : Int) != 0) = false from rfl, cond_false, c1]
        by_cases he : e = 0
        · subst he
          have hcw := c2.w
          have hv2 := hval _ l' hr' (by omega)
          simp only [show ((0 : Int) != 0) = false from rfl, cond_false, hput _ l' hr', Option.bind_some]
          cases hvo : validB (putL (.mk t1 t2 t3 t4) row (rowN l')) with
          | false =>
            have hL := App.limit (t := .mk t1 t2 t3 t4) (o := (k, row, a, m, nodes, slot, old, text)) hv hf hr' c2 hvo
            generalize putL (Nd.mk t1 t2 t3 t4) row (rowN l') = Z at *
            obtain ⟨q1, q2, q3, q4⟩ := Z
            simp only [Option.bind_some, hv2, hvo, Bool.not_false, cond_true]
            exact ⟨_, 6, rfl, hL⟩
          | true =>
            have hO := App.ok (t := .mk t1 t2 t3 t4) (o := (k, row, a, m, nodes, slot, old, text)) hv hf hr' c2 hvo
            dsimp only at hO
            generalize putL (Nd.mk t1 t2 t3 t4) row (rowN l') = Z at *
            obtain ⟨q1, q2, q3, q4⟩ := Z
            simp only [Option.bind_some, hv2, hvo, Bool.not_true, cond_false]
            exact ⟨_, 0, rfl, hO⟩
        · have : (e != 0) = true := bne_iff_ne.2 he
          simp only [this, cond_true]
          exact ⟨_, e, rfl, .chg (t := .mk t1 t2 t3 t4) (o := (k, row, a, m, nodes, slot, old, text)) hv hf hr' c2 he⟩
end Go.Proofs.Ytfbggpmdmhgpfaa
namespace Go.Proofs.Ytfbggpmdmhgpfaa
open Go.Abs
theorem Chg.det {l l1 l2 : List Nd} {o : Op8} {e1 e2 : Int} (hf : FormP o) (h1 : Chg l o l1 e1) (h2 : Chg l o l2 e2) : l1 = l2 ∧ e1 = e2 := by
  obtain ⟨k, row, a, m, nodes, slot, old, text⟩ := o
  have hnn := need_nn hf
  cases h1 with
  | range h =>
    cases h2 with
    | range => exact ⟨rfl, rfl⟩
    | ins h' => simp only [needI, if_true] at h; omega
    | del h' => simp only [needI] at h; simp at h; omega
    | del_no h' => simp only [needI] at h; simp at h; omega
    | wrap h' => simp only [needI] at h; simp at h; omega
    | unwrap h' => have := (List.getElem?_eq_some_iff.1 h').1; simp only [needI] at h; simp at h; omega
    | unwrap_no h' => exact ⟨rfl, by have := (List.getElem?_eq_some_iff.1 h').1; simp only [needI] at h; simp at h; omega⟩
    | set h' => have := (List.getElem?_eq_some_iff.1 h').1; simp only [needI] at h; simp at h; omega
    | set_no h' => exact ⟨rfl, by have := (List.getElem?_eq_some_iff.1 h').1; simp only [needI] at h; simp at h; omega⟩
  | ins h' =>
    generalize ha : ((_ : Nat) : Int) = a' at h2
    cases h2 with
    | range h => simp only [needI, if_true] at h; omega
    | ins h => obtain rfl := Int.ofNat.inj ha; exact ⟨rfl, rfl⟩
  | del h' he =>
    generalize ha : ((_ : Nat) : Int) = a' at h2
    cases h2 with
    | range h => simp only [needI] at h; simp at h; omega
    | del h => obtain rfl := Int.ofNat.inj ha; exact ⟨rfl, rfl⟩
    | del_no h he' => obtain rfl := Int.ofNat.inj ha; exact absurd he he'
  | del_no h' he =>
    generalize ha : ((_ : Nat) : Int) = a' at h2
    cases h2 with
    | range h => simp only [needI] at h; simp at h; omega
    | del h he' => obtain rfl := Int.ofNat.inj ha; exact absurd he' he
    | del_no h he' => exact ⟨rfl, rfl⟩
  | wrap h' =>
    generalize ha : ((_ : Nat) : Int) = a' at h2
    generalize hm : ((_ : Nat) : Int) = m' at h2
    generalize hs : ((_ : Nat) : Int) = s' at h2
    cases h2 with
    | range h => simp only [needI] at h; simp at h; omega
    | wrap h => obtain rfl := Int.ofNat.inj ha; obtain rfl := Int.ofNat.inj hm; obtain rfl := Int.ofNat.inj hs; exact ⟨rfl, rfl⟩
  | unwrap h' hz hm he =>
    generalize ha : ((_ : Nat) : Int) = a' at h2
    generalize hs : ((_ : Nat) : Int) = s' at h2
    cases h2 with
    | range h => have := (List.getElem?_eq_some_iff.1 h').1; simp only [needI] at h; simp at h; omega
    | unwrap h hz2 =>
      obtain rfl := Int.ofNat.inj ha; obtain rfl := Int.ofNat.inj hs
      rw [h'] at h; cases h
      rw [hz] at hz2; cases hz2
      exact ⟨rfl, rfl⟩
    | unwrap_no h hz2 =>
      obtain rfl := Int.ofNat.inj ha; obtain rfl := Int.ofNat.inj hs
      rw [h'] at h; cases h
      exact absurd he (hz2 _ hz hm)
  | unwrap_no h' hz =>
    generalize ha : ((_ : Nat) : Int) = a' at h2
    generalize hs : ((_ : Nat) : Int) = s' at h2
    cases h2 with
    | range h => exact ⟨rfl, by have := (List.getElem?_eq_some_iff.1 h').1; simp only [needI] at h; simp at h; omega⟩
    | unwrap h hz2 hm he =>
      obtain rfl := Int.ofNat.inj ha; obtain rfl := Int.ofNat.inj hs
      rw [h'] at h; cases h
      exact absurd he (hz _ hz2 hm)
    | unwrap_no h hz2 => exact ⟨rfl, rfl⟩
  | set h' hl he =>
    generalize ha : ((_ : Nat) : Int) = a' at h2
    cases h2 with
    | range h => have := (List.getElem?_eq_some_iff.1 h').1; simp only [needI] at h; simp at h; omega
    | set h => obtain rfl := Int.ofNat.inj ha; rw [h'] at h; cases h; exact ⟨rfl, rfl⟩
    | set_no h hl2 => obtain rfl := Int.ofNat.inj ha; rw [h'] at h; cases h; exact absurd ⟨hl, he⟩ hl2
  | set_no h' hl =>
    generalize ha : ((_ : Nat) : Int) = a' at h2
    cases h2 with
    | range h => exact ⟨rfl, by have := (List.getElem?_eq_some_iff.1 h').1; simp only [needI] at h; simp at h; omega⟩
    | set h hl2 he => obtain rfl := Int.ofNat.inj ha; rw [h'] at h; cases h; exact absurd ⟨hl2, he⟩ hl
    | set_no h hl2 => exact ⟨rfl, rfl⟩
theorem Fd.det {t r1 r2 : Nd} {p : List Int} (h1 : Fd t p r1) (h2 : Fd t p r2) : r1 = r2 := Option.some.inj (h1.find.symm.trans h2.find)
theorem App.det {t t1 t2 : Nd} {o : Op8} {e1 e2 : Int} (h1 : App t o t1 e1) (h2 : App t o t2 e2) : t1 = t2 ∧ e1 = e2 := by
  have tf : ∀ {b : Bool}, b = true → b = false → False := fun h h' => by rw [h] at h'; cases h'
  have fn : ∀ {r : Nd} {p : List Int}, Fd t p r → findL t p = Option.none → False := fun h h' => by rw [h.find] at h'; cases h'
  cases h1 with
  | arg h => cases h2 with
    | arg h' => exact ⟨rfl, rfl⟩
    | form h' => exact (tf h' h).elim
    | none h' => exact (tf h' h).elim
    | chg h' => exact (tf h' h).elim
    | limit h' => exact (tf h' h).elim
    | ok h' => exact (tf h' h).elim
  | form h hf => cases h2 with
    | arg h' => exact (tf h h').elim
    | form h' => exact ⟨rfl, rfl⟩
    | none h' hf' => exact absurd hf' hf
    | chg h' hf' => exact absurd hf' hf
    | limit h' hf' => exact absurd hf' hf
    | ok h' hf' => exact absurd hf' hf
  | none h hf hn => cases h2 with
    | arg h' => exact (tf h h').elim
    | form h' hf' => exact absurd hf hf'
    | none => exact ⟨rfl, rfl⟩
    | chg h' hf' hr => exact (fn hr hn).elim
    | limit h' hf' hr => exact (fn hr hn).elim
    | ok h' hf' hr => exact (fn hr hn).elim
  | chg h hf hr hc he => cases h2 with
    | arg h' => exact (tf h h').elim
    | form h' hf' => exact absurd hf hf'
    | none h' hf' hn => exact (fn hr hn).elim
    | chg h' hf' hr' hc' he' => obtain rfl := hr.det hr'; exact ⟨rfl, (hc.det hf hc').2⟩
    | limit h' hf' hr' hc' => obtain rfl := hr.det hr'; exact absurd (hc.det hf hc').2 he
    | ok h' hf' hr' hc' => obtain rfl := hr.det hr'; exact absurd (hc.det hf hc').2 he
  | limit h hf hr hc hv => cases h2 with
    | arg h' => exact (tf h h').elim
    | form h' hf' => exact absurd hf hf'
    | none h' hf' hn => exact (fn hr hn).elim
    | chg h' hf' hr' hc' he' => obtain rfl := hr.det hr'; exact absurd (hc'.det hf hc).2 he'
    | limit h' hf' hr' hc' => exact ⟨rfl, rfl⟩
    | ok h' hf' hr' hc' hv' => obtain rfl := hr.det hr'; obtain rfl := (hc.det hf hc').1; exact (tf hv' hv).elim
  | ok h hf hr hc hv => cases h2 with
    | arg h' => exact (tf h h').elim
    | form h' hf' => exact absurd hf hf'
    | none h' hf' hn => exact (fn hr hn).elim
    | chg h' hf' hr' hc' he' => obtain rfl := hr.det hr'; exact absurd (hc'.det hf hc).2 he'
    | limit h' hf' hr' hc' hv' => obtain rfl := hr.det hr'; obtain rfl := (hc.det hf hc').1; exact (tf hv hv').elim
    | ok h' hf' hr' hc' hv' => obtain rfl := hr.det hr'; obtain rfl := (hc.det hf hc').1; exact ⟨rfl, rfl⟩
def lens : List (List Nd) → Nat
  | [] => 0
  | a :: L => a.length + lens L
theorem lens_drop {L : List (List Nd)} {i : Nat} (h : i < L.length) : lens (L.drop i) = (L[i]).length + lens (L.drop (i + 1)) := by
  rw [List.drop_eq_getElem_cons h]; rfl
theorem concat1 {L : List (List Nd)} (hl : L.length ≤ 1073741824) : ∀ (k i s : Nat), L.length - i < k → i ≤ L.length → s + lens (L.drop i) ≤ 1073741824 → m_slices_Concat_sNode_l1 L k (i : Int) (s : Int) = some ((s + lens (L.drop i) : Nat) : Int)
  | 0, i, s, h, _, _ => by omega
  | k + 1, i, s, hk, hi, hs => by
    unfold m_slices_Concat_sNode_l1
    by_cases h : i < L.length
    · have hd := lens_drop h
      rw [dec_t (Int.ofNat_lt.2 h), cond_true, at_get h]
      simp only [Option.bind_some]
      rw [wrap64_in (n := (s : Int) + ((L[i]).length : Int)) (by omega) (by omega), dec_f (by omega), cond_false, wi_succ (by omega), ← Int.natCast_add, concat1 hl k (i + 1) _ (by omega) (by omega) (by omega), hd]
      congr 2; omega
    · rw [dec_f (by omega), cond_false]
      have : L.drop i = [] := List.drop_eq_nil_iff.2 (by omega)
      rw [this]; rfl
theorem concat2 {L : List (List Nd)} (hl : L.length ≤ 1073741824) : ∀ (k i : Nat) (s : List Nd), L.length - i < k → i ≤ L.length → s.length + lens (L.drop i) ≤ 1073741824 → m_slices_Concat_sNode_l2 L k (i : Int) s = some (s ++ (L.drop i).flatten)
  | 0, i, s, h, _, _ => by omega
  | k + 1, i, s, hk, hi, hs => by
    unfold m_slices_Concat_sNode_l2
    by_cases h : i < L.length
    · have hd := lens_drop h
      rw [dec_t (Int.ofNat_lt.2 h), cond_true, at_get h]
      simp only [Option.bind_some]
      rw [req_t (by omega), wi_succ (by omega), concat2 hl k (i + 1) _ (by omega) (by omega) (by rw [List.length_append]; omega), List.drop_eq_getElem_cons h, List.flatten_cons, List.append_assoc]
    · rw [dec_f (by omega), cond_false]
      have : L.drop i = [] := List.drop_eq_nil_iff.2 (by omega)
      rw [this]; simp
theorem concat_eq (n : Nat) (L : List (List Nd)) (hn : L.length < n) (hl : L.length ≤ 1073741824) (hs : lens L ≤ 1073741824) : m_slices_Concat_sNode n L = some L.flatten := by
  have e1 := concat1 hl n 0 0 (by omega) (by omega) (by simpa using hs)
  have e2 := concat2 hl n 0 [] (by omega) (by omega) (by simpa using hs)
  rw [show ((0 : Nat) : Int) = 0 from rfl] at e1 e2
  unfold m_slices_Concat_sNode m_slices_Grow_sNode
  simp only [e1, Option.bind_some, List.drop_zero, Nat.zero_add]
  simp only [List.drop_zero, List.nil_append] at e2
  rw [req_t ⟨by omega, by omega⟩]
  simp only [Option.bind_some, e2]
theorem join_eq (n : Nat) (k : Int) (row : List Int) (p y : Nat) (m : Int) (nodes : List Nd) (slot : Int) (old text : List UInt8) (l b : List Nd) (hn : 10 < n) (hp : p + y ≤ l.length) (hl : l.length ≤ 500000000) (hb : b.length ≤ 500000000) :
    m_edit_change_join n ((k, row, (p : Int), m, nodes, slot, old, text), l) (y : Int) b = some (splS l p (p + y) b) := by
  unfold m_edit_change_join
  dsimp only
  rw [req_t ⟨by omega, by omega, by omega⟩, wrap64_in (n := (p : Int) + (y : Int)) (by omega) (by omega), ← Int.natCast_add, req_t ⟨by omega, by omega, by omega⟩]
  have e1 : (l.take (p : Int).toNat).drop (0 : Int).toNat = l.take p := by simp
  have e2 : (l.take (l.length : Int).toNat).drop ((p + y : Nat) : Int).toNat = l.drop (p + y) := by rw [Int.toNat_natCast, Int.toNat_natCast, List.take_length]
  rw [e1, e2, concat_eq n _ (by simp; omega) (by simp) (by simp only [lens, List.length_take, List.length_drop]; omega)]
  simp only [Option.bind_some, splS, List.flatten_cons, List.flatten_nil, List.append_nil, List.append_assoc]
theorem slot_row {l : List Nd} {it z : Nd} {s : Nat} (hl : formsB 1 l = true) (hit : it ∈ l) (hz : it.kids[s]? = some z) : it.kind ≠ 1 ∧ z = rowN z.kids := by
  obtain ⟨f1, f2⟩ := forms_mem hl hit
  have hk : (it.kind == 1) = false := by simpa using f2
  obtain ⟨i1, i2, i3, i4⟩ := it
  simp only [Nd.kind] at hk
  simp only [Nd.kids] at hz
  obtain ⟨g1, g2⟩ := forms_mem (form_kids f1) (List.mem_of_getElem? hz)
  rw [hk] at g2
  have hz1 : z.kind = 1 := by
    cases e : z.kind == 1 with
    | true => exact eq_of_beq e
    | false => rw [e] at g2; cases g2
  exact ⟨beq_eq_false_iff_ne.1 hk, (form_row g1 hz1).1⟩
theorem item_kind {l : List Nd} {it : Nd} (hl : formsB 1 l = true) (hit : it ∈ l) : it.kind ≠ 1 := by
  obtain ⟨_, f2⟩ := forms_mem hl hit
  exact beq_eq_false_iff_ne.1 (by simpa using f2)
theorem valid_forms {l : List Nd} (h : validB (rowN l) = true) : formsB 1 l = true := by
  have := (valid_row h).2
  exact this
theorem Slots_eq (v : Nd) (h : v.kind ≠ 1) : m_node_Slots v = some (v.kids.length : Int) := by
  obtain ⟨a, b, c, d⟩ := v
  unfold m_node_Slots
  simp only [Nd.kind] at h
  simp only [ne_beq h, cond_false, Nd.kids]
theorem node_validItems_eq (n : Nat) (nodes : List Nd) (h : Nd.ws nodes + 50 < n) (hb : Nd.ws nodes ≤ 67000000) : m_node_ValidItems n nodes = some (validB (rowN nodes)) := by
  unfold m_node_ValidItems
  dsimp only
  rw [node_Valid_eq n _ (by simp only [Nd.w, List.length_nil]; omega) (by simp only [Nd.w, List.length_nil]; omega)]; rfl
theorem container_eq (n : Nat) (l : List Nd) (slot : Int) (h : Nd.ws l + 50 < n) (hb : Nd.ws l ≤ 67000000) : ∃ b, m_edit_container n l slot = some b ∧ (b = true ↔ TemplP l slot) := by
  unfold m_edit_container
  dsimp only
  cases e1 : ((l.length : Int) != 1) with
  | true => exact ⟨false, rfl, (fun h => by cases h), fun ⟨v, s, z, h, _⟩ => by rw [h] at e1; cases e1⟩
  | false =>
    have hl : l.length = 1 := by
      by_cases h : (l.length : Int) = 1
      · omega
      · rw [bne_iff_ne.2 h] at e1; cases e1
    obtain ⟨v, rfl⟩ := List.length_eq_one_iff.1 hl
    have hv := node_validItems_eq n [v] h hb
    have h0 : at? [v] (0 : Int) = some v := rfl
    simp only [cond_false, hv, Option.bind_some]
    cases hvb : validB (rowN [v]) with
    | false => exact ⟨false, rfl, (fun h => by cases h), fun ⟨v', s, z, h, _, h2, _⟩ => by cases h; rw [hvb] at h2; cases h2⟩
    | true =>
      have hsl := Slots_eq v (item_kind (valid_forms hvb) List.mem_cons_self)
      obtain ⟨a, b, c, d⟩ := v
      simp only [Nd.kids] at hsl
      simp only [Bool.not_true, cond_false]
      by_cases h1 : slot < 0
      · rw [dec_t h1]
        exact ⟨false, rfl, (fun h => by cases h), fun ⟨v, s, z, h, hs, _⟩ => by omega⟩
      · rw [dec_f h1]
        simp only [cond_false, h0, Option.bind_some, hsl]
        by_cases h2 : (d.length : Int) ≤ slot
        · rw [dec_t h2]
          refine ⟨false, rfl, (fun h => by cases h), fun ⟨v, s, z, h, hs, _, hz, _⟩ => ?_⟩
          cases h
          have := (List.getElem?_eq_some_iff.1 hz).1
          simp only [Nd.kids] at this
          omega
        · rw [dec_f h2]
          obtain ⟨p, rfl, hp, hg⟩ := at_int (l := d) (i := slot) (by omega) (by omega)
          have hz : d[p]? = some d[p] := List.getElem?_eq_getElem hp
          rw [hg]
          generalize d[p] = z at hz
          obtain ⟨x1, x2, x3, x4⟩ := z
          simp only [cond_false, Option.bind_some]
          refine ⟨_, rfl, fun h => ⟨_, p, _, rfl, rfl, hvb, hz, ?_⟩, fun ⟨v, s, z, h, hs, _, hz', hk⟩ => ?_⟩
          · have := eq_of_beq h
            exact List.eq_nil_of_length_eq_zero (by simp only [Nd.kids]; omega)
          · cases h
            obtain rfl : p = s := by omega
            simp only [Nd.kids] at hz'
            rw [hz] at hz'
            cases hz'
            simp only [Nd.kids] at hk
            subst hk
            rfl
theorem edit_Formed_eq (n : Nat) (k : Int) (row : List Int) (a m : Int) (nodes : List Nd) (slot : Int) (old text : List UInt8) (h : Nd.ws nodes + 50 < n) (hb : Nd.ws nodes ≤ 67000000) :
    ∃ b, m_edit_Formed n (k, row, a, m, nodes, slot, old, text) = some b ∧ (b = true ↔ FormP (k, row, a, m, nodes, slot, old, text)) := by
  have hv := node_validItems_eq n nodes h hb
  obtain ⟨tb, t1, t2⟩ := container_eq n nodes slot h hb
  have hlen : decide (0 < (nodes.length : Int)) = true ↔ nodes ≠ [] := by cases nodes <;> simp
  have hlen0 : ((nodes.length : Int) == 0) = true ↔ nodes = [] := by cases nodes <;> simp <;> omega
  have htx : (bif (!(old == [])) then some true else some (!(text == [])) : Option Bool) = some (!((old == []) && (text == []))) := by cases old == [] <;> cases text == [] <;> rfl
  unfold m_edit_Formed
  simp only [hv, t1, htx, Option.bind_some, FormP]
  by_cases k12 : k = 1 ∨ k = 2
  · have e : (bif (k == 1) then some (k == 1) else some (k == 2) : Option Bool) = some true := by rcases k12 with rfl | rfl <;> rfl
    have hk : ¬ (k = 3 ∨ k = 4) ∧ ¬ k = 5 := by omega
    rw [e]
    simp only [Option.bind_some, cond_true, k12, hk.1, hk.2, true_and, false_and, or_false]
    rw [← hlen]
    generalize decide (0 < (nodes.length : Int)) = b1
    generalize validB (rowN nodes) = b2
    cases e1 : m == 0 <;> simp only [cond_true, cond_false, Option.bind_some]
    · exact ⟨false, rfl, by simp [beq_eq_false_iff_ne.1 e1]⟩
    cases e2 : slot == 0 <;> simp only [cond_true, cond_false, Option.bind_some]
    · exact ⟨false, rfl, by simp [beq_eq_false_iff_ne.1 e2]⟩
    cases e3 : old == [] <;> simp only [Bool.false_and, Bool.true_and, Bool.not_false, Bool.not_not, cond_true, cond_false, Option.bind_some]
    · exact ⟨false, rfl, by simp [beq_eq_false_iff_ne.1 e3]⟩
    cases e4 : text == [] <;> simp only [Bool.not_true, Bool.not_false, cond_true, cond_false, Option.bind_some]
    · exact ⟨false, rfl, by simp [beq_eq_false_iff_ne.1 e4]⟩
    rw [eq_of_beq e1, eq_of_beq e2, eq_of_beq e3, eq_of_beq e4]
    cases b1 <;> cases b2 <;> exact ⟨_, rfl, by simp⟩
  · have e : (bif (k == 1) then some (k == 1) else some (k == 2) : Option Bool) = some false := by
      rw [ne_beq (fun h => k12 (.inl h)), ne_beq (fun h => k12 (.inr h))]; rfl
    rw [e]
    simp only [Option.bind_some, cond_false, k12, false_and, false_or]
    by_cases k34 : k = 3 ∨ k = 4
    · have e : (bif (k == 3) then some (k == 3) else some (k == 4) : Option Bool) = some true := by rcases k34 with rfl | rfl <;> rfl
      have hk : ¬ k = 5 := by omega
      rw [e]
      simp only [Option.bind_some, cond_true, k34, hk, true_and, false_and, or_false]
      rw [← t2]
      by_cases hm : 0 ≤ m
      · rw [dec_t hm]
        simp only [cond_true]
        cases e3 : old == [] <;> simp only [Bool.false_and, Bool.true_and, Bool.not_false, Bool.not_not, cond_true, cond_false, Option.bind_some]
        · exact ⟨false, rfl, by simp [beq_eq_false_iff_ne.1 e3]⟩
        cases e4 : text == [] <;> simp only [Bool.not_true, Bool.not_false, cond_true, cond_false, Option.bind_some]
        · exact ⟨false, rfl, by simp [beq_eq_false_iff_ne.1 e4]⟩
        rw [eq_of_beq e3, eq_of_beq e4]
        exact ⟨_, rfl, by simp [hm]⟩
      · rw [dec_f hm]
        exact ⟨false, rfl, by simp [hm]⟩
    · have e : (bif (k == 3) then some (k == 3) else some (k == 4) : Option Bool) = some false := by
        rw [ne_beq (fun h => k34 (.inl h)), ne_beq (fun h => k34 (.inr h))]; rfl
      rw [e]
      simp only [Option.bind_some, cond_false, k34, false_and, false_or]
      by_cases k5 : k = 5
      · subst k5
        simp only [beq_self_eq_true, cond_true, Option.bind_some, true_and]
        rw [← hlen0]
        generalize ((nodes.length : Int) == 0) = b1
        cases e1 : m == 0 <;> simp only [cond_true, cond_false, Option.bind_some]
        · exact ⟨false, rfl, by simp [beq_eq_false_iff_ne.1 e1]⟩
        cases e2 : slot == 0 <;> simp only [cond_true, cond_false, Option.bind_some]
        · exact ⟨false, rfl, by simp [beq_eq_false_iff_ne.1 e2]⟩
        rw [eq_of_beq e1, eq_of_beq e2]
        cases b1 <;> simp only [cond_true, cond_false, Option.bind_some]
        · exact ⟨false, rfl, by simp⟩
        cases e0 : old == text <;> simp only [Bool.not_true, Bool.not_false]
        · exact ⟨true, rfl, by simp [beq_eq_false_iff_ne.1 e0]⟩
        · exact ⟨false, rfl, by simp [eq_of_beq e0]⟩
      · rw [ne_beq k5]
        exact ⟨false, rfl, by simp [k5]⟩
end Go.Proofs.Ytfbggpmdmhgpfaa
namespace Go.Proofs.Ytfbggpmdmhgpfaa
open Go.Abs
theorem enough_eq (k : Int) (row : List Int) (a m : Int) (nodes : List Nd) (slot : Int) (old text : List UInt8) (l : List Nd) (hl : l.length ≤ 1073741824) :
    m_edit_change_enough ((k, row, a, m, nodes, slot, old, text), l) = some (if a < 0 ∨ (l.length : Int) < a ∨ (l.length : Int) - a < needI k m nodes then 2 else 0) := by
  unfold m_edit_change_enough
  dsimp only
  rw [need_opt]
  simp only [Option.bind_some]
  by_cases h1 : a < 0
  · rw [dec_t h1, if_pos (.inl h1)]; rfl
  rw [dec_f h1]
  by_cases h2 : (l.length : Int) < a
  · rw [dec_t h2, if_pos (.inr (.inl h2))]; rfl
  rw [dec_f h2, wrap64_in (n := (l.length : Int) - a) (by omega) (by omega)]
  by_cases h3 : (l.length : Int) - a < needI k m nodes
  · rw [dec_t h3, if_pos (.inr (.inr h3))]; rfl
  rw [dec_f h3, if_neg (fun h => h.elim h1 fun h => h.elim h2 h3)]; rfl
theorem fill_iff {v it z : Nd} {s : Nat} {y : Nd} (hv : v.kids[s]? = some y) (hy : y = rowN []) (hz : it.kids[s]? = some z) (hzr : z = rowN z.kids) : Nd.mk it.kind it.text it.cols (it.kids.set s (rowN [])) = v ↔ it = fillN v s z.kids := by
  obtain ⟨v1, v2, v3, v4⟩ := v
  obtain ⟨i1, i2, i3, i4⟩ := it
  obtain ⟨z1, z2, z3, z4⟩ := z
  obtain ⟨rfl, rfl, rfl, -⟩ := Nd.mk.inj hzr
  clear hzr
  simp only [Nd.kids] at hv hz
  simp only [fillN, Nd.kind, Nd.text, Nd.cols, Nd.kids]
  subst hy
  constructor
  · intro h
    obtain ⟨rfl, rfl, rfl, rfl⟩ := Nd.mk.inj h
    rw [List.set_set]
    congr 1
    have := set_back (y := .mk 1 [] 0 z4) hz
    rw [List.set_set] at this
    exact this.symm
  · intro h
    obtain ⟨rfl, rfl, rfl, rfl⟩ := Nd.mk.inj h
    rw [List.set_set]
    congr 1
    have := set_back (y := rowN []) hv
    rw [List.set_set] at this
    exact this
theorem change_apply_eq (n : Nat) (l : List Nd) (k : Int) (row : List Int) (a m : Int) (nodes : List Nd) (slot : Int) (old text : List UInt8) (hf : FormP (k, row, a, m, nodes, slot, old, text)) (hv : formsB 1 l = true) (hn : 2 * Nd.ws l + 2 * Nd.ws nodes + 50 < n) (ha : Nd.ws l ≤ 60000000) (hb : Nd.ws nodes ≤ 2000000) :
    ∃ l' e, m_edit_change_apply n ((k, row, a, m, nodes, slot, old, text), l) = some (l', e) ∧ Chg l (k, row, a, m, nodes, slot, old, text) l' e := by
  have la := Nd.ws_len l
  have lb := Nd.ws_len nodes
  have cl := Nd.cnts_ws l
  have cb := Nd.cnts_ws nodes
  have hnn := need_nn hf
  unfold m_edit_change_apply
  simp only [enough_eq _ _ _ _ _ _ _ _ l (show l.length ≤ 1073741824 by omega), Option.bind_some]
  by_cases hr : a < 0 ∨ (l.length : Int) < a ∨ (l.length : Int) - a < needI k m nodes
  · rw [if_pos hr]; exact ⟨[], 2, rfl, .range hr⟩
  rw [if_neg hr]
  simp only [show ((0 : Int) != 0) = false from rfl, cond_false]
  have h1 : ¬ a < 0 := fun h => hr (.inl h)
  have h2 : ¬ (l.length : Int) < a := fun h => hr (.inr (.inl h))
  have h3 : ¬ (l.length : Int) - a < needI k m nodes := fun h => hr (.inr (.inr h))
  obtain ⟨p, rfl⟩ := Int.eq_ofNat_of_zero_le (show 0 ≤ a by omega)
  obtain ⟨y, hy⟩ := Int.eq_ofNat_of_zero_le hnn
  rw [hy] at h3
  have hseg := seg_ws l (Nat.le_add_right p y)
  have lseg := Nd.ws_len ((l.take (p + y)).drop p)
  have cseg := Nd.cnts_ws ((l.take (p + y)).drop p)
  have hj : ∀ by' : List Nd, by'.length ≤ 500000000 → m_edit_change_join n ((k, row, (p : Int), m, nodes, slot, old, text), l) (y : Int) by' = some (splS l p (p + y) by') := fun by' hby => join_eq n k row p y m nodes slot old text l by' (by omega) (by omega) (by omega) hby
  rcases hf with ⟨rfl | rfl, h0⟩ | ⟨rfl | rfl, hm, ⟨v, s, z, rfl, rfl, hvv, hz, hzk⟩, _⟩ | ⟨rfl, h0⟩
  · obtain rfl : y = 0 := by have : needI 1 m nodes = 0 := rfl; omega
    rw [show ((0 : Nat) : Int) = 0 from rfl] at hj
    simp only [beq_self_eq_true, cond_true, m_edit_change_insert, hj nodes (by omega), Option.bind_some]
    exact ⟨_, 0, rfl, .ins (by omega)⟩
  · obtain rfl : y = nodes.length := by have : needI 2 m nodes = (nodes.length : Int) := rfl; omega
    obtain ⟨r, g1, g2⟩ := (node_Equal_eq n).2 ((l.take (p + nodes.length)).drop p) nodes (by omega) (by omega)
    simp only [show ((2 : Int) == 1) = false from rfl, cond_false, beq_self_eq_true, cond_true, m_edit_change_remove]
    rw [wrap64_in (n := (p : Int) + (nodes.length : Int)) (by omega) (by omega), ← Int.natCast_add, req_t ⟨by omega, by omega, by omega⟩, Int.toNat_natCast, Int.toNat_natCast, g1]
    simp only [Option.bind_some]
    cases r with
    | false => exact ⟨[], 7, rfl, .del_no (by omega) fun e => by have := g2.2 e; cases this⟩
    | true =>
      simp only [Bool.not_true, cond_false, hj [] (by simp), Option.bind_some]
      exact ⟨_, 0, rfl, .del (by omega) (g2.1 rfl)⟩
  · obtain rfl : m = (y : Int) := hy
    obtain ⟨hvk, hzr⟩ := slot_row (valid_forms hvv) List.mem_cons_self hz
    rw [hzk] at hzr
    have hv0 : at? [v] (0 : Int) = some v := rfl
    have hcv := Nd.cnts_mem (List.mem_cons_self (a := v) (l := []))
    have hd : m_deep_Node_own v = some v := req_t ⟨by omega, fun e => by rw [e] at hz; simp at hz⟩
    have hza := at_some hz
    have hcl : m_slices_Clone_sNode ((l.take (p + y)).drop p) = some ((l.take (p + y)).drop p) := req_t (by omega)
    have hj' := hj [fillN v s ((l.take (p + y)).drop p)] (by simp)
    have hfx : fillN v s ((l.take (p + y)).drop p) = Nd.mk v.kind v.text v.cols (v.kids.set s (rowN ((l.take (p + y)).drop p))) := rfl
    rw [hfx] at hj'
    have hC := Chg.wrap (l := l) (row := row) (p := p) (m := y) (v := v) (s := s) (old := old) (text := text) (by omega)
    have hfx2 : fillN v s (segS l p (p + y)) = Nd.mk v.kind v.text v.cols (v.kids.set s (rowN ((l.take (p + y)).drop p))) := rfl
    rw [hfx2] at hC
    subst hzr
    obtain ⟨v1, v2, v3, v4⟩ := v
    simp only [Nd.kind, Nd.text, Nd.cols, Nd.kids] at hza hj' hC
    unfold rowN at hza
    simp only [show ((3 : Int) == 1) = false from rfl, show ((3 : Int) == 2) = false from rfl, cond_false, beq_self_eq_true, cond_true, m_edit_change_wrap, hv0, hd, Option.bind_some]
    rw [wrap64_in (n := (p : Int) + (y : Int)) (by omega) (by omega), ← Int.natCast_add, req_t ⟨by omega, by omega, by omega⟩, Int.toNat_natCast, Int.toNat_natCast, hcl]
    simp only [Option.bind_some, hza, Int.toNat_natCast]
    unfold rowN at hj' hC
    rw [hj']
    exact ⟨_, 0, rfl, hC⟩
  · obtain rfl : y = 1 := by have : needI 4 m [v] = 1 := rfl; omega
    obtain ⟨hvk, hzr⟩ := slot_row (valid_forms hvv) List.mem_cons_self hz
    rw [hzk] at hzr
    have hv0 : at? [v] (0 : Int) = some v := rfl
    have hpl : p < l.length := by omega
    have hit : l[p]? = some l[p] := List.getElem?_eq_getElem hpl
    have hia : at? l (p : Int) = some l[p] := at_get hpl
    have hmem := List.getElem_mem hpl
    generalize l[p] = it at hit hia hmem
    have hiw := Nd.w_mem hmem
    have hic := Nd.cnt_w it
    have hik := item_kind hv hmem
    have hslots := Slots_eq it hik
    have hdn : m_deep_Node it = some it := deep_eq (by omega)
    have hwi := w_kids it
    have hlk4 := Nd.ws_len it.kids
    simp only [show ((4 : Int) == 1) = false from rfl, show ((4 : Int) == 2) = false from rfl, show ((4 : Int) == 3) = false from rfl, cond_false, beq_self_eq_true, cond_true]
    have hnone : m_edit_change_unwrap_none ((4, row, (p : Int), m, [v], (s : Int), old, text), l) = if (it.kids.length : Int) ≤ (s : Int) then some ([], 7) else none := by
      unfold m_edit_change_unwrap_none
      simp only [hia]
      by_cases h : (it.kids.length : Int) ≤ (s : Int)
      · rw [if_pos h]
        obtain ⟨i1, i2, i3, i4⟩ := it
        simp only [Nd.kids] at h hslots
        simp only [Option.bind_some, hdn, hslots, dec_t h]; rfl
      · rw [if_neg h]
        obtain ⟨i1, i2, i3, i4⟩ := it
        simp only [Nd.kids] at h hslots
        simp only [Option.bind_some, hdn, hslots, dec_f h]; rfl
    by_cases hsl : (it.kids.length : Int) ≤ (s : Int)
    · have : m_edit_change_unwrap n ((4, row, (p : Int), m, [v], (s : Int), old, text), l) = some ([], 7) := by
        unfold m_edit_change_unwrap
        rw [hnone, if_pos hsl]
      rw [this]
      refine ⟨[], 7, rfl, .unwrap_no hit fun z' hz' => ?_⟩
      have := (List.getElem?_eq_some_iff.1 hz').1
      omega
    have hsi : s < it.kids.length := by omega
    have hzi : it.kids[s]? = some it.kids[s] := List.getElem?_eq_getElem hsi
    generalize it.kids[s] = z' at hzi
    obtain ⟨_, hzr'⟩ := slot_row hv hmem hzi
    have hzw := Nd.w_mem (List.mem_of_getElem? hzi)
    have hzw2 := w_kids z'
    have hzl := Nd.ws_len z'.kids
    have hfi := fill_iff hz hzr hzi hzr'
    have hws := ws_setp (y := rowN []) hzi
    have hj' := hj z'.kids (by omega)
    rw [show ((1 : Nat) : Int) = 1 from rfl] at hj'
    have hcs : (Nd.mk it.kind it.text it.cols (it.kids.set s (rowN []))).cnt ≤ it.w + 1 := by
      have h1 := Nd.cnt_w (Nd.mk it.kind it.text it.cols (it.kids.set s (rowN [])))
      have e : (rowN []).w = 1 := rfl
      simp only [Nd.w] at h1
      omega
    obtain ⟨rb, g1, g2⟩ := (node_Equal_eq n).1 (Nd.mk it.kind it.text it.cols (it.kids.set s (rowN []))) v (by omega) (by omega)
    have hdo : m_deep_Node_own it = some it := req_t ⟨by omega, fun e => by rw [e] at hzi; simp at hzi⟩
    have hza := at_some hzi
    have hkids : ∃ l' e, m_edit_change_unwrap_kids n ((4, row, (p : Int), m, [v], (s : Int), old, text), l) = some (l', e) ∧ Chg l (4, row, (p : Int), m, [v], (s : Int), old, text) l' e := by
      unfold m_edit_change_unwrap_kids
      obtain ⟨i1, i2, i3, i4⟩ := it
      obtain ⟨v1, v2, v3, v4⟩ := v
      obtain ⟨z1, z2, z3, z4⟩ := z'
      obtain ⟨rfl, rfl, rfl, -⟩ := Nd.mk.inj hzr'
      simp only [Nd.kind, Nd.text, Nd.cols, Nd.kids] at hza g1 hslots hj' hsl
      simp only [hia, Option.bind_some, hdo, hslots, dec_f hsl, cond_false, hza, hv0, Int.toNat_natCast]
      by_cases hmz : (z4.length : Int) = m
      · have : ((z4.length : Int) != m) = false := by unfold bne; rw [beq_iff_eq.2 hmz]; rfl
        unfold rowN at g1
        rw [this]
        simp only [cond_false, g1, Option.bind_some]
        cases rb with
        | false =>
          refine ⟨[], 7, rfl, .unwrap_no hit fun z'' hz'' hm'' he => ?_⟩
          rw [hzi] at hz''
          cases hz''
          have := g2.2 (hfi.2 he)
          cases this
        | true =>
          simp only [Bool.not_true, cond_false, hj', Option.bind_some]
          exact ⟨_, 0, rfl, .unwrap (z := .mk 1 [] 0 z4) hit hzi hmz (hfi.1 (g2.1 rfl))⟩
      · have : ((z4.length : Int) != m) = true := bne_iff_ne.2 hmz
        rw [this]
        refine ⟨[], 7, rfl, .unwrap_no hit fun z'' hz'' hm'' he => ?_⟩
        rw [hzi] at hz''
        cases hz''
        exact hmz hm''
    obtain ⟨l', e, h4, h5⟩ := hkids
    have : m_edit_change_unwrap n ((4, row, (p : Int), m, [v], (s : Int), old, text), l) = some (l', e) := by
      unfold m_edit_change_unwrap
      rw [hnone, if_neg hsl]
      exact h4
    rw [this]
    exact ⟨l', e, rfl, h5⟩
  · obtain rfl : y = 1 := by have : needI 5 m nodes = 1 := rfl; omega
    have hpl : p < l.length := by omega
    have hit : l[p]? = some l[p] := List.getElem?_eq_getElem hpl
    have hia : at? l (p : Int) = some l[p] := at_get hpl
    generalize l[p] = it at hit hia
    obtain ⟨i1, i2, i3, i4⟩ := it
    rw [show ((1 : Nat) : Int) = 1 from rfl] at hj
    simp only [show ((5 : Int) == 1) = false from rfl, show ((5 : Int) == 2) = false from rfl, show ((5 : Int) == 3) = false from rfl, show ((5 : Int) == 4) = false from rfl, cond_false, m_edit_change_set, hia, Option.bind_some, leaf_opt]
    cases hlf : leafB i1 with
    | false => exact ⟨[], 7, rfl, .set_no hit fun h => by have := h.1; simp only [Nd.kind] at this; rw [hlf] at this; cases this⟩
    | true =>
      simp only [cond_true, Option.bind_some]
      cases ht : i2 == old with
      | false => exact ⟨[], 7, rfl, .set_no hit fun h => beq_eq_false_iff_ne.1 ht h.2⟩
      | true =>
        simp only [Bool.not_true, cond_false, hj [Nd.mk i1 text i3 i4] (by simp), Option.bind_some]
        exact ⟨_, 0, rfl, .set (it := .mk i1 i2 i3 i4) hit hlf (eq_of_beq ht)⟩
theorem edit_Apply_eq (n : Nat) (t : Nd) (o : Op8) (hn : 200000000 < n) (ht : t.w ≤ 50000000) (hb : Nd.ws o.nodes ≤ 2000000) (hx : o.2.2.2.2.2.2.2.length ≤ 2000000) : ∃ t' e, m_edit_Apply n t o = some (t', e) ∧ App t o t' e := by
  obtain ⟨k, row, a, m, nodes, slot, old, text⟩ := o
  simp only [Op8.nodes] at hb
  dsimp only at hx
  have v1 := node_Valid_eq n t (by omega) (by omega)
  have ct := Nd.cnt_w t
  obtain ⟨b, f1, f2⟩ := edit_Formed_eq n k row a m nodes slot old text (by omega) (by omega)
  have e1 := node_Row_eq n t row v1 (by omega)
  have hwith : ∀ r l, Fd t row r → Nd.ws l ≤ 5000000 + r.w → m_node_With n t row (rowN l) = some (withS t row (rowN l)) := fun r l h hl => by
    have hs := h.small
    have hc : (rowN l).w = Nd.ws l + 1 := by simp [rowN, Nd.w]
    refine node_With_eq n t row (rowN l) v1 (node_Valid_eq n _ (by omega) (by omega)) (fun z hz => ?_) (by omega) (by have := Nd.cnt_w (rowN l); omega)
    obtain rfl := h.det hz
    have := h.w (rowN l)
    exact node_Valid_eq n _ (by omega) (by omega)
  obtain ⟨t1, t2, t3, t4⟩ := t
  unfold m_edit_Apply
  simp only [v1, f1, e1, Option.bind_some]
  cases hv : validB (.mk t1 t2 t3 t4) with
  | false => exact ⟨_, 1, rfl, .arg hv⟩
  | true =>
    simp only [Bool.not_true, cond_false]
    cases b with
    | false => exact ⟨_, 4, rfl, .form hv fun h => by have := f2.2 h; cases this⟩
    | true =>
      have hf := f2.1 rfl
      simp only [Bool.not_true, cond_false, rowS, if_pos hv]
      cases hfd : findL (.mk t1 t2 t3 t4) row with
      | none => exact ⟨_, 8, rfl, .none hv hf hfd⟩
      | some r =>
        have hr' := fd_of hfd
        have hsm := hr'.small
        have hwr := w_kids r
        have hvr := hr'.valid hv
        have hrr := (valid_row hvr).1
        have hfr := (valid_row hvr).2
        obtain ⟨l', e, c1, c2⟩ := change_apply_eq n r.kids k row a m nodes slot old text hf hfr (by omega) (by omega) (by omega)
        obtain ⟨r1, r2, r3, r4⟩ := r
        obtain ⟨rfl, rfl, rfl, -⟩ := Nd.mk.inj hrr
        simp only [Nd.kids] at c1 c2 hwr
        simp only [Option.bind_some, show ((0 : Int) != 0) = false from rfl, cond_false, c1]
        by_cases he : e = 0
        · subst he
          have hcw := c2.w
          have hw := hwith _ l' hr' (by omega)
          unfold rowN at hw
          simp only [show ((0 : Int) != 0) = false from rfl, cond_false, hw, Option.bind_some]
          cases hvo : validB (putL (.mk t1 t2 t3 t4) row (rowN l')) with
          | false =>
            have hL := App.limit (t := .mk t1 t2 t3 t4) (o := (k, row, a, m, nodes, slot, old, text)) hv hf hr' c2 hvo
            have hws : ∃ q, withS (.mk t1 t2 t3 t4) row (.mk 1 [] 0 l') = (zeroNd, q) ∧ q ≠ 0 := by
              unfold withS
              rw [if_pos hv, hfd]
              dsimp only
              by_cases h : validB (.mk 1 [] 0 l') = true
              · rw [if_pos h]
                unfold rowN at hvo
                rw [hvo, if_neg (by decide)]
                exact ⟨6, rfl, by decide⟩
              · rw [if_neg h]; exact ⟨4, rfl, by decide⟩
            obtain ⟨q, hq, hq0⟩ := hws
            rw [hq]
            have : (q != 0) = true := bne_iff_ne.2 hq0
            simp only [zeroNd, this, cond_true]
            exact ⟨_, 6, rfl, hL⟩
          | true =>
            have hO := App.ok (t := .mk t1 t2 t3 t4) (o := (k, row, a, m, nodes, slot, old, text)) hv hf hr' c2 hvo
            have hvl := (hr'.put (rowN l')).valid hvo
            have hws := withS_at (r := rowN l') hv hfd hvl hvo
            unfold rowN at hws
            rw [hws]
            dsimp only at hO
            unfold rowN at hO
            generalize putL (Nd.mk t1 t2 t3 t4) row (Nd.mk 1 [] 0 l') = Z at *
            obtain ⟨q1, q2, q3, q4⟩ := Z
            exact ⟨_, 0, rfl, hO⟩
        · have : (e != 0) = true := bne_iff_ne.2 he
          simp only [this, cond_true]
          exact ⟨_, e, rfl, .chg (t := .mk t1 t2 t3 t4) (o := (k, row, a, m, nodes, slot, old, text)) hv hf hr' c2 he⟩
theorem edit_Check_eq (n : Nat) (t : Nd) (o : Op8) {t' : Nd} {e : Int} (h : m_edit_Apply n t o = some (t', e)) : m_edit_Check n t o = some e := by
  obtain ⟨t1, t2, t3, t4⟩ := t
  obtain ⟨k, row, a, m, nodes, slot, old, text⟩ := o
  obtain ⟨q1, q2, q3, q4⟩ := t'
  unfold m_edit_Check
  simp only [h, Option.bind_some]
theorem App.w {t t' : Nd} {o : Op8} {e : Int} (h : App t o t' e) : t'.w ≤ t.w + Nd.ws o.nodes + o.2.2.2.2.2.2.2.length + 4 := by
  have hz : zeroNd.w = 1 := rfl
  obtain ⟨k, row, a, m, nodes, slot, old, text⟩ := o
  simp only [Op8.nodes]
  cases h with
  | arg => omega
  | form => omega
  | none => omega
  | chg => omega
  | limit => omega
  | @ok r l h hf hr hc hv =>
    have h1 := hr.w (rowN l)
    have h2 := hc.w
    have h3 := w_kids r
    have h4 : (rowN l).w = Nd.ws l + 1 := by simp [rowN, Nd.w]
    dsimp only at h1 ⊢
    omega
end Go.Proofs.Ytfbggpmdmhgpfaa
namespace Go.Proofs.Ytfbggpmdmhgpfaa
open Go.Abs
def Op8.row (o : Op8) : List Int := o.2.1
def Op8.text (o : Op8) : List UInt8 := o.2.2.2.2.2.2.2
theorem equal_self (n : Nat) (t : Nd) (h : 2 * t.cnt < n) (hc : t.cnt ≤ 67108864) : m_r09_Equal n t t = some true := by
  obtain ⟨r, h1, h2⟩ := (Equal_eq n).1 t t h hc
  obtain rfl := h2.2 rfl
  exact h1
theorem awake12_ok (n : Nat) (hn : 200000000 < n) : m_l12_awake n = some true := by
  obtain ⟨t', e, h1, h2⟩ := edit_Apply_eq n (.mk 1 [] 0 [.mk 2 [97] 0 [], .mk 2 [98] 0 []]) (3, [], 0, 2, [.mk 5 [] 0 [.mk 1 [] 0 [], .mk 1 [] 0 []]], 0, [], []) hn (by decide) (by decide) (by decide)
  have h3 : App (.mk 1 [] 0 [.mk 2 [97] 0 [], .mk 2 [98] 0 []]) (3, [], 0, 2, [.mk 5 [] 0 [.mk 1 [] 0 [], .mk 1 [] 0 []]], 0, [], []) (.mk 1 [] 0 [.mk 5 [] 0 [.mk 1 [] 0 [.mk 2 [97] 0 [], .mk 2 [98] 0 []], .mk 1 [] 0 []]]) 0 := by
    have hf : FormP (3, [], 0, 2, [.mk 5 [] 0 [.mk 1 [] 0 [], .mk 1 [] 0 []]], 0, [], []) := .inr (.inl ⟨.inl rfl, by decide, ⟨_, 0, _, rfl, rfl, by decide, rfl, rfl⟩, rfl, rfl⟩)
    have hc := Chg.wrap (l := [.mk 2 [97] 0 [], .mk 2 [98] 0 []]) (row := []) (p := 0) (m := 2) (v := .mk 5 [] 0 [.mk 1 [] 0 [], .mk 1 [] 0 []]) (s := 0) (old := []) (text := []) (by decide)
    have := App.ok (t := .mk 1 [] 0 [.mk 2 [97] 0 [], .mk 2 [98] 0 []]) (by decide) hf (.nil _) hc (by dsimp only; rw [putL_nil']; decide)
    dsimp only at this
    rw [putL_nil'] at this
    exact this
  obtain ⟨rfl, rfl⟩ := h2.det h3
  unfold m_l12_awake m_l12_awake_1
  simp only [Option.bind_some, h1, beq_self_eq_true, cond_true]
  rw [equal_self n _ (by have : (Nd.mk 1 [] 0 [.mk 5 [] 0 [.mk 1 [] 0 [.mk 2 [97] 0 [], .mk 2 [98] 0 []], .mk 1 [] 0 []]]).cnt = 6 := rfl; omega) (by decide)]
  rfl
def FewO (o : Op8) : Prop := Nd.cnts o.nodes ≤ 99 ∧ o.row.length ≤ 60
theorem r12_few_eq (n : Nat) (o : Op8) (h : 310 < n) : ∃ y, m_r12_Few n o = some y ∧ (y = true → FewO o) := by
  obtain ⟨k, row, a, m, nodes, slot, old, text⟩ := o
  obtain ⟨y, h1, h2⟩ := Few_eq n (.mk 1 [] 0 nodes) 100 (by omega) (by omega)
  rw [show ((100 : Nat) : Int) = 100 from rfl] at h1
  unfold m_r12_Few
  simp only [m_r09_ToRow, Option.bind_some, h1]
  cases y with
  | false => exact ⟨false, rfl, fun h => by cases h⟩
  | true =>
    refine ⟨_, rfl, fun h => ⟨?_, ?_⟩⟩
    · have := h2 rfl
      simp only [Nd.cnt] at this
      show Nd.cnts nodes ≤ 99
      omega
    · have := of_decide_eq_true h
      show row.length ≤ 60
      omega
theorem few_loop12 (n : Nat) (hn : 310 < n) {ops : List Op8} (hl : ops.length ≤ 1073741824) : ∀ (k i : Nat), ops.length - i < k → i ≤ ops.length →
    ∃ f, m_l12_few_l1 n ops k (i : Int) = some f ∧ (f = .ret false ∨ (f = .go () ∧ ∀ o ∈ ops.drop i, FewO o))
  | 0, i, h, _ => by omega
  | k + 1, i, h, hi => by
    unfold m_l12_few_l1
    by_cases hj : i < ops.length
    · obtain ⟨y, h1, h2⟩ := r12_few_eq n ops[i] hn
      have hd := List.drop_eq_getElem_cons hj
      rw [dec_t (Int.ofNat_lt.2 hj), cond_true, at_get hj]
      generalize ops[i] = o at *
      obtain ⟨q1, q2, q3, q4, q5, q6, q7, q8⟩ := o
      simp only [Option.bind_some, h1]
      cases y with
      | false => exact ⟨_, rfl, .inl rfl⟩
      | true =>
        obtain ⟨f, g1, g2⟩ := few_loop12 n hn hl k (i + 1) (by omega) (by omega)
        simp only [Bool.not_true, cond_false, wi_succ (show i < 9223372036854775807 by omega), g1]
        refine ⟨f, rfl, g2.imp_right fun h => ⟨h.1, fun o ho => ?_⟩⟩
        rw [hd] at ho
        rcases List.mem_cons.1 ho with rfl | ho
        · exact h2 rfl
        · exact h.2 o ho
    · rw [dec_f (by omega)]
      refine ⟨_, rfl, .inr ⟨rfl, fun o ho => ?_⟩⟩
      rw [List.drop_eq_nil_iff.2 (by omega)] at ho
      cases ho
theorem few12_eq (n : Nat) (t : Nd) (ops : List Op8) (hn : 310 < n) (hl : ops.length ≤ 1073741824) (ho : ops.length < n) : ∃ y, m_l12_few n t ops = some y ∧ (y = true → t.cnt ≤ 300 ∧ (∀ o ∈ ops, FewO o) ∧ ops.length ≤ 12) := by
  obtain ⟨y, h1, h2⟩ := Few_eq n t 300 (by omega) (by omega)
  rw [show ((300 : Nat) : Int) = 300 from rfl] at h1
  obtain ⟨f, g1, g2⟩ := few_loop12 n hn hl n 0 (by omega) (by omega)
  rw [show ((0 : Nat) : Int) = 0 from rfl] at g1
  obtain ⟨t1, t2, t3, t4⟩ := t
  unfold m_l12_few
  simp only [g1, h1, Option.bind_some]
  rcases g2 with rfl | ⟨rfl, g3⟩
  · exact ⟨false, rfl, fun h => by cases h⟩
  · cases y with
    | false => exact ⟨false, rfl, fun h => by cases h⟩
    | true => exact ⟨_, rfl, fun h => ⟨h2 rfl, g3, by have := of_decide_eq_true h; omega⟩⟩
theorem begins12_loop {l w : List Int} (hlw : w.length ≤ l.length) (hl : w.length ≤ 1073741824) : ∀ (k i : Nat), w.length - i < k → i ≤ w.length → m_l12_begins_l1 l w k (i : Int) = some (bif (w.drop i).isPrefixOf (l.drop i) then .go () else .ret false)
  | 0, i, h, _ => by omega
  | k + 1, i, h, hi => by
    unfold m_l12_begins_l1
    by_cases hj : i < w.length
    · have hj' : i < l.length := by omega
      rw [dec_t (Int.ofNat_lt.2 hj), cond_true, at_get hj', at_get hj]
      simp only [Option.bind_some]
      rw [List.drop_eq_getElem_cons hj, List.drop_eq_getElem_cons hj', List.isPrefixOf_cons_cons, wi_succ (by omega), begins12_loop hlw hl k (i + 1) (by omega) (by omega)]
      cases e : l[i] == w[i] with
      | true =>
        have e' := eq_of_beq e
        rw [e']
        simp only [bne_self_eq_false, cond_false, beq_self_eq_true, Bool.true_and]
      | false =>
        have e' : ¬ l[i] = w[i] := beq_eq_false_iff_ne.1 e
        have e2 : (l[i] != w[i]) = true := bne_iff_ne.2 e'
        have e3 : (w[i] == l[i]) = false := beq_eq_false_iff_ne.2 fun h => e' h.symm
        rw [e2, e3]; rfl
    · rw [dec_f (by omega), cond_false]
      have : w.drop i = [] := List.drop_eq_nil_iff.2 (by omega)
      rw [this]; rfl
theorem begins12_eq (n : Nat) (l w : List Int) (h : w.length < n) (hl : w.length ≤ 1073741824) : m_l12_begins n l w = some (w.isPrefixOf l) := by
  unfold m_l12_begins
  dsimp only
  by_cases hlw : w.length ≤ l.length
  · have e := begins12_loop hlw hl n 0 (by omega) (by omega)
    rw [show ((0 : Nat) : Int) = 0 from rfl] at e
    rw [dec_f (by omega), cond_false, e]
    simp only [List.drop_zero]
    cases w.isPrefixOf l <;> rfl
  · rw [dec_t (by omega), cond_true]
    have : w.isPrefixOf l = false := by
      cases e : w.isPrefixOf l with
      | false => rfl
      | true => exact absurd (List.isPrefixOf_iff_prefix.1 e).length_le hlw
    rw [this]
theorem both_eq (n : Nat) (t : Nd) (o : Op8) (hn : 200000000 < n) (ht : t.w ≤ 50000000) (hb : Nd.ws o.nodes ≤ 2000000) (hx : o.text.length ≤ 2000000) (hr : o.row.length ≤ 2000000) :
    ∃ t' e, m_edit_Apply n t o = some (t', e) ∧ m_r12_Apply n t o = some (t', e) ∧ App t o t' e := by
  obtain ⟨t1, e1, f1, g1⟩ := edit_Apply_eq n t o hn ht hb hx
  obtain ⟨t2, e2, f2, g2⟩ := r12_Apply_eq n t o hn ht hb hx hr
  obtain ⟨rfl, rfl⟩ := g1.det g2
  exact ⟨_, _, f1, f2, g1⟩
theorem formed_eq (n : Nat) (o : Op8) (h : Nd.ws o.nodes + 50 < n) (hb : Nd.ws o.nodes ≤ 67000000) : ∃ b, m_edit_Formed n o = some b ∧ m_r12_Formed n o = some b := by
  obtain ⟨k, row, a, m, nodes, slot, old, text⟩ := o
  obtain ⟨b1, f1, g1⟩ := edit_Formed_eq n k row a m nodes slot old text h hb
  obtain ⟨b2, f2, g2⟩ := r12_Formed_eq n k row a m nodes slot old text h hb
  have : b1 = b2 := Bool.eq_iff_iff.2 (g1.trans g2.symm)
  subst this
  exact ⟨_, f1, f2⟩
theorem EditApply_eq (t : Nd) (o : Op8) (ht : t.w ≤ 1048576) (hb : Nd.ws o.nodes + o.text.length + o.row.length ≤ 1048576) (rt : t.rng) : m_l12_EditApply 300000000 t o = some true := by
  have hw := awake12_ok 300000000 (by decide)
  obtain ⟨y, f1, _⟩ := few12_eq 300000000 t [o] (by decide) (by simp) (by simp)
  have d := r09_Dump_eq 300000000 t (by omega) (by omega) rt
  obtain ⟨t', e, g1, g2, g3⟩ := both_eq 300000000 t o (by decide) (by omega) (by omega) (by omega) (by omega)
  have g4 := edit_Check_eq 300000000 t o g1
  obtain ⟨b, k1, k2⟩ := formed_eq 300000000 o (by omega) (by omega)
  have hw' := g3.w
  have := Nd.cnt_w t'
  have q := equal_self 300000000 t' (by simp only [Op8.text] at hb; omega) (by simp only [Op8.text] at hb; omega)
  generalize 300000000 = n at *
  generalize dumpL t = D at *
  obtain ⟨t1, t2, t3, t4⟩ := t
  obtain ⟨u1, u2, u3, u4⟩ := t'
  obtain ⟨k, row, a, m, nodes, slot, old, text⟩ := o
  unfold m_l12_EditApply
  simp only [hw, f1, Option.bind_some, Bool.not_true, cond_false]
  cases y with
  | false => rfl
  | true => simp only [Bool.not_true, cond_false, d, g1, g2, q, g4, k1, k2, Option.bind_some, beq_self_eq_true, cond_true]
inductive Runs : Nd → List Op8 → Nd → Int → Prop
  | nil (t : Nd) : Runs t [] t 0
  | stop {t t' : Nd} {o : Op8} {ops : List Op8} {e : Int} (h : App t o t' e) (he : e ≠ 0) : Runs t (o :: ops) zeroNd e
  | next {t t' u : Nd} {o : Op8} {ops : List Op8} {e : Int} (h : App t o t' 0) (hr : Runs t' ops u e) : Runs t (o :: ops) u e
def endOf (f : Fl (Nd × Int × Int) (Int × List UInt8 × Int × List Nd)) : Nd × Int × Int := match f with
  | .ret r => r
  | .go (a, b, c, d) => (.mk a b c d, 0, 0)
theorem all_loop (n : Nat) (hn : 200000000 < n) {ops : List Op8} (ho : ∀ o ∈ ops, Nd.ws o.nodes + o.text.length + o.row.length ≤ 1048576) (hl : ops.length ≤ 12) : ∀ (k i : Nat) (t : Nd), ops.length - i < k → i ≤ ops.length → t.w ≤ 1048576 + i * 1048580 →
    ∃ f, m_edit_ApplyAll_l1 n ops k t.kind t.text t.cols t.kids (i : Int) = some f ∧ m_r12_ApplyAll_l1 n ops k t.kind t.text t.cols t.kids (i : Int) = some f ∧ Runs t (ops.drop i) (endOf f).1 (endOf f).2.2 ∧ (endOf f).1.w ≤ 16000000
  | 0, i, t, h, _, _ => by omega
  | k + 1, i, t, h, hi, hw => by
    unfold m_edit_ApplyAll_l1 m_r12_ApplyAll_l1
    by_cases hj : i < ops.length
    · have hb := ho _ (List.getElem_mem hj)
      have hd := List.drop_eq_getElem_cons hj
      obtain ⟨t', e, g1, g2, g3⟩ := both_eq n t ops[i] hn (by omega) (by omega) (by omega) (by omega)
      have hw' := g3.w
      rw [dec_t (Int.ofNat_lt.2 hj), at_get hj, hd]
      simp only [cond_true]
      generalize ops[i] = o at *
      obtain ⟨q1, q2, q3, q4, q5, q6, q7, q8⟩ := o
      obtain ⟨t1, t2, t3, t4⟩ := t
      have ih := all_loop n hn ho hl k (i + 1) t' (by omega) (by omega) (by simp only [Op8.text] at hb; dsimp only at hw' hb; simp only [Nat.add_mul]; omega)
      obtain ⟨u1, u2, u3, u4⟩ := t'
      simp only [Nd.kind, Nd.text, Nd.cols, Nd.kids] at ih ⊢
      simp only [Option.bind_some, g1, g2]
      by_cases he : e = 0
      · subst he
        simp only [show ((0 : Int) != 0) = false from rfl, cond_false, wi_succ (show i < 9223372036854775807 by omega)]
        obtain ⟨f, h1, h2, h3, h4⟩ := ih
        exact ⟨f, h1, h2, .next g3 h3, h4⟩
      · have hne : (e != 0) = true := bne_iff_ne.2 he
        simp only [hne, cond_true]
        exact ⟨_, rfl, rfl, .stop g3 he, by show zeroNd.w ≤ 16000000; decide⟩
    · rw [dec_f (by omega), List.drop_eq_nil_iff.2 (by omega)]
      obtain ⟨t1, t2, t3, t4⟩ := t
      simp only [cond_false]
      refine ⟨_, rfl, rfl, .nil _, ?_⟩
      show (Nd.mk t1 t2 t3 t4).w ≤ 16000000
      have : i * 1048580 ≤ 12 * 1048580 := Nat.mul_le_mul_right _ (by omega)
      omega
inductive RunsV (t : Nd) (ops : List Op8) : Nd → Int → Prop
  | bad (h : validB t = false) : RunsV t ops zeroNd 1
  | go {u : Nd} {e : Int} (h : validB t = true) (hr : Runs t ops u e) : RunsV t ops u e
theorem all_eq (n : Nat) (t : Nd) (ops : List Op8) (hn : 200000000 < n) (ht : t.w ≤ 1048576) (ho : ∀ o ∈ ops, Nd.ws o.nodes + o.text.length + o.row.length ≤ 1048576) (hl : ops.length ≤ 12) :
    ∃ u i e, m_edit_ApplyAll n t ops = some (u, i, e) ∧ m_r12_ApplyAll n t ops = some (u, i, e) ∧ RunsV t ops u e ∧ u.w ≤ 16000000 := by
  have ct := Nd.cnt_w t
  have v1 := node_Valid_eq n t (by omega) (by omega)
  have v2 := r09_Valid_eq n t (by omega) (by omega)
  have hd : m_deep_Node t = some t := deep_eq (by omega)
  obtain ⟨f, h1, h2, h3, h4⟩ := all_loop n hn ho hl n 0 t (by omega) (by omega) (by omega)
  rw [show ((0 : Nat) : Int) = 0 from rfl] at h1 h2
  rw [List.drop_zero] at h3
  obtain ⟨t1, t2, t3, t4⟩ := t
  simp only [Nd.kind, Nd.text, Nd.cols, Nd.kids] at h1 h2
  unfold m_edit_ApplyAll m_r12_ApplyAll
  simp only [v1, v2, Option.bind_some, hd, h1, h2]
  cases hv : validB (.mk t1 t2 t3 t4) with
  | false => exact ⟨_, 0, 1, rfl, rfl, .bad hv, by decide⟩
  | true =>
    simp only [Bool.not_true, cond_false]
    cases f with
    | ret r =>
      obtain ⟨u, i, e⟩ := r
      exact ⟨u, i, e, rfl, rfl, .go hv h3, h4⟩
    | go g =>
      obtain ⟨a, b, c, d⟩ := g
      exact ⟨_, 0, 0, rfl, rfl, .go hv h3, h4⟩
theorem EditApplyAll_eq (t : Nd) (ops : List Op8) (ht : t.w ≤ 1048576) (hl : ops.length ≤ 1048576) (ho : ∀ o ∈ ops, Nd.ws o.nodes + o.text.length + o.row.length ≤ 1048576) : m_l12_EditApplyAll 300000000 t ops = some true := by
  have hw := awake12_ok 300000000 (by decide)
  obtain ⟨y, f1, f2⟩ := few12_eq 300000000 t ops (by decide) (by omega) (by omega)
  have hall := all_eq 300000000 t ops (by decide) ht ho
  have hq := fun u : Nd => equal_self 300000000 u
  obtain ⟨t1, t2, t3, t4⟩ := t
  generalize hN : 300000000 = n at *
  unfold m_l12_EditApplyAll
  simp only [hw, f1, Option.bind_some, Bool.not_true, cond_false]
  cases y with
  | false => rfl
  | true =>
    obtain ⟨⟨u1, u2, u3, u4⟩, i, e, g1, g2, g3, g4⟩ := hall (f2 rfl).2.2
    have := Nd.cnt_w (.mk u1 u2 u3 u4)
    have q := hq (.mk u1 u2 u3 u4) (by omega) (by omega)
    simp only [Bool.not_true, cond_false, g1, g2, q, Option.bind_some, beq_self_eq_true, cond_true]
end Go.Proofs.Ytfbggpmdmhgpfaa
namespace Go.Proofs.Ytfbggpmdmhgpfaa
open Go.Abs
theorem seg_spl (l b : List Nd) {p q : Nat} (hp : p ≤ l.length) : segS (splS l p q b) p (p + b.length) = b := by
  have h : (l.take p).length = p := by rw [List.length_take]; omega
  unfold segS splS
  rw [List.append_assoc, List.take_append, List.take_of_length_le (by omega), h, show p + b.length - p = b.length by omega, List.take_left, List.drop_append, List.drop_of_length_le (by omega), h, Nat.sub_self]
  rfl
theorem spl_spl (l b c : List Nd) {p q : Nat} (hp : p ≤ l.length) : splS (splS l p q b) p (p + b.length) c = splS l p q c := by
  have h : (l.take p).length = p := by rw [List.length_take]; omega
  unfold splS
  have e1 : ((l.take p ++ b) ++ l.drop q).take p = l.take p := by
    rw [List.append_assoc, List.take_append, h, Nat.sub_self, List.take_take, Nat.min_self]; simp
  have e2 : ((l.take p ++ b) ++ l.drop q).drop (p + b.length) = l.drop q := by
    rw [List.drop_append, List.length_append, h, Nat.sub_self, List.drop_of_length_le (by rw [List.length_append, h]; omega)]; simp
  rw [e1, e2]
theorem spl_seg (l : List Nd) {p q : Nat} (hpq : p ≤ q) : splS l p q (segS l p q) = l := by
  unfold splS segS
  have : l.take p ++ (l.take q).drop p = l.take q := by
    have h := List.take_append_drop p (l.take q)
    rw [List.take_take, Nat.min_eq_left hpq] at h
    exact h
  rw [this, List.take_append_drop]
theorem spl_len (l b : List Nd) {p q : Nat} (hp : p ≤ q) (hq : q ≤ l.length) : (splS l p q b).length + (q - p) = l.length + b.length := by
  unfold splS
  simp only [List.length_append, List.length_take, List.length_drop]
  omega
theorem seg_len (l : List Nd) {p q : Nat} (hp : p ≤ q) (hq : q ≤ l.length) : (segS l p q).length = q - p := by
  unfold segS
  simp only [List.length_take, List.length_drop]
  omega
theorem seg_it {l : List Nd} {p : Nat} {it : Nd} (h : l[p]? = some it) : segS l p (p + 1) = [it] := by
  have := seg_one l (List.getElem?_eq_some_iff.1 h).1
  rw [segS, this, (List.getElem?_eq_some_iff.1 h).2]
theorem spl_at (l : List Nd) {p q : Nat} (x : Nd) (hp : p ≤ l.length) : (splS l p q [x])[p]? = some x := by
  have h : (l.take p).length = p := by rw [List.length_take]; omega
  unfold splS
  rw [List.append_assoc, List.getElem?_append_right (by omega), h, Nat.sub_self]; rfl
theorem cnts_splice (l b : List Nd) {p q : Nat} (h : p ≤ q) : Nd.cnts (splS l p q b) + Nd.cnts (segS l p q) = Nd.cnts l + Nd.cnts b := by
  have e := congrArg Nd.cnts (spl_seg l h)
  unfold splS segS at *
  rw [Nd.cnts_append, Nd.cnts_append] at e ⊢
  omega
theorem cnt_kids (v : Nd) : v.cnt = Nd.cnts v.kids + 1 := by cases v; simp only [Nd.cnt, Nd.kids]; try omega
theorem fill_cnt {v : Nd} {s : Nat} {z : Nd} (hz : v.kids[s]? = some z) (hk : z.kids = []) (l : List Nd) : (fillN v s l).cnt = v.cnt + Nd.cnts l := by
  have h1 := cnts_setp (y := rowN l) hz
  have h2 := cnt_kids z
  have h3 := cnt_kids v
  have h4 : (fillN v s l).cnt = Nd.cnts (v.kids.set s (rowN l)) + 1 := cnt_kids _
  have h5 : (rowN l).cnt = Nd.cnts l + 1 := cnt_kids _
  rw [hk] at h2
  simp only [Nd.cnts] at h2
  omega
def plusI (k : Int) (nodes : List Nd) : Int := if k = 2 ∨ k = 4 then 0 - (Nd.cnts nodes : Int) else (Nd.cnts nodes : Int)
theorem Chg.cnts {l l' : List Nd} {k : Int} {row : List Int} {a m : Int} {nodes : List Nd} {slot : Int} {old text : List UInt8} (hf : FormP (k, row, a, m, nodes, slot, old, text)) (h : Chg l (k, row, a, m, nodes, slot, old, text) l' 0) : (Nd.cnts l' : Int) = Nd.cnts l + plusI k nodes := by
  unfold plusI
  cases h with
  | @ins _ p _ _ _ _ _ h =>
    have h1 := cnts_splice l nodes (Nat.le_refl p)
    have h2 : segS l p p = [] := by unfold segS; simp
    rw [h2] at h1
    simp only [Nd.cnts] at h1
    simp
    omega
  | @del _ p _ _ _ _ _ h he => have h1 := cnts_splice l [] (Nat.le_add_right p nodes.length); rw [he] at h1; simp only [Nd.cnts] at h1; simp; omega
  | @wrap _ p m v s _ _ h =>
    have h1 := cnts_splice l [fillN v s (segS l p (p + m))] (Nat.le_add_right p m)
    have : TemplP [v] (s : Int) := by
      rcases hf with ⟨h0 | h0, _⟩ | ⟨_, _, h0, _⟩ | ⟨h0, _⟩
      · cases h0
      · cases h0
      · exact h0
      · cases h0
    obtain ⟨v', s', z, e1, e2, _, hz, hk⟩ := this
    cases e1
    obtain rfl := Int.ofNat.inj e2
    have h2 := fill_cnt hz hk (segS l p (p + m))
    simp only [Nd.cnts] at h1 ⊢
    simp
    omega
  | @unwrap _ p _ v it z s _ _ h hz hm he =>
    have h1 := cnts_splice l z.kids (Nat.le_add_right p 1)
    have : TemplP [v] (s : Int) := by
      rcases hf with ⟨h0 | h0, _⟩ | ⟨_, _, h0, _⟩ | ⟨h0, _⟩
      · cases h0
      · cases h0
      · exact h0
      · cases h0
    obtain ⟨v', s', z', e1, e2, _, hz', hk⟩ := this
    cases e1
    obtain rfl := Int.ofNat.inj e2
    have h2 := fill_cnt hz' hk z.kids
    rw [seg_it h] at h1
    rw [← he] at h2
    simp only [Nd.cnts] at h1 ⊢
    simp
    omega
  | @set _ p _ _ it _ _ _ h hl he =>
    have h1 := cnts_splice l [.mk it.kind text it.cols it.kids] (Nat.le_add_right p 1)
    have h0 : nodes = [] := by
      rcases hf with ⟨h0 | h0, _⟩ | ⟨h0 | h0, _⟩ | ⟨_, _, h0, _⟩
      · cases h0
      · cases h0
      · cases h0
      · cases h0
      · exact h0
    subst h0
    have h2 := cnt_kids it
    rw [seg_it h] at h1
    simp only [Nd.cnts, Nd.cnt] at h1 ⊢
    simp
    omega
def invO : Op8 → Op8
  | (k, row, a, m, nodes, slot, old, text) =>
    (if k = 1 then 2 else if k = 2 then 1 else if k = 3 then 4 else if k = 4 then 3 else k, row, a, m, nodes, slot, if k = 5 then text else old, if k = 5 then old else text)
theorem FormP.inv {o : Op8} (h : FormP o) : FormP (invO o) := by
  obtain ⟨k, row, a, m, nodes, slot, old, text⟩ := o
  rcases h with ⟨rfl | rfl, h⟩ | ⟨rfl | rfl, h⟩ | ⟨rfl, h1, h⟩
  · exact .inl ⟨.inr rfl, h⟩
  · exact .inl ⟨.inl rfl, h⟩
  · exact .inr (.inl ⟨.inr rfl, h⟩)
  · exact .inr (.inl ⟨.inl rfl, h⟩)
  · exact .inr (.inr ⟨rfl, Ne.symm h1, h⟩)
theorem Chg.inv {l l' : List Nd} {o : Op8} (hf : FormP o) (h : Chg l o l' 0) : Chg l' (invO o) l 0 := by
  obtain ⟨k, row, a, m, nodes, slot, old, text⟩ := o
  cases h with
  | @ins _ p _ _ _ _ _ h =>
    have hl := spl_len l nodes (Nat.le_refl p) h
    have h1 := seg_spl l nodes (q := p) h
    have h2 := spl_spl l nodes [] (q := p) h
    have h3 := spl_seg l (Nat.le_refl p)
    have h4 : segS l p p = [] := by unfold segS; simp
    rw [h4] at h3
    have := Chg.del (l := splS l p p nodes) (row := row) (p := p) (m := m) (nodes := nodes) (slot := slot) (old := old) (text := text) (by omega) h1
    rw [h2, h3] at this
    exact this
  | @del _ p _ _ _ _ _ h he =>
    have hl := spl_len l [] (Nat.le_add_right p nodes.length) h
    have h2 := spl_spl l [] nodes (q := p + nodes.length) (p := p) (by omega)
    have h3 := spl_seg l (Nat.le_add_right p nodes.length)
    rw [he] at h3
    simp only [List.length_nil, Nat.add_zero] at h2
    have := Chg.ins (l := splS l p (p + nodes.length) []) (row := row) (p := p) (m := m) (nodes := nodes) (slot := slot) (old := old) (text := text) (by simp only [List.length_nil] at hl; omega)
    rw [h2, h3] at this
    exact this
  | @wrap _ p m v s _ _ h =>
    have ht : TemplP [v] (s : Int) := by
      rcases hf with ⟨h0 | h0, _⟩ | ⟨_, _, h0, _⟩ | ⟨h0, _⟩
      · cases h0
      · cases h0
      · exact h0
      · cases h0
    obtain ⟨v', s', z, e1, e2, _, hz, hk⟩ := ht
    cases e1
    obtain rfl := Int.ofNat.inj e2
    have h1 := spl_at l (q := p + m) (fillN v s (segS l p (p + m))) (p := p) (by omega)
    have h2 := spl_spl l [fillN v s (segS l p (p + m))] (segS l p (p + m)) (q := p + m) (p := p) (by omega)
    rw [spl_seg l (Nat.le_add_right p m)] at h2
    have hk2 : (fillN v s (segS l p (p + m))).kids[s]? = some (rowN (segS l p (p + m))) := set_at hz
    have hm : ((rowN (segS l p (p + m))).kids.length : Int) = (m : Int) := by
      have := seg_len l (Nat.le_add_right p m) h
      show ((segS l p (p + m)).length : Int) = m
      omega
    have := Chg.unwrap (row := row) (v := v) (old := old) (text := text) h1 hk2 hm rfl
    rw [show (rowN (segS l p (p + m))).kids = segS l p (p + m) from rfl] at this
    simp only [List.length_cons, List.length_nil, Nat.zero_add] at h2
    rw [h2] at this
    exact this
  | @unwrap _ p _ v it z s _ _ h hz hm he =>
    have hp := (List.getElem?_eq_some_iff.1 h).1
    have hl := spl_len l z.kids (Nat.le_add_right p 1) (by omega)
    have h1 := seg_spl l z.kids (q := p + 1) (p := p) (by omega)
    have h2 := spl_spl l z.kids [fillN v s z.kids] (q := p + 1) (p := p) (by omega)
    have h3 := spl_seg l (Nat.le_add_right p 1)
    rw [seg_it h, he] at h3
    rw [h3] at h2
    subst hm
    have := Chg.wrap (l := splS l p (p + 1) z.kids) (row := row) (p := p) (m := z.kids.length) (v := v) (s := s) (old := old) (text := text) (by omega)
    rw [h1, h2] at this
    exact this
  | @set _ p _ _ it _ _ _ h hl he =>
    have hp := (List.getElem?_eq_some_iff.1 h).1
    have h1 := spl_at l (q := p + 1) (.mk it.kind text it.cols it.kids) (p := p) (by omega)
    have h2 := spl_spl l [.mk it.kind text it.cols it.kids] [it] (q := p + 1) (p := p) (by omega)
    have h3 := spl_seg l (Nat.le_add_right p 1)
    rw [seg_it h] at h3
    rw [h3] at h2
    simp only [List.length_cons, List.length_nil, Nat.zero_add] at h2
    have := Chg.set (row := row) (m := m) (nodes := nodes) (slot := slot) (old := text) (text := old) h1 hl rfl
    obtain ⟨i1, i2, i3, i4⟩ := it
    have he : i2 = old := he
    subst he
    simp only [Nd.kind, Nd.cols, Nd.kids] at this h2
    rw [h2] at this
    exact this
theorem invO_row (o : Op8) : (invO o).2.1 = o.2.1 := rfl
theorem App.inv {t t' : Nd} {o : Op8} (h : App t o t' 0) : App t' (invO o) t 0 ∧ validB t' = true := by
  cases h with
  | chg h hf hr hc he => exact absurd rfl he
  | @ok r l h hf hr hc hv =>
    have hrr := (valid_row (hr.valid h)).1
    have hput := hr.put (rowN l)
    have hb := hr.back (rowN l)
    have hci := hc.inv hf
    have : App (putL t o.2.1 (rowN l)) (invO o) (putL (putL t o.2.1 (rowN l)) (invO o).2.1 (rowN r.kids)) 0 := by
      refine App.ok hv hf.inv (r := rowN l) (by rw [invO_row]; exact hput) hci ?_
      rw [invO_row, show rowN r.kids = r from hrr.symm, hb]
      exact h
    rw [invO_row, show rowN r.kids = r from hrr.symm, hb] at this
    exact ⟨this, hv⟩
theorem App.elsewhere {t t' : Nd} {o : Op8} (h : App t o t' 0) {q : List Int} (hq : Apart o.2.1 q) : rowS t' q = rowS t q := by
  cases h with
  | chg h hf hr hc he => exact absurd rfl he
  | @ok r l h hf hr hc hv =>
    unfold rowS
    rw [if_pos hv, if_pos h, hr.other (rowN l) q hq]
theorem App.cnt {t t' : Nd} {k : Int} {row : List Int} {a m : Int} {nodes : List Nd} {slot : Int} {old text : List UInt8} (h : App t (k, row, a, m, nodes, slot, old, text) t' 0) : (t'.cnt : Int) = t.cnt + plusI k nodes := by
  cases h with
  | chg h hf hr hc he => exact absurd rfl he
  | @ok r l h hf hr hc hv =>
    have h1 := hr.cnt (rowN l)
    have h2 := hc.cnts hf
    have h3 := cnt_kids r
    have h4 : (rowN l).cnt = Nd.cnts l + 1 := cnt_kids _
    dsimp only at h1 ⊢
    omega
theorem deps_set {ks : List Nd} {i : Nat} {x y : Nd} {D : Nat} (h : ks[i]? = some x) (h1 : Nd.deps ks ≤ D) (h2 : y.dep ≤ D) : Nd.deps (ks.set i y) ≤ D := by
  induction ks generalizing i with
  | nil => cases h
  | cons u ks ih =>
    simp only [Nd.deps] at h1
    have a1 := Nat.le_trans (Nat.le_max_left _ _) h1
    have a2 := Nat.le_trans (Nat.le_max_right _ _) h1
    cases i with
    | zero => simp only [List.set_cons_zero, Nd.deps]; exact Nat.max_le.2 ⟨h2, a2⟩
    | succ i => simp only [List.set_cons_succ, Nd.deps]; exact Nat.max_le.2 ⟨a1, ih h a2⟩
theorem Fd.deep {t z : Nd} {p : List Int} (h : Fd t p z) : z.dep + p.length ≤ t.dep := by
  induction h with
  | nil t => simp
  | @step k tx c ks i k2 tx2 c2 ks2 s z r' p hi hs _ ih =>
    have d1 := deps_mem' (List.mem_of_getElem? hi)
    have d2 := deps_mem' (List.mem_of_getElem? hs)
    simp only [Nd.dep, List.length_cons] at *
    omega
theorem Fd.put_dep {t z : Nd} {p : List Int} (h : Fd t p z) (r : Nd) {D : Nat} (h1 : t.dep ≤ D) (h2 : r.dep + p.length ≤ D) : (putL t p r).dep ≤ D := by
  induction h generalizing D with
  | nil t => rw [putL_nil']; simpa using h2
  | @step k tx c ks i k2 tx2 c2 ks2 s z r' p hi hs _ ih =>
    rw [putL_step' hi hs]
    have d1 := deps_mem' (List.mem_of_getElem? hi)
    have d2 := deps_mem' (List.mem_of_getElem? hs)
    simp only [Nd.dep, List.length_cons] at *
    have := ih (D := D - 2) (by omega) (by omega)
    have e1 := deps_set (D := D - 2) (y := putL z p r) hs (by omega) this
    have e2 := deps_set (D := D - 1) (y := .mk k2 tx2 c2 (ks2.set s (putL z p r))) hi (by omega) (by simp only [Nd.dep]; omega)
    omega
theorem forms_set {k : Int} {ks : List Nd} {i : Nat} {x y : Nd} (h : ks[i]? = some x) (hf : formsB k ks = true) (hk : y.kind = x.kind) (hy : formB y = true) : formsB k (ks.set i y) = true := by
  induction ks generalizing i with
  | nil => cases h
  | cons u ks ih =>
    simp only [formsB, Bool.and_eq_true] at hf
    cases i with
    | zero =>
      obtain rfl : u = x := Option.some.inj h
      simp only [List.set_cons_zero, formsB, Bool.and_eq_true, hk]
      exact ⟨⟨hf.1.1, hy⟩, hf.2⟩
    | succ i => simp only [List.set_cons_succ, formsB, Bool.and_eq_true]; exact ⟨hf.1, ih h hf.2⟩
theorem Fd.put_form {t z : Nd} {p : List Int} (h : Fd t p z) {r : Nd} (hf : formB t = true) (hk : t.kind = 1) (hr : formB r = true) (hrk : r.kind = 1) : formB (putL t p r) = true ∧ (putL t p r).kind = 1 := by
  induction h with
  | nil t => rw [putL_nil']; exact ⟨hr, hrk⟩
  | @step k tx c ks i k2 tx2 c2 ks2 s z r' p hi hs hz ih =>
    obtain ⟨f1, f2⟩ := forms_mem (form_kids hf) (List.mem_of_getElem? hi)
    obtain ⟨g1, g2⟩ := forms_mem (form_kids f1) (List.mem_of_getElem? hs)
    have hk : k = 1 := hk
    subst hk
    have f3 : (k2 == 1) = false := by simpa [Nd.kind] using f2
    have hzk : z.kind = 1 := by
      rw [f3] at g2
      cases e : z.kind == 1 with
      | true => exact eq_of_beq e
      | false => rw [e] at g2; cases g2
    obtain ⟨i1, i2⟩ := ih g1 hzk
    rw [putL_step' hi hs]
    refine ⟨?_, rfl⟩
    have e1 := forms_set (y := putL z p r) hs (form_kids f1) (i2.trans hzk.symm) i1
    have f4 : formB (.mk k2 tx2 c2 (ks2.set s (putL z p r))) = true := by
      simp only [formB, Bool.and_eq_true, List.length_set] at f1 ⊢
      exact ⟨f1.1, e1⟩
    have e2 := forms_set (y := .mk k2 tx2 c2 (ks2.set s (putL z p r))) hi (form_kids hf) rfl f4
    simp only [formB, Bool.and_eq_true, List.length_set] at hf ⊢
    exact ⟨hf.1, e2⟩
theorem valid_parts {t : Nd} (h : validB t = true) : t.kind = 1 ∧ formB t = true ∧ t.cnt ≤ 1000 ∧ t.dep ≤ 24 := by
  unfold validB at h
  simp only [Bool.and_eq_true, decide_eq_true_eq] at h
  exact ⟨eq_of_beq h.1, h.2⟩
theorem valid_of {t : Nd} (h1 : t.kind = 1) (h2 : formB t = true) (h3 : t.cnt ≤ 1000) (h4 : t.dep ≤ 24) : validB t = true := by
  unfold validB
  simp only [Bool.and_eq_true, decide_eq_true_eq]
  exact ⟨by rw [h1]; rfl, h2, h3, h4⟩
theorem App.comm {t t1 u : Nd} {o1 o2 : Op8} (ht : t.cnt ≤ 300) (hn : Nd.cnts o2.nodes ≤ 99) (ha : Apart o1.2.1 o2.2.1) (h1 : App t o1 t1 0) (h2 : App t1 o2 u 0) : ∃ t2, App t o2 t2 0 ∧ App t2 o1 u 0 := by
  cases h1 with
  | chg h hf hr hc he => exact absurd rfl he
  | @ok r1 l1 hv hf1 hr1 hc1 hv1 =>
    cases h2 with
    | chg h hf hr hc he => exact absurd rfl he
    | @ok r2 l2 _ hf2 hr2 hc2 hv2 =>
      have hr2' : Fd t o2.2.1 r2 := by
        have := hr1.other (rowN l1) _ ha
        exact fd_of (this.symm.trans hr2.find)
      have hcomm := hr1.comm (rowN l1) o2.2.1 r2 (rowN l2) ha hr2'
      have hr12 : Fd (putL t o2.2.1 (rowN l2)) o1.2.1 r1 := hr2'.other_fd (rowN l2) ha.symm hr1
      obtain ⟨a1, a2, a3, a4⟩ := valid_parts hv
      obtain ⟨b1, b2, b3, b4⟩ := valid_parts hv2
      have hfr2 := (hr2.put (rowN l2)).form b2 b1
      have hfm := hr2'.put_form a2 a1 hfr2.1 hfr2.2
      have hcn : (putL t o2.2.1 (rowN l2)).cnt ≤ 1000 := by
        have c1 := hr2'.cnt (rowN l2)
        have c2 : (Nd.cnts l2 : Int) ≤ Nd.cnts r2.kids + Nd.cnts o2.nodes := by
          obtain ⟨k, row, a, m, nodes, slot, old, text⟩ := o2
          have := hc2.cnts hf2
          unfold plusI at this
          show (Nd.cnts l2 : Int) ≤ Nd.cnts r2.kids + Nd.cnts nodes
          split at this <;> omega
        have c3 := cnt_kids r2
        have c4 : (rowN l2).cnt = Nd.cnts l2 + 1 := cnt_kids _
        omega
      have hdp : (putL t o2.2.1 (rowN l2)).dep ≤ 24 := by
        have d1 := (hr2.put (rowN l2)).deep
        exact hr2'.put_dep (rowN l2) a4 (by omega)
      have hvm := valid_of hfm.2 hfm.1 hcn hdp
      refine ⟨_, .ok hv hf2 hr2' hc2 hvm, ?_⟩
      rw [hcomm]
      refine .ok hvm hf1 hr12 hc1 ?_
      rw [← hcomm]
      exact hv2
theorem Runs.two {t u : Nd} {o1 o2 : Op8} {e : Int} (h : Runs t [o1, o2] u e) : (e = 0 ∧ ∃ t1, App t o1 t1 0 ∧ App t1 o2 u 0) ∨ (e ≠ 0 ∧ u = zeroNd) := by
  cases h with
  | stop h he => exact .inr ⟨he, rfl⟩
  | next h hr =>
    cases hr with
    | stop h he => exact .inr ⟨he, rfl⟩
    | next h' hr' =>
      cases hr' with
      | nil => exact .inl ⟨rfl, _, h, h'⟩
theorem runs_comm {t u u' : Nd} {o1 o2 : Op8} {e e' : Int} (ht : t.cnt ≤ 300) (hn1 : Nd.cnts o1.nodes ≤ 99) (hn2 : Nd.cnts o2.nodes ≤ 99) (ha : Apart o1.2.1 o2.2.1) (h : RunsV t [o1, o2] u e) (h' : RunsV t [o2, o1] u' e') : (e = 0 ↔ e' = 0) ∧ u = u' := by
  cases h with
  | bad hv =>
    cases h' with
    | bad => exact ⟨Iff.rfl, rfl⟩
    | go hv' => rw [hv] at hv'; cases hv'
  | go hv h =>
    cases h' with
    | bad hv' => rw [hv] at hv'; cases hv'
    | go _ h' =>
      rcases h.two with ⟨rfl, t1, a1, a2⟩ | ⟨he, rfl⟩
      · obtain ⟨t2, b1, b2⟩ := a1.comm ht hn2 ha a2
        rcases h'.two with ⟨rfl, t2', c1, c2⟩ | ⟨he', rfl⟩
        · obtain ⟨rfl, _⟩ := b1.det c1
          obtain ⟨rfl, _⟩ := b2.det c2
          exact ⟨Iff.rfl, rfl⟩
        · exfalso
          cases h' with
          | stop g hg => exact hg (b1.det g).2.symm
          | next g hr =>
            obtain ⟨rfl, _⟩ := b1.det g
            cases hr with
            | stop g' hg' => exact hg' (b2.det g').2.symm
            | next g' hr' => cases hr'; exact he' rfl
      · rcases h'.two with ⟨rfl, t2', c1, c2⟩ | ⟨he', rfl⟩
        · exfalso
          obtain ⟨t2, b1, b2⟩ := c1.comm ht hn1 ha.symm c2
          cases h with
          | stop g hg => exact hg (b1.det g).2.symm
          | next g hr =>
            obtain ⟨rfl, _⟩ := b1.det g
            cases hr with
            | stop g' hg' => exact hg' (b2.det g').2.symm
            | next g' hr' => cases hr'; exact he rfl
        · exact ⟨⟨fun h => absurd h he, fun h => absurd h he'⟩, rfl⟩
end Go.Proofs.Ytfbggpmdmhgpfaa
namespace Go.Proofs.Ytfbggpmdmhgpfaa
open Go.Abs
theorem counts_loop (n : Nat) {nodes : List Nd} (hn : Nd.cnts nodes < n) (hb : Nd.cnts nodes ≤ 16777216) : ∀ (k i : Nat) (c : Nat), nodes.length - i < k → i ≤ nodes.length → c + Nd.cnts (nodes.drop i) ≤ 16777216 →
    m_l12_EditCounts_l1 n nodes k (i : Int) (c : Int) = some ((c + Nd.cnts (nodes.drop i) : Nat) : Int)
  | 0, i, c, h, _, _ => by omega
  | k + 1, i, c, h, hi, hc => by
    have hlen := Nd.cnts_len nodes
    unfold m_l12_EditCounts_l1
    by_cases hj : i < nodes.length
    · have hm := Nd.cnts_mem (List.getElem_mem hj)
      have hcnt := r09_Count_eq n nodes[i] (by omega) (by omega)
      rw [List.drop_eq_getElem_cons hj] at hc ⊢
      simp only [Nd.cnts] at hc ⊢
      rw [dec_t (Int.ofNat_lt.2 hj), cond_true, at_get hj]
      generalize nodes[i] = v at *
      have ih := counts_loop n hn hb k (i + 1) (c + v.cnt) (by omega) (by omega) (by omega)
      have e1 : IntKind.i64.wrap ((c : Int) + (v.cnt : Int)) = ((c + v.cnt : Nat) : Int) := by rw [wrap64_in (by omega) (by omega)]; omega
      obtain ⟨v1, v2, v3, v4⟩ := v
      simp only [Option.bind_some, hcnt, wi_succ (show i < 9223372036854775807 by omega), e1, ih]
      congr 2
      omega
    · rw [dec_f (by omega), List.drop_eq_nil_iff.2 (by omega)]
      simp only [cond_false, Nd.cnts, Nat.add_zero]
theorem EditCounts_eq (t : Nd) (o : Op8) (ht : t.w ≤ 1048576) (hb : Nd.ws o.nodes + o.text.length + o.row.length ≤ 1048576) : m_l12_EditCounts 300000000 t o = some true := by
  have hw := awake12_ok 300000000 (by decide)
  obtain ⟨y, f1, _⟩ := few12_eq 300000000 t [o] (by decide) (by simp) (by simp)
  obtain ⟨t', e, g1, g2, g3⟩ := both_eq 300000000 t o (by decide) (by omega) (by omega) (by omega) (by omega)
  have hw' := g3.w
  have c1 := Nd.cnt_w t'
  have c2 := Nd.cnt_w t
  have c3 := Nd.cnts_ws o.nodes
  have q1 := r09_Count_eq 300000000 t' (by simp only [Op8.text] at hb; omega) (by simp only [Op8.text] at hb; omega)
  have q2 := r09_Count_eq 300000000 t (by omega) (by omega)
  have hl := Nd.cnts_len o.nodes
  have hlp := counts_loop 300000000 (nodes := o.nodes) (by omega) (by omega) 300000000 0 0 (by omega) (by omega) (by simp only [List.drop_zero]; omega)
  rw [show ((0 : Nat) : Int) = 0 from rfl, List.drop_zero, Nat.zero_add] at hlp
  have hcb : t'.cnt ≤ 5000000 := by simp only [Op8.text] at hb; omega
  have hcb2 : t.cnt ≤ 5000000 := by omega
  have hcnt : e = 0 → (t'.cnt : Int) = t.cnt + plusI o.1 o.nodes := fun h => by subst h; exact g3.cnt
  generalize 300000000 = n at *
  obtain ⟨t1, t2, t3, t4⟩ := t
  obtain ⟨u1, u2, u3, u4⟩ := t'
  obtain ⟨k, row, a, m, nodes, slot, old, text⟩ := o
  simp only [Op8.nodes] at hlp hcnt c3 hl
  unfold m_l12_EditCounts
  simp only [hw, f1, Option.bind_some, Bool.not_true, cond_false]
  cases y with
  | false => rfl
  | true =>
    simp only [Bool.not_true, cond_false, g1, Option.bind_some]
    by_cases he : e = 0
    · have hc := hcnt he
      subst he
      unfold plusI at hc
      simp only [show ((0 : Int) != 0) = false from rfl, cond_false, hlp, Option.bind_some, q1, q2]
      by_cases k2 : k = 2
      · subst k2
        simp only [beq_self_eq_true, cond_true, Option.bind_some]
        rw [if_pos (.inl rfl)] at hc
        rw [wrap64_in (n := (0 : Int) - (Nd.cnts nodes : Int)) (by omega) (by omega), wrap64_in (by omega) (by omega), ← hc, beq_self_eq_true]
      · rw [ne_beq k2]
        simp only [cond_false, Option.bind_some]
        by_cases k4 : k = 4
        · subst k4
          simp only [beq_self_eq_true, cond_true, Option.bind_some]
          rw [if_pos (.inr rfl)] at hc
          rw [wrap64_in (n := (0 : Int) - (Nd.cnts nodes : Int)) (by omega) (by omega), wrap64_in (by omega) (by omega), ← hc, beq_self_eq_true]
        · rw [ne_beq k4]
          simp only [cond_false, Option.bind_some]
          rw [if_neg (fun h => h.elim k2 k4)] at hc
          rw [wrap64_in (by omega) (by omega), ← hc, beq_self_eq_true]
    · have hne : (e != 0) = true := bne_iff_ne.2 he
      simp only [hne, cond_true]
theorem EditElsewhere_eq (t : Nd) (o : Op8) (p : List Int) (ht : t.w ≤ 1048576) (hb : Nd.ws o.nodes + o.text.length + o.row.length ≤ 1048576) : m_l12_EditElsewhere 300000000 t o p = some true := by
  have hw := awake12_ok 300000000 (by decide)
  obtain ⟨y, f1, _⟩ := few12_eq 300000000 t [o] (by decide) (by simp) (by simp)
  obtain ⟨t', e, g1, g2, g3⟩ := both_eq 300000000 t o (by decide) (by omega) (by omega) (by omega) (by omega)
  have hw' := g3.w
  simp only [Op8.text] at hb
  have v1 := r09_Valid_eq 300000000 t (by omega) (by omega)
  have v2 := r09_Valid_eq 300000000 t' (by omega) (by omega)
  have r1 : ¬ 60 < (p.length : Int) → m_r09_Row 300000000 t p = some (rowS t p) := fun h => r09_Row_eq 300000000 t p (by omega) v1
  have r2 : ¬ 60 < (p.length : Int) → m_r09_Row 300000000 t' p = some (rowS t' p) := fun h => r09_Row_eq 300000000 t' p (by omega) v2
  have b1 := begins12_eq 300000000 p o.row (by omega) (by omega)
  have b2 : ¬ 60 < (p.length : Int) → m_l12_begins 300000000 o.row p = some (p.isPrefixOf o.row) := fun h => begins12_eq 300000000 o.row p (by omega) (by omega)
  have hel : e = 0 → Apart o.row p → rowS t' p = rowS t p := fun h ha => by subst h; exact g3.elsewhere ha
  have hq : m_r09_Equal 300000000 (rowS t p).1 (rowS t p).1 = some true := equal_self _ _ (by have := rowS_cnt t p; have := Nd.cnt_w t; omega) (by have := rowS_cnt t p; have := Nd.cnt_w t; omega)
  generalize 300000000 = n at *
  generalize rowS t p = R at *
  generalize rowS t' p = R' at *
  obtain ⟨t1, t2, t3, t4⟩ := t
  obtain ⟨u1, u2, u3, u4⟩ := t'
  obtain ⟨k, row, a, m, nodes, slot, old, text⟩ := o
  simp only [Op8.row] at hel b1 b2
  unfold m_l12_EditElsewhere
  simp only [hw, f1, Option.bind_some, Bool.not_true, cond_false]
  cases y with
  | false => rfl
  | true =>
    simp only [Bool.not_true, cond_false]
    by_cases hp : 60 < (p.length : Int)
    · rw [dec_t hp]; rfl
    · rw [dec_f hp]
      simp only [cond_false, b1, b2 hp, Option.bind_some]
      cases c1 : row.isPrefixOf p with
      | true => rfl
      | false =>
        cases c2 : p.isPrefixOf row with
        | true => rfl
        | false =>
          simp only [cond_false, Option.bind_some, g1]
          by_cases he : e = 0
          · have hr := hel he ⟨fun h => (by rw [List.isPrefixOf_iff_prefix.2 h] at c1; cases c1), fun h => (by rw [List.isPrefixOf_iff_prefix.2 h] at c2; cases c2)⟩
            subst he
            subst hr
            obtain ⟨⟨s1, s2, s3, s4⟩, s5⟩ := R'
            simp only [show ((0 : Int) != 0) = false from rfl, cond_false, r1 hp, r2 hp, Option.bind_some, beq_self_eq_true, cond_true, hq]
          · have hne : (e != 0) = true := bne_iff_ne.2 he
            simp only [hne, cond_true]
theorem nodes_loop (n : Nat) {l : List Nd} (hb : Nd.cnts l ≤ 16777216) : ∀ (k i : Nat), l.length - i < k → i ≤ l.length → m_deep_Nodes_l1 l k (i : Int) (l.take i) = some l
  | 0, i, h, _ => by omega
  | k + 1, i, h, hi => by
    have hlen := Nd.cnts_len l
    unfold m_deep_Nodes_l1
    by_cases hj : i < l.length
    · have hm := Nd.cnts_mem (List.getElem_mem hj)
      have hd : m_deep_Node l[i] = some l[i] := deep_eq (by omega)
      have ht : l.take i ++ [l[i]] = l.take (i + 1) := by rw [List.take_append_getElem hj]
      rw [dec_t (Int.ofNat_lt.2 hj), cond_true, at_get hj]
      have ih := nodes_loop n hb k (i + 1) (by omega) (by omega)
      rw [← ht] at ih
      generalize l[i] = v at *
      obtain ⟨v1, v2, v3, v4⟩ := v
      simp only [Option.bind_some, hd]
      rw [req_t (by simp only [List.length_take, List.length_cons, List.length_nil]; omega), wi_succ (show i < 9223372036854775807 by omega), ih]
    · rw [dec_f (by omega), cond_false, List.take_of_length_le (by omega)]
theorem Invert_eq (n : Nat) (o : Op8) (hn : Nd.cnts o.nodes < n) (hb : Nd.cnts o.nodes ≤ 16777216) (hr : o.row.length ≤ 16777216) : m_edit_Invert n o = some (invO o) := by
  obtain ⟨k, row, a, m, nodes, slot, old, text⟩ := o
  simp only [Op8.nodes, Op8.row] at hn hb hr
  have hlen := Nd.cnts_len nodes
  have h1 : m_slices_Clone_sint row = some row := req_t (by omega)
  have h2 := nodes_loop n hb n 0 (by omega) (by omega)
  rw [show ((0 : Nat) : Int) = 0 from rfl, List.take_zero] at h2
  unfold m_edit_Invert m_deep_Op m_deep_Ints m_deep_Nodes
  simp only [h1, h2, Option.bind_some]
  unfold invO
  dsimp only
  by_cases k1 : k = 1
  · subst k1; rfl
  by_cases k2 : k = 2
  · subst k2; rfl
  by_cases k3 : k = 3
  · subst k3; rfl
  by_cases k4 : k = 4
  · subst k4; rfl
  by_cases k5 : k = 5
  · subst k5; rfl
  rw [ne_beq k1, ne_beq k2, ne_beq k3, ne_beq k4, ne_beq k5, if_neg k1, if_neg k2, if_neg k3, if_neg k4, if_neg k5, if_neg k5]
  rfl
theorem zero_cnt1 : zeroNd.cnt = 1 := rfl
theorem EditUndo_eq (t : Nd) (o : Op8) (ht : t.w ≤ 1048576) (hb : Nd.ws o.nodes + o.text.length + o.row.length ≤ 1048576) (hold : o.2.2.2.2.2.2.1.length ≤ 1048576) : m_l12_EditUndo 300000000 t o = some true := by
  have hw := awake12_ok 300000000 (by decide)
  obtain ⟨y, f1, _⟩ := few12_eq 300000000 t [o] (by decide) (by simp) (by simp)
  obtain ⟨t', e, g1, g2, g3⟩ := both_eq 300000000 t o (by decide) (by omega) (by omega) (by omega) (by omega)
  have hw' := g3.w
  simp only [Op8.text] at hb
  have c1 := Nd.cnts_ws o.nodes
  have hinv := Invert_eq 300000000 o (by omega) (by omega) (by omega)
  have hio : (invO o).2.2.2.2.2.2.2.length ≤ 2000000 := by
    obtain ⟨k, row, a, m, nodes, slot, old, text⟩ := o
    unfold invO
    dsimp only at hold hb ⊢
    split <;> omega
  have hin : (invO o).nodes = o.nodes := rfl
  obtain ⟨t'', e', k1, k2⟩ := edit_Apply_eq 300000000 t' (invO o) (by decide) (by omega) (by rw [hin]; omega) hio
  have hback : e = 0 → t'' = t ∧ e' = 0 ∧ validB t' = true := fun h => by
    subst h
    obtain ⟨j1, j2⟩ := g3.inv
    obtain ⟨rfl, rfl⟩ := k2.det j1
    exact ⟨rfl, rfl, j2⟩
  have hz : e ≠ 0 → t' = zeroNd := fun h => by cases g3 <;> first | rfl | exact absurd rfl h
  have v2 := r09_Valid_eq 300000000 t' (by omega) (by omega)
  have q1 := equal_self 300000000 t (by have := Nd.cnt_w t; omega) (by have := Nd.cnt_w t; omega)
  have q2 := equal_self 300000000 zeroNd (by rw [zero_cnt1]; decide) (by rw [zero_cnt1]; decide)
  generalize 300000000 = n at *
  obtain ⟨k, row, a, m, nodes, slot, old, text⟩ := o
  by_cases he : e = 0
  · obtain ⟨rfl, rfl, hv⟩ := hback he
    subst he
    rw [hv] at v2
    generalize invO (k, row, a, m, nodes, slot, old, text) = o' at *
    obtain ⟨k', row', a', m', nodes', slot', old', text'⟩ := o'
    obtain ⟨t1, t2, t3, t4⟩ := t''
    obtain ⟨u1, u2, u3, u4⟩ := t'
    unfold m_l12_EditUndo
    simp only [hw, f1, Option.bind_some, Bool.not_true, cond_false]
    cases y with
    | false => rfl
    | true => simp only [Bool.not_true, cond_false, g1, Option.bind_some, show ((0 : Int) != 0) = false from rfl, hinv, k1, beq_self_eq_true, cond_true, q1, v2]
  · have hne : (e != 0) = true := bne_iff_ne.2 he
    have hz := hz he
    subst hz
    obtain ⟨t1, t2, t3, t4⟩ := t
    unfold zeroNd at g1 q2
    unfold m_l12_EditUndo
    simp only [hw, f1, Option.bind_some, Bool.not_true, cond_false]
    cases y with
    | false => rfl
    | true => simp only [Bool.not_true, cond_false, g1, Option.bind_some, hne, cond_true, q2]
theorem EditCommutes_eq (t : Nd) (o1 o2 : Op8) (ht : t.w ≤ 1048576) (h1 : Nd.ws o1.nodes + o1.text.length + o1.row.length ≤ 1048576) (h2 : Nd.ws o2.nodes + o2.text.length + o2.row.length ≤ 1048576) : m_l12_EditCommutes 300000000 t o1 o2 = some true := by
  have hw := awake12_ok 300000000 (by decide)
  obtain ⟨y, f1, f2⟩ := few12_eq 300000000 t [o1, o2] (by decide) (by simp) (by simp)
  have b1 := begins12_eq 300000000 o1.row o2.row (by omega) (by omega)
  have b2 := begins12_eq 300000000 o2.row o1.row (by omega) (by omega)
  obtain ⟨u, i, e, g1, _, g2, g3⟩ := all_eq 300000000 t [o1, o2] (by decide) ht (fun o ho => by
    rcases List.mem_cons.1 ho with rfl | ho
    · exact h1
    · rw [List.mem_singleton.1 ho]; exact h2) (by simp)
  obtain ⟨u', i', e', k1, _, k2, k3⟩ := all_eq 300000000 t [o2, o1] (by decide) ht (fun o ho => by
    rcases List.mem_cons.1 ho with rfl | ho
    · exact h2
    · rw [List.mem_singleton.1 ho]; exact h1) (by simp)
  have q := equal_self 300000000 u (by have := Nd.cnt_w u; omega) (by have := Nd.cnt_w u; omega)
  have hcom : y = true → Apart o1.row o2.row → (e = 0 ↔ e' = 0) ∧ u = u' := fun hy ha => by
    obtain ⟨j1, j2, _⟩ := f2 hy
    exact runs_comm j1 (j2 o1 (by simp)).1 (j2 o2 (by simp)).1 ha g2 k2
  generalize 300000000 = n at *
  obtain ⟨t1, t2, t3, t4⟩ := t
  obtain ⟨k1', row1, a1, m1, nodes1, slot1, old1, text1⟩ := o1
  obtain ⟨k2', row2, a2, m2, nodes2, slot2, old2, text2⟩ := o2
  simp only [Op8.row] at b1 b2 hcom
  unfold m_l12_EditCommutes
  simp only [hw, f1, Option.bind_some, Bool.not_true, cond_false]
  cases y with
  | false => rfl
  | true =>
    simp only [Bool.not_true, cond_false, b1, b2, Option.bind_some]
    cases c1 : row2.isPrefixOf row1 with
    | true => rfl
    | false =>
      cases c2 : row1.isPrefixOf row2 with
      | true => rfl
      | false =>
        obtain ⟨x1, x2⟩ := hcom rfl ⟨fun h => (by rw [List.isPrefixOf_iff_prefix.2 h] at c2; cases c2), fun h => (by rw [List.isPrefixOf_iff_prefix.2 h] at c1; cases c1)⟩
        subst x2
        obtain ⟨u1, u2, u3, u4⟩ := u
        have hb : ((e == 0) == (e' == 0)) = true := by
          have : (e == 0) = (e' == 0) := by
            rw [Bool.eq_iff_iff, beq_iff_eq, beq_iff_eq]
            exact x1
          rw [this]; exact beq_self_eq_true _
        simp only [cond_false, Option.bind_some, g1, k1, hb, cond_true, q]
end Go.Proofs.Ytfbggpmdmhgpfaa
