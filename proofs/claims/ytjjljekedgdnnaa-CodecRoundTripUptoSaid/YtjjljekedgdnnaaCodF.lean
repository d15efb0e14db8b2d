/-
  THE CODEC, PART F: plain facts of the models: encodings, valid values, depths; the law of encodings.
-/
import Derived.Test.YtjjljekedgdnnaaCodE
set_option linter.unusedVariables false
set_option linter.unusedSimpArgs false
namespace Go.Proofs.Ytjjljekedgdnnaa
open Go.Abs

mutual
def CV.code : CV → List UInt8
  | .mk k i t l => (CV.mk k i t l).head ++ t ++ CV.codes l
def CV.codes : List CV → List UInt8
  | [] => []
  | v :: vs => v.code ++ CV.codes vs
end
def CV.own (k i : Int) (t : List UInt8) (l : List CV) : Bool := (k == 1 && t == [] && l.isEmpty) || (k == 2 && i == 0 && l.isEmpty) || (k == 3 && i == 0 && t == [])
mutual
def CV.proper : CV → Bool
  | .mk k i t l => CV.own k i t l && CV.propers l
def CV.propers : List CV → Bool
  | [] => true
  | v :: vs => v.proper && CV.propers vs
end
mutual
def CV.depth : CV → Nat
  | .mk k i t l => if k = 3 then CV.depths l + 1 else 1
def CV.depths : List CV → Nat
  | [] => 0
  | v :: vs => max v.depth (CV.depths vs)
end
mutual
theorem CV.depth_w : ∀ (v : CV), v.depth ≤ v.w
  | .mk k i t l => by
    have := CV.depths_w l
    simp only [CV.depth, CV.w]; split <;> omega
theorem CV.depths_w : ∀ (l : List CV), CV.depths l ≤ CV.ws l
  | [] => Nat.le_refl _
  | v :: vs => by
    have h1 := CV.depth_w v
    have h2 := CV.depths_w vs
    simp only [CV.depths, CV.ws]; omega
end
theorem CV.depth_pos (v : CV) : 1 ≤ v.depth := by cases v; simp only [CV.depth]; split <;> omega
theorem CV.propers_mem : ∀ {l : List CV} {v : CV}, CV.propers l = true → v ∈ l → v.proper = true
  | u :: l, v, h, hm => by
    simp only [CV.propers, Bool.and_eq_true] at h
    rcases List.mem_cons.1 hm with rfl | hm
    · exact h.1
    · exact CV.propers_mem h.2 hm
theorem proper_kind {k i : Int} {t : List UInt8} {l : List CV} (h : (CV.mk k i t l).proper = true) : kind3 k := by
  simp only [CV.proper, CV.own, Bool.and_eq_true, Bool.or_eq_true, beq_iff_eq] at h
  rcases h.1 with (⟨⟨h, _⟩, _⟩ | ⟨⟨h, _⟩, _⟩) | ⟨⟨h, _⟩, _⟩
  · exact .inl h
  · exact .inr (.inl h)
  · exact .inr (.inr h)
mutual
theorem CV.code_len : ∀ (v : CV), v.rng → v.w ≤ 1048576 → v.code.length ≤ 10 * v.w
  | .mk k i t l, hr, hw => by
    have h1 := CV.head_len (.mk k i t l) hr hw
    have h2 := CV.codes_len l hr.2.2 (by simp only [CV.w] at hw; omega)
    simp only [CV.code, CV.w, List.length_append]; omega
theorem CV.codes_len : ∀ (l : List CV), CV.rngs l → CV.ws l ≤ 1048576 → (CV.codes l).length ≤ 10 * CV.ws l
  | [], _, _ => by simp [CV.codes]
  | v :: vs, hr, hw => by
    simp only [CV.ws] at hw
    have h1 := CV.code_len v hr.1 (by omega)
    have h2 := CV.codes_len vs hr.2 (by omega)
    simp only [CV.codes, CV.ws, List.length_append]; omega
end

/- the program's encoder, which stops early -/
def Enc (b b' c : List UInt8) : Prop := (b.length + c.length ≤ 1048576 → b' = b ++ c) ∧ (1048576 < b.length + c.length → 1048576 < b'.length) ∧ b'.length ≤ b.length + c.length
theorem m30_l1_enc {F : List UInt8 → CV → Option (List UInt8)} {vs : List CV} (hl : vs.length ≤ 1048576) : ∀ (r : List CV) (i k : Nat) (b : List UInt8), vs.drop i = r → r.length < k → b.length + (CV.codes r).length ≤ 4000000000 →
    (∀ v ∈ r, ∀ b, b.length ≤ 1048576 → ∃ b', F b v = some b' ∧ Enc b b' v.code) → ∃ z b', m30_l1 F vs k i b = some z ∧ (z = .ret b' ∨ z = .go b') ∧ Enc b b' (CV.codes r)
  | _, _, 0, _, _, h, _, _ => by omega
  | [], i, k + 1, b, h, _, _, _ => ⟨.go b, b, by rw [m30_l1, nil_drop h]; rfl, .inr rfl, by simp [CV.codes], by simp [CV.codes], by simp [CV.codes]⟩
  | ⟨a, b0, c, d⟩ :: r, i, k + 1, b, h, hk, hb, hF => by
    have hi := drop_lt h
    rw [m30_l1, lt_drop h, cond_true]
    by_cases hm : 1048576 < b.length
    · rw [decide_eq_true (by omega : (1048576 : Int) < b.length)]
      exact ⟨.ret b, b, rfl, .inl rfl, fun h => by omega, fun _ => hm, by omega⟩
    · rw [decide_eq_false (by omega : ¬ (1048576 : Int) < b.length), cond_false, at_drop h]
      simp only [Option.bind_some]
      obtain ⟨b1, h1, e1, e2, e3⟩ := hF ⟨a, b0, c, d⟩ List.mem_cons_self b (by omega)
      simp only [CV.codes, List.length_append] at hb
      obtain ⟨z, b', g1, g2, g3, g4, g5⟩ := m30_l1_enc hl r (i + 1) k b1 (drop_on h) (by simpa using hk) (by omega) (fun v hv => hF v (List.mem_cons_of_mem _ hv))
      refine ⟨z, b', by rw [h1, Option.bind_some, wi_succ (by omega)]; exact g1, g2, fun hs => ?_, fun hs => ?_, ?_⟩
      · simp only [CV.codes, List.length_append] at hs
        have := e1 (by omega)
        subst this
        rw [g3 (by rw [List.length_append]; omega)]
        simp [CV.codes]
      · simp only [CV.codes, List.length_append] at hs
        by_cases hx : b.length + (CV.mk a b0 c d).code.length ≤ 1048576
        · have := e1 hx
          subst this
          exact g4 (by rw [List.length_append]; omega)
        · have := e2 (by omega)
          exact g4 (by omega)
      · simp only [CV.codes, List.length_append]; omega
theorem m30_enc : ∀ (n : Nat) (v : CV) (b : List UInt8), v.w + 20 < n → v.w ≤ 1048576 → v.rng → v.proper = true → b.length ≤ 1048576 → ∃ b', m30 n b v = some b' ∧ Enc b b' v.code
  | 0, _, _, h, _, _, _, _ => by omega
  | n + 1, ⟨a, i, t, d⟩, b, hn, hw, hr, hp, hb => by
    have hlc := CV.code_len _ hr hw
    have hh := m35_eq (n := n) (b := b) (v := ⟨a, i, t, d⟩) (by omega) hr hw (proper_kind hp) (by omega)
    have h9 := CV.head_len _ hr hw
    have hw' := hw
    simp only [CV.w] at hw hn
    have hl := CV.ws_len d
    simp only [CV.code, List.length_append, CV.w] at hlc
    have hpd : CV.propers d = true := by simp only [CV.proper, Bool.and_eq_true] at hp; exact hp.2
    rw [m30, hh, Option.bind_some, decide_eq_false (by omega : ¬ (1048576 : Int) < t.length), cond_false, req_t (by rw [List.length_append]; omega)]
    obtain ⟨z, b', g1, g2, g3, g4, g5⟩ := m30_l1_enc (F := m30 n) (vs := d) (by omega) d 0 n (b ++ (CV.mk a i t d).head ++ t) rfl (by omega) (by rw [List.length_append, List.length_append]; omega)
      fun v hv b hb => m30_enc n v b (by have := CV.w_mem hv; omega) (by have := CV.w_mem hv; omega) (CV.rng_mem hr.2.2 hv) (CV.propers_mem hpd hv) hb
    refine ⟨b', ?_, fun hs => ?_, fun hs => ?_, ?_⟩
    · have : m30_l1 (m30 n) d n 0 (b ++ (CV.mk a i t d).head ++ t) = some z := g1
      rw [this, Option.bind_some]
      rcases g2 with rfl | rfl <;> rfl
    · simp only [CV.code, List.length_append] at hs
      rw [g3 (by simp only [List.length_append]; omega)]
      simp [CV.code]
    · simp only [CV.code, List.length_append] at hs
      exact g4 (by simp only [List.length_append]; omega)
    · simp only [CV.code, List.length_append] at g5 ⊢
      omega

/- the reference's encoder -/
theorem m21_l1_eq {F : CV → Option (List UInt8)} {vs : List CV} (hl : vs.length ≤ 1048576) : ∀ (r : List CV) (i k : Nat) (b : List UInt8), vs.drop i = r → r.length < k → b.length + (CV.codes r).length ≤ 4000000000 →
    (∀ v ∈ r, F v = some v.code) → m21_l1 F vs k i b = some (b ++ CV.codes r)
  | _, _, 0, _, _, h, _, _ => by omega
  | [], i, k + 1, b, h, _, _, _ => by rw [m21_l1, nil_drop h, CV.codes]; simp
  | ⟨a, b0, c, d⟩ :: r, i, k + 1, b, h, hk, hb, hF => by
    have hi := drop_lt h
    simp only [CV.codes, List.length_append] at hb
    rw [m21_l1, lt_drop h, cond_true, at_drop h]
    simp only [Option.bind_some, hF ⟨a, b0, c, d⟩ List.mem_cons_self]
    rw [req_t (by omega), wi_succ (by omega), m21_l1_eq hl r (i + 1) k _ (drop_on h) (by simpa using hk) (by rw [List.length_append]; omega) (fun v hv => hF v (List.mem_cons_of_mem _ hv))]
    simp [CV.codes]
theorem m21_eq : ∀ (n : Nat) (v : CV), v.w + 20 < n → v.w ≤ 1048576 → v.rng → v.proper = true → m21 n v = some v.code
  | 0, _, h, _, _, _ => by omega
  | n + 1, ⟨a, i, t, d⟩, hn, hw, hr, hp => by
    have hlc := CV.code_len _ hr hw
    have hh := m33_eq (n := n) (v := ⟨a, i, t, d⟩) (by omega) hr hw (proper_kind hp)
    simp only [CV.w] at hw hn
    have hl := CV.ws_len d
    simp only [CV.code, List.length_append, CV.w] at hlc
    have hpd : CV.propers d = true := by simp only [CV.proper, Bool.and_eq_true] at hp; exact hp.2
    rw [m21, hh, Option.bind_some, req_t (by omega)]
    have : m21_l1 (m21 n) d n 0 ((CV.mk a i t d).head ++ t) = some ((CV.mk a i t d).head ++ t ++ CV.codes d) := m21_l1_eq (by omega) d 0 n _ rfl (by omega) (by rw [List.length_append]; omega)
      fun v hv => m21_eq n v (by have := CV.w_mem hv; omega) (by have := CV.w_mem hv; omega) (CV.rng_mem hr.2.2 hv) (CV.propers_mem hpd hv)
    rw [this]; rfl

/- valid values -/
def okAt (v : CV) (e : Int) : Bool := v.proper && decide ((v.depth : Int) + e ≤ 65)
def okAll (l : List CV) (e : Int) : Bool := CV.propers l && decide ((CV.depths l : Int) + e ≤ 65)
theorem okAll_cons (v : CV) (l : List CV) (e : Int) : okAll (v :: l) e = (okAt v e && okAll l e) := by
  have : decide ((max v.depth (CV.depths l) : Nat) + e ≤ 65) = (decide ((v.depth : Int) + e ≤ 65) && decide ((CV.depths l : Int) + e ≤ 65)) := by
    rw [← Bool.decide_and]; congr 1; apply propext; omega
  simp only [okAll, okAt, CV.propers, CV.depths]
  cases v.proper <;> cases CV.propers l <;> simp <;> exact this
theorem m31_l1_eq {F : CV → Int → Option Bool} {vs : List CV} {e : Int} (he : 0 ≤ e ∧ e ≤ 64) (hl : vs.length ≤ 1048576) : ∀ (r : List CV) (i k : Nat), vs.drop i = r → r.length < k → (∀ v ∈ r, F v (e + 1) = some (okAt v (e + 1))) →
    m31_l1 F vs e k i = some (bif okAll r (e + 1) then .go () else .ret false)
  | _, _, 0, _, h, _ => by omega
  | [], i, k + 1, h, _, _ => by
    rw [m31_l1, nil_drop h, cond_false]
    have : okAll [] (e + 1) = true := by simp [okAll, CV.propers, CV.depths]; omega
    rw [this]; rfl
  | ⟨a, b, c, d⟩ :: r, i, k + 1, h, hk, hF => by
    have hi := drop_lt h
    rw [m31_l1, lt_drop h, cond_true, at_drop h, wrap64_in (n := e + 1) (by omega) (by omega)]
    simp only [Option.bind_some, hF ⟨a, b, c, d⟩ List.mem_cons_self]
    rw [okAll_cons]
    cases okAt ⟨a, b, c, d⟩ (e + 1) with
    | false => rfl
    | true =>
      rw [wi_succ (by omega), m31_l1_eq he hl r (i + 1) k (drop_on h) (by simpa using hk) (fun v hv => hF v (List.mem_cons_of_mem _ hv))]
      rfl
theorem m31_eq : ∀ (n : Nat) (v : CV) (e : Int), v.w < n → v.w ≤ 1048576 → 1 ≤ e → e ≤ 65 → m31 n v e = some (okAt v e)
  | 0, _, _, h, _, _, _ => by omega
  | n + 1, ⟨k, i, t, l⟩, e, h, hb, he, he' => by
    simp only [CV.w] at h hb
    have hl := CV.ws_len l
    rw [m31]
    by_cases h64 : 64 < e
    · rw [decide_eq_true h64, cond_true]
      have hp := CV.depth_pos ⟨k, i, t, l⟩
      have : okAt ⟨k, i, t, l⟩ e = false := by
        simp only [okAt, Bool.and_eq_false_iff, decide_eq_false_iff_not]; right; omega
      rw [this]
    · rw [decide_eq_false h64, cond_false]
      by_cases h1 : k = 1
      · subst h1
        simp only [okAt, CV.proper, CV.own, CV.depth]
        cases l with
        | nil => cases ht : t == [] <;> simp [CV.propers, ht] <;> omega
        | cons v l =>
          have : ((((v :: l).length : Nat) : Int) == 0) = false := by rw [beq_eq_false_iff_ne]; simp; omega
          cases ht : t == [] <;> simp [this, ht] <;> omega
      · have e1 : (k == 1) = false := by simpa using h1
        rw [e1, cond_false]
        by_cases h2 : k = 2
        · subst h2
          simp only [okAt, CV.proper, CV.own, CV.depth]
          cases l with
          | nil => cases ht : i == 0 <;> simp [CV.propers, ht] <;> omega
          | cons v l =>
            have : ((((v :: l).length : Nat) : Int) == 0) = false := by rw [beq_eq_false_iff_ne]; simp; omega
            cases ht : i == 0 <;> simp [this, ht] <;> omega
        · have e2 : (k == 2) = false := by simpa using h2
          rw [e2, cond_false]
          by_cases h3 : k = 3
          · subst h3
            have key : m31_l1 (m31 n) l e n 0 = some (bif okAll l (e + 1) then .go () else .ret false) := m31_l1_eq (by omega) (by omega) l 0 n rfl (by omega) fun v hv => m31_eq n v (e + 1) (by have := CV.w_mem hv; omega) (by have := CV.w_mem hv; omega) (by omega) (by omega)
            have hdep : (CV.mk 3 i t l).depth = CV.depths l + 1 := by simp [CV.depth]
            have hd : decide (((CV.depths l + 1 : Nat) : Int) + e ≤ 65) = decide ((CV.depths l : Int) + (e + 1) ≤ 65) := by
              congr 1; apply propext; omega
            have hok : okAt (CV.mk 3 i t l) e = ((i == 0 && t == []) && okAll l (e + 1)) := by
              simp only [okAt, hdep, hd, okAll, CV.proper, CV.own]
              cases i == 0 <;> cases t == [] <;> cases CV.propers l <;> cases decide ((CV.depths l : Int) + (e + 1) ≤ 65) <;> rfl
            rw [hok, key, show ((3 : Int) == 3) = true from rfl, cond_true]
            simp only [bne]
            cases i == 0 with
            | false => rfl
            | true =>
              cases t == [] with
              | false => rfl
              | true => cases okAll l (e + 1) <;> rfl
          · have e3 : (k == 3) = false := by simpa using h3
            rw [e3, cond_false]
            simp [okAt, CV.proper, CV.own, e1, e2, e3]
theorem m17_eq {n : Nat} {v : CV} (h : v.w < n) (hb : v.w ≤ 1048576) : m17 n v = some (okAt v 1) := by
  have := m31_eq n v 1 h hb (by omega) (by omega)
  obtain ⟨k, i, t, l⟩ := v
  rw [m17, this]; rfl

theorem m32_l1_eq {F : CV → Option Bool} {vs : List CV} (hl : vs.length ≤ 1048576) : ∀ (r : List CV) (i k : Nat), vs.drop i = r → r.length < k → (∀ v ∈ r, F v = some v.proper) → m32_l1 F vs k i = some (bif CV.propers r then .go () else .ret false)
  | _, _, 0, _, h, _ => by omega
  | [], i, k + 1, h, _, _ => by rw [m32_l1, nil_drop h]; rfl
  | ⟨a, b, c, d⟩ :: r, i, k + 1, h, hk, hF => by
    have hi := drop_lt h
    rw [m32_l1, lt_drop h, cond_true, at_drop h]
    simp only [Option.bind_some, hF ⟨a, b, c, d⟩ List.mem_cons_self, CV.propers]
    cases (CV.mk a b c d).proper with
    | false => rfl
    | true =>
      rw [wi_succ (by omega), m32_l1_eq hl r (i + 1) k (drop_on h) (by simpa using hk) (fun v hv => hF v (List.mem_cons_of_mem _ hv))]
      rfl
theorem m32_eq : ∀ (n : Nat) (v : CV), v.w < n → v.w ≤ 1048576 → m32 n v = some v.proper
  | 0, _, h, _ => by omega
  | n + 1, ⟨k, i, t, l⟩, h, hb => by
    simp only [CV.w] at h hb
    have hl := CV.ws_len l
    have key : m32_l1 (m32 n) l n 0 = some (bif CV.propers l then .go () else .ret false) := m32_l1_eq (by omega) l 0 n rfl (by omega) fun v hv => m32_eq n v (by have := CV.w_mem hv; omega) (by have := CV.w_mem hv; omega)
    have hlen : decide (0 < (l.length : Int)) = !l.isEmpty := by cases l <;> simp <;> omega
    rw [m32, key, hlen]
    simp only [CV.proper, CV.own, bne]
    by_cases h1 : k < 1
    · have e1 : (k == 1) = false := by rw [beq_eq_false_iff_ne]; omega
      have e2 : (k == 2) = false := by rw [beq_eq_false_iff_ne]; omega
      have e3 : (k == 3) = false := by rw [beq_eq_false_iff_ne]; omega
      simp [h1, e1, e2, e3]
    · by_cases h3 : 3 < k
      · have e1 : (k == 1) = false := by rw [beq_eq_false_iff_ne]; omega
        have e2 : (k == 2) = false := by rw [beq_eq_false_iff_ne]; omega
        have e3 : (k == 3) = false := by rw [beq_eq_false_iff_ne]; omega
        simp [h1, h3, e1, e2, e3]
      · rw [decide_eq_false h1, decide_eq_false h3]
        have : k = 1 ∨ k = 2 ∨ k = 3 := by omega
        rcases this with rfl | rfl | rfl
        · cases t == [] <;> cases l.isEmpty <;> cases CV.propers l <;> rfl
        · cases i == 0 <;> cases t == [] <;> cases l.isEmpty <;> cases CV.propers l <;> rfl
        · cases i == 0 <;> cases t == [] <;> cases l.isEmpty <;> cases CV.propers l <;> rfl
theorem m20_l1_eq {F : CV → Option Int} {vs : List CV} (hl : vs.length ≤ 1048576) : ∀ (r : List CV) (i k : Nat) (a : Nat), vs.drop i = r → r.length < k → (∀ v ∈ r, F v = some (v.depth : Int)) → m20_l1 F vs k a i = some ((max a (CV.depths r) : Nat) : Int)
  | _, _, 0, _, _, h, _ => by omega
  | [], i, k + 1, a, h, _, _ => by rw [m20_l1, nil_drop h]; simp [CV.depths]
  | ⟨a0, b, c, d⟩ :: r, i, k + 1, a, h, hk, hF => by
    have hi := drop_lt h
    rw [m20_l1, lt_drop h, cond_true, at_drop h]
    simp only [Option.bind_some, hF ⟨a0, b, c, d⟩ List.mem_cons_self, CV.depths]
    have : (if (a : Int) < ((CV.mk a0 b c d).depth : Int) then ((CV.mk a0 b c d).depth : Int) else (a : Int)) = ((max a (CV.mk a0 b c d).depth : Nat) : Int) := by split <;> omega
    rw [this, wi_succ (by omega), m20_l1_eq hl r (i + 1) k _ (drop_on h) (by simpa using hk) (fun v hv => hF v (List.mem_cons_of_mem _ hv))]
    congr 2 <;> omega
theorem m20_eq : ∀ (n : Nat) (v : CV), v.w < n → v.w ≤ 1048576 → m20 n v = some (v.depth : Int)
  | 0, _, h, _ => by omega
  | n + 1, ⟨k, i, t, l⟩, h, hb => by
    simp only [CV.w] at h hb
    have hl := CV.ws_len l
    have hd := CV.depths_w l
    have key : m20_l1 (m20 n) l n 0 0 = some ((max 0 (CV.depths l) : Nat) : Int) := m20_l1_eq (by omega) l 0 n 0 rfl (by omega) fun v hv => m20_eq n v (by have := CV.w_mem hv; omega) (by have := CV.w_mem hv; omega)
    rw [m20, CV.depth]
    by_cases h3 : k = 3
    · subst h3
      rw [if_pos rfl, show ((3 : Int) == 3) = true from rfl, cond_true, key, Option.bind_some, Option.bind_some, wrap64_in (by omega) (by omega)]
      congr 1 <;> omega
    · have e3 : (k == 3) = false := by simpa using h3
      rw [if_neg h3, e3]; rfl
theorem m18_eq {n : Nat} {v : CV} (h : v.w < n) (hb : v.w ≤ 1048576) : m18 n v = some (okAt v 1) := by
  have h1 := m32_eq n v h hb
  have h2 := m20_eq n v h hb
  obtain ⟨k, i, t, l⟩ := v
  rw [m18, h1, h2]
  have : decide (((CV.mk k i t l).depth : Int) ≤ 64) = decide (((CV.mk k i t l).depth : Int) + 1 ≤ 65) := by congr 1; apply propext; omega
  simp only [Option.bind_some, okAt, this]
  cases (CV.mk k i t l).proper <;> rfl

/- the program's depth: a list of what is left -/
def mxl : List (CV × Int) → Int → Int
  | [], m => m
  | p :: l, m => max ((p.1.depth : Int) + p.2 - 1) (mxl l m)
theorem mxl_append : ∀ (a b : List (CV × Int)) (m : Int), mxl (a ++ b) m = mxl a (mxl b m)
  | [], b, m => rfl
  | p :: a, b, m => by simp only [List.cons_append, mxl, mxl_append a b m]
theorem mxl_kids : ∀ (l : List CV) (e m : Int), e ≤ m → mxl (l.map fun v => (v, e + 1)) m = max ((CV.depths l : Int) + e) m
  | [], e, m, h => by simp only [List.map_nil, mxl, CV.depths]; omega
  | v :: l, e, m, h => by
    simp only [List.map_cons, mxl, mxl_kids l e m h, CV.depths]; omega
def wq (l : List (CV × Int)) : Nat := CV.ws (l.map (·.1))
theorem wq_len (l : List (CV × Int)) : l.length ≤ wq l := by have := CV.ws_len (l.map (·.1)); simpa [wq] using this
theorem wq_append (a b : List (CV × Int)) : wq (a ++ b) = wq a + wq b := by simp only [wq, List.map_append, CV.ws_append]
theorem wq_kids (l : List CV) (e : Int) : wq (l.map fun v => (v, e)) = CV.ws l := by
  unfold wq; rw [List.map_map]; congr 1; exact List.map_id l
theorem m19_l2_eq {vs : List CV} {e : Int} (he : 0 ≤ e ∧ e ≤ 2000000) (hl : vs.length ≤ 1048576) : ∀ (r : List CV) (i k : Nat) (acc : List (CV × Int)), vs.drop i = r → r.length < k → acc.length + r.length ≤ 4294967296 → m19_l2 vs e k i acc = some (acc ++ r.map fun v => (v, e + 1))
  | _, _, 0, _, _, h, _ => by omega
  | [], i, k + 1, acc, h, _, _ => by rw [m19_l2, nil_drop h]; simp
  | ⟨a, b, c, d⟩ :: r, i, k + 1, acc, h, hk, ha => by
    have hi := drop_lt h
    simp only [List.length_cons] at ha hk
    rw [m19_l2, lt_drop h, cond_true, at_drop h, wrap64_in (n := e + 1) (by omega) (by omega)]
    simp only [Option.bind_some]
    rw [req_t (by simp; omega), wi_succ (by omega), m19_l2_eq he hl r (i + 1) k _ (drop_on h) (by omega) (by simp; omega)]
    simp
theorem m19_l1_eq {n : Nat} (hn : 1048576 < n) : ∀ (k : Nat) (l : List (CV × Int)) (m : Int), wq l < k → wq l ≤ 1048577 → (∀ p ∈ l, 1 ≤ p.2 ∧ p.2 + (p.1.w : Int) ≤ 1048577) → m19_l1 n k m l = some (mxl l m)
  | 0, _, _, h, _, _ => by omega
  | k + 1, l, m, h, hb, hp => by
    rcases List.eq_nil_or_concat l with rfl | ⟨l', ⟨⟨kk, i, t, d⟩, e⟩, rfl⟩
    · simp [m19_l1, mxl]
    · rw [List.concat_eq_append] at *
      have hlen := wq_len (l' ++ [(CV.mk kk i t d, e)])
      have hw : wq (l' ++ [(CV.mk kk i t d, e)]) = wq l' + (t.length + CV.ws d + 1) + 1 := by
        rw [wq_append]; simp only [wq, List.map_cons, List.map_nil, CV.ws, CV.w]; omega
      rw [hw] at h hb hlen
      simp only [List.length_append, List.length_cons, List.length_nil] at hlen
      have hd := CV.ws_len d
      obtain ⟨p1, p2⟩ := hp (CV.mk kk i t d, e) (by simp)
      simp only [CV.w] at p2
      have e1 : IntKind.i64.wrap (((l' ++ [(CV.mk kk i t d, e)]).length : Int) - 1) = (l'.length : Int) := by
        rw [wrap64_in (by simp) (by simp; omega)]; simp
      have e2 : at? (l' ++ [(CV.mk kk i t d, e)]) (l'.length : Int) = some (CV.mk kk i t d, e) := by
        rw [at_get (by simp)]; simp
      have e3 : (l' ++ [(CV.mk kk i t d, e)]).take (l'.length : Int).toNat = l' := by simp
      have e5 : decide (0 < ((l' ++ [(CV.mk kk i t d, e)]).length : Int)) = true := by simp
      rw [m19_l1, e5, cond_true, e1, e2, e3]
      simp only [Option.bind_some]
      rw [req_t (by simp; omega), mxl_append]
      have e6 : (if m < e then e else m) = max e m := by split <;> omega
      rw [e6]
      by_cases h3 : kk = 3
      · subst h3
        have e7 : m19_l2 d e n 0 l' = some (l' ++ d.map fun v => (v, e + 1)) := m19_l2_eq (by omega) (by omega) d 0 n l' rfl (by omega) (by omega)
        rw [show ((3 : Int) != 3) = false from rfl, cond_false, e7, Option.bind_some, m19_l1_eq hn k _ _ (by rw [wq_append, wq_kids]; omega) (by rw [wq_append, wq_kids]; omega), mxl_append, mxl_kids d e _ (by omega)]
        · congr 2
          simp only [mxl, CV.depth, if_true]
          omega
        · intro p hp'
          rcases List.mem_append.1 hp' with h1 | h1
          · exact hp p (List.mem_append_left _ h1)
          · obtain ⟨v, hv, rfl⟩ := List.mem_map.1 h1
            have := CV.w_mem hv
            simp only; omega
      · have e8 : (kk != 3) = true := by simpa using h3
        rw [e8, cond_true, m19_l1_eq hn k l' _ (by omega) (by omega) (fun p hp' => hp p (List.mem_append_left _ hp'))]
        congr 2
        simp only [mxl, CV.depth, h3, if_false]
        omega
theorem m19_eq {n : Nat} {v : CV} (hn : 1048578 < n) (hb : v.w ≤ 1048576) : m19 n v = some (v.depth : Int) := by
  have hp := CV.depth_pos v
  obtain ⟨k, i, t, l⟩ := v
  have hw : wq [(CV.mk k i t l, 1)] = (CV.mk k i t l).w + 1 := by simp [wq, CV.ws]
  rw [m19, m19_l1_eq (by omega) n _ 0 (by rw [hw]; omega) (by rw [hw]; omega) (fun p hp' => by
    simp only [List.mem_singleton] at hp'; subst hp'; simp only; omega)]
  simp only [Option.bind_some, mxl]
  congr 1; omega

/- Encode -/
theorem m16_eq {n : Nat} {v : CV} (hn : 1048600 ≤ n) (hb : v.w ≤ 1048576) (hr : v.rng) : ∃ b : List UInt8, m16 n v = some (bif okAt v 1 then (bif decide (1048576 < v.code.length) then ([], 6) else (v.code, 0)) else ([], 1)) := by
  have h1 := m17_eq (n := n) (v := v) (by omega) hb
  cases ho : okAt v 1 with
  | false =>
    obtain ⟨k, i, t, l⟩ := v
    exact ⟨[], by rw [m16, h1, ho]; rfl⟩
  | true =>
    have hp : v.proper = true := by simp only [okAt, Bool.and_eq_true] at ho; exact ho.1
    obtain ⟨b', h2, e1, e2, e3⟩ := m30_enc n v [] (by omega) hb hr hp (by simp)
    simp only [List.length_nil, Nat.zero_add, List.nil_append] at e1 e2 e3
    obtain ⟨k, i, t, l⟩ := v
    refine ⟨b', ?_⟩
    rw [m16, h1, ho]
    simp only [Option.bind_some, Bool.not_true, cond_false, cond_true, h2]
    by_cases hs : 1048576 < (CV.mk k i t l).code.length
    · rw [decide_eq_true hs, decide_eq_true (by have := e2 hs; omega : (1048576 : Int) < b'.length)]; rfl
    · have := e1 (by omega)
      subst this
      rw [decide_eq_false hs, decide_eq_false (by omega)]; rfl

theorem m4_eq (v : CV) (hb : v.w ≤ 1048576) (hr : v.rng) : m4 1048600 v = some true := by
  obtain ⟨y, hy, _⟩ := m12_some 1048600 v (by omega) hb
  have h1 := m11_eq 1048592
  have h2 := m14_eq 1048600 v (by omega) hb
  obtain ⟨_, h3⟩ := m16_eq (n := 1048600) (by omega) hb hr
  have h4 := m17_eq (n := 1048600) (v := v) (by omega) hb
  have h5 := m18_eq (n := 1048600) (v := v) (by omega) hb
  have h6 := m19_eq (n := 1048600) (v := v) (by omega) hb
  have h7 := m20_eq 1048600 v (by omega) hb
  have h8 : okAt v 1 = true → m21 1048600 v = some v.code := fun ho => m21_eq 1048600 v (by omega) hb hr (by simp only [okAt, Bool.and_eq_true] at ho; exact ho.1)
  obtain ⟨k, i, t, l⟩ := v
  rw [m4, h1]
  simp only [Option.bind_some, Bool.not_true, cond_false, hy]
  cases y with
  | false => rfl
  | true =>
    simp only [Bool.not_true, cond_false, h2, Option.bind_some, h3, h4, h5, h6, h7]
    cases ho : okAt (CV.mk k i t l) 1 with
    | false => simp
    | true =>
      rw [h8 ho]
      by_cases hs : 1048576 < (CV.mk k i t l).code.length
      · simp [hs, decide_eq_true (by omega : (1048576 : Int) < ((CV.mk k i t l).code.length : Int))]
      · simp [hs, decide_eq_false (by omega : ¬ (1048576 : Int) < ((CV.mk k i t l).code.length : Int))]
end Go.Proofs.Ytjjljekedgdnnaa
