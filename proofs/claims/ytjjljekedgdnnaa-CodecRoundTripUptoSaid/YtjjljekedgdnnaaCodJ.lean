/-
  THE CODEC, PART J: plain facts of the models: the other laws.
-/
import Derived.Test.YtjjljekedgdnnaaCodI
set_option linter.unusedVariables false
set_option linter.unusedSimpArgs false
namespace Go.Proofs.Ytjjljekedgdnnaa
open Go.Abs

theorem okAt_out {v : CV} (h : okAt v 1 = true) : v.proper = true ∧ v.depth ≤ 64 := by
  simp only [okAt, Bool.and_eq_true, decide_eq_true_eq] at h
  exact ⟨h.1, by omega⟩
theorem okAt_in {v : CV} (h : v.proper = true) (hd : v.depth ≤ 64) : okAt v 1 = true := by
  simp only [okAt, Bool.and_eq_true, decide_eq_true_eq]
  exact ⟨h, by omega⟩
theorem dec_code {v : CV} (h : okAt v 1 = true) (hr : v.rng) (hw : v.w ≤ 1048576) (hl : v.code.length ≤ 1048576) : dec v.code = (v, 0) := by
  obtain ⟨hp, hd⟩ := okAt_out h
  have := rd_code 64 v [] hp hr hd (by omega)
  rw [List.append_nil] at this
  unfold dec
  rw [if_neg (by omega), this]
theorem dec_out (b : List UInt8) : (∃ v, dec b = (v, 0) ∧ rd 64 b = some (v, []) ∧ b.length ≤ 1048576) ∨ dec b = (.mk 0 0 [] [], 4) := by
  unfold dec
  by_cases hl : 1048576 < b.length
  · rw [if_pos hl]; exact .inr rfl
  · rw [if_neg hl]
    cases hx : rd 64 b with
    | none => exact .inr rfl
    | some p =>
      obtain ⟨v, r⟩ := p
      cases r with
      | nil => exact .inl ⟨v, rfl, rfl, by omega⟩
      | cons c r => exact .inr rfl

theorem m10_eq (v : CV) (b : List UInt8) (hw : v.w ≤ 1048576) (hr : v.rng) : m10 1048800 v b = some true := by
  obtain ⟨y, hy, _⟩ := m12_some 1048800 v (by omega) hw
  have h1 := m11_eq 1048792
  have h2 := m14_eq 1048800 v (by omega) hw
  obtain ⟨_, h3⟩ := m16_eq (n := 1048800) (by omega) hw hr
  have h13 := m13_eq 1048800 v v (by omega) hw
  have second : ¬ 3000 < b.length → ((m22 1048800 b).bind fun x => match x with
      | ⟨⟨y15_kind, y15_int, y15_text, y15_list⟩, y16⟩ =>
        bif (y16 != 0) then (
          some (y16 == 4)
        ) else (
          (m16 1048800 (CV.mk y15_kind y15_int y15_text y15_list)).bind fun ⟨y17, y18⟩ =>
          (
            bif (y18 == 0) then (
              bif (y17 == b) then (
                (m17 1048800 (CV.mk y15_kind y15_int y15_text y15_list)).bind fun y22 =>
                some y22
              ) else (
                some false
              )
            ) else (
              some false
            )
           : Option (Bool)).bind fun x19 =>
          some x19
        )) = some true := fun hl => by
    rw [m22_eq (by omega)]
    rcases dec_out b with ⟨u, h5, h6, h7⟩ | h5
    · have g := rd_good b.length (by omega) 64 b u [] (Nat.le_refl _) h6
      have hb : b = u.code := by have := g.eq; rwa [List.append_nil] at this
      have huw := g.w
      rw [← hb] at huw
      have hok := okAt_in g.proper g.depth
      obtain ⟨_, h8⟩ := m16_eq (n := 1048800) (v := u) (by omega) (by omega) g.rng
      have h9 := m17_eq (n := 1048800) (v := u) (by omega) (by omega)
      rw [h5]
      obtain ⟨u1, u2, u3, u4⟩ := u
      simp only [Option.bind_some]
      rw [h8, h9, hok, ← hb, decide_eq_false (by omega : ¬ 1048576 < b.length)]
      simp
    · rw [h5]; rfl
  obtain ⟨v1, v2, v3, v4⟩ := v
  rw [m10, h1]
  simp only [Option.bind_some, Bool.not_true, cond_false, hy]
  cases y with
  | false => rfl
  | true =>
    simp only [Bool.not_true, cond_false, Option.bind_some]
    by_cases hl : 3000 < b.length
    · rw [decide_eq_true (by omega : (3000 : Int) < (b.length : Int))]; rfl
    · rw [decide_eq_false (by omega : ¬ (3000 : Int) < (b.length : Int)), cond_false, h2]
      simp only [Option.bind_some]
      rw [h3]
      cases ho : okAt (CV.mk v1 v2 v3 v4) 1 with
      | false => exact second hl
      | true =>
        by_cases hs : 1048576 < (CV.mk v1 v2 v3 v4).code.length
        · rw [decide_eq_true hs]; exact second hl
        · rw [decide_eq_false hs]
          simp only [cond_true, cond_false, Option.bind_some, beq_self_eq_true]
          rw [m22_eq (by omega), dec_code ho hr hw (by omega)]
          simp only [Option.bind_some, bne_self_eq_false, cond_false]
          rw [h13, CV.eqv_self]
          exact second hl

theorem m6_eq (v : CV) (a : Int) (more : List UInt8) (hw : v.w ≤ 1048576) (hr : v.rng) (ha : 0 ≤ a ∧ a ≤ 65535) : m6 1048800 v a more = some true := by
  obtain ⟨y, hy, _⟩ := m12_some 1048800 v (by omega) hw
  have h1 := m11_eq 1048792
  have h2 := m14_eq 1048800 v (by omega) hw
  obtain ⟨_, h3⟩ := m16_eq (n := 1048800) (by omega) hw hr
  have hcp := code_pos v
  have hrdv : okAt v 1 = true → ∀ s, rd 64 (v.code ++ s) = some (v, s) := fun ho s => rd_code 64 v s (okAt_out ho).1 hr (okAt_out ho).2 (by omega)
  obtain ⟨v1, v2, v3, v4⟩ := v
  rw [m6, h1]
  simp only [Option.bind_some, Bool.not_true, cond_false, hy]
  cases y with
  | false => rfl
  | true =>
    simp only [Bool.not_true, cond_false, Option.bind_some]
    by_cases hl : 100 < more.length
    · rw [decide_eq_true (by omega : (100 : Int) < (more.length : Int))]; rfl
    · rw [decide_eq_false (by omega : ¬ (100 : Int) < (more.length : Int)), cond_false, h2]
      simp only [Option.bind_some]
      rw [h3]
      cases ho : okAt (CV.mk v1 v2 v3 v4) 1 with
      | false => rfl
      | true =>
        by_cases hs : 1048576 < (CV.mk v1 v2 v3 v4).code.length
        · rw [decide_eq_true hs]; rfl
        · have hrd := hrdv ho
          rw [decide_eq_false hs]
          simp only [cond_true, cond_false, Option.bind_some, bne_self_eq_false]
          generalize hb : (CV.mk v1 v2 v3 v4).code = b at *
          have e0 : ((b.length : Int) == 0) = false := by rw [beq_eq_false_iff_ne]; omega
          have ei : (IntKind.i64.wrap a).tmod (b.length : Int) = ((a.toNat % b.length : Nat) : Int) := by
            rw [wrap64_in (by omega) (by omega), Int.tmod_eq_emod_of_nonneg ha.1]
            rw [← Int.toNat_of_nonneg ha.1]; rfl
          have hlt := Nat.mod_lt a.toNat (show b.length > 0 by omega)
          rw [e0, cond_false, ei]
          generalize a.toNat % b.length = m at *
          have ep : ((b.take (((m : Nat) : Int)).toNat).drop (0 : Int).toNat) = b.take m := by simp
          rw [req_t (by omega), req_t ⟨by omega, by omega, by omega⟩, ep, m22_eq (by omega)]
          have hp : dec (b.take m) = (.mk 0 0 [] [], 4) := by
            rcases dec_out (b.take m) with ⟨u, h5, h6, h7⟩ | h5
            · exfalso
              have g := rd_good (b.take m).length (by rw [List.length_take]; omega) 64 (b.take m) u [] (Nat.le_refl _) h6
              have hbu : b.take m = u.code := by have := g.eq; rwa [List.append_nil] at this
              have huw := g.w
              rw [← hbu, List.length_take] at huw
              have r1 := rd_code 64 u (b.drop m) g.proper g.rng g.depth (by omega)
              rw [← hbu, List.take_append_drop] at r1
              have r2 := hrd []
              rw [List.append_nil, r1] at r2
              have : b.drop m = [] := congrArg (fun x => (Option.getD x (u, [])).2) r2
              have := List.drop_eq_nil_iff.1 this
              omega
            · exact h5
          rw [hp]
          simp only [Option.bind_some]
          rw [req_t (by simp; omega), req_t (by omega), m22_eq (by omega)]
          have hq : (dec (b ++ more)).2 = if more = [] then 0 else 4 := by
            unfold dec
            by_cases hbig : 1048576 < (b ++ more).length
            · rw [if_pos hbig]
              rw [List.length_append] at hbig
              rw [if_neg (by rintro rfl; simp at hbig; omega)]
            · rw [if_neg hbig, hrd more]
              cases more with
              | nil => rfl
              | cons c r => rfl
          obtain ⟨q1, q2, q3, q4, q5, hqq⟩ : ∃ q1 q2 q3 q4 q5, dec (b ++ more) = (CV.mk q1 q2 q3 q4, q5) := by
            cases hz : dec (b ++ more) with
            | mk x y => cases x; exact ⟨_, _, _, _, _, rfl⟩
          rw [hqq] at hq ⊢
          have hq : q5 = if more = [] then 0 else 4 := hq
          subst hq
          cases more with
          | nil => rfl
          | cons c r =>
            have : ((((c :: r).length : Nat) : Int) == 0) = false := by rw [beq_eq_false_iff_ne]; simp; omega
            simp only [Option.bind_some, this, reduceCtorEq, if_false]
            rfl

theorem blen_mono {n m : Nat} (h : n ≤ m) : blen n ≤ blen m := blen_le (blen_pos m) (Nat.lt_of_le_of_lt h (blen_lt m))
theorem int_code (n : Int) : (CV.mk 1 n [] []).code = headB 1 (zig n) := by
  rw [CV.code, head_headB]; simp [CV.codes, CV.num]
theorem headB_length (k n : Nat) : (headB k n).length = if n < 56 then 1 else blen n + 1 := by
  unfold headB; split <;> simp [beK_length]
theorem m7_eq (n m : Int) (hn : in64i n) (hm : in64i m) : m7 1048800 n m = some true := by
  have h1 := m11_eq 1048792
  have ok : ∀ {i : Int}, okAt (CV.mk 1 i [] []) 1 = true := fun {i} => okAt_in rfl (by simp [CV.depth])
  have hr : ∀ {i : Int}, in64i i → (CV.mk 1 i [] []).rng := fun h => ⟨by unfold in64i; omega, h, trivial⟩
  have hw : ∀ {i : Int}, (CV.mk 1 i [] []).w ≤ 1048576 := fun {i} => by simp [CV.w, CV.ws]
  obtain ⟨_, a1⟩ := m16_eq (n := 1048800) (by omega) (hw (i := n)) (hr hn)
  obtain ⟨_, a2⟩ := m16_eq (n := 1048800) (by omega) (hw (i := m)) (hr hm)
  have l1 := CV.head_len _ (hr hn) hw
  have l2 := CV.head_len _ (hr hm) hw
  have c1 := int_code n
  have c2 := int_code m
  have e1 : (CV.mk 1 n [] []).head.length = (headB 1 (zig n)).length := by rw [head_headB]; rfl
  have e2 : (CV.mk 1 m [] []).head.length = (headB 1 (zig m)).length := by rw [head_headB]; rfl
  have d1 := dec_code (v := .mk 1 n [] []) ok (hr hn) hw (by rw [c1]; omega)
  have n1 := m39_eq (hr hn) hw
  have n2 := m39_eq (hr hm) hw
  rw [← m25_m39] at n1 n2
  have z1 : (CV.mk 1 n [] []).num = zig n := by simp [CV.num]
  have z2 : (CV.mk 1 m [] []).num = zig m := by simp [CV.num]
  rw [z1] at n1; rw [z2] at n2
  rw [m7, h1]
  simp only [Option.bind_some, Bool.not_true, cond_false]
  rw [a1, a2, ok, ok, c1, c2, decide_eq_false (by omega : ¬ 1048576 < (headB 1 (zig n)).length), decide_eq_false (by omega : ¬ 1048576 < (headB 1 (zig m)).length)]
  simp only [cond_true, cond_false, Option.bind_some]
  rw [m22_eq (by omega), ← c1, d1]
  simp only [Option.bind_some, bne_self_eq_false, cond_false]
  rw [c1, decide_eq_false (by omega : ¬ (9 : Int) < ((headB 1 (zig n)).length : Int)), decide_eq_false (by omega : ¬ (9 : Int) < ((headB 1 (zig m)).length : Int))]
  simp only [cond_false, Option.bind_some, n1, n2]
  by_cases h : zig n ≤ zig m
  · rw [decide_eq_true (by omega : ((zig n : Nat) : Int) ≤ ((zig m : Nat) : Int))]
    have hb := blen_mono h
    have hp := blen_pos (zig m)
    have : (headB 1 (zig n)).length ≤ (headB 1 (zig m)).length := by
      rw [headB_length, headB_length]; split <;> split <;> omega
    simp only [Bool.not_true, cond_false, Option.bind_some]
    rw [decide_eq_true (by omega : ((headB 1 (zig n)).length : Int) ≤ ((headB 1 (zig m)).length : Int))]
  · rw [decide_eq_false (by omega : ¬ ((zig n : Nat) : Int) ≤ ((zig m : Nat) : Int))]; rfl

theorem m9_l1_eq {n : Nat} (hn : 1048700 ≤ n) {a1 : List CV} (hl : a1.length ≤ 6) : ∀ (r : List CV) (i k : Nat) (acc : List UInt8), a1.drop i = r → r.length < k → acc.length ≤ i * 1048576 → (∀ v ∈ r, v.w ≤ 1048576 ∧ v.rng) →
    m9_l1 n a1 k i acc = some (.ret true) ∨ (m9_l1 n a1 k i acc = some (.go (acc ++ CV.codes r)) ∧ ∀ v ∈ r, okAt v 1 = true)
  | _, _, 0, _, _, h, _, _ => by omega
  | [], i, k + 1, acc, h, _, _, _ => .inr ⟨by rw [m9_l1, nil_drop h, CV.codes, List.append_nil]; rfl, fun v hv => by cases hv⟩
  | ⟨a, b, c, d⟩ :: r, i, k + 1, acc, h, hk, ha, hv => by
    have hi := drop_lt h
    obtain ⟨hw, hr⟩ := hv ⟨a, b, c, d⟩ List.mem_cons_self
    obtain ⟨y, hy, _⟩ := m12_some n ⟨a, b, c, d⟩ (by omega) hw
    have h2 := m14_eq n ⟨a, b, c, d⟩ (by omega) hw
    obtain ⟨_, h3⟩ := m16_eq (n := n) (v := ⟨a, b, c, d⟩) (by omega) hw hr
    rw [m9_l1, lt_drop h, cond_true, at_drop h]
    simp only [Option.bind_some, hy]
    cases y with
    | false => exact .inl rfl
    | true =>
      simp only [Bool.not_true, cond_false, h2, Option.bind_some, h3]
      cases ho : okAt (CV.mk a b c d) 1 with
      | false => exact .inl rfl
      | true =>
        by_cases hs : 1048576 < (CV.mk a b c d).code.length
        · rw [decide_eq_true hs]; exact .inl rfl
        · rw [decide_eq_false hs]
          simp only [cond_true, cond_false, bne_self_eq_false]
          rw [req_t (by omega), wi_succ (by omega)]
          rcases m9_l1_eq hn hl r (i + 1) k (acc ++ (CV.mk a b c d).code) (drop_on h) (by simpa using hk) (by rw [List.length_append]; omega) (fun v hv' => hv v (List.mem_cons_of_mem _ hv')) with h5 | ⟨h5, h6⟩
          · exact .inl h5
          · refine .inr ⟨by rw [h5, CV.codes, List.append_assoc], fun u hu => ?_⟩
            rcases List.mem_cons.1 hu with rfl | hu
            · exact ho
            · exact h6 u hu
theorem m9_l2_eq {n : Nat} (hn : 25000000 ≤ n) {a1 : List CV} (hl : a1.length ≤ 6) : ∀ (r : List CV) (i k : Nat), a1.drop i = r → r.length < k → (CV.codes r).length ≤ 20000000 → (∀ v ∈ r, v.w ≤ 1048576 ∧ v.rng) → (∀ v ∈ r, okAt v 1 = true) →
    m9_l2 n a1 k (CV.codes r) i = some (.go [])
  | _, _, 0, _, h, _, _, _ => by omega
  | [], i, k + 1, h, _, _, _, _ => by rw [m9_l2, nil_drop h]; rfl
  | ⟨a, b, c, d⟩ :: r, i, k + 1, h, hk, hc, hv, ho => by
    have hi := drop_lt h
    obtain ⟨hw, hr⟩ := hv ⟨a, b, c, d⟩ List.mem_cons_self
    obtain ⟨hp, hd⟩ := okAt_out (ho ⟨a, b, c, d⟩ List.mem_cons_self)
    have h2 := m14_eq n ⟨a, b, c, d⟩ (by omega) hw
    have h13 := m13_eq n ⟨a, b, c, d⟩ ⟨a, b, c, d⟩ (by omega) hw
    have hrd := rd_code 64 ⟨a, b, c, d⟩ (CV.codes r) hp hr hd (by omega)
    have hcp := code_pos (CV.mk a b c d)
    have hcc := hc
    simp only [CV.codes, List.length_append] at hcc
    rw [m9_l2, lt_drop h, cond_true, m26_eq hc (by omega), CV.codes, hrd, at_drop h]
    simp only [Option.bind_some, bne_self_eq_false, cond_false, h2, h13, CV.eqv_self, Bool.not_true]
    rw [decide_eq_false (by rw [List.length_append]; omega : ¬ ((((CV.mk a b c d).code ++ CV.codes r).length : Nat) : Int) ≤ ((CV.codes r).length : Int)), cond_false, wi_succ (by omega)]
    exact m9_l2_eq hn hl r (i + 1) k (drop_on h) (by simpa using hk) (by omega) (fun v hv' => hv v (List.mem_cons_of_mem _ hv')) (fun v hv' => ho v (List.mem_cons_of_mem _ hv'))
theorem m9_eq (l : List CV) (hw : CV.ws l ≤ 1048576) (hr : CV.rngs l) : m9 25000000 l = some true := by
  have h1 := m11_eq 24999992
  rw [m9, h1]
  simp only [Option.bind_some, Bool.not_true, cond_false]
  by_cases hl : 6 < l.length
  · rw [decide_eq_true (by omega : (6 : Int) < (l.length : Int))]; rfl
  · rw [decide_eq_false (by omega : ¬ (6 : Int) < (l.length : Int)), cond_false]
    have hv : ∀ v ∈ l, v.w ≤ 1048576 ∧ v.rng := fun v hv => ⟨by have := CV.w_mem hv; omega, CV.rng_mem hr hv⟩
    have hcl := CV.codes_len l hr hw
    rcases m9_l1_eq (n := 25000000) (by omega) (a1 := l) (by omega) l 0 25000000 [] rfl (by omega) (by simp) hv with h5 | ⟨h5, h6⟩
    · have h5' : m9_l1 25000000 l 25000000 0 [] = _ := h5
      rw [h5']; rfl
    · have h5' : m9_l1 25000000 l 25000000 0 [] = _ := h5
      rw [h5', List.nil_append, Option.bind_some]
      have h7 : m9_l2 25000000 l 25000000 (CV.codes l) 0 = _ := m9_l2_eq (n := 25000000) (by omega) (a1 := l) (by omega) l 0 25000000 rfl (by omega) (by omega) hv h6
      dsimp only
      rw [h7]; rfl
end Go.Proofs.Ytjjljekedgdnnaa
