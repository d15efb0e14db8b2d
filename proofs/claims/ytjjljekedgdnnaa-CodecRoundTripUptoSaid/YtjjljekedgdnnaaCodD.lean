/-
  THE CODEC, PART D: plain facts of the models: the example, short values, copies, equality.
-/
import Derived.Test.YtjjljekedgdnnaaCodWB
set_option linter.unusedVariables false
set_option linter.unusedSimpArgs false
namespace Go.Proofs.Ytjjljekedgdnnaa
open Go.Abs

theorem m11_eq (n : Nat) : m11 (n + 8) = some true := by rfl

/- own: a copy -/
theorem m14_l1_eq {F : CV → Option CV} {vs : List CV} (hl : vs.length ≤ 1048576) : ∀ (r : List CV) (i k : Nat) (acc : List CV), vs.drop i = r → r.length < k → acc.length ≤ i → (∀ v ∈ r, F v = some v) → m14_l1 F vs k i acc = some (acc ++ r)
  | _, _, 0, _, _, h, _, _ => by omega
  | [], i, k + 1, acc, h, _, _, _ => by rw [m14_l1, nil_drop h, cond_false, List.append_nil]
  | ⟨a, b, c, d⟩ :: r, i, k + 1, acc, h, hk, ha, hF => by
    have hi := drop_lt h
    rw [m14_l1, lt_drop h, cond_true, at_drop h]
    simp only [Option.bind_some, hF ⟨a, b, c, d⟩ List.mem_cons_self]
    rw [req_t (by simp; omega), wi_succ (by omega), m14_l1_eq hl r (i + 1) k _ (drop_on h) (by simpa using hk) (by simp; omega) (fun v hv => hF v (List.mem_cons_of_mem _ hv))]
    simp
theorem m14_eq : ∀ (n : Nat) (v : CV), v.w < n → v.w ≤ 1048576 → m14 n v = some v
  | 0, _, h, _ => by omega
  | n + 1, ⟨a, b, c, d⟩, h, hb => by
    simp only [CV.w] at h hb
    have hl := CV.ws_len d
    have e : m14_l1 (m14 n) d n 0 [] = some ([] ++ d) := m14_l1_eq (by omega) d 0 n [] rfl (by omega) (by simp) fun v hv => m14_eq n v (by have := CV.w_mem hv; omega) (by have := CV.w_mem hv; omega)
    rw [m14, e]
    rfl

/- few: some answer -/
theorem m28_l1_some {F : CV → Int → Option Int} {vs : List CV} {most : Int} (hl : vs.length ≤ 1048576) : ∀ (r : List CV) (i k : Nat) (acc : Int), vs.drop i = r → r.length < k → (∀ v ∈ r, ∀ m, ∃ y, F v m = some y) → ∃ y, m28_l1 F vs most k acc i = some y
  | _, _, 0, _, _, h, _ => by omega
  | [], i, k + 1, acc, h, _, _ => ⟨acc, by rw [m28_l1, nil_drop h]; rfl⟩
  | ⟨a, b, c, d⟩ :: r, i, k + 1, acc, h, hk, hF => by
    have hi := drop_lt h
    rw [m28_l1, lt_drop h, cond_true, at_drop h]
    simp only [Option.bind_some]
    cases hb : decide (acc < most) with
    | false => exact ⟨acc, rfl⟩
    | true =>
      obtain ⟨y, hy⟩ := hF ⟨a, b, c, d⟩ List.mem_cons_self (IntKind.i64.wrap (most - acc))
      simp only [cond_true, hy, Option.bind_some]
      rw [wi_succ (by omega)]
      exact m28_l1_some hl r (i + 1) k _ (drop_on h) (by simpa using hk) (fun v hv => hF v (List.mem_cons_of_mem _ hv))
theorem m28_some : ∀ (n : Nat) (v : CV) (m : Int), v.w < n → v.w ≤ 1048576 → ∃ y, m28 n v m = some y
  | 0, _, _, h, _ => by omega
  | n + 1, ⟨a, b, c, d⟩, m, h, hb => by
    simp only [CV.w] at h hb
    have hl := CV.ws_len d
    obtain ⟨y, hy⟩ := m28_l1_some (F := m28 n) (most := m) (vs := d) (by omega) d 0 n 1 rfl (by omega) fun v hv m => m28_some n v m (by have := CV.w_mem hv; omega) (by have := CV.w_mem hv; omega)
    refine ⟨y, ?_⟩
    rw [m28]
    show (m28_l1 (m28 n) d m n 1 ((0 : Nat) : Int)).bind _ = _
    rw [hy]; rfl

mutual
def CV.short : CV → Bool
  | .mk _ _ t vs => CV.shorts vs && decide ((t.length : Int) ≤ 5000)
def CV.shorts : List CV → Bool
  | [] => true
  | v :: vs => v.short && CV.shorts vs
end
theorem m29_l1_eq {F : CV → Option Bool} {vs : List CV} (hl : vs.length ≤ 1048576) : ∀ (r : List CV) (i k : Nat), vs.drop i = r → r.length < k → (∀ v ∈ r, F v = some v.short) → m29_l1 F vs k i = some (bif CV.shorts r then .go () else .ret false)
  | _, _, 0, _, h, _ => by omega
  | [], i, k + 1, h, _, _ => by rw [m29_l1, nil_drop h]; rfl
  | ⟨a, b, c, d⟩ :: r, i, k + 1, h, hk, hF => by
    have hi := drop_lt h
    rw [m29_l1, lt_drop h, cond_true, at_drop h]
    simp only [Option.bind_some, hF ⟨a, b, c, d⟩ List.mem_cons_self]
    cases hs : (CV.mk a b c d).short with
    | false => simp [CV.shorts, hs]
    | true =>
      rw [wi_succ (by omega), m29_l1_eq hl r (i + 1) k (drop_on h) (by simpa using hk) (fun v hv => hF v (List.mem_cons_of_mem _ hv))]
      simp [CV.shorts, hs]
theorem m29_eq : ∀ (n : Nat) (v : CV), v.w < n → v.w ≤ 1048576 → m29 n v = some v.short
  | 0, _, h, _ => by omega
  | n + 1, ⟨a, b, c, d⟩, h, hb => by
    simp only [CV.w] at h hb
    have hl := CV.ws_len d
    have := m29_l1_eq (F := m29 n) (vs := d) (by omega) d 0 n rfl (by omega) fun v hv => m29_eq n v (by have := CV.w_mem hv; omega) (by have := CV.w_mem hv; omega)
    rw [m29]
    show (m29_l1 (m29 n) d n ((0 : Nat) : Int)).bind _ = _
    rw [this, CV.short]
    cases CV.shorts d <;> simp
theorem m12_some (n : Nat) (v : CV) (h : v.w < n) (hb : v.w ≤ 1048576) : ∃ y, m12 n v = some y ∧ (y = true → v.short = true) := by
  obtain ⟨a, b, c, d⟩ := v
  obtain ⟨y, hy⟩ := m28_some n ⟨a, b, c, d⟩ 301 h hb
  rw [m12, hy, m29_eq n _ h hb]
  cases hd : decide (y ≤ 300) with
  | true => exact ⟨_, by simp [hd], fun h => h⟩
  | false => exact ⟨false, by simp [hd], fun h => by cases h⟩

/- equality -/
mutual
def CV.eqv : CV → CV → Bool
  | .mk k n t vs, .mk k' n' t' vs' => (k == k') && (n == n') && (t == t') && CV.eqvs vs vs'
def CV.eqvs : List CV → List CV → Bool
  | [], [] => true
  | v :: vs, u :: us => v.eqv u && CV.eqvs vs us
  | _, _ => false
end
theorem CV.eqvs_len : ∀ {a b : List CV}, a.length ≠ b.length → CV.eqvs a b = false
  | [], [], h => absurd rfl h
  | [], _ :: _, _ => rfl
  | _ :: _, [], _ => rfl
  | v :: a, u :: b, h => by simp only [CV.eqvs]; rw [CV.eqvs_len (by simpa using h)]; simp
mutual
theorem CV.eqv_self : ∀ (v : CV), v.eqv v = true
  | .mk k n t vs => by simp [CV.eqv, CV.eqvs_self vs]
theorem CV.eqvs_self : ∀ (vs : List CV), CV.eqvs vs vs = true
  | [] => rfl
  | v :: vs => by simp [CV.eqvs, CV.eqv_self v, CV.eqvs_self vs]
end

theorem m15_l1_eq {F : CV → CV → Option Bool} {vs us : List CV} (hl : vs.length ≤ 1048576) : ∀ (r s : List CV) (i k : Nat), vs.drop i = r → us.drop i = s → r.length = s.length → r.length < k → (∀ v ∈ r, ∀ u ∈ s, F v u = some (v.eqv u)) → m15_l1 F vs us k i = some (bif CV.eqvs r s then .go () else .ret false)
  | _, _, _, 0, _, _, _, h, _ => by omega
  | [], [], i, k + 1, h, _, _, _, _ => by rw [m15_l1, nil_drop h]; rfl
  | [], _ :: _, _, _, _, _, h, _, _ => by simp at h
  | _ :: _, [], _, _, _, _, h, _, _ => by simp at h
  | ⟨a, b, c, d⟩ :: r, ⟨a', b', c', d'⟩ :: s, i, k + 1, h, h', hls, hk, hF => by
    have hi := drop_lt h
    rw [m15_l1, lt_drop h, cond_true, at_drop h, at_drop h']
    simp only [Option.bind_some, hF ⟨a, b, c, d⟩ List.mem_cons_self ⟨a', b', c', d'⟩ List.mem_cons_self]
    cases hs : (CV.mk a b c d).eqv ⟨a', b', c', d'⟩ with
    | false => simp [CV.eqvs, hs]
    | true =>
      rw [wi_succ (by omega), m15_l1_eq hl r s (i + 1) k (drop_on h) (drop_on h') (by simpa using hls) (by simpa using hk) (fun v hv u hu => hF v (List.mem_cons_of_mem _ hv) u (List.mem_cons_of_mem _ hu))]
      simp [CV.eqvs, hs]
theorem m15_eq : ∀ (n : Nat) (v u : CV), v.w < n → v.w ≤ 1048576 → m15 n v u = some (v.eqv u)
  | 0, _, _, h, _ => by omega
  | n + 1, ⟨a, b, c, d⟩, ⟨a', b', c', d'⟩, h, hb => by
    simp only [CV.w] at h hb
    have hl := CV.ws_len d
    have key : d.length = d'.length → m15_l1 (m15 n) d d' n 0 = some (bif CV.eqvs d d' then .go () else .ret false) := fun h4 =>
      m15_l1_eq (F := m15 n) (vs := d) (us := d') (by omega) d d' 0 n rfl rfl h4 (by omega) fun v hv u _ => m15_eq n v u (by have := CV.w_mem hv; omega) (by have := CV.w_mem hv; omega)
    rw [m15, CV.eqv]
    simp only [bne]
    cases a == a' with
    | false => rfl
    | true =>
    cases b == b' with
    | false => rfl
    | true =>
    cases c == c' with
    | false => rfl
    | true =>
    by_cases h4 : d.length = d'.length
    · have h5 : ((d.length : Int) == (d'.length : Int)) = true := by simp [h4]
      rw [h5, key h4]
      cases CV.eqvs d d' <;> rfl
    · have h5 : ((d.length : Int) == (d'.length : Int)) = false := by
        rw [beq_eq_false_iff_ne]; omega
      rw [h5, CV.eqvs_len h4]
      rfl

theorem m13_l2_eq {vs us : List CV} (hl : vs.length ≤ 1048576) : ∀ (r s : List CV) (i k : Nat) (acc : List (CV × CV)), vs.drop i = r → us.drop i = s → r.length = s.length → r.length < k → acc.length + r.length ≤ 4294967296 → m13_l2 vs us k i acc = some (acc ++ r.zip s)
  | _, _, _, 0, _, _, _, _, h, _ => by omega
  | [], [], i, k + 1, acc, h, _, _, _, _ => by rw [m13_l2, nil_drop h, cond_false, List.zip_nil_right, List.append_nil]
  | [], _ :: _, _, _, _, _, _, h, _, _ => by simp at h
  | _ :: _, [], _, _, _, _, _, h, _, _ => by simp at h
  | ⟨a, b, c, d⟩ :: r, ⟨a', b', c', d'⟩ :: s, i, k + 1, acc, h, h', hls, hk, ha => by
    have hi := drop_lt h
    simp only [List.length_cons] at ha hk
    rw [m13_l2, lt_drop h, cond_true, at_drop h, at_drop h']
    simp only [Option.bind_some]
    rw [req_t (by simp; omega), wi_succ (by omega), m13_l2_eq hl r s (i + 1) k _ (drop_on h) (drop_on h') (by simpa using hls) (by omega) (by simp; omega)]
    simp

def wp (l : List (CV × CV)) : Nat := CV.ws (l.map (·.1))
def allEq (l : List (CV × CV)) : Bool := l.all fun p => p.1.eqv p.2
theorem allEq_zip : ∀ {a b : List CV}, a.length = b.length → allEq (a.zip b) = CV.eqvs a b
  | [], [], _ => rfl
  | v :: a, u :: b, h => by
    have := allEq_zip (a := a) (b := b) (by simpa using h)
    simp only [allEq] at this
    simp [allEq, CV.eqvs, this]
theorem wp_len (l : List (CV × CV)) : l.length ≤ wp l := by have := CV.ws_len (l.map (·.1)); simpa [wp] using this

theorem m13_l1_eq {n : Nat} (hn : 1048576 < n) : ∀ (k : Nat) (l : List (CV × CV)), wp l < k → wp l ≤ 1048577 → m13_l1 n k l = some (bif allEq l then .go () else .ret false)
  | 0, _, h, _ => by omega
  | k + 1, l, h, hb => by
    rcases List.eq_nil_or_concat l with rfl | ⟨l', ⟨⟨a, b, c, d⟩, ⟨a', b', c', d'⟩⟩, rfl⟩
    · simp [m13_l1, allEq]
    · have hlen := wp_len (l' ++ [(CV.mk a b c d, CV.mk a' b' c' d')])
      have hw : wp (l' ++ [(CV.mk a b c d, CV.mk a' b' c' d')]) = wp l' + (c.length + CV.ws d + 1) + 1 := by
        simp only [wp, List.map_append, CV.ws_append, List.map_cons, List.map_nil, CV.ws, CV.w]; omega
      rw [List.concat_eq_append] at *
      rw [hw] at h hb hlen
      simp only [List.length_append, List.length_cons, List.length_nil] at hlen
      have hd := CV.ws_len d
      have e1 : IntKind.i64.wrap (((l' ++ [(CV.mk a b c d, CV.mk a' b' c' d')]).length : Int) - 1) = (l'.length : Int) := by
        rw [wrap64_in (by simp) (by simp; omega)]; simp
      have e2 : at? (l' ++ [(CV.mk a b c d, CV.mk a' b' c' d')]) (l'.length : Int) = some (CV.mk a b c d, CV.mk a' b' c' d') := by
        rw [at_get (by simp)]; simp
      have e3 : (l' ++ [(CV.mk a b c d, CV.mk a' b' c' d')]).take (l'.length : Int).toNat = l' := by simp
      have e4 : allEq (l' ++ [(CV.mk a b c d, CV.mk a' b' c' d')]) = (allEq l' && ((a == a') && (b == b') && (c == c') && CV.eqvs d d')) := by simp [allEq, CV.eqv]
      have e5 : decide (0 < ((l' ++ [(CV.mk a b c d, CV.mk a' b' c' d')]).length : Int)) = true := by simp
      rw [m13_l1, e5, cond_true, e1, e2, e3, e4]
      simp only [Option.bind_some]
      rw [req_t (by simp; omega)]
      simp only [bne]
      cases a == a' with
      | false => simp
      | true =>
      cases b == b' with
      | false => simp
      | true =>
      cases c == c' with
      | false => simp
      | true =>
      by_cases h4 : d.length = d'.length
      · have h5 : ((d.length : Int) == (d'.length : Int)) = true := by simp [h4]
        have e : m13_l2 d d' n 0 l' = some (l' ++ d.zip d') := m13_l2_eq (vs := d) (us := d') (by omega) d d' 0 n l' rfl rfl h4 (by omega) (by omega)
        have e6 : wp (l' ++ d.zip d') = wp l' + CV.ws d := by
          simp only [wp, List.map_append, CV.ws_append]
          congr 2
          exact List.map_fst_zip (by omega)
        have e7 := m13_l1_eq hn k (l' ++ d.zip d') (by omega) (by omega)
        have e8 : allEq (l' ++ d.zip d') = (allEq l' && CV.eqvs d d') := by
          rw [← allEq_zip h4]; simp [allEq]
        rw [h5]
        simp only [Bool.not_true, cond_false, Option.bind_some, Bool.true_and]
        rw [e, Option.bind_some, e7, e8]
      · have h5 : ((d.length : Int) == (d'.length : Int)) = false := by
          rw [beq_eq_false_iff_ne]; omega
        rw [h5, CV.eqvs_len h4]
        simp
theorem m13_eq (n : Nat) (v u : CV) (hn : 1048578 < n) (hb : v.w ≤ 1048576) : m13 n v u = some (v.eqv u) := by
  obtain ⟨a, b, c, d⟩ := v
  obtain ⟨a', b', c', d'⟩ := u
  have h1 : wp [(CV.mk a b c d, CV.mk a' b' c' d')] = (CV.mk a b c d).w + 1 := by simp [wp, CV.ws]
  rw [m13, m13_l1_eq (by omega) n _ (by rw [h1]; omega) (by rw [h1]; omega)]
  have h2 : allEq [(CV.mk a b c d, CV.mk a' b' c' d')] = (CV.mk a b c d).eqv (CV.mk a' b' c' d') := by simp [allEq]
  rw [h2]
  cases (CV.mk a b c d).eqv (CV.mk a' b' c' d') <;> rfl

theorem m3_eq (a b : CV) (ha : a.w ≤ 1048576) (hb : b.w ≤ 1048576) : m3 1048600 a b = some true := by
  obtain ⟨ya, hya, _⟩ := m12_some 1048600 a (by omega) ha
  obtain ⟨yb, hyb, _⟩ := m12_some 1048600 b (by omega) hb
  have h1 := m11_eq 1048592
  have h2 := m14_eq 1048600 a (by omega) ha
  have h3 := m14_eq 1048600 b (by omega) hb
  have h4 := m13_eq 1048600 a b (by omega) ha
  have h5 := m15_eq 1048600 a b (by omega) ha
  have h6 := m13_eq 1048600 a a (by omega) ha
  obtain ⟨a1, a2, a3, a4⟩ := a
  obtain ⟨b1, b2, b3, b4⟩ := b
  rw [m3, h1]
  simp only [Option.bind_some, Bool.not_true, cond_false, hya, hyb]
  cases ya with
  | false => rfl
  | true =>
    cases yb with
    | false => rfl
    | true => simp [h2, h3, h4, h5, h6, CV.eqv_self]
end Go.Proofs.Ytjjljekedgdnnaa
