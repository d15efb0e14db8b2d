/-
  THE CODEC, PART G: plain facts: reading, and that it is the inverse of encoding.
-/
import Derived.Test.YtjjljekedgdnnaaCodF
set_option linter.unusedVariables false
set_option linter.unusedSimpArgs false
namespace Go.Proofs.Ytjjljekedgdnnaa
open Go.Abs

def valA : Nat → List UInt8 → Nat
  | a, [] => a
  | a, c :: l => valA (256 * a + c.toNat) l
def hdr (b : List UInt8) : Option (Nat × Nat × List UInt8) :=
  match b with
  | [] => none
  | c :: r => if c.toNat < 64 then none else if c.toNat % 64 < 56 then some (c.toNat / 64, c.toNat % 64, r)
    else if r.length < c.toNat % 64 - 55 then none
    else if r.headD 0 = 0 ∨ valA 0 (r.take (c.toNat % 64 - 55)) < 56 then none
    else some (c.toNat / 64, valA 0 (r.take (c.toNat % 64 - 55)), r.drop (c.toNat % 64 - 55))
def unz (n : Nat) : Int := if n % 2 = 1 then -((n / 2 : Nat) : Int) - 1 else ((n / 2 : Nat) : Int)
def rds (f : List UInt8 → Option (CV × List UInt8)) : Nat → List UInt8 → Option (List CV × List UInt8)
  | 0, b => some ([], b)
  | n + 1, b => match f b with
    | none => none
    | some (x, r) => match rds f n r with
      | none => none
      | some (xs, r') => some (x :: xs, r')
def rd : Nat → List UInt8 → Option (CV × List UInt8)
  | 0, _ => none
  | d + 1, b => match hdr b with
    | none => none
    | some (k, n, r) => if k = 1 then some (.mk 1 (unz n) [] [], r) else if r.length < n then none else if k = 2 then some (.mk 2 0 (r.take n) [], r.drop n)
      else match rds (rd d) n r with
        | none => none
        | some (l, r') => some (.mk 3 0 [] l, r')

theorem valA_eq : ∀ (l : List UInt8) (a : Nat), valA a l = a * 256 ^ l.length + valA 0 l
  | [], a => by simp [valA]
  | c :: l, a => by
    rw [valA, valA, valA_eq l (256 * a + c.toNat), valA_eq l (256 * 0 + c.toNat), List.length_cons, Nat.pow_succ, Nat.add_mul, Nat.mul_zero, Nat.zero_add, Nat.mul_comm (256 ^ l.length) 256, ← Nat.mul_assoc, Nat.mul_comm a 256]
    omega
theorem valA_lt : ∀ (l : List UInt8), valA 0 l < 256 ^ l.length
  | [] => by simp [valA]
  | c :: l => by
    have h := valA_lt l
    have hc := c.toNat_lt
    rw [valA, valA_eq, List.length_cons, Nat.pow_succ, Nat.mul_zero, Nat.zero_add]
    have : c.toNat * 256 ^ l.length ≤ 255 * 256 ^ l.length := Nat.mul_le_mul_right _ (by omega)
    omega
theorem beK_val : ∀ (k n : Nat), n < 256 ^ k → valA 0 (beK k n) = n
  | 0, n, h => by simp at h; subst h; rfl
  | k + 1, n, h => by
    rw [Nat.pow_succ] at h
    have hd : (dig k n).toNat = n / 256 ^ k := by
      have : n / 256 ^ k < 256 := Nat.div_lt_of_lt_mul (by rw [Nat.mul_comm] at h; rw [Nat.mul_comm]; rw [Nat.mul_comm] at h; omega)
      simp only [dig, UInt8.toNat_ofNat']; exact Nat.mod_eq_of_lt this
    have hm : beK k n = beK k (n % 256 ^ k) := by
      have : ∀ (j m q : Nat), j ≤ k → beK j (m % 256 ^ k) = beK j m := fun j => by
        induction j with
        | zero => intro m q _; rfl
        | succ j ih =>
          intro m q hj
          simp only [beK]
          rw [ih m q (by omega)]
          congr 1
          unfold dig
          apply UInt8.toNat_inj.1
          simp only [UInt8.toNat_ofNat']
          obtain ⟨e, rfl⟩ : ∃ e, k = j + 1 + e := ⟨k - (j + 1), by omega⟩
          have e1 : (256 : Nat) ^ (j + 1 + e) = 256 ^ j * (256 * 256 ^ e) := by rw [Nat.pow_add, Nat.pow_succ, Nat.mul_assoc]
          rw [e1, Nat.mod_mul_right_div_self, show (2 : Nat) ^ 8 = 256 from rfl, Nat.mod_mul_right_mod]
      exact (this k n 0 (Nat.le_refl _)).symm
    rw [beK, valA, valA_eq, beK_length, hd, hm, beK_val k _ (Nat.mod_lt _ (Nat.pow_pos (by omega))), Nat.mul_zero, Nat.zero_add, Nat.mul_comm]
    exact Nat.div_add_mod n (256 ^ k)
theorem val_beK : ∀ (l : List UInt8), beK l.length (valA 0 l) = l
  | [] => rfl
  | c :: l => by
    have h := valA_lt l
    have hp : 0 < 256 ^ l.length := Nat.pow_pos (by omega)
    have e : valA 0 (c :: l) = valA 0 l + 256 ^ l.length * c.toNat := by rw [valA, valA_eq, Nat.mul_zero, Nat.zero_add, Nat.mul_comm]; omega
    have hd : dig l.length (valA 0 (c :: l)) = c := by
      rw [e, dig, Nat.add_mul_div_left _ _ hp, Nat.div_eq_of_lt h]
      apply UInt8.toNat_inj.1
      have := c.toNat_lt
      simp [UInt8.toNat_ofNat']
    have hm : ∀ (j : Nat), j ≤ l.length → beK j (valA 0 (c :: l)) = beK j (valA 0 l) := fun j => by
      induction j with
      | zero => intro _; rfl
      | succ j ih =>
        intro hj
        simp only [beK]
        rw [ih (by omega)]
        congr 1
        unfold dig
        apply UInt8.toNat_inj.1
        simp only [UInt8.toNat_ofNat']
        obtain ⟨q, hq⟩ : ∃ q, l.length = j + 1 + q := ⟨l.length - (j + 1), by omega⟩
        have e1 : 256 ^ l.length * c.toNat = 256 ^ j * (256 * (256 ^ q * c.toNat)) := by rw [hq, Nat.pow_add, Nat.pow_succ]; simp only [Nat.mul_assoc]
        rw [e, e1, Nat.add_mul_div_left _ _ (Nat.pow_pos (by omega)), show (2 : Nat) ^ 8 = 256 from rfl, Nat.add_mul_mod_self_left]
    rw [List.length_cons, beK, hd, hm l.length (Nat.le_refl _), val_beK l]

/-- Bytes of a head. -/
def headB (k n : Nat) : List UInt8 := if n < 56 then [UInt8.ofNat (64 * k + n)] else UInt8.ofNat (64 * k + 55 + blen n) :: beK (blen n) n
theorem head_headB (k i : Int) (t : List UInt8) (l : List CV) : (CV.mk k i t l).head = headB k.toNat (CV.mk k i t l).num := rfl
theorem hdr_headB {k n : Nat} (hk : 1 ≤ k ∧ k ≤ 3) (hn : n < 18446744073709551616) (s : List UInt8) : hdr (headB k n ++ s) = some (k, n, s) := by
  unfold headB
  by_cases h : n < 56
  · have e : (UInt8.ofNat (64 * k + n)).toNat = 64 * k + n := by simp [UInt8.toNat_ofNat']; omega
    rw [if_pos h]
    simp only [List.cons_append, List.nil_append, hdr, e]
    rw [if_neg (by omega), if_pos (by omega)]
    rw [show (64 * k + n) / 64 = k by omega, show (64 * k + n) % 64 = n by omega]
  · have h8 := blen8 hn
    have hp := blen_pos n
    have e : (UInt8.ofNat (64 * k + 55 + blen n)).toNat = 64 * k + 55 + blen n := by simp [UInt8.toNat_ofNat']; omega
    have e2 : (64 * k + 55 + blen n) % 64 = 55 + blen n := by omega
    have e3 : (64 * k + 55 + blen n) / 64 = k := by omega
    have e4 : 55 + blen n - 55 = blen n := by omega
    have e5 : (beK (blen n) n ++ s).take (blen n) = beK (blen n) n := by rw [List.take_append_of_le_length (by rw [beK_length]; omega), List.take_of_length_le (by rw [beK_length]; omega)]
    have e6 : (beK (blen n) n ++ s).drop (blen n) = s := by
      have := List.drop_left (l₁ := beK (blen n) n) (l₂ := s)
      rwa [beK_length] at this
    have e7 : (beK (blen n) n ++ s).headD 0 ≠ 0 := by
      obtain ⟨q, hq⟩ : ∃ q, blen n = q + 1 := ⟨blen n - 1, by omega⟩
      have hg := blen_ge n (by omega)
      have hl := blen_lt n
      rw [hq, Nat.add_sub_cancel] at hg
      rw [hq, Nat.pow_succ] at hl
      rw [hq]
      simp only [beK, List.cons_append, List.headD_cons]
      intro h0
      have : (dig q n).toNat = n / 256 ^ q := by
        have : n / 256 ^ q < 256 := Nat.div_lt_of_lt_mul (by omega)
        simp only [dig, UInt8.toNat_ofNat']; exact Nat.mod_eq_of_lt this
      rw [h0] at this
      have h1 : 1 ≤ n / 256 ^ q := (Nat.le_div_iff_mul_le (Nat.pow_pos (by omega))).2 (by omega)
      simp at this; omega
    rw [if_neg h]
    simp only [List.cons_append, hdr, e, e2, e3, e4]
    rw [if_neg (by omega), if_neg (by omega), if_neg (by rw [List.length_append, beK_length]; omega), e5, beK_val _ _ (blen_lt n), if_neg (by rintro (h1 | h1); exact e7 h1; omega), e6]
theorem hdr_inv {b r : List UInt8} {k n : Nat} (h : hdr b = some (k, n, r)) : b = headB k n ++ r ∧ (1 ≤ k ∧ k ≤ 3) ∧ n < 18446744073709551616 := by
  match b, h with
  | c :: q, h =>
    have hc := c.toNat_lt
    simp only [hdr] at h
    split at h
    · cases h
    · split at h
      · rename_i h1 h2
        cases h
        refine ⟨?_, by omega, by omega⟩
        rw [headB, if_pos h2]
        have : UInt8.ofNat (64 * (c.toNat / 64) + c.toNat % 64) = c := by
          rw [Nat.div_add_mod]; simp
        rw [this]; rfl
      · split at h
        · cases h
        · split at h
          · cases h
          · rename_i h1 h2 h3 h4
            cases h
            have hk8 : c.toNat % 64 - 55 ≤ 8 := by omega
            generalize hkk : c.toNat % 64 - 55 = m at *
            have hl : (q.take m).length = m := by rw [List.length_take]; omega
            have hlt := valA_lt (q.take m)
            rw [hl] at hlt
            have h4a : ¬ q.headD 0 = 0 := fun h => h4 (.inl h)
            have h4b : ¬ valA 0 (q.take m) < 56 := fun h => h4 (.inr h)
            have hge : 256 ^ (m - 1) ≤ valA 0 (q.take m) := by
              match q, m, h3, h4a, hl with
              | _, 0, _, _, _ => omega
              | [], m + 1, h3, _, _ => simp at h3
              | c0 :: q', m + 1, _, h4a, hl =>
                simp only [List.headD_cons] at h4a
                have h0 : c0.toNat ≠ 0 := fun h => h4a (UInt8.toNat_inj.1 (by simpa using h))
                simp only [List.take_succ_cons, List.length_cons] at hl ⊢
                rw [valA, valA_eq, Nat.add_sub_cancel]
                have e : (q'.take m).length = m := by omega
                rw [e]
                have : 1 * 256 ^ m ≤ (256 * 0 + c0.toNat) * 256 ^ m := Nat.mul_le_mul_right _ (by omega)
                omega
            have hb := blen_eq (by omega) hlt hge
            refine ⟨?_, by omega, Nat.lt_of_lt_of_le hlt ?_⟩
            · rw [headB, if_neg h4b, hb]
              have e1 : UInt8.ofNat (64 * (c.toNat / 64) + 55 + m) = c := by
                have : 64 * (c.toNat / 64) + 55 + m = c.toNat := by omega
                rw [this]; simp
              have e2 : beK m (valA 0 (q.take m)) = q.take m := by
                have := val_beK (q.take m); rwa [hl] at this
              rw [e1, e2, List.cons_append, List.take_append_drop]
            · have : (256 : Nat) ^ m ≤ 256 ^ 8 := Nat.pow_le_pow_right (by omega) hk8
              simpa using this
theorem unz_zig {i : Int} : unz (zig i) = i := by
  unfold zig unz
  split
  · have e : (2 * (-(i + 1)) + 1).toNat = 2 * (-(i + 1)).toNat + 1 := by omega
    rw [e, if_pos (by omega)]; omega
  · have e : (2 * i).toNat = 2 * i.toNat := by omega
    rw [e, if_neg (by omega)]; omega
theorem zig_unz (n : Nat) : zig (unz n) = n := by
  unfold unz zig
  split
  · rw [if_pos (by omega)]; omega
  · rw [if_neg (by omega)]; omega
theorem unz_in {n : Nat} (h : n < 18446744073709551616) : in64i (unz n) := by
  unfold unz in64i; split <;> omega

/- what is encoded is read -/
theorem rds_code {f : List UInt8 → Option (CV × List UInt8)} : ∀ (l : List CV) (s : List UInt8), (∀ v ∈ l, ∀ s, f (v.code ++ s) = some (v, s)) → rds f l.length (CV.codes l ++ s) = some (l, s)
  | [], s, _ => rfl
  | v :: l, s, h => by
    simp only [List.length_cons, rds, CV.codes, List.append_assoc, h v List.mem_cons_self, rds_code l s fun u hu => h u (List.mem_cons_of_mem _ hu)]
theorem codes_ge : ∀ (l : List CV), l.length ≤ (CV.codes l).length
  | [] => Nat.zero_le _
  | ⟨k, i, t, vs⟩ :: l => by
    have := codes_ge l
    have h1 : 1 ≤ (CV.mk k i t vs).head.length := by simp only [CV.head]; split <;> simp
    simp only [CV.codes, CV.code, List.length_cons, List.length_append]; omega
theorem CV.depths_mem : ∀ {l : List CV} {v : CV}, v ∈ l → v.depth ≤ CV.depths l
  | u :: l, v, h => by
    simp only [CV.depths]
    rcases List.mem_cons.1 h with rfl | h
    · omega
    · have := CV.depths_mem h; omega
theorem rd_code : ∀ (d : Nat) (v : CV) (s : List UInt8), v.proper = true → v.rng → v.depth ≤ d → v.w ≤ 1000000000000 → rd d (v.code ++ s) = some (v, s)
  | 0, v, _, _, _, h, _ => by have := CV.depth_pos v; omega
  | d + 1, ⟨k, i, t, l⟩, s, hp, hr, hd, hw => by
    have hnum := CV.num_lt hr hw
    have hpp := hp
    simp only [CV.proper, CV.own, Bool.and_eq_true, Bool.or_eq_true, beq_iff_eq, List.isEmpty_iff] at hp
    obtain ⟨ho, hps⟩ := hp
    rw [CV.code, head_headB, List.append_assoc, List.append_assoc, rd]
    rcases ho with (⟨⟨rfl, rfl⟩, rfl⟩ | ⟨⟨rfl, rfl⟩, rfl⟩) | ⟨⟨rfl, rfl⟩, rfl⟩
    · rw [show ((1 : Int)).toNat = 1 from rfl, hdr_headB (by omega) hnum]
      simp only [CV.num, if_true]
      rw [if_neg (by omega), if_neg (by omega), unz_zig]
      rfl
    · rw [show ((2 : Int)).toNat = 2 from rfl, hdr_headB (by omega) hnum]
      simp only [CV.num, if_true]
      rw [if_neg (by omega), if_neg (by rw [List.length_append]; omega)]
      simp [CV.codes]
    · rw [show ((3 : Int)).toNat = 3 from rfl, hdr_headB (by omega) hnum]
      have hn : (CV.mk 3 0 [] l).num = l.length := by simp [CV.num]
      simp only [hn]
      simp only [CV.w] at hw
      have hdl : CV.depths l ≤ d := by simp only [CV.depth, if_true] at hd; omega
      have key : rds (rd d) l.length (CV.codes l ++ s) = some (l, s) := rds_code l s fun v hv s => rd_code d v s (CV.propers_mem hps hv) (CV.rng_mem hr.2.2 hv) (by have := CV.depths_mem hv; omega) (by have := CV.w_mem hv; omega)
      have hg := codes_ge l
      rw [if_neg (by omega), if_neg (by simp; omega), if_neg (by omega), List.nil_append, key]

/- what is read is encoded -/
mutual
def CV.lens (N : Nat) : CV → Prop
  | .mk _ _ _ l => l.length ≤ N ∧ CV.lenss N l
def CV.lenss (N : Nat) : List CV → Prop
  | [] => True
  | v :: vs => v.lens N ∧ CV.lenss N vs
end
structure Good (d N : Nat) (b r : List UInt8) (v : CV) : Prop where
  eq : b = v.code ++ r
  proper : v.proper = true
  rng : v.rng
  depth : v.depth ≤ d
  lens : v.lens N
  w : v.w + 1 ≤ 2 * v.code.length
structure Goods (d N : Nat) (b r : List UInt8) (l : List CV) : Prop where
  eq : b = CV.codes l ++ r
  proper : CV.propers l = true
  rng : CV.rngs l
  depth : CV.depths l ≤ d
  lens : CV.lenss N l
  w : CV.ws l ≤ 2 * (CV.codes l).length
theorem rds_good {d N : Nat} {f : List UInt8 → Option (CV × List UInt8)} (hf : ∀ b v r, b.length ≤ N → f b = some (v, r) → Good d N b r v) : ∀ (n : Nat) (b : List UInt8) (l : List CV) (r : List UInt8), b.length ≤ N → rds f n b = some (l, r) → Goods d N b r l ∧ l.length = n
  | 0, b, l, r, hb, h => by
    simp only [rds] at h
    cases h
    exact ⟨⟨rfl, rfl, trivial, Nat.zero_le _, trivial, by simp [CV.ws]⟩, rfl⟩
  | n + 1, b, l, r, hb, h => by
    simp only [rds] at h
    split at h
    · cases h
    · rename_i x q hx
      split at h
      · cases h
      · rename_i xs r' hxs
        cases h
        have g1 := hf b x q hb hx
        have hq : q.length ≤ N := by have := congrArg List.length g1.eq; rw [List.length_append] at this; omega
        obtain ⟨g2, g3⟩ := rds_good hf n q xs r hq hxs
        have h1 := g1.w; have h2 := g2.w
        refine ⟨⟨by rw [CV.codes, List.append_assoc, ← g2.eq]; exact g1.eq, ?_, ⟨g1.rng, g2.rng⟩, ?_, ⟨g1.lens, g2.lens⟩, ?_⟩, by simp [g3]⟩
        · simp only [CV.propers, g1.proper, g2.proper, Bool.and_true]
        · have := g1.depth; have := g2.depth; simp only [CV.depths]; omega
        · simp only [CV.ws, CV.codes, List.length_append]; omega
theorem headB_len (k n : Nat) : 1 ≤ (headB k n).length := by unfold headB; split <;> simp
theorem rd_good (N : Nat) (hN : N ≤ 9000000000000000000) : ∀ (d : Nat) (b : List UInt8) (v : CV) (r : List UInt8), b.length ≤ N → rd d b = some (v, r) → Good d N b r v
  | 0, b, v, r, _, h => by simp [rd] at h
  | d + 1, b, v, r, hb, h => by
    simp only [rd] at h
    split at h
    · cases h
    · rename_i k n q hh
      obtain ⟨e, ⟨k1, k3⟩, hn⟩ := hdr_inv hh
      have hl := congrArg List.length e
      rw [List.length_append] at hl
      have hp := headB_len k n
      split at h
      · rename_i hk1
        subst hk1
        cases h
        have hnum : (CV.mk 1 (unz n) [] []).num = n := by simp [CV.num, zig_unz]
        have hcode : (CV.mk 1 (unz n) [] []).code = headB 1 n := by rw [CV.code, head_headB, hnum]; simp [CV.codes]
        refine ⟨by rw [hcode]; exact e, rfl, ⟨by unfold in64i; omega, unz_in hn, trivial⟩, ?_, ⟨by simp, trivial⟩, ?_⟩
        · simp [CV.depth]
        · rw [hcode]; simp [CV.w, CV.ws]; omega
      · split at h
        · cases h
        · rename_i hk1 hlen
          split at h
          · rename_i hk2
            subst hk2
            cases h
            have hnum : (CV.mk 2 0 (q.take n) []).num = n := by simp [CV.num]; omega
            have hcode : (CV.mk 2 0 (q.take n) []).code = headB 2 n ++ q.take n := by rw [CV.code, head_headB, hnum]; simp [CV.codes]
            refine ⟨by rw [hcode, List.append_assoc, List.take_append_drop]; exact e, rfl, ⟨by unfold in64i; omega, by unfold in64i; omega, trivial⟩, ?_, ⟨by simp, trivial⟩, ?_⟩
            · simp [CV.depth]
            · rw [hcode]; simp only [CV.w, CV.ws, List.length_append]; omega
          · split at h
            · cases h
            · rename_i hk2 l r' hr
              cases h
              obtain rfl : k = 3 := by omega
              obtain ⟨g, gl⟩ := rds_good (rd_good N hN d) n q l r (by omega) hr
              have hnum : (CV.mk 3 0 [] l).num = n := by simp [CV.num, gl]
              have hcode : (CV.mk 3 0 [] l).code = headB 3 n ++ CV.codes l := by rw [CV.code, head_headB, hnum]; simp
              have hw := g.w
              refine ⟨by rw [hcode, List.append_assoc, ← g.eq]; exact e, ?_, ⟨by unfold in64i; omega, by unfold in64i; omega, g.rng⟩, ?_, ⟨by omega, g.lens⟩, ?_⟩
              · simp [CV.proper, CV.own, g.proper]
              · have := g.depth; simp only [CV.depth, if_true]; omega
              · rw [hcode]; simp only [CV.w, List.length_append, List.length_nil]; omega
end Go.Proofs.Ytjjljekedgdnnaa
