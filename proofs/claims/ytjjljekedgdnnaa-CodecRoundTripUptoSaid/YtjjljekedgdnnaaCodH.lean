/-
  THE CODEC, PART H: plain facts of the models: the program's reader.
-/
import Derived.Test.YtjjljekedgdnnaaCodG
set_option linter.unusedVariables false
set_option linter.unusedSimpArgs false
namespace Go.Proofs.Ytjjljekedgdnnaa
open Go.Abs

theorem and63 (c : UInt8) : bitOp .and .u8 (c.toNat : Int) 63 = ((c.toNat % 64 : Nat) : Int) := by
  have : ∀ n : Fin 256, bitOp .and .u8 ((n.val : Nat) : Int) 63 = ((n.val % 64 : Nat) : Int) := by decide +kernel
  exact this ⟨c.toNat, c.toNat_lt⟩
theorem shr6 (c : UInt8) : (c.toNat : Int).fdiv (2 ^ (min (6 : Int).toNat IntKind.u8.bits)) = ((c.toNat / 64 : Nat) : Int) := by
  have : ∀ n : Fin 256, ((n.val : Nat) : Int).fdiv (2 ^ (min (6 : Int).toNat IntKind.u8.bits)) = ((n.val / 64 : Nat) : Int) := by decide +kernel
  exact this ⟨c.toNat, c.toNat_lt⟩
theorem shl_or {x : Nat} (hx : x < 72057594037927936) (c : UInt8) : bitOp .or .u64 (IntKind.u64.wrap ((x : Int) * 2 ^ (min (8 : Int).toNat IntKind.u64.bits))) (IntKind.u64.wrap (c.toNat : Int)) = ((256 * x + c.toNat : Nat) : Int) := by
  have hc := c.toNat_lt
  have e8 : (x : Int) * 2 ^ (min (8 : Int).toNat IntKind.u64.bits) = ((256 * x : Nat) : Int) := by
    rw [show (2 : Int) ^ (min (8 : Int).toNat IntKind.u64.bits) = 256 from by decide]; omega
  rw [e8, wrapU_in (by omega) (by omega), wrapU_in (by omega) (by omega)]
  have t1 : ∀ m : Nat, m < 18446744073709551616 → (BitVec.ofInt 64 (m : Int)).toNat = m := fun m hm => by
    rw [BitVec.toNat_ofInt]; omega
  show IntKind.u64.wrap ((BitVec.ofInt 64 ((256 * x : Nat) : Int) ||| BitVec.ofInt 64 (c.toNat : Int)).toNat : Int) = _
  rw [BitVec.toNat_or, t1 _ (by omega), t1 _ (by omega)]
  have h := Nat.shiftLeft_add_eq_or_of_lt (i := 8) (b := c.toNat) (by simpa using hc) x
  rw [Nat.shiftLeft_eq, show 2 ^ 8 = 256 from rfl, Nat.mul_comm x 256] at h
  rw [← h, wrapU_in (by omega) (by omega)]
theorem and1 {x : Nat} (hx : x < 18446744073709551616) : bitOp .and .u64 (x : Int) 1 = ((x % 2 : Nat) : Int) := by
  have t1 : (BitVec.ofInt 64 (x : Int)).toNat = x := by rw [BitVec.toNat_ofInt]; omega
  show IntKind.u64.wrap ((BitVec.ofInt 64 (x : Int) &&& BitVec.ofInt 64 1).toNat : Int) = _
  rw [BitVec.toNat_and, t1, show (BitVec.ofInt 64 1).toNat = 1 from rfl, Nat.and_one_is_mod, wrapU_in (by omega) (by omega)]

theorem m37_l1_eq {o : List UInt8} {e : UInt8} {T : List UInt8} (hT : ((((o.take (o.length : Int).toNat).drop (1 : Int).toNat).take (IntKind.i64.wrap ((IntKind.i64.wrap ((IntKind.i64.wrap (IntKind.u64.wrap (bitOp .and .u8 (e.toNat : Int) 63))) - 56)) + 1)).toNat).drop (0 : Int).toNat) = T) (h8 : T.length ≤ 8) :
    ∀ (r : List UInt8) (i k x : Nat), T.drop i = r → r.length < k → x < 256 ^ i → m37_l1 o e k (x : Int) (i : Int) = some ((valA x r : Nat) : Int)
  | _, _, 0, _, _, h, _ => by omega
  | [], i, k + 1, x, h, _, _ => by rw [m37_l1, hT, nil_drop h]; rfl
  | c :: r, i, k + 1, x, h, hk, hx => by
    have hi := drop_lt h
    have h7 : i ≤ 7 := by omega
    have hp : (256 : Nat) ^ i ≤ 256 ^ 7 := Nat.pow_le_pow_right (by omega) h7
    have hc := c.toNat_lt
    rw [m37_l1, hT, lt_drop h, cond_true, at_drop h, Option.bind_some, shl_or (by simp at hp; omega), wi_succ (by omega), m37_l1_eq hT h8 r (i + 1) k _ (drop_on h) (by simpa using hk) (by rw [Nat.pow_succ]; omega)]
    rfl
def M37 (n : Nat) (b : List UInt8) : Prop := match hdr b with
  | some (k, N, r) => m37 n b = some ((k : Int), (N : Int), true, r)
  | none => ∃ x y r', m37 n b = some (x, y, false, r') ∧ r'.length ≤ b.length
theorem m37_eq {n : Nat} (hn : 20 ≤ n) (b : List UInt8) (hb : b.length ≤ 20000000) : M37 n b := by
  unfold M37
  match b, hb with
  | [], _ => exact ⟨0, 0, [], by rw [m37]; rfl, Nat.le_refl _⟩
  | c :: q, hb =>
    have hc := c.toNat_lt
    have ea : at? (c :: q) 0 = some c := at_get (l := c :: q) (i := 0) (by simp)
    have et : ((c :: q).take ((c :: q).length : Int).toNat).drop (1 : Int).toNat = q := by simp
    have e1 : IntKind.i64.wrap ((c.toNat : Int).fdiv (2 ^ (min (6 : Int).toNat IntKind.u8.bits))) = ((c.toNat / 64 : Nat) : Int) := by rw [shr6, wrap64_in (by omega) (by omega)]
    have e2 : IntKind.u64.wrap (bitOp .and .u8 (c.toNat : Int) 63) = ((c.toNat % 64 : Nat) : Int) := by rw [and63, wrapU_in (by omega) (by omega)]
    have e0 : ((((c :: q).length : Nat) : Int) == 0) = false := by rw [beq_eq_false_iff_ne]; simp; omega
    simp only [List.length_cons] at hb
    generalize hm : m37 n (c :: q) = Z
    rw [m37, e0, cond_false, ea, Option.bind_some, Option.bind_some, req_t ⟨by omega, by simp; omega, by omega⟩, e1, e2, et] at hm
    subst hm
    rw [hdr]
    by_cases h0 : c.toNat < 64
    · have : ((((c.toNat / 64 : Nat) : Int)) == 0) = true := by rw [beq_iff_eq]; omega
      rw [if_pos h0, this]
      exact ⟨_, _, _, rfl, by simp⟩
    · have : ((((c.toNat / 64 : Nat) : Int)) == 0) = false := by rw [beq_eq_false_iff_ne]; omega
      rw [if_neg h0, this, cond_false]
      by_cases h1 : c.toNat % 64 < 56
      · rw [if_pos h1, decide_eq_true (by omega : ((c.toNat % 64 : Nat) : Int) < 56)]
        rfl
      · have e3 : IntKind.i64.wrap (IntKind.i64.wrap (IntKind.i64.wrap ((c.toNat % 64 : Nat) : Int) - 56) + 1) = ((c.toNat % 64 - 55 : Nat) : Int) := by
          rw [wrap64_in (n := ((c.toNat % 64 : Nat) : Int)) (by omega) (by omega), wrap64_in (n := ((c.toNat % 64 : Nat) : Int) - 56) (by omega) (by omega), wrap64_in (by omega) (by omega)]; omega
        have hT := m37_l1_eq (o := c :: q) (e := c) (T := q.take (c.toNat % 64 - 55)) (by rw [et, e2, e3]; simp) (by rw [List.length_take]; omega) (q.take (c.toNat % 64 - 55)) 0 n 0 rfl (by rw [List.length_take]; omega) (by simp)
        have hT' : m37_l1 (c :: q) c n 0 0 = some ((valA 0 (q.take (c.toNat % 64 - 55)) : Nat) : Int) := hT
        rw [if_neg h1, decide_eq_false (by omega : ¬ ((c.toNat % 64 : Nat) : Int) < 56), cond_false, e3]
        have hmk : c.toNat % 64 - 55 ≤ 8 ∧ 1 ≤ c.toNat % 64 - 55 := by omega
        generalize c.toNat % 64 - 55 = m at *
        by_cases h2 : q.length < m
        · rw [if_pos h2, decide_eq_true (by omega : (q.length : Int) < (m : Int))]
          exact ⟨_, _, _, rfl, by simp⟩
        · have hl : (q.take m).length = m := by rw [List.length_take]; omega
          have hlt := valA_lt (q.take m)
          rw [hl] at hlt
          have hp8 : (256 : Nat) ^ m ≤ 256 ^ 8 := Nat.pow_le_pow_right (by omega) hmk.1
          have hN : valA 0 (q.take m) < 18446744073709551616 := by simp at hp8; omega
          have ed : (q.take ((q.length : Nat) : Int).toNat).drop ((m : Nat) : Int).toNat = q.drop m := by simp
          rw [if_neg h2, decide_eq_false (by omega : ¬ (q.length : Int) < (m : Int)), cond_false, req_t ⟨by omega, by omega, by omega⟩, hT', Option.bind_some, req_t ⟨by omega, by omega, by omega⟩, ed, m40_eq (by omega) hN]
          by_cases h3 : valA 0 (q.take m) < 56
          · rw [if_pos (.inr h3), decide_eq_false (by omega : ¬ (56 : Int) ≤ ((valA 0 (q.take m) : Nat) : Int))]
            exact ⟨_, _, _, rfl, by simp; omega⟩
          · rw [decide_eq_true (by omega : (56 : Int) ≤ ((valA 0 (q.take m) : Nat) : Int)), cond_true, Option.bind_some, Option.bind_some]
            by_cases h4 : q.headD 0 = 0
            · have : (((blen (valA 0 (q.take m)) : Nat) : Int) == (m : Int)) = false := by
                rw [beq_eq_false_iff_ne]
                intro hcon
                have hcon : blen (valA 0 (q.take m)) = m := by omega
                match q, m, h2, h4, hl, hmk with
                | [], m, h2, _, _, hmk => simp at h2; omega
                | c0 :: q', m + 1, h2, h4, hl, hmk =>
                  simp only [List.headD_cons] at h4
                  subst h4
                  simp only [List.take_succ_cons, List.length_cons] at hl hcon h3
                  rw [valA] at hcon h3
                  have e5 : 256 * 0 + (0 : UInt8).toNat = 0 := rfl
                  rw [e5] at hcon h3
                  have hv := valA_lt (q'.take m)
                  have e6 : (q'.take m).length = m := by omega
                  rw [e6] at hv
                  rcases Nat.eq_zero_or_pos m with hm0 | hm1
                  · rw [hm0, Nat.pow_zero] at hv
                    rw [hm0] at h3
                    omega
                  · have := blen_le (k := m) hm1 hv; omega
              rw [if_pos (.inl h4), this]
              exact ⟨_, _, _, rfl, by simp; omega⟩
            · have : (((blen (valA 0 (q.take m)) : Nat) : Int) == (m : Int)) = true := by
                rw [beq_iff_eq]
                have hge : 256 ^ (m - 1) ≤ valA 0 (q.take m) := by
                  match q, m, h2, h4, hl, hmk with
                  | [], m, h2, _, _, hmk => simp at h2; omega
                  | c0 :: q', m + 1, h2, h4, hl, hmk =>
                    simp only [List.headD_cons] at h4
                    have h0 : c0.toNat ≠ 0 := fun h => h4 (UInt8.toNat_inj.1 (by simpa using h))
                    simp only [List.take_succ_cons, List.length_cons] at hl ⊢
                    rw [valA, valA_eq, Nat.add_sub_cancel]
                    have e : (q'.take m).length = m := by omega
                    rw [e]
                    have : 1 * 256 ^ m ≤ (256 * 0 + c0.toNat) * 256 ^ m := Nat.mul_le_mul_right _ (by omega)
                    omega
                rw [blen_eq hmk.2 hlt hge]
              rw [if_neg (by rintro (h | h); exact h4 h; exact h3 h), this]

theorem hdr_len {b r : List UInt8} {k n : Nat} (h : hdr b = some (k, n, r)) : r.length < b.length := by
  have h1 := congrArg List.length (hdr_inv h).1
  have h2 := headB_len k n
  rw [List.length_append] at h1; omega
theorem m38_eq {r : List UInt8} {n : Nat} (hn : n < 18446744073709551616) (hr : r.length ≤ 20000000) : m38 r (n : Int) = some (bif decide (r.length < n) then ([], false, r) else (r.take n, true, r.drop n)) := by
  rw [m38, wrapU_in (by omega) (by omega)]
  by_cases h : r.length < n
  · rw [decide_eq_true h, decide_eq_true (by omega : (r.length : Int) < (n : Int))]; rfl
  · rw [decide_eq_false h, decide_eq_false (by omega : ¬ (r.length : Int) < (n : Int)), cond_false, req_t ⟨by omega, by omega, by omega⟩, req_t ⟨by omega, by omega, by omega⟩]
    simp
def M36 (F : Int → List UInt8 → Option (CV × Bool × List UInt8)) (d : Nat) (b : List UInt8) : Prop := match rd d b with
  | some (v, r) => F (65 - (d : Int)) b = some (v, true, r)
  | none => ∃ v r, F (65 - (d : Int)) b = some (v, false, r)
theorem m36_l1_eq {F : Int → List UInt8 → Option (CV × Bool × List UInt8)} {d : Nat} (hd : d ≤ 64) {N : Nat} (hN : N ≤ 20000000) {L : Nat} (hF : ∀ b, b.length ≤ L → M36 F d b) : ∀ (m i k : Nat) (b : List UInt8) (acc : List CV), m + i = N → m < k → b.length ≤ L → L ≤ 20000000 → acc.length ≤ i →
    match rds (rd d) m b with
    | some (l, r) => m36_l1 F (65 - ((d : Int) + 1)) (N : Int) k b (i : Int) acc = some (.go (r, acc ++ l))
    | none => ∃ v r, m36_l1 F (65 - ((d : Int) + 1)) (N : Int) k b (i : Int) acc = some (.ret (v, false, r))
  | _, _, 0, _, _, _, h, _, _, _ => by omega
  | 0, i, k + 1, b, acc, hm, _, _, _, _ => by
    simp only [rds]
    rw [m36_l1, decide_eq_false (by omega : ¬ (i : Int) < (N : Int)), List.append_nil]; rfl
  | m + 1, i, k + 1, b, acc, hm, hk, hb, hL, ha => by
    have h := hF b hb
    unfold M36 at h
    have e : IntKind.i64.wrap (65 - ((d : Int) + 1) + 1) = 65 - (d : Int) := by rw [wrap64_in (by omega) (by omega)]; omega
    simp only [rds]
    cases hx : rd d b with
    | none =>
      rw [hx] at h
      obtain ⟨⟨v1, v2, v3, v4⟩, r, h⟩ := h
      exact ⟨_, _, by rw [m36_l1, decide_eq_true (by omega : (i : Int) < (N : Int)), cond_true, e, h]; rfl⟩
    | some p =>
      obtain ⟨⟨v1, v2, v3, v4⟩, r⟩ := p
      rw [hx] at h
      dsimp only at h ⊢
      have hg := (rd_good b.length (by omega) d b _ r (Nat.le_refl _) hx).eq
      have hlen := congrArg List.length hg
      rw [List.length_append] at hlen
      have hw : IntKind.u64.wrap ((i : Int) + 1) = ((i + 1 : Nat) : Int) := by rw [wrapU_in (by omega) (by omega)]; rfl
      have ih := m36_l1_eq hd hN hF m (i + 1) k r (acc ++ [CV.mk v1 v2 v3 v4]) (by omega) (by omega) (by omega) hL (by simp; omega)
      have step : m36_l1 F (65 - ((d : Int) + 1)) (N : Int) (k + 1) b (i : Int) acc = m36_l1 F (65 - ((d : Int) + 1)) (N : Int) k r ((i + 1 : Nat) : Int) (acc ++ [CV.mk v1 v2 v3 v4]) := by
        rw [m36_l1, decide_eq_true (by omega : (i : Int) < (N : Int)), cond_true, e, h]
        simp only [Option.bind_some, Bool.not_true, cond_false]
        rw [req_t (by simp; omega), hw]
      cases hy : rds (rd d) m r with
      | none =>
        rw [hy] at ih
        obtain ⟨v, r2, ih⟩ := ih
        exact ⟨v, r2, step.trans ih⟩
      | some q =>
        obtain ⟨l, r2⟩ := q
        rw [hy] at ih
        dsimp only at ih ⊢
        rw [step, ih]; simp
theorem m36_eq : ∀ (n d : Nat) (b : List UInt8), d ≤ 64 → b.length ≤ 20000000 → b.length + d + 30 < n → M36 (m36 n) d b
  | 0, _, _, _, _, h => by omega
  | n + 1, 0, b, _, hb, hn => by
    unfold M36
    exact ⟨_, _, by rw [m36]; rfl⟩
  | n + 1, d + 1, b, hd, hb, hn => by
    have h37 := m37_eq (n := n) (by omega) b hb
    unfold M37 at h37
    unfold M36
    rw [rd]
    have e64 : decide (64 < 65 - (((d + 1 : Nat)) : Int)) = false := decide_eq_false (by omega)
    cases hh : hdr b with
    | none =>
      rw [hh] at h37
      obtain ⟨x, y, r', h37, _⟩ := h37
      exact ⟨_, _, by rw [m36, e64, cond_false, h37]; rfl⟩
    | some p =>
      obtain ⟨k, N, r⟩ := p
      rw [hh] at h37
      obtain ⟨_, hk, hN⟩ := hdr_inv hh
      have hrl := hdr_len hh
      dsimp only at h37 ⊢
      generalize hstep : m36 (n + 1) (65 - (((d + 1 : Nat)) : Int)) b = Z
      rw [m36, e64, cond_false, h37] at hstep
      simp only [Option.bind_some, Bool.not_true, cond_false] at hstep
      by_cases k1 : k = 1
      · subst k1
        rw [if_pos rfl]
        dsimp only
        rw [← hstep, show (((1 : Nat) : Int) == 1) = true from rfl, cond_true, and1 hN]
        have es := shr_nat N 1 (by omega)
        rw [show ((1 : Nat) : Int) = 1 from rfl, show (2 : Nat) ^ 1 = 2 from rfl] at es
        rw [es, wrap64_in (n := ((N / 2 : Nat) : Int)) (by omega) (by omega)]
        unfold unz
        by_cases ho : N % 2 = 1
        · rw [if_pos ho, show ((((N % 2 : Nat)) : Int) == 1) = true by rw [beq_iff_eq]; omega, cond_true, wrap64_in (n := 0 - ((N / 2 : Nat) : Int)) (by omega) (by omega), wrap64_in (by omega) (by omega)]
          simp only [Option.bind_some]
          congr 3; omega
        · rw [if_neg ho, show ((((N % 2 : Nat)) : Int) == 1) = false by rw [beq_eq_false_iff_ne]; omega]
          rfl
      · have e1 : (((k : Nat) : Int) == 1) = false := by rw [beq_eq_false_iff_ne]; omega
        rw [if_neg k1]
        rw [e1, cond_false] at hstep
        by_cases k2 : k = 2
        · subst k2
          rw [show (((2 : Nat) : Int) == 2) = true from rfl, cond_true, m38_eq hN (by omega), Option.bind_some] at hstep
          by_cases hl : r.length < N
          · rw [if_pos hl]
            rw [decide_eq_true hl] at hstep
            exact ⟨_, _, hstep.symm⟩
          · rw [if_neg hl, if_pos rfl]
            rw [decide_eq_false hl] at hstep
            exact hstep.symm
        · have e2 : (((k : Nat) : Int) == 2) = false := by rw [beq_eq_false_iff_ne]; omega
          rw [e2, cond_false, wrapU_in (by omega) (by omega)] at hstep
          by_cases hl : r.length < N
          · rw [if_pos hl]
            rw [decide_eq_true (by omega : (r.length : Int) < (N : Int)), cond_true] at hstep
            exact ⟨_, _, hstep.symm⟩
          · obtain rfl : k = 3 := by omega
            rw [if_neg hl, if_neg (by omega)]
            rw [decide_eq_false (by omega : ¬ (r.length : Int) < (N : Int)), cond_false] at hstep
            have key := m36_l1_eq (F := m36 n) (d := d) (by omega) (N := N) (by omega) (L := r.length) (fun b' hb' => m36_eq n d b' (by omega) (by omega) (by omega)) N 0 n r [] (by omega) (by omega) (Nat.le_refl _) (by omega) (by simp)
            have ea : 65 - ((d : Int) + 1) = 65 - (((d + 1 : Nat)) : Int) := by omega
            rw [ea] at key
            cases hy : rds (rd d) N r with
            | none =>
              rw [hy] at key
              obtain ⟨v, r2, key⟩ := key
              have key' : m36_l1 (m36 n) (65 - (((d + 1 : Nat)) : Int)) (N : Int) n r 0 [] = _ := key
              rw [key'] at hstep
              exact ⟨_, _, hstep.symm⟩
            | some q =>
              obtain ⟨l, r2⟩ := q
              rw [hy] at key
              have key' : m36_l1 (m36 n) (65 - (((d + 1 : Nat)) : Int)) (N : Int) n r 0 [] = _ := key
              rw [key'] at hstep
              exact hstep.symm

theorem m34_eq {n : Nat} {b : List UInt8} (hb : b.length ≤ 20000000) (hn : b.length + 100 < n) : match rd 64 b with
    | some (v, r) => m34 n b = some (v, true, r)
    | none => ∃ v r, m34 n b = some (v, false, r) := by
  have h := m36_eq n 64 b (by omega) hb (by omega)
  unfold M36 at h
  cases hx : rd 64 b with
  | none =>
    rw [hx] at h
    obtain ⟨⟨v1, v2, v3, v4⟩, r, h⟩ := h
    have h' : m36 n 1 b = _ := h
    exact ⟨_, _, by rw [m34, h']; rfl⟩
  | some p =>
    obtain ⟨⟨v1, v2, v3, v4⟩, r⟩ := p
    rw [hx] at h
    have h' : m36 n 1 b = _ := h
    dsimp only
    rw [m34, h']; rfl
/-- What Decode returns. -/
def dec (b : List UInt8) : CV × Int := if 1048576 < b.length then (.mk 0 0 [] [], 4) else match rd 64 b with
  | some (v, []) => (v, 0)
  | _ => (.mk 0 0 [] [], 4)
theorem m22_eq {n : Nat} {b : List UInt8} (hn : 1048700 < n) : m22 n b = some (dec b) := by
  unfold dec
  rw [m22]
  by_cases hl : 1048576 < b.length
  · rw [if_pos hl, decide_eq_true (by omega : (1048576 : Int) < (b.length : Int))]; rfl
  · have h := m34_eq (n := n) (b := b) (by omega) (by omega)
    rw [if_neg hl, decide_eq_false (by omega : ¬ (1048576 : Int) < (b.length : Int)), cond_false]
    cases hx : rd 64 b with
    | none =>
      rw [hx] at h
      obtain ⟨⟨v1, v2, v3, v4⟩, r, h⟩ := h
      rw [h]; rfl
    | some p =>
      obtain ⟨⟨v1, v2, v3, v4⟩, r⟩ := p
      rw [hx] at h
      dsimp only at h
      rw [h]
      cases r with
      | nil => rfl
      | cons c r =>
        have : decide (0 < (((c :: r).length : Nat) : Int)) = true := decide_eq_true (by simp <;> omega)
        simp only [Option.bind_some, Bool.not_true, cond_false, this, cond_true]
end Go.Proofs.Ytjjljekedgdnnaa
