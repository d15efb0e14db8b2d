/-
  THE CODEC, PART I: plain facts of the models: the reference's reader; the laws of decoding.
-/
import Derived.Test.YtjjljekedgdnnaaCodH
set_option linter.unusedVariables false
set_option linter.unusedSimpArgs false
namespace Go.Proofs.Ytjjljekedgdnnaa
open Go.Abs

theorem at_some {α : Type} {l : List α} {i : Nat} {c : α} (h : l[i]? = some c) : at? l (i : Int) = some c := by simp [at?, h]
theorem drop_getElem {α : Type} {l : List α} {i : Nat} {c : α} {r : List α} (h : l.drop i = c :: r) : l[i]? = some c := by
  have := at_drop h
  simpa [at?] using this

theorem m27_l1_eq {c0 e : UInt8} {q : List UInt8} {m : Nat} (hm : IntKind.i64.wrap ((IntKind.i64.wrap (IntKind.u64.wrap ((e.toNat : Int).tmod 64))) - 55) = (m : Int)) (h8 : m ≤ 8) (hq : m ≤ q.length) :
    ∀ (r : List UInt8) (i k x : Nat), (q.take m).drop i = r → r.length < k → x < 256 ^ i → m27_l1 (c0 :: q) e k ((i + 1 : Nat) : Int) (x : Int) = some ((valA x r : Nat) : Int)
  | _, _, 0, _, _, h, _ => by omega
  | [], i, k + 1, x, h, _, _ => by
    have h1 := List.drop_eq_nil_iff.1 h
    rw [List.length_take] at h1
    rw [m27_l1, hm, decide_eq_false (by omega : ¬ ((i + 1 : Nat) : Int) ≤ (m : Int))]; rfl
  | c :: r, i, k + 1, x, h, hk, hx => by
    have hi := drop_lt h
    rw [List.length_take] at hi
    have h7 : i ≤ 7 := by omega
    have hp : (256 : Nat) ^ i ≤ 256 ^ 7 := Nat.pow_le_pow_right (by omega) h7
    have hc := c.toNat_lt
    have hx' : x < 72057594037927936 := by simp at hp; omega
    have hg : (c0 :: q)[i + 1]? = some c := by
      have := drop_getElem h
      rw [List.getElem?_take, if_pos (by omega)] at this
      simpa using this
    have ew : IntKind.u64.wrap (IntKind.u64.wrap (256 * (x : Int)) + IntKind.u64.wrap (c.toNat : Int)) = ((256 * x + c.toNat : Nat) : Int) := by
      rw [wrapU_in (n := 256 * (x : Int)) (by omega) (by omega), wrapU_in (n := (c.toNat : Int)) (by omega) (by omega), wrapU_in (by omega) (by omega)]; omega
    rw [m27_l1, hm, decide_eq_true (by omega : ((i + 1 : Nat) : Int) ≤ (m : Int)), cond_true, at_some hg, Option.bind_some, ew, wi_succ (by omega), m27_l1_eq hm h8 hq r (i + 1) k _ (drop_on h) (by simpa using hk) (by rw [Nat.pow_succ]; omega)]
    rfl

def M27 (F : List UInt8 → Int → Option (CV × Int)) (d : Nat) (b : List UInt8) : Prop := match rd d b with
  | some (v, r) => F b (d : Int) = some (v, ((b.length - r.length : Nat) : Int))
  | none => F b (d : Int) = some (.mk 0 0 [] [], 0)
theorem code_pos (v : CV) : 1 ≤ v.code.length := by
  obtain ⟨k, i, t, l⟩ := v
  have h1 : 1 ≤ (CV.mk k i t l).head.length := by simp only [CV.head]; split <;> simp
  simp only [CV.code, List.length_append]; omega
theorem m27_l2_eq {F : List UInt8 → Int → Option (CV × Int)} {d : Nat} (hd : d ≤ 64) {N : Nat} (hN : N ≤ 20000000) {b : List UInt8} (hb : b.length ≤ 20000000) (hF : ∀ b', b'.length ≤ b.length → b'.length < b.length → M27 F d b') :
    ∀ (m i k at' : Nat) (acc : List CV), m + i = N → m < k → at' ≤ b.length → 1 ≤ at' → acc.length ≤ i →
    match rds (rd d) m (b.drop at') with
    | some (l, r) => m27_l2 F b ((d : Int) + 1) (N : Int) k (i : Int) (at' : Int) acc = some (.go (((b.length - r.length : Nat) : Int), acc ++ l))
    | none => m27_l2 F b ((d : Int) + 1) (N : Int) k (i : Int) (at' : Int) acc = some (.ret (.mk 0 0 [] [], 0))
  | _, _, 0, _, _, _, h, _, _, _ => by omega
  | 0, i, k + 1, at', acc, hm, _, ha, h1, _ => by
    simp only [rds]
    rw [m27_l2, wrap64_in (n := (N : Int)) (by omega) (by omega), decide_eq_false (by omega : ¬ (i : Int) < (N : Int)), List.append_nil, List.length_drop]
    have : b.length - (b.length - at') = at' := by omega
    rw [this]; rfl
  | m + 1, i, k + 1, at', acc, hm, hk, ha, h1, hacc => by
    have hlen : (b.drop at').length = b.length - at' := List.length_drop
    have ed : (b.take ((b.length : Nat) : Int).toNat).drop ((at' : Nat) : Int).toNat = b.drop at' := by simp
    have e : IntKind.i64.wrap ((d : Int) + 1 - 1) = (d : Int) := by rw [wrap64_in (by omega) (by omega)]; omega
    generalize hZ : m27_l2 F b ((d : Int) + 1) (N : Int) (k + 1) (i : Int) (at' : Int) acc = Z
    rw [m27_l2, wrap64_in (n := (N : Int)) (by omega) (by omega), decide_eq_true (by omega : (i : Int) < (N : Int)), cond_true, req_t ⟨by omega, by omega, by omega⟩, ed, e] at hZ
    simp only [rds]
    have hmf : M27 F d (b.drop at') := hF (b.drop at') (by omega) (by omega)
    unfold M27 at hmf
    cases hx : rd d (b.drop at') with
    | none =>
      rw [hx] at hmf
      dsimp only at hmf ⊢
      rw [← hZ, hmf]; rfl
    | some p =>
      obtain ⟨⟨v1, v2, v3, v4⟩, r⟩ := p
      rw [hx] at hmf
      dsimp only at hmf ⊢
      have hg := (rd_good (b.drop at').length (by omega) d _ _ r (Nat.le_refl _) hx).eq
      have hl2 := congrArg List.length hg
      have hcp := code_pos (CV.mk v1 v2 v3 v4)
      rw [List.length_append] at hl2
      have hz : ((((b.drop at').length - r.length : Nat) : Int) == 0) = false := by rw [beq_eq_false_iff_ne]; omega
      have hat : IntKind.i64.wrap ((at' : Int) + (((b.drop at').length - r.length : Nat) : Int)) = ((b.length - r.length : Nat) : Int) := by rw [wrap64_in (by omega) (by omega)]; omega
      have hr : b.drop (b.length - r.length) = r := by
        have e1 : b.length - r.length = at' + (CV.mk v1 v2 v3 v4).code.length := by omega
        rw [e1, ← List.drop_drop, hg, List.drop_left]
      rw [hmf] at hZ
      simp only [Option.bind_some] at hZ
      rw [hz, cond_false, req_t (by simp; omega), wi_succ (by omega), hat] at hZ
      have ih := m27_l2_eq hd hN hb hF m (i + 1) k (b.length - r.length) (acc ++ [CV.mk v1 v2 v3 v4]) (by omega) (by omega) (by omega) (by omega) (by simp; omega)
      rw [hr] at ih
      cases hy : rds (rd d) m r with
      | none =>
        rw [hy] at ih
        dsimp only at ih ⊢
        rw [← hZ, ih]
      | some q =>
        obtain ⟨l, r2⟩ := q
        rw [hy] at ih
        dsimp only at ih ⊢
        rw [← hZ, ih]; simp

theorem m27_eq : ∀ (n d : Nat) (b : List UInt8), d ≤ 64 → b.length ≤ 20000000 → b.length + d + 30 < n → M27 (m27 n) d b
  | 0, _, _, _, _, h => by omega
  | n + 1, d, [], hd, hb, hn => by
    unfold M27
    have : rd d [] = none := by cases d <;> rfl
    rw [this]
    dsimp only
    rw [m27]; rfl
  | n + 1, 0, c :: q, hd, hb, hn => by
    unfold M27
    dsimp only [rd]
    have e0 : ((((c :: q).length : Nat) : Int) == 0) = false := by rw [beq_eq_false_iff_ne]; simp; omega
    rw [m27, e0]; rfl
  | n + 1, d + 1, c :: q, hd, hb, hn => by
    unfold M27
    have hc := c.toNat_lt
    simp only [List.length_cons] at hb hn
    have e0 : ((((c :: q).length : Nat) : Int) == 0) = false := by rw [beq_eq_false_iff_ne]; simp; omega
    have e1 : ((((d + 1 : Nat)) : Int) == 0) = false := by rw [beq_eq_false_iff_ne]; omega
    have ea : at? (c :: q) 0 = some c := at_get (l := c :: q) (i := 0) (by simp)
    have e2 : IntKind.u64.wrap ((c.toNat : Int).tmod 64) = ((c.toNat % 64 : Nat) : Int) := by
      rw [Int.tmod_eq_emod_of_nonneg (by omega), wrapU_in (by omega) (by omega)]; omega
    have e7 : IntKind.i64.wrap ((IntKind.i64.wrap (c.toNat : Int)).tdiv 64) = ((c.toNat / 64 : Nat) : Int) := by
      rw [wrap64_in (n := (c.toNat : Int)) (by omega) (by omega), Int.tdiv_eq_ediv_of_nonneg (by omega), wrap64_in (by omega) (by omega)]; omega
    generalize hZ : m27 (n + 1) (c :: q) (((d + 1 : Nat)) : Int) = Z
    rw [m27, e0, cond_false, e1, cond_false, ea] at hZ
    simp only [Option.bind_some] at hZ
    rw [e2, e7] at hZ
    by_cases h0 : c.toNat < 64
    · rw [decide_eq_true (by omega : (c.toNat : Int) < 64), cond_true] at hZ
      simp only [rd, hdr, if_pos h0]
      exact hZ.symm
    · rw [decide_eq_false (by omega : ¬ (c.toNat : Int) < 64), cond_false] at hZ
      -- what is behind the head
      have tail : ∀ (N at' : Nat) (r : List UInt8), N < 18446744073709551616 → (c :: q).drop at' = r → 1 ≤ at' → at' ≤ (c :: q).length →
          ((bif ((((c.toNat / 64 : Nat)) : Int) == 1) then (
            bif (((N : Int).tmod 2) == 1) then (
              some (.go ((at' : Int), IntKind.i64.wrap ((IntKind.i64.wrap (0 - (IntKind.i64.wrap (IntKind.u64.wrap ((N : Int).tdiv 2))))) - 1), [], []))
            ) else (
              some (.go ((at' : Int), IntKind.i64.wrap (IntKind.u64.wrap ((N : Int).tdiv 2)), [], []))
            )
          ) else (
            bif ((((c.toNat / 64 : Nat)) : Int) == 2) then (
              bif decide ((IntKind.u64.wrap (IntKind.i64.wrap (((c :: q).length : Int) - (at' : Int)))) < (N : Int)) then (
                some (.ret (CV.mk 0 0 [] [], 0))
              ) else (
                req (0 ≤ (at' : Int) ∧ (at' : Int) ≤ IntKind.i64.wrap ((at' : Int) + (IntKind.i64.wrap (N : Int))) ∧ IntKind.i64.wrap ((at' : Int) + (IntKind.i64.wrap (N : Int))) ≤ ((c :: q).length : Int)) <|
                some (.go (IntKind.i64.wrap ((at' : Int) + (IntKind.i64.wrap (N : Int))), 0, ((c :: q).take (IntKind.i64.wrap ((at' : Int) + (IntKind.i64.wrap (N : Int)))).toNat).drop (at' : Int).toNat, []))
              )
            ) else (
              bif decide ((IntKind.u64.wrap (IntKind.i64.wrap (((c :: q).length : Int) - (at' : Int)))) < (N : Int)) then (
                some (.ret (CV.mk 0 0 [] [], 0))
              ) else (
                (m27_l2 (m27 n) (c :: q) (((d + 1 : Nat)) : Int) (N : Int) n 0 (at' : Int) []).bind fun fl => match fl with
                | .ret r => some (.ret r)
                | .go ⟨x35, l36⟩ =>
                  some (.go (x35, 0, [], l36))
              )
            )
          ) : Option (Fl (CV × Int) (Int × Int × (List UInt8) × (List CV)))).bind fun fl => match fl with
          | .ret r => some r
          | .go ⟨x22, x23, x24, l25⟩ =>
            some (CV.mk (((c.toNat / 64 : Nat)) : Int) x23 x24 l25, x22)) = match (if c.toNat / 64 = 1 then some (CV.mk 1 (unz N) [] [], r) else if r.length < N then none else if c.toNat / 64 = 2 then some (.mk 2 0 (r.take N) [], r.drop N)
              else match rds (rd d) N r with
                | none => none
                | some (l, r') => some (.mk 3 0 [] l, r')) with
            | some (v, r) => some (v, (((c :: q).length - r.length : Nat) : Int))
            | none => some (CV.mk 0 0 [] [], 0) := by
        intro N at' r hN hr ha1 ha2
        have hrl : r.length = (c :: q).length - at' := by rw [← hr, List.length_drop]
        simp only [List.length_cons] at ha2 hrl ⊢
        have hw : IntKind.u64.wrap (IntKind.i64.wrap (((q.length + 1 : Nat) : Int) - (at' : Int))) = (r.length : Int) := by
          rw [wrap64_in (by omega) (by omega), wrapU_in (by omega) (by omega)]; omega
        by_cases k1 : c.toNat / 64 = 1
        · rw [if_pos k1, k1, show (((1 : Nat) : Int) == 1) = true from rfl, cond_true]
          have et : (N : Int).tmod 2 = ((N % 2 : Nat) : Int) := by rw [Int.tmod_eq_emod_of_nonneg (by omega)]; omega
          have ev : IntKind.i64.wrap (IntKind.u64.wrap ((N : Int).tdiv 2)) = ((N / 2 : Nat) : Int) := by
            rw [Int.tdiv_eq_ediv_of_nonneg (by omega), wrapU_in (by omega) (by omega), wrap64_in (by omega) (by omega)]; omega
          have eat : (((q.length + 1 - r.length : Nat)) : Int) = (at' : Int) := by omega
          rw [et, ev]
          dsimp only
          rw [eat]
          unfold unz
          by_cases ho : N % 2 = 1
          · rw [if_pos ho, show ((((N % 2 : Nat)) : Int) == 1) = true by rw [beq_iff_eq]; omega, cond_true, wrap64_in (n := 0 - ((N / 2 : Nat) : Int)) (by omega) (by omega), wrap64_in (by omega) (by omega)]
            simp only [Option.bind_some]
            congr 3; omega
          · rw [if_neg ho, show ((((N % 2 : Nat)) : Int) == 1) = false by rw [beq_eq_false_iff_ne]; omega]
            rfl
        · rw [if_neg k1, show ((((c.toNat / 64 : Nat)) : Int) == 1) = false by rw [beq_eq_false_iff_ne]; omega, cond_false]
          simp only [hw]
          by_cases k2 : c.toNat / 64 = 2
          · rw [show ((((c.toNat / 64 : Nat)) : Int) == 2) = true by rw [beq_iff_eq]; omega, cond_true]
            by_cases hl : r.length < N
            · rw [if_pos hl, decide_eq_true (by omega : (r.length : Int) < (N : Int))]; rfl
            · have es : IntKind.i64.wrap ((at' : Int) + (IntKind.i64.wrap (N : Int))) = ((at' + N : Nat) : Int) := by
                rw [wrap64_in (n := (N : Int)) (by omega) (by omega), wrap64_in (by omega) (by omega)]; omega
              have ed : (((c :: q).take ((((at' + N : Nat)) : Int)).toNat).drop ((at' : Int)).toNat) = r.take N := by
                rw [← hr]
                have x1 : ((((at' + N : Nat)) : Int)).toNat = at' + N := by omega
                have x2 : ((at' : Int)).toNat = at' := by omega
                rw [x1, x2, List.drop_take]; congr 1; omega
              rw [if_neg hl, if_pos k2, decide_eq_false (by omega : ¬ (r.length : Int) < (N : Int)), cond_false, es, req_t ⟨by omega, by omega, by omega⟩, ed, k2]
              dsimp only
              rw [List.length_drop]
              have : (((q.length + 1 - (r.length - N) : Nat)) : Int) = ((at' + N : Nat) : Int) := by omega
              rw [this]; rfl
          · rw [show ((((c.toNat / 64 : Nat)) : Int) == 2) = false by rw [beq_eq_false_iff_ne]; omega, cond_false]
            by_cases hl : r.length < N
            · rw [if_pos hl, decide_eq_true (by omega : (r.length : Int) < (N : Int))]; rfl
            · have k3 : c.toNat / 64 = 3 := by omega
              rw [if_neg hl, if_neg k2, decide_eq_false (by omega : ¬ (r.length : Int) < (N : Int)), cond_false, k3]
              have key := m27_l2_eq (F := m27 n) (d := d) (by omega) (N := N) (by omega) (b := c :: q) (by simp; omega) (fun b' h1 h2 => m27_eq n d b' (by omega) (by simp at h1; omega) (by simp at h1; omega)) N 0 n at' [] (by omega) (by omega) (by simp; omega) ha1 (by simp)
              rw [hr] at key
              cases hy : rds (rd d) N r with
              | none =>
                rw [hy] at key
                have key' : m27_l2 (m27 n) (c :: q) (((d + 1 : Nat)) : Int) (N : Int) n 0 (at' : Int) [] = _ := key
                rw [key']; rfl
              | some p =>
                obtain ⟨l, r2⟩ := p
                rw [hy] at key
                have key' : m27_l2 (m27 n) (c :: q) (((d + 1 : Nat)) : Int) (N : Int) n 0 (at' : Int) [] = _ := key
                rw [key']; rfl
      have hrd : ∀ {k N : Nat} {r : List UInt8}, hdr (c :: q) = some (k, N, r) → rd (d + 1) (c :: q) = (if k = 1 then some (CV.mk 1 (unz N) [] [], r) else if r.length < N then none else if k = 2 then some (.mk 2 0 (r.take N) [], r.drop N)
              else match rds (rd d) N r with
                | none => none
                | some (l, r') => some (.mk 3 0 [] l, r')) := fun h => by rw [rd, h]; rfl
      have fin : ∀ {N at' : Nat} {r : List UInt8}, hdr (c :: q) = some (c.toNat / 64, N, r) → N < 18446744073709551616 → (c :: q).drop at' = r → 1 ≤ at' → at' ≤ (c :: q).length → ∀ {W : Option (CV × Int)}, _ = W → (match rd (d + 1) (c :: q) with
          | some (v, r) => W = some (v, (((c :: q).length - r.length : Nat) : Int))
          | none => W = some (CV.mk 0 0 [] [], 0)) := fun {N at' r} h1 h2 h3 h4 h5 {W} hW => by
        have := (tail N at' r h2 h3 h4 h5).symm.trans hW
        rw [hrd h1]
        split <;> (rename_i hx; rw [hx] at this; exact this.symm)
      by_cases h1 : c.toNat % 64 < 56
      · rw [decide_eq_false (by omega : ¬ (56 : Int) ≤ ((c.toNat % 64 : Nat) : Int)), cond_false] at hZ
        exact fin (at' := 1) (r := q) (by rw [hdr, if_neg h0, if_pos h1]) (by omega) rfl (by omega) (by simp) hZ
      · have e3 : IntKind.i64.wrap (IntKind.i64.wrap ((c.toNat % 64 : Nat) : Int) - 55) = ((c.toNat % 64 - 55 : Nat) : Int) := by
          rw [wrap64_in (n := ((c.toNat % 64 : Nat) : Int)) (by omega) (by omega), wrap64_in (by omega) (by omega)]; omega
        have e4 : IntKind.i64.wrap (1 + (((c.toNat % 64 - 55 : Nat)) : Int)) = ((1 + (c.toNat % 64 - 55) : Nat) : Int) := by rw [wrap64_in (by omega) (by omega)]; omega
        rw [decide_eq_true (by omega : (56 : Int) ≤ ((c.toNat % 64 : Nat) : Int)), cond_true, e3, e4] at hZ
        have hmk : c.toNat % 64 - 55 ≤ 8 ∧ 1 ≤ c.toNat % 64 - 55 := by omega
        have hmm : IntKind.i64.wrap ((IntKind.i64.wrap (IntKind.u64.wrap ((c.toNat : Int).tmod 64))) - 55) = ((c.toNat % 64 - 55 : Nat) : Int) := by rw [e2, e3]
        have hhdr : hdr (c :: q) = if q.length < c.toNat % 64 - 55 then none else if q.headD 0 = 0 ∨ valA 0 (q.take (c.toNat % 64 - 55)) < 56 then none
            else some (c.toNat / 64, valA 0 (q.take (c.toNat % 64 - 55)), q.drop (c.toNat % 64 - 55)) := by rw [hdr, if_neg h0, if_neg h1]
        generalize c.toNat % 64 - 55 = m at *
        by_cases h2 : q.length < m
        · rw [if_pos h2] at hhdr
          rw [decide_eq_true (by simp; omega : (((c :: q).length : Nat) : Int) < ((1 + m : Nat) : Int)), cond_true] at hZ
          rw [rd, hhdr]
          exact hZ.symm
        · rw [if_neg h2] at hhdr
          rw [decide_eq_false (by simp; omega : ¬ (((c :: q).length : Nat) : Int) < ((1 + m : Nat) : Int)), cond_false] at hZ
          obtain ⟨c1, q1, rfl⟩ : ∃ c1 q1, q = c1 :: q1 := by
            cases q with
            | nil => simp at h2; omega
            | cons a b => exact ⟨a, b, rfl⟩
          have ea1 : at? (c :: c1 :: q1) 1 = some c1 := at_some (i := 1) rfl
          rw [ea1, Option.bind_some, Option.bind_some] at hZ
          by_cases h3 : c1 = 0
          · subst h3
            rw [if_pos (.inl rfl)] at hhdr
            rw [show ((((0 : UInt8).toNat : Nat) : Int) == 0) = true from rfl, cond_true] at hZ
            rw [rd, hhdr]
            exact hZ.symm
          · have h3' : (((c1.toNat : Nat) : Int) == 0) = false := by
              rw [beq_eq_false_iff_ne]
              intro h
              exact h3 (UInt8.toNat_inj.1 (by simpa using h))
            have hl := m27_l1_eq (c0 := c) (q := c1 :: q1) (e := c) hmm hmk.1 (by omega) ((c1 :: q1).take m) 0 n 0 rfl (by rw [List.length_take]; omega) (by simp)
            have hl' : m27_l1 (c :: c1 :: q1) c n 1 0 = _ := hl
            rw [h3', cond_false, hl', Option.bind_some] at hZ
            have hlt := valA_lt ((c1 :: q1).take m)
            have hlm : ((c1 :: q1).take m).length = m := by rw [List.length_take]; omega
            rw [hlm] at hlt
            have hp8 : (256 : Nat) ^ m ≤ 256 ^ 8 := Nat.pow_le_pow_right (by omega) hmk.1
            by_cases h4 : valA 0 ((c1 :: q1).take m) < 56
            · rw [if_pos (.inr h4)] at hhdr
              rw [decide_eq_true (by omega : ((valA 0 ((c1 :: q1).take m) : Nat) : Int) < 56), cond_true] at hZ
              rw [rd, hhdr]
              exact hZ.symm
            · rw [if_neg (by rintro (h | h); exact h3 h; exact h4 h)] at hhdr
              rw [decide_eq_false (by omega : ¬ ((valA 0 ((c1 :: q1).take m) : Nat) : Int) < 56), cond_false, Option.bind_some] at hZ
              exact fin (at' := 1 + m) hhdr (by simp at hp8; omega) (by rw [Nat.add_comm]; rfl) (by omega) (by simp; simp at h2; omega) hZ

theorem m23_eq {n : Nat} {b : List UInt8} (hn : 1048700 < n) (hb : b.length ≤ 3000) : m23 n b = some (dec b) := by
  have h := m27_eq n 64 b (by omega) (by omega) (by omega)
  unfold M27 at h
  unfold dec
  rw [if_neg (by omega), m23]
  cases hx : rd 64 b with
  | none =>
    rw [hx] at h
    have h' : m27 n b 64 = _ := h
    rw [h']; rfl
  | some p =>
    obtain ⟨⟨v1, v2, v3, v4⟩, r⟩ := p
    rw [hx] at h
    have h' : m27 n b 64 = _ := h
    rw [h']
    have hg := congrArg List.length (rd_good b.length (by omega) 64 b _ r (Nat.le_refl _) hx).eq
    have hcp := code_pos (CV.mk v1 v2 v3 v4)
    rw [List.length_append] at hg
    have e1 : (((b.length - r.length : Nat) : Int) == 0) = false := by rw [beq_eq_false_iff_ne]; omega
    simp only [Option.bind_some, e1, cond_false]
    cases r with
    | nil =>
      have e2 : (((b.length - ([] : List UInt8).length : Nat) : Int) != (b.length : Int)) = false := by simp
      rw [e2, cond_false, decide_eq_false (by omega : ¬ (1048576 : Int) < ((b.length - ([] : List UInt8).length : Nat) : Int))]; rfl
    | cons c r =>
      have e2 : (((b.length - (c :: r).length : Nat) : Int) != (b.length : Int)) = true := by
        simp only [List.length_cons] at hg ⊢
        simp; omega
      rw [e2]; rfl

theorem m24_l1_eq {F : CV → Int → Option (CV × Bool)} {a b : Int} {t : List UInt8} {vs : List CV} {most : Int} (hl : vs.length ≤ 1048576) : ∀ (r : List CV) (i k : Nat) (acc : List CV), vs.drop i = r → r.length < k → acc.length ≤ i → (∀ v ∈ r, F v most = some (v, true)) → m24_l1 F a b t vs most k i acc = some (.go (acc ++ r))
  | _, _, 0, _, _, h, _, _ => by omega
  | [], i, k + 1, acc, h, _, _, _ => by rw [m24_l1, nil_drop h, cond_false, List.append_nil]
  | ⟨a', b', c, d⟩ :: r, i, k + 1, acc, h, hk, ha, hF => by
    have hi := drop_lt h
    rw [m24_l1, lt_drop h, cond_true, at_drop h]
    simp only [Option.bind_some, hF ⟨a', b', c, d⟩ List.mem_cons_self]
    rw [Bool.not_true, cond_false, req_t (by simp; omega), wi_succ (by omega), m24_l1_eq hl r (i + 1) k _ (drop_on h) (by simpa using hk) (by simp; omega) (fun v hv => hF v (List.mem_cons_of_mem _ hv))]
    simp
theorem lenss_mem {N : Nat} : ∀ {l : List CV} {v : CV}, CV.lenss N l → v ∈ l → v.lens N
  | u :: l, v, h, hm => by
    rcases List.mem_cons.1 hm with rfl | hm
    · exact h.1
    · exact lenss_mem h.2 hm
theorem m24_eq {N : Nat} (hN : N ≤ 3000) : ∀ (n : Nat) (v : CV), v.w < n → v.w ≤ 1048576 → v.lens N → m24 n v 3000 = some (v, true)
  | 0, _, h, _, _ => by omega
  | n + 1, ⟨a, b, c, d⟩, h, hb, hs => by
    simp only [CV.w] at h hb
    have hl := CV.ws_len d
    obtain ⟨h1, h2⟩ := hs
    have e : m24_l1 (m24 n) a b c d 3000 n 0 [] = some (.go ([] ++ d)) := m24_l1_eq (by omega) d 0 n [] rfl (by omega) (by simp) fun v hv => m24_eq hN n v (by have := CV.w_mem hv; omega) (by have := CV.w_mem hv; omega) (lenss_mem h2 hv)
    rw [m24, decide_eq_false (by omega : ¬ (3000 : Int) < (d.length : Int)), cond_false, e]
    rfl

theorem m5_eq (b : List UInt8) : m5 1048800 b = some true := by
  have h1 := m11_eq 1048792
  rw [m5, h1]
  simp only [Option.bind_some, Bool.not_true, cond_false]
  by_cases hl : 3000 < b.length
  · rw [decide_eq_true (by omega : (3000 : Int) < (b.length : Int))]; rfl
  · rw [decide_eq_false (by omega : ¬ (3000 : Int) < (b.length : Int)), cond_false, req_t (by simp; omega), m22_eq (by omega), m23_eq (by omega) (by omega)]
    have hd : ∃ v e, dec b = (v, e) ∧ v.w ≤ 1048576 ∧ v.lens 3000 := by
      unfold dec
      rw [if_neg (by omega)]
      cases hx : rd 64 b with
      | none => exact ⟨_, _, rfl, by simp [CV.w, CV.ws], by simp [CV.lens, CV.lenss]⟩
      | some p =>
        obtain ⟨v, r⟩ := p
        have g := rd_good 3000 (by omega) 64 b v r (by omega) hx
        have hgl := congrArg List.length g.eq
        rw [List.length_append] at hgl
        have hw := g.w
        cases r with
        | nil => exact ⟨_, _, rfl, by omega, g.lens⟩
        | cons c r => exact ⟨_, _, rfl, by simp [CV.w, CV.ws], by simp [CV.lens, CV.lenss]⟩
    obtain ⟨v, e, hd, hw, hlen⟩ := hd
    have h24 := m24_eq (N := 3000) (by omega) 1048800 v (by omega) hw hlen
    have h15 := m15_eq 1048800 v v (by omega) hw
    rw [hd]
    obtain ⟨v1, v2, v3, v4⟩ := v
    simp only [Option.bind_some, h24, h15, CV.eqv_self, beq_self_eq_true, cond_true]

theorem m26_eq {n : Nat} {b : List UInt8} (hb : b.length ≤ 20000000) (hn : b.length + 100 < n) : m26 n b = some (match rd 64 b with
    | some (v, r) => (v, r, 0)
    | none => (.mk 0 0 [] [], [], 4)) := by
  have h := m34_eq hb hn
  rw [m26]
  cases hx : rd 64 b with
  | none =>
    rw [hx] at h
    obtain ⟨⟨v1, v2, v3, v4⟩, r, h⟩ := h
    rw [h]; rfl
  | some p =>
    obtain ⟨⟨v1, v2, v3, v4⟩, r⟩ := p
    rw [hx] at h
    dsimp only at h ⊢
    have hg := congrArg List.length (rd_good b.length (by omega) 64 b _ r (Nat.le_refl _) hx).eq
    rw [List.length_append] at hg
    rw [h]
    simp only [Option.bind_some, Bool.not_true, cond_false]
    rw [req_t (by simp; omega)]
theorem m8_eq (b : List UInt8) : m8 1048800 b = some true := by
  have h1 := m11_eq 1048792
  rw [m8, h1]
  simp only [Option.bind_some, Bool.not_true, cond_false]
  by_cases hl : 3000 < b.length
  · rw [decide_eq_true (by omega : (3000 : Int) < (b.length : Int))]; rfl
  · rw [decide_eq_false (by omega : ¬ (3000 : Int) < (b.length : Int)), cond_false, m26_eq (by omega) (by omega)]
    have h := m27_eq 1048800 64 b (by omega) (by omega) (by omega)
    unfold M27 at h
    cases hx : rd 64 b with
    | none =>
      rw [hx] at h
      have h' : m27 1048800 b 64 = _ := h
      have h13 := m13_eq 1048800 (CV.mk 0 0 [] []) (CV.mk 0 0 [] []) (by omega) (by simp [CV.w, CV.ws])
      rw [h']
      simp only [Option.bind_some]
      rw [h13, CV.eqv_self]; rfl
    | some p =>
      obtain ⟨v, r⟩ := p
      rw [hx] at h
      have h' : m27 1048800 b 64 = _ := h
      have g := rd_good 3000 (by omega) 64 b v r (by omega) hx
      have hgl := congrArg List.length g.eq
      have hcp := code_pos v
      rw [List.length_append] at hgl
      have hw := g.w
      have h24 := m24_eq (N := 3000) (by omega) 1048800 v (by omega) (by omega) g.lens
      have h15 := m15_eq 1048800 v v (by omega) (by omega)
      have e1 : (((b.length - r.length : Nat) : Int) == 0) = false := by rw [beq_eq_false_iff_ne]; omega
      have e2 : (b.take ((b.length : Nat) : Int).toNat).drop (((b.length - r.length : Nat) : Int)).toNat = r := by
        have x1 : ((b.length : Nat) : Int).toNat = b.length := by omega
        have x2 : (((b.length - r.length : Nat) : Int)).toNat = v.code.length := by omega
        rw [x1, x2, List.take_length, g.eq, List.drop_left]
      rw [h']
      obtain ⟨v1, v2, v3, v4⟩ := v
      simp only [Option.bind_some, e1, cond_false, h24, h15, CV.eqv_self, cond_true]
      rw [req_t ⟨by omega, by omega, by omega⟩, e2]
      simp
end Go.Proofs.Ytjjljekedgdnnaa
