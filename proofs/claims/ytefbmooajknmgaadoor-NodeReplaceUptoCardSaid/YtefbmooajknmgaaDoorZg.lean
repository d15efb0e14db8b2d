/-
  Joined out of: PDump, PMet, PNode, PRow, PPut, PWith.
-/
import Derived.Lib.ItoaLen
import Derived.Test.YtefbmooajknmgaaDoorZf
set_option linter.unusedVariables false
set_option linter.unusedSimpArgs false
namespace Go.Proofs.YtefbmooajknmgaaDoor
open Go.Abs
def names12 : List (List UInt8) := [[114, 111, 119], [115, 121, 109], [110, 117, 109], [116, 101, 120, 116], [102, 114, 97, 99], [114, 111, 111, 116], [115, 117, 98], [115, 117, 112],
  [98, 111, 116, 104], [97, 99, 99, 101, 110, 116], [102, 101, 110, 99, 101], [109, 97, 116, 114, 105, 120]]
def kindName (k : Int) : List UInt8 := if 1 ≤ k ∧ k ≤ 12 then names12.getD (k.toNat - 1) [] else [110, 111, 100, 101] ++ Lib.itoa k
def escL : List UInt8 → List UInt8
  | [] => []
  | c :: r => if c = 34 ∨ c = 92 then 92 :: c :: escL r else c :: escL r
def textL (t : List UInt8) : List UInt8 := if t = [] then [] else 58 :: 34 :: (escL t ++ [34])
def colsL (c : Int) : List UInt8 := if c = 0 then [] else 42 :: Lib.itoa c
def headL (k : Int) (t : List UInt8) (c : Int) : List UInt8 := kindName k ++ (textL t ++ colsL c)
def kidsL : List UInt8 → List UInt8
  | [] => []
  | _ :: r => 40 :: (r ++ [41])
mutual
def dumpL : Nd → List UInt8
  | .mk k t c ks => headL k t c ++ kidsL (dumpsL ks)
def dumpsL : List Nd → List UInt8
  | [] => []
  | v :: vs => 32 :: (dumpL v ++ dumpsL vs)
end
theorem names12_ne : ∀ i < 12, names12.getD i [] ≠ [] := by decide
theorem kindName_ne (k : Int) : kindName k ≠ [] := by
  unfold kindName
  split
  · exact names12_ne _ (by omega)
  · simp
def hd (l : List UInt8) (s : List UInt8) : Prop := ∀ b r, l = b :: r → b ∈ s
theorem escL_len : ∀ t : List UInt8, (escL t).length ≤ 2 * t.length
  | [] => Nat.le_refl _
  | c :: r => by
    have := escL_len r
    simp only [escL]
    split <;> simp only [List.length_cons] <;> omega
theorem kindName_len {k : Int} (h : in64i k) : (kindName k).length ≤ 25 := by
  unfold kindName
  split
  · have : ∀ i < 12, (names12.getD i []).length ≤ 25 := by decide
    exact this _ (by omega)
  · have := Lib.itoa_length_le k h.1 h.2
    simp; omega
theorem headL_len {k : Int} {t : List UInt8} {c : Int} (hk : in64i k) (hc : in64i c) : (headL k t c).length ≤ 55 + 2 * t.length := by
  have h1 := kindName_len hk
  have h2 := escL_len t
  have h3 := Lib.itoa_length_le c hc.1 hc.2
  have h4 : (textL t).length ≤ 3 + 2 * t.length := by unfold textL; split <;> simp; omega
  have h5 : (colsL c).length ≤ 22 := by unfold colsL; split <;> simp; omega
  simp only [headL, List.length_append]; omega
theorem kidsL_len (l : List UInt8) : (kidsL l).length ≤ l.length + 1 := by cases l <;> simp [kidsL]
mutual
theorem dumpL_len : ∀ v : Nd, v.rng → (dumpL v).length ≤ 60 * v.w
  | .mk k t c ks, h => by
    have h1 := headL_len (t := t) h.1 h.2.1
    have h2 := dumpsL_len ks h.2.2
    have h3 := kidsL_len (dumpsL ks)
    simp only [dumpL, List.length_append, Nd.w]; omega
theorem dumpsL_len : ∀ vs : List Nd, Nd.rngs vs → (dumpsL vs).length ≤ 60 * Nd.ws vs
  | [], _ => by simp [dumpsL]
  | v :: vs, h => by
    have h1 := dumpL_len v h.1
    have h2 := dumpsL_len vs h.2
    simp only [dumpsL, List.length_cons, List.length_append, Nd.ws]; omega
end
theorem wb_eq (c : UInt8) (l : List UInt8) (h : l.length < 4294967296) : m_strings_Builder_WriteByte c l = some ((), l ++ [c]) := by
  unfold m_strings_Builder_WriteByte m_strings_Builder_copyCheck
  simp only [Option.bind_some]
  rw [req_t (by simp; omega)]
theorem ws_eq (s l : List UInt8) (h : l.length + s.length ≤ 4294967296) : m_strings_Builder_WriteString s l = some ((s.length : Int), (), l ++ s) := by
  unfold m_strings_Builder_WriteString m_strings_Builder_copyCheck
  simp only [Option.bind_some]
  rw [req_t h]
theorem ito_eq {n : Int} (h : in64i n) : m_strconv_Itoa n = some (Lib.itoa n) := by
  unfold m_strconv_Itoa
  exact req_t (show -9223372036854775808 ≤ n ∧ n ≤ 9223372036854775807 from h)
theorem byte_q (c : UInt8) : ((c.toNat : Int) == 34) = (c == 34) ∧ ((c.toNat : Int) == 92) = (c == 92) :=
  ⟨of_decide_eq_true (u8_all (P := fun c => decide (((c.toNat : Int) == 34) = (c == 34))) (by decide +kernel) c), of_decide_eq_true (u8_all (P := fun c => decide (((c.toNat : Int) == 92) = (c == 92))) (by decide +kernel) c)⟩
theorem escL_drop {t : List UInt8} {i : Nat} (h : i < t.length) : escL (t.drop i) = if t[i] = 34 ∨ t[i] = 92 then 92 :: t[i] :: escL (t.drop (i + 1)) else t[i] :: escL (t.drop (i + 1)) := by
  rw [List.drop_eq_getElem_cons h]; rfl
theorem head_loop (t : List UInt8) (ht : t.length ≤ 1073741824) : ∀ (k i : Nat) (l : List UInt8), t.length - i < k → i ≤ t.length → l.length + 2 * (t.length - i) < 4294967296 →
    m_node_dumper_head_l1 t k (i : Int) l = some (l ++ escL (t.drop i))
  | 0, _, _, h, _, _ => by omega
  | k + 1, i, l, hk, hi, hl => by
    unfold m_node_dumper_head_l1
    by_cases h : i < t.length
    · rw [dec_t (Int.ofNat_lt.2 h), cond_true, at_get h, escL_drop h]
      simp only [Option.bind_some, (byte_q t[i]).1, (byte_q t[i]).2]
      rw [wi_succ (by omega)]
      have e92 : b8of 92 = 92 := rfl
      by_cases h1 : t[i] = 34
      · rw [if_pos (.inl h1), show (t[i] == 34) = true from beq_iff_eq.2 h1, cond_true]
        simp only [Option.bind_some, cond_true]
        rw [e92, wb_eq _ _ (by omega)]
        simp only [Option.bind_some]
        rw [wb_eq _ _ (by simp; omega)]
        simp only [Option.bind_some]
        rw [head_loop t ht k (i + 1) _ (by omega) (by omega) (by simp; omega)]
        simp
      · rw [show (t[i] == 34) = false from beq_eq_false_iff_ne.2 h1, cond_false]
        simp only [Option.bind_some]
        by_cases h2 : t[i] = 92
        · rw [if_pos (.inr h2), show (t[i] == 92) = true from beq_iff_eq.2 h2, cond_true]
          try simp only [Option.bind_some, cond_true]
          rw [e92, wb_eq _ _ (by omega)]
          simp only [Option.bind_some]
          rw [wb_eq _ _ (by simp; omega)]
          simp only [Option.bind_some]
          rw [head_loop t ht k (i + 1) _ (by omega) (by omega) (by simp; omega)]
          simp [h2]
        · rw [if_neg (by intro h; exact h.elim h1 h2), show (t[i] == 92) = false from beq_eq_false_iff_ne.2 h2, cond_false]
          simp only [Option.bind_some]
          rw [wb_eq _ _ (by omega)]
          simp only [Option.bind_some]
          rw [head_loop t ht k (i + 1) _ (by omega) (by omega) (by simp; omega)]
          simp
    · rw [dec_f (by omega), cond_false]
      obtain rfl : i = t.length := by omega
      simp [escL]
theorem kindName_lit (k : Int) : kindName k = if k = 1 then [114, 111, 119] else if k = 2 then [115, 121, 109] else if k = 3 then [110, 117, 109] else if k = 4 then [116, 101, 120, 116]
  else if k = 5 then [102, 114, 97, 99] else if k = 6 then [114, 111, 111, 116] else if k = 7 then [115, 117, 98] else if k = 8 then [115, 117, 112]
  else if k = 9 then [98, 111, 116, 104] else if k = 10 then [97, 99, 99, 101, 110, 116] else if k = 11 then [102, 101, 110, 99, 101]
  else if k = 12 then [109, 97, 116, 114, 105, 120] else [110, 111, 100, 101] ++ Lib.itoa k := by
  rcases kinds k with rfl | rfl | rfl | rfl | rfl | rfl | rfl | rfl | rfl | rfl | rfl | rfl | hk
  all_goals first | rfl | skip
  unfold kindName
  rw [if_neg (by omega), if_neg (by omega), if_neg (by omega), if_neg (by omega), if_neg (by omega), if_neg (by omega), if_neg (by omega), if_neg (by omega), if_neg (by omega), if_neg (by omega), if_neg (by omega), if_neg (by omega), if_neg (by omega)]
theorem kind_in (k : Int) : (bif decide (1 ≤ k) then some (decide (k ≤ 12)) else some false : Option Bool) = some (decide (1 ≤ k ∧ k ≤ 12)) := by
  by_cases h : 1 ≤ k
  · rw [dec_t h, cond_true]; congr 1; by_cases h2 : k ≤ 12 <;> simp [h, h2]
  · rw [dec_f h, cond_false]; congr 1; simp [h]
theorem head_eq (n : Nat) (k : Int) (t : List UInt8) (c : Int) (ks : List Nd) (l : List UInt8) (hn : t.length < n) (ht : t.length ≤ 1073741824) (hk : in64i k) (hc : in64i c) (hl : l.length + 2 * t.length + 60 < 4294967296) :
    m_node_dumper_head n (.mk k t c ks) l = some (l ++ headL k t c) := by
  unfold m_node_dumper_head
  have hki := Lib.itoa_length_le k hk.1 hk.2
  have hci := Lib.itoa_length_le c hc.1 hc.2
  have h1 : ∀ X : Option (List UInt8), X = some (l ++ kindName k) → ∀ K : List UInt8 → Option (List UInt8), X.bind K = K (l ++ kindName k) := fun X h K => by rw [h]; rfl
  simp only [kind_in, Option.bind_some]
  have hlen := kindName_len hk
  rw [h1 _ ?_]
  · have h2 : ∀ X : Option (List UInt8), X = some ((l ++ kindName k) ++ textL t) → ∀ K : List UInt8 → Option (List UInt8), X.bind K = K ((l ++ kindName k) ++ textL t) := fun X h K => by rw [h]; rfl
    rw [h2 _ ?_]
    · unfold headL colsL
      have htx : (textL t).length ≤ 3 + 2 * t.length := by have := escL_len t; unfold textL; split <;> simp; omega
      by_cases h0 : c = 0
      · subst h0
        rw [if_pos rfl, show ((0 : Int) != 0) = false from rfl, cond_false]
        simp
      · rw [if_neg h0, show (c != 0) = true from bne_iff_ne.2 h0, cond_true, ito_eq hc]
        simp only [Option.bind_some]
        rw [req_t (by simp; omega), ws_eq _ _ (by simp; omega)]
        simp
    · unfold textL
      by_cases h0 : t = []
      · subst h0
        simp
      · rw [if_neg h0, show (!(t == [])) = true from by simp [h0], cond_true, ws_eq _ _ (by simp; omega)]
        simp only [Option.bind_some]
        have := head_loop t ht n 0 ((l ++ kindName k) ++ [58, 34]) (by omega) (by omega) (by simp; omega)
        rw [show ((0 : Nat) : Int) = 0 from rfl] at this
        rw [this]
        have he := escL_len t
        simp only [Option.bind_some, List.drop_zero]
        rw [show b8of 34 = 34 from rfl, wb_eq _ _ (by simp; omega)]
        simp
  · rw [kindName_lit]
    have go : ∀ s : List UInt8, s.length ≤ 25 → ((m_strings_Builder_WriteString s l).bind fun x => match x with | (_, _, b) => some b) = some (l ++ s) := fun s hs => by
      rw [ws_eq _ _ (by omega)]; rfl
    rcases kinds k with rfl | rfl | rfl | rfl | rfl | rfl | rfl | rfl | rfl | rfl | rfl | rfl | hk'
    all_goals first | exact go _ (by decide) | skip
    rw [show decide (1 ≤ k ∧ k ≤ 12) = false from decide_eq_false (by omega), cond_false, ito_eq hk]
    simp only [Option.bind_some]
    rw [req_t (by simp; omega), if_neg (by omega), if_neg (by omega), if_neg (by omega), if_neg (by omega), if_neg (by omega), if_neg (by omega), if_neg (by omega), if_neg (by omega), if_neg (by omega), if_neg (by omega), if_neg (by omega), if_neg (by omega)]
    exact go _ (by simp; omega)
def remK (ks : List Nd) (i : Nat) : List UInt8 := if i = 0 then kidsL (dumpsL ks) else dumpsL (ks.drop i) ++ [41]
def outS : List (Nd × Nat) → List UInt8
  | [] => []
  | p :: r => outS r ++ remK p.1.kids p.2
def itS : List (Nd × Nat) → Nat
  | [] => 0
  | p :: r => itS r + (1 + 2 * Nd.cnts (p.1.kids.drop p.2))
theorem outS_snoc (p : Nd × Nat) : ∀ L, outS (L ++ [p]) = remK p.1.kids p.2 ++ outS L
  | [] => by simp [outS]
  | q :: r => by simp only [List.cons_append, outS, outS_snoc p r, List.append_assoc]
theorem itS_snoc (p : Nd × Nat) : ∀ L, itS (L ++ [p]) = itS L + (1 + 2 * Nd.cnts (p.1.kids.drop p.2))
  | [] => by simp [itS]
  | q :: r => by simp only [List.cons_append, itS, itS_snoc p r]; omega
theorem itS_len : ∀ L, L.length ≤ itS L
  | [] => Nat.le_refl _
  | q :: r => by have := itS_len r; simp only [itS, List.length_cons]; omega
theorem remK_step {ks : List Nd} {i : Nat} (h : i < ks.length) : remK ks i = (if i = 0 then 40 else 32) :: (dumpL ks[i] ++ remK ks (i + 1)) := by
  unfold remK
  rw [if_neg (by omega : ¬ i + 1 = 0)]
  by_cases h0 : i = 0
  · subst h0
    rw [if_pos rfl, if_pos rfl]
    match ks, h with
    | v :: vs, _ => simp [dumpsL, kidsL]
  · rw [if_neg h0, if_neg h0, List.drop_eq_getElem_cons h]
    simp [dumpsL]
theorem remK_end (ks : List Nd) : remK ks ks.length = if ks.length = 0 then [] else [41] := by
  unfold remK
  by_cases h : ks.length = 0
  · rw [if_pos h, if_pos h, List.length_eq_zero_iff.1 h]; rfl
  · rw [if_neg h, if_neg h, List.drop_length]; rfl
theorem dumpL_eq (k : Int) (t : List UInt8) (c : Int) (ks : List Nd) : dumpL (.mk k t c ks) = headL k t c ++ remK ks 0 := by
  simp [dumpL, remK]
theorem w_kids' (k : Int) (t : List UInt8) (c : Int) (ks : List Nd) : (Nd.mk k t c ks).w = t.length + Nd.ws ks + 1 := rfl
def entI (p : Nd × Nat) : Nd × Int := (p.1, (p.2 : Int))
theorem Dump_loop (n : Nat) : ∀ (k : Nat) (L : List (Nd × Nat)) (b : List UInt8), itS L < k → itS L ≤ 1000000000 → (∀ p ∈ L, p.2 ≤ p.1.kids.length ∧ p.1.rng ∧ p.1.w ≤ 16777216 ∧ p.1.w < n) → b.length + (outS L).length ≤ 4000000000 →
    m_node_Dump_l1 n k b (L.map entI) = some (b ++ outS L)
  | 0, _, _, h, _, _, _ => by omega
  | k + 1, L, b, hk, hit, hL, hb => by
    unfold m_node_Dump_l1
    rcases List.eq_nil_or_concat L with rfl | ⟨L, ⟨v, i⟩, rfl⟩
    · simp [outS]
    · rw [List.concat_eq_append] at *
      obtain ⟨hi, hr, hw, hwn⟩ := hL (v, i) (by simp)
      obtain ⟨k0, t, c, ks⟩ := v
      replace hr : (Nd.mk k0 t c ks).rng := hr
      replace hw : (Nd.mk k0 t c ks).w ≤ 16777216 := hw
      replace hwn : (Nd.mk k0 t c ks).w < n := hwn
      have hlen : ((List.map entI (L ++ [(Nd.mk k0 t c ks, i)])).length : Int) = (L.length : Int) + 1 := by simp
      have hll := itS_len (L ++ [(Nd.mk k0 t c ks, i)])
      rw [List.length_append, List.length_singleton] at hll
      have hwr : IntKind.i64.wrap (((List.map entI (L ++ [(Nd.mk k0 t c ks, i)])).length : Int) - 1) = (L.length : Int) := by rw [hlen, wrap64_in (by omega) (by omega)]; omega
      have hat : at? (List.map entI (L ++ [(Nd.mk k0 t c ks, i)])) (L.length : Int) = some (Nd.mk k0 t c ks, (i : Int)) := by
        rw [at_get (by simp)]; simp [entI]
      rw [dec_t (by omega), cond_true, hwr, hat]
      simp only [Option.bind_some, Nd.kids] at hi ⊢
      rw [outS_snoc] at hb ⊢
      rw [itS_snoc] at hk hit
      simp only [Nd.kids] at hb hk hit ⊢
      by_cases he : i = ks.length
      · subst he
        rw [show ((ks.length : Int) == (ks.length : Int)) = true from beq_self_eq_true _, cond_true]
        have hre := remK_end ks
        have hx : (bif decide (0 < (ks.length : Int)) then (m_strings_Builder_WriteByte (b8of 41) b).bind (fun x => match x with | (_, b14) => some b14) else some b) = some (b ++ remK ks ks.length) := by
          rw [hre]
          by_cases h0 : ks.length = 0
          · rw [dec_f (by omega), cond_false, if_pos h0]; simp
          · rw [dec_t (by omega), cond_true, if_neg h0, wb_eq _ _ (by omega)]; rfl
        have hx' : ∀ X : Option (List UInt8), X = some (b ++ remK ks ks.length) → ∀ K : List UInt8 → Option (List UInt8), X.bind K = K (b ++ remK ks ks.length) := fun X h K => by rw [h]; rfl
        rw [hx' _ hx, req_t (by omega), Int.toNat_natCast]
        have ht : List.take L.length (List.map entI (L ++ [(Nd.mk k0 t c ks, ks.length)])) = L.map entI := by simp
        rw [ht, Dump_loop n k L _ (by omega) (by omega) (fun p hp => hL p (by simp [hp])) (by simp only [List.length_append] at hb ⊢; omega)]
        simp
      · have h : i < ks.length := by omega
        rw [ne_beq (by omega : (i : Int) ≠ (ks.length : Int)), cond_false, at_get h]
        have hd := Nd.cnts_drop h
        have hrs := remK_step h
        rw [hrs] at hb ⊢
        have hkr : (ks[i]).rng := Nd.rng_mem hr.2.2 (List.getElem_mem h)
        have hkw : (ks[i]).w < Nd.ws ks := Nd.w_mem (List.getElem_mem h)
        have hwt := w_kids' k0 t c ks
        rcases e : ks[i] with ⟨e1, e2, e3, e4⟩
        rw [e] at hd hkr hkw hb
        have hwt2 := w_kids' e1 e2 e3 e4
        have hct := Nd.cnt_kids (.mk e1 e2 e3 e4)
        simp only [Nd.kids] at hct
        rw [dumpL_eq] at hb
        simp only [Option.bind_some]
        have hsep : at? ([40, 32] : List UInt8) (if 1 < (i : Int) then 1 else (i : Int)) = some (if i = 0 then 40 else 32) := by
          by_cases h0 : i = 0
          · subst h0; rfl
          · rw [if_neg h0]
            by_cases h1 : i = 1
            · subst h1; rfl
            · rw [if_pos (by omega)]; rfl
        rw [hsep]
        simp only [Option.bind_some]
        simp only [List.length_append, List.length_cons] at hb
        rw [wb_eq _ _ (by omega)]
        simp only [Option.bind_some]
        rw [head_eq n e1 e2 e3 e4 _ (by omega) (by omega) hkr.1 hkr.2.1 (by simp; omega)]
        simp only [Option.bind_some]
        have hset : (List.map entI (L ++ [(Nd.mk k0 t c ks, i)])).set (L.length : Int).toNat (Nd.mk k0 t c ks, IntKind.i64.wrap ((i : Int) + 1)) ++ [(Nd.mk e1 e2 e3 e4, 0)] = (L ++ [(Nd.mk k0 t c ks, i + 1)] ++ [(Nd.mk e1 e2 e3 e4, 0)]).map entI := by
          have hlk := Nd.ws_len ks
          rw [wrap64_in (by omega) (by omega)]
          simp [entI]
        have hll2 := itS_len L
        rw [req_t (by simp; omega), hset]
        rw [Dump_loop n k _ _ (by rw [itS_snoc, itS_snoc]; simp only [Nd.kids, List.drop_zero]; omega) (by rw [itS_snoc, itS_snoc]; simp only [Nd.kids, List.drop_zero]; omega) ?_ ?_]
        · rw [outS_snoc, outS_snoc, dumpL_eq]
          simp [Nd.kids]
        · intro p hp
          rcases List.mem_append.1 hp with hp | hp
          · rcases List.mem_append.1 hp with hp | hp
            · exact hL p (by simp [hp])
            · simp only [List.mem_singleton] at hp; subst hp
              exact ⟨h, hr, hw, hwn⟩
          · simp only [List.mem_singleton] at hp; subst hp
            exact ⟨Nat.zero_le _, hkr, (show (Nd.mk e1 e2 e3 e4).w ≤ 16777216 by omega), (show (Nd.mk e1 e2 e3 e4).w < n by omega)⟩
        · rw [outS_snoc, outS_snoc]
          simp only [Nd.kids, List.length_append, List.length_cons, List.length_nil]
          omega
theorem dumpL_ne (t : Nd) : dumpL t ≠ [] := by
  obtain ⟨k, t, c, ks⟩ := t
  rw [dumpL_eq]
  unfold headL
  have := kindName_ne k
  simp [this]
theorem node_Dump_eq (n : Nat) (t : Nd) (h : 2 * t.w < n) (hw : t.w ≤ 16777216) (hr : t.rng) : m_node_Dump n t = some (dumpL t) := by
  have hlen := dumpL_len t hr
  have hne := dumpL_ne t
  have hcw := Nd.cnt_w t
  have hck := Nd.cnt_kids t
  obtain ⟨k, tx, c, ks⟩ := t
  have hwt := w_kids' k tx c ks
  simp only [Nd.kids] at hck
  unfold m_node_Dump m_node_kinds
  simp only [Option.bind_some]
  rw [head_eq n k tx c ks [] (by omega) (by omega) hr.1 hr.2.1 (by simp; omega)]
  simp only [Option.bind_some, List.nil_append]
  have hl := Dump_loop n n [(.mk k tx c ks, 0)] (headL k tx c) (by simp [itS, Nd.kids]; omega) (by simp [itS, Nd.kids]; omega) (fun p hp => by simp only [List.mem_singleton] at hp; subst hp; exact ⟨Nat.zero_le _, hr, hw, (show (Nd.mk k tx c ks).w < n by omega)⟩) (by
    rw [dumpL_eq] at hlen
    simp only [outS, Nd.kids, List.length_append, List.nil_append] at hlen ⊢; omega)
  have e : List.map entI [(Nd.mk k tx c ks, 0)] = [(Nd.mk k tx c ks, 0)] := rfl
  rw [e] at hl
  rw [hl, Option.bind_some]
  have e2 : headL k tx c ++ outS [(Nd.mk k tx c ks, 0)] = dumpL (.mk k tx c ks) := by rw [dumpL_eq]; simp [outS, Nd.kids]
  rw [e2]
  unfold m_strings_Builder_String
  rw [req_t ⟨hne, by omega⟩, Option.bind_some]
theorem digit_pos (r : Nat) (h : r < 10) : b8of (IntKind.u8.wrap (IntKind.i64.wrap (48 + (r : Int)))) = UInt8.ofNat (48 + r) := by
  have : ∀ r < 10, b8of (IntKind.u8.wrap (IntKind.i64.wrap (48 + ((r : Nat) : Int)))) = UInt8.ofNat (48 + r) := by decide
  exact this r h
theorem digit_neg (r : Nat) (h : r < 10) : b8of (IntKind.u8.wrap (IntKind.i64.wrap (48 - -(r : Int)))) = UInt8.ofNat (48 + r) := by
  have : ∀ r < 10, b8of (IntKind.u8.wrap (IntKind.i64.wrap (48 - -((r : Nat) : Int)))) = UInt8.ofNat (48 + r) := by decide
  exact this r h
theorem int_loop : ∀ (k u : Nat) (s : List UInt8), u < 10 ^ k → u < 9223372036854775808 → s.length + k ≤ 1000 → ∃ (q : Nat) (r : List UInt8), m_r09_Int_l1 (k + 1) (u : Int) s = some ((q : Int), r) ∧ q < 10 ∧ r.length ≤ s.length + k ∧ UInt8.ofNat (48 + q) :: r = Lib.decDigits u ++ s
  | k, u, s, hk, hu, hs => by
    unfold m_r09_Int_l1
    by_cases h : u < 10
    · rw [dec_f (by omega), cond_false]
      exact ⟨u, s, rfl, h, by omega, by rw [Lib.decDigits, dif_pos h]; rfl⟩
    · rw [dec_t (by omega), cond_true]
      match k, hk with
      | 0, hk => simp at hk; omega
      | k + 1, hk =>
        have e1 : (u : Int).tmod 10 = ((u % 10 : Nat) : Int) := by rw [Int.tmod_eq_emod_of_nonneg (by omega)]; rfl
        have e2 : IntKind.i64.wrap ((u : Int).tdiv 10) = ((u / 10 : Nat) : Int) := by
          rw [Int.tdiv_eq_ediv_of_nonneg (by omega), wrap64_in (by omega) (by omega)]; rfl
        rw [e1, e2, digit_pos _ (Nat.mod_lt _ (by decide)), req_t (by simp; omega)]
        obtain ⟨q, r, h1, h2, h3, h4⟩ := int_loop k (u / 10) ([UInt8.ofNat (48 + u % 10)] ++ s) (by rw [Nat.pow_succ] at hk; omega) (by omega) (by simp; omega)
        refine ⟨q, r, h1, h2, by simp at h3; omega, ?_⟩
        rw [h4, Lib.decDigits.eq_def u, dif_neg h]
        simp
theorem r09_Int_nn (n u : Nat) (h : 25 ≤ n) (hu : u < 9223372036854775808) : m_r09_Int (n + 1) (u : Int) = some (Lib.decDigits u) := by
  unfold m_r09_Int
  rw [dec_f (by omega), cond_false]
  obtain ⟨q, r, h1, h2, h3, h4⟩ := int_loop (min (n - 1) 900) u [] (by
    have : (10 : Nat) ^ 24 ≤ 10 ^ (min (n - 1) 900) := Nat.pow_le_pow_right (by decide) (by omega)
    have : (9223372036854775808 : Nat) ≤ 10 ^ 24 := by decide
    omega) hu (by simp; omega)
  have hl : ∀ (k m : Nat) (x : Int) (s : List UInt8) y, m_r09_Int_l1 k x s = some y → m_r09_Int_l1 (k + m) x s = some y := by
    intro k
    induction k with
    | zero => intro m x s y h; simp [m_r09_Int_l1] at h
    | succ k ih =>
      intro m x s y h
      rw [show k + 1 + m = (k + m) + 1 by omega]
      unfold m_r09_Int_l1 at h ⊢
      by_cases hx : 10 ≤ x
      · rw [dec_t hx, cond_true] at h ⊢
        obtain ⟨hq, h⟩ := req_out h
        rw [req_t hq]
        exact ih m _ _ _ h
      · rw [dec_f hx, cond_false] at h ⊢
        exact h
  have := hl _ (n - (min (n - 1) 900 + 1)) _ _ _ h1
  rw [show min (n - 1) 900 + 1 + (n - (min (n - 1) 900 + 1)) = n by omega] at this
  rw [this]
  simp only [Option.bind_some]
  rw [digit_pos q h2, req_t (by simp at h3 ⊢; omega)]
  simpa using h4
theorem r09_Int_eq (n : Nat) (x : Int) (h : 30 ≤ n) (hx : in64i x) : m_r09_Int n x = some (Lib.itoa x) := by
  unfold in64i at hx
  obtain ⟨n, rfl⟩ : ∃ m, n = m + 1 := ⟨n - 1, by omega⟩
  by_cases h0 : x < 0
  · obtain ⟨u, rfl⟩ : ∃ u : Nat, x = -(u : Int) := ⟨x.natAbs, by omega⟩
    have e1 : (-(u : Int)).tmod 10 = -((u % 10 : Nat) : Int) := by rw [Int.neg_tmod, Int.tmod_eq_emod_of_nonneg (by omega)]; rfl
    have e2 : IntKind.i64.wrap ((-(u : Int)).tdiv 10) = -((u / 10 : Nat) : Int) := by
      rw [Int.neg_tdiv, Int.tdiv_eq_ediv_of_nonneg (by omega), wrap64_in (by omega) (by omega)]; rfl
    unfold m_r09_Int Lib.itoa
    rw [dec_t h0, cond_true, if_pos h0, e1, e2, digit_neg _ (Nat.mod_lt _ (by decide)), show (-(u : Int)).natAbs = u by omega]
    by_cases h1 : u / 10 = 0
    · rw [h1, show (-((0 : Nat) : Int) != 0) = false from rfl, cond_false, req_t (by simp), Lib.decDigits, dif_pos (by omega), Nat.mod_eq_of_lt (by omega)]
      rfl
    · rw [show (-((u / 10 : Nat) : Int) != 0) = true from bne_iff_ne.2 (by omega), cond_true]
      have e3 : IntKind.i64.wrap (0 - -((u / 10 : Nat) : Int)) = ((u / 10 : Nat) : Int) := by rw [wrap64_in (by omega) (by omega)]; omega
      obtain ⟨m, rfl⟩ : ∃ m, n = m + 1 := ⟨n - 1, by omega⟩
      rw [e3, r09_Int_nn m (u / 10) (by omega) (by omega)]
      have hl := Lib.nDigits_le20 (u / 10) (by omega)
      have hl2 := Lib.decDigits_length (u / 10)
      simp only [Option.bind_some]
      rw [req_t (by simp; omega), req_t (by simp; omega), Lib.decDigits.eq_def u, dif_neg (by omega)]
      simp
  · obtain ⟨u, rfl⟩ : ∃ u : Nat, x = (u : Int) := ⟨x.toNat, by omega⟩
    unfold Lib.itoa
    rw [if_neg h0, Int.toNat_natCast]
    exact r09_Int_nn n u (by omega) (by omega)
theorem quot_loop (t : List UInt8) (ht : t.length ≤ 1073741824) : ∀ (k i : Nat) (l : List UInt8), t.length - i < k → i ≤ t.length → l.length + 2 * (t.length - i) < 4294967296 →
    m_r09_Quoted_l1 t k (i : Int) l = some (l ++ escL (t.drop i))
  | 0, _, _, h, _, _ => by omega
  | k + 1, i, l, hk, hi, hl => by
    unfold m_r09_Quoted_l1
    by_cases h : i < t.length
    · rw [dec_t (Int.ofNat_lt.2 h), cond_true, at_get h, escL_drop h]
      simp only [Option.bind_some, (byte_q t[i]).1, (byte_q t[i]).2]
      rw [wi_succ (by omega)]
      have e92 : b8of 92 = 92 := rfl
      have hx : (bif t[i] == 34 then some true else some (t[i] == 92) : Option Bool) = some (decide (t[i] = 34 ∨ t[i] = 92)) := by
        by_cases h1 : t[i] = 34
        · simp [h1]
        · by_cases h2 : t[i] = 92
          · simp [h2]
          · rw [beq_eq_false_iff_ne.2 h1, beq_eq_false_iff_ne.2 h2, cond_false, decide_eq_false (by intro h; exact h.elim h1 h2)]
      rw [hx]
      simp only [Option.bind_some]
      by_cases hq : t[i] = 34 ∨ t[i] = 92
      · rw [decide_eq_true hq, cond_true, if_pos hq, req_t (by simp; omega)]
        simp only [Option.bind_some]
        rw [req_t (by simp; omega)]
        simp only [Option.bind_some]
        rw [quot_loop t ht k (i + 1) _ (by omega) (by omega) (by simp; omega), e92]
        simp
      · rw [decide_eq_false hq, cond_false, if_neg hq]
        simp only [Option.bind_some]
        rw [req_t (by simp; omega)]
        simp only [Option.bind_some]
        rw [quot_loop t ht k (i + 1) _ (by omega) (by omega) (by simp; omega)]
        simp
    · rw [dec_f (by omega), cond_false]
      obtain rfl : i = t.length := by omega
      simp [escL]
theorem r09_Quoted_eq (n : Nat) (t : List UInt8) (hn : t.length < n) (ht : t.length ≤ 1073741824) : m_r09_Quoted n t = some (34 :: (escL t ++ [34])) := by
  unfold m_r09_Quoted
  have := quot_loop t ht n 0 [34] (by omega) (by omega) (by simp; omega)
  rw [show ((0 : Nat) : Int) = 0 from rfl, List.drop_zero] at this
  have he := escL_len t
  show (m_r09_Quoted_l1 t n 0 [b8of 34]).bind _ = _
  rw [show b8of 34 = 34 from rfl, this, Option.bind_some, req_t (by simp; omega)]
  simp
theorem rdump_loop {F : Nd → Option (List UInt8)} {ks : List Nd} (hF : ∀ v ∈ ks, F v = some (dumpL v)) (hl : ks.length ≤ 1073741824) :
    ∀ (q i : Nat) (x : List UInt8), ks.length - i < q → i ≤ ks.length → x.length + (dumpsL (ks.drop i)).length ≤ 4294967296 →
      m_r09_Dump_l1 F ks q x (i : Int) = some (x ++ (if i = 0 then (dumpsL ks).tail else dumpsL (ks.drop i)))
  | 0, _, _, h, _, _ => by omega
  | q + 1, i, x, hq, hi, hx => by
    unfold m_r09_Dump_l1
    by_cases h : i < ks.length
    · have hd := List.drop_eq_getElem_cons h
      have hf := hF _ (List.getElem_mem h)
      rw [hd] at hx
      rw [dec_t (Int.ofNat_lt.2 h), cond_true, at_get h]
      rcases e : ks[i] with ⟨e1, e2, e3, e4⟩
      rw [e] at hf hd hx
      simp only [dumpsL, List.length_cons, List.length_append] at hx
      simp only [Option.bind_some, hf]
      rw [wi_succ (by omega)]
      by_cases h0 : i = 0
      · subst h0
        rw [dec_f (by omega), cond_false]
        simp only [Option.bind_some]
        rw [req_t (by omega)]
        simp only [Option.bind_some]
        have ih := rdump_loop hF hl q 1 (x ++ dumpL (.mk e1 e2 e3 e4)) (by omega) (by omega) (by simp at hx ⊢; omega)
        rw [show (((0 + 1 : Nat)) : Int) = ((1 : Nat) : Int) from rfl, ih, if_neg (by decide)]
        rw [List.drop_zero] at hd
        have hd' := congrArg dumpsL hd
        simp only [dumpsL] at hd'
        simp [hd']
      · rw [dec_t (by omega), cond_true, req_t (by simp; omega)]
        simp only [Option.bind_some]
        rw [req_t (by simp; omega)]
        simp only [Option.bind_some]
        rw [rdump_loop hF hl q (i + 1) _ (by omega) (by omega) (by simp; omega), if_neg (by omega), if_neg h0, hd]
        simp [dumpsL]
    · rw [dec_f (by omega), cond_false]
      obtain rfl : i = ks.length := by omega
      congr 1
      by_cases h0 : ks.length = 0
      · rw [if_pos h0, List.length_eq_zero_iff.1 h0]; simp [dumpsL]
      · rw [if_neg h0, List.drop_length]; simp [dumpsL]
theorem kidsL_tail {l : List UInt8} (h : l ≠ []) : kidsL l = 40 :: (l.tail ++ [41]) := by
  cases l with
  | nil => exact absurd rfl h
  | cons a l => rfl
theorem r09_Dump_eq : ∀ (n : Nat) (t : Nd), t.w + 40 < n → t.w ≤ 16777216 → t.rng → m_r09_Dump n t = some (dumpL t)
  | 0, _, h, _, _ => by omega
  | n + 1, .mk k t c ks, h, hw, hr => by
    have hwt := w_kids' k t c ks
    have hki := Lib.itoa_length_le k hr.1.1 hr.1.2
    have hci := Lib.itoa_length_le c hr.2.1.1 hr.2.1.2
    have hkl := kindName_len hr.1
    have he := escL_len t
    have hd := dumpsL_len ks hr.2.2
    unfold m_r09_Dump
    rw [r09_Int_eq n k (by omega) hr.1]
    simp only [Option.bind_some]
    rw [req_t (by simp; omega), kind_in]
    simp only [Option.bind_some]
    have h1 : ∀ X : Option (List UInt8), X = some (kindName k) → ∀ K : List UInt8 → Option (List UInt8), X.bind K = K (kindName k) := fun X h K => by rw [h]; rfl
    rw [h1 _ ?_]
    · have h2 : ∀ X : Option (List UInt8), X = some (kindName k ++ textL t) → ∀ K : List UInt8 → Option (List UInt8), X.bind K = K (kindName k ++ textL t) := fun X h K => by rw [h]; rfl
      rw [h2 _ ?_]
      · have hx : (textL t).length ≤ 3 + 2 * t.length := by unfold textL; split <;> simp; omega
        have h3 : ∀ X : Option (List UInt8), X = some ((kindName k ++ textL t) ++ colsL c) → ∀ K : List UInt8 → Option (List UInt8), X.bind K = K ((kindName k ++ textL t) ++ colsL c) := fun X h K => by rw [h]; rfl
        rw [h3 _ ?_]
        · have hy : (colsL c).length ≤ 22 := by unfold colsL; split <;> simp; omega
          by_cases h0 : ks = []
          · subst h0
            simp [dumpL, dumpsL, kidsL, headL]
          · have hkl : ks.length ≠ 0 := by simpa using h0
            rw [ne_beq (by omega : (ks.length : Int) ≠ 0), cond_false, req_t (by simp; omega)]
            have hlk := Nd.ws_len ks
            have hlo := rdump_loop (F := m_r09_Dump n) (ks := ks) (fun v hv => r09_Dump_eq n v (by have := Nd.w_mem hv; omega) (by have := Nd.w_mem hv; omega) (Nd.rng_mem hr.2.2 hv)) (by omega) n 0 (((kindName k ++ textL t) ++ colsL c) ++ [40]) (by omega) (by omega) (by simp; omega)
            rw [show ((0 : Nat) : Int) = 0 from rfl, if_pos rfl] at hlo
            rw [hlo, Option.bind_some, req_t (by simp; omega)]
            have hne : dumpsL ks ≠ [] := by
              cases ks with
              | nil => exact absurd rfl h0
              | cons v vs => simp [dumpsL]
            simp [dumpL, headL, kidsL_tail hne]
        · unfold colsL
          by_cases h0 : c = 0
          · subst h0; simp
          · rw [if_neg h0, show (c != 0) = true from bne_iff_ne.2 h0, cond_true, req_t (by simp; omega), r09_Int_eq n c (by omega) hr.2.1]
            simp only [Option.bind_some]
            rw [req_t (by simp; omega)]
            simp
      · unfold textL
        by_cases h0 : t = []
        · subst h0; simp
        · rw [if_neg h0, show (!(t == [])) = true from by simp [h0], cond_true, req_t (by simp; omega), r09_Quoted_eq n t (by omega) (by omega)]
          simp only [Option.bind_some]
          rw [req_t (by simp; omega)]
          simp
    · rw [kindName_lit]
      rcases kinds k with rfl | rfl | rfl | rfl | rfl | rfl | rfl | rfl | rfl | rfl | rfl | rfl | hk'
      all_goals first | rfl | skip
      rw [show decide (1 ≤ k ∧ k ≤ 12) = false from decide_eq_false (by omega), cond_false, if_neg (by omega), if_neg (by omega), if_neg (by omega), if_neg (by omega), if_neg (by omega), if_neg (by omega), if_neg (by omega), if_neg (by omega), if_neg (by omega), if_neg (by omega), if_neg (by omega), if_neg (by omega)]
end Go.Proofs.YtefbmooajknmgaaDoor
set_option linter.unusedVariables false
set_option linter.unusedSimpArgs false
namespace Go.Proofs.YtefbmooajknmgaaDoor
open Go.Abs
theorem forms_mem {k : Int} : ∀ {a : List Nd} {v : Nd}, formsB k a = true → v ∈ a → formB v = true ∧ ((v.kind == 1) == (k == 1)) = false
  | u :: a, v, h, hm => by
    simp only [formsB, Bool.and_eq_true, Bool.not_eq_true'] at h
    rcases List.mem_cons.1 hm with rfl | hm
    · exact ⟨h.1.2, h.1.1⟩
    · exact forms_mem h.2 hm
theorem same_loop {F : Nd → Nd → Option Bool} {a b : List Nd} (hF : ∀ u ∈ a, ∀ v ∈ b, ∃ y, F u v = some y ∧ (y = true ↔ u = v)) (hl : a.length = b.length) (hb : a.length ≤ 1073741824) :
    ∀ (q i : Nat), a.length - i < q → i ≤ a.length → ∃ y, m_r09_SameItems_l1 F a b q (i : Int) = some (if y then .go () else .ret false) ∧ (y = true ↔ a.drop i = b.drop i)
  | 0, _, h, _ => by omega
  | q + 1, i, hq, hi => by
    unfold m_r09_SameItems_l1
    by_cases h : i < a.length
    · have h' : i < b.length := by omega
      rw [dec_t (Int.ofNat_lt.2 h), cond_true, at_get h, at_get h']
      obtain ⟨y, f1, f2⟩ := hF _ (List.getElem_mem h) _ (List.getElem_mem h')
      have d1 := List.drop_eq_getElem_cons h
      have d2 := List.drop_eq_getElem_cons h'
      rcases e : a[i] with ⟨x1, x2, x3, x4⟩
      rcases e' : b[i] with ⟨y1, y2, y3, y4⟩
      rw [e, e'] at f1 f2
      rw [e] at d1
      rw [e'] at d2
      simp only [Option.bind_some, f1]
      cases y with
      | false =>
        refine ⟨false, rfl, ⟨(fun h => by cases h), fun h => ?_⟩⟩
        rw [d1, d2] at h
        exact f2.2 (List.cons.inj h).1
      | true =>
        simp only [Bool.not_true, cond_false]
        rw [wi_succ (by omega)]
        obtain ⟨z, g1, g2⟩ := same_loop hF hl hb q (i + 1) (by omega) (by omega)
        refine ⟨z, g1, ?_⟩
        rw [d1, d2, g2, f2.1 rfl]
        simp
    · rw [dec_f (by omega), cond_false]
      obtain rfl : i = a.length := by omega
      refine ⟨true, rfl, ?_⟩
      rw [List.drop_length, hl, List.drop_length]
      simp
theorem Equal_eq : ∀ N : Nat, (∀ x y : Nd, 2 * x.cnt < N → x.cnt ≤ 67108864 → ∃ r, m_r09_Equal N x y = some r ∧ (r = true ↔ x = y)) ∧
    (∀ a b : List Nd, 2 * Nd.cnts a + 1 < N → Nd.cnts a ≤ 67108864 → ∃ r, m_r09_SameItems N a b = some r ∧ (r = true ↔ a = b))
  | 0 => ⟨fun _ _ h _ => by omega, fun _ _ h _ => by omega⟩
  | n + 1 => by
    obtain ⟨ih1, ih2⟩ := Equal_eq n
    refine ⟨fun x y h hx => ?_, fun a b h ha => ?_⟩
    · obtain ⟨a, b, c, d⟩ := x
      obtain ⟨a', b', c', d'⟩ := y
      simp only [Nd.cnt] at h hx
      obtain ⟨r, h1, h2⟩ := ih2 d d' (by omega) (by omega)
      unfold m_r09_Equal
      simp only [h1, Option.bind_some]
      cases e1 : a == a' with
      | false => exact ⟨false, rfl, ⟨(fun h => by cases h), fun h => by cases h; simp at e1⟩⟩
      | true =>
        cases e2 : b == b' with
        | false => exact ⟨false, rfl, ⟨(fun h => by cases h), fun h => by cases h; simp at e2⟩⟩
        | true =>
          cases e3 : c == c' with
          | false => exact ⟨false, rfl, ⟨(fun h => by cases h), fun h => by cases h; simp at e3⟩⟩
          | true =>
            refine ⟨r, rfl, h2.trans ⟨fun h => ?_, fun h => by cases h; rfl⟩⟩
            rw [eq_of_beq e1, eq_of_beq e2, eq_of_beq e3, h]
    · unfold m_r09_SameItems
      have l1 := Nd.cnts_len a
      by_cases hl : a.length = b.length
      · obtain ⟨y, g1, g2⟩ := same_loop (F := m_r09_Equal n) (a := a) (b := b) (fun u hu v _ => ih1 u v (by have := Nd.cnts_mem hu; omega) (by have := Nd.cnts_mem hu; omega)) hl (by omega) n 0 (by omega) (by omega)
        rw [show ((0 : Nat) : Int) = 0 from rfl] at g1
        rw [hl, bne_self_eq_false, cond_false, g1]
        refine ⟨y, by cases y <;> rfl, g2⟩
      · have : ((a.length : Int) != (b.length : Int)) = true := by
          unfold bne
          rw [ne_beq (by omega)]; rfl
        rw [this]
        exact ⟨false, rfl, ⟨(fun h => by cases h), fun h => absurd (congrArg List.length h) hl⟩⟩
end Go.Proofs.YtefbmooajknmgaaDoor
set_option linter.unusedVariables false
set_option linter.unusedSimpArgs false
namespace Go.Proofs.YtefbmooajknmgaaDoor
open Go.Abs
theorem awake9_ok (n : Nat) (h : 200 ≤ n) : m_l09_awake n = some true := by
  have h1 := node_Valid_eq n (Nd.mk 1 [] 0 [Nd.mk 2 [120] 0 [], Nd.mk 5 [] 0 [Nd.mk 1 [] 0 [], Nd.mk 1 [] 0 []]]) (by simp [Nd.w, Nd.ws]; omega) (by simp [Nd.w, Nd.ws])
  have h2 := node_Dump_eq n (Nd.mk 1 [] 0 [Nd.mk 2 [120] 0 [], Nd.mk 5 [] 0 [Nd.mk 1 [] 0 [], Nd.mk 1 [] 0 []]]) (by simp [Nd.w, Nd.ws]; omega) (by simp [Nd.w, Nd.ws]) (by simp [Nd.rng, Nd.rngs, in64i])
  unfold m_l09_awake
  rw [h1, h2]
  have e1 : validB (Nd.mk 1 [] 0 [Nd.mk 2 [120] 0 [], Nd.mk 5 [] 0 [Nd.mk 1 [] 0 [], Nd.mk 1 [] 0 []]]) = true := by decide
  rw [e1]
  rfl
theorem few9_eq (n : Nat) (a : Nd) (h : 310 < n) : ∃ y, m_l09_few n a = some y ∧ (y = true → a.cnt ≤ 300) := by
  obtain ⟨y1, h1, h2⟩ := Few_eq n a 300 (by omega) (by omega)
  rw [show ((300 : Nat) : Int) = 300 from rfl] at h1
  obtain ⟨a1, a2, a3, a4⟩ := a
  unfold m_l09_few
  simp only [h1, Option.bind_some]
  exact ⟨y1, rfl, h2⟩
end Go.Proofs.YtefbmooajknmgaaDoor
set_option linter.unusedVariables false
set_option linter.unusedSimpArgs false
namespace Go.Proofs.YtefbmooajknmgaaDoor
open Go.Abs
theorem findL_none1' {n : Nd} {i s : Int} {p : List Int} (h : ¬ (0 ≤ i ∧ i < n.kids.length)) : findL n (i :: s :: p) = none := by rw [findL, if_neg h]
theorem findL_none2' {n x : Nd} {i : Nat} {s : Int} {p : List Int} (hx : n.kids[i]? = some x) (h : ¬ (0 ≤ s ∧ s < x.kids.length)) : findL n ((i : Int) :: s :: p) = none := by
  have hl := (List.getElem?_eq_some_iff.1 hx).1
  rw [findL, if_pos ⟨by omega, by omega⟩]
  simp only [List.getD_eq_getElem?_getD, Int.toNat_natCast, hx, Option.getD_some]
  rw [if_neg h]
theorem findL_step' {n x z : Nd} {i s : Nat} {p : List Int} (hx : n.kids[i]? = some x) (hz : x.kids[s]? = some z) : findL n ((i : Int) :: (s : Int) :: p) = findL z p := by
  have hl := (List.getElem?_eq_some_iff.1 hx).1
  have hl2 := (List.getElem?_eq_some_iff.1 hz).1
  rw [findL, if_pos ⟨by omega, by omega⟩]
  simp only [List.getD_eq_getElem?_getD, Int.toNat_natCast, hx, hz, Option.getD_some]
  rw [if_pos ⟨by omega, by omega⟩]
theorem at_int9 {α : Type} {l : List α} {i : Int} (h0 : 0 ≤ i) (h1 : i < (l.length : Int)) : ∃ p : Nat, i = (p : Int) ∧ ∃ h : p < l.length, at? l i = some l[p] := by
  obtain ⟨p, rfl⟩ := Int.eq_ofNat_of_zero_le h0
  exact ⟨p, rfl, by omega, at_get (by omega)⟩
theorem find_loop9 : ∀ (k : Nat) (t : Nd) (path : List Int), path.length < k →
    (findL t path = none ∧ ∃ r, m_r09_find_l1 k t.kind t.text t.cols t.kids path = some (.ret (r, false))) ∨
    (findL t path = none ∧ ∃ (r : Nd) (p : List Int), p ≠ [] ∧ m_r09_find_l1 k t.kind t.text t.cols t.kids path = some (.go (p, r.kind, r.text, r.cols, r.kids))) ∨
    ∃ r, findL t path = some r ∧ m_r09_find_l1 k t.kind t.text t.cols t.kids path = some (.go ([], r.kind, r.text, r.cols, r.kids))
  | 0, _, _, h => by omega
  | k + 1, t, path, h => by
    unfold m_r09_find_l1
    match path, h with
    | [], h => exact .inr (.inr ⟨t, rfl, rfl⟩)
    | [x], h => exact .inr (.inl ⟨rfl, t, [x], by simp, rfl⟩)
    | x :: y :: p, h =>
      have e0 : at? (x :: y :: p) (0 : Int) = some x := rfl
      have e1 : at? (x :: y :: p) (1 : Int) = some y := rfl
      have e2 : (((x :: y :: p).take (((x :: y :: p).length : Int)).toNat).drop (2 : Int).toNat) = p := by
        rw [Int.toNat_natCast, List.take_length]; rfl
      rw [dec_t (by simp only [List.length_cons]; omega), cond_true]
      simp only [e0, e1, Option.bind_some, e2]
      by_cases h1 : x < 0
      · rw [dec_t h1]; exact .inl ⟨findL_none1' (fun h => by omega), _, rfl⟩
      · rw [dec_f h1]
        by_cases h2 : (t.kids.length : Int) ≤ x
        · rw [dec_t h2]; exact .inl ⟨findL_none1' (fun h => by omega), _, rfl⟩
        · rw [dec_f h2]
          obtain ⟨i, rfl, hi, hg⟩ := at_int9 (l := t.kids) (i := x) (by omega) (by omega)
          rw [hg]
          have hgi : t.kids[i]? = some t.kids[i] := List.getElem?_eq_getElem hi
          generalize t.kids[i] = e at hgi
          obtain ⟨x1, x2, x3, x4⟩ := e
          simp only [cond_false, Option.bind_some]
          by_cases h3 : y < 0
          · rw [dec_t h3]; exact .inl ⟨findL_none2' hgi (fun h => by omega), _, rfl⟩
          · rw [dec_f h3]
            by_cases h4 : (x4.length : Int) ≤ y
            · rw [dec_t h4]; exact .inl ⟨findL_none2' hgi (fun h => by have : y < x4.length := h.2; omega), _, rfl⟩
            · rw [dec_f h4]
              obtain ⟨j, rfl, hj, hg2⟩ := at_int9 (l := x4) (i := y) (by omega) (by omega)
              rw [hg2]
              have hgj : x4[j]? = some x4[j] := List.getElem?_eq_getElem hj
              generalize x4[j] = f at hgj
              obtain ⟨y1, y2, y3, y4⟩ := f
              simp only [cond_false, Option.bind_some]
              rw [req_t ⟨by omega, by simp only [List.length_cons]; omega, by omega⟩]
              rw [findL_step' hgi hgj]
              exact find_loop9 k (.mk y1 y2 y3 y4) p (by simp only [List.length_cons] at h; omega)
theorem r09_find_eq (n : Nat) (t : Nd) (path : List Int) (h : path.length < n) : ∃ r ok, m_r09_find n t path = some (r, ok) ∧ findL t path = bif ok then some r else none := by
  obtain ⟨a, b, c, d⟩ := t
  unfold m_r09_find
  dsimp only
  rcases find_loop9 n (.mk a b c d) path h with ⟨h0, r, h1⟩ | ⟨h0, r, p, hp, h1⟩ | ⟨r, h0, h1⟩
  · simp only [Nd.kind, Nd.text, Nd.cols, Nd.kids] at h1
    rw [h1]
    exact ⟨r, false, rfl, h0⟩
  · obtain ⟨r1, r2, r3, r4⟩ := r
    simp only [Nd.kind, Nd.text, Nd.cols, Nd.kids] at h1
    rw [h1]
    refine ⟨.mk r1 r2 r3 r4, false, ?_, h0⟩
    have : ((p.length : Int) == 0) = false := beq_eq_false_iff_ne.2 fun e => hp (List.eq_nil_of_length_eq_zero (by omega))
    simp only [Option.bind_some, this]
  · obtain ⟨r1, r2, r3, r4⟩ := r
    simp only [Nd.kind, Nd.text, Nd.cols, Nd.kids] at h1
    rw [h1]
    exact ⟨.mk r1 r2 r3 r4, true, rfl, h0⟩
def rowS (t : Nd) (p : List Int) : Nd × Int := if validB t = true then (match findL t p with | some r => (r, 0) | none => (zeroNd, 8)) else (zeroNd, 1)
theorem findL_sub : ∀ (N : Nat) (p : List Int) (t r : Nd), p.length < N → findL t p = some r → r.w ≤ t.w ∧ r.cnt ≤ t.cnt
  | 0, p, _, _, h, _ => by omega
  | N + 1, [], t, r, _, h => by
    rw [findL] at h
    cases h
    exact ⟨Nat.le_refl _, Nat.le_refl _⟩
  | N + 1, [_], t, r, _, h => by
    rw [findL] at h
    cases h
  | N + 1, i :: s :: p, .mk k tx c ks, r, hN, h => by
    rw [findL] at h
    split at h
    · rename_i hi
      replace hi : 0 ≤ i ∧ i < ks.length := hi
      have hi0 : i.toNat < ks.length := by omega
      have hx : ks[i.toNat]? = some ks[i.toNat] := List.getElem?_eq_getElem hi0
      generalize ks[i.toNat] = x at hx
      obtain ⟨k2, tx2, c2, ks2⟩ := x
      simp only [Nd.kids, List.getD_eq_getElem?_getD, hx, Option.getD_some] at h
      split at h
      · rename_i hs
        have hs0 : s.toNat < ks2.length := by omega
        have hz : ks2[s.toNat]? = some ks2[s.toNat] := List.getElem?_eq_getElem hs0
        generalize ks2[s.toNat] = z at hz
        rw [hz, Option.getD_some] at h
        obtain ⟨q1, q2⟩ := findL_sub N p z r (by simp only [List.length_cons] at hN; omega) h
        have m1 := Nd.w_mem (List.mem_of_getElem? hx)
        have m2 := Nd.w_mem (List.mem_of_getElem? hz)
        have n1 := Nd.cnts_mem (List.mem_of_getElem? hx)
        have n2 := Nd.cnts_mem (List.mem_of_getElem? hz)
        simp only [Nd.w, Nd.cnt] at m1 m2 n1 n2 ⊢
        omega
      · cases h
    · cases h
theorem r09_Row_eq (n : Nat) (t : Nd) (p : List Int) (hp : p.length < n) (hv : m_r09_Valid n t = some (validB t)) : m_r09_Row n t p = some (rowS t p) := by
  obtain ⟨r, ok, h1, h2⟩ := r09_find_eq n t p hp
  obtain ⟨k, tx, c, ks⟩ := t
  unfold m_r09_Row rowS
  dsimp only
  rw [hv]
  simp only [Option.bind_some]
  cases hb : validB (.mk k tx c ks) with
  | false => rfl
  | true =>
    rw [h1, h2]
    obtain ⟨r1, r2, r3, r4⟩ := r
    cases ok <;> rfl
theorem deep_eq {t : Nd} (h : t.cnt ≤ 1000000000) : m_deep_Node t = some t := req_t h
theorem node_Row_eq (n : Nat) (t : Nd) (p : List Int) (hv : m_node_Valid n t = some (validB t)) (hc : t.cnt ≤ 1000000000) : m_node_Row n t p = some (rowS t p) := by
  unfold m_node_Row rowS
  rw [hv]
  simp only [Option.bind_some]
  split
  · cases hf : findL t p with
    | none => rfl
    | some r =>
      have := (findL_sub _ p t r (Nat.lt_succ_self _) hf).2
      simp only [deep_eq (Nat.le_trans this hc), Option.bind_some]
  · rfl
theorem zero_cnt (t : Nd) : zeroNd.cnt ≤ t.cnt := t.cnt_pos
theorem rowS_cnt (t : Nd) (p : List Int) : (rowS t p).1.cnt ≤ t.cnt := by
  unfold rowS
  split
  · split
    · rename_i r hr
      exact (findL_sub _ p t r (Nat.lt_succ_self _) hr).2
    · exact zero_cnt t
  · exact zero_cnt t
theorem r09_Equal_self (t : Nd) (h : t.cnt ≤ 1048576) : m_r09_Equal 70000000 t t = some true := by
  obtain ⟨r, q1, q2⟩ := (Equal_eq 70000000).1 t t (by omega) (by omega)
  rw [q1, q2.2 rfl]
end Go.Proofs.YtefbmooajknmgaaDoor
set_option linter.unusedVariables false
set_option linter.unusedSimpArgs false
namespace Go.Proofs.YtefbmooajknmgaaDoor
open Go.Abs
inductive Fd : Nd → List Int → Nd → Prop
  | nil (t : Nd) : Fd t [] t
  | step {k : Int} {tx : List UInt8} {c : Int} {ks : List Nd} {i : Nat} {k2 : Int} {tx2 : List UInt8} {c2 : Int} {ks2 : List Nd} {s : Nat} {z r : Nd} {p : List Int}
      (hi : ks[i]? = some (.mk k2 tx2 c2 ks2)) (hs : ks2[s]? = some z) (h : Fd z p r) : Fd (.mk k tx c ks) ((i : Int) :: (s : Int) :: p) r
theorem Fd.find {t r : Nd} {p : List Int} (h : Fd t p r) : findL t p = some r := by
  induction h with
  | nil t => rw [findL]
  | @step k tx c ks i k2 tx2 c2 ks2 s z r p hi hs _ ih =>
    have hl := (List.getElem?_eq_some_iff.1 hi).1
    have hl2 := (List.getElem?_eq_some_iff.1 hs).1
    rw [findL, if_pos ⟨by omega, show (i : Int) < (ks.length : Int) by omega⟩]
    simp only [Nd.kids, List.getD_eq_getElem?_getD, Int.toNat_natCast, hi, hs, Option.getD_some]
    rw [if_pos ⟨by omega, show (s : Int) < (ks2.length : Int) by omega⟩]
    exact ih
theorem Fd.of : ∀ (N : Nat) (p : List Int) (t r : Nd), p.length < N → findL t p = some r → Fd t p r
  | 0, p, _, _, h, _ => by omega
  | N + 1, [], t, r, _, h => by
    rw [findL] at h
    cases h
    exact .nil t
  | N + 1, [_], t, r, _, h => by
    rw [findL] at h
    cases h
  | N + 1, i :: s :: p, .mk k tx c ks, r, hN, h => by
    rw [findL] at h
    split at h
    · rename_i hi
      replace hi : 0 ≤ i ∧ i < ks.length := hi
      obtain ⟨i, rfl⟩ := Int.eq_ofNat_of_zero_le hi.1
      have hx : ks[i]? = some ks[i] := List.getElem?_eq_getElem (by omega)
      generalize ks[i] = x at hx
      obtain ⟨k2, tx2, c2, ks2⟩ := x
      simp only [Nd.kids, List.getD_eq_getElem?_getD, Int.toNat_natCast, hx, Option.getD_some] at h
      split at h
      · rename_i hs
        obtain ⟨s, rfl⟩ := Int.eq_ofNat_of_zero_le hs.1
        have hz : ks2[s]? = some ks2[s] := List.getElem?_eq_getElem (by omega)
        generalize ks2[s] = z at hz
        rw [Int.toNat_natCast, hz, Option.getD_some] at h
        exact .step hx hz (Fd.of N p z r (by simp only [List.length_cons] at hN; omega) h)
      · cases h
    · cases h
theorem fd_of {p : List Int} {t r : Nd} (h : findL t p = some r) : Fd t p r := Fd.of _ p t r (Nat.lt_succ_self _) h
theorem putL_nil' {t r : Nd} : putL t [] r = r := by cases t; rw [putL]; intros; contradiction
theorem putL_step' {k : Int} {tx : List UInt8} {c : Int} {ks : List Nd} {i : Nat} {k2 : Int} {tx2 : List UInt8} {c2 : Int} {ks2 : List Nd} {s : Nat} {z r : Nd} {p : List Int} (hi : ks[i]? = some (.mk k2 tx2 c2 ks2)) (hs : ks2[s]? = some z) :
    putL (.mk k tx c ks) ((i : Int) :: (s : Int) :: p) r = .mk k tx c (ks.set i (.mk k2 tx2 c2 (ks2.set s (putL z p r)))) := by
  rw [putL, Int.toNat_natCast, hi]
  dsimp only
  rw [Int.toNat_natCast, hs]
theorem ws_set : ∀ {ks : List Nd} {i : Nat} {x y : Nd}, ks[i]? = some x → Nd.ws (ks.set i y) + x.w = Nd.ws ks + y.w
  | [], i, x, y, h => by simp at h
  | v :: ks, 0, x, y, h => by
    obtain rfl : v = x := by simpa using h
    simp only [List.set_cons_zero, Nd.ws]; omega
  | v :: ks, i + 1, x, y, h => by
    have := ws_set (ks := ks) (i := i) (x := x) (y := y) (by simpa using h)
    simp only [List.set_cons_succ, Nd.ws]; omega
theorem cnts_set : ∀ {ks : List Nd} {i : Nat} {x y : Nd}, ks[i]? = some x → Nd.cnts (ks.set i y) + x.cnt = Nd.cnts ks + y.cnt
  | [], i, x, y, h => by simp at h
  | v :: ks, 0, x, y, h => by
    obtain rfl : v = x := by simpa using h
    simp only [List.set_cons_zero, Nd.cnts]; omega
  | v :: ks, i + 1, x, y, h => by
    have := cnts_set (ks := ks) (i := i) (x := x) (y := y) (by simpa using h)
    simp only [List.set_cons_succ, Nd.cnts]; omega
theorem Fd.w {t z : Nd} {p : List Int} (h : Fd t p z) (r : Nd) : (putL t p r).w + z.w = t.w + r.w := by
  induction h with
  | nil t => rw [putL_nil']; omega
  | @step k tx c ks i k2 tx2 c2 ks2 s z r' p hi hs _ ih =>
    rw [putL_step' hi hs]
    have h1 := ws_set (y := .mk k2 tx2 c2 (ks2.set s (putL z p r))) hi
    have h2 := ws_set (y := putL z p r) hs
    simp only [Nd.w] at *
    omega
theorem Fd.cnt {t z : Nd} {p : List Int} (h : Fd t p z) (r : Nd) : (putL t p r).cnt + z.cnt = t.cnt + r.cnt := by
  induction h with
  | nil t => rw [putL_nil']; omega
  | @step k tx c ks i k2 tx2 c2 ks2 s z r' p hi hs _ ih =>
    rw [putL_step' hi hs]
    have h1 := cnts_set (y := .mk k2 tx2 c2 (ks2.set s (putL z p r))) hi
    have h2 := cnts_set (y := putL z p r) hs
    simp only [Nd.cnt] at *
    omega
theorem set_at {α : Type} {l : List α} {i : Nat} {x y : α} (h : l[i]? = some x) : (l.set i y)[i]? = some y := by
  rw [List.getElem?_set, if_pos rfl, if_pos (List.getElem?_eq_some_iff.1 h).1]
theorem set_back {α : Type} {l : List α} {i : Nat} {x y : α} (h : l[i]? = some x) : (l.set i y).set i x = l := by
  refine List.ext_getElem? fun j => ?_
  rw [List.set_set, List.getElem?_set]
  split
  · rename_i e
    subst e
    rw [if_pos (List.getElem?_eq_some_iff.1 h).1, h]
  · rfl
theorem Fd.put {t z : Nd} {p : List Int} (h : Fd t p z) (r : Nd) : Fd (putL t p r) p r := by
  induction h with
  | nil t => rw [putL_nil']; exact .nil r
  | @step k tx c ks i k2 tx2 c2 ks2 s z r' p hi hs _ ih =>
    rw [putL_step' hi hs]
    exact .step (set_at hi) (set_at hs) ih
theorem Fd.put_put {t z : Nd} {p : List Int} (h : Fd t p z) (r q : Nd) : putL (putL t p r) p q = putL t p q := by
  induction h with
  | nil t => simp only [putL_nil']
  | @step k tx c ks i k2 tx2 c2 ks2 s z r' p hi hs _ ih =>
    rw [putL_step' hi hs, putL_step' hi hs, putL_step' (set_at hi) (set_at hs), ih]
    simp only [List.set_set]
theorem Fd.put_self {t z : Nd} {p : List Int} (h : Fd t p z) : putL t p z = t := by
  induction h with
  | nil t => rw [putL_nil']
  | @step k tx c ks i k2 tx2 c2 ks2 s z r' p hi hs _ ih =>
    rw [putL_step' hi hs, ih]
    have e1 : ks2.set s z = ks2 := by
      have := set_back (y := z) hs
      rwa [List.set_set] at this
    have e2 : ks.set i (.mk k2 tx2 c2 ks2) = ks := by
      have := set_back (y := .mk k2 tx2 c2 ks2) hi
      rwa [List.set_set] at this
    rw [e1, e2]
theorem Fd.back {t z : Nd} {p : List Int} (h : Fd t p z) (r : Nd) : putL (putL t p r) p z = t := by rw [h.put_put, h.put_self]
theorem findL_none_a {n : Nd} {i s : Int} {p : List Int} (h : ¬ (0 ≤ i ∧ i < n.kids.length)) : findL n (i :: s :: p) = none := by rw [findL, if_neg h]
theorem findL_none_b {n x : Nd} {i : Nat} {s : Int} {p : List Int} (hx : n.kids[i]? = some x) (h : ¬ (0 ≤ s ∧ s < x.kids.length)) : findL n ((i : Int) :: s :: p) = none := by
  have hl := (List.getElem?_eq_some_iff.1 hx).1
  rw [findL, if_pos ⟨by omega, by omega⟩]
  simp only [List.getD_eq_getElem?_getD, Int.toNat_natCast, hx, Option.getD_some]
  rw [if_neg h]
theorem findL_on {n x z : Nd} {i s : Nat} {p : List Int} (hx : n.kids[i]? = some x) (hz : x.kids[s]? = some z) : findL n ((i : Int) :: (s : Int) :: p) = findL z p := by
  have hl := (List.getElem?_eq_some_iff.1 hx).1
  have hl2 := (List.getElem?_eq_some_iff.1 hz).1
  rw [findL, if_pos ⟨by omega, by omega⟩]
  simp only [List.getD_eq_getElem?_getD, Int.toNat_natCast, hx, hz, Option.getD_some]
  rw [if_pos ⟨by omega, by omega⟩]
def Apart (p q : List Int) : Prop := ¬ p <+: q ∧ ¬ q <+: p
theorem Apart.symm {p q : List Int} (h : Apart p q) : Apart q p := ⟨h.2, h.1⟩
theorem Apart.tail {i s : Int} {p q : List Int} (h : Apart (i :: s :: p) (i :: s :: q)) : Apart p q :=
  ⟨fun hp => h.1 (List.cons_prefix_cons.2 ⟨rfl, List.cons_prefix_cons.2 ⟨rfl, hp⟩⟩), fun hp => h.2 (List.cons_prefix_cons.2 ⟨rfl, List.cons_prefix_cons.2 ⟨rfl, hp⟩⟩)⟩
theorem Fd.other {t z : Nd} {p : List Int} (h : Fd t p z) (r : Nd) : ∀ q, Apart p q → findL (putL t p r) q = findL t q := by
  induction h with
  | nil t => exact fun q hq => absurd (List.nil_prefix) hq.1
  | @step k tx c ks i k2 tx2 c2 ks2 s z r' p hi hs _ ih =>
    intro q hq
    rw [putL_step' hi hs]
    match q, hq with
    | [], hq => exact absurd (List.nil_prefix) hq.2
    | [_], hq => rw [findL, findL]
    | j :: u :: q, hq =>
      by_cases hj : 0 ≤ j ∧ j < (ks.length : Int)
      · obtain ⟨j, rfl⟩ := Int.eq_ofNat_of_zero_le hj.1
        by_cases hji : i = j
        · subst hji
          have hx1 : (Nd.mk k tx c (ks.set i (.mk k2 tx2 c2 (ks2.set s (putL z p r))))).kids[i]? = some (.mk k2 tx2 c2 (ks2.set s (putL z p r))) := set_at hi
          have hx2 : (Nd.mk k tx c ks).kids[i]? = some (.mk k2 tx2 c2 ks2) := hi
          by_cases hu : 0 ≤ u ∧ u < (ks2.length : Int)
          · obtain ⟨u, rfl⟩ := Int.eq_ofNat_of_zero_le hu.1
            by_cases hus : s = u
            · subst hus
              rw [findL_on hx1 (set_at hs), findL_on hx2 hs]
              exact ih q hq.tail
            · obtain ⟨y, hy⟩ : ∃ y, ks2[u]? = some y := ⟨_, List.getElem?_eq_getElem (by omega)⟩
              have hy' : (ks2.set s (putL z p r))[u]? = some y := by rw [List.getElem?_set, if_neg hus, hy]
              rw [findL_on hx1 hy', findL_on hx2 hy]
          · rw [findL_none_b hx1 (fun h => hu ⟨h.1, by simpa [Nd.kids] using h.2⟩), findL_none_b hx2 hu]
        · obtain ⟨y, hy⟩ : ∃ y, ks[j]? = some y := ⟨_, List.getElem?_eq_getElem (by omega)⟩
          have hx1 : (Nd.mk k tx c (ks.set i (.mk k2 tx2 c2 (ks2.set s (putL z p r))))).kids[j]? = some y := by
            show (ks.set i _)[j]? = some y
            rw [List.getElem?_set, if_neg hji, hy]
          have hx2 : (Nd.mk k tx c ks).kids[j]? = some y := hy
          by_cases hu : 0 ≤ u ∧ u < (y.kids.length : Int)
          · obtain ⟨u, rfl⟩ := Int.eq_ofNat_of_zero_le hu.1
            obtain ⟨v, hv⟩ : ∃ v, y.kids[u]? = some v := ⟨_, List.getElem?_eq_getElem (by omega)⟩
            rw [findL_on hx1 hv, findL_on hx2 hv]
          · rw [findL_none_b hx1 hu, findL_none_b hx2 hu]
      · rw [findL_none_a (fun h => hj ⟨h.1, by simpa [Nd.kids] using h.2⟩), findL_none_a hj]
theorem deps_mem' : ∀ {ks : List Nd} {v : Nd}, v ∈ ks → v.dep ≤ Nd.deps ks
  | u :: ks, v, h => by
    simp only [Nd.deps]
    rcases List.mem_cons.1 h with rfl | h
    · exact Nat.le_max_left _ _
    · exact Nat.le_trans (deps_mem' h) (Nat.le_max_right _ _)
theorem form_kids {k : Int} {tx : List UInt8} {c : Int} {ks : List Nd} (h : formB (.mk k tx c ks) = true) : formsB k ks = true := by
  simp only [formB, Bool.and_eq_true] at h
  exact h.2
theorem Fd.form {t z : Nd} {p : List Int} (h : Fd t p z) (hf : formB t = true) (hk : t.kind = 1) : formB z = true ∧ z.kind = 1 := by
  induction h with
  | nil t => exact ⟨hf, hk⟩
  | @step k tx c ks i k2 tx2 c2 ks2 s z r' p hi hs _ ih =>
    obtain ⟨f1, f2⟩ := forms_mem (form_kids hf) (List.mem_of_getElem? hi)
    obtain ⟨g1, g2⟩ := forms_mem (form_kids f1) (List.mem_of_getElem? hs)
    have hk : k = 1 := hk
    subst hk
    have f3 : (k2 == 1) = false := by simpa [Nd.kind] using f2
    rw [f3] at g2
    refine ih g1 ?_
    cases e : z.kind == 1 with
    | true => exact eq_of_beq e
    | false => rw [e] at g2; cases g2
theorem Fd.small {t z : Nd} {p : List Int} (h : Fd t p z) : z.cnt ≤ t.cnt ∧ z.dep ≤ t.dep ∧ z.w ≤ t.w := by
  induction h with
  | nil t => exact ⟨Nat.le_refl _, Nat.le_refl _, Nat.le_refl _⟩
  | @step k tx c ks i k2 tx2 c2 ks2 s z r' p hi hs _ ih =>
    have m1 := Nd.w_mem (List.mem_of_getElem? hi)
    have m2 := Nd.w_mem (List.mem_of_getElem? hs)
    have n1 := Nd.cnts_mem (List.mem_of_getElem? hi)
    have n2 := Nd.cnts_mem (List.mem_of_getElem? hs)
    have d1 := deps_mem' (List.mem_of_getElem? hi)
    have d2 := deps_mem' (List.mem_of_getElem? hs)
    simp only [Nd.w, Nd.cnt, Nd.dep] at *
    omega
theorem Fd.valid {t z : Nd} {p : List Int} (h : Fd t p z) (hv : validB t = true) : validB z = true := by
  unfold validB at hv ⊢
  simp only [Bool.and_eq_true, decide_eq_true_eq] at hv ⊢
  obtain ⟨h1, h2, h3, h4⟩ := hv
  obtain ⟨f1, f2⟩ := h.form h2 (eq_of_beq h1)
  obtain ⟨s1, s2, _⟩ := h.small
  exact ⟨by rw [f2]; rfl, f1, by omega, by omega⟩
end Go.Proofs.YtefbmooajknmgaaDoor
set_option linter.unusedVariables false
set_option linter.unusedSimpArgs false
namespace Go.Proofs.YtefbmooajknmgaaDoor
open Go.Abs
theorem at_some {α : Type} {l : List α} {i : Nat} {x : α} (h : l[i]? = some x) : at? l (i : Int) = some x := by
  have hl := (List.getElem?_eq_some_iff.1 h).1
  rw [at_get hl, ← List.getElem?_eq_getElem hl, h]
theorem r09_Replaced_eq {k : Int} {tx : List UInt8} {c : Int} {ks : List Nd} {i : Nat} {x y : Nd} (hi : ks[i]? = some y) (hl : ks.length ≤ 4294967296) : m_r09_Replaced (.mk k tx c ks) (i : Int) x = some (.mk k tx c (ks.set i x)) := by
  obtain ⟨x1, x2, x3, x4⟩ := x
  obtain ⟨y1, y2, y3, y4⟩ := y
  unfold m_r09_Replaced
  dsimp only
  rw [req_t (by simpa using hl), at_some hi]
  simp only [Option.bind_some, Int.toNat_natCast]
theorem r09_put_eq {t z : Nd} {p : List Int} (h : Fd t p z) (r : Nd) : ∀ n, p.length < n → t.cnt ≤ 4294967296 → m_r09_put n t p r = some (putL t p r) := by
  induction h with
  | nil t =>
    intro n hn _
    obtain ⟨n, rfl⟩ : ∃ m, n = m + 1 := ⟨n - 1, by omega⟩
    rw [putL_nil']
    obtain ⟨t1, t2, t3, t4⟩ := t
    obtain ⟨r1, r2, r3, r4⟩ := r
    unfold m_r09_put
    rfl
  | @step k tx c ks i k2 tx2 c2 ks2 s z r' p hi hs _ ih =>
    intro n hn hc
    obtain ⟨n, rfl⟩ : ∃ m, n = m + 1 := ⟨n - 1, by omega⟩
    have n1 := Nd.cnts_mem (List.mem_of_getElem? hi)
    have n2 := Nd.cnts_mem (List.mem_of_getElem? hs)
    have l1 := Nd.cnts_len ks
    have l2 := Nd.cnts_len ks2
    simp only [Nd.cnt] at hc n1
    have ih := ih n (by simp only [List.length_cons] at hn; omega) (by omega)
    rw [putL_step' hi hs]
    have e1 : ((((i : Int) :: (s : Int) :: p).length : Int) == 0) = false := ne_beq (by simp only [List.length_cons]; omega)
    have e2 : at? ((i : Int) :: (s : Int) :: p) (0 : Int) = some (i : Int) := rfl
    have e3 : at? ((i : Int) :: (s : Int) :: p) (1 : Int) = some (s : Int) := rfl
    have e4 : (((((i : Int) :: (s : Int) :: p)).take ((((i : Int) :: (s : Int) :: p)).length : Int).toNat).drop (2 : Int).toNat) = p := by
      rw [Int.toNat_natCast, List.take_length]; rfl
    obtain ⟨z1, z2, z3, z4⟩ := z
    obtain ⟨r1, r2, r3, r4⟩ := r
    unfold m_r09_put
    simp only [e1, e2, e3, cond_false, Option.bind_some, at_some hi, at_some hs, e4]
    rw [req_t ⟨by omega, by simp only [List.length_cons]; omega, by omega⟩, ih]
    generalize putL (Nd.mk z1 z2 z3 z4) p (Nd.mk r1 r2 r3 r4) = Z
    obtain ⟨q1, q2, q3, q4⟩ := Z
    simp only [Option.bind_some]
    rw [r09_Replaced_eq hs (by omega)]
    simp only [Option.bind_some]
    rw [r09_Replaced_eq hi (by omega)]
    rfl
def withS (t : Nd) (p : List Int) (r : Nd) : Nd × Int := if validB t = true then (match findL t p with
  | some _ => if validB r = true then (if validB (putL t p r) = true then (putL t p r, 0) else (zeroNd, 6)) else (zeroNd, 4)
  | none => (zeroNd, 8)) else (zeroNd, 1)
theorem node_With_eq (n : Nat) (t : Nd) (p : List Int) (r : Nd) (hv : m_node_Valid n t = some (validB t)) (hr : m_node_Valid n r = some (validB r)) (hp : ∀ z, Fd t p z → m_node_Valid n (putL t p r) = some (validB (putL t p r))) (hc : t.cnt ≤ 1000000000) (hcr : r.cnt ≤ 1000000000) :
    m_node_With n t p r = some (withS t p r) := by
  unfold m_node_With withS
  rw [hv, deep_eq hc, hr, deep_eq hcr]
  simp only [Option.bind_some]
  split
  · cases hf : findL t p with
    | none => rfl
    | some z =>
      dsimp only
      rw [hp z (fd_of hf)]
      simp only [Option.bind_some]
      split
      · split <;> rfl
      · rfl
  · rfl
theorem r09_With_eq (n : Nat) (t : Nd) (p : List Int) (r : Nd) (hpn : p.length < n) (hv : m_r09_Valid n t = some (validB t)) (hr : m_r09_Valid n r = some (validB r)) (hp : ∀ z, Fd t p z → m_r09_Valid n (putL t p r) = some (validB (putL t p r))) (hc : t.cnt ≤ 1000000000) :
    m_r09_With n t p r = some (withS t p r) := by
  have e1 := r09_Row_eq n t p hpn hv
  have e2 : ∀ z, Fd t p z → m_r09_put n t p r = some (putL t p r) := fun z hz => r09_put_eq hz r n hpn (by omega)
  obtain ⟨t1, t2, t3, t4⟩ := t
  obtain ⟨r1, r2, r3, r4⟩ := r
  unfold m_r09_With
  dsimp only
  rw [e1]
  unfold rowS withS
  split
  · cases hf : findL (.mk t1 t2 t3 t4) p with
    | none => rfl
    | some z =>
      have hz := fd_of hf
      obtain ⟨z1, z2, z3, z4⟩ := z
      simp only [Option.bind_some, show ((0 : Int) != 0) = false from rfl, cond_false, hr]
      cases validB (.mk r1 r2 r3 r4) with
      | false => rfl
      | true =>
        simp only [Bool.not_true, cond_false, e2 _ hz, Option.bind_some, if_pos]
        have e3 := hp _ hz
        generalize putL (Nd.mk t1 t2 t3 t4) p (Nd.mk r1 r2 r3 r4) = Z at *
        obtain ⟨q1, q2, q3, q4⟩ := Z
        simp only [Option.bind_some, e3]
        cases validB (.mk q1 q2 q3 q4) <;> rfl
  · rfl
theorem withS_cnt (t : Nd) (p : List Int) (r : Nd) : (withS t p r).1.cnt ≤ t.cnt + r.cnt := by
  have h0 := t.cnt_pos
  have hz : zeroNd.cnt = 1 := rfl
  unfold withS
  split
  · cases hf : findL t p with
    | none => simp only [hz]; omega
    | some z =>
      have := (fd_of hf).cnt r
      dsimp only
      split
      · split
        · dsimp only; omega
        · simp only [hz]; omega
      · simp only [hz]; omega
  · simp only [hz]; omega
theorem NodeWith_eq (a : Nd) (p : List Int) (r : Nd) (ha : a.w ≤ 1048576) (hr : r.w ≤ 1048576) (ra : a.rng) : m_l09_NodeWith 70000000 a p r = some true := by
  have hw := awake9_ok 70000000 (by decide)
  have ca := Nd.cnt_w a
  have cr := Nd.cnt_w r
  obtain ⟨y, f1, _⟩ := few9_eq 70000000 a (by omega)
  obtain ⟨z, f2, _⟩ := few9_eq 70000000 r (by omega)
  have v1 := node_Valid_eq 70000000 a (by omega) (by omega)
  have v2 := r09_Valid_eq 70000000 a (by omega) (by omega)
  have v3 := node_Valid_eq 70000000 r (by omega) (by omega)
  have v4 := r09_Valid_eq 70000000 r (by omega) (by omega)
  have d := r09_Dump_eq 70000000 a (by omega) (by omega) ra
  have e1 := node_With_eq 70000000 a p r v1 v3 (fun z hz => node_Valid_eq 70000000 _ (by have := hz.w r; omega) (by have := hz.w r; omega)) (by omega) (by omega)
  have e2 : ¬ 60 < (p.length : Int) → m_r09_With 70000000 a p r = some (withS a p r) := fun h => r09_With_eq 70000000 a p r (by omega) v2 v4 (fun z hz => r09_Valid_eq 70000000 _ (by have := hz.w r; omega) (by have := hz.w r; omega)) (by omega)
  have hq : ∃ b, m_r09_Equal 70000000 (withS a p r).1 (withS a p r).1 = some b ∧ (b = true ↔ (withS a p r).1 = (withS a p r).1) := (Equal_eq 70000000).1 _ _ (by have := withS_cnt a p r; omega) (by have := withS_cnt a p r; omega)
  obtain ⟨b, q1, q2⟩ := hq
  obtain rfl := q2.2 rfl
  generalize 70000000 = n at *
  generalize dumpL a = D at *
  obtain ⟨a1, a2, a3, a4⟩ := a
  obtain ⟨r1, r2, r3, r4⟩ := r
  unfold m_l09_NodeWith
  simp only [hw, f1, f2, Option.bind_some, cond_true, cond_false, Bool.not_true]
  cases y with
  | false => rfl
  | true =>
    cases z with
    | false => rfl
    | true =>
      simp only [Bool.not_true, cond_false, Option.bind_some]
      by_cases h : 60 < (p.length : Int)
      · rw [dec_t h]; rfl
      · rw [dec_f h, d, e1, e2 h]
        generalize withS _ p _ = R at *
        obtain ⟨⟨s1, s2, s3, s4⟩, s5⟩ := R
        simp only [Option.bind_some, cond_true, cond_false, beq_self_eq_true, q1, d]
theorem begins_loop {l w : List Int} (hlw : w.length ≤ l.length) (hl : w.length ≤ 1073741824) : ∀ (k i : Nat), w.length - i < k → i ≤ w.length → m_l09_begins_l1 l w k (i : Int) = some (bif (w.drop i).isPrefixOf (l.drop i) then .go () else .ret false)
  | 0, i, h, _ => by omega
  | k + 1, i, h, hi => by
    unfold m_l09_begins_l1
    by_cases hj : i < w.length
    · have hj' : i < l.length := by omega
      rw [dec_t (Int.ofNat_lt.2 hj), cond_true, at_get hj', at_get hj]
      simp only [Option.bind_some]
      rw [List.drop_eq_getElem_cons hj, List.drop_eq_getElem_cons hj', List.isPrefixOf_cons_cons, wi_succ (by omega), begins_loop hlw hl k (i + 1) (by omega) (by omega)]
      cases e : l[i] == w[i] with
      | true =>
        have e' := eq_of_beq e
        rw [e']
        simp only [bne_self_eq_false, cond_false, beq_self_eq_true, Bool.true_and]
      | false =>
        have e' : ¬ l[i] = w[i] := beq_eq_false_iff_ne.1 e
        have e2 : (l[i] != w[i]) = true := bne_iff_ne.2 e'
        have e3 : (w[i] == l[i]) = false := beq_eq_false_iff_ne.2 fun h => e' h.symm
        rw [e2, e3]; rfl
    · rw [dec_f (by omega), cond_false]
      have : w.drop i = [] := List.drop_eq_nil_iff.2 (by omega)
      rw [this]; rfl
theorem begins_eq (n : Nat) (l w : List Int) (h : w.length < n) (hl : w.length ≤ 1073741824) : m_l09_begins n l w = some (w.isPrefixOf l) := by
  unfold m_l09_begins
  dsimp only
  by_cases hlw : w.length ≤ l.length
  · have e := begins_loop hlw hl n 0 (by omega) (by omega)
    rw [show ((0 : Nat) : Int) = 0 from rfl] at e
    rw [dec_f (by omega), cond_false, e]
    simp only [List.drop_zero]
    cases w.isPrefixOf l <;> rfl
  · rw [dec_t (by omega), cond_true]
    have : w.isPrefixOf l = false := by
      cases e : w.isPrefixOf l with
      | false => rfl
      | true => exact absurd (List.isPrefixOf_iff_prefix.1 e).length_le hlw
    rw [this]
theorem rowS_at {t r : Nd} {p : List Int} (hv : validB t = true) (h : findL t p = some r) : rowS t p = (r, 0) := by unfold rowS; rw [if_pos hv, h]
theorem withS_at {t z r : Nd} {p : List Int} (hv : validB t = true) (h : findL t p = some z) (hr : validB r = true) (hp : validB (putL t p r) = true) : withS t p r = (putL t p r, 0) := by unfold withS; rw [if_pos hv, h]; dsimp only; rw [if_pos hr, if_pos hp]
theorem NodeReplace_eq (a r : Nd) (p q : List Int) (ha : a.w ≤ 1048576) (hr : r.w ≤ 1048576) : m_l09_NodeReplace 70000000 a r (p, q) = some true := by
  have hw := awake9_ok 70000000 (by decide)
  have ca := Nd.cnt_w a
  have cr := Nd.cnt_w r
  obtain ⟨y, f1, _⟩ := few9_eq 70000000 a (by omega)
  obtain ⟨z, f2, _⟩ := few9_eq 70000000 r (by omega)
  have v1 := node_Valid_eq 70000000 a (by omega) (by omega)
  have v3 := node_Valid_eq 70000000 r (by omega) (by omega)
  have e1 := fun p => node_Row_eq 70000000 a p v1 (by omega)
  have e2 := node_With_eq 70000000 a p r v1 v3 (fun z hz => node_Valid_eq 70000000 _ (by have := hz.w r; omega) (by have := hz.w r; omega)) (by omega) (by omega)
  have b1 : ¬ 60 < (p.length : Int) → m_l09_begins 70000000 q p = some (p.isPrefixOf q) := fun h => begins_eq _ q p (by omega) (by omega)
  have b2 : ¬ 60 < (q.length : Int) → m_l09_begins 70000000 p q = some (q.isPrefixOf p) := fun h => begins_eq _ p q (by omega) (by omega)
  have key : ∀ old, Fd a p old → validB a = true → validB r = true → validB (putL a p r) = true →
      m_node_Valid 70000000 (putL a p r) = some true ∧ m_node_Row 70000000 (putL a p r) p = some (r, 0) ∧ m_node_With 70000000 (putL a p r) p old = some (a, 0) ∧ (∀ q, m_node_Row 70000000 (putL a p r) q = some (rowS (putL a p r) q)) ∧
      m_r09_Equal 70000000 r r = some true ∧ m_r09_Equal 70000000 a a = some true ∧ (∀ q, Apart p q → rowS (putL a p r) q = rowS a q) ∧ ∀ q, m_r09_Equal 70000000 (rowS a q).1 (rowS a q).1 = some true := by
    intro old ho h1 h2 h3
    have w1 := ho.w r
    have c1 := ho.cnt r
    have s1 := ho.small
    have v5 := node_Valid_eq 70000000 (putL a p r) (by omega) (by omega)
    have v6 := node_Valid_eq 70000000 old (by omega) (by omega)
    have hb : putL (putL a p r) p old = a := ho.back r
    have e3 := node_With_eq 70000000 (putL a p r) p old v5 v6 (fun z hz => by rw [hb]; exact v1) (by omega) (by omega)
    have e4 := fun q => node_Row_eq 70000000 (putL a p r) q v5 (by omega)
    refine ⟨by rw [v5, h3], by rw [e4, rowS_at h3 (ho.put r).find], ?_, e4, r09_Equal_self r (by omega), r09_Equal_self a (by omega), fun q hq => ?_, fun q => r09_Equal_self _ (by have := rowS_cnt a q; omega)⟩
    · rw [e3, withS_at h3 (ho.put r).find (ho.valid h1) (by rw [hb]; exact h1), hb]
    · unfold rowS
      rw [if_pos h3, if_pos h1, ho.other r q hq]
  generalize 70000000 = n at *
  have hrow := e1 p
  have hrq := e1 q
  clear e1
  obtain ⟨a1, a2, a3, a4⟩ := a
  obtain ⟨r1, r2, r3, r4⟩ := r
  unfold m_l09_NodeReplace
  simp only [hw, f1, f2, Option.bind_some, cond_true, cond_false, Bool.not_true]
  cases y with
  | false => rfl
  | true =>
    cases z with
    | false => rfl
    | true =>
      simp only [Bool.not_true, cond_false, Option.bind_some]
      by_cases h : 60 < (p.length : Int)
      · rw [dec_t h]; rfl
      by_cases h' : 60 < (q.length : Int)
      · rw [dec_f h, dec_t h']; rfl
      rw [dec_f h, dec_f h', hrow, e2]
      by_cases k1 : validB (.mk a1 a2 a3 a4) = true
      · cases hf : findL (.mk a1 a2 a3 a4) p with
        | none =>
          have : rowS (.mk a1 a2 a3 a4) p = (zeroNd, 8) := by unfold rowS; rw [if_pos k1, hf]
          rw [this]
          generalize withS _ p _ = R
          obtain ⟨⟨s1, s2, s3, s4⟩, s5⟩ := R
          rfl
        | some old =>
          rw [rowS_at k1 hf]
          have ho := fd_of hf
          by_cases k2 : validB (.mk r1 r2 r3 r4) = true
          · by_cases k3 : validB (putL (.mk a1 a2 a3 a4) p (.mk r1 r2 r3 r4)) = true
            · rw [withS_at k1 hf k2 k3]
              obtain ⟨g1, g2, g3, g4, g5, g6, g7, g8⟩ := key old ho k1 k2 k3
              replace g4 := g4 q
              replace g7 := g7 q
              replace g8 := g8 q
              generalize putL (Nd.mk a1 a2 a3 a4) p (Nd.mk r1 r2 r3 r4) = Z at *
              generalize rowS (Nd.mk a1 a2 a3 a4) q = X at *
              generalize rowS Z q = Y at *
              obtain ⟨o1, o2, o3, o4⟩ := old
              obtain ⟨z1, z2, z3, z4⟩ := Z
              simp only [Option.bind_some, show ((0 : Int) != 0) = false from rfl, cond_false, g1, g2, g3, g5, g6, Bool.not_true, b1 h, b2 h']
              cases c1 : p.isPrefixOf q with
              | true => rfl
              | false =>
                simp only [cond_false, Option.bind_some]
                cases c2 : q.isPrefixOf p with
                | true => rfl
                | false =>
                  have hap : Apart p q := ⟨fun hp => (by rw [List.isPrefixOf_iff_prefix.2 hp] at c1; cases c1), fun hp => (by rw [List.isPrefixOf_iff_prefix.2 hp] at c2; cases c2)⟩
                  have g9 := g7 hap
                  subst g9
                  obtain ⟨⟨x1, x2, x3, x4⟩, x5⟩ := Y
                  simp only [cond_false, Option.bind_some, hrq, g4, beq_self_eq_true, cond_true, g8]
            · have : withS (.mk a1 a2 a3 a4) p (.mk r1 r2 r3 r4) = (zeroNd, 6) := by unfold withS; rw [if_pos k1, hf]; dsimp only; rw [if_pos k2, if_neg k3]
              rw [this]
              obtain ⟨o1, o2, o3, o4⟩ := old
              rfl
          · have : withS (.mk a1 a2 a3 a4) p (.mk r1 r2 r3 r4) = (zeroNd, 4) := by unfold withS; rw [if_pos k1, hf]; dsimp only; rw [if_neg k2]
            rw [this]
            obtain ⟨o1, o2, o3, o4⟩ := old
            rfl
      · have e1 : rowS (.mk a1 a2 a3 a4) p = (zeroNd, 1) := by unfold rowS; rw [if_neg k1]
        rw [e1]
        generalize withS _ p _ = R
        obtain ⟨⟨s1, s2, s3, s4⟩, s5⟩ := R
        rfl
end Go.Proofs.YtefbmooajknmgaaDoor
