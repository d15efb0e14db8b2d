/-
  Walks, printed by gw.py.
-/
import Derived.Test.YtplekejomocalaaDifWF
set_option linter.unusedVariables false
set_option linter.unusedSimpArgs false
namespace Go.Proofs.Ytplekejomocalaa
open Go.Abs

/- a knot: vinculum/vinculumref16.pair, vinculum/vinculumref16.table -/
theorem loadS_int {l : List Int} {j : Nat} {v : Int} (h : l[j]? = some v) : loadS TW 3 (((l.map (irow .i64)).getD j []).drop 0) = some (.s (.int .i64 v)) := by
  rw [ints_get h]; rfl
theorem tlast_len {C : Nd → Option Int} : ∀ {ys : List Nd} {r : List Int}, m_r16_table_last C ys = some r → r.length = ys.length + 1
  | [], r, h => by simp only [m_r16_table_last, Option.some.injEq] at h; subst h; rfl
  | y :: ys, r, h => by
    simp only [m_r16_table_last] at h
    obtain ⟨q, hq, h⟩ := bind_out h
    obtain ⟨c, hc, h⟩ := bind_out h
    cases h
    simp [tlast_len hq]
theorem tlast_drop {C : Nd → Option Int} : ∀ {ys : List Nd} {r : List Int}, m_r16_table_last C ys = some r → ∀ j, j ≤ ys.length → ∃ q, m_r16_table_last C (ys.drop j) = some q
  | ys, r, h, 0, _ => ⟨r, h⟩
  | [], _, _, j + 1, hj => by simp at hj
  | y :: ys, r, h, j + 1, hj => by
    simp only [m_r16_table_last] at h
    obtain ⟨q, hq, _⟩ := bind_out h
    exact tlast_drop hq j (by simpa using hj)
theorem tlast_of {C : Nd → Option Int} {A : Nd → Nd → Option Bool} {Q : Nd → Nd → Option Int} {b : List Nd} : ∀ {xs : List Nd} {p : List (List Int)}, m_r16_table_rows C A Q b xs = some p → ∃ r, m_r16_table_last C b = some r
  | [], p, h => by
    simp only [m_r16_table_rows] at h
    obtain ⟨r, hr, _⟩ := bind_out h
    exact ⟨r, hr⟩
  | x :: xs, p, h => by
    simp only [m_r16_table_rows] at h
    obtain ⟨q, hq, _⟩ := bind_out h
    exact tlast_of hq
theorem trows_len {C : Nd → Option Int} {A : Nd → Nd → Option Bool} {Q : Nd → Nd → Option Int} {b : List Nd} : ∀ {xs : List Nd} {p : List (List Int)}, m_r16_table_rows C A Q b xs = some p → p.length = xs.length + 1
  | [], p, h => by
    simp only [m_r16_table_rows] at h
    obtain ⟨r, hr, h⟩ := bind_out h
    cases h; rfl
  | x :: xs, p, h => by
    simp only [m_r16_table_rows] at h
    obtain ⟨q, hq, h⟩ := bind_out h
    obtain ⟨c, hc, h⟩ := bind_out h
    have := trows_len hq
    cases q with
    | nil => cases h
    | cons r1 q =>
      dsimp only at h
      obtain ⟨r, hr, h⟩ := bind_out h
      cases h
      simp only [List.length_cons] at this ⊢
      omega
theorem trows_drop {C : Nd → Option Int} {A : Nd → Nd → Option Bool} {Q : Nd → Nd → Option Int} {b : List Nd} : ∀ {xs : List Nd} {p : List (List Int)}, m_r16_table_rows C A Q b xs = some p → ∀ i, i ≤ xs.length → ∃ q, m_r16_table_rows C A Q b (xs.drop i) = some q
  | xs, p, h, 0, _ => ⟨p, h⟩
  | [], _, _, i + 1, hi => by simp at hi
  | x :: xs, p, h, i + 1, hi => by
    simp only [m_r16_table_rows] at h
    obtain ⟨q, hq, _⟩ := bind_out h
    exact trows_drop hq i (by simpa using hi)
theorem trow_len {C : Nd → Option Int} {A : Nd → Nd → Option Bool} {Q : Nd → Nd → Option Int} {x : Nd} {cx : Int} : ∀ {ys : List Nd} {vs r : List Int}, m_r16_table_row C A Q x cx ys vs = some r → vs.length = ys.length + 1 ∧ r.length = ys.length + 1
  | [], [v], r, h => by simp only [m_r16_table_row, Option.some.injEq] at h; subst h; simp
  | y :: ys, v :: v2 :: vs, r, h => by
    simp only [m_r16_table_row] at h
    obtain ⟨q, hq, h⟩ := bind_out h
    obtain ⟨c, hc, h⟩ := bind_out h
    obtain ⟨al, hal, h⟩ := bind_out h
    have := trow_len hq
    cases al with
    | false => cases h; simp only [List.length_cons] at this ⊢; omega
    | true =>
      simp only [cond_true] at h
      obtain ⟨p, hp, h⟩ := bind_out h
      cases h; simp only [List.length_cons] at this ⊢; omega
  | [], [], _, h => by simp [m_r16_table_row] at h
  | [], _ :: _ :: _, _, h => by simp [m_r16_table_row] at h
  | _ :: _, [], _, h => by simp [m_r16_table_row] at h
  | _ :: _, [_], _, h => by simp [m_r16_table_row] at h
theorem trow_drop {C : Nd → Option Int} {A : Nd → Nd → Option Bool} {Q : Nd → Nd → Option Int} {x : Nd} {cx : Int} : ∀ {ys : List Nd} {vs r : List Int}, m_r16_table_row C A Q x cx ys vs = some r → ∀ j, j ≤ ys.length → ∃ q, m_r16_table_row C A Q x cx (ys.drop j) (vs.drop j) = some q
  | ys, vs, r, h, 0, _ => ⟨r, h⟩
  | y :: ys, v :: v2 :: vs, r, h, j + 1, hj => by
    simp only [m_r16_table_row] at h
    obtain ⟨q, hq, _⟩ := bind_out h
    exact trow_drop hq j (by simpa using hj)
  | [], _, _, _, j + 1, hj => by simp at hj
  | _ :: _, [], _, h, _ + 1, _ => by simp [m_r16_table_row] at h
  | _ :: _, [_], _, h, _ + 1, _ => by simp [m_r16_table_row] at h
def R_r16_pair (n : Nat) (xs : List AV) (r : Ret) : Prop := ∃ (a0 : Nd) (a1 : Nd) (y0 : Int), m_r16_pair n a0 a1 = some y0 ∧ xs = [.agg ((Nd.enc a0).map .s), .agg ((Nd.enc a1).map .s)] ∧ r = .val (.s (.int .i64 y0))
def R_r16_table (n : Nat) (xs : List AV) (r : Ret) : Prop := ∃ (a0 : List Nd) (a1 : List Nd) (y0 : List (List Int)), m_r16_table n a0 a1 = some y0 ∧ xs = [.s (.sl 4 (Nd.encs a0)), .s (.sl 4 (Nd.encs a1))] ∧ r = .val (.s (.sl 1 ((List.map enc_s_int) y0)))
set_option maxHeartbeats 2000000 in
set_option maxRecDepth 100000 in
theorem step_r16_pair (n : Nat) (ih_r16_pair : PSound Try.prog 36 (pspec (R_r16_pair n))) (ih_r16_table : PSound Try.prog 25 (pspec (R_r16_table n))) : PSound Try.prog 36 (pspec (R_r16_pair (n + 1))) := by
  have gok : ∀ f s, look? f [(25, pspec (R_r16_table n))] = some s → PSound Try.prog f s := look_all (by
    simp only [List.forall_mem_cons]
    exact ⟨ih_r16_table, by simp⟩)
  refine psound tokW Try.call36 Try.func36 rfl (fun xs r h => by obtain ⟨_, _, _, _, rfl, _⟩ := h; show 2 ≤ 39; decide) 39 rfl ?_
  rintro xs r w0 G0 ⟨⟨x1_kind, x1_text, x1_cols, x1_kids⟩, ⟨y2_kind, y2_text, y2_cols, y2_kids⟩, y0, h, rfl, rfl⟩ _
  rw [m_r16_pair] at h
  refine tri_seq ?_
  refine tri_region (by exact tokW) (by exact gok) [] [] rfl ?_
  show Tri _ _ _ _
  refine tri_seq ?_
  refine tri_region (by exact tokW) (by exact gok) [] [] rfl ?_
  show Tri _ _ _ _
  refine tri_seq ?_
  refine tri_seq ?_
  refine tri_region (by exact tokW) (by exact gok) [] [] rfl ?_
  show Tri _ _ _ _
  obtain ⟨n3, hj, h⟩ := bind_out h
  refine tri_post ⟨ofL [(2, .s (.pt [.int .i64 x1_kind, .str x1_text, .int .i64 x1_cols, .sl 4 (Nd.encs x1_kids)])), (3, .s (.pt [.int .i64 y2_kind, .str y2_text, .int .i64 y2_cols, .sl 4 (Nd.encs y2_kids)])), (5, .s (.int .i64 n3))], fun _ => none, 0⟩ ?_ (fun σ' hle => ?_)
  · replace h := hj
    refine tri_cond rfl (fun hb => ?_) (fun hb => ?_)
    · replace h := bif_t hb h
      refine tri_region (by exact tokW) (by exact gok) [] [] rfl ?_
      cases h
      exact (Le.forget _ ⟨rfl, rfl, rfl, trivial⟩)
    · replace h := bif_f hb h
      refine tri_skip ?_
      cases h
      exact (Le.forget _ ⟨rfl, rfl, rfl, trivial⟩)
  · show Tri _ _ _ _
    refine tri_le hle ?_
    refine tri_seq ?_
    refine tri_seq ?_
    refine tri_region (by exact tokW) (by exact gok) [] [] rfl ?_
    show Tri _ _ _ _
    obtain ⟨n6, hl, h⟩ := bind_out h
    refine tri_post ⟨ofL [(5, .s (.int .i64 n6))], fun _ => none, 0⟩ ?_ (fun σ' hle => ?_)
    · refine tri_block (tri_loopI (X := Nat × Int × Int) (fun y => match y with | (k, n4, i5) => ⟨ofL [(2, .s (.pt [.int .i64 x1_kind, .str x1_text, .int .i64 x1_cols, .sl 4 (Nd.encs x1_kids)])), (3, .s (.pt [.int .i64 y2_kind, .str y2_text, .int .i64 y2_cols, .sl 4 (Nd.encs y2_kids)])), (5, .s (.int .i64 n4)), (6, .s (.int .i64 i5))], fun _ => none, 0⟩) (fun y => m_r16_pair_l1 (m_r16_table n) x1_kids y2_kids y.1 y.2.1 y.2.2 = some n6) (fun y => y.1) (n, n3, 0) hl ?_ ?_)
      · exact (Le.forget _ ⟨rfl, rfl, rfl, rfl, trivial⟩)
      · rintro ⟨k, n4, i5⟩ h
        cases k with
        | zero => cases h
        | succ k =>
          replace h : m_r16_pair_l1 (m_r16_table n) x1_kids y2_kids (k+1) n4 i5 = some n6 := h
          rw [m_r16_pair_l1] at h
          refine tri_seq ?_
          refine tri_seq ?_
          refine tri_region (by exact tokW) (by exact gok) [] [15] rfl ?_
          intro n7 hn7
          obtain rfl : (x1_kids.length : Int) = n7 := (hn7.trans (congrArg (fun m : Nat => (m : Int)) (rlen Nd.encs_eq x1_kids))).symm
          show Tri _ _ _ _
          refine tri_cond rfl (fun hb => ?_) (fun hb => ?_)
          · replace h := bif_t hb h
            refine tri_skip ?_
            show Tri _ _ _ _
            refine tri_seq ?_
            refine tri_block ?_
            refine tri_drawn (by exact tokW) (by exact gok) (by exact mixed) [] [23, 29, 33, 35] [] rfl (by decide +kernel) ?_
            obtain ⟨⟨e8_kind, e8_text, e8_cols, e8_kids⟩, he8, h⟩ := bind_out h
            refine And.intro (at_ok Nd.encs_eq he8).1 ?_
            intro r9 hr9
            obtain rfl : [.int .i64 e8_kind, .str e8_text, .int .i64 e8_cols, .sl 4 (Nd.encs e8_kids)] = r9 := (hr9.trans (at_ok Nd.encs_eq he8).2.1).symm
            obtain ⟨⟨e10_kind, e10_text, e10_cols, e10_kids⟩, he10, h⟩ := bind_out h
            refine And.intro (at_ok Nd.encs_eq he10).1 ?_
            intro r11 hr11
            obtain rfl : [.int .i64 e10_kind, .str e10_text, .int .i64 e10_cols, .sl 4 (Nd.encs e10_kids)] = r11 := (hr11.trans (at_ok Nd.encs_eq he10).2.1).symm
            obtain ⟨y12, hy12, h⟩ := bind_out h
            refine ⟨_, ⟨_, _, _, hy12, rfl, rfl⟩, ?_⟩
            obtain ⟨e13, he13, h⟩ := bind_out h
            refine And.intro (at_ok (fun _ => rfl) he13).1 ?_
            intro r14 hr14
            obtain rfl : [.sl 1 ((List.map (irow .i64)) e13)] = r14 := (hr14.trans (at_ok (fun _ => rfl) he13).2.1).symm
            obtain ⟨e15, he15, h⟩ := bind_out h
            refine And.intro (at_ok (fun _ => rfl) he15).1 ?_
            intro r16 hr16
            obtain rfl : [.int .i64 e15] = r16 := (hr16.trans (at_ok (fun _ => rfl) he15).2.1).symm
            show Tri _ _ _ _
            refine tri_region (by exact tokW) (by exact gok) [] [] rfl ?_
            refine ⟨(k, IntKind.i64.wrap (n4 + e15), IntKind.i64.wrap (i5 + 1)), h, (Le.forget _ ⟨rfl, rfl, rfl, rfl, trivial⟩), Nat.lt_succ_self k⟩
          · replace h := bif_f hb h
            refine tri_exit ?_
            cases h
            exact (Le.forget _ ⟨rfl, trivial⟩)
    · show Tri _ _ _ _
      refine tri_le hle ?_
      refine tri_seq ?_
      refine tri_region (by exact tokW) (by exact gok) [] [] rfl ?_
      show Tri _ _ _ _
      refine tri_ret ?_
      have hy := Option.some.inj h
      subst hy
      unfold Gives
      exact ⟨_, Le.refl _ _, rfl, rfl⟩
set_option maxHeartbeats 2000000 in
set_option maxRecDepth 100000 in
theorem step_r16_table (n : Nat) (ih_r16_pair : PSound Try.prog 36 (pspec (R_r16_pair n))) (ih_r16_table : PSound Try.prog 25 (pspec (R_r16_table n))) : PSound Try.prog 25 (pspec (R_r16_table (n + 1))) := by
  have gok : ∀ f s, look? f [(23, S_r09_Count), (35, S_r16_Alike), (36, pspec (R_r16_pair n))] = some s → PSound Try.prog f s := look_all (by
    simp only [List.forall_mem_cons]
    exact ⟨ok_r09_Count, ok_r16_Alike, ih_r16_pair, by simp⟩)
  refine psound tokW Try.call25 Try.func25 rfl (fun xs r h => by obtain ⟨_, _, _, _, rfl, _⟩ := h; show 2 ≤ 144; decide) 144 rfl ?_
  rintro xs r w0 G0 ⟨a, b, y0, h, rfl, rfl⟩ _
  rw [m_r16_table] at h
  obtain ⟨hlen, h⟩ := req_out h
  refine tri_seq ?_
  refine tri_region (by exact tokW) (by exact gok) [] [] rfl ?_
  show Tri _ _ _ _
  refine tri_seq ?_
  refine tri_region (by exact tokW) (by exact gok) [14] [12, 13] rfl ?_
  intro n1 hn1
  obtain rfl : (a.length : Int) = n1 := (hn1.trans (congrArg (fun m : Nat => (m : Int)) (rlen Nd.encs_eq a))).symm
  intro n2 hn2
  obtain rfl : ((a.length + 1 : Nat) : Int) = n2 := (hn2.trans (wi_succ (by omega))).symm
  refine And.intro (show 0 ≤ _ ∧ _ from ⟨by omega, Int.le_refl _, show ((a.length + 1 : Nat) : Int) * ((24 : Nat) : Int) ≤ 281474976710656 by omega, by omega⟩) ?_
  show Tri _ _ _ _
  refine tri_seq ?_
  refine tri_seq ?_
  refine tri_region (by exact tokW) (by exact gok) [] [16] rfl ?_
  intro n2 hn2
  obtain rfl : ((a.length + 1 : Nat) : Int) = n2 := (hn2.trans (congrArg (fun m : Nat => (m : Int)) (by simp))).symm
  show Tri _ _ _ _
  refine tri_post ⟨ofL [(0, .s (.sl 4 (Nd.encs a))), (1, .s (.sl 4 (Nd.encs b))), (5, .orow 0)], tabHp 35 (okeys (a.length + 1)) (ddyn 3 (a.length + 1) (List.replicate (b.length + 1) 0) []), a.length + 2⟩ ?_ (fun σ' hle => ?_)
  · refine tri_block (tri_loopI (X := Nat) (fun t => ⟨ofL [(0, .s (.sl 4 (Nd.encs a))), (1, .s (.sl 4 (Nd.encs b))), (5, .orow 0), (16, .s (.int .i64 ((a.length + 1 : Nat) : Int))), (17, .s (.int .i64 (t : Int)))], tabHp 35 (okeys t ++ nils (a.length + 1 - t)) (ddyn 3 t (List.replicate (b.length + 1) 0) []), t + 1⟩) (fun t => t ≤ a.length + 1) (fun t => a.length + 1 - t) 0 (Nat.zero_le _) ?_ ?_)
    · refine Le.trans (Le.toA 0 rfl) (Le.forgetH _ _ 1 ⟨rfl, rfl, rfl, rfl, rfl, trivial⟩ (fun k => ?_) rfl)
      cases k with
      | zero =>
        show some (Ob.arow _ 1 _) = some (Ob.arow _ 1 _)
        refine congrArg some (congrArg (Ob.arow _ 1) ?_)
        exact (toA_nils (a.length + 1)).trans rfl
      | succ q => show none = ddyn _ 0 _ [] q; simp [ddyn]
    · intro t ht
      refine tri_seq ?_
      refine tri_region (by exact tokW) (by exact gok) [] [18] rfl ?_
      intro b18 h18
      show Tri _ _ _ _
      refine tri_seq ?_
      refine tri_cond rfl (fun hb => ?_) (fun hb => ?_)
      · refine tri_skip ?_
        show Tri _ _ _ _
        have htl : t < a.length + 1 := by
          rw [h18] at hb
          have := of_decide_eq_true hb; omega
        obtain ⟨m, hm⟩ : ∃ m, a.length + 1 - t = m + 1 := ⟨a.length - t, by omega⟩
        rw [hm]
        refine tri_seq ?_
        refine tri_block ?_
        refine tri_seq ?_
        refine tri_region (by exact tokW) (by exact gok) [] [] rfl ?_
        show Tri _ _ _ _
        refine tri_region (by exact tokW) (by exact gok) [25] [23, 24] rfl ?_
        intro n1 hn1
        obtain rfl : (b.length : Int) = n1 := (hn1.trans (congrArg (fun m : Nat => (m : Int)) (rlen Nd.encs_eq b))).symm
        intro n2 hn2
        obtain rfl : ((b.length + 1 : Nat) : Int) = n2 := (hn2.trans (wi_succ (by omega))).symm
        refine And.intro (show 0 ≤ _ ∧ _ from ⟨by omega, Int.le_refl _, show ((b.length + 1 : Nat) : Int) * ((8 : Nat) : Int) ≤ 281474976710656 by omega, by omega⟩) ?_
        have hlt1 : t < (okeys t ++ nils (m + 1)).length := by simp [okeys, nils]
        refine And.intro ⟨Int.natCast_nonneg _, Int.ofNat_lt.2 hlt1⟩ ?_
        refine And.intro hlt1 ?_
        show Tri _ _ _ _
        refine tri_region (by exact tokW) (by exact gok) [] [] rfl ?_
        refine ⟨t + 1, by omega, Le.forgetH _ _ (t + 2) ⟨rfl, rfl, rfl, rfl, congrArg (fun z => AV.s (.int .i64 z)) (wi_succ (by omega)), trivial⟩ (fun k => ?_) rfl, by omega⟩
        cases k with
        | zero =>
          show some (Ob.arow _ 1 ((okeys t ++ nils (m + 1)).set t (((okeys t ++ nils (m + 1)).getD t []).take 0 ++ [AV.orow (t + 1)] ++ ((okeys t ++ nils (m + 1)).getD t []).drop 1))) = some (Ob.arow _ 1 _)
          rw [okeys_nil, show ([AV.s (S.sl 1 [])].take 0 ++ [AV.orow (t + 1)] ++ [AV.s (S.sl 1 [])].drop 1) = [AV.orow (t + 1)] from rfl, okeys_set, show a.length + 1 - (t + 1) = m by omega]
        | succ q =>
          show (bif Nat.beq (q + 1) (t + 1) then some (Ob.row 3 1 (List.replicate (b.length + 1) [S.int .i64 0])) else ddyn 3 t (List.replicate (b.length + 1) 0) [] q) = ddyn 3 (t + 1) (List.replicate (b.length + 1) 0) [] q
          have hz : List.replicate (b.length + 1) [S.int .i64 0] = (List.replicate (b.length + 1) 0).map (irow .i64) := by simp [irow]
          rw [hz]
          have hd : ∀ q, ddyn 3 t (List.replicate (b.length + 1) 0) [] q = if q < t then some (.row 3 1 ((List.replicate (b.length + 1) 0).map (irow .i64))) else none := fun q => by simp [ddyn]
          have hd' : ∀ q, ddyn 3 (t + 1) (List.replicate (b.length + 1) 0) [] q = if q < t + 1 then some (.row 3 1 ((List.replicate (b.length + 1) 0).map (irow .i64))) else none := fun q => by simp [ddyn]
          rw [hd, hd']
          cases e : Nat.beq (q + 1) (t + 1) with
          | true => have := Nat.eq_of_beq_eq_true e; rw [cond_true, if_pos (by omega)]
          | false =>
            have hne : q ≠ t := fun e' => by subst e'; rw [Nat.beq_refl] at e; cases e
            rw [cond_false]
            by_cases h2 : q < t
            · rw [if_pos h2, if_pos (by omega)]
            · rw [if_neg h2, if_neg (by omega)]
      · refine tri_exit ?_
        have htl : t = a.length + 1 := by
          rw [h18] at hb
          have := of_decide_eq_false hb; omega
        subst htl
        refine Le.forgetH _ _ _ ⟨rfl, rfl, rfl, trivial⟩ (fun k => ?_) rfl
        rw [Nat.sub_self]
        simp [nils]
        rfl
  · show Tri _ _ _ _
    refine tri_le hle ?_
    refine tri_seq ?_
    refine tri_seq ?_
    refine tri_region (by exact tokW) (by exact gok) [] [29] rfl ?_
    intro n1 hn1
    obtain rfl : (a.length : Int) = n1 := (hn1.trans (congrArg (fun m : Nat => (m : Int)) (rlen Nd.encs_eq a))).symm
    show Tri _ _ _ _
    refine tri_post ⟨ofL [(0, .s (.sl 4 (Nd.encs a))), (1, .s (.sl 4 (Nd.encs b))), (5, .orow 0)], tabHp 35 (okeys (a.length + 1)) (ddyn 3 0 (List.replicate (b.length + 1) 0) y0), a.length + 2⟩ ?_ (fun σ' hle => ?_)
    · refine tri_block (tri_loopI (X := Nat × List (List Int)) (fun y => match y with | (k, L) => ⟨ofL [(0, .s (.sl 4 (Nd.encs a))), (1, .s (.sl 4 (Nd.encs b))), (5, .orow 0), (7, .s (.int .i64 ((k : Int) - 1)))], tabHp 35 (okeys (a.length + 1)) (ddyn 3 k (List.replicate (b.length + 1) 0) L), a.length + 2⟩)
        (fun y => match y with | (k, L) => (k = a.length + 1 ∧ L = []) ∨ (k ≤ a.length ∧ m_r16_table_rows (m_r09_Count n) m_r16_Alike (m_r16_pair n) b (a.drop k) = some L)) (fun y => y.1) (a.length + 1, []) (.inl ⟨rfl, rfl⟩) ?_ ?_)
      · exact Le.forgetH _ _ _ ⟨rfl, rfl, rfl, congrArg (fun z => AV.s (.int .i64 z)) (by omega), trivial⟩ (fun k => rfl) rfl
      · rintro ⟨k, L⟩ hI
        refine tri_seq ?_
        refine tri_seq ?_
        refine tri_region (by exact tokW) (by exact gok) [] [31] rfl ?_
        intro b31 h31
        show Tri _ _ _ _
        refine tri_cond rfl (fun hb => ?_) (fun hb => ?_)
        · refine tri_skip ?_
          show Tri _ _ _ _
          have hk : 1 ≤ k := by
            rw [h31] at hb
            have := of_decide_eq_true hb; omega
          obtain ⟨i, rfl⟩ : ∃ i, k = i + 1 := ⟨k - 1, by omega⟩
          refine tri_le (Le.forgetH [(0, .s (.sl 4 (Nd.encs a))), (1, .s (.sl 4 (Nd.encs b))), (5, .orow 0), (7, .s (.int .i64 (i : Int)))] (tabHp 35 (okeys (a.length + 1)) (ddyn 3 i (List.replicate (b.length + 1) 0) ((List.replicate (b.length + 1) 0) :: L))) (a.length + 2) ⟨rfl, rfl, rfl, congrArg (fun z => AV.s (.int .i64 z)) (by omega), trivial⟩ (fun k => by cases k with | zero => rfl | succ q => exact ddyn_take q) rfl) ?_
          have hin1 : i < a.length + 1 := by rcases hI with h | h <;> omega
          have hltk : i < (okeys (a.length + 1)).length := by rw [okeys_len]; exact hin1
          have hgk : (okeys (a.length + 1)).getD i [] = [.orow (i + 1)] := okeys_get hin1
          refine tri_seq ?_
          refine tri_block ?_
          refine tri_seq ?_
          refine tri_region (by exact tokW) (by exact gok) [] [35] rfl ?_
          intro n1 hn1
          obtain rfl : (b.length : Int) = n1 := (hn1.trans (congrArg (fun m : Nat => (m : Int)) (rlen Nd.encs_eq b))).symm
          show Tri _ _ _ _
          rcases hI with ⟨hin, rfl⟩ | ⟨hin, hrows⟩
          · obtain rfl : i = a.length := by omega
            obtain ⟨rl, hrl⟩ := tlast_of h
            refine tri_post ⟨ofL [(0, .s (.sl 4 (Nd.encs a))), (1, .s (.sl 4 (Nd.encs b))), (5, .orow 0), (7, .s (.int .i64 (a.length : Int)))], tabHp 35 (okeys (a.length + 1)) (ddyn 3 a.length (List.replicate (b.length + 1) 0) [rl]), a.length + 2⟩ ?_ (fun σ' hle => ?_)
            · refine tri_block (tri_loopI (X := Nat × List Int) (fun y => match y with | (k, rd) => ⟨ofL [(0, .s (.sl 4 (Nd.encs a))), (1, .s (.sl 4 (Nd.encs b))), (5, .orow 0), (7, .s (.int .i64 (a.length : Int))), (8, .s (.int .i64 ((k : Int) - 1)))], tabHp 35 (okeys (a.length + 1)) (ddyn 3 a.length (List.replicate (b.length + 1) 0) [List.replicate k 0 ++ rd]), a.length + 2⟩)
                (fun y => match y with | (k, rd) => (k = b.length + 1 ∧ rd = []) ∨ (k ≤ b.length ∧ m_r16_table_last (m_r09_Count n) (b.drop k) = some rd)) (fun y => y.1) (b.length + 1, []) (.inl ⟨rfl, rfl⟩) ?_ ?_)
              · refine Le.forgetH _ _ _ ⟨rfl, rfl, rfl, rfl, congrArg (fun z => AV.s (.int .i64 z)) (by omega), trivial⟩ (fun k => ?_) rfl
                rw [List.append_nil]; rfl
              · rintro ⟨k, rd⟩ hI
                refine tri_seq ?_
                refine tri_seq ?_
                refine tri_region (by exact tokW) (by exact gok) [] [37] rfl ?_
                intro b37 h37
                show Tri _ _ _ _
                refine tri_cond rfl (fun hb => ?_) (fun hb => ?_)
                · refine tri_skip ?_
                  show Tri _ _ _ _
                  have hk : 1 ≤ k := by
                    rw [h37] at hb
                    have := of_decide_eq_true hb; omega
                  obtain ⟨j, rfl⟩ : ∃ j, k = j + 1 := ⟨k - 1, by omega⟩
                  refine tri_le (Le.forget [(0, .s (.sl 4 (Nd.encs a))), (1, .s (.sl 4 (Nd.encs b))), (5, .orow 0), (7, .s (.int .i64 (a.length : Int))), (8, .s (.int .i64 (j : Int)))] ⟨rfl, rfl, rfl, rfl, congrArg (fun z => AV.s (.int .i64 z)) (by omega), trivial⟩) ?_
                  have wj : IntKind.i64.wrap ((j : Int) - 1) = (j : Int) - 1 := wrap64_in (by omega) (by rcases hI with h | h <;> omega)
                  refine tri_seq ?_
                  refine tri_block ?_
                  refine tri_seq ?_
                  refine tri_seq ?_
                  refine tri_region (by exact tokW) (by exact gok) [] [42, 43, 47] rfl ?_
                  intro n1 hn1
                  obtain rfl : (a.length : Int) = n1 := (hn1.trans (congrArg (fun m : Nat => (m : Int)) (rlen Nd.encs_eq a))).symm
                  intro b1 hb1
                  obtain rfl : true = b1 := (hb1.trans (beq_self_eq_true _)).symm
                  intro n1 hn1
                  obtain rfl : (b.length : Int) = n1 := (hn1.trans (congrArg (fun m : Nat => (m : Int)) (rlen Nd.encs_eq b))).symm
                  show Tri _ _ _ _
                  refine tri_cond rfl (fun hb2 => ?_) (fun hb2 => ?_)
                  · refine tri_exit ?_
                    show Tri _ _ _ _
                    refine tri_region (by exact tokW) (by exact gok) [] [] rfl ?_
                    have hj : j = b.length := Int.ofNat.inj (eq_of_beq hb2)
                    refine ⟨(j, [0]), .inr ⟨by omega, by rw [hj, List.drop_length]; rfl⟩, Le.forgetH _ _ _ ⟨rfl, rfl, rfl, rfl, congrArg (fun z => AV.s (.int .i64 z)) wj, trivial⟩ (fun k => ?_) rfl, Nat.lt_succ_self j⟩
                    rcases hI with ⟨_, rfl⟩ | ⟨h, _⟩
                    · cases k with
                      | zero => rfl
                      | succ q =>
                        show ddyn 3 a.length (List.replicate (b.length + 1) 0) [List.replicate (j + 1) 0 ++ []] q = ddyn 3 a.length (List.replicate (b.length + 1) 0) [List.replicate j 0 ++ [0]] q
                        rw [show List.replicate (j + 1) (0 : Int) ++ [] = List.replicate j 0 ++ [0] by rw [List.append_nil, List.replicate_succ']]
                    · omega
                  · have hj : j ≠ b.length := fun e => by rw [e] at hb2; simp at hb2
                    obtain ⟨hj2, hd⟩ : j + 1 ≤ b.length ∧ m_r16_table_last (m_r09_Count n) (b.drop (j + 1)) = some rd := by
                      rcases hI with ⟨h, _⟩ | h
                      · omega
                      · exact h
                    obtain ⟨q, hq⟩ := tlast_drop hrl j (by omega)
                    have hqq := hq
                    have hy : b[j]? = some (b[j]'(by omega)) := List.getElem?_eq_getElem _
                    rw [List.drop_eq_getElem_cons (show j < b.length by omega)] at hq
                    generalize b[j]'(by omega) = y at hy hq
                    obtain ⟨yk, yt, yc, yks⟩ := y
                    simp only [m_r16_table_last, hd] at hq
                    obtain ⟨p0, hp0, hq⟩ := bind_out hq
                    cases hp0
                    obtain ⟨c, hc, hq⟩ := bind_out hq
                    have hrdl := tlast_len hd
                    cases rd with
                    | nil => simp at hrdl
                    | cons w ws =>
                    simp only [List.headD_cons, Option.some.injEq] at hq
                    refine tri_skip ?_
                    show Tri _ _ _ _
                    refine tri_seq ?_
                    refine tri_region (by exact tokW) (by exact gok) [] [] rfl ?_
                    show Tri _ _ _ _
                    refine tri_seq ?_
                    refine tri_seq ?_
                    refine tri_region (by exact tokW) (by exact gok) [] [52, 53] rfl ?_
                    intro n1 hn1
                    obtain rfl : (a.length : Int) = n1 := (hn1.trans (congrArg (fun m : Nat => (m : Int)) (rlen Nd.encs_eq a))).symm
                    intro b1 hb1
                    obtain rfl : false = b1 := (hb1.trans (decide_eq_false (Int.lt_irrefl _))).symm
                    show Tri _ _ _ _
                    refine tri_cond rfl (fun h => by cases h) (fun _ => ?_)
                    refine tri_skip ?_
                    show Tri _ _ _ _
                    refine tri_seq ?_
                    refine tri_seq ?_
                    refine tri_region (by exact tokW) (by exact gok) [] [70, 71] rfl ?_
                    intro n1 hn1
                    obtain rfl : (b.length : Int) = n1 := (hn1.trans (congrArg (fun m : Nat => (m : Int)) (rlen Nd.encs_eq b))).symm
                    intro b1 hb1
                    obtain rfl : true = b1 := (hb1.trans (decide_eq_true (by omega))).symm
                    show Tri _ _ _ _
                    refine tri_cond rfl (fun _ => ?_) (fun h => by cases h)
                    have g4 : (List.replicate (j + 1) 0 ++ w :: ws)[j + 1]? = some w := by simp [List.getElem?_append]
                    have hlt4 : j + 1 < (List.map (irow .i64) (List.replicate (j + 1) 0 ++ w :: ws)).length := by simp
                    have hlt4' : j < (List.map (irow .i64) (List.replicate (j + 1) 0 ++ w :: ws)).length := by simp; omega
                    refine tri_seq ?_
                    refine tri_drawn (by exact tokW) (by exact gok) (by exact mixed) [] [74, 82] [7, 8, 11, 12] rfl (by decide +kernel) ?_
                    refine And.intro ⟨Int.natCast_nonneg _, Int.ofNat_lt.2 (by rw [rlen Nd.encs_eq]; omega)⟩ ?_
                    intro r hr
                    obtain rfl : [.int .i64 yk, .str yt, .int .i64 yc, .sl 4 (Nd.encs yks)] = r := (hr.trans (encs_get hy)).symm
                    refine ⟨_, ⟨_, _, _, hc, rfl, rfl⟩, ?_⟩
                    refine And.intro ⟨Int.natCast_nonneg _, Int.ofNat_lt.2 hltk⟩ ?_
                    refine And.intro hltk ⟨_, hgk, ?_⟩
                    intro z hz
                    obtain rfl : ((j + 1 : Nat) : Int) = z := (hz.trans (wi_succ (by omega))).symm
                    refine evD_step rfl rfl rfl rfl rfl (s1_idx rfl rfl rfl rfl rfl rfl ddyn_head rfl) ⟨Int.natCast_nonneg _, Int.ofNat_lt.2 hlt4⟩ ?_
                    refine evD_ld rfl rfl rfl rfl rfl rfl ddyn_head hlt4 (loadS_int g4) ?_
                    show Tri _ _ _ _
                    refine tri_seq ?_
                    refine tri_region (by exact tokW) (by exact gok) [] [87] rfl ?_
                    intro b1 hb1
                    obtain rfl : true = b1 := (hb1.trans (by decide)).symm
                    show Tri _ _ _ _
                    refine tri_cond rfl (fun _ => ?_) (fun h => by cases h)
                    refine tri_region (by exact tokW) (by exact gok) [] [] rfl ?_
                    show Tri _ _ _ _
                    refine tri_seq ?_
                    refine tri_seq ?_
                    refine tri_drawn (by exact tokW) (by exact gok) (by exact mixed) [] [96, 97] [] rfl (by decide +kernel) ?_
                    intro n1 hn1
                    obtain rfl : (a.length : Int) = n1 := (hn1.trans (congrArg (fun m : Nat => (m : Int)) (rlen Nd.encs_eq a))).symm
                    intro b1 hb1
                    obtain rfl : false = b1 := (hb1.trans (decide_eq_false (Int.lt_irrefl _))).symm
                    show Tri _ _ _ _
                    refine tri_cond rfl (fun h => by cases h) (fun _ => ?_)
                    refine tri_skip ?_
                    show Tri _ _ _ _
                    refine tri_region (by exact tokW) (by exact gok) [] [141] rfl ?_
                    refine And.intro ⟨Int.natCast_nonneg _, Int.ofNat_lt.2 hltk⟩ ?_
                    refine And.intro hltk ⟨_, hgk, ?_⟩
                    intro z9 hz9
                    subst hz9
                    refine evOps_step rfl rfl rfl rfl rfl (s1_idx rfl rfl rfl rfl rfl rfl ddyn_head rfl) ⟨Int.natCast_nonneg _, Int.ofNat_lt.2 hlt4'⟩ ?_
                    refine evOps_step0 rfl rfl rfl (s1_store rfl rfl rfl rfl ddyn_head rfl rfl rfl) hlt4' ?_
                    show Tri _ _ _ _
                    refine tri_region (by exact tokW) (by exact gok) [] [] rfl ?_
                    refine ⟨(j, (IntKind.i64.wrap (c + w) :: w :: ws)), .inr ⟨by omega, by rw [hqq, ← hq]⟩, Le.forgetH _ _ _ ⟨rfl, rfl, rfl, rfl, congrArg (fun z => AV.s (.int .i64 z)) wj, trivial⟩ (fun k => ?_) rfl, Nat.lt_succ_self j⟩
                    cases k with
                    | zero => rfl
                    | succ q =>
                      show (bif Nat.beq (q + 1) (a.length + 1) then some (Ob.row 3 1 (((List.replicate (j + 1) 0 ++ w :: ws).map (irow .i64)).set j ((((List.replicate (j + 1) 0 ++ w :: ws).map (irow .i64)).getD j []).take 0 ++ [S.int .i64 (IntKind.i64.wrap (c + w))] ++ (((List.replicate (j + 1) 0 ++ w :: ws).map (irow .i64)).getD j []).drop (0 + 1)))) else ddyn 3 a.length (List.replicate (b.length + 1) 0) ((List.replicate (j + 1) 0 ++ w :: ws) :: []) q) = ddyn 3 a.length (List.replicate (b.length + 1) 0) ((List.replicate j 0 ++ (IntKind.i64.wrap (c + w) :: w :: ws)) :: []) q
                      rw [set_row (l := List.replicate (j + 1) 0 ++ w :: ws) (j := j) (v := 0) (x := IntKind.i64.wrap (c + w)) (by simp [List.getElem?_append]), set_zero]
                      exact ddyn_set q
                · refine tri_exit ?_
                  have hk : k = 0 := by
                    rw [h37] at hb
                    have := of_decide_eq_false hb; omega
                  subst hk
                  rcases hI with ⟨h1, _⟩ | ⟨_, h1⟩
                  · omega
                  · rw [List.drop_zero, hrl] at h1
                    cases h1
                    exact Le.forgetH _ _ _ ⟨rfl, rfl, rfl, rfl, trivial⟩ (fun k => rfl) rfl
            · show Tri _ _ _ _
              refine tri_le hle ?_
              refine tri_region (by exact tokW) (by exact gok) [] [] rfl ?_
              refine ⟨(a.length, [rl]), .inr ⟨Nat.le_refl _, by rw [List.drop_length]; simp [m_r16_table_rows, hrl]⟩, Le.forgetH _ _ _ ⟨rfl, rfl, rfl, congrArg (fun z => AV.s (.int .i64 z)) (wrap64_in (by omega) (by omega)), trivial⟩ (fun k => rfl) rfl, Nat.lt_succ_self _⟩
          · obtain ⟨q, hq⟩ := trows_drop h i (by omega)
            have ha : a[i]? = some (a[i]'(by omega)) := List.getElem?_eq_getElem _
            have hq0 := hq
            rw [List.drop_eq_getElem_cons (show i < a.length by omega)] at hq
            generalize a[i]'(by omega) = x at ha hq
            simp only [m_r16_table_rows, hrows] at hq
            obtain ⟨p0, hp0, hq⟩ := bind_out hq
            cases hp0
            obtain ⟨cx, hcx, hq⟩ := bind_out hq
            cases L with
            | nil => cases hq
            | cons r1 L =>
            dsimp only at hq
            obtain ⟨rr, hrow, hq⟩ := bind_out hq
            simp only [Option.some.injEq] at hq
            subst hq
            have hrl := trow_len hrow
            have hlt2k : i + 1 < (okeys (a.length + 1)).length := by rw [okeys_len]; omega
            have hgk2 : (okeys (a.length + 1)).getD (i + 1) [] = [.orow (i + 2)] := okeys_get (by omega)
            have hne : ((i : Int) == (a.length : Int)) = false := by
              cases e : ((i : Int) == (a.length : Int)) with
              | false => rfl
              | true => have := eq_of_beq e; omega
            refine tri_post ⟨ofL [(0, .s (.sl 4 (Nd.encs a))), (1, .s (.sl 4 (Nd.encs b))), (5, .orow 0), (7, .s (.int .i64 (i : Int)))], tabHp 35 (okeys (a.length + 1)) (ddyn 3 i (List.replicate (b.length + 1) 0) (rr :: r1 :: L)), a.length + 2⟩ ?_ (fun σ' hle => ?_)
            · obtain ⟨xk, xt, xc, xks⟩ := x
              refine tri_block (tri_loopI (X := Nat × List Int) (fun y => match y with | (k, rd) => ⟨ofL [(0, .s (.sl 4 (Nd.encs a))), (1, .s (.sl 4 (Nd.encs b))), (5, .orow 0), (7, .s (.int .i64 (i : Int))), (8, .s (.int .i64 ((k : Int) - 1)))], tabHp 35 (okeys (a.length + 1)) (ddyn 3 i (List.replicate (b.length + 1) 0) ((List.replicate k 0 ++ rd) :: r1 :: L)), a.length + 2⟩)
                (fun y => match y with | (k, rd) => (k = b.length + 1 ∧ rd = []) ∨ (k ≤ b.length ∧ m_r16_table_row (m_r09_Count n) m_r16_Alike (m_r16_pair n) ⟨xk, xt, xc, xks⟩ cx (b.drop k) (r1.drop k) = some rd)) (fun y => y.1) (b.length + 1, []) (.inl ⟨rfl, rfl⟩) ?_ ?_)
              · refine Le.forgetH _ _ _ ⟨rfl, rfl, rfl, rfl, congrArg (fun z => AV.s (.int .i64 z)) (by omega), trivial⟩ (fun k => ?_) rfl
                rw [List.append_nil]; rfl
              · rintro ⟨k, rd⟩ hI
                refine tri_seq ?_
                refine tri_seq ?_
                refine tri_region (by exact tokW) (by exact gok) [] [37] rfl ?_
                intro b37 h37
                show Tri _ _ _ _
                refine tri_cond rfl (fun hb => ?_) (fun hb => ?_)
                · refine tri_skip ?_
                  show Tri _ _ _ _
                  have hk : 1 ≤ k := by
                    rw [h37] at hb
                    have := of_decide_eq_true hb; omega
                  obtain ⟨j, rfl⟩ : ∃ j, k = j + 1 := ⟨k - 1, by omega⟩
                  refine tri_le (Le.forget [(0, .s (.sl 4 (Nd.encs a))), (1, .s (.sl 4 (Nd.encs b))), (5, .orow 0), (7, .s (.int .i64 (i : Int))), (8, .s (.int .i64 (j : Int)))] ⟨rfl, rfl, rfl, rfl, congrArg (fun z => AV.s (.int .i64 z)) (by omega), trivial⟩) ?_
                  have wj : IntKind.i64.wrap ((j : Int) - 1) = (j : Int) - 1 := wrap64_in (by omega) (by rcases hI with h | h <;> omega)
                  refine tri_seq ?_
                  refine tri_block ?_
                  refine tri_seq ?_
                  refine tri_seq ?_
                  refine tri_region (by exact tokW) (by exact gok) [] [42, 43] rfl ?_
                  intro n1 hn1
                  obtain rfl : (a.length : Int) = n1 := (hn1.trans (congrArg (fun m : Nat => (m : Int)) (rlen Nd.encs_eq a))).symm
                  intro b1 hb1
                  obtain rfl : false = b1 := (hb1.trans hne).symm
                  show Tri _ _ _ _
                  refine tri_cond rfl (fun hb2 => by cases hb2) (fun _ => ?_)
                  refine tri_skip ?_
                  show Tri _ _ _ _
                  have hjb : j ≤ b.length := by rcases hI with h | h <;> omega
                  obtain ⟨q, hq⟩ := trow_drop hrow j hjb
                  have hqq := hq
                  have hv : r1[j]? = some (r1[j]'(by omega)) := List.getElem?_eq_getElem _
                  rw [List.drop_eq_getElem_cons (show j < r1.length by omega)] at hq
                  generalize r1[j]'(by omega) = v at hv hq
                  have hltr : j < (List.map (irow .i64) r1).length := by simp; omega
                  have hlt4 : ∀ l : List Int, j < (List.map (irow .i64) (List.replicate (j + 1) 0 ++ l)).length := fun l => by simp; omega
                  refine tri_seq ?_
                  refine tri_region (by exact tokW) (by exact gok) [] [] rfl ?_
                  show Tri _ _ _ _
                  refine tri_seq ?_
                  refine tri_seq ?_
                  refine tri_region (by exact tokW) (by exact gok) [] [52, 53] rfl ?_
                  intro n1 hn1
                  obtain rfl : (a.length : Int) = n1 := (hn1.trans (congrArg (fun m : Nat => (m : Int)) (rlen Nd.encs_eq a))).symm
                  intro b1 hb1
                  obtain rfl : true = b1 := (hb1.trans (decide_eq_true (by omega))).symm
                  show Tri _ _ _ _
                  refine tri_cond rfl (fun _ => ?_) (fun h => by cases h)
                  refine tri_drawn (by exact tokW) (by exact gok) (by exact mixed) [] [56, 61, 64] [8, 9, 11, 12] rfl (by decide +kernel) ?_
                  refine And.intro ⟨Int.natCast_nonneg _, Int.ofNat_lt.2 (by rw [rlen Nd.encs_eq]; omega)⟩ ?_
                  intro r hr
                  obtain rfl : [.int .i64 xk, .str xt, .int .i64 xc, .sl 4 (Nd.encs xks)] = r := (hr.trans (encs_get ha)).symm
                  refine ⟨_, ⟨_, _, _, hcx, rfl, rfl⟩, ?_⟩
                  intro z hz
                  obtain rfl : ((i + 1 : Nat) : Int) = z := (hz.trans (wi_succ (by omega))).symm
                  refine And.intro ⟨Int.natCast_nonneg _, Int.ofNat_lt.2 hlt2k⟩ ?_
                  refine And.intro hlt2k ⟨_, hgk2, ?_⟩
                  intro z9 hz9
                  subst hz9
                  refine evD_step rfl rfl rfl rfl rfl (s1_idx rfl rfl rfl rfl rfl rfl ddyn_next rfl) ⟨Int.natCast_nonneg _, Int.ofNat_lt.2 hltr⟩ ?_
                  refine evD_ld rfl rfl rfl rfl rfl rfl ddyn_next hltr (loadS_int hv) ?_
                  show Tri _ _ _ _
                  refine tri_seq ?_
                  rcases hI with ⟨hj, rfl⟩ | ⟨hj, hd⟩
                  · obtain rfl : j = b.length := by omega
                    rw [List.drop_length, List.drop_eq_nil_of_le (show r1.length ≤ b.length + 1 by omega)] at hq
                    simp only [m_r16_table_row, Option.some.injEq] at hq
                    refine tri_seq ?_
                    refine tri_region (by exact tokW) (by exact gok) [] [70, 71] rfl ?_
                    intro n1 hn1
                    obtain rfl : (b.length : Int) = n1 := (hn1.trans (congrArg (fun m : Nat => (m : Int)) (rlen Nd.encs_eq b))).symm
                    intro b1 hb1
                    obtain rfl : false = b1 := (hb1.trans (decide_eq_false (by omega))).symm
                    show Tri _ _ _ _
                    refine tri_cond rfl (fun h => by cases h) (fun _ => ?_)
                    refine tri_skip ?_
                    show Tri _ _ _ _
                    refine tri_seq ?_
                    refine tri_seq ?_
                    refine tri_drawn (by exact tokW) (by exact gok) (by exact mixed) [] [96, 97, 101, 102] [] rfl (by decide +kernel) ?_
                    intro n1 hn1
                    obtain rfl : (a.length : Int) = n1 := (hn1.trans (congrArg (fun m : Nat => (m : Int)) (rlen Nd.encs_eq a))).symm
                    intro b1 hb1
                    obtain rfl : true = b1 := (hb1.trans (decide_eq_true (by omega))).symm
                    intro n1 hn1
                    obtain rfl : (b.length : Int) = n1 := (hn1.trans (congrArg (fun m : Nat => (m : Int)) (rlen Nd.encs_eq b))).symm
                    intro b1 hb1
                    obtain rfl : false = b1 := (hb1.trans (decide_eq_false (by omega))).symm
                    show Tri _ _ _ _
                    refine tri_cond rfl (fun h => by cases h) (fun _ => ?_)
                    refine tri_skip ?_
                    show Tri _ _ _ _
                    have hlt4' := hlt4 []
                    refine tri_region (by exact tokW) (by exact gok) [] [141] rfl ?_
                    refine And.intro ⟨Int.natCast_nonneg _, Int.ofNat_lt.2 hltk⟩ ?_
                    refine And.intro hltk ⟨_, hgk, ?_⟩
                    intro z9 hz9
                    subst hz9
                    refine evOps_step rfl rfl rfl rfl rfl (s1_idx rfl rfl rfl rfl rfl rfl ddyn_head rfl) ⟨Int.natCast_nonneg _, Int.ofNat_lt.2 hlt4'⟩ ?_
                    refine evOps_step0 rfl rfl rfl (s1_store rfl rfl rfl rfl ddyn_head rfl rfl rfl) hlt4' ?_
                    show Tri _ _ _ _
                    refine tri_region (by exact tokW) (by exact gok) [] [] rfl ?_
                    refine ⟨(b.length, [(IntKind.i64.wrap (cx + v))]), .inr ⟨by omega, by rw [hqq, ← hq]⟩, Le.forgetH _ _ _ ⟨rfl, rfl, rfl, rfl, congrArg (fun z => AV.s (.int .i64 z)) wj, trivial⟩ (fun k => ?_) rfl, Nat.lt_succ_self b.length⟩
                    cases k with
                    | zero => rfl
                    | succ q =>
                      show (bif Nat.beq (q + 1) (i + 1) then some (Ob.row 3 1 (((List.replicate (b.length + 1) (0 : Int) ++ []).map (irow .i64)).set b.length ((((List.replicate (b.length + 1) (0 : Int) ++ []).map (irow .i64)).getD b.length []).take 0 ++ [S.int .i64 ((IntKind.i64.wrap (cx + v)))] ++ (((List.replicate (b.length + 1) (0 : Int) ++ []).map (irow .i64)).getD b.length []).drop (0 + 1)))) else ddyn 3 i (List.replicate (b.length + 1) 0) ((List.replicate (b.length + 1) (0 : Int) ++ []) :: (r1 :: L)) q) = ddyn 3 i (List.replicate (b.length + 1) 0) ((List.replicate b.length 0 ++ [(IntKind.i64.wrap (cx + v))]) :: (r1 :: L)) q
                      rw [set_row (l := List.replicate (b.length + 1) (0 : Int) ++ []) (j := b.length) (v := 0) (x := (IntKind.i64.wrap (cx + v))) (by simp [List.getElem?_append]), set_zero]
                      exact ddyn_set q
                  · have hy : b[j]? = some (b[j]'(by omega)) := List.getElem?_eq_getElem _
                    rw [List.drop_eq_getElem_cons (show j < b.length by omega)] at hq
                    generalize b[j]'(by omega) = y at hy hq
                    obtain ⟨yk, yt, yc, yks⟩ := y
                    have hv2 : r1[j + 1]? = some (r1[j + 1]'(by omega)) := List.getElem?_eq_getElem _
                    have hdr := List.drop_eq_getElem_cons (show j + 1 < r1.length by omega)
                    rw [hdr] at hq
                    simp only [m_r16_table_row] at hq
                    rw [← hdr] at hq
                    generalize r1[j + 1]'(by omega) = v2 at hv2 hq
                    rw [hd] at hq
                    obtain ⟨p0, hp0, hq⟩ := bind_out hq
                    cases hp0
                    obtain ⟨c, hc, hq⟩ := bind_out hq
                    obtain ⟨al, hal, hq⟩ := bind_out hq
                    have hrdl := (trow_len hd).2
                    cases rd with
                    | nil => simp at hrdl
                    | cons w ws =>
                    simp only [List.headD_cons] at hq
                    have hltr2 : j + 1 < (List.map (irow .i64) r1).length := by simp; omega
                    have g4 : (List.replicate (j + 1) 0 ++ w :: ws)[j + 1]? = some w := by simp [List.getElem?_append]
                    have hlt5 : j + 1 < (List.map (irow .i64) (List.replicate (j + 1) 0 ++ w :: ws)).length := by simp
                    have hlt4' := hlt4 (w :: ws)
                    refine tri_post ⟨ofL [(0, .s (.sl 4 (Nd.encs a))), (1, .s (.sl 4 (Nd.encs b))), (5, .orow 0), (7, .s (.int .i64 (i : Int))), (8, .s (.int .i64 (j : Int))), (9, .s (.int .i64 ((bif (decide ((IntKind.i64.wrap (cx + v)) < 0) || decide ((IntKind.i64.wrap (c + w)) < (IntKind.i64.wrap (cx + v)))) then (IntKind.i64.wrap (c + w)) else (IntKind.i64.wrap (cx + v))))))], tabHp 35 (okeys (a.length + 1)) (ddyn 3 i (List.replicate (b.length + 1) 0) ((List.replicate (j + 1) 0 ++ w :: ws) :: r1 :: L)), a.length + 2⟩ ?_ (fun σ' hle => ?_)
                    · refine tri_seq ?_
                      refine tri_region (by exact tokW) (by exact gok) [] [70, 71] rfl ?_
                      intro n1 hn1
                      obtain rfl : (b.length : Int) = n1 := (hn1.trans (congrArg (fun m : Nat => (m : Int)) (rlen Nd.encs_eq b))).symm
                      intro b1 hb1
                      obtain rfl : true = b1 := (hb1.trans (decide_eq_true (by omega))).symm
                      show Tri _ _ _ _
                      refine tri_cond rfl (fun _ => ?_) (fun h => by cases h)
                      refine tri_seq ?_
                      refine tri_drawn (by exact tokW) (by exact gok) (by exact mixed) [] [74, 82] [7, 8, 11, 12] rfl (by decide +kernel) ?_
                      refine And.intro ⟨Int.natCast_nonneg _, Int.ofNat_lt.2 (by rw [rlen Nd.encs_eq]; omega)⟩ ?_
                      intro r hr
                      obtain rfl : [.int .i64 yk, .str yt, .int .i64 yc, .sl 4 (Nd.encs yks)] = r := (hr.trans (encs_get hy)).symm
                      refine ⟨_, ⟨_, _, _, hc, rfl, rfl⟩, ?_⟩
                      refine And.intro ⟨Int.natCast_nonneg _, Int.ofNat_lt.2 hltk⟩ ?_
                      refine And.intro hltk ⟨_, hgk, ?_⟩
                      intro z hz
                      obtain rfl : ((j + 1 : Nat) : Int) = z := (hz.trans (wi_succ (by omega))).symm
                      refine evD_step rfl rfl rfl rfl rfl (s1_idx rfl rfl rfl rfl rfl rfl ddyn_head rfl) ⟨Int.natCast_nonneg _, Int.ofNat_lt.2 hlt5⟩ ?_
                      refine evD_ld rfl rfl rfl rfl rfl rfl ddyn_head hlt5 (loadS_int g4) ?_
                      show Tri _ _ _ _
                      refine tri_seq ?_
                      refine tri_region (by exact tokW) (by exact gok) [] [87, 91] rfl ?_
                      intro b1 hb1
                      subst hb1
                      cases e1 : decide ((IntKind.i64.wrap (cx + v)) < 0) with
                      | true =>
                        show Tri _ _ _ _
                        refine tri_cond rfl (fun _ => ?_) (fun h => by cases h)
                        refine tri_region (by exact tokW) (by exact gok) [] [] rfl ?_
                        exact Le.forgetH _ _ _ ⟨rfl, rfl, rfl, rfl, rfl, rfl, trivial⟩ (fun k => rfl) rfl
                      | false =>
                        intro b2 hb2
                        subst hb2
                        cases e2 : decide ((IntKind.i64.wrap (c + w)) < (IntKind.i64.wrap (cx + v))) with
                        | true =>
                          show Tri _ _ _ _
                          refine tri_cond rfl (fun _ => ?_) (fun h => by cases h)
                          refine tri_region (by exact tokW) (by exact gok) [] [] rfl ?_
                          exact Le.forgetH _ _ _ ⟨rfl, rfl, rfl, rfl, rfl, rfl, trivial⟩ (fun k => rfl) rfl
                        | false =>
                          show Tri _ _ _ _
                          refine tri_cond rfl (fun h => by cases h) (fun _ => ?_)
                          refine tri_skip ?_
                          exact Le.forgetH _ _ _ ⟨rfl, rfl, rfl, rfl, rfl, rfl, trivial⟩ (fun k => rfl) rfl
                    · show Tri _ _ _ _
                      obtain ⟨l1, hl1⟩ : ∃ l1, (bif (decide ((IntKind.i64.wrap (cx + v)) < 0) || decide ((IntKind.i64.wrap (c + w)) < (IntKind.i64.wrap (cx + v)))) then (IntKind.i64.wrap (c + w)) else (IntKind.i64.wrap (cx + v))) = l1 := ⟨_, rfl⟩
                      rw [hl1] at hle
                      refine tri_le hle ?_
                      replace hq : (bif al then ((m_r16_pair n ⟨xk, xt, xc, xks⟩ ⟨yk, yt, yc, yks⟩).bind fun p => some ((if IntKind.i64.wrap (p + v2) < l1 then IntKind.i64.wrap (p + v2) else l1) :: w :: ws)) else some (l1 :: w :: ws)) = some q := by
                        rw [← hl1]; exact hq
                      refine tri_seq ?_
                      have hq2 : ∃ l2, q = l2 :: w :: ws ∧ (bif al then (∃ p, m_r16_pair n ⟨xk, xt, xc, xks⟩ ⟨yk, yt, yc, yks⟩ = some p ∧ l2 = (if IntKind.i64.wrap (p + v2) < l1 then IntKind.i64.wrap (p + v2) else l1)) else l2 = l1) := by
                        cases al with
                        | true =>
                          obtain ⟨p, hp, hq⟩ := bind_out hq
                          cases hq
                          exact ⟨_, rfl, show ∃ p, _ ∧ _ from ⟨p, hp, rfl⟩⟩
                        | false => cases hq; exact ⟨_, rfl, show _ = _ from rfl⟩
                      obtain ⟨l2, rfl, hl2⟩ := hq2
                      refine tri_post ⟨ofL [(0, .s (.sl 4 (Nd.encs a))), (1, .s (.sl 4 (Nd.encs b))), (5, .orow 0), (7, .s (.int .i64 (i : Int))), (8, .s (.int .i64 (j : Int))), (9, .s (.int .i64 (l2)))], tabHp 35 (okeys (a.length + 1)) (ddyn 3 i (List.replicate (b.length + 1) 0) ((List.replicate (j + 1) 0 ++ w :: ws) :: r1 :: L)), a.length + 2⟩ ?_ (fun σ' hle => ?_)
                      · refine tri_seq ?_
                        refine tri_drawn (by exact tokW) (by exact gok) (by exact mixed) [] [96, 97, 101, 102, 107, 111] [] rfl (by decide +kernel) ?_
                        intro n1 hn1
                        obtain rfl : (a.length : Int) = n1 := (hn1.trans (congrArg (fun m : Nat => (m : Int)) (rlen Nd.encs_eq a))).symm
                        intro b1 hb1
                        obtain rfl : true = b1 := (hb1.trans (decide_eq_true (by omega))).symm
                        intro n1 hn1
                        obtain rfl : (b.length : Int) = n1 := (hn1.trans (congrArg (fun m : Nat => (m : Int)) (rlen Nd.encs_eq b))).symm
                        intro b1 hb1
                        obtain rfl : true = b1 := (hb1.trans (decide_eq_true (by omega))).symm
                        refine And.intro ⟨Int.natCast_nonneg _, Int.ofNat_lt.2 (by rw [rlen Nd.encs_eq]; omega)⟩ ?_
                        intro r hr
                        obtain rfl : [.int .i64 xk, .str xt, .int .i64 xc, .sl 4 (Nd.encs xks)] = r := (hr.trans (encs_get ha)).symm
                        refine And.intro ⟨Int.natCast_nonneg _, Int.ofNat_lt.2 (by rw [rlen Nd.encs_eq]; omega)⟩ ?_
                        intro r hr
                        obtain rfl : [.int .i64 yk, .str yt, .int .i64 yc, .sl 4 (Nd.encs yks)] = r := (hr.trans (encs_get hy)).symm
                        refine ⟨_, ⟨_, _, _, hal, rfl, rfl⟩, ?_⟩
                        show Tri _ _ _ _
                        refine tri_cond rfl (fun hb => ?_) (fun hb => ?_)
                        · rw [hb] at hl2
                          obtain ⟨p, hp, rfl⟩ := hl2
                          refine tri_drawn (by exact tokW) (by exact gok) (by exact mixed) [] [118, 122, 127, 131] [13, 14, 17, 18] rfl (by decide +kernel) ?_
                          refine And.intro ⟨Int.natCast_nonneg _, Int.ofNat_lt.2 (by rw [rlen Nd.encs_eq]; omega)⟩ ?_
                          intro r hr
                          obtain rfl : [.int .i64 xk, .str xt, .int .i64 xc, .sl 4 (Nd.encs xks)] = r := (hr.trans (encs_get ha)).symm
                          refine And.intro ⟨Int.natCast_nonneg _, Int.ofNat_lt.2 (by rw [rlen Nd.encs_eq]; omega)⟩ ?_
                          intro r hr
                          obtain rfl : [.int .i64 yk, .str yt, .int .i64 yc, .sl 4 (Nd.encs yks)] = r := (hr.trans (encs_get hy)).symm
                          refine ⟨_, ⟨_, _, _, hp, rfl, rfl⟩, ?_⟩
                          intro z hz
                          obtain rfl : ((i + 1 : Nat) : Int) = z := (hz.trans (wi_succ (by omega))).symm
                          refine And.intro ⟨Int.natCast_nonneg _, Int.ofNat_lt.2 hlt2k⟩ ?_
                          refine And.intro hlt2k ⟨_, hgk2, ?_⟩
                          intro z hz
                          obtain rfl : ((j + 1 : Nat) : Int) = z := (hz.trans (wi_succ (by omega))).symm
                          refine evD_step rfl rfl rfl rfl rfl (s1_idx rfl rfl rfl rfl rfl rfl ddyn_next rfl) ⟨Int.natCast_nonneg _, Int.ofNat_lt.2 hltr2⟩ ?_
                          refine evD_ld rfl rfl rfl rfl rfl rfl ddyn_next hltr2 (loadS_int hv2) ?_
                          exact Le.forgetH _ _ _ ⟨rfl, rfl, rfl, rfl, rfl, rfl, trivial⟩ (fun k => rfl) rfl
                        · rw [hb] at hl2
                          cases hl2
                          refine tri_skip ?_
                          exact Le.forgetH _ _ _ ⟨rfl, rfl, rfl, rfl, rfl, rfl, trivial⟩ (fun k => rfl) rfl
                      · show Tri _ _ _ _
                        refine tri_le hle ?_
                        refine tri_region (by exact tokW) (by exact gok) [] [141] rfl ?_
                        refine And.intro ⟨Int.natCast_nonneg _, Int.ofNat_lt.2 hltk⟩ ?_
                        refine And.intro hltk ⟨_, hgk, ?_⟩
                        intro z9 hz9
                        subst hz9
                        refine evOps_step rfl rfl rfl rfl rfl (s1_idx rfl rfl rfl rfl rfl rfl ddyn_head rfl) ⟨Int.natCast_nonneg _, Int.ofNat_lt.2 hlt4'⟩ ?_
                        refine evOps_step0 rfl rfl rfl (s1_store rfl rfl rfl rfl ddyn_head rfl rfl rfl) hlt4' ?_
                        show Tri _ _ _ _
                        refine tri_region (by exact tokW) (by exact gok) [] [] rfl ?_
                        refine ⟨(j, (z9 :: w :: ws)), .inr ⟨by omega, hqq⟩, Le.forgetH _ _ _ ⟨rfl, rfl, rfl, rfl, congrArg (fun z => AV.s (.int .i64 z)) wj, trivial⟩ (fun k => ?_) rfl, Nat.lt_succ_self j⟩
                        cases k with
                        | zero => rfl
                        | succ q =>
                          show (bif Nat.beq (q + 1) (i + 1) then some (Ob.row 3 1 (((List.replicate (j + 1) 0 ++ w :: ws).map (irow .i64)).set j ((((List.replicate (j + 1) 0 ++ w :: ws).map (irow .i64)).getD j []).take 0 ++ [S.int .i64 (z9)] ++ (((List.replicate (j + 1) 0 ++ w :: ws).map (irow .i64)).getD j []).drop (0 + 1)))) else ddyn 3 i (List.replicate (b.length + 1) 0) ((List.replicate (j + 1) 0 ++ w :: ws) :: (r1 :: L)) q) = ddyn 3 i (List.replicate (b.length + 1) 0) ((List.replicate j 0 ++ (z9 :: w :: ws)) :: (r1 :: L)) q
                          rw [set_row (l := List.replicate (j + 1) 0 ++ w :: ws) (j := j) (v := 0) (x := z9) (by simp [List.getElem?_append]), set_zero]
                          exact ddyn_set q
                · refine tri_exit ?_
                  have hk : k = 0 := by
                    rw [h37] at hb
                    have := of_decide_eq_false hb; omega
                  subst hk
                  rcases hI with ⟨h1, _⟩ | ⟨_, h1⟩
                  · omega
                  · rw [List.drop_zero, List.drop_zero, hrow] at h1
                    cases h1
                    exact Le.forgetH _ _ _ ⟨rfl, rfl, rfl, rfl, trivial⟩ (fun k => rfl) rfl
            · show Tri _ _ _ _
              refine tri_le hle ?_
              refine tri_region (by exact tokW) (by exact gok) [] [] rfl ?_
              refine ⟨(i, rr :: r1 :: L), .inr ⟨by omega, hq0⟩, Le.forgetH _ _ _ ⟨rfl, rfl, rfl, congrArg (fun z => AV.s (.int .i64 z)) (wrap64_in (by omega) (by omega)), trivial⟩ (fun k => rfl) rfl, Nat.lt_succ_self _⟩
        · refine tri_exit ?_
          have hk : k = 0 := by
            rw [h31] at hb
            have := of_decide_eq_false hb; omega
          subst hk
          rcases hI with ⟨h1, _⟩ | ⟨_, h1⟩
          · omega
          · rw [List.drop_zero, h] at h1
            cases h1
            exact Le.forgetH _ _ _ ⟨rfl, rfl, rfl, trivial⟩ (fun k => rfl) rfl
    · show Tri _ _ _ _
      refine tri_le hle ?_
      refine tri_seq ?_
      refine tri_region (by exact tokW) (by exact gok) [] [] rfl ?_
      show Tri _ _ _ _
      refine tri_ret ?_
      unfold Gives
      have hyl := trows_len h
      refine ⟨_, Le.giveWhole [(4, .s (.sl 1 (y0.map fun r => [S.sl 1 (r.map (irow .i64))])))] ⟨.arow rfl (by rw [okeys_len, List.length_map, hyl]) (fun r hr => by obtain ⟨r', _, rfl⟩ := List.mem_map.1 hr; rfl) fun q x s hx hs => ?_, trivial⟩ rfl, rfl, rfl⟩
      have e2 : (y0.map fun r => [S.sl 1 (r.map (irow .i64))]).flatten = y0.map fun r => S.sl 1 (r.map (irow .i64)) := flat1 _ y0
      have e1 : (okeys (a.length + 1)).flatten = (List.range (a.length + 1)).map fun q => AV.orow (q + 1) := flat1 _ _
      rw [e1, List.getElem?_map] at hx
      rw [e2, List.getElem?_map] at hs
      cases hy : y0[q]? with
      | none => rw [hy] at hs; cases hs
      | some r =>
        rw [hy] at hs; cases hs
        have hql : q < a.length + 1 := by rw [← hyl]; exact (List.getElem?_eq_some_iff.1 hy).1
        rw [List.getElem?_range hql] at hx
        cases hx
        exact .row (e := 3) (show ddyn 3 0 (List.replicate (b.length + 1) 0) y0 q = some (.row 3 1 (r.map (irow .i64))) by simp [ddyn, hy])
theorem alls_r16_pair : ∀ n, PSound Try.prog 36 (pspec (R_r16_pair n)) ∧ PSound Try.prog 25 (pspec (R_r16_table n)) := by
  intro n
  induction n with
  | zero =>
    refine ⟨?_, ?_⟩
    · exact psound_none Try.call36 (fun xs r h => by obtain ⟨_, _, _, h, _⟩ := h; rw [m_r16_pair] at h; cases h)
    · exact psound_none Try.call25 (fun xs r h => by obtain ⟨_, _, _, h, _⟩ := h; rw [m_r16_table] at h; cases h)
  | succ n ih =>
    obtain ⟨ih_r16_pair, ih_r16_table⟩ := ih
    exact ⟨step_r16_pair n ih_r16_pair ih_r16_table, step_r16_table n ih_r16_pair ih_r16_table⟩
def S_r16_pair : PSpec := pspec fun xs r => ∃ n, R_r16_pair n xs r
theorem ok_r16_pair : PSound Try.prog 36 S_r16_pair := psound_all (fun n => (alls_r16_pair n).1)
def S_r16_table : PSpec := pspec fun xs r => ∃ n, R_r16_table n xs r
theorem ok_r16_table : PSound Try.prog 25 S_r16_table := psound_all (fun n => (alls_r16_pair n).2)

/- vinculum/vinculumref16.Distance -/
def R_r16_Distance (n : Nat) (xs : List AV) (r : Ret) : Prop := ∃ (a0 : List Nd) (a1 : List Nd) (y0 : Int), m_r16_Distance n a0 a1 = some y0 ∧ xs = [.s (.sl 4 (Nd.encs a0)), .s (.sl 4 (Nd.encs a1))] ∧ r = .val (.s (.int .i64 y0))
def S_r16_Distance : PSpec := pspec fun xs r => ∃ n, R_r16_Distance n xs r
set_option maxHeartbeats 2000000 in
set_option maxRecDepth 100000 in
theorem ok_r16_Distance : PSound Try.prog 11 S_r16_Distance := by
  have gok : ∀ f s, look? f [(25, S_r16_table)] = some s → PSound Try.prog f s := look_all (by
    simp only [List.forall_mem_cons]
    exact ⟨ok_r16_table, by simp⟩)
  refine psound tokW Try.call11 Try.func11 rfl (fun xs r h => by obtain ⟨n, _, _, _, _, rfl, _⟩ := h; show 2 ≤ 12; decide) 12 rfl ?_
  rintro xs r w0 G0 ⟨n, a1, b2, y0, h, rfl, rfl⟩ _
  rw [m_r16_Distance] at h
  refine tri_seq ?_
  refine tri_region (by exact tokW) (by exact gok) [] [] rfl ?_
  show Tri _ _ _ _
  refine tri_seq ?_
  refine tri_region (by exact tokW) (by exact gok) [] [8, 10] rfl ?_
  obtain ⟨y3, hy3, h⟩ := bind_out h
  refine ⟨_, ⟨_, _, _, _, hy3, rfl, rfl⟩, ?_⟩
  obtain ⟨e4, he4, h⟩ := bind_out h
  refine And.intro (at_ok (fun _ => rfl) he4).1 ?_
  intro r5 hr5
  obtain rfl : [.sl 1 ((List.map (irow .i64)) e4)] = r5 := (hr5.trans (at_ok (fun _ => rfl) he4).2.1).symm
  obtain ⟨e6, he6, h⟩ := bind_out h
  refine And.intro (at_ok (fun _ => rfl) he6).1 ?_
  intro r7 hr7
  obtain rfl : [.int .i64 e6] = r7 := (hr7.trans (at_ok (fun _ => rfl) he6).2.1).symm
  show Tri _ _ _ _
  refine tri_ret ?_
  have hy := Option.some.inj h
  subst hy
  unfold Gives
  exact ⟨_, Le.refl _ _, rfl, rfl⟩

end Go.Proofs.Ytplekejomocalaa
