/-
  Walks, printed by gw.py.
-/
import Derived.Test.YtplekejomocalaaDoorDidWB
set_option linter.unusedVariables false
set_option linter.unusedSimpArgs false
namespace Go.Proofs.YtplekejomocalaaDoor
open Go.Abs

/- vinculum/diff.align -/
def enc_2_int (p : (Int × Int)) : List S := [.int .i64 p.1, .int .i64 p.2]
def R_diff_align (n : Nat) (xs : List AV) (r : Ret) : Prop := ∃ (a0 : List Nd) (a1 : List Nd) (y0 : List (Int × Int)), m_diff_align n a0 a1 = some y0 ∧ xs = [.s (.sl 4 (Nd.encs a0)), .s (.sl 4 (Nd.encs a1))] ∧ r = .row 34 2 ((List.map enc_2_int) y0)
def S_diff_align : PSpec := pspec fun xs r => ∃ n, R_diff_align n xs r
set_option maxHeartbeats 2000000 in
set_option maxRecDepth 100000 in
theorem ok_diff_align : PSound Tryd.prog 15 S_diff_align := by
  have gok : ∀ f s, look? f [(23, S_diff_fill), (26, S_node_Dump)] = some s → PSound Tryd.prog f s := look_all (by
    simp only [List.forall_mem_cons]
    exact ⟨ok_diff_fill, ok_node_Dump, by simp⟩)
  refine psound tokW Tryd.call15 Tryd.func15 rfl (fun xs r h => by obtain ⟨n, _, _, _, _, rfl, _⟩ := h; show 2 ≤ 134; decide) 134 rfl ?_
  rintro xs r w0 G0 ⟨n, a1, a2, y0, h, rfl, rfl⟩ _
  rw [m_diff_align] at h
  refine tri_seq ?_
  refine tri_region (by exact tokW) (by exact gok) [4] [] rfl ?_
  show Tri _ _ _ _
  refine tri_le (Le.rename [] [(0, .s (.sl 4 (Nd.encs a1))), (1, .s (.sl 4 (Nd.encs a2)))] [] 0 ⟨rfl, rfl, trivial⟩ trivial rfl rfl rfl rfl rfl) ?_
  refine tri_seq ?_
  refine tri_region (by exact tokW) (by exact gok) [5] [] rfl ?_
  obtain ⟨⟨y3_least, y3_pair, y3_first, y3_other⟩, hy3, h⟩ := bind_out h
  refine ⟨_, ⟨_, _, _, _, hy3, rfl, rfl⟩, ?_⟩
  show Tri _ _ _ _
  refine tri_le (Le.giveBox 0 [.sl 1 ((List.map enc_s_int) y3_least), .sl 1 ((List.map enc_s_int) y3_pair), .sl 1 ((List.map (irow .i64)) y3_first), .sl 1 ((List.map (irow .i64)) y3_other)] rfl rfl) ?_
  refine tri_seq ?_
  refine tri_region (by exact tokW) (by exact gok) [6] [] rfl ?_
  show Tri _ _ _ _
  refine tri_le (Le.rename [(1, 0)] [(0, .s (.sl 4 (Nd.encs a1))), (1, .s (.sl 4 (Nd.encs a2))), (5, .s (.pt [.sl 1 ((List.map enc_s_int) y3_least), .sl 1 ((List.map enc_s_int) y3_pair), .sl 1 ((List.map (irow .i64)) y3_first), .sl 1 ((List.map (irow .i64)) y3_other)])), (6, .orow 0)] [(0, .row 34 2 ((List.map enc_2_int) []))] 1 ⟨rfl, rfl, rfl, rfl, trivial⟩ ⟨rfl, ⟨_, rfl, congrArg (Ob.row 34 2) (by simp [List.map_append, List.map_take, List.map_drop, irow, brow, b8of_row, List.map_cons, List.map_nil, b8of_wrap, Nd.encs_eq, Nd.enc, enc_13_node_kind, enc_node_checker, enc_node_inner, enc_diff_grid, enc_s_int, enc_node_open, enc_2_int])⟩, trivial⟩ rfl rfl rfl rfl rfl) ?_
  refine tri_seq ?_
  refine tri_seq ?_
  refine tri_region (by exact tokW) (by exact gok) [] [] rfl ?_
  show Tri _ _ _ _
  obtain ⟨l8, hl, h⟩ := bind_out h
  refine tri_post ⟨ofL [(6, .orow 0)], ofH [(0, .row 34 2 ((List.map enc_2_int) l8))], 1⟩ ?_ (fun σ' hle => ?_)
  · refine tri_block (tri_loopI (X := Nat × Int × Int × (List (Int × Int))) (fun y => match y with | (k, x5, x6, l7) => ⟨ofL [(0, .s (.sl 4 (Nd.encs a1))), (1, .s (.sl 4 (Nd.encs a2))), (5, .s (.pt [.sl 1 ((List.map enc_s_int) y3_least), .sl 1 ((List.map enc_s_int) y3_pair), .sl 1 ((List.map (irow .i64)) y3_first), .sl 1 ((List.map (irow .i64)) y3_other)])), (6, .orow 0), (7, .s (.int .i64 x5)), (8, .s (.int .i64 x6))], ofH [(0, .row 34 2 ((List.map enc_2_int) l7))], 1⟩) (fun y => m_diff_align_l1 n a1 a2 y3_least y3_pair y3_first y3_other y.1 y.2.1 y.2.2.1 y.2.2.2 = some l8) (fun y => y.1) (n, 0, 0, []) hl ?_ ?_)
    · exact (Le.rename [(0, 0)] _ _ _ ⟨rfl, rfl, rfl, rfl, rfl, rfl, trivial⟩ ⟨rfl, ⟨_, rfl, rfl⟩, trivial⟩ rfl rfl rfl rfl rfl)
    · rintro ⟨k, x5, x6, l7⟩ h
      cases k with
      | zero => cases h
      | succ k =>
        replace h : m_diff_align_l1 n a1 a2 y3_least y3_pair y3_first y3_other (k+1) x5 x6 l7 = some l8 := h
        rw [m_diff_align_l1] at h
        refine tri_seq ?_
        refine tri_seq ?_
        obtain ⟨x9, hj, h⟩ := bind_out h
        refine tri_post ⟨ofL [(0, .s (.sl 4 (Nd.encs a1))), (1, .s (.sl 4 (Nd.encs a2))), (5, .s (.pt [.sl 1 ((List.map enc_s_int) y3_least), .sl 1 ((List.map enc_s_int) y3_pair), .sl 1 ((List.map (irow .i64)) y3_first), .sl 1 ((List.map (irow .i64)) y3_other)])), (6, .orow 0), (7, .s (.int .i64 x5)), (8, .s (.int .i64 x6)), (24, .s (.bool x9))], ofH [(0, .row 34 2 ((List.map enc_2_int) l7))], 1⟩ ?_ (fun σ' hle => ?_)
        · replace h := hj
          refine tri_region (by exact tokW) (by exact gok) [] [17, 19, 22] rfl ?_
          intro n10 hn10
          obtain rfl : (a1.length : Int) = n10 := (hn10.trans (congrArg (fun m : Nat => (m : Int)) (rlen Nd.encs_eq a1))).symm
          intro b hb
          cases b with
          | true =>
            replace h := bif_t hb.symm h
            intro n11 hn11
            obtain rfl : (a2.length : Int) = n11 := (hn11.trans (congrArg (fun m : Nat => (m : Int)) (rlen Nd.encs_eq a2))).symm
            cases h
            exact (Le.rename [(0, 0)] _ _ _ ⟨rfl, rfl, rfl, rfl, rfl, rfl, rfl, trivial⟩ ⟨rfl, ⟨_, rfl, rfl⟩, trivial⟩ rfl rfl rfl rfl rfl)
          | false =>
            replace h := bif_f hb.symm h
            cases h
            exact (Le.rename [(0, 0)] _ _ _ ⟨rfl, rfl, rfl, rfl, rfl, rfl, rfl, trivial⟩ ⟨rfl, ⟨_, rfl, rfl⟩, trivial⟩ rfl rfl rfl rfl rfl)
        · show Tri _ _ _ _
          refine tri_le hle ?_
          refine tri_cond rfl (fun hb => ?_) (fun hb => ?_)
          · replace h := bif_t hb h
            refine tri_skip ?_
            show Tri _ _ _ _
            refine tri_block ?_
            refine tri_seq ?_
            refine tri_region (by exact tokW) (by exact gok) [] [28, 31] rfl ?_
            obtain ⟨e12, he12, h⟩ := bind_out h
            refine And.intro (at_ok (fun _ => rfl) he12).1 ?_
            intro r13 hr13
            obtain rfl : [.sl 1 ((List.map (irow .i64)) e12)] = r13 := (hr13.trans (at_ok (fun _ => rfl) he12).2.1).symm
            obtain ⟨e14, he14, h⟩ := bind_out h
            refine And.intro (at_ok (fun _ => rfl) he14).1 ?_
            intro r15 hr15
            obtain rfl : [.int .i64 e14] = r15 := (hr15.trans (at_ok (fun _ => rfl) he14).2.1).symm
            show Tri _ _ _ _
            refine tri_seq ?_
            refine tri_drawn (by exact tokW) (by exact gok) (by exact mixed) [] [38, 41, 46] [] rfl (by decide +kernel) ?_
            obtain ⟨e16, he16, h⟩ := bind_out h
            refine And.intro (at_ok (fun _ => rfl) he16).1 ?_
            intro r17 hr17
            obtain rfl : [.sl 1 ((List.map (irow .i64)) e16)] = r17 := (hr17.trans (at_ok (fun _ => rfl) he16).2.1).symm
            obtain ⟨e18, he18, h⟩ := bind_out h
            refine And.intro (at_ok (fun _ => rfl) he18).1 ?_
            intro r19 hr19
            obtain rfl : [.int .i64 e18] = r19 := (hr19.trans (at_ok (fun _ => rfl) he18).2.1).symm
            obtain ⟨e20, he20, h⟩ := bind_out h
            refine And.intro (at_ok (fun _ => rfl) he20).1 ?_
            intro r21 hr21
            obtain rfl : [.int .i64 e20] = r21 := (hr21.trans (at_ok (fun _ => rfl) he20).2.1).symm
            show Tri _ _ _ _
            refine tri_seq ?_
            refine tri_drawn (by exact tokW) (by exact gok) (by exact mixed) [] [54, 58, 63] [] rfl (by decide +kernel) ?_
            obtain ⟨e22, he22, h⟩ := bind_out h
            refine And.intro (at_ok (fun _ => rfl) he22).1 ?_
            intro r23 hr23
            obtain rfl : [.sl 1 ((List.map (irow .i64)) e22)] = r23 := (hr23.trans (at_ok (fun _ => rfl) he22).2.1).symm
            obtain ⟨e24, he24, h⟩ := bind_out h
            refine And.intro (at_ok (fun _ => rfl) he24).1 ?_
            intro r25 hr25
            obtain rfl : [.int .i64 e24] = r25 := (hr25.trans (at_ok (fun _ => rfl) he24).2.1).symm
            obtain ⟨e26, he26, h⟩ := bind_out h
            refine And.intro (at_ok (fun _ => rfl) he26).1 ?_
            intro r27 hr27
            obtain rfl : [.int .i64 e26] = r27 := (hr27.trans (at_ok (fun _ => rfl) he26).2.1).symm
            show Tri _ _ _ _
            refine tri_block ?_
            refine tri_seq ?_
            obtain ⟨x28, hj, h⟩ := bind_out h
            refine tri_post ⟨ofL [(0, .s (.sl 4 (Nd.encs a1))), (1, .s (.sl 4 (Nd.encs a2))), (5, .s (.pt [.sl 1 ((List.map enc_s_int) y3_least), .sl 1 ((List.map enc_s_int) y3_pair), .sl 1 ((List.map (irow .i64)) y3_first), .sl 1 ((List.map (irow .i64)) y3_other)])), (6, .orow 0), (7, .s (.int .i64 x5)), (8, .s (.int .i64 x6)), (10, .s (.bool (e14 == (IntKind.i64.wrap (e18 + e20))))), (11, .s (.bool (e14 == (IntKind.i64.wrap (e24 + e26))))), (69, .s (.bool x28))], ofH [(0, .row 34 2 ((List.map enc_2_int) l7))], 1⟩ ?_ (fun σ' hle => ?_)
            · replace h := hj
              refine tri_drawn (by exact tokW) (by exact gok) (by exact mixed) [] [73, 76, 79, 85, 89, 94, 97] [] rfl (by decide +kernel) ?_
              obtain ⟨e29, he29, h⟩ := bind_out h
              refine And.intro (at_ok (fun _ => rfl) he29).1 ?_
              intro r30 hr30
              obtain rfl : [.sl 1 ((List.map (irow .i64)) e29)] = r30 := (hr30.trans (at_ok (fun _ => rfl) he29).2.1).symm
              obtain ⟨e31, he31, h⟩ := bind_out h
              refine And.intro (at_ok (fun _ => rfl) he31).1 ?_
              intro r32 hr32
              obtain rfl : [.int .i64 e31] = r32 := (hr32.trans (at_ok (fun _ => rfl) he31).2.1).symm
              intro b hb
              cases b with
              | true =>
                replace h := bif_t hb.symm h
                obtain ⟨e33, he33, h⟩ := bind_out h
                refine And.intro (at_ok (fun _ => rfl) he33).1 ?_
                intro r34 hr34
                obtain rfl : [.sl 1 ((List.map (irow .i64)) e33)] = r34 := (hr34.trans (at_ok (fun _ => rfl) he33).2.1).symm
                obtain ⟨e35, he35, h⟩ := bind_out h
                refine And.intro (at_ok (fun _ => rfl) he35).1 ?_
                intro r36 hr36
                obtain rfl : [.int .i64 e35] = r36 := (hr36.trans (at_ok (fun _ => rfl) he35).2.1).symm
                obtain ⟨e37, he37, h⟩ := bind_out h
                refine And.intro (at_ok (fun _ => rfl) he37).1 ?_
                intro r38 hr38
                obtain rfl : [.sl 1 ((List.map (irow .i64)) e37)] = r38 := (hr38.trans (at_ok (fun _ => rfl) he37).2.1).symm
                obtain ⟨e39, he39, h⟩ := bind_out h
                refine And.intro (at_ok (fun _ => rfl) he39).1 ?_
                intro r40 hr40
                obtain rfl : [.int .i64 e39] = r40 := (hr40.trans (at_ok (fun _ => rfl) he39).2.1).symm
                cases h
                exact (Le.rename [(0, 0)] _ _ _ ⟨rfl, rfl, rfl, rfl, rfl, rfl, rfl, rfl, rfl, trivial⟩ ⟨rfl, ⟨_, rfl, rfl⟩, trivial⟩ rfl rfl rfl rfl rfl)
              | false =>
                replace h := bif_f hb.symm h
                cases h
                exact (Le.rename [(0, 0)] _ _ _ ⟨rfl, rfl, rfl, rfl, rfl, rfl, rfl, rfl, rfl, trivial⟩ ⟨rfl, ⟨_, rfl, rfl⟩, trivial⟩ rfl rfl rfl rfl rfl)
            · show Tri _ _ _ _
              refine tri_le hle ?_
              refine tri_cond rfl (fun hb => ?_) (fun hb => ?_)
              · replace h := bif_t hb h
                refine tri_seq ?_
                refine tri_region (by exact tokW) (by exact gok) [107] [106] rfl ?_
                intro r41 hr41
                obtain rfl : (List.map enc_2_int) [(x5, x6)] = r41 := (hr41.trans (by simp [List.map_append, List.map_take, List.map_drop, irow, brow, b8of_row, List.map_cons, List.map_nil, b8of_wrap, Nd.encs_eq, Nd.enc, enc_13_node_kind, enc_node_checker, enc_node_inner, enc_diff_grid, enc_s_int, enc_node_open, enc_2_int])).symm
                obtain ⟨hq, h⟩ := req_out h
                refine And.intro (show (((List.map enc_2_int) l7).length + ((List.map enc_2_int) [(x5, x6)]).length) * 16 ≤ 140737488355328 ∧ ((List.map enc_2_int) l7).length + ((List.map enc_2_int) [(x5, x6)]).length ≤ 9223372036854775807 from by simp only [List.length_append, List.length_cons, List.length_nil, List.length_map, rlen (fun _ => rfl)] at hq ⊢; omega) ?_
                show Tri _ _ _ _
                refine tri_le (Le.rename [(1, 0)] [(0, .s (.sl 4 (Nd.encs a1))), (1, .s (.sl 4 (Nd.encs a2))), (5, .s (.pt [.sl 1 ((List.map enc_s_int) y3_least), .sl 1 ((List.map enc_s_int) y3_pair), .sl 1 ((List.map (irow .i64)) y3_first), .sl 1 ((List.map (irow .i64)) y3_other)])), (6, .orow 0), (7, .s (.int .i64 x5)), (8, .s (.int .i64 x6))] [(0, .row 34 2 ((List.map enc_2_int) (l7 ++ [(x5, x6)])))] 1 ⟨rfl, rfl, rfl, rfl, rfl, rfl, trivial⟩ ⟨rfl, ⟨_, rfl, congrArg (Ob.row 34 2) (by simp [List.map_append, List.map_take, List.map_drop, irow, brow, b8of_row, List.map_cons, List.map_nil, b8of_wrap, Nd.encs_eq, Nd.enc, enc_13_node_kind, enc_node_checker, enc_node_inner, enc_diff_grid, enc_s_int, enc_node_open, enc_2_int])⟩, trivial⟩ rfl rfl rfl rfl rfl) ?_
                refine tri_region (by exact tokW) (by exact gok) [] [] rfl ?_
                refine ⟨(k, IntKind.i64.wrap (x5 + 1), IntKind.i64.wrap (x6 + 1), l7 ++ [(x5, x6)]), h, (Le.rename [(0, 0)] _ _ _ ⟨rfl, rfl, rfl, rfl, rfl, rfl, trivial⟩ ⟨rfl, ⟨_, rfl, rfl⟩, trivial⟩ rfl rfl rfl rfl rfl), Nat.lt_succ_self k⟩
              · replace h := bif_f hb h
                refine tri_seq ?_
                obtain ⟨x42, hj, h⟩ := bind_out h
                refine tri_post ⟨ofL [(0, .s (.sl 4 (Nd.encs a1))), (1, .s (.sl 4 (Nd.encs a2))), (5, .s (.pt [.sl 1 ((List.map enc_s_int) y3_least), .sl 1 ((List.map enc_s_int) y3_pair), .sl 1 ((List.map (irow .i64)) y3_first), .sl 1 ((List.map (irow .i64)) y3_other)])), (6, .orow 0), (7, .s (.int .i64 x5)), (8, .s (.int .i64 x6)), (112, .s (.bool x42))], ofH [(0, .row 34 2 ((List.map enc_2_int) l7))], 1⟩ ?_ (fun σ' hle => ?_)
                · replace h := hj
                  refine tri_drawn (by exact tokW) (by exact gok) (by exact mixed) [] [114, 117, 120, 125] [] rfl (by decide +kernel) ?_
                  intro b hb
                  cases b with
                  | true =>
                    replace h := bif_t hb.symm h
                    intro b hb
                    cases b with
                    | true =>
                      replace h := bif_t hb.symm h
                      cases h
                      exact (Le.rename [(0, 0)] _ _ _ ⟨rfl, rfl, rfl, rfl, rfl, rfl, rfl, trivial⟩ ⟨rfl, ⟨_, rfl, rfl⟩, trivial⟩ rfl rfl rfl rfl rfl)
                    | false =>
                      replace h := bif_f hb.symm h
                      obtain ⟨⟨e43_kind, e43_text, e43_cols, e43_kids⟩, he43, h⟩ := bind_out h
                      refine And.intro (at_ok Nd.encs_eq he43).1 ?_
                      intro r44 hr44
                      obtain rfl : [.int .i64 e43_kind, .str e43_text, .int .i64 e43_cols, .sl 4 (Nd.encs e43_kids)] = r44 := (hr44.trans (at_ok Nd.encs_eq he43).2.1).symm
                      obtain ⟨y45, hy45, h⟩ := bind_out h
                      refine ⟨_, ⟨_, _, _, hy45, rfl, rfl⟩, ?_⟩
                      obtain ⟨⟨e46_kind, e46_text, e46_cols, e46_kids⟩, he46, h⟩ := bind_out h
                      refine And.intro (at_ok Nd.encs_eq he46).1 ?_
                      intro r47 hr47
                      obtain rfl : [.int .i64 e46_kind, .str e46_text, .int .i64 e46_cols, .sl 4 (Nd.encs e46_kids)] = r47 := (hr47.trans (at_ok Nd.encs_eq he46).2.1).symm
                      obtain ⟨y48, hy48, h⟩ := bind_out h
                      refine ⟨_, ⟨_, _, _, hy48, rfl, rfl⟩, ?_⟩
                      cases h
                      exact (Le.rename [(0, 0)] _ _ _ ⟨rfl, rfl, rfl, rfl, rfl, rfl, rfl, trivial⟩ ⟨rfl, ⟨_, rfl, rfl⟩, trivial⟩ rfl rfl rfl rfl rfl)
                  | false =>
                    replace h := bif_f hb.symm h
                    cases h
                    exact (Le.rename [(0, 0)] _ _ _ ⟨rfl, rfl, rfl, rfl, rfl, rfl, rfl, trivial⟩ ⟨rfl, ⟨_, rfl, rfl⟩, trivial⟩ rfl rfl rfl rfl rfl)
                · show Tri _ _ _ _
                  refine tri_le hle ?_
                  refine tri_cond rfl (fun hb => ?_) (fun hb => ?_)
                  · replace h := bif_t hb h
                    refine tri_region (by exact tokW) (by exact gok) [] [] rfl ?_
                    refine ⟨(k, IntKind.i64.wrap (x5 + 1), x6, l7), h, (Le.rename [(0, 0)] _ _ _ ⟨rfl, rfl, rfl, rfl, rfl, rfl, trivial⟩ ⟨rfl, ⟨_, rfl, rfl⟩, trivial⟩ rfl rfl rfl rfl rfl), Nat.lt_succ_self k⟩
                  · replace h := bif_f hb h
                    refine tri_region (by exact tokW) (by exact gok) [] [] rfl ?_
                    refine ⟨(k, x5, IntKind.i64.wrap (x6 + 1), l7), h, (Le.rename [(0, 0)] _ _ _ ⟨rfl, rfl, rfl, rfl, rfl, rfl, trivial⟩ ⟨rfl, ⟨_, rfl, rfl⟩, trivial⟩ rfl rfl rfl rfl rfl), Nat.lt_succ_self k⟩
          · replace h := bif_f hb h
            refine tri_exit ?_
            cases h
            exact (Le.rename [(0, 0)] _ _ _ ⟨rfl, trivial⟩ ⟨rfl, ⟨_, rfl, rfl⟩, trivial⟩ rfl rfl rfl rfl rfl)
  · show Tri _ _ _ _
    refine tri_le hle ?_
    refine tri_seq ?_
    refine tri_region (by exact tokW) (by exact gok) [] [] rfl ?_
    show Tri _ _ _ _
    refine tri_ret ?_
    have hy := Option.some.inj h
    subst hy
    unfold Gives
    exact ⟨_, Le.refl _ _, 0, rfl, rfl⟩

/- vinculum/diff.Align -/
def R_diff_Align (n : Nat) (xs : List AV) (r : Ret) : Prop := ∃ (a0 : Nd) (a1 : Nd) (y0 : List (Int × Int)) (y1 : Int), m_diff_Align n a0 a1 = some (y0, y1) ∧ xs = [.agg ((Nd.enc a0).map .s), .agg ((Nd.enc a1).map .s)] ∧ r = .val (.tup [.s (.sl 2 ((List.map enc_2_int) y0)), .s (.int .i64 y1)])
def S_diff_Align : PSpec := pspec fun xs r => ∃ n, R_diff_Align n xs r
set_option maxHeartbeats 2000000 in
set_option maxRecDepth 100000 in
theorem ok_diff_Align : PSound Tryd.prog 7 S_diff_Align := by
  have gok : ∀ f s, look? f [(14, S_diff_valid), (15, S_diff_align)] = some s → PSound Tryd.prog f s := look_all (by
    simp only [List.forall_mem_cons]
    exact ⟨ok_diff_valid, ok_diff_align, by simp⟩)
  refine psound tokW Tryd.call7 Tryd.func7 rfl (fun xs r h => by obtain ⟨n, _, _, _, _, _, rfl, _⟩ := h; show 2 ≤ 15; decide) 15 rfl ?_
  rintro xs r w0 G0 ⟨n, ⟨a1_kind, a1_text, a1_cols, a1_kids⟩, ⟨b2_kind, b2_text, b2_cols, b2_kids⟩, y0, y1, h, rfl, rfl⟩ _
  rw [m_diff_Align] at h
  refine tri_seq ?_
  refine tri_region (by exact tokW) (by exact gok) [] [] rfl ?_
  show Tri _ _ _ _
  refine tri_seq ?_
  refine tri_seq ?_
  refine tri_region (by exact tokW) (by exact gok) [] [] rfl ?_
  obtain ⟨y3, hy3, h⟩ := bind_out h
  refine ⟨_, ⟨_, _, _, _, hy3, rfl, rfl⟩, ?_⟩
  show Tri _ _ _ _
  refine tri_cond rfl (fun hb => ?_) (fun hb => ?_)
  · replace h := bif_t hb h
    refine tri_seq ?_
    refine tri_region (by exact tokW) (by exact gok) [] [] rfl ?_
    show Tri _ _ _ _
    refine tri_ret ?_
    obtain ⟨hj1, hk1⟩ := Prod.mk.inj (Option.some.inj h)
    subst hj1
    subst hk1
    unfold Gives
    exact ⟨_, Le.refl _ _, rfl, rfl⟩
  · replace h := bif_f hb h
    refine tri_skip ?_
    show Tri _ _ _ _
    refine tri_seq ?_
    refine tri_region (by exact tokW) (by exact gok) [] [] rfl ?_
    obtain ⟨y4, hy4, h⟩ := bind_out h
    refine ⟨_, ⟨_, _, _, _, hy4, rfl, rfl⟩, ?_⟩
    show Tri _ _ _ _
    refine tri_ret ?_
    obtain ⟨hj1, hk1⟩ := Prod.mk.inj (Option.some.inj h)
    subst hj1
    subst hk1
    unfold Gives
    exact ⟨_, Le.refl _ _, rfl, rfl⟩

/- vinculum/vinculumref09.Letter -/
def R_r09_Letter (xs : List AV) (r : Ret) : Prop := ∃ (a0 : Int) (y0 : Bool), m_r09_Letter a0 = some y0 ∧ xs = [.s (.int .u8 a0)] ∧ r = .val (.s (.bool y0))
def S_r09_Letter : PSpec := pspec fun xs r => R_r09_Letter xs r
set_option maxHeartbeats 2000000 in
set_option maxRecDepth 100000 in
theorem ok_r09_Letter : PSound Tryd.prog 56 S_r09_Letter := by
  have gok : ∀ (f : Nat) (s : PSpec), (fun _ => none : Nat → Option PSpec) f = some s → PSound Tryd.prog f s := fun _ _ h => by cases h
  refine psound tokW Tryd.call56 Tryd.func56 rfl (fun xs r h => by obtain ⟨_, _, _, rfl, _⟩ := h; show 1 ≤ 17; decide) 17 rfl ?_
  rintro xs r w0 G0 ⟨c1, y0, h, rfl, rfl⟩ _
  rw [m_r09_Letter] at h
  refine tri_seq ?_
  refine tri_region (by exact tokW) (by exact gok) [] [] rfl ?_
  show Tri _ _ _ _
  refine tri_seq ?_
  obtain ⟨x2, hj, h⟩ := bind_out h
  refine tri_post ⟨ofL [(2, .s (.bool x2))], fun _ => none, 0⟩ ?_ (fun σ' hle => ?_)
  · replace h := hj
    refine tri_region (by exact tokW) (by exact gok) [] [5, 9, 12] rfl ?_
    intro b hb
    cases b with
    | true =>
      replace h := bif_t hb.symm h
      intro b hb
      cases b with
      | true =>
        replace h := bif_t hb.symm h
        cases h
        exact (Le.forget _ ⟨rfl, trivial⟩)
      | false =>
        replace h := bif_f hb.symm h
        intro b hb
        cases b with
        | true =>
          replace h := bif_t hb.symm h
          cases h
          exact (Le.forget _ ⟨rfl, trivial⟩)
        | false =>
          replace h := bif_f hb.symm h
          cases h
          exact (Le.forget _ ⟨rfl, trivial⟩)
    | false =>
      replace h := bif_f hb.symm h
      intro b hb
      subst hb
      intro b hb
      cases b with
      | true =>
        replace h := bif_t hb.symm h
        cases h
        exact (Le.forget _ ⟨rfl, trivial⟩)
      | false =>
        replace h := bif_f hb.symm h
        cases h
        exact (Le.forget _ ⟨rfl, trivial⟩)
  · show Tri _ _ _ _
    refine tri_le hle ?_
    refine tri_ret ?_
    have hy := Option.some.inj h
    subst hy
    unfold Gives
    exact ⟨_, Le.refl _ _, rfl, rfl⟩

/- vinculum/vinculumref09.has -/
def R_r09_has (n : Nat) (xs : List AV) (r : Ret) : Prop := ∃ (a0 : List UInt8) (a1 : Int) (y0 : Bool), m_r09_has n a0 a1 = some y0 ∧ xs = [.s (.str a0), .s (.int .u8 a1)] ∧ r = .val (.s (.bool y0))
def S_r09_has : PSpec := pspec fun xs r => ∃ n, R_r09_has n xs r
set_option maxHeartbeats 2000000 in
set_option maxRecDepth 100000 in
theorem ok_r09_has : PSound Tryd.prog 43 S_r09_has := by
  have gok : ∀ (f : Nat) (s : PSpec), (fun _ => none : Nat → Option PSpec) f = some s → PSound Tryd.prog f s := fun _ _ h => by cases h
  refine psound tokW Tryd.call43 Tryd.func43 rfl (fun xs r h => by obtain ⟨n, _, _, _, _, rfl, _⟩ := h; show 2 ≤ 17; decide) 17 rfl ?_
  rintro xs r w0 G0 ⟨n, s1, c2, y0, h, rfl, rfl⟩ _
  rw [m_r09_has] at h
  refine tri_seq ?_
  refine tri_region (by exact tokW) (by exact gok) [] [] rfl ?_
  show Tri _ _ _ _
  refine tri_seq ?_
  refine tri_seq ?_
  refine tri_region (by exact tokW) (by exact gok) [] [] rfl ?_
  show Tri _ _ _ _
  obtain ⟨fl, hl, ho1⟩ := bind_out h
  refine tri_fl (fl := fl) (fun z => match z with | _ => ⟨ofL [], fun _ => none, 0⟩) ?_ (fun z σ' hz hle => ?_)
  · refine tri_block (tri_loopI (X := Nat × Int) (fun y => match y with | (k, i3) => ⟨ofL [(0, .s (.str s1)), (1, .s (.int .u8 c2)), (5, .s (.int .i64 i3))], fun _ => none, 0⟩) (fun y => m_r09_has_l1 s1 c2 y.1 y.2 = some fl) (fun y => y.1) (n, 0) hl ?_ ?_)
    · exact (Le.forget _ ⟨rfl, rfl, rfl, trivial⟩)
    · rintro ⟨k, i3⟩ h
      cases k with
      | zero => cases h
      | succ k =>
        replace h : m_r09_has_l1 s1 c2 (k+1) i3 = some fl := h
        rw [m_r09_has_l1] at h
        refine tri_seq ?_
        refine tri_seq ?_
        refine tri_region (by exact tokW) (by exact gok) [] [] rfl ?_
        show Tri _ _ _ _
        refine tri_cond rfl (fun hb => ?_) (fun hb => ?_)
        · replace h := bif_t hb h
          refine tri_skip ?_
          show Tri _ _ _ _
          refine tri_seq ?_
          refine tri_block ?_
          refine tri_seq ?_
          refine tri_region (by exact tokW) (by exact gok) [] [14] rfl ?_
          obtain ⟨c4, hc4, h⟩ := bind_out h
          refine And.intro (str_ok hc4).1 ?_
          intro v5 hv5
          obtain rfl : (c4.toNat : Int) = v5 := (hv5.trans (str_ok hc4).2).symm
          show Tri _ _ _ _
          refine tri_cond rfl (fun hb => ?_) (fun hb => ?_)
          · replace h := bif_t hb h
            refine tri_seq ?_
            refine tri_region (by exact tokW) (by exact gok) [] [] rfl ?_
            show Tri _ _ _ _
            refine tri_ret ?_
            cases h
            replace h : some _ = some _ := ho1
            have hy := Option.some.inj h
            subst hy
            unfold Gives
            exact ⟨_, Le.refl _ _, rfl, rfl⟩
          · replace h := bif_f hb h
            refine tri_skip ?_
            show Tri _ _ _ _
            refine tri_region (by exact tokW) (by exact gok) [] [] rfl ?_
            refine ⟨(k, IntKind.i64.wrap (i3 + 1)), h, (Le.forget _ ⟨rfl, rfl, rfl, trivial⟩), Nat.lt_succ_self k⟩
        · replace h := bif_f hb h
          refine tri_exit ?_
          cases h
          exact ⟨_, rfl, (Le.forget _ trivial)⟩
  · subst hz
    obtain _ := z
    replace h := ho1
    show Tri _ _ _ _
    refine tri_le hle ?_
    refine tri_seq ?_
    refine tri_region (by exact tokW) (by exact gok) [] [] rfl ?_
    show Tri _ _ _ _
    refine tri_ret ?_
    have hy := Option.some.inj h
    subst hy
    unfold Gives
    exact ⟨_, Le.refl _ _, rfl, rfl⟩

/- vinculum/vinculumref09.Character -/
def R_r09_Character (n : Nat) (xs : List AV) (r : Ret) : Prop := ∃ (a0 : Int) (y0 : Bool), m_r09_Character n a0 = some y0 ∧ xs = [.s (.int .u8 a0)] ∧ r = .val (.s (.bool y0))
def S_r09_Character : PSpec := pspec fun xs r => ∃ n, R_r09_Character n xs r
set_option maxHeartbeats 2000000 in
set_option maxRecDepth 100000 in
theorem ok_r09_Character : PSound Tryd.prog 55 S_r09_Character := by
  have gok : ∀ f s, look? f [(56, S_r09_Letter), (43, S_r09_has)] = some s → PSound Tryd.prog f s := look_all (by
    simp only [List.forall_mem_cons]
    exact ⟨ok_r09_Letter, ok_r09_has, by simp⟩)
  refine psound tokW Tryd.call55 Tryd.func55 rfl (fun xs r h => by obtain ⟨n, _, _, _, rfl, _⟩ := h; show 1 ≤ 9; decide) 9 rfl ?_
  rintro xs r w0 G0 ⟨n, c1, y0, h, rfl, rfl⟩ _
  rw [m_r09_Character] at h
  refine tri_seq ?_
  refine tri_region (by exact tokW) (by exact gok) [] [] rfl ?_
  show Tri _ _ _ _
  refine tri_seq ?_
  obtain ⟨x2, hj, h⟩ := bind_out h
  refine tri_post ⟨ofL [(2, .s (.bool x2))], fun _ => none, 0⟩ ?_ (fun σ' hle => ?_)
  · replace h := hj
    refine tri_region (by exact tokW) (by exact gok) [] [5] rfl ?_
    obtain ⟨y3, hy3, h⟩ := bind_out h
    refine ⟨_, ⟨_, _, hy3, rfl, rfl⟩, ?_⟩
    intro b hb
    cases b with
    | true =>
      replace h := bif_t hb.symm h
      cases h
      exact (Le.forget _ ⟨rfl, trivial⟩)
    | false =>
      replace h := bif_f hb.symm h
      obtain ⟨y4, hy4, h⟩ := bind_out h
      refine ⟨_, ⟨_, _, _, _, hy4, rfl, rfl⟩, ?_⟩
      cases h
      exact (Le.forget _ ⟨rfl, trivial⟩)
  · show Tri _ _ _ _
    refine tri_le hle ?_
    refine tri_ret ?_
    have hy := Option.some.inj h
    subst hy
    unfold Gives
    exact ⟨_, Le.refl _ _, rfl, rfl⟩

/- vinculum/vinculumref09.Keywords -/
def enc_string (p : List UInt8) : List S := [.str p]
def R_r09_Keywords (xs : List AV) (r : Ret) : Prop := ∃ (y0 : List (List UInt8)), m_r09_Keywords = some y0 ∧ xs = [] ∧ r = .val (.s (.sl 1 ((List.map enc_string) y0)))
def S_r09_Keywords : PSpec := pspec fun xs r => R_r09_Keywords xs r
set_option maxHeartbeats 2000000 in
set_option maxRecDepth 100000 in
theorem ok_r09_Keywords : PSound Tryd.prog 57 S_r09_Keywords := by
  have gok : ∀ (f : Nat) (s : PSpec), (fun _ => none : Nat → Option PSpec) f = some s → PSound Tryd.prog f s := fun _ _ h => by cases h
  refine psound tokW Tryd.call57 Tryd.func57 rfl (fun xs r h => by obtain ⟨_, _, rfl, _⟩ := h; show 0 ≤ 2; decide) 2 rfl ?_
  rintro xs r w0 G0 ⟨y0, h, rfl, rfl⟩ _
  rw [m_r09_Keywords] at h
  refine tri_seq ?_
  refine tri_region (by exact tokW) (by exact gok) [] [] rfl ?_
  show Tri _ _ _ _
  refine tri_seq ?_
  refine tri_region (by exact tokW) (by exact gok) [] [1] rfl ?_
  intro r1 hr1
  obtain rfl : (List.map enc_string) [[102, 114, 97, 99], [114, 111, 111, 116], [109, 97, 116, 114, 105, 120], [102, 101, 110, 99, 101]] = r1 := (hr1.trans (by simp [List.map_append, List.map_take, List.map_drop, irow, brow, b8of_row, List.map_cons, List.map_nil, b8of_wrap, Nd.encs_eq, Nd.enc, enc_13_node_kind, enc_node_checker, enc_node_inner, enc_diff_grid, enc_s_int, enc_node_open, enc_2_int, enc_string])).symm
  show Tri _ _ _ _
  refine tri_ret ?_
  have hy := Option.some.inj h
  subst hy
  unfold Gives
  exact ⟨_, Le.refl _ _, rfl, rfl⟩

/- vinculum/vinculumref09.In -/
def R_r09_In (n : Nat) (xs : List AV) (r : Ret) : Prop := ∃ (a0 : List (List UInt8)) (a1 : List UInt8) (y0 : Bool), m_r09_In n a0 a1 = some y0 ∧ xs = [.s (.sl 1 ((List.map enc_string) a0)), .s (.str a1)] ∧ r = .val (.s (.bool y0))
def S_r09_In : PSpec := pspec fun xs r => ∃ n, R_r09_In n xs r
set_option maxHeartbeats 2000000 in
set_option maxRecDepth 100000 in
theorem ok_r09_In : PSound Tryd.prog 41 S_r09_In := by
  have gok : ∀ (f : Nat) (s : PSpec), (fun _ => none : Nat → Option PSpec) f = some s → PSound Tryd.prog f s := fun _ _ h => by cases h
  refine psound tokW Tryd.call41 Tryd.func41 rfl (fun xs r h => by obtain ⟨n, _, _, _, _, rfl, _⟩ := h; show 2 ≤ 18; decide) 18 rfl ?_
  rintro xs r w0 G0 ⟨n, l1, s2, y0, h, rfl, rfl⟩ _
  rw [m_r09_In] at h
  refine tri_seq ?_
  refine tri_region (by exact tokW) (by exact gok) [] [] rfl ?_
  show Tri _ _ _ _
  refine tri_seq ?_
  refine tri_seq ?_
  refine tri_region (by exact tokW) (by exact gok) [] [] rfl ?_
  show Tri _ _ _ _
  obtain ⟨fl, hl, ho1⟩ := bind_out h
  refine tri_fl (fl := fl) (fun z => match z with | _ => ⟨ofL [], fun _ => none, 0⟩) ?_ (fun z σ' hz hle => ?_)
  · refine tri_block (tri_loopI (X := Nat × Int) (fun y => match y with | (k, i3) => ⟨ofL [(0, .s (.sl 1 ((List.map enc_string) l1))), (1, .s (.str s2)), (5, .s (.int .i64 i3))], fun _ => none, 0⟩) (fun y => m_r09_In_l1 l1 s2 y.1 y.2 = some fl) (fun y => y.1) (n, 0) hl ?_ ?_)
    · exact (Le.forget _ ⟨rfl, rfl, rfl, trivial⟩)
    · rintro ⟨k, i3⟩ h
      cases k with
      | zero => cases h
      | succ k =>
        replace h : m_r09_In_l1 l1 s2 (k+1) i3 = some fl := h
        rw [m_r09_In_l1] at h
        refine tri_seq ?_
        refine tri_seq ?_
        refine tri_region (by exact tokW) (by exact gok) [] [8] rfl ?_
        intro n4 hn4
        obtain rfl : (l1.length : Int) = n4 := (hn4.trans (congrArg (fun m : Nat => (m : Int)) (rlen (fun _ => rfl) l1))).symm
        show Tri _ _ _ _
        refine tri_cond rfl (fun hb => ?_) (fun hb => ?_)
        · replace h := bif_t hb h
          refine tri_skip ?_
          show Tri _ _ _ _
          refine tri_seq ?_
          refine tri_block ?_
          refine tri_seq ?_
          refine tri_region (by exact tokW) (by exact gok) [] [14] rfl ?_
          obtain ⟨e5, he5, h⟩ := bind_out h
          refine And.intro (at_ok (fun _ => rfl) he5).1 ?_
          intro r6 hr6
          obtain rfl : [.str e5] = r6 := (hr6.trans (at_ok (fun _ => rfl) he5).2.1).symm
          show Tri _ _ _ _
          refine tri_cond rfl (fun hb => ?_) (fun hb => ?_)
          · replace h := bif_t hb h
            refine tri_seq ?_
            refine tri_region (by exact tokW) (by exact gok) [] [] rfl ?_
            show Tri _ _ _ _
            refine tri_ret ?_
            cases h
            replace h : some _ = some _ := ho1
            have hy := Option.some.inj h
            subst hy
            unfold Gives
            exact ⟨_, Le.refl _ _, rfl, rfl⟩
          · replace h := bif_f hb h
            refine tri_skip ?_
            show Tri _ _ _ _
            refine tri_region (by exact tokW) (by exact gok) [] [] rfl ?_
            refine ⟨(k, IntKind.i64.wrap (i3 + 1)), h, (Le.forget _ ⟨rfl, rfl, rfl, trivial⟩), Nat.lt_succ_self k⟩
        · replace h := bif_f hb h
          refine tri_exit ?_
          cases h
          exact ⟨_, rfl, (Le.forget _ trivial)⟩
  · subst hz
    obtain _ := z
    replace h := ho1
    show Tri _ _ _ _
    refine tri_le hle ?_
    refine tri_seq ?_
    refine tri_region (by exact tokW) (by exact gok) [] [] rfl ?_
    show Tri _ _ _ _
    refine tri_ret ?_
    have hy := Option.some.inj h
    subst hy
    unfold Gives
    exact ⟨_, Le.refl _ _, rfl, rfl⟩

/- vinculum/vinculumref09.Accents -/
def R_r09_Accents (xs : List AV) (r : Ret) : Prop := ∃ (y0 : List (List UInt8)), m_r09_Accents = some y0 ∧ xs = [] ∧ r = .val (.s (.sl 1 ((List.map enc_string) y0)))
def S_r09_Accents : PSpec := pspec fun xs r => R_r09_Accents xs r
set_option maxHeartbeats 2000000 in
set_option maxRecDepth 100000 in
theorem ok_r09_Accents : PSound Tryd.prog 42 S_r09_Accents := by
  have gok : ∀ (f : Nat) (s : PSpec), (fun _ => none : Nat → Option PSpec) f = some s → PSound Tryd.prog f s := fun _ _ h => by cases h
  refine psound tokW Tryd.call42 Tryd.func42 rfl (fun xs r h => by obtain ⟨_, _, rfl, _⟩ := h; show 0 ≤ 2; decide) 2 rfl ?_
  rintro xs r w0 G0 ⟨y0, h, rfl, rfl⟩ _
  rw [m_r09_Accents] at h
  refine tri_seq ?_
  refine tri_region (by exact tokW) (by exact gok) [] [] rfl ?_
  show Tri _ _ _ _
  refine tri_seq ?_
  refine tri_region (by exact tokW) (by exact gok) [] [1] rfl ?_
  intro r1 hr1
  obtain rfl : (List.map enc_string) [[104, 97, 116], [98, 97, 114], [118, 101, 99], [100, 111, 116], [116, 105, 108, 100, 101], [99, 104, 101, 99, 107]] = r1 := (hr1.trans (by simp [List.map_append, List.map_take, List.map_drop, irow, brow, b8of_row, List.map_cons, List.map_nil, b8of_wrap, Nd.encs_eq, Nd.enc, enc_13_node_kind, enc_node_checker, enc_node_inner, enc_diff_grid, enc_s_int, enc_node_open, enc_2_int, enc_string])).symm
  show Tri _ _ _ _
  refine tri_ret ?_
  have hy := Option.some.inj h
  subst hy
  unfold Gives
  exact ⟨_, Le.refl _ _, rfl, rfl⟩

/- vinculum/vinculumref09.Symbol -/
def R_r09_Symbol (n : Nat) (xs : List AV) (r : Ret) : Prop := ∃ (a0 : List UInt8) (y0 : Bool), m_r09_Symbol n a0 = some y0 ∧ xs = [.s (.str a0)] ∧ r = .val (.s (.bool y0))
def S_r09_Symbol : PSpec := pspec fun xs r => ∃ n, R_r09_Symbol n xs r
set_option maxHeartbeats 2000000 in
set_option maxRecDepth 100000 in
theorem ok_r09_Symbol : PSound Tryd.prog 38 S_r09_Symbol := by
  have gok : ∀ f s, look? f [(55, S_r09_Character), (56, S_r09_Letter), (57, S_r09_Keywords), (41, S_r09_In), (42, S_r09_Accents)] = some s → PSound Tryd.prog f s := look_all (by
    simp only [List.forall_mem_cons]
    exact ⟨ok_r09_Character, ok_r09_Letter, ok_r09_Keywords, ok_r09_In, ok_r09_Accents, by simp⟩)
  refine psound tokW Tryd.call38 Tryd.func38 rfl (fun xs r h => by obtain ⟨n, _, _, _, rfl, _⟩ := h; show 1 ≤ 41; decide) 41 rfl ?_
  rintro xs r w0 G0 ⟨n, s1, y0, h, rfl, rfl⟩ _
  rw [m_r09_Symbol] at h
  refine tri_seq ?_
  refine tri_region (by exact tokW) (by exact gok) [] [] rfl ?_
  show Tri _ _ _ _
  refine tri_seq ?_
  refine tri_seq ?_
  refine tri_region (by exact tokW) (by exact gok) [] [] rfl ?_
  show Tri _ _ _ _
  refine tri_cond rfl (fun hb => ?_) (fun hb => ?_)
  · replace h := bif_t hb h
    refine tri_seq ?_
    refine tri_region (by exact tokW) (by exact gok) [] [8] rfl ?_
    obtain ⟨c2, hc2, h⟩ := bind_out h
    refine And.intro (str_ok hc2).1 ?_
    intro v3 hv3
    obtain rfl : (c2.toNat : Int) = v3 := (hv3.trans (str_ok hc2).2).symm
    obtain ⟨y4, hy4, h⟩ := bind_out h
    refine ⟨_, ⟨_, _, _, hy4, rfl, rfl⟩, ?_⟩
    show Tri _ _ _ _
    refine tri_ret ?_
    have hy := Option.some.inj h
    subst hy
    unfold Gives
    exact ⟨_, Le.refl _ _, rfl, rfl⟩
  · replace h := bif_f hb h
    refine tri_skip ?_
    show Tri _ _ _ _
    refine tri_seq ?_
    refine tri_seq ?_
    refine tri_region (by exact tokW) (by exact gok) [] [] rfl ?_
    show Tri _ _ _ _
    obtain ⟨fl, hl, ho1⟩ := bind_out h
    refine tri_fl (fl := fl) (fun z => match z with | _ => ⟨ofL [(0, .s (.str s1))], fun _ => none, 0⟩) ?_ (fun z σ' hz hle => ?_)
    · refine tri_block (tri_loopI (X := Nat × Int) (fun y => match y with | (k, i5) => ⟨ofL [(0, .s (.str s1)), (3, .s (.int .i64 i5))], fun _ => none, 0⟩) (fun y => m_r09_Symbol_l1 s1 y.1 y.2 = some fl) (fun y => y.1) (n, 0) hl ?_ ?_)
      · exact (Le.forget _ ⟨rfl, rfl, trivial⟩)
      · rintro ⟨k, i5⟩ h
        cases k with
        | zero => cases h
        | succ k =>
          replace h : m_r09_Symbol_l1 s1 (k+1) i5 = some fl := h
          rw [m_r09_Symbol_l1] at h
          refine tri_seq ?_
          refine tri_seq ?_
          refine tri_region (by exact tokW) (by exact gok) [] [] rfl ?_
          show Tri _ _ _ _
          refine tri_cond rfl (fun hb => ?_) (fun hb => ?_)
          · replace h := bif_t hb h
            refine tri_skip ?_
            show Tri _ _ _ _
            refine tri_seq ?_
            refine tri_block ?_
            refine tri_seq ?_
            refine tri_region (by exact tokW) (by exact gok) [] [18] rfl ?_
            obtain ⟨c6, hc6, h⟩ := bind_out h
            refine And.intro (str_ok hc6).1 ?_
            intro v7 hv7
            obtain rfl : (c6.toNat : Int) = v7 := (hv7.trans (str_ok hc6).2).symm
            obtain ⟨y8, hy8, h⟩ := bind_out h
            refine ⟨_, ⟨_, _, hy8, rfl, rfl⟩, ?_⟩
            show Tri _ _ _ _
            refine tri_cond rfl (fun hb => ?_) (fun hb => ?_)
            · replace h := bif_t hb h
              refine tri_seq ?_
              refine tri_region (by exact tokW) (by exact gok) [] [] rfl ?_
              show Tri _ _ _ _
              refine tri_ret ?_
              cases h
              replace h : some _ = some _ := ho1
              have hy := Option.some.inj h
              subst hy
              unfold Gives
              exact ⟨_, Le.refl _ _, rfl, rfl⟩
            · replace h := bif_f hb h
              refine tri_skip ?_
              show Tri _ _ _ _
              refine tri_region (by exact tokW) (by exact gok) [] [] rfl ?_
              refine ⟨(k, IntKind.i64.wrap (i5 + 1)), h, (Le.forget _ ⟨rfl, rfl, trivial⟩), Nat.lt_succ_self k⟩
          · replace h := bif_f hb h
            refine tri_exit ?_
            cases h
            exact ⟨_, rfl, (Le.forget _ ⟨rfl, trivial⟩)⟩
    · subst hz
      obtain _ := z
      replace h := ho1
      show Tri _ _ _ _
      refine tri_le hle ?_
      refine tri_seq ?_
      obtain ⟨x9, hj, h⟩ := bind_out h
      refine tri_post ⟨ofL [(2, .s (.bool x9))], fun _ => none, 0⟩ ?_ (fun σ' hle => ?_)
      · replace h := hj
        refine tri_region (by exact tokW) (by exact gok) [] [24, 29, 35] rfl ?_
        intro b hb
        cases b with
        | true =>
          replace h := bif_t hb.symm h
          intro b hb
          cases b with
          | true =>
            replace h := bif_t hb.symm h
            obtain ⟨y10, hy10, h⟩ := bind_out h
            refine ⟨_, ⟨_, hy10, rfl, rfl⟩, ?_⟩
            obtain ⟨y11, hy11, h⟩ := bind_out h
            refine ⟨_, ⟨_, _, _, _, hy11, rfl, rfl⟩, ?_⟩
            intro b hb
            cases b with
            | true =>
              replace h := bif_t hb.symm h
              obtain ⟨y12, hy12, h⟩ := bind_out h
              refine ⟨_, ⟨_, hy12, rfl, rfl⟩, ?_⟩
              obtain ⟨y13, hy13, h⟩ := bind_out h
              refine ⟨_, ⟨_, _, _, _, hy13, rfl, rfl⟩, ?_⟩
              cases h
              exact (Le.forget _ ⟨rfl, trivial⟩)
            | false =>
              replace h := bif_f hb.symm h
              cases h
              exact (Le.forget _ ⟨rfl, trivial⟩)
          | false =>
            replace h := bif_f hb.symm h
            intro b hb
            subst hb
            cases h
            exact (Le.forget _ ⟨rfl, trivial⟩)
        | false =>
          replace h := bif_f hb.symm h
          intro b hb
          subst hb
          intro b hb
          subst hb
          cases h
          exact (Le.forget _ ⟨rfl, trivial⟩)
      · show Tri _ _ _ _
        refine tri_le hle ?_
        refine tri_ret ?_
        have hy := Option.some.inj h
        subst hy
        unfold Gives
        exact ⟨_, Le.refl _ _, rfl, rfl⟩

/- vinculum/vinculumref09.Digit -/
def R_r09_Digit (xs : List AV) (r : Ret) : Prop := ∃ (a0 : Int) (y0 : Bool), m_r09_Digit a0 = some y0 ∧ xs = [.s (.int .u8 a0)] ∧ r = .val (.s (.bool y0))
def S_r09_Digit : PSpec := pspec fun xs r => R_r09_Digit xs r
set_option maxHeartbeats 2000000 in
set_option maxRecDepth 100000 in
theorem ok_r09_Digit : PSound Tryd.prog 58 S_r09_Digit := by
  have gok : ∀ (f : Nat) (s : PSpec), (fun _ => none : Nat → Option PSpec) f = some s → PSound Tryd.prog f s := fun _ _ h => by cases h
  refine psound tokW Tryd.call58 Tryd.func58 rfl (fun xs r h => by obtain ⟨_, _, _, rfl, _⟩ := h; show 1 ≤ 9; decide) 9 rfl ?_
  rintro xs r w0 G0 ⟨c1, y0, h, rfl, rfl⟩ _
  rw [m_r09_Digit] at h
  refine tri_seq ?_
  refine tri_region (by exact tokW) (by exact gok) [] [] rfl ?_
  show Tri _ _ _ _
  refine tri_seq ?_
  obtain ⟨x2, hj, h⟩ := bind_out h
  refine tri_post ⟨ofL [(2, .s (.bool x2))], fun _ => none, 0⟩ ?_ (fun σ' hle => ?_)
  · replace h := hj
    refine tri_region (by exact tokW) (by exact gok) [] [5] rfl ?_
    intro b hb
    cases b with
    | true =>
      replace h := bif_t hb.symm h
      cases h
      exact (Le.forget _ ⟨rfl, trivial⟩)
    | false =>
      replace h := bif_f hb.symm h
      cases h
      exact (Le.forget _ ⟨rfl, trivial⟩)
  · show Tri _ _ _ _
    refine tri_le hle ?_
    refine tri_ret ?_
    have hy := Option.some.inj h
    subst hy
    unfold Gives
    exact ⟨_, Le.refl _ _, rfl, rfl⟩

/- vinculum/vinculumref09.Number -/
def R_r09_Number (n : Nat) (xs : List AV) (r : Ret) : Prop := ∃ (a0 : List UInt8) (y0 : Bool), m_r09_Number n a0 = some y0 ∧ xs = [.s (.str a0)] ∧ r = .val (.s (.bool y0))
def S_r09_Number : PSpec := pspec fun xs r => ∃ n, R_r09_Number n xs r
set_option maxHeartbeats 2000000 in
set_option maxRecDepth 100000 in
theorem ok_r09_Number : PSound Tryd.prog 39 S_r09_Number := by
  have gok : ∀ f s, look? f [(58, S_r09_Digit)] = some s → PSound Tryd.prog f s := look_all (by
    simp only [List.forall_mem_cons]
    exact ⟨ok_r09_Digit, by simp⟩)
  refine psound tokW Tryd.call39 Tryd.func39 rfl (fun xs r h => by obtain ⟨n, _, _, _, rfl, _⟩ := h; show 1 ≤ 45; decide) 45 rfl ?_
  rintro xs r w0 G0 ⟨n, s1, y0, h, rfl, rfl⟩ _
  rw [m_r09_Number] at h
  refine tri_seq ?_
  refine tri_region (by exact tokW) (by exact gok) [] [] rfl ?_
  show Tri _ _ _ _
  refine tri_seq ?_
  refine tri_region (by exact tokW) (by exact gok) [] [] rfl ?_
  show Tri _ _ _ _
  refine tri_seq ?_
  refine tri_seq ?_
  refine tri_region (by exact tokW) (by exact gok) [] [] rfl ?_
  show Tri _ _ _ _
  obtain ⟨fl, hl, ho1⟩ := bind_out h
  refine tri_fl (fl := fl) (fun z => match z with | points4 => ⟨ofL [(0, .s (.str s1)), (3, .s (.int .i64 points4))], fun _ => none, 0⟩) ?_ (fun points4 σ' hz hle => ?_)
  · refine tri_block (tri_loopI (X := Nat × Int × Int) (fun y => match y with | (k, points2, i3) => ⟨ofL [(0, .s (.str s1)), (3, .s (.int .i64 points2)), (4, .s (.int .i64 i3))], fun _ => none, 0⟩) (fun y => m_r09_Number_l1 s1 y.1 y.2.1 y.2.2 = some fl) (fun y => y.1) (n, 0, 0) hl ?_ ?_)
    · exact (Le.forget _ ⟨rfl, rfl, rfl, trivial⟩)
    · rintro ⟨k, points2, i3⟩ h
      cases k with
      | zero => cases h
      | succ k =>
        replace h : m_r09_Number_l1 s1 (k+1) points2 i3 = some fl := h
        rw [m_r09_Number_l1] at h
        refine tri_seq ?_
        refine tri_seq ?_
        refine tri_region (by exact tokW) (by exact gok) [] [] rfl ?_
        show Tri _ _ _ _
        refine tri_cond rfl (fun hb => ?_) (fun hb => ?_)
        · replace h := bif_t hb h
          refine tri_skip ?_
          show Tri _ _ _ _
          refine tri_seq ?_
          obtain ⟨fl, hj, ho2⟩ := bind_out h
          refine tri_fl (fl := fl) (fun z => match z with | points5 => ⟨ofL [(0, .s (.str s1)), (3, .s (.int .i64 points5)), (4, .s (.int .i64 i3))], fun _ => none, 0⟩) ?_ (fun points5 σ' hz hle => ?_)
          · replace h := hj
            refine tri_block ?_
            refine tri_seq ?_
            obtain ⟨x6, hj, h⟩ := bind_out h
            refine tri_post ⟨ofL [(0, .s (.str s1)), (3, .s (.int .i64 points2)), (4, .s (.int .i64 i3)), (25, .s (.bool x6))], fun _ => none, 0⟩ ?_ (fun σ' hle => ?_)
            · replace h := hj
              refine tri_region (by exact tokW) (by exact gok) [] [13, 15, 19] rfl ?_
              obtain ⟨c7, hc7, h⟩ := bind_out h
              refine And.intro (str_ok hc7).1 ?_
              intro v8 hv8
              obtain rfl : (c7.toNat : Int) = v8 := (hv8.trans (str_ok hc7).2).symm
              intro b hb
              cases b with
              | true =>
                replace h := bif_t hb.symm h
                intro b hb
                cases b with
                | true =>
                  replace h := bif_t hb.symm h
                  cases h
                  exact (Le.forget _ ⟨rfl, rfl, rfl, rfl, trivial⟩)
                | false =>
                  replace h := bif_f hb.symm h
                  cases h
                  exact (Le.forget _ ⟨rfl, rfl, rfl, rfl, trivial⟩)
              | false =>
                replace h := bif_f hb.symm h
                intro b hb
                subst hb
                cases h
                exact (Le.forget _ ⟨rfl, rfl, rfl, rfl, trivial⟩)
            · show Tri _ _ _ _
              refine tri_le hle ?_
              refine tri_cond rfl (fun hb => ?_) (fun hb => ?_)
              · replace h := bif_t hb h
                refine tri_region (by exact tokW) (by exact gok) [] [] rfl ?_
                cases h
                exact ⟨_, rfl, (Le.forget _ ⟨rfl, rfl, rfl, trivial⟩)⟩
              · replace h := bif_f hb h
                refine tri_seq ?_
                refine tri_region (by exact tokW) (by exact gok) [] [30] rfl ?_
                obtain ⟨c9, hc9, h⟩ := bind_out h
                refine And.intro (str_ok hc9).1 ?_
                intro v10 hv10
                obtain rfl : (c9.toNat : Int) = v10 := (hv10.trans (str_ok hc9).2).symm
                obtain ⟨y11, hy11, h⟩ := bind_out h
                refine ⟨_, ⟨_, _, hy11, rfl, rfl⟩, ?_⟩
                show Tri _ _ _ _
                refine tri_cond rfl (fun hb => ?_) (fun hb => ?_)
                · replace h := bif_t hb h
                  refine tri_seq ?_
                  refine tri_region (by exact tokW) (by exact gok) [] [] rfl ?_
                  show Tri _ _ _ _
                  refine tri_ret ?_
                  cases h
                  replace h : some _ = some _ := ho2
                  cases h
                  replace h : some _ = some _ := ho1
                  have hy := Option.some.inj h
                  subst hy
                  unfold Gives
                  exact ⟨_, Le.refl _ _, rfl, rfl⟩
                · replace h := bif_f hb h
                  refine tri_skip ?_
                  cases h
                  exact ⟨_, rfl, (Le.forget _ ⟨rfl, rfl, rfl, trivial⟩)⟩
          · subst hz
            replace h := ho2
            show Tri _ _ _ _
            refine tri_le hle ?_
            refine tri_region (by exact tokW) (by exact gok) [] [] rfl ?_
            refine ⟨(k, points5, IntKind.i64.wrap (i3 + 1)), h, (Le.forget _ ⟨rfl, rfl, rfl, trivial⟩), Nat.lt_succ_self k⟩
        · replace h := bif_f hb h
          refine tri_exit ?_
          cases h
          exact ⟨_, rfl, (Le.forget _ ⟨rfl, rfl, trivial⟩)⟩
  · subst hz
    replace h := ho1
    show Tri _ _ _ _
    refine tri_le hle ?_
    refine tri_seq ?_
    obtain ⟨x12, hj, h⟩ := bind_out h
    refine tri_post ⟨ofL [(2, .s (.bool x12))], fun _ => none, 0⟩ ?_ (fun σ' hle => ?_)
    · replace h := hj
      refine tri_region (by exact tokW) (by exact gok) [] [36, 41] rfl ?_
      intro b hb
      cases b with
      | true =>
        replace h := bif_t hb.symm h
        intro b hb
        cases b with
        | true =>
          replace h := bif_t hb.symm h
          cases h
          exact (Le.forget _ ⟨rfl, trivial⟩)
        | false =>
          replace h := bif_f hb.symm h
          cases h
          exact (Le.forget _ ⟨rfl, trivial⟩)
      | false =>
        replace h := bif_f hb.symm h
        intro b hb
        subst hb
        cases h
        exact (Le.forget _ ⟨rfl, trivial⟩)
    · show Tri _ _ _ _
      refine tri_le hle ?_
      refine tri_ret ?_
      have hy := Option.some.inj h
      subst hy
      unfold Gives
      exact ⟨_, Le.refl _ _, rfl, rfl⟩

/- vinculum/vinculumref09.Printable -/
def R_r09_Printable (n : Nat) (xs : List AV) (r : Ret) : Prop := ∃ (a0 : List UInt8) (y0 : Bool), m_r09_Printable n a0 = some y0 ∧ xs = [.s (.str a0)] ∧ r = .val (.s (.bool y0))
def S_r09_Printable : PSpec := pspec fun xs r => ∃ n, R_r09_Printable n xs r
set_option maxHeartbeats 2000000 in
set_option maxRecDepth 100000 in
theorem ok_r09_Printable : PSound Tryd.prog 40 S_r09_Printable := by
  have gok : ∀ (f : Nat) (s : PSpec), (fun _ => none : Nat → Option PSpec) f = some s → PSound Tryd.prog f s := fun _ _ h => by cases h
  refine psound tokW Tryd.call40 Tryd.func40 rfl (fun xs r h => by obtain ⟨n, _, _, _, rfl, _⟩ := h; show 1 ≤ 20; decide) 20 rfl ?_
  rintro xs r w0 G0 ⟨n, s1, y0, h, rfl, rfl⟩ _
  rw [m_r09_Printable] at h
  refine tri_seq ?_
  refine tri_region (by exact tokW) (by exact gok) [] [] rfl ?_
  show Tri _ _ _ _
  refine tri_seq ?_
  refine tri_seq ?_
  refine tri_region (by exact tokW) (by exact gok) [] [] rfl ?_
  show Tri _ _ _ _
  obtain ⟨fl, hl, ho1⟩ := bind_out h
  refine tri_fl (fl := fl) (fun z => match z with | _ => ⟨ofL [], fun _ => none, 0⟩) ?_ (fun z σ' hz hle => ?_)
  · refine tri_block (tri_loopI (X := Nat × Int) (fun y => match y with | (k, i2) => ⟨ofL [(0, .s (.str s1)), (3, .s (.int .i64 i2))], fun _ => none, 0⟩) (fun y => m_r09_Printable_l1 s1 y.1 y.2 = some fl) (fun y => y.1) (n, 0) hl ?_ ?_)
    · exact (Le.forget _ ⟨rfl, rfl, trivial⟩)
    · rintro ⟨k, i2⟩ h
      cases k with
      | zero => cases h
      | succ k =>
        replace h : m_r09_Printable_l1 s1 (k+1) i2 = some fl := h
        rw [m_r09_Printable_l1] at h
        refine tri_seq ?_
        refine tri_seq ?_
        refine tri_region (by exact tokW) (by exact gok) [] [] rfl ?_
        show Tri _ _ _ _
        refine tri_cond rfl (fun hb => ?_) (fun hb => ?_)
        · replace h := bif_t hb h
          refine tri_skip ?_
          show Tri _ _ _ _
          refine tri_seq ?_
          refine tri_block ?_
          refine tri_seq ?_
          obtain ⟨x3, hj, h⟩ := bind_out h
          refine tri_post ⟨ofL [(0, .s (.str s1)), (3, .s (.int .i64 i2)), (19, .s (.bool x3))], fun _ => none, 0⟩ ?_ (fun σ' hle => ?_)
          · replace h := hj
            refine tri_region (by exact tokW) (by exact gok) [] [12, 14, 17] rfl ?_
            obtain ⟨c4, hc4, h⟩ := bind_out h
            refine And.intro (str_ok hc4).1 ?_
            intro v5 hv5
            obtain rfl : (c4.toNat : Int) = v5 := (hv5.trans (str_ok hc4).2).symm
            intro b hb
            cases b with
            | true =>
              replace h := bif_t hb.symm h
              cases h
              exact (Le.forget _ ⟨rfl, rfl, rfl, trivial⟩)
            | false =>
              replace h := bif_f hb.symm h
              obtain ⟨c6, hc6, h⟩ := bind_out h
              refine And.intro (str_ok hc6).1 ?_
              intro v7 hv7
              obtain rfl : (c6.toNat : Int) = v7 := (hv7.trans (str_ok hc6).2).symm
              cases h
              exact (Le.forget _ ⟨rfl, rfl, rfl, trivial⟩)
          · show Tri _ _ _ _
            refine tri_le hle ?_
            refine tri_cond rfl (fun hb => ?_) (fun hb => ?_)
            · replace h := bif_t hb h
              refine tri_seq ?_
              refine tri_region (by exact tokW) (by exact gok) [] [] rfl ?_
              show Tri _ _ _ _
              refine tri_ret ?_
              cases h
              replace h : some _ = some _ := ho1
              have hy := Option.some.inj h
              subst hy
              unfold Gives
              exact ⟨_, Le.refl _ _, rfl, rfl⟩
            · replace h := bif_f hb h
              refine tri_skip ?_
              show Tri _ _ _ _
              refine tri_region (by exact tokW) (by exact gok) [] [] rfl ?_
              refine ⟨(k, IntKind.i64.wrap (i2 + 1)), h, (Le.forget _ ⟨rfl, rfl, trivial⟩), Nat.lt_succ_self k⟩
        · replace h := bif_f hb h
          refine tri_exit ?_
          cases h
          exact ⟨_, rfl, (Le.forget _ trivial)⟩
  · subst hz
    obtain _ := z
    replace h := ho1
    show Tri _ _ _ _
    refine tri_le hle ?_
    refine tri_seq ?_
    refine tri_region (by exact tokW) (by exact gok) [] [] rfl ?_
    show Tri _ _ _ _
    refine tri_ret ?_
    have hy := Option.some.inj h
    subst hy
    unfold Gives
    exact ⟨_, Le.refl _ _, rfl, rfl⟩

/- vinculum/vinculumref09.text -/
def R_r09_text (n : Nat) (xs : List AV) (r : Ret) : Prop := ∃ (a0 : Nd) (y0 : Bool), m_r09_text n a0 = some y0 ∧ xs = [.agg ((Nd.enc a0).map .s)] ∧ r = .val (.s (.bool y0))
def S_r09_text : PSpec := pspec fun xs r => ∃ n, R_r09_text n xs r
set_option maxHeartbeats 2000000 in
set_option maxRecDepth 100000 in
theorem ok_r09_text : PSound Tryd.prog 27 S_r09_text := by
  have gok : ∀ f s, look? f [(38, S_r09_Symbol), (39, S_r09_Number), (40, S_r09_Printable), (42, S_r09_Accents), (41, S_r09_In), (43, S_r09_has)] = some s → PSound Tryd.prog f s := look_all (by
    simp only [List.forall_mem_cons]
    exact ⟨ok_r09_Symbol, ok_r09_Number, ok_r09_Printable, ok_r09_Accents, ok_r09_In, ok_r09_has, by simp⟩)
  refine psound tokW Tryd.call27 Tryd.func27 rfl (fun xs r h => by obtain ⟨n, _, _, _, rfl, _⟩ := h; show 1 ≤ 53; decide) 53 rfl ?_
  rintro xs r w0 G0 ⟨n, ⟨n1_kind, n1_text, n1_cols, n1_kids⟩, y0, h, rfl, rfl⟩ _
  rw [m_r09_text] at h
  refine tri_seq ?_
  refine tri_region (by exact tokW) (by exact gok) [] [] rfl ?_
  show Tri _ _ _ _
  refine tri_seq ?_
  refine tri_seq ?_
  refine tri_region (by exact tokW) (by exact gok) [] [] rfl ?_
  show Tri _ _ _ _
  refine tri_block ?_
  refine tri_seq ?_
  refine tri_region (by exact tokW) (by exact gok) [] [] rfl ?_
  show Tri _ _ _ _
  refine tri_cond rfl (fun hb => ?_) (fun hb => ?_)
  · replace h := bif_t hb h
    refine tri_seq ?_
    refine tri_region (by exact tokW) (by exact gok) [] [] rfl ?_
    obtain ⟨y2, hy2, h⟩ := bind_out h
    refine ⟨_, ⟨_, _, _, hy2, rfl, rfl⟩, ?_⟩
    show Tri _ _ _ _
    refine tri_ret ?_
    have hy := Option.some.inj h
    subst hy
    unfold Gives
    exact ⟨_, Le.refl _ _, rfl, rfl⟩
  · replace h := bif_f hb h
    refine tri_seq ?_
    refine tri_region (by exact tokW) (by exact gok) [] [] rfl ?_
    show Tri _ _ _ _
    refine tri_cond rfl (fun hb => ?_) (fun hb => ?_)
    · replace h := bif_t hb h
      refine tri_seq ?_
      refine tri_region (by exact tokW) (by exact gok) [] [] rfl ?_
      obtain ⟨y3, hy3, h⟩ := bind_out h
      refine ⟨_, ⟨_, _, _, hy3, rfl, rfl⟩, ?_⟩
      show Tri _ _ _ _
      refine tri_ret ?_
      have hy := Option.some.inj h
      subst hy
      unfold Gives
      exact ⟨_, Le.refl _ _, rfl, rfl⟩
    · replace h := bif_f hb h
      refine tri_seq ?_
      refine tri_region (by exact tokW) (by exact gok) [] [] rfl ?_
      show Tri _ _ _ _
      refine tri_cond rfl (fun hb => ?_) (fun hb => ?_)
      · replace h := bif_t hb h
        refine tri_seq ?_
        obtain ⟨x4, hj, h⟩ := bind_out h
        refine tri_post ⟨ofL [(2, .s (.bool x4))], fun _ => none, 0⟩ ?_ (fun σ' hle => ?_)
        · replace h := hj
          refine tri_region (by exact tokW) (by exact gok) [] [21] rfl ?_
          intro b hb
          cases b with
          | true =>
            replace h := bif_t hb.symm h
            obtain ⟨y5, hy5, h⟩ := bind_out h
            refine ⟨_, ⟨_, _, _, hy5, rfl, rfl⟩, ?_⟩
            cases h
            exact (Le.forget _ ⟨rfl, trivial⟩)
          | false =>
            replace h := bif_f hb.symm h
            cases h
            exact (Le.forget _ ⟨rfl, trivial⟩)
        · show Tri _ _ _ _
          refine tri_le hle ?_
          refine tri_ret ?_
          have hy := Option.some.inj h
          subst hy
          unfold Gives
          exact ⟨_, Le.refl _ _, rfl, rfl⟩
      · replace h := bif_f hb h
        refine tri_seq ?_
        refine tri_region (by exact tokW) (by exact gok) [] [] rfl ?_
        show Tri _ _ _ _
        refine tri_cond rfl (fun hb => ?_) (fun hb => ?_)
        · replace h := bif_t hb h
          refine tri_seq ?_
          refine tri_drawn (by exact tokW) (by exact gok) (by exact mixed) [] [] [] rfl (by decide +kernel) ?_
          obtain ⟨y6, hy6, h⟩ := bind_out h
          refine ⟨_, ⟨_, hy6, rfl, rfl⟩, ?_⟩
          obtain ⟨y7, hy7, h⟩ := bind_out h
          refine ⟨_, ⟨_, _, _, _, hy7, rfl, rfl⟩, ?_⟩
          show Tri _ _ _ _
          refine tri_ret ?_
          have hy := Option.some.inj h
          subst hy
          unfold Gives
          exact ⟨_, Le.refl _ _, rfl, rfl⟩
        · replace h := bif_f hb h
          refine tri_seq ?_
          refine tri_region (by exact tokW) (by exact gok) [] [] rfl ?_
          show Tri _ _ _ _
          refine tri_cond rfl (fun hb => ?_) (fun hb => ?_)
          · replace h := bif_t hb h
            refine tri_seq ?_
            obtain ⟨x8, hj, h⟩ := bind_out h
            refine tri_post ⟨ofL [(2, .s (.bool x8))], fun _ => none, 0⟩ ?_ (fun σ' hle => ?_)
            · replace h := hj
              refine tri_region (by exact tokW) (by exact gok) [] [38, 41, 44, 47] rfl ?_
              intro b hb
              cases b with
              | true =>
                replace h := bif_t hb.symm h
                obtain ⟨c9, hc9, h⟩ := bind_out h
                refine And.intro (str_ok hc9).1 ?_
                intro v10 hv10
                obtain rfl : (c9.toNat : Int) = v10 := (hv10.trans (str_ok hc9).2).symm
                obtain ⟨y11, hy11, h⟩ := bind_out h
                refine ⟨_, ⟨_, _, _, _, hy11, rfl, rfl⟩, ?_⟩
                intro b hb
                cases b with
                | true =>
                  replace h := bif_t hb.symm h
                  obtain ⟨c12, hc12, h⟩ := bind_out h
                  refine And.intro (str_ok hc12).1 ?_
                  intro v13 hv13
                  obtain rfl : (c12.toNat : Int) = v13 := (hv13.trans (str_ok hc12).2).symm
                  obtain ⟨y14, hy14, h⟩ := bind_out h
                  refine ⟨_, ⟨_, _, _, _, hy14, rfl, rfl⟩, ?_⟩
                  cases h
                  exact (Le.forget _ ⟨rfl, trivial⟩)
                | false =>
                  replace h := bif_f hb.symm h
                  cases h
                  exact (Le.forget _ ⟨rfl, trivial⟩)
              | false =>
                replace h := bif_f hb.symm h
                intro b hb
                subst hb
                cases h
                exact (Le.forget _ ⟨rfl, trivial⟩)
            · show Tri _ _ _ _
              refine tri_le hle ?_
              refine tri_ret ?_
              have hy := Option.some.inj h
              subst hy
              unfold Gives
              exact ⟨_, Le.refl _ _, rfl, rfl⟩
          · replace h := bif_f hb h
            refine tri_skip ?_
            show Tri _ _ _ _
            refine tri_seq ?_
            refine tri_region (by exact tokW) (by exact gok) [] [] rfl ?_
            show Tri _ _ _ _
            refine tri_ret ?_
            have hy := Option.some.inj h
            subst hy
            unfold Gives
            exact ⟨_, Le.refl _ _, rfl, rfl⟩

/- vinculum/vinculumref09.kids -/
def R_r09_kids (xs : List AV) (r : Ret) : Prop := ∃ (a0 : Nd) (y0 : Bool), m_r09_kids a0 = some y0 ∧ xs = [.agg ((Nd.enc a0).map .s)] ∧ r = .val (.s (.bool y0))
def S_r09_kids : PSpec := pspec fun xs r => R_r09_kids xs r
set_option maxHeartbeats 2000000 in
set_option maxRecDepth 100000 in
theorem ok_r09_kids : PSound Tryd.prog 28 S_r09_kids := by
  have gok : ∀ (f : Nat) (s : PSpec), (fun _ => none : Nat → Option PSpec) f = some s → PSound Tryd.prog f s := fun _ _ h => by cases h
  refine psound tokW Tryd.call28 Tryd.func28 rfl (fun xs r h => by obtain ⟨_, _, _, rfl, _⟩ := h; show 1 ≤ 64; decide) 64 rfl ?_
  rintro xs r w0 G0 ⟨⟨n1_kind, n1_text, n1_cols, n1_kids⟩, y0, h, rfl, rfl⟩ _
  rw [m_r09_kids] at h
  refine tri_seq ?_
  refine tri_region (by exact tokW) (by exact gok) [] [] rfl ?_
  show Tri _ _ _ _
  refine tri_seq ?_
  refine tri_region (by exact tokW) (by exact gok) [] [6] rfl ?_
  intro n2 hn2
  obtain rfl : (n1_kids.length : Int) = n2 := (hn2.trans (congrArg (fun m : Nat => (m : Int)) (rlen Nd.encs_eq n1_kids))).symm
  show Tri _ _ _ _
  refine tri_seq ?_
  refine tri_seq ?_
  refine tri_region (by exact tokW) (by exact gok) [] [] rfl ?_
  show Tri _ _ _ _
  refine tri_cond rfl (fun hb => ?_) (fun hb => ?_)
  · replace h := bif_t hb h
    refine tri_seq ?_
    obtain ⟨x3, hj, h⟩ := bind_out h
    refine tri_post ⟨ofL [(2, .s (.bool x3))], fun _ => none, 0⟩ ?_ (fun σ' hle => ?_)
    · replace h := hj
      refine tri_region (by exact tokW) (by exact gok) [] [13, 18, 22, 26] rfl ?_
      intro b hb
      cases b with
      | true =>
        replace h := bif_t hb.symm h
        intro b hb
        cases b with
        | true =>
          replace h := bif_t hb.symm h
          intro b hb
          cases b with
          | true =>
            replace h := bif_t hb.symm h
            intro b hb
            cases b with
            | true =>
              replace h := bif_t hb.symm h
              obtain ⟨hq, h⟩ := req_out h
              refine And.intro hq ?_
              cases h
              exact (Le.forget _ ⟨rfl, trivial⟩)
            | false =>
              replace h := bif_f hb.symm h
              cases h
              exact (Le.forget _ ⟨rfl, trivial⟩)
          | false =>
            replace h := bif_f hb.symm h
            intro b hb
            subst hb
            cases h
            exact (Le.forget _ ⟨rfl, trivial⟩)
        | false =>
          replace h := bif_f hb.symm h
          intro b hb
          subst hb
          intro b hb
          subst hb
          cases h
          exact (Le.forget _ ⟨rfl, trivial⟩)
      | false =>
        replace h := bif_f hb.symm h
        intro b hb
        subst hb
        intro b hb
        subst hb
        intro b hb
        subst hb
        cases h
        exact (Le.forget _ ⟨rfl, trivial⟩)
    · show Tri _ _ _ _
      refine tri_le hle ?_
      refine tri_ret ?_
      have hy := Option.some.inj h
      subst hy
      unfold Gives
      exact ⟨_, Le.refl _ _, rfl, rfl⟩
  · replace h := bif_f hb h
    refine tri_skip ?_
    show Tri _ _ _ _
    refine tri_seq ?_
    refine tri_seq ?_
    refine tri_region (by exact tokW) (by exact gok) [] [] rfl ?_
    show Tri _ _ _ _
    refine tri_cond rfl (fun hb => ?_) (fun hb => ?_)
    · replace h := bif_t hb h
      refine tri_seq ?_
      refine tri_region (by exact tokW) (by exact gok) [] [] rfl ?_
      show Tri _ _ _ _
      refine tri_ret ?_
      have hy := Option.some.inj h
      subst hy
      unfold Gives
      exact ⟨_, Le.refl _ _, rfl, rfl⟩
    · replace h := bif_f hb h
      refine tri_skip ?_
      show Tri _ _ _ _
      refine tri_seq ?_
      refine tri_seq ?_
      refine tri_region (by exact tokW) (by exact gok) [] [] rfl ?_
      show Tri _ _ _ _
      obtain ⟨fl, hj, ho1⟩ := bind_out h
      refine tri_fl (fl := fl) (fun z => match z with | _ => ⟨ofL [], fun _ => none, 0⟩) ?_ (fun z σ' hz hle => ?_)
      · replace h := hj
        refine tri_block ?_
        refine tri_seq ?_
        refine tri_region (by exact tokW) (by exact gok) [] [] rfl ?_
        show Tri _ _ _ _
        refine tri_cond rfl (fun hb => ?_) (fun hb => ?_)
        · replace h := bif_t hb h
          refine tri_seq ?_
          refine tri_region (by exact tokW) (by exact gok) [] [] rfl ?_
          show Tri _ _ _ _
          refine tri_ret ?_
          cases h
          replace h : some _ = some _ := ho1
          have hy := Option.some.inj h
          subst hy
          unfold Gives
          exact ⟨_, Le.refl _ _, rfl, rfl⟩
        · replace h := bif_f hb h
          refine tri_seq ?_
          refine tri_seq ?_
          refine tri_region (by exact tokW) (by exact gok) [] [] rfl ?_
          show Tri _ _ _ _
          obtain ⟨x4, hj, h⟩ := bind_out h
          refine tri_post ⟨ofL [(3, .s (.int .i64 (n1_kids.length : Int))), (37, .s (.int .i64 n1_kind)), (42, .s (.bool x4))], fun _ => none, 0⟩ ?_ (fun σ' hle => ?_)
          · replace h := hj
            refine tri_cond rfl (fun hb => ?_) (fun hb => ?_)
            · replace h := bif_t hb h
              refine tri_skip ?_
              cases h
              exact (Le.forget _ ⟨rfl, rfl, rfl, trivial⟩)
            · replace h := bif_f hb h
              refine tri_seq ?_
              refine tri_region (by exact tokW) (by exact gok) [] [] rfl ?_
              show Tri _ _ _ _
              refine tri_cond rfl (fun hb => ?_) (fun hb => ?_)
              · replace h := bif_t hb h
                refine tri_skip ?_
                cases h
                exact (Le.forget _ ⟨rfl, rfl, rfl, trivial⟩)
              · replace h := bif_f hb h
                refine tri_region (by exact tokW) (by exact gok) [] [] rfl ?_
                cases h
                exact (Le.forget _ ⟨rfl, rfl, rfl, trivial⟩)
          · show Tri _ _ _ _
            refine tri_le hle ?_
            refine tri_cond rfl (fun hb => ?_) (fun hb => ?_)
            · replace h := bif_t hb h
              refine tri_seq ?_
              refine tri_region (by exact tokW) (by exact gok) [] [] rfl ?_
              show Tri _ _ _ _
              refine tri_ret ?_
              cases h
              replace h : some _ = some _ := ho1
              have hy := Option.some.inj h
              subst hy
              unfold Gives
              exact ⟨_, Le.refl _ _, rfl, rfl⟩
            · replace h := bif_f hb h
              refine tri_seq ?_
              refine tri_seq ?_
              refine tri_region (by exact tokW) (by exact gok) [] [] rfl ?_
              show Tri _ _ _ _
              obtain ⟨x5, hj, h⟩ := bind_out h
              refine tri_post ⟨ofL [(3, .s (.int .i64 (n1_kids.length : Int))), (37, .s (.int .i64 n1_kind)), (48, .s (.bool x5))], fun _ => none, 0⟩ ?_ (fun σ' hle => ?_)
              · replace h := hj
                refine tri_cond rfl (fun hb => ?_) (fun hb => ?_)
                · replace h := bif_t hb h
                  refine tri_skip ?_
                  cases h
                  exact (Le.forget _ ⟨rfl, rfl, rfl, trivial⟩)
                · replace h := bif_f hb h
                  refine tri_seq ?_
                  refine tri_region (by exact tokW) (by exact gok) [] [] rfl ?_
                  show Tri _ _ _ _
                  refine tri_cond rfl (fun hb => ?_) (fun hb => ?_)
                  · replace h := bif_t hb h
                    refine tri_skip ?_
                    cases h
                    exact (Le.forget _ ⟨rfl, rfl, rfl, trivial⟩)
                  · replace h := bif_f hb h
                    refine tri_seq ?_
                    refine tri_region (by exact tokW) (by exact gok) [] [] rfl ?_
                    show Tri _ _ _ _
                    refine tri_cond rfl (fun hb => ?_) (fun hb => ?_)
                    · replace h := bif_t hb h
                      refine tri_skip ?_
                      cases h
                      exact (Le.forget _ ⟨rfl, rfl, rfl, trivial⟩)
                    · replace h := bif_f hb h
                      refine tri_region (by exact tokW) (by exact gok) [] [] rfl ?_
                      cases h
                      exact (Le.forget _ ⟨rfl, rfl, rfl, trivial⟩)
              · show Tri _ _ _ _
                refine tri_le hle ?_
                refine tri_cond rfl (fun hb => ?_) (fun hb => ?_)
                · replace h := bif_t hb h
                  refine tri_seq ?_
                  refine tri_region (by exact tokW) (by exact gok) [] [] rfl ?_
                  show Tri _ _ _ _
                  refine tri_ret ?_
                  cases h
                  replace h : some _ = some _ := ho1
                  have hy := Option.some.inj h
                  subst hy
                  unfold Gives
                  exact ⟨_, Le.refl _ _, rfl, rfl⟩
                · replace h := bif_f hb h
                  refine tri_seq ?_
                  refine tri_region (by exact tokW) (by exact gok) [] [] rfl ?_
                  show Tri _ _ _ _
                  refine tri_cond rfl (fun hb => ?_) (fun hb => ?_)
                  · replace h := bif_t hb h
                    refine tri_seq ?_
                    refine tri_region (by exact tokW) (by exact gok) [] [] rfl ?_
                    show Tri _ _ _ _
                    refine tri_ret ?_
                    cases h
                    replace h : some _ = some _ := ho1
                    have hy := Option.some.inj h
                    subst hy
                    unfold Gives
                    exact ⟨_, Le.refl _ _, rfl, rfl⟩
                  · replace h := bif_f hb h
                    refine tri_seq ?_
                    refine tri_seq ?_
                    refine tri_region (by exact tokW) (by exact gok) [] [] rfl ?_
                    show Tri _ _ _ _
                    obtain ⟨x6, hj, h⟩ := bind_out h
                    refine tri_post ⟨ofL [(3, .s (.int .i64 (n1_kids.length : Int))), (59, .s (.bool x6))], fun _ => none, 0⟩ ?_ (fun σ' hle => ?_)
                    · replace h := hj
                      refine tri_cond rfl (fun hb => ?_) (fun hb => ?_)
                      · replace h := bif_t hb h
                        refine tri_skip ?_
                        cases h
                        exact (Le.forget _ ⟨rfl, rfl, trivial⟩)
                      · replace h := bif_f hb h
                        refine tri_region (by exact tokW) (by exact gok) [] [] rfl ?_
                        cases h
                        exact (Le.forget _ ⟨rfl, rfl, trivial⟩)
                    · show Tri _ _ _ _
                      refine tri_le hle ?_
                      refine tri_cond rfl (fun hb => ?_) (fun hb => ?_)
                      · replace h := bif_t hb h
                        refine tri_seq ?_
                        refine tri_region (by exact tokW) (by exact gok) [] [] rfl ?_
                        show Tri _ _ _ _
                        refine tri_ret ?_
                        cases h
                        replace h : some _ = some _ := ho1
                        have hy := Option.some.inj h
                        subst hy
                        unfold Gives
                        exact ⟨_, Le.refl _ _, rfl, rfl⟩
                      · replace h := bif_f hb h
                        refine tri_skip ?_
                        cases h
                        exact ⟨_, rfl, (Le.forget _ trivial)⟩
      · subst hz
        obtain _ := z
        replace h := ho1
        show Tri _ _ _ _
        refine tri_le hle ?_
        refine tri_seq ?_
        refine tri_region (by exact tokW) (by exact gok) [] [] rfl ?_
        show Tri _ _ _ _
        refine tri_ret ?_
        have hy := Option.some.inj h
        subst hy
        unfold Gives
        exact ⟨_, Le.refl _ _, rfl, rfl⟩

/- vinculum/vinculumref09.form -/
def R_r09_form (n : Nat) (xs : List AV) (r : Ret) : Prop := ∃ (a0 : Nd) (y0 : Bool), m_r09_form n a0 = some y0 ∧ xs = [.agg ((Nd.enc a0).map .s)] ∧ r = .val (.s (.bool y0))
set_option maxHeartbeats 2000000 in
set_option maxRecDepth 100000 in
theorem step_r09_form (n : Nat) (ih : PSound Tryd.prog 16 (pspec (R_r09_form n))) : PSound Tryd.prog 16 (pspec (R_r09_form (n + 1))) := by
  have gok : ∀ f s, look? f [(27, S_r09_text), (28, S_r09_kids), (16, pspec (R_r09_form n))] = some s → PSound Tryd.prog f s := look_all (by
    simp only [List.forall_mem_cons]
    exact ⟨ok_r09_text, ok_r09_kids, ih, by simp⟩)
  refine psound tokW Tryd.call16 Tryd.func16 rfl (fun xs r h => by obtain ⟨_, _, _, rfl, _⟩ := h; show 1 ≤ 39; decide) 39 rfl ?_
  rintro xs r w0 G0 ⟨⟨n1_kind, n1_text, n1_cols, n1_kids⟩, y0, h, rfl, rfl⟩ _
  rw [m_r09_form] at h
  refine tri_seq ?_
  refine tri_region (by exact tokW) (by exact gok) [] [] rfl ?_
  show Tri _ _ _ _
  refine tri_seq ?_
  refine tri_seq ?_
  obtain ⟨x2, hj, h⟩ := bind_out h
  refine tri_post ⟨ofL [(1, .s (.pt [.int .i64 n1_kind, .str n1_text, .int .i64 n1_cols, .sl 4 (Nd.encs n1_kids)])), (11, .s (.bool x2))], fun _ => none, 0⟩ ?_ (fun σ' hle => ?_)
  · replace h := hj
    refine tri_region (by exact tokW) (by exact gok) [] [7] rfl ?_
    obtain ⟨y3, hy3, h⟩ := bind_out h
    refine ⟨_, ⟨_, _, _, hy3, rfl, rfl⟩, ?_⟩
    intro b hb
    cases b with
    | true =>
      replace h := bif_t hb.symm h
      cases h
      exact (Le.forget _ ⟨rfl, rfl, trivial⟩)
    | false =>
      replace h := bif_f hb.symm h
      obtain ⟨y4, hy4, h⟩ := bind_out h
      refine ⟨_, ⟨_, _, hy4, rfl, rfl⟩, ?_⟩
      cases h
      exact (Le.forget _ ⟨rfl, rfl, trivial⟩)
  · show Tri _ _ _ _
    refine tri_le hle ?_
    refine tri_cond rfl (fun hb => ?_) (fun hb => ?_)
    · replace h := bif_t hb h
      refine tri_seq ?_
      refine tri_region (by exact tokW) (by exact gok) [] [] rfl ?_
      show Tri _ _ _ _
      refine tri_ret ?_
      have hy := Option.some.inj h
      subst hy
      unfold Gives
      exact ⟨_, Le.refl _ _, rfl, rfl⟩
    · replace h := bif_f hb h
      refine tri_skip ?_
      show Tri _ _ _ _
      refine tri_seq ?_
      refine tri_seq ?_
      refine tri_region (by exact tokW) (by exact gok) [] [] rfl ?_
      show Tri _ _ _ _
      obtain ⟨fl, hl, ho1⟩ := bind_out h
      refine tri_fl (fl := fl) (fun z => match z with | _ => ⟨ofL [], fun _ => none, 0⟩) ?_ (fun z σ' hz hle => ?_)
      · refine tri_block (tri_loopI (X := Nat × Int) (fun y => match y with | (k, i5) => ⟨ofL [(1, .s (.pt [.int .i64 n1_kind, .str n1_text, .int .i64 n1_cols, .sl 4 (Nd.encs n1_kids)])), (3, .s (.int .i64 i5))], fun _ => none, 0⟩) (fun y => m_r09_form_l1 (m_r09_form n) n1_kind n1_kids y.1 y.2 = some fl) (fun y => y.1) (n, 0) hl ?_ ?_)
        · exact (Le.forget _ ⟨rfl, rfl, trivial⟩)
        · rintro ⟨k, i5⟩ h
          cases k with
          | zero => cases h
          | succ k =>
            replace h : m_r09_form_l1 (m_r09_form n) n1_kind n1_kids (k+1) i5 = some fl := h
            rw [m_r09_form_l1] at h
            refine tri_seq ?_
            refine tri_seq ?_
            refine tri_region (by exact tokW) (by exact gok) [] [15] rfl ?_
            intro n6 hn6
            obtain rfl : (n1_kids.length : Int) = n6 := (hn6.trans (congrArg (fun m : Nat => (m : Int)) (rlen Nd.encs_eq n1_kids))).symm
            show Tri _ _ _ _
            refine tri_cond rfl (fun hb => ?_) (fun hb => ?_)
            · replace h := bif_t hb h
              refine tri_skip ?_
              show Tri _ _ _ _
              refine tri_seq ?_
              refine tri_block ?_
              refine tri_seq ?_
              obtain ⟨x7, hj, h⟩ := bind_out h
              refine tri_post ⟨ofL [(1, .s (.pt [.int .i64 n1_kind, .str n1_text, .int .i64 n1_cols, .sl 4 (Nd.encs n1_kids)])), (3, .s (.int .i64 i5)), (38, .s (.bool x7))], fun _ => none, 0⟩ ?_ (fun σ' hle => ?_)
              · replace h := hj
                refine tri_drawn (by exact tokW) (by exact gok) (by exact mixed) [] [22, 30, 34] [] rfl (by decide +kernel) ?_
                obtain ⟨⟨e8_kind, e8_text, e8_cols, e8_kids⟩, he8, h⟩ := bind_out h
                refine And.intro (at_ok Nd.encs_eq he8).1 ?_
                intro r9 hr9
                obtain rfl : [.int .i64 e8_kind, .str e8_text, .int .i64 e8_cols, .sl 4 (Nd.encs e8_kids)] = r9 := (hr9.trans (at_ok Nd.encs_eq he8).2.1).symm
                intro b hb
                cases b with
                | true =>
                  replace h := bif_t hb.symm h
                  cases h
                  exact (Le.forget _ ⟨rfl, rfl, rfl, trivial⟩)
                | false =>
                  replace h := bif_f hb.symm h
                  obtain ⟨⟨e10_kind, e10_text, e10_cols, e10_kids⟩, he10, h⟩ := bind_out h
                  refine And.intro (at_ok Nd.encs_eq he10).1 ?_
                  intro r11 hr11
                  obtain rfl : [.int .i64 e10_kind, .str e10_text, .int .i64 e10_cols, .sl 4 (Nd.encs e10_kids)] = r11 := (hr11.trans (at_ok Nd.encs_eq he10).2.1).symm
                  obtain ⟨y12, hy12, h⟩ := bind_out h
                  refine ⟨_, ⟨_, _, hy12, rfl, rfl⟩, ?_⟩
                  cases h
                  exact (Le.forget _ ⟨rfl, rfl, rfl, trivial⟩)
              · show Tri _ _ _ _
                refine tri_le hle ?_
                refine tri_cond rfl (fun hb => ?_) (fun hb => ?_)
                · replace h := bif_t hb h
                  refine tri_seq ?_
                  refine tri_region (by exact tokW) (by exact gok) [] [] rfl ?_
                  show Tri _ _ _ _
                  refine tri_ret ?_
                  cases h
                  replace h : some _ = some _ := ho1
                  have hy := Option.some.inj h
                  subst hy
                  unfold Gives
                  exact ⟨_, Le.refl _ _, rfl, rfl⟩
                · replace h := bif_f hb h
                  refine tri_skip ?_
                  show Tri _ _ _ _
                  refine tri_region (by exact tokW) (by exact gok) [] [] rfl ?_
                  refine ⟨(k, IntKind.i64.wrap (i5 + 1)), h, (Le.forget _ ⟨rfl, rfl, trivial⟩), Nat.lt_succ_self k⟩
            · replace h := bif_f hb h
              refine tri_exit ?_
              cases h
              exact ⟨_, rfl, (Le.forget _ trivial)⟩
      · subst hz
        obtain _ := z
        replace h := ho1
        show Tri _ _ _ _
        refine tri_le hle ?_
        refine tri_seq ?_
        refine tri_region (by exact tokW) (by exact gok) [] [] rfl ?_
        show Tri _ _ _ _
        refine tri_ret ?_
        have hy := Option.some.inj h
        subst hy
        unfold Gives
        exact ⟨_, Le.refl _ _, rfl, rfl⟩
theorem all_r09_form : ∀ n, PSound Tryd.prog 16 (pspec (R_r09_form n)) := by
  intro n
  induction n with
  | zero => exact psound_none Tryd.call16 (fun xs r h => by obtain ⟨_, _, h, _⟩ := h; cases h)
  | succ n ih => exact step_r09_form n ih
def S_r09_form : PSpec := pspec fun xs r => ∃ n, R_r09_form n xs r
theorem ok_r09_form : PSound Tryd.prog 16 S_r09_form := psound_all all_r09_form

/- vinculum/vinculumref09.Count -/
def R_r09_Count (n : Nat) (xs : List AV) (r : Ret) : Prop := ∃ (a0 : Nd) (y0 : Int), m_r09_Count n a0 = some y0 ∧ xs = [.agg ((Nd.enc a0).map .s)] ∧ r = .val (.s (.int .i64 y0))
set_option maxHeartbeats 2000000 in
set_option maxRecDepth 100000 in
theorem step_r09_Count (n : Nat) (ih : PSound Tryd.prog 17 (pspec (R_r09_Count n))) : PSound Tryd.prog 17 (pspec (R_r09_Count (n + 1))) := by
  have gok : ∀ f s, look? f [(17, pspec (R_r09_Count n))] = some s → PSound Tryd.prog f s := look_all (by
    simp only [List.forall_mem_cons]
    exact ⟨ih, by simp⟩)
  refine psound tokW Tryd.call17 Tryd.func17 rfl (fun xs r h => by obtain ⟨_, _, _, rfl, _⟩ := h; show 1 ≤ 21; decide) 21 rfl ?_
  rintro xs r w0 G0 ⟨⟨n1_kind, n1_text, n1_cols, n1_kids⟩, y0, h, rfl, rfl⟩ _
  rw [m_r09_Count] at h
  refine tri_seq ?_
  refine tri_region (by exact tokW) (by exact gok) [] [] rfl ?_
  show Tri _ _ _ _
  refine tri_seq ?_
  refine tri_region (by exact tokW) (by exact gok) [] [] rfl ?_
  show Tri _ _ _ _
  refine tri_seq ?_
  refine tri_seq ?_
  refine tri_region (by exact tokW) (by exact gok) [] [] rfl ?_
  show Tri _ _ _ _
  obtain ⟨out4, hl, h⟩ := bind_out h
  refine tri_post ⟨ofL [(3, .s (.int .i64 out4))], fun _ => none, 0⟩ ?_ (fun σ' hle => ?_)
  · refine tri_block (tri_loopI (X := Nat × Int × Int) (fun y => match y with | (k, out2, i3) => ⟨ofL [(1, .s (.pt [.int .i64 n1_kind, .str n1_text, .int .i64 n1_cols, .sl 4 (Nd.encs n1_kids)])), (3, .s (.int .i64 out2)), (4, .s (.int .i64 i3))], fun _ => none, 0⟩) (fun y => m_r09_Count_l1 (m_r09_Count n) n1_kids y.1 y.2.1 y.2.2 = some out4) (fun y => y.1) (n, 1, 0) hl ?_ ?_)
    · exact (Le.forget _ ⟨rfl, rfl, rfl, trivial⟩)
    · rintro ⟨k, out2, i3⟩ h
      cases k with
      | zero => cases h
      | succ k =>
        replace h : m_r09_Count_l1 (m_r09_Count n) n1_kids (k+1) out2 i3 = some out4 := h
        rw [m_r09_Count_l1] at h
        refine tri_seq ?_
        refine tri_seq ?_
        refine tri_region (by exact tokW) (by exact gok) [] [8] rfl ?_
        intro n5 hn5
        obtain rfl : (n1_kids.length : Int) = n5 := (hn5.trans (congrArg (fun m : Nat => (m : Int)) (rlen Nd.encs_eq n1_kids))).symm
        show Tri _ _ _ _
        refine tri_cond rfl (fun hb => ?_) (fun hb => ?_)
        · replace h := bif_t hb h
          refine tri_skip ?_
          show Tri _ _ _ _
          refine tri_seq ?_
          refine tri_block ?_
          refine tri_region (by exact tokW) (by exact gok) [] [16] rfl ?_
          obtain ⟨⟨e6_kind, e6_text, e6_cols, e6_kids⟩, he6, h⟩ := bind_out h
          refine And.intro (at_ok Nd.encs_eq he6).1 ?_
          intro r7 hr7
          obtain rfl : [.int .i64 e6_kind, .str e6_text, .int .i64 e6_cols, .sl 4 (Nd.encs e6_kids)] = r7 := (hr7.trans (at_ok Nd.encs_eq he6).2.1).symm
          obtain ⟨y8, hy8, h⟩ := bind_out h
          refine ⟨_, ⟨_, _, hy8, rfl, rfl⟩, ?_⟩
          show Tri _ _ _ _
          refine tri_region (by exact tokW) (by exact gok) [] [] rfl ?_
          refine ⟨(k, IntKind.i64.wrap (out2 + y8), IntKind.i64.wrap (i3 + 1)), h, (Le.forget _ ⟨rfl, rfl, rfl, trivial⟩), Nat.lt_succ_self k⟩
        · replace h := bif_f hb h
          refine tri_exit ?_
          cases h
          exact (Le.forget _ ⟨rfl, trivial⟩)
  · show Tri _ _ _ _
    refine tri_le hle ?_
    refine tri_seq ?_
    refine tri_region (by exact tokW) (by exact gok) [] [] rfl ?_
    show Tri _ _ _ _
    refine tri_ret ?_
    have hy := Option.some.inj h
    subst hy
    unfold Gives
    exact ⟨_, Le.refl _ _, rfl, rfl⟩
theorem all_r09_Count : ∀ n, PSound Tryd.prog 17 (pspec (R_r09_Count n)) := by
  intro n
  induction n with
  | zero => exact psound_none Tryd.call17 (fun xs r h => by obtain ⟨_, _, h, _⟩ := h; cases h)
  | succ n ih => exact step_r09_Count n ih
def S_r09_Count : PSpec := pspec fun xs r => ∃ n, R_r09_Count n xs r
theorem ok_r09_Count : PSound Tryd.prog 17 S_r09_Count := psound_all all_r09_Count

/- vinculum/vinculumref09.Depth -/
def R_r09_Depth (n : Nat) (xs : List AV) (r : Ret) : Prop := ∃ (a0 : Nd) (y0 : Int), m_r09_Depth n a0 = some y0 ∧ xs = [.agg ((Nd.enc a0).map .s)] ∧ r = .val (.s (.int .i64 y0))
set_option maxHeartbeats 2000000 in
set_option maxRecDepth 100000 in
theorem step_r09_Depth (n : Nat) (ih : PSound Tryd.prog 18 (pspec (R_r09_Depth n))) : PSound Tryd.prog 18 (pspec (R_r09_Depth (n + 1))) := by
  have gok : ∀ f s, look? f [(18, pspec (R_r09_Depth n))] = some s → PSound Tryd.prog f s := look_all (by
    simp only [List.forall_mem_cons]
    exact ⟨ih, by simp⟩)
  refine psound tokW Tryd.call18 Tryd.func18 rfl (fun xs r h => by obtain ⟨_, _, _, rfl, _⟩ := h; show 1 ≤ 22; decide) 22 rfl ?_
  rintro xs r w0 G0 ⟨⟨n1_kind, n1_text, n1_cols, n1_kids⟩, y0, h, rfl, rfl⟩ _
  rw [m_r09_Depth] at h
  refine tri_seq ?_
  refine tri_region (by exact tokW) (by exact gok) [] [] rfl ?_
  show Tri _ _ _ _
  refine tri_seq ?_
  refine tri_region (by exact tokW) (by exact gok) [] [] rfl ?_
  show Tri _ _ _ _
  refine tri_seq ?_
  refine tri_seq ?_
  refine tri_region (by exact tokW) (by exact gok) [] [] rfl ?_
  show Tri _ _ _ _
  obtain ⟨out4, hl, h⟩ := bind_out h
  refine tri_post ⟨ofL [(3, .s (.int .i64 out4))], fun _ => none, 0⟩ ?_ (fun σ' hle => ?_)
  · refine tri_block (tri_loopI (X := Nat × Int × Int) (fun y => match y with | (k, out2, i3) => ⟨ofL [(1, .s (.pt [.int .i64 n1_kind, .str n1_text, .int .i64 n1_cols, .sl 4 (Nd.encs n1_kids)])), (3, .s (.int .i64 out2)), (4, .s (.int .i64 i3))], fun _ => none, 0⟩) (fun y => m_r09_Depth_l1 (m_r09_Depth n) n1_kids y.1 y.2.1 y.2.2 = some out4) (fun y => y.1) (n, 0, 0) hl ?_ ?_)
    · exact (Le.forget _ ⟨rfl, rfl, rfl, trivial⟩)
    · rintro ⟨k, out2, i3⟩ h
      cases k with
      | zero => cases h
      | succ k =>
        replace h : m_r09_Depth_l1 (m_r09_Depth n) n1_kids (k+1) out2 i3 = some out4 := h
        rw [m_r09_Depth_l1] at h
        refine tri_seq ?_
        refine tri_seq ?_
        refine tri_region (by exact tokW) (by exact gok) [] [8] rfl ?_
        intro n5 hn5
        obtain rfl : (n1_kids.length : Int) = n5 := (hn5.trans (congrArg (fun m : Nat => (m : Int)) (rlen Nd.encs_eq n1_kids))).symm
        show Tri _ _ _ _
        refine tri_cond rfl (fun hb => ?_) (fun hb => ?_)
        · replace h := bif_t hb h
          refine tri_skip ?_
          show Tri _ _ _ _
          refine tri_seq ?_
          refine tri_block ?_
          refine tri_region (by exact tokW) (by exact gok) [] [16] rfl ?_
          obtain ⟨⟨e6_kind, e6_text, e6_cols, e6_kids⟩, he6, h⟩ := bind_out h
          refine And.intro (at_ok Nd.encs_eq he6).1 ?_
          intro r7 hr7
          obtain rfl : [.int .i64 e6_kind, .str e6_text, .int .i64 e6_cols, .sl 4 (Nd.encs e6_kids)] = r7 := (hr7.trans (at_ok Nd.encs_eq he6).2.1).symm
          obtain ⟨y8, hy8, h⟩ := bind_out h
          refine ⟨_, ⟨_, _, hy8, rfl, rfl⟩, ?_⟩
          show Tri _ _ _ _
          refine tri_region (by exact tokW) (by exact gok) [] [] rfl ?_
          refine ⟨(k, (if out2 < y8 then y8 else out2), IntKind.i64.wrap (i3 + 1)), h, (Le.forget _ ⟨rfl, rfl, rfl, trivial⟩), Nat.lt_succ_self k⟩
        · replace h := bif_f hb h
          refine tri_exit ?_
          cases h
          exact (Le.forget _ ⟨rfl, trivial⟩)
  · show Tri _ _ _ _
    refine tri_le hle ?_
    refine tri_seq ?_
    refine tri_region (by exact tokW) (by exact gok) [] [] rfl ?_
    show Tri _ _ _ _
    refine tri_ret ?_
    have hy := Option.some.inj h
    subst hy
    unfold Gives
    exact ⟨_, Le.refl _ _, rfl, rfl⟩
theorem all_r09_Depth : ∀ n, PSound Tryd.prog 18 (pspec (R_r09_Depth n)) := by
  intro n
  induction n with
  | zero => exact psound_none Tryd.call18 (fun xs r h => by obtain ⟨_, _, h, _⟩ := h; cases h)
  | succ n ih => exact step_r09_Depth n ih
def S_r09_Depth : PSpec := pspec fun xs r => ∃ n, R_r09_Depth n xs r
theorem ok_r09_Depth : PSound Tryd.prog 18 S_r09_Depth := psound_all all_r09_Depth

/- vinculum/vinculumref09.Valid -/
def R_r09_Valid (n : Nat) (xs : List AV) (r : Ret) : Prop := ∃ (a0 : Nd) (y0 : Bool), m_r09_Valid n a0 = some y0 ∧ xs = [.agg ((Nd.enc a0).map .s)] ∧ r = .val (.s (.bool y0))
def S_r09_Valid : PSpec := pspec fun xs r => ∃ n, R_r09_Valid n xs r
set_option maxHeartbeats 2000000 in
set_option maxRecDepth 100000 in
theorem ok_r09_Valid : PSound Tryd.prog 8 S_r09_Valid := by
  have gok : ∀ f s, look? f [(16, S_r09_form), (17, S_r09_Count), (18, S_r09_Depth)] = some s → PSound Tryd.prog f s := look_all (by
    simp only [List.forall_mem_cons]
    exact ⟨ok_r09_form, ok_r09_Count, ok_r09_Depth, by simp⟩)
  refine psound tokW Tryd.call8 Tryd.func8 rfl (fun xs r h => by obtain ⟨n, _, _, _, rfl, _⟩ := h; show 1 ≤ 20; decide) 20 rfl ?_
  rintro xs r w0 G0 ⟨n, ⟨n1_kind, n1_text, n1_cols, n1_kids⟩, y0, h, rfl, rfl⟩ _
  rw [m_r09_Valid] at h
  refine tri_seq ?_
  refine tri_region (by exact tokW) (by exact gok) [] [] rfl ?_
  show Tri _ _ _ _
  refine tri_seq ?_
  obtain ⟨x2, hj, h⟩ := bind_out h
  refine tri_post ⟨ofL [(2, .s (.bool x2))], fun _ => none, 0⟩ ?_ (fun σ' hle => ?_)
  · replace h := hj
    refine tri_region (by exact tokW) (by exact gok) [] [6, 10, 15] rfl ?_
    intro b hb
    cases b with
    | true =>
      replace h := bif_t hb.symm h
      obtain ⟨y3, hy3, h⟩ := bind_out h
      refine ⟨_, ⟨_, _, _, hy3, rfl, rfl⟩, ?_⟩
      intro b hb
      cases b with
      | true =>
        replace h := bif_t hb.symm h
        obtain ⟨y4, hy4, h⟩ := bind_out h
        refine ⟨_, ⟨_, _, _, hy4, rfl, rfl⟩, ?_⟩
        intro b hb
        cases b with
        | true =>
          replace h := bif_t hb.symm h
          obtain ⟨y5, hy5, h⟩ := bind_out h
          refine ⟨_, ⟨_, _, _, hy5, rfl, rfl⟩, ?_⟩
          cases h
          exact (Le.forget _ ⟨rfl, trivial⟩)
        | false =>
          replace h := bif_f hb.symm h
          cases h
          exact (Le.forget _ ⟨rfl, trivial⟩)
      | false =>
        replace h := bif_f hb.symm h
        intro b hb
        subst hb
        cases h
        exact (Le.forget _ ⟨rfl, trivial⟩)
    | false =>
      replace h := bif_f hb.symm h
      intro b hb
      subst hb
      intro b hb
      subst hb
      cases h
      exact (Le.forget _ ⟨rfl, trivial⟩)
  · show Tri _ _ _ _
    refine tri_le hle ?_
    refine tri_ret ?_
    have hy := Option.some.inj h
    subst hy
    unfold Gives
    exact ⟨_, Le.refl _ _, rfl, rfl⟩

/- vinculum/vinculumref16.Alike -/
def R_r16_Alike (xs : List AV) (r : Ret) : Prop := ∃ (a0 : Nd) (a1 : Nd) (y0 : Bool), m_r16_Alike a0 a1 = some y0 ∧ xs = [.agg ((Nd.enc a0).map .s), .agg ((Nd.enc a1).map .s)] ∧ r = .val (.s (.bool y0))
def S_r16_Alike : PSpec := pspec fun xs r => R_r16_Alike xs r
set_option maxHeartbeats 2000000 in
set_option maxRecDepth 100000 in
theorem ok_r16_Alike : PSound Tryd.prog 20 S_r16_Alike := by
  have gok : ∀ (f : Nat) (s : PSpec), (fun _ => none : Nat → Option PSpec) f = some s → PSound Tryd.prog f s := fun _ _ h => by cases h
  refine psound tokW Tryd.call20 Tryd.func20 rfl (fun xs r h => by obtain ⟨_, _, _, _, rfl, _⟩ := h; show 2 ≤ 26; decide) 26 rfl ?_
  rintro xs r w0 G0 ⟨⟨x1_kind, x1_text, x1_cols, x1_kids⟩, ⟨y2_kind, y2_text, y2_cols, y2_kids⟩, y0, h, rfl, rfl⟩ _
  rw [m_r16_Alike] at h
  refine tri_seq ?_
  refine tri_region (by exact tokW) (by exact gok) [] [] rfl ?_
  show Tri _ _ _ _
  refine tri_seq ?_
  obtain ⟨x3, hj, h⟩ := bind_out h
  refine tri_post ⟨ofL [(4, .s (.bool x3))], fun _ => none, 0⟩ ?_ (fun σ' hle => ?_)
  · replace h := hj
    refine tri_region (by exact tokW) (by exact gok) [] [10, 13, 16, 19] rfl ?_
    intro b hb
    cases b with
    | true =>
      replace h := bif_t hb.symm h
      intro n4 hn4
      obtain rfl : (x1_kids.length : Int) = n4 := (hn4.trans (congrArg (fun m : Nat => (m : Int)) (rlen Nd.encs_eq x1_kids))).symm
      intro n5 hn5
      obtain rfl : (y2_kids.length : Int) = n5 := (hn5.trans (congrArg (fun m : Nat => (m : Int)) (rlen Nd.encs_eq y2_kids))).symm
      intro b hb
      cases b with
      | true =>
        replace h := bif_t hb.symm h
        cases h
        exact (Le.forget _ ⟨rfl, trivial⟩)
      | false =>
        replace h := bif_f hb.symm h
        cases h
        exact (Le.forget _ ⟨rfl, trivial⟩)
    | false =>
      replace h := bif_f hb.symm h
      intro b hb
      subst hb
      cases h
      exact (Le.forget _ ⟨rfl, trivial⟩)
  · show Tri _ _ _ _
    refine tri_le hle ?_
    refine tri_ret ?_
    have hy := Option.some.inj h
    subst hy
    unfold Gives
    exact ⟨_, Le.refl _ _, rfl, rfl⟩

/- a knot: vinculum/vinculumref16.pair, vinculum/vinculumref16.table -/
theorem loadS_int {l : List Int} {j : Nat} {v : Int} (h : l[j]? = some v) : loadS TW 3 (((l.map (irow .i64)).getD j []).drop 0) = some (.s (.int .i64 v)) := by
  rw [ints_get h]; rfl
theorem tlast_len {C : Nd → Option Int} : ∀ {ys : List Nd} {r : List Int}, m_r16_table_last C ys = some r → r.length = ys.length + 1
  | [], r, h => by simp only [m_r16_table_last, Option.some.injEq] at h; subst h; rfl
  | y :: ys, r, h => by
    simp only [m_r16_table_last] at h
    obtain ⟨q, hq, h⟩ := bind_out h
    obtain ⟨c, hc, h⟩ := bind_out h
    cases h
    simp [tlast_len hq]
theorem tlast_drop {C : Nd → Option Int} : ∀ {ys : List Nd} {r : List Int}, m_r16_table_last C ys = some r → ∀ j, j ≤ ys.length → ∃ q, m_r16_table_last C (ys.drop j) = some q
  | ys, r, h, 0, _ => ⟨r, h⟩
  | [], _, _, j + 1, hj => by simp at hj
  | y :: ys, r, h, j + 1, hj => by
    simp only [m_r16_table_last] at h
    obtain ⟨q, hq, _⟩ := bind_out h
    exact tlast_drop hq j (by simpa using hj)
theorem tlast_of {C : Nd → Option Int} {A : Nd → Nd → Option Bool} {Q : Nd → Nd → Option Int} {b : List Nd} : ∀ {xs : List Nd} {p : List (List Int)}, m_r16_table_rows C A Q b xs = some p → ∃ r, m_r16_table_last C b = some r
  | [], p, h => by
    simp only [m_r16_table_rows] at h
    obtain ⟨r, hr, _⟩ := bind_out h
    exact ⟨r, hr⟩
  | x :: xs, p, h => by
    simp only [m_r16_table_rows] at h
    obtain ⟨q, hq, _⟩ := bind_out h
    exact tlast_of hq
theorem trows_len {C : Nd → Option Int} {A : Nd → Nd → Option Bool} {Q : Nd → Nd → Option Int} {b : List Nd} : ∀ {xs : List Nd} {p : List (List Int)}, m_r16_table_rows C A Q b xs = some p → p.length = xs.length + 1
  | [], p, h => by
    simp only [m_r16_table_rows] at h
    obtain ⟨r, hr, h⟩ := bind_out h
    cases h; rfl
  | x :: xs, p, h => by
    simp only [m_r16_table_rows] at h
    obtain ⟨q, hq, h⟩ := bind_out h
    obtain ⟨c, hc, h⟩ := bind_out h
    have := trows_len hq
    cases q with
    | nil => cases h
    | cons r1 q =>
      dsimp only at h
      obtain ⟨r, hr, h⟩ := bind_out h
      cases h
      simp only [List.length_cons] at this ⊢
      omega
theorem trows_drop {C : Nd → Option Int} {A : Nd → Nd → Option Bool} {Q : Nd → Nd → Option Int} {b : List Nd} : ∀ {xs : List Nd} {p : List (List Int)}, m_r16_table_rows C A Q b xs = some p → ∀ i, i ≤ xs.length → ∃ q, m_r16_table_rows C A Q b (xs.drop i) = some q
  | xs, p, h, 0, _ => ⟨p, h⟩
  | [], _, _, i + 1, hi => by simp at hi
  | x :: xs, p, h, i + 1, hi => by
    simp only [m_r16_table_rows] at h
    obtain ⟨q, hq, _⟩ := bind_out h
    exact trows_drop hq i (by simpa using hi)
theorem trow_len {C : Nd → Option Int} {A : Nd → Nd → Option Bool} {Q : Nd → Nd → Option Int} {x : Nd} {cx : Int} : ∀ {ys : List Nd} {vs r : List Int}, m_r16_table_row C A Q x cx ys vs = some r → vs.length = ys.length + 1 ∧ r.length = ys.length + 1
  | [], [v], r, h => by simp only [m_r16_table_row, Option.some.injEq] at h; subst h; simp
  | y :: ys, v :: v2 :: vs, r, h => by
    simp only [m_r16_table_row] at h
    obtain ⟨q, hq, h⟩ := bind_out h
    obtain ⟨c, hc, h⟩ := bind_out h
    obtain ⟨al, hal, h⟩ := bind_out h
    have := trow_len hq
    cases al with
    | false => cases h; simp only [List.length_cons] at this ⊢; omega
    | true =>
      simp only [cond_true] at h
      obtain ⟨p, hp, h⟩ := bind_out h
      cases h; simp only [List.length_cons] at this ⊢; omega
  | [], [], _, h => by simp [m_r16_table_row] at h
  | [], _ :: _ :: _, _, h => by simp [m_r16_table_row] at h
  | _ :: _, [], _, h => by simp [m_r16_table_row] at h
  | _ :: _, [_], _, h => by simp [m_r16_table_row] at h
theorem trow_drop {C : Nd → Option Int} {A : Nd → Nd → Option Bool} {Q : Nd → Nd → Option Int} {x : Nd} {cx : Int} : ∀ {ys : List Nd} {vs r : List Int}, m_r16_table_row C A Q x cx ys vs = some r → ∀ j, j ≤ ys.length → ∃ q, m_r16_table_row C A Q x cx (ys.drop j) (vs.drop j) = some q
  | ys, vs, r, h, 0, _ => ⟨r, h⟩
  | y :: ys, v :: v2 :: vs, r, h, j + 1, hj => by
    simp only [m_r16_table_row] at h
    obtain ⟨q, hq, _⟩ := bind_out h
    exact trow_drop hq j (by simpa using hj)
  | [], _, _, _, j + 1, hj => by simp at hj
  | _ :: _, [], _, h, _ + 1, _ => by simp [m_r16_table_row] at h
  | _ :: _, [_], _, h, _ + 1, _ => by simp [m_r16_table_row] at h
def R_r16_pair (n : Nat) (xs : List AV) (r : Ret) : Prop := ∃ (a0 : Nd) (a1 : Nd) (y0 : Int), m_r16_pair n a0 a1 = some y0 ∧ xs = [.agg ((Nd.enc a0).map .s), .agg ((Nd.enc a1).map .s)] ∧ r = .val (.s (.int .i64 y0))
def R_r16_table (n : Nat) (xs : List AV) (r : Ret) : Prop := ∃ (a0 : List Nd) (a1 : List Nd) (y0 : List (List Int)), m_r16_table n a0 a1 = some y0 ∧ xs = [.s (.sl 4 (Nd.encs a0)), .s (.sl 4 (Nd.encs a1))] ∧ r = .val (.s (.sl 1 ((List.map enc_s_int) y0)))
set_option maxHeartbeats 2000000 in
set_option maxRecDepth 100000 in
theorem step_r16_pair (n : Nat) (ih_r16_pair : PSound Tryd.prog 21 (pspec (R_r16_pair n))) (ih_r16_table : PSound Tryd.prog 19 (pspec (R_r16_table n))) : PSound Tryd.prog 21 (pspec (R_r16_pair (n + 1))) := by
  have gok : ∀ f s, look? f [(19, pspec (R_r16_table n))] = some s → PSound Tryd.prog f s := look_all (by
    simp only [List.forall_mem_cons]
    exact ⟨ih_r16_table, by simp⟩)
  refine psound tokW Tryd.call21 Tryd.func21 rfl (fun xs r h => by obtain ⟨_, _, _, _, rfl, _⟩ := h; show 2 ≤ 39; decide) 39 rfl ?_
  rintro xs r w0 G0 ⟨⟨x1_kind, x1_text, x1_cols, x1_kids⟩, ⟨y2_kind, y2_text, y2_cols, y2_kids⟩, y0, h, rfl, rfl⟩ _
  rw [m_r16_pair] at h
  refine tri_seq ?_
  refine tri_region (by exact tokW) (by exact gok) [] [] rfl ?_
  show Tri _ _ _ _
  refine tri_seq ?_
  refine tri_region (by exact tokW) (by exact gok) [] [] rfl ?_
  show Tri _ _ _ _
  refine tri_seq ?_
  refine tri_seq ?_
  refine tri_region (by exact tokW) (by exact gok) [] [] rfl ?_
  show Tri _ _ _ _
  obtain ⟨n3, hj, h⟩ := bind_out h
  refine tri_post ⟨ofL [(2, .s (.pt [.int .i64 x1_kind, .str x1_text, .int .i64 x1_cols, .sl 4 (Nd.encs x1_kids)])), (3, .s (.pt [.int .i64 y2_kind, .str y2_text, .int .i64 y2_cols, .sl 4 (Nd.encs y2_kids)])), (5, .s (.int .i64 n3))], fun _ => none, 0⟩ ?_ (fun σ' hle => ?_)
  · replace h := hj
    refine tri_cond rfl (fun hb => ?_) (fun hb => ?_)
    · replace h := bif_t hb h
      refine tri_region (by exact tokW) (by exact gok) [] [] rfl ?_
      cases h
      exact (Le.forget _ ⟨rfl, rfl, rfl, trivial⟩)
    · replace h := bif_f hb h
      refine tri_skip ?_
      cases h
      exact (Le.forget _ ⟨rfl, rfl, rfl, trivial⟩)
  · show Tri _ _ _ _
    refine tri_le hle ?_
    refine tri_seq ?_
    refine tri_seq ?_
    refine tri_region (by exact tokW) (by exact gok) [] [] rfl ?_
    show Tri _ _ _ _
    obtain ⟨n6, hl, h⟩ := bind_out h
    refine tri_post ⟨ofL [(5, .s (.int .i64 n6))], fun _ => none, 0⟩ ?_ (fun σ' hle => ?_)
    · refine tri_block (tri_loopI (X := Nat × Int × Int) (fun y => match y with | (k, n4, i5) => ⟨ofL [(2, .s (.pt [.int .i64 x1_kind, .str x1_text, .int .i64 x1_cols, .sl 4 (Nd.encs x1_kids)])), (3, .s (.pt [.int .i64 y2_kind, .str y2_text, .int .i64 y2_cols, .sl 4 (Nd.encs y2_kids)])), (5, .s (.int .i64 n4)), (6, .s (.int .i64 i5))], fun _ => none, 0⟩) (fun y => m_r16_pair_l1 (m_r16_table n) x1_kids y2_kids y.1 y.2.1 y.2.2 = some n6) (fun y => y.1) (n, n3, 0) hl ?_ ?_)
      · exact (Le.forget _ ⟨rfl, rfl, rfl, rfl, trivial⟩)
      · rintro ⟨k, n4, i5⟩ h
        cases k with
        | zero => cases h
        | succ k =>
          replace h : m_r16_pair_l1 (m_r16_table n) x1_kids y2_kids (k+1) n4 i5 = some n6 := h
          rw [m_r16_pair_l1] at h
          refine tri_seq ?_
          refine tri_seq ?_
          refine tri_region (by exact tokW) (by exact gok) [] [15] rfl ?_
          intro n7 hn7
          obtain rfl : (x1_kids.length : Int) = n7 := (hn7.trans (congrArg (fun m : Nat => (m : Int)) (rlen Nd.encs_eq x1_kids))).symm
          show Tri _ _ _ _
          refine tri_cond rfl (fun hb => ?_) (fun hb => ?_)
          · replace h := bif_t hb h
            refine tri_skip ?_
            show Tri _ _ _ _
            refine tri_seq ?_
            refine tri_block ?_
            refine tri_drawn (by exact tokW) (by exact gok) (by exact mixed) [] [23, 29, 33, 35] [] rfl (by decide +kernel) ?_
            obtain ⟨⟨e8_kind, e8_text, e8_cols, e8_kids⟩, he8, h⟩ := bind_out h
            refine And.intro (at_ok Nd.encs_eq he8).1 ?_
            intro r9 hr9
            obtain rfl : [.int .i64 e8_kind, .str e8_text, .int .i64 e8_cols, .sl 4 (Nd.encs e8_kids)] = r9 := (hr9.trans (at_ok Nd.encs_eq he8).2.1).symm
            obtain ⟨⟨e10_kind, e10_text, e10_cols, e10_kids⟩, he10, h⟩ := bind_out h
            refine And.intro (at_ok Nd.encs_eq he10).1 ?_
            intro r11 hr11
            obtain rfl : [.int .i64 e10_kind, .str e10_text, .int .i64 e10_cols, .sl 4 (Nd.encs e10_kids)] = r11 := (hr11.trans (at_ok Nd.encs_eq he10).2.1).symm
            obtain ⟨y12, hy12, h⟩ := bind_out h
            refine ⟨_, ⟨_, _, _, hy12, rfl, rfl⟩, ?_⟩
            obtain ⟨e13, he13, h⟩ := bind_out h
            refine And.intro (at_ok (fun _ => rfl) he13).1 ?_
            intro r14 hr14
            obtain rfl : [.sl 1 ((List.map (irow .i64)) e13)] = r14 := (hr14.trans (at_ok (fun _ => rfl) he13).2.1).symm
            obtain ⟨e15, he15, h⟩ := bind_out h
            refine And.intro (at_ok (fun _ => rfl) he15).1 ?_
            intro r16 hr16
            obtain rfl : [.int .i64 e15] = r16 := (hr16.trans (at_ok (fun _ => rfl) he15).2.1).symm
            show Tri _ _ _ _
            refine tri_region (by exact tokW) (by exact gok) [] [] rfl ?_
            refine ⟨(k, IntKind.i64.wrap (n4 + e15), IntKind.i64.wrap (i5 + 1)), h, (Le.forget _ ⟨rfl, rfl, rfl, rfl, trivial⟩), Nat.lt_succ_self k⟩
          · replace h := bif_f hb h
            refine tri_exit ?_
            cases h
            exact (Le.forget _ ⟨rfl, trivial⟩)
    · show Tri _ _ _ _
      refine tri_le hle ?_
      refine tri_seq ?_
      refine tri_region (by exact tokW) (by exact gok) [] [] rfl ?_
      show Tri _ _ _ _
      refine tri_ret ?_
      have hy := Option.some.inj h
      subst hy
      unfold Gives
      exact ⟨_, Le.refl _ _, rfl, rfl⟩
set_option maxHeartbeats 2000000 in
set_option maxRecDepth 100000 in
theorem step_r16_table (n : Nat) (ih_r16_pair : PSound Tryd.prog 21 (pspec (R_r16_pair n))) (ih_r16_table : PSound Tryd.prog 19 (pspec (R_r16_table n))) : PSound Tryd.prog 19 (pspec (R_r16_table (n + 1))) := by
  have gok : ∀ f s, look? f [(17, S_r09_Count), (20, S_r16_Alike), (21, pspec (R_r16_pair n))] = some s → PSound Tryd.prog f s := look_all (by
    simp only [List.forall_mem_cons]
    exact ⟨ok_r09_Count, ok_r16_Alike, ih_r16_pair, by simp⟩)
  refine psound tokW Tryd.call19 Tryd.func19 rfl (fun xs r h => by obtain ⟨_, _, _, _, rfl, _⟩ := h; show 2 ≤ 144; decide) 144 rfl ?_
  rintro xs r w0 G0 ⟨a, b, y0, h, rfl, rfl⟩ _
  rw [m_r16_table] at h
  obtain ⟨hlen, h⟩ := req_out h
  refine tri_seq ?_
  refine tri_region (by exact tokW) (by exact gok) [] [] rfl ?_
  show Tri _ _ _ _
  refine tri_seq ?_
  refine tri_region (by exact tokW) (by exact gok) [14] [12, 13] rfl ?_
  intro n1 hn1
  obtain rfl : (a.length : Int) = n1 := (hn1.trans (congrArg (fun m : Nat => (m : Int)) (rlen Nd.encs_eq a))).symm
  intro n2 hn2
  obtain rfl : ((a.length + 1 : Nat) : Int) = n2 := (hn2.trans (wi_succ (by omega))).symm
  refine And.intro (show 0 ≤ _ ∧ _ from ⟨by omega, Int.le_refl _, show ((a.length + 1 : Nat) : Int) * ((24 : Nat) : Int) ≤ 281474976710656 by omega, by omega⟩) ?_
  show Tri _ _ _ _
  refine tri_seq ?_
  refine tri_seq ?_
  refine tri_region (by exact tokW) (by exact gok) [] [16] rfl ?_
  intro n2 hn2
  obtain rfl : ((a.length + 1 : Nat) : Int) = n2 := (hn2.trans (congrArg (fun m : Nat => (m : Int)) (by simp))).symm
  show Tri _ _ _ _
  refine tri_post ⟨ofL [(0, .s (.sl 4 (Nd.encs a))), (1, .s (.sl 4 (Nd.encs b))), (5, .orow 0)], tabHp 42 (okeys (a.length + 1)) (ddyn 3 (a.length + 1) (List.replicate (b.length + 1) 0) []), a.length + 2⟩ ?_ (fun σ' hle => ?_)
  · refine tri_block (tri_loopI (X := Nat) (fun t => ⟨ofL [(0, .s (.sl 4 (Nd.encs a))), (1, .s (.sl 4 (Nd.encs b))), (5, .orow 0), (16, .s (.int .i64 ((a.length + 1 : Nat) : Int))), (17, .s (.int .i64 (t : Int)))], tabHp 42 (okeys t ++ nils (a.length + 1 - t)) (ddyn 3 t (List.replicate (b.length + 1) 0) []), t + 1⟩) (fun t => t ≤ a.length + 1) (fun t => a.length + 1 - t) 0 (Nat.zero_le _) ?_ ?_)
    · refine Le.trans (Le.toA 0 rfl) (Le.forgetH _ _ 1 ⟨rfl, rfl, rfl, rfl, rfl, trivial⟩ (fun k => ?_) rfl)
      cases k with
      | zero =>
        show some (Ob.arow _ 1 _) = some (Ob.arow _ 1 _)
        refine congrArg some (congrArg (Ob.arow _ 1) ?_)
        exact (toA_nils (a.length + 1)).trans rfl
      | succ q => show none = ddyn _ 0 _ [] q; simp [ddyn]
    · intro t ht
      refine tri_seq ?_
      refine tri_region (by exact tokW) (by exact gok) [] [18] rfl ?_
      intro b18 h18
      show Tri _ _ _ _
      refine tri_seq ?_
      refine tri_cond rfl (fun hb => ?_) (fun hb => ?_)
      · refine tri_skip ?_
        show Tri _ _ _ _
        have htl : t < a.length + 1 := by
          rw [h18] at hb
          have := of_decide_eq_true hb; omega
        obtain ⟨m, hm⟩ : ∃ m, a.length + 1 - t = m + 1 := ⟨a.length - t, by omega⟩
        rw [hm]
        refine tri_seq ?_
        refine tri_block ?_
        refine tri_seq ?_
        refine tri_region (by exact tokW) (by exact gok) [] [] rfl ?_
        show Tri _ _ _ _
        refine tri_region (by exact tokW) (by exact gok) [25] [23, 24] rfl ?_
        intro n1 hn1
        obtain rfl : (b.length : Int) = n1 := (hn1.trans (congrArg (fun m : Nat => (m : Int)) (rlen Nd.encs_eq b))).symm
        intro n2 hn2
        obtain rfl : ((b.length + 1 : Nat) : Int) = n2 := (hn2.trans (wi_succ (by omega))).symm
        refine And.intro (show 0 ≤ _ ∧ _ from ⟨by omega, Int.le_refl _, show ((b.length + 1 : Nat) : Int) * ((8 : Nat) : Int) ≤ 281474976710656 by omega, by omega⟩) ?_
        have hlt1 : t < (okeys t ++ nils (m + 1)).length := by simp [okeys, nils]
        refine And.intro ⟨Int.natCast_nonneg _, Int.ofNat_lt.2 hlt1⟩ ?_
        refine And.intro hlt1 ?_
        show Tri _ _ _ _
        refine tri_region (by exact tokW) (by exact gok) [] [] rfl ?_
        refine ⟨t + 1, by omega, Le.forgetH _ _ (t + 2) ⟨rfl, rfl, rfl, rfl, congrArg (fun z => AV.s (.int .i64 z)) (wi_succ (by omega)), trivial⟩ (fun k => ?_) rfl, by omega⟩
        cases k with
        | zero =>
          show some (Ob.arow _ 1 ((okeys t ++ nils (m + 1)).set t (((okeys t ++ nils (m + 1)).getD t []).take 0 ++ [AV.orow (t + 1)] ++ ((okeys t ++ nils (m + 1)).getD t []).drop 1))) = some (Ob.arow _ 1 _)
          rw [okeys_nil, show ([AV.s (S.sl 1 [])].take 0 ++ [AV.orow (t + 1)] ++ [AV.s (S.sl 1 [])].drop 1) = [AV.orow (t + 1)] from rfl, okeys_set, show a.length + 1 - (t + 1) = m by omega]
        | succ q =>
          show (bif Nat.beq (q + 1) (t + 1) then some (Ob.row 3 1 (List.replicate (b.length + 1) [S.int .i64 0])) else ddyn 3 t (List.replicate (b.length + 1) 0) [] q) = ddyn 3 (t + 1) (List.replicate (b.length + 1) 0) [] q
          have hz : List.replicate (b.length + 1) [S.int .i64 0] = (List.replicate (b.length + 1) 0).map (irow .i64) := by simp [irow]
          rw [hz]
          have hd : ∀ q, ddyn 3 t (List.replicate (b.length + 1) 0) [] q = if q < t then some (.row 3 1 ((List.replicate (b.length + 1) 0).map (irow .i64))) else none := fun q => by simp [ddyn]
          have hd' : ∀ q, ddyn 3 (t + 1) (List.replicate (b.length + 1) 0) [] q = if q < t + 1 then some (.row 3 1 ((List.replicate (b.length + 1) 0).map (irow .i64))) else none := fun q => by simp [ddyn]
          rw [hd, hd']
          cases e : Nat.beq (q + 1) (t + 1) with
          | true => have := Nat.eq_of_beq_eq_true e; rw [cond_true, if_pos (by omega)]
          | false =>
            have hne : q ≠ t := fun e' => by subst e'; rw [Nat.beq_refl] at e; cases e
            rw [cond_false]
            by_cases h2 : q < t
            · rw [if_pos h2, if_pos (by omega)]
            · rw [if_neg h2, if_neg (by omega)]
      · refine tri_exit ?_
        have htl : t = a.length + 1 := by
          rw [h18] at hb
          have := of_decide_eq_false hb; omega
        subst htl
        refine Le.forgetH _ _ _ ⟨rfl, rfl, rfl, trivial⟩ (fun k => ?_) rfl
        rw [Nat.sub_self]
        simp [nils]
        rfl
  · show Tri _ _ _ _
    refine tri_le hle ?_
    refine tri_seq ?_
    refine tri_seq ?_
    refine tri_region (by exact tokW) (by exact gok) [] [29] rfl ?_
    intro n1 hn1
    obtain rfl : (a.length : Int) = n1 := (hn1.trans (congrArg (fun m : Nat => (m : Int)) (rlen Nd.encs_eq a))).symm
    show Tri _ _ _ _
    refine tri_post ⟨ofL [(0, .s (.sl 4 (Nd.encs a))), (1, .s (.sl 4 (Nd.encs b))), (5, .orow 0)], tabHp 42 (okeys (a.length + 1)) (ddyn 3 0 (List.replicate (b.length + 1) 0) y0), a.length + 2⟩ ?_ (fun σ' hle => ?_)
    · refine tri_block (tri_loopI (X := Nat × List (List Int)) (fun y => match y with | (k, L) => ⟨ofL [(0, .s (.sl 4 (Nd.encs a))), (1, .s (.sl 4 (Nd.encs b))), (5, .orow 0), (7, .s (.int .i64 ((k : Int) - 1)))], tabHp 42 (okeys (a.length + 1)) (ddyn 3 k (List.replicate (b.length + 1) 0) L), a.length + 2⟩)
        (fun y => match y with | (k, L) => (k = a.length + 1 ∧ L = []) ∨ (k ≤ a.length ∧ m_r16_table_rows (m_r09_Count n) m_r16_Alike (m_r16_pair n) b (a.drop k) = some L)) (fun y => y.1) (a.length + 1, []) (.inl ⟨rfl, rfl⟩) ?_ ?_)
      · exact Le.forgetH _ _ _ ⟨rfl, rfl, rfl, congrArg (fun z => AV.s (.int .i64 z)) (by omega), trivial⟩ (fun k => rfl) rfl
      · rintro ⟨k, L⟩ hI
        refine tri_seq ?_
        refine tri_seq ?_
        refine tri_region (by exact tokW) (by exact gok) [] [31] rfl ?_
        intro b31 h31
        show Tri _ _ _ _
        refine tri_cond rfl (fun hb => ?_) (fun hb => ?_)
        · refine tri_skip ?_
          show Tri _ _ _ _
          have hk : 1 ≤ k := by
            rw [h31] at hb
            have := of_decide_eq_true hb; omega
          obtain ⟨i, rfl⟩ : ∃ i, k = i + 1 := ⟨k - 1, by omega⟩
          refine tri_le (Le.forgetH [(0, .s (.sl 4 (Nd.encs a))), (1, .s (.sl 4 (Nd.encs b))), (5, .orow 0), (7, .s (.int .i64 (i : Int)))] (tabHp 42 (okeys (a.length + 1)) (ddyn 3 i (List.replicate (b.length + 1) 0) ((List.replicate (b.length + 1) 0) :: L))) (a.length + 2) ⟨rfl, rfl, rfl, congrArg (fun z => AV.s (.int .i64 z)) (by omega), trivial⟩ (fun k => by cases k with | zero => rfl | succ q => exact ddyn_take q) rfl) ?_
          have hin1 : i < a.length + 1 := by rcases hI with h | h <;> omega
          have hltk : i < (okeys (a.length + 1)).length := by rw [okeys_len]; exact hin1
          have hgk : (okeys (a.length + 1)).getD i [] = [.orow (i + 1)] := okeys_get hin1
          refine tri_seq ?_
          refine tri_block ?_
          refine tri_seq ?_
          refine tri_region (by exact tokW) (by exact gok) [] [35] rfl ?_
          intro n1 hn1
          obtain rfl : (b.length : Int) = n1 := (hn1.trans (congrArg (fun m : Nat => (m : Int)) (rlen Nd.encs_eq b))).symm
          show Tri _ _ _ _
          rcases hI with ⟨hin, rfl⟩ | ⟨hin, hrows⟩
          · obtain rfl : i = a.length := by omega
            obtain ⟨rl, hrl⟩ := tlast_of h
            refine tri_post ⟨ofL [(0, .s (.sl 4 (Nd.encs a))), (1, .s (.sl 4 (Nd.encs b))), (5, .orow 0), (7, .s (.int .i64 (a.length : Int)))], tabHp 42 (okeys (a.length + 1)) (ddyn 3 a.length (List.replicate (b.length + 1) 0) [rl]), a.length + 2⟩ ?_ (fun σ' hle => ?_)
            · refine tri_block (tri_loopI (X := Nat × List Int) (fun y => match y with | (k, rd) => ⟨ofL [(0, .s (.sl 4 (Nd.encs a))), (1, .s (.sl 4 (Nd.encs b))), (5, .orow 0), (7, .s (.int .i64 (a.length : Int))), (8, .s (.int .i64 ((k : Int) - 1)))], tabHp 42 (okeys (a.length + 1)) (ddyn 3 a.length (List.replicate (b.length + 1) 0) [List.replicate k 0 ++ rd]), a.length + 2⟩)
                (fun y => match y with | (k, rd) => (k = b.length + 1 ∧ rd = []) ∨ (k ≤ b.length ∧ m_r16_table_last (m_r09_Count n) (b.drop k) = some rd)) (fun y => y.1) (b.length + 1, []) (.inl ⟨rfl, rfl⟩) ?_ ?_)
              · refine Le.forgetH _ _ _ ⟨rfl, rfl, rfl, rfl, congrArg (fun z => AV.s (.int .i64 z)) (by omega), trivial⟩ (fun k => ?_) rfl
                rw [List.append_nil]; rfl
              · rintro ⟨k, rd⟩ hI
                refine tri_seq ?_
                refine tri_seq ?_
                refine tri_region (by exact tokW) (by exact gok) [] [37] rfl ?_
                intro b37 h37
                show Tri _ _ _ _
                refine tri_cond rfl (fun hb => ?_) (fun hb => ?_)
                · refine tri_skip ?_
                  show Tri _ _ _ _
                  have hk : 1 ≤ k := by
                    rw [h37] at hb
                    have := of_decide_eq_true hb; omega
                  obtain ⟨j, rfl⟩ : ∃ j, k = j + 1 := ⟨k - 1, by omega⟩
                  refine tri_le (Le.forget [(0, .s (.sl 4 (Nd.encs a))), (1, .s (.sl 4 (Nd.encs b))), (5, .orow 0), (7, .s (.int .i64 (a.length : Int))), (8, .s (.int .i64 (j : Int)))] ⟨rfl, rfl, rfl, rfl, congrArg (fun z => AV.s (.int .i64 z)) (by omega), trivial⟩) ?_
                  have wj : IntKind.i64.wrap ((j : Int) - 1) = (j : Int) - 1 := wrap64_in (by omega) (by rcases hI with h | h <;> omega)
                  refine tri_seq ?_
                  refine tri_block ?_
                  refine tri_seq ?_
                  refine tri_seq ?_
                  refine tri_region (by exact tokW) (by exact gok) [] [42, 43, 47] rfl ?_
                  intro n1 hn1
                  obtain rfl : (a.length : Int) = n1 := (hn1.trans (congrArg (fun m : Nat => (m : Int)) (rlen Nd.encs_eq a))).symm
                  intro b1 hb1
                  obtain rfl : true = b1 := (hb1.trans (beq_self_eq_true _)).symm
                  intro n1 hn1
                  obtain rfl : (b.length : Int) = n1 := (hn1.trans (congrArg (fun m : Nat => (m : Int)) (rlen Nd.encs_eq b))).symm
                  show Tri _ _ _ _
                  refine tri_cond rfl (fun hb2 => ?_) (fun hb2 => ?_)
                  · refine tri_exit ?_
                    show Tri _ _ _ _
                    refine tri_region (by exact tokW) (by exact gok) [] [] rfl ?_
                    have hj : j = b.length := Int.ofNat.inj (eq_of_beq hb2)
                    refine ⟨(j, [0]), .inr ⟨by omega, by rw [hj, List.drop_length]; rfl⟩, Le.forgetH _ _ _ ⟨rfl, rfl, rfl, rfl, congrArg (fun z => AV.s (.int .i64 z)) wj, trivial⟩ (fun k => ?_) rfl, Nat.lt_succ_self j⟩
                    rcases hI with ⟨_, rfl⟩ | ⟨h, _⟩
                    · cases k with
                      | zero => rfl
                      | succ q =>
                        show ddyn 3 a.length (List.replicate (b.length + 1) 0) [List.replicate (j + 1) 0 ++ []] q = ddyn 3 a.length (List.replicate (b.length + 1) 0) [List.replicate j 0 ++ [0]] q
                        rw [show List.replicate (j + 1) (0 : Int) ++ [] = List.replicate j 0 ++ [0] by rw [List.append_nil, List.replicate_succ']]
                    · omega
                  · have hj : j ≠ b.length := fun e => by rw [e] at hb2; simp at hb2
                    obtain ⟨hj2, hd⟩ : j + 1 ≤ b.length ∧ m_r16_table_last (m_r09_Count n) (b.drop (j + 1)) = some rd := by
                      rcases hI with ⟨h, _⟩ | h
                      · omega
                      · exact h
                    obtain ⟨q, hq⟩ := tlast_drop hrl j (by omega)
                    have hqq := hq
                    have hy : b[j]? = some (b[j]'(by omega)) := List.getElem?_eq_getElem _
                    rw [List.drop_eq_getElem_cons (show j < b.length by omega)] at hq
                    generalize b[j]'(by omega) = y at hy hq
                    obtain ⟨yk, yt, yc, yks⟩ := y
                    simp only [m_r16_table_last, hd] at hq
                    obtain ⟨p0, hp0, hq⟩ := bind_out hq
                    cases hp0
                    obtain ⟨c, hc, hq⟩ := bind_out hq
                    have hrdl := tlast_len hd
                    cases rd with
                    | nil => simp at hrdl
                    | cons w ws =>
                    simp only [List.headD_cons, Option.some.injEq] at hq
                    refine tri_skip ?_
                    show Tri _ _ _ _
                    refine tri_seq ?_
                    refine tri_region (by exact tokW) (by exact gok) [] [] rfl ?_
                    show Tri _ _ _ _
                    refine tri_seq ?_
                    refine tri_seq ?_
                    refine tri_region (by exact tokW) (by exact gok) [] [52, 53] rfl ?_
                    intro n1 hn1
                    obtain rfl : (a.length : Int) = n1 := (hn1.trans (congrArg (fun m : Nat => (m : Int)) (rlen Nd.encs_eq a))).symm
                    intro b1 hb1
                    obtain rfl : false = b1 := (hb1.trans (decide_eq_false (Int.lt_irrefl _))).symm
                    show Tri _ _ _ _
                    refine tri_cond rfl (fun h => by cases h) (fun _ => ?_)
                    refine tri_skip ?_
                    show Tri _ _ _ _
                    refine tri_seq ?_
                    refine tri_seq ?_
                    refine tri_region (by exact tokW) (by exact gok) [] [70, 71] rfl ?_
                    intro n1 hn1
                    obtain rfl : (b.length : Int) = n1 := (hn1.trans (congrArg (fun m : Nat => (m : Int)) (rlen Nd.encs_eq b))).symm
                    intro b1 hb1
                    obtain rfl : true = b1 := (hb1.trans (decide_eq_true (by omega))).symm
                    show Tri _ _ _ _
                    refine tri_cond rfl (fun _ => ?_) (fun h => by cases h)
                    have g4 : (List.replicate (j + 1) 0 ++ w :: ws)[j + 1]? = some w := by simp [List.getElem?_append]
                    have hlt4 : j + 1 < (List.map (irow .i64) (List.replicate (j + 1) 0 ++ w :: ws)).length := by simp
                    have hlt4' : j < (List.map (irow .i64) (List.replicate (j + 1) 0 ++ w :: ws)).length := by simp; omega
                    refine tri_seq ?_
                    refine tri_drawn (by exact tokW) (by exact gok) (by exact mixed) [] [74, 82] [7, 8, 11, 12] rfl (by decide +kernel) ?_
                    refine And.intro ⟨Int.natCast_nonneg _, Int.ofNat_lt.2 (by rw [rlen Nd.encs_eq]; omega)⟩ ?_
                    intro r hr
                    obtain rfl : [.int .i64 yk, .str yt, .int .i64 yc, .sl 4 (Nd.encs yks)] = r := (hr.trans (encs_get hy)).symm
                    refine ⟨_, ⟨_, _, _, hc, rfl, rfl⟩, ?_⟩
                    refine And.intro ⟨Int.natCast_nonneg _, Int.ofNat_lt.2 hltk⟩ ?_
                    refine And.intro hltk ⟨_, hgk, ?_⟩
                    intro z hz
                    obtain rfl : ((j + 1 : Nat) : Int) = z := (hz.trans (wi_succ (by omega))).symm
                    refine evD_step rfl rfl rfl rfl rfl (s1_idx rfl rfl rfl rfl rfl rfl ddyn_head rfl) ⟨Int.natCast_nonneg _, Int.ofNat_lt.2 hlt4⟩ ?_
                    refine evD_ld rfl rfl rfl rfl rfl rfl ddyn_head hlt4 (loadS_int g4) ?_
                    show Tri _ _ _ _
                    refine tri_seq ?_
                    refine tri_region (by exact tokW) (by exact gok) [] [87] rfl ?_
                    intro b1 hb1
                    obtain rfl : true = b1 := (hb1.trans (by decide)).symm
                    show Tri _ _ _ _
                    refine tri_cond rfl (fun _ => ?_) (fun h => by cases h)
                    refine tri_region (by exact tokW) (by exact gok) [] [] rfl ?_
                    show Tri _ _ _ _
                    refine tri_seq ?_
                    refine tri_seq ?_
                    refine tri_drawn (by exact tokW) (by exact gok) (by exact mixed) [] [96, 97] [] rfl (by decide +kernel) ?_
                    intro n1 hn1
                    obtain rfl : (a.length : Int) = n1 := (hn1.trans (congrArg (fun m : Nat => (m : Int)) (rlen Nd.encs_eq a))).symm
                    intro b1 hb1
                    obtain rfl : false = b1 := (hb1.trans (decide_eq_false (Int.lt_irrefl _))).symm
                    show Tri _ _ _ _
                    refine tri_cond rfl (fun h => by cases h) (fun _ => ?_)
                    refine tri_skip ?_
                    show Tri _ _ _ _
                    refine tri_region (by exact tokW) (by exact gok) [] [141] rfl ?_
                    refine And.intro ⟨Int.natCast_nonneg _, Int.ofNat_lt.2 hltk⟩ ?_
                    refine And.intro hltk ⟨_, hgk, ?_⟩
                    intro z9 hz9
                    subst hz9
                    refine evOps_step rfl rfl rfl rfl rfl (s1_idx rfl rfl rfl rfl rfl rfl ddyn_head rfl) ⟨Int.natCast_nonneg _, Int.ofNat_lt.2 hlt4'⟩ ?_
                    refine evOps_step0 rfl rfl rfl (s1_store rfl rfl rfl rfl ddyn_head rfl rfl rfl) hlt4' ?_
                    show Tri _ _ _ _
                    refine tri_region (by exact tokW) (by exact gok) [] [] rfl ?_
                    refine ⟨(j, (IntKind.i64.wrap (c + w) :: w :: ws)), .inr ⟨by omega, by rw [hqq, ← hq]⟩, Le.forgetH _ _ _ ⟨rfl, rfl, rfl, rfl, congrArg (fun z => AV.s (.int .i64 z)) wj, trivial⟩ (fun k => ?_) rfl, Nat.lt_succ_self j⟩
                    cases k with
                    | zero => rfl
                    | succ q =>
                      show (bif Nat.beq (q + 1) (a.length + 1) then some (Ob.row 3 1 (((List.replicate (j + 1) 0 ++ w :: ws).map (irow .i64)).set j ((((List.replicate (j + 1) 0 ++ w :: ws).map (irow .i64)).getD j []).take 0 ++ [S.int .i64 (IntKind.i64.wrap (c + w))] ++ (((List.replicate (j + 1) 0 ++ w :: ws).map (irow .i64)).getD j []).drop (0 + 1)))) else ddyn 3 a.length (List.replicate (b.length + 1) 0) ((List.replicate (j + 1) 0 ++ w :: ws) :: []) q) = ddyn 3 a.length (List.replicate (b.length + 1) 0) ((List.replicate j 0 ++ (IntKind.i64.wrap (c + w) :: w :: ws)) :: []) q
                      rw [set_row (l := List.replicate (j + 1) 0 ++ w :: ws) (j := j) (v := 0) (x := IntKind.i64.wrap (c + w)) (by simp [List.getElem?_append]), set_zero]
                      exact ddyn_set q
                · refine tri_exit ?_
                  have hk : k = 0 := by
                    rw [h37] at hb
                    have := of_decide_eq_false hb; omega
                  subst hk
                  rcases hI with ⟨h1, _⟩ | ⟨_, h1⟩
                  · omega
                  · rw [List.drop_zero, hrl] at h1
                    cases h1
                    exact Le.forgetH _ _ _ ⟨rfl, rfl, rfl, rfl, trivial⟩ (fun k => rfl) rfl
            · show Tri _ _ _ _
              refine tri_le hle ?_
              refine tri_region (by exact tokW) (by exact gok) [] [] rfl ?_
              refine ⟨(a.length, [rl]), .inr ⟨Nat.le_refl _, by rw [List.drop_length]; simp [m_r16_table_rows, hrl]⟩, Le.forgetH _ _ _ ⟨rfl, rfl, rfl, congrArg (fun z => AV.s (.int .i64 z)) (wrap64_in (by omega) (by omega)), trivial⟩ (fun k => rfl) rfl, Nat.lt_succ_self _⟩
          · obtain ⟨q, hq⟩ := trows_drop h i (by omega)
            have ha : a[i]? = some (a[i]'(by omega)) := List.getElem?_eq_getElem _
            have hq0 := hq
            rw [List.drop_eq_getElem_cons (show i < a.length by omega)] at hq
            generalize a[i]'(by omega) = x at ha hq
            simp only [m_r16_table_rows, hrows] at hq
            obtain ⟨p0, hp0, hq⟩ := bind_out hq
            cases hp0
            obtain ⟨cx, hcx, hq⟩ := bind_out hq
            cases L with
            | nil => cases hq
            | cons r1 L =>
            dsimp only at hq
            obtain ⟨rr, hrow, hq⟩ := bind_out hq
            simp only [Option.some.injEq] at hq
            subst hq
            have hrl := trow_len hrow
            have hlt2k : i + 1 < (okeys (a.length + 1)).length := by rw [okeys_len]; omega
            have hgk2 : (okeys (a.length + 1)).getD (i + 1) [] = [.orow (i + 2)] := okeys_get (by omega)
            have hne : ((i : Int) == (a.length : Int)) = false := by
              cases e : ((i : Int) == (a.length : Int)) with
              | false => rfl
              | true => have := eq_of_beq e; omega
            refine tri_post ⟨ofL [(0, .s (.sl 4 (Nd.encs a))), (1, .s (.sl 4 (Nd.encs b))), (5, .orow 0), (7, .s (.int .i64 (i : Int)))], tabHp 42 (okeys (a.length + 1)) (ddyn 3 i (List.replicate (b.length + 1) 0) (rr :: r1 :: L)), a.length + 2⟩ ?_ (fun σ' hle => ?_)
            · obtain ⟨xk, xt, xc, xks⟩ := x
              refine tri_block (tri_loopI (X := Nat × List Int) (fun y => match y with | (k, rd) => ⟨ofL [(0, .s (.sl 4 (Nd.encs a))), (1, .s (.sl 4 (Nd.encs b))), (5, .orow 0), (7, .s (.int .i64 (i : Int))), (8, .s (.int .i64 ((k : Int) - 1)))], tabHp 42 (okeys (a.length + 1)) (ddyn 3 i (List.replicate (b.length + 1) 0) ((List.replicate k 0 ++ rd) :: r1 :: L)), a.length + 2⟩)
                (fun y => match y with | (k, rd) => (k = b.length + 1 ∧ rd = []) ∨ (k ≤ b.length ∧ m_r16_table_row (m_r09_Count n) m_r16_Alike (m_r16_pair n) ⟨xk, xt, xc, xks⟩ cx (b.drop k) (r1.drop k) = some rd)) (fun y => y.1) (b.length + 1, []) (.inl ⟨rfl, rfl⟩) ?_ ?_)
              · refine Le.forgetH _ _ _ ⟨rfl, rfl, rfl, rfl, congrArg (fun z => AV.s (.int .i64 z)) (by omega), trivial⟩ (fun k => ?_) rfl
                rw [List.append_nil]; rfl
              · rintro ⟨k, rd⟩ hI
                refine tri_seq ?_
                refine tri_seq ?_
                refine tri_region (by exact tokW) (by exact gok) [] [37] rfl ?_
                intro b37 h37
                show Tri _ _ _ _
                refine tri_cond rfl (fun hb => ?_) (fun hb => ?_)
                · refine tri_skip ?_
                  show Tri _ _ _ _
                  have hk : 1 ≤ k := by
                    rw [h37] at hb
                    have := of_decide_eq_true hb; omega
                  obtain ⟨j, rfl⟩ : ∃ j, k = j + 1 := ⟨k - 1, by omega⟩
                  refine tri_le (Le.forget [(0, .s (.sl 4 (Nd.encs a))), (1, .s (.sl 4 (Nd.encs b))), (5, .orow 0), (7, .s (.int .i64 (i : Int))), (8, .s (.int .i64 (j : Int)))] ⟨rfl, rfl, rfl, rfl, congrArg (fun z => AV.s (.int .i64 z)) (by omega), trivial⟩) ?_
                  have wj : IntKind.i64.wrap ((j : Int) - 1) = (j : Int) - 1 := wrap64_in (by omega) (by rcases hI with h | h <;> omega)
                  refine tri_seq ?_
                  refine tri_block ?_
                  refine tri_seq ?_
                  refine tri_seq ?_
                  refine tri_region (by exact tokW) (by exact gok) [] [42, 43] rfl ?_
                  intro n1 hn1
                  obtain rfl : (a.length : Int) = n1 := (hn1.trans (congrArg (fun m : Nat => (m : Int)) (rlen Nd.encs_eq a))).symm
                  intro b1 hb1
                  obtain rfl : false = b1 := (hb1.trans hne).symm
                  show Tri _ _ _ _
                  refine tri_cond rfl (fun hb2 => by cases hb2) (fun _ => ?_)
                  refine tri_skip ?_
                  show Tri _ _ _ _
                  have hjb : j ≤ b.length := by rcases hI with h | h <;> omega
                  obtain ⟨q, hq⟩ := trow_drop hrow j hjb
                  have hqq := hq
                  have hv : r1[j]? = some (r1[j]'(by omega)) := List.getElem?_eq_getElem _
                  rw [List.drop_eq_getElem_cons (show j < r1.length by omega)] at hq
                  generalize r1[j]'(by omega) = v at hv hq
                  have hltr : j < (List.map (irow .i64) r1).length := by simp; omega
                  have hlt4 : ∀ l : List Int, j < (List.map (irow .i64) (List.replicate (j + 1) 0 ++ l)).length := fun l => by simp; omega
                  refine tri_seq ?_
                  refine tri_region (by exact tokW) (by exact gok) [] [] rfl ?_
                  show Tri _ _ _ _
                  refine tri_seq ?_
                  refine tri_seq ?_
                  refine tri_region (by exact tokW) (by exact gok) [] [52, 53] rfl ?_
                  intro n1 hn1
                  obtain rfl : (a.length : Int) = n1 := (hn1.trans (congrArg (fun m : Nat => (m : Int)) (rlen Nd.encs_eq a))).symm
                  intro b1 hb1
                  obtain rfl : true = b1 := (hb1.trans (decide_eq_true (by omega))).symm
                  show Tri _ _ _ _
                  refine tri_cond rfl (fun _ => ?_) (fun h => by cases h)
                  refine tri_drawn (by exact tokW) (by exact gok) (by exact mixed) [] [56, 61, 64] [8, 9, 11, 12] rfl (by decide +kernel) ?_
                  refine And.intro ⟨Int.natCast_nonneg _, Int.ofNat_lt.2 (by rw [rlen Nd.encs_eq]; omega)⟩ ?_
                  intro r hr
                  obtain rfl : [.int .i64 xk, .str xt, .int .i64 xc, .sl 4 (Nd.encs xks)] = r := (hr.trans (encs_get ha)).symm
                  refine ⟨_, ⟨_, _, _, hcx, rfl, rfl⟩, ?_⟩
                  intro z hz
                  obtain rfl : ((i + 1 : Nat) : Int) = z := (hz.trans (wi_succ (by omega))).symm
                  refine And.intro ⟨Int.natCast_nonneg _, Int.ofNat_lt.2 hlt2k⟩ ?_
                  refine And.intro hlt2k ⟨_, hgk2, ?_⟩
                  intro z9 hz9
                  subst hz9
                  refine evD_step rfl rfl rfl rfl rfl (s1_idx rfl rfl rfl rfl rfl rfl ddyn_next rfl) ⟨Int.natCast_nonneg _, Int.ofNat_lt.2 hltr⟩ ?_
                  refine evD_ld rfl rfl rfl rfl rfl rfl ddyn_next hltr (loadS_int hv) ?_
                  show Tri _ _ _ _
                  refine tri_seq ?_
                  rcases hI with ⟨hj, rfl⟩ | ⟨hj, hd⟩
                  · obtain rfl : j = b.length := by omega
                    rw [List.drop_length, List.drop_eq_nil_of_le (show r1.length ≤ b.length + 1 by omega)] at hq
                    simp only [m_r16_table_row, Option.some.injEq] at hq
                    refine tri_seq ?_
                    refine tri_region (by exact tokW) (by exact gok) [] [70, 71] rfl ?_
                    intro n1 hn1
                    obtain rfl : (b.length : Int) = n1 := (hn1.trans (congrArg (fun m : Nat => (m : Int)) (rlen Nd.encs_eq b))).symm
                    intro b1 hb1
                    obtain rfl : false = b1 := (hb1.trans (decide_eq_false (by omega))).symm
                    show Tri _ _ _ _
                    refine tri_cond rfl (fun h => by cases h) (fun _ => ?_)
                    refine tri_skip ?_
                    show Tri _ _ _ _
                    refine tri_seq ?_
                    refine tri_seq ?_
                    refine tri_drawn (by exact tokW) (by exact gok) (by exact mixed) [] [96, 97, 101, 102] [] rfl (by decide +kernel) ?_
                    intro n1 hn1
                    obtain rfl : (a.length : Int) = n1 := (hn1.trans (congrArg (fun m : Nat => (m : Int)) (rlen Nd.encs_eq a))).symm
                    intro b1 hb1
                    obtain rfl : true = b1 := (hb1.trans (decide_eq_true (by omega))).symm
                    intro n1 hn1
                    obtain rfl : (b.length : Int) = n1 := (hn1.trans (congrArg (fun m : Nat => (m : Int)) (rlen Nd.encs_eq b))).symm
                    intro b1 hb1
                    obtain rfl : false = b1 := (hb1.trans (decide_eq_false (by omega))).symm
                    show Tri _ _ _ _
                    refine tri_cond rfl (fun h => by cases h) (fun _ => ?_)
                    refine tri_skip ?_
                    show Tri _ _ _ _
                    have hlt4' := hlt4 []
                    refine tri_region (by exact tokW) (by exact gok) [] [141] rfl ?_
                    refine And.intro ⟨Int.natCast_nonneg _, Int.ofNat_lt.2 hltk⟩ ?_
                    refine And.intro hltk ⟨_, hgk, ?_⟩
                    intro z9 hz9
                    subst hz9
                    refine evOps_step rfl rfl rfl rfl rfl (s1_idx rfl rfl rfl rfl rfl rfl ddyn_head rfl) ⟨Int.natCast_nonneg _, Int.ofNat_lt.2 hlt4'⟩ ?_
                    refine evOps_step0 rfl rfl rfl (s1_store rfl rfl rfl rfl ddyn_head rfl rfl rfl) hlt4' ?_
                    show Tri _ _ _ _
                    refine tri_region (by exact tokW) (by exact gok) [] [] rfl ?_
                    refine ⟨(b.length, [(IntKind.i64.wrap (cx + v))]), .inr ⟨by omega, by rw [hqq, ← hq]⟩, Le.forgetH _ _ _ ⟨rfl, rfl, rfl, rfl, congrArg (fun z => AV.s (.int .i64 z)) wj, trivial⟩ (fun k => ?_) rfl, Nat.lt_succ_self b.length⟩
                    cases k with
                    | zero => rfl
                    | succ q =>
                      show (bif Nat.beq (q + 1) (i + 1) then some (Ob.row 3 1 (((List.replicate (b.length + 1) (0 : Int) ++ []).map (irow .i64)).set b.length ((((List.replicate (b.length + 1) (0 : Int) ++ []).map (irow .i64)).getD b.length []).take 0 ++ [S.int .i64 ((IntKind.i64.wrap (cx + v)))] ++ (((List.replicate (b.length + 1) (0 : Int) ++ []).map (irow .i64)).getD b.length []).drop (0 + 1)))) else ddyn 3 i (List.replicate (b.length + 1) 0) ((List.replicate (b.length + 1) (0 : Int) ++ []) :: (r1 :: L)) q) = ddyn 3 i (List.replicate (b.length + 1) 0) ((List.replicate b.length 0 ++ [(IntKind.i64.wrap (cx + v))]) :: (r1 :: L)) q
                      rw [set_row (l := List.replicate (b.length + 1) (0 : Int) ++ []) (j := b.length) (v := 0) (x := (IntKind.i64.wrap (cx + v))) (by simp [List.getElem?_append]), set_zero]
                      exact ddyn_set q
                  · have hy : b[j]? = some (b[j]'(by omega)) := List.getElem?_eq_getElem _
                    rw [List.drop_eq_getElem_cons (show j < b.length by omega)] at hq
                    generalize b[j]'(by omega) = y at hy hq
                    obtain ⟨yk, yt, yc, yks⟩ := y
                    have hv2 : r1[j + 1]? = some (r1[j + 1]'(by omega)) := List.getElem?_eq_getElem _
                    have hdr := List.drop_eq_getElem_cons (show j + 1 < r1.length by omega)
                    rw [hdr] at hq
                    simp only [m_r16_table_row] at hq
                    rw [← hdr] at hq
                    generalize r1[j + 1]'(by omega) = v2 at hv2 hq
                    rw [hd] at hq
                    obtain ⟨p0, hp0, hq⟩ := bind_out hq
                    cases hp0
                    obtain ⟨c, hc, hq⟩ := bind_out hq
                    obtain ⟨al, hal, hq⟩ := bind_out hq
                    have hrdl := (trow_len hd).2
                    cases rd with
                    | nil => simp at hrdl
                    | cons w ws =>
                    simp only [List.headD_cons] at hq
                    have hltr2 : j + 1 < (List.map (irow .i64) r1).length := by simp; omega
                    have g4 : (List.replicate (j + 1) 0 ++ w :: ws)[j + 1]? = some w := by simp [List.getElem?_append]
                    have hlt5 : j + 1 < (List.map (irow .i64) (List.replicate (j + 1) 0 ++ w :: ws)).length := by simp
                    have hlt4' := hlt4 (w :: ws)
                    refine tri_post ⟨ofL [(0, .s (.sl 4 (Nd.encs a))), (1, .s (.sl 4 (Nd.encs b))), (5, .orow 0), (7, .s (.int .i64 (i : Int))), (8, .s (.int .i64 (j : Int))), (9, .s (.int .i64 ((bif (decide ((IntKind.i64.wrap (cx + v)) < 0) || decide ((IntKind.i64.wrap (c + w)) < (IntKind.i64.wrap (cx + v)))) then (IntKind.i64.wrap (c + w)) else (IntKind.i64.wrap (cx + v))))))], tabHp 42 (okeys (a.length + 1)) (ddyn 3 i (List.replicate (b.length + 1) 0) ((List.replicate (j + 1) 0 ++ w :: ws) :: r1 :: L)), a.length + 2⟩ ?_ (fun σ' hle => ?_)
                    · refine tri_seq ?_
                      refine tri_region (by exact tokW) (by exact gok) [] [70, 71] rfl ?_
                      intro n1 hn1
                      obtain rfl : (b.length : Int) = n1 := (hn1.trans (congrArg (fun m : Nat => (m : Int)) (rlen Nd.encs_eq b))).symm
                      intro b1 hb1
                      obtain rfl : true = b1 := (hb1.trans (decide_eq_true (by omega))).symm
                      show Tri _ _ _ _
                      refine tri_cond rfl (fun _ => ?_) (fun h => by cases h)
                      refine tri_seq ?_
                      refine tri_drawn (by exact tokW) (by exact gok) (by exact mixed) [] [74, 82] [7, 8, 11, 12] rfl (by decide +kernel) ?_
                      refine And.intro ⟨Int.natCast_nonneg _, Int.ofNat_lt.2 (by rw [rlen Nd.encs_eq]; omega)⟩ ?_
                      intro r hr
                      obtain rfl : [.int .i64 yk, .str yt, .int .i64 yc, .sl 4 (Nd.encs yks)] = r := (hr.trans (encs_get hy)).symm
                      refine ⟨_, ⟨_, _, _, hc, rfl, rfl⟩, ?_⟩
                      refine And.intro ⟨Int.natCast_nonneg _, Int.ofNat_lt.2 hltk⟩ ?_
                      refine And.intro hltk ⟨_, hgk, ?_⟩
                      intro z hz
                      obtain rfl : ((j + 1 : Nat) : Int) = z := (hz.trans (wi_succ (by omega))).symm
                      refine evD_step rfl rfl rfl rfl rfl (s1_idx rfl rfl rfl rfl rfl rfl ddyn_head rfl) ⟨Int.natCast_nonneg _, Int.ofNat_lt.2 hlt5⟩ ?_
                      refine evD_ld rfl rfl rfl rfl rfl rfl ddyn_head hlt5 (loadS_int g4) ?_
                      show Tri _ _ _ _
                      refine tri_seq ?_
                      refine tri_region (by exact tokW) (by exact gok) [] [87, 91] rfl ?_
                      intro b1 hb1
                      subst hb1
                      cases e1 : decide ((IntKind.i64.wrap (cx + v)) < 0) with
                      | true =>
                        show Tri _ _ _ _
                        refine tri_cond rfl (fun _ => ?_) (fun h => by cases h)
                        refine tri_region (by exact tokW) (by exact gok) [] [] rfl ?_
                        exact Le.forgetH _ _ _ ⟨rfl, rfl, rfl, rfl, rfl, rfl, trivial⟩ (fun k => rfl) rfl
                      | false =>
                        intro b2 hb2
                        subst hb2
                        cases e2 : decide ((IntKind.i64.wrap (c + w)) < (IntKind.i64.wrap (cx + v))) with
                        | true =>
                          show Tri _ _ _ _
                          refine tri_cond rfl (fun _ => ?_) (fun h => by cases h)
                          refine tri_region (by exact tokW) (by exact gok) [] [] rfl ?_
                          exact Le.forgetH _ _ _ ⟨rfl, rfl, rfl, rfl, rfl, rfl, trivial⟩ (fun k => rfl) rfl
                        | false =>
                          show Tri _ _ _ _
                          refine tri_cond rfl (fun h => by cases h) (fun _ => ?_)
                          refine tri_skip ?_
                          exact Le.forgetH _ _ _ ⟨rfl, rfl, rfl, rfl, rfl, rfl, trivial⟩ (fun k => rfl) rfl
                    · show Tri _ _ _ _
                      obtain ⟨l1, hl1⟩ : ∃ l1, (bif (decide ((IntKind.i64.wrap (cx + v)) < 0) || decide ((IntKind.i64.wrap (c + w)) < (IntKind.i64.wrap (cx + v)))) then (IntKind.i64.wrap (c + w)) else (IntKind.i64.wrap (cx + v))) = l1 := ⟨_, rfl⟩
                      rw [hl1] at hle
                      refine tri_le hle ?_
                      replace hq : (bif al then ((m_r16_pair n ⟨xk, xt, xc, xks⟩ ⟨yk, yt, yc, yks⟩).bind fun p => some ((if IntKind.i64.wrap (p + v2) < l1 then IntKind.i64.wrap (p + v2) else l1) :: w :: ws)) else some (l1 :: w :: ws)) = some q := by
                        rw [← hl1]; exact hq
                      refine tri_seq ?_
                      have hq2 : ∃ l2, q = l2 :: w :: ws ∧ (bif al then (∃ p, m_r16_pair n ⟨xk, xt, xc, xks⟩ ⟨yk, yt, yc, yks⟩ = some p ∧ l2 = (if IntKind.i64.wrap (p + v2) < l1 then IntKind.i64.wrap (p + v2) else l1)) else l2 = l1) := by
                        cases al with
                        | true =>
                          obtain ⟨p, hp, hq⟩ := bind_out hq
                          cases hq
                          exact ⟨_, rfl, show ∃ p, _ ∧ _ from ⟨p, hp, rfl⟩⟩
                        | false => cases hq; exact ⟨_, rfl, show _ = _ from rfl⟩
                      obtain ⟨l2, rfl, hl2⟩ := hq2
                      refine tri_post ⟨ofL [(0, .s (.sl 4 (Nd.encs a))), (1, .s (.sl 4 (Nd.encs b))), (5, .orow 0), (7, .s (.int .i64 (i : Int))), (8, .s (.int .i64 (j : Int))), (9, .s (.int .i64 (l2)))], tabHp 42 (okeys (a.length + 1)) (ddyn 3 i (List.replicate (b.length + 1) 0) ((List.replicate (j + 1) 0 ++ w :: ws) :: r1 :: L)), a.length + 2⟩ ?_ (fun σ' hle => ?_)
                      · refine tri_seq ?_
                        refine tri_drawn (by exact tokW) (by exact gok) (by exact mixed) [] [96, 97, 101, 102, 107, 111] [] rfl (by decide +kernel) ?_
                        intro n1 hn1
                        obtain rfl : (a.length : Int) = n1 := (hn1.trans (congrArg (fun m : Nat => (m : Int)) (rlen Nd.encs_eq a))).symm
                        intro b1 hb1
                        obtain rfl : true = b1 := (hb1.trans (decide_eq_true (by omega))).symm
                        intro n1 hn1
                        obtain rfl : (b.length : Int) = n1 := (hn1.trans (congrArg (fun m : Nat => (m : Int)) (rlen Nd.encs_eq b))).symm
                        intro b1 hb1
                        obtain rfl : true = b1 := (hb1.trans (decide_eq_true (by omega))).symm
                        refine And.intro ⟨Int.natCast_nonneg _, Int.ofNat_lt.2 (by rw [rlen Nd.encs_eq]; omega)⟩ ?_
                        intro r hr
                        obtain rfl : [.int .i64 xk, .str xt, .int .i64 xc, .sl 4 (Nd.encs xks)] = r := (hr.trans (encs_get ha)).symm
                        refine And.intro ⟨Int.natCast_nonneg _, Int.ofNat_lt.2 (by rw [rlen Nd.encs_eq]; omega)⟩ ?_
                        intro r hr
                        obtain rfl : [.int .i64 yk, .str yt, .int .i64 yc, .sl 4 (Nd.encs yks)] = r := (hr.trans (encs_get hy)).symm
                        refine ⟨_, ⟨_, _, _, hal, rfl, rfl⟩, ?_⟩
                        show Tri _ _ _ _
                        refine tri_cond rfl (fun hb => ?_) (fun hb => ?_)
                        · rw [hb] at hl2
                          obtain ⟨p, hp, rfl⟩ := hl2
                          refine tri_drawn (by exact tokW) (by exact gok) (by exact mixed) [] [118, 122, 127, 131] [13, 14, 17, 18] rfl (by decide +kernel) ?_
                          refine And.intro ⟨Int.natCast_nonneg _, Int.ofNat_lt.2 (by rw [rlen Nd.encs_eq]; omega)⟩ ?_
                          intro r hr
                          obtain rfl : [.int .i64 xk, .str xt, .int .i64 xc, .sl 4 (Nd.encs xks)] = r := (hr.trans (encs_get ha)).symm
                          refine And.intro ⟨Int.natCast_nonneg _, Int.ofNat_lt.2 (by rw [rlen Nd.encs_eq]; omega)⟩ ?_
                          intro r hr
                          obtain rfl : [.int .i64 yk, .str yt, .int .i64 yc, .sl 4 (Nd.encs yks)] = r := (hr.trans (encs_get hy)).symm
                          refine ⟨_, ⟨_, _, _, hp, rfl, rfl⟩, ?_⟩
                          intro z hz
                          obtain rfl : ((i + 1 : Nat) : Int) = z := (hz.trans (wi_succ (by omega))).symm
                          refine And.intro ⟨Int.natCast_nonneg _, Int.ofNat_lt.2 hlt2k⟩ ?_
                          refine And.intro hlt2k ⟨_, hgk2, ?_⟩
                          intro z hz
                          obtain rfl : ((j + 1 : Nat) : Int) = z := (hz.trans (wi_succ (by omega))).symm
                          refine evD_step rfl rfl rfl rfl rfl (s1_idx rfl rfl rfl rfl rfl rfl ddyn_next rfl) ⟨Int.natCast_nonneg _, Int.ofNat_lt.2 hltr2⟩ ?_
                          refine evD_ld rfl rfl rfl rfl rfl rfl ddyn_next hltr2 (loadS_int hv2) ?_
                          exact Le.forgetH _ _ _ ⟨rfl, rfl, rfl, rfl, rfl, rfl, trivial⟩ (fun k => rfl) rfl
                        · rw [hb] at hl2
                          cases hl2
                          refine tri_skip ?_
                          exact Le.forgetH _ _ _ ⟨rfl, rfl, rfl, rfl, rfl, rfl, trivial⟩ (fun k => rfl) rfl
                      · show Tri _ _ _ _
                        refine tri_le hle ?_
                        refine tri_region (by exact tokW) (by exact gok) [] [141] rfl ?_
                        refine And.intro ⟨Int.natCast_nonneg _, Int.ofNat_lt.2 hltk⟩ ?_
                        refine And.intro hltk ⟨_, hgk, ?_⟩
                        intro z9 hz9
                        subst hz9
                        refine evOps_step rfl rfl rfl rfl rfl (s1_idx rfl rfl rfl rfl rfl rfl ddyn_head rfl) ⟨Int.natCast_nonneg _, Int.ofNat_lt.2 hlt4'⟩ ?_
                        refine evOps_step0 rfl rfl rfl (s1_store rfl rfl rfl rfl ddyn_head rfl rfl rfl) hlt4' ?_
                        show Tri _ _ _ _
                        refine tri_region (by exact tokW) (by exact gok) [] [] rfl ?_
                        refine ⟨(j, (z9 :: w :: ws)), .inr ⟨by omega, hqq⟩, Le.forgetH _ _ _ ⟨rfl, rfl, rfl, rfl, congrArg (fun z => AV.s (.int .i64 z)) wj, trivial⟩ (fun k => ?_) rfl, Nat.lt_succ_self j⟩
                        cases k with
                        | zero => rfl
                        | succ q =>
                          show (bif Nat.beq (q + 1) (i + 1) then some (Ob.row 3 1 (((List.replicate (j + 1) 0 ++ w :: ws).map (irow .i64)).set j ((((List.replicate (j + 1) 0 ++ w :: ws).map (irow .i64)).getD j []).take 0 ++ [S.int .i64 (z9)] ++ (((List.replicate (j + 1) 0 ++ w :: ws).map (irow .i64)).getD j []).drop (0 + 1)))) else ddyn 3 i (List.replicate (b.length + 1) 0) ((List.replicate (j + 1) 0 ++ w :: ws) :: (r1 :: L)) q) = ddyn 3 i (List.replicate (b.length + 1) 0) ((List.replicate j 0 ++ (z9 :: w :: ws)) :: (r1 :: L)) q
                          rw [set_row (l := List.replicate (j + 1) 0 ++ w :: ws) (j := j) (v := 0) (x := z9) (by simp [List.getElem?_append]), set_zero]
                          exact ddyn_set q
                · refine tri_exit ?_
                  have hk : k = 0 := by
                    rw [h37] at hb
                    have := of_decide_eq_false hb; omega
                  subst hk
                  rcases hI with ⟨h1, _⟩ | ⟨_, h1⟩
                  · omega
                  · rw [List.drop_zero, List.drop_zero, hrow] at h1
                    cases h1
                    exact Le.forgetH _ _ _ ⟨rfl, rfl, rfl, rfl, trivial⟩ (fun k => rfl) rfl
            · show Tri _ _ _ _
              refine tri_le hle ?_
              refine tri_region (by exact tokW) (by exact gok) [] [] rfl ?_
              refine ⟨(i, rr :: r1 :: L), .inr ⟨by omega, hq0⟩, Le.forgetH _ _ _ ⟨rfl, rfl, rfl, congrArg (fun z => AV.s (.int .i64 z)) (wrap64_in (by omega) (by omega)), trivial⟩ (fun k => rfl) rfl, Nat.lt_succ_self _⟩
        · refine tri_exit ?_
          have hk : k = 0 := by
            rw [h31] at hb
            have := of_decide_eq_false hb; omega
          subst hk
          rcases hI with ⟨h1, _⟩ | ⟨_, h1⟩
          · omega
          · rw [List.drop_zero, h] at h1
            cases h1
            exact Le.forgetH _ _ _ ⟨rfl, rfl, rfl, trivial⟩ (fun k => rfl) rfl
    · show Tri _ _ _ _
      refine tri_le hle ?_
      refine tri_seq ?_
      refine tri_region (by exact tokW) (by exact gok) [] [] rfl ?_
      show Tri _ _ _ _
      refine tri_ret ?_
      unfold Gives
      have hyl := trows_len h
      refine ⟨_, Le.giveWhole [(4, .s (.sl 1 (y0.map fun r => [S.sl 1 (r.map (irow .i64))])))] ⟨.arow rfl (by rw [okeys_len, List.length_map, hyl]) (fun r hr => by obtain ⟨r', _, rfl⟩ := List.mem_map.1 hr; rfl) fun q x s hx hs => ?_, trivial⟩ rfl, rfl, rfl⟩
      have e2 : (y0.map fun r => [S.sl 1 (r.map (irow .i64))]).flatten = y0.map fun r => S.sl 1 (r.map (irow .i64)) := flat1 _ y0
      have e1 : (okeys (a.length + 1)).flatten = (List.range (a.length + 1)).map fun q => AV.orow (q + 1) := flat1 _ _
      rw [e1, List.getElem?_map] at hx
      rw [e2, List.getElem?_map] at hs
      cases hy : y0[q]? with
      | none => rw [hy] at hs; cases hs
      | some r =>
        rw [hy] at hs; cases hs
        have hql : q < a.length + 1 := by rw [← hyl]; exact (List.getElem?_eq_some_iff.1 hy).1
        rw [List.getElem?_range hql] at hx
        cases hx
        exact .row (e := 3) (show ddyn 3 0 (List.replicate (b.length + 1) 0) y0 q = some (.row 3 1 (r.map (irow .i64))) by simp [ddyn, hy])
theorem alls_r16_pair : ∀ n, PSound Tryd.prog 21 (pspec (R_r16_pair n)) ∧ PSound Tryd.prog 19 (pspec (R_r16_table n)) := by
  intro n
  induction n with
  | zero =>
    refine ⟨?_, ?_⟩
    · exact psound_none Tryd.call21 (fun xs r h => by obtain ⟨_, _, _, h, _⟩ := h; rw [m_r16_pair] at h; cases h)
    · exact psound_none Tryd.call19 (fun xs r h => by obtain ⟨_, _, _, h, _⟩ := h; rw [m_r16_table] at h; cases h)
  | succ n ih =>
    obtain ⟨ih_r16_pair, ih_r16_table⟩ := ih
    exact ⟨step_r16_pair n ih_r16_pair ih_r16_table, step_r16_table n ih_r16_pair ih_r16_table⟩
def S_r16_pair : PSpec := pspec fun xs r => ∃ n, R_r16_pair n xs r
theorem ok_r16_pair : PSound Tryd.prog 21 S_r16_pair := psound_all (fun n => (alls_r16_pair n).1)
def S_r16_table : PSpec := pspec fun xs r => ∃ n, R_r16_table n xs r
theorem ok_r16_table : PSound Tryd.prog 19 S_r16_table := psound_all (fun n => (alls_r16_pair n).2)

end Go.Proofs.YtplekejomocalaaDoor
