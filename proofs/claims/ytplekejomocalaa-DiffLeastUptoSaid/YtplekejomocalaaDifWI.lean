/-
  Walks, printed by gw.py.
-/
import Derived.Test.YtplekejomocalaaDifWH
set_option linter.unusedVariables false
set_option linter.unusedSimpArgs false
namespace Go.Proofs.Ytplekejomocalaa
open Go.Abs

/- vinculum/vinculumref12.filled -/
def R_r12_filled (xs : List AV) (r : Ret) : Prop := ∃ (a0 : Nd) (a1 : Int) (a2 : List Nd) (y0 : Nd), m_r12_filled a0 a1 a2 = some y0 ∧ xs = [.agg ((Nd.enc a0).map .s), .s (.int .i64 a1), .s (.sl 4 (Nd.encs a2))] ∧ r = .val (.agg ((Nd.enc y0).map .s))
def S_r12_filled : PSpec := pspec fun xs r => R_r12_filled xs r
set_option maxHeartbeats 2000000 in
set_option maxRecDepth 100000 in
theorem ok_r12_filled : PSound Try.prog 55 S_r12_filled := by
  have gok : ∀ f s, look? f [(17, S_r09_ToRow), (56, S_r09_Replaced)] = some s → PSound Try.prog f s := look_all (by
    simp only [List.forall_mem_cons]
    exact ⟨ok_r09_ToRow, ok_r09_Replaced, by simp⟩)
  refine psound tokW Try.call55 Try.func55 rfl (fun xs r h => by obtain ⟨_, _, _, _, _, rfl, _⟩ := h; show 3 ≤ 14; decide) 14 rfl ?_
  rintro xs r w0 G0 ⟨⟨n1_kind, n1_text, n1_cols, n1_kids⟩, slot2, l3, y0, h, rfl, rfl⟩ _
  rw [m_r12_filled] at h
  refine tri_seq ?_
  refine tri_region (by exact tokW) (by exact gok) [6] [] rfl ?_
  show Tri _ _ _ _
  refine tri_seq ?_
  refine tri_drawnR (by exact tokW) (by exact gok) (by exact mixed) [9, 11] [] [2, 4, 5, 7] [] rfl (by decide +kernel) ?_
  obtain ⟨hq, h⟩ := req_out h
  refine And.intro (show (([] : List (List S)).length + (Nd.encs l3).length) * 56 ≤ 140737488355328 ∧ ([] : List (List S)).length + (Nd.encs l3).length ≤ 9223372036854775807 from by simp only [List.length_append, List.length_cons, List.length_nil, List.length_map, rlen Nd.encs_eq] at hq ⊢; omega) ?_
  obtain ⟨⟨y4_kind, y4_text, y4_cols, y4_kids⟩, hy4, h⟩ := bind_out h
  refine ⟨_, ⟨_, _, hy4, (congrArg (fun r => [AV.s (.sl 4 r)]) (show [] ++ (Nd.encs l3) = Nd.encs l3 from (by simp [List.map_append, List.map_take, List.map_drop, irow, brow, b8of_row, List.map_cons, List.map_nil, b8of_wrap, Nd.encs_eq, Nd.enc, enc_13_node_kind, enc_node_checker, enc_node_inner, enc_diff_grid, enc_s_int, enc_string, enc_api_Op]))), rfl⟩, ?_⟩
  obtain ⟨⟨y5_kind, y5_text, y5_cols, y5_kids⟩, hy5, h⟩ := bind_out h
  refine ⟨_, ⟨_, _, _, _, hy5, rfl, rfl⟩, ?_⟩
  show Tri _ _ _ _
  refine tri_ret ?_
  have hy := Option.some.inj h
  subst hy
  unfold Gives
  exact ⟨_, Le.refl _ _, rfl, rfl⟩

/- vinculum/vinculumref12.change -/
def R_r12_change (n : Nat) (xs : List AV) (r : Ret) : Prop := ∃ (a0 : List Nd) (a1 : (Int × List Int × Int × Int × List Nd × Int × List UInt8 × List UInt8)) (y0 : List Nd) (y1 : Int), m_r12_change n a0 a1 = some (y0, y1) ∧ xs = [.s (.sl 4 (Nd.encs a0)), .agg ((enc_api_Op a1).map .s)] ∧ r = .val (.tup [.s (.sl 4 (Nd.encs y0)), .s (.int .i64 y1)])
def S_r12_change : PSpec := pspec fun xs r => ∃ n, R_r12_change n xs r
set_option maxHeartbeats 2000000 in
set_option maxRecDepth 100000 in
theorem ok_r12_change : PSound Try.prog 39 S_r12_change := by
  have gok : ∀ f s, look? f [(54, S_r12_splice), (28, S_r09_SameItems), (55, S_r12_filled), (16, S_r09_Equal)] = some s → PSound Try.prog f s := look_all (by
    simp only [List.forall_mem_cons]
    exact ⟨ok_r12_splice, ok_r09_SameItems, ok_r12_filled, ok_r09_Equal, by simp⟩)
  refine psound tokW Try.call39 Try.func39 rfl (fun xs r h => by obtain ⟨n, _, _, _, _, _, rfl, _⟩ := h; show 2 ≤ 173; decide) 173 rfl ?_
  rintro xs r w0 G0 ⟨n, a1, ⟨a2_kind, a2_row, a2_at, a2_n, a2_nodes, a2_slot, a2_old, a2_text⟩, y0, y1, h, rfl, rfl⟩ _
  rw [m_r12_change] at h
  refine tri_seq ?_
  refine tri_region (by exact tokW) (by exact gok) [] [] rfl ?_
  show Tri _ _ _ _
  refine tri_seq ?_
  refine tri_region (by exact tokW) (by exact gok) [] [] rfl ?_
  show Tri _ _ _ _
  refine tri_seq ?_
  refine tri_seq ?_
  refine tri_region (by exact tokW) (by exact gok) [] [] rfl ?_
  show Tri _ _ _ _
  obtain ⟨x3, hj, h⟩ := bind_out h
  refine tri_post ⟨ofL [(0, .s (.sl 4 (Nd.encs a1))), (3, .s (.pt [.int .i64 a2_kind, .sl 1 ((List.map (irow .i64)) a2_row), .int .i64 a2_at, .int .i64 a2_n, .sl 4 (Nd.encs a2_nodes), .int .i64 a2_slot, .str a2_old, .str a2_text])), (6, .s (.int .i64 x3))], fun _ => none, 0⟩ ?_ (fun σ' hle => ?_)
  · replace h := hj
    refine tri_block ?_
    refine tri_seq ?_
    refine tri_region (by exact tokW) (by exact gok) [] [] rfl ?_
    show Tri _ _ _ _
    refine tri_cond rfl (fun hb => ?_) (fun hb => ?_)
    · replace h := bif_t hb h
      refine tri_region (by exact tokW) (by exact gok) [] [] rfl ?_
      cases h
      exact (Le.forget _ ⟨rfl, rfl, rfl, trivial⟩)
    · replace h := bif_f hb h
      refine tri_seq ?_
      refine tri_region (by exact tokW) (by exact gok) [] [] rfl ?_
      show Tri _ _ _ _
      refine tri_cond rfl (fun hb => ?_) (fun hb => ?_)
      · replace h := bif_t hb h
        refine tri_region (by exact tokW) (by exact gok) [] [17] rfl ?_
        intro n4 hn4
        obtain rfl : (a2_nodes.length : Int) = n4 := (hn4.trans (congrArg (fun m : Nat => (m : Int)) (rlen Nd.encs_eq a2_nodes))).symm
        cases h
        exact (Le.forget _ ⟨rfl, rfl, rfl, trivial⟩)
      · replace h := bif_f hb h
        refine tri_seq ?_
        refine tri_region (by exact tokW) (by exact gok) [] [] rfl ?_
        show Tri _ _ _ _
        refine tri_cond rfl (fun hb => ?_) (fun hb => ?_)
        · replace h := bif_t hb h
          refine tri_region (by exact tokW) (by exact gok) [] [] rfl ?_
          cases h
          exact (Le.forget _ ⟨rfl, rfl, rfl, trivial⟩)
        · replace h := bif_f hb h
          refine tri_skip ?_
          cases h
          exact (Le.forget _ ⟨rfl, rfl, rfl, trivial⟩)
  · show Tri _ _ _ _
    refine tri_le hle ?_
    refine tri_seq ?_
    refine tri_seq ?_
    obtain ⟨x5, hj, h⟩ := bind_out h
    refine tri_post ⟨ofL [(0, .s (.sl 4 (Nd.encs a1))), (3, .s (.pt [.int .i64 a2_kind, .sl 1 ((List.map (irow .i64)) a2_row), .int .i64 a2_at, .int .i64 a2_n, .sl 4 (Nd.encs a2_nodes), .int .i64 a2_slot, .str a2_old, .str a2_text])), (6, .s (.int .i64 x3)), (40, .s (.bool x5))], fun _ => none, 0⟩ ?_ (fun σ' hle => ?_)
    · replace h := hj
      refine tri_region (by exact tokW) (by exact gok) [] [25, 29, 32, 35] rfl ?_
      intro b hb
      cases b with
      | true =>
        replace h := bif_t hb.symm h
        intro b hb
        subst hb
        cases h
        exact (Le.forget _ ⟨rfl, rfl, rfl, rfl, trivial⟩)
      | false =>
        replace h := bif_f hb.symm h
        intro n6 hn6
        obtain rfl : (a1.length : Int) = n6 := (hn6.trans (congrArg (fun m : Nat => (m : Int)) (rlen Nd.encs_eq a1))).symm
        intro b hb
        cases b with
        | true =>
          replace h := bif_t hb.symm h
          cases h
          exact (Le.forget _ ⟨rfl, rfl, rfl, rfl, trivial⟩)
        | false =>
          replace h := bif_f hb.symm h
          intro n7 hn7
          obtain rfl : (a1.length : Int) = n7 := (hn7.trans (congrArg (fun m : Nat => (m : Int)) (rlen Nd.encs_eq a1))).symm
          cases h
          exact (Le.forget _ ⟨rfl, rfl, rfl, rfl, trivial⟩)
    · show Tri _ _ _ _
      refine tri_le hle ?_
      refine tri_cond rfl (fun hb => ?_) (fun hb => ?_)
      · replace h := bif_t hb h
        refine tri_seq ?_
        refine tri_region (by exact tokW) (by exact gok) [] [] rfl ?_
        show Tri _ _ _ _
        refine tri_ret ?_
        obtain ⟨hj1, hk1⟩ := Prod.mk.inj (Option.some.inj h)
        subst hj1
        subst hk1
        unfold Gives
        exact ⟨_, Le.refl _ _, rfl, rfl⟩
      · replace h := bif_f hb h
        refine tri_skip ?_
        show Tri _ _ _ _
        refine tri_seq ?_
        refine tri_region (by exact tokW) (by exact gok) [] [] rfl ?_
        show Tri _ _ _ _
        refine tri_seq ?_
        refine tri_seq ?_
        refine tri_region (by exact tokW) (by exact gok) [] [] rfl ?_
        show Tri _ _ _ _
        refine tri_block ?_
        refine tri_seq ?_
        refine tri_region (by exact tokW) (by exact gok) [] [] rfl ?_
        show Tri _ _ _ _
        refine tri_cond rfl (fun hb => ?_) (fun hb => ?_)
        · replace h := bif_t hb h
          refine tri_seq ?_
          refine tri_region (by exact tokW) (by exact gok) [] [] rfl ?_
          obtain ⟨y8, hy8, h⟩ := bind_out h
          refine ⟨_, ⟨_, _, _, _, _, hy8, rfl, rfl⟩, ?_⟩
          show Tri _ _ _ _
          refine tri_ret ?_
          obtain ⟨hj1, hk1⟩ := Prod.mk.inj (Option.some.inj h)
          subst hj1
          subst hk1
          unfold Gives
          exact ⟨_, Le.refl _ _, rfl, rfl⟩
        · replace h := bif_f hb h
          refine tri_seq ?_
          refine tri_region (by exact tokW) (by exact gok) [] [] rfl ?_
          show Tri _ _ _ _
          refine tri_cond rfl (fun hb => ?_) (fun hb => ?_)
          · replace h := bif_t hb h
            refine tri_seq ?_
            refine tri_seq ?_
            refine tri_drawn (by exact tokW) (by exact gok) (by exact mixed) [] [62] [] rfl (by decide +kernel) ?_
            obtain ⟨hq, h⟩ := req_out h
            refine And.intro ⟨hq.1, hq.2.1, Int.le_trans hq.2.2 (Int.ofNat_le.2 (Nat.le_of_eq (rlen Nd.encs_eq _).symm))⟩ ?_
            intro r9 hr9
            obtain rfl : Nd.encs ((a1.take (IntKind.i64.wrap (a2_at + x3)).toNat).drop a2_at.toNat) = r9 := (hr9.trans (rcut Nd.encs_eq _ _ _)).symm
            obtain ⟨y10, hy10, h⟩ := bind_out h
            refine ⟨_, ⟨_, _, _, _, hy10, rfl, rfl⟩, ?_⟩
            show Tri _ _ _ _
            refine tri_cond rfl (fun hb => ?_) (fun hb => ?_)
            · replace h := bif_t hb h
              refine tri_seq ?_
              refine tri_region (by exact tokW) (by exact gok) [] [] rfl ?_
              show Tri _ _ _ _
              refine tri_ret ?_
              obtain ⟨hj1, hk1⟩ := Prod.mk.inj (Option.some.inj h)
              subst hj1
              subst hk1
              unfold Gives
              exact ⟨_, Le.refl _ _, rfl, rfl⟩
            · replace h := bif_f hb h
              refine tri_skip ?_
              show Tri _ _ _ _
              refine tri_seq ?_
              refine tri_region (by exact tokW) (by exact gok) [] [] rfl ?_
              obtain ⟨y11, hy11, h⟩ := bind_out h
              refine ⟨_, ⟨_, _, _, _, _, hy11, rfl, rfl⟩, ?_⟩
              show Tri _ _ _ _
              refine tri_ret ?_
              obtain ⟨hj1, hk1⟩ := Prod.mk.inj (Option.some.inj h)
              subst hj1
              subst hk1
              unfold Gives
              exact ⟨_, Le.refl _ _, rfl, rfl⟩
          · replace h := bif_f hb h
            refine tri_seq ?_
            refine tri_region (by exact tokW) (by exact gok) [] [] rfl ?_
            show Tri _ _ _ _
            refine tri_cond rfl (fun hb => ?_) (fun hb => ?_)
            · replace h := bif_t hb h
              refine tri_seq ?_
              refine tri_drawn (by exact tokW) (by exact gok) (by exact mixed) [] [80, 88, 90] [] rfl (by decide +kernel) ?_
              obtain ⟨⟨e12_kind, e12_text, e12_cols, e12_kids⟩, he12, h⟩ := bind_out h
              refine And.intro (at_ok Nd.encs_eq he12).1 ?_
              intro r13 hr13
              obtain rfl : [.int .i64 e12_kind, .str e12_text, .int .i64 e12_cols, .sl 4 (Nd.encs e12_kids)] = r13 := (hr13.trans (at_ok Nd.encs_eq he12).2.1).symm
              obtain ⟨hq, h⟩ := req_out h
              refine And.intro ⟨hq.1, hq.2.1, Int.le_trans hq.2.2 (Int.ofNat_le.2 (Nat.le_of_eq (rlen Nd.encs_eq _).symm))⟩ ?_
              intro r14 hr14
              obtain rfl : Nd.encs ((a1.take (IntKind.i64.wrap (a2_at + x3)).toNat).drop a2_at.toNat) = r14 := (hr14.trans (rcut Nd.encs_eq _ _ _)).symm
              obtain ⟨⟨y15_kind, y15_text, y15_cols, y15_kids⟩, hy15, h⟩ := bind_out h
              refine ⟨_, ⟨_, _, _, _, hy15, rfl, rfl⟩, ?_⟩
              intro r16 hr16
              obtain rfl : Nd.encs [Nd.mk y15_kind y15_text y15_cols y15_kids] = r16 := (hr16.trans (by simp [List.map_append, List.map_take, List.map_drop, irow, brow, b8of_row, List.map_cons, List.map_nil, b8of_wrap, Nd.encs_eq, Nd.enc, enc_13_node_kind, enc_node_checker, enc_node_inner, enc_diff_grid, enc_s_int, enc_string, enc_api_Op])).symm
              obtain ⟨y17, hy17, h⟩ := bind_out h
              refine ⟨_, ⟨_, _, _, _, _, hy17, rfl, rfl⟩, ?_⟩
              show Tri _ _ _ _
              refine tri_ret ?_
              obtain ⟨hj1, hk1⟩ := Prod.mk.inj (Option.some.inj h)
              subst hj1
              subst hk1
              unfold Gives
              exact ⟨_, Le.refl _ _, rfl, rfl⟩
            · replace h := bif_f hb h
              refine tri_skip ?_
              show Tri _ _ _ _
              refine tri_seq ?_
              refine tri_region (by exact tokW) (by exact gok) [8] [95] rfl ?_
              obtain ⟨⟨e18_kind, e18_text, e18_cols, e18_kids⟩, he18, h⟩ := bind_out h
              refine And.intro (at_ok Nd.encs_eq he18).1 ?_
              intro r19 hr19
              obtain rfl : [.int .i64 e18_kind, .str e18_text, .int .i64 e18_cols, .sl 4 (Nd.encs e18_kids)] = r19 := (hr19.trans (at_ok Nd.encs_eq he18).2.1).symm
              show Tri _ _ _ _
              refine tri_seq ?_
              refine tri_seq ?_
              refine tri_region (by exact tokW) (by exact gok) [] [] rfl ?_
              show Tri _ _ _ _
              refine tri_cond rfl (fun hb => ?_) (fun hb => ?_)
              · replace h := bif_t hb h
                refine tri_seq ?_
                refine tri_seq ?_
                obtain ⟨x20, hj, h⟩ := bind_out h
                refine tri_post ⟨ofL [(0, .s (.sl 4 (Nd.encs a1))), (3, .s (.pt [.int .i64 a2_kind, .sl 1 ((List.map (irow .i64)) a2_row), .int .i64 a2_at, .int .i64 a2_n, .sl 4 (Nd.encs a2_nodes), .int .i64 a2_slot, .str a2_old, .str a2_text])), (7, .s (.int .i64 (IntKind.i64.wrap (a2_at + x3)))), (8, .op 0 0), (137, .s (.bool x20))], ofH [(0, .box [.s (.int .i64 e18_kind), .s (.str e18_text), .s (.int .i64 e18_cols), .s (.sl 4 (Nd.encs e18_kids))])], 1⟩ ?_ (fun σ' hle => ?_)
                · replace h := hj
                  refine tri_drawn (by exact tokW) (by exact gok) (by exact mixed) [] [104, 106, 111, 114, 119, 123, 131] [3, 8, 20, 28] rfl (by decide +kernel) ?_
                  intro n21 hn21
                  obtain rfl : (e18_kids.length : Int) = n21 := (hn21.trans (congrArg (fun m : Nat => (m : Int)) (rlen Nd.encs_eq e18_kids))).symm
                  intro b hb
                  cases b with
                  | true =>
                    replace h := bif_t hb.symm h
                    intro b hb
                    subst hb
                    cases h
                    exact (Le.rename [(0, 0)] _ _ _ ⟨rfl, rfl, rfl, rfl, rfl, trivial⟩ ⟨rfl, ⟨_, rfl, rfl⟩, trivial⟩ rfl rfl rfl rfl rfl)
                  | false =>
                    replace h := bif_f hb.symm h
                    obtain ⟨⟨e22_kind, e22_text, e22_cols, e22_kids⟩, he22, h⟩ := bind_out h
                    refine And.intro (at_ok Nd.encs_eq he22).1 ?_
                    intro r23 hr23
                    obtain rfl : [.int .i64 e22_kind, .str e22_text, .int .i64 e22_cols, .sl 4 (Nd.encs e22_kids)] = r23 := (hr23.trans (at_ok Nd.encs_eq he22).2.1).symm
                    intro n24 hn24
                    obtain rfl : (e22_kids.length : Int) = n24 := (hn24.trans (congrArg (fun m : Nat => (m : Int)) (rlen Nd.encs_eq e22_kids))).symm
                    intro b hb
                    cases b with
                    | true =>
                      replace h := bif_t hb.symm h
                      cases h
                      exact (Le.rename [(0, 0)] _ _ _ ⟨rfl, rfl, rfl, rfl, rfl, trivial⟩ ⟨rfl, ⟨_, rfl, rfl⟩, trivial⟩ rfl rfl rfl rfl rfl)
                    | false =>
                      replace h := bif_f hb.symm h
                      obtain ⟨⟨e25_kind, e25_text, e25_cols, e25_kids⟩, he25, h⟩ := bind_out h
                      refine And.intro (at_ok Nd.encs_eq he25).1 ?_
                      intro r26 hr26
                      obtain rfl : [.int .i64 e25_kind, .str e25_text, .int .i64 e25_cols, .sl 4 (Nd.encs e25_kids)] = r26 := (hr26.trans (at_ok Nd.encs_eq he25).2.1).symm
                      obtain ⟨⟨e27_kind, e27_text, e27_cols, e27_kids⟩, he27, h⟩ := bind_out h
                      refine And.intro (at_ok Nd.encs_eq he27).1 ?_
                      intro r28 hr28
                      obtain rfl : [.int .i64 e27_kind, .str e27_text, .int .i64 e27_cols, .sl 4 (Nd.encs e27_kids)] = r28 := (hr28.trans (at_ok Nd.encs_eq he27).2.1).symm
                      obtain ⟨⟨y29_kind, y29_text, y29_cols, y29_kids⟩, hy29, h⟩ := bind_out h
                      refine ⟨_, ⟨_, _, _, _, hy29, rfl, rfl⟩, ?_⟩
                      obtain ⟨y30, hy30, h⟩ := bind_out h
                      refine ⟨_, ⟨_, _, _, _, hy30, rfl, rfl⟩, ?_⟩
                      cases h
                      exact (Le.rename [(0, 0)] _ _ _ ⟨rfl, rfl, rfl, rfl, rfl, trivial⟩ ⟨rfl, ⟨_, rfl, rfl⟩, trivial⟩ rfl rfl rfl rfl rfl)
                · show Tri _ _ _ _
                  refine tri_le hle ?_
                  refine tri_cond rfl (fun hb => ?_) (fun hb => ?_)
                  · replace h := bif_t hb h
                    refine tri_seq ?_
                    refine tri_region (by exact tokW) (by exact gok) [] [] rfl ?_
                    show Tri _ _ _ _
                    refine tri_ret ?_
                    obtain ⟨hj1, hk1⟩ := Prod.mk.inj (Option.some.inj h)
                    subst hj1
                    subst hk1
                    unfold Gives
                    exact ⟨_, Le.refl _ _, rfl, rfl⟩
                  · replace h := bif_f hb h
                    refine tri_skip ?_
                    show Tri _ _ _ _
                    refine tri_seq ?_
                    refine tri_drawn (by exact tokW) (by exact gok) (by exact mixed) [] [146] [5] rfl (by decide +kernel) ?_
                    obtain ⟨⟨e31_kind, e31_text, e31_cols, e31_kids⟩, he31, h⟩ := bind_out h
                    refine And.intro (at_ok Nd.encs_eq he31).1 ?_
                    intro r32 hr32
                    obtain rfl : [.int .i64 e31_kind, .str e31_text, .int .i64 e31_cols, .sl 4 (Nd.encs e31_kids)] = r32 := (hr32.trans (at_ok Nd.encs_eq he31).2.1).symm
                    obtain ⟨y33, hy33, h⟩ := bind_out h
                    refine ⟨_, ⟨_, _, _, _, _, hy33, rfl, rfl⟩, ?_⟩
                    show Tri _ _ _ _
                    refine tri_ret ?_
                    obtain ⟨hj1, hk1⟩ := Prod.mk.inj (Option.some.inj h)
                    subst hj1
                    subst hk1
                    unfold Gives
                    exact ⟨_, Le.refl _ _, rfl, rfl⟩
              · replace h := bif_f hb h
                refine tri_skip ?_
                show Tri _ _ _ _
                refine tri_seq ?_
                refine tri_seq ?_
                refine tri_region (by exact tokW) (by exact gok) [] [] rfl ?_
                show Tri _ _ _ _
                obtain ⟨fl, hj, ho1⟩ := bind_out h
                refine tri_fl (fl := fl) (fun z => match z with | _ => ⟨ofL [], fun _ => none, 0⟩) ?_ (fun z σ' hz hle => ?_)
                · replace h := hj
                  refine tri_block ?_
                  refine tri_seq ?_
                  refine tri_seq ?_
                  refine tri_region (by exact tokW) (by exact gok) [] [] rfl ?_
                  show Tri _ _ _ _
                  obtain ⟨x34, hj, h⟩ := bind_out h
                  refine tri_post ⟨ofL [(0, .s (.sl 4 (Nd.encs a1))), (3, .s (.pt [.int .i64 a2_kind, .sl 1 ((List.map (irow .i64)) a2_row), .int .i64 a2_at, .int .i64 a2_n, .sl 4 (Nd.encs a2_nodes), .int .i64 a2_slot, .str a2_old, .str a2_text])), (7, .s (.int .i64 (IntKind.i64.wrap (a2_at + x3)))), (8, .op 0 0), (152, .s (.bool x34))], ofH [(0, .box [.s (.int .i64 e18_kind), .s (.str e18_text), .s (.int .i64 e18_cols), .s (.sl 4 (Nd.encs e18_kids))])], 1⟩ ?_ (fun σ' hle => ?_)
                  · replace h := hj
                    refine tri_cond rfl (fun hb => ?_) (fun hb => ?_)
                    · replace h := bif_t hb h
                      refine tri_skip ?_
                      cases h
                      exact (Le.rename [(0, 0)] _ _ _ ⟨rfl, rfl, rfl, rfl, rfl, trivial⟩ ⟨rfl, ⟨_, rfl, rfl⟩, trivial⟩ rfl rfl rfl rfl rfl)
                    · replace h := bif_f hb h
                      refine tri_seq ?_
                      refine tri_region (by exact tokW) (by exact gok) [] [] rfl ?_
                      show Tri _ _ _ _
                      refine tri_cond rfl (fun hb => ?_) (fun hb => ?_)
                      · replace h := bif_t hb h
                        refine tri_skip ?_
                        cases h
                        exact (Le.rename [(0, 0)] _ _ _ ⟨rfl, rfl, rfl, rfl, rfl, trivial⟩ ⟨rfl, ⟨_, rfl, rfl⟩, trivial⟩ rfl rfl rfl rfl rfl)
                      · replace h := bif_f hb h
                        refine tri_seq ?_
                        refine tri_region (by exact tokW) (by exact gok) [] [] rfl ?_
                        show Tri _ _ _ _
                        refine tri_cond rfl (fun hb => ?_) (fun hb => ?_)
                        · replace h := bif_t hb h
                          refine tri_skip ?_
                          cases h
                          exact (Le.rename [(0, 0)] _ _ _ ⟨rfl, rfl, rfl, rfl, rfl, trivial⟩ ⟨rfl, ⟨_, rfl, rfl⟩, trivial⟩ rfl rfl rfl rfl rfl)
                        · replace h := bif_f hb h
                          refine tri_seq ?_
                          refine tri_region (by exact tokW) (by exact gok) [] [] rfl ?_
                          show Tri _ _ _ _
                          refine tri_cond rfl (fun hb => ?_) (fun hb => ?_)
                          · replace h := bif_t hb h
                            refine tri_skip ?_
                            cases h
                            exact (Le.rename [(0, 0)] _ _ _ ⟨rfl, rfl, rfl, rfl, rfl, trivial⟩ ⟨rfl, ⟨_, rfl, rfl⟩, trivial⟩ rfl rfl rfl rfl rfl)
                          · replace h := bif_f hb h
                            refine tri_region (by exact tokW) (by exact gok) [] [] rfl ?_
                            cases h
                            exact (Le.rename [(0, 0)] _ _ _ ⟨rfl, rfl, rfl, rfl, rfl, trivial⟩ ⟨rfl, ⟨_, rfl, rfl⟩, trivial⟩ rfl rfl rfl rfl rfl)
                  · show Tri _ _ _ _
                    refine tri_le hle ?_
                    refine tri_cond rfl (fun hb => ?_) (fun hb => ?_)
                    · replace h := bif_t hb h
                      refine tri_seq ?_
                      refine tri_region (by exact tokW) (by exact gok) [] [] rfl ?_
                      show Tri _ _ _ _
                      refine tri_cond rfl (fun hb => ?_) (fun hb => ?_)
                      · replace h := bif_t hb h
                        refine tri_seq ?_
                        refine tri_region (by exact tokW) (by exact gok) [] [] rfl ?_
                        show Tri _ _ _ _
                        refine tri_seq ?_
                        refine tri_region (by exact tokW) (by exact gok) [] [171] rfl ?_
                        intro r35 hr35
                        obtain rfl : Nd.encs [Nd.mk e18_kind a2_text e18_cols e18_kids] = r35 := (hr35.trans (by simp [List.map_append, List.map_take, List.map_drop, irow, brow, b8of_row, List.map_cons, List.map_nil, b8of_wrap, Nd.encs_eq, Nd.enc, enc_13_node_kind, enc_node_checker, enc_node_inner, enc_diff_grid, enc_s_int, enc_string, enc_api_Op])).symm
                        obtain ⟨y36, hy36, h⟩ := bind_out h
                        refine ⟨_, ⟨_, _, _, _, _, hy36, rfl, rfl⟩, ?_⟩
                        show Tri _ _ _ _
                        refine tri_ret ?_
                        cases h
                        replace h : some _ = some _ := ho1
                        obtain ⟨hj1, hk1⟩ := Prod.mk.inj (Option.some.inj h)
                        subst hj1
                        subst hk1
                        unfold Gives
                        exact ⟨_, Le.refl _ _, rfl, rfl⟩
                      · replace h := bif_f hb h
                        refine tri_skip ?_
                        cases h
                        exact ⟨_, rfl, (Le.rename [] _ [] 0 trivial trivial rfl rfl rfl rfl rfl)⟩
                    · replace h := bif_f hb h
                      refine tri_skip ?_
                      cases h
                      exact ⟨_, rfl, (Le.rename [] _ [] 0 trivial trivial rfl rfl rfl rfl rfl)⟩
                · subst hz
                  obtain _ := z
                  replace h := ho1
                  show Tri _ _ _ _
                  refine tri_le hle ?_
                  refine tri_seq ?_
                  refine tri_region (by exact tokW) (by exact gok) [] [] rfl ?_
                  show Tri _ _ _ _
                  refine tri_ret ?_
                  obtain ⟨hj1, hk1⟩ := Prod.mk.inj (Option.some.inj h)
                  subst hj1
                  subst hk1
                  unfold Gives
                  exact ⟨_, Le.refl _ _, rfl, rfl⟩

/- vinculum/vinculumref12.put -/
def R_r12_put (n : Nat) (xs : List AV) (r : Ret) : Prop := ∃ (a0 : Nd) (a1 : List Int) (a2 : List Nd) (y0 : Nd), m_r12_put n a0 a1 a2 = some y0 ∧ xs = [.agg ((Nd.enc a0).map .s), .s (.sl 1 ((List.map (irow .i64)) a1)), .s (.sl 4 (Nd.encs a2))] ∧ r = .val (.agg ((Nd.enc y0).map .s))
set_option maxHeartbeats 2000000 in
set_option maxRecDepth 100000 in
theorem step_r12_put (n : Nat) (ih : PSound Try.prog 40 (pspec (R_r12_put n))) : PSound Try.prog 40 (pspec (R_r12_put (n + 1))) := by
  have gok : ∀ f s, look? f [(17, S_r09_ToRow), (40, pspec (R_r12_put n)), (56, S_r09_Replaced)] = some s → PSound Try.prog f s := look_all (by
    simp only [List.forall_mem_cons]
    exact ⟨ok_r09_ToRow, ih, ok_r09_Replaced, by simp⟩)
  refine psound tokW Try.call40 Try.func40 rfl (fun xs r h => by obtain ⟨_, _, _, _, _, rfl, _⟩ := h; show 3 ≤ 41; decide) 41 rfl ?_
  rintro xs r w0 G0 ⟨⟨n1_kind, n1_text, n1_cols, n1_kids⟩, path2, l3, y0, h, rfl, rfl⟩ _
  rw [m_r12_put] at h
  refine tri_seq ?_
  refine tri_region (by exact tokW) (by exact gok) [6] [] rfl ?_
  show Tri _ _ _ _
  refine tri_seq ?_
  refine tri_seq ?_
  refine tri_region (by exact tokW) (by exact gok) [] [9] rfl ?_
  intro n4 hn4
  obtain rfl : (path2.length : Int) = n4 := (hn4.trans (congrArg (fun m : Nat => (m : Int)) (rlen (fun _ => rfl) path2))).symm
  show Tri _ _ _ _
  refine tri_cond rfl (fun hb => ?_) (fun hb => ?_)
  · replace h := bif_t hb h
    refine tri_seq ?_
    refine tri_region (by exact tokW) (by exact gok) [] [] rfl ?_
    obtain ⟨⟨y5_kind, y5_text, y5_cols, y5_kids⟩, hy5, h⟩ := bind_out h
    refine ⟨_, ⟨_, _, hy5, rfl, rfl⟩, ?_⟩
    show Tri _ _ _ _
    refine tri_ret ?_
    have hy := Option.some.inj h
    subst hy
    unfold Gives
    exact ⟨_, Le.refl _ _, rfl, rfl⟩
  · replace h := bif_f hb h
    refine tri_skip ?_
    show Tri _ _ _ _
    refine tri_seq ?_
    refine tri_drawnR (by exact tokW) (by exact gok) (by exact mixed) [7] [16, 18] [7, 8] [] rfl (by decide +kernel) ?_
    obtain ⟨e6, he6, h⟩ := bind_out h
    refine And.intro (at_ok (fun _ => rfl) he6).1 ?_
    intro r7 hr7
    obtain rfl : [.int .i64 e6] = r7 := (hr7.trans (at_ok (fun _ => rfl) he6).2.1).symm
    obtain ⟨⟨e8_kind, e8_text, e8_cols, e8_kids⟩, he8, h⟩ := bind_out h
    refine And.intro (at_ok Nd.encs_eq he8).1 ?_
    intro r9 hr9
    obtain rfl : [.int .i64 e8_kind, .str e8_text, .int .i64 e8_cols, .sl 4 (Nd.encs e8_kids)] = r9 := (hr9.trans (at_ok Nd.encs_eq he8).2.1).symm
    show Tri _ _ _ _
    refine tri_le (Le.giveBox 1 [.int .i64 e8_kind, .str e8_text, .int .i64 e8_cols, .sl 4 (Nd.encs e8_kids)] rfl rfl) ?_
    refine tri_seq ?_
    refine tri_drawn (by exact tokW) (by exact gok) (by exact mixed) [] [22, 26, 31, 33, 36] [21] rfl (by decide +kernel) ?_
    obtain ⟨e10, he10, h⟩ := bind_out h
    refine And.intro (at_ok (fun _ => rfl) he10).1 ?_
    intro r11 hr11
    obtain rfl : [.int .i64 e10] = r11 := (hr11.trans (at_ok (fun _ => rfl) he10).2.1).symm
    obtain ⟨e12, he12, h⟩ := bind_out h
    refine And.intro (at_ok (fun _ => rfl) he12).1 ?_
    intro r13 hr13
    obtain rfl : [.int .i64 e12] = r13 := (hr13.trans (at_ok (fun _ => rfl) he12).2.1).symm
    obtain ⟨e14, he14, h⟩ := bind_out h
    refine And.intro (at_ok (fun _ => rfl) he14).1 ?_
    intro r15 hr15
    obtain rfl : [.int .i64 e14] = r15 := (hr15.trans (at_ok (fun _ => rfl) he14).2.1).symm
    obtain ⟨⟨e16_kind, e16_text, e16_cols, e16_kids⟩, he16, h⟩ := bind_out h
    refine And.intro (at_ok Nd.encs_eq he16).1 ?_
    intro r17 hr17
    obtain rfl : [.int .i64 e16_kind, .str e16_text, .int .i64 e16_cols, .sl 4 (Nd.encs e16_kids)] = r17 := (hr17.trans (at_ok Nd.encs_eq he16).2.1).symm
    obtain ⟨hq, h⟩ := req_out h
    refine And.intro ⟨hq.1, Int.le_trans hq.2.1 (Int.ofNat_le.2 (Nat.le_of_eq (rlen (fun _ => rfl) _).symm)), Int.le_refl _⟩ ?_
    intro r18 hr18
    obtain rfl : (List.map (irow .i64)) ((path2.take (path2.length : Int).toNat).drop (2 : Int).toNat) = r18 := (hr18.trans ((congrArg (fun m : Nat => (((List.map (irow .i64)) path2).take m).drop (2 : Int).toNat) (rlen (fun _ => rfl) _)).trans (rcut (fun _ => rfl) _ _ _))).symm
    obtain ⟨⟨y19_kind, y19_text, y19_cols, y19_kids⟩, hy19, h⟩ := bind_out h
    refine ⟨_, ⟨_, _, _, _, hy19, rfl, rfl⟩, ?_⟩
    obtain ⟨⟨y20_kind, y20_text, y20_cols, y20_kids⟩, hy20, h⟩ := bind_out h
    refine ⟨_, ⟨_, _, _, _, hy20, rfl, rfl⟩, ?_⟩
    obtain ⟨⟨y21_kind, y21_text, y21_cols, y21_kids⟩, hy21, h⟩ := bind_out h
    refine ⟨_, ⟨_, _, _, _, hy21, rfl, rfl⟩, ?_⟩
    show Tri _ _ _ _
    refine tri_ret ?_
    have hy := Option.some.inj h
    subst hy
    unfold Gives
    exact ⟨_, Le.refl _ _, rfl, rfl⟩
theorem all_r12_put : ∀ n, PSound Try.prog 40 (pspec (R_r12_put n)) := by
  intro n
  induction n with
  | zero => exact psound_none Try.call40 (fun xs r h => by obtain ⟨_, _, _, _, h, _⟩ := h; cases h)
  | succ n ih => exact step_r12_put n ih
def S_r12_put : PSpec := pspec fun xs r => ∃ n, R_r12_put n xs r
theorem ok_r12_put : PSound Try.prog 40 S_r12_put := psound_all all_r12_put

/- vinculum/vinculumref12.Apply -/
def R_r12_Apply (n : Nat) (xs : List AV) (r : Ret) : Prop := ∃ (a0 : Nd) (a1 : (Int × List Int × Int × Int × List Nd × Int × List UInt8 × List UInt8)) (y0 : Nd) (y1 : Int), m_r12_Apply n a0 a1 = some (y0, y1) ∧ xs = [.agg ((Nd.enc a0).map .s), .agg ((enc_api_Op a1).map .s)] ∧ r = .val (.tup [.agg ((Nd.enc y0).map .s), .s (.int .i64 y1)])
def S_r12_Apply : PSpec := pspec fun xs r => ∃ n, R_r12_Apply n xs r
set_option maxHeartbeats 2000000 in
set_option maxRecDepth 100000 in
theorem ok_r12_Apply : PSound Try.prog 27 S_r12_Apply := by
  have gok : ∀ f s, look? f [(10, S_r09_Valid), (37, S_r12_Formed), (38, S_r09_Row), (39, S_r12_change), (40, S_r12_put)] = some s → PSound Try.prog f s := look_all (by
    simp only [List.forall_mem_cons]
    exact ⟨ok_r09_Valid, ok_r12_Formed, ok_r09_Row, ok_r12_change, ok_r12_put, by simp⟩)
  refine psound tokW Try.call27 Try.func27 rfl (fun xs r h => by obtain ⟨n, _, _, _, _, _, rfl, _⟩ := h; show 2 ≤ 50; decide) 50 rfl ?_
  rintro xs r w0 G0 ⟨n, ⟨n1_kind, n1_text, n1_cols, n1_kids⟩, ⟨op2_kind, op2_row, op2_at, op2_n, op2_nodes, op2_slot, op2_old, op2_text⟩, y0, y1, h, rfl, rfl⟩ _
  rw [m_r12_Apply] at h
  refine tri_seq ?_
  refine tri_region (by exact tokW) (by exact gok) [4] [] rfl ?_
  show Tri _ _ _ _
  refine tri_seq ?_
  refine tri_seq ?_
  refine tri_region (by exact tokW) (by exact gok) [] [] rfl ?_
  obtain ⟨y3, hy3, h⟩ := bind_out h
  refine ⟨_, ⟨_, _, _, hy3, rfl, rfl⟩, ?_⟩
  show Tri _ _ _ _
  refine tri_cond rfl (fun hb => ?_) (fun hb => ?_)
  · replace h := bif_t hb h
    refine tri_seq ?_
    refine tri_region (by exact tokW) (by exact gok) [] [] rfl ?_
    show Tri _ _ _ _
    refine tri_ret ?_
    obtain ⟨hj1, hk1⟩ := Prod.mk.inj (Option.some.inj h)
    subst hj1
    subst hk1
    unfold Gives
    exact ⟨_, Le.refl _ _, rfl, rfl⟩
  · replace h := bif_f hb h
    refine tri_skip ?_
    show Tri _ _ _ _
    refine tri_seq ?_
    refine tri_seq ?_
    refine tri_region (by exact tokW) (by exact gok) [] [] rfl ?_
    obtain ⟨y4, hy4, h⟩ := bind_out h
    refine ⟨_, ⟨_, _, _, hy4, rfl, rfl⟩, ?_⟩
    show Tri _ _ _ _
    refine tri_cond rfl (fun hb => ?_) (fun hb => ?_)
    · replace h := bif_t hb h
      refine tri_seq ?_
      refine tri_region (by exact tokW) (by exact gok) [] [] rfl ?_
      show Tri _ _ _ _
      refine tri_ret ?_
      obtain ⟨hj1, hk1⟩ := Prod.mk.inj (Option.some.inj h)
      subst hj1
      subst hk1
      unfold Gives
      exact ⟨_, Le.refl _ _, rfl, rfl⟩
    · replace h := bif_f hb h
      refine tri_skip ?_
      show Tri _ _ _ _
      refine tri_seq ?_
      refine tri_region (by exact tokW) (by exact gok) [6] [] rfl ?_
      obtain ⟨⟨⟨y5_kind, y5_text, y5_cols, y5_kids⟩, y6⟩, hy5, h⟩ := bind_out h
      refine ⟨_, ⟨_, _, _, _, _, hy5, rfl, rfl⟩, ?_⟩
      show Tri _ _ _ _
      refine tri_le (Le.giveBox 1 [.int .i64 y5_kind, .str y5_text, .int .i64 y5_cols, .sl 4 (Nd.encs y5_kids)] rfl rfl) ?_
      refine tri_seq ?_
      refine tri_seq ?_
      refine tri_region (by exact tokW) (by exact gok) [] [] rfl ?_
      show Tri _ _ _ _
      refine tri_cond rfl (fun hb => ?_) (fun hb => ?_)
      · replace h := bif_t hb h
        refine tri_seq ?_
        refine tri_region (by exact tokW) (by exact gok) [] [] rfl ?_
        show Tri _ _ _ _
        refine tri_ret ?_
        obtain ⟨hj1, hk1⟩ := Prod.mk.inj (Option.some.inj h)
        subst hj1
        subst hk1
        unfold Gives
        exact ⟨_, Le.refl _ _, rfl, rfl⟩
      · replace h := bif_f hb h
        refine tri_skip ?_
        show Tri _ _ _ _
        refine tri_seq ?_
        refine tri_region (by exact tokW) (by exact gok) [] [] rfl ?_
        obtain ⟨⟨y7, y8⟩, hy7, h⟩ := bind_out h
        refine ⟨_, ⟨_, _, _, _, _, hy7, rfl, rfl⟩, ?_⟩
        show Tri _ _ _ _
        refine tri_seq ?_
        refine tri_seq ?_
        refine tri_region (by exact tokW) (by exact gok) [] [] rfl ?_
        show Tri _ _ _ _
        refine tri_cond rfl (fun hb => ?_) (fun hb => ?_)
        · replace h := bif_t hb h
          refine tri_seq ?_
          refine tri_region (by exact tokW) (by exact gok) [] [] rfl ?_
          show Tri _ _ _ _
          refine tri_ret ?_
          obtain ⟨hj1, hk1⟩ := Prod.mk.inj (Option.some.inj h)
          subst hj1
          subst hk1
          unfold Gives
          exact ⟨_, Le.refl _ _, rfl, rfl⟩
        · replace h := bif_f hb h
          refine tri_skip ?_
          show Tri _ _ _ _
          refine tri_seq ?_
          refine tri_region (by exact tokW) (by exact gok) [9] [] rfl ?_
          obtain ⟨⟨y9_kind, y9_text, y9_cols, y9_kids⟩, hy9, h⟩ := bind_out h
          refine ⟨_, ⟨_, _, _, _, _, hy9, rfl, rfl⟩, ?_⟩
          show Tri _ _ _ _
          refine tri_le (Le.giveBox 2 [.int .i64 y9_kind, .str y9_text, .int .i64 y9_cols, .sl 4 (Nd.encs y9_kids)] rfl rfl) ?_
          refine tri_seq ?_
          refine tri_seq ?_
          refine tri_region (by exact tokW) (by exact gok) [] [] rfl ?_
          obtain ⟨y10, hy10, h⟩ := bind_out h
          refine ⟨_, ⟨_, _, _, hy10, rfl, rfl⟩, ?_⟩
          show Tri _ _ _ _
          refine tri_cond rfl (fun hb => ?_) (fun hb => ?_)
          · replace h := bif_t hb h
            refine tri_seq ?_
            refine tri_region (by exact tokW) (by exact gok) [] [] rfl ?_
            show Tri _ _ _ _
            refine tri_ret ?_
            obtain ⟨hj1, hk1⟩ := Prod.mk.inj (Option.some.inj h)
            subst hj1
            subst hk1
            unfold Gives
            exact ⟨_, Le.refl _ _, rfl, rfl⟩
          · replace h := bif_f hb h
            refine tri_skip ?_
            show Tri _ _ _ _
            refine tri_seq ?_
            refine tri_region (by exact tokW) (by exact gok) [] [] rfl ?_
            show Tri _ _ _ _
            refine tri_ret ?_
            obtain ⟨hj1, hk1⟩ := Prod.mk.inj (Option.some.inj h)
            subst hj1
            subst hk1
            unfold Gives
            exact ⟨_, Le.refl _ _, rfl, rfl⟩

/- vinculum/vinculumref12.ApplyAll -/
def R_r12_ApplyAll (n : Nat) (xs : List AV) (r : Ret) : Prop := ∃ (a0 : Nd) (a1 : List (Int × List Int × Int × Int × List Nd × Int × List UInt8 × List UInt8)) (y0 : Nd) (y1 : Int) (y2 : Int), m_r12_ApplyAll n a0 a1 = some (y0, y1, y2) ∧ xs = [.agg ((Nd.enc a0).map .s), .s (.sl 8 ((List.map enc_api_Op) a1))] ∧ r = .val (.tup [.agg ((Nd.enc y0).map .s), .s (.int .i64 y1), .s (.int .i64 y2)])
def S_r12_ApplyAll : PSpec := pspec fun xs r => ∃ n, R_r12_ApplyAll n xs r
set_option maxHeartbeats 2000000 in
set_option maxRecDepth 100000 in
theorem ok_r12_ApplyAll : PSound Try.prog 14 S_r12_ApplyAll := by
  have gok : ∀ f s, look? f [(10, S_r09_Valid), (27, S_r12_Apply)] = some s → PSound Try.prog f s := look_all (by
    simp only [List.forall_mem_cons]
    exact ⟨ok_r09_Valid, ok_r12_Apply, by simp⟩)
  refine psound tokW Try.call14 Try.func14 rfl (fun xs r h => by obtain ⟨n, _, _, _, _, _, _, rfl, _⟩ := h; show 2 ≤ 36; decide) 36 rfl ?_
  rintro xs r w0 G0 ⟨n, ⟨n1_kind, n1_text, n1_cols, n1_kids⟩, ops2, y0, y1, y2, h, rfl, rfl⟩ _
  rw [m_r12_ApplyAll] at h
  refine tri_seq ?_
  refine tri_region (by exact tokW) (by exact gok) [2, 4] [] rfl ?_
  show Tri _ _ _ _
  refine tri_seq ?_
  refine tri_seq ?_
  refine tri_region (by exact tokW) (by exact gok) [] [] rfl ?_
  obtain ⟨y3, hy3, h⟩ := bind_out h
  refine ⟨_, ⟨_, _, _, hy3, rfl, rfl⟩, ?_⟩
  show Tri _ _ _ _
  refine tri_cond rfl (fun hb => ?_) (fun hb => ?_)
  · replace h := bif_t hb h
    refine tri_seq ?_
    refine tri_region (by exact tokW) (by exact gok) [] [] rfl ?_
    show Tri _ _ _ _
    refine tri_ret ?_
    obtain ⟨hj1, hk1⟩ := Prod.mk.inj (Option.some.inj h)
    subst hj1
    obtain ⟨hj2, hk2⟩ := Prod.mk.inj hk1
    subst hj2
    subst hk2
    unfold Gives
    exact ⟨_, Le.refl _ _, rfl, rfl⟩
  · replace h := bif_f hb h
    refine tri_skip ?_
    show Tri _ _ _ _
    refine tri_seq ?_
    refine tri_seq ?_
    refine tri_region (by exact tokW) (by exact gok) [] [] rfl ?_
    show Tri _ _ _ _
    obtain ⟨fl, hl, ho1⟩ := bind_out h
    refine tri_fl (fl := fl) (fun z => match z with | ⟨x10, x11, x12, x13⟩ => ⟨ofL [(2, .op 0 0), (4, .op 1 0)], ofH [(0, .box [.s (.int .i64 x10), .s (.str x11), .s (.int .i64 x12), .s (.sl 4 (Nd.encs x13))]), (1, .box [.s (.int .i64 0), .s (.str []), .s (.int .i64 0), .nl 4])], 2⟩) ?_ (fun z σ' hz hle => ?_)
    · refine tri_block (tri_loopI (X := Nat × Int × (List UInt8) × Int × (List Nd) × Int) (fun y => match y with | (k, x4, x5, x6, x7, i9) => ⟨ofL [(1, .s (.sl 8 ((List.map enc_api_Op) ops2))), (2, .op 0 0), (4, .op 1 0), (7, .s (.int .i64 i9))], ofH [(0, .box [.s (.int .i64 x4), .s (.str x5), .s (.int .i64 x6), .s (.sl 4 (Nd.encs x7))]), (1, .box [.s (.int .i64 0), .s (.str []), .s (.int .i64 0), .nl 4])], 2⟩) (fun y => m_r12_ApplyAll_l1 n ops2 y.1 y.2.1 y.2.2.1 y.2.2.2.1 y.2.2.2.2.1 y.2.2.2.2.2 = some fl) (fun y => y.1) (n, n1_kind, n1_text, n1_cols, n1_kids, 0) hl ?_ ?_)
      · exact (Le.rename [(0, 0), (1, 1)] _ _ _ ⟨rfl, rfl, rfl, rfl, trivial⟩ ⟨rfl, ⟨_, rfl, rfl⟩, rfl, ⟨_, rfl, rfl⟩, trivial⟩ rfl rfl rfl rfl rfl)
      · rintro ⟨k, x4, x5, x6, x7, i9⟩ h
        cases k with
        | zero => cases h
        | succ k =>
          replace h : m_r12_ApplyAll_l1 n ops2 (k+1) x4 x5 x6 x7 i9 = some fl := h
          rw [m_r12_ApplyAll_l1] at h
          refine tri_seq ?_
          refine tri_seq ?_
          refine tri_region (by exact tokW) (by exact gok) [] [16] rfl ?_
          intro n14 hn14
          obtain rfl : (ops2.length : Int) = n14 := (hn14.trans (congrArg (fun m : Nat => (m : Int)) (rlen (fun _ => rfl) ops2))).symm
          show Tri _ _ _ _
          refine tri_cond rfl (fun hb => ?_) (fun hb => ?_)
          · replace h := bif_t hb h
            refine tri_skip ?_
            show Tri _ _ _ _
            refine tri_seq ?_
            refine tri_block ?_
            refine tri_seq ?_
            refine tri_drawnR (by exact tokW) (by exact gok) (by exact mixed) [8] [24] [0, 9, 10] [0] rfl (by decide +kernel) ?_
            obtain ⟨⟨e15_kind, e15_row, e15_at, e15_n, e15_nodes, e15_slot, e15_old, e15_text⟩, he15, h⟩ := bind_out h
            refine And.intro (at_ok (fun _ => rfl) he15).1 ?_
            intro r16 hr16
            obtain rfl : [.int .i64 e15_kind, .sl 1 ((List.map (irow .i64)) e15_row), .int .i64 e15_at, .int .i64 e15_n, .sl 4 (Nd.encs e15_nodes), .int .i64 e15_slot, .str e15_old, .str e15_text] = r16 := (hr16.trans (at_ok (fun _ => rfl) he15).2.1).symm
            obtain ⟨⟨⟨y17_kind, y17_text, y17_cols, y17_kids⟩, y18⟩, hy17, h⟩ := bind_out h
            refine ⟨_, ⟨_, _, _, _, _, hy17, rfl, rfl⟩, ?_⟩
            show Tri _ _ _ _
            refine tri_le (Le.giveBox 2 [.int .i64 y17_kind, .str y17_text, .int .i64 y17_cols, .sl 4 (Nd.encs y17_kids)] rfl rfl) ?_
            refine tri_seq ?_
            refine tri_seq ?_
            refine tri_region (by exact tokW) (by exact gok) [] [] rfl ?_
            show Tri _ _ _ _
            refine tri_cond rfl (fun hb => ?_) (fun hb => ?_)
            · replace h := bif_t hb h
              refine tri_seq ?_
              refine tri_region (by exact tokW) (by exact gok) [] [] rfl ?_
              show Tri _ _ _ _
              refine tri_ret ?_
              cases h
              replace h : some _ = some _ := ho1
              obtain ⟨hj1, hk1⟩ := Prod.mk.inj (Option.some.inj h)
              subst hj1
              obtain ⟨hj2, hk2⟩ := Prod.mk.inj hk1
              subst hj2
              subst hk2
              unfold Gives
              exact ⟨_, Le.refl _ _, rfl, rfl⟩
            · replace h := bif_f hb h
              refine tri_skip ?_
              show Tri _ _ _ _
              refine tri_region (by exact tokW) (by exact gok) [] [] rfl ?_
              show Tri _ _ _ _
              refine tri_region (by exact tokW) (by exact gok) [] [] rfl ?_
              refine ⟨(k, y17_kind, y17_text, y17_cols, y17_kids, IntKind.i64.wrap (i9 + 1)), h, (Le.rename [(0, 0), (1, 1)] _ _ _ ⟨rfl, rfl, rfl, rfl, trivial⟩ ⟨rfl, ⟨_, rfl, rfl⟩, rfl, ⟨_, rfl, rfl⟩, trivial⟩ rfl rfl rfl rfl rfl), Nat.lt_succ_self k⟩
          · replace h := bif_f hb h
            refine tri_exit ?_
            cases h
            exact ⟨_, rfl, (Le.rename [(0, 0), (1, 1)] _ _ _ ⟨rfl, rfl, trivial⟩ ⟨rfl, ⟨_, rfl, rfl⟩, rfl, ⟨_, rfl, rfl⟩, trivial⟩ rfl rfl rfl rfl rfl)⟩
    · subst hz
      obtain ⟨x10, x11, x12, x13⟩ := z
      replace h := ho1
      show Tri _ _ _ _
      refine tri_le hle ?_
      refine tri_seq ?_
      refine tri_region (by exact tokW) (by exact gok) [] [] rfl ?_
      show Tri _ _ _ _
      refine tri_ret ?_
      obtain ⟨hj1, hk1⟩ := Prod.mk.inj (Option.some.inj h)
      subst hj1
      obtain ⟨hj2, hk2⟩ := Prod.mk.inj hk1
      subst hj2
      subst hk2
      unfold Gives
      exact ⟨_, Le.refl _ _, rfl, rfl⟩

/- vinculum/vinculumref16.Weight -/
def R_r16_Weight (n : Nat) (xs : List AV) (r : Ret) : Prop := ∃ (a0 : List (Int × List Int × Int × Int × List Nd × Int × List UInt8 × List UInt8)) (y0 : Int) (y1 : Int), m_r16_Weight n a0 = some (y0, y1) ∧ xs = [.s (.sl 8 ((List.map enc_api_Op) a0))] ∧ r = .val (.tup [.s (.int .i64 y0), .s (.int .i64 y1)])
def S_r16_Weight : PSpec := pspec fun xs r => ∃ n, R_r16_Weight n xs r
set_option maxHeartbeats 2000000 in
set_option maxRecDepth 100000 in
theorem ok_r16_Weight : PSound Try.prog 15 S_r16_Weight := by
  have gok : ∀ f s, look? f [(23, S_r09_Count)] = some s → PSound Try.prog f s := look_all (by
    simp only [List.forall_mem_cons]
    exact ⟨ok_r09_Count, by simp⟩)
  refine psound tokW Try.call15 Try.func15 rfl (fun xs r h => by obtain ⟨n, _, _, _, _, rfl, _⟩ := h; show 1 ≤ 47; decide) 47 rfl ?_
  rintro xs r w0 G0 ⟨n, ops1, y0, y1, h, rfl, rfl⟩ _
  rw [m_r16_Weight] at h
  refine tri_seq ?_
  refine tri_region (by exact tokW) (by exact gok) [] [] rfl ?_
  show Tri _ _ _ _
  refine tri_seq ?_
  refine tri_region (by exact tokW) (by exact gok) [] [] rfl ?_
  show Tri _ _ _ _
  refine tri_seq ?_
  refine tri_seq ?_
  refine tri_region (by exact tokW) (by exact gok) [] [] rfl ?_
  show Tri _ _ _ _
  obtain ⟨fl, hl, ho1⟩ := bind_out h
  refine tri_fl (fl := fl) (fun z => match z with | n4 => ⟨ofL [(4, .s (.int .i64 n4))], fun _ => none, 0⟩) ?_ (fun n4 σ' hz hle => ?_)
  · refine tri_block (tri_loopI (X := Nat × Int × Int) (fun y => match y with | (k, n2, i3) => ⟨ofL [(0, .s (.sl 8 ((List.map enc_api_Op) ops1))), (4, .s (.int .i64 n2)), (5, .s (.int .i64 i3))], fun _ => none, 0⟩) (fun y => m_r16_Weight_l1 n ops1 y.1 y.2.1 y.2.2 = some fl) (fun y => y.1) (n, 0, 0) hl ?_ ?_)
    · exact (Le.forget _ ⟨rfl, rfl, rfl, trivial⟩)
    · rintro ⟨k, n2, i3⟩ h
      cases k with
      | zero => cases h
      | succ k =>
        replace h : m_r16_Weight_l1 n ops1 (k+1) n2 i3 = some fl := h
        rw [m_r16_Weight_l1] at h
        refine tri_seq ?_
        refine tri_seq ?_
        refine tri_region (by exact tokW) (by exact gok) [] [9] rfl ?_
        intro n5 hn5
        obtain rfl : (ops1.length : Int) = n5 := (hn5.trans (congrArg (fun m : Nat => (m : Int)) (rlen (fun _ => rfl) ops1))).symm
        show Tri _ _ _ _
        refine tri_cond rfl (fun hb => ?_) (fun hb => ?_)
        · replace h := bif_t hb h
          refine tri_skip ?_
          show Tri _ _ _ _
          refine tri_seq ?_
          obtain ⟨fl, hj, ho2⟩ := bind_out h
          refine tri_fl (fl := fl) (fun z => match z with | n6 => ⟨ofL [(0, .s (.sl 8 ((List.map enc_api_Op) ops1))), (4, .s (.int .i64 n6)), (5, .s (.int .i64 i3))], fun _ => none, 0⟩) ?_ (fun n6 σ' hz hle => ?_)
          · replace h := hj
            refine tri_block ?_
            refine tri_seq ?_
            refine tri_region (by exact tokW) (by exact gok) [] [15] rfl ?_
            obtain ⟨⟨e7_kind, e7_row, e7_at, e7_n, e7_nodes, e7_slot, e7_old, e7_text⟩, he7, h⟩ := bind_out h
            refine And.intro (at_ok (fun _ => rfl) he7).1 ?_
            intro r8 hr8
            obtain rfl : [.int .i64 e7_kind, .sl 1 ((List.map (irow .i64)) e7_row), .int .i64 e7_at, .int .i64 e7_n, .sl 4 (Nd.encs e7_nodes), .int .i64 e7_slot, .str e7_old, .str e7_text] = r8 := (hr8.trans (at_ok (fun _ => rfl) he7).2.1).symm
            show Tri _ _ _ _
            refine tri_block ?_
            refine tri_seq ?_
            refine tri_seq ?_
            refine tri_region (by exact tokW) (by exact gok) [] [] rfl ?_
            show Tri _ _ _ _
            obtain ⟨x9, hj, h⟩ := bind_out h
            refine tri_post ⟨ofL [(0, .s (.sl 8 ((List.map enc_api_Op) ops1))), (4, .s (.int .i64 n2)), (5, .s (.int .i64 i3)), (17, .s (.int .i64 e7_kind)), (18, .s (.bool x9))], fun _ => none, 0⟩ ?_ (fun σ' hle => ?_)
            · replace h := hj
              refine tri_cond rfl (fun hb => ?_) (fun hb => ?_)
              · replace h := bif_t hb h
                refine tri_skip ?_
                cases h
                exact (Le.forget _ ⟨rfl, rfl, rfl, rfl, rfl, trivial⟩)
              · replace h := bif_f hb h
                refine tri_region (by exact tokW) (by exact gok) [] [] rfl ?_
                cases h
                exact (Le.forget _ ⟨rfl, rfl, rfl, rfl, rfl, trivial⟩)
            · show Tri _ _ _ _
              refine tri_le hle ?_
              refine tri_cond rfl (fun hb => ?_) (fun hb => ?_)
              · replace h := bif_t hb h
                refine tri_seq ?_
                refine tri_region (by exact tokW) (by exact gok) [] [] rfl ?_
                show Tri _ _ _ _
                obtain ⟨n12, hl, h⟩ := bind_out h
                refine tri_post ⟨ofL [(0, .s (.sl 8 ((List.map enc_api_Op) ops1))), (4, .s (.int .i64 n12)), (5, .s (.int .i64 i3))], fun _ => none, 0⟩ ?_ (fun σ' hle => ?_)
                · refine tri_block (tri_loopI (X := Nat × Int × Int) (fun y => match y with | (k, n10, k11) => ⟨ofL [(0, .s (.sl 8 ((List.map enc_api_Op) ops1))), (4, .s (.int .i64 n10)), (5, .s (.int .i64 i3)), (6, .s (.int .i64 k11))], fun _ => none, 0⟩) (fun y => m_r16_Weight_l2 n ops1 i3 y.1 y.2.1 y.2.2 = some n12) (fun y => y.1) (n, n2, 0) hl ?_ ?_)
                  · exact (Le.forget _ ⟨rfl, rfl, rfl, rfl, trivial⟩)
                  · rintro ⟨k, n10, k11⟩ h
                    cases k with
                    | zero => cases h
                    | succ k =>
                      replace h : m_r16_Weight_l2 n ops1 i3 (k+1) n10 k11 = some n12 := h
                      rw [m_r16_Weight_l2] at h
                      refine tri_seq ?_
                      refine tri_seq ?_
                      refine tri_region (by exact tokW) (by exact gok) [] [24, 27] rfl ?_
                      obtain ⟨⟨e13_kind, e13_row, e13_at, e13_n, e13_nodes, e13_slot, e13_old, e13_text⟩, he13, h⟩ := bind_out h
                      refine And.intro (at_ok (fun _ => rfl) he13).1 ?_
                      intro r14 hr14
                      obtain rfl : [.int .i64 e13_kind, .sl 1 ((List.map (irow .i64)) e13_row), .int .i64 e13_at, .int .i64 e13_n, .sl 4 (Nd.encs e13_nodes), .int .i64 e13_slot, .str e13_old, .str e13_text] = r14 := (hr14.trans (at_ok (fun _ => rfl) he13).2.1).symm
                      intro n15 hn15
                      obtain rfl : (e13_nodes.length : Int) = n15 := (hn15.trans (congrArg (fun m : Nat => (m : Int)) (rlen Nd.encs_eq e13_nodes))).symm
                      show Tri _ _ _ _
                      refine tri_cond rfl (fun hb => ?_) (fun hb => ?_)
                      · replace h := bif_t hb h
                        refine tri_skip ?_
                        show Tri _ _ _ _
                        refine tri_seq ?_
                        refine tri_block ?_
                        refine tri_region (by exact tokW) (by exact gok) [] [34, 38] rfl ?_
                        obtain ⟨⟨e16_kind, e16_row, e16_at, e16_n, e16_nodes, e16_slot, e16_old, e16_text⟩, he16, h⟩ := bind_out h
                        refine And.intro (at_ok (fun _ => rfl) he16).1 ?_
                        intro r17 hr17
                        obtain rfl : [.int .i64 e16_kind, .sl 1 ((List.map (irow .i64)) e16_row), .int .i64 e16_at, .int .i64 e16_n, .sl 4 (Nd.encs e16_nodes), .int .i64 e16_slot, .str e16_old, .str e16_text] = r17 := (hr17.trans (at_ok (fun _ => rfl) he16).2.1).symm
                        obtain ⟨⟨e18_kind, e18_text, e18_cols, e18_kids⟩, he18, h⟩ := bind_out h
                        refine And.intro (at_ok Nd.encs_eq he18).1 ?_
                        intro r19 hr19
                        obtain rfl : [.int .i64 e18_kind, .str e18_text, .int .i64 e18_cols, .sl 4 (Nd.encs e18_kids)] = r19 := (hr19.trans (at_ok Nd.encs_eq he18).2.1).symm
                        obtain ⟨y20, hy20, h⟩ := bind_out h
                        refine ⟨_, ⟨_, _, _, hy20, rfl, rfl⟩, ?_⟩
                        show Tri _ _ _ _
                        refine tri_region (by exact tokW) (by exact gok) [] [] rfl ?_
                        refine ⟨(k, IntKind.i64.wrap (n10 + y20), IntKind.i64.wrap (k11 + 1)), h, (Le.forget _ ⟨rfl, rfl, rfl, rfl, trivial⟩), Nat.lt_succ_self k⟩
                      · replace h := bif_f hb h
                        refine tri_exit ?_
                        cases h
                        exact (Le.forget _ ⟨rfl, rfl, rfl, trivial⟩)
                · cases h
                  exact ⟨_, rfl, (Le.trans hle (Le.forget _ ⟨rfl, rfl, rfl, trivial⟩))⟩
              · replace h := bif_f hb h
                refine tri_seq ?_
                refine tri_region (by exact tokW) (by exact gok) [] [] rfl ?_
                show Tri _ _ _ _
                refine tri_cond rfl (fun hb => ?_) (fun hb => ?_)
                · replace h := bif_t hb h
                  refine tri_region (by exact tokW) (by exact gok) [] [] rfl ?_
                  cases h
                  exact ⟨_, rfl, (Le.forget _ ⟨rfl, rfl, rfl, trivial⟩)⟩
                · replace h := bif_f hb h
                  refine tri_seq ?_
                  refine tri_region (by exact tokW) (by exact gok) [] [] rfl ?_
                  show Tri _ _ _ _
                  refine tri_ret ?_
                  cases h
                  replace h : some _ = some _ := ho2
                  cases h
                  replace h : some _ = some _ := ho1
                  obtain ⟨hj1, hk1⟩ := Prod.mk.inj (Option.some.inj h)
                  subst hj1
                  subst hk1
                  unfold Gives
                  exact ⟨_, Le.refl _ _, rfl, rfl⟩
          · subst hz
            replace h := ho2
            show Tri _ _ _ _
            refine tri_le hle ?_
            refine tri_region (by exact tokW) (by exact gok) [] [] rfl ?_
            refine ⟨(k, n6, IntKind.i64.wrap (i3 + 1)), h, (Le.forget _ ⟨rfl, rfl, rfl, trivial⟩), Nat.lt_succ_self k⟩
        · replace h := bif_f hb h
          refine tri_exit ?_
          cases h
          exact ⟨_, rfl, (Le.forget _ ⟨rfl, trivial⟩)⟩
  · subst hz
    replace h := ho1
    show Tri _ _ _ _
    refine tri_le hle ?_
    refine tri_seq ?_
    refine tri_region (by exact tokW) (by exact gok) [] [] rfl ?_
    show Tri _ _ _ _
    refine tri_ret ?_
    obtain ⟨hj1, hk1⟩ := Prod.mk.inj (Option.some.inj h)
    subst hj1
    subst hk1
    unfold Gives
    exact ⟨_, Le.refl _ _, rfl, rfl⟩

end Go.Proofs.Ytplekejomocalaa
