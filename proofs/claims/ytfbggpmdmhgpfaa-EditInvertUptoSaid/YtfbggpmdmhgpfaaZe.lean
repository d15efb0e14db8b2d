/-
  Joined out of: EdE, LibE, EdF, RfA, RfB, LibV, MEi, LibK, EdGA, MEj, EdH, PTypO.
-/
import Derived.RangeFuncNested
import Derived.RangeFuncLeaves
import Derived.RangeFuncRecord
import Derived.Test.YtfbggpmdmhgpfaaZd
set_option linter.unusedVariables false
set_option linter.unusedSimpArgs false
namespace Go.Proofs.Ytfbggpmdmhgpfaa
open Go.Abs
def enc_s_api_Node (p : List Nd) : List S := [.sl 4 (Nd.encs p)]
def R_slices_Concat_sNode (n : Nat) (xs : List AV) (r : Ret) : Prop := ∃ (a0 : List (List Nd)) (y0 : List Nd), m_slices_Concat_sNode n a0 = some y0 ∧ xs = [.s (.sl 1 ((List.map enc_s_api_Node) a0))] ∧ r = .row 24 4 (Nd.encs y0)
def S_slices_Concat_sNode : PSpec := pspec fun xs r => ∃ n, R_slices_Concat_sNode n xs r
set_option maxHeartbeats 2000000 in
set_option maxRecDepth 100000 in
theorem ok_slices_Concat_sNode : PSound Try.prog 98 S_slices_Concat_sNode := by
  have gok : ∀ f s, look? f [(106, S_slices_Grow_sNode)] = some s → PSound Try.prog f s := look_all (by
    simp only [List.forall_mem_cons]
    exact ⟨ok_slices_Grow_sNode, by simp⟩)
  refine psound tokW Try.call98 Try.func98 rfl (fun xs r h => by obtain ⟨n, _, _, _, rfl, _⟩ := h; show 1 ≤ 36; decide) 36 rfl ?_
  rintro xs r w0 G0 ⟨n, slices1, y0, h, rfl, rfl⟩ _
  rw [m_slices_Concat_sNode] at h
  refine tri_seq ?_
  refine tri_region (by exact tokW) (by exact gok) [2] [] rfl ?_
  show Tri _ _ _ _
  refine tri_le (Le.rename [] [(0, .s (.sl 1 ((List.map enc_s_api_Node) slices1)))] [] 0 ⟨rfl, trivial⟩ trivial rfl rfl rfl rfl rfl) ?_
  refine tri_seq ?_
  refine tri_region (by exact tokW) (by exact gok) [] [] rfl ?_
  show Tri _ _ _ _
  refine tri_seq ?_
  refine tri_seq ?_
  refine tri_region (by exact tokW) (by exact gok) [] [10] rfl ?_
  intro n2 hn2
  obtain rfl : (slices1.length : Int) = n2 := (hn2.trans (congrArg (fun m : Nat => (m : Int)) (rlen (fun _ => rfl) slices1))).symm
  show Tri _ _ _ _
  obtain ⟨size5, hl, h⟩ := bind_out h
  refine tri_post ⟨ofL [(0, .s (.sl 1 ((List.map enc_s_api_Node) slices1))), (3, .s (.int .i64 size5))], fun _ => none, 0⟩ ?_ (fun σ' hle => ?_)
  · refine tri_block (tri_loopI (X := Nat × Int × Int) (fun y => match y with | (k, x3, size4) => ⟨ofL [(0, .s (.sl 1 ((List.map enc_s_api_Node) slices1))), (3, .s (.int .i64 size4)), (9, .s (.sl 1 ((List.map enc_s_api_Node) slices1))), (10, .s (.int .i64 (slices1.length : Int))), (11, .s (.int .i64 x3))], fun _ => none, 0⟩) (fun y => m_slices_Concat_sNode_l1 slices1 y.1 y.2.1 y.2.2 = some size5) (fun y => y.1) (n, 0, 0) hl ?_ ?_)
    · exact (Le.forget _ ⟨rfl, rfl, rfl, rfl, rfl, trivial⟩)
    · rintro ⟨k, x3, size4⟩ h
      cases k with
      | zero => cases h
      | succ k =>
        replace h : m_slices_Concat_sNode_l1 slices1 (k+1) x3 size4 = some size5 := h
        rw [m_slices_Concat_sNode_l1] at h
        refine tri_seq ?_
        refine tri_region (by exact tokW) (by exact gok) [] [] rfl ?_
        show Tri _ _ _ _
        refine tri_seq ?_
        refine tri_cond rfl (fun hb => ?_) (fun hb => ?_)
        · replace h := bif_t hb h
          refine tri_skip ?_
          show Tri _ _ _ _
          refine tri_seq ?_
          refine tri_block ?_
          refine tri_seq ?_
          refine tri_region (by exact tokW) (by exact gok) [] [13] rfl ?_
          obtain ⟨e6, he6, h⟩ := bind_out h
          refine And.intro (at_ok (fun _ => rfl) he6).1 ?_
          intro r7 hr7
          obtain rfl : [.sl 4 (Nd.encs e6)] = r7 := (hr7.trans (at_ok (fun _ => rfl) he6).2.1).symm
          show Tri _ _ _ _
          refine tri_seq ?_
          refine tri_region (by exact tokW) (by exact gok) [] [17] rfl ?_
          intro n8 hn8
          obtain rfl : (e6.length : Int) = n8 := (hn8.trans (congrArg (fun m : Nat => (m : Int)) (rlen Nd.encs_eq e6))).symm
          show Tri _ _ _ _
          refine tri_seq ?_
          refine tri_region (by exact tokW) (by exact gok) [] [] rfl ?_
          show Tri _ _ _ _
          refine tri_cond rfl (fun hb => ?_) (fun hb => ?_)
          · replace h := bif_t hb h
            cases h
          · replace h := bif_f hb h
            refine tri_skip ?_
            show Tri _ _ _ _
            refine tri_region (by exact tokW) (by exact gok) [] [] rfl ?_
            refine ⟨(k, IntKind.i64.wrap (x3 + 1), IntKind.i64.wrap (size4 + (e6.length : Int))), h, (Le.forget _ ⟨rfl, rfl, rfl, rfl, rfl, trivial⟩), Nat.lt_succ_self k⟩
        · replace h := bif_f hb h
          refine tri_exit ?_
          cases h
          exact (Le.forget _ ⟨rfl, rfl, trivial⟩)
  · show Tri _ _ _ _
    refine tri_le hle ?_
    refine tri_seq ?_
    refine tri_region (by exact tokW) (by exact gok) [24] [] rfl ?_
    obtain ⟨y9, hy9, h⟩ := bind_out h
    refine ⟨_, ⟨_, _, hy9, rfl, rfl⟩, ?_⟩
    show Tri _ _ _ _
    refine tri_seq ?_
    refine tri_seq ?_
    refine tri_region (by exact tokW) (by exact gok) [] [26] rfl ?_
    intro n10 hn10
    obtain rfl : (slices1.length : Int) = n10 := (hn10.trans (congrArg (fun m : Nat => (m : Int)) (rlen (fun _ => rfl) slices1))).symm
    show Tri _ _ _ _
    obtain ⟨l14, hl, h⟩ := bind_out h
    refine tri_post ⟨ofL [(6, .orow 0)], ofH [(0, .row 24 4 (Nd.encs l14))], 1⟩ ?_ (fun σ' hle => ?_)
    · refine tri_block (tri_loopI (X := Nat × Int × (List Nd)) (fun y => match y with | (k, x11, l13) => ⟨ofL [(6, .orow 0), (25, .s (.sl 1 ((List.map enc_s_api_Node) slices1))), (26, .s (.int .i64 (slices1.length : Int))), (27, .s (.int .i64 x11))], ofH [(0, .row 24 4 (Nd.encs l13))], 1⟩) (fun y => m_slices_Concat_sNode_l2 slices1 y.1 y.2.1 y.2.2 = some l14) (fun y => y.1) (n, 0, y9) hl ?_ ?_)
      · exact (Le.rename [(0, 0)] _ _ _ ⟨rfl, rfl, rfl, rfl, trivial⟩ ⟨rfl, ⟨_, rfl, rfl⟩, trivial⟩ rfl rfl rfl rfl rfl)
      · rintro ⟨k, x11, l13⟩ h
        cases k with
        | zero => cases h
        | succ k =>
          replace h : m_slices_Concat_sNode_l2 slices1 (k+1) x11 l13 = some l14 := h
          rw [m_slices_Concat_sNode_l2] at h
          refine tri_seq ?_
          refine tri_region (by exact tokW) (by exact gok) [] [] rfl ?_
          show Tri _ _ _ _
          refine tri_seq ?_
          refine tri_cond rfl (fun hb => ?_) (fun hb => ?_)
          · replace h := bif_t hb h
            refine tri_skip ?_
            show Tri _ _ _ _
            refine tri_seq ?_
            refine tri_block ?_
            refine tri_seq ?_
            refine tri_region (by exact tokW) (by exact gok) [] [29] rfl ?_
            obtain ⟨e15, he15, h⟩ := bind_out h
            refine And.intro (at_ok (fun _ => rfl) he15).1 ?_
            intro r16 hr16
            obtain rfl : [.sl 4 (Nd.encs e15)] = r16 := (hr16.trans (at_ok (fun _ => rfl) he15).2.1).symm
            show Tri _ _ _ _
            refine tri_region (by exact tokW) (by exact gok) [33] [] rfl ?_
            obtain ⟨hq, h⟩ := req_out h
            refine And.intro (show ((Nd.encs l13).length + (Nd.encs e15).length) * 56 ≤ 140737488355328 ∧ (Nd.encs l13).length + (Nd.encs e15).length ≤ 9223372036854775807 from by simp only [List.length_append, List.length_cons, List.length_nil, List.length_map, rlen Nd.encs_eq] at hq ⊢; omega) ?_
            show Tri _ _ _ _
            refine tri_le (Le.rename [(1, 0)] [(6, .orow 0), (25, .s (.sl 1 ((List.map enc_s_api_Node) slices1))), (26, .s (.int .i64 (slices1.length : Int))), (27, .s (.int .i64 x11))] [(0, .row 24 4 (Nd.encs (l13 ++ e15)))] 1 ⟨rfl, rfl, rfl, rfl, trivial⟩ ⟨rfl, ⟨_, rfl, congrArg (Ob.row 24 4) (by simp [List.map_append, List.map_take, List.map_drop, irow, brow, b8of_row, List.map_cons, List.map_nil, b8of_wrap, Nd.encs_eq, Nd.enc, enc_13_node_kind, enc_node_checker, enc_s_api_Node])⟩, trivial⟩ rfl rfl rfl rfl rfl) ?_
            refine tri_region (by exact tokW) (by exact gok) [] [] rfl ?_
            refine ⟨(k, IntKind.i64.wrap (x11 + 1), l13 ++ e15), h, (Le.rename [(0, 0)] _ _ _ ⟨rfl, rfl, rfl, rfl, trivial⟩ ⟨rfl, ⟨_, rfl, rfl⟩, trivial⟩ rfl rfl rfl rfl rfl), Nat.lt_succ_self k⟩
          · replace h := bif_f hb h
            refine tri_exit ?_
            cases h
            exact (Le.rename [(0, 0)] _ _ _ ⟨rfl, trivial⟩ ⟨rfl, ⟨_, rfl, rfl⟩, trivial⟩ rfl rfl rfl rfl rfl)
    · show Tri _ _ _ _
      refine tri_le hle ?_
      refine tri_seq ?_
      refine tri_region (by exact tokW) (by exact gok) [] [] rfl ?_
      show Tri _ _ _ _
      refine tri_ret ?_
      have hy := Option.some.inj h
      subst hy
      unfold Gives
      exact ⟨_, Le.refl _ _, 0, rfl, rfl⟩
def enc_edit_change (p : ((Int × List Int × Int × Int × List Nd × Int × List UInt8 × List UInt8) × List Nd)) : List S := [.int .i64 p.1.1, .sl 1 ((List.map (irow .i64)) p.1.2.1), .int .i64 p.1.2.2.1, .int .i64 p.1.2.2.2.1, .sl 4 (Nd.encs p.1.2.2.2.2.1), .int .i64 p.1.2.2.2.2.2.1, .str p.1.2.2.2.2.2.2.1, .str p.1.2.2.2.2.2.2.2, .sl 4 (Nd.encs p.2)]
def R_edit_change_join (n : Nat) (xs : List AV) (r : Ret) : Prop := ∃ (a0 : ((Int × List Int × Int × Int × List Nd × Int × List UInt8 × List UInt8) × List Nd)) (a1 : Int) (a2 : List Nd) (y0 : List Nd), m_edit_change_join n a0 a1 a2 = some y0 ∧ xs = [.agg ((enc_edit_change a0).map .s), .s (.int .i64 a1), .s (.sl 4 (Nd.encs a2))] ∧ r = .val (.s (.sl 4 (Nd.encs y0)))
def S_edit_change_join : PSpec := pspec fun xs r => ∃ n, R_edit_change_join n xs r
set_option maxHeartbeats 2000000 in
set_option maxRecDepth 100000 in
theorem ok_edit_change_join : PSound Try.prog 81 S_edit_change_join := by
  have gok : ∀ f s, look? f [(98, S_slices_Concat_sNode)] = some s → PSound Try.prog f s := look_all (by
    simp only [List.forall_mem_cons]
    exact ⟨ok_slices_Concat_sNode, by simp⟩)
  refine psound tokW Try.call81 Try.func81 rfl (fun xs r h => by obtain ⟨n, _, _, _, _, _, rfl, _⟩ := h; show 3 ≤ 24; decide) 24 rfl ?_
  rintro xs r w0 G0 ⟨n, ⟨⟨c1_op_kind, c1_op_row, c1_op_at, c1_op_n, c1_op_nodes, c1_op_slot, c1_op_old, c1_op_text⟩, c1_items⟩, n2, nodes3, y0, h, rfl, rfl⟩ _
  rw [m_edit_change_join] at h
  refine tri_seq ?_
  refine tri_region (by exact tokW) (by exact gok) [] [] rfl ?_
  show Tri _ _ _ _
  refine tri_seq ?_
  refine tri_drawn (by exact tokW) (by exact gok) (by exact mixed) [] [12, 21, 22] [] rfl (by decide +kernel) ?_
  obtain ⟨hq, h⟩ := req_out h
  refine And.intro ⟨hq.1, hq.2.1, Int.le_trans hq.2.2 (Int.ofNat_le.2 (Nat.le_of_eq (rlen Nd.encs_eq _).symm))⟩ ?_
  intro r4 hr4
  obtain rfl : Nd.encs ((c1_items.take c1_op_at.toNat).drop (0 : Int).toNat) = r4 := (hr4.trans (rcut Nd.encs_eq _ _ _)).symm
  obtain ⟨hq, h⟩ := req_out h
  refine And.intro ⟨hq.1, Int.le_trans hq.2.1 (Int.ofNat_le.2 (Nat.le_of_eq (rlen Nd.encs_eq _).symm)), Int.le_refl _⟩ ?_
  intro r5 hr5
  obtain rfl : Nd.encs ((c1_items.take (c1_items.length : Int).toNat).drop (IntKind.i64.wrap (c1_op_at + n2)).toNat) = r5 := (hr5.trans ((congrArg (fun m : Nat => ((Nd.encs c1_items).take m).drop (IntKind.i64.wrap (c1_op_at + n2)).toNat) (rlen Nd.encs_eq _)).trans (rcut Nd.encs_eq _ _ _))).symm
  intro r6 hr6
  obtain rfl : (List.map enc_s_api_Node) [(c1_items.take c1_op_at.toNat).drop (0 : Int).toNat, nodes3, (c1_items.take (c1_items.length : Int).toNat).drop (IntKind.i64.wrap (c1_op_at + n2)).toNat] = r6 := (hr6.trans (by simp [List.map_append, List.map_take, List.map_drop, irow, brow, b8of_row, List.map_cons, List.map_nil, b8of_wrap, Nd.encs_eq, Nd.enc, enc_13_node_kind, enc_node_checker, enc_s_api_Node])).symm
  obtain ⟨y7, hy7, h⟩ := bind_out h
  refine ⟨_, ⟨_, _, _, hy7, rfl, rfl⟩, ?_⟩
  show Tri _ _ _ _
  refine tri_ret ?_
  have hy := Option.some.inj h
  subst hy
  unfold Gives
  exact ⟨_, Le.refl _ _, rfl, rfl⟩
def R_edit_change_wrap (n : Nat) (xs : List AV) (r : Ret) : Prop := ∃ (a0 : ((Int × List Int × Int × Int × List Nd × Int × List UInt8 × List UInt8) × List Nd)) (y0 : List Nd) (y1 : Int), m_edit_change_wrap n a0 = some (y0, y1) ∧ xs = [.agg ((enc_edit_change a0).map .s)] ∧ r = .val (.tup [.s (.sl 4 (Nd.encs y0)), .s (.int .i64 y1)])
def S_edit_change_wrap : PSpec := pspec fun xs r => ∃ n, R_edit_change_wrap n xs r
set_option maxHeartbeats 2000000 in
set_option maxRecDepth 100000 in
theorem ok_edit_change_wrap : PSound Try.prog 62 S_edit_change_wrap := by
  have gok : ∀ f s, look? f [(49, S_deep_Node_own), (84, S_slices_Clone_sNode), (81, S_edit_change_join)] = some s → PSound Try.prog f s := look_all (by
    simp only [List.forall_mem_cons]
    exact ⟨ok_deep_Node_own, ok_slices_Clone_sNode, ok_edit_change_join, by simp⟩)
  refine psound tokW Try.call62 Try.func62 rfl (fun xs r h => by obtain ⟨n, _, _, _, _, rfl, _⟩ := h; show 1 ≤ 39; decide) 39 rfl ?_
  rintro xs r w0 G0 ⟨n, ⟨⟨c1_op_kind, c1_op_row, c1_op_at, c1_op_n, c1_op_nodes, c1_op_slot, c1_op_old, c1_op_text⟩, c1_items⟩, y0, y1, h, rfl, rfl⟩ _
  rw [m_edit_change_wrap] at h
  refine tri_seq ?_
  refine tri_region (by exact tokW) (by exact gok) [] [] rfl ?_
  show Tri _ _ _ _
  refine tri_seq ?_
  refine tri_region (by exact tokW) (by exact gok) [4] [8] rfl ?_
  obtain ⟨⟨e2_kind, e2_text, e2_cols, e2_kids⟩, he2, h⟩ := bind_out h
  refine And.intro (at_ok Nd.encs_eq he2).1 ?_
  intro r3 hr3
  obtain rfl : [.int .i64 e2_kind, .str e2_text, .int .i64 e2_cols, .sl 4 (Nd.encs e2_kids)] = r3 := (hr3.trans (at_ok Nd.encs_eq he2).2.1).symm
  obtain ⟨⟨y4_kind, y4_text, y4_cols, y4_kids⟩, hy4, h⟩ := bind_out h
  refine ⟨_, _, ⟨_, _, hy4, rfl, rfl, rfl, rfl⟩, ?_⟩
  show Tri _ _ _ _
  refine tri_seq ?_
  refine tri_drawn (by exact tokW) (by exact gok) (by exact mixed) [] [28] [1, 19, 21] rfl (by decide +kernel) ?_
  obtain ⟨hq, h⟩ := req_out h
  refine And.intro ⟨hq.1, hq.2.1, Int.le_trans hq.2.2 (Int.ofNat_le.2 (Nat.le_of_eq (rlen Nd.encs_eq _).symm))⟩ ?_
  intro r5 hr5
  obtain rfl : Nd.encs ((c1_items.take (IntKind.i64.wrap (c1_op_at + c1_op_n)).toNat).drop c1_op_at.toNat) = r5 := (hr5.trans (rcut Nd.encs_eq _ _ _)).symm
  obtain ⟨y6, hy6, h⟩ := bind_out h
  refine ⟨_, ⟨_, _, hy6, rfl, rfl⟩, ?_⟩
  obtain ⟨⟨e7_kind, e7_text, e7_cols, e7_kids⟩, he7, h⟩ := bind_out h
  refine And.intro (at_ok Nd.encs_eq he7).1 ?_
  have hset8 := (rset (R := Nd.encs) (f := Nd.enc) Nd.encs_eq he7 (Nd.mk e7_kind e7_text e7_cols y6) 3 4 [.sl 4 (Nd.encs y6)] rfl)
  have hat8 := at_set he7 (Nd.mk e7_kind e7_text e7_cols y6)
  refine And.intro (at_ok Nd.encs_eq he7).2.2 ?_
  show Tri _ _ _ _
  refine tri_le (Le.trans (Le.trans (Le.trans (Le.rename [(1, 0), (0, 1)] [(1, .s (.pt [.int .i64 c1_op_kind, .sl 1 ((List.map (irow .i64)) c1_op_row), .int .i64 c1_op_at, .int .i64 c1_op_n, .sl 4 (Nd.encs c1_op_nodes), .int .i64 c1_op_slot, .str c1_op_old, .str c1_op_text, .sl 4 (Nd.encs c1_items)])), (4, .op 0 0)] [(0, .box 24 [.s (.int .i64 y4_kind), .s (.str y4_text), .s (.int .i64 y4_cols), .orow 1]), (1, .row 24 4 (Nd.encs (y4_kids.set c1_op_slot.toNat (Nd.mk e7_kind e7_text e7_cols y6))))] 2 ⟨rfl, rfl, trivial⟩ ⟨rfl, ⟨_, rfl, rfl⟩, rfl, ⟨_, rfl, congrArg (Ob.row 24 4) hset8⟩, trivial⟩ rfl rfl rfl rfl rfl) (Le.giveRow 1 rfl)) (Le.rename [(0, 0)] [(1, .s (.pt [.int .i64 c1_op_kind, .sl 1 ((List.map (irow .i64)) c1_op_row), .int .i64 c1_op_at, .int .i64 c1_op_n, .sl 4 (Nd.encs c1_op_nodes), .int .i64 c1_op_slot, .str c1_op_old, .str c1_op_text, .sl 4 (Nd.encs c1_items)])), (4, .op 0 0)] [(0, .box 24 [.s (.int .i64 y4_kind), .s (.str y4_text), .s (.int .i64 y4_cols), .s (.sl 4 (Nd.encs (y4_kids.set c1_op_slot.toNat (Nd.mk e7_kind e7_text e7_cols y6))))])] 1 ⟨rfl, rfl, trivial⟩ ⟨rfl, ⟨_, rfl, rfl⟩, trivial⟩ rfl rfl rfl rfl rfl)) (Le.giveBox 0 [.int .i64 y4_kind, .str y4_text, .int .i64 y4_cols, .sl 4 (Nd.encs (y4_kids.set c1_op_slot.toNat (Nd.mk e7_kind e7_text e7_cols y6)))] rfl rfl)) ?_
  refine tri_seq ?_
  refine tri_region (by exact tokW) (by exact gok) [] [37] rfl ?_
  intro r9 hr9
  obtain rfl : Nd.encs [Nd.mk y4_kind y4_text y4_cols (y4_kids.set c1_op_slot.toNat (Nd.mk e7_kind e7_text e7_cols y6))] = r9 := (hr9.trans (by simp [List.map_append, List.map_take, List.map_drop, irow, brow, b8of_row, List.map_cons, List.map_nil, b8of_wrap, Nd.encs_eq, Nd.enc, enc_13_node_kind, enc_node_checker, enc_s_api_Node, enc_edit_change])).symm
  obtain ⟨y10, hy10, h⟩ := bind_out h
  refine ⟨_, ⟨_, _, _, _, _, hy10, rfl, rfl⟩, ?_⟩
  show Tri _ _ _ _
  refine tri_ret ?_
  obtain ⟨hj1, hk1⟩ := Prod.mk.inj (Option.some.inj h)
  subst hj1
  subst hk1
  unfold Gives
  exact ⟨_, Le.refl _ _, rfl, rfl⟩
def R_edit_change_unwrap_kids (n : Nat) (xs : List AV) (r : Ret) : Prop := ∃ (a0 : ((Int × List Int × Int × Int × List Nd × Int × List UInt8 × List UInt8) × List Nd)) (y0 : List Nd) (y1 : Int), m_edit_change_unwrap_kids n a0 = some (y0, y1) ∧ xs = [.agg ((enc_edit_change a0).map .s)] ∧ r = .val (.tup [.s (.sl 4 (Nd.encs y0)), .s (.int .i64 y1)])
def S_edit_change_unwrap_kids : PSpec := pspec fun xs r => ∃ n, R_edit_change_unwrap_kids n xs r
set_option maxHeartbeats 2000000 in
set_option maxRecDepth 100000 in
theorem ok_edit_change_unwrap_kids : PSound Try.prog 63 S_edit_change_unwrap_kids := by
  have gok : ∀ f s, look? f [(49, S_deep_Node_own), (68, S_node_Slots), (83, S_node_Equal), (81, S_edit_change_join)] = some s → PSound Try.prog f s := look_all (by
    simp only [List.forall_mem_cons]
    exact ⟨ok_deep_Node_own, ok_node_Slots, ok_node_Equal, ok_edit_change_join, by simp⟩)
  refine psound tokW Try.call63 Try.func63 rfl (fun xs r h => by obtain ⟨n, _, _, _, _, rfl, _⟩ := h; show 1 ≤ 54; decide) 54 rfl ?_
  rintro xs r w0 G0 ⟨n, ⟨⟨c1_op_kind, c1_op_row, c1_op_at, c1_op_n, c1_op_nodes, c1_op_slot, c1_op_old, c1_op_text⟩, c1_items⟩, y0, y1, h, rfl, rfl⟩ _
  rw [m_edit_change_unwrap_kids] at h
  refine tri_seq ?_
  refine tri_region (by exact tokW) (by exact gok) [] [] rfl ?_
  show Tri _ _ _ _
  refine tri_seq ?_
  refine tri_region (by exact tokW) (by exact gok) [4] [11] rfl ?_
  obtain ⟨⟨e2_kind, e2_text, e2_cols, e2_kids⟩, he2, h⟩ := bind_out h
  refine And.intro (at_ok Nd.encs_eq he2).1 ?_
  intro r3 hr3
  obtain rfl : [.int .i64 e2_kind, .str e2_text, .int .i64 e2_cols, .sl 4 (Nd.encs e2_kids)] = r3 := (hr3.trans (at_ok Nd.encs_eq he2).2.1).symm
  obtain ⟨⟨y4_kind, y4_text, y4_cols, y4_kids⟩, hy4, h⟩ := bind_out h
  refine ⟨_, _, ⟨_, _, hy4, rfl, rfl, rfl, rfl⟩, ?_⟩
  show Tri _ _ _ _
  refine tri_seq ?_
  refine tri_seq ?_
  refine tri_drawn (by exact tokW) (by exact gok) (by exact mixed) [] [] [3, 4] rfl (by decide +kernel) ?_
  obtain ⟨y5, hy5, h⟩ := bind_out h
  refine ⟨_, ⟨_, _, hy5, rfl, rfl⟩, ?_⟩
  show Tri _ _ _ _
  refine tri_cond rfl (fun hb => ?_) (fun hb => ?_)
  · replace h := bif_t hb h
    refine tri_seq ?_
    refine tri_region (by exact tokW) (by exact gok) [] [] rfl ?_
    show Tri _ _ _ _
    refine tri_ret ?_
    obtain ⟨hj1, hk1⟩ := Prod.mk.inj (Option.some.inj h)
    subst hj1
    subst hk1
    unfold Gives
    exact ⟨_, Le.refl _ _, rfl, rfl⟩
  · replace h := bif_f hb h
    refine tri_skip ?_
    show Tri _ _ _ _
    refine tri_seq ?_
    refine tri_region (by exact tokW) (by exact gok) [] [] rfl ?_
    obtain ⟨⟨e6_kind, e6_text, e6_cols, e6_kids⟩, he6, h⟩ := bind_out h
    refine And.intro (at_ok Nd.encs_eq he6).1 ?_
    refine And.intro (at_ok Nd.encs_eq he6).2.2 ?_
    refine ⟨_, (at_ok Nd.encs_eq he6).2.1, ?_⟩
    show Tri _ _ _ _
    refine tri_seq ?_
    refine tri_region (by exact tokW) (by exact gok) [] [] rfl ?_
    obtain ⟨⟨e7_kind, e7_text, e7_cols, e7_kids⟩, he7, h⟩ := bind_out h
    refine And.intro (at_ok Nd.encs_eq he7).1 ?_
    have hset8 := (rset (R := Nd.encs) (f := Nd.enc) Nd.encs_eq he7 (Nd.mk e7_kind e7_text e7_cols []) 3 4 [.sl 4 (Nd.encs [])] rfl)
    have hat8 := at_set he7 (Nd.mk e7_kind e7_text e7_cols [])
    refine And.intro (at_ok Nd.encs_eq he7).2.2 ?_
    show Tri _ _ _ _
    refine tri_le (Le.rename [(1, 0), (0, 1)] [(1, .s (.pt [.int .i64 c1_op_kind, .sl 1 ((List.map (irow .i64)) c1_op_row), .int .i64 c1_op_at, .int .i64 c1_op_n, .sl 4 (Nd.encs c1_op_nodes), .int .i64 c1_op_slot, .str c1_op_old, .str c1_op_text, .sl 4 (Nd.encs c1_items)])), (4, .op 0 0), (5, .s (.sl 4 (Nd.encs e6_kids)))] [(0, .box 24 [.s (.int .i64 y4_kind), .s (.str y4_text), .s (.int .i64 y4_cols), .orow 1]), (1, .row 24 4 (Nd.encs (y4_kids.set c1_op_slot.toNat (Nd.mk e7_kind e7_text e7_cols []))))] 2 ⟨rfl, rfl, rfl, trivial⟩ ⟨rfl, ⟨_, rfl, rfl⟩, rfl, ⟨_, rfl, congrArg (Ob.row 24 4) hset8⟩, trivial⟩ rfl rfl rfl rfl rfl) ?_
    refine tri_seq ?_
    refine tri_seq ?_
    obtain ⟨x9, hj, h⟩ := bind_out h
    refine tri_post ⟨ofL [(1, .s (.pt [.int .i64 c1_op_kind, .sl 1 ((List.map (irow .i64)) c1_op_row), .int .i64 c1_op_at, .int .i64 c1_op_n, .sl 4 (Nd.encs c1_op_nodes), .int .i64 c1_op_slot, .str c1_op_old, .str c1_op_text, .sl 4 (Nd.encs c1_items)])), (5, .s (.sl 4 (Nd.encs e6_kids))), (50, .s (.bool x9))], fun _ => none, 0⟩ ?_ (fun σ' hle => ?_)
    · replace h := hj
      refine tri_drawn (by exact tokW) (by exact gok) (by exact mixed) [] [36, 41, 46] [7, 13] rfl (by decide +kernel) ?_
      intro n10 hn10
      obtain rfl : (e6_kids.length : Int) = n10 := (hn10.trans (congrArg (fun m : Nat => (m : Int)) (rlen Nd.encs_eq e6_kids))).symm
      intro b hb
      cases b with
      | true =>
        replace h := bif_t hb.symm h
        cases h
        exact (Le.rename [] _ [] 0 ⟨rfl, rfl, rfl, trivial⟩ trivial rfl rfl rfl rfl rfl)
      | false =>
        replace h := bif_f hb.symm h
        obtain ⟨⟨e11_kind, e11_text, e11_cols, e11_kids⟩, he11, h⟩ := bind_out h
        refine And.intro (at_ok Nd.encs_eq he11).1 ?_
        intro r12 hr12
        obtain rfl : [.int .i64 e11_kind, .str e11_text, .int .i64 e11_cols, .sl 4 (Nd.encs e11_kids)] = r12 := (hr12.trans (at_ok Nd.encs_eq he11).2.1).symm
        obtain ⟨y13, hy13, h⟩ := bind_out h
        refine ⟨_, ⟨_, _, _, _, hy13, rfl, rfl⟩, ?_⟩
        cases h
        exact (Le.rename [] _ [] 0 ⟨rfl, rfl, rfl, trivial⟩ trivial rfl rfl rfl rfl rfl)
    · show Tri _ _ _ _
      refine tri_le hle ?_
      refine tri_cond rfl (fun hb => ?_) (fun hb => ?_)
      · replace h := bif_t hb h
        refine tri_seq ?_
        refine tri_region (by exact tokW) (by exact gok) [] [] rfl ?_
        show Tri _ _ _ _
        refine tri_ret ?_
        obtain ⟨hj1, hk1⟩ := Prod.mk.inj (Option.some.inj h)
        subst hj1
        subst hk1
        unfold Gives
        exact ⟨_, Le.refl _ _, rfl, rfl⟩
      · replace h := bif_f hb h
        refine tri_skip ?_
        show Tri _ _ _ _
        refine tri_seq ?_
        refine tri_region (by exact tokW) (by exact gok) [] [] rfl ?_
        obtain ⟨y14, hy14, h⟩ := bind_out h
        refine ⟨_, ⟨_, _, _, _, _, hy14, rfl, rfl⟩, ?_⟩
        show Tri _ _ _ _
        refine tri_ret ?_
        obtain ⟨hj1, hk1⟩ := Prod.mk.inj (Option.some.inj h)
        subst hj1
        subst hk1
        unfold Gives
        exact ⟨_, Le.refl _ _, rfl, rfl⟩
def R_edit_change_unwrap_none (xs : List AV) (r : Ret) : Prop := ∃ (a0 : ((Int × List Int × Int × Int × List Nd × Int × List UInt8 × List UInt8) × List Nd)) (y0 : List Nd) (y1 : Int), m_edit_change_unwrap_none a0 = some (y0, y1) ∧ xs = [.agg ((enc_edit_change a0).map .s)] ∧ r = .val (.tup [.s (.sl 4 (Nd.encs y0)), .s (.int .i64 y1)])
def S_edit_change_unwrap_none : PSpec := pspec fun xs r => R_edit_change_unwrap_none xs r
set_option maxHeartbeats 2000000 in
set_option maxRecDepth 100000 in
theorem ok_edit_change_unwrap_none : PSound Try.prog 63 S_edit_change_unwrap_none := by
  have gok : ∀ f s, look? f [(49, S_deep_Node), (68, S_node_Slots)] = some s → PSound Try.prog f s := look_all (by
    simp only [List.forall_mem_cons]
    exact ⟨ok_deep_Node, ok_node_Slots, by simp⟩)
  refine psound tokW Try.call63 Try.func63 rfl (fun xs r h => by obtain ⟨_, _, _, _, rfl, _⟩ := h; show 1 ≤ 54; decide) 54 rfl ?_
  rintro xs r w0 G0 ⟨⟨⟨c1_op_kind, c1_op_row, c1_op_at, c1_op_n, c1_op_nodes, c1_op_slot, c1_op_old, c1_op_text⟩, c1_items⟩, y0, y1, h, rfl, rfl⟩ _
  rw [m_edit_change_unwrap_none] at h
  refine tri_seq ?_
  refine tri_region (by exact tokW) (by exact gok) [] [] rfl ?_
  show Tri _ _ _ _
  refine tri_seq ?_
  refine tri_region (by exact tokW) (by exact gok) [4] [11] rfl ?_
  obtain ⟨⟨e2_kind, e2_text, e2_cols, e2_kids⟩, he2, h⟩ := bind_out h
  refine And.intro (at_ok Nd.encs_eq he2).1 ?_
  intro r3 hr3
  obtain rfl : [.int .i64 e2_kind, .str e2_text, .int .i64 e2_cols, .sl 4 (Nd.encs e2_kids)] = r3 := (hr3.trans (at_ok Nd.encs_eq he2).2.1).symm
  obtain ⟨⟨y4_kind, y4_text, y4_cols, y4_kids⟩, hy4, h⟩ := bind_out h
  refine ⟨_, ⟨_, _, hy4, rfl, rfl⟩, ?_⟩
  show Tri _ _ _ _
  refine tri_seq ?_
  refine tri_seq ?_
  refine tri_drawn (by exact tokW) (by exact gok) (by exact mixed) [] [] [3] rfl (by decide +kernel) ?_
  obtain ⟨y5, hy5, h⟩ := bind_out h
  refine ⟨_, ⟨_, _, hy5, rfl, rfl⟩, ?_⟩
  show Tri _ _ _ _
  refine tri_cond rfl (fun hb => ?_) (fun hb => ?_)
  · replace h := bif_t hb h
    refine tri_seq ?_
    refine tri_region (by exact tokW) (by exact gok) [] [] rfl ?_
    show Tri _ _ _ _
    refine tri_ret ?_
    obtain ⟨hj1, hk1⟩ := Prod.mk.inj (Option.some.inj h)
    subst hj1
    subst hk1
    unfold Gives
    exact ⟨_, Le.refl _ _, rfl, rfl⟩
  · replace h := bif_f hb h
    refine tri_skip ?_
    show Tri _ _ _ _
    refine tri_seq ?_
    cases h
def R_edit_change_insert (n : Nat) (xs : List AV) (r : Ret) : Prop := ∃ (a0 : ((Int × List Int × Int × Int × List Nd × Int × List UInt8 × List UInt8) × List Nd)) (y0 : List Nd) (y1 : Int), m_edit_change_insert n a0 = some (y0, y1) ∧ xs = [.agg ((enc_edit_change a0).map .s)] ∧ r = .val (.tup [.s (.sl 4 (Nd.encs y0)), .s (.int .i64 y1)])
def S_edit_change_insert : PSpec := pspec fun xs r => ∃ n, R_edit_change_insert n xs r
set_option maxHeartbeats 2000000 in
set_option maxRecDepth 100000 in
theorem ok_edit_change_insert : PSound Try.prog 60 S_edit_change_insert := by
  have gok : ∀ f s, look? f [(81, S_edit_change_join)] = some s → PSound Try.prog f s := look_all (by
    simp only [List.forall_mem_cons]
    exact ⟨ok_edit_change_join, by simp⟩)
  refine psound tokW Try.call60 Try.func60 rfl (fun xs r h => by obtain ⟨n, _, _, _, _, rfl, _⟩ := h; show 1 ≤ 9; decide) 9 rfl ?_
  rintro xs r w0 G0 ⟨n, ⟨⟨c1_op_kind, c1_op_row, c1_op_at, c1_op_n, c1_op_nodes, c1_op_slot, c1_op_old, c1_op_text⟩, c1_items⟩, y0, y1, h, rfl, rfl⟩ _
  rw [m_edit_change_insert] at h
  refine tri_seq ?_
  refine tri_region (by exact tokW) (by exact gok) [] [] rfl ?_
  show Tri _ _ _ _
  refine tri_seq ?_
  refine tri_region (by exact tokW) (by exact gok) [] [] rfl ?_
  obtain ⟨y2, hy2, h⟩ := bind_out h
  refine ⟨_, ⟨_, _, _, _, _, hy2, rfl, rfl⟩, ?_⟩
  show Tri _ _ _ _
  refine tri_ret ?_
  obtain ⟨hj1, hk1⟩ := Prod.mk.inj (Option.some.inj h)
  subst hj1
  subst hk1
  unfold Gives
  exact ⟨_, Le.refl _ _, rfl, rfl⟩
def R_edit_change_remove (n : Nat) (xs : List AV) (r : Ret) : Prop := ∃ (a0 : ((Int × List Int × Int × Int × List Nd × Int × List UInt8 × List UInt8) × List Nd)) (y0 : List Nd) (y1 : Int), m_edit_change_remove n a0 = some (y0, y1) ∧ xs = [.agg ((enc_edit_change a0).map .s)] ∧ r = .val (.tup [.s (.sl 4 (Nd.encs y0)), .s (.int .i64 y1)])
def S_edit_change_remove : PSpec := pspec fun xs r => ∃ n, R_edit_change_remove n xs r
set_option maxHeartbeats 2000000 in
set_option maxRecDepth 100000 in
theorem ok_edit_change_remove : PSound Try.prog 61 S_edit_change_remove := by
  have gok : ∀ f s, look? f [(82, S_slices_EqualFunc_sNode), (81, S_edit_change_join)] = some s → PSound Try.prog f s := look_all (by
    simp only [List.forall_mem_cons]
    exact ⟨ok_slices_EqualFunc_sNode, ok_edit_change_join, by simp⟩)
  refine psound tokW Try.call61 Try.func61 rfl (fun xs r h => by obtain ⟨n, _, _, _, _, rfl, _⟩ := h; show 1 ≤ 28; decide) 28 rfl ?_
  rintro xs r w0 G0 ⟨n, ⟨⟨c1_op_kind, c1_op_row, c1_op_at, c1_op_n, c1_op_nodes, c1_op_slot, c1_op_old, c1_op_text⟩, c1_items⟩, y0, y1, h, rfl, rfl⟩ _
  rw [m_edit_change_remove] at h
  refine tri_seq ?_
  refine tri_region (by exact tokW) (by exact gok) [] [] rfl ?_
  show Tri _ _ _ _
  refine tri_seq ?_
  refine tri_region (by exact tokW) (by exact gok) [] [8] rfl ?_
  intro n2 hn2
  obtain rfl : (c1_op_nodes.length : Int) = n2 := (hn2.trans (congrArg (fun m : Nat => (m : Int)) (rlen Nd.encs_eq c1_op_nodes))).symm
  show Tri _ _ _ _
  refine tri_seq ?_
  refine tri_seq ?_
  refine tri_drawn (by exact tokW) (by exact gok) (by exact mixed) [] [19] [] rfl (by decide +kernel) ?_
  obtain ⟨hq, h⟩ := req_out h
  refine And.intro ⟨hq.1, hq.2.1, Int.le_trans hq.2.2 (Int.ofNat_le.2 (Nat.le_of_eq (rlen Nd.encs_eq _).symm))⟩ ?_
  intro r3 hr3
  obtain rfl : Nd.encs ((c1_items.take (IntKind.i64.wrap (c1_op_at + (c1_op_nodes.length : Int))).toNat).drop c1_op_at.toNat) = r3 := (hr3.trans (rcut Nd.encs_eq _ _ _)).symm
  obtain ⟨y4, hy4, h⟩ := bind_out h
  refine ⟨_, ⟨_, _, _, _, hy4, rfl, rfl⟩, ?_⟩
  show Tri _ _ _ _
  refine tri_cond rfl (fun hb => ?_) (fun hb => ?_)
  · replace h := bif_t hb h
    refine tri_seq ?_
    refine tri_region (by exact tokW) (by exact gok) [] [] rfl ?_
    show Tri _ _ _ _
    refine tri_ret ?_
    obtain ⟨hj1, hk1⟩ := Prod.mk.inj (Option.some.inj h)
    subst hj1
    subst hk1
    unfold Gives
    exact ⟨_, Le.refl _ _, rfl, rfl⟩
  · replace h := bif_f hb h
    refine tri_skip ?_
    show Tri _ _ _ _
    refine tri_seq ?_
    refine tri_region (by exact tokW) (by exact gok) [] [] rfl ?_
    obtain ⟨y5, hy5, h⟩ := bind_out h
    refine ⟨_, ⟨_, _, _, _, _, hy5, rfl, rfl⟩, ?_⟩
    show Tri _ _ _ _
    refine tri_ret ?_
    obtain ⟨hj1, hk1⟩ := Prod.mk.inj (Option.some.inj h)
    subst hj1
    subst hk1
    unfold Gives
    exact ⟨_, Le.refl _ _, rfl, rfl⟩
def R_edit_change_set (n : Nat) (xs : List AV) (r : Ret) : Prop := ∃ (a0 : ((Int × List Int × Int × Int × List Nd × Int × List UInt8 × List UInt8) × List Nd)) (y0 : List Nd) (y1 : Int), m_edit_change_set n a0 = some (y0, y1) ∧ xs = [.agg ((enc_edit_change a0).map .s)] ∧ r = .val (.tup [.s (.sl 4 (Nd.encs y0)), .s (.int .i64 y1)])
def S_edit_change_set : PSpec := pspec fun xs r => ∃ n, R_edit_change_set n xs r
set_option maxHeartbeats 2000000 in
set_option maxRecDepth 100000 in
theorem ok_edit_change_set : PSound Try.prog 64 S_edit_change_set := by
  have gok : ∀ f s, look? f [(81, S_edit_change_join)] = some s → PSound Try.prog f s := look_all (by
    simp only [List.forall_mem_cons]
    exact ⟨ok_edit_change_join, by simp⟩)
  refine psound tokW Try.call64 Try.func64 rfl (fun xs r h => by obtain ⟨n, _, _, _, _, rfl, _⟩ := h; show 1 ≤ 34; decide) 34 rfl ?_
  rintro xs r w0 G0 ⟨n, ⟨⟨c1_op_kind, c1_op_row, c1_op_at, c1_op_n, c1_op_nodes, c1_op_slot, c1_op_old, c1_op_text⟩, c1_items⟩, y0, y1, h, rfl, rfl⟩ _
  rw [m_edit_change_set] at h
  refine tri_seq ?_
  refine tri_region (by exact tokW) (by exact gok) [] [] rfl ?_
  show Tri _ _ _ _
  refine tri_seq ?_
  refine tri_region (by exact tokW) (by exact gok) [4] [10] rfl ?_
  obtain ⟨⟨e2_kind, e2_text, e2_cols, e2_kids⟩, he2, h⟩ := bind_out h
  refine And.intro (at_ok Nd.encs_eq he2).1 ?_
  intro r3 hr3
  obtain rfl : [.int .i64 e2_kind, .str e2_text, .int .i64 e2_cols, .sl 4 (Nd.encs e2_kids)] = r3 := (hr3.trans (at_ok Nd.encs_eq he2).2.1).symm
  show Tri _ _ _ _
  refine tri_seq ?_
  refine tri_seq ?_
  refine tri_region (by exact tokW) (by exact gok) [] [] rfl ?_
  show Tri _ _ _ _
  obtain ⟨fl, hj, ho1⟩ := bind_out h
  refine tri_fl (fl := fl) (fun z => match z with | _ => ⟨ofL [(1, .s (.pt [.int .i64 c1_op_kind, .sl 1 ((List.map (irow .i64)) c1_op_row), .int .i64 c1_op_at, .int .i64 c1_op_n, .sl 4 (Nd.encs c1_op_nodes), .int .i64 c1_op_slot, .str c1_op_old, .str c1_op_text, .sl 4 (Nd.encs c1_items)])), (4, .op 0 0)], ofH [(0, .box 24 [.s (.int .i64 e2_kind), .s (.str e2_text), .s (.int .i64 e2_cols), .s (.sl 4 (Nd.encs e2_kids))])], 1⟩) ?_ (fun z σ' hz hle => ?_)
  · replace h := hj
    refine tri_block ?_
    refine tri_seq ?_
    refine tri_seq ?_
    refine tri_region (by exact tokW) (by exact gok) [] [] rfl ?_
    show Tri _ _ _ _
    obtain ⟨x4, hj, h⟩ := bind_out h
    refine tri_post ⟨ofL [(1, .s (.pt [.int .i64 c1_op_kind, .sl 1 ((List.map (irow .i64)) c1_op_row), .int .i64 c1_op_at, .int .i64 c1_op_n, .sl 4 (Nd.encs c1_op_nodes), .int .i64 c1_op_slot, .str c1_op_old, .str c1_op_text, .sl 4 (Nd.encs c1_items)])), (4, .op 0 0), (14, .s (.bool x4))], ofH [(0, .box 24 [.s (.int .i64 e2_kind), .s (.str e2_text), .s (.int .i64 e2_cols), .s (.sl 4 (Nd.encs e2_kids))])], 1⟩ ?_ (fun σ' hle => ?_)
    · replace h := hj
      refine tri_cond rfl (fun hb => ?_) (fun hb => ?_)
      · replace h := bif_t hb h
        refine tri_skip ?_
        cases h
        exact (Le.rename [(0, 0)] _ _ _ ⟨rfl, rfl, rfl, trivial⟩ ⟨rfl, ⟨_, rfl, rfl⟩, trivial⟩ rfl rfl rfl rfl rfl)
      · replace h := bif_f hb h
        refine tri_seq ?_
        refine tri_region (by exact tokW) (by exact gok) [] [] rfl ?_
        show Tri _ _ _ _
        refine tri_cond rfl (fun hb => ?_) (fun hb => ?_)
        · replace h := bif_t hb h
          refine tri_skip ?_
          cases h
          exact (Le.rename [(0, 0)] _ _ _ ⟨rfl, rfl, rfl, trivial⟩ ⟨rfl, ⟨_, rfl, rfl⟩, trivial⟩ rfl rfl rfl rfl rfl)
        · replace h := bif_f hb h
          refine tri_seq ?_
          refine tri_region (by exact tokW) (by exact gok) [] [] rfl ?_
          show Tri _ _ _ _
          refine tri_cond rfl (fun hb => ?_) (fun hb => ?_)
          · replace h := bif_t hb h
            refine tri_skip ?_
            cases h
            exact (Le.rename [(0, 0)] _ _ _ ⟨rfl, rfl, rfl, trivial⟩ ⟨rfl, ⟨_, rfl, rfl⟩, trivial⟩ rfl rfl rfl rfl rfl)
          · replace h := bif_f hb h
            refine tri_seq ?_
            refine tri_region (by exact tokW) (by exact gok) [] [] rfl ?_
            show Tri _ _ _ _
            refine tri_cond rfl (fun hb => ?_) (fun hb => ?_)
            · replace h := bif_t hb h
              refine tri_skip ?_
              cases h
              exact (Le.rename [(0, 0)] _ _ _ ⟨rfl, rfl, rfl, trivial⟩ ⟨rfl, ⟨_, rfl, rfl⟩, trivial⟩ rfl rfl rfl rfl rfl)
            · replace h := bif_f hb h
              refine tri_region (by exact tokW) (by exact gok) [] [] rfl ?_
              cases h
              exact (Le.rename [(0, 0)] _ _ _ ⟨rfl, rfl, rfl, trivial⟩ ⟨rfl, ⟨_, rfl, rfl⟩, trivial⟩ rfl rfl rfl rfl rfl)
    · show Tri _ _ _ _
      refine tri_le hle ?_
      refine tri_cond rfl (fun hb => ?_) (fun hb => ?_)
      · replace h := bif_t hb h
        refine tri_skip ?_
        cases h
        exact ⟨_, rfl, (Le.rename [(0, 0)] _ _ _ ⟨rfl, rfl, trivial⟩ ⟨rfl, ⟨_, rfl, rfl⟩, trivial⟩ rfl rfl rfl rfl rfl)⟩
      · replace h := bif_f hb h
        refine tri_seq ?_
        refine tri_region (by exact tokW) (by exact gok) [] [] rfl ?_
        show Tri _ _ _ _
        refine tri_ret ?_
        cases h
        replace h : some _ = some _ := ho1
        obtain ⟨hj1, hk1⟩ := Prod.mk.inj (Option.some.inj h)
        subst hj1
        subst hk1
        unfold Gives
        exact ⟨_, Le.refl _ _, rfl, rfl⟩
  · subst hz
    obtain _ := z
    replace h := ho1
    show Tri _ _ _ _
    refine tri_le hle ?_
    refine tri_seq ?_
    refine tri_seq ?_
    refine tri_region (by exact tokW) (by exact gok) [] [] rfl ?_
    show Tri _ _ _ _
    refine tri_cond rfl (fun hb => ?_) (fun hb => ?_)
    · replace h := bif_t hb h
      refine tri_seq ?_
      refine tri_region (by exact tokW) (by exact gok) [] [] rfl ?_
      show Tri _ _ _ _
      refine tri_ret ?_
      obtain ⟨hj1, hk1⟩ := Prod.mk.inj (Option.some.inj h)
      subst hj1
      subst hk1
      unfold Gives
      exact ⟨_, Le.refl _ _, rfl, rfl⟩
    · replace h := bif_f hb h
      refine tri_skip ?_
      show Tri _ _ _ _
      refine tri_seq ?_
      refine tri_region (by exact tokW) (by exact gok) [] [] rfl ?_
      show Tri _ _ _ _
      refine tri_seq ?_
      refine tri_region (by exact tokW) (by exact gok) [] [32] rfl ?_
      intro r5 hr5
      obtain rfl : Nd.encs [Nd.mk e2_kind c1_op_text e2_cols e2_kids] = r5 := (hr5.trans (by simp [List.map_append, List.map_take, List.map_drop, irow, brow, b8of_row, List.map_cons, List.map_nil, b8of_wrap, Nd.encs_eq, Nd.enc, enc_13_node_kind, enc_node_checker, enc_s_api_Node, enc_edit_change])).symm
      obtain ⟨y6, hy6, h⟩ := bind_out h
      refine ⟨_, ⟨_, _, _, _, _, hy6, rfl, rfl⟩, ?_⟩
      show Tri _ _ _ _
      refine tri_ret ?_
      obtain ⟨hj1, hk1⟩ := Prod.mk.inj (Option.some.inj h)
      subst hj1
      subst hk1
      unfold Gives
      exact ⟨_, Le.refl _ _, rfl, rfl⟩
def R_edit_change_enough (xs : List AV) (r : Ret) : Prop := ∃ (a0 : ((Int × List Int × Int × Int × List Nd × Int × List UInt8 × List UInt8) × List Nd)) (y0 : Int), m_edit_change_enough a0 = some y0 ∧ xs = [.agg ((enc_edit_change a0).map .s)] ∧ r = .val (.s (.int .i64 y0))
def S_edit_change_enough : PSpec := pspec fun xs r => R_edit_change_enough xs r
set_option maxHeartbeats 2000000 in
set_option maxRecDepth 100000 in
theorem ok_edit_change_enough : PSound Try.prog 59 S_edit_change_enough := by
  have gok : ∀ (f : Nat) (s : PSpec), (fun _ => none : Nat → Option PSpec) f = some s → PSound Try.prog f s := fun _ _ h => by cases h
  refine psound tokW Try.call59 Try.func59 rfl (fun xs r h => by obtain ⟨_, _, _, rfl, _⟩ := h; show 1 ≤ 44; decide) 44 rfl ?_
  rintro xs r w0 G0 ⟨⟨⟨c1_op_kind, c1_op_row, c1_op_at, c1_op_n, c1_op_nodes, c1_op_slot, c1_op_old, c1_op_text⟩, c1_items⟩, y0, h, rfl, rfl⟩ _
  rw [m_edit_change_enough] at h
  refine tri_seq ?_
  refine tri_region (by exact tokW) (by exact gok) [] [] rfl ?_
  show Tri _ _ _ _
  refine tri_seq ?_
  refine tri_region (by exact tokW) (by exact gok) [] [] rfl ?_
  show Tri _ _ _ _
  refine tri_seq ?_
  refine tri_seq ?_
  refine tri_region (by exact tokW) (by exact gok) [] [] rfl ?_
  show Tri _ _ _ _
  obtain ⟨need2, hj, h⟩ := bind_out h
  refine tri_post ⟨ofL [(1, .s (.pt [.int .i64 c1_op_kind, .sl 1 ((List.map (irow .i64)) c1_op_row), .int .i64 c1_op_at, .int .i64 c1_op_n, .sl 4 (Nd.encs c1_op_nodes), .int .i64 c1_op_slot, .str c1_op_old, .str c1_op_text, .sl 4 (Nd.encs c1_items)])), (3, .s (.int .i64 need2))], fun _ => none, 0⟩ ?_ (fun σ' hle => ?_)
  · replace h := hj
    refine tri_block ?_
    refine tri_seq ?_
    refine tri_region (by exact tokW) (by exact gok) [] [] rfl ?_
    show Tri _ _ _ _
    refine tri_cond rfl (fun hb => ?_) (fun hb => ?_)
    · replace h := bif_t hb h
      refine tri_region (by exact tokW) (by exact gok) [] [] rfl ?_
      cases h
      exact (Le.forget _ ⟨rfl, rfl, trivial⟩)
    · replace h := bif_f hb h
      refine tri_seq ?_
      refine tri_region (by exact tokW) (by exact gok) [] [] rfl ?_
      show Tri _ _ _ _
      refine tri_cond rfl (fun hb => ?_) (fun hb => ?_)
      · replace h := bif_t hb h
        refine tri_region (by exact tokW) (by exact gok) [] [14] rfl ?_
        intro n3 hn3
        obtain rfl : (c1_op_nodes.length : Int) = n3 := (hn3.trans (congrArg (fun m : Nat => (m : Int)) (rlen Nd.encs_eq c1_op_nodes))).symm
        cases h
        exact (Le.forget _ ⟨rfl, rfl, trivial⟩)
      · replace h := bif_f hb h
        refine tri_seq ?_
        refine tri_region (by exact tokW) (by exact gok) [] [] rfl ?_
        show Tri _ _ _ _
        refine tri_cond rfl (fun hb => ?_) (fun hb => ?_)
        · replace h := bif_t hb h
          refine tri_region (by exact tokW) (by exact gok) [] [] rfl ?_
          cases h
          exact (Le.forget _ ⟨rfl, rfl, trivial⟩)
        · replace h := bif_f hb h
          refine tri_skip ?_
          cases h
          exact (Le.forget _ ⟨rfl, rfl, trivial⟩)
  · show Tri _ _ _ _
    refine tri_le hle ?_
    refine tri_seq ?_
    refine tri_seq ?_
    obtain ⟨x4, hj, h⟩ := bind_out h
    refine tri_post ⟨ofL [(43, .s (.bool x4))], fun _ => none, 0⟩ ?_ (fun σ' hle => ?_)
    · replace h := hj
      refine tri_region (by exact tokW) (by exact gok) [] [24, 30, 33, 37] rfl ?_
      intro b hb
      cases b with
      | true =>
        replace h := bif_t hb.symm h
        intro b hb
        subst hb
        cases h
        exact (Le.forget _ ⟨rfl, trivial⟩)
      | false =>
        replace h := bif_f hb.symm h
        intro n5 hn5
        obtain rfl : (c1_items.length : Int) = n5 := (hn5.trans (congrArg (fun m : Nat => (m : Int)) (rlen Nd.encs_eq c1_items))).symm
        intro b hb
        cases b with
        | true =>
          replace h := bif_t hb.symm h
          cases h
          exact (Le.forget _ ⟨rfl, trivial⟩)
        | false =>
          replace h := bif_f hb.symm h
          intro n6 hn6
          obtain rfl : (c1_items.length : Int) = n6 := (hn6.trans (congrArg (fun m : Nat => (m : Int)) (rlen Nd.encs_eq c1_items))).symm
          cases h
          exact (Le.forget _ ⟨rfl, trivial⟩)
    · show Tri _ _ _ _
      refine tri_le hle ?_
      refine tri_cond rfl (fun hb => ?_) (fun hb => ?_)
      · replace h := bif_t hb h
        refine tri_seq ?_
        refine tri_region (by exact tokW) (by exact gok) [] [] rfl ?_
        show Tri _ _ _ _
        refine tri_ret ?_
        have hy := Option.some.inj h
        subst hy
        unfold Gives
        exact ⟨_, Le.refl _ _, rfl, rfl⟩
      · replace h := bif_f hb h
        refine tri_skip ?_
        show Tri _ _ _ _
        refine tri_seq ?_
        refine tri_region (by exact tokW) (by exact gok) [] [] rfl ?_
        show Tri _ _ _ _
        refine tri_ret ?_
        have hy := Option.some.inj h
        subst hy
        unfold Gives
        exact ⟨_, Le.refl _ _, rfl, rfl⟩
def R_edit_container (n : Nat) (xs : List AV) (r : Ret) : Prop := ∃ (a0 : List Nd) (a1 : Int) (y0 : Bool), m_edit_container n a0 a1 = some y0 ∧ xs = [.s (.sl 4 (Nd.encs a0)), .s (.int .i64 a1)] ∧ r = .val (.s (.bool y0))
def S_edit_container : PSpec := pspec fun xs r => ∃ n, R_edit_container n xs r
set_option maxHeartbeats 2000000 in
set_option maxRecDepth 100000 in
theorem ok_edit_container : PSound Try.prog 46 S_edit_container := by
  have gok : ∀ f s, look? f [(45, S_node_ValidItems), (68, S_node_Slots)] = some s → PSound Try.prog f s := look_all (by
    simp only [List.forall_mem_cons]
    exact ⟨ok_node_ValidItems, ok_node_Slots, by simp⟩)
  refine psound tokW Try.call46 Try.func46 rfl (fun xs r h => by obtain ⟨n, _, _, _, _, rfl, _⟩ := h; show 2 ≤ 35; decide) 35 rfl ?_
  rintro xs r w0 G0 ⟨n, l1, slot2, y0, h, rfl, rfl⟩ _
  rw [m_edit_container] at h
  refine tri_seq ?_
  refine tri_region (by exact tokW) (by exact gok) [] [] rfl ?_
  show Tri _ _ _ _
  refine tri_seq ?_
  refine tri_seq ?_
  obtain ⟨x3, hj, h⟩ := bind_out h
  refine tri_post ⟨ofL [(0, .s (.sl 4 (Nd.encs l1))), (1, .s (.int .i64 slot2)), (24, .s (.bool x3))], fun _ => none, 0⟩ ?_ (fun σ' hle => ?_)
  · replace h := hj
    refine tri_region (by exact tokW) (by exact gok) [] [6, 8, 13, 17, 20] rfl ?_
    intro n4 hn4
    obtain rfl : (l1.length : Int) = n4 := (hn4.trans (congrArg (fun m : Nat => (m : Int)) (rlen Nd.encs_eq l1))).symm
    intro b hb
    cases b with
    | true =>
      replace h := bif_t hb.symm h
      intro b hb
      subst hb
      intro b hb
      subst hb
      cases h
      exact (Le.forget _ ⟨rfl, rfl, rfl, trivial⟩)
    | false =>
      replace h := bif_f hb.symm h
      obtain ⟨y5, hy5, h⟩ := bind_out h
      refine ⟨_, ⟨_, _, _, hy5, rfl, rfl⟩, ?_⟩
      intro b hb
      cases b with
      | true =>
        replace h := bif_t hb.symm h
        intro b hb
        subst hb
        cases h
        exact (Le.forget _ ⟨rfl, rfl, rfl, trivial⟩)
      | false =>
        replace h := bif_f hb.symm h
        intro b hb
        cases b with
        | true =>
          replace h := bif_t hb.symm h
          cases h
          exact (Le.forget _ ⟨rfl, rfl, rfl, trivial⟩)
        | false =>
          replace h := bif_f hb.symm h
          obtain ⟨⟨e6_kind, e6_text, e6_cols, e6_kids⟩, he6, h⟩ := bind_out h
          refine And.intro (at_ok Nd.encs_eq he6).1 ?_
          intro r7 hr7
          obtain rfl : [.int .i64 e6_kind, .str e6_text, .int .i64 e6_cols, .sl 4 (Nd.encs e6_kids)] = r7 := (hr7.trans (at_ok Nd.encs_eq he6).2.1).symm
          obtain ⟨y8, hy8, h⟩ := bind_out h
          refine ⟨_, ⟨_, _, hy8, rfl, rfl⟩, ?_⟩
          cases h
          exact (Le.forget _ ⟨rfl, rfl, rfl, trivial⟩)
  · show Tri _ _ _ _
    refine tri_le hle ?_
    refine tri_cond rfl (fun hb => ?_) (fun hb => ?_)
    · replace h := bif_t hb h
      refine tri_seq ?_
      refine tri_region (by exact tokW) (by exact gok) [] [] rfl ?_
      show Tri _ _ _ _
      refine tri_ret ?_
      have hy := Option.some.inj h
      subst hy
      unfold Gives
      exact ⟨_, Le.refl _ _, rfl, rfl⟩
    · replace h := bif_f hb h
      refine tri_skip ?_
      show Tri _ _ _ _
      refine tri_seq ?_
      refine tri_region (by exact tokW) (by exact gok) [] [26, 30, 33] rfl ?_
      obtain ⟨⟨e9_kind, e9_text, e9_cols, e9_kids⟩, he9, h⟩ := bind_out h
      refine And.intro (at_ok Nd.encs_eq he9).1 ?_
      intro r10 hr10
      obtain rfl : [.int .i64 e9_kind, .str e9_text, .int .i64 e9_cols, .sl 4 (Nd.encs e9_kids)] = r10 := (hr10.trans (at_ok Nd.encs_eq he9).2.1).symm
      obtain ⟨⟨e11_kind, e11_text, e11_cols, e11_kids⟩, he11, h⟩ := bind_out h
      refine And.intro (at_ok Nd.encs_eq he11).1 ?_
      intro r12 hr12
      obtain rfl : [.int .i64 e11_kind, .str e11_text, .int .i64 e11_cols, .sl 4 (Nd.encs e11_kids)] = r12 := (hr12.trans (at_ok Nd.encs_eq he11).2.1).symm
      intro n13 hn13
      obtain rfl : (e11_kids.length : Int) = n13 := (hn13.trans (congrArg (fun m : Nat => (m : Int)) (rlen Nd.encs_eq e11_kids))).symm
      show Tri _ _ _ _
      refine tri_ret ?_
      have hy := Option.some.inj h
      subst hy
      unfold Gives
      exact ⟨_, Le.refl _ _, rfl, rfl⟩
def enc_api_Op (p : (Int × List Int × Int × Int × List Nd × Int × List UInt8 × List UInt8)) : List S := [.int .i64 p.1, .sl 1 ((List.map (irow .i64)) p.2.1), .int .i64 p.2.2.1, .int .i64 p.2.2.2.1, .sl 4 (Nd.encs p.2.2.2.2.1), .int .i64 p.2.2.2.2.2.1, .str p.2.2.2.2.2.2.1, .str p.2.2.2.2.2.2.2]
def R_edit_Formed (n : Nat) (xs : List AV) (r : Ret) : Prop := ∃ (a0 : (Int × List Int × Int × Int × List Nd × Int × List UInt8 × List UInt8)) (y0 : Bool), m_edit_Formed n a0 = some y0 ∧ xs = [.agg ((enc_api_Op a0).map .s)] ∧ r = .val (.s (.bool y0))
def S_edit_Formed : PSpec := pspec fun xs r => ∃ n, R_edit_Formed n xs r
set_option maxHeartbeats 2000000 in
set_option maxRecDepth 100000 in
theorem ok_edit_Formed : PSound Try.prog 21 S_edit_Formed := by
  have gok : ∀ f s, look? f [(45, S_node_ValidItems), (46, S_edit_container)] = some s → PSound Try.prog f s := look_all (by
    simp only [List.forall_mem_cons]
    exact ⟨ok_node_ValidItems, ok_edit_container, by simp⟩)
  refine psound tokW Try.call21 Try.func21 rfl (fun xs r h => by obtain ⟨n, _, _, _, rfl, _⟩ := h; show 1 ≤ 80; decide) 80 rfl ?_
  rintro xs r w0 G0 ⟨n, ⟨a1_kind, a1_row, a1_at, a1_n, a1_nodes, a1_slot, a1_old, a1_text⟩, y0, h, rfl, rfl⟩ _
  rw [m_edit_Formed] at h
  refine tri_seq ?_
  refine tri_region (by exact tokW) (by exact gok) [] [] rfl ?_
  show Tri _ _ _ _
  refine tri_seq ?_
  obtain ⟨x2, hj, h⟩ := bind_out h
  refine tri_post ⟨ofL [(1, .s (.pt [.int .i64 a1_kind, .sl 1 ((List.map (irow .i64)) a1_row), .int .i64 a1_at, .int .i64 a1_n, .sl 4 (Nd.encs a1_nodes), .int .i64 a1_slot, .str a1_old, .str a1_text])), (3, .s (.bool x2))], fun _ => none, 0⟩ ?_ (fun σ' hle => ?_)
  · replace h := hj
    refine tri_region (by exact tokW) (by exact gok) [] [7] rfl ?_
    intro b hb
    cases b with
    | true =>
      replace h := bif_t hb.symm h
      cases h
      exact (Le.forget _ ⟨rfl, rfl, trivial⟩)
    | false =>
      replace h := bif_f hb.symm h
      cases h
      exact (Le.forget _ ⟨rfl, rfl, trivial⟩)
  · show Tri _ _ _ _
    refine tri_le hle ?_
    refine tri_seq ?_
    refine tri_seq ?_
    refine tri_region (by exact tokW) (by exact gok) [] [] rfl ?_
    show Tri _ _ _ _
    obtain ⟨fl, hj, ho1⟩ := bind_out h
    refine tri_fl (fl := fl) (fun z => match z with | _ => ⟨ofL [], fun _ => none, 0⟩) ?_ (fun z σ' hz hle => ?_)
    · replace h := hj
      refine tri_block ?_
      refine tri_seq ?_
      refine tri_seq ?_
      refine tri_region (by exact tokW) (by exact gok) [] [] rfl ?_
      show Tri _ _ _ _
      obtain ⟨x3, hj, h⟩ := bind_out h
      refine tri_post ⟨ofL [(1, .s (.pt [.int .i64 a1_kind, .sl 1 ((List.map (irow .i64)) a1_row), .int .i64 a1_at, .int .i64 a1_n, .sl 4 (Nd.encs a1_nodes), .int .i64 a1_slot, .str a1_old, .str a1_text])), (3, .s (.bool x2)), (13, .s (.int .i64 a1_kind)), (14, .s (.bool x3))], fun _ => none, 0⟩ ?_ (fun σ' hle => ?_)
      · replace h := hj
        refine tri_cond rfl (fun hb => ?_) (fun hb => ?_)
        · replace h := bif_t hb h
          refine tri_skip ?_
          cases h
          exact (Le.forget _ ⟨rfl, rfl, rfl, rfl, trivial⟩)
        · replace h := bif_f hb h
          refine tri_region (by exact tokW) (by exact gok) [] [] rfl ?_
          cases h
          exact (Le.forget _ ⟨rfl, rfl, rfl, rfl, trivial⟩)
      · show Tri _ _ _ _
        refine tri_le hle ?_
        refine tri_cond rfl (fun hb => ?_) (fun hb => ?_)
        · replace h := bif_t hb h
          refine tri_seq ?_
          obtain ⟨x4, hj, h⟩ := bind_out h
          refine tri_post ⟨ofL [(2, .s (.bool x4))], fun _ => none, 0⟩ ?_ (fun σ' hle => ?_)
          · replace h := hj
            refine tri_region (by exact tokW) (by exact gok) [] [20, 25, 29, 32, 35] rfl ?_
            intro b hb
            cases b with
            | true =>
              replace h := bif_t hb.symm h
              intro b hb
              cases b with
              | true =>
                replace h := bif_t hb.symm h
                intro b hb
                cases b with
                | true =>
                  replace h := bif_t hb.symm h
                  intro n5 hn5
                  obtain rfl : (a1_nodes.length : Int) = n5 := (hn5.trans (congrArg (fun m : Nat => (m : Int)) (rlen Nd.encs_eq a1_nodes))).symm
                  intro b hb
                  cases b with
                  | true =>
                    replace h := bif_t hb.symm h
                    obtain ⟨y6, hy6, h⟩ := bind_out h
                    refine ⟨_, ⟨_, _, _, hy6, rfl, rfl⟩, ?_⟩
                    cases h
                    exact (Le.forget _ ⟨rfl, trivial⟩)
                  | false =>
                    replace h := bif_f hb.symm h
                    cases h
                    exact (Le.forget _ ⟨rfl, trivial⟩)
                | false =>
                  replace h := bif_f hb.symm h
                  intro b hb
                  subst hb
                  cases h
                  exact (Le.forget _ ⟨rfl, trivial⟩)
              | false =>
                replace h := bif_f hb.symm h
                intro b hb
                subst hb
                intro b hb
                subst hb
                cases h
                exact (Le.forget _ ⟨rfl, trivial⟩)
            | false =>
              replace h := bif_f hb.symm h
              intro b hb
              subst hb
              intro b hb
              subst hb
              intro b hb
              subst hb
              cases h
              exact (Le.forget _ ⟨rfl, trivial⟩)
          · show Tri _ _ _ _
            refine tri_le hle ?_
            refine tri_ret ?_
            cases h
            replace h : some _ = some _ := ho1
            have hy := Option.some.inj h
            subst hy
            unfold Gives
            exact ⟨_, Le.refl _ _, rfl, rfl⟩
        · replace h := bif_f hb h
          refine tri_seq ?_
          refine tri_seq ?_
          refine tri_region (by exact tokW) (by exact gok) [] [] rfl ?_
          show Tri _ _ _ _
          obtain ⟨x7, hj, h⟩ := bind_out h
          refine tri_post ⟨ofL [(1, .s (.pt [.int .i64 a1_kind, .sl 1 ((List.map (irow .i64)) a1_row), .int .i64 a1_at, .int .i64 a1_n, .sl 4 (Nd.encs a1_nodes), .int .i64 a1_slot, .str a1_old, .str a1_text])), (3, .s (.bool x2)), (13, .s (.int .i64 a1_kind)), (40, .s (.bool x7))], fun _ => none, 0⟩ ?_ (fun σ' hle => ?_)
          · replace h := hj
            refine tri_cond rfl (fun hb => ?_) (fun hb => ?_)
            · replace h := bif_t hb h
              refine tri_skip ?_
              cases h
              exact (Le.forget _ ⟨rfl, rfl, rfl, rfl, trivial⟩)
            · replace h := bif_f hb h
              refine tri_region (by exact tokW) (by exact gok) [] [] rfl ?_
              cases h
              exact (Le.forget _ ⟨rfl, rfl, rfl, rfl, trivial⟩)
          · show Tri _ _ _ _
            refine tri_le hle ?_
            refine tri_cond rfl (fun hb => ?_) (fun hb => ?_)
            · replace h := bif_t hb h
              refine tri_seq ?_
              obtain ⟨x8, hj, h⟩ := bind_out h
              refine tri_post ⟨ofL [(2, .s (.bool x8))], fun _ => none, 0⟩ ?_ (fun σ' hle => ?_)
              · replace h := hj
                refine tri_region (by exact tokW) (by exact gok) [] [46, 50] rfl ?_
                intro b hb
                cases b with
                | true =>
                  replace h := bif_t hb.symm h
                  intro b hb
                  cases b with
                  | true =>
                    replace h := bif_t hb.symm h
                    obtain ⟨y9, hy9, h⟩ := bind_out h
                    refine ⟨_, ⟨_, _, _, _, hy9, rfl, rfl⟩, ?_⟩
                    cases h
                    exact (Le.forget _ ⟨rfl, trivial⟩)
                  | false =>
                    replace h := bif_f hb.symm h
                    cases h
                    exact (Le.forget _ ⟨rfl, trivial⟩)
                | false =>
                  replace h := bif_f hb.symm h
                  intro b hb
                  subst hb
                  cases h
                  exact (Le.forget _ ⟨rfl, trivial⟩)
              · show Tri _ _ _ _
                refine tri_le hle ?_
                refine tri_ret ?_
                cases h
                replace h : some _ = some _ := ho1
                have hy := Option.some.inj h
                subst hy
                unfold Gives
                exact ⟨_, Le.refl _ _, rfl, rfl⟩
            · replace h := bif_f hb h
              refine tri_seq ?_
              refine tri_region (by exact tokW) (by exact gok) [] [] rfl ?_
              show Tri _ _ _ _
              refine tri_cond rfl (fun hb => ?_) (fun hb => ?_)
              · replace h := bif_t hb h
                refine tri_seq ?_
                obtain ⟨x10, hj, h⟩ := bind_out h
                refine tri_post ⟨ofL [(2, .s (.bool x10))], fun _ => none, 0⟩ ?_ (fun σ' hle => ?_)
                · replace h := hj
                  refine tri_region (by exact tokW) (by exact gok) [] [62, 67, 70, 73] rfl ?_
                  intro b hb
                  cases b with
                  | true =>
                    replace h := bif_t hb.symm h
                    intro b hb
                    cases b with
                    | true =>
                      replace h := bif_t hb.symm h
                      intro n11 hn11
                      obtain rfl : (a1_nodes.length : Int) = n11 := (hn11.trans (congrArg (fun m : Nat => (m : Int)) (rlen Nd.encs_eq a1_nodes))).symm
                      intro b hb
                      cases b with
                      | true =>
                        replace h := bif_t hb.symm h
                        cases h
                        exact (Le.forget _ ⟨rfl, trivial⟩)
                      | false =>
                        replace h := bif_f hb.symm h
                        cases h
                        exact (Le.forget _ ⟨rfl, trivial⟩)
                    | false =>
                      replace h := bif_f hb.symm h
                      intro b hb
                      subst hb
                      cases h
                      exact (Le.forget _ ⟨rfl, trivial⟩)
                  | false =>
                    replace h := bif_f hb.symm h
                    intro b hb
                    subst hb
                    intro b hb
                    subst hb
                    cases h
                    exact (Le.forget _ ⟨rfl, trivial⟩)
                · show Tri _ _ _ _
                  refine tri_le hle ?_
                  refine tri_ret ?_
                  cases h
                  replace h : some _ = some _ := ho1
                  have hy := Option.some.inj h
                  subst hy
                  unfold Gives
                  exact ⟨_, Le.refl _ _, rfl, rfl⟩
              · replace h := bif_f hb h
                refine tri_skip ?_
                cases h
                exact ⟨_, rfl, (Le.forget _ trivial)⟩
    · subst hz
      obtain _ := z
      replace h := ho1
      show Tri _ _ _ _
      refine tri_le hle ?_
      refine tri_seq ?_
      refine tri_region (by exact tokW) (by exact gok) [] [] rfl ?_
      show Tri _ _ _ _
      refine tri_ret ?_
      have hy := Option.some.inj h
      subst hy
      unfold Gives
      exact ⟨_, Le.refl _ _, rfl, rfl⟩
def R_deep_Ints (xs : List AV) (r : Ret) : Prop := ∃ (a0 : List Int) (y0 : List Int), m_deep_Ints a0 = some y0 ∧ xs = [.s (.sl 1 ((List.map (irow .i64)) a0))] ∧ r = .val (.s (.sl 1 ((List.map (irow .i64)) y0)))
def S_deep_Ints : PSpec := pspec fun xs r => R_deep_Ints xs r
set_option maxHeartbeats 2000000 in
set_option maxRecDepth 100000 in
theorem ok_deep_Ints : PSound Try.prog 69 S_deep_Ints := by
  have gok : ∀ f s, look? f [(85, S_slices_Clone_sint)] = some s → PSound Try.prog f s := look_all (by
    simp only [List.forall_mem_cons]
    exact ⟨ok_slices_Clone_sint, by simp⟩)
  refine psound tokW Try.call69 Try.func69 rfl (fun xs r h => by obtain ⟨_, _, _, rfl, _⟩ := h; show 1 ≤ 5; decide) 5 rfl ?_
  rintro xs r w0 G0 ⟨l1, y0, h, rfl, rfl⟩ _
  rw [m_deep_Ints] at h
  refine tri_seq ?_
  refine tri_region (by exact tokW) (by exact gok) [] [] rfl ?_
  show Tri _ _ _ _
  refine tri_seq ?_
  refine tri_region (by exact tokW) (by exact gok) [] [] rfl ?_
  obtain ⟨y2, hy2, h⟩ := bind_out h
  refine ⟨_, ⟨_, _, hy2, rfl, rfl⟩, ?_⟩
  show Tri _ _ _ _
  refine tri_ret ?_
  have hy := Option.some.inj h
  subst hy
  unfold Gives
  exact ⟨_, Le.refl _ _, rfl, rfl⟩
def R_deep_Nodes (n : Nat) (xs : List AV) (r : Ret) : Prop := ∃ (a0 : List Nd) (y0 : List Nd), m_deep_Nodes n a0 = some y0 ∧ xs = [.s (.sl 4 (Nd.encs a0))] ∧ r = .row 24 4 (Nd.encs y0)
def S_deep_Nodes : PSpec := pspec fun xs r => ∃ n, R_deep_Nodes n xs r
set_option maxHeartbeats 2000000 in
set_option maxRecDepth 100000 in
theorem ok_deep_Nodes : PSound Try.prog 70 S_deep_Nodes := by
  have gok : ∀ f s, look? f [(49, S_deep_Node)] = some s → PSound Try.prog f s := look_all (by
    simp only [List.forall_mem_cons]
    exact ⟨ok_deep_Node, by simp⟩)
  refine psound tokW Try.call70 Try.func70 rfl (fun xs r h => by obtain ⟨n, _, _, _, rfl, _⟩ := h; show 1 ≤ 20; decide) 20 rfl ?_
  rintro xs r w0 G0 ⟨n, l1, y0, h, rfl, rfl⟩ _
  rw [m_deep_Nodes] at h
  refine tri_seq ?_
  refine tri_region (by exact tokW) (by exact gok) [2] [] rfl ?_
  show Tri _ _ _ _
  refine tri_le (Le.rename [] [(0, .s (.sl 4 (Nd.encs l1)))] [] 0 ⟨rfl, trivial⟩ trivial rfl rfl rfl rfl rfl) ?_
  refine tri_seq ?_
  refine tri_region (by exact tokW) (by exact gok) [3] [] rfl ?_
  show Tri _ _ _ _
  refine tri_le (Le.rename [(0, 0)] [(0, .s (.sl 4 (Nd.encs l1))), (3, .orow 0)] [(0, .row 24 4 (Nd.encs []))] 1 ⟨rfl, rfl, trivial⟩ ⟨rfl, ⟨_, rfl, congrArg (Ob.row 24 4) (by simp [List.map_append, List.map_take, List.map_drop, irow, brow, b8of_row, List.map_cons, List.map_nil, b8of_wrap, Nd.encs_eq, Nd.enc, enc_13_node_kind, enc_node_checker, enc_s_api_Node, enc_edit_change, enc_api_Op])⟩, trivial⟩ rfl rfl rfl rfl rfl) ?_
  refine tri_seq ?_
  refine tri_seq ?_
  refine tri_region (by exact tokW) (by exact gok) [] [6] rfl ?_
  intro n2 hn2
  obtain rfl : (l1.length : Int) = n2 := (hn2.trans (congrArg (fun m : Nat => (m : Int)) (rlen Nd.encs_eq l1))).symm
  show Tri _ _ _ _
  obtain ⟨l6, hl, h⟩ := bind_out h
  refine tri_post ⟨ofL [(3, .orow 0)], ofH [(0, .row 24 4 (Nd.encs l6))], 1⟩ ?_ (fun σ' hle => ?_)
  · refine tri_block (tri_loopI (X := Nat × Int × (List Nd)) (fun y => match y with | (k, x4, l5) => ⟨ofL [(0, .s (.sl 4 (Nd.encs l1))), (3, .orow 0), (6, .s (.int .i64 (l1.length : Int))), (7, .s (.int .i64 x4))], ofH [(0, .row 24 4 (Nd.encs l5))], 1⟩) (fun y => m_deep_Nodes_l1 l1 y.1 y.2.1 y.2.2 = some l6) (fun y => y.1) (n, 0, []) hl ?_ ?_)
    · exact (Le.rename [(0, 0)] _ _ _ ⟨rfl, rfl, rfl, rfl, trivial⟩ ⟨rfl, ⟨_, rfl, rfl⟩, trivial⟩ rfl rfl rfl rfl rfl)
    · rintro ⟨k, x4, l5⟩ h
      cases k with
      | zero => cases h
      | succ k =>
        replace h : m_deep_Nodes_l1 l1 (k+1) x4 l5 = some l6 := h
        rw [m_deep_Nodes_l1] at h
        refine tri_seq ?_
        refine tri_region (by exact tokW) (by exact gok) [] [] rfl ?_
        show Tri _ _ _ _
        refine tri_seq ?_
        refine tri_cond rfl (fun hb => ?_) (fun hb => ?_)
        · replace h := bif_t hb h
          refine tri_skip ?_
          show Tri _ _ _ _
          refine tri_seq ?_
          refine tri_block ?_
          refine tri_seq ?_
          refine tri_region (by exact tokW) (by exact gok) [] [] rfl ?_
          show Tri _ _ _ _
          refine tri_region (by exact tokW) (by exact gok) [17] [13, 16] rfl ?_
          obtain ⟨⟨e7_kind, e7_text, e7_cols, e7_kids⟩, he7, h⟩ := bind_out h
          refine And.intro (at_ok Nd.encs_eq he7).1 ?_
          intro r8 hr8
          obtain rfl : [.int .i64 e7_kind, .str e7_text, .int .i64 e7_cols, .sl 4 (Nd.encs e7_kids)] = r8 := (hr8.trans (at_ok Nd.encs_eq he7).2.1).symm
          obtain ⟨⟨y9_kind, y9_text, y9_cols, y9_kids⟩, hy9, h⟩ := bind_out h
          refine ⟨_, ⟨_, _, hy9, rfl, rfl⟩, ?_⟩
          intro r10 hr10
          obtain rfl : Nd.encs [Nd.mk y9_kind y9_text y9_cols y9_kids] = r10 := (hr10.trans (by simp [List.map_append, List.map_take, List.map_drop, irow, brow, b8of_row, List.map_cons, List.map_nil, b8of_wrap, Nd.encs_eq, Nd.enc, enc_13_node_kind, enc_node_checker, enc_s_api_Node, enc_edit_change, enc_api_Op])).symm
          obtain ⟨hq, h⟩ := req_out h
          refine And.intro (show ((Nd.encs l5).length + (Nd.encs [Nd.mk y9_kind y9_text y9_cols y9_kids]).length) * 56 ≤ 140737488355328 ∧ (Nd.encs l5).length + (Nd.encs [Nd.mk y9_kind y9_text y9_cols y9_kids]).length ≤ 9223372036854775807 from by simp only [List.length_append, List.length_cons, List.length_nil, List.length_map, rlen Nd.encs_eq] at hq ⊢; omega) ?_
          show Tri _ _ _ _
          refine tri_le (Le.rename [(1, 0)] [(0, .s (.sl 4 (Nd.encs l1))), (3, .orow 0), (6, .s (.int .i64 (l1.length : Int))), (7, .s (.int .i64 x4))] [(0, .row 24 4 (Nd.encs (l5 ++ [Nd.mk y9_kind y9_text y9_cols y9_kids])))] 1 ⟨rfl, rfl, rfl, rfl, trivial⟩ ⟨rfl, ⟨_, rfl, congrArg (Ob.row 24 4) (by simp [List.map_append, List.map_take, List.map_drop, irow, brow, b8of_row, List.map_cons, List.map_nil, b8of_wrap, Nd.encs_eq, Nd.enc, enc_13_node_kind, enc_node_checker, enc_s_api_Node, enc_edit_change, enc_api_Op])⟩, trivial⟩ rfl rfl rfl rfl rfl) ?_
          refine tri_region (by exact tokW) (by exact gok) [] [] rfl ?_
          refine ⟨(k, IntKind.i64.wrap (x4 + 1), l5 ++ [Nd.mk y9_kind y9_text y9_cols y9_kids]), h, (Le.rename [(0, 0)] _ _ _ ⟨rfl, rfl, rfl, rfl, trivial⟩ ⟨rfl, ⟨_, rfl, rfl⟩, trivial⟩ rfl rfl rfl rfl rfl), Nat.lt_succ_self k⟩
        · replace h := bif_f hb h
          refine tri_exit ?_
          cases h
          exact (Le.rename [(0, 0)] _ _ _ ⟨rfl, trivial⟩ ⟨rfl, ⟨_, rfl, rfl⟩, trivial⟩ rfl rfl rfl rfl rfl)
  · show Tri _ _ _ _
    refine tri_le hle ?_
    refine tri_seq ?_
    refine tri_region (by exact tokW) (by exact gok) [] [] rfl ?_
    show Tri _ _ _ _
    refine tri_ret ?_
    have hy := Option.some.inj h
    subst hy
    unfold Gives
    exact ⟨_, Le.refl _ _, 0, rfl, rfl⟩
def R_deep_Op (n : Nat) (xs : List AV) (r : Ret) : Prop := ∃ (a0 : (Int × List Int × Int × Int × List Nd × Int × List UInt8 × List UInt8)) (y0 : (Int × List Int × Int × Int × List Nd × Int × List UInt8 × List UInt8)), m_deep_Op n a0 = some y0 ∧ xs = [.agg ((enc_api_Op a0).map .s)] ∧ r = .val (.agg ((enc_api_Op y0).map .s))
def S_deep_Op : PSpec := pspec fun xs r => ∃ n, R_deep_Op n xs r
set_option maxHeartbeats 2000000 in
set_option maxRecDepth 100000 in
theorem ok_deep_Op : PSound Try.prog 50 S_deep_Op := by
  have gok : ∀ f s, look? f [(69, S_deep_Ints), (70, S_deep_Nodes)] = some s → PSound Try.prog f s := look_all (by
    simp only [List.forall_mem_cons]
    exact ⟨ok_deep_Ints, ok_deep_Nodes, by simp⟩)
  refine psound tokW Try.call50 Try.func50 rfl (fun xs r h => by obtain ⟨n, _, _, _, rfl, _⟩ := h; show 1 ≤ 12; decide) 12 rfl ?_
  rintro xs r w0 G0 ⟨n, ⟨op1_kind, op1_row, op1_at, op1_n, op1_nodes, op1_slot, op1_old, op1_text⟩, y0, h, rfl, rfl⟩ _
  rw [m_deep_Op] at h
  refine tri_seq ?_
  refine tri_region (by exact tokW) (by exact gok) [1, 2] [] rfl ?_
  show Tri _ _ _ _
  refine tri_seq ?_
  refine tri_region (by exact tokW) (by exact gok) [] [] rfl ?_
  obtain ⟨y2, hy2, h⟩ := bind_out h
  refine ⟨_, ⟨_, _, hy2, rfl, rfl⟩, ?_⟩
  show Tri _ _ _ _
  refine tri_seq ?_
  refine tri_region (by exact tokW) (by exact gok) [] [] rfl ?_
  obtain ⟨y3, hy3, h⟩ := bind_out h
  refine ⟨_, ⟨_, _, _, hy3, rfl, rfl⟩, ?_⟩
  show Tri _ _ _ _
  refine tri_seq ?_
  refine tri_region (by exact tokW) (by exact gok) [] [] rfl ?_
  show Tri _ _ _ _
  refine tri_ret ?_
  have hy := Option.some.inj h
  subst hy
  unfold Gives
  exact ⟨_, Le.refl _ _, rfl, rfl⟩
end Go.Proofs.Ytfbggpmdmhgpfaa
namespace Go.Proofs.Ytfbggpmdmhgpfaa
open Go.Abs
theorem psound_or {P : Program} {f : Nat} {A B : List AV → Ret → Prop} (hA : PSound P f (pspec A)) (hB : PSound P f (pspec B)) : PSound P f (pspec fun xs r => A xs r ∨ B xs r) :=
  ⟨hA.1, fun G w xs vs r hl hg hp hv hs => hs.elim (hA.2.1 G w xs vs r hl hg hp hv) (hB.2.1 G w xs vs r hl hg hp hv), fun R hR => (by cases hR), fun R hR => (by cases hR)⟩
theorem psound_mono {P : Program} {f : Nat} {A B : List AV → Ret → Prop} (hA : PSound P f (pspec A)) (h : ∀ xs r, B xs r → A xs r) : PSound P f (pspec B) :=
  ⟨hA.1, fun G w xs vs r hl hg hp hv hs => hA.2.1 G w xs vs r hl hg hp hv (h xs r hs), fun R hR => (by cases hR), fun R hR => (by cases hR)⟩
def R_edit_change_unwrap (n : Nat) (xs : List AV) (r : Ret) : Prop := ∃ (a0 : ((Int × List Int × Int × Int × List Nd × Int × List UInt8 × List UInt8) × List Nd)) (y0 : List Nd) (y1 : Int), m_edit_change_unwrap n a0 = some (y0, y1) ∧ xs = [.agg ((enc_edit_change a0).map .s)] ∧ r = .val (.tup [.s (.sl 4 (Nd.encs y0)), .s (.int .i64 y1)])
def S_edit_change_unwrap : PSpec := pspec fun xs r => ∃ n, R_edit_change_unwrap n xs r
theorem ok_edit_change_unwrap : PSound Try.prog 63 S_edit_change_unwrap :=
  psound_mono (psound_or ok_edit_change_unwrap_none ok_edit_change_unwrap_kids) fun xs r ⟨n, a, y, z, hm, hx, hr⟩ => by
    unfold m_edit_change_unwrap at hm
    split at hm
    · rename_i q hq
      obtain rfl := Option.some.inj hm
      exact .inl ⟨a, y, z, hq, hx, hr⟩
    · exact .inr ⟨n, a, y, z, hm, hx, hr⟩
end Go.Proofs.Ytfbggpmdmhgpfaa
namespace Go.Proofs.Ytfbggpmdmhgpfaa
open Go.Abs
def R_edit_change_apply (n : Nat) (xs : List AV) (r : Ret) : Prop := ∃ (a0 : ((Int × List Int × Int × Int × List Nd × Int × List UInt8 × List UInt8) × List Nd)) (y0 : List Nd) (y1 : Int), m_edit_change_apply n a0 = some (y0, y1) ∧ xs = [.agg ((enc_edit_change a0).map .s)] ∧ r = .val (.tup [.s (.sl 4 (Nd.encs y0)), .s (.int .i64 y1)])
def S_edit_change_apply : PSpec := pspec fun xs r => ∃ n, R_edit_change_apply n xs r
set_option maxHeartbeats 2000000 in
set_option maxRecDepth 100000 in
theorem ok_edit_change_apply : PSound Try.prog 37 S_edit_change_apply := by
  have gok : ∀ f s, look? f [(59, S_edit_change_enough), (60, S_edit_change_insert), (61, S_edit_change_remove), (62, S_edit_change_wrap), (63, S_edit_change_unwrap), (64, S_edit_change_set)] = some s → PSound Try.prog f s := look_all (by
    simp only [List.forall_mem_cons]
    exact ⟨ok_edit_change_enough, ok_edit_change_insert, ok_edit_change_remove, ok_edit_change_wrap, ok_edit_change_unwrap, ok_edit_change_set, by simp⟩)
  refine psound tokW Try.call37 Try.func37 rfl (fun xs r h => by obtain ⟨n, _, _, _, _, rfl, _⟩ := h; show 1 ≤ 41; decide) 41 rfl ?_
  rintro xs r w0 G0 ⟨n, ⟨⟨c1_op_kind, c1_op_row, c1_op_at, c1_op_n, c1_op_nodes, c1_op_slot, c1_op_old, c1_op_text⟩, c1_items⟩, y0, y1, h, rfl, rfl⟩ _
  rw [m_edit_change_apply] at h
  refine tri_seq ?_
  refine tri_region (by exact tokW) (by exact gok) [] [] rfl ?_
  show Tri _ _ _ _
  refine tri_seq ?_
  refine tri_seq ?_
  refine tri_region (by exact tokW) (by exact gok) [] [] rfl ?_
  obtain ⟨y2, hy2, h⟩ := bind_out h
  refine ⟨_, ⟨_, _, hy2, rfl, rfl⟩, ?_⟩
  show Tri _ _ _ _
  refine tri_seq ?_
  refine tri_region (by exact tokW) (by exact gok) [] [] rfl ?_
  show Tri _ _ _ _
  refine tri_cond rfl (fun hb => ?_) (fun hb => ?_)
  · replace h := bif_t hb h
    refine tri_seq ?_
    refine tri_region (by exact tokW) (by exact gok) [] [] rfl ?_
    show Tri _ _ _ _
    refine tri_ret ?_
    obtain ⟨hj1, hk1⟩ := Prod.mk.inj (Option.some.inj h)
    subst hj1
    subst hk1
    unfold Gives
    exact ⟨_, Le.refl _ _, rfl, rfl⟩
  · replace h := bif_f hb h
    refine tri_skip ?_
    show Tri _ _ _ _
    refine tri_seq ?_
    refine tri_seq ?_
    refine tri_region (by exact tokW) (by exact gok) [] [] rfl ?_
    show Tri _ _ _ _
    refine tri_block ?_
    refine tri_seq ?_
    refine tri_region (by exact tokW) (by exact gok) [] [] rfl ?_
    show Tri _ _ _ _
    refine tri_cond rfl (fun hb => ?_) (fun hb => ?_)
    · replace h := bif_t hb h
      refine tri_seq ?_
      refine tri_region (by exact tokW) (by exact gok) [] [] rfl ?_
      obtain ⟨⟨y3, y4⟩, hy3, h⟩ := bind_out h
      refine ⟨_, ⟨_, _, _, _, hy3, rfl, rfl⟩, ?_⟩
      show Tri _ _ _ _
      refine tri_ret ?_
      obtain ⟨hj1, hk1⟩ := Prod.mk.inj (Option.some.inj h)
      subst hj1
      subst hk1
      unfold Gives
      exact ⟨_, Le.refl _ _, rfl, rfl⟩
    · replace h := bif_f hb h
      refine tri_seq ?_
      refine tri_region (by exact tokW) (by exact gok) [] [] rfl ?_
      show Tri _ _ _ _
      refine tri_cond rfl (fun hb => ?_) (fun hb => ?_)
      · replace h := bif_t hb h
        refine tri_seq ?_
        refine tri_region (by exact tokW) (by exact gok) [] [] rfl ?_
        obtain ⟨⟨y5, y6⟩, hy5, h⟩ := bind_out h
        refine ⟨_, ⟨_, _, _, _, hy5, rfl, rfl⟩, ?_⟩
        show Tri _ _ _ _
        refine tri_ret ?_
        obtain ⟨hj1, hk1⟩ := Prod.mk.inj (Option.some.inj h)
        subst hj1
        subst hk1
        unfold Gives
        exact ⟨_, Le.refl _ _, rfl, rfl⟩
      · replace h := bif_f hb h
        refine tri_seq ?_
        refine tri_region (by exact tokW) (by exact gok) [] [] rfl ?_
        show Tri _ _ _ _
        refine tri_cond rfl (fun hb => ?_) (fun hb => ?_)
        · replace h := bif_t hb h
          refine tri_seq ?_
          refine tri_region (by exact tokW) (by exact gok) [] [] rfl ?_
          obtain ⟨⟨y7, y8⟩, hy7, h⟩ := bind_out h
          refine ⟨_, ⟨_, _, _, _, hy7, rfl, rfl⟩, ?_⟩
          show Tri _ _ _ _
          refine tri_ret ?_
          obtain ⟨hj1, hk1⟩ := Prod.mk.inj (Option.some.inj h)
          subst hj1
          subst hk1
          unfold Gives
          exact ⟨_, Le.refl _ _, rfl, rfl⟩
        · replace h := bif_f hb h
          refine tri_seq ?_
          refine tri_region (by exact tokW) (by exact gok) [] [] rfl ?_
          show Tri _ _ _ _
          refine tri_cond rfl (fun hb => ?_) (fun hb => ?_)
          · replace h := bif_t hb h
            refine tri_seq ?_
            refine tri_region (by exact tokW) (by exact gok) [] [] rfl ?_
            obtain ⟨⟨y9, y10⟩, hy9, h⟩ := bind_out h
            refine ⟨_, ⟨_, _, _, _, hy9, rfl, rfl⟩, ?_⟩
            show Tri _ _ _ _
            refine tri_ret ?_
            obtain ⟨hj1, hk1⟩ := Prod.mk.inj (Option.some.inj h)
            subst hj1
            subst hk1
            unfold Gives
            exact ⟨_, Le.refl _ _, rfl, rfl⟩
          · replace h := bif_f hb h
            refine tri_skip ?_
            show Tri _ _ _ _
            refine tri_seq ?_
            refine tri_region (by exact tokW) (by exact gok) [] [] rfl ?_
            obtain ⟨⟨y11, y12⟩, hy11, h⟩ := bind_out h
            refine ⟨_, ⟨_, _, _, _, hy11, rfl, rfl⟩, ?_⟩
            show Tri _ _ _ _
            refine tri_ret ?_
            obtain ⟨hj1, hk1⟩ := Prod.mk.inj (Option.some.inj h)
            subst hj1
            subst hk1
            unfold Gives
            exact ⟨_, Le.refl _ _, rfl, rfl⟩
def R_edit_Apply (n : Nat) (xs : List AV) (r : Ret) : Prop := ∃ (a0 : Nd) (a1 : (Int × List Int × Int × Int × List Nd × Int × List UInt8 × List UInt8)) (y0 : Nd) (y1 : Int), m_edit_Apply n a0 a1 = some (y0, y1) ∧ xs = [.agg ((Nd.enc a0).map .s), .agg ((enc_api_Op a1).map .s)] ∧ r = .val (.tup [.agg ((Nd.enc y0).map .s), .s (.int .i64 y1)])
def S_edit_Apply : PSpec := pspec fun xs r => ∃ n, R_edit_Apply n xs r
set_option maxHeartbeats 2000000 in
set_option maxRecDepth 100000 in
theorem ok_edit_Apply : PSound Try.prog 13 S_edit_Apply := by
  have gok : ∀ f s, look? f [(35, S_node_Valid), (21, S_edit_Formed), (36, S_node_Row), (37, S_edit_change_apply), (38, S_node_With)] = some s → PSound Try.prog f s := look_all (by
    simp only [List.forall_mem_cons]
    exact ⟨ok_node_Valid, ok_edit_Formed, ok_node_Row, ok_edit_change_apply, ok_node_With, by simp⟩)
  refine psound tokW Try.call13 Try.func13 rfl (fun xs r h => by obtain ⟨n, _, _, _, _, _, rfl, _⟩ := h; show 2 ≤ 53; decide) 53 rfl ?_
  rintro xs r w0 G0 ⟨n, ⟨n1_kind, n1_text, n1_cols, n1_kids⟩, ⟨op2_kind, op2_row, op2_at, op2_n, op2_nodes, op2_slot, op2_old, op2_text⟩, y0, y1, h, rfl, rfl⟩ _
  rw [m_edit_Apply] at h
  refine tri_seq ?_
  refine tri_region (by exact tokW) (by exact gok) [4] [] rfl ?_
  show Tri _ _ _ _
  refine tri_seq ?_
  refine tri_seq ?_
  refine tri_region (by exact tokW) (by exact gok) [] [] rfl ?_
  obtain ⟨y3, hy3, h⟩ := bind_out h
  refine ⟨_, ⟨_, _, _, hy3, rfl, rfl⟩, ?_⟩
  show Tri _ _ _ _
  refine tri_cond rfl (fun hb => ?_) (fun hb => ?_)
  · replace h := bif_t hb h
    refine tri_seq ?_
    refine tri_region (by exact tokW) (by exact gok) [] [] rfl ?_
    show Tri _ _ _ _
    refine tri_ret ?_
    obtain ⟨hj1, hk1⟩ := Prod.mk.inj (Option.some.inj h)
    subst hj1
    subst hk1
    unfold Gives
    exact ⟨_, Le.refl _ _, rfl, rfl⟩
  · replace h := bif_f hb h
    refine tri_skip ?_
    show Tri _ _ _ _
    refine tri_seq ?_
    refine tri_seq ?_
    refine tri_region (by exact tokW) (by exact gok) [] [] rfl ?_
    obtain ⟨y4, hy4, h⟩ := bind_out h
    refine ⟨_, ⟨_, _, _, hy4, rfl, rfl⟩, ?_⟩
    show Tri _ _ _ _
    refine tri_cond rfl (fun hb => ?_) (fun hb => ?_)
    · replace h := bif_t hb h
      refine tri_seq ?_
      refine tri_region (by exact tokW) (by exact gok) [] [] rfl ?_
      show Tri _ _ _ _
      refine tri_ret ?_
      obtain ⟨hj1, hk1⟩ := Prod.mk.inj (Option.some.inj h)
      subst hj1
      subst hk1
      unfold Gives
      exact ⟨_, Le.refl _ _, rfl, rfl⟩
    · replace h := bif_f hb h
      refine tri_skip ?_
      show Tri _ _ _ _
      refine tri_seq ?_
      refine tri_region (by exact tokW) (by exact gok) [6] [] rfl ?_
      obtain ⟨⟨⟨y5_kind, y5_text, y5_cols, y5_kids⟩, y6⟩, hy5, h⟩ := bind_out h
      refine ⟨_, ⟨_, _, _, _, _, hy5, rfl, rfl⟩, ?_⟩
      show Tri _ _ _ _
      refine tri_seq ?_
      refine tri_seq ?_
      refine tri_region (by exact tokW) (by exact gok) [] [] rfl ?_
      show Tri _ _ _ _
      refine tri_cond rfl (fun hb => ?_) (fun hb => ?_)
      · replace h := bif_t hb h
        refine tri_seq ?_
        refine tri_region (by exact tokW) (by exact gok) [] [] rfl ?_
        show Tri _ _ _ _
        refine tri_ret ?_
        obtain ⟨hj1, hk1⟩ := Prod.mk.inj (Option.some.inj h)
        subst hj1
        subst hk1
        unfold Gives
        exact ⟨_, Le.refl _ _, rfl, rfl⟩
      · replace h := bif_f hb h
        refine tri_skip ?_
        show Tri _ _ _ _
        refine tri_seq ?_
        refine tri_region (by exact tokW) (by exact gok) [] [] rfl ?_
        obtain ⟨⟨y7, y8⟩, hy7, h⟩ := bind_out h
        refine ⟨_, ⟨_, _, _, _, hy7, rfl, rfl⟩, ?_⟩
        show Tri _ _ _ _
        refine tri_seq ?_
        refine tri_seq ?_
        refine tri_region (by exact tokW) (by exact gok) [] [] rfl ?_
        show Tri _ _ _ _
        refine tri_cond rfl (fun hb => ?_) (fun hb => ?_)
        · replace h := bif_t hb h
          refine tri_seq ?_
          refine tri_region (by exact tokW) (by exact gok) [] [] rfl ?_
          show Tri _ _ _ _
          refine tri_ret ?_
          obtain ⟨hj1, hk1⟩ := Prod.mk.inj (Option.some.inj h)
          subst hj1
          subst hk1
          unfold Gives
          exact ⟨_, Le.refl _ _, rfl, rfl⟩
        · replace h := bif_f hb h
          refine tri_skip ?_
          show Tri _ _ _ _
          refine tri_seq ?_
          refine tri_region (by exact tokW) (by exact gok) [8] [] rfl ?_
          obtain ⟨⟨⟨y9_kind, y9_text, y9_cols, y9_kids⟩, y10⟩, hy9, h⟩ := bind_out h
          refine ⟨_, ⟨_, _, _, _, _, _, hy9, rfl, rfl⟩, ?_⟩
          show Tri _ _ _ _
          refine tri_le (Le.giveBox 2 [.int .i64 y9_kind, .str y9_text, .int .i64 y9_cols, .sl 4 (Nd.encs y9_kids)] rfl rfl) ?_
          refine tri_seq ?_
          refine tri_seq ?_
          refine tri_region (by exact tokW) (by exact gok) [] [] rfl ?_
          show Tri _ _ _ _
          refine tri_cond rfl (fun hb => ?_) (fun hb => ?_)
          · replace h := bif_t hb h
            refine tri_seq ?_
            refine tri_region (by exact tokW) (by exact gok) [] [] rfl ?_
            show Tri _ _ _ _
            refine tri_ret ?_
            obtain ⟨hj1, hk1⟩ := Prod.mk.inj (Option.some.inj h)
            subst hj1
            subst hk1
            unfold Gives
            exact ⟨_, Le.refl _ _, rfl, rfl⟩
          · replace h := bif_f hb h
            refine tri_skip ?_
            show Tri _ _ _ _
            refine tri_seq ?_
            refine tri_region (by exact tokW) (by exact gok) [] [] rfl ?_
            show Tri _ _ _ _
            refine tri_ret ?_
            obtain ⟨hj1, hk1⟩ := Prod.mk.inj (Option.some.inj h)
            subst hj1
            subst hk1
            unfold Gives
            exact ⟨_, Le.refl _ _, rfl, rfl⟩
def R_edit_ApplyAll (n : Nat) (xs : List AV) (r : Ret) : Prop := ∃ (a0 : Nd) (a1 : List (Int × List Int × Int × Int × List Nd × Int × List UInt8 × List UInt8)) (y0 : Nd) (y1 : Int) (y2 : Int), m_edit_ApplyAll n a0 a1 = some (y0, y1, y2) ∧ xs = [.agg ((Nd.enc a0).map .s), .s (.sl 8 ((List.map enc_api_Op) a1))] ∧ r = .val (.tup [.agg ((Nd.enc y0).map .s), .s (.int .i64 y1), .s (.int .i64 y2)])
def S_edit_ApplyAll : PSpec := pspec fun xs r => ∃ n, R_edit_ApplyAll n xs r
set_option maxHeartbeats 2000000 in
set_option maxRecDepth 100000 in
theorem ok_edit_ApplyAll : PSound Try.prog 23 S_edit_ApplyAll := by
  have gok : ∀ f s, look? f [(35, S_node_Valid), (49, S_deep_Node), (13, S_edit_Apply)] = some s → PSound Try.prog f s := look_all (by
    simp only [List.forall_mem_cons]
    exact ⟨ok_node_Valid, ok_deep_Node, ok_edit_Apply, by simp⟩)
  refine psound tokW Try.call23 Try.func23 rfl (fun xs r h => by obtain ⟨n, _, _, _, _, _, _, rfl, _⟩ := h; show 2 ≤ 39; decide) 39 rfl ?_
  rintro xs r w0 G0 ⟨n, ⟨n1_kind, n1_text, n1_cols, n1_kids⟩, ops2, y0, y1, y2, h, rfl, rfl⟩ _
  rw [m_edit_ApplyAll] at h
  refine tri_seq ?_
  refine tri_region (by exact tokW) (by exact gok) [4] [] rfl ?_
  show Tri _ _ _ _
  refine tri_seq ?_
  refine tri_seq ?_
  refine tri_region (by exact tokW) (by exact gok) [] [] rfl ?_
  obtain ⟨y3, hy3, h⟩ := bind_out h
  refine ⟨_, ⟨_, _, _, hy3, rfl, rfl⟩, ?_⟩
  show Tri _ _ _ _
  refine tri_cond rfl (fun hb => ?_) (fun hb => ?_)
  · replace h := bif_t hb h
    refine tri_seq ?_
    refine tri_region (by exact tokW) (by exact gok) [] [] rfl ?_
    show Tri _ _ _ _
    refine tri_ret ?_
    obtain ⟨hj1, hk1⟩ := Prod.mk.inj (Option.some.inj h)
    subst hj1
    obtain ⟨hj2, hk2⟩ := Prod.mk.inj hk1
    subst hj2
    subst hk2
    unfold Gives
    exact ⟨_, Le.refl _ _, rfl, rfl⟩
  · replace h := bif_f hb h
    refine tri_skip ?_
    show Tri _ _ _ _
    refine tri_seq ?_
    refine tri_region (by exact tokW) (by exact gok) [7] [] rfl ?_
    obtain ⟨⟨y4_kind, y4_text, y4_cols, y4_kids⟩, hy4, h⟩ := bind_out h
    refine ⟨_, ⟨_, _, hy4, rfl, rfl⟩, ?_⟩
    show Tri _ _ _ _
    refine tri_seq ?_
    refine tri_seq ?_
    refine tri_region (by exact tokW) (by exact gok) [] [19] rfl ?_
    intro n5 hn5
    obtain rfl : (ops2.length : Int) = n5 := (hn5.trans (congrArg (fun m : Nat => (m : Int)) (rlen (fun _ => rfl) ops2))).symm
    show Tri _ _ _ _
    obtain ⟨fl, hl, ho1⟩ := bind_out h
    refine tri_fl (fl := fl) (fun z => match z with | ⟨x12, x13, x14, x15⟩ => ⟨ofL [(4, .op 0 0), (7, .op 1 0)], ofH [(0, .box 24 [.s (.int .i64 0), .s (.str []), .s (.int .i64 0), .nl 4]), (1, .box 24 [.s (.int .i64 x12), .s (.str x13), .s (.int .i64 x14), .s (.sl 4 (Nd.encs x15))])], 2⟩) ?_ (fun z σ' hz hle => ?_)
    · refine tri_block (tri_loopI (X := Nat × Int × (List UInt8) × Int × (List Nd) × Int) (fun y => match y with | (k, x7, x8, x9, x10, x11) => ⟨ofL [(4, .op 0 0), (7, .op 1 0), (18, .s (.sl 8 ((List.map enc_api_Op) ops2))), (19, .s (.int .i64 (ops2.length : Int))), (20, .s (.int .i64 x11))], ofH [(0, .box 24 [.s (.int .i64 0), .s (.str []), .s (.int .i64 0), .nl 4]), (1, .box 24 [.s (.int .i64 x7), .s (.str x8), .s (.int .i64 x9), .s (.sl 4 (Nd.encs x10))])], 2⟩) (fun y => m_edit_ApplyAll_l1 n ops2 y.1 y.2.1 y.2.2.1 y.2.2.2.1 y.2.2.2.2.1 y.2.2.2.2.2 = some fl) (fun y => y.1) (n, y4_kind, y4_text, y4_cols, y4_kids, 0) hl ?_ ?_)
      · exact (Le.rename [(0, 0), (1, 1)] _ _ _ ⟨rfl, rfl, rfl, rfl, rfl, trivial⟩ ⟨rfl, ⟨_, rfl, rfl⟩, rfl, ⟨_, rfl, rfl⟩, trivial⟩ rfl rfl rfl rfl rfl)
      · rintro ⟨k, x7, x8, x9, x10, x11⟩ h
        cases k with
        | zero => cases h
        | succ k =>
          replace h : m_edit_ApplyAll_l1 n ops2 (k+1) x7 x8 x9 x10 x11 = some fl := h
          rw [m_edit_ApplyAll_l1] at h
          refine tri_seq ?_
          refine tri_region (by exact tokW) (by exact gok) [] [] rfl ?_
          show Tri _ _ _ _
          refine tri_seq ?_
          refine tri_cond rfl (fun hb => ?_) (fun hb => ?_)
          · replace h := bif_t hb h
            refine tri_skip ?_
            show Tri _ _ _ _
            refine tri_seq ?_
            refine tri_block ?_
            refine tri_seq ?_
            refine tri_region (by exact tokW) (by exact gok) [9] [23] rfl ?_
            obtain ⟨⟨e16_kind, e16_row, e16_at, e16_n, e16_nodes, e16_slot, e16_old, e16_text⟩, he16, h⟩ := bind_out h
            refine And.intro (at_ok (fun _ => rfl) he16).1 ?_
            intro r17 hr17
            obtain rfl : [.int .i64 e16_kind, .sl 1 ((List.map (irow .i64)) e16_row), .int .i64 e16_at, .int .i64 e16_n, .sl 4 (Nd.encs e16_nodes), .int .i64 e16_slot, .str e16_old, .str e16_text] = r17 := (hr17.trans (at_ok (fun _ => rfl) he16).2.1).symm
            show Tri _ _ _ _
            refine tri_le (Le.giveBox 2 [.int .i64 e16_kind, .sl 1 ((List.map (irow .i64)) e16_row), .int .i64 e16_at, .int .i64 e16_n, .sl 4 (Nd.encs e16_nodes), .int .i64 e16_slot, .str e16_old, .str e16_text] rfl rfl) ?_
            refine tri_seq ?_
            refine tri_region (by exact tokW) (by exact gok) [10] [] rfl ?_
            obtain ⟨⟨⟨y18_kind, y18_text, y18_cols, y18_kids⟩, y19⟩, hy18, h⟩ := bind_out h
            refine ⟨_, ⟨_, _, _, _, _, hy18, rfl, rfl⟩, ?_⟩
            show Tri _ _ _ _
            refine tri_le (Le.giveBox 3 [.int .i64 y18_kind, .str y18_text, .int .i64 y18_cols, .sl 4 (Nd.encs y18_kids)] rfl rfl) ?_
            refine tri_seq ?_
            refine tri_seq ?_
            refine tri_region (by exact tokW) (by exact gok) [] [] rfl ?_
            show Tri _ _ _ _
            refine tri_cond rfl (fun hb => ?_) (fun hb => ?_)
            · replace h := bif_t hb h
              refine tri_seq ?_
              refine tri_region (by exact tokW) (by exact gok) [] [] rfl ?_
              show Tri _ _ _ _
              refine tri_ret ?_
              cases h
              replace h : some _ = some _ := ho1
              obtain ⟨hj1, hk1⟩ := Prod.mk.inj (Option.some.inj h)
              subst hj1
              obtain ⟨hj2, hk2⟩ := Prod.mk.inj hk1
              subst hj2
              subst hk2
              unfold Gives
              exact ⟨_, Le.refl _ _, rfl, rfl⟩
            · replace h := bif_f hb h
              refine tri_skip ?_
              show Tri _ _ _ _
              refine tri_region (by exact tokW) (by exact gok) [] [] rfl ?_
              show Tri _ _ _ _
              refine tri_region (by exact tokW) (by exact gok) [] [] rfl ?_
              refine ⟨(k, y18_kind, y18_text, y18_cols, y18_kids, IntKind.i64.wrap (x11 + 1)), h, (Le.rename [(0, 0), (1, 1)] _ _ _ ⟨rfl, rfl, rfl, rfl, rfl, trivial⟩ ⟨rfl, ⟨_, rfl, rfl⟩, rfl, ⟨_, rfl, rfl⟩, trivial⟩ rfl rfl rfl rfl rfl), Nat.lt_succ_self k⟩
          · replace h := bif_f hb h
            refine tri_exit ?_
            cases h
            exact ⟨_, rfl, (Le.rename [(0, 0), (1, 1)] _ _ _ ⟨rfl, rfl, trivial⟩ ⟨rfl, ⟨_, rfl, rfl⟩, rfl, ⟨_, rfl, rfl⟩, trivial⟩ rfl rfl rfl rfl rfl)⟩
    · subst hz
      obtain ⟨x12, x13, x14, x15⟩ := z
      replace h := ho1
      show Tri _ _ _ _
      refine tri_le hle ?_
      refine tri_seq ?_
      refine tri_region (by exact tokW) (by exact gok) [] [] rfl ?_
      show Tri _ _ _ _
      refine tri_ret ?_
      obtain ⟨hj1, hk1⟩ := Prod.mk.inj (Option.some.inj h)
      subst hj1
      obtain ⟨hj2, hk2⟩ := Prod.mk.inj hk1
      subst hj2
      subst hk2
      unfold Gives
      exact ⟨_, Le.refl _ _, rfl, rfl⟩
def R_edit_Invert (n : Nat) (xs : List AV) (r : Ret) : Prop := ∃ (a0 : (Int × List Int × Int × Int × List Nd × Int × List UInt8 × List UInt8)) (y0 : (Int × List Int × Int × Int × List Nd × Int × List UInt8 × List UInt8)), m_edit_Invert n a0 = some y0 ∧ xs = [.agg ((enc_api_Op a0).map .s)] ∧ r = .val (.agg ((enc_api_Op y0).map .s))
def S_edit_Invert : PSpec := pspec fun xs r => ∃ n, R_edit_Invert n xs r
set_option maxHeartbeats 2000000 in
set_option maxRecDepth 100000 in
theorem ok_edit_Invert : PSound Try.prog 25 S_edit_Invert := by
  have gok : ∀ f s, look? f [(50, S_deep_Op)] = some s → PSound Try.prog f s := look_all (by
    simp only [List.forall_mem_cons]
    exact ⟨ok_deep_Op, by simp⟩)
  refine psound tokW Try.call25 Try.func25 rfl (fun xs r h => by obtain ⟨n, _, _, _, rfl, _⟩ := h; show 1 ≤ 29; decide) 29 rfl ?_
  rintro xs r w0 G0 ⟨n, ⟨op1_kind, op1_row, op1_at, op1_n, op1_nodes, op1_slot, op1_old, op1_text⟩, y0, h, rfl, rfl⟩ _
  rw [m_edit_Invert] at h
  refine tri_seq ?_
  refine tri_region (by exact tokW) (by exact gok) [2] [] rfl ?_
  show Tri _ _ _ _
  refine tri_seq ?_
  refine tri_region (by exact tokW) (by exact gok) [3] [] rfl ?_
  obtain ⟨⟨y2_kind, y2_row, y2_at, y2_n, y2_nodes, y2_slot, y2_old, y2_text⟩, hy2, h⟩ := bind_out h
  refine ⟨_, ⟨_, _, _, hy2, rfl, rfl⟩, ?_⟩
  show Tri _ _ _ _
  refine tri_seq ?_
  refine tri_seq ?_
  refine tri_region (by exact tokW) (by exact gok) [] [] rfl ?_
  show Tri _ _ _ _
  obtain ⟨⟨x3, x4, x5⟩, hj, h⟩ := bind_out h
  refine tri_post ⟨ofL [(2, .op 0 0), (3, .op 1 0)], ofH [(0, .box 27 [.s (.int .i64 0), .nl 1, .s (.int .i64 0), .s (.int .i64 0), .nl 4, .s (.int .i64 0), .s (.str []), .s (.str [])]), (1, .box 27 [.s (.int .i64 x3), .s (.sl 1 ((List.map (irow .i64)) y2_row)), .s (.int .i64 y2_at), .s (.int .i64 y2_n), .s (.sl 4 (Nd.encs y2_nodes)), .s (.int .i64 y2_slot), .s (.str x4), .s (.str x5)])], 2⟩ ?_ (fun σ' hle => ?_)
  · replace h := hj
    refine tri_block ?_
    refine tri_seq ?_
    refine tri_region (by exact tokW) (by exact gok) [] [] rfl ?_
    show Tri _ _ _ _
    refine tri_cond rfl (fun hb => ?_) (fun hb => ?_)
    · replace h := bif_t hb h
      refine tri_region (by exact tokW) (by exact gok) [] [] rfl ?_
      cases h
      exact (Le.rename [(0, 0), (1, 1)] _ _ _ ⟨rfl, rfl, trivial⟩ ⟨rfl, ⟨_, rfl, rfl⟩, rfl, ⟨_, rfl, rfl⟩, trivial⟩ rfl rfl rfl rfl rfl)
    · replace h := bif_f hb h
      refine tri_seq ?_
      refine tri_region (by exact tokW) (by exact gok) [] [] rfl ?_
      show Tri _ _ _ _
      refine tri_cond rfl (fun hb => ?_) (fun hb => ?_)
      · replace h := bif_t hb h
        refine tri_region (by exact tokW) (by exact gok) [] [] rfl ?_
        cases h
        exact (Le.rename [(0, 0), (1, 1)] _ _ _ ⟨rfl, rfl, trivial⟩ ⟨rfl, ⟨_, rfl, rfl⟩, rfl, ⟨_, rfl, rfl⟩, trivial⟩ rfl rfl rfl rfl rfl)
      · replace h := bif_f hb h
        refine tri_seq ?_
        refine tri_region (by exact tokW) (by exact gok) [] [] rfl ?_
        show Tri _ _ _ _
        refine tri_cond rfl (fun hb => ?_) (fun hb => ?_)
        · replace h := bif_t hb h
          refine tri_region (by exact tokW) (by exact gok) [] [] rfl ?_
          cases h
          exact (Le.rename [(0, 0), (1, 1)] _ _ _ ⟨rfl, rfl, trivial⟩ ⟨rfl, ⟨_, rfl, rfl⟩, rfl, ⟨_, rfl, rfl⟩, trivial⟩ rfl rfl rfl rfl rfl)
        · replace h := bif_f hb h
          refine tri_seq ?_
          refine tri_region (by exact tokW) (by exact gok) [] [] rfl ?_
          show Tri _ _ _ _
          refine tri_cond rfl (fun hb => ?_) (fun hb => ?_)
          · replace h := bif_t hb h
            refine tri_region (by exact tokW) (by exact gok) [] [] rfl ?_
            cases h
            exact (Le.rename [(0, 0), (1, 1)] _ _ _ ⟨rfl, rfl, trivial⟩ ⟨rfl, ⟨_, rfl, rfl⟩, rfl, ⟨_, rfl, rfl⟩, trivial⟩ rfl rfl rfl rfl rfl)
          · replace h := bif_f hb h
            refine tri_seq ?_
            refine tri_region (by exact tokW) (by exact gok) [] [] rfl ?_
            show Tri _ _ _ _
            refine tri_cond rfl (fun hb => ?_) (fun hb => ?_)
            · replace h := bif_t hb h
              refine tri_drawn (by exact tokW) (by exact gok) (by exact mixed) [] [] [5, 7] rfl (by decide +kernel) ?_
              cases h
              exact (Le.rename [(0, 0), (1, 1)] _ _ _ ⟨rfl, rfl, trivial⟩ ⟨rfl, ⟨_, rfl, rfl⟩, rfl, ⟨_, rfl, rfl⟩, trivial⟩ rfl rfl rfl rfl rfl)
            · replace h := bif_f hb h
              refine tri_skip ?_
              cases h
              exact (Le.rename [(0, 0), (1, 1)] _ _ _ ⟨rfl, rfl, trivial⟩ ⟨rfl, ⟨_, rfl, rfl⟩, rfl, ⟨_, rfl, rfl⟩, trivial⟩ rfl rfl rfl rfl rfl)
  · show Tri _ _ _ _
    refine tri_le hle ?_
    refine tri_seq ?_
    refine tri_region (by exact tokW) (by exact gok) [] [] rfl ?_
    show Tri _ _ _ _
    refine tri_ret ?_
    have hy := Option.some.inj h
    subst hy
    unfold Gives
    exact ⟨_, Le.refl _ _, rfl, rfl⟩
end Go.Proofs.Ytfbggpmdmhgpfaa
namespace Go.Abs
def ownB (β : Nat → Value) (hp : Nat → Option Ob) : Nat → Prop := fun b => ∃ k ob, hp k = some ob ∧ blk (β k) = some b
def rcx (P : Program) (N m l : Nat) (w : World) (X G : Nat → Prop) (B : Nat → Value) : Cx := { P := P, w0 := w, X := X, G0 := G, N := N, n0 := m, B0 := B, ro := some l }
def lcx (P : Program) (N m : Nat) (w : World) (X G : Nat → Prop) (B : Nat → Value) (D : Nat) : Cx := { P := P, w0 := w, X := X, G0 := G, N := N, n0 := m, B0 := B, ds := [{ target := .collected D, args := #[] }] }
theorem ObAt.turn {c1 c2 : Cx} {G : Nat → Prop} {w w2 : World} {β : Nat → Value} {v : Value} {o : Ob} (hk : Keep G G w w2) (hb : ∀ b, blk v = some b → w2.heap[b]? = w.heap[b]?) (hm : ∀ b, blk v = some b → c2.mine b) (h : ObAt c1 G w β v o) : ObAt c2 G w2 β v o := by
  cases o with
  | box xs =>
    obtain ⟨b, e, cur, q1, q2, q3, q4, q5, q6⟩ := h
    exact ⟨b, e, cur, q1, (hb b (by rw [q1]; rfl)).trans q2, q3, hm b (by rw [q1]; rfl), q5.keep hk, q6⟩
  | row e sz rows =>
    obtain ⟨q1, q2, q3⟩ := h
    refine ⟨q1, q2, q3.imp id ?_⟩
    rintro ⟨b, cap, cur, g1, g2, g3, g4, g5, g6, g7⟩
    exact ⟨b, cap, cur, g1, g2, g3, (hb b (by rw [g1]; rfl)).trans g4, g5, hm b (by rw [g1]; rfl), fun i s hi => let ⟨u, hu, hr⟩ := g7 i s hi; ⟨u, hu, hr.keep hk⟩⟩
  | arow e sz rows =>
    obtain ⟨q1, q2, q3⟩ := h
    refine ⟨q1, q2, q3.imp id ?_⟩
    rintro ⟨b, cap, cur, g1, g2, g3, g4, g5, g6, g7⟩
    exact ⟨b, cap, cur, g1, g2, g3, (hb b (by rw [g1]; rfl)).trans g4, g5, hm b (by rw [g1]; rfl), fun i s hi => let ⟨u, hu, hr, h1⟩ := g7 i s hi; ⟨u, hu, hr.keep hk, h1⟩⟩
theorem ObAt.cells {c : Cx} {G : Nat → Prop} {w : World} {β : Nat → Value} {v : Value} {o : Ob} (h : ObAt c G w β v o) : ∀ b, blk v = some b → ∃ cur e f, w.heap[b]? = some (.cells cur e f) := fun b hb => by
  cases o with
  | box xs =>
    obtain ⟨b', e, cur, rfl, q2, _⟩ := h
    cases hb; exact ⟨_, _, _, q2⟩
  | row e sz rows =>
    obtain ⟨_, _, h | ⟨b', cap, cur, rfl, _, _, q2, _⟩⟩ := h
    · rw [h.1] at hb; cases hb
    · cases hb; exact ⟨_, _, _, q2⟩
  | arow e sz rows =>
    obtain ⟨_, _, h | ⟨b', cap, cur, rfl, _, _, q2, _⟩⟩ := h
    · rw [h.1] at hb; cases hb
    · cases hb; exact ⟨_, _, _, q2⟩
section
variable {c : Cx} {G : Nat → Prop} {β : Nat → Value} {σ : St} {a : Act} {w : World}
theorem Conc.not_own (hc : Conc c G β σ a w) {l : Nat} {o : Obj} (hl : w.heap[l]? = some o) (ho : o.isCells = false) : ¬ ownB β σ.hp l := fun ⟨k, ob, h1, h2⟩ => by
  obtain ⟨cur, e, f, h3⟩ := (hc.hp k ob h1).cells l h2
  rw [hl] at h3
  cases h3
  cases ho
theorem Conc.re (hc : Conc c G β σ a w) {c2 : Cx} {w2 : World} {a2 : Act} {env2 : Nat → AV} (hk : ∀ b, G b → w2.heap[b]? = w.heap[b]?) (ho : ∀ b, ownB β σ.hp b → w2.heap[b]? = w.heap[b]?) (hs : w.heap.size ≤ w2.heap.size)
    (hd : a2.defers = c2.ds) (hN : a2.tmps.size = c2.N) (he : ∀ t, AVal G w β (env2 t) (a2.tmps.getD t undef)) (hel : ∀ t, (env2 t).lt σ.nx = true) (hm : ∀ b, ownB β σ.hp b → c2.mine b)
    (hsub : ∀ b, c2.G0 b → G b) (hnew : ∀ b, G b → c2.G0 b ∨ c2.mine b) (hfr : Fr c2.X c2.w0 w2) (hst : c2.n0 ≤ σ.nx ∧ ∀ k, k < c2.n0 → β k = c2.B0 k) : Conc c2 G β ⟨env2, σ.hp, σ.nx⟩ a2 w2 := by
  have hkp : Keep G G w w2 := ⟨fun _ h => h, hk⟩
  exact {
    defers := hd
    size := hN
    env := fun t => (he t).keep hkp
    envlt := hel
    hp := fun k ob h => (hc.hp k ob h).turn hkp (fun b hb => ho b ⟨k, ob, h, hb⟩) (fun b hb => hm b ⟨k, ob, h, hb⟩)
    hplt := hc.hplt
    inj := hc.inj
    lt := fun b hb => Nat.lt_of_lt_of_le (hc.lt b hb) hs
    sub := hsub
    new := hnew
    fr := hfr
    stay := hst
    glob := hc.glob.keep hkp }
theorem Ext.alloc0 (h : ∀ b, G b → b < w.heap.size) (o : Obj) : Ext G G w (w.alloc o) :=
  ⟨rfl, rfl, rfl, by rw [World.size_alloc]; omega, fun b hb => heap_push_old w o hb, fun _ h => h, fun _ h => .inl h, fun b hb => by rw [World.size_alloc]; have := h b hb; omega⟩
end
structure Grown (A B : World) : Prop where
  os : B.os = A.os
  tape : B.tape = A.tape
  output : B.output = A.output
  size : A.heap.size ≤ B.heap.size
  old : ∀ b, b < A.heap.size → B.heap[b]? = A.heap[b]?
theorem Grown.ext {A B : World} {G : Nat → Prop} (h : Grown A B) (hl : ∀ b, G b → b < A.heap.size) : Ext G G A B := ⟨h.os, h.tape, h.output, h.size, h.old, fun _ h => h, fun _ h => .inl h, fun b hb => Nat.lt_of_lt_of_le (hl b hb) h.size⟩
def BackIter (P : Program) (fid sz : Nat) : Prop :=
  ∀ (G : Nat → Prop) (w0 : World) (v : Value) (rows : List (List S)), (∀ b, G b → b < w0.heap.size) → GlobOk G w0 → Rep G w0 (.pt [.sl sz rows]) v → (∀ r ∈ rows, r.length = sz) → rows.length ≤ 4611686018427387904 →
    ∀ (l : Nat) (J : Nat → World → Prop) (W : World), w0.heap.size ≤ W.heap.size → (∀ b, G b → W.heap[b]? = w0.heap[b]?) → (∀ i A B, J i A → Grown A B → J i B) →
      (∀ i j row u W1, i + j + 1 = rows.length → rows[j]? = some row → J i W1 → w0.heap.size ≤ W1.heap.size → (∀ b, G b → W1.heap[b]? = w0.heap[b]?) → (∀ β, AVal G W1 β (.agg (row.map .s)) u) →
        YieldAt Fence.wide 0 P l #[.int .i64 (j : Int), u] W1 fun e W2 => e = .returned (.bool true) ∧ J (i + 1) W2 ∧ w0.heap.size ≤ W2.heap.size ∧ ∀ b, G b → W2.heap[b]? = w0.heap[b]?) →
      J 0 W → CallsIn Fence.wide 1 P fid #[.func (.yield l) #[] #[], v] W fun e W' => (∃ u, e = .returned u) ∧ J rows.length W'
structure Sw (c c2 : Cx) (D : Nat) : Prop where
  fr : Fr c.X c.w0 c2.w0
  mine : ∀ b, c2.X b → c.mine b
  sub : ∀ b, c.G0 b → c2.G0 b
  new : ∀ b, c2.G0 b → c.G0 b ∨ c.mine b
  blk : c2.w0.heap[D]? = some (.deferred (some []))
  nX : ¬ c2.X D
  nG : ¬ c2.G0 D
  ge : c.w0.heap.size ≤ D
def roundSt (σ : St) (p1 p2 : Nat) (j : Nat) (row : List S) (e : (Nat → Option Ob) × Nat) : St :=
  ⟨fun t => bif Nat.beq t p2 then .agg (row.map .s) else bif Nat.beq t p1 then .s (.int .i64 (j : Int)) else σ.env t, e.1, e.2⟩
def Rl (w : World) (X : Nat → Prop) (l : Nat) : Prop := (∃ r, w.heap[l]? = some (.loop r)) ∧ ¬ X l
theorem getD_set {tm : Array Value} {p t : Nat} {v : Value} (hp : p < tm.size) : (tm.setIfInBounds p v).getD t undef = if t = p then v else tm.getD t undef := by
  rw [Array.getD_eq_getD_getElem?, Array.getD_eq_getD_getElem?]
  by_cases h : t = p
  · subst h
    rw [if_pos rfl, Array.getElem?_setIfInBounds_self_of_lt hp]
    rfl
  · rw [if_neg h, Array.getElem?_setIfInBounds_ne (Ne.symm h)]
theorem zip2 {α β : Type} (a b : α) (x y : β) : #[a, b].zip #[x, y] = #[(a, x), (b, y)] := by
  apply Array.ext'
  simp [Array.toList_zip]
theorem nbeq {a b : Nat} (h : a ≠ b) : Nat.beq a b = false := by
  cases e : Nat.beq a b with
  | false => rfl
  | true => exact absurd (Nat.eq_of_beq_eq_true e) h
theorem lt_rowS {n : Nat} : ∀ (row : List S), AV.ltAll n (row.map .s) = true
  | [] => rfl
  | s :: r => by simp only [List.map_cons, AV.ltAll, Bool.and_eq_true]; exact ⟨rfl, lt_rowS r⟩
theorem wp_range {c : Cx} {G : Nat → Prop} {β : Nat → Value} {σ : St} {a : Act} {w : World} (hc : Conc c G β σ a w) (hro : c.ro = none) (hds : c.ds = []) {tg p1 p2 fid sz : Nat} {rows : List (List S)} {assign body : Code}
    (hit : BackIter c.P fid sz) (hcall : ∀ args w, (callFunc fid args).run c.P w = .ok (.enter fid args) w) (he : σ.env tg = .clo fid [.s (.pt [.sl sz rows])]) (hrl : ∀ r ∈ rows, r.length = sz) (hlen : rows.length ≤ 4611686018427387904)
    (E : Nat → (Nat → Option Ob) × Nat) (hE : E 0 = (σ.hp, σ.nx)) (m : Nat) (hm : ∀ t, (σ.env t).lt m = true) (hm0 : c.n0 ≤ m) (hmE : ∀ i, m ≤ (E i).2) (hp1 : p1 < c.N) (hp2 : p2 < c.N)
    (hround : ∀ i j row, i + j + 1 = rows.length → rows[j]? = some row → ∀ l w X G B, Rl w X l → Tri (rcx c.P c.N m l w X G B) assign (roundSt σ p1 p2 j row (E i)) (fun e σ1 => e = .normal ∧ ∀ w X G B, Rl w X l →
      Tri (rcx c.P c.N m l w X G B) body σ1 (fun e σ2 => e = .normal ∧ ∃ σ3, Le (rcx c.P c.N m l w X G B) σ2 σ3 ∧ σ3.hp = (E (i + 1)).1 ∧ σ3.nx = (E (i + 1)).2)))
    {Φ : Exit → Act → World → Prop} (hdone : ∀ D w2 X G2 G' β' a2, Sw c (lcx c.P c.N c.n0 w2 X G2 c.B0 D) D → Conc (lcx c.P c.N c.n0 w2 X G2 c.B0 D) G' β' ⟨σ.env, (E rows.length).1, (E rows.length).2⟩ a2 w2 → Φ .normal a2 w2) :
    (Code.rangeFunc (.tmp tg) #[p1, p2] assign body).wpIn (rF none) 2 c.P Φ a w := by
  have hg := hc.env tg
  rw [he] at hg
  simp only [AVal, AVals] at hg
  obtain ⟨vs, hg, v, vs', rfl, hv, rfl⟩ := hg
  have hg : a.eval (.tmp tg) = .func (.func fid) #[] #[v] := hg
  have hiter := hit G w v rows hc.lt hc.glob hv hrl hlen
  refine wpIn_rangeFunc fun fn _ => ?_
  obtain ⟨rec, hrec⟩ : ∃ rec : LoopState → Loop, rec = fun st => { state := st, pending := none, fn := fn, tmps := a.tmps, params := #[p1, p2], assign := assign, body := body, defers := w.heap.size } := ⟨_, rfl⟩
  obtain ⟨l, hl0⟩ : ∃ l, l = w.heap.size + 1 := ⟨_, rfl⟩
  obtain ⟨D, hD0⟩ : ∃ D, D = w.heap.size := ⟨_, rfl⟩
  obtain ⟨W1, hW1⟩ : ∃ W1, (w.alloc (.deferred (some []))).alloc (.loop (rec .ready)) = W1 := ⟨_, rfl⟩
  have hL1 : W1.heap[l]? = some (.loop (rec .ready)) := by
    have := World.alloc_heap_new (w.alloc (.deferred (some []))) (.loop (rec .ready))
    rw [World.size_alloc] at this
    rw [← hW1, hl0]; exact this
  have hDD : W1.heap[D]? = some (.deferred (some [])) := by
    have := heap_push_old (w.alloc (.deferred (some []))) (.loop (rec .ready)) (b := w.heap.size) (by rw [World.size_alloc]; omega)
    rw [← hW1, hD0, this]
    exact World.alloc_heap_new w _
  have hc1 : Conc c G β σ a W1 := by
    rw [← hW1]
    have h1 := hc.ext (Ext.alloc0 hc.lt (.deferred (some [])))
    exact h1.ext (Ext.alloc0 h1.lt (.loop (rec .ready)))
  have hlD : l ≠ D := by omega
  have hcl : c.w0.heap.size ≤ D := by rw [hD0]; exact hc.fr.size
  refine ⟨l, [{ target := .collected D, args := #[] }], W1, { target := .fn (.func fid) #[v], args := #[.func (.yield l) #[] #[]] }, W1, fid, #[.func (.yield l) #[] #[]] ++ #[v], W1, ?_, ?_, ?_, ?_, fun h => (by cases h), ?_⟩
  · rw [← hW1, hrec, hl0, hD0]; exact run_enterLoop_outer _ _ _ _ _
  · simp only [resolve, hg]
    simp [go_sem]
  · intro f' hf'; trivial
  · simp [invoke, go_sem, hcall]
  have key := hiter l (fun i W => W.heap[l]? = some (.loop (rec .ready)) ∧ W.heap[D]? = some (.deferred (some [])) ∧ ∃ G' β', Conc c G' β' ⟨σ.env, (E i).1, (E i).2⟩ a W ∧ (∀ b, G b → G' b) ∧ ¬ G' l ∧ ¬ G' D) W1 (by rw [← hW1, World.size_alloc, World.size_alloc]; omega)
    (fun b hb => by
      have hb' := hc.lt b hb
      rw [← hW1, heap_push_old _ _ (by rw [World.size_alloc]; omega), heap_push_old _ _ hb'])
    (fun i A B ⟨h1, h2, G', β', h3, h4⟩ hg => ⟨(hg.old l (Array.getElem?_eq_some_iff.1 h1).1).trans h1, (hg.old D (Array.getElem?_eq_some_iff.1 h2).1).trans h2, G', β', h3.ext (hg.ext h3.lt), h4⟩)
    ?_ ⟨hL1, hDD, G, β, by rw [hE]; exact hc1, fun _ h => h, fun h => by have := hc.lt _ h; omega, fun h => by have := hc.lt _ h; omega⟩
  · refine key.mono ?_
    rintro e W3 ⟨⟨u, rfl⟩, h1, h2, G3, β3, hc3, hG3, hnl, hnD⟩
    have hend := run_endLoop (P := c.P) h1 (by rw [hrec]; simp)
    rw [hrec] at hend
    refine ⟨none, _, hend, ?_⟩
    dsimp only
    have hnol : ¬ ownB β3 (E rows.length).1 l := hc3.not_own h1 rfl
    have hnoD : ¬ ownB β3 (E rows.length).1 D := hc3.not_own h2 rfl
    have hl3 : l < W3.heap.size := (Array.getElem?_eq_some_iff.1 h1).1
    generalize hW4 : W3.putObj l _ = W4
    have hoth : ∀ b, b ≠ l → W4.heap[b]? = W3.heap[b]? := fun b hb => by rw [← hW4]; exact World.putObj_heap_other hb
    have hsz : W4.heap.size = W3.heap.size := by rw [← hW4]; exact World.putObj_size
    have hfr4 : Fr c.X c.w0 W4 := ⟨by rw [← hW4]; exact hc3.fr.os, by rw [← hW4]; exact hc3.fr.tape, by rw [← hW4]; exact hc3.fr.output, by rw [hsz]; exact hc3.fr.size, fun b hb hx => (hoth b (by omega)).trans (hc3.fr.old b hb hx)⟩
    refine hdone D W4 (ownB β3 (E rows.length).1) G3 G3 β3 _ ⟨hfr4, fun b ⟨k, ob, q1, q2⟩ => (row_block (hc3.hp k ob q1) b q2).2, hc3.sub, hc3.new, (hoth D (Ne.symm hlD)).trans h2, hnoD, hnD, hcl⟩ ?_
    exact hc3.re (c2 := lcx c.P c.N c.n0 W4 (ownB β3 (E rows.length).1) G3 c.B0 D) (fun b hb => hoth b fun h => hnl (h ▸ hb)) (fun b hb => hoth b fun h => hnol (h ▸ hb)) (by rw [hsz]; exact Nat.le_refl _)
      (by show _ :: a.defers = _; rw [hc.defers, hds]; rfl) hc.size hc3.env hc3.envlt (fun b hb => .inl hb) (fun b hb => hb) (fun b hb => .inl hb) (Fr.refl _ _) hc3.stay
  · rintro i j row u W hiN hrow ⟨h1, h2, G', β', hcW, hGG, hnl, hnD⟩ hszW hGk hval
    have hy := run_yield (P := c.P) (args := #[.int .i64 (j : Int), u]) h1 (by rw [hrec]; rfl)
    rw [hrec] at hy
    have hnol : ¬ ownB β' (E i).1 l := hcW.not_own h1 rfl
    have hnoD : ¬ ownB β' (E i).1 D := hcW.not_own h2 rfl
    have hlW : l < W.heap.size := (Array.getElem?_eq_some_iff.1 h1).1
    have hDW : D < W.heap.size := (Array.getElem?_eq_some_iff.1 h2).1
    have hkW : Keep G G' w W := ⟨hGG, fun b hb => (hGk b hb)⟩
    have htm : ((#[p1, p2].zip #[Value.int .i64 (j : Int), u]).foldl (fun tmps (x : Nat × Value) => tmps.setIfInBounds x.1 x.2) a.tmps) = (a.tmps.setIfInBounds p1 (.int .i64 (j : Int))).setIfInBounds p2 (u) := by rw [zip2]; rfl
    have hy : (Instr.yield l #[.int .i64 (j : Int), u]).run c.P W = .ok (.round l fn ((a.tmps.setIfInBounds p1 (.int .i64 (j : Int))).setIfInBounds p2 (u)) assign body) W := by rw [← htm]; exact hy
    refine ⟨fn, _, assign, body, hy, roundIn_of_wpIn trivial ?_⟩
    have hs1 : p1 < a.tmps.size := by rw [hcW.size]; exact hp1
    have hs2 : p2 < (a.tmps.setIfInBounds p1 (.int .i64 (j : Int))).size := by rw [Array.size_setIfInBounds, hcW.size]; exact hp2
    have hA : Conc (rcx c.P c.N m l W (ownB β' (E i).1) G' β') G' β' (roundSt σ p1 p2 j row (E i)) { tmps := (a.tmps.setIfInBounds p1 (.int .i64 (j : Int))).setIfInBounds p2 (u), defers := [] } W := by
      refine hcW.re (c2 := rcx c.P c.N m l W (ownB β' (E i).1) G' β') (fun _ _ => rfl) (fun _ _ => rfl) (Nat.le_refl _) rfl (by show _ = c.N; rw [Array.size_setIfInBounds, Array.size_setIfInBounds]; exact hcW.size) (fun t => ?_) (fun t => ?_) (fun b hb => .inl hb) (fun _ h => h) (fun _ h => .inl h) (Fr.refl _ _) ⟨hmE i, fun _ _ => rfl⟩
      · dsimp only
        rw [getD_set hs2, getD_set hs1]
        by_cases e2 : t = p2
        · subst e2
          rw [if_pos rfl, Nat.beq_refl, cond_true]
          exact (hval β').keep ⟨hGG, fun _ _ => rfl⟩
        · rw [if_neg e2, nbeq e2, cond_false]
          by_cases e1 : t = p1
          · subst e1
            rw [if_pos rfl, Nat.beq_refl, cond_true]
            simp [AVal, Rep]
          · rw [if_neg e1, nbeq e1, cond_false]
            exact hcW.env t
      · dsimp only
        by_cases e2 : t = p2
        · subst e2; rw [Nat.beq_refl, cond_true]; simp only [AV.lt]; exact lt_rowS row
        · rw [nbeq e2, cond_false]
          by_cases e1 : t = p1
          · subst e1; rw [Nat.beq_refl, cond_true]; rfl
          · rw [nbeq e1, cond_false]; exact hcW.envlt t
    have hTri := hround i j row hiN hrow l W (ownB β' (E i).1) G' β' ⟨⟨_, h1⟩, hnol⟩
    unfold Tri at hTri
    refine wpIn_mono (wpIn_n (m := 0) (hTri _ _ _ _ hA)) ?_
    rintro e a1 Wb ⟨e', G2, β2, σ1, rfl, ⟨rfl, hbody⟩, hB⟩
    have bl : Wb.heap[l]? = W.heap[l]? := hB.fr.old l hlW hnol
    have bD : Wb.heap[D]? = W.heap[D]? := hB.fr.old D hDW hnoD
    have hlb : l < Wb.heap.size := Nat.lt_of_lt_of_le hlW hB.fr.size
    have hn2l : ¬ G2 l := fun h => (hB.new l h).elim hnl (fun h => h.elim hnol (fun h => by have : W.heap.size ≤ l := h; omega))
    have hn2D : ¬ G2 D := fun h => (hB.new D h).elim hnD (fun h => h.elim hnoD (fun h => by have : W.heap.size ≤ D := h; omega))
    refine ⟨_, run_beginRound (bl.trans h1) (by rw [hrec]), ?_⟩
    generalize hW2 : Wb.putObj l _ = W2
    have oth2 : ∀ b, b ≠ l → W2.heap[b]? = Wb.heap[b]? := fun b hb => by rw [← hW2]; exact World.putObj_heap_other hb
    have sz2 : W2.heap.size = Wb.heap.size := by rw [← hW2]; exact World.putObj_size
    have l2 : W2.heap[l]? = some (.loop { rec .ready with state := .busy }) := by rw [← hW2]; exact World.putObj_heap_same hlb
    have hno1l : ¬ ownB β2 σ1.hp l := hB.not_own (bl.trans h1) rfl
    have hno1D : ¬ ownB β2 σ1.hp D := hB.not_own (bD.trans h2) rfl
    have hB2 : Conc (rcx c.P c.N m l W2 (ownB β2 σ1.hp) G2 β') G2 β2 σ1 a1 W2 :=
      hB.re (c2 := rcx c.P c.N m l W2 (ownB β2 σ1.hp) G2 β') (fun b hb => oth2 b fun h => hn2l (h ▸ hb)) (fun b hb => oth2 b fun h => hno1l (h ▸ hb)) (by rw [sz2]; exact Nat.le_refl _) hB.defers hB.size hB.env hB.envlt (fun b hb => .inl hb) (fun _ h => h) (fun _ h => .inl h) (Fr.refl _ _) hB.stay
    have hTri2 := hbody W2 (ownB β2 σ1.hp) G2 β' ⟨⟨_, l2⟩, hno1l⟩
    unfold Tri at hTri2
    refine wpIn_mono (wpIn_n (m := 0) (hTri2 _ _ _ _ hB2)) ?_
    rintro e a2 Wc ⟨e', G3, β3, σ2, rfl, ⟨rfl, σ3, hle, hhp, hnx⟩, hC0⟩
    unfold Le at hle
    obtain ⟨G4, β4, hC⟩ := hle _ _ _ _ hC0
    have hl2 : l < W2.heap.size := by omega
    have hD2 : D < W2.heap.size := by have := hB.fr.size; simp only [rcx] at this; omega
    have cl : Wc.heap[l]? = W2.heap[l]? := hC.fr.old l hl2 hno1l
    have cD : Wc.heap[D]? = W2.heap[D]? := hC.fr.old D hD2 hno1D
    have hlc : l < Wc.heap.size := Nat.lt_of_lt_of_le hl2 hC.fr.size
    have hend := run_endRound (P := c.P) none (cl.trans l2)
    refine ⟨_, _, hend, rfl, ?_⟩
    generalize hW5 : Wc.putObj l _ = W5
    have oth5 : ∀ b, b ≠ l → W5.heap[b]? = Wc.heap[b]? := fun b hb => by rw [← hW5]; exact World.putObj_heap_other hb
    have sz5 : W5.heap.size = Wc.heap.size := by rw [← hW5]; exact World.putObj_size
    have l5 : W5.heap[l]? = some (.loop (rec .ready)) := by rw [← hW5, World.putObj_heap_same hlc, hrec]; rfl
    have hnol3 : ¬ ownB β4 σ3.hp l := hC.not_own (cl.trans l2) rfl
    have hn4l : ¬ G4 l := fun h => (hC.new l h).elim hn2l (fun h => h.elim hno1l (fun h => by have : W2.heap.size ≤ l := h; omega))
    have hn4D : ¬ G4 D := fun h => (hC.new D h).elim hn2D (fun h => h.elim hno1D (fun h => by have : W2.heap.size ≤ D := h; omega))
    have hsub4 : ∀ b, G' b → G4 b := fun b h => hC.sub b (hB.sub b h)
    have hgl : ∀ b, G' b → b ≠ l := fun b h e => hnl (e ▸ h)
    have hkeep : ∀ b, G' b → Wc.heap[b]? = W.heap[b]? := fun b h => by
      have hno : ¬ ownB β' (E i).1 b := fun ⟨k, ob, q1, q2⟩ => (row_block (hcW.hp k ob q1) b q2).1 h
      have hno2 : ¬ ownB β2 σ1.hp b := fun ⟨k, ob, q1, q2⟩ => (row_block (hB.hp k ob q1) b q2).1 (hB.sub b h)
      have hb1 := hcW.lt b h
      have hb2 : b < W2.heap.size := by have := hB.lt b (hB.sub b h); omega
      exact (hC.fr.old b hb2 hno2).trans ((oth2 b (hgl b h)).trans (hB.fr.old b hb1 hno))
    have hbeta : ∀ k, k < m → β4 k = β' k := fun k hk => hC.stay.2 k hk
    have hnxle : m ≤ σ3.nx := hC.stay.1
    have hmine1 : ∀ b, ownB β2 σ1.hp b → c.mine b := fun b ⟨k, ob, q1, q2⟩ => by
      rcases (row_block (hB.hp k ob q1) b q2).2 with ⟨k', ob', r1, r2⟩ | h
      · exact (row_block (hcW.hp k' ob' r1) b r2).2
      · exact .inr (Nat.le_trans hcW.fr.size h)
    have hmine3 : ∀ b, ownB β4 σ3.hp b → c.mine b := fun b ⟨k, ob, q1, q2⟩ => by
      rcases (row_block (hC.hp k ob q1) b q2).2 with h | h
      · exact hmine1 b h
      · have h : W2.heap.size ≤ b := h
        have := hB.fr.size
        simp only [rcx] at this
        exact .inr (by have := hcW.fr.size; omega)
    have hfr5 : Fr c.X c.w0 W5 := by
      refine ⟨?_, ?_, ?_, ?_, fun b hb hx => ?_⟩
      · rw [← hW5]; show Wc.os = _; rw [hC.fr.os]; show W2.os = _; rw [← hW2]; show Wb.os = _; rw [hB.fr.os]; exact hcW.fr.os
      · rw [← hW5]; show Wc.tape = _; rw [hC.fr.tape]; show W2.tape = _; rw [← hW2]; show Wb.tape = _; rw [hB.fr.tape]; exact hcW.fr.tape
      · rw [← hW5]; show Wc.output = _; rw [hC.fr.output]; show W2.output = _; rw [← hW2]; show Wb.output = _; rw [hB.fr.output]; exact hcW.fr.output
      · have h1 := hC.fr.size
        have h2 := hB.fr.size
        have h3 := hcW.fr.size
        simp only [rcx] at h1 h2
        omega
      · have hno : ¬ ownB β' (E i).1 b := fun ⟨k, ob, q1, q2⟩ => (row_block (hcW.hp k ob q1) b q2).2.elim hx (fun h => by omega)
        have hno2 : ¬ ownB β2 σ1.hp b := fun h => (hmine1 b h).elim hx (fun h => by omega)
        have hb1 : b < W.heap.size := by have := hcW.fr.size; omega
        have hb2 : b < W2.heap.size := by have := hB.fr.size; simp only [rcx] at this; omega
        have hbl : b ≠ l := by omega
        exact (oth5 b hbl).trans ((hC.fr.old b hb2 hno2).trans ((oth2 b hbl).trans ((hB.fr.old b hb1 hno).trans (hcW.fr.old b hb hx))))
    refine ⟨⟨l5, (oth5 D (Ne.symm hlD)).trans (cD.trans ((oth2 D (Ne.symm hlD)).trans (bD.trans h2))), G4, β4, ?_, fun b h => hsub4 b (hGG b h), hn4l, hn4D⟩, by have h1 := hC.fr.size; have h2 := hB.fr.size; simp only [rcx] at h1 h2; omega, fun b hb => (oth5 b (hgl b (hGG b hb))).trans ((hkeep b (hGG b hb)).trans (hGk b hb))⟩
    rw [← hhp, ← hnx]
    refine hC.re (c2 := c) (fun b hb => oth5 b fun h => hn4l (h ▸ hb)) (fun b hb => oth5 b fun h => hnol3 (h ▸ hb)) (by rw [sz5]; exact Nat.le_refl _) hc.defers hc.size (fun t => ((hcW.env t).keep ⟨hsub4, hkeep⟩).beta hbeta (hm t)) (fun t => AV.lt_mono hnxle (hm t)) hmine3
      (fun b hb => hsub4 b (hcW.sub b hb)) (fun b hb => ?_) hfr5 ⟨Nat.le_trans hm0 hnxle, fun k hk => (hbeta k (Nat.lt_of_lt_of_le hk hm0)).trans (hcW.stay.2 k hk)⟩
    rcases hC.new b hb with h | h
    · rcases hB.new b h with h | h
      · exact hcW.new b h
      · rcases h with ⟨k', ob', r1, r2⟩ | h
        · exact .inr (row_block (hcW.hp k' ob' r1) b r2).2
        · exact .inr (.inr (Nat.le_trans hcW.fr.size h))
    · rcases h with h | h
      · exact .inr (hmine1 b h)
      · have h : W2.heap.size ≤ b := h
        have h2 := hB.fr.size
        have h3 := hcW.fr.size
        simp only [rcx] at h2
        exact .inr (.inr (by omega))
end Go.Abs
namespace Go.Abs
def TriX (c : Cx) (code : Code) (σ : St) (Φ : Exit → Act → World → Prop) : Prop := ∀ G β a w, Conc c G β σ a w → code.wpIn (rF none) 2 c.P Φ a w
section
variable {c : Cx} {σ : St} {Φ : Exit → Act → World → Prop}
theorem trix_seq {x y : Code} (h : TriX c x σ (Exit.then (y.wpIn (rF none) 2 c.P Φ) Φ)) : TriX c (.seq x y) σ Φ := fun G β a w hc => wpIn_seq (h G β a w hc)
theorem trix_block {x : Code} {id : Nat} (h : TriX c x σ (Exit.inBlock id Φ)) : TriX c (.block id x) σ Φ := fun G β a w hc => wpIn_block (h G β a w hc)
theorem trix_tri {x y : Code} (hro : c.ro = none) (h : Tri c x σ (fun e σ' => e = .normal ∧ TriX c y σ' Φ)) : TriX c (.seq x y) σ Φ := fun G β a w hc => by
  unfold Tri at h
  rw [hro] at h
  refine wpIn_seq (wpIn_mono (h G β a w hc) ?_)
  rintro e a' w' ⟨e', G', β', σ', rfl, ⟨rfl, hq⟩, hc'⟩
  exact hq G' β' a' w' hc'
theorem trix_range (hro : c.ro = none) (hds : c.ds = []) {tg p1 p2 fid sz : Nat} {rows : List (List S)} {assign body : Code}
    (hit : BackIter c.P fid sz) (hcall : ∀ args w, (callFunc fid args).run c.P w = .ok (.enter fid args) w) (he : σ.env tg = .clo fid [.s (.pt [.sl sz rows])]) (hrl : ∀ r ∈ rows, r.length = sz) (hlen : rows.length ≤ 4611686018427387904)
    (E : Nat → (Nat → Option Ob) × Nat) (hE : E 0 = (σ.hp, σ.nx)) (m : Nat) (hm : ∀ t, (σ.env t).lt m = true) (hm0 : c.n0 ≤ m) (hmE : ∀ i, m ≤ (E i).2) (hp1 : p1 < c.N) (hp2 : p2 < c.N)
    (hround : ∀ i j row, i + j + 1 = rows.length → rows[j]? = some row → ∀ l w X G B, Rl w X l → Tri (rcx c.P c.N m l w X G B) assign (roundSt σ p1 p2 j row (E i)) (fun e σ1 => e = .normal ∧ ∀ w X G B, Rl w X l →
      Tri (rcx c.P c.N m l w X G B) body σ1 (fun e σ2 => e = .normal ∧ ∃ σ3, Le (rcx c.P c.N m l w X G B) σ2 σ3 ∧ σ3.hp = (E (i + 1)).1 ∧ σ3.nx = (E (i + 1)).2)))
    (hdone : ∀ D w2 X G2 G' β' a2, Sw c (lcx c.P c.N c.n0 w2 X G2 c.B0 D) D → Conc (lcx c.P c.N c.n0 w2 X G2 c.B0 D) G' β' ⟨σ.env, (E rows.length).1, (E rows.length).2⟩ a2 w2 → Φ .normal a2 w2) :
    TriX c (.rangeFunc (.tmp tg) #[p1, p2] assign body) σ Φ := fun G β a w hc => wp_range hc hro hds hit hcall he hrl hlen E hE m hm hm0 hmE hp1 hp2 hround hdone
end
theorem fin_gives {c c2 : Cx} {D : Nat} {T : Nat → Option TI} (hT : TOk c2.P T) {fn : Func} {r : Ret} {code : Code} {σ : St} (hsw : Sw c c2 D) (hX : ∀ b, ¬ c.X b) (hro : c2.ro = none) (hds : c2.ds = [{ target := .collected D, args := #[] }])
    (h : Tri c2 code σ (fun e σ' => match e with | .exit _ => False | _ => Gives c2 T fn.results.toList r σ')) :
    TriX c2 code σ (bodyPostM (rF none) 2 c2.P fn fun e W' => ∃ v G', e = .returned v ∧ Ext c.G0 G' c.w0 W' ∧ RetAt G' c.w0 W' r v) := fun G β a w hc => by
  unfold Tri at h
  rw [hro] at h
  refine wpIn_mono (h G β a w hc) ?_
  rintro e a' w' ⟨e', G', β', σ', rfl, hq, hc'⟩
  have fin : Gives c2 T fn.results.toList r σ' → LeavesInM (rF none) 2 c2.P fn a'.tmps (fun e W' => ∃ v G', e = .returned v ∧ Ext c.G0 G' c.w0 W' ∧ RetAt G' c.w0 W' r v) a'.defers .returning w' := fun hq => by
    unfold Gives at hq
    obtain ⟨σ2, hle, hr⟩ := hq
    unfold Le at hle
    obtain ⟨G2, β2, hc2⟩ := hle G' β' a' w' hc'
    have hDl : D < c2.w0.heap.size := (Array.getElem?_eq_some_iff.1 hsw.blk).1
    have hD : w'.heap[D]? = some (.deferred (some [])) := (hc2.fr.old D hDl hsw.nX).trans hsw.blk
    have hnG : ¬ G2 D := fun h => (hc2.new D h).elim hsw.nG (fun h => h.elim hsw.nX (fun h => by omega))
    have hnO : ¬ ownB β2 σ2.hp D := hc2.not_own hD rfl
    rw [hc'.defers, hds]
    refine ⟨by simp, .inl ⟨_, _, rfl, run_takeDeferred hD, ?_⟩⟩
    generalize hW : w'.putObj D (.deferred none) = W
    have oth : ∀ b, b ≠ D → W.heap[b]? = w'.heap[b]? := fun b hb => by rw [← hW]; exact World.putObj_heap_other hb
    have sz : W.heap.size = w'.heap.size := by rw [← hW]; exact World.putObj_size
    have hge := hsw.ge
    have hmine : ∀ b, c2.mine b → c.w0.heap.size ≤ b := fun b hb => by
      rcases hb with hb | hb
      · exact (hsw.mine b hb).elim (fun h => absurd h (hX b)) id
      · exact Nat.le_trans hsw.fr.size hb
    have hc3 : Conc { P := c2.P, w0 := W, X := fun b => c.w0.heap.size ≤ b, G0 := G2, N := c2.N } G2 β2 ⟨σ2.env, σ2.hp, σ2.nx⟩ { a' with defers := [] } W :=
      hc2.re (c2 := { P := c2.P, w0 := W, X := fun b => c.w0.heap.size ≤ b, G0 := G2, N := c2.N }) (fun b hb => oth b fun h => hnG (h ▸ hb)) (fun b hb => oth b fun h => hnO (h ▸ hb)) (by rw [sz]; exact Nat.le_refl _) rfl hc2.size hc2.env hc2.envlt
        (fun b ⟨k, ob, q1, q2⟩ => .inl (hmine b (row_block (hc2.hp k ob q1) b q2).2)) (fun b h => h) (fun b h => .inl h) (Fr.refl _ _) ⟨Nat.zero_le _, fun k hk => by cases hk⟩
    have hext : Ext c.G0 G2 c.w0 W := by
      refine ⟨?_, ?_, ?_, ?_, fun b hb => ?_, fun b hb => hc2.sub b (hsw.sub b hb), fun b hb => ?_, fun b hb => by rw [sz]; exact hc2.lt b hb⟩
      · rw [← hW]; show w'.os = _; rw [hc2.fr.os]; exact hsw.fr.os
      · rw [← hW]; show w'.tape = _; rw [hc2.fr.tape]; exact hsw.fr.tape
      · rw [← hW]; show w'.output = _; rw [hc2.fr.output]; exact hsw.fr.output
      · have h1 := hc2.fr.size; have h2 := hsw.fr.size; omega
      · have h2 := hsw.fr.size
        exact (oth b (by omega)).trans ((hc2.fr.old b (by omega) (fun h => (hsw.mine b h).elim (hX b) (fun h => by omega))).trans (hsw.fr.old b hb (hX b)))
      · rcases hc2.new b hb with h | h
        · exact (hsw.new b h).imp id (fun h => h.elim (fun h => absurd h (hX b)) id)
        · exact .inr (hmine b h)
    unfold RetAt
    split at hr
    · rename_i x
      obtain ⟨v, h1, h2⟩ := resOf_rep (c := { P := c2.P, w0 := W, X := fun b => c.w0.heap.size ≤ b, G0 := G2, N := c2.N }) hT hc3 hr.1
      exact ⟨v, h1, v, G2, rfl, hext, hr.2, AVal.pers hr.2 h2⟩
    · rename_i e sz' rows
      obtain ⟨k, hk1, hk2⟩ := hr
      obtain ⟨v, h1, h2⟩ := resOf_rep (c := { P := c2.P, w0 := W, X := fun b => c.w0.heap.size ≤ b, G0 := G2, N := c2.N }) hT hc3 hk1
      refine ⟨v, h1, v, G2, rfl, hext, ?_⟩
      simp only [AVal] at h2
      obtain ⟨rfl, _⟩ := h2
      obtain ⟨q1, q2, q3⟩ := hc3.hp k _ hk2
      refine ⟨q1, q2, q3.imp id ?_⟩
      rintro ⟨b, cap, cur, g1, g2, g3, g4, g5, g6, g7⟩
      refine ⟨b, cap, cur, g1, g2, g3, g4, g5, g6.elim id (fun h => ?_), g7⟩
      have h : W.heap.size ≤ b := h
      have := (Array.getElem?_eq_some_iff.1 g4).1
      omega
  cases e' with
  | normal => exact fin hq
  | ret => exact fin hq
  | exit id => exact hq.elim
theorem psoundX {P : Program} {f : Nat} {fn : Func} {code : Code} {s : PSpec} (hcall : ∀ args w, (callFunc f args).run P w = .ok (.enter f args) w)
    (hf : P.funcs[f]? = some fn) (hb : fn.body = some code) (hn : ∀ xs r, s.spec xs r → xs.length ≤ fn.ntmps)
    (N : Nat) (hN : fn.ntmps = N)
    (h : ∀ xs r w0 G0, s.spec xs r → AV.persAll xs = true → TriX (readCx P w0 G0 N) code (start xs) (bodyPostM (rF none) 2 P fn fun e W' => ∃ v G', e = .returned v ∧ Ext G0 G' w0 W' ∧ RetAt G' w0 W' r v)) (hown : s.own = none := by rfl) (hheap : s.heap = none := by rfl) : PSound P f s := by
  subst hN
  refine ⟨hcall, fun G w xs vs r hlt hgl hp hv hpre => ?_, fun R hR => (by rw [hown] at hR; cases hR), fun R hR => (by rw [hheap] at hR; cases hR)⟩
  have hlen := hv.length
  have hxn := hn xs r hpre
  have hc : Conc (readCx P w G fn.ntmps) G (fun _ => .tuple #[]) (start xs) { tmps := vs.toArray ++ Array.replicate (fn.ntmps - vs.toArray.size) undef, defers := [] } w := {
    defers := rfl
    size := by simp only [Array.size_append, List.size_toArray, Array.size_replicate]; show _ = fn.ntmps; omega
    env := fun t => by
      simp only [start]
      by_cases ht : t < xs.length
      · obtain ⟨v, h1, h2⟩ := hv.get (i := t) (x := xs[t]) (List.getElem?_eq_getElem ht)
        have e1 : xs.getD t .junk = xs[t] := by simp [List.getElem?_eq_getElem ht]
        have e2 : (vs.toArray ++ Array.replicate (fn.ntmps - vs.toArray.size) undef).getD t undef = v := by
          rw [Array.getD_eq_getD_getElem?, Array.getElem?_append_left (by simpa [hlen] using ht)]
          simp [h1]
        rw [e1, e2]; exact h2
      · have : xs.getD t .junk = .junk := by simp [List.getElem?_eq_none (by omega : xs.length ≤ t)]
        rw [this]; simp only [AVal]
    envlt := fun t => by
      simp only [start]
      by_cases ht : t < xs.length
      · have e1 : xs.getD t .junk = xs[t] := by simp [List.getElem?_eq_getElem ht]
        rw [e1]; exact ltAll_get (AV.persAll_lt hp) (List.getElem?_eq_getElem ht)
      · have : xs.getD t .junk = .junk := by simp [List.getElem?_eq_none (by omega : xs.length ≤ t)]
        rw [this]; rfl
    hp := fun k ob hk => by simp [start] at hk
    hplt := fun k ob hk => by simp [start] at hk
    inj := fun k k' ob ob' hk => by simp [start] at hk
    lt := hlt
    sub := fun b hb => hb
    new := fun b hb => .inl hb
    fr := Fr.refl _ _
    stay := ⟨Nat.le_refl _, fun k hk => by cases hk⟩
    glob := hgl }
  exact callsIn_wide.1 (callsIn_of_wp_marks hf hb trivial (h xs r w G hpre hp G _ _ w hc))
theorem put_ne {a : Act} {d : Option Nat} {v : Value} {t : Nat} (h : d ≠ some t) : (a.put d v).tmps.getD t undef = a.tmps.getD t undef := by
  cases d with
  | none => rfl
  | some d =>
    have hdt : d ≠ t := fun e => h (by rw [e])
    simp only [Act.put, Array.getD_eq_getD_getElem?]
    rw [Array.getElem?_setIfInBounds_ne hdt]
theorem conc0 {P : Program} {W : World} {G : Nat → Prop} {β : Nat → Value} {N : Nat} {a : Act} {env : Nat → AV} (hd : a.defers = []) (hs : a.tmps.size = N) (hl : ∀ b, G b → b < W.heap.size) (hg : GlobOk G W) (he : ∀ t, AVal G W β (env t) (a.tmps.getD t undef)) (hlt : ∀ t, (env t).lt 0 = true) :
    Conc (readCx P W G N) G β ⟨env, fun _ => none, 0⟩ a W := {
  defers := hd
  size := hs
  env := he
  envlt := hlt
  hp := fun k ob hk => by cases hk
  hplt := fun k ob hk => by cases hk
  inj := fun k k' ob ob' hk => by cases hk
  lt := hl
  sub := fun b hb => hb
  new := fun b hb => .inl hb
  fr := Fr.refl _ _
  stay := ⟨Nat.le_refl _, fun k hk => by cases hk⟩
  glob := hg }
def evP (T : Nat → Option TI) (N : Nat) (ts : List Nat) : List Oper → St → (St → Prop) → Prop
  | [], σ, K => K σ
  | o :: os, σ, K =>
    match o.dst, o.guard, noAlloc o && noDefer o with
    | some d, none, true => match Nat.blt d N && noneIn d ts with
      | true => match pstep T false o σ.env with
        | some (φ, x) => andO φ (evP T N ts os (σ.put (some d) x) K)
        | none => False
      | false => False
    | _, _, _ => False
theorem evP_sound {P : Program} {W0 : World} {G0 : Nat → Prop} {T : Nat → Option TI} (hT : TOk P T) {N n : Nat} {ops rest : List Oper} {K : St → Prop} {Q : Exit → Act → World → Prop} {ts : List Nat} {v0 : Nat → Value}
    (hr : ∀ σ G β a w, K σ → Conc (readCx P W0 G0 N) G β σ a w → w.heap.size = W0.heap.size → (∀ t ∈ ts, a.tmps.getD t undef = v0 t) → wpListIn Fence.wide n P ops.toArray Q rest a w) :
    ∀ (l : List Oper) (σ : St) (G : Nat → Prop) (β : Nat → Value) (a : Act) (w : World), evP T N ts l σ K → Conc (readCx P W0 G0 N) G β σ a w → w.heap.size = W0.heap.size → (∀ t ∈ ts, a.tmps.getD t undef = v0 t) → wpListIn Fence.wide n P ops.toArray Q (l ++ rest) a w
  | [], σ, G, β, a, w, h, hc, hs, ht => hr σ G β a w h hc hs ht
  | o :: os, σ, G, β, a, w, h, hc, hs, ht => by
    unfold evP at h
    split at h
    · rename_i d hd hg hnn
      simp only [Bool.and_eq_true] at hnn
      split at h
      · rename_i hdN
        simp only [Bool.and_eq_true] at hdN
        have hdN1 : d < N := Nat.le_of_ble_eq_true hdN.1
        have hdts := noneIn_spec hdN.2
        split at h
        · rename_i φ x hp
          obtain ⟨hφ, h⟩ := andO_out h
          rw [List.cons_append]
          unfold wpListIn
          rw [if_pos (by simp [Region.wanted, hg])]
          refine op_in (ro := none) (K := fun a' w' => wpListIn Fence.wide n P ops.toArray Q (os ++ rest) a' w') (fun c e => ?_) (fun _ _ h => h) ?_
          · have := hnn.2
            unfold noDefer at this
            rw [e] at this
            cases this
          · refine pcasesN (c := readCx P W0 G0 N) hT hc hp hφ fun G' w' v he hna hv => ?_
            have hww := hna hnn.1
            subst hww
            rw [hd]
            have hput := (hc.ext he).put (d := some d) (fun t e => by cases e; exact hdN1) hv (pstep_lt hc.envlt hp)
            refine evP_sound hT hr os _ G' β _ _ h hput hs fun t htt => ?_
            rw [put_ne (fun e => hdts (by cases e; exact htt))]
            exact ht t htt
        · exact h.elim
      · exact h.elim
    · exact h.elim
theorem evP_take {P : Program} {W0 : World} {G0 : Nat → Prop} {T : Nat → Option TI} (hT : TOk P T) {N n : Nat} {ops l : List Oper} (m : Nat) {K : St → Prop} {Q : Exit → Act → World → Prop} (ts : List Nat) {σ : St} {G : Nat → Prop} {β : Nat → Value} {a : Act} {w : World}
    (h : evP T N ts (l.take m) σ K) (hc : Conc (readCx P W0 G0 N) G β σ a w) (hs : w.heap.size = W0.heap.size)
    (hr : ∀ σ G β a' w, K σ → Conc (readCx P W0 G0 N) G β σ a' w → w.heap.size = W0.heap.size → (∀ t ∈ ts, a'.tmps.getD t undef = a.tmps.getD t undef) → wpListIn Fence.wide n P ops.toArray Q (l.drop m) a' w) : wpListIn Fence.wide n P ops.toArray Q l a w := by
  have := evP_sound (v0 := fun t => a.tmps.getD t undef) hT hr (l.take m) σ G β a w h hc hs (fun _ _ => rfl)
  rwa [List.take_append_drop] at this
theorem evP_all {P : Program} {W0 : World} {G0 : Nat → Prop} {T : Nat → Option TI} (hT : TOk P T) {N n : Nat} {ops l : List Oper} {K : St → Prop} {Q : Exit → Act → World → Prop} (ts : List Nat) {σ : St} {G : Nat → Prop} {β : Nat → Value} {a : Act} {w : World}
    (h : evP T N ts l σ K) (hc : Conc (readCx P W0 G0 N) G β σ a w) (hs : w.heap.size = W0.heap.size)
    (hr : ∀ σ G β a' w, K σ → Conc (readCx P W0 G0 N) G β σ a' w → w.heap.size = W0.heap.size → (∀ t ∈ ts, a'.tmps.getD t undef = a.tmps.getD t undef) → Q .normal a' w) : wpListIn Fence.wide n P ops.toArray Q l a w := by
  have := evP_sound (rest := []) (v0 := fun t => a.tmps.getD t undef) (ops := ops) (n := n) (Q := Q) hT hr l σ G β a w h hc hs (fun _ _ => rfl)
  rwa [List.append_nil] at this
theorem ofL_rep {G : Nat → Prop} {w : World} {β : Nat → Value} {a : Act} : ∀ {L : List (Nat × AV)}, (∀ p ∈ L, AVal G w β p.2 (a.tmps.getD p.1 undef)) → ∀ t, AVal G w β (ofL L t) (a.tmps.getD t undef)
  | [], _, t => by simp only [ofL, AVal]
  | (s, x) :: r, h, t => by
    simp only [ofL]
    cases e : Nat.beq t s with
    | true => obtain rfl := Nat.eq_of_beq_eq_true e; exact h _ List.mem_cons_self
    | false => exact ofL_rep (fun p hp => h p (List.mem_cons_of_mem _ hp)) t
theorem concL {P : Program} {W : World} {G : Nat → Prop} {N : Nat} {a : Act} (L : List (Nat × AV)) (hd : a.defers = []) (hs : a.tmps.size = N) (hl : ∀ b, G b → b < W.heap.size) (hg : GlobOk G W) (hL : ltL 0 L = true) (he : ∀ p ∈ L, AVal G W (fun _ => .tuple #[]) p.2 (a.tmps.getD p.1 undef)) :
    Conc (readCx P W G N) G (fun _ => .tuple #[]) ⟨ofL L, fun _ => none, 0⟩ a W := conc0 hd hs hl hg (ofL_rep he) (ltL_spec hL)
theorem wpListIn_one {n : Nat} {P : Program} {ops : Array Oper} {Q : Exit → Act → World → Prop} {o : Oper} {rest : List Oper} {a : Act} {w : World} (hg : o.guard = none) (h : o.wpIn Fence.wide n P a w (wpListIn Fence.wide n P ops Q rest) Q) : wpListIn Fence.wide n P ops Q (o :: rest) a w := by
  unfold wpListIn
  rw [if_pos (by simp [Region.wanted, hg])]
  exact h
theorem yield_op {P : Program} {o : Oper} {f x y : Operand} {ts : Array TypeId} {l : Nat} {a : Act} {w : World} {K : Act → World → Prop} {Q : Exit → Act → World → Prop} {R : Ending → World → Prop} {u : Value} (ho : o.op = .call { callee := .value f, args := #[x, y], argTypes := ts })
    (hf : a.eval f = .func (.yield l) #[] #[]) (hY : YieldAt Fence.wide 0 P l #[a.eval x, a.eval y] w R) (hR : ∀ e w', R e w' → e = .returned u ∧ K (a.put o.dst u) w') : o.wpIn Fence.wide 1 P a w K Q := by
  obtain ⟨fn, tmps, assign, body, hy, hr⟩ := hY
  refine ⟨fun _ _ => trivial, ?_⟩
  rw [Oper.semAt_eq _ _ _ (by rw [ho]; intro c e; cases e)]
  have : (execOp a.eval o).run P w = .ok (.round l fn tmps assign body) w := by
    simp [execOp, ho, resolve, hf, Deferred.ofValue, invoke, hy]
  rw [this]
  refine ⟨fun h => (by cases h), hr.mono fun e w' he => ?_⟩
  obtain ⟨rfl, h⟩ := hR e w' he
  exact h
theorem Conc.back {P : Program} {W : World} {G G' : Nat → Prop} {N : Nat} {β : Nat → Value} {σ : St} {a : Act} {w : World} (hc : Conc (readCx P W G N) G' β σ a w) (hs : w.heap.size = W.heap.size) : (∀ b, G' b → G b) ∧ ∀ b, b < W.heap.size → w.heap[b]? = W.heap[b]? :=
  ⟨fun b hb => (hc.new b hb).elim id (fun h => h.elim False.elim (fun h => by have := hc.lt b hb; have h : W.heap.size ≤ b := h; omega)), fun b hb => hc.fr.old b hb (fun h => h)⟩
end Go.Abs
namespace Go.Proofs.Ytfbggpmdmhgpfaa
open Go.Abs
def R_Backward_Op (xs : List AV) (r : Ret) : Prop := ∃ rows, xs = [.s (.sl 8 rows)] ∧ r = .val (.clo 73 [.s (.pt [.sl 8 rows])])
set_option maxHeartbeats 600000 in
set_option maxRecDepth 100000 in
theorem ok_Backward_Op : PSound Try.prog 53 (pspec R_Backward_Op) := by
  have gok : ∀ f s, look? f [] = some s → PSound Try.prog f s := look_all (by simp)
  refine psound tokW Try.call53 Try.func53 rfl (fun xs r h => by obtain ⟨_, rfl, _⟩ := h; show 1 ≤ 4; decide) 4 rfl ?_
  rintro xs r w0 G0 ⟨rows, rfl, rfl⟩ _
  refine tri_seq ?_
  refine tri_region (by exact tokW) (by exact gok) [] [] rfl ?_
  show Tri _ _ _ _
  refine tri_seq ?_
  refine tri_region (by exact tokW) (by exact gok) [] [] rfl ?_
  show Tri _ _ _ _
  refine tri_ret ?_
  unfold Gives
  exact ⟨_, Le.refl _ _, rfl, rfl⟩
theorem eval_tmp (a : Act) (t : Nat) : a.eval (.tmp t) = a.tmps.getD t undef := rfl
theorem list8 {α : Type} : ∀ {l : List α}, l.length = 8 → ∃ a b c d e f g h, l = [a, b, c, d, e, f, g, h]
  | [a, b, c, d, e, f, g, h], _ => ⟨a, b, c, d, e, f, g, h, rfl⟩
set_option maxHeartbeats 2000000 in
set_option maxRecDepth 100000 in
theorem back_Op : BackIter Try.prog 73 8 := by
  intro G w0 v rows hlt hgl hv hrl hlen l J W hsz hk hJ hY h0
  have hrep : ∀ w : World, (∀ b, G b → w.heap[b]? = w0.heap[b]?) → Rep G w (.pt [.sl 8 rows]) v := fun w hw => hv.keep ⟨fun _ h => h, hw⟩
  have hlt' : ∀ w : World, w0.heap.size ≤ w.heap.size → ∀ b, G b → b < w.heap.size := fun w hw b hb => Nat.lt_of_lt_of_le (hlt b hb) hw
  have hgl' : ∀ w : World, (∀ b, G b → w.heap[b]? = w0.heap[b]?) → GlobOk G w := fun w hw => hgl.keep ⟨fun _ h => h, hw⟩
  have step : ∀ {N : Nat} {G' : Nat → Prop} {β : Nat → Value} {σ : St} {a : Act} {wa wb : World} (i : Nat), Conc (readCx Try.prog wa G N) G' β σ a wb → wb.heap.size = wa.heap.size → J i wa → w0.heap.size ≤ wa.heap.size → (∀ b, G b → wa.heap[b]? = w0.heap[b]?) →
      J i wb ∧ w0.heap.size ≤ wb.heap.size ∧ (∀ b, G b → wb.heap[b]? = w0.heap[b]?) := fun {N G' β σ a wa wb} i hc hs hj h1 h2 => by
    obtain ⟨g1, g2⟩ := hc.back hs
    exact ⟨hJ i wa wb hj ⟨hc.fr.os, hc.fr.tape, hc.fr.output, hc.fr.size, g2⟩, by rw [hs]; exact h1, fun b hb => (g2 b (hlt' wa h1 b hb)).trans (h2 b hb)⟩
  let St : Nat → Act → World → Prop := fun i a w => a.defers = [] ∧ a.tmps.size = 19 ∧ a.tmps.getD 0 undef = .func (.yield l) #[] #[] ∧ a.tmps.getD 1 undef = v ∧ a.tmps.getD 3 undef = .int .i64 ((rows.length : Int) - 1 - i) ∧ J i w ∧ w0.heap.size ≤ w.heap.size ∧ (∀ b, G b → w.heap[b]? = w0.heap[b]?)
  refine callsIn_of_wp Try.func73 rfl trivial ?_
  generalize ha : ({ tmps := #[Value.func (.yield l) #[] #[], v] ++ Array.replicate _ undef, defers := [] } : Act) = a
  have a0 : a.tmps.getD 0 undef = .func (.yield l) #[] #[] := by rw [← ha]; rfl
  have a1 : a.tmps.getD 1 undef = v := by rw [← ha]; rfl
  have az : a.tmps.size = 19 := by rw [← ha]; rfl
  have ad : a.defers = [] := by rw [← ha]
  clear ha
  refine wpIn_seq ?_
  refine wpIn_region_lit ?_
  refine evP_all tokW (N := 19) (K := fun σ => σ.env 3 = .s (.int .i64 (IntKind.i64.wrap ((rows.length : Int) - 1)))) [0, 1] ?_ (concL (G := G) [(1, .s (.pt [.sl 8 rows]))] ad az (hlt' W hsz) (hgl' W hk) rfl (fun p hp => by
    obtain rfl := List.mem_singleton.1 hp
    dsimp only
    rw [a1]
    simp only [AVal]
    exact hrep W hk)) rfl ?_
  · show _ = _
    rfl
  intro σ1 G1 β1 b w1 hK hc hs hfr
  have b0 := (hfr 0 (by simp)).trans a0
  have b1 := (hfr 1 (by simp)).trans a1
  have b3 := hc.env 3
  rw [hK] at b3
  simp only [AVal, Rep] at b3
  rw [wrap64_in (n := (rows.length : Int) - 1) (by omega) (by omega)] at b3
  have hst := step 0 hc hs h0 hsz hk
  have hS : St 0 b w1 := ⟨hc.defers, hc.size, b0, b1, by rw [b3]; congr 1; omega, hst⟩
  clear hst b0 b1 b3 hK hfr hc hs a0 a1 az ad
  refine wpIn_block ?_
  refine wpIn_loop (fun a w => ∃ i, i ≤ rows.length ∧ St i a w) (fun a _ => match a.tmps.getD 3 undef with | .int _ z => (z + 1).toNat | _ => 0) ⟨0, Nat.zero_le _, hS⟩ ?_
  rintro a w ⟨i, hi, ad, az, a0, a1, a3, hj, hw1, hw2⟩
  refine wpIn_seq ?_
  refine wpIn_seq ?_
  refine wpIn_region_lit ?_
  refine evP_all tokW (N := 19) (K := fun σ => σ.env 8 = .s (.bool (decide (0 ≤ (rows.length : Int) - 1 - i)))) [0, 1, 3] ?_ (concL (G := G) [(3, .s (.int .i64 ((rows.length : Int) - 1 - i)))] ad az (hlt' w hw1) (hgl' w hw2) rfl (fun p hp => by
    obtain rfl := List.mem_singleton.1 hp
    dsimp only
    rw [a3]
    simp [AVal, Rep])) rfl ?_
  · show _ = _
    rfl
  intro σ1 G1 β1 b w1 hK hc hs hfr
  have b0 := (hfr 0 (by simp)).trans a0
  have b1 := (hfr 1 (by simp)).trans a1
  have b3 := (hfr 3 (by simp)).trans a3
  have b8 := hc.env 8
  rw [hK] at b8
  simp only [AVal, Rep] at b8
  obtain ⟨hj1, hw3, hw4⟩ := step i hc hs hj hw1 hw2
  have bd : b.defers = [] := hc.defers
  have bs : b.tmps.size = 19 := hc.size
  clear hc hK hfr hs a0 a1 ad az hj hw1 hw2
  refine wpIn_cond_split (t := decide (0 ≤ (rows.length : Int) - 1 - i)) b8 (fun hb => ?_) (fun hb => ?_)
  · have hb := of_decide_eq_true hb
    refine wpIn_skip ?_
    obtain ⟨j, hij⟩ : ∃ j, i + j + 1 = rows.length := ⟨rows.length - 1 - i, by omega⟩
    have hz : (rows.length : Int) - 1 - i = (j : Int) := by omega
    rw [hz] at b3
    have hjl : j < rows.length := by omega
    have hrow : rows[j]? = some rows[j] := List.getElem?_eq_getElem hjl
    have hr8 := hrl _ (List.getElem_mem hjl)
    have hgd : rows.getD ((j : Int).toNat) [] = rows[j] := by rw [Int.toNat_natCast, List.getD_eq_getElem?_getD, hrow]; rfl
    generalize rows[j] = row at hrow hr8 hgd
    refine wpIn_seq ?_
    refine wpIn_block ?_
    refine wpIn_seq ?_
    refine wpIn_region_lit ?_
    refine wpListIn_one rfl ?_
    refine op_in (ro := none) (K := fun a' w' => a' = b.put (some 11) (.func (.yield l) #[] #[]) ∧ w' = w1) (by intro c e; cases e) ?_ (wp_value (v := .func (.yield l) #[] #[]) (w' := w1) (by simp [execOp, eval_tmp, b0]) ⟨rfl, rfl⟩)
    rintro a' w' ⟨ha', hw'⟩
    rw [ha', hw']
    clear ha' hw' a' w'
    have c0 : (b.put (some 11) (.func (.yield l) #[] #[])).tmps.getD 0 undef = .func (.yield l) #[] #[] := (put_ne (by decide)).trans b0
    have c1 : (b.put (some 11) (.func (.yield l) #[] #[])).tmps.getD 1 undef = v := (put_ne (by decide)).trans b1
    have c3 : (b.put (some 11) (.func (.yield l) #[] #[])).tmps.getD 3 undef = .int .i64 (j : Int) := (put_ne (by decide)).trans b3
    have c11 : (b.put (some 11) (.func (.yield l) #[] #[])).tmps.getD 11 undef = .func (.yield l) #[] #[] := by
      simp only [Act.put]
      rw [getD_set (by rw [bs]; decide), if_pos rfl]
    have cd : (b.put (some 11) (.func (.yield l) #[] #[])).defers = [] := (put_defers ..).trans bd
    have cs : (b.put (some 11) (.func (.yield l) #[] #[])).tmps.size = 19 := (put_size ..).trans bs
    generalize b.put (some 11) (.func (.yield l) #[] #[]) = c at c0 c1 c3 c11 cd cs
    clear b0 b1 b3 b8 bd bs
    refine evP_take tokW (N := 19) 4 (K := fun σ => σ.env 12 = .s (.int .i64 (j : Int)) ∧ σ.env 15 = .s (.pt (rows.getD ((j : Int).toNat) []))) [0, 1, 3, 11] ?_ (concL (G := G) [(1, .s (.pt [.sl 8 rows])), (3, .s (.int .i64 (j : Int)))] cd cs (hlt' w1 hw3) (hgl' w1 hw4) rfl (fun p hp => by
      rcases List.mem_cons.1 hp with rfl | hp
      · dsimp only
        rw [c1]
        simp only [AVal]
        exact hrep w1 hw4
      · obtain rfl := List.mem_singleton.1 hp
        dsimp only
        rw [c3]
        simp [AVal, Rep])) rfl ?_
    · exact ⟨⟨by omega, by omega⟩, rfl, rfl⟩
    intro σ2 G2 β2 d w2 hK hc hs hfr
    have d0 := (hfr 0 (by simp)).trans c0
    have d1 := (hfr 1 (by simp)).trans c1
    have d3 := (hfr 3 (by simp)).trans c3
    have d11 := (hfr 11 (by simp)).trans c11
    have d12 := hc.env 12
    have d15 := hc.env 15
    obtain ⟨hgb, _⟩ := hc.back hs
    rw [hK.1] at d12
    rw [hK.2, hgd] at d15
    simp only [AVal, Rep] at d12
    have d15 := d15.keep (⟨hgb, fun _ _ => rfl⟩ : Keep G2 G w2 w2)
    simp only [AVal] at d15
    obtain ⟨hj2, hw5, hw6⟩ := step i hc hs hj1 hw3 hw4
    have dd : d.defers = [] := hc.defers
    have ds : d.tmps.size = 19 := hc.size
    clear hc hK hfr hs c0 c1 c3 c11 cd cs hj1 hw3 hw4 hgb
    obtain ⟨r1, r2, r3, r4, r5, r6, r7, r8, rfl⟩ := list8 hr8
    refine evP_take tokW (N := 19) 1 (K := fun σ => σ.env 16 = .agg ([r1, r2, r3, r4, r5, r6, r7, r8].map .s)) [0, 1, 3, 11, 12] ?_ (concL (G := G) [(15, .s (.pt [r1, r2, r3, r4, r5, r6, r7, r8]))] dd ds (hlt' w2 hw5) (hgl' w2 hw6) rfl (fun p hp => by
      obtain rfl := List.mem_singleton.1 hp
      dsimp only
      simp only [AVal]
      exact d15)) rfl ?_
    · show _ = _
      rfl
    intro σ3 G3 β3 e w3 hK hc hs hfr
    have e0 := (hfr 0 (by simp)).trans d0
    have e1 := (hfr 1 (by simp)).trans d1
    have e3 := (hfr 3 (by simp)).trans d3
    have e11 := (hfr 11 (by simp)).trans d11
    have e12 := (hfr 12 (by simp)).trans d12
    have e16 := hc.env 16
    obtain ⟨hgb, _⟩ := hc.back hs
    rw [hK] at e16
    have e16 := e16.keep (⟨hgb, fun _ _ => rfl⟩ : Keep G3 G w3 w3)
    obtain ⟨hj3, hw7, hw8⟩ := step i hc hs hj2 hw5 hw6
    have ed : e.defers = [] := hc.defers
    have es : e.tmps.size = 19 := hc.size
    clear hc hK hfr hs d0 d1 d3 d11 d12 d15 dd ds hj2 hw5 hw6 hgb
    refine wpListIn_one rfl ?_
    have hYY := hY i j _ (e.tmps.getD 16 undef) w3 hij hrow hj3 hw7 hw8 (fun β => e16.beta (n := 0) (fun k hk => by cases hk) (lt_rowS _))
    refine yield_op (u := .bool true) (f := .tmp 11) (x := .tmp 12) (y := .tmp 16) (l := l) rfl e11 (by rw [eval_tmp, eval_tmp, e12]; exact hYY) ?_
    rintro ee w4 ⟨rfl, hj4, hw9, hw10⟩
    refine ⟨rfl, ?_⟩
    have f0 : (e.put (some 17) (.bool true)).tmps.getD 0 undef = .func (.yield l) #[] #[] := (put_ne (by decide)).trans e0
    have f1 : (e.put (some 17) (.bool true)).tmps.getD 1 undef = v := (put_ne (by decide)).trans e1
    have f3 : (e.put (some 17) (.bool true)).tmps.getD 3 undef = .int .i64 (j : Int) := (put_ne (by decide)).trans e3
    have f17 : (e.put (some 17) (.bool true)).tmps.getD 17 undef = .bool true := by
      simp only [Act.put]
      rw [getD_set (by rw [es]; decide), if_pos rfl]
    have fd : (e.put (some 17) (.bool true)).defers = [] := (put_defers ..).trans ed
    have fs : (e.put (some 17) (.bool true)).tmps.size = 19 := (put_size ..).trans es
    show wpListIn _ _ _ _ _ _ (e.put (some 17) (.bool true)) _
    generalize e.put (some 17) (.bool true) = f at f0 f1 f3 f17 fd fs
    clear e0 e1 e3 e11 e12 e16 ed es hj3 hw7 hw8 hYY
    refine evP_all tokW (N := 19) (K := fun σ => σ.env 18 = .s (.bool false)) [0, 1, 3] ?_ (concL (G := G) [(17, .s (.bool true))] fd fs (hlt' w4 hw9) (hgl' w4 hw10) rfl (fun p hp => by
      obtain rfl := List.mem_singleton.1 hp
      dsimp only
      rw [f17]
      simp [AVal, Rep])) rfl ?_
    · show _ = _
      rfl
    intro σ5 G5 β5 g w5 hK hc hs hfr
    have g0 := (hfr 0 (by simp)).trans f0
    have g1 := (hfr 1 (by simp)).trans f1
    have g3 := (hfr 3 (by simp)).trans f3
    have g18 := hc.env 18
    rw [hK] at g18
    simp only [AVal, Rep] at g18
    obtain ⟨hj5, hw11, hw12⟩ := step (i + 1) hc hs hj4 hw9 hw10
    have gd : g.defers = [] := hc.defers
    have gs : g.tmps.size = 19 := hc.size
    clear hc hK hfr hs f0 f1 f3 f17 fd fs hj4 hw9 hw10
    refine wpIn_cond_false g18 ?_
    refine wpIn_skip ?_
    refine wpIn_region_lit ?_
    refine evP_all tokW (N := 19) (K := fun σ => σ.env 3 = .s (.int .i64 (IntKind.i64.wrap ((j : Int) - 1)))) [0, 1] ?_ (concL (G := G) [(3, .s (.int .i64 (j : Int)))] gd gs (hlt' w5 hw11) (hgl' w5 hw12) rfl (fun p hp => by
      obtain rfl := List.mem_singleton.1 hp
      dsimp only
      rw [g3]
      simp [AVal, Rep])) rfl ?_
    · show _ = _
      rfl
    intro σ6 G6 β6 h w6 hK hc hs hfr
    have h0' := (hfr 0 (by simp)).trans g0
    have h1' := (hfr 1 (by simp)).trans g1
    have h3' := hc.env 3
    rw [hK] at h3'
    simp only [AVal, Rep] at h3'
    rw [wrap64_in (n := (j : Int) - 1) (by omega) (by omega)] at h3'
    have hst := step (i + 1) hc hs hj5 hw11 hw12
    refine ⟨⟨i + 1, by omega, hc.defers, hc.size, h0', h1', by rw [h3']; congr 1; omega, hst⟩, ?_⟩
    rw [h3', a3]
    show ((j : Int) - 1 + 1).toNat < ((rows.length : Int) - 1 - i + 1).toNat
    omega
  · have hb := of_decide_eq_false hb
    refine wpIn_exit ?_
    obtain rfl : i = rows.length := by omega
    simp only [Exit.then, Exit.inBlock, if_true]
    exact ⟨bd, _, results_none rfl _ _ _, ⟨_, rfl⟩, hj1⟩
end Go.Proofs.Ytfbggpmdmhgpfaa
namespace Go.Proofs.Ytfbggpmdmhgpfaa
open Go.Abs
def m_edit_InvertAll_r (n : Nat) (ops : List (Int × List Int × Int × Int × List Nd × Int × List UInt8 × List UInt8)) : Nat → Option (List (Int × List Int × Int × Int × List Nd × Int × List UInt8 × List UInt8))
| 0 => some []
| i+1 => (m_edit_InvertAll_r n ops i).bind fun acc => (ops[ops.length - 1 - i]?).bind fun o => (m_edit_Invert n o).bind fun y => req (acc.length + 1 ≤ 4294967296) <| some (acc ++ [y])
def m_edit_InvertAll (n : Nat) : (List (Int × List Int × Int × Int × List Nd × Int × List UInt8 × List UInt8)) → Option (List (Int × List Int × Int × Int × List Nd × Int × List UInt8 × List UInt8))
| ops2 => req (ops2.length ≤ 4294967296) <| m_edit_InvertAll_r n ops2 ops2.length
end Go.Proofs.Ytfbggpmdmhgpfaa
namespace Go.Proofs.Ytfbggpmdmhgpfaa
open Go.Abs
theorem trix_le {c : Cx} {σ σ' : Go.Abs.St} {x : Code} {Φ : Exit → Act → World → Prop} (hle : Le c σ σ') (h : TriX c x σ' Φ) : TriX c x σ Φ := fun G β a w hc => by
  unfold Le at hle
  obtain ⟨G', β', h'⟩ := hle G β a w hc
  exact h G' β' a w h'
theorem InvertAll_step {n : Nat} {ops : List (Int × List Int × Int × Int × List Nd × Int × List UInt8 × List UInt8)} : ∀ {N : Nat} {y0 : List (Int × List Int × Int × Int × List Nd × Int × List UInt8 × List UInt8)}, m_edit_InvertAll_r n ops N = some y0 → ∀ i, i < N →
    ∃ acc o y, m_edit_InvertAll_r n ops i = some acc ∧ ops[ops.length - 1 - i]? = some o ∧ m_edit_Invert n o = some y ∧ acc.length + 1 ≤ 4294967296 ∧ m_edit_InvertAll_r n ops (i + 1) = some (acc ++ [y])
  | 0, _, _, i, hi => by omega
  | N + 1, y0, h, i, hi => by
    have h' := h
    unfold m_edit_InvertAll_r at h
    obtain ⟨acc, h1, h⟩ := bind_out h
    obtain ⟨o, h2, h⟩ := bind_out h
    obtain ⟨y, h3, h⟩ := bind_out h
    obtain ⟨h4, h5⟩ := req_out h
    by_cases e : i = N
    · subst e
      exact ⟨acc, o, y, h1, h2, h3, h4, h'.trans h5.symm⟩
    · exact InvertAll_step h1 i (by omega)
def R_edit_InvertAll (n : Nat) (xs : List AV) (r : Ret) : Prop := ∃ (a0 : List (Int × List Int × Int × Int × List Nd × Int × List UInt8 × List UInt8)) (y0 : List (Int × List Int × Int × Int × List Nd × Int × List UInt8 × List UInt8)), m_edit_InvertAll n a0 = some y0 ∧ xs = [.s (.sl 8 ((List.map enc_api_Op) a0))] ∧ r = .val (.s (.sl 8 ((List.map enc_api_Op) y0)))
def S_edit_InvertAll : PSpec := pspec fun xs r => ∃ n, R_edit_InvertAll n xs r
set_option maxHeartbeats 2000000 in
set_option maxRecDepth 100000 in
theorem ok_edit_InvertAll : PSound Try.prog 30 S_edit_InvertAll := by
  have gok : ∀ f s, look? f [(53, pspec R_Backward_Op), (25, S_edit_Invert)] = some s → PSound Try.prog f s := look_all (by
    simp only [List.forall_mem_cons]
    exact ⟨ok_Backward_Op, ok_edit_Invert, by simp⟩)
  refine psoundX Try.call30 Try.func30 rfl (fun xs r h => by obtain ⟨n, _, _, _, rfl, _⟩ := h; show 1 ≤ 16; decide) 16 rfl ?_
  rintro xs r w0 G0 ⟨n, ops, y0, h, rfl, rfl⟩ _
  rw [m_edit_InvertAll] at h
  obtain ⟨hl, h⟩ := req_out h
  obtain ⟨acc, hacc⟩ : ∃ acc : Nat → List (Int × List Int × Int × Int × List Nd × Int × List UInt8 × List UInt8), acc = fun i => (m_edit_InvertAll_r n ops i).getD [] := ⟨_, rfl⟩
  have hfin : acc ops.length = y0 := by rw [hacc]; dsimp only; rw [h]; rfl
  have h0 : acc 0 = [] := by rw [hacc]; rfl
  have hst : ∀ i, i < ops.length → ∃ o y, ops[ops.length - 1 - i]? = some o ∧ m_edit_Invert n o = some y ∧ (acc i).length + 1 ≤ 4294967296 ∧ acc (i + 1) = acc i ++ [y] := fun i hi => by
    obtain ⟨a, o, y, h1, h2, h3, h4, h5⟩ := InvertAll_step h i hi
    rw [hacc]
    exact ⟨o, y, h2, h3, by dsimp only; rw [h1]; exact h4, by dsimp only; rw [h1, h5]; rfl⟩
  clear hacc
  refine trix_tri rfl ?_
  refine tri_region (by exact tokW) (by exact gok) [] [] rfl ?_
  refine ⟨rfl, ?_⟩
  refine trix_tri rfl ?_
  refine tri_region (by exact tokW) (by exact gok) [3] [] rfl ?_
  refine ⟨rfl, ?_⟩
  refine trix_seq ?_
  refine trix_tri rfl ?_
  refine tri_region (by exact tokW) (by exact gok) [] [] rfl ?_
  refine ⟨_, ⟨_, rfl, rfl⟩, ?_⟩
  refine ⟨rfl, ?_⟩
  refine trix_le (Le.trans (Le.takeNil 0 0 27 rfl rfl (by decide)) (Le.rename [(0, 0), (1, 1)] [(3, .op 0 0), (7, .clo 73 [.s (.pt [.sl 8 ((List.map enc_api_Op) ops)])])] [(0, .box 42 [.orow 1]), (1, .row 27 8 [])] 2 ⟨rfl, rfl, trivial⟩ ⟨rfl, ⟨_, rfl, rfl⟩, rfl, ⟨_, rfl, rfl⟩, trivial⟩ rfl rfl rfl rfl rfl)) ?_
  refine trix_block ?_
  refine trix_range rfl rfl (sz := 8) (rows := (List.map enc_api_Op) ops) back_Op Try.call73 rfl (fun r hr => by obtain ⟨o, _, rfl⟩ := List.mem_map.1 hr; rfl) (by rw [List.length_map]; omega)
    (fun i => (ofH [(0, .box 42 [.orow 1]), (1, .row 27 8 ((List.map enc_api_Op) (acc i)))], 2)) (by dsimp only; rw [h0]; rfl) 1 (ltL_spec rfl) (Nat.zero_le _) (fun _ => by show 1 ≤ 2; decide) (by show 8 < 16; decide) (by show 9 < 16; decide) ?_ ?_
  · intro i j row hij hrow l w X G B _
    rw [List.length_map] at hij
    obtain ⟨o, y, h1, h2, h3, h4⟩ := hst i (by omega)
    rw [show ops.length - 1 - i = j by omega] at h1
    rw [List.getElem?_map, h1] at hrow
    obtain rfl := Option.some.inj hrow
    obtain ⟨op_kind, op_row, op_at, op_n, op_nodes, op_slot, op_old, op_text⟩ := o
    refine tri_region (by exact tokW) (by exact gok) [5] [] rfl ?_
    refine ⟨rfl, fun w X G B _ => ?_⟩
    refine tri_block ?_
    refine tri_drawn (by exact tokW) (by exact gok) (by exact mixed) [] [] [0, 1, 4, 5] rfl (by decide +kernel) ?_
    refine ⟨_, ⟨n, _, _, h2, rfl, rfl⟩, ?_⟩
    obtain ⟨z_kind, z_row, z_at, z_n, z_nodes, z_slot, z_old, z_text⟩ := y
    refine And.intro (by simp only [List.length_map, List.length_cons, List.length_nil]; omega) ?_
    refine ⟨rfl, _, Le.rename [(0, 0), (3, 1)] [] [(0, .box 42 [.orow 1]), (1, .row 27 8 ((List.map enc_api_Op) (acc (i + 1))))] 2 trivial ⟨rfl, ⟨_, rfl, rfl⟩, rfl, ⟨_, rfl, by rw [h4, List.map_append]; rfl⟩, trivial⟩ rfl rfl rfl rfl rfl, rfl, rfl⟩
  · intro D w2 X G2 G' β' a2 hsw hc
    rw [List.length_map, hfin] at hc
    show (Code.seq _ _).wpIn _ _ _ _ a2 w2
    refine fin_gives (c := readCx Try.prog w0 G0 16) tokW hsw (fun _ h => h) rfl rfl ?_ G' β' a2 w2 hc
    refine tri_seq ?_
    refine tri_region (by exact tokW) (by exact gok) [] [] rfl ?_
    show Tri _ _ _ _
    refine tri_ret ?_
    unfold Gives
    exact ⟨_, Le.giveRow 1 (e := 27) (sz := 8) (rows := (List.map enc_api_Op) y0) rfl, rfl, rfl⟩
end Go.Proofs.Ytfbggpmdmhgpfaa
namespace Go.Proofs.Ytfbggpmdmhgpfaa
open Go.Abs
def R_l12_awake_1 (xs : List AV) (r : Ret) : Prop := ∃ (a0 : List Nd) (y0 : Nd), m_l12_awake_1 a0 = some y0 ∧ xs = [.s (.sl 4 (Nd.encs a0))] ∧ r = .val (.agg ((Nd.enc y0).map .s))
def S_l12_awake_1 : PSpec := pspec fun xs r => R_l12_awake_1 xs r
set_option maxHeartbeats 2000000 in
set_option maxRecDepth 100000 in
theorem ok_l12_awake_1 : PSound Try.prog 32 S_l12_awake_1 := by
  have gok : ∀ (f : Nat) (s : PSpec), (fun _ => none : Nat → Option PSpec) f = some s → PSound Try.prog f s := fun _ _ h => by cases h
  refine psound tokW Try.call32 Try.func32 rfl (fun xs r h => by obtain ⟨_, _, _, rfl, _⟩ := h; show 1 ≤ 5; decide) 5 rfl ?_
  rintro xs r w0 G0 ⟨l1, y0, h, rfl, rfl⟩ _
  rw [m_l12_awake_1] at h
  refine tri_seq ?_
  refine tri_region (by exact tokW) (by exact gok) [2] [] rfl ?_
  show Tri _ _ _ _
  refine tri_seq ?_
  refine tri_region (by exact tokW) (by exact gok) [] [] rfl ?_
  show Tri _ _ _ _
  refine tri_ret ?_
  have hy := Option.some.inj h
  subst hy
  unfold Gives
  exact ⟨_, Le.refl _ _, rfl, rfl⟩
def R_r09_Equal (n : Nat) (xs : List AV) (r : Ret) : Prop := ∃ (a0 : Nd) (a1 : Nd) (y0 : Bool), m_r09_Equal n a0 a1 = some y0 ∧ xs = [.agg ((Nd.enc a0).map .s), .agg ((Nd.enc a1).map .s)] ∧ r = .val (.s (.bool y0))
def R_r09_SameItems (n : Nat) (xs : List AV) (r : Ret) : Prop := ∃ (a0 : List Nd) (a1 : List Nd) (y0 : Bool), m_r09_SameItems n a0 a1 = some y0 ∧ xs = [.s (.sl 4 (Nd.encs a0)), .s (.sl 4 (Nd.encs a1))] ∧ r = .val (.s (.bool y0))
set_option maxHeartbeats 2000000 in
set_option maxRecDepth 100000 in
theorem step_r09_Equal (n : Nat) (ih_r09_Equal : PSound Try.prog 17 (pspec (R_r09_Equal n))) (ih_r09_SameItems : PSound Try.prog 40 (pspec (R_r09_SameItems n))) : PSound Try.prog 17 (pspec (R_r09_Equal (n + 1))) := by
  have gok : ∀ f s, look? f [(40, pspec (R_r09_SameItems n))] = some s → PSound Try.prog f s := look_all (by
    simp only [List.forall_mem_cons]
    exact ⟨ih_r09_SameItems, by simp⟩)
  refine psound tokW Try.call17 Try.func17 rfl (fun xs r h => by obtain ⟨_, _, _, _, rfl, _⟩ := h; show 2 ≤ 31; decide) 31 rfl ?_
  rintro xs r w0 G0 ⟨⟨a1_kind, a1_text, a1_cols, a1_kids⟩, ⟨b2_kind, b2_text, b2_cols, b2_kids⟩, y0, h, rfl, rfl⟩ _
  rw [m_r09_Equal] at h
  refine tri_seq ?_
  refine tri_region (by exact tokW) (by exact gok) [] [] rfl ?_
  show Tri _ _ _ _
  refine tri_seq ?_
  obtain ⟨x3, hj, h⟩ := bind_out h
  refine tri_post ⟨ofL [(4, .s (.bool x3))], fun _ => none, 0⟩ ?_ (fun σ' hle => ?_)
  · replace h := hj
    refine tri_region (by exact tokW) (by exact gok) [] [10, 17, 24] rfl ?_
    intro b hb
    cases b with
    | true =>
      replace h := bif_t hb.symm h
      intro b hb
      cases b with
      | true =>
        replace h := bif_t hb.symm h
        intro b hb
        cases b with
        | true =>
          replace h := bif_t hb.symm h
          obtain ⟨y4, hy4, h⟩ := bind_out h
          refine ⟨_, ⟨_, _, _, hy4, rfl, rfl⟩, ?_⟩
          cases h
          exact (Le.forget _ ⟨rfl, trivial⟩)
        | false =>
          replace h := bif_f hb.symm h
          cases h
          exact (Le.forget _ ⟨rfl, trivial⟩)
      | false =>
        replace h := bif_f hb.symm h
        intro b hb
        subst hb
        cases h
        exact (Le.forget _ ⟨rfl, trivial⟩)
    | false =>
      replace h := bif_f hb.symm h
      intro b hb
      subst hb
      intro b hb
      subst hb
      cases h
      exact (Le.forget _ ⟨rfl, trivial⟩)
  · show Tri _ _ _ _
    refine tri_le hle ?_
    refine tri_ret ?_
    have hy := Option.some.inj h
    subst hy
    unfold Gives
    exact ⟨_, Le.refl _ _, rfl, rfl⟩
set_option maxHeartbeats 2000000 in
set_option maxRecDepth 100000 in
theorem step_r09_SameItems (n : Nat) (ih_r09_Equal : PSound Try.prog 17 (pspec (R_r09_Equal n))) (ih_r09_SameItems : PSound Try.prog 40 (pspec (R_r09_SameItems n))) : PSound Try.prog 40 (pspec (R_r09_SameItems (n + 1))) := by
  have gok : ∀ f s, look? f [(17, pspec (R_r09_Equal n))] = some s → PSound Try.prog f s := look_all (by
    simp only [List.forall_mem_cons]
    exact ⟨ih_r09_Equal, by simp⟩)
  refine psound tokW Try.call40 Try.func40 rfl (fun xs r h => by obtain ⟨_, _, _, _, rfl, _⟩ := h; show 2 ≤ 27; decide) 27 rfl ?_
  rintro xs r w0 G0 ⟨a1, b2, y0, h, rfl, rfl⟩ _
  rw [m_r09_SameItems] at h
  refine tri_seq ?_
  refine tri_region (by exact tokW) (by exact gok) [] [] rfl ?_
  show Tri _ _ _ _
  refine tri_seq ?_
  refine tri_seq ?_
  refine tri_region (by exact tokW) (by exact gok) [] [7, 9] rfl ?_
  intro n3 hn3
  obtain rfl : (a1.length : Int) = n3 := (hn3.trans (congrArg (fun m : Nat => (m : Int)) (rlen Nd.encs_eq a1))).symm
  intro n4 hn4
  obtain rfl : (b2.length : Int) = n4 := (hn4.trans (congrArg (fun m : Nat => (m : Int)) (rlen Nd.encs_eq b2))).symm
  show Tri _ _ _ _
  refine tri_cond rfl (fun hb => ?_) (fun hb => ?_)
  · replace h := bif_t hb h
    refine tri_seq ?_
    refine tri_region (by exact tokW) (by exact gok) [] [] rfl ?_
    show Tri _ _ _ _
    refine tri_ret ?_
    have hy := Option.some.inj h
    subst hy
    unfold Gives
    exact ⟨_, Le.refl _ _, rfl, rfl⟩
  · replace h := bif_f hb h
    refine tri_skip ?_
    show Tri _ _ _ _
    refine tri_seq ?_
    refine tri_seq ?_
    refine tri_region (by exact tokW) (by exact gok) [] [] rfl ?_
    show Tri _ _ _ _
    obtain ⟨fl, hl, ho1⟩ := bind_out h
    refine tri_fl (fl := fl) (fun z => match z with | _ => ⟨ofL [], fun _ => none, 0⟩) ?_ (fun z σ' hz hle => ?_)
    · refine tri_block (tri_loopI (X := Nat × Int) (fun y => match y with | (k, i5) => ⟨ofL [(0, .s (.sl 4 (Nd.encs a1))), (1, .s (.sl 4 (Nd.encs b2))), (5, .s (.int .i64 i5))], fun _ => none, 0⟩) (fun y => m_r09_SameItems_l1 (m_r09_Equal n) a1 b2 y.1 y.2 = some fl) (fun y => y.1) (n, 0) hl ?_ ?_)
      · exact (Le.forget _ ⟨rfl, rfl, rfl, trivial⟩)
      · rintro ⟨k, i5⟩ h
        cases k with
        | zero => cases h
        | succ k =>
          replace h : m_r09_SameItems_l1 (m_r09_Equal n) a1 b2 (k+1) i5 = some fl := h
          rw [m_r09_SameItems_l1] at h
          refine tri_seq ?_
          refine tri_seq ?_
          refine tri_region (by exact tokW) (by exact gok) [] [13] rfl ?_
          intro n6 hn6
          obtain rfl : (a1.length : Int) = n6 := (hn6.trans (congrArg (fun m : Nat => (m : Int)) (rlen Nd.encs_eq a1))).symm
          show Tri _ _ _ _
          refine tri_cond rfl (fun hb => ?_) (fun hb => ?_)
          · replace h := bif_t hb h
            refine tri_skip ?_
            show Tri _ _ _ _
            refine tri_seq ?_
            refine tri_block ?_
            refine tri_seq ?_
            refine tri_drawn (by exact tokW) (by exact gok) (by exact mixed) [] [19, 23] [] rfl (by decide +kernel) ?_
            obtain ⟨⟨e7_kind, e7_text, e7_cols, e7_kids⟩, he7, h⟩ := bind_out h
            refine And.intro (at_ok Nd.encs_eq he7).1 ?_
            intro r8 hr8
            obtain rfl : [.int .i64 e7_kind, .str e7_text, .int .i64 e7_cols, .sl 4 (Nd.encs e7_kids)] = r8 := (hr8.trans (at_ok Nd.encs_eq he7).2.1).symm
            obtain ⟨⟨e9_kind, e9_text, e9_cols, e9_kids⟩, he9, h⟩ := bind_out h
            refine And.intro (at_ok Nd.encs_eq he9).1 ?_
            intro r10 hr10
            obtain rfl : [.int .i64 e9_kind, .str e9_text, .int .i64 e9_cols, .sl 4 (Nd.encs e9_kids)] = r10 := (hr10.trans (at_ok Nd.encs_eq he9).2.1).symm
            obtain ⟨y11, hy11, h⟩ := bind_out h
            refine ⟨_, ⟨_, _, _, hy11, rfl, rfl⟩, ?_⟩
            show Tri _ _ _ _
            refine tri_cond rfl (fun hb => ?_) (fun hb => ?_)
            · replace h := bif_t hb h
              refine tri_seq ?_
              refine tri_region (by exact tokW) (by exact gok) [] [] rfl ?_
              show Tri _ _ _ _
              refine tri_ret ?_
              cases h
              replace h : some _ = some _ := ho1
              have hy := Option.some.inj h
              subst hy
              unfold Gives
              exact ⟨_, Le.refl _ _, rfl, rfl⟩
            · replace h := bif_f hb h
              refine tri_skip ?_
              show Tri _ _ _ _
              refine tri_region (by exact tokW) (by exact gok) [] [] rfl ?_
              refine ⟨(k, IntKind.i64.wrap (i5 + 1)), h, (Le.forget _ ⟨rfl, rfl, rfl, trivial⟩), Nat.lt_succ_self k⟩
          · replace h := bif_f hb h
            refine tri_exit ?_
            cases h
            exact ⟨_, rfl, (Le.forget _ trivial)⟩
    · subst hz
      obtain _ := z
      replace h := ho1
      show Tri _ _ _ _
      refine tri_le hle ?_
      refine tri_seq ?_
      refine tri_region (by exact tokW) (by exact gok) [] [] rfl ?_
      show Tri _ _ _ _
      refine tri_ret ?_
      have hy := Option.some.inj h
      subst hy
      unfold Gives
      exact ⟨_, Le.refl _ _, rfl, rfl⟩
theorem alls_r09_Equal : ∀ n, PSound Try.prog 17 (pspec (R_r09_Equal n)) ∧ PSound Try.prog 40 (pspec (R_r09_SameItems n)) := by
  intro n
  induction n with
  | zero =>
    refine ⟨?_, ?_⟩
    · exact psound_none Try.call17 (fun xs r h => by obtain ⟨_, _, _, h, _⟩ := h; rw [m_r09_Equal] at h; cases h)
    · exact psound_none Try.call40 (fun xs r h => by obtain ⟨_, _, _, h, _⟩ := h; rw [m_r09_SameItems] at h; cases h)
  | succ n ih =>
    obtain ⟨ih_r09_Equal, ih_r09_SameItems⟩ := ih
    exact ⟨step_r09_Equal n ih_r09_Equal ih_r09_SameItems, step_r09_SameItems n ih_r09_Equal ih_r09_SameItems⟩
def S_r09_Equal : PSpec := pspec fun xs r => ∃ n, R_r09_Equal n xs r
theorem ok_r09_Equal : PSound Try.prog 17 S_r09_Equal := psound_all (fun n => (alls_r09_Equal n).1)
def S_r09_SameItems : PSpec := pspec fun xs r => ∃ n, R_r09_SameItems n xs r
theorem ok_r09_SameItems : PSound Try.prog 40 S_r09_SameItems := psound_all (fun n => (alls_r09_Equal n).2)
def R_l12_awake (n : Nat) (xs : List AV) (r : Ret) : Prop := ∃ (y0 : Bool), m_l12_awake n = some y0 ∧ xs = [] ∧ r = .val (.s (.bool y0))
def S_l12_awake : PSpec := pspec fun xs r => ∃ n, R_l12_awake n xs r
set_option maxHeartbeats 2000000 in
set_option maxRecDepth 100000 in
theorem ok_l12_awake : PSound Try.prog 11 S_l12_awake := by
  have gok : ∀ f s, look? f [(32, S_l12_awake_1), (13, S_edit_Apply), (17, S_r09_Equal)] = some s → PSound Try.prog f s := look_all (by
    simp only [List.forall_mem_cons]
    exact ⟨ok_l12_awake_1, ok_edit_Apply, ok_r09_Equal, by simp⟩)
  refine psound tokW Try.call11 Try.func11 rfl (fun xs r h => by obtain ⟨n, _, _, rfl, _⟩ := h; show 0 ≤ 45; decide) 45 rfl ?_
  rintro xs r w0 G0 ⟨n, y0, h, rfl, rfl⟩ _
  rw [m_l12_awake] at h
  refine tri_seq ?_
  refine tri_region (by exact tokW) (by exact gok) [] [] rfl ?_
  show Tri _ _ _ _
  refine tri_seq ?_
  refine tri_region (by exact tokW) (by exact gok) [] [] rfl ?_
  show Tri _ _ _ _
  refine tri_seq ?_
  refine tri_region (by exact tokW) (by exact gok) [2, 3] [] rfl ?_
  show Tri _ _ _ _
  refine tri_le (Le.trans (Le.giveBox 0 [.int .i64 2, .str [97], .int .i64 0, .sl 4 (Nd.encs [])] rfl rfl) (Le.giveBox 1 [.int .i64 2, .str [98], .int .i64 0, .sl 4 (Nd.encs [])] rfl rfl)) ?_
  refine tri_seq ?_
  refine tri_region (by exact tokW) (by exact gok) [4] [13, 15] rfl ?_
  obtain ⟨⟨y1_kind, y1_text, y1_cols, y1_kids⟩, hy1, h⟩ := bind_out h
  refine ⟨_, ⟨_, _, hy1, rfl, rfl⟩, ?_⟩
  obtain ⟨⟨y2_kind, y2_text, y2_cols, y2_kids⟩, hy2, h⟩ := bind_out h
  refine ⟨_, ⟨_, _, hy2, rfl, rfl⟩, ?_⟩
  intro r3 hr3
  obtain rfl : Nd.encs [Nd.mk y1_kind y1_text y1_cols y1_kids, Nd.mk y2_kind y2_text y2_cols y2_kids] = r3 := (hr3.trans (by simp [List.map_append, List.map_take, List.map_drop, irow, brow, b8of_row, List.map_cons, List.map_nil, b8of_wrap, Nd.encs_eq, Nd.enc, enc_13_node_kind, enc_node_checker, enc_s_api_Node, enc_edit_change, enc_api_Op])).symm
  intro r4 hr4
  obtain rfl : Nd.encs [Nd.mk 5 [] 0 [Nd.mk y1_kind y1_text y1_cols y1_kids, Nd.mk y2_kind y2_text y2_cols y2_kids]] = r4 := (hr4.trans (by simp [List.map_append, List.map_take, List.map_drop, irow, brow, b8of_row, List.map_cons, List.map_nil, b8of_wrap, Nd.encs_eq, Nd.enc, enc_13_node_kind, enc_node_checker, enc_s_api_Node, enc_edit_change, enc_api_Op])).symm
  show Tri _ _ _ _
  refine tri_le (Le.giveBox 2 [.int .i64 3, .sl 1 ((List.map (irow .i64)) []), .int .i64 0, .int .i64 2, .sl 4 (Nd.encs [Nd.mk 5 [] 0 [Nd.mk y1_kind y1_text y1_cols y1_kids, Nd.mk y2_kind y2_text y2_cols y2_kids]]), .int .i64 0, .str [], .str []] rfl rfl) ?_
  refine tri_seq ?_
  refine tri_drawnR (by exact tokW) (by exact gok) (by exact mixed) [5] [21] [10, 11] [] rfl (by decide +kernel) ?_
  intro r5 hr5
  obtain rfl : Nd.encs [Nd.mk 2 [97] 0 [], Nd.mk 2 [98] 0 []] = r5 := (hr5.trans (by simp [List.map_append, List.map_take, List.map_drop, irow, brow, b8of_row, List.map_cons, List.map_nil, b8of_wrap, Nd.encs_eq, Nd.enc, enc_13_node_kind, enc_node_checker, enc_s_api_Node, enc_edit_change, enc_api_Op])).symm
  obtain ⟨⟨y6_kind, y6_text, y6_cols, y6_kids⟩, hy6, h⟩ := bind_out h
  refine ⟨_, ⟨_, _, hy6, rfl, rfl⟩, ?_⟩
  obtain ⟨⟨⟨y7_kind, y7_text, y7_cols, y7_kids⟩, y8⟩, hy7, h⟩ := bind_out h
  refine ⟨_, ⟨_, _, _, _, _, hy7, rfl, rfl⟩, ?_⟩
  show Tri _ _ _ _
  refine tri_le (Le.giveBox 3 [.int .i64 y7_kind, .str y7_text, .int .i64 y7_cols, .sl 4 (Nd.encs y7_kids)] rfl rfl) ?_
  refine tri_seq ?_
  obtain ⟨x9, hj, h⟩ := bind_out h
  refine tri_post ⟨ofL [(0, .s (.bool x9))], fun _ => none, 0⟩ ?_ (fun σ' hle => ?_)
  · replace h := hj
    refine tri_drawn (by exact tokW) (by exact gok) (by exact mixed) [] [29, 35, 39, 41] [] rfl (by decide +kernel) ?_
    intro b hb
    cases b with
    | true =>
      replace h := bif_t hb.symm h
      intro r10 hr10
      obtain rfl : Nd.encs [Nd.mk 2 [97] 0 [], Nd.mk 2 [98] 0 []] = r10 := (hr10.trans (by simp [List.map_append, List.map_take, List.map_drop, irow, brow, b8of_row, List.map_cons, List.map_nil, b8of_wrap, Nd.encs_eq, Nd.enc, enc_13_node_kind, enc_node_checker, enc_s_api_Node, enc_edit_change, enc_api_Op])).symm
      obtain ⟨⟨y11_kind, y11_text, y11_cols, y11_kids⟩, hy11, h⟩ := bind_out h
      refine ⟨_, ⟨_, _, hy11, rfl, rfl⟩, ?_⟩
      obtain ⟨⟨y12_kind, y12_text, y12_cols, y12_kids⟩, hy12, h⟩ := bind_out h
      refine ⟨_, ⟨_, _, hy12, rfl, rfl⟩, ?_⟩
      intro r13 hr13
      obtain rfl : Nd.encs [Nd.mk y11_kind y11_text y11_cols y11_kids, Nd.mk y12_kind y12_text y12_cols y12_kids] = r13 := (hr13.trans (by simp [List.map_append, List.map_take, List.map_drop, irow, brow, b8of_row, List.map_cons, List.map_nil, b8of_wrap, Nd.encs_eq, Nd.enc, enc_13_node_kind, enc_node_checker, enc_s_api_Node, enc_edit_change, enc_api_Op])).symm
      intro r14 hr14
      obtain rfl : Nd.encs [Nd.mk 5 [] 0 [Nd.mk y11_kind y11_text y11_cols y11_kids, Nd.mk y12_kind y12_text y12_cols y12_kids]] = r14 := (hr14.trans (by simp [List.map_append, List.map_take, List.map_drop, irow, brow, b8of_row, List.map_cons, List.map_nil, b8of_wrap, Nd.encs_eq, Nd.enc, enc_13_node_kind, enc_node_checker, enc_s_api_Node, enc_edit_change, enc_api_Op])).symm
      obtain ⟨⟨y15_kind, y15_text, y15_cols, y15_kids⟩, hy15, h⟩ := bind_out h
      refine ⟨_, ⟨_, _, hy15, rfl, rfl⟩, ?_⟩
      obtain ⟨y16, hy16, h⟩ := bind_out h
      refine ⟨_, ⟨_, _, _, _, hy16, rfl, rfl⟩, ?_⟩
      cases h
      exact (Le.rename [] _ [] 0 ⟨rfl, trivial⟩ trivial rfl rfl rfl rfl rfl)
    | false =>
      replace h := bif_f hb.symm h
      cases h
      exact (Le.rename [] _ [] 0 ⟨rfl, trivial⟩ trivial rfl rfl rfl rfl rfl)
  · show Tri _ _ _ _
    refine tri_le hle ?_
    refine tri_ret ?_
    have hy := Option.some.inj h
    subst hy
    unfold Gives
    exact ⟨_, Le.refl _ _, rfl, rfl⟩
def R_r09_ToRow (xs : List AV) (r : Ret) : Prop := ∃ (a0 : List Nd) (y0 : Nd), m_r09_ToRow a0 = some y0 ∧ xs = [.s (.sl 4 (Nd.encs a0))] ∧ r = .val (.agg ((Nd.enc y0).map .s))
def S_r09_ToRow : PSpec := pspec fun xs r => R_r09_ToRow xs r
set_option maxHeartbeats 2000000 in
set_option maxRecDepth 100000 in
theorem ok_r09_ToRow : PSound Try.prog 54 S_r09_ToRow := by
  have gok : ∀ (f : Nat) (s : PSpec), (fun _ => none : Nat → Option PSpec) f = some s → PSound Try.prog f s := fun _ _ h => by cases h
  refine psound tokW Try.call54 Try.func54 rfl (fun xs r h => by obtain ⟨_, _, _, rfl, _⟩ := h; show 1 ≤ 5; decide) 5 rfl ?_
  rintro xs r w0 G0 ⟨l1, y0, h, rfl, rfl⟩ _
  rw [m_r09_ToRow] at h
  refine tri_seq ?_
  refine tri_region (by exact tokW) (by exact gok) [2] [] rfl ?_
  show Tri _ _ _ _
  refine tri_seq ?_
  refine tri_region (by exact tokW) (by exact gok) [] [] rfl ?_
  show Tri _ _ _ _
  refine tri_ret ?_
  have hy := Option.some.inj h
  subst hy
  unfold Gives
  exact ⟨_, Le.refl _ _, rfl, rfl⟩
def R_r09_left (n : Nat) (xs : List AV) (r : Ret) : Prop := ∃ (a0 : Nd) (a1 : Int) (y0 : Int), m_r09_left n a0 a1 = some y0 ∧ xs = [.agg ((Nd.enc a0).map .s), .s (.int .i64 a1)] ∧ r = .val (.s (.int .i64 y0))
set_option maxHeartbeats 2000000 in
set_option maxRecDepth 100000 in
theorem step_r09_left (n : Nat) (ih : PSound Try.prog 55 (pspec (R_r09_left n))) : PSound Try.prog 55 (pspec (R_r09_left (n + 1))) := by
  have gok : ∀ f s, look? f [(55, pspec (R_r09_left n))] = some s → PSound Try.prog f s := look_all (by
    simp only [List.forall_mem_cons]
    exact ⟨ih, by simp⟩)
  refine psound tokW Try.call55 Try.func55 rfl (fun xs r h => by obtain ⟨_, _, _, _, rfl, _⟩ := h; show 2 ≤ 27; decide) 27 rfl ?_
  rintro xs r w0 G0 ⟨⟨n1_kind, n1_text, n1_cols, n1_kids⟩, most2, y0, h, rfl, rfl⟩ _
  rw [m_r09_left] at h
  refine tri_seq ?_
  refine tri_region (by exact tokW) (by exact gok) [] [] rfl ?_
  show Tri _ _ _ _
  refine tri_seq ?_
  refine tri_region (by exact tokW) (by exact gok) [] [] rfl ?_
  show Tri _ _ _ _
  refine tri_seq ?_
  refine tri_seq ?_
  refine tri_region (by exact tokW) (by exact gok) [] [] rfl ?_
  show Tri _ _ _ _
  obtain ⟨most5, hl, h⟩ := bind_out h
  refine tri_post ⟨ofL [(1, .s (.int .i64 most5))], fun _ => none, 0⟩ ?_ (fun σ' hle => ?_)
  · refine tri_block (tri_loopI (X := Nat × Int × Int) (fun y => match y with | (k, most3, i4) => ⟨ofL [(1, .s (.int .i64 most3)), (2, .s (.pt [.int .i64 n1_kind, .str n1_text, .int .i64 n1_cols, .sl 4 (Nd.encs n1_kids)])), (5, .s (.int .i64 i4))], fun _ => none, 0⟩) (fun y => m_r09_left_l1 (m_r09_left n) n1_kids y.1 y.2.1 y.2.2 = some most5) (fun y => y.1) (n, IntKind.i64.wrap (most2 - 1), 0) hl ?_ ?_)
    · exact (Le.forget _ ⟨rfl, rfl, rfl, trivial⟩)
    · rintro ⟨k, most3, i4⟩ h
      cases k with
      | zero => cases h
      | succ k =>
        replace h : m_r09_left_l1 (m_r09_left n) n1_kids (k+1) most3 i4 = some most5 := h
        rw [m_r09_left_l1] at h
        refine tri_seq ?_
        refine tri_seq ?_
        obtain ⟨x6, hj, h⟩ := bind_out h
        refine tri_post ⟨ofL [(1, .s (.int .i64 most3)), (2, .s (.pt [.int .i64 n1_kind, .str n1_text, .int .i64 n1_cols, .sl 4 (Nd.encs n1_kids)])), (5, .s (.int .i64 i4)), (16, .s (.bool x6))], fun _ => none, 0⟩ ?_ (fun σ' hle => ?_)
        · replace h := hj
          refine tri_region (by exact tokW) (by exact gok) [] [11, 13] rfl ?_
          intro n7 hn7
          obtain rfl : (n1_kids.length : Int) = n7 := (hn7.trans (congrArg (fun m : Nat => (m : Int)) (rlen Nd.encs_eq n1_kids))).symm
          intro b hb
          cases b with
          | true =>
            replace h := bif_t hb.symm h
            cases h
            exact (Le.forget _ ⟨rfl, rfl, rfl, rfl, trivial⟩)
          | false =>
            replace h := bif_f hb.symm h
            cases h
            exact (Le.forget _ ⟨rfl, rfl, rfl, rfl, trivial⟩)
        · show Tri _ _ _ _
          refine tri_le hle ?_
          refine tri_cond rfl (fun hb => ?_) (fun hb => ?_)
          · replace h := bif_t hb h
            refine tri_skip ?_
            show Tri _ _ _ _
            refine tri_seq ?_
            refine tri_block ?_
            refine tri_region (by exact tokW) (by exact gok) [] [22] rfl ?_
            obtain ⟨⟨e8_kind, e8_text, e8_cols, e8_kids⟩, he8, h⟩ := bind_out h
            refine And.intro (at_ok Nd.encs_eq he8).1 ?_
            intro r9 hr9
            obtain rfl : [.int .i64 e8_kind, .str e8_text, .int .i64 e8_cols, .sl 4 (Nd.encs e8_kids)] = r9 := (hr9.trans (at_ok Nd.encs_eq he8).2.1).symm
            obtain ⟨y10, hy10, h⟩ := bind_out h
            refine ⟨_, ⟨_, _, _, hy10, rfl, rfl⟩, ?_⟩
            show Tri _ _ _ _
            refine tri_region (by exact tokW) (by exact gok) [] [] rfl ?_
            refine ⟨(k, y10, IntKind.i64.wrap (i4 + 1)), h, (Le.forget _ ⟨rfl, rfl, rfl, trivial⟩), Nat.lt_succ_self k⟩
          · replace h := bif_f hb h
            refine tri_exit ?_
            cases h
            exact (Le.forget _ ⟨rfl, trivial⟩)
  · show Tri _ _ _ _
    refine tri_le hle ?_
    refine tri_seq ?_
    refine tri_region (by exact tokW) (by exact gok) [] [] rfl ?_
    show Tri _ _ _ _
    refine tri_ret ?_
    have hy := Option.some.inj h
    subst hy
    unfold Gives
    exact ⟨_, Le.refl _ _, rfl, rfl⟩
theorem all_r09_left : ∀ n, PSound Try.prog 55 (pspec (R_r09_left n)) := by
  intro n
  induction n with
  | zero => exact psound_none Try.call55 (fun xs r h => by obtain ⟨_, _, _, h, _⟩ := h; cases h)
  | succ n ih => exact step_r09_left n ih
def S_r09_left : PSpec := pspec fun xs r => ∃ n, R_r09_left n xs r
theorem ok_r09_left : PSound Try.prog 55 S_r09_left := psound_all all_r09_left
def R_r09_Few (n : Nat) (xs : List AV) (r : Ret) : Prop := ∃ (a0 : Nd) (a1 : Int) (y0 : Bool), m_r09_Few n a0 a1 = some y0 ∧ xs = [.agg ((Nd.enc a0).map .s), .s (.int .i64 a1)] ∧ r = .val (.s (.bool y0))
def S_r09_Few : PSpec := pspec fun xs r => ∃ n, R_r09_Few n xs r
set_option maxHeartbeats 2000000 in
set_option maxRecDepth 100000 in
theorem ok_r09_Few : PSound Try.prog 34 S_r09_Few := by
  have gok : ∀ f s, look? f [(55, S_r09_left)] = some s → PSound Try.prog f s := look_all (by
    simp only [List.forall_mem_cons]
    exact ⟨ok_r09_left, by simp⟩)
  refine psound tokW Try.call34 Try.func34 rfl (fun xs r h => by obtain ⟨n, _, _, _, _, rfl, _⟩ := h; show 2 ≤ 9; decide) 9 rfl ?_
  rintro xs r w0 G0 ⟨n, ⟨n1_kind, n1_text, n1_cols, n1_kids⟩, most2, y0, h, rfl, rfl⟩ _
  rw [m_r09_Few] at h
  refine tri_seq ?_
  refine tri_region (by exact tokW) (by exact gok) [] [] rfl ?_
  show Tri _ _ _ _
  refine tri_seq ?_
  refine tri_region (by exact tokW) (by exact gok) [] [] rfl ?_
  obtain ⟨y3, hy3, h⟩ := bind_out h
  refine ⟨_, ⟨_, _, _, _, hy3, rfl, rfl⟩, ?_⟩
  show Tri _ _ _ _
  refine tri_ret ?_
  have hy := Option.some.inj h
  subst hy
  unfold Gives
  exact ⟨_, Le.refl _ _, rfl, rfl⟩
def R_r12_Few (n : Nat) (xs : List AV) (r : Ret) : Prop := ∃ (a0 : (Int × List Int × Int × Int × List Nd × Int × List UInt8 × List UInt8)) (y0 : Bool), m_r12_Few n a0 = some y0 ∧ xs = [.agg ((enc_api_Op a0).map .s)] ∧ r = .val (.s (.bool y0))
def S_r12_Few : PSpec := pspec fun xs r => ∃ n, R_r12_Few n xs r
set_option maxHeartbeats 2000000 in
set_option maxRecDepth 100000 in
theorem ok_r12_Few : PSound Try.prog 33 S_r12_Few := by
  have gok : ∀ f s, look? f [(54, S_r09_ToRow), (34, S_r09_Few)] = some s → PSound Try.prog f s := look_all (by
    simp only [List.forall_mem_cons]
    exact ⟨ok_r09_ToRow, ok_r09_Few, by simp⟩)
  refine psound tokW Try.call33 Try.func33 rfl (fun xs r h => by obtain ⟨n, _, _, _, rfl, _⟩ := h; show 1 ≤ 13; decide) 13 rfl ?_
  rintro xs r w0 G0 ⟨n, ⟨op1_kind, op1_row, op1_at, op1_n, op1_nodes, op1_slot, op1_old, op1_text⟩, y0, h, rfl, rfl⟩ _
  rw [m_r12_Few] at h
  refine tri_seq ?_
  refine tri_region (by exact tokW) (by exact gok) [] [] rfl ?_
  show Tri _ _ _ _
  refine tri_seq ?_
  obtain ⟨x2, hj, h⟩ := bind_out h
  refine tri_post ⟨ofL [(2, .s (.bool x2))], fun _ => none, 0⟩ ?_ (fun σ' hle => ?_)
  · replace h := hj
    refine tri_region (by exact tokW) (by exact gok) [] [7, 10] rfl ?_
    obtain ⟨⟨y3_kind, y3_text, y3_cols, y3_kids⟩, hy3, h⟩ := bind_out h
    refine ⟨_, ⟨_, _, hy3, rfl, rfl⟩, ?_⟩
    obtain ⟨y4, hy4, h⟩ := bind_out h
    refine ⟨_, ⟨_, _, _, _, hy4, rfl, rfl⟩, ?_⟩
    intro b hb
    cases b with
    | true =>
      replace h := bif_t hb.symm h
      intro n5 hn5
      obtain rfl : (op1_row.length : Int) = n5 := (hn5.trans (congrArg (fun m : Nat => (m : Int)) (rlen (fun _ => rfl) op1_row))).symm
      cases h
      exact (Le.forget _ ⟨rfl, trivial⟩)
    | false =>
      replace h := bif_f hb.symm h
      cases h
      exact (Le.forget _ ⟨rfl, trivial⟩)
  · show Tri _ _ _ _
    refine tri_le hle ?_
    refine tri_ret ?_
    have hy := Option.some.inj h
    subst hy
    unfold Gives
    exact ⟨_, Le.refl _ _, rfl, rfl⟩
def R_l12_few (n : Nat) (xs : List AV) (r : Ret) : Prop := ∃ (a0 : Nd) (a1 : List (Int × List Int × Int × Int × List Nd × Int × List UInt8 × List UInt8)) (y0 : Bool), m_l12_few n a0 a1 = some y0 ∧ xs = [.agg ((Nd.enc a0).map .s), .s (.sl 8 ((List.map enc_api_Op) a1))] ∧ r = .val (.s (.bool y0))
def S_l12_few : PSpec := pspec fun xs r => ∃ n, R_l12_few n xs r
set_option maxHeartbeats 2000000 in
set_option maxRecDepth 100000 in
theorem ok_l12_few : PSound Try.prog 12 S_l12_few := by
  have gok : ∀ f s, look? f [(33, S_r12_Few), (34, S_r09_Few)] = some s → PSound Try.prog f s := look_all (by
    simp only [List.forall_mem_cons]
    exact ⟨ok_r12_Few, ok_r09_Few, by simp⟩)
  refine psound tokW Try.call12 Try.func12 rfl (fun xs r h => by obtain ⟨n, _, _, _, _, rfl, _⟩ := h; show 2 ≤ 24; decide) 24 rfl ?_
  rintro xs r w0 G0 ⟨n, ⟨n1_kind, n1_text, n1_cols, n1_kids⟩, ops2, y0, h, rfl, rfl⟩ _
  rw [m_l12_few] at h
  refine tri_seq ?_
  refine tri_region (by exact tokW) (by exact gok) [] [] rfl ?_
  show Tri _ _ _ _
  refine tri_seq ?_
  refine tri_seq ?_
  refine tri_region (by exact tokW) (by exact gok) [] [8] rfl ?_
  intro n3 hn3
  obtain rfl : (ops2.length : Int) = n3 := (hn3.trans (congrArg (fun m : Nat => (m : Int)) (rlen (fun _ => rfl) ops2))).symm
  show Tri _ _ _ _
  obtain ⟨fl, hl, ho1⟩ := bind_out h
  refine tri_fl (fl := fl) (fun z => match z with | _ => ⟨ofL [(1, .s (.sl 8 ((List.map enc_api_Op) ops2))), (2, .s (.pt [.int .i64 n1_kind, .str n1_text, .int .i64 n1_cols, .sl 4 (Nd.encs n1_kids)]))], fun _ => none, 0⟩) ?_ (fun z σ' hz hle => ?_)
  · refine tri_block (tri_loopI (X := Nat × Int) (fun y => match y with | (k, x4) => ⟨ofL [(1, .s (.sl 8 ((List.map enc_api_Op) ops2))), (2, .s (.pt [.int .i64 n1_kind, .str n1_text, .int .i64 n1_cols, .sl 4 (Nd.encs n1_kids)])), (7, .s (.sl 8 ((List.map enc_api_Op) ops2))), (8, .s (.int .i64 (ops2.length : Int))), (9, .s (.int .i64 x4))], fun _ => none, 0⟩) (fun y => m_l12_few_l1 n ops2 y.1 y.2 = some fl) (fun y => y.1) (n, 0) hl ?_ ?_)
    · exact (Le.forget _ ⟨rfl, rfl, rfl, rfl, rfl, trivial⟩)
    · rintro ⟨k, x4⟩ h
      cases k with
      | zero => cases h
      | succ k =>
        replace h : m_l12_few_l1 n ops2 (k+1) x4 = some fl := h
        rw [m_l12_few_l1] at h
        refine tri_seq ?_
        refine tri_region (by exact tokW) (by exact gok) [] [] rfl ?_
        show Tri _ _ _ _
        refine tri_seq ?_
        refine tri_cond rfl (fun hb => ?_) (fun hb => ?_)
        · replace h := bif_t hb h
          refine tri_skip ?_
          show Tri _ _ _ _
          refine tri_seq ?_
          refine tri_block ?_
          refine tri_seq ?_
          refine tri_region (by exact tokW) (by exact gok) [6] [11] rfl ?_
          obtain ⟨⟨e5_kind, e5_row, e5_at, e5_n, e5_nodes, e5_slot, e5_old, e5_text⟩, he5, h⟩ := bind_out h
          refine And.intro (at_ok (fun _ => rfl) he5).1 ?_
          intro r6 hr6
          obtain rfl : [.int .i64 e5_kind, .sl 1 ((List.map (irow .i64)) e5_row), .int .i64 e5_at, .int .i64 e5_n, .sl 4 (Nd.encs e5_nodes), .int .i64 e5_slot, .str e5_old, .str e5_text] = r6 := (hr6.trans (at_ok (fun _ => rfl) he5).2.1).symm
          show Tri _ _ _ _
          refine tri_le (Le.giveBox 0 [.int .i64 e5_kind, .sl 1 ((List.map (irow .i64)) e5_row), .int .i64 e5_at, .int .i64 e5_n, .sl 4 (Nd.encs e5_nodes), .int .i64 e5_slot, .str e5_old, .str e5_text] rfl rfl) ?_
          refine tri_seq ?_
          refine tri_region (by exact tokW) (by exact gok) [] [] rfl ?_
          obtain ⟨y7, hy7, h⟩ := bind_out h
          refine ⟨_, ⟨_, _, _, hy7, rfl, rfl⟩, ?_⟩
          show Tri _ _ _ _
          refine tri_cond rfl (fun hb => ?_) (fun hb => ?_)
          · replace h := bif_t hb h
            refine tri_seq ?_
            refine tri_region (by exact tokW) (by exact gok) [] [] rfl ?_
            show Tri _ _ _ _
            refine tri_ret ?_
            cases h
            replace h : some _ = some _ := ho1
            have hy := Option.some.inj h
            subst hy
            unfold Gives
            exact ⟨_, Le.refl _ _, rfl, rfl⟩
          · replace h := bif_f hb h
            refine tri_skip ?_
            show Tri _ _ _ _
            refine tri_region (by exact tokW) (by exact gok) [] [] rfl ?_
            refine ⟨(k, IntKind.i64.wrap (x4 + 1)), h, (Le.rename [] _ [] 0 ⟨rfl, rfl, rfl, rfl, rfl, trivial⟩ trivial rfl rfl rfl rfl rfl), Nat.lt_succ_self k⟩
        · replace h := bif_f hb h
          refine tri_exit ?_
          cases h
          exact ⟨_, rfl, (Le.forget _ ⟨rfl, rfl, trivial⟩)⟩
  · subst hz
    obtain _ := z
    replace h := ho1
    show Tri _ _ _ _
    refine tri_le hle ?_
    refine tri_seq ?_
    obtain ⟨x8, hj, h⟩ := bind_out h
    refine tri_post ⟨ofL [(4, .s (.bool x8))], fun _ => none, 0⟩ ?_ (fun σ' hle => ?_)
    · replace h := hj
      refine tri_region (by exact tokW) (by exact gok) [] [19, 21] rfl ?_
      obtain ⟨y9, hy9, h⟩ := bind_out h
      refine ⟨_, ⟨_, _, _, _, hy9, rfl, rfl⟩, ?_⟩
      intro b hb
      cases b with
      | true =>
        replace h := bif_t hb.symm h
        intro n10 hn10
        obtain rfl : (ops2.length : Int) = n10 := (hn10.trans (congrArg (fun m : Nat => (m : Int)) (rlen (fun _ => rfl) ops2))).symm
        cases h
        exact (Le.forget _ ⟨rfl, trivial⟩)
      | false =>
        replace h := bif_f hb.symm h
        cases h
        exact (Le.forget _ ⟨rfl, trivial⟩)
    · show Tri _ _ _ _
      refine tri_le hle ?_
      refine tri_ret ?_
      have hy := Option.some.inj h
      subst hy
      unfold Gives
      exact ⟨_, Le.refl _ _, rfl, rfl⟩
def enc_string (p : List UInt8) : List S := [.str p]
end Go.Proofs.Ytfbggpmdmhgpfaa
namespace Go.Proofs.Ytfbggpmdmhgpfaa
open Go.Abs
def m_r12_Same_l1 (a1_row : List Int) (a2_row : List Int) : Nat → Int → Option (Fl Bool Unit)
| 0, _ => none
| k+1, x6 =>
  bif decide (x6 < (a1_row.length : Int)) then (
    (at? a1_row x6).bind fun e8 =>
    (at? a2_row x6).bind fun e10 =>
    bif (e8 != e10) then (
      some (.ret false)
    ) else (
      m_r12_Same_l1 a1_row a2_row k (IntKind.i64.wrap (x6 + 1))
    )
  ) else (
    some (.go ())
  )
def m_r12_Same (n : Nat) : (Int × List Int × Int × Int × List Nd × Int × List UInt8 × List UInt8) → (Int × List Int × Int × Int × List Nd × Int × List UInt8 × List UInt8) → Option Bool
| ⟨a1_kind, a1_row, a1_at, a1_n, a1_nodes, a1_slot, a1_old, a1_text⟩, ⟨a2_kind, a2_row, a2_at, a2_n, a2_nodes, a2_slot, a2_old, a2_text⟩ =>
  (
    bif (a1_kind != a2_kind) then (
      some true
    ) else (
      bif (a1_at != a2_at) then (
        some true
      ) else (
        bif (a1_n != a2_n) then (
          some true
        ) else (
          bif (a1_slot != a2_slot) then (
            some true
          ) else (
            bif (!(a1_old == a2_old)) then (
              some true
            ) else (
              bif (!(a1_text == a2_text)) then (
                some true
              ) else (
                some ((a1_row.length : Int) != (a2_row.length : Int))
              )
            )
          )
        )
      )
    )
   : Option (Bool)).bind fun x3 =>
  bif x3 then (
    some false
  ) else (
    (m_r12_Same_l1 a1_row a2_row n 0).bind fun fl => match fl with
    | .ret r => some r
    | .go _ =>
      (m_r09_SameItems n a1_nodes a2_nodes).bind fun y12 =>
      some y12
  )
def m_r12_Invert : (Int × List Int × Int × Int × List Nd × Int × List UInt8 × List UInt8) → Option (Int × List Int × Int × Int × List Nd × Int × List UInt8 × List UInt8)
| ⟨op1_kind, op1_row, op1_at, op1_n, op1_nodes, op1_slot, op1_old, op1_text⟩ =>
  (
    bif (op1_kind == 1) then (
      some (2, op1_old, op1_text)
    ) else (
      bif (op1_kind == 2) then (
        some (1, op1_old, op1_text)
      ) else (
        bif (op1_kind == 3) then (
          some (4, op1_old, op1_text)
        ) else (
          bif (op1_kind == 4) then (
            some (3, op1_old, op1_text)
          ) else (
            bif (op1_kind == 5) then (
              some (op1_kind, op1_text, op1_old)
            ) else (
              some (op1_kind, op1_old, op1_text)
            )
          )
        )
      )
    )
   : Option (Int × (List UInt8) × (List UInt8))).bind fun ⟨x2, x3, x4⟩ =>
  some (x2, op1_row, op1_at, op1_n, op1_nodes, op1_slot, x3, x4)
def m_r12_SameAll_l1 (n : Nat) (a1 : List (Int × List Int × Int × Int × List Nd × Int × List UInt8 × List UInt8)) (b2 : List (Int × List Int × Int × Int × List Nd × Int × List UInt8 × List UInt8)) : Nat → Int → Option (Fl Bool Unit)
| 0, _ => none
| k+1, i5 =>
  bif decide (i5 < (a1.length : Int)) then (
    (at? a1 i5).bind fun ⟨e7_kind, e7_row, e7_at, e7_n, e7_nodes, e7_slot, e7_old, e7_text⟩ =>
    (at? b2 i5).bind fun ⟨e9_kind, e9_row, e9_at, e9_n, e9_nodes, e9_slot, e9_old, e9_text⟩ =>
    (m_r12_Same n (e7_kind, e7_row, e7_at, e7_n, e7_nodes, e7_slot, e7_old, e7_text) (e9_kind, e9_row, e9_at, e9_n, e9_nodes, e9_slot, e9_old, e9_text)).bind fun y11 =>
    bif (!y11) then (
      some (.ret false)
    ) else (
      m_r12_SameAll_l1 n a1 b2 k (IntKind.i64.wrap (i5 + 1))
    )
  ) else (
    some (.go ())
  )
def m_r12_SameAll (n : Nat) : (List (Int × List Int × Int × Int × List Nd × Int × List UInt8 × List UInt8)) → (List (Int × List Int × Int × Int × List Nd × Int × List UInt8 × List UInt8)) → Option Bool
| a1, b2 =>
  bif ((a1.length : Int) != (b2.length : Int)) then (
    some false
  ) else (
    (m_r12_SameAll_l1 n a1 b2 n 0).bind fun fl => match fl with
    | .ret r => some r
    | .go _ =>
      some true
  )
def m_r12_InvertAll_l1 (ops1 : List (Int × List Int × Int × Int × List Nd × Int × List UInt8 × List UInt8)) : Nat → Int → (List (Int × List Int × Int × Int × List Nd × Int × List UInt8 × List UInt8)) → Option ((List (Int × List Int × Int × Int × List Nd × Int × List UInt8 × List UInt8)))
| 0, _, _ => none
| k+1, i4, l5 =>
  bif decide (0 ≤ i4) then (
    (at? ops1 i4).bind fun ⟨e7_kind, e7_row, e7_at, e7_n, e7_nodes, e7_slot, e7_old, e7_text⟩ =>
    (m_r12_Invert (e7_kind, e7_row, e7_at, e7_n, e7_nodes, e7_slot, e7_old, e7_text)).bind fun ⟨y9_kind, y9_row, y9_at, y9_n, y9_nodes, y9_slot, y9_old, y9_text⟩ =>
    req (l5.length + [(y9_kind, y9_row, y9_at, y9_n, y9_nodes, y9_slot, y9_old, y9_text)].length ≤ 4294967296) <|
    m_r12_InvertAll_l1 ops1 k (IntKind.i64.wrap (i4 - 1)) (l5 ++ [(y9_kind, y9_row, y9_at, y9_n, y9_nodes, y9_slot, y9_old, y9_text)])
  ) else (
    some l5
  )
def m_r12_InvertAll (n : Nat) : (List (Int × List Int × Int × Int × List Nd × Int × List UInt8 × List UInt8)) → Option (List (Int × List Int × Int × Int × List Nd × Int × List UInt8 × List UInt8))
| ops1 =>
  (m_r12_InvertAll_l1 ops1 n (IntKind.i64.wrap ((ops1.length : Int) - 1)) []).bind fun l6 =>
  some l6
def m_l12_EditInvert_l1 (n : Nat) (ops1 : List (Int × List Int × Int × Int × List Nd × Int × List UInt8 × List UInt8)) : Nat → Int → Option (Fl Bool Unit)
| 0, _ => none
| k+1, x7 =>
  bif decide (x7 < (ops1.length : Int)) then (
    (at? ops1 x7).bind fun ⟨e8_kind, e8_row, e8_at, e8_n, e8_nodes, e8_slot, e8_old, e8_text⟩ =>
    (m_edit_Invert n (e8_kind, e8_row, e8_at, e8_n, e8_nodes, e8_slot, e8_old, e8_text)).bind fun ⟨y10_kind, y10_row, y10_at, y10_n, y10_nodes, y10_slot, y10_old, y10_text⟩ =>
    (
      (m_r12_Invert (e8_kind, e8_row, e8_at, e8_n, e8_nodes, e8_slot, e8_old, e8_text)).bind fun ⟨y12_kind, y12_row, y12_at, y12_n, y12_nodes, y12_slot, y12_old, y12_text⟩ =>
      (m_r12_Same n (y10_kind, y10_row, y10_at, y10_n, y10_nodes, y10_slot, y10_old, y10_text) (y12_kind, y12_row, y12_at, y12_n, y12_nodes, y12_slot, y12_old, y12_text)).bind fun y13 =>
      bif (!y13) then (
        some true
      ) else (
        (m_edit_Invert n (y10_kind, y10_row, y10_at, y10_n, y10_nodes, y10_slot, y10_old, y10_text)).bind fun ⟨y14_kind, y14_row, y14_at, y14_n, y14_nodes, y14_slot, y14_old, y14_text⟩ =>
        (m_r12_Same n (y14_kind, y14_row, y14_at, y14_n, y14_nodes, y14_slot, y14_old, y14_text) (e8_kind, e8_row, e8_at, e8_n, e8_nodes, e8_slot, e8_old, e8_text)).bind fun y15 =>
        some (!y15)
      )
     : Option (Bool)).bind fun x11 =>
    bif x11 then (
      some (.ret false)
    ) else (
      m_l12_EditInvert_l1 n ops1 k (IntKind.i64.wrap (x7 + 1))
    )
  ) else (
    some (.go ())
  )
def m_l12_EditInvert (n : Nat) : (List (Int × List Int × Int × Int × List Nd × Int × List UInt8 × List UInt8)) → Option Bool
| ops1 =>
  (
    (m_l12_awake n ).bind fun y3 =>
    bif (!y3) then (
      some true
    ) else (
      (m_l12_few n (Nd.mk 0 [] 0 []) ops1).bind fun y4 =>
      some (!y4)
    )
   : Option (Bool)).bind fun x2 =>
  bif x2 then (
    (m_l12_awake n ).bind fun y5 =>
    some y5
  ) else (
    (m_l12_EditInvert_l1 n ops1 n 0).bind fun fl => match fl with
    | .ret r => some r
    | .go _ =>
      (m_edit_InvertAll n ops1).bind fun y16 =>
      (m_r12_InvertAll n ops1).bind fun y17 =>
      (m_r12_SameAll n y16 y17).bind fun y18 =>
      some y18
  )
def m_l12_EditUndoAll (n : Nat) : Nd → (List (Int × List Int × Int × Int × List Nd × Int × List UInt8 × List UInt8)) → Option Bool
| ⟨n1_kind, n1_text, n1_cols, n1_kids⟩, ops2 =>
  (
    (m_l12_awake n ).bind fun y4 =>
    bif (!y4) then (
      some true
    ) else (
      (m_l12_few n (Nd.mk n1_kind n1_text n1_cols n1_kids) ops2).bind fun y5 =>
      some (!y5)
    )
   : Option (Bool)).bind fun x3 =>
  bif x3 then (
    (m_l12_awake n ).bind fun y6 =>
    some y6
  ) else (
    (m_edit_ApplyAll n (Nd.mk n1_kind n1_text n1_cols n1_kids) ops2).bind fun ⟨⟨y7_kind, y7_text, y7_cols, y7_kids⟩, y8, y9⟩ =>
    bif (y9 != 0) then (
      some true
    ) else (
      (m_edit_InvertAll n ops2).bind fun y10 =>
      (m_edit_ApplyAll n (Nd.mk y7_kind y7_text y7_cols y7_kids) y10).bind fun ⟨⟨y11_kind, y11_text, y11_cols, y11_kids⟩, y12, y13⟩ =>
      (
        bif (y13 == 0) then (
          (m_r09_Equal n (Nd.mk y11_kind y11_text y11_cols y11_kids) (Nd.mk n1_kind n1_text n1_cols n1_kids)).bind fun y15 =>
          some y15
        ) else (
          some false
        )
       : Option (Bool)).bind fun x14 =>
      some x14
    )
  )
end Go.Proofs.Ytfbggpmdmhgpfaa
namespace Go.Proofs.Ytfbggpmdmhgpfaa
open Go.Abs
def R_r12_Same (n : Nat) (xs : List AV) (r : Ret) : Prop := ∃ (a0 : (Int × List Int × Int × Int × List Nd × Int × List UInt8 × List UInt8)) (a1 : (Int × List Int × Int × Int × List Nd × Int × List UInt8 × List UInt8)) (y0 : Bool), m_r12_Same n a0 a1 = some y0 ∧ xs = [.agg ((enc_api_Op a0).map .s), .agg ((enc_api_Op a1).map .s)] ∧ r = .val (.s (.bool y0))
def S_r12_Same : PSpec := pspec fun xs r => ∃ n, R_r12_Same n xs r
set_option maxHeartbeats 2000000 in
set_option maxRecDepth 100000 in
theorem ok_r12_Same : PSound Try.prog 27 S_r12_Same := by
  have gok : ∀ f s, look? f [(40, S_r09_SameItems)] = some s → PSound Try.prog f s := look_all (by
    simp only [List.forall_mem_cons]
    exact ⟨ok_r09_SameItems, by simp⟩)
  refine psound tokW Try.call27 Try.func27 rfl (fun xs r h => by obtain ⟨n, _, _, _, _, rfl, _⟩ := h; show 2 ≤ 78; decide) 78 rfl ?_
  rintro xs r w0 G0 ⟨n, ⟨a1_kind, a1_row, a1_at, a1_n, a1_nodes, a1_slot, a1_old, a1_text⟩, ⟨a2_kind, a2_row, a2_at, a2_n, a2_nodes, a2_slot, a2_old, a2_text⟩, y0, h, rfl, rfl⟩ _
  rw [m_r12_Same] at h
  refine tri_seq ?_
  refine tri_region (by exact tokW) (by exact gok) [] [] rfl ?_
  show Tri _ _ _ _
  refine tri_seq ?_
  refine tri_seq ?_
  obtain ⟨x3, hj, h⟩ := bind_out h
  refine tri_post ⟨ofL [(2, .s (.pt [.int .i64 a1_kind, .sl 1 ((List.map (irow .i64)) a1_row), .int .i64 a1_at, .int .i64 a1_n, .sl 4 (Nd.encs a1_nodes), .int .i64 a1_slot, .str a1_old, .str a1_text])), (3, .s (.pt [.int .i64 a2_kind, .sl 1 ((List.map (irow .i64)) a2_row), .int .i64 a2_at, .int .i64 a2_n, .sl 4 (Nd.encs a2_nodes), .int .i64 a2_slot, .str a2_old, .str a2_text])), (54, .s (.bool x3))], fun _ => none, 0⟩ ?_ (fun σ' hle => ?_)
  · replace h := hj
    refine tri_region (by exact tokW) (by exact gok) [] [11, 18, 25, 32, 39, 46, 49, 52] rfl ?_
    intro b hb
    cases b with
    | true =>
      replace h := bif_t hb.symm h
      intro b hb
      subst hb
      intro b hb
      subst hb
      intro b hb
      subst hb
      intro b hb
      subst hb
      intro b hb
      subst hb
      cases h
      exact (Le.forget _ ⟨rfl, rfl, rfl, trivial⟩)
    | false =>
      replace h := bif_f hb.symm h
      intro b hb
      cases b with
      | true =>
        replace h := bif_t hb.symm h
        intro b hb
        subst hb
        intro b hb
        subst hb
        intro b hb
        subst hb
        intro b hb
        subst hb
        cases h
        exact (Le.forget _ ⟨rfl, rfl, rfl, trivial⟩)
      | false =>
        replace h := bif_f hb.symm h
        intro b hb
        cases b with
        | true =>
          replace h := bif_t hb.symm h
          intro b hb
          subst hb
          intro b hb
          subst hb
          intro b hb
          subst hb
          cases h
          exact (Le.forget _ ⟨rfl, rfl, rfl, trivial⟩)
        | false =>
          replace h := bif_f hb.symm h
          intro b hb
          cases b with
          | true =>
            replace h := bif_t hb.symm h
            intro b hb
            subst hb
            intro b hb
            subst hb
            cases h
            exact (Le.forget _ ⟨rfl, rfl, rfl, trivial⟩)
          | false =>
            replace h := bif_f hb.symm h
            intro b hb
            cases b with
            | true =>
              replace h := bif_t hb.symm h
              intro b hb
              subst hb
              cases h
              exact (Le.forget _ ⟨rfl, rfl, rfl, trivial⟩)
            | false =>
              replace h := bif_f hb.symm h
              intro b hb
              cases b with
              | true =>
                replace h := bif_t hb.symm h
                cases h
                exact (Le.forget _ ⟨rfl, rfl, rfl, trivial⟩)
              | false =>
                replace h := bif_f hb.symm h
                intro n4 hn4
                obtain rfl : (a1_row.length : Int) = n4 := (hn4.trans (congrArg (fun m : Nat => (m : Int)) (rlen (fun _ => rfl) a1_row))).symm
                intro n5 hn5
                obtain rfl : (a2_row.length : Int) = n5 := (hn5.trans (congrArg (fun m : Nat => (m : Int)) (rlen (fun _ => rfl) a2_row))).symm
                cases h
                exact (Le.forget _ ⟨rfl, rfl, rfl, trivial⟩)
  · show Tri _ _ _ _
    refine tri_le hle ?_
    refine tri_cond rfl (fun hb => ?_) (fun hb => ?_)
    · replace h := bif_t hb h
      refine tri_seq ?_
      refine tri_region (by exact tokW) (by exact gok) [] [] rfl ?_
      show Tri _ _ _ _
      refine tri_ret ?_
      have hy := Option.some.inj h
      subst hy
      unfold Gives
      exact ⟨_, Le.refl _ _, rfl, rfl⟩
    · replace h := bif_f hb h
      refine tri_skip ?_
      show Tri _ _ _ _
      refine tri_seq ?_
      refine tri_seq ?_
      refine tri_region (by exact tokW) (by exact gok) [] [] rfl ?_
      show Tri _ _ _ _
      obtain ⟨fl, hl, ho1⟩ := bind_out h
      refine tri_fl (fl := fl) (fun z => match z with | _ => ⟨ofL [(2, .s (.pt [.int .i64 a1_kind, .sl 1 ((List.map (irow .i64)) a1_row), .int .i64 a1_at, .int .i64 a1_n, .sl 4 (Nd.encs a1_nodes), .int .i64 a1_slot, .str a1_old, .str a1_text])), (3, .s (.pt [.int .i64 a2_kind, .sl 1 ((List.map (irow .i64)) a2_row), .int .i64 a2_at, .int .i64 a2_n, .sl 4 (Nd.encs a2_nodes), .int .i64 a2_slot, .str a2_old, .str a2_text]))], fun _ => none, 0⟩) ?_ (fun z σ' hz hle => ?_)
      · refine tri_block (tri_loopI (X := Nat × Int) (fun y => match y with | (k, x6) => ⟨ofL [(2, .s (.pt [.int .i64 a1_kind, .sl 1 ((List.map (irow .i64)) a1_row), .int .i64 a1_at, .int .i64 a1_n, .sl 4 (Nd.encs a1_nodes), .int .i64 a1_slot, .str a1_old, .str a1_text])), (3, .s (.pt [.int .i64 a2_kind, .sl 1 ((List.map (irow .i64)) a2_row), .int .i64 a2_at, .int .i64 a2_n, .sl 4 (Nd.encs a2_nodes), .int .i64 a2_slot, .str a2_old, .str a2_text])), (5, .s (.int .i64 x6))], fun _ => none, 0⟩) (fun y => m_r12_Same_l1 a1_row a2_row y.1 y.2 = some fl) (fun y => y.1) (n, 0) hl ?_ ?_)
        · exact (Le.forget _ ⟨rfl, rfl, rfl, trivial⟩)
        · rintro ⟨k, x6⟩ h
          cases k with
          | zero => cases h
          | succ k =>
            replace h : m_r12_Same_l1 a1_row a2_row (k+1) x6 = some fl := h
            rw [m_r12_Same_l1] at h
            refine tri_seq ?_
            refine tri_seq ?_
            refine tri_region (by exact tokW) (by exact gok) [] [58] rfl ?_
            intro n7 hn7
            obtain rfl : (a1_row.length : Int) = n7 := (hn7.trans (congrArg (fun m : Nat => (m : Int)) (rlen (fun _ => rfl) a1_row))).symm
            show Tri _ _ _ _
            refine tri_cond rfl (fun hb => ?_) (fun hb => ?_)
            · replace h := bif_t hb h
              refine tri_skip ?_
              show Tri _ _ _ _
              refine tri_seq ?_
              refine tri_block ?_
              refine tri_seq ?_
              refine tri_drawn (by exact tokW) (by exact gok) (by exact mixed) [] [65, 70] [] rfl (by decide +kernel) ?_
              obtain ⟨e8, he8, h⟩ := bind_out h
              refine And.intro (at_ok (fun _ => rfl) he8).1 ?_
              intro r9 hr9
              obtain rfl : [.int .i64 e8] = r9 := (hr9.trans (at_ok (fun _ => rfl) he8).2.1).symm
              obtain ⟨e10, he10, h⟩ := bind_out h
              refine And.intro (at_ok (fun _ => rfl) he10).1 ?_
              intro r11 hr11
              obtain rfl : [.int .i64 e10] = r11 := (hr11.trans (at_ok (fun _ => rfl) he10).2.1).symm
              show Tri _ _ _ _
              refine tri_cond rfl (fun hb => ?_) (fun hb => ?_)
              · replace h := bif_t hb h
                refine tri_seq ?_
                refine tri_region (by exact tokW) (by exact gok) [] [] rfl ?_
                show Tri _ _ _ _
                refine tri_ret ?_
                cases h
                replace h : some _ = some _ := ho1
                have hy := Option.some.inj h
                subst hy
                unfold Gives
                exact ⟨_, Le.refl _ _, rfl, rfl⟩
              · replace h := bif_f hb h
                refine tri_skip ?_
                show Tri _ _ _ _
                refine tri_region (by exact tokW) (by exact gok) [] [] rfl ?_
                refine ⟨(k, IntKind.i64.wrap (x6 + 1)), h, (Le.forget _ ⟨rfl, rfl, rfl, trivial⟩), Nat.lt_succ_self k⟩
            · replace h := bif_f hb h
              refine tri_exit ?_
              cases h
              exact ⟨_, rfl, (Le.forget _ ⟨rfl, rfl, trivial⟩)⟩
      · subst hz
        obtain _ := z
        replace h := ho1
        show Tri _ _ _ _
        refine tri_le hle ?_
        refine tri_seq ?_
        refine tri_region (by exact tokW) (by exact gok) [] [] rfl ?_
        obtain ⟨y12, hy12, h⟩ := bind_out h
        refine ⟨_, ⟨_, _, _, _, hy12, rfl, rfl⟩, ?_⟩
        show Tri _ _ _ _
        refine tri_ret ?_
        have hy := Option.some.inj h
        subst hy
        unfold Gives
        exact ⟨_, Le.refl _ _, rfl, rfl⟩
def R_r12_Invert (xs : List AV) (r : Ret) : Prop := ∃ (a0 : (Int × List Int × Int × Int × List Nd × Int × List UInt8 × List UInt8)) (y0 : (Int × List Int × Int × Int × List Nd × Int × List UInt8 × List UInt8)), m_r12_Invert a0 = some y0 ∧ xs = [.agg ((enc_api_Op a0).map .s)] ∧ r = .val (.agg ((enc_api_Op y0).map .s))
def S_r12_Invert : PSpec := pspec fun xs r => R_r12_Invert xs r
set_option maxHeartbeats 2000000 in
set_option maxRecDepth 100000 in
theorem ok_r12_Invert : PSound Try.prog 28 S_r12_Invert := by
  have gok : ∀ (f : Nat) (s : PSpec), (fun _ => none : Nat → Option PSpec) f = some s → PSound Try.prog f s := fun _ _ h => by cases h
  refine psound tokW Try.call28 Try.func28 rfl (fun xs r h => by obtain ⟨_, _, _, rfl, _⟩ := h; show 1 ≤ 26; decide) 26 rfl ?_
  rintro xs r w0 G0 ⟨⟨op1_kind, op1_row, op1_at, op1_n, op1_nodes, op1_slot, op1_old, op1_text⟩, y0, h, rfl, rfl⟩ _
  rw [m_r12_Invert] at h
  refine tri_seq ?_
  refine tri_region (by exact tokW) (by exact gok) [1, 2] [] rfl ?_
  show Tri _ _ _ _
  refine tri_seq ?_
  refine tri_seq ?_
  refine tri_region (by exact tokW) (by exact gok) [] [] rfl ?_
  show Tri _ _ _ _
  obtain ⟨⟨x2, x3, x4⟩, hj, h⟩ := bind_out h
  refine tri_post ⟨ofL [(1, .op 0 0), (2, .op 1 0)], ofH [(0, .box 27 [.s (.int .i64 x2), .s (.sl 1 ((List.map (irow .i64)) op1_row)), .s (.int .i64 op1_at), .s (.int .i64 op1_n), .s (.sl 4 (Nd.encs op1_nodes)), .s (.int .i64 op1_slot), .s (.str x3), .s (.str x4)]), (1, .box 27 [.s (.int .i64 0), .nl 1, .s (.int .i64 0), .s (.int .i64 0), .nl 4, .s (.int .i64 0), .s (.str []), .s (.str [])])], 2⟩ ?_ (fun σ' hle => ?_)
  · replace h := hj
    refine tri_block ?_
    refine tri_seq ?_
    refine tri_region (by exact tokW) (by exact gok) [] [] rfl ?_
    show Tri _ _ _ _
    refine tri_cond rfl (fun hb => ?_) (fun hb => ?_)
    · replace h := bif_t hb h
      refine tri_region (by exact tokW) (by exact gok) [] [] rfl ?_
      cases h
      exact (Le.rename [(0, 0), (1, 1)] _ _ _ ⟨rfl, rfl, trivial⟩ ⟨rfl, ⟨_, rfl, rfl⟩, rfl, ⟨_, rfl, rfl⟩, trivial⟩ rfl rfl rfl rfl rfl)
    · replace h := bif_f hb h
      refine tri_seq ?_
      refine tri_region (by exact tokW) (by exact gok) [] [] rfl ?_
      show Tri _ _ _ _
      refine tri_cond rfl (fun hb => ?_) (fun hb => ?_)
      · replace h := bif_t hb h
        refine tri_region (by exact tokW) (by exact gok) [] [] rfl ?_
        cases h
        exact (Le.rename [(0, 0), (1, 1)] _ _ _ ⟨rfl, rfl, trivial⟩ ⟨rfl, ⟨_, rfl, rfl⟩, rfl, ⟨_, rfl, rfl⟩, trivial⟩ rfl rfl rfl rfl rfl)
      · replace h := bif_f hb h
        refine tri_seq ?_
        refine tri_region (by exact tokW) (by exact gok) [] [] rfl ?_
        show Tri _ _ _ _
        refine tri_cond rfl (fun hb => ?_) (fun hb => ?_)
        · replace h := bif_t hb h
          refine tri_region (by exact tokW) (by exact gok) [] [] rfl ?_
          cases h
          exact (Le.rename [(0, 0), (1, 1)] _ _ _ ⟨rfl, rfl, trivial⟩ ⟨rfl, ⟨_, rfl, rfl⟩, rfl, ⟨_, rfl, rfl⟩, trivial⟩ rfl rfl rfl rfl rfl)
        · replace h := bif_f hb h
          refine tri_seq ?_
          refine tri_region (by exact tokW) (by exact gok) [] [] rfl ?_
          show Tri _ _ _ _
          refine tri_cond rfl (fun hb => ?_) (fun hb => ?_)
          · replace h := bif_t hb h
            refine tri_region (by exact tokW) (by exact gok) [] [] rfl ?_
            cases h
            exact (Le.rename [(0, 0), (1, 1)] _ _ _ ⟨rfl, rfl, trivial⟩ ⟨rfl, ⟨_, rfl, rfl⟩, rfl, ⟨_, rfl, rfl⟩, trivial⟩ rfl rfl rfl rfl rfl)
          · replace h := bif_f hb h
            refine tri_seq ?_
            refine tri_region (by exact tokW) (by exact gok) [] [] rfl ?_
            show Tri _ _ _ _
            refine tri_cond rfl (fun hb => ?_) (fun hb => ?_)
            · replace h := bif_t hb h
              refine tri_region (by exact tokW) (by exact gok) [] [] rfl ?_
              cases h
              exact (Le.rename [(0, 0), (1, 1)] _ _ _ ⟨rfl, rfl, trivial⟩ ⟨rfl, ⟨_, rfl, rfl⟩, rfl, ⟨_, rfl, rfl⟩, trivial⟩ rfl rfl rfl rfl rfl)
            · replace h := bif_f hb h
              refine tri_skip ?_
              cases h
              exact (Le.rename [(0, 0), (1, 1)] _ _ _ ⟨rfl, rfl, trivial⟩ ⟨rfl, ⟨_, rfl, rfl⟩, rfl, ⟨_, rfl, rfl⟩, trivial⟩ rfl rfl rfl rfl rfl)
  · show Tri _ _ _ _
    refine tri_le hle ?_
    refine tri_seq ?_
    refine tri_region (by exact tokW) (by exact gok) [] [] rfl ?_
    show Tri _ _ _ _
    refine tri_ret ?_
    have hy := Option.some.inj h
    subst hy
    unfold Gives
    exact ⟨_, Le.refl _ _, rfl, rfl⟩
def R_r12_SameAll (n : Nat) (xs : List AV) (r : Ret) : Prop := ∃ (a0 : List (Int × List Int × Int × Int × List Nd × Int × List UInt8 × List UInt8)) (a1 : List (Int × List Int × Int × Int × List Nd × Int × List UInt8 × List UInt8)) (y0 : Bool), m_r12_SameAll n a0 a1 = some y0 ∧ xs = [.s (.sl 8 ((List.map enc_api_Op) a0)), .s (.sl 8 ((List.map enc_api_Op) a1))] ∧ r = .val (.s (.bool y0))
def S_r12_SameAll : PSpec := pspec fun xs r => ∃ n, R_r12_SameAll n xs r
set_option maxHeartbeats 2000000 in
set_option maxRecDepth 100000 in
theorem ok_r12_SameAll : PSound Try.prog 29 S_r12_SameAll := by
  have gok : ∀ f s, look? f [(27, S_r12_Same)] = some s → PSound Try.prog f s := look_all (by
    simp only [List.forall_mem_cons]
    exact ⟨ok_r12_Same, by simp⟩)
  refine psound tokW Try.call29 Try.func29 rfl (fun xs r h => by obtain ⟨n, _, _, _, _, rfl, _⟩ := h; show 2 ≤ 27; decide) 27 rfl ?_
  rintro xs r w0 G0 ⟨n, a1, b2, y0, h, rfl, rfl⟩ _
  rw [m_r12_SameAll] at h
  refine tri_seq ?_
  refine tri_region (by exact tokW) (by exact gok) [] [] rfl ?_
  show Tri _ _ _ _
  refine tri_seq ?_
  refine tri_seq ?_
  refine tri_region (by exact tokW) (by exact gok) [] [7, 9] rfl ?_
  intro n3 hn3
  obtain rfl : (a1.length : Int) = n3 := (hn3.trans (congrArg (fun m : Nat => (m : Int)) (rlen (fun _ => rfl) a1))).symm
  intro n4 hn4
  obtain rfl : (b2.length : Int) = n4 := (hn4.trans (congrArg (fun m : Nat => (m : Int)) (rlen (fun _ => rfl) b2))).symm
  show Tri _ _ _ _
  refine tri_cond rfl (fun hb => ?_) (fun hb => ?_)
  · replace h := bif_t hb h
    refine tri_seq ?_
    refine tri_region (by exact tokW) (by exact gok) [] [] rfl ?_
    show Tri _ _ _ _
    refine tri_ret ?_
    have hy := Option.some.inj h
    subst hy
    unfold Gives
    exact ⟨_, Le.refl _ _, rfl, rfl⟩
  · replace h := bif_f hb h
    refine tri_skip ?_
    show Tri _ _ _ _
    refine tri_seq ?_
    refine tri_seq ?_
    refine tri_region (by exact tokW) (by exact gok) [] [] rfl ?_
    show Tri _ _ _ _
    obtain ⟨fl, hl, ho1⟩ := bind_out h
    refine tri_fl (fl := fl) (fun z => match z with | _ => ⟨ofL [], fun _ => none, 0⟩) ?_ (fun z σ' hz hle => ?_)
    · refine tri_block (tri_loopI (X := Nat × Int) (fun y => match y with | (k, i5) => ⟨ofL [(0, .s (.sl 8 ((List.map enc_api_Op) a1))), (1, .s (.sl 8 ((List.map enc_api_Op) b2))), (5, .s (.int .i64 i5))], fun _ => none, 0⟩) (fun y => m_r12_SameAll_l1 n a1 b2 y.1 y.2 = some fl) (fun y => y.1) (n, 0) hl ?_ ?_)
      · exact (Le.forget _ ⟨rfl, rfl, rfl, trivial⟩)
      · rintro ⟨k, i5⟩ h
        cases k with
        | zero => cases h
        | succ k =>
          replace h : m_r12_SameAll_l1 n a1 b2 (k+1) i5 = some fl := h
          rw [m_r12_SameAll_l1] at h
          refine tri_seq ?_
          refine tri_seq ?_
          refine tri_region (by exact tokW) (by exact gok) [] [13] rfl ?_
          intro n6 hn6
          obtain rfl : (a1.length : Int) = n6 := (hn6.trans (congrArg (fun m : Nat => (m : Int)) (rlen (fun _ => rfl) a1))).symm
          show Tri _ _ _ _
          refine tri_cond rfl (fun hb => ?_) (fun hb => ?_)
          · replace h := bif_t hb h
            refine tri_skip ?_
            show Tri _ _ _ _
            refine tri_seq ?_
            refine tri_block ?_
            refine tri_seq ?_
            refine tri_drawn (by exact tokW) (by exact gok) (by exact mixed) [] [19, 23] [] rfl (by decide +kernel) ?_
            obtain ⟨⟨e7_kind, e7_row, e7_at, e7_n, e7_nodes, e7_slot, e7_old, e7_text⟩, he7, h⟩ := bind_out h
            refine And.intro (at_ok (fun _ => rfl) he7).1 ?_
            intro r8 hr8
            obtain rfl : [.int .i64 e7_kind, .sl 1 ((List.map (irow .i64)) e7_row), .int .i64 e7_at, .int .i64 e7_n, .sl 4 (Nd.encs e7_nodes), .int .i64 e7_slot, .str e7_old, .str e7_text] = r8 := (hr8.trans (at_ok (fun _ => rfl) he7).2.1).symm
            obtain ⟨⟨e9_kind, e9_row, e9_at, e9_n, e9_nodes, e9_slot, e9_old, e9_text⟩, he9, h⟩ := bind_out h
            refine And.intro (at_ok (fun _ => rfl) he9).1 ?_
            intro r10 hr10
            obtain rfl : [.int .i64 e9_kind, .sl 1 ((List.map (irow .i64)) e9_row), .int .i64 e9_at, .int .i64 e9_n, .sl 4 (Nd.encs e9_nodes), .int .i64 e9_slot, .str e9_old, .str e9_text] = r10 := (hr10.trans (at_ok (fun _ => rfl) he9).2.1).symm
            obtain ⟨y11, hy11, h⟩ := bind_out h
            refine ⟨_, ⟨_, _, _, _, hy11, rfl, rfl⟩, ?_⟩
            show Tri _ _ _ _
            refine tri_cond rfl (fun hb => ?_) (fun hb => ?_)
            · replace h := bif_t hb h
              refine tri_seq ?_
              refine tri_region (by exact tokW) (by exact gok) [] [] rfl ?_
              show Tri _ _ _ _
              refine tri_ret ?_
              cases h
              replace h : some _ = some _ := ho1
              have hy := Option.some.inj h
              subst hy
              unfold Gives
              exact ⟨_, Le.refl _ _, rfl, rfl⟩
            · replace h := bif_f hb h
              refine tri_skip ?_
              show Tri _ _ _ _
              refine tri_region (by exact tokW) (by exact gok) [] [] rfl ?_
              refine ⟨(k, IntKind.i64.wrap (i5 + 1)), h, (Le.forget _ ⟨rfl, rfl, rfl, trivial⟩), Nat.lt_succ_self k⟩
          · replace h := bif_f hb h
            refine tri_exit ?_
            cases h
            exact ⟨_, rfl, (Le.forget _ trivial)⟩
    · subst hz
      obtain _ := z
      replace h := ho1
      show Tri _ _ _ _
      refine tri_le hle ?_
      refine tri_seq ?_
      refine tri_region (by exact tokW) (by exact gok) [] [] rfl ?_
      show Tri _ _ _ _
      refine tri_ret ?_
      have hy := Option.some.inj h
      subst hy
      unfold Gives
      exact ⟨_, Le.refl _ _, rfl, rfl⟩
def R_r12_InvertAll (n : Nat) (xs : List AV) (r : Ret) : Prop := ∃ (a0 : List (Int × List Int × Int × Int × List Nd × Int × List UInt8 × List UInt8)) (y0 : List (Int × List Int × Int × Int × List Nd × Int × List UInt8 × List UInt8)), m_r12_InvertAll n a0 = some y0 ∧ xs = [.s (.sl 8 ((List.map enc_api_Op) a0))] ∧ r = .row 27 8 ((List.map enc_api_Op) y0)
def S_r12_InvertAll : PSpec := pspec fun xs r => ∃ n, R_r12_InvertAll n xs r
set_option maxHeartbeats 2000000 in
set_option maxRecDepth 100000 in
theorem ok_r12_InvertAll : PSound Try.prog 31 S_r12_InvertAll := by
  have gok : ∀ f s, look? f [(28, S_r12_Invert)] = some s → PSound Try.prog f s := look_all (by
    simp only [List.forall_mem_cons]
    exact ⟨ok_r12_Invert, by simp⟩)
  refine psound tokW Try.call31 Try.func31 rfl (fun xs r h => by obtain ⟨n, _, _, _, rfl, _⟩ := h; show 1 ≤ 21; decide) 21 rfl ?_
  rintro xs r w0 G0 ⟨n, ops1, y0, h, rfl, rfl⟩ _
  rw [m_r12_InvertAll] at h
  refine tri_seq ?_
  refine tri_region (by exact tokW) (by exact gok) [2] [] rfl ?_
  show Tri _ _ _ _
  refine tri_le (Le.rename [] [(0, .s (.sl 8 ((List.map enc_api_Op) ops1)))] [] 0 ⟨rfl, trivial⟩ trivial rfl rfl rfl rfl rfl) ?_
  refine tri_seq ?_
  refine tri_region (by exact tokW) (by exact gok) [3] [] rfl ?_
  show Tri _ _ _ _
  refine tri_le (Le.rename [(0, 0)] [(0, .s (.sl 8 ((List.map enc_api_Op) ops1))), (3, .orow 0)] [(0, .row 27 8 ((List.map enc_api_Op) []))] 1 ⟨rfl, rfl, trivial⟩ ⟨rfl, ⟨_, rfl, congrArg (Ob.row 27 8) (by simp [List.map_append, List.map_take, List.map_drop, irow, brow, b8of_row, List.map_cons, List.map_nil, b8of_wrap, Nd.encs_eq, Nd.enc, enc_13_node_kind, enc_node_checker, enc_s_api_Node, enc_edit_change, enc_api_Op, enc_string])⟩, trivial⟩ rfl rfl rfl rfl rfl) ?_
  refine tri_seq ?_
  refine tri_seq ?_
  refine tri_region (by exact tokW) (by exact gok) [] [6] rfl ?_
  intro n2 hn2
  obtain rfl : (ops1.length : Int) = n2 := (hn2.trans (congrArg (fun m : Nat => (m : Int)) (rlen (fun _ => rfl) ops1))).symm
  show Tri _ _ _ _
  obtain ⟨l6, hl, h⟩ := bind_out h
  refine tri_post ⟨ofL [(3, .orow 0)], ofH [(0, .row 27 8 ((List.map enc_api_Op) l6))], 1⟩ ?_ (fun σ' hle => ?_)
  · refine tri_block (tri_loopI (X := Nat × Int × (List (Int × List Int × Int × Int × List Nd × Int × List UInt8 × List UInt8))) (fun y => match y with | (k, i4, l5) => ⟨ofL [(0, .s (.sl 8 ((List.map enc_api_Op) ops1))), (3, .orow 0), (4, .s (.int .i64 i4))], ofH [(0, .row 27 8 ((List.map enc_api_Op) l5))], 1⟩) (fun y => m_r12_InvertAll_l1 ops1 y.1 y.2.1 y.2.2 = some l6) (fun y => y.1) (n, IntKind.i64.wrap ((ops1.length : Int) - 1), []) hl ?_ ?_)
    · exact (Le.rename [(0, 0)] _ _ _ ⟨rfl, rfl, rfl, trivial⟩ ⟨rfl, ⟨_, rfl, rfl⟩, trivial⟩ rfl rfl rfl rfl rfl)
    · rintro ⟨k, i4, l5⟩ h
      cases k with
      | zero => cases h
      | succ k =>
        replace h : m_r12_InvertAll_l1 ops1 (k+1) i4 l5 = some l6 := h
        rw [m_r12_InvertAll_l1] at h
        refine tri_seq ?_
        refine tri_seq ?_
        refine tri_region (by exact tokW) (by exact gok) [] [] rfl ?_
        show Tri _ _ _ _
        refine tri_cond rfl (fun hb => ?_) (fun hb => ?_)
        · replace h := bif_t hb h
          refine tri_skip ?_
          show Tri _ _ _ _
          refine tri_seq ?_
          refine tri_block ?_
          refine tri_region (by exact tokW) (by exact gok) [19] [15, 18] rfl ?_
          obtain ⟨⟨e7_kind, e7_row, e7_at, e7_n, e7_nodes, e7_slot, e7_old, e7_text⟩, he7, h⟩ := bind_out h
          refine And.intro (at_ok (fun _ => rfl) he7).1 ?_
          intro r8 hr8
          obtain rfl : [.int .i64 e7_kind, .sl 1 ((List.map (irow .i64)) e7_row), .int .i64 e7_at, .int .i64 e7_n, .sl 4 (Nd.encs e7_nodes), .int .i64 e7_slot, .str e7_old, .str e7_text] = r8 := (hr8.trans (at_ok (fun _ => rfl) he7).2.1).symm
          obtain ⟨⟨y9_kind, y9_row, y9_at, y9_n, y9_nodes, y9_slot, y9_old, y9_text⟩, hy9, h⟩ := bind_out h
          refine ⟨_, ⟨_, _, hy9, rfl, rfl⟩, ?_⟩
          intro r10 hr10
          obtain rfl : (List.map enc_api_Op) [(y9_kind, y9_row, y9_at, y9_n, y9_nodes, y9_slot, y9_old, y9_text)] = r10 := (hr10.trans (by simp [List.map_append, List.map_take, List.map_drop, irow, brow, b8of_row, List.map_cons, List.map_nil, b8of_wrap, Nd.encs_eq, Nd.enc, enc_13_node_kind, enc_node_checker, enc_s_api_Node, enc_edit_change, enc_api_Op, enc_string])).symm
          obtain ⟨hq, h⟩ := req_out h
          refine And.intro (show (((List.map enc_api_Op) l5).length + ((List.map enc_api_Op) [(y9_kind, y9_row, y9_at, y9_n, y9_nodes, y9_slot, y9_old, y9_text)]).length) * 112 ≤ 140737488355328 ∧ ((List.map enc_api_Op) l5).length + ((List.map enc_api_Op) [(y9_kind, y9_row, y9_at, y9_n, y9_nodes, y9_slot, y9_old, y9_text)]).length ≤ 9223372036854775807 from by simp only [List.length_append, List.length_cons, List.length_nil, List.length_map, rlen (fun _ => rfl)] at hq ⊢; omega) ?_
          show Tri _ _ _ _
          refine tri_le (Le.rename [(1, 0)] [(0, .s (.sl 8 ((List.map enc_api_Op) ops1))), (3, .orow 0), (4, .s (.int .i64 i4))] [(0, .row 27 8 ((List.map enc_api_Op) (l5 ++ [(y9_kind, y9_row, y9_at, y9_n, y9_nodes, y9_slot, y9_old, y9_text)])))] 1 ⟨rfl, rfl, rfl, trivial⟩ ⟨rfl, ⟨_, rfl, congrArg (Ob.row 27 8) (by simp [List.map_append, List.map_take, List.map_drop, irow, brow, b8of_row, List.map_cons, List.map_nil, b8of_wrap, Nd.encs_eq, Nd.enc, enc_13_node_kind, enc_node_checker, enc_s_api_Node, enc_edit_change, enc_api_Op, enc_string])⟩, trivial⟩ rfl rfl rfl rfl rfl) ?_
          refine tri_region (by exact tokW) (by exact gok) [] [] rfl ?_
          refine ⟨(k, IntKind.i64.wrap (i4 - 1), l5 ++ [(y9_kind, y9_row, y9_at, y9_n, y9_nodes, y9_slot, y9_old, y9_text)]), h, (Le.rename [(0, 0)] _ _ _ ⟨rfl, rfl, rfl, trivial⟩ ⟨rfl, ⟨_, rfl, rfl⟩, trivial⟩ rfl rfl rfl rfl rfl), Nat.lt_succ_self k⟩
        · replace h := bif_f hb h
          refine tri_exit ?_
          cases h
          exact (Le.rename [(0, 0)] _ _ _ ⟨rfl, trivial⟩ ⟨rfl, ⟨_, rfl, rfl⟩, trivial⟩ rfl rfl rfl rfl rfl)
  · show Tri _ _ _ _
    refine tri_le hle ?_
    refine tri_seq ?_
    refine tri_region (by exact tokW) (by exact gok) [] [] rfl ?_
    show Tri _ _ _ _
    refine tri_ret ?_
    have hy := Option.some.inj h
    subst hy
    unfold Gives
    exact ⟨_, Le.refl _ _, 0, rfl, rfl⟩
def R_l12_EditInvert (n : Nat) (xs : List AV) (r : Ret) : Prop := ∃ (a0 : List (Int × List Int × Int × Int × List Nd × Int × List UInt8 × List UInt8)) (y0 : Bool), m_l12_EditInvert n a0 = some y0 ∧ xs = [.s (.sl 8 ((List.map enc_api_Op) a0))] ∧ r = .val (.s (.bool y0))
def S_l12_EditInvert : PSpec := pspec fun xs r => ∃ n, R_l12_EditInvert n xs r
set_option maxHeartbeats 2000000 in
set_option maxRecDepth 100000 in
theorem ok_l12_EditInvert : PSound Try.prog 9 S_l12_EditInvert := by
  have gok : ∀ f s, look? f [(11, S_l12_awake), (12, S_l12_few), (25, S_edit_Invert), (28, S_r12_Invert), (27, S_r12_Same), (30, S_edit_InvertAll), (31, S_r12_InvertAll), (29, S_r12_SameAll)] = some s → PSound Try.prog f s := look_all (by
    simp only [List.forall_mem_cons]
    exact ⟨ok_l12_awake, ok_l12_few, ok_edit_Invert, ok_r12_Invert, ok_r12_Same, ok_edit_InvertAll, ok_r12_InvertAll, ok_r12_SameAll, by simp⟩)
  refine psound tokW Try.call9 Try.func9 rfl (fun xs r h => by obtain ⟨n, _, _, _, rfl, _⟩ := h; show 1 ≤ 41; decide) 41 rfl ?_
  rintro xs r w0 G0 ⟨n, ops1, y0, h, rfl, rfl⟩ _
  rw [m_l12_EditInvert] at h
  refine tri_seq ?_
  refine tri_region (by exact tokW) (by exact gok) [] [] rfl ?_
  show Tri _ _ _ _
  refine tri_seq ?_
  refine tri_seq ?_
  obtain ⟨x2, hj, h⟩ := bind_out h
  refine tri_post ⟨ofL [(0, .s (.sl 8 ((List.map enc_api_Op) ops1))), (13, .s (.bool x2))], fun _ => none, 0⟩ ?_ (fun σ' hle => ?_)
  · replace h := hj
    refine tri_region (by exact tokW) (by exact gok) [] [8] rfl ?_
    obtain ⟨y3, hy3, h⟩ := bind_out h
    refine ⟨_, ⟨_, _, hy3, rfl, rfl⟩, ?_⟩
    intro b hb
    cases b with
    | true =>
      replace h := bif_t hb.symm h
      cases h
      exact (Le.forget _ ⟨rfl, rfl, trivial⟩)
    | false =>
      replace h := bif_f hb.symm h
      obtain ⟨y4, hy4, h⟩ := bind_out h
      refine ⟨_, ⟨_, _, _, _, hy4, rfl, rfl⟩, ?_⟩
      cases h
      exact (Le.forget _ ⟨rfl, rfl, trivial⟩)
  · show Tri _ _ _ _
    refine tri_le hle ?_
    refine tri_cond rfl (fun hb => ?_) (fun hb => ?_)
    · replace h := bif_t hb h
      refine tri_seq ?_
      refine tri_region (by exact tokW) (by exact gok) [] [] rfl ?_
      obtain ⟨y5, hy5, h⟩ := bind_out h
      refine ⟨_, ⟨_, _, hy5, rfl, rfl⟩, ?_⟩
      show Tri _ _ _ _
      refine tri_ret ?_
      have hy := Option.some.inj h
      subst hy
      unfold Gives
      exact ⟨_, Le.refl _ _, rfl, rfl⟩
    · replace h := bif_f hb h
      refine tri_skip ?_
      show Tri _ _ _ _
      refine tri_seq ?_
      refine tri_seq ?_
      refine tri_region (by exact tokW) (by exact gok) [] [16] rfl ?_
      intro n6 hn6
      obtain rfl : (ops1.length : Int) = n6 := (hn6.trans (congrArg (fun m : Nat => (m : Int)) (rlen (fun _ => rfl) ops1))).symm
      show Tri _ _ _ _
      obtain ⟨fl, hl, ho1⟩ := bind_out h
      refine tri_fl (fl := fl) (fun z => match z with | _ => ⟨ofL [(0, .s (.sl 8 ((List.map enc_api_Op) ops1)))], fun _ => none, 0⟩) ?_ (fun z σ' hz hle => ?_)
      · refine tri_block (tri_loopI (X := Nat × Int) (fun y => match y with | (k, x7) => ⟨ofL [(0, .s (.sl 8 ((List.map enc_api_Op) ops1))), (15, .s (.sl 8 ((List.map enc_api_Op) ops1))), (16, .s (.int .i64 (ops1.length : Int))), (17, .s (.int .i64 x7))], fun _ => none, 0⟩) (fun y => m_l12_EditInvert_l1 n ops1 y.1 y.2 = some fl) (fun y => y.1) (n, 0) hl ?_ ?_)
        · exact (Le.forget _ ⟨rfl, rfl, rfl, rfl, trivial⟩)
        · rintro ⟨k, x7⟩ h
          cases k with
          | zero => cases h
          | succ k =>
            replace h : m_l12_EditInvert_l1 n ops1 (k+1) x7 = some fl := h
            rw [m_l12_EditInvert_l1] at h
            refine tri_seq ?_
            refine tri_region (by exact tokW) (by exact gok) [] [] rfl ?_
            show Tri _ _ _ _
            refine tri_seq ?_
            refine tri_cond rfl (fun hb => ?_) (fun hb => ?_)
            · replace h := bif_t hb h
              refine tri_skip ?_
              show Tri _ _ _ _
              refine tri_seq ?_
              refine tri_block ?_
              refine tri_seq ?_
              refine tri_region (by exact tokW) (by exact gok) [4] [19] rfl ?_
              obtain ⟨⟨e8_kind, e8_row, e8_at, e8_n, e8_nodes, e8_slot, e8_old, e8_text⟩, he8, h⟩ := bind_out h
              refine And.intro (at_ok (fun _ => rfl) he8).1 ?_
              intro r9 hr9
              obtain rfl : [.int .i64 e8_kind, .sl 1 ((List.map (irow .i64)) e8_row), .int .i64 e8_at, .int .i64 e8_n, .sl 4 (Nd.encs e8_nodes), .int .i64 e8_slot, .str e8_old, .str e8_text] = r9 := (hr9.trans (at_ok (fun _ => rfl) he8).2.1).symm
              show Tri _ _ _ _
              refine tri_le (Le.giveBox 0 [.int .i64 e8_kind, .sl 1 ((List.map (irow .i64)) e8_row), .int .i64 e8_at, .int .i64 e8_n, .sl 4 (Nd.encs e8_nodes), .int .i64 e8_slot, .str e8_old, .str e8_text] rfl rfl) ?_
              refine tri_seq ?_
              refine tri_region (by exact tokW) (by exact gok) [5] [] rfl ?_
              obtain ⟨⟨y10_kind, y10_row, y10_at, y10_n, y10_nodes, y10_slot, y10_old, y10_text⟩, hy10, h⟩ := bind_out h
              refine ⟨_, ⟨_, _, _, hy10, rfl, rfl⟩, ?_⟩
              show Tri _ _ _ _
              refine tri_le (Le.giveBox 1 [.int .i64 y10_kind, .sl 1 ((List.map (irow .i64)) y10_row), .int .i64 y10_at, .int .i64 y10_n, .sl 4 (Nd.encs y10_nodes), .int .i64 y10_slot, .str y10_old, .str y10_text] rfl rfl) ?_
              refine tri_seq ?_
              obtain ⟨x11, hj, h⟩ := bind_out h
              refine tri_post ⟨ofL [(0, .s (.sl 8 ((List.map enc_api_Op) ops1))), (15, .s (.sl 8 ((List.map enc_api_Op) ops1))), (16, .s (.int .i64 (ops1.length : Int))), (17, .s (.int .i64 x7)), (34, .s (.bool x11))], fun _ => none, 0⟩ ?_ (fun σ' hle => ?_)
              · replace h := hj
                refine tri_drawn (by exact tokW) (by exact gok) (by exact mixed) [] [28] [] rfl (by decide +kernel) ?_
                obtain ⟨⟨y12_kind, y12_row, y12_at, y12_n, y12_nodes, y12_slot, y12_old, y12_text⟩, hy12, h⟩ := bind_out h
                refine ⟨_, ⟨_, _, hy12, rfl, rfl⟩, ?_⟩
                obtain ⟨y13, hy13, h⟩ := bind_out h
                refine ⟨_, ⟨_, _, _, _, hy13, rfl, rfl⟩, ?_⟩
                intro b hb
                cases b with
                | true =>
                  replace h := bif_t hb.symm h
                  cases h
                  exact (Le.rename [] _ [] 0 ⟨rfl, rfl, rfl, rfl, rfl, trivial⟩ trivial rfl rfl rfl rfl rfl)
                | false =>
                  replace h := bif_f hb.symm h
                  obtain ⟨⟨y14_kind, y14_row, y14_at, y14_n, y14_nodes, y14_slot, y14_old, y14_text⟩, hy14, h⟩ := bind_out h
                  refine ⟨_, ⟨_, _, _, hy14, rfl, rfl⟩, ?_⟩
                  obtain ⟨y15, hy15, h⟩ := bind_out h
                  refine ⟨_, ⟨_, _, _, _, hy15, rfl, rfl⟩, ?_⟩
                  cases h
                  exact (Le.rename [] _ [] 0 ⟨rfl, rfl, rfl, rfl, rfl, trivial⟩ trivial rfl rfl rfl rfl rfl)
              · show Tri _ _ _ _
                refine tri_le hle ?_
                refine tri_cond rfl (fun hb => ?_) (fun hb => ?_)
                · replace h := bif_t hb h
                  refine tri_seq ?_
                  refine tri_region (by exact tokW) (by exact gok) [] [] rfl ?_
                  show Tri _ _ _ _
                  refine tri_ret ?_
                  cases h
                  replace h : some _ = some _ := ho1
                  have hy := Option.some.inj h
                  subst hy
                  unfold Gives
                  exact ⟨_, Le.refl _ _, rfl, rfl⟩
                · replace h := bif_f hb h
                  refine tri_skip ?_
                  show Tri _ _ _ _
                  refine tri_region (by exact tokW) (by exact gok) [] [] rfl ?_
                  refine ⟨(k, IntKind.i64.wrap (x7 + 1)), h, (Le.forget _ ⟨rfl, rfl, rfl, rfl, trivial⟩), Nat.lt_succ_self k⟩
            · replace h := bif_f hb h
              refine tri_exit ?_
              cases h
              exact ⟨_, rfl, (Le.forget _ ⟨rfl, trivial⟩)⟩
      · subst hz
        obtain _ := z
        replace h := ho1
        show Tri _ _ _ _
        refine tri_le hle ?_
        refine tri_seq ?_
        refine tri_region (by exact tokW) (by exact gok) [] [] rfl ?_
        obtain ⟨y16, hy16, h⟩ := bind_out h
        refine ⟨_, ⟨_, _, _, hy16, rfl, rfl⟩, ?_⟩
        obtain ⟨y17, hy17, h⟩ := bind_out h
        refine ⟨_, ⟨_, _, _, hy17, rfl, rfl⟩, ?_⟩
        obtain ⟨y18, hy18, h⟩ := bind_out h
        refine ⟨_, ⟨_, _, _, _, hy18, rfl, rfl⟩, ?_⟩
        show Tri _ _ _ _
        refine tri_ret ?_
        have hy := Option.some.inj h
        subst hy
        unfold Gives
        exact ⟨_, Le.refl _ _, rfl, rfl⟩
def R_l12_EditUndoAll (n : Nat) (xs : List AV) (r : Ret) : Prop := ∃ (a0 : Nd) (a1 : List (Int × List Int × Int × Int × List Nd × Int × List UInt8 × List UInt8)) (y0 : Bool), m_l12_EditUndoAll n a0 a1 = some y0 ∧ xs = [.agg ((Nd.enc a0).map .s), .s (.sl 8 ((List.map enc_api_Op) a1))] ∧ r = .val (.s (.bool y0))
def S_l12_EditUndoAll : PSpec := pspec fun xs r => ∃ n, R_l12_EditUndoAll n xs r
set_option maxHeartbeats 2000000 in
set_option maxRecDepth 100000 in
theorem ok_l12_EditUndoAll : PSound Try.prog 10 S_l12_EditUndoAll := by
  have gok : ∀ f s, look? f [(11, S_l12_awake), (12, S_l12_few), (23, S_edit_ApplyAll), (30, S_edit_InvertAll), (17, S_r09_Equal)] = some s → PSound Try.prog f s := look_all (by
    simp only [List.forall_mem_cons]
    exact ⟨ok_l12_awake, ok_l12_few, ok_edit_ApplyAll, ok_edit_InvertAll, ok_r09_Equal, by simp⟩)
  refine psound tokW Try.call10 Try.func10 rfl (fun xs r h => by obtain ⟨n, _, _, _, _, rfl, _⟩ := h; show 2 ≤ 44; decide) 44 rfl ?_
  rintro xs r w0 G0 ⟨n, ⟨n1_kind, n1_text, n1_cols, n1_kids⟩, ops2, y0, h, rfl, rfl⟩ _
  rw [m_l12_EditUndoAll] at h
  refine tri_seq ?_
  refine tri_region (by exact tokW) (by exact gok) [] [] rfl ?_
  show Tri _ _ _ _
  refine tri_seq ?_
  refine tri_seq ?_
  obtain ⟨x3, hj, h⟩ := bind_out h
  refine tri_post ⟨ofL [(1, .s (.sl 8 ((List.map enc_api_Op) ops2))), (2, .s (.pt [.int .i64 n1_kind, .str n1_text, .int .i64 n1_cols, .sl 4 (Nd.encs n1_kids)])), (18, .s (.bool x3))], fun _ => none, 0⟩ ?_ (fun σ' hle => ?_)
  · replace h := hj
    refine tri_region (by exact tokW) (by exact gok) [] [13] rfl ?_
    obtain ⟨y4, hy4, h⟩ := bind_out h
    refine ⟨_, ⟨_, _, hy4, rfl, rfl⟩, ?_⟩
    intro b hb
    cases b with
    | true =>
      replace h := bif_t hb.symm h
      cases h
      exact (Le.forget _ ⟨rfl, rfl, rfl, trivial⟩)
    | false =>
      replace h := bif_f hb.symm h
      obtain ⟨y5, hy5, h⟩ := bind_out h
      refine ⟨_, ⟨_, _, _, _, hy5, rfl, rfl⟩, ?_⟩
      cases h
      exact (Le.forget _ ⟨rfl, rfl, rfl, trivial⟩)
  · show Tri _ _ _ _
    refine tri_le hle ?_
    refine tri_cond rfl (fun hb => ?_) (fun hb => ?_)
    · replace h := bif_t hb h
      refine tri_seq ?_
      refine tri_region (by exact tokW) (by exact gok) [] [] rfl ?_
      obtain ⟨y6, hy6, h⟩ := bind_out h
      refine ⟨_, ⟨_, _, hy6, rfl, rfl⟩, ?_⟩
      show Tri _ _ _ _
      refine tri_ret ?_
      have hy := Option.some.inj h
      subst hy
      unfold Gives
      exact ⟨_, Le.refl _ _, rfl, rfl⟩
    · replace h := bif_f hb h
      refine tri_skip ?_
      show Tri _ _ _ _
      refine tri_seq ?_
      refine tri_region (by exact tokW) (by exact gok) [5] [] rfl ?_
      obtain ⟨⟨⟨y7_kind, y7_text, y7_cols, y7_kids⟩, y8, y9⟩, hy7, h⟩ := bind_out h
      refine ⟨_, ⟨_, _, _, _, _, _, hy7, rfl, rfl⟩, ?_⟩
      show Tri _ _ _ _
      refine tri_le (Le.giveBox 0 [.int .i64 y7_kind, .str y7_text, .int .i64 y7_cols, .sl 4 (Nd.encs y7_kids)] rfl rfl) ?_
      refine tri_seq ?_
      refine tri_seq ?_
      refine tri_region (by exact tokW) (by exact gok) [] [] rfl ?_
      show Tri _ _ _ _
      refine tri_cond rfl (fun hb => ?_) (fun hb => ?_)
      · replace h := bif_t hb h
        refine tri_seq ?_
        refine tri_region (by exact tokW) (by exact gok) [] [] rfl ?_
        show Tri _ _ _ _
        refine tri_ret ?_
        have hy := Option.some.inj h
        subst hy
        unfold Gives
        exact ⟨_, Le.refl _ _, rfl, rfl⟩
      · replace h := bif_f hb h
        refine tri_skip ?_
        show Tri _ _ _ _
        refine tri_seq ?_
        refine tri_drawnR (by exact tokW) (by exact gok) (by exact mixed) [8] [] [8, 9] [] rfl (by decide +kernel) ?_
        obtain ⟨y10, hy10, h⟩ := bind_out h
        refine ⟨_, ⟨_, _, _, hy10, rfl, rfl⟩, ?_⟩
        obtain ⟨⟨⟨y11_kind, y11_text, y11_cols, y11_kids⟩, y12, y13⟩, hy11, h⟩ := bind_out h
        refine ⟨_, ⟨_, _, _, _, _, _, hy11, rfl, rfl⟩, ?_⟩
        show Tri _ _ _ _
        refine tri_le (Le.giveBox 1 [.int .i64 y11_kind, .str y11_text, .int .i64 y11_cols, .sl 4 (Nd.encs y11_kids)] rfl rfl) ?_
        refine tri_seq ?_
        obtain ⟨x14, hj, h⟩ := bind_out h
        refine tri_post ⟨ofL [(4, .s (.bool x14))], fun _ => none, 0⟩ ?_ (fun σ' hle => ?_)
        · replace h := hj
          refine tri_region (by exact tokW) (by exact gok) [] [39] rfl ?_
          intro b hb
          cases b with
          | true =>
            replace h := bif_t hb.symm h
            obtain ⟨y15, hy15, h⟩ := bind_out h
            refine ⟨_, ⟨_, _, _, _, hy15, rfl, rfl⟩, ?_⟩
            cases h
            exact (Le.rename [] _ [] 0 ⟨rfl, trivial⟩ trivial rfl rfl rfl rfl rfl)
          | false =>
            replace h := bif_f hb.symm h
            cases h
            exact (Le.rename [] _ [] 0 ⟨rfl, trivial⟩ trivial rfl rfl rfl rfl rfl)
        · show Tri _ _ _ _
          refine tri_le hle ?_
          refine tri_ret ?_
          have hy := Option.some.inj h
          subst hy
          unfold Gives
          exact ⟨_, Le.refl _ _, rfl, rfl⟩
end Go.Proofs.Ytfbggpmdmhgpfaa
namespace Go.Proofs.Ytfbggpmdmhgpfaa
open Go.Abs
theorem typed_nd {n : Nat} {ss : List S} (h : Typed T n 24 ss) : ∃ t : Nd, ss = t.enc ∧ t.rng :=
  typed_node (T := T) (e := 24) (s := 22) (ki := 3) (st := 9) rfl rfl rfl rfl rfl rfl rfl rfl rfl n h
theorem typed_nodes {n t : Nat} {ss : List S} (h : Typed T n 22 ss) : ∃ l : List Nd, ss = [.sl 4 (Nd.encs l)] ∧ Nd.rngs l := by
  obtain ⟨m, rows, rfl, rfl, _, hr⟩ := typed_slice (T := T) (e := 24) rfl rfl h
  obtain ⟨ks, rfl, hks⟩ := all_map (f := Nd.enc) (q := Nd.rng) (l := rows) fun r hr' => typed_node (T := T) (e := 24) (s := 22) (ki := 3) (st := 9) rfl rfl rfl rfl rfl rfl rfl rfl rfl m (hr r hr')
  exact ⟨ks, by rw [Nd.encs_eq]; rfl, Nd.rngAll hks⟩
theorem typed_op {n : Nat} {ss : List S} (h : Typed T n 27 ss) : ∃ o : (Int × List Int × Int × Int × List Nd × Int × List UInt8 × List UInt8), ss = enc_api_Op o ∧ True := by
  obtain ⟨m, rfl, a0, q0, rfl, u0, a1, q1, rfl, u1, a2, q2, rfl, u2, a3, q3, rfl, u3, a4, q4, rfl, u4, a5, q5, rfl, u5, a6, q6, rfl, u6, a7, q7, rfl, u7, rfl⟩ := typed_struct (T := T) (t := 27) rfl rfl h
  obtain ⟨x0, rfl, _⟩ := typed_int (T := T) (k := .i64) rfl rfl u0
  obtain ⟨x1, rfl, _⟩ := typed_ints (T := T) (k := .i64) (e := 3) rfl rfl rfl rfl u1
  obtain ⟨x2, rfl, _⟩ := typed_int (T := T) (k := .i64) rfl rfl u2
  obtain ⟨x3, rfl, _⟩ := typed_int (T := T) (k := .i64) rfl rfl u3
  obtain ⟨x4, rfl, _⟩ := typed_nodes (t := 0) u4
  obtain ⟨x5, rfl, _⟩ := typed_int (T := T) (k := .i64) rfl rfl u5
  obtain ⟨x6, rfl, _⟩ := typed_str (T := T) rfl rfl u6
  obtain ⟨x7, rfl, _⟩ := typed_str (T := T) rfl rfl u7
  exact ⟨(x0, x1, x2, x3, x4, x5, x6, x7), rfl, trivial⟩
theorem typed_ops {n : Nat} {ss : List S} (h : Typed T n 42 ss) : ∃ l : List (Int × List Int × Int × Int × List Nd × Int × List UInt8 × List UInt8), ss = [.sl 8 (l.map enc_api_Op)] := by
  obtain ⟨m, rows, rfl, rfl, _, hr⟩ := typed_slice (T := T) (e := 27) rfl rfl h
  obtain ⟨ks, rfl, hks⟩ := all_map (f := enc_api_Op) (q := fun _ => True) (l := rows) fun r hr' => typed_op (hr r hr')
  exact ⟨ks, rfl⟩
theorem bulk_mem {α : Type} {f : α → List S} : ∀ {l : List α} {x : α}, x ∈ l → bulkL (f x) ≤ bulkLL (l.map f)
  | y :: l, x, h => by
    simp only [List.map_cons, bulkLL]
    rcases List.mem_cons.1 h with rfl | h
    · omega
    · have := bulk_mem (f := f) h; omega
theorem op_bulk (o : (Int × List Int × Int × Int × List Nd × Int × List UInt8 × List UInt8)) : Nd.ws o.2.2.2.2.1 + o.2.2.2.2.2.2.2.length + o.2.1.length ≤ bulkL (enc_api_Op o) := by
  have h1 := Nd.ws_bulk o.2.2.2.2.1
  have h2 := bulk_ints .i64 o.2.1
  simp only [enc_api_Op, bulkL, S.bulk]
  omega
theorem op_bulk3 (o : (Int × List Int × Int × Int × List Nd × Int × List UInt8 × List UInt8)) : Nd.ws o.2.2.2.2.1 + o.2.2.2.2.2.2.1.length + o.2.1.length ≤ bulkL (enc_api_Op o) := by
  have h1 := Nd.ws_bulk o.2.2.2.2.1
  have h2 := bulk_ints .i64 o.2.1
  simp only [enc_api_Op, bulkL, S.bulk]
  omega
theorem ops_len {l : List (Int × List Int × Int × Int × List Nd × Int × List UInt8 × List UInt8)} : l.length ≤ bulkLL (l.map enc_api_Op) := by
  have := bulk_rows (rows := l.map enc_api_Op) fun r hr => by
    obtain ⟨o, _, rfl⟩ := List.mem_map.1 hr
    simp only [enc_api_Op, List.length_cons]
    omega
  simpa using this
end Go.Proofs.Ytfbggpmdmhgpfaa
