/-
  Joined out of: EdGB, PTypO, PCnt, PByte, PText, PVal, PDist, PDump, PMet, PNode, PRow, PPut, PWith, PWt, PLeast, PLeast2.
-/
import Derived.Lib.ItoaLen
import Derived.Test.YtfbggpmdmhgpfaaZf
set_option linter.unusedVariables false
set_option linter.unusedSimpArgs false
namespace Go.Proofs.Ytfbggpmdmhgpfaa
open Go.Abs
def R_r09_Quoted (n : Nat) (xs : List AV) (r : Ret) : Prop := ∃ (a0 : List UInt8) (y0 : List UInt8), m_r09_Quoted n a0 = some y0 ∧ xs = [.s (.str a0)] ∧ r = .val (.s (.str y0))
def S_r09_Quoted : PSpec := pspec fun xs r => ∃ n, R_r09_Quoted n xs r
set_option maxHeartbeats 2000000 in
set_option maxRecDepth 100000 in
theorem ok_r09_Quoted : PSound Try.prog 42 S_r09_Quoted := by
  have gok : ∀ (f : Nat) (s : PSpec), (fun _ => none : Nat → Option PSpec) f = some s → PSound Try.prog f s := fun _ _ h => by cases h
  refine psound tokW Try.call42 Try.func42 rfl (fun xs r h => by obtain ⟨n, _, _, _, rfl, _⟩ := h; show 1 ≤ 35; decide) 35 rfl ?_
  rintro xs r w0 G0 ⟨n, s1, y0, h, rfl, rfl⟩ _
  rw [m_r09_Quoted] at h
  refine tri_seq ?_
  refine tri_region (by exact tokW) (by exact gok) [] [] rfl ?_
  show Tri _ _ _ _
  refine tri_seq ?_
  refine tri_region (by exact tokW) (by exact gok) [5] [] rfl ?_
  show Tri _ _ _ _
  refine tri_le (Le.rename [(0, 0)] [(0, .s (.str s1)), (3, .orow 0)] [(0, .row 5 1 ((List.map brow) [b8of 34]))] 1 ⟨rfl, rfl, trivial⟩ ⟨rfl, ⟨_, rfl, congrArg (Ob.row 5 1) (by simp [List.map_append, List.map_take, List.map_drop, irow, brow, b8of_row, List.map_cons, List.map_nil, b8of_wrap, Nd.encs_eq, Nd.enc, enc_13_node_kind, enc_node_checker, enc_s_api_Node, enc_edit_change, enc_api_Op, enc_string])⟩, trivial⟩ rfl rfl rfl rfl rfl) ?_
  refine tri_seq ?_
  refine tri_seq ?_
  refine tri_region (by exact tokW) (by exact gok) [] [] rfl ?_
  show Tri _ _ _ _
  obtain ⟨l5, hl, h⟩ := bind_out h
  refine tri_post ⟨ofL [(3, .orow 0)], ofH [(0, .row 5 1 ((List.map brow) l5))], 1⟩ ?_ (fun σ' hle => ?_)
  · refine tri_block (tri_loopI (X := Nat × Int × (List UInt8)) (fun y => match y with | (k, i3, l4) => ⟨ofL [(0, .s (.str s1)), (3, .orow 0), (4, .s (.int .i64 i3))], ofH [(0, .row 5 1 ((List.map brow) l4))], 1⟩) (fun y => m_r09_Quoted_l1 s1 y.1 y.2.1 y.2.2 = some l5) (fun y => y.1) (n, 0, [b8of 34]) hl ?_ ?_)
    · exact (Le.rename [(0, 0)] _ _ _ ⟨rfl, rfl, rfl, trivial⟩ ⟨rfl, ⟨_, rfl, rfl⟩, trivial⟩ rfl rfl rfl rfl rfl)
    · rintro ⟨k, i3, l4⟩ h
      cases k with
      | zero => cases h
      | succ k =>
        replace h : m_r09_Quoted_l1 s1 (k+1) i3 l4 = some l5 := h
        rw [m_r09_Quoted_l1] at h
        refine tri_seq ?_
        refine tri_seq ?_
        refine tri_region (by exact tokW) (by exact gok) [] [] rfl ?_
        show Tri _ _ _ _
        refine tri_cond rfl (fun hb => ?_) (fun hb => ?_)
        · replace h := bif_t hb h
          refine tri_skip ?_
          show Tri _ _ _ _
          refine tri_seq ?_
          obtain ⟨l6, hj, h⟩ := bind_out h
          refine tri_post ⟨ofL [(0, .s (.str s1)), (3, .orow 0), (4, .s (.int .i64 i3))], ofH [(0, .row 5 1 ((List.map brow) l6))], 1⟩ ?_ (fun σ' hle => ?_)
          · replace h := hj
            refine tri_block ?_
            refine tri_seq ?_
            refine tri_seq ?_
            obtain ⟨x7, hj, h⟩ := bind_out h
            refine tri_post ⟨ofL [(0, .s (.str s1)), (3, .orow 0), (4, .s (.int .i64 i3)), (21, .s (.bool x7))], ofH [(0, .row 5 1 ((List.map brow) l4))], 1⟩ ?_ (fun σ' hle => ?_)
            · replace h := hj
              refine tri_region (by exact tokW) (by exact gok) [] [14, 16, 19] rfl ?_
              obtain ⟨c8, hc8, h⟩ := bind_out h
              refine And.intro (str_ok hc8).1 ?_
              intro v9 hv9
              obtain rfl : (c8.toNat : Int) = v9 := (hv9.trans (str_ok hc8).2).symm
              intro b hb
              cases b with
              | true =>
                replace h := bif_t hb.symm h
                cases h
                exact (Le.rename [(0, 0)] _ _ _ ⟨rfl, rfl, rfl, rfl, trivial⟩ ⟨rfl, ⟨_, rfl, rfl⟩, trivial⟩ rfl rfl rfl rfl rfl)
              | false =>
                replace h := bif_f hb.symm h
                obtain ⟨c10, hc10, h⟩ := bind_out h
                refine And.intro (str_ok hc10).1 ?_
                intro v11 hv11
                obtain rfl : (c10.toNat : Int) = v11 := (hv11.trans (str_ok hc10).2).symm
                cases h
                exact (Le.rename [(0, 0)] _ _ _ ⟨rfl, rfl, rfl, rfl, trivial⟩ ⟨rfl, ⟨_, rfl, rfl⟩, trivial⟩ rfl rfl rfl rfl rfl)
            · show Tri _ _ _ _
              refine tri_le hle ?_
              obtain ⟨l12, hj, h⟩ := bind_out h
              refine tri_post ⟨ofL [(0, .s (.str s1)), (3, .orow 0), (4, .s (.int .i64 i3))], ofH [(0, .row 5 1 ((List.map brow) l12))], 1⟩ ?_ (fun σ' hle => ?_)
              · replace h := hj
                refine tri_cond rfl (fun hb => ?_) (fun hb => ?_)
                · replace h := bif_t hb h
                  refine tri_region (by exact tokW) (by exact gok) [24] [23] rfl ?_
                  intro r13 hr13
                  obtain rfl : (List.map brow) [b8of 92] = r13 := (hr13.trans (by simp [List.map_append, List.map_take, List.map_drop, irow, brow, b8of_row, List.map_cons, List.map_nil, b8of_wrap, Nd.encs_eq, Nd.enc, enc_13_node_kind, enc_node_checker, enc_s_api_Node, enc_edit_change, enc_api_Op, enc_string])).symm
                  obtain ⟨hq, h⟩ := req_out h
                  refine And.intro (show (((List.map brow) l4).length + ((List.map brow) [b8of 92]).length) * 1 ≤ 140737488355328 ∧ ((List.map brow) l4).length + ((List.map brow) [b8of 92]).length ≤ 9223372036854775807 from by simp only [List.length_append, List.length_cons, List.length_nil, List.length_map, rlen (fun _ => rfl)] at hq ⊢; omega) ?_
                  cases h
                  exact (Le.trans (Le.rename [(1, 0)] [(0, .s (.str s1)), (3, .orow 0), (4, .s (.int .i64 i3))] [(0, .row 5 1 ((List.map brow) (l4 ++ [b8of 92])))] 1 ⟨rfl, rfl, rfl, trivial⟩ ⟨rfl, ⟨_, rfl, congrArg (Ob.row 5 1) (by simp [List.map_append, List.map_take, List.map_drop, irow, brow, b8of_row, List.map_cons, List.map_nil, b8of_wrap, Nd.encs_eq, Nd.enc, enc_13_node_kind, enc_node_checker, enc_s_api_Node, enc_edit_change, enc_api_Op, enc_string])⟩, trivial⟩ rfl rfl rfl rfl rfl) (Le.rename [(0, 0)] _ _ _ ⟨rfl, rfl, rfl, trivial⟩ ⟨rfl, ⟨_, rfl, rfl⟩, trivial⟩ rfl rfl rfl rfl rfl))
                · replace h := bif_f hb h
                  refine tri_skip ?_
                  cases h
                  exact (Le.rename [(0, 0)] _ _ _ ⟨rfl, rfl, rfl, trivial⟩ ⟨rfl, ⟨_, rfl, rfl⟩, trivial⟩ rfl rfl rfl rfl rfl)
              · show Tri _ _ _ _
                refine tri_le hle ?_
                refine tri_region (by exact tokW) (by exact gok) [30] [28, 29] rfl ?_
                obtain ⟨c14, hc14, h⟩ := bind_out h
                refine And.intro (str_ok hc14).1 ?_
                intro v15 hv15
                obtain rfl : (c14.toNat : Int) = v15 := (hv15.trans (str_ok hc14).2).symm
                intro r16 hr16
                obtain rfl : (List.map brow) [c14] = r16 := (hr16.trans (by simp [List.map_append, List.map_take, List.map_drop, irow, brow, b8of_row, List.map_cons, List.map_nil, b8of_wrap, Nd.encs_eq, Nd.enc, enc_13_node_kind, enc_node_checker, enc_s_api_Node, enc_edit_change, enc_api_Op, enc_string])).symm
                obtain ⟨hq, h⟩ := req_out h
                refine And.intro (show (((List.map brow) l12).length + ((List.map brow) [c14]).length) * 1 ≤ 140737488355328 ∧ ((List.map brow) l12).length + ((List.map brow) [c14]).length ≤ 9223372036854775807 from by simp only [List.length_append, List.length_cons, List.length_nil, List.length_map, rlen (fun _ => rfl)] at hq ⊢; omega) ?_
                cases h
                exact (Le.trans (Le.rename [(1, 0)] [(0, .s (.str s1)), (3, .orow 0), (4, .s (.int .i64 i3))] [(0, .row 5 1 ((List.map brow) (l12 ++ [c14])))] 1 ⟨rfl, rfl, rfl, trivial⟩ ⟨rfl, ⟨_, rfl, congrArg (Ob.row 5 1) (by simp [List.map_append, List.map_take, List.map_drop, irow, brow, b8of_row, List.map_cons, List.map_nil, b8of_wrap, Nd.encs_eq, Nd.enc, enc_13_node_kind, enc_node_checker, enc_s_api_Node, enc_edit_change, enc_api_Op, enc_string])⟩, trivial⟩ rfl rfl rfl rfl rfl) (Le.rename [(0, 0)] _ _ _ ⟨rfl, rfl, rfl, trivial⟩ ⟨rfl, ⟨_, rfl, rfl⟩, trivial⟩ rfl rfl rfl rfl rfl))
          · show Tri _ _ _ _
            refine tri_le hle ?_
            refine tri_region (by exact tokW) (by exact gok) [] [] rfl ?_
            refine ⟨(k, IntKind.i64.wrap (i3 + 1), l6), h, (Le.rename [(0, 0)] _ _ _ ⟨rfl, rfl, rfl, trivial⟩ ⟨rfl, ⟨_, rfl, rfl⟩, trivial⟩ rfl rfl rfl rfl rfl), Nat.lt_succ_self k⟩
        · replace h := bif_f hb h
          refine tri_exit ?_
          cases h
          exact (Le.rename [(0, 0)] _ _ _ ⟨rfl, trivial⟩ ⟨rfl, ⟨_, rfl, rfl⟩, trivial⟩ rfl rfl rfl rfl rfl)
  · show Tri _ _ _ _
    refine tri_le hle ?_
    refine tri_seq ?_
    refine tri_region (by exact tokW) (by exact gok) [33] [32, 34] rfl ?_
    intro r17 hr17
    obtain rfl : (List.map brow) [b8of 34] = r17 := (hr17.trans (by simp [List.map_append, List.map_take, List.map_drop, irow, brow, b8of_row, List.map_cons, List.map_nil, b8of_wrap, Nd.encs_eq, Nd.enc, enc_13_node_kind, enc_node_checker, enc_s_api_Node, enc_edit_change, enc_api_Op, enc_string])).symm
    obtain ⟨hq, h⟩ := req_out h
    refine And.intro (show (((List.map brow) l5).length + ((List.map brow) [b8of 34]).length) * 1 ≤ 140737488355328 ∧ ((List.map brow) l5).length + ((List.map brow) [b8of 34]).length ≤ 9223372036854775807 from by simp only [List.length_append, List.length_cons, List.length_nil, List.length_map, rlen (fun _ => rfl)] at hq ⊢; omega) ?_
    have hraw : ((List.map brow) l5) ++ ((List.map brow) [b8of 34]) = (List.map brow) (l5 ++ [b8of 34]) := (show ((List.map brow) l5) ++ ((List.map brow) [b8of 34]) = (List.map brow) (l5 ++ [b8of 34]) from (by simp [List.map_append, List.map_take, List.map_drop, irow, brow, b8of_row, List.map_cons, List.map_nil, b8of_wrap, Nd.encs_eq, Nd.enc, enc_13_node_kind, enc_node_checker, enc_s_api_Node, enc_edit_change, enc_api_Op, enc_string]))
    refine And.intro (show ((List.map brow) l5) ++ ((List.map brow) [b8of 34]) = ((((List.map brow) l5) ++ ((List.map brow) [b8of 34])).map browOf).map brow from by rw [hraw, brow_back]) ?_
    intro s18 hs18
    obtain rfl : l5 ++ [b8of 34] = s18 := (hs18.trans ((congrArg (List.map browOf) hraw).trans (brow_back _))).symm
    show Tri _ _ _ _
    refine tri_le (Le.rename [] [(2, .s (.str (l5 ++ [b8of 34])))] [] 0 ⟨rfl, trivial⟩ trivial rfl rfl rfl rfl rfl) ?_
    refine tri_ret ?_
    have hy := Option.some.inj h
    subst hy
    unfold Gives
    exact ⟨_, Le.refl _ _, rfl, rfl⟩
def R_r09_Dump (n : Nat) (xs : List AV) (r : Ret) : Prop := ∃ (a0 : Nd) (y0 : List UInt8), m_r09_Dump n a0 = some y0 ∧ xs = [.agg ((Nd.enc a0).map .s)] ∧ r = .val (.s (.str y0))
set_option maxHeartbeats 2000000 in
set_option maxRecDepth 100000 in
theorem step_r09_Dump (n : Nat) (ih : PSound Try.prog 18 (pspec (R_r09_Dump n))) : PSound Try.prog 18 (pspec (R_r09_Dump (n + 1))) := by
  have gok : ∀ f s, look? f [(41, S_r09_Int), (42, S_r09_Quoted), (18, pspec (R_r09_Dump n))] = some s → PSound Try.prog f s := look_all (by
    simp only [List.forall_mem_cons]
    exact ⟨ok_r09_Int, ok_r09_Quoted, ih, by simp⟩)
  refine psound tokW Try.call18 Try.func18 rfl (fun xs r h => by obtain ⟨_, _, _, rfl, _⟩ := h; show 1 ≤ 69; decide) 69 rfl ?_
  rintro xs r w0 G0 ⟨⟨a1_kind, a1_text, a1_cols, a1_kids⟩, y0, h, rfl, rfl⟩ _
  rw [m_r09_Dump] at h
  refine tri_seq ?_
  refine tri_region (by exact tokW) (by exact gok) [] [] rfl ?_
  show Tri _ _ _ _
  refine tri_seq ?_
  refine tri_region (by exact tokW) (by exact gok) [3] [] rfl ?_
  show Tri _ _ _ _
  refine tri_le (Le.giveBox 0 [.str [], .str [114, 111, 119], .str [115, 121, 109], .str [110, 117, 109], .str [116, 101, 120, 116], .str [102, 114, 97, 99], .str [114, 111, 111, 116], .str [115, 117, 98], .str [115, 117, 112], .str [98, 111, 116, 104], .str [97, 99, 99, 101, 110, 116], .str [102, 101, 110, 99, 101], .str [109, 97, 116, 114, 105, 120]] rfl rfl) ?_
  refine tri_seq ?_
  refine tri_region (by exact tokW) (by exact gok) [] [] rfl ?_
  obtain ⟨y2, hy2, h⟩ := bind_out h
  refine ⟨_, ⟨_, _, _, hy2, rfl, rfl⟩, ?_⟩
  obtain ⟨hq, h⟩ := req_out h
  refine And.intro (Nat.le_trans hq (by decide)) ?_
  show Tri _ _ _ _
  refine tri_seq ?_
  refine tri_seq ?_
  obtain ⟨x3, hj, h⟩ := bind_out h
  refine tri_post ⟨ofL [(1, .s (.pt [.int .i64 a1_kind, .str a1_text, .int .i64 a1_cols, .sl 4 (Nd.encs a1_kids)])), (3, .s (.pt [.str [], .str [114, 111, 119], .str [115, 121, 109], .str [110, 117, 109], .str [116, 101, 120, 116], .str [102, 114, 97, 99], .str [114, 111, 111, 116], .str [115, 117, 98], .str [115, 117, 112], .str [98, 111, 116, 104], .str [97, 99, 99, 101, 110, 116], .str [102, 101, 110, 99, 101], .str [109, 97, 116, 114, 105, 120]])), (4, .s (.str ([110, 111, 100, 101] ++ y2))), (18, .s (.bool x3))], fun _ => none, 0⟩ ?_ (fun σ' hle => ?_)
  · replace h := hj
    refine tri_region (by exact tokW) (by exact gok) [] [14] rfl ?_
    intro b hb
    cases b with
    | true =>
      replace h := bif_t hb.symm h
      cases h
      exact (Le.rename [] _ [] 0 ⟨rfl, rfl, rfl, rfl, trivial⟩ trivial rfl rfl rfl rfl rfl)
    | false =>
      replace h := bif_f hb.symm h
      cases h
      exact (Le.rename [] _ [] 0 ⟨rfl, rfl, rfl, rfl, trivial⟩ trivial rfl rfl rfl rfl rfl)
  · show Tri _ _ _ _
    refine tri_le hle ?_
    obtain ⟨x4, hj, h⟩ := bind_out h
    refine tri_post ⟨ofL [(1, .s (.pt [.int .i64 a1_kind, .str a1_text, .int .i64 a1_cols, .sl 4 (Nd.encs a1_kids)])), (4, .s (.str x4))], fun _ => none, 0⟩ ?_ (fun σ' hle => ?_)
    · replace h := hj
      refine tri_cond rfl (fun hb => ?_) (fun hb => ?_)
      · replace h := bif_t hb h
        refine tri_region (by exact tokW) (by exact gok) [] [20] rfl ?_
        intro vsp hvsp
        cases hc : (a1_kind == 1) with
        | true =>
          replace h := bif_t hc h
          obtain rfl : (1 : Int) = vsp := (hvsp.trans (eq_of_beq hc)).symm
          refine And.intro (by decide) ?_
          cases h
          exact (Le.forget _ ⟨rfl, rfl, trivial⟩)
        | false =>
          replace h := bif_f hc h
          cases hc : (a1_kind == 2) with
          | true =>
            replace h := bif_t hc h
            obtain rfl : (2 : Int) = vsp := (hvsp.trans (eq_of_beq hc)).symm
            refine And.intro (by decide) ?_
            cases h
            exact (Le.forget _ ⟨rfl, rfl, trivial⟩)
          | false =>
            replace h := bif_f hc h
            cases hc : (a1_kind == 3) with
            | true =>
              replace h := bif_t hc h
              obtain rfl : (3 : Int) = vsp := (hvsp.trans (eq_of_beq hc)).symm
              refine And.intro (by decide) ?_
              cases h
              exact (Le.forget _ ⟨rfl, rfl, trivial⟩)
            | false =>
              replace h := bif_f hc h
              cases hc : (a1_kind == 4) with
              | true =>
                replace h := bif_t hc h
                obtain rfl : (4 : Int) = vsp := (hvsp.trans (eq_of_beq hc)).symm
                refine And.intro (by decide) ?_
                cases h
                exact (Le.forget _ ⟨rfl, rfl, trivial⟩)
              | false =>
                replace h := bif_f hc h
                cases hc : (a1_kind == 5) with
                | true =>
                  replace h := bif_t hc h
                  obtain rfl : (5 : Int) = vsp := (hvsp.trans (eq_of_beq hc)).symm
                  refine And.intro (by decide) ?_
                  cases h
                  exact (Le.forget _ ⟨rfl, rfl, trivial⟩)
                | false =>
                  replace h := bif_f hc h
                  cases hc : (a1_kind == 6) with
                  | true =>
                    replace h := bif_t hc h
                    obtain rfl : (6 : Int) = vsp := (hvsp.trans (eq_of_beq hc)).symm
                    refine And.intro (by decide) ?_
                    cases h
                    exact (Le.forget _ ⟨rfl, rfl, trivial⟩)
                  | false =>
                    replace h := bif_f hc h
                    cases hc : (a1_kind == 7) with
                    | true =>
                      replace h := bif_t hc h
                      obtain rfl : (7 : Int) = vsp := (hvsp.trans (eq_of_beq hc)).symm
                      refine And.intro (by decide) ?_
                      cases h
                      exact (Le.forget _ ⟨rfl, rfl, trivial⟩)
                    | false =>
                      replace h := bif_f hc h
                      cases hc : (a1_kind == 8) with
                      | true =>
                        replace h := bif_t hc h
                        obtain rfl : (8 : Int) = vsp := (hvsp.trans (eq_of_beq hc)).symm
                        refine And.intro (by decide) ?_
                        cases h
                        exact (Le.forget _ ⟨rfl, rfl, trivial⟩)
                      | false =>
                        replace h := bif_f hc h
                        cases hc : (a1_kind == 9) with
                        | true =>
                          replace h := bif_t hc h
                          obtain rfl : (9 : Int) = vsp := (hvsp.trans (eq_of_beq hc)).symm
                          refine And.intro (by decide) ?_
                          cases h
                          exact (Le.forget _ ⟨rfl, rfl, trivial⟩)
                        | false =>
                          replace h := bif_f hc h
                          cases hc : (a1_kind == 10) with
                          | true =>
                            replace h := bif_t hc h
                            obtain rfl : (10 : Int) = vsp := (hvsp.trans (eq_of_beq hc)).symm
                            refine And.intro (by decide) ?_
                            cases h
                            exact (Le.forget _ ⟨rfl, rfl, trivial⟩)
                          | false =>
                            replace h := bif_f hc h
                            cases hc : (a1_kind == 11) with
                            | true =>
                              replace h := bif_t hc h
                              obtain rfl : (11 : Int) = vsp := (hvsp.trans (eq_of_beq hc)).symm
                              refine And.intro (by decide) ?_
                              cases h
                              exact (Le.forget _ ⟨rfl, rfl, trivial⟩)
                            | false =>
                              replace h := bif_f hc h
                              cases hc : (a1_kind == 12) with
                              | true =>
                                replace h := bif_t hc h
                                obtain rfl : (12 : Int) = vsp := (hvsp.trans (eq_of_beq hc)).symm
                                refine And.intro (by decide) ?_
                                cases h
                                exact (Le.forget _ ⟨rfl, rfl, trivial⟩)
                              | false =>
                                replace h := bif_f hc h
                                cases h
      · replace h := bif_f hb h
        refine tri_skip ?_
        cases h
        exact (Le.forget _ ⟨rfl, rfl, trivial⟩)
    · show Tri _ _ _ _
      refine tri_le hle ?_
      refine tri_seq ?_
      refine tri_seq ?_
      refine tri_region (by exact tokW) (by exact gok) [] [] rfl ?_
      show Tri _ _ _ _
      obtain ⟨x5, hj, h⟩ := bind_out h
      refine tri_post ⟨ofL [(1, .s (.pt [.int .i64 a1_kind, .str a1_text, .int .i64 a1_cols, .sl 4 (Nd.encs a1_kids)])), (4, .s (.str x5))], fun _ => none, 0⟩ ?_ (fun σ' hle => ?_)
      · replace h := hj
        refine tri_cond rfl (fun hb => ?_) (fun hb => ?_)
        · replace h := bif_t hb h
          refine tri_region (by exact tokW) (by exact gok) [] [] rfl ?_
          obtain ⟨hq, h⟩ := req_out h
          refine And.intro (Nat.le_trans hq (by decide)) ?_
          obtain ⟨y6, hy6, h⟩ := bind_out h
          refine ⟨_, ⟨_, _, _, hy6, rfl, rfl⟩, ?_⟩
          obtain ⟨hq, h⟩ := req_out h
          refine And.intro (Nat.le_trans hq (by decide)) ?_
          cases h
          exact (Le.forget _ ⟨rfl, rfl, trivial⟩)
        · replace h := bif_f hb h
          refine tri_skip ?_
          cases h
          exact (Le.forget _ ⟨rfl, rfl, trivial⟩)
      · show Tri _ _ _ _
        refine tri_le hle ?_
        refine tri_seq ?_
        refine tri_seq ?_
        refine tri_region (by exact tokW) (by exact gok) [] [] rfl ?_
        show Tri _ _ _ _
        obtain ⟨x7, hj, h⟩ := bind_out h
        refine tri_post ⟨ofL [(1, .s (.pt [.int .i64 a1_kind, .str a1_text, .int .i64 a1_cols, .sl 4 (Nd.encs a1_kids)])), (4, .s (.str x7))], fun _ => none, 0⟩ ?_ (fun σ' hle => ?_)
        · replace h := hj
          refine tri_cond rfl (fun hb => ?_) (fun hb => ?_)
          · replace h := bif_t hb h
            refine tri_region (by exact tokW) (by exact gok) [] [] rfl ?_
            obtain ⟨hq, h⟩ := req_out h
            refine And.intro (Nat.le_trans hq (by decide)) ?_
            obtain ⟨y8, hy8, h⟩ := bind_out h
            refine ⟨_, ⟨_, _, _, hy8, rfl, rfl⟩, ?_⟩
            obtain ⟨hq, h⟩ := req_out h
            refine And.intro (Nat.le_trans hq (by decide)) ?_
            cases h
            exact (Le.forget _ ⟨rfl, rfl, trivial⟩)
          · replace h := bif_f hb h
            refine tri_skip ?_
            cases h
            exact (Le.forget _ ⟨rfl, rfl, trivial⟩)
        · show Tri _ _ _ _
          refine tri_le hle ?_
          refine tri_seq ?_
          refine tri_seq ?_
          refine tri_region (by exact tokW) (by exact gok) [] [43] rfl ?_
          intro n9 hn9
          obtain rfl : (a1_kids.length : Int) = n9 := (hn9.trans (congrArg (fun m : Nat => (m : Int)) (rlen Nd.encs_eq a1_kids))).symm
          show Tri _ _ _ _
          refine tri_cond rfl (fun hb => ?_) (fun hb => ?_)
          · replace h := bif_t hb h
            refine tri_seq ?_
            refine tri_region (by exact tokW) (by exact gok) [] [] rfl ?_
            show Tri _ _ _ _
            refine tri_ret ?_
            have hy := Option.some.inj h
            subst hy
            unfold Gives
            exact ⟨_, Le.refl _ _, rfl, rfl⟩
          · replace h := bif_f hb h
            refine tri_skip ?_
            show Tri _ _ _ _
            refine tri_seq ?_
            refine tri_region (by exact tokW) (by exact gok) [] [] rfl ?_
            obtain ⟨hq, h⟩ := req_out h
            refine And.intro (Nat.le_trans hq (by decide)) ?_
            show Tri _ _ _ _
            refine tri_seq ?_
            refine tri_seq ?_
            refine tri_region (by exact tokW) (by exact gok) [] [] rfl ?_
            show Tri _ _ _ _
            obtain ⟨x12, hl, h⟩ := bind_out h
            refine tri_post ⟨ofL [(4, .s (.str x12))], fun _ => none, 0⟩ ?_ (fun σ' hle => ?_)
            · refine tri_block (tri_loopI (X := Nat × (List UInt8) × Int) (fun y => match y with | (k, x10, x11) => ⟨ofL [(1, .s (.pt [.int .i64 a1_kind, .str a1_text, .int .i64 a1_cols, .sl 4 (Nd.encs a1_kids)])), (4, .s (.str x10)), (5, .s (.int .i64 x11))], fun _ => none, 0⟩) (fun y => m_r09_Dump_l1 (m_r09_Dump n) a1_kids y.1 y.2.1 y.2.2 = some x12) (fun y => y.1) (n, x7 ++ [40], 0) hl ?_ ?_)
              · exact (Le.forget _ ⟨rfl, rfl, rfl, trivial⟩)
              · rintro ⟨k, x10, x11⟩ h
                cases k with
                | zero => cases h
                | succ k =>
                  replace h : m_r09_Dump_l1 (m_r09_Dump n) a1_kids (k+1) x10 x11 = some x12 := h
                  rw [m_r09_Dump_l1] at h
                  refine tri_seq ?_
                  refine tri_seq ?_
                  refine tri_region (by exact tokW) (by exact gok) [] [51] rfl ?_
                  intro n13 hn13
                  obtain rfl : (a1_kids.length : Int) = n13 := (hn13.trans (congrArg (fun m : Nat => (m : Int)) (rlen Nd.encs_eq a1_kids))).symm
                  show Tri _ _ _ _
                  refine tri_cond rfl (fun hb => ?_) (fun hb => ?_)
                  · replace h := bif_t hb h
                    refine tri_skip ?_
                    show Tri _ _ _ _
                    refine tri_seq ?_
                    obtain ⟨x14, hj, h⟩ := bind_out h
                    refine tri_post ⟨ofL [(1, .s (.pt [.int .i64 a1_kind, .str a1_text, .int .i64 a1_cols, .sl 4 (Nd.encs a1_kids)])), (4, .s (.str x14)), (5, .s (.int .i64 x11))], fun _ => none, 0⟩ ?_ (fun σ' hle => ?_)
                    · replace h := hj
                      refine tri_block ?_
                      refine tri_seq ?_
                      refine tri_seq ?_
                      refine tri_region (by exact tokW) (by exact gok) [] [] rfl ?_
                      show Tri _ _ _ _
                      obtain ⟨x15, hj, h⟩ := bind_out h
                      refine tri_post ⟨ofL [(1, .s (.pt [.int .i64 a1_kind, .str a1_text, .int .i64 a1_cols, .sl 4 (Nd.encs a1_kids)])), (4, .s (.str x15)), (5, .s (.int .i64 x11))], fun _ => none, 0⟩ ?_ (fun σ' hle => ?_)
                      · replace h := hj
                        refine tri_cond rfl (fun hb => ?_) (fun hb => ?_)
                        · replace h := bif_t hb h
                          refine tri_region (by exact tokW) (by exact gok) [] [] rfl ?_
                          obtain ⟨hq, h⟩ := req_out h
                          refine And.intro (Nat.le_trans hq (by decide)) ?_
                          cases h
                          exact (Le.forget _ ⟨rfl, rfl, rfl, trivial⟩)
                        · replace h := bif_f hb h
                          refine tri_skip ?_
                          cases h
                          exact (Le.forget _ ⟨rfl, rfl, rfl, trivial⟩)
                      · show Tri _ _ _ _
                        refine tri_le hle ?_
                        refine tri_region (by exact tokW) (by exact gok) [] [63] rfl ?_
                        obtain ⟨⟨e16_kind, e16_text, e16_cols, e16_kids⟩, he16, h⟩ := bind_out h
                        refine And.intro (at_ok Nd.encs_eq he16).1 ?_
                        intro r17 hr17
                        obtain rfl : [.int .i64 e16_kind, .str e16_text, .int .i64 e16_cols, .sl 4 (Nd.encs e16_kids)] = r17 := (hr17.trans (at_ok Nd.encs_eq he16).2.1).symm
                        obtain ⟨y18, hy18, h⟩ := bind_out h
                        refine ⟨_, ⟨_, _, hy18, rfl, rfl⟩, ?_⟩
                        obtain ⟨hq, h⟩ := req_out h
                        refine And.intro (Nat.le_trans hq (by decide)) ?_
                        cases h
                        exact (Le.forget _ ⟨rfl, rfl, rfl, trivial⟩)
                    · show Tri _ _ _ _
                      refine tri_le hle ?_
                      refine tri_region (by exact tokW) (by exact gok) [] [] rfl ?_
                      refine ⟨(k, x14, IntKind.i64.wrap (x11 + 1)), h, (Le.forget _ ⟨rfl, rfl, rfl, trivial⟩), Nat.lt_succ_self k⟩
                  · replace h := bif_f hb h
                    refine tri_exit ?_
                    cases h
                    exact (Le.forget _ ⟨rfl, trivial⟩)
            · show Tri _ _ _ _
              refine tri_le hle ?_
              refine tri_seq ?_
              refine tri_region (by exact tokW) (by exact gok) [] [] rfl ?_
              obtain ⟨hq, h⟩ := req_out h
              refine And.intro (Nat.le_trans hq (by decide)) ?_
              show Tri _ _ _ _
              refine tri_ret ?_
              have hy := Option.some.inj h
              subst hy
              unfold Gives
              exact ⟨_, Le.refl _ _, rfl, rfl⟩
theorem all_r09_Dump : ∀ n, PSound Try.prog 18 (pspec (R_r09_Dump n)) := by
  intro n
  induction n with
  | zero => exact psound_none Try.call18 (fun xs r h => by obtain ⟨_, _, h, _⟩ := h; cases h)
  | succ n ih => exact step_r09_Dump n ih
def S_r09_Dump : PSpec := pspec fun xs r => ∃ n, R_r09_Dump n xs r
theorem ok_r09_Dump : PSound Try.prog 18 S_r09_Dump := psound_all all_r09_Dump
def R_r09_ValidItems (n : Nat) (xs : List AV) (r : Ret) : Prop := ∃ (a0 : List Nd) (y0 : Bool), m_r09_ValidItems n a0 = some y0 ∧ xs = [.s (.sl 4 (Nd.encs a0))] ∧ r = .val (.s (.bool y0))
def S_r09_ValidItems : PSpec := pspec fun xs r => ∃ n, R_r09_ValidItems n xs r
set_option maxHeartbeats 2000000 in
set_option maxRecDepth 100000 in
theorem ok_r09_ValidItems : PSound Try.prog 47 S_r09_ValidItems := by
  have gok : ∀ f s, look? f [(54, S_r09_ToRow), (26, S_r09_Valid)] = some s → PSound Try.prog f s := look_all (by
    simp only [List.forall_mem_cons]
    exact ⟨ok_r09_ToRow, ok_r09_Valid, by simp⟩)
  refine psound tokW Try.call47 Try.func47 rfl (fun xs r h => by obtain ⟨n, _, _, _, rfl, _⟩ := h; show 1 ≤ 6; decide) 6 rfl ?_
  rintro xs r w0 G0 ⟨n, l1, y0, h, rfl, rfl⟩ _
  rw [m_r09_ValidItems] at h
  refine tri_seq ?_
  refine tri_region (by exact tokW) (by exact gok) [] [] rfl ?_
  show Tri _ _ _ _
  refine tri_seq ?_
  refine tri_region (by exact tokW) (by exact gok) [] [] rfl ?_
  obtain ⟨⟨y2_kind, y2_text, y2_cols, y2_kids⟩, hy2, h⟩ := bind_out h
  refine ⟨_, ⟨_, _, hy2, rfl, rfl⟩, ?_⟩
  obtain ⟨y3, hy3, h⟩ := bind_out h
  refine ⟨_, ⟨_, _, _, hy3, rfl, rfl⟩, ?_⟩
  show Tri _ _ _ _
  refine tri_ret ?_
  have hy := Option.some.inj h
  subst hy
  unfold Gives
  exact ⟨_, Le.refl _ _, rfl, rfl⟩
def R_r12_template (n : Nat) (xs : List AV) (r : Ret) : Prop := ∃ (a0 : List Nd) (a1 : Int) (y0 : Bool), m_r12_template n a0 a1 = some y0 ∧ xs = [.s (.sl 4 (Nd.encs a0)), .s (.int .i64 a1)] ∧ r = .val (.s (.bool y0))
def S_r12_template : PSpec := pspec fun xs r => ∃ n, R_r12_template n xs r
set_option maxHeartbeats 2000000 in
set_option maxRecDepth 100000 in
theorem ok_r12_template : PSound Try.prog 48 S_r12_template := by
  have gok : ∀ f s, look? f [(47, S_r09_ValidItems)] = some s → PSound Try.prog f s := look_all (by
    simp only [List.forall_mem_cons]
    exact ⟨ok_r09_ValidItems, by simp⟩)
  refine psound tokW Try.call48 Try.func48 rfl (fun xs r h => by obtain ⟨n, _, _, _, _, rfl, _⟩ := h; show 2 ≤ 37; decide) 37 rfl ?_
  rintro xs r w0 G0 ⟨n, l1, slot2, y0, h, rfl, rfl⟩ _
  rw [m_r12_template] at h
  refine tri_seq ?_
  refine tri_region (by exact tokW) (by exact gok) [] [] rfl ?_
  show Tri _ _ _ _
  refine tri_seq ?_
  obtain ⟨x3, hj, h⟩ := bind_out h
  refine tri_post ⟨ofL [(4, .s (.bool x3))], fun _ => none, 0⟩ ?_ (fun σ' hle => ?_)
  · replace h := hj
    refine tri_region (by exact tokW) (by exact gok) [] [6, 8, 12, 16, 19, 22, 25, 27, 31, 34] rfl ?_
    intro n4 hn4
    obtain rfl : (l1.length : Int) = n4 := (hn4.trans (congrArg (fun m : Nat => (m : Int)) (rlen Nd.encs_eq l1))).symm
    intro b hb
    cases b with
    | true =>
      replace h := bif_t hb.symm h
      obtain ⟨y5, hy5, h⟩ := bind_out h
      refine ⟨_, ⟨_, _, _, hy5, rfl, rfl⟩, ?_⟩
      intro b hb
      cases b with
      | true =>
        replace h := bif_t hb.symm h
        intro b hb
        cases b with
        | true =>
          replace h := bif_t hb.symm h
          obtain ⟨⟨e6_kind, e6_text, e6_cols, e6_kids⟩, he6, h⟩ := bind_out h
          refine And.intro (at_ok Nd.encs_eq he6).1 ?_
          intro r7 hr7
          obtain rfl : [.int .i64 e6_kind, .str e6_text, .int .i64 e6_cols, .sl 4 (Nd.encs e6_kids)] = r7 := (hr7.trans (at_ok Nd.encs_eq he6).2.1).symm
          intro n8 hn8
          obtain rfl : (e6_kids.length : Int) = n8 := (hn8.trans (congrArg (fun m : Nat => (m : Int)) (rlen Nd.encs_eq e6_kids))).symm
          intro b hb
          cases b with
          | true =>
            replace h := bif_t hb.symm h
            obtain ⟨⟨e9_kind, e9_text, e9_cols, e9_kids⟩, he9, h⟩ := bind_out h
            refine And.intro (at_ok Nd.encs_eq he9).1 ?_
            intro r10 hr10
            obtain rfl : [.int .i64 e9_kind, .str e9_text, .int .i64 e9_cols, .sl 4 (Nd.encs e9_kids)] = r10 := (hr10.trans (at_ok Nd.encs_eq he9).2.1).symm
            obtain ⟨⟨e11_kind, e11_text, e11_cols, e11_kids⟩, he11, h⟩ := bind_out h
            refine And.intro (at_ok Nd.encs_eq he11).1 ?_
            intro r12 hr12
            obtain rfl : [.int .i64 e11_kind, .str e11_text, .int .i64 e11_cols, .sl 4 (Nd.encs e11_kids)] = r12 := (hr12.trans (at_ok Nd.encs_eq he11).2.1).symm
            intro n13 hn13
            obtain rfl : (e11_kids.length : Int) = n13 := (hn13.trans (congrArg (fun m : Nat => (m : Int)) (rlen Nd.encs_eq e11_kids))).symm
            cases h
            exact (Le.forget _ ⟨rfl, trivial⟩)
          | false =>
            replace h := bif_f hb.symm h
            cases h
            exact (Le.forget _ ⟨rfl, trivial⟩)
        | false =>
          replace h := bif_f hb.symm h
          intro b hb
          subst hb
          cases h
          exact (Le.forget _ ⟨rfl, trivial⟩)
      | false =>
        replace h := bif_f hb.symm h
        intro b hb
        subst hb
        intro b hb
        subst hb
        cases h
        exact (Le.forget _ ⟨rfl, trivial⟩)
    | false =>
      replace h := bif_f hb.symm h
      intro b hb
      subst hb
      intro b hb
      subst hb
      intro b hb
      subst hb
      cases h
      exact (Le.forget _ ⟨rfl, trivial⟩)
  · show Tri _ _ _ _
    refine tri_le hle ?_
    refine tri_ret ?_
    have hy := Option.some.inj h
    subst hy
    unfold Gives
    exact ⟨_, Le.refl _ _, rfl, rfl⟩
def R_r12_Formed (n : Nat) (xs : List AV) (r : Ret) : Prop := ∃ (a0 : (Int × List Int × Int × Int × List Nd × Int × List UInt8 × List UInt8)) (y0 : Bool), m_r12_Formed n a0 = some y0 ∧ xs = [.agg ((enc_api_Op a0).map .s)] ∧ r = .val (.s (.bool y0))
def S_r12_Formed : PSpec := pspec fun xs r => ∃ n, R_r12_Formed n xs r
set_option maxHeartbeats 2000000 in
set_option maxRecDepth 100000 in
theorem ok_r12_Formed : PSound Try.prog 22 S_r12_Formed := by
  have gok : ∀ f s, look? f [(47, S_r09_ValidItems), (48, S_r12_template)] = some s → PSound Try.prog f s := look_all (by
    simp only [List.forall_mem_cons]
    exact ⟨ok_r09_ValidItems, ok_r12_template, by simp⟩)
  refine psound tokW Try.call22 Try.func22 rfl (fun xs r h => by obtain ⟨n, _, _, _, rfl, _⟩ := h; show 1 ≤ 83; decide) 83 rfl ?_
  rintro xs r w0 G0 ⟨n, ⟨a1_kind, a1_row, a1_at, a1_n, a1_nodes, a1_slot, a1_old, a1_text⟩, y0, h, rfl, rfl⟩ _
  rw [m_r12_Formed] at h
  refine tri_seq ?_
  refine tri_region (by exact tokW) (by exact gok) [] [] rfl ?_
  show Tri _ _ _ _
  refine tri_seq ?_
  refine tri_seq ?_
  refine tri_region (by exact tokW) (by exact gok) [] [] rfl ?_
  show Tri _ _ _ _
  obtain ⟨fl, hj, ho1⟩ := bind_out h
  refine tri_fl (fl := fl) (fun z => match z with | _ => ⟨ofL [], fun _ => none, 0⟩) ?_ (fun z σ' hz hle => ?_)
  · replace h := hj
    refine tri_block ?_
    refine tri_seq ?_
    refine tri_seq ?_
    refine tri_region (by exact tokW) (by exact gok) [] [] rfl ?_
    show Tri _ _ _ _
    obtain ⟨x2, hj, h⟩ := bind_out h
    refine tri_post ⟨ofL [(1, .s (.pt [.int .i64 a1_kind, .sl 1 ((List.map (irow .i64)) a1_row), .int .i64 a1_at, .int .i64 a1_n, .sl 4 (Nd.encs a1_nodes), .int .i64 a1_slot, .str a1_old, .str a1_text])), (4, .s (.int .i64 a1_kind)), (5, .s (.bool x2))], fun _ => none, 0⟩ ?_ (fun σ' hle => ?_)
    · replace h := hj
      refine tri_cond rfl (fun hb => ?_) (fun hb => ?_)
      · replace h := bif_t hb h
        refine tri_skip ?_
        cases h
        exact (Le.forget _ ⟨rfl, rfl, rfl, trivial⟩)
      · replace h := bif_f hb h
        refine tri_region (by exact tokW) (by exact gok) [] [] rfl ?_
        cases h
        exact (Le.forget _ ⟨rfl, rfl, rfl, trivial⟩)
    · show Tri _ _ _ _
      refine tri_le hle ?_
      refine tri_cond rfl (fun hb => ?_) (fun hb => ?_)
      · replace h := bif_t hb h
        refine tri_seq ?_
        obtain ⟨x3, hj, h⟩ := bind_out h
        refine tri_post ⟨ofL [(2, .s (.bool x3))], fun _ => none, 0⟩ ?_ (fun σ' hle => ?_)
        · replace h := hj
          refine tri_region (by exact tokW) (by exact gok) [] [10, 12, 17, 22, 27, 32] rfl ?_
          intro n4 hn4
          obtain rfl : (a1_nodes.length : Int) = n4 := (hn4.trans (congrArg (fun m : Nat => (m : Int)) (rlen Nd.encs_eq a1_nodes))).symm
          intro b hb
          cases b with
          | true =>
            replace h := bif_t hb.symm h
            obtain ⟨y5, hy5, h⟩ := bind_out h
            refine ⟨_, ⟨_, _, _, hy5, rfl, rfl⟩, ?_⟩
            intro b hb
            cases b with
            | true =>
              replace h := bif_t hb.symm h
              intro b hb
              cases b with
              | true =>
                replace h := bif_t hb.symm h
                intro b hb
                cases b with
                | true =>
                  replace h := bif_t hb.symm h
                  intro b hb
                  cases b with
                  | true =>
                    replace h := bif_t hb.symm h
                    cases h
                    exact (Le.forget _ ⟨rfl, trivial⟩)
                  | false =>
                    replace h := bif_f hb.symm h
                    cases h
                    exact (Le.forget _ ⟨rfl, trivial⟩)
                | false =>
                  replace h := bif_f hb.symm h
                  intro b hb
                  subst hb
                  cases h
                  exact (Le.forget _ ⟨rfl, trivial⟩)
              | false =>
                replace h := bif_f hb.symm h
                intro b hb
                subst hb
                intro b hb
                subst hb
                cases h
                exact (Le.forget _ ⟨rfl, trivial⟩)
            | false =>
              replace h := bif_f hb.symm h
              intro b hb
              subst hb
              intro b hb
              subst hb
              intro b hb
              subst hb
              cases h
              exact (Le.forget _ ⟨rfl, trivial⟩)
          | false =>
            replace h := bif_f hb.symm h
            intro b hb
            subst hb
            intro b hb
            subst hb
            intro b hb
            subst hb
            intro b hb
            subst hb
            cases h
            exact (Le.forget _ ⟨rfl, trivial⟩)
        · show Tri _ _ _ _
          refine tri_le hle ?_
          refine tri_ret ?_
          cases h
          replace h : some _ = some _ := ho1
          have hy := Option.some.inj h
          subst hy
          unfold Gives
          exact ⟨_, Le.refl _ _, rfl, rfl⟩
      · replace h := bif_f hb h
        refine tri_seq ?_
        refine tri_seq ?_
        refine tri_region (by exact tokW) (by exact gok) [] [] rfl ?_
        show Tri _ _ _ _
        obtain ⟨x6, hj, h⟩ := bind_out h
        refine tri_post ⟨ofL [(1, .s (.pt [.int .i64 a1_kind, .sl 1 ((List.map (irow .i64)) a1_row), .int .i64 a1_at, .int .i64 a1_n, .sl 4 (Nd.encs a1_nodes), .int .i64 a1_slot, .str a1_old, .str a1_text])), (4, .s (.int .i64 a1_kind)), (37, .s (.bool x6))], fun _ => none, 0⟩ ?_ (fun σ' hle => ?_)
        · replace h := hj
          refine tri_cond rfl (fun hb => ?_) (fun hb => ?_)
          · replace h := bif_t hb h
            refine tri_skip ?_
            cases h
            exact (Le.forget _ ⟨rfl, rfl, rfl, trivial⟩)
          · replace h := bif_f hb h
            refine tri_region (by exact tokW) (by exact gok) [] [] rfl ?_
            cases h
            exact (Le.forget _ ⟨rfl, rfl, rfl, trivial⟩)
        · show Tri _ _ _ _
          refine tri_le hle ?_
          refine tri_cond rfl (fun hb => ?_) (fun hb => ?_)
          · replace h := bif_t hb h
            refine tri_seq ?_
            obtain ⟨x7, hj, h⟩ := bind_out h
            refine tri_post ⟨ofL [(2, .s (.bool x7))], fun _ => none, 0⟩ ?_ (fun σ' hle => ?_)
            · replace h := hj
              refine tri_region (by exact tokW) (by exact gok) [] [43, 50, 55] rfl ?_
              intro b hb
              cases b with
              | true =>
                replace h := bif_t hb.symm h
                obtain ⟨y8, hy8, h⟩ := bind_out h
                refine ⟨_, ⟨_, _, _, _, hy8, rfl, rfl⟩, ?_⟩
                intro b hb
                cases b with
                | true =>
                  replace h := bif_t hb.symm h
                  intro b hb
                  cases b with
                  | true =>
                    replace h := bif_t hb.symm h
                    cases h
                    exact (Le.forget _ ⟨rfl, trivial⟩)
                  | false =>
                    replace h := bif_f hb.symm h
                    cases h
                    exact (Le.forget _ ⟨rfl, trivial⟩)
                | false =>
                  replace h := bif_f hb.symm h
                  intro b hb
                  subst hb
                  cases h
                  exact (Le.forget _ ⟨rfl, trivial⟩)
              | false =>
                replace h := bif_f hb.symm h
                intro b hb
                subst hb
                intro b hb
                subst hb
                cases h
                exact (Le.forget _ ⟨rfl, trivial⟩)
            · show Tri _ _ _ _
              refine tri_le hle ?_
              refine tri_ret ?_
              cases h
              replace h : some _ = some _ := ho1
              have hy := Option.some.inj h
              subst hy
              unfold Gives
              exact ⟨_, Le.refl _ _, rfl, rfl⟩
          · replace h := bif_f hb h
            refine tri_seq ?_
            refine tri_region (by exact tokW) (by exact gok) [] [] rfl ?_
            show Tri _ _ _ _
            refine tri_cond rfl (fun hb => ?_) (fun hb => ?_)
            · replace h := bif_t hb h
              refine tri_seq ?_
              obtain ⟨x9, hj, h⟩ := bind_out h
              refine tri_post ⟨ofL [(2, .s (.bool x9))], fun _ => none, 0⟩ ?_ (fun σ' hle => ?_)
              · replace h := hj
                refine tri_region (by exact tokW) (by exact gok) [] [67, 70, 73, 78] rfl ?_
                intro b hb
                cases b with
                | true =>
                  replace h := bif_t hb.symm h
                  intro n10 hn10
                  obtain rfl : (a1_nodes.length : Int) = n10 := (hn10.trans (congrArg (fun m : Nat => (m : Int)) (rlen Nd.encs_eq a1_nodes))).symm
                  intro b hb
                  cases b with
                  | true =>
                    replace h := bif_t hb.symm h
                    intro b hb
                    cases b with
                    | true =>
                      replace h := bif_t hb.symm h
                      cases h
                      exact (Le.forget _ ⟨rfl, trivial⟩)
                    | false =>
                      replace h := bif_f hb.symm h
                      cases h
                      exact (Le.forget _ ⟨rfl, trivial⟩)
                  | false =>
                    replace h := bif_f hb.symm h
                    intro b hb
                    subst hb
                    cases h
                    exact (Le.forget _ ⟨rfl, trivial⟩)
                | false =>
                  replace h := bif_f hb.symm h
                  intro b hb
                  subst hb
                  intro b hb
                  subst hb
                  cases h
                  exact (Le.forget _ ⟨rfl, trivial⟩)
              · show Tri _ _ _ _
                refine tri_le hle ?_
                refine tri_ret ?_
                cases h
                replace h : some _ = some _ := ho1
                have hy := Option.some.inj h
                subst hy
                unfold Gives
                exact ⟨_, Le.refl _ _, rfl, rfl⟩
            · replace h := bif_f hb h
              refine tri_skip ?_
              cases h
              exact ⟨_, rfl, (Le.forget _ trivial)⟩
  · subst hz
    obtain _ := z
    replace h := ho1
    show Tri _ _ _ _
    refine tri_le hle ?_
    refine tri_seq ?_
    refine tri_region (by exact tokW) (by exact gok) [] [] rfl ?_
    show Tri _ _ _ _
    refine tri_ret ?_
    have hy := Option.some.inj h
    subst hy
    unfold Gives
    exact ⟨_, Le.refl _ _, rfl, rfl⟩
def R_r12_splice (xs : List AV) (r : Ret) : Prop := ∃ (a0 : List Nd) (a1 : Int) (a2 : Int) (a3 : List Nd) (y0 : List Nd), m_r12_splice a0 a1 a2 a3 = some y0 ∧ xs = [.s (.sl 4 (Nd.encs a0)), .s (.int .i64 a1), .s (.int .i64 a2), .s (.sl 4 (Nd.encs a3))] ∧ r = .row 24 4 (Nd.encs y0)
def S_r12_splice : PSpec := pspec fun xs r => R_r12_splice xs r
set_option maxHeartbeats 2000000 in
set_option maxRecDepth 100000 in
theorem ok_r12_splice : PSound Try.prog 65 S_r12_splice := by
  have gok : ∀ (f : Nat) (s : PSpec), (fun _ => none : Nat → Option PSpec) f = some s → PSound Try.prog f s := fun _ _ h => by cases h
  refine psound tokW Try.call65 Try.func65 rfl (fun xs r h => by obtain ⟨_, _, _, _, _, _, rfl, _⟩ := h; show 4 ≤ 23; decide) 23 rfl ?_
  rintro xs r w0 G0 ⟨l1, at2, to3, by4, y0, h, rfl, rfl⟩ _
  rw [m_r12_splice] at h
  refine tri_seq ?_
  refine tri_region (by exact tokW) (by exact gok) [8] [] rfl ?_
  show Tri _ _ _ _
  refine tri_le (Le.rename [] [(0, .s (.sl 4 (Nd.encs l1))), (1, .s (.int .i64 at2)), (2, .s (.int .i64 to3)), (3, .s (.sl 4 (Nd.encs by4)))] [] 0 ⟨rfl, rfl, rfl, rfl, trivial⟩ trivial rfl rfl rfl rfl rfl) ?_
  refine tri_seq ?_
  refine tri_region (by exact tokW) (by exact gok) [10, 14] [13] rfl ?_
  obtain ⟨hq, h⟩ := req_out h
  refine And.intro ⟨hq.1, hq.2.1, Int.le_trans hq.2.2 (Int.ofNat_le.2 (Nat.le_of_eq (rlen Nd.encs_eq _).symm))⟩ ?_
  intro r5 hr5
  obtain rfl : Nd.encs ((l1.take at2.toNat).drop (0 : Int).toNat) = r5 := (hr5.trans (rcut Nd.encs_eq _ _ _)).symm
  obtain ⟨hq, h⟩ := req_out h
  refine And.intro (show (([] : List (List S)).length + (Nd.encs ((l1.take at2.toNat).drop (0 : Int).toNat)).length) * 56 ≤ 140737488355328 ∧ ([] : List (List S)).length + (Nd.encs ((l1.take at2.toNat).drop (0 : Int).toNat)).length ≤ 9223372036854775807 from by simp only [List.length_append, List.length_cons, List.length_nil, List.length_map, rlen Nd.encs_eq] at hq ⊢; omega) ?_
  show Tri _ _ _ _
  refine tri_le (Le.rename [(1, 0)] [(0, .s (.sl 4 (Nd.encs l1))), (2, .s (.int .i64 to3)), (3, .s (.sl 4 (Nd.encs by4))), (9, .orow 0)] [(0, .row 24 4 (Nd.encs ((l1.take at2.toNat).drop (0 : Int).toNat)))] 1 ⟨rfl, rfl, rfl, rfl, trivial⟩ ⟨rfl, ⟨_, rfl, congrArg (Ob.row 24 4) (by simp [List.map_append, List.map_take, List.map_drop, irow, brow, b8of_row, List.map_cons, List.map_nil, b8of_wrap, Nd.encs_eq, Nd.enc, enc_13_node_kind, enc_node_checker, enc_s_api_Node, enc_edit_change, enc_api_Op, enc_string])⟩, trivial⟩ rfl rfl rfl rfl rfl) ?_
  refine tri_seq ?_
  refine tri_region (by exact tokW) (by exact gok) [17] [] rfl ?_
  obtain ⟨hq, h⟩ := req_out h
  refine And.intro (show ((Nd.encs ((l1.take at2.toNat).drop (0 : Int).toNat)).length + (Nd.encs by4).length) * 56 ≤ 140737488355328 ∧ (Nd.encs ((l1.take at2.toNat).drop (0 : Int).toNat)).length + (Nd.encs by4).length ≤ 9223372036854775807 from by simp only [List.length_append, List.length_cons, List.length_nil, List.length_map, rlen Nd.encs_eq] at hq ⊢; omega) ?_
  show Tri _ _ _ _
  refine tri_le (Le.rename [(1, 0)] [(0, .s (.sl 4 (Nd.encs l1))), (2, .s (.int .i64 to3)), (9, .orow 0)] [(0, .row 24 4 (Nd.encs (((l1.take at2.toNat).drop (0 : Int).toNat) ++ by4)))] 1 ⟨rfl, rfl, rfl, trivial⟩ ⟨rfl, ⟨_, rfl, congrArg (Ob.row 24 4) (by simp [List.map_append, List.map_take, List.map_drop, irow, brow, b8of_row, List.map_cons, List.map_nil, b8of_wrap, Nd.encs_eq, Nd.enc, enc_13_node_kind, enc_node_checker, enc_s_api_Node, enc_edit_change, enc_api_Op, enc_string])⟩, trivial⟩ rfl rfl rfl rfl rfl) ?_
  refine tri_seq ?_
  refine tri_region (by exact tokW) (by exact gok) [22] [21] rfl ?_
  obtain ⟨hq, h⟩ := req_out h
  refine And.intro ⟨hq.1, Int.le_trans hq.2.1 (Int.ofNat_le.2 (Nat.le_of_eq (rlen Nd.encs_eq _).symm)), Int.le_refl _⟩ ?_
  intro r6 hr6
  obtain rfl : Nd.encs ((l1.take (l1.length : Int).toNat).drop to3.toNat) = r6 := (hr6.trans ((congrArg (fun m : Nat => ((Nd.encs l1).take m).drop to3.toNat) (rlen Nd.encs_eq _)).trans (rcut Nd.encs_eq _ _ _))).symm
  obtain ⟨hq, h⟩ := req_out h
  refine And.intro (show ((Nd.encs (((l1.take at2.toNat).drop (0 : Int).toNat) ++ by4)).length + (Nd.encs ((l1.take (l1.length : Int).toNat).drop to3.toNat)).length) * 56 ≤ 140737488355328 ∧ (Nd.encs (((l1.take at2.toNat).drop (0 : Int).toNat) ++ by4)).length + (Nd.encs ((l1.take (l1.length : Int).toNat).drop to3.toNat)).length ≤ 9223372036854775807 from by simp only [List.length_append, List.length_cons, List.length_nil, List.length_map, rlen Nd.encs_eq] at hq ⊢; omega) ?_
  show Tri _ _ _ _
  refine tri_le (Le.rename [(1, 0)] [(8, .orow 0)] [(0, .row 24 4 (Nd.encs ((((l1.take at2.toNat).drop (0 : Int).toNat) ++ by4) ++ ((l1.take (l1.length : Int).toNat).drop to3.toNat))))] 1 ⟨rfl, trivial⟩ ⟨rfl, ⟨_, rfl, congrArg (Ob.row 24 4) (by simp [List.map_append, List.map_take, List.map_drop, irow, brow, b8of_row, List.map_cons, List.map_nil, b8of_wrap, Nd.encs_eq, Nd.enc, enc_13_node_kind, enc_node_checker, enc_s_api_Node, enc_edit_change, enc_api_Op, enc_string])⟩, trivial⟩ rfl rfl rfl rfl rfl) ?_
  refine tri_ret ?_
  have hy := Option.some.inj h
  subst hy
  unfold Gives
  exact ⟨_, Le.refl _ _, 0, rfl, rfl⟩
def R_r09_Replaced (xs : List AV) (r : Ret) : Prop := ∃ (a0 : Nd) (a1 : Int) (a2 : Nd) (y0 : Nd), m_r09_Replaced a0 a1 a2 = some y0 ∧ xs = [.agg ((Nd.enc a0).map .s), .s (.int .i64 a1), .agg ((Nd.enc a2).map .s)] ∧ r = .val (.agg ((Nd.enc y0).map .s))
def S_r09_Replaced : PSpec := pspec fun xs r => R_r09_Replaced xs r
set_option maxHeartbeats 2000000 in
set_option maxRecDepth 100000 in
theorem ok_r09_Replaced : PSound Try.prog 67 S_r09_Replaced := by
  have gok : ∀ (f : Nat) (s : PSpec), (fun _ => none : Nat → Option PSpec) f = some s → PSound Try.prog f s := fun _ _ h => by cases h
  refine psound tokW Try.call67 Try.func67 rfl (fun xs r h => by obtain ⟨_, _, _, _, _, rfl, _⟩ := h; show 3 ≤ 18; decide) 18 rfl ?_
  rintro xs r w0 G0 ⟨⟨n1_kind, n1_text, n1_cols, n1_kids⟩, i2, ⟨kid3_kind, kid3_text, kid3_cols, kid3_kids⟩, y0, h, rfl, rfl⟩ _
  rw [m_r09_Replaced] at h
  refine tri_seq ?_
  refine tri_region (by exact tokW) (by exact gok) [3, 6] [] rfl ?_
  show Tri _ _ _ _
  refine tri_seq ?_
  refine tri_region (by exact tokW) (by exact gok) [7, 10] [] rfl ?_
  obtain ⟨hq, h⟩ := req_out h
  refine And.intro (show (([] : List (List S)).length + (Nd.encs n1_kids).length) * 56 ≤ 140737488355328 ∧ ([] : List (List S)).length + (Nd.encs n1_kids).length ≤ 9223372036854775807 from by simp only [List.length_append, List.length_cons, List.length_nil, List.length_map, rlen Nd.encs_eq] at hq ⊢; omega) ?_
  show Tri _ _ _ _
  refine tri_le (Le.rename [(0, 0), (3, 1), (1, 2)] [(1, .s (.int .i64 i2)), (3, .op 0 0), (5, .s (.pt [.int .i64 kid3_kind, .str kid3_text, .int .i64 kid3_cols, .sl 4 (Nd.encs kid3_kids)])), (6, .op 2 0)] [(0, .box 24 [.s (.int .i64 n1_kind), .s (.str n1_text), .s (.int .i64 n1_cols), .orow 1]), (1, .row 24 4 (Nd.encs n1_kids)), (2, .box 24 [.s (.int .i64 0), .s (.str []), .s (.int .i64 0), .nl 4])] 3 ⟨rfl, rfl, rfl, rfl, trivial⟩ ⟨rfl, ⟨_, rfl, rfl⟩, rfl, ⟨_, rfl, congrArg (Ob.row 24 4) (by simp [List.map_append, List.map_take, List.map_drop, irow, brow, b8of_row, List.map_cons, List.map_nil, b8of_wrap, Nd.encs_eq, Nd.enc, enc_13_node_kind, enc_node_checker, enc_s_api_Node, enc_edit_change, enc_api_Op, enc_string])⟩, rfl, ⟨_, rfl, rfl⟩, trivial⟩ rfl rfl rfl rfl rfl) ?_
  refine tri_seq ?_
  refine tri_region (by exact tokW) (by exact gok) [] [] rfl ?_
  obtain ⟨⟨e4_kind, e4_text, e4_cols, e4_kids⟩, he4, h⟩ := bind_out h
  refine And.intro (at_ok Nd.encs_eq he4).1 ?_
  have hset5 := (rset (R := Nd.encs) (f := Nd.enc) Nd.encs_eq he4 (Nd.mk kid3_kind kid3_text kid3_cols kid3_kids) 0 4 [.int .i64 kid3_kind, .str kid3_text, .int .i64 kid3_cols, .sl 4 (Nd.encs kid3_kids)] rfl)
  have hat5 := at_set he4 (Nd.mk kid3_kind kid3_text kid3_cols kid3_kids)
  refine And.intro (at_ok Nd.encs_eq he4).2.2 ?_
  show Tri _ _ _ _
  refine tri_le (Le.rename [(0, 0), (1, 1), (2, 2)] [(3, .op 0 0), (6, .op 2 0)] [(0, .box 24 [.s (.int .i64 n1_kind), .s (.str n1_text), .s (.int .i64 n1_cols), .orow 1]), (1, .row 24 4 (Nd.encs (n1_kids.set i2.toNat (Nd.mk kid3_kind kid3_text kid3_cols kid3_kids)))), (2, .box 24 [.s (.int .i64 0), .s (.str []), .s (.int .i64 0), .nl 4])] 3 ⟨rfl, rfl, trivial⟩ ⟨rfl, ⟨_, rfl, rfl⟩, rfl, ⟨_, rfl, congrArg (Ob.row 24 4) hset5⟩, rfl, ⟨_, rfl, rfl⟩, trivial⟩ rfl rfl rfl rfl rfl) ?_
  refine tri_seq ?_
  refine tri_region (by exact tokW) (by exact gok) [] [] rfl ?_
  show Tri _ _ _ _
  refine tri_ret ?_
  have hy := Option.some.inj h
  subst hy
  unfold Gives
  exact ⟨_, (Le.trans (Le.rename [(2, 0), (1, 1)] [(6, .op 0 0)] [(0, .box 24 [.s (.int .i64 n1_kind), .s (.str n1_text), .s (.int .i64 n1_cols), .orow 1]), (1, .row 24 4 (Nd.encs (n1_kids.set i2.toNat (Nd.mk kid3_kind kid3_text kid3_cols kid3_kids))))] 2 ⟨rfl, trivial⟩ ⟨rfl, ⟨_, rfl, rfl⟩, rfl, ⟨_, rfl, rfl⟩, trivial⟩ rfl rfl rfl rfl rfl) (Le.giveRow 1 rfl)), rfl, rfl⟩
def R_r12_filled (xs : List AV) (r : Ret) : Prop := ∃ (a0 : Nd) (a1 : Int) (a2 : List Nd) (y0 : Nd), m_r12_filled a0 a1 a2 = some y0 ∧ xs = [.agg ((Nd.enc a0).map .s), .s (.int .i64 a1), .s (.sl 4 (Nd.encs a2))] ∧ r = .val (.agg ((Nd.enc y0).map .s))
def S_r12_filled : PSpec := pspec fun xs r => R_r12_filled xs r
set_option maxHeartbeats 2000000 in
set_option maxRecDepth 100000 in
theorem ok_r12_filled : PSound Try.prog 66 S_r12_filled := by
  have gok : ∀ f s, look? f [(54, S_r09_ToRow), (67, S_r09_Replaced)] = some s → PSound Try.prog f s := look_all (by
    simp only [List.forall_mem_cons]
    exact ⟨ok_r09_ToRow, ok_r09_Replaced, by simp⟩)
  refine psound tokW Try.call66 Try.func66 rfl (fun xs r h => by obtain ⟨_, _, _, _, _, rfl, _⟩ := h; show 3 ≤ 14; decide) 14 rfl ?_
  rintro xs r w0 G0 ⟨⟨n1_kind, n1_text, n1_cols, n1_kids⟩, slot2, l3, y0, h, rfl, rfl⟩ _
  rw [m_r12_filled] at h
  refine tri_seq ?_
  refine tri_region (by exact tokW) (by exact gok) [6] [] rfl ?_
  show Tri _ _ _ _
  refine tri_seq ?_
  refine tri_drawnR (by exact tokW) (by exact gok) (by exact mixed) [9, 11] [] [2, 4, 5, 7] [] rfl (by decide +kernel) ?_
  obtain ⟨hq, h⟩ := req_out h
  refine And.intro (show (([] : List (List S)).length + (Nd.encs l3).length) * 56 ≤ 140737488355328 ∧ ([] : List (List S)).length + (Nd.encs l3).length ≤ 9223372036854775807 from by simp only [List.length_append, List.length_cons, List.length_nil, List.length_map, rlen Nd.encs_eq] at hq ⊢; omega) ?_
  obtain ⟨⟨y4_kind, y4_text, y4_cols, y4_kids⟩, hy4, h⟩ := bind_out h
  refine ⟨_, ⟨_, _, hy4, (congrArg (fun r => [AV.s (.sl 4 r)]) (show [] ++ (Nd.encs l3) = Nd.encs l3 from (by simp [List.map_append, List.map_take, List.map_drop, irow, brow, b8of_row, List.map_cons, List.map_nil, b8of_wrap, Nd.encs_eq, Nd.enc, enc_13_node_kind, enc_node_checker, enc_s_api_Node, enc_edit_change, enc_api_Op, enc_string]))), rfl⟩, ?_⟩
  obtain ⟨⟨y5_kind, y5_text, y5_cols, y5_kids⟩, hy5, h⟩ := bind_out h
  refine ⟨_, ⟨_, _, _, _, hy5, rfl, rfl⟩, ?_⟩
  show Tri _ _ _ _
  refine tri_ret ?_
  have hy := Option.some.inj h
  subst hy
  unfold Gives
  exact ⟨_, Le.refl _ _, rfl, rfl⟩
def R_r12_change (n : Nat) (xs : List AV) (r : Ret) : Prop := ∃ (a0 : List Nd) (a1 : (Int × List Int × Int × Int × List Nd × Int × List UInt8 × List UInt8)) (y0 : List Nd) (y1 : Int), m_r12_change n a0 a1 = some (y0, y1) ∧ xs = [.s (.sl 4 (Nd.encs a0)), .agg ((enc_api_Op a1).map .s)] ∧ r = .val (.tup [.s (.sl 4 (Nd.encs y0)), .s (.int .i64 y1)])
def S_r12_change : PSpec := pspec fun xs r => ∃ n, R_r12_change n xs r
set_option maxHeartbeats 2000000 in
set_option maxRecDepth 100000 in
theorem ok_r12_change : PSound Try.prog 43 S_r12_change := by
  have gok : ∀ f s, look? f [(65, S_r12_splice), (40, S_r09_SameItems), (66, S_r12_filled), (17, S_r09_Equal)] = some s → PSound Try.prog f s := look_all (by
    simp only [List.forall_mem_cons]
    exact ⟨ok_r12_splice, ok_r09_SameItems, ok_r12_filled, ok_r09_Equal, by simp⟩)
  refine psound tokW Try.call43 Try.func43 rfl (fun xs r h => by obtain ⟨n, _, _, _, _, _, rfl, _⟩ := h; show 2 ≤ 173; decide) 173 rfl ?_
  rintro xs r w0 G0 ⟨n, a1, ⟨a2_kind, a2_row, a2_at, a2_n, a2_nodes, a2_slot, a2_old, a2_text⟩, y0, y1, h, rfl, rfl⟩ _
  rw [m_r12_change] at h
  refine tri_seq ?_
  refine tri_region (by exact tokW) (by exact gok) [] [] rfl ?_
  show Tri _ _ _ _
  refine tri_seq ?_
  refine tri_region (by exact tokW) (by exact gok) [] [] rfl ?_
  show Tri _ _ _ _
  refine tri_seq ?_
  refine tri_seq ?_
  refine tri_region (by exact tokW) (by exact gok) [] [] rfl ?_
  show Tri _ _ _ _
  obtain ⟨x3, hj, h⟩ := bind_out h
  refine tri_post ⟨ofL [(0, .s (.sl 4 (Nd.encs a1))), (3, .s (.pt [.int .i64 a2_kind, .sl 1 ((List.map (irow .i64)) a2_row), .int .i64 a2_at, .int .i64 a2_n, .sl 4 (Nd.encs a2_nodes), .int .i64 a2_slot, .str a2_old, .str a2_text])), (6, .s (.int .i64 x3))], fun _ => none, 0⟩ ?_ (fun σ' hle => ?_)
  · replace h := hj
    refine tri_block ?_
    refine tri_seq ?_
    refine tri_region (by exact tokW) (by exact gok) [] [] rfl ?_
    show Tri _ _ _ _
    refine tri_cond rfl (fun hb => ?_) (fun hb => ?_)
    · replace h := bif_t hb h
      refine tri_region (by exact tokW) (by exact gok) [] [] rfl ?_
      cases h
      exact (Le.forget _ ⟨rfl, rfl, rfl, trivial⟩)
    · replace h := bif_f hb h
      refine tri_seq ?_
      refine tri_region (by exact tokW) (by exact gok) [] [] rfl ?_
      show Tri _ _ _ _
      refine tri_cond rfl (fun hb => ?_) (fun hb => ?_)
      · replace h := bif_t hb h
        refine tri_region (by exact tokW) (by exact gok) [] [17] rfl ?_
        intro n4 hn4
        obtain rfl : (a2_nodes.length : Int) = n4 := (hn4.trans (congrArg (fun m : Nat => (m : Int)) (rlen Nd.encs_eq a2_nodes))).symm
        cases h
        exact (Le.forget _ ⟨rfl, rfl, rfl, trivial⟩)
      · replace h := bif_f hb h
        refine tri_seq ?_
        refine tri_region (by exact tokW) (by exact gok) [] [] rfl ?_
        show Tri _ _ _ _
        refine tri_cond rfl (fun hb => ?_) (fun hb => ?_)
        · replace h := bif_t hb h
          refine tri_region (by exact tokW) (by exact gok) [] [] rfl ?_
          cases h
          exact (Le.forget _ ⟨rfl, rfl, rfl, trivial⟩)
        · replace h := bif_f hb h
          refine tri_skip ?_
          cases h
          exact (Le.forget _ ⟨rfl, rfl, rfl, trivial⟩)
  · show Tri _ _ _ _
    refine tri_le hle ?_
    refine tri_seq ?_
    refine tri_seq ?_
    obtain ⟨x5, hj, h⟩ := bind_out h
    refine tri_post ⟨ofL [(0, .s (.sl 4 (Nd.encs a1))), (3, .s (.pt [.int .i64 a2_kind, .sl 1 ((List.map (irow .i64)) a2_row), .int .i64 a2_at, .int .i64 a2_n, .sl 4 (Nd.encs a2_nodes), .int .i64 a2_slot, .str a2_old, .str a2_text])), (6, .s (.int .i64 x3)), (40, .s (.bool x5))], fun _ => none, 0⟩ ?_ (fun σ' hle => ?_)
    · replace h := hj
      refine tri_region (by exact tokW) (by exact gok) [] [25, 29, 32, 35] rfl ?_
      intro b hb
      cases b with
      | true =>
        replace h := bif_t hb.symm h
        intro b hb
        subst hb
        cases h
        exact (Le.forget _ ⟨rfl, rfl, rfl, rfl, trivial⟩)
      | false =>
        replace h := bif_f hb.symm h
        intro n6 hn6
        obtain rfl : (a1.length : Int) = n6 := (hn6.trans (congrArg (fun m : Nat => (m : Int)) (rlen Nd.encs_eq a1))).symm
        intro b hb
        cases b with
        | true =>
          replace h := bif_t hb.symm h
          cases h
          exact (Le.forget _ ⟨rfl, rfl, rfl, rfl, trivial⟩)
        | false =>
          replace h := bif_f hb.symm h
          intro n7 hn7
          obtain rfl : (a1.length : Int) = n7 := (hn7.trans (congrArg (fun m : Nat => (m : Int)) (rlen Nd.encs_eq a1))).symm
          cases h
          exact (Le.forget _ ⟨rfl, rfl, rfl, rfl, trivial⟩)
    · show Tri _ _ _ _
      refine tri_le hle ?_
      refine tri_cond rfl (fun hb => ?_) (fun hb => ?_)
      · replace h := bif_t hb h
        refine tri_seq ?_
        refine tri_region (by exact tokW) (by exact gok) [] [] rfl ?_
        show Tri _ _ _ _
        refine tri_ret ?_
        obtain ⟨hj1, hk1⟩ := Prod.mk.inj (Option.some.inj h)
        subst hj1
        subst hk1
        unfold Gives
        exact ⟨_, Le.refl _ _, rfl, rfl⟩
      · replace h := bif_f hb h
        refine tri_skip ?_
        show Tri _ _ _ _
        refine tri_seq ?_
        refine tri_region (by exact tokW) (by exact gok) [] [] rfl ?_
        show Tri _ _ _ _
        refine tri_seq ?_
        refine tri_seq ?_
        refine tri_region (by exact tokW) (by exact gok) [] [] rfl ?_
        show Tri _ _ _ _
        refine tri_block ?_
        refine tri_seq ?_
        refine tri_region (by exact tokW) (by exact gok) [] [] rfl ?_
        show Tri _ _ _ _
        refine tri_cond rfl (fun hb => ?_) (fun hb => ?_)
        · replace h := bif_t hb h
          refine tri_seq ?_
          refine tri_region (by exact tokW) (by exact gok) [] [] rfl ?_
          obtain ⟨y8, hy8, h⟩ := bind_out h
          refine ⟨_, ⟨_, _, _, _, _, hy8, rfl, rfl⟩, ?_⟩
          show Tri _ _ _ _
          refine tri_ret ?_
          obtain ⟨hj1, hk1⟩ := Prod.mk.inj (Option.some.inj h)
          subst hj1
          subst hk1
          unfold Gives
          exact ⟨_, Le.refl _ _, rfl, rfl⟩
        · replace h := bif_f hb h
          refine tri_seq ?_
          refine tri_region (by exact tokW) (by exact gok) [] [] rfl ?_
          show Tri _ _ _ _
          refine tri_cond rfl (fun hb => ?_) (fun hb => ?_)
          · replace h := bif_t hb h
            refine tri_seq ?_
            refine tri_seq ?_
            refine tri_drawn (by exact tokW) (by exact gok) (by exact mixed) [] [62] [] rfl (by decide +kernel) ?_
            obtain ⟨hq, h⟩ := req_out h
            refine And.intro ⟨hq.1, hq.2.1, Int.le_trans hq.2.2 (Int.ofNat_le.2 (Nat.le_of_eq (rlen Nd.encs_eq _).symm))⟩ ?_
            intro r9 hr9
            obtain rfl : Nd.encs ((a1.take (IntKind.i64.wrap (a2_at + x3)).toNat).drop a2_at.toNat) = r9 := (hr9.trans (rcut Nd.encs_eq _ _ _)).symm
            obtain ⟨y10, hy10, h⟩ := bind_out h
            refine ⟨_, ⟨_, _, _, _, hy10, rfl, rfl⟩, ?_⟩
            show Tri _ _ _ _
            refine tri_cond rfl (fun hb => ?_) (fun hb => ?_)
            · replace h := bif_t hb h
              refine tri_seq ?_
              refine tri_region (by exact tokW) (by exact gok) [] [] rfl ?_
              show Tri _ _ _ _
              refine tri_ret ?_
              obtain ⟨hj1, hk1⟩ := Prod.mk.inj (Option.some.inj h)
              subst hj1
              subst hk1
              unfold Gives
              exact ⟨_, Le.refl _ _, rfl, rfl⟩
            · replace h := bif_f hb h
              refine tri_skip ?_
              show Tri _ _ _ _
              refine tri_seq ?_
              refine tri_region (by exact tokW) (by exact gok) [] [] rfl ?_
              obtain ⟨y11, hy11, h⟩ := bind_out h
              refine ⟨_, ⟨_, _, _, _, _, hy11, rfl, rfl⟩, ?_⟩
              show Tri _ _ _ _
              refine tri_ret ?_
              obtain ⟨hj1, hk1⟩ := Prod.mk.inj (Option.some.inj h)
              subst hj1
              subst hk1
              unfold Gives
              exact ⟨_, Le.refl _ _, rfl, rfl⟩
          · replace h := bif_f hb h
            refine tri_seq ?_
            refine tri_region (by exact tokW) (by exact gok) [] [] rfl ?_
            show Tri _ _ _ _
            refine tri_cond rfl (fun hb => ?_) (fun hb => ?_)
            · replace h := bif_t hb h
              refine tri_seq ?_
              refine tri_drawn (by exact tokW) (by exact gok) (by exact mixed) [] [80, 88, 90] [] rfl (by decide +kernel) ?_
              obtain ⟨⟨e12_kind, e12_text, e12_cols, e12_kids⟩, he12, h⟩ := bind_out h
              refine And.intro (at_ok Nd.encs_eq he12).1 ?_
              intro r13 hr13
              obtain rfl : [.int .i64 e12_kind, .str e12_text, .int .i64 e12_cols, .sl 4 (Nd.encs e12_kids)] = r13 := (hr13.trans (at_ok Nd.encs_eq he12).2.1).symm
              obtain ⟨hq, h⟩ := req_out h
              refine And.intro ⟨hq.1, hq.2.1, Int.le_trans hq.2.2 (Int.ofNat_le.2 (Nat.le_of_eq (rlen Nd.encs_eq _).symm))⟩ ?_
              intro r14 hr14
              obtain rfl : Nd.encs ((a1.take (IntKind.i64.wrap (a2_at + x3)).toNat).drop a2_at.toNat) = r14 := (hr14.trans (rcut Nd.encs_eq _ _ _)).symm
              obtain ⟨⟨y15_kind, y15_text, y15_cols, y15_kids⟩, hy15, h⟩ := bind_out h
              refine ⟨_, ⟨_, _, _, _, hy15, rfl, rfl⟩, ?_⟩
              intro r16 hr16
              obtain rfl : Nd.encs [Nd.mk y15_kind y15_text y15_cols y15_kids] = r16 := (hr16.trans (by simp [List.map_append, List.map_take, List.map_drop, irow, brow, b8of_row, List.map_cons, List.map_nil, b8of_wrap, Nd.encs_eq, Nd.enc, enc_13_node_kind, enc_node_checker, enc_s_api_Node, enc_edit_change, enc_api_Op, enc_string])).symm
              obtain ⟨y17, hy17, h⟩ := bind_out h
              refine ⟨_, ⟨_, _, _, _, _, hy17, rfl, rfl⟩, ?_⟩
              show Tri _ _ _ _
              refine tri_ret ?_
              obtain ⟨hj1, hk1⟩ := Prod.mk.inj (Option.some.inj h)
              subst hj1
              subst hk1
              unfold Gives
              exact ⟨_, Le.refl _ _, rfl, rfl⟩
            · replace h := bif_f hb h
              refine tri_skip ?_
              show Tri _ _ _ _
              refine tri_seq ?_
              refine tri_region (by exact tokW) (by exact gok) [8] [95] rfl ?_
              obtain ⟨⟨e18_kind, e18_text, e18_cols, e18_kids⟩, he18, h⟩ := bind_out h
              refine And.intro (at_ok Nd.encs_eq he18).1 ?_
              intro r19 hr19
              obtain rfl : [.int .i64 e18_kind, .str e18_text, .int .i64 e18_cols, .sl 4 (Nd.encs e18_kids)] = r19 := (hr19.trans (at_ok Nd.encs_eq he18).2.1).symm
              show Tri _ _ _ _
              refine tri_seq ?_
              refine tri_seq ?_
              refine tri_region (by exact tokW) (by exact gok) [] [] rfl ?_
              show Tri _ _ _ _
              refine tri_cond rfl (fun hb => ?_) (fun hb => ?_)
              · replace h := bif_t hb h
                refine tri_seq ?_
                refine tri_seq ?_
                obtain ⟨x20, hj, h⟩ := bind_out h
                refine tri_post ⟨ofL [(0, .s (.sl 4 (Nd.encs a1))), (3, .s (.pt [.int .i64 a2_kind, .sl 1 ((List.map (irow .i64)) a2_row), .int .i64 a2_at, .int .i64 a2_n, .sl 4 (Nd.encs a2_nodes), .int .i64 a2_slot, .str a2_old, .str a2_text])), (7, .s (.int .i64 (IntKind.i64.wrap (a2_at + x3)))), (8, .op 0 0), (137, .s (.bool x20))], ofH [(0, .box 24 [.s (.int .i64 e18_kind), .s (.str e18_text), .s (.int .i64 e18_cols), .s (.sl 4 (Nd.encs e18_kids))])], 1⟩ ?_ (fun σ' hle => ?_)
                · replace h := hj
                  refine tri_drawn (by exact tokW) (by exact gok) (by exact mixed) [] [104, 106, 111, 114, 119, 123, 131] [3, 8, 20, 28] rfl (by decide +kernel) ?_
                  intro n21 hn21
                  obtain rfl : (e18_kids.length : Int) = n21 := (hn21.trans (congrArg (fun m : Nat => (m : Int)) (rlen Nd.encs_eq e18_kids))).symm
                  intro b hb
                  cases b with
                  | true =>
                    replace h := bif_t hb.symm h
                    intro b hb
                    subst hb
                    cases h
                    exact (Le.rename [(0, 0)] _ _ _ ⟨rfl, rfl, rfl, rfl, rfl, trivial⟩ ⟨rfl, ⟨_, rfl, rfl⟩, trivial⟩ rfl rfl rfl rfl rfl)
                  | false =>
                    replace h := bif_f hb.symm h
                    obtain ⟨⟨e22_kind, e22_text, e22_cols, e22_kids⟩, he22, h⟩ := bind_out h
                    refine And.intro (at_ok Nd.encs_eq he22).1 ?_
                    intro r23 hr23
                    obtain rfl : [.int .i64 e22_kind, .str e22_text, .int .i64 e22_cols, .sl 4 (Nd.encs e22_kids)] = r23 := (hr23.trans (at_ok Nd.encs_eq he22).2.1).symm
                    intro n24 hn24
                    obtain rfl : (e22_kids.length : Int) = n24 := (hn24.trans (congrArg (fun m : Nat => (m : Int)) (rlen Nd.encs_eq e22_kids))).symm
                    intro b hb
                    cases b with
                    | true =>
                      replace h := bif_t hb.symm h
                      cases h
                      exact (Le.rename [(0, 0)] _ _ _ ⟨rfl, rfl, rfl, rfl, rfl, trivial⟩ ⟨rfl, ⟨_, rfl, rfl⟩, trivial⟩ rfl rfl rfl rfl rfl)
                    | false =>
                      replace h := bif_f hb.symm h
                      obtain ⟨⟨e25_kind, e25_text, e25_cols, e25_kids⟩, he25, h⟩ := bind_out h
                      refine And.intro (at_ok Nd.encs_eq he25).1 ?_
                      intro r26 hr26
                      obtain rfl : [.int .i64 e25_kind, .str e25_text, .int .i64 e25_cols, .sl 4 (Nd.encs e25_kids)] = r26 := (hr26.trans (at_ok Nd.encs_eq he25).2.1).symm
                      obtain ⟨⟨e27_kind, e27_text, e27_cols, e27_kids⟩, he27, h⟩ := bind_out h
                      refine And.intro (at_ok Nd.encs_eq he27).1 ?_
                      intro r28 hr28
                      obtain rfl : [.int .i64 e27_kind, .str e27_text, .int .i64 e27_cols, .sl 4 (Nd.encs e27_kids)] = r28 := (hr28.trans (at_ok Nd.encs_eq he27).2.1).symm
                      obtain ⟨⟨y29_kind, y29_text, y29_cols, y29_kids⟩, hy29, h⟩ := bind_out h
                      refine ⟨_, ⟨_, _, _, _, hy29, rfl, rfl⟩, ?_⟩
                      obtain ⟨y30, hy30, h⟩ := bind_out h
                      refine ⟨_, ⟨_, _, _, _, hy30, rfl, rfl⟩, ?_⟩
                      cases h
                      exact (Le.rename [(0, 0)] _ _ _ ⟨rfl, rfl, rfl, rfl, rfl, trivial⟩ ⟨rfl, ⟨_, rfl, rfl⟩, trivial⟩ rfl rfl rfl rfl rfl)
                · show Tri _ _ _ _
                  refine tri_le hle ?_
                  refine tri_cond rfl (fun hb => ?_) (fun hb => ?_)
                  · replace h := bif_t hb h
                    refine tri_seq ?_
                    refine tri_region (by exact tokW) (by exact gok) [] [] rfl ?_
                    show Tri _ _ _ _
                    refine tri_ret ?_
                    obtain ⟨hj1, hk1⟩ := Prod.mk.inj (Option.some.inj h)
                    subst hj1
                    subst hk1
                    unfold Gives
                    exact ⟨_, Le.refl _ _, rfl, rfl⟩
                  · replace h := bif_f hb h
                    refine tri_skip ?_
                    show Tri _ _ _ _
                    refine tri_seq ?_
                    refine tri_drawn (by exact tokW) (by exact gok) (by exact mixed) [] [146] [5] rfl (by decide +kernel) ?_
                    obtain ⟨⟨e31_kind, e31_text, e31_cols, e31_kids⟩, he31, h⟩ := bind_out h
                    refine And.intro (at_ok Nd.encs_eq he31).1 ?_
                    intro r32 hr32
                    obtain rfl : [.int .i64 e31_kind, .str e31_text, .int .i64 e31_cols, .sl 4 (Nd.encs e31_kids)] = r32 := (hr32.trans (at_ok Nd.encs_eq he31).2.1).symm
                    obtain ⟨y33, hy33, h⟩ := bind_out h
                    refine ⟨_, ⟨_, _, _, _, _, hy33, rfl, rfl⟩, ?_⟩
                    show Tri _ _ _ _
                    refine tri_ret ?_
                    obtain ⟨hj1, hk1⟩ := Prod.mk.inj (Option.some.inj h)
                    subst hj1
                    subst hk1
                    unfold Gives
                    exact ⟨_, Le.refl _ _, rfl, rfl⟩
              · replace h := bif_f hb h
                refine tri_skip ?_
                show Tri _ _ _ _
                refine tri_seq ?_
                refine tri_seq ?_
                refine tri_region (by exact tokW) (by exact gok) [] [] rfl ?_
                show Tri _ _ _ _
                obtain ⟨fl, hj, ho1⟩ := bind_out h
                refine tri_fl (fl := fl) (fun z => match z with | _ => ⟨ofL [], fun _ => none, 0⟩) ?_ (fun z σ' hz hle => ?_)
                · replace h := hj
                  refine tri_block ?_
                  refine tri_seq ?_
                  refine tri_seq ?_
                  refine tri_region (by exact tokW) (by exact gok) [] [] rfl ?_
                  show Tri _ _ _ _
                  obtain ⟨x34, hj, h⟩ := bind_out h
                  refine tri_post ⟨ofL [(0, .s (.sl 4 (Nd.encs a1))), (3, .s (.pt [.int .i64 a2_kind, .sl 1 ((List.map (irow .i64)) a2_row), .int .i64 a2_at, .int .i64 a2_n, .sl 4 (Nd.encs a2_nodes), .int .i64 a2_slot, .str a2_old, .str a2_text])), (7, .s (.int .i64 (IntKind.i64.wrap (a2_at + x3)))), (8, .op 0 0), (152, .s (.bool x34))], ofH [(0, .box 24 [.s (.int .i64 e18_kind), .s (.str e18_text), .s (.int .i64 e18_cols), .s (.sl 4 (Nd.encs e18_kids))])], 1⟩ ?_ (fun σ' hle => ?_)
                  · replace h := hj
                    refine tri_cond rfl (fun hb => ?_) (fun hb => ?_)
                    · replace h := bif_t hb h
                      refine tri_skip ?_
                      cases h
                      exact (Le.rename [(0, 0)] _ _ _ ⟨rfl, rfl, rfl, rfl, rfl, trivial⟩ ⟨rfl, ⟨_, rfl, rfl⟩, trivial⟩ rfl rfl rfl rfl rfl)
                    · replace h := bif_f hb h
                      refine tri_seq ?_
                      refine tri_region (by exact tokW) (by exact gok) [] [] rfl ?_
                      show Tri _ _ _ _
                      refine tri_cond rfl (fun hb => ?_) (fun hb => ?_)
                      · replace h := bif_t hb h
                        refine tri_skip ?_
                        cases h
                        exact (Le.rename [(0, 0)] _ _ _ ⟨rfl, rfl, rfl, rfl, rfl, trivial⟩ ⟨rfl, ⟨_, rfl, rfl⟩, trivial⟩ rfl rfl rfl rfl rfl)
                      · replace h := bif_f hb h
                        refine tri_seq ?_
                        refine tri_region (by exact tokW) (by exact gok) [] [] rfl ?_
                        show Tri _ _ _ _
                        refine tri_cond rfl (fun hb => ?_) (fun hb => ?_)
                        · replace h := bif_t hb h
                          refine tri_skip ?_
                          cases h
                          exact (Le.rename [(0, 0)] _ _ _ ⟨rfl, rfl, rfl, rfl, rfl, trivial⟩ ⟨rfl, ⟨_, rfl, rfl⟩, trivial⟩ rfl rfl rfl rfl rfl)
                        · replace h := bif_f hb h
                          refine tri_seq ?_
                          refine tri_region (by exact tokW) (by exact gok) [] [] rfl ?_
                          show Tri _ _ _ _
                          refine tri_cond rfl (fun hb => ?_) (fun hb => ?_)
                          · replace h := bif_t hb h
                            refine tri_skip ?_
                            cases h
                            exact (Le.rename [(0, 0)] _ _ _ ⟨rfl, rfl, rfl, rfl, rfl, trivial⟩ ⟨rfl, ⟨_, rfl, rfl⟩, trivial⟩ rfl rfl rfl rfl rfl)
                          · replace h := bif_f hb h
                            refine tri_region (by exact tokW) (by exact gok) [] [] rfl ?_
                            cases h
                            exact (Le.rename [(0, 0)] _ _ _ ⟨rfl, rfl, rfl, rfl, rfl, trivial⟩ ⟨rfl, ⟨_, rfl, rfl⟩, trivial⟩ rfl rfl rfl rfl rfl)
                  · show Tri _ _ _ _
                    refine tri_le hle ?_
                    refine tri_cond rfl (fun hb => ?_) (fun hb => ?_)
                    · replace h := bif_t hb h
                      refine tri_seq ?_
                      refine tri_region (by exact tokW) (by exact gok) [] [] rfl ?_
                      show Tri _ _ _ _
                      refine tri_cond rfl (fun hb => ?_) (fun hb => ?_)
                      · replace h := bif_t hb h
                        refine tri_seq ?_
                        refine tri_region (by exact tokW) (by exact gok) [] [] rfl ?_
                        show Tri _ _ _ _
                        refine tri_seq ?_
                        refine tri_region (by exact tokW) (by exact gok) [] [171] rfl ?_
                        intro r35 hr35
                        obtain rfl : Nd.encs [Nd.mk e18_kind a2_text e18_cols e18_kids] = r35 := (hr35.trans (by simp [List.map_append, List.map_take, List.map_drop, irow, brow, b8of_row, List.map_cons, List.map_nil, b8of_wrap, Nd.encs_eq, Nd.enc, enc_13_node_kind, enc_node_checker, enc_s_api_Node, enc_edit_change, enc_api_Op, enc_string])).symm
                        obtain ⟨y36, hy36, h⟩ := bind_out h
                        refine ⟨_, ⟨_, _, _, _, _, hy36, rfl, rfl⟩, ?_⟩
                        show Tri _ _ _ _
                        refine tri_ret ?_
                        cases h
                        replace h : some _ = some _ := ho1
                        obtain ⟨hj1, hk1⟩ := Prod.mk.inj (Option.some.inj h)
                        subst hj1
                        subst hk1
                        unfold Gives
                        exact ⟨_, Le.refl _ _, rfl, rfl⟩
                      · replace h := bif_f hb h
                        refine tri_skip ?_
                        cases h
                        exact ⟨_, rfl, (Le.rename [] _ [] 0 trivial trivial rfl rfl rfl rfl rfl)⟩
                    · replace h := bif_f hb h
                      refine tri_skip ?_
                      cases h
                      exact ⟨_, rfl, (Le.rename [] _ [] 0 trivial trivial rfl rfl rfl rfl rfl)⟩
                · subst hz
                  obtain _ := z
                  replace h := ho1
                  show Tri _ _ _ _
                  refine tri_le hle ?_
                  refine tri_seq ?_
                  refine tri_region (by exact tokW) (by exact gok) [] [] rfl ?_
                  show Tri _ _ _ _
                  refine tri_ret ?_
                  obtain ⟨hj1, hk1⟩ := Prod.mk.inj (Option.some.inj h)
                  subst hj1
                  subst hk1
                  unfold Gives
                  exact ⟨_, Le.refl _ _, rfl, rfl⟩
def R_r12_put (n : Nat) (xs : List AV) (r : Ret) : Prop := ∃ (a0 : Nd) (a1 : List Int) (a2 : List Nd) (y0 : Nd), m_r12_put n a0 a1 a2 = some y0 ∧ xs = [.agg ((Nd.enc a0).map .s), .s (.sl 1 ((List.map (irow .i64)) a1)), .s (.sl 4 (Nd.encs a2))] ∧ r = .val (.agg ((Nd.enc y0).map .s))
set_option maxHeartbeats 2000000 in
set_option maxRecDepth 100000 in
theorem step_r12_put (n : Nat) (ih : PSound Try.prog 44 (pspec (R_r12_put n))) : PSound Try.prog 44 (pspec (R_r12_put (n + 1))) := by
  have gok : ∀ f s, look? f [(54, S_r09_ToRow), (44, pspec (R_r12_put n)), (67, S_r09_Replaced)] = some s → PSound Try.prog f s := look_all (by
    simp only [List.forall_mem_cons]
    exact ⟨ok_r09_ToRow, ih, ok_r09_Replaced, by simp⟩)
  refine psound tokW Try.call44 Try.func44 rfl (fun xs r h => by obtain ⟨_, _, _, _, _, rfl, _⟩ := h; show 3 ≤ 41; decide) 41 rfl ?_
  rintro xs r w0 G0 ⟨⟨n1_kind, n1_text, n1_cols, n1_kids⟩, path2, l3, y0, h, rfl, rfl⟩ _
  rw [m_r12_put] at h
  refine tri_seq ?_
  refine tri_region (by exact tokW) (by exact gok) [6] [] rfl ?_
  show Tri _ _ _ _
  refine tri_seq ?_
  refine tri_seq ?_
  refine tri_region (by exact tokW) (by exact gok) [] [9] rfl ?_
  intro n4 hn4
  obtain rfl : (path2.length : Int) = n4 := (hn4.trans (congrArg (fun m : Nat => (m : Int)) (rlen (fun _ => rfl) path2))).symm
  show Tri _ _ _ _
  refine tri_cond rfl (fun hb => ?_) (fun hb => ?_)
  · replace h := bif_t hb h
    refine tri_seq ?_
    refine tri_region (by exact tokW) (by exact gok) [] [] rfl ?_
    obtain ⟨⟨y5_kind, y5_text, y5_cols, y5_kids⟩, hy5, h⟩ := bind_out h
    refine ⟨_, ⟨_, _, hy5, rfl, rfl⟩, ?_⟩
    show Tri _ _ _ _
    refine tri_ret ?_
    have hy := Option.some.inj h
    subst hy
    unfold Gives
    exact ⟨_, Le.refl _ _, rfl, rfl⟩
  · replace h := bif_f hb h
    refine tri_skip ?_
    show Tri _ _ _ _
    refine tri_seq ?_
    refine tri_drawnR (by exact tokW) (by exact gok) (by exact mixed) [7] [16, 18] [7, 8] [] rfl (by decide +kernel) ?_
    obtain ⟨e6, he6, h⟩ := bind_out h
    refine And.intro (at_ok (fun _ => rfl) he6).1 ?_
    intro r7 hr7
    obtain rfl : [.int .i64 e6] = r7 := (hr7.trans (at_ok (fun _ => rfl) he6).2.1).symm
    obtain ⟨⟨e8_kind, e8_text, e8_cols, e8_kids⟩, he8, h⟩ := bind_out h
    refine And.intro (at_ok Nd.encs_eq he8).1 ?_
    intro r9 hr9
    obtain rfl : [.int .i64 e8_kind, .str e8_text, .int .i64 e8_cols, .sl 4 (Nd.encs e8_kids)] = r9 := (hr9.trans (at_ok Nd.encs_eq he8).2.1).symm
    show Tri _ _ _ _
    refine tri_le (Le.giveBox 1 [.int .i64 e8_kind, .str e8_text, .int .i64 e8_cols, .sl 4 (Nd.encs e8_kids)] rfl rfl) ?_
    refine tri_seq ?_
    refine tri_drawn (by exact tokW) (by exact gok) (by exact mixed) [] [22, 26, 31, 33, 36] [21] rfl (by decide +kernel) ?_
    obtain ⟨e10, he10, h⟩ := bind_out h
    refine And.intro (at_ok (fun _ => rfl) he10).1 ?_
    intro r11 hr11
    obtain rfl : [.int .i64 e10] = r11 := (hr11.trans (at_ok (fun _ => rfl) he10).2.1).symm
    obtain ⟨e12, he12, h⟩ := bind_out h
    refine And.intro (at_ok (fun _ => rfl) he12).1 ?_
    intro r13 hr13
    obtain rfl : [.int .i64 e12] = r13 := (hr13.trans (at_ok (fun _ => rfl) he12).2.1).symm
    obtain ⟨e14, he14, h⟩ := bind_out h
    refine And.intro (at_ok (fun _ => rfl) he14).1 ?_
    intro r15 hr15
    obtain rfl : [.int .i64 e14] = r15 := (hr15.trans (at_ok (fun _ => rfl) he14).2.1).symm
    obtain ⟨⟨e16_kind, e16_text, e16_cols, e16_kids⟩, he16, h⟩ := bind_out h
    refine And.intro (at_ok Nd.encs_eq he16).1 ?_
    intro r17 hr17
    obtain rfl : [.int .i64 e16_kind, .str e16_text, .int .i64 e16_cols, .sl 4 (Nd.encs e16_kids)] = r17 := (hr17.trans (at_ok Nd.encs_eq he16).2.1).symm
    obtain ⟨hq, h⟩ := req_out h
    refine And.intro ⟨hq.1, Int.le_trans hq.2.1 (Int.ofNat_le.2 (Nat.le_of_eq (rlen (fun _ => rfl) _).symm)), Int.le_refl _⟩ ?_
    intro r18 hr18
    obtain rfl : (List.map (irow .i64)) ((path2.take (path2.length : Int).toNat).drop (2 : Int).toNat) = r18 := (hr18.trans ((congrArg (fun m : Nat => (((List.map (irow .i64)) path2).take m).drop (2 : Int).toNat) (rlen (fun _ => rfl) _)).trans (rcut (fun _ => rfl) _ _ _))).symm
    obtain ⟨⟨y19_kind, y19_text, y19_cols, y19_kids⟩, hy19, h⟩ := bind_out h
    refine ⟨_, ⟨_, _, _, _, hy19, rfl, rfl⟩, ?_⟩
    obtain ⟨⟨y20_kind, y20_text, y20_cols, y20_kids⟩, hy20, h⟩ := bind_out h
    refine ⟨_, ⟨_, _, _, _, hy20, rfl, rfl⟩, ?_⟩
    obtain ⟨⟨y21_kind, y21_text, y21_cols, y21_kids⟩, hy21, h⟩ := bind_out h
    refine ⟨_, ⟨_, _, _, _, hy21, rfl, rfl⟩, ?_⟩
    show Tri _ _ _ _
    refine tri_ret ?_
    have hy := Option.some.inj h
    subst hy
    unfold Gives
    exact ⟨_, Le.refl _ _, rfl, rfl⟩
theorem all_r12_put : ∀ n, PSound Try.prog 44 (pspec (R_r12_put n)) := by
  intro n
  induction n with
  | zero => exact psound_none Try.call44 (fun xs r h => by obtain ⟨_, _, _, _, h, _⟩ := h; cases h)
  | succ n ih => exact step_r12_put n ih
def S_r12_put : PSpec := pspec fun xs r => ∃ n, R_r12_put n xs r
theorem ok_r12_put : PSound Try.prog 44 S_r12_put := psound_all all_r12_put
def R_r12_Apply (n : Nat) (xs : List AV) (r : Ret) : Prop := ∃ (a0 : Nd) (a1 : (Int × List Int × Int × Int × List Nd × Int × List UInt8 × List UInt8)) (y0 : Nd) (y1 : Int), m_r12_Apply n a0 a1 = some (y0, y1) ∧ xs = [.agg ((Nd.enc a0).map .s), .agg ((enc_api_Op a1).map .s)] ∧ r = .val (.tup [.agg ((Nd.enc y0).map .s), .s (.int .i64 y1)])
def S_r12_Apply : PSpec := pspec fun xs r => ∃ n, R_r12_Apply n xs r
set_option maxHeartbeats 2000000 in
set_option maxRecDepth 100000 in
theorem ok_r12_Apply : PSound Try.prog 19 S_r12_Apply := by
  have gok : ∀ f s, look? f [(26, S_r09_Valid), (22, S_r12_Formed), (16, S_r09_Row), (43, S_r12_change), (44, S_r12_put)] = some s → PSound Try.prog f s := look_all (by
    simp only [List.forall_mem_cons]
    exact ⟨ok_r09_Valid, ok_r12_Formed, ok_r09_Row, ok_r12_change, ok_r12_put, by simp⟩)
  refine psound tokW Try.call19 Try.func19 rfl (fun xs r h => by obtain ⟨n, _, _, _, _, _, rfl, _⟩ := h; show 2 ≤ 50; decide) 50 rfl ?_
  rintro xs r w0 G0 ⟨n, ⟨n1_kind, n1_text, n1_cols, n1_kids⟩, ⟨op2_kind, op2_row, op2_at, op2_n, op2_nodes, op2_slot, op2_old, op2_text⟩, y0, y1, h, rfl, rfl⟩ _
  rw [m_r12_Apply] at h
  refine tri_seq ?_
  refine tri_region (by exact tokW) (by exact gok) [4] [] rfl ?_
  show Tri _ _ _ _
  refine tri_seq ?_
  refine tri_seq ?_
  refine tri_region (by exact tokW) (by exact gok) [] [] rfl ?_
  obtain ⟨y3, hy3, h⟩ := bind_out h
  refine ⟨_, ⟨_, _, _, hy3, rfl, rfl⟩, ?_⟩
  show Tri _ _ _ _
  refine tri_cond rfl (fun hb => ?_) (fun hb => ?_)
  · replace h := bif_t hb h
    refine tri_seq ?_
    refine tri_region (by exact tokW) (by exact gok) [] [] rfl ?_
    show Tri _ _ _ _
    refine tri_ret ?_
    obtain ⟨hj1, hk1⟩ := Prod.mk.inj (Option.some.inj h)
    subst hj1
    subst hk1
    unfold Gives
    exact ⟨_, Le.refl _ _, rfl, rfl⟩
  · replace h := bif_f hb h
    refine tri_skip ?_
    show Tri _ _ _ _
    refine tri_seq ?_
    refine tri_seq ?_
    refine tri_region (by exact tokW) (by exact gok) [] [] rfl ?_
    obtain ⟨y4, hy4, h⟩ := bind_out h
    refine ⟨_, ⟨_, _, _, hy4, rfl, rfl⟩, ?_⟩
    show Tri _ _ _ _
    refine tri_cond rfl (fun hb => ?_) (fun hb => ?_)
    · replace h := bif_t hb h
      refine tri_seq ?_
      refine tri_region (by exact tokW) (by exact gok) [] [] rfl ?_
      show Tri _ _ _ _
      refine tri_ret ?_
      obtain ⟨hj1, hk1⟩ := Prod.mk.inj (Option.some.inj h)
      subst hj1
      subst hk1
      unfold Gives
      exact ⟨_, Le.refl _ _, rfl, rfl⟩
    · replace h := bif_f hb h
      refine tri_skip ?_
      show Tri _ _ _ _
      refine tri_seq ?_
      refine tri_region (by exact tokW) (by exact gok) [6] [] rfl ?_
      obtain ⟨⟨⟨y5_kind, y5_text, y5_cols, y5_kids⟩, y6⟩, hy5, h⟩ := bind_out h
      refine ⟨_, ⟨_, _, _, _, _, hy5, rfl, rfl⟩, ?_⟩
      show Tri _ _ _ _
      refine tri_le (Le.giveBox 1 [.int .i64 y5_kind, .str y5_text, .int .i64 y5_cols, .sl 4 (Nd.encs y5_kids)] rfl rfl) ?_
      refine tri_seq ?_
      refine tri_seq ?_
      refine tri_region (by exact tokW) (by exact gok) [] [] rfl ?_
      show Tri _ _ _ _
      refine tri_cond rfl (fun hb => ?_) (fun hb => ?_)
      · replace h := bif_t hb h
        refine tri_seq ?_
        refine tri_region (by exact tokW) (by exact gok) [] [] rfl ?_
        show Tri _ _ _ _
        refine tri_ret ?_
        obtain ⟨hj1, hk1⟩ := Prod.mk.inj (Option.some.inj h)
        subst hj1
        subst hk1
        unfold Gives
        exact ⟨_, Le.refl _ _, rfl, rfl⟩
      · replace h := bif_f hb h
        refine tri_skip ?_
        show Tri _ _ _ _
        refine tri_seq ?_
        refine tri_region (by exact tokW) (by exact gok) [] [] rfl ?_
        obtain ⟨⟨y7, y8⟩, hy7, h⟩ := bind_out h
        refine ⟨_, ⟨_, _, _, _, _, hy7, rfl, rfl⟩, ?_⟩
        show Tri _ _ _ _
        refine tri_seq ?_
        refine tri_seq ?_
        refine tri_region (by exact tokW) (by exact gok) [] [] rfl ?_
        show Tri _ _ _ _
        refine tri_cond rfl (fun hb => ?_) (fun hb => ?_)
        · replace h := bif_t hb h
          refine tri_seq ?_
          refine tri_region (by exact tokW) (by exact gok) [] [] rfl ?_
          show Tri _ _ _ _
          refine tri_ret ?_
          obtain ⟨hj1, hk1⟩ := Prod.mk.inj (Option.some.inj h)
          subst hj1
          subst hk1
          unfold Gives
          exact ⟨_, Le.refl _ _, rfl, rfl⟩
        · replace h := bif_f hb h
          refine tri_skip ?_
          show Tri _ _ _ _
          refine tri_seq ?_
          refine tri_region (by exact tokW) (by exact gok) [9] [] rfl ?_
          obtain ⟨⟨y9_kind, y9_text, y9_cols, y9_kids⟩, hy9, h⟩ := bind_out h
          refine ⟨_, ⟨_, _, _, _, _, hy9, rfl, rfl⟩, ?_⟩
          show Tri _ _ _ _
          refine tri_le (Le.giveBox 2 [.int .i64 y9_kind, .str y9_text, .int .i64 y9_cols, .sl 4 (Nd.encs y9_kids)] rfl rfl) ?_
          refine tri_seq ?_
          refine tri_seq ?_
          refine tri_region (by exact tokW) (by exact gok) [] [] rfl ?_
          obtain ⟨y10, hy10, h⟩ := bind_out h
          refine ⟨_, ⟨_, _, _, hy10, rfl, rfl⟩, ?_⟩
          show Tri _ _ _ _
          refine tri_cond rfl (fun hb => ?_) (fun hb => ?_)
          · replace h := bif_t hb h
            refine tri_seq ?_
            refine tri_region (by exact tokW) (by exact gok) [] [] rfl ?_
            show Tri _ _ _ _
            refine tri_ret ?_
            obtain ⟨hj1, hk1⟩ := Prod.mk.inj (Option.some.inj h)
            subst hj1
            subst hk1
            unfold Gives
            exact ⟨_, Le.refl _ _, rfl, rfl⟩
          · replace h := bif_f hb h
            refine tri_skip ?_
            show Tri _ _ _ _
            refine tri_seq ?_
            refine tri_region (by exact tokW) (by exact gok) [] [] rfl ?_
            show Tri _ _ _ _
            refine tri_ret ?_
            obtain ⟨hj1, hk1⟩ := Prod.mk.inj (Option.some.inj h)
            subst hj1
            subst hk1
            unfold Gives
            exact ⟨_, Le.refl _ _, rfl, rfl⟩
def R_l12_EditApply (n : Nat) (xs : List AV) (r : Ret) : Prop := ∃ (a0 : Nd) (a1 : (Int × List Int × Int × Int × List Nd × Int × List UInt8 × List UInt8)) (y0 : Bool), m_l12_EditApply n a0 a1 = some y0 ∧ xs = [.agg ((Nd.enc a0).map .s), .agg ((enc_api_Op a1).map .s)] ∧ r = .val (.s (.bool y0))
def S_l12_EditApply : PSpec := pspec fun xs r => ∃ n, R_l12_EditApply n xs r
set_option maxHeartbeats 2000000 in
set_option maxRecDepth 100000 in
theorem ok_l12_EditApply : PSound Try.prog 5 S_l12_EditApply := by
  have gok : ∀ f s, look? f [(11, S_l12_awake), (12, S_l12_few), (18, S_r09_Dump), (13, S_edit_Apply), (19, S_r12_Apply), (17, S_r09_Equal), (20, S_edit_Check), (21, S_edit_Formed), (22, S_r12_Formed)] = some s → PSound Try.prog f s := look_all (by
    simp only [List.forall_mem_cons]
    exact ⟨ok_l12_awake, ok_l12_few, ok_r09_Dump, ok_edit_Apply, ok_r12_Apply, ok_r09_Equal, ok_edit_Check, ok_edit_Formed, ok_r12_Formed, by simp⟩)
  refine psound tokW Try.call5 Try.func5 rfl (fun xs r h => by obtain ⟨n, _, _, _, _, rfl, _⟩ := h; show 2 ≤ 62; decide) 62 rfl ?_
  rintro xs r w0 G0 ⟨n, ⟨n1_kind, n1_text, n1_cols, n1_kids⟩, ⟨op2_kind, op2_row, op2_at, op2_n, op2_nodes, op2_slot, op2_old, op2_text⟩, y0, h, rfl, rfl⟩ _
  rw [m_l12_EditApply] at h
  refine tri_seq ?_
  refine tri_region (by exact tokW) (by exact gok) [] [] rfl ?_
  show Tri _ _ _ _
  refine tri_seq ?_
  refine tri_seq ?_
  obtain ⟨x3, hj, h⟩ := bind_out h
  refine tri_post ⟨ofL [(2, .s (.pt [.int .i64 n1_kind, .str n1_text, .int .i64 n1_cols, .sl 4 (Nd.encs n1_kids)])), (3, .s (.pt [.int .i64 op2_kind, .sl 1 ((List.map (irow .i64)) op2_row), .int .i64 op2_at, .int .i64 op2_n, .sl 4 (Nd.encs op2_nodes), .int .i64 op2_slot, .str op2_old, .str op2_text])), (18, .s (.bool x3))], fun _ => none, 0⟩ ?_ (fun σ' hle => ?_)
  · replace h := hj
    refine tri_region (by exact tokW) (by exact gok) [] [12, 15] rfl ?_
    obtain ⟨y4, hy4, h⟩ := bind_out h
    refine ⟨_, ⟨_, _, hy4, rfl, rfl⟩, ?_⟩
    intro b hb
    cases b with
    | true =>
      replace h := bif_t hb.symm h
      cases h
      exact (Le.forget _ ⟨rfl, rfl, rfl, trivial⟩)
    | false =>
      replace h := bif_f hb.symm h
      intro r5 hr5
      obtain rfl : (List.map enc_api_Op) [(op2_kind, op2_row, op2_at, op2_n, op2_nodes, op2_slot, op2_old, op2_text)] = r5 := (hr5.trans (by simp [List.map_append, List.map_take, List.map_drop, irow, brow, b8of_row, List.map_cons, List.map_nil, b8of_wrap, Nd.encs_eq, Nd.enc, enc_13_node_kind, enc_node_checker, enc_s_api_Node, enc_edit_change, enc_api_Op, enc_string])).symm
      obtain ⟨y6, hy6, h⟩ := bind_out h
      refine ⟨_, ⟨_, _, _, _, hy6, rfl, rfl⟩, ?_⟩
      cases h
      exact (Le.forget _ ⟨rfl, rfl, rfl, trivial⟩)
  · show Tri _ _ _ _
    refine tri_le hle ?_
    refine tri_cond rfl (fun hb => ?_) (fun hb => ?_)
    · replace h := bif_t hb h
      refine tri_seq ?_
      refine tri_region (by exact tokW) (by exact gok) [] [] rfl ?_
      obtain ⟨y7, hy7, h⟩ := bind_out h
      refine ⟨_, ⟨_, _, hy7, rfl, rfl⟩, ?_⟩
      show Tri _ _ _ _
      refine tri_ret ?_
      have hy := Option.some.inj h
      subst hy
      unfold Gives
      exact ⟨_, Le.refl _ _, rfl, rfl⟩
    · replace h := bif_f hb h
      refine tri_skip ?_
      show Tri _ _ _ _
      refine tri_seq ?_
      refine tri_region (by exact tokW) (by exact gok) [] [] rfl ?_
      obtain ⟨y8, hy8, h⟩ := bind_out h
      refine ⟨_, ⟨_, _, _, hy8, rfl, rfl⟩, ?_⟩
      show Tri _ _ _ _
      refine tri_seq ?_
      refine tri_region (by exact tokW) (by exact gok) [6] [] rfl ?_
      obtain ⟨⟨⟨y9_kind, y9_text, y9_cols, y9_kids⟩, y10⟩, hy9, h⟩ := bind_out h
      refine ⟨_, ⟨_, _, _, _, _, hy9, rfl, rfl⟩, ?_⟩
      show Tri _ _ _ _
      refine tri_le (Le.giveBox 0 [.int .i64 y9_kind, .str y9_text, .int .i64 y9_cols, .sl 4 (Nd.encs y9_kids)] rfl rfl) ?_
      refine tri_seq ?_
      refine tri_region (by exact tokW) (by exact gok) [8] [] rfl ?_
      obtain ⟨⟨⟨y11_kind, y11_text, y11_cols, y11_kids⟩, y12⟩, hy11, h⟩ := bind_out h
      refine ⟨_, ⟨_, _, _, _, _, hy11, rfl, rfl⟩, ?_⟩
      show Tri _ _ _ _
      refine tri_le (Le.giveBox 1 [.int .i64 y11_kind, .str y11_text, .int .i64 y11_cols, .sl 4 (Nd.encs y11_kids)] rfl rfl) ?_
      refine tri_seq ?_
      obtain ⟨x13, hj, h⟩ := bind_out h
      refine tri_post ⟨ofL [(4, .s (.bool x13))], fun _ => none, 0⟩ ?_ (fun σ' hle => ?_)
      · replace h := hj
        refine tri_drawn (by exact tokW) (by exact gok) (by exact mixed) [] [37, 42, 49, 56] [] rfl (by decide +kernel) ?_
        intro b hb
        cases b with
        | true =>
          replace h := bif_t hb.symm h
          obtain ⟨y14, hy14, h⟩ := bind_out h
          refine ⟨_, ⟨_, _, _, _, hy14, rfl, rfl⟩, ?_⟩
          intro b hb
          cases b with
          | true =>
            replace h := bif_t hb.symm h
            obtain ⟨y15, hy15, h⟩ := bind_out h
            refine ⟨_, ⟨_, _, _, _, hy15, rfl, rfl⟩, ?_⟩
            intro b hb
            cases b with
            | true =>
              replace h := bif_t hb.symm h
              obtain ⟨y16, hy16, h⟩ := bind_out h
              refine ⟨_, ⟨_, _, _, hy16, rfl, rfl⟩, ?_⟩
              obtain ⟨y17, hy17, h⟩ := bind_out h
              refine ⟨_, ⟨_, _, _, hy17, rfl, rfl⟩, ?_⟩
              intro b hb
              cases b with
              | true =>
                replace h := bif_t hb.symm h
                obtain ⟨y18, hy18, h⟩ := bind_out h
                refine ⟨_, ⟨_, _, _, hy18, rfl, rfl⟩, ?_⟩
                cases h
                exact (Le.rename [] _ [] 0 ⟨rfl, trivial⟩ trivial rfl rfl rfl rfl rfl)
              | false =>
                replace h := bif_f hb.symm h
                cases h
                exact (Le.rename [] _ [] 0 ⟨rfl, trivial⟩ trivial rfl rfl rfl rfl rfl)
            | false =>
              replace h := bif_f hb.symm h
              intro b hb
              subst hb
              cases h
              exact (Le.rename [] _ [] 0 ⟨rfl, trivial⟩ trivial rfl rfl rfl rfl rfl)
          | false =>
            replace h := bif_f hb.symm h
            intro b hb
            subst hb
            intro b hb
            subst hb
            cases h
            exact (Le.rename [] _ [] 0 ⟨rfl, trivial⟩ trivial rfl rfl rfl rfl rfl)
        | false =>
          replace h := bif_f hb.symm h
          intro b hb
          subst hb
          intro b hb
          subst hb
          intro b hb
          subst hb
          cases h
          exact (Le.rename [] _ [] 0 ⟨rfl, trivial⟩ trivial rfl rfl rfl rfl rfl)
      · show Tri _ _ _ _
        refine tri_le hle ?_
        refine tri_ret ?_
        have hy := Option.some.inj h
        subst hy
        unfold Gives
        exact ⟨_, Le.refl _ _, rfl, rfl⟩
def R_r12_ApplyAll (n : Nat) (xs : List AV) (r : Ret) : Prop := ∃ (a0 : Nd) (a1 : List (Int × List Int × Int × Int × List Nd × Int × List UInt8 × List UInt8)) (y0 : Nd) (y1 : Int) (y2 : Int), m_r12_ApplyAll n a0 a1 = some (y0, y1, y2) ∧ xs = [.agg ((Nd.enc a0).map .s), .s (.sl 8 ((List.map enc_api_Op) a1))] ∧ r = .val (.tup [.agg ((Nd.enc y0).map .s), .s (.int .i64 y1), .s (.int .i64 y2)])
def S_r12_ApplyAll : PSpec := pspec fun xs r => ∃ n, R_r12_ApplyAll n xs r
set_option maxHeartbeats 2000000 in
set_option maxRecDepth 100000 in
theorem ok_r12_ApplyAll : PSound Try.prog 24 S_r12_ApplyAll := by
  have gok : ∀ f s, look? f [(26, S_r09_Valid), (19, S_r12_Apply)] = some s → PSound Try.prog f s := look_all (by
    simp only [List.forall_mem_cons]
    exact ⟨ok_r09_Valid, ok_r12_Apply, by simp⟩)
  refine psound tokW Try.call24 Try.func24 rfl (fun xs r h => by obtain ⟨n, _, _, _, _, _, _, rfl, _⟩ := h; show 2 ≤ 36; decide) 36 rfl ?_
  rintro xs r w0 G0 ⟨n, ⟨n1_kind, n1_text, n1_cols, n1_kids⟩, ops2, y0, y1, y2, h, rfl, rfl⟩ _
  rw [m_r12_ApplyAll] at h
  refine tri_seq ?_
  refine tri_region (by exact tokW) (by exact gok) [2, 4] [] rfl ?_
  show Tri _ _ _ _
  refine tri_seq ?_
  refine tri_seq ?_
  refine tri_region (by exact tokW) (by exact gok) [] [] rfl ?_
  obtain ⟨y3, hy3, h⟩ := bind_out h
  refine ⟨_, ⟨_, _, _, hy3, rfl, rfl⟩, ?_⟩
  show Tri _ _ _ _
  refine tri_cond rfl (fun hb => ?_) (fun hb => ?_)
  · replace h := bif_t hb h
    refine tri_seq ?_
    refine tri_region (by exact tokW) (by exact gok) [] [] rfl ?_
    show Tri _ _ _ _
    refine tri_ret ?_
    obtain ⟨hj1, hk1⟩ := Prod.mk.inj (Option.some.inj h)
    subst hj1
    obtain ⟨hj2, hk2⟩ := Prod.mk.inj hk1
    subst hj2
    subst hk2
    unfold Gives
    exact ⟨_, Le.refl _ _, rfl, rfl⟩
  · replace h := bif_f hb h
    refine tri_skip ?_
    show Tri _ _ _ _
    refine tri_seq ?_
    refine tri_seq ?_
    refine tri_region (by exact tokW) (by exact gok) [] [] rfl ?_
    show Tri _ _ _ _
    obtain ⟨fl, hl, ho1⟩ := bind_out h
    refine tri_fl (fl := fl) (fun z => match z with | ⟨x10, x11, x12, x13⟩ => ⟨ofL [(2, .op 0 0), (4, .op 1 0)], ofH [(0, .box 24 [.s (.int .i64 x10), .s (.str x11), .s (.int .i64 x12), .s (.sl 4 (Nd.encs x13))]), (1, .box 24 [.s (.int .i64 0), .s (.str []), .s (.int .i64 0), .nl 4])], 2⟩) ?_ (fun z σ' hz hle => ?_)
    · refine tri_block (tri_loopI (X := Nat × Int × (List UInt8) × Int × (List Nd) × Int) (fun y => match y with | (k, x4, x5, x6, x7, i9) => ⟨ofL [(1, .s (.sl 8 ((List.map enc_api_Op) ops2))), (2, .op 0 0), (4, .op 1 0), (7, .s (.int .i64 i9))], ofH [(0, .box 24 [.s (.int .i64 x4), .s (.str x5), .s (.int .i64 x6), .s (.sl 4 (Nd.encs x7))]), (1, .box 24 [.s (.int .i64 0), .s (.str []), .s (.int .i64 0), .nl 4])], 2⟩) (fun y => m_r12_ApplyAll_l1 n ops2 y.1 y.2.1 y.2.2.1 y.2.2.2.1 y.2.2.2.2.1 y.2.2.2.2.2 = some fl) (fun y => y.1) (n, n1_kind, n1_text, n1_cols, n1_kids, 0) hl ?_ ?_)
      · exact (Le.rename [(0, 0), (1, 1)] _ _ _ ⟨rfl, rfl, rfl, rfl, trivial⟩ ⟨rfl, ⟨_, rfl, rfl⟩, rfl, ⟨_, rfl, rfl⟩, trivial⟩ rfl rfl rfl rfl rfl)
      · rintro ⟨k, x4, x5, x6, x7, i9⟩ h
        cases k with
        | zero => cases h
        | succ k =>
          replace h : m_r12_ApplyAll_l1 n ops2 (k+1) x4 x5 x6 x7 i9 = some fl := h
          rw [m_r12_ApplyAll_l1] at h
          refine tri_seq ?_
          refine tri_seq ?_
          refine tri_region (by exact tokW) (by exact gok) [] [16] rfl ?_
          intro n14 hn14
          obtain rfl : (ops2.length : Int) = n14 := (hn14.trans (congrArg (fun m : Nat => (m : Int)) (rlen (fun _ => rfl) ops2))).symm
          show Tri _ _ _ _
          refine tri_cond rfl (fun hb => ?_) (fun hb => ?_)
          · replace h := bif_t hb h
            refine tri_skip ?_
            show Tri _ _ _ _
            refine tri_seq ?_
            refine tri_block ?_
            refine tri_seq ?_
            refine tri_drawnR (by exact tokW) (by exact gok) (by exact mixed) [8] [24] [0, 9, 10] [0] rfl (by decide +kernel) ?_
            obtain ⟨⟨e15_kind, e15_row, e15_at, e15_n, e15_nodes, e15_slot, e15_old, e15_text⟩, he15, h⟩ := bind_out h
            refine And.intro (at_ok (fun _ => rfl) he15).1 ?_
            intro r16 hr16
            obtain rfl : [.int .i64 e15_kind, .sl 1 ((List.map (irow .i64)) e15_row), .int .i64 e15_at, .int .i64 e15_n, .sl 4 (Nd.encs e15_nodes), .int .i64 e15_slot, .str e15_old, .str e15_text] = r16 := (hr16.trans (at_ok (fun _ => rfl) he15).2.1).symm
            obtain ⟨⟨⟨y17_kind, y17_text, y17_cols, y17_kids⟩, y18⟩, hy17, h⟩ := bind_out h
            refine ⟨_, ⟨_, _, _, _, _, hy17, rfl, rfl⟩, ?_⟩
            show Tri _ _ _ _
            refine tri_le (Le.giveBox 2 [.int .i64 y17_kind, .str y17_text, .int .i64 y17_cols, .sl 4 (Nd.encs y17_kids)] rfl rfl) ?_
            refine tri_seq ?_
            refine tri_seq ?_
            refine tri_region (by exact tokW) (by exact gok) [] [] rfl ?_
            show Tri _ _ _ _
            refine tri_cond rfl (fun hb => ?_) (fun hb => ?_)
            · replace h := bif_t hb h
              refine tri_seq ?_
              refine tri_region (by exact tokW) (by exact gok) [] [] rfl ?_
              show Tri _ _ _ _
              refine tri_ret ?_
              cases h
              replace h : some _ = some _ := ho1
              obtain ⟨hj1, hk1⟩ := Prod.mk.inj (Option.some.inj h)
              subst hj1
              obtain ⟨hj2, hk2⟩ := Prod.mk.inj hk1
              subst hj2
              subst hk2
              unfold Gives
              exact ⟨_, Le.refl _ _, rfl, rfl⟩
            · replace h := bif_f hb h
              refine tri_skip ?_
              show Tri _ _ _ _
              refine tri_region (by exact tokW) (by exact gok) [] [] rfl ?_
              show Tri _ _ _ _
              refine tri_region (by exact tokW) (by exact gok) [] [] rfl ?_
              refine ⟨(k, y17_kind, y17_text, y17_cols, y17_kids, IntKind.i64.wrap (i9 + 1)), h, (Le.rename [(0, 0), (1, 1)] _ _ _ ⟨rfl, rfl, rfl, rfl, trivial⟩ ⟨rfl, ⟨_, rfl, rfl⟩, rfl, ⟨_, rfl, rfl⟩, trivial⟩ rfl rfl rfl rfl rfl), Nat.lt_succ_self k⟩
          · replace h := bif_f hb h
            refine tri_exit ?_
            cases h
            exact ⟨_, rfl, (Le.rename [(0, 0), (1, 1)] _ _ _ ⟨rfl, rfl, trivial⟩ ⟨rfl, ⟨_, rfl, rfl⟩, rfl, ⟨_, rfl, rfl⟩, trivial⟩ rfl rfl rfl rfl rfl)⟩
    · subst hz
      obtain ⟨x10, x11, x12, x13⟩ := z
      replace h := ho1
      show Tri _ _ _ _
      refine tri_le hle ?_
      refine tri_seq ?_
      refine tri_region (by exact tokW) (by exact gok) [] [] rfl ?_
      show Tri _ _ _ _
      refine tri_ret ?_
      obtain ⟨hj1, hk1⟩ := Prod.mk.inj (Option.some.inj h)
      subst hj1
      obtain ⟨hj2, hk2⟩ := Prod.mk.inj hk1
      subst hj2
      subst hk2
      unfold Gives
      exact ⟨_, Le.refl _ _, rfl, rfl⟩
def R_l12_EditApplyAll (n : Nat) (xs : List AV) (r : Ret) : Prop := ∃ (a0 : Nd) (a1 : List (Int × List Int × Int × Int × List Nd × Int × List UInt8 × List UInt8)) (y0 : Bool), m_l12_EditApplyAll n a0 a1 = some y0 ∧ xs = [.agg ((Nd.enc a0).map .s), .s (.sl 8 ((List.map enc_api_Op) a1))] ∧ r = .val (.s (.bool y0))
def S_l12_EditApplyAll : PSpec := pspec fun xs r => ∃ n, R_l12_EditApplyAll n xs r
set_option maxHeartbeats 2000000 in
set_option maxRecDepth 100000 in
theorem ok_l12_EditApplyAll : PSound Try.prog 6 S_l12_EditApplyAll := by
  have gok : ∀ f s, look? f [(11, S_l12_awake), (12, S_l12_few), (23, S_edit_ApplyAll), (24, S_r12_ApplyAll), (17, S_r09_Equal)] = some s → PSound Try.prog f s := look_all (by
    simp only [List.forall_mem_cons]
    exact ⟨ok_l12_awake, ok_l12_few, ok_edit_ApplyAll, ok_r12_ApplyAll, ok_r09_Equal, by simp⟩)
  refine psound tokW Try.call6 Try.func6 rfl (fun xs r h => by obtain ⟨n, _, _, _, _, rfl, _⟩ := h; show 2 ≤ 47; decide) 47 rfl ?_
  rintro xs r w0 G0 ⟨n, ⟨n1_kind, n1_text, n1_cols, n1_kids⟩, ops2, y0, h, rfl, rfl⟩ _
  rw [m_l12_EditApplyAll] at h
  refine tri_seq ?_
  refine tri_region (by exact tokW) (by exact gok) [] [] rfl ?_
  show Tri _ _ _ _
  refine tri_seq ?_
  refine tri_seq ?_
  obtain ⟨x3, hj, h⟩ := bind_out h
  refine tri_post ⟨ofL [(1, .s (.sl 8 ((List.map enc_api_Op) ops2))), (2, .s (.pt [.int .i64 n1_kind, .str n1_text, .int .i64 n1_cols, .sl 4 (Nd.encs n1_kids)])), (18, .s (.bool x3))], fun _ => none, 0⟩ ?_ (fun σ' hle => ?_)
  · replace h := hj
    refine tri_region (by exact tokW) (by exact gok) [] [13] rfl ?_
    obtain ⟨y4, hy4, h⟩ := bind_out h
    refine ⟨_, ⟨_, _, hy4, rfl, rfl⟩, ?_⟩
    intro b hb
    cases b with
    | true =>
      replace h := bif_t hb.symm h
      cases h
      exact (Le.forget _ ⟨rfl, rfl, rfl, trivial⟩)
    | false =>
      replace h := bif_f hb.symm h
      obtain ⟨y5, hy5, h⟩ := bind_out h
      refine ⟨_, ⟨_, _, _, _, hy5, rfl, rfl⟩, ?_⟩
      cases h
      exact (Le.forget _ ⟨rfl, rfl, rfl, trivial⟩)
  · show Tri _ _ _ _
    refine tri_le hle ?_
    refine tri_cond rfl (fun hb => ?_) (fun hb => ?_)
    · replace h := bif_t hb h
      refine tri_seq ?_
      refine tri_region (by exact tokW) (by exact gok) [] [] rfl ?_
      obtain ⟨y6, hy6, h⟩ := bind_out h
      refine ⟨_, ⟨_, _, hy6, rfl, rfl⟩, ?_⟩
      show Tri _ _ _ _
      refine tri_ret ?_
      have hy := Option.some.inj h
      subst hy
      unfold Gives
      exact ⟨_, Le.refl _ _, rfl, rfl⟩
    · replace h := bif_f hb h
      refine tri_skip ?_
      show Tri _ _ _ _
      refine tri_seq ?_
      refine tri_region (by exact tokW) (by exact gok) [5] [] rfl ?_
      obtain ⟨⟨⟨y7_kind, y7_text, y7_cols, y7_kids⟩, y8, y9⟩, hy7, h⟩ := bind_out h
      refine ⟨_, ⟨_, _, _, _, _, _, hy7, rfl, rfl⟩, ?_⟩
      show Tri _ _ _ _
      refine tri_le (Le.giveBox 0 [.int .i64 y7_kind, .str y7_text, .int .i64 y7_cols, .sl 4 (Nd.encs y7_kids)] rfl rfl) ?_
      refine tri_seq ?_
      refine tri_region (by exact tokW) (by exact gok) [8] [] rfl ?_
      obtain ⟨⟨⟨y10_kind, y10_text, y10_cols, y10_kids⟩, y11, y12⟩, hy10, h⟩ := bind_out h
      refine ⟨_, ⟨_, _, _, _, _, _, hy10, rfl, rfl⟩, ?_⟩
      show Tri _ _ _ _
      refine tri_le (Le.giveBox 1 [.int .i64 y10_kind, .str y10_text, .int .i64 y10_cols, .sl 4 (Nd.encs y10_kids)] rfl rfl) ?_
      refine tri_seq ?_
      obtain ⟨x13, hj, h⟩ := bind_out h
      refine tri_post ⟨ofL [(4, .s (.bool x13))], fun _ => none, 0⟩ ?_ (fun σ' hle => ?_)
      · replace h := hj
        refine tri_region (by exact tokW) (by exact gok) [] [37, 42] rfl ?_
        intro b hb
        cases b with
        | true =>
          replace h := bif_t hb.symm h
          intro b hb
          cases b with
          | true =>
            replace h := bif_t hb.symm h
            obtain ⟨y14, hy14, h⟩ := bind_out h
            refine ⟨_, ⟨_, _, _, _, hy14, rfl, rfl⟩, ?_⟩
            cases h
            exact (Le.rename [] _ [] 0 ⟨rfl, trivial⟩ trivial rfl rfl rfl rfl rfl)
          | false =>
            replace h := bif_f hb.symm h
            cases h
            exact (Le.rename [] _ [] 0 ⟨rfl, trivial⟩ trivial rfl rfl rfl rfl rfl)
        | false =>
          replace h := bif_f hb.symm h
          intro b hb
          subst hb
          cases h
          exact (Le.rename [] _ [] 0 ⟨rfl, trivial⟩ trivial rfl rfl rfl rfl rfl)
      · show Tri _ _ _ _
        refine tri_le hle ?_
        refine tri_ret ?_
        have hy := Option.some.inj h
        subst hy
        unfold Gives
        exact ⟨_, Le.refl _ _, rfl, rfl⟩
def R_l12_EditCommutes (n : Nat) (xs : List AV) (r : Ret) : Prop := ∃ (a0 : Nd) (a1 : (Int × List Int × Int × Int × List Nd × Int × List UInt8 × List UInt8)) (a2 : (Int × List Int × Int × Int × List Nd × Int × List UInt8 × List UInt8)) (y0 : Bool), m_l12_EditCommutes n a0 a1 a2 = some y0 ∧ xs = [.agg ((Nd.enc a0).map .s), .agg ((enc_api_Op a1).map .s), .agg ((enc_api_Op a2).map .s)] ∧ r = .val (.s (.bool y0))
def S_l12_EditCommutes : PSpec := pspec fun xs r => ∃ n, R_l12_EditCommutes n xs r
set_option maxHeartbeats 2000000 in
set_option maxRecDepth 100000 in
theorem ok_l12_EditCommutes : PSound Try.prog 7 S_l12_EditCommutes := by
  have gok : ∀ f s, look? f [(11, S_l12_awake), (12, S_l12_few), (15, S_l12_begins), (23, S_edit_ApplyAll), (17, S_r09_Equal)] = some s → PSound Try.prog f s := look_all (by
    simp only [List.forall_mem_cons]
    exact ⟨ok_l12_awake, ok_l12_few, ok_l12_begins, ok_edit_ApplyAll, ok_r09_Equal, by simp⟩)
  refine psound tokW Try.call7 Try.func7 rfl (fun xs r h => by obtain ⟨n, _, _, _, _, _, rfl, _⟩ := h; show 3 ≤ 66; decide) 66 rfl ?_
  rintro xs r w0 G0 ⟨n, ⟨a1_kind, a1_text, a1_cols, a1_kids⟩, ⟨a2_kind, a2_row, a2_at, a2_n, a2_nodes, a2_slot, a2_old, a2_text⟩, ⟨a3_kind, a3_row, a3_at, a3_n, a3_nodes, a3_slot, a3_old, a3_text⟩, y0, h, rfl, rfl⟩ _
  rw [m_l12_EditCommutes] at h
  refine tri_seq ?_
  refine tri_region (by exact tokW) (by exact gok) [] [] rfl ?_
  show Tri _ _ _ _
  refine tri_seq ?_
  refine tri_seq ?_
  obtain ⟨x4, hj, h⟩ := bind_out h
  refine tri_post ⟨ofL [(3, .s (.pt [.int .i64 a1_kind, .str a1_text, .int .i64 a1_cols, .sl 4 (Nd.encs a1_kids)])), (4, .s (.pt [.int .i64 a2_kind, .sl 1 ((List.map (irow .i64)) a2_row), .int .i64 a2_at, .int .i64 a2_n, .sl 4 (Nd.encs a2_nodes), .int .i64 a2_slot, .str a2_old, .str a2_text])), (5, .s (.pt [.int .i64 a3_kind, .sl 1 ((List.map (irow .i64)) a3_row), .int .i64 a3_at, .int .i64 a3_n, .sl 4 (Nd.encs a3_nodes), .int .i64 a3_slot, .str a3_old, .str a3_text])), (36, .s (.bool x4))], fun _ => none, 0⟩ ?_ (fun σ' hle => ?_)
  · replace h := hj
    refine tri_region (by exact tokW) (by exact gok) [] [15, 19, 23, 30] rfl ?_
    obtain ⟨y5, hy5, h⟩ := bind_out h
    refine ⟨_, ⟨_, _, hy5, rfl, rfl⟩, ?_⟩
    intro b hb
    cases b with
    | true =>
      replace h := bif_t hb.symm h
      intro b hb
      subst hb
      intro b hb
      subst hb
      cases h
      exact (Le.forget _ ⟨rfl, rfl, rfl, rfl, trivial⟩)
    | false =>
      replace h := bif_f hb.symm h
      intro r6 hr6
      obtain rfl : (List.map enc_api_Op) [(a2_kind, a2_row, a2_at, a2_n, a2_nodes, a2_slot, a2_old, a2_text), (a3_kind, a3_row, a3_at, a3_n, a3_nodes, a3_slot, a3_old, a3_text)] = r6 := (hr6.trans (by simp [List.map_append, List.map_take, List.map_drop, irow, brow, b8of_row, List.map_cons, List.map_nil, b8of_wrap, Nd.encs_eq, Nd.enc, enc_13_node_kind, enc_node_checker, enc_s_api_Node, enc_edit_change, enc_api_Op, enc_string])).symm
      obtain ⟨y7, hy7, h⟩ := bind_out h
      refine ⟨_, ⟨_, _, _, _, hy7, rfl, rfl⟩, ?_⟩
      intro b hb
      cases b with
      | true =>
        replace h := bif_t hb.symm h
        intro b hb
        subst hb
        cases h
        exact (Le.forget _ ⟨rfl, rfl, rfl, rfl, trivial⟩)
      | false =>
        replace h := bif_f hb.symm h
        obtain ⟨y8, hy8, h⟩ := bind_out h
        refine ⟨_, ⟨_, _, _, _, hy8, rfl, rfl⟩, ?_⟩
        intro b hb
        cases b with
        | true =>
          replace h := bif_t hb.symm h
          cases h
          exact (Le.forget _ ⟨rfl, rfl, rfl, rfl, trivial⟩)
        | false =>
          replace h := bif_f hb.symm h
          obtain ⟨y9, hy9, h⟩ := bind_out h
          refine ⟨_, ⟨_, _, _, _, hy9, rfl, rfl⟩, ?_⟩
          cases h
          exact (Le.forget _ ⟨rfl, rfl, rfl, rfl, trivial⟩)
  · show Tri _ _ _ _
    refine tri_le hle ?_
    refine tri_cond rfl (fun hb => ?_) (fun hb => ?_)
    · replace h := bif_t hb h
      refine tri_seq ?_
      refine tri_region (by exact tokW) (by exact gok) [] [] rfl ?_
      obtain ⟨y10, hy10, h⟩ := bind_out h
      refine ⟨_, ⟨_, _, hy10, rfl, rfl⟩, ?_⟩
      show Tri _ _ _ _
      refine tri_ret ?_
      have hy := Option.some.inj h
      subst hy
      unfold Gives
      exact ⟨_, Le.refl _ _, rfl, rfl⟩
    · replace h := bif_f hb h
      refine tri_skip ?_
      show Tri _ _ _ _
      refine tri_seq ?_
      refine tri_region (by exact tokW) (by exact gok) [7] [42] rfl ?_
      intro r11 hr11
      obtain rfl : (List.map enc_api_Op) [(a2_kind, a2_row, a2_at, a2_n, a2_nodes, a2_slot, a2_old, a2_text), (a3_kind, a3_row, a3_at, a3_n, a3_nodes, a3_slot, a3_old, a3_text)] = r11 := (hr11.trans (by simp [List.map_append, List.map_take, List.map_drop, irow, brow, b8of_row, List.map_cons, List.map_nil, b8of_wrap, Nd.encs_eq, Nd.enc, enc_13_node_kind, enc_node_checker, enc_s_api_Node, enc_edit_change, enc_api_Op, enc_string])).symm
      obtain ⟨⟨⟨y12_kind, y12_text, y12_cols, y12_kids⟩, y13, y14⟩, hy12, h⟩ := bind_out h
      refine ⟨_, ⟨_, _, _, _, _, _, hy12, rfl, rfl⟩, ?_⟩
      show Tri _ _ _ _
      refine tri_le (Le.giveBox 0 [.int .i64 y12_kind, .str y12_text, .int .i64 y12_cols, .sl 4 (Nd.encs y12_kids)] rfl rfl) ?_
      refine tri_seq ?_
      refine tri_region (by exact tokW) (by exact gok) [10] [51] rfl ?_
      intro r15 hr15
      obtain rfl : (List.map enc_api_Op) [(a3_kind, a3_row, a3_at, a3_n, a3_nodes, a3_slot, a3_old, a3_text), (a2_kind, a2_row, a2_at, a2_n, a2_nodes, a2_slot, a2_old, a2_text)] = r15 := (hr15.trans (by simp [List.map_append, List.map_take, List.map_drop, irow, brow, b8of_row, List.map_cons, List.map_nil, b8of_wrap, Nd.encs_eq, Nd.enc, enc_13_node_kind, enc_node_checker, enc_s_api_Node, enc_edit_change, enc_api_Op, enc_string])).symm
      obtain ⟨⟨⟨y16_kind, y16_text, y16_cols, y16_kids⟩, y17, y18⟩, hy16, h⟩ := bind_out h
      refine ⟨_, ⟨_, _, _, _, _, _, hy16, rfl, rfl⟩, ?_⟩
      show Tri _ _ _ _
      refine tri_le (Le.giveBox 1 [.int .i64 y16_kind, .str y16_text, .int .i64 y16_cols, .sl 4 (Nd.encs y16_kids)] rfl rfl) ?_
      refine tri_seq ?_
      obtain ⟨x19, hj, h⟩ := bind_out h
      refine tri_post ⟨ofL [(6, .s (.bool x19))], fun _ => none, 0⟩ ?_ (fun σ' hle => ?_)
      · replace h := hj
        refine tri_region (by exact tokW) (by exact gok) [] [61] rfl ?_
        intro b hb
        cases b with
        | true =>
          replace h := bif_t hb.symm h
          obtain ⟨y20, hy20, h⟩ := bind_out h
          refine ⟨_, ⟨_, _, _, _, hy20, rfl, rfl⟩, ?_⟩
          cases h
          exact (Le.rename [] _ [] 0 ⟨rfl, trivial⟩ trivial rfl rfl rfl rfl rfl)
        | false =>
          replace h := bif_f hb.symm h
          cases h
          exact (Le.rename [] _ [] 0 ⟨rfl, trivial⟩ trivial rfl rfl rfl rfl rfl)
      · show Tri _ _ _ _
        refine tri_le hle ?_
        refine tri_ret ?_
        have hy := Option.some.inj h
        subst hy
        unfold Gives
        exact ⟨_, Le.refl _ _, rfl, rfl⟩
def R_l12_EditUndo (n : Nat) (xs : List AV) (r : Ret) : Prop := ∃ (a0 : Nd) (a1 : (Int × List Int × Int × Int × List Nd × Int × List UInt8 × List UInt8)) (y0 : Bool), m_l12_EditUndo n a0 a1 = some y0 ∧ xs = [.agg ((Nd.enc a0).map .s), .agg ((enc_api_Op a1).map .s)] ∧ r = .val (.s (.bool y0))
def S_l12_EditUndo : PSpec := pspec fun xs r => ∃ n, R_l12_EditUndo n xs r
set_option maxHeartbeats 2000000 in
set_option maxRecDepth 100000 in
theorem ok_l12_EditUndo : PSound Try.prog 8 S_l12_EditUndo := by
  have gok : ∀ f s, look? f [(11, S_l12_awake), (12, S_l12_few), (13, S_edit_Apply), (17, S_r09_Equal), (25, S_edit_Invert), (26, S_r09_Valid)] = some s → PSound Try.prog f s := look_all (by
    simp only [List.forall_mem_cons]
    exact ⟨ok_l12_awake, ok_l12_few, ok_edit_Apply, ok_r09_Equal, ok_edit_Invert, ok_r09_Valid, by simp⟩)
  refine psound tokW Try.call8 Try.func8 rfl (fun xs r h => by obtain ⟨n, _, _, _, _, rfl, _⟩ := h; show 2 ≤ 48; decide) 48 rfl ?_
  rintro xs r w0 G0 ⟨n, ⟨n1_kind, n1_text, n1_cols, n1_kids⟩, ⟨op2_kind, op2_row, op2_at, op2_n, op2_nodes, op2_slot, op2_old, op2_text⟩, y0, h, rfl, rfl⟩ _
  rw [m_l12_EditUndo] at h
  refine tri_seq ?_
  refine tri_region (by exact tokW) (by exact gok) [] [] rfl ?_
  show Tri _ _ _ _
  refine tri_seq ?_
  refine tri_seq ?_
  obtain ⟨x3, hj, h⟩ := bind_out h
  refine tri_post ⟨ofL [(2, .s (.pt [.int .i64 n1_kind, .str n1_text, .int .i64 n1_cols, .sl 4 (Nd.encs n1_kids)])), (3, .s (.pt [.int .i64 op2_kind, .sl 1 ((List.map (irow .i64)) op2_row), .int .i64 op2_at, .int .i64 op2_n, .sl 4 (Nd.encs op2_nodes), .int .i64 op2_slot, .str op2_old, .str op2_text])), (17, .s (.bool x3))], fun _ => none, 0⟩ ?_ (fun σ' hle => ?_)
  · replace h := hj
    refine tri_region (by exact tokW) (by exact gok) [] [11, 14] rfl ?_
    obtain ⟨y4, hy4, h⟩ := bind_out h
    refine ⟨_, ⟨_, _, hy4, rfl, rfl⟩, ?_⟩
    intro b hb
    cases b with
    | true =>
      replace h := bif_t hb.symm h
      cases h
      exact (Le.forget _ ⟨rfl, rfl, rfl, trivial⟩)
    | false =>
      replace h := bif_f hb.symm h
      intro r5 hr5
      obtain rfl : (List.map enc_api_Op) [(op2_kind, op2_row, op2_at, op2_n, op2_nodes, op2_slot, op2_old, op2_text)] = r5 := (hr5.trans (by simp [List.map_append, List.map_take, List.map_drop, irow, brow, b8of_row, List.map_cons, List.map_nil, b8of_wrap, Nd.encs_eq, Nd.enc, enc_13_node_kind, enc_node_checker, enc_s_api_Node, enc_edit_change, enc_api_Op, enc_string])).symm
      obtain ⟨y6, hy6, h⟩ := bind_out h
      refine ⟨_, ⟨_, _, _, _, hy6, rfl, rfl⟩, ?_⟩
      cases h
      exact (Le.forget _ ⟨rfl, rfl, rfl, trivial⟩)
  · show Tri _ _ _ _
    refine tri_le hle ?_
    refine tri_cond rfl (fun hb => ?_) (fun hb => ?_)
    · replace h := bif_t hb h
      refine tri_seq ?_
      refine tri_region (by exact tokW) (by exact gok) [] [] rfl ?_
      obtain ⟨y7, hy7, h⟩ := bind_out h
      refine ⟨_, ⟨_, _, hy7, rfl, rfl⟩, ?_⟩
      show Tri _ _ _ _
      refine tri_ret ?_
      have hy := Option.some.inj h
      subst hy
      unfold Gives
      exact ⟨_, Le.refl _ _, rfl, rfl⟩
    · replace h := bif_f hb h
      refine tri_skip ?_
      show Tri _ _ _ _
      refine tri_seq ?_
      refine tri_region (by exact tokW) (by exact gok) [5] [] rfl ?_
      obtain ⟨⟨⟨y8_kind, y8_text, y8_cols, y8_kids⟩, y9⟩, hy8, h⟩ := bind_out h
      refine ⟨_, ⟨_, _, _, _, _, hy8, rfl, rfl⟩, ?_⟩
      show Tri _ _ _ _
      refine tri_le (Le.giveBox 0 [.int .i64 y8_kind, .str y8_text, .int .i64 y8_cols, .sl 4 (Nd.encs y8_kids)] rfl rfl) ?_
      refine tri_seq ?_
      refine tri_seq ?_
      refine tri_region (by exact tokW) (by exact gok) [] [] rfl ?_
      show Tri _ _ _ _
      refine tri_cond rfl (fun hb => ?_) (fun hb => ?_)
      · replace h := bif_t hb h
        refine tri_seq ?_
        refine tri_region (by exact tokW) (by exact gok) [] [] rfl ?_
        obtain ⟨y10, hy10, h⟩ := bind_out h
        refine ⟨_, ⟨_, _, _, _, hy10, rfl, rfl⟩, ?_⟩
        show Tri _ _ _ _
        refine tri_ret ?_
        have hy := Option.some.inj h
        subst hy
        unfold Gives
        exact ⟨_, Le.refl _ _, rfl, rfl⟩
      · replace h := bif_f hb h
        refine tri_skip ?_
        show Tri _ _ _ _
        refine tri_seq ?_
        refine tri_drawnR (by exact tokW) (by exact gok) (by exact mixed) [7] [] [7, 8] [] rfl (by decide +kernel) ?_
        obtain ⟨⟨y11_kind, y11_row, y11_at, y11_n, y11_nodes, y11_slot, y11_old, y11_text⟩, hy11, h⟩ := bind_out h
        refine ⟨_, ⟨_, _, _, hy11, rfl, rfl⟩, ?_⟩
        obtain ⟨⟨⟨y12_kind, y12_text, y12_cols, y12_kids⟩, y13⟩, hy12, h⟩ := bind_out h
        refine ⟨_, ⟨_, _, _, _, _, hy12, rfl, rfl⟩, ?_⟩
        show Tri _ _ _ _
        refine tri_le (Le.giveBox 1 [.int .i64 y12_kind, .str y12_text, .int .i64 y12_cols, .sl 4 (Nd.encs y12_kids)] rfl rfl) ?_
        refine tri_seq ?_
        obtain ⟨x14, hj, h⟩ := bind_out h
        refine tri_post ⟨ofL [(4, .s (.bool x14))], fun _ => none, 0⟩ ?_ (fun σ' hle => ?_)
        · replace h := hj
          refine tri_region (by exact tokW) (by exact gok) [] [39, 44] rfl ?_
          intro b hb
          cases b with
          | true =>
            replace h := bif_t hb.symm h
            obtain ⟨y15, hy15, h⟩ := bind_out h
            refine ⟨_, ⟨_, _, _, _, hy15, rfl, rfl⟩, ?_⟩
            intro b hb
            cases b with
            | true =>
              replace h := bif_t hb.symm h
              obtain ⟨y16, hy16, h⟩ := bind_out h
              refine ⟨_, ⟨_, _, _, hy16, rfl, rfl⟩, ?_⟩
              cases h
              exact (Le.rename [] _ [] 0 ⟨rfl, trivial⟩ trivial rfl rfl rfl rfl rfl)
            | false =>
              replace h := bif_f hb.symm h
              cases h
              exact (Le.rename [] _ [] 0 ⟨rfl, trivial⟩ trivial rfl rfl rfl rfl rfl)
          | false =>
            replace h := bif_f hb.symm h
            intro b hb
            subst hb
            cases h
            exact (Le.rename [] _ [] 0 ⟨rfl, trivial⟩ trivial rfl rfl rfl rfl rfl)
        · show Tri _ _ _ _
          refine tri_le hle ?_
          refine tri_ret ?_
          have hy := Option.some.inj h
          subst hy
          unfold Gives
          exact ⟨_, Le.refl _ _, rfl, rfl⟩
end Go.Proofs.Ytfbggpmdmhgpfaa
namespace Go.Proofs.Ytfbggpmdmhgpfaa
open Go.Abs
theorem typed_nd {n : Nat} {ss : List S} (h : Typed T n 24 ss) : ∃ t : Nd, ss = t.enc ∧ t.rng :=
  typed_node (T := T) (e := 24) (s := 22) (ki := 3) (st := 9) rfl rfl rfl rfl rfl rfl rfl rfl rfl n h
theorem typed_nodes {n t : Nat} {ss : List S} (h : Typed T n 22 ss) : ∃ l : List Nd, ss = [.sl 4 (Nd.encs l)] ∧ Nd.rngs l := by
  obtain ⟨m, rows, rfl, rfl, _, hr⟩ := typed_slice (T := T) (e := 24) rfl rfl h
  obtain ⟨ks, rfl, hks⟩ := all_map (f := Nd.enc) (q := Nd.rng) (l := rows) fun r hr' => typed_node (T := T) (e := 24) (s := 22) (ki := 3) (st := 9) rfl rfl rfl rfl rfl rfl rfl rfl rfl m (hr r hr')
  exact ⟨ks, by rw [Nd.encs_eq]; rfl, Nd.rngAll hks⟩
theorem typed_op {n : Nat} {ss : List S} (h : Typed T n 27 ss) : ∃ o : (Int × List Int × Int × Int × List Nd × Int × List UInt8 × List UInt8), ss = enc_api_Op o ∧ True := by
  obtain ⟨m, rfl, a0, q0, rfl, u0, a1, q1, rfl, u1, a2, q2, rfl, u2, a3, q3, rfl, u3, a4, q4, rfl, u4, a5, q5, rfl, u5, a6, q6, rfl, u6, a7, q7, rfl, u7, rfl⟩ := typed_struct (T := T) (t := 27) rfl rfl h
  obtain ⟨x0, rfl, _⟩ := typed_int (T := T) (k := .i64) rfl rfl u0
  obtain ⟨x1, rfl, _⟩ := typed_ints (T := T) (k := .i64) (e := 3) rfl rfl rfl rfl u1
  obtain ⟨x2, rfl, _⟩ := typed_int (T := T) (k := .i64) rfl rfl u2
  obtain ⟨x3, rfl, _⟩ := typed_int (T := T) (k := .i64) rfl rfl u3
  obtain ⟨x4, rfl, _⟩ := typed_nodes (t := 0) u4
  obtain ⟨x5, rfl, _⟩ := typed_int (T := T) (k := .i64) rfl rfl u5
  obtain ⟨x6, rfl, _⟩ := typed_str (T := T) rfl rfl u6
  obtain ⟨x7, rfl, _⟩ := typed_str (T := T) rfl rfl u7
  exact ⟨(x0, x1, x2, x3, x4, x5, x6, x7), rfl, trivial⟩
theorem typed_ops {n : Nat} {ss : List S} (h : Typed T n 42 ss) : ∃ l : List (Int × List Int × Int × Int × List Nd × Int × List UInt8 × List UInt8), ss = [.sl 8 (l.map enc_api_Op)] := by
  obtain ⟨m, rows, rfl, rfl, _, hr⟩ := typed_slice (T := T) (e := 27) rfl rfl h
  obtain ⟨ks, rfl, hks⟩ := all_map (f := enc_api_Op) (q := fun _ => True) (l := rows) fun r hr' => typed_op (hr r hr')
  exact ⟨ks, rfl⟩
theorem typed_path {n : Nat} {ss : List S} (h : Typed T n 25 ss) : ∃ l : List Int, ss = [.sl 1 (l.map fun z => [.int .i64 z])] ∧ True := by
  obtain ⟨x, rfl, _⟩ := typed_ints (T := T) (k := .i64) (e := 3) rfl rfl rfl rfl h
  exact ⟨x, rfl, trivial⟩
theorem bulk_mem {α : Type} {f : α → List S} : ∀ {l : List α} {x : α}, x ∈ l → bulkL (f x) ≤ bulkLL (l.map f)
  | y :: l, x, h => by
    simp only [List.map_cons, bulkLL]
    rcases List.mem_cons.1 h with rfl | h
    · omega
    · have := bulk_mem (f := f) h; omega
theorem op_bulk (o : (Int × List Int × Int × Int × List Nd × Int × List UInt8 × List UInt8)) : Nd.ws o.2.2.2.2.1 + o.2.2.2.2.2.2.2.length + o.2.1.length ≤ bulkL (enc_api_Op o) := by
  have h1 := Nd.ws_bulk o.2.2.2.2.1
  have h2 := bulk_ints .i64 o.2.1
  simp only [enc_api_Op, bulkL, S.bulk]
  omega
theorem op_bulk2 (o : (Int × List Int × Int × Int × List Nd × Int × List UInt8 × List UInt8)) : o.2.2.2.2.2.2.1.length ≤ bulkL (enc_api_Op o) := by
  simp only [enc_api_Op, bulkL, S.bulk]
  omega
theorem ops_len {l : List (Int × List Int × Int × Int × List Nd × Int × List UInt8 × List UInt8)} : l.length ≤ bulkLL (l.map enc_api_Op) := by
  have := bulk_rows (rows := l.map enc_api_Op) fun r hr => by
    obtain ⟨o, _, rfl⟩ := List.mem_map.1 hr
    simp only [enc_api_Op, List.length_cons]
    omega
  simpa using this
end Go.Proofs.Ytfbggpmdmhgpfaa
namespace Go.Proofs.Ytfbggpmdmhgpfaa
open Go.Abs
theorem dec_t {φ : Prop} [Decidable φ] (h : φ) : decide φ = true := decide_eq_true h
theorem dec_f {φ : Prop} [Decidable φ] (h : ¬ φ) : decide φ = false := decide_eq_false h
theorem r09_Count_loop {F : Nd → Option Int} {ks : List Nd} (hF : ∀ v ∈ ks, F v = some (v.cnt : Int)) :
    ∀ (k i : Nat) (o : Nat), ks.length - i < k → i ≤ ks.length → o + Nd.cnts (ks.drop i) ≤ 1073741824 → ks.length ≤ 1073741824 → m_r09_Count_l1 F ks k (o : Int) (i : Int) = some ((o + Nd.cnts (ks.drop i) : Nat) : Int)
  | 0, _, _, h, _, _, _ => by omega
  | k + 1, i, o, hk, hi, ho, hl => by
    unfold m_r09_Count_l1
    by_cases h : i < ks.length
    · rw [dec_t (Int.ofNat_lt.2 h), cond_true, at_get h]
      have hd := Nd.cnts_drop h
      have hf := hF _ (List.getElem_mem h)
      rcases e : ks[i] with ⟨a, b, c, d⟩
      rw [e] at hd hf
      simp only [Option.bind_some, hf]
      rw [wrap64_in (by omega) (by omega), wi_succ (by omega), ← Int.natCast_add, r09_Count_loop hF k (i + 1) _ (by omega) (by omega) (by omega) hl, hd]
      congr 2; omega
    · rw [dec_f (by omega), cond_false]
      obtain rfl : i = ks.length := by omega
      simp [Nd.cnts]
theorem r09_Count_eq : ∀ (n : Nat) (t : Nd), t.cnt < n → t.cnt ≤ 67108864 → m_r09_Count n t = some (t.cnt : Int)
  | 0, _, h, _ => by omega
  | n + 1, .mk a b c ks, h, hb => by
    simp only [Nd.cnt] at h hb
    have hl := Nd.cnts_len ks
    unfold m_r09_Count
    have := r09_Count_loop (F := m_r09_Count n) (ks := ks) (fun v hv => r09_Count_eq n v (by have := Nd.cnts_mem hv; omega) (by have := Nd.cnts_mem hv; omega)) n 0 1 (by omega) (by omega) (by simp; omega) (by omega)
    rw [show ((0 : Nat) : Int) = 0 from rfl, show ((1 : Nat) : Int) = 1 from rfl] at this
    rw [this]
    simp only [Option.bind_some, List.drop_zero, Nd.cnt]
    congr 2; omega
theorem left_loop {F : Nd → Int → Option Int} {ks : List Nd} {b : Nat} (hF : ∀ (v : Nd) (m : Nat), m ≤ b → ∃ r, F v (m : Int) = some r ∧ -1 ≤ r ∧ r < m ∧ (0 ≤ r → r + v.cnt = m)) :
    ∀ (k i : Nat) (m : Int), m + 1 < k → -1 ≤ m → m ≤ b → i ≤ ks.length → (i : Int) + m < 4611686018427387904 → ∃ r, m_r09_left_l1 F ks k m (i : Int) = some r ∧ -1 ≤ r ∧ r ≤ m ∧ (0 ≤ r → r + Nd.cnts (ks.drop i) = m)
  | 0, _, _, h, _, _, _, _ => by omega
  | k + 1, i, m, hk, hm, hb, hi, hx => by
    unfold m_r09_left_l1
    by_cases h : i < ks.length
    · rw [dec_t (Int.ofNat_lt.2 h), cond_true]
      simp only [Option.bind_some]
      by_cases h0 : 0 ≤ m
      · rw [dec_t h0, cond_true, at_get h]
        have hd := Nd.cnts_drop h
        rcases e : ks[i] with ⟨e1, e2, e3, e4⟩
        rw [e] at hd
        simp only [Option.bind_some]
        obtain ⟨m', rfl⟩ := Int.eq_ofNat_of_zero_le h0
        obtain ⟨r, h1, h2, h3, h4⟩ := hF (.mk e1 e2 e3 e4) m' (by omega)
        rw [h1, Option.bind_some, wi_succ (by omega)]
        obtain ⟨r', g1, g2, g3, g4⟩ := left_loop (ks := ks) hF k (i + 1) r (by omega) h2 (by omega) (by omega) (by omega)
        exact ⟨r', g1, g2, by omega, fun g => by have := g4 g; have := h4 (by omega); omega⟩
      · rw [dec_f h0, cond_false]
        exact ⟨m, rfl, hm, Int.le_refl _, fun g => by omega⟩
    · rw [dec_f (by omega), cond_false]
      simp only [Option.bind_some, cond_false]
      obtain rfl : i = ks.length := by omega
      exact ⟨m, rfl, hm, Int.le_refl _, fun _ => by simp [Nd.cnts]⟩
theorem left_eq : ∀ (n : Nat) (t : Nd) (m : Nat), m + 1 < n → m ≤ 67108864 → ∃ r, m_r09_left n t (m : Int) = some r ∧ -1 ≤ r ∧ r < m ∧ (0 ≤ r → r + t.cnt = m)
  | 0, _, _, h, _ => by omega
  | n + 1, .mk a b c ks, m, h, hm => by
    unfold m_r09_left
    rw [wrap64_in (by omega) (by omega)]
    cases m with
    | zero =>
      cases n with
      | zero => omega
      | succ n =>
        refine ⟨-1, ?_, by omega, by omega, fun h => by omega⟩
        unfold m_r09_left_l1
        cases decide (((0 : Nat) : Int) < (ks.length : Int)) <;> simp <;> rfl
    | succ m =>
      obtain ⟨r, h1, h2, h3, h4⟩ := left_loop (F := m_r09_left n) (ks := ks) (b := m) (fun v q hq => left_eq n v q (by omega) (by omega)) n 0 (m : Int) (by omega) (by omega) (by omega) (by omega) (by omega)
      rw [show ((0 : Nat) : Int) = 0 from rfl] at h1
      rw [show ((m + 1 : Nat) : Int) - 1 = (m : Int) by omega, h1]
      exact ⟨r, rfl, h2, by omega, fun g => by have := h4 g; rw [List.drop_zero] at this; simp only [Nd.cnt]; omega⟩
theorem Few_eq (n : Nat) (t : Nd) (m : Nat) (h : m + 1 < n) (hm : m ≤ 67108864) : ∃ b, m_r09_Few n t (m : Int) = some b ∧ (b = true → t.cnt ≤ m) := by
  obtain ⟨a, b, c, ks⟩ := t
  obtain ⟨r, h1, h2, h3, h4⟩ := left_eq n (.mk a b c ks) m h hm
  refine ⟨decide (0 ≤ r), by simp [m_r09_Few, h1], fun g => by have g0 := of_decide_eq_true g; have := h4 g0; omega⟩
end Go.Proofs.Ytfbggpmdmhgpfaa
namespace Go.Proofs.Ytfbggpmdmhgpfaa
open Go.Abs
def allFl {α : Type} (p : α → Bool) (l : List α) : Fl Bool Unit := if l.all p then .go () else .ret false
theorem all_drop {α : Type} {p : α → Bool} {l : List α} {i : Nat} (h : i < l.length) : (l.drop i).all p = (p l[i] && (l.drop (i + 1)).all p) := by
  rw [List.drop_eq_getElem_cons h]; rfl
theorem any_drop {α : Type} {p : α → Bool} {l : List α} {i : Nat} (h : i < l.length) : (l.drop i).any p = (p l[i] || (l.drop (i + 1)).any p) := by
  rw [List.drop_eq_getElem_cons h]; rfl
theorem loop_all {α : Type} {p : α → Bool} {l : List α} (L : Nat → Int → Option (Fl Bool Unit)) (hb : l.length ≤ 1073741824)
    (h1 : ∀ (k i : Nat) (h : i < l.length), L (k + 1) (i : Int) = if p l[i] then L k (((i + 1 : Nat)) : Int) else some (.ret false)) (h2 : ∀ k, L (k + 1) (l.length : Int) = some (.go ())) :
    ∀ (k i : Nat), l.length - i < k → i ≤ l.length → L k (i : Int) = some (allFl p (l.drop i))
  | 0, _, h, _ => by omega
  | k + 1, i, hk, hi => by
    by_cases h : i < l.length
    · rw [h1 k i h, loop_all L hb h1 h2 k (i + 1) (by omega) (by omega)]
      unfold allFl
      rw [all_drop h]
      cases p l[i] <;> simp
    · obtain rfl : i = l.length := by omega
      rw [h2]; simp [allFl]
theorem loop_any {α : Type} {p : α → Bool} {l : List α} (L : Nat → Int → Option (Fl Bool Unit)) (hb : l.length ≤ 1073741824)
    (h1 : ∀ (k i : Nat) (h : i < l.length), L (k + 1) (i : Int) = if p l[i] then some (.ret true) else L k (((i + 1 : Nat)) : Int)) (h2 : ∀ k, L (k + 1) (l.length : Int) = some (.go ())) :
    ∀ (k i : Nat), l.length - i < k → i ≤ l.length → L k (i : Int) = some (if (l.drop i).any p then .ret true else .go ())
  | 0, _, h, _ => by omega
  | k + 1, i, hk, hi => by
    by_cases h : i < l.length
    · rw [h1 k i h, loop_any L hb h1 h2 k (i + 1) (by omega) (by omega), any_drop h]
      cases p l[i] <;> simp
    · obtain rfl : i = l.length := by omega
      rw [h2]; simp
theorem u8_all {P : UInt8 → Bool} (h : (List.range 256).all (fun n => P n.toUInt8) = true) (b : UInt8) : P b = true := by
  have : P (UInt8.ofNat b.toNat) = true := List.all_eq_true.1 h b.toNat (List.mem_range.2 b.toNat_lt)
  rwa [UInt8.ofNat_toNat] at this
def letterB (b : UInt8) : Bool := (decide (97 ≤ b.toNat) && decide (b.toNat ≤ 122)) || (decide (65 ≤ b.toNat) && decide (b.toNat ≤ 90))
def digitB (b : UInt8) : Bool := decide (48 ≤ b.toNat) && decide (b.toNat ≤ 57)
def printB (b : UInt8) : Bool := decide (32 ≤ b.toNat) && decide (b.toNat ≤ 126)
theorem byte_letter1 (b : UInt8) : (bif decide ((bitOp .or .u8 (b.toNat : Int) 32) < 97) then some true else some (decide (122 < (bitOp .or .u8 (b.toNat : Int) 32)))) = some (!letterB b) :=
  of_decide_eq_true (u8_all (P := fun b => decide ((bif decide ((bitOp .or .u8 (b.toNat : Int) 32) < 97) then some true else some (decide (122 < (bitOp .or .u8 (b.toNat : Int) 32)))) = some (!letterB b))) (by decide +kernel) b)
theorem byte_letter2 (b : UInt8) : m_r09_Letter (b.toNat : Int) = some (letterB b) :=
  of_decide_eq_true (u8_all (P := fun b => decide (m_r09_Letter (b.toNat : Int) = some (letterB b))) (by decide +kernel) b)
theorem byte_digit2 (b : UInt8) : m_r09_Digit (b.toNat : Int) = some (digitB b) :=
  of_decide_eq_true (u8_all (P := fun b => decide (m_r09_Digit (b.toNat : Int) = some (digitB b))) (by decide +kernel) b)
theorem node_letters_eq (n : Nat) (s : List UInt8) (h : s.length < n) (hb : s.length ≤ 1073741824) : m_node_letters n s = some (s.all letterB) := by
  have := loop_all (p := letterB) (l := s) (m_node_letters_l1 s) hb (fun k i h => by
    rw [m_node_letters_l1, dec_t (Int.ofNat_lt.2 h), cond_true, at_get h]
    simp only [Option.bind_some, byte_letter1]
    rw [wi_succ (by omega)]
    cases letterB s[i] <;> rfl) (fun k => by rw [m_node_letters_l1, dec_f (by omega)]; rfl) n 0 (by omega) (by omega)
  rw [show ((0 : Nat) : Int) = 0 from rfl, List.drop_zero] at this
  rw [m_node_letters, this]
  unfold allFl
  cases s.all letterB <;> rfl
theorem r09_letters_eq (n : Nat) (s : List UInt8) (h : s.length < n) (hb : s.length ≤ 1073741824) : m_r09_Symbol_l1 s n 0 = some (allFl letterB s) := by
  have := loop_all (p := letterB) (l := s) (m_r09_Symbol_l1 s) hb (fun k i h => by
    rw [m_r09_Symbol_l1, dec_t (Int.ofNat_lt.2 h), cond_true, at_get h]
    simp only [Option.bind_some, byte_letter2]
    rw [wi_succ (by omega)]
    cases letterB s[i] <;> rfl) (fun k => by rw [m_r09_Symbol_l1, dec_f (by omega)]; rfl) n 0 (by omega) (by omega)
  rwa [show ((0 : Nat) : Int) = 0 from rfl, List.drop_zero] at this
theorem r09_has_eq (n : Nat) (s : List UInt8) (c : Int) (h : s.length < n) (hb : s.length ≤ 1073741824) : m_r09_has n s c = some (s.any fun b => (b.toNat : Int) == c) := by
  have := loop_any (p := fun b => (b.toNat : Int) == c) (l := s) (m_r09_has_l1 s c) hb (fun k i h => by
    rw [m_r09_has_l1, dec_t (Int.ofNat_lt.2 h), cond_true, at_get h]
    simp only [Option.bind_some]
    rw [wi_succ (by omega)]
    cases ((s[i].toNat : Int) == c) <;> rfl) (fun k => by rw [m_r09_has_l1, dec_f (by omega)]; rfl) n 0 (by omega) (by omega)
  rw [show ((0 : Nat) : Int) = 0 from rfl, List.drop_zero] at this
  rw [m_r09_has, this]
  cases s.any fun b => (b.toNat : Int) == c <;> rfl
theorem r09_In_eq (n : Nat) (l : List (List UInt8)) (s : List UInt8) (h : l.length < n) (hb : l.length ≤ 1073741824) : m_r09_In n l s = some (l.any fun e => e == s) := by
  have := loop_any (p := fun e => e == s) (l := l) (m_r09_In_l1 l s) hb (fun k i h => by
    rw [m_r09_In_l1, dec_t (Int.ofNat_lt.2 h), cond_true, at_get h]
    simp only [Option.bind_some]
    rw [wi_succ (by omega)]
    cases (l[i] == s) <;> rfl) (fun k => by rw [m_r09_In_l1, dec_f (by omega)]; rfl) n 0 (by omega) (by omega)
  rw [show ((0 : Nat) : Int) = 0 from rfl, List.drop_zero] at this
  rw [m_r09_In, this]
  cases l.any fun e => e == s <;> rfl
theorem node_digits_eq (n : Nat) (s : List UInt8) (h : s.length < n) (hb : s.length ≤ 1073741824) : m_node_digits n s = some (s.all digitB && !(s == [])) := by
  have := loop_all (p := digitB) (l := s) (m_node_digits_l1 s) hb (fun k i h => by
    rw [m_node_digits_l1, dec_t (Int.ofNat_lt.2 h), cond_true, at_get h]
    simp only [Option.bind_some]
    rw [wi_succ (by omega)]
    unfold digitB
    by_cases a : 48 ≤ s[i].toNat
    · by_cases b : s[i].toNat ≤ 57
      · simp [a, b, show ¬ ((s[i].toNat : Int) < 48) by omega, show ¬ (57 < (s[i].toNat : Int)) by omega]
      · simp [a, b, show ¬ ((s[i].toNat : Int) < 48) by omega, show (57 < (s[i].toNat : Int)) by omega]
    · simp [a, show ((s[i].toNat : Int) < 48) by omega]) (fun k => by rw [m_node_digits_l1, dec_f (by omega)]; rfl) n 0 (by omega) (by omega)
  rw [show ((0 : Nat) : Int) = 0 from rfl, List.drop_zero] at this
  rw [m_node_digits, this]
  unfold allFl
  cases s.all digitB <;> rfl
theorem print_bit (b : UInt8) : (bif decide ((b.toNat : Int) < 32) then some true else some (decide (126 < (b.toNat : Int))) : Option Bool) = some (!printB b) := by
  unfold printB
  by_cases a : 32 ≤ b.toNat
  · by_cases c : b.toNat ≤ 126
    · simp [a, c, show ¬ ((b.toNat : Int) < 32) by omega, show ¬ (126 < (b.toNat : Int)) by omega]
    · simp [a, c, show ¬ ((b.toNat : Int) < 32) by omega, show (126 < (b.toNat : Int)) by omega]
  · simp [a, show ((b.toNat : Int) < 32) by omega]
theorem node_plain_eq (n : Nat) (s : List UInt8) (h : s.length < n) (hb : s.length ≤ 1073741824) : m_node_plain n s = some (s.all printB && decide ((s.length : Int) ≤ 200)) := by
  have := loop_all (p := printB) (l := s) (m_node_plain_l1 s) hb (fun k i h => by
    rw [m_node_plain_l1, dec_t (Int.ofNat_lt.2 h), cond_true, at_get h]
    simp only [Option.bind_some, print_bit]
    rw [wi_succ (by omega)]
    cases printB s[i] <;> rfl) (fun k => by rw [m_node_plain_l1, dec_f (by omega)]; rfl) n 0 (by omega) (by omega)
  rw [show ((0 : Nat) : Int) = 0 from rfl, List.drop_zero] at this
  rw [m_node_plain, this]
  unfold allFl
  cases s.all printB <;> rfl
theorem r09_Printable_eq (n : Nat) (s : List UInt8) (h : s.length < n) (hb : s.length ≤ 1073741824) : m_r09_Printable n s = some (s.all printB) := by
  have := loop_all (p := printB) (l := s) (m_r09_Printable_l1 s) hb (fun k i h => by
    rw [m_r09_Printable_l1, dec_t (Int.ofNat_lt.2 h), cond_true, at_get h]
    simp only [Option.bind_some, print_bit]
    rw [wi_succ (by omega)]
    cases printB s[i] <;> rfl) (fun k => by rw [m_r09_Printable_l1, dec_f (by omega)]; rfl) n 0 (by omega) (by omega)
  rw [show ((0 : Nat) : Int) = 0 from rfl, List.drop_zero] at this
  rw [m_r09_Printable, this]
  unfold allFl
  cases s.all printB <;> rfl
end Go.Proofs.Ytfbggpmdmhgpfaa
namespace Go.Proofs.Ytfbggpmdmhgpfaa
open Go.Abs
def spL : List UInt8 := [43, 45, 42, 47, 61, 60, 62, 44, 59, 58, 33, 124, 39, 63, 126, 64]
def fsL : List UInt8 := [40, 41, 91, 93, 123, 125, 60, 62, 47, 124, 46]
def kwL : List (List UInt8) := [[102, 114, 97, 99], [114, 111, 111, 116], [109, 97, 116, 114, 105, 120], [102, 101, 110, 99, 101]]
def acL : List (List UInt8) := [[104, 97, 116], [98, 97, 114], [118, 101, 99], [100, 111, 116], [116, 105, 108, 100, 101], [99, 104, 101, 99, 107]]
def spB (c : UInt8) : Bool := decide (0 ≤ Lib.indexByte spL c)
def fsB (c : UInt8) : Bool := decide (0 ≤ Lib.indexByte fsL c)
theorem byte_sp (c : UInt8) : (spL.any fun b => (b.toNat : Int) == (c.toNat : Int)) = spB c :=
  of_decide_eq_true (u8_all (P := fun c => decide ((spL.any fun b => (b.toNat : Int) == (c.toNat : Int)) = spB c)) (by decide +kernel) c)
theorem byte_fs (c : UInt8) : (([40, 41, 91, 93, 123, 125, 124, 60, 62, 47, 46] : List UInt8).any fun b => (b.toNat : Int) == (c.toNat : Int)) = fsB c :=
  of_decide_eq_true (u8_all (P := fun c => decide ((([40, 41, 91, 93, 123, 125, 124, 60, 62, 47, 46] : List UInt8).any fun b => (b.toNat : Int) == (c.toNat : Int)) = fsB c)) (by decide +kernel) c)
theorem byte_fs1 (c : UInt8) : Lib.indexByte fsL ((c.toNat : Int).toNat.toUInt8) = Lib.indexByte fsL c := by
  rw [Int.toNat_natCast]; congr 1; exact UInt8.ofNat_toNat
theorem bcomm (e s : List UInt8) : (e == s) = (s == e) := by
  rw [Bool.eq_iff_iff]; simp only [beq_iff_eq]; exact eq_comm
theorem node_keyword_eq (s : List UInt8) : m_node_keyword s = some (kwL.any fun e => e == s) := by
  simp only [m_node_keyword, kwL, List.any_cons, List.any_nil, bcomm [102, 114, 97, 99] s, bcomm [114, 111, 111, 116] s, bcomm [109, 97, 116, 114, 105, 120] s, bcomm [102, 101, 110, 99, 101] s]
  generalize (s == [102, 114, 97, 99]) = b1
  generalize (s == [114, 111, 111, 116]) = b2
  generalize (s == [109, 97, 116, 114, 105, 120]) = b3
  generalize (s == [102, 101, 110, 99, 101]) = b4
  cases b1 <;> cases b2 <;> cases b3 <;> cases b4 <;> rfl
theorem node_accent_eq (s : List UInt8) : m_node_accent s = some (acL.any fun e => e == s) := by
  simp only [m_node_accent, acL, List.any_cons, List.any_nil, bcomm [104, 97, 116] s, bcomm [98, 97, 114] s, bcomm [118, 101, 99] s, bcomm [100, 111, 116] s, bcomm [116, 105, 108, 100, 101] s, bcomm [99, 104, 101, 99, 107] s]
  generalize (s == [104, 97, 116]) = b1
  generalize (s == [98, 97, 114]) = b2
  generalize (s == [118, 101, 99]) = b3
  generalize (s == [100, 111, 116]) = b4
  generalize (s == [116, 105, 108, 100, 101]) = b5
  generalize (s == [99, 104, 101, 99, 107]) = b6
  cases b1 <;> cases b2 <;> cases b3 <;> cases b4 <;> cases b5 <;> cases b6 <;> rfl
def symB (s : List UInt8) : Bool :=
  if s.length = 1 then s.all letterB || s.all spB
  else s.all letterB && (decide (2 ≤ s.length) && (decide (s.length ≤ 16) && (!(kwL.any fun e => e == s) && !(acL.any fun e => e == s))))
theorem len1 (s : List UInt8) : ((s.length : Int) == 1) = decide (s.length = 1) := by
  by_cases h : s.length = 1
  · simp [h]
  · rw [dec_f h]
    cases e : ((s.length : Int) == 1) with
    | false => rfl
    | true => have := eq_of_beq e; omega
theorem cast_le (a b : Nat) : decide ((a : Int) ≤ (b : Int)) = decide (a ≤ b) := by
  by_cases h : a ≤ b
  · rw [dec_t h, dec_t (by omega)]
  · rw [dec_f h, dec_f (by omega)]
theorem cast_lt (a b : Nat) : decide ((a : Int) < (b : Int)) = decide (a < b) := by
  by_cases h : a < b
  · rw [dec_t h, dec_t (by omega)]
  · rw [dec_f h, dec_f (by omega)]
theorem node_Symbol_eq (n : Nat) (s : List UInt8) (h : s.length + 40 < n) (hb : s.length ≤ 1073741824) : m_node_Symbol n s = some (symB s) := by
  rw [m_node_Symbol, len1, node_letters_eq n s (by omega) hb]
  unfold symB
  by_cases h1 : s.length = 1
  · rw [dec_t h1, if_pos h1]
    obtain ⟨c, rfl⟩ := List.length_eq_one_iff.1 h1
    have : m_strings_Contains [43, 45, 42, 47, 61, 60, 62, 44, 59, 58, 33, 124, 39, 63, 126, 64] [c] = some (spB c) := rfl
    simp only [cond_true, Option.bind_some, this, List.all_cons, List.all_nil, Bool.and_true]
    cases letterB c <;> rfl
  · rw [dec_f h1, if_neg h1]
    have e2 := cast_le 2 s.length
    have e16 := cast_le s.length 16
    rw [show ((2 : Nat) : Int) = 2 from rfl] at e2
    rw [show ((16 : Nat) : Int) = 16 from rfl] at e16
    simp only [cond_false, Option.bind_some, node_keyword_eq, node_accent_eq, e2, e16]
    cases s.all letterB <;> cases decide (2 ≤ s.length) <;> cases decide (s.length ≤ 16) <;> cases (kwL.any fun e => e == s) <;> rfl
theorem r09_Symbol_eq (n : Nat) (s : List UInt8) (h : s.length + 40 < n) (hb : s.length ≤ 1073741824) : m_r09_Symbol n s = some (symB s) := by
  rw [m_r09_Symbol, len1, r09_letters_eq n s (by omega) hb]
  unfold symB
  by_cases h1 : s.length = 1
  · rw [dec_t h1, if_pos h1]
    obtain ⟨c, rfl⟩ := List.length_eq_one_iff.1 h1
    have e1 : at? [c] (0 : Int) = some c := rfl
    have e2 : m_r09_has n [43, 45, 42, 47, 61, 60, 62, 44, 59, 58, 33, 124, 39, 63, 126, 64] (c.toNat : Int) = some (spB c) := by
      rw [r09_has_eq n _ _ (by simp only [List.length_cons, List.length_nil]; omega) (by simp only [List.length_cons, List.length_nil]; omega)]
      exact congrArg some (byte_sp c)
    simp only [cond_true, Option.bind_some, e1, m_r09_Character, byte_letter2, e2, List.all_cons, List.all_nil, Bool.and_true]
    cases letterB c <;> rfl
  · rw [dec_f h1, if_neg h1]
    have e2 := cast_le 2 s.length
    have e16 := cast_le s.length 16
    rw [show ((2 : Nat) : Int) = 2 from rfl] at e2
    rw [show ((16 : Nat) : Int) = 16 from rfl] at e16
    have ek : m_r09_In n kwL s = some (kwL.any fun e => e == s) := r09_In_eq n kwL s (by simp only [kwL, List.length_cons, List.length_nil]; omega) (by simp [kwL])
    have ea : m_r09_In n acL s = some (acL.any fun e => e == s) := r09_In_eq n acL s (by simp only [acL, List.length_cons, List.length_nil]; omega) (by simp [acL])
    have k1 : m_r09_Keywords = some kwL := rfl
    have a1 : m_r09_Accents = some acL := rfl
    unfold allFl
    simp only [cond_false, Option.bind_some, k1, a1, ek, ea, e2, e16]
    cases s.all letterB <;> cases decide (2 ≤ s.length) <;> cases decide (s.length ≤ 16) <;> cases (kwL.any fun e => e == s) <;> rfl
def fenB (s : List UInt8) : Bool := decide (s.length = 2) && s.all fsB
theorem len2 (s : List UInt8) : ((s.length : Int) == 2) = decide (s.length = 2) := by
  by_cases h : s.length = 2
  · simp [h]
  · rw [dec_f h]
    cases e : ((s.length : Int) == 2) with
    | false => rfl
    | true => have := eq_of_beq e; omega
theorem node_fence_eq (s : List UInt8) : m_node_fence s = some (fenB s) := by
  rw [m_node_fence, len2]
  unfold fenB
  by_cases h1 : s.length = 2
  · rw [dec_t h1]
    match s, h1 with
    | [c, d], _ =>
      have e0 : at? [c, d] (0 : Int) = some c := rfl
      have e1 : at? [c, d] (1 : Int) = some d := rfl
      have f : ∀ c : UInt8, m_strings_IndexByte [40, 41, 91, 93, 123, 125, 60, 62, 47, 124, 46] (c.toNat : Int) = some (Lib.indexByte fsL c) := fun c => congrArg some (byte_fs1 c)
      have g : ∀ c : UInt8, decide (0 ≤ Lib.indexByte fsL c) = fsB c := fun c => rfl
      simp only [cond_true, e0, e1, f, Option.bind_some, g, List.all_cons, List.all_nil, Bool.and_true, Bool.true_and]
      cases fsB c <;> rfl
  · rw [dec_f h1]; rfl
theorem r09_fence_eq (n : Nat) (s : List UInt8) (h : 40 < n) : (bif ((s.length : Int) == 2) then (
                (at? s 0).bind fun c9 =>
                (m_r09_has n [40, 41, 91, 93, 123, 125, 124, 60, 62, 47, 46] (c9.toNat : Int)).bind fun y11 =>
                bif y11 then (
                  (at? s 1).bind fun c12 =>
                  (m_r09_has n [40, 41, 91, 93, 123, 125, 124, 60, 62, 47, 46] (c12.toNat : Int)).bind fun y14 =>
                  some y14
                ) else (
                  some false
                )
              ) else (
                some false
              )) = some (fenB s) := by
  rw [len2]
  unfold fenB
  by_cases h1 : s.length = 2
  · rw [dec_t h1]
    match s, h1 with
    | [c, d], _ =>
      have e0 : at? [c, d] (0 : Int) = some c := rfl
      have e1 : at? [c, d] (1 : Int) = some d := rfl
      have f : ∀ c : UInt8, m_r09_has n [40, 41, 91, 93, 123, 125, 124, 60, 62, 47, 46] (c.toNat : Int) = some (fsB c) := fun c => by
        rw [r09_has_eq n _ _ (by simp only [List.length_cons, List.length_nil]; omega) (by simp only [List.length_cons, List.length_nil]; omega)]
        exact congrArg some (byte_fs c)
      simp only [cond_true, e0, e1, f, Option.bind_some, List.all_cons, List.all_nil, Bool.and_true, Bool.true_and]
      cases fsB c <;> rfl
  · rw [dec_f h1]; rfl
def okL (L : Nat) : Nat → List UInt8 → Bool
  | _, [] => true
  | i, c :: r => ((c == 46 && (decide (0 < i) && decide (i + 1 < L))) || digitB c) && okL L (i + 1) r
def numB (s : List UInt8) : Bool := okL s.length 0 s && (decide (0 < s.length) && (decide (s.length ≤ 20) && decide (s.count 46 ≤ 1)))
theorem byte46 (c : UInt8) : ((c.toNat : Int) == 46) = (c == 46) :=
  of_decide_eq_true (u8_all (P := fun c => decide (((c.toNat : Int) == 46) = (c == 46))) (by decide +kernel) c)
theorem dig46 : digitB 46 = false := by decide
theorem num_loop (s : List UInt8) (hb : s.length ≤ 1073741824) : ∀ (k i p : Nat), s.length - i < k → i ≤ s.length → p ≤ i →
    m_r09_Number_l1 s k (p : Int) (i : Int) = some (if okL s.length i (s.drop i) then .go ((p + (s.drop i).count 46 : Nat) : Int) else .ret false)
  | 0, _, _, h, _, _ => by omega
  | k + 1, i, p, hk, hi, hp => by
    unfold m_r09_Number_l1
    by_cases h : i < s.length
    · rw [dec_t (Int.ofNat_lt.2 h), cond_true, at_get h, List.drop_eq_getElem_cons h]
      generalize s[i] = c
      simp only [Option.bind_some, byte46, byte_digit2, okL, List.count_cons]
      rw [wi_succ (by omega), wi_succ (by omega), wrap64_in (by omega) (by omega)]
      have d1 : decide ((0 : Int) < (i : Int)) = decide (0 < i) := cast_lt 0 i
      have d2 : decide ((i : Int) < (s.length : Int) - 1) = decide (i + 1 < s.length) := by
        by_cases h : i + 1 < s.length
        · rw [dec_t h, dec_t (by omega)]
        · rw [dec_f h, dec_f (by omega)]
      rw [d1, d2]
      cases e : c == 46 with
      | true =>
        obtain rfl : c = 46 := eq_of_beq e
        simp only [cond_true, dig46, Bool.true_and, Bool.or_false]
        cases decide (0 < i) with
        | false => rfl
        | true =>
          simp only [cond_true, Option.bind_some, Bool.true_and]
          cases decide (i + 1 < s.length) with
          | false => rfl
          | true =>
            simp only [cond_true, Option.bind_some, Bool.true_and]
            rw [num_loop s hb k (i + 1) (p + 1) (by omega) (by omega) (by omega)]
            simp only [if_true]
            rw [show p + 1 + (s.drop (i + 1)).count 46 = p + ((s.drop (i + 1)).count 46 + 1) by omega]
      | false =>
        simp only [cond_false, Option.bind_some, Bool.false_and, Bool.false_or]
        cases digitB c with
        | false => rfl
        | true =>
          simp only [Bool.not_true, cond_false, Option.bind_some, Bool.true_and]
          rw [num_loop s hb k (i + 1) p (by omega) (by omega) (by omega)]
          simp
    · rw [dec_f (by omega), cond_false]
      obtain rfl : i = s.length := by omega
      simp [okL]
theorem r09_Number_eq (n : Nat) (s : List UInt8) (h : s.length < n) (hb : s.length ≤ 1073741824) : m_r09_Number n s = some (numB s) := by
  have := num_loop s hb n 0 0 (by omega) (by omega) (by omega)
  rw [show ((0 : Nat) : Int) = 0 from rfl, List.drop_zero] at this
  rw [m_r09_Number, this]
  unfold numB
  have e0 := cast_lt 0 s.length
  have e20 := cast_le s.length 20
  have e1 := cast_le (s.count 46) 1
  rw [show ((0 : Nat) : Int) = 0 from rfl] at e0
  rw [show ((20 : Nat) : Int) = 20 from rfl] at e20
  rw [show ((1 : Nat) : Int) = 1 from rfl] at e1
  cases okL s.length 0 s with
  | false => rfl
  | true =>
    simp only [if_true, Option.bind_some, e0, e20, Nat.zero_add, e1]
    cases decide (0 < s.length) <;> cases decide (s.length ≤ 20) <;> rfl
theorem cut_cases : ∀ s : List UInt8, (s.count 46 = 0 ∧ Lib.indexByte s 46 = -1) ∨ ∃ a b, s = a ++ 46 :: b ∧ a.count 46 = 0 ∧ Lib.indexByte s 46 = (a.length : Int)
  | [] => .inl ⟨rfl, rfl⟩
  | c :: s => by
    by_cases h : c = 46
    · subst h
      exact .inr ⟨[], s, rfl, rfl, by simp [Lib.indexByte]⟩
    · have hc : (c == 46) = false := by simpa using h
      rcases cut_cases s with ⟨h1, h2⟩ | ⟨a, b, rfl, h1, h2⟩
      · exact .inl ⟨by rw [List.count_cons, h1, hc]; rfl, by simp [Lib.indexByte, hc, h2]⟩
      · refine .inr ⟨c :: a, b, rfl, by rw [List.count_cons, h1, hc]; rfl, ?_⟩
        have h3 : ((a.length : Int) == -1) = false := by
          cases e : ((a.length : Int) == -1) with
          | false => rfl
          | true => have := eq_of_beq e; omega
        simp [Lib.indexByte, hc, h2, h3]
theorem okL_plain (L : Nat) : ∀ (i : Nat) (a : List UInt8), a.count 46 = 0 → okL L i a = a.all digitB
  | _, [], _ => rfl
  | i, c :: a, h => by
    have hc : (c == 46) = false := by
      cases e : c == 46 with
      | false => rfl
      | true => rw [List.count_cons, e] at h; simp at h
    rw [List.count_cons, hc] at h
    rw [okL, hc, okL_plain L (i + 1) a (by simpa using h)]
    simp
theorem okL_append (L : Nat) : ∀ (i : Nat) (a b : List UInt8), okL L i (a ++ b) = (okL L i a && okL L (i + a.length) b)
  | _, [], b => by simp [okL]
  | i, c :: a, b => by
    simp only [List.cons_append, okL, okL_append L (i + 1) a b, List.length_cons, Bool.and_assoc, show i + 1 + a.length = i + (a.length + 1) by omega]
theorem dig_no46 : ∀ a : List UInt8, a.all digitB = true → a.count 46 = 0
  | [], _ => rfl
  | c :: a, h => by
    simp only [List.all_cons, Bool.and_eq_true] at h
    have hc : (c == 46) = false := by
      cases e : c == 46 with
      | false => rfl
      | true => obtain rfl : c = 46 := eq_of_beq e; simp [dig46] at h
    rw [List.count_cons, hc, dig_no46 a h.2]; rfl
theorem num_cut (a b : List UInt8) (ha : a.count 46 = 0) : numB (a ++ 46 :: b) = (decide ((a ++ 46 :: b).length ≤ 20) && ((a.all digitB && !(a == [])) && (b.all digitB && !(b == [])))) := by
  unfold numB
  have hl : (a ++ 46 :: b).length = a.length + (b.length + 1) := by simp
  rw [okL_append, okL_plain _ _ a ha, hl]
  simp only [okL, dig46, Bool.or_false, List.count_append, List.count_cons, ha, beq_self_eq_true, Bool.true_and, if_true, Nat.zero_add]
  have e1 : decide (0 < a.length) = !(a == []) := by cases a <;> rfl
  have e2 : decide (a.length + 1 < a.length + (b.length + 1)) = !(b == []) := by
    cases b with
    | nil => simp
    | cons c b => simp
  have e3 : decide (0 < a.length + (b.length + 1)) = true := dec_t (by omega)
  rw [e1, e2, e3]
  cases hb : b.all digitB with
  | true =>
    rw [okL_plain _ _ b (dig_no46 b hb), hb, dig_no46 b hb]
    cases a.all digitB <;> cases a == [] <;> cases b == [] <;> cases decide (a.length + (b.length + 1) ≤ 20) <;> rfl
  | false =>
    cases hc : decide (b.count 46 + 1 ≤ 1) with
    | true =>
      have : b.count 46 = 0 := by have := of_decide_eq_true hc; omega
      rw [okL_plain _ _ b this, hb]
      cases a.all digitB <;> cases a == [] <;> cases b == [] <;> cases decide (a.length + (b.length + 1) ≤ 20) <;> rfl
    | false =>
      generalize okL _ _ b = z
      cases z <;> cases a.all digitB <;> cases a == [] <;> cases b == [] <;> cases decide (a.length + (b.length + 1) ≤ 20) <;> rfl
theorem num_plain (s : List UInt8) (h : s.count 46 = 0) : numB s = (decide (s.length ≤ 20) && (s.all digitB && !(s == []))) := by
  unfold numB
  rw [okL_plain _ _ s h, h]
  have e1 : decide (0 < s.length) = !(s == []) := by cases s <;> rfl
  rw [e1]
  cases s.all digitB <;> cases s == [] <;> cases decide (s.length ≤ 20) <;> rfl
theorem node_Number_eq (n : Nat) (s : List UInt8) (h : s.length < n) (hb : s.length ≤ 1073741824) : m_node_Number n s = some (numB s) := by
  have e20 := cast_le s.length 20
  rw [show ((20 : Nat) : Int) = 20 from rfl] at e20
  have hi : m_stringslite_Index s [46] = some (Lib.indexByte s 46) := rfl
  rcases cut_cases s with ⟨h1, h2⟩ | ⟨a, b, rfl, h1, h2⟩
  · rw [num_plain s h1]
    simp only [m_node_Number, m_strings_Cut, m_stringslite_Cut, hi, h2, Option.bind_some, show decide ((0 : Int) ≤ -1) = false from rfl, cond_false, e20, node_digits_eq n s h hb]
    cases decide (s.length ≤ 20) <;> cases (s.all digitB && !(s == [])) <;> rfl
  · have hl : (a ++ 46 :: b).length = a.length + (b.length + 1) := by simp
    rw [num_cut a b h1]
    have w1 : IntKind.i64.wrap ((a.length : Int) + (([46] : List UInt8).length : Int)) = ((a.length + 1 : Nat) : Int) := wi_succ (by omega)
    have t1 : ((a ++ 46 :: b).take ((a.length : Int)).toNat).drop (0 : Int).toNat = a := by simp
    have t2 : ((a ++ 46 :: b).take (((a ++ 46 :: b).length : Int)).toNat).drop (((a.length + 1 : Nat) : Int)).toNat = b := by
      rw [Int.toNat_natCast, Int.toNat_natCast, List.take_length, List.drop_append]
      simp
    simp only [m_node_Number, m_strings_Cut, m_stringslite_Cut, hi, h2, Option.bind_some, w1]
    rw [dec_t (by omega), cond_true, req_t (by omega), req_t (by omega), t1, t2]
    simp only [Option.bind_some, e20, node_digits_eq n a (by omega) (by omega), node_digits_eq n b (by omega) (by omega)]
    cases decide ((a ++ 46 :: b).length ≤ 20) <;> cases (a.all digitB && !(a == [])) <;> cases (b.all digitB && !(b == [])) <;> rfl
end Go.Proofs.Ytfbggpmdmhgpfaa
namespace Go.Proofs.Ytfbggpmdmhgpfaa
open Go.Abs
def Nd.kind : Nd → Int | .mk k _ _ _ => k
def textB (k : Int) (t : List UInt8) : Bool :=
  if k = 2 then symB t else if k = 3 then numB t else if k = 4 then (decide (t.length ≤ 200) && t.all printB) else if k = 10 then acL.any (fun e => e == t) else if k = 11 then fenB t else t == []
def kidsB (k c : Int) (m : Int) : Bool :=
  if k = 12 then decide (1 ≤ c) && (decide (c ≤ 16) && (decide (1 ≤ m) && (decide (m ≤ 256) && (m.tmod c == 0))))
  else (c == 0) && (if k = 1 then decide (m ≤ 200) else if k = 2 then m == 0 else if k = 3 then m == 0 else if k = 4 then m == 0 else if k = 5 then m == 2 else if k = 6 then m == 2 else if k = 7 then m == 2 else if k = 8 then m == 2
    else if k = 9 then m == 3 else if k = 10 then m == 1 else if k = 11 then m == 1 else false)
mutual
def formB : Nd → Bool
  | .mk k t c ks => (textB k t && kidsB k c (ks.length : Int)) && formsB k ks
def formsB : Int → List Nd → Bool
  | _, [] => true
  | k, v :: vs => (!((v.kind == 1) == (k == 1)) && formB v) && formsB k vs
end
mutual
def Nd.dep : Nd → Nat
  | .mk _ _ _ ks => Nd.deps ks + 1
def Nd.deps : List Nd → Nat
  | [] => 0
  | v :: vs => Nat.max v.dep (Nd.deps vs)
end
theorem forms_drop {k : Int} {a : List Nd} {i : Nat} (h : i < a.length) : formsB k (a.drop i) = ((!((a[i].kind == 1) == (k == 1)) && formB a[i]) && formsB k (a.drop (i + 1))) := by
  rw [List.drop_eq_getElem_cons h]; rfl
theorem deps_drop {a : List Nd} {i : Nat} (h : i < a.length) : Nd.deps (a.drop i) = Nat.max (a[i]).dep (Nd.deps (a.drop (i + 1))) := by
  rw [List.drop_eq_getElem_cons h]; rfl
mutual
theorem Nd.dep_cnt : ∀ v : Nd, v.dep ≤ v.cnt
  | .mk _ _ _ ks => by have := Nd.deps_cnts ks; simp only [Nd.dep, Nd.cnt]; omega
theorem Nd.deps_cnts : ∀ vs : List Nd, Nd.deps vs ≤ Nd.cnts vs
  | [] => Nat.le_refl _
  | v :: vs => by
    have := Nd.dep_cnt v; have := Nd.deps_cnts vs
    simp only [Nd.deps, Nd.cnts]
    exact Nat.max_le.2 ⟨by omega, by omega⟩
end
mutual
theorem Nd.cnt_w : ∀ v : Nd, v.cnt ≤ v.w
  | .mk _ t _ ks => by have := Nd.cnts_ws ks; simp only [Nd.cnt, Nd.w]; omega
theorem Nd.cnts_ws : ∀ vs : List Nd, Nd.cnts vs ≤ Nd.ws vs
  | [] => Nat.le_refl _
  | v :: vs => by have := Nd.cnt_w v; have := Nd.cnts_ws vs; simp only [Nd.cnts, Nd.ws]; omega
end
theorem ne_beq {a b : Int} (h : a ≠ b) : (a == b) = false := by
  cases e : (a == b) with
  | false => rfl
  | true => exact absurd (eq_of_beq e) h
theorem r09_text_eq (n : Nat) (k : Int) (t : List UInt8) (c : Int) (ks : List Nd) (h : t.length + 40 < n) (hb : t.length ≤ 1073741824) : m_r09_text n (.mk k t c ks) = some (textB k t) := by
  have e200 := cast_le t.length 200
  rw [show ((200 : Nat) : Int) = 200 from rfl] at e200
  have ea : m_r09_In n acL t = some (acL.any fun e => e == t) := r09_In_eq n acL t (by simp only [acL, List.length_cons, List.length_nil]; omega) (by simp [acL])
  have a1 : m_r09_Accents = some acL := rfl
  unfold m_r09_text textB
  dsimp only
  by_cases h2 : k = 2
  · subst h2; simp only [beq_self_eq_true, cond_true, r09_Symbol_eq n t h hb, Option.bind_some, if_true]
  rw [ne_beq h2, if_neg h2, cond_false]
  by_cases h3 : k = 3
  · subst h3; simp only [beq_self_eq_true, cond_true, r09_Number_eq n t (by omega) hb, Option.bind_some, if_true]
  rw [ne_beq h3, if_neg h3, cond_false]
  by_cases h4 : k = 4
  · subst h4; simp only [beq_self_eq_true, cond_true, r09_Printable_eq n t (by omega) hb, Option.bind_some, if_true, e200]
    cases decide (t.length ≤ 200) <;> rfl
  rw [ne_beq h4, if_neg h4, cond_false]
  by_cases h10 : k = 10
  · subst h10; simp only [beq_self_eq_true, cond_true, a1, ea, Option.bind_some, if_true]
  rw [ne_beq h10, if_neg h10, cond_false]
  by_cases h11 : k = 11
  · subst h11; rw [if_pos rfl, beq_self_eq_true, cond_true, r09_fence_eq n t (by omega)]; rfl
  rw [ne_beq h11, if_neg h11, cond_false]
theorem kinds (k : Int) : k = 1 ∨ k = 2 ∨ k = 3 ∨ k = 4 ∨ k = 5 ∨ k = 6 ∨ k = 7 ∨ k = 8 ∨ k = 9 ∨ k = 10 ∨ k = 11 ∨ k = 12 ∨ (k < 1 ∨ 12 < k) := by omega
theorem r09_kids_eq (k : Int) (t : List UInt8) (c : Int) (ks : List Nd) : m_r09_kids (.mk k t c ks) = some (kidsB k c (ks.length : Int)) := by
  unfold m_r09_kids
  dsimp only
  generalize (ks.length : Int) = m
  rcases kinds k with rfl | rfl | rfl | rfl | rfl | rfl | rfl | rfl | rfl | rfl | rfl | rfl | h
  · simp only [bne, kidsB]; generalize (c == 0) = z; generalize decide (m ≤ 200) = y; cases z <;> rfl
  · simp only [bne, kidsB]; generalize (c == 0) = z; generalize (m == 0) = y; cases z <;> rfl
  · simp only [bne, kidsB]; generalize (c == 0) = z; generalize (m == 0) = y; cases z <;> rfl
  · simp only [bne, kidsB]; generalize (c == 0) = z; generalize (m == 0) = y; cases z <;> rfl
  · simp only [bne, kidsB]; generalize (c == 0) = z; generalize (m == 2) = y; cases z <;> rfl
  · simp only [bne, kidsB]; generalize (c == 0) = z; generalize (m == 2) = y; cases z <;> rfl
  · simp only [bne, kidsB]; generalize (c == 0) = z; generalize (m == 2) = y; cases z <;> rfl
  · simp only [bne, kidsB]; generalize (c == 0) = z; generalize (m == 2) = y; cases z <;> rfl
  · simp only [bne, kidsB]; generalize (c == 0) = z; generalize (m == 3) = y; cases z <;> rfl
  · simp only [bne, kidsB]; generalize (c == 0) = z; generalize (m == 1) = y; cases z <;> rfl
  · simp only [bne, kidsB]; generalize (c == 0) = z; generalize (m == 1) = y; cases z <;> rfl
  · unfold kidsB
    rw [if_pos rfl, beq_self_eq_true, cond_true]
    by_cases h1 : 1 ≤ c
    · rw [dec_t h1, req_t (by omega)]
      generalize (m.tmod c == 0) = y
      cases decide (c ≤ 16) <;> cases decide (1 ≤ m) <;> cases decide (m ≤ 256) <;> rfl
    · rw [dec_f h1]; rfl
  · have e : ∀ i : Int, 1 ≤ i → i ≤ 12 → (k == i) = false := fun i h1 h2 => ne_beq (by omega)
    have f : ∀ i : Int, 1 ≤ i → i ≤ 12 → k ≠ i := fun i h1 h2 => by omega
    unfold kidsB
    rw [if_neg (f 12 (by decide) (by decide)), if_neg (f 1 (by decide) (by decide)), if_neg (f 2 (by decide) (by decide)), if_neg (f 3 (by decide) (by decide)), if_neg (f 4 (by decide) (by decide)), if_neg (f 5 (by decide) (by decide)),
      if_neg (f 6 (by decide) (by decide)), if_neg (f 7 (by decide) (by decide)), if_neg (f 8 (by decide) (by decide)), if_neg (f 9 (by decide) (by decide)), if_neg (f 10 (by decide) (by decide)), if_neg (f 11 (by decide) (by decide))]
    rw [e 12 (by decide) (by decide), e 1 (by decide) (by decide), e 2 (by decide) (by decide), e 3 (by decide) (by decide), e 4 (by decide) (by decide), e 5 (by decide) (by decide),
      e 6 (by decide) (by decide), e 7 (by decide) (by decide), e 8 (by decide) (by decide), e 9 (by decide) (by decide), e 10 (by decide) (by decide), e 11 (by decide) (by decide)]
    cases (c == 0) <;> cases (c != 0) <;> rfl
theorem own_eq (n : Nat) (x : Int) (k : Int) (t : List UInt8) (c : Int) (ks : List Nd) (h : t.length + 40 < n) (hb : t.length ≤ 1073741824) :
    m_node_checker_own n ((), x) (.mk k t c ks) = some (textB k t && kidsB k c (ks.length : Int), ((), x)) := by
  have e200 := cast_le t.length 200
  rw [show ((200 : Nat) : Int) = 200 from rfl] at e200
  unfold m_node_checker_own
  dsimp only
  generalize (ks.length : Int) = m
  have em : m_node_empty t = some (t == []) := rfl
  rcases kinds k with rfl | rfl | rfl | rfl | rfl | rfl | rfl | rfl | rfl | rfl | rfl | rfl | h
  · simp only [em]
    show _ = some ((t == []) && ((c == 0) && decide (m ≤ 200)), ((), x))
    cases t == [] <;> cases c == 0 <;> rfl
  · simp only [node_Symbol_eq n t h hb]
    show _ = some (symB t && ((c == 0) && (m == 0)), ((), x))
    cases symB t <;> cases c == 0 <;> rfl
  · simp only [node_Number_eq n t (by omega) hb]
    show _ = some (numB t && ((c == 0) && (m == 0)), ((), x))
    cases numB t <;> cases c == 0 <;> rfl
  · simp only [node_plain_eq n t (by omega) hb, e200]
    show _ = some ((decide (t.length ≤ 200) && t.all printB) && ((c == 0) && (m == 0)), ((), x))
    cases decide (t.length ≤ 200) <;> cases t.all printB <;> cases c == 0 <;> rfl
  · simp only [em]
    show _ = some ((t == []) && ((c == 0) && (m == 2)), ((), x))
    cases t == [] <;> cases c == 0 <;> rfl
  · simp only [em]
    show _ = some ((t == []) && ((c == 0) && (m == 2)), ((), x))
    cases t == [] <;> cases c == 0 <;> rfl
  · simp only [em]
    show _ = some ((t == []) && ((c == 0) && (m == 2)), ((), x))
    cases t == [] <;> cases c == 0 <;> rfl
  · simp only [em]
    show _ = some ((t == []) && ((c == 0) && (m == 2)), ((), x))
    cases t == [] <;> cases c == 0 <;> rfl
  · simp only [em]
    show _ = some ((t == []) && ((c == 0) && (m == 3)), ((), x))
    cases t == [] <;> cases c == 0 <;> rfl
  · simp only [node_accent_eq]
    show _ = some ((acL.any fun e => e == t) && ((c == 0) && (m == 1)), ((), x))
    cases (acL.any fun e => e == t) <;> cases c == 0 <;> rfl
  · simp only [node_fence_eq]
    show _ = some (fenB t && ((c == 0) && (m == 1)), ((), x))
    cases fenB t <;> cases c == 0 <;> rfl
  · simp only [em]
    show _ = some ((t == []) && (decide (1 ≤ c) && (decide (c ≤ 16) && (decide (1 ≤ m) && (decide (m ≤ 256) && (m.tmod c == 0))))), ((), x))
    by_cases h1 : 1 ≤ c
    · rw [dec_t h1, req_t (by omega)]
      generalize (m.tmod c == 0) = y
      cases t == [] <;> cases decide (c ≤ 16) <;> cases decide (1 ≤ m) <;> cases decide (m ≤ 256) <;> rfl
    · rw [dec_f h1]
      cases t == [] <;> rfl
  · have f : ∀ i : Int, 1 ≤ i → i ≤ 12 → k ≠ i := fun i h1 h2 => by omega
    have hk : kidsB k c m = false := by
      unfold kidsB
      rw [if_neg (f 12 (by decide) (by decide)), if_neg (f 1 (by decide) (by decide)), if_neg (f 2 (by decide) (by decide)), if_neg (f 3 (by decide) (by decide)), if_neg (f 4 (by decide) (by decide)), if_neg (f 5 (by decide) (by decide)),
        if_neg (f 6 (by decide) (by decide)), if_neg (f 7 (by decide) (by decide)), if_neg (f 8 (by decide) (by decide)), if_neg (f 9 (by decide) (by decide)), if_neg (f 10 (by decide) (by decide)), if_neg (f 11 (by decide) (by decide))]
      exact Bool.and_false _
    rw [hk, Bool.and_false]
    by_cases h1 : k < 1
    · rw [dec_t h1]; rfl
    · rw [dec_f h1, dec_t (show 12 < k by omega)]; rfl
theorem r09_form_loop {F : Nd → Option Bool} {k : Int} {ks : List Nd} (hF : ∀ v ∈ ks, F v = some (formB v)) (hl : ks.length ≤ 1073741824) :
    ∀ (q i : Nat), ks.length - i < q → i ≤ ks.length → m_r09_form_l1 F k ks q (i : Int) = some (if formsB k (ks.drop i) then .go () else .ret false)
  | 0, _, h, _ => by omega
  | q + 1, i, hq, hi => by
    unfold m_r09_form_l1
    by_cases h : i < ks.length
    · rw [dec_t (Int.ofNat_lt.2 h), cond_true, at_get h]
      have hf := hF _ (List.getElem_mem h)
      have g1 := forms_drop (k := k) h
      rcases e : ks[i] with ⟨a, b, c, d⟩
      rw [e] at hf g1
      simp only [Nd.kind] at g1
      generalize formsB k (ks.drop i) = g at g1 ⊢
      subst g1
      simp only [Option.bind_some, hf]
      rw [wi_succ (by omega), r09_form_loop hF hl q (i + 1) (by omega) (by omega)]
      cases ((a == 1) == (k == 1)) <;> cases formB (Nd.mk a b c d) <;> simp
    · rw [dec_f (by omega), cond_false]
      obtain rfl : i = ks.length := by omega
      simp [formsB]
theorem r09_form_eq : ∀ (n : Nat) (t : Nd), t.w + 45 < n → t.w ≤ 1073741824 → m_r09_form n t = some (formB t)
  | 0, _, h, _ => by omega
  | n + 1, .mk k t c ks, h, hb => by
    simp only [Nd.w] at h hb
    have hl := Nd.ws_len ks
    unfold m_r09_form
    rw [r09_text_eq n k t c ks (by omega) (by omega), r09_kids_eq]
    have := r09_form_loop (F := m_r09_form n) (k := k) (ks := ks) (fun v hv => r09_form_eq n v (by have := Nd.w_mem hv; omega) (by have := Nd.w_mem hv; omega)) (by omega) n 0 (by omega) (by omega)
    rw [show ((0 : Nat) : Int) = 0 from rfl, List.drop_zero] at this
    simp only [Option.bind_some, this, formB]
    cases textB k t <;> cases kidsB k c (ks.length : Int) <;> cases formsB k ks <;> rfl
theorem r09_Depth_loop {F : Nd → Option Int} {ks : List Nd} (hF : ∀ v ∈ ks, F v = some (v.dep : Int)) (hl : ks.length ≤ 1073741824) :
    ∀ (q i o : Nat), ks.length - i < q → i ≤ ks.length → m_r09_Depth_l1 F ks q (o : Int) (i : Int) = some ((Nat.max o (Nd.deps (ks.drop i)) : Nat) : Int)
  | 0, _, _, h, _ => by omega
  | q + 1, i, o, hq, hi => by
    unfold m_r09_Depth_l1
    by_cases h : i < ks.length
    · rw [dec_t (Int.ofNat_lt.2 h), cond_true, at_get h, deps_drop h]
      have hf := hF _ (List.getElem_mem h)
      rcases e : ks[i] with ⟨a, b, c, d⟩
      rw [e] at hf
      simp only [Option.bind_some, hf]
      have hm : (if (o : Int) < ((Nd.mk a b c d).dep : Int) then ((Nd.mk a b c d).dep : Int) else (o : Int)) = ((Nat.max o (Nd.mk a b c d).dep : Nat) : Int) := by
        by_cases g : (o : Int) < ((Nd.mk a b c d).dep : Int)
        · rw [if_pos g]; congr 1; exact (Nat.max_eq_right (by omega)).symm
        · rw [if_neg g]; congr 1; exact (Nat.max_eq_left (by omega)).symm
      rw [wi_succ (by omega), hm, r09_Depth_loop hF hl q (i + 1) _ (by omega) (by omega)]
      congr 2
      exact Nat.max_assoc _ _ _
    · rw [dec_f (by omega), cond_false]
      obtain rfl : i = ks.length := by omega
      rw [List.drop_length]
      congr 2
      exact (Nat.max_eq_left (Nat.zero_le _)).symm
theorem r09_Depth_eq : ∀ (n : Nat) (t : Nd), t.cnt < n → t.cnt ≤ 67108864 → m_r09_Depth n t = some (t.dep : Int)
  | 0, _, h, _ => by omega
  | n + 1, .mk k t c ks, h, hb => by
    simp only [Nd.cnt] at h hb
    have hl := Nd.cnts_len ks
    have hd := Nd.deps_cnts ks
    unfold m_r09_Depth
    have := r09_Depth_loop (F := m_r09_Depth n) (ks := ks) (fun v hv => r09_Depth_eq n v (by have := Nd.cnts_mem hv; omega) (by have := Nd.cnts_mem hv; omega)) (by omega) n 0 0 (by omega) (by omega)
    rw [show ((0 : Nat) : Int) = 0 from rfl, List.drop_zero] at this
    rw [this, Option.bind_some, show Nat.max 0 (Nd.deps ks) = Nd.deps ks from Nat.max_eq_right (Nat.zero_le _), wi_succ (by omega)]
    rfl
def validB (t : Nd) : Bool := (t.kind == 1) && (formB t && (decide (t.cnt ≤ 1000) && decide (t.dep ≤ 24)))
theorem r09_Valid_eq (n : Nat) (t : Nd) (h : t.w + 45 < n) (hb : t.w ≤ 67108864) : m_r09_Valid n t = some (validB t) := by
  have hc := Nd.cnt_w t
  have e1 := r09_form_eq n t h (by omega)
  have e2 := r09_Count_eq n t (by omega) (by omega)
  have e3 := r09_Depth_eq n t (by omega) (by omega)
  have e4 := cast_le t.cnt 1000
  rw [show ((1000 : Nat) : Int) = 1000 from rfl] at e4
  have e5 := cast_le t.dep 24
  rw [show ((24 : Nat) : Int) = 24 from rfl] at e5
  obtain ⟨k, s, c, ks⟩ := t
  unfold m_r09_Valid validB
  simp only [e1, e2, e3, Option.bind_some, e4, e5, Nd.kind]
  cases k == 1 <;> cases formB (.mk k s c ks) <;> cases decide ((Nd.mk k s c ks).cnt ≤ 1000) <;> rfl
abbrev okN (t : Nd) (x d : Nat) : Prop := formB t = true ∧ x + t.cnt ≤ 1000 ∧ d + t.dep ≤ 25
abbrev okNs (k : Int) (vs : List Nd) (x d : Nat) : Prop := formsB k vs = true ∧ x + Nd.cnts vs ≤ 1000 ∧ d + Nd.deps vs ≤ 24
theorem check_loop {F : (Unit × Int) → Nd → Int → Option (Bool × (Unit × Int))} {k : Int} {ks : List Nd} {d : Nat} (hd : d ≤ 24)
    (hF : ∀ v ∈ ks, ∀ x : Nat, x ≤ 1000 → ∃ y, F ((), (x : Int)) v ((d + 1 : Nat) : Int) = some (decide (okN v x (d + 1)), ((), y)) ∧ (okN v x (d + 1) → y = ((x + v.cnt : Nat) : Int))) (hl : ks.length ≤ 1073741824) :
    ∀ (q i x : Nat), ks.length - i < q → i ≤ ks.length → x ≤ 1000 →
      (okNs k (ks.drop i) x d ∧ m_node_checker_node_l1 F k ks (d : Int) q (x : Int) (i : Int) = some (.go ((x + Nd.cnts (ks.drop i) : Nat) : Int))) ∨
      (¬ okNs k (ks.drop i) x d ∧ ∃ z, m_node_checker_node_l1 F k ks (d : Int) q (x : Int) (i : Int) = some (.ret (false, ((), z))))
  | 0, _, _, h, _, _ => by omega
  | q + 1, i, x, hq, hi, hx => by
    unfold m_node_checker_node_l1
    by_cases h : i < ks.length
    · rw [dec_t (Int.ofNat_lt.2 h), cond_true, at_get h]
      obtain ⟨y, hf, hy⟩ := hF _ (List.getElem_mem h) x hx
      have g1 := forms_drop (k := k) h
      have g2 := Nd.cnts_drop h
      have g3 := deps_drop h
      rcases e : ks[i] with ⟨a, b, c, ds⟩
      rw [e] at hf hy g1 g2 g3
      simp only [Option.bind_some]
      rw [wi_succ (by omega), wi_succ (by omega), hf]
      simp only [Option.bind_some]
      have g4 : Nd.deps (ks.drop i) = Nat.max (Nd.mk a b c ds).dep (Nd.deps (ks.drop (i + 1))) := g3
      have g5 : (Nd.mk a b c ds).dep ≤ Nd.deps (ks.drop i) := by rw [g4]; exact Nat.le_max_left _ _
      have g6 : Nd.deps (ks.drop (i + 1)) ≤ Nd.deps (ks.drop i) := by rw [g4]; exact Nat.le_max_right _ _
      rw [show ((k == 1) == (a == 1)) = ((a == 1) == (k == 1)) by cases k == 1 <;> cases a == 1 <;> rfl]
      cases hkk : ((a == 1) == (k == 1)) with
      | true =>
        simp only [cond_true, Option.bind_some]
        refine .inr ⟨fun ⟨h1, _⟩ => ?_, _, rfl⟩
        rw [g1] at h1
        simp [Nd.kind, hkk] at h1
      | false =>
        simp only [cond_false, Option.bind_some]
        by_cases hok : okN (Nd.mk a b c ds) x (d + 1)
        · rw [dec_t hok]
          simp only [Bool.not_true, cond_false]
          rw [hy hok]
          have hp := (Nd.mk a b c ds).cnt_pos
          rcases check_loop hd hF hl q (i + 1) (x + (Nd.mk a b c ds).cnt) (by omega) (by omega) hok.2.1 with ⟨hr, hr2⟩ | ⟨hr, z, hr2⟩
          · refine .inl ⟨⟨?_, ?_, ?_⟩, ?_⟩
            · rw [g1, hr.1, hok.1]; simp [Nd.kind, hkk]
            · have := hr.2.1; omega
            · have := hr.2.2
              have := hok.2.2
              have : Nd.deps (ks.drop i) ≤ 24 - d := by rw [g4]; exact Nat.max_le.2 ⟨by omega, by omega⟩
              omega
            · rw [hr2, g2]; congr 3; omega
          · refine .inr ⟨fun ⟨h1, h2, h3⟩ => hr ⟨?_, by omega, by omega⟩, z, hr2⟩
            rw [g1] at h1
            simp only [Bool.and_eq_true] at h1
            exact h1.2
        · rw [dec_f hok]
          simp only [Bool.not_false, cond_true]
          refine .inr ⟨fun ⟨h1, h2, h3⟩ => hok ⟨?_, by omega, by omega⟩, y, rfl⟩
          rw [g1] at h1
          simp only [Bool.and_eq_true] at h1
          exact h1.1.2
    · rw [dec_f (by omega), cond_false]
      obtain rfl : i = ks.length := by omega
      rw [List.drop_length]
      exact .inl ⟨⟨rfl, hx, hd⟩, rfl⟩
theorem check_eq : ∀ (n : Nat) (t : Nd) (x d : Nat), t.w + 45 < n → t.w ≤ 67108864 → x ≤ 1000 → d ≤ 25 →
    ∃ y, m_node_checker_node n ((), (x : Int)) t (d : Int) = some (decide (okN t x d), ((), y)) ∧ (okN t x d → y = ((x + t.cnt : Nat) : Int))
  | 0, _, _, _, h, _, _, _ => by omega
  | n + 1, .mk k t c ks, x, d, h, hb, hx, hd => by
    simp only [Nd.w] at h hb
    have hl := Nd.ws_len ks
    unfold m_node_checker_node
    rw [wi_succ (by omega)]
    by_cases h1 : 1000 < ((x + 1 : Nat) : Int)
    · rw [dec_t h1]
      simp only [cond_true, Option.bind_some]
      have hn : ¬ okN (.mk k t c ks) x d := fun ⟨_, h2, _⟩ => by simp only [Nd.cnt] at h2; omega
      exact ⟨_, by rw [dec_f hn], fun h => absurd h hn⟩
    · rw [dec_f h1, cond_false]
      by_cases h2 : 24 < (d : Int)
      · rw [dec_t h2]
        simp only [cond_true, Option.bind_some]
        have hn : ¬ okN (.mk k t c ks) x d := fun ⟨_, _, h2⟩ => by simp only [Nd.dep] at h2; omega
        exact ⟨_, by rw [dec_f hn], fun h => absurd h hn⟩
      · rw [dec_f h2, cond_false, own_eq n _ k t c ks (by omega) (by omega)]
        simp only [Option.bind_some]
        cases ho : (textB k t && kidsB k c (ks.length : Int)) with
        | false =>
          simp only [Bool.not_false, cond_true]
          have hn : ¬ okN (.mk k t c ks) x d := fun ⟨h1, _⟩ => by rw [formB, ho] at h1; cases h1
          exact ⟨_, by rw [dec_f hn], fun h => absurd h hn⟩
        | true =>
          simp only [Bool.not_true, cond_false]
          have := check_loop (F := m_node_checker_node n) (k := k) (ks := ks) (d := d) (by omega) (fun v hv z hz => check_eq n v z (d + 1) (by have := Nd.w_mem hv; omega) (by have := Nd.w_mem hv; omega) hz (by omega)) (by omega) n 0 (x + 1) (by omega) (by omega) (by omega)
          rw [show ((0 : Nat) : Int) = 0 from rfl, List.drop_zero] at this
          rcases this with ⟨hr, hr2⟩ | ⟨hr, z, hr2⟩
          · have hy : okN (.mk k t c ks) x d := ⟨by rw [formB, ho, hr.1]; rfl, by have := hr.2.1; simp only [Nd.cnt]; omega, by have := hr.2.2; simp only [Nd.dep]; omega⟩
            rw [hr2]
            exact ⟨_, by rw [dec_t hy]; rfl, fun _ => by simp only [Nd.cnt]; omega⟩
          · have hn : ¬ okN (.mk k t c ks) x d := fun ⟨g1, g2, g3⟩ => hr ⟨by rw [formB, ho] at g1; exact g1, by simp only [Nd.cnt] at g2; omega, by simp only [Nd.dep] at g3; omega⟩
            rw [hr2]
            exact ⟨_, by rw [dec_f hn]; rfl, fun h => absurd h hn⟩
theorem node_Valid_eq (n : Nat) (t : Nd) (h : t.w + 45 < n) (hb : t.w ≤ 67108864) : m_node_Valid n t = some (validB t) := by
  obtain ⟨y, h1, _⟩ := check_eq n t 0 1 h hb (by omega) (by omega)
  rw [show ((0 : Nat) : Int) = 0 from rfl, show ((1 : Nat) : Int) = 1 from rfl] at h1
  obtain ⟨k, s, c, ks⟩ := t
  unfold m_node_Valid validB
  have hk : m_node_kinds = some () := rfl
  simp only [hk, h1, Option.bind_some, Nd.kind]
  cases k == 1 with
  | false => rfl
  | true =>
    simp only [cond_true, Option.bind_some, Bool.true_and, Option.some.injEq, okN]
    cases formB (.mk k s c ks) with
    | false => simp
    | true =>
      by_cases g1 : (Nd.mk k s c ks).cnt ≤ 1000
      · by_cases g2 : (Nd.mk k s c ks).dep ≤ 24
        · rw [dec_t g1, dec_t g2, dec_t ⟨rfl, by omega, by omega⟩]; rfl
        · rw [dec_t g1, dec_f g2, dec_f (fun h => g2 (by omega))]; rfl
      · rw [dec_f g1, dec_f (fun h => g1 (by omega))]; rfl
end Go.Proofs.Ytfbggpmdmhgpfaa
namespace Go.Proofs.Ytfbggpmdmhgpfaa
open Go.Abs
def Nd.text : Nd → List UInt8 | .mk _ t _ _ => t
def Nd.cols : Nd → Int | .mk _ _ c _ => c
theorem Nd.cnt_kids : ∀ x : Nd, x.cnt = Nd.cnts x.kids + 1
  | .mk _ _ _ _ => rfl
def alikeB (x y : Nd) : Bool := (x.kind == y.kind) && (((x.kids.length : Int) == (y.kids.length : Int)) && (x.cols == y.cols))
def rowD (P : Nd → Nd → Nat) (x : Nd) (f : List Nd → Nat) : List Nd → Nat
  | [] => x.cnt + f []
  | y :: ys => if alikeB x y then min (min (x.cnt + f (y :: ys)) (y.cnt + rowD P x f ys)) (P x y + f ys) else min (x.cnt + f (y :: ys)) (y.cnt + rowD P x f ys)
def TD (P : Nd → Nd → Nat) : List Nd → List Nd → Nat
  | [] => Nd.cnts
  | x :: xs => rowD P x (TD P xs)
def sumD (f : List Nd → List Nd → Nat) : List Nd → List Nd → Nat
  | u :: us, v :: vs => f u.kids v.kids + sumD f us vs
  | _, _ => 0
def txt (x y : Nd) : Nat := bif x.text == y.text then 0 else 1
def PD : Nat → Nd → Nd → Nat
  | 0, _, _ => 0
  | n + 1, x, y => txt x y + sumD (TD (PD n)) x.kids y.kids
def D (x y : Nd) : Nat := PD x.cnt x y
end Go.Proofs.Ytfbggpmdmhgpfaa
namespace Go.Proofs.Ytfbggpmdmhgpfaa
open Go.Abs
def names12 : List (List UInt8) := [[114, 111, 119], [115, 121, 109], [110, 117, 109], [116, 101, 120, 116], [102, 114, 97, 99], [114, 111, 111, 116], [115, 117, 98], [115, 117, 112],
  [98, 111, 116, 104], [97, 99, 99, 101, 110, 116], [102, 101, 110, 99, 101], [109, 97, 116, 114, 105, 120]]
def kindName (k : Int) : List UInt8 := if 1 ≤ k ∧ k ≤ 12 then names12.getD (k.toNat - 1) [] else [110, 111, 100, 101] ++ Lib.itoa k
def escL : List UInt8 → List UInt8
  | [] => []
  | c :: r => if c = 34 ∨ c = 92 then 92 :: c :: escL r else c :: escL r
def textL (t : List UInt8) : List UInt8 := if t = [] then [] else 58 :: 34 :: (escL t ++ [34])
def colsL (c : Int) : List UInt8 := if c = 0 then [] else 42 :: Lib.itoa c
def headL (k : Int) (t : List UInt8) (c : Int) : List UInt8 := kindName k ++ (textL t ++ colsL c)
def kidsL : List UInt8 → List UInt8
  | [] => []
  | _ :: r => 40 :: (r ++ [41])
mutual
def dumpL : Nd → List UInt8
  | .mk k t c ks => headL k t c ++ kidsL (dumpsL ks)
def dumpsL : List Nd → List UInt8
  | [] => []
  | v :: vs => 32 :: (dumpL v ++ dumpsL vs)
end
def hd (l : List UInt8) (s : List UInt8) : Prop := ∀ b r, l = b :: r → b ∈ s
theorem escL_len : ∀ t : List UInt8, (escL t).length ≤ 2 * t.length
  | [] => Nat.le_refl _
  | c :: r => by
    have := escL_len r
    simp only [escL]
    split <;> simp only [List.length_cons] <;> omega
theorem kindName_len {k : Int} (h : in64i k) : (kindName k).length ≤ 25 := by
  unfold kindName
  split
  · have : ∀ i < 12, (names12.getD i []).length ≤ 25 := by decide
    exact this _ (by omega)
  · have := Lib.itoa_length_le k h.1 h.2
    simp; omega
theorem headL_len {k : Int} {t : List UInt8} {c : Int} (hk : in64i k) (hc : in64i c) : (headL k t c).length ≤ 55 + 2 * t.length := by
  have h1 := kindName_len hk
  have h2 := escL_len t
  have h3 := Lib.itoa_length_le c hc.1 hc.2
  have h4 : (textL t).length ≤ 3 + 2 * t.length := by unfold textL; split <;> simp; omega
  have h5 : (colsL c).length ≤ 22 := by unfold colsL; split <;> simp; omega
  simp only [headL, List.length_append]; omega
theorem kidsL_len (l : List UInt8) : (kidsL l).length ≤ l.length + 1 := by cases l <;> simp [kidsL]
mutual
theorem dumpL_len : ∀ v : Nd, v.rng → (dumpL v).length ≤ 60 * v.w
  | .mk k t c ks, h => by
    have h1 := headL_len (t := t) h.1 h.2.1
    have h2 := dumpsL_len ks h.2.2
    have h3 := kidsL_len (dumpsL ks)
    simp only [dumpL, List.length_append, Nd.w]; omega
theorem dumpsL_len : ∀ vs : List Nd, Nd.rngs vs → (dumpsL vs).length ≤ 60 * Nd.ws vs
  | [], _ => by simp [dumpsL]
  | v :: vs, h => by
    have h1 := dumpL_len v h.1
    have h2 := dumpsL_len vs h.2
    simp only [dumpsL, List.length_cons, List.length_append, Nd.ws]; omega
end
theorem byte_q (c : UInt8) : ((c.toNat : Int) == 34) = (c == 34) ∧ ((c.toNat : Int) == 92) = (c == 92) :=
  ⟨of_decide_eq_true (u8_all (P := fun c => decide (((c.toNat : Int) == 34) = (c == 34))) (by decide +kernel) c), of_decide_eq_true (u8_all (P := fun c => decide (((c.toNat : Int) == 92) = (c == 92))) (by decide +kernel) c)⟩
theorem escL_drop {t : List UInt8} {i : Nat} (h : i < t.length) : escL (t.drop i) = if t[i] = 34 ∨ t[i] = 92 then 92 :: t[i] :: escL (t.drop (i + 1)) else t[i] :: escL (t.drop (i + 1)) := by
  rw [List.drop_eq_getElem_cons h]; rfl
theorem kindName_lit (k : Int) : kindName k = if k = 1 then [114, 111, 119] else if k = 2 then [115, 121, 109] else if k = 3 then [110, 117, 109] else if k = 4 then [116, 101, 120, 116]
  else if k = 5 then [102, 114, 97, 99] else if k = 6 then [114, 111, 111, 116] else if k = 7 then [115, 117, 98] else if k = 8 then [115, 117, 112]
  else if k = 9 then [98, 111, 116, 104] else if k = 10 then [97, 99, 99, 101, 110, 116] else if k = 11 then [102, 101, 110, 99, 101]
  else if k = 12 then [109, 97, 116, 114, 105, 120] else [110, 111, 100, 101] ++ Lib.itoa k := by
  rcases kinds k with rfl | rfl | rfl | rfl | rfl | rfl | rfl | rfl | rfl | rfl | rfl | rfl | hk
  all_goals first | rfl | skip
  unfold kindName
  rw [if_neg (by omega), if_neg (by omega), if_neg (by omega), if_neg (by omega), if_neg (by omega), if_neg (by omega), if_neg (by omega), if_neg (by omega), if_neg (by omega), if_neg (by omega), if_neg (by omega), if_neg (by omega), if_neg (by omega)]
theorem kind_in (k : Int) : (bif decide (1 ≤ k) then some (decide (k ≤ 12)) else some false : Option Bool) = some (decide (1 ≤ k ∧ k ≤ 12)) := by
  by_cases h : 1 ≤ k
  · rw [dec_t h, cond_true]; congr 1; by_cases h2 : k ≤ 12 <;> simp [h, h2]
  · rw [dec_f h, cond_false]; congr 1; simp [h]
theorem w_kids' (k : Int) (t : List UInt8) (c : Int) (ks : List Nd) : (Nd.mk k t c ks).w = t.length + Nd.ws ks + 1 := rfl
theorem digit_pos (r : Nat) (h : r < 10) : b8of (IntKind.u8.wrap (IntKind.i64.wrap (48 + (r : Int)))) = UInt8.ofNat (48 + r) := by
  have : ∀ r < 10, b8of (IntKind.u8.wrap (IntKind.i64.wrap (48 + ((r : Nat) : Int)))) = UInt8.ofNat (48 + r) := by decide
  exact this r h
theorem digit_neg (r : Nat) (h : r < 10) : b8of (IntKind.u8.wrap (IntKind.i64.wrap (48 - -(r : Int)))) = UInt8.ofNat (48 + r) := by
  have : ∀ r < 10, b8of (IntKind.u8.wrap (IntKind.i64.wrap (48 - -((r : Nat) : Int)))) = UInt8.ofNat (48 + r) := by decide
  exact this r h
theorem int_loop : ∀ (k u : Nat) (s : List UInt8), u < 10 ^ k → u < 9223372036854775808 → s.length + k ≤ 1000 → ∃ (q : Nat) (r : List UInt8), m_r09_Int_l1 (k + 1) (u : Int) s = some ((q : Int), r) ∧ q < 10 ∧ r.length ≤ s.length + k ∧ UInt8.ofNat (48 + q) :: r = Lib.decDigits u ++ s
  | k, u, s, hk, hu, hs => by
    unfold m_r09_Int_l1
    by_cases h : u < 10
    · rw [dec_f (by omega), cond_false]
      exact ⟨u, s, rfl, h, by omega, by rw [Lib.decDigits, dif_pos h]; rfl⟩
    · rw [dec_t (by omega), cond_true]
      match k, hk with
      | 0, hk => simp at hk; omega
      | k + 1, hk =>
        have e1 : (u : Int).tmod 10 = ((u % 10 : Nat) : Int) := by rw [Int.tmod_eq_emod_of_nonneg (by omega)]; rfl
        have e2 : IntKind.i64.wrap ((u : Int).tdiv 10) = ((u / 10 : Nat) : Int) := by
          rw [Int.tdiv_eq_ediv_of_nonneg (by omega), wrap64_in (by omega) (by omega)]; rfl
        rw [e1, e2, digit_pos _ (Nat.mod_lt _ (by decide)), req_t (by simp; omega)]
        obtain ⟨q, r, h1, h2, h3, h4⟩ := int_loop k (u / 10) ([UInt8.ofNat (48 + u % 10)] ++ s) (by rw [Nat.pow_succ] at hk; omega) (by omega) (by simp; omega)
        refine ⟨q, r, h1, h2, by simp at h3; omega, ?_⟩
        rw [h4, Lib.decDigits.eq_def u, dif_neg h]
        simp
theorem r09_Int_nn (n u : Nat) (h : 25 ≤ n) (hu : u < 9223372036854775808) : m_r09_Int (n + 1) (u : Int) = some (Lib.decDigits u) := by
  unfold m_r09_Int
  rw [dec_f (by omega), cond_false]
  obtain ⟨q, r, h1, h2, h3, h4⟩ := int_loop (min (n - 1) 900) u [] (by
    have : (10 : Nat) ^ 24 ≤ 10 ^ (min (n - 1) 900) := Nat.pow_le_pow_right (by decide) (by omega)
    have : (9223372036854775808 : Nat) ≤ 10 ^ 24 := by decide
    omega) hu (by simp; omega)
  have hl : ∀ (k m : Nat) (x : Int) (s : List UInt8) y, m_r09_Int_l1 k x s = some y → m_r09_Int_l1 (k + m) x s = some y := by
    intro k
    induction k with
    | zero => intro m x s y h; simp [m_r09_Int_l1] at h
    | succ k ih =>
      intro m x s y h
      rw [show k + 1 + m = (k + m) + 1 by omega]
      unfold m_r09_Int_l1 at h ⊢
      by_cases hx : 10 ≤ x
      · rw [dec_t hx, cond_true] at h ⊢
        obtain ⟨hq, h⟩ := req_out h
        rw [req_t hq]
        exact ih m _ _ _ h
      · rw [dec_f hx, cond_false] at h ⊢
        exact h
  have := hl _ (n - (min (n - 1) 900 + 1)) _ _ _ h1
  rw [show min (n - 1) 900 + 1 + (n - (min (n - 1) 900 + 1)) = n by omega] at this
  rw [this]
  simp only [Option.bind_some]
  rw [digit_pos q h2, req_t (by simp at h3 ⊢; omega)]
  simpa using h4
theorem r09_Int_eq (n : Nat) (x : Int) (h : 30 ≤ n) (hx : in64i x) : m_r09_Int n x = some (Lib.itoa x) := by
  unfold in64i at hx
  obtain ⟨n, rfl⟩ : ∃ m, n = m + 1 := ⟨n - 1, by omega⟩
  by_cases h0 : x < 0
  · obtain ⟨u, rfl⟩ : ∃ u : Nat, x = -(u : Int) := ⟨x.natAbs, by omega⟩
    have e1 : (-(u : Int)).tmod 10 = -((u % 10 : Nat) : Int) := by rw [Int.neg_tmod, Int.tmod_eq_emod_of_nonneg (by omega)]; rfl
    have e2 : IntKind.i64.wrap ((-(u : Int)).tdiv 10) = -((u / 10 : Nat) : Int) := by
      rw [Int.neg_tdiv, Int.tdiv_eq_ediv_of_nonneg (by omega), wrap64_in (by omega) (by omega)]; rfl
    unfold m_r09_Int Lib.itoa
    rw [dec_t h0, cond_true, if_pos h0, e1, e2, digit_neg _ (Nat.mod_lt _ (by decide)), show (-(u : Int)).natAbs = u by omega]
    by_cases h1 : u / 10 = 0
    · rw [h1, show (-((0 : Nat) : Int) != 0) = false from rfl, cond_false, req_t (by simp), Lib.decDigits, dif_pos (by omega), Nat.mod_eq_of_lt (by omega)]
      rfl
    · rw [show (-((u / 10 : Nat) : Int) != 0) = true from bne_iff_ne.2 (by omega), cond_true]
      have e3 : IntKind.i64.wrap (0 - -((u / 10 : Nat) : Int)) = ((u / 10 : Nat) : Int) := by rw [wrap64_in (by omega) (by omega)]; omega
      obtain ⟨m, rfl⟩ : ∃ m, n = m + 1 := ⟨n - 1, by omega⟩
      rw [e3, r09_Int_nn m (u / 10) (by omega) (by omega)]
      have hl := Lib.nDigits_le20 (u / 10) (by omega)
      have hl2 := Lib.decDigits_length (u / 10)
      simp only [Option.bind_some]
      rw [req_t (by simp; omega), req_t (by simp; omega), Lib.decDigits.eq_def u, dif_neg (by omega)]
      simp
  · obtain ⟨u, rfl⟩ : ∃ u : Nat, x = (u : Int) := ⟨x.toNat, by omega⟩
    unfold Lib.itoa
    rw [if_neg h0, Int.toNat_natCast]
    exact r09_Int_nn n u (by omega) (by omega)
theorem quot_loop (t : List UInt8) (ht : t.length ≤ 1073741824) : ∀ (k i : Nat) (l : List UInt8), t.length - i < k → i ≤ t.length → l.length + 2 * (t.length - i) < 4294967296 →
    m_r09_Quoted_l1 t k (i : Int) l = some (l ++ escL (t.drop i))
  | 0, _, _, h, _, _ => by omega
  | k + 1, i, l, hk, hi, hl => by
    unfold m_r09_Quoted_l1
    by_cases h : i < t.length
    · rw [dec_t (Int.ofNat_lt.2 h), cond_true, at_get h, escL_drop h]
      simp only [Option.bind_some, (byte_q t[i]).1, (byte_q t[i]).2]
      rw [wi_succ (by omega)]
      have e92 : b8of 92 = 92 := rfl
      have hx : (bif t[i] == 34 then some true else some (t[i] == 92) : Option Bool) = some (decide (t[i] = 34 ∨ t[i] = 92)) := by
        by_cases h1 : t[i] = 34
        · simp [h1]
        · by_cases h2 : t[i] = 92
          · simp [h2]
          · rw [beq_eq_false_iff_ne.2 h1, beq_eq_false_iff_ne.2 h2, cond_false, decide_eq_false (by intro h; exact h.elim h1 h2)]
      rw [hx]
      simp only [Option.bind_some]
      by_cases hq : t[i] = 34 ∨ t[i] = 92
      · rw [decide_eq_true hq, cond_true, if_pos hq, req_t (by simp; omega)]
        simp only [Option.bind_some]
        rw [req_t (by simp; omega)]
        simp only [Option.bind_some]
        rw [quot_loop t ht k (i + 1) _ (by omega) (by omega) (by simp; omega), e92]
        simp
      · rw [decide_eq_false hq, cond_false, if_neg hq]
        simp only [Option.bind_some]
        rw [req_t (by simp; omega)]
        simp only [Option.bind_some]
        rw [quot_loop t ht k (i + 1) _ (by omega) (by omega) (by simp; omega)]
        simp
    · rw [dec_f (by omega), cond_false]
      obtain rfl : i = t.length := by omega
      simp [escL]
theorem r09_Quoted_eq (n : Nat) (t : List UInt8) (hn : t.length < n) (ht : t.length ≤ 1073741824) : m_r09_Quoted n t = some (34 :: (escL t ++ [34])) := by
  unfold m_r09_Quoted
  have := quot_loop t ht n 0 [34] (by omega) (by omega) (by simp; omega)
  rw [show ((0 : Nat) : Int) = 0 from rfl, List.drop_zero] at this
  have he := escL_len t
  show (m_r09_Quoted_l1 t n 0 [b8of 34]).bind _ = _
  rw [show b8of 34 = 34 from rfl, this, Option.bind_some, req_t (by simp; omega)]
  simp
theorem rdump_loop {F : Nd → Option (List UInt8)} {ks : List Nd} (hF : ∀ v ∈ ks, F v = some (dumpL v)) (hl : ks.length ≤ 1073741824) :
    ∀ (q i : Nat) (x : List UInt8), ks.length - i < q → i ≤ ks.length → x.length + (dumpsL (ks.drop i)).length ≤ 4294967296 →
      m_r09_Dump_l1 F ks q x (i : Int) = some (x ++ (if i = 0 then (dumpsL ks).tail else dumpsL (ks.drop i)))
  | 0, _, _, h, _, _ => by omega
  | q + 1, i, x, hq, hi, hx => by
    unfold m_r09_Dump_l1
    by_cases h : i < ks.length
    · have hd := List.drop_eq_getElem_cons h
      have hf := hF _ (List.getElem_mem h)
      rw [hd] at hx
      rw [dec_t (Int.ofNat_lt.2 h), cond_true, at_get h]
      rcases e : ks[i] with ⟨e1, e2, e3, e4⟩
      rw [e] at hf hd hx
      simp only [dumpsL, List.length_cons, List.length_append] at hx
      simp only [Option.bind_some, hf]
      rw [wi_succ (by omega)]
      by_cases h0 : i = 0
      · subst h0
        rw [dec_f (by omega), cond_false]
        simp only [Option.bind_some]
        rw [req_t (by omega)]
        simp only [Option.bind_some]
        have ih := rdump_loop hF hl q 1 (x ++ dumpL (.mk e1 e2 e3 e4)) (by omega) (by omega) (by simp at hx ⊢; omega)
        rw [show (((0 + 1 : Nat)) : Int) = ((1 : Nat) : Int) from rfl, ih, if_neg (by decide)]
        rw [List.drop_zero] at hd
        have hd' := congrArg dumpsL hd
        simp only [dumpsL] at hd'
        simp [hd']
      · rw [dec_t (by omega), cond_true, req_t (by simp; omega)]
        simp only [Option.bind_some]
        rw [req_t (by simp; omega)]
        simp only [Option.bind_some]
        rw [rdump_loop hF hl q (i + 1) _ (by omega) (by omega) (by simp; omega), if_neg (by omega), if_neg h0, hd]
        simp [dumpsL]
    · rw [dec_f (by omega), cond_false]
      obtain rfl : i = ks.length := by omega
      congr 1
      by_cases h0 : ks.length = 0
      · rw [if_pos h0, List.length_eq_zero_iff.1 h0]; simp [dumpsL]
      · rw [if_neg h0, List.drop_length]; simp [dumpsL]
theorem kidsL_tail {l : List UInt8} (h : l ≠ []) : kidsL l = 40 :: (l.tail ++ [41]) := by
  cases l with
  | nil => exact absurd rfl h
  | cons a l => rfl
theorem r09_Dump_eq : ∀ (n : Nat) (t : Nd), t.w + 40 < n → t.w ≤ 16777216 → t.rng → m_r09_Dump n t = some (dumpL t)
  | 0, _, h, _, _ => by omega
  | n + 1, .mk k t c ks, h, hw, hr => by
    have hwt := w_kids' k t c ks
    have hki := Lib.itoa_length_le k hr.1.1 hr.1.2
    have hci := Lib.itoa_length_le c hr.2.1.1 hr.2.1.2
    have hkl := kindName_len hr.1
    have he := escL_len t
    have hd := dumpsL_len ks hr.2.2
    unfold m_r09_Dump
    rw [r09_Int_eq n k (by omega) hr.1]
    simp only [Option.bind_some]
    rw [req_t (by simp; omega), kind_in]
    simp only [Option.bind_some]
    have h1 : ∀ X : Option (List UInt8), X = some (kindName k) → ∀ K : List UInt8 → Option (List UInt8), X.bind K = K (kindName k) := fun X h K => by rw [h]; rfl
    rw [h1 _ ?_]
    · have h2 : ∀ X : Option (List UInt8), X = some (kindName k ++ textL t) → ∀ K : List UInt8 → Option (List UInt8), X.bind K = K (kindName k ++ textL t) := fun X h K => by rw [h]; rfl
      rw [h2 _ ?_]
      · have hx : (textL t).length ≤ 3 + 2 * t.length := by unfold textL; split <;> simp; omega
        have h3 : ∀ X : Option (List UInt8), X = some ((kindName k ++ textL t) ++ colsL c) → ∀ K : List UInt8 → Option (List UInt8), X.bind K = K ((kindName k ++ textL t) ++ colsL c) := fun X h K => by rw [h]; rfl
        rw [h3 _ ?_]
        · have hy : (colsL c).length ≤ 22 := by unfold colsL; split <;> simp; omega
          by_cases h0 : ks = []
          · subst h0
            simp [dumpL, dumpsL, kidsL, headL]
          · have hkl : ks.length ≠ 0 := by simpa using h0
            rw [ne_beq (by omega : (ks.length : Int) ≠ 0), cond_false, req_t (by simp; omega)]
            have hlk := Nd.ws_len ks
            have hlo := rdump_loop (F := m_r09_Dump n) (ks := ks) (fun v hv => r09_Dump_eq n v (by have := Nd.w_mem hv; omega) (by have := Nd.w_mem hv; omega) (Nd.rng_mem hr.2.2 hv)) (by omega) n 0 (((kindName k ++ textL t) ++ colsL c) ++ [40]) (by omega) (by omega) (by simp; omega)
            rw [show ((0 : Nat) : Int) = 0 from rfl, if_pos rfl] at hlo
            rw [hlo, Option.bind_some, req_t (by simp; omega)]
            have hne : dumpsL ks ≠ [] := by
              cases ks with
              | nil => exact absurd rfl h0
              | cons v vs => simp [dumpsL]
            simp [dumpL, headL, kidsL_tail hne]
        · unfold colsL
          by_cases h0 : c = 0
          · subst h0; simp
          · rw [if_neg h0, show (c != 0) = true from bne_iff_ne.2 h0, cond_true, req_t (by simp; omega), r09_Int_eq n c (by omega) hr.2.1]
            simp only [Option.bind_some]
            rw [req_t (by simp; omega)]
            simp
      · unfold textL
        by_cases h0 : t = []
        · subst h0; simp
        · rw [if_neg h0, show (!(t == [])) = true from by simp [h0], cond_true, req_t (by simp; omega), r09_Quoted_eq n t (by omega) (by omega)]
          simp only [Option.bind_some]
          rw [req_t (by simp; omega)]
          simp
    · rw [kindName_lit]
      rcases kinds k with rfl | rfl | rfl | rfl | rfl | rfl | rfl | rfl | rfl | rfl | rfl | rfl | hk'
      all_goals first | rfl | skip
      rw [show decide (1 ≤ k ∧ k ≤ 12) = false from decide_eq_false (by omega), cond_false, if_neg (by omega), if_neg (by omega), if_neg (by omega), if_neg (by omega), if_neg (by omega), if_neg (by omega), if_neg (by omega), if_neg (by omega), if_neg (by omega), if_neg (by omega), if_neg (by omega), if_neg (by omega)]
end Go.Proofs.Ytfbggpmdmhgpfaa
namespace Go.Proofs.Ytfbggpmdmhgpfaa
open Go.Abs
theorem forms_mem {k : Int} : ∀ {a : List Nd} {v : Nd}, formsB k a = true → v ∈ a → formB v = true ∧ ((v.kind == 1) == (k == 1)) = false
  | u :: a, v, h, hm => by
    simp only [formsB, Bool.and_eq_true, Bool.not_eq_true'] at h
    rcases List.mem_cons.1 hm with rfl | hm
    · exact ⟨h.1.2, h.1.1⟩
    · exact forms_mem h.2 hm
theorem form_row {u : Nd} (h : formB u = true) (hk : u.kind = 1) : u = .mk 1 [] 0 u.kids ∧ formsB 1 u.kids = true := by
  obtain ⟨k, t, c, ks⟩ := u
  simp only [Nd.kind] at hk
  subst hk
  simp only [formB, Bool.and_eq_true] at h
  obtain ⟨⟨h1, h2⟩, h3⟩ := h
  have h1' : (t == []) = true := h1
  have h2' : ((c == 0) && decide ((ks.length : Int) ≤ 200)) = true := h2
  simp only [Bool.and_eq_true] at h2'
  rw [eq_of_beq h1', eq_of_beq h2'.1]
  exact ⟨rfl, h3⟩
theorem same_loop {F : Nd → Nd → Option Bool} {a b : List Nd} (hF : ∀ u ∈ a, ∀ v ∈ b, ∃ y, F u v = some y ∧ (y = true ↔ u = v)) (hl : a.length = b.length) (hb : a.length ≤ 1073741824) :
    ∀ (q i : Nat), a.length - i < q → i ≤ a.length → ∃ y, m_r09_SameItems_l1 F a b q (i : Int) = some (if y then .go () else .ret false) ∧ (y = true ↔ a.drop i = b.drop i)
  | 0, _, h, _ => by omega
  | q + 1, i, hq, hi => by
    unfold m_r09_SameItems_l1
    by_cases h : i < a.length
    · have h' : i < b.length := by omega
      rw [dec_t (Int.ofNat_lt.2 h), cond_true, at_get h, at_get h']
      obtain ⟨y, f1, f2⟩ := hF _ (List.getElem_mem h) _ (List.getElem_mem h')
      have d1 := List.drop_eq_getElem_cons h
      have d2 := List.drop_eq_getElem_cons h'
      rcases e : a[i] with ⟨x1, x2, x3, x4⟩
      rcases e' : b[i] with ⟨y1, y2, y3, y4⟩
      rw [e, e'] at f1 f2
      rw [e] at d1
      rw [e'] at d2
      simp only [Option.bind_some, f1]
      cases y with
      | false =>
        refine ⟨false, rfl, ⟨(fun h => by cases h), fun h => ?_⟩⟩
        rw [d1, d2] at h
        exact f2.2 (List.cons.inj h).1
      | true =>
        simp only [Bool.not_true, cond_false]
        rw [wi_succ (by omega)]
        obtain ⟨z, g1, g2⟩ := same_loop hF hl hb q (i + 1) (by omega) (by omega)
        refine ⟨z, g1, ?_⟩
        rw [d1, d2, g2, f2.1 rfl]
        simp
    · rw [dec_f (by omega), cond_false]
      obtain rfl : i = a.length := by omega
      refine ⟨true, rfl, ?_⟩
      rw [List.drop_length, hl, List.drop_length]
      simp
theorem Equal_eq : ∀ N : Nat, (∀ x y : Nd, 2 * x.cnt < N → x.cnt ≤ 67108864 → ∃ r, m_r09_Equal N x y = some r ∧ (r = true ↔ x = y)) ∧
    (∀ a b : List Nd, 2 * Nd.cnts a + 1 < N → Nd.cnts a ≤ 67108864 → ∃ r, m_r09_SameItems N a b = some r ∧ (r = true ↔ a = b))
  | 0 => ⟨fun _ _ h _ => by omega, fun _ _ h _ => by omega⟩
  | n + 1 => by
    obtain ⟨ih1, ih2⟩ := Equal_eq n
    refine ⟨fun x y h hx => ?_, fun a b h ha => ?_⟩
    · obtain ⟨a, b, c, d⟩ := x
      obtain ⟨a', b', c', d'⟩ := y
      simp only [Nd.cnt] at h hx
      obtain ⟨r, h1, h2⟩ := ih2 d d' (by omega) (by omega)
      unfold m_r09_Equal
      simp only [h1, Option.bind_some]
      cases e1 : a == a' with
      | false => exact ⟨false, rfl, ⟨(fun h => by cases h), fun h => by cases h; simp at e1⟩⟩
      | true =>
        cases e2 : b == b' with
        | false => exact ⟨false, rfl, ⟨(fun h => by cases h), fun h => by cases h; simp at e2⟩⟩
        | true =>
          cases e3 : c == c' with
          | false => exact ⟨false, rfl, ⟨(fun h => by cases h), fun h => by cases h; simp at e3⟩⟩
          | true =>
            refine ⟨r, rfl, h2.trans ⟨fun h => ?_, fun h => by cases h; rfl⟩⟩
            rw [eq_of_beq e1, eq_of_beq e2, eq_of_beq e3, h]
    · unfold m_r09_SameItems
      have l1 := Nd.cnts_len a
      by_cases hl : a.length = b.length
      · obtain ⟨y, g1, g2⟩ := same_loop (F := m_r09_Equal n) (a := a) (b := b) (fun u hu v _ => ih1 u v (by have := Nd.cnts_mem hu; omega) (by have := Nd.cnts_mem hu; omega)) hl (by omega) n 0 (by omega) (by omega)
        rw [show ((0 : Nat) : Int) = 0 from rfl] at g1
        rw [hl, bne_self_eq_false, cond_false, g1]
        refine ⟨y, by cases y <;> rfl, g2⟩
      · have : ((a.length : Int) != (b.length : Int)) = true := by
          unfold bne
          rw [ne_beq (by omega)]; rfl
        rw [this]
        exact ⟨false, rfl, ⟨(fun h => by cases h), fun h => absurd (congrArg List.length h) hl⟩⟩
theorem valid_row {x : Nd} (h : validB x = true) : x = .mk 1 [] 0 x.kids ∧ formsB 1 x.kids = true := by
  unfold validB at h
  simp only [Bool.and_eq_true] at h
  exact form_row h.2.1 (eq_of_beq h.1)
end Go.Proofs.Ytfbggpmdmhgpfaa
namespace Go.Proofs.Ytfbggpmdmhgpfaa
open Go.Abs
theorem nsame_loop {F : Nd → Nd → Option Bool} {a b : List Nd} (hF : ∀ u ∈ a, ∀ v ∈ b, ∃ y, F u v = some y ∧ (y = true ↔ u = v)) (hl : a.length = b.length) (hb : a.length ≤ 1073741824) :
    ∀ (q i : Nat), a.length - i < q → i ≤ a.length → ∃ y, m_slices_EqualFunc_sNode_l1 F a b q (i : Int) = some (if y then .go () else .ret false) ∧ (y = true ↔ a.drop i = b.drop i)
  | 0, _, h, _ => by omega
  | q + 1, i, hq, hi => by
    unfold m_slices_EqualFunc_sNode_l1
    by_cases h : i < a.length
    · have h' : i < b.length := by omega
      rw [dec_t (Int.ofNat_lt.2 h), cond_true, at_get h, at_get h']
      obtain ⟨y, f1, f2⟩ := hF _ (List.getElem_mem h) _ (List.getElem_mem h')
      have d1 := List.drop_eq_getElem_cons h
      have d2 := List.drop_eq_getElem_cons h'
      rcases e : a[i] with ⟨x1, x2, x3, x4⟩
      rcases e' : b[i] with ⟨y1, y2, y3, y4⟩
      rw [e, e'] at f1 f2
      rw [e] at d1
      rw [e'] at d2
      simp only [Option.bind_some, f1]
      cases y with
      | false =>
        refine ⟨false, rfl, ⟨(fun h => by cases h), fun h => ?_⟩⟩
        rw [d1, d2] at h
        exact f2.2 (List.cons.inj h).1
      | true =>
        simp only [Bool.not_true, cond_false]
        rw [wi_succ (by omega)]
        obtain ⟨z, g1, g2⟩ := nsame_loop hF hl hb q (i + 1) (by omega) (by omega)
        refine ⟨z, g1, ?_⟩
        rw [d1, d2, g2, f2.1 rfl]
        simp
    · rw [dec_f (by omega), cond_false]
      obtain rfl : i = a.length := by omega
      refine ⟨true, rfl, ?_⟩
      rw [List.drop_length, hl, List.drop_length]
      simp
theorem node_Equal_eq : ∀ N : Nat, (∀ x y : Nd, 2 * x.cnt < N → x.cnt ≤ 67108864 → ∃ r, m_node_Equal N x y = some r ∧ (r = true ↔ x = y)) ∧
    (∀ a b : List Nd, 2 * Nd.cnts a + 1 < N → Nd.cnts a ≤ 67108864 → ∃ r, m_slices_EqualFunc_sNode N a b = some r ∧ (r = true ↔ a = b))
  | 0 => ⟨fun _ _ h _ => by omega, fun _ _ h _ => by omega⟩
  | n + 1 => by
    obtain ⟨ih1, ih2⟩ := node_Equal_eq n
    refine ⟨fun x y h hx => ?_, fun a b h ha => ?_⟩
    · obtain ⟨a, b, c, d⟩ := x
      obtain ⟨a', b', c', d'⟩ := y
      simp only [Nd.cnt] at h hx
      obtain ⟨r, h1, h2⟩ := ih2 d d' (by omega) (by omega)
      unfold m_node_Equal
      simp only [h1, Option.bind_some]
      cases e1 : a == a' with
      | false => exact ⟨false, rfl, ⟨(fun h => by cases h), fun h => by cases h; simp at e1⟩⟩
      | true =>
        cases e2 : b == b' with
        | false => exact ⟨false, rfl, ⟨(fun h => by cases h), fun h => by cases h; simp at e2⟩⟩
        | true =>
          cases e3 : c == c' with
          | false => exact ⟨false, rfl, ⟨(fun h => by cases h), fun h => by cases h; simp at e3⟩⟩
          | true =>
            refine ⟨r, rfl, h2.trans ⟨fun h => ?_, fun h => by cases h; rfl⟩⟩
            rw [eq_of_beq e1, eq_of_beq e2, eq_of_beq e3, h]
    · unfold m_slices_EqualFunc_sNode
      have l1 := Nd.cnts_len a
      by_cases hl : a.length = b.length
      · obtain ⟨y, g1, g2⟩ := nsame_loop (F := m_node_Equal n) (a := a) (b := b) (fun u hu v _ => ih1 u v (by have := Nd.cnts_mem hu; omega) (by have := Nd.cnts_mem hu; omega)) hl (by omega) n 0 (by omega) (by omega)
        rw [show ((0 : Nat) : Int) = 0 from rfl] at g1
        rw [hl, bne_self_eq_false, cond_false, g1]
        refine ⟨y, by cases y <;> rfl, g2⟩
      · have : ((a.length : Int) != (b.length : Int)) = true := by
          unfold bne
          rw [ne_beq (by omega)]; rfl
        rw [this]
        exact ⟨false, rfl, ⟨(fun h => by cases h), fun h => absurd (congrArg List.length h) hl⟩⟩
end Go.Proofs.Ytfbggpmdmhgpfaa
namespace Go.Proofs.Ytfbggpmdmhgpfaa
open Go.Abs
theorem findL_none1' {n : Nd} {i s : Int} {p : List Int} (h : ¬ (0 ≤ i ∧ i < n.kids.length)) : findL n (i :: s :: p) = none := by rw [findL, if_neg h]
theorem findL_none2' {n x : Nd} {i : Nat} {s : Int} {p : List Int} (hx : n.kids[i]? = some x) (h : ¬ (0 ≤ s ∧ s < x.kids.length)) : findL n ((i : Int) :: s :: p) = none := by
  have hl := (List.getElem?_eq_some_iff.1 hx).1
  rw [findL, if_pos ⟨by omega, by omega⟩]
  simp only [List.getD_eq_getElem?_getD, Int.toNat_natCast, hx, Option.getD_some]
  rw [if_neg h]
theorem findL_step' {n x z : Nd} {i s : Nat} {p : List Int} (hx : n.kids[i]? = some x) (hz : x.kids[s]? = some z) : findL n ((i : Int) :: (s : Int) :: p) = findL z p := by
  have hl := (List.getElem?_eq_some_iff.1 hx).1
  have hl2 := (List.getElem?_eq_some_iff.1 hz).1
  rw [findL, if_pos ⟨by omega, by omega⟩]
  simp only [List.getD_eq_getElem?_getD, Int.toNat_natCast, hx, hz, Option.getD_some]
  rw [if_pos ⟨by omega, by omega⟩]
theorem at_int9 {α : Type} {l : List α} {i : Int} (h0 : 0 ≤ i) (h1 : i < (l.length : Int)) : ∃ p : Nat, i = (p : Int) ∧ ∃ h : p < l.length, at? l i = some l[p] := by
  obtain ⟨p, rfl⟩ := Int.eq_ofNat_of_zero_le h0
  exact ⟨p, rfl, by omega, at_get (by omega)⟩
theorem find_loop9 : ∀ (k : Nat) (t : Nd) (path : List Int), path.length < k →
    (findL t path = none ∧ ∃ r, m_r09_find_l1 k t.kind t.text t.cols t.kids path = some (.ret (r, false))) ∨
    (findL t path = none ∧ ∃ (r : Nd) (p : List Int), p ≠ [] ∧ m_r09_find_l1 k t.kind t.text t.cols t.kids path = some (.go (p, r.kind, r.text, r.cols, r.kids))) ∨
    ∃ r, findL t path = some r ∧ m_r09_find_l1 k t.kind t.text t.cols t.kids path = some (.go ([], r.kind, r.text, r.cols, r.kids))
  | 0, _, _, h => by omega
  | k + 1, t, path, h => by
    unfold m_r09_find_l1
    match path, h with
    | [], h => exact .inr (.inr ⟨t, rfl, rfl⟩)
    | [x], h => exact .inr (.inl ⟨rfl, t, [x], by simp, rfl⟩)
    | x :: y :: p, h =>
      have e0 : at? (x :: y :: p) (0 : Int) = some x := rfl
      have e1 : at? (x :: y :: p) (1 : Int) = some y := rfl
      have e2 : (((x :: y :: p).take (((x :: y :: p).length : Int)).toNat).drop (2 : Int).toNat) = p := by
        rw [Int.toNat_natCast, List.take_length]; rfl
      rw [dec_t (by simp only [List.length_cons]; omega), cond_true]
      simp only [e0, e1, Option.bind_some, e2]
      by_cases h1 : x < 0
      · rw [dec_t h1]; exact .inl ⟨findL_none1' (fun h => by omega), _, rfl⟩
      · rw [dec_f h1]
        by_cases h2 : (t.kids.length : Int) ≤ x
        · rw [dec_t h2]; exact .inl ⟨findL_none1' (fun h => by omega), _, rfl⟩
        · rw [dec_f h2]
          obtain ⟨i, rfl, hi, hg⟩ := at_int9 (l := t.kids) (i := x) (by omega) (by omega)
          rw [hg]
          have hgi : t.kids[i]? = some t.kids[i] := List.getElem?_eq_getElem hi
          generalize t.kids[i] = e at hgi
          obtain ⟨x1, x2, x3, x4⟩ := e
          simp only [cond_false, Option.bind_some]
          by_cases h3 : y < 0
          · rw [dec_t h3]; exact .inl ⟨findL_none2' hgi (fun h => by omega), _, rfl⟩
          · rw [dec_f h3]
            by_cases h4 : (x4.length : Int) ≤ y
            · rw [dec_t h4]; exact .inl ⟨findL_none2' hgi (fun h => by have : y < x4.length := h.2; omega), _, rfl⟩
            · rw [dec_f h4]
              obtain ⟨j, rfl, hj, hg2⟩ := at_int9 (l := x4) (i := y) (by omega) (by omega)
              rw [hg2]
              have hgj : x4[j]? = some x4[j] := List.getElem?_eq_getElem hj
              generalize x4[j] = f at hgj
              obtain ⟨y1, y2, y3, y4⟩ := f
              simp only [cond_false, Option.bind_some]
              rw [req_t ⟨by omega, by simp only [List.length_cons]; omega, by omega⟩]
              rw [findL_step' hgi hgj]
              exact find_loop9 k (.mk y1 y2 y3 y4) p (by simp only [List.length_cons] at h; omega)
theorem r09_find_eq (n : Nat) (t : Nd) (path : List Int) (h : path.length < n) : ∃ r ok, m_r09_find n t path = some (r, ok) ∧ findL t path = bif ok then some r else none := by
  obtain ⟨a, b, c, d⟩ := t
  unfold m_r09_find
  dsimp only
  rcases find_loop9 n (.mk a b c d) path h with ⟨h0, r, h1⟩ | ⟨h0, r, p, hp, h1⟩ | ⟨r, h0, h1⟩
  · simp only [Nd.kind, Nd.text, Nd.cols, Nd.kids] at h1
    rw [h1]
    exact ⟨r, false, rfl, h0⟩
  · obtain ⟨r1, r2, r3, r4⟩ := r
    simp only [Nd.kind, Nd.text, Nd.cols, Nd.kids] at h1
    rw [h1]
    refine ⟨.mk r1 r2 r3 r4, false, ?_, h0⟩
    have : ((p.length : Int) == 0) = false := beq_eq_false_iff_ne.2 fun e => hp (List.eq_nil_of_length_eq_zero (by omega))
    simp only [Option.bind_some, this]
  · obtain ⟨r1, r2, r3, r4⟩ := r
    simp only [Nd.kind, Nd.text, Nd.cols, Nd.kids] at h1
    rw [h1]
    exact ⟨.mk r1 r2 r3 r4, true, rfl, h0⟩
def rowS (t : Nd) (p : List Int) : Nd × Int := if validB t = true then (match findL t p with | some r => (r, 0) | none => (zeroNd, 8)) else (zeroNd, 1)
theorem findL_sub : ∀ (N : Nat) (p : List Int) (t r : Nd), p.length < N → findL t p = some r → r.w ≤ t.w ∧ r.cnt ≤ t.cnt
  | 0, p, _, _, h, _ => by omega
  | N + 1, [], t, r, _, h => by
    rw [findL] at h
    cases h
    exact ⟨Nat.le_refl _, Nat.le_refl _⟩
  | N + 1, [_], t, r, _, h => by
    rw [findL] at h
    cases h
  | N + 1, i :: s :: p, .mk k tx c ks, r, hN, h => by
    rw [findL] at h
    split at h
    · rename_i hi
      replace hi : 0 ≤ i ∧ i < ks.length := hi
      have hi0 : i.toNat < ks.length := by omega
      have hx : ks[i.toNat]? = some ks[i.toNat] := List.getElem?_eq_getElem hi0
      generalize ks[i.toNat] = x at hx
      obtain ⟨k2, tx2, c2, ks2⟩ := x
      simp only [Nd.kids, List.getD_eq_getElem?_getD, hx, Option.getD_some] at h
      split at h
      · rename_i hs
        have hs0 : s.toNat < ks2.length := by omega
        have hz : ks2[s.toNat]? = some ks2[s.toNat] := List.getElem?_eq_getElem hs0
        generalize ks2[s.toNat] = z at hz
        rw [hz, Option.getD_some] at h
        obtain ⟨q1, q2⟩ := findL_sub N p z r (by simp only [List.length_cons] at hN; omega) h
        have m1 := Nd.w_mem (List.mem_of_getElem? hx)
        have m2 := Nd.w_mem (List.mem_of_getElem? hz)
        have n1 := Nd.cnts_mem (List.mem_of_getElem? hx)
        have n2 := Nd.cnts_mem (List.mem_of_getElem? hz)
        simp only [Nd.w, Nd.cnt] at m1 m2 n1 n2 ⊢
        omega
      · cases h
    · cases h
theorem r09_Row_eq (n : Nat) (t : Nd) (p : List Int) (hp : p.length < n) (hv : m_r09_Valid n t = some (validB t)) : m_r09_Row n t p = some (rowS t p) := by
  obtain ⟨r, ok, h1, h2⟩ := r09_find_eq n t p hp
  obtain ⟨k, tx, c, ks⟩ := t
  unfold m_r09_Row rowS
  dsimp only
  rw [hv]
  simp only [Option.bind_some]
  cases hb : validB (.mk k tx c ks) with
  | false => rfl
  | true =>
    rw [h1, h2]
    obtain ⟨r1, r2, r3, r4⟩ := r
    cases ok <;> rfl
theorem deep_eq {t : Nd} (h : t.cnt ≤ 1000000000) : m_deep_Node t = some t := req_t h
theorem node_Row_eq (n : Nat) (t : Nd) (p : List Int) (hv : m_node_Valid n t = some (validB t)) (hc : t.cnt ≤ 1000000000) : m_node_Row n t p = some (rowS t p) := by
  unfold m_node_Row rowS
  rw [hv]
  simp only [Option.bind_some]
  split
  · cases hf : findL t p with
    | none => rfl
    | some r =>
      have := (findL_sub _ p t r (Nat.lt_succ_self _) hf).2
      simp only [deep_eq (Nat.le_trans this hc), Option.bind_some]
  · rfl
theorem zero_cnt (t : Nd) : zeroNd.cnt ≤ t.cnt := t.cnt_pos
theorem rowS_cnt (t : Nd) (p : List Int) : (rowS t p).1.cnt ≤ t.cnt := by
  unfold rowS
  split
  · split
    · rename_i r hr
      exact (findL_sub _ p t r (Nat.lt_succ_self _) hr).2
    · exact zero_cnt t
  · exact zero_cnt t
end Go.Proofs.Ytfbggpmdmhgpfaa
namespace Go.Proofs.Ytfbggpmdmhgpfaa
open Go.Abs
inductive Fd : Nd → List Int → Nd → Prop
  | nil (t : Nd) : Fd t [] t
  | step {k : Int} {tx : List UInt8} {c : Int} {ks : List Nd} {i : Nat} {k2 : Int} {tx2 : List UInt8} {c2 : Int} {ks2 : List Nd} {s : Nat} {z r : Nd} {p : List Int}
      (hi : ks[i]? = some (.mk k2 tx2 c2 ks2)) (hs : ks2[s]? = some z) (h : Fd z p r) : Fd (.mk k tx c ks) ((i : Int) :: (s : Int) :: p) r
theorem Fd.find {t r : Nd} {p : List Int} (h : Fd t p r) : findL t p = some r := by
  induction h with
  | nil t => rw [findL]
  | @step k tx c ks i k2 tx2 c2 ks2 s z r p hi hs _ ih =>
    have hl := (List.getElem?_eq_some_iff.1 hi).1
    have hl2 := (List.getElem?_eq_some_iff.1 hs).1
    rw [findL, if_pos ⟨by omega, show (i : Int) < (ks.length : Int) by omega⟩]
    simp only [Nd.kids, List.getD_eq_getElem?_getD, Int.toNat_natCast, hi, hs, Option.getD_some]
    rw [if_pos ⟨by omega, show (s : Int) < (ks2.length : Int) by omega⟩]
    exact ih
theorem Fd.of : ∀ (N : Nat) (p : List Int) (t r : Nd), p.length < N → findL t p = some r → Fd t p r
  | 0, p, _, _, h, _ => by omega
  | N + 1, [], t, r, _, h => by
    rw [findL] at h
    cases h
    exact .nil t
  | N + 1, [_], t, r, _, h => by
    rw [findL] at h
    cases h
  | N + 1, i :: s :: p, .mk k tx c ks, r, hN, h => by
    rw [findL] at h
    split at h
    · rename_i hi
      replace hi : 0 ≤ i ∧ i < ks.length := hi
      obtain ⟨i, rfl⟩ := Int.eq_ofNat_of_zero_le hi.1
      have hx : ks[i]? = some ks[i] := List.getElem?_eq_getElem (by omega)
      generalize ks[i] = x at hx
      obtain ⟨k2, tx2, c2, ks2⟩ := x
      simp only [Nd.kids, List.getD_eq_getElem?_getD, Int.toNat_natCast, hx, Option.getD_some] at h
      split at h
      · rename_i hs
        obtain ⟨s, rfl⟩ := Int.eq_ofNat_of_zero_le hs.1
        have hz : ks2[s]? = some ks2[s] := List.getElem?_eq_getElem (by omega)
        generalize ks2[s] = z at hz
        rw [Int.toNat_natCast, hz, Option.getD_some] at h
        exact .step hx hz (Fd.of N p z r (by simp only [List.length_cons] at hN; omega) h)
      · cases h
    · cases h
theorem fd_of {p : List Int} {t r : Nd} (h : findL t p = some r) : Fd t p r := Fd.of _ p t r (Nat.lt_succ_self _) h
theorem putL_nil' {t r : Nd} : putL t [] r = r := by cases t; rw [putL]; intros; contradiction
theorem putL_step' {k : Int} {tx : List UInt8} {c : Int} {ks : List Nd} {i : Nat} {k2 : Int} {tx2 : List UInt8} {c2 : Int} {ks2 : List Nd} {s : Nat} {z r : Nd} {p : List Int} (hi : ks[i]? = some (.mk k2 tx2 c2 ks2)) (hs : ks2[s]? = some z) :
    putL (.mk k tx c ks) ((i : Int) :: (s : Int) :: p) r = .mk k tx c (ks.set i (.mk k2 tx2 c2 (ks2.set s (putL z p r)))) := by
  rw [putL, Int.toNat_natCast, hi]
  dsimp only
  rw [Int.toNat_natCast, hs]
theorem ws_setp : ∀ {ks : List Nd} {i : Nat} {x y : Nd}, ks[i]? = some x → Nd.ws (ks.set i y) + x.w = Nd.ws ks + y.w
  | [], i, x, y, h => by simp at h
  | v :: ks, 0, x, y, h => by
    obtain rfl : v = x := by simpa using h
    simp only [List.set_cons_zero, Nd.ws]; omega
  | v :: ks, i + 1, x, y, h => by
    have := ws_setp (ks := ks) (i := i) (x := x) (y := y) (by simpa using h)
    simp only [List.set_cons_succ, Nd.ws]; omega
theorem cnts_setp : ∀ {ks : List Nd} {i : Nat} {x y : Nd}, ks[i]? = some x → Nd.cnts (ks.set i y) + x.cnt = Nd.cnts ks + y.cnt
  | [], i, x, y, h => by simp at h
  | v :: ks, 0, x, y, h => by
    obtain rfl : v = x := by simpa using h
    simp only [List.set_cons_zero, Nd.cnts]; omega
  | v :: ks, i + 1, x, y, h => by
    have := cnts_setp (ks := ks) (i := i) (x := x) (y := y) (by simpa using h)
    simp only [List.set_cons_succ, Nd.cnts]; omega
theorem Fd.w {t z : Nd} {p : List Int} (h : Fd t p z) (r : Nd) : (putL t p r).w + z.w = t.w + r.w := by
  induction h with
  | nil t => rw [putL_nil']; omega
  | @step k tx c ks i k2 tx2 c2 ks2 s z r' p hi hs _ ih =>
    rw [putL_step' hi hs]
    have h1 := ws_setp (y := .mk k2 tx2 c2 (ks2.set s (putL z p r))) hi
    have h2 := ws_setp (y := putL z p r) hs
    simp only [Nd.w] at *
    omega
theorem Fd.cnt {t z : Nd} {p : List Int} (h : Fd t p z) (r : Nd) : (putL t p r).cnt + z.cnt = t.cnt + r.cnt := by
  induction h with
  | nil t => rw [putL_nil']; omega
  | @step k tx c ks i k2 tx2 c2 ks2 s z r' p hi hs _ ih =>
    rw [putL_step' hi hs]
    have h1 := cnts_setp (y := .mk k2 tx2 c2 (ks2.set s (putL z p r))) hi
    have h2 := cnts_setp (y := putL z p r) hs
    simp only [Nd.cnt] at *
    omega
theorem set_at {α : Type} {l : List α} {i : Nat} {x y : α} (h : l[i]? = some x) : (l.set i y)[i]? = some y := by
  rw [List.getElem?_set, if_pos rfl, if_pos (List.getElem?_eq_some_iff.1 h).1]
theorem set_back {α : Type} {l : List α} {i : Nat} {x y : α} (h : l[i]? = some x) : (l.set i y).set i x = l := by
  refine List.ext_getElem? fun j => ?_
  rw [List.set_set, List.getElem?_set]
  split
  · rename_i e
    subst e
    rw [if_pos (List.getElem?_eq_some_iff.1 h).1, h]
  · rfl
theorem Fd.put {t z : Nd} {p : List Int} (h : Fd t p z) (r : Nd) : Fd (putL t p r) p r := by
  induction h with
  | nil t => rw [putL_nil']; exact .nil r
  | @step k tx c ks i k2 tx2 c2 ks2 s z r' p hi hs _ ih =>
    rw [putL_step' hi hs]
    exact .step (set_at hi) (set_at hs) ih
theorem Fd.put_put {t z : Nd} {p : List Int} (h : Fd t p z) (r q : Nd) : putL (putL t p r) p q = putL t p q := by
  induction h with
  | nil t => simp only [putL_nil']
  | @step k tx c ks i k2 tx2 c2 ks2 s z r' p hi hs _ ih =>
    rw [putL_step' hi hs, putL_step' hi hs, putL_step' (set_at hi) (set_at hs), ih]
    simp only [List.set_set]
theorem Fd.put_self {t z : Nd} {p : List Int} (h : Fd t p z) : putL t p z = t := by
  induction h with
  | nil t => rw [putL_nil']
  | @step k tx c ks i k2 tx2 c2 ks2 s z r' p hi hs _ ih =>
    rw [putL_step' hi hs, ih]
    have e1 : ks2.set s z = ks2 := by
      have := set_back (y := z) hs
      rwa [List.set_set] at this
    have e2 : ks.set i (.mk k2 tx2 c2 ks2) = ks := by
      have := set_back (y := .mk k2 tx2 c2 ks2) hi
      rwa [List.set_set] at this
    rw [e1, e2]
theorem Fd.back {t z : Nd} {p : List Int} (h : Fd t p z) (r : Nd) : putL (putL t p r) p z = t := by rw [h.put_put, h.put_self]
theorem findL_none_a {n : Nd} {i s : Int} {p : List Int} (h : ¬ (0 ≤ i ∧ i < n.kids.length)) : findL n (i :: s :: p) = none := by rw [findL, if_neg h]
theorem findL_none_b {n x : Nd} {i : Nat} {s : Int} {p : List Int} (hx : n.kids[i]? = some x) (h : ¬ (0 ≤ s ∧ s < x.kids.length)) : findL n ((i : Int) :: s :: p) = none := by
  have hl := (List.getElem?_eq_some_iff.1 hx).1
  rw [findL, if_pos ⟨by omega, by omega⟩]
  simp only [List.getD_eq_getElem?_getD, Int.toNat_natCast, hx, Option.getD_some]
  rw [if_neg h]
theorem findL_on {n x z : Nd} {i s : Nat} {p : List Int} (hx : n.kids[i]? = some x) (hz : x.kids[s]? = some z) : findL n ((i : Int) :: (s : Int) :: p) = findL z p := by
  have hl := (List.getElem?_eq_some_iff.1 hx).1
  have hl2 := (List.getElem?_eq_some_iff.1 hz).1
  rw [findL, if_pos ⟨by omega, by omega⟩]
  simp only [List.getD_eq_getElem?_getD, Int.toNat_natCast, hx, hz, Option.getD_some]
  rw [if_pos ⟨by omega, by omega⟩]
def Apart (p q : List Int) : Prop := ¬ p <+: q ∧ ¬ q <+: p
theorem Apart.symm {p q : List Int} (h : Apart p q) : Apart q p := ⟨h.2, h.1⟩
theorem Apart.tail {i s : Int} {p q : List Int} (h : Apart (i :: s :: p) (i :: s :: q)) : Apart p q :=
  ⟨fun hp => h.1 (List.cons_prefix_cons.2 ⟨rfl, List.cons_prefix_cons.2 ⟨rfl, hp⟩⟩), fun hp => h.2 (List.cons_prefix_cons.2 ⟨rfl, List.cons_prefix_cons.2 ⟨rfl, hp⟩⟩)⟩
theorem Fd.other {t z : Nd} {p : List Int} (h : Fd t p z) (r : Nd) : ∀ q, Apart p q → findL (putL t p r) q = findL t q := by
  induction h with
  | nil t => exact fun q hq => absurd (List.nil_prefix) hq.1
  | @step k tx c ks i k2 tx2 c2 ks2 s z r' p hi hs _ ih =>
    intro q hq
    rw [putL_step' hi hs]
    match q, hq with
    | [], hq => exact absurd (List.nil_prefix) hq.2
    | [_], hq => rw [findL, findL]
    | j :: u :: q, hq =>
      by_cases hj : 0 ≤ j ∧ j < (ks.length : Int)
      · obtain ⟨j, rfl⟩ := Int.eq_ofNat_of_zero_le hj.1
        by_cases hji : i = j
        · subst hji
          have hx1 : (Nd.mk k tx c (ks.set i (.mk k2 tx2 c2 (ks2.set s (putL z p r))))).kids[i]? = some (.mk k2 tx2 c2 (ks2.set s (putL z p r))) := set_at hi
          have hx2 : (Nd.mk k tx c ks).kids[i]? = some (.mk k2 tx2 c2 ks2) := hi
          by_cases hu : 0 ≤ u ∧ u < (ks2.length : Int)
          · obtain ⟨u, rfl⟩ := Int.eq_ofNat_of_zero_le hu.1
            by_cases hus : s = u
            · subst hus
              rw [findL_on hx1 (set_at hs), findL_on hx2 hs]
              exact ih q hq.tail
            · obtain ⟨y, hy⟩ : ∃ y, ks2[u]? = some y := ⟨_, List.getElem?_eq_getElem (by omega)⟩
              have hy' : (ks2.set s (putL z p r))[u]? = some y := by rw [List.getElem?_set, if_neg hus, hy]
              rw [findL_on hx1 hy', findL_on hx2 hy]
          · rw [findL_none_b hx1 (fun h => hu ⟨h.1, by simpa [Nd.kids] using h.2⟩), findL_none_b hx2 hu]
        · obtain ⟨y, hy⟩ : ∃ y, ks[j]? = some y := ⟨_, List.getElem?_eq_getElem (by omega)⟩
          have hx1 : (Nd.mk k tx c (ks.set i (.mk k2 tx2 c2 (ks2.set s (putL z p r))))).kids[j]? = some y := by
            show (ks.set i _)[j]? = some y
            rw [List.getElem?_set, if_neg hji, hy]
          have hx2 : (Nd.mk k tx c ks).kids[j]? = some y := hy
          by_cases hu : 0 ≤ u ∧ u < (y.kids.length : Int)
          · obtain ⟨u, rfl⟩ := Int.eq_ofNat_of_zero_le hu.1
            obtain ⟨v, hv⟩ : ∃ v, y.kids[u]? = some v := ⟨_, List.getElem?_eq_getElem (by omega)⟩
            rw [findL_on hx1 hv, findL_on hx2 hv]
          · rw [findL_none_b hx1 hu, findL_none_b hx2 hu]
      · rw [findL_none_a (fun h => hj ⟨h.1, by simpa [Nd.kids] using h.2⟩), findL_none_a hj]
theorem Fd.comm {t z : Nd} {p : List Int} (h : Fd t p z) (r : Nd) : ∀ (q : List Int) (y x : Nd), Apart p q → Fd t q y → putL (putL t p r) q x = putL (putL t q x) p r := by
  induction h with
  | nil t => exact fun q _ _ hq => absurd (List.nil_prefix) hq.1
  | @step k tx c ks i k2 tx2 c2 ks2 s z r' p hi hs hf ih =>
    intro q y x hq hy
    cases hy with
    | nil => exact absurd (List.nil_prefix) hq.2
    | @step _ _ _ _ j k3 tx3 c3 ks3 u v _ q hj hu hy =>
      rw [putL_step' hi hs, putL_step' hj hu]
      by_cases hji : i = j
      · subst hji
        rw [hi] at hj
        obtain ⟨rfl, rfl, rfl, rfl⟩ := Nd.mk.inj (Option.some.inj hj)
        by_cases hus : s = u
        · subst hus
          rw [hs] at hu
          obtain rfl := Option.some.inj hu
          rw [putL_step' (set_at hi) (set_at hs), putL_step' (set_at hi) (set_at hs), List.set_set, List.set_set, List.set_set, List.set_set, ih q y x hq.tail hy]
        · have hu' : (ks2.set s (putL z p r))[u]? = some v := by rw [List.getElem?_set, if_neg hus, hu]
          have hs' : (ks2.set u (putL v q x))[s]? = some z := by rw [List.getElem?_set, if_neg (Ne.symm hus), hs]
          rw [putL_step' (set_at hi) hu', putL_step' (set_at hi) hs', List.set_set, List.set_set, List.set_comm _ _ hus]
      · have hj' : (ks.set i (.mk k2 tx2 c2 (ks2.set s (putL z p r))))[j]? = some (.mk k3 tx3 c3 ks3) := by rw [List.getElem?_set, if_neg hji, hj]
        have hi' : (ks.set j (.mk k3 tx3 c3 (ks3.set u (putL v q x))))[i]? = some (.mk k2 tx2 c2 ks2) := by rw [List.getElem?_set, if_neg (Ne.symm hji), hi]
        rw [putL_step' hj' hu, putL_step' hi' hs, List.set_comm _ _ hji]
theorem Fd.other_fd {t z : Nd} {p : List Int} (h : Fd t p z) (r : Nd) {q : List Int} {y : Nd} (ha : Apart p q) (hy : Fd t q y) : Fd (putL t p r) q y :=
  fd_of ((h.other r q ha).trans hy.find)
theorem deps_mem' : ∀ {ks : List Nd} {v : Nd}, v ∈ ks → v.dep ≤ Nd.deps ks
  | u :: ks, v, h => by
    simp only [Nd.deps]
    rcases List.mem_cons.1 h with rfl | h
    · exact Nat.le_max_left _ _
    · exact Nat.le_trans (deps_mem' h) (Nat.le_max_right _ _)
theorem form_kids {k : Int} {tx : List UInt8} {c : Int} {ks : List Nd} (h : formB (.mk k tx c ks) = true) : formsB k ks = true := by
  simp only [formB, Bool.and_eq_true] at h
  exact h.2
theorem Fd.form {t z : Nd} {p : List Int} (h : Fd t p z) (hf : formB t = true) (hk : t.kind = 1) : formB z = true ∧ z.kind = 1 := by
  induction h with
  | nil t => exact ⟨hf, hk⟩
  | @step k tx c ks i k2 tx2 c2 ks2 s z r' p hi hs _ ih =>
    obtain ⟨f1, f2⟩ := forms_mem (form_kids hf) (List.mem_of_getElem? hi)
    obtain ⟨g1, g2⟩ := forms_mem (form_kids f1) (List.mem_of_getElem? hs)
    have hk : k = 1 := hk
    subst hk
    have f3 : (k2 == 1) = false := by simpa [Nd.kind] using f2
    rw [f3] at g2
    refine ih g1 ?_
    cases e : z.kind == 1 with
    | true => exact eq_of_beq e
    | false => rw [e] at g2; cases g2
theorem Fd.small {t z : Nd} {p : List Int} (h : Fd t p z) : z.cnt ≤ t.cnt ∧ z.dep ≤ t.dep ∧ z.w ≤ t.w := by
  induction h with
  | nil t => exact ⟨Nat.le_refl _, Nat.le_refl _, Nat.le_refl _⟩
  | @step k tx c ks i k2 tx2 c2 ks2 s z r' p hi hs _ ih =>
    have m1 := Nd.w_mem (List.mem_of_getElem? hi)
    have m2 := Nd.w_mem (List.mem_of_getElem? hs)
    have n1 := Nd.cnts_mem (List.mem_of_getElem? hi)
    have n2 := Nd.cnts_mem (List.mem_of_getElem? hs)
    have d1 := deps_mem' (List.mem_of_getElem? hi)
    have d2 := deps_mem' (List.mem_of_getElem? hs)
    simp only [Nd.w, Nd.cnt, Nd.dep] at *
    omega
theorem Fd.valid {t z : Nd} {p : List Int} (h : Fd t p z) (hv : validB t = true) : validB z = true := by
  unfold validB at hv ⊢
  simp only [Bool.and_eq_true, decide_eq_true_eq] at hv ⊢
  obtain ⟨h1, h2, h3, h4⟩ := hv
  obtain ⟨f1, f2⟩ := h.form h2 (eq_of_beq h1)
  obtain ⟨s1, s2, _⟩ := h.small
  exact ⟨by rw [f2]; rfl, f1, by omega, by omega⟩
end Go.Proofs.Ytfbggpmdmhgpfaa
namespace Go.Proofs.Ytfbggpmdmhgpfaa
open Go.Abs
theorem at_some {α : Type} {l : List α} {i : Nat} {x : α} (h : l[i]? = some x) : at? l (i : Int) = some x := by
  have hl := (List.getElem?_eq_some_iff.1 h).1
  rw [at_get hl, ← List.getElem?_eq_getElem hl, h]
theorem r09_Replaced_eq {k : Int} {tx : List UInt8} {c : Int} {ks : List Nd} {i : Nat} {x y : Nd} (hi : ks[i]? = some y) (hl : ks.length ≤ 4294967296) : m_r09_Replaced (.mk k tx c ks) (i : Int) x = some (.mk k tx c (ks.set i x)) := by
  obtain ⟨x1, x2, x3, x4⟩ := x
  obtain ⟨y1, y2, y3, y4⟩ := y
  unfold m_r09_Replaced
  dsimp only
  rw [req_t (by simpa using hl), at_some hi]
  simp only [Option.bind_some, Int.toNat_natCast]
def withS (t : Nd) (p : List Int) (r : Nd) : Nd × Int := if validB t = true then (match findL t p with
  | some _ => if validB r = true then (if validB (putL t p r) = true then (putL t p r, 0) else (zeroNd, 6)) else (zeroNd, 4)
  | none => (zeroNd, 8)) else (zeroNd, 1)
theorem node_With_eq (n : Nat) (t : Nd) (p : List Int) (r : Nd) (hv : m_node_Valid n t = some (validB t)) (hr : m_node_Valid n r = some (validB r)) (hp : ∀ z, Fd t p z → m_node_Valid n (putL t p r) = some (validB (putL t p r))) (hc : t.cnt ≤ 1000000000) (hcr : r.cnt ≤ 1000000000) :
    m_node_With n t p r = some (withS t p r) := by
  unfold m_node_With withS
  rw [hv, deep_eq hc, hr, deep_eq hcr]
  simp only [Option.bind_some]
  split
  · cases hf : findL t p with
    | none => rfl
    | some z =>
      dsimp only
      rw [hp z (fd_of hf)]
      simp only [Option.bind_some]
      split
      · split <;> rfl
      · rfl
  · rfl
theorem withS_at {t z r : Nd} {p : List Int} (hv : validB t = true) (h : findL t p = some z) (hr : validB r = true) (hp : validB (putL t p r) = true) : withS t p r = (putL t p r, 0) := by unfold withS; rw [if_pos hv, h]; dsimp only; rw [if_pos hr, if_pos hp]
end Go.Proofs.Ytfbggpmdmhgpfaa
namespace Go.Proofs.Ytfbggpmdmhgpfaa
open Go.Abs
abbrev Op8 := Int × List Int × Int × Int × List Nd × Int × List UInt8 × List UInt8
def Op8.nodes (o : Op8) : List Nd := o.2.2.2.2.1
end Go.Proofs.Ytfbggpmdmhgpfaa
namespace Go.Proofs.Ytfbggpmdmhgpfaa
open Go.Abs
theorem take3 {α : Type} (l : List α) {p q : Nat} (h : p ≤ q) : (l.take p ++ (l.take q).drop p) ++ l.drop q = l := by
  have : l.take p = (l.take q).take p := by rw [List.take_take, Nat.min_eq_left h]
  rw [this, List.take_append_drop, List.take_append_drop]
theorem ws_splice (l by' : List Nd) {p q : Nat} (h : p ≤ q) : Nd.ws ((l.take p ++ by') ++ l.drop q) + Nd.ws ((l.take q).drop p) = Nd.ws l + Nd.ws by' := by
  have := congrArg Nd.ws (take3 l h)
  rw [Nd.ws_append, Nd.ws_append] at this ⊢
  omega
theorem splice_eq (l by' : List Nd) (p q : Nat) (hp : p ≤ l.length) (hq : q ≤ l.length) (hl : l.length ≤ 1073741824) (hb : by'.length ≤ 1073741824) :
    m_r12_splice l (p : Int) (q : Int) by' = some ((l.take p ++ by') ++ l.drop q) := by
  unfold m_r12_splice
  dsimp only
  have e1 : (l.take (p : Int).toNat).drop (0 : Int).toNat = l.take p := by simp
  have e2 : (l.take (l.length : Int).toNat).drop (q : Int).toNat = l.drop q := by simp
  rw [e1, e2, req_t ⟨by omega, by omega, by omega⟩, req_t (by simp; omega), req_t (by simp; omega), req_t ⟨by omega, by omega, by omega⟩, req_t (by simp; omega)]
theorem Replaced_eq (t : Nd) (i : Nat) (v : Nd) (h : i < t.kids.length) (hl : t.kids.length ≤ 1073741824) : m_r09_Replaced t (i : Int) v = some (.mk t.kind t.text t.cols (t.kids.set i v)) := by
  obtain ⟨a, b, c, d⟩ := t
  obtain ⟨a', b', c', d'⟩ := v
  simp only [Nd.kids] at h hl
  unfold m_r09_Replaced
  simp only
  rw [req_t (by simp; omega), at_get h]
  rcases e : d[i] with ⟨x1, x2, x3, x4⟩
  simp only [Option.bind_some, Int.toNat_natCast, Nd.kind, Nd.text, Nd.cols, Nd.kids]
theorem filled_eq (t : Nd) (i : Nat) (l : List Nd) (h : i < t.kids.length) (hl : t.kids.length ≤ 1073741824) (hl2 : l.length ≤ 1073741824) : m_r12_filled t (i : Int) l = some (.mk t.kind t.text t.cols (t.kids.set i (.mk 1 [] 0 l))) := by
  have := Replaced_eq t i (.mk 1 [] 0 l) h hl
  obtain ⟨a, b, c, d⟩ := t
  unfold m_r12_filled
  simp only [m_r09_ToRow, Option.bind_some]
  rw [req_t (by simp; omega), this]
  rfl
theorem at_int {α : Type} {l : List α} {i : Int} (h0 : 0 ≤ i) (h1 : i < (l.length : Int)) : ∃ p : Nat, i = (p : Int) ∧ ∃ h : p < l.length, at? l i = some l[p] := by
  obtain ⟨p, rfl⟩ := Int.eq_ofNat_of_zero_le h0
  exact ⟨p, rfl, by omega, at_get (by omega)⟩
theorem w_kids (t : Nd) : t.w = t.text.length + Nd.ws t.kids + 1 := by cases t; rfl
end Go.Proofs.Ytfbggpmdmhgpfaa
namespace Go.Proofs.Ytfbggpmdmhgpfaa
open Go.Abs
theorem seg_ws (l : List Nd) {p q : Nat} (h : p ≤ q) : Nd.ws ((l.take q).drop p) ≤ Nd.ws l := by
  have := ws_splice l [] h
  simp only [Nd.ws] at this; omega
theorem seg_one (l : List Nd) {p : Nat} (h : p < l.length) : (l.take (p + 1)).drop p = [l[p]] := by
  rw [List.take_succ_eq_append_getElem h, List.drop_append_of_le_length (by simp; omega), List.drop_take]
  simp
end Go.Proofs.Ytfbggpmdmhgpfaa
