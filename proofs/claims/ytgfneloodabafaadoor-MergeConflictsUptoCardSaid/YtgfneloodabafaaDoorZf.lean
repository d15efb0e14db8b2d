/-
  Joined out of: MgVC, MgVD, PTyp9.
-/
import Derived.Test.YtgfneloodabafaaDoorZe
set_option linter.unusedVariables false
set_option linter.unusedSimpArgs false
namespace Go.Proofs.YtgfneloodabafaaDoor
open Go.Abs
def R_merge_partners (n : Nat) (xs : List AV) (r : Ret) : Prop := ∃ (a0 : List Nd) (a1 : List Nd) (y0 : List Int), m_merge_partners n a0 a1 = some y0 ∧ xs = [.s (.sl 4 (Nd.encs a0)), .s (.sl 4 (Nd.encs a1))] ∧ r = .row 3 1 ((List.map (irow .i64)) y0)
def S_merge_partners : PSpec := pspec fun xs r => ∃ n, R_merge_partners n xs r
set_option maxHeartbeats 2000000 in
set_option maxRecDepth 100000 in
theorem ok_merge_partners : PSound Tryd.prog 41 S_merge_partners := by
  have gok : ∀ f s, look? f [(56, S_diff_Align)] = some s → PSound Tryd.prog f s := look_all (by
    simp only [List.forall_mem_cons]
    exact ⟨ok_diff_Align, by simp⟩)
  refine psound tokW Tryd.call41 Tryd.func41 rfl (fun xs r h => by obtain ⟨n, _, _, _, _, rfl, _⟩ := h; show 2 ≤ 45; decide) 45 rfl ?_
  rintro xs r w0 G0 ⟨n, base1, other2, y0, h, rfl, rfl⟩ _
  rw [m_merge_partners] at h
  refine tri_seq ?_
  refine tri_region (by exact tokW) (by exact gok) [4] [] rfl ?_
  show Tri _ _ _ _
  refine tri_le (Le.rename [] [(0, .s (.sl 4 (Nd.encs base1))), (1, .s (.sl 4 (Nd.encs other2)))] [] 0 ⟨rfl, rfl, trivial⟩ trivial rfl rfl rfl rfl rfl) ?_
  refine tri_seq ?_
  refine tri_region (by exact tokW) (by exact gok) [] [] rfl ?_
  obtain ⟨⟨y3, y4⟩, hy3, h⟩ := bind_out h
  refine ⟨_, ⟨_, _, _, _, _, hy3, rfl, rfl⟩, ?_⟩
  show Tri _ _ _ _
  refine tri_seq ?_
  refine tri_region (by exact tokW) (by exact gok) [21] [20] rfl ?_
  intro n5 hn5
  obtain rfl : (base1.length : Int) = n5 := (hn5.trans (congrArg (fun m : Nat => (m : Int)) (rlen Nd.encs_eq base1))).symm
  obtain ⟨hq, h⟩ := req_out h
  refine And.intro (show 0 ≤ (base1.length : Int) ∧ (base1.length : Int) ≤ (base1.length : Int) ∧ (base1.length : Int) * ((8 : Nat) : Int) ≤ 281474976710656 ∧ (base1.length : Int) ≤ 281474976710656 from ⟨hq.1, Int.le_refl _, by have h1 := hq.1; have h2 := hq.2; omega, by have h2 := hq.2; omega⟩) ?_
  show Tri _ _ _ _
  refine tri_le (Le.rename [(0, 0)] [(5, .s (.sl 2 ((List.map enc_2_int) y3))), (7, .orow 0)] [(0, .row 3 1 ((List.map (irow .i64)) (List.replicate (base1.length : Int).toNat 0)))] 1 ⟨rfl, rfl, trivial⟩ ⟨rfl, ⟨_, rfl, congrArg (Ob.row 3 1) (by simp [List.map_append, List.map_take, List.map_drop, irow, brow, b8of_row, List.map_cons, List.map_nil, b8of_wrap, Nd.encs_eq, Nd.enc, enc_13_node_kind, enc_node_checker, enc_node_inner, enc_diff_grid, enc_s_int, enc_node_open, enc_2_int])⟩, trivial⟩ rfl rfl rfl rfl rfl) ?_
  refine tri_seq ?_
  refine tri_seq ?_
  refine tri_region (by exact tokW) (by exact gok) [] [23] rfl ?_
  intro n6 hn6
  obtain rfl : ((List.replicate (base1.length : Int).toNat 0 : List Int).length : Int) = n6 := (hn6.trans (congrArg (fun m : Nat => (m : Int)) (rlen (fun _ => rfl) (List.replicate (base1.length : Int).toNat 0 : List Int)))).symm
  show Tri _ _ _ _
  obtain ⟨l9, hl, h⟩ := bind_out h
  refine tri_post ⟨ofL [(5, .s (.sl 2 ((List.map enc_2_int) y3))), (7, .orow 0)], ofH [(0, .row 3 1 ((List.map (irow .i64)) l9))], 1⟩ ?_ (fun σ' hle => ?_)
  · refine tri_block (tri_loopI (X := Nat × Int × (List Int)) (fun y => match y with | (k, x7, l8) => ⟨ofL [(5, .s (.sl 2 ((List.map enc_2_int) y3))), (7, .orow 0), (23, .s (.int .i64 ((List.replicate (base1.length : Int).toNat 0 : List Int).length : Int))), (24, .s (.int .i64 x7))], ofH [(0, .row 3 1 ((List.map (irow .i64)) l8))], 1⟩) (fun y => m_merge_partners_l1 base1 y.1 y.2.1 y.2.2 = some l9) (fun y => y.1) (n, 0, List.replicate (base1.length : Int).toNat 0) hl ?_ ?_)
    · exact (Le.rename [(0, 0)] _ _ _ ⟨rfl, rfl, rfl, rfl, trivial⟩ ⟨rfl, ⟨_, rfl, rfl⟩, trivial⟩ rfl rfl rfl rfl rfl)
    · rintro ⟨k, x7, l8⟩ h
      cases k with
      | zero => cases h
      | succ k =>
        replace h : m_merge_partners_l1 base1 (k+1) x7 l8 = some l9 := h
        rw [m_merge_partners_l1] at h
        refine tri_seq ?_
        refine tri_region (by exact tokW) (by exact gok) [] [] rfl ?_
        show Tri _ _ _ _
        refine tri_seq ?_
        refine tri_cond rfl (fun hb => ?_) (fun hb => ?_)
        · replace h := bif_t hb h
          refine tri_skip ?_
          show Tri _ _ _ _
          refine tri_seq ?_
          refine tri_block ?_
          refine tri_seq ?_
          refine tri_region (by exact tokW) (by exact gok) [] [] rfl ?_
          show Tri _ _ _ _
          refine tri_region (by exact tokW) (by exact gok) [] [] rfl ?_
          obtain ⟨e10, he10, h⟩ := bind_out h
          refine And.intro (at_ok (fun _ => rfl) he10).1 ?_
          have hset11 := (rset (R := (List.map (irow .i64))) (f := (irow .i64)) (fun _ => rfl) he10 (-1) 0 1 [.int .i64 (-1)] rfl)
          have hat11 := at_set he10 (-1)
          refine And.intro (at_ok (fun _ => rfl) he10).2.2 ?_
          show Tri _ _ _ _
          refine tri_le (Le.rename [(0, 0)] [(5, .s (.sl 2 ((List.map enc_2_int) y3))), (7, .orow 0), (23, .s (.int .i64 ((List.replicate (base1.length : Int).toNat 0 : List Int).length : Int))), (24, .s (.int .i64 x7))] [(0, .row 3 1 ((List.map (irow .i64)) (l8.set x7.toNat (-1))))] 1 ⟨rfl, rfl, rfl, rfl, trivial⟩ ⟨rfl, ⟨_, rfl, congrArg (Ob.row 3 1) hset11⟩, trivial⟩ rfl rfl rfl rfl rfl) ?_
          refine tri_region (by exact tokW) (by exact gok) [] [] rfl ?_
          refine ⟨(k, IntKind.i64.wrap (x7 + 1), l8.set x7.toNat (-1)), h, (Le.rename [(0, 0)] _ _ _ ⟨rfl, rfl, rfl, rfl, trivial⟩ ⟨rfl, ⟨_, rfl, rfl⟩, trivial⟩ rfl rfl rfl rfl rfl), Nat.lt_succ_self k⟩
        · replace h := bif_f hb h
          refine tri_exit ?_
          cases h
          exact (Le.rename [(0, 0)] _ _ _ ⟨rfl, rfl, trivial⟩ ⟨rfl, ⟨_, rfl, rfl⟩, trivial⟩ rfl rfl rfl rfl rfl)
  · show Tri _ _ _ _
    refine tri_le hle ?_
    refine tri_seq ?_
    refine tri_seq ?_
    refine tri_region (by exact tokW) (by exact gok) [] [32] rfl ?_
    intro n12 hn12
    obtain rfl : (y3.length : Int) = n12 := (hn12.trans (congrArg (fun m : Nat => (m : Int)) (rlen (fun _ => rfl) y3))).symm
    show Tri _ _ _ _
    obtain ⟨l15, hl, h⟩ := bind_out h
    refine tri_post ⟨ofL [(7, .orow 0)], ofH [(0, .row 3 1 ((List.map (irow .i64)) l15))], 1⟩ ?_ (fun σ' hle => ?_)
    · refine tri_block (tri_loopI (X := Nat × Int × (List Int)) (fun y => match y with | (k, x13, l14) => ⟨ofL [(7, .orow 0), (31, .s (.sl 2 ((List.map enc_2_int) y3))), (32, .s (.int .i64 (y3.length : Int))), (33, .s (.int .i64 x13))], ofH [(0, .row 3 1 ((List.map (irow .i64)) l14))], 1⟩) (fun y => m_merge_partners_l2 y3 y.1 y.2.1 y.2.2 = some l15) (fun y => y.1) (n, 0, l9) hl ?_ ?_)
      · exact (Le.rename [(0, 0)] _ _ _ ⟨rfl, rfl, rfl, rfl, trivial⟩ ⟨rfl, ⟨_, rfl, rfl⟩, trivial⟩ rfl rfl rfl rfl rfl)
      · rintro ⟨k, x13, l14⟩ h
        cases k with
        | zero => cases h
        | succ k =>
          replace h : m_merge_partners_l2 y3 (k+1) x13 l14 = some l15 := h
          rw [m_merge_partners_l2] at h
          refine tri_seq ?_
          refine tri_region (by exact tokW) (by exact gok) [] [] rfl ?_
          show Tri _ _ _ _
          refine tri_seq ?_
          refine tri_cond rfl (fun hb => ?_) (fun hb => ?_)
          · replace h := bif_t hb h
            refine tri_skip ?_
            show Tri _ _ _ _
            refine tri_seq ?_
            refine tri_block ?_
            refine tri_seq ?_
            refine tri_region (by exact tokW) (by exact gok) [10] [35] rfl ?_
            obtain ⟨⟨e16_0, e16_1⟩, he16, h⟩ := bind_out h
            refine And.intro (at_ok (fun _ => rfl) he16).1 ?_
            intro r17 hr17
            obtain rfl : [.int .i64 e16_0, .int .i64 e16_1] = r17 := (hr17.trans (at_ok (fun _ => rfl) he16).2.1).symm
            show Tri _ _ _ _
            refine tri_le (Le.giveBox 1 [.int .i64 e16_0, .int .i64 e16_1] rfl rfl) ?_
            refine tri_region (by exact tokW) (by exact gok) [] [] rfl ?_
            refine And.intro (by decide) ?_
            refine And.intro (by decide) ?_
            obtain ⟨e18, he18, h⟩ := bind_out h
            refine And.intro (at_ok (fun _ => rfl) he18).1 ?_
            have hset19 := (rset (R := (List.map (irow .i64))) (f := (irow .i64)) (fun _ => rfl) he18 e16_1 0 1 [.int .i64 e16_1] rfl)
            have hat19 := at_set he18 e16_1
            refine And.intro (at_ok (fun _ => rfl) he18).2.2 ?_
            show Tri _ _ _ _
            refine tri_le (Le.rename [(0, 0)] [(7, .orow 0), (31, .s (.sl 2 ((List.map enc_2_int) y3))), (32, .s (.int .i64 (y3.length : Int))), (33, .s (.int .i64 x13))] [(0, .row 3 1 ((List.map (irow .i64)) (l14.set e16_0.toNat e16_1)))] 1 ⟨rfl, rfl, rfl, rfl, trivial⟩ ⟨rfl, ⟨_, rfl, congrArg (Ob.row 3 1) hset19⟩, trivial⟩ rfl rfl rfl rfl rfl) ?_
            refine tri_region (by exact tokW) (by exact gok) [] [] rfl ?_
            refine ⟨(k, IntKind.i64.wrap (x13 + 1), l14.set e16_0.toNat e16_1), h, (Le.rename [(0, 0)] _ _ _ ⟨rfl, rfl, rfl, rfl, trivial⟩ ⟨rfl, ⟨_, rfl, rfl⟩, trivial⟩ rfl rfl rfl rfl rfl), Nat.lt_succ_self k⟩
          · replace h := bif_f hb h
            refine tri_exit ?_
            cases h
            exact (Le.rename [(0, 0)] _ _ _ ⟨rfl, trivial⟩ ⟨rfl, ⟨_, rfl, rfl⟩, trivial⟩ rfl rfl rfl rfl rfl)
    · show Tri _ _ _ _
      refine tri_le hle ?_
      refine tri_seq ?_
      refine tri_region (by exact tokW) (by exact gok) [] [] rfl ?_
      show Tri _ _ _ _
      refine tri_ret ?_
      have hy := Option.some.inj h
      subst hy
      unfold Gives
      exact ⟨_, Le.refl _ _, 0, rfl, rfl⟩
def R_node_Equal (n : Nat) (xs : List AV) (r : Ret) : Prop := ∃ (a0 : Nd) (a1 : Nd) (y0 : Bool), m_node_Equal n a0 a1 = some y0 ∧ xs = [.agg ((Nd.enc a0).map .s), .agg ((Nd.enc a1).map .s)] ∧ r = .val (.s (.bool y0))
def R_slices_EqualFunc_sNode (n : Nat) (xs : List AV) (r : Ret) : Prop := ∃ (a0 : List Nd) (a1 : List Nd) (y0 : Bool), m_slices_EqualFunc_sNode n a0 a1 = some y0 ∧ xs = [.s (.sl 4 (Nd.encs a0)), .s (.sl 4 (Nd.encs a1)), .s (.fn 71)] ∧ r = .val (.s (.bool y0))
set_option maxHeartbeats 2000000 in
set_option maxRecDepth 100000 in
theorem step_node_Equal (n : Nat) (ih_node_Equal : PSound Tryd.prog 71 (pspec (R_node_Equal n))) (ih_slices_EqualFunc_sNode : PSound Tryd.prog 70 (pspec (R_slices_EqualFunc_sNode n))) : PSound Tryd.prog 71 (pspec (R_node_Equal (n + 1))) := by
  have gok : ∀ f s, look? f [(70, pspec (R_slices_EqualFunc_sNode n))] = some s → PSound Tryd.prog f s := look_all (by
    simp only [List.forall_mem_cons]
    exact ⟨ih_slices_EqualFunc_sNode, by simp⟩)
  refine psound tokW Tryd.call71 Tryd.func71 rfl (fun xs r h => by obtain ⟨_, _, _, _, rfl, _⟩ := h; show 2 ≤ 31; decide) 31 rfl ?_
  rintro xs r w0 G0 ⟨⟨a1_kind, a1_text, a1_cols, a1_kids⟩, ⟨b2_kind, b2_text, b2_cols, b2_kids⟩, y0, h, rfl, rfl⟩ _
  rw [m_node_Equal] at h
  refine tri_seq ?_
  refine tri_region (by exact tokW) (by exact gok) [] [] rfl ?_
  show Tri _ _ _ _
  refine tri_seq ?_
  obtain ⟨x3, hj, h⟩ := bind_out h
  refine tri_post ⟨ofL [(4, .s (.bool x3))], fun _ => none, 0⟩ ?_ (fun σ' hle => ?_)
  · replace h := hj
    refine tri_region (by exact tokW) (by exact gok) [] [10, 17, 24] rfl ?_
    intro b hb
    cases b with
    | true =>
      replace h := bif_t hb.symm h
      intro b hb
      cases b with
      | true =>
        replace h := bif_t hb.symm h
        intro b hb
        cases b with
        | true =>
          replace h := bif_t hb.symm h
          obtain ⟨y4, hy4, h⟩ := bind_out h
          refine ⟨_, ⟨_, _, _, hy4, rfl, rfl⟩, ?_⟩
          cases h
          exact (Le.forget _ ⟨rfl, trivial⟩)
        | false =>
          replace h := bif_f hb.symm h
          cases h
          exact (Le.forget _ ⟨rfl, trivial⟩)
      | false =>
        replace h := bif_f hb.symm h
        intro b hb
        subst hb
        cases h
        exact (Le.forget _ ⟨rfl, trivial⟩)
    | false =>
      replace h := bif_f hb.symm h
      intro b hb
      subst hb
      intro b hb
      subst hb
      cases h
      exact (Le.forget _ ⟨rfl, trivial⟩)
  · show Tri _ _ _ _
    refine tri_le hle ?_
    refine tri_ret ?_
    have hy := Option.some.inj h
    subst hy
    unfold Gives
    exact ⟨_, Le.refl _ _, rfl, rfl⟩
set_option maxHeartbeats 2000000 in
set_option maxRecDepth 100000 in
theorem step_slices_EqualFunc_sNode (n : Nat) (ih_node_Equal : PSound Tryd.prog 71 (pspec (R_node_Equal n))) (ih_slices_EqualFunc_sNode : PSound Tryd.prog 70 (pspec (R_slices_EqualFunc_sNode n))) : PSound Tryd.prog 70 (pspec (R_slices_EqualFunc_sNode (n + 1))) := by
  have gok : ∀ f s, look? f [(71, pspec (R_node_Equal n))] = some s → PSound Tryd.prog f s := look_all (by
    simp only [List.forall_mem_cons]
    exact ⟨ih_node_Equal, by simp⟩)
  refine psound tokW Tryd.call70 Tryd.func70 rfl (fun xs r h => by obtain ⟨_, _, _, _, rfl, _⟩ := h; show 3 ≤ 32; decide) 32 rfl ?_
  rintro xs r w0 G0 ⟨s11, s22, y0, h, rfl, rfl⟩ _
  rw [m_slices_EqualFunc_sNode] at h
  refine tri_seq ?_
  refine tri_region (by exact tokW) (by exact gok) [] [] rfl ?_
  show Tri _ _ _ _
  refine tri_seq ?_
  refine tri_seq ?_
  refine tri_region (by exact tokW) (by exact gok) [] [11, 13] rfl ?_
  intro n3 hn3
  obtain rfl : (s11.length : Int) = n3 := (hn3.trans (congrArg (fun m : Nat => (m : Int)) (rlen Nd.encs_eq s11))).symm
  intro n4 hn4
  obtain rfl : (s22.length : Int) = n4 := (hn4.trans (congrArg (fun m : Nat => (m : Int)) (rlen Nd.encs_eq s22))).symm
  show Tri _ _ _ _
  refine tri_cond rfl (fun hb => ?_) (fun hb => ?_)
  · replace h := bif_t hb h
    refine tri_seq ?_
    refine tri_region (by exact tokW) (by exact gok) [] [] rfl ?_
    show Tri _ _ _ _
    refine tri_ret ?_
    have hy := Option.some.inj h
    subst hy
    unfold Gives
    exact ⟨_, Le.refl _ _, rfl, rfl⟩
  · replace h := bif_f hb h
    refine tri_skip ?_
    show Tri _ _ _ _
    refine tri_seq ?_
    refine tri_seq ?_
    refine tri_region (by exact tokW) (by exact gok) [] [16] rfl ?_
    intro n5 hn5
    obtain rfl : (s11.length : Int) = n5 := (hn5.trans (congrArg (fun m : Nat => (m : Int)) (rlen Nd.encs_eq s11))).symm
    show Tri _ _ _ _
    obtain ⟨fl, hl, ho1⟩ := bind_out h
    refine tri_fl (fl := fl) (fun z => match z with | _ => ⟨ofL [], fun _ => none, 0⟩) ?_ (fun z σ' hz hle => ?_)
    · refine tri_block (tri_loopI (X := Nat × Int) (fun y => match y with | (k, x6) => ⟨ofL [(1, .s (.sl 4 (Nd.encs s22))), (2, .s (.fn 71)), (15, .s (.sl 4 (Nd.encs s11))), (16, .s (.int .i64 (s11.length : Int))), (17, .s (.int .i64 x6))], fun _ => none, 0⟩) (fun y => m_slices_EqualFunc_sNode_l1 (m_node_Equal n) s11 s22 y.1 y.2 = some fl) (fun y => y.1) (n, 0) hl ?_ ?_)
      · exact (Le.forget _ ⟨rfl, rfl, rfl, rfl, rfl, trivial⟩)
      · rintro ⟨k, x6⟩ h
        cases k with
        | zero => cases h
        | succ k =>
          replace h : m_slices_EqualFunc_sNode_l1 (m_node_Equal n) s11 s22 (k+1) x6 = some fl := h
          rw [m_slices_EqualFunc_sNode_l1] at h
          refine tri_seq ?_
          refine tri_region (by exact tokW) (by exact gok) [] [] rfl ?_
          show Tri _ _ _ _
          refine tri_seq ?_
          refine tri_cond rfl (fun hb => ?_) (fun hb => ?_)
          · replace h := bif_t hb h
            refine tri_skip ?_
            show Tri _ _ _ _
            refine tri_seq ?_
            refine tri_block ?_
            refine tri_seq ?_
            refine tri_region (by exact tokW) (by exact gok) [8] [20] rfl ?_
            obtain ⟨⟨e7_kind, e7_text, e7_cols, e7_kids⟩, he7, h⟩ := bind_out h
            refine And.intro (at_ok Nd.encs_eq he7).1 ?_
            intro r8 hr8
            obtain rfl : [.int .i64 e7_kind, .str e7_text, .int .i64 e7_cols, .sl 4 (Nd.encs e7_kids)] = r8 := (hr8.trans (at_ok Nd.encs_eq he7).2.1).symm
            show Tri _ _ _ _
            refine tri_le (Le.giveBox 0 [.int .i64 e7_kind, .str e7_text, .int .i64 e7_cols, .sl 4 (Nd.encs e7_kids)] rfl rfl) ?_
            refine tri_seq ?_
            refine tri_region (by exact tokW) (by exact gok) [9] [24] rfl ?_
            obtain ⟨⟨e9_kind, e9_text, e9_cols, e9_kids⟩, he9, h⟩ := bind_out h
            refine And.intro (at_ok Nd.encs_eq he9).1 ?_
            intro r10 hr10
            obtain rfl : [.int .i64 e9_kind, .str e9_text, .int .i64 e9_cols, .sl 4 (Nd.encs e9_kids)] = r10 := (hr10.trans (at_ok Nd.encs_eq he9).2.1).symm
            show Tri _ _ _ _
            refine tri_le (Le.giveBox 1 [.int .i64 e9_kind, .str e9_text, .int .i64 e9_cols, .sl 4 (Nd.encs e9_kids)] rfl rfl) ?_
            refine tri_seq ?_
            refine tri_region (by exact tokW) (by exact gok) [] [] rfl ?_
            obtain ⟨y11, hy11, h⟩ := bind_out h
            refine ⟨_, ⟨_, _, _, hy11, rfl, rfl⟩, ?_⟩
            show Tri _ _ _ _
            refine tri_cond rfl (fun hb => ?_) (fun hb => ?_)
            · replace h := bif_t hb h
              refine tri_seq ?_
              refine tri_region (by exact tokW) (by exact gok) [] [] rfl ?_
              show Tri _ _ _ _
              refine tri_ret ?_
              cases h
              replace h : some _ = some _ := ho1
              have hy := Option.some.inj h
              subst hy
              unfold Gives
              exact ⟨_, Le.refl _ _, rfl, rfl⟩
            · replace h := bif_f hb h
              refine tri_skip ?_
              show Tri _ _ _ _
              refine tri_region (by exact tokW) (by exact gok) [] [] rfl ?_
              refine ⟨(k, IntKind.i64.wrap (x6 + 1)), h, (Le.rename [] _ [] 0 ⟨rfl, rfl, rfl, rfl, rfl, trivial⟩ trivial rfl rfl rfl rfl rfl), Nat.lt_succ_self k⟩
          · replace h := bif_f hb h
            refine tri_exit ?_
            cases h
            exact ⟨_, rfl, (Le.forget _ trivial)⟩
    · subst hz
      obtain _ := z
      replace h := ho1
      show Tri _ _ _ _
      refine tri_le hle ?_
      refine tri_seq ?_
      refine tri_region (by exact tokW) (by exact gok) [] [] rfl ?_
      show Tri _ _ _ _
      refine tri_ret ?_
      have hy := Option.some.inj h
      subst hy
      unfold Gives
      exact ⟨_, Le.refl _ _, rfl, rfl⟩
theorem alls_node_Equal : ∀ n, PSound Tryd.prog 71 (pspec (R_node_Equal n)) ∧ PSound Tryd.prog 70 (pspec (R_slices_EqualFunc_sNode n)) := by
  intro n
  induction n with
  | zero =>
    refine ⟨?_, ?_⟩
    · exact psound_none Tryd.call71 (fun xs r h => by obtain ⟨_, _, _, h, _⟩ := h; rw [m_node_Equal] at h; cases h)
    · exact psound_none Tryd.call70 (fun xs r h => by obtain ⟨_, _, _, h, _⟩ := h; rw [m_slices_EqualFunc_sNode] at h; cases h)
  | succ n ih =>
    obtain ⟨ih_node_Equal, ih_slices_EqualFunc_sNode⟩ := ih
    exact ⟨step_node_Equal n ih_node_Equal ih_slices_EqualFunc_sNode, step_slices_EqualFunc_sNode n ih_node_Equal ih_slices_EqualFunc_sNode⟩
def S_slices_EqualFunc_sNode : PSpec := pspec fun xs r => ∃ n, R_slices_EqualFunc_sNode n xs r
theorem ok_slices_EqualFunc_sNode : PSound Tryd.prog 70 S_slices_EqualFunc_sNode := psound_all (fun n => (alls_node_Equal n).2)
def R_merge_same (n : Nat) (xs : List AV) (r : Ret) : Prop := ∃ (a0 : List Nd) (a1 : List Nd) (y0 : Bool), m_merge_same n a0 a1 = some y0 ∧ xs = [.s (.sl 4 (Nd.encs a0)), .s (.sl 4 (Nd.encs a1))] ∧ r = .val (.s (.bool y0))
def S_merge_same : PSpec := pspec fun xs r => ∃ n, R_merge_same n xs r
set_option maxHeartbeats 2000000 in
set_option maxRecDepth 100000 in
theorem ok_merge_same : PSound Tryd.prog 57 S_merge_same := by
  have gok : ∀ f s, look? f [(70, S_slices_EqualFunc_sNode)] = some s → PSound Tryd.prog f s := look_all (by
    simp only [List.forall_mem_cons]
    exact ⟨ok_slices_EqualFunc_sNode, by simp⟩)
  refine psound tokW Tryd.call57 Tryd.func57 rfl (fun xs r h => by obtain ⟨n, _, _, _, _, rfl, _⟩ := h; show 2 ≤ 8; decide) 8 rfl ?_
  rintro xs r w0 G0 ⟨n, a1, b2, y0, h, rfl, rfl⟩ _
  rw [m_merge_same] at h
  refine tri_seq ?_
  refine tri_region (by exact tokW) (by exact gok) [] [] rfl ?_
  show Tri _ _ _ _
  refine tri_seq ?_
  refine tri_region (by exact tokW) (by exact gok) [] [] rfl ?_
  obtain ⟨y3, hy3, h⟩ := bind_out h
  refine ⟨_, ⟨_, _, _, _, hy3, rfl, rfl⟩, ?_⟩
  show Tri _ _ _ _
  refine tri_ret ?_
  have hy := Option.some.inj h
  subst hy
  unfold Gives
  exact ⟨_, Le.refl _ _, rfl, rfl⟩
def R_deep_Nodes (n : Nat) (xs : List AV) (r : Ret) : Prop := ∃ (a0 : List Nd) (y0 : List Nd), m_deep_Nodes n a0 = some y0 ∧ xs = [.s (.sl 4 (Nd.encs a0))] ∧ r = .row 24 4 (Nd.encs y0)
def S_deep_Nodes : PSpec := pspec fun xs r => ∃ n, R_deep_Nodes n xs r
set_option maxHeartbeats 2000000 in
set_option maxRecDepth 100000 in
theorem ok_deep_Nodes : PSound Tryd.prog 58 S_deep_Nodes := by
  have gok : ∀ f s, look? f [(72, S_deep_Node)] = some s → PSound Tryd.prog f s := look_all (by
    simp only [List.forall_mem_cons]
    exact ⟨ok_deep_Node, by simp⟩)
  refine psound tokW Tryd.call58 Tryd.func58 rfl (fun xs r h => by obtain ⟨n, _, _, _, rfl, _⟩ := h; show 1 ≤ 20; decide) 20 rfl ?_
  rintro xs r w0 G0 ⟨n, l1, y0, h, rfl, rfl⟩ _
  rw [m_deep_Nodes] at h
  refine tri_seq ?_
  refine tri_region (by exact tokW) (by exact gok) [2] [] rfl ?_
  show Tri _ _ _ _
  refine tri_le (Le.rename [] [(0, .s (.sl 4 (Nd.encs l1)))] [] 0 ⟨rfl, trivial⟩ trivial rfl rfl rfl rfl rfl) ?_
  refine tri_seq ?_
  refine tri_region (by exact tokW) (by exact gok) [3] [] rfl ?_
  show Tri _ _ _ _
  refine tri_le (Le.rename [(0, 0)] [(0, .s (.sl 4 (Nd.encs l1))), (3, .orow 0)] [(0, .row 24 4 (Nd.encs []))] 1 ⟨rfl, rfl, trivial⟩ ⟨rfl, ⟨_, rfl, congrArg (Ob.row 24 4) (by simp [List.map_append, List.map_take, List.map_drop, irow, brow, b8of_row, List.map_cons, List.map_nil, b8of_wrap, Nd.encs_eq, Nd.enc, enc_13_node_kind, enc_node_checker, enc_node_inner, enc_diff_grid, enc_s_int, enc_node_open, enc_2_int])⟩, trivial⟩ rfl rfl rfl rfl rfl) ?_
  refine tri_seq ?_
  refine tri_seq ?_
  refine tri_region (by exact tokW) (by exact gok) [] [6] rfl ?_
  intro n2 hn2
  obtain rfl : (l1.length : Int) = n2 := (hn2.trans (congrArg (fun m : Nat => (m : Int)) (rlen Nd.encs_eq l1))).symm
  show Tri _ _ _ _
  obtain ⟨l6, hl, h⟩ := bind_out h
  refine tri_post ⟨ofL [(3, .orow 0)], ofH [(0, .row 24 4 (Nd.encs l6))], 1⟩ ?_ (fun σ' hle => ?_)
  · refine tri_block (tri_loopI (X := Nat × Int × (List Nd)) (fun y => match y with | (k, x4, l5) => ⟨ofL [(0, .s (.sl 4 (Nd.encs l1))), (3, .orow 0), (6, .s (.int .i64 (l1.length : Int))), (7, .s (.int .i64 x4))], ofH [(0, .row 24 4 (Nd.encs l5))], 1⟩) (fun y => m_deep_Nodes_l1 l1 y.1 y.2.1 y.2.2 = some l6) (fun y => y.1) (n, 0, []) hl ?_ ?_)
    · exact (Le.rename [(0, 0)] _ _ _ ⟨rfl, rfl, rfl, rfl, trivial⟩ ⟨rfl, ⟨_, rfl, rfl⟩, trivial⟩ rfl rfl rfl rfl rfl)
    · rintro ⟨k, x4, l5⟩ h
      cases k with
      | zero => cases h
      | succ k =>
        replace h : m_deep_Nodes_l1 l1 (k+1) x4 l5 = some l6 := h
        rw [m_deep_Nodes_l1] at h
        refine tri_seq ?_
        refine tri_region (by exact tokW) (by exact gok) [] [] rfl ?_
        show Tri _ _ _ _
        refine tri_seq ?_
        refine tri_cond rfl (fun hb => ?_) (fun hb => ?_)
        · replace h := bif_t hb h
          refine tri_skip ?_
          show Tri _ _ _ _
          refine tri_seq ?_
          refine tri_block ?_
          refine tri_seq ?_
          refine tri_region (by exact tokW) (by exact gok) [] [] rfl ?_
          show Tri _ _ _ _
          refine tri_region (by exact tokW) (by exact gok) [17] [13, 16] rfl ?_
          obtain ⟨⟨e7_kind, e7_text, e7_cols, e7_kids⟩, he7, h⟩ := bind_out h
          refine And.intro (at_ok Nd.encs_eq he7).1 ?_
          intro r8 hr8
          obtain rfl : [.int .i64 e7_kind, .str e7_text, .int .i64 e7_cols, .sl 4 (Nd.encs e7_kids)] = r8 := (hr8.trans (at_ok Nd.encs_eq he7).2.1).symm
          obtain ⟨⟨y9_kind, y9_text, y9_cols, y9_kids⟩, hy9, h⟩ := bind_out h
          refine ⟨_, ⟨_, _, hy9, rfl, rfl⟩, ?_⟩
          intro r10 hr10
          obtain rfl : Nd.encs [Nd.mk y9_kind y9_text y9_cols y9_kids] = r10 := (hr10.trans (by simp [List.map_append, List.map_take, List.map_drop, irow, brow, b8of_row, List.map_cons, List.map_nil, b8of_wrap, Nd.encs_eq, Nd.enc, enc_13_node_kind, enc_node_checker, enc_node_inner, enc_diff_grid, enc_s_int, enc_node_open, enc_2_int])).symm
          obtain ⟨hq, h⟩ := req_out h
          refine And.intro (show ((Nd.encs l5).length + (Nd.encs [Nd.mk y9_kind y9_text y9_cols y9_kids]).length) * 56 ≤ 140737488355328 ∧ (Nd.encs l5).length + (Nd.encs [Nd.mk y9_kind y9_text y9_cols y9_kids]).length ≤ 9223372036854775807 from by simp only [List.length_append, List.length_cons, List.length_nil, List.length_map, rlen Nd.encs_eq] at hq ⊢; omega) ?_
          show Tri _ _ _ _
          refine tri_le (Le.rename [(1, 0)] [(0, .s (.sl 4 (Nd.encs l1))), (3, .orow 0), (6, .s (.int .i64 (l1.length : Int))), (7, .s (.int .i64 x4))] [(0, .row 24 4 (Nd.encs (l5 ++ [Nd.mk y9_kind y9_text y9_cols y9_kids])))] 1 ⟨rfl, rfl, rfl, rfl, trivial⟩ ⟨rfl, ⟨_, rfl, congrArg (Ob.row 24 4) (by simp [List.map_append, List.map_take, List.map_drop, irow, brow, b8of_row, List.map_cons, List.map_nil, b8of_wrap, Nd.encs_eq, Nd.enc, enc_13_node_kind, enc_node_checker, enc_node_inner, enc_diff_grid, enc_s_int, enc_node_open, enc_2_int])⟩, trivial⟩ rfl rfl rfl rfl rfl) ?_
          refine tri_region (by exact tokW) (by exact gok) [] [] rfl ?_
          refine ⟨(k, IntKind.i64.wrap (x4 + 1), l5 ++ [Nd.mk y9_kind y9_text y9_cols y9_kids]), h, (Le.rename [(0, 0)] _ _ _ ⟨rfl, rfl, rfl, rfl, trivial⟩ ⟨rfl, ⟨_, rfl, rfl⟩, trivial⟩ rfl rfl rfl rfl rfl), Nat.lt_succ_self k⟩
        · replace h := bif_f hb h
          refine tri_exit ?_
          cases h
          exact (Le.rename [(0, 0)] _ _ _ ⟨rfl, trivial⟩ ⟨rfl, ⟨_, rfl, rfl⟩, trivial⟩ rfl rfl rfl rfl rfl)
  · show Tri _ _ _ _
    refine tri_le hle ?_
    refine tri_seq ?_
    refine tri_region (by exact tokW) (by exact gok) [] [] rfl ?_
    show Tri _ _ _ _
    refine tri_ret ?_
    have hy := Option.some.inj h
    subst hy
    unfold Gives
    exact ⟨_, Le.refl _ _, 0, rfl, rfl⟩
def R_deep_Ints (xs : List AV) (r : Ret) : Prop := ∃ (a0 : List Int) (y0 : List Int), m_deep_Ints a0 = some y0 ∧ xs = [.s (.sl 1 ((List.map (irow .i64)) a0))] ∧ r = .val (.s (.sl 1 ((List.map (irow .i64)) y0)))
def S_deep_Ints : PSpec := pspec fun xs r => R_deep_Ints xs r
set_option maxHeartbeats 2000000 in
set_option maxRecDepth 100000 in
theorem ok_deep_Ints : PSound Tryd.prog 73 S_deep_Ints := by
  have gok : ∀ f s, look? f [(79, S_slices_Clone_sint)] = some s → PSound Tryd.prog f s := look_all (by
    simp only [List.forall_mem_cons]
    exact ⟨ok_slices_Clone_sint, by simp⟩)
  refine psound tokW Tryd.call73 Tryd.func73 rfl (fun xs r h => by obtain ⟨_, _, _, rfl, _⟩ := h; show 1 ≤ 5; decide) 5 rfl ?_
  rintro xs r w0 G0 ⟨l1, y0, h, rfl, rfl⟩ _
  rw [m_deep_Ints] at h
  refine tri_seq ?_
  refine tri_region (by exact tokW) (by exact gok) [] [] rfl ?_
  show Tri _ _ _ _
  refine tri_seq ?_
  refine tri_region (by exact tokW) (by exact gok) [] [] rfl ?_
  obtain ⟨y2, hy2, h⟩ := bind_out h
  refine ⟨_, ⟨_, _, hy2, rfl, rfl⟩, ?_⟩
  show Tri _ _ _ _
  refine tri_ret ?_
  have hy := Option.some.inj h
  subst hy
  unfold Gives
  exact ⟨_, Le.refl _ _, rfl, rfl⟩
def enc_api_Conflict (p : (List Int × Int × Int × List Nd × List Nd)) : List S := [.sl 1 ((List.map (irow .i64)) p.1), .int .i64 p.2.1, .int .i64 p.2.2.1, .sl 4 (Nd.encs p.2.2.2.1), .sl 4 (Nd.encs p.2.2.2.2)]
def enc_3_s_api_Node (p : (List Nd × List Nd × List Nd)) : List S := [.sl 4 (Nd.encs p.1), .sl 4 (Nd.encs p.2.1), .sl 4 (Nd.encs p.2.2)]
def enc_merge_merger (p : (Int × List (List Int × Int × Int × List Nd × List Nd))) : List S := [.int .i64 p.1, .sl 5 ((List.map enc_api_Conflict) p.2)]
def R_merge_merger_conflict (n : Nat) (xs : List AV) (os : List Ob) (x : AV) (os' : List (Option Ob)) : Prop := ∃ (a0 : (Int × List (List Int × Int × Int × List Nd × List Nd))) (a1 : List Int) (a2 : Int) (a3 : (List Nd × List Nd × List Nd)) (y0 : List Nd) (z0 : (Int × List (List Int × Int × Int × List Nd × List Nd))), m_merge_merger_conflict n a0 a1 a2 a3 = some (y0, z0) ∧ xs = [.op 0 0, .s (.sl 1 ((List.map (irow .i64)) a1)), .s (.int .i64 a2), .agg ((enc_3_s_api_Node a3).map .s)] ∧ os = [.box 48 (((enc_merge_merger a0).map .s).set 1 (.orow 1)), .row 35 5 ((List.map enc_api_Conflict) a0.2)] ∧ x = .s (.sl 4 (Nd.encs y0)) ∧ os' = [some (.box 48 (((enc_merge_merger z0).map .s).set 1 (.orow 2))), none, some (.row 35 5 ((List.map enc_api_Conflict) z0.2))]
def S_merge_merger_conflict : PSpec := ospec (fun xs os x os' => ∃ n, R_merge_merger_conflict n xs os x os')
set_option maxHeartbeats 2000000 in
set_option maxRecDepth 100000 in
theorem ok_merge_merger_conflict : PSound Tryd.prog 59 S_merge_merger_conflict := by
  have gok : ∀ f s, look? f [(73, S_deep_Ints), (58, S_deep_Nodes)] = some s → PSound Tryd.prog f s := look_all (by
    simp only [List.forall_mem_cons]
    exact ⟨ok_deep_Ints, ok_deep_Nodes, by simp⟩)
  refine PSound.withNil (osound tokW Tryd.call59 Tryd.func59 rfl (fun xs os x os' h => by obtain ⟨n, _, _, _, _, _, _, _, rfl, rfl, _, rfl⟩ := h; exact ⟨by show 4 ≤ 40; decide, by show 2 ≤ 3; decide⟩) 40 rfl ?_) _
  rintro xs os x os' w0 G0 B0 ⟨n, ⟨o1_take, o1_conflicts⟩, path2, from3, ⟨part4_0, part4_1, part4_2⟩, y0, z0, h, rfl, rfl, rfl, rfl⟩ _
  rw [m_merge_merger_conflict] at h
  refine tri_seq ?_
  refine tri_region (by exact tokW) (by exact gok) [] [] rfl ?_
  show Tri _ _ _ _
  refine tri_seq ?_
  refine tri_drawn (by exact tokW) (by exact gok) (by exact mixed) [30] [20, 29] [4, 21, 24] rfl (by decide +kernel) ?_
  obtain ⟨y5, hy5, h⟩ := bind_out h
  refine ⟨_, ⟨_, _, hy5, rfl, rfl⟩, ?_⟩
  refine And.intro (by decide) ?_
  intro n6 hn6
  obtain rfl : (part4_0.length : Int) = n6 := (hn6.trans (congrArg (fun m : Nat => (m : Int)) (rlen Nd.encs_eq part4_0))).symm
  refine And.intro (by decide) ?_
  obtain ⟨y7, hy7, h⟩ := bind_out h
  refine ⟨_, ⟨_, _, _, hy7, rfl, rfl⟩, ?_⟩
  refine And.intro (by decide) ?_
  obtain ⟨y8, hy8, h⟩ := bind_out h
  refine ⟨_, ⟨_, _, _, hy8, rfl, rfl⟩, ?_⟩
  intro r9 hr9
  obtain rfl : (List.map enc_api_Conflict) [(y5, from3, IntKind.i64.wrap (from3 + (part4_0.length : Int)), y7, y8)] = r9 := (hr9.trans (by simp [List.map_append, List.map_take, List.map_drop, irow, brow, b8of_row, List.map_cons, List.map_nil, b8of_wrap, Nd.encs_eq, Nd.enc, enc_13_node_kind, enc_node_checker, enc_node_inner, enc_diff_grid, enc_s_int, enc_node_open, enc_2_int, enc_api_Conflict])).symm
  obtain ⟨hq, h⟩ := req_out h
  refine And.intro (show (((List.map enc_api_Conflict) o1_conflicts).length + ((List.map enc_api_Conflict) [(y5, from3, IntKind.i64.wrap (from3 + (part4_0.length : Int)), y7, y8)]).length) * 88 ≤ 140737488355328 ∧ ((List.map enc_api_Conflict) o1_conflicts).length + ((List.map enc_api_Conflict) [(y5, from3, IntKind.i64.wrap (from3 + (part4_0.length : Int)), y7, y8)]).length ≤ 9223372036854775807 from by simp only [List.length_append, List.length_cons, List.length_nil, List.length_map, rlen (fun _ => rfl)] at hq ⊢; omega) ?_
  show Tri _ _ _ _
  refine tri_le (Le.rename [(0, 0), (2, 2)] [(0, .op 0 0), (7, .s (.pt [.sl 4 (Nd.encs part4_0), .sl 4 (Nd.encs part4_1), .sl 4 (Nd.encs part4_2)]))] [(0, .box 48 [.s (.int .i64 o1_take), .orow 2]), (2, .row 35 5 ((List.map enc_api_Conflict) (o1_conflicts ++ [(y5, from3, IntKind.i64.wrap (from3 + (part4_0.length : Int)), y7, y8)])))] 3 ⟨rfl, rfl, trivial⟩ ⟨rfl, ⟨_, rfl, rfl⟩, rfl, ⟨_, rfl, congrArg (Ob.row 35 5) (by simp [List.map_append, List.map_take, List.map_drop, irow, brow, b8of_row, List.map_cons, List.map_nil, b8of_wrap, Nd.encs_eq, Nd.enc, enc_13_node_kind, enc_node_checker, enc_node_inner, enc_diff_grid, enc_s_int, enc_node_open, enc_2_int, enc_api_Conflict])⟩, trivial⟩ rfl rfl rfl rfl rfl) ?_
  refine tri_seq ?_
  refine tri_region (by exact tokW) (by exact gok) [] [36] rfl ?_
  intro vsp hvsp
  cases hc : (o1_take == 0) with
  | true =>
    replace h := bif_t hc h
    obtain rfl : (0 : Int) = vsp := (hvsp.trans (eq_of_beq hc)).symm
    refine And.intro (by decide) ?_
    obtain ⟨y10, hy10, h⟩ := bind_out h
    refine ⟨_, ⟨_, _, _, hy10, rfl, rfl⟩, ?_⟩
    show Tri _ _ _ _
    refine tri_ret ?_
    obtain ⟨hj1, hk1⟩ := Prod.mk.inj (Option.some.inj h)
    subst hj1
    subst hk1
    unfold GivesO
    exact ⟨_, (Le.rename [(0, 0), (2, 2)] [(8, .s (.sl 4 (Nd.encs y10)))] [(0, .box 48 [.s (.int .i64 o1_take), .orow 2]), (2, .row 35 5 ((List.map enc_api_Conflict) (o1_conflicts ++ [(y5, from3, IntKind.i64.wrap (from3 + (part4_0.length : Int)), y7, y8)])))] 3 ⟨rfl, trivial⟩ ⟨rfl, ⟨_, rfl, rfl⟩, rfl, ⟨_, rfl, rfl⟩, trivial⟩ rfl rfl rfl rfl rfl), rfl, rfl, rfl, rfl, rfl, rfl, trivial⟩
  | false =>
    replace h := bif_f hc h
    cases hc : (o1_take == 1) with
    | true =>
      replace h := bif_t hc h
      obtain rfl : (1 : Int) = vsp := (hvsp.trans (eq_of_beq hc)).symm
      refine And.intro (by decide) ?_
      obtain ⟨y11, hy11, h⟩ := bind_out h
      refine ⟨_, ⟨_, _, _, hy11, rfl, rfl⟩, ?_⟩
      show Tri _ _ _ _
      refine tri_ret ?_
      obtain ⟨hj1, hk1⟩ := Prod.mk.inj (Option.some.inj h)
      subst hj1
      subst hk1
      unfold GivesO
      exact ⟨_, (Le.rename [(0, 0), (2, 2)] [(8, .s (.sl 4 (Nd.encs y11)))] [(0, .box 48 [.s (.int .i64 o1_take), .orow 2]), (2, .row 35 5 ((List.map enc_api_Conflict) (o1_conflicts ++ [(y5, from3, IntKind.i64.wrap (from3 + (part4_0.length : Int)), y7, y8)])))] 3 ⟨rfl, trivial⟩ ⟨rfl, ⟨_, rfl, rfl⟩, rfl, ⟨_, rfl, rfl⟩, trivial⟩ rfl rfl rfl rfl rfl), rfl, rfl, rfl, rfl, rfl, rfl, trivial⟩
    | false =>
      replace h := bif_f hc h
      cases hc : (o1_take == 2) with
      | true =>
        replace h := bif_t hc h
        obtain rfl : (2 : Int) = vsp := (hvsp.trans (eq_of_beq hc)).symm
        refine And.intro (by decide) ?_
        obtain ⟨y12, hy12, h⟩ := bind_out h
        refine ⟨_, ⟨_, _, _, hy12, rfl, rfl⟩, ?_⟩
        show Tri _ _ _ _
        refine tri_ret ?_
        obtain ⟨hj1, hk1⟩ := Prod.mk.inj (Option.some.inj h)
        subst hj1
        subst hk1
        unfold GivesO
        exact ⟨_, (Le.rename [(0, 0), (2, 2)] [(8, .s (.sl 4 (Nd.encs y12)))] [(0, .box 48 [.s (.int .i64 o1_take), .orow 2]), (2, .row 35 5 ((List.map enc_api_Conflict) (o1_conflicts ++ [(y5, from3, IntKind.i64.wrap (from3 + (part4_0.length : Int)), y7, y8)])))] 3 ⟨rfl, trivial⟩ ⟨rfl, ⟨_, rfl, rfl⟩, rfl, ⟨_, rfl, rfl⟩, trivial⟩ rfl rfl rfl rfl rfl), rfl, rfl, rfl, rfl, rfl, rfl, trivial⟩
      | false =>
        replace h := bif_f hc h
        cases h
def R_merge_merger_part (n : Nat) (xs : List AV) (os : List Ob) (x : AV) (os' : List (Option Ob)) : Prop := ∃ (a0 : (Int × List (List Int × Int × Int × List Nd × List Nd))) (a1 : List Int) (a2 : Int) (a3 : (List Nd × List Nd × List Nd)) (y0 : List Nd) (z0 : (Int × List (List Int × Int × Int × List Nd × List Nd))), m_merge_merger_part n a0 a1 a2 a3 = some (y0, z0) ∧ xs = [.op 0 0, .s (.sl 1 ((List.map (irow .i64)) a1)), .s (.int .i64 a2), .agg ((enc_3_s_api_Node a3).map .s)] ∧ os = [.box 48 (((enc_merge_merger a0).map .s).set 1 (.orow 1)), .row 35 5 ((List.map enc_api_Conflict) a0.2)] ∧ x = .s (.sl 4 (Nd.encs y0)) ∧ os' = [some (.box 48 (((enc_merge_merger z0).map .s).set 1 (.orow 2))), none, some (.row 35 5 ((List.map enc_api_Conflict) z0.2))]
def S_merge_merger_part : PSpec := ospec (fun xs os x os' => ∃ n, R_merge_merger_part n xs os x os')
set_option maxHeartbeats 2000000 in
set_option maxRecDepth 100000 in
theorem ok_merge_merger_part : PSound Tryd.prog 42 S_merge_merger_part := by
  have gok : ∀ f s, look? f [(57, S_merge_same), (58, S_deep_Nodes), (59, S_merge_merger_conflict)] = some s → PSound Tryd.prog f s := look_all (by
    simp only [List.forall_mem_cons]
    exact ⟨ok_merge_same, ok_deep_Nodes, ok_merge_merger_conflict, by simp⟩)
  refine PSound.withNil (osound tokW Tryd.call42 Tryd.func42 rfl (fun xs os x os' h => by obtain ⟨n, _, _, _, _, _, _, _, rfl, rfl, _, rfl⟩ := h; exact ⟨by show 4 ≤ 40; decide, by show 2 ≤ 3; decide⟩) 40 rfl ?_) _
  rintro xs os x os' w0 G0 B0 ⟨n, ⟨o1_take, o1_conflicts⟩, path2, from3, ⟨part4_0, part4_1, part4_2⟩, y0, z0, h, rfl, rfl, rfl, rfl⟩ _
  rw [m_merge_merger_part] at h
  refine tri_seq ?_
  refine tri_region (by exact tokW) (by exact gok) [] [] rfl ?_
  show Tri _ _ _ _
  refine tri_seq ?_
  refine tri_drawn (by exact tokW) (by exact gok) (by exact mixed) [] [] [] rfl (by decide +kernel) ?_
  refine And.intro (by decide) ?_
  refine And.intro (by decide) ?_
  refine And.intro (by decide) ?_
  show Tri _ _ _ _
  refine tri_seq ?_
  refine tri_block ?_
  refine tri_seq ?_
  refine tri_region (by exact tokW) (by exact gok) [] [] rfl ?_
  obtain ⟨y5, hy5, h⟩ := bind_out h
  refine ⟨_, ⟨_, _, _, _, hy5, rfl, rfl⟩, ?_⟩
  show Tri _ _ _ _
  refine tri_cond rfl (fun hb => ?_) (fun hb => ?_)
  · replace h := bif_t hb h
    refine tri_seq ?_
    refine tri_region (by exact tokW) (by exact gok) [] [] rfl ?_
    obtain ⟨y6, hy6, h⟩ := bind_out h
    refine ⟨_, ⟨_, _, _, hy6, rfl, rfl⟩, ?_⟩
    show Tri _ _ _ _
    refine tri_ret ?_
    obtain ⟨hj1, hk1⟩ := Prod.mk.inj (Option.some.inj h)
    subst hj1
    subst hk1
    unfold GivesO
    exact ⟨_, (Le.rename [(0, 0), (1, 2)] [(8, .s (.sl 4 (Nd.encs y6)))] [(0, .box 48 [.s (.int .i64 o1_take), .orow 2]), (2, .row 35 5 ((List.map enc_api_Conflict) o1_conflicts))] 3 ⟨rfl, trivial⟩ ⟨rfl, ⟨_, rfl, rfl⟩, rfl, ⟨_, rfl, rfl⟩, trivial⟩ rfl rfl rfl rfl rfl), rfl, rfl, rfl, rfl, rfl, rfl, trivial⟩
  · replace h := bif_f hb h
    refine tri_seq ?_
    obtain ⟨x7, hj, h⟩ := bind_out h
    refine tri_post ⟨ofL [(0, .op 0 0), (1, .s (.sl 1 ((List.map (irow .i64)) path2))), (2, .s (.int .i64 from3)), (7, .s (.pt [.sl 4 (Nd.encs part4_0), .sl 4 (Nd.encs part4_1), .sl 4 (Nd.encs part4_2)])), (10, .s (.sl 4 (Nd.encs part4_1))), (24, .s (.bool x7))], ofH [(0, .box 48 [.s (.int .i64 o1_take), .orow 2]), (2, .row 35 5 ((List.map enc_api_Conflict) o1_conflicts))], 3⟩ ?_ (fun σ' hle => ?_)
    · replace h := hj
      refine tri_region (by exact tokW) (by exact gok) [] [28] rfl ?_
      obtain ⟨y8, hy8, h⟩ := bind_out h
      refine ⟨_, ⟨_, _, _, _, hy8, rfl, rfl⟩, ?_⟩
      intro b hb
      cases b with
      | true =>
        replace h := bif_t hb.symm h
        cases h
        exact (Le.rename [(0, 0), (1, 2)] _ _ _ ⟨rfl, rfl, rfl, rfl, rfl, rfl, trivial⟩ ⟨rfl, ⟨_, rfl, rfl⟩, rfl, ⟨_, rfl, rfl⟩, trivial⟩ rfl rfl rfl rfl rfl)
      | false =>
        replace h := bif_f hb.symm h
        obtain ⟨y9, hy9, h⟩ := bind_out h
        refine ⟨_, ⟨_, _, _, _, hy9, rfl, rfl⟩, ?_⟩
        cases h
        exact (Le.rename [(0, 0), (1, 2)] _ _ _ ⟨rfl, rfl, rfl, rfl, rfl, rfl, trivial⟩ ⟨rfl, ⟨_, rfl, rfl⟩, rfl, ⟨_, rfl, rfl⟩, trivial⟩ rfl rfl rfl rfl rfl)
    · show Tri _ _ _ _
      refine tri_le hle ?_
      refine tri_cond rfl (fun hb => ?_) (fun hb => ?_)
      · replace h := bif_t hb h
        refine tri_seq ?_
        refine tri_region (by exact tokW) (by exact gok) [] [] rfl ?_
        obtain ⟨y10, hy10, h⟩ := bind_out h
        refine ⟨_, ⟨_, _, _, hy10, rfl, rfl⟩, ?_⟩
        show Tri _ _ _ _
        refine tri_ret ?_
        obtain ⟨hj1, hk1⟩ := Prod.mk.inj (Option.some.inj h)
        subst hj1
        subst hk1
        unfold GivesO
        exact ⟨_, (Le.rename [(0, 0), (2, 2)] [(8, .s (.sl 4 (Nd.encs y10)))] [(0, .box 48 [.s (.int .i64 o1_take), .orow 2]), (2, .row 35 5 ((List.map enc_api_Conflict) o1_conflicts))] 3 ⟨rfl, trivial⟩ ⟨rfl, ⟨_, rfl, rfl⟩, rfl, ⟨_, rfl, rfl⟩, trivial⟩ rfl rfl rfl rfl rfl), rfl, rfl, rfl, rfl, rfl, rfl, trivial⟩
      · replace h := bif_f hb h
        refine tri_skip ?_
        show Tri _ _ _ _
        refine tri_seq ?_
        refine tri_region (by exact tokW) (by exact gok) [] [] rfl ?_
        obtain ⟨⟨y11, ⟨w12_take, w12_conflicts⟩⟩, hy11, h⟩ := bind_out h
        refine ⟨_, _, ⟨_, _, _, _, _, _, _, hy11, rfl, rfl, rfl, rfl⟩, ?_⟩
        show Tri _ _ _ _
        refine tri_ret ?_
        obtain ⟨hj1, hk1⟩ := Prod.mk.inj (Option.some.inj h)
        subst hj1
        subst hk1
        unfold GivesO
        exact ⟨_, (Le.rename [(0, 0), (3, 2)] [(8, .s (.sl 4 (Nd.encs y11)))] [(0, .box 48 [.s (.int .i64 w12_take), .orow 2]), (2, .row 35 5 ((List.map enc_api_Conflict) w12_conflicts))] 3 ⟨rfl, trivial⟩ ⟨rfl, ⟨_, rfl, rfl⟩, rfl, ⟨_, rfl, rfl⟩, trivial⟩ rfl rfl rfl rfl rfl), rfl, rfl, rfl, rfl, rfl, rfl, trivial⟩
def R_slices_Concat_sint (n : Nat) (xs : List AV) (r : Ret) : Prop := ∃ (a0 : List (List Int)) (y0 : List Int), m_slices_Concat_sint n a0 = some y0 ∧ xs = [.s (.sl 1 ((List.map enc_s_int) a0))] ∧ r = .row 3 1 ((List.map (irow .i64)) y0)
def S_slices_Concat_sint : PSpec := pspec fun xs r => ∃ n, R_slices_Concat_sint n xs r
set_option maxHeartbeats 2000000 in
set_option maxRecDepth 100000 in
theorem ok_slices_Concat_sint : PSound Tryd.prog 60 S_slices_Concat_sint := by
  have gok : ∀ f s, look? f [(74, S_slices_Grow_sint)] = some s → PSound Tryd.prog f s := look_all (by
    simp only [List.forall_mem_cons]
    exact ⟨ok_slices_Grow_sint, by simp⟩)
  refine psound tokW Tryd.call60 Tryd.func60 rfl (fun xs r h => by obtain ⟨n, _, _, _, rfl, _⟩ := h; show 1 ≤ 36; decide) 36 rfl ?_
  rintro xs r w0 G0 ⟨n, slices1, y0, h, rfl, rfl⟩ _
  rw [m_slices_Concat_sint] at h
  refine tri_seq ?_
  refine tri_region (by exact tokW) (by exact gok) [2] [] rfl ?_
  show Tri _ _ _ _
  refine tri_le (Le.rename [] [(0, .s (.sl 1 ((List.map enc_s_int) slices1)))] [] 0 ⟨rfl, trivial⟩ trivial rfl rfl rfl rfl rfl) ?_
  refine tri_seq ?_
  refine tri_region (by exact tokW) (by exact gok) [] [] rfl ?_
  show Tri _ _ _ _
  refine tri_seq ?_
  refine tri_seq ?_
  refine tri_region (by exact tokW) (by exact gok) [] [10] rfl ?_
  intro n2 hn2
  obtain rfl : (slices1.length : Int) = n2 := (hn2.trans (congrArg (fun m : Nat => (m : Int)) (rlen (fun _ => rfl) slices1))).symm
  show Tri _ _ _ _
  obtain ⟨size5, hl, h⟩ := bind_out h
  refine tri_post ⟨ofL [(0, .s (.sl 1 ((List.map enc_s_int) slices1))), (3, .s (.int .i64 size5))], fun _ => none, 0⟩ ?_ (fun σ' hle => ?_)
  · refine tri_block (tri_loopI (X := Nat × Int × Int) (fun y => match y with | (k, x3, size4) => ⟨ofL [(0, .s (.sl 1 ((List.map enc_s_int) slices1))), (3, .s (.int .i64 size4)), (9, .s (.sl 1 ((List.map enc_s_int) slices1))), (10, .s (.int .i64 (slices1.length : Int))), (11, .s (.int .i64 x3))], fun _ => none, 0⟩) (fun y => m_slices_Concat_sint_l1 slices1 y.1 y.2.1 y.2.2 = some size5) (fun y => y.1) (n, 0, 0) hl ?_ ?_)
    · exact (Le.forget _ ⟨rfl, rfl, rfl, rfl, rfl, trivial⟩)
    · rintro ⟨k, x3, size4⟩ h
      cases k with
      | zero => cases h
      | succ k =>
        replace h : m_slices_Concat_sint_l1 slices1 (k+1) x3 size4 = some size5 := h
        rw [m_slices_Concat_sint_l1] at h
        refine tri_seq ?_
        refine tri_region (by exact tokW) (by exact gok) [] [] rfl ?_
        show Tri _ _ _ _
        refine tri_seq ?_
        refine tri_cond rfl (fun hb => ?_) (fun hb => ?_)
        · replace h := bif_t hb h
          refine tri_skip ?_
          show Tri _ _ _ _
          refine tri_seq ?_
          refine tri_block ?_
          refine tri_seq ?_
          refine tri_region (by exact tokW) (by exact gok) [] [13] rfl ?_
          obtain ⟨e6, he6, h⟩ := bind_out h
          refine And.intro (at_ok (fun _ => rfl) he6).1 ?_
          intro r7 hr7
          obtain rfl : [.sl 1 ((List.map (irow .i64)) e6)] = r7 := (hr7.trans (at_ok (fun _ => rfl) he6).2.1).symm
          show Tri _ _ _ _
          refine tri_seq ?_
          refine tri_region (by exact tokW) (by exact gok) [] [17] rfl ?_
          intro n8 hn8
          obtain rfl : (e6.length : Int) = n8 := (hn8.trans (congrArg (fun m : Nat => (m : Int)) (rlen (fun _ => rfl) e6))).symm
          show Tri _ _ _ _
          refine tri_seq ?_
          refine tri_region (by exact tokW) (by exact gok) [] [] rfl ?_
          show Tri _ _ _ _
          refine tri_cond rfl (fun hb => ?_) (fun hb => ?_)
          · replace h := bif_t hb h
            cases h
          · replace h := bif_f hb h
            refine tri_skip ?_
            show Tri _ _ _ _
            refine tri_region (by exact tokW) (by exact gok) [] [] rfl ?_
            refine ⟨(k, IntKind.i64.wrap (x3 + 1), IntKind.i64.wrap (size4 + (e6.length : Int))), h, (Le.forget _ ⟨rfl, rfl, rfl, rfl, rfl, trivial⟩), Nat.lt_succ_self k⟩
        · replace h := bif_f hb h
          refine tri_exit ?_
          cases h
          exact (Le.forget _ ⟨rfl, rfl, trivial⟩)
  · show Tri _ _ _ _
    refine tri_le hle ?_
    refine tri_seq ?_
    refine tri_region (by exact tokW) (by exact gok) [24] [] rfl ?_
    obtain ⟨y9, hy9, h⟩ := bind_out h
    refine ⟨_, ⟨_, _, hy9, rfl, rfl⟩, ?_⟩
    show Tri _ _ _ _
    refine tri_seq ?_
    refine tri_seq ?_
    refine tri_region (by exact tokW) (by exact gok) [] [26] rfl ?_
    intro n10 hn10
    obtain rfl : (slices1.length : Int) = n10 := (hn10.trans (congrArg (fun m : Nat => (m : Int)) (rlen (fun _ => rfl) slices1))).symm
    show Tri _ _ _ _
    obtain ⟨l14, hl, h⟩ := bind_out h
    refine tri_post ⟨ofL [(6, .orow 0)], ofH [(0, .row 3 1 ((List.map (irow .i64)) l14))], 1⟩ ?_ (fun σ' hle => ?_)
    · refine tri_block (tri_loopI (X := Nat × Int × (List Int)) (fun y => match y with | (k, x11, l13) => ⟨ofL [(6, .orow 0), (25, .s (.sl 1 ((List.map enc_s_int) slices1))), (26, .s (.int .i64 (slices1.length : Int))), (27, .s (.int .i64 x11))], ofH [(0, .row 3 1 ((List.map (irow .i64)) l13))], 1⟩) (fun y => m_slices_Concat_sint_l2 slices1 y.1 y.2.1 y.2.2 = some l14) (fun y => y.1) (n, 0, y9) hl ?_ ?_)
      · exact (Le.rename [(0, 0)] _ _ _ ⟨rfl, rfl, rfl, rfl, trivial⟩ ⟨rfl, ⟨_, rfl, rfl⟩, trivial⟩ rfl rfl rfl rfl rfl)
      · rintro ⟨k, x11, l13⟩ h
        cases k with
        | zero => cases h
        | succ k =>
          replace h : m_slices_Concat_sint_l2 slices1 (k+1) x11 l13 = some l14 := h
          rw [m_slices_Concat_sint_l2] at h
          refine tri_seq ?_
          refine tri_region (by exact tokW) (by exact gok) [] [] rfl ?_
          show Tri _ _ _ _
          refine tri_seq ?_
          refine tri_cond rfl (fun hb => ?_) (fun hb => ?_)
          · replace h := bif_t hb h
            refine tri_skip ?_
            show Tri _ _ _ _
            refine tri_seq ?_
            refine tri_block ?_
            refine tri_seq ?_
            refine tri_region (by exact tokW) (by exact gok) [] [29] rfl ?_
            obtain ⟨e15, he15, h⟩ := bind_out h
            refine And.intro (at_ok (fun _ => rfl) he15).1 ?_
            intro r16 hr16
            obtain rfl : [.sl 1 ((List.map (irow .i64)) e15)] = r16 := (hr16.trans (at_ok (fun _ => rfl) he15).2.1).symm
            show Tri _ _ _ _
            refine tri_region (by exact tokW) (by exact gok) [33] [] rfl ?_
            obtain ⟨hq, h⟩ := req_out h
            refine And.intro (show (((List.map (irow .i64)) l13).length + ((List.map (irow .i64)) e15).length) * 8 ≤ 140737488355328 ∧ ((List.map (irow .i64)) l13).length + ((List.map (irow .i64)) e15).length ≤ 9223372036854775807 from by simp only [List.length_append, List.length_cons, List.length_nil, List.length_map, rlen (fun _ => rfl)] at hq ⊢; omega) ?_
            show Tri _ _ _ _
            refine tri_le (Le.rename [(1, 0)] [(6, .orow 0), (25, .s (.sl 1 ((List.map enc_s_int) slices1))), (26, .s (.int .i64 (slices1.length : Int))), (27, .s (.int .i64 x11))] [(0, .row 3 1 ((List.map (irow .i64)) (l13 ++ e15)))] 1 ⟨rfl, rfl, rfl, rfl, trivial⟩ ⟨rfl, ⟨_, rfl, congrArg (Ob.row 3 1) (by simp [List.map_append, List.map_take, List.map_drop, irow, brow, b8of_row, List.map_cons, List.map_nil, b8of_wrap, Nd.encs_eq, Nd.enc, enc_13_node_kind, enc_node_checker, enc_node_inner, enc_diff_grid, enc_s_int, enc_node_open, enc_2_int, enc_api_Conflict, enc_3_s_api_Node, enc_merge_merger])⟩, trivial⟩ rfl rfl rfl rfl rfl) ?_
            refine tri_region (by exact tokW) (by exact gok) [] [] rfl ?_
            refine ⟨(k, IntKind.i64.wrap (x11 + 1), l13 ++ e15), h, (Le.rename [(0, 0)] _ _ _ ⟨rfl, rfl, rfl, rfl, trivial⟩ ⟨rfl, ⟨_, rfl, rfl⟩, trivial⟩ rfl rfl rfl rfl rfl), Nat.lt_succ_self k⟩
          · replace h := bif_f hb h
            refine tri_exit ?_
            cases h
            exact (Le.rename [(0, 0)] _ _ _ ⟨rfl, trivial⟩ ⟨rfl, ⟨_, rfl, rfl⟩, trivial⟩ rfl rfl rfl rfl rfl)
    · show Tri _ _ _ _
      refine tri_le hle ?_
      refine tri_seq ?_
      refine tri_region (by exact tokW) (by exact gok) [] [] rfl ?_
      show Tri _ _ _ _
      refine tri_ret ?_
      have hy := Option.some.inj h
      subst hy
      unfold Gives
      exact ⟨_, Le.refl _ _, 0, rfl, rfl⟩
def R_merge_merger_item (n : Nat) (xs : List AV) (os : List Ob) (x : AV) (os' : List (Option Ob)) : Prop := ∃ (a0 : (Int × List (List Int × Int × Int × List Nd × List Nd))) (a1 : List Int) (a2 : Int) (a3 : Nd) (a4 : Nd) (a5 : Nd) (y0 : List Nd) (z0 : (Int × List (List Int × Int × Int × List Nd × List Nd))), m_merge_merger_item n a0 a1 a2 a3 a4 a5 = some (y0, z0) ∧ xs = [.op 0 0, .s (.sl 1 ((List.map (irow .i64)) a1)), .s (.int .i64 a2), .agg ((Nd.enc a3).map .s), .agg ((Nd.enc a4).map .s), .agg ((Nd.enc a5).map .s)] ∧ os = [.box 48 (((enc_merge_merger a0).map .s).set 1 (.orow 1)), .row 35 5 ((List.map enc_api_Conflict) a0.2)] ∧ x = .s (.sl 4 (Nd.encs y0)) ∧ os' = [some (.box 48 (((enc_merge_merger z0).map .s).set 1 (.orow 2))), none, some (.row 35 5 ((List.map enc_api_Conflict) z0.2))]
def R_merge_merger_row (n : Nat) (xs : List AV) (os : List Ob) (x : AV) (os' : List (Option Ob)) : Prop := ∃ (a0 : (Int × List (List Int × Int × Int × List Nd × List Nd))) (a1 : List Int) (a2 : List Nd) (a3 : List Nd) (a4 : List Nd) (y0 : List Nd) (z0 : (Int × List (List Int × Int × Int × List Nd × List Nd))), m_merge_merger_row n a0 a1 a2 a3 a4 = some (y0, z0) ∧ xs = [.op 0 0, .s (.sl 1 ((List.map (irow .i64)) a1)), .s (.sl 4 (Nd.encs a2)), .s (.sl 4 (Nd.encs a3)), .s (.sl 4 (Nd.encs a4))] ∧ os = [.box 48 (((enc_merge_merger a0).map .s).set 1 (.orow 1)), .row 35 5 ((List.map enc_api_Conflict) a0.2)] ∧ x = .orow 3 ∧ os' = [some (.box 48 (((enc_merge_merger z0).map .s).set 1 (.orow 2))), none, some (.row 35 5 ((List.map enc_api_Conflict) z0.2)), some (.row 24 4 (Nd.encs y0))]
set_option maxHeartbeats 2000000 in
set_option maxRecDepth 100000 in
theorem step_merge_merger_item (n : Nat) (ih_merge_merger_item : PSound Tryd.prog 43 (ospec (R_merge_merger_item n))) (ih_merge_merger_row : PSound Tryd.prog 30 (ospec (R_merge_merger_row n))) : PSound Tryd.prog 43 (ospec (R_merge_merger_item (n + 1))) := by
  have gok : ∀ f s, look? f [(59, S_merge_merger_conflict), (60, S_slices_Concat_sint), (30, ospec (R_merge_merger_row n))] = some s → PSound Tryd.prog f s := look_all (by
    simp only [List.forall_mem_cons]
    exact ⟨ok_merge_merger_conflict, ok_slices_Concat_sint, ih_merge_merger_row, by simp⟩)
  refine PSound.withNil (osound tokW Tryd.call43 Tryd.func43 rfl (fun xs os x os' h => by obtain ⟨_, _, _, _, _, _, _, _, _, rfl, rfl, _, rfl⟩ := h; exact ⟨by show 6 ≤ 99; decide, by show 2 ≤ 3; decide⟩) 99 rfl ?_) _
  rintro xs os x os' w0 G0 B0 ⟨⟨o1_take, o1_conflicts⟩, a2, a3, ⟨a4_kind, a4_text, a4_cols, a4_kids⟩, ⟨a5_kind, a5_text, a5_cols, a5_kids⟩, ⟨a6_kind, a6_text, a6_cols, a6_kids⟩, y0, z0, h, rfl, rfl, rfl, rfl⟩ _
  rw [m_merge_merger_item] at h
  refine tri_seq ?_
  refine tri_region (by exact tokW) (by exact gok) [] [] rfl ?_
  show Tri _ _ _ _
  refine tri_seq ?_
  refine tri_region (by exact tokW) (by exact gok) [13] [] rfl ?_
  show Tri _ _ _ _
  refine tri_seq ?_
  obtain ⟨fl, hj, ho1⟩ := bind_out h
  refine tri_fl (fl := fl) (fun z => match z with | x7 => ⟨ofL [(0, .op 0 0), (1, .s (.sl 1 ((List.map (irow .i64)) a2))), (2, .s (.int .i64 a3)), (9, .s (.pt [.int .i64 a4_kind, .str a4_text, .int .i64 a4_cols, .sl 4 (Nd.encs a4_kids)])), (10, .s (.pt [.int .i64 a5_kind, .str a5_text, .int .i64 a5_cols, .sl 4 (Nd.encs a5_kids)])), (11, .s (.pt [.int .i64 a6_kind, .str a6_text, .int .i64 a6_cols, .sl 4 (Nd.encs a6_kids)])), (13, .op 3 0)], ofH [(0, .box 48 [.s (.int .i64 o1_take), .orow 2]), (2, .row 35 5 ((List.map enc_api_Conflict) o1_conflicts)), (3, .box 24 [.s (.int .i64 a4_kind), .s (.str x7), .s (.int .i64 a4_cols), .nl 4])], 4⟩) ?_ (fun x7 σ' hz hle => ?_)
  · replace h := hj
    refine tri_block ?_
    refine tri_seq ?_
    refine tri_region (by exact tokW) (by exact gok) [] [] rfl ?_
    show Tri _ _ _ _
    refine tri_cond rfl (fun hb => ?_) (fun hb => ?_)
    · replace h := bif_t hb h
      refine tri_region (by exact tokW) (by exact gok) [] [] rfl ?_
      cases h
      exact ⟨_, rfl, (Le.rename [(0, 0), (1, 2), (2, 3)] _ _ _ ⟨rfl, rfl, rfl, rfl, rfl, rfl, rfl, trivial⟩ ⟨rfl, ⟨_, rfl, rfl⟩, rfl, ⟨_, rfl, rfl⟩, rfl, ⟨_, rfl, rfl⟩, trivial⟩ rfl rfl rfl rfl rfl)⟩
    · replace h := bif_f hb h
      refine tri_seq ?_
      obtain ⟨x8, hj, h⟩ := bind_out h
      refine tri_post ⟨ofL [(0, .op 0 0), (1, .s (.sl 1 ((List.map (irow .i64)) a2))), (2, .s (.int .i64 a3)), (9, .s (.pt [.int .i64 a4_kind, .str a4_text, .int .i64 a4_cols, .sl 4 (Nd.encs a4_kids)])), (10, .s (.pt [.int .i64 a5_kind, .str a5_text, .int .i64 a5_cols, .sl 4 (Nd.encs a5_kids)])), (11, .s (.pt [.int .i64 a6_kind, .str a6_text, .int .i64 a6_cols, .sl 4 (Nd.encs a6_kids)])), (13, .op 3 0), (41, .s (.bool x8))], ofH [(0, .box 48 [.s (.int .i64 o1_take), .orow 2]), (2, .row 35 5 ((List.map enc_api_Conflict) o1_conflicts)), (3, .box 24 [.s (.int .i64 a4_kind), .s (.str []), .s (.int .i64 a4_cols), .nl 4])], 4⟩ ?_ (fun σ' hle => ?_)
      · replace h := hj
        refine tri_region (by exact tokW) (by exact gok) [] [47] rfl ?_
        intro b hb
        cases b with
        | true =>
          replace h := bif_t hb.symm h
          cases h
          exact (Le.rename [(0, 0), (1, 2), (2, 3)] _ _ _ ⟨rfl, rfl, rfl, rfl, rfl, rfl, rfl, rfl, trivial⟩ ⟨rfl, ⟨_, rfl, rfl⟩, rfl, ⟨_, rfl, rfl⟩, rfl, ⟨_, rfl, rfl⟩, trivial⟩ rfl rfl rfl rfl rfl)
        | false =>
          replace h := bif_f hb.symm h
          cases h
          exact (Le.rename [(0, 0), (1, 2), (2, 3)] _ _ _ ⟨rfl, rfl, rfl, rfl, rfl, rfl, rfl, rfl, trivial⟩ ⟨rfl, ⟨_, rfl, rfl⟩, rfl, ⟨_, rfl, rfl⟩, rfl, ⟨_, rfl, rfl⟩, trivial⟩ rfl rfl rfl rfl rfl)
      · show Tri _ _ _ _
        refine tri_le hle ?_
        refine tri_cond rfl (fun hb => ?_) (fun hb => ?_)
        · replace h := bif_t hb h
          refine tri_region (by exact tokW) (by exact gok) [] [] rfl ?_
          cases h
          exact ⟨_, rfl, (Le.rename [(0, 0), (2, 2), (3, 3)] _ _ _ ⟨rfl, rfl, rfl, rfl, rfl, rfl, rfl, trivial⟩ ⟨rfl, ⟨_, rfl, rfl⟩, rfl, ⟨_, rfl, rfl⟩, rfl, ⟨_, rfl, rfl⟩, trivial⟩ rfl rfl rfl rfl rfl)⟩
        · replace h := bif_f hb h
          refine tri_seq ?_
          refine tri_region (by exact tokW) (by exact gok) [] [25, 27, 29] rfl ?_
          intro r9 hr9
          obtain rfl : Nd.encs [Nd.mk a4_kind a4_text a4_cols a4_kids] = r9 := (hr9.trans (by simp [List.map_append, List.map_take, List.map_drop, irow, brow, b8of_row, List.map_cons, List.map_nil, b8of_wrap, Nd.encs_eq, Nd.enc, enc_13_node_kind, enc_node_checker, enc_node_inner, enc_diff_grid, enc_s_int, enc_node_open, enc_2_int, enc_api_Conflict, enc_3_s_api_Node, enc_merge_merger])).symm
          intro r10 hr10
          obtain rfl : Nd.encs [Nd.mk a5_kind a5_text a5_cols a5_kids] = r10 := (hr10.trans (by simp [List.map_append, List.map_take, List.map_drop, irow, brow, b8of_row, List.map_cons, List.map_nil, b8of_wrap, Nd.encs_eq, Nd.enc, enc_13_node_kind, enc_node_checker, enc_node_inner, enc_diff_grid, enc_s_int, enc_node_open, enc_2_int, enc_api_Conflict, enc_3_s_api_Node, enc_merge_merger])).symm
          intro r11 hr11
          obtain rfl : Nd.encs [Nd.mk a6_kind a6_text a6_cols a6_kids] = r11 := (hr11.trans (by simp [List.map_append, List.map_take, List.map_drop, irow, brow, b8of_row, List.map_cons, List.map_nil, b8of_wrap, Nd.encs_eq, Nd.enc, enc_13_node_kind, enc_node_checker, enc_node_inner, enc_diff_grid, enc_s_int, enc_node_open, enc_2_int, enc_api_Conflict, enc_3_s_api_Node, enc_merge_merger])).symm
          obtain ⟨⟨y12, ⟨w13_take, w13_conflicts⟩⟩, hy12, h⟩ := bind_out h
          refine ⟨_, _, ⟨_, _, _, _, _, _, _, hy12, rfl, rfl, rfl, rfl⟩, ?_⟩
          show Tri _ _ _ _
          refine tri_ret ?_
          cases h
          replace h : some _ = some _ := ho1
          obtain ⟨hj1, hk1⟩ := Prod.mk.inj (Option.some.inj h)
          subst hj1
          subst hk1
          unfold GivesO
          exact ⟨_, (Le.rename [(0, 0), (4, 2)] [(12, .s (.sl 4 (Nd.encs y12)))] [(0, .box 48 [.s (.int .i64 w13_take), .orow 2]), (2, .row 35 5 ((List.map enc_api_Conflict) w13_conflicts))] 3 ⟨rfl, trivial⟩ ⟨rfl, ⟨_, rfl, rfl⟩, rfl, ⟨_, rfl, rfl⟩, trivial⟩ rfl rfl rfl rfl rfl), rfl, rfl, rfl, rfl, rfl, rfl, trivial⟩
  · subst hz
    replace h := ho1
    show Tri _ _ _ _
    refine tri_le hle ?_
    refine tri_seq ?_
    refine tri_seq ?_
    refine tri_region (by exact tokW) (by exact gok) [] [59] rfl ?_
    intro n14 hn14
    obtain rfl : (a4_kids.length : Int) = n14 := (hn14.trans (congrArg (fun m : Nat => (m : Int)) (rlen Nd.encs_eq a4_kids))).symm
    show Tri _ _ _ _
    obtain ⟨⟨x21, l22, l23⟩, hl, h⟩ := bind_out h
    refine tri_post ⟨ofL [(13, .op 3 0)], ofH [(0, .box 48 [.s (.int .i64 x21), .orow 2]), (2, .row 35 5 ((List.map enc_api_Conflict) l22)), (3, .box 24 [.s (.int .i64 a4_kind), .s (.str x7), .s (.int .i64 a4_cols), .orow 4]), (4, .row 24 4 (Nd.encs l23))], 5⟩ ?_ (fun σ' hle => ?_)
    · refine tri_block (tri_loopI (X := Nat × Int × Int × (List (List Int × Int × Int × List Nd × List Nd)) × (List Nd)) (fun y => match y with | (k, x15, x18, l19, l20) => ⟨ofL [(0, .op 0 0), (1, .s (.sl 1 ((List.map (irow .i64)) a2))), (2, .s (.int .i64 a3)), (9, .s (.pt [.int .i64 a4_kind, .str a4_text, .int .i64 a4_cols, .sl 4 (Nd.encs a4_kids)])), (10, .s (.pt [.int .i64 a5_kind, .str a5_text, .int .i64 a5_cols, .sl 4 (Nd.encs a5_kids)])), (11, .s (.pt [.int .i64 a6_kind, .str a6_text, .int .i64 a6_cols, .sl 4 (Nd.encs a6_kids)])), (13, .op 3 0), (59, .s (.int .i64 (a4_kids.length : Int))), (60, .s (.int .i64 x18))], ofH [(0, .box 48 [.s (.int .i64 x15), .orow 2]), (2, .row 35 5 ((List.map enc_api_Conflict) l19)), (3, .box 24 [.s (.int .i64 a4_kind), .s (.str x7), .s (.int .i64 a4_cols), .orow 4]), (4, .row 24 4 (Nd.encs l20))], 5⟩) (fun y => m_merge_merger_item_l1 (m_merge_merger_row n) n a2 a3 a4_kids a5_kids a6_kids y.1 y.2.1 y.2.2.1 y.2.2.2.1 y.2.2.2.2 = some (x21, l22, l23)) (fun y => y.1) (n, o1_take, 0, o1_conflicts, []) hl ?_ ?_)
      · exact (Le.trans (Le.trans (Le.rename [(0, 0), (2, 2), (3, 3)] [(0, .op 0 0), (1, .s (.sl 1 ((List.map (irow .i64)) a2))), (2, .s (.int .i64 a3)), (9, .s (.pt [.int .i64 a4_kind, .str a4_text, .int .i64 a4_cols, .sl 4 (Nd.encs a4_kids)])), (10, .s (.pt [.int .i64 a5_kind, .str a5_text, .int .i64 a5_cols, .sl 4 (Nd.encs a5_kids)])), (11, .s (.pt [.int .i64 a6_kind, .str a6_text, .int .i64 a6_cols, .sl 4 (Nd.encs a6_kids)])), (13, .op 3 0), (59, .s (.int .i64 (a4_kids.length : Int))), (60, .s (.int .i64 0))] [(0, .box 48 [.s (.int .i64 o1_take), .orow 2]), (2, .row 35 5 ((List.map enc_api_Conflict) o1_conflicts)), (3, .box 24 [.s (.int .i64 a4_kind), .s (.str x7), .s (.int .i64 a4_cols), .nl 4])] 4 ⟨rfl, rfl, rfl, rfl, rfl, rfl, rfl, rfl, rfl, trivial⟩ ⟨rfl, ⟨_, rfl, rfl⟩, rfl, ⟨_, rfl, rfl⟩, rfl, ⟨_, rfl, rfl⟩, trivial⟩ rfl rfl rfl rfl rfl) (Le.takeNil 3 3 24 rfl rfl (by decide))) (Le.rename [(0, 0), (2, 2), (3, 3), (4, 4)] _ _ _ ⟨rfl, rfl, rfl, rfl, rfl, rfl, rfl, rfl, rfl, trivial⟩ ⟨rfl, ⟨_, rfl, rfl⟩, rfl, ⟨_, rfl, rfl⟩, rfl, ⟨_, rfl, rfl⟩, rfl, ⟨_, rfl, congrArg (Ob.row 24 4) (by simp [List.map_append, List.map_take, List.map_drop, irow, brow, b8of_row, List.map_cons, List.map_nil, b8of_wrap, Nd.encs_eq, Nd.enc, enc_13_node_kind, enc_node_checker, enc_node_inner, enc_diff_grid, enc_s_int, enc_node_open, enc_2_int, enc_api_Conflict, enc_3_s_api_Node, enc_merge_merger])⟩, trivial⟩ rfl rfl rfl rfl rfl))
      · rintro ⟨k, x15, x18, l19, l20⟩ h
        cases k with
        | zero => cases h
        | succ k =>
          replace h : m_merge_merger_item_l1 (m_merge_merger_row n) n a2 a3 a4_kids a5_kids a6_kids (k+1) x15 x18 l19 l20 = some (x21, l22, l23) := h
          rw [m_merge_merger_item_l1] at h
          refine tri_seq ?_
          refine tri_region (by exact tokW) (by exact gok) [] [] rfl ?_
          show Tri _ _ _ _
          refine tri_seq ?_
          refine tri_cond rfl (fun hb => ?_) (fun hb => ?_)
          · replace h := bif_t hb h
            refine tri_skip ?_
            show Tri _ _ _ _
            refine tri_seq ?_
            refine tri_block ?_
            refine tri_seq ?_
            refine tri_region (by exact tokW) (by exact gok) [] [] rfl ?_
            show Tri _ _ _ _
            refine tri_seq ?_
            refine tri_drawn (by exact tokW) (by exact gok) (by exact mixed) [] [67, 68, 73, 79, 85] [25] rfl (by decide +kernel) ?_
            intro r24 hr24
            obtain rfl : (List.map (irow .i64)) [a3, x18] = r24 := (hr24.trans (by simp [List.map_append, List.map_take, List.map_drop, irow, brow, b8of_row, List.map_cons, List.map_nil, b8of_wrap, Nd.encs_eq, Nd.enc, enc_13_node_kind, enc_node_checker, enc_node_inner, enc_diff_grid, enc_s_int, enc_node_open, enc_2_int, enc_api_Conflict, enc_3_s_api_Node, enc_merge_merger])).symm
            intro r25 hr25
            obtain rfl : (List.map enc_s_int) [a2, [a3, x18]] = r25 := (hr25.trans (by simp [List.map_append, List.map_take, List.map_drop, irow, brow, b8of_row, List.map_cons, List.map_nil, b8of_wrap, Nd.encs_eq, Nd.enc, enc_13_node_kind, enc_node_checker, enc_node_inner, enc_diff_grid, enc_s_int, enc_node_open, enc_2_int, enc_api_Conflict, enc_3_s_api_Node, enc_merge_merger])).symm
            obtain ⟨y26, hy26, h⟩ := bind_out h
            refine ⟨_, ⟨_, _, _, hy26, rfl, rfl⟩, ?_⟩
            obtain ⟨⟨e27_kind, e27_text, e27_cols, e27_kids⟩, he27, h⟩ := bind_out h
            refine And.intro (at_ok Nd.encs_eq he27).1 ?_
            intro r28 hr28
            obtain rfl : [.int .i64 e27_kind, .str e27_text, .int .i64 e27_cols, .sl 4 (Nd.encs e27_kids)] = r28 := (hr28.trans (at_ok Nd.encs_eq he27).2.1).symm
            obtain ⟨⟨e29_kind, e29_text, e29_cols, e29_kids⟩, he29, h⟩ := bind_out h
            refine And.intro (at_ok Nd.encs_eq he29).1 ?_
            intro r30 hr30
            obtain rfl : [.int .i64 e29_kind, .str e29_text, .int .i64 e29_cols, .sl 4 (Nd.encs e29_kids)] = r30 := (hr30.trans (at_ok Nd.encs_eq he29).2.1).symm
            obtain ⟨⟨e31_kind, e31_text, e31_cols, e31_kids⟩, he31, h⟩ := bind_out h
            refine And.intro (at_ok Nd.encs_eq he31).1 ?_
            intro r32 hr32
            obtain rfl : [.int .i64 e31_kind, .str e31_text, .int .i64 e31_cols, .sl 4 (Nd.encs e31_kids)] = r32 := (hr32.trans (at_ok Nd.encs_eq he31).2.1).symm
            obtain ⟨⟨y33, ⟨w34_take, w34_conflicts⟩⟩, hy33, h⟩ := bind_out h
            refine ⟨_, _, ⟨_, _, _, _, _, _, _, hy33, rfl, rfl, rfl, rfl⟩, ?_⟩
            show Tri _ _ _ _
            refine tri_le (Le.trans (Le.rename [(0, 0), (5, 2), (3, 3), (4, 4), (6, 5)] [(0, .op 0 0), (1, .s (.sl 1 ((List.map (irow .i64)) a2))), (2, .s (.int .i64 a3)), (9, .s (.pt [.int .i64 a4_kind, .str a4_text, .int .i64 a4_cols, .sl 4 (Nd.encs a4_kids)])), (10, .s (.pt [.int .i64 a5_kind, .str a5_text, .int .i64 a5_cols, .sl 4 (Nd.encs a5_kids)])), (11, .s (.pt [.int .i64 a6_kind, .str a6_text, .int .i64 a6_cols, .sl 4 (Nd.encs a6_kids)])), (13, .op 3 0), (15, .orow 5), (59, .s (.int .i64 (a4_kids.length : Int))), (60, .s (.int .i64 x18))] [(0, .box 48 [.s (.int .i64 w34_take), .orow 2]), (2, .row 35 5 ((List.map enc_api_Conflict) w34_conflicts)), (3, .box 24 [.s (.int .i64 a4_kind), .s (.str x7), .s (.int .i64 a4_cols), .orow 4]), (4, .row 24 4 (Nd.encs l20)), (5, .row 24 4 (Nd.encs y33))] 6 ⟨rfl, rfl, rfl, rfl, rfl, rfl, rfl, rfl, rfl, rfl, trivial⟩ ⟨rfl, ⟨_, rfl, rfl⟩, rfl, ⟨_, rfl, rfl⟩, rfl, ⟨_, rfl, rfl⟩, rfl, ⟨_, rfl, rfl⟩, rfl, ⟨_, rfl, rfl⟩, trivial⟩ rfl rfl rfl rfl rfl) (Le.giveRow 5 rfl)) ?_
            refine tri_region (by exact tokW) (by exact gok) [94] [93] rfl ?_
            intro r35 hr35
            obtain rfl : Nd.encs [Nd.mk 1 [] 0 y33] = r35 := (hr35.trans (by simp [List.map_append, List.map_take, List.map_drop, irow, brow, b8of_row, List.map_cons, List.map_nil, b8of_wrap, Nd.encs_eq, Nd.enc, enc_13_node_kind, enc_node_checker, enc_node_inner, enc_diff_grid, enc_s_int, enc_node_open, enc_2_int, enc_api_Conflict, enc_3_s_api_Node, enc_merge_merger])).symm
            obtain ⟨hq, h⟩ := req_out h
            refine And.intro (show ((Nd.encs l20).length + (Nd.encs [Nd.mk 1 [] 0 y33]).length) * 56 ≤ 140737488355328 ∧ (Nd.encs l20).length + (Nd.encs [Nd.mk 1 [] 0 y33]).length ≤ 9223372036854775807 from by simp only [List.length_append, List.length_cons, List.length_nil, List.length_map, rlen Nd.encs_eq] at hq ⊢; omega) ?_
            show Tri _ _ _ _
            refine tri_le (Le.rename [(0, 0), (2, 2), (3, 3), (6, 4)] [(0, .op 0 0), (1, .s (.sl 1 ((List.map (irow .i64)) a2))), (2, .s (.int .i64 a3)), (9, .s (.pt [.int .i64 a4_kind, .str a4_text, .int .i64 a4_cols, .sl 4 (Nd.encs a4_kids)])), (10, .s (.pt [.int .i64 a5_kind, .str a5_text, .int .i64 a5_cols, .sl 4 (Nd.encs a5_kids)])), (11, .s (.pt [.int .i64 a6_kind, .str a6_text, .int .i64 a6_cols, .sl 4 (Nd.encs a6_kids)])), (13, .op 3 0), (59, .s (.int .i64 (a4_kids.length : Int))), (60, .s (.int .i64 x18))] [(0, .box 48 [.s (.int .i64 w34_take), .orow 2]), (2, .row 35 5 ((List.map enc_api_Conflict) w34_conflicts)), (3, .box 24 [.s (.int .i64 a4_kind), .s (.str x7), .s (.int .i64 a4_cols), .orow 4]), (4, .row 24 4 (Nd.encs (l20 ++ [Nd.mk 1 [] 0 y33])))] 5 ⟨rfl, rfl, rfl, rfl, rfl, rfl, rfl, rfl, rfl, trivial⟩ ⟨rfl, ⟨_, rfl, rfl⟩, rfl, ⟨_, rfl, rfl⟩, rfl, ⟨_, rfl, rfl⟩, rfl, ⟨_, rfl, congrArg (Ob.row 24 4) (by simp [List.map_append, List.map_take, List.map_drop, irow, brow, b8of_row, List.map_cons, List.map_nil, b8of_wrap, Nd.encs_eq, Nd.enc, enc_13_node_kind, enc_node_checker, enc_node_inner, enc_diff_grid, enc_s_int, enc_node_open, enc_2_int, enc_api_Conflict, enc_3_s_api_Node, enc_merge_merger])⟩, trivial⟩ rfl rfl rfl rfl rfl) ?_
            refine tri_region (by exact tokW) (by exact gok) [] [] rfl ?_
            refine ⟨(k, w34_take, IntKind.i64.wrap (x18 + 1), w34_conflicts, l20 ++ [Nd.mk 1 [] 0 y33]), h, (Le.rename [(0, 0), (2, 2), (3, 3), (4, 4)] _ _ _ ⟨rfl, rfl, rfl, rfl, rfl, rfl, rfl, rfl, rfl, trivial⟩ ⟨rfl, ⟨_, rfl, rfl⟩, rfl, ⟨_, rfl, rfl⟩, rfl, ⟨_, rfl, rfl⟩, rfl, ⟨_, rfl, rfl⟩, trivial⟩ rfl rfl rfl rfl rfl), Nat.lt_succ_self k⟩
          · replace h := bif_f hb h
            refine tri_exit ?_
            cases h
            exact (Le.rename [(0, 0), (2, 2), (3, 3), (4, 4)] _ _ _ ⟨rfl, trivial⟩ ⟨rfl, ⟨_, rfl, rfl⟩, rfl, ⟨_, rfl, rfl⟩, rfl, ⟨_, rfl, rfl⟩, rfl, ⟨_, rfl, rfl⟩, trivial⟩ rfl rfl rfl rfl rfl)
    · show Tri _ _ _ _
      refine tri_le hle ?_
      refine tri_seq ?_
      refine tri_le (Le.trans (Le.rename [(0, 0), (2, 2), (3, 3), (4, 4)] [(13, .op 3 0)] [(0, .box 48 [.s (.int .i64 x21), .orow 2]), (2, .row 35 5 ((List.map enc_api_Conflict) l22)), (3, .box 24 [.s (.int .i64 a4_kind), .s (.str x7), .s (.int .i64 a4_cols), .orow 4]), (4, .row 24 4 (Nd.encs l23))] 5 ⟨rfl, trivial⟩ ⟨rfl, ⟨_, rfl, rfl⟩, rfl, ⟨_, rfl, rfl⟩, rfl, ⟨_, rfl, rfl⟩, rfl, ⟨_, rfl, rfl⟩, trivial⟩ rfl rfl rfl rfl rfl) (Le.giveRow 4 rfl)) ?_
      refine tri_le (Le.trans (Le.rename [(0, 0), (2, 2), (3, 3)] [(13, .op 3 0)] [(0, .box 48 [.s (.int .i64 x21), .orow 2]), (2, .row 35 5 ((List.map enc_api_Conflict) l22)), (3, .box 24 [.s (.int .i64 a4_kind), .s (.str x7), .s (.int .i64 a4_cols), .s (.sl 4 (Nd.encs l23))])] 4 ⟨rfl, trivial⟩ ⟨rfl, ⟨_, rfl, rfl⟩, rfl, ⟨_, rfl, rfl⟩, rfl, ⟨_, rfl, rfl⟩, trivial⟩ rfl rfl rfl rfl rfl) (Le.giveBox 3 [.int .i64 a4_kind, .str x7, .int .i64 a4_cols, .sl 4 (Nd.encs l23)] rfl rfl)) ?_
      refine tri_region (by exact tokW) (by exact gok) [] [98] rfl ?_
      intro r36 hr36
      obtain rfl : Nd.encs [Nd.mk a4_kind x7 a4_cols l23] = r36 := (hr36.trans (by simp [List.map_append, List.map_take, List.map_drop, irow, brow, b8of_row, List.map_cons, List.map_nil, b8of_wrap, Nd.encs_eq, Nd.enc, enc_13_node_kind, enc_node_checker, enc_node_inner, enc_diff_grid, enc_s_int, enc_node_open, enc_2_int, enc_api_Conflict, enc_3_s_api_Node, enc_merge_merger])).symm
      show Tri _ _ _ _
      refine tri_ret ?_
      obtain ⟨hj1, hk1⟩ := Prod.mk.inj (Option.some.inj h)
      subst hj1
      subst hk1
      unfold GivesO
      exact ⟨_, (Le.rename [(0, 0), (2, 2)] [(12, .s (.sl 4 (Nd.encs [Nd.mk a4_kind x7 a4_cols l23])))] [(0, .box 48 [.s (.int .i64 x21), .orow 2]), (2, .row 35 5 ((List.map enc_api_Conflict) l22))] 3 ⟨rfl, trivial⟩ ⟨rfl, ⟨_, rfl, rfl⟩, rfl, ⟨_, rfl, rfl⟩, trivial⟩ rfl rfl rfl rfl rfl), rfl, rfl, rfl, rfl, rfl, rfl, trivial⟩
set_option maxHeartbeats 2000000 in
set_option maxRecDepth 100000 in
theorem step_merge_merger_row (n : Nat) (ih_merge_merger_item : PSound Tryd.prog 43 (ospec (R_merge_merger_item n))) (ih_merge_merger_row : PSound Tryd.prog 30 (ospec (R_merge_merger_row n))) : PSound Tryd.prog 30 (ospec (R_merge_merger_row (n + 1))) := by
  have gok : ∀ f s, look? f [(41, S_merge_partners), (42, S_merge_merger_part), (43, ospec (R_merge_merger_item n))] = some s → PSound Tryd.prog f s := look_all (by
    simp only [List.forall_mem_cons]
    exact ⟨ok_merge_partners, ok_merge_merger_part, ih_merge_merger_item, by simp⟩)
  refine PSound.withNil (osound tokW Tryd.call30 Tryd.func30 rfl (fun xs os x os' h => by obtain ⟨_, _, _, _, _, _, _, _, rfl, rfl, _, rfl⟩ := h; exact ⟨by show 5 ≤ 121; decide, by show 2 ≤ 4; decide⟩) 121 rfl ?_) _
  rintro xs os x os' w0 G0 B0 ⟨⟨o1_take, o1_conflicts⟩, a2, a3, a4, a5, y0, z0, h, rfl, rfl, rfl, rfl⟩ _
  rw [m_merge_merger_row] at h
  refine tri_seq ?_
  refine tri_region (by exact tokW) (by exact gok) [10] [] rfl ?_
  show Tri _ _ _ _
  refine tri_le (Le.rename [(0, 0), (1, 2)] [(0, .op 0 0), (1, .s (.sl 1 ((List.map (irow .i64)) a2))), (2, .s (.sl 4 (Nd.encs a3))), (3, .s (.sl 4 (Nd.encs a4))), (4, .s (.sl 4 (Nd.encs a5)))] [(0, .box 48 [.s (.int .i64 o1_take), .orow 2]), (2, .row 35 5 ((List.map enc_api_Conflict) o1_conflicts))] 3 ⟨rfl, rfl, rfl, rfl, rfl, trivial⟩ ⟨rfl, ⟨_, rfl, rfl⟩, rfl, ⟨_, rfl, rfl⟩, trivial⟩ rfl rfl rfl rfl rfl) ?_
  refine tri_seq ?_
  refine tri_region (by exact tokW) (by exact gok) [] [] rfl ?_
  obtain ⟨y6, hy6, h⟩ := bind_out h
  refine ⟨_, ⟨_, _, _, _, hy6, rfl, rfl⟩, ?_⟩
  obtain ⟨y7, hy7, h⟩ := bind_out h
  refine ⟨_, ⟨_, _, _, _, hy7, rfl, rfl⟩, ?_⟩
  show Tri _ _ _ _
  refine tri_seq ?_
  refine tri_region (by exact tokW) (by exact gok) [13] [] rfl ?_
  show Tri _ _ _ _
  refine tri_le (Le.rename [(0, 0), (2, 2), (3, 3)] [(0, .op 0 0), (1, .s (.sl 1 ((List.map (irow .i64)) a2))), (2, .s (.sl 4 (Nd.encs a3))), (3, .s (.sl 4 (Nd.encs a4))), (4, .s (.sl 4 (Nd.encs a5))), (11, .s (.sl 1 ((List.map (irow .i64)) y6))), (12, .s (.sl 1 ((List.map (irow .i64)) y7))), (13, .orow 3)] [(0, .box 48 [.s (.int .i64 o1_take), .orow 2]), (2, .row 35 5 ((List.map enc_api_Conflict) o1_conflicts)), (3, .row 24 4 (Nd.encs []))] 4 ⟨rfl, rfl, rfl, rfl, rfl, rfl, rfl, rfl, trivial⟩ ⟨rfl, ⟨_, rfl, rfl⟩, rfl, ⟨_, rfl, rfl⟩, rfl, ⟨_, rfl, congrArg (Ob.row 24 4) (by simp [List.map_append, List.map_take, List.map_drop, irow, brow, b8of_row, List.map_cons, List.map_nil, b8of_wrap, Nd.encs_eq, Nd.enc, enc_13_node_kind, enc_node_checker, enc_node_inner, enc_diff_grid, enc_s_int, enc_node_open, enc_2_int, enc_api_Conflict, enc_3_s_api_Node, enc_merge_merger])⟩, trivial⟩ rfl rfl rfl rfl rfl) ?_
  refine tri_seq ?_
  refine tri_region (by exact tokW) (by exact gok) [] [] rfl ?_
  show Tri _ _ _ _
  refine tri_seq ?_
  refine tri_seq ?_
  refine tri_region (by exact tokW) (by exact gok) [] [26] rfl ?_
  intro n8 hn8
  obtain rfl : (a3.length : Int) = n8 := (hn8.trans (congrArg (fun m : Nat => (m : Int)) (rlen Nd.encs_eq a3))).symm
  show Tri _ _ _ _
  obtain ⟨⟨x18, x19, x20, x21, l22, l23⟩, hl, h⟩ := bind_out h
  refine tri_post ⟨ofL [(0, .op 0 0), (1, .s (.sl 1 ((List.map (irow .i64)) a2))), (2, .s (.sl 4 (Nd.encs a3))), (3, .s (.sl 4 (Nd.encs a4))), (4, .s (.sl 4 (Nd.encs a5))), (13, .orow 3), (14, .s (.int .i64 x18)), (15, .s (.int .i64 x19)), (16, .s (.int .i64 x20))], ofH [(0, .box 48 [.s (.int .i64 x21), .orow 2]), (2, .row 35 5 ((List.map enc_api_Conflict) l22)), (3, .row 24 4 (Nd.encs l23))], 4⟩ ?_ (fun σ' hle => ?_)
  · refine tri_block (tri_loopI (X := Nat × Int × Int × Int × Int × Int × (List (List Int × Int × Int × List Nd × List Nd)) × (List Nd)) (fun y => match y with | (k, x9, x12, x13, x14, x15, l16, l17) => ⟨ofL [(0, .op 0 0), (1, .s (.sl 1 ((List.map (irow .i64)) a2))), (2, .s (.sl 4 (Nd.encs a3))), (3, .s (.sl 4 (Nd.encs a4))), (4, .s (.sl 4 (Nd.encs a5))), (11, .s (.sl 1 ((List.map (irow .i64)) y6))), (12, .s (.sl 1 ((List.map (irow .i64)) y7))), (13, .orow 3), (14, .s (.int .i64 x12)), (15, .s (.int .i64 x13)), (16, .s (.int .i64 x14)), (26, .s (.int .i64 (a3.length : Int))), (27, .s (.int .i64 x15))], ofH [(0, .box 48 [.s (.int .i64 x9), .orow 2]), (2, .row 35 5 ((List.map enc_api_Conflict) l16)), (3, .row 24 4 (Nd.encs l17))], 4⟩) (fun y => m_merge_merger_row_l1 (m_merge_merger_item n) n a2 a3 a4 a5 y6 y7 y.1 y.2.1 y.2.2.1 y.2.2.2.1 y.2.2.2.2.1 y.2.2.2.2.2.1 y.2.2.2.2.2.2.1 y.2.2.2.2.2.2.2 = some (x18, x19, x20, x21, l22, l23)) (fun y => y.1) (n, o1_take, 0, 0, 0, 0, o1_conflicts, []) hl ?_ ?_)
    · exact (Le.rename [(0, 0), (2, 2), (3, 3)] _ _ _ ⟨rfl, rfl, rfl, rfl, rfl, rfl, rfl, rfl, rfl, rfl, rfl, rfl, rfl, trivial⟩ ⟨rfl, ⟨_, rfl, rfl⟩, rfl, ⟨_, rfl, rfl⟩, rfl, ⟨_, rfl, rfl⟩, trivial⟩ rfl rfl rfl rfl rfl)
    · rintro ⟨k, x9, x12, x13, x14, x15, l16, l17⟩ h
      cases k with
      | zero => cases h
      | succ k =>
        replace h : m_merge_merger_row_l1 (m_merge_merger_item n) n a2 a3 a4 a5 y6 y7 (k+1) x9 x12 x13 x14 x15 l16 l17 = some (x18, x19, x20, x21, l22, l23) := h
        rw [m_merge_merger_row_l1] at h
        refine tri_seq ?_
        refine tri_region (by exact tokW) (by exact gok) [] [] rfl ?_
        show Tri _ _ _ _
        refine tri_seq ?_
        refine tri_cond rfl (fun hb => ?_) (fun hb => ?_)
        · replace h := bif_t hb h
          refine tri_skip ?_
          show Tri _ _ _ _
          refine tri_seq ?_
          obtain ⟨⟨x24, x25, x26, x27, l28, l29⟩, hj, h⟩ := bind_out h
          refine tri_post ⟨ofL [(0, .op 0 0), (1, .s (.sl 1 ((List.map (irow .i64)) a2))), (2, .s (.sl 4 (Nd.encs a3))), (3, .s (.sl 4 (Nd.encs a4))), (4, .s (.sl 4 (Nd.encs a5))), (11, .s (.sl 1 ((List.map (irow .i64)) y6))), (12, .s (.sl 1 ((List.map (irow .i64)) y7))), (13, .orow 3), (14, .s (.int .i64 x24)), (15, .s (.int .i64 x25)), (16, .s (.int .i64 x26)), (26, .s (.int .i64 (a3.length : Int))), (27, .s (.int .i64 x15))], ofH [(0, .box 48 [.s (.int .i64 x27), .orow 2]), (2, .row 35 5 ((List.map enc_api_Conflict) l28)), (3, .row 24 4 (Nd.encs l29))], 4⟩ ?_ (fun σ' hle => ?_)
          · replace h := hj
            refine tri_block ?_
            refine tri_seq ?_
            refine tri_region (by exact tokW) (by exact gok) [] [] rfl ?_
            show Tri _ _ _ _
            refine tri_seq ?_
            refine tri_seq ?_
            obtain ⟨x30, hj, h⟩ := bind_out h
            refine tri_post ⟨ofL [(0, .op 0 0), (1, .s (.sl 1 ((List.map (irow .i64)) a2))), (2, .s (.sl 4 (Nd.encs a3))), (3, .s (.sl 4 (Nd.encs a4))), (4, .s (.sl 4 (Nd.encs a5))), (11, .s (.sl 1 ((List.map (irow .i64)) y6))), (12, .s (.sl 1 ((List.map (irow .i64)) y7))), (13, .orow 3), (14, .s (.int .i64 x12)), (15, .s (.int .i64 x13)), (16, .s (.int .i64 x14)), (17, .s (.int .i64 x15)), (26, .s (.int .i64 (a3.length : Int))), (27, .s (.int .i64 x15)), (41, .s (.bool x30))], ofH [(0, .box 48 [.s (.int .i64 x9), .orow 2]), (2, .row 35 5 ((List.map enc_api_Conflict) l16)), (3, .row 24 4 (Nd.encs l17))], 4⟩ ?_ (fun σ' hle => ?_)
            · replace h := hj
              refine tri_region (by exact tokW) (by exact gok) [] [32, 35, 38] rfl ?_
              obtain ⟨e31, he31, h⟩ := bind_out h
              refine And.intro (at_ok (fun _ => rfl) he31).1 ?_
              intro r32 hr32
              obtain rfl : [.int .i64 e31] = r32 := (hr32.trans (at_ok (fun _ => rfl) he31).2.1).symm
              intro b hb
              cases b with
              | true =>
                replace h := bif_t hb.symm h
                cases h
                exact (Le.rename [(0, 0), (2, 2), (3, 3)] _ _ _ ⟨rfl, rfl, rfl, rfl, rfl, rfl, rfl, rfl, rfl, rfl, rfl, rfl, rfl, rfl, rfl, trivial⟩ ⟨rfl, ⟨_, rfl, rfl⟩, rfl, ⟨_, rfl, rfl⟩, rfl, ⟨_, rfl, rfl⟩, trivial⟩ rfl rfl rfl rfl rfl)
              | false =>
                replace h := bif_f hb.symm h
                obtain ⟨e33, he33, h⟩ := bind_out h
                refine And.intro (at_ok (fun _ => rfl) he33).1 ?_
                intro r34 hr34
                obtain rfl : [.int .i64 e33] = r34 := (hr34.trans (at_ok (fun _ => rfl) he33).2.1).symm
                cases h
                exact (Le.rename [(0, 0), (2, 2), (3, 3)] _ _ _ ⟨rfl, rfl, rfl, rfl, rfl, rfl, rfl, rfl, rfl, rfl, rfl, rfl, rfl, rfl, rfl, trivial⟩ ⟨rfl, ⟨_, rfl, rfl⟩, rfl, ⟨_, rfl, rfl⟩, rfl, ⟨_, rfl, rfl⟩, trivial⟩ rfl rfl rfl rfl rfl)
            · show Tri _ _ _ _
              refine tri_le hle ?_
              refine tri_cond rfl (fun hb => ?_) (fun hb => ?_)
              · replace h := bif_t hb h
                refine tri_exit ?_
                cases h
                exact (Le.rename [(0, 0), (2, 2), (3, 3)] _ _ _ ⟨rfl, rfl, rfl, rfl, rfl, rfl, rfl, rfl, rfl, rfl, rfl, rfl, rfl, trivial⟩ ⟨rfl, ⟨_, rfl, rfl⟩, rfl, ⟨_, rfl, rfl⟩, rfl, ⟨_, rfl, rfl⟩, trivial⟩ rfl rfl rfl rfl rfl)
              · replace h := bif_f hb h
                refine tri_skip ?_
                show Tri _ _ _ _
                refine tri_seq ?_
                refine tri_drawnR (by exact tokW) (by exact gok) (by exact mixed) [18] [45, 50, 52, 57, 59] [19, 20] [] rfl (by decide +kernel) ?_
                obtain ⟨hq, h⟩ := req_out h
                refine And.intro ⟨hq.1, hq.2.1, Int.le_trans hq.2.2 (Int.ofNat_le.2 (Nat.le_of_eq (rlen Nd.encs_eq _).symm))⟩ ?_
                intro r35 hr35
                obtain rfl : Nd.encs ((a3.take x15.toNat).drop x12.toNat) = r35 := (hr35.trans (rcut Nd.encs_eq _ _ _)).symm
                obtain ⟨e36, he36, h⟩ := bind_out h
                refine And.intro (at_ok (fun _ => rfl) he36).1 ?_
                intro r37 hr37
                obtain rfl : [.int .i64 e36] = r37 := (hr37.trans (at_ok (fun _ => rfl) he36).2.1).symm
                obtain ⟨hq, h⟩ := req_out h
                refine And.intro ⟨hq.1, hq.2.1, Int.le_trans hq.2.2 (Int.ofNat_le.2 (Nat.le_of_eq (rlen Nd.encs_eq _).symm))⟩ ?_
                intro r38 hr38
                obtain rfl : Nd.encs ((a4.take e36.toNat).drop x13.toNat) = r38 := (hr38.trans (rcut Nd.encs_eq _ _ _)).symm
                obtain ⟨e39, he39, h⟩ := bind_out h
                refine And.intro (at_ok (fun _ => rfl) he39).1 ?_
                intro r40 hr40
                obtain rfl : [.int .i64 e39] = r40 := (hr40.trans (at_ok (fun _ => rfl) he39).2.1).symm
                obtain ⟨hq, h⟩ := req_out h
                refine And.intro ⟨hq.1, hq.2.1, Int.le_trans hq.2.2 (Int.ofNat_le.2 (Nat.le_of_eq (rlen Nd.encs_eq _).symm))⟩ ?_
                intro r41 hr41
                obtain rfl : Nd.encs ((a5.take e39.toNat).drop x14.toNat) = r41 := (hr41.trans (rcut Nd.encs_eq _ _ _)).symm
                show Tri _ _ _ _
                refine tri_le (Le.giveBox 4 [.sl 4 (Nd.encs ((a3.take x15.toNat).drop x12.toNat)), .sl 4 (Nd.encs ((a4.take e36.toNat).drop x13.toNat)), .sl 4 (Nd.encs ((a5.take e39.toNat).drop x14.toNat))] rfl rfl) ?_
                refine tri_seq ?_
                refine tri_region (by exact tokW) (by exact gok) [67] [] rfl ?_
                obtain ⟨⟨y42, ⟨w43_take, w43_conflicts⟩⟩, hy42, h⟩ := bind_out h
                refine ⟨_, _, ⟨_, _, _, _, _, _, _, hy42, rfl, rfl, rfl, rfl⟩, ?_⟩
                obtain ⟨hq, h⟩ := req_out h
                refine And.intro (show ((Nd.encs l17).length + (Nd.encs y42).length) * 56 ≤ 140737488355328 ∧ (Nd.encs l17).length + (Nd.encs y42).length ≤ 9223372036854775807 from by simp only [List.length_append, List.length_cons, List.length_nil, List.length_map, rlen Nd.encs_eq] at hq ⊢; omega) ?_
                show Tri _ _ _ _
                refine tri_le (Le.rename [(0, 0), (5, 2), (6, 3)] [(0, .op 0 0), (1, .s (.sl 1 ((List.map (irow .i64)) a2))), (2, .s (.sl 4 (Nd.encs a3))), (3, .s (.sl 4 (Nd.encs a4))), (4, .s (.sl 4 (Nd.encs a5))), (11, .s (.sl 1 ((List.map (irow .i64)) y6))), (12, .s (.sl 1 ((List.map (irow .i64)) y7))), (13, .orow 3), (17, .s (.int .i64 x15)), (26, .s (.int .i64 (a3.length : Int))), (27, .s (.int .i64 x15))] [(0, .box 48 [.s (.int .i64 w43_take), .orow 2]), (2, .row 35 5 ((List.map enc_api_Conflict) w43_conflicts)), (3, .row 24 4 (Nd.encs (l17 ++ y42)))] 4 ⟨rfl, rfl, rfl, rfl, rfl, rfl, rfl, rfl, rfl, rfl, rfl, trivial⟩ ⟨rfl, ⟨_, rfl, rfl⟩, rfl, ⟨_, rfl, rfl⟩, rfl, ⟨_, rfl, congrArg (Ob.row 24 4) (by simp [List.map_append, List.map_take, List.map_drop, irow, brow, b8of_row, List.map_cons, List.map_nil, b8of_wrap, Nd.encs_eq, Nd.enc, enc_13_node_kind, enc_node_checker, enc_node_inner, enc_diff_grid, enc_s_int, enc_node_open, enc_2_int, enc_api_Conflict, enc_3_s_api_Node, enc_merge_merger])⟩, trivial⟩ rfl rfl rfl rfl rfl) ?_
                refine tri_seq ?_
                refine tri_drawn (by exact tokW) (by exact gok) (by exact mixed) [91] [74, 79, 81, 86, 88] [22, 23] rfl (by decide +kernel) ?_
                obtain ⟨⟨e44_kind, e44_text, e44_cols, e44_kids⟩, he44, h⟩ := bind_out h
                refine And.intro (at_ok Nd.encs_eq he44).1 ?_
                intro r45 hr45
                obtain rfl : [.int .i64 e44_kind, .str e44_text, .int .i64 e44_cols, .sl 4 (Nd.encs e44_kids)] = r45 := (hr45.trans (at_ok Nd.encs_eq he44).2.1).symm
                obtain ⟨e46, he46, h⟩ := bind_out h
                refine And.intro (at_ok (fun _ => rfl) he46).1 ?_
                intro r47 hr47
                obtain rfl : [.int .i64 e46] = r47 := (hr47.trans (at_ok (fun _ => rfl) he46).2.1).symm
                obtain ⟨⟨e48_kind, e48_text, e48_cols, e48_kids⟩, he48, h⟩ := bind_out h
                refine And.intro (at_ok Nd.encs_eq he48).1 ?_
                intro r49 hr49
                obtain rfl : [.int .i64 e48_kind, .str e48_text, .int .i64 e48_cols, .sl 4 (Nd.encs e48_kids)] = r49 := (hr49.trans (at_ok Nd.encs_eq he48).2.1).symm
                obtain ⟨e50, he50, h⟩ := bind_out h
                refine And.intro (at_ok (fun _ => rfl) he50).1 ?_
                intro r51 hr51
                obtain rfl : [.int .i64 e50] = r51 := (hr51.trans (at_ok (fun _ => rfl) he50).2.1).symm
                obtain ⟨⟨e52_kind, e52_text, e52_cols, e52_kids⟩, he52, h⟩ := bind_out h
                refine And.intro (at_ok Nd.encs_eq he52).1 ?_
                intro r53 hr53
                obtain rfl : [.int .i64 e52_kind, .str e52_text, .int .i64 e52_cols, .sl 4 (Nd.encs e52_kids)] = r53 := (hr53.trans (at_ok Nd.encs_eq he52).2.1).symm
                obtain ⟨⟨y54, ⟨w55_take, w55_conflicts⟩⟩, hy54, h⟩ := bind_out h
                refine ⟨_, _, ⟨_, _, _, _, _, _, _, _, hy54, rfl, rfl, rfl, rfl⟩, ?_⟩
                obtain ⟨hq, h⟩ := req_out h
                refine And.intro (show ((Nd.encs (l17 ++ y42)).length + (Nd.encs y54).length) * 56 ≤ 140737488355328 ∧ (Nd.encs (l17 ++ y42)).length + (Nd.encs y54).length ≤ 9223372036854775807 from by simp only [List.length_append, List.length_cons, List.length_nil, List.length_map, rlen Nd.encs_eq] at hq ⊢; omega) ?_
                show Tri _ _ _ _
                refine tri_le (Le.rename [(0, 0), (4, 2), (5, 3)] [(0, .op 0 0), (1, .s (.sl 1 ((List.map (irow .i64)) a2))), (2, .s (.sl 4 (Nd.encs a3))), (3, .s (.sl 4 (Nd.encs a4))), (4, .s (.sl 4 (Nd.encs a5))), (11, .s (.sl 1 ((List.map (irow .i64)) y6))), (12, .s (.sl 1 ((List.map (irow .i64)) y7))), (13, .orow 3), (17, .s (.int .i64 x15)), (26, .s (.int .i64 (a3.length : Int))), (27, .s (.int .i64 x15))] [(0, .box 48 [.s (.int .i64 w55_take), .orow 2]), (2, .row 35 5 ((List.map enc_api_Conflict) w55_conflicts)), (3, .row 24 4 (Nd.encs ((l17 ++ y42) ++ y54)))] 4 ⟨rfl, rfl, rfl, rfl, rfl, rfl, rfl, rfl, rfl, rfl, rfl, trivial⟩ ⟨rfl, ⟨_, rfl, rfl⟩, rfl, ⟨_, rfl, rfl⟩, rfl, ⟨_, rfl, congrArg (Ob.row 24 4) (by simp [List.map_append, List.map_take, List.map_drop, irow, brow, b8of_row, List.map_cons, List.map_nil, b8of_wrap, Nd.encs_eq, Nd.enc, enc_13_node_kind, enc_node_checker, enc_node_inner, enc_diff_grid, enc_s_int, enc_node_open, enc_2_int, enc_api_Conflict, enc_3_s_api_Node, enc_merge_merger])⟩, trivial⟩ rfl rfl rfl rfl rfl) ?_
                refine tri_drawn (by exact tokW) (by exact gok) (by exact mixed) [] [96, 101] [] rfl (by decide +kernel) ?_
                obtain ⟨e56, he56, h⟩ := bind_out h
                refine And.intro (at_ok (fun _ => rfl) he56).1 ?_
                intro r57 hr57
                obtain rfl : [.int .i64 e56] = r57 := (hr57.trans (at_ok (fun _ => rfl) he56).2.1).symm
                obtain ⟨e58, he58, h⟩ := bind_out h
                refine And.intro (at_ok (fun _ => rfl) he58).1 ?_
                intro r59 hr59
                obtain rfl : [.int .i64 e58] = r59 := (hr59.trans (at_ok (fun _ => rfl) he58).2.1).symm
                cases h
                exact (Le.rename [(0, 0), (2, 2), (3, 3)] _ _ _ ⟨rfl, rfl, rfl, rfl, rfl, rfl, rfl, rfl, rfl, rfl, rfl, rfl, rfl, trivial⟩ ⟨rfl, ⟨_, rfl, rfl⟩, rfl, ⟨_, rfl, rfl⟩, rfl, ⟨_, rfl, rfl⟩, trivial⟩ rfl rfl rfl rfl rfl)
          · show Tri _ _ _ _
            refine tri_le hle ?_
            refine tri_region (by exact tokW) (by exact gok) [] [] rfl ?_
            refine ⟨(k, x27, x24, x25, x26, IntKind.i64.wrap (x15 + 1), l28, l29), h, (Le.rename [(0, 0), (2, 2), (3, 3)] _ _ _ ⟨rfl, rfl, rfl, rfl, rfl, rfl, rfl, rfl, rfl, rfl, rfl, rfl, rfl, trivial⟩ ⟨rfl, ⟨_, rfl, rfl⟩, rfl, ⟨_, rfl, rfl⟩, rfl, ⟨_, rfl, rfl⟩, trivial⟩ rfl rfl rfl rfl rfl), Nat.lt_succ_self k⟩
        · replace h := bif_f hb h
          refine tri_exit ?_
          cases h
          exact (Le.rename [(0, 0), (2, 2), (3, 3)] _ _ _ ⟨rfl, rfl, rfl, rfl, rfl, rfl, rfl, rfl, rfl, trivial⟩ ⟨rfl, ⟨_, rfl, rfl⟩, rfl, ⟨_, rfl, rfl⟩, rfl, ⟨_, rfl, rfl⟩, trivial⟩ rfl rfl rfl rfl rfl)
  · show Tri _ _ _ _
    refine tri_le hle ?_
    refine tri_seq ?_
    refine tri_drawn (by exact tokW) (by exact gok) (by exact mixed) [120] [111, 114, 117] [14, 15] rfl (by decide +kernel) ?_
    obtain ⟨hq, h⟩ := req_out h
    refine And.intro ⟨hq.1, Int.le_trans hq.2.1 (Int.ofNat_le.2 (Nat.le_of_eq (rlen Nd.encs_eq _).symm)), Int.le_refl _⟩ ?_
    intro r60 hr60
    obtain rfl : Nd.encs ((a3.take (a3.length : Int).toNat).drop x18.toNat) = r60 := (hr60.trans ((congrArg (fun m : Nat => ((Nd.encs a3).take m).drop x18.toNat) (rlen Nd.encs_eq _)).trans (rcut Nd.encs_eq _ _ _))).symm
    obtain ⟨hq, h⟩ := req_out h
    refine And.intro ⟨hq.1, Int.le_trans hq.2.1 (Int.ofNat_le.2 (Nat.le_of_eq (rlen Nd.encs_eq _).symm)), Int.le_refl _⟩ ?_
    intro r61 hr61
    obtain rfl : Nd.encs ((a4.take (a4.length : Int).toNat).drop x19.toNat) = r61 := (hr61.trans ((congrArg (fun m : Nat => ((Nd.encs a4).take m).drop x19.toNat) (rlen Nd.encs_eq _)).trans (rcut Nd.encs_eq _ _ _))).symm
    obtain ⟨hq, h⟩ := req_out h
    refine And.intro ⟨hq.1, Int.le_trans hq.2.1 (Int.ofNat_le.2 (Nat.le_of_eq (rlen Nd.encs_eq _).symm)), Int.le_refl _⟩ ?_
    intro r62 hr62
    obtain rfl : Nd.encs ((a5.take (a5.length : Int).toNat).drop x20.toNat) = r62 := (hr62.trans ((congrArg (fun m : Nat => ((Nd.encs a5).take m).drop x20.toNat) (rlen Nd.encs_eq _)).trans (rcut Nd.encs_eq _ _ _))).symm
    obtain ⟨⟨y63, ⟨w64_take, w64_conflicts⟩⟩, hy63, h⟩ := bind_out h
    refine ⟨_, _, ⟨_, _, _, _, _, _, _, hy63, rfl, rfl, rfl, rfl⟩, ?_⟩
    obtain ⟨hq, h⟩ := req_out h
    refine And.intro (show ((Nd.encs l23).length + (Nd.encs y63).length) * 56 ≤ 140737488355328 ∧ (Nd.encs l23).length + (Nd.encs y63).length ≤ 9223372036854775807 from by simp only [List.length_append, List.length_cons, List.length_nil, List.length_map, rlen Nd.encs_eq] at hq ⊢; omega) ?_
    show Tri _ _ _ _
    refine tri_le (Le.rename [(0, 0), (4, 2), (5, 3)] [(10, .orow 3)] [(0, .box 48 [.s (.int .i64 w64_take), .orow 2]), (2, .row 35 5 ((List.map enc_api_Conflict) w64_conflicts)), (3, .row 24 4 (Nd.encs (l23 ++ y63)))] 4 ⟨rfl, trivial⟩ ⟨rfl, ⟨_, rfl, rfl⟩, rfl, ⟨_, rfl, rfl⟩, rfl, ⟨_, rfl, congrArg (Ob.row 24 4) (by simp [List.map_append, List.map_take, List.map_drop, irow, brow, b8of_row, List.map_cons, List.map_nil, b8of_wrap, Nd.encs_eq, Nd.enc, enc_13_node_kind, enc_node_checker, enc_node_inner, enc_diff_grid, enc_s_int, enc_node_open, enc_2_int, enc_api_Conflict, enc_3_s_api_Node, enc_merge_merger])⟩, trivial⟩ rfl rfl rfl rfl rfl) ?_
    refine tri_ret ?_
    obtain ⟨hj1, hk1⟩ := Prod.mk.inj (Option.some.inj h)
    subst hj1
    subst hk1
    unfold GivesO
    exact ⟨_, (Le.rename [(0, 0), (2, 2), (3, 3)] [(10, .orow 3)] [(0, .box 48 [.s (.int .i64 w64_take), .orow 2]), (2, .row 35 5 ((List.map enc_api_Conflict) w64_conflicts)), (3, .row 24 4 (Nd.encs (l23 ++ y63)))] 4 ⟨rfl, trivial⟩ ⟨rfl, ⟨_, rfl, rfl⟩, rfl, ⟨_, rfl, rfl⟩, rfl, ⟨_, rfl, rfl⟩, trivial⟩ rfl rfl rfl rfl rfl), rfl, rfl, rfl, rfl, rfl, rfl, rfl, rfl, trivial⟩
theorem alls_merge_merger_item : ∀ n, PSound Tryd.prog 43 (ospec (R_merge_merger_item n)) ∧ PSound Tryd.prog 30 (ospec (R_merge_merger_row n)) := by
  intro n
  induction n with
  | zero =>
    refine ⟨?_, ?_⟩
    · exact osound_none Tryd.call43 (fun xs os x os' h => by obtain ⟨_, _, _, _, _, _, _, _, h, _⟩ := h; rw [m_merge_merger_item] at h; cases h) _
    · exact osound_none Tryd.call30 (fun xs os x os' h => by obtain ⟨_, _, _, _, _, _, _, h, _⟩ := h; rw [m_merge_merger_row] at h; cases h) _
  | succ n ih =>
    obtain ⟨ih_merge_merger_item, ih_merge_merger_row⟩ := ih
    exact ⟨step_merge_merger_item n ih_merge_merger_item ih_merge_merger_row, step_merge_merger_row n ih_merge_merger_item ih_merge_merger_row⟩
def S_merge_merger_row : PSpec := ospec (fun xs os x os' => ∃ n, R_merge_merger_row n xs os x os')
theorem ok_merge_merger_row : PSound Tryd.prog 30 S_merge_merger_row := osound_all (fun n => (alls_merge_merger_item n).2) _
def R_merge_merger_tree (n : Nat) (xs : List AV) (os : List Ob) (x : AV) (os' : List (Option Ob)) : Prop := ∃ (a0 : (Int × List (List Int × Int × Int × List Nd × List Nd))) (a1 : Nd) (a2 : Nd) (a3 : Nd) (y0 : Nd) (y1 : Int) (z0 : (Int × List (List Int × Int × Int × List Nd × List Nd))), m_merge_merger_tree n a0 a1 a2 a3 = some (y0, y1, z0) ∧ xs = [.op 0 0, .agg ((Nd.enc a1).map .s), .agg ((Nd.enc a2).map .s), .agg ((Nd.enc a3).map .s)] ∧ os = [.box 48 (((enc_merge_merger a0).map .s).set 1 (.orow 1)), .row 35 5 ((List.map enc_api_Conflict) a0.2)] ∧ x = .tup [.agg ((Nd.enc y0).map .s), .s (.int .i64 y1)] ∧ os' = [some (.box 48 (((enc_merge_merger z0).map .s).set 1 (.orow 2))), none, some (.row 35 5 ((List.map enc_api_Conflict) z0.2))]
def S_merge_merger_tree : PSpec := ospec (fun xs os x os' => ∃ n, R_merge_merger_tree n xs os x os')
set_option maxHeartbeats 2000000 in
set_option maxRecDepth 100000 in
theorem ok_merge_merger_tree : PSound Tryd.prog 22 S_merge_merger_tree := by
  have gok : ∀ f s, look? f [(29, S_node_Valid), (30, S_merge_merger_row)] = some s → PSound Tryd.prog f s := look_all (by
    simp only [List.forall_mem_cons]
    exact ⟨ok_node_Valid, ok_merge_merger_row, by simp⟩)
  refine PSound.withNil (osound tokW Tryd.call22 Tryd.func22 rfl (fun xs os x os' h => by obtain ⟨n, _, _, _, _, _, _, _, _, rfl, rfl, _, rfl⟩ := h; exact ⟨by show 4 ≤ 39; decide, by show 2 ≤ 3; decide⟩) 39 rfl ?_) _
  rintro xs os x os' w0 G0 B0 ⟨n, ⟨o1_take, o1_conflicts⟩, ⟨base2_kind, base2_text, base2_cols, base2_kids⟩, ⟨x3_kind, x3_text, x3_cols, x3_kids⟩, ⟨y4_kind, y4_text, y4_cols, y4_kids⟩, y0, y1, z0, h, rfl, rfl, rfl, rfl⟩ _
  rw [m_merge_merger_tree] at h
  refine tri_seq ?_
  refine tri_region (by exact tokW) (by exact gok) [8] [] rfl ?_
  show Tri _ _ _ _
  refine tri_seq ?_
  refine tri_seq ?_
  obtain ⟨x5, hj, h⟩ := bind_out h
  refine tri_post ⟨ofL [(0, .op 0 0), (5, .s (.pt [.int .i64 base2_kind, .str base2_text, .int .i64 base2_cols, .sl 4 (Nd.encs base2_kids)])), (6, .s (.pt [.int .i64 x3_kind, .str x3_text, .int .i64 x3_cols, .sl 4 (Nd.encs x3_kids)])), (7, .s (.pt [.int .i64 y4_kind, .str y4_text, .int .i64 y4_cols, .sl 4 (Nd.encs y4_kids)])), (8, .op 3 0), (23, .s (.bool x5))], ofH [(0, .box 48 [.s (.int .i64 o1_take), .orow 2]), (2, .row 35 5 ((List.map enc_api_Conflict) o1_conflicts)), (3, .box 24 [.s (.int .i64 0), .s (.str []), .s (.int .i64 0), .nl 4])], 4⟩ ?_ (fun σ' hle => ?_)
  · replace h := hj
    refine tri_region (by exact tokW) (by exact gok) [] [14, 19] rfl ?_
    obtain ⟨y6, hy6, h⟩ := bind_out h
    refine ⟨_, ⟨_, _, _, hy6, rfl, rfl⟩, ?_⟩
    intro b hb
    cases b with
    | true =>
      replace h := bif_t hb.symm h
      intro b hb
      subst hb
      cases h
      exact (Le.rename [(0, 0), (1, 2), (2, 3)] _ _ _ ⟨rfl, rfl, rfl, rfl, rfl, rfl, trivial⟩ ⟨rfl, ⟨_, rfl, rfl⟩, rfl, ⟨_, rfl, rfl⟩, rfl, ⟨_, rfl, rfl⟩, trivial⟩ rfl rfl rfl rfl rfl)
    | false =>
      replace h := bif_f hb.symm h
      obtain ⟨y7, hy7, h⟩ := bind_out h
      refine ⟨_, ⟨_, _, _, hy7, rfl, rfl⟩, ?_⟩
      intro b hb
      cases b with
      | true =>
        replace h := bif_t hb.symm h
        cases h
        exact (Le.rename [(0, 0), (1, 2), (2, 3)] _ _ _ ⟨rfl, rfl, rfl, rfl, rfl, rfl, trivial⟩ ⟨rfl, ⟨_, rfl, rfl⟩, rfl, ⟨_, rfl, rfl⟩, rfl, ⟨_, rfl, rfl⟩, trivial⟩ rfl rfl rfl rfl rfl)
      | false =>
        replace h := bif_f hb.symm h
        obtain ⟨y8, hy8, h⟩ := bind_out h
        refine ⟨_, ⟨_, _, _, hy8, rfl, rfl⟩, ?_⟩
        cases h
        exact (Le.rename [(0, 0), (1, 2), (2, 3)] _ _ _ ⟨rfl, rfl, rfl, rfl, rfl, rfl, trivial⟩ ⟨rfl, ⟨_, rfl, rfl⟩, rfl, ⟨_, rfl, rfl⟩, rfl, ⟨_, rfl, rfl⟩, trivial⟩ rfl rfl rfl rfl rfl)
  · show Tri _ _ _ _
    refine tri_le hle ?_
    refine tri_cond rfl (fun hb => ?_) (fun hb => ?_)
    · replace h := bif_t hb h
      refine tri_seq ?_
      refine tri_region (by exact tokW) (by exact gok) [] [] rfl ?_
      show Tri _ _ _ _
      refine tri_ret ?_
      obtain ⟨hj1, hk1⟩ := Prod.mk.inj (Option.some.inj h)
      subst hj1
      obtain ⟨hj2, hk2⟩ := Prod.mk.inj hk1
      subst hj2
      subst hk2
      unfold GivesO
      exact ⟨_, (Le.rename [(0, 0), (2, 2), (3, 3)] [(8, .op 3 0), (9, .s (.int .i64 1))] [(0, .box 48 [.s (.int .i64 o1_take), .orow 2]), (2, .row 35 5 ((List.map enc_api_Conflict) o1_conflicts)), (3, .box 24 [.s (.int .i64 0), .s (.str []), .s (.int .i64 0), .nl 4])] 4 ⟨rfl, rfl, trivial⟩ ⟨rfl, ⟨_, rfl, rfl⟩, rfl, ⟨_, rfl, rfl⟩, rfl, ⟨_, rfl, rfl⟩, trivial⟩ rfl rfl rfl rfl rfl), rfl, rfl, rfl, rfl, rfl, rfl, trivial⟩
    · replace h := bif_f hb h
      refine tri_skip ?_
      show Tri _ _ _ _
      refine tri_seq ?_
      refine tri_region (by exact tokW) (by exact gok) [10] [] rfl ?_
      obtain ⟨⟨y9, ⟨w10_take, w10_conflicts⟩⟩, hy9, h⟩ := bind_out h
      refine ⟨_, _, ⟨_, _, _, _, _, _, _, _, hy9, rfl, rfl, rfl, rfl⟩, ?_⟩
      show Tri _ _ _ _
      refine tri_seq ?_
      refine tri_seq ?_
      refine tri_region (by exact tokW) (by exact gok) [] [] rfl ?_
      obtain ⟨y11, hy11, h⟩ := bind_out h
      refine ⟨_, ⟨_, _, _, hy11, rfl, rfl⟩, ?_⟩
      show Tri _ _ _ _
      refine tri_cond rfl (fun hb => ?_) (fun hb => ?_)
      · replace h := bif_t hb h
        refine tri_seq ?_
        refine tri_region (by exact tokW) (by exact gok) [] [] rfl ?_
        show Tri _ _ _ _
        refine tri_ret ?_
        obtain ⟨hj1, hk1⟩ := Prod.mk.inj (Option.some.inj h)
        subst hj1
        obtain ⟨hj2, hk2⟩ := Prod.mk.inj hk1
        subst hj2
        subst hk2
        unfold GivesO
        exact ⟨_, (Le.rename [(0, 0), (4, 2), (3, 3)] [(8, .op 3 0), (9, .s (.int .i64 6))] [(0, .box 48 [.s (.int .i64 w10_take), .orow 2]), (2, .row 35 5 ((List.map enc_api_Conflict) w10_conflicts)), (3, .box 24 [.s (.int .i64 0), .s (.str []), .s (.int .i64 0), .nl 4])] 4 ⟨rfl, rfl, trivial⟩ ⟨rfl, ⟨_, rfl, rfl⟩, rfl, ⟨_, rfl, rfl⟩, rfl, ⟨_, rfl, rfl⟩, trivial⟩ rfl rfl rfl rfl rfl), rfl, rfl, rfl, rfl, rfl, rfl, trivial⟩
      · replace h := bif_f hb h
        refine tri_skip ?_
        show Tri _ _ _ _
        refine tri_seq ?_
        refine tri_region (by exact tokW) (by exact gok) [] [] rfl ?_
        show Tri _ _ _ _
        refine tri_ret ?_
        obtain ⟨hj1, hk1⟩ := Prod.mk.inj (Option.some.inj h)
        subst hj1
        obtain ⟨hj2, hk2⟩ := Prod.mk.inj hk1
        subst hj2
        subst hk2
        unfold GivesO
        exact ⟨_, (Le.trans (Le.rename [(0, 0), (4, 2), (3, 3), (5, 4)] [(8, .op 3 0), (9, .s (.int .i64 0))] [(0, .box 48 [.s (.int .i64 w10_take), .orow 2]), (2, .row 35 5 ((List.map enc_api_Conflict) w10_conflicts)), (3, .box 24 [.s (.int .i64 1), .s (.str []), .s (.int .i64 0), .orow 4]), (4, .row 24 4 (Nd.encs y9))] 5 ⟨rfl, rfl, trivial⟩ ⟨rfl, ⟨_, rfl, rfl⟩, rfl, ⟨_, rfl, rfl⟩, rfl, ⟨_, rfl, rfl⟩, rfl, ⟨_, rfl, rfl⟩, trivial⟩ rfl rfl rfl rfl rfl) (Le.giveRow 4 rfl)), rfl, rfl, rfl, rfl, rfl, rfl, trivial⟩
def R_merge_Three (n : Nat) (xs : List AV) (r : Ret) : Prop := ∃ (a0 : Nd) (a1 : Nd) (a2 : Nd) (y0 : Nd) (y1 : List (List Int × Int × Int × List Nd × List Nd)) (y2 : Int), m_merge_Three n a0 a1 a2 = some (y0, y1, y2) ∧ xs = [.agg ((Nd.enc a0).map .s), .agg ((Nd.enc a1).map .s), .agg ((Nd.enc a2).map .s)] ∧ r = .val (.tup [.agg ((Nd.enc y0).map .s), .s (.sl 5 ((List.map enc_api_Conflict) y1)), .s (.int .i64 y2)])
def S_merge_Three : PSpec := pspec fun xs r => ∃ n, R_merge_Three n xs r
set_option maxHeartbeats 2000000 in
set_option maxRecDepth 100000 in
theorem ok_merge_Three : PSound Tryd.prog 10 S_merge_Three := by
  have gok : ∀ f s, look? f [(22, S_merge_merger_tree)] = some s → PSound Tryd.prog f s := look_all (by
    simp only [List.forall_mem_cons]
    exact ⟨ok_merge_merger_tree, by simp⟩)
  refine psound tokW Tryd.call10 Tryd.func10 rfl (fun xs r h => by obtain ⟨n, _, _, _, _, _, _, _, rfl, _⟩ := h; show 3 ≤ 31; decide) 31 rfl ?_
  rintro xs r w0 G0 ⟨n, ⟨base1_kind, base1_text, base1_cols, base1_kids⟩, ⟨x2_kind, x2_text, x2_cols, x2_kids⟩, ⟨y3_kind, y3_text, y3_cols, y3_kids⟩, y0, y1, y2, h, rfl, rfl⟩ _
  rw [m_merge_Three] at h
  refine tri_seq ?_
  refine tri_region (by exact tokW) (by exact gok) [6] [] rfl ?_
  show Tri _ _ _ _
  refine tri_seq ?_
  refine tri_region (by exact tokW) (by exact gok) [13] [] rfl ?_
  show Tri _ _ _ _
  refine tri_le (Le.trans (Le.rename [(0, 0), (1, 1)] [(3, .s (.pt [.int .i64 base1_kind, .str base1_text, .int .i64 base1_cols, .sl 4 (Nd.encs base1_kids)])), (4, .s (.pt [.int .i64 x2_kind, .str x2_text, .int .i64 x2_cols, .sl 4 (Nd.encs x2_kids)])), (5, .s (.pt [.int .i64 y3_kind, .str y3_text, .int .i64 y3_cols, .sl 4 (Nd.encs y3_kids)])), (6, .op 0 0), (9, .op 1 0)] [(0, .box 24 [.s (.int .i64 0), .s (.str []), .s (.int .i64 0), .nl 4]), (1, .box 48 [.s (.int .i64 0), .nl 5])] 2 ⟨rfl, rfl, rfl, rfl, rfl, trivial⟩ ⟨rfl, ⟨_, rfl, rfl⟩, rfl, ⟨_, rfl, rfl⟩, trivial⟩ rfl rfl rfl rfl rfl) (Le.takeNil 1 1 35 rfl rfl (by decide))) ?_
  refine tri_seq ?_
  refine tri_region (by exact tokW) (by exact gok) [10] [] rfl ?_
  obtain ⟨⟨⟨y4_kind, y4_text, y4_cols, y4_kids⟩, y5, ⟨w6_take, w6_conflicts⟩⟩, hy4, h⟩ := bind_out h
  refine ⟨_, _, ⟨_, _, _, _, _, _, _, _, hy4, rfl, rfl, rfl, rfl⟩, ?_⟩
  show Tri _ _ _ _
  refine tri_le (Le.giveBox 4 [.int .i64 y4_kind, .str y4_text, .int .i64 y4_cols, .sl 4 (Nd.encs y4_kids)] rfl rfl) ?_
  refine tri_seq ?_
  refine tri_seq ?_
  refine tri_region (by exact tokW) (by exact gok) [] [] rfl ?_
  show Tri _ _ _ _
  refine tri_cond rfl (fun hb => ?_) (fun hb => ?_)
  · replace h := bif_t hb h
    refine tri_seq ?_
    refine tri_region (by exact tokW) (by exact gok) [] [] rfl ?_
    show Tri _ _ _ _
    refine tri_ret ?_
    obtain ⟨hj1, hk1⟩ := Prod.mk.inj (Option.some.inj h)
    subst hj1
    obtain ⟨hj2, hk2⟩ := Prod.mk.inj hk1
    subst hj2
    subst hk2
    unfold Gives
    exact ⟨_, Le.refl _ _, rfl, rfl⟩
  · replace h := bif_f hb h
    refine tri_skip ?_
    show Tri _ _ _ _
    refine tri_seq ?_
    refine tri_le (Le.trans (Le.rename [(0, 0), (1, 1), (3, 2)] [(6, .op 0 0), (9, .op 1 0), (10, .s (.pt [.int .i64 y4_kind, .str y4_text, .int .i64 y4_cols, .sl 4 (Nd.encs y4_kids)]))] [(0, .box 24 [.s (.int .i64 0), .s (.str []), .s (.int .i64 0), .nl 4]), (1, .box 48 [.s (.int .i64 w6_take), .orow 2]), (2, .row 35 5 ((List.map enc_api_Conflict) w6_conflicts))] 3 ⟨rfl, rfl, rfl, trivial⟩ ⟨rfl, ⟨_, rfl, rfl⟩, rfl, ⟨_, rfl, rfl⟩, rfl, ⟨_, rfl, rfl⟩, trivial⟩ rfl rfl rfl rfl rfl) (Le.giveRow 2 rfl)) ?_
    refine tri_le (Le.trans (Le.rename [(0, 0), (1, 1)] [(6, .op 0 0), (9, .op 1 0), (10, .s (.pt [.int .i64 y4_kind, .str y4_text, .int .i64 y4_cols, .sl 4 (Nd.encs y4_kids)]))] [(0, .box 24 [.s (.int .i64 0), .s (.str []), .s (.int .i64 0), .nl 4]), (1, .box 48 [.s (.int .i64 w6_take), .s (.sl 5 ((List.map enc_api_Conflict) w6_conflicts))])] 2 ⟨rfl, rfl, rfl, trivial⟩ ⟨rfl, ⟨_, rfl, rfl⟩, rfl, ⟨_, rfl, rfl⟩, trivial⟩ rfl rfl rfl rfl rfl) (Le.giveBox 1 [.int .i64 w6_take, .sl 5 ((List.map enc_api_Conflict) w6_conflicts)] rfl rfl)) ?_
    refine tri_drawn (by exact tokW) (by exact gok) (by exact mixed) [] [] [5] rfl (by decide +kernel) ?_
    show Tri _ _ _ _
    refine tri_ret ?_
    obtain ⟨hj1, hk1⟩ := Prod.mk.inj (Option.some.inj h)
    subst hj1
    obtain ⟨hj2, hk2⟩ := Prod.mk.inj hk1
    subst hj2
    subst hk2
    unfold Gives
    exact ⟨_, Le.refl _ _, rfl, rfl⟩
def R_r09_Equal (n : Nat) (xs : List AV) (r : Ret) : Prop := ∃ (a0 : Nd) (a1 : Nd) (y0 : Bool), m_r09_Equal n a0 a1 = some y0 ∧ xs = [.agg ((Nd.enc a0).map .s), .agg ((Nd.enc a1).map .s)] ∧ r = .val (.s (.bool y0))
def R_r09_SameItems (n : Nat) (xs : List AV) (r : Ret) : Prop := ∃ (a0 : List Nd) (a1 : List Nd) (y0 : Bool), m_r09_SameItems n a0 a1 = some y0 ∧ xs = [.s (.sl 4 (Nd.encs a0)), .s (.sl 4 (Nd.encs a1))] ∧ r = .val (.s (.bool y0))
set_option maxHeartbeats 2000000 in
set_option maxRecDepth 100000 in
theorem step_r09_Equal (n : Nat) (ih_r09_Equal : PSound Tryd.prog 11 (pspec (R_r09_Equal n))) (ih_r09_SameItems : PSound Tryd.prog 13 (pspec (R_r09_SameItems n))) : PSound Tryd.prog 11 (pspec (R_r09_Equal (n + 1))) := by
  have gok : ∀ f s, look? f [(13, pspec (R_r09_SameItems n))] = some s → PSound Tryd.prog f s := look_all (by
    simp only [List.forall_mem_cons]
    exact ⟨ih_r09_SameItems, by simp⟩)
  refine psound tokW Tryd.call11 Tryd.func11 rfl (fun xs r h => by obtain ⟨_, _, _, _, rfl, _⟩ := h; show 2 ≤ 31; decide) 31 rfl ?_
  rintro xs r w0 G0 ⟨⟨a1_kind, a1_text, a1_cols, a1_kids⟩, ⟨b2_kind, b2_text, b2_cols, b2_kids⟩, y0, h, rfl, rfl⟩ _
  rw [m_r09_Equal] at h
  refine tri_seq ?_
  refine tri_region (by exact tokW) (by exact gok) [] [] rfl ?_
  show Tri _ _ _ _
  refine tri_seq ?_
  obtain ⟨x3, hj, h⟩ := bind_out h
  refine tri_post ⟨ofL [(4, .s (.bool x3))], fun _ => none, 0⟩ ?_ (fun σ' hle => ?_)
  · replace h := hj
    refine tri_region (by exact tokW) (by exact gok) [] [10, 17, 24] rfl ?_
    intro b hb
    cases b with
    | true =>
      replace h := bif_t hb.symm h
      intro b hb
      cases b with
      | true =>
        replace h := bif_t hb.symm h
        intro b hb
        cases b with
        | true =>
          replace h := bif_t hb.symm h
          obtain ⟨y4, hy4, h⟩ := bind_out h
          refine ⟨_, ⟨_, _, _, hy4, rfl, rfl⟩, ?_⟩
          cases h
          exact (Le.forget _ ⟨rfl, trivial⟩)
        | false =>
          replace h := bif_f hb.symm h
          cases h
          exact (Le.forget _ ⟨rfl, trivial⟩)
      | false =>
        replace h := bif_f hb.symm h
        intro b hb
        subst hb
        cases h
        exact (Le.forget _ ⟨rfl, trivial⟩)
    | false =>
      replace h := bif_f hb.symm h
      intro b hb
      subst hb
      intro b hb
      subst hb
      cases h
      exact (Le.forget _ ⟨rfl, trivial⟩)
  · show Tri _ _ _ _
    refine tri_le hle ?_
    refine tri_ret ?_
    have hy := Option.some.inj h
    subst hy
    unfold Gives
    exact ⟨_, Le.refl _ _, rfl, rfl⟩
set_option maxHeartbeats 2000000 in
set_option maxRecDepth 100000 in
theorem step_r09_SameItems (n : Nat) (ih_r09_Equal : PSound Tryd.prog 11 (pspec (R_r09_Equal n))) (ih_r09_SameItems : PSound Tryd.prog 13 (pspec (R_r09_SameItems n))) : PSound Tryd.prog 13 (pspec (R_r09_SameItems (n + 1))) := by
  have gok : ∀ f s, look? f [(11, pspec (R_r09_Equal n))] = some s → PSound Tryd.prog f s := look_all (by
    simp only [List.forall_mem_cons]
    exact ⟨ih_r09_Equal, by simp⟩)
  refine psound tokW Tryd.call13 Tryd.func13 rfl (fun xs r h => by obtain ⟨_, _, _, _, rfl, _⟩ := h; show 2 ≤ 27; decide) 27 rfl ?_
  rintro xs r w0 G0 ⟨a1, b2, y0, h, rfl, rfl⟩ _
  rw [m_r09_SameItems] at h
  refine tri_seq ?_
  refine tri_region (by exact tokW) (by exact gok) [] [] rfl ?_
  show Tri _ _ _ _
  refine tri_seq ?_
  refine tri_seq ?_
  refine tri_region (by exact tokW) (by exact gok) [] [7, 9] rfl ?_
  intro n3 hn3
  obtain rfl : (a1.length : Int) = n3 := (hn3.trans (congrArg (fun m : Nat => (m : Int)) (rlen Nd.encs_eq a1))).symm
  intro n4 hn4
  obtain rfl : (b2.length : Int) = n4 := (hn4.trans (congrArg (fun m : Nat => (m : Int)) (rlen Nd.encs_eq b2))).symm
  show Tri _ _ _ _
  refine tri_cond rfl (fun hb => ?_) (fun hb => ?_)
  · replace h := bif_t hb h
    refine tri_seq ?_
    refine tri_region (by exact tokW) (by exact gok) [] [] rfl ?_
    show Tri _ _ _ _
    refine tri_ret ?_
    have hy := Option.some.inj h
    subst hy
    unfold Gives
    exact ⟨_, Le.refl _ _, rfl, rfl⟩
  · replace h := bif_f hb h
    refine tri_skip ?_
    show Tri _ _ _ _
    refine tri_seq ?_
    refine tri_seq ?_
    refine tri_region (by exact tokW) (by exact gok) [] [] rfl ?_
    show Tri _ _ _ _
    obtain ⟨fl, hl, ho1⟩ := bind_out h
    refine tri_fl (fl := fl) (fun z => match z with | _ => ⟨ofL [], fun _ => none, 0⟩) ?_ (fun z σ' hz hle => ?_)
    · refine tri_block (tri_loopI (X := Nat × Int) (fun y => match y with | (k, i5) => ⟨ofL [(0, .s (.sl 4 (Nd.encs a1))), (1, .s (.sl 4 (Nd.encs b2))), (5, .s (.int .i64 i5))], fun _ => none, 0⟩) (fun y => m_r09_SameItems_l1 (m_r09_Equal n) a1 b2 y.1 y.2 = some fl) (fun y => y.1) (n, 0) hl ?_ ?_)
      · exact (Le.forget _ ⟨rfl, rfl, rfl, trivial⟩)
      · rintro ⟨k, i5⟩ h
        cases k with
        | zero => cases h
        | succ k =>
          replace h : m_r09_SameItems_l1 (m_r09_Equal n) a1 b2 (k+1) i5 = some fl := h
          rw [m_r09_SameItems_l1] at h
          refine tri_seq ?_
          refine tri_seq ?_
          refine tri_region (by exact tokW) (by exact gok) [] [13] rfl ?_
          intro n6 hn6
          obtain rfl : (a1.length : Int) = n6 := (hn6.trans (congrArg (fun m : Nat => (m : Int)) (rlen Nd.encs_eq a1))).symm
          show Tri _ _ _ _
          refine tri_cond rfl (fun hb => ?_) (fun hb => ?_)
          · replace h := bif_t hb h
            refine tri_skip ?_
            show Tri _ _ _ _
            refine tri_seq ?_
            refine tri_block ?_
            refine tri_seq ?_
            refine tri_drawn (by exact tokW) (by exact gok) (by exact mixed) [] [19, 23] [] rfl (by decide +kernel) ?_
            obtain ⟨⟨e7_kind, e7_text, e7_cols, e7_kids⟩, he7, h⟩ := bind_out h
            refine And.intro (at_ok Nd.encs_eq he7).1 ?_
            intro r8 hr8
            obtain rfl : [.int .i64 e7_kind, .str e7_text, .int .i64 e7_cols, .sl 4 (Nd.encs e7_kids)] = r8 := (hr8.trans (at_ok Nd.encs_eq he7).2.1).symm
            obtain ⟨⟨e9_kind, e9_text, e9_cols, e9_kids⟩, he9, h⟩ := bind_out h
            refine And.intro (at_ok Nd.encs_eq he9).1 ?_
            intro r10 hr10
            obtain rfl : [.int .i64 e9_kind, .str e9_text, .int .i64 e9_cols, .sl 4 (Nd.encs e9_kids)] = r10 := (hr10.trans (at_ok Nd.encs_eq he9).2.1).symm
            obtain ⟨y11, hy11, h⟩ := bind_out h
            refine ⟨_, ⟨_, _, _, hy11, rfl, rfl⟩, ?_⟩
            show Tri _ _ _ _
            refine tri_cond rfl (fun hb => ?_) (fun hb => ?_)
            · replace h := bif_t hb h
              refine tri_seq ?_
              refine tri_region (by exact tokW) (by exact gok) [] [] rfl ?_
              show Tri _ _ _ _
              refine tri_ret ?_
              cases h
              replace h : some _ = some _ := ho1
              have hy := Option.some.inj h
              subst hy
              unfold Gives
              exact ⟨_, Le.refl _ _, rfl, rfl⟩
            · replace h := bif_f hb h
              refine tri_skip ?_
              show Tri _ _ _ _
              refine tri_region (by exact tokW) (by exact gok) [] [] rfl ?_
              refine ⟨(k, IntKind.i64.wrap (i5 + 1)), h, (Le.forget _ ⟨rfl, rfl, rfl, trivial⟩), Nat.lt_succ_self k⟩
          · replace h := bif_f hb h
            refine tri_exit ?_
            cases h
            exact ⟨_, rfl, (Le.forget _ trivial)⟩
    · subst hz
      obtain _ := z
      replace h := ho1
      show Tri _ _ _ _
      refine tri_le hle ?_
      refine tri_seq ?_
      refine tri_region (by exact tokW) (by exact gok) [] [] rfl ?_
      show Tri _ _ _ _
      refine tri_ret ?_
      have hy := Option.some.inj h
      subst hy
      unfold Gives
      exact ⟨_, Le.refl _ _, rfl, rfl⟩
theorem alls_r09_Equal : ∀ n, PSound Tryd.prog 11 (pspec (R_r09_Equal n)) ∧ PSound Tryd.prog 13 (pspec (R_r09_SameItems n)) := by
  intro n
  induction n with
  | zero =>
    refine ⟨?_, ?_⟩
    · exact psound_none Tryd.call11 (fun xs r h => by obtain ⟨_, _, _, h, _⟩ := h; rw [m_r09_Equal] at h; cases h)
    · exact psound_none Tryd.call13 (fun xs r h => by obtain ⟨_, _, _, h, _⟩ := h; rw [m_r09_SameItems] at h; cases h)
  | succ n ih =>
    obtain ⟨ih_r09_Equal, ih_r09_SameItems⟩ := ih
    exact ⟨step_r09_Equal n ih_r09_Equal ih_r09_SameItems, step_r09_SameItems n ih_r09_Equal ih_r09_SameItems⟩
def S_r09_Equal : PSpec := pspec fun xs r => ∃ n, R_r09_Equal n xs r
theorem ok_r09_Equal : PSound Tryd.prog 11 S_r09_Equal := psound_all (fun n => (alls_r09_Equal n).1)
def S_r09_SameItems : PSpec := pspec fun xs r => ∃ n, R_r09_SameItems n xs r
theorem ok_r09_SameItems : PSound Tryd.prog 13 S_r09_SameItems := psound_all (fun n => (alls_r09_Equal n).2)
def R_l17_awake (n : Nat) (xs : List AV) (r : Ret) : Prop := ∃ (y0 : Bool), m_l17_awake n = some y0 ∧ xs = [] ∧ r = .val (.s (.bool y0))
def S_l17_awake : PSpec := pspec fun xs r => ∃ n, R_l17_awake n xs r
set_option maxHeartbeats 2000000 in
set_option maxRecDepth 100000 in
theorem ok_l17_awake : PSound Tryd.prog 7 S_l17_awake := by
  have gok : ∀ f s, look? f [(17, S_l17_symbols), (10, S_merge_Three), (11, S_r09_Equal)] = some s → PSound Tryd.prog f s := look_all (by
    simp only [List.forall_mem_cons]
    exact ⟨ok_l17_symbols, ok_merge_Three, ok_r09_Equal, by simp⟩)
  refine psound tokW Tryd.call7 Tryd.func7 rfl (fun xs r h => by obtain ⟨n, _, _, rfl, _⟩ := h; show 0 ≤ 24; decide) 24 rfl ?_
  rintro xs r w0 G0 ⟨n, y0, h, rfl, rfl⟩ _
  rw [m_l17_awake] at h
  refine tri_seq ?_
  refine tri_region (by exact tokW) (by exact gok) [] [] rfl ?_
  show Tri _ _ _ _
  refine tri_seq ?_
  refine tri_region (by exact tokW) (by exact gok) [1] [] rfl ?_
  obtain ⟨⟨y1_kind, y1_text, y1_cols, y1_kids⟩, hy1, h⟩ := bind_out h
  refine ⟨_, ⟨_, _, _, hy1, rfl, rfl⟩, ?_⟩
  obtain ⟨⟨y2_kind, y2_text, y2_cols, y2_kids⟩, hy2, h⟩ := bind_out h
  refine ⟨_, ⟨_, _, _, hy2, rfl, rfl⟩, ?_⟩
  obtain ⟨⟨y3_kind, y3_text, y3_cols, y3_kids⟩, hy3, h⟩ := bind_out h
  refine ⟨_, ⟨_, _, _, hy3, rfl, rfl⟩, ?_⟩
  obtain ⟨⟨⟨y4_kind, y4_text, y4_cols, y4_kids⟩, y5, y6⟩, hy4, h⟩ := bind_out h
  refine ⟨_, ⟨_, _, _, _, _, _, _, hy4, rfl, rfl⟩, ?_⟩
  show Tri _ _ _ _
  refine tri_le (Le.giveBox 0 [.int .i64 y4_kind, .str y4_text, .int .i64 y4_cols, .sl 4 (Nd.encs y4_kids)] rfl rfl) ?_
  refine tri_seq ?_
  obtain ⟨x7, hj, h⟩ := bind_out h
  refine tri_post ⟨ofL [(0, .s (.bool x7))], fun _ => none, 0⟩ ?_ (fun σ' hle => ?_)
  · replace h := hj
    refine tri_drawn (by exact tokW) (by exact gok) (by exact mixed) [] [14, 16, 19] [] rfl (by decide +kernel) ?_
    intro b hb
    cases b with
    | true =>
      replace h := bif_t hb.symm h
      intro n8 hn8
      obtain rfl : (y5.length : Int) = n8 := (hn8.trans (congrArg (fun m : Nat => (m : Int)) (rlen (fun _ => rfl) y5))).symm
      intro b hb
      cases b with
      | true =>
        replace h := bif_t hb.symm h
        obtain ⟨⟨y9_kind, y9_text, y9_cols, y9_kids⟩, hy9, h⟩ := bind_out h
        refine ⟨_, ⟨_, _, _, hy9, rfl, rfl⟩, ?_⟩
        obtain ⟨y10, hy10, h⟩ := bind_out h
        refine ⟨_, ⟨_, _, _, _, hy10, rfl, rfl⟩, ?_⟩
        cases h
        exact (Le.rename [] _ [] 0 ⟨rfl, trivial⟩ trivial rfl rfl rfl rfl rfl)
      | false =>
        replace h := bif_f hb.symm h
        cases h
        exact (Le.rename [] _ [] 0 ⟨rfl, trivial⟩ trivial rfl rfl rfl rfl rfl)
    | false =>
      replace h := bif_f hb.symm h
      intro b hb
      subst hb
      cases h
      exact (Le.rename [] _ [] 0 ⟨rfl, trivial⟩ trivial rfl rfl rfl rfl rfl)
  · show Tri _ _ _ _
    refine tri_le hle ?_
    refine tri_ret ?_
    have hy := Option.some.inj h
    subst hy
    unfold Gives
    exact ⟨_, Le.refl _ _, rfl, rfl⟩
def R_r09_left (n : Nat) (xs : List AV) (r : Ret) : Prop := ∃ (a0 : Nd) (a1 : Int) (y0 : Int), m_r09_left n a0 a1 = some y0 ∧ xs = [.agg ((Nd.enc a0).map .s), .s (.int .i64 a1)] ∧ r = .val (.s (.int .i64 y0))
set_option maxHeartbeats 2000000 in
set_option maxRecDepth 100000 in
theorem step_r09_left (n : Nat) (ih : PSound Tryd.prog 26 (pspec (R_r09_left n))) : PSound Tryd.prog 26 (pspec (R_r09_left (n + 1))) := by
  have gok : ∀ f s, look? f [(26, pspec (R_r09_left n))] = some s → PSound Tryd.prog f s := look_all (by
    simp only [List.forall_mem_cons]
    exact ⟨ih, by simp⟩)
  refine psound tokW Tryd.call26 Tryd.func26 rfl (fun xs r h => by obtain ⟨_, _, _, _, rfl, _⟩ := h; show 2 ≤ 27; decide) 27 rfl ?_
  rintro xs r w0 G0 ⟨⟨n1_kind, n1_text, n1_cols, n1_kids⟩, most2, y0, h, rfl, rfl⟩ _
  rw [m_r09_left] at h
  refine tri_seq ?_
  refine tri_region (by exact tokW) (by exact gok) [] [] rfl ?_
  show Tri _ _ _ _
  refine tri_seq ?_
  refine tri_region (by exact tokW) (by exact gok) [] [] rfl ?_
  show Tri _ _ _ _
  refine tri_seq ?_
  refine tri_seq ?_
  refine tri_region (by exact tokW) (by exact gok) [] [] rfl ?_
  show Tri _ _ _ _
  obtain ⟨most5, hl, h⟩ := bind_out h
  refine tri_post ⟨ofL [(1, .s (.int .i64 most5))], fun _ => none, 0⟩ ?_ (fun σ' hle => ?_)
  · refine tri_block (tri_loopI (X := Nat × Int × Int) (fun y => match y with | (k, most3, i4) => ⟨ofL [(1, .s (.int .i64 most3)), (2, .s (.pt [.int .i64 n1_kind, .str n1_text, .int .i64 n1_cols, .sl 4 (Nd.encs n1_kids)])), (5, .s (.int .i64 i4))], fun _ => none, 0⟩) (fun y => m_r09_left_l1 (m_r09_left n) n1_kids y.1 y.2.1 y.2.2 = some most5) (fun y => y.1) (n, IntKind.i64.wrap (most2 - 1), 0) hl ?_ ?_)
    · exact (Le.forget _ ⟨rfl, rfl, rfl, trivial⟩)
    · rintro ⟨k, most3, i4⟩ h
      cases k with
      | zero => cases h
      | succ k =>
        replace h : m_r09_left_l1 (m_r09_left n) n1_kids (k+1) most3 i4 = some most5 := h
        rw [m_r09_left_l1] at h
        refine tri_seq ?_
        refine tri_seq ?_
        obtain ⟨x6, hj, h⟩ := bind_out h
        refine tri_post ⟨ofL [(1, .s (.int .i64 most3)), (2, .s (.pt [.int .i64 n1_kind, .str n1_text, .int .i64 n1_cols, .sl 4 (Nd.encs n1_kids)])), (5, .s (.int .i64 i4)), (16, .s (.bool x6))], fun _ => none, 0⟩ ?_ (fun σ' hle => ?_)
        · replace h := hj
          refine tri_region (by exact tokW) (by exact gok) [] [11, 13] rfl ?_
          intro n7 hn7
          obtain rfl : (n1_kids.length : Int) = n7 := (hn7.trans (congrArg (fun m : Nat => (m : Int)) (rlen Nd.encs_eq n1_kids))).symm
          intro b hb
          cases b with
          | true =>
            replace h := bif_t hb.symm h
            cases h
            exact (Le.forget _ ⟨rfl, rfl, rfl, rfl, trivial⟩)
          | false =>
            replace h := bif_f hb.symm h
            cases h
            exact (Le.forget _ ⟨rfl, rfl, rfl, rfl, trivial⟩)
        · show Tri _ _ _ _
          refine tri_le hle ?_
          refine tri_cond rfl (fun hb => ?_) (fun hb => ?_)
          · replace h := bif_t hb h
            refine tri_skip ?_
            show Tri _ _ _ _
            refine tri_seq ?_
            refine tri_block ?_
            refine tri_region (by exact tokW) (by exact gok) [] [22] rfl ?_
            obtain ⟨⟨e8_kind, e8_text, e8_cols, e8_kids⟩, he8, h⟩ := bind_out h
            refine And.intro (at_ok Nd.encs_eq he8).1 ?_
            intro r9 hr9
            obtain rfl : [.int .i64 e8_kind, .str e8_text, .int .i64 e8_cols, .sl 4 (Nd.encs e8_kids)] = r9 := (hr9.trans (at_ok Nd.encs_eq he8).2.1).symm
            obtain ⟨y10, hy10, h⟩ := bind_out h
            refine ⟨_, ⟨_, _, _, hy10, rfl, rfl⟩, ?_⟩
            show Tri _ _ _ _
            refine tri_region (by exact tokW) (by exact gok) [] [] rfl ?_
            refine ⟨(k, y10, IntKind.i64.wrap (i4 + 1)), h, (Le.forget _ ⟨rfl, rfl, rfl, trivial⟩), Nat.lt_succ_self k⟩
          · replace h := bif_f hb h
            refine tri_exit ?_
            cases h
            exact (Le.forget _ ⟨rfl, trivial⟩)
  · show Tri _ _ _ _
    refine tri_le hle ?_
    refine tri_seq ?_
    refine tri_region (by exact tokW) (by exact gok) [] [] rfl ?_
    show Tri _ _ _ _
    refine tri_ret ?_
    have hy := Option.some.inj h
    subst hy
    unfold Gives
    exact ⟨_, Le.refl _ _, rfl, rfl⟩
theorem all_r09_left : ∀ n, PSound Tryd.prog 26 (pspec (R_r09_left n)) := by
  intro n
  induction n with
  | zero => exact psound_none Tryd.call26 (fun xs r h => by obtain ⟨_, _, _, h, _⟩ := h; cases h)
  | succ n ih => exact step_r09_left n ih
def S_r09_left : PSpec := pspec fun xs r => ∃ n, R_r09_left n xs r
theorem ok_r09_left : PSound Tryd.prog 26 S_r09_left := psound_all all_r09_left
def R_r09_Few (n : Nat) (xs : List AV) (r : Ret) : Prop := ∃ (a0 : Nd) (a1 : Int) (y0 : Bool), m_r09_Few n a0 a1 = some y0 ∧ xs = [.agg ((Nd.enc a0).map .s), .s (.int .i64 a1)] ∧ r = .val (.s (.bool y0))
def S_r09_Few : PSpec := pspec fun xs r => ∃ n, R_r09_Few n xs r
set_option maxHeartbeats 2000000 in
set_option maxRecDepth 100000 in
theorem ok_r09_Few : PSound Tryd.prog 18 S_r09_Few := by
  have gok : ∀ f s, look? f [(26, S_r09_left)] = some s → PSound Tryd.prog f s := look_all (by
    simp only [List.forall_mem_cons]
    exact ⟨ok_r09_left, by simp⟩)
  refine psound tokW Tryd.call18 Tryd.func18 rfl (fun xs r h => by obtain ⟨n, _, _, _, _, rfl, _⟩ := h; show 2 ≤ 9; decide) 9 rfl ?_
  rintro xs r w0 G0 ⟨n, ⟨n1_kind, n1_text, n1_cols, n1_kids⟩, most2, y0, h, rfl, rfl⟩ _
  rw [m_r09_Few] at h
  refine tri_seq ?_
  refine tri_region (by exact tokW) (by exact gok) [] [] rfl ?_
  show Tri _ _ _ _
  refine tri_seq ?_
  refine tri_region (by exact tokW) (by exact gok) [] [] rfl ?_
  obtain ⟨y3, hy3, h⟩ := bind_out h
  refine ⟨_, ⟨_, _, _, _, hy3, rfl, rfl⟩, ?_⟩
  show Tri _ _ _ _
  refine tri_ret ?_
  have hy := Option.some.inj h
  subst hy
  unfold Gives
  exact ⟨_, Le.refl _ _, rfl, rfl⟩
def R_l17_few (n : Nat) (xs : List AV) (r : Ret) : Prop := ∃ (a0 : Nd) (a1 : Nd) (a2 : Nd) (y0 : Bool), m_l17_few n a0 a1 a2 = some y0 ∧ xs = [.agg ((Nd.enc a0).map .s), .agg ((Nd.enc a1).map .s), .agg ((Nd.enc a2).map .s)] ∧ r = .val (.s (.bool y0))
def S_l17_few : PSpec := pspec fun xs r => ∃ n, R_l17_few n xs r
set_option maxHeartbeats 2000000 in
set_option maxRecDepth 100000 in
theorem ok_l17_few : PSound Tryd.prog 8 S_l17_few := by
  have gok : ∀ f s, look? f [(18, S_r09_Few)] = some s → PSound Tryd.prog f s := look_all (by
    simp only [List.forall_mem_cons]
    exact ⟨ok_r09_Few, by simp⟩)
  refine psound tokW Tryd.call8 Tryd.func8 rfl (fun xs r h => by obtain ⟨n, _, _, _, _, _, rfl, _⟩ := h; show 3 ≤ 17; decide) 17 rfl ?_
  rintro xs r w0 G0 ⟨n, ⟨a1_kind, a1_text, a1_cols, a1_kids⟩, ⟨b2_kind, b2_text, b2_cols, b2_kids⟩, ⟨c3_kind, c3_text, c3_cols, c3_kids⟩, y0, h, rfl, rfl⟩ _
  rw [m_l17_few] at h
  refine tri_seq ?_
  refine tri_region (by exact tokW) (by exact gok) [] [] rfl ?_
  show Tri _ _ _ _
  refine tri_seq ?_
  obtain ⟨x4, hj, h⟩ := bind_out h
  refine tri_post ⟨ofL [(6, .s (.bool x4))], fun _ => none, 0⟩ ?_ (fun σ' hle => ?_)
  · replace h := hj
    refine tri_region (by exact tokW) (by exact gok) [] [9, 13] rfl ?_
    obtain ⟨y5, hy5, h⟩ := bind_out h
    refine ⟨_, ⟨_, _, _, _, hy5, rfl, rfl⟩, ?_⟩
    intro b hb
    cases b with
    | true =>
      replace h := bif_t hb.symm h
      obtain ⟨y6, hy6, h⟩ := bind_out h
      refine ⟨_, ⟨_, _, _, _, hy6, rfl, rfl⟩, ?_⟩
      intro b hb
      cases b with
      | true =>
        replace h := bif_t hb.symm h
        obtain ⟨y7, hy7, h⟩ := bind_out h
        refine ⟨_, ⟨_, _, _, _, hy7, rfl, rfl⟩, ?_⟩
        cases h
        exact (Le.forget _ ⟨rfl, trivial⟩)
      | false =>
        replace h := bif_f hb.symm h
        cases h
        exact (Le.forget _ ⟨rfl, trivial⟩)
    | false =>
      replace h := bif_f hb.symm h
      intro b hb
      subst hb
      cases h
      exact (Le.forget _ ⟨rfl, trivial⟩)
  · show Tri _ _ _ _
    refine tri_le hle ?_
    refine tri_ret ?_
    have hy := Option.some.inj h
    subst hy
    unfold Gives
    exact ⟨_, Le.refl _ _, rfl, rfl⟩
def R_r09_Letter (xs : List AV) (r : Ret) : Prop := ∃ (a0 : Int) (y0 : Bool), m_r09_Letter a0 = some y0 ∧ xs = [.s (.int .u8 a0)] ∧ r = .val (.s (.bool y0))
def S_r09_Letter : PSpec := pspec fun xs r => R_r09_Letter xs r
set_option maxHeartbeats 2000000 in
set_option maxRecDepth 100000 in
theorem ok_r09_Letter : PSound Tryd.prog 46 S_r09_Letter := by
  have gok : ∀ (f : Nat) (s : PSpec), (fun _ => none : Nat → Option PSpec) f = some s → PSound Tryd.prog f s := fun _ _ h => by cases h
  refine psound tokW Tryd.call46 Tryd.func46 rfl (fun xs r h => by obtain ⟨_, _, _, rfl, _⟩ := h; show 1 ≤ 17; decide) 17 rfl ?_
  rintro xs r w0 G0 ⟨c1, y0, h, rfl, rfl⟩ _
  rw [m_r09_Letter] at h
  refine tri_seq ?_
  refine tri_region (by exact tokW) (by exact gok) [] [] rfl ?_
  show Tri _ _ _ _
  refine tri_seq ?_
  obtain ⟨x2, hj, h⟩ := bind_out h
  refine tri_post ⟨ofL [(2, .s (.bool x2))], fun _ => none, 0⟩ ?_ (fun σ' hle => ?_)
  · replace h := hj
    refine tri_region (by exact tokW) (by exact gok) [] [5, 9, 12] rfl ?_
    intro b hb
    cases b with
    | true =>
      replace h := bif_t hb.symm h
      intro b hb
      cases b with
      | true =>
        replace h := bif_t hb.symm h
        cases h
        exact (Le.forget _ ⟨rfl, trivial⟩)
      | false =>
        replace h := bif_f hb.symm h
        intro b hb
        cases b with
        | true =>
          replace h := bif_t hb.symm h
          cases h
          exact (Le.forget _ ⟨rfl, trivial⟩)
        | false =>
          replace h := bif_f hb.symm h
          cases h
          exact (Le.forget _ ⟨rfl, trivial⟩)
    | false =>
      replace h := bif_f hb.symm h
      intro b hb
      subst hb
      intro b hb
      cases b with
      | true =>
        replace h := bif_t hb.symm h
        cases h
        exact (Le.forget _ ⟨rfl, trivial⟩)
      | false =>
        replace h := bif_f hb.symm h
        cases h
        exact (Le.forget _ ⟨rfl, trivial⟩)
  · show Tri _ _ _ _
    refine tri_le hle ?_
    refine tri_ret ?_
    have hy := Option.some.inj h
    subst hy
    unfold Gives
    exact ⟨_, Le.refl _ _, rfl, rfl⟩
def R_r09_has (n : Nat) (xs : List AV) (r : Ret) : Prop := ∃ (a0 : List UInt8) (a1 : Int) (y0 : Bool), m_r09_has n a0 a1 = some y0 ∧ xs = [.s (.str a0), .s (.int .u8 a1)] ∧ r = .val (.s (.bool y0))
def S_r09_has : PSpec := pspec fun xs r => ∃ n, R_r09_has n xs r
set_option maxHeartbeats 2000000 in
set_option maxRecDepth 100000 in
theorem ok_r09_has : PSound Tryd.prog 38 S_r09_has := by
  have gok : ∀ (f : Nat) (s : PSpec), (fun _ => none : Nat → Option PSpec) f = some s → PSound Tryd.prog f s := fun _ _ h => by cases h
  refine psound tokW Tryd.call38 Tryd.func38 rfl (fun xs r h => by obtain ⟨n, _, _, _, _, rfl, _⟩ := h; show 2 ≤ 17; decide) 17 rfl ?_
  rintro xs r w0 G0 ⟨n, s1, c2, y0, h, rfl, rfl⟩ _
  rw [m_r09_has] at h
  refine tri_seq ?_
  refine tri_region (by exact tokW) (by exact gok) [] [] rfl ?_
  show Tri _ _ _ _
  refine tri_seq ?_
  refine tri_seq ?_
  refine tri_region (by exact tokW) (by exact gok) [] [] rfl ?_
  show Tri _ _ _ _
  obtain ⟨fl, hl, ho1⟩ := bind_out h
  refine tri_fl (fl := fl) (fun z => match z with | _ => ⟨ofL [], fun _ => none, 0⟩) ?_ (fun z σ' hz hle => ?_)
  · refine tri_block (tri_loopI (X := Nat × Int) (fun y => match y with | (k, i3) => ⟨ofL [(0, .s (.str s1)), (1, .s (.int .u8 c2)), (5, .s (.int .i64 i3))], fun _ => none, 0⟩) (fun y => m_r09_has_l1 s1 c2 y.1 y.2 = some fl) (fun y => y.1) (n, 0) hl ?_ ?_)
    · exact (Le.forget _ ⟨rfl, rfl, rfl, trivial⟩)
    · rintro ⟨k, i3⟩ h
      cases k with
      | zero => cases h
      | succ k =>
        replace h : m_r09_has_l1 s1 c2 (k+1) i3 = some fl := h
        rw [m_r09_has_l1] at h
        refine tri_seq ?_
        refine tri_seq ?_
        refine tri_region (by exact tokW) (by exact gok) [] [] rfl ?_
        show Tri _ _ _ _
        refine tri_cond rfl (fun hb => ?_) (fun hb => ?_)
        · replace h := bif_t hb h
          refine tri_skip ?_
          show Tri _ _ _ _
          refine tri_seq ?_
          refine tri_block ?_
          refine tri_seq ?_
          refine tri_region (by exact tokW) (by exact gok) [] [14] rfl ?_
          obtain ⟨c4, hc4, h⟩ := bind_out h
          refine And.intro (str_ok hc4).1 ?_
          intro v5 hv5
          obtain rfl : (c4.toNat : Int) = v5 := (hv5.trans (str_ok hc4).2).symm
          show Tri _ _ _ _
          refine tri_cond rfl (fun hb => ?_) (fun hb => ?_)
          · replace h := bif_t hb h
            refine tri_seq ?_
            refine tri_region (by exact tokW) (by exact gok) [] [] rfl ?_
            show Tri _ _ _ _
            refine tri_ret ?_
            cases h
            replace h : some _ = some _ := ho1
            have hy := Option.some.inj h
            subst hy
            unfold Gives
            exact ⟨_, Le.refl _ _, rfl, rfl⟩
          · replace h := bif_f hb h
            refine tri_skip ?_
            show Tri _ _ _ _
            refine tri_region (by exact tokW) (by exact gok) [] [] rfl ?_
            refine ⟨(k, IntKind.i64.wrap (i3 + 1)), h, (Le.forget _ ⟨rfl, rfl, rfl, trivial⟩), Nat.lt_succ_self k⟩
        · replace h := bif_f hb h
          refine tri_exit ?_
          cases h
          exact ⟨_, rfl, (Le.forget _ trivial)⟩
  · subst hz
    obtain _ := z
    replace h := ho1
    show Tri _ _ _ _
    refine tri_le hle ?_
    refine tri_seq ?_
    refine tri_region (by exact tokW) (by exact gok) [] [] rfl ?_
    show Tri _ _ _ _
    refine tri_ret ?_
    have hy := Option.some.inj h
    subst hy
    unfold Gives
    exact ⟨_, Le.refl _ _, rfl, rfl⟩
def R_r09_Character (n : Nat) (xs : List AV) (r : Ret) : Prop := ∃ (a0 : Int) (y0 : Bool), m_r09_Character n a0 = some y0 ∧ xs = [.s (.int .u8 a0)] ∧ r = .val (.s (.bool y0))
def S_r09_Character : PSpec := pspec fun xs r => ∃ n, R_r09_Character n xs r
set_option maxHeartbeats 2000000 in
set_option maxRecDepth 100000 in
theorem ok_r09_Character : PSound Tryd.prog 45 S_r09_Character := by
  have gok : ∀ f s, look? f [(46, S_r09_Letter), (38, S_r09_has)] = some s → PSound Tryd.prog f s := look_all (by
    simp only [List.forall_mem_cons]
    exact ⟨ok_r09_Letter, ok_r09_has, by simp⟩)
  refine psound tokW Tryd.call45 Tryd.func45 rfl (fun xs r h => by obtain ⟨n, _, _, _, rfl, _⟩ := h; show 1 ≤ 9; decide) 9 rfl ?_
  rintro xs r w0 G0 ⟨n, c1, y0, h, rfl, rfl⟩ _
  rw [m_r09_Character] at h
  refine tri_seq ?_
  refine tri_region (by exact tokW) (by exact gok) [] [] rfl ?_
  show Tri _ _ _ _
  refine tri_seq ?_
  obtain ⟨x2, hj, h⟩ := bind_out h
  refine tri_post ⟨ofL [(2, .s (.bool x2))], fun _ => none, 0⟩ ?_ (fun σ' hle => ?_)
  · replace h := hj
    refine tri_region (by exact tokW) (by exact gok) [] [5] rfl ?_
    obtain ⟨y3, hy3, h⟩ := bind_out h
    refine ⟨_, ⟨_, _, hy3, rfl, rfl⟩, ?_⟩
    intro b hb
    cases b with
    | true =>
      replace h := bif_t hb.symm h
      cases h
      exact (Le.forget _ ⟨rfl, trivial⟩)
    | false =>
      replace h := bif_f hb.symm h
      obtain ⟨y4, hy4, h⟩ := bind_out h
      refine ⟨_, ⟨_, _, _, _, hy4, rfl, rfl⟩, ?_⟩
      cases h
      exact (Le.forget _ ⟨rfl, trivial⟩)
  · show Tri _ _ _ _
    refine tri_le hle ?_
    refine tri_ret ?_
    have hy := Option.some.inj h
    subst hy
    unfold Gives
    exact ⟨_, Le.refl _ _, rfl, rfl⟩
def enc_string (p : List UInt8) : List S := [.str p]
def R_r09_Keywords (xs : List AV) (r : Ret) : Prop := ∃ (y0 : List (List UInt8)), m_r09_Keywords = some y0 ∧ xs = [] ∧ r = .val (.s (.sl 1 ((List.map enc_string) y0)))
def S_r09_Keywords : PSpec := pspec fun xs r => R_r09_Keywords xs r
set_option maxHeartbeats 2000000 in
set_option maxRecDepth 100000 in
theorem ok_r09_Keywords : PSound Tryd.prog 47 S_r09_Keywords := by
  have gok : ∀ (f : Nat) (s : PSpec), (fun _ => none : Nat → Option PSpec) f = some s → PSound Tryd.prog f s := fun _ _ h => by cases h
  refine psound tokW Tryd.call47 Tryd.func47 rfl (fun xs r h => by obtain ⟨_, _, rfl, _⟩ := h; show 0 ≤ 2; decide) 2 rfl ?_
  rintro xs r w0 G0 ⟨y0, h, rfl, rfl⟩ _
  rw [m_r09_Keywords] at h
  refine tri_seq ?_
  refine tri_region (by exact tokW) (by exact gok) [] [] rfl ?_
  show Tri _ _ _ _
  refine tri_seq ?_
  refine tri_region (by exact tokW) (by exact gok) [] [1] rfl ?_
  intro r1 hr1
  obtain rfl : (List.map enc_string) [[102, 114, 97, 99], [114, 111, 111, 116], [109, 97, 116, 114, 105, 120], [102, 101, 110, 99, 101]] = r1 := (hr1.trans (by simp [List.map_append, List.map_take, List.map_drop, irow, brow, b8of_row, List.map_cons, List.map_nil, b8of_wrap, Nd.encs_eq, Nd.enc, enc_13_node_kind, enc_node_checker, enc_node_inner, enc_diff_grid, enc_s_int, enc_node_open, enc_2_int, enc_api_Conflict, enc_3_s_api_Node, enc_merge_merger, enc_string])).symm
  show Tri _ _ _ _
  refine tri_ret ?_
  have hy := Option.some.inj h
  subst hy
  unfold Gives
  exact ⟨_, Le.refl _ _, rfl, rfl⟩
def R_r09_In (n : Nat) (xs : List AV) (r : Ret) : Prop := ∃ (a0 : List (List UInt8)) (a1 : List UInt8) (y0 : Bool), m_r09_In n a0 a1 = some y0 ∧ xs = [.s (.sl 1 ((List.map enc_string) a0)), .s (.str a1)] ∧ r = .val (.s (.bool y0))
def S_r09_In : PSpec := pspec fun xs r => ∃ n, R_r09_In n xs r
set_option maxHeartbeats 2000000 in
set_option maxRecDepth 100000 in
theorem ok_r09_In : PSound Tryd.prog 36 S_r09_In := by
  have gok : ∀ (f : Nat) (s : PSpec), (fun _ => none : Nat → Option PSpec) f = some s → PSound Tryd.prog f s := fun _ _ h => by cases h
  refine psound tokW Tryd.call36 Tryd.func36 rfl (fun xs r h => by obtain ⟨n, _, _, _, _, rfl, _⟩ := h; show 2 ≤ 18; decide) 18 rfl ?_
  rintro xs r w0 G0 ⟨n, l1, s2, y0, h, rfl, rfl⟩ _
  rw [m_r09_In] at h
  refine tri_seq ?_
  refine tri_region (by exact tokW) (by exact gok) [] [] rfl ?_
  show Tri _ _ _ _
  refine tri_seq ?_
  refine tri_seq ?_
  refine tri_region (by exact tokW) (by exact gok) [] [] rfl ?_
  show Tri _ _ _ _
  obtain ⟨fl, hl, ho1⟩ := bind_out h
  refine tri_fl (fl := fl) (fun z => match z with | _ => ⟨ofL [], fun _ => none, 0⟩) ?_ (fun z σ' hz hle => ?_)
  · refine tri_block (tri_loopI (X := Nat × Int) (fun y => match y with | (k, i3) => ⟨ofL [(0, .s (.sl 1 ((List.map enc_string) l1))), (1, .s (.str s2)), (5, .s (.int .i64 i3))], fun _ => none, 0⟩) (fun y => m_r09_In_l1 l1 s2 y.1 y.2 = some fl) (fun y => y.1) (n, 0) hl ?_ ?_)
    · exact (Le.forget _ ⟨rfl, rfl, rfl, trivial⟩)
    · rintro ⟨k, i3⟩ h
      cases k with
      | zero => cases h
      | succ k =>
        replace h : m_r09_In_l1 l1 s2 (k+1) i3 = some fl := h
        rw [m_r09_In_l1] at h
        refine tri_seq ?_
        refine tri_seq ?_
        refine tri_region (by exact tokW) (by exact gok) [] [8] rfl ?_
        intro n4 hn4
        obtain rfl : (l1.length : Int) = n4 := (hn4.trans (congrArg (fun m : Nat => (m : Int)) (rlen (fun _ => rfl) l1))).symm
        show Tri _ _ _ _
        refine tri_cond rfl (fun hb => ?_) (fun hb => ?_)
        · replace h := bif_t hb h
          refine tri_skip ?_
          show Tri _ _ _ _
          refine tri_seq ?_
          refine tri_block ?_
          refine tri_seq ?_
          refine tri_region (by exact tokW) (by exact gok) [] [14] rfl ?_
          obtain ⟨e5, he5, h⟩ := bind_out h
          refine And.intro (at_ok (fun _ => rfl) he5).1 ?_
          intro r6 hr6
          obtain rfl : [.str e5] = r6 := (hr6.trans (at_ok (fun _ => rfl) he5).2.1).symm
          show Tri _ _ _ _
          refine tri_cond rfl (fun hb => ?_) (fun hb => ?_)
          · replace h := bif_t hb h
            refine tri_seq ?_
            refine tri_region (by exact tokW) (by exact gok) [] [] rfl ?_
            show Tri _ _ _ _
            refine tri_ret ?_
            cases h
            replace h : some _ = some _ := ho1
            have hy := Option.some.inj h
            subst hy
            unfold Gives
            exact ⟨_, Le.refl _ _, rfl, rfl⟩
          · replace h := bif_f hb h
            refine tri_skip ?_
            show Tri _ _ _ _
            refine tri_region (by exact tokW) (by exact gok) [] [] rfl ?_
            refine ⟨(k, IntKind.i64.wrap (i3 + 1)), h, (Le.forget _ ⟨rfl, rfl, rfl, trivial⟩), Nat.lt_succ_self k⟩
        · replace h := bif_f hb h
          refine tri_exit ?_
          cases h
          exact ⟨_, rfl, (Le.forget _ trivial)⟩
  · subst hz
    obtain _ := z
    replace h := ho1
    show Tri _ _ _ _
    refine tri_le hle ?_
    refine tri_seq ?_
    refine tri_region (by exact tokW) (by exact gok) [] [] rfl ?_
    show Tri _ _ _ _
    refine tri_ret ?_
    have hy := Option.some.inj h
    subst hy
    unfold Gives
    exact ⟨_, Le.refl _ _, rfl, rfl⟩
def R_r09_Accents (xs : List AV) (r : Ret) : Prop := ∃ (y0 : List (List UInt8)), m_r09_Accents = some y0 ∧ xs = [] ∧ r = .val (.s (.sl 1 ((List.map enc_string) y0)))
def S_r09_Accents : PSpec := pspec fun xs r => R_r09_Accents xs r
set_option maxHeartbeats 2000000 in
set_option maxRecDepth 100000 in
theorem ok_r09_Accents : PSound Tryd.prog 37 S_r09_Accents := by
  have gok : ∀ (f : Nat) (s : PSpec), (fun _ => none : Nat → Option PSpec) f = some s → PSound Tryd.prog f s := fun _ _ h => by cases h
  refine psound tokW Tryd.call37 Tryd.func37 rfl (fun xs r h => by obtain ⟨_, _, rfl, _⟩ := h; show 0 ≤ 2; decide) 2 rfl ?_
  rintro xs r w0 G0 ⟨y0, h, rfl, rfl⟩ _
  rw [m_r09_Accents] at h
  refine tri_seq ?_
  refine tri_region (by exact tokW) (by exact gok) [] [] rfl ?_
  show Tri _ _ _ _
  refine tri_seq ?_
  refine tri_region (by exact tokW) (by exact gok) [] [1] rfl ?_
  intro r1 hr1
  obtain rfl : (List.map enc_string) [[104, 97, 116], [98, 97, 114], [118, 101, 99], [100, 111, 116], [116, 105, 108, 100, 101], [99, 104, 101, 99, 107]] = r1 := (hr1.trans (by simp [List.map_append, List.map_take, List.map_drop, irow, brow, b8of_row, List.map_cons, List.map_nil, b8of_wrap, Nd.encs_eq, Nd.enc, enc_13_node_kind, enc_node_checker, enc_node_inner, enc_diff_grid, enc_s_int, enc_node_open, enc_2_int, enc_api_Conflict, enc_3_s_api_Node, enc_merge_merger, enc_string])).symm
  show Tri _ _ _ _
  refine tri_ret ?_
  have hy := Option.some.inj h
  subst hy
  unfold Gives
  exact ⟨_, Le.refl _ _, rfl, rfl⟩
def R_r09_Symbol (n : Nat) (xs : List AV) (r : Ret) : Prop := ∃ (a0 : List UInt8) (y0 : Bool), m_r09_Symbol n a0 = some y0 ∧ xs = [.s (.str a0)] ∧ r = .val (.s (.bool y0))
def S_r09_Symbol : PSpec := pspec fun xs r => ∃ n, R_r09_Symbol n xs r
set_option maxHeartbeats 2000000 in
set_option maxRecDepth 100000 in
theorem ok_r09_Symbol : PSound Tryd.prog 33 S_r09_Symbol := by
  have gok : ∀ f s, look? f [(45, S_r09_Character), (46, S_r09_Letter), (47, S_r09_Keywords), (36, S_r09_In), (37, S_r09_Accents)] = some s → PSound Tryd.prog f s := look_all (by
    simp only [List.forall_mem_cons]
    exact ⟨ok_r09_Character, ok_r09_Letter, ok_r09_Keywords, ok_r09_In, ok_r09_Accents, by simp⟩)
  refine psound tokW Tryd.call33 Tryd.func33 rfl (fun xs r h => by obtain ⟨n, _, _, _, rfl, _⟩ := h; show 1 ≤ 41; decide) 41 rfl ?_
  rintro xs r w0 G0 ⟨n, s1, y0, h, rfl, rfl⟩ _
  rw [m_r09_Symbol] at h
  refine tri_seq ?_
  refine tri_region (by exact tokW) (by exact gok) [] [] rfl ?_
  show Tri _ _ _ _
  refine tri_seq ?_
  refine tri_seq ?_
  refine tri_region (by exact tokW) (by exact gok) [] [] rfl ?_
  show Tri _ _ _ _
  refine tri_cond rfl (fun hb => ?_) (fun hb => ?_)
  · replace h := bif_t hb h
    refine tri_seq ?_
    refine tri_region (by exact tokW) (by exact gok) [] [8] rfl ?_
    obtain ⟨c2, hc2, h⟩ := bind_out h
    refine And.intro (str_ok hc2).1 ?_
    intro v3 hv3
    obtain rfl : (c2.toNat : Int) = v3 := (hv3.trans (str_ok hc2).2).symm
    obtain ⟨y4, hy4, h⟩ := bind_out h
    refine ⟨_, ⟨_, _, _, hy4, rfl, rfl⟩, ?_⟩
    show Tri _ _ _ _
    refine tri_ret ?_
    have hy := Option.some.inj h
    subst hy
    unfold Gives
    exact ⟨_, Le.refl _ _, rfl, rfl⟩
  · replace h := bif_f hb h
    refine tri_skip ?_
    show Tri _ _ _ _
    refine tri_seq ?_
    refine tri_seq ?_
    refine tri_region (by exact tokW) (by exact gok) [] [] rfl ?_
    show Tri _ _ _ _
    obtain ⟨fl, hl, ho1⟩ := bind_out h
    refine tri_fl (fl := fl) (fun z => match z with | _ => ⟨ofL [(0, .s (.str s1))], fun _ => none, 0⟩) ?_ (fun z σ' hz hle => ?_)
    · refine tri_block (tri_loopI (X := Nat × Int) (fun y => match y with | (k, i5) => ⟨ofL [(0, .s (.str s1)), (3, .s (.int .i64 i5))], fun _ => none, 0⟩) (fun y => m_r09_Symbol_l1 s1 y.1 y.2 = some fl) (fun y => y.1) (n, 0) hl ?_ ?_)
      · exact (Le.forget _ ⟨rfl, rfl, trivial⟩)
      · rintro ⟨k, i5⟩ h
        cases k with
        | zero => cases h
        | succ k =>
          replace h : m_r09_Symbol_l1 s1 (k+1) i5 = some fl := h
          rw [m_r09_Symbol_l1] at h
          refine tri_seq ?_
          refine tri_seq ?_
          refine tri_region (by exact tokW) (by exact gok) [] [] rfl ?_
          show Tri _ _ _ _
          refine tri_cond rfl (fun hb => ?_) (fun hb => ?_)
          · replace h := bif_t hb h
            refine tri_skip ?_
            show Tri _ _ _ _
            refine tri_seq ?_
            refine tri_block ?_
            refine tri_seq ?_
            refine tri_region (by exact tokW) (by exact gok) [] [18] rfl ?_
            obtain ⟨c6, hc6, h⟩ := bind_out h
            refine And.intro (str_ok hc6).1 ?_
            intro v7 hv7
            obtain rfl : (c6.toNat : Int) = v7 := (hv7.trans (str_ok hc6).2).symm
            obtain ⟨y8, hy8, h⟩ := bind_out h
            refine ⟨_, ⟨_, _, hy8, rfl, rfl⟩, ?_⟩
            show Tri _ _ _ _
            refine tri_cond rfl (fun hb => ?_) (fun hb => ?_)
            · replace h := bif_t hb h
              refine tri_seq ?_
              refine tri_region (by exact tokW) (by exact gok) [] [] rfl ?_
              show Tri _ _ _ _
              refine tri_ret ?_
              cases h
              replace h : some _ = some _ := ho1
              have hy := Option.some.inj h
              subst hy
              unfold Gives
              exact ⟨_, Le.refl _ _, rfl, rfl⟩
            · replace h := bif_f hb h
              refine tri_skip ?_
              show Tri _ _ _ _
              refine tri_region (by exact tokW) (by exact gok) [] [] rfl ?_
              refine ⟨(k, IntKind.i64.wrap (i5 + 1)), h, (Le.forget _ ⟨rfl, rfl, trivial⟩), Nat.lt_succ_self k⟩
          · replace h := bif_f hb h
            refine tri_exit ?_
            cases h
            exact ⟨_, rfl, (Le.forget _ ⟨rfl, trivial⟩)⟩
    · subst hz
      obtain _ := z
      replace h := ho1
      show Tri _ _ _ _
      refine tri_le hle ?_
      refine tri_seq ?_
      obtain ⟨x9, hj, h⟩ := bind_out h
      refine tri_post ⟨ofL [(2, .s (.bool x9))], fun _ => none, 0⟩ ?_ (fun σ' hle => ?_)
      · replace h := hj
        refine tri_region (by exact tokW) (by exact gok) [] [24, 29, 35] rfl ?_
        intro b hb
        cases b with
        | true =>
          replace h := bif_t hb.symm h
          intro b hb
          cases b with
          | true =>
            replace h := bif_t hb.symm h
            obtain ⟨y10, hy10, h⟩ := bind_out h
            refine ⟨_, ⟨_, hy10, rfl, rfl⟩, ?_⟩
            obtain ⟨y11, hy11, h⟩ := bind_out h
            refine ⟨_, ⟨_, _, _, _, hy11, rfl, rfl⟩, ?_⟩
            intro b hb
            cases b with
            | true =>
              replace h := bif_t hb.symm h
              obtain ⟨y12, hy12, h⟩ := bind_out h
              refine ⟨_, ⟨_, hy12, rfl, rfl⟩, ?_⟩
              obtain ⟨y13, hy13, h⟩ := bind_out h
              refine ⟨_, ⟨_, _, _, _, hy13, rfl, rfl⟩, ?_⟩
              cases h
              exact (Le.forget _ ⟨rfl, trivial⟩)
            | false =>
              replace h := bif_f hb.symm h
              cases h
              exact (Le.forget _ ⟨rfl, trivial⟩)
          | false =>
            replace h := bif_f hb.symm h
            intro b hb
            subst hb
            cases h
            exact (Le.forget _ ⟨rfl, trivial⟩)
        | false =>
          replace h := bif_f hb.symm h
          intro b hb
          subst hb
          intro b hb
          subst hb
          cases h
          exact (Le.forget _ ⟨rfl, trivial⟩)
      · show Tri _ _ _ _
        refine tri_le hle ?_
        refine tri_ret ?_
        have hy := Option.some.inj h
        subst hy
        unfold Gives
        exact ⟨_, Le.refl _ _, rfl, rfl⟩
def R_r09_Digit (xs : List AV) (r : Ret) : Prop := ∃ (a0 : Int) (y0 : Bool), m_r09_Digit a0 = some y0 ∧ xs = [.s (.int .u8 a0)] ∧ r = .val (.s (.bool y0))
def S_r09_Digit : PSpec := pspec fun xs r => R_r09_Digit xs r
set_option maxHeartbeats 2000000 in
set_option maxRecDepth 100000 in
theorem ok_r09_Digit : PSound Tryd.prog 48 S_r09_Digit := by
  have gok : ∀ (f : Nat) (s : PSpec), (fun _ => none : Nat → Option PSpec) f = some s → PSound Tryd.prog f s := fun _ _ h => by cases h
  refine psound tokW Tryd.call48 Tryd.func48 rfl (fun xs r h => by obtain ⟨_, _, _, rfl, _⟩ := h; show 1 ≤ 9; decide) 9 rfl ?_
  rintro xs r w0 G0 ⟨c1, y0, h, rfl, rfl⟩ _
  rw [m_r09_Digit] at h
  refine tri_seq ?_
  refine tri_region (by exact tokW) (by exact gok) [] [] rfl ?_
  show Tri _ _ _ _
  refine tri_seq ?_
  obtain ⟨x2, hj, h⟩ := bind_out h
  refine tri_post ⟨ofL [(2, .s (.bool x2))], fun _ => none, 0⟩ ?_ (fun σ' hle => ?_)
  · replace h := hj
    refine tri_region (by exact tokW) (by exact gok) [] [5] rfl ?_
    intro b hb
    cases b with
    | true =>
      replace h := bif_t hb.symm h
      cases h
      exact (Le.forget _ ⟨rfl, trivial⟩)
    | false =>
      replace h := bif_f hb.symm h
      cases h
      exact (Le.forget _ ⟨rfl, trivial⟩)
  · show Tri _ _ _ _
    refine tri_le hle ?_
    refine tri_ret ?_
    have hy := Option.some.inj h
    subst hy
    unfold Gives
    exact ⟨_, Le.refl _ _, rfl, rfl⟩
end Go.Proofs.YtgfneloodabafaaDoor
namespace Go.Proofs.YtgfneloodabafaaDoor
open Go.Abs
def R_r09_Number (n : Nat) (xs : List AV) (r : Ret) : Prop := ∃ (a0 : List UInt8) (y0 : Bool), m_r09_Number n a0 = some y0 ∧ xs = [.s (.str a0)] ∧ r = .val (.s (.bool y0))
def S_r09_Number : PSpec := pspec fun xs r => ∃ n, R_r09_Number n xs r
set_option maxHeartbeats 2000000 in
set_option maxRecDepth 100000 in
theorem ok_r09_Number : PSound Tryd.prog 34 S_r09_Number := by
  have gok : ∀ f s, look? f [(48, S_r09_Digit)] = some s → PSound Tryd.prog f s := look_all (by
    simp only [List.forall_mem_cons]
    exact ⟨ok_r09_Digit, by simp⟩)
  refine psound tokW Tryd.call34 Tryd.func34 rfl (fun xs r h => by obtain ⟨n, _, _, _, rfl, _⟩ := h; show 1 ≤ 45; decide) 45 rfl ?_
  rintro xs r w0 G0 ⟨n, s1, y0, h, rfl, rfl⟩ _
  rw [m_r09_Number] at h
  refine tri_seq ?_
  refine tri_region (by exact tokW) (by exact gok) [] [] rfl ?_
  show Tri _ _ _ _
  refine tri_seq ?_
  refine tri_region (by exact tokW) (by exact gok) [] [] rfl ?_
  show Tri _ _ _ _
  refine tri_seq ?_
  refine tri_seq ?_
  refine tri_region (by exact tokW) (by exact gok) [] [] rfl ?_
  show Tri _ _ _ _
  obtain ⟨fl, hl, ho1⟩ := bind_out h
  refine tri_fl (fl := fl) (fun z => match z with | points4 => ⟨ofL [(0, .s (.str s1)), (3, .s (.int .i64 points4))], fun _ => none, 0⟩) ?_ (fun points4 σ' hz hle => ?_)
  · refine tri_block (tri_loopI (X := Nat × Int × Int) (fun y => match y with | (k, points2, i3) => ⟨ofL [(0, .s (.str s1)), (3, .s (.int .i64 points2)), (4, .s (.int .i64 i3))], fun _ => none, 0⟩) (fun y => m_r09_Number_l1 s1 y.1 y.2.1 y.2.2 = some fl) (fun y => y.1) (n, 0, 0) hl ?_ ?_)
    · exact (Le.forget _ ⟨rfl, rfl, rfl, trivial⟩)
    · rintro ⟨k, points2, i3⟩ h
      cases k with
      | zero => cases h
      | succ k =>
        replace h : m_r09_Number_l1 s1 (k+1) points2 i3 = some fl := h
        rw [m_r09_Number_l1] at h
        refine tri_seq ?_
        refine tri_seq ?_
        refine tri_region (by exact tokW) (by exact gok) [] [] rfl ?_
        show Tri _ _ _ _
        refine tri_cond rfl (fun hb => ?_) (fun hb => ?_)
        · replace h := bif_t hb h
          refine tri_skip ?_
          show Tri _ _ _ _
          refine tri_seq ?_
          obtain ⟨fl, hj, ho2⟩ := bind_out h
          refine tri_fl (fl := fl) (fun z => match z with | points5 => ⟨ofL [(0, .s (.str s1)), (3, .s (.int .i64 points5)), (4, .s (.int .i64 i3))], fun _ => none, 0⟩) ?_ (fun points5 σ' hz hle => ?_)
          · replace h := hj
            refine tri_block ?_
            refine tri_seq ?_
            obtain ⟨x6, hj, h⟩ := bind_out h
            refine tri_post ⟨ofL [(0, .s (.str s1)), (3, .s (.int .i64 points2)), (4, .s (.int .i64 i3)), (25, .s (.bool x6))], fun _ => none, 0⟩ ?_ (fun σ' hle => ?_)
            · replace h := hj
              refine tri_region (by exact tokW) (by exact gok) [] [13, 15, 19] rfl ?_
              obtain ⟨c7, hc7, h⟩ := bind_out h
              refine And.intro (str_ok hc7).1 ?_
              intro v8 hv8
              obtain rfl : (c7.toNat : Int) = v8 := (hv8.trans (str_ok hc7).2).symm
              intro b hb
              cases b with
              | true =>
                replace h := bif_t hb.symm h
                intro b hb
                cases b with
                | true =>
                  replace h := bif_t hb.symm h
                  cases h
                  exact (Le.forget _ ⟨rfl, rfl, rfl, rfl, trivial⟩)
                | false =>
                  replace h := bif_f hb.symm h
                  cases h
                  exact (Le.forget _ ⟨rfl, rfl, rfl, rfl, trivial⟩)
              | false =>
                replace h := bif_f hb.symm h
                intro b hb
                subst hb
                cases h
                exact (Le.forget _ ⟨rfl, rfl, rfl, rfl, trivial⟩)
            · show Tri _ _ _ _
              refine tri_le hle ?_
              refine tri_cond rfl (fun hb => ?_) (fun hb => ?_)
              · replace h := bif_t hb h
                refine tri_region (by exact tokW) (by exact gok) [] [] rfl ?_
                cases h
                exact ⟨_, rfl, (Le.forget _ ⟨rfl, rfl, rfl, trivial⟩)⟩
              · replace h := bif_f hb h
                refine tri_seq ?_
                refine tri_region (by exact tokW) (by exact gok) [] [30] rfl ?_
                obtain ⟨c9, hc9, h⟩ := bind_out h
                refine And.intro (str_ok hc9).1 ?_
                intro v10 hv10
                obtain rfl : (c9.toNat : Int) = v10 := (hv10.trans (str_ok hc9).2).symm
                obtain ⟨y11, hy11, h⟩ := bind_out h
                refine ⟨_, ⟨_, _, hy11, rfl, rfl⟩, ?_⟩
                show Tri _ _ _ _
                refine tri_cond rfl (fun hb => ?_) (fun hb => ?_)
                · replace h := bif_t hb h
                  refine tri_seq ?_
                  refine tri_region (by exact tokW) (by exact gok) [] [] rfl ?_
                  show Tri _ _ _ _
                  refine tri_ret ?_
                  cases h
                  replace h : some _ = some _ := ho2
                  cases h
                  replace h : some _ = some _ := ho1
                  have hy := Option.some.inj h
                  subst hy
                  unfold Gives
                  exact ⟨_, Le.refl _ _, rfl, rfl⟩
                · replace h := bif_f hb h
                  refine tri_skip ?_
                  cases h
                  exact ⟨_, rfl, (Le.forget _ ⟨rfl, rfl, rfl, trivial⟩)⟩
          · subst hz
            replace h := ho2
            show Tri _ _ _ _
            refine tri_le hle ?_
            refine tri_region (by exact tokW) (by exact gok) [] [] rfl ?_
            refine ⟨(k, points5, IntKind.i64.wrap (i3 + 1)), h, (Le.forget _ ⟨rfl, rfl, rfl, trivial⟩), Nat.lt_succ_self k⟩
        · replace h := bif_f hb h
          refine tri_exit ?_
          cases h
          exact ⟨_, rfl, (Le.forget _ ⟨rfl, rfl, trivial⟩)⟩
  · subst hz
    replace h := ho1
    show Tri _ _ _ _
    refine tri_le hle ?_
    refine tri_seq ?_
    obtain ⟨x12, hj, h⟩ := bind_out h
    refine tri_post ⟨ofL [(2, .s (.bool x12))], fun _ => none, 0⟩ ?_ (fun σ' hle => ?_)
    · replace h := hj
      refine tri_region (by exact tokW) (by exact gok) [] [36, 41] rfl ?_
      intro b hb
      cases b with
      | true =>
        replace h := bif_t hb.symm h
        intro b hb
        cases b with
        | true =>
          replace h := bif_t hb.symm h
          cases h
          exact (Le.forget _ ⟨rfl, trivial⟩)
        | false =>
          replace h := bif_f hb.symm h
          cases h
          exact (Le.forget _ ⟨rfl, trivial⟩)
      | false =>
        replace h := bif_f hb.symm h
        intro b hb
        subst hb
        cases h
        exact (Le.forget _ ⟨rfl, trivial⟩)
    · show Tri _ _ _ _
      refine tri_le hle ?_
      refine tri_ret ?_
      have hy := Option.some.inj h
      subst hy
      unfold Gives
      exact ⟨_, Le.refl _ _, rfl, rfl⟩
def R_r09_Printable (n : Nat) (xs : List AV) (r : Ret) : Prop := ∃ (a0 : List UInt8) (y0 : Bool), m_r09_Printable n a0 = some y0 ∧ xs = [.s (.str a0)] ∧ r = .val (.s (.bool y0))
def S_r09_Printable : PSpec := pspec fun xs r => ∃ n, R_r09_Printable n xs r
set_option maxHeartbeats 2000000 in
set_option maxRecDepth 100000 in
theorem ok_r09_Printable : PSound Tryd.prog 35 S_r09_Printable := by
  have gok : ∀ (f : Nat) (s : PSpec), (fun _ => none : Nat → Option PSpec) f = some s → PSound Tryd.prog f s := fun _ _ h => by cases h
  refine psound tokW Tryd.call35 Tryd.func35 rfl (fun xs r h => by obtain ⟨n, _, _, _, rfl, _⟩ := h; show 1 ≤ 20; decide) 20 rfl ?_
  rintro xs r w0 G0 ⟨n, s1, y0, h, rfl, rfl⟩ _
  rw [m_r09_Printable] at h
  refine tri_seq ?_
  refine tri_region (by exact tokW) (by exact gok) [] [] rfl ?_
  show Tri _ _ _ _
  refine tri_seq ?_
  refine tri_seq ?_
  refine tri_region (by exact tokW) (by exact gok) [] [] rfl ?_
  show Tri _ _ _ _
  obtain ⟨fl, hl, ho1⟩ := bind_out h
  refine tri_fl (fl := fl) (fun z => match z with | _ => ⟨ofL [], fun _ => none, 0⟩) ?_ (fun z σ' hz hle => ?_)
  · refine tri_block (tri_loopI (X := Nat × Int) (fun y => match y with | (k, i2) => ⟨ofL [(0, .s (.str s1)), (3, .s (.int .i64 i2))], fun _ => none, 0⟩) (fun y => m_r09_Printable_l1 s1 y.1 y.2 = some fl) (fun y => y.1) (n, 0) hl ?_ ?_)
    · exact (Le.forget _ ⟨rfl, rfl, trivial⟩)
    · rintro ⟨k, i2⟩ h
      cases k with
      | zero => cases h
      | succ k =>
        replace h : m_r09_Printable_l1 s1 (k+1) i2 = some fl := h
        rw [m_r09_Printable_l1] at h
        refine tri_seq ?_
        refine tri_seq ?_
        refine tri_region (by exact tokW) (by exact gok) [] [] rfl ?_
        show Tri _ _ _ _
        refine tri_cond rfl (fun hb => ?_) (fun hb => ?_)
        · replace h := bif_t hb h
          refine tri_skip ?_
          show Tri _ _ _ _
          refine tri_seq ?_
          refine tri_block ?_
          refine tri_seq ?_
          obtain ⟨x3, hj, h⟩ := bind_out h
          refine tri_post ⟨ofL [(0, .s (.str s1)), (3, .s (.int .i64 i2)), (19, .s (.bool x3))], fun _ => none, 0⟩ ?_ (fun σ' hle => ?_)
          · replace h := hj
            refine tri_region (by exact tokW) (by exact gok) [] [12, 14, 17] rfl ?_
            obtain ⟨c4, hc4, h⟩ := bind_out h
            refine And.intro (str_ok hc4).1 ?_
            intro v5 hv5
            obtain rfl : (c4.toNat : Int) = v5 := (hv5.trans (str_ok hc4).2).symm
            intro b hb
            cases b with
            | true =>
              replace h := bif_t hb.symm h
              cases h
              exact (Le.forget _ ⟨rfl, rfl, rfl, trivial⟩)
            | false =>
              replace h := bif_f hb.symm h
              obtain ⟨c6, hc6, h⟩ := bind_out h
              refine And.intro (str_ok hc6).1 ?_
              intro v7 hv7
              obtain rfl : (c6.toNat : Int) = v7 := (hv7.trans (str_ok hc6).2).symm
              cases h
              exact (Le.forget _ ⟨rfl, rfl, rfl, trivial⟩)
          · show Tri _ _ _ _
            refine tri_le hle ?_
            refine tri_cond rfl (fun hb => ?_) (fun hb => ?_)
            · replace h := bif_t hb h
              refine tri_seq ?_
              refine tri_region (by exact tokW) (by exact gok) [] [] rfl ?_
              show Tri _ _ _ _
              refine tri_ret ?_
              cases h
              replace h : some _ = some _ := ho1
              have hy := Option.some.inj h
              subst hy
              unfold Gives
              exact ⟨_, Le.refl _ _, rfl, rfl⟩
            · replace h := bif_f hb h
              refine tri_skip ?_
              show Tri _ _ _ _
              refine tri_region (by exact tokW) (by exact gok) [] [] rfl ?_
              refine ⟨(k, IntKind.i64.wrap (i2 + 1)), h, (Le.forget _ ⟨rfl, rfl, trivial⟩), Nat.lt_succ_self k⟩
        · replace h := bif_f hb h
          refine tri_exit ?_
          cases h
          exact ⟨_, rfl, (Le.forget _ trivial)⟩
  · subst hz
    obtain _ := z
    replace h := ho1
    show Tri _ _ _ _
    refine tri_le hle ?_
    refine tri_seq ?_
    refine tri_region (by exact tokW) (by exact gok) [] [] rfl ?_
    show Tri _ _ _ _
    refine tri_ret ?_
    have hy := Option.some.inj h
    subst hy
    unfold Gives
    exact ⟨_, Le.refl _ _, rfl, rfl⟩
def R_r09_text (n : Nat) (xs : List AV) (r : Ret) : Prop := ∃ (a0 : Nd) (y0 : Bool), m_r09_text n a0 = some y0 ∧ xs = [.agg ((Nd.enc a0).map .s)] ∧ r = .val (.s (.bool y0))
def S_r09_text : PSpec := pspec fun xs r => ∃ n, R_r09_text n xs r
set_option maxHeartbeats 2000000 in
set_option maxRecDepth 100000 in
theorem ok_r09_text : PSound Tryd.prog 27 S_r09_text := by
  have gok : ∀ f s, look? f [(33, S_r09_Symbol), (34, S_r09_Number), (35, S_r09_Printable), (37, S_r09_Accents), (36, S_r09_In), (38, S_r09_has)] = some s → PSound Tryd.prog f s := look_all (by
    simp only [List.forall_mem_cons]
    exact ⟨ok_r09_Symbol, ok_r09_Number, ok_r09_Printable, ok_r09_Accents, ok_r09_In, ok_r09_has, by simp⟩)
  refine psound tokW Tryd.call27 Tryd.func27 rfl (fun xs r h => by obtain ⟨n, _, _, _, rfl, _⟩ := h; show 1 ≤ 53; decide) 53 rfl ?_
  rintro xs r w0 G0 ⟨n, ⟨n1_kind, n1_text, n1_cols, n1_kids⟩, y0, h, rfl, rfl⟩ _
  rw [m_r09_text] at h
  refine tri_seq ?_
  refine tri_region (by exact tokW) (by exact gok) [] [] rfl ?_
  show Tri _ _ _ _
  refine tri_seq ?_
  refine tri_seq ?_
  refine tri_region (by exact tokW) (by exact gok) [] [] rfl ?_
  show Tri _ _ _ _
  refine tri_block ?_
  refine tri_seq ?_
  refine tri_region (by exact tokW) (by exact gok) [] [] rfl ?_
  show Tri _ _ _ _
  refine tri_cond rfl (fun hb => ?_) (fun hb => ?_)
  · replace h := bif_t hb h
    refine tri_seq ?_
    refine tri_region (by exact tokW) (by exact gok) [] [] rfl ?_
    obtain ⟨y2, hy2, h⟩ := bind_out h
    refine ⟨_, ⟨_, _, _, hy2, rfl, rfl⟩, ?_⟩
    show Tri _ _ _ _
    refine tri_ret ?_
    have hy := Option.some.inj h
    subst hy
    unfold Gives
    exact ⟨_, Le.refl _ _, rfl, rfl⟩
  · replace h := bif_f hb h
    refine tri_seq ?_
    refine tri_region (by exact tokW) (by exact gok) [] [] rfl ?_
    show Tri _ _ _ _
    refine tri_cond rfl (fun hb => ?_) (fun hb => ?_)
    · replace h := bif_t hb h
      refine tri_seq ?_
      refine tri_region (by exact tokW) (by exact gok) [] [] rfl ?_
      obtain ⟨y3, hy3, h⟩ := bind_out h
      refine ⟨_, ⟨_, _, _, hy3, rfl, rfl⟩, ?_⟩
      show Tri _ _ _ _
      refine tri_ret ?_
      have hy := Option.some.inj h
      subst hy
      unfold Gives
      exact ⟨_, Le.refl _ _, rfl, rfl⟩
    · replace h := bif_f hb h
      refine tri_seq ?_
      refine tri_region (by exact tokW) (by exact gok) [] [] rfl ?_
      show Tri _ _ _ _
      refine tri_cond rfl (fun hb => ?_) (fun hb => ?_)
      · replace h := bif_t hb h
        refine tri_seq ?_
        obtain ⟨x4, hj, h⟩ := bind_out h
        refine tri_post ⟨ofL [(2, .s (.bool x4))], fun _ => none, 0⟩ ?_ (fun σ' hle => ?_)
        · replace h := hj
          refine tri_region (by exact tokW) (by exact gok) [] [21] rfl ?_
          intro b hb
          cases b with
          | true =>
            replace h := bif_t hb.symm h
            obtain ⟨y5, hy5, h⟩ := bind_out h
            refine ⟨_, ⟨_, _, _, hy5, rfl, rfl⟩, ?_⟩
            cases h
            exact (Le.forget _ ⟨rfl, trivial⟩)
          | false =>
            replace h := bif_f hb.symm h
            cases h
            exact (Le.forget _ ⟨rfl, trivial⟩)
        · show Tri _ _ _ _
          refine tri_le hle ?_
          refine tri_ret ?_
          have hy := Option.some.inj h
          subst hy
          unfold Gives
          exact ⟨_, Le.refl _ _, rfl, rfl⟩
      · replace h := bif_f hb h
        refine tri_seq ?_
        refine tri_region (by exact tokW) (by exact gok) [] [] rfl ?_
        show Tri _ _ _ _
        refine tri_cond rfl (fun hb => ?_) (fun hb => ?_)
        · replace h := bif_t hb h
          refine tri_seq ?_
          refine tri_drawn (by exact tokW) (by exact gok) (by exact mixed) [] [] [] rfl (by decide +kernel) ?_
          obtain ⟨y6, hy6, h⟩ := bind_out h
          refine ⟨_, ⟨_, hy6, rfl, rfl⟩, ?_⟩
          obtain ⟨y7, hy7, h⟩ := bind_out h
          refine ⟨_, ⟨_, _, _, _, hy7, rfl, rfl⟩, ?_⟩
          show Tri _ _ _ _
          refine tri_ret ?_
          have hy := Option.some.inj h
          subst hy
          unfold Gives
          exact ⟨_, Le.refl _ _, rfl, rfl⟩
        · replace h := bif_f hb h
          refine tri_seq ?_
          refine tri_region (by exact tokW) (by exact gok) [] [] rfl ?_
          show Tri _ _ _ _
          refine tri_cond rfl (fun hb => ?_) (fun hb => ?_)
          · replace h := bif_t hb h
            refine tri_seq ?_
            obtain ⟨x8, hj, h⟩ := bind_out h
            refine tri_post ⟨ofL [(2, .s (.bool x8))], fun _ => none, 0⟩ ?_ (fun σ' hle => ?_)
            · replace h := hj
              refine tri_region (by exact tokW) (by exact gok) [] [38, 41, 44, 47] rfl ?_
              intro b hb
              cases b with
              | true =>
                replace h := bif_t hb.symm h
                obtain ⟨c9, hc9, h⟩ := bind_out h
                refine And.intro (str_ok hc9).1 ?_
                intro v10 hv10
                obtain rfl : (c9.toNat : Int) = v10 := (hv10.trans (str_ok hc9).2).symm
                obtain ⟨y11, hy11, h⟩ := bind_out h
                refine ⟨_, ⟨_, _, _, _, hy11, rfl, rfl⟩, ?_⟩
                intro b hb
                cases b with
                | true =>
                  replace h := bif_t hb.symm h
                  obtain ⟨c12, hc12, h⟩ := bind_out h
                  refine And.intro (str_ok hc12).1 ?_
                  intro v13 hv13
                  obtain rfl : (c12.toNat : Int) = v13 := (hv13.trans (str_ok hc12).2).symm
                  obtain ⟨y14, hy14, h⟩ := bind_out h
                  refine ⟨_, ⟨_, _, _, _, hy14, rfl, rfl⟩, ?_⟩
                  cases h
                  exact (Le.forget _ ⟨rfl, trivial⟩)
                | false =>
                  replace h := bif_f hb.symm h
                  cases h
                  exact (Le.forget _ ⟨rfl, trivial⟩)
              | false =>
                replace h := bif_f hb.symm h
                intro b hb
                subst hb
                cases h
                exact (Le.forget _ ⟨rfl, trivial⟩)
            · show Tri _ _ _ _
              refine tri_le hle ?_
              refine tri_ret ?_
              have hy := Option.some.inj h
              subst hy
              unfold Gives
              exact ⟨_, Le.refl _ _, rfl, rfl⟩
          · replace h := bif_f hb h
            refine tri_skip ?_
            show Tri _ _ _ _
            refine tri_seq ?_
            refine tri_region (by exact tokW) (by exact gok) [] [] rfl ?_
            show Tri _ _ _ _
            refine tri_ret ?_
            have hy := Option.some.inj h
            subst hy
            unfold Gives
            exact ⟨_, Le.refl _ _, rfl, rfl⟩
def R_r09_kids (xs : List AV) (r : Ret) : Prop := ∃ (a0 : Nd) (y0 : Bool), m_r09_kids a0 = some y0 ∧ xs = [.agg ((Nd.enc a0).map .s)] ∧ r = .val (.s (.bool y0))
def S_r09_kids : PSpec := pspec fun xs r => R_r09_kids xs r
set_option maxHeartbeats 2000000 in
set_option maxRecDepth 100000 in
theorem ok_r09_kids : PSound Tryd.prog 28 S_r09_kids := by
  have gok : ∀ (f : Nat) (s : PSpec), (fun _ => none : Nat → Option PSpec) f = some s → PSound Tryd.prog f s := fun _ _ h => by cases h
  refine psound tokW Tryd.call28 Tryd.func28 rfl (fun xs r h => by obtain ⟨_, _, _, rfl, _⟩ := h; show 1 ≤ 64; decide) 64 rfl ?_
  rintro xs r w0 G0 ⟨⟨n1_kind, n1_text, n1_cols, n1_kids⟩, y0, h, rfl, rfl⟩ _
  rw [m_r09_kids] at h
  refine tri_seq ?_
  refine tri_region (by exact tokW) (by exact gok) [] [] rfl ?_
  show Tri _ _ _ _
  refine tri_seq ?_
  refine tri_region (by exact tokW) (by exact gok) [] [6] rfl ?_
  intro n2 hn2
  obtain rfl : (n1_kids.length : Int) = n2 := (hn2.trans (congrArg (fun m : Nat => (m : Int)) (rlen Nd.encs_eq n1_kids))).symm
  show Tri _ _ _ _
  refine tri_seq ?_
  refine tri_seq ?_
  refine tri_region (by exact tokW) (by exact gok) [] [] rfl ?_
  show Tri _ _ _ _
  refine tri_cond rfl (fun hb => ?_) (fun hb => ?_)
  · replace h := bif_t hb h
    refine tri_seq ?_
    obtain ⟨x3, hj, h⟩ := bind_out h
    refine tri_post ⟨ofL [(2, .s (.bool x3))], fun _ => none, 0⟩ ?_ (fun σ' hle => ?_)
    · replace h := hj
      refine tri_region (by exact tokW) (by exact gok) [] [13, 18, 22, 26] rfl ?_
      intro b hb
      cases b with
      | true =>
        replace h := bif_t hb.symm h
        intro b hb
        cases b with
        | true =>
          replace h := bif_t hb.symm h
          intro b hb
          cases b with
          | true =>
            replace h := bif_t hb.symm h
            intro b hb
            cases b with
            | true =>
              replace h := bif_t hb.symm h
              obtain ⟨hq, h⟩ := req_out h
              refine And.intro hq ?_
              cases h
              exact (Le.forget _ ⟨rfl, trivial⟩)
            | false =>
              replace h := bif_f hb.symm h
              cases h
              exact (Le.forget _ ⟨rfl, trivial⟩)
          | false =>
            replace h := bif_f hb.symm h
            intro b hb
            subst hb
            cases h
            exact (Le.forget _ ⟨rfl, trivial⟩)
        | false =>
          replace h := bif_f hb.symm h
          intro b hb
          subst hb
          intro b hb
          subst hb
          cases h
          exact (Le.forget _ ⟨rfl, trivial⟩)
      | false =>
        replace h := bif_f hb.symm h
        intro b hb
        subst hb
        intro b hb
        subst hb
        intro b hb
        subst hb
        cases h
        exact (Le.forget _ ⟨rfl, trivial⟩)
    · show Tri _ _ _ _
      refine tri_le hle ?_
      refine tri_ret ?_
      have hy := Option.some.inj h
      subst hy
      unfold Gives
      exact ⟨_, Le.refl _ _, rfl, rfl⟩
  · replace h := bif_f hb h
    refine tri_skip ?_
    show Tri _ _ _ _
    refine tri_seq ?_
    refine tri_seq ?_
    refine tri_region (by exact tokW) (by exact gok) [] [] rfl ?_
    show Tri _ _ _ _
    refine tri_cond rfl (fun hb => ?_) (fun hb => ?_)
    · replace h := bif_t hb h
      refine tri_seq ?_
      refine tri_region (by exact tokW) (by exact gok) [] [] rfl ?_
      show Tri _ _ _ _
      refine tri_ret ?_
      have hy := Option.some.inj h
      subst hy
      unfold Gives
      exact ⟨_, Le.refl _ _, rfl, rfl⟩
    · replace h := bif_f hb h
      refine tri_skip ?_
      show Tri _ _ _ _
      refine tri_seq ?_
      refine tri_seq ?_
      refine tri_region (by exact tokW) (by exact gok) [] [] rfl ?_
      show Tri _ _ _ _
      obtain ⟨fl, hj, ho1⟩ := bind_out h
      refine tri_fl (fl := fl) (fun z => match z with | _ => ⟨ofL [], fun _ => none, 0⟩) ?_ (fun z σ' hz hle => ?_)
      · replace h := hj
        refine tri_block ?_
        refine tri_seq ?_
        refine tri_region (by exact tokW) (by exact gok) [] [] rfl ?_
        show Tri _ _ _ _
        refine tri_cond rfl (fun hb => ?_) (fun hb => ?_)
        · replace h := bif_t hb h
          refine tri_seq ?_
          refine tri_region (by exact tokW) (by exact gok) [] [] rfl ?_
          show Tri _ _ _ _
          refine tri_ret ?_
          cases h
          replace h : some _ = some _ := ho1
          have hy := Option.some.inj h
          subst hy
          unfold Gives
          exact ⟨_, Le.refl _ _, rfl, rfl⟩
        · replace h := bif_f hb h
          refine tri_seq ?_
          refine tri_seq ?_
          refine tri_region (by exact tokW) (by exact gok) [] [] rfl ?_
          show Tri _ _ _ _
          obtain ⟨x4, hj, h⟩ := bind_out h
          refine tri_post ⟨ofL [(3, .s (.int .i64 (n1_kids.length : Int))), (37, .s (.int .i64 n1_kind)), (42, .s (.bool x4))], fun _ => none, 0⟩ ?_ (fun σ' hle => ?_)
          · replace h := hj
            refine tri_cond rfl (fun hb => ?_) (fun hb => ?_)
            · replace h := bif_t hb h
              refine tri_skip ?_
              cases h
              exact (Le.forget _ ⟨rfl, rfl, rfl, trivial⟩)
            · replace h := bif_f hb h
              refine tri_seq ?_
              refine tri_region (by exact tokW) (by exact gok) [] [] rfl ?_
              show Tri _ _ _ _
              refine tri_cond rfl (fun hb => ?_) (fun hb => ?_)
              · replace h := bif_t hb h
                refine tri_skip ?_
                cases h
                exact (Le.forget _ ⟨rfl, rfl, rfl, trivial⟩)
              · replace h := bif_f hb h
                refine tri_region (by exact tokW) (by exact gok) [] [] rfl ?_
                cases h
                exact (Le.forget _ ⟨rfl, rfl, rfl, trivial⟩)
          · show Tri _ _ _ _
            refine tri_le hle ?_
            refine tri_cond rfl (fun hb => ?_) (fun hb => ?_)
            · replace h := bif_t hb h
              refine tri_seq ?_
              refine tri_region (by exact tokW) (by exact gok) [] [] rfl ?_
              show Tri _ _ _ _
              refine tri_ret ?_
              cases h
              replace h : some _ = some _ := ho1
              have hy := Option.some.inj h
              subst hy
              unfold Gives
              exact ⟨_, Le.refl _ _, rfl, rfl⟩
            · replace h := bif_f hb h
              refine tri_seq ?_
              refine tri_seq ?_
              refine tri_region (by exact tokW) (by exact gok) [] [] rfl ?_
              show Tri _ _ _ _
              obtain ⟨x5, hj, h⟩ := bind_out h
              refine tri_post ⟨ofL [(3, .s (.int .i64 (n1_kids.length : Int))), (37, .s (.int .i64 n1_kind)), (48, .s (.bool x5))], fun _ => none, 0⟩ ?_ (fun σ' hle => ?_)
              · replace h := hj
                refine tri_cond rfl (fun hb => ?_) (fun hb => ?_)
                · replace h := bif_t hb h
                  refine tri_skip ?_
                  cases h
                  exact (Le.forget _ ⟨rfl, rfl, rfl, trivial⟩)
                · replace h := bif_f hb h
                  refine tri_seq ?_
                  refine tri_region (by exact tokW) (by exact gok) [] [] rfl ?_
                  show Tri _ _ _ _
                  refine tri_cond rfl (fun hb => ?_) (fun hb => ?_)
                  · replace h := bif_t hb h
                    refine tri_skip ?_
                    cases h
                    exact (Le.forget _ ⟨rfl, rfl, rfl, trivial⟩)
                  · replace h := bif_f hb h
                    refine tri_seq ?_
                    refine tri_region (by exact tokW) (by exact gok) [] [] rfl ?_
                    show Tri _ _ _ _
                    refine tri_cond rfl (fun hb => ?_) (fun hb => ?_)
                    · replace h := bif_t hb h
                      refine tri_skip ?_
                      cases h
                      exact (Le.forget _ ⟨rfl, rfl, rfl, trivial⟩)
                    · replace h := bif_f hb h
                      refine tri_region (by exact tokW) (by exact gok) [] [] rfl ?_
                      cases h
                      exact (Le.forget _ ⟨rfl, rfl, rfl, trivial⟩)
              · show Tri _ _ _ _
                refine tri_le hle ?_
                refine tri_cond rfl (fun hb => ?_) (fun hb => ?_)
                · replace h := bif_t hb h
                  refine tri_seq ?_
                  refine tri_region (by exact tokW) (by exact gok) [] [] rfl ?_
                  show Tri _ _ _ _
                  refine tri_ret ?_
                  cases h
                  replace h : some _ = some _ := ho1
                  have hy := Option.some.inj h
                  subst hy
                  unfold Gives
                  exact ⟨_, Le.refl _ _, rfl, rfl⟩
                · replace h := bif_f hb h
                  refine tri_seq ?_
                  refine tri_region (by exact tokW) (by exact gok) [] [] rfl ?_
                  show Tri _ _ _ _
                  refine tri_cond rfl (fun hb => ?_) (fun hb => ?_)
                  · replace h := bif_t hb h
                    refine tri_seq ?_
                    refine tri_region (by exact tokW) (by exact gok) [] [] rfl ?_
                    show Tri _ _ _ _
                    refine tri_ret ?_
                    cases h
                    replace h : some _ = some _ := ho1
                    have hy := Option.some.inj h
                    subst hy
                    unfold Gives
                    exact ⟨_, Le.refl _ _, rfl, rfl⟩
                  · replace h := bif_f hb h
                    refine tri_seq ?_
                    refine tri_seq ?_
                    refine tri_region (by exact tokW) (by exact gok) [] [] rfl ?_
                    show Tri _ _ _ _
                    obtain ⟨x6, hj, h⟩ := bind_out h
                    refine tri_post ⟨ofL [(3, .s (.int .i64 (n1_kids.length : Int))), (59, .s (.bool x6))], fun _ => none, 0⟩ ?_ (fun σ' hle => ?_)
                    · replace h := hj
                      refine tri_cond rfl (fun hb => ?_) (fun hb => ?_)
                      · replace h := bif_t hb h
                        refine tri_skip ?_
                        cases h
                        exact (Le.forget _ ⟨rfl, rfl, trivial⟩)
                      · replace h := bif_f hb h
                        refine tri_region (by exact tokW) (by exact gok) [] [] rfl ?_
                        cases h
                        exact (Le.forget _ ⟨rfl, rfl, trivial⟩)
                    · show Tri _ _ _ _
                      refine tri_le hle ?_
                      refine tri_cond rfl (fun hb => ?_) (fun hb => ?_)
                      · replace h := bif_t hb h
                        refine tri_seq ?_
                        refine tri_region (by exact tokW) (by exact gok) [] [] rfl ?_
                        show Tri _ _ _ _
                        refine tri_ret ?_
                        cases h
                        replace h : some _ = some _ := ho1
                        have hy := Option.some.inj h
                        subst hy
                        unfold Gives
                        exact ⟨_, Le.refl _ _, rfl, rfl⟩
                      · replace h := bif_f hb h
                        refine tri_skip ?_
                        cases h
                        exact ⟨_, rfl, (Le.forget _ trivial)⟩
      · subst hz
        obtain _ := z
        replace h := ho1
        show Tri _ _ _ _
        refine tri_le hle ?_
        refine tri_seq ?_
        refine tri_region (by exact tokW) (by exact gok) [] [] rfl ?_
        show Tri _ _ _ _
        refine tri_ret ?_
        have hy := Option.some.inj h
        subst hy
        unfold Gives
        exact ⟨_, Le.refl _ _, rfl, rfl⟩
def R_r09_form (n : Nat) (xs : List AV) (r : Ret) : Prop := ∃ (a0 : Nd) (y0 : Bool), m_r09_form n a0 = some y0 ∧ xs = [.agg ((Nd.enc a0).map .s)] ∧ r = .val (.s (.bool y0))
set_option maxHeartbeats 2000000 in
set_option maxRecDepth 100000 in
theorem step_r09_form (n : Nat) (ih : PSound Tryd.prog 19 (pspec (R_r09_form n))) : PSound Tryd.prog 19 (pspec (R_r09_form (n + 1))) := by
  have gok : ∀ f s, look? f [(27, S_r09_text), (28, S_r09_kids), (19, pspec (R_r09_form n))] = some s → PSound Tryd.prog f s := look_all (by
    simp only [List.forall_mem_cons]
    exact ⟨ok_r09_text, ok_r09_kids, ih, by simp⟩)
  refine psound tokW Tryd.call19 Tryd.func19 rfl (fun xs r h => by obtain ⟨_, _, _, rfl, _⟩ := h; show 1 ≤ 39; decide) 39 rfl ?_
  rintro xs r w0 G0 ⟨⟨n1_kind, n1_text, n1_cols, n1_kids⟩, y0, h, rfl, rfl⟩ _
  rw [m_r09_form] at h
  refine tri_seq ?_
  refine tri_region (by exact tokW) (by exact gok) [] [] rfl ?_
  show Tri _ _ _ _
  refine tri_seq ?_
  refine tri_seq ?_
  obtain ⟨x2, hj, h⟩ := bind_out h
  refine tri_post ⟨ofL [(1, .s (.pt [.int .i64 n1_kind, .str n1_text, .int .i64 n1_cols, .sl 4 (Nd.encs n1_kids)])), (11, .s (.bool x2))], fun _ => none, 0⟩ ?_ (fun σ' hle => ?_)
  · replace h := hj
    refine tri_region (by exact tokW) (by exact gok) [] [7] rfl ?_
    obtain ⟨y3, hy3, h⟩ := bind_out h
    refine ⟨_, ⟨_, _, _, hy3, rfl, rfl⟩, ?_⟩
    intro b hb
    cases b with
    | true =>
      replace h := bif_t hb.symm h
      cases h
      exact (Le.forget _ ⟨rfl, rfl, trivial⟩)
    | false =>
      replace h := bif_f hb.symm h
      obtain ⟨y4, hy4, h⟩ := bind_out h
      refine ⟨_, ⟨_, _, hy4, rfl, rfl⟩, ?_⟩
      cases h
      exact (Le.forget _ ⟨rfl, rfl, trivial⟩)
  · show Tri _ _ _ _
    refine tri_le hle ?_
    refine tri_cond rfl (fun hb => ?_) (fun hb => ?_)
    · replace h := bif_t hb h
      refine tri_seq ?_
      refine tri_region (by exact tokW) (by exact gok) [] [] rfl ?_
      show Tri _ _ _ _
      refine tri_ret ?_
      have hy := Option.some.inj h
      subst hy
      unfold Gives
      exact ⟨_, Le.refl _ _, rfl, rfl⟩
    · replace h := bif_f hb h
      refine tri_skip ?_
      show Tri _ _ _ _
      refine tri_seq ?_
      refine tri_seq ?_
      refine tri_region (by exact tokW) (by exact gok) [] [] rfl ?_
      show Tri _ _ _ _
      obtain ⟨fl, hl, ho1⟩ := bind_out h
      refine tri_fl (fl := fl) (fun z => match z with | _ => ⟨ofL [], fun _ => none, 0⟩) ?_ (fun z σ' hz hle => ?_)
      · refine tri_block (tri_loopI (X := Nat × Int) (fun y => match y with | (k, i5) => ⟨ofL [(1, .s (.pt [.int .i64 n1_kind, .str n1_text, .int .i64 n1_cols, .sl 4 (Nd.encs n1_kids)])), (3, .s (.int .i64 i5))], fun _ => none, 0⟩) (fun y => m_r09_form_l1 (m_r09_form n) n1_kind n1_kids y.1 y.2 = some fl) (fun y => y.1) (n, 0) hl ?_ ?_)
        · exact (Le.forget _ ⟨rfl, rfl, trivial⟩)
        · rintro ⟨k, i5⟩ h
          cases k with
          | zero => cases h
          | succ k =>
            replace h : m_r09_form_l1 (m_r09_form n) n1_kind n1_kids (k+1) i5 = some fl := h
            rw [m_r09_form_l1] at h
            refine tri_seq ?_
            refine tri_seq ?_
            refine tri_region (by exact tokW) (by exact gok) [] [15] rfl ?_
            intro n6 hn6
            obtain rfl : (n1_kids.length : Int) = n6 := (hn6.trans (congrArg (fun m : Nat => (m : Int)) (rlen Nd.encs_eq n1_kids))).symm
            show Tri _ _ _ _
            refine tri_cond rfl (fun hb => ?_) (fun hb => ?_)
            · replace h := bif_t hb h
              refine tri_skip ?_
              show Tri _ _ _ _
              refine tri_seq ?_
              refine tri_block ?_
              refine tri_seq ?_
              obtain ⟨x7, hj, h⟩ := bind_out h
              refine tri_post ⟨ofL [(1, .s (.pt [.int .i64 n1_kind, .str n1_text, .int .i64 n1_cols, .sl 4 (Nd.encs n1_kids)])), (3, .s (.int .i64 i5)), (38, .s (.bool x7))], fun _ => none, 0⟩ ?_ (fun σ' hle => ?_)
              · replace h := hj
                refine tri_drawn (by exact tokW) (by exact gok) (by exact mixed) [] [22, 30, 34] [] rfl (by decide +kernel) ?_
                obtain ⟨⟨e8_kind, e8_text, e8_cols, e8_kids⟩, he8, h⟩ := bind_out h
                refine And.intro (at_ok Nd.encs_eq he8).1 ?_
                intro r9 hr9
                obtain rfl : [.int .i64 e8_kind, .str e8_text, .int .i64 e8_cols, .sl 4 (Nd.encs e8_kids)] = r9 := (hr9.trans (at_ok Nd.encs_eq he8).2.1).symm
                intro b hb
                cases b with
                | true =>
                  replace h := bif_t hb.symm h
                  cases h
                  exact (Le.forget _ ⟨rfl, rfl, rfl, trivial⟩)
                | false =>
                  replace h := bif_f hb.symm h
                  obtain ⟨⟨e10_kind, e10_text, e10_cols, e10_kids⟩, he10, h⟩ := bind_out h
                  refine And.intro (at_ok Nd.encs_eq he10).1 ?_
                  intro r11 hr11
                  obtain rfl : [.int .i64 e10_kind, .str e10_text, .int .i64 e10_cols, .sl 4 (Nd.encs e10_kids)] = r11 := (hr11.trans (at_ok Nd.encs_eq he10).2.1).symm
                  obtain ⟨y12, hy12, h⟩ := bind_out h
                  refine ⟨_, ⟨_, _, hy12, rfl, rfl⟩, ?_⟩
                  cases h
                  exact (Le.forget _ ⟨rfl, rfl, rfl, trivial⟩)
              · show Tri _ _ _ _
                refine tri_le hle ?_
                refine tri_cond rfl (fun hb => ?_) (fun hb => ?_)
                · replace h := bif_t hb h
                  refine tri_seq ?_
                  refine tri_region (by exact tokW) (by exact gok) [] [] rfl ?_
                  show Tri _ _ _ _
                  refine tri_ret ?_
                  cases h
                  replace h : some _ = some _ := ho1
                  have hy := Option.some.inj h
                  subst hy
                  unfold Gives
                  exact ⟨_, Le.refl _ _, rfl, rfl⟩
                · replace h := bif_f hb h
                  refine tri_skip ?_
                  show Tri _ _ _ _
                  refine tri_region (by exact tokW) (by exact gok) [] [] rfl ?_
                  refine ⟨(k, IntKind.i64.wrap (i5 + 1)), h, (Le.forget _ ⟨rfl, rfl, trivial⟩), Nat.lt_succ_self k⟩
            · replace h := bif_f hb h
              refine tri_exit ?_
              cases h
              exact ⟨_, rfl, (Le.forget _ trivial)⟩
      · subst hz
        obtain _ := z
        replace h := ho1
        show Tri _ _ _ _
        refine tri_le hle ?_
        refine tri_seq ?_
        refine tri_region (by exact tokW) (by exact gok) [] [] rfl ?_
        show Tri _ _ _ _
        refine tri_ret ?_
        have hy := Option.some.inj h
        subst hy
        unfold Gives
        exact ⟨_, Le.refl _ _, rfl, rfl⟩
theorem all_r09_form : ∀ n, PSound Tryd.prog 19 (pspec (R_r09_form n)) := by
  intro n
  induction n with
  | zero => exact psound_none Tryd.call19 (fun xs r h => by obtain ⟨_, _, h, _⟩ := h; cases h)
  | succ n ih => exact step_r09_form n ih
def S_r09_form : PSpec := pspec fun xs r => ∃ n, R_r09_form n xs r
theorem ok_r09_form : PSound Tryd.prog 19 S_r09_form := psound_all all_r09_form
def R_r09_Count (n : Nat) (xs : List AV) (r : Ret) : Prop := ∃ (a0 : Nd) (y0 : Int), m_r09_Count n a0 = some y0 ∧ xs = [.agg ((Nd.enc a0).map .s)] ∧ r = .val (.s (.int .i64 y0))
set_option maxHeartbeats 2000000 in
set_option maxRecDepth 100000 in
theorem step_r09_Count (n : Nat) (ih : PSound Tryd.prog 20 (pspec (R_r09_Count n))) : PSound Tryd.prog 20 (pspec (R_r09_Count (n + 1))) := by
  have gok : ∀ f s, look? f [(20, pspec (R_r09_Count n))] = some s → PSound Tryd.prog f s := look_all (by
    simp only [List.forall_mem_cons]
    exact ⟨ih, by simp⟩)
  refine psound tokW Tryd.call20 Tryd.func20 rfl (fun xs r h => by obtain ⟨_, _, _, rfl, _⟩ := h; show 1 ≤ 21; decide) 21 rfl ?_
  rintro xs r w0 G0 ⟨⟨n1_kind, n1_text, n1_cols, n1_kids⟩, y0, h, rfl, rfl⟩ _
  rw [m_r09_Count] at h
  refine tri_seq ?_
  refine tri_region (by exact tokW) (by exact gok) [] [] rfl ?_
  show Tri _ _ _ _
  refine tri_seq ?_
  refine tri_region (by exact tokW) (by exact gok) [] [] rfl ?_
  show Tri _ _ _ _
  refine tri_seq ?_
  refine tri_seq ?_
  refine tri_region (by exact tokW) (by exact gok) [] [] rfl ?_
  show Tri _ _ _ _
  obtain ⟨out4, hl, h⟩ := bind_out h
  refine tri_post ⟨ofL [(3, .s (.int .i64 out4))], fun _ => none, 0⟩ ?_ (fun σ' hle => ?_)
  · refine tri_block (tri_loopI (X := Nat × Int × Int) (fun y => match y with | (k, out2, i3) => ⟨ofL [(1, .s (.pt [.int .i64 n1_kind, .str n1_text, .int .i64 n1_cols, .sl 4 (Nd.encs n1_kids)])), (3, .s (.int .i64 out2)), (4, .s (.int .i64 i3))], fun _ => none, 0⟩) (fun y => m_r09_Count_l1 (m_r09_Count n) n1_kids y.1 y.2.1 y.2.2 = some out4) (fun y => y.1) (n, 1, 0) hl ?_ ?_)
    · exact (Le.forget _ ⟨rfl, rfl, rfl, trivial⟩)
    · rintro ⟨k, out2, i3⟩ h
      cases k with
      | zero => cases h
      | succ k =>
        replace h : m_r09_Count_l1 (m_r09_Count n) n1_kids (k+1) out2 i3 = some out4 := h
        rw [m_r09_Count_l1] at h
        refine tri_seq ?_
        refine tri_seq ?_
        refine tri_region (by exact tokW) (by exact gok) [] [8] rfl ?_
        intro n5 hn5
        obtain rfl : (n1_kids.length : Int) = n5 := (hn5.trans (congrArg (fun m : Nat => (m : Int)) (rlen Nd.encs_eq n1_kids))).symm
        show Tri _ _ _ _
        refine tri_cond rfl (fun hb => ?_) (fun hb => ?_)
        · replace h := bif_t hb h
          refine tri_skip ?_
          show Tri _ _ _ _
          refine tri_seq ?_
          refine tri_block ?_
          refine tri_region (by exact tokW) (by exact gok) [] [16] rfl ?_
          obtain ⟨⟨e6_kind, e6_text, e6_cols, e6_kids⟩, he6, h⟩ := bind_out h
          refine And.intro (at_ok Nd.encs_eq he6).1 ?_
          intro r7 hr7
          obtain rfl : [.int .i64 e6_kind, .str e6_text, .int .i64 e6_cols, .sl 4 (Nd.encs e6_kids)] = r7 := (hr7.trans (at_ok Nd.encs_eq he6).2.1).symm
          obtain ⟨y8, hy8, h⟩ := bind_out h
          refine ⟨_, ⟨_, _, hy8, rfl, rfl⟩, ?_⟩
          show Tri _ _ _ _
          refine tri_region (by exact tokW) (by exact gok) [] [] rfl ?_
          refine ⟨(k, IntKind.i64.wrap (out2 + y8), IntKind.i64.wrap (i3 + 1)), h, (Le.forget _ ⟨rfl, rfl, rfl, trivial⟩), Nat.lt_succ_self k⟩
        · replace h := bif_f hb h
          refine tri_exit ?_
          cases h
          exact (Le.forget _ ⟨rfl, trivial⟩)
  · show Tri _ _ _ _
    refine tri_le hle ?_
    refine tri_seq ?_
    refine tri_region (by exact tokW) (by exact gok) [] [] rfl ?_
    show Tri _ _ _ _
    refine tri_ret ?_
    have hy := Option.some.inj h
    subst hy
    unfold Gives
    exact ⟨_, Le.refl _ _, rfl, rfl⟩
theorem all_r09_Count : ∀ n, PSound Tryd.prog 20 (pspec (R_r09_Count n)) := by
  intro n
  induction n with
  | zero => exact psound_none Tryd.call20 (fun xs r h => by obtain ⟨_, _, h, _⟩ := h; cases h)
  | succ n ih => exact step_r09_Count n ih
def S_r09_Count : PSpec := pspec fun xs r => ∃ n, R_r09_Count n xs r
theorem ok_r09_Count : PSound Tryd.prog 20 S_r09_Count := psound_all all_r09_Count
def R_r09_Depth (n : Nat) (xs : List AV) (r : Ret) : Prop := ∃ (a0 : Nd) (y0 : Int), m_r09_Depth n a0 = some y0 ∧ xs = [.agg ((Nd.enc a0).map .s)] ∧ r = .val (.s (.int .i64 y0))
set_option maxHeartbeats 2000000 in
set_option maxRecDepth 100000 in
theorem step_r09_Depth (n : Nat) (ih : PSound Tryd.prog 21 (pspec (R_r09_Depth n))) : PSound Tryd.prog 21 (pspec (R_r09_Depth (n + 1))) := by
  have gok : ∀ f s, look? f [(21, pspec (R_r09_Depth n))] = some s → PSound Tryd.prog f s := look_all (by
    simp only [List.forall_mem_cons]
    exact ⟨ih, by simp⟩)
  refine psound tokW Tryd.call21 Tryd.func21 rfl (fun xs r h => by obtain ⟨_, _, _, rfl, _⟩ := h; show 1 ≤ 22; decide) 22 rfl ?_
  rintro xs r w0 G0 ⟨⟨n1_kind, n1_text, n1_cols, n1_kids⟩, y0, h, rfl, rfl⟩ _
  rw [m_r09_Depth] at h
  refine tri_seq ?_
  refine tri_region (by exact tokW) (by exact gok) [] [] rfl ?_
  show Tri _ _ _ _
  refine tri_seq ?_
  refine tri_region (by exact tokW) (by exact gok) [] [] rfl ?_
  show Tri _ _ _ _
  refine tri_seq ?_
  refine tri_seq ?_
  refine tri_region (by exact tokW) (by exact gok) [] [] rfl ?_
  show Tri _ _ _ _
  obtain ⟨out4, hl, h⟩ := bind_out h
  refine tri_post ⟨ofL [(3, .s (.int .i64 out4))], fun _ => none, 0⟩ ?_ (fun σ' hle => ?_)
  · refine tri_block (tri_loopI (X := Nat × Int × Int) (fun y => match y with | (k, out2, i3) => ⟨ofL [(1, .s (.pt [.int .i64 n1_kind, .str n1_text, .int .i64 n1_cols, .sl 4 (Nd.encs n1_kids)])), (3, .s (.int .i64 out2)), (4, .s (.int .i64 i3))], fun _ => none, 0⟩) (fun y => m_r09_Depth_l1 (m_r09_Depth n) n1_kids y.1 y.2.1 y.2.2 = some out4) (fun y => y.1) (n, 0, 0) hl ?_ ?_)
    · exact (Le.forget _ ⟨rfl, rfl, rfl, trivial⟩)
    · rintro ⟨k, out2, i3⟩ h
      cases k with
      | zero => cases h
      | succ k =>
        replace h : m_r09_Depth_l1 (m_r09_Depth n) n1_kids (k+1) out2 i3 = some out4 := h
        rw [m_r09_Depth_l1] at h
        refine tri_seq ?_
        refine tri_seq ?_
        refine tri_region (by exact tokW) (by exact gok) [] [8] rfl ?_
        intro n5 hn5
        obtain rfl : (n1_kids.length : Int) = n5 := (hn5.trans (congrArg (fun m : Nat => (m : Int)) (rlen Nd.encs_eq n1_kids))).symm
        show Tri _ _ _ _
        refine tri_cond rfl (fun hb => ?_) (fun hb => ?_)
        · replace h := bif_t hb h
          refine tri_skip ?_
          show Tri _ _ _ _
          refine tri_seq ?_
          refine tri_block ?_
          refine tri_region (by exact tokW) (by exact gok) [] [16] rfl ?_
          obtain ⟨⟨e6_kind, e6_text, e6_cols, e6_kids⟩, he6, h⟩ := bind_out h
          refine And.intro (at_ok Nd.encs_eq he6).1 ?_
          intro r7 hr7
          obtain rfl : [.int .i64 e6_kind, .str e6_text, .int .i64 e6_cols, .sl 4 (Nd.encs e6_kids)] = r7 := (hr7.trans (at_ok Nd.encs_eq he6).2.1).symm
          obtain ⟨y8, hy8, h⟩ := bind_out h
          refine ⟨_, ⟨_, _, hy8, rfl, rfl⟩, ?_⟩
          show Tri _ _ _ _
          refine tri_region (by exact tokW) (by exact gok) [] [] rfl ?_
          refine ⟨(k, (if out2 < y8 then y8 else out2), IntKind.i64.wrap (i3 + 1)), h, (Le.forget _ ⟨rfl, rfl, rfl, trivial⟩), Nat.lt_succ_self k⟩
        · replace h := bif_f hb h
          refine tri_exit ?_
          cases h
          exact (Le.forget _ ⟨rfl, trivial⟩)
  · show Tri _ _ _ _
    refine tri_le hle ?_
    refine tri_seq ?_
    refine tri_region (by exact tokW) (by exact gok) [] [] rfl ?_
    show Tri _ _ _ _
    refine tri_ret ?_
    have hy := Option.some.inj h
    subst hy
    unfold Gives
    exact ⟨_, Le.refl _ _, rfl, rfl⟩
theorem all_r09_Depth : ∀ n, PSound Tryd.prog 21 (pspec (R_r09_Depth n)) := by
  intro n
  induction n with
  | zero => exact psound_none Tryd.call21 (fun xs r h => by obtain ⟨_, _, h, _⟩ := h; cases h)
  | succ n ih => exact step_r09_Depth n ih
def S_r09_Depth : PSpec := pspec fun xs r => ∃ n, R_r09_Depth n xs r
theorem ok_r09_Depth : PSound Tryd.prog 21 S_r09_Depth := psound_all all_r09_Depth
def R_r09_Valid (n : Nat) (xs : List AV) (r : Ret) : Prop := ∃ (a0 : Nd) (y0 : Bool), m_r09_Valid n a0 = some y0 ∧ xs = [.agg ((Nd.enc a0).map .s)] ∧ r = .val (.s (.bool y0))
def S_r09_Valid : PSpec := pspec fun xs r => ∃ n, R_r09_Valid n xs r
set_option maxHeartbeats 2000000 in
set_option maxRecDepth 100000 in
theorem ok_r09_Valid : PSound Tryd.prog 9 S_r09_Valid := by
  have gok : ∀ f s, look? f [(19, S_r09_form), (20, S_r09_Count), (21, S_r09_Depth)] = some s → PSound Tryd.prog f s := look_all (by
    simp only [List.forall_mem_cons]
    exact ⟨ok_r09_form, ok_r09_Count, ok_r09_Depth, by simp⟩)
  refine psound tokW Tryd.call9 Tryd.func9 rfl (fun xs r h => by obtain ⟨n, _, _, _, rfl, _⟩ := h; show 1 ≤ 20; decide) 20 rfl ?_
  rintro xs r w0 G0 ⟨n, ⟨n1_kind, n1_text, n1_cols, n1_kids⟩, y0, h, rfl, rfl⟩ _
  rw [m_r09_Valid] at h
  refine tri_seq ?_
  refine tri_region (by exact tokW) (by exact gok) [] [] rfl ?_
  show Tri _ _ _ _
  refine tri_seq ?_
  obtain ⟨x2, hj, h⟩ := bind_out h
  refine tri_post ⟨ofL [(2, .s (.bool x2))], fun _ => none, 0⟩ ?_ (fun σ' hle => ?_)
  · replace h := hj
    refine tri_region (by exact tokW) (by exact gok) [] [6, 10, 15] rfl ?_
    intro b hb
    cases b with
    | true =>
      replace h := bif_t hb.symm h
      obtain ⟨y3, hy3, h⟩ := bind_out h
      refine ⟨_, ⟨_, _, _, hy3, rfl, rfl⟩, ?_⟩
      intro b hb
      cases b with
      | true =>
        replace h := bif_t hb.symm h
        obtain ⟨y4, hy4, h⟩ := bind_out h
        refine ⟨_, ⟨_, _, _, hy4, rfl, rfl⟩, ?_⟩
        intro b hb
        cases b with
        | true =>
          replace h := bif_t hb.symm h
          obtain ⟨y5, hy5, h⟩ := bind_out h
          refine ⟨_, ⟨_, _, _, hy5, rfl, rfl⟩, ?_⟩
          cases h
          exact (Le.forget _ ⟨rfl, trivial⟩)
        | false =>
          replace h := bif_f hb.symm h
          cases h
          exact (Le.forget _ ⟨rfl, trivial⟩)
      | false =>
        replace h := bif_f hb.symm h
        intro b hb
        subst hb
        cases h
        exact (Le.forget _ ⟨rfl, trivial⟩)
    | false =>
      replace h := bif_f hb.symm h
      intro b hb
      subst hb
      intro b hb
      subst hb
      cases h
      exact (Le.forget _ ⟨rfl, trivial⟩)
  · show Tri _ _ _ _
    refine tri_le hle ?_
    refine tri_ret ?_
    have hy := Option.some.inj h
    subst hy
    unfold Gives
    exact ⟨_, Le.refl _ _, rfl, rfl⟩
def R_l17_MergeOne (n : Nat) (xs : List AV) (r : Ret) : Prop := ∃ (a0 : Nd) (a1 : Nd) (y0 : Bool), m_l17_MergeOne n a0 a1 = some y0 ∧ xs = [.agg ((Nd.enc a0).map .s), .agg ((Nd.enc a1).map .s)] ∧ r = .val (.s (.bool y0))
def S_l17_MergeOne : PSpec := pspec fun xs r => ∃ n, R_l17_MergeOne n xs r
set_option maxHeartbeats 2000000 in
set_option maxRecDepth 100000 in
theorem ok_l17_MergeOne : PSound Tryd.prog 3 S_l17_MergeOne := by
  have gok : ∀ f s, look? f [(7, S_l17_awake), (8, S_l17_few), (9, S_r09_Valid), (10, S_merge_Three), (11, S_r09_Equal)] = some s → PSound Tryd.prog f s := look_all (by
    simp only [List.forall_mem_cons]
    exact ⟨ok_l17_awake, ok_l17_few, ok_r09_Valid, ok_merge_Three, ok_r09_Equal, by simp⟩)
  refine psound tokW Tryd.call3 Tryd.func3 rfl (fun xs r h => by obtain ⟨n, _, _, _, _, rfl, _⟩ := h; show 2 ≤ 95; decide) 95 rfl ?_
  rintro xs r w0 G0 ⟨n, ⟨a1_kind, a1_text, a1_cols, a1_kids⟩, ⟨a2_kind, a2_text, a2_cols, a2_kids⟩, y0, h, rfl, rfl⟩ _
  rw [m_l17_MergeOne] at h
  refine tri_seq ?_
  refine tri_region (by exact tokW) (by exact gok) [] [] rfl ?_
  show Tri _ _ _ _
  refine tri_seq ?_
  refine tri_seq ?_
  refine tri_region (by exact tokW) (by exact gok) [] [] rfl ?_
  obtain ⟨y3, hy3, h⟩ := bind_out h
  refine ⟨_, ⟨_, _, hy3, rfl, rfl⟩, ?_⟩
  show Tri _ _ _ _
  refine tri_cond rfl (fun hb => ?_) (fun hb => ?_)
  · replace h := bif_t hb h
    refine tri_seq ?_
    refine tri_region (by exact tokW) (by exact gok) [] [] rfl ?_
    show Tri _ _ _ _
    refine tri_ret ?_
    have hy := Option.some.inj h
    subst hy
    unfold Gives
    exact ⟨_, Le.refl _ _, rfl, rfl⟩
  · replace h := bif_f hb h
    refine tri_skip ?_
    show Tri _ _ _ _
    refine tri_seq ?_
    refine tri_seq ?_
    obtain ⟨x4, hj, h⟩ := bind_out h
    refine tri_post ⟨ofL [(2, .s (.pt [.int .i64 a1_kind, .str a1_text, .int .i64 a1_cols, .sl 4 (Nd.encs a1_kids)])), (3, .s (.pt [.int .i64 a2_kind, .str a2_text, .int .i64 a2_cols, .sl 4 (Nd.encs a2_kids)])), (30, .s (.bool x4))], fun _ => none, 0⟩ ?_ (fun σ' hle => ?_)
    · replace h := hj
      refine tri_region (by exact tokW) (by exact gok) [] [21, 26] rfl ?_
      obtain ⟨y5, hy5, h⟩ := bind_out h
      refine ⟨_, ⟨_, _, _, _, _, hy5, rfl, rfl⟩, ?_⟩
      intro b hb
      cases b with
      | true =>
        replace h := bif_t hb.symm h
        intro b hb
        subst hb
        cases h
        exact (Le.forget _ ⟨rfl, rfl, rfl, trivial⟩)
      | false =>
        replace h := bif_f hb.symm h
        obtain ⟨y6, hy6, h⟩ := bind_out h
        refine ⟨_, ⟨_, _, _, hy6, rfl, rfl⟩, ?_⟩
        intro b hb
        cases b with
        | true =>
          replace h := bif_t hb.symm h
          cases h
          exact (Le.forget _ ⟨rfl, rfl, rfl, trivial⟩)
        | false =>
          replace h := bif_f hb.symm h
          obtain ⟨y7, hy7, h⟩ := bind_out h
          refine ⟨_, ⟨_, _, _, hy7, rfl, rfl⟩, ?_⟩
          cases h
          exact (Le.forget _ ⟨rfl, rfl, rfl, trivial⟩)
    · show Tri _ _ _ _
      refine tri_le hle ?_
      refine tri_cond rfl (fun hb => ?_) (fun hb => ?_)
      · replace h := bif_t hb h
        refine tri_seq ?_
        refine tri_region (by exact tokW) (by exact gok) [] [] rfl ?_
        show Tri _ _ _ _
        refine tri_ret ?_
        have hy := Option.some.inj h
        subst hy
        unfold Gives
        exact ⟨_, Le.refl _ _, rfl, rfl⟩
      · replace h := bif_f hb h
        refine tri_skip ?_
        show Tri _ _ _ _
        refine tri_seq ?_
        refine tri_region (by exact tokW) (by exact gok) [5] [] rfl ?_
        obtain ⟨⟨⟨y8_kind, y8_text, y8_cols, y8_kids⟩, y9, y10⟩, hy8, h⟩ := bind_out h
        refine ⟨_, ⟨_, _, _, _, _, _, _, hy8, rfl, rfl⟩, ?_⟩
        show Tri _ _ _ _
        refine tri_le (Le.giveBox 0 [.int .i64 y8_kind, .str y8_text, .int .i64 y8_cols, .sl 4 (Nd.encs y8_kids)] rfl rfl) ?_
        refine tri_seq ?_
        refine tri_region (by exact tokW) (by exact gok) [8] [] rfl ?_
        obtain ⟨⟨⟨y11_kind, y11_text, y11_cols, y11_kids⟩, y12, y13⟩, hy11, h⟩ := bind_out h
        refine ⟨_, ⟨_, _, _, _, _, _, _, hy11, rfl, rfl⟩, ?_⟩
        show Tri _ _ _ _
        refine tri_le (Le.giveBox 1 [.int .i64 y11_kind, .str y11_text, .int .i64 y11_cols, .sl 4 (Nd.encs y11_kids)] rfl rfl) ?_
        refine tri_seq ?_
        refine tri_region (by exact tokW) (by exact gok) [11] [] rfl ?_
        obtain ⟨⟨⟨y14_kind, y14_text, y14_cols, y14_kids⟩, y15, y16⟩, hy14, h⟩ := bind_out h
        refine ⟨_, ⟨_, _, _, _, _, _, _, hy14, rfl, rfl⟩, ?_⟩
        show Tri _ _ _ _
        refine tri_le (Le.giveBox 2 [.int .i64 y14_kind, .str y14_text, .int .i64 y14_cols, .sl 4 (Nd.encs y14_kids)] rfl rfl) ?_
        refine tri_seq ?_
        obtain ⟨x17, hj, h⟩ := bind_out h
        refine tri_post ⟨ofL [(4, .s (.bool x17))], fun _ => none, 0⟩ ?_ (fun σ' hle => ?_)
        · replace h := hj
          refine tri_region (by exact tokW) (by exact gok) [] [57, 61, 65, 67, 70, 72, 75, 77, 80, 85, 90] rfl ?_
          intro b hb
          cases b with
          | true =>
            replace h := bif_t hb.symm h
            intro b hb
            cases b with
            | true =>
              replace h := bif_t hb.symm h
              intro b hb
              cases b with
              | true =>
                replace h := bif_t hb.symm h
                intro n18 hn18
                obtain rfl : (y9.length : Int) = n18 := (hn18.trans (congrArg (fun m : Nat => (m : Int)) (rlen (fun _ => rfl) y9))).symm
                intro b hb
                cases b with
                | true =>
                  replace h := bif_t hb.symm h
                  intro n19 hn19
                  obtain rfl : (y12.length : Int) = n19 := (hn19.trans (congrArg (fun m : Nat => (m : Int)) (rlen (fun _ => rfl) y12))).symm
                  intro b hb
                  cases b with
                  | true =>
                    replace h := bif_t hb.symm h
                    intro n20 hn20
                    obtain rfl : (y15.length : Int) = n20 := (hn20.trans (congrArg (fun m : Nat => (m : Int)) (rlen (fun _ => rfl) y15))).symm
                    intro b hb
                    cases b with
                    | true =>
                      replace h := bif_t hb.symm h
                      obtain ⟨y21, hy21, h⟩ := bind_out h
                      refine ⟨_, ⟨_, _, _, _, hy21, rfl, rfl⟩, ?_⟩
                      intro b hb
                      cases b with
                      | true =>
                        replace h := bif_t hb.symm h
                        obtain ⟨y22, hy22, h⟩ := bind_out h
                        refine ⟨_, ⟨_, _, _, _, hy22, rfl, rfl⟩, ?_⟩
                        intro b hb
                        cases b with
                        | true =>
                          replace h := bif_t hb.symm h
                          obtain ⟨y23, hy23, h⟩ := bind_out h
                          refine ⟨_, ⟨_, _, _, _, hy23, rfl, rfl⟩, ?_⟩
                          cases h
                          exact (Le.rename [] _ [] 0 ⟨rfl, trivial⟩ trivial rfl rfl rfl rfl rfl)
                        | false =>
                          replace h := bif_f hb.symm h
                          cases h
                          exact (Le.rename [] _ [] 0 ⟨rfl, trivial⟩ trivial rfl rfl rfl rfl rfl)
                      | false =>
                        replace h := bif_f hb.symm h
                        intro b hb
                        subst hb
                        cases h
                        exact (Le.rename [] _ [] 0 ⟨rfl, trivial⟩ trivial rfl rfl rfl rfl rfl)
                    | false =>
                      replace h := bif_f hb.symm h
                      intro b hb
                      subst hb
                      intro b hb
                      subst hb
                      cases h
                      exact (Le.rename [] _ [] 0 ⟨rfl, trivial⟩ trivial rfl rfl rfl rfl rfl)
                  | false =>
                    replace h := bif_f hb.symm h
                    intro b hb
                    subst hb
                    intro b hb
                    subst hb
                    intro b hb
                    subst hb
                    cases h
                    exact (Le.rename [] _ [] 0 ⟨rfl, trivial⟩ trivial rfl rfl rfl rfl rfl)
                | false =>
                  replace h := bif_f hb.symm h
                  intro b hb
                  subst hb
                  intro b hb
                  subst hb
                  intro b hb
                  subst hb
                  intro b hb
                  subst hb
                  cases h
                  exact (Le.rename [] _ [] 0 ⟨rfl, trivial⟩ trivial rfl rfl rfl rfl rfl)
              | false =>
                replace h := bif_f hb.symm h
                intro b hb
                subst hb
                intro b hb
                subst hb
                intro b hb
                subst hb
                intro b hb
                subst hb
                intro b hb
                subst hb
                cases h
                exact (Le.rename [] _ [] 0 ⟨rfl, trivial⟩ trivial rfl rfl rfl rfl rfl)
            | false =>
              replace h := bif_f hb.symm h
              intro b hb
              subst hb
              intro b hb
              subst hb
              intro b hb
              subst hb
              intro b hb
              subst hb
              intro b hb
              subst hb
              intro b hb
              subst hb
              cases h
              exact (Le.rename [] _ [] 0 ⟨rfl, trivial⟩ trivial rfl rfl rfl rfl rfl)
          | false =>
            replace h := bif_f hb.symm h
            intro b hb
            subst hb
            intro b hb
            subst hb
            intro b hb
            subst hb
            intro b hb
            subst hb
            intro b hb
            subst hb
            intro b hb
            subst hb
            intro b hb
            subst hb
            cases h
            exact (Le.rename [] _ [] 0 ⟨rfl, trivial⟩ trivial rfl rfl rfl rfl rfl)
        · show Tri _ _ _ _
          refine tri_le hle ?_
          refine tri_ret ?_
          have hy := Option.some.inj h
          subst hy
          unfold Gives
          exact ⟨_, Le.refl _ _, rfl, rfl⟩
def R_r09_find (n : Nat) (xs : List AV) (r : Ret) : Prop := ∃ (a0 : Nd) (a1 : List Int) (y0 : Nd) (y1 : Bool), m_r09_find n a0 a1 = some (y0, y1) ∧ xs = [.agg ((Nd.enc a0).map .s), .s (.sl 1 ((List.map (irow .i64)) a1))] ∧ r = .val (.tup [.agg ((Nd.enc y0).map .s), .s (.bool y1)])
def S_r09_find : PSpec := pspec fun xs r => ∃ n, R_r09_find n xs r
set_option maxHeartbeats 2000000 in
set_option maxRecDepth 100000 in
theorem ok_r09_find : PSound Tryd.prog 23 S_r09_find := by
  have gok : ∀ (f : Nat) (s : PSpec), (fun _ => none : Nat → Option PSpec) f = some s → PSound Tryd.prog f s := fun _ _ h => by cases h
  refine psound tokW Tryd.call23 Tryd.func23 rfl (fun xs r h => by obtain ⟨n, _, _, _, _, _, rfl, _⟩ := h; show 2 ≤ 57; decide) 57 rfl ?_
  rintro xs r w0 G0 ⟨n, ⟨n1_kind, n1_text, n1_cols, n1_kids⟩, path2, y0, y1, h, rfl, rfl⟩ _
  rw [m_r09_find] at h
  refine tri_seq ?_
  refine tri_region (by exact tokW) (by exact gok) [2, 4] [] rfl ?_
  show Tri _ _ _ _
  refine tri_seq ?_
  obtain ⟨fl, hl, ho1⟩ := bind_out h
  refine tri_fl (fl := fl) (fun z => match z with | ⟨path9, x10, x11, x12, x13⟩ => ⟨ofL [(1, .s (.sl 1 ((List.map (irow .i64)) path9))), (2, .op 0 0), (4, .op 1 0)], ofH [(0, .box 24 [.s (.int .i64 x10), .s (.str x11), .s (.int .i64 x12), .s (.sl 4 (Nd.encs x13))]), (1, .box 24 [.s (.int .i64 0), .s (.str []), .s (.int .i64 0), .nl 4])], 2⟩) ?_ (fun z σ' hz hle => ?_)
  · refine tri_block (tri_loopI (X := Nat × Int × (List UInt8) × Int × (List Nd) × (List Int)) (fun y => match y with | (k, x3, x4, x5, x6, path8) => ⟨ofL [(1, .s (.sl 1 ((List.map (irow .i64)) path8))), (2, .op 0 0), (4, .op 1 0)], ofH [(0, .box 24 [.s (.int .i64 x3), .s (.str x4), .s (.int .i64 x5), .s (.sl 4 (Nd.encs x6))]), (1, .box 24 [.s (.int .i64 0), .s (.str []), .s (.int .i64 0), .nl 4])], 2⟩) (fun y => m_r09_find_l1  y.1 y.2.1 y.2.2.1 y.2.2.2.1 y.2.2.2.2.1 y.2.2.2.2.2 = some fl) (fun y => y.1) (n, n1_kind, n1_text, n1_cols, n1_kids, path2) hl ?_ ?_)
    · exact (Le.rename [(0, 0), (1, 1)] _ _ _ ⟨rfl, rfl, rfl, trivial⟩ ⟨rfl, ⟨_, rfl, rfl⟩, rfl, ⟨_, rfl, rfl⟩, trivial⟩ rfl rfl rfl rfl rfl)
    · rintro ⟨k, x3, x4, x5, x6, path8⟩ h
      cases k with
      | zero => cases h
      | succ k =>
        replace h : m_r09_find_l1  (k+1) x3 x4 x5 x6 path8 = some fl := h
        rw [m_r09_find_l1] at h
        refine tri_seq ?_
        refine tri_seq ?_
        refine tri_region (by exact tokW) (by exact gok) [] [7] rfl ?_
        intro n14 hn14
        obtain rfl : (path8.length : Int) = n14 := (hn14.trans (congrArg (fun m : Nat => (m : Int)) (rlen (fun _ => rfl) path8))).symm
        show Tri _ _ _ _
        refine tri_cond rfl (fun hb => ?_) (fun hb => ?_)
        · replace h := bif_t hb h
          refine tri_skip ?_
          show Tri _ _ _ _
          refine tri_block ?_
          refine tri_seq ?_
          refine tri_seq ?_
          obtain ⟨x15, hj, h⟩ := bind_out h
          refine tri_post ⟨ofL [(1, .s (.sl 1 ((List.map (irow .i64)) path8))), (2, .op 0 0), (4, .op 1 0), (21, .s (.bool x15))], ofH [(0, .box 24 [.s (.int .i64 x3), .s (.str x4), .s (.int .i64 x5), .s (.sl 4 (Nd.encs x6))]), (1, .box 24 [.s (.int .i64 0), .s (.str []), .s (.int .i64 0), .nl 4])], 2⟩ ?_ (fun σ' hle => ?_)
          · replace h := hj
            refine tri_drawn (by exact tokW) (by exact gok) (by exact mixed) [] [10, 13, 15, 19] [9] rfl (by decide +kernel) ?_
            obtain ⟨e16, he16, h⟩ := bind_out h
            refine And.intro (at_ok (fun _ => rfl) he16).1 ?_
            intro r17 hr17
            obtain rfl : [.int .i64 e16] = r17 := (hr17.trans (at_ok (fun _ => rfl) he16).2.1).symm
            intro b hb
            cases b with
            | true =>
              replace h := bif_t hb.symm h
              cases h
              exact (Le.rename [(0, 0), (1, 1)] _ _ _ ⟨rfl, rfl, rfl, rfl, trivial⟩ ⟨rfl, ⟨_, rfl, rfl⟩, rfl, ⟨_, rfl, rfl⟩, trivial⟩ rfl rfl rfl rfl rfl)
            | false =>
              replace h := bif_f hb.symm h
              obtain ⟨e18, he18, h⟩ := bind_out h
              refine And.intro (at_ok (fun _ => rfl) he18).1 ?_
              intro r19 hr19
              obtain rfl : [.int .i64 e18] = r19 := (hr19.trans (at_ok (fun _ => rfl) he18).2.1).symm
              intro n20 hn20
              obtain rfl : (x6.length : Int) = n20 := (hn20.trans (congrArg (fun m : Nat => (m : Int)) (rlen Nd.encs_eq x6))).symm
              cases h
              exact (Le.rename [(0, 0), (1, 1)] _ _ _ ⟨rfl, rfl, rfl, rfl, trivial⟩ ⟨rfl, ⟨_, rfl, rfl⟩, rfl, ⟨_, rfl, rfl⟩, trivial⟩ rfl rfl rfl rfl rfl)
          · show Tri _ _ _ _
            refine tri_le hle ?_
            refine tri_cond rfl (fun hb => ?_) (fun hb => ?_)
            · replace h := bif_t hb h
              refine tri_seq ?_
              refine tri_region (by exact tokW) (by exact gok) [] [] rfl ?_
              show Tri _ _ _ _
              refine tri_ret ?_
              cases h
              replace h : some _ = some _ := ho1
              obtain ⟨hj1, hk1⟩ := Prod.mk.inj (Option.some.inj h)
              subst hj1
              subst hk1
              unfold Gives
              exact ⟨_, Le.refl _ _, rfl, rfl⟩
            · replace h := bif_f hb h
              refine tri_skip ?_
              show Tri _ _ _ _
              refine tri_seq ?_
              refine tri_drawn (by exact tokW) (by exact gok) (by exact mixed) [] [26, 28] [1, 7] rfl (by decide +kernel) ?_
              obtain ⟨e21, he21, h⟩ := bind_out h
              refine And.intro (at_ok (fun _ => rfl) he21).1 ?_
              intro r22 hr22
              obtain rfl : [.int .i64 e21] = r22 := (hr22.trans (at_ok (fun _ => rfl) he21).2.1).symm
              obtain ⟨⟨e23_kind, e23_text, e23_cols, e23_kids⟩, he23, h⟩ := bind_out h
              refine And.intro (at_ok Nd.encs_eq he23).1 ?_
              intro r24 hr24
              obtain rfl : [.int .i64 e23_kind, .str e23_text, .int .i64 e23_cols, .sl 4 (Nd.encs e23_kids)] = r24 := (hr24.trans (at_ok Nd.encs_eq he23).2.1).symm
              show Tri _ _ _ _
              refine tri_seq ?_
              refine tri_seq ?_
              obtain ⟨x25, hj, h⟩ := bind_out h
              refine tri_post ⟨ofL [(1, .s (.sl 1 ((List.map (irow .i64)) path8))), (2, .op 0 0), (4, .op 1 0), (42, .s (.bool x25))], ofH [(0, .box 24 [.s (.int .i64 e23_kind), .s (.str e23_text), .s (.int .i64 e23_cols), .s (.sl 4 (Nd.encs e23_kids))]), (1, .box 24 [.s (.int .i64 0), .s (.str []), .s (.int .i64 0), .nl 4])], 2⟩ ?_ (fun σ' hle => ?_)
              · replace h := hj
                refine tri_drawn (by exact tokW) (by exact gok) (by exact mixed) [] [31, 34, 36, 40] [9] rfl (by decide +kernel) ?_
                obtain ⟨e26, he26, h⟩ := bind_out h
                refine And.intro (at_ok (fun _ => rfl) he26).1 ?_
                intro r27 hr27
                obtain rfl : [.int .i64 e26] = r27 := (hr27.trans (at_ok (fun _ => rfl) he26).2.1).symm
                intro b hb
                cases b with
                | true =>
                  replace h := bif_t hb.symm h
                  cases h
                  exact (Le.rename [(0, 0), (1, 1)] _ _ _ ⟨rfl, rfl, rfl, rfl, trivial⟩ ⟨rfl, ⟨_, rfl, rfl⟩, rfl, ⟨_, rfl, rfl⟩, trivial⟩ rfl rfl rfl rfl rfl)
                | false =>
                  replace h := bif_f hb.symm h
                  obtain ⟨e28, he28, h⟩ := bind_out h
                  refine And.intro (at_ok (fun _ => rfl) he28).1 ?_
                  intro r29 hr29
                  obtain rfl : [.int .i64 e28] = r29 := (hr29.trans (at_ok (fun _ => rfl) he28).2.1).symm
                  intro n30 hn30
                  obtain rfl : (e23_kids.length : Int) = n30 := (hn30.trans (congrArg (fun m : Nat => (m : Int)) (rlen Nd.encs_eq e23_kids))).symm
                  cases h
                  exact (Le.rename [(0, 0), (1, 1)] _ _ _ ⟨rfl, rfl, rfl, rfl, trivial⟩ ⟨rfl, ⟨_, rfl, rfl⟩, rfl, ⟨_, rfl, rfl⟩, trivial⟩ rfl rfl rfl rfl rfl)
              · show Tri _ _ _ _
                refine tri_le hle ?_
                refine tri_cond rfl (fun hb => ?_) (fun hb => ?_)
                · replace h := bif_t hb h
                  refine tri_seq ?_
                  refine tri_region (by exact tokW) (by exact gok) [] [] rfl ?_
                  show Tri _ _ _ _
                  refine tri_ret ?_
                  cases h
                  replace h : some _ = some _ := ho1
                  obtain ⟨hj1, hk1⟩ := Prod.mk.inj (Option.some.inj h)
                  subst hj1
                  subst hk1
                  unfold Gives
                  exact ⟨_, Le.refl _ _, rfl, rfl⟩
                · replace h := bif_f hb h
                  refine tri_skip ?_
                  show Tri _ _ _ _
                  refine tri_seq ?_
                  refine tri_drawn (by exact tokW) (by exact gok) (by exact mixed) [] [47, 49] [1, 7] rfl (by decide +kernel) ?_
                  obtain ⟨e31, he31, h⟩ := bind_out h
                  refine And.intro (at_ok (fun _ => rfl) he31).1 ?_
                  intro r32 hr32
                  obtain rfl : [.int .i64 e31] = r32 := (hr32.trans (at_ok (fun _ => rfl) he31).2.1).symm
                  obtain ⟨⟨e33_kind, e33_text, e33_cols, e33_kids⟩, he33, h⟩ := bind_out h
                  refine And.intro (at_ok Nd.encs_eq he33).1 ?_
                  intro r34 hr34
                  obtain rfl : [.int .i64 e33_kind, .str e33_text, .int .i64 e33_cols, .sl 4 (Nd.encs e33_kids)] = r34 := (hr34.trans (at_ok Nd.encs_eq he33).2.1).symm
                  show Tri _ _ _ _
                  refine tri_region (by exact tokW) (by exact gok) [] [52] rfl ?_
                  obtain ⟨hq, h⟩ := req_out h
                  refine And.intro ⟨hq.1, Int.le_trans hq.2.1 (Int.ofNat_le.2 (Nat.le_of_eq (rlen (fun _ => rfl) _).symm)), Int.le_refl _⟩ ?_
                  intro r35 hr35
                  obtain rfl : (List.map (irow .i64)) ((path8.take (path8.length : Int).toNat).drop (2 : Int).toNat) = r35 := (hr35.trans ((congrArg (fun m : Nat => (((List.map (irow .i64)) path8).take m).drop (2 : Int).toNat) (rlen (fun _ => rfl) _)).trans (rcut (fun _ => rfl) _ _ _))).symm
                  refine ⟨(k, e33_kind, e33_text, e33_cols, e33_kids, (path8.take (path8.length : Int).toNat).drop (2 : Int).toNat), h, (Le.rename [(0, 0), (1, 1)] _ _ _ ⟨rfl, rfl, rfl, trivial⟩ ⟨rfl, ⟨_, rfl, rfl⟩, rfl, ⟨_, rfl, rfl⟩, trivial⟩ rfl rfl rfl rfl rfl), Nat.lt_succ_self k⟩
        · replace h := bif_f hb h
          refine tri_exit ?_
          cases h
          exact ⟨_, rfl, (Le.rename [(0, 0), (1, 1)] _ _ _ ⟨rfl, rfl, rfl, trivial⟩ ⟨rfl, ⟨_, rfl, rfl⟩, rfl, ⟨_, rfl, rfl⟩, trivial⟩ rfl rfl rfl rfl rfl)⟩
  · subst hz
    obtain ⟨path9, x10, x11, x12, x13⟩ := z
    replace h := ho1
    show Tri _ _ _ _
    refine tri_le hle ?_
    refine tri_seq ?_
    refine tri_region (by exact tokW) (by exact gok) [] [55] rfl ?_
    intro n36 hn36
    obtain rfl : (path9.length : Int) = n36 := (hn36.trans (congrArg (fun m : Nat => (m : Int)) (rlen (fun _ => rfl) path9))).symm
    show Tri _ _ _ _
    refine tri_ret ?_
    obtain ⟨hj1, hk1⟩ := Prod.mk.inj (Option.some.inj h)
    subst hj1
    subst hk1
    unfold Gives
    exact ⟨_, Le.refl _ _, rfl, rfl⟩
def R_r09_Row (n : Nat) (xs : List AV) (r : Ret) : Prop := ∃ (a0 : Nd) (a1 : List Int) (y0 : Nd) (y1 : Int), m_r09_Row n a0 a1 = some (y0, y1) ∧ xs = [.agg ((Nd.enc a0).map .s), .s (.sl 1 ((List.map (irow .i64)) a1))] ∧ r = .val (.tup [.agg ((Nd.enc y0).map .s), .s (.int .i64 y1)])
def S_r09_Row : PSpec := pspec fun xs r => ∃ n, R_r09_Row n xs r
set_option maxHeartbeats 2000000 in
set_option maxRecDepth 100000 in
theorem ok_r09_Row : PSound Tryd.prog 12 S_r09_Row := by
  have gok : ∀ f s, look? f [(9, S_r09_Valid), (23, S_r09_find)] = some s → PSound Tryd.prog f s := look_all (by
    simp only [List.forall_mem_cons]
    exact ⟨ok_r09_Valid, ok_r09_find, by simp⟩)
  refine psound tokW Tryd.call12 Tryd.func12 rfl (fun xs r h => by obtain ⟨n, _, _, _, _, _, rfl, _⟩ := h; show 2 ≤ 22; decide) 22 rfl ?_
  rintro xs r w0 G0 ⟨n, ⟨n1_kind, n1_text, n1_cols, n1_kids⟩, path2, y0, y1, h, rfl, rfl⟩ _
  rw [m_r09_Row] at h
  refine tri_seq ?_
  refine tri_region (by exact tokW) (by exact gok) [4] [] rfl ?_
  show Tri _ _ _ _
  refine tri_seq ?_
  refine tri_seq ?_
  refine tri_region (by exact tokW) (by exact gok) [] [] rfl ?_
  obtain ⟨y3, hy3, h⟩ := bind_out h
  refine ⟨_, ⟨_, _, _, hy3, rfl, rfl⟩, ?_⟩
  show Tri _ _ _ _
  refine tri_cond rfl (fun hb => ?_) (fun hb => ?_)
  · replace h := bif_t hb h
    refine tri_seq ?_
    refine tri_region (by exact tokW) (by exact gok) [] [] rfl ?_
    show Tri _ _ _ _
    refine tri_ret ?_
    obtain ⟨hj1, hk1⟩ := Prod.mk.inj (Option.some.inj h)
    subst hj1
    subst hk1
    unfold Gives
    exact ⟨_, Le.refl _ _, rfl, rfl⟩
  · replace h := bif_f hb h
    refine tri_skip ?_
    show Tri _ _ _ _
    refine tri_seq ?_
    refine tri_region (by exact tokW) (by exact gok) [6] [] rfl ?_
    obtain ⟨⟨⟨y4_kind, y4_text, y4_cols, y4_kids⟩, y5⟩, hy4, h⟩ := bind_out h
    refine ⟨_, ⟨_, _, _, _, _, hy4, rfl, rfl⟩, ?_⟩
    show Tri _ _ _ _
    refine tri_le (Le.giveBox 1 [.int .i64 y4_kind, .str y4_text, .int .i64 y4_cols, .sl 4 (Nd.encs y4_kids)] rfl rfl) ?_
    refine tri_seq ?_
    refine tri_seq ?_
    refine tri_region (by exact tokW) (by exact gok) [] [] rfl ?_
    show Tri _ _ _ _
    refine tri_cond rfl (fun hb => ?_) (fun hb => ?_)
    · replace h := bif_t hb h
      refine tri_seq ?_
      refine tri_region (by exact tokW) (by exact gok) [] [] rfl ?_
      show Tri _ _ _ _
      refine tri_ret ?_
      obtain ⟨hj1, hk1⟩ := Prod.mk.inj (Option.some.inj h)
      subst hj1
      subst hk1
      unfold Gives
      exact ⟨_, Le.refl _ _, rfl, rfl⟩
    · replace h := bif_f hb h
      refine tri_skip ?_
      show Tri _ _ _ _
      refine tri_seq ?_
      refine tri_region (by exact tokW) (by exact gok) [] [] rfl ?_
      show Tri _ _ _ _
      refine tri_ret ?_
      obtain ⟨hj1, hk1⟩ := Prod.mk.inj (Option.some.inj h)
      subst hj1
      subst hk1
      unfold Gives
      exact ⟨_, Le.refl _ _, rfl, rfl⟩
def R_l17_MergeConflicts (n : Nat) (xs : List AV) (r : Ret) : Prop := ∃ (a0 : Nd) (a1 : Nd) (a2 : Nd) (y0 : Bool), m_l17_MergeConflicts n a0 a1 a2 = some y0 ∧ xs = [.agg ((Nd.enc a0).map .s), .agg ((Nd.enc a1).map .s), .agg ((Nd.enc a2).map .s)] ∧ r = .val (.s (.bool y0))
def S_l17_MergeConflicts : PSpec := pspec fun xs r => ∃ n, R_l17_MergeConflicts n xs r
set_option maxHeartbeats 2000000 in
set_option maxRecDepth 100000 in
theorem ok_l17_MergeConflicts : PSound Tryd.prog 4 S_l17_MergeConflicts := by
  have gok : ∀ f s, look? f [(7, S_l17_awake), (8, S_l17_few), (10, S_merge_Three), (12, S_r09_Row), (13, S_r09_SameItems)] = some s → PSound Tryd.prog f s := look_all (by
    simp only [List.forall_mem_cons]
    exact ⟨ok_l17_awake, ok_l17_few, ok_merge_Three, ok_r09_Row, ok_r09_SameItems, by simp⟩)
  refine psound tokW Tryd.call4 Tryd.func4 rfl (fun xs r h => by obtain ⟨n, _, _, _, _, _, rfl, _⟩ := h; show 3 ≤ 93; decide) 93 rfl ?_
  rintro xs r w0 G0 ⟨n, ⟨a1_kind, a1_text, a1_cols, a1_kids⟩, ⟨a2_kind, a2_text, a2_cols, a2_kids⟩, ⟨a3_kind, a3_text, a3_cols, a3_kids⟩, y0, h, rfl, rfl⟩ _
  rw [m_l17_MergeConflicts] at h
  refine tri_seq ?_
  refine tri_region (by exact tokW) (by exact gok) [] [] rfl ?_
  show Tri _ _ _ _
  refine tri_seq ?_
  refine tri_seq ?_
  refine tri_region (by exact tokW) (by exact gok) [] [] rfl ?_
  obtain ⟨y4, hy4, h⟩ := bind_out h
  refine ⟨_, ⟨_, _, hy4, rfl, rfl⟩, ?_⟩
  show Tri _ _ _ _
  refine tri_cond rfl (fun hb => ?_) (fun hb => ?_)
  · replace h := bif_t hb h
    refine tri_seq ?_
    refine tri_region (by exact tokW) (by exact gok) [] [] rfl ?_
    show Tri _ _ _ _
    refine tri_ret ?_
    have hy := Option.some.inj h
    subst hy
    unfold Gives
    exact ⟨_, Le.refl _ _, rfl, rfl⟩
  · replace h := bif_f hb h
    refine tri_skip ?_
    show Tri _ _ _ _
    refine tri_seq ?_
    refine tri_seq ?_
    refine tri_region (by exact tokW) (by exact gok) [] [] rfl ?_
    obtain ⟨y5, hy5, h⟩ := bind_out h
    refine ⟨_, ⟨_, _, _, _, _, hy5, rfl, rfl⟩, ?_⟩
    show Tri _ _ _ _
    refine tri_cond rfl (fun hb => ?_) (fun hb => ?_)
    · replace h := bif_t hb h
      refine tri_seq ?_
      refine tri_region (by exact tokW) (by exact gok) [] [] rfl ?_
      show Tri _ _ _ _
      refine tri_ret ?_
      have hy := Option.some.inj h
      subst hy
      unfold Gives
      exact ⟨_, Le.refl _ _, rfl, rfl⟩
    · replace h := bif_f hb h
      refine tri_skip ?_
      show Tri _ _ _ _
      refine tri_seq ?_
      refine tri_region (by exact tokW) (by exact gok) [7] [] rfl ?_
      obtain ⟨⟨⟨y6_kind, y6_text, y6_cols, y6_kids⟩, y7, y8⟩, hy6, h⟩ := bind_out h
      refine ⟨_, ⟨_, _, _, _, _, _, _, hy6, rfl, rfl⟩, ?_⟩
      show Tri _ _ _ _
      refine tri_le (Le.giveBox 0 [.int .i64 y6_kind, .str y6_text, .int .i64 y6_cols, .sl 4 (Nd.encs y6_kids)] rfl rfl) ?_
      refine tri_seq ?_
      refine tri_seq ?_
      refine tri_region (by exact tokW) (by exact gok) [] [] rfl ?_
      show Tri _ _ _ _
      obtain ⟨fl, hl, ho1⟩ := bind_out h
      refine tri_fl (fl := fl) (fun z => match z with | _ => ⟨ofL [], fun _ => none, 0⟩) ?_ (fun z σ' hz hle => ?_)
      · refine tri_block (tri_loopI (X := Nat × Int) (fun y => match y with | (k, x9) => ⟨ofL [(3, .s (.pt [.int .i64 a1_kind, .str a1_text, .int .i64 a1_cols, .sl 4 (Nd.encs a1_kids)])), (8, .s (.sl 5 ((List.map enc_api_Conflict) y7))), (10, .s (.int .i64 x9))], fun _ => none, 0⟩) (fun y => m_l17_MergeConflicts_l1 n a1_kind a1_text a1_cols a1_kids y7 y.1 y.2 = some fl) (fun y => y.1) (n, 0) hl ?_ ?_)
        · exact (Le.rename [] _ [] 0 ⟨rfl, rfl, rfl, trivial⟩ trivial rfl rfl rfl rfl rfl)
        · rintro ⟨k, x9⟩ h
          cases k with
          | zero => cases h
          | succ k =>
            replace h : m_l17_MergeConflicts_l1 n a1_kind a1_text a1_cols a1_kids y7 (k+1) x9 = some fl := h
            rw [m_l17_MergeConflicts_l1] at h
            refine tri_seq ?_
            refine tri_seq ?_
            refine tri_region (by exact tokW) (by exact gok) [] [32] rfl ?_
            intro n10 hn10
            obtain rfl : (y7.length : Int) = n10 := (hn10.trans (congrArg (fun m : Nat => (m : Int)) (rlen (fun _ => rfl) y7))).symm
            show Tri _ _ _ _
            refine tri_cond rfl (fun hb => ?_) (fun hb => ?_)
            · replace h := bif_t hb h
              refine tri_skip ?_
              show Tri _ _ _ _
              refine tri_seq ?_
              refine tri_block ?_
              refine tri_seq ?_
              refine tri_region (by exact tokW) (by exact gok) [11] [38] rfl ?_
              obtain ⟨⟨e11_row, e11_from, e11_to, e11_left, e11_right⟩, he11, h⟩ := bind_out h
              refine And.intro (at_ok (fun _ => rfl) he11).1 ?_
              intro r12 hr12
              obtain rfl : [.sl 1 ((List.map (irow .i64)) e11_row), .int .i64 e11_from, .int .i64 e11_to, .sl 4 (Nd.encs e11_left), .sl 4 (Nd.encs e11_right)] = r12 := (hr12.trans (at_ok (fun _ => rfl) he11).2.1).symm
              show Tri _ _ _ _
              refine tri_le (Le.giveBox 0 [.sl 1 ((List.map (irow .i64)) e11_row), .int .i64 e11_from, .int .i64 e11_to, .sl 4 (Nd.encs e11_left), .sl 4 (Nd.encs e11_right)] rfl rfl) ?_
              refine tri_seq ?_
              refine tri_region (by exact tokW) (by exact gok) [12] [] rfl ?_
              obtain ⟨⟨⟨y13_kind, y13_text, y13_cols, y13_kids⟩, y14⟩, hy13, h⟩ := bind_out h
              refine ⟨_, ⟨_, _, _, _, _, hy13, rfl, rfl⟩, ?_⟩
              show Tri _ _ _ _
              refine tri_le (Le.giveBox 1 [.int .i64 y13_kind, .str y13_text, .int .i64 y13_cols, .sl 4 (Nd.encs y13_kids)] rfl rfl) ?_
              refine tri_seq ?_
              refine tri_seq ?_
              obtain ⟨x15, hj, h⟩ := bind_out h
              refine tri_post ⟨ofL [(3, .s (.pt [.int .i64 a1_kind, .str a1_text, .int .i64 a1_cols, .sl 4 (Nd.encs a1_kids)])), (8, .s (.sl 5 ((List.map enc_api_Conflict) y7))), (10, .s (.int .i64 x9)), (11, .s (.pt [.sl 1 ((List.map (irow .i64)) e11_row), .int .i64 e11_from, .int .i64 e11_to, .sl 4 (Nd.encs e11_left), .sl 4 (Nd.encs e11_right)])), (12, .s (.pt [.int .i64 y13_kind, .str y13_text, .int .i64 y13_cols, .sl 4 (Nd.encs y13_kids)])), (68, .s (.bool x15))], fun _ => none, 0⟩ ?_ (fun σ' hle => ?_)
              · replace h := hj
                refine tri_region (by exact tokW) (by exact gok) [] [49, 54, 61, 66] rfl ?_
                intro b hb
                cases b with
                | true =>
                  replace h := bif_t hb.symm h
                  intro b hb
                  subst hb
                  intro b hb
                  subst hb
                  cases h
                  exact (Le.rename [] _ [] 0 ⟨rfl, rfl, rfl, rfl, rfl, rfl, trivial⟩ trivial rfl rfl rfl rfl rfl)
                | false =>
                  replace h := bif_f hb.symm h
                  intro b hb
                  cases b with
                  | true =>
                    replace h := bif_t hb.symm h
                    intro b hb
                    subst hb
                    cases h
                    exact (Le.rename [] _ [] 0 ⟨rfl, rfl, rfl, rfl, rfl, rfl, trivial⟩ trivial rfl rfl rfl rfl rfl)
                  | false =>
                    replace h := bif_f hb.symm h
                    intro b hb
                    cases b with
                    | true =>
                      replace h := bif_t hb.symm h
                      cases h
                      exact (Le.rename [] _ [] 0 ⟨rfl, rfl, rfl, rfl, rfl, rfl, trivial⟩ trivial rfl rfl rfl rfl rfl)
                    | false =>
                      replace h := bif_f hb.symm h
                      intro n16 hn16
                      obtain rfl : (y13_kids.length : Int) = n16 := (hn16.trans (congrArg (fun m : Nat => (m : Int)) (rlen Nd.encs_eq y13_kids))).symm
                      cases h
                      exact (Le.rename [] _ [] 0 ⟨rfl, rfl, rfl, rfl, rfl, rfl, trivial⟩ trivial rfl rfl rfl rfl rfl)
              · show Tri _ _ _ _
                refine tri_le hle ?_
                refine tri_cond rfl (fun hb => ?_) (fun hb => ?_)
                · replace h := bif_t hb h
                  refine tri_seq ?_
                  refine tri_region (by exact tokW) (by exact gok) [] [] rfl ?_
                  show Tri _ _ _ _
                  refine tri_ret ?_
                  cases h
                  replace h : some _ = some _ := ho1
                  have hy := Option.some.inj h
                  subst hy
                  unfold Gives
                  exact ⟨_, Le.refl _ _, rfl, rfl⟩
                · replace h := bif_f hb h
                  refine tri_skip ?_
                  show Tri _ _ _ _
                  refine tri_seq ?_
                  refine tri_region (by exact tokW) (by exact gok) [] [75] rfl ?_
                  obtain ⟨hq, h⟩ := req_out h
                  refine And.intro ⟨hq.1, hq.2.1, Int.le_trans hq.2.2 (Int.ofNat_le.2 (Nat.le_of_eq (rlen Nd.encs_eq _).symm))⟩ ?_
                  intro r17 hr17
                  obtain rfl : Nd.encs ((y13_kids.take e11_to.toNat).drop e11_from.toNat) = r17 := (hr17.trans (rcut Nd.encs_eq _ _ _)).symm
                  show Tri _ _ _ _
                  refine tri_seq ?_
                  obtain ⟨x18, hj, h⟩ := bind_out h
                  refine tri_post ⟨ofL [(3, .s (.pt [.int .i64 a1_kind, .str a1_text, .int .i64 a1_cols, .sl 4 (Nd.encs a1_kids)])), (8, .s (.sl 5 ((List.map enc_api_Conflict) y7))), (10, .s (.int .i64 x9)), (92, .s (.bool x18))], fun _ => none, 0⟩ ?_ (fun σ' hle => ?_)
                  · replace h := hj
                    refine tri_region (by exact tokW) (by exact gok) [] [81, 87] rfl ?_
                    obtain ⟨y19, hy19, h⟩ := bind_out h
                    refine ⟨_, ⟨_, _, _, _, hy19, rfl, rfl⟩, ?_⟩
                    intro b hb
                    cases b with
                    | true =>
                      replace h := bif_t hb.symm h
                      intro b hb
                      subst hb
                      cases h
                      exact (Le.forget _ ⟨rfl, rfl, rfl, rfl, trivial⟩)
                    | false =>
                      replace h := bif_f hb.symm h
                      obtain ⟨y20, hy20, h⟩ := bind_out h
                      refine ⟨_, ⟨_, _, _, _, hy20, rfl, rfl⟩, ?_⟩
                      intro b hb
                      cases b with
                      | true =>
                        replace h := bif_t hb.symm h
                        cases h
                        exact (Le.forget _ ⟨rfl, rfl, rfl, rfl, trivial⟩)
                      | false =>
                        replace h := bif_f hb.symm h
                        obtain ⟨y21, hy21, h⟩ := bind_out h
                        refine ⟨_, ⟨_, _, _, _, hy21, rfl, rfl⟩, ?_⟩
                        cases h
                        exact (Le.forget _ ⟨rfl, rfl, rfl, rfl, trivial⟩)
                  · show Tri _ _ _ _
                    refine tri_le hle ?_
                    refine tri_cond rfl (fun hb => ?_) (fun hb => ?_)
                    · replace h := bif_t hb h
                      refine tri_seq ?_
                      refine tri_region (by exact tokW) (by exact gok) [] [] rfl ?_
                      show Tri _ _ _ _
                      refine tri_ret ?_
                      cases h
                      replace h : some _ = some _ := ho1
                      have hy := Option.some.inj h
                      subst hy
                      unfold Gives
                      exact ⟨_, Le.refl _ _, rfl, rfl⟩
                    · replace h := bif_f hb h
                      refine tri_skip ?_
                      show Tri _ _ _ _
                      refine tri_region (by exact tokW) (by exact gok) [] [] rfl ?_
                      refine ⟨(k, IntKind.i64.wrap (x9 + 1)), h, (Le.forget _ ⟨rfl, rfl, rfl, trivial⟩), Nat.lt_succ_self k⟩
            · replace h := bif_f hb h
              refine tri_exit ?_
              cases h
              exact ⟨_, rfl, (Le.forget _ trivial)⟩
      · subst hz
        obtain _ := z
        replace h := ho1
        show Tri _ _ _ _
        refine tri_le hle ?_
        refine tri_seq ?_
        refine tri_region (by exact tokW) (by exact gok) [] [] rfl ?_
        show Tri _ _ _ _
        refine tri_ret ?_
        have hy := Option.some.inj h
        subst hy
        unfold Gives
        exact ⟨_, Le.refl _ _, rfl, rfl⟩
end Go.Proofs.YtgfneloodabafaaDoor
namespace Go.Proofs.YtgfneloodabafaaDoor
open Go.Abs
theorem typed_nd {n : Nat} {ss : List S} (h : Typed T n 24 ss) : ∃ t : Nd, ss = t.enc ∧ t.rng :=
  typed_node (T := T) (e := 24) (s := 22) (ki := 3) (st := 9) rfl rfl rfl rfl rfl rfl rfl rfl rfl n h
end Go.Proofs.YtgfneloodabafaaDoor
