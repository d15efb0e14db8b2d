/-
  Joined out of: MgVC, MgVD, PTyp9, PCnt, PByte, PText, PVal, PDist, PDump, PFill.
-/
import Derived.Lib.ItoaLen
import Derived.Test.YtgfneloodabafaaDoorZe
set_option linter.unusedVariables false
set_option linter.unusedSimpArgs false
namespace Go.Proofs.YtgfneloodabafaaDoor
open Go.Abs
def R_merge_partners (n : Nat) (xs : List AV) (r : Ret) : Prop := ∃ (a0 : List Nd) (a1 : List Nd) (y0 : List Int), m_merge_partners n a0 a1 = some y0 ∧ xs = [.s (.sl 4 (Nd.encs a0)), .s (.sl 4 (Nd.encs a1))] ∧ r = .row 3 1 ((List.map (irow .i64)) y0)
def S_merge_partners : PSpec := pspec fun xs r => ∃ n, R_merge_partners n xs r
set_option maxHeartbeats 2000000 in
set_option maxRecDepth 100000 in
theorem ok_merge_partners : PSound Tryd.prog 41 S_merge_partners := by
  have gok : ∀ f s, look? f [(56, S_diff_Align)] = some s → PSound Tryd.prog f s := look_all (by
    simp only [List.forall_mem_cons]
    exact ⟨ok_diff_Align, by simp⟩)
  refine psound tokW Tryd.call41 Tryd.func41 rfl (fun xs r h => by obtain ⟨n, _, _, _, _, rfl, _⟩ := h; show 2 ≤ 45; decide) 45 rfl ?_
  rintro xs r w0 G0 ⟨n, base1, other2, y0, h, rfl, rfl⟩ _
  rw [m_merge_partners] at h
  refine tri_seq ?_
  refine tri_region (by exact tokW) (by exact gok) [4] [] rfl ?_
  show Tri _ _ _ _
  refine tri_le (Le.rename [] [(0, .s (.sl 4 (Nd.encs base1))), (1, .s (.sl 4 (Nd.encs other2)))] [] 0 ⟨rfl, rfl, trivial⟩ trivial rfl rfl rfl rfl rfl) ?_
  refine tri_seq ?_
  refine tri_region (by exact tokW) (by exact gok) [] [] rfl ?_
  obtain ⟨⟨y3, y4⟩, hy3, h⟩ := bind_out h
  refine ⟨_, ⟨_, _, _, _, _, hy3, rfl, rfl⟩, ?_⟩
  show Tri _ _ _ _
  refine tri_seq ?_
  refine tri_region (by exact tokW) (by exact gok) [21] [20] rfl ?_
  intro n5 hn5
  obtain rfl : (base1.length : Int) = n5 := (hn5.trans (congrArg (fun m : Nat => (m : Int)) (rlen Nd.encs_eq base1))).symm
  obtain ⟨hq, h⟩ := req_out h
  refine And.intro (show 0 ≤ (base1.length : Int) ∧ (base1.length : Int) ≤ (base1.length : Int) ∧ (base1.length : Int) * ((8 : Nat) : Int) ≤ 281474976710656 ∧ (base1.length : Int) ≤ 281474976710656 from ⟨hq.1, Int.le_refl _, by have h1 := hq.1; have h2 := hq.2; omega, by have h2 := hq.2; omega⟩) ?_
  show Tri _ _ _ _
  refine tri_le (Le.rename [(0, 0)] [(5, .s (.sl 2 ((List.map enc_2_int) y3))), (7, .orow 0)] [(0, .row 3 1 ((List.map (irow .i64)) (List.replicate (base1.length : Int).toNat 0)))] 1 ⟨rfl, rfl, trivial⟩ ⟨rfl, ⟨_, rfl, congrArg (Ob.row 3 1) (by simp [List.map_append, List.map_take, List.map_drop, irow, brow, b8of_row, List.map_cons, List.map_nil, b8of_wrap, Nd.encs_eq, Nd.enc, enc_13_node_kind, enc_node_checker, enc_node_inner, enc_diff_grid, enc_s_int, enc_node_open, enc_2_int])⟩, trivial⟩ rfl rfl rfl rfl rfl) ?_
  refine tri_seq ?_
  refine tri_seq ?_
  refine tri_region (by exact tokW) (by exact gok) [] [23] rfl ?_
  intro n6 hn6
  obtain rfl : ((List.replicate (base1.length : Int).toNat 0 : List Int).length : Int) = n6 := (hn6.trans (congrArg (fun m : Nat => (m : Int)) (rlen (fun _ => rfl) (List.replicate (base1.length : Int).toNat 0 : List Int)))).symm
  show Tri _ _ _ _
  obtain ⟨l9, hl, h⟩ := bind_out h
  refine tri_post ⟨ofL [(5, .s (.sl 2 ((List.map enc_2_int) y3))), (7, .orow 0)], ofH [(0, .row 3 1 ((List.map (irow .i64)) l9))], 1⟩ ?_ (fun σ' hle => ?_)
  · refine tri_block (tri_loopI (X := Nat × Int × (List Int)) (fun y => match y with | (k, x7, l8) => ⟨ofL [(5, .s (.sl 2 ((List.map enc_2_int) y3))), (7, .orow 0), (23, .s (.int .i64 ((List.replicate (base1.length : Int).toNat 0 : List Int).length : Int))), (24, .s (.int .i64 x7))], ofH [(0, .row 3 1 ((List.map (irow .i64)) l8))], 1⟩) (fun y => m_merge_partners_l1 base1 y.1 y.2.1 y.2.2 = some l9) (fun y => y.1) (n, 0, List.replicate (base1.length : Int).toNat 0) hl ?_ ?_)
    · exact (Le.rename [(0, 0)] _ _ _ ⟨rfl, rfl, rfl, rfl, trivial⟩ ⟨rfl, ⟨_, rfl, rfl⟩, trivial⟩ rfl rfl rfl rfl rfl)
    · rintro ⟨k, x7, l8⟩ h
      cases k with
      | zero => cases h
      | succ k =>
        replace h : m_merge_partners_l1 base1 (k+1) x7 l8 = some l9 := h
        rw [m_merge_partners_l1] at h
        refine tri_seq ?_
        refine tri_region (by exact tokW) (by exact gok) [] [] rfl ?_
        show Tri _ _ _ _
        refine tri_seq ?_
        refine tri_cond rfl (fun hb => ?_) (fun hb => ?_)
        · replace h := bif_t hb h
          refine tri_skip ?_
          show Tri _ _ _ _
          refine tri_seq ?_
          refine tri_block ?_
          refine tri_seq ?_
          refine tri_region (by exact tokW) (by exact gok) [] [] rfl ?_
          show Tri _ _ _ _
          refine tri_region (by exact tokW) (by exact gok) [] [] rfl ?_
          obtain ⟨e10, he10, h⟩ := bind_out h
          refine And.intro (at_ok (fun _ => rfl) he10).1 ?_
          have hset11 := (rset (R := (List.map (irow .i64))) (f := (irow .i64)) (fun _ => rfl) he10 (-1) 0 1 [.int .i64 (-1)] rfl)
          have hat11 := at_set he10 (-1)
          refine And.intro (at_ok (fun _ => rfl) he10).2.2 ?_
          show Tri _ _ _ _
          refine tri_le (Le.rename [(0, 0)] [(5, .s (.sl 2 ((List.map enc_2_int) y3))), (7, .orow 0), (23, .s (.int .i64 ((List.replicate (base1.length : Int).toNat 0 : List Int).length : Int))), (24, .s (.int .i64 x7))] [(0, .row 3 1 ((List.map (irow .i64)) (l8.set x7.toNat (-1))))] 1 ⟨rfl, rfl, rfl, rfl, trivial⟩ ⟨rfl, ⟨_, rfl, congrArg (Ob.row 3 1) hset11⟩, trivial⟩ rfl rfl rfl rfl rfl) ?_
          refine tri_region (by exact tokW) (by exact gok) [] [] rfl ?_
          refine ⟨(k, IntKind.i64.wrap (x7 + 1), l8.set x7.toNat (-1)), h, (Le.rename [(0, 0)] _ _ _ ⟨rfl, rfl, rfl, rfl, trivial⟩ ⟨rfl, ⟨_, rfl, rfl⟩, trivial⟩ rfl rfl rfl rfl rfl), Nat.lt_succ_self k⟩
        · replace h := bif_f hb h
          refine tri_exit ?_
          cases h
          exact (Le.rename [(0, 0)] _ _ _ ⟨rfl, rfl, trivial⟩ ⟨rfl, ⟨_, rfl, rfl⟩, trivial⟩ rfl rfl rfl rfl rfl)
  · show Tri _ _ _ _
    refine tri_le hle ?_
    refine tri_seq ?_
    refine tri_seq ?_
    refine tri_region (by exact tokW) (by exact gok) [] [32] rfl ?_
    intro n12 hn12
    obtain rfl : (y3.length : Int) = n12 := (hn12.trans (congrArg (fun m : Nat => (m : Int)) (rlen (fun _ => rfl) y3))).symm
    show Tri _ _ _ _
    obtain ⟨l15, hl, h⟩ := bind_out h
    refine tri_post ⟨ofL [(7, .orow 0)], ofH [(0, .row 3 1 ((List.map (irow .i64)) l15))], 1⟩ ?_ (fun σ' hle => ?_)
    · refine tri_block (tri_loopI (X := Nat × Int × (List Int)) (fun y => match y with | (k, x13, l14) => ⟨ofL [(7, .orow 0), (31, .s (.sl 2 ((List.map enc_2_int) y3))), (32, .s (.int .i64 (y3.length : Int))), (33, .s (.int .i64 x13))], ofH [(0, .row 3 1 ((List.map (irow .i64)) l14))], 1⟩) (fun y => m_merge_partners_l2 y3 y.1 y.2.1 y.2.2 = some l15) (fun y => y.1) (n, 0, l9) hl ?_ ?_)
      · exact (Le.rename [(0, 0)] _ _ _ ⟨rfl, rfl, rfl, rfl, trivial⟩ ⟨rfl, ⟨_, rfl, rfl⟩, trivial⟩ rfl rfl rfl rfl rfl)
      · rintro ⟨k, x13, l14⟩ h
        cases k with
        | zero => cases h
        | succ k =>
          replace h : m_merge_partners_l2 y3 (k+1) x13 l14 = some l15 := h
          rw [m_merge_partners_l2] at h
          refine tri_seq ?_
          refine tri_region (by exact tokW) (by exact gok) [] [] rfl ?_
          show Tri _ _ _ _
          refine tri_seq ?_
          refine tri_cond rfl (fun hb => ?_) (fun hb => ?_)
          · replace h := bif_t hb h
            refine tri_skip ?_
            show Tri _ _ _ _
            refine tri_seq ?_
            refine tri_block ?_
            refine tri_seq ?_
            refine tri_region (by exact tokW) (by exact gok) [10] [35] rfl ?_
            obtain ⟨⟨e16_0, e16_1⟩, he16, h⟩ := bind_out h
            refine And.intro (at_ok (fun _ => rfl) he16).1 ?_
            intro r17 hr17
            obtain rfl : [.int .i64 e16_0, .int .i64 e16_1] = r17 := (hr17.trans (at_ok (fun _ => rfl) he16).2.1).symm
            show Tri _ _ _ _
            refine tri_le (Le.giveBox 1 [.int .i64 e16_0, .int .i64 e16_1] rfl rfl) ?_
            refine tri_region (by exact tokW) (by exact gok) [] [] rfl ?_
            refine And.intro (by decide) ?_
            refine And.intro (by decide) ?_
            obtain ⟨e18, he18, h⟩ := bind_out h
            refine And.intro (at_ok (fun _ => rfl) he18).1 ?_
            have hset19 := (rset (R := (List.map (irow .i64))) (f := (irow .i64)) (fun _ => rfl) he18 e16_1 0 1 [.int .i64 e16_1] rfl)
            have hat19 := at_set he18 e16_1
            refine And.intro (at_ok (fun _ => rfl) he18).2.2 ?_
            show Tri _ _ _ _
            refine tri_le (Le.rename [(0, 0)] [(7, .orow 0), (31, .s (.sl 2 ((List.map enc_2_int) y3))), (32, .s (.int .i64 (y3.length : Int))), (33, .s (.int .i64 x13))] [(0, .row 3 1 ((List.map (irow .i64)) (l14.set e16_0.toNat e16_1)))] 1 ⟨rfl, rfl, rfl, rfl, trivial⟩ ⟨rfl, ⟨_, rfl, congrArg (Ob.row 3 1) hset19⟩, trivial⟩ rfl rfl rfl rfl rfl) ?_
            refine tri_region (by exact tokW) (by exact gok) [] [] rfl ?_
            refine ⟨(k, IntKind.i64.wrap (x13 + 1), l14.set e16_0.toNat e16_1), h, (Le.rename [(0, 0)] _ _ _ ⟨rfl, rfl, rfl, rfl, trivial⟩ ⟨rfl, ⟨_, rfl, rfl⟩, trivial⟩ rfl rfl rfl rfl rfl), Nat.lt_succ_self k⟩
          · replace h := bif_f hb h
            refine tri_exit ?_
            cases h
            exact (Le.rename [(0, 0)] _ _ _ ⟨rfl, trivial⟩ ⟨rfl, ⟨_, rfl, rfl⟩, trivial⟩ rfl rfl rfl rfl rfl)
    · show Tri _ _ _ _
      refine tri_le hle ?_
      refine tri_seq ?_
      refine tri_region (by exact tokW) (by exact gok) [] [] rfl ?_
      show Tri _ _ _ _
      refine tri_ret ?_
      have hy := Option.some.inj h
      subst hy
      unfold Gives
      exact ⟨_, Le.refl _ _, 0, rfl, rfl⟩
def R_node_Equal (n : Nat) (xs : List AV) (r : Ret) : Prop := ∃ (a0 : Nd) (a1 : Nd) (y0 : Bool), m_node_Equal n a0 a1 = some y0 ∧ xs = [.agg ((Nd.enc a0).map .s), .agg ((Nd.enc a1).map .s)] ∧ r = .val (.s (.bool y0))
def R_slices_EqualFunc_sNode (n : Nat) (xs : List AV) (r : Ret) : Prop := ∃ (a0 : List Nd) (a1 : List Nd) (y0 : Bool), m_slices_EqualFunc_sNode n a0 a1 = some y0 ∧ xs = [.s (.sl 4 (Nd.encs a0)), .s (.sl 4 (Nd.encs a1)), .s (.fn 71)] ∧ r = .val (.s (.bool y0))
set_option maxHeartbeats 2000000 in
set_option maxRecDepth 100000 in
theorem step_node_Equal (n : Nat) (ih_node_Equal : PSound Tryd.prog 71 (pspec (R_node_Equal n))) (ih_slices_EqualFunc_sNode : PSound Tryd.prog 70 (pspec (R_slices_EqualFunc_sNode n))) : PSound Tryd.prog 71 (pspec (R_node_Equal (n + 1))) := by
  have gok : ∀ f s, look? f [(70, pspec (R_slices_EqualFunc_sNode n))] = some s → PSound Tryd.prog f s := look_all (by
    simp only [List.forall_mem_cons]
    exact ⟨ih_slices_EqualFunc_sNode, by simp⟩)
  refine psound tokW Tryd.call71 Tryd.func71 rfl (fun xs r h => by obtain ⟨_, _, _, _, rfl, _⟩ := h; show 2 ≤ 31; decide) 31 rfl ?_
  rintro xs r w0 G0 ⟨⟨a1_kind, a1_text, a1_cols, a1_kids⟩, ⟨b2_kind, b2_text, b2_cols, b2_kids⟩, y0, h, rfl, rfl⟩ _
  rw [m_node_Equal] at h
  refine tri_seq ?_
  refine tri_region (by exact tokW) (by exact gok) [] [] rfl ?_
  show Tri _ _ _ _
  refine tri_seq ?_
  obtain ⟨x3, hj, h⟩ := bind_out h
  refine tri_post ⟨ofL [(4, .s (.bool x3))], fun _ => none, 0⟩ ?_ (fun σ' hle => ?_)
  · replace h := hj
    refine tri_region (by exact tokW) (by exact gok) [] [10, 17, 24] rfl ?_
    intro b hb
    cases b with
    | true =>
      replace h := bif_t hb.symm h
      intro b hb
      cases b with
      | true =>
        replace h := bif_t hb.symm h
        intro b hb
        cases b with
        | true =>
          replace h := bif_t hb.symm h
          obtain ⟨y4, hy4, h⟩ := bind_out h
          refine ⟨_, ⟨_, _, _, hy4, rfl, rfl⟩, ?_⟩
          cases h
          exact (Le.forget _ ⟨rfl, trivial⟩)
        | false =>
          replace h := bif_f hb.symm h
          cases h
          exact (Le.forget _ ⟨rfl, trivial⟩)
      | false =>
        replace h := bif_f hb.symm h
        intro b hb
        subst hb
        cases h
        exact (Le.forget _ ⟨rfl, trivial⟩)
    | false =>
      replace h := bif_f hb.symm h
      intro b hb
      subst hb
      intro b hb
      subst hb
      cases h
      exact (Le.forget _ ⟨rfl, trivial⟩)
  · show Tri _ _ _ _
    refine tri_le hle ?_
    refine tri_ret ?_
    have hy := Option.some.inj h
    subst hy
    unfold Gives
    exact ⟨_, Le.refl _ _, rfl, rfl⟩
set_option maxHeartbeats 2000000 in
set_option maxRecDepth 100000 in
theorem step_slices_EqualFunc_sNode (n : Nat) (ih_node_Equal : PSound Tryd.prog 71 (pspec (R_node_Equal n))) (ih_slices_EqualFunc_sNode : PSound Tryd.prog 70 (pspec (R_slices_EqualFunc_sNode n))) : PSound Tryd.prog 70 (pspec (R_slices_EqualFunc_sNode (n + 1))) := by
  have gok : ∀ f s, look? f [(71, pspec (R_node_Equal n))] = some s → PSound Tryd.prog f s := look_all (by
    simp only [List.forall_mem_cons]
    exact ⟨ih_node_Equal, by simp⟩)
  refine psound tokW Tryd.call70 Tryd.func70 rfl (fun xs r h => by obtain ⟨_, _, _, _, rfl, _⟩ := h; show 3 ≤ 32; decide) 32 rfl ?_
  rintro xs r w0 G0 ⟨s11, s22, y0, h, rfl, rfl⟩ _
  rw [m_slices_EqualFunc_sNode] at h
  refine tri_seq ?_
  refine tri_region (by exact tokW) (by exact gok) [] [] rfl ?_
  show Tri _ _ _ _
  refine tri_seq ?_
  refine tri_seq ?_
  refine tri_region (by exact tokW) (by exact gok) [] [11, 13] rfl ?_
  intro n3 hn3
  obtain rfl : (s11.length : Int) = n3 := (hn3.trans (congrArg (fun m : Nat => (m : Int)) (rlen Nd.encs_eq s11))).symm
  intro n4 hn4
  obtain rfl : (s22.length : Int) = n4 := (hn4.trans (congrArg (fun m : Nat => (m : Int)) (rlen Nd.encs_eq s22))).symm
  show Tri _ _ _ _
  refine tri_cond rfl (fun hb => ?_) (fun hb => ?_)
  · replace h := bif_t hb h
    refine tri_seq ?_
    refine tri_region (by exact tokW) (by exact gok) [] [] rfl ?_
    show Tri _ _ _ _
    refine tri_ret ?_
    have hy := Option.some.inj h
    subst hy
    unfold Gives
    exact ⟨_, Le.refl _ _, rfl, rfl⟩
  · replace h := bif_f hb h
    refine tri_skip ?_
    show Tri _ _ _ _
    refine tri_seq ?_
    refine tri_seq ?_
    refine tri_region (by exact tokW) (by exact gok) [] [16] rfl ?_
    intro n5 hn5
    obtain rfl : (s11.length : Int) = n5 := (hn5.trans (congrArg (fun m : Nat => (m : Int)) (rlen Nd.encs_eq s11))).symm
    show Tri _ _ _ _
    obtain ⟨fl, hl, ho1⟩ := bind_out h
    refine tri_fl (fl := fl) (fun z => match z with | _ => ⟨ofL [], fun _ => none, 0⟩) ?_ (fun z σ' hz hle => ?_)
    · refine tri_block (tri_loopI (X := Nat × Int) (fun y => match y with | (k, x6) => ⟨ofL [(1, .s (.sl 4 (Nd.encs s22))), (2, .s (.fn 71)), (15, .s (.sl 4 (Nd.encs s11))), (16, .s (.int .i64 (s11.length : Int))), (17, .s (.int .i64 x6))], fun _ => none, 0⟩) (fun y => m_slices_EqualFunc_sNode_l1 (m_node_Equal n) s11 s22 y.1 y.2 = some fl) (fun y => y.1) (n, 0) hl ?_ ?_)
      · exact (Le.forget _ ⟨rfl, rfl, rfl, rfl, rfl, trivial⟩)
      · rintro ⟨k, x6⟩ h
        cases k with
        | zero => cases h
        | succ k =>
          replace h : m_slices_EqualFunc_sNode_l1 (m_node_Equal n) s11 s22 (k+1) x6 = some fl := h
          rw [m_slices_EqualFunc_sNode_l1] at h
          refine tri_seq ?_
          refine tri_region (by exact tokW) (by exact gok) [] [] rfl ?_
          show Tri _ _ _ _
          refine tri_seq ?_
          refine tri_cond rfl (fun hb => ?_) (fun hb => ?_)
          · replace h := bif_t hb h
            refine tri_skip ?_
            show Tri _ _ _ _
            refine tri_seq ?_
            refine tri_block ?_
            refine tri_seq ?_
            refine tri_region (by exact tokW) (by exact gok) [8] [20] rfl ?_
            obtain ⟨⟨e7_kind, e7_text, e7_cols, e7_kids⟩, he7, h⟩ := bind_out h
            refine And.intro (at_ok Nd.encs_eq he7).1 ?_
            intro r8 hr8
            obtain rfl : [.int .i64 e7_kind, .str e7_text, .int .i64 e7_cols, .sl 4 (Nd.encs e7_kids)] = r8 := (hr8.trans (at_ok Nd.encs_eq he7).2.1).symm
            show Tri _ _ _ _
            refine tri_le (Le.giveBox 0 [.int .i64 e7_kind, .str e7_text, .int .i64 e7_cols, .sl 4 (Nd.encs e7_kids)] rfl rfl) ?_
            refine tri_seq ?_
            refine tri_region (by exact tokW) (by exact gok) [9] [24] rfl ?_
            obtain ⟨⟨e9_kind, e9_text, e9_cols, e9_kids⟩, he9, h⟩ := bind_out h
            refine And.intro (at_ok Nd.encs_eq he9).1 ?_
            intro r10 hr10
            obtain rfl : [.int .i64 e9_kind, .str e9_text, .int .i64 e9_cols, .sl 4 (Nd.encs e9_kids)] = r10 := (hr10.trans (at_ok Nd.encs_eq he9).2.1).symm
            show Tri _ _ _ _
            refine tri_le (Le.giveBox 1 [.int .i64 e9_kind, .str e9_text, .int .i64 e9_cols, .sl 4 (Nd.encs e9_kids)] rfl rfl) ?_
            refine tri_seq ?_
            refine tri_region (by exact tokW) (by exact gok) [] [] rfl ?_
            obtain ⟨y11, hy11, h⟩ := bind_out h
            refine ⟨_, ⟨_, _, _, hy11, rfl, rfl⟩, ?_⟩
            show Tri _ _ _ _
            refine tri_cond rfl (fun hb => ?_) (fun hb => ?_)
            · replace h := bif_t hb h
              refine tri_seq ?_
              refine tri_region (by exact tokW) (by exact gok) [] [] rfl ?_
              show Tri _ _ _ _
              refine tri_ret ?_
              cases h
              replace h : some _ = some _ := ho1
              have hy := Option.some.inj h
              subst hy
              unfold Gives
              exact ⟨_, Le.refl _ _, rfl, rfl⟩
            · replace h := bif_f hb h
              refine tri_skip ?_
              show Tri _ _ _ _
              refine tri_region (by exact tokW) (by exact gok) [] [] rfl ?_
              refine ⟨(k, IntKind.i64.wrap (x6 + 1)), h, (Le.rename [] _ [] 0 ⟨rfl, rfl, rfl, rfl, rfl, trivial⟩ trivial rfl rfl rfl rfl rfl), Nat.lt_succ_self k⟩
          · replace h := bif_f hb h
            refine tri_exit ?_
            cases h
            exact ⟨_, rfl, (Le.forget _ trivial)⟩
    · subst hz
      obtain _ := z
      replace h := ho1
      show Tri _ _ _ _
      refine tri_le hle ?_
      refine tri_seq ?_
      refine tri_region (by exact tokW) (by exact gok) [] [] rfl ?_
      show Tri _ _ _ _
      refine tri_ret ?_
      have hy := Option.some.inj h
      subst hy
      unfold Gives
      exact ⟨_, Le.refl _ _, rfl, rfl⟩
theorem alls_node_Equal : ∀ n, PSound Tryd.prog 71 (pspec (R_node_Equal n)) ∧ PSound Tryd.prog 70 (pspec (R_slices_EqualFunc_sNode n)) := by
  intro n
  induction n with
  | zero =>
    refine ⟨?_, ?_⟩
    · exact psound_none Tryd.call71 (fun xs r h => by obtain ⟨_, _, _, h, _⟩ := h; rw [m_node_Equal] at h; cases h)
    · exact psound_none Tryd.call70 (fun xs r h => by obtain ⟨_, _, _, h, _⟩ := h; rw [m_slices_EqualFunc_sNode] at h; cases h)
  | succ n ih =>
    obtain ⟨ih_node_Equal, ih_slices_EqualFunc_sNode⟩ := ih
    exact ⟨step_node_Equal n ih_node_Equal ih_slices_EqualFunc_sNode, step_slices_EqualFunc_sNode n ih_node_Equal ih_slices_EqualFunc_sNode⟩
def S_slices_EqualFunc_sNode : PSpec := pspec fun xs r => ∃ n, R_slices_EqualFunc_sNode n xs r
theorem ok_slices_EqualFunc_sNode : PSound Tryd.prog 70 S_slices_EqualFunc_sNode := psound_all (fun n => (alls_node_Equal n).2)
def R_merge_same (n : Nat) (xs : List AV) (r : Ret) : Prop := ∃ (a0 : List Nd) (a1 : List Nd) (y0 : Bool), m_merge_same n a0 a1 = some y0 ∧ xs = [.s (.sl 4 (Nd.encs a0)), .s (.sl 4 (Nd.encs a1))] ∧ r = .val (.s (.bool y0))
def S_merge_same : PSpec := pspec fun xs r => ∃ n, R_merge_same n xs r
set_option maxHeartbeats 2000000 in
set_option maxRecDepth 100000 in
theorem ok_merge_same : PSound Tryd.prog 57 S_merge_same := by
  have gok : ∀ f s, look? f [(70, S_slices_EqualFunc_sNode)] = some s → PSound Tryd.prog f s := look_all (by
    simp only [List.forall_mem_cons]
    exact ⟨ok_slices_EqualFunc_sNode, by simp⟩)
  refine psound tokW Tryd.call57 Tryd.func57 rfl (fun xs r h => by obtain ⟨n, _, _, _, _, rfl, _⟩ := h; show 2 ≤ 8; decide) 8 rfl ?_
  rintro xs r w0 G0 ⟨n, a1, b2, y0, h, rfl, rfl⟩ _
  rw [m_merge_same] at h
  refine tri_seq ?_
  refine tri_region (by exact tokW) (by exact gok) [] [] rfl ?_
  show Tri _ _ _ _
  refine tri_seq ?_
  refine tri_region (by exact tokW) (by exact gok) [] [] rfl ?_
  obtain ⟨y3, hy3, h⟩ := bind_out h
  refine ⟨_, ⟨_, _, _, _, hy3, rfl, rfl⟩, ?_⟩
  show Tri _ _ _ _
  refine tri_ret ?_
  have hy := Option.some.inj h
  subst hy
  unfold Gives
  exact ⟨_, Le.refl _ _, rfl, rfl⟩
def R_deep_Nodes (n : Nat) (xs : List AV) (r : Ret) : Prop := ∃ (a0 : List Nd) (y0 : List Nd), m_deep_Nodes n a0 = some y0 ∧ xs = [.s (.sl 4 (Nd.encs a0))] ∧ r = .row 24 4 (Nd.encs y0)
def S_deep_Nodes : PSpec := pspec fun xs r => ∃ n, R_deep_Nodes n xs r
set_option maxHeartbeats 2000000 in
set_option maxRecDepth 100000 in
theorem ok_deep_Nodes : PSound Tryd.prog 58 S_deep_Nodes := by
  have gok : ∀ f s, look? f [(72, S_deep_Node)] = some s → PSound Tryd.prog f s := look_all (by
    simp only [List.forall_mem_cons]
    exact ⟨ok_deep_Node, by simp⟩)
  refine psound tokW Tryd.call58 Tryd.func58 rfl (fun xs r h => by obtain ⟨n, _, _, _, rfl, _⟩ := h; show 1 ≤ 20; decide) 20 rfl ?_
  rintro xs r w0 G0 ⟨n, l1, y0, h, rfl, rfl⟩ _
  rw [m_deep_Nodes] at h
  refine tri_seq ?_
  refine tri_region (by exact tokW) (by exact gok) [2] [] rfl ?_
  show Tri _ _ _ _
  refine tri_le (Le.rename [] [(0, .s (.sl 4 (Nd.encs l1)))] [] 0 ⟨rfl, trivial⟩ trivial rfl rfl rfl rfl rfl) ?_
  refine tri_seq ?_
  refine tri_region (by exact tokW) (by exact gok) [3] [] rfl ?_
  show Tri _ _ _ _
  refine tri_le (Le.rename [(0, 0)] [(0, .s (.sl 4 (Nd.encs l1))), (3, .orow 0)] [(0, .row 24 4 (Nd.encs []))] 1 ⟨rfl, rfl, trivial⟩ ⟨rfl, ⟨_, rfl, congrArg (Ob.row 24 4) (by simp [List.map_append, List.map_take, List.map_drop, irow, brow, b8of_row, List.map_cons, List.map_nil, b8of_wrap, Nd.encs_eq, Nd.enc, enc_13_node_kind, enc_node_checker, enc_node_inner, enc_diff_grid, enc_s_int, enc_node_open, enc_2_int])⟩, trivial⟩ rfl rfl rfl rfl rfl) ?_
  refine tri_seq ?_
  refine tri_seq ?_
  refine tri_region (by exact tokW) (by exact gok) [] [6] rfl ?_
  intro n2 hn2
  obtain rfl : (l1.length : Int) = n2 := (hn2.trans (congrArg (fun m : Nat => (m : Int)) (rlen Nd.encs_eq l1))).symm
  show Tri _ _ _ _
  obtain ⟨l6, hl, h⟩ := bind_out h
  refine tri_post ⟨ofL [(3, .orow 0)], ofH [(0, .row 24 4 (Nd.encs l6))], 1⟩ ?_ (fun σ' hle => ?_)
  · refine tri_block (tri_loopI (X := Nat × Int × (List Nd)) (fun y => match y with | (k, x4, l5) => ⟨ofL [(0, .s (.sl 4 (Nd.encs l1))), (3, .orow 0), (6, .s (.int .i64 (l1.length : Int))), (7, .s (.int .i64 x4))], ofH [(0, .row 24 4 (Nd.encs l5))], 1⟩) (fun y => m_deep_Nodes_l1 l1 y.1 y.2.1 y.2.2 = some l6) (fun y => y.1) (n, 0, []) hl ?_ ?_)
    · exact (Le.rename [(0, 0)] _ _ _ ⟨rfl, rfl, rfl, rfl, trivial⟩ ⟨rfl, ⟨_, rfl, rfl⟩, trivial⟩ rfl rfl rfl rfl rfl)
    · rintro ⟨k, x4, l5⟩ h
      cases k with
      | zero => cases h
      | succ k =>
        replace h : m_deep_Nodes_l1 l1 (k+1) x4 l5 = some l6 := h
        rw [m_deep_Nodes_l1] at h
        refine tri_seq ?_
        refine tri_region (by exact tokW) (by exact gok) [] [] rfl ?_
        show Tri _ _ _ _
        refine tri_seq ?_
        refine tri_cond rfl (fun hb => ?_) (fun hb => ?_)
        · replace h := bif_t hb h
          refine tri_skip ?_
          show Tri _ _ _ _
          refine tri_seq ?_
          refine tri_block ?_
          refine tri_seq ?_
          refine tri_region (by exact tokW) (by exact gok) [] [] rfl ?_
          show Tri _ _ _ _
          refine tri_region (by exact tokW) (by exact gok) [17] [13, 16] rfl ?_
          obtain ⟨⟨e7_kind, e7_text, e7_cols, e7_kids⟩, he7, h⟩ := bind_out h
          refine And.intro (at_ok Nd.encs_eq he7).1 ?_
          intro r8 hr8
          obtain rfl : [.int .i64 e7_kind, .str e7_text, .int .i64 e7_cols, .sl 4 (Nd.encs e7_kids)] = r8 := (hr8.trans (at_ok Nd.encs_eq he7).2.1).symm
          obtain ⟨⟨y9_kind, y9_text, y9_cols, y9_kids⟩, hy9, h⟩ := bind_out h
          refine ⟨_, ⟨_, _, hy9, rfl, rfl⟩, ?_⟩
          intro r10 hr10
          obtain rfl : Nd.encs [Nd.mk y9_kind y9_text y9_cols y9_kids] = r10 := (hr10.trans (by simp [List.map_append, List.map_take, List.map_drop, irow, brow, b8of_row, List.map_cons, List.map_nil, b8of_wrap, Nd.encs_eq, Nd.enc, enc_13_node_kind, enc_node_checker, enc_node_inner, enc_diff_grid, enc_s_int, enc_node_open, enc_2_int])).symm
          obtain ⟨hq, h⟩ := req_out h
          refine And.intro (show ((Nd.encs l5).length + (Nd.encs [Nd.mk y9_kind y9_text y9_cols y9_kids]).length) * 56 ≤ 140737488355328 ∧ (Nd.encs l5).length + (Nd.encs [Nd.mk y9_kind y9_text y9_cols y9_kids]).length ≤ 9223372036854775807 from by simp only [List.length_append, List.length_cons, List.length_nil, List.length_map, rlen Nd.encs_eq] at hq ⊢; omega) ?_
          show Tri _ _ _ _
          refine tri_le (Le.rename [(1, 0)] [(0, .s (.sl 4 (Nd.encs l1))), (3, .orow 0), (6, .s (.int .i64 (l1.length : Int))), (7, .s (.int .i64 x4))] [(0, .row 24 4 (Nd.encs (l5 ++ [Nd.mk y9_kind y9_text y9_cols y9_kids])))] 1 ⟨rfl, rfl, rfl, rfl, trivial⟩ ⟨rfl, ⟨_, rfl, congrArg (Ob.row 24 4) (by simp [List.map_append, List.map_take, List.map_drop, irow, brow, b8of_row, List.map_cons, List.map_nil, b8of_wrap, Nd.encs_eq, Nd.enc, enc_13_node_kind, enc_node_checker, enc_node_inner, enc_diff_grid, enc_s_int, enc_node_open, enc_2_int])⟩, trivial⟩ rfl rfl rfl rfl rfl) ?_
          refine tri_region (by exact tokW) (by exact gok) [] [] rfl ?_
          refine ⟨(k, IntKind.i64.wrap (x4 + 1), l5 ++ [Nd.mk y9_kind y9_text y9_cols y9_kids]), h, (Le.rename [(0, 0)] _ _ _ ⟨rfl, rfl, rfl, rfl, trivial⟩ ⟨rfl, ⟨_, rfl, rfl⟩, trivial⟩ rfl rfl rfl rfl rfl), Nat.lt_succ_self k⟩
        · replace h := bif_f hb h
          refine tri_exit ?_
          cases h
          exact (Le.rename [(0, 0)] _ _ _ ⟨rfl, trivial⟩ ⟨rfl, ⟨_, rfl, rfl⟩, trivial⟩ rfl rfl rfl rfl rfl)
  · show Tri _ _ _ _
    refine tri_le hle ?_
    refine tri_seq ?_
    refine tri_region (by exact tokW) (by exact gok) [] [] rfl ?_
    show Tri _ _ _ _
    refine tri_ret ?_
    have hy := Option.some.inj h
    subst hy
    unfold Gives
    exact ⟨_, Le.refl _ _, 0, rfl, rfl⟩
def R_deep_Ints (xs : List AV) (r : Ret) : Prop := ∃ (a0 : List Int) (y0 : List Int), m_deep_Ints a0 = some y0 ∧ xs = [.s (.sl 1 ((List.map (irow .i64)) a0))] ∧ r = .val (.s (.sl 1 ((List.map (irow .i64)) y0)))
def S_deep_Ints : PSpec := pspec fun xs r => R_deep_Ints xs r
set_option maxHeartbeats 2000000 in
set_option maxRecDepth 100000 in
theorem ok_deep_Ints : PSound Tryd.prog 73 S_deep_Ints := by
  have gok : ∀ f s, look? f [(79, S_slices_Clone_sint)] = some s → PSound Tryd.prog f s := look_all (by
    simp only [List.forall_mem_cons]
    exact ⟨ok_slices_Clone_sint, by simp⟩)
  refine psound tokW Tryd.call73 Tryd.func73 rfl (fun xs r h => by obtain ⟨_, _, _, rfl, _⟩ := h; show 1 ≤ 5; decide) 5 rfl ?_
  rintro xs r w0 G0 ⟨l1, y0, h, rfl, rfl⟩ _
  rw [m_deep_Ints] at h
  refine tri_seq ?_
  refine tri_region (by exact tokW) (by exact gok) [] [] rfl ?_
  show Tri _ _ _ _
  refine tri_seq ?_
  refine tri_region (by exact tokW) (by exact gok) [] [] rfl ?_
  obtain ⟨y2, hy2, h⟩ := bind_out h
  refine ⟨_, ⟨_, _, hy2, rfl, rfl⟩, ?_⟩
  show Tri _ _ _ _
  refine tri_ret ?_
  have hy := Option.some.inj h
  subst hy
  unfold Gives
  exact ⟨_, Le.refl _ _, rfl, rfl⟩
def enc_api_Conflict (p : (List Int × Int × Int × List Nd × List Nd)) : List S := [.sl 1 ((List.map (irow .i64)) p.1), .int .i64 p.2.1, .int .i64 p.2.2.1, .sl 4 (Nd.encs p.2.2.2.1), .sl 4 (Nd.encs p.2.2.2.2)]
def enc_3_s_api_Node (p : (List Nd × List Nd × List Nd)) : List S := [.sl 4 (Nd.encs p.1), .sl 4 (Nd.encs p.2.1), .sl 4 (Nd.encs p.2.2)]
def enc_merge_merger (p : (Int × List (List Int × Int × Int × List Nd × List Nd))) : List S := [.int .i64 p.1, .sl 5 ((List.map enc_api_Conflict) p.2)]
def R_merge_merger_conflict (n : Nat) (xs : List AV) (os : List Ob) (x : AV) (os' : List (Option Ob)) : Prop := ∃ (a0 : (Int × List (List Int × Int × Int × List Nd × List Nd))) (a1 : List Int) (a2 : Int) (a3 : (List Nd × List Nd × List Nd)) (y0 : List Nd) (z0 : (Int × List (List Int × Int × Int × List Nd × List Nd))), m_merge_merger_conflict n a0 a1 a2 a3 = some (y0, z0) ∧ xs = [.op 0 0, .s (.sl 1 ((List.map (irow .i64)) a1)), .s (.int .i64 a2), .agg ((enc_3_s_api_Node a3).map .s)] ∧ os = [.box 48 (((enc_merge_merger a0).map .s).set 1 (.orow 1)), .row 35 5 ((List.map enc_api_Conflict) a0.2)] ∧ x = .s (.sl 4 (Nd.encs y0)) ∧ os' = [some (.box 48 (((enc_merge_merger z0).map .s).set 1 (.orow 2))), none, some (.row 35 5 ((List.map enc_api_Conflict) z0.2))]
def S_merge_merger_conflict : PSpec := ospec (fun xs os x os' => ∃ n, R_merge_merger_conflict n xs os x os')
set_option maxHeartbeats 2000000 in
set_option maxRecDepth 100000 in
theorem ok_merge_merger_conflict : PSound Tryd.prog 59 S_merge_merger_conflict := by
  have gok : ∀ f s, look? f [(73, S_deep_Ints), (58, S_deep_Nodes)] = some s → PSound Tryd.prog f s := look_all (by
    simp only [List.forall_mem_cons]
    exact ⟨ok_deep_Ints, ok_deep_Nodes, by simp⟩)
  refine PSound.withNil (osound tokW Tryd.call59 Tryd.func59 rfl (fun xs os x os' h => by obtain ⟨n, _, _, _, _, _, _, _, rfl, rfl, _, rfl⟩ := h; exact ⟨by show 4 ≤ 40; decide, by show 2 ≤ 3; decide⟩) 40 rfl ?_) _
  rintro xs os x os' w0 G0 B0 ⟨n, ⟨o1_take, o1_conflicts⟩, path2, from3, ⟨part4_0, part4_1, part4_2⟩, y0, z0, h, rfl, rfl, rfl, rfl⟩ _
  rw [m_merge_merger_conflict] at h
  refine tri_seq ?_
  refine tri_region (by exact tokW) (by exact gok) [] [] rfl ?_
  show Tri _ _ _ _
  refine tri_seq ?_
  refine tri_drawn (by exact tokW) (by exact gok) (by exact mixed) [30] [20, 29] [4, 21, 24] rfl (by decide +kernel) ?_
  obtain ⟨y5, hy5, h⟩ := bind_out h
  refine ⟨_, ⟨_, _, hy5, rfl, rfl⟩, ?_⟩
  refine And.intro (by decide) ?_
  intro n6 hn6
  obtain rfl : (part4_0.length : Int) = n6 := (hn6.trans (congrArg (fun m : Nat => (m : Int)) (rlen Nd.encs_eq part4_0))).symm
  refine And.intro (by decide) ?_
  obtain ⟨y7, hy7, h⟩ := bind_out h
  refine ⟨_, ⟨_, _, _, hy7, rfl, rfl⟩, ?_⟩
  refine And.intro (by decide) ?_
  obtain ⟨y8, hy8, h⟩ := bind_out h
  refine ⟨_, ⟨_, _, _, hy8, rfl, rfl⟩, ?_⟩
  intro r9 hr9
  obtain rfl : (List.map enc_api_Conflict) [(y5, from3, IntKind.i64.wrap (from3 + (part4_0.length : Int)), y7, y8)] = r9 := (hr9.trans (by simp [List.map_append, List.map_take, List.map_drop, irow, brow, b8of_row, List.map_cons, List.map_nil, b8of_wrap, Nd.encs_eq, Nd.enc, enc_13_node_kind, enc_node_checker, enc_node_inner, enc_diff_grid, enc_s_int, enc_node_open, enc_2_int, enc_api_Conflict])).symm
  obtain ⟨hq, h⟩ := req_out h
  refine And.intro (show (((List.map enc_api_Conflict) o1_conflicts).length + ((List.map enc_api_Conflict) [(y5, from3, IntKind.i64.wrap (from3 + (part4_0.length : Int)), y7, y8)]).length) * 88 ≤ 140737488355328 ∧ ((List.map enc_api_Conflict) o1_conflicts).length + ((List.map enc_api_Conflict) [(y5, from3, IntKind.i64.wrap (from3 + (part4_0.length : Int)), y7, y8)]).length ≤ 9223372036854775807 from by simp only [List.length_append, List.length_cons, List.length_nil, List.length_map, rlen (fun _ => rfl)] at hq ⊢; omega) ?_
  show Tri _ _ _ _
  refine tri_le (Le.rename [(0, 0), (2, 2)] [(0, .op 0 0), (7, .s (.pt [.sl 4 (Nd.encs part4_0), .sl 4 (Nd.encs part4_1), .sl 4 (Nd.encs part4_2)]))] [(0, .box 48 [.s (.int .i64 o1_take), .orow 2]), (2, .row 35 5 ((List.map enc_api_Conflict) (o1_conflicts ++ [(y5, from3, IntKind.i64.wrap (from3 + (part4_0.length : Int)), y7, y8)])))] 3 ⟨rfl, rfl, trivial⟩ ⟨rfl, ⟨_, rfl, rfl⟩, rfl, ⟨_, rfl, congrArg (Ob.row 35 5) (by simp [List.map_append, List.map_take, List.map_drop, irow, brow, b8of_row, List.map_cons, List.map_nil, b8of_wrap, Nd.encs_eq, Nd.enc, enc_13_node_kind, enc_node_checker, enc_node_inner, enc_diff_grid, enc_s_int, enc_node_open, enc_2_int, enc_api_Conflict])⟩, trivial⟩ rfl rfl rfl rfl rfl) ?_
  refine tri_seq ?_
  refine tri_region (by exact tokW) (by exact gok) [] [36] rfl ?_
  intro vsp hvsp
  cases hc : (o1_take == 0) with
  | true =>
    replace h := bif_t hc h
    obtain rfl : (0 : Int) = vsp := (hvsp.trans (eq_of_beq hc)).symm
    refine And.intro (by decide) ?_
    obtain ⟨y10, hy10, h⟩ := bind_out h
    refine ⟨_, ⟨_, _, _, hy10, rfl, rfl⟩, ?_⟩
    show Tri _ _ _ _
    refine tri_ret ?_
    obtain ⟨hj1, hk1⟩ := Prod.mk.inj (Option.some.inj h)
    subst hj1
    subst hk1
    unfold GivesO
    exact ⟨_, (Le.rename [(0, 0), (2, 2)] [(8, .s (.sl 4 (Nd.encs y10)))] [(0, .box 48 [.s (.int .i64 o1_take), .orow 2]), (2, .row 35 5 ((List.map enc_api_Conflict) (o1_conflicts ++ [(y5, from3, IntKind.i64.wrap (from3 + (part4_0.length : Int)), y7, y8)])))] 3 ⟨rfl, trivial⟩ ⟨rfl, ⟨_, rfl, rfl⟩, rfl, ⟨_, rfl, rfl⟩, trivial⟩ rfl rfl rfl rfl rfl), rfl, rfl, rfl, rfl, rfl, rfl, trivial⟩
  | false =>
    replace h := bif_f hc h
    cases hc : (o1_take == 1) with
    | true =>
      replace h := bif_t hc h
      obtain rfl : (1 : Int) = vsp := (hvsp.trans (eq_of_beq hc)).symm
      refine And.intro (by decide) ?_
      obtain ⟨y11, hy11, h⟩ := bind_out h
      refine ⟨_, ⟨_, _, _, hy11, rfl, rfl⟩, ?_⟩
      show Tri _ _ _ _
      refine tri_ret ?_
      obtain ⟨hj1, hk1⟩ := Prod.mk.inj (Option.some.inj h)
      subst hj1
      subst hk1
      unfold GivesO
      exact ⟨_, (Le.rename [(0, 0), (2, 2)] [(8, .s (.sl 4 (Nd.encs y11)))] [(0, .box 48 [.s (.int .i64 o1_take), .orow 2]), (2, .row 35 5 ((List.map enc_api_Conflict) (o1_conflicts ++ [(y5, from3, IntKind.i64.wrap (from3 + (part4_0.length : Int)), y7, y8)])))] 3 ⟨rfl, trivial⟩ ⟨rfl, ⟨_, rfl, rfl⟩, rfl, ⟨_, rfl, rfl⟩, trivial⟩ rfl rfl rfl rfl rfl), rfl, rfl, rfl, rfl, rfl, rfl, trivial⟩
    | false =>
      replace h := bif_f hc h
      cases hc : (o1_take == 2) with
      | true =>
        replace h := bif_t hc h
        obtain rfl : (2 : Int) = vsp := (hvsp.trans (eq_of_beq hc)).symm
        refine And.intro (by decide) ?_
        obtain ⟨y12, hy12, h⟩ := bind_out h
        refine ⟨_, ⟨_, _, _, hy12, rfl, rfl⟩, ?_⟩
        show Tri _ _ _ _
        refine tri_ret ?_
        obtain ⟨hj1, hk1⟩ := Prod.mk.inj (Option.some.inj h)
        subst hj1
        subst hk1
        unfold GivesO
        exact ⟨_, (Le.rename [(0, 0), (2, 2)] [(8, .s (.sl 4 (Nd.encs y12)))] [(0, .box 48 [.s (.int .i64 o1_take), .orow 2]), (2, .row 35 5 ((List.map enc_api_Conflict) (o1_conflicts ++ [(y5, from3, IntKind.i64.wrap (from3 + (part4_0.length : Int)), y7, y8)])))] 3 ⟨rfl, trivial⟩ ⟨rfl, ⟨_, rfl, rfl⟩, rfl, ⟨_, rfl, rfl⟩, trivial⟩ rfl rfl rfl rfl rfl), rfl, rfl, rfl, rfl, rfl, rfl, trivial⟩
      | false =>
        replace h := bif_f hc h
        cases h
def R_merge_merger_part (n : Nat) (xs : List AV) (os : List Ob) (x : AV) (os' : List (Option Ob)) : Prop := ∃ (a0 : (Int × List (List Int × Int × Int × List Nd × List Nd))) (a1 : List Int) (a2 : Int) (a3 : (List Nd × List Nd × List Nd)) (y0 : List Nd) (z0 : (Int × List (List Int × Int × Int × List Nd × List Nd))), m_merge_merger_part n a0 a1 a2 a3 = some (y0, z0) ∧ xs = [.op 0 0, .s (.sl 1 ((List.map (irow .i64)) a1)), .s (.int .i64 a2), .agg ((enc_3_s_api_Node a3).map .s)] ∧ os = [.box 48 (((enc_merge_merger a0).map .s).set 1 (.orow 1)), .row 35 5 ((List.map enc_api_Conflict) a0.2)] ∧ x = .s (.sl 4 (Nd.encs y0)) ∧ os' = [some (.box 48 (((enc_merge_merger z0).map .s).set 1 (.orow 2))), none, some (.row 35 5 ((List.map enc_api_Conflict) z0.2))]
def S_merge_merger_part : PSpec := ospec (fun xs os x os' => ∃ n, R_merge_merger_part n xs os x os')
set_option maxHeartbeats 2000000 in
set_option maxRecDepth 100000 in
theorem ok_merge_merger_part : PSound Tryd.prog 42 S_merge_merger_part := by
  have gok : ∀ f s, look? f [(57, S_merge_same), (58, S_deep_Nodes), (59, S_merge_merger_conflict)] = some s → PSound Tryd.prog f s := look_all (by
    simp only [List.forall_mem_cons]
    exact ⟨ok_merge_same, ok_deep_Nodes, ok_merge_merger_conflict, by simp⟩)
  refine PSound.withNil (osound tokW Tryd.call42 Tryd.func42 rfl (fun xs os x os' h => by obtain ⟨n, _, _, _, _, _, _, _, rfl, rfl, _, rfl⟩ := h; exact ⟨by show 4 ≤ 40; decide, by show 2 ≤ 3; decide⟩) 40 rfl ?_) _
  rintro xs os x os' w0 G0 B0 ⟨n, ⟨o1_take, o1_conflicts⟩, path2, from3, ⟨part4_0, part4_1, part4_2⟩, y0, z0, h, rfl, rfl, rfl, rfl⟩ _
  rw [m_merge_merger_part] at h
  refine tri_seq ?_
  refine tri_region (by exact tokW) (by exact gok) [] [] rfl ?_
  show Tri _ _ _ _
  refine tri_seq ?_
  refine tri_drawn (by exact tokW) (by exact gok) (by exact mixed) [] [] [] rfl (by decide +kernel) ?_
  refine And.intro (by decide) ?_
  refine And.intro (by decide) ?_
  refine And.intro (by decide) ?_
  show Tri _ _ _ _
  refine tri_seq ?_
  refine tri_block ?_
  refine tri_seq ?_
  refine tri_region (by exact tokW) (by exact gok) [] [] rfl ?_
  obtain ⟨y5, hy5, h⟩ := bind_out h
  refine ⟨_, ⟨_, _, _, _, hy5, rfl, rfl⟩, ?_⟩
  show Tri _ _ _ _
  refine tri_cond rfl (fun hb => ?_) (fun hb => ?_)
  · replace h := bif_t hb h
    refine tri_seq ?_
    refine tri_region (by exact tokW) (by exact gok) [] [] rfl ?_
    obtain ⟨y6, hy6, h⟩ := bind_out h
    refine ⟨_, ⟨_, _, _, hy6, rfl, rfl⟩, ?_⟩
    show Tri _ _ _ _
    refine tri_ret ?_
    obtain ⟨hj1, hk1⟩ := Prod.mk.inj (Option.some.inj h)
    subst hj1
    subst hk1
    unfold GivesO
    exact ⟨_, (Le.rename [(0, 0), (1, 2)] [(8, .s (.sl 4 (Nd.encs y6)))] [(0, .box 48 [.s (.int .i64 o1_take), .orow 2]), (2, .row 35 5 ((List.map enc_api_Conflict) o1_conflicts))] 3 ⟨rfl, trivial⟩ ⟨rfl, ⟨_, rfl, rfl⟩, rfl, ⟨_, rfl, rfl⟩, trivial⟩ rfl rfl rfl rfl rfl), rfl, rfl, rfl, rfl, rfl, rfl, trivial⟩
  · replace h := bif_f hb h
    refine tri_seq ?_
    obtain ⟨x7, hj, h⟩ := bind_out h
    refine tri_post ⟨ofL [(0, .op 0 0), (1, .s (.sl 1 ((List.map (irow .i64)) path2))), (2, .s (.int .i64 from3)), (7, .s (.pt [.sl 4 (Nd.encs part4_0), .sl 4 (Nd.encs part4_1), .sl 4 (Nd.encs part4_2)])), (10, .s (.sl 4 (Nd.encs part4_1))), (24, .s (.bool x7))], ofH [(0, .box 48 [.s (.int .i64 o1_take), .orow 2]), (2, .row 35 5 ((List.map enc_api_Conflict) o1_conflicts))], 3⟩ ?_ (fun σ' hle => ?_)
    · replace h := hj
      refine tri_region (by exact tokW) (by exact gok) [] [28] rfl ?_
      obtain ⟨y8, hy8, h⟩ := bind_out h
      refine ⟨_, ⟨_, _, _, _, hy8, rfl, rfl⟩, ?_⟩
      intro b hb
      cases b with
      | true =>
        replace h := bif_t hb.symm h
        cases h
        exact (Le.rename [(0, 0), (1, 2)] _ _ _ ⟨rfl, rfl, rfl, rfl, rfl, rfl, trivial⟩ ⟨rfl, ⟨_, rfl, rfl⟩, rfl, ⟨_, rfl, rfl⟩, trivial⟩ rfl rfl rfl rfl rfl)
      | false =>
        replace h := bif_f hb.symm h
        obtain ⟨y9, hy9, h⟩ := bind_out h
        refine ⟨_, ⟨_, _, _, _, hy9, rfl, rfl⟩, ?_⟩
        cases h
        exact (Le.rename [(0, 0), (1, 2)] _ _ _ ⟨rfl, rfl, rfl, rfl, rfl, rfl, trivial⟩ ⟨rfl, ⟨_, rfl, rfl⟩, rfl, ⟨_, rfl, rfl⟩, trivial⟩ rfl rfl rfl rfl rfl)
    · show Tri _ _ _ _
      refine tri_le hle ?_
      refine tri_cond rfl (fun hb => ?_) (fun hb => ?_)
      · replace h := bif_t hb h
        refine tri_seq ?_
        refine tri_region (by exact tokW) (by exact gok) [] [] rfl ?_
        obtain ⟨y10, hy10, h⟩ := bind_out h
        refine ⟨_, ⟨_, _, _, hy10, rfl, rfl⟩, ?_⟩
        show Tri _ _ _ _
        refine tri_ret ?_
        obtain ⟨hj1, hk1⟩ := Prod.mk.inj (Option.some.inj h)
        subst hj1
        subst hk1
        unfold GivesO
        exact ⟨_, (Le.rename [(0, 0), (2, 2)] [(8, .s (.sl 4 (Nd.encs y10)))] [(0, .box 48 [.s (.int .i64 o1_take), .orow 2]), (2, .row 35 5 ((List.map enc_api_Conflict) o1_conflicts))] 3 ⟨rfl, trivial⟩ ⟨rfl, ⟨_, rfl, rfl⟩, rfl, ⟨_, rfl, rfl⟩, trivial⟩ rfl rfl rfl rfl rfl), rfl, rfl, rfl, rfl, rfl, rfl, trivial⟩
      · replace h := bif_f hb h
        refine tri_skip ?_
        show Tri _ _ _ _
        refine tri_seq ?_
        refine tri_region (by exact tokW) (by exact gok) [] [] rfl ?_
        obtain ⟨⟨y11, ⟨w12_take, w12_conflicts⟩⟩, hy11, h⟩ := bind_out h
        refine ⟨_, _, ⟨_, _, _, _, _, _, _, hy11, rfl, rfl, rfl, rfl⟩, ?_⟩
        show Tri _ _ _ _
        refine tri_ret ?_
        obtain ⟨hj1, hk1⟩ := Prod.mk.inj (Option.some.inj h)
        subst hj1
        subst hk1
        unfold GivesO
        exact ⟨_, (Le.rename [(0, 0), (3, 2)] [(8, .s (.sl 4 (Nd.encs y11)))] [(0, .box 48 [.s (.int .i64 w12_take), .orow 2]), (2, .row 35 5 ((List.map enc_api_Conflict) w12_conflicts))] 3 ⟨rfl, trivial⟩ ⟨rfl, ⟨_, rfl, rfl⟩, rfl, ⟨_, rfl, rfl⟩, trivial⟩ rfl rfl rfl rfl rfl), rfl, rfl, rfl, rfl, rfl, rfl, trivial⟩
def R_slices_Concat_sint (n : Nat) (xs : List AV) (r : Ret) : Prop := ∃ (a0 : List (List Int)) (y0 : List Int), m_slices_Concat_sint n a0 = some y0 ∧ xs = [.s (.sl 1 ((List.map enc_s_int) a0))] ∧ r = .row 3 1 ((List.map (irow .i64)) y0)
def S_slices_Concat_sint : PSpec := pspec fun xs r => ∃ n, R_slices_Concat_sint n xs r
set_option maxHeartbeats 2000000 in
set_option maxRecDepth 100000 in
theorem ok_slices_Concat_sint : PSound Tryd.prog 60 S_slices_Concat_sint := by
  have gok : ∀ f s, look? f [(74, S_slices_Grow_sint)] = some s → PSound Tryd.prog f s := look_all (by
    simp only [List.forall_mem_cons]
    exact ⟨ok_slices_Grow_sint, by simp⟩)
  refine psound tokW Tryd.call60 Tryd.func60 rfl (fun xs r h => by obtain ⟨n, _, _, _, rfl, _⟩ := h; show 1 ≤ 36; decide) 36 rfl ?_
  rintro xs r w0 G0 ⟨n, slices1, y0, h, rfl, rfl⟩ _
  rw [m_slices_Concat_sint] at h
  refine tri_seq ?_
  refine tri_region (by exact tokW) (by exact gok) [2] [] rfl ?_
  show Tri _ _ _ _
  refine tri_le (Le.rename [] [(0, .s (.sl 1 ((List.map enc_s_int) slices1)))] [] 0 ⟨rfl, trivial⟩ trivial rfl rfl rfl rfl rfl) ?_
  refine tri_seq ?_
  refine tri_region (by exact tokW) (by exact gok) [] [] rfl ?_
  show Tri _ _ _ _
  refine tri_seq ?_
  refine tri_seq ?_
  refine tri_region (by exact tokW) (by exact gok) [] [10] rfl ?_
  intro n2 hn2
  obtain rfl : (slices1.length : Int) = n2 := (hn2.trans (congrArg (fun m : Nat => (m : Int)) (rlen (fun _ => rfl) slices1))).symm
  show Tri _ _ _ _
  obtain ⟨size5, hl, h⟩ := bind_out h
  refine tri_post ⟨ofL [(0, .s (.sl 1 ((List.map enc_s_int) slices1))), (3, .s (.int .i64 size5))], fun _ => none, 0⟩ ?_ (fun σ' hle => ?_)
  · refine tri_block (tri_loopI (X := Nat × Int × Int) (fun y => match y with | (k, x3, size4) => ⟨ofL [(0, .s (.sl 1 ((List.map enc_s_int) slices1))), (3, .s (.int .i64 size4)), (9, .s (.sl 1 ((List.map enc_s_int) slices1))), (10, .s (.int .i64 (slices1.length : Int))), (11, .s (.int .i64 x3))], fun _ => none, 0⟩) (fun y => m_slices_Concat_sint_l1 slices1 y.1 y.2.1 y.2.2 = some size5) (fun y => y.1) (n, 0, 0) hl ?_ ?_)
    · exact (Le.forget _ ⟨rfl, rfl, rfl, rfl, rfl, trivial⟩)
    · rintro ⟨k, x3, size4⟩ h
      cases k with
      | zero => cases h
      | succ k =>
        replace h : m_slices_Concat_sint_l1 slices1 (k+1) x3 size4 = some size5 := h
        rw [m_slices_Concat_sint_l1] at h
        refine tri_seq ?_
        refine tri_region (by exact tokW) (by exact gok) [] [] rfl ?_
        show Tri _ _ _ _
        refine tri_seq ?_
        refine tri_cond rfl (fun hb => ?_) (fun hb => ?_)
        · replace h := bif_t hb h
          refine tri_skip ?_
          show Tri _ _ _ _
          refine tri_seq ?_
          refine tri_block ?_
          refine tri_seq ?_
          refine tri_region (by exact tokW) (by exact gok) [] [13] rfl ?_
          obtain ⟨e6, he6, h⟩ := bind_out h
          refine And.intro (at_ok (fun _ => rfl) he6).1 ?_
          intro r7 hr7
          obtain rfl : [.sl 1 ((List.map (irow .i64)) e6)] = r7 := (hr7.trans (at_ok (fun _ => rfl) he6).2.1).symm
          show Tri _ _ _ _
          refine tri_seq ?_
          refine tri_region (by exact tokW) (by exact gok) [] [17] rfl ?_
          intro n8 hn8
          obtain rfl : (e6.length : Int) = n8 := (hn8.trans (congrArg (fun m : Nat => (m : Int)) (rlen (fun _ => rfl) e6))).symm
          show Tri _ _ _ _
          refine tri_seq ?_
          refine tri_region (by exact tokW) (by exact gok) [] [] rfl ?_
          show Tri _ _ _ _
          refine tri_cond rfl (fun hb => ?_) (fun hb => ?_)
          · replace h := bif_t hb h
            cases h
          · replace h := bif_f hb h
            refine tri_skip ?_
            show Tri _ _ _ _
            refine tri_region (by exact tokW) (by exact gok) [] [] rfl ?_
            refine ⟨(k, IntKind.i64.wrap (x3 + 1), IntKind.i64.wrap (size4 + (e6.length : Int))), h, (Le.forget _ ⟨rfl, rfl, rfl, rfl, rfl, trivial⟩), Nat.lt_succ_self k⟩
        · replace h := bif_f hb h
          refine tri_exit ?_
          cases h
          exact (Le.forget _ ⟨rfl, rfl, trivial⟩)
  · show Tri _ _ _ _
    refine tri_le hle ?_
    refine tri_seq ?_
    refine tri_region (by exact tokW) (by exact gok) [24] [] rfl ?_
    obtain ⟨y9, hy9, h⟩ := bind_out h
    refine ⟨_, ⟨_, _, hy9, rfl, rfl⟩, ?_⟩
    show Tri _ _ _ _
    refine tri_seq ?_
    refine tri_seq ?_
    refine tri_region (by exact tokW) (by exact gok) [] [26] rfl ?_
    intro n10 hn10
    obtain rfl : (slices1.length : Int) = n10 := (hn10.trans (congrArg (fun m : Nat => (m : Int)) (rlen (fun _ => rfl) slices1))).symm
    show Tri _ _ _ _
    obtain ⟨l14, hl, h⟩ := bind_out h
    refine tri_post ⟨ofL [(6, .orow 0)], ofH [(0, .row 3 1 ((List.map (irow .i64)) l14))], 1⟩ ?_ (fun σ' hle => ?_)
    · refine tri_block (tri_loopI (X := Nat × Int × (List Int)) (fun y => match y with | (k, x11, l13) => ⟨ofL [(6, .orow 0), (25, .s (.sl 1 ((List.map enc_s_int) slices1))), (26, .s (.int .i64 (slices1.length : Int))), (27, .s (.int .i64 x11))], ofH [(0, .row 3 1 ((List.map (irow .i64)) l13))], 1⟩) (fun y => m_slices_Concat_sint_l2 slices1 y.1 y.2.1 y.2.2 = some l14) (fun y => y.1) (n, 0, y9) hl ?_ ?_)
      · exact (Le.rename [(0, 0)] _ _ _ ⟨rfl, rfl, rfl, rfl, trivial⟩ ⟨rfl, ⟨_, rfl, rfl⟩, trivial⟩ rfl rfl rfl rfl rfl)
      · rintro ⟨k, x11, l13⟩ h
        cases k with
        | zero => cases h
        | succ k =>
          replace h : m_slices_Concat_sint_l2 slices1 (k+1) x11 l13 = some l14 := h
          rw [m_slices_Concat_sint_l2] at h
          refine tri_seq ?_
          refine tri_region (by exact tokW) (by exact gok) [] [] rfl ?_
          show Tri _ _ _ _
          refine tri_seq ?_
          refine tri_cond rfl (fun hb => ?_) (fun hb => ?_)
          · replace h := bif_t hb h
            refine tri_skip ?_
            show Tri _ _ _ _
            refine tri_seq ?_
            refine tri_block ?_
            refine tri_seq ?_
            refine tri_region (by exact tokW) (by exact gok) [] [29] rfl ?_
            obtain ⟨e15, he15, h⟩ := bind_out h
            refine And.intro (at_ok (fun _ => rfl) he15).1 ?_
            intro r16 hr16
            obtain rfl : [.sl 1 ((List.map (irow .i64)) e15)] = r16 := (hr16.trans (at_ok (fun _ => rfl) he15).2.1).symm
            show Tri _ _ _ _
            refine tri_region (by exact tokW) (by exact gok) [33] [] rfl ?_
            obtain ⟨hq, h⟩ := req_out h
            refine And.intro (show (((List.map (irow .i64)) l13).length + ((List.map (irow .i64)) e15).length) * 8 ≤ 140737488355328 ∧ ((List.map (irow .i64)) l13).length + ((List.map (irow .i64)) e15).length ≤ 9223372036854775807 from by simp only [List.length_append, List.length_cons, List.length_nil, List.length_map, rlen (fun _ => rfl)] at hq ⊢; omega) ?_
            show Tri _ _ _ _
            refine tri_le (Le.rename [(1, 0)] [(6, .orow 0), (25, .s (.sl 1 ((List.map enc_s_int) slices1))), (26, .s (.int .i64 (slices1.length : Int))), (27, .s (.int .i64 x11))] [(0, .row 3 1 ((List.map (irow .i64)) (l13 ++ e15)))] 1 ⟨rfl, rfl, rfl, rfl, trivial⟩ ⟨rfl, ⟨_, rfl, congrArg (Ob.row 3 1) (by simp [List.map_append, List.map_take, List.map_drop, irow, brow, b8of_row, List.map_cons, List.map_nil, b8of_wrap, Nd.encs_eq, Nd.enc, enc_13_node_kind, enc_node_checker, enc_node_inner, enc_diff_grid, enc_s_int, enc_node_open, enc_2_int, enc_api_Conflict, enc_3_s_api_Node, enc_merge_merger])⟩, trivial⟩ rfl rfl rfl rfl rfl) ?_
            refine tri_region (by exact tokW) (by exact gok) [] [] rfl ?_
            refine ⟨(k, IntKind.i64.wrap (x11 + 1), l13 ++ e15), h, (Le.rename [(0, 0)] _ _ _ ⟨rfl, rfl, rfl, rfl, trivial⟩ ⟨rfl, ⟨_, rfl, rfl⟩, trivial⟩ rfl rfl rfl rfl rfl), Nat.lt_succ_self k⟩
          · replace h := bif_f hb h
            refine tri_exit ?_
            cases h
            exact (Le.rename [(0, 0)] _ _ _ ⟨rfl, trivial⟩ ⟨rfl, ⟨_, rfl, rfl⟩, trivial⟩ rfl rfl rfl rfl rfl)
    · show Tri _ _ _ _
      refine tri_le hle ?_
      refine tri_seq ?_
      refine tri_region (by exact tokW) (by exact gok) [] [] rfl ?_
      show Tri _ _ _ _
      refine tri_ret ?_
      have hy := Option.some.inj h
      subst hy
      unfold Gives
      exact ⟨_, Le.refl _ _, 0, rfl, rfl⟩
def R_merge_merger_item (n : Nat) (xs : List AV) (os : List Ob) (x : AV) (os' : List (Option Ob)) : Prop := ∃ (a0 : (Int × List (List Int × Int × Int × List Nd × List Nd))) (a1 : List Int) (a2 : Int) (a3 : Nd) (a4 : Nd) (a5 : Nd) (y0 : List Nd) (z0 : (Int × List (List Int × Int × Int × List Nd × List Nd))), m_merge_merger_item n a0 a1 a2 a3 a4 a5 = some (y0, z0) ∧ xs = [.op 0 0, .s (.sl 1 ((List.map (irow .i64)) a1)), .s (.int .i64 a2), .agg ((Nd.enc a3).map .s), .agg ((Nd.enc a4).map .s), .agg ((Nd.enc a5).map .s)] ∧ os = [.box 48 (((enc_merge_merger a0).map .s).set 1 (.orow 1)), .row 35 5 ((List.map enc_api_Conflict) a0.2)] ∧ x = .s (.sl 4 (Nd.encs y0)) ∧ os' = [some (.box 48 (((enc_merge_merger z0).map .s).set 1 (.orow 2))), none, some (.row 35 5 ((List.map enc_api_Conflict) z0.2))]
def R_merge_merger_row (n : Nat) (xs : List AV) (os : List Ob) (x : AV) (os' : List (Option Ob)) : Prop := ∃ (a0 : (Int × List (List Int × Int × Int × List Nd × List Nd))) (a1 : List Int) (a2 : List Nd) (a3 : List Nd) (a4 : List Nd) (y0 : List Nd) (z0 : (Int × List (List Int × Int × Int × List Nd × List Nd))), m_merge_merger_row n a0 a1 a2 a3 a4 = some (y0, z0) ∧ xs = [.op 0 0, .s (.sl 1 ((List.map (irow .i64)) a1)), .s (.sl 4 (Nd.encs a2)), .s (.sl 4 (Nd.encs a3)), .s (.sl 4 (Nd.encs a4))] ∧ os = [.box 48 (((enc_merge_merger a0).map .s).set 1 (.orow 1)), .row 35 5 ((List.map enc_api_Conflict) a0.2)] ∧ x = .orow 3 ∧ os' = [some (.box 48 (((enc_merge_merger z0).map .s).set 1 (.orow 2))), none, some (.row 35 5 ((List.map enc_api_Conflict) z0.2)), some (.row 24 4 (Nd.encs y0))]
set_option maxHeartbeats 2000000 in
set_option maxRecDepth 100000 in
theorem step_merge_merger_item (n : Nat) (ih_merge_merger_item : PSound Tryd.prog 43 (ospec (R_merge_merger_item n))) (ih_merge_merger_row : PSound Tryd.prog 30 (ospec (R_merge_merger_row n))) : PSound Tryd.prog 43 (ospec (R_merge_merger_item (n + 1))) := by
  have gok : ∀ f s, look? f [(59, S_merge_merger_conflict), (60, S_slices_Concat_sint), (30, ospec (R_merge_merger_row n))] = some s → PSound Tryd.prog f s := look_all (by
    simp only [List.forall_mem_cons]
    exact ⟨ok_merge_merger_conflict, ok_slices_Concat_sint, ih_merge_merger_row, by simp⟩)
  refine PSound.withNil (osound tokW Tryd.call43 Tryd.func43 rfl (fun xs os x os' h => by obtain ⟨_, _, _, _, _, _, _, _, _, rfl, rfl, _, rfl⟩ := h; exact ⟨by show 6 ≤ 99; decide, by show 2 ≤ 3; decide⟩) 99 rfl ?_) _
  rintro xs os x os' w0 G0 B0 ⟨⟨o1_take, o1_conflicts⟩, a2, a3, ⟨a4_kind, a4_text, a4_cols, a4_kids⟩, ⟨a5_kind, a5_text, a5_cols, a5_kids⟩, ⟨a6_kind, a6_text, a6_cols, a6_kids⟩, y0, z0, h, rfl, rfl, rfl, rfl⟩ _
  rw [m_merge_merger_item] at h
  refine tri_seq ?_
  refine tri_region (by exact tokW) (by exact gok) [] [] rfl ?_
  show Tri _ _ _ _
  refine tri_seq ?_
  refine tri_region (by exact tokW) (by exact gok) [13] [] rfl ?_
  show Tri _ _ _ _
  refine tri_seq ?_
  obtain ⟨fl, hj, ho1⟩ := bind_out h
  refine tri_fl (fl := fl) (fun z => match z with | x7 => ⟨ofL [(0, .op 0 0), (1, .s (.sl 1 ((List.map (irow .i64)) a2))), (2, .s (.int .i64 a3)), (9, .s (.pt [.int .i64 a4_kind, .str a4_text, .int .i64 a4_cols, .sl 4 (Nd.encs a4_kids)])), (10, .s (.pt [.int .i64 a5_kind, .str a5_text, .int .i64 a5_cols, .sl 4 (Nd.encs a5_kids)])), (11, .s (.pt [.int .i64 a6_kind, .str a6_text, .int .i64 a6_cols, .sl 4 (Nd.encs a6_kids)])), (13, .op 3 0)], ofH [(0, .box 48 [.s (.int .i64 o1_take), .orow 2]), (2, .row 35 5 ((List.map enc_api_Conflict) o1_conflicts)), (3, .box 24 [.s (.int .i64 a4_kind), .s (.str x7), .s (.int .i64 a4_cols), .nl 4])], 4⟩) ?_ (fun x7 σ' hz hle => ?_)
  · replace h := hj
    refine tri_block ?_
    refine tri_seq ?_
    refine tri_region (by exact tokW) (by exact gok) [] [] rfl ?_
    show Tri _ _ _ _
    refine tri_cond rfl (fun hb => ?_) (fun hb => ?_)
    · replace h := bif_t hb h
      refine tri_region (by exact tokW) (by exact gok) [] [] rfl ?_
      cases h
      exact ⟨_, rfl, (Le.rename [(0, 0), (1, 2), (2, 3)] _ _ _ ⟨rfl, rfl, rfl, rfl, rfl, rfl, rfl, trivial⟩ ⟨rfl, ⟨_, rfl, rfl⟩, rfl, ⟨_, rfl, rfl⟩, rfl, ⟨_, rfl, rfl⟩, trivial⟩ rfl rfl rfl rfl rfl)⟩
    · replace h := bif_f hb h
      refine tri_seq ?_
      obtain ⟨x8, hj, h⟩ := bind_out h
      refine tri_post ⟨ofL [(0, .op 0 0), (1, .s (.sl 1 ((List.map (irow .i64)) a2))), (2, .s (.int .i64 a3)), (9, .s (.pt [.int .i64 a4_kind, .str a4_text, .int .i64 a4_cols, .sl 4 (Nd.encs a4_kids)])), (10, .s (.pt [.int .i64 a5_kind, .str a5_text, .int .i64 a5_cols, .sl 4 (Nd.encs a5_kids)])), (11, .s (.pt [.int .i64 a6_kind, .str a6_text, .int .i64 a6_cols, .sl 4 (Nd.encs a6_kids)])), (13, .op 3 0), (41, .s (.bool x8))], ofH [(0, .box 48 [.s (.int .i64 o1_take), .orow 2]), (2, .row 35 5 ((List.map enc_api_Conflict) o1_conflicts)), (3, .box 24 [.s (.int .i64 a4_kind), .s (.str []), .s (.int .i64 a4_cols), .nl 4])], 4⟩ ?_ (fun σ' hle => ?_)
      · replace h := hj
        refine tri_region (by exact tokW) (by exact gok) [] [47] rfl ?_
        intro b hb
        cases b with
        | true =>
          replace h := bif_t hb.symm h
          cases h
          exact (Le.rename [(0, 0), (1, 2), (2, 3)] _ _ _ ⟨rfl, rfl, rfl, rfl, rfl, rfl, rfl, rfl, trivial⟩ ⟨rfl, ⟨_, rfl, rfl⟩, rfl, ⟨_, rfl, rfl⟩, rfl, ⟨_, rfl, rfl⟩, trivial⟩ rfl rfl rfl rfl rfl)
        | false =>
          replace h := bif_f hb.symm h
          cases h
          exact (Le.rename [(0, 0), (1, 2), (2, 3)] _ _ _ ⟨rfl, rfl, rfl, rfl, rfl, rfl, rfl, rfl, trivial⟩ ⟨rfl, ⟨_, rfl, rfl⟩, rfl, ⟨_, rfl, rfl⟩, rfl, ⟨_, rfl, rfl⟩, trivial⟩ rfl rfl rfl rfl rfl)
      · show Tri _ _ _ _
        refine tri_le hle ?_
        refine tri_cond rfl (fun hb => ?_) (fun hb => ?_)
        · replace h := bif_t hb h
          refine tri_region (by exact tokW) (by exact gok) [] [] rfl ?_
          cases h
          exact ⟨_, rfl, (Le.rename [(0, 0), (2, 2), (3, 3)] _ _ _ ⟨rfl, rfl, rfl, rfl, rfl, rfl, rfl, trivial⟩ ⟨rfl, ⟨_, rfl, rfl⟩, rfl, ⟨_, rfl, rfl⟩, rfl, ⟨_, rfl, rfl⟩, trivial⟩ rfl rfl rfl rfl rfl)⟩
        · replace h := bif_f hb h
          refine tri_seq ?_
          refine tri_region (by exact tokW) (by exact gok) [] [25, 27, 29] rfl ?_
          intro r9 hr9
          obtain rfl : Nd.encs [Nd.mk a4_kind a4_text a4_cols a4_kids] = r9 := (hr9.trans (by simp [List.map_append, List.map_take, List.map_drop, irow, brow, b8of_row, List.map_cons, List.map_nil, b8of_wrap, Nd.encs_eq, Nd.enc, enc_13_node_kind, enc_node_checker, enc_node_inner, enc_diff_grid, enc_s_int, enc_node_open, enc_2_int, enc_api_Conflict, enc_3_s_api_Node, enc_merge_merger])).symm
          intro r10 hr10
          obtain rfl : Nd.encs [Nd.mk a5_kind a5_text a5_cols a5_kids] = r10 := (hr10.trans (by simp [List.map_append, List.map_take, List.map_drop, irow, brow, b8of_row, List.map_cons, List.map_nil, b8of_wrap, Nd.encs_eq, Nd.enc, enc_13_node_kind, enc_node_checker, enc_node_inner, enc_diff_grid, enc_s_int, enc_node_open, enc_2_int, enc_api_Conflict, enc_3_s_api_Node, enc_merge_merger])).symm
          intro r11 hr11
          obtain rfl : Nd.encs [Nd.mk a6_kind a6_text a6_cols a6_kids] = r11 := (hr11.trans (by simp [List.map_append, List.map_take, List.map_drop, irow, brow, b8of_row, List.map_cons, List.map_nil, b8of_wrap, Nd.encs_eq, Nd.enc, enc_13_node_kind, enc_node_checker, enc_node_inner, enc_diff_grid, enc_s_int, enc_node_open, enc_2_int, enc_api_Conflict, enc_3_s_api_Node, enc_merge_merger])).symm
          obtain ⟨⟨y12, ⟨w13_take, w13_conflicts⟩⟩, hy12, h⟩ := bind_out h
          refine ⟨_, _, ⟨_, _, _, _, _, _, _, hy12, rfl, rfl, rfl, rfl⟩, ?_⟩
          show Tri _ _ _ _
          refine tri_ret ?_
          cases h
          replace h : some _ = some _ := ho1
          obtain ⟨hj1, hk1⟩ := Prod.mk.inj (Option.some.inj h)
          subst hj1
          subst hk1
          unfold GivesO
          exact ⟨_, (Le.rename [(0, 0), (4, 2)] [(12, .s (.sl 4 (Nd.encs y12)))] [(0, .box 48 [.s (.int .i64 w13_take), .orow 2]), (2, .row 35 5 ((List.map enc_api_Conflict) w13_conflicts))] 3 ⟨rfl, trivial⟩ ⟨rfl, ⟨_, rfl, rfl⟩, rfl, ⟨_, rfl, rfl⟩, trivial⟩ rfl rfl rfl rfl rfl), rfl, rfl, rfl, rfl, rfl, rfl, trivial⟩
  · subst hz
    replace h := ho1
    show Tri _ _ _ _
    refine tri_le hle ?_
    refine tri_seq ?_
    refine tri_seq ?_
    refine tri_region (by exact tokW) (by exact gok) [] [59] rfl ?_
    intro n14 hn14
    obtain rfl : (a4_kids.length : Int) = n14 := (hn14.trans (congrArg (fun m : Nat => (m : Int)) (rlen Nd.encs_eq a4_kids))).symm
    show Tri _ _ _ _
    obtain ⟨⟨x21, l22, l23⟩, hl, h⟩ := bind_out h
    refine tri_post ⟨ofL [(13, .op 3 0)], ofH [(0, .box 48 [.s (.int .i64 x21), .orow 2]), (2, .row 35 5 ((List.map enc_api_Conflict) l22)), (3, .box 24 [.s (.int .i64 a4_kind), .s (.str x7), .s (.int .i64 a4_cols), .orow 4]), (4, .row 24 4 (Nd.encs l23))], 5⟩ ?_ (fun σ' hle => ?_)
    · refine tri_block (tri_loopI (X := Nat × Int × Int × (List (List Int × Int × Int × List Nd × List Nd)) × (List Nd)) (fun y => match y with | (k, x15, x18, l19, l20) => ⟨ofL [(0, .op 0 0), (1, .s (.sl 1 ((List.map (irow .i64)) a2))), (2, .s (.int .i64 a3)), (9, .s (.pt [.int .i64 a4_kind, .str a4_text, .int .i64 a4_cols, .sl 4 (Nd.encs a4_kids)])), (10, .s (.pt [.int .i64 a5_kind, .str a5_text, .int .i64 a5_cols, .sl 4 (Nd.encs a5_kids)])), (11, .s (.pt [.int .i64 a6_kind, .str a6_text, .int .i64 a6_cols, .sl 4 (Nd.encs a6_kids)])), (13, .op 3 0), (59, .s (.int .i64 (a4_kids.length : Int))), (60, .s (.int .i64 x18))], ofH [(0, .box 48 [.s (.int .i64 x15), .orow 2]), (2, .row 35 5 ((List.map enc_api_Conflict) l19)), (3, .box 24 [.s (.int .i64 a4_kind), .s (.str x7), .s (.int .i64 a4_cols), .orow 4]), (4, .row 24 4 (Nd.encs l20))], 5⟩) (fun y => m_merge_merger_item_l1 (m_merge_merger_row n) n a2 a3 a4_kids a5_kids a6_kids y.1 y.2.1 y.2.2.1 y.2.2.2.1 y.2.2.2.2 = some (x21, l22, l23)) (fun y => y.1) (n, o1_take, 0, o1_conflicts, []) hl ?_ ?_)
      · exact (Le.trans (Le.trans (Le.rename [(0, 0), (2, 2), (3, 3)] [(0, .op 0 0), (1, .s (.sl 1 ((List.map (irow .i64)) a2))), (2, .s (.int .i64 a3)), (9, .s (.pt [.int .i64 a4_kind, .str a4_text, .int .i64 a4_cols, .sl 4 (Nd.encs a4_kids)])), (10, .s (.pt [.int .i64 a5_kind, .str a5_text, .int .i64 a5_cols, .sl 4 (Nd.encs a5_kids)])), (11, .s (.pt [.int .i64 a6_kind, .str a6_text, .int .i64 a6_cols, .sl 4 (Nd.encs a6_kids)])), (13, .op 3 0), (59, .s (.int .i64 (a4_kids.length : Int))), (60, .s (.int .i64 0))] [(0, .box 48 [.s (.int .i64 o1_take), .orow 2]), (2, .row 35 5 ((List.map enc_api_Conflict) o1_conflicts)), (3, .box 24 [.s (.int .i64 a4_kind), .s (.str x7), .s (.int .i64 a4_cols), .nl 4])] 4 ⟨rfl, rfl, rfl, rfl, rfl, rfl, rfl, rfl, rfl, trivial⟩ ⟨rfl, ⟨_, rfl, rfl⟩, rfl, ⟨_, rfl, rfl⟩, rfl, ⟨_, rfl, rfl⟩, trivial⟩ rfl rfl rfl rfl rfl) (Le.takeNil 3 3 24 rfl rfl (by decide))) (Le.rename [(0, 0), (2, 2), (3, 3), (4, 4)] _ _ _ ⟨rfl, rfl, rfl, rfl, rfl, rfl, rfl, rfl, rfl, trivial⟩ ⟨rfl, ⟨_, rfl, rfl⟩, rfl, ⟨_, rfl, rfl⟩, rfl, ⟨_, rfl, rfl⟩, rfl, ⟨_, rfl, congrArg (Ob.row 24 4) (by simp [List.map_append, List.map_take, List.map_drop, irow, brow, b8of_row, List.map_cons, List.map_nil, b8of_wrap, Nd.encs_eq, Nd.enc, enc_13_node_kind, enc_node_checker, enc_node_inner, enc_diff_grid, enc_s_int, enc_node_open, enc_2_int, enc_api_Conflict, enc_3_s_api_Node, enc_merge_merger])⟩, trivial⟩ rfl rfl rfl rfl rfl))
      · rintro ⟨k, x15, x18, l19, l20⟩ h
        cases k with
        | zero => cases h
        | succ k =>
          replace h : m_merge_merger_item_l1 (m_merge_merger_row n) n a2 a3 a4_kids a5_kids a6_kids (k+1) x15 x18 l19 l20 = some (x21, l22, l23) := h
          rw [m_merge_merger_item_l1] at h
          refine tri_seq ?_
          refine tri_region (by exact tokW) (by exact gok) [] [] rfl ?_
          show Tri _ _ _ _
          refine tri_seq ?_
          refine tri_cond rfl (fun hb => ?_) (fun hb => ?_)
          · replace h := bif_t hb h
            refine tri_skip ?_
            show Tri _ _ _ _
            refine tri_seq ?_
            refine tri_block ?_
            refine tri_seq ?_
            refine tri_region (by exact tokW) (by exact gok) [] [] rfl ?_
            show Tri _ _ _ _
            refine tri_seq ?_
            refine tri_drawn (by exact tokW) (by exact gok) (by exact mixed) [] [67, 68, 73, 79, 85] [25] rfl (by decide +kernel) ?_
            intro r24 hr24
            obtain rfl : (List.map (irow .i64)) [a3, x18] = r24 := (hr24.trans (by simp [List.map_append, List.map_take, List.map_drop, irow, brow, b8of_row, List.map_cons, List.map_nil, b8of_wrap, Nd.encs_eq, Nd.enc, enc_13_node_kind, enc_node_checker, enc_node_inner, enc_diff_grid, enc_s_int, enc_node_open, enc_2_int, enc_api_Conflict, enc_3_s_api_Node, enc_merge_merger])).symm
            intro r25 hr25
            obtain rfl : (List.map enc_s_int) [a2, [a3, x18]] = r25 := (hr25.trans (by simp [List.map_append, List.map_take, List.map_drop, irow, brow, b8of_row, List.map_cons, List.map_nil, b8of_wrap, Nd.encs_eq, Nd.enc, enc_13_node_kind, enc_node_checker, enc_node_inner, enc_diff_grid, enc_s_int, enc_node_open, enc_2_int, enc_api_Conflict, enc_3_s_api_Node, enc_merge_merger])).symm
            obtain ⟨y26, hy26, h⟩ := bind_out h
            refine ⟨_, ⟨_, _, _, hy26, rfl, rfl⟩, ?_⟩
            obtain ⟨⟨e27_kind, e27_text, e27_cols, e27_kids⟩, he27, h⟩ := bind_out h
            refine And.intro (at_ok Nd.encs_eq he27).1 ?_
            intro r28 hr28
            obtain rfl : [.int .i64 e27_kind, .str e27_text, .int .i64 e27_cols, .sl 4 (Nd.encs e27_kids)] = r28 := (hr28.trans (at_ok Nd.encs_eq he27).2.1).symm
            obtain ⟨⟨e29_kind, e29_text, e29_cols, e29_kids⟩, he29, h⟩ := bind_out h
            refine And.intro (at_ok Nd.encs_eq he29).1 ?_
            intro r30 hr30
            obtain rfl : [.int .i64 e29_kind, .str e29_text, .int .i64 e29_cols, .sl 4 (Nd.encs e29_kids)] = r30 := (hr30.trans (at_ok Nd.encs_eq he29).2.1).symm
            obtain ⟨⟨e31_kind, e31_text, e31_cols, e31_kids⟩, he31, h⟩ := bind_out h
            refine And.intro (at_ok Nd.encs_eq he31).1 ?_
            intro r32 hr32
            obtain rfl : [.int .i64 e31_kind, .str e31_text, .int .i64 e31_cols, .sl 4 (Nd.encs e31_kids)] = r32 := (hr32.trans (at_ok Nd.encs_eq he31).2.1).symm
            obtain ⟨⟨y33, ⟨w34_take, w34_conflicts⟩⟩, hy33, h⟩ := bind_out h
            refine ⟨_, _, ⟨_, _, _, _, _, _, _, hy33, rfl, rfl, rfl, rfl⟩, ?_⟩
            show Tri _ _ _ _
            refine tri_le (Le.trans (Le.rename [(0, 0), (5, 2), (3, 3), (4, 4), (6, 5)] [(0, .op 0 0), (1, .s (.sl 1 ((List.map (irow .i64)) a2))), (2, .s (.int .i64 a3)), (9, .s (.pt [.int .i64 a4_kind, .str a4_text, .int .i64 a4_cols, .sl 4 (Nd.encs a4_kids)])), (10, .s (.pt [.int .i64 a5_kind, .str a5_text, .int .i64 a5_cols, .sl 4 (Nd.encs a5_kids)])), (11, .s (.pt [.int .i64 a6_kind, .str a6_text, .int .i64 a6_cols, .sl 4 (Nd.encs a6_kids)])), (13, .op 3 0), (15, .orow 5), (59, .s (.int .i64 (a4_kids.length : Int))), (60, .s (.int .i64 x18))] [(0, .box 48 [.s (.int .i64 w34_take), .orow 2]), (2, .row 35 5 ((List.map enc_api_Conflict) w34_conflicts)), (3, .box 24 [.s (.int .i64 a4_kind), .s (.str x7), .s (.int .i64 a4_cols), .orow 4]), (4, .row 24 4 (Nd.encs l20)), (5, .row 24 4 (Nd.encs y33))] 6 ⟨rfl, rfl, rfl, rfl, rfl, rfl, rfl, rfl, rfl, rfl, trivial⟩ ⟨rfl, ⟨_, rfl, rfl⟩, rfl, ⟨_, rfl, rfl⟩, rfl, ⟨_, rfl, rfl⟩, rfl, ⟨_, rfl, rfl⟩, rfl, ⟨_, rfl, rfl⟩, trivial⟩ rfl rfl rfl rfl rfl) (Le.giveRow 5 rfl)) ?_
            refine tri_region (by exact tokW) (by exact gok) [94] [93] rfl ?_
            intro r35 hr35
            obtain rfl : Nd.encs [Nd.mk 1 [] 0 y33] = r35 := (hr35.trans (by simp [List.map_append, List.map_take, List.map_drop, irow, brow, b8of_row, List.map_cons, List.map_nil, b8of_wrap, Nd.encs_eq, Nd.enc, enc_13_node_kind, enc_node_checker, enc_node_inner, enc_diff_grid, enc_s_int, enc_node_open, enc_2_int, enc_api_Conflict, enc_3_s_api_Node, enc_merge_merger])).symm
            obtain ⟨hq, h⟩ := req_out h
            refine And.intro (show ((Nd.encs l20).length + (Nd.encs [Nd.mk 1 [] 0 y33]).length) * 56 ≤ 140737488355328 ∧ (Nd.encs l20).length + (Nd.encs [Nd.mk 1 [] 0 y33]).length ≤ 9223372036854775807 from by simp only [List.length_append, List.length_cons, List.length_nil, List.length_map, rlen Nd.encs_eq] at hq ⊢; omega) ?_
            show Tri _ _ _ _
            refine tri_le (Le.rename [(0, 0), (2, 2), (3, 3), (6, 4)] [(0, .op 0 0), (1, .s (.sl 1 ((List.map (irow .i64)) a2))), (2, .s (.int .i64 a3)), (9, .s (.pt [.int .i64 a4_kind, .str a4_text, .int .i64 a4_cols, .sl 4 (Nd.encs a4_kids)])), (10, .s (.pt [.int .i64 a5_kind, .str a5_text, .int .i64 a5_cols, .sl 4 (Nd.encs a5_kids)])), (11, .s (.pt [.int .i64 a6_kind, .str a6_text, .int .i64 a6_cols, .sl 4 (Nd.encs a6_kids)])), (13, .op 3 0), (59, .s (.int .i64 (a4_kids.length : Int))), (60, .s (.int .i64 x18))] [(0, .box 48 [.s (.int .i64 w34_take), .orow 2]), (2, .row 35 5 ((List.map enc_api_Conflict) w34_conflicts)), (3, .box 24 [.s (.int .i64 a4_kind), .s (.str x7), .s (.int .i64 a4_cols), .orow 4]), (4, .row 24 4 (Nd.encs (l20 ++ [Nd.mk 1 [] 0 y33])))] 5 ⟨rfl, rfl, rfl, rfl, rfl, rfl, rfl, rfl, rfl, trivial⟩ ⟨rfl, ⟨_, rfl, rfl⟩, rfl, ⟨_, rfl, rfl⟩, rfl, ⟨_, rfl, rfl⟩, rfl, ⟨_, rfl, congrArg (Ob.row 24 4) (by simp [List.map_append, List.map_take, List.map_drop, irow, brow, b8of_row, List.map_cons, List.map_nil, b8of_wrap, Nd.encs_eq, Nd.enc, enc_13_node_kind, enc_node_checker, enc_node_inner, enc_diff_grid, enc_s_int, enc_node_open, enc_2_int, enc_api_Conflict, enc_3_s_api_Node, enc_merge_merger])⟩, trivial⟩ rfl rfl rfl rfl rfl) ?_
            refine tri_region (by exact tokW) (by exact gok) [] [] rfl ?_
            refine ⟨(k, w34_take, IntKind.i64.wrap (x18 + 1), w34_conflicts, l20 ++ [Nd.mk 1 [] 0 y33]), h, (Le.rename [(0, 0), (2, 2), (3, 3), (4, 4)] _ _ _ ⟨rfl, rfl, rfl, rfl, rfl, rfl, rfl, rfl, rfl, trivial⟩ ⟨rfl, ⟨_, rfl, rfl⟩, rfl, ⟨_, rfl, rfl⟩, rfl, ⟨_, rfl, rfl⟩, rfl, ⟨_, rfl, rfl⟩, trivial⟩ rfl rfl rfl rfl rfl), Nat.lt_succ_self k⟩
          · replace h := bif_f hb h
            refine tri_exit ?_
            cases h
            exact (Le.rename [(0, 0), (2, 2), (3, 3), (4, 4)] _ _ _ ⟨rfl, trivial⟩ ⟨rfl, ⟨_, rfl, rfl⟩, rfl, ⟨_, rfl, rfl⟩, rfl, ⟨_, rfl, rfl⟩, rfl, ⟨_, rfl, rfl⟩, trivial⟩ rfl rfl rfl rfl rfl)
    · show Tri _ _ _ _
      refine tri_le hle ?_
      refine tri_seq ?_
      refine tri_le (Le.trans (Le.rename [(0, 0), (2, 2), (3, 3), (4, 4)] [(13, .op 3 0)] [(0, .box 48 [.s (.int .i64 x21), .orow 2]), (2, .row 35 5 ((List.map enc_api_Conflict) l22)), (3, .box 24 [.s (.int .i64 a4_kind), .s (.str x7), .s (.int .i64 a4_cols), .orow 4]), (4, .row 24 4 (Nd.encs l23))] 5 ⟨rfl, trivial⟩ ⟨rfl, ⟨_, rfl, rfl⟩, rfl, ⟨_, rfl, rfl⟩, rfl, ⟨_, rfl, rfl⟩, rfl, ⟨_, rfl, rfl⟩, trivial⟩ rfl rfl rfl rfl rfl) (Le.giveRow 4 rfl)) ?_
      refine tri_le (Le.trans (Le.rename [(0, 0), (2, 2), (3, 3)] [(13, .op 3 0)] [(0, .box 48 [.s (.int .i64 x21), .orow 2]), (2, .row 35 5 ((List.map enc_api_Conflict) l22)), (3, .box 24 [.s (.int .i64 a4_kind), .s (.str x7), .s (.int .i64 a4_cols), .s (.sl 4 (Nd.encs l23))])] 4 ⟨rfl, trivial⟩ ⟨rfl, ⟨_, rfl, rfl⟩, rfl, ⟨_, rfl, rfl⟩, rfl, ⟨_, rfl, rfl⟩, trivial⟩ rfl rfl rfl rfl rfl) (Le.giveBox 3 [.int .i64 a4_kind, .str x7, .int .i64 a4_cols, .sl 4 (Nd.encs l23)] rfl rfl)) ?_
      refine tri_region (by exact tokW) (by exact gok) [] [98] rfl ?_
      intro r36 hr36
      obtain rfl : Nd.encs [Nd.mk a4_kind x7 a4_cols l23] = r36 := (hr36.trans (by simp [List.map_append, List.map_take, List.map_drop, irow, brow, b8of_row, List.map_cons, List.map_nil, b8of_wrap, Nd.encs_eq, Nd.enc, enc_13_node_kind, enc_node_checker, enc_node_inner, enc_diff_grid, enc_s_int, enc_node_open, enc_2_int, enc_api_Conflict, enc_3_s_api_Node, enc_merge_merger])).symm
      show Tri _ _ _ _
      refine tri_ret ?_
      obtain ⟨hj1, hk1⟩ := Prod.mk.inj (Option.some.inj h)
      subst hj1
      subst hk1
      unfold GivesO
      exact ⟨_, (Le.rename [(0, 0), (2, 2)] [(12, .s (.sl 4 (Nd.encs [Nd.mk a4_kind x7 a4_cols l23])))] [(0, .box 48 [.s (.int .i64 x21), .orow 2]), (2, .row 35 5 ((List.map enc_api_Conflict) l22))] 3 ⟨rfl, trivial⟩ ⟨rfl, ⟨_, rfl, rfl⟩, rfl, ⟨_, rfl, rfl⟩, trivial⟩ rfl rfl rfl rfl rfl), rfl, rfl, rfl, rfl, rfl, rfl, trivial⟩
set_option maxHeartbeats 2000000 in
set_option maxRecDepth 100000 in
theorem step_merge_merger_row (n : Nat) (ih_merge_merger_item : PSound Tryd.prog 43 (ospec (R_merge_merger_item n))) (ih_merge_merger_row : PSound Tryd.prog 30 (ospec (R_merge_merger_row n))) : PSound Tryd.prog 30 (ospec (R_merge_merger_row (n + 1))) := by
  have gok : ∀ f s, look? f [(41, S_merge_partners), (42, S_merge_merger_part), (43, ospec (R_merge_merger_item n))] = some s → PSound Tryd.prog f s := look_all (by
    simp only [List.forall_mem_cons]
    exact ⟨ok_merge_partners, ok_merge_merger_part, ih_merge_merger_item, by simp⟩)
  refine PSound.withNil (osound tokW Tryd.call30 Tryd.func30 rfl (fun xs os x os' h => by obtain ⟨_, _, _, _, _, _, _, _, rfl, rfl, _, rfl⟩ := h; exact ⟨by show 5 ≤ 121; decide, by show 2 ≤ 4; decide⟩) 121 rfl ?_) _
  rintro xs os x os' w0 G0 B0 ⟨⟨o1_take, o1_conflicts⟩, a2, a3, a4, a5, y0, z0, h, rfl, rfl, rfl, rfl⟩ _
  rw [m_merge_merger_row] at h
  refine tri_seq ?_
  refine tri_region (by exact tokW) (by exact gok) [10] [] rfl ?_
  show Tri _ _ _ _
  refine tri_le (Le.rename [(0, 0), (1, 2)] [(0, .op 0 0), (1, .s (.sl 1 ((List.map (irow .i64)) a2))), (2, .s (.sl 4 (Nd.encs a3))), (3, .s (.sl 4 (Nd.encs a4))), (4, .s (.sl 4 (Nd.encs a5)))] [(0, .box 48 [.s (.int .i64 o1_take), .orow 2]), (2, .row 35 5 ((List.map enc_api_Conflict) o1_conflicts))] 3 ⟨rfl, rfl, rfl, rfl, rfl, trivial⟩ ⟨rfl, ⟨_, rfl, rfl⟩, rfl, ⟨_, rfl, rfl⟩, trivial⟩ rfl rfl rfl rfl rfl) ?_
  refine tri_seq ?_
  refine tri_region (by exact tokW) (by exact gok) [] [] rfl ?_
  obtain ⟨y6, hy6, h⟩ := bind_out h
  refine ⟨_, ⟨_, _, _, _, hy6, rfl, rfl⟩, ?_⟩
  obtain ⟨y7, hy7, h⟩ := bind_out h
  refine ⟨_, ⟨_, _, _, _, hy7, rfl, rfl⟩, ?_⟩
  show Tri _ _ _ _
  refine tri_seq ?_
  refine tri_region (by exact tokW) (by exact gok) [13] [] rfl ?_
  show Tri _ _ _ _
  refine tri_le (Le.rename [(0, 0), (2, 2), (3, 3)] [(0, .op 0 0), (1, .s (.sl 1 ((List.map (irow .i64)) a2))), (2, .s (.sl 4 (Nd.encs a3))), (3, .s (.sl 4 (Nd.encs a4))), (4, .s (.sl 4 (Nd.encs a5))), (11, .s (.sl 1 ((List.map (irow .i64)) y6))), (12, .s (.sl 1 ((List.map (irow .i64)) y7))), (13, .orow 3)] [(0, .box 48 [.s (.int .i64 o1_take), .orow 2]), (2, .row 35 5 ((List.map enc_api_Conflict) o1_conflicts)), (3, .row 24 4 (Nd.encs []))] 4 ⟨rfl, rfl, rfl, rfl, rfl, rfl, rfl, rfl, trivial⟩ ⟨rfl, ⟨_, rfl, rfl⟩, rfl, ⟨_, rfl, rfl⟩, rfl, ⟨_, rfl, congrArg (Ob.row 24 4) (by simp [List.map_append, List.map_take, List.map_drop, irow, brow, b8of_row, List.map_cons, List.map_nil, b8of_wrap, Nd.encs_eq, Nd.enc, enc_13_node_kind, enc_node_checker, enc_node_inner, enc_diff_grid, enc_s_int, enc_node_open, enc_2_int, enc_api_Conflict, enc_3_s_api_Node, enc_merge_merger])⟩, trivial⟩ rfl rfl rfl rfl rfl) ?_
  refine tri_seq ?_
  refine tri_region (by exact tokW) (by exact gok) [] [] rfl ?_
  show Tri _ _ _ _
  refine tri_seq ?_
  refine tri_seq ?_
  refine tri_region (by exact tokW) (by exact gok) [] [26] rfl ?_
  intro n8 hn8
  obtain rfl : (a3.length : Int) = n8 := (hn8.trans (congrArg (fun m : Nat => (m : Int)) (rlen Nd.encs_eq a3))).symm
  show Tri _ _ _ _
  obtain ⟨⟨x18, x19, x20, x21, l22, l23⟩, hl, h⟩ := bind_out h
  refine tri_post ⟨ofL [(0, .op 0 0), (1, .s (.sl 1 ((List.map (irow .i64)) a2))), (2, .s (.sl 4 (Nd.encs a3))), (3, .s (.sl 4 (Nd.encs a4))), (4, .s (.sl 4 (Nd.encs a5))), (13, .orow 3), (14, .s (.int .i64 x18)), (15, .s (.int .i64 x19)), (16, .s (.int .i64 x20))], ofH [(0, .box 48 [.s (.int .i64 x21), .orow 2]), (2, .row 35 5 ((List.map enc_api_Conflict) l22)), (3, .row 24 4 (Nd.encs l23))], 4⟩ ?_ (fun σ' hle => ?_)
  · refine tri_block (tri_loopI (X := Nat × Int × Int × Int × Int × Int × (List (List Int × Int × Int × List Nd × List Nd)) × (List Nd)) (fun y => match y with | (k, x9, x12, x13, x14, x15, l16, l17) => ⟨ofL [(0, .op 0 0), (1, .s (.sl 1 ((List.map (irow .i64)) a2))), (2, .s (.sl 4 (Nd.encs a3))), (3, .s (.sl 4 (Nd.encs a4))), (4, .s (.sl 4 (Nd.encs a5))), (11, .s (.sl 1 ((List.map (irow .i64)) y6))), (12, .s (.sl 1 ((List.map (irow .i64)) y7))), (13, .orow 3), (14, .s (.int .i64 x12)), (15, .s (.int .i64 x13)), (16, .s (.int .i64 x14)), (26, .s (.int .i64 (a3.length : Int))), (27, .s (.int .i64 x15))], ofH [(0, .box 48 [.s (.int .i64 x9), .orow 2]), (2, .row 35 5 ((List.map enc_api_Conflict) l16)), (3, .row 24 4 (Nd.encs l17))], 4⟩) (fun y => m_merge_merger_row_l1 (m_merge_merger_item n) n a2 a3 a4 a5 y6 y7 y.1 y.2.1 y.2.2.1 y.2.2.2.1 y.2.2.2.2.1 y.2.2.2.2.2.1 y.2.2.2.2.2.2.1 y.2.2.2.2.2.2.2 = some (x18, x19, x20, x21, l22, l23)) (fun y => y.1) (n, o1_take, 0, 0, 0, 0, o1_conflicts, []) hl ?_ ?_)
    · exact (Le.rename [(0, 0), (2, 2), (3, 3)] _ _ _ ⟨rfl, rfl, rfl, rfl, rfl, rfl, rfl, rfl, rfl, rfl, rfl, rfl, rfl, trivial⟩ ⟨rfl, ⟨_, rfl, rfl⟩, rfl, ⟨_, rfl, rfl⟩, rfl, ⟨_, rfl, rfl⟩, trivial⟩ rfl rfl rfl rfl rfl)
    · rintro ⟨k, x9, x12, x13, x14, x15, l16, l17⟩ h
      cases k with
      | zero => cases h
      | succ k =>
        replace h : m_merge_merger_row_l1 (m_merge_merger_item n) n a2 a3 a4 a5 y6 y7 (k+1) x9 x12 x13 x14 x15 l16 l17 = some (x18, x19, x20, x21, l22, l23) := h
        rw [m_merge_merger_row_l1] at h
        refine tri_seq ?_
        refine tri_region (by exact tokW) (by exact gok) [] [] rfl ?_
        show Tri _ _ _ _
        refine tri_seq ?_
        refine tri_cond rfl (fun hb => ?_) (fun hb => ?_)
        · replace h := bif_t hb h
          refine tri_skip ?_
          show Tri _ _ _ _
          refine tri_seq ?_
          obtain ⟨⟨x24, x25, x26, x27, l28, l29⟩, hj, h⟩ := bind_out h
          refine tri_post ⟨ofL [(0, .op 0 0), (1, .s (.sl 1 ((List.map (irow .i64)) a2))), (2, .s (.sl 4 (Nd.encs a3))), (3, .s (.sl 4 (Nd.encs a4))), (4, .s (.sl 4 (Nd.encs a5))), (11, .s (.sl 1 ((List.map (irow .i64)) y6))), (12, .s (.sl 1 ((List.map (irow .i64)) y7))), (13, .orow 3), (14, .s (.int .i64 x24)), (15, .s (.int .i64 x25)), (16, .s (.int .i64 x26)), (26, .s (.int .i64 (a3.length : Int))), (27, .s (.int .i64 x15))], ofH [(0, .box 48 [.s (.int .i64 x27), .orow 2]), (2, .row 35 5 ((List.map enc_api_Conflict) l28)), (3, .row 24 4 (Nd.encs l29))], 4⟩ ?_ (fun σ' hle => ?_)
          · replace h := hj
            refine tri_block ?_
            refine tri_seq ?_
            refine tri_region (by exact tokW) (by exact gok) [] [] rfl ?_
            show Tri _ _ _ _
            refine tri_seq ?_
            refine tri_seq ?_
            obtain ⟨x30, hj, h⟩ := bind_out h
            refine tri_post ⟨ofL [(0, .op 0 0), (1, .s (.sl 1 ((List.map (irow .i64)) a2))), (2, .s (.sl 4 (Nd.encs a3))), (3, .s (.sl 4 (Nd.encs a4))), (4, .s (.sl 4 (Nd.encs a5))), (11, .s (.sl 1 ((List.map (irow .i64)) y6))), (12, .s (.sl 1 ((List.map (irow .i64)) y7))), (13, .orow 3), (14, .s (.int .i64 x12)), (15, .s (.int .i64 x13)), (16, .s (.int .i64 x14)), (17, .s (.int .i64 x15)), (26, .s (.int .i64 (a3.length : Int))), (27, .s (.int .i64 x15)), (41, .s (.bool x30))], ofH [(0, .box 48 [.s (.int .i64 x9), .orow 2]), (2, .row 35 5 ((List.map enc_api_Conflict) l16)), (3, .row 24 4 (Nd.encs l17))], 4⟩ ?_ (fun σ' hle => ?_)
            · replace h := hj
              refine tri_region (by exact tokW) (by exact gok) [] [32, 35, 38] rfl ?_
              obtain ⟨e31, he31, h⟩ := bind_out h
              refine And.intro (at_ok (fun _ => rfl) he31).1 ?_
              intro r32 hr32
              obtain rfl : [.int .i64 e31] = r32 := (hr32.trans (at_ok (fun _ => rfl) he31).2.1).symm
              intro b hb
              cases b with
              | true =>
                replace h := bif_t hb.symm h
                cases h
                exact (Le.rename [(0, 0), (2, 2), (3, 3)] _ _ _ ⟨rfl, rfl, rfl, rfl, rfl, rfl, rfl, rfl, rfl, rfl, rfl, rfl, rfl, rfl, rfl, trivial⟩ ⟨rfl, ⟨_, rfl, rfl⟩, rfl, ⟨_, rfl, rfl⟩, rfl, ⟨_, rfl, rfl⟩, trivial⟩ rfl rfl rfl rfl rfl)
              | false =>
                replace h := bif_f hb.symm h
                obtain ⟨e33, he33, h⟩ := bind_out h
                refine And.intro (at_ok (fun _ => rfl) he33).1 ?_
                intro r34 hr34
                obtain rfl : [.int .i64 e33] = r34 := (hr34.trans (at_ok (fun _ => rfl) he33).2.1).symm
                cases h
                exact (Le.rename [(0, 0), (2, 2), (3, 3)] _ _ _ ⟨rfl, rfl, rfl, rfl, rfl, rfl, rfl, rfl, rfl, rfl, rfl, rfl, rfl, rfl, rfl, trivial⟩ ⟨rfl, ⟨_, rfl, rfl⟩, rfl, ⟨_, rfl, rfl⟩, rfl, ⟨_, rfl, rfl⟩, trivial⟩ rfl rfl rfl rfl rfl)
            · show Tri _ _ _ _
              refine tri_le hle ?_
              refine tri_cond rfl (fun hb => ?_) (fun hb => ?_)
              · replace h := bif_t hb h
                refine tri_exit ?_
                cases h
                exact (Le.rename [(0, 0), (2, 2), (3, 3)] _ _ _ ⟨rfl, rfl, rfl, rfl, rfl, rfl, rfl, rfl, rfl, rfl, rfl, rfl, rfl, trivial⟩ ⟨rfl, ⟨_, rfl, rfl⟩, rfl, ⟨_, rfl, rfl⟩, rfl, ⟨_, rfl, rfl⟩, trivial⟩ rfl rfl rfl rfl rfl)
              · replace h := bif_f hb h
                refine tri_skip ?_
                show Tri _ _ _ _
                refine tri_seq ?_
                refine tri_drawnR (by exact tokW) (by exact gok) (by exact mixed) [18] [45, 50, 52, 57, 59] [19, 20] [] rfl (by decide +kernel) ?_
                obtain ⟨hq, h⟩ := req_out h
                refine And.intro ⟨hq.1, hq.2.1, Int.le_trans hq.2.2 (Int.ofNat_le.2 (Nat.le_of_eq (rlen Nd.encs_eq _).symm))⟩ ?_
                intro r35 hr35
                obtain rfl : Nd.encs ((a3.take x15.toNat).drop x12.toNat) = r35 := (hr35.trans (rcut Nd.encs_eq _ _ _)).symm
                obtain ⟨e36, he36, h⟩ := bind_out h
                refine And.intro (at_ok (fun _ => rfl) he36).1 ?_
                intro r37 hr37
                obtain rfl : [.int .i64 e36] = r37 := (hr37.trans (at_ok (fun _ => rfl) he36).2.1).symm
                obtain ⟨hq, h⟩ := req_out h
                refine And.intro ⟨hq.1, hq.2.1, Int.le_trans hq.2.2 (Int.ofNat_le.2 (Nat.le_of_eq (rlen Nd.encs_eq _).symm))⟩ ?_
                intro r38 hr38
                obtain rfl : Nd.encs ((a4.take e36.toNat).drop x13.toNat) = r38 := (hr38.trans (rcut Nd.encs_eq _ _ _)).symm
                obtain ⟨e39, he39, h⟩ := bind_out h
                refine And.intro (at_ok (fun _ => rfl) he39).1 ?_
                intro r40 hr40
                obtain rfl : [.int .i64 e39] = r40 := (hr40.trans (at_ok (fun _ => rfl) he39).2.1).symm
                obtain ⟨hq, h⟩ := req_out h
                refine And.intro ⟨hq.1, hq.2.1, Int.le_trans hq.2.2 (Int.ofNat_le.2 (Nat.le_of_eq (rlen Nd.encs_eq _).symm))⟩ ?_
                intro r41 hr41
                obtain rfl : Nd.encs ((a5.take e39.toNat).drop x14.toNat) = r41 := (hr41.trans (rcut Nd.encs_eq _ _ _)).symm
                show Tri _ _ _ _
                refine tri_le (Le.giveBox 4 [.sl 4 (Nd.encs ((a3.take x15.toNat).drop x12.toNat)), .sl 4 (Nd.encs ((a4.take e36.toNat).drop x13.toNat)), .sl 4 (Nd.encs ((a5.take e39.toNat).drop x14.toNat))] rfl rfl) ?_
                refine tri_seq ?_
                refine tri_region (by exact tokW) (by exact gok) [67] [] rfl ?_
                obtain ⟨⟨y42, ⟨w43_take, w43_conflicts⟩⟩, hy42, h⟩ := bind_out h
                refine ⟨_, _, ⟨_, _, _, _, _, _, _, hy42, rfl, rfl, rfl, rfl⟩, ?_⟩
                obtain ⟨hq, h⟩ := req_out h
                refine And.intro (show ((Nd.encs l17).length + (Nd.encs y42).length) * 56 ≤ 140737488355328 ∧ (Nd.encs l17).length + (Nd.encs y42).length ≤ 9223372036854775807 from by simp only [List.length_append, List.length_cons, List.length_nil, List.length_map, rlen Nd.encs_eq] at hq ⊢; omega) ?_
                show Tri _ _ _ _
                refine tri_le (Le.rename [(0, 0), (5, 2), (6, 3)] [(0, .op 0 0), (1, .s (.sl 1 ((List.map (irow .i64)) a2))), (2, .s (.sl 4 (Nd.encs a3))), (3, .s (.sl 4 (Nd.encs a4))), (4, .s (.sl 4 (Nd.encs a5))), (11, .s (.sl 1 ((List.map (irow .i64)) y6))), (12, .s (.sl 1 ((List.map (irow .i64)) y7))), (13, .orow 3), (17, .s (.int .i64 x15)), (26, .s (.int .i64 (a3.length : Int))), (27, .s (.int .i64 x15))] [(0, .box 48 [.s (.int .i64 w43_take), .orow 2]), (2, .row 35 5 ((List.map enc_api_Conflict) w43_conflicts)), (3, .row 24 4 (Nd.encs (l17 ++ y42)))] 4 ⟨rfl, rfl, rfl, rfl, rfl, rfl, rfl, rfl, rfl, rfl, rfl, trivial⟩ ⟨rfl, ⟨_, rfl, rfl⟩, rfl, ⟨_, rfl, rfl⟩, rfl, ⟨_, rfl, congrArg (Ob.row 24 4) (by simp [List.map_append, List.map_take, List.map_drop, irow, brow, b8of_row, List.map_cons, List.map_nil, b8of_wrap, Nd.encs_eq, Nd.enc, enc_13_node_kind, enc_node_checker, enc_node_inner, enc_diff_grid, enc_s_int, enc_node_open, enc_2_int, enc_api_Conflict, enc_3_s_api_Node, enc_merge_merger])⟩, trivial⟩ rfl rfl rfl rfl rfl) ?_
                refine tri_seq ?_
                refine tri_drawn (by exact tokW) (by exact gok) (by exact mixed) [91] [74, 79, 81, 86, 88] [22, 23] rfl (by decide +kernel) ?_
                obtain ⟨⟨e44_kind, e44_text, e44_cols, e44_kids⟩, he44, h⟩ := bind_out h
                refine And.intro (at_ok Nd.encs_eq he44).1 ?_
                intro r45 hr45
                obtain rfl : [.int .i64 e44_kind, .str e44_text, .int .i64 e44_cols, .sl 4 (Nd.encs e44_kids)] = r45 := (hr45.trans (at_ok Nd.encs_eq he44).2.1).symm
                obtain ⟨e46, he46, h⟩ := bind_out h
                refine And.intro (at_ok (fun _ => rfl) he46).1 ?_
                intro r47 hr47
                obtain rfl : [.int .i64 e46] = r47 := (hr47.trans (at_ok (fun _ => rfl) he46).2.1).symm
                obtain ⟨⟨e48_kind, e48_text, e48_cols, e48_kids⟩, he48, h⟩ := bind_out h
                refine And.intro (at_ok Nd.encs_eq he48).1 ?_
                intro r49 hr49
                obtain rfl : [.int .i64 e48_kind, .str e48_text, .int .i64 e48_cols, .sl 4 (Nd.encs e48_kids)] = r49 := (hr49.trans (at_ok Nd.encs_eq he48).2.1).symm
                obtain ⟨e50, he50, h⟩ := bind_out h
                refine And.intro (at_ok (fun _ => rfl) he50).1 ?_
                intro r51 hr51
                obtain rfl : [.int .i64 e50] = r51 := (hr51.trans (at_ok (fun _ => rfl) he50).2.1).symm
                obtain ⟨⟨e52_kind, e52_text, e52_cols, e52_kids⟩, he52, h⟩ := bind_out h
                refine And.intro (at_ok Nd.encs_eq he52).1 ?_
                intro r53 hr53
                obtain rfl : [.int .i64 e52_kind, .str e52_text, .int .i64 e52_cols, .sl 4 (Nd.encs e52_kids)] = r53 := (hr53.trans (at_ok Nd.encs_eq he52).2.1).symm
                obtain ⟨⟨y54, ⟨w55_take, w55_conflicts⟩⟩, hy54, h⟩ := bind_out h
                refine ⟨_, _, ⟨_, _, _, _, _, _, _, _, hy54, rfl, rfl, rfl, rfl⟩, ?_⟩
                obtain ⟨hq, h⟩ := req_out h
                refine And.intro (show ((Nd.encs (l17 ++ y42)).length + (Nd.encs y54).length) * 56 ≤ 140737488355328 ∧ (Nd.encs (l17 ++ y42)).length + (Nd.encs y54).length ≤ 9223372036854775807 from by simp only [List.length_append, List.length_cons, List.length_nil, List.length_map, rlen Nd.encs_eq] at hq ⊢; omega) ?_
                show Tri _ _ _ _
                refine tri_le (Le.rename [(0, 0), (4, 2), (5, 3)] [(0, .op 0 0), (1, .s (.sl 1 ((List.map (irow .i64)) a2))), (2, .s (.sl 4 (Nd.encs a3))), (3, .s (.sl 4 (Nd.encs a4))), (4, .s (.sl 4 (Nd.encs a5))), (11, .s (.sl 1 ((List.map (irow .i64)) y6))), (12, .s (.sl 1 ((List.map (irow .i64)) y7))), (13, .orow 3), (17, .s (.int .i64 x15)), (26, .s (.int .i64 (a3.length : Int))), (27, .s (.int .i64 x15))] [(0, .box 48 [.s (.int .i64 w55_take), .orow 2]), (2, .row 35 5 ((List.map enc_api_Conflict) w55_conflicts)), (3, .row 24 4 (Nd.encs ((l17 ++ y42) ++ y54)))] 4 ⟨rfl, rfl, rfl, rfl, rfl, rfl, rfl, rfl, rfl, rfl, rfl, trivial⟩ ⟨rfl, ⟨_, rfl, rfl⟩, rfl, ⟨_, rfl, rfl⟩, rfl, ⟨_, rfl, congrArg (Ob.row 24 4) (by simp [List.map_append, List.map_take, List.map_drop, irow, brow, b8of_row, List.map_cons, List.map_nil, b8of_wrap, Nd.encs_eq, Nd.enc, enc_13_node_kind, enc_node_checker, enc_node_inner, enc_diff_grid, enc_s_int, enc_node_open, enc_2_int, enc_api_Conflict, enc_3_s_api_Node, enc_merge_merger])⟩, trivial⟩ rfl rfl rfl rfl rfl) ?_
                refine tri_drawn (by exact tokW) (by exact gok) (by exact mixed) [] [96, 101] [] rfl (by decide +kernel) ?_
                obtain ⟨e56, he56, h⟩ := bind_out h
                refine And.intro (at_ok (fun _ => rfl) he56).1 ?_
                intro r57 hr57
                obtain rfl : [.int .i64 e56] = r57 := (hr57.trans (at_ok (fun _ => rfl) he56).2.1).symm
                obtain ⟨e58, he58, h⟩ := bind_out h
                refine And.intro (at_ok (fun _ => rfl) he58).1 ?_
                intro r59 hr59
                obtain rfl : [.int .i64 e58] = r59 := (hr59.trans (at_ok (fun _ => rfl) he58).2.1).symm
                cases h
                exact (Le.rename [(0, 0), (2, 2), (3, 3)] _ _ _ ⟨rfl, rfl, rfl, rfl, rfl, rfl, rfl, rfl, rfl, rfl, rfl, rfl, rfl, trivial⟩ ⟨rfl, ⟨_, rfl, rfl⟩, rfl, ⟨_, rfl, rfl⟩, rfl, ⟨_, rfl, rfl⟩, trivial⟩ rfl rfl rfl rfl rfl)
          · show Tri _ _ _ _
            refine tri_le hle ?_
            refine tri_region (by exact tokW) (by exact gok) [] [] rfl ?_
            refine ⟨(k, x27, x24, x25, x26, IntKind.i64.wrap (x15 + 1), l28, l29), h, (Le.rename [(0, 0), (2, 2), (3, 3)] _ _ _ ⟨rfl, rfl, rfl, rfl, rfl, rfl, rfl, rfl, rfl, rfl, rfl, rfl, rfl, trivial⟩ ⟨rfl, ⟨_, rfl, rfl⟩, rfl, ⟨_, rfl, rfl⟩, rfl, ⟨_, rfl, rfl⟩, trivial⟩ rfl rfl rfl rfl rfl), Nat.lt_succ_self k⟩
        · replace h := bif_f hb h
          refine tri_exit ?_
          cases h
          exact (Le.rename [(0, 0), (2, 2), (3, 3)] _ _ _ ⟨rfl, rfl, rfl, rfl, rfl, rfl, rfl, rfl, rfl, trivial⟩ ⟨rfl, ⟨_, rfl, rfl⟩, rfl, ⟨_, rfl, rfl⟩, rfl, ⟨_, rfl, rfl⟩, trivial⟩ rfl rfl rfl rfl rfl)
  · show Tri _ _ _ _
    refine tri_le hle ?_
    refine tri_seq ?_
    refine tri_drawn (by exact tokW) (by exact gok) (by exact mixed) [120] [111, 114, 117] [14, 15] rfl (by decide +kernel) ?_
    obtain ⟨hq, h⟩ := req_out h
    refine And.intro ⟨hq.1, Int.le_trans hq.2.1 (Int.ofNat_le.2 (Nat.le_of_eq (rlen Nd.encs_eq _).symm)), Int.le_refl _⟩ ?_
    intro r60 hr60
    obtain rfl : Nd.encs ((a3.take (a3.length : Int).toNat).drop x18.toNat) = r60 := (hr60.trans ((congrArg (fun m : Nat => ((Nd.encs a3).take m).drop x18.toNat) (rlen Nd.encs_eq _)).trans (rcut Nd.encs_eq _ _ _))).symm
    obtain ⟨hq, h⟩ := req_out h
    refine And.intro ⟨hq.1, Int.le_trans hq.2.1 (Int.ofNat_le.2 (Nat.le_of_eq (rlen Nd.encs_eq _).symm)), Int.le_refl _⟩ ?_
    intro r61 hr61
    obtain rfl : Nd.encs ((a4.take (a4.length : Int).toNat).drop x19.toNat) = r61 := (hr61.trans ((congrArg (fun m : Nat => ((Nd.encs a4).take m).drop x19.toNat) (rlen Nd.encs_eq _)).trans (rcut Nd.encs_eq _ _ _))).symm
    obtain ⟨hq, h⟩ := req_out h
    refine And.intro ⟨hq.1, Int.le_trans hq.2.1 (Int.ofNat_le.2 (Nat.le_of_eq (rlen Nd.encs_eq _).symm)), Int.le_refl _⟩ ?_
    intro r62 hr62
    obtain rfl : Nd.encs ((a5.take (a5.length : Int).toNat).drop x20.toNat) = r62 := (hr62.trans ((congrArg (fun m : Nat => ((Nd.encs a5).take m).drop x20.toNat) (rlen Nd.encs_eq _)).trans (rcut Nd.encs_eq _ _ _))).symm
    obtain ⟨⟨y63, ⟨w64_take, w64_conflicts⟩⟩, hy63, h⟩ := bind_out h
    refine ⟨_, _, ⟨_, _, _, _, _, _, _, hy63, rfl, rfl, rfl, rfl⟩, ?_⟩
    obtain ⟨hq, h⟩ := req_out h
    refine And.intro (show ((Nd.encs l23).length + (Nd.encs y63).length) * 56 ≤ 140737488355328 ∧ (Nd.encs l23).length + (Nd.encs y63).length ≤ 9223372036854775807 from by simp only [List.length_append, List.length_cons, List.length_nil, List.length_map, rlen Nd.encs_eq] at hq ⊢; omega) ?_
    show Tri _ _ _ _
    refine tri_le (Le.rename [(0, 0), (4, 2), (5, 3)] [(10, .orow 3)] [(0, .box 48 [.s (.int .i64 w64_take), .orow 2]), (2, .row 35 5 ((List.map enc_api_Conflict) w64_conflicts)), (3, .row 24 4 (Nd.encs (l23 ++ y63)))] 4 ⟨rfl, trivial⟩ ⟨rfl, ⟨_, rfl, rfl⟩, rfl, ⟨_, rfl, rfl⟩, rfl, ⟨_, rfl, congrArg (Ob.row 24 4) (by simp [List.map_append, List.map_take, List.map_drop, irow, brow, b8of_row, List.map_cons, List.map_nil, b8of_wrap, Nd.encs_eq, Nd.enc, enc_13_node_kind, enc_node_checker, enc_node_inner, enc_diff_grid, enc_s_int, enc_node_open, enc_2_int, enc_api_Conflict, enc_3_s_api_Node, enc_merge_merger])⟩, trivial⟩ rfl rfl rfl rfl rfl) ?_
    refine tri_ret ?_
    obtain ⟨hj1, hk1⟩ := Prod.mk.inj (Option.some.inj h)
    subst hj1
    subst hk1
    unfold GivesO
    exact ⟨_, (Le.rename [(0, 0), (2, 2), (3, 3)] [(10, .orow 3)] [(0, .box 48 [.s (.int .i64 w64_take), .orow 2]), (2, .row 35 5 ((List.map enc_api_Conflict) w64_conflicts)), (3, .row 24 4 (Nd.encs (l23 ++ y63)))] 4 ⟨rfl, trivial⟩ ⟨rfl, ⟨_, rfl, rfl⟩, rfl, ⟨_, rfl, rfl⟩, rfl, ⟨_, rfl, rfl⟩, trivial⟩ rfl rfl rfl rfl rfl), rfl, rfl, rfl, rfl, rfl, rfl, rfl, rfl, trivial⟩
theorem alls_merge_merger_item : ∀ n, PSound Tryd.prog 43 (ospec (R_merge_merger_item n)) ∧ PSound Tryd.prog 30 (ospec (R_merge_merger_row n)) := by
  intro n
  induction n with
  | zero =>
    refine ⟨?_, ?_⟩
    · exact osound_none Tryd.call43 (fun xs os x os' h => by obtain ⟨_, _, _, _, _, _, _, _, h, _⟩ := h; rw [m_merge_merger_item] at h; cases h) _
    · exact osound_none Tryd.call30 (fun xs os x os' h => by obtain ⟨_, _, _, _, _, _, _, h, _⟩ := h; rw [m_merge_merger_row] at h; cases h) _
  | succ n ih =>
    obtain ⟨ih_merge_merger_item, ih_merge_merger_row⟩ := ih
    exact ⟨step_merge_merger_item n ih_merge_merger_item ih_merge_merger_row, step_merge_merger_row n ih_merge_merger_item ih_merge_merger_row⟩
def S_merge_merger_row : PSpec := ospec (fun xs os x os' => ∃ n, R_merge_merger_row n xs os x os')
theorem ok_merge_merger_row : PSound Tryd.prog 30 S_merge_merger_row := osound_all (fun n => (alls_merge_merger_item n).2) _
def R_merge_merger_tree (n : Nat) (xs : List AV) (os : List Ob) (x : AV) (os' : List (Option Ob)) : Prop := ∃ (a0 : (Int × List (List Int × Int × Int × List Nd × List Nd))) (a1 : Nd) (a2 : Nd) (a3 : Nd) (y0 : Nd) (y1 : Int) (z0 : (Int × List (List Int × Int × Int × List Nd × List Nd))), m_merge_merger_tree n a0 a1 a2 a3 = some (y0, y1, z0) ∧ xs = [.op 0 0, .agg ((Nd.enc a1).map .s), .agg ((Nd.enc a2).map .s), .agg ((Nd.enc a3).map .s)] ∧ os = [.box 48 (((enc_merge_merger a0).map .s).set 1 (.orow 1)), .row 35 5 ((List.map enc_api_Conflict) a0.2)] ∧ x = .tup [.agg ((Nd.enc y0).map .s), .s (.int .i64 y1)] ∧ os' = [some (.box 48 (((enc_merge_merger z0).map .s).set 1 (.orow 2))), none, some (.row 35 5 ((List.map enc_api_Conflict) z0.2))]
def S_merge_merger_tree : PSpec := ospec (fun xs os x os' => ∃ n, R_merge_merger_tree n xs os x os')
set_option maxHeartbeats 2000000 in
set_option maxRecDepth 100000 in
theorem ok_merge_merger_tree : PSound Tryd.prog 22 S_merge_merger_tree := by
  have gok : ∀ f s, look? f [(29, S_node_Valid), (30, S_merge_merger_row)] = some s → PSound Tryd.prog f s := look_all (by
    simp only [List.forall_mem_cons]
    exact ⟨ok_node_Valid, ok_merge_merger_row, by simp⟩)
  refine PSound.withNil (osound tokW Tryd.call22 Tryd.func22 rfl (fun xs os x os' h => by obtain ⟨n, _, _, _, _, _, _, _, _, rfl, rfl, _, rfl⟩ := h; exact ⟨by show 4 ≤ 39; decide, by show 2 ≤ 3; decide⟩) 39 rfl ?_) _
  rintro xs os x os' w0 G0 B0 ⟨n, ⟨o1_take, o1_conflicts⟩, ⟨base2_kind, base2_text, base2_cols, base2_kids⟩, ⟨x3_kind, x3_text, x3_cols, x3_kids⟩, ⟨y4_kind, y4_text, y4_cols, y4_kids⟩, y0, y1, z0, h, rfl, rfl, rfl, rfl⟩ _
  rw [m_merge_merger_tree] at h
  refine tri_seq ?_
  refine tri_region (by exact tokW) (by exact gok) [8] [] rfl ?_
  show Tri _ _ _ _
  refine tri_seq ?_
  refine tri_seq ?_
  obtain ⟨x5, hj, h⟩ := bind_out h
  refine tri_post ⟨ofL [(0, .op 0 0), (5, .s (.pt [.int .i64 base2_kind, .str base2_text, .int .i64 base2_cols, .sl 4 (Nd.encs base2_kids)])), (6, .s (.pt [.int .i64 x3_kind, .str x3_text, .int .i64 x3_cols, .sl 4 (Nd.encs x3_kids)])), (7, .s (.pt [.int .i64 y4_kind, .str y4_text, .int .i64 y4_cols, .sl 4 (Nd.encs y4_kids)])), (8, .op 3 0), (23, .s (.bool x5))], ofH [(0, .box 48 [.s (.int .i64 o1_take), .orow 2]), (2, .row 35 5 ((List.map enc_api_Conflict) o1_conflicts)), (3, .box 24 [.s (.int .i64 0), .s (.str []), .s (.int .i64 0), .nl 4])], 4⟩ ?_ (fun σ' hle => ?_)
  · replace h := hj
    refine tri_region (by exact tokW) (by exact gok) [] [14, 19] rfl ?_
    obtain ⟨y6, hy6, h⟩ := bind_out h
    refine ⟨_, ⟨_, _, _, hy6, rfl, rfl⟩, ?_⟩
    intro b hb
    cases b with
    | true =>
      replace h := bif_t hb.symm h
      intro b hb
      subst hb
      cases h
      exact (Le.rename [(0, 0), (1, 2), (2, 3)] _ _ _ ⟨rfl, rfl, rfl, rfl, rfl, rfl, trivial⟩ ⟨rfl, ⟨_, rfl, rfl⟩, rfl, ⟨_, rfl, rfl⟩, rfl, ⟨_, rfl, rfl⟩, trivial⟩ rfl rfl rfl rfl rfl)
    | false =>
      replace h := bif_f hb.symm h
      obtain ⟨y7, hy7, h⟩ := bind_out h
      refine ⟨_, ⟨_, _, _, hy7, rfl, rfl⟩, ?_⟩
      intro b hb
      cases b with
      | true =>
        replace h := bif_t hb.symm h
        cases h
        exact (Le.rename [(0, 0), (1, 2), (2, 3)] _ _ _ ⟨rfl, rfl, rfl, rfl, rfl, rfl, trivial⟩ ⟨rfl, ⟨_, rfl, rfl⟩, rfl, ⟨_, rfl, rfl⟩, rfl, ⟨_, rfl, rfl⟩, trivial⟩ rfl rfl rfl rfl rfl)
      | false =>
        replace h := bif_f hb.symm h
        obtain ⟨y8, hy8, h⟩ := bind_out h
        refine ⟨_, ⟨_, _, _, hy8, rfl, rfl⟩, ?_⟩
        cases h
        exact (Le.rename [(0, 0), (1, 2), (2, 3)] _ _ _ ⟨rfl, rfl, rfl, rfl, rfl, rfl, trivial⟩ ⟨rfl, ⟨_, rfl, rfl⟩, rfl, ⟨_, rfl, rfl⟩, rfl, ⟨_, rfl, rfl⟩, trivial⟩ rfl rfl rfl rfl rfl)
  · show Tri _ _ _ _
    refine tri_le hle ?_
    refine tri_cond rfl (fun hb => ?_) (fun hb => ?_)
    · replace h := bif_t hb h
      refine tri_seq ?_
      refine tri_region (by exact tokW) (by exact gok) [] [] rfl ?_
      show Tri _ _ _ _
      refine tri_ret ?_
      obtain ⟨hj1, hk1⟩ := Prod.mk.inj (Option.some.inj h)
      subst hj1
      obtain ⟨hj2, hk2⟩ := Prod.mk.inj hk1
      subst hj2
      subst hk2
      unfold GivesO
      exact ⟨_, (Le.rename [(0, 0), (2, 2), (3, 3)] [(8, .op 3 0), (9, .s (.int .i64 1))] [(0, .box 48 [.s (.int .i64 o1_take), .orow 2]), (2, .row 35 5 ((List.map enc_api_Conflict) o1_conflicts)), (3, .box 24 [.s (.int .i64 0), .s (.str []), .s (.int .i64 0), .nl 4])] 4 ⟨rfl, rfl, trivial⟩ ⟨rfl, ⟨_, rfl, rfl⟩, rfl, ⟨_, rfl, rfl⟩, rfl, ⟨_, rfl, rfl⟩, trivial⟩ rfl rfl rfl rfl rfl), rfl, rfl, rfl, rfl, rfl, rfl, trivial⟩
    · replace h := bif_f hb h
      refine tri_skip ?_
      show Tri _ _ _ _
      refine tri_seq ?_
      refine tri_region (by exact tokW) (by exact gok) [10] [] rfl ?_
      obtain ⟨⟨y9, ⟨w10_take, w10_conflicts⟩⟩, hy9, h⟩ := bind_out h
      refine ⟨_, _, ⟨_, _, _, _, _, _, _, _, hy9, rfl, rfl, rfl, rfl⟩, ?_⟩
      show Tri _ _ _ _
      refine tri_seq ?_
      refine tri_seq ?_
      refine tri_region (by exact tokW) (by exact gok) [] [] rfl ?_
      obtain ⟨y11, hy11, h⟩ := bind_out h
      refine ⟨_, ⟨_, _, _, hy11, rfl, rfl⟩, ?_⟩
      show Tri _ _ _ _
      refine tri_cond rfl (fun hb => ?_) (fun hb => ?_)
      · replace h := bif_t hb h
        refine tri_seq ?_
        refine tri_region (by exact tokW) (by exact gok) [] [] rfl ?_
        show Tri _ _ _ _
        refine tri_ret ?_
        obtain ⟨hj1, hk1⟩ := Prod.mk.inj (Option.some.inj h)
        subst hj1
        obtain ⟨hj2, hk2⟩ := Prod.mk.inj hk1
        subst hj2
        subst hk2
        unfold GivesO
        exact ⟨_, (Le.rename [(0, 0), (4, 2), (3, 3)] [(8, .op 3 0), (9, .s (.int .i64 6))] [(0, .box 48 [.s (.int .i64 w10_take), .orow 2]), (2, .row 35 5 ((List.map enc_api_Conflict) w10_conflicts)), (3, .box 24 [.s (.int .i64 0), .s (.str []), .s (.int .i64 0), .nl 4])] 4 ⟨rfl, rfl, trivial⟩ ⟨rfl, ⟨_, rfl, rfl⟩, rfl, ⟨_, rfl, rfl⟩, rfl, ⟨_, rfl, rfl⟩, trivial⟩ rfl rfl rfl rfl rfl), rfl, rfl, rfl, rfl, rfl, rfl, trivial⟩
      · replace h := bif_f hb h
        refine tri_skip ?_
        show Tri _ _ _ _
        refine tri_seq ?_
        refine tri_region (by exact tokW) (by exact gok) [] [] rfl ?_
        show Tri _ _ _ _
        refine tri_ret ?_
        obtain ⟨hj1, hk1⟩ := Prod.mk.inj (Option.some.inj h)
        subst hj1
        obtain ⟨hj2, hk2⟩ := Prod.mk.inj hk1
        subst hj2
        subst hk2
        unfold GivesO
        exact ⟨_, (Le.trans (Le.rename [(0, 0), (4, 2), (3, 3), (5, 4)] [(8, .op 3 0), (9, .s (.int .i64 0))] [(0, .box 48 [.s (.int .i64 w10_take), .orow 2]), (2, .row 35 5 ((List.map enc_api_Conflict) w10_conflicts)), (3, .box 24 [.s (.int .i64 1), .s (.str []), .s (.int .i64 0), .orow 4]), (4, .row 24 4 (Nd.encs y9))] 5 ⟨rfl, rfl, trivial⟩ ⟨rfl, ⟨_, rfl, rfl⟩, rfl, ⟨_, rfl, rfl⟩, rfl, ⟨_, rfl, rfl⟩, rfl, ⟨_, rfl, rfl⟩, trivial⟩ rfl rfl rfl rfl rfl) (Le.giveRow 4 rfl)), rfl, rfl, rfl, rfl, rfl, rfl, trivial⟩
def R_merge_Three (n : Nat) (xs : List AV) (r : Ret) : Prop := ∃ (a0 : Nd) (a1 : Nd) (a2 : Nd) (y0 : Nd) (y1 : List (List Int × Int × Int × List Nd × List Nd)) (y2 : Int), m_merge_Three n a0 a1 a2 = some (y0, y1, y2) ∧ xs = [.agg ((Nd.enc a0).map .s), .agg ((Nd.enc a1).map .s), .agg ((Nd.enc a2).map .s)] ∧ r = .val (.tup [.agg ((Nd.enc y0).map .s), .s (.sl 5 ((List.map enc_api_Conflict) y1)), .s (.int .i64 y2)])
def S_merge_Three : PSpec := pspec fun xs r => ∃ n, R_merge_Three n xs r
set_option maxHeartbeats 2000000 in
set_option maxRecDepth 100000 in
theorem ok_merge_Three : PSound Tryd.prog 10 S_merge_Three := by
  have gok : ∀ f s, look? f [(22, S_merge_merger_tree)] = some s → PSound Tryd.prog f s := look_all (by
    simp only [List.forall_mem_cons]
    exact ⟨ok_merge_merger_tree, by simp⟩)
  refine psound tokW Tryd.call10 Tryd.func10 rfl (fun xs r h => by obtain ⟨n, _, _, _, _, _, _, _, rfl, _⟩ := h; show 3 ≤ 31; decide) 31 rfl ?_
  rintro xs r w0 G0 ⟨n, ⟨base1_kind, base1_text, base1_cols, base1_kids⟩, ⟨x2_kind, x2_text, x2_cols, x2_kids⟩, ⟨y3_kind, y3_text, y3_cols, y3_kids⟩, y0, y1, y2, h, rfl, rfl⟩ _
  rw [m_merge_Three] at h
  refine tri_seq ?_
  refine tri_region (by exact tokW) (by exact gok) [6] [] rfl ?_
  show Tri _ _ _ _
  refine tri_seq ?_
  refine tri_region (by exact tokW) (by exact gok) [13] [] rfl ?_
  show Tri _ _ _ _
  refine tri_le (Le.trans (Le.rename [(0, 0), (1, 1)] [(3, .s (.pt [.int .i64 base1_kind, .str base1_text, .int .i64 base1_cols, .sl 4 (Nd.encs base1_kids)])), (4, .s (.pt [.int .i64 x2_kind, .str x2_text, .int .i64 x2_cols, .sl 4 (Nd.encs x2_kids)])), (5, .s (.pt [.int .i64 y3_kind, .str y3_text, .int .i64 y3_cols, .sl 4 (Nd.encs y3_kids)])), (6, .op 0 0), (9, .op 1 0)] [(0, .box 24 [.s (.int .i64 0), .s (.str []), .s (.int .i64 0), .nl 4]), (1, .box 48 [.s (.int .i64 0), .nl 5])] 2 ⟨rfl, rfl, rfl, rfl, rfl, trivial⟩ ⟨rfl, ⟨_, rfl, rfl⟩, rfl, ⟨_, rfl, rfl⟩, trivial⟩ rfl rfl rfl rfl rfl) (Le.takeNil 1 1 35 rfl rfl (by decide))) ?_
  refine tri_seq ?_
  refine tri_region (by exact tokW) (by exact gok) [10] [] rfl ?_
  obtain ⟨⟨⟨y4_kind, y4_text, y4_cols, y4_kids⟩, y5, ⟨w6_take, w6_conflicts⟩⟩, hy4, h⟩ := bind_out h
  refine ⟨_, _, ⟨_, _, _, _, _, _, _, _, hy4, rfl, rfl, rfl, rfl⟩, ?_⟩
  show Tri _ _ _ _
  refine tri_le (Le.giveBox 4 [.int .i64 y4_kind, .str y4_text, .int .i64 y4_cols, .sl 4 (Nd.encs y4_kids)] rfl rfl) ?_
  refine tri_seq ?_
  refine tri_seq ?_
  refine tri_region (by exact tokW) (by exact gok) [] [] rfl ?_
  show Tri _ _ _ _
  refine tri_cond rfl (fun hb => ?_) (fun hb => ?_)
  · replace h := bif_t hb h
    refine tri_seq ?_
    refine tri_region (by exact tokW) (by exact gok) [] [] rfl ?_
    show Tri _ _ _ _
    refine tri_ret ?_
    obtain ⟨hj1, hk1⟩ := Prod.mk.inj (Option.some.inj h)
    subst hj1
    obtain ⟨hj2, hk2⟩ := Prod.mk.inj hk1
    subst hj2
    subst hk2
    unfold Gives
    exact ⟨_, Le.refl _ _, rfl, rfl⟩
  · replace h := bif_f hb h
    refine tri_skip ?_
    show Tri _ _ _ _
    refine tri_seq ?_
    refine tri_le (Le.trans (Le.rename [(0, 0), (1, 1), (3, 2)] [(6, .op 0 0), (9, .op 1 0), (10, .s (.pt [.int .i64 y4_kind, .str y4_text, .int .i64 y4_cols, .sl 4 (Nd.encs y4_kids)]))] [(0, .box 24 [.s (.int .i64 0), .s (.str []), .s (.int .i64 0), .nl 4]), (1, .box 48 [.s (.int .i64 w6_take), .orow 2]), (2, .row 35 5 ((List.map enc_api_Conflict) w6_conflicts))] 3 ⟨rfl, rfl, rfl, trivial⟩ ⟨rfl, ⟨_, rfl, rfl⟩, rfl, ⟨_, rfl, rfl⟩, rfl, ⟨_, rfl, rfl⟩, trivial⟩ rfl rfl rfl rfl rfl) (Le.giveRow 2 rfl)) ?_
    refine tri_le (Le.trans (Le.rename [(0, 0), (1, 1)] [(6, .op 0 0), (9, .op 1 0), (10, .s (.pt [.int .i64 y4_kind, .str y4_text, .int .i64 y4_cols, .sl 4 (Nd.encs y4_kids)]))] [(0, .box 24 [.s (.int .i64 0), .s (.str []), .s (.int .i64 0), .nl 4]), (1, .box 48 [.s (.int .i64 w6_take), .s (.sl 5 ((List.map enc_api_Conflict) w6_conflicts))])] 2 ⟨rfl, rfl, rfl, trivial⟩ ⟨rfl, ⟨_, rfl, rfl⟩, rfl, ⟨_, rfl, rfl⟩, trivial⟩ rfl rfl rfl rfl rfl) (Le.giveBox 1 [.int .i64 w6_take, .sl 5 ((List.map enc_api_Conflict) w6_conflicts)] rfl rfl)) ?_
    refine tri_drawn (by exact tokW) (by exact gok) (by exact mixed) [] [] [5] rfl (by decide +kernel) ?_
    show Tri _ _ _ _
    refine tri_ret ?_
    obtain ⟨hj1, hk1⟩ := Prod.mk.inj (Option.some.inj h)
    subst hj1
    obtain ⟨hj2, hk2⟩ := Prod.mk.inj hk1
    subst hj2
    subst hk2
    unfold Gives
    exact ⟨_, Le.refl _ _, rfl, rfl⟩
def R_r09_Equal (n : Nat) (xs : List AV) (r : Ret) : Prop := ∃ (a0 : Nd) (a1 : Nd) (y0 : Bool), m_r09_Equal n a0 a1 = some y0 ∧ xs = [.agg ((Nd.enc a0).map .s), .agg ((Nd.enc a1).map .s)] ∧ r = .val (.s (.bool y0))
def R_r09_SameItems (n : Nat) (xs : List AV) (r : Ret) : Prop := ∃ (a0 : List Nd) (a1 : List Nd) (y0 : Bool), m_r09_SameItems n a0 a1 = some y0 ∧ xs = [.s (.sl 4 (Nd.encs a0)), .s (.sl 4 (Nd.encs a1))] ∧ r = .val (.s (.bool y0))
set_option maxHeartbeats 2000000 in
set_option maxRecDepth 100000 in
theorem step_r09_Equal (n : Nat) (ih_r09_Equal : PSound Tryd.prog 11 (pspec (R_r09_Equal n))) (ih_r09_SameItems : PSound Tryd.prog 13 (pspec (R_r09_SameItems n))) : PSound Tryd.prog 11 (pspec (R_r09_Equal (n + 1))) := by
  have gok : ∀ f s, look? f [(13, pspec (R_r09_SameItems n))] = some s → PSound Tryd.prog f s := look_all (by
    simp only [List.forall_mem_cons]
    exact ⟨ih_r09_SameItems, by simp⟩)
  refine psound tokW Tryd.call11 Tryd.func11 rfl (fun xs r h => by obtain ⟨_, _, _, _, rfl, _⟩ := h; show 2 ≤ 31; decide) 31 rfl ?_
  rintro xs r w0 G0 ⟨⟨a1_kind, a1_text, a1_cols, a1_kids⟩, ⟨b2_kind, b2_text, b2_cols, b2_kids⟩, y0, h, rfl, rfl⟩ _
  rw [m_r09_Equal] at h
  refine tri_seq ?_
  refine tri_region (by exact tokW) (by exact gok) [] [] rfl ?_
  show Tri _ _ _ _
  refine tri_seq ?_
  obtain ⟨x3, hj, h⟩ := bind_out h
  refine tri_post ⟨ofL [(4, .s (.bool x3))], fun _ => none, 0⟩ ?_ (fun σ' hle => ?_)
  · replace h := hj
    refine tri_region (by exact tokW) (by exact gok) [] [10, 17, 24] rfl ?_
    intro b hb
    cases b with
    | true =>
      replace h := bif_t hb.symm h
      intro b hb
      cases b with
      | true =>
        replace h := bif_t hb.symm h
        intro b hb
        cases b with
        | true =>
          replace h := bif_t hb.symm h
          obtain ⟨y4, hy4, h⟩ := bind_out h
          refine ⟨_, ⟨_, _, _, hy4, rfl, rfl⟩, ?_⟩
          cases h
          exact (Le.forget _ ⟨rfl, trivial⟩)
        | false =>
          replace h := bif_f hb.symm h
          cases h
          exact (Le.forget _ ⟨rfl, trivial⟩)
      | false =>
        replace h := bif_f hb.symm h
        intro b hb
        subst hb
        cases h
        exact (Le.forget _ ⟨rfl, trivial⟩)
    | false =>
      replace h := bif_f hb.symm h
      intro b hb
      subst hb
      intro b hb
      subst hb
      cases h
      exact (Le.forget _ ⟨rfl, trivial⟩)
  · show Tri _ _ _ _
    refine tri_le hle ?_
    refine tri_ret ?_
    have hy := Option.some.inj h
    subst hy
    unfold Gives
    exact ⟨_, Le.refl _ _, rfl, rfl⟩
set_option maxHeartbeats 2000000 in
set_option maxRecDepth 100000 in
theorem step_r09_SameItems (n : Nat) (ih_r09_Equal : PSound Tryd.prog 11 (pspec (R_r09_Equal n))) (ih_r09_SameItems : PSound Tryd.prog 13 (pspec (R_r09_SameItems n))) : PSound Tryd.prog 13 (pspec (R_r09_SameItems (n + 1))) := by
  have gok : ∀ f s, look? f [(11, pspec (R_r09_Equal n))] = some s → PSound Tryd.prog f s := look_all (by
    simp only [List.forall_mem_cons]
    exact ⟨ih_r09_Equal, by simp⟩)
  refine psound tokW Tryd.call13 Tryd.func13 rfl (fun xs r h => by obtain ⟨_, _, _, _, rfl, _⟩ := h; show 2 ≤ 27; decide) 27 rfl ?_
  rintro xs r w0 G0 ⟨a1, b2, y0, h, rfl, rfl⟩ _
  rw [m_r09_SameItems] at h
  refine tri_seq ?_
  refine tri_region (by exact tokW) (by exact gok) [] [] rfl ?_
  show Tri _ _ _ _
  refine tri_seq ?_
  refine tri_seq ?_
  refine tri_region (by exact tokW) (by exact gok) [] [7, 9] rfl ?_
  intro n3 hn3
  obtain rfl : (a1.length : Int) = n3 := (hn3.trans (congrArg (fun m : Nat => (m : Int)) (rlen Nd.encs_eq a1))).symm
  intro n4 hn4
  obtain rfl : (b2.length : Int) = n4 := (hn4.trans (congrArg (fun m : Nat => (m : Int)) (rlen Nd.encs_eq b2))).symm
  show Tri _ _ _ _
  refine tri_cond rfl (fun hb => ?_) (fun hb => ?_)
  · replace h := bif_t hb h
    refine tri_seq ?_
    refine tri_region (by exact tokW) (by exact gok) [] [] rfl ?_
    show Tri _ _ _ _
    refine tri_ret ?_
    have hy := Option.some.inj h
    subst hy
    unfold Gives
    exact ⟨_, Le.refl _ _, rfl, rfl⟩
  · replace h := bif_f hb h
    refine tri_skip ?_
    show Tri _ _ _ _
    refine tri_seq ?_
    refine tri_seq ?_
    refine tri_region (by exact tokW) (by exact gok) [] [] rfl ?_
    show Tri _ _ _ _
    obtain ⟨fl, hl, ho1⟩ := bind_out h
    refine tri_fl (fl := fl) (fun z => match z with | _ => ⟨ofL [], fun _ => none, 0⟩) ?_ (fun z σ' hz hle => ?_)
    · refine tri_block (tri_loopI (X := Nat × Int) (fun y => match y with | (k, i5) => ⟨ofL [(0, .s (.sl 4 (Nd.encs a1))), (1, .s (.sl 4 (Nd.encs b2))), (5, .s (.int .i64 i5))], fun _ => none, 0⟩) (fun y => m_r09_SameItems_l1 (m_r09_Equal n) a1 b2 y.1 y.2 = some fl) (fun y => y.1) (n, 0) hl ?_ ?_)
      · exact (Le.forget _ ⟨rfl, rfl, rfl, trivial⟩)
      · rintro ⟨k, i5⟩ h
        cases k with
        | zero => cases h
        | succ k =>
          replace h : m_r09_SameItems_l1 (m_r09_Equal n) a1 b2 (k+1) i5 = some fl := h
          rw [m_r09_SameItems_l1] at h
          refine tri_seq ?_
          refine tri_seq ?_
          refine tri_region (by exact tokW) (by exact gok) [] [13] rfl ?_
          intro n6 hn6
          obtain rfl : (a1.length : Int) = n6 := (hn6.trans (congrArg (fun m : Nat => (m : Int)) (rlen Nd.encs_eq a1))).symm
          show Tri _ _ _ _
          refine tri_cond rfl (fun hb => ?_) (fun hb => ?_)
          · replace h := bif_t hb h
            refine tri_skip ?_
            show Tri _ _ _ _
            refine tri_seq ?_
            refine tri_block ?_
            refine tri_seq ?_
            refine tri_drawn (by exact tokW) (by exact gok) (by exact mixed) [] [19, 23] [] rfl (by decide +kernel) ?_
            obtain ⟨⟨e7_kind, e7_text, e7_cols, e7_kids⟩, he7, h⟩ := bind_out h
            refine And.intro (at_ok Nd.encs_eq he7).1 ?_
            intro r8 hr8
            obtain rfl : [.int .i64 e7_kind, .str e7_text, .int .i64 e7_cols, .sl 4 (Nd.encs e7_kids)] = r8 := (hr8.trans (at_ok Nd.encs_eq he7).2.1).symm
            obtain ⟨⟨e9_kind, e9_text, e9_cols, e9_kids⟩, he9, h⟩ := bind_out h
            refine And.intro (at_ok Nd.encs_eq he9).1 ?_
            intro r10 hr10
            obtain rfl : [.int .i64 e9_kind, .str e9_text, .int .i64 e9_cols, .sl 4 (Nd.encs e9_kids)] = r10 := (hr10.trans (at_ok Nd.encs_eq he9).2.1).symm
            obtain ⟨y11, hy11, h⟩ := bind_out h
            refine ⟨_, ⟨_, _, _, hy11, rfl, rfl⟩, ?_⟩
            show Tri _ _ _ _
            refine tri_cond rfl (fun hb => ?_) (fun hb => ?_)
            · replace h := bif_t hb h
              refine tri_seq ?_
              refine tri_region (by exact tokW) (by exact gok) [] [] rfl ?_
              show Tri _ _ _ _
              refine tri_ret ?_
              cases h
              replace h : some _ = some _ := ho1
              have hy := Option.some.inj h
              subst hy
              unfold Gives
              exact ⟨_, Le.refl _ _, rfl, rfl⟩
            · replace h := bif_f hb h
              refine tri_skip ?_
              show Tri _ _ _ _
              refine tri_region (by exact tokW) (by exact gok) [] [] rfl ?_
              refine ⟨(k, IntKind.i64.wrap (i5 + 1)), h, (Le.forget _ ⟨rfl, rfl, rfl, trivial⟩), Nat.lt_succ_self k⟩
          · replace h := bif_f hb h
            refine tri_exit ?_
            cases h
            exact ⟨_, rfl, (Le.forget _ trivial)⟩
    · subst hz
      obtain _ := z
      replace h := ho1
      show Tri _ _ _ _
      refine tri_le hle ?_
      refine tri_seq ?_
      refine tri_region (by exact tokW) (by exact gok) [] [] rfl ?_
      show Tri _ _ _ _
      refine tri_ret ?_
      have hy := Option.some.inj h
      subst hy
      unfold Gives
      exact ⟨_, Le.refl _ _, rfl, rfl⟩
theorem alls_r09_Equal : ∀ n, PSound Tryd.prog 11 (pspec (R_r09_Equal n)) ∧ PSound Tryd.prog 13 (pspec (R_r09_SameItems n)) := by
  intro n
  induction n with
  | zero =>
    refine ⟨?_, ?_⟩
    · exact psound_none Tryd.call11 (fun xs r h => by obtain ⟨_, _, _, h, _⟩ := h; rw [m_r09_Equal] at h; cases h)
    · exact psound_none Tryd.call13 (fun xs r h => by obtain ⟨_, _, _, h, _⟩ := h; rw [m_r09_SameItems] at h; cases h)
  | succ n ih =>
    obtain ⟨ih_r09_Equal, ih_r09_SameItems⟩ := ih
    exact ⟨step_r09_Equal n ih_r09_Equal ih_r09_SameItems, step_r09_SameItems n ih_r09_Equal ih_r09_SameItems⟩
def S_r09_Equal : PSpec := pspec fun xs r => ∃ n, R_r09_Equal n xs r
theorem ok_r09_Equal : PSound Tryd.prog 11 S_r09_Equal := psound_all (fun n => (alls_r09_Equal n).1)
def S_r09_SameItems : PSpec := pspec fun xs r => ∃ n, R_r09_SameItems n xs r
theorem ok_r09_SameItems : PSound Tryd.prog 13 S_r09_SameItems := psound_all (fun n => (alls_r09_Equal n).2)
def R_l17_awake (n : Nat) (xs : List AV) (r : Ret) : Prop := ∃ (y0 : Bool), m_l17_awake n = some y0 ∧ xs = [] ∧ r = .val (.s (.bool y0))
def S_l17_awake : PSpec := pspec fun xs r => ∃ n, R_l17_awake n xs r
set_option maxHeartbeats 2000000 in
set_option maxRecDepth 100000 in
theorem ok_l17_awake : PSound Tryd.prog 7 S_l17_awake := by
  have gok : ∀ f s, look? f [(17, S_l17_symbols), (10, S_merge_Three), (11, S_r09_Equal)] = some s → PSound Tryd.prog f s := look_all (by
    simp only [List.forall_mem_cons]
    exact ⟨ok_l17_symbols, ok_merge_Three, ok_r09_Equal, by simp⟩)
  refine psound tokW Tryd.call7 Tryd.func7 rfl (fun xs r h => by obtain ⟨n, _, _, rfl, _⟩ := h; show 0 ≤ 24; decide) 24 rfl ?_
  rintro xs r w0 G0 ⟨n, y0, h, rfl, rfl⟩ _
  rw [m_l17_awake] at h
  refine tri_seq ?_
  refine tri_region (by exact tokW) (by exact gok) [] [] rfl ?_
  show Tri _ _ _ _
  refine tri_seq ?_
  refine tri_region (by exact tokW) (by exact gok) [1] [] rfl ?_
  obtain ⟨⟨y1_kind, y1_text, y1_cols, y1_kids⟩, hy1, h⟩ := bind_out h
  refine ⟨_, ⟨_, _, _, hy1, rfl, rfl⟩, ?_⟩
  obtain ⟨⟨y2_kind, y2_text, y2_cols, y2_kids⟩, hy2, h⟩ := bind_out h
  refine ⟨_, ⟨_, _, _, hy2, rfl, rfl⟩, ?_⟩
  obtain ⟨⟨y3_kind, y3_text, y3_cols, y3_kids⟩, hy3, h⟩ := bind_out h
  refine ⟨_, ⟨_, _, _, hy3, rfl, rfl⟩, ?_⟩
  obtain ⟨⟨⟨y4_kind, y4_text, y4_cols, y4_kids⟩, y5, y6⟩, hy4, h⟩ := bind_out h
  refine ⟨_, ⟨_, _, _, _, _, _, _, hy4, rfl, rfl⟩, ?_⟩
  show Tri _ _ _ _
  refine tri_le (Le.giveBox 0 [.int .i64 y4_kind, .str y4_text, .int .i64 y4_cols, .sl 4 (Nd.encs y4_kids)] rfl rfl) ?_
  refine tri_seq ?_
  obtain ⟨x7, hj, h⟩ := bind_out h
  refine tri_post ⟨ofL [(0, .s (.bool x7))], fun _ => none, 0⟩ ?_ (fun σ' hle => ?_)
  · replace h := hj
    refine tri_drawn (by exact tokW) (by exact gok) (by exact mixed) [] [14, 16, 19] [] rfl (by decide +kernel) ?_
    intro b hb
    cases b with
    | true =>
      replace h := bif_t hb.symm h
      intro n8 hn8
      obtain rfl : (y5.length : Int) = n8 := (hn8.trans (congrArg (fun m : Nat => (m : Int)) (rlen (fun _ => rfl) y5))).symm
      intro b hb
      cases b with
      | true =>
        replace h := bif_t hb.symm h
        obtain ⟨⟨y9_kind, y9_text, y9_cols, y9_kids⟩, hy9, h⟩ := bind_out h
        refine ⟨_, ⟨_, _, _, hy9, rfl, rfl⟩, ?_⟩
        obtain ⟨y10, hy10, h⟩ := bind_out h
        refine ⟨_, ⟨_, _, _, _, hy10, rfl, rfl⟩, ?_⟩
        cases h
        exact (Le.rename [] _ [] 0 ⟨rfl, trivial⟩ trivial rfl rfl rfl rfl rfl)
      | false =>
        replace h := bif_f hb.symm h
        cases h
        exact (Le.rename [] _ [] 0 ⟨rfl, trivial⟩ trivial rfl rfl rfl rfl rfl)
    | false =>
      replace h := bif_f hb.symm h
      intro b hb
      subst hb
      cases h
      exact (Le.rename [] _ [] 0 ⟨rfl, trivial⟩ trivial rfl rfl rfl rfl rfl)
  · show Tri _ _ _ _
    refine tri_le hle ?_
    refine tri_ret ?_
    have hy := Option.some.inj h
    subst hy
    unfold Gives
    exact ⟨_, Le.refl _ _, rfl, rfl⟩
def R_r09_left (n : Nat) (xs : List AV) (r : Ret) : Prop := ∃ (a0 : Nd) (a1 : Int) (y0 : Int), m_r09_left n a0 a1 = some y0 ∧ xs = [.agg ((Nd.enc a0).map .s), .s (.int .i64 a1)] ∧ r = .val (.s (.int .i64 y0))
set_option maxHeartbeats 2000000 in
set_option maxRecDepth 100000 in
theorem step_r09_left (n : Nat) (ih : PSound Tryd.prog 26 (pspec (R_r09_left n))) : PSound Tryd.prog 26 (pspec (R_r09_left (n + 1))) := by
  have gok : ∀ f s, look? f [(26, pspec (R_r09_left n))] = some s → PSound Tryd.prog f s := look_all (by
    simp only [List.forall_mem_cons]
    exact ⟨ih, by simp⟩)
  refine psound tokW Tryd.call26 Tryd.func26 rfl (fun xs r h => by obtain ⟨_, _, _, _, rfl, _⟩ := h; show 2 ≤ 27; decide) 27 rfl ?_
  rintro xs r w0 G0 ⟨⟨n1_kind, n1_text, n1_cols, n1_kids⟩, most2, y0, h, rfl, rfl⟩ _
  rw [m_r09_left] at h
  refine tri_seq ?_
  refine tri_region (by exact tokW) (by exact gok) [] [] rfl ?_
  show Tri _ _ _ _
  refine tri_seq ?_
  refine tri_region (by exact tokW) (by exact gok) [] [] rfl ?_
  show Tri _ _ _ _
  refine tri_seq ?_
  refine tri_seq ?_
  refine tri_region (by exact tokW) (by exact gok) [] [] rfl ?_
  show Tri _ _ _ _
  obtain ⟨most5, hl, h⟩ := bind_out h
  refine tri_post ⟨ofL [(1, .s (.int .i64 most5))], fun _ => none, 0⟩ ?_ (fun σ' hle => ?_)
  · refine tri_block (tri_loopI (X := Nat × Int × Int) (fun y => match y with | (k, most3, i4) => ⟨ofL [(1, .s (.int .i64 most3)), (2, .s (.pt [.int .i64 n1_kind, .str n1_text, .int .i64 n1_cols, .sl 4 (Nd.encs n1_kids)])), (5, .s (.int .i64 i4))], fun _ => none, 0⟩) (fun y => m_r09_left_l1 (m_r09_left n) n1_kids y.1 y.2.1 y.2.2 = some most5) (fun y => y.1) (n, IntKind.i64.wrap (most2 - 1), 0) hl ?_ ?_)
    · exact (Le.forget _ ⟨rfl, rfl, rfl, trivial⟩)
    · rintro ⟨k, most3, i4⟩ h
      cases k with
      | zero => cases h
      | succ k =>
        replace h : m_r09_left_l1 (m_r09_left n) n1_kids (k+1) most3 i4 = some most5 := h
        rw [m_r09_left_l1] at h
        refine tri_seq ?_
        refine tri_seq ?_
        obtain ⟨x6, hj, h⟩ := bind_out h
        refine tri_post ⟨ofL [(1, .s (.int .i64 most3)), (2, .s (.pt [.int .i64 n1_kind, .str n1_text, .int .i64 n1_cols, .sl 4 (Nd.encs n1_kids)])), (5, .s (.int .i64 i4)), (16, .s (.bool x6))], fun _ => none, 0⟩ ?_ (fun σ' hle => ?_)
        · replace h := hj
          refine tri_region (by exact tokW) (by exact gok) [] [11, 13] rfl ?_
          intro n7 hn7
          obtain rfl : (n1_kids.length : Int) = n7 := (hn7.trans (congrArg (fun m : Nat => (m : Int)) (rlen Nd.encs_eq n1_kids))).symm
          intro b hb
          cases b with
          | true =>
            replace h := bif_t hb.symm h
            cases h
            exact (Le.forget _ ⟨rfl, rfl, rfl, rfl, trivial⟩)
          | false =>
            replace h := bif_f hb.symm h
            cases h
            exact (Le.forget _ ⟨rfl, rfl, rfl, rfl, trivial⟩)
        · show Tri _ _ _ _
          refine tri_le hle ?_
          refine tri_cond rfl (fun hb => ?_) (fun hb => ?_)
          · replace h := bif_t hb h
            refine tri_skip ?_
            show Tri _ _ _ _
            refine tri_seq ?_
            refine tri_block ?_
            refine tri_region (by exact tokW) (by exact gok) [] [22] rfl ?_
            obtain ⟨⟨e8_kind, e8_text, e8_cols, e8_kids⟩, he8, h⟩ := bind_out h
            refine And.intro (at_ok Nd.encs_eq he8).1 ?_
            intro r9 hr9
            obtain rfl : [.int .i64 e8_kind, .str e8_text, .int .i64 e8_cols, .sl 4 (Nd.encs e8_kids)] = r9 := (hr9.trans (at_ok Nd.encs_eq he8).2.1).symm
            obtain ⟨y10, hy10, h⟩ := bind_out h
            refine ⟨_, ⟨_, _, _, hy10, rfl, rfl⟩, ?_⟩
            show Tri _ _ _ _
            refine tri_region (by exact tokW) (by exact gok) [] [] rfl ?_
            refine ⟨(k, y10, IntKind.i64.wrap (i4 + 1)), h, (Le.forget _ ⟨rfl, rfl, rfl, trivial⟩), Nat.lt_succ_self k⟩
          · replace h := bif_f hb h
            refine tri_exit ?_
            cases h
            exact (Le.forget _ ⟨rfl, trivial⟩)
  · show Tri _ _ _ _
    refine tri_le hle ?_
    refine tri_seq ?_
    refine tri_region (by exact tokW) (by exact gok) [] [] rfl ?_
    show Tri _ _ _ _
    refine tri_ret ?_
    have hy := Option.some.inj h
    subst hy
    unfold Gives
    exact ⟨_, Le.refl _ _, rfl, rfl⟩
theorem all_r09_left : ∀ n, PSound Tryd.prog 26 (pspec (R_r09_left n)) := by
  intro n
  induction n with
  | zero => exact psound_none Tryd.call26 (fun xs r h => by obtain ⟨_, _, _, h, _⟩ := h; cases h)
  | succ n ih => exact step_r09_left n ih
def S_r09_left : PSpec := pspec fun xs r => ∃ n, R_r09_left n xs r
theorem ok_r09_left : PSound Tryd.prog 26 S_r09_left := psound_all all_r09_left
def R_r09_Few (n : Nat) (xs : List AV) (r : Ret) : Prop := ∃ (a0 : Nd) (a1 : Int) (y0 : Bool), m_r09_Few n a0 a1 = some y0 ∧ xs = [.agg ((Nd.enc a0).map .s), .s (.int .i64 a1)] ∧ r = .val (.s (.bool y0))
def S_r09_Few : PSpec := pspec fun xs r => ∃ n, R_r09_Few n xs r
set_option maxHeartbeats 2000000 in
set_option maxRecDepth 100000 in
theorem ok_r09_Few : PSound Tryd.prog 18 S_r09_Few := by
  have gok : ∀ f s, look? f [(26, S_r09_left)] = some s → PSound Tryd.prog f s := look_all (by
    simp only [List.forall_mem_cons]
    exact ⟨ok_r09_left, by simp⟩)
  refine psound tokW Tryd.call18 Tryd.func18 rfl (fun xs r h => by obtain ⟨n, _, _, _, _, rfl, _⟩ := h; show 2 ≤ 9; decide) 9 rfl ?_
  rintro xs r w0 G0 ⟨n, ⟨n1_kind, n1_text, n1_cols, n1_kids⟩, most2, y0, h, rfl, rfl⟩ _
  rw [m_r09_Few] at h
  refine tri_seq ?_
  refine tri_region (by exact tokW) (by exact gok) [] [] rfl ?_
  show Tri _ _ _ _
  refine tri_seq ?_
  refine tri_region (by exact tokW) (by exact gok) [] [] rfl ?_
  obtain ⟨y3, hy3, h⟩ := bind_out h
  refine ⟨_, ⟨_, _, _, _, hy3, rfl, rfl⟩, ?_⟩
  show Tri _ _ _ _
  refine tri_ret ?_
  have hy := Option.some.inj h
  subst hy
  unfold Gives
  exact ⟨_, Le.refl _ _, rfl, rfl⟩
def R_l17_few (n : Nat) (xs : List AV) (r : Ret) : Prop := ∃ (a0 : Nd) (a1 : Nd) (a2 : Nd) (y0 : Bool), m_l17_few n a0 a1 a2 = some y0 ∧ xs = [.agg ((Nd.enc a0).map .s), .agg ((Nd.enc a1).map .s), .agg ((Nd.enc a2).map .s)] ∧ r = .val (.s (.bool y0))
def S_l17_few : PSpec := pspec fun xs r => ∃ n, R_l17_few n xs r
set_option maxHeartbeats 2000000 in
set_option maxRecDepth 100000 in
theorem ok_l17_few : PSound Tryd.prog 8 S_l17_few := by
  have gok : ∀ f s, look? f [(18, S_r09_Few)] = some s → PSound Tryd.prog f s := look_all (by
    simp only [List.forall_mem_cons]
    exact ⟨ok_r09_Few, by simp⟩)
  refine psound tokW Tryd.call8 Tryd.func8 rfl (fun xs r h => by obtain ⟨n, _, _, _, _, _, rfl, _⟩ := h; show 3 ≤ 17; decide) 17 rfl ?_
  rintro xs r w0 G0 ⟨n, ⟨a1_kind, a1_text, a1_cols, a1_kids⟩, ⟨b2_kind, b2_text, b2_cols, b2_kids⟩, ⟨c3_kind, c3_text, c3_cols, c3_kids⟩, y0, h, rfl, rfl⟩ _
  rw [m_l17_few] at h
  refine tri_seq ?_
  refine tri_region (by exact tokW) (by exact gok) [] [] rfl ?_
  show Tri _ _ _ _
  refine tri_seq ?_
  obtain ⟨x4, hj, h⟩ := bind_out h
  refine tri_post ⟨ofL [(6, .s (.bool x4))], fun _ => none, 0⟩ ?_ (fun σ' hle => ?_)
  · replace h := hj
    refine tri_region (by exact tokW) (by exact gok) [] [9, 13] rfl ?_
    obtain ⟨y5, hy5, h⟩ := bind_out h
    refine ⟨_, ⟨_, _, _, _, hy5, rfl, rfl⟩, ?_⟩
    intro b hb
    cases b with
    | true =>
      replace h := bif_t hb.symm h
      obtain ⟨y6, hy6, h⟩ := bind_out h
      refine ⟨_, ⟨_, _, _, _, hy6, rfl, rfl⟩, ?_⟩
      intro b hb
      cases b with
      | true =>
        replace h := bif_t hb.symm h
        obtain ⟨y7, hy7, h⟩ := bind_out h
        refine ⟨_, ⟨_, _, _, _, hy7, rfl, rfl⟩, ?_⟩
        cases h
        exact (Le.forget _ ⟨rfl, trivial⟩)
      | false =>
        replace h := bif_f hb.symm h
        cases h
        exact (Le.forget _ ⟨rfl, trivial⟩)
    | false =>
      replace h := bif_f hb.symm h
      intro b hb
      subst hb
      cases h
      exact (Le.forget _ ⟨rfl, trivial⟩)
  · show Tri _ _ _ _
    refine tri_le hle ?_
    refine tri_ret ?_
    have hy := Option.some.inj h
    subst hy
    unfold Gives
    exact ⟨_, Le.refl _ _, rfl, rfl⟩
end Go.Proofs.YtgfneloodabafaaDoor
namespace Go.Proofs.YtgfneloodabafaaDoor
open Go.Abs
def R_diff_Cost (n : Nat) (xs : List AV) (r : Ret) : Prop := ∃ (a0 : Nd) (a1 : Nd) (y0 : Int) (y1 : Int), m_diff_Cost n a0 a1 = some (y0, y1) ∧ xs = [.agg ((Nd.enc a0).map .s), .agg ((Nd.enc a1).map .s)] ∧ r = .val (.tup [.s (.int .i64 y0), .s (.int .i64 y1)])
def S_diff_Cost : PSpec := pspec fun xs r => ∃ n, R_diff_Cost n xs r
set_option maxHeartbeats 2000000 in
set_option maxRecDepth 100000 in
theorem ok_diff_Cost : PSound Tryd.prog 14 S_diff_Cost := by
  have gok : ∀ f s, look? f [(24, S_diff_valid), (25, S_diff_fill)] = some s → PSound Tryd.prog f s := look_all (by
    simp only [List.forall_mem_cons]
    exact ⟨ok_diff_valid, ok_diff_fill, by simp⟩)
  refine psound tokW Tryd.call14 Tryd.func14 rfl (fun xs r h => by obtain ⟨n, _, _, _, _, _, rfl, _⟩ := h; show 2 ≤ 20; decide) 20 rfl ?_
  rintro xs r w0 G0 ⟨n, ⟨a1_kind, a1_text, a1_cols, a1_kids⟩, ⟨b2_kind, b2_text, b2_cols, b2_kids⟩, y0, y1, h, rfl, rfl⟩ _
  rw [m_diff_Cost] at h
  refine tri_seq ?_
  refine tri_region (by exact tokW) (by exact gok) [] [] rfl ?_
  show Tri _ _ _ _
  refine tri_seq ?_
  refine tri_seq ?_
  refine tri_region (by exact tokW) (by exact gok) [] [] rfl ?_
  obtain ⟨y3, hy3, h⟩ := bind_out h
  refine ⟨_, ⟨_, _, _, _, hy3, rfl, rfl⟩, ?_⟩
  show Tri _ _ _ _
  refine tri_cond rfl (fun hb => ?_) (fun hb => ?_)
  · replace h := bif_t hb h
    refine tri_seq ?_
    refine tri_region (by exact tokW) (by exact gok) [] [] rfl ?_
    show Tri _ _ _ _
    refine tri_ret ?_
    obtain ⟨hj1, hk1⟩ := Prod.mk.inj (Option.some.inj h)
    subst hj1
    subst hk1
    unfold Gives
    exact ⟨_, Le.refl _ _, rfl, rfl⟩
  · replace h := bif_f hb h
    refine tri_skip ?_
    show Tri _ _ _ _
    refine tri_seq ?_
    refine tri_region (by exact tokW) (by exact gok) [] [16, 18] rfl ?_
    obtain ⟨⟨y4_least, y4_pair, y4_first, y4_other⟩, hy4, h⟩ := bind_out h
    refine ⟨_, ⟨_, _, _, _, hy4, rfl, rfl⟩, ?_⟩
    obtain ⟨e5, he5, h⟩ := bind_out h
    refine And.intro (at_ok (fun _ => rfl) he5).1 ?_
    intro r6 hr6
    obtain rfl : [.sl 1 ((List.map (irow .i64)) e5)] = r6 := (hr6.trans (at_ok (fun _ => rfl) he5).2.1).symm
    obtain ⟨e7, he7, h⟩ := bind_out h
    refine And.intro (at_ok (fun _ => rfl) he7).1 ?_
    intro r8 hr8
    obtain rfl : [.int .i64 e7] = r8 := (hr8.trans (at_ok (fun _ => rfl) he7).2.1).symm
    show Tri _ _ _ _
    refine tri_ret ?_
    obtain ⟨hj1, hk1⟩ := Prod.mk.inj (Option.some.inj h)
    subst hj1
    subst hk1
    unfold Gives
    exact ⟨_, Le.refl _ _, rfl, rfl⟩
def R_l17_MergeCost (n : Nat) (xs : List AV) (r : Ret) : Prop := ∃ (a0 : Nd) (a1 : Nd) (a2 : Nd) (y0 : Bool), m_l17_MergeCost n a0 a1 a2 = some y0 ∧ xs = [.agg ((Nd.enc a0).map .s), .agg ((Nd.enc a1).map .s), .agg ((Nd.enc a2).map .s)] ∧ r = .val (.s (.bool y0))
def S_l17_MergeCost : PSpec := pspec fun xs r => ∃ n, R_l17_MergeCost n xs r
set_option maxHeartbeats 2000000 in
set_option maxRecDepth 100000 in
theorem ok_l17_MergeCost : PSound Tryd.prog 5 S_l17_MergeCost := by
  have gok : ∀ f s, look? f [(7, S_l17_awake), (8, S_l17_few), (10, S_merge_Three), (11, S_r09_Equal), (14, S_diff_Cost)] = some s → PSound Tryd.prog f s := look_all (by
    simp only [List.forall_mem_cons]
    exact ⟨ok_l17_awake, ok_l17_few, ok_merge_Three, ok_r09_Equal, ok_diff_Cost, by simp⟩)
  refine psound tokW Tryd.call5 Tryd.func5 rfl (fun xs r h => by obtain ⟨n, _, _, _, _, _, rfl, _⟩ := h; show 3 ≤ 71; decide) 71 rfl ?_
  rintro xs r w0 G0 ⟨n, ⟨a1_kind, a1_text, a1_cols, a1_kids⟩, ⟨a2_kind, a2_text, a2_cols, a2_kids⟩, ⟨a3_kind, a3_text, a3_cols, a3_kids⟩, y0, h, rfl, rfl⟩ _
  rw [m_l17_MergeCost] at h
  refine tri_seq ?_
  refine tri_region (by exact tokW) (by exact gok) [] [] rfl ?_
  show Tri _ _ _ _
  refine tri_seq ?_
  refine tri_seq ?_
  refine tri_region (by exact tokW) (by exact gok) [] [] rfl ?_
  obtain ⟨y4, hy4, h⟩ := bind_out h
  refine ⟨_, ⟨_, _, hy4, rfl, rfl⟩, ?_⟩
  show Tri _ _ _ _
  refine tri_cond rfl (fun hb => ?_) (fun hb => ?_)
  · replace h := bif_t hb h
    refine tri_seq ?_
    refine tri_region (by exact tokW) (by exact gok) [] [] rfl ?_
    show Tri _ _ _ _
    refine tri_ret ?_
    have hy := Option.some.inj h
    subst hy
    unfold Gives
    exact ⟨_, Le.refl _ _, rfl, rfl⟩
  · replace h := bif_f hb h
    refine tri_skip ?_
    show Tri _ _ _ _
    refine tri_seq ?_
    refine tri_seq ?_
    refine tri_region (by exact tokW) (by exact gok) [] [] rfl ?_
    obtain ⟨y5, hy5, h⟩ := bind_out h
    refine ⟨_, ⟨_, _, _, _, _, hy5, rfl, rfl⟩, ?_⟩
    show Tri _ _ _ _
    refine tri_cond rfl (fun hb => ?_) (fun hb => ?_)
    · replace h := bif_t hb h
      refine tri_seq ?_
      refine tri_region (by exact tokW) (by exact gok) [] [] rfl ?_
      show Tri _ _ _ _
      refine tri_ret ?_
      have hy := Option.some.inj h
      subst hy
      unfold Gives
      exact ⟨_, Le.refl _ _, rfl, rfl⟩
    · replace h := bif_f hb h
      refine tri_skip ?_
      show Tri _ _ _ _
      refine tri_seq ?_
      refine tri_region (by exact tokW) (by exact gok) [7] [] rfl ?_
      obtain ⟨⟨⟨y6_kind, y6_text, y6_cols, y6_kids⟩, y7, y8⟩, hy6, h⟩ := bind_out h
      refine ⟨_, ⟨_, _, _, _, _, _, _, hy6, rfl, rfl⟩, ?_⟩
      show Tri _ _ _ _
      refine tri_le (Le.giveBox 0 [.int .i64 y6_kind, .str y6_text, .int .i64 y6_cols, .sl 4 (Nd.encs y6_kids)] rfl rfl) ?_
      refine tri_seq ?_
      refine tri_seq ?_
      refine tri_region (by exact tokW) (by exact gok) [] [] rfl ?_
      show Tri _ _ _ _
      refine tri_cond rfl (fun hb => ?_) (fun hb => ?_)
      · replace h := bif_t hb h
        refine tri_seq ?_
        refine tri_region (by exact tokW) (by exact gok) [] [] rfl ?_
        obtain ⟨y9, hy9, h⟩ := bind_out h
        refine ⟨_, ⟨_, _, _, _, hy9, rfl, rfl⟩, ?_⟩
        show Tri _ _ _ _
        refine tri_ret ?_
        have hy := Option.some.inj h
        subst hy
        unfold Gives
        exact ⟨_, Le.refl _ _, rfl, rfl⟩
      · replace h := bif_f hb h
        refine tri_skip ?_
        show Tri _ _ _ _
        refine tri_seq ?_
        refine tri_region (by exact tokW) (by exact gok) [] [] rfl ?_
        obtain ⟨⟨y10, y11⟩, hy10, h⟩ := bind_out h
        refine ⟨_, ⟨_, _, _, _, _, hy10, rfl, rfl⟩, ?_⟩
        show Tri _ _ _ _
        refine tri_seq ?_
        refine tri_region (by exact tokW) (by exact gok) [] [] rfl ?_
        obtain ⟨⟨y12, y13⟩, hy12, h⟩ := bind_out h
        refine ⟨_, ⟨_, _, _, _, _, hy12, rfl, rfl⟩, ?_⟩
        show Tri _ _ _ _
        refine tri_seq ?_
        refine tri_region (by exact tokW) (by exact gok) [] [] rfl ?_
        obtain ⟨⟨y14, y15⟩, hy14, h⟩ := bind_out h
        refine ⟨_, ⟨_, _, _, _, _, hy14, rfl, rfl⟩, ?_⟩
        show Tri _ _ _ _
        refine tri_seq ?_
        obtain ⟨x16, hj, h⟩ := bind_out h
        refine tri_post ⟨ofL [(6, .s (.bool x16))], fun _ => none, 0⟩ ?_ (fun σ' hle => ?_)
        · replace h := hj
          refine tri_region (by exact tokW) (by exact gok) [] [56, 60, 64] rfl ?_
          intro b hb
          cases b with
          | true =>
            replace h := bif_t hb.symm h
            intro b hb
            cases b with
            | true =>
              replace h := bif_t hb.symm h
              intro b hb
              cases b with
              | true =>
                replace h := bif_t hb.symm h
                cases h
                exact (Le.rename [] _ [] 0 ⟨rfl, trivial⟩ trivial rfl rfl rfl rfl rfl)
              | false =>
                replace h := bif_f hb.symm h
                cases h
                exact (Le.rename [] _ [] 0 ⟨rfl, trivial⟩ trivial rfl rfl rfl rfl rfl)
            | false =>
              replace h := bif_f hb.symm h
              intro b hb
              subst hb
              cases h
              exact (Le.rename [] _ [] 0 ⟨rfl, trivial⟩ trivial rfl rfl rfl rfl rfl)
          | false =>
            replace h := bif_f hb.symm h
            intro b hb
            subst hb
            intro b hb
            subst hb
            cases h
            exact (Le.rename [] _ [] 0 ⟨rfl, trivial⟩ trivial rfl rfl rfl rfl rfl)
        · show Tri _ _ _ _
          refine tri_le hle ?_
          refine tri_ret ?_
          have hy := Option.some.inj h
          subst hy
          unfold Gives
          exact ⟨_, Le.refl _ _, rfl, rfl⟩
def R_merge_Choose (n : Nat) (xs : List AV) (r : Ret) : Prop := ∃ (a0 : Nd) (a1 : Nd) (a2 : Nd) (a3 : Bool) (y0 : Nd) (y1 : Int), m_merge_Choose n a0 a1 a2 a3 = some (y0, y1) ∧ xs = [.agg ((Nd.enc a0).map .s), .agg ((Nd.enc a1).map .s), .agg ((Nd.enc a2).map .s), .s (.bool a3)] ∧ r = .val (.tup [.agg ((Nd.enc y0).map .s), .s (.int .i64 y1)])
def S_merge_Choose : PSpec := pspec fun xs r => ∃ n, R_merge_Choose n xs r
set_option maxHeartbeats 2000000 in
set_option maxRecDepth 100000 in
theorem ok_merge_Choose : PSound Tryd.prog 15 S_merge_Choose := by
  have gok : ∀ f s, look? f [(22, S_merge_merger_tree)] = some s → PSound Tryd.prog f s := look_all (by
    simp only [List.forall_mem_cons]
    exact ⟨ok_merge_merger_tree, by simp⟩)
  refine psound tokW Tryd.call15 Tryd.func15 rfl (fun xs r h => by obtain ⟨n, _, _, _, _, _, _, _, rfl, _⟩ := h; show 4 ≤ 24; decide) 24 rfl ?_
  rintro xs r w0 G0 ⟨n, ⟨base1_kind, base1_text, base1_cols, base1_kids⟩, ⟨x2_kind, x2_text, x2_cols, x2_kids⟩, ⟨y3_kind, y3_text, y3_cols, y3_kids⟩, left4, y0, y1, h, rfl, rfl⟩ _
  rw [m_merge_Choose] at h
  refine tri_seq ?_
  refine tri_region (by exact tokW) (by exact gok) [8] [] rfl ?_
  show Tri _ _ _ _
  refine tri_seq ?_
  refine tri_region (by exact tokW) (by exact gok) [12] [] rfl ?_
  show Tri _ _ _ _
  refine tri_le (Le.trans (Le.rename [(0, 0), (1, 1)] [(3, .s (.bool left4)), (4, .s (.pt [.int .i64 base1_kind, .str base1_text, .int .i64 base1_cols, .sl 4 (Nd.encs base1_kids)])), (5, .s (.pt [.int .i64 x2_kind, .str x2_text, .int .i64 x2_cols, .sl 4 (Nd.encs x2_kids)])), (6, .s (.pt [.int .i64 y3_kind, .str y3_text, .int .i64 y3_cols, .sl 4 (Nd.encs y3_kids)])), (8, .op 0 0), (10, .op 1 0)] [(0, .box 24 [.s (.int .i64 0), .s (.str []), .s (.int .i64 0), .nl 4]), (1, .box 48 [.s (.int .i64 2), .nl 5])] 2 ⟨rfl, rfl, rfl, rfl, rfl, rfl, trivial⟩ ⟨rfl, ⟨_, rfl, rfl⟩, rfl, ⟨_, rfl, rfl⟩, trivial⟩ rfl rfl rfl rfl rfl) (Le.takeNil 1 1 35 rfl rfl (by decide))) ?_
  refine tri_seq ?_
  refine tri_seq ?_
  refine tri_region (by exact tokW) (by exact gok) [] [] rfl ?_
  show Tri _ _ _ _
  obtain ⟨x5, hj, h⟩ := bind_out h
  refine tri_post ⟨ofL [(4, .s (.pt [.int .i64 base1_kind, .str base1_text, .int .i64 base1_cols, .sl 4 (Nd.encs base1_kids)])), (5, .s (.pt [.int .i64 x2_kind, .str x2_text, .int .i64 x2_cols, .sl 4 (Nd.encs x2_kids)])), (6, .s (.pt [.int .i64 y3_kind, .str y3_text, .int .i64 y3_cols, .sl 4 (Nd.encs y3_kids)])), (8, .op 0 0), (10, .op 1 0)], ofH [(0, .box 24 [.s (.int .i64 0), .s (.str []), .s (.int .i64 0), .nl 4]), (1, .box 48 [.s (.int .i64 x5), .orow 2]), (2, .row 35 5 ((List.map enc_api_Conflict) []))], 3⟩ ?_ (fun σ' hle => ?_)
  · replace h := hj
    refine tri_cond rfl (fun hb => ?_) (fun hb => ?_)
    · replace h := bif_t hb h
      refine tri_region (by exact tokW) (by exact gok) [] [] rfl ?_
      cases h
      exact (Le.rename [(0, 0), (1, 1), (2, 2)] _ _ _ ⟨rfl, rfl, rfl, rfl, rfl, trivial⟩ ⟨rfl, ⟨_, rfl, rfl⟩, rfl, ⟨_, rfl, rfl⟩, rfl, ⟨_, rfl, rfl⟩, trivial⟩ rfl rfl rfl rfl rfl)
    · replace h := bif_f hb h
      refine tri_skip ?_
      cases h
      exact (Le.rename [(0, 0), (1, 1), (2, 2)] _ _ _ ⟨rfl, rfl, rfl, rfl, rfl, trivial⟩ ⟨rfl, ⟨_, rfl, rfl⟩, rfl, ⟨_, rfl, rfl⟩, rfl, ⟨_, rfl, rfl⟩, trivial⟩ rfl rfl rfl rfl rfl)
  · show Tri _ _ _ _
    refine tri_le hle ?_
    refine tri_seq ?_
    refine tri_region (by exact tokW) (by exact gok) [] [] rfl ?_
    obtain ⟨⟨⟨y6_kind, y6_text, y6_cols, y6_kids⟩, y7, ⟨w8_take, w8_conflicts⟩⟩, hy6, h⟩ := bind_out h
    refine ⟨_, _, ⟨_, _, _, _, _, _, _, _, hy6, rfl, rfl, rfl, rfl⟩, ?_⟩
    show Tri _ _ _ _
    refine tri_ret ?_
    obtain ⟨hj1, hk1⟩ := Prod.mk.inj (Option.some.inj h)
    subst hj1
    subst hk1
    unfold Gives
    exact ⟨_, Le.refl _ _, rfl, rfl⟩
def R_r17_SameConflicts (n : Nat) (xs : List AV) (r : Ret) : Prop := ∃ (a0 : List (List Int × Int × Int × List Nd × List Nd)) (a1 : List (List Int × Int × Int × List Nd × List Nd)) (a2 : Bool) (y0 : Bool), m_r17_SameConflicts n a0 a1 a2 = some y0 ∧ xs = [.s (.sl 5 ((List.map enc_api_Conflict) a0)), .s (.sl 5 ((List.map enc_api_Conflict) a1)), .s (.bool a2)] ∧ r = .val (.s (.bool y0))
def S_r17_SameConflicts : PSpec := pspec fun xs r => ∃ n, R_r17_SameConflicts n xs r
set_option maxHeartbeats 2000000 in
set_option maxRecDepth 100000 in
theorem ok_r17_SameConflicts : PSound Tryd.prog 16 S_r17_SameConflicts := by
  have gok : ∀ f s, look? f [(13, S_r09_SameItems)] = some s → PSound Tryd.prog f s := look_all (by
    simp only [List.forall_mem_cons]
    exact ⟨ok_r09_SameItems, by simp⟩)
  refine psound tokW Tryd.call16 Tryd.func16 rfl (fun xs r h => by obtain ⟨n, _, _, _, _, _, rfl, _⟩ := h; show 3 ≤ 121; decide) 121 rfl ?_
  rintro xs r w0 G0 ⟨n, a1, a2, a3, y0, h, rfl, rfl⟩ _
  rw [m_r17_SameConflicts] at h
  refine tri_seq ?_
  refine tri_region (by exact tokW) (by exact gok) [] [] rfl ?_
  show Tri _ _ _ _
  refine tri_seq ?_
  refine tri_seq ?_
  refine tri_region (by exact tokW) (by exact gok) [] [12, 14] rfl ?_
  intro n4 hn4
  obtain rfl : (a1.length : Int) = n4 := (hn4.trans (congrArg (fun m : Nat => (m : Int)) (rlen (fun _ => rfl) a1))).symm
  intro n5 hn5
  obtain rfl : (a2.length : Int) = n5 := (hn5.trans (congrArg (fun m : Nat => (m : Int)) (rlen (fun _ => rfl) a2))).symm
  show Tri _ _ _ _
  refine tri_cond rfl (fun hb => ?_) (fun hb => ?_)
  · replace h := bif_t hb h
    refine tri_seq ?_
    refine tri_region (by exact tokW) (by exact gok) [] [] rfl ?_
    show Tri _ _ _ _
    refine tri_ret ?_
    have hy := Option.some.inj h
    subst hy
    unfold Gives
    exact ⟨_, Le.refl _ _, rfl, rfl⟩
  · replace h := bif_f hb h
    refine tri_skip ?_
    show Tri _ _ _ _
    refine tri_seq ?_
    refine tri_seq ?_
    refine tri_region (by exact tokW) (by exact gok) [] [] rfl ?_
    show Tri _ _ _ _
    obtain ⟨fl, hl, ho1⟩ := bind_out h
    refine tri_fl (fl := fl) (fun z => match z with | _ => ⟨ofL [], fun _ => none, 0⟩) ?_ (fun z σ' hz hle => ?_)
    · refine tri_block (tri_loopI (X := Nat × Int) (fun y => match y with | (k, x6) => ⟨ofL [(0, .s (.sl 5 ((List.map enc_api_Conflict) a1))), (1, .s (.sl 5 ((List.map enc_api_Conflict) a2))), (2, .s (.bool a3)), (7, .s (.int .i64 x6))], fun _ => none, 0⟩) (fun y => m_r17_SameConflicts_l1 n a1 a2 a3 y.1 y.2 = some fl) (fun y => y.1) (n, 0) hl ?_ ?_)
      · exact (Le.forget _ ⟨rfl, rfl, rfl, rfl, trivial⟩)
      · rintro ⟨k, x6⟩ h
        cases k with
        | zero => cases h
        | succ k =>
          replace h : m_r17_SameConflicts_l1 n a1 a2 a3 (k+1) x6 = some fl := h
          rw [m_r17_SameConflicts_l1] at h
          refine tri_seq ?_
          refine tri_seq ?_
          refine tri_region (by exact tokW) (by exact gok) [] [18] rfl ?_
          intro n7 hn7
          obtain rfl : (a1.length : Int) = n7 := (hn7.trans (congrArg (fun m : Nat => (m : Int)) (rlen (fun _ => rfl) a1))).symm
          show Tri _ _ _ _
          refine tri_cond rfl (fun hb => ?_) (fun hb => ?_)
          · replace h := bif_t hb h
            refine tri_skip ?_
            show Tri _ _ _ _
            refine tri_seq ?_
            obtain ⟨fl, hj, ho2⟩ := bind_out h
            refine tri_fl (fl := fl) (fun z => match z with | _ => ⟨ofL [(0, .s (.sl 5 ((List.map enc_api_Conflict) a1))), (1, .s (.sl 5 ((List.map enc_api_Conflict) a2))), (2, .s (.bool a3)), (7, .s (.int .i64 x6))], fun _ => none, 0⟩) ?_ (fun z σ' hz hle => ?_)
            · replace h := hj
              refine tri_block ?_
              refine tri_seq ?_
              refine tri_drawn (by exact tokW) (by exact gok) (by exact mixed) [] [24, 29] [] rfl (by decide +kernel) ?_
              obtain ⟨⟨e8_row, e8_from, e8_to, e8_left, e8_right⟩, he8, h⟩ := bind_out h
              refine And.intro (at_ok (fun _ => rfl) he8).1 ?_
              intro r9 hr9
              obtain rfl : [.sl 1 ((List.map (irow .i64)) e8_row), .int .i64 e8_from, .int .i64 e8_to, .sl 4 (Nd.encs e8_left), .sl 4 (Nd.encs e8_right)] = r9 := (hr9.trans (at_ok (fun _ => rfl) he8).2.1).symm
              obtain ⟨⟨e10_row, e10_from, e10_to, e10_left, e10_right⟩, he10, h⟩ := bind_out h
              refine And.intro (at_ok (fun _ => rfl) he10).1 ?_
              intro r11 hr11
              obtain rfl : [.sl 1 ((List.map (irow .i64)) e10_row), .int .i64 e10_from, .int .i64 e10_to, .sl 4 (Nd.encs e10_left), .sl 4 (Nd.encs e10_right)] = r11 := (hr11.trans (at_ok (fun _ => rfl) he10).2.1).symm
              show Tri _ _ _ _
              refine tri_seq ?_
              refine tri_seq ?_
              refine tri_region (by exact tokW) (by exact gok) [] [] rfl ?_
              show Tri _ _ _ _
              obtain ⟨⟨x12, x13⟩, hj, h⟩ := bind_out h
              refine tri_post ⟨ofL [(0, .s (.sl 5 ((List.map enc_api_Conflict) a1))), (1, .s (.sl 5 ((List.map enc_api_Conflict) a2))), (2, .s (.bool a3)), (7, .s (.int .i64 x6)), (8, .s (.sl 4 (Nd.encs x12))), (9, .s (.sl 4 (Nd.encs x13)))], fun _ => none, 0⟩ ?_ (fun σ' hle => ?_)
              · replace h := hj
                refine tri_cond rfl (fun hb => ?_) (fun hb => ?_)
                · replace h := bif_t hb h
                  refine tri_region (by exact tokW) (by exact gok) [] [] rfl ?_
                  cases h
                  exact (Le.forget _ ⟨rfl, rfl, rfl, rfl, rfl, rfl, trivial⟩)
                · replace h := bif_f hb h
                  refine tri_skip ?_
                  cases h
                  exact (Le.forget _ ⟨rfl, rfl, rfl, rfl, rfl, rfl, trivial⟩)
              · show Tri _ _ _ _
                refine tri_le hle ?_
                refine tri_seq ?_
                refine tri_seq ?_
                obtain ⟨x14, hj, h⟩ := bind_out h
                refine tri_post ⟨ofL [(0, .s (.sl 5 ((List.map enc_api_Conflict) a1))), (1, .s (.sl 5 ((List.map enc_api_Conflict) a2))), (2, .s (.bool a3)), (7, .s (.int .i64 x6)), (93, .s (.bool x14))], fun _ => none, 0⟩ ?_ (fun σ' hle => ?_)
                · replace h := hj
                  refine tri_drawn (by exact tokW) (by exact gok) (by exact mixed) [] [37, 40, 43, 46, 48, 51, 56, 61, 64, 69, 74, 77, 84, 87] [] rfl (by decide +kernel) ?_
                  obtain ⟨⟨e15_row, e15_from, e15_to, e15_left, e15_right⟩, he15, h⟩ := bind_out h
                  refine And.intro (at_ok (fun _ => rfl) he15).1 ?_
                  intro r16 hr16
                  obtain rfl : [.sl 1 ((List.map (irow .i64)) e15_row), .int .i64 e15_from, .int .i64 e15_to, .sl 4 (Nd.encs e15_left), .sl 4 (Nd.encs e15_right)] = r16 := (hr16.trans (at_ok (fun _ => rfl) he15).2.1).symm
                  intro n17 hn17
                  obtain rfl : (e15_row.length : Int) = n17 := (hn17.trans (congrArg (fun m : Nat => (m : Int)) (rlen (fun _ => rfl) e15_row))).symm
                  obtain ⟨⟨e18_row, e18_from, e18_to, e18_left, e18_right⟩, he18, h⟩ := bind_out h
                  refine And.intro (at_ok (fun _ => rfl) he18).1 ?_
                  intro r19 hr19
                  obtain rfl : [.sl 1 ((List.map (irow .i64)) e18_row), .int .i64 e18_from, .int .i64 e18_to, .sl 4 (Nd.encs e18_left), .sl 4 (Nd.encs e18_right)] = r19 := (hr19.trans (at_ok (fun _ => rfl) he18).2.1).symm
                  intro n20 hn20
                  obtain rfl : (e18_row.length : Int) = n20 := (hn20.trans (congrArg (fun m : Nat => (m : Int)) (rlen (fun _ => rfl) e18_row))).symm
                  intro b hb
                  cases b with
                  | true =>
                    replace h := bif_t hb.symm h
                    intro b hb
                    subst hb
                    intro b hb
                    subst hb
                    intro b hb
                    subst hb
                    cases h
                    exact (Le.forget _ ⟨rfl, rfl, rfl, rfl, rfl, trivial⟩)
                  | false =>
                    replace h := bif_f hb.symm h
                    obtain ⟨⟨e21_row, e21_from, e21_to, e21_left, e21_right⟩, he21, h⟩ := bind_out h
                    refine And.intro (at_ok (fun _ => rfl) he21).1 ?_
                    intro r22 hr22
                    obtain rfl : [.sl 1 ((List.map (irow .i64)) e21_row), .int .i64 e21_from, .int .i64 e21_to, .sl 4 (Nd.encs e21_left), .sl 4 (Nd.encs e21_right)] = r22 := (hr22.trans (at_ok (fun _ => rfl) he21).2.1).symm
                    obtain ⟨⟨e23_row, e23_from, e23_to, e23_left, e23_right⟩, he23, h⟩ := bind_out h
                    refine And.intro (at_ok (fun _ => rfl) he23).1 ?_
                    intro r24 hr24
                    obtain rfl : [.sl 1 ((List.map (irow .i64)) e23_row), .int .i64 e23_from, .int .i64 e23_to, .sl 4 (Nd.encs e23_left), .sl 4 (Nd.encs e23_right)] = r24 := (hr24.trans (at_ok (fun _ => rfl) he23).2.1).symm
                    intro b hb
                    cases b with
                    | true =>
                      replace h := bif_t hb.symm h
                      intro b hb
                      subst hb
                      intro b hb
                      subst hb
                      cases h
                      exact (Le.forget _ ⟨rfl, rfl, rfl, rfl, rfl, trivial⟩)
                    | false =>
                      replace h := bif_f hb.symm h
                      obtain ⟨⟨e25_row, e25_from, e25_to, e25_left, e25_right⟩, he25, h⟩ := bind_out h
                      refine And.intro (at_ok (fun _ => rfl) he25).1 ?_
                      intro r26 hr26
                      obtain rfl : [.sl 1 ((List.map (irow .i64)) e25_row), .int .i64 e25_from, .int .i64 e25_to, .sl 4 (Nd.encs e25_left), .sl 4 (Nd.encs e25_right)] = r26 := (hr26.trans (at_ok (fun _ => rfl) he25).2.1).symm
                      obtain ⟨⟨e27_row, e27_from, e27_to, e27_left, e27_right⟩, he27, h⟩ := bind_out h
                      refine And.intro (at_ok (fun _ => rfl) he27).1 ?_
                      intro r28 hr28
                      obtain rfl : [.sl 1 ((List.map (irow .i64)) e27_row), .int .i64 e27_from, .int .i64 e27_to, .sl 4 (Nd.encs e27_left), .sl 4 (Nd.encs e27_right)] = r28 := (hr28.trans (at_ok (fun _ => rfl) he27).2.1).symm
                      intro b hb
                      cases b with
                      | true =>
                        replace h := bif_t hb.symm h
                        intro b hb
                        subst hb
                        cases h
                        exact (Le.forget _ ⟨rfl, rfl, rfl, rfl, rfl, trivial⟩)
                      | false =>
                        replace h := bif_f hb.symm h
                        obtain ⟨⟨e29_row, e29_from, e29_to, e29_left, e29_right⟩, he29, h⟩ := bind_out h
                        refine And.intro (at_ok (fun _ => rfl) he29).1 ?_
                        intro r30 hr30
                        obtain rfl : [.sl 1 ((List.map (irow .i64)) e29_row), .int .i64 e29_from, .int .i64 e29_to, .sl 4 (Nd.encs e29_left), .sl 4 (Nd.encs e29_right)] = r30 := (hr30.trans (at_ok (fun _ => rfl) he29).2.1).symm
                        obtain ⟨y31, hy31, h⟩ := bind_out h
                        refine ⟨_, ⟨_, _, _, _, hy31, rfl, rfl⟩, ?_⟩
                        intro b hb
                        cases b with
                        | true =>
                          replace h := bif_t hb.symm h
                          cases h
                          exact (Le.forget _ ⟨rfl, rfl, rfl, rfl, rfl, trivial⟩)
                        | false =>
                          replace h := bif_f hb.symm h
                          obtain ⟨⟨e32_row, e32_from, e32_to, e32_left, e32_right⟩, he32, h⟩ := bind_out h
                          refine And.intro (at_ok (fun _ => rfl) he32).1 ?_
                          intro r33 hr33
                          obtain rfl : [.sl 1 ((List.map (irow .i64)) e32_row), .int .i64 e32_from, .int .i64 e32_to, .sl 4 (Nd.encs e32_left), .sl 4 (Nd.encs e32_right)] = r33 := (hr33.trans (at_ok (fun _ => rfl) he32).2.1).symm
                          obtain ⟨y34, hy34, h⟩ := bind_out h
                          refine ⟨_, ⟨_, _, _, _, hy34, rfl, rfl⟩, ?_⟩
                          cases h
                          exact (Le.forget _ ⟨rfl, rfl, rfl, rfl, rfl, trivial⟩)
                · show Tri _ _ _ _
                  refine tri_le hle ?_
                  refine tri_cond rfl (fun hb => ?_) (fun hb => ?_)
                  · replace h := bif_t hb h
                    refine tri_seq ?_
                    refine tri_region (by exact tokW) (by exact gok) [] [] rfl ?_
                    show Tri _ _ _ _
                    refine tri_ret ?_
                    cases h
                    replace h : some _ = some _ := ho2
                    cases h
                    replace h : some _ = some _ := ho1
                    have hy := Option.some.inj h
                    subst hy
                    unfold Gives
                    exact ⟨_, Le.refl _ _, rfl, rfl⟩
                  · replace h := bif_f hb h
                    refine tri_skip ?_
                    show Tri _ _ _ _
                    refine tri_seq ?_
                    refine tri_region (by exact tokW) (by exact gok) [] [] rfl ?_
                    show Tri _ _ _ _
                    obtain ⟨fl, hl, ho3⟩ := bind_out h
                    refine tri_fl (fl := fl) (fun z => match z with | _ => ⟨ofL [(0, .s (.sl 5 ((List.map enc_api_Conflict) a1))), (1, .s (.sl 5 ((List.map enc_api_Conflict) a2))), (2, .s (.bool a3)), (7, .s (.int .i64 x6))], fun _ => none, 0⟩) ?_ (fun z σ' hz hle => ?_)
                    · refine tri_block (tri_loopI (X := Nat × Int) (fun y => match y with | (k, x35) => ⟨ofL [(0, .s (.sl 5 ((List.map enc_api_Conflict) a1))), (1, .s (.sl 5 ((List.map enc_api_Conflict) a2))), (2, .s (.bool a3)), (7, .s (.int .i64 x6)), (10, .s (.int .i64 x35))], fun _ => none, 0⟩) (fun y => m_r17_SameConflicts_l2 a1 a2 x6 y.1 y.2 = some fl) (fun y => y.1) (n, 0) hl ?_ ?_)
                      · exact (Le.forget _ ⟨rfl, rfl, rfl, rfl, rfl, trivial⟩)
                      · rintro ⟨k, x35⟩ h
                        cases k with
                        | zero => cases h
                        | succ k =>
                          replace h : m_r17_SameConflicts_l2 a1 a2 x6 (k+1) x35 = some fl := h
                          rw [m_r17_SameConflicts_l2] at h
                          refine tri_seq ?_
                          refine tri_seq ?_
                          refine tri_region (by exact tokW) (by exact gok) [] [97, 100] rfl ?_
                          obtain ⟨⟨e36_row, e36_from, e36_to, e36_left, e36_right⟩, he36, h⟩ := bind_out h
                          refine And.intro (at_ok (fun _ => rfl) he36).1 ?_
                          intro r37 hr37
                          obtain rfl : [.sl 1 ((List.map (irow .i64)) e36_row), .int .i64 e36_from, .int .i64 e36_to, .sl 4 (Nd.encs e36_left), .sl 4 (Nd.encs e36_right)] = r37 := (hr37.trans (at_ok (fun _ => rfl) he36).2.1).symm
                          intro n38 hn38
                          obtain rfl : (e36_row.length : Int) = n38 := (hn38.trans (congrArg (fun m : Nat => (m : Int)) (rlen (fun _ => rfl) e36_row))).symm
                          show Tri _ _ _ _
                          refine tri_cond rfl (fun hb => ?_) (fun hb => ?_)
                          · replace h := bif_t hb h
                            refine tri_skip ?_
                            show Tri _ _ _ _
                            refine tri_seq ?_
                            refine tri_block ?_
                            refine tri_seq ?_
                            refine tri_drawn (by exact tokW) (by exact gok) (by exact mixed) [] [106, 110, 114, 118] [] rfl (by decide +kernel) ?_
                            obtain ⟨⟨e39_row, e39_from, e39_to, e39_left, e39_right⟩, he39, h⟩ := bind_out h
                            refine And.intro (at_ok (fun _ => rfl) he39).1 ?_
                            intro r40 hr40
                            obtain rfl : [.sl 1 ((List.map (irow .i64)) e39_row), .int .i64 e39_from, .int .i64 e39_to, .sl 4 (Nd.encs e39_left), .sl 4 (Nd.encs e39_right)] = r40 := (hr40.trans (at_ok (fun _ => rfl) he39).2.1).symm
                            obtain ⟨e41, he41, h⟩ := bind_out h
                            refine And.intro (at_ok (fun _ => rfl) he41).1 ?_
                            intro r42 hr42
                            obtain rfl : [.int .i64 e41] = r42 := (hr42.trans (at_ok (fun _ => rfl) he41).2.1).symm
                            obtain ⟨⟨e43_row, e43_from, e43_to, e43_left, e43_right⟩, he43, h⟩ := bind_out h
                            refine And.intro (at_ok (fun _ => rfl) he43).1 ?_
                            intro r44 hr44
                            obtain rfl : [.sl 1 ((List.map (irow .i64)) e43_row), .int .i64 e43_from, .int .i64 e43_to, .sl 4 (Nd.encs e43_left), .sl 4 (Nd.encs e43_right)] = r44 := (hr44.trans (at_ok (fun _ => rfl) he43).2.1).symm
                            obtain ⟨e45, he45, h⟩ := bind_out h
                            refine And.intro (at_ok (fun _ => rfl) he45).1 ?_
                            intro r46 hr46
                            obtain rfl : [.int .i64 e45] = r46 := (hr46.trans (at_ok (fun _ => rfl) he45).2.1).symm
                            show Tri _ _ _ _
                            refine tri_cond rfl (fun hb => ?_) (fun hb => ?_)
                            · replace h := bif_t hb h
                              refine tri_seq ?_
                              refine tri_region (by exact tokW) (by exact gok) [] [] rfl ?_
                              show Tri _ _ _ _
                              refine tri_ret ?_
                              cases h
                              replace h : some _ = some _ := ho3
                              cases h
                              replace h : some _ = some _ := ho2
                              cases h
                              replace h : some _ = some _ := ho1
                              have hy := Option.some.inj h
                              subst hy
                              unfold Gives
                              exact ⟨_, Le.refl _ _, rfl, rfl⟩
                            · replace h := bif_f hb h
                              refine tri_skip ?_
                              show Tri _ _ _ _
                              refine tri_region (by exact tokW) (by exact gok) [] [] rfl ?_
                              refine ⟨(k, IntKind.i64.wrap (x35 + 1)), h, (Le.forget _ ⟨rfl, rfl, rfl, rfl, rfl, trivial⟩), Nat.lt_succ_self k⟩
                          · replace h := bif_f hb h
                            refine tri_exit ?_
                            cases h
                            exact ⟨_, rfl, (Le.forget _ ⟨rfl, rfl, rfl, rfl, trivial⟩)⟩
                    · subst hz
                      obtain _ := z
                      replace h := ho3
                      cases h
                      exact ⟨_, rfl, (Le.trans hle (Le.forget _ ⟨rfl, rfl, rfl, rfl, trivial⟩))⟩
            · subst hz
              obtain _ := z
              replace h := ho2
              show Tri _ _ _ _
              refine tri_le hle ?_
              refine tri_region (by exact tokW) (by exact gok) [] [] rfl ?_
              refine ⟨(k, IntKind.i64.wrap (x6 + 1)), h, (Le.forget _ ⟨rfl, rfl, rfl, rfl, trivial⟩), Nat.lt_succ_self k⟩
          · replace h := bif_f hb h
            refine tri_exit ?_
            cases h
            exact ⟨_, rfl, (Le.forget _ trivial)⟩
    · subst hz
      obtain _ := z
      replace h := ho1
      show Tri _ _ _ _
      refine tri_le hle ?_
      refine tri_seq ?_
      refine tri_region (by exact tokW) (by exact gok) [] [] rfl ?_
      show Tri _ _ _ _
      refine tri_ret ?_
      have hy := Option.some.inj h
      subst hy
      unfold Gives
      exact ⟨_, Le.refl _ _, rfl, rfl⟩
def R_l17_MergeSides (n : Nat) (xs : List AV) (r : Ret) : Prop := ∃ (a0 : Nd) (a1 : Nd) (a2 : Nd) (y0 : Bool), m_l17_MergeSides n a0 a1 a2 = some y0 ∧ xs = [.agg ((Nd.enc a0).map .s), .agg ((Nd.enc a1).map .s), .agg ((Nd.enc a2).map .s)] ∧ r = .val (.s (.bool y0))
def S_l17_MergeSides : PSpec := pspec fun xs r => ∃ n, R_l17_MergeSides n xs r
set_option maxHeartbeats 2000000 in
set_option maxRecDepth 100000 in
theorem ok_l17_MergeSides : PSound Tryd.prog 6 S_l17_MergeSides := by
  have gok : ∀ f s, look? f [(7, S_l17_awake), (8, S_l17_few), (10, S_merge_Three), (15, S_merge_Choose), (11, S_r09_Equal), (16, S_r17_SameConflicts)] = some s → PSound Tryd.prog f s := look_all (by
    simp only [List.forall_mem_cons]
    exact ⟨ok_l17_awake, ok_l17_few, ok_merge_Three, ok_merge_Choose, ok_r09_Equal, ok_r17_SameConflicts, by simp⟩)
  refine psound tokW Tryd.call6 Tryd.func6 rfl (fun xs r h => by obtain ⟨n, _, _, _, _, _, rfl, _⟩ := h; show 3 ≤ 77; decide) 77 rfl ?_
  rintro xs r w0 G0 ⟨n, ⟨a1_kind, a1_text, a1_cols, a1_kids⟩, ⟨a2_kind, a2_text, a2_cols, a2_kids⟩, ⟨a3_kind, a3_text, a3_cols, a3_kids⟩, y0, h, rfl, rfl⟩ _
  rw [m_l17_MergeSides] at h
  refine tri_seq ?_
  refine tri_region (by exact tokW) (by exact gok) [] [] rfl ?_
  show Tri _ _ _ _
  refine tri_seq ?_
  refine tri_seq ?_
  refine tri_region (by exact tokW) (by exact gok) [] [] rfl ?_
  obtain ⟨y4, hy4, h⟩ := bind_out h
  refine ⟨_, ⟨_, _, hy4, rfl, rfl⟩, ?_⟩
  show Tri _ _ _ _
  refine tri_cond rfl (fun hb => ?_) (fun hb => ?_)
  · replace h := bif_t hb h
    refine tri_seq ?_
    refine tri_region (by exact tokW) (by exact gok) [] [] rfl ?_
    show Tri _ _ _ _
    refine tri_ret ?_
    have hy := Option.some.inj h
    subst hy
    unfold Gives
    exact ⟨_, Le.refl _ _, rfl, rfl⟩
  · replace h := bif_f hb h
    refine tri_skip ?_
    show Tri _ _ _ _
    refine tri_seq ?_
    refine tri_seq ?_
    refine tri_region (by exact tokW) (by exact gok) [] [] rfl ?_
    obtain ⟨y5, hy5, h⟩ := bind_out h
    refine ⟨_, ⟨_, _, _, _, _, hy5, rfl, rfl⟩, ?_⟩
    show Tri _ _ _ _
    refine tri_cond rfl (fun hb => ?_) (fun hb => ?_)
    · replace h := bif_t hb h
      refine tri_seq ?_
      refine tri_region (by exact tokW) (by exact gok) [] [] rfl ?_
      show Tri _ _ _ _
      refine tri_ret ?_
      have hy := Option.some.inj h
      subst hy
      unfold Gives
      exact ⟨_, Le.refl _ _, rfl, rfl⟩
    · replace h := bif_f hb h
      refine tri_skip ?_
      show Tri _ _ _ _
      refine tri_seq ?_
      refine tri_region (by exact tokW) (by exact gok) [7] [] rfl ?_
      obtain ⟨⟨⟨y6_kind, y6_text, y6_cols, y6_kids⟩, y7, y8⟩, hy6, h⟩ := bind_out h
      refine ⟨_, ⟨_, _, _, _, _, _, _, hy6, rfl, rfl⟩, ?_⟩
      show Tri _ _ _ _
      refine tri_le (Le.giveBox 0 [.int .i64 y6_kind, .str y6_text, .int .i64 y6_cols, .sl 4 (Nd.encs y6_kids)] rfl rfl) ?_
      refine tri_seq ?_
      refine tri_region (by exact tokW) (by exact gok) [10] [] rfl ?_
      obtain ⟨⟨⟨y9_kind, y9_text, y9_cols, y9_kids⟩, y10, y11⟩, hy9, h⟩ := bind_out h
      refine ⟨_, ⟨_, _, _, _, _, _, _, hy9, rfl, rfl⟩, ?_⟩
      show Tri _ _ _ _
      refine tri_le (Le.giveBox 1 [.int .i64 y9_kind, .str y9_text, .int .i64 y9_cols, .sl 4 (Nd.encs y9_kids)] rfl rfl) ?_
      refine tri_seq ?_
      refine tri_region (by exact tokW) (by exact gok) [13] [] rfl ?_
      obtain ⟨⟨⟨y12_kind, y12_text, y12_cols, y12_kids⟩, y13⟩, hy12, h⟩ := bind_out h
      refine ⟨_, ⟨_, _, _, _, _, _, _, hy12, rfl, rfl⟩, ?_⟩
      show Tri _ _ _ _
      refine tri_le (Le.giveBox 2 [.int .i64 y12_kind, .str y12_text, .int .i64 y12_cols, .sl 4 (Nd.encs y12_kids)] rfl rfl) ?_
      refine tri_seq ?_
      refine tri_region (by exact tokW) (by exact gok) [15] [] rfl ?_
      obtain ⟨⟨⟨y14_kind, y14_text, y14_cols, y14_kids⟩, y15⟩, hy14, h⟩ := bind_out h
      refine ⟨_, ⟨_, _, _, _, _, _, _, hy14, rfl, rfl⟩, ?_⟩
      show Tri _ _ _ _
      refine tri_le (Le.giveBox 3 [.int .i64 y14_kind, .str y14_text, .int .i64 y14_cols, .sl 4 (Nd.encs y14_kids)] rfl rfl) ?_
      refine tri_seq ?_
      obtain ⟨x16, hj, h⟩ := bind_out h
      refine tri_post ⟨ofL [(6, .s (.bool x16))], fun _ => none, 0⟩ ?_ (fun σ' hle => ?_)
      · replace h := hj
        refine tri_region (by exact tokW) (by exact gok) [] [57, 62, 67, 72] rfl ?_
        intro b hb
        cases b with
        | true =>
          replace h := bif_t hb.symm h
          obtain ⟨y17, hy17, h⟩ := bind_out h
          refine ⟨_, ⟨_, _, _, _, hy17, rfl, rfl⟩, ?_⟩
          intro b hb
          cases b with
          | true =>
            replace h := bif_t hb.symm h
            obtain ⟨y18, hy18, h⟩ := bind_out h
            refine ⟨_, ⟨_, _, _, _, _, hy18, rfl, rfl⟩, ?_⟩
            intro b hb
            cases b with
            | true =>
              replace h := bif_t hb.symm h
              intro b hb
              cases b with
              | true =>
                replace h := bif_t hb.symm h
                obtain ⟨y19, hy19, h⟩ := bind_out h
                refine ⟨_, ⟨_, _, _, _, hy19, rfl, rfl⟩, ?_⟩
                cases h
                exact (Le.rename [] _ [] 0 ⟨rfl, trivial⟩ trivial rfl rfl rfl rfl rfl)
              | false =>
                replace h := bif_f hb.symm h
                cases h
                exact (Le.rename [] _ [] 0 ⟨rfl, trivial⟩ trivial rfl rfl rfl rfl rfl)
            | false =>
              replace h := bif_f hb.symm h
              intro b hb
              subst hb
              cases h
              exact (Le.rename [] _ [] 0 ⟨rfl, trivial⟩ trivial rfl rfl rfl rfl rfl)
          | false =>
            replace h := bif_f hb.symm h
            intro b hb
            subst hb
            intro b hb
            subst hb
            cases h
            exact (Le.rename [] _ [] 0 ⟨rfl, trivial⟩ trivial rfl rfl rfl rfl rfl)
        | false =>
          replace h := bif_f hb.symm h
          intro b hb
          subst hb
          intro b hb
          subst hb
          intro b hb
          subst hb
          cases h
          exact (Le.rename [] _ [] 0 ⟨rfl, trivial⟩ trivial rfl rfl rfl rfl rfl)
      · show Tri _ _ _ _
        refine tri_le hle ?_
        refine tri_ret ?_
        have hy := Option.some.inj h
        subst hy
        unfold Gives
        exact ⟨_, Le.refl _ _, rfl, rfl⟩
end Go.Proofs.YtgfneloodabafaaDoor
namespace Go.Proofs.YtgfneloodabafaaDoor
open Go.Abs
theorem typed_nd {n : Nat} {ss : List S} (h : Typed T n 24 ss) : ∃ t : Nd, ss = t.enc ∧ t.rng :=
  typed_node (T := T) (e := 24) (s := 22) (ki := 3) (st := 9) rfl rfl rfl rfl rfl rfl rfl rfl rfl n h
end Go.Proofs.YtgfneloodabafaaDoor
namespace Go.Proofs.YtgfneloodabafaaDoor
open Go.Abs
theorem dec_t {φ : Prop} [Decidable φ] (h : φ) : decide φ = true := decide_eq_true h
theorem dec_f {φ : Prop} [Decidable φ] (h : ¬ φ) : decide φ = false := decide_eq_false h
def scnt : List (Nd × Int) → Nat
  | [] => 0
  | p :: l => p.1.cnt + scnt l
theorem scnt_append : ∀ a b : List (Nd × Int), scnt (a ++ b) = scnt a + scnt b
  | [], b => by simp [scnt]
  | v :: a, b => by simp only [List.cons_append, scnt, scnt_append a b]; omega
theorem scnt_len : ∀ a : List (Nd × Int), a.length ≤ scnt a
  | [] => Nat.le_refl _
  | v :: a => by have := scnt_len a; have := v.1.cnt_pos; simp only [scnt, List.length_cons]; omega
theorem each_loop2 {ks : List Nd} {d : Int} : ∀ (k i : Nat) (l : List (Nd × Int)), ks.length - i < k → i ≤ ks.length → scnt l + Nd.cnts (ks.drop i) ≤ 1073741824 → ks.length ≤ 1073741824 →
    ∃ l', m_node_each_l2 ks d k (i : Int) l = some l' ∧ scnt l' = scnt l + Nd.cnts (ks.drop i)
  | 0, _, _, h, _, _, _ => by omega
  | k + 1, i, l, hk, hi, ho, hl => by
    unfold m_node_each_l2
    by_cases h : i < ks.length
    · rw [dec_t (Int.ofNat_lt.2 h), cond_true, at_get h]
      have hd := Nd.cnts_drop h
      rcases e : ks[i] with ⟨a, b, c, e4⟩
      rw [e] at hd
      have hp := (Nd.mk a b c e4).cnt_pos
      have hll := scnt_len l
      simp only [Option.bind_some]
      rw [req_t (by simp only [List.length_singleton]; omega), wi_succ (by omega)]
      have hs : scnt (l ++ [(Nd.mk a b c e4, IntKind.i64.wrap (d + 1))]) = scnt l + (Nd.mk a b c e4).cnt := by rw [scnt_append]; simp [scnt]
      obtain ⟨l', h1, h2⟩ := each_loop2 (ks := ks) (d := d) k (i + 1) (l ++ [(Nd.mk a b c e4, IntKind.i64.wrap (d + 1))]) (by omega) (by omega) (by omega) hl
      exact ⟨l', h1, by omega⟩
    · rw [dec_f (by omega), cond_false]
      obtain rfl : i = ks.length := by omega
      exact ⟨l, rfl, by simp [Nd.cnts]⟩
theorem each_loop1 (n : Nat) : ∀ (k : Nat) (x : Nat) (l : List (Nd × Int)), scnt l < k → scnt l < n → x + scnt l ≤ 67108864 → m_node_each_l1 n k (x : Int) l = some ((x + scnt l : Nat) : Int)
  | 0, _, _, h, _, _ => by omega
  | k + 1, x, l, hk, hn, hx => by
    unfold m_node_each_l1
    rcases List.eq_nil_or_concat l with rfl | ⟨l, p, rfl⟩
    · simp [scnt]
    · rw [List.concat_eq_append] at *
      obtain ⟨⟨a, b, c, ks⟩, d⟩ := p
      have hs : scnt (l ++ [(Nd.mk a b c ks, d)]) = scnt l + (Nd.cnts ks + 1) := by rw [scnt_append]; simp [scnt, Nd.cnt]
      have hll := scnt_len l
      have hlk := Nd.cnts_len ks
      have hlen : ((l ++ [(Nd.mk a b c ks, d)]).length : Int) = (l.length : Int) + 1 := by simp
      have hw : IntKind.i64.wrap (((l ++ [(Nd.mk a b c ks, d)]).length : Int) - 1) = (l.length : Int) := by rw [hlen, wrap64_in (by omega) (by omega)]; omega
      rw [dec_t (by omega), cond_true, hw, at_get (by simp)]
      simp only [List.getElem_concat_length, Option.bind_some]
      rw [req_t (by omega)]
      simp only [m_node_Count_1, Option.bind_some, Int.toNat_natCast, List.take_left]
      obtain ⟨l', h1, h2⟩ := each_loop2 (ks := ks) (d := d) n 0 l (by omega) (by omega) (by simp; omega) (by omega)
      rw [List.drop_zero] at h2
      rw [show ((0 : Nat) : Int) = 0 from rfl] at h1
      rw [h1, Option.bind_some, wi_succ (by omega), each_loop1 n k (x + 1) l' (by omega) (by omega) (by omega)]
      congr 2; omega
theorem node_Count_eq (n : Nat) (t : Nd) (h : t.cnt < n) (hb : t.cnt ≤ 67108864) : m_node_Count n t = some (t.cnt : Int) := by
  obtain ⟨a, b, c, ks⟩ := t
  have := each_loop1 n n 0 [(.mk a b c ks, 1)] (by simpa [scnt] using h) (by simpa [scnt] using h) (by simp only [scnt]; omega)
  rw [show ((0 : Nat) : Int) = 0 from rfl] at this
  simp only [m_node_Count, m_node_each, this, Option.bind_some, scnt]
  congr 2; omega
theorem left_loop {F : Nd → Int → Option Int} {ks : List Nd} {b : Nat} (hF : ∀ (v : Nd) (m : Nat), m ≤ b → ∃ r, F v (m : Int) = some r ∧ -1 ≤ r ∧ r < m ∧ (0 ≤ r → r + v.cnt = m)) :
    ∀ (k i : Nat) (m : Int), m + 1 < k → -1 ≤ m → m ≤ b → i ≤ ks.length → (i : Int) + m < 4611686018427387904 → ∃ r, m_r09_left_l1 F ks k m (i : Int) = some r ∧ -1 ≤ r ∧ r ≤ m ∧ (0 ≤ r → r + Nd.cnts (ks.drop i) = m)
  | 0, _, _, h, _, _, _, _ => by omega
  | k + 1, i, m, hk, hm, hb, hi, hx => by
    unfold m_r09_left_l1
    by_cases h : i < ks.length
    · rw [dec_t (Int.ofNat_lt.2 h), cond_true]
      simp only [Option.bind_some]
      by_cases h0 : 0 ≤ m
      · rw [dec_t h0, cond_true, at_get h]
        have hd := Nd.cnts_drop h
        rcases e : ks[i] with ⟨e1, e2, e3, e4⟩
        rw [e] at hd
        simp only [Option.bind_some]
        obtain ⟨m', rfl⟩ := Int.eq_ofNat_of_zero_le h0
        obtain ⟨r, h1, h2, h3, h4⟩ := hF (.mk e1 e2 e3 e4) m' (by omega)
        rw [h1, Option.bind_some, wi_succ (by omega)]
        obtain ⟨r', g1, g2, g3, g4⟩ := left_loop (ks := ks) hF k (i + 1) r (by omega) h2 (by omega) (by omega) (by omega)
        exact ⟨r', g1, g2, by omega, fun g => by have := g4 g; have := h4 (by omega); omega⟩
      · rw [dec_f h0, cond_false]
        exact ⟨m, rfl, hm, Int.le_refl _, fun g => by omega⟩
    · rw [dec_f (by omega), cond_false]
      simp only [Option.bind_some, cond_false]
      obtain rfl : i = ks.length := by omega
      exact ⟨m, rfl, hm, Int.le_refl _, fun _ => by simp [Nd.cnts]⟩
theorem left_eq : ∀ (n : Nat) (t : Nd) (m : Nat), m + 1 < n → m ≤ 67108864 → ∃ r, m_r09_left n t (m : Int) = some r ∧ -1 ≤ r ∧ r < m ∧ (0 ≤ r → r + t.cnt = m)
  | 0, _, _, h, _ => by omega
  | n + 1, .mk a b c ks, m, h, hm => by
    unfold m_r09_left
    rw [wrap64_in (by omega) (by omega)]
    cases m with
    | zero =>
      cases n with
      | zero => omega
      | succ n =>
        refine ⟨-1, ?_, by omega, by omega, fun h => by omega⟩
        unfold m_r09_left_l1
        cases decide (((0 : Nat) : Int) < (ks.length : Int)) <;> simp <;> rfl
    | succ m =>
      obtain ⟨r, h1, h2, h3, h4⟩ := left_loop (F := m_r09_left n) (ks := ks) (b := m) (fun v q hq => left_eq n v q (by omega) (by omega)) n 0 (m : Int) (by omega) (by omega) (by omega) (by omega) (by omega)
      rw [show ((0 : Nat) : Int) = 0 from rfl] at h1
      rw [show ((m + 1 : Nat) : Int) - 1 = (m : Int) by omega, h1]
      exact ⟨r, rfl, h2, by omega, fun g => by have := h4 g; rw [List.drop_zero] at this; simp only [Nd.cnt]; omega⟩
theorem Few_eq (n : Nat) (t : Nd) (m : Nat) (h : m + 1 < n) (hm : m ≤ 67108864) : ∃ b, m_r09_Few n t (m : Int) = some b ∧ (b = true → t.cnt ≤ m) := by
  obtain ⟨a, b, c, ks⟩ := t
  obtain ⟨r, h1, h2, h3, h4⟩ := left_eq n (.mk a b c ks) m h hm
  refine ⟨decide (0 ≤ r), by simp [m_r09_Few, h1], fun g => by have g0 := of_decide_eq_true g; have := h4 g0; omega⟩
end Go.Proofs.YtgfneloodabafaaDoor
namespace Go.Proofs.YtgfneloodabafaaDoor
open Go.Abs
def allFl {α : Type} (p : α → Bool) (l : List α) : Fl Bool Unit := if l.all p then .go () else .ret false
theorem all_drop {α : Type} {p : α → Bool} {l : List α} {i : Nat} (h : i < l.length) : (l.drop i).all p = (p l[i] && (l.drop (i + 1)).all p) := by
  rw [List.drop_eq_getElem_cons h]; rfl
theorem loop_all {α : Type} {p : α → Bool} {l : List α} (L : Nat → Int → Option (Fl Bool Unit)) (hb : l.length ≤ 1073741824)
    (h1 : ∀ (k i : Nat) (h : i < l.length), L (k + 1) (i : Int) = if p l[i] then L k (((i + 1 : Nat)) : Int) else some (.ret false)) (h2 : ∀ k, L (k + 1) (l.length : Int) = some (.go ())) :
    ∀ (k i : Nat), l.length - i < k → i ≤ l.length → L k (i : Int) = some (allFl p (l.drop i))
  | 0, _, h, _ => by omega
  | k + 1, i, hk, hi => by
    by_cases h : i < l.length
    · rw [h1 k i h, loop_all L hb h1 h2 k (i + 1) (by omega) (by omega)]
      unfold allFl
      rw [all_drop h]
      cases p l[i] <;> simp
    · obtain rfl : i = l.length := by omega
      rw [h2]; simp [allFl]
theorem u8_all {P : UInt8 → Bool} (h : (List.range 256).all (fun n => P n.toUInt8) = true) (b : UInt8) : P b = true := by
  have : P (UInt8.ofNat b.toNat) = true := List.all_eq_true.1 h b.toNat (List.mem_range.2 b.toNat_lt)
  rwa [UInt8.ofNat_toNat] at this
def letterB (b : UInt8) : Bool := (decide (97 ≤ b.toNat) && decide (b.toNat ≤ 122)) || (decide (65 ≤ b.toNat) && decide (b.toNat ≤ 90))
def digitB (b : UInt8) : Bool := decide (48 ≤ b.toNat) && decide (b.toNat ≤ 57)
def printB (b : UInt8) : Bool := decide (32 ≤ b.toNat) && decide (b.toNat ≤ 126)
theorem byte_letter1 (b : UInt8) : (bif decide ((bitOp .or .u8 (b.toNat : Int) 32) < 97) then some true else some (decide (122 < (bitOp .or .u8 (b.toNat : Int) 32)))) = some (!letterB b) :=
  of_decide_eq_true (u8_all (P := fun b => decide ((bif decide ((bitOp .or .u8 (b.toNat : Int) 32) < 97) then some true else some (decide (122 < (bitOp .or .u8 (b.toNat : Int) 32)))) = some (!letterB b))) (by decide +kernel) b)
theorem node_letters_eq (n : Nat) (s : List UInt8) (h : s.length < n) (hb : s.length ≤ 1073741824) : m_node_letters n s = some (s.all letterB) := by
  have := loop_all (p := letterB) (l := s) (m_node_letters_l1 s) hb (fun k i h => by
    rw [m_node_letters_l1, dec_t (Int.ofNat_lt.2 h), cond_true, at_get h]
    simp only [Option.bind_some, byte_letter1]
    rw [wi_succ (by omega)]
    cases letterB s[i] <;> rfl) (fun k => by rw [m_node_letters_l1, dec_f (by omega)]; rfl) n 0 (by omega) (by omega)
  rw [show ((0 : Nat) : Int) = 0 from rfl, List.drop_zero] at this
  rw [m_node_letters, this]
  unfold allFl
  cases s.all letterB <;> rfl
theorem node_digits_eq (n : Nat) (s : List UInt8) (h : s.length < n) (hb : s.length ≤ 1073741824) : m_node_digits n s = some (s.all digitB && !(s == [])) := by
  have := loop_all (p := digitB) (l := s) (m_node_digits_l1 s) hb (fun k i h => by
    rw [m_node_digits_l1, dec_t (Int.ofNat_lt.2 h), cond_true, at_get h]
    simp only [Option.bind_some]
    rw [wi_succ (by omega)]
    unfold digitB
    by_cases a : 48 ≤ s[i].toNat
    · by_cases b : s[i].toNat ≤ 57
      · simp [a, b, show ¬ ((s[i].toNat : Int) < 48) by omega, show ¬ (57 < (s[i].toNat : Int)) by omega]
      · simp [a, b, show ¬ ((s[i].toNat : Int) < 48) by omega, show (57 < (s[i].toNat : Int)) by omega]
    · simp [a, show ((s[i].toNat : Int) < 48) by omega]) (fun k => by rw [m_node_digits_l1, dec_f (by omega)]; rfl) n 0 (by omega) (by omega)
  rw [show ((0 : Nat) : Int) = 0 from rfl, List.drop_zero] at this
  rw [m_node_digits, this]
  unfold allFl
  cases s.all digitB <;> rfl
theorem print_bit (b : UInt8) : (bif decide ((b.toNat : Int) < 32) then some true else some (decide (126 < (b.toNat : Int))) : Option Bool) = some (!printB b) := by
  unfold printB
  by_cases a : 32 ≤ b.toNat
  · by_cases c : b.toNat ≤ 126
    · simp [a, c, show ¬ ((b.toNat : Int) < 32) by omega, show ¬ (126 < (b.toNat : Int)) by omega]
    · simp [a, c, show ¬ ((b.toNat : Int) < 32) by omega, show (126 < (b.toNat : Int)) by omega]
  · simp [a, show ((b.toNat : Int) < 32) by omega]
theorem node_plain_eq (n : Nat) (s : List UInt8) (h : s.length < n) (hb : s.length ≤ 1073741824) : m_node_plain n s = some (s.all printB && decide ((s.length : Int) ≤ 200)) := by
  have := loop_all (p := printB) (l := s) (m_node_plain_l1 s) hb (fun k i h => by
    rw [m_node_plain_l1, dec_t (Int.ofNat_lt.2 h), cond_true, at_get h]
    simp only [Option.bind_some, print_bit]
    rw [wi_succ (by omega)]
    cases printB s[i] <;> rfl) (fun k => by rw [m_node_plain_l1, dec_f (by omega)]; rfl) n 0 (by omega) (by omega)
  rw [show ((0 : Nat) : Int) = 0 from rfl, List.drop_zero] at this
  rw [m_node_plain, this]
  unfold allFl
  cases s.all printB <;> rfl
end Go.Proofs.YtgfneloodabafaaDoor
namespace Go.Proofs.YtgfneloodabafaaDoor
open Go.Abs
def spL : List UInt8 := [43, 45, 42, 47, 61, 60, 62, 44, 59, 58, 33, 124, 39, 63, 126, 64]
def fsL : List UInt8 := [40, 41, 91, 93, 123, 125, 60, 62, 47, 124, 46]
def kwL : List (List UInt8) := [[102, 114, 97, 99], [114, 111, 111, 116], [109, 97, 116, 114, 105, 120], [102, 101, 110, 99, 101]]
def acL : List (List UInt8) := [[104, 97, 116], [98, 97, 114], [118, 101, 99], [100, 111, 116], [116, 105, 108, 100, 101], [99, 104, 101, 99, 107]]
def spB (c : UInt8) : Bool := decide (0 ≤ Lib.indexByte spL c)
def fsB (c : UInt8) : Bool := decide (0 ≤ Lib.indexByte fsL c)
theorem byte_fs1 (c : UInt8) : Lib.indexByte fsL ((c.toNat : Int).toNat.toUInt8) = Lib.indexByte fsL c := by
  rw [Int.toNat_natCast]; congr 1; exact UInt8.ofNat_toNat
theorem bcomm (e s : List UInt8) : (e == s) = (s == e) := by
  rw [Bool.eq_iff_iff]; simp only [beq_iff_eq]; exact eq_comm
theorem node_keyword_eq (s : List UInt8) : m_node_keyword s = some (kwL.any fun e => e == s) := by
  simp only [m_node_keyword, kwL, List.any_cons, List.any_nil, bcomm [102, 114, 97, 99] s, bcomm [114, 111, 111, 116] s, bcomm [109, 97, 116, 114, 105, 120] s, bcomm [102, 101, 110, 99, 101] s]
  generalize (s == [102, 114, 97, 99]) = b1
  generalize (s == [114, 111, 111, 116]) = b2
  generalize (s == [109, 97, 116, 114, 105, 120]) = b3
  generalize (s == [102, 101, 110, 99, 101]) = b4
  cases b1 <;> cases b2 <;> cases b3 <;> cases b4 <;> rfl
theorem node_accent_eq (s : List UInt8) : m_node_accent s = some (acL.any fun e => e == s) := by
  simp only [m_node_accent, acL, List.any_cons, List.any_nil, bcomm [104, 97, 116] s, bcomm [98, 97, 114] s, bcomm [118, 101, 99] s, bcomm [100, 111, 116] s, bcomm [116, 105, 108, 100, 101] s, bcomm [99, 104, 101, 99, 107] s]
  generalize (s == [104, 97, 116]) = b1
  generalize (s == [98, 97, 114]) = b2
  generalize (s == [118, 101, 99]) = b3
  generalize (s == [100, 111, 116]) = b4
  generalize (s == [116, 105, 108, 100, 101]) = b5
  generalize (s == [99, 104, 101, 99, 107]) = b6
  cases b1 <;> cases b2 <;> cases b3 <;> cases b4 <;> cases b5 <;> cases b6 <;> rfl
def symB (s : List UInt8) : Bool :=
  if s.length = 1 then s.all letterB || s.all spB
  else s.all letterB && (decide (2 ≤ s.length) && (decide (s.length ≤ 16) && (!(kwL.any fun e => e == s) && !(acL.any fun e => e == s))))
theorem len1 (s : List UInt8) : ((s.length : Int) == 1) = decide (s.length = 1) := by
  by_cases h : s.length = 1
  · simp [h]
  · rw [dec_f h]
    cases e : ((s.length : Int) == 1) with
    | false => rfl
    | true => have := eq_of_beq e; omega
theorem cast_le (a b : Nat) : decide ((a : Int) ≤ (b : Int)) = decide (a ≤ b) := by
  by_cases h : a ≤ b
  · rw [dec_t h, dec_t (by omega)]
  · rw [dec_f h, dec_f (by omega)]
theorem node_Symbol_eq (n : Nat) (s : List UInt8) (h : s.length + 40 < n) (hb : s.length ≤ 1073741824) : m_node_Symbol n s = some (symB s) := by
  rw [m_node_Symbol, len1, node_letters_eq n s (by omega) hb]
  unfold symB
  by_cases h1 : s.length = 1
  · rw [dec_t h1, if_pos h1]
    obtain ⟨c, rfl⟩ := List.length_eq_one_iff.1 h1
    have : m_strings_Contains [43, 45, 42, 47, 61, 60, 62, 44, 59, 58, 33, 124, 39, 63, 126, 64] [c] = some (spB c) := rfl
    simp only [cond_true, Option.bind_some, this, List.all_cons, List.all_nil, Bool.and_true]
    cases letterB c <;> rfl
  · rw [dec_f h1, if_neg h1]
    have e2 := cast_le 2 s.length
    have e16 := cast_le s.length 16
    rw [show ((2 : Nat) : Int) = 2 from rfl] at e2
    rw [show ((16 : Nat) : Int) = 16 from rfl] at e16
    simp only [cond_false, Option.bind_some, node_keyword_eq, node_accent_eq, e2, e16]
    cases s.all letterB <;> cases decide (2 ≤ s.length) <;> cases decide (s.length ≤ 16) <;> cases (kwL.any fun e => e == s) <;> rfl
def fenB (s : List UInt8) : Bool := decide (s.length = 2) && s.all fsB
theorem len2 (s : List UInt8) : ((s.length : Int) == 2) = decide (s.length = 2) := by
  by_cases h : s.length = 2
  · simp [h]
  · rw [dec_f h]
    cases e : ((s.length : Int) == 2) with
    | false => rfl
    | true => have := eq_of_beq e; omega
theorem node_fence_eq (s : List UInt8) : m_node_fence s = some (fenB s) := by
  rw [m_node_fence, len2]
  unfold fenB
  by_cases h1 : s.length = 2
  · rw [dec_t h1]
    match s, h1 with
    | [c, d], _ =>
      have e0 : at? [c, d] (0 : Int) = some c := rfl
      have e1 : at? [c, d] (1 : Int) = some d := rfl
      have f : ∀ c : UInt8, m_strings_IndexByte [40, 41, 91, 93, 123, 125, 60, 62, 47, 124, 46] (c.toNat : Int) = some (Lib.indexByte fsL c) := fun c => congrArg some (byte_fs1 c)
      have g : ∀ c : UInt8, decide (0 ≤ Lib.indexByte fsL c) = fsB c := fun c => rfl
      simp only [cond_true, e0, e1, f, Option.bind_some, g, List.all_cons, List.all_nil, Bool.and_true, Bool.true_and]
      cases fsB c <;> rfl
  · rw [dec_f h1]; rfl
def okL (L : Nat) : Nat → List UInt8 → Bool
  | _, [] => true
  | i, c :: r => ((c == 46 && (decide (0 < i) && decide (i + 1 < L))) || digitB c) && okL L (i + 1) r
def numB (s : List UInt8) : Bool := okL s.length 0 s && (decide (0 < s.length) && (decide (s.length ≤ 20) && decide (s.count 46 ≤ 1)))
theorem dig46 : digitB 46 = false := by decide
theorem cut_cases : ∀ s : List UInt8, (s.count 46 = 0 ∧ Lib.indexByte s 46 = -1) ∨ ∃ a b, s = a ++ 46 :: b ∧ a.count 46 = 0 ∧ Lib.indexByte s 46 = (a.length : Int)
  | [] => .inl ⟨rfl, rfl⟩
  | c :: s => by
    by_cases h : c = 46
    · subst h
      exact .inr ⟨[], s, rfl, rfl, by simp [Lib.indexByte]⟩
    · have hc : (c == 46) = false := by simpa using h
      rcases cut_cases s with ⟨h1, h2⟩ | ⟨a, b, rfl, h1, h2⟩
      · exact .inl ⟨by rw [List.count_cons, h1, hc]; rfl, by simp [Lib.indexByte, hc, h2]⟩
      · refine .inr ⟨c :: a, b, rfl, by rw [List.count_cons, h1, hc]; rfl, ?_⟩
        have h3 : ((a.length : Int) == -1) = false := by
          cases e : ((a.length : Int) == -1) with
          | false => rfl
          | true => have := eq_of_beq e; omega
        simp [Lib.indexByte, hc, h2, h3]
theorem okL_plain (L : Nat) : ∀ (i : Nat) (a : List UInt8), a.count 46 = 0 → okL L i a = a.all digitB
  | _, [], _ => rfl
  | i, c :: a, h => by
    have hc : (c == 46) = false := by
      cases e : c == 46 with
      | false => rfl
      | true => rw [List.count_cons, e] at h; simp at h
    rw [List.count_cons, hc] at h
    rw [okL, hc, okL_plain L (i + 1) a (by simpa using h)]
    simp
theorem okL_append (L : Nat) : ∀ (i : Nat) (a b : List UInt8), okL L i (a ++ b) = (okL L i a && okL L (i + a.length) b)
  | _, [], b => by simp [okL]
  | i, c :: a, b => by
    simp only [List.cons_append, okL, okL_append L (i + 1) a b, List.length_cons, Bool.and_assoc, show i + 1 + a.length = i + (a.length + 1) by omega]
theorem dig_no46 : ∀ a : List UInt8, a.all digitB = true → a.count 46 = 0
  | [], _ => rfl
  | c :: a, h => by
    simp only [List.all_cons, Bool.and_eq_true] at h
    have hc : (c == 46) = false := by
      cases e : c == 46 with
      | false => rfl
      | true => obtain rfl : c = 46 := eq_of_beq e; simp [dig46] at h
    rw [List.count_cons, hc, dig_no46 a h.2]; rfl
theorem num_cut (a b : List UInt8) (ha : a.count 46 = 0) : numB (a ++ 46 :: b) = (decide ((a ++ 46 :: b).length ≤ 20) && ((a.all digitB && !(a == [])) && (b.all digitB && !(b == [])))) := by
  unfold numB
  have hl : (a ++ 46 :: b).length = a.length + (b.length + 1) := by simp
  rw [okL_append, okL_plain _ _ a ha, hl]
  simp only [okL, dig46, Bool.or_false, List.count_append, List.count_cons, ha, beq_self_eq_true, Bool.true_and, if_true, Nat.zero_add]
  have e1 : decide (0 < a.length) = !(a == []) := by cases a <;> rfl
  have e2 : decide (a.length + 1 < a.length + (b.length + 1)) = !(b == []) := by
    cases b with
    | nil => simp
    | cons c b => simp
  have e3 : decide (0 < a.length + (b.length + 1)) = true := dec_t (by omega)
  rw [e1, e2, e3]
  cases hb : b.all digitB with
  | true =>
    rw [okL_plain _ _ b (dig_no46 b hb), hb, dig_no46 b hb]
    cases a.all digitB <;> cases a == [] <;> cases b == [] <;> cases decide (a.length + (b.length + 1) ≤ 20) <;> rfl
  | false =>
    cases hc : decide (b.count 46 + 1 ≤ 1) with
    | true =>
      have : b.count 46 = 0 := by have := of_decide_eq_true hc; omega
      rw [okL_plain _ _ b this, hb]
      cases a.all digitB <;> cases a == [] <;> cases b == [] <;> cases decide (a.length + (b.length + 1) ≤ 20) <;> rfl
    | false =>
      generalize okL _ _ b = z
      cases z <;> cases a.all digitB <;> cases a == [] <;> cases b == [] <;> cases decide (a.length + (b.length + 1) ≤ 20) <;> rfl
theorem num_plain (s : List UInt8) (h : s.count 46 = 0) : numB s = (decide (s.length ≤ 20) && (s.all digitB && !(s == []))) := by
  unfold numB
  rw [okL_plain _ _ s h, h]
  have e1 : decide (0 < s.length) = !(s == []) := by cases s <;> rfl
  rw [e1]
  cases s.all digitB <;> cases s == [] <;> cases decide (s.length ≤ 20) <;> rfl
theorem node_Number_eq (n : Nat) (s : List UInt8) (h : s.length < n) (hb : s.length ≤ 1073741824) : m_node_Number n s = some (numB s) := by
  have e20 := cast_le s.length 20
  rw [show ((20 : Nat) : Int) = 20 from rfl] at e20
  have hi : m_stringslite_Index s [46] = some (Lib.indexByte s 46) := rfl
  rcases cut_cases s with ⟨h1, h2⟩ | ⟨a, b, rfl, h1, h2⟩
  · rw [num_plain s h1]
    simp only [m_node_Number, m_strings_Cut, m_stringslite_Cut, hi, h2, Option.bind_some, show decide ((0 : Int) ≤ -1) = false from rfl, cond_false, e20, node_digits_eq n s h hb]
    cases decide (s.length ≤ 20) <;> cases (s.all digitB && !(s == [])) <;> rfl
  · have hl : (a ++ 46 :: b).length = a.length + (b.length + 1) := by simp
    rw [num_cut a b h1]
    have w1 : IntKind.i64.wrap ((a.length : Int) + (([46] : List UInt8).length : Int)) = ((a.length + 1 : Nat) : Int) := wi_succ (by omega)
    have t1 : ((a ++ 46 :: b).take ((a.length : Int)).toNat).drop (0 : Int).toNat = a := by simp
    have t2 : ((a ++ 46 :: b).take (((a ++ 46 :: b).length : Int)).toNat).drop (((a.length + 1 : Nat) : Int)).toNat = b := by
      rw [Int.toNat_natCast, Int.toNat_natCast, List.take_length, List.drop_append]
      simp
    simp only [m_node_Number, m_strings_Cut, m_stringslite_Cut, hi, h2, Option.bind_some, w1]
    rw [dec_t (by omega), cond_true, req_t (by omega), req_t (by omega), t1, t2]
    simp only [Option.bind_some, e20, node_digits_eq n a (by omega) (by omega), node_digits_eq n b (by omega) (by omega)]
    cases decide ((a ++ 46 :: b).length ≤ 20) <;> cases (a.all digitB && !(a == [])) <;> cases (b.all digitB && !(b == [])) <;> rfl
end Go.Proofs.YtgfneloodabafaaDoor
namespace Go.Proofs.YtgfneloodabafaaDoor
open Go.Abs
def Nd.kind : Nd → Int | .mk k _ _ _ => k
def textB (k : Int) (t : List UInt8) : Bool :=
  if k = 2 then symB t else if k = 3 then numB t else if k = 4 then (decide (t.length ≤ 200) && t.all printB) else if k = 10 then acL.any (fun e => e == t) else if k = 11 then fenB t else t == []
def kidsB (k c : Int) (m : Int) : Bool :=
  if k = 12 then decide (1 ≤ c) && (decide (c ≤ 16) && (decide (1 ≤ m) && (decide (m ≤ 256) && (m.tmod c == 0))))
  else (c == 0) && (if k = 1 then decide (m ≤ 200) else if k = 2 then m == 0 else if k = 3 then m == 0 else if k = 4 then m == 0 else if k = 5 then m == 2 else if k = 6 then m == 2 else if k = 7 then m == 2 else if k = 8 then m == 2
    else if k = 9 then m == 3 else if k = 10 then m == 1 else if k = 11 then m == 1 else false)
mutual
def formB : Nd → Bool
  | .mk k t c ks => (textB k t && kidsB k c (ks.length : Int)) && formsB k ks
def formsB : Int → List Nd → Bool
  | _, [] => true
  | k, v :: vs => (!((v.kind == 1) == (k == 1)) && formB v) && formsB k vs
end
mutual
def Nd.dep : Nd → Nat
  | .mk _ _ _ ks => Nd.deps ks + 1
def Nd.deps : List Nd → Nat
  | [] => 0
  | v :: vs => Nat.max v.dep (Nd.deps vs)
end
theorem forms_drop {k : Int} {a : List Nd} {i : Nat} (h : i < a.length) : formsB k (a.drop i) = ((!((a[i].kind == 1) == (k == 1)) && formB a[i]) && formsB k (a.drop (i + 1))) := by
  rw [List.drop_eq_getElem_cons h]; rfl
theorem deps_drop {a : List Nd} {i : Nat} (h : i < a.length) : Nd.deps (a.drop i) = Nat.max (a[i]).dep (Nd.deps (a.drop (i + 1))) := by
  rw [List.drop_eq_getElem_cons h]; rfl
mutual
theorem Nd.cnt_w : ∀ v : Nd, v.cnt ≤ v.w
  | .mk _ t _ ks => by have := Nd.cnts_ws ks; simp only [Nd.cnt, Nd.w]; omega
theorem Nd.cnts_ws : ∀ vs : List Nd, Nd.cnts vs ≤ Nd.ws vs
  | [] => Nat.le_refl _
  | v :: vs => by have := Nd.cnt_w v; have := Nd.cnts_ws vs; simp only [Nd.cnts, Nd.ws]; omega
end
theorem ne_beq {a b : Int} (h : a ≠ b) : (a == b) = false := by
  cases e : (a == b) with
  | false => rfl
  | true => exact absurd (eq_of_beq e) h
theorem kinds (k : Int) : k = 1 ∨ k = 2 ∨ k = 3 ∨ k = 4 ∨ k = 5 ∨ k = 6 ∨ k = 7 ∨ k = 8 ∨ k = 9 ∨ k = 10 ∨ k = 11 ∨ k = 12 ∨ (k < 1 ∨ 12 < k) := by omega
theorem own_eq (n : Nat) (x : Int) (k : Int) (t : List UInt8) (c : Int) (ks : List Nd) (h : t.length + 40 < n) (hb : t.length ≤ 1073741824) :
    m_node_checker_own n ((), x) (.mk k t c ks) = some (textB k t && kidsB k c (ks.length : Int), ((), x)) := by
  have e200 := cast_le t.length 200
  rw [show ((200 : Nat) : Int) = 200 from rfl] at e200
  unfold m_node_checker_own
  dsimp only
  generalize (ks.length : Int) = m
  have em : m_node_empty t = some (t == []) := rfl
  rcases kinds k with rfl | rfl | rfl | rfl | rfl | rfl | rfl | rfl | rfl | rfl | rfl | rfl | h
  · simp only [em]
    show _ = some ((t == []) && ((c == 0) && decide (m ≤ 200)), ((), x))
    cases t == [] <;> cases c == 0 <;> rfl
  · simp only [node_Symbol_eq n t h hb]
    show _ = some (symB t && ((c == 0) && (m == 0)), ((), x))
    cases symB t <;> cases c == 0 <;> rfl
  · simp only [node_Number_eq n t (by omega) hb]
    show _ = some (numB t && ((c == 0) && (m == 0)), ((), x))
    cases numB t <;> cases c == 0 <;> rfl
  · simp only [node_plain_eq n t (by omega) hb, e200]
    show _ = some ((decide (t.length ≤ 200) && t.all printB) && ((c == 0) && (m == 0)), ((), x))
    cases decide (t.length ≤ 200) <;> cases t.all printB <;> cases c == 0 <;> rfl
  · simp only [em]
    show _ = some ((t == []) && ((c == 0) && (m == 2)), ((), x))
    cases t == [] <;> cases c == 0 <;> rfl
  · simp only [em]
    show _ = some ((t == []) && ((c == 0) && (m == 2)), ((), x))
    cases t == [] <;> cases c == 0 <;> rfl
  · simp only [em]
    show _ = some ((t == []) && ((c == 0) && (m == 2)), ((), x))
    cases t == [] <;> cases c == 0 <;> rfl
  · simp only [em]
    show _ = some ((t == []) && ((c == 0) && (m == 2)), ((), x))
    cases t == [] <;> cases c == 0 <;> rfl
  · simp only [em]
    show _ = some ((t == []) && ((c == 0) && (m == 3)), ((), x))
    cases t == [] <;> cases c == 0 <;> rfl
  · simp only [node_accent_eq]
    show _ = some ((acL.any fun e => e == t) && ((c == 0) && (m == 1)), ((), x))
    cases (acL.any fun e => e == t) <;> cases c == 0 <;> rfl
  · simp only [node_fence_eq]
    show _ = some (fenB t && ((c == 0) && (m == 1)), ((), x))
    cases fenB t <;> cases c == 0 <;> rfl
  · simp only [em]
    show _ = some ((t == []) && (decide (1 ≤ c) && (decide (c ≤ 16) && (decide (1 ≤ m) && (decide (m ≤ 256) && (m.tmod c == 0))))), ((), x))
    by_cases h1 : 1 ≤ c
    · rw [dec_t h1, req_t (by omega)]
      generalize (m.tmod c == 0) = y
      cases t == [] <;> cases decide (c ≤ 16) <;> cases decide (1 ≤ m) <;> cases decide (m ≤ 256) <;> rfl
    · rw [dec_f h1]
      cases t == [] <;> rfl
  · have f : ∀ i : Int, 1 ≤ i → i ≤ 12 → k ≠ i := fun i h1 h2 => by omega
    have hk : kidsB k c m = false := by
      unfold kidsB
      rw [if_neg (f 12 (by decide) (by decide)), if_neg (f 1 (by decide) (by decide)), if_neg (f 2 (by decide) (by decide)), if_neg (f 3 (by decide) (by decide)), if_neg (f 4 (by decide) (by decide)), if_neg (f 5 (by decide) (by decide)),
        if_neg (f 6 (by decide) (by decide)), if_neg (f 7 (by decide) (by decide)), if_neg (f 8 (by decide) (by decide)), if_neg (f 9 (by decide) (by decide)), if_neg (f 10 (by decide) (by decide)), if_neg (f 11 (by decide) (by decide))]
      exact Bool.and_false _
    rw [hk, Bool.and_false]
    by_cases h1 : k < 1
    · rw [dec_t h1]; rfl
    · rw [dec_f h1, dec_t (show 12 < k by omega)]; rfl
def validB (t : Nd) : Bool := (t.kind == 1) && (formB t && (decide (t.cnt ≤ 1000) && decide (t.dep ≤ 24)))
abbrev okN (t : Nd) (x d : Nat) : Prop := formB t = true ∧ x + t.cnt ≤ 1000 ∧ d + t.dep ≤ 25
abbrev okNs (k : Int) (vs : List Nd) (x d : Nat) : Prop := formsB k vs = true ∧ x + Nd.cnts vs ≤ 1000 ∧ d + Nd.deps vs ≤ 24
theorem check_loop {F : (Unit × Int) → Nd → Int → Option (Bool × (Unit × Int))} {k : Int} {ks : List Nd} {d : Nat} (hd : d ≤ 24)
    (hF : ∀ v ∈ ks, ∀ x : Nat, x ≤ 1000 → ∃ y, F ((), (x : Int)) v ((d + 1 : Nat) : Int) = some (decide (okN v x (d + 1)), ((), y)) ∧ (okN v x (d + 1) → y = ((x + v.cnt : Nat) : Int))) (hl : ks.length ≤ 1073741824) :
    ∀ (q i x : Nat), ks.length - i < q → i ≤ ks.length → x ≤ 1000 →
      (okNs k (ks.drop i) x d ∧ m_node_checker_node_l1 F k ks (d : Int) q (x : Int) (i : Int) = some (.go ((x + Nd.cnts (ks.drop i) : Nat) : Int))) ∨
      (¬ okNs k (ks.drop i) x d ∧ ∃ z, m_node_checker_node_l1 F k ks (d : Int) q (x : Int) (i : Int) = some (.ret (false, ((), z))))
  | 0, _, _, h, _, _ => by omega
  | q + 1, i, x, hq, hi, hx => by
    unfold m_node_checker_node_l1
    by_cases h : i < ks.length
    · rw [dec_t (Int.ofNat_lt.2 h), cond_true, at_get h]
      obtain ⟨y, hf, hy⟩ := hF _ (List.getElem_mem h) x hx
      have g1 := forms_drop (k := k) h
      have g2 := Nd.cnts_drop h
      have g3 := deps_drop h
      rcases e : ks[i] with ⟨a, b, c, ds⟩
      rw [e] at hf hy g1 g2 g3
      simp only [Option.bind_some]
      rw [wi_succ (by omega), wi_succ (by omega), hf]
      simp only [Option.bind_some]
      have g4 : Nd.deps (ks.drop i) = Nat.max (Nd.mk a b c ds).dep (Nd.deps (ks.drop (i + 1))) := g3
      have g5 : (Nd.mk a b c ds).dep ≤ Nd.deps (ks.drop i) := by rw [g4]; exact Nat.le_max_left _ _
      have g6 : Nd.deps (ks.drop (i + 1)) ≤ Nd.deps (ks.drop i) := by rw [g4]; exact Nat.le_max_right _ _
      rw [show ((k == 1) == (a == 1)) = ((a == 1) == (k == 1)) by cases k == 1 <;> cases a == 1 <;> rfl]
      cases hkk : ((a == 1) == (k == 1)) with
      | true =>
        simp only [cond_true, Option.bind_some]
        refine .inr ⟨fun ⟨h1, _⟩ => ?_, _, rfl⟩
        rw [g1] at h1
        simp [Nd.kind, hkk] at h1
      | false =>
        simp only [cond_false, Option.bind_some]
        by_cases hok : okN (Nd.mk a b c ds) x (d + 1)
        · rw [dec_t hok]
          simp only [Bool.not_true, cond_false]
          rw [hy hok]
          have hp := (Nd.mk a b c ds).cnt_pos
          rcases check_loop hd hF hl q (i + 1) (x + (Nd.mk a b c ds).cnt) (by omega) (by omega) hok.2.1 with ⟨hr, hr2⟩ | ⟨hr, z, hr2⟩
          · refine .inl ⟨⟨?_, ?_, ?_⟩, ?_⟩
            · rw [g1, hr.1, hok.1]; simp [Nd.kind, hkk]
            · have := hr.2.1; omega
            · have := hr.2.2
              have := hok.2.2
              have : Nd.deps (ks.drop i) ≤ 24 - d := by rw [g4]; exact Nat.max_le.2 ⟨by omega, by omega⟩
              omega
            · rw [hr2, g2]; congr 3; omega
          · refine .inr ⟨fun ⟨h1, h2, h3⟩ => hr ⟨?_, by omega, by omega⟩, z, hr2⟩
            rw [g1] at h1
            simp only [Bool.and_eq_true] at h1
            exact h1.2
        · rw [dec_f hok]
          simp only [Bool.not_false, cond_true]
          refine .inr ⟨fun ⟨h1, h2, h3⟩ => hok ⟨?_, by omega, by omega⟩, y, rfl⟩
          rw [g1] at h1
          simp only [Bool.and_eq_true] at h1
          exact h1.1.2
    · rw [dec_f (by omega), cond_false]
      obtain rfl : i = ks.length := by omega
      rw [List.drop_length]
      exact .inl ⟨⟨rfl, hx, hd⟩, rfl⟩
theorem check_eq : ∀ (n : Nat) (t : Nd) (x d : Nat), t.w + 45 < n → t.w ≤ 67108864 → x ≤ 1000 → d ≤ 25 →
    ∃ y, m_node_checker_node n ((), (x : Int)) t (d : Int) = some (decide (okN t x d), ((), y)) ∧ (okN t x d → y = ((x + t.cnt : Nat) : Int))
  | 0, _, _, _, h, _, _, _ => by omega
  | n + 1, .mk k t c ks, x, d, h, hb, hx, hd => by
    simp only [Nd.w] at h hb
    have hl := Nd.ws_len ks
    unfold m_node_checker_node
    rw [wi_succ (by omega)]
    by_cases h1 : 1000 < ((x + 1 : Nat) : Int)
    · rw [dec_t h1]
      simp only [cond_true, Option.bind_some]
      have hn : ¬ okN (.mk k t c ks) x d := fun ⟨_, h2, _⟩ => by simp only [Nd.cnt] at h2; omega
      exact ⟨_, by rw [dec_f hn], fun h => absurd h hn⟩
    · rw [dec_f h1, cond_false]
      by_cases h2 : 24 < (d : Int)
      · rw [dec_t h2]
        simp only [cond_true, Option.bind_some]
        have hn : ¬ okN (.mk k t c ks) x d := fun ⟨_, _, h2⟩ => by simp only [Nd.dep] at h2; omega
        exact ⟨_, by rw [dec_f hn], fun h => absurd h hn⟩
      · rw [dec_f h2, cond_false, own_eq n _ k t c ks (by omega) (by omega)]
        simp only [Option.bind_some]
        cases ho : (textB k t && kidsB k c (ks.length : Int)) with
        | false =>
          simp only [Bool.not_false, cond_true]
          have hn : ¬ okN (.mk k t c ks) x d := fun ⟨h1, _⟩ => by rw [formB, ho] at h1; cases h1
          exact ⟨_, by rw [dec_f hn], fun h => absurd h hn⟩
        | true =>
          simp only [Bool.not_true, cond_false]
          have := check_loop (F := m_node_checker_node n) (k := k) (ks := ks) (d := d) (by omega) (fun v hv z hz => check_eq n v z (d + 1) (by have := Nd.w_mem hv; omega) (by have := Nd.w_mem hv; omega) hz (by omega)) (by omega) n 0 (x + 1) (by omega) (by omega) (by omega)
          rw [show ((0 : Nat) : Int) = 0 from rfl, List.drop_zero] at this
          rcases this with ⟨hr, hr2⟩ | ⟨hr, z, hr2⟩
          · have hy : okN (.mk k t c ks) x d := ⟨by rw [formB, ho, hr.1]; rfl, by have := hr.2.1; simp only [Nd.cnt]; omega, by have := hr.2.2; simp only [Nd.dep]; omega⟩
            rw [hr2]
            exact ⟨_, by rw [dec_t hy]; rfl, fun _ => by simp only [Nd.cnt]; omega⟩
          · have hn : ¬ okN (.mk k t c ks) x d := fun ⟨g1, g2, g3⟩ => hr ⟨by rw [formB, ho] at g1; exact g1, by simp only [Nd.cnt] at g2; omega, by simp only [Nd.dep] at g3; omega⟩
            rw [hr2]
            exact ⟨_, by rw [dec_f hn]; rfl, fun h => absurd h hn⟩
theorem node_Valid_eq (n : Nat) (t : Nd) (h : t.w + 45 < n) (hb : t.w ≤ 67108864) : m_node_Valid n t = some (validB t) := by
  obtain ⟨y, h1, _⟩ := check_eq n t 0 1 h hb (by omega) (by omega)
  rw [show ((0 : Nat) : Int) = 0 from rfl, show ((1 : Nat) : Int) = 1 from rfl] at h1
  obtain ⟨k, s, c, ks⟩ := t
  unfold m_node_Valid validB
  have hk : m_node_kinds = some () := rfl
  simp only [hk, h1, Option.bind_some, Nd.kind]
  cases k == 1 with
  | false => rfl
  | true =>
    simp only [cond_true, Option.bind_some, Bool.true_and, Option.some.injEq, okN]
    cases formB (.mk k s c ks) with
    | false => simp
    | true =>
      by_cases g1 : (Nd.mk k s c ks).cnt ≤ 1000
      · by_cases g2 : (Nd.mk k s c ks).dep ≤ 24
        · rw [dec_t g1, dec_t g2, dec_t ⟨rfl, by omega, by omega⟩]; rfl
        · rw [dec_t g1, dec_f g2, dec_f (fun h => g2 (by omega))]; rfl
      · rw [dec_f g1, dec_f (fun h => g1 (by omega))]; rfl
end Go.Proofs.YtgfneloodabafaaDoor
namespace Go.Proofs.YtgfneloodabafaaDoor
open Go.Abs
def Nd.text : Nd → List UInt8 | .mk _ t _ _ => t
def Nd.cols : Nd → Int | .mk _ _ c _ => c
theorem Nd.cnt_kids : ∀ x : Nd, x.cnt = Nd.cnts x.kids + 1
  | .mk _ _ _ _ => rfl
def alikeB (x y : Nd) : Bool := (x.kind == y.kind) && (((x.kids.length : Int) == (y.kids.length : Int)) && (x.cols == y.cols))
def rowD (P : Nd → Nd → Nat) (x : Nd) (f : List Nd → Nat) : List Nd → Nat
  | [] => x.cnt + f []
  | y :: ys => if alikeB x y then min (min (x.cnt + f (y :: ys)) (y.cnt + rowD P x f ys)) (P x y + f ys) else min (x.cnt + f (y :: ys)) (y.cnt + rowD P x f ys)
def TD (P : Nd → Nd → Nat) : List Nd → List Nd → Nat
  | [] => Nd.cnts
  | x :: xs => rowD P x (TD P xs)
def sumD (f : List Nd → List Nd → Nat) : List Nd → List Nd → Nat
  | u :: us, v :: vs => f u.kids v.kids + sumD f us vs
  | _, _ => 0
def txt (x y : Nd) : Nat := bif x.text == y.text then 0 else 1
def PD : Nat → Nd → Nd → Nat
  | 0, _, _ => 0
  | n + 1, x, y => txt x y + sumD (TD (PD n)) x.kids y.kids
def D (x y : Nd) : Nat := PD x.cnt x y
def DL (a b : List Nd) : Nat := TD D a b
theorem rowD_congr {P P' : Nd → Nd → Nat} {x : Nd} {f : List Nd → Nat} (h : ∀ y, P x y = P' x y) : ∀ b, rowD P x f b = rowD P' x f b
  | [] => rfl
  | y :: ys => by simp only [rowD, rowD_congr h ys, h]
theorem TD_congr {P P' : Nd → Nd → Nat} : ∀ {a : List Nd}, (∀ x ∈ a, ∀ y, P x y = P' x y) → TD P a = TD P' a
  | [], _ => rfl
  | x :: xs, h => by
    rw [TD, TD, TD_congr fun x hx => h x (List.mem_cons_of_mem _ hx)]
    exact funext (rowD_congr (h x List.mem_cons_self))
theorem sumD_congr {f g : List Nd → List Nd → Nat} : ∀ {us : List Nd} (vs : List Nd), (∀ u ∈ us, f u.kids = g u.kids) → sumD f us vs = sumD g us vs
  | [], vs, _ => by cases vs <;> rfl
  | u :: us, [], _ => rfl
  | u :: us, v :: vs, h => by
    rw [sumD, sumD, h u List.mem_cons_self, sumD_congr vs fun u hu => h u (List.mem_cons_of_mem _ hu)]
theorem PD_stable : ∀ (n m : Nat) (x y : Nd), x.cnt ≤ n → x.cnt ≤ m → PD n x y = PD m x y
  | 0, _, x, _, h, _ => by have := x.cnt_pos; omega
  | _ + 1, 0, x, _, _, h => by have := x.cnt_pos; omega
  | n + 1, m + 1, x, y, h1, h2 => by
    rw [PD, PD]
    congr 1
    refine sumD_congr _ fun u hu => TD_congr fun x' hx' y' => ?_
    have e1 := x.cnt_kids
    have e2 := u.cnt_kids
    have e3 := Nd.cnts_mem hu
    have e4 := Nd.cnts_mem hx'
    exact PD_stable n m x' y' (by omega) (by omega)
theorem D_eq (x y : Nd) : D x y = txt x y + sumD DL x.kids y.kids := by
  unfold D DL
  have e1 := x.cnt_kids
  rw [e1, PD]
  congr 1
  refine sumD_congr _ fun u hu => TD_congr fun x' hx' y' => ?_
  have e2 := u.cnt_kids
  have e3 := Nd.cnts_mem hu
  have e4 := Nd.cnts_mem hx'
  exact PD_stable _ _ x' y' (by omega) (Nat.le_refl _)
theorem rowD_le {P : Nd → Nd → Nat} {x : Nd} {f : List Nd → Nat} {c : Nat} (h : ∀ b, f b ≤ c + Nd.cnts b) : ∀ b, rowD P x f b ≤ x.cnt + c + Nd.cnts b
  | [] => by have := h []; simp only [rowD]; omega
  | y :: ys => by
    have h1 := h (y :: ys)
    have : rowD P x f (y :: ys) ≤ x.cnt + f (y :: ys) := by
      simp only [rowD]
      split
      · exact Nat.le_trans (Nat.min_le_left _ _) (Nat.min_le_left _ _)
      · exact Nat.min_le_left _ _
    omega
theorem TD_le {P : Nd → Nd → Nat} : ∀ a b : List Nd, TD P a b ≤ Nd.cnts a + Nd.cnts b
  | [], b => by simp [TD, Nd.cnts]
  | x :: xs, b => by
    have := rowD_le (P := P) (x := x) (TD_le (P := P) xs) b
    simp only [TD, Nd.cnts]; omega
theorem sumD_le : ∀ us vs : List Nd, sumD DL us vs ≤ Nd.cnts us + Nd.cnts vs
  | [], vs => by cases vs <;> simp [sumD]
  | u :: us, [] => by simp [sumD]
  | u :: us, v :: vs => by
    have h1 := sumD_le us vs
    have h2 : DL u.kids v.kids ≤ _ := TD_le u.kids v.kids
    have e1 := u.cnt_kids
    have e2 := v.cnt_kids
    simp only [sumD, Nd.cnts]; omega
theorem txt_le (x y : Nd) : txt x y ≤ 1 := by
  unfold txt
  cases x.text == y.text
  · exact Nat.le_refl _
  · exact Nat.zero_le _
theorem D_le (x y : Nd) : D x y ≤ x.cnt + y.cnt := by
  have h1 := sumD_le x.kids y.kids
  have h2 := txt_le x y
  have e1 := x.cnt_kids
  have e2 := y.cnt_kids
  rw [D_eq]; omega
def sufs (f : List Nd → Nat) : List Nd → List Int
  | [] => [(f [] : Int)]
  | y :: ys => (f (y :: ys) : Int) :: sufs f ys
theorem sufs_head (f : List Nd → Nat) : ∀ b, ∃ r, sufs f b = (f b : Int) :: r
  | [] => ⟨_, rfl⟩
  | y :: ys => ⟨_, rfl⟩
theorem sufs_headD (f : List Nd → Nat) (b : List Nd) : (sufs f b).headD 0 = (f b : Int) := by
  obtain ⟨r, h⟩ := sufs_head f b; rw [h]; rfl
def tabD (P : Nd → Nd → Nat) : List Nd → List Nd → List (List Int)
  | [], b => [sufs (TD P []) b]
  | x :: xs, b => sufs (TD P (x :: xs)) b :: tabD P xs b
theorem tabD_head (P : Nd → Nd → Nat) : ∀ a b, ∃ r, tabD P a b = sufs (TD P a) b :: r
  | [], b => ⟨_, rfl⟩
  | x :: xs, b => ⟨_, rfl⟩
theorem tab00 (P : Nd → Nd → Nat) (a b : List Nd) : ∃ r, at? (tabD P a b) 0 = some r ∧ at? r 0 = some (TD P a b : Int) := by
  obtain ⟨r, h⟩ := tabD_head P a b
  obtain ⟨r', h'⟩ := sufs_head (TD P a) b
  exact ⟨sufs (TD P a) b, by rw [h]; rfl, by rw [h']; rfl⟩
theorem min_pick (a b : Nat) : (if (a : Int) < (b : Int) then (a : Int) else (b : Int)) = ((min a b : Nat) : Int) := by
  by_cases h : (a : Int) < (b : Int)
  · rw [if_pos h, Nat.min_eq_left (by omega)]
  · rw [if_neg h, Nat.min_eq_right (by omega)]
theorem sum_drop {f : List Nd → List Nd → Nat} {a b : List Nd} {i : Nat} (h : i < a.length) (h' : i < b.length) : sumD f (a.drop i) (b.drop i) = f a[i].kids b[i].kids + sumD f (a.drop (i + 1)) (b.drop (i + 1)) := by
  rw [List.drop_eq_getElem_cons h, List.drop_eq_getElem_cons h']; rfl
theorem alike_len {x y : Nd} (h : alikeB x y = true) : x.kids.length = y.kids.length := by
  unfold alikeB at h
  simp only [Bool.and_eq_true] at h
  have := eq_of_beq h.2.1
  omega
end Go.Proofs.YtgfneloodabafaaDoor
namespace Go.Proofs.YtgfneloodabafaaDoor
open Go.Abs
def names12 : List (List UInt8) := [[114, 111, 119], [115, 121, 109], [110, 117, 109], [116, 101, 120, 116], [102, 114, 97, 99], [114, 111, 111, 116], [115, 117, 98], [115, 117, 112],
  [98, 111, 116, 104], [97, 99, 99, 101, 110, 116], [102, 101, 110, 99, 101], [109, 97, 116, 114, 105, 120]]
def kindName (k : Int) : List UInt8 := if 1 ≤ k ∧ k ≤ 12 then names12.getD (k.toNat - 1) [] else [110, 111, 100, 101] ++ Lib.itoa k
def escL : List UInt8 → List UInt8
  | [] => []
  | c :: r => if c = 34 ∨ c = 92 then 92 :: c :: escL r else c :: escL r
def textL (t : List UInt8) : List UInt8 := if t = [] then [] else 58 :: 34 :: (escL t ++ [34])
def colsL (c : Int) : List UInt8 := if c = 0 then [] else 42 :: Lib.itoa c
def headL (k : Int) (t : List UInt8) (c : Int) : List UInt8 := kindName k ++ (textL t ++ colsL c)
def kidsL : List UInt8 → List UInt8
  | [] => []
  | _ :: r => 40 :: (r ++ [41])
mutual
def dumpL : Nd → List UInt8
  | .mk k t c ks => headL k t c ++ kidsL (dumpsL ks)
def dumpsL : List Nd → List UInt8
  | [] => []
  | v :: vs => 32 :: (dumpL v ++ dumpsL vs)
end
theorem names12_ne : ∀ i < 12, names12.getD i [] ≠ [] := by decide
theorem kindName_ne (k : Int) : kindName k ≠ [] := by
  unfold kindName
  split
  · exact names12_ne _ (by omega)
  · simp
def hd (l : List UInt8) (s : List UInt8) : Prop := ∀ b r, l = b :: r → b ∈ s
theorem escL_len : ∀ t : List UInt8, (escL t).length ≤ 2 * t.length
  | [] => Nat.le_refl _
  | c :: r => by
    have := escL_len r
    simp only [escL]
    split <;> simp only [List.length_cons] <;> omega
theorem kindName_len {k : Int} (h : in64i k) : (kindName k).length ≤ 25 := by
  unfold kindName
  split
  · have : ∀ i < 12, (names12.getD i []).length ≤ 25 := by decide
    exact this _ (by omega)
  · have := Lib.itoa_length_le k h.1 h.2
    simp; omega
theorem headL_len {k : Int} {t : List UInt8} {c : Int} (hk : in64i k) (hc : in64i c) : (headL k t c).length ≤ 55 + 2 * t.length := by
  have h1 := kindName_len hk
  have h2 := escL_len t
  have h3 := Lib.itoa_length_le c hc.1 hc.2
  have h4 : (textL t).length ≤ 3 + 2 * t.length := by unfold textL; split <;> simp; omega
  have h5 : (colsL c).length ≤ 22 := by unfold colsL; split <;> simp; omega
  simp only [headL, List.length_append]; omega
theorem kidsL_len (l : List UInt8) : (kidsL l).length ≤ l.length + 1 := by cases l <;> simp [kidsL]
mutual
theorem dumpL_len : ∀ v : Nd, v.rng → (dumpL v).length ≤ 60 * v.w
  | .mk k t c ks, h => by
    have h1 := headL_len (t := t) h.1 h.2.1
    have h2 := dumpsL_len ks h.2.2
    have h3 := kidsL_len (dumpsL ks)
    simp only [dumpL, List.length_append, Nd.w]; omega
theorem dumpsL_len : ∀ vs : List Nd, Nd.rngs vs → (dumpsL vs).length ≤ 60 * Nd.ws vs
  | [], _ => by simp [dumpsL]
  | v :: vs, h => by
    have h1 := dumpL_len v h.1
    have h2 := dumpsL_len vs h.2
    simp only [dumpsL, List.length_cons, List.length_append, Nd.ws]; omega
end
theorem wb_eq (c : UInt8) (l : List UInt8) (h : l.length < 4294967296) : m_strings_Builder_WriteByte c l = some ((), l ++ [c]) := by
  unfold m_strings_Builder_WriteByte m_strings_Builder_copyCheck
  simp only [Option.bind_some]
  rw [req_t (by simp; omega)]
theorem ws_eq (s l : List UInt8) (h : l.length + s.length ≤ 4294967296) : m_strings_Builder_WriteString s l = some ((s.length : Int), (), l ++ s) := by
  unfold m_strings_Builder_WriteString m_strings_Builder_copyCheck
  simp only [Option.bind_some]
  rw [req_t h]
theorem ito_eq {n : Int} (h : in64i n) : m_strconv_Itoa n = some (Lib.itoa n) := by
  unfold m_strconv_Itoa
  exact req_t (show -9223372036854775808 ≤ n ∧ n ≤ 9223372036854775807 from h)
theorem byte_q (c : UInt8) : ((c.toNat : Int) == 34) = (c == 34) ∧ ((c.toNat : Int) == 92) = (c == 92) :=
  ⟨of_decide_eq_true (u8_all (P := fun c => decide (((c.toNat : Int) == 34) = (c == 34))) (by decide +kernel) c), of_decide_eq_true (u8_all (P := fun c => decide (((c.toNat : Int) == 92) = (c == 92))) (by decide +kernel) c)⟩
theorem escL_drop {t : List UInt8} {i : Nat} (h : i < t.length) : escL (t.drop i) = if t[i] = 34 ∨ t[i] = 92 then 92 :: t[i] :: escL (t.drop (i + 1)) else t[i] :: escL (t.drop (i + 1)) := by
  rw [List.drop_eq_getElem_cons h]; rfl
theorem head_loop (t : List UInt8) (ht : t.length ≤ 1073741824) : ∀ (k i : Nat) (l : List UInt8), t.length - i < k → i ≤ t.length → l.length + 2 * (t.length - i) < 4294967296 →
    m_node_dumper_head_l1 t k (i : Int) l = some (l ++ escL (t.drop i))
  | 0, _, _, h, _, _ => by omega
  | k + 1, i, l, hk, hi, hl => by
    unfold m_node_dumper_head_l1
    by_cases h : i < t.length
    · rw [dec_t (Int.ofNat_lt.2 h), cond_true, at_get h, escL_drop h]
      simp only [Option.bind_some, (byte_q t[i]).1, (byte_q t[i]).2]
      rw [wi_succ (by omega)]
      have e92 : b8of 92 = 92 := rfl
      by_cases h1 : t[i] = 34
      · rw [if_pos (.inl h1), show (t[i] == 34) = true from beq_iff_eq.2 h1, cond_true]
        simp only [Option.bind_some, cond_true]
        rw [e92, wb_eq _ _ (by omega)]
        simp only [Option.bind_some]
        rw [wb_eq _ _ (by simp; omega)]
        simp only [Option.bind_some]
        rw [head_loop t ht k (i + 1) _ (by omega) (by omega) (by simp; omega)]
        simp
      · rw [show (t[i] == 34) = false from beq_eq_false_iff_ne.2 h1, cond_false]
        simp only [Option.bind_some]
        by_cases h2 : t[i] = 92
        · rw [if_pos (.inr h2), show (t[i] == 92) = true from beq_iff_eq.2 h2, cond_true]
          try simp only [Option.bind_some, cond_true]
          rw [e92, wb_eq _ _ (by omega)]
          simp only [Option.bind_some]
          rw [wb_eq _ _ (by simp; omega)]
          simp only [Option.bind_some]
          rw [head_loop t ht k (i + 1) _ (by omega) (by omega) (by simp; omega)]
          simp [h2]
        · rw [if_neg (by intro h; exact h.elim h1 h2), show (t[i] == 92) = false from beq_eq_false_iff_ne.2 h2, cond_false]
          simp only [Option.bind_some]
          rw [wb_eq _ _ (by omega)]
          simp only [Option.bind_some]
          rw [head_loop t ht k (i + 1) _ (by omega) (by omega) (by simp; omega)]
          simp
    · rw [dec_f (by omega), cond_false]
      obtain rfl : i = t.length := by omega
      simp [escL]
theorem kindName_lit (k : Int) : kindName k = if k = 1 then [114, 111, 119] else if k = 2 then [115, 121, 109] else if k = 3 then [110, 117, 109] else if k = 4 then [116, 101, 120, 116]
  else if k = 5 then [102, 114, 97, 99] else if k = 6 then [114, 111, 111, 116] else if k = 7 then [115, 117, 98] else if k = 8 then [115, 117, 112]
  else if k = 9 then [98, 111, 116, 104] else if k = 10 then [97, 99, 99, 101, 110, 116] else if k = 11 then [102, 101, 110, 99, 101]
  else if k = 12 then [109, 97, 116, 114, 105, 120] else [110, 111, 100, 101] ++ Lib.itoa k := by
  rcases kinds k with rfl | rfl | rfl | rfl | rfl | rfl | rfl | rfl | rfl | rfl | rfl | rfl | hk
  all_goals first | rfl | skip
  unfold kindName
  rw [if_neg (by omega), if_neg (by omega), if_neg (by omega), if_neg (by omega), if_neg (by omega), if_neg (by omega), if_neg (by omega), if_neg (by omega), if_neg (by omega), if_neg (by omega), if_neg (by omega), if_neg (by omega), if_neg (by omega)]
theorem kind_in (k : Int) : (bif decide (1 ≤ k) then some (decide (k ≤ 12)) else some false : Option Bool) = some (decide (1 ≤ k ∧ k ≤ 12)) := by
  by_cases h : 1 ≤ k
  · rw [dec_t h, cond_true]; congr 1; by_cases h2 : k ≤ 12 <;> simp [h, h2]
  · rw [dec_f h, cond_false]; congr 1; simp [h]
theorem head_eq (n : Nat) (k : Int) (t : List UInt8) (c : Int) (ks : List Nd) (l : List UInt8) (hn : t.length < n) (ht : t.length ≤ 1073741824) (hk : in64i k) (hc : in64i c) (hl : l.length + 2 * t.length + 60 < 4294967296) :
    m_node_dumper_head n (.mk k t c ks) l = some (l ++ headL k t c) := by
  unfold m_node_dumper_head
  have hki := Lib.itoa_length_le k hk.1 hk.2
  have hci := Lib.itoa_length_le c hc.1 hc.2
  have h1 : ∀ X : Option (List UInt8), X = some (l ++ kindName k) → ∀ K : List UInt8 → Option (List UInt8), X.bind K = K (l ++ kindName k) := fun X h K => by rw [h]; rfl
  simp only [kind_in, Option.bind_some]
  have hlen := kindName_len hk
  rw [h1 _ ?_]
  · have h2 : ∀ X : Option (List UInt8), X = some ((l ++ kindName k) ++ textL t) → ∀ K : List UInt8 → Option (List UInt8), X.bind K = K ((l ++ kindName k) ++ textL t) := fun X h K => by rw [h]; rfl
    rw [h2 _ ?_]
    · unfold headL colsL
      have htx : (textL t).length ≤ 3 + 2 * t.length := by have := escL_len t; unfold textL; split <;> simp; omega
      by_cases h0 : c = 0
      · subst h0
        rw [if_pos rfl, show ((0 : Int) != 0) = false from rfl, cond_false]
        simp
      · rw [if_neg h0, show (c != 0) = true from bne_iff_ne.2 h0, cond_true, ito_eq hc]
        simp only [Option.bind_some]
        rw [req_t (by simp; omega), ws_eq _ _ (by simp; omega)]
        simp
    · unfold textL
      by_cases h0 : t = []
      · subst h0
        simp
      · rw [if_neg h0, show (!(t == [])) = true from by simp [h0], cond_true, ws_eq _ _ (by simp; omega)]
        simp only [Option.bind_some]
        have := head_loop t ht n 0 ((l ++ kindName k) ++ [58, 34]) (by omega) (by omega) (by simp; omega)
        rw [show ((0 : Nat) : Int) = 0 from rfl] at this
        rw [this]
        have he := escL_len t
        simp only [Option.bind_some, List.drop_zero]
        rw [show b8of 34 = 34 from rfl, wb_eq _ _ (by simp; omega)]
        simp
  · rw [kindName_lit]
    have go : ∀ s : List UInt8, s.length ≤ 25 → ((m_strings_Builder_WriteString s l).bind fun x => match x with | (_, _, b) => some b) = some (l ++ s) := fun s hs => by
      rw [ws_eq _ _ (by omega)]; rfl
    rcases kinds k with rfl | rfl | rfl | rfl | rfl | rfl | rfl | rfl | rfl | rfl | rfl | rfl | hk'
    all_goals first | exact go _ (by decide) | skip
    rw [show decide (1 ≤ k ∧ k ≤ 12) = false from decide_eq_false (by omega), cond_false, ito_eq hk]
    simp only [Option.bind_some]
    rw [req_t (by simp; omega), if_neg (by omega), if_neg (by omega), if_neg (by omega), if_neg (by omega), if_neg (by omega), if_neg (by omega), if_neg (by omega), if_neg (by omega), if_neg (by omega), if_neg (by omega), if_neg (by omega), if_neg (by omega)]
    exact go _ (by simp; omega)
def remK (ks : List Nd) (i : Nat) : List UInt8 := if i = 0 then kidsL (dumpsL ks) else dumpsL (ks.drop i) ++ [41]
def outS : List (Nd × Nat) → List UInt8
  | [] => []
  | p :: r => outS r ++ remK p.1.kids p.2
def itS : List (Nd × Nat) → Nat
  | [] => 0
  | p :: r => itS r + (1 + 2 * Nd.cnts (p.1.kids.drop p.2))
theorem outS_snoc (p : Nd × Nat) : ∀ L, outS (L ++ [p]) = remK p.1.kids p.2 ++ outS L
  | [] => by simp [outS]
  | q :: r => by simp only [List.cons_append, outS, outS_snoc p r, List.append_assoc]
theorem itS_snoc (p : Nd × Nat) : ∀ L, itS (L ++ [p]) = itS L + (1 + 2 * Nd.cnts (p.1.kids.drop p.2))
  | [] => by simp [itS]
  | q :: r => by simp only [List.cons_append, itS, itS_snoc p r]; omega
theorem itS_len : ∀ L, L.length ≤ itS L
  | [] => Nat.le_refl _
  | q :: r => by have := itS_len r; simp only [itS, List.length_cons]; omega
theorem remK_step {ks : List Nd} {i : Nat} (h : i < ks.length) : remK ks i = (if i = 0 then 40 else 32) :: (dumpL ks[i] ++ remK ks (i + 1)) := by
  unfold remK
  rw [if_neg (by omega : ¬ i + 1 = 0)]
  by_cases h0 : i = 0
  · subst h0
    rw [if_pos rfl, if_pos rfl]
    match ks, h with
    | v :: vs, _ => simp [dumpsL, kidsL]
  · rw [if_neg h0, if_neg h0, List.drop_eq_getElem_cons h]
    simp [dumpsL]
theorem remK_end (ks : List Nd) : remK ks ks.length = if ks.length = 0 then [] else [41] := by
  unfold remK
  by_cases h : ks.length = 0
  · rw [if_pos h, if_pos h, List.length_eq_zero_iff.1 h]; rfl
  · rw [if_neg h, if_neg h, List.drop_length]; rfl
theorem dumpL_eq (k : Int) (t : List UInt8) (c : Int) (ks : List Nd) : dumpL (.mk k t c ks) = headL k t c ++ remK ks 0 := by
  simp [dumpL, remK]
theorem w_kids' (k : Int) (t : List UInt8) (c : Int) (ks : List Nd) : (Nd.mk k t c ks).w = t.length + Nd.ws ks + 1 := rfl
def entI (p : Nd × Nat) : Nd × Int := (p.1, (p.2 : Int))
theorem Dump_loop (n : Nat) : ∀ (k : Nat) (L : List (Nd × Nat)) (b : List UInt8), itS L < k → itS L ≤ 1000000000 → (∀ p ∈ L, p.2 ≤ p.1.kids.length ∧ p.1.rng ∧ p.1.w ≤ 16777216 ∧ p.1.w < n) → b.length + (outS L).length ≤ 4000000000 →
    m_node_Dump_l1 n k b (L.map entI) = some (b ++ outS L)
  | 0, _, _, h, _, _, _ => by omega
  | k + 1, L, b, hk, hit, hL, hb => by
    unfold m_node_Dump_l1
    rcases List.eq_nil_or_concat L with rfl | ⟨L, ⟨v, i⟩, rfl⟩
    · simp [outS]
    · rw [List.concat_eq_append] at *
      obtain ⟨hi, hr, hw, hwn⟩ := hL (v, i) (by simp)
      obtain ⟨k0, t, c, ks⟩ := v
      replace hr : (Nd.mk k0 t c ks).rng := hr
      replace hw : (Nd.mk k0 t c ks).w ≤ 16777216 := hw
      replace hwn : (Nd.mk k0 t c ks).w < n := hwn
      have hlen : ((List.map entI (L ++ [(Nd.mk k0 t c ks, i)])).length : Int) = (L.length : Int) + 1 := by simp
      have hll := itS_len (L ++ [(Nd.mk k0 t c ks, i)])
      rw [List.length_append, List.length_singleton] at hll
      have hwr : IntKind.i64.wrap (((List.map entI (L ++ [(Nd.mk k0 t c ks, i)])).length : Int) - 1) = (L.length : Int) := by rw [hlen, wrap64_in (by omega) (by omega)]; omega
      have hat : at? (List.map entI (L ++ [(Nd.mk k0 t c ks, i)])) (L.length : Int) = some (Nd.mk k0 t c ks, (i : Int)) := by
        rw [at_get (by simp)]; simp [entI]
      rw [dec_t (by omega), cond_true, hwr, hat]
      simp only [Option.bind_some, Nd.kids] at hi ⊢
      rw [outS_snoc] at hb ⊢
      rw [itS_snoc] at hk hit
      simp only [Nd.kids] at hb hk hit ⊢
      by_cases he : i = ks.length
      · subst he
        rw [show ((ks.length : Int) == (ks.length : Int)) = true from beq_self_eq_true _, cond_true]
        have hre := remK_end ks
        have hx : (bif decide (0 < (ks.length : Int)) then (m_strings_Builder_WriteByte (b8of 41) b).bind (fun x => match x with | (_, b14) => some b14) else some b) = some (b ++ remK ks ks.length) := by
          rw [hre]
          by_cases h0 : ks.length = 0
          · rw [dec_f (by omega), cond_false, if_pos h0]; simp
          · rw [dec_t (by omega), cond_true, if_neg h0, wb_eq _ _ (by omega)]; rfl
        have hx' : ∀ X : Option (List UInt8), X = some (b ++ remK ks ks.length) → ∀ K : List UInt8 → Option (List UInt8), X.bind K = K (b ++ remK ks ks.length) := fun X h K => by rw [h]; rfl
        rw [hx' _ hx, req_t (by omega), Int.toNat_natCast]
        have ht : List.take L.length (List.map entI (L ++ [(Nd.mk k0 t c ks, ks.length)])) = L.map entI := by simp
        rw [ht, Dump_loop n k L _ (by omega) (by omega) (fun p hp => hL p (by simp [hp])) (by simp only [List.length_append] at hb ⊢; omega)]
        simp
      · have h : i < ks.length := by omega
        rw [ne_beq (by omega : (i : Int) ≠ (ks.length : Int)), cond_false, at_get h]
        have hd := Nd.cnts_drop h
        have hrs := remK_step h
        rw [hrs] at hb ⊢
        have hkr : (ks[i]).rng := Nd.rng_mem hr.2.2 (List.getElem_mem h)
        have hkw : (ks[i]).w < Nd.ws ks := Nd.w_mem (List.getElem_mem h)
        have hwt := w_kids' k0 t c ks
        rcases e : ks[i] with ⟨e1, e2, e3, e4⟩
        rw [e] at hd hkr hkw hb
        have hwt2 := w_kids' e1 e2 e3 e4
        have hct := Nd.cnt_kids (.mk e1 e2 e3 e4)
        simp only [Nd.kids] at hct
        rw [dumpL_eq] at hb
        simp only [Option.bind_some]
        have hsep : at? ([40, 32] : List UInt8) (if 1 < (i : Int) then 1 else (i : Int)) = some (if i = 0 then 40 else 32) := by
          by_cases h0 : i = 0
          · subst h0; rfl
          · rw [if_neg h0]
            by_cases h1 : i = 1
            · subst h1; rfl
            · rw [if_pos (by omega)]; rfl
        rw [hsep]
        simp only [Option.bind_some]
        simp only [List.length_append, List.length_cons] at hb
        rw [wb_eq _ _ (by omega)]
        simp only [Option.bind_some]
        rw [head_eq n e1 e2 e3 e4 _ (by omega) (by omega) hkr.1 hkr.2.1 (by simp; omega)]
        simp only [Option.bind_some]
        have hset : (List.map entI (L ++ [(Nd.mk k0 t c ks, i)])).set (L.length : Int).toNat (Nd.mk k0 t c ks, IntKind.i64.wrap ((i : Int) + 1)) ++ [(Nd.mk e1 e2 e3 e4, 0)] = (L ++ [(Nd.mk k0 t c ks, i + 1)] ++ [(Nd.mk e1 e2 e3 e4, 0)]).map entI := by
          have hlk := Nd.ws_len ks
          rw [wrap64_in (by omega) (by omega)]
          simp [entI]
        have hll2 := itS_len L
        rw [req_t (by simp; omega), hset]
        rw [Dump_loop n k _ _ (by rw [itS_snoc, itS_snoc]; simp only [Nd.kids, List.drop_zero]; omega) (by rw [itS_snoc, itS_snoc]; simp only [Nd.kids, List.drop_zero]; omega) ?_ ?_]
        · rw [outS_snoc, outS_snoc, dumpL_eq]
          simp [Nd.kids]
        · intro p hp
          rcases List.mem_append.1 hp with hp | hp
          · rcases List.mem_append.1 hp with hp | hp
            · exact hL p (by simp [hp])
            · simp only [List.mem_singleton] at hp; subst hp
              exact ⟨h, hr, hw, hwn⟩
          · simp only [List.mem_singleton] at hp; subst hp
            exact ⟨Nat.zero_le _, hkr, (show (Nd.mk e1 e2 e3 e4).w ≤ 16777216 by omega), (show (Nd.mk e1 e2 e3 e4).w < n by omega)⟩
        · rw [outS_snoc, outS_snoc]
          simp only [Nd.kids, List.length_append, List.length_cons, List.length_nil]
          omega
theorem dumpL_ne (t : Nd) : dumpL t ≠ [] := by
  obtain ⟨k, t, c, ks⟩ := t
  rw [dumpL_eq]
  unfold headL
  have := kindName_ne k
  simp [this]
theorem node_Dump_eq (n : Nat) (t : Nd) (h : 2 * t.w < n) (hw : t.w ≤ 16777216) (hr : t.rng) : m_node_Dump n t = some (dumpL t) := by
  have hlen := dumpL_len t hr
  have hne := dumpL_ne t
  have hcw := Nd.cnt_w t
  have hck := Nd.cnt_kids t
  obtain ⟨k, tx, c, ks⟩ := t
  have hwt := w_kids' k tx c ks
  simp only [Nd.kids] at hck
  unfold m_node_Dump m_node_kinds
  simp only [Option.bind_some]
  rw [head_eq n k tx c ks [] (by omega) (by omega) hr.1 hr.2.1 (by simp; omega)]
  simp only [Option.bind_some, List.nil_append]
  have hl := Dump_loop n n [(.mk k tx c ks, 0)] (headL k tx c) (by simp [itS, Nd.kids]; omega) (by simp [itS, Nd.kids]; omega) (fun p hp => by simp only [List.mem_singleton] at hp; subst hp; exact ⟨Nat.zero_le _, hr, hw, (show (Nd.mk k tx c ks).w < n by omega)⟩) (by
    rw [dumpL_eq] at hlen
    simp only [outS, Nd.kids, List.length_append, List.nil_append] at hlen ⊢; omega)
  have e : List.map entI [(Nd.mk k tx c ks, 0)] = [(Nd.mk k tx c ks, 0)] := rfl
  rw [e] at hl
  rw [hl, Option.bind_some]
  have e2 : headL k tx c ++ outS [(Nd.mk k tx c ks, 0)] = dumpL (.mk k tx c ks) := by rw [dumpL_eq]; simp [outS, Nd.kids]
  rw [e2]
  unfold m_strings_Builder_String
  rw [req_t ⟨hne, by omega⟩, Option.bind_some]
end Go.Proofs.YtgfneloodabafaaDoor
namespace Go.Proofs.YtgfneloodabafaaDoor
open Go.Abs
def cntI (x : Nd) : Int := (x.cnt : Int)
theorem sizes_loop (n : Nat) {l : List Nd} (hn : ∀ v ∈ l, v.cnt < n) (hb : Nd.cnts l ≤ 1048576) : ∀ (q i : Nat), l.length - i < q → i ≤ l.length →
    m_diff_sizes_l1 n l q (i : Int) ((l.take i).map cntI ++ List.replicate (l.length - i) 0) = some (l.map cntI)
  | 0, _, h, _ => by omega
  | q + 1, i, hq, hi => by
    have l1 := Nd.cnts_len l
    unfold m_diff_sizes_l1
    by_cases h : i < l.length
    · rw [dec_t (Int.ofNat_lt.2 h), cond_true, at_get h]
      have hm := List.getElem_mem h
      have hc := node_Count_eq n _ (hn _ hm) (by have := Nd.cnts_mem hm; omega)
      have ht : l.take (i + 1) = l.take i ++ [l[i]] := List.take_append_getElem h ▸ rfl
      rcases e : l[i] with ⟨a, b, c, d⟩
      rw [e] at hc ht
      simp only [Option.bind_some, hc]
      have hlen : ((l.take i).map cntI).length = i := by simp; omega
      obtain ⟨m, hm⟩ : ∃ m, l.length - i = m + 1 := ⟨l.length - i - 1, by omega⟩
      have hg : at? ((l.take i).map cntI ++ List.replicate (l.length - i) (0 : Int)) (i : Int) = some 0 := by
        unfold at?
        rw [if_pos (by omega), Int.toNat_natCast, List.getElem?_append_right (by omega), hlen, hm]
        simp
      rw [hg, Option.bind_some, wi_succ (by omega), Int.toNat_natCast]
      have hs : ((l.take i).map cntI ++ List.replicate (l.length - i) (0 : Int)).set i ((Nd.mk a b c d).cnt : Int) = (l.take (i + 1)).map cntI ++ List.replicate (l.length - (i + 1)) 0 := by
        rw [List.set_append_right _ _ (by omega), hlen, Nat.sub_self, hm, ht, show l.length - (i + 1) = m by omega, List.replicate_succ, List.set_cons_zero, List.map_append]
        simp [cntI]
      rw [hs]
      exact sizes_loop n hn hb q (i + 1) (by omega) (by omega)
    · rw [dec_f (by omega), cond_false]
      obtain rfl : i = l.length := by omega
      simp
theorem sizes_eq (n : Nat) (l : List Nd) (hn : Nd.cnts l + 1 < n) (hb : Nd.cnts l ≤ 1048576) : m_diff_sizes n l = some (l.map cntI) := by
  have l1 := Nd.cnts_len l
  have := sizes_loop n (l := l) (fun v hv => by have := Nd.cnts_mem hv; omega) hb n 0 (by omega) (by omega)
  rw [show ((0 : Nat) : Int) = 0 from rfl] at this
  simp only [List.take_zero, List.map_nil, List.nil_append, Nat.sub_zero] at this
  rw [m_diff_sizes, req_t ⟨by omega, by omega⟩, Int.toNat_natCast, this]; rfl
theorem flast_eq : ∀ b : List Nd, Nd.cnts b ≤ 1048576 → m_diff_fill_last (b.map cntI) = sufs (TD D []) b
  | [], _ => rfl
  | y :: ys, hb => by
    simp only [Nd.cnts] at hb
    have hf : TD D [] ys = Nd.cnts ys := rfl
    rw [List.map_cons, m_diff_fill_last, flast_eq ys (by omega), sufs_headD, hf, cntI, wrap64_in (by omega) (by omega), sufs, show TD D [] (y :: ys) = y.cnt + Nd.cnts ys from rfl]
    congr 1; omega
def prI (x y : Nd) : Int := bif alikeB x y then (D x y : Int) else -1
theorem frow_eq {F : Nd → Nd → Option Int} {x : Nd} {f : List Nd → Nat} {c : Nat} (hx : x.cnt ≤ 1048576) (hc : c ≤ 1048576) (hf : ∀ b, f b ≤ c + Nd.cnts b) :
    ∀ (b : List Nd), (∀ y ∈ b, F x y = some (prI x y)) → Nd.cnts b ≤ 1048576 → m_diff_fill_row F x (x.cnt : Int) b (b.map cntI) (sufs f b) = some (sufs (rowD D x f) b, b.map (prI x))
  | [], _, _ => by
    have := hf []
    simp only [Nd.cnts] at this
    simp only [sufs, List.map_nil, m_diff_fill_row, rowD]
    rw [wrap64_in (by omega) (by omega), Nat.add_comm]; rfl
  | y :: ys, h1, hb => by
    simp only [Nd.cnts] at hb
    have g1 := hf (y :: ys)
    simp only [Nd.cnts] at g1
    have g2 := hf ys
    have g3 := rowD_le (P := D) (x := x) hf ys
    have g4 := D_le x y
    have ih := frow_eq (F := F) hx hc hf ys (fun y hy => h1 y (List.mem_cons_of_mem _ hy)) (by omega)
    obtain ⟨r, hr⟩ := sufs_head f ys
    rw [sufs, hr, List.map_cons, m_diff_fill_row, ← hr, ih, Option.bind_some, h1 y List.mem_cons_self, Option.bind_some]
    dsimp only
    rw [sufs_headD, cntI, wrap64_in (n := (f (y :: ys) : Int) + (x.cnt : Int)) (by omega) (by omega), wrap64_in (n := (rowD D x f ys : Int) + _) (by omega) (by omega), ← Int.natCast_add, ← Int.natCast_add, min_pick, Nat.add_comm (f (y :: ys)), Nat.add_comm (rowD D x f ys)]
    unfold prI
    cases ha : alikeB x y with
    | false =>
      simp only [cond_false, sufs, rowD, ha, List.map_cons]
      rw [if_neg (by omega)]
      simp [prI, ha]
    | true =>
      simp only [cond_true]
      rw [if_pos (by omega), wrap64_in (by omega) (by omega), ← Int.natCast_add, min_pick, Nat.min_comm, Nat.add_comm (f ys)]
      simp [sufs, rowD, ha, prI]
theorem frows_eq {F : Nd → Nd → Option Int} {b : List Nd} (hb : Nd.cnts b ≤ 1048576) :
    ∀ (a : List Nd), (∀ x ∈ a, ∀ y ∈ b, F x y = some (prI x y)) → Nd.cnts a ≤ 1048576 → m_diff_fill_rows F b (b.map cntI) a (a.map cntI) = some (tabD D a b, a.map fun x => b.map (prI x))
  | [], _, _ => by rw [List.map_nil, m_diff_fill_rows, flast_eq b hb]; rfl
  | x :: xs, h1, ha => by
    simp only [Nd.cnts] at ha
    rw [List.map_cons, m_diff_fill_rows, frows_eq hb xs (fun y hy => h1 y (List.mem_cons_of_mem _ hy)) (by omega), Option.bind_some]
    obtain ⟨r, hr⟩ := tabD_head D xs b
    rw [hr]
    dsimp only
    rw [cntI, frow_eq (c := Nd.cnts xs) (by omega) (by omega) (TD_le xs) b (h1 x List.mem_cons_self) hb, Option.bind_some, ← hr]
    rfl
theorem pairing_loop {F : List Nd → List Nd → Option (List (List Int) × List (List Int) × List Int × List Int)} {a b : List Nd} (hF : ∀ u ∈ a, ∀ v ∈ b, ∃ p, F u.kids v.kids = some (tabD D u.kids v.kids, p)) (hl : a.length = b.length) (ha : Nd.cnts a ≤ 1048576) :
    ∀ (q i o : Nat), a.length - i < q → i ≤ a.length → o + sumD DL (a.drop i) (b.drop i) ≤ 4000000 → m_diff_pairing_l1 F a b q (o : Int) (i : Int) = some ((o + sumD DL (a.drop i) (b.drop i) : Nat) : Int)
  | 0, _, _, h, _, _ => by omega
  | q + 1, i, o, hq, hi, ho => by
    have l1 := Nd.cnts_len a
    unfold m_diff_pairing_l1
    by_cases h : i < a.length
    · have h' : i < b.length := by omega
      rw [dec_t (Int.ofNat_lt.2 h), cond_true, at_get h, at_get h']
      obtain ⟨p, hf⟩ := hF _ (List.getElem_mem h) _ (List.getElem_mem h')
      have hs := sum_drop (f := DL) h h'
      rcases e : a[i] with ⟨x1, x2, x3, x4⟩
      rcases e' : b[i] with ⟨y1, y2, y3, y4⟩
      rw [e, e'] at hf hs
      simp only [Nd.kids] at hf hs
      obtain ⟨r, r1, r2⟩ := tab00 D x4 y4
      have hd : TD D x4 y4 = DL x4 y4 := rfl
      rw [hd] at r2
      obtain ⟨p1, p2, p3⟩ := p
      simp only [Option.bind_some, hf, r1, r2]
      rw [wi_succ (by omega), wrap64_in (by omega) (by omega), ← Int.natCast_add, pairing_loop hF hl ha q (i + 1) _ (by omega) (by omega) (by omega)]
      congr 2; omega
    · rw [dec_f (by omega), cond_false]
      obtain rfl : i = a.length := by omega
      rw [List.drop_length]
      cases List.drop a.length b <;> rfl
theorem fill_eq : ∀ N : Nat, (∀ x y : Nd, 2 * x.cnt + 2 * y.cnt < N → x.cnt ≤ 1048576 → y.cnt ≤ 1048576 → m_diff_pairing N x y = some (prI x y)) ∧
    (∀ a b : List Nd, 2 * Nd.cnts a + 2 * Nd.cnts b + 2 < N → Nd.cnts a ≤ 1048576 → Nd.cnts b ≤ 1048576 → m_diff_fill N a b = some (tabD D a b, (a.map fun x => b.map (prI x)), a.map cntI, b.map cntI))
  | 0 => ⟨fun _ _ h _ _ => by omega, fun _ _ h _ _ => by omega⟩
  | n + 1 => by
    obtain ⟨ih1, ih2⟩ := fill_eq n
    refine ⟨fun x y h hx hy => ?_, fun a b h ha hb => ?_⟩
    · have e1 := x.cnt_kids
      have e2 := y.cnt_kids
      have hle := sumD_le x.kids y.kids
      have hD := D_eq x y
      have l1 := Nd.cnts_len x.kids
      have hF : ∀ u ∈ x.kids, ∀ v ∈ y.kids, ∃ p, m_diff_fill n u.kids v.kids = some (tabD D u.kids v.kids, p) := fun u hu v hv => by
        have := Nd.cnts_mem hu
        have := Nd.cnts_mem hv
        have := u.cnt_kids
        have := v.cnt_kids
        exact ⟨_, ih2 _ _ (by omega) (by omega) (by omega)⟩
      have ht := txt_le x y
      have hal : alikeB x y = true → x.kids.length = y.kids.length := alike_len
      have hlp : x.kids.length = y.kids.length → _ := fun hl => pairing_loop hF hl (by omega) n 0 (txt x y) (by omega) (by omega) (by simp only [List.drop_zero]; omega)
      rw [show ((0 : Nat) : Int) = 0 from rfl, List.drop_zero, List.drop_zero, ← hD] at hlp
      obtain ⟨a, b, c, d⟩ := x
      obtain ⟨a', b', c', d'⟩ := y
      unfold m_diff_pairing
      have e : (bif (!(b == b')) then some 1 else some 0 : Option Int) = some (txt (.mk a b c d) (.mk a' b' c' d') : Int) := by
        unfold txt
        simp only [Nd.text]
        cases b == b' <;> rfl
      have e3 : (bif (a != a') then some true else bif (c != c') then some true else some ((d.length : Int) != (d'.length : Int)) : Option Bool) = some (!alikeB (.mk a b c d) (.mk a' b' c' d')) := by
        unfold alikeB bne
        simp only [Nd.kind, Nd.kids, Nd.cols]
        cases a == a' <;> cases c == c' <;> cases ((d.length : Int) == (d'.length : Int)) <;> rfl
      rw [e, e3]
      unfold prI
      cases hab : alikeB (.mk a b c d) (.mk a' b' c' d') with
      | false => rfl
      | true =>
        simp only [Nd.kids] at hlp hal
        simp only [Option.bind_some, Bool.not_true, cond_false, cond_true]
        rw [hlp (hal hab)]; rfl
    · have l1 := Nd.cnts_len a
      have l2 := Nd.cnts_len b
      rw [m_diff_fill, sizes_eq n a (by omega) ha, sizes_eq n b (by omega) hb, Option.bind_some, Option.bind_some, req_t ⟨by omega, by omega, by simp⟩]
      rw [frows_eq hb a (fun x hx y hy => ?_) ha]
      · rfl
      · have := Nd.cnts_mem hy
        have := Nd.cnts_mem hx
        exact ih1 x y (by omega) (by omega) (by omega)
theorem diff_valid_eq (n : Nat) (a b : Nd) (ha : a.w + 45 < n) (ha' : a.w ≤ 67108864) (hb : b.w + 45 < n) (hb' : b.w ≤ 67108864) : m_diff_valid n a b = some (validB a && validB b) := by
  have e1 := node_Valid_eq n a ha ha'
  have e2 := node_Valid_eq n b hb hb'
  obtain ⟨a1, a2, a3, a4⟩ := a
  obtain ⟨b1, b2, b3, b4⟩ := b
  unfold m_diff_valid
  simp only [e1, e2, Option.bind_some]
  cases validB (.mk a1 a2 a3 a4) <;> rfl
theorem Cost_eq (n : Nat) (a b : Nd) (h : 2 * a.w + 2 * b.w + 50 < n) (ha : a.w ≤ 67108864) (hb : b.w ≤ 67108864) (ha2 : a.cnt ≤ 1048576) (hb2 : b.cnt ≤ 1048576) : m_diff_Cost n a b = some (bif validB a && validB b then ((DL a.kids b.kids : Int), 0) else (0, 1)) := by
  have e1 := diff_valid_eq n a b (by omega) ha (by omega) hb
  have c1 := Nd.cnt_w a
  have c2 := Nd.cnt_w b
  have k1 := a.cnt_kids
  have k2 := b.cnt_kids
  have e2 := (fill_eq n).2 a.kids b.kids (by omega) (by omega) (by omega)
  obtain ⟨r, r1, r2⟩ := tab00 D a.kids b.kids
  have hd : TD D a.kids b.kids = DL a.kids b.kids := rfl
  rw [hd] at r2
  obtain ⟨a1, a2, a3, a4⟩ := a
  obtain ⟨b1, b2, b3, b4⟩ := b
  simp only [Nd.kids] at e2 r1 r2
  unfold m_diff_Cost
  simp only [e1, Option.bind_some]
  cases validB (.mk a1 a2 a3 a4) && validB (.mk b1 b2 b3 b4) with
  | false => rfl
  | true => simp only [Bool.not_true, cond_false, e2, Option.bind_some, r1, r2, cond_true, Nd.kids]
end Go.Proofs.YtgfneloodabafaaDoor
