/-
  Joined out of: EdGA.
-/
import Derived.Test.YtfbggpmdmhgpfaaZe
set_option linter.unusedVariables false
set_option linter.unusedSimpArgs false
namespace Go.Proofs.Ytfbggpmdmhgpfaa
open Go.Abs
def R_l12_awake_1 (xs : List AV) (r : Ret) : Prop := ∃ (a0 : List Nd) (y0 : Nd), m_l12_awake_1 a0 = some y0 ∧ xs = [.s (.sl 4 (Nd.encs a0))] ∧ r = .val (.agg ((Nd.enc y0).map .s))
def S_l12_awake_1 : PSpec := pspec fun xs r => R_l12_awake_1 xs r
set_option maxHeartbeats 2000000 in
set_option maxRecDepth 100000 in
theorem ok_l12_awake_1 : PSound Try.prog 32 S_l12_awake_1 := by
  have gok : ∀ (f : Nat) (s : PSpec), (fun _ => none : Nat → Option PSpec) f = some s → PSound Try.prog f s := fun _ _ h => by cases h
  refine psound tokW Try.call32 Try.func32 rfl (fun xs r h => by obtain ⟨_, _, _, rfl, _⟩ := h; show 1 ≤ 5; decide) 5 rfl ?_
  rintro xs r w0 G0 ⟨l1, y0, h, rfl, rfl⟩ _
  rw [m_l12_awake_1] at h
  refine tri_seq ?_
  refine tri_region (by exact tokW) (by exact gok) [2] [] rfl ?_
  show Tri _ _ _ _
  refine tri_seq ?_
  refine tri_region (by exact tokW) (by exact gok) [] [] rfl ?_
  show Tri _ _ _ _
  refine tri_ret ?_
  have hy := Option.some.inj h
  subst hy
  unfold Gives
  exact ⟨_, Le.refl _ _, rfl, rfl⟩
def R_r09_Equal (n : Nat) (xs : List AV) (r : Ret) : Prop := ∃ (a0 : Nd) (a1 : Nd) (y0 : Bool), m_r09_Equal n a0 a1 = some y0 ∧ xs = [.agg ((Nd.enc a0).map .s), .agg ((Nd.enc a1).map .s)] ∧ r = .val (.s (.bool y0))
def R_r09_SameItems (n : Nat) (xs : List AV) (r : Ret) : Prop := ∃ (a0 : List Nd) (a1 : List Nd) (y0 : Bool), m_r09_SameItems n a0 a1 = some y0 ∧ xs = [.s (.sl 4 (Nd.encs a0)), .s (.sl 4 (Nd.encs a1))] ∧ r = .val (.s (.bool y0))
set_option maxHeartbeats 2000000 in
set_option maxRecDepth 100000 in
theorem step_r09_Equal (n : Nat) (ih_r09_Equal : PSound Try.prog 17 (pspec (R_r09_Equal n))) (ih_r09_SameItems : PSound Try.prog 40 (pspec (R_r09_SameItems n))) : PSound Try.prog 17 (pspec (R_r09_Equal (n + 1))) := by
  have gok : ∀ f s, look? f [(40, pspec (R_r09_SameItems n))] = some s → PSound Try.prog f s := look_all (by
    simp only [List.forall_mem_cons]
    exact ⟨ih_r09_SameItems, by simp⟩)
  refine psound tokW Try.call17 Try.func17 rfl (fun xs r h => by obtain ⟨_, _, _, _, rfl, _⟩ := h; show 2 ≤ 31; decide) 31 rfl ?_
  rintro xs r w0 G0 ⟨⟨a1_kind, a1_text, a1_cols, a1_kids⟩, ⟨b2_kind, b2_text, b2_cols, b2_kids⟩, y0, h, rfl, rfl⟩ _
  rw [m_r09_Equal] at h
  refine tri_seq ?_
  refine tri_region (by exact tokW) (by exact gok) [] [] rfl ?_
  show Tri _ _ _ _
  refine tri_seq ?_
  obtain ⟨x3, hj, h⟩ := bind_out h
  refine tri_post ⟨ofL [(4, .s (.bool x3))], fun _ => none, 0⟩ ?_ (fun σ' hle => ?_)
  · replace h := hj
    refine tri_region (by exact tokW) (by exact gok) [] [10, 17, 24] rfl ?_
    intro b hb
    cases b with
    | true =>
      replace h := bif_t hb.symm h
      intro b hb
      cases b with
      | true =>
        replace h := bif_t hb.symm h
        intro b hb
        cases b with
        | true =>
          replace h := bif_t hb.symm h
          obtain ⟨y4, hy4, h⟩ := bind_out h
          refine ⟨_, ⟨_, _, _, hy4, rfl, rfl⟩, ?_⟩
          cases h
          exact (Le.forget _ ⟨rfl, trivial⟩)
        | false =>
          replace h := bif_f hb.symm h
          cases h
          exact (Le.forget _ ⟨rfl, trivial⟩)
      | false =>
        replace h := bif_f hb.symm h
        intro b hb
        subst hb
        cases h
        exact (Le.forget _ ⟨rfl, trivial⟩)
    | false =>
      replace h := bif_f hb.symm h
      intro b hb
      subst hb
      intro b hb
      subst hb
      cases h
      exact (Le.forget _ ⟨rfl, trivial⟩)
  · show Tri _ _ _ _
    refine tri_le hle ?_
    refine tri_ret ?_
    have hy := Option.some.inj h
    subst hy
    unfold Gives
    exact ⟨_, Le.refl _ _, rfl, rfl⟩
set_option maxHeartbeats 2000000 in
set_option maxRecDepth 100000 in
theorem step_r09_SameItems (n : Nat) (ih_r09_Equal : PSound Try.prog 17 (pspec (R_r09_Equal n))) (ih_r09_SameItems : PSound Try.prog 40 (pspec (R_r09_SameItems n))) : PSound Try.prog 40 (pspec (R_r09_SameItems (n + 1))) := by
  have gok : ∀ f s, look? f [(17, pspec (R_r09_Equal n))] = some s → PSound Try.prog f s := look_all (by
    simp only [List.forall_mem_cons]
    exact ⟨ih_r09_Equal, by simp⟩)
  refine psound tokW Try.call40 Try.func40 rfl (fun xs r h => by obtain ⟨_, _, _, _, rfl, _⟩ := h; show 2 ≤ 27; decide) 27 rfl ?_
  rintro xs r w0 G0 ⟨a1, b2, y0, h, rfl, rfl⟩ _
  rw [m_r09_SameItems] at h
  refine tri_seq ?_
  refine tri_region (by exact tokW) (by exact gok) [] [] rfl ?_
  show Tri _ _ _ _
  refine tri_seq ?_
  refine tri_seq ?_
  refine tri_region (by exact tokW) (by exact gok) [] [7, 9] rfl ?_
  intro n3 hn3
  obtain rfl : (a1.length : Int) = n3 := (hn3.trans (congrArg (fun m : Nat => (m : Int)) (rlen Nd.encs_eq a1))).symm
  intro n4 hn4
  obtain rfl : (b2.length : Int) = n4 := (hn4.trans (congrArg (fun m : Nat => (m : Int)) (rlen Nd.encs_eq b2))).symm
  show Tri _ _ _ _
  refine tri_cond rfl (fun hb => ?_) (fun hb => ?_)
  · replace h := bif_t hb h
    refine tri_seq ?_
    refine tri_region (by exact tokW) (by exact gok) [] [] rfl ?_
    show Tri _ _ _ _
    refine tri_ret ?_
    have hy := Option.some.inj h
    subst hy
    unfold Gives
    exact ⟨_, Le.refl _ _, rfl, rfl⟩
  · replace h := bif_f hb h
    refine tri_skip ?_
    show Tri _ _ _ _
    refine tri_seq ?_
    refine tri_seq ?_
    refine tri_region (by exact tokW) (by exact gok) [] [] rfl ?_
    show Tri _ _ _ _
    obtain ⟨fl, hl, ho1⟩ := bind_out h
    refine tri_fl (fl := fl) (fun z => match z with | _ => ⟨ofL [], fun _ => none, 0⟩) ?_ (fun z σ' hz hle => ?_)
    · refine tri_block (tri_loopI (X := Nat × Int) (fun y => match y with | (k, i5) => ⟨ofL [(0, .s (.sl 4 (Nd.encs a1))), (1, .s (.sl 4 (Nd.encs b2))), (5, .s (.int .i64 i5))], fun _ => none, 0⟩) (fun y => m_r09_SameItems_l1 (m_r09_Equal n) a1 b2 y.1 y.2 = some fl) (fun y => y.1) (n, 0) hl ?_ ?_)
      · exact (Le.forget _ ⟨rfl, rfl, rfl, trivial⟩)
      · rintro ⟨k, i5⟩ h
        cases k with
        | zero => cases h
        | succ k =>
          replace h : m_r09_SameItems_l1 (m_r09_Equal n) a1 b2 (k+1) i5 = some fl := h
          rw [m_r09_SameItems_l1] at h
          refine tri_seq ?_
          refine tri_seq ?_
          refine tri_region (by exact tokW) (by exact gok) [] [13] rfl ?_
          intro n6 hn6
          obtain rfl : (a1.length : Int) = n6 := (hn6.trans (congrArg (fun m : Nat => (m : Int)) (rlen Nd.encs_eq a1))).symm
          show Tri _ _ _ _
          refine tri_cond rfl (fun hb => ?_) (fun hb => ?_)
          · replace h := bif_t hb h
            refine tri_skip ?_
            show Tri _ _ _ _
            refine tri_seq ?_
            refine tri_block ?_
            refine tri_seq ?_
            refine tri_drawn (by exact tokW) (by exact gok) (by exact mixed) [] [19, 23] [] rfl (by decide +kernel) ?_
            obtain ⟨⟨e7_kind, e7_text, e7_cols, e7_kids⟩, he7, h⟩ := bind_out h
            refine And.intro (at_ok Nd.encs_eq he7).1 ?_
            intro r8 hr8
            obtain rfl : [.int .i64 e7_kind, .str e7_text, .int .i64 e7_cols, .sl 4 (Nd.encs e7_kids)] = r8 := (hr8.trans (at_ok Nd.encs_eq he7).2.1).symm
            obtain ⟨⟨e9_kind, e9_text, e9_cols, e9_kids⟩, he9, h⟩ := bind_out h
            refine And.intro (at_ok Nd.encs_eq he9).1 ?_
            intro r10 hr10
            obtain rfl : [.int .i64 e9_kind, .str e9_text, .int .i64 e9_cols, .sl 4 (Nd.encs e9_kids)] = r10 := (hr10.trans (at_ok Nd.encs_eq he9).2.1).symm
            obtain ⟨y11, hy11, h⟩ := bind_out h
            refine ⟨_, ⟨_, _, _, hy11, rfl, rfl⟩, ?_⟩
            show Tri _ _ _ _
            refine tri_cond rfl (fun hb => ?_) (fun hb => ?_)
            · replace h := bif_t hb h
              refine tri_seq ?_
              refine tri_region (by exact tokW) (by exact gok) [] [] rfl ?_
              show Tri _ _ _ _
              refine tri_ret ?_
              cases h
              replace h : some _ = some _ := ho1
              have hy := Option.some.inj h
              subst hy
              unfold Gives
              exact ⟨_, Le.refl _ _, rfl, rfl⟩
            · replace h := bif_f hb h
              refine tri_skip ?_
              show Tri _ _ _ _
              refine tri_region (by exact tokW) (by exact gok) [] [] rfl ?_
              refine ⟨(k, IntKind.i64.wrap (i5 + 1)), h, (Le.forget _ ⟨rfl, rfl, rfl, trivial⟩), Nat.lt_succ_self k⟩
          · replace h := bif_f hb h
            refine tri_exit ?_
            cases h
            exact ⟨_, rfl, (Le.forget _ trivial)⟩
    · subst hz
      obtain _ := z
      replace h := ho1
      show Tri _ _ _ _
      refine tri_le hle ?_
      refine tri_seq ?_
      refine tri_region (by exact tokW) (by exact gok) [] [] rfl ?_
      show Tri _ _ _ _
      refine tri_ret ?_
      have hy := Option.some.inj h
      subst hy
      unfold Gives
      exact ⟨_, Le.refl _ _, rfl, rfl⟩
theorem alls_r09_Equal : ∀ n, PSound Try.prog 17 (pspec (R_r09_Equal n)) ∧ PSound Try.prog 40 (pspec (R_r09_SameItems n)) := by
  intro n
  induction n with
  | zero =>
    refine ⟨?_, ?_⟩
    · exact psound_none Try.call17 (fun xs r h => by obtain ⟨_, _, _, h, _⟩ := h; rw [m_r09_Equal] at h; cases h)
    · exact psound_none Try.call40 (fun xs r h => by obtain ⟨_, _, _, h, _⟩ := h; rw [m_r09_SameItems] at h; cases h)
  | succ n ih =>
    obtain ⟨ih_r09_Equal, ih_r09_SameItems⟩ := ih
    exact ⟨step_r09_Equal n ih_r09_Equal ih_r09_SameItems, step_r09_SameItems n ih_r09_Equal ih_r09_SameItems⟩
def S_r09_Equal : PSpec := pspec fun xs r => ∃ n, R_r09_Equal n xs r
theorem ok_r09_Equal : PSound Try.prog 17 S_r09_Equal := psound_all (fun n => (alls_r09_Equal n).1)
def S_r09_SameItems : PSpec := pspec fun xs r => ∃ n, R_r09_SameItems n xs r
theorem ok_r09_SameItems : PSound Try.prog 40 S_r09_SameItems := psound_all (fun n => (alls_r09_Equal n).2)
def R_l12_awake (n : Nat) (xs : List AV) (r : Ret) : Prop := ∃ (y0 : Bool), m_l12_awake n = some y0 ∧ xs = [] ∧ r = .val (.s (.bool y0))
def S_l12_awake : PSpec := pspec fun xs r => ∃ n, R_l12_awake n xs r
set_option maxHeartbeats 2000000 in
set_option maxRecDepth 100000 in
theorem ok_l12_awake : PSound Try.prog 11 S_l12_awake := by
  have gok : ∀ f s, look? f [(32, S_l12_awake_1), (13, S_edit_Apply), (17, S_r09_Equal)] = some s → PSound Try.prog f s := look_all (by
    simp only [List.forall_mem_cons]
    exact ⟨ok_l12_awake_1, ok_edit_Apply, ok_r09_Equal, by simp⟩)
  refine psound tokW Try.call11 Try.func11 rfl (fun xs r h => by obtain ⟨n, _, _, rfl, _⟩ := h; show 0 ≤ 45; decide) 45 rfl ?_
  rintro xs r w0 G0 ⟨n, y0, h, rfl, rfl⟩ _
  rw [m_l12_awake] at h
  refine tri_seq ?_
  refine tri_region (by exact tokW) (by exact gok) [] [] rfl ?_
  show Tri _ _ _ _
  refine tri_seq ?_
  refine tri_region (by exact tokW) (by exact gok) [] [] rfl ?_
  show Tri _ _ _ _
  refine tri_seq ?_
  refine tri_region (by exact tokW) (by exact gok) [2, 3] [] rfl ?_
  show Tri _ _ _ _
  refine tri_le (Le.trans (Le.giveBox 0 [.int .i64 2, .str [97], .int .i64 0, .sl 4 (Nd.encs [])] rfl rfl) (Le.giveBox 1 [.int .i64 2, .str [98], .int .i64 0, .sl 4 (Nd.encs [])] rfl rfl)) ?_
  refine tri_seq ?_
  refine tri_region (by exact tokW) (by exact gok) [4] [13, 15] rfl ?_
  obtain ⟨⟨y1_kind, y1_text, y1_cols, y1_kids⟩, hy1, h⟩ := bind_out h
  refine ⟨_, ⟨_, _, hy1, rfl, rfl⟩, ?_⟩
  obtain ⟨⟨y2_kind, y2_text, y2_cols, y2_kids⟩, hy2, h⟩ := bind_out h
  refine ⟨_, ⟨_, _, hy2, rfl, rfl⟩, ?_⟩
  intro r3 hr3
  obtain rfl : Nd.encs [Nd.mk y1_kind y1_text y1_cols y1_kids, Nd.mk y2_kind y2_text y2_cols y2_kids] = r3 := (hr3.trans (by simp [List.map_append, List.map_take, List.map_drop, irow, brow, b8of_row, List.map_cons, List.map_nil, b8of_wrap, Nd.encs_eq, Nd.enc, enc_13_node_kind, enc_node_checker, enc_s_api_Node, enc_edit_change, enc_api_Op])).symm
  intro r4 hr4
  obtain rfl : Nd.encs [Nd.mk 5 [] 0 [Nd.mk y1_kind y1_text y1_cols y1_kids, Nd.mk y2_kind y2_text y2_cols y2_kids]] = r4 := (hr4.trans (by simp [List.map_append, List.map_take, List.map_drop, irow, brow, b8of_row, List.map_cons, List.map_nil, b8of_wrap, Nd.encs_eq, Nd.enc, enc_13_node_kind, enc_node_checker, enc_s_api_Node, enc_edit_change, enc_api_Op])).symm
  show Tri _ _ _ _
  refine tri_le (Le.giveBox 2 [.int .i64 3, .sl 1 ((List.map (irow .i64)) []), .int .i64 0, .int .i64 2, .sl 4 (Nd.encs [Nd.mk 5 [] 0 [Nd.mk y1_kind y1_text y1_cols y1_kids, Nd.mk y2_kind y2_text y2_cols y2_kids]]), .int .i64 0, .str [], .str []] rfl rfl) ?_
  refine tri_seq ?_
  refine tri_drawnR (by exact tokW) (by exact gok) (by exact mixed) [5] [21] [10, 11] [] rfl (by decide +kernel) ?_
  intro r5 hr5
  obtain rfl : Nd.encs [Nd.mk 2 [97] 0 [], Nd.mk 2 [98] 0 []] = r5 := (hr5.trans (by simp [List.map_append, List.map_take, List.map_drop, irow, brow, b8of_row, List.map_cons, List.map_nil, b8of_wrap, Nd.encs_eq, Nd.enc, enc_13_node_kind, enc_node_checker, enc_s_api_Node, enc_edit_change, enc_api_Op])).symm
  obtain ⟨⟨y6_kind, y6_text, y6_cols, y6_kids⟩, hy6, h⟩ := bind_out h
  refine ⟨_, ⟨_, _, hy6, rfl, rfl⟩, ?_⟩
  obtain ⟨⟨⟨y7_kind, y7_text, y7_cols, y7_kids⟩, y8⟩, hy7, h⟩ := bind_out h
  refine ⟨_, ⟨_, _, _, _, _, hy7, rfl, rfl⟩, ?_⟩
  show Tri _ _ _ _
  refine tri_le (Le.giveBox 3 [.int .i64 y7_kind, .str y7_text, .int .i64 y7_cols, .sl 4 (Nd.encs y7_kids)] rfl rfl) ?_
  refine tri_seq ?_
  obtain ⟨x9, hj, h⟩ := bind_out h
  refine tri_post ⟨ofL [(0, .s (.bool x9))], fun _ => none, 0⟩ ?_ (fun σ' hle => ?_)
  · replace h := hj
    refine tri_drawn (by exact tokW) (by exact gok) (by exact mixed) [] [29, 35, 39, 41] [] rfl (by decide +kernel) ?_
    intro b hb
    cases b with
    | true =>
      replace h := bif_t hb.symm h
      intro r10 hr10
      obtain rfl : Nd.encs [Nd.mk 2 [97] 0 [], Nd.mk 2 [98] 0 []] = r10 := (hr10.trans (by simp [List.map_append, List.map_take, List.map_drop, irow, brow, b8of_row, List.map_cons, List.map_nil, b8of_wrap, Nd.encs_eq, Nd.enc, enc_13_node_kind, enc_node_checker, enc_s_api_Node, enc_edit_change, enc_api_Op])).symm
      obtain ⟨⟨y11_kind, y11_text, y11_cols, y11_kids⟩, hy11, h⟩ := bind_out h
      refine ⟨_, ⟨_, _, hy11, rfl, rfl⟩, ?_⟩
      obtain ⟨⟨y12_kind, y12_text, y12_cols, y12_kids⟩, hy12, h⟩ := bind_out h
      refine ⟨_, ⟨_, _, hy12, rfl, rfl⟩, ?_⟩
      intro r13 hr13
      obtain rfl : Nd.encs [Nd.mk y11_kind y11_text y11_cols y11_kids, Nd.mk y12_kind y12_text y12_cols y12_kids] = r13 := (hr13.trans (by simp [List.map_append, List.map_take, List.map_drop, irow, brow, b8of_row, List.map_cons, List.map_nil, b8of_wrap, Nd.encs_eq, Nd.enc, enc_13_node_kind, enc_node_checker, enc_s_api_Node, enc_edit_change, enc_api_Op])).symm
      intro r14 hr14
      obtain rfl : Nd.encs [Nd.mk 5 [] 0 [Nd.mk y11_kind y11_text y11_cols y11_kids, Nd.mk y12_kind y12_text y12_cols y12_kids]] = r14 := (hr14.trans (by simp [List.map_append, List.map_take, List.map_drop, irow, brow, b8of_row, List.map_cons, List.map_nil, b8of_wrap, Nd.encs_eq, Nd.enc, enc_13_node_kind, enc_node_checker, enc_s_api_Node, enc_edit_change, enc_api_Op])).symm
      obtain ⟨⟨y15_kind, y15_text, y15_cols, y15_kids⟩, hy15, h⟩ := bind_out h
      refine ⟨_, ⟨_, _, hy15, rfl, rfl⟩, ?_⟩
      obtain ⟨y16, hy16, h⟩ := bind_out h
      refine ⟨_, ⟨_, _, _, _, hy16, rfl, rfl⟩, ?_⟩
      cases h
      exact (Le.rename [] _ [] 0 ⟨rfl, trivial⟩ trivial rfl rfl rfl rfl rfl)
    | false =>
      replace h := bif_f hb.symm h
      cases h
      exact (Le.rename [] _ [] 0 ⟨rfl, trivial⟩ trivial rfl rfl rfl rfl rfl)
  · show Tri _ _ _ _
    refine tri_le hle ?_
    refine tri_ret ?_
    have hy := Option.some.inj h
    subst hy
    unfold Gives
    exact ⟨_, Le.refl _ _, rfl, rfl⟩
def R_r09_ToRow (xs : List AV) (r : Ret) : Prop := ∃ (a0 : List Nd) (y0 : Nd), m_r09_ToRow a0 = some y0 ∧ xs = [.s (.sl 4 (Nd.encs a0))] ∧ r = .val (.agg ((Nd.enc y0).map .s))
def S_r09_ToRow : PSpec := pspec fun xs r => R_r09_ToRow xs r
set_option maxHeartbeats 2000000 in
set_option maxRecDepth 100000 in
theorem ok_r09_ToRow : PSound Try.prog 54 S_r09_ToRow := by
  have gok : ∀ (f : Nat) (s : PSpec), (fun _ => none : Nat → Option PSpec) f = some s → PSound Try.prog f s := fun _ _ h => by cases h
  refine psound tokW Try.call54 Try.func54 rfl (fun xs r h => by obtain ⟨_, _, _, rfl, _⟩ := h; show 1 ≤ 5; decide) 5 rfl ?_
  rintro xs r w0 G0 ⟨l1, y0, h, rfl, rfl⟩ _
  rw [m_r09_ToRow] at h
  refine tri_seq ?_
  refine tri_region (by exact tokW) (by exact gok) [2] [] rfl ?_
  show Tri _ _ _ _
  refine tri_seq ?_
  refine tri_region (by exact tokW) (by exact gok) [] [] rfl ?_
  show Tri _ _ _ _
  refine tri_ret ?_
  have hy := Option.some.inj h
  subst hy
  unfold Gives
  exact ⟨_, Le.refl _ _, rfl, rfl⟩
def R_r09_left (n : Nat) (xs : List AV) (r : Ret) : Prop := ∃ (a0 : Nd) (a1 : Int) (y0 : Int), m_r09_left n a0 a1 = some y0 ∧ xs = [.agg ((Nd.enc a0).map .s), .s (.int .i64 a1)] ∧ r = .val (.s (.int .i64 y0))
set_option maxHeartbeats 2000000 in
set_option maxRecDepth 100000 in
theorem step_r09_left (n : Nat) (ih : PSound Try.prog 55 (pspec (R_r09_left n))) : PSound Try.prog 55 (pspec (R_r09_left (n + 1))) := by
  have gok : ∀ f s, look? f [(55, pspec (R_r09_left n))] = some s → PSound Try.prog f s := look_all (by
    simp only [List.forall_mem_cons]
    exact ⟨ih, by simp⟩)
  refine psound tokW Try.call55 Try.func55 rfl (fun xs r h => by obtain ⟨_, _, _, _, rfl, _⟩ := h; show 2 ≤ 27; decide) 27 rfl ?_
  rintro xs r w0 G0 ⟨⟨n1_kind, n1_text, n1_cols, n1_kids⟩, most2, y0, h, rfl, rfl⟩ _
  rw [m_r09_left] at h
  refine tri_seq ?_
  refine tri_region (by exact tokW) (by exact gok) [] [] rfl ?_
  show Tri _ _ _ _
  refine tri_seq ?_
  refine tri_region (by exact tokW) (by exact gok) [] [] rfl ?_
  show Tri _ _ _ _
  refine tri_seq ?_
  refine tri_seq ?_
  refine tri_region (by exact tokW) (by exact gok) [] [] rfl ?_
  show Tri _ _ _ _
  obtain ⟨most5, hl, h⟩ := bind_out h
  refine tri_post ⟨ofL [(1, .s (.int .i64 most5))], fun _ => none, 0⟩ ?_ (fun σ' hle => ?_)
  · refine tri_block (tri_loopI (X := Nat × Int × Int) (fun y => match y with | (k, most3, i4) => ⟨ofL [(1, .s (.int .i64 most3)), (2, .s (.pt [.int .i64 n1_kind, .str n1_text, .int .i64 n1_cols, .sl 4 (Nd.encs n1_kids)])), (5, .s (.int .i64 i4))], fun _ => none, 0⟩) (fun y => m_r09_left_l1 (m_r09_left n) n1_kids y.1 y.2.1 y.2.2 = some most5) (fun y => y.1) (n, IntKind.i64.wrap (most2 - 1), 0) hl ?_ ?_)
    · exact (Le.forget _ ⟨rfl, rfl, rfl, trivial⟩)
    · rintro ⟨k, most3, i4⟩ h
      cases k with
      | zero => cases h
      | succ k =>
        replace h : m_r09_left_l1 (m_r09_left n) n1_kids (k+1) most3 i4 = some most5 := h
        rw [m_r09_left_l1] at h
        refine tri_seq ?_
        refine tri_seq ?_
        obtain ⟨x6, hj, h⟩ := bind_out h
        refine tri_post ⟨ofL [(1, .s (.int .i64 most3)), (2, .s (.pt [.int .i64 n1_kind, .str n1_text, .int .i64 n1_cols, .sl 4 (Nd.encs n1_kids)])), (5, .s (.int .i64 i4)), (16, .s (.bool x6))], fun _ => none, 0⟩ ?_ (fun σ' hle => ?_)
        · replace h := hj
          refine tri_region (by exact tokW) (by exact gok) [] [11, 13] rfl ?_
          intro n7 hn7
          obtain rfl : (n1_kids.length : Int) = n7 := (hn7.trans (congrArg (fun m : Nat => (m : Int)) (rlen Nd.encs_eq n1_kids))).symm
          intro b hb
          cases b with
          | true =>
            replace h := bif_t hb.symm h
            cases h
            exact (Le.forget _ ⟨rfl, rfl, rfl, rfl, trivial⟩)
          | false =>
            replace h := bif_f hb.symm h
            cases h
            exact (Le.forget _ ⟨rfl, rfl, rfl, rfl, trivial⟩)
        · show Tri _ _ _ _
          refine tri_le hle ?_
          refine tri_cond rfl (fun hb => ?_) (fun hb => ?_)
          · replace h := bif_t hb h
            refine tri_skip ?_
            show Tri _ _ _ _
            refine tri_seq ?_
            refine tri_block ?_
            refine tri_region (by exact tokW) (by exact gok) [] [22] rfl ?_
            obtain ⟨⟨e8_kind, e8_text, e8_cols, e8_kids⟩, he8, h⟩ := bind_out h
            refine And.intro (at_ok Nd.encs_eq he8).1 ?_
            intro r9 hr9
            obtain rfl : [.int .i64 e8_kind, .str e8_text, .int .i64 e8_cols, .sl 4 (Nd.encs e8_kids)] = r9 := (hr9.trans (at_ok Nd.encs_eq he8).2.1).symm
            obtain ⟨y10, hy10, h⟩ := bind_out h
            refine ⟨_, ⟨_, _, _, hy10, rfl, rfl⟩, ?_⟩
            show Tri _ _ _ _
            refine tri_region (by exact tokW) (by exact gok) [] [] rfl ?_
            refine ⟨(k, y10, IntKind.i64.wrap (i4 + 1)), h, (Le.forget _ ⟨rfl, rfl, rfl, trivial⟩), Nat.lt_succ_self k⟩
          · replace h := bif_f hb h
            refine tri_exit ?_
            cases h
            exact (Le.forget _ ⟨rfl, trivial⟩)
  · show Tri _ _ _ _
    refine tri_le hle ?_
    refine tri_seq ?_
    refine tri_region (by exact tokW) (by exact gok) [] [] rfl ?_
    show Tri _ _ _ _
    refine tri_ret ?_
    have hy := Option.some.inj h
    subst hy
    unfold Gives
    exact ⟨_, Le.refl _ _, rfl, rfl⟩
theorem all_r09_left : ∀ n, PSound Try.prog 55 (pspec (R_r09_left n)) := by
  intro n
  induction n with
  | zero => exact psound_none Try.call55 (fun xs r h => by obtain ⟨_, _, _, h, _⟩ := h; cases h)
  | succ n ih => exact step_r09_left n ih
def S_r09_left : PSpec := pspec fun xs r => ∃ n, R_r09_left n xs r
theorem ok_r09_left : PSound Try.prog 55 S_r09_left := psound_all all_r09_left
def R_r09_Few (n : Nat) (xs : List AV) (r : Ret) : Prop := ∃ (a0 : Nd) (a1 : Int) (y0 : Bool), m_r09_Few n a0 a1 = some y0 ∧ xs = [.agg ((Nd.enc a0).map .s), .s (.int .i64 a1)] ∧ r = .val (.s (.bool y0))
def S_r09_Few : PSpec := pspec fun xs r => ∃ n, R_r09_Few n xs r
set_option maxHeartbeats 2000000 in
set_option maxRecDepth 100000 in
theorem ok_r09_Few : PSound Try.prog 34 S_r09_Few := by
  have gok : ∀ f s, look? f [(55, S_r09_left)] = some s → PSound Try.prog f s := look_all (by
    simp only [List.forall_mem_cons]
    exact ⟨ok_r09_left, by simp⟩)
  refine psound tokW Try.call34 Try.func34 rfl (fun xs r h => by obtain ⟨n, _, _, _, _, rfl, _⟩ := h; show 2 ≤ 9; decide) 9 rfl ?_
  rintro xs r w0 G0 ⟨n, ⟨n1_kind, n1_text, n1_cols, n1_kids⟩, most2, y0, h, rfl, rfl⟩ _
  rw [m_r09_Few] at h
  refine tri_seq ?_
  refine tri_region (by exact tokW) (by exact gok) [] [] rfl ?_
  show Tri _ _ _ _
  refine tri_seq ?_
  refine tri_region (by exact tokW) (by exact gok) [] [] rfl ?_
  obtain ⟨y3, hy3, h⟩ := bind_out h
  refine ⟨_, ⟨_, _, _, _, hy3, rfl, rfl⟩, ?_⟩
  show Tri _ _ _ _
  refine tri_ret ?_
  have hy := Option.some.inj h
  subst hy
  unfold Gives
  exact ⟨_, Le.refl _ _, rfl, rfl⟩
def R_r12_Few (n : Nat) (xs : List AV) (r : Ret) : Prop := ∃ (a0 : (Int × List Int × Int × Int × List Nd × Int × List UInt8 × List UInt8)) (y0 : Bool), m_r12_Few n a0 = some y0 ∧ xs = [.agg ((enc_api_Op a0).map .s)] ∧ r = .val (.s (.bool y0))
def S_r12_Few : PSpec := pspec fun xs r => ∃ n, R_r12_Few n xs r
set_option maxHeartbeats 2000000 in
set_option maxRecDepth 100000 in
theorem ok_r12_Few : PSound Try.prog 33 S_r12_Few := by
  have gok : ∀ f s, look? f [(54, S_r09_ToRow), (34, S_r09_Few)] = some s → PSound Try.prog f s := look_all (by
    simp only [List.forall_mem_cons]
    exact ⟨ok_r09_ToRow, ok_r09_Few, by simp⟩)
  refine psound tokW Try.call33 Try.func33 rfl (fun xs r h => by obtain ⟨n, _, _, _, rfl, _⟩ := h; show 1 ≤ 13; decide) 13 rfl ?_
  rintro xs r w0 G0 ⟨n, ⟨op1_kind, op1_row, op1_at, op1_n, op1_nodes, op1_slot, op1_old, op1_text⟩, y0, h, rfl, rfl⟩ _
  rw [m_r12_Few] at h
  refine tri_seq ?_
  refine tri_region (by exact tokW) (by exact gok) [] [] rfl ?_
  show Tri _ _ _ _
  refine tri_seq ?_
  obtain ⟨x2, hj, h⟩ := bind_out h
  refine tri_post ⟨ofL [(2, .s (.bool x2))], fun _ => none, 0⟩ ?_ (fun σ' hle => ?_)
  · replace h := hj
    refine tri_region (by exact tokW) (by exact gok) [] [7, 10] rfl ?_
    obtain ⟨⟨y3_kind, y3_text, y3_cols, y3_kids⟩, hy3, h⟩ := bind_out h
    refine ⟨_, ⟨_, _, hy3, rfl, rfl⟩, ?_⟩
    obtain ⟨y4, hy4, h⟩ := bind_out h
    refine ⟨_, ⟨_, _, _, _, hy4, rfl, rfl⟩, ?_⟩
    intro b hb
    cases b with
    | true =>
      replace h := bif_t hb.symm h
      intro n5 hn5
      obtain rfl : (op1_row.length : Int) = n5 := (hn5.trans (congrArg (fun m : Nat => (m : Int)) (rlen (fun _ => rfl) op1_row))).symm
      cases h
      exact (Le.forget _ ⟨rfl, trivial⟩)
    | false =>
      replace h := bif_f hb.symm h
      cases h
      exact (Le.forget _ ⟨rfl, trivial⟩)
  · show Tri _ _ _ _
    refine tri_le hle ?_
    refine tri_ret ?_
    have hy := Option.some.inj h
    subst hy
    unfold Gives
    exact ⟨_, Le.refl _ _, rfl, rfl⟩
def R_l12_few (n : Nat) (xs : List AV) (r : Ret) : Prop := ∃ (a0 : Nd) (a1 : List (Int × List Int × Int × Int × List Nd × Int × List UInt8 × List UInt8)) (y0 : Bool), m_l12_few n a0 a1 = some y0 ∧ xs = [.agg ((Nd.enc a0).map .s), .s (.sl 8 ((List.map enc_api_Op) a1))] ∧ r = .val (.s (.bool y0))
def S_l12_few : PSpec := pspec fun xs r => ∃ n, R_l12_few n xs r
set_option maxHeartbeats 2000000 in
set_option maxRecDepth 100000 in
theorem ok_l12_few : PSound Try.prog 12 S_l12_few := by
  have gok : ∀ f s, look? f [(33, S_r12_Few), (34, S_r09_Few)] = some s → PSound Try.prog f s := look_all (by
    simp only [List.forall_mem_cons]
    exact ⟨ok_r12_Few, ok_r09_Few, by simp⟩)
  refine psound tokW Try.call12 Try.func12 rfl (fun xs r h => by obtain ⟨n, _, _, _, _, rfl, _⟩ := h; show 2 ≤ 24; decide) 24 rfl ?_
  rintro xs r w0 G0 ⟨n, ⟨n1_kind, n1_text, n1_cols, n1_kids⟩, ops2, y0, h, rfl, rfl⟩ _
  rw [m_l12_few] at h
  refine tri_seq ?_
  refine tri_region (by exact tokW) (by exact gok) [] [] rfl ?_
  show Tri _ _ _ _
  refine tri_seq ?_
  refine tri_seq ?_
  refine tri_region (by exact tokW) (by exact gok) [] [8] rfl ?_
  intro n3 hn3
  obtain rfl : (ops2.length : Int) = n3 := (hn3.trans (congrArg (fun m : Nat => (m : Int)) (rlen (fun _ => rfl) ops2))).symm
  show Tri _ _ _ _
  obtain ⟨fl, hl, ho1⟩ := bind_out h
  refine tri_fl (fl := fl) (fun z => match z with | _ => ⟨ofL [(1, .s (.sl 8 ((List.map enc_api_Op) ops2))), (2, .s (.pt [.int .i64 n1_kind, .str n1_text, .int .i64 n1_cols, .sl 4 (Nd.encs n1_kids)]))], fun _ => none, 0⟩) ?_ (fun z σ' hz hle => ?_)
  · refine tri_block (tri_loopI (X := Nat × Int) (fun y => match y with | (k, x4) => ⟨ofL [(1, .s (.sl 8 ((List.map enc_api_Op) ops2))), (2, .s (.pt [.int .i64 n1_kind, .str n1_text, .int .i64 n1_cols, .sl 4 (Nd.encs n1_kids)])), (7, .s (.sl 8 ((List.map enc_api_Op) ops2))), (8, .s (.int .i64 (ops2.length : Int))), (9, .s (.int .i64 x4))], fun _ => none, 0⟩) (fun y => m_l12_few_l1 n ops2 y.1 y.2 = some fl) (fun y => y.1) (n, 0) hl ?_ ?_)
    · exact (Le.forget _ ⟨rfl, rfl, rfl, rfl, rfl, trivial⟩)
    · rintro ⟨k, x4⟩ h
      cases k with
      | zero => cases h
      | succ k =>
        replace h : m_l12_few_l1 n ops2 (k+1) x4 = some fl := h
        rw [m_l12_few_l1] at h
        refine tri_seq ?_
        refine tri_region (by exact tokW) (by exact gok) [] [] rfl ?_
        show Tri _ _ _ _
        refine tri_seq ?_
        refine tri_cond rfl (fun hb => ?_) (fun hb => ?_)
        · replace h := bif_t hb h
          refine tri_skip ?_
          show Tri _ _ _ _
          refine tri_seq ?_
          refine tri_block ?_
          refine tri_seq ?_
          refine tri_region (by exact tokW) (by exact gok) [6] [11] rfl ?_
          obtain ⟨⟨e5_kind, e5_row, e5_at, e5_n, e5_nodes, e5_slot, e5_old, e5_text⟩, he5, h⟩ := bind_out h
          refine And.intro (at_ok (fun _ => rfl) he5).1 ?_
          intro r6 hr6
          obtain rfl : [.int .i64 e5_kind, .sl 1 ((List.map (irow .i64)) e5_row), .int .i64 e5_at, .int .i64 e5_n, .sl 4 (Nd.encs e5_nodes), .int .i64 e5_slot, .str e5_old, .str e5_text] = r6 := (hr6.trans (at_ok (fun _ => rfl) he5).2.1).symm
          show Tri _ _ _ _
          refine tri_le (Le.giveBox 0 [.int .i64 e5_kind, .sl 1 ((List.map (irow .i64)) e5_row), .int .i64 e5_at, .int .i64 e5_n, .sl 4 (Nd.encs e5_nodes), .int .i64 e5_slot, .str e5_old, .str e5_text] rfl rfl) ?_
          refine tri_seq ?_
          refine tri_region (by exact tokW) (by exact gok) [] [] rfl ?_
          obtain ⟨y7, hy7, h⟩ := bind_out h
          refine ⟨_, ⟨_, _, _, hy7, rfl, rfl⟩, ?_⟩
          show Tri _ _ _ _
          refine tri_cond rfl (fun hb => ?_) (fun hb => ?_)
          · replace h := bif_t hb h
            refine tri_seq ?_
            refine tri_region (by exact tokW) (by exact gok) [] [] rfl ?_
            show Tri _ _ _ _
            refine tri_ret ?_
            cases h
            replace h : some _ = some _ := ho1
            have hy := Option.some.inj h
            subst hy
            unfold Gives
            exact ⟨_, Le.refl _ _, rfl, rfl⟩
          · replace h := bif_f hb h
            refine tri_skip ?_
            show Tri _ _ _ _
            refine tri_region (by exact tokW) (by exact gok) [] [] rfl ?_
            refine ⟨(k, IntKind.i64.wrap (x4 + 1)), h, (Le.rename [] _ [] 0 ⟨rfl, rfl, rfl, rfl, rfl, trivial⟩ trivial rfl rfl rfl rfl rfl), Nat.lt_succ_self k⟩
        · replace h := bif_f hb h
          refine tri_exit ?_
          cases h
          exact ⟨_, rfl, (Le.forget _ ⟨rfl, rfl, trivial⟩)⟩
  · subst hz
    obtain _ := z
    replace h := ho1
    show Tri _ _ _ _
    refine tri_le hle ?_
    refine tri_seq ?_
    obtain ⟨x8, hj, h⟩ := bind_out h
    refine tri_post ⟨ofL [(4, .s (.bool x8))], fun _ => none, 0⟩ ?_ (fun σ' hle => ?_)
    · replace h := hj
      refine tri_region (by exact tokW) (by exact gok) [] [19, 21] rfl ?_
      obtain ⟨y9, hy9, h⟩ := bind_out h
      refine ⟨_, ⟨_, _, _, _, hy9, rfl, rfl⟩, ?_⟩
      intro b hb
      cases b with
      | true =>
        replace h := bif_t hb.symm h
        intro n10 hn10
        obtain rfl : (ops2.length : Int) = n10 := (hn10.trans (congrArg (fun m : Nat => (m : Int)) (rlen (fun _ => rfl) ops2))).symm
        cases h
        exact (Le.forget _ ⟨rfl, trivial⟩)
      | false =>
        replace h := bif_f hb.symm h
        cases h
        exact (Le.forget _ ⟨rfl, trivial⟩)
    · show Tri _ _ _ _
      refine tri_le hle ?_
      refine tri_ret ?_
      have hy := Option.some.inj h
      subst hy
      unfold Gives
      exact ⟨_, Le.refl _ _, rfl, rfl⟩
def R_r09_Count (n : Nat) (xs : List AV) (r : Ret) : Prop := ∃ (a0 : Nd) (y0 : Int), m_r09_Count n a0 = some y0 ∧ xs = [.agg ((Nd.enc a0).map .s)] ∧ r = .val (.s (.int .i64 y0))
set_option maxHeartbeats 2000000 in
set_option maxRecDepth 100000 in
theorem step_r09_Count (n : Nat) (ih : PSound Try.prog 14 (pspec (R_r09_Count n))) : PSound Try.prog 14 (pspec (R_r09_Count (n + 1))) := by
  have gok : ∀ f s, look? f [(14, pspec (R_r09_Count n))] = some s → PSound Try.prog f s := look_all (by
    simp only [List.forall_mem_cons]
    exact ⟨ih, by simp⟩)
  refine psound tokW Try.call14 Try.func14 rfl (fun xs r h => by obtain ⟨_, _, _, rfl, _⟩ := h; show 1 ≤ 21; decide) 21 rfl ?_
  rintro xs r w0 G0 ⟨⟨n1_kind, n1_text, n1_cols, n1_kids⟩, y0, h, rfl, rfl⟩ _
  rw [m_r09_Count] at h
  refine tri_seq ?_
  refine tri_region (by exact tokW) (by exact gok) [] [] rfl ?_
  show Tri _ _ _ _
  refine tri_seq ?_
  refine tri_region (by exact tokW) (by exact gok) [] [] rfl ?_
  show Tri _ _ _ _
  refine tri_seq ?_
  refine tri_seq ?_
  refine tri_region (by exact tokW) (by exact gok) [] [] rfl ?_
  show Tri _ _ _ _
  obtain ⟨out4, hl, h⟩ := bind_out h
  refine tri_post ⟨ofL [(3, .s (.int .i64 out4))], fun _ => none, 0⟩ ?_ (fun σ' hle => ?_)
  · refine tri_block (tri_loopI (X := Nat × Int × Int) (fun y => match y with | (k, out2, i3) => ⟨ofL [(1, .s (.pt [.int .i64 n1_kind, .str n1_text, .int .i64 n1_cols, .sl 4 (Nd.encs n1_kids)])), (3, .s (.int .i64 out2)), (4, .s (.int .i64 i3))], fun _ => none, 0⟩) (fun y => m_r09_Count_l1 (m_r09_Count n) n1_kids y.1 y.2.1 y.2.2 = some out4) (fun y => y.1) (n, 1, 0) hl ?_ ?_)
    · exact (Le.forget _ ⟨rfl, rfl, rfl, trivial⟩)
    · rintro ⟨k, out2, i3⟩ h
      cases k with
      | zero => cases h
      | succ k =>
        replace h : m_r09_Count_l1 (m_r09_Count n) n1_kids (k+1) out2 i3 = some out4 := h
        rw [m_r09_Count_l1] at h
        refine tri_seq ?_
        refine tri_seq ?_
        refine tri_region (by exact tokW) (by exact gok) [] [8] rfl ?_
        intro n5 hn5
        obtain rfl : (n1_kids.length : Int) = n5 := (hn5.trans (congrArg (fun m : Nat => (m : Int)) (rlen Nd.encs_eq n1_kids))).symm
        show Tri _ _ _ _
        refine tri_cond rfl (fun hb => ?_) (fun hb => ?_)
        · replace h := bif_t hb h
          refine tri_skip ?_
          show Tri _ _ _ _
          refine tri_seq ?_
          refine tri_block ?_
          refine tri_region (by exact tokW) (by exact gok) [] [16] rfl ?_
          obtain ⟨⟨e6_kind, e6_text, e6_cols, e6_kids⟩, he6, h⟩ := bind_out h
          refine And.intro (at_ok Nd.encs_eq he6).1 ?_
          intro r7 hr7
          obtain rfl : [.int .i64 e6_kind, .str e6_text, .int .i64 e6_cols, .sl 4 (Nd.encs e6_kids)] = r7 := (hr7.trans (at_ok Nd.encs_eq he6).2.1).symm
          obtain ⟨y8, hy8, h⟩ := bind_out h
          refine ⟨_, ⟨_, _, hy8, rfl, rfl⟩, ?_⟩
          show Tri _ _ _ _
          refine tri_region (by exact tokW) (by exact gok) [] [] rfl ?_
          refine ⟨(k, IntKind.i64.wrap (out2 + y8), IntKind.i64.wrap (i3 + 1)), h, (Le.forget _ ⟨rfl, rfl, rfl, trivial⟩), Nat.lt_succ_self k⟩
        · replace h := bif_f hb h
          refine tri_exit ?_
          cases h
          exact (Le.forget _ ⟨rfl, trivial⟩)
  · show Tri _ _ _ _
    refine tri_le hle ?_
    refine tri_seq ?_
    refine tri_region (by exact tokW) (by exact gok) [] [] rfl ?_
    show Tri _ _ _ _
    refine tri_ret ?_
    have hy := Option.some.inj h
    subst hy
    unfold Gives
    exact ⟨_, Le.refl _ _, rfl, rfl⟩
theorem all_r09_Count : ∀ n, PSound Try.prog 14 (pspec (R_r09_Count n)) := by
  intro n
  induction n with
  | zero => exact psound_none Try.call14 (fun xs r h => by obtain ⟨_, _, h, _⟩ := h; cases h)
  | succ n ih => exact step_r09_Count n ih
def S_r09_Count : PSpec := pspec fun xs r => ∃ n, R_r09_Count n xs r
theorem ok_r09_Count : PSound Try.prog 14 S_r09_Count := psound_all all_r09_Count
def R_l12_EditCounts (n : Nat) (xs : List AV) (r : Ret) : Prop := ∃ (a0 : Nd) (a1 : (Int × List Int × Int × Int × List Nd × Int × List UInt8 × List UInt8)) (y0 : Bool), m_l12_EditCounts n a0 a1 = some y0 ∧ xs = [.agg ((Nd.enc a0).map .s), .agg ((enc_api_Op a1).map .s)] ∧ r = .val (.s (.bool y0))
def S_l12_EditCounts : PSpec := pspec fun xs r => ∃ n, R_l12_EditCounts n xs r
set_option maxHeartbeats 2000000 in
set_option maxRecDepth 100000 in
theorem ok_l12_EditCounts : PSound Try.prog 3 S_l12_EditCounts := by
  have gok : ∀ f s, look? f [(11, S_l12_awake), (12, S_l12_few), (13, S_edit_Apply), (14, S_r09_Count)] = some s → PSound Try.prog f s := look_all (by
    simp only [List.forall_mem_cons]
    exact ⟨ok_l12_awake, ok_l12_few, ok_edit_Apply, ok_r09_Count, by simp⟩)
  refine psound tokW Try.call3 Try.func3 rfl (fun xs r h => by obtain ⟨n, _, _, _, _, rfl, _⟩ := h; show 2 ≤ 57; decide) 57 rfl ?_
  rintro xs r w0 G0 ⟨n, ⟨n1_kind, n1_text, n1_cols, n1_kids⟩, ⟨op2_kind, op2_row, op2_at, op2_n, op2_nodes, op2_slot, op2_old, op2_text⟩, y0, h, rfl, rfl⟩ _
  rw [m_l12_EditCounts] at h
  refine tri_seq ?_
  refine tri_region (by exact tokW) (by exact gok) [] [] rfl ?_
  show Tri _ _ _ _
  refine tri_seq ?_
  refine tri_seq ?_
  obtain ⟨x3, hj, h⟩ := bind_out h
  refine tri_post ⟨ofL [(2, .s (.pt [.int .i64 n1_kind, .str n1_text, .int .i64 n1_cols, .sl 4 (Nd.encs n1_kids)])), (3, .s (.pt [.int .i64 op2_kind, .sl 1 ((List.map (irow .i64)) op2_row), .int .i64 op2_at, .int .i64 op2_n, .sl 4 (Nd.encs op2_nodes), .int .i64 op2_slot, .str op2_old, .str op2_text])), (18, .s (.bool x3))], fun _ => none, 0⟩ ?_ (fun σ' hle => ?_)
  · replace h := hj
    refine tri_region (by exact tokW) (by exact gok) [] [12, 15] rfl ?_
    obtain ⟨y4, hy4, h⟩ := bind_out h
    refine ⟨_, ⟨_, _, hy4, rfl, rfl⟩, ?_⟩
    intro b hb
    cases b with
    | true =>
      replace h := bif_t hb.symm h
      cases h
      exact (Le.forget _ ⟨rfl, rfl, rfl, trivial⟩)
    | false =>
      replace h := bif_f hb.symm h
      intro r5 hr5
      obtain rfl : (List.map enc_api_Op) [(op2_kind, op2_row, op2_at, op2_n, op2_nodes, op2_slot, op2_old, op2_text)] = r5 := (hr5.trans (by simp [List.map_append, List.map_take, List.map_drop, irow, brow, b8of_row, List.map_cons, List.map_nil, b8of_wrap, Nd.encs_eq, Nd.enc, enc_13_node_kind, enc_node_checker, enc_s_api_Node, enc_edit_change, enc_api_Op])).symm
      obtain ⟨y6, hy6, h⟩ := bind_out h
      refine ⟨_, ⟨_, _, _, _, hy6, rfl, rfl⟩, ?_⟩
      cases h
      exact (Le.forget _ ⟨rfl, rfl, rfl, trivial⟩)
  · show Tri _ _ _ _
    refine tri_le hle ?_
    refine tri_cond rfl (fun hb => ?_) (fun hb => ?_)
    · replace h := bif_t hb h
      refine tri_seq ?_
      refine tri_region (by exact tokW) (by exact gok) [] [] rfl ?_
      obtain ⟨y7, hy7, h⟩ := bind_out h
      refine ⟨_, ⟨_, _, hy7, rfl, rfl⟩, ?_⟩
      show Tri _ _ _ _
      refine tri_ret ?_
      have hy := Option.some.inj h
      subst hy
      unfold Gives
      exact ⟨_, Le.refl _ _, rfl, rfl⟩
    · replace h := bif_f hb h
      refine tri_skip ?_
      show Tri _ _ _ _
      refine tri_seq ?_
      refine tri_region (by exact tokW) (by exact gok) [5] [] rfl ?_
      obtain ⟨⟨⟨y8_kind, y8_text, y8_cols, y8_kids⟩, y9⟩, hy8, h⟩ := bind_out h
      refine ⟨_, ⟨_, _, _, _, _, hy8, rfl, rfl⟩, ?_⟩
      show Tri _ _ _ _
      refine tri_le (Le.giveBox 0 [.int .i64 y8_kind, .str y8_text, .int .i64 y8_cols, .sl 4 (Nd.encs y8_kids)] rfl rfl) ?_
      refine tri_seq ?_
      refine tri_seq ?_
      refine tri_region (by exact tokW) (by exact gok) [] [] rfl ?_
      show Tri _ _ _ _
      refine tri_cond rfl (fun hb => ?_) (fun hb => ?_)
      · replace h := bif_t hb h
        refine tri_seq ?_
        refine tri_region (by exact tokW) (by exact gok) [] [] rfl ?_
        show Tri _ _ _ _
        refine tri_ret ?_
        have hy := Option.some.inj h
        subst hy
        unfold Gives
        exact ⟨_, Le.refl _ _, rfl, rfl⟩
      · replace h := bif_f hb h
        refine tri_skip ?_
        show Tri _ _ _ _
        refine tri_seq ?_
        refine tri_region (by exact tokW) (by exact gok) [] [] rfl ?_
        show Tri _ _ _ _
        refine tri_seq ?_
        refine tri_seq ?_
        refine tri_region (by exact tokW) (by exact gok) [] [30] rfl ?_
        intro n10 hn10
        obtain rfl : (op2_nodes.length : Int) = n10 := (hn10.trans (congrArg (fun m : Nat => (m : Int)) (rlen Nd.encs_eq op2_nodes))).symm
        show Tri _ _ _ _
        obtain ⟨by13, hl, h⟩ := bind_out h
        refine tri_post ⟨ofL [(2, .s (.pt [.int .i64 n1_kind, .str n1_text, .int .i64 n1_cols, .sl 4 (Nd.encs n1_kids)])), (3, .s (.pt [.int .i64 op2_kind, .sl 1 ((List.map (irow .i64)) op2_row), .int .i64 op2_at, .int .i64 op2_n, .sl 4 (Nd.encs op2_nodes), .int .i64 op2_slot, .str op2_old, .str op2_text])), (5, .s (.pt [.int .i64 y8_kind, .str y8_text, .int .i64 y8_cols, .sl 4 (Nd.encs y8_kids)])), (7, .s (.int .i64 by13))], fun _ => none, 0⟩ ?_ (fun σ' hle => ?_)
        · refine tri_block (tri_loopI (X := Nat × Int × Int) (fun y => match y with | (k, x11, by12) => ⟨ofL [(2, .s (.pt [.int .i64 n1_kind, .str n1_text, .int .i64 n1_cols, .sl 4 (Nd.encs n1_kids)])), (3, .s (.pt [.int .i64 op2_kind, .sl 1 ((List.map (irow .i64)) op2_row), .int .i64 op2_at, .int .i64 op2_n, .sl 4 (Nd.encs op2_nodes), .int .i64 op2_slot, .str op2_old, .str op2_text])), (5, .s (.pt [.int .i64 y8_kind, .str y8_text, .int .i64 y8_cols, .sl 4 (Nd.encs y8_kids)])), (7, .s (.int .i64 by12)), (29, .s (.sl 4 (Nd.encs op2_nodes))), (30, .s (.int .i64 (op2_nodes.length : Int))), (31, .s (.int .i64 x11))], fun _ => none, 0⟩) (fun y => m_l12_EditCounts_l1 n op2_nodes y.1 y.2.1 y.2.2 = some by13) (fun y => y.1) (n, 0, 0) hl ?_ ?_)
          · exact (Le.rename [] _ [] 0 ⟨rfl, rfl, rfl, rfl, rfl, rfl, rfl, trivial⟩ trivial rfl rfl rfl rfl rfl)
          · rintro ⟨k, x11, by12⟩ h
            cases k with
            | zero => cases h
            | succ k =>
              replace h : m_l12_EditCounts_l1 n op2_nodes (k+1) x11 by12 = some by13 := h
              rw [m_l12_EditCounts_l1] at h
              refine tri_seq ?_
              refine tri_region (by exact tokW) (by exact gok) [] [] rfl ?_
              show Tri _ _ _ _
              refine tri_seq ?_
              refine tri_cond rfl (fun hb => ?_) (fun hb => ?_)
              · replace h := bif_t hb h
                refine tri_skip ?_
                show Tri _ _ _ _
                refine tri_seq ?_
                refine tri_block ?_
                refine tri_seq ?_
                refine tri_region (by exact tokW) (by exact gok) [9] [33] rfl ?_
                obtain ⟨⟨e14_kind, e14_text, e14_cols, e14_kids⟩, he14, h⟩ := bind_out h
                refine And.intro (at_ok Nd.encs_eq he14).1 ?_
                intro r15 hr15
                obtain rfl : [.int .i64 e14_kind, .str e14_text, .int .i64 e14_cols, .sl 4 (Nd.encs e14_kids)] = r15 := (hr15.trans (at_ok Nd.encs_eq he14).2.1).symm
                show Tri _ _ _ _
                refine tri_le (Le.giveBox 0 [.int .i64 e14_kind, .str e14_text, .int .i64 e14_cols, .sl 4 (Nd.encs e14_kids)] rfl rfl) ?_
                refine tri_region (by exact tokW) (by exact gok) [] [] rfl ?_
                obtain ⟨y16, hy16, h⟩ := bind_out h
                refine ⟨_, ⟨_, _, _, hy16, rfl, rfl⟩, ?_⟩
                show Tri _ _ _ _
                refine tri_region (by exact tokW) (by exact gok) [] [] rfl ?_
                refine ⟨(k, IntKind.i64.wrap (x11 + 1), IntKind.i64.wrap (by12 + y16)), h, (Le.rename [] _ [] 0 ⟨rfl, rfl, rfl, rfl, rfl, rfl, rfl, trivial⟩ trivial rfl rfl rfl rfl rfl), Nat.lt_succ_self k⟩
              · replace h := bif_f hb h
                refine tri_exit ?_
                cases h
                exact (Le.forget _ ⟨rfl, rfl, rfl, rfl, trivial⟩)
        · show Tri _ _ _ _
          refine tri_le hle ?_
          refine tri_seq ?_
          refine tri_seq ?_
          obtain ⟨x17, hj, h⟩ := bind_out h
          refine tri_post ⟨ofL [(2, .s (.pt [.int .i64 n1_kind, .str n1_text, .int .i64 n1_cols, .sl 4 (Nd.encs n1_kids)])), (5, .s (.pt [.int .i64 y8_kind, .str y8_text, .int .i64 y8_cols, .sl 4 (Nd.encs y8_kids)])), (7, .s (.int .i64 by13)), (47, .s (.bool x17))], fun _ => none, 0⟩ ?_ (fun σ' hle => ?_)
          · replace h := hj
            refine tri_region (by exact tokW) (by exact gok) [] [43] rfl ?_
            intro b hb
            cases b with
            | true =>
              replace h := bif_t hb.symm h
              cases h
              exact (Le.forget _ ⟨rfl, rfl, rfl, rfl, trivial⟩)
            | false =>
              replace h := bif_f hb.symm h
              cases h
              exact (Le.forget _ ⟨rfl, rfl, rfl, rfl, trivial⟩)
          · show Tri _ _ _ _
            refine tri_le hle ?_
            obtain ⟨by18, hj, h⟩ := bind_out h
            refine tri_post ⟨ofL [(2, .s (.pt [.int .i64 n1_kind, .str n1_text, .int .i64 n1_cols, .sl 4 (Nd.encs n1_kids)])), (5, .s (.pt [.int .i64 y8_kind, .str y8_text, .int .i64 y8_cols, .sl 4 (Nd.encs y8_kids)])), (7, .s (.int .i64 by18))], fun _ => none, 0⟩ ?_ (fun σ' hle => ?_)
            · replace h := hj
              refine tri_cond rfl (fun hb => ?_) (fun hb => ?_)
              · replace h := bif_t hb h
                refine tri_region (by exact tokW) (by exact gok) [] [] rfl ?_
                cases h
                exact (Le.forget _ ⟨rfl, rfl, rfl, trivial⟩)
              · replace h := bif_f hb h
                refine tri_skip ?_
                cases h
                exact (Le.forget _ ⟨rfl, rfl, rfl, trivial⟩)
            · show Tri _ _ _ _
              refine tri_le hle ?_
              refine tri_seq ?_
              refine tri_drawn (by exact tokW) (by exact gok) (by exact mixed) [] [] [] rfl (by decide +kernel) ?_
              obtain ⟨y19, hy19, h⟩ := bind_out h
              refine ⟨_, ⟨_, _, _, hy19, rfl, rfl⟩, ?_⟩
              obtain ⟨y20, hy20, h⟩ := bind_out h
              refine ⟨_, ⟨_, _, _, hy20, rfl, rfl⟩, ?_⟩
              show Tri _ _ _ _
              refine tri_ret ?_
              have hy := Option.some.inj h
              subst hy
              unfold Gives
              exact ⟨_, Le.refl _ _, rfl, rfl⟩
def R_l12_begins (n : Nat) (xs : List AV) (r : Ret) : Prop := ∃ (a0 : List Int) (a1 : List Int) (y0 : Bool), m_l12_begins n a0 a1 = some y0 ∧ xs = [.s (.sl 1 ((List.map (irow .i64)) a0)), .s (.sl 1 ((List.map (irow .i64)) a1))] ∧ r = .val (.s (.bool y0))
def S_l12_begins : PSpec := pspec fun xs r => ∃ n, R_l12_begins n xs r
set_option maxHeartbeats 2000000 in
set_option maxRecDepth 100000 in
theorem ok_l12_begins : PSound Try.prog 15 S_l12_begins := by
  have gok : ∀ (f : Nat) (s : PSpec), (fun _ => none : Nat → Option PSpec) f = some s → PSound Try.prog f s := fun _ _ h => by cases h
  refine psound tokW Try.call15 Try.func15 rfl (fun xs r h => by obtain ⟨n, _, _, _, _, rfl, _⟩ := h; show 2 ≤ 26; decide) 26 rfl ?_
  rintro xs r w0 G0 ⟨n, l1, with2, y0, h, rfl, rfl⟩ _
  rw [m_l12_begins] at h
  refine tri_seq ?_
  refine tri_region (by exact tokW) (by exact gok) [] [] rfl ?_
  show Tri _ _ _ _
  refine tri_seq ?_
  refine tri_seq ?_
  refine tri_region (by exact tokW) (by exact gok) [] [7, 9] rfl ?_
  intro n3 hn3
  obtain rfl : (l1.length : Int) = n3 := (hn3.trans (congrArg (fun m : Nat => (m : Int)) (rlen (fun _ => rfl) l1))).symm
  intro n4 hn4
  obtain rfl : (with2.length : Int) = n4 := (hn4.trans (congrArg (fun m : Nat => (m : Int)) (rlen (fun _ => rfl) with2))).symm
  show Tri _ _ _ _
  refine tri_cond rfl (fun hb => ?_) (fun hb => ?_)
  · replace h := bif_t hb h
    refine tri_seq ?_
    refine tri_region (by exact tokW) (by exact gok) [] [] rfl ?_
    show Tri _ _ _ _
    refine tri_ret ?_
    have hy := Option.some.inj h
    subst hy
    unfold Gives
    exact ⟨_, Le.refl _ _, rfl, rfl⟩
  · replace h := bif_f hb h
    refine tri_skip ?_
    show Tri _ _ _ _
    refine tri_seq ?_
    refine tri_seq ?_
    refine tri_region (by exact tokW) (by exact gok) [] [12] rfl ?_
    intro n5 hn5
    obtain rfl : (with2.length : Int) = n5 := (hn5.trans (congrArg (fun m : Nat => (m : Int)) (rlen (fun _ => rfl) with2))).symm
    show Tri _ _ _ _
    obtain ⟨fl, hl, ho1⟩ := bind_out h
    refine tri_fl (fl := fl) (fun z => match z with | _ => ⟨ofL [], fun _ => none, 0⟩) ?_ (fun z σ' hz hle => ?_)
    · refine tri_block (tri_loopI (X := Nat × Int) (fun y => match y with | (k, x6) => ⟨ofL [(0, .s (.sl 1 ((List.map (irow .i64)) l1))), (1, .s (.sl 1 ((List.map (irow .i64)) with2))), (12, .s (.int .i64 (with2.length : Int))), (13, .s (.int .i64 x6))], fun _ => none, 0⟩) (fun y => m_l12_begins_l1 l1 with2 y.1 y.2 = some fl) (fun y => y.1) (n, 0) hl ?_ ?_)
      · exact (Le.forget _ ⟨rfl, rfl, rfl, rfl, trivial⟩)
      · rintro ⟨k, x6⟩ h
        cases k with
        | zero => cases h
        | succ k =>
          replace h : m_l12_begins_l1 l1 with2 (k+1) x6 = some fl := h
          rw [m_l12_begins_l1] at h
          refine tri_seq ?_
          refine tri_region (by exact tokW) (by exact gok) [] [] rfl ?_
          show Tri _ _ _ _
          refine tri_seq ?_
          refine tri_cond rfl (fun hb => ?_) (fun hb => ?_)
          · replace h := bif_t hb h
            refine tri_skip ?_
            show Tri _ _ _ _
            refine tri_seq ?_
            refine tri_block ?_
            refine tri_seq ?_
            refine tri_region (by exact tokW) (by exact gok) [] [] rfl ?_
            show Tri _ _ _ _
            refine tri_seq ?_
            refine tri_drawn (by exact tokW) (by exact gok) (by exact mixed) [] [18, 22] [] rfl (by decide +kernel) ?_
            obtain ⟨e7, he7, h⟩ := bind_out h
            refine And.intro (at_ok (fun _ => rfl) he7).1 ?_
            intro r8 hr8
            obtain rfl : [.int .i64 e7] = r8 := (hr8.trans (at_ok (fun _ => rfl) he7).2.1).symm
            obtain ⟨e9, he9, h⟩ := bind_out h
            refine And.intro (at_ok (fun _ => rfl) he9).1 ?_
            intro r10 hr10
            obtain rfl : [.int .i64 e9] = r10 := (hr10.trans (at_ok (fun _ => rfl) he9).2.1).symm
            show Tri _ _ _ _
            refine tri_cond rfl (fun hb => ?_) (fun hb => ?_)
            · replace h := bif_t hb h
              refine tri_seq ?_
              refine tri_region (by exact tokW) (by exact gok) [] [] rfl ?_
              show Tri _ _ _ _
              refine tri_ret ?_
              cases h
              replace h : some _ = some _ := ho1
              have hy := Option.some.inj h
              subst hy
              unfold Gives
              exact ⟨_, Le.refl _ _, rfl, rfl⟩
            · replace h := bif_f hb h
              refine tri_skip ?_
              show Tri _ _ _ _
              refine tri_region (by exact tokW) (by exact gok) [] [] rfl ?_
              refine ⟨(k, IntKind.i64.wrap (x6 + 1)), h, (Le.forget _ ⟨rfl, rfl, rfl, rfl, trivial⟩), Nat.lt_succ_self k⟩
          · replace h := bif_f hb h
            refine tri_exit ?_
            cases h
            exact ⟨_, rfl, (Le.forget _ trivial)⟩
    · subst hz
      obtain _ := z
      replace h := ho1
      show Tri _ _ _ _
      refine tri_le hle ?_
      refine tri_seq ?_
      refine tri_region (by exact tokW) (by exact gok) [] [] rfl ?_
      show Tri _ _ _ _
      refine tri_ret ?_
      have hy := Option.some.inj h
      subst hy
      unfold Gives
      exact ⟨_, Le.refl _ _, rfl, rfl⟩
def R_r09_Letter (xs : List AV) (r : Ret) : Prop := ∃ (a0 : Int) (y0 : Bool), m_r09_Letter a0 = some y0 ∧ xs = [.s (.int .u8 a0)] ∧ r = .val (.s (.bool y0))
def S_r09_Letter : PSpec := pspec fun xs r => R_r09_Letter xs r
set_option maxHeartbeats 2000000 in
set_option maxRecDepth 100000 in
theorem ok_r09_Letter : PSound Try.prog 100 S_r09_Letter := by
  have gok : ∀ (f : Nat) (s : PSpec), (fun _ => none : Nat → Option PSpec) f = some s → PSound Try.prog f s := fun _ _ h => by cases h
  refine psound tokW Try.call100 Try.func100 rfl (fun xs r h => by obtain ⟨_, _, _, rfl, _⟩ := h; show 1 ≤ 17; decide) 17 rfl ?_
  rintro xs r w0 G0 ⟨c1, y0, h, rfl, rfl⟩ _
  rw [m_r09_Letter] at h
  refine tri_seq ?_
  refine tri_region (by exact tokW) (by exact gok) [] [] rfl ?_
  show Tri _ _ _ _
  refine tri_seq ?_
  obtain ⟨x2, hj, h⟩ := bind_out h
  refine tri_post ⟨ofL [(2, .s (.bool x2))], fun _ => none, 0⟩ ?_ (fun σ' hle => ?_)
  · replace h := hj
    refine tri_region (by exact tokW) (by exact gok) [] [5, 9, 12] rfl ?_
    intro b hb
    cases b with
    | true =>
      replace h := bif_t hb.symm h
      intro b hb
      cases b with
      | true =>
        replace h := bif_t hb.symm h
        cases h
        exact (Le.forget _ ⟨rfl, trivial⟩)
      | false =>
        replace h := bif_f hb.symm h
        intro b hb
        cases b with
        | true =>
          replace h := bif_t hb.symm h
          cases h
          exact (Le.forget _ ⟨rfl, trivial⟩)
        | false =>
          replace h := bif_f hb.symm h
          cases h
          exact (Le.forget _ ⟨rfl, trivial⟩)
    | false =>
      replace h := bif_f hb.symm h
      intro b hb
      subst hb
      intro b hb
      cases b with
      | true =>
        replace h := bif_t hb.symm h
        cases h
        exact (Le.forget _ ⟨rfl, trivial⟩)
      | false =>
        replace h := bif_f hb.symm h
        cases h
        exact (Le.forget _ ⟨rfl, trivial⟩)
  · show Tri _ _ _ _
    refine tri_le hle ?_
    refine tri_ret ?_
    have hy := Option.some.inj h
    subst hy
    unfold Gives
    exact ⟨_, Le.refl _ _, rfl, rfl⟩
def R_r09_has (n : Nat) (xs : List AV) (r : Ret) : Prop := ∃ (a0 : List UInt8) (a1 : Int) (y0 : Bool), m_r09_has n a0 a1 = some y0 ∧ xs = [.s (.str a0), .s (.int .u8 a1)] ∧ r = .val (.s (.bool y0))
def S_r09_has : PSpec := pspec fun xs r => ∃ n, R_r09_has n xs r
set_option maxHeartbeats 2000000 in
set_option maxRecDepth 100000 in
theorem ok_r09_has : PSound Try.prog 91 S_r09_has := by
  have gok : ∀ (f : Nat) (s : PSpec), (fun _ => none : Nat → Option PSpec) f = some s → PSound Try.prog f s := fun _ _ h => by cases h
  refine psound tokW Try.call91 Try.func91 rfl (fun xs r h => by obtain ⟨n, _, _, _, _, rfl, _⟩ := h; show 2 ≤ 17; decide) 17 rfl ?_
  rintro xs r w0 G0 ⟨n, s1, c2, y0, h, rfl, rfl⟩ _
  rw [m_r09_has] at h
  refine tri_seq ?_
  refine tri_region (by exact tokW) (by exact gok) [] [] rfl ?_
  show Tri _ _ _ _
  refine tri_seq ?_
  refine tri_seq ?_
  refine tri_region (by exact tokW) (by exact gok) [] [] rfl ?_
  show Tri _ _ _ _
  obtain ⟨fl, hl, ho1⟩ := bind_out h
  refine tri_fl (fl := fl) (fun z => match z with | _ => ⟨ofL [], fun _ => none, 0⟩) ?_ (fun z σ' hz hle => ?_)
  · refine tri_block (tri_loopI (X := Nat × Int) (fun y => match y with | (k, i3) => ⟨ofL [(0, .s (.str s1)), (1, .s (.int .u8 c2)), (5, .s (.int .i64 i3))], fun _ => none, 0⟩) (fun y => m_r09_has_l1 s1 c2 y.1 y.2 = some fl) (fun y => y.1) (n, 0) hl ?_ ?_)
    · exact (Le.forget _ ⟨rfl, rfl, rfl, trivial⟩)
    · rintro ⟨k, i3⟩ h
      cases k with
      | zero => cases h
      | succ k =>
        replace h : m_r09_has_l1 s1 c2 (k+1) i3 = some fl := h
        rw [m_r09_has_l1] at h
        refine tri_seq ?_
        refine tri_seq ?_
        refine tri_region (by exact tokW) (by exact gok) [] [] rfl ?_
        show Tri _ _ _ _
        refine tri_cond rfl (fun hb => ?_) (fun hb => ?_)
        · replace h := bif_t hb h
          refine tri_skip ?_
          show Tri _ _ _ _
          refine tri_seq ?_
          refine tri_block ?_
          refine tri_seq ?_
          refine tri_region (by exact tokW) (by exact gok) [] [14] rfl ?_
          obtain ⟨c4, hc4, h⟩ := bind_out h
          refine And.intro (str_ok hc4).1 ?_
          intro v5 hv5
          obtain rfl : (c4.toNat : Int) = v5 := (hv5.trans (str_ok hc4).2).symm
          show Tri _ _ _ _
          refine tri_cond rfl (fun hb => ?_) (fun hb => ?_)
          · replace h := bif_t hb h
            refine tri_seq ?_
            refine tri_region (by exact tokW) (by exact gok) [] [] rfl ?_
            show Tri _ _ _ _
            refine tri_ret ?_
            cases h
            replace h : some _ = some _ := ho1
            have hy := Option.some.inj h
            subst hy
            unfold Gives
            exact ⟨_, Le.refl _ _, rfl, rfl⟩
          · replace h := bif_f hb h
            refine tri_skip ?_
            show Tri _ _ _ _
            refine tri_region (by exact tokW) (by exact gok) [] [] rfl ?_
            refine ⟨(k, IntKind.i64.wrap (i3 + 1)), h, (Le.forget _ ⟨rfl, rfl, rfl, trivial⟩), Nat.lt_succ_self k⟩
        · replace h := bif_f hb h
          refine tri_exit ?_
          cases h
          exact ⟨_, rfl, (Le.forget _ trivial)⟩
  · subst hz
    obtain _ := z
    replace h := ho1
    show Tri _ _ _ _
    refine tri_le hle ?_
    refine tri_seq ?_
    refine tri_region (by exact tokW) (by exact gok) [] [] rfl ?_
    show Tri _ _ _ _
    refine tri_ret ?_
    have hy := Option.some.inj h
    subst hy
    unfold Gives
    exact ⟨_, Le.refl _ _, rfl, rfl⟩
def R_r09_Character (n : Nat) (xs : List AV) (r : Ret) : Prop := ∃ (a0 : Int) (y0 : Bool), m_r09_Character n a0 = some y0 ∧ xs = [.s (.int .u8 a0)] ∧ r = .val (.s (.bool y0))
def S_r09_Character : PSpec := pspec fun xs r => ∃ n, R_r09_Character n xs r
set_option maxHeartbeats 2000000 in
set_option maxRecDepth 100000 in
theorem ok_r09_Character : PSound Try.prog 99 S_r09_Character := by
  have gok : ∀ f s, look? f [(100, S_r09_Letter), (91, S_r09_has)] = some s → PSound Try.prog f s := look_all (by
    simp only [List.forall_mem_cons]
    exact ⟨ok_r09_Letter, ok_r09_has, by simp⟩)
  refine psound tokW Try.call99 Try.func99 rfl (fun xs r h => by obtain ⟨n, _, _, _, rfl, _⟩ := h; show 1 ≤ 9; decide) 9 rfl ?_
  rintro xs r w0 G0 ⟨n, c1, y0, h, rfl, rfl⟩ _
  rw [m_r09_Character] at h
  refine tri_seq ?_
  refine tri_region (by exact tokW) (by exact gok) [] [] rfl ?_
  show Tri _ _ _ _
  refine tri_seq ?_
  obtain ⟨x2, hj, h⟩ := bind_out h
  refine tri_post ⟨ofL [(2, .s (.bool x2))], fun _ => none, 0⟩ ?_ (fun σ' hle => ?_)
  · replace h := hj
    refine tri_region (by exact tokW) (by exact gok) [] [5] rfl ?_
    obtain ⟨y3, hy3, h⟩ := bind_out h
    refine ⟨_, ⟨_, _, hy3, rfl, rfl⟩, ?_⟩
    intro b hb
    cases b with
    | true =>
      replace h := bif_t hb.symm h
      cases h
      exact (Le.forget _ ⟨rfl, trivial⟩)
    | false =>
      replace h := bif_f hb.symm h
      obtain ⟨y4, hy4, h⟩ := bind_out h
      refine ⟨_, ⟨_, _, _, _, hy4, rfl, rfl⟩, ?_⟩
      cases h
      exact (Le.forget _ ⟨rfl, trivial⟩)
  · show Tri _ _ _ _
    refine tri_le hle ?_
    refine tri_ret ?_
    have hy := Option.some.inj h
    subst hy
    unfold Gives
    exact ⟨_, Le.refl _ _, rfl, rfl⟩
def enc_string (p : List UInt8) : List S := [.str p]
def R_r09_Keywords (xs : List AV) (r : Ret) : Prop := ∃ (y0 : List (List UInt8)), m_r09_Keywords = some y0 ∧ xs = [] ∧ r = .val (.s (.sl 1 ((List.map enc_string) y0)))
def S_r09_Keywords : PSpec := pspec fun xs r => R_r09_Keywords xs r
set_option maxHeartbeats 2000000 in
set_option maxRecDepth 100000 in
theorem ok_r09_Keywords : PSound Try.prog 101 S_r09_Keywords := by
  have gok : ∀ (f : Nat) (s : PSpec), (fun _ => none : Nat → Option PSpec) f = some s → PSound Try.prog f s := fun _ _ h => by cases h
  refine psound tokW Try.call101 Try.func101 rfl (fun xs r h => by obtain ⟨_, _, rfl, _⟩ := h; show 0 ≤ 2; decide) 2 rfl ?_
  rintro xs r w0 G0 ⟨y0, h, rfl, rfl⟩ _
  rw [m_r09_Keywords] at h
  refine tri_seq ?_
  refine tri_region (by exact tokW) (by exact gok) [] [] rfl ?_
  show Tri _ _ _ _
  refine tri_seq ?_
  refine tri_region (by exact tokW) (by exact gok) [] [1] rfl ?_
  intro r1 hr1
  obtain rfl : (List.map enc_string) [[102, 114, 97, 99], [114, 111, 111, 116], [109, 97, 116, 114, 105, 120], [102, 101, 110, 99, 101]] = r1 := (hr1.trans (by simp [List.map_append, List.map_take, List.map_drop, irow, brow, b8of_row, List.map_cons, List.map_nil, b8of_wrap, Nd.encs_eq, Nd.enc, enc_13_node_kind, enc_node_checker, enc_s_api_Node, enc_edit_change, enc_api_Op, enc_string])).symm
  show Tri _ _ _ _
  refine tri_ret ?_
  have hy := Option.some.inj h
  subst hy
  unfold Gives
  exact ⟨_, Le.refl _ _, rfl, rfl⟩
def R_r09_In (n : Nat) (xs : List AV) (r : Ret) : Prop := ∃ (a0 : List (List UInt8)) (a1 : List UInt8) (y0 : Bool), m_r09_In n a0 a1 = some y0 ∧ xs = [.s (.sl 1 ((List.map enc_string) a0)), .s (.str a1)] ∧ r = .val (.s (.bool y0))
def S_r09_In : PSpec := pspec fun xs r => ∃ n, R_r09_In n xs r
set_option maxHeartbeats 2000000 in
set_option maxRecDepth 100000 in
theorem ok_r09_In : PSound Try.prog 89 S_r09_In := by
  have gok : ∀ (f : Nat) (s : PSpec), (fun _ => none : Nat → Option PSpec) f = some s → PSound Try.prog f s := fun _ _ h => by cases h
  refine psound tokW Try.call89 Try.func89 rfl (fun xs r h => by obtain ⟨n, _, _, _, _, rfl, _⟩ := h; show 2 ≤ 18; decide) 18 rfl ?_
  rintro xs r w0 G0 ⟨n, l1, s2, y0, h, rfl, rfl⟩ _
  rw [m_r09_In] at h
  refine tri_seq ?_
  refine tri_region (by exact tokW) (by exact gok) [] [] rfl ?_
  show Tri _ _ _ _
  refine tri_seq ?_
  refine tri_seq ?_
  refine tri_region (by exact tokW) (by exact gok) [] [] rfl ?_
  show Tri _ _ _ _
  obtain ⟨fl, hl, ho1⟩ := bind_out h
  refine tri_fl (fl := fl) (fun z => match z with | _ => ⟨ofL [], fun _ => none, 0⟩) ?_ (fun z σ' hz hle => ?_)
  · refine tri_block (tri_loopI (X := Nat × Int) (fun y => match y with | (k, i3) => ⟨ofL [(0, .s (.sl 1 ((List.map enc_string) l1))), (1, .s (.str s2)), (5, .s (.int .i64 i3))], fun _ => none, 0⟩) (fun y => m_r09_In_l1 l1 s2 y.1 y.2 = some fl) (fun y => y.1) (n, 0) hl ?_ ?_)
    · exact (Le.forget _ ⟨rfl, rfl, rfl, trivial⟩)
    · rintro ⟨k, i3⟩ h
      cases k with
      | zero => cases h
      | succ k =>
        replace h : m_r09_In_l1 l1 s2 (k+1) i3 = some fl := h
        rw [m_r09_In_l1] at h
        refine tri_seq ?_
        refine tri_seq ?_
        refine tri_region (by exact tokW) (by exact gok) [] [8] rfl ?_
        intro n4 hn4
        obtain rfl : (l1.length : Int) = n4 := (hn4.trans (congrArg (fun m : Nat => (m : Int)) (rlen (fun _ => rfl) l1))).symm
        show Tri _ _ _ _
        refine tri_cond rfl (fun hb => ?_) (fun hb => ?_)
        · replace h := bif_t hb h
          refine tri_skip ?_
          show Tri _ _ _ _
          refine tri_seq ?_
          refine tri_block ?_
          refine tri_seq ?_
          refine tri_region (by exact tokW) (by exact gok) [] [14] rfl ?_
          obtain ⟨e5, he5, h⟩ := bind_out h
          refine And.intro (at_ok (fun _ => rfl) he5).1 ?_
          intro r6 hr6
          obtain rfl : [.str e5] = r6 := (hr6.trans (at_ok (fun _ => rfl) he5).2.1).symm
          show Tri _ _ _ _
          refine tri_cond rfl (fun hb => ?_) (fun hb => ?_)
          · replace h := bif_t hb h
            refine tri_seq ?_
            refine tri_region (by exact tokW) (by exact gok) [] [] rfl ?_
            show Tri _ _ _ _
            refine tri_ret ?_
            cases h
            replace h : some _ = some _ := ho1
            have hy := Option.some.inj h
            subst hy
            unfold Gives
            exact ⟨_, Le.refl _ _, rfl, rfl⟩
          · replace h := bif_f hb h
            refine tri_skip ?_
            show Tri _ _ _ _
            refine tri_region (by exact tokW) (by exact gok) [] [] rfl ?_
            refine ⟨(k, IntKind.i64.wrap (i3 + 1)), h, (Le.forget _ ⟨rfl, rfl, rfl, trivial⟩), Nat.lt_succ_self k⟩
        · replace h := bif_f hb h
          refine tri_exit ?_
          cases h
          exact ⟨_, rfl, (Le.forget _ trivial)⟩
  · subst hz
    obtain _ := z
    replace h := ho1
    show Tri _ _ _ _
    refine tri_le hle ?_
    refine tri_seq ?_
    refine tri_region (by exact tokW) (by exact gok) [] [] rfl ?_
    show Tri _ _ _ _
    refine tri_ret ?_
    have hy := Option.some.inj h
    subst hy
    unfold Gives
    exact ⟨_, Le.refl _ _, rfl, rfl⟩
def R_r09_Accents (xs : List AV) (r : Ret) : Prop := ∃ (y0 : List (List UInt8)), m_r09_Accents = some y0 ∧ xs = [] ∧ r = .val (.s (.sl 1 ((List.map enc_string) y0)))
def S_r09_Accents : PSpec := pspec fun xs r => R_r09_Accents xs r
set_option maxHeartbeats 2000000 in
set_option maxRecDepth 100000 in
theorem ok_r09_Accents : PSound Try.prog 90 S_r09_Accents := by
  have gok : ∀ (f : Nat) (s : PSpec), (fun _ => none : Nat → Option PSpec) f = some s → PSound Try.prog f s := fun _ _ h => by cases h
  refine psound tokW Try.call90 Try.func90 rfl (fun xs r h => by obtain ⟨_, _, rfl, _⟩ := h; show 0 ≤ 2; decide) 2 rfl ?_
  rintro xs r w0 G0 ⟨y0, h, rfl, rfl⟩ _
  rw [m_r09_Accents] at h
  refine tri_seq ?_
  refine tri_region (by exact tokW) (by exact gok) [] [] rfl ?_
  show Tri _ _ _ _
  refine tri_seq ?_
  refine tri_region (by exact tokW) (by exact gok) [] [1] rfl ?_
  intro r1 hr1
  obtain rfl : (List.map enc_string) [[104, 97, 116], [98, 97, 114], [118, 101, 99], [100, 111, 116], [116, 105, 108, 100, 101], [99, 104, 101, 99, 107]] = r1 := (hr1.trans (by simp [List.map_append, List.map_take, List.map_drop, irow, brow, b8of_row, List.map_cons, List.map_nil, b8of_wrap, Nd.encs_eq, Nd.enc, enc_13_node_kind, enc_node_checker, enc_s_api_Node, enc_edit_change, enc_api_Op, enc_string])).symm
  show Tri _ _ _ _
  refine tri_ret ?_
  have hy := Option.some.inj h
  subst hy
  unfold Gives
  exact ⟨_, Le.refl _ _, rfl, rfl⟩
def R_r09_Symbol (n : Nat) (xs : List AV) (r : Ret) : Prop := ∃ (a0 : List UInt8) (y0 : Bool), m_r09_Symbol n a0 = some y0 ∧ xs = [.s (.str a0)] ∧ r = .val (.s (.bool y0))
def S_r09_Symbol : PSpec := pspec fun xs r => ∃ n, R_r09_Symbol n xs r
set_option maxHeartbeats 2000000 in
set_option maxRecDepth 100000 in
theorem ok_r09_Symbol : PSound Try.prog 86 S_r09_Symbol := by
  have gok : ∀ f s, look? f [(99, S_r09_Character), (100, S_r09_Letter), (101, S_r09_Keywords), (89, S_r09_In), (90, S_r09_Accents)] = some s → PSound Try.prog f s := look_all (by
    simp only [List.forall_mem_cons]
    exact ⟨ok_r09_Character, ok_r09_Letter, ok_r09_Keywords, ok_r09_In, ok_r09_Accents, by simp⟩)
  refine psound tokW Try.call86 Try.func86 rfl (fun xs r h => by obtain ⟨n, _, _, _, rfl, _⟩ := h; show 1 ≤ 41; decide) 41 rfl ?_
  rintro xs r w0 G0 ⟨n, s1, y0, h, rfl, rfl⟩ _
  rw [m_r09_Symbol] at h
  refine tri_seq ?_
  refine tri_region (by exact tokW) (by exact gok) [] [] rfl ?_
  show Tri _ _ _ _
  refine tri_seq ?_
  refine tri_seq ?_
  refine tri_region (by exact tokW) (by exact gok) [] [] rfl ?_
  show Tri _ _ _ _
  refine tri_cond rfl (fun hb => ?_) (fun hb => ?_)
  · replace h := bif_t hb h
    refine tri_seq ?_
    refine tri_region (by exact tokW) (by exact gok) [] [8] rfl ?_
    obtain ⟨c2, hc2, h⟩ := bind_out h
    refine And.intro (str_ok hc2).1 ?_
    intro v3 hv3
    obtain rfl : (c2.toNat : Int) = v3 := (hv3.trans (str_ok hc2).2).symm
    obtain ⟨y4, hy4, h⟩ := bind_out h
    refine ⟨_, ⟨_, _, _, hy4, rfl, rfl⟩, ?_⟩
    show Tri _ _ _ _
    refine tri_ret ?_
    have hy := Option.some.inj h
    subst hy
    unfold Gives
    exact ⟨_, Le.refl _ _, rfl, rfl⟩
  · replace h := bif_f hb h
    refine tri_skip ?_
    show Tri _ _ _ _
    refine tri_seq ?_
    refine tri_seq ?_
    refine tri_region (by exact tokW) (by exact gok) [] [] rfl ?_
    show Tri _ _ _ _
    obtain ⟨fl, hl, ho1⟩ := bind_out h
    refine tri_fl (fl := fl) (fun z => match z with | _ => ⟨ofL [(0, .s (.str s1))], fun _ => none, 0⟩) ?_ (fun z σ' hz hle => ?_)
    · refine tri_block (tri_loopI (X := Nat × Int) (fun y => match y with | (k, i5) => ⟨ofL [(0, .s (.str s1)), (3, .s (.int .i64 i5))], fun _ => none, 0⟩) (fun y => m_r09_Symbol_l1 s1 y.1 y.2 = some fl) (fun y => y.1) (n, 0) hl ?_ ?_)
      · exact (Le.forget _ ⟨rfl, rfl, trivial⟩)
      · rintro ⟨k, i5⟩ h
        cases k with
        | zero => cases h
        | succ k =>
          replace h : m_r09_Symbol_l1 s1 (k+1) i5 = some fl := h
          rw [m_r09_Symbol_l1] at h
          refine tri_seq ?_
          refine tri_seq ?_
          refine tri_region (by exact tokW) (by exact gok) [] [] rfl ?_
          show Tri _ _ _ _
          refine tri_cond rfl (fun hb => ?_) (fun hb => ?_)
          · replace h := bif_t hb h
            refine tri_skip ?_
            show Tri _ _ _ _
            refine tri_seq ?_
            refine tri_block ?_
            refine tri_seq ?_
            refine tri_region (by exact tokW) (by exact gok) [] [18] rfl ?_
            obtain ⟨c6, hc6, h⟩ := bind_out h
            refine And.intro (str_ok hc6).1 ?_
            intro v7 hv7
            obtain rfl : (c6.toNat : Int) = v7 := (hv7.trans (str_ok hc6).2).symm
            obtain ⟨y8, hy8, h⟩ := bind_out h
            refine ⟨_, ⟨_, _, hy8, rfl, rfl⟩, ?_⟩
            show Tri _ _ _ _
            refine tri_cond rfl (fun hb => ?_) (fun hb => ?_)
            · replace h := bif_t hb h
              refine tri_seq ?_
              refine tri_region (by exact tokW) (by exact gok) [] [] rfl ?_
              show Tri _ _ _ _
              refine tri_ret ?_
              cases h
              replace h : some _ = some _ := ho1
              have hy := Option.some.inj h
              subst hy
              unfold Gives
              exact ⟨_, Le.refl _ _, rfl, rfl⟩
            · replace h := bif_f hb h
              refine tri_skip ?_
              show Tri _ _ _ _
              refine tri_region (by exact tokW) (by exact gok) [] [] rfl ?_
              refine ⟨(k, IntKind.i64.wrap (i5 + 1)), h, (Le.forget _ ⟨rfl, rfl, trivial⟩), Nat.lt_succ_self k⟩
          · replace h := bif_f hb h
            refine tri_exit ?_
            cases h
            exact ⟨_, rfl, (Le.forget _ ⟨rfl, trivial⟩)⟩
    · subst hz
      obtain _ := z
      replace h := ho1
      show Tri _ _ _ _
      refine tri_le hle ?_
      refine tri_seq ?_
      obtain ⟨x9, hj, h⟩ := bind_out h
      refine tri_post ⟨ofL [(2, .s (.bool x9))], fun _ => none, 0⟩ ?_ (fun σ' hle => ?_)
      · replace h := hj
        refine tri_region (by exact tokW) (by exact gok) [] [24, 29, 35] rfl ?_
        intro b hb
        cases b with
        | true =>
          replace h := bif_t hb.symm h
          intro b hb
          cases b with
          | true =>
            replace h := bif_t hb.symm h
            obtain ⟨y10, hy10, h⟩ := bind_out h
            refine ⟨_, ⟨_, hy10, rfl, rfl⟩, ?_⟩
            obtain ⟨y11, hy11, h⟩ := bind_out h
            refine ⟨_, ⟨_, _, _, _, hy11, rfl, rfl⟩, ?_⟩
            intro b hb
            cases b with
            | true =>
              replace h := bif_t hb.symm h
              obtain ⟨y12, hy12, h⟩ := bind_out h
              refine ⟨_, ⟨_, hy12, rfl, rfl⟩, ?_⟩
              obtain ⟨y13, hy13, h⟩ := bind_out h
              refine ⟨_, ⟨_, _, _, _, hy13, rfl, rfl⟩, ?_⟩
              cases h
              exact (Le.forget _ ⟨rfl, trivial⟩)
            | false =>
              replace h := bif_f hb.symm h
              cases h
              exact (Le.forget _ ⟨rfl, trivial⟩)
          | false =>
            replace h := bif_f hb.symm h
            intro b hb
            subst hb
            cases h
            exact (Le.forget _ ⟨rfl, trivial⟩)
        | false =>
          replace h := bif_f hb.symm h
          intro b hb
          subst hb
          intro b hb
          subst hb
          cases h
          exact (Le.forget _ ⟨rfl, trivial⟩)
      · show Tri _ _ _ _
        refine tri_le hle ?_
        refine tri_ret ?_
        have hy := Option.some.inj h
        subst hy
        unfold Gives
        exact ⟨_, Le.refl _ _, rfl, rfl⟩
def R_r09_Digit (xs : List AV) (r : Ret) : Prop := ∃ (a0 : Int) (y0 : Bool), m_r09_Digit a0 = some y0 ∧ xs = [.s (.int .u8 a0)] ∧ r = .val (.s (.bool y0))
def S_r09_Digit : PSpec := pspec fun xs r => R_r09_Digit xs r
set_option maxHeartbeats 2000000 in
set_option maxRecDepth 100000 in
theorem ok_r09_Digit : PSound Try.prog 102 S_r09_Digit := by
  have gok : ∀ (f : Nat) (s : PSpec), (fun _ => none : Nat → Option PSpec) f = some s → PSound Try.prog f s := fun _ _ h => by cases h
  refine psound tokW Try.call102 Try.func102 rfl (fun xs r h => by obtain ⟨_, _, _, rfl, _⟩ := h; show 1 ≤ 9; decide) 9 rfl ?_
  rintro xs r w0 G0 ⟨c1, y0, h, rfl, rfl⟩ _
  rw [m_r09_Digit] at h
  refine tri_seq ?_
  refine tri_region (by exact tokW) (by exact gok) [] [] rfl ?_
  show Tri _ _ _ _
  refine tri_seq ?_
  obtain ⟨x2, hj, h⟩ := bind_out h
  refine tri_post ⟨ofL [(2, .s (.bool x2))], fun _ => none, 0⟩ ?_ (fun σ' hle => ?_)
  · replace h := hj
    refine tri_region (by exact tokW) (by exact gok) [] [5] rfl ?_
    intro b hb
    cases b with
    | true =>
      replace h := bif_t hb.symm h
      cases h
      exact (Le.forget _ ⟨rfl, trivial⟩)
    | false =>
      replace h := bif_f hb.symm h
      cases h
      exact (Le.forget _ ⟨rfl, trivial⟩)
  · show Tri _ _ _ _
    refine tri_le hle ?_
    refine tri_ret ?_
    have hy := Option.some.inj h
    subst hy
    unfold Gives
    exact ⟨_, Le.refl _ _, rfl, rfl⟩
def R_r09_Number (n : Nat) (xs : List AV) (r : Ret) : Prop := ∃ (a0 : List UInt8) (y0 : Bool), m_r09_Number n a0 = some y0 ∧ xs = [.s (.str a0)] ∧ r = .val (.s (.bool y0))
def S_r09_Number : PSpec := pspec fun xs r => ∃ n, R_r09_Number n xs r
set_option maxHeartbeats 2000000 in
set_option maxRecDepth 100000 in
theorem ok_r09_Number : PSound Try.prog 87 S_r09_Number := by
  have gok : ∀ f s, look? f [(102, S_r09_Digit)] = some s → PSound Try.prog f s := look_all (by
    simp only [List.forall_mem_cons]
    exact ⟨ok_r09_Digit, by simp⟩)
  refine psound tokW Try.call87 Try.func87 rfl (fun xs r h => by obtain ⟨n, _, _, _, rfl, _⟩ := h; show 1 ≤ 45; decide) 45 rfl ?_
  rintro xs r w0 G0 ⟨n, s1, y0, h, rfl, rfl⟩ _
  rw [m_r09_Number] at h
  refine tri_seq ?_
  refine tri_region (by exact tokW) (by exact gok) [] [] rfl ?_
  show Tri _ _ _ _
  refine tri_seq ?_
  refine tri_region (by exact tokW) (by exact gok) [] [] rfl ?_
  show Tri _ _ _ _
  refine tri_seq ?_
  refine tri_seq ?_
  refine tri_region (by exact tokW) (by exact gok) [] [] rfl ?_
  show Tri _ _ _ _
  obtain ⟨fl, hl, ho1⟩ := bind_out h
  refine tri_fl (fl := fl) (fun z => match z with | points4 => ⟨ofL [(0, .s (.str s1)), (3, .s (.int .i64 points4))], fun _ => none, 0⟩) ?_ (fun points4 σ' hz hle => ?_)
  · refine tri_block (tri_loopI (X := Nat × Int × Int) (fun y => match y with | (k, points2, i3) => ⟨ofL [(0, .s (.str s1)), (3, .s (.int .i64 points2)), (4, .s (.int .i64 i3))], fun _ => none, 0⟩) (fun y => m_r09_Number_l1 s1 y.1 y.2.1 y.2.2 = some fl) (fun y => y.1) (n, 0, 0) hl ?_ ?_)
    · exact (Le.forget _ ⟨rfl, rfl, rfl, trivial⟩)
    · rintro ⟨k, points2, i3⟩ h
      cases k with
      | zero => cases h
      | succ k =>
        replace h : m_r09_Number_l1 s1 (k+1) points2 i3 = some fl := h
        rw [m_r09_Number_l1] at h
        refine tri_seq ?_
        refine tri_seq ?_
        refine tri_region (by exact tokW) (by exact gok) [] [] rfl ?_
        show Tri _ _ _ _
        refine tri_cond rfl (fun hb => ?_) (fun hb => ?_)
        · replace h := bif_t hb h
          refine tri_skip ?_
          show Tri _ _ _ _
          refine tri_seq ?_
          obtain ⟨fl, hj, ho2⟩ := bind_out h
          refine tri_fl (fl := fl) (fun z => match z with | points5 => ⟨ofL [(0, .s (.str s1)), (3, .s (.int .i64 points5)), (4, .s (.int .i64 i3))], fun _ => none, 0⟩) ?_ (fun points5 σ' hz hle => ?_)
          · replace h := hj
            refine tri_block ?_
            refine tri_seq ?_
            obtain ⟨x6, hj, h⟩ := bind_out h
            refine tri_post ⟨ofL [(0, .s (.str s1)), (3, .s (.int .i64 points2)), (4, .s (.int .i64 i3)), (25, .s (.bool x6))], fun _ => none, 0⟩ ?_ (fun σ' hle => ?_)
            · replace h := hj
              refine tri_region (by exact tokW) (by exact gok) [] [13, 15, 19] rfl ?_
              obtain ⟨c7, hc7, h⟩ := bind_out h
              refine And.intro (str_ok hc7).1 ?_
              intro v8 hv8
              obtain rfl : (c7.toNat : Int) = v8 := (hv8.trans (str_ok hc7).2).symm
              intro b hb
              cases b with
              | true =>
                replace h := bif_t hb.symm h
                intro b hb
                cases b with
                | true =>
                  replace h := bif_t hb.symm h
                  cases h
                  exact (Le.forget _ ⟨rfl, rfl, rfl, rfl, trivial⟩)
                | false =>
                  replace h := bif_f hb.symm h
                  cases h
                  exact (Le.forget _ ⟨rfl, rfl, rfl, rfl, trivial⟩)
              | false =>
                replace h := bif_f hb.symm h
                intro b hb
                subst hb
                cases h
                exact (Le.forget _ ⟨rfl, rfl, rfl, rfl, trivial⟩)
            · show Tri _ _ _ _
              refine tri_le hle ?_
              refine tri_cond rfl (fun hb => ?_) (fun hb => ?_)
              · replace h := bif_t hb h
                refine tri_region (by exact tokW) (by exact gok) [] [] rfl ?_
                cases h
                exact ⟨_, rfl, (Le.forget _ ⟨rfl, rfl, rfl, trivial⟩)⟩
              · replace h := bif_f hb h
                refine tri_seq ?_
                refine tri_region (by exact tokW) (by exact gok) [] [30] rfl ?_
                obtain ⟨c9, hc9, h⟩ := bind_out h
                refine And.intro (str_ok hc9).1 ?_
                intro v10 hv10
                obtain rfl : (c9.toNat : Int) = v10 := (hv10.trans (str_ok hc9).2).symm
                obtain ⟨y11, hy11, h⟩ := bind_out h
                refine ⟨_, ⟨_, _, hy11, rfl, rfl⟩, ?_⟩
                show Tri _ _ _ _
                refine tri_cond rfl (fun hb => ?_) (fun hb => ?_)
                · replace h := bif_t hb h
                  refine tri_seq ?_
                  refine tri_region (by exact tokW) (by exact gok) [] [] rfl ?_
                  show Tri _ _ _ _
                  refine tri_ret ?_
                  cases h
                  replace h : some _ = some _ := ho2
                  cases h
                  replace h : some _ = some _ := ho1
                  have hy := Option.some.inj h
                  subst hy
                  unfold Gives
                  exact ⟨_, Le.refl _ _, rfl, rfl⟩
                · replace h := bif_f hb h
                  refine tri_skip ?_
                  cases h
                  exact ⟨_, rfl, (Le.forget _ ⟨rfl, rfl, rfl, trivial⟩)⟩
          · subst hz
            replace h := ho2
            show Tri _ _ _ _
            refine tri_le hle ?_
            refine tri_region (by exact tokW) (by exact gok) [] [] rfl ?_
            refine ⟨(k, points5, IntKind.i64.wrap (i3 + 1)), h, (Le.forget _ ⟨rfl, rfl, rfl, trivial⟩), Nat.lt_succ_self k⟩
        · replace h := bif_f hb h
          refine tri_exit ?_
          cases h
          exact ⟨_, rfl, (Le.forget _ ⟨rfl, rfl, trivial⟩)⟩
  · subst hz
    replace h := ho1
    show Tri _ _ _ _
    refine tri_le hle ?_
    refine tri_seq ?_
    obtain ⟨x12, hj, h⟩ := bind_out h
    refine tri_post ⟨ofL [(2, .s (.bool x12))], fun _ => none, 0⟩ ?_ (fun σ' hle => ?_)
    · replace h := hj
      refine tri_region (by exact tokW) (by exact gok) [] [36, 41] rfl ?_
      intro b hb
      cases b with
      | true =>
        replace h := bif_t hb.symm h
        intro b hb
        cases b with
        | true =>
          replace h := bif_t hb.symm h
          cases h
          exact (Le.forget _ ⟨rfl, trivial⟩)
        | false =>
          replace h := bif_f hb.symm h
          cases h
          exact (Le.forget _ ⟨rfl, trivial⟩)
      | false =>
        replace h := bif_f hb.symm h
        intro b hb
        subst hb
        cases h
        exact (Le.forget _ ⟨rfl, trivial⟩)
    · show Tri _ _ _ _
      refine tri_le hle ?_
      refine tri_ret ?_
      have hy := Option.some.inj h
      subst hy
      unfold Gives
      exact ⟨_, Le.refl _ _, rfl, rfl⟩
def R_r09_Printable (n : Nat) (xs : List AV) (r : Ret) : Prop := ∃ (a0 : List UInt8) (y0 : Bool), m_r09_Printable n a0 = some y0 ∧ xs = [.s (.str a0)] ∧ r = .val (.s (.bool y0))
def S_r09_Printable : PSpec := pspec fun xs r => ∃ n, R_r09_Printable n xs r
set_option maxHeartbeats 2000000 in
set_option maxRecDepth 100000 in
theorem ok_r09_Printable : PSound Try.prog 88 S_r09_Printable := by
  have gok : ∀ (f : Nat) (s : PSpec), (fun _ => none : Nat → Option PSpec) f = some s → PSound Try.prog f s := fun _ _ h => by cases h
  refine psound tokW Try.call88 Try.func88 rfl (fun xs r h => by obtain ⟨n, _, _, _, rfl, _⟩ := h; show 1 ≤ 20; decide) 20 rfl ?_
  rintro xs r w0 G0 ⟨n, s1, y0, h, rfl, rfl⟩ _
  rw [m_r09_Printable] at h
  refine tri_seq ?_
  refine tri_region (by exact tokW) (by exact gok) [] [] rfl ?_
  show Tri _ _ _ _
  refine tri_seq ?_
  refine tri_seq ?_
  refine tri_region (by exact tokW) (by exact gok) [] [] rfl ?_
  show Tri _ _ _ _
  obtain ⟨fl, hl, ho1⟩ := bind_out h
  refine tri_fl (fl := fl) (fun z => match z with | _ => ⟨ofL [], fun _ => none, 0⟩) ?_ (fun z σ' hz hle => ?_)
  · refine tri_block (tri_loopI (X := Nat × Int) (fun y => match y with | (k, i2) => ⟨ofL [(0, .s (.str s1)), (3, .s (.int .i64 i2))], fun _ => none, 0⟩) (fun y => m_r09_Printable_l1 s1 y.1 y.2 = some fl) (fun y => y.1) (n, 0) hl ?_ ?_)
    · exact (Le.forget _ ⟨rfl, rfl, trivial⟩)
    · rintro ⟨k, i2⟩ h
      cases k with
      | zero => cases h
      | succ k =>
        replace h : m_r09_Printable_l1 s1 (k+1) i2 = some fl := h
        rw [m_r09_Printable_l1] at h
        refine tri_seq ?_
        refine tri_seq ?_
        refine tri_region (by exact tokW) (by exact gok) [] [] rfl ?_
        show Tri _ _ _ _
        refine tri_cond rfl (fun hb => ?_) (fun hb => ?_)
        · replace h := bif_t hb h
          refine tri_skip ?_
          show Tri _ _ _ _
          refine tri_seq ?_
          refine tri_block ?_
          refine tri_seq ?_
          obtain ⟨x3, hj, h⟩ := bind_out h
          refine tri_post ⟨ofL [(0, .s (.str s1)), (3, .s (.int .i64 i2)), (19, .s (.bool x3))], fun _ => none, 0⟩ ?_ (fun σ' hle => ?_)
          · replace h := hj
            refine tri_region (by exact tokW) (by exact gok) [] [12, 14, 17] rfl ?_
            obtain ⟨c4, hc4, h⟩ := bind_out h
            refine And.intro (str_ok hc4).1 ?_
            intro v5 hv5
            obtain rfl : (c4.toNat : Int) = v5 := (hv5.trans (str_ok hc4).2).symm
            intro b hb
            cases b with
            | true =>
              replace h := bif_t hb.symm h
              cases h
              exact (Le.forget _ ⟨rfl, rfl, rfl, trivial⟩)
            | false =>
              replace h := bif_f hb.symm h
              obtain ⟨c6, hc6, h⟩ := bind_out h
              refine And.intro (str_ok hc6).1 ?_
              intro v7 hv7
              obtain rfl : (c6.toNat : Int) = v7 := (hv7.trans (str_ok hc6).2).symm
              cases h
              exact (Le.forget _ ⟨rfl, rfl, rfl, trivial⟩)
          · show Tri _ _ _ _
            refine tri_le hle ?_
            refine tri_cond rfl (fun hb => ?_) (fun hb => ?_)
            · replace h := bif_t hb h
              refine tri_seq ?_
              refine tri_region (by exact tokW) (by exact gok) [] [] rfl ?_
              show Tri _ _ _ _
              refine tri_ret ?_
              cases h
              replace h : some _ = some _ := ho1
              have hy := Option.some.inj h
              subst hy
              unfold Gives
              exact ⟨_, Le.refl _ _, rfl, rfl⟩
            · replace h := bif_f hb h
              refine tri_skip ?_
              show Tri _ _ _ _
              refine tri_region (by exact tokW) (by exact gok) [] [] rfl ?_
              refine ⟨(k, IntKind.i64.wrap (i2 + 1)), h, (Le.forget _ ⟨rfl, rfl, trivial⟩), Nat.lt_succ_self k⟩
        · replace h := bif_f hb h
          refine tri_exit ?_
          cases h
          exact ⟨_, rfl, (Le.forget _ trivial)⟩
  · subst hz
    obtain _ := z
    replace h := ho1
    show Tri _ _ _ _
    refine tri_le hle ?_
    refine tri_seq ?_
    refine tri_region (by exact tokW) (by exact gok) [] [] rfl ?_
    show Tri _ _ _ _
    refine tri_ret ?_
    have hy := Option.some.inj h
    subst hy
    unfold Gives
    exact ⟨_, Le.refl _ _, rfl, rfl⟩
def R_r09_text (n : Nat) (xs : List AV) (r : Ret) : Prop := ∃ (a0 : Nd) (y0 : Bool), m_r09_text n a0 = some y0 ∧ xs = [.agg ((Nd.enc a0).map .s)] ∧ r = .val (.s (.bool y0))
def S_r09_text : PSpec := pspec fun xs r => ∃ n, R_r09_text n xs r
set_option maxHeartbeats 2000000 in
set_option maxRecDepth 100000 in
theorem ok_r09_text : PSound Try.prog 71 S_r09_text := by
  have gok : ∀ f s, look? f [(86, S_r09_Symbol), (87, S_r09_Number), (88, S_r09_Printable), (90, S_r09_Accents), (89, S_r09_In), (91, S_r09_has)] = some s → PSound Try.prog f s := look_all (by
    simp only [List.forall_mem_cons]
    exact ⟨ok_r09_Symbol, ok_r09_Number, ok_r09_Printable, ok_r09_Accents, ok_r09_In, ok_r09_has, by simp⟩)
  refine psound tokW Try.call71 Try.func71 rfl (fun xs r h => by obtain ⟨n, _, _, _, rfl, _⟩ := h; show 1 ≤ 53; decide) 53 rfl ?_
  rintro xs r w0 G0 ⟨n, ⟨n1_kind, n1_text, n1_cols, n1_kids⟩, y0, h, rfl, rfl⟩ _
  rw [m_r09_text] at h
  refine tri_seq ?_
  refine tri_region (by exact tokW) (by exact gok) [] [] rfl ?_
  show Tri _ _ _ _
  refine tri_seq ?_
  refine tri_seq ?_
  refine tri_region (by exact tokW) (by exact gok) [] [] rfl ?_
  show Tri _ _ _ _
  refine tri_block ?_
  refine tri_seq ?_
  refine tri_region (by exact tokW) (by exact gok) [] [] rfl ?_
  show Tri _ _ _ _
  refine tri_cond rfl (fun hb => ?_) (fun hb => ?_)
  · replace h := bif_t hb h
    refine tri_seq ?_
    refine tri_region (by exact tokW) (by exact gok) [] [] rfl ?_
    obtain ⟨y2, hy2, h⟩ := bind_out h
    refine ⟨_, ⟨_, _, _, hy2, rfl, rfl⟩, ?_⟩
    show Tri _ _ _ _
    refine tri_ret ?_
    have hy := Option.some.inj h
    subst hy
    unfold Gives
    exact ⟨_, Le.refl _ _, rfl, rfl⟩
  · replace h := bif_f hb h
    refine tri_seq ?_
    refine tri_region (by exact tokW) (by exact gok) [] [] rfl ?_
    show Tri _ _ _ _
    refine tri_cond rfl (fun hb => ?_) (fun hb => ?_)
    · replace h := bif_t hb h
      refine tri_seq ?_
      refine tri_region (by exact tokW) (by exact gok) [] [] rfl ?_
      obtain ⟨y3, hy3, h⟩ := bind_out h
      refine ⟨_, ⟨_, _, _, hy3, rfl, rfl⟩, ?_⟩
      show Tri _ _ _ _
      refine tri_ret ?_
      have hy := Option.some.inj h
      subst hy
      unfold Gives
      exact ⟨_, Le.refl _ _, rfl, rfl⟩
    · replace h := bif_f hb h
      refine tri_seq ?_
      refine tri_region (by exact tokW) (by exact gok) [] [] rfl ?_
      show Tri _ _ _ _
      refine tri_cond rfl (fun hb => ?_) (fun hb => ?_)
      · replace h := bif_t hb h
        refine tri_seq ?_
        obtain ⟨x4, hj, h⟩ := bind_out h
        refine tri_post ⟨ofL [(2, .s (.bool x4))], fun _ => none, 0⟩ ?_ (fun σ' hle => ?_)
        · replace h := hj
          refine tri_region (by exact tokW) (by exact gok) [] [21] rfl ?_
          intro b hb
          cases b with
          | true =>
            replace h := bif_t hb.symm h
            obtain ⟨y5, hy5, h⟩ := bind_out h
            refine ⟨_, ⟨_, _, _, hy5, rfl, rfl⟩, ?_⟩
            cases h
            exact (Le.forget _ ⟨rfl, trivial⟩)
          | false =>
            replace h := bif_f hb.symm h
            cases h
            exact (Le.forget _ ⟨rfl, trivial⟩)
        · show Tri _ _ _ _
          refine tri_le hle ?_
          refine tri_ret ?_
          have hy := Option.some.inj h
          subst hy
          unfold Gives
          exact ⟨_, Le.refl _ _, rfl, rfl⟩
      · replace h := bif_f hb h
        refine tri_seq ?_
        refine tri_region (by exact tokW) (by exact gok) [] [] rfl ?_
        show Tri _ _ _ _
        refine tri_cond rfl (fun hb => ?_) (fun hb => ?_)
        · replace h := bif_t hb h
          refine tri_seq ?_
          refine tri_drawn (by exact tokW) (by exact gok) (by exact mixed) [] [] [] rfl (by decide +kernel) ?_
          obtain ⟨y6, hy6, h⟩ := bind_out h
          refine ⟨_, ⟨_, hy6, rfl, rfl⟩, ?_⟩
          obtain ⟨y7, hy7, h⟩ := bind_out h
          refine ⟨_, ⟨_, _, _, _, hy7, rfl, rfl⟩, ?_⟩
          show Tri _ _ _ _
          refine tri_ret ?_
          have hy := Option.some.inj h
          subst hy
          unfold Gives
          exact ⟨_, Le.refl _ _, rfl, rfl⟩
        · replace h := bif_f hb h
          refine tri_seq ?_
          refine tri_region (by exact tokW) (by exact gok) [] [] rfl ?_
          show Tri _ _ _ _
          refine tri_cond rfl (fun hb => ?_) (fun hb => ?_)
          · replace h := bif_t hb h
            refine tri_seq ?_
            obtain ⟨x8, hj, h⟩ := bind_out h
            refine tri_post ⟨ofL [(2, .s (.bool x8))], fun _ => none, 0⟩ ?_ (fun σ' hle => ?_)
            · replace h := hj
              refine tri_region (by exact tokW) (by exact gok) [] [38, 41, 44, 47] rfl ?_
              intro b hb
              cases b with
              | true =>
                replace h := bif_t hb.symm h
                obtain ⟨c9, hc9, h⟩ := bind_out h
                refine And.intro (str_ok hc9).1 ?_
                intro v10 hv10
                obtain rfl : (c9.toNat : Int) = v10 := (hv10.trans (str_ok hc9).2).symm
                obtain ⟨y11, hy11, h⟩ := bind_out h
                refine ⟨_, ⟨_, _, _, _, hy11, rfl, rfl⟩, ?_⟩
                intro b hb
                cases b with
                | true =>
                  replace h := bif_t hb.symm h
                  obtain ⟨c12, hc12, h⟩ := bind_out h
                  refine And.intro (str_ok hc12).1 ?_
                  intro v13 hv13
                  obtain rfl : (c12.toNat : Int) = v13 := (hv13.trans (str_ok hc12).2).symm
                  obtain ⟨y14, hy14, h⟩ := bind_out h
                  refine ⟨_, ⟨_, _, _, _, hy14, rfl, rfl⟩, ?_⟩
                  cases h
                  exact (Le.forget _ ⟨rfl, trivial⟩)
                | false =>
                  replace h := bif_f hb.symm h
                  cases h
                  exact (Le.forget _ ⟨rfl, trivial⟩)
              | false =>
                replace h := bif_f hb.symm h
                intro b hb
                subst hb
                cases h
                exact (Le.forget _ ⟨rfl, trivial⟩)
            · show Tri _ _ _ _
              refine tri_le hle ?_
              refine tri_ret ?_
              have hy := Option.some.inj h
              subst hy
              unfold Gives
              exact ⟨_, Le.refl _ _, rfl, rfl⟩
          · replace h := bif_f hb h
            refine tri_skip ?_
            show Tri _ _ _ _
            refine tri_seq ?_
            refine tri_region (by exact tokW) (by exact gok) [] [] rfl ?_
            show Tri _ _ _ _
            refine tri_ret ?_
            have hy := Option.some.inj h
            subst hy
            unfold Gives
            exact ⟨_, Le.refl _ _, rfl, rfl⟩
def R_r09_kids (xs : List AV) (r : Ret) : Prop := ∃ (a0 : Nd) (y0 : Bool), m_r09_kids a0 = some y0 ∧ xs = [.agg ((Nd.enc a0).map .s)] ∧ r = .val (.s (.bool y0))
def S_r09_kids : PSpec := pspec fun xs r => R_r09_kids xs r
set_option maxHeartbeats 2000000 in
set_option maxRecDepth 100000 in
theorem ok_r09_kids : PSound Try.prog 72 S_r09_kids := by
  have gok : ∀ (f : Nat) (s : PSpec), (fun _ => none : Nat → Option PSpec) f = some s → PSound Try.prog f s := fun _ _ h => by cases h
  refine psound tokW Try.call72 Try.func72 rfl (fun xs r h => by obtain ⟨_, _, _, rfl, _⟩ := h; show 1 ≤ 64; decide) 64 rfl ?_
  rintro xs r w0 G0 ⟨⟨n1_kind, n1_text, n1_cols, n1_kids⟩, y0, h, rfl, rfl⟩ _
  rw [m_r09_kids] at h
  refine tri_seq ?_
  refine tri_region (by exact tokW) (by exact gok) [] [] rfl ?_
  show Tri _ _ _ _
  refine tri_seq ?_
  refine tri_region (by exact tokW) (by exact gok) [] [6] rfl ?_
  intro n2 hn2
  obtain rfl : (n1_kids.length : Int) = n2 := (hn2.trans (congrArg (fun m : Nat => (m : Int)) (rlen Nd.encs_eq n1_kids))).symm
  show Tri _ _ _ _
  refine tri_seq ?_
  refine tri_seq ?_
  refine tri_region (by exact tokW) (by exact gok) [] [] rfl ?_
  show Tri _ _ _ _
  refine tri_cond rfl (fun hb => ?_) (fun hb => ?_)
  · replace h := bif_t hb h
    refine tri_seq ?_
    obtain ⟨x3, hj, h⟩ := bind_out h
    refine tri_post ⟨ofL [(2, .s (.bool x3))], fun _ => none, 0⟩ ?_ (fun σ' hle => ?_)
    · replace h := hj
      refine tri_region (by exact tokW) (by exact gok) [] [13, 18, 22, 26] rfl ?_
      intro b hb
      cases b with
      | true =>
        replace h := bif_t hb.symm h
        intro b hb
        cases b with
        | true =>
          replace h := bif_t hb.symm h
          intro b hb
          cases b with
          | true =>
            replace h := bif_t hb.symm h
            intro b hb
            cases b with
            | true =>
              replace h := bif_t hb.symm h
              obtain ⟨hq, h⟩ := req_out h
              refine And.intro hq ?_
              cases h
              exact (Le.forget _ ⟨rfl, trivial⟩)
            | false =>
              replace h := bif_f hb.symm h
              cases h
              exact (Le.forget _ ⟨rfl, trivial⟩)
          | false =>
            replace h := bif_f hb.symm h
            intro b hb
            subst hb
            cases h
            exact (Le.forget _ ⟨rfl, trivial⟩)
        | false =>
          replace h := bif_f hb.symm h
          intro b hb
          subst hb
          intro b hb
          subst hb
          cases h
          exact (Le.forget _ ⟨rfl, trivial⟩)
      | false =>
        replace h := bif_f hb.symm h
        intro b hb
        subst hb
        intro b hb
        subst hb
        intro b hb
        subst hb
        cases h
        exact (Le.forget _ ⟨rfl, trivial⟩)
    · show Tri _ _ _ _
      refine tri_le hle ?_
      refine tri_ret ?_
      have hy := Option.some.inj h
      subst hy
      unfold Gives
      exact ⟨_, Le.refl _ _, rfl, rfl⟩
  · replace h := bif_f hb h
    refine tri_skip ?_
    show Tri _ _ _ _
    refine tri_seq ?_
    refine tri_seq ?_
    refine tri_region (by exact tokW) (by exact gok) [] [] rfl ?_
    show Tri _ _ _ _
    refine tri_cond rfl (fun hb => ?_) (fun hb => ?_)
    · replace h := bif_t hb h
      refine tri_seq ?_
      refine tri_region (by exact tokW) (by exact gok) [] [] rfl ?_
      show Tri _ _ _ _
      refine tri_ret ?_
      have hy := Option.some.inj h
      subst hy
      unfold Gives
      exact ⟨_, Le.refl _ _, rfl, rfl⟩
    · replace h := bif_f hb h
      refine tri_skip ?_
      show Tri _ _ _ _
      refine tri_seq ?_
      refine tri_seq ?_
      refine tri_region (by exact tokW) (by exact gok) [] [] rfl ?_
      show Tri _ _ _ _
      obtain ⟨fl, hj, ho1⟩ := bind_out h
      refine tri_fl (fl := fl) (fun z => match z with | _ => ⟨ofL [], fun _ => none, 0⟩) ?_ (fun z σ' hz hle => ?_)
      · replace h := hj
        refine tri_block ?_
        refine tri_seq ?_
        refine tri_region (by exact tokW) (by exact gok) [] [] rfl ?_
        show Tri _ _ _ _
        refine tri_cond rfl (fun hb => ?_) (fun hb => ?_)
        · replace h := bif_t hb h
          refine tri_seq ?_
          refine tri_region (by exact tokW) (by exact gok) [] [] rfl ?_
          show Tri _ _ _ _
          refine tri_ret ?_
          cases h
          replace h : some _ = some _ := ho1
          have hy := Option.some.inj h
          subst hy
          unfold Gives
          exact ⟨_, Le.refl _ _, rfl, rfl⟩
        · replace h := bif_f hb h
          refine tri_seq ?_
          refine tri_seq ?_
          refine tri_region (by exact tokW) (by exact gok) [] [] rfl ?_
          show Tri _ _ _ _
          obtain ⟨x4, hj, h⟩ := bind_out h
          refine tri_post ⟨ofL [(3, .s (.int .i64 (n1_kids.length : Int))), (37, .s (.int .i64 n1_kind)), (42, .s (.bool x4))], fun _ => none, 0⟩ ?_ (fun σ' hle => ?_)
          · replace h := hj
            refine tri_cond rfl (fun hb => ?_) (fun hb => ?_)
            · replace h := bif_t hb h
              refine tri_skip ?_
              cases h
              exact (Le.forget _ ⟨rfl, rfl, rfl, trivial⟩)
            · replace h := bif_f hb h
              refine tri_seq ?_
              refine tri_region (by exact tokW) (by exact gok) [] [] rfl ?_
              show Tri _ _ _ _
              refine tri_cond rfl (fun hb => ?_) (fun hb => ?_)
              · replace h := bif_t hb h
                refine tri_skip ?_
                cases h
                exact (Le.forget _ ⟨rfl, rfl, rfl, trivial⟩)
              · replace h := bif_f hb h
                refine tri_region (by exact tokW) (by exact gok) [] [] rfl ?_
                cases h
                exact (Le.forget _ ⟨rfl, rfl, rfl, trivial⟩)
          · show Tri _ _ _ _
            refine tri_le hle ?_
            refine tri_cond rfl (fun hb => ?_) (fun hb => ?_)
            · replace h := bif_t hb h
              refine tri_seq ?_
              refine tri_region (by exact tokW) (by exact gok) [] [] rfl ?_
              show Tri _ _ _ _
              refine tri_ret ?_
              cases h
              replace h : some _ = some _ := ho1
              have hy := Option.some.inj h
              subst hy
              unfold Gives
              exact ⟨_, Le.refl _ _, rfl, rfl⟩
            · replace h := bif_f hb h
              refine tri_seq ?_
              refine tri_seq ?_
              refine tri_region (by exact tokW) (by exact gok) [] [] rfl ?_
              show Tri _ _ _ _
              obtain ⟨x5, hj, h⟩ := bind_out h
              refine tri_post ⟨ofL [(3, .s (.int .i64 (n1_kids.length : Int))), (37, .s (.int .i64 n1_kind)), (48, .s (.bool x5))], fun _ => none, 0⟩ ?_ (fun σ' hle => ?_)
              · replace h := hj
                refine tri_cond rfl (fun hb => ?_) (fun hb => ?_)
                · replace h := bif_t hb h
                  refine tri_skip ?_
                  cases h
                  exact (Le.forget _ ⟨rfl, rfl, rfl, trivial⟩)
                · replace h := bif_f hb h
                  refine tri_seq ?_
                  refine tri_region (by exact tokW) (by exact gok) [] [] rfl ?_
                  show Tri _ _ _ _
                  refine tri_cond rfl (fun hb => ?_) (fun hb => ?_)
                  · replace h := bif_t hb h
                    refine tri_skip ?_
                    cases h
                    exact (Le.forget _ ⟨rfl, rfl, rfl, trivial⟩)
                  · replace h := bif_f hb h
                    refine tri_seq ?_
                    refine tri_region (by exact tokW) (by exact gok) [] [] rfl ?_
                    show Tri _ _ _ _
                    refine tri_cond rfl (fun hb => ?_) (fun hb => ?_)
                    · replace h := bif_t hb h
                      refine tri_skip ?_
                      cases h
                      exact (Le.forget _ ⟨rfl, rfl, rfl, trivial⟩)
                    · replace h := bif_f hb h
                      refine tri_region (by exact tokW) (by exact gok) [] [] rfl ?_
                      cases h
                      exact (Le.forget _ ⟨rfl, rfl, rfl, trivial⟩)
              · show Tri _ _ _ _
                refine tri_le hle ?_
                refine tri_cond rfl (fun hb => ?_) (fun hb => ?_)
                · replace h := bif_t hb h
                  refine tri_seq ?_
                  refine tri_region (by exact tokW) (by exact gok) [] [] rfl ?_
                  show Tri _ _ _ _
                  refine tri_ret ?_
                  cases h
                  replace h : some _ = some _ := ho1
                  have hy := Option.some.inj h
                  subst hy
                  unfold Gives
                  exact ⟨_, Le.refl _ _, rfl, rfl⟩
                · replace h := bif_f hb h
                  refine tri_seq ?_
                  refine tri_region (by exact tokW) (by exact gok) [] [] rfl ?_
                  show Tri _ _ _ _
                  refine tri_cond rfl (fun hb => ?_) (fun hb => ?_)
                  · replace h := bif_t hb h
                    refine tri_seq ?_
                    refine tri_region (by exact tokW) (by exact gok) [] [] rfl ?_
                    show Tri _ _ _ _
                    refine tri_ret ?_
                    cases h
                    replace h : some _ = some _ := ho1
                    have hy := Option.some.inj h
                    subst hy
                    unfold Gives
                    exact ⟨_, Le.refl _ _, rfl, rfl⟩
                  · replace h := bif_f hb h
                    refine tri_seq ?_
                    refine tri_seq ?_
                    refine tri_region (by exact tokW) (by exact gok) [] [] rfl ?_
                    show Tri _ _ _ _
                    obtain ⟨x6, hj, h⟩ := bind_out h
                    refine tri_post ⟨ofL [(3, .s (.int .i64 (n1_kids.length : Int))), (59, .s (.bool x6))], fun _ => none, 0⟩ ?_ (fun σ' hle => ?_)
                    · replace h := hj
                      refine tri_cond rfl (fun hb => ?_) (fun hb => ?_)
                      · replace h := bif_t hb h
                        refine tri_skip ?_
                        cases h
                        exact (Le.forget _ ⟨rfl, rfl, trivial⟩)
                      · replace h := bif_f hb h
                        refine tri_region (by exact tokW) (by exact gok) [] [] rfl ?_
                        cases h
                        exact (Le.forget _ ⟨rfl, rfl, trivial⟩)
                    · show Tri _ _ _ _
                      refine tri_le hle ?_
                      refine tri_cond rfl (fun hb => ?_) (fun hb => ?_)
                      · replace h := bif_t hb h
                        refine tri_seq ?_
                        refine tri_region (by exact tokW) (by exact gok) [] [] rfl ?_
                        show Tri _ _ _ _
                        refine tri_ret ?_
                        cases h
                        replace h : some _ = some _ := ho1
                        have hy := Option.some.inj h
                        subst hy
                        unfold Gives
                        exact ⟨_, Le.refl _ _, rfl, rfl⟩
                      · replace h := bif_f hb h
                        refine tri_skip ?_
                        cases h
                        exact ⟨_, rfl, (Le.forget _ trivial)⟩
      · subst hz
        obtain _ := z
        replace h := ho1
        show Tri _ _ _ _
        refine tri_le hle ?_
        refine tri_seq ?_
        refine tri_region (by exact tokW) (by exact gok) [] [] rfl ?_
        show Tri _ _ _ _
        refine tri_ret ?_
        have hy := Option.some.inj h
        subst hy
        unfold Gives
        exact ⟨_, Le.refl _ _, rfl, rfl⟩
def R_r09_form (n : Nat) (xs : List AV) (r : Ret) : Prop := ∃ (a0 : Nd) (y0 : Bool), m_r09_form n a0 = some y0 ∧ xs = [.agg ((Nd.enc a0).map .s)] ∧ r = .val (.s (.bool y0))
set_option maxHeartbeats 2000000 in
set_option maxRecDepth 100000 in
theorem step_r09_form (n : Nat) (ih : PSound Try.prog 51 (pspec (R_r09_form n))) : PSound Try.prog 51 (pspec (R_r09_form (n + 1))) := by
  have gok : ∀ f s, look? f [(71, S_r09_text), (72, S_r09_kids), (51, pspec (R_r09_form n))] = some s → PSound Try.prog f s := look_all (by
    simp only [List.forall_mem_cons]
    exact ⟨ok_r09_text, ok_r09_kids, ih, by simp⟩)
  refine psound tokW Try.call51 Try.func51 rfl (fun xs r h => by obtain ⟨_, _, _, rfl, _⟩ := h; show 1 ≤ 39; decide) 39 rfl ?_
  rintro xs r w0 G0 ⟨⟨n1_kind, n1_text, n1_cols, n1_kids⟩, y0, h, rfl, rfl⟩ _
  rw [m_r09_form] at h
  refine tri_seq ?_
  refine tri_region (by exact tokW) (by exact gok) [] [] rfl ?_
  show Tri _ _ _ _
  refine tri_seq ?_
  refine tri_seq ?_
  obtain ⟨x2, hj, h⟩ := bind_out h
  refine tri_post ⟨ofL [(1, .s (.pt [.int .i64 n1_kind, .str n1_text, .int .i64 n1_cols, .sl 4 (Nd.encs n1_kids)])), (11, .s (.bool x2))], fun _ => none, 0⟩ ?_ (fun σ' hle => ?_)
  · replace h := hj
    refine tri_region (by exact tokW) (by exact gok) [] [7] rfl ?_
    obtain ⟨y3, hy3, h⟩ := bind_out h
    refine ⟨_, ⟨_, _, _, hy3, rfl, rfl⟩, ?_⟩
    intro b hb
    cases b with
    | true =>
      replace h := bif_t hb.symm h
      cases h
      exact (Le.forget _ ⟨rfl, rfl, trivial⟩)
    | false =>
      replace h := bif_f hb.symm h
      obtain ⟨y4, hy4, h⟩ := bind_out h
      refine ⟨_, ⟨_, _, hy4, rfl, rfl⟩, ?_⟩
      cases h
      exact (Le.forget _ ⟨rfl, rfl, trivial⟩)
  · show Tri _ _ _ _
    refine tri_le hle ?_
    refine tri_cond rfl (fun hb => ?_) (fun hb => ?_)
    · replace h := bif_t hb h
      refine tri_seq ?_
      refine tri_region (by exact tokW) (by exact gok) [] [] rfl ?_
      show Tri _ _ _ _
      refine tri_ret ?_
      have hy := Option.some.inj h
      subst hy
      unfold Gives
      exact ⟨_, Le.refl _ _, rfl, rfl⟩
    · replace h := bif_f hb h
      refine tri_skip ?_
      show Tri _ _ _ _
      refine tri_seq ?_
      refine tri_seq ?_
      refine tri_region (by exact tokW) (by exact gok) [] [] rfl ?_
      show Tri _ _ _ _
      obtain ⟨fl, hl, ho1⟩ := bind_out h
      refine tri_fl (fl := fl) (fun z => match z with | _ => ⟨ofL [], fun _ => none, 0⟩) ?_ (fun z σ' hz hle => ?_)
      · refine tri_block (tri_loopI (X := Nat × Int) (fun y => match y with | (k, i5) => ⟨ofL [(1, .s (.pt [.int .i64 n1_kind, .str n1_text, .int .i64 n1_cols, .sl 4 (Nd.encs n1_kids)])), (3, .s (.int .i64 i5))], fun _ => none, 0⟩) (fun y => m_r09_form_l1 (m_r09_form n) n1_kind n1_kids y.1 y.2 = some fl) (fun y => y.1) (n, 0) hl ?_ ?_)
        · exact (Le.forget _ ⟨rfl, rfl, trivial⟩)
        · rintro ⟨k, i5⟩ h
          cases k with
          | zero => cases h
          | succ k =>
            replace h : m_r09_form_l1 (m_r09_form n) n1_kind n1_kids (k+1) i5 = some fl := h
            rw [m_r09_form_l1] at h
            refine tri_seq ?_
            refine tri_seq ?_
            refine tri_region (by exact tokW) (by exact gok) [] [15] rfl ?_
            intro n6 hn6
            obtain rfl : (n1_kids.length : Int) = n6 := (hn6.trans (congrArg (fun m : Nat => (m : Int)) (rlen Nd.encs_eq n1_kids))).symm
            show Tri _ _ _ _
            refine tri_cond rfl (fun hb => ?_) (fun hb => ?_)
            · replace h := bif_t hb h
              refine tri_skip ?_
              show Tri _ _ _ _
              refine tri_seq ?_
              refine tri_block ?_
              refine tri_seq ?_
              obtain ⟨x7, hj, h⟩ := bind_out h
              refine tri_post ⟨ofL [(1, .s (.pt [.int .i64 n1_kind, .str n1_text, .int .i64 n1_cols, .sl 4 (Nd.encs n1_kids)])), (3, .s (.int .i64 i5)), (38, .s (.bool x7))], fun _ => none, 0⟩ ?_ (fun σ' hle => ?_)
              · replace h := hj
                refine tri_drawn (by exact tokW) (by exact gok) (by exact mixed) [] [22, 30, 34] [] rfl (by decide +kernel) ?_
                obtain ⟨⟨e8_kind, e8_text, e8_cols, e8_kids⟩, he8, h⟩ := bind_out h
                refine And.intro (at_ok Nd.encs_eq he8).1 ?_
                intro r9 hr9
                obtain rfl : [.int .i64 e8_kind, .str e8_text, .int .i64 e8_cols, .sl 4 (Nd.encs e8_kids)] = r9 := (hr9.trans (at_ok Nd.encs_eq he8).2.1).symm
                intro b hb
                cases b with
                | true =>
                  replace h := bif_t hb.symm h
                  cases h
                  exact (Le.forget _ ⟨rfl, rfl, rfl, trivial⟩)
                | false =>
                  replace h := bif_f hb.symm h
                  obtain ⟨⟨e10_kind, e10_text, e10_cols, e10_kids⟩, he10, h⟩ := bind_out h
                  refine And.intro (at_ok Nd.encs_eq he10).1 ?_
                  intro r11 hr11
                  obtain rfl : [.int .i64 e10_kind, .str e10_text, .int .i64 e10_cols, .sl 4 (Nd.encs e10_kids)] = r11 := (hr11.trans (at_ok Nd.encs_eq he10).2.1).symm
                  obtain ⟨y12, hy12, h⟩ := bind_out h
                  refine ⟨_, ⟨_, _, hy12, rfl, rfl⟩, ?_⟩
                  cases h
                  exact (Le.forget _ ⟨rfl, rfl, rfl, trivial⟩)
              · show Tri _ _ _ _
                refine tri_le hle ?_
                refine tri_cond rfl (fun hb => ?_) (fun hb => ?_)
                · replace h := bif_t hb h
                  refine tri_seq ?_
                  refine tri_region (by exact tokW) (by exact gok) [] [] rfl ?_
                  show Tri _ _ _ _
                  refine tri_ret ?_
                  cases h
                  replace h : some _ = some _ := ho1
                  have hy := Option.some.inj h
                  subst hy
                  unfold Gives
                  exact ⟨_, Le.refl _ _, rfl, rfl⟩
                · replace h := bif_f hb h
                  refine tri_skip ?_
                  show Tri _ _ _ _
                  refine tri_region (by exact tokW) (by exact gok) [] [] rfl ?_
                  refine ⟨(k, IntKind.i64.wrap (i5 + 1)), h, (Le.forget _ ⟨rfl, rfl, trivial⟩), Nat.lt_succ_self k⟩
            · replace h := bif_f hb h
              refine tri_exit ?_
              cases h
              exact ⟨_, rfl, (Le.forget _ trivial)⟩
      · subst hz
        obtain _ := z
        replace h := ho1
        show Tri _ _ _ _
        refine tri_le hle ?_
        refine tri_seq ?_
        refine tri_region (by exact tokW) (by exact gok) [] [] rfl ?_
        show Tri _ _ _ _
        refine tri_ret ?_
        have hy := Option.some.inj h
        subst hy
        unfold Gives
        exact ⟨_, Le.refl _ _, rfl, rfl⟩
theorem all_r09_form : ∀ n, PSound Try.prog 51 (pspec (R_r09_form n)) := by
  intro n
  induction n with
  | zero => exact psound_none Try.call51 (fun xs r h => by obtain ⟨_, _, h, _⟩ := h; cases h)
  | succ n ih => exact step_r09_form n ih
def S_r09_form : PSpec := pspec fun xs r => ∃ n, R_r09_form n xs r
theorem ok_r09_form : PSound Try.prog 51 S_r09_form := psound_all all_r09_form
def R_r09_Depth (n : Nat) (xs : List AV) (r : Ret) : Prop := ∃ (a0 : Nd) (y0 : Int), m_r09_Depth n a0 = some y0 ∧ xs = [.agg ((Nd.enc a0).map .s)] ∧ r = .val (.s (.int .i64 y0))
set_option maxHeartbeats 2000000 in
set_option maxRecDepth 100000 in
theorem step_r09_Depth (n : Nat) (ih : PSound Try.prog 52 (pspec (R_r09_Depth n))) : PSound Try.prog 52 (pspec (R_r09_Depth (n + 1))) := by
  have gok : ∀ f s, look? f [(52, pspec (R_r09_Depth n))] = some s → PSound Try.prog f s := look_all (by
    simp only [List.forall_mem_cons]
    exact ⟨ih, by simp⟩)
  refine psound tokW Try.call52 Try.func52 rfl (fun xs r h => by obtain ⟨_, _, _, rfl, _⟩ := h; show 1 ≤ 22; decide) 22 rfl ?_
  rintro xs r w0 G0 ⟨⟨n1_kind, n1_text, n1_cols, n1_kids⟩, y0, h, rfl, rfl⟩ _
  rw [m_r09_Depth] at h
  refine tri_seq ?_
  refine tri_region (by exact tokW) (by exact gok) [] [] rfl ?_
  show Tri _ _ _ _
  refine tri_seq ?_
  refine tri_region (by exact tokW) (by exact gok) [] [] rfl ?_
  show Tri _ _ _ _
  refine tri_seq ?_
  refine tri_seq ?_
  refine tri_region (by exact tokW) (by exact gok) [] [] rfl ?_
  show Tri _ _ _ _
  obtain ⟨out4, hl, h⟩ := bind_out h
  refine tri_post ⟨ofL [(3, .s (.int .i64 out4))], fun _ => none, 0⟩ ?_ (fun σ' hle => ?_)
  · refine tri_block (tri_loopI (X := Nat × Int × Int) (fun y => match y with | (k, out2, i3) => ⟨ofL [(1, .s (.pt [.int .i64 n1_kind, .str n1_text, .int .i64 n1_cols, .sl 4 (Nd.encs n1_kids)])), (3, .s (.int .i64 out2)), (4, .s (.int .i64 i3))], fun _ => none, 0⟩) (fun y => m_r09_Depth_l1 (m_r09_Depth n) n1_kids y.1 y.2.1 y.2.2 = some out4) (fun y => y.1) (n, 0, 0) hl ?_ ?_)
    · exact (Le.forget _ ⟨rfl, rfl, rfl, trivial⟩)
    · rintro ⟨k, out2, i3⟩ h
      cases k with
      | zero => cases h
      | succ k =>
        replace h : m_r09_Depth_l1 (m_r09_Depth n) n1_kids (k+1) out2 i3 = some out4 := h
        rw [m_r09_Depth_l1] at h
        refine tri_seq ?_
        refine tri_seq ?_
        refine tri_region (by exact tokW) (by exact gok) [] [8] rfl ?_
        intro n5 hn5
        obtain rfl : (n1_kids.length : Int) = n5 := (hn5.trans (congrArg (fun m : Nat => (m : Int)) (rlen Nd.encs_eq n1_kids))).symm
        show Tri _ _ _ _
        refine tri_cond rfl (fun hb => ?_) (fun hb => ?_)
        · replace h := bif_t hb h
          refine tri_skip ?_
          show Tri _ _ _ _
          refine tri_seq ?_
          refine tri_block ?_
          refine tri_region (by exact tokW) (by exact gok) [] [16] rfl ?_
          obtain ⟨⟨e6_kind, e6_text, e6_cols, e6_kids⟩, he6, h⟩ := bind_out h
          refine And.intro (at_ok Nd.encs_eq he6).1 ?_
          intro r7 hr7
          obtain rfl : [.int .i64 e6_kind, .str e6_text, .int .i64 e6_cols, .sl 4 (Nd.encs e6_kids)] = r7 := (hr7.trans (at_ok Nd.encs_eq he6).2.1).symm
          obtain ⟨y8, hy8, h⟩ := bind_out h
          refine ⟨_, ⟨_, _, hy8, rfl, rfl⟩, ?_⟩
          show Tri _ _ _ _
          refine tri_region (by exact tokW) (by exact gok) [] [] rfl ?_
          refine ⟨(k, (if out2 < y8 then y8 else out2), IntKind.i64.wrap (i3 + 1)), h, (Le.forget _ ⟨rfl, rfl, rfl, trivial⟩), Nat.lt_succ_self k⟩
        · replace h := bif_f hb h
          refine tri_exit ?_
          cases h
          exact (Le.forget _ ⟨rfl, trivial⟩)
  · show Tri _ _ _ _
    refine tri_le hle ?_
    refine tri_seq ?_
    refine tri_region (by exact tokW) (by exact gok) [] [] rfl ?_
    show Tri _ _ _ _
    refine tri_ret ?_
    have hy := Option.some.inj h
    subst hy
    unfold Gives
    exact ⟨_, Le.refl _ _, rfl, rfl⟩
theorem all_r09_Depth : ∀ n, PSound Try.prog 52 (pspec (R_r09_Depth n)) := by
  intro n
  induction n with
  | zero => exact psound_none Try.call52 (fun xs r h => by obtain ⟨_, _, h, _⟩ := h; cases h)
  | succ n ih => exact step_r09_Depth n ih
def S_r09_Depth : PSpec := pspec fun xs r => ∃ n, R_r09_Depth n xs r
theorem ok_r09_Depth : PSound Try.prog 52 S_r09_Depth := psound_all all_r09_Depth
def R_r09_Valid (n : Nat) (xs : List AV) (r : Ret) : Prop := ∃ (a0 : Nd) (y0 : Bool), m_r09_Valid n a0 = some y0 ∧ xs = [.agg ((Nd.enc a0).map .s)] ∧ r = .val (.s (.bool y0))
def S_r09_Valid : PSpec := pspec fun xs r => ∃ n, R_r09_Valid n xs r
set_option maxHeartbeats 2000000 in
set_option maxRecDepth 100000 in
theorem ok_r09_Valid : PSound Try.prog 26 S_r09_Valid := by
  have gok : ∀ f s, look? f [(51, S_r09_form), (14, S_r09_Count), (52, S_r09_Depth)] = some s → PSound Try.prog f s := look_all (by
    simp only [List.forall_mem_cons]
    exact ⟨ok_r09_form, ok_r09_Count, ok_r09_Depth, by simp⟩)
  refine psound tokW Try.call26 Try.func26 rfl (fun xs r h => by obtain ⟨n, _, _, _, rfl, _⟩ := h; show 1 ≤ 20; decide) 20 rfl ?_
  rintro xs r w0 G0 ⟨n, ⟨n1_kind, n1_text, n1_cols, n1_kids⟩, y0, h, rfl, rfl⟩ _
  rw [m_r09_Valid] at h
  refine tri_seq ?_
  refine tri_region (by exact tokW) (by exact gok) [] [] rfl ?_
  show Tri _ _ _ _
  refine tri_seq ?_
  obtain ⟨x2, hj, h⟩ := bind_out h
  refine tri_post ⟨ofL [(2, .s (.bool x2))], fun _ => none, 0⟩ ?_ (fun σ' hle => ?_)
  · replace h := hj
    refine tri_region (by exact tokW) (by exact gok) [] [6, 10, 15] rfl ?_
    intro b hb
    cases b with
    | true =>
      replace h := bif_t hb.symm h
      obtain ⟨y3, hy3, h⟩ := bind_out h
      refine ⟨_, ⟨_, _, _, hy3, rfl, rfl⟩, ?_⟩
      intro b hb
      cases b with
      | true =>
        replace h := bif_t hb.symm h
        obtain ⟨y4, hy4, h⟩ := bind_out h
        refine ⟨_, ⟨_, _, _, hy4, rfl, rfl⟩, ?_⟩
        intro b hb
        cases b with
        | true =>
          replace h := bif_t hb.symm h
          obtain ⟨y5, hy5, h⟩ := bind_out h
          refine ⟨_, ⟨_, _, _, hy5, rfl, rfl⟩, ?_⟩
          cases h
          exact (Le.forget _ ⟨rfl, trivial⟩)
        | false =>
          replace h := bif_f hb.symm h
          cases h
          exact (Le.forget _ ⟨rfl, trivial⟩)
      | false =>
        replace h := bif_f hb.symm h
        intro b hb
        subst hb
        cases h
        exact (Le.forget _ ⟨rfl, trivial⟩)
    | false =>
      replace h := bif_f hb.symm h
      intro b hb
      subst hb
      intro b hb
      subst hb
      cases h
      exact (Le.forget _ ⟨rfl, trivial⟩)
  · show Tri _ _ _ _
    refine tri_le hle ?_
    refine tri_ret ?_
    have hy := Option.some.inj h
    subst hy
    unfold Gives
    exact ⟨_, Le.refl _ _, rfl, rfl⟩
def R_r09_find (n : Nat) (xs : List AV) (r : Ret) : Prop := ∃ (a0 : Nd) (a1 : List Int) (y0 : Nd) (y1 : Bool), m_r09_find n a0 a1 = some (y0, y1) ∧ xs = [.agg ((Nd.enc a0).map .s), .s (.sl 1 ((List.map (irow .i64)) a1))] ∧ r = .val (.tup [.agg ((Nd.enc y0).map .s), .s (.bool y1)])
def S_r09_find : PSpec := pspec fun xs r => ∃ n, R_r09_find n xs r
set_option maxHeartbeats 2000000 in
set_option maxRecDepth 100000 in
theorem ok_r09_find : PSound Try.prog 39 S_r09_find := by
  have gok : ∀ (f : Nat) (s : PSpec), (fun _ => none : Nat → Option PSpec) f = some s → PSound Try.prog f s := fun _ _ h => by cases h
  refine psound tokW Try.call39 Try.func39 rfl (fun xs r h => by obtain ⟨n, _, _, _, _, _, rfl, _⟩ := h; show 2 ≤ 57; decide) 57 rfl ?_
  rintro xs r w0 G0 ⟨n, ⟨n1_kind, n1_text, n1_cols, n1_kids⟩, path2, y0, y1, h, rfl, rfl⟩ _
  rw [m_r09_find] at h
  refine tri_seq ?_
  refine tri_region (by exact tokW) (by exact gok) [2, 4] [] rfl ?_
  show Tri _ _ _ _
  refine tri_seq ?_
  obtain ⟨fl, hl, ho1⟩ := bind_out h
  refine tri_fl (fl := fl) (fun z => match z with | ⟨path9, x10, x11, x12, x13⟩ => ⟨ofL [(1, .s (.sl 1 ((List.map (irow .i64)) path9))), (2, .op 0 0), (4, .op 1 0)], ofH [(0, .box 24 [.s (.int .i64 x10), .s (.str x11), .s (.int .i64 x12), .s (.sl 4 (Nd.encs x13))]), (1, .box 24 [.s (.int .i64 0), .s (.str []), .s (.int .i64 0), .nl 4])], 2⟩) ?_ (fun z σ' hz hle => ?_)
  · refine tri_block (tri_loopI (X := Nat × Int × (List UInt8) × Int × (List Nd) × (List Int)) (fun y => match y with | (k, x3, x4, x5, x6, path8) => ⟨ofL [(1, .s (.sl 1 ((List.map (irow .i64)) path8))), (2, .op 0 0), (4, .op 1 0)], ofH [(0, .box 24 [.s (.int .i64 x3), .s (.str x4), .s (.int .i64 x5), .s (.sl 4 (Nd.encs x6))]), (1, .box 24 [.s (.int .i64 0), .s (.str []), .s (.int .i64 0), .nl 4])], 2⟩) (fun y => m_r09_find_l1  y.1 y.2.1 y.2.2.1 y.2.2.2.1 y.2.2.2.2.1 y.2.2.2.2.2 = some fl) (fun y => y.1) (n, n1_kind, n1_text, n1_cols, n1_kids, path2) hl ?_ ?_)
    · exact (Le.rename [(0, 0), (1, 1)] _ _ _ ⟨rfl, rfl, rfl, trivial⟩ ⟨rfl, ⟨_, rfl, rfl⟩, rfl, ⟨_, rfl, rfl⟩, trivial⟩ rfl rfl rfl rfl rfl)
    · rintro ⟨k, x3, x4, x5, x6, path8⟩ h
      cases k with
      | zero => cases h
      | succ k =>
        replace h : m_r09_find_l1  (k+1) x3 x4 x5 x6 path8 = some fl := h
        rw [m_r09_find_l1] at h
        refine tri_seq ?_
        refine tri_seq ?_
        refine tri_region (by exact tokW) (by exact gok) [] [7] rfl ?_
        intro n14 hn14
        obtain rfl : (path8.length : Int) = n14 := (hn14.trans (congrArg (fun m : Nat => (m : Int)) (rlen (fun _ => rfl) path8))).symm
        show Tri _ _ _ _
        refine tri_cond rfl (fun hb => ?_) (fun hb => ?_)
        · replace h := bif_t hb h
          refine tri_skip ?_
          show Tri _ _ _ _
          refine tri_block ?_
          refine tri_seq ?_
          refine tri_seq ?_
          obtain ⟨x15, hj, h⟩ := bind_out h
          refine tri_post ⟨ofL [(1, .s (.sl 1 ((List.map (irow .i64)) path8))), (2, .op 0 0), (4, .op 1 0), (21, .s (.bool x15))], ofH [(0, .box 24 [.s (.int .i64 x3), .s (.str x4), .s (.int .i64 x5), .s (.sl 4 (Nd.encs x6))]), (1, .box 24 [.s (.int .i64 0), .s (.str []), .s (.int .i64 0), .nl 4])], 2⟩ ?_ (fun σ' hle => ?_)
          · replace h := hj
            refine tri_drawn (by exact tokW) (by exact gok) (by exact mixed) [] [10, 13, 15, 19] [9] rfl (by decide +kernel) ?_
            obtain ⟨e16, he16, h⟩ := bind_out h
            refine And.intro (at_ok (fun _ => rfl) he16).1 ?_
            intro r17 hr17
            obtain rfl : [.int .i64 e16] = r17 := (hr17.trans (at_ok (fun _ => rfl) he16).2.1).symm
            intro b hb
            cases b with
            | true =>
              replace h := bif_t hb.symm h
              cases h
              exact (Le.rename [(0, 0), (1, 1)] _ _ _ ⟨rfl, rfl, rfl, rfl, trivial⟩ ⟨rfl, ⟨_, rfl, rfl⟩, rfl, ⟨_, rfl, rfl⟩, trivial⟩ rfl rfl rfl rfl rfl)
            | false =>
              replace h := bif_f hb.symm h
              obtain ⟨e18, he18, h⟩ := bind_out h
              refine And.intro (at_ok (fun _ => rfl) he18).1 ?_
              intro r19 hr19
              obtain rfl : [.int .i64 e18] = r19 := (hr19.trans (at_ok (fun _ => rfl) he18).2.1).symm
              intro n20 hn20
              obtain rfl : (x6.length : Int) = n20 := (hn20.trans (congrArg (fun m : Nat => (m : Int)) (rlen Nd.encs_eq x6))).symm
              cases h
              exact (Le.rename [(0, 0), (1, 1)] _ _ _ ⟨rfl, rfl, rfl, rfl, trivial⟩ ⟨rfl, ⟨_, rfl, rfl⟩, rfl, ⟨_, rfl, rfl⟩, trivial⟩ rfl rfl rfl rfl rfl)
          · show Tri _ _ _ _
            refine tri_le hle ?_
            refine tri_cond rfl (fun hb => ?_) (fun hb => ?_)
            · replace h := bif_t hb h
              refine tri_seq ?_
              refine tri_region (by exact tokW) (by exact gok) [] [] rfl ?_
              show Tri _ _ _ _
              refine tri_ret ?_
              cases h
              replace h : some _ = some _ := ho1
              obtain ⟨hj1, hk1⟩ := Prod.mk.inj (Option.some.inj h)
              subst hj1
              subst hk1
              unfold Gives
              exact ⟨_, Le.refl _ _, rfl, rfl⟩
            · replace h := bif_f hb h
              refine tri_skip ?_
              show Tri _ _ _ _
              refine tri_seq ?_
              refine tri_drawn (by exact tokW) (by exact gok) (by exact mixed) [] [26, 28] [1, 7] rfl (by decide +kernel) ?_
              obtain ⟨e21, he21, h⟩ := bind_out h
              refine And.intro (at_ok (fun _ => rfl) he21).1 ?_
              intro r22 hr22
              obtain rfl : [.int .i64 e21] = r22 := (hr22.trans (at_ok (fun _ => rfl) he21).2.1).symm
              obtain ⟨⟨e23_kind, e23_text, e23_cols, e23_kids⟩, he23, h⟩ := bind_out h
              refine And.intro (at_ok Nd.encs_eq he23).1 ?_
              intro r24 hr24
              obtain rfl : [.int .i64 e23_kind, .str e23_text, .int .i64 e23_cols, .sl 4 (Nd.encs e23_kids)] = r24 := (hr24.trans (at_ok Nd.encs_eq he23).2.1).symm
              show Tri _ _ _ _
              refine tri_seq ?_
              refine tri_seq ?_
              obtain ⟨x25, hj, h⟩ := bind_out h
              refine tri_post ⟨ofL [(1, .s (.sl 1 ((List.map (irow .i64)) path8))), (2, .op 0 0), (4, .op 1 0), (42, .s (.bool x25))], ofH [(0, .box 24 [.s (.int .i64 e23_kind), .s (.str e23_text), .s (.int .i64 e23_cols), .s (.sl 4 (Nd.encs e23_kids))]), (1, .box 24 [.s (.int .i64 0), .s (.str []), .s (.int .i64 0), .nl 4])], 2⟩ ?_ (fun σ' hle => ?_)
              · replace h := hj
                refine tri_drawn (by exact tokW) (by exact gok) (by exact mixed) [] [31, 34, 36, 40] [9] rfl (by decide +kernel) ?_
                obtain ⟨e26, he26, h⟩ := bind_out h
                refine And.intro (at_ok (fun _ => rfl) he26).1 ?_
                intro r27 hr27
                obtain rfl : [.int .i64 e26] = r27 := (hr27.trans (at_ok (fun _ => rfl) he26).2.1).symm
                intro b hb
                cases b with
                | true =>
                  replace h := bif_t hb.symm h
                  cases h
                  exact (Le.rename [(0, 0), (1, 1)] _ _ _ ⟨rfl, rfl, rfl, rfl, trivial⟩ ⟨rfl, ⟨_, rfl, rfl⟩, rfl, ⟨_, rfl, rfl⟩, trivial⟩ rfl rfl rfl rfl rfl)
                | false =>
                  replace h := bif_f hb.symm h
                  obtain ⟨e28, he28, h⟩ := bind_out h
                  refine And.intro (at_ok (fun _ => rfl) he28).1 ?_
                  intro r29 hr29
                  obtain rfl : [.int .i64 e28] = r29 := (hr29.trans (at_ok (fun _ => rfl) he28).2.1).symm
                  intro n30 hn30
                  obtain rfl : (e23_kids.length : Int) = n30 := (hn30.trans (congrArg (fun m : Nat => (m : Int)) (rlen Nd.encs_eq e23_kids))).symm
                  cases h
                  exact (Le.rename [(0, 0), (1, 1)] _ _ _ ⟨rfl, rfl, rfl, rfl, trivial⟩ ⟨rfl, ⟨_, rfl, rfl⟩, rfl, ⟨_, rfl, rfl⟩, trivial⟩ rfl rfl rfl rfl rfl)
              · show Tri _ _ _ _
                refine tri_le hle ?_
                refine tri_cond rfl (fun hb => ?_) (fun hb => ?_)
                · replace h := bif_t hb h
                  refine tri_seq ?_
                  refine tri_region (by exact tokW) (by exact gok) [] [] rfl ?_
                  show Tri _ _ _ _
                  refine tri_ret ?_
                  cases h
                  replace h : some _ = some _ := ho1
                  obtain ⟨hj1, hk1⟩ := Prod.mk.inj (Option.some.inj h)
                  subst hj1
                  subst hk1
                  unfold Gives
                  exact ⟨_, Le.refl _ _, rfl, rfl⟩
                · replace h := bif_f hb h
                  refine tri_skip ?_
                  show Tri _ _ _ _
                  refine tri_seq ?_
                  refine tri_drawn (by exact tokW) (by exact gok) (by exact mixed) [] [47, 49] [1, 7] rfl (by decide +kernel) ?_
                  obtain ⟨e31, he31, h⟩ := bind_out h
                  refine And.intro (at_ok (fun _ => rfl) he31).1 ?_
                  intro r32 hr32
                  obtain rfl : [.int .i64 e31] = r32 := (hr32.trans (at_ok (fun _ => rfl) he31).2.1).symm
                  obtain ⟨⟨e33_kind, e33_text, e33_cols, e33_kids⟩, he33, h⟩ := bind_out h
                  refine And.intro (at_ok Nd.encs_eq he33).1 ?_
                  intro r34 hr34
                  obtain rfl : [.int .i64 e33_kind, .str e33_text, .int .i64 e33_cols, .sl 4 (Nd.encs e33_kids)] = r34 := (hr34.trans (at_ok Nd.encs_eq he33).2.1).symm
                  show Tri _ _ _ _
                  refine tri_region (by exact tokW) (by exact gok) [] [52] rfl ?_
                  obtain ⟨hq, h⟩ := req_out h
                  refine And.intro ⟨hq.1, Int.le_trans hq.2.1 (Int.ofNat_le.2 (Nat.le_of_eq (rlen (fun _ => rfl) _).symm)), Int.le_refl _⟩ ?_
                  intro r35 hr35
                  obtain rfl : (List.map (irow .i64)) ((path8.take (path8.length : Int).toNat).drop (2 : Int).toNat) = r35 := (hr35.trans ((congrArg (fun m : Nat => (((List.map (irow .i64)) path8).take m).drop (2 : Int).toNat) (rlen (fun _ => rfl) _)).trans (rcut (fun _ => rfl) _ _ _))).symm
                  refine ⟨(k, e33_kind, e33_text, e33_cols, e33_kids, (path8.take (path8.length : Int).toNat).drop (2 : Int).toNat), h, (Le.rename [(0, 0), (1, 1)] _ _ _ ⟨rfl, rfl, rfl, trivial⟩ ⟨rfl, ⟨_, rfl, rfl⟩, rfl, ⟨_, rfl, rfl⟩, trivial⟩ rfl rfl rfl rfl rfl), Nat.lt_succ_self k⟩
        · replace h := bif_f hb h
          refine tri_exit ?_
          cases h
          exact ⟨_, rfl, (Le.rename [(0, 0), (1, 1)] _ _ _ ⟨rfl, rfl, rfl, trivial⟩ ⟨rfl, ⟨_, rfl, rfl⟩, rfl, ⟨_, rfl, rfl⟩, trivial⟩ rfl rfl rfl rfl rfl)⟩
  · subst hz
    obtain ⟨path9, x10, x11, x12, x13⟩ := z
    replace h := ho1
    show Tri _ _ _ _
    refine tri_le hle ?_
    refine tri_seq ?_
    refine tri_region (by exact tokW) (by exact gok) [] [55] rfl ?_
    intro n36 hn36
    obtain rfl : (path9.length : Int) = n36 := (hn36.trans (congrArg (fun m : Nat => (m : Int)) (rlen (fun _ => rfl) path9))).symm
    show Tri _ _ _ _
    refine tri_ret ?_
    obtain ⟨hj1, hk1⟩ := Prod.mk.inj (Option.some.inj h)
    subst hj1
    subst hk1
    unfold Gives
    exact ⟨_, Le.refl _ _, rfl, rfl⟩
def R_r09_Row (n : Nat) (xs : List AV) (r : Ret) : Prop := ∃ (a0 : Nd) (a1 : List Int) (y0 : Nd) (y1 : Int), m_r09_Row n a0 a1 = some (y0, y1) ∧ xs = [.agg ((Nd.enc a0).map .s), .s (.sl 1 ((List.map (irow .i64)) a1))] ∧ r = .val (.tup [.agg ((Nd.enc y0).map .s), .s (.int .i64 y1)])
def S_r09_Row : PSpec := pspec fun xs r => ∃ n, R_r09_Row n xs r
set_option maxHeartbeats 2000000 in
set_option maxRecDepth 100000 in
theorem ok_r09_Row : PSound Try.prog 16 S_r09_Row := by
  have gok : ∀ f s, look? f [(26, S_r09_Valid), (39, S_r09_find)] = some s → PSound Try.prog f s := look_all (by
    simp only [List.forall_mem_cons]
    exact ⟨ok_r09_Valid, ok_r09_find, by simp⟩)
  refine psound tokW Try.call16 Try.func16 rfl (fun xs r h => by obtain ⟨n, _, _, _, _, _, rfl, _⟩ := h; show 2 ≤ 22; decide) 22 rfl ?_
  rintro xs r w0 G0 ⟨n, ⟨n1_kind, n1_text, n1_cols, n1_kids⟩, path2, y0, y1, h, rfl, rfl⟩ _
  rw [m_r09_Row] at h
  refine tri_seq ?_
  refine tri_region (by exact tokW) (by exact gok) [4] [] rfl ?_
  show Tri _ _ _ _
  refine tri_seq ?_
  refine tri_seq ?_
  refine tri_region (by exact tokW) (by exact gok) [] [] rfl ?_
  obtain ⟨y3, hy3, h⟩ := bind_out h
  refine ⟨_, ⟨_, _, _, hy3, rfl, rfl⟩, ?_⟩
  show Tri _ _ _ _
  refine tri_cond rfl (fun hb => ?_) (fun hb => ?_)
  · replace h := bif_t hb h
    refine tri_seq ?_
    refine tri_region (by exact tokW) (by exact gok) [] [] rfl ?_
    show Tri _ _ _ _
    refine tri_ret ?_
    obtain ⟨hj1, hk1⟩ := Prod.mk.inj (Option.some.inj h)
    subst hj1
    subst hk1
    unfold Gives
    exact ⟨_, Le.refl _ _, rfl, rfl⟩
  · replace h := bif_f hb h
    refine tri_skip ?_
    show Tri _ _ _ _
    refine tri_seq ?_
    refine tri_region (by exact tokW) (by exact gok) [6] [] rfl ?_
    obtain ⟨⟨⟨y4_kind, y4_text, y4_cols, y4_kids⟩, y5⟩, hy4, h⟩ := bind_out h
    refine ⟨_, ⟨_, _, _, _, _, hy4, rfl, rfl⟩, ?_⟩
    show Tri _ _ _ _
    refine tri_le (Le.giveBox 1 [.int .i64 y4_kind, .str y4_text, .int .i64 y4_cols, .sl 4 (Nd.encs y4_kids)] rfl rfl) ?_
    refine tri_seq ?_
    refine tri_seq ?_
    refine tri_region (by exact tokW) (by exact gok) [] [] rfl ?_
    show Tri _ _ _ _
    refine tri_cond rfl (fun hb => ?_) (fun hb => ?_)
    · replace h := bif_t hb h
      refine tri_seq ?_
      refine tri_region (by exact tokW) (by exact gok) [] [] rfl ?_
      show Tri _ _ _ _
      refine tri_ret ?_
      obtain ⟨hj1, hk1⟩ := Prod.mk.inj (Option.some.inj h)
      subst hj1
      subst hk1
      unfold Gives
      exact ⟨_, Le.refl _ _, rfl, rfl⟩
    · replace h := bif_f hb h
      refine tri_skip ?_
      show Tri _ _ _ _
      refine tri_seq ?_
      refine tri_region (by exact tokW) (by exact gok) [] [] rfl ?_
      show Tri _ _ _ _
      refine tri_ret ?_
      obtain ⟨hj1, hk1⟩ := Prod.mk.inj (Option.some.inj h)
      subst hj1
      subst hk1
      unfold Gives
      exact ⟨_, Le.refl _ _, rfl, rfl⟩
def R_l12_EditElsewhere (n : Nat) (xs : List AV) (r : Ret) : Prop := ∃ (a0 : Nd) (a1 : (Int × List Int × Int × Int × List Nd × Int × List UInt8 × List UInt8)) (a2 : List Int) (y0 : Bool), m_l12_EditElsewhere n a0 a1 a2 = some y0 ∧ xs = [.agg ((Nd.enc a0).map .s), .agg ((enc_api_Op a1).map .s), .s (.sl 1 ((List.map (irow .i64)) a2))] ∧ r = .val (.s (.bool y0))
def S_l12_EditElsewhere : PSpec := pspec fun xs r => ∃ n, R_l12_EditElsewhere n xs r
set_option maxHeartbeats 2000000 in
set_option maxRecDepth 100000 in
theorem ok_l12_EditElsewhere : PSound Try.prog 4 S_l12_EditElsewhere := by
  have gok : ∀ f s, look? f [(11, S_l12_awake), (12, S_l12_few), (15, S_l12_begins), (13, S_edit_Apply), (16, S_r09_Row), (17, S_r09_Equal)] = some s → PSound Try.prog f s := look_all (by
    simp only [List.forall_mem_cons]
    exact ⟨ok_l12_awake, ok_l12_few, ok_l12_begins, ok_edit_Apply, ok_r09_Row, ok_r09_Equal, by simp⟩)
  refine psound tokW Try.call4 Try.func4 rfl (fun xs r h => by obtain ⟨n, _, _, _, _, _, rfl, _⟩ := h; show 3 ≤ 68; decide) 68 rfl ?_
  rintro xs r w0 G0 ⟨n, ⟨a1_kind, a1_text, a1_cols, a1_kids⟩, ⟨a2_kind, a2_row, a2_at, a2_n, a2_nodes, a2_slot, a2_old, a2_text⟩, a3, y0, h, rfl, rfl⟩ _
  rw [m_l12_EditElsewhere] at h
  refine tri_seq ?_
  refine tri_region (by exact tokW) (by exact gok) [] [] rfl ?_
  show Tri _ _ _ _
  refine tri_seq ?_
  refine tri_seq ?_
  obtain ⟨x4, hj, h⟩ := bind_out h
  refine tri_post ⟨ofL [(2, .s (.sl 1 ((List.map (irow .i64)) a3))), (3, .s (.pt [.int .i64 a1_kind, .str a1_text, .int .i64 a1_cols, .sl 4 (Nd.encs a1_kids)])), (4, .s (.pt [.int .i64 a2_kind, .sl 1 ((List.map (irow .i64)) a2_row), .int .i64 a2_at, .int .i64 a2_n, .sl 4 (Nd.encs a2_nodes), .int .i64 a2_slot, .str a2_old, .str a2_text])), (38, .s (.bool x4))], fun _ => none, 0⟩ ?_ (fun σ' hle => ?_)
  · replace h := hj
    refine tri_region (by exact tokW) (by exact gok) [] [15, 18, 22, 24, 27, 33] rfl ?_
    obtain ⟨y5, hy5, h⟩ := bind_out h
    refine ⟨_, ⟨_, _, hy5, rfl, rfl⟩, ?_⟩
    intro b hb
    cases b with
    | true =>
      replace h := bif_t hb.symm h
      intro b hb
      subst hb
      intro b hb
      subst hb
      intro b hb
      subst hb
      cases h
      exact (Le.forget _ ⟨rfl, rfl, rfl, rfl, trivial⟩)
    | false =>
      replace h := bif_f hb.symm h
      intro r6 hr6
      obtain rfl : (List.map enc_api_Op) [(a2_kind, a2_row, a2_at, a2_n, a2_nodes, a2_slot, a2_old, a2_text)] = r6 := (hr6.trans (by simp [List.map_append, List.map_take, List.map_drop, irow, brow, b8of_row, List.map_cons, List.map_nil, b8of_wrap, Nd.encs_eq, Nd.enc, enc_13_node_kind, enc_node_checker, enc_s_api_Node, enc_edit_change, enc_api_Op, enc_string])).symm
      obtain ⟨y7, hy7, h⟩ := bind_out h
      refine ⟨_, ⟨_, _, _, _, hy7, rfl, rfl⟩, ?_⟩
      intro b hb
      cases b with
      | true =>
        replace h := bif_t hb.symm h
        intro b hb
        subst hb
        intro b hb
        subst hb
        cases h
        exact (Le.forget _ ⟨rfl, rfl, rfl, rfl, trivial⟩)
      | false =>
        replace h := bif_f hb.symm h
        intro n8 hn8
        obtain rfl : (a3.length : Int) = n8 := (hn8.trans (congrArg (fun m : Nat => (m : Int)) (rlen (fun _ => rfl) a3))).symm
        intro b hb
        cases b with
        | true =>
          replace h := bif_t hb.symm h
          intro b hb
          subst hb
          cases h
          exact (Le.forget _ ⟨rfl, rfl, rfl, rfl, trivial⟩)
        | false =>
          replace h := bif_f hb.symm h
          obtain ⟨y9, hy9, h⟩ := bind_out h
          refine ⟨_, ⟨_, _, _, _, hy9, rfl, rfl⟩, ?_⟩
          intro b hb
          cases b with
          | true =>
            replace h := bif_t hb.symm h
            cases h
            exact (Le.forget _ ⟨rfl, rfl, rfl, rfl, trivial⟩)
          | false =>
            replace h := bif_f hb.symm h
            obtain ⟨y10, hy10, h⟩ := bind_out h
            refine ⟨_, ⟨_, _, _, _, hy10, rfl, rfl⟩, ?_⟩
            cases h
            exact (Le.forget _ ⟨rfl, rfl, rfl, rfl, trivial⟩)
  · show Tri _ _ _ _
    refine tri_le hle ?_
    refine tri_cond rfl (fun hb => ?_) (fun hb => ?_)
    · replace h := bif_t hb h
      refine tri_seq ?_
      refine tri_region (by exact tokW) (by exact gok) [] [] rfl ?_
      obtain ⟨y11, hy11, h⟩ := bind_out h
      refine ⟨_, ⟨_, _, hy11, rfl, rfl⟩, ?_⟩
      show Tri _ _ _ _
      refine tri_ret ?_
      have hy := Option.some.inj h
      subst hy
      unfold Gives
      exact ⟨_, Le.refl _ _, rfl, rfl⟩
    · replace h := bif_f hb h
      refine tri_skip ?_
      show Tri _ _ _ _
      refine tri_seq ?_
      refine tri_region (by exact tokW) (by exact gok) [7] [] rfl ?_
      obtain ⟨⟨⟨y12_kind, y12_text, y12_cols, y12_kids⟩, y13⟩, hy12, h⟩ := bind_out h
      refine ⟨_, ⟨_, _, _, _, _, hy12, rfl, rfl⟩, ?_⟩
      show Tri _ _ _ _
      refine tri_le (Le.giveBox 0 [.int .i64 y12_kind, .str y12_text, .int .i64 y12_cols, .sl 4 (Nd.encs y12_kids)] rfl rfl) ?_
      refine tri_seq ?_
      refine tri_seq ?_
      refine tri_region (by exact tokW) (by exact gok) [] [] rfl ?_
      show Tri _ _ _ _
      refine tri_cond rfl (fun hb => ?_) (fun hb => ?_)
      · replace h := bif_t hb h
        refine tri_seq ?_
        refine tri_region (by exact tokW) (by exact gok) [] [] rfl ?_
        show Tri _ _ _ _
        refine tri_ret ?_
        have hy := Option.some.inj h
        subst hy
        unfold Gives
        exact ⟨_, Le.refl _ _, rfl, rfl⟩
      · replace h := bif_f hb h
        refine tri_skip ?_
        show Tri _ _ _ _
        refine tri_seq ?_
        refine tri_region (by exact tokW) (by exact gok) [9] [] rfl ?_
        obtain ⟨⟨⟨y14_kind, y14_text, y14_cols, y14_kids⟩, y15⟩, hy14, h⟩ := bind_out h
        refine ⟨_, ⟨_, _, _, _, _, hy14, rfl, rfl⟩, ?_⟩
        show Tri _ _ _ _
        refine tri_le (Le.giveBox 1 [.int .i64 y14_kind, .str y14_text, .int .i64 y14_cols, .sl 4 (Nd.encs y14_kids)] rfl rfl) ?_
        refine tri_seq ?_
        refine tri_region (by exact tokW) (by exact gok) [11] [] rfl ?_
        obtain ⟨⟨⟨y16_kind, y16_text, y16_cols, y16_kids⟩, y17⟩, hy16, h⟩ := bind_out h
        refine ⟨_, ⟨_, _, _, _, _, hy16, rfl, rfl⟩, ?_⟩
        show Tri _ _ _ _
        refine tri_le (Le.giveBox 2 [.int .i64 y16_kind, .str y16_text, .int .i64 y16_cols, .sl 4 (Nd.encs y16_kids)] rfl rfl) ?_
        refine tri_seq ?_
        obtain ⟨x18, hj, h⟩ := bind_out h
        refine tri_post ⟨ofL [(6, .s (.bool x18))], fun _ => none, 0⟩ ?_ (fun σ' hle => ?_)
        · replace h := hj
          refine tri_region (by exact tokW) (by exact gok) [] [63] rfl ?_
          intro b hb
          cases b with
          | true =>
            replace h := bif_t hb.symm h
            obtain ⟨y19, hy19, h⟩ := bind_out h
            refine ⟨_, ⟨_, _, _, _, hy19, rfl, rfl⟩, ?_⟩
            cases h
            exact (Le.rename [] _ [] 0 ⟨rfl, trivial⟩ trivial rfl rfl rfl rfl rfl)
          | false =>
            replace h := bif_f hb.symm h
            cases h
            exact (Le.rename [] _ [] 0 ⟨rfl, trivial⟩ trivial rfl rfl rfl rfl rfl)
        · show Tri _ _ _ _
          refine tri_le hle ?_
          refine tri_ret ?_
          have hy := Option.some.inj h
          subst hy
          unfold Gives
          exact ⟨_, Le.refl _ _, rfl, rfl⟩
def R_r09_Int (n : Nat) (xs : List AV) (r : Ret) : Prop := ∃ (a0 : Int) (y0 : List UInt8), m_r09_Int n a0 = some y0 ∧ xs = [.s (.int .i64 a0)] ∧ r = .val (.s (.str y0))
set_option maxHeartbeats 2000000 in
set_option maxRecDepth 100000 in
theorem step_r09_Int (n : Nat) (ih : PSound Try.prog 41 (pspec (R_r09_Int n))) : PSound Try.prog 41 (pspec (R_r09_Int (n + 1))) := by
  have gok : ∀ f s, look? f [(41, pspec (R_r09_Int n))] = some s → PSound Try.prog f s := look_all (by
    simp only [List.forall_mem_cons]
    exact ⟨ih, by simp⟩)
  refine psound tokW Try.call41 Try.func41 rfl (fun xs r h => by obtain ⟨_, _, _, rfl, _⟩ := h; show 1 ≤ 44; decide) 44 rfl ?_
  rintro xs r w0 G0 ⟨n1, y0, h, rfl, rfl⟩ _
  rw [m_r09_Int] at h
  refine tri_seq ?_
  refine tri_region (by exact tokW) (by exact gok) [] [] rfl ?_
  show Tri _ _ _ _
  refine tri_seq ?_
  refine tri_seq ?_
  refine tri_region (by exact tokW) (by exact gok) [] [] rfl ?_
  show Tri _ _ _ _
  refine tri_cond rfl (fun hb => ?_) (fun hb => ?_)
  · replace h := bif_t hb h
    refine tri_seq ?_
    refine tri_region (by exact tokW) (by exact gok) [] [11, 12] rfl ?_
    refine And.intro (by decide) ?_
    intro r2 hr2
    obtain rfl : (List.map brow) [b8of (IntKind.u8.wrap (IntKind.i64.wrap (48 - (n1.tmod 10))))] = r2 := (hr2.trans (by simp [List.map_append, List.map_take, List.map_drop, irow, brow, b8of_row, List.map_cons, List.map_nil, b8of_wrap, Nd.encs_eq, Nd.enc, enc_13_node_kind, enc_node_checker, enc_s_api_Node, enc_edit_change, enc_api_Op, enc_string])).symm
    refine And.intro (show List.map brow [b8of (IntKind.u8.wrap (IntKind.i64.wrap (48 - (n1.tmod 10))))] = ((List.map brow [b8of (IntKind.u8.wrap (IntKind.i64.wrap (48 - (n1.tmod 10))))]).map browOf).map brow from by rw [brow_back]) ?_
    intro s3 hs3
    obtain rfl : [b8of (IntKind.u8.wrap (IntKind.i64.wrap (48 - (n1.tmod 10))))] = s3 := (hs3.trans (brow_back _)).symm
    show Tri _ _ _ _
    refine tri_seq ?_
    refine tri_seq ?_
    refine tri_region (by exact tokW) (by exact gok) [] [] rfl ?_
    refine And.intro (by decide) ?_
    show Tri _ _ _ _
    refine tri_cond rfl (fun hb => ?_) (fun hb => ?_)
    · replace h := bif_t hb h
      refine tri_seq ?_
      refine tri_region (by exact tokW) (by exact gok) [] [] rfl ?_
      refine And.intro (by decide) ?_
      obtain ⟨y4, hy4, h⟩ := bind_out h
      refine ⟨_, ⟨_, _, hy4, rfl, rfl⟩, ?_⟩
      obtain ⟨hq, h⟩ := req_out h
      refine And.intro (Nat.le_trans hq (by decide)) ?_
      obtain ⟨hq, h⟩ := req_out h
      refine And.intro (Nat.le_trans hq (by decide)) ?_
      show Tri _ _ _ _
      refine tri_ret ?_
      have hy := Option.some.inj h
      subst hy
      unfold Gives
      exact ⟨_, Le.refl _ _, rfl, rfl⟩
    · replace h := bif_f hb h
      refine tri_skip ?_
      show Tri _ _ _ _
      refine tri_seq ?_
      refine tri_region (by exact tokW) (by exact gok) [] [] rfl ?_
      obtain ⟨hq, h⟩ := req_out h
      refine And.intro (Nat.le_trans hq (by decide)) ?_
      show Tri _ _ _ _
      refine tri_ret ?_
      have hy := Option.some.inj h
      subst hy
      unfold Gives
      exact ⟨_, Le.refl _ _, rfl, rfl⟩
  · replace h := bif_f hb h
    refine tri_skip ?_
    show Tri _ _ _ _
    refine tri_seq ?_
    refine tri_region (by exact tokW) (by exact gok) [] [] rfl ?_
    show Tri _ _ _ _
    refine tri_seq ?_
    obtain ⟨⟨n7, s8⟩, hl, h⟩ := bind_out h
    refine tri_post ⟨ofL [(0, .s (.int .i64 n7)), (4, .s (.str s8))], fun _ => none, 0⟩ ?_ (fun σ' hle => ?_)
    · refine tri_block (tri_loopI (X := Nat × Int × (List UInt8)) (fun y => match y with | (k, n5, s6) => ⟨ofL [(0, .s (.int .i64 n5)), (4, .s (.str s6))], fun _ => none, 0⟩) (fun y => m_r09_Int_l1  y.1 y.2.1 y.2.2 = some (n7, s8)) (fun y => y.1) (n, n1, []) hl ?_ ?_)
      · exact (Le.forget _ ⟨rfl, rfl, trivial⟩)
      · rintro ⟨k, n5, s6⟩ h
        cases k with
        | zero => cases h
        | succ k =>
          replace h : m_r09_Int_l1  (k+1) n5 s6 = some (n7, s8) := h
          rw [m_r09_Int_l1] at h
          refine tri_seq ?_
          refine tri_seq ?_
          refine tri_region (by exact tokW) (by exact gok) [] [] rfl ?_
          show Tri _ _ _ _
          refine tri_cond rfl (fun hb => ?_) (fun hb => ?_)
          · replace h := bif_t hb h
            refine tri_skip ?_
            show Tri _ _ _ _
            refine tri_block ?_
            refine tri_seq ?_
            refine tri_region (by exact tokW) (by exact gok) [] [31, 32] rfl ?_
            refine And.intro (by decide) ?_
            intro r9 hr9
            obtain rfl : (List.map brow) [b8of (IntKind.u8.wrap (IntKind.i64.wrap (48 + (n5.tmod 10))))] = r9 := (hr9.trans (by simp [List.map_append, List.map_take, List.map_drop, irow, brow, b8of_row, List.map_cons, List.map_nil, b8of_wrap, Nd.encs_eq, Nd.enc, enc_13_node_kind, enc_node_checker, enc_s_api_Node, enc_edit_change, enc_api_Op, enc_string])).symm
            refine And.intro (show List.map brow [b8of (IntKind.u8.wrap (IntKind.i64.wrap (48 + (n5.tmod 10))))] = ((List.map brow [b8of (IntKind.u8.wrap (IntKind.i64.wrap (48 + (n5.tmod 10))))]).map browOf).map brow from by rw [brow_back]) ?_
            intro s10 hs10
            obtain rfl : [b8of (IntKind.u8.wrap (IntKind.i64.wrap (48 + (n5.tmod 10))))] = s10 := (hs10.trans (brow_back _)).symm
            obtain ⟨hq, h⟩ := req_out h
            refine And.intro (Nat.le_trans hq (by decide)) ?_
            show Tri _ _ _ _
            refine tri_region (by exact tokW) (by exact gok) [] [] rfl ?_
            refine And.intro (by decide) ?_
            refine ⟨(k, IntKind.i64.wrap (n5.tdiv 10), [b8of (IntKind.u8.wrap (IntKind.i64.wrap (48 + (n5.tmod 10))))] ++ s6), h, (Le.forget _ ⟨rfl, rfl, trivial⟩), Nat.lt_succ_self k⟩
          · replace h := bif_f hb h
            refine tri_exit ?_
            cases h
            exact (Le.forget _ ⟨rfl, rfl, trivial⟩)
    · show Tri _ _ _ _
      refine tri_le hle ?_
      refine tri_seq ?_
      refine tri_region (by exact tokW) (by exact gok) [] [40, 41] rfl ?_
      intro r11 hr11
      obtain rfl : (List.map brow) [b8of (IntKind.u8.wrap (IntKind.i64.wrap (48 + n7)))] = r11 := (hr11.trans (by simp [List.map_append, List.map_take, List.map_drop, irow, brow, b8of_row, List.map_cons, List.map_nil, b8of_wrap, Nd.encs_eq, Nd.enc, enc_13_node_kind, enc_node_checker, enc_s_api_Node, enc_edit_change, enc_api_Op, enc_string])).symm
      refine And.intro (show List.map brow [b8of (IntKind.u8.wrap (IntKind.i64.wrap (48 + n7)))] = ((List.map brow [b8of (IntKind.u8.wrap (IntKind.i64.wrap (48 + n7)))]).map browOf).map brow from by rw [brow_back]) ?_
      intro s12 hs12
      obtain rfl : [b8of (IntKind.u8.wrap (IntKind.i64.wrap (48 + n7)))] = s12 := (hs12.trans (brow_back _)).symm
      obtain ⟨hq, h⟩ := req_out h
      refine And.intro (Nat.le_trans hq (by decide)) ?_
      show Tri _ _ _ _
      refine tri_ret ?_
      have hy := Option.some.inj h
      subst hy
      unfold Gives
      exact ⟨_, Le.refl _ _, rfl, rfl⟩
theorem all_r09_Int : ∀ n, PSound Try.prog 41 (pspec (R_r09_Int n)) := by
  intro n
  induction n with
  | zero => exact psound_none Try.call41 (fun xs r h => by obtain ⟨_, _, h, _⟩ := h; cases h)
  | succ n ih => exact step_r09_Int n ih
def S_r09_Int : PSpec := pspec fun xs r => ∃ n, R_r09_Int n xs r
theorem ok_r09_Int : PSound Try.prog 41 S_r09_Int := psound_all all_r09_Int
end Go.Proofs.Ytfbggpmdmhgpfaa
