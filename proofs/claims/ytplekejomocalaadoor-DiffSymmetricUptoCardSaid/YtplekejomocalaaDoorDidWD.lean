/-
  Walks, printed by gw.py.
-/
import Derived.Test.YtplekejomocalaaDoorDidWC
set_option linter.unusedVariables false
set_option linter.unusedSimpArgs false
namespace Go.Proofs.YtplekejomocalaaDoor
open Go.Abs

/- vinculum/vinculumref09.Int -/
def R_r09_Int (n : Nat) (xs : List AV) (r : Ret) : Prop := ∃ (a0 : Int) (y0 : List UInt8), m_r09_Int n a0 = some y0 ∧ xs = [.s (.int .i64 a0)] ∧ r = .val (.s (.str y0))
set_option maxHeartbeats 2000000 in
set_option maxRecDepth 100000 in
theorem step_r09_Int (n : Nat) (ih : PSound Tryd.prog 29 (pspec (R_r09_Int n))) : PSound Tryd.prog 29 (pspec (R_r09_Int (n + 1))) := by
  have gok : ∀ f s, look? f [(29, pspec (R_r09_Int n))] = some s → PSound Tryd.prog f s := look_all (by
    simp only [List.forall_mem_cons]
    exact ⟨ih, by simp⟩)
  refine psound tokW Tryd.call29 Tryd.func29 rfl (fun xs r h => by obtain ⟨_, _, _, rfl, _⟩ := h; show 1 ≤ 44; decide) 44 rfl ?_
  rintro xs r w0 G0 ⟨n1, y0, h, rfl, rfl⟩ _
  rw [m_r09_Int] at h
  refine tri_seq ?_
  refine tri_region (by exact tokW) (by exact gok) [] [] rfl ?_
  show Tri _ _ _ _
  refine tri_seq ?_
  refine tri_seq ?_
  refine tri_region (by exact tokW) (by exact gok) [] [] rfl ?_
  show Tri _ _ _ _
  refine tri_cond rfl (fun hb => ?_) (fun hb => ?_)
  · replace h := bif_t hb h
    refine tri_seq ?_
    refine tri_region (by exact tokW) (by exact gok) [] [11, 12] rfl ?_
    refine And.intro (by decide) ?_
    intro r2 hr2
    obtain rfl : (List.map brow) [b8of (IntKind.u8.wrap (IntKind.i64.wrap (48 - (n1.tmod 10))))] = r2 := (hr2.trans (by simp [List.map_append, List.map_take, List.map_drop, irow, brow, b8of_row, List.map_cons, List.map_nil, b8of_wrap, Nd.encs_eq, Nd.enc, enc_13_node_kind, enc_node_checker, enc_node_inner, enc_diff_grid, enc_s_int, enc_node_open, enc_2_int, enc_string])).symm
    refine And.intro (show List.map brow [b8of (IntKind.u8.wrap (IntKind.i64.wrap (48 - (n1.tmod 10))))] = ((List.map brow [b8of (IntKind.u8.wrap (IntKind.i64.wrap (48 - (n1.tmod 10))))]).map browOf).map brow from by rw [brow_back]) ?_
    intro s3 hs3
    obtain rfl : [b8of (IntKind.u8.wrap (IntKind.i64.wrap (48 - (n1.tmod 10))))] = s3 := (hs3.trans (brow_back _)).symm
    show Tri _ _ _ _
    refine tri_seq ?_
    refine tri_seq ?_
    refine tri_region (by exact tokW) (by exact gok) [] [] rfl ?_
    refine And.intro (by decide) ?_
    show Tri _ _ _ _
    refine tri_cond rfl (fun hb => ?_) (fun hb => ?_)
    · replace h := bif_t hb h
      refine tri_seq ?_
      refine tri_region (by exact tokW) (by exact gok) [] [] rfl ?_
      refine And.intro (by decide) ?_
      obtain ⟨y4, hy4, h⟩ := bind_out h
      refine ⟨_, ⟨_, _, hy4, rfl, rfl⟩, ?_⟩
      obtain ⟨hq, h⟩ := req_out h
      refine And.intro (Nat.le_trans hq (by decide)) ?_
      obtain ⟨hq, h⟩ := req_out h
      refine And.intro (Nat.le_trans hq (by decide)) ?_
      show Tri _ _ _ _
      refine tri_ret ?_
      have hy := Option.some.inj h
      subst hy
      unfold Gives
      exact ⟨_, Le.refl _ _, rfl, rfl⟩
    · replace h := bif_f hb h
      refine tri_skip ?_
      show Tri _ _ _ _
      refine tri_seq ?_
      refine tri_region (by exact tokW) (by exact gok) [] [] rfl ?_
      obtain ⟨hq, h⟩ := req_out h
      refine And.intro (Nat.le_trans hq (by decide)) ?_
      show Tri _ _ _ _
      refine tri_ret ?_
      have hy := Option.some.inj h
      subst hy
      unfold Gives
      exact ⟨_, Le.refl _ _, rfl, rfl⟩
  · replace h := bif_f hb h
    refine tri_skip ?_
    show Tri _ _ _ _
    refine tri_seq ?_
    refine tri_region (by exact tokW) (by exact gok) [] [] rfl ?_
    show Tri _ _ _ _
    refine tri_seq ?_
    obtain ⟨⟨n7, s8⟩, hl, h⟩ := bind_out h
    refine tri_post ⟨ofL [(0, .s (.int .i64 n7)), (4, .s (.str s8))], fun _ => none, 0⟩ ?_ (fun σ' hle => ?_)
    · refine tri_block (tri_loopI (X := Nat × Int × (List UInt8)) (fun y => match y with | (k, n5, s6) => ⟨ofL [(0, .s (.int .i64 n5)), (4, .s (.str s6))], fun _ => none, 0⟩) (fun y => m_r09_Int_l1  y.1 y.2.1 y.2.2 = some (n7, s8)) (fun y => y.1) (n, n1, []) hl ?_ ?_)
      · exact (Le.forget _ ⟨rfl, rfl, trivial⟩)
      · rintro ⟨k, n5, s6⟩ h
        cases k with
        | zero => cases h
        | succ k =>
          replace h : m_r09_Int_l1  (k+1) n5 s6 = some (n7, s8) := h
          rw [m_r09_Int_l1] at h
          refine tri_seq ?_
          refine tri_seq ?_
          refine tri_region (by exact tokW) (by exact gok) [] [] rfl ?_
          show Tri _ _ _ _
          refine tri_cond rfl (fun hb => ?_) (fun hb => ?_)
          · replace h := bif_t hb h
            refine tri_skip ?_
            show Tri _ _ _ _
            refine tri_block ?_
            refine tri_seq ?_
            refine tri_region (by exact tokW) (by exact gok) [] [31, 32] rfl ?_
            refine And.intro (by decide) ?_
            intro r9 hr9
            obtain rfl : (List.map brow) [b8of (IntKind.u8.wrap (IntKind.i64.wrap (48 + (n5.tmod 10))))] = r9 := (hr9.trans (by simp [List.map_append, List.map_take, List.map_drop, irow, brow, b8of_row, List.map_cons, List.map_nil, b8of_wrap, Nd.encs_eq, Nd.enc, enc_13_node_kind, enc_node_checker, enc_node_inner, enc_diff_grid, enc_s_int, enc_node_open, enc_2_int, enc_string])).symm
            refine And.intro (show List.map brow [b8of (IntKind.u8.wrap (IntKind.i64.wrap (48 + (n5.tmod 10))))] = ((List.map brow [b8of (IntKind.u8.wrap (IntKind.i64.wrap (48 + (n5.tmod 10))))]).map browOf).map brow from by rw [brow_back]) ?_
            intro s10 hs10
            obtain rfl : [b8of (IntKind.u8.wrap (IntKind.i64.wrap (48 + (n5.tmod 10))))] = s10 := (hs10.trans (brow_back _)).symm
            obtain ⟨hq, h⟩ := req_out h
            refine And.intro (Nat.le_trans hq (by decide)) ?_
            show Tri _ _ _ _
            refine tri_region (by exact tokW) (by exact gok) [] [] rfl ?_
            refine And.intro (by decide) ?_
            refine ⟨(k, IntKind.i64.wrap (n5.tdiv 10), [b8of (IntKind.u8.wrap (IntKind.i64.wrap (48 + (n5.tmod 10))))] ++ s6), h, (Le.forget _ ⟨rfl, rfl, trivial⟩), Nat.lt_succ_self k⟩
          · replace h := bif_f hb h
            refine tri_exit ?_
            cases h
            exact (Le.forget _ ⟨rfl, rfl, trivial⟩)
    · show Tri _ _ _ _
      refine tri_le hle ?_
      refine tri_seq ?_
      refine tri_region (by exact tokW) (by exact gok) [] [40, 41] rfl ?_
      intro r11 hr11
      obtain rfl : (List.map brow) [b8of (IntKind.u8.wrap (IntKind.i64.wrap (48 + n7)))] = r11 := (hr11.trans (by simp [List.map_append, List.map_take, List.map_drop, irow, brow, b8of_row, List.map_cons, List.map_nil, b8of_wrap, Nd.encs_eq, Nd.enc, enc_13_node_kind, enc_node_checker, enc_node_inner, enc_diff_grid, enc_s_int, enc_node_open, enc_2_int, enc_string])).symm
      refine And.intro (show List.map brow [b8of (IntKind.u8.wrap (IntKind.i64.wrap (48 + n7)))] = ((List.map brow [b8of (IntKind.u8.wrap (IntKind.i64.wrap (48 + n7)))]).map browOf).map brow from by rw [brow_back]) ?_
      intro s12 hs12
      obtain rfl : [b8of (IntKind.u8.wrap (IntKind.i64.wrap (48 + n7)))] = s12 := (hs12.trans (brow_back _)).symm
      obtain ⟨hq, h⟩ := req_out h
      refine And.intro (Nat.le_trans hq (by decide)) ?_
      show Tri _ _ _ _
      refine tri_ret ?_
      have hy := Option.some.inj h
      subst hy
      unfold Gives
      exact ⟨_, Le.refl _ _, rfl, rfl⟩
theorem all_r09_Int : ∀ n, PSound Tryd.prog 29 (pspec (R_r09_Int n)) := by
  intro n
  induction n with
  | zero => exact psound_none Tryd.call29 (fun xs r h => by obtain ⟨_, _, h, _⟩ := h; cases h)
  | succ n ih => exact step_r09_Int n ih
def S_r09_Int : PSpec := pspec fun xs r => ∃ n, R_r09_Int n xs r
theorem ok_r09_Int : PSound Tryd.prog 29 S_r09_Int := psound_all all_r09_Int

/- vinculum/vinculumref09.Quoted -/
def R_r09_Quoted (n : Nat) (xs : List AV) (r : Ret) : Prop := ∃ (a0 : List UInt8) (y0 : List UInt8), m_r09_Quoted n a0 = some y0 ∧ xs = [.s (.str a0)] ∧ r = .val (.s (.str y0))
def S_r09_Quoted : PSpec := pspec fun xs r => ∃ n, R_r09_Quoted n xs r
set_option maxHeartbeats 2000000 in
set_option maxRecDepth 100000 in
theorem ok_r09_Quoted : PSound Tryd.prog 30 S_r09_Quoted := by
  have gok : ∀ (f : Nat) (s : PSpec), (fun _ => none : Nat → Option PSpec) f = some s → PSound Tryd.prog f s := fun _ _ h => by cases h
  refine psound tokW Tryd.call30 Tryd.func30 rfl (fun xs r h => by obtain ⟨n, _, _, _, rfl, _⟩ := h; show 1 ≤ 35; decide) 35 rfl ?_
  rintro xs r w0 G0 ⟨n, s1, y0, h, rfl, rfl⟩ _
  rw [m_r09_Quoted] at h
  refine tri_seq ?_
  refine tri_region (by exact tokW) (by exact gok) [] [] rfl ?_
  show Tri _ _ _ _
  refine tri_seq ?_
  refine tri_region (by exact tokW) (by exact gok) [5] [] rfl ?_
  show Tri _ _ _ _
  refine tri_le (Le.rename [(0, 0)] [(0, .s (.str s1)), (3, .orow 0)] [(0, .row 5 1 ((List.map brow) [b8of 34]))] 1 ⟨rfl, rfl, trivial⟩ ⟨rfl, ⟨_, rfl, congrArg (Ob.row 5 1) (by simp [List.map_append, List.map_take, List.map_drop, irow, brow, b8of_row, List.map_cons, List.map_nil, b8of_wrap, Nd.encs_eq, Nd.enc, enc_13_node_kind, enc_node_checker, enc_node_inner, enc_diff_grid, enc_s_int, enc_node_open, enc_2_int, enc_string])⟩, trivial⟩ rfl rfl rfl rfl rfl) ?_
  refine tri_seq ?_
  refine tri_seq ?_
  refine tri_region (by exact tokW) (by exact gok) [] [] rfl ?_
  show Tri _ _ _ _
  obtain ⟨l5, hl, h⟩ := bind_out h
  refine tri_post ⟨ofL [(3, .orow 0)], ofH [(0, .row 5 1 ((List.map brow) l5))], 1⟩ ?_ (fun σ' hle => ?_)
  · refine tri_block (tri_loopI (X := Nat × Int × (List UInt8)) (fun y => match y with | (k, i3, l4) => ⟨ofL [(0, .s (.str s1)), (3, .orow 0), (4, .s (.int .i64 i3))], ofH [(0, .row 5 1 ((List.map brow) l4))], 1⟩) (fun y => m_r09_Quoted_l1 s1 y.1 y.2.1 y.2.2 = some l5) (fun y => y.1) (n, 0, [b8of 34]) hl ?_ ?_)
    · exact (Le.rename [(0, 0)] _ _ _ ⟨rfl, rfl, rfl, trivial⟩ ⟨rfl, ⟨_, rfl, rfl⟩, trivial⟩ rfl rfl rfl rfl rfl)
    · rintro ⟨k, i3, l4⟩ h
      cases k with
      | zero => cases h
      | succ k =>
        replace h : m_r09_Quoted_l1 s1 (k+1) i3 l4 = some l5 := h
        rw [m_r09_Quoted_l1] at h
        refine tri_seq ?_
        refine tri_seq ?_
        refine tri_region (by exact tokW) (by exact gok) [] [] rfl ?_
        show Tri _ _ _ _
        refine tri_cond rfl (fun hb => ?_) (fun hb => ?_)
        · replace h := bif_t hb h
          refine tri_skip ?_
          show Tri _ _ _ _
          refine tri_seq ?_
          obtain ⟨l6, hj, h⟩ := bind_out h
          refine tri_post ⟨ofL [(0, .s (.str s1)), (3, .orow 0), (4, .s (.int .i64 i3))], ofH [(0, .row 5 1 ((List.map brow) l6))], 1⟩ ?_ (fun σ' hle => ?_)
          · replace h := hj
            refine tri_block ?_
            refine tri_seq ?_
            refine tri_seq ?_
            obtain ⟨x7, hj, h⟩ := bind_out h
            refine tri_post ⟨ofL [(0, .s (.str s1)), (3, .orow 0), (4, .s (.int .i64 i3)), (21, .s (.bool x7))], ofH [(0, .row 5 1 ((List.map brow) l4))], 1⟩ ?_ (fun σ' hle => ?_)
            · replace h := hj
              refine tri_region (by exact tokW) (by exact gok) [] [14, 16, 19] rfl ?_
              obtain ⟨c8, hc8, h⟩ := bind_out h
              refine And.intro (str_ok hc8).1 ?_
              intro v9 hv9
              obtain rfl : (c8.toNat : Int) = v9 := (hv9.trans (str_ok hc8).2).symm
              intro b hb
              cases b with
              | true =>
                replace h := bif_t hb.symm h
                cases h
                exact (Le.rename [(0, 0)] _ _ _ ⟨rfl, rfl, rfl, rfl, trivial⟩ ⟨rfl, ⟨_, rfl, rfl⟩, trivial⟩ rfl rfl rfl rfl rfl)
              | false =>
                replace h := bif_f hb.symm h
                obtain ⟨c10, hc10, h⟩ := bind_out h
                refine And.intro (str_ok hc10).1 ?_
                intro v11 hv11
                obtain rfl : (c10.toNat : Int) = v11 := (hv11.trans (str_ok hc10).2).symm
                cases h
                exact (Le.rename [(0, 0)] _ _ _ ⟨rfl, rfl, rfl, rfl, trivial⟩ ⟨rfl, ⟨_, rfl, rfl⟩, trivial⟩ rfl rfl rfl rfl rfl)
            · show Tri _ _ _ _
              refine tri_le hle ?_
              obtain ⟨l12, hj, h⟩ := bind_out h
              refine tri_post ⟨ofL [(0, .s (.str s1)), (3, .orow 0), (4, .s (.int .i64 i3))], ofH [(0, .row 5 1 ((List.map brow) l12))], 1⟩ ?_ (fun σ' hle => ?_)
              · replace h := hj
                refine tri_cond rfl (fun hb => ?_) (fun hb => ?_)
                · replace h := bif_t hb h
                  refine tri_region (by exact tokW) (by exact gok) [24] [23] rfl ?_
                  intro r13 hr13
                  obtain rfl : (List.map brow) [b8of 92] = r13 := (hr13.trans (by simp [List.map_append, List.map_take, List.map_drop, irow, brow, b8of_row, List.map_cons, List.map_nil, b8of_wrap, Nd.encs_eq, Nd.enc, enc_13_node_kind, enc_node_checker, enc_node_inner, enc_diff_grid, enc_s_int, enc_node_open, enc_2_int, enc_string])).symm
                  obtain ⟨hq, h⟩ := req_out h
                  refine And.intro (show (((List.map brow) l4).length + ((List.map brow) [b8of 92]).length) * 1 ≤ 140737488355328 ∧ ((List.map brow) l4).length + ((List.map brow) [b8of 92]).length ≤ 9223372036854775807 from by simp only [List.length_append, List.length_cons, List.length_nil, List.length_map, rlen (fun _ => rfl)] at hq ⊢; omega) ?_
                  cases h
                  exact (Le.trans (Le.rename [(1, 0)] [(0, .s (.str s1)), (3, .orow 0), (4, .s (.int .i64 i3))] [(0, .row 5 1 ((List.map brow) (l4 ++ [b8of 92])))] 1 ⟨rfl, rfl, rfl, trivial⟩ ⟨rfl, ⟨_, rfl, congrArg (Ob.row 5 1) (by simp [List.map_append, List.map_take, List.map_drop, irow, brow, b8of_row, List.map_cons, List.map_nil, b8of_wrap, Nd.encs_eq, Nd.enc, enc_13_node_kind, enc_node_checker, enc_node_inner, enc_diff_grid, enc_s_int, enc_node_open, enc_2_int, enc_string])⟩, trivial⟩ rfl rfl rfl rfl rfl) (Le.rename [(0, 0)] _ _ _ ⟨rfl, rfl, rfl, trivial⟩ ⟨rfl, ⟨_, rfl, rfl⟩, trivial⟩ rfl rfl rfl rfl rfl))
                · replace h := bif_f hb h
                  refine tri_skip ?_
                  cases h
                  exact (Le.rename [(0, 0)] _ _ _ ⟨rfl, rfl, rfl, trivial⟩ ⟨rfl, ⟨_, rfl, rfl⟩, trivial⟩ rfl rfl rfl rfl rfl)
              · show Tri _ _ _ _
                refine tri_le hle ?_
                refine tri_region (by exact tokW) (by exact gok) [30] [28, 29] rfl ?_
                obtain ⟨c14, hc14, h⟩ := bind_out h
                refine And.intro (str_ok hc14).1 ?_
                intro v15 hv15
                obtain rfl : (c14.toNat : Int) = v15 := (hv15.trans (str_ok hc14).2).symm
                intro r16 hr16
                obtain rfl : (List.map brow) [c14] = r16 := (hr16.trans (by simp [List.map_append, List.map_take, List.map_drop, irow, brow, b8of_row, List.map_cons, List.map_nil, b8of_wrap, Nd.encs_eq, Nd.enc, enc_13_node_kind, enc_node_checker, enc_node_inner, enc_diff_grid, enc_s_int, enc_node_open, enc_2_int, enc_string])).symm
                obtain ⟨hq, h⟩ := req_out h
                refine And.intro (show (((List.map brow) l12).length + ((List.map brow) [c14]).length) * 1 ≤ 140737488355328 ∧ ((List.map brow) l12).length + ((List.map brow) [c14]).length ≤ 9223372036854775807 from by simp only [List.length_append, List.length_cons, List.length_nil, List.length_map, rlen (fun _ => rfl)] at hq ⊢; omega) ?_
                cases h
                exact (Le.trans (Le.rename [(1, 0)] [(0, .s (.str s1)), (3, .orow 0), (4, .s (.int .i64 i3))] [(0, .row 5 1 ((List.map brow) (l12 ++ [c14])))] 1 ⟨rfl, rfl, rfl, trivial⟩ ⟨rfl, ⟨_, rfl, congrArg (Ob.row 5 1) (by simp [List.map_append, List.map_take, List.map_drop, irow, brow, b8of_row, List.map_cons, List.map_nil, b8of_wrap, Nd.encs_eq, Nd.enc, enc_13_node_kind, enc_node_checker, enc_node_inner, enc_diff_grid, enc_s_int, enc_node_open, enc_2_int, enc_string])⟩, trivial⟩ rfl rfl rfl rfl rfl) (Le.rename [(0, 0)] _ _ _ ⟨rfl, rfl, rfl, trivial⟩ ⟨rfl, ⟨_, rfl, rfl⟩, trivial⟩ rfl rfl rfl rfl rfl))
          · show Tri _ _ _ _
            refine tri_le hle ?_
            refine tri_region (by exact tokW) (by exact gok) [] [] rfl ?_
            refine ⟨(k, IntKind.i64.wrap (i3 + 1), l6), h, (Le.rename [(0, 0)] _ _ _ ⟨rfl, rfl, rfl, trivial⟩ ⟨rfl, ⟨_, rfl, rfl⟩, trivial⟩ rfl rfl rfl rfl rfl), Nat.lt_succ_self k⟩
        · replace h := bif_f hb h
          refine tri_exit ?_
          cases h
          exact (Le.rename [(0, 0)] _ _ _ ⟨rfl, trivial⟩ ⟨rfl, ⟨_, rfl, rfl⟩, trivial⟩ rfl rfl rfl rfl rfl)
  · show Tri _ _ _ _
    refine tri_le hle ?_
    refine tri_seq ?_
    refine tri_region (by exact tokW) (by exact gok) [33] [32, 34] rfl ?_
    intro r17 hr17
    obtain rfl : (List.map brow) [b8of 34] = r17 := (hr17.trans (by simp [List.map_append, List.map_take, List.map_drop, irow, brow, b8of_row, List.map_cons, List.map_nil, b8of_wrap, Nd.encs_eq, Nd.enc, enc_13_node_kind, enc_node_checker, enc_node_inner, enc_diff_grid, enc_s_int, enc_node_open, enc_2_int, enc_string])).symm
    obtain ⟨hq, h⟩ := req_out h
    refine And.intro (show (((List.map brow) l5).length + ((List.map brow) [b8of 34]).length) * 1 ≤ 140737488355328 ∧ ((List.map brow) l5).length + ((List.map brow) [b8of 34]).length ≤ 9223372036854775807 from by simp only [List.length_append, List.length_cons, List.length_nil, List.length_map, rlen (fun _ => rfl)] at hq ⊢; omega) ?_
    have hraw : ((List.map brow) l5) ++ ((List.map brow) [b8of 34]) = (List.map brow) (l5 ++ [b8of 34]) := (show ((List.map brow) l5) ++ ((List.map brow) [b8of 34]) = (List.map brow) (l5 ++ [b8of 34]) from (by simp [List.map_append, List.map_take, List.map_drop, irow, brow, b8of_row, List.map_cons, List.map_nil, b8of_wrap, Nd.encs_eq, Nd.enc, enc_13_node_kind, enc_node_checker, enc_node_inner, enc_diff_grid, enc_s_int, enc_node_open, enc_2_int, enc_string]))
    refine And.intro (show ((List.map brow) l5) ++ ((List.map brow) [b8of 34]) = ((((List.map brow) l5) ++ ((List.map brow) [b8of 34])).map browOf).map brow from by rw [hraw, brow_back]) ?_
    intro s18 hs18
    obtain rfl : l5 ++ [b8of 34] = s18 := (hs18.trans ((congrArg (List.map browOf) hraw).trans (brow_back _))).symm
    show Tri _ _ _ _
    refine tri_le (Le.rename [] [(2, .s (.str (l5 ++ [b8of 34])))] [] 0 ⟨rfl, trivial⟩ trivial rfl rfl rfl rfl rfl) ?_
    refine tri_ret ?_
    have hy := Option.some.inj h
    subst hy
    unfold Gives
    exact ⟨_, Le.refl _ _, rfl, rfl⟩

/- vinculum/vinculumref09.Dump -/
def R_r09_Dump (n : Nat) (xs : List AV) (r : Ret) : Prop := ∃ (a0 : Nd) (y0 : List UInt8), m_r09_Dump n a0 = some y0 ∧ xs = [.agg ((Nd.enc a0).map .s)] ∧ r = .val (.s (.str y0))
set_option maxHeartbeats 2000000 in
set_option maxRecDepth 100000 in
theorem step_r09_Dump (n : Nat) (ih : PSound Tryd.prog 22 (pspec (R_r09_Dump n))) : PSound Tryd.prog 22 (pspec (R_r09_Dump (n + 1))) := by
  have gok : ∀ f s, look? f [(29, S_r09_Int), (30, S_r09_Quoted), (22, pspec (R_r09_Dump n))] = some s → PSound Tryd.prog f s := look_all (by
    simp only [List.forall_mem_cons]
    exact ⟨ok_r09_Int, ok_r09_Quoted, ih, by simp⟩)
  refine psound tokW Tryd.call22 Tryd.func22 rfl (fun xs r h => by obtain ⟨_, _, _, rfl, _⟩ := h; show 1 ≤ 69; decide) 69 rfl ?_
  rintro xs r w0 G0 ⟨⟨a1_kind, a1_text, a1_cols, a1_kids⟩, y0, h, rfl, rfl⟩ _
  rw [m_r09_Dump] at h
  refine tri_seq ?_
  refine tri_region (by exact tokW) (by exact gok) [] [] rfl ?_
  show Tri _ _ _ _
  refine tri_seq ?_
  refine tri_region (by exact tokW) (by exact gok) [3] [] rfl ?_
  show Tri _ _ _ _
  refine tri_le (Le.giveBox 0 [.str [], .str [114, 111, 119], .str [115, 121, 109], .str [110, 117, 109], .str [116, 101, 120, 116], .str [102, 114, 97, 99], .str [114, 111, 111, 116], .str [115, 117, 98], .str [115, 117, 112], .str [98, 111, 116, 104], .str [97, 99, 99, 101, 110, 116], .str [102, 101, 110, 99, 101], .str [109, 97, 116, 114, 105, 120]] rfl rfl) ?_
  refine tri_seq ?_
  refine tri_region (by exact tokW) (by exact gok) [] [] rfl ?_
  obtain ⟨y2, hy2, h⟩ := bind_out h
  refine ⟨_, ⟨_, _, _, hy2, rfl, rfl⟩, ?_⟩
  obtain ⟨hq, h⟩ := req_out h
  refine And.intro (Nat.le_trans hq (by decide)) ?_
  show Tri _ _ _ _
  refine tri_seq ?_
  refine tri_seq ?_
  obtain ⟨x3, hj, h⟩ := bind_out h
  refine tri_post ⟨ofL [(1, .s (.pt [.int .i64 a1_kind, .str a1_text, .int .i64 a1_cols, .sl 4 (Nd.encs a1_kids)])), (3, .s (.pt [.str [], .str [114, 111, 119], .str [115, 121, 109], .str [110, 117, 109], .str [116, 101, 120, 116], .str [102, 114, 97, 99], .str [114, 111, 111, 116], .str [115, 117, 98], .str [115, 117, 112], .str [98, 111, 116, 104], .str [97, 99, 99, 101, 110, 116], .str [102, 101, 110, 99, 101], .str [109, 97, 116, 114, 105, 120]])), (4, .s (.str ([110, 111, 100, 101] ++ y2))), (18, .s (.bool x3))], fun _ => none, 0⟩ ?_ (fun σ' hle => ?_)
  · replace h := hj
    refine tri_region (by exact tokW) (by exact gok) [] [14] rfl ?_
    intro b hb
    cases b with
    | true =>
      replace h := bif_t hb.symm h
      cases h
      exact (Le.rename [] _ [] 0 ⟨rfl, rfl, rfl, rfl, trivial⟩ trivial rfl rfl rfl rfl rfl)
    | false =>
      replace h := bif_f hb.symm h
      cases h
      exact (Le.rename [] _ [] 0 ⟨rfl, rfl, rfl, rfl, trivial⟩ trivial rfl rfl rfl rfl rfl)
  · show Tri _ _ _ _
    refine tri_le hle ?_
    obtain ⟨x4, hj, h⟩ := bind_out h
    refine tri_post ⟨ofL [(1, .s (.pt [.int .i64 a1_kind, .str a1_text, .int .i64 a1_cols, .sl 4 (Nd.encs a1_kids)])), (4, .s (.str x4))], fun _ => none, 0⟩ ?_ (fun σ' hle => ?_)
    · replace h := hj
      refine tri_cond rfl (fun hb => ?_) (fun hb => ?_)
      · replace h := bif_t hb h
        refine tri_region (by exact tokW) (by exact gok) [] [20] rfl ?_
        intro vsp hvsp
        cases hc : (a1_kind == 1) with
        | true =>
          replace h := bif_t hc h
          obtain rfl : (1 : Int) = vsp := (hvsp.trans (eq_of_beq hc)).symm
          refine And.intro (by decide) ?_
          cases h
          exact (Le.forget _ ⟨rfl, rfl, trivial⟩)
        | false =>
          replace h := bif_f hc h
          cases hc : (a1_kind == 2) with
          | true =>
            replace h := bif_t hc h
            obtain rfl : (2 : Int) = vsp := (hvsp.trans (eq_of_beq hc)).symm
            refine And.intro (by decide) ?_
            cases h
            exact (Le.forget _ ⟨rfl, rfl, trivial⟩)
          | false =>
            replace h := bif_f hc h
            cases hc : (a1_kind == 3) with
            | true =>
              replace h := bif_t hc h
              obtain rfl : (3 : Int) = vsp := (hvsp.trans (eq_of_beq hc)).symm
              refine And.intro (by decide) ?_
              cases h
              exact (Le.forget _ ⟨rfl, rfl, trivial⟩)
            | false =>
              replace h := bif_f hc h
              cases hc : (a1_kind == 4) with
              | true =>
                replace h := bif_t hc h
                obtain rfl : (4 : Int) = vsp := (hvsp.trans (eq_of_beq hc)).symm
                refine And.intro (by decide) ?_
                cases h
                exact (Le.forget _ ⟨rfl, rfl, trivial⟩)
              | false =>
                replace h := bif_f hc h
                cases hc : (a1_kind == 5) with
                | true =>
                  replace h := bif_t hc h
                  obtain rfl : (5 : Int) = vsp := (hvsp.trans (eq_of_beq hc)).symm
                  refine And.intro (by decide) ?_
                  cases h
                  exact (Le.forget _ ⟨rfl, rfl, trivial⟩)
                | false =>
                  replace h := bif_f hc h
                  cases hc : (a1_kind == 6) with
                  | true =>
                    replace h := bif_t hc h
                    obtain rfl : (6 : Int) = vsp := (hvsp.trans (eq_of_beq hc)).symm
                    refine And.intro (by decide) ?_
                    cases h
                    exact (Le.forget _ ⟨rfl, rfl, trivial⟩)
                  | false =>
                    replace h := bif_f hc h
                    cases hc : (a1_kind == 7) with
                    | true =>
                      replace h := bif_t hc h
                      obtain rfl : (7 : Int) = vsp := (hvsp.trans (eq_of_beq hc)).symm
                      refine And.intro (by decide) ?_
                      cases h
                      exact (Le.forget _ ⟨rfl, rfl, trivial⟩)
                    | false =>
                      replace h := bif_f hc h
                      cases hc : (a1_kind == 8) with
                      | true =>
                        replace h := bif_t hc h
                        obtain rfl : (8 : Int) = vsp := (hvsp.trans (eq_of_beq hc)).symm
                        refine And.intro (by decide) ?_
                        cases h
                        exact (Le.forget _ ⟨rfl, rfl, trivial⟩)
                      | false =>
                        replace h := bif_f hc h
                        cases hc : (a1_kind == 9) with
                        | true =>
                          replace h := bif_t hc h
                          obtain rfl : (9 : Int) = vsp := (hvsp.trans (eq_of_beq hc)).symm
                          refine And.intro (by decide) ?_
                          cases h
                          exact (Le.forget _ ⟨rfl, rfl, trivial⟩)
                        | false =>
                          replace h := bif_f hc h
                          cases hc : (a1_kind == 10) with
                          | true =>
                            replace h := bif_t hc h
                            obtain rfl : (10 : Int) = vsp := (hvsp.trans (eq_of_beq hc)).symm
                            refine And.intro (by decide) ?_
                            cases h
                            exact (Le.forget _ ⟨rfl, rfl, trivial⟩)
                          | false =>
                            replace h := bif_f hc h
                            cases hc : (a1_kind == 11) with
                            | true =>
                              replace h := bif_t hc h
                              obtain rfl : (11 : Int) = vsp := (hvsp.trans (eq_of_beq hc)).symm
                              refine And.intro (by decide) ?_
                              cases h
                              exact (Le.forget _ ⟨rfl, rfl, trivial⟩)
                            | false =>
                              replace h := bif_f hc h
                              cases hc : (a1_kind == 12) with
                              | true =>
                                replace h := bif_t hc h
                                obtain rfl : (12 : Int) = vsp := (hvsp.trans (eq_of_beq hc)).symm
                                refine And.intro (by decide) ?_
                                cases h
                                exact (Le.forget _ ⟨rfl, rfl, trivial⟩)
                              | false =>
                                replace h := bif_f hc h
                                cases h
      · replace h := bif_f hb h
        refine tri_skip ?_
        cases h
        exact (Le.forget _ ⟨rfl, rfl, trivial⟩)
    · show Tri _ _ _ _
      refine tri_le hle ?_
      refine tri_seq ?_
      refine tri_seq ?_
      refine tri_region (by exact tokW) (by exact gok) [] [] rfl ?_
      show Tri _ _ _ _
      obtain ⟨x5, hj, h⟩ := bind_out h
      refine tri_post ⟨ofL [(1, .s (.pt [.int .i64 a1_kind, .str a1_text, .int .i64 a1_cols, .sl 4 (Nd.encs a1_kids)])), (4, .s (.str x5))], fun _ => none, 0⟩ ?_ (fun σ' hle => ?_)
      · replace h := hj
        refine tri_cond rfl (fun hb => ?_) (fun hb => ?_)
        · replace h := bif_t hb h
          refine tri_region (by exact tokW) (by exact gok) [] [] rfl ?_
          obtain ⟨hq, h⟩ := req_out h
          refine And.intro (Nat.le_trans hq (by decide)) ?_
          obtain ⟨y6, hy6, h⟩ := bind_out h
          refine ⟨_, ⟨_, _, _, hy6, rfl, rfl⟩, ?_⟩
          obtain ⟨hq, h⟩ := req_out h
          refine And.intro (Nat.le_trans hq (by decide)) ?_
          cases h
          exact (Le.forget _ ⟨rfl, rfl, trivial⟩)
        · replace h := bif_f hb h
          refine tri_skip ?_
          cases h
          exact (Le.forget _ ⟨rfl, rfl, trivial⟩)
      · show Tri _ _ _ _
        refine tri_le hle ?_
        refine tri_seq ?_
        refine tri_seq ?_
        refine tri_region (by exact tokW) (by exact gok) [] [] rfl ?_
        show Tri _ _ _ _
        obtain ⟨x7, hj, h⟩ := bind_out h
        refine tri_post ⟨ofL [(1, .s (.pt [.int .i64 a1_kind, .str a1_text, .int .i64 a1_cols, .sl 4 (Nd.encs a1_kids)])), (4, .s (.str x7))], fun _ => none, 0⟩ ?_ (fun σ' hle => ?_)
        · replace h := hj
          refine tri_cond rfl (fun hb => ?_) (fun hb => ?_)
          · replace h := bif_t hb h
            refine tri_region (by exact tokW) (by exact gok) [] [] rfl ?_
            obtain ⟨hq, h⟩ := req_out h
            refine And.intro (Nat.le_trans hq (by decide)) ?_
            obtain ⟨y8, hy8, h⟩ := bind_out h
            refine ⟨_, ⟨_, _, _, hy8, rfl, rfl⟩, ?_⟩
            obtain ⟨hq, h⟩ := req_out h
            refine And.intro (Nat.le_trans hq (by decide)) ?_
            cases h
            exact (Le.forget _ ⟨rfl, rfl, trivial⟩)
          · replace h := bif_f hb h
            refine tri_skip ?_
            cases h
            exact (Le.forget _ ⟨rfl, rfl, trivial⟩)
        · show Tri _ _ _ _
          refine tri_le hle ?_
          refine tri_seq ?_
          refine tri_seq ?_
          refine tri_region (by exact tokW) (by exact gok) [] [43] rfl ?_
          intro n9 hn9
          obtain rfl : (a1_kids.length : Int) = n9 := (hn9.trans (congrArg (fun m : Nat => (m : Int)) (rlen Nd.encs_eq a1_kids))).symm
          show Tri _ _ _ _
          refine tri_cond rfl (fun hb => ?_) (fun hb => ?_)
          · replace h := bif_t hb h
            refine tri_seq ?_
            refine tri_region (by exact tokW) (by exact gok) [] [] rfl ?_
            show Tri _ _ _ _
            refine tri_ret ?_
            have hy := Option.some.inj h
            subst hy
            unfold Gives
            exact ⟨_, Le.refl _ _, rfl, rfl⟩
          · replace h := bif_f hb h
            refine tri_skip ?_
            show Tri _ _ _ _
            refine tri_seq ?_
            refine tri_region (by exact tokW) (by exact gok) [] [] rfl ?_
            obtain ⟨hq, h⟩ := req_out h
            refine And.intro (Nat.le_trans hq (by decide)) ?_
            show Tri _ _ _ _
            refine tri_seq ?_
            refine tri_seq ?_
            refine tri_region (by exact tokW) (by exact gok) [] [] rfl ?_
            show Tri _ _ _ _
            obtain ⟨x12, hl, h⟩ := bind_out h
            refine tri_post ⟨ofL [(4, .s (.str x12))], fun _ => none, 0⟩ ?_ (fun σ' hle => ?_)
            · refine tri_block (tri_loopI (X := Nat × (List UInt8) × Int) (fun y => match y with | (k, x10, x11) => ⟨ofL [(1, .s (.pt [.int .i64 a1_kind, .str a1_text, .int .i64 a1_cols, .sl 4 (Nd.encs a1_kids)])), (4, .s (.str x10)), (5, .s (.int .i64 x11))], fun _ => none, 0⟩) (fun y => m_r09_Dump_l1 (m_r09_Dump n) a1_kids y.1 y.2.1 y.2.2 = some x12) (fun y => y.1) (n, x7 ++ [40], 0) hl ?_ ?_)
              · exact (Le.forget _ ⟨rfl, rfl, rfl, trivial⟩)
              · rintro ⟨k, x10, x11⟩ h
                cases k with
                | zero => cases h
                | succ k =>
                  replace h : m_r09_Dump_l1 (m_r09_Dump n) a1_kids (k+1) x10 x11 = some x12 := h
                  rw [m_r09_Dump_l1] at h
                  refine tri_seq ?_
                  refine tri_seq ?_
                  refine tri_region (by exact tokW) (by exact gok) [] [51] rfl ?_
                  intro n13 hn13
                  obtain rfl : (a1_kids.length : Int) = n13 := (hn13.trans (congrArg (fun m : Nat => (m : Int)) (rlen Nd.encs_eq a1_kids))).symm
                  show Tri _ _ _ _
                  refine tri_cond rfl (fun hb => ?_) (fun hb => ?_)
                  · replace h := bif_t hb h
                    refine tri_skip ?_
                    show Tri _ _ _ _
                    refine tri_seq ?_
                    obtain ⟨x14, hj, h⟩ := bind_out h
                    refine tri_post ⟨ofL [(1, .s (.pt [.int .i64 a1_kind, .str a1_text, .int .i64 a1_cols, .sl 4 (Nd.encs a1_kids)])), (4, .s (.str x14)), (5, .s (.int .i64 x11))], fun _ => none, 0⟩ ?_ (fun σ' hle => ?_)
                    · replace h := hj
                      refine tri_block ?_
                      refine tri_seq ?_
                      refine tri_seq ?_
                      refine tri_region (by exact tokW) (by exact gok) [] [] rfl ?_
                      show Tri _ _ _ _
                      obtain ⟨x15, hj, h⟩ := bind_out h
                      refine tri_post ⟨ofL [(1, .s (.pt [.int .i64 a1_kind, .str a1_text, .int .i64 a1_cols, .sl 4 (Nd.encs a1_kids)])), (4, .s (.str x15)), (5, .s (.int .i64 x11))], fun _ => none, 0⟩ ?_ (fun σ' hle => ?_)
                      · replace h := hj
                        refine tri_cond rfl (fun hb => ?_) (fun hb => ?_)
                        · replace h := bif_t hb h
                          refine tri_region (by exact tokW) (by exact gok) [] [] rfl ?_
                          obtain ⟨hq, h⟩ := req_out h
                          refine And.intro (Nat.le_trans hq (by decide)) ?_
                          cases h
                          exact (Le.forget _ ⟨rfl, rfl, rfl, trivial⟩)
                        · replace h := bif_f hb h
                          refine tri_skip ?_
                          cases h
                          exact (Le.forget _ ⟨rfl, rfl, rfl, trivial⟩)
                      · show Tri _ _ _ _
                        refine tri_le hle ?_
                        refine tri_region (by exact tokW) (by exact gok) [] [63] rfl ?_
                        obtain ⟨⟨e16_kind, e16_text, e16_cols, e16_kids⟩, he16, h⟩ := bind_out h
                        refine And.intro (at_ok Nd.encs_eq he16).1 ?_
                        intro r17 hr17
                        obtain rfl : [.int .i64 e16_kind, .str e16_text, .int .i64 e16_cols, .sl 4 (Nd.encs e16_kids)] = r17 := (hr17.trans (at_ok Nd.encs_eq he16).2.1).symm
                        obtain ⟨y18, hy18, h⟩ := bind_out h
                        refine ⟨_, ⟨_, _, hy18, rfl, rfl⟩, ?_⟩
                        obtain ⟨hq, h⟩ := req_out h
                        refine And.intro (Nat.le_trans hq (by decide)) ?_
                        cases h
                        exact (Le.forget _ ⟨rfl, rfl, rfl, trivial⟩)
                    · show Tri _ _ _ _
                      refine tri_le hle ?_
                      refine tri_region (by exact tokW) (by exact gok) [] [] rfl ?_
                      refine ⟨(k, x14, IntKind.i64.wrap (x11 + 1)), h, (Le.forget _ ⟨rfl, rfl, rfl, trivial⟩), Nat.lt_succ_self k⟩
                  · replace h := bif_f hb h
                    refine tri_exit ?_
                    cases h
                    exact (Le.forget _ ⟨rfl, trivial⟩)
            · show Tri _ _ _ _
              refine tri_le hle ?_
              refine tri_seq ?_
              refine tri_region (by exact tokW) (by exact gok) [] [] rfl ?_
              obtain ⟨hq, h⟩ := req_out h
              refine And.intro (Nat.le_trans hq (by decide)) ?_
              show Tri _ _ _ _
              refine tri_ret ?_
              have hy := Option.some.inj h
              subst hy
              unfold Gives
              exact ⟨_, Le.refl _ _, rfl, rfl⟩
theorem all_r09_Dump : ∀ n, PSound Tryd.prog 22 (pspec (R_r09_Dump n)) := by
  intro n
  induction n with
  | zero => exact psound_none Tryd.call22 (fun xs r h => by obtain ⟨_, _, h, _⟩ := h; cases h)
  | succ n ih => exact step_r09_Dump n ih
def S_r09_Dump : PSpec := pspec fun xs r => ∃ n, R_r09_Dump n xs r
theorem ok_r09_Dump : PSound Tryd.prog 22 S_r09_Dump := psound_all all_r09_Dump

/- vinculum/vinculumref16.Pairs -/
def R_r16_Pairs (n : Nat) (xs : List AV) (r : Ret) : Prop := ∃ (a0 : List Nd) (a1 : List Nd) (y0 : List (Int × Int)), m_r16_Pairs n a0 a1 = some y0 ∧ xs = [.s (.sl 4 (Nd.encs a0)), .s (.sl 4 (Nd.encs a1))] ∧ r = .row 34 2 ((List.map enc_2_int) y0)
def S_r16_Pairs : PSpec := pspec fun xs r => ∃ n, R_r16_Pairs n xs r
set_option maxHeartbeats 2000000 in
set_option maxRecDepth 100000 in
theorem ok_r16_Pairs : PSound Tryd.prog 10 S_r16_Pairs := by
  have gok : ∀ f s, look? f [(19, S_r16_table), (17, S_r09_Count), (20, S_r16_Alike), (21, S_r16_pair), (22, S_r09_Dump)] = some s → PSound Tryd.prog f s := look_all (by
    simp only [List.forall_mem_cons]
    exact ⟨ok_r16_table, ok_r09_Count, ok_r16_Alike, ok_r16_pair, ok_r09_Dump, by simp⟩)
  refine psound tokW Tryd.call10 Tryd.func10 rfl (fun xs r h => by obtain ⟨n, _, _, _, _, rfl, _⟩ := h; show 2 ≤ 141; decide) 141 rfl ?_
  rintro xs r w0 G0 ⟨n, a1, a2, y0, h, rfl, rfl⟩ _
  rw [m_r16_Pairs] at h
  refine tri_seq ?_
  refine tri_region (by exact tokW) (by exact gok) [4] [] rfl ?_
  show Tri _ _ _ _
  refine tri_le (Le.rename [] [(0, .s (.sl 4 (Nd.encs a1))), (1, .s (.sl 4 (Nd.encs a2)))] [] 0 ⟨rfl, rfl, trivial⟩ trivial rfl rfl rfl rfl rfl) ?_
  refine tri_seq ?_
  refine tri_region (by exact tokW) (by exact gok) [] [] rfl ?_
  obtain ⟨y3, hy3, h⟩ := bind_out h
  refine ⟨_, ⟨_, _, _, _, hy3, rfl, rfl⟩, ?_⟩
  show Tri _ _ _ _
  refine tri_seq ?_
  refine tri_region (by exact tokW) (by exact gok) [6] [] rfl ?_
  show Tri _ _ _ _
  refine tri_le (Le.rename [(0, 0)] [(0, .s (.sl 4 (Nd.encs a1))), (1, .s (.sl 4 (Nd.encs a2))), (5, .s (.sl 1 ((List.map enc_s_int) y3))), (6, .orow 0)] [(0, .row 34 2 ((List.map enc_2_int) []))] 1 ⟨rfl, rfl, rfl, rfl, trivial⟩ ⟨rfl, ⟨_, rfl, congrArg (Ob.row 34 2) (by simp [List.map_append, List.map_take, List.map_drop, irow, brow, b8of_row, List.map_cons, List.map_nil, b8of_wrap, Nd.encs_eq, Nd.enc, enc_13_node_kind, enc_node_checker, enc_node_inner, enc_diff_grid, enc_s_int, enc_node_open, enc_2_int, enc_string])⟩, trivial⟩ rfl rfl rfl rfl rfl) ?_
  refine tri_seq ?_
  refine tri_region (by exact tokW) (by exact gok) [] [] rfl ?_
  show Tri _ _ _ _
  refine tri_seq ?_
  obtain ⟨l8, hl, h⟩ := bind_out h
  refine tri_post ⟨ofL [(6, .orow 0)], ofH [(0, .row 34 2 ((List.map enc_2_int) l8))], 1⟩ ?_ (fun σ' hle => ?_)
  · refine tri_block (tri_loopI (X := Nat × Int × Int × (List (Int × Int))) (fun y => match y with | (k, x5, x6, l7) => ⟨ofL [(0, .s (.sl 4 (Nd.encs a1))), (1, .s (.sl 4 (Nd.encs a2))), (5, .s (.sl 1 ((List.map enc_s_int) y3))), (6, .orow 0), (7, .s (.int .i64 x5)), (8, .s (.int .i64 x6))], ofH [(0, .row 34 2 ((List.map enc_2_int) l7))], 1⟩) (fun y => m_r16_Pairs_l1 n a1 a2 y3 y.1 y.2.1 y.2.2.1 y.2.2.2 = some l8) (fun y => y.1) (n, 0, 0, []) hl ?_ ?_)
    · exact (Le.rename [(0, 0)] _ _ _ ⟨rfl, rfl, rfl, rfl, rfl, rfl, trivial⟩ ⟨rfl, ⟨_, rfl, rfl⟩, trivial⟩ rfl rfl rfl rfl rfl)
    · rintro ⟨k, x5, x6, l7⟩ h
      cases k with
      | zero => cases h
      | succ k =>
        replace h : m_r16_Pairs_l1 n a1 a2 y3 (k+1) x5 x6 l7 = some l8 := h
        rw [m_r16_Pairs_l1] at h
        refine tri_seq ?_
        refine tri_seq ?_
        obtain ⟨x9, hj, h⟩ := bind_out h
        refine tri_post ⟨ofL [(0, .s (.sl 4 (Nd.encs a1))), (1, .s (.sl 4 (Nd.encs a2))), (5, .s (.sl 1 ((List.map enc_s_int) y3))), (6, .orow 0), (7, .s (.int .i64 x5)), (8, .s (.int .i64 x6)), (23, .s (.bool x9))], ofH [(0, .row 34 2 ((List.map enc_2_int) l7))], 1⟩ ?_ (fun σ' hle => ?_)
        · replace h := hj
          refine tri_region (by exact tokW) (by exact gok) [] [16, 18, 21] rfl ?_
          intro n10 hn10
          obtain rfl : (a1.length : Int) = n10 := (hn10.trans (congrArg (fun m : Nat => (m : Int)) (rlen Nd.encs_eq a1))).symm
          intro b hb
          cases b with
          | true =>
            replace h := bif_t hb.symm h
            intro n11 hn11
            obtain rfl : (a2.length : Int) = n11 := (hn11.trans (congrArg (fun m : Nat => (m : Int)) (rlen Nd.encs_eq a2))).symm
            cases h
            exact (Le.rename [(0, 0)] _ _ _ ⟨rfl, rfl, rfl, rfl, rfl, rfl, rfl, trivial⟩ ⟨rfl, ⟨_, rfl, rfl⟩, trivial⟩ rfl rfl rfl rfl rfl)
          | false =>
            replace h := bif_f hb.symm h
            cases h
            exact (Le.rename [(0, 0)] _ _ _ ⟨rfl, rfl, rfl, rfl, rfl, rfl, rfl, trivial⟩ ⟨rfl, ⟨_, rfl, rfl⟩, trivial⟩ rfl rfl rfl rfl rfl)
        · show Tri _ _ _ _
          refine tri_le hle ?_
          refine tri_cond rfl (fun hb => ?_) (fun hb => ?_)
          · replace h := bif_t hb h
            refine tri_skip ?_
            show Tri _ _ _ _
            refine tri_block ?_
            refine tri_seq ?_
            refine tri_drawn (by exact tokW) (by exact gok) (by exact mixed) [] [26, 32, 35, 40, 43] [] rfl (by decide +kernel) ?_
            obtain ⟨⟨e12_kind, e12_text, e12_cols, e12_kids⟩, he12, h⟩ := bind_out h
            refine And.intro (at_ok Nd.encs_eq he12).1 ?_
            intro r13 hr13
            obtain rfl : [.int .i64 e12_kind, .str e12_text, .int .i64 e12_cols, .sl 4 (Nd.encs e12_kids)] = r13 := (hr13.trans (at_ok Nd.encs_eq he12).2.1).symm
            obtain ⟨y14, hy14, h⟩ := bind_out h
            refine ⟨_, ⟨_, _, _, hy14, rfl, rfl⟩, ?_⟩
            obtain ⟨e15, he15, h⟩ := bind_out h
            refine And.intro (at_ok (fun _ => rfl) he15).1 ?_
            intro r16 hr16
            obtain rfl : [.sl 1 ((List.map (irow .i64)) e15)] = r16 := (hr16.trans (at_ok (fun _ => rfl) he15).2.1).symm
            obtain ⟨e17, he17, h⟩ := bind_out h
            refine And.intro (at_ok (fun _ => rfl) he17).1 ?_
            intro r18 hr18
            obtain rfl : [.int .i64 e17] = r18 := (hr18.trans (at_ok (fun _ => rfl) he17).2.1).symm
            obtain ⟨e19, he19, h⟩ := bind_out h
            refine And.intro (at_ok (fun _ => rfl) he19).1 ?_
            intro r20 hr20
            obtain rfl : [.sl 1 ((List.map (irow .i64)) e19)] = r20 := (hr20.trans (at_ok (fun _ => rfl) he19).2.1).symm
            obtain ⟨e21, he21, h⟩ := bind_out h
            refine And.intro (at_ok (fun _ => rfl) he21).1 ?_
            intro r22 hr22
            obtain rfl : [.int .i64 e21] = r22 := (hr22.trans (at_ok (fun _ => rfl) he21).2.1).symm
            show Tri _ _ _ _
            refine tri_seq ?_
            refine tri_drawn (by exact tokW) (by exact gok) (by exact mixed) [] [48, 53, 57, 62, 65] [] rfl (by decide +kernel) ?_
            obtain ⟨⟨e23_kind, e23_text, e23_cols, e23_kids⟩, he23, h⟩ := bind_out h
            refine And.intro (at_ok Nd.encs_eq he23).1 ?_
            intro r24 hr24
            obtain rfl : [.int .i64 e23_kind, .str e23_text, .int .i64 e23_cols, .sl 4 (Nd.encs e23_kids)] = r24 := (hr24.trans (at_ok Nd.encs_eq he23).2.1).symm
            obtain ⟨y25, hy25, h⟩ := bind_out h
            refine ⟨_, ⟨_, _, _, hy25, rfl, rfl⟩, ?_⟩
            obtain ⟨e26, he26, h⟩ := bind_out h
            refine And.intro (at_ok (fun _ => rfl) he26).1 ?_
            intro r27 hr27
            obtain rfl : [.sl 1 ((List.map (irow .i64)) e26)] = r27 := (hr27.trans (at_ok (fun _ => rfl) he26).2.1).symm
            obtain ⟨e28, he28, h⟩ := bind_out h
            refine And.intro (at_ok (fun _ => rfl) he28).1 ?_
            intro r29 hr29
            obtain rfl : [.int .i64 e28] = r29 := (hr29.trans (at_ok (fun _ => rfl) he28).2.1).symm
            obtain ⟨e30, he30, h⟩ := bind_out h
            refine And.intro (at_ok (fun _ => rfl) he30).1 ?_
            intro r31 hr31
            obtain rfl : [.sl 1 ((List.map (irow .i64)) e30)] = r31 := (hr31.trans (at_ok (fun _ => rfl) he30).2.1).symm
            obtain ⟨e32, he32, h⟩ := bind_out h
            refine And.intro (at_ok (fun _ => rfl) he32).1 ?_
            intro r33 hr33
            obtain rfl : [.int .i64 e32] = r33 := (hr33.trans (at_ok (fun _ => rfl) he32).2.1).symm
            show Tri _ _ _ _
            refine tri_block ?_
            refine tri_seq ?_
            obtain ⟨x34, hj, h⟩ := bind_out h
            refine tri_post ⟨ofL [(0, .s (.sl 4 (Nd.encs a1))), (1, .s (.sl 4 (Nd.encs a2))), (5, .s (.sl 1 ((List.map enc_s_int) y3))), (6, .orow 0), (7, .s (.int .i64 x5)), (8, .s (.int .i64 x6)), (9, .s (.bool ((IntKind.i64.wrap (y14 + e17)) == e21))), (10, .s (.bool ((IntKind.i64.wrap (y25 + e28)) == e32))), (70, .s (.bool x34))], ofH [(0, .row 34 2 ((List.map enc_2_int) l7))], 1⟩ ?_ (fun σ' hle => ?_)
            · replace h := hj
              refine tri_drawn (by exact tokW) (by exact gok) (by exact mixed) [] [73, 77, 80, 83, 87, 93, 97, 102, 105] [] rfl (by decide +kernel) ?_
              obtain ⟨⟨e35_kind, e35_text, e35_cols, e35_kids⟩, he35, h⟩ := bind_out h
              refine And.intro (at_ok Nd.encs_eq he35).1 ?_
              intro r36 hr36
              obtain rfl : [.int .i64 e35_kind, .str e35_text, .int .i64 e35_cols, .sl 4 (Nd.encs e35_kids)] = r36 := (hr36.trans (at_ok Nd.encs_eq he35).2.1).symm
              obtain ⟨⟨e37_kind, e37_text, e37_cols, e37_kids⟩, he37, h⟩ := bind_out h
              refine And.intro (at_ok Nd.encs_eq he37).1 ?_
              intro r38 hr38
              obtain rfl : [.int .i64 e37_kind, .str e37_text, .int .i64 e37_cols, .sl 4 (Nd.encs e37_kids)] = r38 := (hr38.trans (at_ok Nd.encs_eq he37).2.1).symm
              obtain ⟨y39, hy39, h⟩ := bind_out h
              refine ⟨_, ⟨_, _, _, hy39, rfl, rfl⟩, ?_⟩
              intro b hb
              cases b with
              | true =>
                replace h := bif_t hb.symm h
                obtain ⟨⟨e40_kind, e40_text, e40_cols, e40_kids⟩, he40, h⟩ := bind_out h
                refine And.intro (at_ok Nd.encs_eq he40).1 ?_
                intro r41 hr41
                obtain rfl : [.int .i64 e40_kind, .str e40_text, .int .i64 e40_cols, .sl 4 (Nd.encs e40_kids)] = r41 := (hr41.trans (at_ok Nd.encs_eq he40).2.1).symm
                obtain ⟨⟨e42_kind, e42_text, e42_cols, e42_kids⟩, he42, h⟩ := bind_out h
                refine And.intro (at_ok Nd.encs_eq he42).1 ?_
                intro r43 hr43
                obtain rfl : [.int .i64 e42_kind, .str e42_text, .int .i64 e42_cols, .sl 4 (Nd.encs e42_kids)] = r43 := (hr43.trans (at_ok Nd.encs_eq he42).2.1).symm
                obtain ⟨y44, hy44, h⟩ := bind_out h
                refine ⟨_, ⟨_, _, _, _, hy44, rfl, rfl⟩, ?_⟩
                obtain ⟨e45, he45, h⟩ := bind_out h
                refine And.intro (at_ok (fun _ => rfl) he45).1 ?_
                intro r46 hr46
                obtain rfl : [.sl 1 ((List.map (irow .i64)) e45)] = r46 := (hr46.trans (at_ok (fun _ => rfl) he45).2.1).symm
                obtain ⟨e47, he47, h⟩ := bind_out h
                refine And.intro (at_ok (fun _ => rfl) he47).1 ?_
                intro r48 hr48
                obtain rfl : [.int .i64 e47] = r48 := (hr48.trans (at_ok (fun _ => rfl) he47).2.1).symm
                obtain ⟨e49, he49, h⟩ := bind_out h
                refine And.intro (at_ok (fun _ => rfl) he49).1 ?_
                intro r50 hr50
                obtain rfl : [.sl 1 ((List.map (irow .i64)) e49)] = r50 := (hr50.trans (at_ok (fun _ => rfl) he49).2.1).symm
                obtain ⟨e51, he51, h⟩ := bind_out h
                refine And.intro (at_ok (fun _ => rfl) he51).1 ?_
                intro r52 hr52
                obtain rfl : [.int .i64 e51] = r52 := (hr52.trans (at_ok (fun _ => rfl) he51).2.1).symm
                cases h
                exact (Le.rename [(0, 0)] _ _ _ ⟨rfl, rfl, rfl, rfl, rfl, rfl, rfl, rfl, rfl, trivial⟩ ⟨rfl, ⟨_, rfl, rfl⟩, trivial⟩ rfl rfl rfl rfl rfl)
              | false =>
                replace h := bif_f hb.symm h
                cases h
                exact (Le.rename [(0, 0)] _ _ _ ⟨rfl, rfl, rfl, rfl, rfl, rfl, rfl, rfl, rfl, trivial⟩ ⟨rfl, ⟨_, rfl, rfl⟩, trivial⟩ rfl rfl rfl rfl rfl)
            · show Tri _ _ _ _
              refine tri_le hle ?_
              refine tri_cond rfl (fun hb => ?_) (fun hb => ?_)
              · replace h := bif_t hb h
                refine tri_seq ?_
                refine tri_region (by exact tokW) (by exact gok) [114] [113] rfl ?_
                intro r53 hr53
                obtain rfl : (List.map enc_2_int) [(x5, x6)] = r53 := (hr53.trans (by simp [List.map_append, List.map_take, List.map_drop, irow, brow, b8of_row, List.map_cons, List.map_nil, b8of_wrap, Nd.encs_eq, Nd.enc, enc_13_node_kind, enc_node_checker, enc_node_inner, enc_diff_grid, enc_s_int, enc_node_open, enc_2_int, enc_string])).symm
                obtain ⟨hq, h⟩ := req_out h
                refine And.intro (show (((List.map enc_2_int) l7).length + ((List.map enc_2_int) [(x5, x6)]).length) * 16 ≤ 140737488355328 ∧ ((List.map enc_2_int) l7).length + ((List.map enc_2_int) [(x5, x6)]).length ≤ 9223372036854775807 from by simp only [List.length_append, List.length_cons, List.length_nil, List.length_map, rlen (fun _ => rfl)] at hq ⊢; omega) ?_
                show Tri _ _ _ _
                refine tri_le (Le.rename [(1, 0)] [(0, .s (.sl 4 (Nd.encs a1))), (1, .s (.sl 4 (Nd.encs a2))), (5, .s (.sl 1 ((List.map enc_s_int) y3))), (6, .orow 0), (7, .s (.int .i64 x5)), (8, .s (.int .i64 x6))] [(0, .row 34 2 ((List.map enc_2_int) (l7 ++ [(x5, x6)])))] 1 ⟨rfl, rfl, rfl, rfl, rfl, rfl, trivial⟩ ⟨rfl, ⟨_, rfl, congrArg (Ob.row 34 2) (by simp [List.map_append, List.map_take, List.map_drop, irow, brow, b8of_row, List.map_cons, List.map_nil, b8of_wrap, Nd.encs_eq, Nd.enc, enc_13_node_kind, enc_node_checker, enc_node_inner, enc_diff_grid, enc_s_int, enc_node_open, enc_2_int, enc_string])⟩, trivial⟩ rfl rfl rfl rfl rfl) ?_
                refine tri_seq ?_
                refine tri_region (by exact tokW) (by exact gok) [] [] rfl ?_
                show Tri _ _ _ _
                refine tri_region (by exact tokW) (by exact gok) [] [] rfl ?_
                refine ⟨(k, IntKind.i64.wrap (x5 + 1), IntKind.i64.wrap (x6 + 1), l7 ++ [(x5, x6)]), h, (Le.rename [(0, 0)] _ _ _ ⟨rfl, rfl, rfl, rfl, rfl, rfl, trivial⟩ ⟨rfl, ⟨_, rfl, rfl⟩, trivial⟩ rfl rfl rfl rfl rfl), Nat.lt_succ_self k⟩
              · replace h := bif_f hb h
                refine tri_seq ?_
                obtain ⟨x54, hj, h⟩ := bind_out h
                refine tri_post ⟨ofL [(0, .s (.sl 4 (Nd.encs a1))), (1, .s (.sl 4 (Nd.encs a2))), (5, .s (.sl 1 ((List.map enc_s_int) y3))), (6, .orow 0), (7, .s (.int .i64 x5)), (8, .s (.int .i64 x6)), (119, .s (.bool x54))], ofH [(0, .row 34 2 ((List.map enc_2_int) l7))], 1⟩ ?_ (fun σ' hle => ?_)
                · replace h := hj
                  refine tri_drawn (by exact tokW) (by exact gok) (by exact mixed) [] [121, 124, 127, 132] [] rfl (by decide +kernel) ?_
                  intro b hb
                  cases b with
                  | true =>
                    replace h := bif_t hb.symm h
                    intro b hb
                    cases b with
                    | true =>
                      replace h := bif_t hb.symm h
                      cases h
                      exact (Le.rename [(0, 0)] _ _ _ ⟨rfl, rfl, rfl, rfl, rfl, rfl, rfl, trivial⟩ ⟨rfl, ⟨_, rfl, rfl⟩, trivial⟩ rfl rfl rfl rfl rfl)
                    | false =>
                      replace h := bif_f hb.symm h
                      obtain ⟨⟨e55_kind, e55_text, e55_cols, e55_kids⟩, he55, h⟩ := bind_out h
                      refine And.intro (at_ok Nd.encs_eq he55).1 ?_
                      intro r56 hr56
                      obtain rfl : [.int .i64 e55_kind, .str e55_text, .int .i64 e55_cols, .sl 4 (Nd.encs e55_kids)] = r56 := (hr56.trans (at_ok Nd.encs_eq he55).2.1).symm
                      obtain ⟨y57, hy57, h⟩ := bind_out h
                      refine ⟨_, ⟨_, _, _, hy57, rfl, rfl⟩, ?_⟩
                      obtain ⟨⟨e58_kind, e58_text, e58_cols, e58_kids⟩, he58, h⟩ := bind_out h
                      refine And.intro (at_ok Nd.encs_eq he58).1 ?_
                      intro r59 hr59
                      obtain rfl : [.int .i64 e58_kind, .str e58_text, .int .i64 e58_cols, .sl 4 (Nd.encs e58_kids)] = r59 := (hr59.trans (at_ok Nd.encs_eq he58).2.1).symm
                      obtain ⟨y60, hy60, h⟩ := bind_out h
                      refine ⟨_, ⟨_, _, _, hy60, rfl, rfl⟩, ?_⟩
                      cases h
                      exact (Le.rename [(0, 0)] _ _ _ ⟨rfl, rfl, rfl, rfl, rfl, rfl, rfl, trivial⟩ ⟨rfl, ⟨_, rfl, rfl⟩, trivial⟩ rfl rfl rfl rfl rfl)
                  | false =>
                    replace h := bif_f hb.symm h
                    cases h
                    exact (Le.rename [(0, 0)] _ _ _ ⟨rfl, rfl, rfl, rfl, rfl, rfl, rfl, trivial⟩ ⟨rfl, ⟨_, rfl, rfl⟩, trivial⟩ rfl rfl rfl rfl rfl)
                · show Tri _ _ _ _
                  refine tri_le hle ?_
                  refine tri_cond rfl (fun hb => ?_) (fun hb => ?_)
                  · replace h := bif_t hb h
                    refine tri_region (by exact tokW) (by exact gok) [] [] rfl ?_
                    refine ⟨(k, IntKind.i64.wrap (x5 + 1), x6, l7), h, (Le.rename [(0, 0)] _ _ _ ⟨rfl, rfl, rfl, rfl, rfl, rfl, trivial⟩ ⟨rfl, ⟨_, rfl, rfl⟩, trivial⟩ rfl rfl rfl rfl rfl), Nat.lt_succ_self k⟩
                  · replace h := bif_f hb h
                    refine tri_region (by exact tokW) (by exact gok) [] [] rfl ?_
                    refine ⟨(k, x5, IntKind.i64.wrap (x6 + 1), l7), h, (Le.rename [(0, 0)] _ _ _ ⟨rfl, rfl, rfl, rfl, rfl, rfl, trivial⟩ ⟨rfl, ⟨_, rfl, rfl⟩, trivial⟩ rfl rfl rfl rfl rfl), Nat.lt_succ_self k⟩
          · replace h := bif_f hb h
            refine tri_exit ?_
            cases h
            exact (Le.rename [(0, 0)] _ _ _ ⟨rfl, trivial⟩ ⟨rfl, ⟨_, rfl, rfl⟩, trivial⟩ rfl rfl rfl rfl rfl)
  · show Tri _ _ _ _
    refine tri_le hle ?_
    refine tri_seq ?_
    refine tri_region (by exact tokW) (by exact gok) [] [] rfl ?_
    show Tri _ _ _ _
    refine tri_ret ?_
    have hy := Option.some.inj h
    subst hy
    unfold Gives
    exact ⟨_, Le.refl _ _, 0, rfl, rfl⟩

/- vinculum/vinculumref16.SamePairs -/
def R_r16_SamePairs (n : Nat) (xs : List AV) (r : Ret) : Prop := ∃ (a0 : List (Int × Int)) (a1 : List (Int × Int)) (y0 : Bool), m_r16_SamePairs n a0 a1 = some y0 ∧ xs = [.s (.sl 2 ((List.map enc_2_int) a0)), .s (.sl 2 ((List.map enc_2_int) a1))] ∧ r = .val (.s (.bool y0))
def S_r16_SamePairs : PSpec := pspec fun xs r => ∃ n, R_r16_SamePairs n xs r
set_option maxHeartbeats 2000000 in
set_option maxRecDepth 100000 in
theorem ok_r16_SamePairs : PSound Tryd.prog 9 S_r16_SamePairs := by
  have gok : ∀ (f : Nat) (s : PSpec), (fun _ => none : Nat → Option PSpec) f = some s → PSound Tryd.prog f s := fun _ _ h => by cases h
  refine psound tokW Tryd.call9 Tryd.func9 rfl (fun xs r h => by obtain ⟨n, _, _, _, _, rfl, _⟩ := h; show 2 ≤ 26; decide) 26 rfl ?_
  rintro xs r w0 G0 ⟨n, a1, b2, y0, h, rfl, rfl⟩ _
  rw [m_r16_SamePairs] at h
  refine tri_seq ?_
  refine tri_region (by exact tokW) (by exact gok) [] [] rfl ?_
  show Tri _ _ _ _
  refine tri_seq ?_
  refine tri_seq ?_
  refine tri_region (by exact tokW) (by exact gok) [] [7, 9] rfl ?_
  intro n3 hn3
  obtain rfl : (a1.length : Int) = n3 := (hn3.trans (congrArg (fun m : Nat => (m : Int)) (rlen (fun _ => rfl) a1))).symm
  intro n4 hn4
  obtain rfl : (b2.length : Int) = n4 := (hn4.trans (congrArg (fun m : Nat => (m : Int)) (rlen (fun _ => rfl) b2))).symm
  show Tri _ _ _ _
  refine tri_cond rfl (fun hb => ?_) (fun hb => ?_)
  · replace h := bif_t hb h
    refine tri_seq ?_
    refine tri_region (by exact tokW) (by exact gok) [] [] rfl ?_
    show Tri _ _ _ _
    refine tri_ret ?_
    have hy := Option.some.inj h
    subst hy
    unfold Gives
    exact ⟨_, Le.refl _ _, rfl, rfl⟩
  · replace h := bif_f hb h
    refine tri_skip ?_
    show Tri _ _ _ _
    refine tri_seq ?_
    refine tri_seq ?_
    refine tri_region (by exact tokW) (by exact gok) [] [] rfl ?_
    show Tri _ _ _ _
    obtain ⟨fl, hl, ho1⟩ := bind_out h
    refine tri_fl (fl := fl) (fun z => match z with | _ => ⟨ofL [], fun _ => none, 0⟩) ?_ (fun z σ' hz hle => ?_)
    · refine tri_block (tri_loopI (X := Nat × Int) (fun y => match y with | (k, i5) => ⟨ofL [(0, .s (.sl 2 ((List.map enc_2_int) a1))), (1, .s (.sl 2 ((List.map enc_2_int) b2))), (5, .s (.int .i64 i5))], fun _ => none, 0⟩) (fun y => m_r16_SamePairs_l1 a1 b2 y.1 y.2 = some fl) (fun y => y.1) (n, 0) hl ?_ ?_)
      · exact (Le.forget _ ⟨rfl, rfl, rfl, trivial⟩)
      · rintro ⟨k, i5⟩ h
        cases k with
        | zero => cases h
        | succ k =>
          replace h : m_r16_SamePairs_l1 a1 b2 (k+1) i5 = some fl := h
          rw [m_r16_SamePairs_l1] at h
          refine tri_seq ?_
          refine tri_seq ?_
          refine tri_region (by exact tokW) (by exact gok) [] [13] rfl ?_
          intro n6 hn6
          obtain rfl : (a1.length : Int) = n6 := (hn6.trans (congrArg (fun m : Nat => (m : Int)) (rlen (fun _ => rfl) a1))).symm
          show Tri _ _ _ _
          refine tri_cond rfl (fun hb => ?_) (fun hb => ?_)
          · replace h := bif_t hb h
            refine tri_skip ?_
            show Tri _ _ _ _
            refine tri_seq ?_
            refine tri_block ?_
            refine tri_seq ?_
            refine tri_drawn (by exact tokW) (by exact gok) (by exact mixed) [] [19, 23] [] rfl (by decide +kernel) ?_
            obtain ⟨⟨e7_0, e7_1⟩, he7, h⟩ := bind_out h
            refine And.intro (at_ok (fun _ => rfl) he7).1 ?_
            intro r8 hr8
            obtain rfl : [.int .i64 e7_0, .int .i64 e7_1] = r8 := (hr8.trans (at_ok (fun _ => rfl) he7).2.1).symm
            obtain ⟨⟨e9_0, e9_1⟩, he9, h⟩ := bind_out h
            refine And.intro (at_ok (fun _ => rfl) he9).1 ?_
            intro r10 hr10
            obtain rfl : [.int .i64 e9_0, .int .i64 e9_1] = r10 := (hr10.trans (at_ok (fun _ => rfl) he9).2.1).symm
            show Tri _ _ _ _
            refine tri_cond rfl (fun hb => ?_) (fun hb => ?_)
            · replace h := bif_t hb h
              refine tri_seq ?_
              refine tri_region (by exact tokW) (by exact gok) [] [] rfl ?_
              show Tri _ _ _ _
              refine tri_ret ?_
              cases h
              replace h : some _ = some _ := ho1
              have hy := Option.some.inj h
              subst hy
              unfold Gives
              exact ⟨_, Le.refl _ _, rfl, rfl⟩
            · replace h := bif_f hb h
              refine tri_skip ?_
              show Tri _ _ _ _
              refine tri_region (by exact tokW) (by exact gok) [] [] rfl ?_
              refine ⟨(k, IntKind.i64.wrap (i5 + 1)), h, (Le.forget _ ⟨rfl, rfl, rfl, trivial⟩), Nat.lt_succ_self k⟩
          · replace h := bif_f hb h
            refine tri_exit ?_
            cases h
            exact ⟨_, rfl, (Le.forget _ trivial)⟩
    · subst hz
      obtain _ := z
      replace h := ho1
      show Tri _ _ _ _
      refine tri_le hle ?_
      refine tri_seq ?_
      refine tri_region (by exact tokW) (by exact gok) [] [] rfl ?_
      show Tri _ _ _ _
      refine tri_ret ?_
      have hy := Option.some.inj h
      subst hy
      unfold Gives
      exact ⟨_, Le.refl _ _, rfl, rfl⟩

/- vinculum/vinculumlaw16.DiffAligns -/
def R_l16_DiffAligns (n : Nat) (xs : List AV) (r : Ret) : Prop := ∃ (a0 : Nd) (a1 : Nd) (y0 : Bool), m_l16_DiffAligns n a0 a1 = some y0 ∧ xs = [.agg ((Nd.enc a0).map .s), .agg ((Nd.enc a1).map .s)] ∧ r = .val (.s (.bool y0))
def S_l16_DiffAligns : PSpec := pspec fun xs r => ∃ n, R_l16_DiffAligns n xs r
set_option maxHeartbeats 2000000 in
set_option maxRecDepth 100000 in
theorem ok_l16_DiffAligns : PSound Tryd.prog 3 S_l16_DiffAligns := by
  have gok : ∀ f s, look? f [(5, S_l16_awake), (6, S_l16_few), (7, S_diff_Align), (8, S_r09_Valid), (10, S_r16_Pairs), (9, S_r16_SamePairs)] = some s → PSound Tryd.prog f s := look_all (by
    simp only [List.forall_mem_cons]
    exact ⟨ok_l16_awake, ok_l16_few, ok_diff_Align, ok_r09_Valid, ok_r16_Pairs, ok_r16_SamePairs, by simp⟩)
  refine psound tokW Tryd.call3 Tryd.func3 rfl (fun xs r h => by obtain ⟨n, _, _, _, _, rfl, _⟩ := h; show 2 ≤ 45; decide) 45 rfl ?_
  rintro xs r w0 G0 ⟨n, ⟨a1_kind, a1_text, a1_cols, a1_kids⟩, ⟨b2_kind, b2_text, b2_cols, b2_kids⟩, y0, h, rfl, rfl⟩ _
  rw [m_l16_DiffAligns] at h
  refine tri_seq ?_
  refine tri_region (by exact tokW) (by exact gok) [] [] rfl ?_
  show Tri _ _ _ _
  refine tri_seq ?_
  refine tri_seq ?_
  refine tri_region (by exact tokW) (by exact gok) [] [] rfl ?_
  obtain ⟨y3, hy3, h⟩ := bind_out h
  refine ⟨_, ⟨_, _, hy3, rfl, rfl⟩, ?_⟩
  show Tri _ _ _ _
  refine tri_cond rfl (fun hb => ?_) (fun hb => ?_)
  · replace h := bif_t hb h
    refine tri_seq ?_
    refine tri_region (by exact tokW) (by exact gok) [] [] rfl ?_
    show Tri _ _ _ _
    refine tri_ret ?_
    have hy := Option.some.inj h
    subst hy
    unfold Gives
    exact ⟨_, Le.refl _ _, rfl, rfl⟩
  · replace h := bif_f hb h
    refine tri_skip ?_
    show Tri _ _ _ _
    refine tri_seq ?_
    refine tri_seq ?_
    refine tri_region (by exact tokW) (by exact gok) [] [] rfl ?_
    obtain ⟨y4, hy4, h⟩ := bind_out h
    refine ⟨_, ⟨_, _, _, _, hy4, rfl, rfl⟩, ?_⟩
    show Tri _ _ _ _
    refine tri_cond rfl (fun hb => ?_) (fun hb => ?_)
    · replace h := bif_t hb h
      refine tri_seq ?_
      refine tri_region (by exact tokW) (by exact gok) [] [] rfl ?_
      show Tri _ _ _ _
      refine tri_ret ?_
      have hy := Option.some.inj h
      subst hy
      unfold Gives
      exact ⟨_, Le.refl _ _, rfl, rfl⟩
    · replace h := bif_f hb h
      refine tri_skip ?_
      show Tri _ _ _ _
      refine tri_seq ?_
      refine tri_region (by exact tokW) (by exact gok) [] [] rfl ?_
      obtain ⟨⟨y5, y6⟩, hy5, h⟩ := bind_out h
      refine ⟨_, ⟨_, _, _, _, _, hy5, rfl, rfl⟩, ?_⟩
      show Tri _ _ _ _
      refine tri_seq ?_
      refine tri_seq ?_
      obtain ⟨x7, hj, h⟩ := bind_out h
      refine tri_post ⟨ofL [(2, .s (.pt [.int .i64 a1_kind, .str a1_text, .int .i64 a1_cols, .sl 4 (Nd.encs a1_kids)])), (3, .s (.pt [.int .i64 b2_kind, .str b2_text, .int .i64 b2_cols, .sl 4 (Nd.encs b2_kids)])), (5, .s (.sl 2 ((List.map enc_2_int) y5))), (6, .s (.int .i64 y6)), (26, .s (.bool x7))], fun _ => none, 0⟩ ?_ (fun σ' hle => ?_)
      · replace h := hj
        refine tri_region (by exact tokW) (by exact gok) [] [22] rfl ?_
        obtain ⟨y8, hy8, h⟩ := bind_out h
        refine ⟨_, ⟨_, _, _, hy8, rfl, rfl⟩, ?_⟩
        intro b hb
        cases b with
        | true =>
          replace h := bif_t hb.symm h
          cases h
          exact (Le.forget _ ⟨rfl, rfl, rfl, rfl, rfl, trivial⟩)
        | false =>
          replace h := bif_f hb.symm h
          obtain ⟨y9, hy9, h⟩ := bind_out h
          refine ⟨_, ⟨_, _, _, hy9, rfl, rfl⟩, ?_⟩
          cases h
          exact (Le.forget _ ⟨rfl, rfl, rfl, rfl, rfl, trivial⟩)
      · show Tri _ _ _ _
        refine tri_le hle ?_
        refine tri_cond rfl (fun hb => ?_) (fun hb => ?_)
        · replace h := bif_t hb h
          refine tri_seq ?_
          obtain ⟨x10, hj, h⟩ := bind_out h
          refine tri_post ⟨ofL [(4, .s (.bool x10))], fun _ => none, 0⟩ ?_ (fun σ' hle => ?_)
          · replace h := hj
            refine tri_region (by exact tokW) (by exact gok) [] [28, 30] rfl ?_
            intro n11 hn11
            obtain rfl : (y5.length : Int) = n11 := (hn11.trans (congrArg (fun m : Nat => (m : Int)) (rlen (fun _ => rfl) y5))).symm
            intro b hb
            cases b with
            | true =>
              replace h := bif_t hb.symm h
              cases h
              exact (Le.forget _ ⟨rfl, trivial⟩)
            | false =>
              replace h := bif_f hb.symm h
              cases h
              exact (Le.forget _ ⟨rfl, trivial⟩)
          · show Tri _ _ _ _
            refine tri_le hle ?_
            refine tri_ret ?_
            have hy := Option.some.inj h
            subst hy
            unfold Gives
            exact ⟨_, Le.refl _ _, rfl, rfl⟩
        · replace h := bif_f hb h
          refine tri_skip ?_
          show Tri _ _ _ _
          refine tri_seq ?_
          obtain ⟨x12, hj, h⟩ := bind_out h
          refine tri_post ⟨ofL [(4, .s (.bool x12))], fun _ => none, 0⟩ ?_ (fun σ' hle => ?_)
          · replace h := hj
            refine tri_region (by exact tokW) (by exact gok) [] [36] rfl ?_
            intro b hb
            cases b with
            | true =>
              replace h := bif_t hb.symm h
              obtain ⟨y13, hy13, h⟩ := bind_out h
              refine ⟨_, ⟨_, _, _, _, hy13, rfl, rfl⟩, ?_⟩
              obtain ⟨y14, hy14, h⟩ := bind_out h
              refine ⟨_, ⟨_, _, _, _, hy14, rfl, rfl⟩, ?_⟩
              cases h
              exact (Le.forget _ ⟨rfl, trivial⟩)
            | false =>
              replace h := bif_f hb.symm h
              cases h
              exact (Le.forget _ ⟨rfl, trivial⟩)
          · show Tri _ _ _ _
            refine tri_le hle ?_
            refine tri_ret ?_
            have hy := Option.some.inj h
            subst hy
            unfold Gives
            exact ⟨_, Le.refl _ _, rfl, rfl⟩

/- vinculum/vinculumlaw16.DiffSymmetric -/
def R_l16_DiffSymmetric (n : Nat) (xs : List AV) (r : Ret) : Prop := ∃ (a0 : Nd) (a1 : Nd) (y0 : Bool), m_l16_DiffSymmetric n a0 a1 = some y0 ∧ xs = [.agg ((Nd.enc a0).map .s), .agg ((Nd.enc a1).map .s)] ∧ r = .val (.s (.bool y0))
def S_l16_DiffSymmetric : PSpec := pspec fun xs r => ∃ n, R_l16_DiffSymmetric n xs r
set_option maxHeartbeats 2000000 in
set_option maxRecDepth 100000 in
theorem ok_l16_DiffSymmetric : PSound Tryd.prog 4 S_l16_DiffSymmetric := by
  have gok : ∀ f s, look? f [(5, S_l16_awake), (6, S_l16_few), (7, S_diff_Align)] = some s → PSound Tryd.prog f s := look_all (by
    simp only [List.forall_mem_cons]
    exact ⟨ok_l16_awake, ok_l16_few, ok_diff_Align, by simp⟩)
  refine psound tokW Tryd.call4 Tryd.func4 rfl (fun xs r h => by obtain ⟨n, _, _, _, _, rfl, _⟩ := h; show 2 ≤ 68; decide) 68 rfl ?_
  rintro xs r w0 G0 ⟨n, ⟨a1_kind, a1_text, a1_cols, a1_kids⟩, ⟨a2_kind, a2_text, a2_cols, a2_kids⟩, y0, h, rfl, rfl⟩ _
  rw [m_l16_DiffSymmetric] at h
  refine tri_seq ?_
  refine tri_region (by exact tokW) (by exact gok) [] [] rfl ?_
  show Tri _ _ _ _
  refine tri_seq ?_
  refine tri_seq ?_
  refine tri_region (by exact tokW) (by exact gok) [] [] rfl ?_
  obtain ⟨y3, hy3, h⟩ := bind_out h
  refine ⟨_, ⟨_, _, hy3, rfl, rfl⟩, ?_⟩
  show Tri _ _ _ _
  refine tri_cond rfl (fun hb => ?_) (fun hb => ?_)
  · replace h := bif_t hb h
    refine tri_seq ?_
    refine tri_region (by exact tokW) (by exact gok) [] [] rfl ?_
    show Tri _ _ _ _
    refine tri_ret ?_
    have hy := Option.some.inj h
    subst hy
    unfold Gives
    exact ⟨_, Le.refl _ _, rfl, rfl⟩
  · replace h := bif_f hb h
    refine tri_skip ?_
    show Tri _ _ _ _
    refine tri_seq ?_
    refine tri_seq ?_
    refine tri_region (by exact tokW) (by exact gok) [] [] rfl ?_
    obtain ⟨y4, hy4, h⟩ := bind_out h
    refine ⟨_, ⟨_, _, _, _, hy4, rfl, rfl⟩, ?_⟩
    show Tri _ _ _ _
    refine tri_cond rfl (fun hb => ?_) (fun hb => ?_)
    · replace h := bif_t hb h
      refine tri_seq ?_
      refine tri_region (by exact tokW) (by exact gok) [] [] rfl ?_
      show Tri _ _ _ _
      refine tri_ret ?_
      have hy := Option.some.inj h
      subst hy
      unfold Gives
      exact ⟨_, Le.refl _ _, rfl, rfl⟩
    · replace h := bif_f hb h
      refine tri_skip ?_
      show Tri _ _ _ _
      refine tri_seq ?_
      refine tri_region (by exact tokW) (by exact gok) [] [] rfl ?_
      obtain ⟨⟨y5, y6⟩, hy5, h⟩ := bind_out h
      refine ⟨_, ⟨_, _, _, _, _, hy5, rfl, rfl⟩, ?_⟩
      show Tri _ _ _ _
      refine tri_seq ?_
      refine tri_region (by exact tokW) (by exact gok) [] [] rfl ?_
      obtain ⟨⟨y7, y8⟩, hy7, h⟩ := bind_out h
      refine ⟨_, ⟨_, _, _, _, _, hy7, rfl, rfl⟩, ?_⟩
      show Tri _ _ _ _
      refine tri_seq ?_
      refine tri_seq ?_
      obtain ⟨x9, hj, h⟩ := bind_out h
      refine tri_post ⟨ofL [(5, .s (.sl 2 ((List.map enc_2_int) y5))), (7, .s (.sl 2 ((List.map enc_2_int) y7))), (37, .s (.bool x9))], fun _ => none, 0⟩ ?_ (fun σ' hle => ?_)
      · replace h := hj
        refine tri_region (by exact tokW) (by exact gok) [] [31, 33, 35] rfl ?_
        intro b hb
        cases b with
        | true =>
          replace h := bif_t hb.symm h
          cases h
          exact (Le.forget _ ⟨rfl, rfl, rfl, trivial⟩)
        | false =>
          replace h := bif_f hb.symm h
          intro n10 hn10
          obtain rfl : (y5.length : Int) = n10 := (hn10.trans (congrArg (fun m : Nat => (m : Int)) (rlen (fun _ => rfl) y5))).symm
          intro n11 hn11
          obtain rfl : (y7.length : Int) = n11 := (hn11.trans (congrArg (fun m : Nat => (m : Int)) (rlen (fun _ => rfl) y7))).symm
          cases h
          exact (Le.forget _ ⟨rfl, rfl, rfl, trivial⟩)
      · show Tri _ _ _ _
        refine tri_le hle ?_
        refine tri_cond rfl (fun hb => ?_) (fun hb => ?_)
        · replace h := bif_t hb h
          refine tri_seq ?_
          refine tri_region (by exact tokW) (by exact gok) [] [] rfl ?_
          show Tri _ _ _ _
          refine tri_ret ?_
          have hy := Option.some.inj h
          subst hy
          unfold Gives
          exact ⟨_, Le.refl _ _, rfl, rfl⟩
        · replace h := bif_f hb h
          refine tri_skip ?_
          show Tri _ _ _ _
          refine tri_seq ?_
          refine tri_seq ?_
          refine tri_region (by exact tokW) (by exact gok) [] [] rfl ?_
          show Tri _ _ _ _
          obtain ⟨fl, hl, ho1⟩ := bind_out h
          refine tri_fl (fl := fl) (fun z => match z with | _ => ⟨ofL [], fun _ => none, 0⟩) ?_ (fun z σ' hz hle => ?_)
          · refine tri_block (tri_loopI (X := Nat × Int) (fun y => match y with | (k, x12) => ⟨ofL [(5, .s (.sl 2 ((List.map enc_2_int) y5))), (7, .s (.sl 2 ((List.map enc_2_int) y7))), (9, .s (.int .i64 x12))], fun _ => none, 0⟩) (fun y => m_l16_DiffSymmetric_l1 y5 y7 y.1 y.2 = some fl) (fun y => y.1) (n, 0) hl ?_ ?_)
            · exact (Le.forget _ ⟨rfl, rfl, rfl, trivial⟩)
            · rintro ⟨k, x12⟩ h
              cases k with
              | zero => cases h
              | succ k =>
                replace h : m_l16_DiffSymmetric_l1 y5 y7 (k+1) x12 = some fl := h
                rw [m_l16_DiffSymmetric_l1] at h
                refine tri_seq ?_
                refine tri_seq ?_
                refine tri_region (by exact tokW) (by exact gok) [] [40] rfl ?_
                intro n13 hn13
                obtain rfl : (y5.length : Int) = n13 := (hn13.trans (congrArg (fun m : Nat => (m : Int)) (rlen (fun _ => rfl) y5))).symm
                show Tri _ _ _ _
                refine tri_cond rfl (fun hb => ?_) (fun hb => ?_)
                · replace h := bif_t hb h
                  refine tri_skip ?_
                  show Tri _ _ _ _
                  refine tri_seq ?_
                  refine tri_block ?_
                  refine tri_seq ?_
                  obtain ⟨x14, hj, h⟩ := bind_out h
                  refine tri_post ⟨ofL [(5, .s (.sl 2 ((List.map enc_2_int) y5))), (7, .s (.sl 2 ((List.map enc_2_int) y7))), (9, .s (.int .i64 x12)), (67, .s (.bool x14))], fun _ => none, 0⟩ ?_ (fun σ' hle => ?_)
                  · replace h := hj
                    refine tri_drawn (by exact tokW) (by exact gok) (by exact mixed) [] [46, 51, 55, 58, 63] [] rfl (by decide +kernel) ?_
                    obtain ⟨⟨e15_0, e15_1⟩, he15, h⟩ := bind_out h
                    refine And.intro (at_ok (fun _ => rfl) he15).1 ?_
                    intro r16 hr16
                    obtain rfl : [.int .i64 e15_0, .int .i64 e15_1] = r16 := (hr16.trans (at_ok (fun _ => rfl) he15).2.1).symm
                    refine And.intro (by decide) ?_
                    obtain ⟨⟨e17_0, e17_1⟩, he17, h⟩ := bind_out h
                    refine And.intro (at_ok (fun _ => rfl) he17).1 ?_
                    intro r18 hr18
                    obtain rfl : [.int .i64 e17_0, .int .i64 e17_1] = r18 := (hr18.trans (at_ok (fun _ => rfl) he17).2.1).symm
                    refine And.intro (by decide) ?_
                    intro b hb
                    cases b with
                    | true =>
                      replace h := bif_t hb.symm h
                      cases h
                      exact (Le.forget _ ⟨rfl, rfl, rfl, rfl, trivial⟩)
                    | false =>
                      replace h := bif_f hb.symm h
                      obtain ⟨⟨e19_0, e19_1⟩, he19, h⟩ := bind_out h
                      refine And.intro (at_ok (fun _ => rfl) he19).1 ?_
                      intro r20 hr20
                      obtain rfl : [.int .i64 e19_0, .int .i64 e19_1] = r20 := (hr20.trans (at_ok (fun _ => rfl) he19).2.1).symm
                      refine And.intro (by decide) ?_
                      obtain ⟨⟨e21_0, e21_1⟩, he21, h⟩ := bind_out h
                      refine And.intro (at_ok (fun _ => rfl) he21).1 ?_
                      intro r22 hr22
                      obtain rfl : [.int .i64 e21_0, .int .i64 e21_1] = r22 := (hr22.trans (at_ok (fun _ => rfl) he21).2.1).symm
                      refine And.intro (by decide) ?_
                      cases h
                      exact (Le.forget _ ⟨rfl, rfl, rfl, rfl, trivial⟩)
                  · show Tri _ _ _ _
                    refine tri_le hle ?_
                    refine tri_cond rfl (fun hb => ?_) (fun hb => ?_)
                    · replace h := bif_t hb h
                      refine tri_seq ?_
                      refine tri_region (by exact tokW) (by exact gok) [] [] rfl ?_
                      show Tri _ _ _ _
                      refine tri_ret ?_
                      cases h
                      replace h : some _ = some _ := ho1
                      have hy := Option.some.inj h
                      subst hy
                      unfold Gives
                      exact ⟨_, Le.refl _ _, rfl, rfl⟩
                    · replace h := bif_f hb h
                      refine tri_skip ?_
                      show Tri _ _ _ _
                      refine tri_region (by exact tokW) (by exact gok) [] [] rfl ?_
                      refine ⟨(k, IntKind.i64.wrap (x12 + 1)), h, (Le.forget _ ⟨rfl, rfl, rfl, trivial⟩), Nat.lt_succ_self k⟩
                · replace h := bif_f hb h
                  refine tri_exit ?_
                  cases h
                  exact ⟨_, rfl, (Le.forget _ trivial)⟩
          · subst hz
            obtain _ := z
            replace h := ho1
            show Tri _ _ _ _
            refine tri_le hle ?_
            refine tri_seq ?_
            refine tri_region (by exact tokW) (by exact gok) [] [] rfl ?_
            show Tri _ _ _ _
            refine tri_ret ?_
            have hy := Option.some.inj h
            subst hy
            unfold Gives
            exact ⟨_, Le.refl _ _, rfl, rfl⟩

end Go.Proofs.YtplekejomocalaaDoor
