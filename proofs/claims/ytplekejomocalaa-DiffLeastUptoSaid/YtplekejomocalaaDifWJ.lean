/-
  Walks, printed by gw.py.
-/
import Derived.Test.YtplekejomocalaaDifWI
set_option linter.unusedVariables false
set_option linter.unusedSimpArgs false
namespace Go.Proofs.Ytplekejomocalaa
open Go.Abs

/- vinculum/vinculumlaw16.DiffLeast -/
def R_l16_DiffLeast (n : Nat) (xs : List AV) (r : Ret) : Prop := ∃ (a0 : Nd) (a1 : List (Int × List Int × Int × Int × List Nd × Int × List UInt8 × List UInt8)) (y0 : Bool), m_l16_DiffLeast n a0 a1 = some y0 ∧ xs = [.agg ((Nd.enc a0).map .s), .s (.sl 8 ((List.map enc_api_Op) a1))] ∧ r = .val (.s (.bool y0))
def S_l16_DiffLeast : PSpec := pspec fun xs r => ∃ n, R_l16_DiffLeast n xs r
set_option maxHeartbeats 2000000 in
set_option maxRecDepth 100000 in
theorem ok_l16_DiffLeast : PSound Try.prog 4 S_l16_DiffLeast := by
  have gok : ∀ f s, look? f [(7, S_l16_awake), (12, S_r09_Few), (13, S_r12_Few), (14, S_r12_ApplyAll), (15, S_r16_Weight), (9, S_diff_Cost)] = some s → PSound Try.prog f s := look_all (by
    simp only [List.forall_mem_cons]
    exact ⟨ok_l16_awake, ok_r09_Few, ok_r12_Few, ok_r12_ApplyAll, ok_r16_Weight, ok_diff_Cost, by simp⟩)
  refine psound tokW Try.call4 Try.func4 rfl (fun xs r h => by obtain ⟨n, _, _, _, _, rfl, _⟩ := h; show 2 ≤ 71; decide) 71 rfl ?_
  rintro xs r w0 G0 ⟨n, ⟨a1_kind, a1_text, a1_cols, a1_kids⟩, a2, y0, h, rfl, rfl⟩ _
  rw [m_l16_DiffLeast] at h
  refine tri_seq ?_
  refine tri_region (by exact tokW) (by exact gok) [] [] rfl ?_
  show Tri _ _ _ _
  refine tri_seq ?_
  refine tri_seq ?_
  refine tri_region (by exact tokW) (by exact gok) [] [] rfl ?_
  obtain ⟨y3, hy3, h⟩ := bind_out h
  refine ⟨_, ⟨_, _, hy3, rfl, rfl⟩, ?_⟩
  show Tri _ _ _ _
  refine tri_cond rfl (fun hb => ?_) (fun hb => ?_)
  · replace h := bif_t hb h
    refine tri_seq ?_
    refine tri_region (by exact tokW) (by exact gok) [] [] rfl ?_
    show Tri _ _ _ _
    refine tri_ret ?_
    have hy := Option.some.inj h
    subst hy
    unfold Gives
    exact ⟨_, Le.refl _ _, rfl, rfl⟩
  · replace h := bif_f hb h
    refine tri_skip ?_
    show Tri _ _ _ _
    refine tri_seq ?_
    refine tri_seq ?_
    obtain ⟨x4, hj, h⟩ := bind_out h
    refine tri_post ⟨ofL [(1, .s (.sl 8 ((List.map enc_api_Op) a2))), (2, .s (.pt [.int .i64 a1_kind, .str a1_text, .int .i64 a1_cols, .sl 4 (Nd.encs a1_kids)])), (22, .s (.bool x4))], fun _ => none, 0⟩ ?_ (fun σ' hle => ?_)
    · replace h := hj
      refine tri_region (by exact tokW) (by exact gok) [] [18, 20] rfl ?_
      obtain ⟨y5, hy5, h⟩ := bind_out h
      refine ⟨_, ⟨_, _, _, _, hy5, rfl, rfl⟩, ?_⟩
      intro b hb
      cases b with
      | true =>
        replace h := bif_t hb.symm h
        cases h
        exact (Le.forget _ ⟨rfl, rfl, rfl, trivial⟩)
      | false =>
        replace h := bif_f hb.symm h
        intro n6 hn6
        obtain rfl : (a2.length : Int) = n6 := (hn6.trans (congrArg (fun m : Nat => (m : Int)) (rlen (fun _ => rfl) a2))).symm
        cases h
        exact (Le.forget _ ⟨rfl, rfl, rfl, trivial⟩)
    · show Tri _ _ _ _
      refine tri_le hle ?_
      refine tri_cond rfl (fun hb => ?_) (fun hb => ?_)
      · replace h := bif_t hb h
        refine tri_seq ?_
        refine tri_region (by exact tokW) (by exact gok) [] [] rfl ?_
        show Tri _ _ _ _
        refine tri_ret ?_
        have hy := Option.some.inj h
        subst hy
        unfold Gives
        exact ⟨_, Le.refl _ _, rfl, rfl⟩
      · replace h := bif_f hb h
        refine tri_skip ?_
        show Tri _ _ _ _
        refine tri_seq ?_
        refine tri_seq ?_
        refine tri_region (by exact tokW) (by exact gok) [] [] rfl ?_
        show Tri _ _ _ _
        obtain ⟨fl, hl, ho1⟩ := bind_out h
        refine tri_fl (fl := fl) (fun z => match z with | _ => ⟨ofL [(1, .s (.sl 8 ((List.map enc_api_Op) a2))), (2, .s (.pt [.int .i64 a1_kind, .str a1_text, .int .i64 a1_cols, .sl 4 (Nd.encs a1_kids)]))], fun _ => none, 0⟩) ?_ (fun z σ' hz hle => ?_)
        · refine tri_block (tri_loopI (X := Nat × Int) (fun y => match y with | (k, x7) => ⟨ofL [(1, .s (.sl 8 ((List.map enc_api_Op) a2))), (2, .s (.pt [.int .i64 a1_kind, .str a1_text, .int .i64 a1_cols, .sl 4 (Nd.encs a1_kids)])), (5, .s (.int .i64 x7))], fun _ => none, 0⟩) (fun y => m_l16_DiffLeast_l1 n a2 y.1 y.2 = some fl) (fun y => y.1) (n, 0) hl ?_ ?_)
          · exact (Le.forget _ ⟨rfl, rfl, rfl, trivial⟩)
          · rintro ⟨k, x7⟩ h
            cases k with
            | zero => cases h
            | succ k =>
              replace h : m_l16_DiffLeast_l1 n a2 (k+1) x7 = some fl := h
              rw [m_l16_DiffLeast_l1] at h
              refine tri_seq ?_
              refine tri_seq ?_
              refine tri_region (by exact tokW) (by exact gok) [] [25] rfl ?_
              intro n8 hn8
              obtain rfl : (a2.length : Int) = n8 := (hn8.trans (congrArg (fun m : Nat => (m : Int)) (rlen (fun _ => rfl) a2))).symm
              show Tri _ _ _ _
              refine tri_cond rfl (fun hb => ?_) (fun hb => ?_)
              · replace h := bif_t hb h
                refine tri_skip ?_
                show Tri _ _ _ _
                refine tri_seq ?_
                refine tri_block ?_
                refine tri_seq ?_
                refine tri_region (by exact tokW) (by exact gok) [] [31] rfl ?_
                obtain ⟨⟨e9_kind, e9_row, e9_at, e9_n, e9_nodes, e9_slot, e9_old, e9_text⟩, he9, h⟩ := bind_out h
                refine And.intro (at_ok (fun _ => rfl) he9).1 ?_
                intro r10 hr10
                obtain rfl : [.int .i64 e9_kind, .sl 1 ((List.map (irow .i64)) e9_row), .int .i64 e9_at, .int .i64 e9_n, .sl 4 (Nd.encs e9_nodes), .int .i64 e9_slot, .str e9_old, .str e9_text] = r10 := (hr10.trans (at_ok (fun _ => rfl) he9).2.1).symm
                obtain ⟨y11, hy11, h⟩ := bind_out h
                refine ⟨_, ⟨_, _, _, hy11, rfl, rfl⟩, ?_⟩
                show Tri _ _ _ _
                refine tri_cond rfl (fun hb => ?_) (fun hb => ?_)
                · replace h := bif_t hb h
                  refine tri_seq ?_
                  refine tri_region (by exact tokW) (by exact gok) [] [] rfl ?_
                  show Tri _ _ _ _
                  refine tri_ret ?_
                  cases h
                  replace h : some _ = some _ := ho1
                  have hy := Option.some.inj h
                  subst hy
                  unfold Gives
                  exact ⟨_, Le.refl _ _, rfl, rfl⟩
                · replace h := bif_f hb h
                  refine tri_skip ?_
                  show Tri _ _ _ _
                  refine tri_region (by exact tokW) (by exact gok) [] [] rfl ?_
                  refine ⟨(k, IntKind.i64.wrap (x7 + 1)), h, (Le.forget _ ⟨rfl, rfl, rfl, trivial⟩), Nat.lt_succ_self k⟩
              · replace h := bif_f hb h
                refine tri_exit ?_
                cases h
                exact ⟨_, rfl, (Le.forget _ ⟨rfl, rfl, trivial⟩)⟩
        · subst hz
          obtain _ := z
          replace h := ho1
          show Tri _ _ _ _
          refine tri_le hle ?_
          refine tri_seq ?_
          refine tri_region (by exact tokW) (by exact gok) [6] [] rfl ?_
          obtain ⟨⟨⟨y12_kind, y12_text, y12_cols, y12_kids⟩, y13, y14⟩, hy12, h⟩ := bind_out h
          refine ⟨_, ⟨_, _, _, _, _, _, hy12, rfl, rfl⟩, ?_⟩
          show Tri _ _ _ _
          refine tri_le (Le.giveBox 0 [.int .i64 y12_kind, .str y12_text, .int .i64 y12_cols, .sl 4 (Nd.encs y12_kids)] rfl rfl) ?_
          refine tri_seq ?_
          refine tri_region (by exact tokW) (by exact gok) [] [] rfl ?_
          obtain ⟨⟨y15, y16⟩, hy15, h⟩ := bind_out h
          refine ⟨_, ⟨_, _, _, _, hy15, rfl, rfl⟩, ?_⟩
          show Tri _ _ _ _
          refine tri_seq ?_
          refine tri_seq ?_
          obtain ⟨x17, hj, h⟩ := bind_out h
          refine tri_post ⟨ofL [(2, .s (.pt [.int .i64 a1_kind, .str a1_text, .int .i64 a1_cols, .sl 4 (Nd.encs a1_kids)])), (6, .s (.pt [.int .i64 y12_kind, .str y12_text, .int .i64 y12_cols, .sl 4 (Nd.encs y12_kids)])), (9, .s (.int .i64 y15)), (57, .s (.bool x17))], fun _ => none, 0⟩ ?_ (fun σ' hle => ?_)
          · replace h := hj
            refine tri_region (by exact tokW) (by exact gok) [] [49, 53] rfl ?_
            intro b hb
            cases b with
            | true =>
              replace h := bif_t hb.symm h
              intro b hb
              subst hb
              cases h
              exact (Le.rename [] _ [] 0 ⟨rfl, rfl, rfl, rfl, trivial⟩ trivial rfl rfl rfl rfl rfl)
            | false =>
              replace h := bif_f hb.symm h
              intro b hb
              cases b with
              | true =>
                replace h := bif_t hb.symm h
                cases h
                exact (Le.rename [] _ [] 0 ⟨rfl, rfl, rfl, rfl, trivial⟩ trivial rfl rfl rfl rfl rfl)
              | false =>
                replace h := bif_f hb.symm h
                obtain ⟨y18, hy18, h⟩ := bind_out h
                refine ⟨_, ⟨_, _, _, _, hy18, rfl, rfl⟩, ?_⟩
                cases h
                exact (Le.rename [] _ [] 0 ⟨rfl, rfl, rfl, rfl, trivial⟩ trivial rfl rfl rfl rfl rfl)
          · show Tri _ _ _ _
            refine tri_le hle ?_
            refine tri_cond rfl (fun hb => ?_) (fun hb => ?_)
            · replace h := bif_t hb h
              refine tri_seq ?_
              refine tri_region (by exact tokW) (by exact gok) [] [] rfl ?_
              show Tri _ _ _ _
              refine tri_ret ?_
              have hy := Option.some.inj h
              subst hy
              unfold Gives
              exact ⟨_, Le.refl _ _, rfl, rfl⟩
            · replace h := bif_f hb h
              refine tri_skip ?_
              show Tri _ _ _ _
              refine tri_seq ?_
              refine tri_region (by exact tokW) (by exact gok) [] [] rfl ?_
              obtain ⟨⟨y19, y20⟩, hy19, h⟩ := bind_out h
              refine ⟨_, ⟨_, _, _, _, _, hy19, rfl, rfl⟩, ?_⟩
              show Tri _ _ _ _
              refine tri_seq ?_
              obtain ⟨x21, hj, h⟩ := bind_out h
              refine tri_post ⟨ofL [(4, .s (.bool x21))], fun _ => none, 0⟩ ?_ (fun σ' hle => ?_)
              · replace h := hj
                refine tri_region (by exact tokW) (by exact gok) [] [66] rfl ?_
                intro b hb
                cases b with
                | true =>
                  replace h := bif_t hb.symm h
                  cases h
                  exact (Le.forget _ ⟨rfl, trivial⟩)
                | false =>
                  replace h := bif_f hb.symm h
                  cases h
                  exact (Le.forget _ ⟨rfl, trivial⟩)
              · show Tri _ _ _ _
                refine tri_le hle ?_
                refine tri_ret ?_
                have hy := Option.some.inj h
                subst hy
                unfold Gives
                exact ⟨_, Le.refl _ _, rfl, rfl⟩

/- vinculum/vinculumlaw16.DiffMetric -/
def R_l16_DiffMetric (n : Nat) (xs : List AV) (r : Ret) : Prop := ∃ (a0 : Nd) (a1 : Nd) (a2 : Nd) (y0 : Bool), m_l16_DiffMetric n a0 a1 a2 = some y0 ∧ xs = [.agg ((Nd.enc a0).map .s), .agg ((Nd.enc a1).map .s), .agg ((Nd.enc a2).map .s)] ∧ r = .val (.s (.bool y0))
def S_l16_DiffMetric : PSpec := pspec fun xs r => ∃ n, R_l16_DiffMetric n xs r
set_option maxHeartbeats 2000000 in
set_option maxRecDepth 100000 in
theorem ok_l16_DiffMetric : PSound Try.prog 5 S_l16_DiffMetric := by
  have gok : ∀ f s, look? f [(7, S_l16_awake), (8, S_l16_few), (12, S_r09_Few), (10, S_r09_Valid), (9, S_diff_Cost), (16, S_r09_Equal)] = some s → PSound Try.prog f s := look_all (by
    simp only [List.forall_mem_cons]
    exact ⟨ok_l16_awake, ok_l16_few, ok_r09_Few, ok_r09_Valid, ok_diff_Cost, ok_r09_Equal, by simp⟩)
  refine psound tokW Try.call5 Try.func5 rfl (fun xs r h => by obtain ⟨n, _, _, _, _, _, rfl, _⟩ := h; show 3 ≤ 97; decide) 97 rfl ?_
  rintro xs r w0 G0 ⟨n, ⟨a1_kind, a1_text, a1_cols, a1_kids⟩, ⟨a2_kind, a2_text, a2_cols, a2_kids⟩, ⟨a3_kind, a3_text, a3_cols, a3_kids⟩, y0, h, rfl, rfl⟩ _
  rw [m_l16_DiffMetric] at h
  refine tri_seq ?_
  refine tri_region (by exact tokW) (by exact gok) [] [] rfl ?_
  show Tri _ _ _ _
  refine tri_seq ?_
  refine tri_seq ?_
  refine tri_region (by exact tokW) (by exact gok) [] [] rfl ?_
  obtain ⟨y4, hy4, h⟩ := bind_out h
  refine ⟨_, ⟨_, _, hy4, rfl, rfl⟩, ?_⟩
  show Tri _ _ _ _
  refine tri_cond rfl (fun hb => ?_) (fun hb => ?_)
  · replace h := bif_t hb h
    refine tri_seq ?_
    refine tri_region (by exact tokW) (by exact gok) [] [] rfl ?_
    show Tri _ _ _ _
    refine tri_ret ?_
    have hy := Option.some.inj h
    subst hy
    unfold Gives
    exact ⟨_, Le.refl _ _, rfl, rfl⟩
  · replace h := bif_f hb h
    refine tri_skip ?_
    show Tri _ _ _ _
    refine tri_seq ?_
    refine tri_seq ?_
    obtain ⟨x5, hj, h⟩ := bind_out h
    refine tri_post ⟨ofL [(3, .s (.pt [.int .i64 a1_kind, .str a1_text, .int .i64 a1_cols, .sl 4 (Nd.encs a1_kids)])), (4, .s (.pt [.int .i64 a2_kind, .str a2_text, .int .i64 a2_cols, .sl 4 (Nd.encs a2_kids)])), (5, .s (.pt [.int .i64 a3_kind, .str a3_text, .int .i64 a3_cols, .sl 4 (Nd.encs a3_kids)])), (40, .s (.bool x5))], fun _ => none, 0⟩ ?_ (fun σ' hle => ?_)
    · replace h := hj
      refine tri_region (by exact tokW) (by exact gok) [] [21, 26, 31, 36] rfl ?_
      obtain ⟨y6, hy6, h⟩ := bind_out h
      refine ⟨_, ⟨_, _, _, _, hy6, rfl, rfl⟩, ?_⟩
      intro b hb
      cases b with
      | true =>
        replace h := bif_t hb.symm h
        intro b hb
        subst hb
        intro b hb
        subst hb
        intro b hb
        subst hb
        cases h
        exact (Le.forget _ ⟨rfl, rfl, rfl, rfl, trivial⟩)
      | false =>
        replace h := bif_f hb.symm h
        obtain ⟨y7, hy7, h⟩ := bind_out h
        refine ⟨_, ⟨_, _, _, _, hy7, rfl, rfl⟩, ?_⟩
        intro b hb
        cases b with
        | true =>
          replace h := bif_t hb.symm h
          intro b hb
          subst hb
          intro b hb
          subst hb
          cases h
          exact (Le.forget _ ⟨rfl, rfl, rfl, rfl, trivial⟩)
        | false =>
          replace h := bif_f hb.symm h
          obtain ⟨y8, hy8, h⟩ := bind_out h
          refine ⟨_, ⟨_, _, _, hy8, rfl, rfl⟩, ?_⟩
          intro b hb
          cases b with
          | true =>
            replace h := bif_t hb.symm h
            intro b hb
            subst hb
            cases h
            exact (Le.forget _ ⟨rfl, rfl, rfl, rfl, trivial⟩)
          | false =>
            replace h := bif_f hb.symm h
            obtain ⟨y9, hy9, h⟩ := bind_out h
            refine ⟨_, ⟨_, _, _, hy9, rfl, rfl⟩, ?_⟩
            intro b hb
            cases b with
            | true =>
              replace h := bif_t hb.symm h
              cases h
              exact (Le.forget _ ⟨rfl, rfl, rfl, rfl, trivial⟩)
            | false =>
              replace h := bif_f hb.symm h
              obtain ⟨y10, hy10, h⟩ := bind_out h
              refine ⟨_, ⟨_, _, _, hy10, rfl, rfl⟩, ?_⟩
              cases h
              exact (Le.forget _ ⟨rfl, rfl, rfl, rfl, trivial⟩)
    · show Tri _ _ _ _
      refine tri_le hle ?_
      refine tri_cond rfl (fun hb => ?_) (fun hb => ?_)
      · replace h := bif_t hb h
        refine tri_seq ?_
        refine tri_region (by exact tokW) (by exact gok) [] [] rfl ?_
        show Tri _ _ _ _
        refine tri_ret ?_
        have hy := Option.some.inj h
        subst hy
        unfold Gives
        exact ⟨_, Le.refl _ _, rfl, rfl⟩
      · replace h := bif_f hb h
        refine tri_skip ?_
        show Tri _ _ _ _
        refine tri_seq ?_
        refine tri_region (by exact tokW) (by exact gok) [] [] rfl ?_
        obtain ⟨⟨y11, y12⟩, hy11, h⟩ := bind_out h
        refine ⟨_, ⟨_, _, _, _, _, hy11, rfl, rfl⟩, ?_⟩
        show Tri _ _ _ _
        refine tri_seq ?_
        refine tri_region (by exact tokW) (by exact gok) [] [] rfl ?_
        obtain ⟨⟨y13, y14⟩, hy13, h⟩ := bind_out h
        refine ⟨_, ⟨_, _, _, _, _, hy13, rfl, rfl⟩, ?_⟩
        show Tri _ _ _ _
        refine tri_seq ?_
        refine tri_region (by exact tokW) (by exact gok) [] [] rfl ?_
        obtain ⟨⟨y15, y16⟩, hy15, h⟩ := bind_out h
        refine ⟨_, ⟨_, _, _, _, _, hy15, rfl, rfl⟩, ?_⟩
        show Tri _ _ _ _
        refine tri_seq ?_
        refine tri_region (by exact tokW) (by exact gok) [] [] rfl ?_
        obtain ⟨⟨y17, y18⟩, hy17, h⟩ := bind_out h
        refine ⟨_, ⟨_, _, _, _, _, hy17, rfl, rfl⟩, ?_⟩
        show Tri _ _ _ _
        refine tri_seq ?_
        refine tri_seq ?_
        obtain ⟨x19, hj, h⟩ := bind_out h
        refine tri_post ⟨ofL [(3, .s (.pt [.int .i64 a1_kind, .str a1_text, .int .i64 a1_cols, .sl 4 (Nd.encs a1_kids)])), (4, .s (.pt [.int .i64 a2_kind, .str a2_text, .int .i64 a2_cols, .sl 4 (Nd.encs a2_kids)])), (7, .s (.int .i64 y11)), (9, .s (.int .i64 y13)), (11, .s (.int .i64 y15)), (13, .s (.int .i64 y17)), (78, .s (.bool x19))], fun _ => none, 0⟩ ?_ (fun σ' hle => ?_)
        · replace h := hj
          refine tri_region (by exact tokW) (by exact gok) [] [67, 71, 75] rfl ?_
          intro b hb
          cases b with
          | true =>
            replace h := bif_t hb.symm h
            intro b hb
            subst hb
            intro b hb
            subst hb
            cases h
            exact (Le.forget _ ⟨rfl, rfl, rfl, rfl, rfl, rfl, rfl, trivial⟩)
          | false =>
            replace h := bif_f hb.symm h
            intro b hb
            cases b with
            | true =>
              replace h := bif_t hb.symm h
              intro b hb
              subst hb
              cases h
              exact (Le.forget _ ⟨rfl, rfl, rfl, rfl, rfl, rfl, rfl, trivial⟩)
            | false =>
              replace h := bif_f hb.symm h
              intro b hb
              cases b with
              | true =>
                replace h := bif_t hb.symm h
                cases h
                exact (Le.forget _ ⟨rfl, rfl, rfl, rfl, rfl, rfl, rfl, trivial⟩)
              | false =>
                replace h := bif_f hb.symm h
                cases h
                exact (Le.forget _ ⟨rfl, rfl, rfl, rfl, rfl, rfl, rfl, trivial⟩)
        · show Tri _ _ _ _
          refine tri_le hle ?_
          refine tri_cond rfl (fun hb => ?_) (fun hb => ?_)
          · replace h := bif_t hb h
            refine tri_seq ?_
            refine tri_region (by exact tokW) (by exact gok) [] [] rfl ?_
            show Tri _ _ _ _
            refine tri_ret ?_
            have hy := Option.some.inj h
            subst hy
            unfold Gives
            exact ⟨_, Le.refl _ _, rfl, rfl⟩
          · replace h := bif_f hb h
            refine tri_skip ?_
            show Tri _ _ _ _
            refine tri_seq ?_
            obtain ⟨x20, hj, h⟩ := bind_out h
            refine tri_post ⟨ofL [(6, .s (.bool x20))], fun _ => none, 0⟩ ?_ (fun σ' hle => ?_)
            · replace h := hj
              refine tri_region (by exact tokW) (by exact gok) [] [85, 90] rfl ?_
              obtain ⟨y21, hy21, h⟩ := bind_out h
              refine ⟨_, ⟨_, _, _, _, hy21, rfl, rfl⟩, ?_⟩
              intro b hb
              cases b with
              | true =>
                replace h := bif_t hb.symm h
                intro b hb
                cases b with
                | true =>
                  replace h := bif_t hb.symm h
                  cases h
                  exact (Le.forget _ ⟨rfl, trivial⟩)
                | false =>
                  replace h := bif_f hb.symm h
                  cases h
                  exact (Le.forget _ ⟨rfl, trivial⟩)
              | false =>
                replace h := bif_f hb.symm h
                intro b hb
                subst hb
                cases h
                exact (Le.forget _ ⟨rfl, trivial⟩)
            · show Tri _ _ _ _
              refine tri_le hle ?_
              refine tri_ret ?_
              have hy := Option.some.inj h
              subst hy
              unfold Gives
              exact ⟨_, Le.refl _ _, rfl, rfl⟩

/- vinculum/diff.Weight -/
def R_diff_Weight (n : Nat) (xs : List AV) (r : Ret) : Prop := ∃ (a0 : List (Int × List Int × Int × Int × List Nd × Int × List UInt8 × List UInt8)) (y0 : Int) (y1 : Int), m_diff_Weight n a0 = some (y0, y1) ∧ xs = [.s (.sl 8 ((List.map enc_api_Op) a0))] ∧ r = .val (.tup [.s (.int .i64 y0), .s (.int .i64 y1)])
def S_diff_Weight : PSpec := pspec fun xs r => ∃ n, R_diff_Weight n xs r
set_option maxHeartbeats 2000000 in
set_option maxRecDepth 100000 in
theorem ok_diff_Weight : PSound Try.prog 18 S_diff_Weight := by
  have gok : ∀ f s, look? f [(29, S_node_Count)] = some s → PSound Try.prog f s := look_all (by
    simp only [List.forall_mem_cons]
    exact ⟨ok_node_Count, by simp⟩)
  refine psound tokW Try.call18 Try.func18 rfl (fun xs r h => by obtain ⟨n, _, _, _, _, rfl, _⟩ := h; show 1 ≤ 38; decide) 38 rfl ?_
  rintro xs r w0 G0 ⟨n, ops1, y0, y1, h, rfl, rfl⟩ _
  rw [m_diff_Weight] at h
  refine tri_seq ?_
  refine tri_region (by exact tokW) (by exact gok) [] [] rfl ?_
  show Tri _ _ _ _
  refine tri_seq ?_
  refine tri_region (by exact tokW) (by exact gok) [] [] rfl ?_
  show Tri _ _ _ _
  refine tri_seq ?_
  refine tri_seq ?_
  refine tri_region (by exact tokW) (by exact gok) [] [10] rfl ?_
  intro n2 hn2
  obtain rfl : (ops1.length : Int) = n2 := (hn2.trans (congrArg (fun m : Nat => (m : Int)) (rlen (fun _ => rfl) ops1))).symm
  show Tri _ _ _ _
  obtain ⟨fl, hl, ho1⟩ := bind_out h
  refine tri_fl (fl := fl) (fun z => match z with | cost5 => ⟨ofL [(4, .s (.int .i64 cost5))], fun _ => none, 0⟩) ?_ (fun cost5 σ' hz hle => ?_)
  · refine tri_block (tri_loopI (X := Nat × Int × Int) (fun y => match y with | (k, x3, cost4) => ⟨ofL [(4, .s (.int .i64 cost4)), (9, .s (.sl 8 ((List.map enc_api_Op) ops1))), (10, .s (.int .i64 (ops1.length : Int))), (11, .s (.int .i64 x3))], fun _ => none, 0⟩) (fun y => m_diff_Weight_l1 n ops1 y.1 y.2.1 y.2.2 = some fl) (fun y => y.1) (n, 0, 0) hl ?_ ?_)
    · exact (Le.forget _ ⟨rfl, rfl, rfl, rfl, trivial⟩)
    · rintro ⟨k, x3, cost4⟩ h
      cases k with
      | zero => cases h
      | succ k =>
        replace h : m_diff_Weight_l1 n ops1 (k+1) x3 cost4 = some fl := h
        rw [m_diff_Weight_l1] at h
        refine tri_seq ?_
        refine tri_region (by exact tokW) (by exact gok) [] [] rfl ?_
        show Tri _ _ _ _
        refine tri_seq ?_
        refine tri_cond rfl (fun hb => ?_) (fun hb => ?_)
        · replace h := bif_t hb h
          refine tri_skip ?_
          show Tri _ _ _ _
          refine tri_seq ?_
          obtain ⟨fl, hj, ho2⟩ := bind_out h
          refine tri_fl (fl := fl) (fun z => match z with | cost6 => ⟨ofL [(4, .s (.int .i64 cost6)), (9, .s (.sl 8 ((List.map enc_api_Op) ops1))), (10, .s (.int .i64 (ops1.length : Int))), (11, .s (.int .i64 x3))], fun _ => none, 0⟩) ?_ (fun cost6 σ' hz hle => ?_)
          · replace h := hj
            refine tri_block ?_
            refine tri_seq ?_
            refine tri_region (by exact tokW) (by exact gok) [6] [13] rfl ?_
            obtain ⟨⟨e7_kind, e7_row, e7_at, e7_n, e7_nodes, e7_slot, e7_old, e7_text⟩, he7, h⟩ := bind_out h
            refine And.intro (at_ok (fun _ => rfl) he7).1 ?_
            intro r8 hr8
            obtain rfl : [.int .i64 e7_kind, .sl 1 ((List.map (irow .i64)) e7_row), .int .i64 e7_at, .int .i64 e7_n, .sl 4 (Nd.encs e7_nodes), .int .i64 e7_slot, .str e7_old, .str e7_text] = r8 := (hr8.trans (at_ok (fun _ => rfl) he7).2.1).symm
            show Tri _ _ _ _
            refine tri_le (Le.giveBox 0 [.int .i64 e7_kind, .sl 1 ((List.map (irow .i64)) e7_row), .int .i64 e7_at, .int .i64 e7_n, .sl 4 (Nd.encs e7_nodes), .int .i64 e7_slot, .str e7_old, .str e7_text] rfl rfl) ?_
            refine tri_seq ?_
            refine tri_region (by exact tokW) (by exact gok) [] [] rfl ?_
            show Tri _ _ _ _
            refine tri_block ?_
            refine tri_seq ?_
            refine tri_seq ?_
            refine tri_region (by exact tokW) (by exact gok) [] [] rfl ?_
            show Tri _ _ _ _
            obtain ⟨x9, hj, h⟩ := bind_out h
            refine tri_post ⟨ofL [(4, .s (.int .i64 cost4)), (6, .s (.pt [.int .i64 e7_kind, .sl 1 ((List.map (irow .i64)) e7_row), .int .i64 e7_at, .int .i64 e7_n, .sl 4 (Nd.encs e7_nodes), .int .i64 e7_slot, .str e7_old, .str e7_text])), (9, .s (.sl 8 ((List.map enc_api_Op) ops1))), (10, .s (.int .i64 (ops1.length : Int))), (11, .s (.int .i64 x3)), (16, .s (.int .i64 e7_kind)), (17, .s (.bool x9))], fun _ => none, 0⟩ ?_ (fun σ' hle => ?_)
            · replace h := hj
              refine tri_cond rfl (fun hb => ?_) (fun hb => ?_)
              · replace h := bif_t hb h
                refine tri_skip ?_
                cases h
                exact (Le.rename [] _ [] 0 ⟨rfl, rfl, rfl, rfl, rfl, rfl, rfl, trivial⟩ trivial rfl rfl rfl rfl rfl)
              · replace h := bif_f hb h
                refine tri_region (by exact tokW) (by exact gok) [] [] rfl ?_
                cases h
                exact (Le.rename [] _ [] 0 ⟨rfl, rfl, rfl, rfl, rfl, rfl, rfl, trivial⟩ trivial rfl rfl rfl rfl rfl)
            · show Tri _ _ _ _
              refine tri_le hle ?_
              refine tri_cond rfl (fun hb => ?_) (fun hb => ?_)
              · replace h := bif_t hb h
                refine tri_seq ?_
                refine tri_region (by exact tokW) (by exact gok) [] [22] rfl ?_
                intro n10 hn10
                obtain rfl : (e7_nodes.length : Int) = n10 := (hn10.trans (congrArg (fun m : Nat => (m : Int)) (rlen Nd.encs_eq e7_nodes))).symm
                show Tri _ _ _ _
                obtain ⟨cost13, hl, h⟩ := bind_out h
                refine tri_post ⟨ofL [(4, .s (.int .i64 cost13)), (9, .s (.sl 8 ((List.map enc_api_Op) ops1))), (10, .s (.int .i64 (ops1.length : Int))), (11, .s (.int .i64 x3))], fun _ => none, 0⟩ ?_ (fun σ' hle => ?_)
                · refine tri_block (tri_loopI (X := Nat × Int × Int) (fun y => match y with | (k, x11, cost12) => ⟨ofL [(4, .s (.int .i64 cost12)), (9, .s (.sl 8 ((List.map enc_api_Op) ops1))), (10, .s (.int .i64 (ops1.length : Int))), (11, .s (.int .i64 x3)), (21, .s (.sl 4 (Nd.encs e7_nodes))), (22, .s (.int .i64 (e7_nodes.length : Int))), (23, .s (.int .i64 x11))], fun _ => none, 0⟩) (fun y => m_diff_Weight_l2 n e7_nodes y.1 y.2.1 y.2.2 = some cost13) (fun y => y.1) (n, 0, cost4) hl ?_ ?_)
                  · exact (Le.forget _ ⟨rfl, rfl, rfl, rfl, rfl, rfl, rfl, trivial⟩)
                  · rintro ⟨k, x11, cost12⟩ h
                    cases k with
                    | zero => cases h
                    | succ k =>
                      replace h : m_diff_Weight_l2 n e7_nodes (k+1) x11 cost12 = some cost13 := h
                      rw [m_diff_Weight_l2] at h
                      refine tri_seq ?_
                      refine tri_region (by exact tokW) (by exact gok) [] [] rfl ?_
                      show Tri _ _ _ _
                      refine tri_seq ?_
                      refine tri_cond rfl (fun hb => ?_) (fun hb => ?_)
                      · replace h := bif_t hb h
                        refine tri_skip ?_
                        show Tri _ _ _ _
                        refine tri_seq ?_
                        refine tri_block ?_
                        refine tri_seq ?_
                        refine tri_region (by exact tokW) (by exact gok) [8] [25] rfl ?_
                        obtain ⟨⟨e14_kind, e14_text, e14_cols, e14_kids⟩, he14, h⟩ := bind_out h
                        refine And.intro (at_ok Nd.encs_eq he14).1 ?_
                        intro r15 hr15
                        obtain rfl : [.int .i64 e14_kind, .str e14_text, .int .i64 e14_cols, .sl 4 (Nd.encs e14_kids)] = r15 := (hr15.trans (at_ok Nd.encs_eq he14).2.1).symm
                        show Tri _ _ _ _
                        refine tri_le (Le.giveBox 0 [.int .i64 e14_kind, .str e14_text, .int .i64 e14_cols, .sl 4 (Nd.encs e14_kids)] rfl rfl) ?_
                        refine tri_region (by exact tokW) (by exact gok) [] [] rfl ?_
                        obtain ⟨y16, hy16, h⟩ := bind_out h
                        refine ⟨_, ⟨_, _, _, hy16, rfl, rfl⟩, ?_⟩
                        show Tri _ _ _ _
                        refine tri_region (by exact tokW) (by exact gok) [] [] rfl ?_
                        refine ⟨(k, IntKind.i64.wrap (x11 + 1), IntKind.i64.wrap (cost12 + y16)), h, (Le.rename [] _ [] 0 ⟨rfl, rfl, rfl, rfl, rfl, rfl, rfl, trivial⟩ trivial rfl rfl rfl rfl rfl), Nat.lt_succ_self k⟩
                      · replace h := bif_f hb h
                        refine tri_exit ?_
                        cases h
                        exact (Le.forget _ ⟨rfl, rfl, rfl, rfl, trivial⟩)
                · cases h
                  exact ⟨_, rfl, (Le.trans hle (Le.forget _ ⟨rfl, rfl, rfl, rfl, trivial⟩))⟩
              · replace h := bif_f hb h
                refine tri_seq ?_
                refine tri_region (by exact tokW) (by exact gok) [] [] rfl ?_
                show Tri _ _ _ _
                refine tri_cond rfl (fun hb => ?_) (fun hb => ?_)
                · replace h := bif_t hb h
                  refine tri_region (by exact tokW) (by exact gok) [] [] rfl ?_
                  cases h
                  exact ⟨_, rfl, (Le.forget _ ⟨rfl, rfl, rfl, rfl, trivial⟩)⟩
                · replace h := bif_f hb h
                  refine tri_seq ?_
                  refine tri_region (by exact tokW) (by exact gok) [] [] rfl ?_
                  show Tri _ _ _ _
                  refine tri_ret ?_
                  cases h
                  replace h : some _ = some _ := ho2
                  cases h
                  replace h : some _ = some _ := ho1
                  obtain ⟨hj1, hk1⟩ := Prod.mk.inj (Option.some.inj h)
                  subst hj1
                  subst hk1
                  unfold Gives
                  exact ⟨_, Le.refl _ _, rfl, rfl⟩
          · subst hz
            replace h := ho2
            show Tri _ _ _ _
            refine tri_le hle ?_
            refine tri_region (by exact tokW) (by exact gok) [] [] rfl ?_
            refine ⟨(k, IntKind.i64.wrap (x3 + 1), cost6), h, (Le.forget _ ⟨rfl, rfl, rfl, rfl, trivial⟩), Nat.lt_succ_self k⟩
        · replace h := bif_f hb h
          refine tri_exit ?_
          cases h
          exact ⟨_, rfl, (Le.forget _ ⟨rfl, trivial⟩)⟩
  · subst hz
    replace h := ho1
    show Tri _ _ _ _
    refine tri_le hle ?_
    refine tri_seq ?_
    refine tri_region (by exact tokW) (by exact gok) [] [] rfl ?_
    show Tri _ _ _ _
    refine tri_ret ?_
    obtain ⟨hj1, hk1⟩ := Prod.mk.inj (Option.some.inj h)
    subst hj1
    subst hk1
    unfold Gives
    exact ⟨_, Le.refl _ _, rfl, rfl⟩

/- vinculum/vinculumlaw16.DiffWeight -/
def R_l16_DiffWeight (n : Nat) (xs : List AV) (r : Ret) : Prop := ∃ (a0 : List (Int × List Int × Int × Int × List Nd × Int × List UInt8 × List UInt8)) (y0 : Bool), m_l16_DiffWeight n a0 = some y0 ∧ xs = [.s (.sl 8 ((List.map enc_api_Op) a0))] ∧ r = .val (.s (.bool y0))
def S_l16_DiffWeight : PSpec := pspec fun xs r => ∃ n, R_l16_DiffWeight n xs r
set_option maxHeartbeats 2000000 in
set_option maxRecDepth 100000 in
theorem ok_l16_DiffWeight : PSound Try.prog 6 S_l16_DiffWeight := by
  have gok : ∀ f s, look? f [(7, S_l16_awake), (17, S_r09_ToRow), (12, S_r09_Few), (18, S_diff_Weight), (15, S_r16_Weight)] = some s → PSound Try.prog f s := look_all (by
    simp only [List.forall_mem_cons]
    exact ⟨ok_l16_awake, ok_r09_ToRow, ok_r09_Few, ok_diff_Weight, ok_r16_Weight, by simp⟩)
  refine psound tokW Try.call6 Try.func6 rfl (fun xs r h => by obtain ⟨n, _, _, _, rfl, _⟩ := h; show 1 ≤ 45; decide) 45 rfl ?_
  rintro xs r w0 G0 ⟨n, ops1, y0, h, rfl, rfl⟩ _
  rw [m_l16_DiffWeight] at h
  refine tri_seq ?_
  refine tri_region (by exact tokW) (by exact gok) [] [] rfl ?_
  show Tri _ _ _ _
  refine tri_seq ?_
  refine tri_seq ?_
  refine tri_region (by exact tokW) (by exact gok) [] [] rfl ?_
  obtain ⟨y2, hy2, h⟩ := bind_out h
  refine ⟨_, ⟨_, _, hy2, rfl, rfl⟩, ?_⟩
  show Tri _ _ _ _
  refine tri_cond rfl (fun hb => ?_) (fun hb => ?_)
  · replace h := bif_t hb h
    refine tri_seq ?_
    refine tri_region (by exact tokW) (by exact gok) [] [] rfl ?_
    show Tri _ _ _ _
    refine tri_ret ?_
    have hy := Option.some.inj h
    subst hy
    unfold Gives
    exact ⟨_, Le.refl _ _, rfl, rfl⟩
  · replace h := bif_f hb h
    refine tri_skip ?_
    show Tri _ _ _ _
    refine tri_seq ?_
    refine tri_seq ?_
    refine tri_region (by exact tokW) (by exact gok) [] [11] rfl ?_
    intro n3 hn3
    obtain rfl : (ops1.length : Int) = n3 := (hn3.trans (congrArg (fun m : Nat => (m : Int)) (rlen (fun _ => rfl) ops1))).symm
    show Tri _ _ _ _
    refine tri_cond rfl (fun hb => ?_) (fun hb => ?_)
    · replace h := bif_t hb h
      refine tri_seq ?_
      refine tri_region (by exact tokW) (by exact gok) [] [] rfl ?_
      show Tri _ _ _ _
      refine tri_ret ?_
      have hy := Option.some.inj h
      subst hy
      unfold Gives
      exact ⟨_, Le.refl _ _, rfl, rfl⟩
    · replace h := bif_f hb h
      refine tri_skip ?_
      show Tri _ _ _ _
      refine tri_seq ?_
      refine tri_seq ?_
      refine tri_region (by exact tokW) (by exact gok) [] [] rfl ?_
      show Tri _ _ _ _
      obtain ⟨fl, hl, ho1⟩ := bind_out h
      refine tri_fl (fl := fl) (fun z => match z with | _ => ⟨ofL [(0, .s (.sl 8 ((List.map enc_api_Op) ops1)))], fun _ => none, 0⟩) ?_ (fun z σ' hz hle => ?_)
      · refine tri_block (tri_loopI (X := Nat × Int) (fun y => match y with | (k, i4) => ⟨ofL [(0, .s (.sl 8 ((List.map enc_api_Op) ops1))), (3, .s (.int .i64 i4))], fun _ => none, 0⟩) (fun y => m_l16_DiffWeight_l1 n ops1 y.1 y.2 = some fl) (fun y => y.1) (n, 0) hl ?_ ?_)
        · exact (Le.forget _ ⟨rfl, rfl, trivial⟩)
        · rintro ⟨k, i4⟩ h
          cases k with
          | zero => cases h
          | succ k =>
            replace h : m_l16_DiffWeight_l1 n ops1 (k+1) i4 = some fl := h
            rw [m_l16_DiffWeight_l1] at h
            refine tri_seq ?_
            refine tri_seq ?_
            refine tri_region (by exact tokW) (by exact gok) [] [15] rfl ?_
            intro n5 hn5
            obtain rfl : (ops1.length : Int) = n5 := (hn5.trans (congrArg (fun m : Nat => (m : Int)) (rlen (fun _ => rfl) ops1))).symm
            show Tri _ _ _ _
            refine tri_cond rfl (fun hb => ?_) (fun hb => ?_)
            · replace h := bif_t hb h
              refine tri_skip ?_
              show Tri _ _ _ _
              refine tri_seq ?_
              refine tri_block ?_
              refine tri_seq ?_
              refine tri_region (by exact tokW) (by exact gok) [] [21] rfl ?_
              obtain ⟨⟨e6_kind, e6_row, e6_at, e6_n, e6_nodes, e6_slot, e6_old, e6_text⟩, he6, h⟩ := bind_out h
              refine And.intro (at_ok (fun _ => rfl) he6).1 ?_
              intro r7 hr7
              obtain rfl : [.int .i64 e6_kind, .sl 1 ((List.map (irow .i64)) e6_row), .int .i64 e6_at, .int .i64 e6_n, .sl 4 (Nd.encs e6_nodes), .int .i64 e6_slot, .str e6_old, .str e6_text] = r7 := (hr7.trans (at_ok (fun _ => rfl) he6).2.1).symm
              obtain ⟨⟨y8_kind, y8_text, y8_cols, y8_kids⟩, hy8, h⟩ := bind_out h
              refine ⟨_, ⟨_, _, hy8, rfl, rfl⟩, ?_⟩
              obtain ⟨y9, hy9, h⟩ := bind_out h
              refine ⟨_, ⟨_, _, _, _, hy9, rfl, rfl⟩, ?_⟩
              show Tri _ _ _ _
              refine tri_cond rfl (fun hb => ?_) (fun hb => ?_)
              · replace h := bif_t hb h
                refine tri_seq ?_
                refine tri_region (by exact tokW) (by exact gok) [] [] rfl ?_
                show Tri _ _ _ _
                refine tri_ret ?_
                cases h
                replace h : some _ = some _ := ho1
                have hy := Option.some.inj h
                subst hy
                unfold Gives
                exact ⟨_, Le.refl _ _, rfl, rfl⟩
              · replace h := bif_f hb h
                refine tri_skip ?_
                show Tri _ _ _ _
                refine tri_region (by exact tokW) (by exact gok) [] [] rfl ?_
                refine ⟨(k, IntKind.i64.wrap (i4 + 1)), h, (Le.forget _ ⟨rfl, rfl, trivial⟩), Nat.lt_succ_self k⟩
            · replace h := bif_f hb h
              refine tri_exit ?_
              cases h
              exact ⟨_, rfl, (Le.forget _ ⟨rfl, trivial⟩)⟩
      · subst hz
        obtain _ := z
        replace h := ho1
        show Tri _ _ _ _
        refine tri_le hle ?_
        refine tri_seq ?_
        refine tri_region (by exact tokW) (by exact gok) [] [] rfl ?_
        obtain ⟨⟨y10, y11⟩, hy10, h⟩ := bind_out h
        refine ⟨_, ⟨_, _, _, _, hy10, rfl, rfl⟩, ?_⟩
        show Tri _ _ _ _
        refine tri_seq ?_
        refine tri_region (by exact tokW) (by exact gok) [] [] rfl ?_
        obtain ⟨⟨y12, y13⟩, hy12, h⟩ := bind_out h
        refine ⟨_, ⟨_, _, _, _, hy12, rfl, rfl⟩, ?_⟩
        show Tri _ _ _ _
        refine tri_seq ?_
        obtain ⟨x14, hj, h⟩ := bind_out h
        refine tri_post ⟨ofL [(2, .s (.bool x14))], fun _ => none, 0⟩ ?_ (fun σ' hle => ?_)
        · replace h := hj
          refine tri_region (by exact tokW) (by exact gok) [] [40] rfl ?_
          intro b hb
          cases b with
          | true =>
            replace h := bif_t hb.symm h
            cases h
            exact (Le.forget _ ⟨rfl, trivial⟩)
          | false =>
            replace h := bif_f hb.symm h
            cases h
            exact (Le.forget _ ⟨rfl, trivial⟩)
        · show Tri _ _ _ _
          refine tri_le hle ?_
          refine tri_ret ?_
          have hy := Option.some.inj h
          subst hy
          unfold Gives
          exact ⟨_, Le.refl _ _, rfl, rfl⟩

end Go.Proofs.Ytplekejomocalaa
