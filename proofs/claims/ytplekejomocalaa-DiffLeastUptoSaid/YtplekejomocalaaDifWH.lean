/-
  Walks, printed by gw.py.
-/
import Derived.Test.YtplekejomocalaaDifWG
set_option linter.unusedVariables false
set_option linter.unusedSimpArgs false
namespace Go.Proofs.Ytplekejomocalaa
open Go.Abs

/- vinculum/vinculumlaw16.DiffCost -/
def R_l16_DiffCost (n : Nat) (xs : List AV) (r : Ret) : Prop := ∃ (a0 : Nd) (a1 : Nd) (y0 : Bool), m_l16_DiffCost n a0 a1 = some y0 ∧ xs = [.agg ((Nd.enc a0).map .s), .agg ((Nd.enc a1).map .s)] ∧ r = .val (.s (.bool y0))
def S_l16_DiffCost : PSpec := pspec fun xs r => ∃ n, R_l16_DiffCost n xs r
set_option maxHeartbeats 2000000 in
set_option maxRecDepth 100000 in
theorem ok_l16_DiffCost : PSound Try.prog 3 S_l16_DiffCost := by
  have gok : ∀ f s, look? f [(7, S_l16_awake), (8, S_l16_few), (9, S_diff_Cost), (10, S_r09_Valid), (11, S_r16_Distance)] = some s → PSound Try.prog f s := look_all (by
    simp only [List.forall_mem_cons]
    exact ⟨ok_l16_awake, ok_l16_few, ok_diff_Cost, ok_r09_Valid, ok_r16_Distance, by simp⟩)
  refine psound tokW Try.call3 Try.func3 rfl (fun xs r h => by obtain ⟨n, _, _, _, _, rfl, _⟩ := h; show 2 ≤ 44; decide) 44 rfl ?_
  rintro xs r w0 G0 ⟨n, ⟨a1_kind, a1_text, a1_cols, a1_kids⟩, ⟨b2_kind, b2_text, b2_cols, b2_kids⟩, y0, h, rfl, rfl⟩ _
  rw [m_l16_DiffCost] at h
  refine tri_seq ?_
  refine tri_region (by exact tokW) (by exact gok) [] [] rfl ?_
  show Tri _ _ _ _
  refine tri_seq ?_
  refine tri_seq ?_
  refine tri_region (by exact tokW) (by exact gok) [] [] rfl ?_
  obtain ⟨y3, hy3, h⟩ := bind_out h
  refine ⟨_, ⟨_, _, hy3, rfl, rfl⟩, ?_⟩
  show Tri _ _ _ _
  refine tri_cond rfl (fun hb => ?_) (fun hb => ?_)
  · replace h := bif_t hb h
    refine tri_seq ?_
    refine tri_region (by exact tokW) (by exact gok) [] [] rfl ?_
    show Tri _ _ _ _
    refine tri_ret ?_
    have hy := Option.some.inj h
    subst hy
    unfold Gives
    exact ⟨_, Le.refl _ _, rfl, rfl⟩
  · replace h := bif_f hb h
    refine tri_skip ?_
    show Tri _ _ _ _
    refine tri_seq ?_
    refine tri_seq ?_
    refine tri_region (by exact tokW) (by exact gok) [] [] rfl ?_
    obtain ⟨y4, hy4, h⟩ := bind_out h
    refine ⟨_, ⟨_, _, _, _, hy4, rfl, rfl⟩, ?_⟩
    show Tri _ _ _ _
    refine tri_cond rfl (fun hb => ?_) (fun hb => ?_)
    · replace h := bif_t hb h
      refine tri_seq ?_
      refine tri_region (by exact tokW) (by exact gok) [] [] rfl ?_
      show Tri _ _ _ _
      refine tri_ret ?_
      have hy := Option.some.inj h
      subst hy
      unfold Gives
      exact ⟨_, Le.refl _ _, rfl, rfl⟩
    · replace h := bif_f hb h
      refine tri_skip ?_
      show Tri _ _ _ _
      refine tri_seq ?_
      refine tri_region (by exact tokW) (by exact gok) [] [] rfl ?_
      obtain ⟨⟨y5, y6⟩, hy5, h⟩ := bind_out h
      refine ⟨_, ⟨_, _, _, _, _, hy5, rfl, rfl⟩, ?_⟩
      show Tri _ _ _ _
      refine tri_seq ?_
      refine tri_seq ?_
      obtain ⟨x7, hj, h⟩ := bind_out h
      refine tri_post ⟨ofL [(2, .s (.pt [.int .i64 a1_kind, .str a1_text, .int .i64 a1_cols, .sl 4 (Nd.encs a1_kids)])), (3, .s (.pt [.int .i64 b2_kind, .str b2_text, .int .i64 b2_cols, .sl 4 (Nd.encs b2_kids)])), (5, .s (.int .i64 y5)), (6, .s (.int .i64 y6)), (26, .s (.bool x7))], fun _ => none, 0⟩ ?_ (fun σ' hle => ?_)
      · replace h := hj
        refine tri_region (by exact tokW) (by exact gok) [] [22] rfl ?_
        obtain ⟨y8, hy8, h⟩ := bind_out h
        refine ⟨_, ⟨_, _, _, hy8, rfl, rfl⟩, ?_⟩
        intro b hb
        cases b with
        | true =>
          replace h := bif_t hb.symm h
          cases h
          exact (Le.forget _ ⟨rfl, rfl, rfl, rfl, rfl, trivial⟩)
        | false =>
          replace h := bif_f hb.symm h
          obtain ⟨y9, hy9, h⟩ := bind_out h
          refine ⟨_, ⟨_, _, _, hy9, rfl, rfl⟩, ?_⟩
          cases h
          exact (Le.forget _ ⟨rfl, rfl, rfl, rfl, rfl, trivial⟩)
      · show Tri _ _ _ _
        refine tri_le hle ?_
        refine tri_cond rfl (fun hb => ?_) (fun hb => ?_)
        · replace h := bif_t hb h
          refine tri_seq ?_
          obtain ⟨x10, hj, h⟩ := bind_out h
          refine tri_post ⟨ofL [(4, .s (.bool x10))], fun _ => none, 0⟩ ?_ (fun σ' hle => ?_)
          · replace h := hj
            refine tri_region (by exact tokW) (by exact gok) [] [29] rfl ?_
            intro b hb
            cases b with
            | true =>
              replace h := bif_t hb.symm h
              cases h
              exact (Le.forget _ ⟨rfl, trivial⟩)
            | false =>
              replace h := bif_f hb.symm h
              cases h
              exact (Le.forget _ ⟨rfl, trivial⟩)
          · show Tri _ _ _ _
            refine tri_le hle ?_
            refine tri_ret ?_
            have hy := Option.some.inj h
            subst hy
            unfold Gives
            exact ⟨_, Le.refl _ _, rfl, rfl⟩
        · replace h := bif_f hb h
          refine tri_skip ?_
          show Tri _ _ _ _
          refine tri_seq ?_
          obtain ⟨x11, hj, h⟩ := bind_out h
          refine tri_post ⟨ofL [(4, .s (.bool x11))], fun _ => none, 0⟩ ?_ (fun σ' hle => ?_)
          · replace h := hj
            refine tri_region (by exact tokW) (by exact gok) [] [35] rfl ?_
            intro b hb
            cases b with
            | true =>
              replace h := bif_t hb.symm h
              obtain ⟨y12, hy12, h⟩ := bind_out h
              refine ⟨_, ⟨_, _, _, _, hy12, rfl, rfl⟩, ?_⟩
              cases h
              exact (Le.forget _ ⟨rfl, trivial⟩)
            | false =>
              replace h := bif_f hb.symm h
              cases h
              exact (Le.forget _ ⟨rfl, trivial⟩)
          · show Tri _ _ _ _
            refine tri_le hle ?_
            refine tri_ret ?_
            have hy := Option.some.inj h
            subst hy
            unfold Gives
            exact ⟨_, Le.refl _ _, rfl, rfl⟩

/- vinculum/vinculumref09.ToRow -/
def R_r09_ToRow (xs : List AV) (r : Ret) : Prop := ∃ (a0 : List Nd) (y0 : Nd), m_r09_ToRow a0 = some y0 ∧ xs = [.s (.sl 4 (Nd.encs a0))] ∧ r = .val (.agg ((Nd.enc y0).map .s))
def S_r09_ToRow : PSpec := pspec fun xs r => R_r09_ToRow xs r
set_option maxHeartbeats 2000000 in
set_option maxRecDepth 100000 in
theorem ok_r09_ToRow : PSound Try.prog 17 S_r09_ToRow := by
  have gok : ∀ (f : Nat) (s : PSpec), (fun _ => none : Nat → Option PSpec) f = some s → PSound Try.prog f s := fun _ _ h => by cases h
  refine psound tokW Try.call17 Try.func17 rfl (fun xs r h => by obtain ⟨_, _, _, rfl, _⟩ := h; show 1 ≤ 5; decide) 5 rfl ?_
  rintro xs r w0 G0 ⟨l1, y0, h, rfl, rfl⟩ _
  rw [m_r09_ToRow] at h
  refine tri_seq ?_
  refine tri_region (by exact tokW) (by exact gok) [2] [] rfl ?_
  show Tri _ _ _ _
  refine tri_seq ?_
  refine tri_region (by exact tokW) (by exact gok) [] [] rfl ?_
  show Tri _ _ _ _
  refine tri_ret ?_
  have hy := Option.some.inj h
  subst hy
  unfold Gives
  exact ⟨_, Le.refl _ _, rfl, rfl⟩

/- vinculum/vinculumref12.Few -/
def enc_api_Op (p : (Int × List Int × Int × Int × List Nd × Int × List UInt8 × List UInt8)) : List S := [.int .i64 p.1, .sl 1 ((List.map (irow .i64)) p.2.1), .int .i64 p.2.2.1, .int .i64 p.2.2.2.1, .sl 4 (Nd.encs p.2.2.2.2.1), .int .i64 p.2.2.2.2.2.1, .str p.2.2.2.2.2.2.1, .str p.2.2.2.2.2.2.2]
def R_r12_Few (n : Nat) (xs : List AV) (r : Ret) : Prop := ∃ (a0 : (Int × List Int × Int × Int × List Nd × Int × List UInt8 × List UInt8)) (y0 : Bool), m_r12_Few n a0 = some y0 ∧ xs = [.agg ((enc_api_Op a0).map .s)] ∧ r = .val (.s (.bool y0))
def S_r12_Few : PSpec := pspec fun xs r => ∃ n, R_r12_Few n xs r
set_option maxHeartbeats 2000000 in
set_option maxRecDepth 100000 in
theorem ok_r12_Few : PSound Try.prog 13 S_r12_Few := by
  have gok : ∀ f s, look? f [(17, S_r09_ToRow), (12, S_r09_Few)] = some s → PSound Try.prog f s := look_all (by
    simp only [List.forall_mem_cons]
    exact ⟨ok_r09_ToRow, ok_r09_Few, by simp⟩)
  refine psound tokW Try.call13 Try.func13 rfl (fun xs r h => by obtain ⟨n, _, _, _, rfl, _⟩ := h; show 1 ≤ 13; decide) 13 rfl ?_
  rintro xs r w0 G0 ⟨n, ⟨op1_kind, op1_row, op1_at, op1_n, op1_nodes, op1_slot, op1_old, op1_text⟩, y0, h, rfl, rfl⟩ _
  rw [m_r12_Few] at h
  refine tri_seq ?_
  refine tri_region (by exact tokW) (by exact gok) [] [] rfl ?_
  show Tri _ _ _ _
  refine tri_seq ?_
  obtain ⟨x2, hj, h⟩ := bind_out h
  refine tri_post ⟨ofL [(2, .s (.bool x2))], fun _ => none, 0⟩ ?_ (fun σ' hle => ?_)
  · replace h := hj
    refine tri_region (by exact tokW) (by exact gok) [] [7, 10] rfl ?_
    obtain ⟨⟨y3_kind, y3_text, y3_cols, y3_kids⟩, hy3, h⟩ := bind_out h
    refine ⟨_, ⟨_, _, hy3, rfl, rfl⟩, ?_⟩
    obtain ⟨y4, hy4, h⟩ := bind_out h
    refine ⟨_, ⟨_, _, _, _, hy4, rfl, rfl⟩, ?_⟩
    intro b hb
    cases b with
    | true =>
      replace h := bif_t hb.symm h
      intro n5 hn5
      obtain rfl : (op1_row.length : Int) = n5 := (hn5.trans (congrArg (fun m : Nat => (m : Int)) (rlen (fun _ => rfl) op1_row))).symm
      cases h
      exact (Le.forget _ ⟨rfl, trivial⟩)
    | false =>
      replace h := bif_f hb.symm h
      cases h
      exact (Le.forget _ ⟨rfl, trivial⟩)
  · show Tri _ _ _ _
    refine tri_le hle ?_
    refine tri_ret ?_
    have hy := Option.some.inj h
    subst hy
    unfold Gives
    exact ⟨_, Le.refl _ _, rfl, rfl⟩

/- vinculum/vinculumref09.ValidItems -/
def R_r09_ValidItems (n : Nat) (xs : List AV) (r : Ret) : Prop := ∃ (a0 : List Nd) (y0 : Bool), m_r09_ValidItems n a0 = some y0 ∧ xs = [.s (.sl 4 (Nd.encs a0))] ∧ r = .val (.s (.bool y0))
def S_r09_ValidItems : PSpec := pspec fun xs r => ∃ n, R_r09_ValidItems n xs r
set_option maxHeartbeats 2000000 in
set_option maxRecDepth 100000 in
theorem ok_r09_ValidItems : PSound Try.prog 51 S_r09_ValidItems := by
  have gok : ∀ f s, look? f [(17, S_r09_ToRow), (10, S_r09_Valid)] = some s → PSound Try.prog f s := look_all (by
    simp only [List.forall_mem_cons]
    exact ⟨ok_r09_ToRow, ok_r09_Valid, by simp⟩)
  refine psound tokW Try.call51 Try.func51 rfl (fun xs r h => by obtain ⟨n, _, _, _, rfl, _⟩ := h; show 1 ≤ 6; decide) 6 rfl ?_
  rintro xs r w0 G0 ⟨n, l1, y0, h, rfl, rfl⟩ _
  rw [m_r09_ValidItems] at h
  refine tri_seq ?_
  refine tri_region (by exact tokW) (by exact gok) [] [] rfl ?_
  show Tri _ _ _ _
  refine tri_seq ?_
  refine tri_region (by exact tokW) (by exact gok) [] [] rfl ?_
  obtain ⟨⟨y2_kind, y2_text, y2_cols, y2_kids⟩, hy2, h⟩ := bind_out h
  refine ⟨_, ⟨_, _, hy2, rfl, rfl⟩, ?_⟩
  obtain ⟨y3, hy3, h⟩ := bind_out h
  refine ⟨_, ⟨_, _, _, hy3, rfl, rfl⟩, ?_⟩
  show Tri _ _ _ _
  refine tri_ret ?_
  have hy := Option.some.inj h
  subst hy
  unfold Gives
  exact ⟨_, Le.refl _ _, rfl, rfl⟩

/- vinculum/vinculumref12.template -/
def R_r12_template (n : Nat) (xs : List AV) (r : Ret) : Prop := ∃ (a0 : List Nd) (a1 : Int) (y0 : Bool), m_r12_template n a0 a1 = some y0 ∧ xs = [.s (.sl 4 (Nd.encs a0)), .s (.int .i64 a1)] ∧ r = .val (.s (.bool y0))
def S_r12_template : PSpec := pspec fun xs r => ∃ n, R_r12_template n xs r
set_option maxHeartbeats 2000000 in
set_option maxRecDepth 100000 in
theorem ok_r12_template : PSound Try.prog 52 S_r12_template := by
  have gok : ∀ f s, look? f [(51, S_r09_ValidItems)] = some s → PSound Try.prog f s := look_all (by
    simp only [List.forall_mem_cons]
    exact ⟨ok_r09_ValidItems, by simp⟩)
  refine psound tokW Try.call52 Try.func52 rfl (fun xs r h => by obtain ⟨n, _, _, _, _, rfl, _⟩ := h; show 2 ≤ 37; decide) 37 rfl ?_
  rintro xs r w0 G0 ⟨n, l1, slot2, y0, h, rfl, rfl⟩ _
  rw [m_r12_template] at h
  refine tri_seq ?_
  refine tri_region (by exact tokW) (by exact gok) [] [] rfl ?_
  show Tri _ _ _ _
  refine tri_seq ?_
  obtain ⟨x3, hj, h⟩ := bind_out h
  refine tri_post ⟨ofL [(4, .s (.bool x3))], fun _ => none, 0⟩ ?_ (fun σ' hle => ?_)
  · replace h := hj
    refine tri_region (by exact tokW) (by exact gok) [] [6, 8, 12, 16, 19, 22, 25, 27, 31, 34] rfl ?_
    intro n4 hn4
    obtain rfl : (l1.length : Int) = n4 := (hn4.trans (congrArg (fun m : Nat => (m : Int)) (rlen Nd.encs_eq l1))).symm
    intro b hb
    cases b with
    | true =>
      replace h := bif_t hb.symm h
      obtain ⟨y5, hy5, h⟩ := bind_out h
      refine ⟨_, ⟨_, _, _, hy5, rfl, rfl⟩, ?_⟩
      intro b hb
      cases b with
      | true =>
        replace h := bif_t hb.symm h
        intro b hb
        cases b with
        | true =>
          replace h := bif_t hb.symm h
          obtain ⟨⟨e6_kind, e6_text, e6_cols, e6_kids⟩, he6, h⟩ := bind_out h
          refine And.intro (at_ok Nd.encs_eq he6).1 ?_
          intro r7 hr7
          obtain rfl : [.int .i64 e6_kind, .str e6_text, .int .i64 e6_cols, .sl 4 (Nd.encs e6_kids)] = r7 := (hr7.trans (at_ok Nd.encs_eq he6).2.1).symm
          intro n8 hn8
          obtain rfl : (e6_kids.length : Int) = n8 := (hn8.trans (congrArg (fun m : Nat => (m : Int)) (rlen Nd.encs_eq e6_kids))).symm
          intro b hb
          cases b with
          | true =>
            replace h := bif_t hb.symm h
            obtain ⟨⟨e9_kind, e9_text, e9_cols, e9_kids⟩, he9, h⟩ := bind_out h
            refine And.intro (at_ok Nd.encs_eq he9).1 ?_
            intro r10 hr10
            obtain rfl : [.int .i64 e9_kind, .str e9_text, .int .i64 e9_cols, .sl 4 (Nd.encs e9_kids)] = r10 := (hr10.trans (at_ok Nd.encs_eq he9).2.1).symm
            obtain ⟨⟨e11_kind, e11_text, e11_cols, e11_kids⟩, he11, h⟩ := bind_out h
            refine And.intro (at_ok Nd.encs_eq he11).1 ?_
            intro r12 hr12
            obtain rfl : [.int .i64 e11_kind, .str e11_text, .int .i64 e11_cols, .sl 4 (Nd.encs e11_kids)] = r12 := (hr12.trans (at_ok Nd.encs_eq he11).2.1).symm
            intro n13 hn13
            obtain rfl : (e11_kids.length : Int) = n13 := (hn13.trans (congrArg (fun m : Nat => (m : Int)) (rlen Nd.encs_eq e11_kids))).symm
            cases h
            exact (Le.forget _ ⟨rfl, trivial⟩)
          | false =>
            replace h := bif_f hb.symm h
            cases h
            exact (Le.forget _ ⟨rfl, trivial⟩)
        | false =>
          replace h := bif_f hb.symm h
          intro b hb
          subst hb
          cases h
          exact (Le.forget _ ⟨rfl, trivial⟩)
      | false =>
        replace h := bif_f hb.symm h
        intro b hb
        subst hb
        intro b hb
        subst hb
        cases h
        exact (Le.forget _ ⟨rfl, trivial⟩)
    | false =>
      replace h := bif_f hb.symm h
      intro b hb
      subst hb
      intro b hb
      subst hb
      intro b hb
      subst hb
      cases h
      exact (Le.forget _ ⟨rfl, trivial⟩)
  · show Tri _ _ _ _
    refine tri_le hle ?_
    refine tri_ret ?_
    have hy := Option.some.inj h
    subst hy
    unfold Gives
    exact ⟨_, Le.refl _ _, rfl, rfl⟩

/- vinculum/vinculumref12.Formed -/
def R_r12_Formed (n : Nat) (xs : List AV) (r : Ret) : Prop := ∃ (a0 : (Int × List Int × Int × Int × List Nd × Int × List UInt8 × List UInt8)) (y0 : Bool), m_r12_Formed n a0 = some y0 ∧ xs = [.agg ((enc_api_Op a0).map .s)] ∧ r = .val (.s (.bool y0))
def S_r12_Formed : PSpec := pspec fun xs r => ∃ n, R_r12_Formed n xs r
set_option maxHeartbeats 2000000 in
set_option maxRecDepth 100000 in
theorem ok_r12_Formed : PSound Try.prog 37 S_r12_Formed := by
  have gok : ∀ f s, look? f [(51, S_r09_ValidItems), (52, S_r12_template)] = some s → PSound Try.prog f s := look_all (by
    simp only [List.forall_mem_cons]
    exact ⟨ok_r09_ValidItems, ok_r12_template, by simp⟩)
  refine psound tokW Try.call37 Try.func37 rfl (fun xs r h => by obtain ⟨n, _, _, _, rfl, _⟩ := h; show 1 ≤ 83; decide) 83 rfl ?_
  rintro xs r w0 G0 ⟨n, ⟨a1_kind, a1_row, a1_at, a1_n, a1_nodes, a1_slot, a1_old, a1_text⟩, y0, h, rfl, rfl⟩ _
  rw [m_r12_Formed] at h
  refine tri_seq ?_
  refine tri_region (by exact tokW) (by exact gok) [] [] rfl ?_
  show Tri _ _ _ _
  refine tri_seq ?_
  refine tri_seq ?_
  refine tri_region (by exact tokW) (by exact gok) [] [] rfl ?_
  show Tri _ _ _ _
  obtain ⟨fl, hj, ho1⟩ := bind_out h
  refine tri_fl (fl := fl) (fun z => match z with | _ => ⟨ofL [], fun _ => none, 0⟩) ?_ (fun z σ' hz hle => ?_)
  · replace h := hj
    refine tri_block ?_
    refine tri_seq ?_
    refine tri_seq ?_
    refine tri_region (by exact tokW) (by exact gok) [] [] rfl ?_
    show Tri _ _ _ _
    obtain ⟨x2, hj, h⟩ := bind_out h
    refine tri_post ⟨ofL [(1, .s (.pt [.int .i64 a1_kind, .sl 1 ((List.map (irow .i64)) a1_row), .int .i64 a1_at, .int .i64 a1_n, .sl 4 (Nd.encs a1_nodes), .int .i64 a1_slot, .str a1_old, .str a1_text])), (4, .s (.int .i64 a1_kind)), (5, .s (.bool x2))], fun _ => none, 0⟩ ?_ (fun σ' hle => ?_)
    · replace h := hj
      refine tri_cond rfl (fun hb => ?_) (fun hb => ?_)
      · replace h := bif_t hb h
        refine tri_skip ?_
        cases h
        exact (Le.forget _ ⟨rfl, rfl, rfl, trivial⟩)
      · replace h := bif_f hb h
        refine tri_region (by exact tokW) (by exact gok) [] [] rfl ?_
        cases h
        exact (Le.forget _ ⟨rfl, rfl, rfl, trivial⟩)
    · show Tri _ _ _ _
      refine tri_le hle ?_
      refine tri_cond rfl (fun hb => ?_) (fun hb => ?_)
      · replace h := bif_t hb h
        refine tri_seq ?_
        obtain ⟨x3, hj, h⟩ := bind_out h
        refine tri_post ⟨ofL [(2, .s (.bool x3))], fun _ => none, 0⟩ ?_ (fun σ' hle => ?_)
        · replace h := hj
          refine tri_region (by exact tokW) (by exact gok) [] [10, 12, 17, 22, 27, 32] rfl ?_
          intro n4 hn4
          obtain rfl : (a1_nodes.length : Int) = n4 := (hn4.trans (congrArg (fun m : Nat => (m : Int)) (rlen Nd.encs_eq a1_nodes))).symm
          intro b hb
          cases b with
          | true =>
            replace h := bif_t hb.symm h
            obtain ⟨y5, hy5, h⟩ := bind_out h
            refine ⟨_, ⟨_, _, _, hy5, rfl, rfl⟩, ?_⟩
            intro b hb
            cases b with
            | true =>
              replace h := bif_t hb.symm h
              intro b hb
              cases b with
              | true =>
                replace h := bif_t hb.symm h
                intro b hb
                cases b with
                | true =>
                  replace h := bif_t hb.symm h
                  intro b hb
                  cases b with
                  | true =>
                    replace h := bif_t hb.symm h
                    cases h
                    exact (Le.forget _ ⟨rfl, trivial⟩)
                  | false =>
                    replace h := bif_f hb.symm h
                    cases h
                    exact (Le.forget _ ⟨rfl, trivial⟩)
                | false =>
                  replace h := bif_f hb.symm h
                  intro b hb
                  subst hb
                  cases h
                  exact (Le.forget _ ⟨rfl, trivial⟩)
              | false =>
                replace h := bif_f hb.symm h
                intro b hb
                subst hb
                intro b hb
                subst hb
                cases h
                exact (Le.forget _ ⟨rfl, trivial⟩)
            | false =>
              replace h := bif_f hb.symm h
              intro b hb
              subst hb
              intro b hb
              subst hb
              intro b hb
              subst hb
              cases h
              exact (Le.forget _ ⟨rfl, trivial⟩)
          | false =>
            replace h := bif_f hb.symm h
            intro b hb
            subst hb
            intro b hb
            subst hb
            intro b hb
            subst hb
            intro b hb
            subst hb
            cases h
            exact (Le.forget _ ⟨rfl, trivial⟩)
        · show Tri _ _ _ _
          refine tri_le hle ?_
          refine tri_ret ?_
          cases h
          replace h : some _ = some _ := ho1
          have hy := Option.some.inj h
          subst hy
          unfold Gives
          exact ⟨_, Le.refl _ _, rfl, rfl⟩
      · replace h := bif_f hb h
        refine tri_seq ?_
        refine tri_seq ?_
        refine tri_region (by exact tokW) (by exact gok) [] [] rfl ?_
        show Tri _ _ _ _
        obtain ⟨x6, hj, h⟩ := bind_out h
        refine tri_post ⟨ofL [(1, .s (.pt [.int .i64 a1_kind, .sl 1 ((List.map (irow .i64)) a1_row), .int .i64 a1_at, .int .i64 a1_n, .sl 4 (Nd.encs a1_nodes), .int .i64 a1_slot, .str a1_old, .str a1_text])), (4, .s (.int .i64 a1_kind)), (37, .s (.bool x6))], fun _ => none, 0⟩ ?_ (fun σ' hle => ?_)
        · replace h := hj
          refine tri_cond rfl (fun hb => ?_) (fun hb => ?_)
          · replace h := bif_t hb h
            refine tri_skip ?_
            cases h
            exact (Le.forget _ ⟨rfl, rfl, rfl, trivial⟩)
          · replace h := bif_f hb h
            refine tri_region (by exact tokW) (by exact gok) [] [] rfl ?_
            cases h
            exact (Le.forget _ ⟨rfl, rfl, rfl, trivial⟩)
        · show Tri _ _ _ _
          refine tri_le hle ?_
          refine tri_cond rfl (fun hb => ?_) (fun hb => ?_)
          · replace h := bif_t hb h
            refine tri_seq ?_
            obtain ⟨x7, hj, h⟩ := bind_out h
            refine tri_post ⟨ofL [(2, .s (.bool x7))], fun _ => none, 0⟩ ?_ (fun σ' hle => ?_)
            · replace h := hj
              refine tri_region (by exact tokW) (by exact gok) [] [43, 50, 55] rfl ?_
              intro b hb
              cases b with
              | true =>
                replace h := bif_t hb.symm h
                obtain ⟨y8, hy8, h⟩ := bind_out h
                refine ⟨_, ⟨_, _, _, _, hy8, rfl, rfl⟩, ?_⟩
                intro b hb
                cases b with
                | true =>
                  replace h := bif_t hb.symm h
                  intro b hb
                  cases b with
                  | true =>
                    replace h := bif_t hb.symm h
                    cases h
                    exact (Le.forget _ ⟨rfl, trivial⟩)
                  | false =>
                    replace h := bif_f hb.symm h
                    cases h
                    exact (Le.forget _ ⟨rfl, trivial⟩)
                | false =>
                  replace h := bif_f hb.symm h
                  intro b hb
                  subst hb
                  cases h
                  exact (Le.forget _ ⟨rfl, trivial⟩)
              | false =>
                replace h := bif_f hb.symm h
                intro b hb
                subst hb
                intro b hb
                subst hb
                cases h
                exact (Le.forget _ ⟨rfl, trivial⟩)
            · show Tri _ _ _ _
              refine tri_le hle ?_
              refine tri_ret ?_
              cases h
              replace h : some _ = some _ := ho1
              have hy := Option.some.inj h
              subst hy
              unfold Gives
              exact ⟨_, Le.refl _ _, rfl, rfl⟩
          · replace h := bif_f hb h
            refine tri_seq ?_
            refine tri_region (by exact tokW) (by exact gok) [] [] rfl ?_
            show Tri _ _ _ _
            refine tri_cond rfl (fun hb => ?_) (fun hb => ?_)
            · replace h := bif_t hb h
              refine tri_seq ?_
              obtain ⟨x9, hj, h⟩ := bind_out h
              refine tri_post ⟨ofL [(2, .s (.bool x9))], fun _ => none, 0⟩ ?_ (fun σ' hle => ?_)
              · replace h := hj
                refine tri_region (by exact tokW) (by exact gok) [] [67, 70, 73, 78] rfl ?_
                intro b hb
                cases b with
                | true =>
                  replace h := bif_t hb.symm h
                  intro n10 hn10
                  obtain rfl : (a1_nodes.length : Int) = n10 := (hn10.trans (congrArg (fun m : Nat => (m : Int)) (rlen Nd.encs_eq a1_nodes))).symm
                  intro b hb
                  cases b with
                  | true =>
                    replace h := bif_t hb.symm h
                    intro b hb
                    cases b with
                    | true =>
                      replace h := bif_t hb.symm h
                      cases h
                      exact (Le.forget _ ⟨rfl, trivial⟩)
                    | false =>
                      replace h := bif_f hb.symm h
                      cases h
                      exact (Le.forget _ ⟨rfl, trivial⟩)
                  | false =>
                    replace h := bif_f hb.symm h
                    intro b hb
                    subst hb
                    cases h
                    exact (Le.forget _ ⟨rfl, trivial⟩)
                | false =>
                  replace h := bif_f hb.symm h
                  intro b hb
                  subst hb
                  intro b hb
                  subst hb
                  cases h
                  exact (Le.forget _ ⟨rfl, trivial⟩)
              · show Tri _ _ _ _
                refine tri_le hle ?_
                refine tri_ret ?_
                cases h
                replace h : some _ = some _ := ho1
                have hy := Option.some.inj h
                subst hy
                unfold Gives
                exact ⟨_, Le.refl _ _, rfl, rfl⟩
            · replace h := bif_f hb h
              refine tri_skip ?_
              cases h
              exact ⟨_, rfl, (Le.forget _ trivial)⟩
  · subst hz
    obtain _ := z
    replace h := ho1
    show Tri _ _ _ _
    refine tri_le hle ?_
    refine tri_seq ?_
    refine tri_region (by exact tokW) (by exact gok) [] [] rfl ?_
    show Tri _ _ _ _
    refine tri_ret ?_
    have hy := Option.some.inj h
    subst hy
    unfold Gives
    exact ⟨_, Le.refl _ _, rfl, rfl⟩

/- vinculum/vinculumref09.find -/
def R_r09_find (n : Nat) (xs : List AV) (r : Ret) : Prop := ∃ (a0 : Nd) (a1 : List Int) (y0 : Nd) (y1 : Bool), m_r09_find n a0 a1 = some (y0, y1) ∧ xs = [.agg ((Nd.enc a0).map .s), .s (.sl 1 ((List.map (irow .i64)) a1))] ∧ r = .val (.tup [.agg ((Nd.enc y0).map .s), .s (.bool y1)])
def S_r09_find : PSpec := pspec fun xs r => ∃ n, R_r09_find n xs r
set_option maxHeartbeats 2000000 in
set_option maxRecDepth 100000 in
theorem ok_r09_find : PSound Try.prog 53 S_r09_find := by
  have gok : ∀ (f : Nat) (s : PSpec), (fun _ => none : Nat → Option PSpec) f = some s → PSound Try.prog f s := fun _ _ h => by cases h
  refine psound tokW Try.call53 Try.func53 rfl (fun xs r h => by obtain ⟨n, _, _, _, _, _, rfl, _⟩ := h; show 2 ≤ 57; decide) 57 rfl ?_
  rintro xs r w0 G0 ⟨n, ⟨n1_kind, n1_text, n1_cols, n1_kids⟩, path2, y0, y1, h, rfl, rfl⟩ _
  rw [m_r09_find] at h
  refine tri_seq ?_
  refine tri_region (by exact tokW) (by exact gok) [2, 4] [] rfl ?_
  show Tri _ _ _ _
  refine tri_seq ?_
  obtain ⟨fl, hl, ho1⟩ := bind_out h
  refine tri_fl (fl := fl) (fun z => match z with | ⟨path9, x10, x11, x12, x13⟩ => ⟨ofL [(1, .s (.sl 1 ((List.map (irow .i64)) path9))), (2, .op 0 0), (4, .op 1 0)], ofH [(0, .box [.s (.int .i64 x10), .s (.str x11), .s (.int .i64 x12), .s (.sl 4 (Nd.encs x13))]), (1, .box [.s (.int .i64 0), .s (.str []), .s (.int .i64 0), .nl 4])], 2⟩) ?_ (fun z σ' hz hle => ?_)
  · refine tri_block (tri_loopI (X := Nat × Int × (List UInt8) × Int × (List Nd) × (List Int)) (fun y => match y with | (k, x3, x4, x5, x6, path8) => ⟨ofL [(1, .s (.sl 1 ((List.map (irow .i64)) path8))), (2, .op 0 0), (4, .op 1 0)], ofH [(0, .box [.s (.int .i64 x3), .s (.str x4), .s (.int .i64 x5), .s (.sl 4 (Nd.encs x6))]), (1, .box [.s (.int .i64 0), .s (.str []), .s (.int .i64 0), .nl 4])], 2⟩) (fun y => m_r09_find_l1  y.1 y.2.1 y.2.2.1 y.2.2.2.1 y.2.2.2.2.1 y.2.2.2.2.2 = some fl) (fun y => y.1) (n, n1_kind, n1_text, n1_cols, n1_kids, path2) hl ?_ ?_)
    · exact (Le.rename [(0, 0), (1, 1)] _ _ _ ⟨rfl, rfl, rfl, trivial⟩ ⟨rfl, ⟨_, rfl, rfl⟩, rfl, ⟨_, rfl, rfl⟩, trivial⟩ rfl rfl rfl rfl rfl)
    · rintro ⟨k, x3, x4, x5, x6, path8⟩ h
      cases k with
      | zero => cases h
      | succ k =>
        replace h : m_r09_find_l1  (k+1) x3 x4 x5 x6 path8 = some fl := h
        rw [m_r09_find_l1] at h
        refine tri_seq ?_
        refine tri_seq ?_
        refine tri_region (by exact tokW) (by exact gok) [] [7] rfl ?_
        intro n14 hn14
        obtain rfl : (path8.length : Int) = n14 := (hn14.trans (congrArg (fun m : Nat => (m : Int)) (rlen (fun _ => rfl) path8))).symm
        show Tri _ _ _ _
        refine tri_cond rfl (fun hb => ?_) (fun hb => ?_)
        · replace h := bif_t hb h
          refine tri_skip ?_
          show Tri _ _ _ _
          refine tri_block ?_
          refine tri_seq ?_
          refine tri_seq ?_
          obtain ⟨x15, hj, h⟩ := bind_out h
          refine tri_post ⟨ofL [(1, .s (.sl 1 ((List.map (irow .i64)) path8))), (2, .op 0 0), (4, .op 1 0), (21, .s (.bool x15))], ofH [(0, .box [.s (.int .i64 x3), .s (.str x4), .s (.int .i64 x5), .s (.sl 4 (Nd.encs x6))]), (1, .box [.s (.int .i64 0), .s (.str []), .s (.int .i64 0), .nl 4])], 2⟩ ?_ (fun σ' hle => ?_)
          · replace h := hj
            refine tri_drawn (by exact tokW) (by exact gok) (by exact mixed) [] [10, 13, 15, 19] [9] rfl (by decide +kernel) ?_
            obtain ⟨e16, he16, h⟩ := bind_out h
            refine And.intro (at_ok (fun _ => rfl) he16).1 ?_
            intro r17 hr17
            obtain rfl : [.int .i64 e16] = r17 := (hr17.trans (at_ok (fun _ => rfl) he16).2.1).symm
            intro b hb
            cases b with
            | true =>
              replace h := bif_t hb.symm h
              cases h
              exact (Le.rename [(0, 0), (1, 1)] _ _ _ ⟨rfl, rfl, rfl, rfl, trivial⟩ ⟨rfl, ⟨_, rfl, rfl⟩, rfl, ⟨_, rfl, rfl⟩, trivial⟩ rfl rfl rfl rfl rfl)
            | false =>
              replace h := bif_f hb.symm h
              obtain ⟨e18, he18, h⟩ := bind_out h
              refine And.intro (at_ok (fun _ => rfl) he18).1 ?_
              intro r19 hr19
              obtain rfl : [.int .i64 e18] = r19 := (hr19.trans (at_ok (fun _ => rfl) he18).2.1).symm
              intro n20 hn20
              obtain rfl : (x6.length : Int) = n20 := (hn20.trans (congrArg (fun m : Nat => (m : Int)) (rlen Nd.encs_eq x6))).symm
              cases h
              exact (Le.rename [(0, 0), (1, 1)] _ _ _ ⟨rfl, rfl, rfl, rfl, trivial⟩ ⟨rfl, ⟨_, rfl, rfl⟩, rfl, ⟨_, rfl, rfl⟩, trivial⟩ rfl rfl rfl rfl rfl)
          · show Tri _ _ _ _
            refine tri_le hle ?_
            refine tri_cond rfl (fun hb => ?_) (fun hb => ?_)
            · replace h := bif_t hb h
              refine tri_seq ?_
              refine tri_region (by exact tokW) (by exact gok) [] [] rfl ?_
              show Tri _ _ _ _
              refine tri_ret ?_
              cases h
              replace h : some _ = some _ := ho1
              obtain ⟨hj1, hk1⟩ := Prod.mk.inj (Option.some.inj h)
              subst hj1
              subst hk1
              unfold Gives
              exact ⟨_, Le.refl _ _, rfl, rfl⟩
            · replace h := bif_f hb h
              refine tri_skip ?_
              show Tri _ _ _ _
              refine tri_seq ?_
              refine tri_drawn (by exact tokW) (by exact gok) (by exact mixed) [] [26, 28] [1, 7] rfl (by decide +kernel) ?_
              obtain ⟨e21, he21, h⟩ := bind_out h
              refine And.intro (at_ok (fun _ => rfl) he21).1 ?_
              intro r22 hr22
              obtain rfl : [.int .i64 e21] = r22 := (hr22.trans (at_ok (fun _ => rfl) he21).2.1).symm
              obtain ⟨⟨e23_kind, e23_text, e23_cols, e23_kids⟩, he23, h⟩ := bind_out h
              refine And.intro (at_ok Nd.encs_eq he23).1 ?_
              intro r24 hr24
              obtain rfl : [.int .i64 e23_kind, .str e23_text, .int .i64 e23_cols, .sl 4 (Nd.encs e23_kids)] = r24 := (hr24.trans (at_ok Nd.encs_eq he23).2.1).symm
              show Tri _ _ _ _
              refine tri_seq ?_
              refine tri_seq ?_
              obtain ⟨x25, hj, h⟩ := bind_out h
              refine tri_post ⟨ofL [(1, .s (.sl 1 ((List.map (irow .i64)) path8))), (2, .op 0 0), (4, .op 1 0), (42, .s (.bool x25))], ofH [(0, .box [.s (.int .i64 e23_kind), .s (.str e23_text), .s (.int .i64 e23_cols), .s (.sl 4 (Nd.encs e23_kids))]), (1, .box [.s (.int .i64 0), .s (.str []), .s (.int .i64 0), .nl 4])], 2⟩ ?_ (fun σ' hle => ?_)
              · replace h := hj
                refine tri_drawn (by exact tokW) (by exact gok) (by exact mixed) [] [31, 34, 36, 40] [9] rfl (by decide +kernel) ?_
                obtain ⟨e26, he26, h⟩ := bind_out h
                refine And.intro (at_ok (fun _ => rfl) he26).1 ?_
                intro r27 hr27
                obtain rfl : [.int .i64 e26] = r27 := (hr27.trans (at_ok (fun _ => rfl) he26).2.1).symm
                intro b hb
                cases b with
                | true =>
                  replace h := bif_t hb.symm h
                  cases h
                  exact (Le.rename [(0, 0), (1, 1)] _ _ _ ⟨rfl, rfl, rfl, rfl, trivial⟩ ⟨rfl, ⟨_, rfl, rfl⟩, rfl, ⟨_, rfl, rfl⟩, trivial⟩ rfl rfl rfl rfl rfl)
                | false =>
                  replace h := bif_f hb.symm h
                  obtain ⟨e28, he28, h⟩ := bind_out h
                  refine And.intro (at_ok (fun _ => rfl) he28).1 ?_
                  intro r29 hr29
                  obtain rfl : [.int .i64 e28] = r29 := (hr29.trans (at_ok (fun _ => rfl) he28).2.1).symm
                  intro n30 hn30
                  obtain rfl : (e23_kids.length : Int) = n30 := (hn30.trans (congrArg (fun m : Nat => (m : Int)) (rlen Nd.encs_eq e23_kids))).symm
                  cases h
                  exact (Le.rename [(0, 0), (1, 1)] _ _ _ ⟨rfl, rfl, rfl, rfl, trivial⟩ ⟨rfl, ⟨_, rfl, rfl⟩, rfl, ⟨_, rfl, rfl⟩, trivial⟩ rfl rfl rfl rfl rfl)
              · show Tri _ _ _ _
                refine tri_le hle ?_
                refine tri_cond rfl (fun hb => ?_) (fun hb => ?_)
                · replace h := bif_t hb h
                  refine tri_seq ?_
                  refine tri_region (by exact tokW) (by exact gok) [] [] rfl ?_
                  show Tri _ _ _ _
                  refine tri_ret ?_
                  cases h
                  replace h : some _ = some _ := ho1
                  obtain ⟨hj1, hk1⟩ := Prod.mk.inj (Option.some.inj h)
                  subst hj1
                  subst hk1
                  unfold Gives
                  exact ⟨_, Le.refl _ _, rfl, rfl⟩
                · replace h := bif_f hb h
                  refine tri_skip ?_
                  show Tri _ _ _ _
                  refine tri_seq ?_
                  refine tri_drawn (by exact tokW) (by exact gok) (by exact mixed) [] [47, 49] [1, 7] rfl (by decide +kernel) ?_
                  obtain ⟨e31, he31, h⟩ := bind_out h
                  refine And.intro (at_ok (fun _ => rfl) he31).1 ?_
                  intro r32 hr32
                  obtain rfl : [.int .i64 e31] = r32 := (hr32.trans (at_ok (fun _ => rfl) he31).2.1).symm
                  obtain ⟨⟨e33_kind, e33_text, e33_cols, e33_kids⟩, he33, h⟩ := bind_out h
                  refine And.intro (at_ok Nd.encs_eq he33).1 ?_
                  intro r34 hr34
                  obtain rfl : [.int .i64 e33_kind, .str e33_text, .int .i64 e33_cols, .sl 4 (Nd.encs e33_kids)] = r34 := (hr34.trans (at_ok Nd.encs_eq he33).2.1).symm
                  show Tri _ _ _ _
                  refine tri_region (by exact tokW) (by exact gok) [] [52] rfl ?_
                  obtain ⟨hq, h⟩ := req_out h
                  refine And.intro ⟨hq.1, Int.le_trans hq.2.1 (Int.ofNat_le.2 (Nat.le_of_eq (rlen (fun _ => rfl) _).symm)), Int.le_refl _⟩ ?_
                  intro r35 hr35
                  obtain rfl : (List.map (irow .i64)) ((path8.take (path8.length : Int).toNat).drop (2 : Int).toNat) = r35 := (hr35.trans ((congrArg (fun m : Nat => (((List.map (irow .i64)) path8).take m).drop (2 : Int).toNat) (rlen (fun _ => rfl) _)).trans (rcut (fun _ => rfl) _ _ _))).symm
                  refine ⟨(k, e33_kind, e33_text, e33_cols, e33_kids, (path8.take (path8.length : Int).toNat).drop (2 : Int).toNat), h, (Le.rename [(0, 0), (1, 1)] _ _ _ ⟨rfl, rfl, rfl, trivial⟩ ⟨rfl, ⟨_, rfl, rfl⟩, rfl, ⟨_, rfl, rfl⟩, trivial⟩ rfl rfl rfl rfl rfl), Nat.lt_succ_self k⟩
        · replace h := bif_f hb h
          refine tri_exit ?_
          cases h
          exact ⟨_, rfl, (Le.rename [(0, 0), (1, 1)] _ _ _ ⟨rfl, rfl, rfl, trivial⟩ ⟨rfl, ⟨_, rfl, rfl⟩, rfl, ⟨_, rfl, rfl⟩, trivial⟩ rfl rfl rfl rfl rfl)⟩
  · subst hz
    obtain ⟨path9, x10, x11, x12, x13⟩ := z
    replace h := ho1
    show Tri _ _ _ _
    refine tri_le hle ?_
    refine tri_seq ?_
    refine tri_region (by exact tokW) (by exact gok) [] [55] rfl ?_
    intro n36 hn36
    obtain rfl : (path9.length : Int) = n36 := (hn36.trans (congrArg (fun m : Nat => (m : Int)) (rlen (fun _ => rfl) path9))).symm
    show Tri _ _ _ _
    refine tri_ret ?_
    obtain ⟨hj1, hk1⟩ := Prod.mk.inj (Option.some.inj h)
    subst hj1
    subst hk1
    unfold Gives
    exact ⟨_, Le.refl _ _, rfl, rfl⟩

/- vinculum/vinculumref09.Row -/
def R_r09_Row (n : Nat) (xs : List AV) (r : Ret) : Prop := ∃ (a0 : Nd) (a1 : List Int) (y0 : Nd) (y1 : Int), m_r09_Row n a0 a1 = some (y0, y1) ∧ xs = [.agg ((Nd.enc a0).map .s), .s (.sl 1 ((List.map (irow .i64)) a1))] ∧ r = .val (.tup [.agg ((Nd.enc y0).map .s), .s (.int .i64 y1)])
def S_r09_Row : PSpec := pspec fun xs r => ∃ n, R_r09_Row n xs r
set_option maxHeartbeats 2000000 in
set_option maxRecDepth 100000 in
theorem ok_r09_Row : PSound Try.prog 38 S_r09_Row := by
  have gok : ∀ f s, look? f [(10, S_r09_Valid), (53, S_r09_find)] = some s → PSound Try.prog f s := look_all (by
    simp only [List.forall_mem_cons]
    exact ⟨ok_r09_Valid, ok_r09_find, by simp⟩)
  refine psound tokW Try.call38 Try.func38 rfl (fun xs r h => by obtain ⟨n, _, _, _, _, _, rfl, _⟩ := h; show 2 ≤ 22; decide) 22 rfl ?_
  rintro xs r w0 G0 ⟨n, ⟨n1_kind, n1_text, n1_cols, n1_kids⟩, path2, y0, y1, h, rfl, rfl⟩ _
  rw [m_r09_Row] at h
  refine tri_seq ?_
  refine tri_region (by exact tokW) (by exact gok) [4] [] rfl ?_
  show Tri _ _ _ _
  refine tri_seq ?_
  refine tri_seq ?_
  refine tri_region (by exact tokW) (by exact gok) [] [] rfl ?_
  obtain ⟨y3, hy3, h⟩ := bind_out h
  refine ⟨_, ⟨_, _, _, hy3, rfl, rfl⟩, ?_⟩
  show Tri _ _ _ _
  refine tri_cond rfl (fun hb => ?_) (fun hb => ?_)
  · replace h := bif_t hb h
    refine tri_seq ?_
    refine tri_region (by exact tokW) (by exact gok) [] [] rfl ?_
    show Tri _ _ _ _
    refine tri_ret ?_
    obtain ⟨hj1, hk1⟩ := Prod.mk.inj (Option.some.inj h)
    subst hj1
    subst hk1
    unfold Gives
    exact ⟨_, Le.refl _ _, rfl, rfl⟩
  · replace h := bif_f hb h
    refine tri_skip ?_
    show Tri _ _ _ _
    refine tri_seq ?_
    refine tri_region (by exact tokW) (by exact gok) [6] [] rfl ?_
    obtain ⟨⟨⟨y4_kind, y4_text, y4_cols, y4_kids⟩, y5⟩, hy4, h⟩ := bind_out h
    refine ⟨_, ⟨_, _, _, _, _, hy4, rfl, rfl⟩, ?_⟩
    show Tri _ _ _ _
    refine tri_le (Le.giveBox 1 [.int .i64 y4_kind, .str y4_text, .int .i64 y4_cols, .sl 4 (Nd.encs y4_kids)] rfl rfl) ?_
    refine tri_seq ?_
    refine tri_seq ?_
    refine tri_region (by exact tokW) (by exact gok) [] [] rfl ?_
    show Tri _ _ _ _
    refine tri_cond rfl (fun hb => ?_) (fun hb => ?_)
    · replace h := bif_t hb h
      refine tri_seq ?_
      refine tri_region (by exact tokW) (by exact gok) [] [] rfl ?_
      show Tri _ _ _ _
      refine tri_ret ?_
      obtain ⟨hj1, hk1⟩ := Prod.mk.inj (Option.some.inj h)
      subst hj1
      subst hk1
      unfold Gives
      exact ⟨_, Le.refl _ _, rfl, rfl⟩
    · replace h := bif_f hb h
      refine tri_skip ?_
      show Tri _ _ _ _
      refine tri_seq ?_
      refine tri_region (by exact tokW) (by exact gok) [] [] rfl ?_
      show Tri _ _ _ _
      refine tri_ret ?_
      obtain ⟨hj1, hk1⟩ := Prod.mk.inj (Option.some.inj h)
      subst hj1
      subst hk1
      unfold Gives
      exact ⟨_, Le.refl _ _, rfl, rfl⟩

/- vinculum/vinculumref12.splice -/
def R_r12_splice (xs : List AV) (r : Ret) : Prop := ∃ (a0 : List Nd) (a1 : Int) (a2 : Int) (a3 : List Nd) (y0 : List Nd), m_r12_splice a0 a1 a2 a3 = some y0 ∧ xs = [.s (.sl 4 (Nd.encs a0)), .s (.int .i64 a1), .s (.int .i64 a2), .s (.sl 4 (Nd.encs a3))] ∧ r = .row 24 4 (Nd.encs y0)
def S_r12_splice : PSpec := pspec fun xs r => R_r12_splice xs r
set_option maxHeartbeats 2000000 in
set_option maxRecDepth 100000 in
theorem ok_r12_splice : PSound Try.prog 54 S_r12_splice := by
  have gok : ∀ (f : Nat) (s : PSpec), (fun _ => none : Nat → Option PSpec) f = some s → PSound Try.prog f s := fun _ _ h => by cases h
  refine psound tokW Try.call54 Try.func54 rfl (fun xs r h => by obtain ⟨_, _, _, _, _, _, rfl, _⟩ := h; show 4 ≤ 23; decide) 23 rfl ?_
  rintro xs r w0 G0 ⟨l1, at2, to3, by4, y0, h, rfl, rfl⟩ _
  rw [m_r12_splice] at h
  refine tri_seq ?_
  refine tri_region (by exact tokW) (by exact gok) [8] [] rfl ?_
  show Tri _ _ _ _
  refine tri_le (Le.rename [] [(0, .s (.sl 4 (Nd.encs l1))), (1, .s (.int .i64 at2)), (2, .s (.int .i64 to3)), (3, .s (.sl 4 (Nd.encs by4)))] [] 0 ⟨rfl, rfl, rfl, rfl, trivial⟩ trivial rfl rfl rfl rfl rfl) ?_
  refine tri_seq ?_
  refine tri_region (by exact tokW) (by exact gok) [10, 14] [13] rfl ?_
  obtain ⟨hq, h⟩ := req_out h
  refine And.intro ⟨hq.1, hq.2.1, Int.le_trans hq.2.2 (Int.ofNat_le.2 (Nat.le_of_eq (rlen Nd.encs_eq _).symm))⟩ ?_
  intro r5 hr5
  obtain rfl : Nd.encs ((l1.take at2.toNat).drop (0 : Int).toNat) = r5 := (hr5.trans (rcut Nd.encs_eq _ _ _)).symm
  obtain ⟨hq, h⟩ := req_out h
  refine And.intro (show (([] : List (List S)).length + (Nd.encs ((l1.take at2.toNat).drop (0 : Int).toNat)).length) * 56 ≤ 140737488355328 ∧ ([] : List (List S)).length + (Nd.encs ((l1.take at2.toNat).drop (0 : Int).toNat)).length ≤ 9223372036854775807 from by simp only [List.length_append, List.length_cons, List.length_nil, List.length_map, rlen Nd.encs_eq] at hq ⊢; omega) ?_
  show Tri _ _ _ _
  refine tri_le (Le.rename [(1, 0)] [(0, .s (.sl 4 (Nd.encs l1))), (2, .s (.int .i64 to3)), (3, .s (.sl 4 (Nd.encs by4))), (9, .orow 0)] [(0, .row 24 4 (Nd.encs ((l1.take at2.toNat).drop (0 : Int).toNat)))] 1 ⟨rfl, rfl, rfl, rfl, trivial⟩ ⟨rfl, ⟨_, rfl, congrArg (Ob.row 24 4) (by simp [List.map_append, List.map_take, List.map_drop, irow, brow, b8of_row, List.map_cons, List.map_nil, b8of_wrap, Nd.encs_eq, Nd.enc, enc_13_node_kind, enc_node_checker, enc_node_inner, enc_diff_grid, enc_s_int, enc_string, enc_api_Op])⟩, trivial⟩ rfl rfl rfl rfl rfl) ?_
  refine tri_seq ?_
  refine tri_region (by exact tokW) (by exact gok) [17] [] rfl ?_
  obtain ⟨hq, h⟩ := req_out h
  refine And.intro (show ((Nd.encs ((l1.take at2.toNat).drop (0 : Int).toNat)).length + (Nd.encs by4).length) * 56 ≤ 140737488355328 ∧ (Nd.encs ((l1.take at2.toNat).drop (0 : Int).toNat)).length + (Nd.encs by4).length ≤ 9223372036854775807 from by simp only [List.length_append, List.length_cons, List.length_nil, List.length_map, rlen Nd.encs_eq] at hq ⊢; omega) ?_
  show Tri _ _ _ _
  refine tri_le (Le.rename [(1, 0)] [(0, .s (.sl 4 (Nd.encs l1))), (2, .s (.int .i64 to3)), (9, .orow 0)] [(0, .row 24 4 (Nd.encs (((l1.take at2.toNat).drop (0 : Int).toNat) ++ by4)))] 1 ⟨rfl, rfl, rfl, trivial⟩ ⟨rfl, ⟨_, rfl, congrArg (Ob.row 24 4) (by simp [List.map_append, List.map_take, List.map_drop, irow, brow, b8of_row, List.map_cons, List.map_nil, b8of_wrap, Nd.encs_eq, Nd.enc, enc_13_node_kind, enc_node_checker, enc_node_inner, enc_diff_grid, enc_s_int, enc_string, enc_api_Op])⟩, trivial⟩ rfl rfl rfl rfl rfl) ?_
  refine tri_seq ?_
  refine tri_region (by exact tokW) (by exact gok) [22] [21] rfl ?_
  obtain ⟨hq, h⟩ := req_out h
  refine And.intro ⟨hq.1, Int.le_trans hq.2.1 (Int.ofNat_le.2 (Nat.le_of_eq (rlen Nd.encs_eq _).symm)), Int.le_refl _⟩ ?_
  intro r6 hr6
  obtain rfl : Nd.encs ((l1.take (l1.length : Int).toNat).drop to3.toNat) = r6 := (hr6.trans ((congrArg (fun m : Nat => ((Nd.encs l1).take m).drop to3.toNat) (rlen Nd.encs_eq _)).trans (rcut Nd.encs_eq _ _ _))).symm
  obtain ⟨hq, h⟩ := req_out h
  refine And.intro (show ((Nd.encs (((l1.take at2.toNat).drop (0 : Int).toNat) ++ by4)).length + (Nd.encs ((l1.take (l1.length : Int).toNat).drop to3.toNat)).length) * 56 ≤ 140737488355328 ∧ (Nd.encs (((l1.take at2.toNat).drop (0 : Int).toNat) ++ by4)).length + (Nd.encs ((l1.take (l1.length : Int).toNat).drop to3.toNat)).length ≤ 9223372036854775807 from by simp only [List.length_append, List.length_cons, List.length_nil, List.length_map, rlen Nd.encs_eq] at hq ⊢; omega) ?_
  show Tri _ _ _ _
  refine tri_le (Le.rename [(1, 0)] [(8, .orow 0)] [(0, .row 24 4 (Nd.encs ((((l1.take at2.toNat).drop (0 : Int).toNat) ++ by4) ++ ((l1.take (l1.length : Int).toNat).drop to3.toNat))))] 1 ⟨rfl, trivial⟩ ⟨rfl, ⟨_, rfl, congrArg (Ob.row 24 4) (by simp [List.map_append, List.map_take, List.map_drop, irow, brow, b8of_row, List.map_cons, List.map_nil, b8of_wrap, Nd.encs_eq, Nd.enc, enc_13_node_kind, enc_node_checker, enc_node_inner, enc_diff_grid, enc_s_int, enc_string, enc_api_Op])⟩, trivial⟩ rfl rfl rfl rfl rfl) ?_
  refine tri_ret ?_
  have hy := Option.some.inj h
  subst hy
  unfold Gives
  exact ⟨_, Le.refl _ _, 0, rfl, rfl⟩

/- a knot: vinculum/vinculumref09.Equal, vinculum/vinculumref09.SameItems -/
def R_r09_Equal (n : Nat) (xs : List AV) (r : Ret) : Prop := ∃ (a0 : Nd) (a1 : Nd) (y0 : Bool), m_r09_Equal n a0 a1 = some y0 ∧ xs = [.agg ((Nd.enc a0).map .s), .agg ((Nd.enc a1).map .s)] ∧ r = .val (.s (.bool y0))
def R_r09_SameItems (n : Nat) (xs : List AV) (r : Ret) : Prop := ∃ (a0 : List Nd) (a1 : List Nd) (y0 : Bool), m_r09_SameItems n a0 a1 = some y0 ∧ xs = [.s (.sl 4 (Nd.encs a0)), .s (.sl 4 (Nd.encs a1))] ∧ r = .val (.s (.bool y0))
set_option maxHeartbeats 2000000 in
set_option maxRecDepth 100000 in
theorem step_r09_Equal (n : Nat) (ih_r09_Equal : PSound Try.prog 16 (pspec (R_r09_Equal n))) (ih_r09_SameItems : PSound Try.prog 28 (pspec (R_r09_SameItems n))) : PSound Try.prog 16 (pspec (R_r09_Equal (n + 1))) := by
  have gok : ∀ f s, look? f [(28, pspec (R_r09_SameItems n))] = some s → PSound Try.prog f s := look_all (by
    simp only [List.forall_mem_cons]
    exact ⟨ih_r09_SameItems, by simp⟩)
  refine psound tokW Try.call16 Try.func16 rfl (fun xs r h => by obtain ⟨_, _, _, _, rfl, _⟩ := h; show 2 ≤ 31; decide) 31 rfl ?_
  rintro xs r w0 G0 ⟨⟨a1_kind, a1_text, a1_cols, a1_kids⟩, ⟨b2_kind, b2_text, b2_cols, b2_kids⟩, y0, h, rfl, rfl⟩ _
  rw [m_r09_Equal] at h
  refine tri_seq ?_
  refine tri_region (by exact tokW) (by exact gok) [] [] rfl ?_
  show Tri _ _ _ _
  refine tri_seq ?_
  obtain ⟨x3, hj, h⟩ := bind_out h
  refine tri_post ⟨ofL [(4, .s (.bool x3))], fun _ => none, 0⟩ ?_ (fun σ' hle => ?_)
  · replace h := hj
    refine tri_region (by exact tokW) (by exact gok) [] [10, 17, 24] rfl ?_
    intro b hb
    cases b with
    | true =>
      replace h := bif_t hb.symm h
      intro b hb
      cases b with
      | true =>
        replace h := bif_t hb.symm h
        intro b hb
        cases b with
        | true =>
          replace h := bif_t hb.symm h
          obtain ⟨y4, hy4, h⟩ := bind_out h
          refine ⟨_, ⟨_, _, _, hy4, rfl, rfl⟩, ?_⟩
          cases h
          exact (Le.forget _ ⟨rfl, trivial⟩)
        | false =>
          replace h := bif_f hb.symm h
          cases h
          exact (Le.forget _ ⟨rfl, trivial⟩)
      | false =>
        replace h := bif_f hb.symm h
        intro b hb
        subst hb
        cases h
        exact (Le.forget _ ⟨rfl, trivial⟩)
    | false =>
      replace h := bif_f hb.symm h
      intro b hb
      subst hb
      intro b hb
      subst hb
      cases h
      exact (Le.forget _ ⟨rfl, trivial⟩)
  · show Tri _ _ _ _
    refine tri_le hle ?_
    refine tri_ret ?_
    have hy := Option.some.inj h
    subst hy
    unfold Gives
    exact ⟨_, Le.refl _ _, rfl, rfl⟩
set_option maxHeartbeats 2000000 in
set_option maxRecDepth 100000 in
theorem step_r09_SameItems (n : Nat) (ih_r09_Equal : PSound Try.prog 16 (pspec (R_r09_Equal n))) (ih_r09_SameItems : PSound Try.prog 28 (pspec (R_r09_SameItems n))) : PSound Try.prog 28 (pspec (R_r09_SameItems (n + 1))) := by
  have gok : ∀ f s, look? f [(16, pspec (R_r09_Equal n))] = some s → PSound Try.prog f s := look_all (by
    simp only [List.forall_mem_cons]
    exact ⟨ih_r09_Equal, by simp⟩)
  refine psound tokW Try.call28 Try.func28 rfl (fun xs r h => by obtain ⟨_, _, _, _, rfl, _⟩ := h; show 2 ≤ 27; decide) 27 rfl ?_
  rintro xs r w0 G0 ⟨a1, b2, y0, h, rfl, rfl⟩ _
  rw [m_r09_SameItems] at h
  refine tri_seq ?_
  refine tri_region (by exact tokW) (by exact gok) [] [] rfl ?_
  show Tri _ _ _ _
  refine tri_seq ?_
  refine tri_seq ?_
  refine tri_region (by exact tokW) (by exact gok) [] [7, 9] rfl ?_
  intro n3 hn3
  obtain rfl : (a1.length : Int) = n3 := (hn3.trans (congrArg (fun m : Nat => (m : Int)) (rlen Nd.encs_eq a1))).symm
  intro n4 hn4
  obtain rfl : (b2.length : Int) = n4 := (hn4.trans (congrArg (fun m : Nat => (m : Int)) (rlen Nd.encs_eq b2))).symm
  show Tri _ _ _ _
  refine tri_cond rfl (fun hb => ?_) (fun hb => ?_)
  · replace h := bif_t hb h
    refine tri_seq ?_
    refine tri_region (by exact tokW) (by exact gok) [] [] rfl ?_
    show Tri _ _ _ _
    refine tri_ret ?_
    have hy := Option.some.inj h
    subst hy
    unfold Gives
    exact ⟨_, Le.refl _ _, rfl, rfl⟩
  · replace h := bif_f hb h
    refine tri_skip ?_
    show Tri _ _ _ _
    refine tri_seq ?_
    refine tri_seq ?_
    refine tri_region (by exact tokW) (by exact gok) [] [] rfl ?_
    show Tri _ _ _ _
    obtain ⟨fl, hl, ho1⟩ := bind_out h
    refine tri_fl (fl := fl) (fun z => match z with | _ => ⟨ofL [], fun _ => none, 0⟩) ?_ (fun z σ' hz hle => ?_)
    · refine tri_block (tri_loopI (X := Nat × Int) (fun y => match y with | (k, i5) => ⟨ofL [(0, .s (.sl 4 (Nd.encs a1))), (1, .s (.sl 4 (Nd.encs b2))), (5, .s (.int .i64 i5))], fun _ => none, 0⟩) (fun y => m_r09_SameItems_l1 (m_r09_Equal n) a1 b2 y.1 y.2 = some fl) (fun y => y.1) (n, 0) hl ?_ ?_)
      · exact (Le.forget _ ⟨rfl, rfl, rfl, trivial⟩)
      · rintro ⟨k, i5⟩ h
        cases k with
        | zero => cases h
        | succ k =>
          replace h : m_r09_SameItems_l1 (m_r09_Equal n) a1 b2 (k+1) i5 = some fl := h
          rw [m_r09_SameItems_l1] at h
          refine tri_seq ?_
          refine tri_seq ?_
          refine tri_region (by exact tokW) (by exact gok) [] [13] rfl ?_
          intro n6 hn6
          obtain rfl : (a1.length : Int) = n6 := (hn6.trans (congrArg (fun m : Nat => (m : Int)) (rlen Nd.encs_eq a1))).symm
          show Tri _ _ _ _
          refine tri_cond rfl (fun hb => ?_) (fun hb => ?_)
          · replace h := bif_t hb h
            refine tri_skip ?_
            show Tri _ _ _ _
            refine tri_seq ?_
            refine tri_block ?_
            refine tri_seq ?_
            refine tri_drawn (by exact tokW) (by exact gok) (by exact mixed) [] [19, 23] [] rfl (by decide +kernel) ?_
            obtain ⟨⟨e7_kind, e7_text, e7_cols, e7_kids⟩, he7, h⟩ := bind_out h
            refine And.intro (at_ok Nd.encs_eq he7).1 ?_
            intro r8 hr8
            obtain rfl : [.int .i64 e7_kind, .str e7_text, .int .i64 e7_cols, .sl 4 (Nd.encs e7_kids)] = r8 := (hr8.trans (at_ok Nd.encs_eq he7).2.1).symm
            obtain ⟨⟨e9_kind, e9_text, e9_cols, e9_kids⟩, he9, h⟩ := bind_out h
            refine And.intro (at_ok Nd.encs_eq he9).1 ?_
            intro r10 hr10
            obtain rfl : [.int .i64 e9_kind, .str e9_text, .int .i64 e9_cols, .sl 4 (Nd.encs e9_kids)] = r10 := (hr10.trans (at_ok Nd.encs_eq he9).2.1).symm
            obtain ⟨y11, hy11, h⟩ := bind_out h
            refine ⟨_, ⟨_, _, _, hy11, rfl, rfl⟩, ?_⟩
            show Tri _ _ _ _
            refine tri_cond rfl (fun hb => ?_) (fun hb => ?_)
            · replace h := bif_t hb h
              refine tri_seq ?_
              refine tri_region (by exact tokW) (by exact gok) [] [] rfl ?_
              show Tri _ _ _ _
              refine tri_ret ?_
              cases h
              replace h : some _ = some _ := ho1
              have hy := Option.some.inj h
              subst hy
              unfold Gives
              exact ⟨_, Le.refl _ _, rfl, rfl⟩
            · replace h := bif_f hb h
              refine tri_skip ?_
              show Tri _ _ _ _
              refine tri_region (by exact tokW) (by exact gok) [] [] rfl ?_
              refine ⟨(k, IntKind.i64.wrap (i5 + 1)), h, (Le.forget _ ⟨rfl, rfl, rfl, trivial⟩), Nat.lt_succ_self k⟩
          · replace h := bif_f hb h
            refine tri_exit ?_
            cases h
            exact ⟨_, rfl, (Le.forget _ trivial)⟩
    · subst hz
      obtain _ := z
      replace h := ho1
      show Tri _ _ _ _
      refine tri_le hle ?_
      refine tri_seq ?_
      refine tri_region (by exact tokW) (by exact gok) [] [] rfl ?_
      show Tri _ _ _ _
      refine tri_ret ?_
      have hy := Option.some.inj h
      subst hy
      unfold Gives
      exact ⟨_, Le.refl _ _, rfl, rfl⟩
theorem alls_r09_Equal : ∀ n, PSound Try.prog 16 (pspec (R_r09_Equal n)) ∧ PSound Try.prog 28 (pspec (R_r09_SameItems n)) := by
  intro n
  induction n with
  | zero =>
    refine ⟨?_, ?_⟩
    · exact psound_none Try.call16 (fun xs r h => by obtain ⟨_, _, _, h, _⟩ := h; rw [m_r09_Equal] at h; cases h)
    · exact psound_none Try.call28 (fun xs r h => by obtain ⟨_, _, _, h, _⟩ := h; rw [m_r09_SameItems] at h; cases h)
  | succ n ih =>
    obtain ⟨ih_r09_Equal, ih_r09_SameItems⟩ := ih
    exact ⟨step_r09_Equal n ih_r09_Equal ih_r09_SameItems, step_r09_SameItems n ih_r09_Equal ih_r09_SameItems⟩
def S_r09_Equal : PSpec := pspec fun xs r => ∃ n, R_r09_Equal n xs r
theorem ok_r09_Equal : PSound Try.prog 16 S_r09_Equal := psound_all (fun n => (alls_r09_Equal n).1)
def S_r09_SameItems : PSpec := pspec fun xs r => ∃ n, R_r09_SameItems n xs r
theorem ok_r09_SameItems : PSound Try.prog 28 S_r09_SameItems := psound_all (fun n => (alls_r09_Equal n).2)

/- vinculum/vinculumref09.Replaced -/
def R_r09_Replaced (xs : List AV) (r : Ret) : Prop := ∃ (a0 : Nd) (a1 : Int) (a2 : Nd) (y0 : Nd), m_r09_Replaced a0 a1 a2 = some y0 ∧ xs = [.agg ((Nd.enc a0).map .s), .s (.int .i64 a1), .agg ((Nd.enc a2).map .s)] ∧ r = .val (.agg ((Nd.enc y0).map .s))
def S_r09_Replaced : PSpec := pspec fun xs r => R_r09_Replaced xs r
set_option maxHeartbeats 2000000 in
set_option maxRecDepth 100000 in
theorem ok_r09_Replaced : PSound Try.prog 56 S_r09_Replaced := by
  have gok : ∀ (f : Nat) (s : PSpec), (fun _ => none : Nat → Option PSpec) f = some s → PSound Try.prog f s := fun _ _ h => by cases h
  refine psound tokW Try.call56 Try.func56 rfl (fun xs r h => by obtain ⟨_, _, _, _, _, rfl, _⟩ := h; show 3 ≤ 18; decide) 18 rfl ?_
  rintro xs r w0 G0 ⟨⟨n1_kind, n1_text, n1_cols, n1_kids⟩, i2, ⟨kid3_kind, kid3_text, kid3_cols, kid3_kids⟩, y0, h, rfl, rfl⟩ _
  rw [m_r09_Replaced] at h
  refine tri_seq ?_
  refine tri_region (by exact tokW) (by exact gok) [3, 6] [] rfl ?_
  show Tri _ _ _ _
  refine tri_seq ?_
  refine tri_region (by exact tokW) (by exact gok) [7, 10] [] rfl ?_
  obtain ⟨hq, h⟩ := req_out h
  refine And.intro (show (([] : List (List S)).length + (Nd.encs n1_kids).length) * 56 ≤ 140737488355328 ∧ ([] : List (List S)).length + (Nd.encs n1_kids).length ≤ 9223372036854775807 from by simp only [List.length_append, List.length_cons, List.length_nil, List.length_map, rlen Nd.encs_eq] at hq ⊢; omega) ?_
  show Tri _ _ _ _
  refine tri_le (Le.rename [(0, 0), (3, 1), (1, 2)] [(1, .s (.int .i64 i2)), (3, .op 0 0), (5, .s (.pt [.int .i64 kid3_kind, .str kid3_text, .int .i64 kid3_cols, .sl 4 (Nd.encs kid3_kids)])), (6, .op 2 0)] [(0, .box [.s (.int .i64 n1_kind), .s (.str n1_text), .s (.int .i64 n1_cols), .orow 1]), (1, .row 24 4 (Nd.encs n1_kids)), (2, .box [.s (.int .i64 0), .s (.str []), .s (.int .i64 0), .nl 4])] 3 ⟨rfl, rfl, rfl, rfl, trivial⟩ ⟨rfl, ⟨_, rfl, rfl⟩, rfl, ⟨_, rfl, congrArg (Ob.row 24 4) (by simp [List.map_append, List.map_take, List.map_drop, irow, brow, b8of_row, List.map_cons, List.map_nil, b8of_wrap, Nd.encs_eq, Nd.enc, enc_13_node_kind, enc_node_checker, enc_node_inner, enc_diff_grid, enc_s_int, enc_string, enc_api_Op])⟩, rfl, ⟨_, rfl, rfl⟩, trivial⟩ rfl rfl rfl rfl rfl) ?_
  refine tri_seq ?_
  refine tri_region (by exact tokW) (by exact gok) [] [] rfl ?_
  obtain ⟨⟨e4_kind, e4_text, e4_cols, e4_kids⟩, he4, h⟩ := bind_out h
  refine And.intro (at_ok Nd.encs_eq he4).1 ?_
  have hset5 := (rset (R := Nd.encs) (f := Nd.enc) Nd.encs_eq he4 (Nd.mk kid3_kind kid3_text kid3_cols kid3_kids) 0 4 [.int .i64 kid3_kind, .str kid3_text, .int .i64 kid3_cols, .sl 4 (Nd.encs kid3_kids)] rfl)
  have hat5 := at_set he4 (Nd.mk kid3_kind kid3_text kid3_cols kid3_kids)
  refine And.intro (at_ok Nd.encs_eq he4).2.2 ?_
  show Tri _ _ _ _
  refine tri_le (Le.rename [(0, 0), (1, 1), (2, 2)] [(3, .op 0 0), (6, .op 2 0)] [(0, .box [.s (.int .i64 n1_kind), .s (.str n1_text), .s (.int .i64 n1_cols), .orow 1]), (1, .row 24 4 (Nd.encs (n1_kids.set i2.toNat (Nd.mk kid3_kind kid3_text kid3_cols kid3_kids)))), (2, .box [.s (.int .i64 0), .s (.str []), .s (.int .i64 0), .nl 4])] 3 ⟨rfl, rfl, trivial⟩ ⟨rfl, ⟨_, rfl, rfl⟩, rfl, ⟨_, rfl, congrArg (Ob.row 24 4) hset5⟩, rfl, ⟨_, rfl, rfl⟩, trivial⟩ rfl rfl rfl rfl rfl) ?_
  refine tri_seq ?_
  refine tri_region (by exact tokW) (by exact gok) [] [] rfl ?_
  show Tri _ _ _ _
  refine tri_ret ?_
  have hy := Option.some.inj h
  subst hy
  unfold Gives
  exact ⟨_, (Le.trans (Le.rename [(2, 0), (1, 1)] [(6, .op 0 0)] [(0, .box [.s (.int .i64 n1_kind), .s (.str n1_text), .s (.int .i64 n1_cols), .orow 1]), (1, .row 24 4 (Nd.encs (n1_kids.set i2.toNat (Nd.mk kid3_kind kid3_text kid3_cols kid3_kids))))] 2 ⟨rfl, trivial⟩ ⟨rfl, ⟨_, rfl, rfl⟩, rfl, ⟨_, rfl, rfl⟩, trivial⟩ rfl rfl rfl rfl rfl) (Le.giveRow 1 rfl)), rfl, rfl⟩

end Go.Proofs.Ytplekejomocalaa
