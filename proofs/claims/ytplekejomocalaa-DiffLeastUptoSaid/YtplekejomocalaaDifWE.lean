/-
  Walks, printed by gw.py.
-/
import Derived.Test.YtplekejomocalaaDifWD
set_option linter.unusedVariables false
set_option linter.unusedSimpArgs false
namespace Go.Proofs.Ytplekejomocalaa
open Go.Abs

/- vinculum/vinculumlaw16.awake -/
def R_l16_awake (n : Nat) (xs : List AV) (r : Ret) : Prop := ∃ (y0 : Bool), m_l16_awake n = some y0 ∧ xs = [] ∧ r = .val (.s (.bool y0))
def S_l16_awake : PSpec := pspec fun xs r => ∃ n, R_l16_awake n xs r
set_option maxHeartbeats 2000000 in
set_option maxRecDepth 100000 in
theorem ok_l16_awake : PSound Try.prog 7 S_l16_awake := by
  have gok : ∀ f s, look? f [(19, S_l16_symbols), (9, S_diff_Cost)] = some s → PSound Try.prog f s := look_all (by
    simp only [List.forall_mem_cons]
    exact ⟨ok_l16_symbols, ok_diff_Cost, by simp⟩)
  refine psound tokW Try.call7 Try.func7 rfl (fun xs r h => by obtain ⟨n, _, _, rfl, _⟩ := h; show 0 ≤ 15; decide) 15 rfl ?_
  rintro xs r w0 G0 ⟨n, y0, h, rfl, rfl⟩ _
  rw [m_l16_awake] at h
  refine tri_seq ?_
  refine tri_region (by exact tokW) (by exact gok) [] [] rfl ?_
  show Tri _ _ _ _
  refine tri_seq ?_
  refine tri_region (by exact tokW) (by exact gok) [] [] rfl ?_
  obtain ⟨⟨y1_kind, y1_text, y1_cols, y1_kids⟩, hy1, h⟩ := bind_out h
  refine ⟨_, ⟨_, _, _, hy1, rfl, rfl⟩, ?_⟩
  obtain ⟨⟨y2_kind, y2_text, y2_cols, y2_kids⟩, hy2, h⟩ := bind_out h
  refine ⟨_, ⟨_, _, _, hy2, rfl, rfl⟩, ?_⟩
  obtain ⟨⟨y3, y4⟩, hy3, h⟩ := bind_out h
  refine ⟨_, ⟨_, _, _, _, _, hy3, rfl, rfl⟩, ?_⟩
  show Tri _ _ _ _
  refine tri_seq ?_
  obtain ⟨x5, hj, h⟩ := bind_out h
  refine tri_post ⟨ofL [(0, .s (.bool x5))], fun _ => none, 0⟩ ?_ (fun σ' hle => ?_)
  · replace h := hj
    refine tri_region (by exact tokW) (by exact gok) [] [11] rfl ?_
    intro b hb
    cases b with
    | true =>
      replace h := bif_t hb.symm h
      cases h
      exact (Le.forget _ ⟨rfl, trivial⟩)
    | false =>
      replace h := bif_f hb.symm h
      cases h
      exact (Le.forget _ ⟨rfl, trivial⟩)
  · show Tri _ _ _ _
    refine tri_le hle ?_
    refine tri_ret ?_
    have hy := Option.some.inj h
    subst hy
    unfold Gives
    exact ⟨_, Le.refl _ _, rfl, rfl⟩

/- vinculum/vinculumref09.left -/
def R_r09_left (n : Nat) (xs : List AV) (r : Ret) : Prop := ∃ (a0 : Nd) (a1 : Int) (y0 : Int), m_r09_left n a0 a1 = some y0 ∧ xs = [.agg ((Nd.enc a0).map .s), .s (.int .i64 a1)] ∧ r = .val (.s (.int .i64 y0))
set_option maxHeartbeats 2000000 in
set_option maxRecDepth 100000 in
theorem step_r09_left (n : Nat) (ih : PSound Try.prog 26 (pspec (R_r09_left n))) : PSound Try.prog 26 (pspec (R_r09_left (n + 1))) := by
  have gok : ∀ f s, look? f [(26, pspec (R_r09_left n))] = some s → PSound Try.prog f s := look_all (by
    simp only [List.forall_mem_cons]
    exact ⟨ih, by simp⟩)
  refine psound tokW Try.call26 Try.func26 rfl (fun xs r h => by obtain ⟨_, _, _, _, rfl, _⟩ := h; show 2 ≤ 27; decide) 27 rfl ?_
  rintro xs r w0 G0 ⟨⟨n1_kind, n1_text, n1_cols, n1_kids⟩, most2, y0, h, rfl, rfl⟩ _
  rw [m_r09_left] at h
  refine tri_seq ?_
  refine tri_region (by exact tokW) (by exact gok) [] [] rfl ?_
  show Tri _ _ _ _
  refine tri_seq ?_
  refine tri_region (by exact tokW) (by exact gok) [] [] rfl ?_
  show Tri _ _ _ _
  refine tri_seq ?_
  refine tri_seq ?_
  refine tri_region (by exact tokW) (by exact gok) [] [] rfl ?_
  show Tri _ _ _ _
  obtain ⟨most5, hl, h⟩ := bind_out h
  refine tri_post ⟨ofL [(1, .s (.int .i64 most5))], fun _ => none, 0⟩ ?_ (fun σ' hle => ?_)
  · refine tri_block (tri_loopI (X := Nat × Int × Int) (fun y => match y with | (k, most3, i4) => ⟨ofL [(1, .s (.int .i64 most3)), (2, .s (.pt [.int .i64 n1_kind, .str n1_text, .int .i64 n1_cols, .sl 4 (Nd.encs n1_kids)])), (5, .s (.int .i64 i4))], fun _ => none, 0⟩) (fun y => m_r09_left_l1 (m_r09_left n) n1_kids y.1 y.2.1 y.2.2 = some most5) (fun y => y.1) (n, IntKind.i64.wrap (most2 - 1), 0) hl ?_ ?_)
    · exact (Le.forget _ ⟨rfl, rfl, rfl, trivial⟩)
    · rintro ⟨k, most3, i4⟩ h
      cases k with
      | zero => cases h
      | succ k =>
        replace h : m_r09_left_l1 (m_r09_left n) n1_kids (k+1) most3 i4 = some most5 := h
        rw [m_r09_left_l1] at h
        refine tri_seq ?_
        refine tri_seq ?_
        obtain ⟨x6, hj, h⟩ := bind_out h
        refine tri_post ⟨ofL [(1, .s (.int .i64 most3)), (2, .s (.pt [.int .i64 n1_kind, .str n1_text, .int .i64 n1_cols, .sl 4 (Nd.encs n1_kids)])), (5, .s (.int .i64 i4)), (16, .s (.bool x6))], fun _ => none, 0⟩ ?_ (fun σ' hle => ?_)
        · replace h := hj
          refine tri_region (by exact tokW) (by exact gok) [] [11, 13] rfl ?_
          intro n7 hn7
          obtain rfl : (n1_kids.length : Int) = n7 := (hn7.trans (congrArg (fun m : Nat => (m : Int)) (rlen Nd.encs_eq n1_kids))).symm
          intro b hb
          cases b with
          | true =>
            replace h := bif_t hb.symm h
            cases h
            exact (Le.forget _ ⟨rfl, rfl, rfl, rfl, trivial⟩)
          | false =>
            replace h := bif_f hb.symm h
            cases h
            exact (Le.forget _ ⟨rfl, rfl, rfl, rfl, trivial⟩)
        · show Tri _ _ _ _
          refine tri_le hle ?_
          refine tri_cond rfl (fun hb => ?_) (fun hb => ?_)
          · replace h := bif_t hb h
            refine tri_skip ?_
            show Tri _ _ _ _
            refine tri_seq ?_
            refine tri_block ?_
            refine tri_region (by exact tokW) (by exact gok) [] [22] rfl ?_
            obtain ⟨⟨e8_kind, e8_text, e8_cols, e8_kids⟩, he8, h⟩ := bind_out h
            refine And.intro (at_ok Nd.encs_eq he8).1 ?_
            intro r9 hr9
            obtain rfl : [.int .i64 e8_kind, .str e8_text, .int .i64 e8_cols, .sl 4 (Nd.encs e8_kids)] = r9 := (hr9.trans (at_ok Nd.encs_eq he8).2.1).symm
            obtain ⟨y10, hy10, h⟩ := bind_out h
            refine ⟨_, ⟨_, _, _, hy10, rfl, rfl⟩, ?_⟩
            show Tri _ _ _ _
            refine tri_region (by exact tokW) (by exact gok) [] [] rfl ?_
            refine ⟨(k, y10, IntKind.i64.wrap (i4 + 1)), h, (Le.forget _ ⟨rfl, rfl, rfl, trivial⟩), Nat.lt_succ_self k⟩
          · replace h := bif_f hb h
            refine tri_exit ?_
            cases h
            exact (Le.forget _ ⟨rfl, trivial⟩)
  · show Tri _ _ _ _
    refine tri_le hle ?_
    refine tri_seq ?_
    refine tri_region (by exact tokW) (by exact gok) [] [] rfl ?_
    show Tri _ _ _ _
    refine tri_ret ?_
    have hy := Option.some.inj h
    subst hy
    unfold Gives
    exact ⟨_, Le.refl _ _, rfl, rfl⟩
theorem all_r09_left : ∀ n, PSound Try.prog 26 (pspec (R_r09_left n)) := by
  intro n
  induction n with
  | zero => exact psound_none Try.call26 (fun xs r h => by obtain ⟨_, _, _, h, _⟩ := h; cases h)
  | succ n ih => exact step_r09_left n ih
def S_r09_left : PSpec := pspec fun xs r => ∃ n, R_r09_left n xs r
theorem ok_r09_left : PSound Try.prog 26 S_r09_left := psound_all all_r09_left

/- vinculum/vinculumref09.Few -/
def R_r09_Few (n : Nat) (xs : List AV) (r : Ret) : Prop := ∃ (a0 : Nd) (a1 : Int) (y0 : Bool), m_r09_Few n a0 a1 = some y0 ∧ xs = [.agg ((Nd.enc a0).map .s), .s (.int .i64 a1)] ∧ r = .val (.s (.bool y0))
def S_r09_Few : PSpec := pspec fun xs r => ∃ n, R_r09_Few n xs r
set_option maxHeartbeats 2000000 in
set_option maxRecDepth 100000 in
theorem ok_r09_Few : PSound Try.prog 12 S_r09_Few := by
  have gok : ∀ f s, look? f [(26, S_r09_left)] = some s → PSound Try.prog f s := look_all (by
    simp only [List.forall_mem_cons]
    exact ⟨ok_r09_left, by simp⟩)
  refine psound tokW Try.call12 Try.func12 rfl (fun xs r h => by obtain ⟨n, _, _, _, _, rfl, _⟩ := h; show 2 ≤ 9; decide) 9 rfl ?_
  rintro xs r w0 G0 ⟨n, ⟨n1_kind, n1_text, n1_cols, n1_kids⟩, most2, y0, h, rfl, rfl⟩ _
  rw [m_r09_Few] at h
  refine tri_seq ?_
  refine tri_region (by exact tokW) (by exact gok) [] [] rfl ?_
  show Tri _ _ _ _
  refine tri_seq ?_
  refine tri_region (by exact tokW) (by exact gok) [] [] rfl ?_
  obtain ⟨y3, hy3, h⟩ := bind_out h
  refine ⟨_, ⟨_, _, _, _, hy3, rfl, rfl⟩, ?_⟩
  show Tri _ _ _ _
  refine tri_ret ?_
  have hy := Option.some.inj h
  subst hy
  unfold Gives
  exact ⟨_, Le.refl _ _, rfl, rfl⟩

/- vinculum/vinculumlaw16.few -/
def R_l16_few (n : Nat) (xs : List AV) (r : Ret) : Prop := ∃ (a0 : Nd) (a1 : Nd) (y0 : Bool), m_l16_few n a0 a1 = some y0 ∧ xs = [.agg ((Nd.enc a0).map .s), .agg ((Nd.enc a1).map .s)] ∧ r = .val (.s (.bool y0))
def S_l16_few : PSpec := pspec fun xs r => ∃ n, R_l16_few n xs r
set_option maxHeartbeats 2000000 in
set_option maxRecDepth 100000 in
theorem ok_l16_few : PSound Try.prog 8 S_l16_few := by
  have gok : ∀ f s, look? f [(12, S_r09_Few)] = some s → PSound Try.prog f s := look_all (by
    simp only [List.forall_mem_cons]
    exact ⟨ok_r09_Few, by simp⟩)
  refine psound tokW Try.call8 Try.func8 rfl (fun xs r h => by obtain ⟨n, _, _, _, _, rfl, _⟩ := h; show 2 ≤ 11; decide) 11 rfl ?_
  rintro xs r w0 G0 ⟨n, ⟨a1_kind, a1_text, a1_cols, a1_kids⟩, ⟨b2_kind, b2_text, b2_cols, b2_kids⟩, y0, h, rfl, rfl⟩ _
  rw [m_l16_few] at h
  refine tri_seq ?_
  refine tri_region (by exact tokW) (by exact gok) [] [] rfl ?_
  show Tri _ _ _ _
  refine tri_seq ?_
  obtain ⟨x3, hj, h⟩ := bind_out h
  refine tri_post ⟨ofL [(4, .s (.bool x3))], fun _ => none, 0⟩ ?_ (fun σ' hle => ?_)
  · replace h := hj
    refine tri_region (by exact tokW) (by exact gok) [] [7] rfl ?_
    obtain ⟨y4, hy4, h⟩ := bind_out h
    refine ⟨_, ⟨_, _, _, _, hy4, rfl, rfl⟩, ?_⟩
    intro b hb
    cases b with
    | true =>
      replace h := bif_t hb.symm h
      obtain ⟨y5, hy5, h⟩ := bind_out h
      refine ⟨_, ⟨_, _, _, _, hy5, rfl, rfl⟩, ?_⟩
      cases h
      exact (Le.forget _ ⟨rfl, trivial⟩)
    | false =>
      replace h := bif_f hb.symm h
      cases h
      exact (Le.forget _ ⟨rfl, trivial⟩)
  · show Tri _ _ _ _
    refine tri_le hle ?_
    refine tri_ret ?_
    have hy := Option.some.inj h
    subst hy
    unfold Gives
    exact ⟨_, Le.refl _ _, rfl, rfl⟩

/- vinculum/vinculumref09.Letter -/
def R_r09_Letter (xs : List AV) (r : Ret) : Prop := ∃ (a0 : Int) (y0 : Bool), m_r09_Letter a0 = some y0 ∧ xs = [.s (.int .u8 a0)] ∧ r = .val (.s (.bool y0))
def S_r09_Letter : PSpec := pspec fun xs r => R_r09_Letter xs r
set_option maxHeartbeats 2000000 in
set_option maxRecDepth 100000 in
theorem ok_r09_Letter : PSound Try.prog 65 S_r09_Letter := by
  have gok : ∀ (f : Nat) (s : PSpec), (fun _ => none : Nat → Option PSpec) f = some s → PSound Try.prog f s := fun _ _ h => by cases h
  refine psound tokW Try.call65 Try.func65 rfl (fun xs r h => by obtain ⟨_, _, _, rfl, _⟩ := h; show 1 ≤ 17; decide) 17 rfl ?_
  rintro xs r w0 G0 ⟨c1, y0, h, rfl, rfl⟩ _
  rw [m_r09_Letter] at h
  refine tri_seq ?_
  refine tri_region (by exact tokW) (by exact gok) [] [] rfl ?_
  show Tri _ _ _ _
  refine tri_seq ?_
  obtain ⟨x2, hj, h⟩ := bind_out h
  refine tri_post ⟨ofL [(2, .s (.bool x2))], fun _ => none, 0⟩ ?_ (fun σ' hle => ?_)
  · replace h := hj
    refine tri_region (by exact tokW) (by exact gok) [] [5, 9, 12] rfl ?_
    intro b hb
    cases b with
    | true =>
      replace h := bif_t hb.symm h
      intro b hb
      cases b with
      | true =>
        replace h := bif_t hb.symm h
        cases h
        exact (Le.forget _ ⟨rfl, trivial⟩)
      | false =>
        replace h := bif_f hb.symm h
        intro b hb
        cases b with
        | true =>
          replace h := bif_t hb.symm h
          cases h
          exact (Le.forget _ ⟨rfl, trivial⟩)
        | false =>
          replace h := bif_f hb.symm h
          cases h
          exact (Le.forget _ ⟨rfl, trivial⟩)
    | false =>
      replace h := bif_f hb.symm h
      intro b hb
      subst hb
      intro b hb
      cases b with
      | true =>
        replace h := bif_t hb.symm h
        cases h
        exact (Le.forget _ ⟨rfl, trivial⟩)
      | false =>
        replace h := bif_f hb.symm h
        cases h
        exact (Le.forget _ ⟨rfl, trivial⟩)
  · show Tri _ _ _ _
    refine tri_le hle ?_
    refine tri_ret ?_
    have hy := Option.some.inj h
    subst hy
    unfold Gives
    exact ⟨_, Le.refl _ _, rfl, rfl⟩

/- vinculum/vinculumref09.has -/
def R_r09_has (n : Nat) (xs : List AV) (r : Ret) : Prop := ∃ (a0 : List UInt8) (a1 : Int) (y0 : Bool), m_r09_has n a0 a1 = some y0 ∧ xs = [.s (.str a0), .s (.int .u8 a1)] ∧ r = .val (.s (.bool y0))
def S_r09_has : PSpec := pspec fun xs r => ∃ n, R_r09_has n xs r
set_option maxHeartbeats 2000000 in
set_option maxRecDepth 100000 in
theorem ok_r09_has : PSound Try.prog 50 S_r09_has := by
  have gok : ∀ (f : Nat) (s : PSpec), (fun _ => none : Nat → Option PSpec) f = some s → PSound Try.prog f s := fun _ _ h => by cases h
  refine psound tokW Try.call50 Try.func50 rfl (fun xs r h => by obtain ⟨n, _, _, _, _, rfl, _⟩ := h; show 2 ≤ 17; decide) 17 rfl ?_
  rintro xs r w0 G0 ⟨n, s1, c2, y0, h, rfl, rfl⟩ _
  rw [m_r09_has] at h
  refine tri_seq ?_
  refine tri_region (by exact tokW) (by exact gok) [] [] rfl ?_
  show Tri _ _ _ _
  refine tri_seq ?_
  refine tri_seq ?_
  refine tri_region (by exact tokW) (by exact gok) [] [] rfl ?_
  show Tri _ _ _ _
  obtain ⟨fl, hl, ho1⟩ := bind_out h
  refine tri_fl (fl := fl) (fun z => match z with | _ => ⟨ofL [], fun _ => none, 0⟩) ?_ (fun z σ' hz hle => ?_)
  · refine tri_block (tri_loopI (X := Nat × Int) (fun y => match y with | (k, i3) => ⟨ofL [(0, .s (.str s1)), (1, .s (.int .u8 c2)), (5, .s (.int .i64 i3))], fun _ => none, 0⟩) (fun y => m_r09_has_l1 s1 c2 y.1 y.2 = some fl) (fun y => y.1) (n, 0) hl ?_ ?_)
    · exact (Le.forget _ ⟨rfl, rfl, rfl, trivial⟩)
    · rintro ⟨k, i3⟩ h
      cases k with
      | zero => cases h
      | succ k =>
        replace h : m_r09_has_l1 s1 c2 (k+1) i3 = some fl := h
        rw [m_r09_has_l1] at h
        refine tri_seq ?_
        refine tri_seq ?_
        refine tri_region (by exact tokW) (by exact gok) [] [] rfl ?_
        show Tri _ _ _ _
        refine tri_cond rfl (fun hb => ?_) (fun hb => ?_)
        · replace h := bif_t hb h
          refine tri_skip ?_
          show Tri _ _ _ _
          refine tri_seq ?_
          refine tri_block ?_
          refine tri_seq ?_
          refine tri_region (by exact tokW) (by exact gok) [] [14] rfl ?_
          obtain ⟨c4, hc4, h⟩ := bind_out h
          refine And.intro (str_ok hc4).1 ?_
          intro v5 hv5
          obtain rfl : (c4.toNat : Int) = v5 := (hv5.trans (str_ok hc4).2).symm
          show Tri _ _ _ _
          refine tri_cond rfl (fun hb => ?_) (fun hb => ?_)
          · replace h := bif_t hb h
            refine tri_seq ?_
            refine tri_region (by exact tokW) (by exact gok) [] [] rfl ?_
            show Tri _ _ _ _
            refine tri_ret ?_
            cases h
            replace h : some _ = some _ := ho1
            have hy := Option.some.inj h
            subst hy
            unfold Gives
            exact ⟨_, Le.refl _ _, rfl, rfl⟩
          · replace h := bif_f hb h
            refine tri_skip ?_
            show Tri _ _ _ _
            refine tri_region (by exact tokW) (by exact gok) [] [] rfl ?_
            refine ⟨(k, IntKind.i64.wrap (i3 + 1)), h, (Le.forget _ ⟨rfl, rfl, rfl, trivial⟩), Nat.lt_succ_self k⟩
        · replace h := bif_f hb h
          refine tri_exit ?_
          cases h
          exact ⟨_, rfl, (Le.forget _ trivial)⟩
  · subst hz
    obtain _ := z
    replace h := ho1
    show Tri _ _ _ _
    refine tri_le hle ?_
    refine tri_seq ?_
    refine tri_region (by exact tokW) (by exact gok) [] [] rfl ?_
    show Tri _ _ _ _
    refine tri_ret ?_
    have hy := Option.some.inj h
    subst hy
    unfold Gives
    exact ⟨_, Le.refl _ _, rfl, rfl⟩

/- vinculum/vinculumref09.Character -/
def R_r09_Character (n : Nat) (xs : List AV) (r : Ret) : Prop := ∃ (a0 : Int) (y0 : Bool), m_r09_Character n a0 = some y0 ∧ xs = [.s (.int .u8 a0)] ∧ r = .val (.s (.bool y0))
def S_r09_Character : PSpec := pspec fun xs r => ∃ n, R_r09_Character n xs r
set_option maxHeartbeats 2000000 in
set_option maxRecDepth 100000 in
theorem ok_r09_Character : PSound Try.prog 64 S_r09_Character := by
  have gok : ∀ f s, look? f [(65, S_r09_Letter), (50, S_r09_has)] = some s → PSound Try.prog f s := look_all (by
    simp only [List.forall_mem_cons]
    exact ⟨ok_r09_Letter, ok_r09_has, by simp⟩)
  refine psound tokW Try.call64 Try.func64 rfl (fun xs r h => by obtain ⟨n, _, _, _, rfl, _⟩ := h; show 1 ≤ 9; decide) 9 rfl ?_
  rintro xs r w0 G0 ⟨n, c1, y0, h, rfl, rfl⟩ _
  rw [m_r09_Character] at h
  refine tri_seq ?_
  refine tri_region (by exact tokW) (by exact gok) [] [] rfl ?_
  show Tri _ _ _ _
  refine tri_seq ?_
  obtain ⟨x2, hj, h⟩ := bind_out h
  refine tri_post ⟨ofL [(2, .s (.bool x2))], fun _ => none, 0⟩ ?_ (fun σ' hle => ?_)
  · replace h := hj
    refine tri_region (by exact tokW) (by exact gok) [] [5] rfl ?_
    obtain ⟨y3, hy3, h⟩ := bind_out h
    refine ⟨_, ⟨_, _, hy3, rfl, rfl⟩, ?_⟩
    intro b hb
    cases b with
    | true =>
      replace h := bif_t hb.symm h
      cases h
      exact (Le.forget _ ⟨rfl, trivial⟩)
    | false =>
      replace h := bif_f hb.symm h
      obtain ⟨y4, hy4, h⟩ := bind_out h
      refine ⟨_, ⟨_, _, _, _, hy4, rfl, rfl⟩, ?_⟩
      cases h
      exact (Le.forget _ ⟨rfl, trivial⟩)
  · show Tri _ _ _ _
    refine tri_le hle ?_
    refine tri_ret ?_
    have hy := Option.some.inj h
    subst hy
    unfold Gives
    exact ⟨_, Le.refl _ _, rfl, rfl⟩

/- vinculum/vinculumref09.Keywords -/
def enc_string (p : List UInt8) : List S := [.str p]
def R_r09_Keywords (xs : List AV) (r : Ret) : Prop := ∃ (y0 : List (List UInt8)), m_r09_Keywords = some y0 ∧ xs = [] ∧ r = .val (.s (.sl 1 ((List.map enc_string) y0)))
def S_r09_Keywords : PSpec := pspec fun xs r => R_r09_Keywords xs r
set_option maxHeartbeats 2000000 in
set_option maxRecDepth 100000 in
theorem ok_r09_Keywords : PSound Try.prog 66 S_r09_Keywords := by
  have gok : ∀ (f : Nat) (s : PSpec), (fun _ => none : Nat → Option PSpec) f = some s → PSound Try.prog f s := fun _ _ h => by cases h
  refine psound tokW Try.call66 Try.func66 rfl (fun xs r h => by obtain ⟨_, _, rfl, _⟩ := h; show 0 ≤ 2; decide) 2 rfl ?_
  rintro xs r w0 G0 ⟨y0, h, rfl, rfl⟩ _
  rw [m_r09_Keywords] at h
  refine tri_seq ?_
  refine tri_region (by exact tokW) (by exact gok) [] [] rfl ?_
  show Tri _ _ _ _
  refine tri_seq ?_
  refine tri_region (by exact tokW) (by exact gok) [] [1] rfl ?_
  intro r1 hr1
  obtain rfl : (List.map enc_string) [[102, 114, 97, 99], [114, 111, 111, 116], [109, 97, 116, 114, 105, 120], [102, 101, 110, 99, 101]] = r1 := (hr1.trans (by simp [List.map_append, List.map_take, List.map_drop, irow, brow, b8of_row, List.map_cons, List.map_nil, b8of_wrap, Nd.encs_eq, Nd.enc, enc_13_node_kind, enc_node_checker, enc_node_inner, enc_diff_grid, enc_s_int, enc_string])).symm
  show Tri _ _ _ _
  refine tri_ret ?_
  have hy := Option.some.inj h
  subst hy
  unfold Gives
  exact ⟨_, Le.refl _ _, rfl, rfl⟩

/- vinculum/vinculumref09.In -/
def R_r09_In (n : Nat) (xs : List AV) (r : Ret) : Prop := ∃ (a0 : List (List UInt8)) (a1 : List UInt8) (y0 : Bool), m_r09_In n a0 a1 = some y0 ∧ xs = [.s (.sl 1 ((List.map enc_string) a0)), .s (.str a1)] ∧ r = .val (.s (.bool y0))
def S_r09_In : PSpec := pspec fun xs r => ∃ n, R_r09_In n xs r
set_option maxHeartbeats 2000000 in
set_option maxRecDepth 100000 in
theorem ok_r09_In : PSound Try.prog 48 S_r09_In := by
  have gok : ∀ (f : Nat) (s : PSpec), (fun _ => none : Nat → Option PSpec) f = some s → PSound Try.prog f s := fun _ _ h => by cases h
  refine psound tokW Try.call48 Try.func48 rfl (fun xs r h => by obtain ⟨n, _, _, _, _, rfl, _⟩ := h; show 2 ≤ 18; decide) 18 rfl ?_
  rintro xs r w0 G0 ⟨n, l1, s2, y0, h, rfl, rfl⟩ _
  rw [m_r09_In] at h
  refine tri_seq ?_
  refine tri_region (by exact tokW) (by exact gok) [] [] rfl ?_
  show Tri _ _ _ _
  refine tri_seq ?_
  refine tri_seq ?_
  refine tri_region (by exact tokW) (by exact gok) [] [] rfl ?_
  show Tri _ _ _ _
  obtain ⟨fl, hl, ho1⟩ := bind_out h
  refine tri_fl (fl := fl) (fun z => match z with | _ => ⟨ofL [], fun _ => none, 0⟩) ?_ (fun z σ' hz hle => ?_)
  · refine tri_block (tri_loopI (X := Nat × Int) (fun y => match y with | (k, i3) => ⟨ofL [(0, .s (.sl 1 ((List.map enc_string) l1))), (1, .s (.str s2)), (5, .s (.int .i64 i3))], fun _ => none, 0⟩) (fun y => m_r09_In_l1 l1 s2 y.1 y.2 = some fl) (fun y => y.1) (n, 0) hl ?_ ?_)
    · exact (Le.forget _ ⟨rfl, rfl, rfl, trivial⟩)
    · rintro ⟨k, i3⟩ h
      cases k with
      | zero => cases h
      | succ k =>
        replace h : m_r09_In_l1 l1 s2 (k+1) i3 = some fl := h
        rw [m_r09_In_l1] at h
        refine tri_seq ?_
        refine tri_seq ?_
        refine tri_region (by exact tokW) (by exact gok) [] [8] rfl ?_
        intro n4 hn4
        obtain rfl : (l1.length : Int) = n4 := (hn4.trans (congrArg (fun m : Nat => (m : Int)) (rlen (fun _ => rfl) l1))).symm
        show Tri _ _ _ _
        refine tri_cond rfl (fun hb => ?_) (fun hb => ?_)
        · replace h := bif_t hb h
          refine tri_skip ?_
          show Tri _ _ _ _
          refine tri_seq ?_
          refine tri_block ?_
          refine tri_seq ?_
          refine tri_region (by exact tokW) (by exact gok) [] [14] rfl ?_
          obtain ⟨e5, he5, h⟩ := bind_out h
          refine And.intro (at_ok (fun _ => rfl) he5).1 ?_
          intro r6 hr6
          obtain rfl : [.str e5] = r6 := (hr6.trans (at_ok (fun _ => rfl) he5).2.1).symm
          show Tri _ _ _ _
          refine tri_cond rfl (fun hb => ?_) (fun hb => ?_)
          · replace h := bif_t hb h
            refine tri_seq ?_
            refine tri_region (by exact tokW) (by exact gok) [] [] rfl ?_
            show Tri _ _ _ _
            refine tri_ret ?_
            cases h
            replace h : some _ = some _ := ho1
            have hy := Option.some.inj h
            subst hy
            unfold Gives
            exact ⟨_, Le.refl _ _, rfl, rfl⟩
          · replace h := bif_f hb h
            refine tri_skip ?_
            show Tri _ _ _ _
            refine tri_region (by exact tokW) (by exact gok) [] [] rfl ?_
            refine ⟨(k, IntKind.i64.wrap (i3 + 1)), h, (Le.forget _ ⟨rfl, rfl, rfl, trivial⟩), Nat.lt_succ_self k⟩
        · replace h := bif_f hb h
          refine tri_exit ?_
          cases h
          exact ⟨_, rfl, (Le.forget _ trivial)⟩
  · subst hz
    obtain _ := z
    replace h := ho1
    show Tri _ _ _ _
    refine tri_le hle ?_
    refine tri_seq ?_
    refine tri_region (by exact tokW) (by exact gok) [] [] rfl ?_
    show Tri _ _ _ _
    refine tri_ret ?_
    have hy := Option.some.inj h
    subst hy
    unfold Gives
    exact ⟨_, Le.refl _ _, rfl, rfl⟩

/- vinculum/vinculumref09.Accents -/
def R_r09_Accents (xs : List AV) (r : Ret) : Prop := ∃ (y0 : List (List UInt8)), m_r09_Accents = some y0 ∧ xs = [] ∧ r = .val (.s (.sl 1 ((List.map enc_string) y0)))
def S_r09_Accents : PSpec := pspec fun xs r => R_r09_Accents xs r
set_option maxHeartbeats 2000000 in
set_option maxRecDepth 100000 in
theorem ok_r09_Accents : PSound Try.prog 49 S_r09_Accents := by
  have gok : ∀ (f : Nat) (s : PSpec), (fun _ => none : Nat → Option PSpec) f = some s → PSound Try.prog f s := fun _ _ h => by cases h
  refine psound tokW Try.call49 Try.func49 rfl (fun xs r h => by obtain ⟨_, _, rfl, _⟩ := h; show 0 ≤ 2; decide) 2 rfl ?_
  rintro xs r w0 G0 ⟨y0, h, rfl, rfl⟩ _
  rw [m_r09_Accents] at h
  refine tri_seq ?_
  refine tri_region (by exact tokW) (by exact gok) [] [] rfl ?_
  show Tri _ _ _ _
  refine tri_seq ?_
  refine tri_region (by exact tokW) (by exact gok) [] [1] rfl ?_
  intro r1 hr1
  obtain rfl : (List.map enc_string) [[104, 97, 116], [98, 97, 114], [118, 101, 99], [100, 111, 116], [116, 105, 108, 100, 101], [99, 104, 101, 99, 107]] = r1 := (hr1.trans (by simp [List.map_append, List.map_take, List.map_drop, irow, brow, b8of_row, List.map_cons, List.map_nil, b8of_wrap, Nd.encs_eq, Nd.enc, enc_13_node_kind, enc_node_checker, enc_node_inner, enc_diff_grid, enc_s_int, enc_string])).symm
  show Tri _ _ _ _
  refine tri_ret ?_
  have hy := Option.some.inj h
  subst hy
  unfold Gives
  exact ⟨_, Le.refl _ _, rfl, rfl⟩

/- vinculum/vinculumref09.Symbol -/
def R_r09_Symbol (n : Nat) (xs : List AV) (r : Ret) : Prop := ∃ (a0 : List UInt8) (y0 : Bool), m_r09_Symbol n a0 = some y0 ∧ xs = [.s (.str a0)] ∧ r = .val (.s (.bool y0))
def S_r09_Symbol : PSpec := pspec fun xs r => ∃ n, R_r09_Symbol n xs r
set_option maxHeartbeats 2000000 in
set_option maxRecDepth 100000 in
theorem ok_r09_Symbol : PSound Try.prog 45 S_r09_Symbol := by
  have gok : ∀ f s, look? f [(64, S_r09_Character), (65, S_r09_Letter), (66, S_r09_Keywords), (48, S_r09_In), (49, S_r09_Accents)] = some s → PSound Try.prog f s := look_all (by
    simp only [List.forall_mem_cons]
    exact ⟨ok_r09_Character, ok_r09_Letter, ok_r09_Keywords, ok_r09_In, ok_r09_Accents, by simp⟩)
  refine psound tokW Try.call45 Try.func45 rfl (fun xs r h => by obtain ⟨n, _, _, _, rfl, _⟩ := h; show 1 ≤ 41; decide) 41 rfl ?_
  rintro xs r w0 G0 ⟨n, s1, y0, h, rfl, rfl⟩ _
  rw [m_r09_Symbol] at h
  refine tri_seq ?_
  refine tri_region (by exact tokW) (by exact gok) [] [] rfl ?_
  show Tri _ _ _ _
  refine tri_seq ?_
  refine tri_seq ?_
  refine tri_region (by exact tokW) (by exact gok) [] [] rfl ?_
  show Tri _ _ _ _
  refine tri_cond rfl (fun hb => ?_) (fun hb => ?_)
  · replace h := bif_t hb h
    refine tri_seq ?_
    refine tri_region (by exact tokW) (by exact gok) [] [8] rfl ?_
    obtain ⟨c2, hc2, h⟩ := bind_out h
    refine And.intro (str_ok hc2).1 ?_
    intro v3 hv3
    obtain rfl : (c2.toNat : Int) = v3 := (hv3.trans (str_ok hc2).2).symm
    obtain ⟨y4, hy4, h⟩ := bind_out h
    refine ⟨_, ⟨_, _, _, hy4, rfl, rfl⟩, ?_⟩
    show Tri _ _ _ _
    refine tri_ret ?_
    have hy := Option.some.inj h
    subst hy
    unfold Gives
    exact ⟨_, Le.refl _ _, rfl, rfl⟩
  · replace h := bif_f hb h
    refine tri_skip ?_
    show Tri _ _ _ _
    refine tri_seq ?_
    refine tri_seq ?_
    refine tri_region (by exact tokW) (by exact gok) [] [] rfl ?_
    show Tri _ _ _ _
    obtain ⟨fl, hl, ho1⟩ := bind_out h
    refine tri_fl (fl := fl) (fun z => match z with | _ => ⟨ofL [(0, .s (.str s1))], fun _ => none, 0⟩) ?_ (fun z σ' hz hle => ?_)
    · refine tri_block (tri_loopI (X := Nat × Int) (fun y => match y with | (k, i5) => ⟨ofL [(0, .s (.str s1)), (3, .s (.int .i64 i5))], fun _ => none, 0⟩) (fun y => m_r09_Symbol_l1 s1 y.1 y.2 = some fl) (fun y => y.1) (n, 0) hl ?_ ?_)
      · exact (Le.forget _ ⟨rfl, rfl, trivial⟩)
      · rintro ⟨k, i5⟩ h
        cases k with
        | zero => cases h
        | succ k =>
          replace h : m_r09_Symbol_l1 s1 (k+1) i5 = some fl := h
          rw [m_r09_Symbol_l1] at h
          refine tri_seq ?_
          refine tri_seq ?_
          refine tri_region (by exact tokW) (by exact gok) [] [] rfl ?_
          show Tri _ _ _ _
          refine tri_cond rfl (fun hb => ?_) (fun hb => ?_)
          · replace h := bif_t hb h
            refine tri_skip ?_
            show Tri _ _ _ _
            refine tri_seq ?_
            refine tri_block ?_
            refine tri_seq ?_
            refine tri_region (by exact tokW) (by exact gok) [] [18] rfl ?_
            obtain ⟨c6, hc6, h⟩ := bind_out h
            refine And.intro (str_ok hc6).1 ?_
            intro v7 hv7
            obtain rfl : (c6.toNat : Int) = v7 := (hv7.trans (str_ok hc6).2).symm
            obtain ⟨y8, hy8, h⟩ := bind_out h
            refine ⟨_, ⟨_, _, hy8, rfl, rfl⟩, ?_⟩
            show Tri _ _ _ _
            refine tri_cond rfl (fun hb => ?_) (fun hb => ?_)
            · replace h := bif_t hb h
              refine tri_seq ?_
              refine tri_region (by exact tokW) (by exact gok) [] [] rfl ?_
              show Tri _ _ _ _
              refine tri_ret ?_
              cases h
              replace h : some _ = some _ := ho1
              have hy := Option.some.inj h
              subst hy
              unfold Gives
              exact ⟨_, Le.refl _ _, rfl, rfl⟩
            · replace h := bif_f hb h
              refine tri_skip ?_
              show Tri _ _ _ _
              refine tri_region (by exact tokW) (by exact gok) [] [] rfl ?_
              refine ⟨(k, IntKind.i64.wrap (i5 + 1)), h, (Le.forget _ ⟨rfl, rfl, trivial⟩), Nat.lt_succ_self k⟩
          · replace h := bif_f hb h
            refine tri_exit ?_
            cases h
            exact ⟨_, rfl, (Le.forget _ ⟨rfl, trivial⟩)⟩
    · subst hz
      obtain _ := z
      replace h := ho1
      show Tri _ _ _ _
      refine tri_le hle ?_
      refine tri_seq ?_
      obtain ⟨x9, hj, h⟩ := bind_out h
      refine tri_post ⟨ofL [(2, .s (.bool x9))], fun _ => none, 0⟩ ?_ (fun σ' hle => ?_)
      · replace h := hj
        refine tri_region (by exact tokW) (by exact gok) [] [24, 29, 35] rfl ?_
        intro b hb
        cases b with
        | true =>
          replace h := bif_t hb.symm h
          intro b hb
          cases b with
          | true =>
            replace h := bif_t hb.symm h
            obtain ⟨y10, hy10, h⟩ := bind_out h
            refine ⟨_, ⟨_, hy10, rfl, rfl⟩, ?_⟩
            obtain ⟨y11, hy11, h⟩ := bind_out h
            refine ⟨_, ⟨_, _, _, _, hy11, rfl, rfl⟩, ?_⟩
            intro b hb
            cases b with
            | true =>
              replace h := bif_t hb.symm h
              obtain ⟨y12, hy12, h⟩ := bind_out h
              refine ⟨_, ⟨_, hy12, rfl, rfl⟩, ?_⟩
              obtain ⟨y13, hy13, h⟩ := bind_out h
              refine ⟨_, ⟨_, _, _, _, hy13, rfl, rfl⟩, ?_⟩
              cases h
              exact (Le.forget _ ⟨rfl, trivial⟩)
            | false =>
              replace h := bif_f hb.symm h
              cases h
              exact (Le.forget _ ⟨rfl, trivial⟩)
          | false =>
            replace h := bif_f hb.symm h
            intro b hb
            subst hb
            cases h
            exact (Le.forget _ ⟨rfl, trivial⟩)
        | false =>
          replace h := bif_f hb.symm h
          intro b hb
          subst hb
          intro b hb
          subst hb
          cases h
          exact (Le.forget _ ⟨rfl, trivial⟩)
      · show Tri _ _ _ _
        refine tri_le hle ?_
        refine tri_ret ?_
        have hy := Option.some.inj h
        subst hy
        unfold Gives
        exact ⟨_, Le.refl _ _, rfl, rfl⟩

/- vinculum/vinculumref09.Digit -/
def R_r09_Digit (xs : List AV) (r : Ret) : Prop := ∃ (a0 : Int) (y0 : Bool), m_r09_Digit a0 = some y0 ∧ xs = [.s (.int .u8 a0)] ∧ r = .val (.s (.bool y0))
def S_r09_Digit : PSpec := pspec fun xs r => R_r09_Digit xs r
set_option maxHeartbeats 2000000 in
set_option maxRecDepth 100000 in
theorem ok_r09_Digit : PSound Try.prog 67 S_r09_Digit := by
  have gok : ∀ (f : Nat) (s : PSpec), (fun _ => none : Nat → Option PSpec) f = some s → PSound Try.prog f s := fun _ _ h => by cases h
  refine psound tokW Try.call67 Try.func67 rfl (fun xs r h => by obtain ⟨_, _, _, rfl, _⟩ := h; show 1 ≤ 9; decide) 9 rfl ?_
  rintro xs r w0 G0 ⟨c1, y0, h, rfl, rfl⟩ _
  rw [m_r09_Digit] at h
  refine tri_seq ?_
  refine tri_region (by exact tokW) (by exact gok) [] [] rfl ?_
  show Tri _ _ _ _
  refine tri_seq ?_
  obtain ⟨x2, hj, h⟩ := bind_out h
  refine tri_post ⟨ofL [(2, .s (.bool x2))], fun _ => none, 0⟩ ?_ (fun σ' hle => ?_)
  · replace h := hj
    refine tri_region (by exact tokW) (by exact gok) [] [5] rfl ?_
    intro b hb
    cases b with
    | true =>
      replace h := bif_t hb.symm h
      cases h
      exact (Le.forget _ ⟨rfl, trivial⟩)
    | false =>
      replace h := bif_f hb.symm h
      cases h
      exact (Le.forget _ ⟨rfl, trivial⟩)
  · show Tri _ _ _ _
    refine tri_le hle ?_
    refine tri_ret ?_
    have hy := Option.some.inj h
    subst hy
    unfold Gives
    exact ⟨_, Le.refl _ _, rfl, rfl⟩

/- vinculum/vinculumref09.Number -/
def R_r09_Number (n : Nat) (xs : List AV) (r : Ret) : Prop := ∃ (a0 : List UInt8) (y0 : Bool), m_r09_Number n a0 = some y0 ∧ xs = [.s (.str a0)] ∧ r = .val (.s (.bool y0))
def S_r09_Number : PSpec := pspec fun xs r => ∃ n, R_r09_Number n xs r
set_option maxHeartbeats 2000000 in
set_option maxRecDepth 100000 in
theorem ok_r09_Number : PSound Try.prog 46 S_r09_Number := by
  have gok : ∀ f s, look? f [(67, S_r09_Digit)] = some s → PSound Try.prog f s := look_all (by
    simp only [List.forall_mem_cons]
    exact ⟨ok_r09_Digit, by simp⟩)
  refine psound tokW Try.call46 Try.func46 rfl (fun xs r h => by obtain ⟨n, _, _, _, rfl, _⟩ := h; show 1 ≤ 45; decide) 45 rfl ?_
  rintro xs r w0 G0 ⟨n, s1, y0, h, rfl, rfl⟩ _
  rw [m_r09_Number] at h
  refine tri_seq ?_
  refine tri_region (by exact tokW) (by exact gok) [] [] rfl ?_
  show Tri _ _ _ _
  refine tri_seq ?_
  refine tri_region (by exact tokW) (by exact gok) [] [] rfl ?_
  show Tri _ _ _ _
  refine tri_seq ?_
  refine tri_seq ?_
  refine tri_region (by exact tokW) (by exact gok) [] [] rfl ?_
  show Tri _ _ _ _
  obtain ⟨fl, hl, ho1⟩ := bind_out h
  refine tri_fl (fl := fl) (fun z => match z with | points4 => ⟨ofL [(0, .s (.str s1)), (3, .s (.int .i64 points4))], fun _ => none, 0⟩) ?_ (fun points4 σ' hz hle => ?_)
  · refine tri_block (tri_loopI (X := Nat × Int × Int) (fun y => match y with | (k, points2, i3) => ⟨ofL [(0, .s (.str s1)), (3, .s (.int .i64 points2)), (4, .s (.int .i64 i3))], fun _ => none, 0⟩) (fun y => m_r09_Number_l1 s1 y.1 y.2.1 y.2.2 = some fl) (fun y => y.1) (n, 0, 0) hl ?_ ?_)
    · exact (Le.forget _ ⟨rfl, rfl, rfl, trivial⟩)
    · rintro ⟨k, points2, i3⟩ h
      cases k with
      | zero => cases h
      | succ k =>
        replace h : m_r09_Number_l1 s1 (k+1) points2 i3 = some fl := h
        rw [m_r09_Number_l1] at h
        refine tri_seq ?_
        refine tri_seq ?_
        refine tri_region (by exact tokW) (by exact gok) [] [] rfl ?_
        show Tri _ _ _ _
        refine tri_cond rfl (fun hb => ?_) (fun hb => ?_)
        · replace h := bif_t hb h
          refine tri_skip ?_
          show Tri _ _ _ _
          refine tri_seq ?_
          obtain ⟨fl, hj, ho2⟩ := bind_out h
          refine tri_fl (fl := fl) (fun z => match z with | points5 => ⟨ofL [(0, .s (.str s1)), (3, .s (.int .i64 points5)), (4, .s (.int .i64 i3))], fun _ => none, 0⟩) ?_ (fun points5 σ' hz hle => ?_)
          · replace h := hj
            refine tri_block ?_
            refine tri_seq ?_
            obtain ⟨x6, hj, h⟩ := bind_out h
            refine tri_post ⟨ofL [(0, .s (.str s1)), (3, .s (.int .i64 points2)), (4, .s (.int .i64 i3)), (25, .s (.bool x6))], fun _ => none, 0⟩ ?_ (fun σ' hle => ?_)
            · replace h := hj
              refine tri_region (by exact tokW) (by exact gok) [] [13, 15, 19] rfl ?_
              obtain ⟨c7, hc7, h⟩ := bind_out h
              refine And.intro (str_ok hc7).1 ?_
              intro v8 hv8
              obtain rfl : (c7.toNat : Int) = v8 := (hv8.trans (str_ok hc7).2).symm
              intro b hb
              cases b with
              | true =>
                replace h := bif_t hb.symm h
                intro b hb
                cases b with
                | true =>
                  replace h := bif_t hb.symm h
                  cases h
                  exact (Le.forget _ ⟨rfl, rfl, rfl, rfl, trivial⟩)
                | false =>
                  replace h := bif_f hb.symm h
                  cases h
                  exact (Le.forget _ ⟨rfl, rfl, rfl, rfl, trivial⟩)
              | false =>
                replace h := bif_f hb.symm h
                intro b hb
                subst hb
                cases h
                exact (Le.forget _ ⟨rfl, rfl, rfl, rfl, trivial⟩)
            · show Tri _ _ _ _
              refine tri_le hle ?_
              refine tri_cond rfl (fun hb => ?_) (fun hb => ?_)
              · replace h := bif_t hb h
                refine tri_region (by exact tokW) (by exact gok) [] [] rfl ?_
                cases h
                exact ⟨_, rfl, (Le.forget _ ⟨rfl, rfl, rfl, trivial⟩)⟩
              · replace h := bif_f hb h
                refine tri_seq ?_
                refine tri_region (by exact tokW) (by exact gok) [] [30] rfl ?_
                obtain ⟨c9, hc9, h⟩ := bind_out h
                refine And.intro (str_ok hc9).1 ?_
                intro v10 hv10
                obtain rfl : (c9.toNat : Int) = v10 := (hv10.trans (str_ok hc9).2).symm
                obtain ⟨y11, hy11, h⟩ := bind_out h
                refine ⟨_, ⟨_, _, hy11, rfl, rfl⟩, ?_⟩
                show Tri _ _ _ _
                refine tri_cond rfl (fun hb => ?_) (fun hb => ?_)
                · replace h := bif_t hb h
                  refine tri_seq ?_
                  refine tri_region (by exact tokW) (by exact gok) [] [] rfl ?_
                  show Tri _ _ _ _
                  refine tri_ret ?_
                  cases h
                  replace h : some _ = some _ := ho2
                  cases h
                  replace h : some _ = some _ := ho1
                  have hy := Option.some.inj h
                  subst hy
                  unfold Gives
                  exact ⟨_, Le.refl _ _, rfl, rfl⟩
                · replace h := bif_f hb h
                  refine tri_skip ?_
                  cases h
                  exact ⟨_, rfl, (Le.forget _ ⟨rfl, rfl, rfl, trivial⟩)⟩
          · subst hz
            replace h := ho2
            show Tri _ _ _ _
            refine tri_le hle ?_
            refine tri_region (by exact tokW) (by exact gok) [] [] rfl ?_
            refine ⟨(k, points5, IntKind.i64.wrap (i3 + 1)), h, (Le.forget _ ⟨rfl, rfl, rfl, trivial⟩), Nat.lt_succ_self k⟩
        · replace h := bif_f hb h
          refine tri_exit ?_
          cases h
          exact ⟨_, rfl, (Le.forget _ ⟨rfl, rfl, trivial⟩)⟩
  · subst hz
    replace h := ho1
    show Tri _ _ _ _
    refine tri_le hle ?_
    refine tri_seq ?_
    obtain ⟨x12, hj, h⟩ := bind_out h
    refine tri_post ⟨ofL [(2, .s (.bool x12))], fun _ => none, 0⟩ ?_ (fun σ' hle => ?_)
    · replace h := hj
      refine tri_region (by exact tokW) (by exact gok) [] [36, 41] rfl ?_
      intro b hb
      cases b with
      | true =>
        replace h := bif_t hb.symm h
        intro b hb
        cases b with
        | true =>
          replace h := bif_t hb.symm h
          cases h
          exact (Le.forget _ ⟨rfl, trivial⟩)
        | false =>
          replace h := bif_f hb.symm h
          cases h
          exact (Le.forget _ ⟨rfl, trivial⟩)
      | false =>
        replace h := bif_f hb.symm h
        intro b hb
        subst hb
        cases h
        exact (Le.forget _ ⟨rfl, trivial⟩)
    · show Tri _ _ _ _
      refine tri_le hle ?_
      refine tri_ret ?_
      have hy := Option.some.inj h
      subst hy
      unfold Gives
      exact ⟨_, Le.refl _ _, rfl, rfl⟩

/- vinculum/vinculumref09.Printable -/
def R_r09_Printable (n : Nat) (xs : List AV) (r : Ret) : Prop := ∃ (a0 : List UInt8) (y0 : Bool), m_r09_Printable n a0 = some y0 ∧ xs = [.s (.str a0)] ∧ r = .val (.s (.bool y0))
def S_r09_Printable : PSpec := pspec fun xs r => ∃ n, R_r09_Printable n xs r
set_option maxHeartbeats 2000000 in
set_option maxRecDepth 100000 in
theorem ok_r09_Printable : PSound Try.prog 47 S_r09_Printable := by
  have gok : ∀ (f : Nat) (s : PSpec), (fun _ => none : Nat → Option PSpec) f = some s → PSound Try.prog f s := fun _ _ h => by cases h
  refine psound tokW Try.call47 Try.func47 rfl (fun xs r h => by obtain ⟨n, _, _, _, rfl, _⟩ := h; show 1 ≤ 20; decide) 20 rfl ?_
  rintro xs r w0 G0 ⟨n, s1, y0, h, rfl, rfl⟩ _
  rw [m_r09_Printable] at h
  refine tri_seq ?_
  refine tri_region (by exact tokW) (by exact gok) [] [] rfl ?_
  show Tri _ _ _ _
  refine tri_seq ?_
  refine tri_seq ?_
  refine tri_region (by exact tokW) (by exact gok) [] [] rfl ?_
  show Tri _ _ _ _
  obtain ⟨fl, hl, ho1⟩ := bind_out h
  refine tri_fl (fl := fl) (fun z => match z with | _ => ⟨ofL [], fun _ => none, 0⟩) ?_ (fun z σ' hz hle => ?_)
  · refine tri_block (tri_loopI (X := Nat × Int) (fun y => match y with | (k, i2) => ⟨ofL [(0, .s (.str s1)), (3, .s (.int .i64 i2))], fun _ => none, 0⟩) (fun y => m_r09_Printable_l1 s1 y.1 y.2 = some fl) (fun y => y.1) (n, 0) hl ?_ ?_)
    · exact (Le.forget _ ⟨rfl, rfl, trivial⟩)
    · rintro ⟨k, i2⟩ h
      cases k with
      | zero => cases h
      | succ k =>
        replace h : m_r09_Printable_l1 s1 (k+1) i2 = some fl := h
        rw [m_r09_Printable_l1] at h
        refine tri_seq ?_
        refine tri_seq ?_
        refine tri_region (by exact tokW) (by exact gok) [] [] rfl ?_
        show Tri _ _ _ _
        refine tri_cond rfl (fun hb => ?_) (fun hb => ?_)
        · replace h := bif_t hb h
          refine tri_skip ?_
          show Tri _ _ _ _
          refine tri_seq ?_
          refine tri_block ?_
          refine tri_seq ?_
          obtain ⟨x3, hj, h⟩ := bind_out h
          refine tri_post ⟨ofL [(0, .s (.str s1)), (3, .s (.int .i64 i2)), (19, .s (.bool x3))], fun _ => none, 0⟩ ?_ (fun σ' hle => ?_)
          · replace h := hj
            refine tri_region (by exact tokW) (by exact gok) [] [12, 14, 17] rfl ?_
            obtain ⟨c4, hc4, h⟩ := bind_out h
            refine And.intro (str_ok hc4).1 ?_
            intro v5 hv5
            obtain rfl : (c4.toNat : Int) = v5 := (hv5.trans (str_ok hc4).2).symm
            intro b hb
            cases b with
            | true =>
              replace h := bif_t hb.symm h
              cases h
              exact (Le.forget _ ⟨rfl, rfl, rfl, trivial⟩)
            | false =>
              replace h := bif_f hb.symm h
              obtain ⟨c6, hc6, h⟩ := bind_out h
              refine And.intro (str_ok hc6).1 ?_
              intro v7 hv7
              obtain rfl : (c6.toNat : Int) = v7 := (hv7.trans (str_ok hc6).2).symm
              cases h
              exact (Le.forget _ ⟨rfl, rfl, rfl, trivial⟩)
          · show Tri _ _ _ _
            refine tri_le hle ?_
            refine tri_cond rfl (fun hb => ?_) (fun hb => ?_)
            · replace h := bif_t hb h
              refine tri_seq ?_
              refine tri_region (by exact tokW) (by exact gok) [] [] rfl ?_
              show Tri _ _ _ _
              refine tri_ret ?_
              cases h
              replace h : some _ = some _ := ho1
              have hy := Option.some.inj h
              subst hy
              unfold Gives
              exact ⟨_, Le.refl _ _, rfl, rfl⟩
            · replace h := bif_f hb h
              refine tri_skip ?_
              show Tri _ _ _ _
              refine tri_region (by exact tokW) (by exact gok) [] [] rfl ?_
              refine ⟨(k, IntKind.i64.wrap (i2 + 1)), h, (Le.forget _ ⟨rfl, rfl, trivial⟩), Nat.lt_succ_self k⟩
        · replace h := bif_f hb h
          refine tri_exit ?_
          cases h
          exact ⟨_, rfl, (Le.forget _ trivial)⟩
  · subst hz
    obtain _ := z
    replace h := ho1
    show Tri _ _ _ _
    refine tri_le hle ?_
    refine tri_seq ?_
    refine tri_region (by exact tokW) (by exact gok) [] [] rfl ?_
    show Tri _ _ _ _
    refine tri_ret ?_
    have hy := Option.some.inj h
    subst hy
    unfold Gives
    exact ⟨_, Le.refl _ _, rfl, rfl⟩

/- vinculum/vinculumref09.text -/
def R_r09_text (n : Nat) (xs : List AV) (r : Ret) : Prop := ∃ (a0 : Nd) (y0 : Bool), m_r09_text n a0 = some y0 ∧ xs = [.agg ((Nd.enc a0).map .s)] ∧ r = .val (.s (.bool y0))
def S_r09_text : PSpec := pspec fun xs r => ∃ n, R_r09_text n xs r
set_option maxHeartbeats 2000000 in
set_option maxRecDepth 100000 in
theorem ok_r09_text : PSound Try.prog 33 S_r09_text := by
  have gok : ∀ f s, look? f [(45, S_r09_Symbol), (46, S_r09_Number), (47, S_r09_Printable), (49, S_r09_Accents), (48, S_r09_In), (50, S_r09_has)] = some s → PSound Try.prog f s := look_all (by
    simp only [List.forall_mem_cons]
    exact ⟨ok_r09_Symbol, ok_r09_Number, ok_r09_Printable, ok_r09_Accents, ok_r09_In, ok_r09_has, by simp⟩)
  refine psound tokW Try.call33 Try.func33 rfl (fun xs r h => by obtain ⟨n, _, _, _, rfl, _⟩ := h; show 1 ≤ 53; decide) 53 rfl ?_
  rintro xs r w0 G0 ⟨n, ⟨n1_kind, n1_text, n1_cols, n1_kids⟩, y0, h, rfl, rfl⟩ _
  rw [m_r09_text] at h
  refine tri_seq ?_
  refine tri_region (by exact tokW) (by exact gok) [] [] rfl ?_
  show Tri _ _ _ _
  refine tri_seq ?_
  refine tri_seq ?_
  refine tri_region (by exact tokW) (by exact gok) [] [] rfl ?_
  show Tri _ _ _ _
  refine tri_block ?_
  refine tri_seq ?_
  refine tri_region (by exact tokW) (by exact gok) [] [] rfl ?_
  show Tri _ _ _ _
  refine tri_cond rfl (fun hb => ?_) (fun hb => ?_)
  · replace h := bif_t hb h
    refine tri_seq ?_
    refine tri_region (by exact tokW) (by exact gok) [] [] rfl ?_
    obtain ⟨y2, hy2, h⟩ := bind_out h
    refine ⟨_, ⟨_, _, _, hy2, rfl, rfl⟩, ?_⟩
    show Tri _ _ _ _
    refine tri_ret ?_
    have hy := Option.some.inj h
    subst hy
    unfold Gives
    exact ⟨_, Le.refl _ _, rfl, rfl⟩
  · replace h := bif_f hb h
    refine tri_seq ?_
    refine tri_region (by exact tokW) (by exact gok) [] [] rfl ?_
    show Tri _ _ _ _
    refine tri_cond rfl (fun hb => ?_) (fun hb => ?_)
    · replace h := bif_t hb h
      refine tri_seq ?_
      refine tri_region (by exact tokW) (by exact gok) [] [] rfl ?_
      obtain ⟨y3, hy3, h⟩ := bind_out h
      refine ⟨_, ⟨_, _, _, hy3, rfl, rfl⟩, ?_⟩
      show Tri _ _ _ _
      refine tri_ret ?_
      have hy := Option.some.inj h
      subst hy
      unfold Gives
      exact ⟨_, Le.refl _ _, rfl, rfl⟩
    · replace h := bif_f hb h
      refine tri_seq ?_
      refine tri_region (by exact tokW) (by exact gok) [] [] rfl ?_
      show Tri _ _ _ _
      refine tri_cond rfl (fun hb => ?_) (fun hb => ?_)
      · replace h := bif_t hb h
        refine tri_seq ?_
        obtain ⟨x4, hj, h⟩ := bind_out h
        refine tri_post ⟨ofL [(2, .s (.bool x4))], fun _ => none, 0⟩ ?_ (fun σ' hle => ?_)
        · replace h := hj
          refine tri_region (by exact tokW) (by exact gok) [] [21] rfl ?_
          intro b hb
          cases b with
          | true =>
            replace h := bif_t hb.symm h
            obtain ⟨y5, hy5, h⟩ := bind_out h
            refine ⟨_, ⟨_, _, _, hy5, rfl, rfl⟩, ?_⟩
            cases h
            exact (Le.forget _ ⟨rfl, trivial⟩)
          | false =>
            replace h := bif_f hb.symm h
            cases h
            exact (Le.forget _ ⟨rfl, trivial⟩)
        · show Tri _ _ _ _
          refine tri_le hle ?_
          refine tri_ret ?_
          have hy := Option.some.inj h
          subst hy
          unfold Gives
          exact ⟨_, Le.refl _ _, rfl, rfl⟩
      · replace h := bif_f hb h
        refine tri_seq ?_
        refine tri_region (by exact tokW) (by exact gok) [] [] rfl ?_
        show Tri _ _ _ _
        refine tri_cond rfl (fun hb => ?_) (fun hb => ?_)
        · replace h := bif_t hb h
          refine tri_seq ?_
          refine tri_drawn (by exact tokW) (by exact gok) (by exact mixed) [] [] [] rfl (by decide +kernel) ?_
          obtain ⟨y6, hy6, h⟩ := bind_out h
          refine ⟨_, ⟨_, hy6, rfl, rfl⟩, ?_⟩
          obtain ⟨y7, hy7, h⟩ := bind_out h
          refine ⟨_, ⟨_, _, _, _, hy7, rfl, rfl⟩, ?_⟩
          show Tri _ _ _ _
          refine tri_ret ?_
          have hy := Option.some.inj h
          subst hy
          unfold Gives
          exact ⟨_, Le.refl _ _, rfl, rfl⟩
        · replace h := bif_f hb h
          refine tri_seq ?_
          refine tri_region (by exact tokW) (by exact gok) [] [] rfl ?_
          show Tri _ _ _ _
          refine tri_cond rfl (fun hb => ?_) (fun hb => ?_)
          · replace h := bif_t hb h
            refine tri_seq ?_
            obtain ⟨x8, hj, h⟩ := bind_out h
            refine tri_post ⟨ofL [(2, .s (.bool x8))], fun _ => none, 0⟩ ?_ (fun σ' hle => ?_)
            · replace h := hj
              refine tri_region (by exact tokW) (by exact gok) [] [38, 41, 44, 47] rfl ?_
              intro b hb
              cases b with
              | true =>
                replace h := bif_t hb.symm h
                obtain ⟨c9, hc9, h⟩ := bind_out h
                refine And.intro (str_ok hc9).1 ?_
                intro v10 hv10
                obtain rfl : (c9.toNat : Int) = v10 := (hv10.trans (str_ok hc9).2).symm
                obtain ⟨y11, hy11, h⟩ := bind_out h
                refine ⟨_, ⟨_, _, _, _, hy11, rfl, rfl⟩, ?_⟩
                intro b hb
                cases b with
                | true =>
                  replace h := bif_t hb.symm h
                  obtain ⟨c12, hc12, h⟩ := bind_out h
                  refine And.intro (str_ok hc12).1 ?_
                  intro v13 hv13
                  obtain rfl : (c12.toNat : Int) = v13 := (hv13.trans (str_ok hc12).2).symm
                  obtain ⟨y14, hy14, h⟩ := bind_out h
                  refine ⟨_, ⟨_, _, _, _, hy14, rfl, rfl⟩, ?_⟩
                  cases h
                  exact (Le.forget _ ⟨rfl, trivial⟩)
                | false =>
                  replace h := bif_f hb.symm h
                  cases h
                  exact (Le.forget _ ⟨rfl, trivial⟩)
              | false =>
                replace h := bif_f hb.symm h
                intro b hb
                subst hb
                cases h
                exact (Le.forget _ ⟨rfl, trivial⟩)
            · show Tri _ _ _ _
              refine tri_le hle ?_
              refine tri_ret ?_
              have hy := Option.some.inj h
              subst hy
              unfold Gives
              exact ⟨_, Le.refl _ _, rfl, rfl⟩
          · replace h := bif_f hb h
            refine tri_skip ?_
            show Tri _ _ _ _
            refine tri_seq ?_
            refine tri_region (by exact tokW) (by exact gok) [] [] rfl ?_
            show Tri _ _ _ _
            refine tri_ret ?_
            have hy := Option.some.inj h
            subst hy
            unfold Gives
            exact ⟨_, Le.refl _ _, rfl, rfl⟩

end Go.Proofs.Ytplekejomocalaa
