/-
  Walks, printed by gw.py.
-/
import Derived.Test.YtplekejomocalaaDifWE
set_option linter.unusedVariables false
set_option linter.unusedSimpArgs false
namespace Go.Proofs.Ytplekejomocalaa
open Go.Abs

/- vinculum/vinculumref09.kids -/
def R_r09_kids (xs : List AV) (r : Ret) : Prop := ∃ (a0 : Nd) (y0 : Bool), m_r09_kids a0 = some y0 ∧ xs = [.agg ((Nd.enc a0).map .s)] ∧ r = .val (.s (.bool y0))
def S_r09_kids : PSpec := pspec fun xs r => R_r09_kids xs r
set_option maxHeartbeats 2000000 in
set_option maxRecDepth 100000 in
theorem ok_r09_kids : PSound Try.prog 34 S_r09_kids := by
  have gok : ∀ (f : Nat) (s : PSpec), (fun _ => none : Nat → Option PSpec) f = some s → PSound Try.prog f s := fun _ _ h => by cases h
  refine psound tokW Try.call34 Try.func34 rfl (fun xs r h => by obtain ⟨_, _, _, rfl, _⟩ := h; show 1 ≤ 64; decide) 64 rfl ?_
  rintro xs r w0 G0 ⟨⟨n1_kind, n1_text, n1_cols, n1_kids⟩, y0, h, rfl, rfl⟩ _
  rw [m_r09_kids] at h
  refine tri_seq ?_
  refine tri_region (by exact tokW) (by exact gok) [] [] rfl ?_
  show Tri _ _ _ _
  refine tri_seq ?_
  refine tri_region (by exact tokW) (by exact gok) [] [6] rfl ?_
  intro n2 hn2
  obtain rfl : (n1_kids.length : Int) = n2 := (hn2.trans (congrArg (fun m : Nat => (m : Int)) (rlen Nd.encs_eq n1_kids))).symm
  show Tri _ _ _ _
  refine tri_seq ?_
  refine tri_seq ?_
  refine tri_region (by exact tokW) (by exact gok) [] [] rfl ?_
  show Tri _ _ _ _
  refine tri_cond rfl (fun hb => ?_) (fun hb => ?_)
  · replace h := bif_t hb h
    refine tri_seq ?_
    obtain ⟨x3, hj, h⟩ := bind_out h
    refine tri_post ⟨ofL [(2, .s (.bool x3))], fun _ => none, 0⟩ ?_ (fun σ' hle => ?_)
    · replace h := hj
      refine tri_region (by exact tokW) (by exact gok) [] [13, 18, 22, 26] rfl ?_
      intro b hb
      cases b with
      | true =>
        replace h := bif_t hb.symm h
        intro b hb
        cases b with
        | true =>
          replace h := bif_t hb.symm h
          intro b hb
          cases b with
          | true =>
            replace h := bif_t hb.symm h
            intro b hb
            cases b with
            | true =>
              replace h := bif_t hb.symm h
              obtain ⟨hq, h⟩ := req_out h
              refine And.intro hq ?_
              cases h
              exact (Le.forget _ ⟨rfl, trivial⟩)
            | false =>
              replace h := bif_f hb.symm h
              cases h
              exact (Le.forget _ ⟨rfl, trivial⟩)
          | false =>
            replace h := bif_f hb.symm h
            intro b hb
            subst hb
            cases h
            exact (Le.forget _ ⟨rfl, trivial⟩)
        | false =>
          replace h := bif_f hb.symm h
          intro b hb
          subst hb
          intro b hb
          subst hb
          cases h
          exact (Le.forget _ ⟨rfl, trivial⟩)
      | false =>
        replace h := bif_f hb.symm h
        intro b hb
        subst hb
        intro b hb
        subst hb
        intro b hb
        subst hb
        cases h
        exact (Le.forget _ ⟨rfl, trivial⟩)
    · show Tri _ _ _ _
      refine tri_le hle ?_
      refine tri_ret ?_
      have hy := Option.some.inj h
      subst hy
      unfold Gives
      exact ⟨_, Le.refl _ _, rfl, rfl⟩
  · replace h := bif_f hb h
    refine tri_skip ?_
    show Tri _ _ _ _
    refine tri_seq ?_
    refine tri_seq ?_
    refine tri_region (by exact tokW) (by exact gok) [] [] rfl ?_
    show Tri _ _ _ _
    refine tri_cond rfl (fun hb => ?_) (fun hb => ?_)
    · replace h := bif_t hb h
      refine tri_seq ?_
      refine tri_region (by exact tokW) (by exact gok) [] [] rfl ?_
      show Tri _ _ _ _
      refine tri_ret ?_
      have hy := Option.some.inj h
      subst hy
      unfold Gives
      exact ⟨_, Le.refl _ _, rfl, rfl⟩
    · replace h := bif_f hb h
      refine tri_skip ?_
      show Tri _ _ _ _
      refine tri_seq ?_
      refine tri_seq ?_
      refine tri_region (by exact tokW) (by exact gok) [] [] rfl ?_
      show Tri _ _ _ _
      obtain ⟨fl, hj, ho1⟩ := bind_out h
      refine tri_fl (fl := fl) (fun z => match z with | _ => ⟨ofL [], fun _ => none, 0⟩) ?_ (fun z σ' hz hle => ?_)
      · replace h := hj
        refine tri_block ?_
        refine tri_seq ?_
        refine tri_region (by exact tokW) (by exact gok) [] [] rfl ?_
        show Tri _ _ _ _
        refine tri_cond rfl (fun hb => ?_) (fun hb => ?_)
        · replace h := bif_t hb h
          refine tri_seq ?_
          refine tri_region (by exact tokW) (by exact gok) [] [] rfl ?_
          show Tri _ _ _ _
          refine tri_ret ?_
          cases h
          replace h : some _ = some _ := ho1
          have hy := Option.some.inj h
          subst hy
          unfold Gives
          exact ⟨_, Le.refl _ _, rfl, rfl⟩
        · replace h := bif_f hb h
          refine tri_seq ?_
          refine tri_seq ?_
          refine tri_region (by exact tokW) (by exact gok) [] [] rfl ?_
          show Tri _ _ _ _
          obtain ⟨x4, hj, h⟩ := bind_out h
          refine tri_post ⟨ofL [(3, .s (.int .i64 (n1_kids.length : Int))), (37, .s (.int .i64 n1_kind)), (42, .s (.bool x4))], fun _ => none, 0⟩ ?_ (fun σ' hle => ?_)
          · replace h := hj
            refine tri_cond rfl (fun hb => ?_) (fun hb => ?_)
            · replace h := bif_t hb h
              refine tri_skip ?_
              cases h
              exact (Le.forget _ ⟨rfl, rfl, rfl, trivial⟩)
            · replace h := bif_f hb h
              refine tri_seq ?_
              refine tri_region (by exact tokW) (by exact gok) [] [] rfl ?_
              show Tri _ _ _ _
              refine tri_cond rfl (fun hb => ?_) (fun hb => ?_)
              · replace h := bif_t hb h
                refine tri_skip ?_
                cases h
                exact (Le.forget _ ⟨rfl, rfl, rfl, trivial⟩)
              · replace h := bif_f hb h
                refine tri_region (by exact tokW) (by exact gok) [] [] rfl ?_
                cases h
                exact (Le.forget _ ⟨rfl, rfl, rfl, trivial⟩)
          · show Tri _ _ _ _
            refine tri_le hle ?_
            refine tri_cond rfl (fun hb => ?_) (fun hb => ?_)
            · replace h := bif_t hb h
              refine tri_seq ?_
              refine tri_region (by exact tokW) (by exact gok) [] [] rfl ?_
              show Tri _ _ _ _
              refine tri_ret ?_
              cases h
              replace h : some _ = some _ := ho1
              have hy := Option.some.inj h
              subst hy
              unfold Gives
              exact ⟨_, Le.refl _ _, rfl, rfl⟩
            · replace h := bif_f hb h
              refine tri_seq ?_
              refine tri_seq ?_
              refine tri_region (by exact tokW) (by exact gok) [] [] rfl ?_
              show Tri _ _ _ _
              obtain ⟨x5, hj, h⟩ := bind_out h
              refine tri_post ⟨ofL [(3, .s (.int .i64 (n1_kids.length : Int))), (37, .s (.int .i64 n1_kind)), (48, .s (.bool x5))], fun _ => none, 0⟩ ?_ (fun σ' hle => ?_)
              · replace h := hj
                refine tri_cond rfl (fun hb => ?_) (fun hb => ?_)
                · replace h := bif_t hb h
                  refine tri_skip ?_
                  cases h
                  exact (Le.forget _ ⟨rfl, rfl, rfl, trivial⟩)
                · replace h := bif_f hb h
                  refine tri_seq ?_
                  refine tri_region (by exact tokW) (by exact gok) [] [] rfl ?_
                  show Tri _ _ _ _
                  refine tri_cond rfl (fun hb => ?_) (fun hb => ?_)
                  · replace h := bif_t hb h
                    refine tri_skip ?_
                    cases h
                    exact (Le.forget _ ⟨rfl, rfl, rfl, trivial⟩)
                  · replace h := bif_f hb h
                    refine tri_seq ?_
                    refine tri_region (by exact tokW) (by exact gok) [] [] rfl ?_
                    show Tri _ _ _ _
                    refine tri_cond rfl (fun hb => ?_) (fun hb => ?_)
                    · replace h := bif_t hb h
                      refine tri_skip ?_
                      cases h
                      exact (Le.forget _ ⟨rfl, rfl, rfl, trivial⟩)
                    · replace h := bif_f hb h
                      refine tri_region (by exact tokW) (by exact gok) [] [] rfl ?_
                      cases h
                      exact (Le.forget _ ⟨rfl, rfl, rfl, trivial⟩)
              · show Tri _ _ _ _
                refine tri_le hle ?_
                refine tri_cond rfl (fun hb => ?_) (fun hb => ?_)
                · replace h := bif_t hb h
                  refine tri_seq ?_
                  refine tri_region (by exact tokW) (by exact gok) [] [] rfl ?_
                  show Tri _ _ _ _
                  refine tri_ret ?_
                  cases h
                  replace h : some _ = some _ := ho1
                  have hy := Option.some.inj h
                  subst hy
                  unfold Gives
                  exact ⟨_, Le.refl _ _, rfl, rfl⟩
                · replace h := bif_f hb h
                  refine tri_seq ?_
                  refine tri_region (by exact tokW) (by exact gok) [] [] rfl ?_
                  show Tri _ _ _ _
                  refine tri_cond rfl (fun hb => ?_) (fun hb => ?_)
                  · replace h := bif_t hb h
                    refine tri_seq ?_
                    refine tri_region (by exact tokW) (by exact gok) [] [] rfl ?_
                    show Tri _ _ _ _
                    refine tri_ret ?_
                    cases h
                    replace h : some _ = some _ := ho1
                    have hy := Option.some.inj h
                    subst hy
                    unfold Gives
                    exact ⟨_, Le.refl _ _, rfl, rfl⟩
                  · replace h := bif_f hb h
                    refine tri_seq ?_
                    refine tri_seq ?_
                    refine tri_region (by exact tokW) (by exact gok) [] [] rfl ?_
                    show Tri _ _ _ _
                    obtain ⟨x6, hj, h⟩ := bind_out h
                    refine tri_post ⟨ofL [(3, .s (.int .i64 (n1_kids.length : Int))), (59, .s (.bool x6))], fun _ => none, 0⟩ ?_ (fun σ' hle => ?_)
                    · replace h := hj
                      refine tri_cond rfl (fun hb => ?_) (fun hb => ?_)
                      · replace h := bif_t hb h
                        refine tri_skip ?_
                        cases h
                        exact (Le.forget _ ⟨rfl, rfl, trivial⟩)
                      · replace h := bif_f hb h
                        refine tri_region (by exact tokW) (by exact gok) [] [] rfl ?_
                        cases h
                        exact (Le.forget _ ⟨rfl, rfl, trivial⟩)
                    · show Tri _ _ _ _
                      refine tri_le hle ?_
                      refine tri_cond rfl (fun hb => ?_) (fun hb => ?_)
                      · replace h := bif_t hb h
                        refine tri_seq ?_
                        refine tri_region (by exact tokW) (by exact gok) [] [] rfl ?_
                        show Tri _ _ _ _
                        refine tri_ret ?_
                        cases h
                        replace h : some _ = some _ := ho1
                        have hy := Option.some.inj h
                        subst hy
                        unfold Gives
                        exact ⟨_, Le.refl _ _, rfl, rfl⟩
                      · replace h := bif_f hb h
                        refine tri_skip ?_
                        cases h
                        exact ⟨_, rfl, (Le.forget _ trivial)⟩
      · subst hz
        obtain _ := z
        replace h := ho1
        show Tri _ _ _ _
        refine tri_le hle ?_
        refine tri_seq ?_
        refine tri_region (by exact tokW) (by exact gok) [] [] rfl ?_
        show Tri _ _ _ _
        refine tri_ret ?_
        have hy := Option.some.inj h
        subst hy
        unfold Gives
        exact ⟨_, Le.refl _ _, rfl, rfl⟩

/- vinculum/vinculumref09.form -/
def R_r09_form (n : Nat) (xs : List AV) (r : Ret) : Prop := ∃ (a0 : Nd) (y0 : Bool), m_r09_form n a0 = some y0 ∧ xs = [.agg ((Nd.enc a0).map .s)] ∧ r = .val (.s (.bool y0))
set_option maxHeartbeats 2000000 in
set_option maxRecDepth 100000 in
theorem step_r09_form (n : Nat) (ih : PSound Try.prog 22 (pspec (R_r09_form n))) : PSound Try.prog 22 (pspec (R_r09_form (n + 1))) := by
  have gok : ∀ f s, look? f [(33, S_r09_text), (34, S_r09_kids), (22, pspec (R_r09_form n))] = some s → PSound Try.prog f s := look_all (by
    simp only [List.forall_mem_cons]
    exact ⟨ok_r09_text, ok_r09_kids, ih, by simp⟩)
  refine psound tokW Try.call22 Try.func22 rfl (fun xs r h => by obtain ⟨_, _, _, rfl, _⟩ := h; show 1 ≤ 39; decide) 39 rfl ?_
  rintro xs r w0 G0 ⟨⟨n1_kind, n1_text, n1_cols, n1_kids⟩, y0, h, rfl, rfl⟩ _
  rw [m_r09_form] at h
  refine tri_seq ?_
  refine tri_region (by exact tokW) (by exact gok) [] [] rfl ?_
  show Tri _ _ _ _
  refine tri_seq ?_
  refine tri_seq ?_
  obtain ⟨x2, hj, h⟩ := bind_out h
  refine tri_post ⟨ofL [(1, .s (.pt [.int .i64 n1_kind, .str n1_text, .int .i64 n1_cols, .sl 4 (Nd.encs n1_kids)])), (11, .s (.bool x2))], fun _ => none, 0⟩ ?_ (fun σ' hle => ?_)
  · replace h := hj
    refine tri_region (by exact tokW) (by exact gok) [] [7] rfl ?_
    obtain ⟨y3, hy3, h⟩ := bind_out h
    refine ⟨_, ⟨_, _, _, hy3, rfl, rfl⟩, ?_⟩
    intro b hb
    cases b with
    | true =>
      replace h := bif_t hb.symm h
      cases h
      exact (Le.forget _ ⟨rfl, rfl, trivial⟩)
    | false =>
      replace h := bif_f hb.symm h
      obtain ⟨y4, hy4, h⟩ := bind_out h
      refine ⟨_, ⟨_, _, hy4, rfl, rfl⟩, ?_⟩
      cases h
      exact (Le.forget _ ⟨rfl, rfl, trivial⟩)
  · show Tri _ _ _ _
    refine tri_le hle ?_
    refine tri_cond rfl (fun hb => ?_) (fun hb => ?_)
    · replace h := bif_t hb h
      refine tri_seq ?_
      refine tri_region (by exact tokW) (by exact gok) [] [] rfl ?_
      show Tri _ _ _ _
      refine tri_ret ?_
      have hy := Option.some.inj h
      subst hy
      unfold Gives
      exact ⟨_, Le.refl _ _, rfl, rfl⟩
    · replace h := bif_f hb h
      refine tri_skip ?_
      show Tri _ _ _ _
      refine tri_seq ?_
      refine tri_seq ?_
      refine tri_region (by exact tokW) (by exact gok) [] [] rfl ?_
      show Tri _ _ _ _
      obtain ⟨fl, hl, ho1⟩ := bind_out h
      refine tri_fl (fl := fl) (fun z => match z with | _ => ⟨ofL [], fun _ => none, 0⟩) ?_ (fun z σ' hz hle => ?_)
      · refine tri_block (tri_loopI (X := Nat × Int) (fun y => match y with | (k, i5) => ⟨ofL [(1, .s (.pt [.int .i64 n1_kind, .str n1_text, .int .i64 n1_cols, .sl 4 (Nd.encs n1_kids)])), (3, .s (.int .i64 i5))], fun _ => none, 0⟩) (fun y => m_r09_form_l1 (m_r09_form n) n1_kind n1_kids y.1 y.2 = some fl) (fun y => y.1) (n, 0) hl ?_ ?_)
        · exact (Le.forget _ ⟨rfl, rfl, trivial⟩)
        · rintro ⟨k, i5⟩ h
          cases k with
          | zero => cases h
          | succ k =>
            replace h : m_r09_form_l1 (m_r09_form n) n1_kind n1_kids (k+1) i5 = some fl := h
            rw [m_r09_form_l1] at h
            refine tri_seq ?_
            refine tri_seq ?_
            refine tri_region (by exact tokW) (by exact gok) [] [15] rfl ?_
            intro n6 hn6
            obtain rfl : (n1_kids.length : Int) = n6 := (hn6.trans (congrArg (fun m : Nat => (m : Int)) (rlen Nd.encs_eq n1_kids))).symm
            show Tri _ _ _ _
            refine tri_cond rfl (fun hb => ?_) (fun hb => ?_)
            · replace h := bif_t hb h
              refine tri_skip ?_
              show Tri _ _ _ _
              refine tri_seq ?_
              refine tri_block ?_
              refine tri_seq ?_
              obtain ⟨x7, hj, h⟩ := bind_out h
              refine tri_post ⟨ofL [(1, .s (.pt [.int .i64 n1_kind, .str n1_text, .int .i64 n1_cols, .sl 4 (Nd.encs n1_kids)])), (3, .s (.int .i64 i5)), (38, .s (.bool x7))], fun _ => none, 0⟩ ?_ (fun σ' hle => ?_)
              · replace h := hj
                refine tri_drawn (by exact tokW) (by exact gok) (by exact mixed) [] [22, 30, 34] [] rfl (by decide +kernel) ?_
                obtain ⟨⟨e8_kind, e8_text, e8_cols, e8_kids⟩, he8, h⟩ := bind_out h
                refine And.intro (at_ok Nd.encs_eq he8).1 ?_
                intro r9 hr9
                obtain rfl : [.int .i64 e8_kind, .str e8_text, .int .i64 e8_cols, .sl 4 (Nd.encs e8_kids)] = r9 := (hr9.trans (at_ok Nd.encs_eq he8).2.1).symm
                intro b hb
                cases b with
                | true =>
                  replace h := bif_t hb.symm h
                  cases h
                  exact (Le.forget _ ⟨rfl, rfl, rfl, trivial⟩)
                | false =>
                  replace h := bif_f hb.symm h
                  obtain ⟨⟨e10_kind, e10_text, e10_cols, e10_kids⟩, he10, h⟩ := bind_out h
                  refine And.intro (at_ok Nd.encs_eq he10).1 ?_
                  intro r11 hr11
                  obtain rfl : [.int .i64 e10_kind, .str e10_text, .int .i64 e10_cols, .sl 4 (Nd.encs e10_kids)] = r11 := (hr11.trans (at_ok Nd.encs_eq he10).2.1).symm
                  obtain ⟨y12, hy12, h⟩ := bind_out h
                  refine ⟨_, ⟨_, _, hy12, rfl, rfl⟩, ?_⟩
                  cases h
                  exact (Le.forget _ ⟨rfl, rfl, rfl, trivial⟩)
              · show Tri _ _ _ _
                refine tri_le hle ?_
                refine tri_cond rfl (fun hb => ?_) (fun hb => ?_)
                · replace h := bif_t hb h
                  refine tri_seq ?_
                  refine tri_region (by exact tokW) (by exact gok) [] [] rfl ?_
                  show Tri _ _ _ _
                  refine tri_ret ?_
                  cases h
                  replace h : some _ = some _ := ho1
                  have hy := Option.some.inj h
                  subst hy
                  unfold Gives
                  exact ⟨_, Le.refl _ _, rfl, rfl⟩
                · replace h := bif_f hb h
                  refine tri_skip ?_
                  show Tri _ _ _ _
                  refine tri_region (by exact tokW) (by exact gok) [] [] rfl ?_
                  refine ⟨(k, IntKind.i64.wrap (i5 + 1)), h, (Le.forget _ ⟨rfl, rfl, trivial⟩), Nat.lt_succ_self k⟩
            · replace h := bif_f hb h
              refine tri_exit ?_
              cases h
              exact ⟨_, rfl, (Le.forget _ trivial)⟩
      · subst hz
        obtain _ := z
        replace h := ho1
        show Tri _ _ _ _
        refine tri_le hle ?_
        refine tri_seq ?_
        refine tri_region (by exact tokW) (by exact gok) [] [] rfl ?_
        show Tri _ _ _ _
        refine tri_ret ?_
        have hy := Option.some.inj h
        subst hy
        unfold Gives
        exact ⟨_, Le.refl _ _, rfl, rfl⟩
theorem all_r09_form : ∀ n, PSound Try.prog 22 (pspec (R_r09_form n)) := by
  intro n
  induction n with
  | zero => exact psound_none Try.call22 (fun xs r h => by obtain ⟨_, _, h, _⟩ := h; cases h)
  | succ n ih => exact step_r09_form n ih
def S_r09_form : PSpec := pspec fun xs r => ∃ n, R_r09_form n xs r
theorem ok_r09_form : PSound Try.prog 22 S_r09_form := psound_all all_r09_form

/- vinculum/vinculumref09.Count -/
def R_r09_Count (n : Nat) (xs : List AV) (r : Ret) : Prop := ∃ (a0 : Nd) (y0 : Int), m_r09_Count n a0 = some y0 ∧ xs = [.agg ((Nd.enc a0).map .s)] ∧ r = .val (.s (.int .i64 y0))
set_option maxHeartbeats 2000000 in
set_option maxRecDepth 100000 in
theorem step_r09_Count (n : Nat) (ih : PSound Try.prog 23 (pspec (R_r09_Count n))) : PSound Try.prog 23 (pspec (R_r09_Count (n + 1))) := by
  have gok : ∀ f s, look? f [(23, pspec (R_r09_Count n))] = some s → PSound Try.prog f s := look_all (by
    simp only [List.forall_mem_cons]
    exact ⟨ih, by simp⟩)
  refine psound tokW Try.call23 Try.func23 rfl (fun xs r h => by obtain ⟨_, _, _, rfl, _⟩ := h; show 1 ≤ 21; decide) 21 rfl ?_
  rintro xs r w0 G0 ⟨⟨n1_kind, n1_text, n1_cols, n1_kids⟩, y0, h, rfl, rfl⟩ _
  rw [m_r09_Count] at h
  refine tri_seq ?_
  refine tri_region (by exact tokW) (by exact gok) [] [] rfl ?_
  show Tri _ _ _ _
  refine tri_seq ?_
  refine tri_region (by exact tokW) (by exact gok) [] [] rfl ?_
  show Tri _ _ _ _
  refine tri_seq ?_
  refine tri_seq ?_
  refine tri_region (by exact tokW) (by exact gok) [] [] rfl ?_
  show Tri _ _ _ _
  obtain ⟨out4, hl, h⟩ := bind_out h
  refine tri_post ⟨ofL [(3, .s (.int .i64 out4))], fun _ => none, 0⟩ ?_ (fun σ' hle => ?_)
  · refine tri_block (tri_loopI (X := Nat × Int × Int) (fun y => match y with | (k, out2, i3) => ⟨ofL [(1, .s (.pt [.int .i64 n1_kind, .str n1_text, .int .i64 n1_cols, .sl 4 (Nd.encs n1_kids)])), (3, .s (.int .i64 out2)), (4, .s (.int .i64 i3))], fun _ => none, 0⟩) (fun y => m_r09_Count_l1 (m_r09_Count n) n1_kids y.1 y.2.1 y.2.2 = some out4) (fun y => y.1) (n, 1, 0) hl ?_ ?_)
    · exact (Le.forget _ ⟨rfl, rfl, rfl, trivial⟩)
    · rintro ⟨k, out2, i3⟩ h
      cases k with
      | zero => cases h
      | succ k =>
        replace h : m_r09_Count_l1 (m_r09_Count n) n1_kids (k+1) out2 i3 = some out4 := h
        rw [m_r09_Count_l1] at h
        refine tri_seq ?_
        refine tri_seq ?_
        refine tri_region (by exact tokW) (by exact gok) [] [8] rfl ?_
        intro n5 hn5
        obtain rfl : (n1_kids.length : Int) = n5 := (hn5.trans (congrArg (fun m : Nat => (m : Int)) (rlen Nd.encs_eq n1_kids))).symm
        show Tri _ _ _ _
        refine tri_cond rfl (fun hb => ?_) (fun hb => ?_)
        · replace h := bif_t hb h
          refine tri_skip ?_
          show Tri _ _ _ _
          refine tri_seq ?_
          refine tri_block ?_
          refine tri_region (by exact tokW) (by exact gok) [] [16] rfl ?_
          obtain ⟨⟨e6_kind, e6_text, e6_cols, e6_kids⟩, he6, h⟩ := bind_out h
          refine And.intro (at_ok Nd.encs_eq he6).1 ?_
          intro r7 hr7
          obtain rfl : [.int .i64 e6_kind, .str e6_text, .int .i64 e6_cols, .sl 4 (Nd.encs e6_kids)] = r7 := (hr7.trans (at_ok Nd.encs_eq he6).2.1).symm
          obtain ⟨y8, hy8, h⟩ := bind_out h
          refine ⟨_, ⟨_, _, hy8, rfl, rfl⟩, ?_⟩
          show Tri _ _ _ _
          refine tri_region (by exact tokW) (by exact gok) [] [] rfl ?_
          refine ⟨(k, IntKind.i64.wrap (out2 + y8), IntKind.i64.wrap (i3 + 1)), h, (Le.forget _ ⟨rfl, rfl, rfl, trivial⟩), Nat.lt_succ_self k⟩
        · replace h := bif_f hb h
          refine tri_exit ?_
          cases h
          exact (Le.forget _ ⟨rfl, trivial⟩)
  · show Tri _ _ _ _
    refine tri_le hle ?_
    refine tri_seq ?_
    refine tri_region (by exact tokW) (by exact gok) [] [] rfl ?_
    show Tri _ _ _ _
    refine tri_ret ?_
    have hy := Option.some.inj h
    subst hy
    unfold Gives
    exact ⟨_, Le.refl _ _, rfl, rfl⟩
theorem all_r09_Count : ∀ n, PSound Try.prog 23 (pspec (R_r09_Count n)) := by
  intro n
  induction n with
  | zero => exact psound_none Try.call23 (fun xs r h => by obtain ⟨_, _, h, _⟩ := h; cases h)
  | succ n ih => exact step_r09_Count n ih
def S_r09_Count : PSpec := pspec fun xs r => ∃ n, R_r09_Count n xs r
theorem ok_r09_Count : PSound Try.prog 23 S_r09_Count := psound_all all_r09_Count

/- vinculum/vinculumref09.Depth -/
def R_r09_Depth (n : Nat) (xs : List AV) (r : Ret) : Prop := ∃ (a0 : Nd) (y0 : Int), m_r09_Depth n a0 = some y0 ∧ xs = [.agg ((Nd.enc a0).map .s)] ∧ r = .val (.s (.int .i64 y0))
set_option maxHeartbeats 2000000 in
set_option maxRecDepth 100000 in
theorem step_r09_Depth (n : Nat) (ih : PSound Try.prog 24 (pspec (R_r09_Depth n))) : PSound Try.prog 24 (pspec (R_r09_Depth (n + 1))) := by
  have gok : ∀ f s, look? f [(24, pspec (R_r09_Depth n))] = some s → PSound Try.prog f s := look_all (by
    simp only [List.forall_mem_cons]
    exact ⟨ih, by simp⟩)
  refine psound tokW Try.call24 Try.func24 rfl (fun xs r h => by obtain ⟨_, _, _, rfl, _⟩ := h; show 1 ≤ 22; decide) 22 rfl ?_
  rintro xs r w0 G0 ⟨⟨n1_kind, n1_text, n1_cols, n1_kids⟩, y0, h, rfl, rfl⟩ _
  rw [m_r09_Depth] at h
  refine tri_seq ?_
  refine tri_region (by exact tokW) (by exact gok) [] [] rfl ?_
  show Tri _ _ _ _
  refine tri_seq ?_
  refine tri_region (by exact tokW) (by exact gok) [] [] rfl ?_
  show Tri _ _ _ _
  refine tri_seq ?_
  refine tri_seq ?_
  refine tri_region (by exact tokW) (by exact gok) [] [] rfl ?_
  show Tri _ _ _ _
  obtain ⟨out4, hl, h⟩ := bind_out h
  refine tri_post ⟨ofL [(3, .s (.int .i64 out4))], fun _ => none, 0⟩ ?_ (fun σ' hle => ?_)
  · refine tri_block (tri_loopI (X := Nat × Int × Int) (fun y => match y with | (k, out2, i3) => ⟨ofL [(1, .s (.pt [.int .i64 n1_kind, .str n1_text, .int .i64 n1_cols, .sl 4 (Nd.encs n1_kids)])), (3, .s (.int .i64 out2)), (4, .s (.int .i64 i3))], fun _ => none, 0⟩) (fun y => m_r09_Depth_l1 (m_r09_Depth n) n1_kids y.1 y.2.1 y.2.2 = some out4) (fun y => y.1) (n, 0, 0) hl ?_ ?_)
    · exact (Le.forget _ ⟨rfl, rfl, rfl, trivial⟩)
    · rintro ⟨k, out2, i3⟩ h
      cases k with
      | zero => cases h
      | succ k =>
        replace h : m_r09_Depth_l1 (m_r09_Depth n) n1_kids (k+1) out2 i3 = some out4 := h
        rw [m_r09_Depth_l1] at h
        refine tri_seq ?_
        refine tri_seq ?_
        refine tri_region (by exact tokW) (by exact gok) [] [8] rfl ?_
        intro n5 hn5
        obtain rfl : (n1_kids.length : Int) = n5 := (hn5.trans (congrArg (fun m : Nat => (m : Int)) (rlen Nd.encs_eq n1_kids))).symm
        show Tri _ _ _ _
        refine tri_cond rfl (fun hb => ?_) (fun hb => ?_)
        · replace h := bif_t hb h
          refine tri_skip ?_
          show Tri _ _ _ _
          refine tri_seq ?_
          refine tri_block ?_
          refine tri_region (by exact tokW) (by exact gok) [] [16] rfl ?_
          obtain ⟨⟨e6_kind, e6_text, e6_cols, e6_kids⟩, he6, h⟩ := bind_out h
          refine And.intro (at_ok Nd.encs_eq he6).1 ?_
          intro r7 hr7
          obtain rfl : [.int .i64 e6_kind, .str e6_text, .int .i64 e6_cols, .sl 4 (Nd.encs e6_kids)] = r7 := (hr7.trans (at_ok Nd.encs_eq he6).2.1).symm
          obtain ⟨y8, hy8, h⟩ := bind_out h
          refine ⟨_, ⟨_, _, hy8, rfl, rfl⟩, ?_⟩
          show Tri _ _ _ _
          refine tri_region (by exact tokW) (by exact gok) [] [] rfl ?_
          refine ⟨(k, (if out2 < y8 then y8 else out2), IntKind.i64.wrap (i3 + 1)), h, (Le.forget _ ⟨rfl, rfl, rfl, trivial⟩), Nat.lt_succ_self k⟩
        · replace h := bif_f hb h
          refine tri_exit ?_
          cases h
          exact (Le.forget _ ⟨rfl, trivial⟩)
  · show Tri _ _ _ _
    refine tri_le hle ?_
    refine tri_seq ?_
    refine tri_region (by exact tokW) (by exact gok) [] [] rfl ?_
    show Tri _ _ _ _
    refine tri_ret ?_
    have hy := Option.some.inj h
    subst hy
    unfold Gives
    exact ⟨_, Le.refl _ _, rfl, rfl⟩
theorem all_r09_Depth : ∀ n, PSound Try.prog 24 (pspec (R_r09_Depth n)) := by
  intro n
  induction n with
  | zero => exact psound_none Try.call24 (fun xs r h => by obtain ⟨_, _, h, _⟩ := h; cases h)
  | succ n ih => exact step_r09_Depth n ih
def S_r09_Depth : PSpec := pspec fun xs r => ∃ n, R_r09_Depth n xs r
theorem ok_r09_Depth : PSound Try.prog 24 S_r09_Depth := psound_all all_r09_Depth

/- vinculum/vinculumref09.Valid -/
def R_r09_Valid (n : Nat) (xs : List AV) (r : Ret) : Prop := ∃ (a0 : Nd) (y0 : Bool), m_r09_Valid n a0 = some y0 ∧ xs = [.agg ((Nd.enc a0).map .s)] ∧ r = .val (.s (.bool y0))
def S_r09_Valid : PSpec := pspec fun xs r => ∃ n, R_r09_Valid n xs r
set_option maxHeartbeats 2000000 in
set_option maxRecDepth 100000 in
theorem ok_r09_Valid : PSound Try.prog 10 S_r09_Valid := by
  have gok : ∀ f s, look? f [(22, S_r09_form), (23, S_r09_Count), (24, S_r09_Depth)] = some s → PSound Try.prog f s := look_all (by
    simp only [List.forall_mem_cons]
    exact ⟨ok_r09_form, ok_r09_Count, ok_r09_Depth, by simp⟩)
  refine psound tokW Try.call10 Try.func10 rfl (fun xs r h => by obtain ⟨n, _, _, _, rfl, _⟩ := h; show 1 ≤ 20; decide) 20 rfl ?_
  rintro xs r w0 G0 ⟨n, ⟨n1_kind, n1_text, n1_cols, n1_kids⟩, y0, h, rfl, rfl⟩ _
  rw [m_r09_Valid] at h
  refine tri_seq ?_
  refine tri_region (by exact tokW) (by exact gok) [] [] rfl ?_
  show Tri _ _ _ _
  refine tri_seq ?_
  obtain ⟨x2, hj, h⟩ := bind_out h
  refine tri_post ⟨ofL [(2, .s (.bool x2))], fun _ => none, 0⟩ ?_ (fun σ' hle => ?_)
  · replace h := hj
    refine tri_region (by exact tokW) (by exact gok) [] [6, 10, 15] rfl ?_
    intro b hb
    cases b with
    | true =>
      replace h := bif_t hb.symm h
      obtain ⟨y3, hy3, h⟩ := bind_out h
      refine ⟨_, ⟨_, _, _, hy3, rfl, rfl⟩, ?_⟩
      intro b hb
      cases b with
      | true =>
        replace h := bif_t hb.symm h
        obtain ⟨y4, hy4, h⟩ := bind_out h
        refine ⟨_, ⟨_, _, _, hy4, rfl, rfl⟩, ?_⟩
        intro b hb
        cases b with
        | true =>
          replace h := bif_t hb.symm h
          obtain ⟨y5, hy5, h⟩ := bind_out h
          refine ⟨_, ⟨_, _, _, hy5, rfl, rfl⟩, ?_⟩
          cases h
          exact (Le.forget _ ⟨rfl, trivial⟩)
        | false =>
          replace h := bif_f hb.symm h
          cases h
          exact (Le.forget _ ⟨rfl, trivial⟩)
      | false =>
        replace h := bif_f hb.symm h
        intro b hb
        subst hb
        cases h
        exact (Le.forget _ ⟨rfl, trivial⟩)
    | false =>
      replace h := bif_f hb.symm h
      intro b hb
      subst hb
      intro b hb
      subst hb
      cases h
      exact (Le.forget _ ⟨rfl, trivial⟩)
  · show Tri _ _ _ _
    refine tri_le hle ?_
    refine tri_ret ?_
    have hy := Option.some.inj h
    subst hy
    unfold Gives
    exact ⟨_, Le.refl _ _, rfl, rfl⟩

/- vinculum/vinculumref16.Alike -/
def R_r16_Alike (xs : List AV) (r : Ret) : Prop := ∃ (a0 : Nd) (a1 : Nd) (y0 : Bool), m_r16_Alike a0 a1 = some y0 ∧ xs = [.agg ((Nd.enc a0).map .s), .agg ((Nd.enc a1).map .s)] ∧ r = .val (.s (.bool y0))
def S_r16_Alike : PSpec := pspec fun xs r => R_r16_Alike xs r
set_option maxHeartbeats 2000000 in
set_option maxRecDepth 100000 in
theorem ok_r16_Alike : PSound Try.prog 35 S_r16_Alike := by
  have gok : ∀ (f : Nat) (s : PSpec), (fun _ => none : Nat → Option PSpec) f = some s → PSound Try.prog f s := fun _ _ h => by cases h
  refine psound tokW Try.call35 Try.func35 rfl (fun xs r h => by obtain ⟨_, _, _, _, rfl, _⟩ := h; show 2 ≤ 26; decide) 26 rfl ?_
  rintro xs r w0 G0 ⟨⟨x1_kind, x1_text, x1_cols, x1_kids⟩, ⟨y2_kind, y2_text, y2_cols, y2_kids⟩, y0, h, rfl, rfl⟩ _
  rw [m_r16_Alike] at h
  refine tri_seq ?_
  refine tri_region (by exact tokW) (by exact gok) [] [] rfl ?_
  show Tri _ _ _ _
  refine tri_seq ?_
  obtain ⟨x3, hj, h⟩ := bind_out h
  refine tri_post ⟨ofL [(4, .s (.bool x3))], fun _ => none, 0⟩ ?_ (fun σ' hle => ?_)
  · replace h := hj
    refine tri_region (by exact tokW) (by exact gok) [] [10, 13, 16, 19] rfl ?_
    intro b hb
    cases b with
    | true =>
      replace h := bif_t hb.symm h
      intro n4 hn4
      obtain rfl : (x1_kids.length : Int) = n4 := (hn4.trans (congrArg (fun m : Nat => (m : Int)) (rlen Nd.encs_eq x1_kids))).symm
      intro n5 hn5
      obtain rfl : (y2_kids.length : Int) = n5 := (hn5.trans (congrArg (fun m : Nat => (m : Int)) (rlen Nd.encs_eq y2_kids))).symm
      intro b hb
      cases b with
      | true =>
        replace h := bif_t hb.symm h
        cases h
        exact (Le.forget _ ⟨rfl, trivial⟩)
      | false =>
        replace h := bif_f hb.symm h
        cases h
        exact (Le.forget _ ⟨rfl, trivial⟩)
    | false =>
      replace h := bif_f hb.symm h
      intro b hb
      subst hb
      cases h
      exact (Le.forget _ ⟨rfl, trivial⟩)
  · show Tri _ _ _ _
    refine tri_le hle ?_
    refine tri_ret ?_
    have hy := Option.some.inj h
    subst hy
    unfold Gives
    exact ⟨_, Le.refl _ _, rfl, rfl⟩

end Go.Proofs.Ytplekejomocalaa
