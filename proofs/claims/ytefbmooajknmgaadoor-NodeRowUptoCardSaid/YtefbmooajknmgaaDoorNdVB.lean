/-
  Walks, printed by gw.py.
-/
import Derived.Test.YtefbmooajknmgaaDoorNdVA
set_option linter.unusedVariables false
set_option linter.unusedSimpArgs false
namespace Go.Proofs.YtefbmooajknmgaaDoor
open Go.Abs

/- vinculum/vinculumref09.text -/
def R_r09_text (n : Nat) (xs : List AV) (r : Ret) : Prop := ∃ (a0 : Nd) (y0 : Bool), m_r09_text n a0 = some y0 ∧ xs = [.agg ((Nd.enc a0).map .s)] ∧ r = .val (.s (.bool y0))
def S_r09_text : PSpec := pspec fun xs r => ∃ n, R_r09_text n xs r
set_option maxHeartbeats 2000000 in
set_option maxRecDepth 100000 in
theorem ok_r09_text : PSound Tryd.prog 80 S_r09_text := by
  have gok : ∀ f s, look? f [(13, S_r09_Symbol), (15, S_r09_Number), (87, S_r09_Printable), (47, S_r09_Accents), (45, S_r09_In), (71, S_r09_has)] = some s → PSound Tryd.prog f s := look_all (by
    simp only [List.forall_mem_cons]
    exact ⟨ok_r09_Symbol, ok_r09_Number, ok_r09_Printable, ok_r09_Accents, ok_r09_In, ok_r09_has, by simp⟩)
  refine psound tokW Tryd.call80 Tryd.func80 rfl (fun xs r h => by obtain ⟨n, _, _, _, rfl, _⟩ := h; show 1 ≤ 53; decide) 53 rfl ?_
  rintro xs r w0 G0 ⟨n, ⟨n1_kind, n1_text, n1_cols, n1_kids⟩, y0, h, rfl, rfl⟩ _
  rw [m_r09_text] at h
  refine tri_seq ?_
  refine tri_region (by exact tokW) (by exact gok) [] [] rfl ?_
  show Tri _ _ _ _
  refine tri_seq ?_
  refine tri_seq ?_
  refine tri_region (by exact tokW) (by exact gok) [] [] rfl ?_
  show Tri _ _ _ _
  refine tri_block ?_
  refine tri_seq ?_
  refine tri_region (by exact tokW) (by exact gok) [] [] rfl ?_
  show Tri _ _ _ _
  refine tri_cond rfl (fun hb => ?_) (fun hb => ?_)
  · replace h := bif_t hb h
    refine tri_seq ?_
    refine tri_region (by exact tokW) (by exact gok) [] [] rfl ?_
    obtain ⟨y2, hy2, h⟩ := bind_out h
    refine ⟨_, ⟨_, _, _, hy2, rfl, rfl⟩, ?_⟩
    show Tri _ _ _ _
    refine tri_ret ?_
    have hy := Option.some.inj h
    subst hy
    unfold Gives
    exact ⟨_, Le.refl _ _, rfl, rfl⟩
  · replace h := bif_f hb h
    refine tri_seq ?_
    refine tri_region (by exact tokW) (by exact gok) [] [] rfl ?_
    show Tri _ _ _ _
    refine tri_cond rfl (fun hb => ?_) (fun hb => ?_)
    · replace h := bif_t hb h
      refine tri_seq ?_
      refine tri_region (by exact tokW) (by exact gok) [] [] rfl ?_
      obtain ⟨y3, hy3, h⟩ := bind_out h
      refine ⟨_, ⟨_, _, _, hy3, rfl, rfl⟩, ?_⟩
      show Tri _ _ _ _
      refine tri_ret ?_
      have hy := Option.some.inj h
      subst hy
      unfold Gives
      exact ⟨_, Le.refl _ _, rfl, rfl⟩
    · replace h := bif_f hb h
      refine tri_seq ?_
      refine tri_region (by exact tokW) (by exact gok) [] [] rfl ?_
      show Tri _ _ _ _
      refine tri_cond rfl (fun hb => ?_) (fun hb => ?_)
      · replace h := bif_t hb h
        refine tri_seq ?_
        obtain ⟨x4, hj, h⟩ := bind_out h
        refine tri_post ⟨ofL [(2, .s (.bool x4))], fun _ => none, 0⟩ ?_ (fun σ' hle => ?_)
        · replace h := hj
          refine tri_region (by exact tokW) (by exact gok) [] [21] rfl ?_
          intro b hb
          cases b with
          | true =>
            replace h := bif_t hb.symm h
            obtain ⟨y5, hy5, h⟩ := bind_out h
            refine ⟨_, ⟨_, _, _, hy5, rfl, rfl⟩, ?_⟩
            cases h
            exact (Le.forget _ ⟨rfl, trivial⟩)
          | false =>
            replace h := bif_f hb.symm h
            cases h
            exact (Le.forget _ ⟨rfl, trivial⟩)
        · show Tri _ _ _ _
          refine tri_le hle ?_
          refine tri_ret ?_
          have hy := Option.some.inj h
          subst hy
          unfold Gives
          exact ⟨_, Le.refl _ _, rfl, rfl⟩
      · replace h := bif_f hb h
        refine tri_seq ?_
        refine tri_region (by exact tokW) (by exact gok) [] [] rfl ?_
        show Tri _ _ _ _
        refine tri_cond rfl (fun hb => ?_) (fun hb => ?_)
        · replace h := bif_t hb h
          refine tri_seq ?_
          refine tri_drawn (by exact tokW) (by exact gok) (by exact mixed) [] [] [] rfl (by decide +kernel) ?_
          obtain ⟨y6, hy6, h⟩ := bind_out h
          refine ⟨_, ⟨_, hy6, rfl, rfl⟩, ?_⟩
          obtain ⟨y7, hy7, h⟩ := bind_out h
          refine ⟨_, ⟨_, _, _, _, hy7, rfl, rfl⟩, ?_⟩
          show Tri _ _ _ _
          refine tri_ret ?_
          have hy := Option.some.inj h
          subst hy
          unfold Gives
          exact ⟨_, Le.refl _ _, rfl, rfl⟩
        · replace h := bif_f hb h
          refine tri_seq ?_
          refine tri_region (by exact tokW) (by exact gok) [] [] rfl ?_
          show Tri _ _ _ _
          refine tri_cond rfl (fun hb => ?_) (fun hb => ?_)
          · replace h := bif_t hb h
            refine tri_seq ?_
            obtain ⟨x8, hj, h⟩ := bind_out h
            refine tri_post ⟨ofL [(2, .s (.bool x8))], fun _ => none, 0⟩ ?_ (fun σ' hle => ?_)
            · replace h := hj
              refine tri_region (by exact tokW) (by exact gok) [] [38, 41, 44, 47] rfl ?_
              intro b hb
              cases b with
              | true =>
                replace h := bif_t hb.symm h
                obtain ⟨c9, hc9, h⟩ := bind_out h
                refine And.intro (str_ok hc9).1 ?_
                intro v10 hv10
                obtain rfl : (c9.toNat : Int) = v10 := (hv10.trans (str_ok hc9).2).symm
                obtain ⟨y11, hy11, h⟩ := bind_out h
                refine ⟨_, ⟨_, _, _, _, hy11, rfl, rfl⟩, ?_⟩
                intro b hb
                cases b with
                | true =>
                  replace h := bif_t hb.symm h
                  obtain ⟨c12, hc12, h⟩ := bind_out h
                  refine And.intro (str_ok hc12).1 ?_
                  intro v13 hv13
                  obtain rfl : (c12.toNat : Int) = v13 := (hv13.trans (str_ok hc12).2).symm
                  obtain ⟨y14, hy14, h⟩ := bind_out h
                  refine ⟨_, ⟨_, _, _, _, hy14, rfl, rfl⟩, ?_⟩
                  cases h
                  exact (Le.forget _ ⟨rfl, trivial⟩)
                | false =>
                  replace h := bif_f hb.symm h
                  cases h
                  exact (Le.forget _ ⟨rfl, trivial⟩)
              | false =>
                replace h := bif_f hb.symm h
                intro b hb
                subst hb
                cases h
                exact (Le.forget _ ⟨rfl, trivial⟩)
            · show Tri _ _ _ _
              refine tri_le hle ?_
              refine tri_ret ?_
              have hy := Option.some.inj h
              subst hy
              unfold Gives
              exact ⟨_, Le.refl _ _, rfl, rfl⟩
          · replace h := bif_f hb h
            refine tri_skip ?_
            show Tri _ _ _ _
            refine tri_seq ?_
            refine tri_region (by exact tokW) (by exact gok) [] [] rfl ?_
            show Tri _ _ _ _
            refine tri_ret ?_
            have hy := Option.some.inj h
            subst hy
            unfold Gives
            exact ⟨_, Le.refl _ _, rfl, rfl⟩

/- vinculum/vinculumref09.kids -/
def R_r09_kids (xs : List AV) (r : Ret) : Prop := ∃ (a0 : Nd) (y0 : Bool), m_r09_kids a0 = some y0 ∧ xs = [.agg ((Nd.enc a0).map .s)] ∧ r = .val (.s (.bool y0))
def S_r09_kids : PSpec := pspec fun xs r => R_r09_kids xs r
set_option maxHeartbeats 2000000 in
set_option maxRecDepth 100000 in
theorem ok_r09_kids : PSound Tryd.prog 81 S_r09_kids := by
  have gok : ∀ (f : Nat) (s : PSpec), (fun _ => none : Nat → Option PSpec) f = some s → PSound Tryd.prog f s := fun _ _ h => by cases h
  refine psound tokW Tryd.call81 Tryd.func81 rfl (fun xs r h => by obtain ⟨_, _, _, rfl, _⟩ := h; show 1 ≤ 64; decide) 64 rfl ?_
  rintro xs r w0 G0 ⟨⟨n1_kind, n1_text, n1_cols, n1_kids⟩, y0, h, rfl, rfl⟩ _
  rw [m_r09_kids] at h
  refine tri_seq ?_
  refine tri_region (by exact tokW) (by exact gok) [] [] rfl ?_
  show Tri _ _ _ _
  refine tri_seq ?_
  refine tri_region (by exact tokW) (by exact gok) [] [6] rfl ?_
  intro n2 hn2
  obtain rfl : (n1_kids.length : Int) = n2 := (hn2.trans (congrArg (fun m : Nat => (m : Int)) (rlen Nd.encs_eq n1_kids))).symm
  show Tri _ _ _ _
  refine tri_seq ?_
  refine tri_seq ?_
  refine tri_region (by exact tokW) (by exact gok) [] [] rfl ?_
  show Tri _ _ _ _
  refine tri_cond rfl (fun hb => ?_) (fun hb => ?_)
  · replace h := bif_t hb h
    refine tri_seq ?_
    obtain ⟨x3, hj, h⟩ := bind_out h
    refine tri_post ⟨ofL [(2, .s (.bool x3))], fun _ => none, 0⟩ ?_ (fun σ' hle => ?_)
    · replace h := hj
      refine tri_region (by exact tokW) (by exact gok) [] [13, 18, 22, 26] rfl ?_
      intro b hb
      cases b with
      | true =>
        replace h := bif_t hb.symm h
        intro b hb
        cases b with
        | true =>
          replace h := bif_t hb.symm h
          intro b hb
          cases b with
          | true =>
            replace h := bif_t hb.symm h
            intro b hb
            cases b with
            | true =>
              replace h := bif_t hb.symm h
              obtain ⟨hq, h⟩ := req_out h
              refine And.intro hq ?_
              cases h
              exact (Le.forget _ ⟨rfl, trivial⟩)
            | false =>
              replace h := bif_f hb.symm h
              cases h
              exact (Le.forget _ ⟨rfl, trivial⟩)
          | false =>
            replace h := bif_f hb.symm h
            intro b hb
            subst hb
            cases h
            exact (Le.forget _ ⟨rfl, trivial⟩)
        | false =>
          replace h := bif_f hb.symm h
          intro b hb
          subst hb
          intro b hb
          subst hb
          cases h
          exact (Le.forget _ ⟨rfl, trivial⟩)
      | false =>
        replace h := bif_f hb.symm h
        intro b hb
        subst hb
        intro b hb
        subst hb
        intro b hb
        subst hb
        cases h
        exact (Le.forget _ ⟨rfl, trivial⟩)
    · show Tri _ _ _ _
      refine tri_le hle ?_
      refine tri_ret ?_
      have hy := Option.some.inj h
      subst hy
      unfold Gives
      exact ⟨_, Le.refl _ _, rfl, rfl⟩
  · replace h := bif_f hb h
    refine tri_skip ?_
    show Tri _ _ _ _
    refine tri_seq ?_
    refine tri_seq ?_
    refine tri_region (by exact tokW) (by exact gok) [] [] rfl ?_
    show Tri _ _ _ _
    refine tri_cond rfl (fun hb => ?_) (fun hb => ?_)
    · replace h := bif_t hb h
      refine tri_seq ?_
      refine tri_region (by exact tokW) (by exact gok) [] [] rfl ?_
      show Tri _ _ _ _
      refine tri_ret ?_
      have hy := Option.some.inj h
      subst hy
      unfold Gives
      exact ⟨_, Le.refl _ _, rfl, rfl⟩
    · replace h := bif_f hb h
      refine tri_skip ?_
      show Tri _ _ _ _
      refine tri_seq ?_
      refine tri_seq ?_
      refine tri_region (by exact tokW) (by exact gok) [] [] rfl ?_
      show Tri _ _ _ _
      obtain ⟨fl, hj, ho1⟩ := bind_out h
      refine tri_fl (fl := fl) (fun z => match z with | _ => ⟨ofL [], fun _ => none, 0⟩) ?_ (fun z σ' hz hle => ?_)
      · replace h := hj
        refine tri_block ?_
        refine tri_seq ?_
        refine tri_region (by exact tokW) (by exact gok) [] [] rfl ?_
        show Tri _ _ _ _
        refine tri_cond rfl (fun hb => ?_) (fun hb => ?_)
        · replace h := bif_t hb h
          refine tri_seq ?_
          refine tri_region (by exact tokW) (by exact gok) [] [] rfl ?_
          show Tri _ _ _ _
          refine tri_ret ?_
          cases h
          replace h : some _ = some _ := ho1
          have hy := Option.some.inj h
          subst hy
          unfold Gives
          exact ⟨_, Le.refl _ _, rfl, rfl⟩
        · replace h := bif_f hb h
          refine tri_seq ?_
          refine tri_seq ?_
          refine tri_region (by exact tokW) (by exact gok) [] [] rfl ?_
          show Tri _ _ _ _
          obtain ⟨x4, hj, h⟩ := bind_out h
          refine tri_post ⟨ofL [(3, .s (.int .i64 (n1_kids.length : Int))), (37, .s (.int .i64 n1_kind)), (42, .s (.bool x4))], fun _ => none, 0⟩ ?_ (fun σ' hle => ?_)
          · replace h := hj
            refine tri_cond rfl (fun hb => ?_) (fun hb => ?_)
            · replace h := bif_t hb h
              refine tri_skip ?_
              cases h
              exact (Le.forget _ ⟨rfl, rfl, rfl, trivial⟩)
            · replace h := bif_f hb h
              refine tri_seq ?_
              refine tri_region (by exact tokW) (by exact gok) [] [] rfl ?_
              show Tri _ _ _ _
              refine tri_cond rfl (fun hb => ?_) (fun hb => ?_)
              · replace h := bif_t hb h
                refine tri_skip ?_
                cases h
                exact (Le.forget _ ⟨rfl, rfl, rfl, trivial⟩)
              · replace h := bif_f hb h
                refine tri_region (by exact tokW) (by exact gok) [] [] rfl ?_
                cases h
                exact (Le.forget _ ⟨rfl, rfl, rfl, trivial⟩)
          · show Tri _ _ _ _
            refine tri_le hle ?_
            refine tri_cond rfl (fun hb => ?_) (fun hb => ?_)
            · replace h := bif_t hb h
              refine tri_seq ?_
              refine tri_region (by exact tokW) (by exact gok) [] [] rfl ?_
              show Tri _ _ _ _
              refine tri_ret ?_
              cases h
              replace h : some _ = some _ := ho1
              have hy := Option.some.inj h
              subst hy
              unfold Gives
              exact ⟨_, Le.refl _ _, rfl, rfl⟩
            · replace h := bif_f hb h
              refine tri_seq ?_
              refine tri_seq ?_
              refine tri_region (by exact tokW) (by exact gok) [] [] rfl ?_
              show Tri _ _ _ _
              obtain ⟨x5, hj, h⟩ := bind_out h
              refine tri_post ⟨ofL [(3, .s (.int .i64 (n1_kids.length : Int))), (37, .s (.int .i64 n1_kind)), (48, .s (.bool x5))], fun _ => none, 0⟩ ?_ (fun σ' hle => ?_)
              · replace h := hj
                refine tri_cond rfl (fun hb => ?_) (fun hb => ?_)
                · replace h := bif_t hb h
                  refine tri_skip ?_
                  cases h
                  exact (Le.forget _ ⟨rfl, rfl, rfl, trivial⟩)
                · replace h := bif_f hb h
                  refine tri_seq ?_
                  refine tri_region (by exact tokW) (by exact gok) [] [] rfl ?_
                  show Tri _ _ _ _
                  refine tri_cond rfl (fun hb => ?_) (fun hb => ?_)
                  · replace h := bif_t hb h
                    refine tri_skip ?_
                    cases h
                    exact (Le.forget _ ⟨rfl, rfl, rfl, trivial⟩)
                  · replace h := bif_f hb h
                    refine tri_seq ?_
                    refine tri_region (by exact tokW) (by exact gok) [] [] rfl ?_
                    show Tri _ _ _ _
                    refine tri_cond rfl (fun hb => ?_) (fun hb => ?_)
                    · replace h := bif_t hb h
                      refine tri_skip ?_
                      cases h
                      exact (Le.forget _ ⟨rfl, rfl, rfl, trivial⟩)
                    · replace h := bif_f hb h
                      refine tri_region (by exact tokW) (by exact gok) [] [] rfl ?_
                      cases h
                      exact (Le.forget _ ⟨rfl, rfl, rfl, trivial⟩)
              · show Tri _ _ _ _
                refine tri_le hle ?_
                refine tri_cond rfl (fun hb => ?_) (fun hb => ?_)
                · replace h := bif_t hb h
                  refine tri_seq ?_
                  refine tri_region (by exact tokW) (by exact gok) [] [] rfl ?_
                  show Tri _ _ _ _
                  refine tri_ret ?_
                  cases h
                  replace h : some _ = some _ := ho1
                  have hy := Option.some.inj h
                  subst hy
                  unfold Gives
                  exact ⟨_, Le.refl _ _, rfl, rfl⟩
                · replace h := bif_f hb h
                  refine tri_seq ?_
                  refine tri_region (by exact tokW) (by exact gok) [] [] rfl ?_
                  show Tri _ _ _ _
                  refine tri_cond rfl (fun hb => ?_) (fun hb => ?_)
                  · replace h := bif_t hb h
                    refine tri_seq ?_
                    refine tri_region (by exact tokW) (by exact gok) [] [] rfl ?_
                    show Tri _ _ _ _
                    refine tri_ret ?_
                    cases h
                    replace h : some _ = some _ := ho1
                    have hy := Option.some.inj h
                    subst hy
                    unfold Gives
                    exact ⟨_, Le.refl _ _, rfl, rfl⟩
                  · replace h := bif_f hb h
                    refine tri_seq ?_
                    refine tri_seq ?_
                    refine tri_region (by exact tokW) (by exact gok) [] [] rfl ?_
                    show Tri _ _ _ _
                    obtain ⟨x6, hj, h⟩ := bind_out h
                    refine tri_post ⟨ofL [(3, .s (.int .i64 (n1_kids.length : Int))), (59, .s (.bool x6))], fun _ => none, 0⟩ ?_ (fun σ' hle => ?_)
                    · replace h := hj
                      refine tri_cond rfl (fun hb => ?_) (fun hb => ?_)
                      · replace h := bif_t hb h
                        refine tri_skip ?_
                        cases h
                        exact (Le.forget _ ⟨rfl, rfl, trivial⟩)
                      · replace h := bif_f hb h
                        refine tri_region (by exact tokW) (by exact gok) [] [] rfl ?_
                        cases h
                        exact (Le.forget _ ⟨rfl, rfl, trivial⟩)
                    · show Tri _ _ _ _
                      refine tri_le hle ?_
                      refine tri_cond rfl (fun hb => ?_) (fun hb => ?_)
                      · replace h := bif_t hb h
                        refine tri_seq ?_
                        refine tri_region (by exact tokW) (by exact gok) [] [] rfl ?_
                        show Tri _ _ _ _
                        refine tri_ret ?_
                        cases h
                        replace h : some _ = some _ := ho1
                        have hy := Option.some.inj h
                        subst hy
                        unfold Gives
                        exact ⟨_, Le.refl _ _, rfl, rfl⟩
                      · replace h := bif_f hb h
                        refine tri_skip ?_
                        cases h
                        exact ⟨_, rfl, (Le.forget _ trivial)⟩
      · subst hz
        obtain _ := z
        replace h := ho1
        show Tri _ _ _ _
        refine tri_le hle ?_
        refine tri_seq ?_
        refine tri_region (by exact tokW) (by exact gok) [] [] rfl ?_
        show Tri _ _ _ _
        refine tri_ret ?_
        have hy := Option.some.inj h
        subst hy
        unfold Gives
        exact ⟨_, Le.refl _ _, rfl, rfl⟩

/- vinculum/vinculumref09.form -/
def R_r09_form (n : Nat) (xs : List AV) (r : Ret) : Prop := ∃ (a0 : Nd) (y0 : Bool), m_r09_form n a0 = some y0 ∧ xs = [.agg ((Nd.enc a0).map .s)] ∧ r = .val (.s (.bool y0))
set_option maxHeartbeats 2000000 in
set_option maxRecDepth 100000 in
theorem step_r09_form (n : Nat) (ih : PSound Tryd.prog 60 (pspec (R_r09_form n))) : PSound Tryd.prog 60 (pspec (R_r09_form (n + 1))) := by
  have gok : ∀ f s, look? f [(80, S_r09_text), (81, S_r09_kids), (60, pspec (R_r09_form n))] = some s → PSound Tryd.prog f s := look_all (by
    simp only [List.forall_mem_cons]
    exact ⟨ok_r09_text, ok_r09_kids, ih, by simp⟩)
  refine psound tokW Tryd.call60 Tryd.func60 rfl (fun xs r h => by obtain ⟨_, _, _, rfl, _⟩ := h; show 1 ≤ 39; decide) 39 rfl ?_
  rintro xs r w0 G0 ⟨⟨n1_kind, n1_text, n1_cols, n1_kids⟩, y0, h, rfl, rfl⟩ _
  rw [m_r09_form] at h
  refine tri_seq ?_
  refine tri_region (by exact tokW) (by exact gok) [] [] rfl ?_
  show Tri _ _ _ _
  refine tri_seq ?_
  refine tri_seq ?_
  obtain ⟨x2, hj, h⟩ := bind_out h
  refine tri_post ⟨ofL [(1, .s (.pt [.int .i64 n1_kind, .str n1_text, .int .i64 n1_cols, .sl 4 (Nd.encs n1_kids)])), (11, .s (.bool x2))], fun _ => none, 0⟩ ?_ (fun σ' hle => ?_)
  · replace h := hj
    refine tri_region (by exact tokW) (by exact gok) [] [7] rfl ?_
    obtain ⟨y3, hy3, h⟩ := bind_out h
    refine ⟨_, ⟨_, _, _, hy3, rfl, rfl⟩, ?_⟩
    intro b hb
    cases b with
    | true =>
      replace h := bif_t hb.symm h
      cases h
      exact (Le.forget _ ⟨rfl, rfl, trivial⟩)
    | false =>
      replace h := bif_f hb.symm h
      obtain ⟨y4, hy4, h⟩ := bind_out h
      refine ⟨_, ⟨_, _, hy4, rfl, rfl⟩, ?_⟩
      cases h
      exact (Le.forget _ ⟨rfl, rfl, trivial⟩)
  · show Tri _ _ _ _
    refine tri_le hle ?_
    refine tri_cond rfl (fun hb => ?_) (fun hb => ?_)
    · replace h := bif_t hb h
      refine tri_seq ?_
      refine tri_region (by exact tokW) (by exact gok) [] [] rfl ?_
      show Tri _ _ _ _
      refine tri_ret ?_
      have hy := Option.some.inj h
      subst hy
      unfold Gives
      exact ⟨_, Le.refl _ _, rfl, rfl⟩
    · replace h := bif_f hb h
      refine tri_skip ?_
      show Tri _ _ _ _
      refine tri_seq ?_
      refine tri_seq ?_
      refine tri_region (by exact tokW) (by exact gok) [] [] rfl ?_
      show Tri _ _ _ _
      obtain ⟨fl, hl, ho1⟩ := bind_out h
      refine tri_fl (fl := fl) (fun z => match z with | _ => ⟨ofL [], fun _ => none, 0⟩) ?_ (fun z σ' hz hle => ?_)
      · refine tri_block (tri_loopI (X := Nat × Int) (fun y => match y with | (k, i5) => ⟨ofL [(1, .s (.pt [.int .i64 n1_kind, .str n1_text, .int .i64 n1_cols, .sl 4 (Nd.encs n1_kids)])), (3, .s (.int .i64 i5))], fun _ => none, 0⟩) (fun y => m_r09_form_l1 (m_r09_form n) n1_kind n1_kids y.1 y.2 = some fl) (fun y => y.1) (n, 0) hl ?_ ?_)
        · exact (Le.forget _ ⟨rfl, rfl, trivial⟩)
        · rintro ⟨k, i5⟩ h
          cases k with
          | zero => cases h
          | succ k =>
            replace h : m_r09_form_l1 (m_r09_form n) n1_kind n1_kids (k+1) i5 = some fl := h
            rw [m_r09_form_l1] at h
            refine tri_seq ?_
            refine tri_seq ?_
            refine tri_region (by exact tokW) (by exact gok) [] [15] rfl ?_
            intro n6 hn6
            obtain rfl : (n1_kids.length : Int) = n6 := (hn6.trans (congrArg (fun m : Nat => (m : Int)) (rlen Nd.encs_eq n1_kids))).symm
            show Tri _ _ _ _
            refine tri_cond rfl (fun hb => ?_) (fun hb => ?_)
            · replace h := bif_t hb h
              refine tri_skip ?_
              show Tri _ _ _ _
              refine tri_seq ?_
              refine tri_block ?_
              refine tri_seq ?_
              obtain ⟨x7, hj, h⟩ := bind_out h
              refine tri_post ⟨ofL [(1, .s (.pt [.int .i64 n1_kind, .str n1_text, .int .i64 n1_cols, .sl 4 (Nd.encs n1_kids)])), (3, .s (.int .i64 i5)), (38, .s (.bool x7))], fun _ => none, 0⟩ ?_ (fun σ' hle => ?_)
              · replace h := hj
                refine tri_drawn (by exact tokW) (by exact gok) (by exact mixed) [] [22, 30, 34] [] rfl (by decide +kernel) ?_
                obtain ⟨⟨e8_kind, e8_text, e8_cols, e8_kids⟩, he8, h⟩ := bind_out h
                refine And.intro (at_ok Nd.encs_eq he8).1 ?_
                intro r9 hr9
                obtain rfl : [.int .i64 e8_kind, .str e8_text, .int .i64 e8_cols, .sl 4 (Nd.encs e8_kids)] = r9 := (hr9.trans (at_ok Nd.encs_eq he8).2.1).symm
                intro b hb
                cases b with
                | true =>
                  replace h := bif_t hb.symm h
                  cases h
                  exact (Le.forget _ ⟨rfl, rfl, rfl, trivial⟩)
                | false =>
                  replace h := bif_f hb.symm h
                  obtain ⟨⟨e10_kind, e10_text, e10_cols, e10_kids⟩, he10, h⟩ := bind_out h
                  refine And.intro (at_ok Nd.encs_eq he10).1 ?_
                  intro r11 hr11
                  obtain rfl : [.int .i64 e10_kind, .str e10_text, .int .i64 e10_cols, .sl 4 (Nd.encs e10_kids)] = r11 := (hr11.trans (at_ok Nd.encs_eq he10).2.1).symm
                  obtain ⟨y12, hy12, h⟩ := bind_out h
                  refine ⟨_, ⟨_, _, hy12, rfl, rfl⟩, ?_⟩
                  cases h
                  exact (Le.forget _ ⟨rfl, rfl, rfl, trivial⟩)
              · show Tri _ _ _ _
                refine tri_le hle ?_
                refine tri_cond rfl (fun hb => ?_) (fun hb => ?_)
                · replace h := bif_t hb h
                  refine tri_seq ?_
                  refine tri_region (by exact tokW) (by exact gok) [] [] rfl ?_
                  show Tri _ _ _ _
                  refine tri_ret ?_
                  cases h
                  replace h : some _ = some _ := ho1
                  have hy := Option.some.inj h
                  subst hy
                  unfold Gives
                  exact ⟨_, Le.refl _ _, rfl, rfl⟩
                · replace h := bif_f hb h
                  refine tri_skip ?_
                  show Tri _ _ _ _
                  refine tri_region (by exact tokW) (by exact gok) [] [] rfl ?_
                  refine ⟨(k, IntKind.i64.wrap (i5 + 1)), h, (Le.forget _ ⟨rfl, rfl, trivial⟩), Nat.lt_succ_self k⟩
            · replace h := bif_f hb h
              refine tri_exit ?_
              cases h
              exact ⟨_, rfl, (Le.forget _ trivial)⟩
      · subst hz
        obtain _ := z
        replace h := ho1
        show Tri _ _ _ _
        refine tri_le hle ?_
        refine tri_seq ?_
        refine tri_region (by exact tokW) (by exact gok) [] [] rfl ?_
        show Tri _ _ _ _
        refine tri_ret ?_
        have hy := Option.some.inj h
        subst hy
        unfold Gives
        exact ⟨_, Le.refl _ _, rfl, rfl⟩
theorem all_r09_form : ∀ n, PSound Tryd.prog 60 (pspec (R_r09_form n)) := by
  intro n
  induction n with
  | zero => exact psound_none Tryd.call60 (fun xs r h => by obtain ⟨_, _, h, _⟩ := h; cases h)
  | succ n ih => exact step_r09_form n ih
def S_r09_form : PSpec := pspec fun xs r => ∃ n, R_r09_form n xs r
theorem ok_r09_form : PSound Tryd.prog 60 S_r09_form := psound_all all_r09_form

/- vinculum/vinculumref09.Count -/
def R_r09_Count (n : Nat) (xs : List AV) (r : Ret) : Prop := ∃ (a0 : Nd) (y0 : Int), m_r09_Count n a0 = some y0 ∧ xs = [.agg ((Nd.enc a0).map .s)] ∧ r = .val (.s (.int .i64 y0))
set_option maxHeartbeats 2000000 in
set_option maxRecDepth 100000 in
theorem step_r09_Count (n : Nat) (ih : PSound Tryd.prog 29 (pspec (R_r09_Count n))) : PSound Tryd.prog 29 (pspec (R_r09_Count (n + 1))) := by
  have gok : ∀ f s, look? f [(29, pspec (R_r09_Count n))] = some s → PSound Tryd.prog f s := look_all (by
    simp only [List.forall_mem_cons]
    exact ⟨ih, by simp⟩)
  refine psound tokW Tryd.call29 Tryd.func29 rfl (fun xs r h => by obtain ⟨_, _, _, rfl, _⟩ := h; show 1 ≤ 21; decide) 21 rfl ?_
  rintro xs r w0 G0 ⟨⟨n1_kind, n1_text, n1_cols, n1_kids⟩, y0, h, rfl, rfl⟩ _
  rw [m_r09_Count] at h
  refine tri_seq ?_
  refine tri_region (by exact tokW) (by exact gok) [] [] rfl ?_
  show Tri _ _ _ _
  refine tri_seq ?_
  refine tri_region (by exact tokW) (by exact gok) [] [] rfl ?_
  show Tri _ _ _ _
  refine tri_seq ?_
  refine tri_seq ?_
  refine tri_region (by exact tokW) (by exact gok) [] [] rfl ?_
  show Tri _ _ _ _
  obtain ⟨out4, hl, h⟩ := bind_out h
  refine tri_post ⟨ofL [(3, .s (.int .i64 out4))], fun _ => none, 0⟩ ?_ (fun σ' hle => ?_)
  · refine tri_block (tri_loopI (X := Nat × Int × Int) (fun y => match y with | (k, out2, i3) => ⟨ofL [(1, .s (.pt [.int .i64 n1_kind, .str n1_text, .int .i64 n1_cols, .sl 4 (Nd.encs n1_kids)])), (3, .s (.int .i64 out2)), (4, .s (.int .i64 i3))], fun _ => none, 0⟩) (fun y => m_r09_Count_l1 (m_r09_Count n) n1_kids y.1 y.2.1 y.2.2 = some out4) (fun y => y.1) (n, 1, 0) hl ?_ ?_)
    · exact (Le.forget _ ⟨rfl, rfl, rfl, trivial⟩)
    · rintro ⟨k, out2, i3⟩ h
      cases k with
      | zero => cases h
      | succ k =>
        replace h : m_r09_Count_l1 (m_r09_Count n) n1_kids (k+1) out2 i3 = some out4 := h
        rw [m_r09_Count_l1] at h
        refine tri_seq ?_
        refine tri_seq ?_
        refine tri_region (by exact tokW) (by exact gok) [] [8] rfl ?_
        intro n5 hn5
        obtain rfl : (n1_kids.length : Int) = n5 := (hn5.trans (congrArg (fun m : Nat => (m : Int)) (rlen Nd.encs_eq n1_kids))).symm
        show Tri _ _ _ _
        refine tri_cond rfl (fun hb => ?_) (fun hb => ?_)
        · replace h := bif_t hb h
          refine tri_skip ?_
          show Tri _ _ _ _
          refine tri_seq ?_
          refine tri_block ?_
          refine tri_region (by exact tokW) (by exact gok) [] [16] rfl ?_
          obtain ⟨⟨e6_kind, e6_text, e6_cols, e6_kids⟩, he6, h⟩ := bind_out h
          refine And.intro (at_ok Nd.encs_eq he6).1 ?_
          intro r7 hr7
          obtain rfl : [.int .i64 e6_kind, .str e6_text, .int .i64 e6_cols, .sl 4 (Nd.encs e6_kids)] = r7 := (hr7.trans (at_ok Nd.encs_eq he6).2.1).symm
          obtain ⟨y8, hy8, h⟩ := bind_out h
          refine ⟨_, ⟨_, _, hy8, rfl, rfl⟩, ?_⟩
          show Tri _ _ _ _
          refine tri_region (by exact tokW) (by exact gok) [] [] rfl ?_
          refine ⟨(k, IntKind.i64.wrap (out2 + y8), IntKind.i64.wrap (i3 + 1)), h, (Le.forget _ ⟨rfl, rfl, rfl, trivial⟩), Nat.lt_succ_self k⟩
        · replace h := bif_f hb h
          refine tri_exit ?_
          cases h
          exact (Le.forget _ ⟨rfl, trivial⟩)
  · show Tri _ _ _ _
    refine tri_le hle ?_
    refine tri_seq ?_
    refine tri_region (by exact tokW) (by exact gok) [] [] rfl ?_
    show Tri _ _ _ _
    refine tri_ret ?_
    have hy := Option.some.inj h
    subst hy
    unfold Gives
    exact ⟨_, Le.refl _ _, rfl, rfl⟩
theorem all_r09_Count : ∀ n, PSound Tryd.prog 29 (pspec (R_r09_Count n)) := by
  intro n
  induction n with
  | zero => exact psound_none Tryd.call29 (fun xs r h => by obtain ⟨_, _, h, _⟩ := h; cases h)
  | succ n ih => exact step_r09_Count n ih
def S_r09_Count : PSpec := pspec fun xs r => ∃ n, R_r09_Count n xs r
theorem ok_r09_Count : PSound Tryd.prog 29 S_r09_Count := psound_all all_r09_Count

/- vinculum/vinculumref09.Depth -/
def R_r09_Depth (n : Nat) (xs : List AV) (r : Ret) : Prop := ∃ (a0 : Nd) (y0 : Int), m_r09_Depth n a0 = some y0 ∧ xs = [.agg ((Nd.enc a0).map .s)] ∧ r = .val (.s (.int .i64 y0))
set_option maxHeartbeats 2000000 in
set_option maxRecDepth 100000 in
theorem step_r09_Depth (n : Nat) (ih : PSound Tryd.prog 31 (pspec (R_r09_Depth n))) : PSound Tryd.prog 31 (pspec (R_r09_Depth (n + 1))) := by
  have gok : ∀ f s, look? f [(31, pspec (R_r09_Depth n))] = some s → PSound Tryd.prog f s := look_all (by
    simp only [List.forall_mem_cons]
    exact ⟨ih, by simp⟩)
  refine psound tokW Tryd.call31 Tryd.func31 rfl (fun xs r h => by obtain ⟨_, _, _, rfl, _⟩ := h; show 1 ≤ 22; decide) 22 rfl ?_
  rintro xs r w0 G0 ⟨⟨n1_kind, n1_text, n1_cols, n1_kids⟩, y0, h, rfl, rfl⟩ _
  rw [m_r09_Depth] at h
  refine tri_seq ?_
  refine tri_region (by exact tokW) (by exact gok) [] [] rfl ?_
  show Tri _ _ _ _
  refine tri_seq ?_
  refine tri_region (by exact tokW) (by exact gok) [] [] rfl ?_
  show Tri _ _ _ _
  refine tri_seq ?_
  refine tri_seq ?_
  refine tri_region (by exact tokW) (by exact gok) [] [] rfl ?_
  show Tri _ _ _ _
  obtain ⟨out4, hl, h⟩ := bind_out h
  refine tri_post ⟨ofL [(3, .s (.int .i64 out4))], fun _ => none, 0⟩ ?_ (fun σ' hle => ?_)
  · refine tri_block (tri_loopI (X := Nat × Int × Int) (fun y => match y with | (k, out2, i3) => ⟨ofL [(1, .s (.pt [.int .i64 n1_kind, .str n1_text, .int .i64 n1_cols, .sl 4 (Nd.encs n1_kids)])), (3, .s (.int .i64 out2)), (4, .s (.int .i64 i3))], fun _ => none, 0⟩) (fun y => m_r09_Depth_l1 (m_r09_Depth n) n1_kids y.1 y.2.1 y.2.2 = some out4) (fun y => y.1) (n, 0, 0) hl ?_ ?_)
    · exact (Le.forget _ ⟨rfl, rfl, rfl, trivial⟩)
    · rintro ⟨k, out2, i3⟩ h
      cases k with
      | zero => cases h
      | succ k =>
        replace h : m_r09_Depth_l1 (m_r09_Depth n) n1_kids (k+1) out2 i3 = some out4 := h
        rw [m_r09_Depth_l1] at h
        refine tri_seq ?_
        refine tri_seq ?_
        refine tri_region (by exact tokW) (by exact gok) [] [8] rfl ?_
        intro n5 hn5
        obtain rfl : (n1_kids.length : Int) = n5 := (hn5.trans (congrArg (fun m : Nat => (m : Int)) (rlen Nd.encs_eq n1_kids))).symm
        show Tri _ _ _ _
        refine tri_cond rfl (fun hb => ?_) (fun hb => ?_)
        · replace h := bif_t hb h
          refine tri_skip ?_
          show Tri _ _ _ _
          refine tri_seq ?_
          refine tri_block ?_
          refine tri_region (by exact tokW) (by exact gok) [] [16] rfl ?_
          obtain ⟨⟨e6_kind, e6_text, e6_cols, e6_kids⟩, he6, h⟩ := bind_out h
          refine And.intro (at_ok Nd.encs_eq he6).1 ?_
          intro r7 hr7
          obtain rfl : [.int .i64 e6_kind, .str e6_text, .int .i64 e6_cols, .sl 4 (Nd.encs e6_kids)] = r7 := (hr7.trans (at_ok Nd.encs_eq he6).2.1).symm
          obtain ⟨y8, hy8, h⟩ := bind_out h
          refine ⟨_, ⟨_, _, hy8, rfl, rfl⟩, ?_⟩
          show Tri _ _ _ _
          refine tri_region (by exact tokW) (by exact gok) [] [] rfl ?_
          refine ⟨(k, (if out2 < y8 then y8 else out2), IntKind.i64.wrap (i3 + 1)), h, (Le.forget _ ⟨rfl, rfl, rfl, trivial⟩), Nat.lt_succ_self k⟩
        · replace h := bif_f hb h
          refine tri_exit ?_
          cases h
          exact (Le.forget _ ⟨rfl, trivial⟩)
  · show Tri _ _ _ _
    refine tri_le hle ?_
    refine tri_seq ?_
    refine tri_region (by exact tokW) (by exact gok) [] [] rfl ?_
    show Tri _ _ _ _
    refine tri_ret ?_
    have hy := Option.some.inj h
    subst hy
    unfold Gives
    exact ⟨_, Le.refl _ _, rfl, rfl⟩
theorem all_r09_Depth : ∀ n, PSound Tryd.prog 31 (pspec (R_r09_Depth n)) := by
  intro n
  induction n with
  | zero => exact psound_none Tryd.call31 (fun xs r h => by obtain ⟨_, _, h, _⟩ := h; cases h)
  | succ n ih => exact step_r09_Depth n ih
def S_r09_Depth : PSpec := pspec fun xs r => ∃ n, R_r09_Depth n xs r
theorem ok_r09_Depth : PSound Tryd.prog 31 S_r09_Depth := psound_all all_r09_Depth

/- vinculum/vinculumref09.Valid -/
def R_r09_Valid (n : Nat) (xs : List AV) (r : Ret) : Prop := ∃ (a0 : Nd) (y0 : Bool), m_r09_Valid n a0 = some y0 ∧ xs = [.agg ((Nd.enc a0).map .s)] ∧ r = .val (.s (.bool y0))
def S_r09_Valid : PSpec := pspec fun xs r => ∃ n, R_r09_Valid n xs r
set_option maxHeartbeats 2000000 in
set_option maxRecDepth 100000 in
theorem ok_r09_Valid : PSound Tryd.prog 24 S_r09_Valid := by
  have gok : ∀ f s, look? f [(60, S_r09_form), (29, S_r09_Count), (31, S_r09_Depth)] = some s → PSound Tryd.prog f s := look_all (by
    simp only [List.forall_mem_cons]
    exact ⟨ok_r09_form, ok_r09_Count, ok_r09_Depth, by simp⟩)
  refine psound tokW Tryd.call24 Tryd.func24 rfl (fun xs r h => by obtain ⟨n, _, _, _, rfl, _⟩ := h; show 1 ≤ 20; decide) 20 rfl ?_
  rintro xs r w0 G0 ⟨n, ⟨n1_kind, n1_text, n1_cols, n1_kids⟩, y0, h, rfl, rfl⟩ _
  rw [m_r09_Valid] at h
  refine tri_seq ?_
  refine tri_region (by exact tokW) (by exact gok) [] [] rfl ?_
  show Tri _ _ _ _
  refine tri_seq ?_
  obtain ⟨x2, hj, h⟩ := bind_out h
  refine tri_post ⟨ofL [(2, .s (.bool x2))], fun _ => none, 0⟩ ?_ (fun σ' hle => ?_)
  · replace h := hj
    refine tri_region (by exact tokW) (by exact gok) [] [6, 10, 15] rfl ?_
    intro b hb
    cases b with
    | true =>
      replace h := bif_t hb.symm h
      obtain ⟨y3, hy3, h⟩ := bind_out h
      refine ⟨_, ⟨_, _, _, hy3, rfl, rfl⟩, ?_⟩
      intro b hb
      cases b with
      | true =>
        replace h := bif_t hb.symm h
        obtain ⟨y4, hy4, h⟩ := bind_out h
        refine ⟨_, ⟨_, _, _, hy4, rfl, rfl⟩, ?_⟩
        intro b hb
        cases b with
        | true =>
          replace h := bif_t hb.symm h
          obtain ⟨y5, hy5, h⟩ := bind_out h
          refine ⟨_, ⟨_, _, _, hy5, rfl, rfl⟩, ?_⟩
          cases h
          exact (Le.forget _ ⟨rfl, trivial⟩)
        | false =>
          replace h := bif_f hb.symm h
          cases h
          exact (Le.forget _ ⟨rfl, trivial⟩)
      | false =>
        replace h := bif_f hb.symm h
        intro b hb
        subst hb
        cases h
        exact (Le.forget _ ⟨rfl, trivial⟩)
    | false =>
      replace h := bif_f hb.symm h
      intro b hb
      subst hb
      intro b hb
      subst hb
      cases h
      exact (Le.forget _ ⟨rfl, trivial⟩)
  · show Tri _ _ _ _
    refine tri_le hle ?_
    refine tri_ret ?_
    have hy := Option.some.inj h
    subst hy
    unfold Gives
    exact ⟨_, Le.refl _ _, rfl, rfl⟩

/- vinculum/node.ValidItems -/
def R_node_ValidItems (n : Nat) (xs : List AV) (r : Ret) : Prop := ∃ (a0 : List Nd) (y0 : Bool), m_node_ValidItems n a0 = some y0 ∧ xs = [.s (.sl 4 (Nd.encs a0))] ∧ r = .val (.s (.bool y0))
def S_node_ValidItems : PSpec := pspec fun xs r => ∃ n, R_node_ValidItems n xs r
set_option maxHeartbeats 2000000 in
set_option maxRecDepth 100000 in
theorem ok_node_ValidItems : PSound Tryd.prog 25 S_node_ValidItems := by
  have gok : ∀ f s, look? f [(23, S_node_Valid)] = some s → PSound Tryd.prog f s := look_all (by
    simp only [List.forall_mem_cons]
    exact ⟨ok_node_Valid, by simp⟩)
  refine psound tokW Tryd.call25 Tryd.func25 rfl (fun xs r h => by obtain ⟨n, _, _, _, rfl, _⟩ := h; show 1 ≤ 6; decide) 6 rfl ?_
  rintro xs r w0 G0 ⟨n, l1, y0, h, rfl, rfl⟩ _
  rw [m_node_ValidItems] at h
  refine tri_seq ?_
  refine tri_region (by exact tokW) (by exact gok) [] [] rfl ?_
  show Tri _ _ _ _
  refine tri_seq ?_
  refine tri_region (by exact tokW) (by exact gok) [] [] rfl ?_
  obtain ⟨y2, hy2, h⟩ := bind_out h
  refine ⟨_, ⟨_, _, _, hy2, rfl, rfl⟩, ?_⟩
  show Tri _ _ _ _
  refine tri_ret ?_
  have hy := Option.some.inj h
  subst hy
  unfold Gives
  exact ⟨_, Le.refl _ _, rfl, rfl⟩

/- vinculum/vinculumref09.ToRow -/
def R_r09_ToRow (xs : List AV) (r : Ret) : Prop := ∃ (a0 : List Nd) (y0 : Nd), m_r09_ToRow a0 = some y0 ∧ xs = [.s (.sl 4 (Nd.encs a0))] ∧ r = .val (.agg ((Nd.enc y0).map .s))
def S_r09_ToRow : PSpec := pspec fun xs r => R_r09_ToRow xs r
set_option maxHeartbeats 2000000 in
set_option maxRecDepth 100000 in
theorem ok_r09_ToRow : PSound Tryd.prog 61 S_r09_ToRow := by
  have gok : ∀ (f : Nat) (s : PSpec), (fun _ => none : Nat → Option PSpec) f = some s → PSound Tryd.prog f s := fun _ _ h => by cases h
  refine psound tokW Tryd.call61 Tryd.func61 rfl (fun xs r h => by obtain ⟨_, _, _, rfl, _⟩ := h; show 1 ≤ 5; decide) 5 rfl ?_
  rintro xs r w0 G0 ⟨l1, y0, h, rfl, rfl⟩ _
  rw [m_r09_ToRow] at h
  refine tri_seq ?_
  refine tri_region (by exact tokW) (by exact gok) [2] [] rfl ?_
  show Tri _ _ _ _
  refine tri_seq ?_
  refine tri_region (by exact tokW) (by exact gok) [] [] rfl ?_
  show Tri _ _ _ _
  refine tri_ret ?_
  have hy := Option.some.inj h
  subst hy
  unfold Gives
  exact ⟨_, Le.refl _ _, rfl, rfl⟩

/- vinculum/vinculumref09.ValidItems -/
def R_r09_ValidItems (n : Nat) (xs : List AV) (r : Ret) : Prop := ∃ (a0 : List Nd) (y0 : Bool), m_r09_ValidItems n a0 = some y0 ∧ xs = [.s (.sl 4 (Nd.encs a0))] ∧ r = .val (.s (.bool y0))
def S_r09_ValidItems : PSpec := pspec fun xs r => ∃ n, R_r09_ValidItems n xs r
set_option maxHeartbeats 2000000 in
set_option maxRecDepth 100000 in
theorem ok_r09_ValidItems : PSound Tryd.prog 26 S_r09_ValidItems := by
  have gok : ∀ f s, look? f [(61, S_r09_ToRow), (24, S_r09_Valid)] = some s → PSound Tryd.prog f s := look_all (by
    simp only [List.forall_mem_cons]
    exact ⟨ok_r09_ToRow, ok_r09_Valid, by simp⟩)
  refine psound tokW Tryd.call26 Tryd.func26 rfl (fun xs r h => by obtain ⟨n, _, _, _, rfl, _⟩ := h; show 1 ≤ 6; decide) 6 rfl ?_
  rintro xs r w0 G0 ⟨n, l1, y0, h, rfl, rfl⟩ _
  rw [m_r09_ValidItems] at h
  refine tri_seq ?_
  refine tri_region (by exact tokW) (by exact gok) [] [] rfl ?_
  show Tri _ _ _ _
  refine tri_seq ?_
  refine tri_region (by exact tokW) (by exact gok) [] [] rfl ?_
  obtain ⟨⟨y2_kind, y2_text, y2_cols, y2_kids⟩, hy2, h⟩ := bind_out h
  refine ⟨_, ⟨_, _, hy2, rfl, rfl⟩, ?_⟩
  obtain ⟨y3, hy3, h⟩ := bind_out h
  refine ⟨_, ⟨_, _, _, hy3, rfl, rfl⟩, ?_⟩
  show Tri _ _ _ _
  refine tri_ret ?_
  have hy := Option.some.inj h
  subst hy
  unfold Gives
  exact ⟨_, Le.refl _ _, rfl, rfl⟩

/- vinculum/vinculumlaw09.NodeValid -/
def R_l09_NodeValid (n : Nat) (xs : List AV) (r : Ret) : Prop := ∃ (a0 : Nd) (y0 : Bool), m_l09_NodeValid n a0 = some y0 ∧ xs = [.agg ((Nd.enc a0).map .s)] ∧ r = .val (.s (.bool y0))
def S_l09_NodeValid : PSpec := pspec fun xs r => ∃ n, R_l09_NodeValid n xs r
set_option maxHeartbeats 2000000 in
set_option maxRecDepth 100000 in
theorem ok_l09_NodeValid : PSound Tryd.prog 5 S_l09_NodeValid := by
  have gok : ∀ f s, look? f [(11, S_l09_awake), (20, S_r09_Few), (21, S_node_Slots), (22, S_r09_Slots), (23, S_node_Valid), (24, S_r09_Valid), (25, S_node_ValidItems), (26, S_r09_ValidItems)] = some s → PSound Tryd.prog f s := look_all (by
    simp only [List.forall_mem_cons]
    exact ⟨ok_l09_awake, ok_r09_Few, ok_node_Slots, ok_r09_Slots, ok_node_Valid, ok_r09_Valid, ok_node_ValidItems, ok_r09_ValidItems, by simp⟩)
  refine psound tokW Tryd.call5 Tryd.func5 rfl (fun xs r h => by obtain ⟨n, _, _, _, rfl, _⟩ := h; show 1 ≤ 47; decide) 47 rfl ?_
  rintro xs r w0 G0 ⟨n, ⟨n1_kind, n1_text, n1_cols, n1_kids⟩, y0, h, rfl, rfl⟩ _
  rw [m_l09_NodeValid] at h
  refine tri_seq ?_
  refine tri_region (by exact tokW) (by exact gok) [] [] rfl ?_
  show Tri _ _ _ _
  refine tri_seq ?_
  refine tri_seq ?_
  obtain ⟨x2, hj, h⟩ := bind_out h
  refine tri_post ⟨ofL [(1, .s (.pt [.int .i64 n1_kind, .str n1_text, .int .i64 n1_cols, .sl 4 (Nd.encs n1_kids)])), (11, .s (.bool x2))], fun _ => none, 0⟩ ?_ (fun σ' hle => ?_)
  · replace h := hj
    refine tri_region (by exact tokW) (by exact gok) [] [7] rfl ?_
    obtain ⟨y3, hy3, h⟩ := bind_out h
    refine ⟨_, ⟨_, _, hy3, rfl, rfl⟩, ?_⟩
    intro b hb
    cases b with
    | true =>
      replace h := bif_t hb.symm h
      cases h
      exact (Le.forget _ ⟨rfl, rfl, trivial⟩)
    | false =>
      replace h := bif_f hb.symm h
      obtain ⟨y4, hy4, h⟩ := bind_out h
      refine ⟨_, ⟨_, _, _, _, hy4, rfl, rfl⟩, ?_⟩
      cases h
      exact (Le.forget _ ⟨rfl, rfl, trivial⟩)
  · show Tri _ _ _ _
    refine tri_le hle ?_
    refine tri_cond rfl (fun hb => ?_) (fun hb => ?_)
    · replace h := bif_t hb h
      refine tri_seq ?_
      refine tri_region (by exact tokW) (by exact gok) [] [] rfl ?_
      obtain ⟨y5, hy5, h⟩ := bind_out h
      refine ⟨_, ⟨_, _, hy5, rfl, rfl⟩, ?_⟩
      show Tri _ _ _ _
      refine tri_ret ?_
      have hy := Option.some.inj h
      subst hy
      unfold Gives
      exact ⟨_, Le.refl _ _, rfl, rfl⟩
    · replace h := bif_f hb h
      refine tri_skip ?_
      show Tri _ _ _ _
      refine tri_seq ?_
      refine tri_seq ?_
      refine tri_region (by exact tokW) (by exact gok) [] [15] rfl ?_
      intro n6 hn6
      obtain rfl : (n1_kids.length : Int) = n6 := (hn6.trans (congrArg (fun m : Nat => (m : Int)) (rlen Nd.encs_eq n1_kids))).symm
      show Tri _ _ _ _
      obtain ⟨fl, hl, ho1⟩ := bind_out h
      refine tri_fl (fl := fl) (fun z => match z with | _ => ⟨ofL [(1, .s (.pt [.int .i64 n1_kind, .str n1_text, .int .i64 n1_cols, .sl 4 (Nd.encs n1_kids)]))], fun _ => none, 0⟩) ?_ (fun z σ' hz hle => ?_)
      · refine tri_block (tri_loopI (X := Nat × Int) (fun y => match y with | (k, x7) => ⟨ofL [(1, .s (.pt [.int .i64 n1_kind, .str n1_text, .int .i64 n1_cols, .sl 4 (Nd.encs n1_kids)])), (14, .s (.sl 4 (Nd.encs n1_kids))), (15, .s (.int .i64 (n1_kids.length : Int))), (16, .s (.int .i64 x7))], fun _ => none, 0⟩) (fun y => m_l09_NodeValid_l1 n1_kids y.1 y.2 = some fl) (fun y => y.1) (n, 0) hl ?_ ?_)
        · exact (Le.forget _ ⟨rfl, rfl, rfl, rfl, trivial⟩)
        · rintro ⟨k, x7⟩ h
          cases k with
          | zero => cases h
          | succ k =>
            replace h : m_l09_NodeValid_l1 n1_kids (k+1) x7 = some fl := h
            rw [m_l09_NodeValid_l1] at h
            refine tri_seq ?_
            refine tri_region (by exact tokW) (by exact gok) [] [] rfl ?_
            show Tri _ _ _ _
            refine tri_seq ?_
            refine tri_cond rfl (fun hb => ?_) (fun hb => ?_)
            · replace h := bif_t hb h
              refine tri_skip ?_
              show Tri _ _ _ _
              refine tri_seq ?_
              refine tri_block ?_
              refine tri_seq ?_
              refine tri_region (by exact tokW) (by exact gok) [4] [18] rfl ?_
              obtain ⟨⟨e8_kind, e8_text, e8_cols, e8_kids⟩, he8, h⟩ := bind_out h
              refine And.intro (at_ok Nd.encs_eq he8).1 ?_
              intro r9 hr9
              obtain rfl : [.int .i64 e8_kind, .str e8_text, .int .i64 e8_cols, .sl 4 (Nd.encs e8_kids)] = r9 := (hr9.trans (at_ok Nd.encs_eq he8).2.1).symm
              show Tri _ _ _ _
              refine tri_le (Le.giveBox 0 [.int .i64 e8_kind, .str e8_text, .int .i64 e8_cols, .sl 4 (Nd.encs e8_kids)] rfl rfl) ?_
              refine tri_seq ?_
              refine tri_drawn (by exact tokW) (by exact gok) (by exact mixed) [] [] [] rfl (by decide +kernel) ?_
              obtain ⟨y10, hy10, h⟩ := bind_out h
              refine ⟨_, ⟨_, _, hy10, rfl, rfl⟩, ?_⟩
              obtain ⟨y11, hy11, h⟩ := bind_out h
              refine ⟨_, ⟨_, _, hy11, rfl, rfl⟩, ?_⟩
              show Tri _ _ _ _
              refine tri_cond rfl (fun hb => ?_) (fun hb => ?_)
              · replace h := bif_t hb h
                refine tri_seq ?_
                refine tri_region (by exact tokW) (by exact gok) [] [] rfl ?_
                show Tri _ _ _ _
                refine tri_ret ?_
                cases h
                replace h : some _ = some _ := ho1
                have hy := Option.some.inj h
                subst hy
                unfold Gives
                exact ⟨_, Le.refl _ _, rfl, rfl⟩
              · replace h := bif_f hb h
                refine tri_skip ?_
                show Tri _ _ _ _
                refine tri_region (by exact tokW) (by exact gok) [] [] rfl ?_
                refine ⟨(k, IntKind.i64.wrap (x7 + 1)), h, (Le.rename [] _ [] 0 ⟨rfl, rfl, rfl, rfl, trivial⟩ trivial rfl rfl rfl rfl rfl), Nat.lt_succ_self k⟩
            · replace h := bif_f hb h
              refine tri_exit ?_
              cases h
              exact ⟨_, rfl, (Le.forget _ ⟨rfl, trivial⟩)⟩
      · subst hz
        obtain _ := z
        replace h := ho1
        show Tri _ _ _ _
        refine tri_le hle ?_
        refine tri_seq ?_
        obtain ⟨x12, hj, h⟩ := bind_out h
        refine tri_post ⟨ofL [(2, .s (.bool x12))], fun _ => none, 0⟩ ?_ (fun σ' hle => ?_)
        · replace h := hj
          refine tri_drawn (by exact tokW) (by exact gok) (by exact mixed) [] [31, 40] [] rfl (by decide +kernel) ?_
          obtain ⟨y13, hy13, h⟩ := bind_out h
          refine ⟨_, ⟨_, _, _, hy13, rfl, rfl⟩, ?_⟩
          obtain ⟨y14, hy14, h⟩ := bind_out h
          refine ⟨_, ⟨_, _, _, hy14, rfl, rfl⟩, ?_⟩
          intro b hb
          cases b with
          | true =>
            replace h := bif_t hb.symm h
            obtain ⟨y15, hy15, h⟩ := bind_out h
            refine ⟨_, ⟨_, _, _, hy15, rfl, rfl⟩, ?_⟩
            obtain ⟨y16, hy16, h⟩ := bind_out h
            refine ⟨_, ⟨_, _, _, hy16, rfl, rfl⟩, ?_⟩
            intro b hb
            cases b with
            | true =>
              replace h := bif_t hb.symm h
              obtain ⟨y17, hy17, h⟩ := bind_out h
              refine ⟨_, ⟨_, _, hy17, rfl, rfl⟩, ?_⟩
              obtain ⟨y18, hy18, h⟩ := bind_out h
              refine ⟨_, ⟨_, _, hy18, rfl, rfl⟩, ?_⟩
              cases h
              exact (Le.forget _ ⟨rfl, trivial⟩)
            | false =>
              replace h := bif_f hb.symm h
              cases h
              exact (Le.forget _ ⟨rfl, trivial⟩)
          | false =>
            replace h := bif_f hb.symm h
            intro b hb
            subst hb
            cases h
            exact (Le.forget _ ⟨rfl, trivial⟩)
        · show Tri _ _ _ _
          refine tri_le hle ?_
          refine tri_ret ?_
          have hy := Option.some.inj h
          subst hy
          unfold Gives
          exact ⟨_, Le.refl _ _, rfl, rfl⟩

/- a knot: vinculum/node.Equal, slices.EqualFunc[[]vinculum/api.Node,[]vinculum/api.Node,vinculum/api.Node,vinculum/api.Node] -/
def R_node_Equal (n : Nat) (xs : List AV) (r : Ret) : Prop := ∃ (a0 : Nd) (a1 : Nd) (y0 : Bool), m_node_Equal n a0 a1 = some y0 ∧ xs = [.agg ((Nd.enc a0).map .s), .agg ((Nd.enc a1).map .s)] ∧ r = .val (.s (.bool y0))
def R_slices_EqualFunc_sNode (n : Nat) (xs : List AV) (r : Ret) : Prop := ∃ (a0 : List Nd) (a1 : List Nd) (y0 : Bool), m_slices_EqualFunc_sNode n a0 a1 = some y0 ∧ xs = [.s (.sl 4 (Nd.encs a0)), .s (.sl 4 (Nd.encs a1)), .s (.fn 27)] ∧ r = .val (.s (.bool y0))
set_option maxHeartbeats 2000000 in
set_option maxRecDepth 100000 in
theorem step_node_Equal (n : Nat) (ih_node_Equal : PSound Tryd.prog 27 (pspec (R_node_Equal n))) (ih_slices_EqualFunc_sNode : PSound Tryd.prog 62 (pspec (R_slices_EqualFunc_sNode n))) : PSound Tryd.prog 27 (pspec (R_node_Equal (n + 1))) := by
  have gok : ∀ f s, look? f [(62, pspec (R_slices_EqualFunc_sNode n))] = some s → PSound Tryd.prog f s := look_all (by
    simp only [List.forall_mem_cons]
    exact ⟨ih_slices_EqualFunc_sNode, by simp⟩)
  refine psound tokW Tryd.call27 Tryd.func27 rfl (fun xs r h => by obtain ⟨_, _, _, _, rfl, _⟩ := h; show 2 ≤ 31; decide) 31 rfl ?_
  rintro xs r w0 G0 ⟨⟨a1_kind, a1_text, a1_cols, a1_kids⟩, ⟨b2_kind, b2_text, b2_cols, b2_kids⟩, y0, h, rfl, rfl⟩ _
  rw [m_node_Equal] at h
  refine tri_seq ?_
  refine tri_region (by exact tokW) (by exact gok) [] [] rfl ?_
  show Tri _ _ _ _
  refine tri_seq ?_
  obtain ⟨x3, hj, h⟩ := bind_out h
  refine tri_post ⟨ofL [(4, .s (.bool x3))], fun _ => none, 0⟩ ?_ (fun σ' hle => ?_)
  · replace h := hj
    refine tri_region (by exact tokW) (by exact gok) [] [10, 17, 24] rfl ?_
    intro b hb
    cases b with
    | true =>
      replace h := bif_t hb.symm h
      intro b hb
      cases b with
      | true =>
        replace h := bif_t hb.symm h
        intro b hb
        cases b with
        | true =>
          replace h := bif_t hb.symm h
          obtain ⟨y4, hy4, h⟩ := bind_out h
          refine ⟨_, ⟨_, _, _, hy4, rfl, rfl⟩, ?_⟩
          cases h
          exact (Le.forget _ ⟨rfl, trivial⟩)
        | false =>
          replace h := bif_f hb.symm h
          cases h
          exact (Le.forget _ ⟨rfl, trivial⟩)
      | false =>
        replace h := bif_f hb.symm h
        intro b hb
        subst hb
        cases h
        exact (Le.forget _ ⟨rfl, trivial⟩)
    | false =>
      replace h := bif_f hb.symm h
      intro b hb
      subst hb
      intro b hb
      subst hb
      cases h
      exact (Le.forget _ ⟨rfl, trivial⟩)
  · show Tri _ _ _ _
    refine tri_le hle ?_
    refine tri_ret ?_
    have hy := Option.some.inj h
    subst hy
    unfold Gives
    exact ⟨_, Le.refl _ _, rfl, rfl⟩
set_option maxHeartbeats 2000000 in
set_option maxRecDepth 100000 in
theorem step_slices_EqualFunc_sNode (n : Nat) (ih_node_Equal : PSound Tryd.prog 27 (pspec (R_node_Equal n))) (ih_slices_EqualFunc_sNode : PSound Tryd.prog 62 (pspec (R_slices_EqualFunc_sNode n))) : PSound Tryd.prog 62 (pspec (R_slices_EqualFunc_sNode (n + 1))) := by
  have gok : ∀ f s, look? f [(27, pspec (R_node_Equal n))] = some s → PSound Tryd.prog f s := look_all (by
    simp only [List.forall_mem_cons]
    exact ⟨ih_node_Equal, by simp⟩)
  refine psound tokW Tryd.call62 Tryd.func62 rfl (fun xs r h => by obtain ⟨_, _, _, _, rfl, _⟩ := h; show 3 ≤ 32; decide) 32 rfl ?_
  rintro xs r w0 G0 ⟨s11, s22, y0, h, rfl, rfl⟩ _
  rw [m_slices_EqualFunc_sNode] at h
  refine tri_seq ?_
  refine tri_region (by exact tokW) (by exact gok) [] [] rfl ?_
  show Tri _ _ _ _
  refine tri_seq ?_
  refine tri_seq ?_
  refine tri_region (by exact tokW) (by exact gok) [] [11, 13] rfl ?_
  intro n3 hn3
  obtain rfl : (s11.length : Int) = n3 := (hn3.trans (congrArg (fun m : Nat => (m : Int)) (rlen Nd.encs_eq s11))).symm
  intro n4 hn4
  obtain rfl : (s22.length : Int) = n4 := (hn4.trans (congrArg (fun m : Nat => (m : Int)) (rlen Nd.encs_eq s22))).symm
  show Tri _ _ _ _
  refine tri_cond rfl (fun hb => ?_) (fun hb => ?_)
  · replace h := bif_t hb h
    refine tri_seq ?_
    refine tri_region (by exact tokW) (by exact gok) [] [] rfl ?_
    show Tri _ _ _ _
    refine tri_ret ?_
    have hy := Option.some.inj h
    subst hy
    unfold Gives
    exact ⟨_, Le.refl _ _, rfl, rfl⟩
  · replace h := bif_f hb h
    refine tri_skip ?_
    show Tri _ _ _ _
    refine tri_seq ?_
    refine tri_seq ?_
    refine tri_region (by exact tokW) (by exact gok) [] [16] rfl ?_
    intro n5 hn5
    obtain rfl : (s11.length : Int) = n5 := (hn5.trans (congrArg (fun m : Nat => (m : Int)) (rlen Nd.encs_eq s11))).symm
    show Tri _ _ _ _
    obtain ⟨fl, hl, ho1⟩ := bind_out h
    refine tri_fl (fl := fl) (fun z => match z with | _ => ⟨ofL [], fun _ => none, 0⟩) ?_ (fun z σ' hz hle => ?_)
    · refine tri_block (tri_loopI (X := Nat × Int) (fun y => match y with | (k, x6) => ⟨ofL [(1, .s (.sl 4 (Nd.encs s22))), (2, .s (.fn 27)), (15, .s (.sl 4 (Nd.encs s11))), (16, .s (.int .i64 (s11.length : Int))), (17, .s (.int .i64 x6))], fun _ => none, 0⟩) (fun y => m_slices_EqualFunc_sNode_l1 (m_node_Equal n) s11 s22 y.1 y.2 = some fl) (fun y => y.1) (n, 0) hl ?_ ?_)
      · exact (Le.forget _ ⟨rfl, rfl, rfl, rfl, rfl, trivial⟩)
      · rintro ⟨k, x6⟩ h
        cases k with
        | zero => cases h
        | succ k =>
          replace h : m_slices_EqualFunc_sNode_l1 (m_node_Equal n) s11 s22 (k+1) x6 = some fl := h
          rw [m_slices_EqualFunc_sNode_l1] at h
          refine tri_seq ?_
          refine tri_region (by exact tokW) (by exact gok) [] [] rfl ?_
          show Tri _ _ _ _
          refine tri_seq ?_
          refine tri_cond rfl (fun hb => ?_) (fun hb => ?_)
          · replace h := bif_t hb h
            refine tri_skip ?_
            show Tri _ _ _ _
            refine tri_seq ?_
            refine tri_block ?_
            refine tri_seq ?_
            refine tri_region (by exact tokW) (by exact gok) [8] [20] rfl ?_
            obtain ⟨⟨e7_kind, e7_text, e7_cols, e7_kids⟩, he7, h⟩ := bind_out h
            refine And.intro (at_ok Nd.encs_eq he7).1 ?_
            intro r8 hr8
            obtain rfl : [.int .i64 e7_kind, .str e7_text, .int .i64 e7_cols, .sl 4 (Nd.encs e7_kids)] = r8 := (hr8.trans (at_ok Nd.encs_eq he7).2.1).symm
            show Tri _ _ _ _
            refine tri_le (Le.giveBox 0 [.int .i64 e7_kind, .str e7_text, .int .i64 e7_cols, .sl 4 (Nd.encs e7_kids)] rfl rfl) ?_
            refine tri_seq ?_
            refine tri_region (by exact tokW) (by exact gok) [9] [24] rfl ?_
            obtain ⟨⟨e9_kind, e9_text, e9_cols, e9_kids⟩, he9, h⟩ := bind_out h
            refine And.intro (at_ok Nd.encs_eq he9).1 ?_
            intro r10 hr10
            obtain rfl : [.int .i64 e9_kind, .str e9_text, .int .i64 e9_cols, .sl 4 (Nd.encs e9_kids)] = r10 := (hr10.trans (at_ok Nd.encs_eq he9).2.1).symm
            show Tri _ _ _ _
            refine tri_le (Le.giveBox 1 [.int .i64 e9_kind, .str e9_text, .int .i64 e9_cols, .sl 4 (Nd.encs e9_kids)] rfl rfl) ?_
            refine tri_seq ?_
            refine tri_region (by exact tokW) (by exact gok) [] [] rfl ?_
            obtain ⟨y11, hy11, h⟩ := bind_out h
            refine ⟨_, ⟨_, _, _, hy11, rfl, rfl⟩, ?_⟩
            show Tri _ _ _ _
            refine tri_cond rfl (fun hb => ?_) (fun hb => ?_)
            · replace h := bif_t hb h
              refine tri_seq ?_
              refine tri_region (by exact tokW) (by exact gok) [] [] rfl ?_
              show Tri _ _ _ _
              refine tri_ret ?_
              cases h
              replace h : some _ = some _ := ho1
              have hy := Option.some.inj h
              subst hy
              unfold Gives
              exact ⟨_, Le.refl _ _, rfl, rfl⟩
            · replace h := bif_f hb h
              refine tri_skip ?_
              show Tri _ _ _ _
              refine tri_region (by exact tokW) (by exact gok) [] [] rfl ?_
              refine ⟨(k, IntKind.i64.wrap (x6 + 1)), h, (Le.rename [] _ [] 0 ⟨rfl, rfl, rfl, rfl, rfl, trivial⟩ trivial rfl rfl rfl rfl rfl), Nat.lt_succ_self k⟩
          · replace h := bif_f hb h
            refine tri_exit ?_
            cases h
            exact ⟨_, rfl, (Le.forget _ trivial)⟩
    · subst hz
      obtain _ := z
      replace h := ho1
      show Tri _ _ _ _
      refine tri_le hle ?_
      refine tri_seq ?_
      refine tri_region (by exact tokW) (by exact gok) [] [] rfl ?_
      show Tri _ _ _ _
      refine tri_ret ?_
      have hy := Option.some.inj h
      subst hy
      unfold Gives
      exact ⟨_, Le.refl _ _, rfl, rfl⟩
theorem alls_node_Equal : ∀ n, PSound Tryd.prog 27 (pspec (R_node_Equal n)) ∧ PSound Tryd.prog 62 (pspec (R_slices_EqualFunc_sNode n)) := by
  intro n
  induction n with
  | zero =>
    refine ⟨?_, ?_⟩
    · exact psound_none Tryd.call27 (fun xs r h => by obtain ⟨_, _, _, h, _⟩ := h; rw [m_node_Equal] at h; cases h)
    · exact psound_none Tryd.call62 (fun xs r h => by obtain ⟨_, _, _, h, _⟩ := h; rw [m_slices_EqualFunc_sNode] at h; cases h)
  | succ n ih =>
    obtain ⟨ih_node_Equal, ih_slices_EqualFunc_sNode⟩ := ih
    exact ⟨step_node_Equal n ih_node_Equal ih_slices_EqualFunc_sNode, step_slices_EqualFunc_sNode n ih_node_Equal ih_slices_EqualFunc_sNode⟩
def S_node_Equal : PSpec := pspec fun xs r => ∃ n, R_node_Equal n xs r
theorem ok_node_Equal : PSound Tryd.prog 27 S_node_Equal := psound_all (fun n => (alls_node_Equal n).1)
def S_slices_EqualFunc_sNode : PSpec := pspec fun xs r => ∃ n, R_slices_EqualFunc_sNode n xs r
theorem ok_slices_EqualFunc_sNode : PSound Tryd.prog 62 S_slices_EqualFunc_sNode := psound_all (fun n => (alls_node_Equal n).2)

/- vinculum/vinculumlaw09.NodeEqual -/
def R_l09_NodeEqual (n : Nat) (xs : List AV) (r : Ret) : Prop := ∃ (a0 : Nd) (a1 : Nd) (y0 : Bool), m_l09_NodeEqual n a0 a1 = some y0 ∧ xs = [.agg ((Nd.enc a0).map .s), .agg ((Nd.enc a1).map .s)] ∧ r = .val (.s (.bool y0))
def S_l09_NodeEqual : PSpec := pspec fun xs r => ∃ n, R_l09_NodeEqual n xs r
set_option maxHeartbeats 2000000 in
set_option maxRecDepth 100000 in
theorem ok_l09_NodeEqual : PSound Tryd.prog 6 S_l09_NodeEqual := by
  have gok : ∀ f s, look? f [(11, S_l09_awake), (16, S_l09_few), (27, S_node_Equal), (19, S_r09_Equal)] = some s → PSound Tryd.prog f s := look_all (by
    simp only [List.forall_mem_cons]
    exact ⟨ok_l09_awake, ok_l09_few, ok_node_Equal, ok_r09_Equal, by simp⟩)
  refine psound tokW Tryd.call6 Tryd.func6 rfl (fun xs r h => by obtain ⟨n, _, _, _, _, rfl, _⟩ := h; show 2 ≤ 39; decide) 39 rfl ?_
  rintro xs r w0 G0 ⟨n, ⟨a1_kind, a1_text, a1_cols, a1_kids⟩, ⟨b2_kind, b2_text, b2_cols, b2_kids⟩, y0, h, rfl, rfl⟩ _
  rw [m_l09_NodeEqual] at h
  refine tri_seq ?_
  refine tri_region (by exact tokW) (by exact gok) [] [] rfl ?_
  show Tri _ _ _ _
  refine tri_seq ?_
  refine tri_seq ?_
  obtain ⟨x3, hj, h⟩ := bind_out h
  refine tri_post ⟨ofL [(2, .s (.pt [.int .i64 a1_kind, .str a1_text, .int .i64 a1_cols, .sl 4 (Nd.encs a1_kids)])), (3, .s (.pt [.int .i64 b2_kind, .str b2_text, .int .i64 b2_cols, .sl 4 (Nd.encs b2_kids)])), (17, .s (.bool x3))], fun _ => none, 0⟩ ?_ (fun σ' hle => ?_)
  · replace h := hj
    refine tri_region (by exact tokW) (by exact gok) [] [8, 13] rfl ?_
    obtain ⟨y4, hy4, h⟩ := bind_out h
    refine ⟨_, ⟨_, _, hy4, rfl, rfl⟩, ?_⟩
    intro b hb
    cases b with
    | true =>
      replace h := bif_t hb.symm h
      intro b hb
      subst hb
      cases h
      exact (Le.forget _ ⟨rfl, rfl, rfl, trivial⟩)
    | false =>
      replace h := bif_f hb.symm h
      obtain ⟨y5, hy5, h⟩ := bind_out h
      refine ⟨_, ⟨_, _, _, hy5, rfl, rfl⟩, ?_⟩
      intro b hb
      cases b with
      | true =>
        replace h := bif_t hb.symm h
        cases h
        exact (Le.forget _ ⟨rfl, rfl, rfl, trivial⟩)
      | false =>
        replace h := bif_f hb.symm h
        obtain ⟨y6, hy6, h⟩ := bind_out h
        refine ⟨_, ⟨_, _, _, hy6, rfl, rfl⟩, ?_⟩
        cases h
        exact (Le.forget _ ⟨rfl, rfl, rfl, trivial⟩)
  · show Tri _ _ _ _
    refine tri_le hle ?_
    refine tri_cond rfl (fun hb => ?_) (fun hb => ?_)
    · replace h := bif_t hb h
      refine tri_seq ?_
      refine tri_region (by exact tokW) (by exact gok) [] [] rfl ?_
      obtain ⟨y7, hy7, h⟩ := bind_out h
      refine ⟨_, ⟨_, _, hy7, rfl, rfl⟩, ?_⟩
      show Tri _ _ _ _
      refine tri_ret ?_
      have hy := Option.some.inj h
      subst hy
      unfold Gives
      exact ⟨_, Le.refl _ _, rfl, rfl⟩
    · replace h := bif_f hb h
      refine tri_skip ?_
      show Tri _ _ _ _
      refine tri_seq ?_
      refine tri_region (by exact tokW) (by exact gok) [] [] rfl ?_
      obtain ⟨y8, hy8, h⟩ := bind_out h
      refine ⟨_, ⟨_, _, _, _, hy8, rfl, rfl⟩, ?_⟩
      show Tri _ _ _ _
      refine tri_seq ?_
      obtain ⟨x9, hj, h⟩ := bind_out h
      refine tri_post ⟨ofL [(4, .s (.bool x9))], fun _ => none, 0⟩ ?_ (fun σ' hle => ?_)
      · replace h := hj
        refine tri_region (by exact tokW) (by exact gok) [] [27, 34] rfl ?_
        obtain ⟨y10, hy10, h⟩ := bind_out h
        refine ⟨_, ⟨_, _, _, _, hy10, rfl, rfl⟩, ?_⟩
        intro b hb
        cases b with
        | true =>
          replace h := bif_t hb.symm h
          obtain ⟨y11, hy11, h⟩ := bind_out h
          refine ⟨_, ⟨_, _, _, _, hy11, rfl, rfl⟩, ?_⟩
          intro b hb
          cases b with
          | true =>
            replace h := bif_t hb.symm h
            obtain ⟨y12, hy12, h⟩ := bind_out h
            refine ⟨_, ⟨_, _, _, _, hy12, rfl, rfl⟩, ?_⟩
            cases h
            exact (Le.forget _ ⟨rfl, trivial⟩)
          | false =>
            replace h := bif_f hb.symm h
            cases h
            exact (Le.forget _ ⟨rfl, trivial⟩)
        | false =>
          replace h := bif_f hb.symm h
          intro b hb
          subst hb
          cases h
          exact (Le.forget _ ⟨rfl, trivial⟩)
      · show Tri _ _ _ _
        refine tri_le hle ?_
        refine tri_ret ?_
        have hy := Option.some.inj h
        subst hy
        unfold Gives
        exact ⟨_, Le.refl _ _, rfl, rfl⟩

/- vinculum/node.Count$1 -/
def R_node_Count_1 (xs : List AV) (os : List Ob) (x : AV) (os' : List (Option Ob)) : Prop := ∃ (a0 : Int) (a1 : Int) (z0 : Int), m_node_Count_1 a0 a1 = some z0 ∧ xs = [.s (.int .i64 a0), .op 0 0] ∧ os = [.box 3 (((irow .i64) a1).map .s)] ∧ x = .tup [] ∧ os' = [some (.box 3 (((irow .i64) z0).map .s))]
def S_node_Count_1 : PSpec := ospec (fun xs os x os' => R_node_Count_1 xs os x os')
set_option maxHeartbeats 2000000 in
set_option maxRecDepth 100000 in
theorem ok_node_Count_1 : PSound Tryd.prog 64 S_node_Count_1 := by
  have gok : ∀ (f : Nat) (s : PSpec), (fun _ => none : Nat → Option PSpec) f = some s → PSound Tryd.prog f s := fun _ _ h => by cases h
  refine PSound.withNil (osound tokW Tryd.call64 Tryd.func64 rfl (fun xs os x os' h => by obtain ⟨_, _, _, _, rfl, rfl, _, rfl⟩ := h; exact ⟨by show 2 ≤ 5; decide, by show 1 ≤ 1; decide⟩) 5 rfl ?_) _
  rintro xs os x os' w0 G0 B0 ⟨a1, o2, z0, h, rfl, rfl, rfl, rfl⟩ _
  rw [m_node_Count_1] at h
  refine tri_region (by exact tokW) (by exact gok) [] [] rfl ?_
  have hy := Option.some.inj h
  subst hy
  unfold GivesO
  exact ⟨_, (Le.rename [(0, 0)] [] [(0, .box 3 [.s (.int .i64 (IntKind.i64.wrap (o2 + 1)))])] 1 trivial ⟨rfl, ⟨_, rfl, rfl⟩, trivial⟩ rfl rfl rfl rfl rfl), rfl, rfl, rfl, rfl, trivial⟩

/- vinculum/node.each -/
def enc_node_inner (p : (Nd × Int)) : List S := [.pt (Nd.enc p.1), .int .i64 p.2]
def R_node_each (n : Nat) (xs : List AV) (os : List Ob) (x : AV) (os' : List (Option Ob)) : Prop := ∃ (a0 : Nd) (a1 : Int) (z0 : Int), m_node_each n a0 a1 = some z0 ∧ xs = [.s (.pt (Nd.enc a0)), .clo 64 [.op 0 0]] ∧ os = [.box 3 (((irow .i64) a1).map .s)] ∧ x = .tup [] ∧ os' = [some (.box 3 (((irow .i64) z0).map .s))]
def S_node_each : PSpec := ospec (fun xs os x os' => ∃ n, R_node_each n xs os x os')
set_option maxHeartbeats 2000000 in
set_option maxRecDepth 100000 in
theorem ok_node_each : PSound Tryd.prog 63 S_node_each := by
  have gok : ∀ f s, look? f [(64, S_node_Count_1)] = some s → PSound Tryd.prog f s := look_all (by
    simp only [List.forall_mem_cons]
    exact ⟨ok_node_Count_1, by simp⟩)
  refine PSound.withNil (osound tokW Tryd.call63 Tryd.func63 rfl (fun xs os x os' h => by obtain ⟨n, _, _, _, _, rfl, rfl, _, rfl⟩ := h; exact ⟨by show 2 ≤ 52; decide, by show 1 ≤ 1; decide⟩) 52 rfl ?_) _
  rintro xs os x os' w0 G0 B0 ⟨n, ⟨n1_kind, n1_text, n1_cols, n1_kids⟩, o2, z0, h, rfl, rfl, rfl, rfl⟩ _
  rw [m_node_each] at h
  refine tri_seq ?_
  refine tri_region (by exact tokW) (by exact gok) [9] [] rfl ?_
  show Tri _ _ _ _
  refine tri_le (Le.rename [(0, 0), (1, 1)] [(1, .clo 64 [.op 0 0]), (4, .orow 1)] [(0, .box 3 [.s (.int .i64 o2)]), (1, .row 98 2 ((List.map enc_node_inner) [(Nd.mk n1_kind n1_text n1_cols n1_kids, 1)]))] 2 ⟨rfl, rfl, trivial⟩ ⟨rfl, ⟨_, rfl, rfl⟩, rfl, ⟨_, rfl, congrArg (Ob.row 98 2) (by simp [List.map_append, List.map_take, List.map_drop, irow, brow, b8of_row, List.map_cons, List.map_nil, b8of_wrap, Nd.encs_eq, Nd.enc, enc_node_checker, enc_string, enc_node_inner])⟩, trivial⟩ rfl rfl rfl rfl rfl) ?_
  obtain ⟨x6, hl, h⟩ := bind_out h
  refine tri_post ⟨ofL [], ofH [(0, .box 3 [.s (.int .i64 x6)])], 1⟩ ?_ (fun σ' hle => ?_)
  · refine tri_block (tri_loopI (X := Nat × Int × (List (Nd × Int))) (fun y => match y with | (k, x3, l5) => ⟨ofL [(1, .clo 64 [.op 0 0]), (4, .orow 1)], ofH [(0, .box 3 [.s (.int .i64 x3)]), (1, .row 98 2 ((List.map enc_node_inner) l5))], 2⟩) (fun y => m_node_each_l1 n y.1 y.2.1 y.2.2 = some x6) (fun y => y.1) (n, o2, [(Nd.mk n1_kind n1_text n1_cols n1_kids, 1)]) hl ?_ ?_)
    · exact (Le.rename [(0, 0), (1, 1)] _ _ _ ⟨rfl, rfl, trivial⟩ ⟨rfl, ⟨_, rfl, rfl⟩, rfl, ⟨_, rfl, rfl⟩, trivial⟩ rfl rfl rfl rfl rfl)
    · rintro ⟨k, x3, l5⟩ h
      cases k with
      | zero => cases h
      | succ k =>
        replace h : m_node_each_l1 n (k+1) x3 l5 = some x6 := h
        rw [m_node_each_l1] at h
        refine tri_seq ?_
        refine tri_seq ?_
        refine tri_region (by exact tokW) (by exact gok) [] [11] rfl ?_
        intro n7 hn7
        obtain rfl : (l5.length : Int) = n7 := (hn7.trans (congrArg (fun m : Nat => (m : Int)) (rlen (fun _ => rfl) l5))).symm
        show Tri _ _ _ _
        refine tri_cond rfl (fun hb => ?_) (fun hb => ?_)
        · replace h := bif_t hb h
          refine tri_skip ?_
          show Tri _ _ _ _
          refine tri_block ?_
          refine tri_seq ?_
          refine tri_region (by exact tokW) (by exact gok) [5] [15] rfl ?_
          intro n8 hn8
          obtain rfl : (l5.length : Int) = n8 := (hn8.trans (congrArg (fun m : Nat => (m : Int)) (rlen (fun _ => rfl) l5))).symm
          obtain ⟨⟨⟨e9_node_kind, e9_node_text, e9_node_cols, e9_node_kids⟩, e9_depth⟩, he9, h⟩ := bind_out h
          refine And.intro (at_ok (fun _ => rfl) he9).1 ?_
          refine And.intro (at_ok (fun _ => rfl) he9).2.2 ?_
          refine ⟨_, (at_ok (fun _ => rfl) he9).2.1, ?_⟩
          show Tri _ _ _ _
          refine tri_le (Le.giveBox 2 [.pt [.int .i64 e9_node_kind, .str e9_node_text, .int .i64 e9_node_cols, .sl 4 (Nd.encs e9_node_kids)], .int .i64 e9_depth] rfl rfl) ?_
          refine tri_seq ?_
          refine tri_region (by exact tokW) (by exact gok) [23] [21] rfl ?_
          intro n10 hn10
          obtain rfl : (l5.length : Int) = n10 := (hn10.trans (congrArg (fun m : Nat => (m : Int)) (rlen (fun _ => rfl) l5))).symm
          obtain ⟨hq, h⟩ := req_out h
          refine And.intro ⟨hq.1, Int.le_trans hq.2 (Int.ofNat_le.2 (Nat.le_of_eq (rlen (fun _ => rfl) _).symm))⟩ ?_
          show Tri _ _ _ _
          refine tri_le (Le.rename [(0, 0), (3, 1)] [(1, .clo 64 [.op 0 0]), (4, .orow 1), (5, .s (.pt [.pt [.int .i64 e9_node_kind, .str e9_node_text, .int .i64 e9_node_cols, .sl 4 (Nd.encs e9_node_kids)], .int .i64 e9_depth]))] [(0, .box 3 [.s (.int .i64 x3)]), (1, .row 98 2 ((List.map enc_node_inner) (l5.take (IntKind.i64.wrap ((l5.length : Int) - 1)).toNat)))] 2 ⟨rfl, rfl, rfl, trivial⟩ ⟨rfl, ⟨_, rfl, rfl⟩, rfl, ⟨_, rfl, congrArg (Ob.row 98 2) (by simp [List.map_append, List.map_take, List.map_drop, irow, brow, b8of_row, List.map_cons, List.map_nil, b8of_wrap, Nd.encs_eq, Nd.enc, enc_node_checker, enc_string, enc_node_inner])⟩, trivial⟩ rfl rfl rfl rfl rfl) ?_
          refine tri_seq ?_
          refine tri_region (by exact tokW) (by exact gok) [] [] rfl ?_
          obtain ⟨w11, hw11, h⟩ := bind_out h
          refine ⟨_, _, ⟨_, _, _, hw11, rfl, rfl, rfl, rfl⟩, ?_⟩
          show Tri _ _ _ _
          refine tri_seq ?_
          refine tri_region (by exact tokW) (by exact gok) [] [33] rfl ?_
          intro n12 hn12
          obtain rfl : (e9_node_kids.length : Int) = n12 := (hn12.trans (congrArg (fun m : Nat => (m : Int)) (rlen Nd.encs_eq e9_node_kids))).symm
          show Tri _ _ _ _
          obtain ⟨l16, hl, h⟩ := bind_out h
          refine tri_post ⟨ofL [(1, .clo 64 [.op 0 0]), (4, .orow 1)], ofH [(0, .box 3 [.s (.int .i64 w11)]), (1, .row 98 2 ((List.map enc_node_inner) l16))], 2⟩ ?_ (fun σ' hle => ?_)
          · refine tri_block (tri_loopI (X := Nat × Int × (List (Nd × Int))) (fun y => match y with | (k, x13, l15) => ⟨ofL [(1, .clo 64 [.op 0 0]), (4, .orow 1), (5, .s (.pt [.pt [.int .i64 e9_node_kind, .str e9_node_text, .int .i64 e9_node_cols, .sl 4 (Nd.encs e9_node_kids)], .int .i64 e9_depth])), (33, .s (.int .i64 (e9_node_kids.length : Int))), (34, .s (.int .i64 x13))], ofH [(0, .box 3 [.s (.int .i64 w11)]), (1, .row 98 2 ((List.map enc_node_inner) l15))], 2⟩) (fun y => m_node_each_l2 e9_node_kids e9_depth y.1 y.2.1 y.2.2 = some l16) (fun y => y.1) (n, 0, l5.take (IntKind.i64.wrap ((l5.length : Int) - 1)).toNat) hl ?_ ?_)
            · exact (Le.rename [(0, 0), (1, 1)] _ _ _ ⟨rfl, rfl, rfl, rfl, rfl, trivial⟩ ⟨rfl, ⟨_, rfl, rfl⟩, rfl, ⟨_, rfl, rfl⟩, trivial⟩ rfl rfl rfl rfl rfl)
            · rintro ⟨k, x13, l15⟩ h
              cases k with
              | zero => cases h
              | succ k =>
                replace h : m_node_each_l2 e9_node_kids e9_depth (k+1) x13 l15 = some l16 := h
                rw [m_node_each_l2] at h
                refine tri_seq ?_
                refine tri_region (by exact tokW) (by exact gok) [] [] rfl ?_
                show Tri _ _ _ _
                refine tri_seq ?_
                refine tri_cond rfl (fun hb => ?_) (fun hb => ?_)
                · replace h := bif_t hb h
                  refine tri_skip ?_
                  show Tri _ _ _ _
                  refine tri_seq ?_
                  refine tri_block ?_
                  refine tri_seq ?_
                  refine tri_region (by exact tokW) (by exact gok) [] [] rfl ?_
                  show Tri _ _ _ _
                  refine tri_drawn (by exact tokW) (by exact gok) (by exact mixed) [50] [44, 49] [13] rfl (by decide +kernel) ?_
                  obtain ⟨⟨e17_kind, e17_text, e17_cols, e17_kids⟩, he17, h⟩ := bind_out h
                  refine And.intro (at_ok Nd.encs_eq he17).1 ?_
                  intro r18 hr18
                  obtain rfl : [.int .i64 e17_kind, .str e17_text, .int .i64 e17_cols, .sl 4 (Nd.encs e17_kids)] = r18 := (hr18.trans (at_ok Nd.encs_eq he17).2.1).symm
                  intro r19 hr19
                  obtain rfl : (List.map enc_node_inner) [(Nd.mk e17_kind e17_text e17_cols e17_kids, IntKind.i64.wrap (e9_depth + 1))] = r19 := (hr19.trans (by simp [List.map_append, List.map_take, List.map_drop, irow, brow, b8of_row, List.map_cons, List.map_nil, b8of_wrap, Nd.encs_eq, Nd.enc, enc_node_checker, enc_string, enc_node_inner])).symm
                  obtain ⟨hq, h⟩ := req_out h
                  refine And.intro (show (((List.map enc_node_inner) l15).length + ((List.map enc_node_inner) [(Nd.mk e17_kind e17_text e17_cols e17_kids, IntKind.i64.wrap (e9_depth + 1))]).length) * 16 ≤ 140737488355328 ∧ ((List.map enc_node_inner) l15).length + ((List.map enc_node_inner) [(Nd.mk e17_kind e17_text e17_cols e17_kids, IntKind.i64.wrap (e9_depth + 1))]).length ≤ 9223372036854775807 from by simp only [List.length_append, List.length_cons, List.length_nil, List.length_map, rlen (fun _ => rfl)] at hq ⊢; omega) ?_
                  show Tri _ _ _ _
                  refine tri_le (Le.rename [(0, 0), (2, 1)] [(1, .clo 64 [.op 0 0]), (4, .orow 1), (5, .s (.pt [.pt [.int .i64 e9_node_kind, .str e9_node_text, .int .i64 e9_node_cols, .sl 4 (Nd.encs e9_node_kids)], .int .i64 e9_depth])), (33, .s (.int .i64 (e9_node_kids.length : Int))), (34, .s (.int .i64 x13))] [(0, .box 3 [.s (.int .i64 w11)]), (1, .row 98 2 ((List.map enc_node_inner) (l15 ++ [(Nd.mk e17_kind e17_text e17_cols e17_kids, IntKind.i64.wrap (e9_depth + 1))])))] 2 ⟨rfl, rfl, rfl, rfl, rfl, trivial⟩ ⟨rfl, ⟨_, rfl, rfl⟩, rfl, ⟨_, rfl, congrArg (Ob.row 98 2) (by simp [List.map_append, List.map_take, List.map_drop, irow, brow, b8of_row, List.map_cons, List.map_nil, b8of_wrap, Nd.encs_eq, Nd.enc, enc_node_checker, enc_string, enc_node_inner])⟩, trivial⟩ rfl rfl rfl rfl rfl) ?_
                  refine tri_region (by exact tokW) (by exact gok) [] [] rfl ?_
                  refine ⟨(k, IntKind.i64.wrap (x13 + 1), l15 ++ [(Nd.mk e17_kind e17_text e17_cols e17_kids, IntKind.i64.wrap (e9_depth + 1))]), h, (Le.rename [(0, 0), (1, 1)] _ _ _ ⟨rfl, rfl, rfl, rfl, rfl, trivial⟩ ⟨rfl, ⟨_, rfl, rfl⟩, rfl, ⟨_, rfl, rfl⟩, trivial⟩ rfl rfl rfl rfl rfl), Nat.lt_succ_self k⟩
                · replace h := bif_f hb h
                  refine tri_exit ?_
                  cases h
                  exact (Le.rename [(0, 0), (1, 1)] _ _ _ ⟨rfl, rfl, trivial⟩ ⟨rfl, ⟨_, rfl, rfl⟩, rfl, ⟨_, rfl, rfl⟩, trivial⟩ rfl rfl rfl rfl rfl)
          · refine ⟨(k, w11, l16), h, (Le.trans hle (Le.rename [(0, 0), (1, 1)] _ _ _ ⟨rfl, rfl, trivial⟩ ⟨rfl, ⟨_, rfl, rfl⟩, rfl, ⟨_, rfl, rfl⟩, trivial⟩ rfl rfl rfl rfl rfl)), Nat.lt_succ_self k⟩
        · replace h := bif_f hb h
          refine tri_exit ?_
          cases h
          exact (Le.rename [(0, 0)] _ _ _ trivial ⟨rfl, ⟨_, rfl, rfl⟩, trivial⟩ rfl rfl rfl rfl rfl)
  · have hy := Option.some.inj h
    subst hy
    unfold GivesO
    exact ⟨_, (Le.trans hle (Le.rename [(0, 0)] [] [(0, .box 3 [.s (.int .i64 x6)])] 1 trivial ⟨rfl, ⟨_, rfl, rfl⟩, trivial⟩ rfl rfl rfl rfl rfl)), rfl, rfl, rfl, rfl, trivial⟩

/- vinculum/node.Count -/
def R_node_Count (n : Nat) (xs : List AV) (r : Ret) : Prop := ∃ (a0 : Nd) (y0 : Int), m_node_Count n a0 = some y0 ∧ xs = [.agg ((Nd.enc a0).map .s)] ∧ r = .val (.s (.int .i64 y0))
def S_node_Count : PSpec := pspec fun xs r => ∃ n, R_node_Count n xs r
set_option maxHeartbeats 2000000 in
set_option maxRecDepth 100000 in
theorem ok_node_Count : PSound Tryd.prog 28 S_node_Count := by
  have gok : ∀ f s, look? f [(63, S_node_each)] = some s → PSound Tryd.prog f s := look_all (by
    simp only [List.forall_mem_cons]
    exact ⟨ok_node_each, by simp⟩)
  refine psound tokW Tryd.call28 Tryd.func28 rfl (fun xs r h => by obtain ⟨n, _, _, _, rfl, _⟩ := h; show 1 ≤ 7; decide) 7 rfl ?_
  rintro xs r w0 G0 ⟨n, ⟨n1_kind, n1_text, n1_cols, n1_kids⟩, y0, h, rfl, rfl⟩ _
  rw [m_node_Count] at h
  refine tri_seq ?_
  refine tri_region (by exact tokW) (by exact gok) [] [] rfl ?_
  show Tri _ _ _ _
  refine tri_seq ?_
  refine tri_region (by exact tokW) (by exact gok) [3] [] rfl ?_
  show Tri _ _ _ _
  refine tri_seq ?_
  refine tri_region (by exact tokW) (by exact gok) [] [] rfl ?_
  obtain ⟨w2, hw2, h⟩ := bind_out h
  refine ⟨_, _, ⟨_, _, _, _, hw2, rfl, rfl, rfl, rfl⟩, ?_⟩
  show Tri _ _ _ _
  refine tri_seq ?_
  refine tri_region (by exact tokW) (by exact gok) [] [] rfl ?_
  show Tri _ _ _ _
  refine tri_ret ?_
  have hy := Option.some.inj h
  subst hy
  unfold Gives
  exact ⟨_, Le.refl _ _, rfl, rfl⟩

/- vinculum/node.Depth$1 -/
def R_node_Depth_1 (xs : List AV) (os : List Ob) (x : AV) (os' : List (Option Ob)) : Prop := ∃ (a0 : Int) (a1 : Int) (z0 : Int), m_node_Depth_1 a0 a1 = some z0 ∧ xs = [.s (.int .i64 a0), .op 0 0] ∧ os = [.box 3 (((irow .i64) a1).map .s)] ∧ x = .tup [] ∧ os' = [some (.box 3 (((irow .i64) z0).map .s))]
def S_node_Depth_1 : PSpec := ospec (fun xs os x os' => R_node_Depth_1 xs os x os')
set_option maxHeartbeats 2000000 in
set_option maxRecDepth 100000 in
theorem ok_node_Depth_1 : PSound Tryd.prog 65 S_node_Depth_1 := by
  have gok : ∀ (f : Nat) (s : PSpec), (fun _ => none : Nat → Option PSpec) f = some s → PSound Tryd.prog f s := fun _ _ h => by cases h
  refine PSound.withNil (osound tokW Tryd.call65 Tryd.func65 rfl (fun xs os x os' h => by obtain ⟨_, _, _, _, rfl, rfl, _, rfl⟩ := h; exact ⟨by show 2 ≤ 6; decide, by show 1 ≤ 1; decide⟩) 6 rfl ?_) _
  rintro xs os x os' w0 G0 B0 ⟨depth1, o2, z0, h, rfl, rfl, rfl, rfl⟩ _
  rw [m_node_Depth_1] at h
  refine tri_region (by exact tokW) (by exact gok) [] [] rfl ?_
  have hy := Option.some.inj h
  subst hy
  unfold GivesO
  exact ⟨_, (Le.rename [(0, 0)] [] [(0, .box 3 [.s (.int .i64 (if o2 < depth1 then depth1 else o2))])] 1 trivial ⟨rfl, ⟨_, rfl, rfl⟩, trivial⟩ rfl rfl rfl rfl rfl), rfl, rfl, rfl, rfl, trivial⟩

/- vinculum/node.each -/
def R_node_each_depth (n : Nat) (xs : List AV) (os : List Ob) (x : AV) (os' : List (Option Ob)) : Prop := ∃ (a0 : Nd) (a1 : Int) (z0 : Int), m_node_each_depth n a0 a1 = some z0 ∧ xs = [.s (.pt (Nd.enc a0)), .clo 65 [.op 0 0]] ∧ os = [.box 3 (((irow .i64) a1).map .s)] ∧ x = .tup [] ∧ os' = [some (.box 3 (((irow .i64) z0).map .s))]
def S_node_each_depth : PSpec := ospec (fun xs os x os' => ∃ n, R_node_each_depth n xs os x os')
set_option maxHeartbeats 2000000 in
set_option maxRecDepth 100000 in
theorem ok_node_each_depth : PSound Tryd.prog 63 S_node_each_depth := by
  have gok : ∀ f s, look? f [(65, S_node_Depth_1)] = some s → PSound Tryd.prog f s := look_all (by
    simp only [List.forall_mem_cons]
    exact ⟨ok_node_Depth_1, by simp⟩)
  refine PSound.withNil (osound tokW Tryd.call63 Tryd.func63 rfl (fun xs os x os' h => by obtain ⟨n, _, _, _, _, rfl, rfl, _, rfl⟩ := h; exact ⟨by show 2 ≤ 52; decide, by show 1 ≤ 1; decide⟩) 52 rfl ?_) _
  rintro xs os x os' w0 G0 B0 ⟨n, ⟨n1_kind, n1_text, n1_cols, n1_kids⟩, o2, z0, h, rfl, rfl, rfl, rfl⟩ _
  rw [m_node_each_depth] at h
  refine tri_seq ?_
  refine tri_region (by exact tokW) (by exact gok) [9] [] rfl ?_
  show Tri _ _ _ _
  refine tri_le (Le.rename [(0, 0), (1, 1)] [(1, .clo 65 [.op 0 0]), (4, .orow 1)] [(0, .box 3 [.s (.int .i64 o2)]), (1, .row 98 2 ((List.map enc_node_inner) [(Nd.mk n1_kind n1_text n1_cols n1_kids, 1)]))] 2 ⟨rfl, rfl, trivial⟩ ⟨rfl, ⟨_, rfl, rfl⟩, rfl, ⟨_, rfl, congrArg (Ob.row 98 2) (by simp [List.map_append, List.map_take, List.map_drop, irow, brow, b8of_row, List.map_cons, List.map_nil, b8of_wrap, Nd.encs_eq, Nd.enc, enc_node_checker, enc_string, enc_node_inner])⟩, trivial⟩ rfl rfl rfl rfl rfl) ?_
  obtain ⟨x6, hl, h⟩ := bind_out h
  refine tri_post ⟨ofL [], ofH [(0, .box 3 [.s (.int .i64 x6)])], 1⟩ ?_ (fun σ' hle => ?_)
  · refine tri_block (tri_loopI (X := Nat × Int × (List (Nd × Int))) (fun y => match y with | (k, x3, l5) => ⟨ofL [(1, .clo 65 [.op 0 0]), (4, .orow 1)], ofH [(0, .box 3 [.s (.int .i64 x3)]), (1, .row 98 2 ((List.map enc_node_inner) l5))], 2⟩) (fun y => m_node_each_depth_l1 n y.1 y.2.1 y.2.2 = some x6) (fun y => y.1) (n, o2, [(Nd.mk n1_kind n1_text n1_cols n1_kids, 1)]) hl ?_ ?_)
    · exact (Le.rename [(0, 0), (1, 1)] _ _ _ ⟨rfl, rfl, trivial⟩ ⟨rfl, ⟨_, rfl, rfl⟩, rfl, ⟨_, rfl, rfl⟩, trivial⟩ rfl rfl rfl rfl rfl)
    · rintro ⟨k, x3, l5⟩ h
      cases k with
      | zero => cases h
      | succ k =>
        replace h : m_node_each_depth_l1 n (k+1) x3 l5 = some x6 := h
        rw [m_node_each_depth_l1] at h
        refine tri_seq ?_
        refine tri_seq ?_
        refine tri_region (by exact tokW) (by exact gok) [] [11] rfl ?_
        intro n7 hn7
        obtain rfl : (l5.length : Int) = n7 := (hn7.trans (congrArg (fun m : Nat => (m : Int)) (rlen (fun _ => rfl) l5))).symm
        show Tri _ _ _ _
        refine tri_cond rfl (fun hb => ?_) (fun hb => ?_)
        · replace h := bif_t hb h
          refine tri_skip ?_
          show Tri _ _ _ _
          refine tri_block ?_
          refine tri_seq ?_
          refine tri_region (by exact tokW) (by exact gok) [5] [15] rfl ?_
          intro n8 hn8
          obtain rfl : (l5.length : Int) = n8 := (hn8.trans (congrArg (fun m : Nat => (m : Int)) (rlen (fun _ => rfl) l5))).symm
          obtain ⟨⟨⟨e9_node_kind, e9_node_text, e9_node_cols, e9_node_kids⟩, e9_depth⟩, he9, h⟩ := bind_out h
          refine And.intro (at_ok (fun _ => rfl) he9).1 ?_
          refine And.intro (at_ok (fun _ => rfl) he9).2.2 ?_
          refine ⟨_, (at_ok (fun _ => rfl) he9).2.1, ?_⟩
          show Tri _ _ _ _
          refine tri_le (Le.giveBox 2 [.pt [.int .i64 e9_node_kind, .str e9_node_text, .int .i64 e9_node_cols, .sl 4 (Nd.encs e9_node_kids)], .int .i64 e9_depth] rfl rfl) ?_
          refine tri_seq ?_
          refine tri_region (by exact tokW) (by exact gok) [23] [21] rfl ?_
          intro n10 hn10
          obtain rfl : (l5.length : Int) = n10 := (hn10.trans (congrArg (fun m : Nat => (m : Int)) (rlen (fun _ => rfl) l5))).symm
          obtain ⟨hq, h⟩ := req_out h
          refine And.intro ⟨hq.1, Int.le_trans hq.2 (Int.ofNat_le.2 (Nat.le_of_eq (rlen (fun _ => rfl) _).symm))⟩ ?_
          show Tri _ _ _ _
          refine tri_le (Le.rename [(0, 0), (3, 1)] [(1, .clo 65 [.op 0 0]), (4, .orow 1), (5, .s (.pt [.pt [.int .i64 e9_node_kind, .str e9_node_text, .int .i64 e9_node_cols, .sl 4 (Nd.encs e9_node_kids)], .int .i64 e9_depth]))] [(0, .box 3 [.s (.int .i64 x3)]), (1, .row 98 2 ((List.map enc_node_inner) (l5.take (IntKind.i64.wrap ((l5.length : Int) - 1)).toNat)))] 2 ⟨rfl, rfl, rfl, trivial⟩ ⟨rfl, ⟨_, rfl, rfl⟩, rfl, ⟨_, rfl, congrArg (Ob.row 98 2) (by simp [List.map_append, List.map_take, List.map_drop, irow, brow, b8of_row, List.map_cons, List.map_nil, b8of_wrap, Nd.encs_eq, Nd.enc, enc_node_checker, enc_string, enc_node_inner])⟩, trivial⟩ rfl rfl rfl rfl rfl) ?_
          refine tri_seq ?_
          refine tri_region (by exact tokW) (by exact gok) [] [] rfl ?_
          obtain ⟨w11, hw11, h⟩ := bind_out h
          refine ⟨_, _, ⟨_, _, _, hw11, rfl, rfl, rfl, rfl⟩, ?_⟩
          show Tri _ _ _ _
          refine tri_seq ?_
          refine tri_region (by exact tokW) (by exact gok) [] [33] rfl ?_
          intro n12 hn12
          obtain rfl : (e9_node_kids.length : Int) = n12 := (hn12.trans (congrArg (fun m : Nat => (m : Int)) (rlen Nd.encs_eq e9_node_kids))).symm
          show Tri _ _ _ _
          obtain ⟨l16, hl, h⟩ := bind_out h
          refine tri_post ⟨ofL [(1, .clo 65 [.op 0 0]), (4, .orow 1)], ofH [(0, .box 3 [.s (.int .i64 w11)]), (1, .row 98 2 ((List.map enc_node_inner) l16))], 2⟩ ?_ (fun σ' hle => ?_)
          · refine tri_block (tri_loopI (X := Nat × Int × (List (Nd × Int))) (fun y => match y with | (k, x13, l15) => ⟨ofL [(1, .clo 65 [.op 0 0]), (4, .orow 1), (5, .s (.pt [.pt [.int .i64 e9_node_kind, .str e9_node_text, .int .i64 e9_node_cols, .sl 4 (Nd.encs e9_node_kids)], .int .i64 e9_depth])), (33, .s (.int .i64 (e9_node_kids.length : Int))), (34, .s (.int .i64 x13))], ofH [(0, .box 3 [.s (.int .i64 w11)]), (1, .row 98 2 ((List.map enc_node_inner) l15))], 2⟩) (fun y => m_node_each_depth_l2 e9_node_kids e9_depth y.1 y.2.1 y.2.2 = some l16) (fun y => y.1) (n, 0, l5.take (IntKind.i64.wrap ((l5.length : Int) - 1)).toNat) hl ?_ ?_)
            · exact (Le.rename [(0, 0), (1, 1)] _ _ _ ⟨rfl, rfl, rfl, rfl, rfl, trivial⟩ ⟨rfl, ⟨_, rfl, rfl⟩, rfl, ⟨_, rfl, rfl⟩, trivial⟩ rfl rfl rfl rfl rfl)
            · rintro ⟨k, x13, l15⟩ h
              cases k with
              | zero => cases h
              | succ k =>
                replace h : m_node_each_depth_l2 e9_node_kids e9_depth (k+1) x13 l15 = some l16 := h
                rw [m_node_each_depth_l2] at h
                refine tri_seq ?_
                refine tri_region (by exact tokW) (by exact gok) [] [] rfl ?_
                show Tri _ _ _ _
                refine tri_seq ?_
                refine tri_cond rfl (fun hb => ?_) (fun hb => ?_)
                · replace h := bif_t hb h
                  refine tri_skip ?_
                  show Tri _ _ _ _
                  refine tri_seq ?_
                  refine tri_block ?_
                  refine tri_seq ?_
                  refine tri_region (by exact tokW) (by exact gok) [] [] rfl ?_
                  show Tri _ _ _ _
                  refine tri_drawn (by exact tokW) (by exact gok) (by exact mixed) [50] [44, 49] [13] rfl (by decide +kernel) ?_
                  obtain ⟨⟨e17_kind, e17_text, e17_cols, e17_kids⟩, he17, h⟩ := bind_out h
                  refine And.intro (at_ok Nd.encs_eq he17).1 ?_
                  intro r18 hr18
                  obtain rfl : [.int .i64 e17_kind, .str e17_text, .int .i64 e17_cols, .sl 4 (Nd.encs e17_kids)] = r18 := (hr18.trans (at_ok Nd.encs_eq he17).2.1).symm
                  intro r19 hr19
                  obtain rfl : (List.map enc_node_inner) [(Nd.mk e17_kind e17_text e17_cols e17_kids, IntKind.i64.wrap (e9_depth + 1))] = r19 := (hr19.trans (by simp [List.map_append, List.map_take, List.map_drop, irow, brow, b8of_row, List.map_cons, List.map_nil, b8of_wrap, Nd.encs_eq, Nd.enc, enc_node_checker, enc_string, enc_node_inner])).symm
                  obtain ⟨hq, h⟩ := req_out h
                  refine And.intro (show (((List.map enc_node_inner) l15).length + ((List.map enc_node_inner) [(Nd.mk e17_kind e17_text e17_cols e17_kids, IntKind.i64.wrap (e9_depth + 1))]).length) * 16 ≤ 140737488355328 ∧ ((List.map enc_node_inner) l15).length + ((List.map enc_node_inner) [(Nd.mk e17_kind e17_text e17_cols e17_kids, IntKind.i64.wrap (e9_depth + 1))]).length ≤ 9223372036854775807 from by simp only [List.length_append, List.length_cons, List.length_nil, List.length_map, rlen (fun _ => rfl)] at hq ⊢; omega) ?_
                  show Tri _ _ _ _
                  refine tri_le (Le.rename [(0, 0), (2, 1)] [(1, .clo 65 [.op 0 0]), (4, .orow 1), (5, .s (.pt [.pt [.int .i64 e9_node_kind, .str e9_node_text, .int .i64 e9_node_cols, .sl 4 (Nd.encs e9_node_kids)], .int .i64 e9_depth])), (33, .s (.int .i64 (e9_node_kids.length : Int))), (34, .s (.int .i64 x13))] [(0, .box 3 [.s (.int .i64 w11)]), (1, .row 98 2 ((List.map enc_node_inner) (l15 ++ [(Nd.mk e17_kind e17_text e17_cols e17_kids, IntKind.i64.wrap (e9_depth + 1))])))] 2 ⟨rfl, rfl, rfl, rfl, rfl, trivial⟩ ⟨rfl, ⟨_, rfl, rfl⟩, rfl, ⟨_, rfl, congrArg (Ob.row 98 2) (by simp [List.map_append, List.map_take, List.map_drop, irow, brow, b8of_row, List.map_cons, List.map_nil, b8of_wrap, Nd.encs_eq, Nd.enc, enc_node_checker, enc_string, enc_node_inner])⟩, trivial⟩ rfl rfl rfl rfl rfl) ?_
                  refine tri_region (by exact tokW) (by exact gok) [] [] rfl ?_
                  refine ⟨(k, IntKind.i64.wrap (x13 + 1), l15 ++ [(Nd.mk e17_kind e17_text e17_cols e17_kids, IntKind.i64.wrap (e9_depth + 1))]), h, (Le.rename [(0, 0), (1, 1)] _ _ _ ⟨rfl, rfl, rfl, rfl, rfl, trivial⟩ ⟨rfl, ⟨_, rfl, rfl⟩, rfl, ⟨_, rfl, rfl⟩, trivial⟩ rfl rfl rfl rfl rfl), Nat.lt_succ_self k⟩
                · replace h := bif_f hb h
                  refine tri_exit ?_
                  cases h
                  exact (Le.rename [(0, 0), (1, 1)] _ _ _ ⟨rfl, rfl, trivial⟩ ⟨rfl, ⟨_, rfl, rfl⟩, rfl, ⟨_, rfl, rfl⟩, trivial⟩ rfl rfl rfl rfl rfl)
          · refine ⟨(k, w11, l16), h, (Le.trans hle (Le.rename [(0, 0), (1, 1)] _ _ _ ⟨rfl, rfl, trivial⟩ ⟨rfl, ⟨_, rfl, rfl⟩, rfl, ⟨_, rfl, rfl⟩, trivial⟩ rfl rfl rfl rfl rfl)), Nat.lt_succ_self k⟩
        · replace h := bif_f hb h
          refine tri_exit ?_
          cases h
          exact (Le.rename [(0, 0)] _ _ _ trivial ⟨rfl, ⟨_, rfl, rfl⟩, trivial⟩ rfl rfl rfl rfl rfl)
  · have hy := Option.some.inj h
    subst hy
    unfold GivesO
    exact ⟨_, (Le.trans hle (Le.rename [(0, 0)] [] [(0, .box 3 [.s (.int .i64 x6)])] 1 trivial ⟨rfl, ⟨_, rfl, rfl⟩, trivial⟩ rfl rfl rfl rfl rfl)), rfl, rfl, rfl, rfl, trivial⟩

/- vinculum/node.Depth -/
def R_node_Depth (n : Nat) (xs : List AV) (r : Ret) : Prop := ∃ (a0 : Nd) (y0 : Int), m_node_Depth n a0 = some y0 ∧ xs = [.agg ((Nd.enc a0).map .s)] ∧ r = .val (.s (.int .i64 y0))
def S_node_Depth : PSpec := pspec fun xs r => ∃ n, R_node_Depth n xs r
set_option maxHeartbeats 2000000 in
set_option maxRecDepth 100000 in
theorem ok_node_Depth : PSound Tryd.prog 30 S_node_Depth := by
  have gok : ∀ f s, look? f [(63, S_node_each_depth)] = some s → PSound Tryd.prog f s := look_all (by
    simp only [List.forall_mem_cons]
    exact ⟨ok_node_each_depth, by simp⟩)
  refine psound tokW Tryd.call30 Tryd.func30 rfl (fun xs r h => by obtain ⟨n, _, _, _, rfl, _⟩ := h; show 1 ≤ 7; decide) 7 rfl ?_
  rintro xs r w0 G0 ⟨n, ⟨n1_kind, n1_text, n1_cols, n1_kids⟩, y0, h, rfl, rfl⟩ _
  rw [m_node_Depth] at h
  refine tri_seq ?_
  refine tri_region (by exact tokW) (by exact gok) [] [] rfl ?_
  show Tri _ _ _ _
  refine tri_seq ?_
  refine tri_region (by exact tokW) (by exact gok) [3] [] rfl ?_
  show Tri _ _ _ _
  refine tri_seq ?_
  refine tri_region (by exact tokW) (by exact gok) [] [] rfl ?_
  obtain ⟨w2, hw2, h⟩ := bind_out h
  refine ⟨_, _, ⟨_, _, _, _, hw2, rfl, rfl, rfl, rfl⟩, ?_⟩
  show Tri _ _ _ _
  refine tri_seq ?_
  refine tri_region (by exact tokW) (by exact gok) [] [] rfl ?_
  show Tri _ _ _ _
  refine tri_ret ?_
  have hy := Option.some.inj h
  subst hy
  unfold Gives
  exact ⟨_, Le.refl _ _, rfl, rfl⟩

/- vinculum/vinculumlaw09.NodeSizes -/
def R_l09_NodeSizes (n : Nat) (xs : List AV) (r : Ret) : Prop := ∃ (a0 : Nd) (y0 : Bool), m_l09_NodeSizes n a0 = some y0 ∧ xs = [.agg ((Nd.enc a0).map .s)] ∧ r = .val (.s (.bool y0))
def S_l09_NodeSizes : PSpec := pspec fun xs r => ∃ n, R_l09_NodeSizes n xs r
set_option maxHeartbeats 2000000 in
set_option maxRecDepth 100000 in
theorem ok_l09_NodeSizes : PSound Tryd.prog 7 S_l09_NodeSizes := by
  have gok : ∀ f s, look? f [(11, S_l09_awake), (16, S_l09_few), (28, S_node_Count), (29, S_r09_Count), (30, S_node_Depth), (31, S_r09_Depth)] = some s → PSound Tryd.prog f s := look_all (by
    simp only [List.forall_mem_cons]
    exact ⟨ok_l09_awake, ok_l09_few, ok_node_Count, ok_r09_Count, ok_node_Depth, ok_r09_Depth, by simp⟩)
  refine psound tokW Tryd.call7 Tryd.func7 rfl (fun xs r h => by obtain ⟨n, _, _, _, rfl, _⟩ := h; show 1 ≤ 23; decide) 23 rfl ?_
  rintro xs r w0 G0 ⟨n, ⟨n1_kind, n1_text, n1_cols, n1_kids⟩, y0, h, rfl, rfl⟩ _
  rw [m_l09_NodeSizes] at h
  refine tri_seq ?_
  refine tri_region (by exact tokW) (by exact gok) [] [] rfl ?_
  show Tri _ _ _ _
  refine tri_seq ?_
  refine tri_seq ?_
  obtain ⟨x2, hj, h⟩ := bind_out h
  refine tri_post ⟨ofL [(1, .s (.pt [.int .i64 n1_kind, .str n1_text, .int .i64 n1_cols, .sl 4 (Nd.encs n1_kids)])), (9, .s (.bool x2))], fun _ => none, 0⟩ ?_ (fun σ' hle => ?_)
  · replace h := hj
    refine tri_region (by exact tokW) (by exact gok) [] [5] rfl ?_
    obtain ⟨y3, hy3, h⟩ := bind_out h
    refine ⟨_, ⟨_, _, hy3, rfl, rfl⟩, ?_⟩
    intro b hb
    cases b with
    | true =>
      replace h := bif_t hb.symm h
      cases h
      exact (Le.forget _ ⟨rfl, rfl, trivial⟩)
    | false =>
      replace h := bif_f hb.symm h
      obtain ⟨y4, hy4, h⟩ := bind_out h
      refine ⟨_, ⟨_, _, _, hy4, rfl, rfl⟩, ?_⟩
      cases h
      exact (Le.forget _ ⟨rfl, rfl, trivial⟩)
  · show Tri _ _ _ _
    refine tri_le hle ?_
    refine tri_cond rfl (fun hb => ?_) (fun hb => ?_)
    · replace h := bif_t hb h
      refine tri_seq ?_
      refine tri_region (by exact tokW) (by exact gok) [] [] rfl ?_
      obtain ⟨y5, hy5, h⟩ := bind_out h
      refine ⟨_, ⟨_, _, hy5, rfl, rfl⟩, ?_⟩
      show Tri _ _ _ _
      refine tri_ret ?_
      have hy := Option.some.inj h
      subst hy
      unfold Gives
      exact ⟨_, Le.refl _ _, rfl, rfl⟩
    · replace h := bif_f hb h
      refine tri_skip ?_
      show Tri _ _ _ _
      refine tri_seq ?_
      obtain ⟨x6, hj, h⟩ := bind_out h
      refine tri_post ⟨ofL [(2, .s (.bool x6))], fun _ => none, 0⟩ ?_ (fun σ' hle => ?_)
      · replace h := hj
        refine tri_drawn (by exact tokW) (by exact gok) (by exact mixed) [] [16] [] rfl (by decide +kernel) ?_
        obtain ⟨y7, hy7, h⟩ := bind_out h
        refine ⟨_, ⟨_, _, _, hy7, rfl, rfl⟩, ?_⟩
        obtain ⟨y8, hy8, h⟩ := bind_out h
        refine ⟨_, ⟨_, _, _, hy8, rfl, rfl⟩, ?_⟩
        intro b hb
        cases b with
        | true =>
          replace h := bif_t hb.symm h
          obtain ⟨y9, hy9, h⟩ := bind_out h
          refine ⟨_, ⟨_, _, _, hy9, rfl, rfl⟩, ?_⟩
          obtain ⟨y10, hy10, h⟩ := bind_out h
          refine ⟨_, ⟨_, _, _, hy10, rfl, rfl⟩, ?_⟩
          cases h
          exact (Le.forget _ ⟨rfl, trivial⟩)
        | false =>
          replace h := bif_f hb.symm h
          cases h
          exact (Le.forget _ ⟨rfl, trivial⟩)
      · show Tri _ _ _ _
        refine tri_le hle ?_
        refine tri_ret ?_
        have hy := Option.some.inj h
        subst hy
        unfold Gives
        exact ⟨_, Le.refl _ _, rfl, rfl⟩

end Go.Proofs.YtefbmooajknmgaaDoor
