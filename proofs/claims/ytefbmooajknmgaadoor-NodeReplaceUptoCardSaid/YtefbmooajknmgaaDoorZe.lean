/-
  Joined out of: NdWA, NdWB.
-/
import Derived.Test.YtefbmooajknmgaaDoorZd
set_option linter.unusedVariables false
set_option linter.unusedSimpArgs false
namespace Go.Proofs.YtefbmooajknmgaaDoor
open Go.Abs
def R_node_empty (xs : List AV) (r : Ret) : Prop := ∃ (a0 : List UInt8) (y0 : Bool), m_node_empty a0 = some y0 ∧ xs = [.s (.str a0)] ∧ r = .val (.s (.bool y0))
def S_node_empty : PSpec := pspec fun xs r => R_node_empty xs r
set_option maxHeartbeats 2000000 in
set_option maxRecDepth 100000 in
theorem ok_node_empty : PSound Tryd.prog 73 S_node_empty := by
  have gok : ∀ (f : Nat) (s : PSpec), (fun _ => none : Nat → Option PSpec) f = some s → PSound Tryd.prog f s := fun _ _ h => by cases h
  refine psound tokW Tryd.call73 Tryd.func73 rfl (fun xs r h => by obtain ⟨_, _, _, rfl, _⟩ := h; show 1 ≤ 5; decide) 5 rfl ?_
  rintro xs r w0 G0 ⟨s1, y0, h, rfl, rfl⟩ _
  rw [m_node_empty] at h
  refine tri_seq ?_
  refine tri_region (by exact tokW) (by exact gok) [] [] rfl ?_
  show Tri _ _ _ _
  refine tri_seq ?_
  refine tri_region (by exact tokW) (by exact gok) [] [] rfl ?_
  show Tri _ _ _ _
  refine tri_ret ?_
  have hy := Option.some.inj h
  subst hy
  unfold Gives
  exact ⟨_, Le.refl _ _, rfl, rfl⟩
def R_node_letters (n : Nat) (xs : List AV) (r : Ret) : Prop := ∃ (a0 : List UInt8) (y0 : Bool), m_node_letters n a0 = some y0 ∧ xs = [.s (.str a0)] ∧ r = .val (.s (.bool y0))
def S_node_letters : PSpec := pspec fun xs r => ∃ n, R_node_letters n xs r
set_option maxHeartbeats 2000000 in
set_option maxRecDepth 100000 in
theorem ok_node_letters : PSound Tryd.prog 39 S_node_letters := by
  have gok : ∀ (f : Nat) (s : PSpec), (fun _ => none : Nat → Option PSpec) f = some s → PSound Tryd.prog f s := fun _ _ h => by cases h
  refine psound tokW Tryd.call39 Tryd.func39 rfl (fun xs r h => by obtain ⟨n, _, _, _, rfl, _⟩ := h; show 1 ≤ 21; decide) 21 rfl ?_
  rintro xs r w0 G0 ⟨n, s1, y0, h, rfl, rfl⟩ _
  rw [m_node_letters] at h
  refine tri_seq ?_
  refine tri_region (by exact tokW) (by exact gok) [] [] rfl ?_
  show Tri _ _ _ _
  refine tri_seq ?_
  refine tri_seq ?_
  refine tri_region (by exact tokW) (by exact gok) [] [] rfl ?_
  show Tri _ _ _ _
  obtain ⟨fl, hl, ho1⟩ := bind_out h
  refine tri_fl (fl := fl) (fun z => match z with | _ => ⟨ofL [], fun _ => none, 0⟩) ?_ (fun z σ' hz hle => ?_)
  · refine tri_block (tri_loopI (X := Nat × Int) (fun y => match y with | (k, i2) => ⟨ofL [(0, .s (.str s1)), (3, .s (.int .i64 i2))], fun _ => none, 0⟩) (fun y => m_node_letters_l1 s1 y.1 y.2 = some fl) (fun y => y.1) (n, 0) hl ?_ ?_)
    · exact (Le.forget _ ⟨rfl, rfl, trivial⟩)
    · rintro ⟨k, i2⟩ h
      cases k with
      | zero => cases h
      | succ k =>
        replace h : m_node_letters_l1 s1 (k+1) i2 = some fl := h
        rw [m_node_letters_l1] at h
        refine tri_seq ?_
        refine tri_seq ?_
        refine tri_region (by exact tokW) (by exact gok) [] [] rfl ?_
        show Tri _ _ _ _
        refine tri_cond rfl (fun hb => ?_) (fun hb => ?_)
        · replace h := bif_t hb h
          refine tri_skip ?_
          show Tri _ _ _ _
          refine tri_seq ?_
          refine tri_block ?_
          refine tri_seq ?_
          refine tri_region (by exact tokW) (by exact gok) [] [13] rfl ?_
          obtain ⟨c3, hc3, h⟩ := bind_out h
          refine And.intro (str_ok hc3).1 ?_
          intro v4 hv4
          obtain rfl : (c3.toNat : Int) = v4 := (hv4.trans (str_ok hc3).2).symm
          show Tri _ _ _ _
          refine tri_seq ?_
          obtain ⟨x5, hj, h⟩ := bind_out h
          refine tri_post ⟨ofL [(0, .s (.str s1)), (3, .s (.int .i64 i2)), (20, .s (.bool x5))], fun _ => none, 0⟩ ?_ (fun σ' hle => ?_)
          · replace h := hj
            refine tri_region (by exact tokW) (by exact gok) [] [17] rfl ?_
            intro b hb
            cases b with
            | true =>
              replace h := bif_t hb.symm h
              cases h
              exact (Le.forget _ ⟨rfl, rfl, rfl, trivial⟩)
            | false =>
              replace h := bif_f hb.symm h
              cases h
              exact (Le.forget _ ⟨rfl, rfl, rfl, trivial⟩)
          · show Tri _ _ _ _
            refine tri_le hle ?_
            refine tri_cond rfl (fun hb => ?_) (fun hb => ?_)
            · replace h := bif_t hb h
              refine tri_seq ?_
              refine tri_region (by exact tokW) (by exact gok) [] [] rfl ?_
              show Tri _ _ _ _
              refine tri_ret ?_
              cases h
              replace h : some _ = some _ := ho1
              have hy := Option.some.inj h
              subst hy
              unfold Gives
              exact ⟨_, Le.refl _ _, rfl, rfl⟩
            · replace h := bif_f hb h
              refine tri_skip ?_
              show Tri _ _ _ _
              refine tri_region (by exact tokW) (by exact gok) [] [] rfl ?_
              refine ⟨(k, IntKind.i64.wrap (i2 + 1)), h, (Le.forget _ ⟨rfl, rfl, trivial⟩), Nat.lt_succ_self k⟩
        · replace h := bif_f hb h
          refine tri_exit ?_
          cases h
          exact ⟨_, rfl, (Le.forget _ trivial)⟩
  · subst hz
    obtain _ := z
    replace h := ho1
    show Tri _ _ _ _
    refine tri_le hle ?_
    refine tri_seq ?_
    refine tri_region (by exact tokW) (by exact gok) [] [] rfl ?_
    show Tri _ _ _ _
    refine tri_ret ?_
    have hy := Option.some.inj h
    subst hy
    unfold Gives
    exact ⟨_, Le.refl _ _, rfl, rfl⟩
def R_node_keyword (xs : List AV) (r : Ret) : Prop := ∃ (a0 : List UInt8) (y0 : Bool), m_node_keyword a0 = some y0 ∧ xs = [.s (.str a0)] ∧ r = .val (.s (.bool y0))
def S_node_keyword : PSpec := pspec fun xs r => R_node_keyword xs r
set_option maxHeartbeats 2000000 in
set_option maxRecDepth 100000 in
theorem ok_node_keyword : PSound Tryd.prog 41 S_node_keyword := by
  have gok : ∀ (f : Nat) (s : PSpec), (fun _ => none : Nat → Option PSpec) f = some s → PSound Tryd.prog f s := fun _ _ h => by cases h
  refine psound tokW Tryd.call41 Tryd.func41 rfl (fun xs r h => by obtain ⟨_, _, _, rfl, _⟩ := h; show 1 ≤ 9; decide) 9 rfl ?_
  rintro xs r w0 G0 ⟨s1, y0, h, rfl, rfl⟩ _
  rw [m_node_keyword] at h
  refine tri_seq ?_
  refine tri_region (by exact tokW) (by exact gok) [] [] rfl ?_
  show Tri _ _ _ _
  refine tri_seq ?_
  refine tri_seq ?_
  refine tri_region (by exact tokW) (by exact gok) [] [] rfl ?_
  show Tri _ _ _ _
  obtain ⟨fl, hj, ho1⟩ := bind_out h
  refine tri_fl (fl := fl) (fun z => match z with | _ => ⟨ofL [], fun _ => none, 0⟩) ?_ (fun z σ' hz hle => ?_)
  · replace h := hj
    refine tri_block ?_
    refine tri_seq ?_
    refine tri_seq ?_
    refine tri_region (by exact tokW) (by exact gok) [] [] rfl ?_
    show Tri _ _ _ _
    obtain ⟨x2, hj, h⟩ := bind_out h
    refine tri_post ⟨ofL [(4, .s (.bool x2))], fun _ => none, 0⟩ ?_ (fun σ' hle => ?_)
    · replace h := hj
      refine tri_cond rfl (fun hb => ?_) (fun hb => ?_)
      · replace h := bif_t hb h
        refine tri_skip ?_
        cases h
        exact (Le.forget _ ⟨rfl, trivial⟩)
      · replace h := bif_f hb h
        refine tri_seq ?_
        refine tri_region (by exact tokW) (by exact gok) [] [] rfl ?_
        show Tri _ _ _ _
        refine tri_cond rfl (fun hb => ?_) (fun hb => ?_)
        · replace h := bif_t hb h
          refine tri_skip ?_
          cases h
          exact (Le.forget _ ⟨rfl, trivial⟩)
        · replace h := bif_f hb h
          refine tri_seq ?_
          refine tri_region (by exact tokW) (by exact gok) [] [] rfl ?_
          show Tri _ _ _ _
          refine tri_cond rfl (fun hb => ?_) (fun hb => ?_)
          · replace h := bif_t hb h
            refine tri_skip ?_
            cases h
            exact (Le.forget _ ⟨rfl, trivial⟩)
          · replace h := bif_f hb h
            refine tri_region (by exact tokW) (by exact gok) [] [] rfl ?_
            cases h
            exact (Le.forget _ ⟨rfl, trivial⟩)
    · show Tri _ _ _ _
      refine tri_le hle ?_
      refine tri_cond rfl (fun hb => ?_) (fun hb => ?_)
      · replace h := bif_t hb h
        refine tri_seq ?_
        refine tri_region (by exact tokW) (by exact gok) [] [] rfl ?_
        show Tri _ _ _ _
        refine tri_ret ?_
        cases h
        replace h : some _ = some _ := ho1
        have hy := Option.some.inj h
        subst hy
        unfold Gives
        exact ⟨_, Le.refl _ _, rfl, rfl⟩
      · replace h := bif_f hb h
        refine tri_skip ?_
        cases h
        exact ⟨_, rfl, (Le.forget _ trivial)⟩
  · subst hz
    obtain _ := z
    replace h := ho1
    show Tri _ _ _ _
    refine tri_le hle ?_
    refine tri_seq ?_
    refine tri_region (by exact tokW) (by exact gok) [] [] rfl ?_
    show Tri _ _ _ _
    refine tri_ret ?_
    have hy := Option.some.inj h
    subst hy
    unfold Gives
    exact ⟨_, Le.refl _ _, rfl, rfl⟩
def R_node_accent (xs : List AV) (r : Ret) : Prop := ∃ (a0 : List UInt8) (y0 : Bool), m_node_accent a0 = some y0 ∧ xs = [.s (.str a0)] ∧ r = .val (.s (.bool y0))
def S_node_accent : PSpec := pspec fun xs r => R_node_accent xs r
set_option maxHeartbeats 2000000 in
set_option maxRecDepth 100000 in
theorem ok_node_accent : PSound Tryd.prog 42 S_node_accent := by
  have gok : ∀ (f : Nat) (s : PSpec), (fun _ => none : Nat → Option PSpec) f = some s → PSound Tryd.prog f s := fun _ _ h => by cases h
  refine psound tokW Tryd.call42 Tryd.func42 rfl (fun xs r h => by obtain ⟨_, _, _, rfl, _⟩ := h; show 1 ≤ 11; decide) 11 rfl ?_
  rintro xs r w0 G0 ⟨s1, y0, h, rfl, rfl⟩ _
  rw [m_node_accent] at h
  refine tri_seq ?_
  refine tri_region (by exact tokW) (by exact gok) [] [] rfl ?_
  show Tri _ _ _ _
  refine tri_seq ?_
  refine tri_seq ?_
  refine tri_region (by exact tokW) (by exact gok) [] [] rfl ?_
  show Tri _ _ _ _
  obtain ⟨fl, hj, ho1⟩ := bind_out h
  refine tri_fl (fl := fl) (fun z => match z with | _ => ⟨ofL [], fun _ => none, 0⟩) ?_ (fun z σ' hz hle => ?_)
  · replace h := hj
    refine tri_block ?_
    refine tri_seq ?_
    refine tri_seq ?_
    refine tri_region (by exact tokW) (by exact gok) [] [] rfl ?_
    show Tri _ _ _ _
    obtain ⟨x2, hj, h⟩ := bind_out h
    refine tri_post ⟨ofL [(4, .s (.bool x2))], fun _ => none, 0⟩ ?_ (fun σ' hle => ?_)
    · replace h := hj
      refine tri_cond rfl (fun hb => ?_) (fun hb => ?_)
      · replace h := bif_t hb h
        refine tri_skip ?_
        cases h
        exact (Le.forget _ ⟨rfl, trivial⟩)
      · replace h := bif_f hb h
        refine tri_seq ?_
        refine tri_region (by exact tokW) (by exact gok) [] [] rfl ?_
        show Tri _ _ _ _
        refine tri_cond rfl (fun hb => ?_) (fun hb => ?_)
        · replace h := bif_t hb h
          refine tri_skip ?_
          cases h
          exact (Le.forget _ ⟨rfl, trivial⟩)
        · replace h := bif_f hb h
          refine tri_seq ?_
          refine tri_region (by exact tokW) (by exact gok) [] [] rfl ?_
          show Tri _ _ _ _
          refine tri_cond rfl (fun hb => ?_) (fun hb => ?_)
          · replace h := bif_t hb h
            refine tri_skip ?_
            cases h
            exact (Le.forget _ ⟨rfl, trivial⟩)
          · replace h := bif_f hb h
            refine tri_seq ?_
            refine tri_region (by exact tokW) (by exact gok) [] [] rfl ?_
            show Tri _ _ _ _
            refine tri_cond rfl (fun hb => ?_) (fun hb => ?_)
            · replace h := bif_t hb h
              refine tri_skip ?_
              cases h
              exact (Le.forget _ ⟨rfl, trivial⟩)
            · replace h := bif_f hb h
              refine tri_seq ?_
              refine tri_region (by exact tokW) (by exact gok) [] [] rfl ?_
              show Tri _ _ _ _
              refine tri_cond rfl (fun hb => ?_) (fun hb => ?_)
              · replace h := bif_t hb h
                refine tri_skip ?_
                cases h
                exact (Le.forget _ ⟨rfl, trivial⟩)
              · replace h := bif_f hb h
                refine tri_region (by exact tokW) (by exact gok) [] [] rfl ?_
                cases h
                exact (Le.forget _ ⟨rfl, trivial⟩)
    · show Tri _ _ _ _
      refine tri_le hle ?_
      refine tri_cond rfl (fun hb => ?_) (fun hb => ?_)
      · replace h := bif_t hb h
        refine tri_seq ?_
        refine tri_region (by exact tokW) (by exact gok) [] [] rfl ?_
        show Tri _ _ _ _
        refine tri_ret ?_
        cases h
        replace h : some _ = some _ := ho1
        have hy := Option.some.inj h
        subst hy
        unfold Gives
        exact ⟨_, Le.refl _ _, rfl, rfl⟩
      · replace h := bif_f hb h
        refine tri_skip ?_
        cases h
        exact ⟨_, rfl, (Le.forget _ trivial)⟩
  · subst hz
    obtain _ := z
    replace h := ho1
    show Tri _ _ _ _
    refine tri_le hle ?_
    refine tri_seq ?_
    refine tri_region (by exact tokW) (by exact gok) [] [] rfl ?_
    show Tri _ _ _ _
    refine tri_ret ?_
    have hy := Option.some.inj h
    subst hy
    unfold Gives
    exact ⟨_, Le.refl _ _, rfl, rfl⟩
def R_node_Symbol (n : Nat) (xs : List AV) (r : Ret) : Prop := ∃ (a0 : List UInt8) (y0 : Bool), m_node_Symbol n a0 = some y0 ∧ xs = [.s (.str a0)] ∧ r = .val (.s (.bool y0))
def S_node_Symbol : PSpec := pspec fun xs r => ∃ n, R_node_Symbol n xs r
set_option maxHeartbeats 2000000 in
set_option maxRecDepth 100000 in
theorem ok_node_Symbol : PSound Tryd.prog 12 S_node_Symbol := by
  have gok : ∀ f s, look? f [(39, S_node_letters), (40, S_strings_Contains), (41, S_node_keyword), (42, S_node_accent)] = some s → PSound Tryd.prog f s := look_all (by
    simp only [List.forall_mem_cons]
    exact ⟨ok_node_letters, ok_strings_Contains, ok_node_keyword, ok_node_accent, by simp⟩)
  refine psound tokW Tryd.call12 Tryd.func12 rfl (fun xs r h => by obtain ⟨n, _, _, _, rfl, _⟩ := h; show 1 ≤ 34; decide) 34 rfl ?_
  rintro xs r w0 G0 ⟨n, s1, y0, h, rfl, rfl⟩ _
  rw [m_node_Symbol] at h
  refine tri_seq ?_
  refine tri_region (by exact tokW) (by exact gok) [] [] rfl ?_
  show Tri _ _ _ _
  refine tri_seq ?_
  refine tri_seq ?_
  refine tri_region (by exact tokW) (by exact gok) [] [] rfl ?_
  show Tri _ _ _ _
  refine tri_cond rfl (fun hb => ?_) (fun hb => ?_)
  · replace h := bif_t hb h
    refine tri_seq ?_
    obtain ⟨x2, hj, h⟩ := bind_out h
    refine tri_post ⟨ofL [(2, .s (.bool x2))], fun _ => none, 0⟩ ?_ (fun σ' hle => ?_)
    · replace h := hj
      refine tri_region (by exact tokW) (by exact gok) [] [8] rfl ?_
      obtain ⟨y3, hy3, h⟩ := bind_out h
      refine ⟨_, ⟨_, _, _, hy3, rfl, rfl⟩, ?_⟩
      intro b hb
      cases b with
      | true =>
        replace h := bif_t hb.symm h
        cases h
        exact (Le.forget _ ⟨rfl, trivial⟩)
      | false =>
        replace h := bif_f hb.symm h
        obtain ⟨y4, hy4, h⟩ := bind_out h
        refine ⟨_, ⟨_, _, _, hy4, rfl, rfl⟩, ?_⟩
        cases h
        exact (Le.forget _ ⟨rfl, trivial⟩)
    · show Tri _ _ _ _
      refine tri_le hle ?_
      refine tri_ret ?_
      have hy := Option.some.inj h
      subst hy
      unfold Gives
      exact ⟨_, Le.refl _ _, rfl, rfl⟩
  · replace h := bif_f hb h
    refine tri_skip ?_
    show Tri _ _ _ _
    refine tri_seq ?_
    obtain ⟨x5, hj, h⟩ := bind_out h
    refine tri_post ⟨ofL [(2, .s (.bool x5))], fun _ => none, 0⟩ ?_ (fun σ' hle => ?_)
    · replace h := hj
      refine tri_region (by exact tokW) (by exact gok) [] [15, 20, 24, 29] rfl ?_
      intro b hb
      cases b with
      | true =>
        replace h := bif_t hb.symm h
        intro b hb
        cases b with
        | true =>
          replace h := bif_t hb.symm h
          obtain ⟨y6, hy6, h⟩ := bind_out h
          refine ⟨_, ⟨_, _, _, hy6, rfl, rfl⟩, ?_⟩
          intro b hb
          cases b with
          | true =>
            replace h := bif_t hb.symm h
            obtain ⟨y7, hy7, h⟩ := bind_out h
            refine ⟨_, ⟨_, _, hy7, rfl, rfl⟩, ?_⟩
            intro b hb
            cases b with
            | true =>
              replace h := bif_t hb.symm h
              obtain ⟨y8, hy8, h⟩ := bind_out h
              refine ⟨_, ⟨_, _, hy8, rfl, rfl⟩, ?_⟩
              cases h
              exact (Le.forget _ ⟨rfl, trivial⟩)
            | false =>
              replace h := bif_f hb.symm h
              cases h
              exact (Le.forget _ ⟨rfl, trivial⟩)
          | false =>
            replace h := bif_f hb.symm h
            intro b hb
            subst hb
            cases h
            exact (Le.forget _ ⟨rfl, trivial⟩)
        | false =>
          replace h := bif_f hb.symm h
          intro b hb
          subst hb
          intro b hb
          subst hb
          cases h
          exact (Le.forget _ ⟨rfl, trivial⟩)
      | false =>
        replace h := bif_f hb.symm h
        intro b hb
        subst hb
        intro b hb
        subst hb
        intro b hb
        subst hb
        cases h
        exact (Le.forget _ ⟨rfl, trivial⟩)
    · show Tri _ _ _ _
      refine tri_le hle ?_
      refine tri_ret ?_
      have hy := Option.some.inj h
      subst hy
      unfold Gives
      exact ⟨_, Le.refl _ _, rfl, rfl⟩
def R_stringslite_Cut (xs : List AV) (r : Ret) : Prop := ∃ (a0 : List UInt8) (a1 : List UInt8) (y0 : List UInt8) (y1 : List UInt8) (y2 : Bool), m_stringslite_Cut a0 a1 = some (y0, y1, y2) ∧ xs = [.s (.str a0), .s (.str a1)] ∧ r = .val (.tup [.s (.str y0), .s (.str y1), .s (.bool y2)])
def S_stringslite_Cut : PSpec := pspec fun xs r => R_stringslite_Cut xs r
set_option maxHeartbeats 2000000 in
set_option maxRecDepth 100000 in
theorem ok_stringslite_Cut : PSound Tryd.prog 72 S_stringslite_Cut := by
  have gok : ∀ f s, look? f [(83, S_stringslite_Index)] = some s → PSound Tryd.prog f s := look_all (by
    simp only [List.forall_mem_cons]
    exact ⟨ok_stringslite_Index, by simp⟩)
  refine psound tokW Tryd.call72 Tryd.func72 rfl (fun xs r h => by obtain ⟨_, _, _, _, _, _, rfl, _⟩ := h; show 2 ≤ 23; decide) 23 rfl ?_
  rintro xs r w0 G0 ⟨s1, sep2, y0, y1, y2, h, rfl, rfl⟩ _
  rw [m_stringslite_Cut] at h
  refine tri_seq ?_
  refine tri_region (by exact tokW) (by exact gok) [] [] rfl ?_
  show Tri _ _ _ _
  refine tri_seq ?_
  refine tri_seq ?_
  refine tri_region (by exact tokW) (by exact gok) [] [] rfl ?_
  obtain ⟨y3, hy3, h⟩ := bind_out h
  refine ⟨_, ⟨_, _, _, hy3, rfl, rfl⟩, ?_⟩
  show Tri _ _ _ _
  refine tri_seq ?_
  refine tri_region (by exact tokW) (by exact gok) [] [] rfl ?_
  show Tri _ _ _ _
  refine tri_cond rfl (fun hb => ?_) (fun hb => ?_)
  · replace h := bif_t hb h
    refine tri_seq ?_
    refine tri_drawn (by exact tokW) (by exact gok) (by exact mixed) [] [] [] rfl (by decide +kernel) ?_
    obtain ⟨hq, h⟩ := req_out h
    refine And.intro hq ?_
    obtain ⟨hq, h⟩ := req_out h
    refine And.intro hq ?_
    show Tri _ _ _ _
    refine tri_ret ?_
    obtain ⟨hj1, hk1⟩ := Prod.mk.inj (Option.some.inj h)
    subst hj1
    obtain ⟨hj2, hk2⟩ := Prod.mk.inj hk1
    subst hj2
    subst hk2
    unfold Gives
    exact ⟨_, Le.refl _ _, rfl, rfl⟩
  · replace h := bif_f hb h
    refine tri_skip ?_
    show Tri _ _ _ _
    refine tri_seq ?_
    refine tri_region (by exact tokW) (by exact gok) [] [] rfl ?_
    show Tri _ _ _ _
    refine tri_ret ?_
    obtain ⟨hj1, hk1⟩ := Prod.mk.inj (Option.some.inj h)
    subst hj1
    obtain ⟨hj2, hk2⟩ := Prod.mk.inj hk1
    subst hj2
    subst hk2
    unfold Gives
    exact ⟨_, Le.refl _ _, rfl, rfl⟩
def R_strings_Cut (xs : List AV) (r : Ret) : Prop := ∃ (a0 : List UInt8) (a1 : List UInt8) (y0 : List UInt8) (y1 : List UInt8) (y2 : Bool), m_strings_Cut a0 a1 = some (y0, y1, y2) ∧ xs = [.s (.str a0), .s (.str a1)] ∧ r = .val (.tup [.s (.str y0), .s (.str y1), .s (.bool y2)])
def S_strings_Cut : PSpec := pspec fun xs r => R_strings_Cut xs r
set_option maxHeartbeats 2000000 in
set_option maxRecDepth 100000 in
theorem ok_strings_Cut : PSound Tryd.prog 48 S_strings_Cut := by
  have gok : ∀ f s, look? f [(72, S_stringslite_Cut)] = some s → PSound Tryd.prog f s := look_all (by
    simp only [List.forall_mem_cons]
    exact ⟨ok_stringslite_Cut, by simp⟩)
  refine psound tokW Tryd.call48 Tryd.func48 rfl (fun xs r h => by obtain ⟨_, _, _, _, _, _, rfl, _⟩ := h; show 2 ≤ 13; decide) 13 rfl ?_
  rintro xs r w0 G0 ⟨s1, sep2, y0, y1, y2, h, rfl, rfl⟩ _
  rw [m_strings_Cut] at h
  refine tri_seq ?_
  refine tri_region (by exact tokW) (by exact gok) [] [] rfl ?_
  show Tri _ _ _ _
  refine tri_seq ?_
  refine tri_region (by exact tokW) (by exact gok) [] [] rfl ?_
  obtain ⟨⟨y3, y4, y5⟩, hy3, h⟩ := bind_out h
  refine ⟨_, ⟨_, _, _, _, _, hy3, rfl, rfl⟩, ?_⟩
  show Tri _ _ _ _
  refine tri_ret ?_
  obtain ⟨hj1, hk1⟩ := Prod.mk.inj (Option.some.inj h)
  subst hj1
  obtain ⟨hj2, hk2⟩ := Prod.mk.inj hk1
  subst hj2
  subst hk2
  unfold Gives
  exact ⟨_, Le.refl _ _, rfl, rfl⟩
def R_node_digits (n : Nat) (xs : List AV) (r : Ret) : Prop := ∃ (a0 : List UInt8) (y0 : Bool), m_node_digits n a0 = some y0 ∧ xs = [.s (.str a0)] ∧ r = .val (.s (.bool y0))
def S_node_digits : PSpec := pspec fun xs r => ∃ n, R_node_digits n xs r
set_option maxHeartbeats 2000000 in
set_option maxRecDepth 100000 in
theorem ok_node_digits : PSound Tryd.prog 49 S_node_digits := by
  have gok : ∀ (f : Nat) (s : PSpec), (fun _ => none : Nat → Option PSpec) f = some s → PSound Tryd.prog f s := fun _ _ h => by cases h
  refine psound tokW Tryd.call49 Tryd.func49 rfl (fun xs r h => by obtain ⟨n, _, _, _, rfl, _⟩ := h; show 1 ≤ 22; decide) 22 rfl ?_
  rintro xs r w0 G0 ⟨n, s1, y0, h, rfl, rfl⟩ _
  rw [m_node_digits] at h
  refine tri_seq ?_
  refine tri_region (by exact tokW) (by exact gok) [] [] rfl ?_
  show Tri _ _ _ _
  refine tri_seq ?_
  refine tri_seq ?_
  refine tri_region (by exact tokW) (by exact gok) [] [] rfl ?_
  show Tri _ _ _ _
  obtain ⟨fl, hl, ho1⟩ := bind_out h
  refine tri_fl (fl := fl) (fun z => match z with | _ => ⟨ofL [(0, .s (.str s1))], fun _ => none, 0⟩) ?_ (fun z σ' hz hle => ?_)
  · refine tri_block (tri_loopI (X := Nat × Int) (fun y => match y with | (k, i2) => ⟨ofL [(0, .s (.str s1)), (3, .s (.int .i64 i2))], fun _ => none, 0⟩) (fun y => m_node_digits_l1 s1 y.1 y.2 = some fl) (fun y => y.1) (n, 0) hl ?_ ?_)
    · exact (Le.forget _ ⟨rfl, rfl, trivial⟩)
    · rintro ⟨k, i2⟩ h
      cases k with
      | zero => cases h
      | succ k =>
        replace h : m_node_digits_l1 s1 (k+1) i2 = some fl := h
        rw [m_node_digits_l1] at h
        refine tri_seq ?_
        refine tri_seq ?_
        refine tri_region (by exact tokW) (by exact gok) [] [] rfl ?_
        show Tri _ _ _ _
        refine tri_cond rfl (fun hb => ?_) (fun hb => ?_)
        · replace h := bif_t hb h
          refine tri_skip ?_
          show Tri _ _ _ _
          refine tri_seq ?_
          refine tri_block ?_
          refine tri_seq ?_
          obtain ⟨x3, hj, h⟩ := bind_out h
          refine tri_post ⟨ofL [(0, .s (.str s1)), (3, .s (.int .i64 i2)), (19, .s (.bool x3))], fun _ => none, 0⟩ ?_ (fun σ' hle => ?_)
          · replace h := hj
            refine tri_region (by exact tokW) (by exact gok) [] [12, 14, 17] rfl ?_
            obtain ⟨c4, hc4, h⟩ := bind_out h
            refine And.intro (str_ok hc4).1 ?_
            intro v5 hv5
            obtain rfl : (c4.toNat : Int) = v5 := (hv5.trans (str_ok hc4).2).symm
            intro b hb
            cases b with
            | true =>
              replace h := bif_t hb.symm h
              cases h
              exact (Le.forget _ ⟨rfl, rfl, rfl, trivial⟩)
            | false =>
              replace h := bif_f hb.symm h
              obtain ⟨c6, hc6, h⟩ := bind_out h
              refine And.intro (str_ok hc6).1 ?_
              intro v7 hv7
              obtain rfl : (c6.toNat : Int) = v7 := (hv7.trans (str_ok hc6).2).symm
              cases h
              exact (Le.forget _ ⟨rfl, rfl, rfl, trivial⟩)
          · show Tri _ _ _ _
            refine tri_le hle ?_
            refine tri_cond rfl (fun hb => ?_) (fun hb => ?_)
            · replace h := bif_t hb h
              refine tri_seq ?_
              refine tri_region (by exact tokW) (by exact gok) [] [] rfl ?_
              show Tri _ _ _ _
              refine tri_ret ?_
              cases h
              replace h : some _ = some _ := ho1
              have hy := Option.some.inj h
              subst hy
              unfold Gives
              exact ⟨_, Le.refl _ _, rfl, rfl⟩
            · replace h := bif_f hb h
              refine tri_skip ?_
              show Tri _ _ _ _
              refine tri_region (by exact tokW) (by exact gok) [] [] rfl ?_
              refine ⟨(k, IntKind.i64.wrap (i2 + 1)), h, (Le.forget _ ⟨rfl, rfl, trivial⟩), Nat.lt_succ_self k⟩
        · replace h := bif_f hb h
          refine tri_exit ?_
          cases h
          exact ⟨_, rfl, (Le.forget _ ⟨rfl, trivial⟩)⟩
  · subst hz
    obtain _ := z
    replace h := ho1
    show Tri _ _ _ _
    refine tri_le hle ?_
    refine tri_seq ?_
    refine tri_region (by exact tokW) (by exact gok) [] [] rfl ?_
    show Tri _ _ _ _
    refine tri_ret ?_
    have hy := Option.some.inj h
    subst hy
    unfold Gives
    exact ⟨_, Le.refl _ _, rfl, rfl⟩
def R_node_Number (n : Nat) (xs : List AV) (r : Ret) : Prop := ∃ (a0 : List UInt8) (y0 : Bool), m_node_Number n a0 = some y0 ∧ xs = [.s (.str a0)] ∧ r = .val (.s (.bool y0))
def S_node_Number : PSpec := pspec fun xs r => ∃ n, R_node_Number n xs r
set_option maxHeartbeats 2000000 in
set_option maxRecDepth 100000 in
theorem ok_node_Number : PSound Tryd.prog 14 S_node_Number := by
  have gok : ∀ f s, look? f [(48, S_strings_Cut), (49, S_node_digits)] = some s → PSound Tryd.prog f s := look_all (by
    simp only [List.forall_mem_cons]
    exact ⟨ok_strings_Cut, ok_node_digits, by simp⟩)
  refine psound tokW Tryd.call14 Tryd.func14 rfl (fun xs r h => by obtain ⟨n, _, _, _, rfl, _⟩ := h; show 1 ≤ 27; decide) 27 rfl ?_
  rintro xs r w0 G0 ⟨n, s1, y0, h, rfl, rfl⟩ _
  rw [m_node_Number] at h
  refine tri_seq ?_
  refine tri_region (by exact tokW) (by exact gok) [] [] rfl ?_
  show Tri _ _ _ _
  refine tri_seq ?_
  refine tri_region (by exact tokW) (by exact gok) [] [] rfl ?_
  obtain ⟨⟨y2, y3, y4⟩, hy2, h⟩ := bind_out h
  refine ⟨_, ⟨_, _, _, _, _, hy2, rfl, rfl⟩, ?_⟩
  show Tri _ _ _ _
  refine tri_seq ?_
  obtain ⟨x5, hj, h⟩ := bind_out h
  refine tri_post ⟨ofL [(2, .s (.bool x5))], fun _ => none, 0⟩ ?_ (fun σ' hle => ?_)
  · replace h := hj
    refine tri_region (by exact tokW) (by exact gok) [] [15, 19, 22] rfl ?_
    intro b hb
    cases b with
    | true =>
      replace h := bif_t hb.symm h
      obtain ⟨y6, hy6, h⟩ := bind_out h
      refine ⟨_, ⟨_, _, _, hy6, rfl, rfl⟩, ?_⟩
      intro b hb
      cases b with
      | true =>
        replace h := bif_t hb.symm h
        intro b hb
        cases b with
        | true =>
          replace h := bif_t hb.symm h
          cases h
          exact (Le.forget _ ⟨rfl, trivial⟩)
        | false =>
          replace h := bif_f hb.symm h
          obtain ⟨y7, hy7, h⟩ := bind_out h
          refine ⟨_, ⟨_, _, _, hy7, rfl, rfl⟩, ?_⟩
          cases h
          exact (Le.forget _ ⟨rfl, trivial⟩)
      | false =>
        replace h := bif_f hb.symm h
        cases h
        exact (Le.forget _ ⟨rfl, trivial⟩)
    | false =>
      replace h := bif_f hb.symm h
      intro b hb
      subst hb
      cases h
      exact (Le.forget _ ⟨rfl, trivial⟩)
  · show Tri _ _ _ _
    refine tri_le hle ?_
    refine tri_ret ?_
    have hy := Option.some.inj h
    subst hy
    unfold Gives
    exact ⟨_, Le.refl _ _, rfl, rfl⟩
def R_node_plain (n : Nat) (xs : List AV) (r : Ret) : Prop := ∃ (a0 : List UInt8) (y0 : Bool), m_node_plain n a0 = some y0 ∧ xs = [.s (.str a0)] ∧ r = .val (.s (.bool y0))
def S_node_plain : PSpec := pspec fun xs r => ∃ n, R_node_plain n xs r
set_option maxHeartbeats 2000000 in
set_option maxRecDepth 100000 in
theorem ok_node_plain : PSound Tryd.prog 74 S_node_plain := by
  have gok : ∀ (f : Nat) (s : PSpec), (fun _ => none : Nat → Option PSpec) f = some s → PSound Tryd.prog f s := fun _ _ h => by cases h
  refine psound tokW Tryd.call74 Tryd.func74 rfl (fun xs r h => by obtain ⟨n, _, _, _, rfl, _⟩ := h; show 1 ≤ 23; decide) 23 rfl ?_
  rintro xs r w0 G0 ⟨n, s1, y0, h, rfl, rfl⟩ _
  rw [m_node_plain] at h
  refine tri_seq ?_
  refine tri_region (by exact tokW) (by exact gok) [] [] rfl ?_
  show Tri _ _ _ _
  refine tri_seq ?_
  refine tri_seq ?_
  refine tri_region (by exact tokW) (by exact gok) [] [] rfl ?_
  show Tri _ _ _ _
  obtain ⟨fl, hl, ho1⟩ := bind_out h
  refine tri_fl (fl := fl) (fun z => match z with | _ => ⟨ofL [(0, .s (.str s1))], fun _ => none, 0⟩) ?_ (fun z σ' hz hle => ?_)
  · refine tri_block (tri_loopI (X := Nat × Int) (fun y => match y with | (k, i2) => ⟨ofL [(0, .s (.str s1)), (3, .s (.int .i64 i2))], fun _ => none, 0⟩) (fun y => m_node_plain_l1 s1 y.1 y.2 = some fl) (fun y => y.1) (n, 0) hl ?_ ?_)
    · exact (Le.forget _ ⟨rfl, rfl, trivial⟩)
    · rintro ⟨k, i2⟩ h
      cases k with
      | zero => cases h
      | succ k =>
        replace h : m_node_plain_l1 s1 (k+1) i2 = some fl := h
        rw [m_node_plain_l1] at h
        refine tri_seq ?_
        refine tri_seq ?_
        refine tri_region (by exact tokW) (by exact gok) [] [] rfl ?_
        show Tri _ _ _ _
        refine tri_cond rfl (fun hb => ?_) (fun hb => ?_)
        · replace h := bif_t hb h
          refine tri_skip ?_
          show Tri _ _ _ _
          refine tri_seq ?_
          refine tri_block ?_
          refine tri_seq ?_
          obtain ⟨x3, hj, h⟩ := bind_out h
          refine tri_post ⟨ofL [(0, .s (.str s1)), (3, .s (.int .i64 i2)), (19, .s (.bool x3))], fun _ => none, 0⟩ ?_ (fun σ' hle => ?_)
          · replace h := hj
            refine tri_region (by exact tokW) (by exact gok) [] [12, 14, 17] rfl ?_
            obtain ⟨c4, hc4, h⟩ := bind_out h
            refine And.intro (str_ok hc4).1 ?_
            intro v5 hv5
            obtain rfl : (c4.toNat : Int) = v5 := (hv5.trans (str_ok hc4).2).symm
            intro b hb
            cases b with
            | true =>
              replace h := bif_t hb.symm h
              cases h
              exact (Le.forget _ ⟨rfl, rfl, rfl, trivial⟩)
            | false =>
              replace h := bif_f hb.symm h
              obtain ⟨c6, hc6, h⟩ := bind_out h
              refine And.intro (str_ok hc6).1 ?_
              intro v7 hv7
              obtain rfl : (c6.toNat : Int) = v7 := (hv7.trans (str_ok hc6).2).symm
              cases h
              exact (Le.forget _ ⟨rfl, rfl, rfl, trivial⟩)
          · show Tri _ _ _ _
            refine tri_le hle ?_
            refine tri_cond rfl (fun hb => ?_) (fun hb => ?_)
            · replace h := bif_t hb h
              refine tri_seq ?_
              refine tri_region (by exact tokW) (by exact gok) [] [] rfl ?_
              show Tri _ _ _ _
              refine tri_ret ?_
              cases h
              replace h : some _ = some _ := ho1
              have hy := Option.some.inj h
              subst hy
              unfold Gives
              exact ⟨_, Le.refl _ _, rfl, rfl⟩
            · replace h := bif_f hb h
              refine tri_skip ?_
              show Tri _ _ _ _
              refine tri_region (by exact tokW) (by exact gok) [] [] rfl ?_
              refine ⟨(k, IntKind.i64.wrap (i2 + 1)), h, (Le.forget _ ⟨rfl, rfl, trivial⟩), Nat.lt_succ_self k⟩
        · replace h := bif_f hb h
          refine tri_exit ?_
          cases h
          exact ⟨_, rfl, (Le.forget _ ⟨rfl, trivial⟩)⟩
  · subst hz
    obtain _ := z
    replace h := ho1
    show Tri _ _ _ _
    refine tri_le hle ?_
    refine tri_seq ?_
    refine tri_region (by exact tokW) (by exact gok) [] [] rfl ?_
    show Tri _ _ _ _
    refine tri_ret ?_
    have hy := Option.some.inj h
    subst hy
    unfold Gives
    exact ⟨_, Le.refl _ _, rfl, rfl⟩
def R_node_fence (xs : List AV) (r : Ret) : Prop := ∃ (a0 : List UInt8) (y0 : Bool), m_node_fence a0 = some y0 ∧ xs = [.s (.str a0)] ∧ r = .val (.s (.bool y0))
def S_node_fence : PSpec := pspec fun xs r => R_node_fence xs r
set_option maxHeartbeats 2000000 in
set_option maxRecDepth 100000 in
theorem ok_node_fence : PSound Tryd.prog 75 S_node_fence := by
  have gok : ∀ f s, look? f [(84, S_strings_IndexByte)] = some s → PSound Tryd.prog f s := look_all (by
    simp only [List.forall_mem_cons]
    exact ⟨ok_strings_IndexByte, by simp⟩)
  refine psound tokW Tryd.call75 Tryd.func75 rfl (fun xs r h => by obtain ⟨_, _, _, rfl, _⟩ := h; show 1 ≤ 18; decide) 18 rfl ?_
  rintro xs r w0 G0 ⟨s1, y0, h, rfl, rfl⟩ _
  rw [m_node_fence] at h
  refine tri_seq ?_
  refine tri_region (by exact tokW) (by exact gok) [] [] rfl ?_
  show Tri _ _ _ _
  refine tri_seq ?_
  obtain ⟨x2, hj, h⟩ := bind_out h
  refine tri_post ⟨ofL [(2, .s (.bool x2))], fun _ => none, 0⟩ ?_ (fun σ' hle => ?_)
  · replace h := hj
    refine tri_region (by exact tokW) (by exact gok) [] [6, 8, 12, 14] rfl ?_
    intro b hb
    cases b with
    | true =>
      replace h := bif_t hb.symm h
      obtain ⟨c3, hc3, h⟩ := bind_out h
      refine And.intro (str_ok hc3).1 ?_
      intro v4 hv4
      obtain rfl : (c3.toNat : Int) = v4 := (hv4.trans (str_ok hc3).2).symm
      obtain ⟨y5, hy5, h⟩ := bind_out h
      refine ⟨_, ⟨_, _, _, hy5, rfl, rfl⟩, ?_⟩
      intro b hb
      cases b with
      | true =>
        replace h := bif_t hb.symm h
        obtain ⟨c6, hc6, h⟩ := bind_out h
        refine And.intro (str_ok hc6).1 ?_
        intro v7 hv7
        obtain rfl : (c6.toNat : Int) = v7 := (hv7.trans (str_ok hc6).2).symm
        obtain ⟨y8, hy8, h⟩ := bind_out h
        refine ⟨_, ⟨_, _, _, hy8, rfl, rfl⟩, ?_⟩
        cases h
        exact (Le.forget _ ⟨rfl, trivial⟩)
      | false =>
        replace h := bif_f hb.symm h
        cases h
        exact (Le.forget _ ⟨rfl, trivial⟩)
    | false =>
      replace h := bif_f hb.symm h
      intro b hb
      subst hb
      cases h
      exact (Le.forget _ ⟨rfl, trivial⟩)
  · show Tri _ _ _ _
    refine tri_le hle ?_
    refine tri_ret ?_
    have hy := Option.some.inj h
    subst hy
    unfold Gives
    exact ⟨_, Le.refl _ _, rfl, rfl⟩
def enc_13_node_kind (p : Unit) : List S := [.str [], .int .i64 0, .nf, .str [114, 111, 119], .int .i64 0, .fn 73, .str [115, 121, 109], .int .i64 0, .fn 12, .str [110, 117, 109], .int .i64 0, .fn 14, .str [116, 101, 120, 116], .int .i64 0, .fn 74, .str [102, 114, 97, 99], .int .i64 2, .fn 73, .str [114, 111, 111, 116], .int .i64 2, .fn 73, .str [115, 117, 98], .int .i64 2, .fn 73, .str [115, 117, 112], .int .i64 2, .fn 73, .str [98, 111, 116, 104], .int .i64 3, .fn 73, .str [97, 99, 99, 101, 110, 116], .int .i64 1, .fn 42, .str [102, 101, 110, 99, 101], .int .i64 1, .fn 75, .str [109, 97, 116, 114, 105, 120], .int .i64 0, .fn 73]
def R_node_kinds (xs : List AV) (r : Ret) : Prop := ∃ (y0 : Unit), m_node_kinds = some y0 ∧ xs = [] ∧ r = .val (.agg ((enc_13_node_kind y0).map .s))
def S_node_kinds : PSpec := pspec fun xs r => R_node_kinds xs r
set_option maxHeartbeats 2000000 in
set_option maxRecDepth 100000 in
theorem ok_node_kinds : PSound Tryd.prog 51 S_node_kinds := by
  have gok : ∀ (f : Nat) (s : PSpec), (fun _ => none : Nat → Option PSpec) f = some s → PSound Tryd.prog f s := fun _ _ h => by cases h
  refine psound tokW Tryd.call51 Tryd.func51 rfl (fun xs r h => by obtain ⟨_, _, rfl, _⟩ := h; show 0 ≤ 14; decide) 14 rfl ?_
  rintro xs r w0 G0 ⟨y0, h, rfl, rfl⟩ _
  rw [m_node_kinds] at h
  refine tri_seq ?_
  refine tri_region (by exact tokW) (by exact gok) [0] [] rfl ?_
  show Tri _ _ _ _
  refine tri_seq ?_
  refine tri_region (by exact tokW) (by exact gok) [] [] rfl ?_
  show Tri _ _ _ _
  refine tri_ret ?_
  have hy := Option.some.inj h
  subst hy
  unfold Gives
  exact ⟨_, Le.refl _ _, rfl, rfl⟩
def enc_node_checker (p : (Unit × Int)) : List S := [.str [], .int .i64 0, .nf, .str [114, 111, 119], .int .i64 0, .fn 73, .str [115, 121, 109], .int .i64 0, .fn 12, .str [110, 117, 109], .int .i64 0, .fn 14, .str [116, 101, 120, 116], .int .i64 0, .fn 74, .str [102, 114, 97, 99], .int .i64 2, .fn 73, .str [114, 111, 111, 116], .int .i64 2, .fn 73, .str [115, 117, 98], .int .i64 2, .fn 73, .str [115, 117, 112], .int .i64 2, .fn 73, .str [98, 111, 116, 104], .int .i64 3, .fn 73, .str [97, 99, 99, 101, 110, 116], .int .i64 1, .fn 42, .str [102, 101, 110, 99, 101], .int .i64 1, .fn 75, .str [109, 97, 116, 114, 105, 120], .int .i64 0, .fn 73, .int .i64 p.2]
def R_node_checker_own (n : Nat) (xs : List AV) (os : List Ob) (x : AV) (os' : List (Option Ob)) : Prop := ∃ (a0 : (Unit × Int)) (a1 : Nd) (y0 : Bool) (z0 : (Unit × Int)), m_node_checker_own n a0 a1 = some (y0, z0) ∧ xs = [.op 0 0, .s (.pt (Nd.enc a1))] ∧ os = [.box 79 ((enc_node_checker a0).map .s)] ∧ x = .s (.bool y0) ∧ os' = [some (.box 79 ((enc_node_checker z0).map .s))]
def S_node_checker_own : PSpec := ospec (fun xs os x os' => ∃ n, R_node_checker_own n xs os x os')
set_option maxHeartbeats 2000000 in
set_option maxRecDepth 100000 in
theorem ok_node_checker_own : PSound Tryd.prog 79 S_node_checker_own := by
  have gok : ∀ f s, look? f [(73, S_node_empty), (12, S_node_Symbol), (14, S_node_Number), (74, S_node_plain), (42, S_node_accent), (75, S_node_fence)] = some s → PSound Tryd.prog f s := look_all (by
    simp only [List.forall_mem_cons]
    exact ⟨ok_node_empty, ok_node_Symbol, ok_node_Number, ok_node_plain, ok_node_accent, ok_node_fence, by simp⟩)
  refine PSound.withNil (osound tokW Tryd.call79 Tryd.func79 rfl (fun xs os x os' h => by obtain ⟨n, _, _, _, _, _, rfl, rfl, _, rfl⟩ := h; exact ⟨by show 2 ≤ 120; decide, by show 1 ≤ 1; decide⟩) 120 rfl ?_) _
  rintro xs os x os' w0 G0 B0 ⟨n, ⟨_, o1_nodes⟩, ⟨a2_kind, a2_text, a2_cols, a2_kids⟩, y0, z0, h, rfl, rfl, rfl, rfl⟩ _
  rw [m_node_checker_own] at h
  refine tri_seq ?_
  refine tri_region (by exact tokW) (by exact gok) [] [] rfl ?_
  show Tri _ _ _ _
  refine tri_seq ?_
  refine tri_seq ?_
  obtain ⟨x3, hj, h⟩ := bind_out h
  refine tri_post ⟨ofL [(0, .op 0 0), (1, .s (.pt [.int .i64 a2_kind, .str a2_text, .int .i64 a2_cols, .sl 4 (Nd.encs a2_kids)])), (34, .s (.bool x3))], ofH [(0, .box 79 [.s (.str []), .s (.int .i64 0), .s (.nf), .s (.str [114, 111, 119]), .s (.int .i64 0), .s (.fn 73), .s (.str [115, 121, 109]), .s (.int .i64 0), .s (.fn 12), .s (.str [110, 117, 109]), .s (.int .i64 0), .s (.fn 14), .s (.str [116, 101, 120, 116]), .s (.int .i64 0), .s (.fn 74), .s (.str [102, 114, 97, 99]), .s (.int .i64 2), .s (.fn 73), .s (.str [114, 111, 111, 116]), .s (.int .i64 2), .s (.fn 73), .s (.str [115, 117, 98]), .s (.int .i64 2), .s (.fn 73), .s (.str [115, 117, 112]), .s (.int .i64 2), .s (.fn 73), .s (.str [98, 111, 116, 104]), .s (.int .i64 3), .s (.fn 73), .s (.str [97, 99, 99, 101, 110, 116]), .s (.int .i64 1), .s (.fn 42), .s (.str [102, 101, 110, 99, 101]), .s (.int .i64 1), .s (.fn 75), .s (.str [109, 97, 116, 114, 105, 120]), .s (.int .i64 0), .s (.fn 73), .s (.int .i64 o1_nodes)])], 1⟩ ?_ (fun σ' hle => ?_)
  · replace h := hj
    refine tri_drawn (by exact tokW) (by exact gok) (by exact mixed) [] [10, 17, 22] [22] rfl (by decide +kernel) ?_
    intro b hb
    cases b with
    | true =>
      replace h := bif_t hb.symm h
      intro b hb
      subst hb
      cases h
      exact (Le.rename [(0, 0)] _ _ _ ⟨rfl, rfl, rfl, trivial⟩ ⟨rfl, ⟨_, rfl, rfl⟩, trivial⟩ rfl rfl rfl rfl rfl)
    | false =>
      replace h := bif_f hb.symm h
      intro b hb
      cases b with
      | true =>
        replace h := bif_t hb.symm h
        cases h
        exact (Le.rename [(0, 0)] _ _ _ ⟨rfl, rfl, rfl, trivial⟩ ⟨rfl, ⟨_, rfl, rfl⟩, trivial⟩ rfl rfl rfl rfl rfl)
      | false =>
        replace h := bif_f hb.symm h
        intro vsp hvsp
        cases hc : (a2_kind == 1) with
        | true =>
          replace h := bif_t hc h
          obtain rfl : (1 : Int) = vsp := (hvsp.trans (eq_of_beq hc)).symm
          refine And.intro (by decide) ?_
          obtain ⟨y4, hy4, h⟩ := bind_out h
          refine ⟨_, ⟨_, _, hy4, rfl, rfl⟩, ?_⟩
          cases h
          exact (Le.rename [(0, 0)] _ _ _ ⟨rfl, rfl, rfl, trivial⟩ ⟨rfl, ⟨_, rfl, rfl⟩, trivial⟩ rfl rfl rfl rfl rfl)
        | false =>
          replace h := bif_f hc h
          cases hc : (a2_kind == 2) with
          | true =>
            replace h := bif_t hc h
            obtain rfl : (2 : Int) = vsp := (hvsp.trans (eq_of_beq hc)).symm
            refine And.intro (by decide) ?_
            obtain ⟨y5, hy5, h⟩ := bind_out h
            refine ⟨_, ⟨_, _, _, hy5, rfl, rfl⟩, ?_⟩
            cases h
            exact (Le.rename [(0, 0)] _ _ _ ⟨rfl, rfl, rfl, trivial⟩ ⟨rfl, ⟨_, rfl, rfl⟩, trivial⟩ rfl rfl rfl rfl rfl)
          | false =>
            replace h := bif_f hc h
            cases hc : (a2_kind == 3) with
            | true =>
              replace h := bif_t hc h
              obtain rfl : (3 : Int) = vsp := (hvsp.trans (eq_of_beq hc)).symm
              refine And.intro (by decide) ?_
              obtain ⟨y6, hy6, h⟩ := bind_out h
              refine ⟨_, ⟨_, _, _, hy6, rfl, rfl⟩, ?_⟩
              cases h
              exact (Le.rename [(0, 0)] _ _ _ ⟨rfl, rfl, rfl, trivial⟩ ⟨rfl, ⟨_, rfl, rfl⟩, trivial⟩ rfl rfl rfl rfl rfl)
            | false =>
              replace h := bif_f hc h
              cases hc : (a2_kind == 4) with
              | true =>
                replace h := bif_t hc h
                obtain rfl : (4 : Int) = vsp := (hvsp.trans (eq_of_beq hc)).symm
                refine And.intro (by decide) ?_
                obtain ⟨y7, hy7, h⟩ := bind_out h
                refine ⟨_, ⟨_, _, _, hy7, rfl, rfl⟩, ?_⟩
                cases h
                exact (Le.rename [(0, 0)] _ _ _ ⟨rfl, rfl, rfl, trivial⟩ ⟨rfl, ⟨_, rfl, rfl⟩, trivial⟩ rfl rfl rfl rfl rfl)
              | false =>
                replace h := bif_f hc h
                cases hc : (a2_kind == 5) with
                | true =>
                  replace h := bif_t hc h
                  obtain rfl : (5 : Int) = vsp := (hvsp.trans (eq_of_beq hc)).symm
                  refine And.intro (by decide) ?_
                  obtain ⟨y8, hy8, h⟩ := bind_out h
                  refine ⟨_, ⟨_, _, hy8, rfl, rfl⟩, ?_⟩
                  cases h
                  exact (Le.rename [(0, 0)] _ _ _ ⟨rfl, rfl, rfl, trivial⟩ ⟨rfl, ⟨_, rfl, rfl⟩, trivial⟩ rfl rfl rfl rfl rfl)
                | false =>
                  replace h := bif_f hc h
                  cases hc : (a2_kind == 6) with
                  | true =>
                    replace h := bif_t hc h
                    obtain rfl : (6 : Int) = vsp := (hvsp.trans (eq_of_beq hc)).symm
                    refine And.intro (by decide) ?_
                    obtain ⟨y9, hy9, h⟩ := bind_out h
                    refine ⟨_, ⟨_, _, hy9, rfl, rfl⟩, ?_⟩
                    cases h
                    exact (Le.rename [(0, 0)] _ _ _ ⟨rfl, rfl, rfl, trivial⟩ ⟨rfl, ⟨_, rfl, rfl⟩, trivial⟩ rfl rfl rfl rfl rfl)
                  | false =>
                    replace h := bif_f hc h
                    cases hc : (a2_kind == 7) with
                    | true =>
                      replace h := bif_t hc h
                      obtain rfl : (7 : Int) = vsp := (hvsp.trans (eq_of_beq hc)).symm
                      refine And.intro (by decide) ?_
                      obtain ⟨y10, hy10, h⟩ := bind_out h
                      refine ⟨_, ⟨_, _, hy10, rfl, rfl⟩, ?_⟩
                      cases h
                      exact (Le.rename [(0, 0)] _ _ _ ⟨rfl, rfl, rfl, trivial⟩ ⟨rfl, ⟨_, rfl, rfl⟩, trivial⟩ rfl rfl rfl rfl rfl)
                    | false =>
                      replace h := bif_f hc h
                      cases hc : (a2_kind == 8) with
                      | true =>
                        replace h := bif_t hc h
                        obtain rfl : (8 : Int) = vsp := (hvsp.trans (eq_of_beq hc)).symm
                        refine And.intro (by decide) ?_
                        obtain ⟨y11, hy11, h⟩ := bind_out h
                        refine ⟨_, ⟨_, _, hy11, rfl, rfl⟩, ?_⟩
                        cases h
                        exact (Le.rename [(0, 0)] _ _ _ ⟨rfl, rfl, rfl, trivial⟩ ⟨rfl, ⟨_, rfl, rfl⟩, trivial⟩ rfl rfl rfl rfl rfl)
                      | false =>
                        replace h := bif_f hc h
                        cases hc : (a2_kind == 9) with
                        | true =>
                          replace h := bif_t hc h
                          obtain rfl : (9 : Int) = vsp := (hvsp.trans (eq_of_beq hc)).symm
                          refine And.intro (by decide) ?_
                          obtain ⟨y12, hy12, h⟩ := bind_out h
                          refine ⟨_, ⟨_, _, hy12, rfl, rfl⟩, ?_⟩
                          cases h
                          exact (Le.rename [(0, 0)] _ _ _ ⟨rfl, rfl, rfl, trivial⟩ ⟨rfl, ⟨_, rfl, rfl⟩, trivial⟩ rfl rfl rfl rfl rfl)
                        | false =>
                          replace h := bif_f hc h
                          cases hc : (a2_kind == 10) with
                          | true =>
                            replace h := bif_t hc h
                            obtain rfl : (10 : Int) = vsp := (hvsp.trans (eq_of_beq hc)).symm
                            refine And.intro (by decide) ?_
                            obtain ⟨y13, hy13, h⟩ := bind_out h
                            refine ⟨_, ⟨_, _, hy13, rfl, rfl⟩, ?_⟩
                            cases h
                            exact (Le.rename [(0, 0)] _ _ _ ⟨rfl, rfl, rfl, trivial⟩ ⟨rfl, ⟨_, rfl, rfl⟩, trivial⟩ rfl rfl rfl rfl rfl)
                          | false =>
                            replace h := bif_f hc h
                            cases hc : (a2_kind == 11) with
                            | true =>
                              replace h := bif_t hc h
                              obtain rfl : (11 : Int) = vsp := (hvsp.trans (eq_of_beq hc)).symm
                              refine And.intro (by decide) ?_
                              obtain ⟨y14, hy14, h⟩ := bind_out h
                              refine ⟨_, ⟨_, _, hy14, rfl, rfl⟩, ?_⟩
                              cases h
                              exact (Le.rename [(0, 0)] _ _ _ ⟨rfl, rfl, rfl, trivial⟩ ⟨rfl, ⟨_, rfl, rfl⟩, trivial⟩ rfl rfl rfl rfl rfl)
                            | false =>
                              replace h := bif_f hc h
                              cases hc : (a2_kind == 12) with
                              | true =>
                                replace h := bif_t hc h
                                obtain rfl : (12 : Int) = vsp := (hvsp.trans (eq_of_beq hc)).symm
                                refine And.intro (by decide) ?_
                                obtain ⟨y15, hy15, h⟩ := bind_out h
                                refine ⟨_, ⟨_, _, hy15, rfl, rfl⟩, ?_⟩
                                cases h
                                exact (Le.rename [(0, 0)] _ _ _ ⟨rfl, rfl, rfl, trivial⟩ ⟨rfl, ⟨_, rfl, rfl⟩, trivial⟩ rfl rfl rfl rfl rfl)
                              | false =>
                                replace h := bif_f hc h
                                cases h
  · show Tri _ _ _ _
    refine tri_le hle ?_
    refine tri_cond rfl (fun hb => ?_) (fun hb => ?_)
    · replace h := bif_t hb h
      refine tri_seq ?_
      refine tri_region (by exact tokW) (by exact gok) [] [] rfl ?_
      show Tri _ _ _ _
      refine tri_ret ?_
      obtain ⟨hj1, hk1⟩ := Prod.mk.inj (Option.some.inj h)
      subst hj1
      subst hk1
      unfold GivesO
      exact ⟨_, (Le.rename [(0, 0)] [(4, .s (.bool false))] [(0, .box 79 [.s (.str []), .s (.int .i64 0), .s (.nf), .s (.str [114, 111, 119]), .s (.int .i64 0), .s (.fn 73), .s (.str [115, 121, 109]), .s (.int .i64 0), .s (.fn 12), .s (.str [110, 117, 109]), .s (.int .i64 0), .s (.fn 14), .s (.str [116, 101, 120, 116]), .s (.int .i64 0), .s (.fn 74), .s (.str [102, 114, 97, 99]), .s (.int .i64 2), .s (.fn 73), .s (.str [114, 111, 111, 116]), .s (.int .i64 2), .s (.fn 73), .s (.str [115, 117, 98]), .s (.int .i64 2), .s (.fn 73), .s (.str [115, 117, 112]), .s (.int .i64 2), .s (.fn 73), .s (.str [98, 111, 116, 104]), .s (.int .i64 3), .s (.fn 73), .s (.str [97, 99, 99, 101, 110, 116]), .s (.int .i64 1), .s (.fn 42), .s (.str [102, 101, 110, 99, 101]), .s (.int .i64 1), .s (.fn 75), .s (.str [109, 97, 116, 114, 105, 120]), .s (.int .i64 0), .s (.fn 73), .s (.int .i64 o1_nodes)])] 1 ⟨rfl, trivial⟩ ⟨rfl, ⟨_, rfl, rfl⟩, trivial⟩ rfl rfl rfl rfl rfl), rfl, rfl, rfl, rfl, trivial⟩
    · replace h := bif_f hb h
      refine tri_skip ?_
      show Tri _ _ _ _
      refine tri_seq ?_
      refine tri_seq ?_
      refine tri_region (by exact tokW) (by exact gok) [] [] rfl ?_
      show Tri _ _ _ _
      refine tri_block ?_
      refine tri_seq ?_
      refine tri_region (by exact tokW) (by exact gok) [] [] rfl ?_
      show Tri _ _ _ _
      refine tri_cond rfl (fun hb => ?_) (fun hb => ?_)
      · replace h := bif_t hb h
        refine tri_seq ?_
        obtain ⟨x16, hj, h⟩ := bind_out h
        refine tri_post ⟨ofL [(4, .s (.bool x16))], ofH [(0, .box 79 [.s (.str []), .s (.int .i64 0), .s (.nf), .s (.str [114, 111, 119]), .s (.int .i64 0), .s (.fn 73), .s (.str [115, 121, 109]), .s (.int .i64 0), .s (.fn 12), .s (.str [110, 117, 109]), .s (.int .i64 0), .s (.fn 14), .s (.str [116, 101, 120, 116]), .s (.int .i64 0), .s (.fn 74), .s (.str [102, 114, 97, 99]), .s (.int .i64 2), .s (.fn 73), .s (.str [114, 111, 111, 116]), .s (.int .i64 2), .s (.fn 73), .s (.str [115, 117, 98]), .s (.int .i64 2), .s (.fn 73), .s (.str [115, 117, 112]), .s (.int .i64 2), .s (.fn 73), .s (.str [98, 111, 116, 104]), .s (.int .i64 3), .s (.fn 73), .s (.str [97, 99, 99, 101, 110, 116]), .s (.int .i64 1), .s (.fn 42), .s (.str [102, 101, 110, 99, 101]), .s (.int .i64 1), .s (.fn 75), .s (.str [109, 97, 116, 114, 105, 120]), .s (.int .i64 0), .s (.fn 73), .s (.int .i64 o1_nodes)])], 1⟩ ?_ (fun σ' hle => ?_)
        · replace h := hj
          refine tri_region (by exact tokW) (by exact gok) [] [46, 51] rfl ?_
          intro b hb
          cases b with
          | true =>
            replace h := bif_t hb.symm h
            intro n17 hn17
            obtain rfl : (a2_kids.length : Int) = n17 := (hn17.trans (congrArg (fun m : Nat => (m : Int)) (rlen Nd.encs_eq a2_kids))).symm
            cases h
            exact (Le.rename [(0, 0)] _ _ _ ⟨rfl, trivial⟩ ⟨rfl, ⟨_, rfl, rfl⟩, trivial⟩ rfl rfl rfl rfl rfl)
          | false =>
            replace h := bif_f hb.symm h
            cases h
            exact (Le.rename [(0, 0)] _ _ _ ⟨rfl, trivial⟩ ⟨rfl, ⟨_, rfl, rfl⟩, trivial⟩ rfl rfl rfl rfl rfl)
        · show Tri _ _ _ _
          refine tri_le hle ?_
          refine tri_ret ?_
          obtain ⟨hj1, hk1⟩ := Prod.mk.inj (Option.some.inj h)
          subst hj1
          subst hk1
          unfold GivesO
          exact ⟨_, (Le.rename [(0, 0)] [(4, .s (.bool x16))] [(0, .box 79 [.s (.str []), .s (.int .i64 0), .s (.nf), .s (.str [114, 111, 119]), .s (.int .i64 0), .s (.fn 73), .s (.str [115, 121, 109]), .s (.int .i64 0), .s (.fn 12), .s (.str [110, 117, 109]), .s (.int .i64 0), .s (.fn 14), .s (.str [116, 101, 120, 116]), .s (.int .i64 0), .s (.fn 74), .s (.str [102, 114, 97, 99]), .s (.int .i64 2), .s (.fn 73), .s (.str [114, 111, 111, 116]), .s (.int .i64 2), .s (.fn 73), .s (.str [115, 117, 98]), .s (.int .i64 2), .s (.fn 73), .s (.str [115, 117, 112]), .s (.int .i64 2), .s (.fn 73), .s (.str [98, 111, 116, 104]), .s (.int .i64 3), .s (.fn 73), .s (.str [97, 99, 99, 101, 110, 116]), .s (.int .i64 1), .s (.fn 42), .s (.str [102, 101, 110, 99, 101]), .s (.int .i64 1), .s (.fn 75), .s (.str [109, 97, 116, 114, 105, 120]), .s (.int .i64 0), .s (.fn 73), .s (.int .i64 o1_nodes)])] 1 ⟨rfl, trivial⟩ ⟨rfl, ⟨_, rfl, rfl⟩, trivial⟩ rfl rfl rfl rfl rfl), rfl, rfl, rfl, rfl, trivial⟩
      · replace h := bif_f hb h
        refine tri_seq ?_
        refine tri_region (by exact tokW) (by exact gok) [] [] rfl ?_
        show Tri _ _ _ _
        refine tri_cond rfl (fun hb => ?_) (fun hb => ?_)
        · replace h := bif_t hb h
          refine tri_seq ?_
          obtain ⟨x18, hj, h⟩ := bind_out h
          refine tri_post ⟨ofL [(4, .s (.bool x18))], ofH [(0, .box 79 [.s (.str []), .s (.int .i64 0), .s (.nf), .s (.str [114, 111, 119]), .s (.int .i64 0), .s (.fn 73), .s (.str [115, 121, 109]), .s (.int .i64 0), .s (.fn 12), .s (.str [110, 117, 109]), .s (.int .i64 0), .s (.fn 14), .s (.str [116, 101, 120, 116]), .s (.int .i64 0), .s (.fn 74), .s (.str [102, 114, 97, 99]), .s (.int .i64 2), .s (.fn 73), .s (.str [114, 111, 111, 116]), .s (.int .i64 2), .s (.fn 73), .s (.str [115, 117, 98]), .s (.int .i64 2), .s (.fn 73), .s (.str [115, 117, 112]), .s (.int .i64 2), .s (.fn 73), .s (.str [98, 111, 116, 104]), .s (.int .i64 3), .s (.fn 73), .s (.str [97, 99, 99, 101, 110, 116]), .s (.int .i64 1), .s (.fn 42), .s (.str [102, 101, 110, 99, 101]), .s (.int .i64 1), .s (.fn 75), .s (.str [109, 97, 116, 114, 105, 120]), .s (.int .i64 0), .s (.fn 73), .s (.int .i64 o1_nodes)])], 1⟩ ?_ (fun σ' hle => ?_)
          · replace h := hj
            refine tri_drawn (by exact tokW) (by exact gok) (by exact mixed) [] [61, 68, 73, 76, 81, 84, 89] [] rfl (by decide +kernel) ?_
            intro b hb
            cases b with
            | true =>
              replace h := bif_t hb.symm h
              intro b hb
              cases b with
              | true =>
                replace h := bif_t hb.symm h
                intro n19 hn19
                obtain rfl : (a2_kids.length : Int) = n19 := (hn19.trans (congrArg (fun m : Nat => (m : Int)) (rlen Nd.encs_eq a2_kids))).symm
                intro b hb
                cases b with
                | true =>
                  replace h := bif_t hb.symm h
                  intro n20 hn20
                  obtain rfl : (a2_kids.length : Int) = n20 := (hn20.trans (congrArg (fun m : Nat => (m : Int)) (rlen Nd.encs_eq a2_kids))).symm
                  intro b hb
                  cases b with
                  | true =>
                    replace h := bif_t hb.symm h
                    intro n21 hn21
                    obtain rfl : (a2_kids.length : Int) = n21 := (hn21.trans (congrArg (fun m : Nat => (m : Int)) (rlen Nd.encs_eq a2_kids))).symm
                    obtain ⟨hq, h⟩ := req_out h
                    refine And.intro hq ?_
                    cases h
                    exact (Le.rename [(0, 0)] _ _ _ ⟨rfl, trivial⟩ ⟨rfl, ⟨_, rfl, rfl⟩, trivial⟩ rfl rfl rfl rfl rfl)
                  | false =>
                    replace h := bif_f hb.symm h
                    cases h
                    exact (Le.rename [(0, 0)] _ _ _ ⟨rfl, trivial⟩ ⟨rfl, ⟨_, rfl, rfl⟩, trivial⟩ rfl rfl rfl rfl rfl)
                | false =>
                  replace h := bif_f hb.symm h
                  intro b hb
                  subst hb
                  cases h
                  exact (Le.rename [(0, 0)] _ _ _ ⟨rfl, trivial⟩ ⟨rfl, ⟨_, rfl, rfl⟩, trivial⟩ rfl rfl rfl rfl rfl)
              | false =>
                replace h := bif_f hb.symm h
                intro b hb
                subst hb
                intro b hb
                subst hb
                cases h
                exact (Le.rename [(0, 0)] _ _ _ ⟨rfl, trivial⟩ ⟨rfl, ⟨_, rfl, rfl⟩, trivial⟩ rfl rfl rfl rfl rfl)
            | false =>
              replace h := bif_f hb.symm h
              intro b hb
              subst hb
              intro b hb
              subst hb
              intro b hb
              subst hb
              cases h
              exact (Le.rename [(0, 0)] _ _ _ ⟨rfl, trivial⟩ ⟨rfl, ⟨_, rfl, rfl⟩, trivial⟩ rfl rfl rfl rfl rfl)
          · show Tri _ _ _ _
            refine tri_le hle ?_
            refine tri_ret ?_
            obtain ⟨hj1, hk1⟩ := Prod.mk.inj (Option.some.inj h)
            subst hj1
            subst hk1
            unfold GivesO
            exact ⟨_, (Le.rename [(0, 0)] [(4, .s (.bool x18))] [(0, .box 79 [.s (.str []), .s (.int .i64 0), .s (.nf), .s (.str [114, 111, 119]), .s (.int .i64 0), .s (.fn 73), .s (.str [115, 121, 109]), .s (.int .i64 0), .s (.fn 12), .s (.str [110, 117, 109]), .s (.int .i64 0), .s (.fn 14), .s (.str [116, 101, 120, 116]), .s (.int .i64 0), .s (.fn 74), .s (.str [102, 114, 97, 99]), .s (.int .i64 2), .s (.fn 73), .s (.str [114, 111, 111, 116]), .s (.int .i64 2), .s (.fn 73), .s (.str [115, 117, 98]), .s (.int .i64 2), .s (.fn 73), .s (.str [115, 117, 112]), .s (.int .i64 2), .s (.fn 73), .s (.str [98, 111, 116, 104]), .s (.int .i64 3), .s (.fn 73), .s (.str [97, 99, 99, 101, 110, 116]), .s (.int .i64 1), .s (.fn 42), .s (.str [102, 101, 110, 99, 101]), .s (.int .i64 1), .s (.fn 75), .s (.str [109, 97, 116, 114, 105, 120]), .s (.int .i64 0), .s (.fn 73), .s (.int .i64 o1_nodes)])] 1 ⟨rfl, trivial⟩ ⟨rfl, ⟨_, rfl, rfl⟩, trivial⟩ rfl rfl rfl rfl rfl), rfl, rfl, rfl, rfl, trivial⟩
        · replace h := bif_f hb h
          refine tri_skip ?_
          show Tri _ _ _ _
          refine tri_seq ?_
          obtain ⟨x22, hj, h⟩ := bind_out h
          refine tri_post ⟨ofL [(4, .s (.bool x22))], ofH [(0, .box 79 [.s (.str []), .s (.int .i64 0), .s (.nf), .s (.str [114, 111, 119]), .s (.int .i64 0), .s (.fn 73), .s (.str [115, 121, 109]), .s (.int .i64 0), .s (.fn 12), .s (.str [110, 117, 109]), .s (.int .i64 0), .s (.fn 14), .s (.str [116, 101, 120, 116]), .s (.int .i64 0), .s (.fn 74), .s (.str [102, 114, 97, 99]), .s (.int .i64 2), .s (.fn 73), .s (.str [114, 111, 111, 116]), .s (.int .i64 2), .s (.fn 73), .s (.str [115, 117, 98]), .s (.int .i64 2), .s (.fn 73), .s (.str [115, 117, 112]), .s (.int .i64 2), .s (.fn 73), .s (.str [98, 111, 116, 104]), .s (.int .i64 3), .s (.fn 73), .s (.str [97, 99, 99, 101, 110, 116]), .s (.int .i64 1), .s (.fn 42), .s (.str [102, 101, 110, 99, 101]), .s (.int .i64 1), .s (.fn 75), .s (.str [109, 97, 116, 114, 105, 120]), .s (.int .i64 0), .s (.fn 73), .s (.int .i64 o1_nodes)])], 1⟩ ?_ (fun σ' hle => ?_)
          · replace h := hj
            refine tri_drawn (by exact tokW) (by exact gok) (by exact mixed) [] [102, 107, 112] [20] rfl (by decide +kernel) ?_
            intro b hb
            cases b with
            | true =>
              replace h := bif_t hb.symm h
              intro n23 hn23
              obtain rfl : (a2_kids.length : Int) = n23 := (hn23.trans (congrArg (fun m : Nat => (m : Int)) (rlen Nd.encs_eq a2_kids))).symm
              intro vsp hvsp
              cases hc : (a2_kind == 1) with
              | true =>
                replace h := bif_t hc h
                obtain rfl : (1 : Int) = vsp := (hvsp.trans (eq_of_beq hc)).symm
                refine And.intro (by decide) ?_
                cases h
                exact (Le.rename [(0, 0)] _ _ _ ⟨rfl, trivial⟩ ⟨rfl, ⟨_, rfl, rfl⟩, trivial⟩ rfl rfl rfl rfl rfl)
              | false =>
                replace h := bif_f hc h
                cases hc : (a2_kind == 2) with
                | true =>
                  replace h := bif_t hc h
                  obtain rfl : (2 : Int) = vsp := (hvsp.trans (eq_of_beq hc)).symm
                  refine And.intro (by decide) ?_
                  cases h
                  exact (Le.rename [(0, 0)] _ _ _ ⟨rfl, trivial⟩ ⟨rfl, ⟨_, rfl, rfl⟩, trivial⟩ rfl rfl rfl rfl rfl)
                | false =>
                  replace h := bif_f hc h
                  cases hc : (a2_kind == 3) with
                  | true =>
                    replace h := bif_t hc h
                    obtain rfl : (3 : Int) = vsp := (hvsp.trans (eq_of_beq hc)).symm
                    refine And.intro (by decide) ?_
                    cases h
                    exact (Le.rename [(0, 0)] _ _ _ ⟨rfl, trivial⟩ ⟨rfl, ⟨_, rfl, rfl⟩, trivial⟩ rfl rfl rfl rfl rfl)
                  | false =>
                    replace h := bif_f hc h
                    cases hc : (a2_kind == 4) with
                    | true =>
                      replace h := bif_t hc h
                      obtain rfl : (4 : Int) = vsp := (hvsp.trans (eq_of_beq hc)).symm
                      refine And.intro (by decide) ?_
                      cases h
                      exact (Le.rename [(0, 0)] _ _ _ ⟨rfl, trivial⟩ ⟨rfl, ⟨_, rfl, rfl⟩, trivial⟩ rfl rfl rfl rfl rfl)
                    | false =>
                      replace h := bif_f hc h
                      cases hc : (a2_kind == 5) with
                      | true =>
                        replace h := bif_t hc h
                        obtain rfl : (5 : Int) = vsp := (hvsp.trans (eq_of_beq hc)).symm
                        refine And.intro (by decide) ?_
                        cases h
                        exact (Le.rename [(0, 0)] _ _ _ ⟨rfl, trivial⟩ ⟨rfl, ⟨_, rfl, rfl⟩, trivial⟩ rfl rfl rfl rfl rfl)
                      | false =>
                        replace h := bif_f hc h
                        cases hc : (a2_kind == 6) with
                        | true =>
                          replace h := bif_t hc h
                          obtain rfl : (6 : Int) = vsp := (hvsp.trans (eq_of_beq hc)).symm
                          refine And.intro (by decide) ?_
                          cases h
                          exact (Le.rename [(0, 0)] _ _ _ ⟨rfl, trivial⟩ ⟨rfl, ⟨_, rfl, rfl⟩, trivial⟩ rfl rfl rfl rfl rfl)
                        | false =>
                          replace h := bif_f hc h
                          cases hc : (a2_kind == 7) with
                          | true =>
                            replace h := bif_t hc h
                            obtain rfl : (7 : Int) = vsp := (hvsp.trans (eq_of_beq hc)).symm
                            refine And.intro (by decide) ?_
                            cases h
                            exact (Le.rename [(0, 0)] _ _ _ ⟨rfl, trivial⟩ ⟨rfl, ⟨_, rfl, rfl⟩, trivial⟩ rfl rfl rfl rfl rfl)
                          | false =>
                            replace h := bif_f hc h
                            cases hc : (a2_kind == 8) with
                            | true =>
                              replace h := bif_t hc h
                              obtain rfl : (8 : Int) = vsp := (hvsp.trans (eq_of_beq hc)).symm
                              refine And.intro (by decide) ?_
                              cases h
                              exact (Le.rename [(0, 0)] _ _ _ ⟨rfl, trivial⟩ ⟨rfl, ⟨_, rfl, rfl⟩, trivial⟩ rfl rfl rfl rfl rfl)
                            | false =>
                              replace h := bif_f hc h
                              cases hc : (a2_kind == 9) with
                              | true =>
                                replace h := bif_t hc h
                                obtain rfl : (9 : Int) = vsp := (hvsp.trans (eq_of_beq hc)).symm
                                refine And.intro (by decide) ?_
                                cases h
                                exact (Le.rename [(0, 0)] _ _ _ ⟨rfl, trivial⟩ ⟨rfl, ⟨_, rfl, rfl⟩, trivial⟩ rfl rfl rfl rfl rfl)
                              | false =>
                                replace h := bif_f hc h
                                cases hc : (a2_kind == 10) with
                                | true =>
                                  replace h := bif_t hc h
                                  obtain rfl : (10 : Int) = vsp := (hvsp.trans (eq_of_beq hc)).symm
                                  refine And.intro (by decide) ?_
                                  cases h
                                  exact (Le.rename [(0, 0)] _ _ _ ⟨rfl, trivial⟩ ⟨rfl, ⟨_, rfl, rfl⟩, trivial⟩ rfl rfl rfl rfl rfl)
                                | false =>
                                  replace h := bif_f hc h
                                  cases hc : (a2_kind == 11) with
                                  | true =>
                                    replace h := bif_t hc h
                                    obtain rfl : (11 : Int) = vsp := (hvsp.trans (eq_of_beq hc)).symm
                                    refine And.intro (by decide) ?_
                                    cases h
                                    exact (Le.rename [(0, 0)] _ _ _ ⟨rfl, trivial⟩ ⟨rfl, ⟨_, rfl, rfl⟩, trivial⟩ rfl rfl rfl rfl rfl)
                                  | false =>
                                    replace h := bif_f hc h
                                    cases hc : (a2_kind == 12) with
                                    | true =>
                                      replace h := bif_t hc h
                                      obtain rfl : (12 : Int) = vsp := (hvsp.trans (eq_of_beq hc)).symm
                                      refine And.intro (by decide) ?_
                                      cases h
                                      exact (Le.rename [(0, 0)] _ _ _ ⟨rfl, trivial⟩ ⟨rfl, ⟨_, rfl, rfl⟩, trivial⟩ rfl rfl rfl rfl rfl)
                                    | false =>
                                      replace h := bif_f hc h
                                      cases h
            | false =>
              replace h := bif_f hb.symm h
              cases h
              exact (Le.rename [(0, 0)] _ _ _ ⟨rfl, trivial⟩ ⟨rfl, ⟨_, rfl, rfl⟩, trivial⟩ rfl rfl rfl rfl rfl)
          · show Tri _ _ _ _
            refine tri_le hle ?_
            refine tri_ret ?_
            obtain ⟨hj1, hk1⟩ := Prod.mk.inj (Option.some.inj h)
            subst hj1
            subst hk1
            unfold GivesO
            exact ⟨_, (Le.rename [(0, 0)] [(4, .s (.bool x22))] [(0, .box 79 [.s (.str []), .s (.int .i64 0), .s (.nf), .s (.str [114, 111, 119]), .s (.int .i64 0), .s (.fn 73), .s (.str [115, 121, 109]), .s (.int .i64 0), .s (.fn 12), .s (.str [110, 117, 109]), .s (.int .i64 0), .s (.fn 14), .s (.str [116, 101, 120, 116]), .s (.int .i64 0), .s (.fn 74), .s (.str [102, 114, 97, 99]), .s (.int .i64 2), .s (.fn 73), .s (.str [114, 111, 111, 116]), .s (.int .i64 2), .s (.fn 73), .s (.str [115, 117, 98]), .s (.int .i64 2), .s (.fn 73), .s (.str [115, 117, 112]), .s (.int .i64 2), .s (.fn 73), .s (.str [98, 111, 116, 104]), .s (.int .i64 3), .s (.fn 73), .s (.str [97, 99, 99, 101, 110, 116]), .s (.int .i64 1), .s (.fn 42), .s (.str [102, 101, 110, 99, 101]), .s (.int .i64 1), .s (.fn 75), .s (.str [109, 97, 116, 114, 105, 120]), .s (.int .i64 0), .s (.fn 73), .s (.int .i64 o1_nodes)])] 1 ⟨rfl, trivial⟩ ⟨rfl, ⟨_, rfl, rfl⟩, trivial⟩ rfl rfl rfl rfl rfl), rfl, rfl, rfl, rfl, trivial⟩
def R_node_checker_node (n : Nat) (xs : List AV) (os : List Ob) (x : AV) (os' : List (Option Ob)) : Prop := ∃ (a0 : (Unit × Int)) (a1 : Nd) (a2 : Int) (y0 : Bool) (z0 : (Unit × Int)), m_node_checker_node n a0 a1 a2 = some (y0, z0) ∧ xs = [.op 0 0, .s (.pt (Nd.enc a1)), .s (.int .i64 a2)] ∧ os = [.box 79 ((enc_node_checker a0).map .s)] ∧ x = .s (.bool y0) ∧ os' = [some (.box 79 ((enc_node_checker z0).map .s))]
set_option maxHeartbeats 2000000 in
set_option maxRecDepth 100000 in
theorem step_node_checker_node (n : Nat) (ih : PSound Tryd.prog 59 (ospec (R_node_checker_node n))) : PSound Tryd.prog 59 (ospec (R_node_checker_node (n + 1))) := by
  have gok : ∀ f s, look? f [(79, S_node_checker_own), (59, ospec (R_node_checker_node n))] = some s → PSound Tryd.prog f s := look_all (by
    simp only [List.forall_mem_cons]
    exact ⟨ok_node_checker_own, ih, by simp⟩)
  refine PSound.withNil (osound tokW Tryd.call59 Tryd.func59 rfl (fun xs os x os' h => by obtain ⟨_, _, _, _, _, _, rfl, rfl, _, rfl⟩ := h; exact ⟨by show 3 ≤ 67; decide, by show 1 ≤ 1; decide⟩) 67 rfl ?_) _
  rintro xs os x os' w0 G0 B0 ⟨⟨_, o1_nodes⟩, ⟨a2_kind, a2_text, a2_cols, a2_kids⟩, a3, y0, z0, h, rfl, rfl, rfl, rfl⟩ _
  rw [m_node_checker_node] at h
  refine tri_seq ?_
  refine tri_region (by exact tokW) (by exact gok) [] [] rfl ?_
  show Tri _ _ _ _
  refine tri_seq ?_
  refine tri_region (by exact tokW) (by exact gok) [] [] rfl ?_
  show Tri _ _ _ _
  refine tri_seq ?_
  refine tri_seq ?_
  obtain ⟨⟨x4, x5⟩, hj, h⟩ := bind_out h
  refine tri_post ⟨ofL [(0, .op 0 0), (1, .s (.pt [.int .i64 a2_kind, .str a2_text, .int .i64 a2_cols, .sl 4 (Nd.encs a2_kids)])), (2, .s (.int .i64 a3)), (29, .s (.bool x4))], ofH [(0, .box 79 [.s (.str []), .s (.int .i64 0), .s (.nf), .s (.str [114, 111, 119]), .s (.int .i64 0), .s (.fn 73), .s (.str [115, 121, 109]), .s (.int .i64 0), .s (.fn 12), .s (.str [110, 117, 109]), .s (.int .i64 0), .s (.fn 14), .s (.str [116, 101, 120, 116]), .s (.int .i64 0), .s (.fn 74), .s (.str [102, 114, 97, 99]), .s (.int .i64 2), .s (.fn 73), .s (.str [114, 111, 111, 116]), .s (.int .i64 2), .s (.fn 73), .s (.str [115, 117, 98]), .s (.int .i64 2), .s (.fn 73), .s (.str [115, 117, 112]), .s (.int .i64 2), .s (.fn 73), .s (.str [98, 111, 116, 104]), .s (.int .i64 3), .s (.fn 73), .s (.str [97, 99, 99, 101, 110, 116]), .s (.int .i64 1), .s (.fn 42), .s (.str [102, 101, 110, 99, 101]), .s (.int .i64 1), .s (.fn 75), .s (.str [109, 97, 116, 114, 105, 120]), .s (.int .i64 0), .s (.fn 73), .s (.int .i64 x5)])], 1⟩ ?_ (fun σ' hle => ?_)
  · replace h := hj
    refine tri_region (by exact tokW) (by exact gok) [] [20, 24] rfl ?_
    intro b hb
    cases b with
    | true =>
      replace h := bif_t hb.symm h
      intro b hb
      subst hb
      cases h
      exact (Le.rename [(0, 0)] _ _ _ ⟨rfl, rfl, rfl, rfl, trivial⟩ ⟨rfl, ⟨_, rfl, rfl⟩, trivial⟩ rfl rfl rfl rfl rfl)
    | false =>
      replace h := bif_f hb.symm h
      intro b hb
      cases b with
      | true =>
        replace h := bif_t hb.symm h
        cases h
        exact (Le.rename [(0, 0)] _ _ _ ⟨rfl, rfl, rfl, rfl, trivial⟩ ⟨rfl, ⟨_, rfl, rfl⟩, trivial⟩ rfl rfl rfl rfl rfl)
      | false =>
        replace h := bif_f hb.symm h
        obtain ⟨⟨y6, ⟨_, w7_nodes⟩⟩, hy6, h⟩ := bind_out h
        refine ⟨_, _, ⟨_, _, _, _, _, hy6, rfl, rfl, rfl, rfl⟩, ?_⟩
        cases h
        exact (Le.rename [(0, 0)] _ _ _ ⟨rfl, rfl, rfl, rfl, trivial⟩ ⟨rfl, ⟨_, rfl, rfl⟩, trivial⟩ rfl rfl rfl rfl rfl)
  · show Tri _ _ _ _
    refine tri_le hle ?_
    refine tri_cond rfl (fun hb => ?_) (fun hb => ?_)
    · replace h := bif_t hb h
      refine tri_seq ?_
      refine tri_region (by exact tokW) (by exact gok) [] [] rfl ?_
      show Tri _ _ _ _
      refine tri_ret ?_
      obtain ⟨hj1, hk1⟩ := Prod.mk.inj (Option.some.inj h)
      subst hj1
      subst hk1
      unfold GivesO
      exact ⟨_, (Le.rename [(0, 0)] [(6, .s (.bool false))] [(0, .box 79 [.s (.str []), .s (.int .i64 0), .s (.nf), .s (.str [114, 111, 119]), .s (.int .i64 0), .s (.fn 73), .s (.str [115, 121, 109]), .s (.int .i64 0), .s (.fn 12), .s (.str [110, 117, 109]), .s (.int .i64 0), .s (.fn 14), .s (.str [116, 101, 120, 116]), .s (.int .i64 0), .s (.fn 74), .s (.str [102, 114, 97, 99]), .s (.int .i64 2), .s (.fn 73), .s (.str [114, 111, 111, 116]), .s (.int .i64 2), .s (.fn 73), .s (.str [115, 117, 98]), .s (.int .i64 2), .s (.fn 73), .s (.str [115, 117, 112]), .s (.int .i64 2), .s (.fn 73), .s (.str [98, 111, 116, 104]), .s (.int .i64 3), .s (.fn 73), .s (.str [97, 99, 99, 101, 110, 116]), .s (.int .i64 1), .s (.fn 42), .s (.str [102, 101, 110, 99, 101]), .s (.int .i64 1), .s (.fn 75), .s (.str [109, 97, 116, 114, 105, 120]), .s (.int .i64 0), .s (.fn 73), .s (.int .i64 x5)])] 1 ⟨rfl, trivial⟩ ⟨rfl, ⟨_, rfl, rfl⟩, trivial⟩ rfl rfl rfl rfl rfl), rfl, rfl, rfl, rfl, trivial⟩
    · replace h := bif_f hb h
      refine tri_skip ?_
      show Tri _ _ _ _
      refine tri_seq ?_
      refine tri_seq ?_
      refine tri_region (by exact tokW) (by exact gok) [] [34] rfl ?_
      intro n8 hn8
      obtain rfl : (a2_kids.length : Int) = n8 := (hn8.trans (congrArg (fun m : Nat => (m : Int)) (rlen Nd.encs_eq a2_kids))).symm
      show Tri _ _ _ _
      obtain ⟨fl, hl, ho1⟩ := bind_out h
      refine tri_fl (fl := fl) (fun z => match z with | x11 => ⟨ofL [], ofH [(0, .box 79 [.s (.str []), .s (.int .i64 0), .s (.nf), .s (.str [114, 111, 119]), .s (.int .i64 0), .s (.fn 73), .s (.str [115, 121, 109]), .s (.int .i64 0), .s (.fn 12), .s (.str [110, 117, 109]), .s (.int .i64 0), .s (.fn 14), .s (.str [116, 101, 120, 116]), .s (.int .i64 0), .s (.fn 74), .s (.str [102, 114, 97, 99]), .s (.int .i64 2), .s (.fn 73), .s (.str [114, 111, 111, 116]), .s (.int .i64 2), .s (.fn 73), .s (.str [115, 117, 98]), .s (.int .i64 2), .s (.fn 73), .s (.str [115, 117, 112]), .s (.int .i64 2), .s (.fn 73), .s (.str [98, 111, 116, 104]), .s (.int .i64 3), .s (.fn 73), .s (.str [97, 99, 99, 101, 110, 116]), .s (.int .i64 1), .s (.fn 42), .s (.str [102, 101, 110, 99, 101]), .s (.int .i64 1), .s (.fn 75), .s (.str [109, 97, 116, 114, 105, 120]), .s (.int .i64 0), .s (.fn 73), .s (.int .i64 x11)])], 1⟩) ?_ (fun x11 σ' hz hle => ?_)
      · refine tri_block (tri_loopI (X := Nat × Int × Int) (fun y => match y with | (k, x9, x10) => ⟨ofL [(0, .op 0 0), (1, .s (.pt [.int .i64 a2_kind, .str a2_text, .int .i64 a2_cols, .sl 4 (Nd.encs a2_kids)])), (2, .s (.int .i64 a3)), (34, .s (.int .i64 (a2_kids.length : Int))), (35, .s (.int .i64 x10))], ofH [(0, .box 79 [.s (.str []), .s (.int .i64 0), .s (.nf), .s (.str [114, 111, 119]), .s (.int .i64 0), .s (.fn 73), .s (.str [115, 121, 109]), .s (.int .i64 0), .s (.fn 12), .s (.str [110, 117, 109]), .s (.int .i64 0), .s (.fn 14), .s (.str [116, 101, 120, 116]), .s (.int .i64 0), .s (.fn 74), .s (.str [102, 114, 97, 99]), .s (.int .i64 2), .s (.fn 73), .s (.str [114, 111, 111, 116]), .s (.int .i64 2), .s (.fn 73), .s (.str [115, 117, 98]), .s (.int .i64 2), .s (.fn 73), .s (.str [115, 117, 112]), .s (.int .i64 2), .s (.fn 73), .s (.str [98, 111, 116, 104]), .s (.int .i64 3), .s (.fn 73), .s (.str [97, 99, 99, 101, 110, 116]), .s (.int .i64 1), .s (.fn 42), .s (.str [102, 101, 110, 99, 101]), .s (.int .i64 1), .s (.fn 75), .s (.str [109, 97, 116, 114, 105, 120]), .s (.int .i64 0), .s (.fn 73), .s (.int .i64 x9)])], 1⟩) (fun y => m_node_checker_node_l1 (m_node_checker_node n) a2_kind a2_kids a3 y.1 y.2.1 y.2.2 = some fl) (fun y => y.1) (n, x5, 0) hl ?_ ?_)
        · exact (Le.rename [(0, 0)] _ _ _ ⟨rfl, rfl, rfl, rfl, rfl, trivial⟩ ⟨rfl, ⟨_, rfl, rfl⟩, trivial⟩ rfl rfl rfl rfl rfl)
        · rintro ⟨k, x9, x10⟩ h
          cases k with
          | zero => cases h
          | succ k =>
            replace h : m_node_checker_node_l1 (m_node_checker_node n) a2_kind a2_kids a3 (k+1) x9 x10 = some fl := h
            rw [m_node_checker_node_l1] at h
            refine tri_seq ?_
            refine tri_region (by exact tokW) (by exact gok) [] [] rfl ?_
            show Tri _ _ _ _
            refine tri_seq ?_
            refine tri_cond rfl (fun hb => ?_) (fun hb => ?_)
            · replace h := bif_t hb h
              refine tri_skip ?_
              show Tri _ _ _ _
              refine tri_seq ?_
              refine tri_block ?_
              refine tri_seq ?_
              refine tri_region (by exact tokW) (by exact gok) [] [] rfl ?_
              show Tri _ _ _ _
              refine tri_seq ?_
              obtain ⟨⟨x12, x13⟩, hj, h⟩ := bind_out h
              refine tri_post ⟨ofL [(0, .op 0 0), (1, .s (.pt [.int .i64 a2_kind, .str a2_text, .int .i64 a2_cols, .sl 4 (Nd.encs a2_kids)])), (2, .s (.int .i64 a3)), (34, .s (.int .i64 (a2_kids.length : Int))), (35, .s (.int .i64 x10)), (65, .s (.bool x12))], ofH [(0, .box 79 [.s (.str []), .s (.int .i64 0), .s (.nf), .s (.str [114, 111, 119]), .s (.int .i64 0), .s (.fn 73), .s (.str [115, 121, 109]), .s (.int .i64 0), .s (.fn 12), .s (.str [110, 117, 109]), .s (.int .i64 0), .s (.fn 14), .s (.str [116, 101, 120, 116]), .s (.int .i64 0), .s (.fn 74), .s (.str [102, 114, 97, 99]), .s (.int .i64 2), .s (.fn 73), .s (.str [114, 111, 111, 116]), .s (.int .i64 2), .s (.fn 73), .s (.str [115, 117, 98]), .s (.int .i64 2), .s (.fn 73), .s (.str [115, 117, 112]), .s (.int .i64 2), .s (.fn 73), .s (.str [98, 111, 116, 104]), .s (.int .i64 3), .s (.fn 73), .s (.str [97, 99, 99, 101, 110, 116]), .s (.int .i64 1), .s (.fn 42), .s (.str [102, 101, 110, 99, 101]), .s (.int .i64 1), .s (.fn 75), .s (.str [109, 97, 116, 114, 105, 120]), .s (.int .i64 0), .s (.fn 73), .s (.int .i64 x13)])], 1⟩ ?_ (fun σ' hle => ?_)
              · replace h := hj
                refine tri_drawn (by exact tokW) (by exact gok) (by exact mixed) [] [48, 53, 60] [25] rfl (by decide +kernel) ?_
                obtain ⟨⟨e14_kind, e14_text, e14_cols, e14_kids⟩, he14, h⟩ := bind_out h
                refine And.intro (at_ok Nd.encs_eq he14).1 ?_
                intro r15 hr15
                obtain rfl : [.int .i64 e14_kind, .str e14_text, .int .i64 e14_cols, .sl 4 (Nd.encs e14_kids)] = r15 := (hr15.trans (at_ok Nd.encs_eq he14).2.1).symm
                intro b hb
                cases b with
                | true =>
                  replace h := bif_t hb.symm h
                  cases h
                  exact (Le.rename [(0, 0)] _ _ _ ⟨rfl, rfl, rfl, rfl, rfl, rfl, trivial⟩ ⟨rfl, ⟨_, rfl, rfl⟩, trivial⟩ rfl rfl rfl rfl rfl)
                | false =>
                  replace h := bif_f hb.symm h
                  obtain ⟨⟨e16_kind, e16_text, e16_cols, e16_kids⟩, he16, h⟩ := bind_out h
                  refine And.intro (at_ok Nd.encs_eq he16).1 ?_
                  intro r17 hr17
                  obtain rfl : [.int .i64 e16_kind, .str e16_text, .int .i64 e16_cols, .sl 4 (Nd.encs e16_kids)] = r17 := (hr17.trans (at_ok Nd.encs_eq he16).2.1).symm
                  obtain ⟨⟨y18, ⟨_, w19_nodes⟩⟩, hy18, h⟩ := bind_out h
                  refine ⟨_, _, ⟨_, _, _, _, _, hy18, rfl, rfl, rfl, rfl⟩, ?_⟩
                  cases h
                  exact (Le.rename [(0, 0)] _ _ _ ⟨rfl, rfl, rfl, rfl, rfl, rfl, trivial⟩ ⟨rfl, ⟨_, rfl, rfl⟩, trivial⟩ rfl rfl rfl rfl rfl)
              · show Tri _ _ _ _
                refine tri_le hle ?_
                refine tri_cond rfl (fun hb => ?_) (fun hb => ?_)
                · replace h := bif_t hb h
                  refine tri_seq ?_
                  refine tri_region (by exact tokW) (by exact gok) [] [] rfl ?_
                  show Tri _ _ _ _
                  refine tri_ret ?_
                  cases h
                  replace h : some _ = some _ := ho1
                  obtain ⟨hj1, hk1⟩ := Prod.mk.inj (Option.some.inj h)
                  subst hj1
                  subst hk1
                  unfold GivesO
                  exact ⟨_, (Le.rename [(0, 0)] [(6, .s (.bool false))] [(0, .box 79 [.s (.str []), .s (.int .i64 0), .s (.nf), .s (.str [114, 111, 119]), .s (.int .i64 0), .s (.fn 73), .s (.str [115, 121, 109]), .s (.int .i64 0), .s (.fn 12), .s (.str [110, 117, 109]), .s (.int .i64 0), .s (.fn 14), .s (.str [116, 101, 120, 116]), .s (.int .i64 0), .s (.fn 74), .s (.str [102, 114, 97, 99]), .s (.int .i64 2), .s (.fn 73), .s (.str [114, 111, 111, 116]), .s (.int .i64 2), .s (.fn 73), .s (.str [115, 117, 98]), .s (.int .i64 2), .s (.fn 73), .s (.str [115, 117, 112]), .s (.int .i64 2), .s (.fn 73), .s (.str [98, 111, 116, 104]), .s (.int .i64 3), .s (.fn 73), .s (.str [97, 99, 99, 101, 110, 116]), .s (.int .i64 1), .s (.fn 42), .s (.str [102, 101, 110, 99, 101]), .s (.int .i64 1), .s (.fn 75), .s (.str [109, 97, 116, 114, 105, 120]), .s (.int .i64 0), .s (.fn 73), .s (.int .i64 x13)])] 1 ⟨rfl, trivial⟩ ⟨rfl, ⟨_, rfl, rfl⟩, trivial⟩ rfl rfl rfl rfl rfl), rfl, rfl, rfl, rfl, trivial⟩
                · replace h := bif_f hb h
                  refine tri_skip ?_
                  show Tri _ _ _ _
                  refine tri_region (by exact tokW) (by exact gok) [] [] rfl ?_
                  refine ⟨(k, x13, IntKind.i64.wrap (x10 + 1)), h, (Le.rename [(0, 0)] _ _ _ ⟨rfl, rfl, rfl, rfl, rfl, trivial⟩ ⟨rfl, ⟨_, rfl, rfl⟩, trivial⟩ rfl rfl rfl rfl rfl), Nat.lt_succ_self k⟩
            · replace h := bif_f hb h
              refine tri_exit ?_
              cases h
              exact ⟨_, rfl, (Le.rename [(0, 0)] _ _ _ trivial ⟨rfl, ⟨_, rfl, rfl⟩, trivial⟩ rfl rfl rfl rfl rfl)⟩
      · subst hz
        replace h := ho1
        show Tri _ _ _ _
        refine tri_le hle ?_
        refine tri_seq ?_
        refine tri_region (by exact tokW) (by exact gok) [] [] rfl ?_
        show Tri _ _ _ _
        refine tri_ret ?_
        obtain ⟨hj1, hk1⟩ := Prod.mk.inj (Option.some.inj h)
        subst hj1
        subst hk1
        unfold GivesO
        exact ⟨_, (Le.rename [(0, 0)] [(6, .s (.bool true))] [(0, .box 79 [.s (.str []), .s (.int .i64 0), .s (.nf), .s (.str [114, 111, 119]), .s (.int .i64 0), .s (.fn 73), .s (.str [115, 121, 109]), .s (.int .i64 0), .s (.fn 12), .s (.str [110, 117, 109]), .s (.int .i64 0), .s (.fn 14), .s (.str [116, 101, 120, 116]), .s (.int .i64 0), .s (.fn 74), .s (.str [102, 114, 97, 99]), .s (.int .i64 2), .s (.fn 73), .s (.str [114, 111, 111, 116]), .s (.int .i64 2), .s (.fn 73), .s (.str [115, 117, 98]), .s (.int .i64 2), .s (.fn 73), .s (.str [115, 117, 112]), .s (.int .i64 2), .s (.fn 73), .s (.str [98, 111, 116, 104]), .s (.int .i64 3), .s (.fn 73), .s (.str [97, 99, 99, 101, 110, 116]), .s (.int .i64 1), .s (.fn 42), .s (.str [102, 101, 110, 99, 101]), .s (.int .i64 1), .s (.fn 75), .s (.str [109, 97, 116, 114, 105, 120]), .s (.int .i64 0), .s (.fn 73), .s (.int .i64 x11)])] 1 ⟨rfl, trivial⟩ ⟨rfl, ⟨_, rfl, rfl⟩, trivial⟩ rfl rfl rfl rfl rfl), rfl, rfl, rfl, rfl, trivial⟩
theorem all_node_checker_node : ∀ n, PSound Tryd.prog 59 (ospec (R_node_checker_node n)) := by
  intro n
  induction n with
  | zero => exact osound_none Tryd.call59 (fun xs os x os' h => by obtain ⟨_, _, _, _, _, h, _⟩ := h; cases h) _
  | succ n ih => exact step_node_checker_node n ih
def S_node_checker_node : PSpec := ospec (fun xs os x os' => ∃ n, R_node_checker_node n xs os x os')
theorem ok_node_checker_node : PSound Tryd.prog 59 S_node_checker_node := osound_all all_node_checker_node _
def R_node_Valid (n : Nat) (xs : List AV) (r : Ret) : Prop := ∃ (a0 : Nd) (y0 : Bool), m_node_Valid n a0 = some y0 ∧ xs = [.agg ((Nd.enc a0).map .s)] ∧ r = .val (.s (.bool y0))
def S_node_Valid : PSpec := pspec fun xs r => ∃ n, R_node_Valid n xs r
set_option maxHeartbeats 2000000 in
set_option maxRecDepth 100000 in
theorem ok_node_Valid : PSound Tryd.prog 23 S_node_Valid := by
  have gok : ∀ f s, look? f [(51, S_node_kinds), (59, S_node_checker_node)] = some s → PSound Tryd.prog f s := look_all (by
    simp only [List.forall_mem_cons]
    exact ⟨ok_node_kinds, ok_node_checker_node, by simp⟩)
  refine psound tokW Tryd.call23 Tryd.func23 rfl (fun xs r h => by obtain ⟨n, _, _, _, rfl, _⟩ := h; show 1 ≤ 14; decide) 14 rfl ?_
  rintro xs r w0 G0 ⟨n, ⟨n1_kind, n1_text, n1_cols, n1_kids⟩, y0, h, rfl, rfl⟩ _
  rw [m_node_Valid] at h
  refine tri_seq ?_
  refine tri_region (by exact tokW) (by exact gok) [] [] rfl ?_
  show Tri _ _ _ _
  refine tri_seq ?_
  refine tri_region (by exact tokW) (by exact gok) [6] [] rfl ?_
  obtain ⟨_, hy2, h⟩ := bind_out h
  refine ⟨_, ⟨_, hy2, rfl, rfl⟩, ?_⟩
  show Tri _ _ _ _
  refine tri_seq ?_
  obtain ⟨x3, hj, h⟩ := bind_out h
  refine tri_post ⟨ofL [(2, .s (.bool x3))], fun _ => none, 0⟩ ?_ (fun σ' hle => ?_)
  · replace h := hj
    refine tri_region (by exact tokW) (by exact gok) [] [10] rfl ?_
    intro b hb
    cases b with
    | true =>
      replace h := bif_t hb.symm h
      obtain ⟨⟨y4, ⟨_, w5_nodes⟩⟩, hy4, h⟩ := bind_out h
      refine ⟨_, _, ⟨_, _, _, _, _, _, hy4, rfl, rfl, rfl, rfl⟩, ?_⟩
      cases h
      exact (Le.rename [] _ [] 0 ⟨rfl, trivial⟩ trivial rfl rfl rfl rfl rfl)
    | false =>
      replace h := bif_f hb.symm h
      cases h
      exact (Le.rename [] _ [] 0 ⟨rfl, trivial⟩ trivial rfl rfl rfl rfl rfl)
  · show Tri _ _ _ _
    refine tri_le hle ?_
    refine tri_ret ?_
    have hy := Option.some.inj h
    subst hy
    unfold Gives
    exact ⟨_, Le.refl _ _, rfl, rfl⟩
def R_strings_Builder_WriteString (xs : List AV) (os : List Ob) (x : AV) (os' : List (Option Ob)) : Prop := ∃ (a0 : List UInt8) (a1 : List UInt8) (y0 : Int) (y1 : Unit) (z1 : List UInt8), m_strings_Builder_WriteString a0 a1 = some (y0, y1, z1) ∧ xs = [.op 0 39, .s (.str a0)] ∧ os = [.box 61 (bcells (.op 0 39) (.orow 1)), .row 5 1 (List.map brow a1)] ∧ x = .tup [.s (.int .i64 y0), .junk] ∧ os' = [some (.box 61 (bcells (.op 0 39) (.orow 2))), none, some (.row 5 1 (List.map brow z1))]
def S_strings_Builder_WriteString : PSpec := ospec (fun xs os x os' => R_strings_Builder_WriteString xs os x os')
set_option maxHeartbeats 2000000 in
set_option maxRecDepth 100000 in
theorem ok_strings_Builder_WriteString : PSound Tryd.prog 76 S_strings_Builder_WriteString := by
  have gok : ∀ f s, look? f [(78, S_strings_Builder_copyCheck)] = some s → PSound Tryd.prog f s := look_all (by
    simp only [List.forall_mem_cons]
    exact ⟨ok_strings_Builder_copyCheck, by simp⟩)
  refine PSound.withNil (osound tokW Tryd.call76 Tryd.func76 rfl (fun xs os x os' h => by obtain ⟨_, _, _, _, _, _, rfl, rfl, _, rfl⟩ := h; exact ⟨by show 2 ≤ 19; decide, by show 2 ≤ 3; decide⟩) 19 rfl ?_) _
  rintro xs os x os' w0 G0 B0 ⟨s1, b2, y0, y1, z1, h, rfl, rfl, rfl, rfl⟩ _
  rw [m_strings_Builder_WriteString] at h
  refine tri_seq ?_
  refine tri_region (by exact tokW) (by exact gok) [] [] rfl ?_
  show Tri _ _ _ _
  refine tri_seq ?_
  refine tri_region (by exact tokW) (by exact gok) [] [] rfl ?_
  obtain ⟨b3, hb3, h⟩ := bind_out h
  refine ⟨_, _, ⟨_, _, hb3, rfl, rfl, rfl, rfl⟩, ?_⟩
  show Tri _ _ _ _
  refine tri_seq ?_
  refine tri_region (by exact tokW) (by exact gok) [14] [] rfl ?_
  obtain ⟨hq, h⟩ := req_out h
  refine And.intro (show (((List.map brow) b3).length + (List.map brow s1).length) * 1 ≤ 140737488355328 ∧ ((List.map brow) b3).length + (List.map brow s1).length ≤ 9223372036854775807 from by simp only [List.length_append, List.length_cons, List.length_nil, List.length_map, rlen (fun _ => rfl)] at hq ⊢; omega) ?_
  show Tri _ _ _ _
  refine tri_le (Le.rename [(0, 0), (3, 2)] [(1, .s (.str s1))] [(0, .box 61 (bcells (.op 0 39) (.orow 2))), (2, .row 5 1 ((List.map brow) (b3 ++ s1)))] 3 ⟨rfl, trivial⟩ ⟨rfl, ⟨_, rfl, rfl⟩, rfl, ⟨_, rfl, congrArg (Ob.row 5 1) (by simp [List.map_append, List.map_take, List.map_drop, irow, brow, b8of_row, List.map_cons, List.map_nil, b8of_wrap, Nd.encs_eq, Nd.enc, enc_13_node_kind, enc_node_checker])⟩, trivial⟩ rfl rfl rfl rfl rfl) ?_
  refine tri_seq ?_
  refine tri_region (by exact tokW) (by exact gok) [] [] rfl ?_
  show Tri _ _ _ _
  refine tri_ret ?_
  obtain ⟨hj1, hk1⟩ := Prod.mk.inj (Option.some.inj h)
  subst hj1
  obtain ⟨hj2, hk2⟩ := Prod.mk.inj hk1
  subst hj2
  subst hk2
  unfold GivesO
  exact ⟨_, (Le.rename [(0, 0), (2, 2)] [(4, .s (.int .i64 (s1.length : Int)))] [(0, .box 61 (bcells (.op 0 39) (.orow 2))), (2, .row 5 1 ((List.map brow) (b3 ++ s1)))] 3 ⟨rfl, trivial⟩ ⟨rfl, ⟨_, rfl, rfl⟩, rfl, ⟨_, rfl, rfl⟩, trivial⟩ rfl rfl rfl rfl rfl), rfl, rfl, rfl, rfl, rfl, rfl, trivial⟩
def R_strings_Builder_WriteByte (xs : List AV) (os : List Ob) (x : AV) (os' : List (Option Ob)) : Prop := ∃ (a0 : UInt8) (a1 : List UInt8) (y0 : Unit) (z1 : List UInt8), m_strings_Builder_WriteByte a0 a1 = some (y0, z1) ∧ xs = [.op 0 39, .s (.int .u8 (a0.toNat : Int))] ∧ os = [.box 61 (bcells (.op 0 39) (.orow 1)), .row 5 1 (List.map brow a1)] ∧ x = .junk ∧ os' = [some (.box 61 (bcells (.op 0 39) (.orow 2))), none, some (.row 5 1 (List.map brow z1))]
def S_strings_Builder_WriteByte : PSpec := ospec (fun xs os x os' => R_strings_Builder_WriteByte xs os x os')
set_option maxHeartbeats 2000000 in
set_option maxRecDepth 100000 in
theorem ok_strings_Builder_WriteByte : PSound Tryd.prog 53 S_strings_Builder_WriteByte := by
  have gok : ∀ f s, look? f [(78, S_strings_Builder_copyCheck)] = some s → PSound Tryd.prog f s := look_all (by
    simp only [List.forall_mem_cons]
    exact ⟨ok_strings_Builder_copyCheck, by simp⟩)
  refine PSound.withNil (osound tokW Tryd.call53 Tryd.func53 rfl (fun xs os x os' h => by obtain ⟨_, _, _, _, _, rfl, rfl, _, rfl⟩ := h; exact ⟨by show 2 ≤ 17; decide, by show 2 ≤ 3; decide⟩) 17 rfl ?_) _
  rintro xs os x os' w0 G0 B0 ⟨c1, b2, y0, z1, h, rfl, rfl, rfl, rfl⟩ _
  rw [m_strings_Builder_WriteByte] at h
  refine tri_seq ?_
  refine tri_region (by exact tokW) (by exact gok) [] [] rfl ?_
  show Tri _ _ _ _
  refine tri_seq ?_
  refine tri_region (by exact tokW) (by exact gok) [] [] rfl ?_
  obtain ⟨b3, hb3, h⟩ := bind_out h
  refine ⟨_, _, ⟨_, _, hb3, rfl, rfl, rfl, rfl⟩, ?_⟩
  show Tri _ _ _ _
  refine tri_seq ?_
  refine tri_region (by exact tokW) (by exact gok) [14] [13] rfl ?_
  intro r4 hr4
  obtain rfl : (List.map brow) [c1] = r4 := (hr4.trans (by simp [List.map_append, List.map_take, List.map_drop, irow, brow, b8of_row, List.map_cons, List.map_nil, b8of_wrap, Nd.encs_eq, Nd.enc, enc_13_node_kind, enc_node_checker])).symm
  obtain ⟨hq, h⟩ := req_out h
  refine And.intro (show (((List.map brow) b3).length + ((List.map brow) [c1]).length) * 1 ≤ 140737488355328 ∧ ((List.map brow) b3).length + ((List.map brow) [c1]).length ≤ 9223372036854775807 from by simp only [List.length_append, List.length_cons, List.length_nil, List.length_map, rlen (fun _ => rfl)] at hq ⊢; omega) ?_
  show Tri _ _ _ _
  refine tri_le (Le.rename [(0, 0), (3, 2)] [] [(0, .box 61 (bcells (.op 0 39) (.orow 2))), (2, .row 5 1 ((List.map brow) (b3 ++ [c1])))] 3 trivial ⟨rfl, ⟨_, rfl, rfl⟩, rfl, ⟨_, rfl, congrArg (Ob.row 5 1) (by simp [List.map_append, List.map_take, List.map_drop, irow, brow, b8of_row, List.map_cons, List.map_nil, b8of_wrap, Nd.encs_eq, Nd.enc, enc_13_node_kind, enc_node_checker])⟩, trivial⟩ rfl rfl rfl rfl rfl) ?_
  refine tri_seq ?_
  refine tri_region (by exact tokW) (by exact gok) [] [] rfl ?_
  show Tri _ _ _ _
  refine tri_ret ?_
  obtain ⟨hj1, hk1⟩ := Prod.mk.inj (Option.some.inj h)
  subst hj1
  subst hk1
  unfold GivesO
  exact ⟨_, (Le.rename [(0, 0), (2, 2)] [] [(0, .box 61 (bcells (.op 0 39) (.orow 2))), (2, .row 5 1 ((List.map brow) (b3 ++ [c1])))] 3 trivial ⟨rfl, ⟨_, rfl, rfl⟩, rfl, ⟨_, rfl, rfl⟩, trivial⟩ rfl rfl rfl rfl rfl), rfl, rfl, rfl, rfl, rfl, rfl, trivial⟩
def R_node_dumper_head (n : Nat) (xs : List AV) (os : List Ob) (x : AV) (os' : List (Option Ob)) : Prop := ∃ (a0 : Nd) (a1 : List UInt8) (z1 : List UInt8), m_node_dumper_head n a0 a1 = some z1 ∧ xs = [.op 0 0, .s (.pt (Nd.enc a0))] ∧ os = [.box 61 (bcells (.op 0 39) (.orow 1)), .row 5 1 (List.map brow a1)] ∧ x = .tup [] ∧ os' = [some (.box 61 (bcells (.op 0 39) (.orow 2))), none, some (.row 5 1 (List.map brow z1))]
def S_node_dumper_head : PSpec := ospec (fun xs os x os' => ∃ n, R_node_dumper_head n xs os x os')
set_option maxHeartbeats 2000000 in
set_option maxRecDepth 100000 in
theorem ok_node_dumper_head : PSound Tryd.prog 52 S_node_dumper_head := by
  have gok : ∀ f s, look? f [(76, S_strings_Builder_WriteString), (77, S_strconv_Itoa), (53, S_strings_Builder_WriteByte)] = some s → PSound Tryd.prog f s := look_all (by
    simp only [List.forall_mem_cons]
    exact ⟨ok_strings_Builder_WriteString, ok_strconv_Itoa, ok_strings_Builder_WriteByte, by simp⟩)
  refine PSound.withNil (osound tokW Tryd.call52 Tryd.func52 rfl (fun xs os x os' h => by obtain ⟨n, _, _, _, _, rfl, rfl, _, rfl⟩ := h; exact ⟨by show 2 ≤ 108; decide, by show 2 ≤ 3; decide⟩) 108 rfl ?_) _
  rintro xs os x os' w0 G0 B0 ⟨n, ⟨a1_kind, a1_text, a1_cols, a1_kids⟩, b2, z1, h, rfl, rfl, rfl, rfl⟩ _
  rw [m_node_dumper_head] at h
  refine tri_seq ?_
  refine tri_seq ?_
  obtain ⟨x3, hj, h⟩ := bind_out h
  refine tri_post ⟨ofL [(0, .op 0 0), (1, .s (.pt [.int .i64 a1_kind, .str a1_text, .int .i64 a1_cols, .sl 4 (Nd.encs a1_kids)])), (16, .s (.bool x3))], ofH [(0, .box 61 (bcells (.op 0 39) (.orow 1))), (1, .row 5 1 ((List.map brow) b2))], 2⟩ ?_ (fun σ' hle => ?_)
  · replace h := hj
    refine tri_region (by exact tokW) (by exact gok) [] [10] rfl ?_
    intro b hb
    cases b with
    | true =>
      replace h := bif_t hb.symm h
      cases h
      exact (Le.rename [(0, 0), (1, 1)] _ _ _ ⟨rfl, rfl, rfl, trivial⟩ ⟨rfl, ⟨_, rfl, rfl⟩, rfl, ⟨_, rfl, rfl⟩, trivial⟩ rfl rfl rfl rfl rfl)
    | false =>
      replace h := bif_f hb.symm h
      cases h
      exact (Le.rename [(0, 0), (1, 1)] _ _ _ ⟨rfl, rfl, rfl, trivial⟩ ⟨rfl, ⟨_, rfl, rfl⟩, rfl, ⟨_, rfl, rfl⟩, trivial⟩ rfl rfl rfl rfl rfl)
  · show Tri _ _ _ _
    refine tri_le hle ?_
    obtain ⟨l4, hj, h⟩ := bind_out h
    refine tri_post ⟨ofL [(0, .op 0 0), (1, .s (.pt [.int .i64 a1_kind, .str a1_text, .int .i64 a1_cols, .sl 4 (Nd.encs a1_kids)]))], ofH [(0, .box 61 (bcells (.op 0 39) (.orow 2))), (2, .row 5 1 ((List.map brow) l4))], 3⟩ ?_ (fun σ' hle => ?_)
    · replace h := hj
      refine tri_cond rfl (fun hb => ?_) (fun hb => ?_)
      · replace h := bif_t hb h
        refine tri_drawn (by exact tokW) (by exact gok) (by exact mixed) [] [24] [12, 13] rfl (by decide +kernel) ?_
        intro vsp hvsp
        cases hc : (a1_kind == 1) with
        | true =>
          replace h := bif_t hc h
          obtain rfl : (1 : Int) = vsp := (hvsp.trans (eq_of_beq hc)).symm
          refine And.intro (by decide) ?_
          obtain ⟨⟨y5, _, b7⟩, hy5, h⟩ := bind_out h
          refine ⟨_, _, ⟨_, _, _, _, _, hy5, rfl, rfl, rfl, rfl⟩, ?_⟩
          cases h
          exact (Le.rename [(0, 0), (2, 2)] _ _ _ ⟨rfl, rfl, trivial⟩ ⟨rfl, ⟨_, rfl, rfl⟩, rfl, ⟨_, rfl, rfl⟩, trivial⟩ rfl rfl rfl rfl rfl)
        | false =>
          replace h := bif_f hc h
          cases hc : (a1_kind == 2) with
          | true =>
            replace h := bif_t hc h
            obtain rfl : (2 : Int) = vsp := (hvsp.trans (eq_of_beq hc)).symm
            refine And.intro (by decide) ?_
            obtain ⟨⟨y8, _, b10⟩, hy8, h⟩ := bind_out h
            refine ⟨_, _, ⟨_, _, _, _, _, hy8, rfl, rfl, rfl, rfl⟩, ?_⟩
            cases h
            exact (Le.rename [(0, 0), (2, 2)] _ _ _ ⟨rfl, rfl, trivial⟩ ⟨rfl, ⟨_, rfl, rfl⟩, rfl, ⟨_, rfl, rfl⟩, trivial⟩ rfl rfl rfl rfl rfl)
          | false =>
            replace h := bif_f hc h
            cases hc : (a1_kind == 3) with
            | true =>
              replace h := bif_t hc h
              obtain rfl : (3 : Int) = vsp := (hvsp.trans (eq_of_beq hc)).symm
              refine And.intro (by decide) ?_
              obtain ⟨⟨y11, _, b13⟩, hy11, h⟩ := bind_out h
              refine ⟨_, _, ⟨_, _, _, _, _, hy11, rfl, rfl, rfl, rfl⟩, ?_⟩
              cases h
              exact (Le.rename [(0, 0), (2, 2)] _ _ _ ⟨rfl, rfl, trivial⟩ ⟨rfl, ⟨_, rfl, rfl⟩, rfl, ⟨_, rfl, rfl⟩, trivial⟩ rfl rfl rfl rfl rfl)
            | false =>
              replace h := bif_f hc h
              cases hc : (a1_kind == 4) with
              | true =>
                replace h := bif_t hc h
                obtain rfl : (4 : Int) = vsp := (hvsp.trans (eq_of_beq hc)).symm
                refine And.intro (by decide) ?_
                obtain ⟨⟨y14, _, b16⟩, hy14, h⟩ := bind_out h
                refine ⟨_, _, ⟨_, _, _, _, _, hy14, rfl, rfl, rfl, rfl⟩, ?_⟩
                cases h
                exact (Le.rename [(0, 0), (2, 2)] _ _ _ ⟨rfl, rfl, trivial⟩ ⟨rfl, ⟨_, rfl, rfl⟩, rfl, ⟨_, rfl, rfl⟩, trivial⟩ rfl rfl rfl rfl rfl)
              | false =>
                replace h := bif_f hc h
                cases hc : (a1_kind == 5) with
                | true =>
                  replace h := bif_t hc h
                  obtain rfl : (5 : Int) = vsp := (hvsp.trans (eq_of_beq hc)).symm
                  refine And.intro (by decide) ?_
                  obtain ⟨⟨y17, _, b19⟩, hy17, h⟩ := bind_out h
                  refine ⟨_, _, ⟨_, _, _, _, _, hy17, rfl, rfl, rfl, rfl⟩, ?_⟩
                  cases h
                  exact (Le.rename [(0, 0), (2, 2)] _ _ _ ⟨rfl, rfl, trivial⟩ ⟨rfl, ⟨_, rfl, rfl⟩, rfl, ⟨_, rfl, rfl⟩, trivial⟩ rfl rfl rfl rfl rfl)
                | false =>
                  replace h := bif_f hc h
                  cases hc : (a1_kind == 6) with
                  | true =>
                    replace h := bif_t hc h
                    obtain rfl : (6 : Int) = vsp := (hvsp.trans (eq_of_beq hc)).symm
                    refine And.intro (by decide) ?_
                    obtain ⟨⟨y20, _, b22⟩, hy20, h⟩ := bind_out h
                    refine ⟨_, _, ⟨_, _, _, _, _, hy20, rfl, rfl, rfl, rfl⟩, ?_⟩
                    cases h
                    exact (Le.rename [(0, 0), (2, 2)] _ _ _ ⟨rfl, rfl, trivial⟩ ⟨rfl, ⟨_, rfl, rfl⟩, rfl, ⟨_, rfl, rfl⟩, trivial⟩ rfl rfl rfl rfl rfl)
                  | false =>
                    replace h := bif_f hc h
                    cases hc : (a1_kind == 7) with
                    | true =>
                      replace h := bif_t hc h
                      obtain rfl : (7 : Int) = vsp := (hvsp.trans (eq_of_beq hc)).symm
                      refine And.intro (by decide) ?_
                      obtain ⟨⟨y23, _, b25⟩, hy23, h⟩ := bind_out h
                      refine ⟨_, _, ⟨_, _, _, _, _, hy23, rfl, rfl, rfl, rfl⟩, ?_⟩
                      cases h
                      exact (Le.rename [(0, 0), (2, 2)] _ _ _ ⟨rfl, rfl, trivial⟩ ⟨rfl, ⟨_, rfl, rfl⟩, rfl, ⟨_, rfl, rfl⟩, trivial⟩ rfl rfl rfl rfl rfl)
                    | false =>
                      replace h := bif_f hc h
                      cases hc : (a1_kind == 8) with
                      | true =>
                        replace h := bif_t hc h
                        obtain rfl : (8 : Int) = vsp := (hvsp.trans (eq_of_beq hc)).symm
                        refine And.intro (by decide) ?_
                        obtain ⟨⟨y26, _, b28⟩, hy26, h⟩ := bind_out h
                        refine ⟨_, _, ⟨_, _, _, _, _, hy26, rfl, rfl, rfl, rfl⟩, ?_⟩
                        cases h
                        exact (Le.rename [(0, 0), (2, 2)] _ _ _ ⟨rfl, rfl, trivial⟩ ⟨rfl, ⟨_, rfl, rfl⟩, rfl, ⟨_, rfl, rfl⟩, trivial⟩ rfl rfl rfl rfl rfl)
                      | false =>
                        replace h := bif_f hc h
                        cases hc : (a1_kind == 9) with
                        | true =>
                          replace h := bif_t hc h
                          obtain rfl : (9 : Int) = vsp := (hvsp.trans (eq_of_beq hc)).symm
                          refine And.intro (by decide) ?_
                          obtain ⟨⟨y29, _, b31⟩, hy29, h⟩ := bind_out h
                          refine ⟨_, _, ⟨_, _, _, _, _, hy29, rfl, rfl, rfl, rfl⟩, ?_⟩
                          cases h
                          exact (Le.rename [(0, 0), (2, 2)] _ _ _ ⟨rfl, rfl, trivial⟩ ⟨rfl, ⟨_, rfl, rfl⟩, rfl, ⟨_, rfl, rfl⟩, trivial⟩ rfl rfl rfl rfl rfl)
                        | false =>
                          replace h := bif_f hc h
                          cases hc : (a1_kind == 10) with
                          | true =>
                            replace h := bif_t hc h
                            obtain rfl : (10 : Int) = vsp := (hvsp.trans (eq_of_beq hc)).symm
                            refine And.intro (by decide) ?_
                            obtain ⟨⟨y32, _, b34⟩, hy32, h⟩ := bind_out h
                            refine ⟨_, _, ⟨_, _, _, _, _, hy32, rfl, rfl, rfl, rfl⟩, ?_⟩
                            cases h
                            exact (Le.rename [(0, 0), (2, 2)] _ _ _ ⟨rfl, rfl, trivial⟩ ⟨rfl, ⟨_, rfl, rfl⟩, rfl, ⟨_, rfl, rfl⟩, trivial⟩ rfl rfl rfl rfl rfl)
                          | false =>
                            replace h := bif_f hc h
                            cases hc : (a1_kind == 11) with
                            | true =>
                              replace h := bif_t hc h
                              obtain rfl : (11 : Int) = vsp := (hvsp.trans (eq_of_beq hc)).symm
                              refine And.intro (by decide) ?_
                              obtain ⟨⟨y35, _, b37⟩, hy35, h⟩ := bind_out h
                              refine ⟨_, _, ⟨_, _, _, _, _, hy35, rfl, rfl, rfl, rfl⟩, ?_⟩
                              cases h
                              exact (Le.rename [(0, 0), (2, 2)] _ _ _ ⟨rfl, rfl, trivial⟩ ⟨rfl, ⟨_, rfl, rfl⟩, rfl, ⟨_, rfl, rfl⟩, trivial⟩ rfl rfl rfl rfl rfl)
                            | false =>
                              replace h := bif_f hc h
                              cases hc : (a1_kind == 12) with
                              | true =>
                                replace h := bif_t hc h
                                obtain rfl : (12 : Int) = vsp := (hvsp.trans (eq_of_beq hc)).symm
                                refine And.intro (by decide) ?_
                                obtain ⟨⟨y38, _, b40⟩, hy38, h⟩ := bind_out h
                                refine ⟨_, _, ⟨_, _, _, _, _, hy38, rfl, rfl, rfl, rfl⟩, ?_⟩
                                cases h
                                exact (Le.rename [(0, 0), (2, 2)] _ _ _ ⟨rfl, rfl, trivial⟩ ⟨rfl, ⟨_, rfl, rfl⟩, rfl, ⟨_, rfl, rfl⟩, trivial⟩ rfl rfl rfl rfl rfl)
                              | false =>
                                replace h := bif_f hc h
                                cases h
      · replace h := bif_f hb h
        refine tri_drawn (by exact tokW) (by exact gok) (by exact mixed) [] [] [9] rfl (by decide +kernel) ?_
        obtain ⟨y41, hy41, h⟩ := bind_out h
        refine ⟨_, ⟨_, _, hy41, rfl, rfl⟩, ?_⟩
        obtain ⟨hq, h⟩ := req_out h
        refine And.intro (Nat.le_trans hq (by decide)) ?_
        obtain ⟨⟨y42, _, b44⟩, hy42, h⟩ := bind_out h
        refine ⟨_, _, ⟨_, _, _, _, _, hy42, rfl, rfl, rfl, rfl⟩, ?_⟩
        cases h
        exact (Le.rename [(0, 0), (2, 2)] _ _ _ ⟨rfl, rfl, trivial⟩ ⟨rfl, ⟨_, rfl, rfl⟩, rfl, ⟨_, rfl, rfl⟩, trivial⟩ rfl rfl rfl rfl rfl)
    · show Tri _ _ _ _
      refine tri_le hle ?_
      refine tri_seq ?_
      refine tri_seq ?_
      refine tri_region (by exact tokW) (by exact gok) [] [] rfl ?_
      show Tri _ _ _ _
      obtain ⟨l45, hj, h⟩ := bind_out h
      refine tri_post ⟨ofL [(0, .op 0 0), (1, .s (.pt [.int .i64 a1_kind, .str a1_text, .int .i64 a1_cols, .sl 4 (Nd.encs a1_kids)]))], ofH [(0, .box 61 (bcells (.op 0 39) (.orow 2))), (2, .row 5 1 ((List.map brow) l45))], 3⟩ ?_ (fun σ' hle => ?_)
      · replace h := hj
        refine tri_cond rfl (fun hb => ?_) (fun hb => ?_)
        · replace h := bif_t hb h
          refine tri_seq ?_
          refine tri_region (by exact tokW) (by exact gok) [] [] rfl ?_
          obtain ⟨⟨y46, _, b48⟩, hy46, h⟩ := bind_out h
          refine ⟨_, _, ⟨_, _, _, _, _, hy46, rfl, rfl, rfl, rfl⟩, ?_⟩
          show Tri _ _ _ _
          refine tri_seq ?_
          refine tri_seq ?_
          refine tri_region (by exact tokW) (by exact gok) [] [] rfl ?_
          show Tri _ _ _ _
          obtain ⟨l51, hl, h⟩ := bind_out h
          refine tri_post ⟨ofL [(0, .op 0 0), (1, .s (.pt [.int .i64 a1_kind, .str a1_text, .int .i64 a1_cols, .sl 4 (Nd.encs a1_kids)]))], ofH [(0, .box 61 (bcells (.op 0 39) (.orow 2))), (2, .row 5 1 ((List.map brow) l51))], 3⟩ ?_ (fun σ' hle => ?_)
          · refine tri_block (tri_loopI (X := Nat × Int × (List UInt8)) (fun y => match y with | (k, x49, l50) => ⟨ofL [(0, .op 0 0), (1, .s (.pt [.int .i64 a1_kind, .str a1_text, .int .i64 a1_cols, .sl 4 (Nd.encs a1_kids)])), (4, .s (.int .i64 x49))], ofH [(0, .box 61 (bcells (.op 0 39) (.orow 2))), (2, .row 5 1 ((List.map brow) l50))], 3⟩) (fun y => m_node_dumper_head_l1 a1_text y.1 y.2.1 y.2.2 = some l51) (fun y => y.1) (n, 0, b48) hl ?_ ?_)
            · exact (Le.rename [(0, 0), (3, 2)] _ _ _ ⟨rfl, rfl, rfl, trivial⟩ ⟨rfl, ⟨_, rfl, rfl⟩, rfl, ⟨_, rfl, rfl⟩, trivial⟩ rfl rfl rfl rfl rfl)
            · rintro ⟨k, x49, l50⟩ h
              cases k with
              | zero => cases h
              | succ k =>
                replace h : m_node_dumper_head_l1 a1_text (k+1) x49 l50 = some l51 := h
                rw [m_node_dumper_head_l1] at h
                refine tri_seq ?_
                refine tri_seq ?_
                refine tri_region (by exact tokW) (by exact gok) [] [] rfl ?_
                show Tri _ _ _ _
                refine tri_cond rfl (fun hb => ?_) (fun hb => ?_)
                · replace h := bif_t hb h
                  refine tri_skip ?_
                  show Tri _ _ _ _
                  refine tri_seq ?_
                  obtain ⟨l52, hj, h⟩ := bind_out h
                  refine tri_post ⟨ofL [(0, .op 0 0), (1, .s (.pt [.int .i64 a1_kind, .str a1_text, .int .i64 a1_cols, .sl 4 (Nd.encs a1_kids)])), (4, .s (.int .i64 x49))], ofH [(0, .box 61 (bcells (.op 0 39) (.orow 2))), (2, .row 5 1 ((List.map brow) l52))], 3⟩ ?_ (fun σ' hle => ?_)
                  · replace h := hj
                    refine tri_block ?_
                    refine tri_seq ?_
                    refine tri_seq ?_
                    obtain ⟨x53, hj, h⟩ := bind_out h
                    refine tri_post ⟨ofL [(0, .op 0 0), (1, .s (.pt [.int .i64 a1_kind, .str a1_text, .int .i64 a1_cols, .sl 4 (Nd.encs a1_kids)])), (4, .s (.int .i64 x49)), (74, .s (.bool x53))], ofH [(0, .box 61 (bcells (.op 0 39) (.orow 2))), (2, .row 5 1 ((List.map brow) l50))], 3⟩ ?_ (fun σ' hle => ?_)
                    · replace h := hj
                      refine tri_region (by exact tokW) (by exact gok) [] [64, 66, 72] rfl ?_
                      obtain ⟨c54, hc54, h⟩ := bind_out h
                      refine And.intro (str_ok hc54).1 ?_
                      intro v55 hv55
                      obtain rfl : (c54.toNat : Int) = v55 := (hv55.trans (str_ok hc54).2).symm
                      intro b hb
                      cases b with
                      | true =>
                        replace h := bif_t hb.symm h
                        cases h
                        exact (Le.rename [(0, 0), (2, 2)] _ _ _ ⟨rfl, rfl, rfl, rfl, trivial⟩ ⟨rfl, ⟨_, rfl, rfl⟩, rfl, ⟨_, rfl, rfl⟩, trivial⟩ rfl rfl rfl rfl rfl)
                      | false =>
                        replace h := bif_f hb.symm h
                        obtain ⟨c56, hc56, h⟩ := bind_out h
                        refine And.intro (str_ok hc56).1 ?_
                        intro v57 hv57
                        obtain rfl : (c56.toNat : Int) = v57 := (hv57.trans (str_ok hc56).2).symm
                        cases h
                        exact (Le.rename [(0, 0), (2, 2)] _ _ _ ⟨rfl, rfl, rfl, rfl, trivial⟩ ⟨rfl, ⟨_, rfl, rfl⟩, rfl, ⟨_, rfl, rfl⟩, trivial⟩ rfl rfl rfl rfl rfl)
                    · show Tri _ _ _ _
                      refine tri_le hle ?_
                      obtain ⟨l58, hj, h⟩ := bind_out h
                      refine tri_post ⟨ofL [(0, .op 0 0), (1, .s (.pt [.int .i64 a1_kind, .str a1_text, .int .i64 a1_cols, .sl 4 (Nd.encs a1_kids)])), (4, .s (.int .i64 x49))], ofH [(0, .box 61 (bcells (.op 0 39) (.orow 2))), (2, .row 5 1 ((List.map brow) l58))], 3⟩ ?_ (fun σ' hle => ?_)
                      · replace h := hj
                        refine tri_cond rfl (fun hb => ?_) (fun hb => ?_)
                        · replace h := bif_t hb h
                          refine tri_region (by exact tokW) (by exact gok) [] [] rfl ?_
                          obtain ⟨⟨_, b60⟩, hy59, h⟩ := bind_out h
                          refine ⟨_, _, ⟨_, _, _, _, hy59, rfl, rfl, rfl, rfl⟩, ?_⟩
                          cases h
                          exact (Le.rename [(0, 0), (3, 2)] _ _ _ ⟨rfl, rfl, rfl, trivial⟩ ⟨rfl, ⟨_, rfl, rfl⟩, rfl, ⟨_, rfl, rfl⟩, trivial⟩ rfl rfl rfl rfl rfl)
                        · replace h := bif_f hb h
                          refine tri_skip ?_
                          cases h
                          exact (Le.rename [(0, 0), (2, 2)] _ _ _ ⟨rfl, rfl, rfl, trivial⟩ ⟨rfl, ⟨_, rfl, rfl⟩, rfl, ⟨_, rfl, rfl⟩, trivial⟩ rfl rfl rfl rfl rfl)
                      · show Tri _ _ _ _
                        refine tri_le hle ?_
                        refine tri_drawn (by exact tokW) (by exact gok) (by exact mixed) [] [87] [9] rfl (by decide +kernel) ?_
                        obtain ⟨c61, hc61, h⟩ := bind_out h
                        refine And.intro (str_ok hc61).1 ?_
                        intro v62 hv62
                        obtain rfl : (c61.toNat : Int) = v62 := (hv62.trans (str_ok hc61).2).symm
                        obtain ⟨⟨_, b64⟩, hy63, h⟩ := bind_out h
                        refine ⟨_, _, ⟨_, _, _, _, hy63, rfl, rfl, rfl, rfl⟩, ?_⟩
                        cases h
                        exact (Le.rename [(0, 0), (3, 2)] _ _ _ ⟨rfl, rfl, rfl, trivial⟩ ⟨rfl, ⟨_, rfl, rfl⟩, rfl, ⟨_, rfl, rfl⟩, trivial⟩ rfl rfl rfl rfl rfl)
                  · show Tri _ _ _ _
                    refine tri_le hle ?_
                    refine tri_region (by exact tokW) (by exact gok) [] [] rfl ?_
                    refine ⟨(k, IntKind.i64.wrap (x49 + 1), l52), h, (Le.rename [(0, 0), (2, 2)] _ _ _ ⟨rfl, rfl, rfl, trivial⟩ ⟨rfl, ⟨_, rfl, rfl⟩, rfl, ⟨_, rfl, rfl⟩, trivial⟩ rfl rfl rfl rfl rfl), Nat.lt_succ_self k⟩
                · replace h := bif_f hb h
                  refine tri_exit ?_
                  cases h
                  exact (Le.rename [(0, 0), (2, 2)] _ _ _ ⟨rfl, rfl, trivial⟩ ⟨rfl, ⟨_, rfl, rfl⟩, rfl, ⟨_, rfl, rfl⟩, trivial⟩ rfl rfl rfl rfl rfl)
          · show Tri _ _ _ _
            refine tri_le hle ?_
            refine tri_region (by exact tokW) (by exact gok) [] [] rfl ?_
            obtain ⟨⟨_, b66⟩, hy65, h⟩ := bind_out h
            refine ⟨_, _, ⟨_, _, _, _, hy65, rfl, rfl, rfl, rfl⟩, ?_⟩
            cases h
            exact (Le.rename [(0, 0), (3, 2)] _ _ _ ⟨rfl, rfl, trivial⟩ ⟨rfl, ⟨_, rfl, rfl⟩, rfl, ⟨_, rfl, rfl⟩, trivial⟩ rfl rfl rfl rfl rfl)
        · replace h := bif_f hb h
          refine tri_skip ?_
          cases h
          exact (Le.rename [(0, 0), (2, 2)] _ _ _ ⟨rfl, rfl, trivial⟩ ⟨rfl, ⟨_, rfl, rfl⟩, rfl, ⟨_, rfl, rfl⟩, trivial⟩ rfl rfl rfl rfl rfl)
      · show Tri _ _ _ _
        refine tri_le hle ?_
        refine tri_seq ?_
        refine tri_region (by exact tokW) (by exact gok) [] [] rfl ?_
        show Tri _ _ _ _
        refine tri_cond rfl (fun hb => ?_) (fun hb => ?_)
        · replace h := bif_t hb h
          refine tri_drawn (by exact tokW) (by exact gok) (by exact mixed) [] [] [9] rfl (by decide +kernel) ?_
          obtain ⟨y67, hy67, h⟩ := bind_out h
          refine ⟨_, ⟨_, _, hy67, rfl, rfl⟩, ?_⟩
          obtain ⟨hq, h⟩ := req_out h
          refine And.intro (Nat.le_trans hq (by decide)) ?_
          obtain ⟨⟨y68, _, b70⟩, hy68, h⟩ := bind_out h
          refine ⟨_, _, ⟨_, _, _, _, _, hy68, rfl, rfl, rfl, rfl⟩, ?_⟩
          have hy := Option.some.inj h
          subst hy
          unfold GivesO
          exact ⟨_, (Le.rename [(0, 0), (3, 2)] [] [(0, .box 61 (bcells (.op 0 39) (.orow 2))), (2, .row 5 1 ((List.map brow) b70))] 3 trivial ⟨rfl, ⟨_, rfl, rfl⟩, rfl, ⟨_, rfl, rfl⟩, trivial⟩ rfl rfl rfl rfl rfl), rfl, rfl, rfl, rfl, rfl, rfl, trivial⟩
        · replace h := bif_f hb h
          refine tri_skip ?_
          have hy := Option.some.inj h
          subst hy
          unfold GivesO
          exact ⟨_, (Le.rename [(0, 0), (2, 2)] [] [(0, .box 61 (bcells (.op 0 39) (.orow 2))), (2, .row 5 1 ((List.map brow) l45))] 3 trivial ⟨rfl, ⟨_, rfl, rfl⟩, rfl, ⟨_, rfl, rfl⟩, trivial⟩ rfl rfl rfl rfl rfl), rfl, rfl, rfl, rfl, rfl, rfl, trivial⟩
def R_strings_Builder_WriteString_v1 (xs : List AV) (os : List Ob) (x : AV) (os' : List (Option Ob)) : Prop := ∃ (a0 : List UInt8) (a1 : List UInt8) (y0 : Int) (y1 : Unit) (z1 : List UInt8), m_strings_Builder_WriteString a0 a1 = some (y0, y1, z1) ∧ xs = [.op 0 39, .s (.str a0)] ∧ os = [.box 61 (bcells (.s (.np)) (.orow 1)), .row 5 1 (List.map brow a1)] ∧ x = .tup [.s (.int .i64 y0), .junk] ∧ os' = [some (.box 61 (bcells (.op 0 39) (.orow 2))), none, some (.row 5 1 (List.map brow z1))]
def S_strings_Builder_WriteString_v1 : PSpec := ospec (fun xs os x os' => R_strings_Builder_WriteString_v1 xs os x os')
set_option maxHeartbeats 2000000 in
set_option maxRecDepth 100000 in
theorem ok_strings_Builder_WriteString_v1 : PSound Tryd.prog 76 S_strings_Builder_WriteString_v1 := by
  have gok : ∀ f s, look? f [(78, S_strings_Builder_copyCheck_v1)] = some s → PSound Tryd.prog f s := look_all (by
    simp only [List.forall_mem_cons]
    exact ⟨ok_strings_Builder_copyCheck_v1, by simp⟩)
  refine PSound.withNil (osound tokW Tryd.call76 Tryd.func76 rfl (fun xs os x os' h => by obtain ⟨_, _, _, _, _, _, rfl, rfl, _, rfl⟩ := h; exact ⟨by show 2 ≤ 19; decide, by show 2 ≤ 3; decide⟩) 19 rfl ?_) _
  rintro xs os x os' w0 G0 B0 ⟨s1, b2, y0, y1, z1, h, rfl, rfl, rfl, rfl⟩ _
  rw [m_strings_Builder_WriteString] at h
  refine tri_seq ?_
  refine tri_region (by exact tokW) (by exact gok) [] [] rfl ?_
  show Tri _ _ _ _
  refine tri_seq ?_
  refine tri_region (by exact tokW) (by exact gok) [] [] rfl ?_
  obtain ⟨b3, hb3, h⟩ := bind_out h
  refine ⟨_, _, ⟨_, _, hb3, rfl, rfl, rfl, rfl⟩, ?_⟩
  show Tri _ _ _ _
  refine tri_seq ?_
  refine tri_region (by exact tokW) (by exact gok) [14] [] rfl ?_
  obtain ⟨hq, h⟩ := req_out h
  refine And.intro (show (((List.map brow) b3).length + (List.map brow s1).length) * 1 ≤ 140737488355328 ∧ ((List.map brow) b3).length + (List.map brow s1).length ≤ 9223372036854775807 from by simp only [List.length_append, List.length_cons, List.length_nil, List.length_map, rlen (fun _ => rfl)] at hq ⊢; omega) ?_
  show Tri _ _ _ _
  refine tri_le (Le.rename [(0, 0), (3, 2)] [(1, .s (.str s1))] [(0, .box 61 (bcells (.op 0 39) (.orow 2))), (2, .row 5 1 ((List.map brow) (b3 ++ s1)))] 3 ⟨rfl, trivial⟩ ⟨rfl, ⟨_, rfl, rfl⟩, rfl, ⟨_, rfl, congrArg (Ob.row 5 1) (by simp [List.map_append, List.map_take, List.map_drop, irow, brow, b8of_row, List.map_cons, List.map_nil, b8of_wrap, Nd.encs_eq, Nd.enc, enc_13_node_kind, enc_node_checker])⟩, trivial⟩ rfl rfl rfl rfl rfl) ?_
  refine tri_seq ?_
  refine tri_region (by exact tokW) (by exact gok) [] [] rfl ?_
  show Tri _ _ _ _
  refine tri_ret ?_
  obtain ⟨hj1, hk1⟩ := Prod.mk.inj (Option.some.inj h)
  subst hj1
  obtain ⟨hj2, hk2⟩ := Prod.mk.inj hk1
  subst hj2
  subst hk2
  unfold GivesO
  exact ⟨_, (Le.rename [(0, 0), (2, 2)] [(4, .s (.int .i64 (s1.length : Int)))] [(0, .box 61 (bcells (.op 0 39) (.orow 2))), (2, .row 5 1 ((List.map brow) (b3 ++ s1)))] 3 ⟨rfl, trivial⟩ ⟨rfl, ⟨_, rfl, rfl⟩, rfl, ⟨_, rfl, rfl⟩, trivial⟩ rfl rfl rfl rfl rfl), rfl, rfl, rfl, rfl, rfl, rfl, trivial⟩
def R_node_dumper_head_v1 (n : Nat) (xs : List AV) (os : List Ob) (x : AV) (os' : List (Option Ob)) : Prop := ∃ (a0 : Nd) (a1 : List UInt8) (z1 : List UInt8), m_node_dumper_head n a0 a1 = some z1 ∧ xs = [.op 0 0, .s (.pt (Nd.enc a0))] ∧ os = [.box 61 (bcells (.s (.np)) (.orow 1)), .row 5 1 (List.map brow a1)] ∧ x = .tup [] ∧ os' = [some (.box 61 (bcells (.op 0 39) (.orow 2))), none, some (.row 5 1 (List.map brow z1))]
def S_node_dumper_head_v1 : PSpec := ospec (fun xs os x os' => ∃ n, R_node_dumper_head_v1 n xs os x os')
set_option maxHeartbeats 2000000 in
set_option maxRecDepth 100000 in
theorem ok_node_dumper_head_v1 : PSound Tryd.prog 52 S_node_dumper_head_v1 := by
  have gok : ∀ f s, look? f [(76, orS S_strings_Builder_WriteString S_strings_Builder_WriteString_v1), (77, S_strconv_Itoa), (53, S_strings_Builder_WriteByte)] = some s → PSound Tryd.prog f s := look_all (by
    simp only [List.forall_mem_cons]
    exact ⟨(osound_or ok_strings_Builder_WriteString ok_strings_Builder_WriteString_v1), ok_strconv_Itoa, ok_strings_Builder_WriteByte, by simp⟩)
  refine PSound.withNil (osound tokW Tryd.call52 Tryd.func52 rfl (fun xs os x os' h => by obtain ⟨n, _, _, _, _, rfl, rfl, _, rfl⟩ := h; exact ⟨by show 2 ≤ 108; decide, by show 2 ≤ 3; decide⟩) 108 rfl ?_) _
  rintro xs os x os' w0 G0 B0 ⟨n, ⟨a1_kind, a1_text, a1_cols, a1_kids⟩, b2, z1, h, rfl, rfl, rfl, rfl⟩ _
  rw [m_node_dumper_head] at h
  refine tri_seq ?_
  refine tri_seq ?_
  obtain ⟨x3, hj, h⟩ := bind_out h
  refine tri_post ⟨ofL [(0, .op 0 0), (1, .s (.pt [.int .i64 a1_kind, .str a1_text, .int .i64 a1_cols, .sl 4 (Nd.encs a1_kids)])), (16, .s (.bool x3))], ofH [(0, .box 61 (bcells (.s (.np)) (.orow 1))), (1, .row 5 1 ((List.map brow) b2))], 2⟩ ?_ (fun σ' hle => ?_)
  · replace h := hj
    refine tri_region (by exact tokW) (by exact gok) [] [10] rfl ?_
    intro b hb
    cases b with
    | true =>
      replace h := bif_t hb.symm h
      cases h
      exact (Le.rename [(0, 0), (1, 1)] _ _ _ ⟨rfl, rfl, rfl, trivial⟩ ⟨rfl, ⟨_, rfl, rfl⟩, rfl, ⟨_, rfl, rfl⟩, trivial⟩ rfl rfl rfl rfl rfl)
    | false =>
      replace h := bif_f hb.symm h
      cases h
      exact (Le.rename [(0, 0), (1, 1)] _ _ _ ⟨rfl, rfl, rfl, trivial⟩ ⟨rfl, ⟨_, rfl, rfl⟩, rfl, ⟨_, rfl, rfl⟩, trivial⟩ rfl rfl rfl rfl rfl)
  · show Tri _ _ _ _
    refine tri_le hle ?_
    obtain ⟨l4, hj, h⟩ := bind_out h
    refine tri_post ⟨ofL [(0, .op 0 0), (1, .s (.pt [.int .i64 a1_kind, .str a1_text, .int .i64 a1_cols, .sl 4 (Nd.encs a1_kids)]))], ofH [(0, .box 61 (bcells (.op 0 39) (.orow 2))), (2, .row 5 1 ((List.map brow) l4))], 3⟩ ?_ (fun σ' hle => ?_)
    · replace h := hj
      refine tri_cond rfl (fun hb => ?_) (fun hb => ?_)
      · replace h := bif_t hb h
        refine tri_drawn (by exact tokW) (by exact gok) (by exact mixed) [] [24] [12, 13] rfl (by decide +kernel) ?_
        intro vsp hvsp
        cases hc : (a1_kind == 1) with
        | true =>
          replace h := bif_t hc h
          obtain rfl : (1 : Int) = vsp := (hvsp.trans (eq_of_beq hc)).symm
          refine And.intro (by decide) ?_
          obtain ⟨⟨y5, _, b7⟩, hy5, h⟩ := bind_out h
          refine ⟨_, _, (Or.inr ⟨_, _, _, _, _, hy5, rfl, rfl, rfl, rfl⟩), ?_⟩
          cases h
          exact (Le.rename [(0, 0), (2, 2)] _ _ _ ⟨rfl, rfl, trivial⟩ ⟨rfl, ⟨_, rfl, rfl⟩, rfl, ⟨_, rfl, rfl⟩, trivial⟩ rfl rfl rfl rfl rfl)
        | false =>
          replace h := bif_f hc h
          cases hc : (a1_kind == 2) with
          | true =>
            replace h := bif_t hc h
            obtain rfl : (2 : Int) = vsp := (hvsp.trans (eq_of_beq hc)).symm
            refine And.intro (by decide) ?_
            obtain ⟨⟨y8, _, b10⟩, hy8, h⟩ := bind_out h
            refine ⟨_, _, (Or.inr ⟨_, _, _, _, _, hy8, rfl, rfl, rfl, rfl⟩), ?_⟩
            cases h
            exact (Le.rename [(0, 0), (2, 2)] _ _ _ ⟨rfl, rfl, trivial⟩ ⟨rfl, ⟨_, rfl, rfl⟩, rfl, ⟨_, rfl, rfl⟩, trivial⟩ rfl rfl rfl rfl rfl)
          | false =>
            replace h := bif_f hc h
            cases hc : (a1_kind == 3) with
            | true =>
              replace h := bif_t hc h
              obtain rfl : (3 : Int) = vsp := (hvsp.trans (eq_of_beq hc)).symm
              refine And.intro (by decide) ?_
              obtain ⟨⟨y11, _, b13⟩, hy11, h⟩ := bind_out h
              refine ⟨_, _, (Or.inr ⟨_, _, _, _, _, hy11, rfl, rfl, rfl, rfl⟩), ?_⟩
              cases h
              exact (Le.rename [(0, 0), (2, 2)] _ _ _ ⟨rfl, rfl, trivial⟩ ⟨rfl, ⟨_, rfl, rfl⟩, rfl, ⟨_, rfl, rfl⟩, trivial⟩ rfl rfl rfl rfl rfl)
            | false =>
              replace h := bif_f hc h
              cases hc : (a1_kind == 4) with
              | true =>
                replace h := bif_t hc h
                obtain rfl : (4 : Int) = vsp := (hvsp.trans (eq_of_beq hc)).symm
                refine And.intro (by decide) ?_
                obtain ⟨⟨y14, _, b16⟩, hy14, h⟩ := bind_out h
                refine ⟨_, _, (Or.inr ⟨_, _, _, _, _, hy14, rfl, rfl, rfl, rfl⟩), ?_⟩
                cases h
                exact (Le.rename [(0, 0), (2, 2)] _ _ _ ⟨rfl, rfl, trivial⟩ ⟨rfl, ⟨_, rfl, rfl⟩, rfl, ⟨_, rfl, rfl⟩, trivial⟩ rfl rfl rfl rfl rfl)
              | false =>
                replace h := bif_f hc h
                cases hc : (a1_kind == 5) with
                | true =>
                  replace h := bif_t hc h
                  obtain rfl : (5 : Int) = vsp := (hvsp.trans (eq_of_beq hc)).symm
                  refine And.intro (by decide) ?_
                  obtain ⟨⟨y17, _, b19⟩, hy17, h⟩ := bind_out h
                  refine ⟨_, _, (Or.inr ⟨_, _, _, _, _, hy17, rfl, rfl, rfl, rfl⟩), ?_⟩
                  cases h
                  exact (Le.rename [(0, 0), (2, 2)] _ _ _ ⟨rfl, rfl, trivial⟩ ⟨rfl, ⟨_, rfl, rfl⟩, rfl, ⟨_, rfl, rfl⟩, trivial⟩ rfl rfl rfl rfl rfl)
                | false =>
                  replace h := bif_f hc h
                  cases hc : (a1_kind == 6) with
                  | true =>
                    replace h := bif_t hc h
                    obtain rfl : (6 : Int) = vsp := (hvsp.trans (eq_of_beq hc)).symm
                    refine And.intro (by decide) ?_
                    obtain ⟨⟨y20, _, b22⟩, hy20, h⟩ := bind_out h
                    refine ⟨_, _, (Or.inr ⟨_, _, _, _, _, hy20, rfl, rfl, rfl, rfl⟩), ?_⟩
                    cases h
                    exact (Le.rename [(0, 0), (2, 2)] _ _ _ ⟨rfl, rfl, trivial⟩ ⟨rfl, ⟨_, rfl, rfl⟩, rfl, ⟨_, rfl, rfl⟩, trivial⟩ rfl rfl rfl rfl rfl)
                  | false =>
                    replace h := bif_f hc h
                    cases hc : (a1_kind == 7) with
                    | true =>
                      replace h := bif_t hc h
                      obtain rfl : (7 : Int) = vsp := (hvsp.trans (eq_of_beq hc)).symm
                      refine And.intro (by decide) ?_
                      obtain ⟨⟨y23, _, b25⟩, hy23, h⟩ := bind_out h
                      refine ⟨_, _, (Or.inr ⟨_, _, _, _, _, hy23, rfl, rfl, rfl, rfl⟩), ?_⟩
                      cases h
                      exact (Le.rename [(0, 0), (2, 2)] _ _ _ ⟨rfl, rfl, trivial⟩ ⟨rfl, ⟨_, rfl, rfl⟩, rfl, ⟨_, rfl, rfl⟩, trivial⟩ rfl rfl rfl rfl rfl)
                    | false =>
                      replace h := bif_f hc h
                      cases hc : (a1_kind == 8) with
                      | true =>
                        replace h := bif_t hc h
                        obtain rfl : (8 : Int) = vsp := (hvsp.trans (eq_of_beq hc)).symm
                        refine And.intro (by decide) ?_
                        obtain ⟨⟨y26, _, b28⟩, hy26, h⟩ := bind_out h
                        refine ⟨_, _, (Or.inr ⟨_, _, _, _, _, hy26, rfl, rfl, rfl, rfl⟩), ?_⟩
                        cases h
                        exact (Le.rename [(0, 0), (2, 2)] _ _ _ ⟨rfl, rfl, trivial⟩ ⟨rfl, ⟨_, rfl, rfl⟩, rfl, ⟨_, rfl, rfl⟩, trivial⟩ rfl rfl rfl rfl rfl)
                      | false =>
                        replace h := bif_f hc h
                        cases hc : (a1_kind == 9) with
                        | true =>
                          replace h := bif_t hc h
                          obtain rfl : (9 : Int) = vsp := (hvsp.trans (eq_of_beq hc)).symm
                          refine And.intro (by decide) ?_
                          obtain ⟨⟨y29, _, b31⟩, hy29, h⟩ := bind_out h
                          refine ⟨_, _, (Or.inr ⟨_, _, _, _, _, hy29, rfl, rfl, rfl, rfl⟩), ?_⟩
                          cases h
                          exact (Le.rename [(0, 0), (2, 2)] _ _ _ ⟨rfl, rfl, trivial⟩ ⟨rfl, ⟨_, rfl, rfl⟩, rfl, ⟨_, rfl, rfl⟩, trivial⟩ rfl rfl rfl rfl rfl)
                        | false =>
                          replace h := bif_f hc h
                          cases hc : (a1_kind == 10) with
                          | true =>
                            replace h := bif_t hc h
                            obtain rfl : (10 : Int) = vsp := (hvsp.trans (eq_of_beq hc)).symm
                            refine And.intro (by decide) ?_
                            obtain ⟨⟨y32, _, b34⟩, hy32, h⟩ := bind_out h
                            refine ⟨_, _, (Or.inr ⟨_, _, _, _, _, hy32, rfl, rfl, rfl, rfl⟩), ?_⟩
                            cases h
                            exact (Le.rename [(0, 0), (2, 2)] _ _ _ ⟨rfl, rfl, trivial⟩ ⟨rfl, ⟨_, rfl, rfl⟩, rfl, ⟨_, rfl, rfl⟩, trivial⟩ rfl rfl rfl rfl rfl)
                          | false =>
                            replace h := bif_f hc h
                            cases hc : (a1_kind == 11) with
                            | true =>
                              replace h := bif_t hc h
                              obtain rfl : (11 : Int) = vsp := (hvsp.trans (eq_of_beq hc)).symm
                              refine And.intro (by decide) ?_
                              obtain ⟨⟨y35, _, b37⟩, hy35, h⟩ := bind_out h
                              refine ⟨_, _, (Or.inr ⟨_, _, _, _, _, hy35, rfl, rfl, rfl, rfl⟩), ?_⟩
                              cases h
                              exact (Le.rename [(0, 0), (2, 2)] _ _ _ ⟨rfl, rfl, trivial⟩ ⟨rfl, ⟨_, rfl, rfl⟩, rfl, ⟨_, rfl, rfl⟩, trivial⟩ rfl rfl rfl rfl rfl)
                            | false =>
                              replace h := bif_f hc h
                              cases hc : (a1_kind == 12) with
                              | true =>
                                replace h := bif_t hc h
                                obtain rfl : (12 : Int) = vsp := (hvsp.trans (eq_of_beq hc)).symm
                                refine And.intro (by decide) ?_
                                obtain ⟨⟨y38, _, b40⟩, hy38, h⟩ := bind_out h
                                refine ⟨_, _, (Or.inr ⟨_, _, _, _, _, hy38, rfl, rfl, rfl, rfl⟩), ?_⟩
                                cases h
                                exact (Le.rename [(0, 0), (2, 2)] _ _ _ ⟨rfl, rfl, trivial⟩ ⟨rfl, ⟨_, rfl, rfl⟩, rfl, ⟨_, rfl, rfl⟩, trivial⟩ rfl rfl rfl rfl rfl)
                              | false =>
                                replace h := bif_f hc h
                                cases h
      · replace h := bif_f hb h
        refine tri_drawn (by exact tokW) (by exact gok) (by exact mixed) [] [] [9] rfl (by decide +kernel) ?_
        obtain ⟨y41, hy41, h⟩ := bind_out h
        refine ⟨_, ⟨_, _, hy41, rfl, rfl⟩, ?_⟩
        obtain ⟨hq, h⟩ := req_out h
        refine And.intro (Nat.le_trans hq (by decide)) ?_
        obtain ⟨⟨y42, _, b44⟩, hy42, h⟩ := bind_out h
        refine ⟨_, _, (Or.inr ⟨_, _, _, _, _, hy42, rfl, rfl, rfl, rfl⟩), ?_⟩
        cases h
        exact (Le.rename [(0, 0), (2, 2)] _ _ _ ⟨rfl, rfl, trivial⟩ ⟨rfl, ⟨_, rfl, rfl⟩, rfl, ⟨_, rfl, rfl⟩, trivial⟩ rfl rfl rfl rfl rfl)
    · show Tri _ _ _ _
      refine tri_le hle ?_
      refine tri_seq ?_
      refine tri_seq ?_
      refine tri_region (by exact tokW) (by exact gok) [] [] rfl ?_
      show Tri _ _ _ _
      obtain ⟨l45, hj, h⟩ := bind_out h
      refine tri_post ⟨ofL [(0, .op 0 0), (1, .s (.pt [.int .i64 a1_kind, .str a1_text, .int .i64 a1_cols, .sl 4 (Nd.encs a1_kids)]))], ofH [(0, .box 61 (bcells (.op 0 39) (.orow 2))), (2, .row 5 1 ((List.map brow) l45))], 3⟩ ?_ (fun σ' hle => ?_)
      · replace h := hj
        refine tri_cond rfl (fun hb => ?_) (fun hb => ?_)
        · replace h := bif_t hb h
          refine tri_seq ?_
          refine tri_region (by exact tokW) (by exact gok) [] [] rfl ?_
          obtain ⟨⟨y46, _, b48⟩, hy46, h⟩ := bind_out h
          refine ⟨_, _, (Or.inl ⟨_, _, _, _, _, hy46, rfl, rfl, rfl, rfl⟩), ?_⟩
          show Tri _ _ _ _
          refine tri_seq ?_
          refine tri_seq ?_
          refine tri_region (by exact tokW) (by exact gok) [] [] rfl ?_
          show Tri _ _ _ _
          obtain ⟨l51, hl, h⟩ := bind_out h
          refine tri_post ⟨ofL [(0, .op 0 0), (1, .s (.pt [.int .i64 a1_kind, .str a1_text, .int .i64 a1_cols, .sl 4 (Nd.encs a1_kids)]))], ofH [(0, .box 61 (bcells (.op 0 39) (.orow 2))), (2, .row 5 1 ((List.map brow) l51))], 3⟩ ?_ (fun σ' hle => ?_)
          · refine tri_block (tri_loopI (X := Nat × Int × (List UInt8)) (fun y => match y with | (k, x49, l50) => ⟨ofL [(0, .op 0 0), (1, .s (.pt [.int .i64 a1_kind, .str a1_text, .int .i64 a1_cols, .sl 4 (Nd.encs a1_kids)])), (4, .s (.int .i64 x49))], ofH [(0, .box 61 (bcells (.op 0 39) (.orow 2))), (2, .row 5 1 ((List.map brow) l50))], 3⟩) (fun y => m_node_dumper_head_l1 a1_text y.1 y.2.1 y.2.2 = some l51) (fun y => y.1) (n, 0, b48) hl ?_ ?_)
            · exact (Le.rename [(0, 0), (3, 2)] _ _ _ ⟨rfl, rfl, rfl, trivial⟩ ⟨rfl, ⟨_, rfl, rfl⟩, rfl, ⟨_, rfl, rfl⟩, trivial⟩ rfl rfl rfl rfl rfl)
            · rintro ⟨k, x49, l50⟩ h
              cases k with
              | zero => cases h
              | succ k =>
                replace h : m_node_dumper_head_l1 a1_text (k+1) x49 l50 = some l51 := h
                rw [m_node_dumper_head_l1] at h
                refine tri_seq ?_
                refine tri_seq ?_
                refine tri_region (by exact tokW) (by exact gok) [] [] rfl ?_
                show Tri _ _ _ _
                refine tri_cond rfl (fun hb => ?_) (fun hb => ?_)
                · replace h := bif_t hb h
                  refine tri_skip ?_
                  show Tri _ _ _ _
                  refine tri_seq ?_
                  obtain ⟨l52, hj, h⟩ := bind_out h
                  refine tri_post ⟨ofL [(0, .op 0 0), (1, .s (.pt [.int .i64 a1_kind, .str a1_text, .int .i64 a1_cols, .sl 4 (Nd.encs a1_kids)])), (4, .s (.int .i64 x49))], ofH [(0, .box 61 (bcells (.op 0 39) (.orow 2))), (2, .row 5 1 ((List.map brow) l52))], 3⟩ ?_ (fun σ' hle => ?_)
                  · replace h := hj
                    refine tri_block ?_
                    refine tri_seq ?_
                    refine tri_seq ?_
                    obtain ⟨x53, hj, h⟩ := bind_out h
                    refine tri_post ⟨ofL [(0, .op 0 0), (1, .s (.pt [.int .i64 a1_kind, .str a1_text, .int .i64 a1_cols, .sl 4 (Nd.encs a1_kids)])), (4, .s (.int .i64 x49)), (74, .s (.bool x53))], ofH [(0, .box 61 (bcells (.op 0 39) (.orow 2))), (2, .row 5 1 ((List.map brow) l50))], 3⟩ ?_ (fun σ' hle => ?_)
                    · replace h := hj
                      refine tri_region (by exact tokW) (by exact gok) [] [64, 66, 72] rfl ?_
                      obtain ⟨c54, hc54, h⟩ := bind_out h
                      refine And.intro (str_ok hc54).1 ?_
                      intro v55 hv55
                      obtain rfl : (c54.toNat : Int) = v55 := (hv55.trans (str_ok hc54).2).symm
                      intro b hb
                      cases b with
                      | true =>
                        replace h := bif_t hb.symm h
                        cases h
                        exact (Le.rename [(0, 0), (2, 2)] _ _ _ ⟨rfl, rfl, rfl, rfl, trivial⟩ ⟨rfl, ⟨_, rfl, rfl⟩, rfl, ⟨_, rfl, rfl⟩, trivial⟩ rfl rfl rfl rfl rfl)
                      | false =>
                        replace h := bif_f hb.symm h
                        obtain ⟨c56, hc56, h⟩ := bind_out h
                        refine And.intro (str_ok hc56).1 ?_
                        intro v57 hv57
                        obtain rfl : (c56.toNat : Int) = v57 := (hv57.trans (str_ok hc56).2).symm
                        cases h
                        exact (Le.rename [(0, 0), (2, 2)] _ _ _ ⟨rfl, rfl, rfl, rfl, trivial⟩ ⟨rfl, ⟨_, rfl, rfl⟩, rfl, ⟨_, rfl, rfl⟩, trivial⟩ rfl rfl rfl rfl rfl)
                    · show Tri _ _ _ _
                      refine tri_le hle ?_
                      obtain ⟨l58, hj, h⟩ := bind_out h
                      refine tri_post ⟨ofL [(0, .op 0 0), (1, .s (.pt [.int .i64 a1_kind, .str a1_text, .int .i64 a1_cols, .sl 4 (Nd.encs a1_kids)])), (4, .s (.int .i64 x49))], ofH [(0, .box 61 (bcells (.op 0 39) (.orow 2))), (2, .row 5 1 ((List.map brow) l58))], 3⟩ ?_ (fun σ' hle => ?_)
                      · replace h := hj
                        refine tri_cond rfl (fun hb => ?_) (fun hb => ?_)
                        · replace h := bif_t hb h
                          refine tri_region (by exact tokW) (by exact gok) [] [] rfl ?_
                          obtain ⟨⟨_, b60⟩, hy59, h⟩ := bind_out h
                          refine ⟨_, _, ⟨_, _, _, _, hy59, rfl, rfl, rfl, rfl⟩, ?_⟩
                          cases h
                          exact (Le.rename [(0, 0), (3, 2)] _ _ _ ⟨rfl, rfl, rfl, trivial⟩ ⟨rfl, ⟨_, rfl, rfl⟩, rfl, ⟨_, rfl, rfl⟩, trivial⟩ rfl rfl rfl rfl rfl)
                        · replace h := bif_f hb h
                          refine tri_skip ?_
                          cases h
                          exact (Le.rename [(0, 0), (2, 2)] _ _ _ ⟨rfl, rfl, rfl, trivial⟩ ⟨rfl, ⟨_, rfl, rfl⟩, rfl, ⟨_, rfl, rfl⟩, trivial⟩ rfl rfl rfl rfl rfl)
                      · show Tri _ _ _ _
                        refine tri_le hle ?_
                        refine tri_drawn (by exact tokW) (by exact gok) (by exact mixed) [] [87] [9] rfl (by decide +kernel) ?_
                        obtain ⟨c61, hc61, h⟩ := bind_out h
                        refine And.intro (str_ok hc61).1 ?_
                        intro v62 hv62
                        obtain rfl : (c61.toNat : Int) = v62 := (hv62.trans (str_ok hc61).2).symm
                        obtain ⟨⟨_, b64⟩, hy63, h⟩ := bind_out h
                        refine ⟨_, _, ⟨_, _, _, _, hy63, rfl, rfl, rfl, rfl⟩, ?_⟩
                        cases h
                        exact (Le.rename [(0, 0), (3, 2)] _ _ _ ⟨rfl, rfl, rfl, trivial⟩ ⟨rfl, ⟨_, rfl, rfl⟩, rfl, ⟨_, rfl, rfl⟩, trivial⟩ rfl rfl rfl rfl rfl)
                  · show Tri _ _ _ _
                    refine tri_le hle ?_
                    refine tri_region (by exact tokW) (by exact gok) [] [] rfl ?_
                    refine ⟨(k, IntKind.i64.wrap (x49 + 1), l52), h, (Le.rename [(0, 0), (2, 2)] _ _ _ ⟨rfl, rfl, rfl, trivial⟩ ⟨rfl, ⟨_, rfl, rfl⟩, rfl, ⟨_, rfl, rfl⟩, trivial⟩ rfl rfl rfl rfl rfl), Nat.lt_succ_self k⟩
                · replace h := bif_f hb h
                  refine tri_exit ?_
                  cases h
                  exact (Le.rename [(0, 0), (2, 2)] _ _ _ ⟨rfl, rfl, trivial⟩ ⟨rfl, ⟨_, rfl, rfl⟩, rfl, ⟨_, rfl, rfl⟩, trivial⟩ rfl rfl rfl rfl rfl)
          · show Tri _ _ _ _
            refine tri_le hle ?_
            refine tri_region (by exact tokW) (by exact gok) [] [] rfl ?_
            obtain ⟨⟨_, b66⟩, hy65, h⟩ := bind_out h
            refine ⟨_, _, ⟨_, _, _, _, hy65, rfl, rfl, rfl, rfl⟩, ?_⟩
            cases h
            exact (Le.rename [(0, 0), (3, 2)] _ _ _ ⟨rfl, rfl, trivial⟩ ⟨rfl, ⟨_, rfl, rfl⟩, rfl, ⟨_, rfl, rfl⟩, trivial⟩ rfl rfl rfl rfl rfl)
        · replace h := bif_f hb h
          refine tri_skip ?_
          cases h
          exact (Le.rename [(0, 0), (2, 2)] _ _ _ ⟨rfl, rfl, trivial⟩ ⟨rfl, ⟨_, rfl, rfl⟩, rfl, ⟨_, rfl, rfl⟩, trivial⟩ rfl rfl rfl rfl rfl)
      · show Tri _ _ _ _
        refine tri_le hle ?_
        refine tri_seq ?_
        refine tri_region (by exact tokW) (by exact gok) [] [] rfl ?_
        show Tri _ _ _ _
        refine tri_cond rfl (fun hb => ?_) (fun hb => ?_)
        · replace h := bif_t hb h
          refine tri_drawn (by exact tokW) (by exact gok) (by exact mixed) [] [] [9] rfl (by decide +kernel) ?_
          obtain ⟨y67, hy67, h⟩ := bind_out h
          refine ⟨_, ⟨_, _, hy67, rfl, rfl⟩, ?_⟩
          obtain ⟨hq, h⟩ := req_out h
          refine And.intro (Nat.le_trans hq (by decide)) ?_
          obtain ⟨⟨y68, _, b70⟩, hy68, h⟩ := bind_out h
          refine ⟨_, _, (Or.inl ⟨_, _, _, _, _, hy68, rfl, rfl, rfl, rfl⟩), ?_⟩
          have hy := Option.some.inj h
          subst hy
          unfold GivesO
          exact ⟨_, (Le.rename [(0, 0), (3, 2)] [] [(0, .box 61 (bcells (.op 0 39) (.orow 2))), (2, .row 5 1 ((List.map brow) b70))] 3 trivial ⟨rfl, ⟨_, rfl, rfl⟩, rfl, ⟨_, rfl, rfl⟩, trivial⟩ rfl rfl rfl rfl rfl), rfl, rfl, rfl, rfl, rfl, rfl, trivial⟩
        · replace h := bif_f hb h
          refine tri_skip ?_
          have hy := Option.some.inj h
          subst hy
          unfold GivesO
          exact ⟨_, (Le.rename [(0, 0), (2, 2)] [] [(0, .box 61 (bcells (.op 0 39) (.orow 2))), (2, .row 5 1 ((List.map brow) l45))] 3 trivial ⟨rfl, ⟨_, rfl, rfl⟩, rfl, ⟨_, rfl, rfl⟩, trivial⟩ rfl rfl rfl rfl rfl), rfl, rfl, rfl, rfl, rfl, rfl, trivial⟩
end Go.Proofs.YtefbmooajknmgaaDoor
set_option linter.unusedVariables false
set_option linter.unusedSimpArgs false
namespace Go.Proofs.YtefbmooajknmgaaDoor
open Go.Abs
def enc_node_open (p : (Nd × Int)) : List S := [.pt (Nd.enc p.1), .int .i64 p.2]
def R_node_Dump (n : Nat) (xs : List AV) (r : Ret) : Prop := ∃ (a0 : Nd) (y0 : List UInt8), m_node_Dump n a0 = some y0 ∧ xs = [.agg ((Nd.enc a0).map .s)] ∧ r = .val (.s (.str y0))
def S_node_Dump : PSpec := pspec fun xs r => ∃ n, R_node_Dump n xs r
set_option maxHeartbeats 8000000 in
set_option maxRecDepth 100000 in
theorem ok_node_Dump : PSound Tryd.prog 17 S_node_Dump := by
  have gok : ∀ f s, look? f [(51, S_node_kinds), (52, orS S_node_dumper_head S_node_dumper_head_v1), (53, S_strings_Builder_WriteByte), (54, S_strings_Builder_String)] = some s → PSound Tryd.prog f s := look_all (by
    simp only [List.forall_mem_cons]
    exact ⟨ok_node_kinds, (osound_or ok_node_dumper_head ok_node_dumper_head_v1), ok_strings_Builder_WriteByte, ok_strings_Builder_String, by simp⟩)
  refine psound tokW Tryd.call17 Tryd.func17 rfl (fun xs r h => by obtain ⟨n, _, _, _, rfl, _⟩ := h; show 1 ≤ 83; decide) 83 rfl ?_
  rintro xs r w0 G0 ⟨n, ⟨a1_kind, a1_text, a1_cols, a1_kids⟩, y0, h, rfl, rfl⟩ _
  rw [m_node_Dump] at h
  refine tri_seq ?_
  refine tri_region (by exact tokW) (by exact gok) [] [] rfl ?_
  show Tri _ _ _ _
  refine tri_seq ?_
  refine tri_region (by exact tokW) (by exact gok) [10] [] rfl ?_
  obtain ⟨_, hy2, h⟩ := bind_out h
  refine ⟨_, ⟨_, hy2, rfl, rfl⟩, ?_⟩
  show Tri _ _ _ _
  refine tri_le (Le.trans (Le.rename [(0, 0)] [(1, .s (.pt [.int .i64 a1_kind, .str a1_text, .int .i64 a1_cols, .sl 4 (Nd.encs a1_kids)])), (3, .op 0 0)] [(0, .box 61 (bcells (.s (.np)) (.nl 1)))] 1 ⟨rfl, rfl, trivial⟩ ⟨rfl, ⟨_, rfl, rfl⟩, trivial⟩ rfl rfl rfl rfl rfl) (Le.takeNil 0 40 5 rfl rfl (by decide))) ?_
  refine tri_seq ?_
  refine tri_region (by exact tokW) (by exact gok) [] [] rfl ?_
  obtain ⟨b3, hb3, h⟩ := bind_out h
  refine ⟨_, _, (Or.inr ⟨_, _, _, _, hb3, rfl, rfl, rfl, rfl⟩), ?_⟩
  show Tri _ _ _ _
  refine tri_seq ?_
  refine tri_region (by exact tokW) (by exact gok) [14] [] rfl ?_
  show Tri _ _ _ _
  refine tri_le (Le.rename [(0, 0), (2, 1), (3, 2)] [(3, .op 0 0), (4, .orow 2)] [(0, .box 61 (bcells (.op 0 39) (.orow 1))), (1, .row 5 1 ((List.map brow) b3)), (2, .row 65 2 ((List.map enc_node_open) [(Nd.mk a1_kind a1_text a1_cols a1_kids, 0)]))] 3 ⟨rfl, rfl, trivial⟩ ⟨rfl, ⟨_, rfl, rfl⟩, rfl, ⟨_, rfl, rfl⟩, rfl, ⟨_, rfl, congrArg (Ob.row 65 2) (by simp [List.map_append, List.map_take, List.map_drop, irow, brow, b8of_row, List.map_cons, List.map_nil, b8of_wrap, Nd.encs_eq, Nd.enc, enc_13_node_kind, enc_node_checker, enc_node_open])⟩, trivial⟩ rfl rfl rfl rfl rfl) ?_
  refine tri_seq ?_
  obtain ⟨l7, hl, h⟩ := bind_out h
  refine tri_post ⟨ofL [(3, .op 0 0)], ofH [(0, .box 61 (bcells (.op 0 39) (.orow 1))), (1, .row 5 1 ((List.map brow) l7))], 2⟩ ?_ (fun σ' hle => ?_)
  · refine tri_block (tri_loopI (X := Nat × (List UInt8) × (List (Nd × Int))) (fun y => match y with | (k, l5, l6) => ⟨ofL [(3, .op 0 0), (4, .orow 2)], ofH [(0, .box 61 (bcells (.op 0 39) (.orow 1))), (1, .row 5 1 ((List.map brow) l5)), (2, .row 65 2 ((List.map enc_node_open) l6))], 3⟩) (fun y => m_node_Dump_l1 n y.1 y.2.1 y.2.2 = some l7) (fun y => y.1) (n, b3, [(Nd.mk a1_kind a1_text a1_cols a1_kids, 0)]) hl ?_ ?_)
    · exact (Le.rename [(0, 0), (1, 1), (2, 2)] _ _ _ ⟨rfl, rfl, trivial⟩ ⟨rfl, ⟨_, rfl, rfl⟩, rfl, ⟨_, rfl, rfl⟩, rfl, ⟨_, rfl, rfl⟩, trivial⟩ rfl rfl rfl rfl rfl)
    · rintro ⟨k, l5, l6⟩ h
      cases k with
      | zero => cases h
      | succ k =>
        replace h : m_node_Dump_l1 n (k+1) l5 l6 = some l7 := h
        rw [m_node_Dump_l1] at h
        refine tri_seq ?_
        refine tri_seq ?_
        refine tri_region (by exact tokW) (by exact gok) [] [16] rfl ?_
        intro n8 hn8
        obtain rfl : (l6.length : Int) = n8 := (hn8.trans (congrArg (fun m : Nat => (m : Int)) (rlen (fun _ => rfl) l6))).symm
        show Tri _ _ _ _
        refine tri_cond rfl (fun hb => ?_) (fun hb => ?_)
        · replace h := bif_t hb h
          refine tri_skip ?_
          show Tri _ _ _ _
          refine tri_block ?_
          refine tri_seq ?_
          refine tri_region (by exact tokW) (by exact gok) [] [20] rfl ?_
          intro n9 hn9
          obtain rfl : (l6.length : Int) = n9 := (hn9.trans (congrArg (fun m : Nat => (m : Int)) (rlen (fun _ => rfl) l6))).symm
          obtain ⟨⟨⟨e10_node_kind, e10_node_text, e10_node_cols, e10_node_kids⟩, e10_kids⟩, he10, h⟩ := bind_out h
          refine And.intro (at_ok (fun _ => rfl) he10).1 ?_
          show Tri _ _ _ _
          refine tri_seq ?_
          refine tri_region (by exact tokW) (by exact gok) [] [] rfl ?_
          refine And.intro (at_ok (fun _ => rfl) he10).2.2 ?_
          refine ⟨_, (at_ok (fun _ => rfl) he10).2.1, ?_⟩
          show Tri _ _ _ _
          refine tri_seq ?_
          refine tri_seq ?_
          refine tri_region (by exact tokW) (by exact gok) [] [35] rfl ?_
          refine And.intro (at_ok (fun _ => rfl) he10).2.2 ?_
          refine ⟨_, (at_ok (fun _ => rfl) he10).2.1, ?_⟩
          intro n11 hn11
          obtain rfl : (e10_node_kids.length : Int) = n11 := (hn11.trans (congrArg (fun m : Nat => (m : Int)) (rlen Nd.encs_eq e10_node_kids))).symm
          show Tri _ _ _ _
          refine tri_cond rfl (fun hb => ?_) (fun hb => ?_)
          · replace h := bif_t hb h
            refine tri_seq ?_
            refine tri_seq ?_
            refine tri_region (by exact tokW) (by exact gok) [] [] rfl ?_
            show Tri _ _ _ _
            obtain ⟨l12, hj, h⟩ := bind_out h
            refine tri_post ⟨ofL [(3, .op 0 0), (4, .orow 2)], ofH [(0, .box 61 (bcells (.op 0 39) (.orow 1))), (1, .row 5 1 ((List.map brow) l12)), (2, .row 65 2 ((List.map enc_node_open) l6))], 3⟩ ?_ (fun σ' hle => ?_)
            · replace h := hj
              refine tri_cond rfl (fun hb => ?_) (fun hb => ?_)
              · replace h := bif_t hb h
                refine tri_region (by exact tokW) (by exact gok) [] [] rfl ?_
                obtain ⟨⟨_, b14⟩, hy13, h⟩ := bind_out h
                refine ⟨_, _, ⟨_, _, _, _, hy13, rfl, rfl, rfl, rfl⟩, ?_⟩
                cases h
                exact (Le.rename [(0, 0), (3, 1), (2, 2)] _ _ _ ⟨rfl, rfl, trivial⟩ ⟨rfl, ⟨_, rfl, rfl⟩, rfl, ⟨_, rfl, rfl⟩, rfl, ⟨_, rfl, rfl⟩, trivial⟩ rfl rfl rfl rfl rfl)
              · replace h := bif_f hb h
                refine tri_skip ?_
                cases h
                exact (Le.rename [(0, 0), (1, 1), (2, 2)] _ _ _ ⟨rfl, rfl, trivial⟩ ⟨rfl, ⟨_, rfl, rfl⟩, rfl, ⟨_, rfl, rfl⟩, rfl, ⟨_, rfl, rfl⟩, trivial⟩ rfl rfl rfl rfl rfl)
            · show Tri _ _ _ _
              refine tri_le hle ?_
              refine tri_seq ?_
              refine tri_region (by exact tokW) (by exact gok) [47] [45] rfl ?_
              intro n15 hn15
              obtain rfl : (l6.length : Int) = n15 := (hn15.trans (congrArg (fun m : Nat => (m : Int)) (rlen (fun _ => rfl) l6))).symm
              obtain ⟨hq, h⟩ := req_out h
              refine And.intro ⟨hq.1, Int.le_trans hq.2 (Int.ofNat_le.2 (Nat.le_of_eq (rlen (fun _ => rfl) _).symm))⟩ ?_
              show Tri _ _ _ _
              refine tri_le (Le.rename [(0, 0), (1, 1), (3, 2)] [(3, .op 0 0), (4, .orow 2)] [(0, .box 61 (bcells (.op 0 39) (.orow 1))), (1, .row 5 1 ((List.map brow) l12)), (2, .row 65 2 ((List.map enc_node_open) (l6.take (IntKind.i64.wrap ((l6.length : Int) - 1)).toNat)))] 3 ⟨rfl, rfl, trivial⟩ ⟨rfl, ⟨_, rfl, rfl⟩, rfl, ⟨_, rfl, rfl⟩, rfl, ⟨_, rfl, congrArg (Ob.row 65 2) (by simp [List.map_append, List.map_take, List.map_drop, irow, brow, b8of_row, List.map_cons, List.map_nil, b8of_wrap, Nd.encs_eq, Nd.enc, enc_13_node_kind, enc_node_checker, enc_node_open])⟩, trivial⟩ rfl rfl rfl rfl rfl) ?_
              refine tri_exit ?_
              refine ⟨(k, l12, l6.take (IntKind.i64.wrap ((l6.length : Int) - 1)).toNat), h, (Le.rename [(0, 0), (1, 1), (2, 2)] _ _ _ ⟨rfl, rfl, trivial⟩ ⟨rfl, ⟨_, rfl, rfl⟩, rfl, ⟨_, rfl, rfl⟩, rfl, ⟨_, rfl, rfl⟩, trivial⟩ rfl rfl rfl rfl rfl), Nat.lt_succ_self k⟩
          · replace h := bif_f hb h
            refine tri_skip ?_
            show Tri _ _ _ _
            refine tri_seq ?_
            refine tri_region (by exact tokW) (by exact gok) [] [] rfl ?_
            refine And.intro (at_ok (fun _ => rfl) he10).2.2 ?_
            refine ⟨_, (at_ok (fun _ => rfl) he10).2.1, ?_⟩
            have hset16 := (rset (R := (List.map enc_node_open)) (f := enc_node_open) (fun _ => rfl) he10 (Nd.mk e10_node_kind e10_node_text e10_node_cols e10_node_kids, IntKind.i64.wrap (e10_kids + 1)) 1 2 [.int .i64 (IntKind.i64.wrap (e10_kids + 1))] rfl)
            have hat16 := at_set he10 (Nd.mk e10_node_kind e10_node_text e10_node_cols e10_node_kids, IntKind.i64.wrap (e10_kids + 1))
            refine And.intro (at_ok (fun _ => rfl) he10).2.2 ?_
            show Tri _ _ _ _
            refine tri_seq ?_
            refine tri_region (by exact tokW) (by exact gok) [] [63] rfl ?_
            refine And.intro ((congrArg (fun r : List (List S) => (IntKind.i64.wrap ((l6.length : Int) - 1)).toNat < r.length) hset16).mpr (at_ok (fun _ => rfl) hat16).2.2) ?_
            refine ⟨_, (congrArg (fun r : List (List S) => r.getD (IntKind.i64.wrap ((l6.length : Int) - 1)).toNat []) hset16).trans (at_ok (fun _ => rfl) hat16).2.1, ?_⟩
            obtain ⟨⟨e17_kind, e17_text, e17_cols, e17_kids⟩, he17, h⟩ := bind_out h
            refine And.intro (at_ok Nd.encs_eq he17).1 ?_
            intro r18 hr18
            obtain rfl : [.int .i64 e17_kind, .str e17_text, .int .i64 e17_cols, .sl 4 (Nd.encs e17_kids)] = r18 := (hr18.trans (at_ok Nd.encs_eq he17).2.1).symm
            show Tri _ _ _ _
            refine tri_le (Le.rename [(0, 0), (1, 1), (2, 2)] [(3, .op 0 0), (4, .orow 2), (6, .s (.int .i64 e10_kids)), (7, .s (.pt [.int .i64 e17_kind, .str e17_text, .int .i64 e17_cols, .sl 4 (Nd.encs e17_kids)]))] [(0, .box 61 (bcells (.op 0 39) (.orow 1))), (1, .row 5 1 ((List.map brow) l5)), (2, .row 65 2 ((List.map enc_node_open) (l6.set (IntKind.i64.wrap ((l6.length : Int) - 1)).toNat (Nd.mk e10_node_kind e10_node_text e10_node_cols e10_node_kids, IntKind.i64.wrap (e10_kids + 1)))))] 3 ⟨rfl, rfl, rfl, rfl, trivial⟩ ⟨rfl, ⟨_, rfl, rfl⟩, rfl, ⟨_, rfl, rfl⟩, rfl, ⟨_, rfl, congrArg (Ob.row 65 2) hset16⟩, trivial⟩ rfl rfl rfl rfl rfl) ?_
            refine tri_seq ?_
            refine tri_drawn (by exact tokW) (by exact gok) (by exact mixed) [] [69] [6] rfl (by decide +kernel) ?_
            obtain ⟨c19, hc19, h⟩ := bind_out h
            refine And.intro (str_ok hc19).1 ?_
            intro v20 hv20
            obtain rfl : (c19.toNat : Int) = v20 := (hv20.trans (str_ok hc19).2).symm
            obtain ⟨⟨_, b22⟩, hy21, h⟩ := bind_out h
            refine ⟨_, _, ⟨_, _, _, _, hy21, rfl, rfl, rfl, rfl⟩, ?_⟩
            show Tri _ _ _ _
            refine tri_seq ?_
            refine tri_region (by exact tokW) (by exact gok) [] [] rfl ?_
            obtain ⟨b23, hb23, h⟩ := bind_out h
            refine ⟨_, _, (Or.inl ⟨_, _, _, _, hb23, rfl, rfl, rfl, rfl⟩), ?_⟩
            show Tri _ _ _ _
            refine tri_region (by exact tokW) (by exact gok) [78] [77] rfl ?_
            intro r24 hr24
            obtain rfl : (List.map enc_node_open) [(Nd.mk e17_kind e17_text e17_cols e17_kids, 0)] = r24 := (hr24.trans (by simp [List.map_append, List.map_take, List.map_drop, irow, brow, b8of_row, List.map_cons, List.map_nil, b8of_wrap, Nd.encs_eq, Nd.enc, enc_13_node_kind, enc_node_checker, enc_node_open])).symm
            obtain ⟨hq, h⟩ := req_out h
            refine And.intro (show (((List.map enc_node_open) (l6.set (IntKind.i64.wrap ((l6.length : Int) - 1)).toNat (Nd.mk e10_node_kind e10_node_text e10_node_cols e10_node_kids, IntKind.i64.wrap (e10_kids + 1)))).length + ((List.map enc_node_open) [(Nd.mk e17_kind e17_text e17_cols e17_kids, 0)]).length) * 16 ≤ 140737488355328 ∧ ((List.map enc_node_open) (l6.set (IntKind.i64.wrap ((l6.length : Int) - 1)).toNat (Nd.mk e10_node_kind e10_node_text e10_node_cols e10_node_kids, IntKind.i64.wrap (e10_kids + 1)))).length + ((List.map enc_node_open) [(Nd.mk e17_kind e17_text e17_cols e17_kids, 0)]).length ≤ 9223372036854775807 from by simp only [List.length_append, List.length_cons, List.length_nil, List.length_map, rlen (fun _ => rfl)] at hq ⊢; omega) ?_
            refine ⟨(k, b23, (l6.set (IntKind.i64.wrap ((l6.length : Int) - 1)).toNat (Nd.mk e10_node_kind e10_node_text e10_node_cols e10_node_kids, IntKind.i64.wrap (e10_kids + 1))) ++ [(Nd.mk e17_kind e17_text e17_cols e17_kids, 0)]), h, (Le.trans (Le.rename [(0, 0), (4, 1), (5, 2)] [(3, .op 0 0), (4, .orow 2)] [(0, .box 61 (bcells (.op 0 39) (.orow 1))), (1, .row 5 1 ((List.map brow) b23)), (2, .row 65 2 ((List.map enc_node_open) ((l6.set (IntKind.i64.wrap ((l6.length : Int) - 1)).toNat (Nd.mk e10_node_kind e10_node_text e10_node_cols e10_node_kids, IntKind.i64.wrap (e10_kids + 1))) ++ [(Nd.mk e17_kind e17_text e17_cols e17_kids, 0)])))] 3 ⟨rfl, rfl, trivial⟩ ⟨rfl, ⟨_, rfl, rfl⟩, rfl, ⟨_, rfl, rfl⟩, rfl, ⟨_, rfl, congrArg (Ob.row 65 2) (by simp [List.map_append, List.map_take, List.map_drop, irow, brow, b8of_row, List.map_cons, List.map_nil, b8of_wrap, Nd.encs_eq, Nd.enc, enc_13_node_kind, enc_node_checker, enc_node_open])⟩, trivial⟩ rfl rfl rfl rfl rfl) (Le.rename [(0, 0), (1, 1), (2, 2)] _ _ _ ⟨rfl, rfl, trivial⟩ ⟨rfl, ⟨_, rfl, rfl⟩, rfl, ⟨_, rfl, rfl⟩, rfl, ⟨_, rfl, rfl⟩, trivial⟩ rfl rfl rfl rfl rfl)), Nat.lt_succ_self k⟩
        · replace h := bif_f hb h
          refine tri_exit ?_
          cases h
          exact (Le.rename [(0, 0), (1, 1)] _ _ _ ⟨rfl, trivial⟩ ⟨rfl, ⟨_, rfl, rfl⟩, rfl, ⟨_, rfl, rfl⟩, trivial⟩ rfl rfl rfl rfl rfl)
  · show Tri _ _ _ _
    refine tri_le hle ?_
    refine tri_seq ?_
    refine tri_region (by exact tokW) (by exact gok) [] [] rfl ?_
    obtain ⟨y25, hy25, h⟩ := bind_out h
    refine ⟨_, _, ⟨_, _, hy25, rfl, rfl, rfl, rfl⟩, ?_⟩
    show Tri _ _ _ _
    refine tri_ret ?_
    have hy := Option.some.inj h
    subst hy
    unfold Gives
    exact ⟨_, Le.refl _ _, rfl, rfl⟩
def R_l09_awake (n : Nat) (xs : List AV) (r : Ret) : Prop := ∃ (y0 : Bool), m_l09_awake n = some y0 ∧ xs = [] ∧ r = .val (.s (.bool y0))
def S_l09_awake : PSpec := pspec fun xs r => ∃ n, R_l09_awake n xs r
set_option maxHeartbeats 2000000 in
set_option maxRecDepth 100000 in
theorem ok_l09_awake : PSound Tryd.prog 11 S_l09_awake := by
  have gok : ∀ f s, look? f [(23, S_node_Valid), (17, S_node_Dump)] = some s → PSound Tryd.prog f s := look_all (by
    simp only [List.forall_mem_cons]
    exact ⟨ok_node_Valid, ok_node_Dump, by simp⟩)
  refine psound tokW Tryd.call11 Tryd.func11 rfl (fun xs r h => by obtain ⟨n, _, _, rfl, _⟩ := h; show 0 ≤ 16; decide) 16 rfl ?_
  rintro xs r w0 G0 ⟨n, y0, h, rfl, rfl⟩ _
  rw [m_l09_awake] at h
  refine tri_seq ?_
  refine tri_region (by exact tokW) (by exact gok) [] [] rfl ?_
  show Tri _ _ _ _
  refine tri_seq ?_
  refine tri_region (by exact tokW) (by exact gok) [1] [5, 7] rfl ?_
  intro r1 hr1
  obtain rfl : Nd.encs [Nd.mk 1 [] 0 [], Nd.mk 1 [] 0 []] = r1 := (hr1.trans (by simp [List.map_append, List.map_take, List.map_drop, irow, brow, b8of_row, List.map_cons, List.map_nil, b8of_wrap, Nd.encs_eq, Nd.enc, enc_13_node_kind, enc_node_checker, enc_node_open])).symm
  intro r2 hr2
  obtain rfl : Nd.encs [Nd.mk 2 [120] 0 [], Nd.mk 5 [] 0 [Nd.mk 1 [] 0 [], Nd.mk 1 [] 0 []]] = r2 := (hr2.trans (by simp [List.map_append, List.map_take, List.map_drop, irow, brow, b8of_row, List.map_cons, List.map_nil, b8of_wrap, Nd.encs_eq, Nd.enc, enc_13_node_kind, enc_node_checker, enc_node_open])).symm
  show Tri _ _ _ _
  refine tri_le (Le.giveBox 0 [.int .i64 1, .str [], .int .i64 0, .sl 4 (Nd.encs [Nd.mk 2 [120] 0 [], Nd.mk 5 [] 0 [Nd.mk 1 [] 0 [], Nd.mk 1 [] 0 []]])] rfl rfl) ?_
  refine tri_seq ?_
  obtain ⟨x3, hj, h⟩ := bind_out h
  refine tri_post ⟨ofL [(0, .s (.bool x3))], fun _ => none, 0⟩ ?_ (fun σ' hle => ?_)
  · replace h := hj
    refine tri_region (by exact tokW) (by exact gok) [] [11] rfl ?_
    obtain ⟨y4, hy4, h⟩ := bind_out h
    refine ⟨_, ⟨_, _, _, hy4, rfl, rfl⟩, ?_⟩
    intro b hb
    cases b with
    | true =>
      replace h := bif_t hb.symm h
      obtain ⟨y5, hy5, h⟩ := bind_out h
      refine ⟨_, ⟨_, _, _, hy5, rfl, rfl⟩, ?_⟩
      cases h
      exact (Le.rename [] _ [] 0 ⟨rfl, trivial⟩ trivial rfl rfl rfl rfl rfl)
    | false =>
      replace h := bif_f hb.symm h
      cases h
      exact (Le.rename [] _ [] 0 ⟨rfl, trivial⟩ trivial rfl rfl rfl rfl rfl)
  · show Tri _ _ _ _
    refine tri_le hle ?_
    refine tri_ret ?_
    have hy := Option.some.inj h
    subst hy
    unfold Gives
    exact ⟨_, Le.refl _ _, rfl, rfl⟩
def R_r09_left (n : Nat) (xs : List AV) (r : Ret) : Prop := ∃ (a0 : Nd) (a1 : Int) (y0 : Int), m_r09_left n a0 a1 = some y0 ∧ xs = [.agg ((Nd.enc a0).map .s), .s (.int .i64 a1)] ∧ r = .val (.s (.int .i64 y0))
set_option maxHeartbeats 2000000 in
set_option maxRecDepth 100000 in
theorem step_r09_left (n : Nat) (ih : PSound Tryd.prog 58 (pspec (R_r09_left n))) : PSound Tryd.prog 58 (pspec (R_r09_left (n + 1))) := by
  have gok : ∀ f s, look? f [(58, pspec (R_r09_left n))] = some s → PSound Tryd.prog f s := look_all (by
    simp only [List.forall_mem_cons]
    exact ⟨ih, by simp⟩)
  refine psound tokW Tryd.call58 Tryd.func58 rfl (fun xs r h => by obtain ⟨_, _, _, _, rfl, _⟩ := h; show 2 ≤ 27; decide) 27 rfl ?_
  rintro xs r w0 G0 ⟨⟨n1_kind, n1_text, n1_cols, n1_kids⟩, most2, y0, h, rfl, rfl⟩ _
  rw [m_r09_left] at h
  refine tri_seq ?_
  refine tri_region (by exact tokW) (by exact gok) [] [] rfl ?_
  show Tri _ _ _ _
  refine tri_seq ?_
  refine tri_region (by exact tokW) (by exact gok) [] [] rfl ?_
  show Tri _ _ _ _
  refine tri_seq ?_
  refine tri_seq ?_
  refine tri_region (by exact tokW) (by exact gok) [] [] rfl ?_
  show Tri _ _ _ _
  obtain ⟨most5, hl, h⟩ := bind_out h
  refine tri_post ⟨ofL [(1, .s (.int .i64 most5))], fun _ => none, 0⟩ ?_ (fun σ' hle => ?_)
  · refine tri_block (tri_loopI (X := Nat × Int × Int) (fun y => match y with | (k, most3, i4) => ⟨ofL [(1, .s (.int .i64 most3)), (2, .s (.pt [.int .i64 n1_kind, .str n1_text, .int .i64 n1_cols, .sl 4 (Nd.encs n1_kids)])), (5, .s (.int .i64 i4))], fun _ => none, 0⟩) (fun y => m_r09_left_l1 (m_r09_left n) n1_kids y.1 y.2.1 y.2.2 = some most5) (fun y => y.1) (n, IntKind.i64.wrap (most2 - 1), 0) hl ?_ ?_)
    · exact (Le.forget _ ⟨rfl, rfl, rfl, trivial⟩)
    · rintro ⟨k, most3, i4⟩ h
      cases k with
      | zero => cases h
      | succ k =>
        replace h : m_r09_left_l1 (m_r09_left n) n1_kids (k+1) most3 i4 = some most5 := h
        rw [m_r09_left_l1] at h
        refine tri_seq ?_
        refine tri_seq ?_
        obtain ⟨x6, hj, h⟩ := bind_out h
        refine tri_post ⟨ofL [(1, .s (.int .i64 most3)), (2, .s (.pt [.int .i64 n1_kind, .str n1_text, .int .i64 n1_cols, .sl 4 (Nd.encs n1_kids)])), (5, .s (.int .i64 i4)), (16, .s (.bool x6))], fun _ => none, 0⟩ ?_ (fun σ' hle => ?_)
        · replace h := hj
          refine tri_region (by exact tokW) (by exact gok) [] [11, 13] rfl ?_
          intro n7 hn7
          obtain rfl : (n1_kids.length : Int) = n7 := (hn7.trans (congrArg (fun m : Nat => (m : Int)) (rlen Nd.encs_eq n1_kids))).symm
          intro b hb
          cases b with
          | true =>
            replace h := bif_t hb.symm h
            cases h
            exact (Le.forget _ ⟨rfl, rfl, rfl, rfl, trivial⟩)
          | false =>
            replace h := bif_f hb.symm h
            cases h
            exact (Le.forget _ ⟨rfl, rfl, rfl, rfl, trivial⟩)
        · show Tri _ _ _ _
          refine tri_le hle ?_
          refine tri_cond rfl (fun hb => ?_) (fun hb => ?_)
          · replace h := bif_t hb h
            refine tri_skip ?_
            show Tri _ _ _ _
            refine tri_seq ?_
            refine tri_block ?_
            refine tri_region (by exact tokW) (by exact gok) [] [22] rfl ?_
            obtain ⟨⟨e8_kind, e8_text, e8_cols, e8_kids⟩, he8, h⟩ := bind_out h
            refine And.intro (at_ok Nd.encs_eq he8).1 ?_
            intro r9 hr9
            obtain rfl : [.int .i64 e8_kind, .str e8_text, .int .i64 e8_cols, .sl 4 (Nd.encs e8_kids)] = r9 := (hr9.trans (at_ok Nd.encs_eq he8).2.1).symm
            obtain ⟨y10, hy10, h⟩ := bind_out h
            refine ⟨_, ⟨_, _, _, hy10, rfl, rfl⟩, ?_⟩
            show Tri _ _ _ _
            refine tri_region (by exact tokW) (by exact gok) [] [] rfl ?_
            refine ⟨(k, y10, IntKind.i64.wrap (i4 + 1)), h, (Le.forget _ ⟨rfl, rfl, rfl, trivial⟩), Nat.lt_succ_self k⟩
          · replace h := bif_f hb h
            refine tri_exit ?_
            cases h
            exact (Le.forget _ ⟨rfl, trivial⟩)
  · show Tri _ _ _ _
    refine tri_le hle ?_
    refine tri_seq ?_
    refine tri_region (by exact tokW) (by exact gok) [] [] rfl ?_
    show Tri _ _ _ _
    refine tri_ret ?_
    have hy := Option.some.inj h
    subst hy
    unfold Gives
    exact ⟨_, Le.refl _ _, rfl, rfl⟩
theorem all_r09_left : ∀ n, PSound Tryd.prog 58 (pspec (R_r09_left n)) := by
  intro n
  induction n with
  | zero => exact psound_none Tryd.call58 (fun xs r h => by obtain ⟨_, _, _, h, _⟩ := h; cases h)
  | succ n ih => exact step_r09_left n ih
def S_r09_left : PSpec := pspec fun xs r => ∃ n, R_r09_left n xs r
theorem ok_r09_left : PSound Tryd.prog 58 S_r09_left := psound_all all_r09_left
def R_r09_Few (n : Nat) (xs : List AV) (r : Ret) : Prop := ∃ (a0 : Nd) (a1 : Int) (y0 : Bool), m_r09_Few n a0 a1 = some y0 ∧ xs = [.agg ((Nd.enc a0).map .s), .s (.int .i64 a1)] ∧ r = .val (.s (.bool y0))
def S_r09_Few : PSpec := pspec fun xs r => ∃ n, R_r09_Few n xs r
set_option maxHeartbeats 2000000 in
set_option maxRecDepth 100000 in
theorem ok_r09_Few : PSound Tryd.prog 20 S_r09_Few := by
  have gok : ∀ f s, look? f [(58, S_r09_left)] = some s → PSound Tryd.prog f s := look_all (by
    simp only [List.forall_mem_cons]
    exact ⟨ok_r09_left, by simp⟩)
  refine psound tokW Tryd.call20 Tryd.func20 rfl (fun xs r h => by obtain ⟨n, _, _, _, _, rfl, _⟩ := h; show 2 ≤ 9; decide) 9 rfl ?_
  rintro xs r w0 G0 ⟨n, ⟨n1_kind, n1_text, n1_cols, n1_kids⟩, most2, y0, h, rfl, rfl⟩ _
  rw [m_r09_Few] at h
  refine tri_seq ?_
  refine tri_region (by exact tokW) (by exact gok) [] [] rfl ?_
  show Tri _ _ _ _
  refine tri_seq ?_
  refine tri_region (by exact tokW) (by exact gok) [] [] rfl ?_
  obtain ⟨y3, hy3, h⟩ := bind_out h
  refine ⟨_, ⟨_, _, _, _, hy3, rfl, rfl⟩, ?_⟩
  show Tri _ _ _ _
  refine tri_ret ?_
  have hy := Option.some.inj h
  subst hy
  unfold Gives
  exact ⟨_, Le.refl _ _, rfl, rfl⟩
def R_l09_few (n : Nat) (xs : List AV) (r : Ret) : Prop := ∃ (a0 : Nd) (y0 : Bool), m_l09_few n a0 = some y0 ∧ xs = [.agg ((Nd.enc a0).map .s)] ∧ r = .val (.s (.bool y0))
def S_l09_few : PSpec := pspec fun xs r => ∃ n, R_l09_few n xs r
set_option maxHeartbeats 2000000 in
set_option maxRecDepth 100000 in
theorem ok_l09_few : PSound Tryd.prog 16 S_l09_few := by
  have gok : ∀ f s, look? f [(20, S_r09_Few)] = some s → PSound Tryd.prog f s := look_all (by
    simp only [List.forall_mem_cons]
    exact ⟨ok_r09_Few, by simp⟩)
  refine psound tokW Tryd.call16 Tryd.func16 rfl (fun xs r h => by obtain ⟨n, _, _, _, rfl, _⟩ := h; show 1 ≤ 5; decide) 5 rfl ?_
  rintro xs r w0 G0 ⟨n, ⟨n1_kind, n1_text, n1_cols, n1_kids⟩, y0, h, rfl, rfl⟩ _
  rw [m_l09_few] at h
  refine tri_seq ?_
  refine tri_region (by exact tokW) (by exact gok) [] [] rfl ?_
  show Tri _ _ _ _
  refine tri_seq ?_
  refine tri_region (by exact tokW) (by exact gok) [] [] rfl ?_
  obtain ⟨y2, hy2, h⟩ := bind_out h
  refine ⟨_, ⟨_, _, _, _, hy2, rfl, rfl⟩, ?_⟩
  show Tri _ _ _ _
  refine tri_ret ?_
  have hy := Option.some.inj h
  subst hy
  unfold Gives
  exact ⟨_, Le.refl _ _, rfl, rfl⟩
def R_r09_Int (n : Nat) (xs : List AV) (r : Ret) : Prop := ∃ (a0 : Int) (y0 : List UInt8), m_r09_Int n a0 = some y0 ∧ xs = [.s (.int .i64 a0)] ∧ r = .val (.s (.str y0))
set_option maxHeartbeats 2000000 in
set_option maxRecDepth 100000 in
theorem step_r09_Int (n : Nat) (ih : PSound Tryd.prog 55 (pspec (R_r09_Int n))) : PSound Tryd.prog 55 (pspec (R_r09_Int (n + 1))) := by
  have gok : ∀ f s, look? f [(55, pspec (R_r09_Int n))] = some s → PSound Tryd.prog f s := look_all (by
    simp only [List.forall_mem_cons]
    exact ⟨ih, by simp⟩)
  refine psound tokW Tryd.call55 Tryd.func55 rfl (fun xs r h => by obtain ⟨_, _, _, rfl, _⟩ := h; show 1 ≤ 44; decide) 44 rfl ?_
  rintro xs r w0 G0 ⟨n1, y0, h, rfl, rfl⟩ _
  rw [m_r09_Int] at h
  refine tri_seq ?_
  refine tri_region (by exact tokW) (by exact gok) [] [] rfl ?_
  show Tri _ _ _ _
  refine tri_seq ?_
  refine tri_seq ?_
  refine tri_region (by exact tokW) (by exact gok) [] [] rfl ?_
  show Tri _ _ _ _
  refine tri_cond rfl (fun hb => ?_) (fun hb => ?_)
  · replace h := bif_t hb h
    refine tri_seq ?_
    refine tri_region (by exact tokW) (by exact gok) [] [11, 12] rfl ?_
    refine And.intro (by decide) ?_
    intro r2 hr2
    obtain rfl : (List.map brow) [b8of (IntKind.u8.wrap (IntKind.i64.wrap (48 - (n1.tmod 10))))] = r2 := (hr2.trans (by simp [List.map_append, List.map_take, List.map_drop, irow, brow, b8of_row, List.map_cons, List.map_nil, b8of_wrap, Nd.encs_eq, Nd.enc, enc_13_node_kind, enc_node_checker, enc_node_open])).symm
    refine And.intro (show List.map brow [b8of (IntKind.u8.wrap (IntKind.i64.wrap (48 - (n1.tmod 10))))] = ((List.map brow [b8of (IntKind.u8.wrap (IntKind.i64.wrap (48 - (n1.tmod 10))))]).map browOf).map brow from by rw [brow_back]) ?_
    intro s3 hs3
    obtain rfl : [b8of (IntKind.u8.wrap (IntKind.i64.wrap (48 - (n1.tmod 10))))] = s3 := (hs3.trans (brow_back _)).symm
    show Tri _ _ _ _
    refine tri_seq ?_
    refine tri_seq ?_
    refine tri_region (by exact tokW) (by exact gok) [] [] rfl ?_
    refine And.intro (by decide) ?_
    show Tri _ _ _ _
    refine tri_cond rfl (fun hb => ?_) (fun hb => ?_)
    · replace h := bif_t hb h
      refine tri_seq ?_
      refine tri_region (by exact tokW) (by exact gok) [] [] rfl ?_
      refine And.intro (by decide) ?_
      obtain ⟨y4, hy4, h⟩ := bind_out h
      refine ⟨_, ⟨_, _, hy4, rfl, rfl⟩, ?_⟩
      obtain ⟨hq, h⟩ := req_out h
      refine And.intro (Nat.le_trans hq (by decide)) ?_
      obtain ⟨hq, h⟩ := req_out h
      refine And.intro (Nat.le_trans hq (by decide)) ?_
      show Tri _ _ _ _
      refine tri_ret ?_
      have hy := Option.some.inj h
      subst hy
      unfold Gives
      exact ⟨_, Le.refl _ _, rfl, rfl⟩
    · replace h := bif_f hb h
      refine tri_skip ?_
      show Tri _ _ _ _
      refine tri_seq ?_
      refine tri_region (by exact tokW) (by exact gok) [] [] rfl ?_
      obtain ⟨hq, h⟩ := req_out h
      refine And.intro (Nat.le_trans hq (by decide)) ?_
      show Tri _ _ _ _
      refine tri_ret ?_
      have hy := Option.some.inj h
      subst hy
      unfold Gives
      exact ⟨_, Le.refl _ _, rfl, rfl⟩
  · replace h := bif_f hb h
    refine tri_skip ?_
    show Tri _ _ _ _
    refine tri_seq ?_
    refine tri_region (by exact tokW) (by exact gok) [] [] rfl ?_
    show Tri _ _ _ _
    refine tri_seq ?_
    obtain ⟨⟨n7, s8⟩, hl, h⟩ := bind_out h
    refine tri_post ⟨ofL [(0, .s (.int .i64 n7)), (4, .s (.str s8))], fun _ => none, 0⟩ ?_ (fun σ' hle => ?_)
    · refine tri_block (tri_loopI (X := Nat × Int × (List UInt8)) (fun y => match y with | (k, n5, s6) => ⟨ofL [(0, .s (.int .i64 n5)), (4, .s (.str s6))], fun _ => none, 0⟩) (fun y => m_r09_Int_l1  y.1 y.2.1 y.2.2 = some (n7, s8)) (fun y => y.1) (n, n1, []) hl ?_ ?_)
      · exact (Le.forget _ ⟨rfl, rfl, trivial⟩)
      · rintro ⟨k, n5, s6⟩ h
        cases k with
        | zero => cases h
        | succ k =>
          replace h : m_r09_Int_l1  (k+1) n5 s6 = some (n7, s8) := h
          rw [m_r09_Int_l1] at h
          refine tri_seq ?_
          refine tri_seq ?_
          refine tri_region (by exact tokW) (by exact gok) [] [] rfl ?_
          show Tri _ _ _ _
          refine tri_cond rfl (fun hb => ?_) (fun hb => ?_)
          · replace h := bif_t hb h
            refine tri_skip ?_
            show Tri _ _ _ _
            refine tri_block ?_
            refine tri_seq ?_
            refine tri_region (by exact tokW) (by exact gok) [] [31, 32] rfl ?_
            refine And.intro (by decide) ?_
            intro r9 hr9
            obtain rfl : (List.map brow) [b8of (IntKind.u8.wrap (IntKind.i64.wrap (48 + (n5.tmod 10))))] = r9 := (hr9.trans (by simp [List.map_append, List.map_take, List.map_drop, irow, brow, b8of_row, List.map_cons, List.map_nil, b8of_wrap, Nd.encs_eq, Nd.enc, enc_13_node_kind, enc_node_checker, enc_node_open])).symm
            refine And.intro (show List.map brow [b8of (IntKind.u8.wrap (IntKind.i64.wrap (48 + (n5.tmod 10))))] = ((List.map brow [b8of (IntKind.u8.wrap (IntKind.i64.wrap (48 + (n5.tmod 10))))]).map browOf).map brow from by rw [brow_back]) ?_
            intro s10 hs10
            obtain rfl : [b8of (IntKind.u8.wrap (IntKind.i64.wrap (48 + (n5.tmod 10))))] = s10 := (hs10.trans (brow_back _)).symm
            obtain ⟨hq, h⟩ := req_out h
            refine And.intro (Nat.le_trans hq (by decide)) ?_
            show Tri _ _ _ _
            refine tri_region (by exact tokW) (by exact gok) [] [] rfl ?_
            refine And.intro (by decide) ?_
            refine ⟨(k, IntKind.i64.wrap (n5.tdiv 10), [b8of (IntKind.u8.wrap (IntKind.i64.wrap (48 + (n5.tmod 10))))] ++ s6), h, (Le.forget _ ⟨rfl, rfl, trivial⟩), Nat.lt_succ_self k⟩
          · replace h := bif_f hb h
            refine tri_exit ?_
            cases h
            exact (Le.forget _ ⟨rfl, rfl, trivial⟩)
    · show Tri _ _ _ _
      refine tri_le hle ?_
      refine tri_seq ?_
      refine tri_region (by exact tokW) (by exact gok) [] [40, 41] rfl ?_
      intro r11 hr11
      obtain rfl : (List.map brow) [b8of (IntKind.u8.wrap (IntKind.i64.wrap (48 + n7)))] = r11 := (hr11.trans (by simp [List.map_append, List.map_take, List.map_drop, irow, brow, b8of_row, List.map_cons, List.map_nil, b8of_wrap, Nd.encs_eq, Nd.enc, enc_13_node_kind, enc_node_checker, enc_node_open])).symm
      refine And.intro (show List.map brow [b8of (IntKind.u8.wrap (IntKind.i64.wrap (48 + n7)))] = ((List.map brow [b8of (IntKind.u8.wrap (IntKind.i64.wrap (48 + n7)))]).map browOf).map brow from by rw [brow_back]) ?_
      intro s12 hs12
      obtain rfl : [b8of (IntKind.u8.wrap (IntKind.i64.wrap (48 + n7)))] = s12 := (hs12.trans (brow_back _)).symm
      obtain ⟨hq, h⟩ := req_out h
      refine And.intro (Nat.le_trans hq (by decide)) ?_
      show Tri _ _ _ _
      refine tri_ret ?_
      have hy := Option.some.inj h
      subst hy
      unfold Gives
      exact ⟨_, Le.refl _ _, rfl, rfl⟩
theorem all_r09_Int : ∀ n, PSound Tryd.prog 55 (pspec (R_r09_Int n)) := by
  intro n
  induction n with
  | zero => exact psound_none Tryd.call55 (fun xs r h => by obtain ⟨_, _, h, _⟩ := h; cases h)
  | succ n ih => exact step_r09_Int n ih
def S_r09_Int : PSpec := pspec fun xs r => ∃ n, R_r09_Int n xs r
theorem ok_r09_Int : PSound Tryd.prog 55 S_r09_Int := psound_all all_r09_Int
def R_r09_Quoted (n : Nat) (xs : List AV) (r : Ret) : Prop := ∃ (a0 : List UInt8) (y0 : List UInt8), m_r09_Quoted n a0 = some y0 ∧ xs = [.s (.str a0)] ∧ r = .val (.s (.str y0))
def S_r09_Quoted : PSpec := pspec fun xs r => ∃ n, R_r09_Quoted n xs r
set_option maxHeartbeats 2000000 in
set_option maxRecDepth 100000 in
theorem ok_r09_Quoted : PSound Tryd.prog 56 S_r09_Quoted := by
  have gok : ∀ (f : Nat) (s : PSpec), (fun _ => none : Nat → Option PSpec) f = some s → PSound Tryd.prog f s := fun _ _ h => by cases h
  refine psound tokW Tryd.call56 Tryd.func56 rfl (fun xs r h => by obtain ⟨n, _, _, _, rfl, _⟩ := h; show 1 ≤ 35; decide) 35 rfl ?_
  rintro xs r w0 G0 ⟨n, s1, y0, h, rfl, rfl⟩ _
  rw [m_r09_Quoted] at h
  refine tri_seq ?_
  refine tri_region (by exact tokW) (by exact gok) [] [] rfl ?_
  show Tri _ _ _ _
  refine tri_seq ?_
  refine tri_region (by exact tokW) (by exact gok) [5] [] rfl ?_
  show Tri _ _ _ _
  refine tri_le (Le.rename [(0, 0)] [(0, .s (.str s1)), (3, .orow 0)] [(0, .row 5 1 ((List.map brow) [b8of 34]))] 1 ⟨rfl, rfl, trivial⟩ ⟨rfl, ⟨_, rfl, congrArg (Ob.row 5 1) (by simp [List.map_append, List.map_take, List.map_drop, irow, brow, b8of_row, List.map_cons, List.map_nil, b8of_wrap, Nd.encs_eq, Nd.enc, enc_13_node_kind, enc_node_checker, enc_node_open])⟩, trivial⟩ rfl rfl rfl rfl rfl) ?_
  refine tri_seq ?_
  refine tri_seq ?_
  refine tri_region (by exact tokW) (by exact gok) [] [] rfl ?_
  show Tri _ _ _ _
  obtain ⟨l5, hl, h⟩ := bind_out h
  refine tri_post ⟨ofL [(3, .orow 0)], ofH [(0, .row 5 1 ((List.map brow) l5))], 1⟩ ?_ (fun σ' hle => ?_)
  · refine tri_block (tri_loopI (X := Nat × Int × (List UInt8)) (fun y => match y with | (k, i3, l4) => ⟨ofL [(0, .s (.str s1)), (3, .orow 0), (4, .s (.int .i64 i3))], ofH [(0, .row 5 1 ((List.map brow) l4))], 1⟩) (fun y => m_r09_Quoted_l1 s1 y.1 y.2.1 y.2.2 = some l5) (fun y => y.1) (n, 0, [b8of 34]) hl ?_ ?_)
    · exact (Le.rename [(0, 0)] _ _ _ ⟨rfl, rfl, rfl, trivial⟩ ⟨rfl, ⟨_, rfl, rfl⟩, trivial⟩ rfl rfl rfl rfl rfl)
    · rintro ⟨k, i3, l4⟩ h
      cases k with
      | zero => cases h
      | succ k =>
        replace h : m_r09_Quoted_l1 s1 (k+1) i3 l4 = some l5 := h
        rw [m_r09_Quoted_l1] at h
        refine tri_seq ?_
        refine tri_seq ?_
        refine tri_region (by exact tokW) (by exact gok) [] [] rfl ?_
        show Tri _ _ _ _
        refine tri_cond rfl (fun hb => ?_) (fun hb => ?_)
        · replace h := bif_t hb h
          refine tri_skip ?_
          show Tri _ _ _ _
          refine tri_seq ?_
          obtain ⟨l6, hj, h⟩ := bind_out h
          refine tri_post ⟨ofL [(0, .s (.str s1)), (3, .orow 0), (4, .s (.int .i64 i3))], ofH [(0, .row 5 1 ((List.map brow) l6))], 1⟩ ?_ (fun σ' hle => ?_)
          · replace h := hj
            refine tri_block ?_
            refine tri_seq ?_
            refine tri_seq ?_
            obtain ⟨x7, hj, h⟩ := bind_out h
            refine tri_post ⟨ofL [(0, .s (.str s1)), (3, .orow 0), (4, .s (.int .i64 i3)), (21, .s (.bool x7))], ofH [(0, .row 5 1 ((List.map brow) l4))], 1⟩ ?_ (fun σ' hle => ?_)
            · replace h := hj
              refine tri_region (by exact tokW) (by exact gok) [] [14, 16, 19] rfl ?_
              obtain ⟨c8, hc8, h⟩ := bind_out h
              refine And.intro (str_ok hc8).1 ?_
              intro v9 hv9
              obtain rfl : (c8.toNat : Int) = v9 := (hv9.trans (str_ok hc8).2).symm
              intro b hb
              cases b with
              | true =>
                replace h := bif_t hb.symm h
                cases h
                exact (Le.rename [(0, 0)] _ _ _ ⟨rfl, rfl, rfl, rfl, trivial⟩ ⟨rfl, ⟨_, rfl, rfl⟩, trivial⟩ rfl rfl rfl rfl rfl)
              | false =>
                replace h := bif_f hb.symm h
                obtain ⟨c10, hc10, h⟩ := bind_out h
                refine And.intro (str_ok hc10).1 ?_
                intro v11 hv11
                obtain rfl : (c10.toNat : Int) = v11 := (hv11.trans (str_ok hc10).2).symm
                cases h
                exact (Le.rename [(0, 0)] _ _ _ ⟨rfl, rfl, rfl, rfl, trivial⟩ ⟨rfl, ⟨_, rfl, rfl⟩, trivial⟩ rfl rfl rfl rfl rfl)
            · show Tri _ _ _ _
              refine tri_le hle ?_
              obtain ⟨l12, hj, h⟩ := bind_out h
              refine tri_post ⟨ofL [(0, .s (.str s1)), (3, .orow 0), (4, .s (.int .i64 i3))], ofH [(0, .row 5 1 ((List.map brow) l12))], 1⟩ ?_ (fun σ' hle => ?_)
              · replace h := hj
                refine tri_cond rfl (fun hb => ?_) (fun hb => ?_)
                · replace h := bif_t hb h
                  refine tri_region (by exact tokW) (by exact gok) [24] [23] rfl ?_
                  intro r13 hr13
                  obtain rfl : (List.map brow) [b8of 92] = r13 := (hr13.trans (by simp [List.map_append, List.map_take, List.map_drop, irow, brow, b8of_row, List.map_cons, List.map_nil, b8of_wrap, Nd.encs_eq, Nd.enc, enc_13_node_kind, enc_node_checker, enc_node_open])).symm
                  obtain ⟨hq, h⟩ := req_out h
                  refine And.intro (show (((List.map brow) l4).length + ((List.map brow) [b8of 92]).length) * 1 ≤ 140737488355328 ∧ ((List.map brow) l4).length + ((List.map brow) [b8of 92]).length ≤ 9223372036854775807 from by simp only [List.length_append, List.length_cons, List.length_nil, List.length_map, rlen (fun _ => rfl)] at hq ⊢; omega) ?_
                  cases h
                  exact (Le.trans (Le.rename [(1, 0)] [(0, .s (.str s1)), (3, .orow 0), (4, .s (.int .i64 i3))] [(0, .row 5 1 ((List.map brow) (l4 ++ [b8of 92])))] 1 ⟨rfl, rfl, rfl, trivial⟩ ⟨rfl, ⟨_, rfl, congrArg (Ob.row 5 1) (by simp [List.map_append, List.map_take, List.map_drop, irow, brow, b8of_row, List.map_cons, List.map_nil, b8of_wrap, Nd.encs_eq, Nd.enc, enc_13_node_kind, enc_node_checker, enc_node_open])⟩, trivial⟩ rfl rfl rfl rfl rfl) (Le.rename [(0, 0)] _ _ _ ⟨rfl, rfl, rfl, trivial⟩ ⟨rfl, ⟨_, rfl, rfl⟩, trivial⟩ rfl rfl rfl rfl rfl))
                · replace h := bif_f hb h
                  refine tri_skip ?_
                  cases h
                  exact (Le.rename [(0, 0)] _ _ _ ⟨rfl, rfl, rfl, trivial⟩ ⟨rfl, ⟨_, rfl, rfl⟩, trivial⟩ rfl rfl rfl rfl rfl)
              · show Tri _ _ _ _
                refine tri_le hle ?_
                refine tri_region (by exact tokW) (by exact gok) [30] [28, 29] rfl ?_
                obtain ⟨c14, hc14, h⟩ := bind_out h
                refine And.intro (str_ok hc14).1 ?_
                intro v15 hv15
                obtain rfl : (c14.toNat : Int) = v15 := (hv15.trans (str_ok hc14).2).symm
                intro r16 hr16
                obtain rfl : (List.map brow) [c14] = r16 := (hr16.trans (by simp [List.map_append, List.map_take, List.map_drop, irow, brow, b8of_row, List.map_cons, List.map_nil, b8of_wrap, Nd.encs_eq, Nd.enc, enc_13_node_kind, enc_node_checker, enc_node_open])).symm
                obtain ⟨hq, h⟩ := req_out h
                refine And.intro (show (((List.map brow) l12).length + ((List.map brow) [c14]).length) * 1 ≤ 140737488355328 ∧ ((List.map brow) l12).length + ((List.map brow) [c14]).length ≤ 9223372036854775807 from by simp only [List.length_append, List.length_cons, List.length_nil, List.length_map, rlen (fun _ => rfl)] at hq ⊢; omega) ?_
                cases h
                exact (Le.trans (Le.rename [(1, 0)] [(0, .s (.str s1)), (3, .orow 0), (4, .s (.int .i64 i3))] [(0, .row 5 1 ((List.map brow) (l12 ++ [c14])))] 1 ⟨rfl, rfl, rfl, trivial⟩ ⟨rfl, ⟨_, rfl, congrArg (Ob.row 5 1) (by simp [List.map_append, List.map_take, List.map_drop, irow, brow, b8of_row, List.map_cons, List.map_nil, b8of_wrap, Nd.encs_eq, Nd.enc, enc_13_node_kind, enc_node_checker, enc_node_open])⟩, trivial⟩ rfl rfl rfl rfl rfl) (Le.rename [(0, 0)] _ _ _ ⟨rfl, rfl, rfl, trivial⟩ ⟨rfl, ⟨_, rfl, rfl⟩, trivial⟩ rfl rfl rfl rfl rfl))
          · show Tri _ _ _ _
            refine tri_le hle ?_
            refine tri_region (by exact tokW) (by exact gok) [] [] rfl ?_
            refine ⟨(k, IntKind.i64.wrap (i3 + 1), l6), h, (Le.rename [(0, 0)] _ _ _ ⟨rfl, rfl, rfl, trivial⟩ ⟨rfl, ⟨_, rfl, rfl⟩, trivial⟩ rfl rfl rfl rfl rfl), Nat.lt_succ_self k⟩
        · replace h := bif_f hb h
          refine tri_exit ?_
          cases h
          exact (Le.rename [(0, 0)] _ _ _ ⟨rfl, trivial⟩ ⟨rfl, ⟨_, rfl, rfl⟩, trivial⟩ rfl rfl rfl rfl rfl)
  · show Tri _ _ _ _
    refine tri_le hle ?_
    refine tri_seq ?_
    refine tri_region (by exact tokW) (by exact gok) [33] [32, 34] rfl ?_
    intro r17 hr17
    obtain rfl : (List.map brow) [b8of 34] = r17 := (hr17.trans (by simp [List.map_append, List.map_take, List.map_drop, irow, brow, b8of_row, List.map_cons, List.map_nil, b8of_wrap, Nd.encs_eq, Nd.enc, enc_13_node_kind, enc_node_checker, enc_node_open])).symm
    obtain ⟨hq, h⟩ := req_out h
    refine And.intro (show (((List.map brow) l5).length + ((List.map brow) [b8of 34]).length) * 1 ≤ 140737488355328 ∧ ((List.map brow) l5).length + ((List.map brow) [b8of 34]).length ≤ 9223372036854775807 from by simp only [List.length_append, List.length_cons, List.length_nil, List.length_map, rlen (fun _ => rfl)] at hq ⊢; omega) ?_
    have hraw : ((List.map brow) l5) ++ ((List.map brow) [b8of 34]) = (List.map brow) (l5 ++ [b8of 34]) := (show ((List.map brow) l5) ++ ((List.map brow) [b8of 34]) = (List.map brow) (l5 ++ [b8of 34]) from (by simp [List.map_append, List.map_take, List.map_drop, irow, brow, b8of_row, List.map_cons, List.map_nil, b8of_wrap, Nd.encs_eq, Nd.enc, enc_13_node_kind, enc_node_checker, enc_node_open]))
    refine And.intro (show ((List.map brow) l5) ++ ((List.map brow) [b8of 34]) = ((((List.map brow) l5) ++ ((List.map brow) [b8of 34])).map browOf).map brow from by rw [hraw, brow_back]) ?_
    intro s18 hs18
    obtain rfl : l5 ++ [b8of 34] = s18 := (hs18.trans ((congrArg (List.map browOf) hraw).trans (brow_back _))).symm
    show Tri _ _ _ _
    refine tri_le (Le.rename [] [(2, .s (.str (l5 ++ [b8of 34])))] [] 0 ⟨rfl, trivial⟩ trivial rfl rfl rfl rfl rfl) ?_
    refine tri_ret ?_
    have hy := Option.some.inj h
    subst hy
    unfold Gives
    exact ⟨_, Le.refl _ _, rfl, rfl⟩
def R_r09_Dump (n : Nat) (xs : List AV) (r : Ret) : Prop := ∃ (a0 : Nd) (y0 : List UInt8), m_r09_Dump n a0 = some y0 ∧ xs = [.agg ((Nd.enc a0).map .s)] ∧ r = .val (.s (.str y0))
set_option maxHeartbeats 2000000 in
set_option maxRecDepth 100000 in
theorem step_r09_Dump (n : Nat) (ih : PSound Tryd.prog 18 (pspec (R_r09_Dump n))) : PSound Tryd.prog 18 (pspec (R_r09_Dump (n + 1))) := by
  have gok : ∀ f s, look? f [(55, S_r09_Int), (56, S_r09_Quoted), (18, pspec (R_r09_Dump n))] = some s → PSound Tryd.prog f s := look_all (by
    simp only [List.forall_mem_cons]
    exact ⟨ok_r09_Int, ok_r09_Quoted, ih, by simp⟩)
  refine psound tokW Tryd.call18 Tryd.func18 rfl (fun xs r h => by obtain ⟨_, _, _, rfl, _⟩ := h; show 1 ≤ 69; decide) 69 rfl ?_
  rintro xs r w0 G0 ⟨⟨a1_kind, a1_text, a1_cols, a1_kids⟩, y0, h, rfl, rfl⟩ _
  rw [m_r09_Dump] at h
  refine tri_seq ?_
  refine tri_region (by exact tokW) (by exact gok) [] [] rfl ?_
  show Tri _ _ _ _
  refine tri_seq ?_
  refine tri_region (by exact tokW) (by exact gok) [3] [] rfl ?_
  show Tri _ _ _ _
  refine tri_le (Le.giveBox 0 [.str [], .str [114, 111, 119], .str [115, 121, 109], .str [110, 117, 109], .str [116, 101, 120, 116], .str [102, 114, 97, 99], .str [114, 111, 111, 116], .str [115, 117, 98], .str [115, 117, 112], .str [98, 111, 116, 104], .str [97, 99, 99, 101, 110, 116], .str [102, 101, 110, 99, 101], .str [109, 97, 116, 114, 105, 120]] rfl rfl) ?_
  refine tri_seq ?_
  refine tri_region (by exact tokW) (by exact gok) [] [] rfl ?_
  obtain ⟨y2, hy2, h⟩ := bind_out h
  refine ⟨_, ⟨_, _, _, hy2, rfl, rfl⟩, ?_⟩
  obtain ⟨hq, h⟩ := req_out h
  refine And.intro (Nat.le_trans hq (by decide)) ?_
  show Tri _ _ _ _
  refine tri_seq ?_
  refine tri_seq ?_
  obtain ⟨x3, hj, h⟩ := bind_out h
  refine tri_post ⟨ofL [(1, .s (.pt [.int .i64 a1_kind, .str a1_text, .int .i64 a1_cols, .sl 4 (Nd.encs a1_kids)])), (3, .s (.pt [.str [], .str [114, 111, 119], .str [115, 121, 109], .str [110, 117, 109], .str [116, 101, 120, 116], .str [102, 114, 97, 99], .str [114, 111, 111, 116], .str [115, 117, 98], .str [115, 117, 112], .str [98, 111, 116, 104], .str [97, 99, 99, 101, 110, 116], .str [102, 101, 110, 99, 101], .str [109, 97, 116, 114, 105, 120]])), (4, .s (.str ([110, 111, 100, 101] ++ y2))), (18, .s (.bool x3))], fun _ => none, 0⟩ ?_ (fun σ' hle => ?_)
  · replace h := hj
    refine tri_region (by exact tokW) (by exact gok) [] [14] rfl ?_
    intro b hb
    cases b with
    | true =>
      replace h := bif_t hb.symm h
      cases h
      exact (Le.rename [] _ [] 0 ⟨rfl, rfl, rfl, rfl, trivial⟩ trivial rfl rfl rfl rfl rfl)
    | false =>
      replace h := bif_f hb.symm h
      cases h
      exact (Le.rename [] _ [] 0 ⟨rfl, rfl, rfl, rfl, trivial⟩ trivial rfl rfl rfl rfl rfl)
  · show Tri _ _ _ _
    refine tri_le hle ?_
    obtain ⟨x4, hj, h⟩ := bind_out h
    refine tri_post ⟨ofL [(1, .s (.pt [.int .i64 a1_kind, .str a1_text, .int .i64 a1_cols, .sl 4 (Nd.encs a1_kids)])), (4, .s (.str x4))], fun _ => none, 0⟩ ?_ (fun σ' hle => ?_)
    · replace h := hj
      refine tri_cond rfl (fun hb => ?_) (fun hb => ?_)
      · replace h := bif_t hb h
        refine tri_region (by exact tokW) (by exact gok) [] [20] rfl ?_
        intro vsp hvsp
        cases hc : (a1_kind == 1) with
        | true =>
          replace h := bif_t hc h
          obtain rfl : (1 : Int) = vsp := (hvsp.trans (eq_of_beq hc)).symm
          refine And.intro (by decide) ?_
          cases h
          exact (Le.forget _ ⟨rfl, rfl, trivial⟩)
        | false =>
          replace h := bif_f hc h
          cases hc : (a1_kind == 2) with
          | true =>
            replace h := bif_t hc h
            obtain rfl : (2 : Int) = vsp := (hvsp.trans (eq_of_beq hc)).symm
            refine And.intro (by decide) ?_
            cases h
            exact (Le.forget _ ⟨rfl, rfl, trivial⟩)
          | false =>
            replace h := bif_f hc h
            cases hc : (a1_kind == 3) with
            | true =>
              replace h := bif_t hc h
              obtain rfl : (3 : Int) = vsp := (hvsp.trans (eq_of_beq hc)).symm
              refine And.intro (by decide) ?_
              cases h
              exact (Le.forget _ ⟨rfl, rfl, trivial⟩)
            | false =>
              replace h := bif_f hc h
              cases hc : (a1_kind == 4) with
              | true =>
                replace h := bif_t hc h
                obtain rfl : (4 : Int) = vsp := (hvsp.trans (eq_of_beq hc)).symm
                refine And.intro (by decide) ?_
                cases h
                exact (Le.forget _ ⟨rfl, rfl, trivial⟩)
              | false =>
                replace h := bif_f hc h
                cases hc : (a1_kind == 5) with
                | true =>
                  replace h := bif_t hc h
                  obtain rfl : (5 : Int) = vsp := (hvsp.trans (eq_of_beq hc)).symm
                  refine And.intro (by decide) ?_
                  cases h
                  exact (Le.forget _ ⟨rfl, rfl, trivial⟩)
                | false =>
                  replace h := bif_f hc h
                  cases hc : (a1_kind == 6) with
                  | true =>
                    replace h := bif_t hc h
                    obtain rfl : (6 : Int) = vsp := (hvsp.trans (eq_of_beq hc)).symm
                    refine And.intro (by decide) ?_
                    cases h
                    exact (Le.forget _ ⟨rfl, rfl, trivial⟩)
                  | false =>
                    replace h := bif_f hc h
                    cases hc : (a1_kind == 7) with
                    | true =>
                      replace h := bif_t hc h
                      obtain rfl : (7 : Int) = vsp := (hvsp.trans (eq_of_beq hc)).symm
                      refine And.intro (by decide) ?_
                      cases h
                      exact (Le.forget _ ⟨rfl, rfl, trivial⟩)
                    | false =>
                      replace h := bif_f hc h
                      cases hc : (a1_kind == 8) with
                      | true =>
                        replace h := bif_t hc h
                        obtain rfl : (8 : Int) = vsp := (hvsp.trans (eq_of_beq hc)).symm
                        refine And.intro (by decide) ?_
                        cases h
                        exact (Le.forget _ ⟨rfl, rfl, trivial⟩)
                      | false =>
                        replace h := bif_f hc h
                        cases hc : (a1_kind == 9) with
                        | true =>
                          replace h := bif_t hc h
                          obtain rfl : (9 : Int) = vsp := (hvsp.trans (eq_of_beq hc)).symm
                          refine And.intro (by decide) ?_
                          cases h
                          exact (Le.forget _ ⟨rfl, rfl, trivial⟩)
                        | false =>
                          replace h := bif_f hc h
                          cases hc : (a1_kind == 10) with
                          | true =>
                            replace h := bif_t hc h
                            obtain rfl : (10 : Int) = vsp := (hvsp.trans (eq_of_beq hc)).symm
                            refine And.intro (by decide) ?_
                            cases h
                            exact (Le.forget _ ⟨rfl, rfl, trivial⟩)
                          | false =>
                            replace h := bif_f hc h
                            cases hc : (a1_kind == 11) with
                            | true =>
                              replace h := bif_t hc h
                              obtain rfl : (11 : Int) = vsp := (hvsp.trans (eq_of_beq hc)).symm
                              refine And.intro (by decide) ?_
                              cases h
                              exact (Le.forget _ ⟨rfl, rfl, trivial⟩)
                            | false =>
                              replace h := bif_f hc h
                              cases hc : (a1_kind == 12) with
                              | true =>
                                replace h := bif_t hc h
                                obtain rfl : (12 : Int) = vsp := (hvsp.trans (eq_of_beq hc)).symm
                                refine And.intro (by decide) ?_
                                cases h
                                exact (Le.forget _ ⟨rfl, rfl, trivial⟩)
                              | false =>
                                replace h := bif_f hc h
                                cases h
      · replace h := bif_f hb h
        refine tri_skip ?_
        cases h
        exact (Le.forget _ ⟨rfl, rfl, trivial⟩)
    · show Tri _ _ _ _
      refine tri_le hle ?_
      refine tri_seq ?_
      refine tri_seq ?_
      refine tri_region (by exact tokW) (by exact gok) [] [] rfl ?_
      show Tri _ _ _ _
      obtain ⟨x5, hj, h⟩ := bind_out h
      refine tri_post ⟨ofL [(1, .s (.pt [.int .i64 a1_kind, .str a1_text, .int .i64 a1_cols, .sl 4 (Nd.encs a1_kids)])), (4, .s (.str x5))], fun _ => none, 0⟩ ?_ (fun σ' hle => ?_)
      · replace h := hj
        refine tri_cond rfl (fun hb => ?_) (fun hb => ?_)
        · replace h := bif_t hb h
          refine tri_region (by exact tokW) (by exact gok) [] [] rfl ?_
          obtain ⟨hq, h⟩ := req_out h
          refine And.intro (Nat.le_trans hq (by decide)) ?_
          obtain ⟨y6, hy6, h⟩ := bind_out h
          refine ⟨_, ⟨_, _, _, hy6, rfl, rfl⟩, ?_⟩
          obtain ⟨hq, h⟩ := req_out h
          refine And.intro (Nat.le_trans hq (by decide)) ?_
          cases h
          exact (Le.forget _ ⟨rfl, rfl, trivial⟩)
        · replace h := bif_f hb h
          refine tri_skip ?_
          cases h
          exact (Le.forget _ ⟨rfl, rfl, trivial⟩)
      · show Tri _ _ _ _
        refine tri_le hle ?_
        refine tri_seq ?_
        refine tri_seq ?_
        refine tri_region (by exact tokW) (by exact gok) [] [] rfl ?_
        show Tri _ _ _ _
        obtain ⟨x7, hj, h⟩ := bind_out h
        refine tri_post ⟨ofL [(1, .s (.pt [.int .i64 a1_kind, .str a1_text, .int .i64 a1_cols, .sl 4 (Nd.encs a1_kids)])), (4, .s (.str x7))], fun _ => none, 0⟩ ?_ (fun σ' hle => ?_)
        · replace h := hj
          refine tri_cond rfl (fun hb => ?_) (fun hb => ?_)
          · replace h := bif_t hb h
            refine tri_region (by exact tokW) (by exact gok) [] [] rfl ?_
            obtain ⟨hq, h⟩ := req_out h
            refine And.intro (Nat.le_trans hq (by decide)) ?_
            obtain ⟨y8, hy8, h⟩ := bind_out h
            refine ⟨_, ⟨_, _, _, hy8, rfl, rfl⟩, ?_⟩
            obtain ⟨hq, h⟩ := req_out h
            refine And.intro (Nat.le_trans hq (by decide)) ?_
            cases h
            exact (Le.forget _ ⟨rfl, rfl, trivial⟩)
          · replace h := bif_f hb h
            refine tri_skip ?_
            cases h
            exact (Le.forget _ ⟨rfl, rfl, trivial⟩)
        · show Tri _ _ _ _
          refine tri_le hle ?_
          refine tri_seq ?_
          refine tri_seq ?_
          refine tri_region (by exact tokW) (by exact gok) [] [43] rfl ?_
          intro n9 hn9
          obtain rfl : (a1_kids.length : Int) = n9 := (hn9.trans (congrArg (fun m : Nat => (m : Int)) (rlen Nd.encs_eq a1_kids))).symm
          show Tri _ _ _ _
          refine tri_cond rfl (fun hb => ?_) (fun hb => ?_)
          · replace h := bif_t hb h
            refine tri_seq ?_
            refine tri_region (by exact tokW) (by exact gok) [] [] rfl ?_
            show Tri _ _ _ _
            refine tri_ret ?_
            have hy := Option.some.inj h
            subst hy
            unfold Gives
            exact ⟨_, Le.refl _ _, rfl, rfl⟩
          · replace h := bif_f hb h
            refine tri_skip ?_
            show Tri _ _ _ _
            refine tri_seq ?_
            refine tri_region (by exact tokW) (by exact gok) [] [] rfl ?_
            obtain ⟨hq, h⟩ := req_out h
            refine And.intro (Nat.le_trans hq (by decide)) ?_
            show Tri _ _ _ _
            refine tri_seq ?_
            refine tri_seq ?_
            refine tri_region (by exact tokW) (by exact gok) [] [] rfl ?_
            show Tri _ _ _ _
            obtain ⟨x12, hl, h⟩ := bind_out h
            refine tri_post ⟨ofL [(4, .s (.str x12))], fun _ => none, 0⟩ ?_ (fun σ' hle => ?_)
            · refine tri_block (tri_loopI (X := Nat × (List UInt8) × Int) (fun y => match y with | (k, x10, x11) => ⟨ofL [(1, .s (.pt [.int .i64 a1_kind, .str a1_text, .int .i64 a1_cols, .sl 4 (Nd.encs a1_kids)])), (4, .s (.str x10)), (5, .s (.int .i64 x11))], fun _ => none, 0⟩) (fun y => m_r09_Dump_l1 (m_r09_Dump n) a1_kids y.1 y.2.1 y.2.2 = some x12) (fun y => y.1) (n, x7 ++ [40], 0) hl ?_ ?_)
              · exact (Le.forget _ ⟨rfl, rfl, rfl, trivial⟩)
              · rintro ⟨k, x10, x11⟩ h
                cases k with
                | zero => cases h
                | succ k =>
                  replace h : m_r09_Dump_l1 (m_r09_Dump n) a1_kids (k+1) x10 x11 = some x12 := h
                  rw [m_r09_Dump_l1] at h
                  refine tri_seq ?_
                  refine tri_seq ?_
                  refine tri_region (by exact tokW) (by exact gok) [] [51] rfl ?_
                  intro n13 hn13
                  obtain rfl : (a1_kids.length : Int) = n13 := (hn13.trans (congrArg (fun m : Nat => (m : Int)) (rlen Nd.encs_eq a1_kids))).symm
                  show Tri _ _ _ _
                  refine tri_cond rfl (fun hb => ?_) (fun hb => ?_)
                  · replace h := bif_t hb h
                    refine tri_skip ?_
                    show Tri _ _ _ _
                    refine tri_seq ?_
                    obtain ⟨x14, hj, h⟩ := bind_out h
                    refine tri_post ⟨ofL [(1, .s (.pt [.int .i64 a1_kind, .str a1_text, .int .i64 a1_cols, .sl 4 (Nd.encs a1_kids)])), (4, .s (.str x14)), (5, .s (.int .i64 x11))], fun _ => none, 0⟩ ?_ (fun σ' hle => ?_)
                    · replace h := hj
                      refine tri_block ?_
                      refine tri_seq ?_
                      refine tri_seq ?_
                      refine tri_region (by exact tokW) (by exact gok) [] [] rfl ?_
                      show Tri _ _ _ _
                      obtain ⟨x15, hj, h⟩ := bind_out h
                      refine tri_post ⟨ofL [(1, .s (.pt [.int .i64 a1_kind, .str a1_text, .int .i64 a1_cols, .sl 4 (Nd.encs a1_kids)])), (4, .s (.str x15)), (5, .s (.int .i64 x11))], fun _ => none, 0⟩ ?_ (fun σ' hle => ?_)
                      · replace h := hj
                        refine tri_cond rfl (fun hb => ?_) (fun hb => ?_)
                        · replace h := bif_t hb h
                          refine tri_region (by exact tokW) (by exact gok) [] [] rfl ?_
                          obtain ⟨hq, h⟩ := req_out h
                          refine And.intro (Nat.le_trans hq (by decide)) ?_
                          cases h
                          exact (Le.forget _ ⟨rfl, rfl, rfl, trivial⟩)
                        · replace h := bif_f hb h
                          refine tri_skip ?_
                          cases h
                          exact (Le.forget _ ⟨rfl, rfl, rfl, trivial⟩)
                      · show Tri _ _ _ _
                        refine tri_le hle ?_
                        refine tri_region (by exact tokW) (by exact gok) [] [63] rfl ?_
                        obtain ⟨⟨e16_kind, e16_text, e16_cols, e16_kids⟩, he16, h⟩ := bind_out h
                        refine And.intro (at_ok Nd.encs_eq he16).1 ?_
                        intro r17 hr17
                        obtain rfl : [.int .i64 e16_kind, .str e16_text, .int .i64 e16_cols, .sl 4 (Nd.encs e16_kids)] = r17 := (hr17.trans (at_ok Nd.encs_eq he16).2.1).symm
                        obtain ⟨y18, hy18, h⟩ := bind_out h
                        refine ⟨_, ⟨_, _, hy18, rfl, rfl⟩, ?_⟩
                        obtain ⟨hq, h⟩ := req_out h
                        refine And.intro (Nat.le_trans hq (by decide)) ?_
                        cases h
                        exact (Le.forget _ ⟨rfl, rfl, rfl, trivial⟩)
                    · show Tri _ _ _ _
                      refine tri_le hle ?_
                      refine tri_region (by exact tokW) (by exact gok) [] [] rfl ?_
                      refine ⟨(k, x14, IntKind.i64.wrap (x11 + 1)), h, (Le.forget _ ⟨rfl, rfl, rfl, trivial⟩), Nat.lt_succ_self k⟩
                  · replace h := bif_f hb h
                    refine tri_exit ?_
                    cases h
                    exact (Le.forget _ ⟨rfl, trivial⟩)
            · show Tri _ _ _ _
              refine tri_le hle ?_
              refine tri_seq ?_
              refine tri_region (by exact tokW) (by exact gok) [] [] rfl ?_
              obtain ⟨hq, h⟩ := req_out h
              refine And.intro (Nat.le_trans hq (by decide)) ?_
              show Tri _ _ _ _
              refine tri_ret ?_
              have hy := Option.some.inj h
              subst hy
              unfold Gives
              exact ⟨_, Le.refl _ _, rfl, rfl⟩
theorem all_r09_Dump : ∀ n, PSound Tryd.prog 18 (pspec (R_r09_Dump n)) := by
  intro n
  induction n with
  | zero => exact psound_none Tryd.call18 (fun xs r h => by obtain ⟨_, _, h, _⟩ := h; cases h)
  | succ n ih => exact step_r09_Dump n ih
def S_r09_Dump : PSpec := pspec fun xs r => ∃ n, R_r09_Dump n xs r
theorem ok_r09_Dump : PSound Tryd.prog 18 S_r09_Dump := psound_all all_r09_Dump
def R_r09_Equal (n : Nat) (xs : List AV) (r : Ret) : Prop := ∃ (a0 : Nd) (a1 : Nd) (y0 : Bool), m_r09_Equal n a0 a1 = some y0 ∧ xs = [.agg ((Nd.enc a0).map .s), .agg ((Nd.enc a1).map .s)] ∧ r = .val (.s (.bool y0))
def R_r09_SameItems (n : Nat) (xs : List AV) (r : Ret) : Prop := ∃ (a0 : List Nd) (a1 : List Nd) (y0 : Bool), m_r09_SameItems n a0 a1 = some y0 ∧ xs = [.s (.sl 4 (Nd.encs a0)), .s (.sl 4 (Nd.encs a1))] ∧ r = .val (.s (.bool y0))
set_option maxHeartbeats 2000000 in
set_option maxRecDepth 100000 in
theorem step_r09_Equal (n : Nat) (ih_r09_Equal : PSound Tryd.prog 19 (pspec (R_r09_Equal n))) (ih_r09_SameItems : PSound Tryd.prog 57 (pspec (R_r09_SameItems n))) : PSound Tryd.prog 19 (pspec (R_r09_Equal (n + 1))) := by
  have gok : ∀ f s, look? f [(57, pspec (R_r09_SameItems n))] = some s → PSound Tryd.prog f s := look_all (by
    simp only [List.forall_mem_cons]
    exact ⟨ih_r09_SameItems, by simp⟩)
  refine psound tokW Tryd.call19 Tryd.func19 rfl (fun xs r h => by obtain ⟨_, _, _, _, rfl, _⟩ := h; show 2 ≤ 31; decide) 31 rfl ?_
  rintro xs r w0 G0 ⟨⟨a1_kind, a1_text, a1_cols, a1_kids⟩, ⟨b2_kind, b2_text, b2_cols, b2_kids⟩, y0, h, rfl, rfl⟩ _
  rw [m_r09_Equal] at h
  refine tri_seq ?_
  refine tri_region (by exact tokW) (by exact gok) [] [] rfl ?_
  show Tri _ _ _ _
  refine tri_seq ?_
  obtain ⟨x3, hj, h⟩ := bind_out h
  refine tri_post ⟨ofL [(4, .s (.bool x3))], fun _ => none, 0⟩ ?_ (fun σ' hle => ?_)
  · replace h := hj
    refine tri_region (by exact tokW) (by exact gok) [] [10, 17, 24] rfl ?_
    intro b hb
    cases b with
    | true =>
      replace h := bif_t hb.symm h
      intro b hb
      cases b with
      | true =>
        replace h := bif_t hb.symm h
        intro b hb
        cases b with
        | true =>
          replace h := bif_t hb.symm h
          obtain ⟨y4, hy4, h⟩ := bind_out h
          refine ⟨_, ⟨_, _, _, hy4, rfl, rfl⟩, ?_⟩
          cases h
          exact (Le.forget _ ⟨rfl, trivial⟩)
        | false =>
          replace h := bif_f hb.symm h
          cases h
          exact (Le.forget _ ⟨rfl, trivial⟩)
      | false =>
        replace h := bif_f hb.symm h
        intro b hb
        subst hb
        cases h
        exact (Le.forget _ ⟨rfl, trivial⟩)
    | false =>
      replace h := bif_f hb.symm h
      intro b hb
      subst hb
      intro b hb
      subst hb
      cases h
      exact (Le.forget _ ⟨rfl, trivial⟩)
  · show Tri _ _ _ _
    refine tri_le hle ?_
    refine tri_ret ?_
    have hy := Option.some.inj h
    subst hy
    unfold Gives
    exact ⟨_, Le.refl _ _, rfl, rfl⟩
set_option maxHeartbeats 2000000 in
set_option maxRecDepth 100000 in
theorem step_r09_SameItems (n : Nat) (ih_r09_Equal : PSound Tryd.prog 19 (pspec (R_r09_Equal n))) (ih_r09_SameItems : PSound Tryd.prog 57 (pspec (R_r09_SameItems n))) : PSound Tryd.prog 57 (pspec (R_r09_SameItems (n + 1))) := by
  have gok : ∀ f s, look? f [(19, pspec (R_r09_Equal n))] = some s → PSound Tryd.prog f s := look_all (by
    simp only [List.forall_mem_cons]
    exact ⟨ih_r09_Equal, by simp⟩)
  refine psound tokW Tryd.call57 Tryd.func57 rfl (fun xs r h => by obtain ⟨_, _, _, _, rfl, _⟩ := h; show 2 ≤ 27; decide) 27 rfl ?_
  rintro xs r w0 G0 ⟨a1, b2, y0, h, rfl, rfl⟩ _
  rw [m_r09_SameItems] at h
  refine tri_seq ?_
  refine tri_region (by exact tokW) (by exact gok) [] [] rfl ?_
  show Tri _ _ _ _
  refine tri_seq ?_
  refine tri_seq ?_
  refine tri_region (by exact tokW) (by exact gok) [] [7, 9] rfl ?_
  intro n3 hn3
  obtain rfl : (a1.length : Int) = n3 := (hn3.trans (congrArg (fun m : Nat => (m : Int)) (rlen Nd.encs_eq a1))).symm
  intro n4 hn4
  obtain rfl : (b2.length : Int) = n4 := (hn4.trans (congrArg (fun m : Nat => (m : Int)) (rlen Nd.encs_eq b2))).symm
  show Tri _ _ _ _
  refine tri_cond rfl (fun hb => ?_) (fun hb => ?_)
  · replace h := bif_t hb h
    refine tri_seq ?_
    refine tri_region (by exact tokW) (by exact gok) [] [] rfl ?_
    show Tri _ _ _ _
    refine tri_ret ?_
    have hy := Option.some.inj h
    subst hy
    unfold Gives
    exact ⟨_, Le.refl _ _, rfl, rfl⟩
  · replace h := bif_f hb h
    refine tri_skip ?_
    show Tri _ _ _ _
    refine tri_seq ?_
    refine tri_seq ?_
    refine tri_region (by exact tokW) (by exact gok) [] [] rfl ?_
    show Tri _ _ _ _
    obtain ⟨fl, hl, ho1⟩ := bind_out h
    refine tri_fl (fl := fl) (fun z => match z with | _ => ⟨ofL [], fun _ => none, 0⟩) ?_ (fun z σ' hz hle => ?_)
    · refine tri_block (tri_loopI (X := Nat × Int) (fun y => match y with | (k, i5) => ⟨ofL [(0, .s (.sl 4 (Nd.encs a1))), (1, .s (.sl 4 (Nd.encs b2))), (5, .s (.int .i64 i5))], fun _ => none, 0⟩) (fun y => m_r09_SameItems_l1 (m_r09_Equal n) a1 b2 y.1 y.2 = some fl) (fun y => y.1) (n, 0) hl ?_ ?_)
      · exact (Le.forget _ ⟨rfl, rfl, rfl, trivial⟩)
      · rintro ⟨k, i5⟩ h
        cases k with
        | zero => cases h
        | succ k =>
          replace h : m_r09_SameItems_l1 (m_r09_Equal n) a1 b2 (k+1) i5 = some fl := h
          rw [m_r09_SameItems_l1] at h
          refine tri_seq ?_
          refine tri_seq ?_
          refine tri_region (by exact tokW) (by exact gok) [] [13] rfl ?_
          intro n6 hn6
          obtain rfl : (a1.length : Int) = n6 := (hn6.trans (congrArg (fun m : Nat => (m : Int)) (rlen Nd.encs_eq a1))).symm
          show Tri _ _ _ _
          refine tri_cond rfl (fun hb => ?_) (fun hb => ?_)
          · replace h := bif_t hb h
            refine tri_skip ?_
            show Tri _ _ _ _
            refine tri_seq ?_
            refine tri_block ?_
            refine tri_seq ?_
            refine tri_drawn (by exact tokW) (by exact gok) (by exact mixed) [] [19, 23] [] rfl (by decide +kernel) ?_
            obtain ⟨⟨e7_kind, e7_text, e7_cols, e7_kids⟩, he7, h⟩ := bind_out h
            refine And.intro (at_ok Nd.encs_eq he7).1 ?_
            intro r8 hr8
            obtain rfl : [.int .i64 e7_kind, .str e7_text, .int .i64 e7_cols, .sl 4 (Nd.encs e7_kids)] = r8 := (hr8.trans (at_ok Nd.encs_eq he7).2.1).symm
            obtain ⟨⟨e9_kind, e9_text, e9_cols, e9_kids⟩, he9, h⟩ := bind_out h
            refine And.intro (at_ok Nd.encs_eq he9).1 ?_
            intro r10 hr10
            obtain rfl : [.int .i64 e9_kind, .str e9_text, .int .i64 e9_cols, .sl 4 (Nd.encs e9_kids)] = r10 := (hr10.trans (at_ok Nd.encs_eq he9).2.1).symm
            obtain ⟨y11, hy11, h⟩ := bind_out h
            refine ⟨_, ⟨_, _, _, hy11, rfl, rfl⟩, ?_⟩
            show Tri _ _ _ _
            refine tri_cond rfl (fun hb => ?_) (fun hb => ?_)
            · replace h := bif_t hb h
              refine tri_seq ?_
              refine tri_region (by exact tokW) (by exact gok) [] [] rfl ?_
              show Tri _ _ _ _
              refine tri_ret ?_
              cases h
              replace h : some _ = some _ := ho1
              have hy := Option.some.inj h
              subst hy
              unfold Gives
              exact ⟨_, Le.refl _ _, rfl, rfl⟩
            · replace h := bif_f hb h
              refine tri_skip ?_
              show Tri _ _ _ _
              refine tri_region (by exact tokW) (by exact gok) [] [] rfl ?_
              refine ⟨(k, IntKind.i64.wrap (i5 + 1)), h, (Le.forget _ ⟨rfl, rfl, rfl, trivial⟩), Nat.lt_succ_self k⟩
          · replace h := bif_f hb h
            refine tri_exit ?_
            cases h
            exact ⟨_, rfl, (Le.forget _ trivial)⟩
    · subst hz
      obtain _ := z
      replace h := ho1
      show Tri _ _ _ _
      refine tri_le hle ?_
      refine tri_seq ?_
      refine tri_region (by exact tokW) (by exact gok) [] [] rfl ?_
      show Tri _ _ _ _
      refine tri_ret ?_
      have hy := Option.some.inj h
      subst hy
      unfold Gives
      exact ⟨_, Le.refl _ _, rfl, rfl⟩
theorem alls_r09_Equal : ∀ n, PSound Tryd.prog 19 (pspec (R_r09_Equal n)) ∧ PSound Tryd.prog 57 (pspec (R_r09_SameItems n)) := by
  intro n
  induction n with
  | zero =>
    refine ⟨?_, ?_⟩
    · exact psound_none Tryd.call19 (fun xs r h => by obtain ⟨_, _, _, h, _⟩ := h; rw [m_r09_Equal] at h; cases h)
    · exact psound_none Tryd.call57 (fun xs r h => by obtain ⟨_, _, _, h, _⟩ := h; rw [m_r09_SameItems] at h; cases h)
  | succ n ih =>
    obtain ⟨ih_r09_Equal, ih_r09_SameItems⟩ := ih
    exact ⟨step_r09_Equal n ih_r09_Equal ih_r09_SameItems, step_r09_SameItems n ih_r09_Equal ih_r09_SameItems⟩
def S_r09_Equal : PSpec := pspec fun xs r => ∃ n, R_r09_Equal n xs r
theorem ok_r09_Equal : PSound Tryd.prog 19 S_r09_Equal := psound_all (fun n => (alls_r09_Equal n).1)
end Go.Proofs.YtefbmooajknmgaaDoor
