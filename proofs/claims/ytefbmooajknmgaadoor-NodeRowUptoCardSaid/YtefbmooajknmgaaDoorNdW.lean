/-
  Walks, printed by gw.py.
-/
import Derived.Test.YtefbmooajknmgaaDoorLibB
import Derived.Test.YtefbmooajknmgaaDoorMNod
set_option linter.unusedVariables false
set_option linter.unusedSimpArgs false
namespace Go.Proofs.YtefbmooajknmgaaDoor
open Go.Abs

/- vinculum/node.empty -/
def R_node_empty (xs : List AV) (r : Ret) : Prop := ∃ (a0 : List UInt8) (y0 : Bool), m_node_empty a0 = some y0 ∧ xs = [.s (.str a0)] ∧ r = .val (.s (.bool y0))
def S_node_empty : PSpec := pspec fun xs r => R_node_empty xs r
set_option maxHeartbeats 2000000 in
set_option maxRecDepth 100000 in
theorem ok_node_empty : PSound Tryd.prog 73 S_node_empty := by
  have gok : ∀ (f : Nat) (s : PSpec), (fun _ => none : Nat → Option PSpec) f = some s → PSound Tryd.prog f s := fun _ _ h => by cases h
  refine psound tokW Tryd.call73 Tryd.func73 rfl (fun xs r h => by obtain ⟨_, _, _, rfl, _⟩ := h; show 1 ≤ 5; decide) 5 rfl ?_
  rintro xs r w0 G0 ⟨s1, y0, h, rfl, rfl⟩ _
  rw [m_node_empty] at h
  refine tri_seq ?_
  refine tri_region (by exact tokW) (by exact gok) [] [] rfl ?_
  show Tri _ _ _ _
  refine tri_seq ?_
  refine tri_region (by exact tokW) (by exact gok) [] [] rfl ?_
  show Tri _ _ _ _
  refine tri_ret ?_
  have hy := Option.some.inj h
  subst hy
  unfold Gives
  exact ⟨_, Le.refl _ _, rfl, rfl⟩

/- vinculum/node.letters -/
def R_node_letters (n : Nat) (xs : List AV) (r : Ret) : Prop := ∃ (a0 : List UInt8) (y0 : Bool), m_node_letters n a0 = some y0 ∧ xs = [.s (.str a0)] ∧ r = .val (.s (.bool y0))
def S_node_letters : PSpec := pspec fun xs r => ∃ n, R_node_letters n xs r
set_option maxHeartbeats 2000000 in
set_option maxRecDepth 100000 in
theorem ok_node_letters : PSound Tryd.prog 39 S_node_letters := by
  have gok : ∀ (f : Nat) (s : PSpec), (fun _ => none : Nat → Option PSpec) f = some s → PSound Tryd.prog f s := fun _ _ h => by cases h
  refine psound tokW Tryd.call39 Tryd.func39 rfl (fun xs r h => by obtain ⟨n, _, _, _, rfl, _⟩ := h; show 1 ≤ 21; decide) 21 rfl ?_
  rintro xs r w0 G0 ⟨n, s1, y0, h, rfl, rfl⟩ _
  rw [m_node_letters] at h
  refine tri_seq ?_
  refine tri_region (by exact tokW) (by exact gok) [] [] rfl ?_
  show Tri _ _ _ _
  refine tri_seq ?_
  refine tri_seq ?_
  refine tri_region (by exact tokW) (by exact gok) [] [] rfl ?_
  show Tri _ _ _ _
  obtain ⟨fl, hl, ho1⟩ := bind_out h
  refine tri_fl (fl := fl) (fun z => match z with | _ => ⟨ofL [], fun _ => none, 0⟩) ?_ (fun z σ' hz hle => ?_)
  · refine tri_block (tri_loopI (X := Nat × Int) (fun y => match y with | (k, i2) => ⟨ofL [(0, .s (.str s1)), (3, .s (.int .i64 i2))], fun _ => none, 0⟩) (fun y => m_node_letters_l1 s1 y.1 y.2 = some fl) (fun y => y.1) (n, 0) hl ?_ ?_)
    · exact (Le.forget _ ⟨rfl, rfl, trivial⟩)
    · rintro ⟨k, i2⟩ h
      cases k with
      | zero => cases h
      | succ k =>
        replace h : m_node_letters_l1 s1 (k+1) i2 = some fl := h
        rw [m_node_letters_l1] at h
        refine tri_seq ?_
        refine tri_seq ?_
        refine tri_region (by exact tokW) (by exact gok) [] [] rfl ?_
        show Tri _ _ _ _
        refine tri_cond rfl (fun hb => ?_) (fun hb => ?_)
        · replace h := bif_t hb h
          refine tri_skip ?_
          show Tri _ _ _ _
          refine tri_seq ?_
          refine tri_block ?_
          refine tri_seq ?_
          refine tri_region (by exact tokW) (by exact gok) [] [13] rfl ?_
          obtain ⟨c3, hc3, h⟩ := bind_out h
          refine And.intro (str_ok hc3).1 ?_
          intro v4 hv4
          obtain rfl : (c3.toNat : Int) = v4 := (hv4.trans (str_ok hc3).2).symm
          show Tri _ _ _ _
          refine tri_seq ?_
          obtain ⟨x5, hj, h⟩ := bind_out h
          refine tri_post ⟨ofL [(0, .s (.str s1)), (3, .s (.int .i64 i2)), (20, .s (.bool x5))], fun _ => none, 0⟩ ?_ (fun σ' hle => ?_)
          · replace h := hj
            refine tri_region (by exact tokW) (by exact gok) [] [17] rfl ?_
            intro b hb
            cases b with
            | true =>
              replace h := bif_t hb.symm h
              cases h
              exact (Le.forget _ ⟨rfl, rfl, rfl, trivial⟩)
            | false =>
              replace h := bif_f hb.symm h
              cases h
              exact (Le.forget _ ⟨rfl, rfl, rfl, trivial⟩)
          · show Tri _ _ _ _
            refine tri_le hle ?_
            refine tri_cond rfl (fun hb => ?_) (fun hb => ?_)
            · replace h := bif_t hb h
              refine tri_seq ?_
              refine tri_region (by exact tokW) (by exact gok) [] [] rfl ?_
              show Tri _ _ _ _
              refine tri_ret ?_
              cases h
              replace h : some _ = some _ := ho1
              have hy := Option.some.inj h
              subst hy
              unfold Gives
              exact ⟨_, Le.refl _ _, rfl, rfl⟩
            · replace h := bif_f hb h
              refine tri_skip ?_
              show Tri _ _ _ _
              refine tri_region (by exact tokW) (by exact gok) [] [] rfl ?_
              refine ⟨(k, IntKind.i64.wrap (i2 + 1)), h, (Le.forget _ ⟨rfl, rfl, trivial⟩), Nat.lt_succ_self k⟩
        · replace h := bif_f hb h
          refine tri_exit ?_
          cases h
          exact ⟨_, rfl, (Le.forget _ trivial)⟩
  · subst hz
    obtain _ := z
    replace h := ho1
    show Tri _ _ _ _
    refine tri_le hle ?_
    refine tri_seq ?_
    refine tri_region (by exact tokW) (by exact gok) [] [] rfl ?_
    show Tri _ _ _ _
    refine tri_ret ?_
    have hy := Option.some.inj h
    subst hy
    unfold Gives
    exact ⟨_, Le.refl _ _, rfl, rfl⟩

/- vinculum/node.keyword -/
def R_node_keyword (xs : List AV) (r : Ret) : Prop := ∃ (a0 : List UInt8) (y0 : Bool), m_node_keyword a0 = some y0 ∧ xs = [.s (.str a0)] ∧ r = .val (.s (.bool y0))
def S_node_keyword : PSpec := pspec fun xs r => R_node_keyword xs r
set_option maxHeartbeats 2000000 in
set_option maxRecDepth 100000 in
theorem ok_node_keyword : PSound Tryd.prog 41 S_node_keyword := by
  have gok : ∀ (f : Nat) (s : PSpec), (fun _ => none : Nat → Option PSpec) f = some s → PSound Tryd.prog f s := fun _ _ h => by cases h
  refine psound tokW Tryd.call41 Tryd.func41 rfl (fun xs r h => by obtain ⟨_, _, _, rfl, _⟩ := h; show 1 ≤ 9; decide) 9 rfl ?_
  rintro xs r w0 G0 ⟨s1, y0, h, rfl, rfl⟩ _
  rw [m_node_keyword] at h
  refine tri_seq ?_
  refine tri_region (by exact tokW) (by exact gok) [] [] rfl ?_
  show Tri _ _ _ _
  refine tri_seq ?_
  refine tri_seq ?_
  refine tri_region (by exact tokW) (by exact gok) [] [] rfl ?_
  show Tri _ _ _ _
  obtain ⟨fl, hj, ho1⟩ := bind_out h
  refine tri_fl (fl := fl) (fun z => match z with | _ => ⟨ofL [], fun _ => none, 0⟩) ?_ (fun z σ' hz hle => ?_)
  · replace h := hj
    refine tri_block ?_
    refine tri_seq ?_
    refine tri_seq ?_
    refine tri_region (by exact tokW) (by exact gok) [] [] rfl ?_
    show Tri _ _ _ _
    obtain ⟨x2, hj, h⟩ := bind_out h
    refine tri_post ⟨ofL [(4, .s (.bool x2))], fun _ => none, 0⟩ ?_ (fun σ' hle => ?_)
    · replace h := hj
      refine tri_cond rfl (fun hb => ?_) (fun hb => ?_)
      · replace h := bif_t hb h
        refine tri_skip ?_
        cases h
        exact (Le.forget _ ⟨rfl, trivial⟩)
      · replace h := bif_f hb h
        refine tri_seq ?_
        refine tri_region (by exact tokW) (by exact gok) [] [] rfl ?_
        show Tri _ _ _ _
        refine tri_cond rfl (fun hb => ?_) (fun hb => ?_)
        · replace h := bif_t hb h
          refine tri_skip ?_
          cases h
          exact (Le.forget _ ⟨rfl, trivial⟩)
        · replace h := bif_f hb h
          refine tri_seq ?_
          refine tri_region (by exact tokW) (by exact gok) [] [] rfl ?_
          show Tri _ _ _ _
          refine tri_cond rfl (fun hb => ?_) (fun hb => ?_)
          · replace h := bif_t hb h
            refine tri_skip ?_
            cases h
            exact (Le.forget _ ⟨rfl, trivial⟩)
          · replace h := bif_f hb h
            refine tri_region (by exact tokW) (by exact gok) [] [] rfl ?_
            cases h
            exact (Le.forget _ ⟨rfl, trivial⟩)
    · show Tri _ _ _ _
      refine tri_le hle ?_
      refine tri_cond rfl (fun hb => ?_) (fun hb => ?_)
      · replace h := bif_t hb h
        refine tri_seq ?_
        refine tri_region (by exact tokW) (by exact gok) [] [] rfl ?_
        show Tri _ _ _ _
        refine tri_ret ?_
        cases h
        replace h : some _ = some _ := ho1
        have hy := Option.some.inj h
        subst hy
        unfold Gives
        exact ⟨_, Le.refl _ _, rfl, rfl⟩
      · replace h := bif_f hb h
        refine tri_skip ?_
        cases h
        exact ⟨_, rfl, (Le.forget _ trivial)⟩
  · subst hz
    obtain _ := z
    replace h := ho1
    show Tri _ _ _ _
    refine tri_le hle ?_
    refine tri_seq ?_
    refine tri_region (by exact tokW) (by exact gok) [] [] rfl ?_
    show Tri _ _ _ _
    refine tri_ret ?_
    have hy := Option.some.inj h
    subst hy
    unfold Gives
    exact ⟨_, Le.refl _ _, rfl, rfl⟩

/- vinculum/node.accent -/
def R_node_accent (xs : List AV) (r : Ret) : Prop := ∃ (a0 : List UInt8) (y0 : Bool), m_node_accent a0 = some y0 ∧ xs = [.s (.str a0)] ∧ r = .val (.s (.bool y0))
def S_node_accent : PSpec := pspec fun xs r => R_node_accent xs r
set_option maxHeartbeats 2000000 in
set_option maxRecDepth 100000 in
theorem ok_node_accent : PSound Tryd.prog 42 S_node_accent := by
  have gok : ∀ (f : Nat) (s : PSpec), (fun _ => none : Nat → Option PSpec) f = some s → PSound Tryd.prog f s := fun _ _ h => by cases h
  refine psound tokW Tryd.call42 Tryd.func42 rfl (fun xs r h => by obtain ⟨_, _, _, rfl, _⟩ := h; show 1 ≤ 11; decide) 11 rfl ?_
  rintro xs r w0 G0 ⟨s1, y0, h, rfl, rfl⟩ _
  rw [m_node_accent] at h
  refine tri_seq ?_
  refine tri_region (by exact tokW) (by exact gok) [] [] rfl ?_
  show Tri _ _ _ _
  refine tri_seq ?_
  refine tri_seq ?_
  refine tri_region (by exact tokW) (by exact gok) [] [] rfl ?_
  show Tri _ _ _ _
  obtain ⟨fl, hj, ho1⟩ := bind_out h
  refine tri_fl (fl := fl) (fun z => match z with | _ => ⟨ofL [], fun _ => none, 0⟩) ?_ (fun z σ' hz hle => ?_)
  · replace h := hj
    refine tri_block ?_
    refine tri_seq ?_
    refine tri_seq ?_
    refine tri_region (by exact tokW) (by exact gok) [] [] rfl ?_
    show Tri _ _ _ _
    obtain ⟨x2, hj, h⟩ := bind_out h
    refine tri_post ⟨ofL [(4, .s (.bool x2))], fun _ => none, 0⟩ ?_ (fun σ' hle => ?_)
    · replace h := hj
      refine tri_cond rfl (fun hb => ?_) (fun hb => ?_)
      · replace h := bif_t hb h
        refine tri_skip ?_
        cases h
        exact (Le.forget _ ⟨rfl, trivial⟩)
      · replace h := bif_f hb h
        refine tri_seq ?_
        refine tri_region (by exact tokW) (by exact gok) [] [] rfl ?_
        show Tri _ _ _ _
        refine tri_cond rfl (fun hb => ?_) (fun hb => ?_)
        · replace h := bif_t hb h
          refine tri_skip ?_
          cases h
          exact (Le.forget _ ⟨rfl, trivial⟩)
        · replace h := bif_f hb h
          refine tri_seq ?_
          refine tri_region (by exact tokW) (by exact gok) [] [] rfl ?_
          show Tri _ _ _ _
          refine tri_cond rfl (fun hb => ?_) (fun hb => ?_)
          · replace h := bif_t hb h
            refine tri_skip ?_
            cases h
            exact (Le.forget _ ⟨rfl, trivial⟩)
          · replace h := bif_f hb h
            refine tri_seq ?_
            refine tri_region (by exact tokW) (by exact gok) [] [] rfl ?_
            show Tri _ _ _ _
            refine tri_cond rfl (fun hb => ?_) (fun hb => ?_)
            · replace h := bif_t hb h
              refine tri_skip ?_
              cases h
              exact (Le.forget _ ⟨rfl, trivial⟩)
            · replace h := bif_f hb h
              refine tri_seq ?_
              refine tri_region (by exact tokW) (by exact gok) [] [] rfl ?_
              show Tri _ _ _ _
              refine tri_cond rfl (fun hb => ?_) (fun hb => ?_)
              · replace h := bif_t hb h
                refine tri_skip ?_
                cases h
                exact (Le.forget _ ⟨rfl, trivial⟩)
              · replace h := bif_f hb h
                refine tri_region (by exact tokW) (by exact gok) [] [] rfl ?_
                cases h
                exact (Le.forget _ ⟨rfl, trivial⟩)
    · show Tri _ _ _ _
      refine tri_le hle ?_
      refine tri_cond rfl (fun hb => ?_) (fun hb => ?_)
      · replace h := bif_t hb h
        refine tri_seq ?_
        refine tri_region (by exact tokW) (by exact gok) [] [] rfl ?_
        show Tri _ _ _ _
        refine tri_ret ?_
        cases h
        replace h : some _ = some _ := ho1
        have hy := Option.some.inj h
        subst hy
        unfold Gives
        exact ⟨_, Le.refl _ _, rfl, rfl⟩
      · replace h := bif_f hb h
        refine tri_skip ?_
        cases h
        exact ⟨_, rfl, (Le.forget _ trivial)⟩
  · subst hz
    obtain _ := z
    replace h := ho1
    show Tri _ _ _ _
    refine tri_le hle ?_
    refine tri_seq ?_
    refine tri_region (by exact tokW) (by exact gok) [] [] rfl ?_
    show Tri _ _ _ _
    refine tri_ret ?_
    have hy := Option.some.inj h
    subst hy
    unfold Gives
    exact ⟨_, Le.refl _ _, rfl, rfl⟩

/- vinculum/node.Symbol -/
def R_node_Symbol (n : Nat) (xs : List AV) (r : Ret) : Prop := ∃ (a0 : List UInt8) (y0 : Bool), m_node_Symbol n a0 = some y0 ∧ xs = [.s (.str a0)] ∧ r = .val (.s (.bool y0))
def S_node_Symbol : PSpec := pspec fun xs r => ∃ n, R_node_Symbol n xs r
set_option maxHeartbeats 2000000 in
set_option maxRecDepth 100000 in
theorem ok_node_Symbol : PSound Tryd.prog 12 S_node_Symbol := by
  have gok : ∀ f s, look? f [(39, S_node_letters), (40, S_strings_Contains), (41, S_node_keyword), (42, S_node_accent)] = some s → PSound Tryd.prog f s := look_all (by
    simp only [List.forall_mem_cons]
    exact ⟨ok_node_letters, ok_strings_Contains, ok_node_keyword, ok_node_accent, by simp⟩)
  refine psound tokW Tryd.call12 Tryd.func12 rfl (fun xs r h => by obtain ⟨n, _, _, _, rfl, _⟩ := h; show 1 ≤ 34; decide) 34 rfl ?_
  rintro xs r w0 G0 ⟨n, s1, y0, h, rfl, rfl⟩ _
  rw [m_node_Symbol] at h
  refine tri_seq ?_
  refine tri_region (by exact tokW) (by exact gok) [] [] rfl ?_
  show Tri _ _ _ _
  refine tri_seq ?_
  refine tri_seq ?_
  refine tri_region (by exact tokW) (by exact gok) [] [] rfl ?_
  show Tri _ _ _ _
  refine tri_cond rfl (fun hb => ?_) (fun hb => ?_)
  · replace h := bif_t hb h
    refine tri_seq ?_
    obtain ⟨x2, hj, h⟩ := bind_out h
    refine tri_post ⟨ofL [(2, .s (.bool x2))], fun _ => none, 0⟩ ?_ (fun σ' hle => ?_)
    · replace h := hj
      refine tri_region (by exact tokW) (by exact gok) [] [8] rfl ?_
      obtain ⟨y3, hy3, h⟩ := bind_out h
      refine ⟨_, ⟨_, _, _, hy3, rfl, rfl⟩, ?_⟩
      intro b hb
      cases b with
      | true =>
        replace h := bif_t hb.symm h
        cases h
        exact (Le.forget _ ⟨rfl, trivial⟩)
      | false =>
        replace h := bif_f hb.symm h
        obtain ⟨y4, hy4, h⟩ := bind_out h
        refine ⟨_, ⟨_, _, _, hy4, rfl, rfl⟩, ?_⟩
        cases h
        exact (Le.forget _ ⟨rfl, trivial⟩)
    · show Tri _ _ _ _
      refine tri_le hle ?_
      refine tri_ret ?_
      have hy := Option.some.inj h
      subst hy
      unfold Gives
      exact ⟨_, Le.refl _ _, rfl, rfl⟩
  · replace h := bif_f hb h
    refine tri_skip ?_
    show Tri _ _ _ _
    refine tri_seq ?_
    obtain ⟨x5, hj, h⟩ := bind_out h
    refine tri_post ⟨ofL [(2, .s (.bool x5))], fun _ => none, 0⟩ ?_ (fun σ' hle => ?_)
    · replace h := hj
      refine tri_region (by exact tokW) (by exact gok) [] [15, 20, 24, 29] rfl ?_
      intro b hb
      cases b with
      | true =>
        replace h := bif_t hb.symm h
        intro b hb
        cases b with
        | true =>
          replace h := bif_t hb.symm h
          obtain ⟨y6, hy6, h⟩ := bind_out h
          refine ⟨_, ⟨_, _, _, hy6, rfl, rfl⟩, ?_⟩
          intro b hb
          cases b with
          | true =>
            replace h := bif_t hb.symm h
            obtain ⟨y7, hy7, h⟩ := bind_out h
            refine ⟨_, ⟨_, _, hy7, rfl, rfl⟩, ?_⟩
            intro b hb
            cases b with
            | true =>
              replace h := bif_t hb.symm h
              obtain ⟨y8, hy8, h⟩ := bind_out h
              refine ⟨_, ⟨_, _, hy8, rfl, rfl⟩, ?_⟩
              cases h
              exact (Le.forget _ ⟨rfl, trivial⟩)
            | false =>
              replace h := bif_f hb.symm h
              cases h
              exact (Le.forget _ ⟨rfl, trivial⟩)
          | false =>
            replace h := bif_f hb.symm h
            intro b hb
            subst hb
            cases h
            exact (Le.forget _ ⟨rfl, trivial⟩)
        | false =>
          replace h := bif_f hb.symm h
          intro b hb
          subst hb
          intro b hb
          subst hb
          cases h
          exact (Le.forget _ ⟨rfl, trivial⟩)
      | false =>
        replace h := bif_f hb.symm h
        intro b hb
        subst hb
        intro b hb
        subst hb
        intro b hb
        subst hb
        cases h
        exact (Le.forget _ ⟨rfl, trivial⟩)
    · show Tri _ _ _ _
      refine tri_le hle ?_
      refine tri_ret ?_
      have hy := Option.some.inj h
      subst hy
      unfold Gives
      exact ⟨_, Le.refl _ _, rfl, rfl⟩

/- internal/stringslite.Cut -/
def R_stringslite_Cut (xs : List AV) (r : Ret) : Prop := ∃ (a0 : List UInt8) (a1 : List UInt8) (y0 : List UInt8) (y1 : List UInt8) (y2 : Bool), m_stringslite_Cut a0 a1 = some (y0, y1, y2) ∧ xs = [.s (.str a0), .s (.str a1)] ∧ r = .val (.tup [.s (.str y0), .s (.str y1), .s (.bool y2)])
def S_stringslite_Cut : PSpec := pspec fun xs r => R_stringslite_Cut xs r
set_option maxHeartbeats 2000000 in
set_option maxRecDepth 100000 in
theorem ok_stringslite_Cut : PSound Tryd.prog 72 S_stringslite_Cut := by
  have gok : ∀ f s, look? f [(83, S_stringslite_Index)] = some s → PSound Tryd.prog f s := look_all (by
    simp only [List.forall_mem_cons]
    exact ⟨ok_stringslite_Index, by simp⟩)
  refine psound tokW Tryd.call72 Tryd.func72 rfl (fun xs r h => by obtain ⟨_, _, _, _, _, _, rfl, _⟩ := h; show 2 ≤ 23; decide) 23 rfl ?_
  rintro xs r w0 G0 ⟨s1, sep2, y0, y1, y2, h, rfl, rfl⟩ _
  rw [m_stringslite_Cut] at h
  refine tri_seq ?_
  refine tri_region (by exact tokW) (by exact gok) [] [] rfl ?_
  show Tri _ _ _ _
  refine tri_seq ?_
  refine tri_seq ?_
  refine tri_region (by exact tokW) (by exact gok) [] [] rfl ?_
  obtain ⟨y3, hy3, h⟩ := bind_out h
  refine ⟨_, ⟨_, _, _, hy3, rfl, rfl⟩, ?_⟩
  show Tri _ _ _ _
  refine tri_seq ?_
  refine tri_region (by exact tokW) (by exact gok) [] [] rfl ?_
  show Tri _ _ _ _
  refine tri_cond rfl (fun hb => ?_) (fun hb => ?_)
  · replace h := bif_t hb h
    refine tri_seq ?_
    refine tri_drawn (by exact tokW) (by exact gok) (by exact mixed) [] [] [] rfl (by decide +kernel) ?_
    obtain ⟨hq, h⟩ := req_out h
    refine And.intro hq ?_
    obtain ⟨hq, h⟩ := req_out h
    refine And.intro hq ?_
    show Tri _ _ _ _
    refine tri_ret ?_
    obtain ⟨hj1, hk1⟩ := Prod.mk.inj (Option.some.inj h)
    subst hj1
    obtain ⟨hj2, hk2⟩ := Prod.mk.inj hk1
    subst hj2
    subst hk2
    unfold Gives
    exact ⟨_, Le.refl _ _, rfl, rfl⟩
  · replace h := bif_f hb h
    refine tri_skip ?_
    show Tri _ _ _ _
    refine tri_seq ?_
    refine tri_region (by exact tokW) (by exact gok) [] [] rfl ?_
    show Tri _ _ _ _
    refine tri_ret ?_
    obtain ⟨hj1, hk1⟩ := Prod.mk.inj (Option.some.inj h)
    subst hj1
    obtain ⟨hj2, hk2⟩ := Prod.mk.inj hk1
    subst hj2
    subst hk2
    unfold Gives
    exact ⟨_, Le.refl _ _, rfl, rfl⟩

/- strings.Cut -/
def R_strings_Cut (xs : List AV) (r : Ret) : Prop := ∃ (a0 : List UInt8) (a1 : List UInt8) (y0 : List UInt8) (y1 : List UInt8) (y2 : Bool), m_strings_Cut a0 a1 = some (y0, y1, y2) ∧ xs = [.s (.str a0), .s (.str a1)] ∧ r = .val (.tup [.s (.str y0), .s (.str y1), .s (.bool y2)])
def S_strings_Cut : PSpec := pspec fun xs r => R_strings_Cut xs r
set_option maxHeartbeats 2000000 in
set_option maxRecDepth 100000 in
theorem ok_strings_Cut : PSound Tryd.prog 48 S_strings_Cut := by
  have gok : ∀ f s, look? f [(72, S_stringslite_Cut)] = some s → PSound Tryd.prog f s := look_all (by
    simp only [List.forall_mem_cons]
    exact ⟨ok_stringslite_Cut, by simp⟩)
  refine psound tokW Tryd.call48 Tryd.func48 rfl (fun xs r h => by obtain ⟨_, _, _, _, _, _, rfl, _⟩ := h; show 2 ≤ 13; decide) 13 rfl ?_
  rintro xs r w0 G0 ⟨s1, sep2, y0, y1, y2, h, rfl, rfl⟩ _
  rw [m_strings_Cut] at h
  refine tri_seq ?_
  refine tri_region (by exact tokW) (by exact gok) [] [] rfl ?_
  show Tri _ _ _ _
  refine tri_seq ?_
  refine tri_region (by exact tokW) (by exact gok) [] [] rfl ?_
  obtain ⟨⟨y3, y4, y5⟩, hy3, h⟩ := bind_out h
  refine ⟨_, ⟨_, _, _, _, _, hy3, rfl, rfl⟩, ?_⟩
  show Tri _ _ _ _
  refine tri_ret ?_
  obtain ⟨hj1, hk1⟩ := Prod.mk.inj (Option.some.inj h)
  subst hj1
  obtain ⟨hj2, hk2⟩ := Prod.mk.inj hk1
  subst hj2
  subst hk2
  unfold Gives
  exact ⟨_, Le.refl _ _, rfl, rfl⟩

/- vinculum/node.digits -/
def R_node_digits (n : Nat) (xs : List AV) (r : Ret) : Prop := ∃ (a0 : List UInt8) (y0 : Bool), m_node_digits n a0 = some y0 ∧ xs = [.s (.str a0)] ∧ r = .val (.s (.bool y0))
def S_node_digits : PSpec := pspec fun xs r => ∃ n, R_node_digits n xs r
set_option maxHeartbeats 2000000 in
set_option maxRecDepth 100000 in
theorem ok_node_digits : PSound Tryd.prog 49 S_node_digits := by
  have gok : ∀ (f : Nat) (s : PSpec), (fun _ => none : Nat → Option PSpec) f = some s → PSound Tryd.prog f s := fun _ _ h => by cases h
  refine psound tokW Tryd.call49 Tryd.func49 rfl (fun xs r h => by obtain ⟨n, _, _, _, rfl, _⟩ := h; show 1 ≤ 22; decide) 22 rfl ?_
  rintro xs r w0 G0 ⟨n, s1, y0, h, rfl, rfl⟩ _
  rw [m_node_digits] at h
  refine tri_seq ?_
  refine tri_region (by exact tokW) (by exact gok) [] [] rfl ?_
  show Tri _ _ _ _
  refine tri_seq ?_
  refine tri_seq ?_
  refine tri_region (by exact tokW) (by exact gok) [] [] rfl ?_
  show Tri _ _ _ _
  obtain ⟨fl, hl, ho1⟩ := bind_out h
  refine tri_fl (fl := fl) (fun z => match z with | _ => ⟨ofL [(0, .s (.str s1))], fun _ => none, 0⟩) ?_ (fun z σ' hz hle => ?_)
  · refine tri_block (tri_loopI (X := Nat × Int) (fun y => match y with | (k, i2) => ⟨ofL [(0, .s (.str s1)), (3, .s (.int .i64 i2))], fun _ => none, 0⟩) (fun y => m_node_digits_l1 s1 y.1 y.2 = some fl) (fun y => y.1) (n, 0) hl ?_ ?_)
    · exact (Le.forget _ ⟨rfl, rfl, trivial⟩)
    · rintro ⟨k, i2⟩ h
      cases k with
      | zero => cases h
      | succ k =>
        replace h : m_node_digits_l1 s1 (k+1) i2 = some fl := h
        rw [m_node_digits_l1] at h
        refine tri_seq ?_
        refine tri_seq ?_
        refine tri_region (by exact tokW) (by exact gok) [] [] rfl ?_
        show Tri _ _ _ _
        refine tri_cond rfl (fun hb => ?_) (fun hb => ?_)
        · replace h := bif_t hb h
          refine tri_skip ?_
          show Tri _ _ _ _
          refine tri_seq ?_
          refine tri_block ?_
          refine tri_seq ?_
          obtain ⟨x3, hj, h⟩ := bind_out h
          refine tri_post ⟨ofL [(0, .s (.str s1)), (3, .s (.int .i64 i2)), (19, .s (.bool x3))], fun _ => none, 0⟩ ?_ (fun σ' hle => ?_)
          · replace h := hj
            refine tri_region (by exact tokW) (by exact gok) [] [12, 14, 17] rfl ?_
            obtain ⟨c4, hc4, h⟩ := bind_out h
            refine And.intro (str_ok hc4).1 ?_
            intro v5 hv5
            obtain rfl : (c4.toNat : Int) = v5 := (hv5.trans (str_ok hc4).2).symm
            intro b hb
            cases b with
            | true =>
              replace h := bif_t hb.symm h
              cases h
              exact (Le.forget _ ⟨rfl, rfl, rfl, trivial⟩)
            | false =>
              replace h := bif_f hb.symm h
              obtain ⟨c6, hc6, h⟩ := bind_out h
              refine And.intro (str_ok hc6).1 ?_
              intro v7 hv7
              obtain rfl : (c6.toNat : Int) = v7 := (hv7.trans (str_ok hc6).2).symm
              cases h
              exact (Le.forget _ ⟨rfl, rfl, rfl, trivial⟩)
          · show Tri _ _ _ _
            refine tri_le hle ?_
            refine tri_cond rfl (fun hb => ?_) (fun hb => ?_)
            · replace h := bif_t hb h
              refine tri_seq ?_
              refine tri_region (by exact tokW) (by exact gok) [] [] rfl ?_
              show Tri _ _ _ _
              refine tri_ret ?_
              cases h
              replace h : some _ = some _ := ho1
              have hy := Option.some.inj h
              subst hy
              unfold Gives
              exact ⟨_, Le.refl _ _, rfl, rfl⟩
            · replace h := bif_f hb h
              refine tri_skip ?_
              show Tri _ _ _ _
              refine tri_region (by exact tokW) (by exact gok) [] [] rfl ?_
              refine ⟨(k, IntKind.i64.wrap (i2 + 1)), h, (Le.forget _ ⟨rfl, rfl, trivial⟩), Nat.lt_succ_self k⟩
        · replace h := bif_f hb h
          refine tri_exit ?_
          cases h
          exact ⟨_, rfl, (Le.forget _ ⟨rfl, trivial⟩)⟩
  · subst hz
    obtain _ := z
    replace h := ho1
    show Tri _ _ _ _
    refine tri_le hle ?_
    refine tri_seq ?_
    refine tri_region (by exact tokW) (by exact gok) [] [] rfl ?_
    show Tri _ _ _ _
    refine tri_ret ?_
    have hy := Option.some.inj h
    subst hy
    unfold Gives
    exact ⟨_, Le.refl _ _, rfl, rfl⟩

/- vinculum/node.Number -/
def R_node_Number (n : Nat) (xs : List AV) (r : Ret) : Prop := ∃ (a0 : List UInt8) (y0 : Bool), m_node_Number n a0 = some y0 ∧ xs = [.s (.str a0)] ∧ r = .val (.s (.bool y0))
def S_node_Number : PSpec := pspec fun xs r => ∃ n, R_node_Number n xs r
set_option maxHeartbeats 2000000 in
set_option maxRecDepth 100000 in
theorem ok_node_Number : PSound Tryd.prog 14 S_node_Number := by
  have gok : ∀ f s, look? f [(48, S_strings_Cut), (49, S_node_digits)] = some s → PSound Tryd.prog f s := look_all (by
    simp only [List.forall_mem_cons]
    exact ⟨ok_strings_Cut, ok_node_digits, by simp⟩)
  refine psound tokW Tryd.call14 Tryd.func14 rfl (fun xs r h => by obtain ⟨n, _, _, _, rfl, _⟩ := h; show 1 ≤ 27; decide) 27 rfl ?_
  rintro xs r w0 G0 ⟨n, s1, y0, h, rfl, rfl⟩ _
  rw [m_node_Number] at h
  refine tri_seq ?_
  refine tri_region (by exact tokW) (by exact gok) [] [] rfl ?_
  show Tri _ _ _ _
  refine tri_seq ?_
  refine tri_region (by exact tokW) (by exact gok) [] [] rfl ?_
  obtain ⟨⟨y2, y3, y4⟩, hy2, h⟩ := bind_out h
  refine ⟨_, ⟨_, _, _, _, _, hy2, rfl, rfl⟩, ?_⟩
  show Tri _ _ _ _
  refine tri_seq ?_
  obtain ⟨x5, hj, h⟩ := bind_out h
  refine tri_post ⟨ofL [(2, .s (.bool x5))], fun _ => none, 0⟩ ?_ (fun σ' hle => ?_)
  · replace h := hj
    refine tri_region (by exact tokW) (by exact gok) [] [15, 19, 22] rfl ?_
    intro b hb
    cases b with
    | true =>
      replace h := bif_t hb.symm h
      obtain ⟨y6, hy6, h⟩ := bind_out h
      refine ⟨_, ⟨_, _, _, hy6, rfl, rfl⟩, ?_⟩
      intro b hb
      cases b with
      | true =>
        replace h := bif_t hb.symm h
        intro b hb
        cases b with
        | true =>
          replace h := bif_t hb.symm h
          cases h
          exact (Le.forget _ ⟨rfl, trivial⟩)
        | false =>
          replace h := bif_f hb.symm h
          obtain ⟨y7, hy7, h⟩ := bind_out h
          refine ⟨_, ⟨_, _, _, hy7, rfl, rfl⟩, ?_⟩
          cases h
          exact (Le.forget _ ⟨rfl, trivial⟩)
      | false =>
        replace h := bif_f hb.symm h
        cases h
        exact (Le.forget _ ⟨rfl, trivial⟩)
    | false =>
      replace h := bif_f hb.symm h
      intro b hb
      subst hb
      cases h
      exact (Le.forget _ ⟨rfl, trivial⟩)
  · show Tri _ _ _ _
    refine tri_le hle ?_
    refine tri_ret ?_
    have hy := Option.some.inj h
    subst hy
    unfold Gives
    exact ⟨_, Le.refl _ _, rfl, rfl⟩

/- vinculum/node.plain -/
def R_node_plain (n : Nat) (xs : List AV) (r : Ret) : Prop := ∃ (a0 : List UInt8) (y0 : Bool), m_node_plain n a0 = some y0 ∧ xs = [.s (.str a0)] ∧ r = .val (.s (.bool y0))
def S_node_plain : PSpec := pspec fun xs r => ∃ n, R_node_plain n xs r
set_option maxHeartbeats 2000000 in
set_option maxRecDepth 100000 in
theorem ok_node_plain : PSound Tryd.prog 74 S_node_plain := by
  have gok : ∀ (f : Nat) (s : PSpec), (fun _ => none : Nat → Option PSpec) f = some s → PSound Tryd.prog f s := fun _ _ h => by cases h
  refine psound tokW Tryd.call74 Tryd.func74 rfl (fun xs r h => by obtain ⟨n, _, _, _, rfl, _⟩ := h; show 1 ≤ 23; decide) 23 rfl ?_
  rintro xs r w0 G0 ⟨n, s1, y0, h, rfl, rfl⟩ _
  rw [m_node_plain] at h
  refine tri_seq ?_
  refine tri_region (by exact tokW) (by exact gok) [] [] rfl ?_
  show Tri _ _ _ _
  refine tri_seq ?_
  refine tri_seq ?_
  refine tri_region (by exact tokW) (by exact gok) [] [] rfl ?_
  show Tri _ _ _ _
  obtain ⟨fl, hl, ho1⟩ := bind_out h
  refine tri_fl (fl := fl) (fun z => match z with | _ => ⟨ofL [(0, .s (.str s1))], fun _ => none, 0⟩) ?_ (fun z σ' hz hle => ?_)
  · refine tri_block (tri_loopI (X := Nat × Int) (fun y => match y with | (k, i2) => ⟨ofL [(0, .s (.str s1)), (3, .s (.int .i64 i2))], fun _ => none, 0⟩) (fun y => m_node_plain_l1 s1 y.1 y.2 = some fl) (fun y => y.1) (n, 0) hl ?_ ?_)
    · exact (Le.forget _ ⟨rfl, rfl, trivial⟩)
    · rintro ⟨k, i2⟩ h
      cases k with
      | zero => cases h
      | succ k =>
        replace h : m_node_plain_l1 s1 (k+1) i2 = some fl := h
        rw [m_node_plain_l1] at h
        refine tri_seq ?_
        refine tri_seq ?_
        refine tri_region (by exact tokW) (by exact gok) [] [] rfl ?_
        show Tri _ _ _ _
        refine tri_cond rfl (fun hb => ?_) (fun hb => ?_)
        · replace h := bif_t hb h
          refine tri_skip ?_
          show Tri _ _ _ _
          refine tri_seq ?_
          refine tri_block ?_
          refine tri_seq ?_
          obtain ⟨x3, hj, h⟩ := bind_out h
          refine tri_post ⟨ofL [(0, .s (.str s1)), (3, .s (.int .i64 i2)), (19, .s (.bool x3))], fun _ => none, 0⟩ ?_ (fun σ' hle => ?_)
          · replace h := hj
            refine tri_region (by exact tokW) (by exact gok) [] [12, 14, 17] rfl ?_
            obtain ⟨c4, hc4, h⟩ := bind_out h
            refine And.intro (str_ok hc4).1 ?_
            intro v5 hv5
            obtain rfl : (c4.toNat : Int) = v5 := (hv5.trans (str_ok hc4).2).symm
            intro b hb
            cases b with
            | true =>
              replace h := bif_t hb.symm h
              cases h
              exact (Le.forget _ ⟨rfl, rfl, rfl, trivial⟩)
            | false =>
              replace h := bif_f hb.symm h
              obtain ⟨c6, hc6, h⟩ := bind_out h
              refine And.intro (str_ok hc6).1 ?_
              intro v7 hv7
              obtain rfl : (c6.toNat : Int) = v7 := (hv7.trans (str_ok hc6).2).symm
              cases h
              exact (Le.forget _ ⟨rfl, rfl, rfl, trivial⟩)
          · show Tri _ _ _ _
            refine tri_le hle ?_
            refine tri_cond rfl (fun hb => ?_) (fun hb => ?_)
            · replace h := bif_t hb h
              refine tri_seq ?_
              refine tri_region (by exact tokW) (by exact gok) [] [] rfl ?_
              show Tri _ _ _ _
              refine tri_ret ?_
              cases h
              replace h : some _ = some _ := ho1
              have hy := Option.some.inj h
              subst hy
              unfold Gives
              exact ⟨_, Le.refl _ _, rfl, rfl⟩
            · replace h := bif_f hb h
              refine tri_skip ?_
              show Tri _ _ _ _
              refine tri_region (by exact tokW) (by exact gok) [] [] rfl ?_
              refine ⟨(k, IntKind.i64.wrap (i2 + 1)), h, (Le.forget _ ⟨rfl, rfl, trivial⟩), Nat.lt_succ_self k⟩
        · replace h := bif_f hb h
          refine tri_exit ?_
          cases h
          exact ⟨_, rfl, (Le.forget _ ⟨rfl, trivial⟩)⟩
  · subst hz
    obtain _ := z
    replace h := ho1
    show Tri _ _ _ _
    refine tri_le hle ?_
    refine tri_seq ?_
    refine tri_region (by exact tokW) (by exact gok) [] [] rfl ?_
    show Tri _ _ _ _
    refine tri_ret ?_
    have hy := Option.some.inj h
    subst hy
    unfold Gives
    exact ⟨_, Le.refl _ _, rfl, rfl⟩

/- vinculum/node.fence -/
def R_node_fence (xs : List AV) (r : Ret) : Prop := ∃ (a0 : List UInt8) (y0 : Bool), m_node_fence a0 = some y0 ∧ xs = [.s (.str a0)] ∧ r = .val (.s (.bool y0))
def S_node_fence : PSpec := pspec fun xs r => R_node_fence xs r
set_option maxHeartbeats 2000000 in
set_option maxRecDepth 100000 in
theorem ok_node_fence : PSound Tryd.prog 75 S_node_fence := by
  have gok : ∀ f s, look? f [(84, S_strings_IndexByte)] = some s → PSound Tryd.prog f s := look_all (by
    simp only [List.forall_mem_cons]
    exact ⟨ok_strings_IndexByte, by simp⟩)
  refine psound tokW Tryd.call75 Tryd.func75 rfl (fun xs r h => by obtain ⟨_, _, _, rfl, _⟩ := h; show 1 ≤ 18; decide) 18 rfl ?_
  rintro xs r w0 G0 ⟨s1, y0, h, rfl, rfl⟩ _
  rw [m_node_fence] at h
  refine tri_seq ?_
  refine tri_region (by exact tokW) (by exact gok) [] [] rfl ?_
  show Tri _ _ _ _
  refine tri_seq ?_
  obtain ⟨x2, hj, h⟩ := bind_out h
  refine tri_post ⟨ofL [(2, .s (.bool x2))], fun _ => none, 0⟩ ?_ (fun σ' hle => ?_)
  · replace h := hj
    refine tri_region (by exact tokW) (by exact gok) [] [6, 8, 12, 14] rfl ?_
    intro b hb
    cases b with
    | true =>
      replace h := bif_t hb.symm h
      obtain ⟨c3, hc3, h⟩ := bind_out h
      refine And.intro (str_ok hc3).1 ?_
      intro v4 hv4
      obtain rfl : (c3.toNat : Int) = v4 := (hv4.trans (str_ok hc3).2).symm
      obtain ⟨y5, hy5, h⟩ := bind_out h
      refine ⟨_, ⟨_, _, _, hy5, rfl, rfl⟩, ?_⟩
      intro b hb
      cases b with
      | true =>
        replace h := bif_t hb.symm h
        obtain ⟨c6, hc6, h⟩ := bind_out h
        refine And.intro (str_ok hc6).1 ?_
        intro v7 hv7
        obtain rfl : (c6.toNat : Int) = v7 := (hv7.trans (str_ok hc6).2).symm
        obtain ⟨y8, hy8, h⟩ := bind_out h
        refine ⟨_, ⟨_, _, _, hy8, rfl, rfl⟩, ?_⟩
        cases h
        exact (Le.forget _ ⟨rfl, trivial⟩)
      | false =>
        replace h := bif_f hb.symm h
        cases h
        exact (Le.forget _ ⟨rfl, trivial⟩)
    | false =>
      replace h := bif_f hb.symm h
      intro b hb
      subst hb
      cases h
      exact (Le.forget _ ⟨rfl, trivial⟩)
  · show Tri _ _ _ _
    refine tri_le hle ?_
    refine tri_ret ?_
    have hy := Option.some.inj h
    subst hy
    unfold Gives
    exact ⟨_, Le.refl _ _, rfl, rfl⟩

/- vinculum/node.kinds -/
def enc_13_node_kind (p : Unit) : List S := [.str [], .int .i64 0, .nf, .str [114, 111, 119], .int .i64 0, .fn 73, .str [115, 121, 109], .int .i64 0, .fn 12, .str [110, 117, 109], .int .i64 0, .fn 14, .str [116, 101, 120, 116], .int .i64 0, .fn 74, .str [102, 114, 97, 99], .int .i64 2, .fn 73, .str [114, 111, 111, 116], .int .i64 2, .fn 73, .str [115, 117, 98], .int .i64 2, .fn 73, .str [115, 117, 112], .int .i64 2, .fn 73, .str [98, 111, 116, 104], .int .i64 3, .fn 73, .str [97, 99, 99, 101, 110, 116], .int .i64 1, .fn 42, .str [102, 101, 110, 99, 101], .int .i64 1, .fn 75, .str [109, 97, 116, 114, 105, 120], .int .i64 0, .fn 73]
def R_node_kinds (xs : List AV) (r : Ret) : Prop := ∃ (y0 : Unit), m_node_kinds = some y0 ∧ xs = [] ∧ r = .val (.agg ((enc_13_node_kind y0).map .s))
def S_node_kinds : PSpec := pspec fun xs r => R_node_kinds xs r
set_option maxHeartbeats 2000000 in
set_option maxRecDepth 100000 in
theorem ok_node_kinds : PSound Tryd.prog 51 S_node_kinds := by
  have gok : ∀ (f : Nat) (s : PSpec), (fun _ => none : Nat → Option PSpec) f = some s → PSound Tryd.prog f s := fun _ _ h => by cases h
  refine psound tokW Tryd.call51 Tryd.func51 rfl (fun xs r h => by obtain ⟨_, _, rfl, _⟩ := h; show 0 ≤ 14; decide) 14 rfl ?_
  rintro xs r w0 G0 ⟨y0, h, rfl, rfl⟩ _
  rw [m_node_kinds] at h
  refine tri_seq ?_
  refine tri_region (by exact tokW) (by exact gok) [0] [] rfl ?_
  show Tri _ _ _ _
  refine tri_seq ?_
  refine tri_region (by exact tokW) (by exact gok) [] [] rfl ?_
  show Tri _ _ _ _
  refine tri_ret ?_
  have hy := Option.some.inj h
  subst hy
  unfold Gives
  exact ⟨_, Le.refl _ _, rfl, rfl⟩

/- (*strings.Builder).WriteString -/
def R_strings_Builder_WriteString (xs : List AV) (os : List Ob) (x : AV) (os' : List (Option Ob)) : Prop := ∃ (a0 : List UInt8) (a1 : List UInt8) (y0 : Int) (y1 : Unit) (z1 : List UInt8), m_strings_Builder_WriteString a0 a1 = some (y0, y1, z1) ∧ xs = [.op 0 39, .s (.str a0)] ∧ os = [.box 61 (bcells (.op 0 39) (.orow 1)), .row 5 1 (List.map brow a1)] ∧ x = .tup [.s (.int .i64 y0), .junk] ∧ os' = [some (.box 61 (bcells (.op 0 39) (.orow 2))), none, some (.row 5 1 (List.map brow z1))]
def S_strings_Builder_WriteString : PSpec := ospec (fun xs os x os' => R_strings_Builder_WriteString xs os x os')
set_option maxHeartbeats 2000000 in
set_option maxRecDepth 100000 in
theorem ok_strings_Builder_WriteString : PSound Tryd.prog 76 S_strings_Builder_WriteString := by
  have gok : ∀ f s, look? f [(78, S_strings_Builder_copyCheck)] = some s → PSound Tryd.prog f s := look_all (by
    simp only [List.forall_mem_cons]
    exact ⟨ok_strings_Builder_copyCheck, by simp⟩)
  refine PSound.withNil (osound tokW Tryd.call76 Tryd.func76 rfl (fun xs os x os' h => by obtain ⟨_, _, _, _, _, _, rfl, rfl, _, rfl⟩ := h; exact ⟨by show 2 ≤ 19; decide, by show 2 ≤ 3; decide⟩) 19 rfl ?_) _
  rintro xs os x os' w0 G0 B0 ⟨s1, b2, y0, y1, z1, h, rfl, rfl, rfl, rfl⟩ _
  rw [m_strings_Builder_WriteString] at h
  refine tri_seq ?_
  refine tri_region (by exact tokW) (by exact gok) [] [] rfl ?_
  show Tri _ _ _ _
  refine tri_seq ?_
  refine tri_region (by exact tokW) (by exact gok) [] [] rfl ?_
  obtain ⟨b3, hb3, h⟩ := bind_out h
  refine ⟨_, _, ⟨_, _, hb3, rfl, rfl, rfl, rfl⟩, ?_⟩
  show Tri _ _ _ _
  refine tri_seq ?_
  refine tri_region (by exact tokW) (by exact gok) [14] [] rfl ?_
  obtain ⟨hq, h⟩ := req_out h
  refine And.intro (show (((List.map brow) b3).length + (List.map brow s1).length) * 1 ≤ 140737488355328 ∧ ((List.map brow) b3).length + (List.map brow s1).length ≤ 9223372036854775807 from by simp only [List.length_append, List.length_cons, List.length_nil, List.length_map, rlen (fun _ => rfl)] at hq ⊢; omega) ?_
  show Tri _ _ _ _
  refine tri_le (Le.rename [(0, 0), (3, 2)] [(1, .s (.str s1))] [(0, .box 61 (bcells (.op 0 39) (.orow 2))), (2, .row 5 1 ((List.map brow) (b3 ++ s1)))] 3 ⟨rfl, trivial⟩ ⟨rfl, ⟨_, rfl, rfl⟩, rfl, ⟨_, rfl, congrArg (Ob.row 5 1) (by simp [List.map_append, List.map_take, List.map_drop, irow, brow, b8of_row, List.map_cons, List.map_nil, b8of_wrap, Nd.encs_eq, Nd.enc, enc_13_node_kind])⟩, trivial⟩ rfl rfl rfl rfl rfl) ?_
  refine tri_seq ?_
  refine tri_region (by exact tokW) (by exact gok) [] [] rfl ?_
  show Tri _ _ _ _
  refine tri_ret ?_
  obtain ⟨hj1, hk1⟩ := Prod.mk.inj (Option.some.inj h)
  subst hj1
  obtain ⟨hj2, hk2⟩ := Prod.mk.inj hk1
  subst hj2
  subst hk2
  unfold GivesO
  exact ⟨_, (Le.rename [(0, 0), (2, 2)] [(4, .s (.int .i64 (s1.length : Int)))] [(0, .box 61 (bcells (.op 0 39) (.orow 2))), (2, .row 5 1 ((List.map brow) (b3 ++ s1)))] 3 ⟨rfl, trivial⟩ ⟨rfl, ⟨_, rfl, rfl⟩, rfl, ⟨_, rfl, rfl⟩, trivial⟩ rfl rfl rfl rfl rfl), rfl, rfl, rfl, rfl, rfl, rfl, trivial⟩

/- (*strings.Builder).WriteByte -/
def R_strings_Builder_WriteByte (xs : List AV) (os : List Ob) (x : AV) (os' : List (Option Ob)) : Prop := ∃ (a0 : UInt8) (a1 : List UInt8) (y0 : Unit) (z1 : List UInt8), m_strings_Builder_WriteByte a0 a1 = some (y0, z1) ∧ xs = [.op 0 39, .s (.int .u8 (a0.toNat : Int))] ∧ os = [.box 61 (bcells (.op 0 39) (.orow 1)), .row 5 1 (List.map brow a1)] ∧ x = .junk ∧ os' = [some (.box 61 (bcells (.op 0 39) (.orow 2))), none, some (.row 5 1 (List.map brow z1))]
def S_strings_Builder_WriteByte : PSpec := ospec (fun xs os x os' => R_strings_Builder_WriteByte xs os x os')
set_option maxHeartbeats 2000000 in
set_option maxRecDepth 100000 in
theorem ok_strings_Builder_WriteByte : PSound Tryd.prog 53 S_strings_Builder_WriteByte := by
  have gok : ∀ f s, look? f [(78, S_strings_Builder_copyCheck)] = some s → PSound Tryd.prog f s := look_all (by
    simp only [List.forall_mem_cons]
    exact ⟨ok_strings_Builder_copyCheck, by simp⟩)
  refine PSound.withNil (osound tokW Tryd.call53 Tryd.func53 rfl (fun xs os x os' h => by obtain ⟨_, _, _, _, _, rfl, rfl, _, rfl⟩ := h; exact ⟨by show 2 ≤ 17; decide, by show 2 ≤ 3; decide⟩) 17 rfl ?_) _
  rintro xs os x os' w0 G0 B0 ⟨c1, b2, y0, z1, h, rfl, rfl, rfl, rfl⟩ _
  rw [m_strings_Builder_WriteByte] at h
  refine tri_seq ?_
  refine tri_region (by exact tokW) (by exact gok) [] [] rfl ?_
  show Tri _ _ _ _
  refine tri_seq ?_
  refine tri_region (by exact tokW) (by exact gok) [] [] rfl ?_
  obtain ⟨b3, hb3, h⟩ := bind_out h
  refine ⟨_, _, ⟨_, _, hb3, rfl, rfl, rfl, rfl⟩, ?_⟩
  show Tri _ _ _ _
  refine tri_seq ?_
  refine tri_region (by exact tokW) (by exact gok) [14] [13] rfl ?_
  intro r4 hr4
  obtain rfl : (List.map brow) [c1] = r4 := (hr4.trans (by simp [List.map_append, List.map_take, List.map_drop, irow, brow, b8of_row, List.map_cons, List.map_nil, b8of_wrap, Nd.encs_eq, Nd.enc, enc_13_node_kind])).symm
  obtain ⟨hq, h⟩ := req_out h
  refine And.intro (show (((List.map brow) b3).length + ((List.map brow) [c1]).length) * 1 ≤ 140737488355328 ∧ ((List.map brow) b3).length + ((List.map brow) [c1]).length ≤ 9223372036854775807 from by simp only [List.length_append, List.length_cons, List.length_nil, List.length_map, rlen (fun _ => rfl)] at hq ⊢; omega) ?_
  show Tri _ _ _ _
  refine tri_le (Le.rename [(0, 0), (3, 2)] [] [(0, .box 61 (bcells (.op 0 39) (.orow 2))), (2, .row 5 1 ((List.map brow) (b3 ++ [c1])))] 3 trivial ⟨rfl, ⟨_, rfl, rfl⟩, rfl, ⟨_, rfl, congrArg (Ob.row 5 1) (by simp [List.map_append, List.map_take, List.map_drop, irow, brow, b8of_row, List.map_cons, List.map_nil, b8of_wrap, Nd.encs_eq, Nd.enc, enc_13_node_kind])⟩, trivial⟩ rfl rfl rfl rfl rfl) ?_
  refine tri_seq ?_
  refine tri_region (by exact tokW) (by exact gok) [] [] rfl ?_
  show Tri _ _ _ _
  refine tri_ret ?_
  obtain ⟨hj1, hk1⟩ := Prod.mk.inj (Option.some.inj h)
  subst hj1
  subst hk1
  unfold GivesO
  exact ⟨_, (Le.rename [(0, 0), (2, 2)] [] [(0, .box 61 (bcells (.op 0 39) (.orow 2))), (2, .row 5 1 ((List.map brow) (b3 ++ [c1])))] 3 trivial ⟨rfl, ⟨_, rfl, rfl⟩, rfl, ⟨_, rfl, rfl⟩, trivial⟩ rfl rfl rfl rfl rfl), rfl, rfl, rfl, rfl, rfl, rfl, trivial⟩

/- (*vinculum/node.dumper).head -/
def R_node_dumper_head (n : Nat) (xs : List AV) (os : List Ob) (x : AV) (os' : List (Option Ob)) : Prop := ∃ (a0 : Nd) (a1 : List UInt8) (z1 : List UInt8), m_node_dumper_head n a0 a1 = some z1 ∧ xs = [.op 0 0, .s (.pt (Nd.enc a0))] ∧ os = [.box 61 (bcells (.op 0 39) (.orow 1)), .row 5 1 (List.map brow a1)] ∧ x = .tup [] ∧ os' = [some (.box 61 (bcells (.op 0 39) (.orow 2))), none, some (.row 5 1 (List.map brow z1))]
def S_node_dumper_head : PSpec := ospec (fun xs os x os' => ∃ n, R_node_dumper_head n xs os x os')
set_option maxHeartbeats 2000000 in
set_option maxRecDepth 100000 in
theorem ok_node_dumper_head : PSound Tryd.prog 52 S_node_dumper_head := by
  have gok : ∀ f s, look? f [(76, S_strings_Builder_WriteString), (77, S_strconv_Itoa), (53, S_strings_Builder_WriteByte)] = some s → PSound Tryd.prog f s := look_all (by
    simp only [List.forall_mem_cons]
    exact ⟨ok_strings_Builder_WriteString, ok_strconv_Itoa, ok_strings_Builder_WriteByte, by simp⟩)
  refine PSound.withNil (osound tokW Tryd.call52 Tryd.func52 rfl (fun xs os x os' h => by obtain ⟨n, _, _, _, _, rfl, rfl, _, rfl⟩ := h; exact ⟨by show 2 ≤ 108; decide, by show 2 ≤ 3; decide⟩) 108 rfl ?_) _
  rintro xs os x os' w0 G0 B0 ⟨n, ⟨a1_kind, a1_text, a1_cols, a1_kids⟩, b2, z1, h, rfl, rfl, rfl, rfl⟩ _
  rw [m_node_dumper_head] at h
  refine tri_seq ?_
  refine tri_seq ?_
  obtain ⟨x3, hj, h⟩ := bind_out h
  refine tri_post ⟨ofL [(0, .op 0 0), (1, .s (.pt [.int .i64 a1_kind, .str a1_text, .int .i64 a1_cols, .sl 4 (Nd.encs a1_kids)])), (16, .s (.bool x3))], ofH [(0, .box 61 (bcells (.op 0 39) (.orow 1))), (1, .row 5 1 ((List.map brow) b2))], 2⟩ ?_ (fun σ' hle => ?_)
  · replace h := hj
    refine tri_region (by exact tokW) (by exact gok) [] [10] rfl ?_
    intro b hb
    cases b with
    | true =>
      replace h := bif_t hb.symm h
      cases h
      exact (Le.rename [(0, 0), (1, 1)] _ _ _ ⟨rfl, rfl, rfl, trivial⟩ ⟨rfl, ⟨_, rfl, rfl⟩, rfl, ⟨_, rfl, rfl⟩, trivial⟩ rfl rfl rfl rfl rfl)
    | false =>
      replace h := bif_f hb.symm h
      cases h
      exact (Le.rename [(0, 0), (1, 1)] _ _ _ ⟨rfl, rfl, rfl, trivial⟩ ⟨rfl, ⟨_, rfl, rfl⟩, rfl, ⟨_, rfl, rfl⟩, trivial⟩ rfl rfl rfl rfl rfl)
  · show Tri _ _ _ _
    refine tri_le hle ?_
    obtain ⟨l4, hj, h⟩ := bind_out h
    refine tri_post ⟨ofL [(0, .op 0 0), (1, .s (.pt [.int .i64 a1_kind, .str a1_text, .int .i64 a1_cols, .sl 4 (Nd.encs a1_kids)]))], ofH [(0, .box 61 (bcells (.op 0 39) (.orow 2))), (2, .row 5 1 ((List.map brow) l4))], 3⟩ ?_ (fun σ' hle => ?_)
    · replace h := hj
      refine tri_cond rfl (fun hb => ?_) (fun hb => ?_)
      · replace h := bif_t hb h
        refine tri_drawn (by exact tokW) (by exact gok) (by exact mixed) [] [24] [12, 13] rfl (by decide +kernel) ?_
        intro vsp hvsp
        cases hc : (a1_kind == 1) with
        | true =>
          replace h := bif_t hc h
          obtain rfl : (1 : Int) = vsp := (hvsp.trans (eq_of_beq hc)).symm
          refine And.intro (by decide) ?_
          obtain ⟨⟨y5, _, b7⟩, hy5, h⟩ := bind_out h
          refine ⟨_, _, ⟨_, _, _, _, _, hy5, rfl, rfl, rfl, rfl⟩, ?_⟩
          cases h
          exact (Le.rename [(0, 0), (2, 2)] _ _ _ ⟨rfl, rfl, trivial⟩ ⟨rfl, ⟨_, rfl, rfl⟩, rfl, ⟨_, rfl, rfl⟩, trivial⟩ rfl rfl rfl rfl rfl)
        | false =>
          replace h := bif_f hc h
          cases hc : (a1_kind == 2) with
          | true =>
            replace h := bif_t hc h
            obtain rfl : (2 : Int) = vsp := (hvsp.trans (eq_of_beq hc)).symm
            refine And.intro (by decide) ?_
            obtain ⟨⟨y8, _, b10⟩, hy8, h⟩ := bind_out h
            refine ⟨_, _, ⟨_, _, _, _, _, hy8, rfl, rfl, rfl, rfl⟩, ?_⟩
            cases h
            exact (Le.rename [(0, 0), (2, 2)] _ _ _ ⟨rfl, rfl, trivial⟩ ⟨rfl, ⟨_, rfl, rfl⟩, rfl, ⟨_, rfl, rfl⟩, trivial⟩ rfl rfl rfl rfl rfl)
          | false =>
            replace h := bif_f hc h
            cases hc : (a1_kind == 3) with
            | true =>
              replace h := bif_t hc h
              obtain rfl : (3 : Int) = vsp := (hvsp.trans (eq_of_beq hc)).symm
              refine And.intro (by decide) ?_
              obtain ⟨⟨y11, _, b13⟩, hy11, h⟩ := bind_out h
              refine ⟨_, _, ⟨_, _, _, _, _, hy11, rfl, rfl, rfl, rfl⟩, ?_⟩
              cases h
              exact (Le.rename [(0, 0), (2, 2)] _ _ _ ⟨rfl, rfl, trivial⟩ ⟨rfl, ⟨_, rfl, rfl⟩, rfl, ⟨_, rfl, rfl⟩, trivial⟩ rfl rfl rfl rfl rfl)
            | false =>
              replace h := bif_f hc h
              cases hc : (a1_kind == 4) with
              | true =>
                replace h := bif_t hc h
                obtain rfl : (4 : Int) = vsp := (hvsp.trans (eq_of_beq hc)).symm
                refine And.intro (by decide) ?_
                obtain ⟨⟨y14, _, b16⟩, hy14, h⟩ := bind_out h
                refine ⟨_, _, ⟨_, _, _, _, _, hy14, rfl, rfl, rfl, rfl⟩, ?_⟩
                cases h
                exact (Le.rename [(0, 0), (2, 2)] _ _ _ ⟨rfl, rfl, trivial⟩ ⟨rfl, ⟨_, rfl, rfl⟩, rfl, ⟨_, rfl, rfl⟩, trivial⟩ rfl rfl rfl rfl rfl)
              | false =>
                replace h := bif_f hc h
                cases hc : (a1_kind == 5) with
                | true =>
                  replace h := bif_t hc h
                  obtain rfl : (5 : Int) = vsp := (hvsp.trans (eq_of_beq hc)).symm
                  refine And.intro (by decide) ?_
                  obtain ⟨⟨y17, _, b19⟩, hy17, h⟩ := bind_out h
                  refine ⟨_, _, ⟨_, _, _, _, _, hy17, rfl, rfl, rfl, rfl⟩, ?_⟩
                  cases h
                  exact (Le.rename [(0, 0), (2, 2)] _ _ _ ⟨rfl, rfl, trivial⟩ ⟨rfl, ⟨_, rfl, rfl⟩, rfl, ⟨_, rfl, rfl⟩, trivial⟩ rfl rfl rfl rfl rfl)
                | false =>
                  replace h := bif_f hc h
                  cases hc : (a1_kind == 6) with
                  | true =>
                    replace h := bif_t hc h
                    obtain rfl : (6 : Int) = vsp := (hvsp.trans (eq_of_beq hc)).symm
                    refine And.intro (by decide) ?_
                    obtain ⟨⟨y20, _, b22⟩, hy20, h⟩ := bind_out h
                    refine ⟨_, _, ⟨_, _, _, _, _, hy20, rfl, rfl, rfl, rfl⟩, ?_⟩
                    cases h
                    exact (Le.rename [(0, 0), (2, 2)] _ _ _ ⟨rfl, rfl, trivial⟩ ⟨rfl, ⟨_, rfl, rfl⟩, rfl, ⟨_, rfl, rfl⟩, trivial⟩ rfl rfl rfl rfl rfl)
                  | false =>
                    replace h := bif_f hc h
                    cases hc : (a1_kind == 7) with
                    | true =>
                      replace h := bif_t hc h
                      obtain rfl : (7 : Int) = vsp := (hvsp.trans (eq_of_beq hc)).symm
                      refine And.intro (by decide) ?_
                      obtain ⟨⟨y23, _, b25⟩, hy23, h⟩ := bind_out h
                      refine ⟨_, _, ⟨_, _, _, _, _, hy23, rfl, rfl, rfl, rfl⟩, ?_⟩
                      cases h
                      exact (Le.rename [(0, 0), (2, 2)] _ _ _ ⟨rfl, rfl, trivial⟩ ⟨rfl, ⟨_, rfl, rfl⟩, rfl, ⟨_, rfl, rfl⟩, trivial⟩ rfl rfl rfl rfl rfl)
                    | false =>
                      replace h := bif_f hc h
                      cases hc : (a1_kind == 8) with
                      | true =>
                        replace h := bif_t hc h
                        obtain rfl : (8 : Int) = vsp := (hvsp.trans (eq_of_beq hc)).symm
                        refine And.intro (by decide) ?_
                        obtain ⟨⟨y26, _, b28⟩, hy26, h⟩ := bind_out h
                        refine ⟨_, _, ⟨_, _, _, _, _, hy26, rfl, rfl, rfl, rfl⟩, ?_⟩
                        cases h
                        exact (Le.rename [(0, 0), (2, 2)] _ _ _ ⟨rfl, rfl, trivial⟩ ⟨rfl, ⟨_, rfl, rfl⟩, rfl, ⟨_, rfl, rfl⟩, trivial⟩ rfl rfl rfl rfl rfl)
                      | false =>
                        replace h := bif_f hc h
                        cases hc : (a1_kind == 9) with
                        | true =>
                          replace h := bif_t hc h
                          obtain rfl : (9 : Int) = vsp := (hvsp.trans (eq_of_beq hc)).symm
                          refine And.intro (by decide) ?_
                          obtain ⟨⟨y29, _, b31⟩, hy29, h⟩ := bind_out h
                          refine ⟨_, _, ⟨_, _, _, _, _, hy29, rfl, rfl, rfl, rfl⟩, ?_⟩
                          cases h
                          exact (Le.rename [(0, 0), (2, 2)] _ _ _ ⟨rfl, rfl, trivial⟩ ⟨rfl, ⟨_, rfl, rfl⟩, rfl, ⟨_, rfl, rfl⟩, trivial⟩ rfl rfl rfl rfl rfl)
                        | false =>
                          replace h := bif_f hc h
                          cases hc : (a1_kind == 10) with
                          | true =>
                            replace h := bif_t hc h
                            obtain rfl : (10 : Int) = vsp := (hvsp.trans (eq_of_beq hc)).symm
                            refine And.intro (by decide) ?_
                            obtain ⟨⟨y32, _, b34⟩, hy32, h⟩ := bind_out h
                            refine ⟨_, _, ⟨_, _, _, _, _, hy32, rfl, rfl, rfl, rfl⟩, ?_⟩
                            cases h
                            exact (Le.rename [(0, 0), (2, 2)] _ _ _ ⟨rfl, rfl, trivial⟩ ⟨rfl, ⟨_, rfl, rfl⟩, rfl, ⟨_, rfl, rfl⟩, trivial⟩ rfl rfl rfl rfl rfl)
                          | false =>
                            replace h := bif_f hc h
                            cases hc : (a1_kind == 11) with
                            | true =>
                              replace h := bif_t hc h
                              obtain rfl : (11 : Int) = vsp := (hvsp.trans (eq_of_beq hc)).symm
                              refine And.intro (by decide) ?_
                              obtain ⟨⟨y35, _, b37⟩, hy35, h⟩ := bind_out h
                              refine ⟨_, _, ⟨_, _, _, _, _, hy35, rfl, rfl, rfl, rfl⟩, ?_⟩
                              cases h
                              exact (Le.rename [(0, 0), (2, 2)] _ _ _ ⟨rfl, rfl, trivial⟩ ⟨rfl, ⟨_, rfl, rfl⟩, rfl, ⟨_, rfl, rfl⟩, trivial⟩ rfl rfl rfl rfl rfl)
                            | false =>
                              replace h := bif_f hc h
                              cases hc : (a1_kind == 12) with
                              | true =>
                                replace h := bif_t hc h
                                obtain rfl : (12 : Int) = vsp := (hvsp.trans (eq_of_beq hc)).symm
                                refine And.intro (by decide) ?_
                                obtain ⟨⟨y38, _, b40⟩, hy38, h⟩ := bind_out h
                                refine ⟨_, _, ⟨_, _, _, _, _, hy38, rfl, rfl, rfl, rfl⟩, ?_⟩
                                cases h
                                exact (Le.rename [(0, 0), (2, 2)] _ _ _ ⟨rfl, rfl, trivial⟩ ⟨rfl, ⟨_, rfl, rfl⟩, rfl, ⟨_, rfl, rfl⟩, trivial⟩ rfl rfl rfl rfl rfl)
                              | false =>
                                replace h := bif_f hc h
                                cases h
      · replace h := bif_f hb h
        refine tri_drawn (by exact tokW) (by exact gok) (by exact mixed) [] [] [9] rfl (by decide +kernel) ?_
        obtain ⟨y41, hy41, h⟩ := bind_out h
        refine ⟨_, ⟨_, _, hy41, rfl, rfl⟩, ?_⟩
        obtain ⟨hq, h⟩ := req_out h
        refine And.intro (Nat.le_trans hq (by decide)) ?_
        obtain ⟨⟨y42, _, b44⟩, hy42, h⟩ := bind_out h
        refine ⟨_, _, ⟨_, _, _, _, _, hy42, rfl, rfl, rfl, rfl⟩, ?_⟩
        cases h
        exact (Le.rename [(0, 0), (2, 2)] _ _ _ ⟨rfl, rfl, trivial⟩ ⟨rfl, ⟨_, rfl, rfl⟩, rfl, ⟨_, rfl, rfl⟩, trivial⟩ rfl rfl rfl rfl rfl)
    · show Tri _ _ _ _
      refine tri_le hle ?_
      refine tri_seq ?_
      refine tri_seq ?_
      refine tri_region (by exact tokW) (by exact gok) [] [] rfl ?_
      show Tri _ _ _ _
      obtain ⟨l45, hj, h⟩ := bind_out h
      refine tri_post ⟨ofL [(0, .op 0 0), (1, .s (.pt [.int .i64 a1_kind, .str a1_text, .int .i64 a1_cols, .sl 4 (Nd.encs a1_kids)]))], ofH [(0, .box 61 (bcells (.op 0 39) (.orow 2))), (2, .row 5 1 ((List.map brow) l45))], 3⟩ ?_ (fun σ' hle => ?_)
      · replace h := hj
        refine tri_cond rfl (fun hb => ?_) (fun hb => ?_)
        · replace h := bif_t hb h
          refine tri_seq ?_
          refine tri_region (by exact tokW) (by exact gok) [] [] rfl ?_
          obtain ⟨⟨y46, _, b48⟩, hy46, h⟩ := bind_out h
          refine ⟨_, _, ⟨_, _, _, _, _, hy46, rfl, rfl, rfl, rfl⟩, ?_⟩
          show Tri _ _ _ _
          refine tri_seq ?_
          refine tri_seq ?_
          refine tri_region (by exact tokW) (by exact gok) [] [] rfl ?_
          show Tri _ _ _ _
          obtain ⟨l51, hl, h⟩ := bind_out h
          refine tri_post ⟨ofL [(0, .op 0 0), (1, .s (.pt [.int .i64 a1_kind, .str a1_text, .int .i64 a1_cols, .sl 4 (Nd.encs a1_kids)]))], ofH [(0, .box 61 (bcells (.op 0 39) (.orow 2))), (2, .row 5 1 ((List.map brow) l51))], 3⟩ ?_ (fun σ' hle => ?_)
          · refine tri_block (tri_loopI (X := Nat × Int × (List UInt8)) (fun y => match y with | (k, x49, l50) => ⟨ofL [(0, .op 0 0), (1, .s (.pt [.int .i64 a1_kind, .str a1_text, .int .i64 a1_cols, .sl 4 (Nd.encs a1_kids)])), (4, .s (.int .i64 x49))], ofH [(0, .box 61 (bcells (.op 0 39) (.orow 2))), (2, .row 5 1 ((List.map brow) l50))], 3⟩) (fun y => m_node_dumper_head_l1 a1_text y.1 y.2.1 y.2.2 = some l51) (fun y => y.1) (n, 0, b48) hl ?_ ?_)
            · exact (Le.rename [(0, 0), (3, 2)] _ _ _ ⟨rfl, rfl, rfl, trivial⟩ ⟨rfl, ⟨_, rfl, rfl⟩, rfl, ⟨_, rfl, rfl⟩, trivial⟩ rfl rfl rfl rfl rfl)
            · rintro ⟨k, x49, l50⟩ h
              cases k with
              | zero => cases h
              | succ k =>
                replace h : m_node_dumper_head_l1 a1_text (k+1) x49 l50 = some l51 := h
                rw [m_node_dumper_head_l1] at h
                refine tri_seq ?_
                refine tri_seq ?_
                refine tri_region (by exact tokW) (by exact gok) [] [] rfl ?_
                show Tri _ _ _ _
                refine tri_cond rfl (fun hb => ?_) (fun hb => ?_)
                · replace h := bif_t hb h
                  refine tri_skip ?_
                  show Tri _ _ _ _
                  refine tri_seq ?_
                  obtain ⟨l52, hj, h⟩ := bind_out h
                  refine tri_post ⟨ofL [(0, .op 0 0), (1, .s (.pt [.int .i64 a1_kind, .str a1_text, .int .i64 a1_cols, .sl 4 (Nd.encs a1_kids)])), (4, .s (.int .i64 x49))], ofH [(0, .box 61 (bcells (.op 0 39) (.orow 2))), (2, .row 5 1 ((List.map brow) l52))], 3⟩ ?_ (fun σ' hle => ?_)
                  · replace h := hj
                    refine tri_block ?_
                    refine tri_seq ?_
                    refine tri_seq ?_
                    obtain ⟨x53, hj, h⟩ := bind_out h
                    refine tri_post ⟨ofL [(0, .op 0 0), (1, .s (.pt [.int .i64 a1_kind, .str a1_text, .int .i64 a1_cols, .sl 4 (Nd.encs a1_kids)])), (4, .s (.int .i64 x49)), (74, .s (.bool x53))], ofH [(0, .box 61 (bcells (.op 0 39) (.orow 2))), (2, .row 5 1 ((List.map brow) l50))], 3⟩ ?_ (fun σ' hle => ?_)
                    · replace h := hj
                      refine tri_region (by exact tokW) (by exact gok) [] [64, 66, 72] rfl ?_
                      obtain ⟨c54, hc54, h⟩ := bind_out h
                      refine And.intro (str_ok hc54).1 ?_
                      intro v55 hv55
                      obtain rfl : (c54.toNat : Int) = v55 := (hv55.trans (str_ok hc54).2).symm
                      intro b hb
                      cases b with
                      | true =>
                        replace h := bif_t hb.symm h
                        cases h
                        exact (Le.rename [(0, 0), (2, 2)] _ _ _ ⟨rfl, rfl, rfl, rfl, trivial⟩ ⟨rfl, ⟨_, rfl, rfl⟩, rfl, ⟨_, rfl, rfl⟩, trivial⟩ rfl rfl rfl rfl rfl)
                      | false =>
                        replace h := bif_f hb.symm h
                        obtain ⟨c56, hc56, h⟩ := bind_out h
                        refine And.intro (str_ok hc56).1 ?_
                        intro v57 hv57
                        obtain rfl : (c56.toNat : Int) = v57 := (hv57.trans (str_ok hc56).2).symm
                        cases h
                        exact (Le.rename [(0, 0), (2, 2)] _ _ _ ⟨rfl, rfl, rfl, rfl, trivial⟩ ⟨rfl, ⟨_, rfl, rfl⟩, rfl, ⟨_, rfl, rfl⟩, trivial⟩ rfl rfl rfl rfl rfl)
                    · show Tri _ _ _ _
                      refine tri_le hle ?_
                      obtain ⟨l58, hj, h⟩ := bind_out h
                      refine tri_post ⟨ofL [(0, .op 0 0), (1, .s (.pt [.int .i64 a1_kind, .str a1_text, .int .i64 a1_cols, .sl 4 (Nd.encs a1_kids)])), (4, .s (.int .i64 x49))], ofH [(0, .box 61 (bcells (.op 0 39) (.orow 2))), (2, .row 5 1 ((List.map brow) l58))], 3⟩ ?_ (fun σ' hle => ?_)
                      · replace h := hj
                        refine tri_cond rfl (fun hb => ?_) (fun hb => ?_)
                        · replace h := bif_t hb h
                          refine tri_region (by exact tokW) (by exact gok) [] [] rfl ?_
                          obtain ⟨⟨_, b60⟩, hy59, h⟩ := bind_out h
                          refine ⟨_, _, ⟨_, _, _, _, hy59, rfl, rfl, rfl, rfl⟩, ?_⟩
                          cases h
                          exact (Le.rename [(0, 0), (3, 2)] _ _ _ ⟨rfl, rfl, rfl, trivial⟩ ⟨rfl, ⟨_, rfl, rfl⟩, rfl, ⟨_, rfl, rfl⟩, trivial⟩ rfl rfl rfl rfl rfl)
                        · replace h := bif_f hb h
                          refine tri_skip ?_
                          cases h
                          exact (Le.rename [(0, 0), (2, 2)] _ _ _ ⟨rfl, rfl, rfl, trivial⟩ ⟨rfl, ⟨_, rfl, rfl⟩, rfl, ⟨_, rfl, rfl⟩, trivial⟩ rfl rfl rfl rfl rfl)
                      · show Tri _ _ _ _
                        refine tri_le hle ?_
                        refine tri_drawn (by exact tokW) (by exact gok) (by exact mixed) [] [87] [9] rfl (by decide +kernel) ?_
                        obtain ⟨c61, hc61, h⟩ := bind_out h
                        refine And.intro (str_ok hc61).1 ?_
                        intro v62 hv62
                        obtain rfl : (c61.toNat : Int) = v62 := (hv62.trans (str_ok hc61).2).symm
                        obtain ⟨⟨_, b64⟩, hy63, h⟩ := bind_out h
                        refine ⟨_, _, ⟨_, _, _, _, hy63, rfl, rfl, rfl, rfl⟩, ?_⟩
                        cases h
                        exact (Le.rename [(0, 0), (3, 2)] _ _ _ ⟨rfl, rfl, rfl, trivial⟩ ⟨rfl, ⟨_, rfl, rfl⟩, rfl, ⟨_, rfl, rfl⟩, trivial⟩ rfl rfl rfl rfl rfl)
                  · show Tri _ _ _ _
                    refine tri_le hle ?_
                    refine tri_region (by exact tokW) (by exact gok) [] [] rfl ?_
                    refine ⟨(k, IntKind.i64.wrap (x49 + 1), l52), h, (Le.rename [(0, 0), (2, 2)] _ _ _ ⟨rfl, rfl, rfl, trivial⟩ ⟨rfl, ⟨_, rfl, rfl⟩, rfl, ⟨_, rfl, rfl⟩, trivial⟩ rfl rfl rfl rfl rfl), Nat.lt_succ_self k⟩
                · replace h := bif_f hb h
                  refine tri_exit ?_
                  cases h
                  exact (Le.rename [(0, 0), (2, 2)] _ _ _ ⟨rfl, rfl, trivial⟩ ⟨rfl, ⟨_, rfl, rfl⟩, rfl, ⟨_, rfl, rfl⟩, trivial⟩ rfl rfl rfl rfl rfl)
          · show Tri _ _ _ _
            refine tri_le hle ?_
            refine tri_region (by exact tokW) (by exact gok) [] [] rfl ?_
            obtain ⟨⟨_, b66⟩, hy65, h⟩ := bind_out h
            refine ⟨_, _, ⟨_, _, _, _, hy65, rfl, rfl, rfl, rfl⟩, ?_⟩
            cases h
            exact (Le.rename [(0, 0), (3, 2)] _ _ _ ⟨rfl, rfl, trivial⟩ ⟨rfl, ⟨_, rfl, rfl⟩, rfl, ⟨_, rfl, rfl⟩, trivial⟩ rfl rfl rfl rfl rfl)
        · replace h := bif_f hb h
          refine tri_skip ?_
          cases h
          exact (Le.rename [(0, 0), (2, 2)] _ _ _ ⟨rfl, rfl, trivial⟩ ⟨rfl, ⟨_, rfl, rfl⟩, rfl, ⟨_, rfl, rfl⟩, trivial⟩ rfl rfl rfl rfl rfl)
      · show Tri _ _ _ _
        refine tri_le hle ?_
        refine tri_seq ?_
        refine tri_region (by exact tokW) (by exact gok) [] [] rfl ?_
        show Tri _ _ _ _
        refine tri_cond rfl (fun hb => ?_) (fun hb => ?_)
        · replace h := bif_t hb h
          refine tri_drawn (by exact tokW) (by exact gok) (by exact mixed) [] [] [9] rfl (by decide +kernel) ?_
          obtain ⟨y67, hy67, h⟩ := bind_out h
          refine ⟨_, ⟨_, _, hy67, rfl, rfl⟩, ?_⟩
          obtain ⟨hq, h⟩ := req_out h
          refine And.intro (Nat.le_trans hq (by decide)) ?_
          obtain ⟨⟨y68, _, b70⟩, hy68, h⟩ := bind_out h
          refine ⟨_, _, ⟨_, _, _, _, _, hy68, rfl, rfl, rfl, rfl⟩, ?_⟩
          have hy := Option.some.inj h
          subst hy
          unfold GivesO
          exact ⟨_, (Le.rename [(0, 0), (3, 2)] [] [(0, .box 61 (bcells (.op 0 39) (.orow 2))), (2, .row 5 1 ((List.map brow) b70))] 3 trivial ⟨rfl, ⟨_, rfl, rfl⟩, rfl, ⟨_, rfl, rfl⟩, trivial⟩ rfl rfl rfl rfl rfl), rfl, rfl, rfl, rfl, rfl, rfl, trivial⟩
        · replace h := bif_f hb h
          refine tri_skip ?_
          have hy := Option.some.inj h
          subst hy
          unfold GivesO
          exact ⟨_, (Le.rename [(0, 0), (2, 2)] [] [(0, .box 61 (bcells (.op 0 39) (.orow 2))), (2, .row 5 1 ((List.map brow) l45))] 3 trivial ⟨rfl, ⟨_, rfl, rfl⟩, rfl, ⟨_, rfl, rfl⟩, trivial⟩ rfl rfl rfl rfl rfl), rfl, rfl, rfl, rfl, rfl, rfl, trivial⟩

/- (*strings.Builder).WriteString -/
def R_strings_Builder_WriteString_v1 (xs : List AV) (os : List Ob) (x : AV) (os' : List (Option Ob)) : Prop := ∃ (a0 : List UInt8) (a1 : List UInt8) (y0 : Int) (y1 : Unit) (z1 : List UInt8), m_strings_Builder_WriteString a0 a1 = some (y0, y1, z1) ∧ xs = [.op 0 39, .s (.str a0)] ∧ os = [.box 61 (bcells (.s (.np)) (.orow 1)), .row 5 1 (List.map brow a1)] ∧ x = .tup [.s (.int .i64 y0), .junk] ∧ os' = [some (.box 61 (bcells (.op 0 39) (.orow 2))), none, some (.row 5 1 (List.map brow z1))]
def S_strings_Builder_WriteString_v1 : PSpec := ospec (fun xs os x os' => R_strings_Builder_WriteString_v1 xs os x os')
set_option maxHeartbeats 2000000 in
set_option maxRecDepth 100000 in
theorem ok_strings_Builder_WriteString_v1 : PSound Tryd.prog 76 S_strings_Builder_WriteString_v1 := by
  have gok : ∀ f s, look? f [(78, S_strings_Builder_copyCheck_v1)] = some s → PSound Tryd.prog f s := look_all (by
    simp only [List.forall_mem_cons]
    exact ⟨ok_strings_Builder_copyCheck_v1, by simp⟩)
  refine PSound.withNil (osound tokW Tryd.call76 Tryd.func76 rfl (fun xs os x os' h => by obtain ⟨_, _, _, _, _, _, rfl, rfl, _, rfl⟩ := h; exact ⟨by show 2 ≤ 19; decide, by show 2 ≤ 3; decide⟩) 19 rfl ?_) _
  rintro xs os x os' w0 G0 B0 ⟨s1, b2, y0, y1, z1, h, rfl, rfl, rfl, rfl⟩ _
  rw [m_strings_Builder_WriteString] at h
  refine tri_seq ?_
  refine tri_region (by exact tokW) (by exact gok) [] [] rfl ?_
  show Tri _ _ _ _
  refine tri_seq ?_
  refine tri_region (by exact tokW) (by exact gok) [] [] rfl ?_
  obtain ⟨b3, hb3, h⟩ := bind_out h
  refine ⟨_, _, ⟨_, _, hb3, rfl, rfl, rfl, rfl⟩, ?_⟩
  show Tri _ _ _ _
  refine tri_seq ?_
  refine tri_region (by exact tokW) (by exact gok) [14] [] rfl ?_
  obtain ⟨hq, h⟩ := req_out h
  refine And.intro (show (((List.map brow) b3).length + (List.map brow s1).length) * 1 ≤ 140737488355328 ∧ ((List.map brow) b3).length + (List.map brow s1).length ≤ 9223372036854775807 from by simp only [List.length_append, List.length_cons, List.length_nil, List.length_map, rlen (fun _ => rfl)] at hq ⊢; omega) ?_
  show Tri _ _ _ _
  refine tri_le (Le.rename [(0, 0), (3, 2)] [(1, .s (.str s1))] [(0, .box 61 (bcells (.op 0 39) (.orow 2))), (2, .row 5 1 ((List.map brow) (b3 ++ s1)))] 3 ⟨rfl, trivial⟩ ⟨rfl, ⟨_, rfl, rfl⟩, rfl, ⟨_, rfl, congrArg (Ob.row 5 1) (by simp [List.map_append, List.map_take, List.map_drop, irow, brow, b8of_row, List.map_cons, List.map_nil, b8of_wrap, Nd.encs_eq, Nd.enc, enc_13_node_kind])⟩, trivial⟩ rfl rfl rfl rfl rfl) ?_
  refine tri_seq ?_
  refine tri_region (by exact tokW) (by exact gok) [] [] rfl ?_
  show Tri _ _ _ _
  refine tri_ret ?_
  obtain ⟨hj1, hk1⟩ := Prod.mk.inj (Option.some.inj h)
  subst hj1
  obtain ⟨hj2, hk2⟩ := Prod.mk.inj hk1
  subst hj2
  subst hk2
  unfold GivesO
  exact ⟨_, (Le.rename [(0, 0), (2, 2)] [(4, .s (.int .i64 (s1.length : Int)))] [(0, .box 61 (bcells (.op 0 39) (.orow 2))), (2, .row 5 1 ((List.map brow) (b3 ++ s1)))] 3 ⟨rfl, trivial⟩ ⟨rfl, ⟨_, rfl, rfl⟩, rfl, ⟨_, rfl, rfl⟩, trivial⟩ rfl rfl rfl rfl rfl), rfl, rfl, rfl, rfl, rfl, rfl, trivial⟩

/- (*vinculum/node.dumper).head -/
def R_node_dumper_head_v1 (n : Nat) (xs : List AV) (os : List Ob) (x : AV) (os' : List (Option Ob)) : Prop := ∃ (a0 : Nd) (a1 : List UInt8) (z1 : List UInt8), m_node_dumper_head n a0 a1 = some z1 ∧ xs = [.op 0 0, .s (.pt (Nd.enc a0))] ∧ os = [.box 61 (bcells (.s (.np)) (.orow 1)), .row 5 1 (List.map brow a1)] ∧ x = .tup [] ∧ os' = [some (.box 61 (bcells (.op 0 39) (.orow 2))), none, some (.row 5 1 (List.map brow z1))]
def S_node_dumper_head_v1 : PSpec := ospec (fun xs os x os' => ∃ n, R_node_dumper_head_v1 n xs os x os')
set_option maxHeartbeats 2000000 in
set_option maxRecDepth 100000 in
theorem ok_node_dumper_head_v1 : PSound Tryd.prog 52 S_node_dumper_head_v1 := by
  have gok : ∀ f s, look? f [(76, orS S_strings_Builder_WriteString S_strings_Builder_WriteString_v1), (77, S_strconv_Itoa), (53, S_strings_Builder_WriteByte)] = some s → PSound Tryd.prog f s := look_all (by
    simp only [List.forall_mem_cons]
    exact ⟨(osound_or ok_strings_Builder_WriteString ok_strings_Builder_WriteString_v1), ok_strconv_Itoa, ok_strings_Builder_WriteByte, by simp⟩)
  refine PSound.withNil (osound tokW Tryd.call52 Tryd.func52 rfl (fun xs os x os' h => by obtain ⟨n, _, _, _, _, rfl, rfl, _, rfl⟩ := h; exact ⟨by show 2 ≤ 108; decide, by show 2 ≤ 3; decide⟩) 108 rfl ?_) _
  rintro xs os x os' w0 G0 B0 ⟨n, ⟨a1_kind, a1_text, a1_cols, a1_kids⟩, b2, z1, h, rfl, rfl, rfl, rfl⟩ _
  rw [m_node_dumper_head] at h
  refine tri_seq ?_
  refine tri_seq ?_
  obtain ⟨x3, hj, h⟩ := bind_out h
  refine tri_post ⟨ofL [(0, .op 0 0), (1, .s (.pt [.int .i64 a1_kind, .str a1_text, .int .i64 a1_cols, .sl 4 (Nd.encs a1_kids)])), (16, .s (.bool x3))], ofH [(0, .box 61 (bcells (.s (.np)) (.orow 1))), (1, .row 5 1 ((List.map brow) b2))], 2⟩ ?_ (fun σ' hle => ?_)
  · replace h := hj
    refine tri_region (by exact tokW) (by exact gok) [] [10] rfl ?_
    intro b hb
    cases b with
    | true =>
      replace h := bif_t hb.symm h
      cases h
      exact (Le.rename [(0, 0), (1, 1)] _ _ _ ⟨rfl, rfl, rfl, trivial⟩ ⟨rfl, ⟨_, rfl, rfl⟩, rfl, ⟨_, rfl, rfl⟩, trivial⟩ rfl rfl rfl rfl rfl)
    | false =>
      replace h := bif_f hb.symm h
      cases h
      exact (Le.rename [(0, 0), (1, 1)] _ _ _ ⟨rfl, rfl, rfl, trivial⟩ ⟨rfl, ⟨_, rfl, rfl⟩, rfl, ⟨_, rfl, rfl⟩, trivial⟩ rfl rfl rfl rfl rfl)
  · show Tri _ _ _ _
    refine tri_le hle ?_
    obtain ⟨l4, hj, h⟩ := bind_out h
    refine tri_post ⟨ofL [(0, .op 0 0), (1, .s (.pt [.int .i64 a1_kind, .str a1_text, .int .i64 a1_cols, .sl 4 (Nd.encs a1_kids)]))], ofH [(0, .box 61 (bcells (.op 0 39) (.orow 2))), (2, .row 5 1 ((List.map brow) l4))], 3⟩ ?_ (fun σ' hle => ?_)
    · replace h := hj
      refine tri_cond rfl (fun hb => ?_) (fun hb => ?_)
      · replace h := bif_t hb h
        refine tri_drawn (by exact tokW) (by exact gok) (by exact mixed) [] [24] [12, 13] rfl (by decide +kernel) ?_
        intro vsp hvsp
        cases hc : (a1_kind == 1) with
        | true =>
          replace h := bif_t hc h
          obtain rfl : (1 : Int) = vsp := (hvsp.trans (eq_of_beq hc)).symm
          refine And.intro (by decide) ?_
          obtain ⟨⟨y5, _, b7⟩, hy5, h⟩ := bind_out h
          refine ⟨_, _, (Or.inr ⟨_, _, _, _, _, hy5, rfl, rfl, rfl, rfl⟩), ?_⟩
          cases h
          exact (Le.rename [(0, 0), (2, 2)] _ _ _ ⟨rfl, rfl, trivial⟩ ⟨rfl, ⟨_, rfl, rfl⟩, rfl, ⟨_, rfl, rfl⟩, trivial⟩ rfl rfl rfl rfl rfl)
        | false =>
          replace h := bif_f hc h
          cases hc : (a1_kind == 2) with
          | true =>
            replace h := bif_t hc h
            obtain rfl : (2 : Int) = vsp := (hvsp.trans (eq_of_beq hc)).symm
            refine And.intro (by decide) ?_
            obtain ⟨⟨y8, _, b10⟩, hy8, h⟩ := bind_out h
            refine ⟨_, _, (Or.inr ⟨_, _, _, _, _, hy8, rfl, rfl, rfl, rfl⟩), ?_⟩
            cases h
            exact (Le.rename [(0, 0), (2, 2)] _ _ _ ⟨rfl, rfl, trivial⟩ ⟨rfl, ⟨_, rfl, rfl⟩, rfl, ⟨_, rfl, rfl⟩, trivial⟩ rfl rfl rfl rfl rfl)
          | false =>
            replace h := bif_f hc h
            cases hc : (a1_kind == 3) with
            | true =>
              replace h := bif_t hc h
              obtain rfl : (3 : Int) = vsp := (hvsp.trans (eq_of_beq hc)).symm
              refine And.intro (by decide) ?_
              obtain ⟨⟨y11, _, b13⟩, hy11, h⟩ := bind_out h
              refine ⟨_, _, (Or.inr ⟨_, _, _, _, _, hy11, rfl, rfl, rfl, rfl⟩), ?_⟩
              cases h
              exact (Le.rename [(0, 0), (2, 2)] _ _ _ ⟨rfl, rfl, trivial⟩ ⟨rfl, ⟨_, rfl, rfl⟩, rfl, ⟨_, rfl, rfl⟩, trivial⟩ rfl rfl rfl rfl rfl)
            | false =>
              replace h := bif_f hc h
              cases hc : (a1_kind == 4) with
              | true =>
                replace h := bif_t hc h
                obtain rfl : (4 : Int) = vsp := (hvsp.trans (eq_of_beq hc)).symm
                refine And.intro (by decide) ?_
                obtain ⟨⟨y14, _, b16⟩, hy14, h⟩ := bind_out h
                refine ⟨_, _, (Or.inr ⟨_, _, _, _, _, hy14, rfl, rfl, rfl, rfl⟩), ?_⟩
                cases h
                exact (Le.rename [(0, 0), (2, 2)] _ _ _ ⟨rfl, rfl, trivial⟩ ⟨rfl, ⟨_, rfl, rfl⟩, rfl, ⟨_, rfl, rfl⟩, trivial⟩ rfl rfl rfl rfl rfl)
              | false =>
                replace h := bif_f hc h
                cases hc : (a1_kind == 5) with
                | true =>
                  replace h := bif_t hc h
                  obtain rfl : (5 : Int) = vsp := (hvsp.trans (eq_of_beq hc)).symm
                  refine And.intro (by decide) ?_
                  obtain ⟨⟨y17, _, b19⟩, hy17, h⟩ := bind_out h
                  refine ⟨_, _, (Or.inr ⟨_, _, _, _, _, hy17, rfl, rfl, rfl, rfl⟩), ?_⟩
                  cases h
                  exact (Le.rename [(0, 0), (2, 2)] _ _ _ ⟨rfl, rfl, trivial⟩ ⟨rfl, ⟨_, rfl, rfl⟩, rfl, ⟨_, rfl, rfl⟩, trivial⟩ rfl rfl rfl rfl rfl)
                | false =>
                  replace h := bif_f hc h
                  cases hc : (a1_kind == 6) with
                  | true =>
                    replace h := bif_t hc h
                    obtain rfl : (6 : Int) = vsp := (hvsp.trans (eq_of_beq hc)).symm
                    refine And.intro (by decide) ?_
                    obtain ⟨⟨y20, _, b22⟩, hy20, h⟩ := bind_out h
                    refine ⟨_, _, (Or.inr ⟨_, _, _, _, _, hy20, rfl, rfl, rfl, rfl⟩), ?_⟩
                    cases h
                    exact (Le.rename [(0, 0), (2, 2)] _ _ _ ⟨rfl, rfl, trivial⟩ ⟨rfl, ⟨_, rfl, rfl⟩, rfl, ⟨_, rfl, rfl⟩, trivial⟩ rfl rfl rfl rfl rfl)
                  | false =>
                    replace h := bif_f hc h
                    cases hc : (a1_kind == 7) with
                    | true =>
                      replace h := bif_t hc h
                      obtain rfl : (7 : Int) = vsp := (hvsp.trans (eq_of_beq hc)).symm
                      refine And.intro (by decide) ?_
                      obtain ⟨⟨y23, _, b25⟩, hy23, h⟩ := bind_out h
                      refine ⟨_, _, (Or.inr ⟨_, _, _, _, _, hy23, rfl, rfl, rfl, rfl⟩), ?_⟩
                      cases h
                      exact (Le.rename [(0, 0), (2, 2)] _ _ _ ⟨rfl, rfl, trivial⟩ ⟨rfl, ⟨_, rfl, rfl⟩, rfl, ⟨_, rfl, rfl⟩, trivial⟩ rfl rfl rfl rfl rfl)
                    | false =>
                      replace h := bif_f hc h
                      cases hc : (a1_kind == 8) with
                      | true =>
                        replace h := bif_t hc h
                        obtain rfl : (8 : Int) = vsp := (hvsp.trans (eq_of_beq hc)).symm
                        refine And.intro (by decide) ?_
                        obtain ⟨⟨y26, _, b28⟩, hy26, h⟩ := bind_out h
                        refine ⟨_, _, (Or.inr ⟨_, _, _, _, _, hy26, rfl, rfl, rfl, rfl⟩), ?_⟩
                        cases h
                        exact (Le.rename [(0, 0), (2, 2)] _ _ _ ⟨rfl, rfl, trivial⟩ ⟨rfl, ⟨_, rfl, rfl⟩, rfl, ⟨_, rfl, rfl⟩, trivial⟩ rfl rfl rfl rfl rfl)
                      | false =>
                        replace h := bif_f hc h
                        cases hc : (a1_kind == 9) with
                        | true =>
                          replace h := bif_t hc h
                          obtain rfl : (9 : Int) = vsp := (hvsp.trans (eq_of_beq hc)).symm
                          refine And.intro (by decide) ?_
                          obtain ⟨⟨y29, _, b31⟩, hy29, h⟩ := bind_out h
                          refine ⟨_, _, (Or.inr ⟨_, _, _, _, _, hy29, rfl, rfl, rfl, rfl⟩), ?_⟩
                          cases h
                          exact (Le.rename [(0, 0), (2, 2)] _ _ _ ⟨rfl, rfl, trivial⟩ ⟨rfl, ⟨_, rfl, rfl⟩, rfl, ⟨_, rfl, rfl⟩, trivial⟩ rfl rfl rfl rfl rfl)
                        | false =>
                          replace h := bif_f hc h
                          cases hc : (a1_kind == 10) with
                          | true =>
                            replace h := bif_t hc h
                            obtain rfl : (10 : Int) = vsp := (hvsp.trans (eq_of_beq hc)).symm
                            refine And.intro (by decide) ?_
                            obtain ⟨⟨y32, _, b34⟩, hy32, h⟩ := bind_out h
                            refine ⟨_, _, (Or.inr ⟨_, _, _, _, _, hy32, rfl, rfl, rfl, rfl⟩), ?_⟩
                            cases h
                            exact (Le.rename [(0, 0), (2, 2)] _ _ _ ⟨rfl, rfl, trivial⟩ ⟨rfl, ⟨_, rfl, rfl⟩, rfl, ⟨_, rfl, rfl⟩, trivial⟩ rfl rfl rfl rfl rfl)
                          | false =>
                            replace h := bif_f hc h
                            cases hc : (a1_kind == 11) with
                            | true =>
                              replace h := bif_t hc h
                              obtain rfl : (11 : Int) = vsp := (hvsp.trans (eq_of_beq hc)).symm
                              refine And.intro (by decide) ?_
                              obtain ⟨⟨y35, _, b37⟩, hy35, h⟩ := bind_out h
                              refine ⟨_, _, (Or.inr ⟨_, _, _, _, _, hy35, rfl, rfl, rfl, rfl⟩), ?_⟩
                              cases h
                              exact (Le.rename [(0, 0), (2, 2)] _ _ _ ⟨rfl, rfl, trivial⟩ ⟨rfl, ⟨_, rfl, rfl⟩, rfl, ⟨_, rfl, rfl⟩, trivial⟩ rfl rfl rfl rfl rfl)
                            | false =>
                              replace h := bif_f hc h
                              cases hc : (a1_kind == 12) with
                              | true =>
                                replace h := bif_t hc h
                                obtain rfl : (12 : Int) = vsp := (hvsp.trans (eq_of_beq hc)).symm
                                refine And.intro (by decide) ?_
                                obtain ⟨⟨y38, _, b40⟩, hy38, h⟩ := bind_out h
                                refine ⟨_, _, (Or.inr ⟨_, _, _, _, _, hy38, rfl, rfl, rfl, rfl⟩), ?_⟩
                                cases h
                                exact (Le.rename [(0, 0), (2, 2)] _ _ _ ⟨rfl, rfl, trivial⟩ ⟨rfl, ⟨_, rfl, rfl⟩, rfl, ⟨_, rfl, rfl⟩, trivial⟩ rfl rfl rfl rfl rfl)
                              | false =>
                                replace h := bif_f hc h
                                cases h
      · replace h := bif_f hb h
        refine tri_drawn (by exact tokW) (by exact gok) (by exact mixed) [] [] [9] rfl (by decide +kernel) ?_
        obtain ⟨y41, hy41, h⟩ := bind_out h
        refine ⟨_, ⟨_, _, hy41, rfl, rfl⟩, ?_⟩
        obtain ⟨hq, h⟩ := req_out h
        refine And.intro (Nat.le_trans hq (by decide)) ?_
        obtain ⟨⟨y42, _, b44⟩, hy42, h⟩ := bind_out h
        refine ⟨_, _, (Or.inr ⟨_, _, _, _, _, hy42, rfl, rfl, rfl, rfl⟩), ?_⟩
        cases h
        exact (Le.rename [(0, 0), (2, 2)] _ _ _ ⟨rfl, rfl, trivial⟩ ⟨rfl, ⟨_, rfl, rfl⟩, rfl, ⟨_, rfl, rfl⟩, trivial⟩ rfl rfl rfl rfl rfl)
    · show Tri _ _ _ _
      refine tri_le hle ?_
      refine tri_seq ?_
      refine tri_seq ?_
      refine tri_region (by exact tokW) (by exact gok) [] [] rfl ?_
      show Tri _ _ _ _
      obtain ⟨l45, hj, h⟩ := bind_out h
      refine tri_post ⟨ofL [(0, .op 0 0), (1, .s (.pt [.int .i64 a1_kind, .str a1_text, .int .i64 a1_cols, .sl 4 (Nd.encs a1_kids)]))], ofH [(0, .box 61 (bcells (.op 0 39) (.orow 2))), (2, .row 5 1 ((List.map brow) l45))], 3⟩ ?_ (fun σ' hle => ?_)
      · replace h := hj
        refine tri_cond rfl (fun hb => ?_) (fun hb => ?_)
        · replace h := bif_t hb h
          refine tri_seq ?_
          refine tri_region (by exact tokW) (by exact gok) [] [] rfl ?_
          obtain ⟨⟨y46, _, b48⟩, hy46, h⟩ := bind_out h
          refine ⟨_, _, (Or.inl ⟨_, _, _, _, _, hy46, rfl, rfl, rfl, rfl⟩), ?_⟩
          show Tri _ _ _ _
          refine tri_seq ?_
          refine tri_seq ?_
          refine tri_region (by exact tokW) (by exact gok) [] [] rfl ?_
          show Tri _ _ _ _
          obtain ⟨l51, hl, h⟩ := bind_out h
          refine tri_post ⟨ofL [(0, .op 0 0), (1, .s (.pt [.int .i64 a1_kind, .str a1_text, .int .i64 a1_cols, .sl 4 (Nd.encs a1_kids)]))], ofH [(0, .box 61 (bcells (.op 0 39) (.orow 2))), (2, .row 5 1 ((List.map brow) l51))], 3⟩ ?_ (fun σ' hle => ?_)
          · refine tri_block (tri_loopI (X := Nat × Int × (List UInt8)) (fun y => match y with | (k, x49, l50) => ⟨ofL [(0, .op 0 0), (1, .s (.pt [.int .i64 a1_kind, .str a1_text, .int .i64 a1_cols, .sl 4 (Nd.encs a1_kids)])), (4, .s (.int .i64 x49))], ofH [(0, .box 61 (bcells (.op 0 39) (.orow 2))), (2, .row 5 1 ((List.map brow) l50))], 3⟩) (fun y => m_node_dumper_head_l1 a1_text y.1 y.2.1 y.2.2 = some l51) (fun y => y.1) (n, 0, b48) hl ?_ ?_)
            · exact (Le.rename [(0, 0), (3, 2)] _ _ _ ⟨rfl, rfl, rfl, trivial⟩ ⟨rfl, ⟨_, rfl, rfl⟩, rfl, ⟨_, rfl, rfl⟩, trivial⟩ rfl rfl rfl rfl rfl)
            · rintro ⟨k, x49, l50⟩ h
              cases k with
              | zero => cases h
              | succ k =>
                replace h : m_node_dumper_head_l1 a1_text (k+1) x49 l50 = some l51 := h
                rw [m_node_dumper_head_l1] at h
                refine tri_seq ?_
                refine tri_seq ?_
                refine tri_region (by exact tokW) (by exact gok) [] [] rfl ?_
                show Tri _ _ _ _
                refine tri_cond rfl (fun hb => ?_) (fun hb => ?_)
                · replace h := bif_t hb h
                  refine tri_skip ?_
                  show Tri _ _ _ _
                  refine tri_seq ?_
                  obtain ⟨l52, hj, h⟩ := bind_out h
                  refine tri_post ⟨ofL [(0, .op 0 0), (1, .s (.pt [.int .i64 a1_kind, .str a1_text, .int .i64 a1_cols, .sl 4 (Nd.encs a1_kids)])), (4, .s (.int .i64 x49))], ofH [(0, .box 61 (bcells (.op 0 39) (.orow 2))), (2, .row 5 1 ((List.map brow) l52))], 3⟩ ?_ (fun σ' hle => ?_)
                  · replace h := hj
                    refine tri_block ?_
                    refine tri_seq ?_
                    refine tri_seq ?_
                    obtain ⟨x53, hj, h⟩ := bind_out h
                    refine tri_post ⟨ofL [(0, .op 0 0), (1, .s (.pt [.int .i64 a1_kind, .str a1_text, .int .i64 a1_cols, .sl 4 (Nd.encs a1_kids)])), (4, .s (.int .i64 x49)), (74, .s (.bool x53))], ofH [(0, .box 61 (bcells (.op 0 39) (.orow 2))), (2, .row 5 1 ((List.map brow) l50))], 3⟩ ?_ (fun σ' hle => ?_)
                    · replace h := hj
                      refine tri_region (by exact tokW) (by exact gok) [] [64, 66, 72] rfl ?_
                      obtain ⟨c54, hc54, h⟩ := bind_out h
                      refine And.intro (str_ok hc54).1 ?_
                      intro v55 hv55
                      obtain rfl : (c54.toNat : Int) = v55 := (hv55.trans (str_ok hc54).2).symm
                      intro b hb
                      cases b with
                      | true =>
                        replace h := bif_t hb.symm h
                        cases h
                        exact (Le.rename [(0, 0), (2, 2)] _ _ _ ⟨rfl, rfl, rfl, rfl, trivial⟩ ⟨rfl, ⟨_, rfl, rfl⟩, rfl, ⟨_, rfl, rfl⟩, trivial⟩ rfl rfl rfl rfl rfl)
                      | false =>
                        replace h := bif_f hb.symm h
                        obtain ⟨c56, hc56, h⟩ := bind_out h
                        refine And.intro (str_ok hc56).1 ?_
                        intro v57 hv57
                        obtain rfl : (c56.toNat : Int) = v57 := (hv57.trans (str_ok hc56).2).symm
                        cases h
                        exact (Le.rename [(0, 0), (2, 2)] _ _ _ ⟨rfl, rfl, rfl, rfl, trivial⟩ ⟨rfl, ⟨_, rfl, rfl⟩, rfl, ⟨_, rfl, rfl⟩, trivial⟩ rfl rfl rfl rfl rfl)
                    · show Tri _ _ _ _
                      refine tri_le hle ?_
                      obtain ⟨l58, hj, h⟩ := bind_out h
                      refine tri_post ⟨ofL [(0, .op 0 0), (1, .s (.pt [.int .i64 a1_kind, .str a1_text, .int .i64 a1_cols, .sl 4 (Nd.encs a1_kids)])), (4, .s (.int .i64 x49))], ofH [(0, .box 61 (bcells (.op 0 39) (.orow 2))), (2, .row 5 1 ((List.map brow) l58))], 3⟩ ?_ (fun σ' hle => ?_)
                      · replace h := hj
                        refine tri_cond rfl (fun hb => ?_) (fun hb => ?_)
                        · replace h := bif_t hb h
                          refine tri_region (by exact tokW) (by exact gok) [] [] rfl ?_
                          obtain ⟨⟨_, b60⟩, hy59, h⟩ := bind_out h
                          refine ⟨_, _, ⟨_, _, _, _, hy59, rfl, rfl, rfl, rfl⟩, ?_⟩
                          cases h
                          exact (Le.rename [(0, 0), (3, 2)] _ _ _ ⟨rfl, rfl, rfl, trivial⟩ ⟨rfl, ⟨_, rfl, rfl⟩, rfl, ⟨_, rfl, rfl⟩, trivial⟩ rfl rfl rfl rfl rfl)
                        · replace h := bif_f hb h
                          refine tri_skip ?_
                          cases h
                          exact (Le.rename [(0, 0), (2, 2)] _ _ _ ⟨rfl, rfl, rfl, trivial⟩ ⟨rfl, ⟨_, rfl, rfl⟩, rfl, ⟨_, rfl, rfl⟩, trivial⟩ rfl rfl rfl rfl rfl)
                      · show Tri _ _ _ _
                        refine tri_le hle ?_
                        refine tri_drawn (by exact tokW) (by exact gok) (by exact mixed) [] [87] [9] rfl (by decide +kernel) ?_
                        obtain ⟨c61, hc61, h⟩ := bind_out h
                        refine And.intro (str_ok hc61).1 ?_
                        intro v62 hv62
                        obtain rfl : (c61.toNat : Int) = v62 := (hv62.trans (str_ok hc61).2).symm
                        obtain ⟨⟨_, b64⟩, hy63, h⟩ := bind_out h
                        refine ⟨_, _, ⟨_, _, _, _, hy63, rfl, rfl, rfl, rfl⟩, ?_⟩
                        cases h
                        exact (Le.rename [(0, 0), (3, 2)] _ _ _ ⟨rfl, rfl, rfl, trivial⟩ ⟨rfl, ⟨_, rfl, rfl⟩, rfl, ⟨_, rfl, rfl⟩, trivial⟩ rfl rfl rfl rfl rfl)
                  · show Tri _ _ _ _
                    refine tri_le hle ?_
                    refine tri_region (by exact tokW) (by exact gok) [] [] rfl ?_
                    refine ⟨(k, IntKind.i64.wrap (x49 + 1), l52), h, (Le.rename [(0, 0), (2, 2)] _ _ _ ⟨rfl, rfl, rfl, trivial⟩ ⟨rfl, ⟨_, rfl, rfl⟩, rfl, ⟨_, rfl, rfl⟩, trivial⟩ rfl rfl rfl rfl rfl), Nat.lt_succ_self k⟩
                · replace h := bif_f hb h
                  refine tri_exit ?_
                  cases h
                  exact (Le.rename [(0, 0), (2, 2)] _ _ _ ⟨rfl, rfl, trivial⟩ ⟨rfl, ⟨_, rfl, rfl⟩, rfl, ⟨_, rfl, rfl⟩, trivial⟩ rfl rfl rfl rfl rfl)
          · show Tri _ _ _ _
            refine tri_le hle ?_
            refine tri_region (by exact tokW) (by exact gok) [] [] rfl ?_
            obtain ⟨⟨_, b66⟩, hy65, h⟩ := bind_out h
            refine ⟨_, _, ⟨_, _, _, _, hy65, rfl, rfl, rfl, rfl⟩, ?_⟩
            cases h
            exact (Le.rename [(0, 0), (3, 2)] _ _ _ ⟨rfl, rfl, trivial⟩ ⟨rfl, ⟨_, rfl, rfl⟩, rfl, ⟨_, rfl, rfl⟩, trivial⟩ rfl rfl rfl rfl rfl)
        · replace h := bif_f hb h
          refine tri_skip ?_
          cases h
          exact (Le.rename [(0, 0), (2, 2)] _ _ _ ⟨rfl, rfl, trivial⟩ ⟨rfl, ⟨_, rfl, rfl⟩, rfl, ⟨_, rfl, rfl⟩, trivial⟩ rfl rfl rfl rfl rfl)
      · show Tri _ _ _ _
        refine tri_le hle ?_
        refine tri_seq ?_
        refine tri_region (by exact tokW) (by exact gok) [] [] rfl ?_
        show Tri _ _ _ _
        refine tri_cond rfl (fun hb => ?_) (fun hb => ?_)
        · replace h := bif_t hb h
          refine tri_drawn (by exact tokW) (by exact gok) (by exact mixed) [] [] [9] rfl (by decide +kernel) ?_
          obtain ⟨y67, hy67, h⟩ := bind_out h
          refine ⟨_, ⟨_, _, hy67, rfl, rfl⟩, ?_⟩
          obtain ⟨hq, h⟩ := req_out h
          refine And.intro (Nat.le_trans hq (by decide)) ?_
          obtain ⟨⟨y68, _, b70⟩, hy68, h⟩ := bind_out h
          refine ⟨_, _, (Or.inl ⟨_, _, _, _, _, hy68, rfl, rfl, rfl, rfl⟩), ?_⟩
          have hy := Option.some.inj h
          subst hy
          unfold GivesO
          exact ⟨_, (Le.rename [(0, 0), (3, 2)] [] [(0, .box 61 (bcells (.op 0 39) (.orow 2))), (2, .row 5 1 ((List.map brow) b70))] 3 trivial ⟨rfl, ⟨_, rfl, rfl⟩, rfl, ⟨_, rfl, rfl⟩, trivial⟩ rfl rfl rfl rfl rfl), rfl, rfl, rfl, rfl, rfl, rfl, trivial⟩
        · replace h := bif_f hb h
          refine tri_skip ?_
          have hy := Option.some.inj h
          subst hy
          unfold GivesO
          exact ⟨_, (Le.rename [(0, 0), (2, 2)] [] [(0, .box 61 (bcells (.op 0 39) (.orow 2))), (2, .row 5 1 ((List.map brow) l45))] 3 trivial ⟨rfl, ⟨_, rfl, rfl⟩, rfl, ⟨_, rfl, rfl⟩, trivial⟩ rfl rfl rfl rfl rfl), rfl, rfl, rfl, rfl, rfl, rfl, trivial⟩

/- vinculum/node.Dump -/
def enc_node_open (p : (Nd × Int)) : List S := [.pt (Nd.enc p.1), .int .i64 p.2]
def R_node_Dump (n : Nat) (xs : List AV) (r : Ret) : Prop := ∃ (a0 : Nd) (y0 : List UInt8), m_node_Dump n a0 = some y0 ∧ xs = [.agg ((Nd.enc a0).map .s)] ∧ r = .val (.s (.str y0))
def S_node_Dump : PSpec := pspec fun xs r => ∃ n, R_node_Dump n xs r
set_option maxHeartbeats 8000000 in
set_option maxRecDepth 100000 in
theorem ok_node_Dump : PSound Tryd.prog 17 S_node_Dump := by
  have gok : ∀ f s, look? f [(51, S_node_kinds), (52, orS S_node_dumper_head S_node_dumper_head_v1), (53, S_strings_Builder_WriteByte), (54, S_strings_Builder_String)] = some s → PSound Tryd.prog f s := look_all (by
    simp only [List.forall_mem_cons]
    exact ⟨ok_node_kinds, (osound_or ok_node_dumper_head ok_node_dumper_head_v1), ok_strings_Builder_WriteByte, ok_strings_Builder_String, by simp⟩)
  refine psound tokW Tryd.call17 Tryd.func17 rfl (fun xs r h => by obtain ⟨n, _, _, _, rfl, _⟩ := h; show 1 ≤ 83; decide) 83 rfl ?_
  rintro xs r w0 G0 ⟨n, ⟨a1_kind, a1_text, a1_cols, a1_kids⟩, y0, h, rfl, rfl⟩ _
  rw [m_node_Dump] at h
  refine tri_seq ?_
  refine tri_region (by exact tokW) (by exact gok) [] [] rfl ?_
  show Tri _ _ _ _
  refine tri_seq ?_
  refine tri_region (by exact tokW) (by exact gok) [10] [] rfl ?_
  obtain ⟨_, hy2, h⟩ := bind_out h
  refine ⟨_, ⟨_, hy2, rfl, rfl⟩, ?_⟩
  show Tri _ _ _ _
  refine tri_le (Le.trans (Le.rename [(0, 0)] [(1, .s (.pt [.int .i64 a1_kind, .str a1_text, .int .i64 a1_cols, .sl 4 (Nd.encs a1_kids)])), (3, .op 0 0)] [(0, .box 61 (bcells (.s (.np)) (.nl 1)))] 1 ⟨rfl, rfl, trivial⟩ ⟨rfl, ⟨_, rfl, rfl⟩, trivial⟩ rfl rfl rfl rfl rfl) (Le.takeNil 0 40 5 rfl rfl (by decide))) ?_
  refine tri_seq ?_
  refine tri_region (by exact tokW) (by exact gok) [] [] rfl ?_
  obtain ⟨b3, hb3, h⟩ := bind_out h
  refine ⟨_, _, (Or.inr ⟨_, _, _, _, hb3, rfl, rfl, rfl, rfl⟩), ?_⟩
  show Tri _ _ _ _
  refine tri_seq ?_
  refine tri_region (by exact tokW) (by exact gok) [14] [] rfl ?_
  show Tri _ _ _ _
  refine tri_le (Le.rename [(0, 0), (2, 1), (3, 2)] [(3, .op 0 0), (4, .orow 2)] [(0, .box 61 (bcells (.op 0 39) (.orow 1))), (1, .row 5 1 ((List.map brow) b3)), (2, .row 65 2 ((List.map enc_node_open) [(Nd.mk a1_kind a1_text a1_cols a1_kids, 0)]))] 3 ⟨rfl, rfl, trivial⟩ ⟨rfl, ⟨_, rfl, rfl⟩, rfl, ⟨_, rfl, rfl⟩, rfl, ⟨_, rfl, congrArg (Ob.row 65 2) (by simp [List.map_append, List.map_take, List.map_drop, irow, brow, b8of_row, List.map_cons, List.map_nil, b8of_wrap, Nd.encs_eq, Nd.enc, enc_13_node_kind, enc_node_open])⟩, trivial⟩ rfl rfl rfl rfl rfl) ?_
  refine tri_seq ?_
  obtain ⟨l7, hl, h⟩ := bind_out h
  refine tri_post ⟨ofL [(3, .op 0 0)], ofH [(0, .box 61 (bcells (.op 0 39) (.orow 1))), (1, .row 5 1 ((List.map brow) l7))], 2⟩ ?_ (fun σ' hle => ?_)
  · refine tri_block (tri_loopI (X := Nat × (List UInt8) × (List (Nd × Int))) (fun y => match y with | (k, l5, l6) => ⟨ofL [(3, .op 0 0), (4, .orow 2)], ofH [(0, .box 61 (bcells (.op 0 39) (.orow 1))), (1, .row 5 1 ((List.map brow) l5)), (2, .row 65 2 ((List.map enc_node_open) l6))], 3⟩) (fun y => m_node_Dump_l1 n y.1 y.2.1 y.2.2 = some l7) (fun y => y.1) (n, b3, [(Nd.mk a1_kind a1_text a1_cols a1_kids, 0)]) hl ?_ ?_)
    · exact (Le.rename [(0, 0), (1, 1), (2, 2)] _ _ _ ⟨rfl, rfl, trivial⟩ ⟨rfl, ⟨_, rfl, rfl⟩, rfl, ⟨_, rfl, rfl⟩, rfl, ⟨_, rfl, rfl⟩, trivial⟩ rfl rfl rfl rfl rfl)
    · rintro ⟨k, l5, l6⟩ h
      cases k with
      | zero => cases h
      | succ k =>
        replace h : m_node_Dump_l1 n (k+1) l5 l6 = some l7 := h
        rw [m_node_Dump_l1] at h
        refine tri_seq ?_
        refine tri_seq ?_
        refine tri_region (by exact tokW) (by exact gok) [] [16] rfl ?_
        intro n8 hn8
        obtain rfl : (l6.length : Int) = n8 := (hn8.trans (congrArg (fun m : Nat => (m : Int)) (rlen (fun _ => rfl) l6))).symm
        show Tri _ _ _ _
        refine tri_cond rfl (fun hb => ?_) (fun hb => ?_)
        · replace h := bif_t hb h
          refine tri_skip ?_
          show Tri _ _ _ _
          refine tri_block ?_
          refine tri_seq ?_
          refine tri_region (by exact tokW) (by exact gok) [] [20] rfl ?_
          intro n9 hn9
          obtain rfl : (l6.length : Int) = n9 := (hn9.trans (congrArg (fun m : Nat => (m : Int)) (rlen (fun _ => rfl) l6))).symm
          obtain ⟨⟨⟨e10_node_kind, e10_node_text, e10_node_cols, e10_node_kids⟩, e10_kids⟩, he10, h⟩ := bind_out h
          refine And.intro (at_ok (fun _ => rfl) he10).1 ?_
          show Tri _ _ _ _
          refine tri_seq ?_
          refine tri_region (by exact tokW) (by exact gok) [] [] rfl ?_
          refine And.intro (at_ok (fun _ => rfl) he10).2.2 ?_
          refine ⟨_, (at_ok (fun _ => rfl) he10).2.1, ?_⟩
          show Tri _ _ _ _
          refine tri_seq ?_
          refine tri_seq ?_
          refine tri_region (by exact tokW) (by exact gok) [] [35] rfl ?_
          refine And.intro (at_ok (fun _ => rfl) he10).2.2 ?_
          refine ⟨_, (at_ok (fun _ => rfl) he10).2.1, ?_⟩
          intro n11 hn11
          obtain rfl : (e10_node_kids.length : Int) = n11 := (hn11.trans (congrArg (fun m : Nat => (m : Int)) (rlen Nd.encs_eq e10_node_kids))).symm
          show Tri _ _ _ _
          refine tri_cond rfl (fun hb => ?_) (fun hb => ?_)
          · replace h := bif_t hb h
            refine tri_seq ?_
            refine tri_seq ?_
            refine tri_region (by exact tokW) (by exact gok) [] [] rfl ?_
            show Tri _ _ _ _
            obtain ⟨l12, hj, h⟩ := bind_out h
            refine tri_post ⟨ofL [(3, .op 0 0), (4, .orow 2)], ofH [(0, .box 61 (bcells (.op 0 39) (.orow 1))), (1, .row 5 1 ((List.map brow) l12)), (2, .row 65 2 ((List.map enc_node_open) l6))], 3⟩ ?_ (fun σ' hle => ?_)
            · replace h := hj
              refine tri_cond rfl (fun hb => ?_) (fun hb => ?_)
              · replace h := bif_t hb h
                refine tri_region (by exact tokW) (by exact gok) [] [] rfl ?_
                obtain ⟨⟨_, b14⟩, hy13, h⟩ := bind_out h
                refine ⟨_, _, ⟨_, _, _, _, hy13, rfl, rfl, rfl, rfl⟩, ?_⟩
                cases h
                exact (Le.rename [(0, 0), (3, 1), (2, 2)] _ _ _ ⟨rfl, rfl, trivial⟩ ⟨rfl, ⟨_, rfl, rfl⟩, rfl, ⟨_, rfl, rfl⟩, rfl, ⟨_, rfl, rfl⟩, trivial⟩ rfl rfl rfl rfl rfl)
              · replace h := bif_f hb h
                refine tri_skip ?_
                cases h
                exact (Le.rename [(0, 0), (1, 1), (2, 2)] _ _ _ ⟨rfl, rfl, trivial⟩ ⟨rfl, ⟨_, rfl, rfl⟩, rfl, ⟨_, rfl, rfl⟩, rfl, ⟨_, rfl, rfl⟩, trivial⟩ rfl rfl rfl rfl rfl)
            · show Tri _ _ _ _
              refine tri_le hle ?_
              refine tri_seq ?_
              refine tri_region (by exact tokW) (by exact gok) [47] [45] rfl ?_
              intro n15 hn15
              obtain rfl : (l6.length : Int) = n15 := (hn15.trans (congrArg (fun m : Nat => (m : Int)) (rlen (fun _ => rfl) l6))).symm
              obtain ⟨hq, h⟩ := req_out h
              refine And.intro ⟨hq.1, Int.le_trans hq.2 (Int.ofNat_le.2 (Nat.le_of_eq (rlen (fun _ => rfl) _).symm))⟩ ?_
              show Tri _ _ _ _
              refine tri_le (Le.rename [(0, 0), (1, 1), (3, 2)] [(3, .op 0 0), (4, .orow 2)] [(0, .box 61 (bcells (.op 0 39) (.orow 1))), (1, .row 5 1 ((List.map brow) l12)), (2, .row 65 2 ((List.map enc_node_open) (l6.take (IntKind.i64.wrap ((l6.length : Int) - 1)).toNat)))] 3 ⟨rfl, rfl, trivial⟩ ⟨rfl, ⟨_, rfl, rfl⟩, rfl, ⟨_, rfl, rfl⟩, rfl, ⟨_, rfl, congrArg (Ob.row 65 2) (by simp [List.map_append, List.map_take, List.map_drop, irow, brow, b8of_row, List.map_cons, List.map_nil, b8of_wrap, Nd.encs_eq, Nd.enc, enc_13_node_kind, enc_node_open])⟩, trivial⟩ rfl rfl rfl rfl rfl) ?_
              refine tri_exit ?_
              refine ⟨(k, l12, l6.take (IntKind.i64.wrap ((l6.length : Int) - 1)).toNat), h, (Le.rename [(0, 0), (1, 1), (2, 2)] _ _ _ ⟨rfl, rfl, trivial⟩ ⟨rfl, ⟨_, rfl, rfl⟩, rfl, ⟨_, rfl, rfl⟩, rfl, ⟨_, rfl, rfl⟩, trivial⟩ rfl rfl rfl rfl rfl), Nat.lt_succ_self k⟩
          · replace h := bif_f hb h
            refine tri_skip ?_
            show Tri _ _ _ _
            refine tri_seq ?_
            refine tri_region (by exact tokW) (by exact gok) [] [] rfl ?_
            refine And.intro (at_ok (fun _ => rfl) he10).2.2 ?_
            refine ⟨_, (at_ok (fun _ => rfl) he10).2.1, ?_⟩
            have hset16 := (rset (R := (List.map enc_node_open)) (f := enc_node_open) (fun _ => rfl) he10 (Nd.mk e10_node_kind e10_node_text e10_node_cols e10_node_kids, IntKind.i64.wrap (e10_kids + 1)) 1 2 [.int .i64 (IntKind.i64.wrap (e10_kids + 1))] rfl)
            have hat16 := at_set he10 (Nd.mk e10_node_kind e10_node_text e10_node_cols e10_node_kids, IntKind.i64.wrap (e10_kids + 1))
            refine And.intro (at_ok (fun _ => rfl) he10).2.2 ?_
            show Tri _ _ _ _
            refine tri_seq ?_
            refine tri_region (by exact tokW) (by exact gok) [] [63] rfl ?_
            refine And.intro ((congrArg (fun r : List (List S) => (IntKind.i64.wrap ((l6.length : Int) - 1)).toNat < r.length) hset16).mpr (at_ok (fun _ => rfl) hat16).2.2) ?_
            refine ⟨_, (congrArg (fun r : List (List S) => r.getD (IntKind.i64.wrap ((l6.length : Int) - 1)).toNat []) hset16).trans (at_ok (fun _ => rfl) hat16).2.1, ?_⟩
            obtain ⟨⟨e17_kind, e17_text, e17_cols, e17_kids⟩, he17, h⟩ := bind_out h
            refine And.intro (at_ok Nd.encs_eq he17).1 ?_
            intro r18 hr18
            obtain rfl : [.int .i64 e17_kind, .str e17_text, .int .i64 e17_cols, .sl 4 (Nd.encs e17_kids)] = r18 := (hr18.trans (at_ok Nd.encs_eq he17).2.1).symm
            show Tri _ _ _ _
            refine tri_le (Le.rename [(0, 0), (1, 1), (2, 2)] [(3, .op 0 0), (4, .orow 2), (6, .s (.int .i64 e10_kids)), (7, .s (.pt [.int .i64 e17_kind, .str e17_text, .int .i64 e17_cols, .sl 4 (Nd.encs e17_kids)]))] [(0, .box 61 (bcells (.op 0 39) (.orow 1))), (1, .row 5 1 ((List.map brow) l5)), (2, .row 65 2 ((List.map enc_node_open) (l6.set (IntKind.i64.wrap ((l6.length : Int) - 1)).toNat (Nd.mk e10_node_kind e10_node_text e10_node_cols e10_node_kids, IntKind.i64.wrap (e10_kids + 1)))))] 3 ⟨rfl, rfl, rfl, rfl, trivial⟩ ⟨rfl, ⟨_, rfl, rfl⟩, rfl, ⟨_, rfl, rfl⟩, rfl, ⟨_, rfl, congrArg (Ob.row 65 2) hset16⟩, trivial⟩ rfl rfl rfl rfl rfl) ?_
            refine tri_seq ?_
            refine tri_drawn (by exact tokW) (by exact gok) (by exact mixed) [] [69] [6] rfl (by decide +kernel) ?_
            obtain ⟨c19, hc19, h⟩ := bind_out h
            refine And.intro (str_ok hc19).1 ?_
            intro v20 hv20
            obtain rfl : (c19.toNat : Int) = v20 := (hv20.trans (str_ok hc19).2).symm
            obtain ⟨⟨_, b22⟩, hy21, h⟩ := bind_out h
            refine ⟨_, _, ⟨_, _, _, _, hy21, rfl, rfl, rfl, rfl⟩, ?_⟩
            show Tri _ _ _ _
            refine tri_seq ?_
            refine tri_region (by exact tokW) (by exact gok) [] [] rfl ?_
            obtain ⟨b23, hb23, h⟩ := bind_out h
            refine ⟨_, _, (Or.inl ⟨_, _, _, _, hb23, rfl, rfl, rfl, rfl⟩), ?_⟩
            show Tri _ _ _ _
            refine tri_region (by exact tokW) (by exact gok) [78] [77] rfl ?_
            intro r24 hr24
            obtain rfl : (List.map enc_node_open) [(Nd.mk e17_kind e17_text e17_cols e17_kids, 0)] = r24 := (hr24.trans (by simp [List.map_append, List.map_take, List.map_drop, irow, brow, b8of_row, List.map_cons, List.map_nil, b8of_wrap, Nd.encs_eq, Nd.enc, enc_13_node_kind, enc_node_open])).symm
            obtain ⟨hq, h⟩ := req_out h
            refine And.intro (show (((List.map enc_node_open) (l6.set (IntKind.i64.wrap ((l6.length : Int) - 1)).toNat (Nd.mk e10_node_kind e10_node_text e10_node_cols e10_node_kids, IntKind.i64.wrap (e10_kids + 1)))).length + ((List.map enc_node_open) [(Nd.mk e17_kind e17_text e17_cols e17_kids, 0)]).length) * 16 ≤ 140737488355328 ∧ ((List.map enc_node_open) (l6.set (IntKind.i64.wrap ((l6.length : Int) - 1)).toNat (Nd.mk e10_node_kind e10_node_text e10_node_cols e10_node_kids, IntKind.i64.wrap (e10_kids + 1)))).length + ((List.map enc_node_open) [(Nd.mk e17_kind e17_text e17_cols e17_kids, 0)]).length ≤ 9223372036854775807 from by simp only [List.length_append, List.length_cons, List.length_nil, List.length_map, rlen (fun _ => rfl)] at hq ⊢; omega) ?_
            refine ⟨(k, b23, (l6.set (IntKind.i64.wrap ((l6.length : Int) - 1)).toNat (Nd.mk e10_node_kind e10_node_text e10_node_cols e10_node_kids, IntKind.i64.wrap (e10_kids + 1))) ++ [(Nd.mk e17_kind e17_text e17_cols e17_kids, 0)]), h, (Le.trans (Le.rename [(0, 0), (4, 1), (5, 2)] [(3, .op 0 0), (4, .orow 2)] [(0, .box 61 (bcells (.op 0 39) (.orow 1))), (1, .row 5 1 ((List.map brow) b23)), (2, .row 65 2 ((List.map enc_node_open) ((l6.set (IntKind.i64.wrap ((l6.length : Int) - 1)).toNat (Nd.mk e10_node_kind e10_node_text e10_node_cols e10_node_kids, IntKind.i64.wrap (e10_kids + 1))) ++ [(Nd.mk e17_kind e17_text e17_cols e17_kids, 0)])))] 3 ⟨rfl, rfl, trivial⟩ ⟨rfl, ⟨_, rfl, rfl⟩, rfl, ⟨_, rfl, rfl⟩, rfl, ⟨_, rfl, congrArg (Ob.row 65 2) (by simp [List.map_append, List.map_take, List.map_drop, irow, brow, b8of_row, List.map_cons, List.map_nil, b8of_wrap, Nd.encs_eq, Nd.enc, enc_13_node_kind, enc_node_open])⟩, trivial⟩ rfl rfl rfl rfl rfl) (Le.rename [(0, 0), (1, 1), (2, 2)] _ _ _ ⟨rfl, rfl, trivial⟩ ⟨rfl, ⟨_, rfl, rfl⟩, rfl, ⟨_, rfl, rfl⟩, rfl, ⟨_, rfl, rfl⟩, trivial⟩ rfl rfl rfl rfl rfl)), Nat.lt_succ_self k⟩
        · replace h := bif_f hb h
          refine tri_exit ?_
          cases h
          exact (Le.rename [(0, 0), (1, 1)] _ _ _ ⟨rfl, trivial⟩ ⟨rfl, ⟨_, rfl, rfl⟩, rfl, ⟨_, rfl, rfl⟩, trivial⟩ rfl rfl rfl rfl rfl)
  · show Tri _ _ _ _
    refine tri_le hle ?_
    refine tri_seq ?_
    refine tri_region (by exact tokW) (by exact gok) [] [] rfl ?_
    obtain ⟨y25, hy25, h⟩ := bind_out h
    refine ⟨_, _, ⟨_, _, hy25, rfl, rfl, rfl, rfl⟩, ?_⟩
    show Tri _ _ _ _
    refine tri_ret ?_
    have hy := Option.some.inj h
    subst hy
    unfold Gives
    exact ⟨_, Le.refl _ _, rfl, rfl⟩

end Go.Proofs.YtefbmooajknmgaaDoor
