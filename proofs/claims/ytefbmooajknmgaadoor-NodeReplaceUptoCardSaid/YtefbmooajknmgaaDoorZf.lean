/-
  Joined out of: NdV, LibG, LibH, LibW, NdX, PTyp9, PPath, PCnt, PByte, PText, PVal, PDist.
-/
import Derived.Test.YtefbmooajknmgaaDoorZe
set_option linter.unusedVariables false
set_option linter.unusedSimpArgs false
namespace Go.Proofs.YtefbmooajknmgaaDoor
open Go.Abs
def R_r09_Letter (xs : List AV) (r : Ret) : Prop := ∃ (a0 : Int) (y0 : Bool), m_r09_Letter a0 = some y0 ∧ xs = [.s (.int .u8 a0)] ∧ r = .val (.s (.bool y0))
def S_r09_Letter : PSpec := pspec fun xs r => R_r09_Letter xs r
set_option maxHeartbeats 2000000 in
set_option maxRecDepth 100000 in
theorem ok_r09_Letter : PSound Tryd.prog 44 S_r09_Letter := by
  have gok : ∀ (f : Nat) (s : PSpec), (fun _ => none : Nat → Option PSpec) f = some s → PSound Tryd.prog f s := fun _ _ h => by cases h
  refine psound tokW Tryd.call44 Tryd.func44 rfl (fun xs r h => by obtain ⟨_, _, _, rfl, _⟩ := h; show 1 ≤ 17; decide) 17 rfl ?_
  rintro xs r w0 G0 ⟨c1, y0, h, rfl, rfl⟩ _
  rw [m_r09_Letter] at h
  refine tri_seq ?_
  refine tri_region (by exact tokW) (by exact gok) [] [] rfl ?_
  show Tri _ _ _ _
  refine tri_seq ?_
  obtain ⟨x2, hj, h⟩ := bind_out h
  refine tri_post ⟨ofL [(2, .s (.bool x2))], fun _ => none, 0⟩ ?_ (fun σ' hle => ?_)
  · replace h := hj
    refine tri_region (by exact tokW) (by exact gok) [] [5, 9, 12] rfl ?_
    intro b hb
    cases b with
    | true =>
      replace h := bif_t hb.symm h
      intro b hb
      cases b with
      | true =>
        replace h := bif_t hb.symm h
        cases h
        exact (Le.forget _ ⟨rfl, trivial⟩)
      | false =>
        replace h := bif_f hb.symm h
        intro b hb
        cases b with
        | true =>
          replace h := bif_t hb.symm h
          cases h
          exact (Le.forget _ ⟨rfl, trivial⟩)
        | false =>
          replace h := bif_f hb.symm h
          cases h
          exact (Le.forget _ ⟨rfl, trivial⟩)
    | false =>
      replace h := bif_f hb.symm h
      intro b hb
      subst hb
      intro b hb
      cases b with
      | true =>
        replace h := bif_t hb.symm h
        cases h
        exact (Le.forget _ ⟨rfl, trivial⟩)
      | false =>
        replace h := bif_f hb.symm h
        cases h
        exact (Le.forget _ ⟨rfl, trivial⟩)
  · show Tri _ _ _ _
    refine tri_le hle ?_
    refine tri_ret ?_
    have hy := Option.some.inj h
    subst hy
    unfold Gives
    exact ⟨_, Le.refl _ _, rfl, rfl⟩
def R_r09_has (n : Nat) (xs : List AV) (r : Ret) : Prop := ∃ (a0 : List UInt8) (a1 : Int) (y0 : Bool), m_r09_has n a0 a1 = some y0 ∧ xs = [.s (.str a0), .s (.int .u8 a1)] ∧ r = .val (.s (.bool y0))
def S_r09_has : PSpec := pspec fun xs r => ∃ n, R_r09_has n xs r
set_option maxHeartbeats 2000000 in
set_option maxRecDepth 100000 in
theorem ok_r09_has : PSound Tryd.prog 71 S_r09_has := by
  have gok : ∀ (f : Nat) (s : PSpec), (fun _ => none : Nat → Option PSpec) f = some s → PSound Tryd.prog f s := fun _ _ h => by cases h
  refine psound tokW Tryd.call71 Tryd.func71 rfl (fun xs r h => by obtain ⟨n, _, _, _, _, rfl, _⟩ := h; show 2 ≤ 17; decide) 17 rfl ?_
  rintro xs r w0 G0 ⟨n, s1, c2, y0, h, rfl, rfl⟩ _
  rw [m_r09_has] at h
  refine tri_seq ?_
  refine tri_region (by exact tokW) (by exact gok) [] [] rfl ?_
  show Tri _ _ _ _
  refine tri_seq ?_
  refine tri_seq ?_
  refine tri_region (by exact tokW) (by exact gok) [] [] rfl ?_
  show Tri _ _ _ _
  obtain ⟨fl, hl, ho1⟩ := bind_out h
  refine tri_fl (fl := fl) (fun z => match z with | _ => ⟨ofL [], fun _ => none, 0⟩) ?_ (fun z σ' hz hle => ?_)
  · refine tri_block (tri_loopI (X := Nat × Int) (fun y => match y with | (k, i3) => ⟨ofL [(0, .s (.str s1)), (1, .s (.int .u8 c2)), (5, .s (.int .i64 i3))], fun _ => none, 0⟩) (fun y => m_r09_has_l1 s1 c2 y.1 y.2 = some fl) (fun y => y.1) (n, 0) hl ?_ ?_)
    · exact (Le.forget _ ⟨rfl, rfl, rfl, trivial⟩)
    · rintro ⟨k, i3⟩ h
      cases k with
      | zero => cases h
      | succ k =>
        replace h : m_r09_has_l1 s1 c2 (k+1) i3 = some fl := h
        rw [m_r09_has_l1] at h
        refine tri_seq ?_
        refine tri_seq ?_
        refine tri_region (by exact tokW) (by exact gok) [] [] rfl ?_
        show Tri _ _ _ _
        refine tri_cond rfl (fun hb => ?_) (fun hb => ?_)
        · replace h := bif_t hb h
          refine tri_skip ?_
          show Tri _ _ _ _
          refine tri_seq ?_
          refine tri_block ?_
          refine tri_seq ?_
          refine tri_region (by exact tokW) (by exact gok) [] [14] rfl ?_
          obtain ⟨c4, hc4, h⟩ := bind_out h
          refine And.intro (str_ok hc4).1 ?_
          intro v5 hv5
          obtain rfl : (c4.toNat : Int) = v5 := (hv5.trans (str_ok hc4).2).symm
          show Tri _ _ _ _
          refine tri_cond rfl (fun hb => ?_) (fun hb => ?_)
          · replace h := bif_t hb h
            refine tri_seq ?_
            refine tri_region (by exact tokW) (by exact gok) [] [] rfl ?_
            show Tri _ _ _ _
            refine tri_ret ?_
            cases h
            replace h : some _ = some _ := ho1
            have hy := Option.some.inj h
            subst hy
            unfold Gives
            exact ⟨_, Le.refl _ _, rfl, rfl⟩
          · replace h := bif_f hb h
            refine tri_skip ?_
            show Tri _ _ _ _
            refine tri_region (by exact tokW) (by exact gok) [] [] rfl ?_
            refine ⟨(k, IntKind.i64.wrap (i3 + 1)), h, (Le.forget _ ⟨rfl, rfl, rfl, trivial⟩), Nat.lt_succ_self k⟩
        · replace h := bif_f hb h
          refine tri_exit ?_
          cases h
          exact ⟨_, rfl, (Le.forget _ trivial)⟩
  · subst hz
    obtain _ := z
    replace h := ho1
    show Tri _ _ _ _
    refine tri_le hle ?_
    refine tri_seq ?_
    refine tri_region (by exact tokW) (by exact gok) [] [] rfl ?_
    show Tri _ _ _ _
    refine tri_ret ?_
    have hy := Option.some.inj h
    subst hy
    unfold Gives
    exact ⟨_, Le.refl _ _, rfl, rfl⟩
def R_r09_Character (n : Nat) (xs : List AV) (r : Ret) : Prop := ∃ (a0 : Int) (y0 : Bool), m_r09_Character n a0 = some y0 ∧ xs = [.s (.int .u8 a0)] ∧ r = .val (.s (.bool y0))
def S_r09_Character : PSpec := pspec fun xs r => ∃ n, R_r09_Character n xs r
set_option maxHeartbeats 2000000 in
set_option maxRecDepth 100000 in
theorem ok_r09_Character : PSound Tryd.prog 43 S_r09_Character := by
  have gok : ∀ f s, look? f [(44, S_r09_Letter), (71, S_r09_has)] = some s → PSound Tryd.prog f s := look_all (by
    simp only [List.forall_mem_cons]
    exact ⟨ok_r09_Letter, ok_r09_has, by simp⟩)
  refine psound tokW Tryd.call43 Tryd.func43 rfl (fun xs r h => by obtain ⟨n, _, _, _, rfl, _⟩ := h; show 1 ≤ 9; decide) 9 rfl ?_
  rintro xs r w0 G0 ⟨n, c1, y0, h, rfl, rfl⟩ _
  rw [m_r09_Character] at h
  refine tri_seq ?_
  refine tri_region (by exact tokW) (by exact gok) [] [] rfl ?_
  show Tri _ _ _ _
  refine tri_seq ?_
  obtain ⟨x2, hj, h⟩ := bind_out h
  refine tri_post ⟨ofL [(2, .s (.bool x2))], fun _ => none, 0⟩ ?_ (fun σ' hle => ?_)
  · replace h := hj
    refine tri_region (by exact tokW) (by exact gok) [] [5] rfl ?_
    obtain ⟨y3, hy3, h⟩ := bind_out h
    refine ⟨_, ⟨_, _, hy3, rfl, rfl⟩, ?_⟩
    intro b hb
    cases b with
    | true =>
      replace h := bif_t hb.symm h
      cases h
      exact (Le.forget _ ⟨rfl, trivial⟩)
    | false =>
      replace h := bif_f hb.symm h
      obtain ⟨y4, hy4, h⟩ := bind_out h
      refine ⟨_, ⟨_, _, _, _, hy4, rfl, rfl⟩, ?_⟩
      cases h
      exact (Le.forget _ ⟨rfl, trivial⟩)
  · show Tri _ _ _ _
    refine tri_le hle ?_
    refine tri_ret ?_
    have hy := Option.some.inj h
    subst hy
    unfold Gives
    exact ⟨_, Le.refl _ _, rfl, rfl⟩
def enc_string (p : List UInt8) : List S := [.str p]
def R_r09_Keywords (xs : List AV) (r : Ret) : Prop := ∃ (y0 : List (List UInt8)), m_r09_Keywords = some y0 ∧ xs = [] ∧ r = .val (.s (.sl 1 ((List.map enc_string) y0)))
def S_r09_Keywords : PSpec := pspec fun xs r => R_r09_Keywords xs r
set_option maxHeartbeats 2000000 in
set_option maxRecDepth 100000 in
theorem ok_r09_Keywords : PSound Tryd.prog 46 S_r09_Keywords := by
  have gok : ∀ (f : Nat) (s : PSpec), (fun _ => none : Nat → Option PSpec) f = some s → PSound Tryd.prog f s := fun _ _ h => by cases h
  refine psound tokW Tryd.call46 Tryd.func46 rfl (fun xs r h => by obtain ⟨_, _, rfl, _⟩ := h; show 0 ≤ 2; decide) 2 rfl ?_
  rintro xs r w0 G0 ⟨y0, h, rfl, rfl⟩ _
  rw [m_r09_Keywords] at h
  refine tri_seq ?_
  refine tri_region (by exact tokW) (by exact gok) [] [] rfl ?_
  show Tri _ _ _ _
  refine tri_seq ?_
  refine tri_region (by exact tokW) (by exact gok) [] [1] rfl ?_
  intro r1 hr1
  obtain rfl : (List.map enc_string) [[102, 114, 97, 99], [114, 111, 111, 116], [109, 97, 116, 114, 105, 120], [102, 101, 110, 99, 101]] = r1 := (hr1.trans (by simp [List.map_append, List.map_take, List.map_drop, irow, brow, b8of_row, List.map_cons, List.map_nil, b8of_wrap, Nd.encs_eq, Nd.enc, enc_string])).symm
  show Tri _ _ _ _
  refine tri_ret ?_
  have hy := Option.some.inj h
  subst hy
  unfold Gives
  exact ⟨_, Le.refl _ _, rfl, rfl⟩
def R_r09_In (n : Nat) (xs : List AV) (r : Ret) : Prop := ∃ (a0 : List (List UInt8)) (a1 : List UInt8) (y0 : Bool), m_r09_In n a0 a1 = some y0 ∧ xs = [.s (.sl 1 ((List.map enc_string) a0)), .s (.str a1)] ∧ r = .val (.s (.bool y0))
def S_r09_In : PSpec := pspec fun xs r => ∃ n, R_r09_In n xs r
set_option maxHeartbeats 2000000 in
set_option maxRecDepth 100000 in
theorem ok_r09_In : PSound Tryd.prog 45 S_r09_In := by
  have gok : ∀ (f : Nat) (s : PSpec), (fun _ => none : Nat → Option PSpec) f = some s → PSound Tryd.prog f s := fun _ _ h => by cases h
  refine psound tokW Tryd.call45 Tryd.func45 rfl (fun xs r h => by obtain ⟨n, _, _, _, _, rfl, _⟩ := h; show 2 ≤ 18; decide) 18 rfl ?_
  rintro xs r w0 G0 ⟨n, l1, s2, y0, h, rfl, rfl⟩ _
  rw [m_r09_In] at h
  refine tri_seq ?_
  refine tri_region (by exact tokW) (by exact gok) [] [] rfl ?_
  show Tri _ _ _ _
  refine tri_seq ?_
  refine tri_seq ?_
  refine tri_region (by exact tokW) (by exact gok) [] [] rfl ?_
  show Tri _ _ _ _
  obtain ⟨fl, hl, ho1⟩ := bind_out h
  refine tri_fl (fl := fl) (fun z => match z with | _ => ⟨ofL [], fun _ => none, 0⟩) ?_ (fun z σ' hz hle => ?_)
  · refine tri_block (tri_loopI (X := Nat × Int) (fun y => match y with | (k, i3) => ⟨ofL [(0, .s (.sl 1 ((List.map enc_string) l1))), (1, .s (.str s2)), (5, .s (.int .i64 i3))], fun _ => none, 0⟩) (fun y => m_r09_In_l1 l1 s2 y.1 y.2 = some fl) (fun y => y.1) (n, 0) hl ?_ ?_)
    · exact (Le.forget _ ⟨rfl, rfl, rfl, trivial⟩)
    · rintro ⟨k, i3⟩ h
      cases k with
      | zero => cases h
      | succ k =>
        replace h : m_r09_In_l1 l1 s2 (k+1) i3 = some fl := h
        rw [m_r09_In_l1] at h
        refine tri_seq ?_
        refine tri_seq ?_
        refine tri_region (by exact tokW) (by exact gok) [] [8] rfl ?_
        intro n4 hn4
        obtain rfl : (l1.length : Int) = n4 := (hn4.trans (congrArg (fun m : Nat => (m : Int)) (rlen (fun _ => rfl) l1))).symm
        show Tri _ _ _ _
        refine tri_cond rfl (fun hb => ?_) (fun hb => ?_)
        · replace h := bif_t hb h
          refine tri_skip ?_
          show Tri _ _ _ _
          refine tri_seq ?_
          refine tri_block ?_
          refine tri_seq ?_
          refine tri_region (by exact tokW) (by exact gok) [] [14] rfl ?_
          obtain ⟨e5, he5, h⟩ := bind_out h
          refine And.intro (at_ok (fun _ => rfl) he5).1 ?_
          intro r6 hr6
          obtain rfl : [.str e5] = r6 := (hr6.trans (at_ok (fun _ => rfl) he5).2.1).symm
          show Tri _ _ _ _
          refine tri_cond rfl (fun hb => ?_) (fun hb => ?_)
          · replace h := bif_t hb h
            refine tri_seq ?_
            refine tri_region (by exact tokW) (by exact gok) [] [] rfl ?_
            show Tri _ _ _ _
            refine tri_ret ?_
            cases h
            replace h : some _ = some _ := ho1
            have hy := Option.some.inj h
            subst hy
            unfold Gives
            exact ⟨_, Le.refl _ _, rfl, rfl⟩
          · replace h := bif_f hb h
            refine tri_skip ?_
            show Tri _ _ _ _
            refine tri_region (by exact tokW) (by exact gok) [] [] rfl ?_
            refine ⟨(k, IntKind.i64.wrap (i3 + 1)), h, (Le.forget _ ⟨rfl, rfl, rfl, trivial⟩), Nat.lt_succ_self k⟩
        · replace h := bif_f hb h
          refine tri_exit ?_
          cases h
          exact ⟨_, rfl, (Le.forget _ trivial)⟩
  · subst hz
    obtain _ := z
    replace h := ho1
    show Tri _ _ _ _
    refine tri_le hle ?_
    refine tri_seq ?_
    refine tri_region (by exact tokW) (by exact gok) [] [] rfl ?_
    show Tri _ _ _ _
    refine tri_ret ?_
    have hy := Option.some.inj h
    subst hy
    unfold Gives
    exact ⟨_, Le.refl _ _, rfl, rfl⟩
def R_r09_Accents (xs : List AV) (r : Ret) : Prop := ∃ (y0 : List (List UInt8)), m_r09_Accents = some y0 ∧ xs = [] ∧ r = .val (.s (.sl 1 ((List.map enc_string) y0)))
def S_r09_Accents : PSpec := pspec fun xs r => R_r09_Accents xs r
set_option maxHeartbeats 2000000 in
set_option maxRecDepth 100000 in
theorem ok_r09_Accents : PSound Tryd.prog 47 S_r09_Accents := by
  have gok : ∀ (f : Nat) (s : PSpec), (fun _ => none : Nat → Option PSpec) f = some s → PSound Tryd.prog f s := fun _ _ h => by cases h
  refine psound tokW Tryd.call47 Tryd.func47 rfl (fun xs r h => by obtain ⟨_, _, rfl, _⟩ := h; show 0 ≤ 2; decide) 2 rfl ?_
  rintro xs r w0 G0 ⟨y0, h, rfl, rfl⟩ _
  rw [m_r09_Accents] at h
  refine tri_seq ?_
  refine tri_region (by exact tokW) (by exact gok) [] [] rfl ?_
  show Tri _ _ _ _
  refine tri_seq ?_
  refine tri_region (by exact tokW) (by exact gok) [] [1] rfl ?_
  intro r1 hr1
  obtain rfl : (List.map enc_string) [[104, 97, 116], [98, 97, 114], [118, 101, 99], [100, 111, 116], [116, 105, 108, 100, 101], [99, 104, 101, 99, 107]] = r1 := (hr1.trans (by simp [List.map_append, List.map_take, List.map_drop, irow, brow, b8of_row, List.map_cons, List.map_nil, b8of_wrap, Nd.encs_eq, Nd.enc, enc_string])).symm
  show Tri _ _ _ _
  refine tri_ret ?_
  have hy := Option.some.inj h
  subst hy
  unfold Gives
  exact ⟨_, Le.refl _ _, rfl, rfl⟩
def R_r09_Symbol (n : Nat) (xs : List AV) (r : Ret) : Prop := ∃ (a0 : List UInt8) (y0 : Bool), m_r09_Symbol n a0 = some y0 ∧ xs = [.s (.str a0)] ∧ r = .val (.s (.bool y0))
def S_r09_Symbol : PSpec := pspec fun xs r => ∃ n, R_r09_Symbol n xs r
set_option maxHeartbeats 2000000 in
set_option maxRecDepth 100000 in
theorem ok_r09_Symbol : PSound Tryd.prog 13 S_r09_Symbol := by
  have gok : ∀ f s, look? f [(43, S_r09_Character), (44, S_r09_Letter), (46, S_r09_Keywords), (45, S_r09_In), (47, S_r09_Accents)] = some s → PSound Tryd.prog f s := look_all (by
    simp only [List.forall_mem_cons]
    exact ⟨ok_r09_Character, ok_r09_Letter, ok_r09_Keywords, ok_r09_In, ok_r09_Accents, by simp⟩)
  refine psound tokW Tryd.call13 Tryd.func13 rfl (fun xs r h => by obtain ⟨n, _, _, _, rfl, _⟩ := h; show 1 ≤ 41; decide) 41 rfl ?_
  rintro xs r w0 G0 ⟨n, s1, y0, h, rfl, rfl⟩ _
  rw [m_r09_Symbol] at h
  refine tri_seq ?_
  refine tri_region (by exact tokW) (by exact gok) [] [] rfl ?_
  show Tri _ _ _ _
  refine tri_seq ?_
  refine tri_seq ?_
  refine tri_region (by exact tokW) (by exact gok) [] [] rfl ?_
  show Tri _ _ _ _
  refine tri_cond rfl (fun hb => ?_) (fun hb => ?_)
  · replace h := bif_t hb h
    refine tri_seq ?_
    refine tri_region (by exact tokW) (by exact gok) [] [8] rfl ?_
    obtain ⟨c2, hc2, h⟩ := bind_out h
    refine And.intro (str_ok hc2).1 ?_
    intro v3 hv3
    obtain rfl : (c2.toNat : Int) = v3 := (hv3.trans (str_ok hc2).2).symm
    obtain ⟨y4, hy4, h⟩ := bind_out h
    refine ⟨_, ⟨_, _, _, hy4, rfl, rfl⟩, ?_⟩
    show Tri _ _ _ _
    refine tri_ret ?_
    have hy := Option.some.inj h
    subst hy
    unfold Gives
    exact ⟨_, Le.refl _ _, rfl, rfl⟩
  · replace h := bif_f hb h
    refine tri_skip ?_
    show Tri _ _ _ _
    refine tri_seq ?_
    refine tri_seq ?_
    refine tri_region (by exact tokW) (by exact gok) [] [] rfl ?_
    show Tri _ _ _ _
    obtain ⟨fl, hl, ho1⟩ := bind_out h
    refine tri_fl (fl := fl) (fun z => match z with | _ => ⟨ofL [(0, .s (.str s1))], fun _ => none, 0⟩) ?_ (fun z σ' hz hle => ?_)
    · refine tri_block (tri_loopI (X := Nat × Int) (fun y => match y with | (k, i5) => ⟨ofL [(0, .s (.str s1)), (3, .s (.int .i64 i5))], fun _ => none, 0⟩) (fun y => m_r09_Symbol_l1 s1 y.1 y.2 = some fl) (fun y => y.1) (n, 0) hl ?_ ?_)
      · exact (Le.forget _ ⟨rfl, rfl, trivial⟩)
      · rintro ⟨k, i5⟩ h
        cases k with
        | zero => cases h
        | succ k =>
          replace h : m_r09_Symbol_l1 s1 (k+1) i5 = some fl := h
          rw [m_r09_Symbol_l1] at h
          refine tri_seq ?_
          refine tri_seq ?_
          refine tri_region (by exact tokW) (by exact gok) [] [] rfl ?_
          show Tri _ _ _ _
          refine tri_cond rfl (fun hb => ?_) (fun hb => ?_)
          · replace h := bif_t hb h
            refine tri_skip ?_
            show Tri _ _ _ _
            refine tri_seq ?_
            refine tri_block ?_
            refine tri_seq ?_
            refine tri_region (by exact tokW) (by exact gok) [] [18] rfl ?_
            obtain ⟨c6, hc6, h⟩ := bind_out h
            refine And.intro (str_ok hc6).1 ?_
            intro v7 hv7
            obtain rfl : (c6.toNat : Int) = v7 := (hv7.trans (str_ok hc6).2).symm
            obtain ⟨y8, hy8, h⟩ := bind_out h
            refine ⟨_, ⟨_, _, hy8, rfl, rfl⟩, ?_⟩
            show Tri _ _ _ _
            refine tri_cond rfl (fun hb => ?_) (fun hb => ?_)
            · replace h := bif_t hb h
              refine tri_seq ?_
              refine tri_region (by exact tokW) (by exact gok) [] [] rfl ?_
              show Tri _ _ _ _
              refine tri_ret ?_
              cases h
              replace h : some _ = some _ := ho1
              have hy := Option.some.inj h
              subst hy
              unfold Gives
              exact ⟨_, Le.refl _ _, rfl, rfl⟩
            · replace h := bif_f hb h
              refine tri_skip ?_
              show Tri _ _ _ _
              refine tri_region (by exact tokW) (by exact gok) [] [] rfl ?_
              refine ⟨(k, IntKind.i64.wrap (i5 + 1)), h, (Le.forget _ ⟨rfl, rfl, trivial⟩), Nat.lt_succ_self k⟩
          · replace h := bif_f hb h
            refine tri_exit ?_
            cases h
            exact ⟨_, rfl, (Le.forget _ ⟨rfl, trivial⟩)⟩
    · subst hz
      obtain _ := z
      replace h := ho1
      show Tri _ _ _ _
      refine tri_le hle ?_
      refine tri_seq ?_
      obtain ⟨x9, hj, h⟩ := bind_out h
      refine tri_post ⟨ofL [(2, .s (.bool x9))], fun _ => none, 0⟩ ?_ (fun σ' hle => ?_)
      · replace h := hj
        refine tri_region (by exact tokW) (by exact gok) [] [24, 29, 35] rfl ?_
        intro b hb
        cases b with
        | true =>
          replace h := bif_t hb.symm h
          intro b hb
          cases b with
          | true =>
            replace h := bif_t hb.symm h
            obtain ⟨y10, hy10, h⟩ := bind_out h
            refine ⟨_, ⟨_, hy10, rfl, rfl⟩, ?_⟩
            obtain ⟨y11, hy11, h⟩ := bind_out h
            refine ⟨_, ⟨_, _, _, _, hy11, rfl, rfl⟩, ?_⟩
            intro b hb
            cases b with
            | true =>
              replace h := bif_t hb.symm h
              obtain ⟨y12, hy12, h⟩ := bind_out h
              refine ⟨_, ⟨_, hy12, rfl, rfl⟩, ?_⟩
              obtain ⟨y13, hy13, h⟩ := bind_out h
              refine ⟨_, ⟨_, _, _, _, hy13, rfl, rfl⟩, ?_⟩
              cases h
              exact (Le.forget _ ⟨rfl, trivial⟩)
            | false =>
              replace h := bif_f hb.symm h
              cases h
              exact (Le.forget _ ⟨rfl, trivial⟩)
          | false =>
            replace h := bif_f hb.symm h
            intro b hb
            subst hb
            cases h
            exact (Le.forget _ ⟨rfl, trivial⟩)
        | false =>
          replace h := bif_f hb.symm h
          intro b hb
          subst hb
          intro b hb
          subst hb
          cases h
          exact (Le.forget _ ⟨rfl, trivial⟩)
      · show Tri _ _ _ _
        refine tri_le hle ?_
        refine tri_ret ?_
        have hy := Option.some.inj h
        subst hy
        unfold Gives
        exact ⟨_, Le.refl _ _, rfl, rfl⟩
def R_r09_Digit (xs : List AV) (r : Ret) : Prop := ∃ (a0 : Int) (y0 : Bool), m_r09_Digit a0 = some y0 ∧ xs = [.s (.int .u8 a0)] ∧ r = .val (.s (.bool y0))
def S_r09_Digit : PSpec := pspec fun xs r => R_r09_Digit xs r
set_option maxHeartbeats 2000000 in
set_option maxRecDepth 100000 in
theorem ok_r09_Digit : PSound Tryd.prog 50 S_r09_Digit := by
  have gok : ∀ (f : Nat) (s : PSpec), (fun _ => none : Nat → Option PSpec) f = some s → PSound Tryd.prog f s := fun _ _ h => by cases h
  refine psound tokW Tryd.call50 Tryd.func50 rfl (fun xs r h => by obtain ⟨_, _, _, rfl, _⟩ := h; show 1 ≤ 9; decide) 9 rfl ?_
  rintro xs r w0 G0 ⟨c1, y0, h, rfl, rfl⟩ _
  rw [m_r09_Digit] at h
  refine tri_seq ?_
  refine tri_region (by exact tokW) (by exact gok) [] [] rfl ?_
  show Tri _ _ _ _
  refine tri_seq ?_
  obtain ⟨x2, hj, h⟩ := bind_out h
  refine tri_post ⟨ofL [(2, .s (.bool x2))], fun _ => none, 0⟩ ?_ (fun σ' hle => ?_)
  · replace h := hj
    refine tri_region (by exact tokW) (by exact gok) [] [5] rfl ?_
    intro b hb
    cases b with
    | true =>
      replace h := bif_t hb.symm h
      cases h
      exact (Le.forget _ ⟨rfl, trivial⟩)
    | false =>
      replace h := bif_f hb.symm h
      cases h
      exact (Le.forget _ ⟨rfl, trivial⟩)
  · show Tri _ _ _ _
    refine tri_le hle ?_
    refine tri_ret ?_
    have hy := Option.some.inj h
    subst hy
    unfold Gives
    exact ⟨_, Le.refl _ _, rfl, rfl⟩
def R_r09_Number (n : Nat) (xs : List AV) (r : Ret) : Prop := ∃ (a0 : List UInt8) (y0 : Bool), m_r09_Number n a0 = some y0 ∧ xs = [.s (.str a0)] ∧ r = .val (.s (.bool y0))
def S_r09_Number : PSpec := pspec fun xs r => ∃ n, R_r09_Number n xs r
set_option maxHeartbeats 2000000 in
set_option maxRecDepth 100000 in
theorem ok_r09_Number : PSound Tryd.prog 15 S_r09_Number := by
  have gok : ∀ f s, look? f [(50, S_r09_Digit)] = some s → PSound Tryd.prog f s := look_all (by
    simp only [List.forall_mem_cons]
    exact ⟨ok_r09_Digit, by simp⟩)
  refine psound tokW Tryd.call15 Tryd.func15 rfl (fun xs r h => by obtain ⟨n, _, _, _, rfl, _⟩ := h; show 1 ≤ 45; decide) 45 rfl ?_
  rintro xs r w0 G0 ⟨n, s1, y0, h, rfl, rfl⟩ _
  rw [m_r09_Number] at h
  refine tri_seq ?_
  refine tri_region (by exact tokW) (by exact gok) [] [] rfl ?_
  show Tri _ _ _ _
  refine tri_seq ?_
  refine tri_region (by exact tokW) (by exact gok) [] [] rfl ?_
  show Tri _ _ _ _
  refine tri_seq ?_
  refine tri_seq ?_
  refine tri_region (by exact tokW) (by exact gok) [] [] rfl ?_
  show Tri _ _ _ _
  obtain ⟨fl, hl, ho1⟩ := bind_out h
  refine tri_fl (fl := fl) (fun z => match z with | points4 => ⟨ofL [(0, .s (.str s1)), (3, .s (.int .i64 points4))], fun _ => none, 0⟩) ?_ (fun points4 σ' hz hle => ?_)
  · refine tri_block (tri_loopI (X := Nat × Int × Int) (fun y => match y with | (k, points2, i3) => ⟨ofL [(0, .s (.str s1)), (3, .s (.int .i64 points2)), (4, .s (.int .i64 i3))], fun _ => none, 0⟩) (fun y => m_r09_Number_l1 s1 y.1 y.2.1 y.2.2 = some fl) (fun y => y.1) (n, 0, 0) hl ?_ ?_)
    · exact (Le.forget _ ⟨rfl, rfl, rfl, trivial⟩)
    · rintro ⟨k, points2, i3⟩ h
      cases k with
      | zero => cases h
      | succ k =>
        replace h : m_r09_Number_l1 s1 (k+1) points2 i3 = some fl := h
        rw [m_r09_Number_l1] at h
        refine tri_seq ?_
        refine tri_seq ?_
        refine tri_region (by exact tokW) (by exact gok) [] [] rfl ?_
        show Tri _ _ _ _
        refine tri_cond rfl (fun hb => ?_) (fun hb => ?_)
        · replace h := bif_t hb h
          refine tri_skip ?_
          show Tri _ _ _ _
          refine tri_seq ?_
          obtain ⟨fl, hj, ho2⟩ := bind_out h
          refine tri_fl (fl := fl) (fun z => match z with | points5 => ⟨ofL [(0, .s (.str s1)), (3, .s (.int .i64 points5)), (4, .s (.int .i64 i3))], fun _ => none, 0⟩) ?_ (fun points5 σ' hz hle => ?_)
          · replace h := hj
            refine tri_block ?_
            refine tri_seq ?_
            obtain ⟨x6, hj, h⟩ := bind_out h
            refine tri_post ⟨ofL [(0, .s (.str s1)), (3, .s (.int .i64 points2)), (4, .s (.int .i64 i3)), (25, .s (.bool x6))], fun _ => none, 0⟩ ?_ (fun σ' hle => ?_)
            · replace h := hj
              refine tri_region (by exact tokW) (by exact gok) [] [13, 15, 19] rfl ?_
              obtain ⟨c7, hc7, h⟩ := bind_out h
              refine And.intro (str_ok hc7).1 ?_
              intro v8 hv8
              obtain rfl : (c7.toNat : Int) = v8 := (hv8.trans (str_ok hc7).2).symm
              intro b hb
              cases b with
              | true =>
                replace h := bif_t hb.symm h
                intro b hb
                cases b with
                | true =>
                  replace h := bif_t hb.symm h
                  cases h
                  exact (Le.forget _ ⟨rfl, rfl, rfl, rfl, trivial⟩)
                | false =>
                  replace h := bif_f hb.symm h
                  cases h
                  exact (Le.forget _ ⟨rfl, rfl, rfl, rfl, trivial⟩)
              | false =>
                replace h := bif_f hb.symm h
                intro b hb
                subst hb
                cases h
                exact (Le.forget _ ⟨rfl, rfl, rfl, rfl, trivial⟩)
            · show Tri _ _ _ _
              refine tri_le hle ?_
              refine tri_cond rfl (fun hb => ?_) (fun hb => ?_)
              · replace h := bif_t hb h
                refine tri_region (by exact tokW) (by exact gok) [] [] rfl ?_
                cases h
                exact ⟨_, rfl, (Le.forget _ ⟨rfl, rfl, rfl, trivial⟩)⟩
              · replace h := bif_f hb h
                refine tri_seq ?_
                refine tri_region (by exact tokW) (by exact gok) [] [30] rfl ?_
                obtain ⟨c9, hc9, h⟩ := bind_out h
                refine And.intro (str_ok hc9).1 ?_
                intro v10 hv10
                obtain rfl : (c9.toNat : Int) = v10 := (hv10.trans (str_ok hc9).2).symm
                obtain ⟨y11, hy11, h⟩ := bind_out h
                refine ⟨_, ⟨_, _, hy11, rfl, rfl⟩, ?_⟩
                show Tri _ _ _ _
                refine tri_cond rfl (fun hb => ?_) (fun hb => ?_)
                · replace h := bif_t hb h
                  refine tri_seq ?_
                  refine tri_region (by exact tokW) (by exact gok) [] [] rfl ?_
                  show Tri _ _ _ _
                  refine tri_ret ?_
                  cases h
                  replace h : some _ = some _ := ho2
                  cases h
                  replace h : some _ = some _ := ho1
                  have hy := Option.some.inj h
                  subst hy
                  unfold Gives
                  exact ⟨_, Le.refl _ _, rfl, rfl⟩
                · replace h := bif_f hb h
                  refine tri_skip ?_
                  cases h
                  exact ⟨_, rfl, (Le.forget _ ⟨rfl, rfl, rfl, trivial⟩)⟩
          · subst hz
            replace h := ho2
            show Tri _ _ _ _
            refine tri_le hle ?_
            refine tri_region (by exact tokW) (by exact gok) [] [] rfl ?_
            refine ⟨(k, points5, IntKind.i64.wrap (i3 + 1)), h, (Le.forget _ ⟨rfl, rfl, rfl, trivial⟩), Nat.lt_succ_self k⟩
        · replace h := bif_f hb h
          refine tri_exit ?_
          cases h
          exact ⟨_, rfl, (Le.forget _ ⟨rfl, rfl, trivial⟩)⟩
  · subst hz
    replace h := ho1
    show Tri _ _ _ _
    refine tri_le hle ?_
    refine tri_seq ?_
    obtain ⟨x12, hj, h⟩ := bind_out h
    refine tri_post ⟨ofL [(2, .s (.bool x12))], fun _ => none, 0⟩ ?_ (fun σ' hle => ?_)
    · replace h := hj
      refine tri_region (by exact tokW) (by exact gok) [] [36, 41] rfl ?_
      intro b hb
      cases b with
      | true =>
        replace h := bif_t hb.symm h
        intro b hb
        cases b with
        | true =>
          replace h := bif_t hb.symm h
          cases h
          exact (Le.forget _ ⟨rfl, trivial⟩)
        | false =>
          replace h := bif_f hb.symm h
          cases h
          exact (Le.forget _ ⟨rfl, trivial⟩)
      | false =>
        replace h := bif_f hb.symm h
        intro b hb
        subst hb
        cases h
        exact (Le.forget _ ⟨rfl, trivial⟩)
    · show Tri _ _ _ _
      refine tri_le hle ?_
      refine tri_ret ?_
      have hy := Option.some.inj h
      subst hy
      unfold Gives
      exact ⟨_, Le.refl _ _, rfl, rfl⟩
def R_r09_Printable (n : Nat) (xs : List AV) (r : Ret) : Prop := ∃ (a0 : List UInt8) (y0 : Bool), m_r09_Printable n a0 = some y0 ∧ xs = [.s (.str a0)] ∧ r = .val (.s (.bool y0))
def S_r09_Printable : PSpec := pspec fun xs r => ∃ n, R_r09_Printable n xs r
set_option maxHeartbeats 2000000 in
set_option maxRecDepth 100000 in
theorem ok_r09_Printable : PSound Tryd.prog 87 S_r09_Printable := by
  have gok : ∀ (f : Nat) (s : PSpec), (fun _ => none : Nat → Option PSpec) f = some s → PSound Tryd.prog f s := fun _ _ h => by cases h
  refine psound tokW Tryd.call87 Tryd.func87 rfl (fun xs r h => by obtain ⟨n, _, _, _, rfl, _⟩ := h; show 1 ≤ 20; decide) 20 rfl ?_
  rintro xs r w0 G0 ⟨n, s1, y0, h, rfl, rfl⟩ _
  rw [m_r09_Printable] at h
  refine tri_seq ?_
  refine tri_region (by exact tokW) (by exact gok) [] [] rfl ?_
  show Tri _ _ _ _
  refine tri_seq ?_
  refine tri_seq ?_
  refine tri_region (by exact tokW) (by exact gok) [] [] rfl ?_
  show Tri _ _ _ _
  obtain ⟨fl, hl, ho1⟩ := bind_out h
  refine tri_fl (fl := fl) (fun z => match z with | _ => ⟨ofL [], fun _ => none, 0⟩) ?_ (fun z σ' hz hle => ?_)
  · refine tri_block (tri_loopI (X := Nat × Int) (fun y => match y with | (k, i2) => ⟨ofL [(0, .s (.str s1)), (3, .s (.int .i64 i2))], fun _ => none, 0⟩) (fun y => m_r09_Printable_l1 s1 y.1 y.2 = some fl) (fun y => y.1) (n, 0) hl ?_ ?_)
    · exact (Le.forget _ ⟨rfl, rfl, trivial⟩)
    · rintro ⟨k, i2⟩ h
      cases k with
      | zero => cases h
      | succ k =>
        replace h : m_r09_Printable_l1 s1 (k+1) i2 = some fl := h
        rw [m_r09_Printable_l1] at h
        refine tri_seq ?_
        refine tri_seq ?_
        refine tri_region (by exact tokW) (by exact gok) [] [] rfl ?_
        show Tri _ _ _ _
        refine tri_cond rfl (fun hb => ?_) (fun hb => ?_)
        · replace h := bif_t hb h
          refine tri_skip ?_
          show Tri _ _ _ _
          refine tri_seq ?_
          refine tri_block ?_
          refine tri_seq ?_
          obtain ⟨x3, hj, h⟩ := bind_out h
          refine tri_post ⟨ofL [(0, .s (.str s1)), (3, .s (.int .i64 i2)), (19, .s (.bool x3))], fun _ => none, 0⟩ ?_ (fun σ' hle => ?_)
          · replace h := hj
            refine tri_region (by exact tokW) (by exact gok) [] [12, 14, 17] rfl ?_
            obtain ⟨c4, hc4, h⟩ := bind_out h
            refine And.intro (str_ok hc4).1 ?_
            intro v5 hv5
            obtain rfl : (c4.toNat : Int) = v5 := (hv5.trans (str_ok hc4).2).symm
            intro b hb
            cases b with
            | true =>
              replace h := bif_t hb.symm h
              cases h
              exact (Le.forget _ ⟨rfl, rfl, rfl, trivial⟩)
            | false =>
              replace h := bif_f hb.symm h
              obtain ⟨c6, hc6, h⟩ := bind_out h
              refine And.intro (str_ok hc6).1 ?_
              intro v7 hv7
              obtain rfl : (c6.toNat : Int) = v7 := (hv7.trans (str_ok hc6).2).symm
              cases h
              exact (Le.forget _ ⟨rfl, rfl, rfl, trivial⟩)
          · show Tri _ _ _ _
            refine tri_le hle ?_
            refine tri_cond rfl (fun hb => ?_) (fun hb => ?_)
            · replace h := bif_t hb h
              refine tri_seq ?_
              refine tri_region (by exact tokW) (by exact gok) [] [] rfl ?_
              show Tri _ _ _ _
              refine tri_ret ?_
              cases h
              replace h : some _ = some _ := ho1
              have hy := Option.some.inj h
              subst hy
              unfold Gives
              exact ⟨_, Le.refl _ _, rfl, rfl⟩
            · replace h := bif_f hb h
              refine tri_skip ?_
              show Tri _ _ _ _
              refine tri_region (by exact tokW) (by exact gok) [] [] rfl ?_
              refine ⟨(k, IntKind.i64.wrap (i2 + 1)), h, (Le.forget _ ⟨rfl, rfl, trivial⟩), Nat.lt_succ_self k⟩
        · replace h := bif_f hb h
          refine tri_exit ?_
          cases h
          exact ⟨_, rfl, (Le.forget _ trivial)⟩
  · subst hz
    obtain _ := z
    replace h := ho1
    show Tri _ _ _ _
    refine tri_le hle ?_
    refine tri_seq ?_
    refine tri_region (by exact tokW) (by exact gok) [] [] rfl ?_
    show Tri _ _ _ _
    refine tri_ret ?_
    have hy := Option.some.inj h
    subst hy
    unfold Gives
    exact ⟨_, Le.refl _ _, rfl, rfl⟩
def R_r09_text (n : Nat) (xs : List AV) (r : Ret) : Prop := ∃ (a0 : Nd) (y0 : Bool), m_r09_text n a0 = some y0 ∧ xs = [.agg ((Nd.enc a0).map .s)] ∧ r = .val (.s (.bool y0))
def S_r09_text : PSpec := pspec fun xs r => ∃ n, R_r09_text n xs r
set_option maxHeartbeats 2000000 in
set_option maxRecDepth 100000 in
theorem ok_r09_text : PSound Tryd.prog 80 S_r09_text := by
  have gok : ∀ f s, look? f [(13, S_r09_Symbol), (15, S_r09_Number), (87, S_r09_Printable), (47, S_r09_Accents), (45, S_r09_In), (71, S_r09_has)] = some s → PSound Tryd.prog f s := look_all (by
    simp only [List.forall_mem_cons]
    exact ⟨ok_r09_Symbol, ok_r09_Number, ok_r09_Printable, ok_r09_Accents, ok_r09_In, ok_r09_has, by simp⟩)
  refine psound tokW Tryd.call80 Tryd.func80 rfl (fun xs r h => by obtain ⟨n, _, _, _, rfl, _⟩ := h; show 1 ≤ 53; decide) 53 rfl ?_
  rintro xs r w0 G0 ⟨n, ⟨n1_kind, n1_text, n1_cols, n1_kids⟩, y0, h, rfl, rfl⟩ _
  rw [m_r09_text] at h
  refine tri_seq ?_
  refine tri_region (by exact tokW) (by exact gok) [] [] rfl ?_
  show Tri _ _ _ _
  refine tri_seq ?_
  refine tri_seq ?_
  refine tri_region (by exact tokW) (by exact gok) [] [] rfl ?_
  show Tri _ _ _ _
  refine tri_block ?_
  refine tri_seq ?_
  refine tri_region (by exact tokW) (by exact gok) [] [] rfl ?_
  show Tri _ _ _ _
  refine tri_cond rfl (fun hb => ?_) (fun hb => ?_)
  · replace h := bif_t hb h
    refine tri_seq ?_
    refine tri_region (by exact tokW) (by exact gok) [] [] rfl ?_
    obtain ⟨y2, hy2, h⟩ := bind_out h
    refine ⟨_, ⟨_, _, _, hy2, rfl, rfl⟩, ?_⟩
    show Tri _ _ _ _
    refine tri_ret ?_
    have hy := Option.some.inj h
    subst hy
    unfold Gives
    exact ⟨_, Le.refl _ _, rfl, rfl⟩
  · replace h := bif_f hb h
    refine tri_seq ?_
    refine tri_region (by exact tokW) (by exact gok) [] [] rfl ?_
    show Tri _ _ _ _
    refine tri_cond rfl (fun hb => ?_) (fun hb => ?_)
    · replace h := bif_t hb h
      refine tri_seq ?_
      refine tri_region (by exact tokW) (by exact gok) [] [] rfl ?_
      obtain ⟨y3, hy3, h⟩ := bind_out h
      refine ⟨_, ⟨_, _, _, hy3, rfl, rfl⟩, ?_⟩
      show Tri _ _ _ _
      refine tri_ret ?_
      have hy := Option.some.inj h
      subst hy
      unfold Gives
      exact ⟨_, Le.refl _ _, rfl, rfl⟩
    · replace h := bif_f hb h
      refine tri_seq ?_
      refine tri_region (by exact tokW) (by exact gok) [] [] rfl ?_
      show Tri _ _ _ _
      refine tri_cond rfl (fun hb => ?_) (fun hb => ?_)
      · replace h := bif_t hb h
        refine tri_seq ?_
        obtain ⟨x4, hj, h⟩ := bind_out h
        refine tri_post ⟨ofL [(2, .s (.bool x4))], fun _ => none, 0⟩ ?_ (fun σ' hle => ?_)
        · replace h := hj
          refine tri_region (by exact tokW) (by exact gok) [] [21] rfl ?_
          intro b hb
          cases b with
          | true =>
            replace h := bif_t hb.symm h
            obtain ⟨y5, hy5, h⟩ := bind_out h
            refine ⟨_, ⟨_, _, _, hy5, rfl, rfl⟩, ?_⟩
            cases h
            exact (Le.forget _ ⟨rfl, trivial⟩)
          | false =>
            replace h := bif_f hb.symm h
            cases h
            exact (Le.forget _ ⟨rfl, trivial⟩)
        · show Tri _ _ _ _
          refine tri_le hle ?_
          refine tri_ret ?_
          have hy := Option.some.inj h
          subst hy
          unfold Gives
          exact ⟨_, Le.refl _ _, rfl, rfl⟩
      · replace h := bif_f hb h
        refine tri_seq ?_
        refine tri_region (by exact tokW) (by exact gok) [] [] rfl ?_
        show Tri _ _ _ _
        refine tri_cond rfl (fun hb => ?_) (fun hb => ?_)
        · replace h := bif_t hb h
          refine tri_seq ?_
          refine tri_drawn (by exact tokW) (by exact gok) (by exact mixed) [] [] [] rfl (by decide +kernel) ?_
          obtain ⟨y6, hy6, h⟩ := bind_out h
          refine ⟨_, ⟨_, hy6, rfl, rfl⟩, ?_⟩
          obtain ⟨y7, hy7, h⟩ := bind_out h
          refine ⟨_, ⟨_, _, _, _, hy7, rfl, rfl⟩, ?_⟩
          show Tri _ _ _ _
          refine tri_ret ?_
          have hy := Option.some.inj h
          subst hy
          unfold Gives
          exact ⟨_, Le.refl _ _, rfl, rfl⟩
        · replace h := bif_f hb h
          refine tri_seq ?_
          refine tri_region (by exact tokW) (by exact gok) [] [] rfl ?_
          show Tri _ _ _ _
          refine tri_cond rfl (fun hb => ?_) (fun hb => ?_)
          · replace h := bif_t hb h
            refine tri_seq ?_
            obtain ⟨x8, hj, h⟩ := bind_out h
            refine tri_post ⟨ofL [(2, .s (.bool x8))], fun _ => none, 0⟩ ?_ (fun σ' hle => ?_)
            · replace h := hj
              refine tri_region (by exact tokW) (by exact gok) [] [38, 41, 44, 47] rfl ?_
              intro b hb
              cases b with
              | true =>
                replace h := bif_t hb.symm h
                obtain ⟨c9, hc9, h⟩ := bind_out h
                refine And.intro (str_ok hc9).1 ?_
                intro v10 hv10
                obtain rfl : (c9.toNat : Int) = v10 := (hv10.trans (str_ok hc9).2).symm
                obtain ⟨y11, hy11, h⟩ := bind_out h
                refine ⟨_, ⟨_, _, _, _, hy11, rfl, rfl⟩, ?_⟩
                intro b hb
                cases b with
                | true =>
                  replace h := bif_t hb.symm h
                  obtain ⟨c12, hc12, h⟩ := bind_out h
                  refine And.intro (str_ok hc12).1 ?_
                  intro v13 hv13
                  obtain rfl : (c12.toNat : Int) = v13 := (hv13.trans (str_ok hc12).2).symm
                  obtain ⟨y14, hy14, h⟩ := bind_out h
                  refine ⟨_, ⟨_, _, _, _, hy14, rfl, rfl⟩, ?_⟩
                  cases h
                  exact (Le.forget _ ⟨rfl, trivial⟩)
                | false =>
                  replace h := bif_f hb.symm h
                  cases h
                  exact (Le.forget _ ⟨rfl, trivial⟩)
              | false =>
                replace h := bif_f hb.symm h
                intro b hb
                subst hb
                cases h
                exact (Le.forget _ ⟨rfl, trivial⟩)
            · show Tri _ _ _ _
              refine tri_le hle ?_
              refine tri_ret ?_
              have hy := Option.some.inj h
              subst hy
              unfold Gives
              exact ⟨_, Le.refl _ _, rfl, rfl⟩
          · replace h := bif_f hb h
            refine tri_skip ?_
            show Tri _ _ _ _
            refine tri_seq ?_
            refine tri_region (by exact tokW) (by exact gok) [] [] rfl ?_
            show Tri _ _ _ _
            refine tri_ret ?_
            have hy := Option.some.inj h
            subst hy
            unfold Gives
            exact ⟨_, Le.refl _ _, rfl, rfl⟩
def R_r09_kids (xs : List AV) (r : Ret) : Prop := ∃ (a0 : Nd) (y0 : Bool), m_r09_kids a0 = some y0 ∧ xs = [.agg ((Nd.enc a0).map .s)] ∧ r = .val (.s (.bool y0))
def S_r09_kids : PSpec := pspec fun xs r => R_r09_kids xs r
set_option maxHeartbeats 2000000 in
set_option maxRecDepth 100000 in
theorem ok_r09_kids : PSound Tryd.prog 81 S_r09_kids := by
  have gok : ∀ (f : Nat) (s : PSpec), (fun _ => none : Nat → Option PSpec) f = some s → PSound Tryd.prog f s := fun _ _ h => by cases h
  refine psound tokW Tryd.call81 Tryd.func81 rfl (fun xs r h => by obtain ⟨_, _, _, rfl, _⟩ := h; show 1 ≤ 64; decide) 64 rfl ?_
  rintro xs r w0 G0 ⟨⟨n1_kind, n1_text, n1_cols, n1_kids⟩, y0, h, rfl, rfl⟩ _
  rw [m_r09_kids] at h
  refine tri_seq ?_
  refine tri_region (by exact tokW) (by exact gok) [] [] rfl ?_
  show Tri _ _ _ _
  refine tri_seq ?_
  refine tri_region (by exact tokW) (by exact gok) [] [6] rfl ?_
  intro n2 hn2
  obtain rfl : (n1_kids.length : Int) = n2 := (hn2.trans (congrArg (fun m : Nat => (m : Int)) (rlen Nd.encs_eq n1_kids))).symm
  show Tri _ _ _ _
  refine tri_seq ?_
  refine tri_seq ?_
  refine tri_region (by exact tokW) (by exact gok) [] [] rfl ?_
  show Tri _ _ _ _
  refine tri_cond rfl (fun hb => ?_) (fun hb => ?_)
  · replace h := bif_t hb h
    refine tri_seq ?_
    obtain ⟨x3, hj, h⟩ := bind_out h
    refine tri_post ⟨ofL [(2, .s (.bool x3))], fun _ => none, 0⟩ ?_ (fun σ' hle => ?_)
    · replace h := hj
      refine tri_region (by exact tokW) (by exact gok) [] [13, 18, 22, 26] rfl ?_
      intro b hb
      cases b with
      | true =>
        replace h := bif_t hb.symm h
        intro b hb
        cases b with
        | true =>
          replace h := bif_t hb.symm h
          intro b hb
          cases b with
          | true =>
            replace h := bif_t hb.symm h
            intro b hb
            cases b with
            | true =>
              replace h := bif_t hb.symm h
              obtain ⟨hq, h⟩ := req_out h
              refine And.intro hq ?_
              cases h
              exact (Le.forget _ ⟨rfl, trivial⟩)
            | false =>
              replace h := bif_f hb.symm h
              cases h
              exact (Le.forget _ ⟨rfl, trivial⟩)
          | false =>
            replace h := bif_f hb.symm h
            intro b hb
            subst hb
            cases h
            exact (Le.forget _ ⟨rfl, trivial⟩)
        | false =>
          replace h := bif_f hb.symm h
          intro b hb
          subst hb
          intro b hb
          subst hb
          cases h
          exact (Le.forget _ ⟨rfl, trivial⟩)
      | false =>
        replace h := bif_f hb.symm h
        intro b hb
        subst hb
        intro b hb
        subst hb
        intro b hb
        subst hb
        cases h
        exact (Le.forget _ ⟨rfl, trivial⟩)
    · show Tri _ _ _ _
      refine tri_le hle ?_
      refine tri_ret ?_
      have hy := Option.some.inj h
      subst hy
      unfold Gives
      exact ⟨_, Le.refl _ _, rfl, rfl⟩
  · replace h := bif_f hb h
    refine tri_skip ?_
    show Tri _ _ _ _
    refine tri_seq ?_
    refine tri_seq ?_
    refine tri_region (by exact tokW) (by exact gok) [] [] rfl ?_
    show Tri _ _ _ _
    refine tri_cond rfl (fun hb => ?_) (fun hb => ?_)
    · replace h := bif_t hb h
      refine tri_seq ?_
      refine tri_region (by exact tokW) (by exact gok) [] [] rfl ?_
      show Tri _ _ _ _
      refine tri_ret ?_
      have hy := Option.some.inj h
      subst hy
      unfold Gives
      exact ⟨_, Le.refl _ _, rfl, rfl⟩
    · replace h := bif_f hb h
      refine tri_skip ?_
      show Tri _ _ _ _
      refine tri_seq ?_
      refine tri_seq ?_
      refine tri_region (by exact tokW) (by exact gok) [] [] rfl ?_
      show Tri _ _ _ _
      obtain ⟨fl, hj, ho1⟩ := bind_out h
      refine tri_fl (fl := fl) (fun z => match z with | _ => ⟨ofL [], fun _ => none, 0⟩) ?_ (fun z σ' hz hle => ?_)
      · replace h := hj
        refine tri_block ?_
        refine tri_seq ?_
        refine tri_region (by exact tokW) (by exact gok) [] [] rfl ?_
        show Tri _ _ _ _
        refine tri_cond rfl (fun hb => ?_) (fun hb => ?_)
        · replace h := bif_t hb h
          refine tri_seq ?_
          refine tri_region (by exact tokW) (by exact gok) [] [] rfl ?_
          show Tri _ _ _ _
          refine tri_ret ?_
          cases h
          replace h : some _ = some _ := ho1
          have hy := Option.some.inj h
          subst hy
          unfold Gives
          exact ⟨_, Le.refl _ _, rfl, rfl⟩
        · replace h := bif_f hb h
          refine tri_seq ?_
          refine tri_seq ?_
          refine tri_region (by exact tokW) (by exact gok) [] [] rfl ?_
          show Tri _ _ _ _
          obtain ⟨x4, hj, h⟩ := bind_out h
          refine tri_post ⟨ofL [(3, .s (.int .i64 (n1_kids.length : Int))), (37, .s (.int .i64 n1_kind)), (42, .s (.bool x4))], fun _ => none, 0⟩ ?_ (fun σ' hle => ?_)
          · replace h := hj
            refine tri_cond rfl (fun hb => ?_) (fun hb => ?_)
            · replace h := bif_t hb h
              refine tri_skip ?_
              cases h
              exact (Le.forget _ ⟨rfl, rfl, rfl, trivial⟩)
            · replace h := bif_f hb h
              refine tri_seq ?_
              refine tri_region (by exact tokW) (by exact gok) [] [] rfl ?_
              show Tri _ _ _ _
              refine tri_cond rfl (fun hb => ?_) (fun hb => ?_)
              · replace h := bif_t hb h
                refine tri_skip ?_
                cases h
                exact (Le.forget _ ⟨rfl, rfl, rfl, trivial⟩)
              · replace h := bif_f hb h
                refine tri_region (by exact tokW) (by exact gok) [] [] rfl ?_
                cases h
                exact (Le.forget _ ⟨rfl, rfl, rfl, trivial⟩)
          · show Tri _ _ _ _
            refine tri_le hle ?_
            refine tri_cond rfl (fun hb => ?_) (fun hb => ?_)
            · replace h := bif_t hb h
              refine tri_seq ?_
              refine tri_region (by exact tokW) (by exact gok) [] [] rfl ?_
              show Tri _ _ _ _
              refine tri_ret ?_
              cases h
              replace h : some _ = some _ := ho1
              have hy := Option.some.inj h
              subst hy
              unfold Gives
              exact ⟨_, Le.refl _ _, rfl, rfl⟩
            · replace h := bif_f hb h
              refine tri_seq ?_
              refine tri_seq ?_
              refine tri_region (by exact tokW) (by exact gok) [] [] rfl ?_
              show Tri _ _ _ _
              obtain ⟨x5, hj, h⟩ := bind_out h
              refine tri_post ⟨ofL [(3, .s (.int .i64 (n1_kids.length : Int))), (37, .s (.int .i64 n1_kind)), (48, .s (.bool x5))], fun _ => none, 0⟩ ?_ (fun σ' hle => ?_)
              · replace h := hj
                refine tri_cond rfl (fun hb => ?_) (fun hb => ?_)
                · replace h := bif_t hb h
                  refine tri_skip ?_
                  cases h
                  exact (Le.forget _ ⟨rfl, rfl, rfl, trivial⟩)
                · replace h := bif_f hb h
                  refine tri_seq ?_
                  refine tri_region (by exact tokW) (by exact gok) [] [] rfl ?_
                  show Tri _ _ _ _
                  refine tri_cond rfl (fun hb => ?_) (fun hb => ?_)
                  · replace h := bif_t hb h
                    refine tri_skip ?_
                    cases h
                    exact (Le.forget _ ⟨rfl, rfl, rfl, trivial⟩)
                  · replace h := bif_f hb h
                    refine tri_seq ?_
                    refine tri_region (by exact tokW) (by exact gok) [] [] rfl ?_
                    show Tri _ _ _ _
                    refine tri_cond rfl (fun hb => ?_) (fun hb => ?_)
                    · replace h := bif_t hb h
                      refine tri_skip ?_
                      cases h
                      exact (Le.forget _ ⟨rfl, rfl, rfl, trivial⟩)
                    · replace h := bif_f hb h
                      refine tri_region (by exact tokW) (by exact gok) [] [] rfl ?_
                      cases h
                      exact (Le.forget _ ⟨rfl, rfl, rfl, trivial⟩)
              · show Tri _ _ _ _
                refine tri_le hle ?_
                refine tri_cond rfl (fun hb => ?_) (fun hb => ?_)
                · replace h := bif_t hb h
                  refine tri_seq ?_
                  refine tri_region (by exact tokW) (by exact gok) [] [] rfl ?_
                  show Tri _ _ _ _
                  refine tri_ret ?_
                  cases h
                  replace h : some _ = some _ := ho1
                  have hy := Option.some.inj h
                  subst hy
                  unfold Gives
                  exact ⟨_, Le.refl _ _, rfl, rfl⟩
                · replace h := bif_f hb h
                  refine tri_seq ?_
                  refine tri_region (by exact tokW) (by exact gok) [] [] rfl ?_
                  show Tri _ _ _ _
                  refine tri_cond rfl (fun hb => ?_) (fun hb => ?_)
                  · replace h := bif_t hb h
                    refine tri_seq ?_
                    refine tri_region (by exact tokW) (by exact gok) [] [] rfl ?_
                    show Tri _ _ _ _
                    refine tri_ret ?_
                    cases h
                    replace h : some _ = some _ := ho1
                    have hy := Option.some.inj h
                    subst hy
                    unfold Gives
                    exact ⟨_, Le.refl _ _, rfl, rfl⟩
                  · replace h := bif_f hb h
                    refine tri_seq ?_
                    refine tri_seq ?_
                    refine tri_region (by exact tokW) (by exact gok) [] [] rfl ?_
                    show Tri _ _ _ _
                    obtain ⟨x6, hj, h⟩ := bind_out h
                    refine tri_post ⟨ofL [(3, .s (.int .i64 (n1_kids.length : Int))), (59, .s (.bool x6))], fun _ => none, 0⟩ ?_ (fun σ' hle => ?_)
                    · replace h := hj
                      refine tri_cond rfl (fun hb => ?_) (fun hb => ?_)
                      · replace h := bif_t hb h
                        refine tri_skip ?_
                        cases h
                        exact (Le.forget _ ⟨rfl, rfl, trivial⟩)
                      · replace h := bif_f hb h
                        refine tri_region (by exact tokW) (by exact gok) [] [] rfl ?_
                        cases h
                        exact (Le.forget _ ⟨rfl, rfl, trivial⟩)
                    · show Tri _ _ _ _
                      refine tri_le hle ?_
                      refine tri_cond rfl (fun hb => ?_) (fun hb => ?_)
                      · replace h := bif_t hb h
                        refine tri_seq ?_
                        refine tri_region (by exact tokW) (by exact gok) [] [] rfl ?_
                        show Tri _ _ _ _
                        refine tri_ret ?_
                        cases h
                        replace h : some _ = some _ := ho1
                        have hy := Option.some.inj h
                        subst hy
                        unfold Gives
                        exact ⟨_, Le.refl _ _, rfl, rfl⟩
                      · replace h := bif_f hb h
                        refine tri_skip ?_
                        cases h
                        exact ⟨_, rfl, (Le.forget _ trivial)⟩
      · subst hz
        obtain _ := z
        replace h := ho1
        show Tri _ _ _ _
        refine tri_le hle ?_
        refine tri_seq ?_
        refine tri_region (by exact tokW) (by exact gok) [] [] rfl ?_
        show Tri _ _ _ _
        refine tri_ret ?_
        have hy := Option.some.inj h
        subst hy
        unfold Gives
        exact ⟨_, Le.refl _ _, rfl, rfl⟩
def R_r09_form (n : Nat) (xs : List AV) (r : Ret) : Prop := ∃ (a0 : Nd) (y0 : Bool), m_r09_form n a0 = some y0 ∧ xs = [.agg ((Nd.enc a0).map .s)] ∧ r = .val (.s (.bool y0))
set_option maxHeartbeats 2000000 in
set_option maxRecDepth 100000 in
theorem step_r09_form (n : Nat) (ih : PSound Tryd.prog 60 (pspec (R_r09_form n))) : PSound Tryd.prog 60 (pspec (R_r09_form (n + 1))) := by
  have gok : ∀ f s, look? f [(80, S_r09_text), (81, S_r09_kids), (60, pspec (R_r09_form n))] = some s → PSound Tryd.prog f s := look_all (by
    simp only [List.forall_mem_cons]
    exact ⟨ok_r09_text, ok_r09_kids, ih, by simp⟩)
  refine psound tokW Tryd.call60 Tryd.func60 rfl (fun xs r h => by obtain ⟨_, _, _, rfl, _⟩ := h; show 1 ≤ 39; decide) 39 rfl ?_
  rintro xs r w0 G0 ⟨⟨n1_kind, n1_text, n1_cols, n1_kids⟩, y0, h, rfl, rfl⟩ _
  rw [m_r09_form] at h
  refine tri_seq ?_
  refine tri_region (by exact tokW) (by exact gok) [] [] rfl ?_
  show Tri _ _ _ _
  refine tri_seq ?_
  refine tri_seq ?_
  obtain ⟨x2, hj, h⟩ := bind_out h
  refine tri_post ⟨ofL [(1, .s (.pt [.int .i64 n1_kind, .str n1_text, .int .i64 n1_cols, .sl 4 (Nd.encs n1_kids)])), (11, .s (.bool x2))], fun _ => none, 0⟩ ?_ (fun σ' hle => ?_)
  · replace h := hj
    refine tri_region (by exact tokW) (by exact gok) [] [7] rfl ?_
    obtain ⟨y3, hy3, h⟩ := bind_out h
    refine ⟨_, ⟨_, _, _, hy3, rfl, rfl⟩, ?_⟩
    intro b hb
    cases b with
    | true =>
      replace h := bif_t hb.symm h
      cases h
      exact (Le.forget _ ⟨rfl, rfl, trivial⟩)
    | false =>
      replace h := bif_f hb.symm h
      obtain ⟨y4, hy4, h⟩ := bind_out h
      refine ⟨_, ⟨_, _, hy4, rfl, rfl⟩, ?_⟩
      cases h
      exact (Le.forget _ ⟨rfl, rfl, trivial⟩)
  · show Tri _ _ _ _
    refine tri_le hle ?_
    refine tri_cond rfl (fun hb => ?_) (fun hb => ?_)
    · replace h := bif_t hb h
      refine tri_seq ?_
      refine tri_region (by exact tokW) (by exact gok) [] [] rfl ?_
      show Tri _ _ _ _
      refine tri_ret ?_
      have hy := Option.some.inj h
      subst hy
      unfold Gives
      exact ⟨_, Le.refl _ _, rfl, rfl⟩
    · replace h := bif_f hb h
      refine tri_skip ?_
      show Tri _ _ _ _
      refine tri_seq ?_
      refine tri_seq ?_
      refine tri_region (by exact tokW) (by exact gok) [] [] rfl ?_
      show Tri _ _ _ _
      obtain ⟨fl, hl, ho1⟩ := bind_out h
      refine tri_fl (fl := fl) (fun z => match z with | _ => ⟨ofL [], fun _ => none, 0⟩) ?_ (fun z σ' hz hle => ?_)
      · refine tri_block (tri_loopI (X := Nat × Int) (fun y => match y with | (k, i5) => ⟨ofL [(1, .s (.pt [.int .i64 n1_kind, .str n1_text, .int .i64 n1_cols, .sl 4 (Nd.encs n1_kids)])), (3, .s (.int .i64 i5))], fun _ => none, 0⟩) (fun y => m_r09_form_l1 (m_r09_form n) n1_kind n1_kids y.1 y.2 = some fl) (fun y => y.1) (n, 0) hl ?_ ?_)
        · exact (Le.forget _ ⟨rfl, rfl, trivial⟩)
        · rintro ⟨k, i5⟩ h
          cases k with
          | zero => cases h
          | succ k =>
            replace h : m_r09_form_l1 (m_r09_form n) n1_kind n1_kids (k+1) i5 = some fl := h
            rw [m_r09_form_l1] at h
            refine tri_seq ?_
            refine tri_seq ?_
            refine tri_region (by exact tokW) (by exact gok) [] [15] rfl ?_
            intro n6 hn6
            obtain rfl : (n1_kids.length : Int) = n6 := (hn6.trans (congrArg (fun m : Nat => (m : Int)) (rlen Nd.encs_eq n1_kids))).symm
            show Tri _ _ _ _
            refine tri_cond rfl (fun hb => ?_) (fun hb => ?_)
            · replace h := bif_t hb h
              refine tri_skip ?_
              show Tri _ _ _ _
              refine tri_seq ?_
              refine tri_block ?_
              refine tri_seq ?_
              obtain ⟨x7, hj, h⟩ := bind_out h
              refine tri_post ⟨ofL [(1, .s (.pt [.int .i64 n1_kind, .str n1_text, .int .i64 n1_cols, .sl 4 (Nd.encs n1_kids)])), (3, .s (.int .i64 i5)), (38, .s (.bool x7))], fun _ => none, 0⟩ ?_ (fun σ' hle => ?_)
              · replace h := hj
                refine tri_drawn (by exact tokW) (by exact gok) (by exact mixed) [] [22, 30, 34] [] rfl (by decide +kernel) ?_
                obtain ⟨⟨e8_kind, e8_text, e8_cols, e8_kids⟩, he8, h⟩ := bind_out h
                refine And.intro (at_ok Nd.encs_eq he8).1 ?_
                intro r9 hr9
                obtain rfl : [.int .i64 e8_kind, .str e8_text, .int .i64 e8_cols, .sl 4 (Nd.encs e8_kids)] = r9 := (hr9.trans (at_ok Nd.encs_eq he8).2.1).symm
                intro b hb
                cases b with
                | true =>
                  replace h := bif_t hb.symm h
                  cases h
                  exact (Le.forget _ ⟨rfl, rfl, rfl, trivial⟩)
                | false =>
                  replace h := bif_f hb.symm h
                  obtain ⟨⟨e10_kind, e10_text, e10_cols, e10_kids⟩, he10, h⟩ := bind_out h
                  refine And.intro (at_ok Nd.encs_eq he10).1 ?_
                  intro r11 hr11
                  obtain rfl : [.int .i64 e10_kind, .str e10_text, .int .i64 e10_cols, .sl 4 (Nd.encs e10_kids)] = r11 := (hr11.trans (at_ok Nd.encs_eq he10).2.1).symm
                  obtain ⟨y12, hy12, h⟩ := bind_out h
                  refine ⟨_, ⟨_, _, hy12, rfl, rfl⟩, ?_⟩
                  cases h
                  exact (Le.forget _ ⟨rfl, rfl, rfl, trivial⟩)
              · show Tri _ _ _ _
                refine tri_le hle ?_
                refine tri_cond rfl (fun hb => ?_) (fun hb => ?_)
                · replace h := bif_t hb h
                  refine tri_seq ?_
                  refine tri_region (by exact tokW) (by exact gok) [] [] rfl ?_
                  show Tri _ _ _ _
                  refine tri_ret ?_
                  cases h
                  replace h : some _ = some _ := ho1
                  have hy := Option.some.inj h
                  subst hy
                  unfold Gives
                  exact ⟨_, Le.refl _ _, rfl, rfl⟩
                · replace h := bif_f hb h
                  refine tri_skip ?_
                  show Tri _ _ _ _
                  refine tri_region (by exact tokW) (by exact gok) [] [] rfl ?_
                  refine ⟨(k, IntKind.i64.wrap (i5 + 1)), h, (Le.forget _ ⟨rfl, rfl, trivial⟩), Nat.lt_succ_self k⟩
            · replace h := bif_f hb h
              refine tri_exit ?_
              cases h
              exact ⟨_, rfl, (Le.forget _ trivial)⟩
      · subst hz
        obtain _ := z
        replace h := ho1
        show Tri _ _ _ _
        refine tri_le hle ?_
        refine tri_seq ?_
        refine tri_region (by exact tokW) (by exact gok) [] [] rfl ?_
        show Tri _ _ _ _
        refine tri_ret ?_
        have hy := Option.some.inj h
        subst hy
        unfold Gives
        exact ⟨_, Le.refl _ _, rfl, rfl⟩
theorem all_r09_form : ∀ n, PSound Tryd.prog 60 (pspec (R_r09_form n)) := by
  intro n
  induction n with
  | zero => exact psound_none Tryd.call60 (fun xs r h => by obtain ⟨_, _, h, _⟩ := h; cases h)
  | succ n ih => exact step_r09_form n ih
def S_r09_form : PSpec := pspec fun xs r => ∃ n, R_r09_form n xs r
theorem ok_r09_form : PSound Tryd.prog 60 S_r09_form := psound_all all_r09_form
def R_r09_Count (n : Nat) (xs : List AV) (r : Ret) : Prop := ∃ (a0 : Nd) (y0 : Int), m_r09_Count n a0 = some y0 ∧ xs = [.agg ((Nd.enc a0).map .s)] ∧ r = .val (.s (.int .i64 y0))
set_option maxHeartbeats 2000000 in
set_option maxRecDepth 100000 in
theorem step_r09_Count (n : Nat) (ih : PSound Tryd.prog 29 (pspec (R_r09_Count n))) : PSound Tryd.prog 29 (pspec (R_r09_Count (n + 1))) := by
  have gok : ∀ f s, look? f [(29, pspec (R_r09_Count n))] = some s → PSound Tryd.prog f s := look_all (by
    simp only [List.forall_mem_cons]
    exact ⟨ih, by simp⟩)
  refine psound tokW Tryd.call29 Tryd.func29 rfl (fun xs r h => by obtain ⟨_, _, _, rfl, _⟩ := h; show 1 ≤ 21; decide) 21 rfl ?_
  rintro xs r w0 G0 ⟨⟨n1_kind, n1_text, n1_cols, n1_kids⟩, y0, h, rfl, rfl⟩ _
  rw [m_r09_Count] at h
  refine tri_seq ?_
  refine tri_region (by exact tokW) (by exact gok) [] [] rfl ?_
  show Tri _ _ _ _
  refine tri_seq ?_
  refine tri_region (by exact tokW) (by exact gok) [] [] rfl ?_
  show Tri _ _ _ _
  refine tri_seq ?_
  refine tri_seq ?_
  refine tri_region (by exact tokW) (by exact gok) [] [] rfl ?_
  show Tri _ _ _ _
  obtain ⟨out4, hl, h⟩ := bind_out h
  refine tri_post ⟨ofL [(3, .s (.int .i64 out4))], fun _ => none, 0⟩ ?_ (fun σ' hle => ?_)
  · refine tri_block (tri_loopI (X := Nat × Int × Int) (fun y => match y with | (k, out2, i3) => ⟨ofL [(1, .s (.pt [.int .i64 n1_kind, .str n1_text, .int .i64 n1_cols, .sl 4 (Nd.encs n1_kids)])), (3, .s (.int .i64 out2)), (4, .s (.int .i64 i3))], fun _ => none, 0⟩) (fun y => m_r09_Count_l1 (m_r09_Count n) n1_kids y.1 y.2.1 y.2.2 = some out4) (fun y => y.1) (n, 1, 0) hl ?_ ?_)
    · exact (Le.forget _ ⟨rfl, rfl, rfl, trivial⟩)
    · rintro ⟨k, out2, i3⟩ h
      cases k with
      | zero => cases h
      | succ k =>
        replace h : m_r09_Count_l1 (m_r09_Count n) n1_kids (k+1) out2 i3 = some out4 := h
        rw [m_r09_Count_l1] at h
        refine tri_seq ?_
        refine tri_seq ?_
        refine tri_region (by exact tokW) (by exact gok) [] [8] rfl ?_
        intro n5 hn5
        obtain rfl : (n1_kids.length : Int) = n5 := (hn5.trans (congrArg (fun m : Nat => (m : Int)) (rlen Nd.encs_eq n1_kids))).symm
        show Tri _ _ _ _
        refine tri_cond rfl (fun hb => ?_) (fun hb => ?_)
        · replace h := bif_t hb h
          refine tri_skip ?_
          show Tri _ _ _ _
          refine tri_seq ?_
          refine tri_block ?_
          refine tri_region (by exact tokW) (by exact gok) [] [16] rfl ?_
          obtain ⟨⟨e6_kind, e6_text, e6_cols, e6_kids⟩, he6, h⟩ := bind_out h
          refine And.intro (at_ok Nd.encs_eq he6).1 ?_
          intro r7 hr7
          obtain rfl : [.int .i64 e6_kind, .str e6_text, .int .i64 e6_cols, .sl 4 (Nd.encs e6_kids)] = r7 := (hr7.trans (at_ok Nd.encs_eq he6).2.1).symm
          obtain ⟨y8, hy8, h⟩ := bind_out h
          refine ⟨_, ⟨_, _, hy8, rfl, rfl⟩, ?_⟩
          show Tri _ _ _ _
          refine tri_region (by exact tokW) (by exact gok) [] [] rfl ?_
          refine ⟨(k, IntKind.i64.wrap (out2 + y8), IntKind.i64.wrap (i3 + 1)), h, (Le.forget _ ⟨rfl, rfl, rfl, trivial⟩), Nat.lt_succ_self k⟩
        · replace h := bif_f hb h
          refine tri_exit ?_
          cases h
          exact (Le.forget _ ⟨rfl, trivial⟩)
  · show Tri _ _ _ _
    refine tri_le hle ?_
    refine tri_seq ?_
    refine tri_region (by exact tokW) (by exact gok) [] [] rfl ?_
    show Tri _ _ _ _
    refine tri_ret ?_
    have hy := Option.some.inj h
    subst hy
    unfold Gives
    exact ⟨_, Le.refl _ _, rfl, rfl⟩
theorem all_r09_Count : ∀ n, PSound Tryd.prog 29 (pspec (R_r09_Count n)) := by
  intro n
  induction n with
  | zero => exact psound_none Tryd.call29 (fun xs r h => by obtain ⟨_, _, h, _⟩ := h; cases h)
  | succ n ih => exact step_r09_Count n ih
def S_r09_Count : PSpec := pspec fun xs r => ∃ n, R_r09_Count n xs r
theorem ok_r09_Count : PSound Tryd.prog 29 S_r09_Count := psound_all all_r09_Count
def R_r09_Depth (n : Nat) (xs : List AV) (r : Ret) : Prop := ∃ (a0 : Nd) (y0 : Int), m_r09_Depth n a0 = some y0 ∧ xs = [.agg ((Nd.enc a0).map .s)] ∧ r = .val (.s (.int .i64 y0))
set_option maxHeartbeats 2000000 in
set_option maxRecDepth 100000 in
theorem step_r09_Depth (n : Nat) (ih : PSound Tryd.prog 31 (pspec (R_r09_Depth n))) : PSound Tryd.prog 31 (pspec (R_r09_Depth (n + 1))) := by
  have gok : ∀ f s, look? f [(31, pspec (R_r09_Depth n))] = some s → PSound Tryd.prog f s := look_all (by
    simp only [List.forall_mem_cons]
    exact ⟨ih, by simp⟩)
  refine psound tokW Tryd.call31 Tryd.func31 rfl (fun xs r h => by obtain ⟨_, _, _, rfl, _⟩ := h; show 1 ≤ 22; decide) 22 rfl ?_
  rintro xs r w0 G0 ⟨⟨n1_kind, n1_text, n1_cols, n1_kids⟩, y0, h, rfl, rfl⟩ _
  rw [m_r09_Depth] at h
  refine tri_seq ?_
  refine tri_region (by exact tokW) (by exact gok) [] [] rfl ?_
  show Tri _ _ _ _
  refine tri_seq ?_
  refine tri_region (by exact tokW) (by exact gok) [] [] rfl ?_
  show Tri _ _ _ _
  refine tri_seq ?_
  refine tri_seq ?_
  refine tri_region (by exact tokW) (by exact gok) [] [] rfl ?_
  show Tri _ _ _ _
  obtain ⟨out4, hl, h⟩ := bind_out h
  refine tri_post ⟨ofL [(3, .s (.int .i64 out4))], fun _ => none, 0⟩ ?_ (fun σ' hle => ?_)
  · refine tri_block (tri_loopI (X := Nat × Int × Int) (fun y => match y with | (k, out2, i3) => ⟨ofL [(1, .s (.pt [.int .i64 n1_kind, .str n1_text, .int .i64 n1_cols, .sl 4 (Nd.encs n1_kids)])), (3, .s (.int .i64 out2)), (4, .s (.int .i64 i3))], fun _ => none, 0⟩) (fun y => m_r09_Depth_l1 (m_r09_Depth n) n1_kids y.1 y.2.1 y.2.2 = some out4) (fun y => y.1) (n, 0, 0) hl ?_ ?_)
    · exact (Le.forget _ ⟨rfl, rfl, rfl, trivial⟩)
    · rintro ⟨k, out2, i3⟩ h
      cases k with
      | zero => cases h
      | succ k =>
        replace h : m_r09_Depth_l1 (m_r09_Depth n) n1_kids (k+1) out2 i3 = some out4 := h
        rw [m_r09_Depth_l1] at h
        refine tri_seq ?_
        refine tri_seq ?_
        refine tri_region (by exact tokW) (by exact gok) [] [8] rfl ?_
        intro n5 hn5
        obtain rfl : (n1_kids.length : Int) = n5 := (hn5.trans (congrArg (fun m : Nat => (m : Int)) (rlen Nd.encs_eq n1_kids))).symm
        show Tri _ _ _ _
        refine tri_cond rfl (fun hb => ?_) (fun hb => ?_)
        · replace h := bif_t hb h
          refine tri_skip ?_
          show Tri _ _ _ _
          refine tri_seq ?_
          refine tri_block ?_
          refine tri_region (by exact tokW) (by exact gok) [] [16] rfl ?_
          obtain ⟨⟨e6_kind, e6_text, e6_cols, e6_kids⟩, he6, h⟩ := bind_out h
          refine And.intro (at_ok Nd.encs_eq he6).1 ?_
          intro r7 hr7
          obtain rfl : [.int .i64 e6_kind, .str e6_text, .int .i64 e6_cols, .sl 4 (Nd.encs e6_kids)] = r7 := (hr7.trans (at_ok Nd.encs_eq he6).2.1).symm
          obtain ⟨y8, hy8, h⟩ := bind_out h
          refine ⟨_, ⟨_, _, hy8, rfl, rfl⟩, ?_⟩
          show Tri _ _ _ _
          refine tri_region (by exact tokW) (by exact gok) [] [] rfl ?_
          refine ⟨(k, (if out2 < y8 then y8 else out2), IntKind.i64.wrap (i3 + 1)), h, (Le.forget _ ⟨rfl, rfl, rfl, trivial⟩), Nat.lt_succ_self k⟩
        · replace h := bif_f hb h
          refine tri_exit ?_
          cases h
          exact (Le.forget _ ⟨rfl, trivial⟩)
  · show Tri _ _ _ _
    refine tri_le hle ?_
    refine tri_seq ?_
    refine tri_region (by exact tokW) (by exact gok) [] [] rfl ?_
    show Tri _ _ _ _
    refine tri_ret ?_
    have hy := Option.some.inj h
    subst hy
    unfold Gives
    exact ⟨_, Le.refl _ _, rfl, rfl⟩
theorem all_r09_Depth : ∀ n, PSound Tryd.prog 31 (pspec (R_r09_Depth n)) := by
  intro n
  induction n with
  | zero => exact psound_none Tryd.call31 (fun xs r h => by obtain ⟨_, _, h, _⟩ := h; cases h)
  | succ n ih => exact step_r09_Depth n ih
def S_r09_Depth : PSpec := pspec fun xs r => ∃ n, R_r09_Depth n xs r
theorem ok_r09_Depth : PSound Tryd.prog 31 S_r09_Depth := psound_all all_r09_Depth
def R_r09_Valid (n : Nat) (xs : List AV) (r : Ret) : Prop := ∃ (a0 : Nd) (y0 : Bool), m_r09_Valid n a0 = some y0 ∧ xs = [.agg ((Nd.enc a0).map .s)] ∧ r = .val (.s (.bool y0))
def S_r09_Valid : PSpec := pspec fun xs r => ∃ n, R_r09_Valid n xs r
set_option maxHeartbeats 2000000 in
set_option maxRecDepth 100000 in
theorem ok_r09_Valid : PSound Tryd.prog 24 S_r09_Valid := by
  have gok : ∀ f s, look? f [(60, S_r09_form), (29, S_r09_Count), (31, S_r09_Depth)] = some s → PSound Tryd.prog f s := look_all (by
    simp only [List.forall_mem_cons]
    exact ⟨ok_r09_form, ok_r09_Count, ok_r09_Depth, by simp⟩)
  refine psound tokW Tryd.call24 Tryd.func24 rfl (fun xs r h => by obtain ⟨n, _, _, _, rfl, _⟩ := h; show 1 ≤ 20; decide) 20 rfl ?_
  rintro xs r w0 G0 ⟨n, ⟨n1_kind, n1_text, n1_cols, n1_kids⟩, y0, h, rfl, rfl⟩ _
  rw [m_r09_Valid] at h
  refine tri_seq ?_
  refine tri_region (by exact tokW) (by exact gok) [] [] rfl ?_
  show Tri _ _ _ _
  refine tri_seq ?_
  obtain ⟨x2, hj, h⟩ := bind_out h
  refine tri_post ⟨ofL [(2, .s (.bool x2))], fun _ => none, 0⟩ ?_ (fun σ' hle => ?_)
  · replace h := hj
    refine tri_region (by exact tokW) (by exact gok) [] [6, 10, 15] rfl ?_
    intro b hb
    cases b with
    | true =>
      replace h := bif_t hb.symm h
      obtain ⟨y3, hy3, h⟩ := bind_out h
      refine ⟨_, ⟨_, _, _, hy3, rfl, rfl⟩, ?_⟩
      intro b hb
      cases b with
      | true =>
        replace h := bif_t hb.symm h
        obtain ⟨y4, hy4, h⟩ := bind_out h
        refine ⟨_, ⟨_, _, _, hy4, rfl, rfl⟩, ?_⟩
        intro b hb
        cases b with
        | true =>
          replace h := bif_t hb.symm h
          obtain ⟨y5, hy5, h⟩ := bind_out h
          refine ⟨_, ⟨_, _, _, hy5, rfl, rfl⟩, ?_⟩
          cases h
          exact (Le.forget _ ⟨rfl, trivial⟩)
        | false =>
          replace h := bif_f hb.symm h
          cases h
          exact (Le.forget _ ⟨rfl, trivial⟩)
      | false =>
        replace h := bif_f hb.symm h
        intro b hb
        subst hb
        cases h
        exact (Le.forget _ ⟨rfl, trivial⟩)
    | false =>
      replace h := bif_f hb.symm h
      intro b hb
      subst hb
      intro b hb
      subst hb
      cases h
      exact (Le.forget _ ⟨rfl, trivial⟩)
  · show Tri _ _ _ _
    refine tri_le hle ?_
    refine tri_ret ?_
    have hy := Option.some.inj h
    subst hy
    unfold Gives
    exact ⟨_, Le.refl _ _, rfl, rfl⟩
end Go.Proofs.YtefbmooajknmgaaDoor
set_option linter.unusedVariables false
set_option linter.unusedSimpArgs false
namespace Go.Proofs.YtefbmooajknmgaaDoor
open Go.Abs
def R_node_Row (n : Nat) (xs : List AV) (r : Ret) : Prop := ∃ (a0 : Nd) (a1 : List Int) (y0 : Nd) (y1 : Int), m_node_Row n a0 a1 = some (y0, y1) ∧ xs = [.agg ((Nd.enc a0).map .s), .s (.sl 1 (a1.map (irow .i64)))] ∧ r = .val (.tup [.agg ((Nd.enc y0).map .s), .s (.int .i64 y1)])
def S_node_Row : PSpec := pspec fun xs r => ∃ n, R_node_Row n xs r
set_option maxHeartbeats 2000000 in
set_option maxRecDepth 100000 in
theorem ok_node_Row : PSound Tryd.prog 34 S_node_Row := by
  have gok : ∀ f s, look? f [(23, S_node_Valid), (67, S_node_find), (66, S_deep_Node)] = some s → PSound Tryd.prog f s := look_all (by
    simp only [List.forall_mem_cons]
    exact ⟨ok_node_Valid, ok_node_find, ok_deep_Node, by simp⟩)
  refine psound tokW Tryd.call34 Tryd.func34 rfl (fun xs r h => by obtain ⟨n, _, _, _, _, _, rfl, _⟩ := h; show 2 ≤ _; decide) _ rfl ?_
  rintro xs r w0 G0 ⟨f, ⟨k, t, c, ks⟩, p, y0, y1, h, rfl, rfl⟩ _
  rw [m_node_Row] at h
  obtain ⟨b, hb, h⟩ := bind_out h
  refine tri_seq ?_
  refine tri_region (by exact tokW) (by exact gok) [4] [] rfl ?_
  show Tri _ _ _ _
  refine tri_seq ?_
  refine tri_seq ?_
  refine tri_region (by exact tokW) (by exact gok) [] [] rfl ?_
  refine ⟨_, ⟨f, _, _, hb, rfl, rfl⟩, ?_⟩
  show Tri _ _ _ _
  cases b with
  | false =>
    refine tri_cond rfl (fun _ => ?_) (fun h => by cases h)
    refine tri_seq ?_
    refine tri_region (by exact tokW) (by exact gok) [] [] rfl ?_
    show Tri _ _ _ _
    refine tri_ret ?_
    obtain ⟨rfl, rfl⟩ := Prod.mk.inj (Option.some.inj h)
    unfold Gives
    exact ⟨_, Le.refl _ _, rfl, rfl⟩
  | true =>
    refine tri_cond rfl (fun h => by cases h) (fun _ => ?_)
    refine tri_skip ?_
    show Tri _ _ _ _
    replace h : (match findL (.mk k t c ks) p with | some r => (m_deep_Node r).bind fun r => some (r, 0) | none => some (zeroNd, 8)) = some (y0, y1) := h
    refine tri_seq ?_
    refine tri_region (by exact tokW) (by exact gok) [] [] rfl ?_
    cases hf : findL (.mk k t c ks) p with
    | none =>
      rw [hf] at h
      refine ⟨.val (.tup [.junk, .s (.bool false)]), ⟨.mk k t c ks, p, rfl, by rw [hf]; rfl⟩, ?_⟩
      show Tri _ _ _ _
      refine tri_seq ?_
      refine tri_seq ?_
      refine tri_region (by exact tokW) (by exact gok) [] [] rfl ?_
      show Tri _ _ _ _
      refine tri_cond rfl (fun _ => ?_) (fun h => by cases h)
      refine tri_seq ?_
      refine tri_region (by exact tokW) (by exact gok) [] [] rfl ?_
      show Tri _ _ _ _
      refine tri_ret ?_
      obtain ⟨rfl, rfl⟩ := Prod.mk.inj (Option.some.inj h)
      unfold Gives
      exact ⟨_, Le.refl _ _, rfl, rfl⟩
    | some z =>
      obtain ⟨k2, t2, c2, ks2⟩ := z
      rw [hf] at h
      refine ⟨.val (.tup [.s (.pt (Nd.enc (.mk k2 t2 c2 ks2))), .s (.bool true)]), ⟨.mk k t c ks, p, rfl, by rw [hf]; rfl⟩, ?_⟩
      show Tri _ _ _ _
      refine tri_seq ?_
      refine tri_seq ?_
      refine tri_region (by exact tokW) (by exact gok) [] [] rfl ?_
      show Tri _ _ _ _
      refine tri_cond rfl (fun h => by cases h) (fun _ => ?_)
      refine tri_skip ?_
      show Tri _ _ _ _
      obtain ⟨⟨k3, t3, c3, ks3⟩, hd, h⟩ := bind_out h
      obtain ⟨rfl, rfl⟩ := Prod.mk.inj (Option.some.inj h)
      refine tri_seq ?_
      refine tri_region (by exact tokW) (by exact gok) [] [] rfl ?_
      refine ⟨_, ⟨_, _, hd, rfl, rfl⟩, ?_⟩
      show Tri _ _ _ _
      refine tri_ret ?_
      unfold Gives
      exact ⟨_, Le.refl _ _, rfl, rfl⟩
end Go.Proofs.YtefbmooajknmgaaDoor
set_option linter.unusedVariables false
set_option linter.unusedSimpArgs false
namespace Go.Proofs.YtefbmooajknmgaaDoor
open Go.Abs
theorem s1_lenV {T : Nat → Option TI} {own : Bool} {o : Oper} {σ : St} {e t e0 : Nat} {args : Array Operand} {ts : Array Nat} {y : Operand} {v : AV} {ks : List Nd} {keys : List Nat} (hv : VAt σ.hp e v ks keys) (ho : o.op = .call { callee := .builtin .len, args := args, argTypes := ts }) (ha : args.toList = [y]) (hts : ts.toList = [t]) (ht : tk T t = .slice e0)
    (hy : opd T σ.env t y = v) : step1 T own o σ = some (none, .s (.int .i64 (ks.length : Int)), σ) := by
  rcases hv with ⟨rfl, rfl, _⟩ | ⟨q, rows, keys', w, rfl, hq, hlen, _, _⟩
  · have e1 : pstep T own o σ.env = some (none, .s (.int .i64 0)) := by simp only [pstep, ho, ha, hts, pLen, ht, hy]; rfl
    simp only [step1, e1]; rfl
  · rw [s1_lenA ho ha hts ht hy hq, hlen]
theorem putL_step {k c : Int} {tx : List UInt8} {ks : List Nd} {k2 c2 : Int} {tx2 : List UInt8} {ks2 : List Nd} {z r : Nd} {i s : Int} {p : List Int} (hx : ks[i.toNat]? = some (.mk k2 tx2 c2 ks2)) (hz : ks2[s.toNat]? = some z) :
    putL (.mk k tx c ks) (i :: s :: p) r = .mk k tx c (ks.set i.toNat (.mk k2 tx2 c2 (ks2.set s.toNat (putL z p r)))) := by
  rw [putL, hx]
  simp only [hz]
theorem Hole.here {hp : Nat → Option Ob} {e : Nat} {p p1 : AV} {y : Nd} {keys : List Nat} {F : Nd → Nd} (hn : (baseK p :: keys).Nodup) (h : Hole hp e p keys p1 y F) : ∃ keys0 w0, At hp e p1 y keys0 [] w0 ∧ isL 4 p1 ∧ (baseK p1 :: keys0).Nodup := by
  obtain ⟨keys0, rest, w0, a1, a2, a3, a4, _⟩ := h
  obtain ⟨hb, hnk⟩ := List.nodup_cons.1 hn
  obtain ⟨n0, n1, n01⟩ := List.nodup_append.1 (a1.nodup_iff.1 hnk)
  refine ⟨keys0, w0, a2, a3, List.nodup_cons.2 ⟨fun hm => ?_, n0⟩⟩
  rcases a4 with rfl | a4
  · exact hb (a1.mem_iff.2 (List.mem_append_left _ hm))
  · exact n01 _ hm _ a4 rfl
theorem Hole.step {hp : Nat → Option Ob} {e q i : Nat} {p p1 : AV} {k c : Int} {tx : List UInt8} {ks : List Nd} {x : Nd} {keys : List Nat} {F : Nd → Nd} (hn : (baseK p :: keys).Nodup) (h : Hole hp e p keys p1 (.mk k tx c ks) F) (hx : ks[i]? = some x) (hc : cellsAt hp p1 = some (ncells k tx c (.orow q))) :
    Hole hp e p keys (.rp q 4 i 0) x (fun r => F (.mk k tx c (ks.set i r))) :=
  Hole.trans hn h fun keys0 w0 ha hl hn0 => by
    obtain ⟨b, rows, h1, _, _, h4⟩ := Hole.kid ha hl hn0 hx
    rw [hc] at h1
    have : q = b := by simpa [ncells] using h1
    rw [this]; exact h4
theorem putL_nil {t r : Nd} : putL t [] r = r := by cases t; rfl
def RH_node_find (xs : List AV) (hp : Nat → Option Ob) (n : Nat) (Φ : AV → (Nat → Option Ob) → Nat → Prop) : Prop :=
  ∃ (p : AV) (t : Nd) (path : List Int) (keys : List Nat) (w : Nat), xs = [p, .s (.sl 1 (path.map (irow .i64)))] ∧ isL 4 p ∧ At hp 26 p t keys [] w ∧ (baseK p :: keys).Nodup ∧
    (findL t path = none → Φ (.tup [.junk, .s (.bool false)]) hp n) ∧ ∀ p1 y F, findL t path = some y → Hole hp 26 p keys p1 y F → (∀ r, putL t path r = F r) → Φ (.tup [p1, .s (.bool true)]) hp n
def H_node_find : PSpec := hspec RH_node_find
set_option maxHeartbeats 600000 in
set_option maxRecDepth 100000 in
theorem hok_node_find : PSound Tryd.prog 67 H_node_find := by
  have gok : ∀ (f : Nat) (s : PSpec), (fun _ => none : Nat → Option PSpec) f = some s → PSound Tryd.prog f s := fun _ _ h => by cases h
  refine hsound tokW Tryd.call67 Tryd.func67 rfl (fun xs hp n Φ h => by obtain ⟨_, _, _, _, _, rfl, _⟩ := h; show 2 ≤ _; decide) _ rfl ?_
  rintro xs hp n Φ w0 G0 B0 ⟨p0, t0, path0, keys, w, rfl, hl0, hat, hnd, hΦ1, hΦ2⟩ _ hhp
  refine tri_seq ?_
  refine tri_region (by exact tokW) (by exact gok) [] [] rfl ?_
  show Tri _ _ _ _
  refine tri_seq ?_
  refine tri_block (tri_loopI (X := AV × Nd × List Int × (Nd → Nd)) (fun x => match x with | (p, y, q, F) => ⟨ofL [(0, p), (1, .s (.sl 1 (q.map (irow .i64)))), (4, .s .np), (5, .s (.bool false))], hp, n⟩)
    (fun x => match x with | (p, y, q, F) => findL t0 path0 = findL y q ∧ Hole hp 26 p0 keys p y F ∧ ∀ r, putL t0 path0 r = F (putL y q r)) (fun x => match x with | (p, y, q, F) => q.length) (p0, t0, path0, id) ⟨rfl, Hole.refl hat hl0, fun _ => rfl⟩ (Le.forget [(0, p0), (1, .s (.sl 1 (path0.map (irow .i64)))), (4, .s .np), (5, .s (.bool false))] ⟨rfl, rfl, rfl, rfl, trivial⟩) ?_)
  rintro ⟨p, ⟨k, t, c, ks⟩, q, F⟩ hI
  have hI : findL t0 path0 = findL (.mk k t c ks) q ∧ Hole hp 26 p0 keys p (.mk k t c ks) F ∧ ∀ r, putL t0 path0 r = F (putL (.mk k t c ks) q r) := hI
  obtain ⟨hI1, hI2, hI3⟩ := hI
  have hlp : isL 4 p := by obtain ⟨_, _, _, _, _, h, _⟩ := hI2; exact h
  refine tri_seq ?_
  refine tri_seq ?_
  refine tri_region (by exact tokW) (by exact gok) [] [] rfl ?_
  show Tri _ _ _ _
  refine tri_cond rfl (fun hb => ?_) (fun hb => ?_)
  · refine tri_skip ?_
    show Tri _ _ _ _
    match q, hI1, hI3, hb with
    | [], _, _, hb => cases hb
    | [_], _, _, hb => cases hb
    | i :: s :: q, hI1, hI3, hb =>
      refine tri_le (Le.forgetH [(0, p), (1, .s (.sl 1 ((i :: s :: q).map (irow .i64)))), (4, .s .np), (5, .s (.bool false))] hp n ⟨rfl, rfl, rfl, rfl, trivial⟩ (fun _ => rfl) rfl) ?_
      refine tri_seq ?_
      refine tri_block ?_
      refine tri_seq ?_
      refine tri_drawn (by exact tokW) (by exact gok) (by exact mixed) [] [] [1, 2, 4, 5] rfl (by decide +kernel) ?_
      refine And.intro (show (0 : Int) ≤ 0 ∧ (0 : Int) < ((((i :: s :: q).map (irow .i64)).length : Nat) : Int) by simp only [List.map_cons, List.length_cons]; omega) ?_
      refine And.intro (show (0 : Int) ≤ 1 ∧ (1 : Int) < ((((i :: s :: q).map (irow .i64)).length : Nat) : Int) by simp only [List.map_cons, List.length_cons]; omega) ?_
      show Tri _ _ _ _
      refine tri_le (Le.forgetH [(0, p), (1, .s (.sl 1 ((i :: s :: q).map (irow .i64)))), (4, .s .np), (5, .s (.bool false)), (6, .s (.int .i64 i)), (7, .s (.int .i64 s))] hp n ⟨rfl, rfl, rfl, rfl, rfl, rfl, trivial⟩ (fun _ => rfl) rfl) ?_
      refine tri_seq ?_
      refine tri_seq ?_
      by_cases hi : i < 0
      · refine tri_region (by exact tokW) (by exact gok) [] [21] rfl ?_
        intro b hb
        obtain rfl : true = b := (hb.trans (decide_eq_true hi)).symm
        show Tri _ _ _ _
        refine tri_cond rfl (fun _ => ?_) (fun h => by cases h)
        refine tri_seq ?_
        refine tri_region (by exact tokW) (by exact gok) [] [] rfl ?_
        show Tri _ _ _ _
        refine tri_ret ?_
        unfold GivesH
        exact ⟨_, Le.forget [(5, .s (.bool false))] ⟨rfl, trivial⟩, _, rfl, hΦ1 (hI1.trans (findL_none1 (fun h => by omega)))⟩
      obtain ⟨keys1, w1, hat1, _, hnd1⟩ := hI2.here hnd
      obtain ⟨v, hcv, hv⟩ := hat1.full
      refine tri_region (by exact tokW) (by exact gok) [] [] rfl ?_
      refine evOps_step rfl rfl rfl rfl rfl rfl trivial ?_
      refine evOps_step rfl rfl rfl rfl rfl rfl trivial ?_
      rw [show decide (i < 0) = false from decide_eq_false hi]
      refine evOps_step rfl rfl rfl rfl rfl rfl trivial ?_
      refine evOps_go (g := 22) rfl rfl rfl ?_
      refine evOps_step rfl rfl rfl rfl rfl rfl trivial ?_
      refine evOps_go (g := 22) rfl rfl rfl ?_
      refine evOps_step rfl rfl rfl rfl rfl (s1_asgL hlp (.inr rfl) rfl rfl) trivial ?_
      refine evOps_go (g := 22) rfl rfl rfl ?_
      refine evOps_step rfl rfl rfl rfl rfl (s1_nilL hlp rfl rfl) trivial ?_
      refine evOps_go (g := 22) rfl rfl rfl ?_
      refine evOps_step rfl rfl rfl rfl rfl (s1_fldL hlp rfl rfl rfl rfl rfl rfl rfl) trivial ?_
      refine evOps_go (g := 22) rfl rfl rfl ?_
      refine evOps_ldL (off := 3) (sz := 4) rfl rfl rfl rfl rfl rfl rfl hlp rfl hcv rfl ?_
      refine evOps_go (g := 22) rfl rfl rfl ?_
      refine evOps_step rfl rfl rfl rfl rfl (s1_lenV hv rfl rfl rfl rfl rfl) trivial ?_
      refine evOps_go (g := 22) rfl rfl rfl ?_
      refine evOps_step rfl rfl rfl rfl rfl rfl trivial ?_
      by_cases hi2 : (ks.length : Int) ≤ i
      · rw [show decide ((ks.length : Int) ≤ i) = true from decide_eq_true hi2]
        refine evOps_step rfl rfl rfl rfl rfl rfl trivial ?_
        show Tri _ _ _ _
        refine tri_cond rfl (fun _ => ?_) (fun h => by cases h)
        refine tri_seq ?_
        refine tri_region (by exact tokW) (by exact gok) [] [] rfl ?_
        show Tri _ _ _ _
        refine tri_ret ?_
        unfold GivesH
        exact ⟨_, Le.forget [(5, .s (.bool false))] ⟨rfl, trivial⟩, _, rfl, hΦ1 (hI1.trans (findL_none1 (n := .mk k t c ks) (fun h => by have : i < (ks.length : Int) := h.2; omega)))⟩
      rw [show decide ((ks.length : Int) ≤ i) = false from decide_eq_false hi2]
      refine evOps_step rfl rfl rfl rfl rfl rfl trivial ?_
      show Tri _ _ _ _
      refine tri_cond rfl (fun h => by cases h) (fun _ => ?_)
      refine tri_skip ?_
      show Tri _ _ _ _
      have hi0 : i.toNat < ks.length := by omega
      obtain ⟨⟨k2, t2, c2, ks2⟩, hx⟩ : ∃ x, ks[i.toNat]? = some x := ⟨_, List.getElem?_eq_getElem hi0⟩
      obtain ⟨b1, rows1, hc1, hr1, hlen1, hole1⟩ := Hole.kid hat1 hlp hnd1 hx
      refine tri_le (Le.forgetH [(0, p), (1, .s (.sl 1 ((i :: s :: q).map (irow .i64)))), (4, .s .np), (5, .s (.bool false)), (6, .s (.int .i64 i)), (7, .s (.int .i64 s))] hp n ⟨rfl, rfl, rfl, rfl, rfl, rfl, trivial⟩ (fun _ => rfl) rfl) ?_
      refine tri_seq ?_
      refine tri_region (by exact tokW) (by exact gok) [] [] rfl ?_
      refine evOps_step rfl rfl rfl rfl rfl (s1_asgL hlp (.inr rfl) rfl rfl) trivial ?_
      refine evOps_step rfl rfl rfl rfl rfl (s1_nilL hlp rfl rfl) trivial ?_
      refine evOps_step rfl rfl rfl rfl rfl (s1_fldL hlp rfl rfl rfl rfl rfl rfl rfl) trivial ?_
      refine evOps_ldL (off := 3) (sz := 4) rfl rfl rfl rfl rfl rfl rfl hlp rfl hc1 rfl ?_
      refine evOps_step rfl rfl rfl rfl rfl rfl trivial ?_
      refine evOps_step rfl rfl rfl rfl rfl (s1_idxA rfl rfl rfl rfl rfl rfl hr1 rfl) ⟨by omega, by rw [hlen1]; omega⟩ ?_
      refine evOps_step rfl rfl rfl rfl rfl rfl trivial ?_
      show Tri _ _ _ _
      refine tri_le (Le.forgetH [(0, p), (1, .s (.sl 1 ((i :: s :: q).map (irow .i64)))), (4, .s .np), (5, .s (.bool false)), (6, .s (.int .i64 i)), (7, .s (.int .i64 s)), (8, .rp b1 4 i.toNat 0)] hp n ⟨rfl, rfl, rfl, rfl, rfl, rfl, rfl, trivial⟩ (fun _ => rfl) rfl) ?_
      refine tri_seq ?_
      refine tri_seq ?_
      by_cases hs : s < 0
      · refine tri_region (by exact tokW) (by exact gok) [] [38] rfl ?_
        intro b hb
        obtain rfl : true = b := (hb.trans (decide_eq_true hs)).symm
        show Tri _ _ _ _
        refine tri_cond rfl (fun _ => ?_) (fun h => by cases h)
        refine tri_seq ?_
        refine tri_region (by exact tokW) (by exact gok) [] [] rfl ?_
        show Tri _ _ _ _
        refine tri_ret ?_
        unfold GivesH
        exact ⟨_, Le.forget [(5, .s (.bool false))] ⟨rfl, trivial⟩, _, rfl, hΦ1 (hI1.trans (findL_none2 (n := .mk k t c ks) (by omega) hx (fun h => by omega)))⟩
      have hl2 : isL 4 (.rp b1 4 i.toNat 0) := .inl ⟨b1, i.toNat, rfl⟩
      have hI4 := Hole.step hnd hI2 hx hc1
      obtain ⟨keys2, w2, hat2, _, hnd2⟩ := hI4.here hnd
      obtain ⟨v2, hcv2, hv2⟩ := hat2.full
      refine tri_region (by exact tokW) (by exact gok) [] [] rfl ?_
      refine evOps_step rfl rfl rfl rfl rfl rfl trivial ?_
      refine evOps_step rfl rfl rfl rfl rfl rfl trivial ?_
      rw [show decide (s < 0) = false from decide_eq_false hs]
      refine evOps_step rfl rfl rfl rfl rfl rfl trivial ?_
      refine evOps_go (g := 39) rfl rfl rfl ?_
      refine evOps_step rfl rfl rfl rfl rfl rfl trivial ?_
      refine evOps_go (g := 39) rfl rfl rfl ?_
      refine evOps_step rfl rfl rfl rfl rfl (s1_asgL hl2 (.inr rfl) rfl rfl) trivial ?_
      refine evOps_go (g := 39) rfl rfl rfl ?_
      refine evOps_step rfl rfl rfl rfl rfl (s1_nilL hl2 rfl rfl) trivial ?_
      refine evOps_go (g := 39) rfl rfl rfl ?_
      refine evOps_step rfl rfl rfl rfl rfl (s1_fldL hl2 rfl rfl rfl rfl rfl rfl rfl) trivial ?_
      refine evOps_go (g := 39) rfl rfl rfl ?_
      refine evOps_ldL (off := 3) (sz := 4) rfl rfl rfl rfl rfl rfl rfl hl2 rfl hcv2 rfl ?_
      refine evOps_go (g := 39) rfl rfl rfl ?_
      refine evOps_step rfl rfl rfl rfl rfl (s1_lenV hv2 rfl rfl rfl rfl rfl) trivial ?_
      refine evOps_go (g := 39) rfl rfl rfl ?_
      refine evOps_step rfl rfl rfl rfl rfl rfl trivial ?_
      by_cases hs2 : (ks2.length : Int) ≤ s
      · rw [show decide ((ks2.length : Int) ≤ s) = true from decide_eq_true hs2]
        refine evOps_step rfl rfl rfl rfl rfl rfl trivial ?_
        show Tri _ _ _ _
        refine tri_cond rfl (fun _ => ?_) (fun h => by cases h)
        refine tri_seq ?_
        refine tri_region (by exact tokW) (by exact gok) [] [] rfl ?_
        show Tri _ _ _ _
        refine tri_ret ?_
        unfold GivesH
        exact ⟨_, Le.forget [(5, .s (.bool false))] ⟨rfl, trivial⟩, _, rfl, hΦ1 (hI1.trans (findL_none2 (n := .mk k t c ks) (by omega) hx (fun h => by have : s < (ks2.length : Int) := h.2; omega)))⟩
      rw [show decide ((ks2.length : Int) ≤ s) = false from decide_eq_false hs2]
      refine evOps_step rfl rfl rfl rfl rfl rfl trivial ?_
      show Tri _ _ _ _
      refine tri_cond rfl (fun h => by cases h) (fun _ => ?_)
      refine tri_skip ?_
      show Tri _ _ _ _
      have hs0 : s.toNat < ks2.length := by omega
      obtain ⟨z, hz⟩ : ∃ z, ks2[s.toNat]? = some z := ⟨_, List.getElem?_eq_getElem hs0⟩
      obtain ⟨b2, rows2, hc2, hr2, hlen2, hole2⟩ := Hole.kid hat2 hl2 hnd2 hz
      refine tri_le (Le.forgetH [(0, p), (1, .s (.sl 1 ((i :: s :: q).map (irow .i64)))), (4, .s .np), (5, .s (.bool false)), (6, .s (.int .i64 i)), (7, .s (.int .i64 s)), (8, .rp b1 4 i.toNat 0)] hp n ⟨rfl, rfl, rfl, rfl, rfl, rfl, rfl, trivial⟩ (fun _ => rfl) rfl) ?_
      refine tri_region (by exact tokW) (by exact gok) [] [] rfl ?_
      refine evOps_step rfl rfl rfl rfl rfl (s1_asgL hl2 (.inr rfl) rfl rfl) trivial ?_
      refine evOps_step rfl rfl rfl rfl rfl (s1_nilL hl2 rfl rfl) trivial ?_
      refine evOps_step rfl rfl rfl rfl rfl (s1_fldL hl2 rfl rfl rfl rfl rfl rfl rfl) trivial ?_
      refine evOps_ldL (off := 3) (sz := 4) rfl rfl rfl rfl rfl rfl rfl hl2 rfl hc2 rfl ?_
      refine evOps_step rfl rfl rfl rfl rfl rfl trivial ?_
      refine evOps_step rfl rfl rfl rfl rfl (s1_idxA rfl rfl rfl rfl rfl rfl hr2 rfl) ⟨by omega, by rw [hlen2]; omega⟩ ?_
      refine evOps_step rfl rfl rfl rfl rfl rfl trivial ?_
      show Tri _ _ _ _
      refine tri_le (Le.forgetH [(0, .rp b2 4 s.toNat 0), (1, .s (.sl 1 ((i :: s :: q).map (irow .i64)))), (4, .s .np), (5, .s (.bool false))] hp n ⟨rfl, rfl, rfl, rfl, trivial⟩ (fun _ => rfl) rfl) ?_
      refine tri_region (by exact tokW) (by exact gok) [] [] rfl ?_
      have h2l : (2 : Int) ≤ ((((i :: s :: q).map (irow .i64)).length : Nat) : Int) := by simp only [List.map_cons, List.length_cons]; omega
      refine evOps_step rfl rfl rfl rfl rfl rfl trivial ?_
      refine evOps_step rfl rfl rfl rfl rfl rfl ⟨by decide, h2l, Int.le_refl _⟩ ?_
      refine evOps_step rfl rfl rfl rfl rfl rfl trivial ?_
      have hI5 := Hole.step hnd hI4 hz hc2
      refine ⟨(.rp b2 4 s.toNat 0, z, q, fun r => F (.mk k t c (ks.set i.toNat (.mk k2 t2 c2 (ks2.set s.toNat r))))), ⟨?_, hI5, ?_⟩, Le.forgetH [(0, .rp b2 4 s.toNat 0), (1, .s (.sl 1 (q.map (irow .i64)))), (4, .s .np), (5, .s (.bool false))] hp n ⟨rfl, congrArg (fun z => AV.s (.sl 1 z)) ?_, rfl, rfl, trivial⟩ (fun _ => rfl) rfl, ?_⟩
      · exact hI1.trans (findL_step (n := .mk k t c ks) (by omega) hx (by omega) hz)
      · intro r
        exact (hI3 r).trans (congrArg F (putL_step hx hz))
      · show List.drop 2 (List.take ((((i :: s :: q).map (irow .i64)).length : Nat) : Int).toNat ((i :: s :: q).map (irow .i64))) = _
        rw [Int.toNat_natCast, List.take_length]; rfl
      · show q.length < q.length + 1 + 1
        omega
  · refine tri_exit ?_
    show Tri _ _ _ _
    refine tri_le (Le.forgetH [(0, p), (1, .s (.sl 1 (q.map (irow .i64)))), (4, .s .np), (5, .s (.bool false))] hp n ⟨rfl, rfl, rfl, rfl, trivial⟩ (fun _ => rfl) rfl) ?_
    refine tri_seq ?_
    refine tri_region (by exact tokW) (by exact gok) [] [] rfl ?_
    refine evOps_step rfl rfl rfl rfl rfl (s1_asgL hlp (.inr rfl) rfl rfl) trivial ?_
    match q, hI1, hI3, hb with
    | [], hI1, hI3, _ =>
      refine evOps_step rfl rfl rfl rfl rfl rfl trivial ?_
      refine evOps_step rfl rfl rfl rfl rfl rfl trivial ?_
      refine evOps_step rfl rfl rfl rfl rfl rfl trivial ?_
      refine evOps_step rfl rfl rfl rfl rfl (s1_asgL hlp (.inl rfl) rfl rfl) trivial ?_
      refine evOps_step rfl rfl rfl rfl rfl rfl trivial ?_
      show Tri _ _ _ _
      refine tri_ret ?_
      have hd : AV.deep p = p := by rcases hlp with ⟨_, _, rfl⟩ | ⟨_, rfl⟩ <;> rfl
      unfold GivesH
      refine ⟨_, Le.forget [(4, p), (5, .s (.bool true))] ⟨rfl, rfl, trivial⟩, .tup [p, .s (.bool true)], ?_, hΦ2 p (.mk k t c ks) F (hI1.trans rfl) hI2 fun r => (hI3 r).trans (by rw [putL_nil])⟩
      show some (AV.tup [AV.deep p, .s (.bool true)]) = _
      rw [hd]
    | [i], hI1, _, _ =>
      refine evOps_step rfl rfl rfl rfl rfl rfl trivial ?_
      refine evOps_step rfl rfl rfl rfl rfl rfl trivial ?_
      refine evOps_step rfl rfl rfl rfl rfl rfl trivial ?_
      refine evOps_step rfl rfl rfl rfl rfl (s1_asgL hlp (.inl rfl) rfl rfl) trivial ?_
      refine evOps_step rfl rfl rfl rfl rfl rfl trivial ?_
      show Tri _ _ _ _
      refine tri_ret ?_
      unfold GivesH
      exact ⟨_, Le.forget [(5, .s (.bool false))] ⟨rfl, trivial⟩, _, rfl, hΦ1 (hI1.trans rfl)⟩
    | i :: s :: p, _, _, hb => exact absurd (of_decide_eq_false hb) (by simp only [List.map_cons, List.length_cons]; omega)
end Go.Proofs.YtefbmooajknmgaaDoor
set_option linter.unusedVariables false
set_option linter.unusedSimpArgs false
namespace Go.Proofs.YtefbmooajknmgaaDoor
open Go.Abs
theorem resOf_box2 {T : Nat → Option TI} {σ : St} {t ty q bt u : Nat} {i : TI} {cells : List AV} (h1 : σ.env t = .op q 0) (h2 : σ.hp q = some (.box bt cells)) (h3 : T ty = some i) (ha : i.k.agg = true) (hz : i.size = cells.length) : resOf T σ [.cell t ty, .tmp u] = some (.tup [AV.deep (.agg cells), (σ.env u).deep]) := by
  have hb : Nat.ble i.size cells.length = true := by rw [hz]; exact Nat.ble_eq_true_of_le (Nat.le_refl _)
  simp only [resOf, resAll, resAV, h1, h2, h3, ha, hb]
  rw [hz, List.take_length]
theorem Hole.base {hp : Nat → Option Ob} {e : Nat} {p p1 : AV} {y : Nd} {keys : List Nat} {F : Nd → Nd} (h : Hole hp e p keys p1 y F) : baseK p1 = baseK p ∨ baseK p1 ∈ keys := by
  obtain ⟨keys0, rest, w0, a1, a2, a3, a4, _⟩ := h
  rcases a4 with rfl | a4
  · exact .inl rfl
  · exact .inr (a1.mem_iff.2 (List.mem_append_right _ a4))
theorem At.ofV {hp : Nat → Option Ob} {e : Nat} {p v : AV} {k c : Int} {t : List UInt8} {ks : List Nd} {keys : List Nat} (hc : cellsAt hp p = some (ncells k t c v)) (h : VAt hp e v ks keys) : ∃ w, At hp e p (.mk k t c ks) keys [] w := by
  rcases h with ⟨rfl, rfl, rfl⟩ | ⟨q, rows, keys', w, rfl, h1, h2, rfl, h3⟩
  · exact ⟨0, by simp only [At]; exact ⟨_, hc, .inr (.inl (by simp))⟩⟩
  · exact ⟨w, by simp only [At]; exact ⟨_, hc, .inr (.inr ⟨q, rows, keys', rfl, h1, h2, rfl, h3⟩)⟩⟩
def R_node_With (n : Nat) (xs : List AV) (r : Ret) : Prop := ∃ (a0 : Nd) (a1 : List Int) (a2 : Nd) (y0 : Nd) (y1 : Int), m_node_With n a0 a1 a2 = some (y0, y1) ∧ xs = [.agg ((Nd.enc a0).map .s), .s (.sl 1 (a1.map (irow .i64))), .agg ((Nd.enc a2).map .s)] ∧ r = .val (.tup [.agg ((Nd.enc y0).map .s), .s (.int .i64 y1)])
def S_node_With : PSpec := pspec fun xs r => ∃ n, R_node_With n xs r
set_option maxHeartbeats 600000 in
set_option maxRecDepth 100000 in
theorem ok_node_With : PSound Tryd.prog 32 S_node_With := by
  have gok : ∀ f s, look? f [(23, S_node_Valid), (67, H_node_find), (66, H_deep_Node)] = some s → PSound Tryd.prog f s := look_all (by
    simp only [List.forall_mem_cons]
    exact ⟨ok_node_Valid, hok_node_find, hok_deep_Node, by simp⟩)
  refine psound tokW Tryd.call32 Tryd.func32 rfl (fun xs r h => by obtain ⟨n, _, _, _, _, _, _, rfl, _⟩ := h; show 3 ≤ _; decide) _ rfl ?_
  rintro xs r w0 G0 ⟨f, ⟨k, t, c, ks⟩, path, ⟨rk, rt, rc, rks⟩, y0, y1, h, rfl, rfl⟩ _
  rw [m_node_With] at h
  obtain ⟨b, hb, h⟩ := bind_out h
  refine tri_seq ?_
  refine tri_region (by exact tokW) (by exact gok) [6] [] rfl ?_
  show Tri _ _ _ _
  refine tri_seq ?_
  refine tri_seq ?_
  refine tri_region (by exact tokW) (by exact gok) [] [] rfl ?_
  refine ⟨_, ⟨f, _, _, hb, rfl, rfl⟩, ?_⟩
  show Tri _ _ _ _
  cases b with
  | false =>
    refine tri_cond rfl (fun _ => ?_) (fun h => by cases h)
    refine tri_seq ?_
    refine tri_region (by exact tokW) (by exact gok) [] [] rfl ?_
    show Tri _ _ _ _
    refine tri_ret ?_
    obtain ⟨rfl, rfl⟩ := Prod.mk.inj (Option.some.inj h)
    unfold Gives
    exact ⟨_, Le.refl _ _, rfl, rfl⟩
  | true =>
    refine tri_cond rfl (fun h => by cases h) (fun _ => ?_)
    refine tri_skip ?_
    show Tri _ _ _ _
    rw [if_pos rfl] at h
    obtain ⟨n1, hn1, h⟩ := bind_out h
    obtain ⟨hcnt, hn1⟩ := req_out hn1
    obtain rfl := Option.some.inj hn1
    refine tri_seq ?_
    refine tri_region (by exact tokW) (by exact gok) [8] [] rfl ?_
    refine ⟨_, ⟨k, c, t, ks, hcnt, rfl, fun v hp' n' keys h1 h2 h3 h4 h5 => ?_⟩, fun _ _ _ h => h⟩
    have hv1 : v.one = true ∧ ∀ m, n' < m → v.lt m = true := by
      rcases h3 with ⟨_, rfl, _⟩ | ⟨q, _, _, _, rfl, _, _, hk, _⟩
      · exact ⟨rfl, fun _ _ => rfl⟩
      · exact ⟨rfl, fun m hm => decide_eq_true (Nat.lt_trans (h5 q (by rw [hk]; exact List.mem_cons_self)).2 hm)⟩
    refine lay_in (d := 16) ?_
    refine evOps_step rfl rfl rfl rfl rfl rfl trivial ?_
    refine evOps_stW (sz := 4) (cs := [.s (.int .i64 0), .s (.str []), .s (.int .i64 0), .nl 4]) (cs' := ncells k t c v) (p := .op n' 0) rfl rfl rfl rfl rfl (.inr ⟨n', rfl⟩) rfl (cellsAt_op (bt := 26) (by show (bif Nat.beq n' n' then _ else hp' n') = _; rw [Nat.beq_refl]; rfl)) rfl rfl rfl (by simp only [ncells, List.all_cons, List.all_nil, hv1.1]; rfl) (by have h0 : v.lt (n' + 1) = true := hv1.2 _ (Nat.lt_succ_self _); show AV.ltAll (n' + 1) (ncells k t c v) = true; simp only [ncells, AV.ltAll, h0]; rfl) ?_
    show Tri _ _ _ _
    refine tri_gen [(1, .s (.sl 1 (path.map (irow .i64)))), (5, .s (.pt (Nd.enc (.mk rk rt rc rks)))), (6, .op 0 0), (8, .op n' 0)] (n' + 1) ⟨rfl, rfl, rfl, rfl, trivial⟩ rfl fun H hH => ?_
    have g1 : H n' = some (.box 26 (ncells k t c v)) := (hH n').trans (by
      show putC (fun m => bif Nat.beq m n' then some (Ob.box 26 [.s (.int .i64 0), .s (.str []), .s (.int .i64 0), .nl 4]) else hp' m) (.op n' 0) (ncells k t c v) n' = _
      rw [putC_op (bt := 26) (cs := [.s (.int .i64 0), .s (.str []), .s (.int .i64 0), .nl 4]) (by simp only [Nat.beq_refl, cond_true])]
      simp only [Nat.beq_refl, cond_true])
    have g2 : ∀ m, m < n' → H m = hp' m := fun m hm => (hH m).trans (by
      show putC (fun m => bif Nat.beq m n' then some (Ob.box 26 [.s (.int .i64 0), .s (.str []), .s (.int .i64 0), .nl 4]) else hp' m) (.op n' 0) (ncells k t c v) m = _
      rw [putC_other (show m ≠ n' by omega), beq_ne (show m ≠ n' by omega)]; rfl)
    clear hH
    have g0 : H 0 = some (.box 26 [.s (.int .i64 0), .s (.str []), .s (.int .i64 0), .nl 4]) := (g2 0 h1).trans (h2 0 (Nat.lt_succ_self 0))
    obtain ⟨w, hat⟩ := At.ofV (cellsAt_op g1) (h3.frame fun m hm => g2 m (h5 m hm).2)
    have hnd : (baseK (.op n' 0) :: keys).Nodup := List.nodup_cons.2 ⟨fun hm => Nat.lt_irrefl _ (h5 n' hm).2, h4⟩
    refine tri_seq ?_
    refine tri_region (by exact tokW) (by exact gok) [] [] rfl ?_
    refine ⟨_, ⟨.op n' 0, .mk k t c ks, path, keys, w, rfl, .inr ⟨n', rfl⟩, hat, hnd, fun hf => ?_, fun p1 y F hf hole hF => ?_⟩, fun _ _ _ h => h⟩
    · rw [hf] at h
      show Tri _ _ _ _
      refine tri_seq ?_
      refine tri_seq ?_
      refine tri_region (by exact tokW) (by exact gok) [] [] rfl ?_
      show Tri _ _ _ _
      refine tri_cond rfl (fun _ => ?_) (fun h => by cases h)
      obtain ⟨rfl, rfl⟩ := Prod.mk.inj (Option.some.inj h)
      refine tri_le (Le.forgetH [(6, .op 0 0)] H (n' + 1) ⟨rfl, trivial⟩ (fun _ => rfl) rfl) ?_
      refine tri_seq ?_
      refine tri_region (by exact tokW) (by exact gok) [] [] rfl ?_
      refine evOps_step rfl rfl rfl rfl rfl rfl trivial ?_
      refine evOps_stW (sz := 4) (cs := [.s (.int .i64 0), .s (.str []), .s (.int .i64 0), .nl 4]) (cs' := [.s (.int .i64 0), .s (.str []), .s (.int .i64 0), .nl 4]) (p := .op 0 0) rfl rfl rfl rfl rfl (.inr ⟨0, rfl⟩) rfl (cellsAt_op (bt := 26) g0) rfl rfl rfl rfl rfl ?_
      refine evOps_step rfl rfl rfl rfl rfl rfl trivial ?_
      show Tri _ _ _ _
      refine tri_ret ?_
      unfold Gives
      refine ⟨_, Le.refl _ _, (resOf_box2 (bt := 26) (cells := [.s (.int .i64 0), .s (.str []), .s (.int .i64 0), .nl 4]) rfl ?_ rfl rfl rfl).trans rfl, rfl⟩
      show putC H (.op 0 0) _ 0 = _
      rw [putC_op (bt := 26) (cs := [.s (.int .i64 0), .s (.str []), .s (.int .i64 0), .nl 4]) g0]; rfl
    · rw [hf] at h
      obtain ⟨keys1, w1, hat1, hl1, hnd1⟩ := hole.here hnd
      refine lay_in (d := 19) ?_
      refine evOps_step rfl rfl rfl rfl rfl rfl trivial ?_
      refine evOps_step rfl rfl rfl rfl rfl rfl trivial ?_
      refine evOps_step rfl rfl rfl rfl rfl rfl trivial ?_
      refine evOps_step rfl rfl rfl rfl rfl (s1_asgL hl1 (.inl rfl) rfl rfl) trivial ?_
      refine evOps_step rfl rfl rfl rfl rfl rfl trivial ?_
      show Tri _ _ _ _
      refine tri_le (Le.forgetH [(5, .s (.pt (Nd.enc (.mk rk rt rc rks)))), (6, .op 0 0), (8, .op n' 0), (9, p1), (10, .s (.bool true))] H (n' + 1) ⟨rfl, rfl, rfl, rfl, rfl, trivial⟩ (fun _ => rfl) rfl) ?_
      refine tri_seq ?_
      refine tri_seq ?_
      refine tri_region (by exact tokW) (by exact gok) [] [] rfl ?_
      show Tri _ _ _ _
      refine tri_cond rfl (fun h => by cases h) (fun _ => ?_)
      refine tri_skip ?_
      show Tri _ _ _ _
      obtain ⟨b2, hb2, h⟩ := bind_out h
      refine tri_seq ?_
      refine tri_seq ?_
      refine tri_region (by exact tokW) (by exact gok) [] [] rfl ?_
      refine ⟨_, ⟨f, _, _, hb2, rfl, rfl⟩, ?_⟩
      show Tri _ _ _ _
      cases b2 with
      | false =>
        refine tri_cond rfl (fun _ => ?_) (fun h => by cases h)
        obtain ⟨rfl, rfl⟩ := Prod.mk.inj (Option.some.inj h)
        refine tri_le (Le.forgetH [(6, .op 0 0)] H (n' + 1) ⟨rfl, trivial⟩ (fun _ => rfl) rfl) ?_
        refine tri_seq ?_
        refine tri_region (by exact tokW) (by exact gok) [] [] rfl ?_
        refine evOps_step rfl rfl rfl rfl rfl rfl trivial ?_
        refine evOps_stW (sz := 4) (cs := [.s (.int .i64 0), .s (.str []), .s (.int .i64 0), .nl 4]) (cs' := [.s (.int .i64 0), .s (.str []), .s (.int .i64 0), .nl 4]) (p := .op 0 0) rfl rfl rfl rfl rfl (.inr ⟨0, rfl⟩) rfl (cellsAt_op (bt := 26) g0) rfl rfl rfl rfl rfl ?_
        refine evOps_step rfl rfl rfl rfl rfl rfl trivial ?_
        show Tri _ _ _ _
        refine tri_ret ?_
        unfold Gives
        refine ⟨_, Le.refl _ _, (resOf_box2 (bt := 26) (cells := [.s (.int .i64 0), .s (.str []), .s (.int .i64 0), .nl 4]) rfl ?_ rfl rfl rfl).trans rfl, rfl⟩
        show putC H (.op 0 0) _ 0 = _
        rw [putC_op (bt := 26) (cs := [.s (.int .i64 0), .s (.str []), .s (.int .i64 0), .nl 4]) g0]; rfl
      | true =>
        refine tri_cond rfl (fun h => by cases h) (fun _ => ?_)
        refine tri_skip ?_
        show Tri _ _ _ _
        rw [if_pos rfl] at h
        obtain ⟨n2, hn2, h⟩ := bind_out h
        obtain ⟨hcnt2, hn2⟩ := req_out hn2
        obtain rfl := Option.some.inj hn2
        refine tri_le (Le.forgetH [(5, .s (.pt (Nd.enc (.mk rk rt rc rks)))), (6, .op 0 0), (8, .op n' 0), (9, p1)] H (n' + 1) ⟨rfl, rfl, rfl, rfl, trivial⟩ (fun _ => rfl) rfl) ?_
        refine tri_seq ?_
        refine tri_region (by exact tokW) (by exact gok) [] [] rfl ?_
        refine evOps_step rfl rfl rfl rfl rfl (s1_asgL hl1 (.inr rfl) rfl rfl) trivial ?_
        refine evOps_step rfl rfl rfl rfl rfl rfl trivial ?_
        refine ⟨_, ⟨rk, rc, rt, rks, hcnt2, rfl, fun v2 hp2 n2 keys2 q1 q2 q3 q4 q5 => ?_⟩, fun _ _ _ h => h⟩
        refine lay_in (d := 31) ?_
        refine evOps_step rfl rfl rfl rfl rfl (s1_nilL hl1 rfl rfl) trivial ?_
        have hb1 : baseK p1 < n' + 1 := by
          rcases hole.base with h | h
          · have : baseK p1 = n' := h
            omega
          · have := (h5 _ h).2; omega
        obtain ⟨yk, yt, yc, yks⟩ := y
        obtain ⟨vy, hcy, _⟩ := hat1.full
        have hcy2 : cellsAt hp2 p1 = some (ncells yk yt yc vy) := (cellsAt_eq hl1 (q2 _ hb1)).trans hcy
        have hv2 : v2.one = true ∧ v2.lt n2 = true := by
          rcases q3 with ⟨_, rfl, _⟩ | ⟨q, _, _, _, rfl, _, _, hk, _⟩
          · exact ⟨rfl, rfl⟩
          · exact ⟨rfl, decide_eq_true (q5 q (by rw [hk]; exact List.mem_cons_self)).2⟩
        refine evOps_stW (sz := 4) (cs' := ncells rk rt rc v2) rfl rfl rfl rfl rfl hl1 rfl hcy2 rfl rfl rfl (by simp only [ncells, List.all_cons, List.all_nil, hv2.1]; rfl) (by show AV.ltAll n2 (ncells rk rt rc v2) = true; simp only [ncells, AV.ltAll, hv2.2]; rfl) ?_
        show Tri _ _ _ _
        refine tri_gen [(6, .op 0 0), (8, .op n' 0)] n2 ⟨rfl, rfl, trivial⟩ rfl fun H2 hH2 => ?_
        have hH2 : ∀ m, H2 m = putC hp2 p1 (ncells rk rt rc v2) m := hH2
        have hcp : cellsAt H2 p1 = some (ncells rk rt rc v2) := (cellsAt_eq hl1 (hH2 _)).trans (cellsAt_put hl1 hcy2)
        have hb2k : ∀ m ∈ keys2, H2 m = hp2 m := fun m hm => (hH2 m).trans (putC_other (by have hm1 : n' + 1 ≤ m := (q5 m hm).1; omega))
        obtain ⟨w3, hat3⟩ := At.ofV hcp (q3.frame hb2k)
        obtain ⟨keys0, rest, w0', a1, a2, a3, a4, a5⟩ := hole
        have hrest : ∀ m, m = n' ∨ m ∈ rest → m < n' + 1 := fun m hm => by
          rcases hm with rfl | hm
          · omega
          · have := (h5 m (a1.mem_iff.2 (List.mem_append_right _ hm))).2; omega
        obtain ⟨keys3, w4, hperm, hfin⟩ := a5 H2 (.mk rk rt rc rks) keys2 w3 (Sim.put (c := ncells rk rt rc v2) hl1 hcy fun m hm => (hH2 m).trans (putC_congr hl1 (q2 m (hrest m hm)) (q2 _ hb1))) hat3
        have hput : F (.mk rk rt rc rks) = putL (.mk k t c ks) path (.mk rk rt rc rks) := (hF _).symm
        rw [hput] at hfin
        have hn0 : ∀ m, m = n' ∨ m ∈ keys3 → m ≠ 0 := fun m hm => by
          have e1 : 1 ≤ n' := h1
          rcases hm with rfl | hm
          · omega
          · rcases List.mem_append.1 (hperm.mem_iff.1 hm) with hm | hm
            · have e2 : 1 ≤ m := (h5 m (a1.mem_iff.2 (List.mem_append_right _ hm))).1
              omega
            · have e2 : n' + 1 ≤ m := (q5 m hm).1
              omega
        have hatD : At (fun m => bif Nat.beq m 0 then none else H2 m) 26 (.op n' 0) (putL (.mk k t c ks) path (.mk rk rt rc rks)) keys3 [] w4 := hfin.frame (.inr ⟨n', rfl⟩) fun m hm => by rw [beq_ne (hn0 m hm)]; rfl
        obtain ⟨cs, hcs, hrd⟩ := hatD.rd
        rcases cellsAt_inv (sz := 4) (.inr ⟨n', rfl⟩) hcs with ⟨q, i, e, rows, h1, _⟩ | ⟨q, bt, h1, hbt⟩
        · cases h1
        cases h1
        refine tri_le (Le.givePart [(6, .op 0 0), (8, .s (.pt (Nd.enc (putL (.mk k t c ks) path (.mk rk rt rc rks)))))] (fun m => bif Nat.beq m 0 then none else H2 m) (fun m => bif Nat.beq m 0 then H2 m else none) (fun m ob hm => by
          cases e : Nat.beq m 0 with
          | true => rw [e] at hm; cases hm
          | false => rw [e] at hm; exact hm) (fun m ob hm => by
          cases e : Nat.beq m 0 with
          | true => rw [e] at hm; exact hm
          | false => rw [e] at hm; cases hm) (fun m ob ob' h1 h2 => by
          cases e : Nat.beq m 0 with
          | true => rw [e] at h1; cases h1
          | false => rw [e] at h2; cases h2) ⟨.inl rfl, .inr (Rd.box (off := 0) hbt hrd.1 hrd.2), trivial⟩) ?_
        have hb0 : 0 ≠ baseK p1 := by
          rcases a4 with rfl | a4
          · exact Ne.symm (hn0 n' (.inl rfl))
          · exact Ne.symm (hn0 _ (.inr (hperm.mem_iff.2 (List.mem_append_left _ a4))))
        have g3 : H2 0 = some (.box 26 [.s (.int .i64 0), .s (.str []), .s (.int .i64 0), .nl 4]) := (hH2 0).trans ((putC_other hb0).trans ((q2 0 (Nat.succ_pos n')).trans g0))
        clear hrd hcs hatD hfin hput
        generalize putL (.mk k t c ks) path (.mk rk rt rc rks) = T1 at *
        obtain ⟨k9, t9, c9, ks9⟩ := T1
        obtain ⟨b3, hb3, h⟩ := bind_out h
        refine tri_gen [(6, .op 0 0), (8, .s (.pt (Nd.enc (.mk k9 t9 c9 ks9))))] n2 ⟨rfl, rfl, trivial⟩ rfl fun H3 hH3 => ?_
        have g4 : H3 0 = some (.box 26 [.s (.int .i64 0), .s (.str []), .s (.int .i64 0), .nl 4]) := (hH3 0).trans g3
        refine tri_seq ?_
        refine tri_seq ?_
        refine tri_region (by exact tokW) (by exact gok) [] [] rfl ?_
        refine ⟨_, ⟨f, _, _, hb3, rfl, rfl⟩, ?_⟩
        show Tri _ _ _ _
        cases b3 with
        | false =>
          refine tri_cond rfl (fun _ => ?_) (fun h => by cases h)
          obtain ⟨rfl, rfl⟩ := Prod.mk.inj (Option.some.inj h)
          refine tri_le (Le.forgetH [(6, .op 0 0)] H3 n2 ⟨rfl, trivial⟩ (fun _ => rfl) rfl) ?_
          refine tri_seq ?_
          refine tri_region (by exact tokW) (by exact gok) [] [] rfl ?_
          refine evOps_step rfl rfl rfl rfl rfl rfl trivial ?_
          refine evOps_stW (sz := 4) (cs := [.s (.int .i64 0), .s (.str []), .s (.int .i64 0), .nl 4]) (cs' := [.s (.int .i64 0), .s (.str []), .s (.int .i64 0), .nl 4]) (p := .op 0 0) rfl rfl rfl rfl rfl (.inr ⟨0, rfl⟩) rfl (cellsAt_op (bt := 26) g4) rfl rfl rfl rfl rfl ?_
          refine evOps_step rfl rfl rfl rfl rfl rfl trivial ?_
          show Tri _ _ _ _
          refine tri_ret ?_
          unfold Gives
          refine ⟨_, Le.refl _ _, (resOf_box2 (bt := 26) (cells := [.s (.int .i64 0), .s (.str []), .s (.int .i64 0), .nl 4]) rfl ?_ rfl rfl rfl).trans rfl, rfl⟩
          show putC H3 (.op 0 0) _ 0 = _
          rw [putC_op (bt := 26) (cs := [.s (.int .i64 0), .s (.str []), .s (.int .i64 0), .nl 4]) g4]; rfl
        | true =>
          refine tri_cond rfl (fun h => by cases h) (fun _ => ?_)
          obtain ⟨rfl, rfl⟩ := Prod.mk.inj (Option.some.inj h)
          refine tri_skip ?_
          show Tri _ _ _ _
          refine tri_le (Le.forgetH [(6, .op 0 0), (8, .s (.pt (Nd.enc (.mk k9 t9 c9 ks9))))] H3 n2 ⟨rfl, rfl, trivial⟩ (fun _ => rfl) rfl) ?_
          refine tri_seq ?_
          refine tri_region (by exact tokW) (by exact gok) [] [] rfl ?_
          refine evOps_step rfl rfl rfl rfl rfl rfl trivial ?_
          refine evOps_stW (sz := 4) (cs := [.s (.int .i64 0), .s (.str []), .s (.int .i64 0), .nl 4]) (cs' := ncells k9 t9 c9 (.s (.sl 4 (Nd.encs ks9)))) (p := .op 0 0) rfl rfl rfl rfl rfl (.inr ⟨0, rfl⟩) rfl (cellsAt_op (bt := 26) g4) rfl rfl rfl rfl rfl ?_
          refine evOps_step rfl rfl rfl rfl rfl rfl trivial ?_
          show Tri _ _ _ _
          refine tri_ret ?_
          unfold Gives
          refine ⟨_, Le.refl _ _, (resOf_box2 (bt := 26) (cells := ncells k9 t9 c9 (.s (.sl 4 (Nd.encs ks9)))) rfl ?_ rfl rfl rfl).trans rfl, rfl⟩
          show putC H3 (.op 0 0) _ 0 = _
          rw [putC_op (bt := 26) (cs := [.s (.int .i64 0), .s (.str []), .s (.int .i64 0), .nl 4]) g4]; rfl
end Go.Proofs.YtefbmooajknmgaaDoor
set_option linter.unusedVariables false
set_option linter.unusedSimpArgs false
namespace Go.Proofs.YtefbmooajknmgaaDoor
open Go.Abs
def R_r09_find (n : Nat) (xs : List AV) (r : Ret) : Prop := ∃ (a0 : Nd) (a1 : List Int) (y0 : Nd) (y1 : Bool), m_r09_find n a0 a1 = some (y0, y1) ∧ xs = [.agg ((Nd.enc a0).map .s), .s (.sl 1 ((List.map (irow .i64)) a1))] ∧ r = .val (.tup [.agg ((Nd.enc y0).map .s), .s (.bool y1)])
def S_r09_find : PSpec := pspec fun xs r => ∃ n, R_r09_find n xs r
set_option maxHeartbeats 2000000 in
set_option maxRecDepth 100000 in
theorem ok_r09_find : PSound Tryd.prog 69 S_r09_find := by
  have gok : ∀ (f : Nat) (s : PSpec), (fun _ => none : Nat → Option PSpec) f = some s → PSound Tryd.prog f s := fun _ _ h => by cases h
  refine psound tokW Tryd.call69 Tryd.func69 rfl (fun xs r h => by obtain ⟨n, _, _, _, _, _, rfl, _⟩ := h; show 2 ≤ 57; decide) 57 rfl ?_
  rintro xs r w0 G0 ⟨n, ⟨n1_kind, n1_text, n1_cols, n1_kids⟩, path2, y0, y1, h, rfl, rfl⟩ _
  rw [m_r09_find] at h
  refine tri_seq ?_
  refine tri_region (by exact tokW) (by exact gok) [2, 4] [] rfl ?_
  show Tri _ _ _ _
  refine tri_seq ?_
  obtain ⟨fl, hl, ho1⟩ := bind_out h
  refine tri_fl (fl := fl) (fun z => match z with | ⟨path9, x10, x11, x12, x13⟩ => ⟨ofL [(1, .s (.sl 1 ((List.map (irow .i64)) path9))), (2, .op 0 0), (4, .op 1 0)], ofH [(0, .box 26 [.s (.int .i64 x10), .s (.str x11), .s (.int .i64 x12), .s (.sl 4 (Nd.encs x13))]), (1, .box 26 [.s (.int .i64 0), .s (.str []), .s (.int .i64 0), .nl 4])], 2⟩) ?_ (fun z σ' hz hle => ?_)
  · refine tri_block (tri_loopI (X := Nat × Int × (List UInt8) × Int × (List Nd) × (List Int)) (fun y => match y with | (k, x3, x4, x5, x6, path8) => ⟨ofL [(1, .s (.sl 1 ((List.map (irow .i64)) path8))), (2, .op 0 0), (4, .op 1 0)], ofH [(0, .box 26 [.s (.int .i64 x3), .s (.str x4), .s (.int .i64 x5), .s (.sl 4 (Nd.encs x6))]), (1, .box 26 [.s (.int .i64 0), .s (.str []), .s (.int .i64 0), .nl 4])], 2⟩) (fun y => m_r09_find_l1  y.1 y.2.1 y.2.2.1 y.2.2.2.1 y.2.2.2.2.1 y.2.2.2.2.2 = some fl) (fun y => y.1) (n, n1_kind, n1_text, n1_cols, n1_kids, path2) hl ?_ ?_)
    · exact (Le.rename [(0, 0), (1, 1)] _ _ _ ⟨rfl, rfl, rfl, trivial⟩ ⟨rfl, ⟨_, rfl, rfl⟩, rfl, ⟨_, rfl, rfl⟩, trivial⟩ rfl rfl rfl rfl rfl)
    · rintro ⟨k, x3, x4, x5, x6, path8⟩ h
      cases k with
      | zero => cases h
      | succ k =>
        replace h : m_r09_find_l1  (k+1) x3 x4 x5 x6 path8 = some fl := h
        rw [m_r09_find_l1] at h
        refine tri_seq ?_
        refine tri_seq ?_
        refine tri_region (by exact tokW) (by exact gok) [] [7] rfl ?_
        intro n14 hn14
        obtain rfl : (path8.length : Int) = n14 := (hn14.trans (congrArg (fun m : Nat => (m : Int)) (rlen (fun _ => rfl) path8))).symm
        show Tri _ _ _ _
        refine tri_cond rfl (fun hb => ?_) (fun hb => ?_)
        · replace h := bif_t hb h
          refine tri_skip ?_
          show Tri _ _ _ _
          refine tri_block ?_
          refine tri_seq ?_
          refine tri_seq ?_
          obtain ⟨x15, hj, h⟩ := bind_out h
          refine tri_post ⟨ofL [(1, .s (.sl 1 ((List.map (irow .i64)) path8))), (2, .op 0 0), (4, .op 1 0), (21, .s (.bool x15))], ofH [(0, .box 26 [.s (.int .i64 x3), .s (.str x4), .s (.int .i64 x5), .s (.sl 4 (Nd.encs x6))]), (1, .box 26 [.s (.int .i64 0), .s (.str []), .s (.int .i64 0), .nl 4])], 2⟩ ?_ (fun σ' hle => ?_)
          · replace h := hj
            refine tri_drawn (by exact tokW) (by exact gok) (by exact mixed) [] [10, 13, 15, 19] [9] rfl (by decide +kernel) ?_
            obtain ⟨e16, he16, h⟩ := bind_out h
            refine And.intro (at_ok (fun _ => rfl) he16).1 ?_
            intro r17 hr17
            obtain rfl : [.int .i64 e16] = r17 := (hr17.trans (at_ok (fun _ => rfl) he16).2.1).symm
            intro b hb
            cases b with
            | true =>
              replace h := bif_t hb.symm h
              cases h
              exact (Le.rename [(0, 0), (1, 1)] _ _ _ ⟨rfl, rfl, rfl, rfl, trivial⟩ ⟨rfl, ⟨_, rfl, rfl⟩, rfl, ⟨_, rfl, rfl⟩, trivial⟩ rfl rfl rfl rfl rfl)
            | false =>
              replace h := bif_f hb.symm h
              obtain ⟨e18, he18, h⟩ := bind_out h
              refine And.intro (at_ok (fun _ => rfl) he18).1 ?_
              intro r19 hr19
              obtain rfl : [.int .i64 e18] = r19 := (hr19.trans (at_ok (fun _ => rfl) he18).2.1).symm
              intro n20 hn20
              obtain rfl : (x6.length : Int) = n20 := (hn20.trans (congrArg (fun m : Nat => (m : Int)) (rlen Nd.encs_eq x6))).symm
              cases h
              exact (Le.rename [(0, 0), (1, 1)] _ _ _ ⟨rfl, rfl, rfl, rfl, trivial⟩ ⟨rfl, ⟨_, rfl, rfl⟩, rfl, ⟨_, rfl, rfl⟩, trivial⟩ rfl rfl rfl rfl rfl)
          · show Tri _ _ _ _
            refine tri_le hle ?_
            refine tri_cond rfl (fun hb => ?_) (fun hb => ?_)
            · replace h := bif_t hb h
              refine tri_seq ?_
              refine tri_region (by exact tokW) (by exact gok) [] [] rfl ?_
              show Tri _ _ _ _
              refine tri_ret ?_
              cases h
              replace h : some _ = some _ := ho1
              obtain ⟨hj1, hk1⟩ := Prod.mk.inj (Option.some.inj h)
              subst hj1
              subst hk1
              unfold Gives
              exact ⟨_, Le.refl _ _, rfl, rfl⟩
            · replace h := bif_f hb h
              refine tri_skip ?_
              show Tri _ _ _ _
              refine tri_seq ?_
              refine tri_drawn (by exact tokW) (by exact gok) (by exact mixed) [] [26, 28] [1, 7] rfl (by decide +kernel) ?_
              obtain ⟨e21, he21, h⟩ := bind_out h
              refine And.intro (at_ok (fun _ => rfl) he21).1 ?_
              intro r22 hr22
              obtain rfl : [.int .i64 e21] = r22 := (hr22.trans (at_ok (fun _ => rfl) he21).2.1).symm
              obtain ⟨⟨e23_kind, e23_text, e23_cols, e23_kids⟩, he23, h⟩ := bind_out h
              refine And.intro (at_ok Nd.encs_eq he23).1 ?_
              intro r24 hr24
              obtain rfl : [.int .i64 e23_kind, .str e23_text, .int .i64 e23_cols, .sl 4 (Nd.encs e23_kids)] = r24 := (hr24.trans (at_ok Nd.encs_eq he23).2.1).symm
              show Tri _ _ _ _
              refine tri_seq ?_
              refine tri_seq ?_
              obtain ⟨x25, hj, h⟩ := bind_out h
              refine tri_post ⟨ofL [(1, .s (.sl 1 ((List.map (irow .i64)) path8))), (2, .op 0 0), (4, .op 1 0), (42, .s (.bool x25))], ofH [(0, .box 26 [.s (.int .i64 e23_kind), .s (.str e23_text), .s (.int .i64 e23_cols), .s (.sl 4 (Nd.encs e23_kids))]), (1, .box 26 [.s (.int .i64 0), .s (.str []), .s (.int .i64 0), .nl 4])], 2⟩ ?_ (fun σ' hle => ?_)
              · replace h := hj
                refine tri_drawn (by exact tokW) (by exact gok) (by exact mixed) [] [31, 34, 36, 40] [9] rfl (by decide +kernel) ?_
                obtain ⟨e26, he26, h⟩ := bind_out h
                refine And.intro (at_ok (fun _ => rfl) he26).1 ?_
                intro r27 hr27
                obtain rfl : [.int .i64 e26] = r27 := (hr27.trans (at_ok (fun _ => rfl) he26).2.1).symm
                intro b hb
                cases b with
                | true =>
                  replace h := bif_t hb.symm h
                  cases h
                  exact (Le.rename [(0, 0), (1, 1)] _ _ _ ⟨rfl, rfl, rfl, rfl, trivial⟩ ⟨rfl, ⟨_, rfl, rfl⟩, rfl, ⟨_, rfl, rfl⟩, trivial⟩ rfl rfl rfl rfl rfl)
                | false =>
                  replace h := bif_f hb.symm h
                  obtain ⟨e28, he28, h⟩ := bind_out h
                  refine And.intro (at_ok (fun _ => rfl) he28).1 ?_
                  intro r29 hr29
                  obtain rfl : [.int .i64 e28] = r29 := (hr29.trans (at_ok (fun _ => rfl) he28).2.1).symm
                  intro n30 hn30
                  obtain rfl : (e23_kids.length : Int) = n30 := (hn30.trans (congrArg (fun m : Nat => (m : Int)) (rlen Nd.encs_eq e23_kids))).symm
                  cases h
                  exact (Le.rename [(0, 0), (1, 1)] _ _ _ ⟨rfl, rfl, rfl, rfl, trivial⟩ ⟨rfl, ⟨_, rfl, rfl⟩, rfl, ⟨_, rfl, rfl⟩, trivial⟩ rfl rfl rfl rfl rfl)
              · show Tri _ _ _ _
                refine tri_le hle ?_
                refine tri_cond rfl (fun hb => ?_) (fun hb => ?_)
                · replace h := bif_t hb h
                  refine tri_seq ?_
                  refine tri_region (by exact tokW) (by exact gok) [] [] rfl ?_
                  show Tri _ _ _ _
                  refine tri_ret ?_
                  cases h
                  replace h : some _ = some _ := ho1
                  obtain ⟨hj1, hk1⟩ := Prod.mk.inj (Option.some.inj h)
                  subst hj1
                  subst hk1
                  unfold Gives
                  exact ⟨_, Le.refl _ _, rfl, rfl⟩
                · replace h := bif_f hb h
                  refine tri_skip ?_
                  show Tri _ _ _ _
                  refine tri_seq ?_
                  refine tri_drawn (by exact tokW) (by exact gok) (by exact mixed) [] [47, 49] [1, 7] rfl (by decide +kernel) ?_
                  obtain ⟨e31, he31, h⟩ := bind_out h
                  refine And.intro (at_ok (fun _ => rfl) he31).1 ?_
                  intro r32 hr32
                  obtain rfl : [.int .i64 e31] = r32 := (hr32.trans (at_ok (fun _ => rfl) he31).2.1).symm
                  obtain ⟨⟨e33_kind, e33_text, e33_cols, e33_kids⟩, he33, h⟩ := bind_out h
                  refine And.intro (at_ok Nd.encs_eq he33).1 ?_
                  intro r34 hr34
                  obtain rfl : [.int .i64 e33_kind, .str e33_text, .int .i64 e33_cols, .sl 4 (Nd.encs e33_kids)] = r34 := (hr34.trans (at_ok Nd.encs_eq he33).2.1).symm
                  show Tri _ _ _ _
                  refine tri_region (by exact tokW) (by exact gok) [] [52] rfl ?_
                  obtain ⟨hq, h⟩ := req_out h
                  refine And.intro ⟨hq.1, Int.le_trans hq.2.1 (Int.ofNat_le.2 (Nat.le_of_eq (rlen (fun _ => rfl) _).symm)), Int.le_refl _⟩ ?_
                  intro r35 hr35
                  obtain rfl : (List.map (irow .i64)) ((path8.take (path8.length : Int).toNat).drop (2 : Int).toNat) = r35 := (hr35.trans ((congrArg (fun m : Nat => (((List.map (irow .i64)) path8).take m).drop (2 : Int).toNat) (rlen (fun _ => rfl) _)).trans (rcut (fun _ => rfl) _ _ _))).symm
                  refine ⟨(k, e33_kind, e33_text, e33_cols, e33_kids, (path8.take (path8.length : Int).toNat).drop (2 : Int).toNat), h, (Le.rename [(0, 0), (1, 1)] _ _ _ ⟨rfl, rfl, rfl, trivial⟩ ⟨rfl, ⟨_, rfl, rfl⟩, rfl, ⟨_, rfl, rfl⟩, trivial⟩ rfl rfl rfl rfl rfl), Nat.lt_succ_self k⟩
        · replace h := bif_f hb h
          refine tri_exit ?_
          cases h
          exact ⟨_, rfl, (Le.rename [(0, 0), (1, 1)] _ _ _ ⟨rfl, rfl, rfl, trivial⟩ ⟨rfl, ⟨_, rfl, rfl⟩, rfl, ⟨_, rfl, rfl⟩, trivial⟩ rfl rfl rfl rfl rfl)⟩
  · subst hz
    obtain ⟨path9, x10, x11, x12, x13⟩ := z
    replace h := ho1
    show Tri _ _ _ _
    refine tri_le hle ?_
    refine tri_seq ?_
    refine tri_region (by exact tokW) (by exact gok) [] [55] rfl ?_
    intro n36 hn36
    obtain rfl : (path9.length : Int) = n36 := (hn36.trans (congrArg (fun m : Nat => (m : Int)) (rlen (fun _ => rfl) path9))).symm
    show Tri _ _ _ _
    refine tri_ret ?_
    obtain ⟨hj1, hk1⟩ := Prod.mk.inj (Option.some.inj h)
    subst hj1
    subst hk1
    unfold Gives
    exact ⟨_, Le.refl _ _, rfl, rfl⟩
def R_r09_Row (n : Nat) (xs : List AV) (r : Ret) : Prop := ∃ (a0 : Nd) (a1 : List Int) (y0 : Nd) (y1 : Int), m_r09_Row n a0 a1 = some (y0, y1) ∧ xs = [.agg ((Nd.enc a0).map .s), .s (.sl 1 ((List.map (irow .i64)) a1))] ∧ r = .val (.tup [.agg ((Nd.enc y0).map .s), .s (.int .i64 y1)])
def S_r09_Row : PSpec := pspec fun xs r => ∃ n, R_r09_Row n xs r
set_option maxHeartbeats 2000000 in
set_option maxRecDepth 100000 in
theorem ok_r09_Row : PSound Tryd.prog 35 S_r09_Row := by
  have gok : ∀ f s, look? f [(24, S_r09_Valid), (69, S_r09_find)] = some s → PSound Tryd.prog f s := look_all (by
    simp only [List.forall_mem_cons]
    exact ⟨ok_r09_Valid, ok_r09_find, by simp⟩)
  refine psound tokW Tryd.call35 Tryd.func35 rfl (fun xs r h => by obtain ⟨n, _, _, _, _, _, rfl, _⟩ := h; show 2 ≤ 22; decide) 22 rfl ?_
  rintro xs r w0 G0 ⟨n, ⟨n1_kind, n1_text, n1_cols, n1_kids⟩, path2, y0, y1, h, rfl, rfl⟩ _
  rw [m_r09_Row] at h
  refine tri_seq ?_
  refine tri_region (by exact tokW) (by exact gok) [4] [] rfl ?_
  show Tri _ _ _ _
  refine tri_seq ?_
  refine tri_seq ?_
  refine tri_region (by exact tokW) (by exact gok) [] [] rfl ?_
  obtain ⟨y3, hy3, h⟩ := bind_out h
  refine ⟨_, ⟨_, _, _, hy3, rfl, rfl⟩, ?_⟩
  show Tri _ _ _ _
  refine tri_cond rfl (fun hb => ?_) (fun hb => ?_)
  · replace h := bif_t hb h
    refine tri_seq ?_
    refine tri_region (by exact tokW) (by exact gok) [] [] rfl ?_
    show Tri _ _ _ _
    refine tri_ret ?_
    obtain ⟨hj1, hk1⟩ := Prod.mk.inj (Option.some.inj h)
    subst hj1
    subst hk1
    unfold Gives
    exact ⟨_, Le.refl _ _, rfl, rfl⟩
  · replace h := bif_f hb h
    refine tri_skip ?_
    show Tri _ _ _ _
    refine tri_seq ?_
    refine tri_region (by exact tokW) (by exact gok) [6] [] rfl ?_
    obtain ⟨⟨⟨y4_kind, y4_text, y4_cols, y4_kids⟩, y5⟩, hy4, h⟩ := bind_out h
    refine ⟨_, ⟨_, _, _, _, _, hy4, rfl, rfl⟩, ?_⟩
    show Tri _ _ _ _
    refine tri_le (Le.giveBox 1 [.int .i64 y4_kind, .str y4_text, .int .i64 y4_cols, .sl 4 (Nd.encs y4_kids)] rfl rfl) ?_
    refine tri_seq ?_
    refine tri_seq ?_
    refine tri_region (by exact tokW) (by exact gok) [] [] rfl ?_
    show Tri _ _ _ _
    refine tri_cond rfl (fun hb => ?_) (fun hb => ?_)
    · replace h := bif_t hb h
      refine tri_seq ?_
      refine tri_region (by exact tokW) (by exact gok) [] [] rfl ?_
      show Tri _ _ _ _
      refine tri_ret ?_
      obtain ⟨hj1, hk1⟩ := Prod.mk.inj (Option.some.inj h)
      subst hj1
      subst hk1
      unfold Gives
      exact ⟨_, Le.refl _ _, rfl, rfl⟩
    · replace h := bif_f hb h
      refine tri_skip ?_
      show Tri _ _ _ _
      refine tri_seq ?_
      refine tri_region (by exact tokW) (by exact gok) [] [] rfl ?_
      show Tri _ _ _ _
      refine tri_ret ?_
      obtain ⟨hj1, hk1⟩ := Prod.mk.inj (Option.some.inj h)
      subst hj1
      subst hk1
      unfold Gives
      exact ⟨_, Le.refl _ _, rfl, rfl⟩
def R_r09_Replaced (xs : List AV) (r : Ret) : Prop := ∃ (a0 : Nd) (a1 : Int) (a2 : Nd) (y0 : Nd), m_r09_Replaced a0 a1 a2 = some y0 ∧ xs = [.agg ((Nd.enc a0).map .s), .s (.int .i64 a1), .agg ((Nd.enc a2).map .s)] ∧ r = .val (.agg ((Nd.enc y0).map .s))
def S_r09_Replaced : PSpec := pspec fun xs r => R_r09_Replaced xs r
set_option maxHeartbeats 2000000 in
set_option maxRecDepth 100000 in
theorem ok_r09_Replaced : PSound Tryd.prog 82 S_r09_Replaced := by
  have gok : ∀ (f : Nat) (s : PSpec), (fun _ => none : Nat → Option PSpec) f = some s → PSound Tryd.prog f s := fun _ _ h => by cases h
  refine psound tokW Tryd.call82 Tryd.func82 rfl (fun xs r h => by obtain ⟨_, _, _, _, _, rfl, _⟩ := h; show 3 ≤ 18; decide) 18 rfl ?_
  rintro xs r w0 G0 ⟨⟨n1_kind, n1_text, n1_cols, n1_kids⟩, i2, ⟨kid3_kind, kid3_text, kid3_cols, kid3_kids⟩, y0, h, rfl, rfl⟩ _
  rw [m_r09_Replaced] at h
  refine tri_seq ?_
  refine tri_region (by exact tokW) (by exact gok) [3, 6] [] rfl ?_
  show Tri _ _ _ _
  refine tri_seq ?_
  refine tri_region (by exact tokW) (by exact gok) [7, 10] [] rfl ?_
  obtain ⟨hq, h⟩ := req_out h
  refine And.intro (show (([] : List (List S)).length + (Nd.encs n1_kids).length) * 56 ≤ 140737488355328 ∧ ([] : List (List S)).length + (Nd.encs n1_kids).length ≤ 9223372036854775807 from by simp only [List.length_append, List.length_cons, List.length_nil, List.length_map, rlen Nd.encs_eq] at hq ⊢; omega) ?_
  show Tri _ _ _ _
  refine tri_le (Le.rename [(0, 0), (3, 1), (1, 2)] [(1, .s (.int .i64 i2)), (3, .op 0 0), (5, .s (.pt [.int .i64 kid3_kind, .str kid3_text, .int .i64 kid3_cols, .sl 4 (Nd.encs kid3_kids)])), (6, .op 2 0)] [(0, .box 26 [.s (.int .i64 n1_kind), .s (.str n1_text), .s (.int .i64 n1_cols), .orow 1]), (1, .row 26 4 (Nd.encs n1_kids)), (2, .box 26 [.s (.int .i64 0), .s (.str []), .s (.int .i64 0), .nl 4])] 3 ⟨rfl, rfl, rfl, rfl, trivial⟩ ⟨rfl, ⟨_, rfl, rfl⟩, rfl, ⟨_, rfl, congrArg (Ob.row 26 4) (by simp [List.map_append, List.map_take, List.map_drop, irow, brow, b8of_row, List.map_cons, List.map_nil, b8of_wrap, Nd.encs_eq, Nd.enc])⟩, rfl, ⟨_, rfl, rfl⟩, trivial⟩ rfl rfl rfl rfl rfl) ?_
  refine tri_seq ?_
  refine tri_region (by exact tokW) (by exact gok) [] [] rfl ?_
  obtain ⟨⟨e4_kind, e4_text, e4_cols, e4_kids⟩, he4, h⟩ := bind_out h
  refine And.intro (at_ok Nd.encs_eq he4).1 ?_
  have hset5 := (rset (R := Nd.encs) (f := Nd.enc) Nd.encs_eq he4 (Nd.mk kid3_kind kid3_text kid3_cols kid3_kids) 0 4 [.int .i64 kid3_kind, .str kid3_text, .int .i64 kid3_cols, .sl 4 (Nd.encs kid3_kids)] rfl)
  have hat5 := at_set he4 (Nd.mk kid3_kind kid3_text kid3_cols kid3_kids)
  refine And.intro (at_ok Nd.encs_eq he4).2.2 ?_
  show Tri _ _ _ _
  refine tri_le (Le.rename [(0, 0), (1, 1), (2, 2)] [(3, .op 0 0), (6, .op 2 0)] [(0, .box 26 [.s (.int .i64 n1_kind), .s (.str n1_text), .s (.int .i64 n1_cols), .orow 1]), (1, .row 26 4 (Nd.encs (n1_kids.set i2.toNat (Nd.mk kid3_kind kid3_text kid3_cols kid3_kids)))), (2, .box 26 [.s (.int .i64 0), .s (.str []), .s (.int .i64 0), .nl 4])] 3 ⟨rfl, rfl, trivial⟩ ⟨rfl, ⟨_, rfl, rfl⟩, rfl, ⟨_, rfl, congrArg (Ob.row 26 4) hset5⟩, rfl, ⟨_, rfl, rfl⟩, trivial⟩ rfl rfl rfl rfl rfl) ?_
  refine tri_seq ?_
  refine tri_region (by exact tokW) (by exact gok) [] [] rfl ?_
  show Tri _ _ _ _
  refine tri_ret ?_
  have hy := Option.some.inj h
  subst hy
  unfold Gives
  exact ⟨_, (Le.trans (Le.rename [(2, 0), (1, 1)] [(6, .op 0 0)] [(0, .box 26 [.s (.int .i64 n1_kind), .s (.str n1_text), .s (.int .i64 n1_cols), .orow 1]), (1, .row 26 4 (Nd.encs (n1_kids.set i2.toNat (Nd.mk kid3_kind kid3_text kid3_cols kid3_kids))))] 2 ⟨rfl, trivial⟩ ⟨rfl, ⟨_, rfl, rfl⟩, rfl, ⟨_, rfl, rfl⟩, trivial⟩ rfl rfl rfl rfl rfl) (Le.giveRow 1 rfl)), rfl, rfl⟩
def R_r09_put (n : Nat) (xs : List AV) (r : Ret) : Prop := ∃ (a0 : Nd) (a1 : List Int) (a2 : Nd) (y0 : Nd), m_r09_put n a0 a1 a2 = some y0 ∧ xs = [.agg ((Nd.enc a0).map .s), .s (.sl 1 ((List.map (irow .i64)) a1)), .agg ((Nd.enc a2).map .s)] ∧ r = .val (.agg ((Nd.enc y0).map .s))
set_option maxHeartbeats 2000000 in
set_option maxRecDepth 100000 in
theorem step_r09_put (n : Nat) (ih : PSound Tryd.prog 68 (pspec (R_r09_put n))) : PSound Tryd.prog 68 (pspec (R_r09_put (n + 1))) := by
  have gok : ∀ f s, look? f [(68, pspec (R_r09_put n)), (82, S_r09_Replaced)] = some s → PSound Tryd.prog f s := look_all (by
    simp only [List.forall_mem_cons]
    exact ⟨ih, ok_r09_Replaced, by simp⟩)
  refine psound tokW Tryd.call68 Tryd.func68 rfl (fun xs r h => by obtain ⟨_, _, _, _, _, rfl, _⟩ := h; show 3 ≤ 40; decide) 40 rfl ?_
  rintro xs r w0 G0 ⟨⟨n1_kind, n1_text, n1_cols, n1_kids⟩, path2, ⟨row3_kind, row3_text, row3_cols, row3_kids⟩, y0, h, rfl, rfl⟩ _
  rw [m_r09_put] at h
  refine tri_seq ?_
  refine tri_region (by exact tokW) (by exact gok) [6] [] rfl ?_
  show Tri _ _ _ _
  refine tri_seq ?_
  refine tri_seq ?_
  refine tri_region (by exact tokW) (by exact gok) [] [9] rfl ?_
  intro n4 hn4
  obtain rfl : (path2.length : Int) = n4 := (hn4.trans (congrArg (fun m : Nat => (m : Int)) (rlen (fun _ => rfl) path2))).symm
  show Tri _ _ _ _
  refine tri_cond rfl (fun hb => ?_) (fun hb => ?_)
  · replace h := bif_t hb h
    refine tri_seq ?_
    refine tri_region (by exact tokW) (by exact gok) [] [] rfl ?_
    show Tri _ _ _ _
    refine tri_ret ?_
    have hy := Option.some.inj h
    subst hy
    unfold Gives
    exact ⟨_, Le.refl _ _, rfl, rfl⟩
  · replace h := bif_f hb h
    refine tri_skip ?_
    show Tri _ _ _ _
    refine tri_seq ?_
    refine tri_drawnR (by exact tokW) (by exact gok) (by exact mixed) [7] [15, 17] [7, 8] [] rfl (by decide +kernel) ?_
    obtain ⟨e5, he5, h⟩ := bind_out h
    refine And.intro (at_ok (fun _ => rfl) he5).1 ?_
    intro r6 hr6
    obtain rfl : [.int .i64 e5] = r6 := (hr6.trans (at_ok (fun _ => rfl) he5).2.1).symm
    obtain ⟨⟨e7_kind, e7_text, e7_cols, e7_kids⟩, he7, h⟩ := bind_out h
    refine And.intro (at_ok Nd.encs_eq he7).1 ?_
    intro r8 hr8
    obtain rfl : [.int .i64 e7_kind, .str e7_text, .int .i64 e7_cols, .sl 4 (Nd.encs e7_kids)] = r8 := (hr8.trans (at_ok Nd.encs_eq he7).2.1).symm
    show Tri _ _ _ _
    refine tri_le (Le.giveBox 1 [.int .i64 e7_kind, .str e7_text, .int .i64 e7_cols, .sl 4 (Nd.encs e7_kids)] rfl rfl) ?_
    refine tri_seq ?_
    refine tri_drawn (by exact tokW) (by exact gok) (by exact mixed) [] [21, 25, 30, 32, 35] [21] rfl (by decide +kernel) ?_
    obtain ⟨e9, he9, h⟩ := bind_out h
    refine And.intro (at_ok (fun _ => rfl) he9).1 ?_
    intro r10 hr10
    obtain rfl : [.int .i64 e9] = r10 := (hr10.trans (at_ok (fun _ => rfl) he9).2.1).symm
    obtain ⟨e11, he11, h⟩ := bind_out h
    refine And.intro (at_ok (fun _ => rfl) he11).1 ?_
    intro r12 hr12
    obtain rfl : [.int .i64 e11] = r12 := (hr12.trans (at_ok (fun _ => rfl) he11).2.1).symm
    obtain ⟨e13, he13, h⟩ := bind_out h
    refine And.intro (at_ok (fun _ => rfl) he13).1 ?_
    intro r14 hr14
    obtain rfl : [.int .i64 e13] = r14 := (hr14.trans (at_ok (fun _ => rfl) he13).2.1).symm
    obtain ⟨⟨e15_kind, e15_text, e15_cols, e15_kids⟩, he15, h⟩ := bind_out h
    refine And.intro (at_ok Nd.encs_eq he15).1 ?_
    intro r16 hr16
    obtain rfl : [.int .i64 e15_kind, .str e15_text, .int .i64 e15_cols, .sl 4 (Nd.encs e15_kids)] = r16 := (hr16.trans (at_ok Nd.encs_eq he15).2.1).symm
    obtain ⟨hq, h⟩ := req_out h
    refine And.intro ⟨hq.1, Int.le_trans hq.2.1 (Int.ofNat_le.2 (Nat.le_of_eq (rlen (fun _ => rfl) _).symm)), Int.le_refl _⟩ ?_
    intro r17 hr17
    obtain rfl : (List.map (irow .i64)) ((path2.take (path2.length : Int).toNat).drop (2 : Int).toNat) = r17 := (hr17.trans ((congrArg (fun m : Nat => (((List.map (irow .i64)) path2).take m).drop (2 : Int).toNat) (rlen (fun _ => rfl) _)).trans (rcut (fun _ => rfl) _ _ _))).symm
    obtain ⟨⟨y18_kind, y18_text, y18_cols, y18_kids⟩, hy18, h⟩ := bind_out h
    refine ⟨_, ⟨_, _, _, _, hy18, rfl, rfl⟩, ?_⟩
    obtain ⟨⟨y19_kind, y19_text, y19_cols, y19_kids⟩, hy19, h⟩ := bind_out h
    refine ⟨_, ⟨_, _, _, _, hy19, rfl, rfl⟩, ?_⟩
    obtain ⟨⟨y20_kind, y20_text, y20_cols, y20_kids⟩, hy20, h⟩ := bind_out h
    refine ⟨_, ⟨_, _, _, _, hy20, rfl, rfl⟩, ?_⟩
    show Tri _ _ _ _
    refine tri_ret ?_
    have hy := Option.some.inj h
    subst hy
    unfold Gives
    exact ⟨_, Le.refl _ _, rfl, rfl⟩
theorem all_r09_put : ∀ n, PSound Tryd.prog 68 (pspec (R_r09_put n)) := by
  intro n
  induction n with
  | zero => exact psound_none Tryd.call68 (fun xs r h => by obtain ⟨_, _, _, _, h, _⟩ := h; cases h)
  | succ n ih => exact step_r09_put n ih
def S_r09_put : PSpec := pspec fun xs r => ∃ n, R_r09_put n xs r
theorem ok_r09_put : PSound Tryd.prog 68 S_r09_put := psound_all all_r09_put
def R_r09_With (n : Nat) (xs : List AV) (r : Ret) : Prop := ∃ (a0 : Nd) (a1 : List Int) (a2 : Nd) (y0 : Nd) (y1 : Int), m_r09_With n a0 a1 a2 = some (y0, y1) ∧ xs = [.agg ((Nd.enc a0).map .s), .s (.sl 1 ((List.map (irow .i64)) a1)), .agg ((Nd.enc a2).map .s)] ∧ r = .val (.tup [.agg ((Nd.enc y0).map .s), .s (.int .i64 y1)])
def S_r09_With : PSpec := pspec fun xs r => ∃ n, R_r09_With n xs r
set_option maxHeartbeats 2000000 in
set_option maxRecDepth 100000 in
theorem ok_r09_With : PSound Tryd.prog 33 S_r09_With := by
  have gok : ∀ f s, look? f [(35, S_r09_Row), (24, S_r09_Valid), (68, S_r09_put)] = some s → PSound Tryd.prog f s := look_all (by
    simp only [List.forall_mem_cons]
    exact ⟨ok_r09_Row, ok_r09_Valid, ok_r09_put, by simp⟩)
  refine psound tokW Tryd.call33 Tryd.func33 rfl (fun xs r h => by obtain ⟨n, _, _, _, _, _, _, rfl, _⟩ := h; show 3 ≤ 34; decide) 34 rfl ?_
  rintro xs r w0 G0 ⟨n, ⟨n1_kind, n1_text, n1_cols, n1_kids⟩, path2, ⟨row3_kind, row3_text, row3_cols, row3_kids⟩, y0, y1, h, rfl, rfl⟩ _
  rw [m_r09_With] at h
  refine tri_seq ?_
  refine tri_region (by exact tokW) (by exact gok) [6] [] rfl ?_
  show Tri _ _ _ _
  refine tri_seq ?_
  refine tri_region (by exact tokW) (by exact gok) [8] [] rfl ?_
  obtain ⟨⟨⟨y4_kind, y4_text, y4_cols, y4_kids⟩, y5⟩, hy4, h⟩ := bind_out h
  refine ⟨_, ⟨_, _, _, _, _, hy4, rfl, rfl⟩, ?_⟩
  show Tri _ _ _ _
  refine tri_le (Le.giveBox 1 [.int .i64 y4_kind, .str y4_text, .int .i64 y4_cols, .sl 4 (Nd.encs y4_kids)] rfl rfl) ?_
  refine tri_seq ?_
  refine tri_seq ?_
  refine tri_region (by exact tokW) (by exact gok) [] [] rfl ?_
  show Tri _ _ _ _
  refine tri_cond rfl (fun hb => ?_) (fun hb => ?_)
  · replace h := bif_t hb h
    refine tri_seq ?_
    refine tri_region (by exact tokW) (by exact gok) [] [] rfl ?_
    show Tri _ _ _ _
    refine tri_ret ?_
    obtain ⟨hj1, hk1⟩ := Prod.mk.inj (Option.some.inj h)
    subst hj1
    subst hk1
    unfold Gives
    exact ⟨_, Le.refl _ _, rfl, rfl⟩
  · replace h := bif_f hb h
    refine tri_skip ?_
    show Tri _ _ _ _
    refine tri_seq ?_
    refine tri_seq ?_
    refine tri_region (by exact tokW) (by exact gok) [] [] rfl ?_
    obtain ⟨y6, hy6, h⟩ := bind_out h
    refine ⟨_, ⟨_, _, _, hy6, rfl, rfl⟩, ?_⟩
    show Tri _ _ _ _
    refine tri_cond rfl (fun hb => ?_) (fun hb => ?_)
    · replace h := bif_t hb h
      refine tri_seq ?_
      refine tri_region (by exact tokW) (by exact gok) [] [] rfl ?_
      show Tri _ _ _ _
      refine tri_ret ?_
      obtain ⟨hj1, hk1⟩ := Prod.mk.inj (Option.some.inj h)
      subst hj1
      subst hk1
      unfold Gives
      exact ⟨_, Le.refl _ _, rfl, rfl⟩
    · replace h := bif_f hb h
      refine tri_skip ?_
      show Tri _ _ _ _
      refine tri_seq ?_
      refine tri_region (by exact tokW) (by exact gok) [10] [] rfl ?_
      obtain ⟨⟨y7_kind, y7_text, y7_cols, y7_kids⟩, hy7, h⟩ := bind_out h
      refine ⟨_, ⟨_, _, _, _, _, hy7, rfl, rfl⟩, ?_⟩
      show Tri _ _ _ _
      refine tri_le (Le.giveBox 2 [.int .i64 y7_kind, .str y7_text, .int .i64 y7_cols, .sl 4 (Nd.encs y7_kids)] rfl rfl) ?_
      refine tri_seq ?_
      refine tri_seq ?_
      refine tri_region (by exact tokW) (by exact gok) [] [] rfl ?_
      obtain ⟨y8, hy8, h⟩ := bind_out h
      refine ⟨_, ⟨_, _, _, hy8, rfl, rfl⟩, ?_⟩
      show Tri _ _ _ _
      refine tri_cond rfl (fun hb => ?_) (fun hb => ?_)
      · replace h := bif_t hb h
        refine tri_seq ?_
        refine tri_region (by exact tokW) (by exact gok) [] [] rfl ?_
        show Tri _ _ _ _
        refine tri_ret ?_
        obtain ⟨hj1, hk1⟩ := Prod.mk.inj (Option.some.inj h)
        subst hj1
        subst hk1
        unfold Gives
        exact ⟨_, Le.refl _ _, rfl, rfl⟩
      · replace h := bif_f hb h
        refine tri_skip ?_
        show Tri _ _ _ _
        refine tri_seq ?_
        refine tri_region (by exact tokW) (by exact gok) [] [] rfl ?_
        show Tri _ _ _ _
        refine tri_ret ?_
        obtain ⟨hj1, hk1⟩ := Prod.mk.inj (Option.some.inj h)
        subst hj1
        subst hk1
        unfold Gives
        exact ⟨_, Le.refl _ _, rfl, rfl⟩
def R_l09_NodeWith (n : Nat) (xs : List AV) (r : Ret) : Prop := ∃ (a0 : Nd) (a1 : List Int) (a2 : Nd) (y0 : Bool), m_l09_NodeWith n a0 a1 a2 = some y0 ∧ xs = [.agg ((Nd.enc a0).map .s), .s (.sl 1 ((List.map (irow .i64)) a1)), .agg ((Nd.enc a2).map .s)] ∧ r = .val (.s (.bool y0))
def S_l09_NodeWith : PSpec := pspec fun xs r => ∃ n, R_l09_NodeWith n xs r
set_option maxHeartbeats 2000000 in
set_option maxRecDepth 100000 in
theorem ok_l09_NodeWith : PSound Tryd.prog 8 S_l09_NodeWith := by
  have gok : ∀ f s, look? f [(11, S_l09_awake), (16, S_l09_few), (18, S_r09_Dump), (32, S_node_With), (33, S_r09_With), (19, S_r09_Equal)] = some s → PSound Tryd.prog f s := look_all (by
    simp only [List.forall_mem_cons]
    exact ⟨ok_l09_awake, ok_l09_few, ok_r09_Dump, ok_node_With, ok_r09_With, ok_r09_Equal, by simp⟩)
  refine psound tokW Tryd.call8 Tryd.func8 rfl (fun xs r h => by obtain ⟨n, _, _, _, _, _, rfl, _⟩ := h; show 3 ≤ 60; decide) 60 rfl ?_
  rintro xs r w0 G0 ⟨n, ⟨n1_kind, n1_text, n1_cols, n1_kids⟩, path2, ⟨row3_kind, row3_text, row3_cols, row3_kids⟩, y0, h, rfl, rfl⟩ _
  rw [m_l09_NodeWith] at h
  refine tri_seq ?_
  refine tri_region (by exact tokW) (by exact gok) [] [] rfl ?_
  show Tri _ _ _ _
  refine tri_seq ?_
  refine tri_seq ?_
  obtain ⟨x4, hj, h⟩ := bind_out h
  refine tri_post ⟨ofL [(1, .s (.sl 1 ((List.map (irow .i64)) path2))), (3, .s (.pt [.int .i64 n1_kind, .str n1_text, .int .i64 n1_cols, .sl 4 (Nd.encs n1_kids)])), (5, .s (.pt [.int .i64 row3_kind, .str row3_text, .int .i64 row3_cols, .sl 4 (Nd.encs row3_kids)])), (28, .s (.bool x4))], fun _ => none, 0⟩ ?_ (fun σ' hle => ?_)
  · replace h := hj
    refine tri_region (by exact tokW) (by exact gok) [] [14, 19, 24, 26] rfl ?_
    obtain ⟨y5, hy5, h⟩ := bind_out h
    refine ⟨_, ⟨_, _, hy5, rfl, rfl⟩, ?_⟩
    intro b hb
    cases b with
    | true =>
      replace h := bif_t hb.symm h
      intro b hb
      subst hb
      intro b hb
      subst hb
      cases h
      exact (Le.forget _ ⟨rfl, rfl, rfl, rfl, trivial⟩)
    | false =>
      replace h := bif_f hb.symm h
      obtain ⟨y6, hy6, h⟩ := bind_out h
      refine ⟨_, ⟨_, _, _, hy6, rfl, rfl⟩, ?_⟩
      intro b hb
      cases b with
      | true =>
        replace h := bif_t hb.symm h
        intro b hb
        subst hb
        cases h
        exact (Le.forget _ ⟨rfl, rfl, rfl, rfl, trivial⟩)
      | false =>
        replace h := bif_f hb.symm h
        obtain ⟨y7, hy7, h⟩ := bind_out h
        refine ⟨_, ⟨_, _, _, hy7, rfl, rfl⟩, ?_⟩
        intro b hb
        cases b with
        | true =>
          replace h := bif_t hb.symm h
          cases h
          exact (Le.forget _ ⟨rfl, rfl, rfl, rfl, trivial⟩)
        | false =>
          replace h := bif_f hb.symm h
          intro n8 hn8
          obtain rfl : (path2.length : Int) = n8 := (hn8.trans (congrArg (fun m : Nat => (m : Int)) (rlen (fun _ => rfl) path2))).symm
          cases h
          exact (Le.forget _ ⟨rfl, rfl, rfl, rfl, trivial⟩)
  · show Tri _ _ _ _
    refine tri_le hle ?_
    refine tri_cond rfl (fun hb => ?_) (fun hb => ?_)
    · replace h := bif_t hb h
      refine tri_seq ?_
      refine tri_region (by exact tokW) (by exact gok) [] [] rfl ?_
      obtain ⟨y9, hy9, h⟩ := bind_out h
      refine ⟨_, ⟨_, _, hy9, rfl, rfl⟩, ?_⟩
      show Tri _ _ _ _
      refine tri_ret ?_
      have hy := Option.some.inj h
      subst hy
      unfold Gives
      exact ⟨_, Le.refl _ _, rfl, rfl⟩
    · replace h := bif_f hb h
      refine tri_skip ?_
      show Tri _ _ _ _
      refine tri_seq ?_
      refine tri_region (by exact tokW) (by exact gok) [] [] rfl ?_
      obtain ⟨y10, hy10, h⟩ := bind_out h
      refine ⟨_, ⟨_, _, _, hy10, rfl, rfl⟩, ?_⟩
      show Tri _ _ _ _
      refine tri_seq ?_
      refine tri_region (by exact tokW) (by exact gok) [8] [] rfl ?_
      obtain ⟨⟨⟨y11_kind, y11_text, y11_cols, y11_kids⟩, y12⟩, hy11, h⟩ := bind_out h
      refine ⟨_, ⟨_, _, _, _, _, _, hy11, rfl, rfl⟩, ?_⟩
      show Tri _ _ _ _
      refine tri_le (Le.giveBox 0 [.int .i64 y11_kind, .str y11_text, .int .i64 y11_cols, .sl 4 (Nd.encs y11_kids)] rfl rfl) ?_
      refine tri_seq ?_
      refine tri_region (by exact tokW) (by exact gok) [10] [] rfl ?_
      obtain ⟨⟨⟨y13_kind, y13_text, y13_cols, y13_kids⟩, y14⟩, hy13, h⟩ := bind_out h
      refine ⟨_, ⟨_, _, _, _, _, _, hy13, rfl, rfl⟩, ?_⟩
      show Tri _ _ _ _
      refine tri_le (Le.giveBox 1 [.int .i64 y13_kind, .str y13_text, .int .i64 y13_cols, .sl 4 (Nd.encs y13_kids)] rfl rfl) ?_
      refine tri_seq ?_
      obtain ⟨x15, hj, h⟩ := bind_out h
      refine tri_post ⟨ofL [(6, .s (.bool x15))], fun _ => none, 0⟩ ?_ (fun σ' hle => ?_)
      · replace h := hj
        refine tri_region (by exact tokW) (by exact gok) [] [49, 54] rfl ?_
        intro b hb
        cases b with
        | true =>
          replace h := bif_t hb.symm h
          obtain ⟨y16, hy16, h⟩ := bind_out h
          refine ⟨_, ⟨_, _, _, _, hy16, rfl, rfl⟩, ?_⟩
          intro b hb
          cases b with
          | true =>
            replace h := bif_t hb.symm h
            obtain ⟨y17, hy17, h⟩ := bind_out h
            refine ⟨_, ⟨_, _, _, hy17, rfl, rfl⟩, ?_⟩
            cases h
            exact (Le.rename [] _ [] 0 ⟨rfl, trivial⟩ trivial rfl rfl rfl rfl rfl)
          | false =>
            replace h := bif_f hb.symm h
            cases h
            exact (Le.rename [] _ [] 0 ⟨rfl, trivial⟩ trivial rfl rfl rfl rfl rfl)
        | false =>
          replace h := bif_f hb.symm h
          intro b hb
          subst hb
          cases h
          exact (Le.rename [] _ [] 0 ⟨rfl, trivial⟩ trivial rfl rfl rfl rfl rfl)
      · show Tri _ _ _ _
        refine tri_le hle ?_
        refine tri_ret ?_
        have hy := Option.some.inj h
        subst hy
        unfold Gives
        exact ⟨_, Le.refl _ _, rfl, rfl⟩
def R_l09_begins (n : Nat) (xs : List AV) (r : Ret) : Prop := ∃ (a0 : List Int) (a1 : List Int) (y0 : Bool), m_l09_begins n a0 a1 = some y0 ∧ xs = [.s (.sl 1 ((List.map (irow .i64)) a0)), .s (.sl 1 ((List.map (irow .i64)) a1))] ∧ r = .val (.s (.bool y0))
def S_l09_begins : PSpec := pspec fun xs r => ∃ n, R_l09_begins n xs r
set_option maxHeartbeats 2000000 in
set_option maxRecDepth 100000 in
theorem ok_l09_begins : PSound Tryd.prog 38 S_l09_begins := by
  have gok : ∀ (f : Nat) (s : PSpec), (fun _ => none : Nat → Option PSpec) f = some s → PSound Tryd.prog f s := fun _ _ h => by cases h
  refine psound tokW Tryd.call38 Tryd.func38 rfl (fun xs r h => by obtain ⟨n, _, _, _, _, rfl, _⟩ := h; show 2 ≤ 26; decide) 26 rfl ?_
  rintro xs r w0 G0 ⟨n, l1, with2, y0, h, rfl, rfl⟩ _
  rw [m_l09_begins] at h
  refine tri_seq ?_
  refine tri_region (by exact tokW) (by exact gok) [] [] rfl ?_
  show Tri _ _ _ _
  refine tri_seq ?_
  refine tri_seq ?_
  refine tri_region (by exact tokW) (by exact gok) [] [7, 9] rfl ?_
  intro n3 hn3
  obtain rfl : (l1.length : Int) = n3 := (hn3.trans (congrArg (fun m : Nat => (m : Int)) (rlen (fun _ => rfl) l1))).symm
  intro n4 hn4
  obtain rfl : (with2.length : Int) = n4 := (hn4.trans (congrArg (fun m : Nat => (m : Int)) (rlen (fun _ => rfl) with2))).symm
  show Tri _ _ _ _
  refine tri_cond rfl (fun hb => ?_) (fun hb => ?_)
  · replace h := bif_t hb h
    refine tri_seq ?_
    refine tri_region (by exact tokW) (by exact gok) [] [] rfl ?_
    show Tri _ _ _ _
    refine tri_ret ?_
    have hy := Option.some.inj h
    subst hy
    unfold Gives
    exact ⟨_, Le.refl _ _, rfl, rfl⟩
  · replace h := bif_f hb h
    refine tri_skip ?_
    show Tri _ _ _ _
    refine tri_seq ?_
    refine tri_seq ?_
    refine tri_region (by exact tokW) (by exact gok) [] [12] rfl ?_
    intro n5 hn5
    obtain rfl : (with2.length : Int) = n5 := (hn5.trans (congrArg (fun m : Nat => (m : Int)) (rlen (fun _ => rfl) with2))).symm
    show Tri _ _ _ _
    obtain ⟨fl, hl, ho1⟩ := bind_out h
    refine tri_fl (fl := fl) (fun z => match z with | _ => ⟨ofL [], fun _ => none, 0⟩) ?_ (fun z σ' hz hle => ?_)
    · refine tri_block (tri_loopI (X := Nat × Int) (fun y => match y with | (k, x6) => ⟨ofL [(0, .s (.sl 1 ((List.map (irow .i64)) l1))), (1, .s (.sl 1 ((List.map (irow .i64)) with2))), (12, .s (.int .i64 (with2.length : Int))), (13, .s (.int .i64 x6))], fun _ => none, 0⟩) (fun y => m_l09_begins_l1 l1 with2 y.1 y.2 = some fl) (fun y => y.1) (n, 0) hl ?_ ?_)
      · exact (Le.forget _ ⟨rfl, rfl, rfl, rfl, trivial⟩)
      · rintro ⟨k, x6⟩ h
        cases k with
        | zero => cases h
        | succ k =>
          replace h : m_l09_begins_l1 l1 with2 (k+1) x6 = some fl := h
          rw [m_l09_begins_l1] at h
          refine tri_seq ?_
          refine tri_region (by exact tokW) (by exact gok) [] [] rfl ?_
          show Tri _ _ _ _
          refine tri_seq ?_
          refine tri_cond rfl (fun hb => ?_) (fun hb => ?_)
          · replace h := bif_t hb h
            refine tri_skip ?_
            show Tri _ _ _ _
            refine tri_seq ?_
            refine tri_block ?_
            refine tri_seq ?_
            refine tri_region (by exact tokW) (by exact gok) [] [] rfl ?_
            show Tri _ _ _ _
            refine tri_seq ?_
            refine tri_drawn (by exact tokW) (by exact gok) (by exact mixed) [] [18, 22] [] rfl (by decide +kernel) ?_
            obtain ⟨e7, he7, h⟩ := bind_out h
            refine And.intro (at_ok (fun _ => rfl) he7).1 ?_
            intro r8 hr8
            obtain rfl : [.int .i64 e7] = r8 := (hr8.trans (at_ok (fun _ => rfl) he7).2.1).symm
            obtain ⟨e9, he9, h⟩ := bind_out h
            refine And.intro (at_ok (fun _ => rfl) he9).1 ?_
            intro r10 hr10
            obtain rfl : [.int .i64 e9] = r10 := (hr10.trans (at_ok (fun _ => rfl) he9).2.1).symm
            show Tri _ _ _ _
            refine tri_cond rfl (fun hb => ?_) (fun hb => ?_)
            · replace h := bif_t hb h
              refine tri_seq ?_
              refine tri_region (by exact tokW) (by exact gok) [] [] rfl ?_
              show Tri _ _ _ _
              refine tri_ret ?_
              cases h
              replace h : some _ = some _ := ho1
              have hy := Option.some.inj h
              subst hy
              unfold Gives
              exact ⟨_, Le.refl _ _, rfl, rfl⟩
            · replace h := bif_f hb h
              refine tri_skip ?_
              show Tri _ _ _ _
              refine tri_region (by exact tokW) (by exact gok) [] [] rfl ?_
              refine ⟨(k, IntKind.i64.wrap (x6 + 1)), h, (Le.forget _ ⟨rfl, rfl, rfl, rfl, trivial⟩), Nat.lt_succ_self k⟩
          · replace h := bif_f hb h
            refine tri_exit ?_
            cases h
            exact ⟨_, rfl, (Le.forget _ trivial)⟩
    · subst hz
      obtain _ := z
      replace h := ho1
      show Tri _ _ _ _
      refine tri_le hle ?_
      refine tri_seq ?_
      refine tri_region (by exact tokW) (by exact gok) [] [] rfl ?_
      show Tri _ _ _ _
      refine tri_ret ?_
      have hy := Option.some.inj h
      subst hy
      unfold Gives
      exact ⟨_, Le.refl _ _, rfl, rfl⟩
def enc_2_s_int (p : (List Int × List Int)) : List S := [.sl 1 ((List.map (irow .i64)) p.1), .sl 1 ((List.map (irow .i64)) p.2)]
def R_l09_NodeReplace (n : Nat) (xs : List AV) (r : Ret) : Prop := ∃ (a0 : Nd) (a1 : Nd) (a2 : (List Int × List Int)) (y0 : Bool), m_l09_NodeReplace n a0 a1 a2 = some y0 ∧ xs = [.agg ((Nd.enc a0).map .s), .agg ((Nd.enc a1).map .s), .agg ((enc_2_s_int a2).map .s)] ∧ r = .val (.s (.bool y0))
def S_l09_NodeReplace : PSpec := pspec fun xs r => ∃ n, R_l09_NodeReplace n xs r
set_option maxHeartbeats 2000000 in
set_option maxRecDepth 100000 in
theorem ok_l09_NodeReplace : PSound Tryd.prog 10 S_l09_NodeReplace := by
  have gok : ∀ f s, look? f [(11, S_l09_awake), (16, S_l09_few), (34, S_node_Row), (32, S_node_With), (19, S_r09_Equal), (23, S_node_Valid), (38, S_l09_begins)] = some s → PSound Tryd.prog f s := look_all (by
    simp only [List.forall_mem_cons]
    exact ⟨ok_l09_awake, ok_l09_few, ok_node_Row, ok_node_With, ok_r09_Equal, ok_node_Valid, ok_l09_begins, by simp⟩)
  refine psound tokW Tryd.call10 Tryd.func10 rfl (fun xs r h => by obtain ⟨n, _, _, _, _, _, rfl, _⟩ := h; show 3 ≤ 133; decide) 133 rfl ?_
  rintro xs r w0 G0 ⟨n, ⟨a1_kind, a1_text, a1_cols, a1_kids⟩, ⟨a2_kind, a2_text, a2_cols, a2_kids⟩, ⟨a3_0, a3_1⟩, y0, h, rfl, rfl⟩ _
  rw [m_l09_NodeReplace] at h
  refine tri_seq ?_
  refine tri_region (by exact tokW) (by exact gok) [] [] rfl ?_
  show Tri _ _ _ _
  refine tri_seq ?_
  refine tri_seq ?_
  obtain ⟨x4, hj, h⟩ := bind_out h
  refine tri_post ⟨ofL [(3, .s (.pt [.int .i64 a1_kind, .str a1_text, .int .i64 a1_cols, .sl 4 (Nd.encs a1_kids)])), (4, .s (.pt [.int .i64 a2_kind, .str a2_text, .int .i64 a2_cols, .sl 4 (Nd.encs a2_kids)])), (5, .s (.pt [.sl 1 ((List.map (irow .i64)) a3_0), .sl 1 ((List.map (irow .i64)) a3_1)])), (44, .s (.bool x4))], fun _ => none, 0⟩ ?_ (fun σ' hle => ?_)
  · replace h := hj
    refine tri_region (by exact tokW) (by exact gok) [] [23, 28, 33, 36, 39, 42] rfl ?_
    obtain ⟨y5, hy5, h⟩ := bind_out h
    refine ⟨_, ⟨_, _, hy5, rfl, rfl⟩, ?_⟩
    intro b hb
    cases b with
    | true =>
      replace h := bif_t hb.symm h
      intro b hb
      subst hb
      intro b hb
      subst hb
      intro b hb
      subst hb
      cases h
      exact (Le.forget _ ⟨rfl, rfl, rfl, rfl, trivial⟩)
    | false =>
      replace h := bif_f hb.symm h
      obtain ⟨y6, hy6, h⟩ := bind_out h
      refine ⟨_, ⟨_, _, _, hy6, rfl, rfl⟩, ?_⟩
      intro b hb
      cases b with
      | true =>
        replace h := bif_t hb.symm h
        intro b hb
        subst hb
        intro b hb
        subst hb
        cases h
        exact (Le.forget _ ⟨rfl, rfl, rfl, rfl, trivial⟩)
      | false =>
        replace h := bif_f hb.symm h
        obtain ⟨y7, hy7, h⟩ := bind_out h
        refine ⟨_, ⟨_, _, _, hy7, rfl, rfl⟩, ?_⟩
        intro b hb
        cases b with
        | true =>
          replace h := bif_t hb.symm h
          intro b hb
          subst hb
          cases h
          exact (Le.forget _ ⟨rfl, rfl, rfl, rfl, trivial⟩)
        | false =>
          replace h := bif_f hb.symm h
          refine And.intro (by decide) ?_
          intro n8 hn8
          obtain rfl : (a3_0.length : Int) = n8 := (hn8.trans (congrArg (fun m : Nat => (m : Int)) (rlen (fun _ => rfl) a3_0))).symm
          intro b hb
          cases b with
          | true =>
            replace h := bif_t hb.symm h
            cases h
            exact (Le.forget _ ⟨rfl, rfl, rfl, rfl, trivial⟩)
          | false =>
            replace h := bif_f hb.symm h
            refine And.intro (by decide) ?_
            intro n9 hn9
            obtain rfl : (a3_1.length : Int) = n9 := (hn9.trans (congrArg (fun m : Nat => (m : Int)) (rlen (fun _ => rfl) a3_1))).symm
            cases h
            exact (Le.forget _ ⟨rfl, rfl, rfl, rfl, trivial⟩)
  · show Tri _ _ _ _
    refine tri_le hle ?_
    refine tri_cond rfl (fun hb => ?_) (fun hb => ?_)
    · replace h := bif_t hb h
      refine tri_seq ?_
      refine tri_region (by exact tokW) (by exact gok) [] [] rfl ?_
      obtain ⟨y10, hy10, h⟩ := bind_out h
      refine ⟨_, ⟨_, _, hy10, rfl, rfl⟩, ?_⟩
      show Tri _ _ _ _
      refine tri_ret ?_
      have hy := Option.some.inj h
      subst hy
      unfold Gives
      exact ⟨_, Le.refl _ _, rfl, rfl⟩
    · replace h := bif_f hb h
      refine tri_skip ?_
      show Tri _ _ _ _
      refine tri_seq ?_
      refine tri_drawn (by exact tokW) (by exact gok) (by exact mixed) [] [] [] rfl (by decide +kernel) ?_
      refine And.intro (by decide) ?_
      refine And.intro (by decide) ?_
      show Tri _ _ _ _
      refine tri_seq ?_
      refine tri_region (by exact tokW) (by exact gok) [9] [] rfl ?_
      obtain ⟨⟨⟨y11_kind, y11_text, y11_cols, y11_kids⟩, y12⟩, hy11, h⟩ := bind_out h
      refine ⟨_, ⟨_, _, _, _, _, hy11, rfl, rfl⟩, ?_⟩
      show Tri _ _ _ _
      refine tri_le (Le.giveBox 0 [.int .i64 y11_kind, .str y11_text, .int .i64 y11_cols, .sl 4 (Nd.encs y11_kids)] rfl rfl) ?_
      refine tri_seq ?_
      refine tri_region (by exact tokW) (by exact gok) [11] [] rfl ?_
      obtain ⟨⟨⟨y13_kind, y13_text, y13_cols, y13_kids⟩, y14⟩, hy13, h⟩ := bind_out h
      refine ⟨_, ⟨_, _, _, _, _, _, hy13, rfl, rfl⟩, ?_⟩
      show Tri _ _ _ _
      refine tri_le (Le.giveBox 1 [.int .i64 y13_kind, .str y13_text, .int .i64 y13_cols, .sl 4 (Nd.encs y13_kids)] rfl rfl) ?_
      refine tri_seq ?_
      refine tri_seq ?_
      obtain ⟨x15, hj, h⟩ := bind_out h
      refine tri_post ⟨ofL [(3, .s (.pt [.int .i64 a1_kind, .str a1_text, .int .i64 a1_cols, .sl 4 (Nd.encs a1_kids)])), (4, .s (.pt [.int .i64 a2_kind, .str a2_text, .int .i64 a2_cols, .sl 4 (Nd.encs a2_kids)])), (7, .s (.sl 1 ((List.map (irow .i64)) a3_0))), (8, .s (.sl 1 ((List.map (irow .i64)) a3_1))), (9, .s (.pt [.int .i64 y11_kind, .str y11_text, .int .i64 y11_cols, .sl 4 (Nd.encs y11_kids)])), (11, .s (.pt [.int .i64 y13_kind, .str y13_text, .int .i64 y13_cols, .sl 4 (Nd.encs y13_kids)])), (68, .s (.bool x15))], fun _ => none, 0⟩ ?_ (fun σ' hle => ?_)
      · replace h := hj
        refine tri_region (by exact tokW) (by exact gok) [] [65] rfl ?_
        intro b hb
        cases b with
        | true =>
          replace h := bif_t hb.symm h
          cases h
          exact (Le.rename [] _ [] 0 ⟨rfl, rfl, rfl, rfl, rfl, rfl, rfl, trivial⟩ trivial rfl rfl rfl rfl rfl)
        | false =>
          replace h := bif_f hb.symm h
          cases h
          exact (Le.rename [] _ [] 0 ⟨rfl, rfl, rfl, rfl, rfl, rfl, rfl, trivial⟩ trivial rfl rfl rfl rfl rfl)
      · show Tri _ _ _ _
        refine tri_le hle ?_
        refine tri_cond rfl (fun hb => ?_) (fun hb => ?_)
        · replace h := bif_t hb h
          refine tri_seq ?_
          refine tri_region (by exact tokW) (by exact gok) [] [] rfl ?_
          show Tri _ _ _ _
          refine tri_ret ?_
          have hy := Option.some.inj h
          subst hy
          unfold Gives
          exact ⟨_, Le.refl _ _, rfl, rfl⟩
        · replace h := bif_f hb h
          refine tri_skip ?_
          show Tri _ _ _ _
          refine tri_seq ?_
          refine tri_region (by exact tokW) (by exact gok) [13] [] rfl ?_
          obtain ⟨⟨⟨y16_kind, y16_text, y16_cols, y16_kids⟩, y17⟩, hy16, h⟩ := bind_out h
          refine ⟨_, ⟨_, _, _, _, _, hy16, rfl, rfl⟩, ?_⟩
          show Tri _ _ _ _
          refine tri_le (Le.giveBox 0 [.int .i64 y16_kind, .str y16_text, .int .i64 y16_cols, .sl 4 (Nd.encs y16_kids)] rfl rfl) ?_
          refine tri_seq ?_
          refine tri_region (by exact tokW) (by exact gok) [15] [] rfl ?_
          obtain ⟨⟨⟨y18_kind, y18_text, y18_cols, y18_kids⟩, y19⟩, hy18, h⟩ := bind_out h
          refine ⟨_, ⟨_, _, _, _, _, _, hy18, rfl, rfl⟩, ?_⟩
          show Tri _ _ _ _
          refine tri_le (Le.giveBox 1 [.int .i64 y18_kind, .str y18_text, .int .i64 y18_cols, .sl 4 (Nd.encs y18_kids)] rfl rfl) ?_
          refine tri_seq ?_
          refine tri_seq ?_
          obtain ⟨x20, hj, h⟩ := bind_out h
          refine tri_post ⟨ofL [(3, .s (.pt [.int .i64 a1_kind, .str a1_text, .int .i64 a1_cols, .sl 4 (Nd.encs a1_kids)])), (7, .s (.sl 1 ((List.map (irow .i64)) a3_0))), (8, .s (.sl 1 ((List.map (irow .i64)) a3_1))), (11, .s (.pt [.int .i64 y13_kind, .str y13_text, .int .i64 y13_cols, .sl 4 (Nd.encs y13_kids)])), (104, .s (.bool x20))], fun _ => none, 0⟩ ?_ (fun σ' hle => ?_)
          · replace h := hj
            refine tri_region (by exact tokW) (by exact gok) [] [84, 88, 94, 100] rfl ?_
            intro b hb
            cases b with
            | true =>
              replace h := bif_t hb.symm h
              intro b hb
              subst hb
              intro b hb
              subst hb
              intro b hb
              subst hb
              cases h
              exact (Le.rename [] _ [] 0 ⟨rfl, rfl, rfl, rfl, rfl, trivial⟩ trivial rfl rfl rfl rfl rfl)
            | false =>
              replace h := bif_f hb.symm h
              intro b hb
              cases b with
              | true =>
                replace h := bif_t hb.symm h
                intro b hb
                subst hb
                intro b hb
                subst hb
                cases h
                exact (Le.rename [] _ [] 0 ⟨rfl, rfl, rfl, rfl, rfl, trivial⟩ trivial rfl rfl rfl rfl rfl)
              | false =>
                replace h := bif_f hb.symm h
                obtain ⟨y21, hy21, h⟩ := bind_out h
                refine ⟨_, ⟨_, _, _, _, hy21, rfl, rfl⟩, ?_⟩
                intro b hb
                cases b with
                | true =>
                  replace h := bif_t hb.symm h
                  intro b hb
                  subst hb
                  cases h
                  exact (Le.rename [] _ [] 0 ⟨rfl, rfl, rfl, rfl, rfl, trivial⟩ trivial rfl rfl rfl rfl rfl)
                | false =>
                  replace h := bif_f hb.symm h
                  obtain ⟨y22, hy22, h⟩ := bind_out h
                  refine ⟨_, ⟨_, _, _, _, hy22, rfl, rfl⟩, ?_⟩
                  intro b hb
                  cases b with
                  | true =>
                    replace h := bif_t hb.symm h
                    cases h
                    exact (Le.rename [] _ [] 0 ⟨rfl, rfl, rfl, rfl, rfl, trivial⟩ trivial rfl rfl rfl rfl rfl)
                  | false =>
                    replace h := bif_f hb.symm h
                    obtain ⟨y23, hy23, h⟩ := bind_out h
                    refine ⟨_, ⟨_, _, _, hy23, rfl, rfl⟩, ?_⟩
                    cases h
                    exact (Le.rename [] _ [] 0 ⟨rfl, rfl, rfl, rfl, rfl, trivial⟩ trivial rfl rfl rfl rfl rfl)
          · show Tri _ _ _ _
            refine tri_le hle ?_
            refine tri_cond rfl (fun hb => ?_) (fun hb => ?_)
            · replace h := bif_t hb h
              refine tri_seq ?_
              refine tri_region (by exact tokW) (by exact gok) [] [] rfl ?_
              show Tri _ _ _ _
              refine tri_ret ?_
              have hy := Option.some.inj h
              subst hy
              unfold Gives
              exact ⟨_, Le.refl _ _, rfl, rfl⟩
            · replace h := bif_f hb h
              refine tri_skip ?_
              show Tri _ _ _ _
              refine tri_seq ?_
              refine tri_seq ?_
              obtain ⟨x24, hj, h⟩ := bind_out h
              refine tri_post ⟨ofL [(3, .s (.pt [.int .i64 a1_kind, .str a1_text, .int .i64 a1_cols, .sl 4 (Nd.encs a1_kids)])), (8, .s (.sl 1 ((List.map (irow .i64)) a3_1))), (11, .s (.pt [.int .i64 y13_kind, .str y13_text, .int .i64 y13_cols, .sl 4 (Nd.encs y13_kids)])), (112, .s (.bool x24))], fun _ => none, 0⟩ ?_ (fun σ' hle => ?_)
              · replace h := hj
                refine tri_region (by exact tokW) (by exact gok) [] [108] rfl ?_
                obtain ⟨y25, hy25, h⟩ := bind_out h
                refine ⟨_, ⟨_, _, _, _, hy25, rfl, rfl⟩, ?_⟩
                intro b hb
                cases b with
                | true =>
                  replace h := bif_t hb.symm h
                  cases h
                  exact (Le.forget _ ⟨rfl, rfl, rfl, rfl, trivial⟩)
                | false =>
                  replace h := bif_f hb.symm h
                  obtain ⟨y26, hy26, h⟩ := bind_out h
                  refine ⟨_, ⟨_, _, _, _, hy26, rfl, rfl⟩, ?_⟩
                  cases h
                  exact (Le.forget _ ⟨rfl, rfl, rfl, rfl, trivial⟩)
              · show Tri _ _ _ _
                refine tri_le hle ?_
                refine tri_cond rfl (fun hb => ?_) (fun hb => ?_)
                · replace h := bif_t hb h
                  refine tri_seq ?_
                  refine tri_region (by exact tokW) (by exact gok) [] [] rfl ?_
                  show Tri _ _ _ _
                  refine tri_ret ?_
                  have hy := Option.some.inj h
                  subst hy
                  unfold Gives
                  exact ⟨_, Le.refl _ _, rfl, rfl⟩
                · replace h := bif_f hb h
                  refine tri_skip ?_
                  show Tri _ _ _ _
                  refine tri_seq ?_
                  refine tri_region (by exact tokW) (by exact gok) [17] [] rfl ?_
                  obtain ⟨⟨⟨y27_kind, y27_text, y27_cols, y27_kids⟩, y28⟩, hy27, h⟩ := bind_out h
                  refine ⟨_, ⟨_, _, _, _, _, hy27, rfl, rfl⟩, ?_⟩
                  show Tri _ _ _ _
                  refine tri_le (Le.giveBox 0 [.int .i64 y27_kind, .str y27_text, .int .i64 y27_cols, .sl 4 (Nd.encs y27_kids)] rfl rfl) ?_
                  refine tri_seq ?_
                  refine tri_region (by exact tokW) (by exact gok) [19] [] rfl ?_
                  obtain ⟨⟨⟨y29_kind, y29_text, y29_cols, y29_kids⟩, y30⟩, hy29, h⟩ := bind_out h
                  refine ⟨_, ⟨_, _, _, _, _, hy29, rfl, rfl⟩, ?_⟩
                  show Tri _ _ _ _
                  refine tri_le (Le.giveBox 1 [.int .i64 y29_kind, .str y29_text, .int .i64 y29_cols, .sl 4 (Nd.encs y29_kids)] rfl rfl) ?_
                  refine tri_seq ?_
                  obtain ⟨x31, hj, h⟩ := bind_out h
                  refine tri_post ⟨ofL [(6, .s (.bool x31))], fun _ => none, 0⟩ ?_ (fun σ' hle => ?_)
                  · replace h := hj
                    refine tri_region (by exact tokW) (by exact gok) [] [128] rfl ?_
                    intro b hb
                    cases b with
                    | true =>
                      replace h := bif_t hb.symm h
                      obtain ⟨y32, hy32, h⟩ := bind_out h
                      refine ⟨_, ⟨_, _, _, _, hy32, rfl, rfl⟩, ?_⟩
                      cases h
                      exact (Le.rename [] _ [] 0 ⟨rfl, trivial⟩ trivial rfl rfl rfl rfl rfl)
                    | false =>
                      replace h := bif_f hb.symm h
                      cases h
                      exact (Le.rename [] _ [] 0 ⟨rfl, trivial⟩ trivial rfl rfl rfl rfl rfl)
                  · show Tri _ _ _ _
                    refine tri_le hle ?_
                    refine tri_ret ?_
                    have hy := Option.some.inj h
                    subst hy
                    unfold Gives
                    exact ⟨_, Le.refl _ _, rfl, rfl⟩
end Go.Proofs.YtefbmooajknmgaaDoor
set_option linter.unusedVariables false
namespace Go.Proofs.YtefbmooajknmgaaDoor
open Go.Abs
theorem typed_nd {n : Nat} {ss : List S} (h : Typed T n 26 ss) : ∃ t : Nd, ss = t.enc ∧ t.rng :=
  typed_node (T := T) (e := 26) (s := 24) (ki := 3) (st := 9) rfl rfl rfl rfl rfl rfl rfl rfl rfl n h
end Go.Proofs.YtefbmooajknmgaaDoor
set_option linter.unusedVariables false
namespace Go.Proofs.YtefbmooajknmgaaDoor
open Go.Abs
theorem typed_path {n : Nat} {ss : List S} (h : Typed T n 33 ss) : ∃ l : List Int, ss = [.sl 1 (l.map (irow .i64))] ∧ ∀ x ∈ l, in64i x := by
  obtain ⟨l, rfl, _, hx⟩ := typed_ints (T := T) (k := .i64) (e := 3) rfl rfl rfl rfl h
  have e1 : IntKind.i64.min = -9223372036854775808 ∧ IntKind.i64.max = 9223372036854775807 := by decide
  rw [e1.1, e1.2] at hx
  exact ⟨l, rfl, hx⟩
end Go.Proofs.YtefbmooajknmgaaDoor
set_option linter.unusedVariables false
namespace Go.Proofs.YtefbmooajknmgaaDoor
open Go.Abs
theorem dec_t {φ : Prop} [Decidable φ] (h : φ) : decide φ = true := decide_eq_true h
theorem dec_f {φ : Prop} [Decidable φ] (h : ¬ φ) : decide φ = false := decide_eq_false h
theorem r09_Count_loop {F : Nd → Option Int} {ks : List Nd} (hF : ∀ v ∈ ks, F v = some (v.cnt : Int)) :
    ∀ (k i : Nat) (o : Nat), ks.length - i < k → i ≤ ks.length → o + Nd.cnts (ks.drop i) ≤ 1073741824 → ks.length ≤ 1073741824 → m_r09_Count_l1 F ks k (o : Int) (i : Int) = some ((o + Nd.cnts (ks.drop i) : Nat) : Int)
  | 0, _, _, h, _, _, _ => by omega
  | k + 1, i, o, hk, hi, ho, hl => by
    unfold m_r09_Count_l1
    by_cases h : i < ks.length
    · rw [dec_t (Int.ofNat_lt.2 h), cond_true, at_get h]
      have hd := Nd.cnts_drop h
      have hf := hF _ (List.getElem_mem h)
      rcases e : ks[i] with ⟨a, b, c, d⟩
      rw [e] at hd hf
      simp only [Option.bind_some, hf]
      rw [wrap64_in (by omega) (by omega), wi_succ (by omega), ← Int.natCast_add, r09_Count_loop hF k (i + 1) _ (by omega) (by omega) (by omega) hl, hd]
      congr 2; omega
    · rw [dec_f (by omega), cond_false]
      obtain rfl : i = ks.length := by omega
      simp [Nd.cnts]
theorem r09_Count_eq : ∀ (n : Nat) (t : Nd), t.cnt < n → t.cnt ≤ 67108864 → m_r09_Count n t = some (t.cnt : Int)
  | 0, _, h, _ => by omega
  | n + 1, .mk a b c ks, h, hb => by
    simp only [Nd.cnt] at h hb
    have hl := Nd.cnts_len ks
    unfold m_r09_Count
    have := r09_Count_loop (F := m_r09_Count n) (ks := ks) (fun v hv => r09_Count_eq n v (by have := Nd.cnts_mem hv; omega) (by have := Nd.cnts_mem hv; omega)) n 0 1 (by omega) (by omega) (by simp; omega) (by omega)
    rw [show ((0 : Nat) : Int) = 0 from rfl, show ((1 : Nat) : Int) = 1 from rfl] at this
    rw [this]
    simp only [Option.bind_some, List.drop_zero, Nd.cnt]
    congr 2; omega
theorem left_loop {F : Nd → Int → Option Int} {ks : List Nd} {b : Nat} (hF : ∀ (v : Nd) (m : Nat), m ≤ b → ∃ r, F v (m : Int) = some r ∧ -1 ≤ r ∧ r < m ∧ (0 ≤ r → r + v.cnt = m)) :
    ∀ (k i : Nat) (m : Int), m + 1 < k → -1 ≤ m → m ≤ b → i ≤ ks.length → (i : Int) + m < 4611686018427387904 → ∃ r, m_r09_left_l1 F ks k m (i : Int) = some r ∧ -1 ≤ r ∧ r ≤ m ∧ (0 ≤ r → r + Nd.cnts (ks.drop i) = m)
  | 0, _, _, h, _, _, _, _ => by omega
  | k + 1, i, m, hk, hm, hb, hi, hx => by
    unfold m_r09_left_l1
    by_cases h : i < ks.length
    · rw [dec_t (Int.ofNat_lt.2 h), cond_true]
      simp only [Option.bind_some]
      by_cases h0 : 0 ≤ m
      · rw [dec_t h0, cond_true, at_get h]
        have hd := Nd.cnts_drop h
        rcases e : ks[i] with ⟨e1, e2, e3, e4⟩
        rw [e] at hd
        simp only [Option.bind_some]
        obtain ⟨m', rfl⟩ := Int.eq_ofNat_of_zero_le h0
        obtain ⟨r, h1, h2, h3, h4⟩ := hF (.mk e1 e2 e3 e4) m' (by omega)
        rw [h1, Option.bind_some, wi_succ (by omega)]
        obtain ⟨r', g1, g2, g3, g4⟩ := left_loop (ks := ks) hF k (i + 1) r (by omega) h2 (by omega) (by omega) (by omega)
        exact ⟨r', g1, g2, by omega, fun g => by have := g4 g; have := h4 (by omega); omega⟩
      · rw [dec_f h0, cond_false]
        exact ⟨m, rfl, hm, Int.le_refl _, fun g => by omega⟩
    · rw [dec_f (by omega), cond_false]
      simp only [Option.bind_some, cond_false]
      obtain rfl : i = ks.length := by omega
      exact ⟨m, rfl, hm, Int.le_refl _, fun _ => by simp [Nd.cnts]⟩
theorem left_eq : ∀ (n : Nat) (t : Nd) (m : Nat), m + 1 < n → m ≤ 67108864 → ∃ r, m_r09_left n t (m : Int) = some r ∧ -1 ≤ r ∧ r < m ∧ (0 ≤ r → r + t.cnt = m)
  | 0, _, _, h, _ => by omega
  | n + 1, .mk a b c ks, m, h, hm => by
    unfold m_r09_left
    rw [wrap64_in (by omega) (by omega)]
    cases m with
    | zero =>
      cases n with
      | zero => omega
      | succ n =>
        refine ⟨-1, ?_, by omega, by omega, fun h => by omega⟩
        unfold m_r09_left_l1
        cases decide (((0 : Nat) : Int) < (ks.length : Int)) <;> simp <;> rfl
    | succ m =>
      obtain ⟨r, h1, h2, h3, h4⟩ := left_loop (F := m_r09_left n) (ks := ks) (b := m) (fun v q hq => left_eq n v q (by omega) (by omega)) n 0 (m : Int) (by omega) (by omega) (by omega) (by omega) (by omega)
      rw [show ((0 : Nat) : Int) = 0 from rfl] at h1
      rw [show ((m + 1 : Nat) : Int) - 1 = (m : Int) by omega, h1]
      exact ⟨r, rfl, h2, by omega, fun g => by have := h4 g; rw [List.drop_zero] at this; simp only [Nd.cnt]; omega⟩
theorem Few_eq (n : Nat) (t : Nd) (m : Nat) (h : m + 1 < n) (hm : m ≤ 67108864) : ∃ b, m_r09_Few n t (m : Int) = some b ∧ (b = true → t.cnt ≤ m) := by
  obtain ⟨a, b, c, ks⟩ := t
  obtain ⟨r, h1, h2, h3, h4⟩ := left_eq n (.mk a b c ks) m h hm
  refine ⟨decide (0 ≤ r), by simp [m_r09_Few, h1], fun g => by have g0 := of_decide_eq_true g; have := h4 g0; omega⟩
end Go.Proofs.YtefbmooajknmgaaDoor
set_option linter.unusedVariables false
namespace Go.Proofs.YtefbmooajknmgaaDoor
open Go.Abs
def allFl {α : Type} (p : α → Bool) (l : List α) : Fl Bool Unit := if l.all p then .go () else .ret false
theorem all_drop {α : Type} {p : α → Bool} {l : List α} {i : Nat} (h : i < l.length) : (l.drop i).all p = (p l[i] && (l.drop (i + 1)).all p) := by
  rw [List.drop_eq_getElem_cons h]; rfl
theorem any_drop {α : Type} {p : α → Bool} {l : List α} {i : Nat} (h : i < l.length) : (l.drop i).any p = (p l[i] || (l.drop (i + 1)).any p) := by
  rw [List.drop_eq_getElem_cons h]; rfl
theorem loop_all {α : Type} {p : α → Bool} {l : List α} (L : Nat → Int → Option (Fl Bool Unit)) (hb : l.length ≤ 1073741824)
    (h1 : ∀ (k i : Nat) (h : i < l.length), L (k + 1) (i : Int) = if p l[i] then L k (((i + 1 : Nat)) : Int) else some (.ret false)) (h2 : ∀ k, L (k + 1) (l.length : Int) = some (.go ())) :
    ∀ (k i : Nat), l.length - i < k → i ≤ l.length → L k (i : Int) = some (allFl p (l.drop i))
  | 0, _, h, _ => by omega
  | k + 1, i, hk, hi => by
    by_cases h : i < l.length
    · rw [h1 k i h, loop_all L hb h1 h2 k (i + 1) (by omega) (by omega)]
      unfold allFl
      rw [all_drop h]
      cases p l[i] <;> simp
    · obtain rfl : i = l.length := by omega
      rw [h2]; simp [allFl]
theorem loop_any {α : Type} {p : α → Bool} {l : List α} (L : Nat → Int → Option (Fl Bool Unit)) (hb : l.length ≤ 1073741824)
    (h1 : ∀ (k i : Nat) (h : i < l.length), L (k + 1) (i : Int) = if p l[i] then some (.ret true) else L k (((i + 1 : Nat)) : Int)) (h2 : ∀ k, L (k + 1) (l.length : Int) = some (.go ())) :
    ∀ (k i : Nat), l.length - i < k → i ≤ l.length → L k (i : Int) = some (if (l.drop i).any p then .ret true else .go ())
  | 0, _, h, _ => by omega
  | k + 1, i, hk, hi => by
    by_cases h : i < l.length
    · rw [h1 k i h, loop_any L hb h1 h2 k (i + 1) (by omega) (by omega), any_drop h]
      cases p l[i] <;> simp
    · obtain rfl : i = l.length := by omega
      rw [h2]; simp
theorem u8_all {P : UInt8 → Bool} (h : (List.range 256).all (fun n => P n.toUInt8) = true) (b : UInt8) : P b = true := by
  have : P (UInt8.ofNat b.toNat) = true := List.all_eq_true.1 h b.toNat (List.mem_range.2 b.toNat_lt)
  rwa [UInt8.ofNat_toNat] at this
def letterB (b : UInt8) : Bool := (decide (97 ≤ b.toNat) && decide (b.toNat ≤ 122)) || (decide (65 ≤ b.toNat) && decide (b.toNat ≤ 90))
def digitB (b : UInt8) : Bool := decide (48 ≤ b.toNat) && decide (b.toNat ≤ 57)
def printB (b : UInt8) : Bool := decide (32 ≤ b.toNat) && decide (b.toNat ≤ 126)
theorem byte_letter1 (b : UInt8) : (bif decide ((bitOp .or .u8 (b.toNat : Int) 32) < 97) then some true else some (decide (122 < (bitOp .or .u8 (b.toNat : Int) 32)))) = some (!letterB b) :=
  of_decide_eq_true (u8_all (P := fun b => decide ((bif decide ((bitOp .or .u8 (b.toNat : Int) 32) < 97) then some true else some (decide (122 < (bitOp .or .u8 (b.toNat : Int) 32)))) = some (!letterB b))) (by decide +kernel) b)
theorem byte_letter2 (b : UInt8) : m_r09_Letter (b.toNat : Int) = some (letterB b) :=
  of_decide_eq_true (u8_all (P := fun b => decide (m_r09_Letter (b.toNat : Int) = some (letterB b))) (by decide +kernel) b)
theorem byte_digit2 (b : UInt8) : m_r09_Digit (b.toNat : Int) = some (digitB b) :=
  of_decide_eq_true (u8_all (P := fun b => decide (m_r09_Digit (b.toNat : Int) = some (digitB b))) (by decide +kernel) b)
theorem node_letters_eq (n : Nat) (s : List UInt8) (h : s.length < n) (hb : s.length ≤ 1073741824) : m_node_letters n s = some (s.all letterB) := by
  have := loop_all (p := letterB) (l := s) (m_node_letters_l1 s) hb (fun k i h => by
    rw [m_node_letters_l1, dec_t (Int.ofNat_lt.2 h), cond_true, at_get h]
    simp only [Option.bind_some, byte_letter1]
    rw [wi_succ (by omega)]
    cases letterB s[i] <;> rfl) (fun k => by rw [m_node_letters_l1, dec_f (by omega)]; rfl) n 0 (by omega) (by omega)
  rw [show ((0 : Nat) : Int) = 0 from rfl, List.drop_zero] at this
  rw [m_node_letters, this]
  unfold allFl
  cases s.all letterB <;> rfl
theorem r09_letters_eq (n : Nat) (s : List UInt8) (h : s.length < n) (hb : s.length ≤ 1073741824) : m_r09_Symbol_l1 s n 0 = some (allFl letterB s) := by
  have := loop_all (p := letterB) (l := s) (m_r09_Symbol_l1 s) hb (fun k i h => by
    rw [m_r09_Symbol_l1, dec_t (Int.ofNat_lt.2 h), cond_true, at_get h]
    simp only [Option.bind_some, byte_letter2]
    rw [wi_succ (by omega)]
    cases letterB s[i] <;> rfl) (fun k => by rw [m_r09_Symbol_l1, dec_f (by omega)]; rfl) n 0 (by omega) (by omega)
  rwa [show ((0 : Nat) : Int) = 0 from rfl, List.drop_zero] at this
theorem r09_has_eq (n : Nat) (s : List UInt8) (c : Int) (h : s.length < n) (hb : s.length ≤ 1073741824) : m_r09_has n s c = some (s.any fun b => (b.toNat : Int) == c) := by
  have := loop_any (p := fun b => (b.toNat : Int) == c) (l := s) (m_r09_has_l1 s c) hb (fun k i h => by
    rw [m_r09_has_l1, dec_t (Int.ofNat_lt.2 h), cond_true, at_get h]
    simp only [Option.bind_some]
    rw [wi_succ (by omega)]
    cases ((s[i].toNat : Int) == c) <;> rfl) (fun k => by rw [m_r09_has_l1, dec_f (by omega)]; rfl) n 0 (by omega) (by omega)
  rw [show ((0 : Nat) : Int) = 0 from rfl, List.drop_zero] at this
  rw [m_r09_has, this]
  cases s.any fun b => (b.toNat : Int) == c <;> rfl
theorem r09_In_eq (n : Nat) (l : List (List UInt8)) (s : List UInt8) (h : l.length < n) (hb : l.length ≤ 1073741824) : m_r09_In n l s = some (l.any fun e => e == s) := by
  have := loop_any (p := fun e => e == s) (l := l) (m_r09_In_l1 l s) hb (fun k i h => by
    rw [m_r09_In_l1, dec_t (Int.ofNat_lt.2 h), cond_true, at_get h]
    simp only [Option.bind_some]
    rw [wi_succ (by omega)]
    cases (l[i] == s) <;> rfl) (fun k => by rw [m_r09_In_l1, dec_f (by omega)]; rfl) n 0 (by omega) (by omega)
  rw [show ((0 : Nat) : Int) = 0 from rfl, List.drop_zero] at this
  rw [m_r09_In, this]
  cases l.any fun e => e == s <;> rfl
theorem node_digits_eq (n : Nat) (s : List UInt8) (h : s.length < n) (hb : s.length ≤ 1073741824) : m_node_digits n s = some (s.all digitB && !(s == [])) := by
  have := loop_all (p := digitB) (l := s) (m_node_digits_l1 s) hb (fun k i h => by
    rw [m_node_digits_l1, dec_t (Int.ofNat_lt.2 h), cond_true, at_get h]
    simp only [Option.bind_some]
    rw [wi_succ (by omega)]
    unfold digitB
    by_cases a : 48 ≤ s[i].toNat
    · by_cases b : s[i].toNat ≤ 57
      · simp [a, b, show ¬ ((s[i].toNat : Int) < 48) by omega, show ¬ (57 < (s[i].toNat : Int)) by omega]
      · simp [a, b, show ¬ ((s[i].toNat : Int) < 48) by omega, show (57 < (s[i].toNat : Int)) by omega]
    · simp [a, show ((s[i].toNat : Int) < 48) by omega]) (fun k => by rw [m_node_digits_l1, dec_f (by omega)]; rfl) n 0 (by omega) (by omega)
  rw [show ((0 : Nat) : Int) = 0 from rfl, List.drop_zero] at this
  rw [m_node_digits, this]
  unfold allFl
  cases s.all digitB <;> rfl
theorem print_bit (b : UInt8) : (bif decide ((b.toNat : Int) < 32) then some true else some (decide (126 < (b.toNat : Int))) : Option Bool) = some (!printB b) := by
  unfold printB
  by_cases a : 32 ≤ b.toNat
  · by_cases c : b.toNat ≤ 126
    · simp [a, c, show ¬ ((b.toNat : Int) < 32) by omega, show ¬ (126 < (b.toNat : Int)) by omega]
    · simp [a, c, show ¬ ((b.toNat : Int) < 32) by omega, show (126 < (b.toNat : Int)) by omega]
  · simp [a, show ((b.toNat : Int) < 32) by omega]
theorem node_plain_eq (n : Nat) (s : List UInt8) (h : s.length < n) (hb : s.length ≤ 1073741824) : m_node_plain n s = some (s.all printB && decide ((s.length : Int) ≤ 200)) := by
  have := loop_all (p := printB) (l := s) (m_node_plain_l1 s) hb (fun k i h => by
    rw [m_node_plain_l1, dec_t (Int.ofNat_lt.2 h), cond_true, at_get h]
    simp only [Option.bind_some, print_bit]
    rw [wi_succ (by omega)]
    cases printB s[i] <;> rfl) (fun k => by rw [m_node_plain_l1, dec_f (by omega)]; rfl) n 0 (by omega) (by omega)
  rw [show ((0 : Nat) : Int) = 0 from rfl, List.drop_zero] at this
  rw [m_node_plain, this]
  unfold allFl
  cases s.all printB <;> rfl
theorem r09_Printable_eq (n : Nat) (s : List UInt8) (h : s.length < n) (hb : s.length ≤ 1073741824) : m_r09_Printable n s = some (s.all printB) := by
  have := loop_all (p := printB) (l := s) (m_r09_Printable_l1 s) hb (fun k i h => by
    rw [m_r09_Printable_l1, dec_t (Int.ofNat_lt.2 h), cond_true, at_get h]
    simp only [Option.bind_some, print_bit]
    rw [wi_succ (by omega)]
    cases printB s[i] <;> rfl) (fun k => by rw [m_r09_Printable_l1, dec_f (by omega)]; rfl) n 0 (by omega) (by omega)
  rw [show ((0 : Nat) : Int) = 0 from rfl, List.drop_zero] at this
  rw [m_r09_Printable, this]
  unfold allFl
  cases s.all printB <;> rfl
end Go.Proofs.YtefbmooajknmgaaDoor
set_option linter.unusedVariables false
set_option linter.unusedSimpArgs false
namespace Go.Proofs.YtefbmooajknmgaaDoor
open Go.Abs
def spL : List UInt8 := [43, 45, 42, 47, 61, 60, 62, 44, 59, 58, 33, 124, 39, 63, 126, 64]
def fsL : List UInt8 := [40, 41, 91, 93, 123, 125, 60, 62, 47, 124, 46]
def kwL : List (List UInt8) := [[102, 114, 97, 99], [114, 111, 111, 116], [109, 97, 116, 114, 105, 120], [102, 101, 110, 99, 101]]
def acL : List (List UInt8) := [[104, 97, 116], [98, 97, 114], [118, 101, 99], [100, 111, 116], [116, 105, 108, 100, 101], [99, 104, 101, 99, 107]]
def spB (c : UInt8) : Bool := decide (0 ≤ Lib.indexByte spL c)
def fsB (c : UInt8) : Bool := decide (0 ≤ Lib.indexByte fsL c)
theorem byte_sp (c : UInt8) : (spL.any fun b => (b.toNat : Int) == (c.toNat : Int)) = spB c :=
  of_decide_eq_true (u8_all (P := fun c => decide ((spL.any fun b => (b.toNat : Int) == (c.toNat : Int)) = spB c)) (by decide +kernel) c)
theorem byte_fs (c : UInt8) : (([40, 41, 91, 93, 123, 125, 124, 60, 62, 47, 46] : List UInt8).any fun b => (b.toNat : Int) == (c.toNat : Int)) = fsB c :=
  of_decide_eq_true (u8_all (P := fun c => decide ((([40, 41, 91, 93, 123, 125, 124, 60, 62, 47, 46] : List UInt8).any fun b => (b.toNat : Int) == (c.toNat : Int)) = fsB c)) (by decide +kernel) c)
theorem byte_fs1 (c : UInt8) : Lib.indexByte fsL ((c.toNat : Int).toNat.toUInt8) = Lib.indexByte fsL c := by
  rw [Int.toNat_natCast]; congr 1; exact UInt8.ofNat_toNat
theorem bcomm (e s : List UInt8) : (e == s) = (s == e) := by
  rw [Bool.eq_iff_iff]; simp only [beq_iff_eq]; exact eq_comm
theorem node_keyword_eq (s : List UInt8) : m_node_keyword s = some (kwL.any fun e => e == s) := by
  simp only [m_node_keyword, kwL, List.any_cons, List.any_nil, bcomm [102, 114, 97, 99] s, bcomm [114, 111, 111, 116] s, bcomm [109, 97, 116, 114, 105, 120] s, bcomm [102, 101, 110, 99, 101] s]
  generalize (s == [102, 114, 97, 99]) = b1
  generalize (s == [114, 111, 111, 116]) = b2
  generalize (s == [109, 97, 116, 114, 105, 120]) = b3
  generalize (s == [102, 101, 110, 99, 101]) = b4
  cases b1 <;> cases b2 <;> cases b3 <;> cases b4 <;> rfl
theorem node_accent_eq (s : List UInt8) : m_node_accent s = some (acL.any fun e => e == s) := by
  simp only [m_node_accent, acL, List.any_cons, List.any_nil, bcomm [104, 97, 116] s, bcomm [98, 97, 114] s, bcomm [118, 101, 99] s, bcomm [100, 111, 116] s, bcomm [116, 105, 108, 100, 101] s, bcomm [99, 104, 101, 99, 107] s]
  generalize (s == [104, 97, 116]) = b1
  generalize (s == [98, 97, 114]) = b2
  generalize (s == [118, 101, 99]) = b3
  generalize (s == [100, 111, 116]) = b4
  generalize (s == [116, 105, 108, 100, 101]) = b5
  generalize (s == [99, 104, 101, 99, 107]) = b6
  cases b1 <;> cases b2 <;> cases b3 <;> cases b4 <;> cases b5 <;> cases b6 <;> rfl
def symB (s : List UInt8) : Bool :=
  if s.length = 1 then s.all letterB || s.all spB
  else s.all letterB && (decide (2 ≤ s.length) && (decide (s.length ≤ 16) && (!(kwL.any fun e => e == s) && !(acL.any fun e => e == s))))
theorem len1 (s : List UInt8) : ((s.length : Int) == 1) = decide (s.length = 1) := by
  by_cases h : s.length = 1
  · simp [h]
  · rw [dec_f h]
    cases e : ((s.length : Int) == 1) with
    | false => rfl
    | true => have := eq_of_beq e; omega
theorem cast_le (a b : Nat) : decide ((a : Int) ≤ (b : Int)) = decide (a ≤ b) := by
  by_cases h : a ≤ b
  · rw [dec_t h, dec_t (by omega)]
  · rw [dec_f h, dec_f (by omega)]
theorem cast_lt (a b : Nat) : decide ((a : Int) < (b : Int)) = decide (a < b) := by
  by_cases h : a < b
  · rw [dec_t h, dec_t (by omega)]
  · rw [dec_f h, dec_f (by omega)]
theorem node_Symbol_eq (n : Nat) (s : List UInt8) (h : s.length + 40 < n) (hb : s.length ≤ 1073741824) : m_node_Symbol n s = some (symB s) := by
  rw [m_node_Symbol, len1, node_letters_eq n s (by omega) hb]
  unfold symB
  by_cases h1 : s.length = 1
  · rw [dec_t h1, if_pos h1]
    obtain ⟨c, rfl⟩ := List.length_eq_one_iff.1 h1
    have : m_strings_Contains [43, 45, 42, 47, 61, 60, 62, 44, 59, 58, 33, 124, 39, 63, 126, 64] [c] = some (spB c) := rfl
    simp only [cond_true, Option.bind_some, this, List.all_cons, List.all_nil, Bool.and_true]
    cases letterB c <;> rfl
  · rw [dec_f h1, if_neg h1]
    have e2 := cast_le 2 s.length
    have e16 := cast_le s.length 16
    rw [show ((2 : Nat) : Int) = 2 from rfl] at e2
    rw [show ((16 : Nat) : Int) = 16 from rfl] at e16
    simp only [cond_false, Option.bind_some, node_keyword_eq, node_accent_eq, e2, e16]
    cases s.all letterB <;> cases decide (2 ≤ s.length) <;> cases decide (s.length ≤ 16) <;> cases (kwL.any fun e => e == s) <;> rfl
theorem r09_Symbol_eq (n : Nat) (s : List UInt8) (h : s.length + 40 < n) (hb : s.length ≤ 1073741824) : m_r09_Symbol n s = some (symB s) := by
  rw [m_r09_Symbol, len1, r09_letters_eq n s (by omega) hb]
  unfold symB
  by_cases h1 : s.length = 1
  · rw [dec_t h1, if_pos h1]
    obtain ⟨c, rfl⟩ := List.length_eq_one_iff.1 h1
    have e1 : at? [c] (0 : Int) = some c := rfl
    have e2 : m_r09_has n [43, 45, 42, 47, 61, 60, 62, 44, 59, 58, 33, 124, 39, 63, 126, 64] (c.toNat : Int) = some (spB c) := by
      rw [r09_has_eq n _ _ (by simp only [List.length_cons, List.length_nil]; omega) (by simp only [List.length_cons, List.length_nil]; omega)]
      exact congrArg some (byte_sp c)
    simp only [cond_true, Option.bind_some, e1, m_r09_Character, byte_letter2, e2, List.all_cons, List.all_nil, Bool.and_true]
    cases letterB c <;> rfl
  · rw [dec_f h1, if_neg h1]
    have e2 := cast_le 2 s.length
    have e16 := cast_le s.length 16
    rw [show ((2 : Nat) : Int) = 2 from rfl] at e2
    rw [show ((16 : Nat) : Int) = 16 from rfl] at e16
    have ek : m_r09_In n kwL s = some (kwL.any fun e => e == s) := r09_In_eq n kwL s (by simp only [kwL, List.length_cons, List.length_nil]; omega) (by simp [kwL])
    have ea : m_r09_In n acL s = some (acL.any fun e => e == s) := r09_In_eq n acL s (by simp only [acL, List.length_cons, List.length_nil]; omega) (by simp [acL])
    have k1 : m_r09_Keywords = some kwL := rfl
    have a1 : m_r09_Accents = some acL := rfl
    unfold allFl
    simp only [cond_false, Option.bind_some, k1, a1, ek, ea, e2, e16]
    cases s.all letterB <;> cases decide (2 ≤ s.length) <;> cases decide (s.length ≤ 16) <;> cases (kwL.any fun e => e == s) <;> rfl
def fenB (s : List UInt8) : Bool := decide (s.length = 2) && s.all fsB
theorem len2 (s : List UInt8) : ((s.length : Int) == 2) = decide (s.length = 2) := by
  by_cases h : s.length = 2
  · simp [h]
  · rw [dec_f h]
    cases e : ((s.length : Int) == 2) with
    | false => rfl
    | true => have := eq_of_beq e; omega
theorem node_fence_eq (s : List UInt8) : m_node_fence s = some (fenB s) := by
  rw [m_node_fence, len2]
  unfold fenB
  by_cases h1 : s.length = 2
  · rw [dec_t h1]
    match s, h1 with
    | [c, d], _ =>
      have e0 : at? [c, d] (0 : Int) = some c := rfl
      have e1 : at? [c, d] (1 : Int) = some d := rfl
      have f : ∀ c : UInt8, m_strings_IndexByte [40, 41, 91, 93, 123, 125, 60, 62, 47, 124, 46] (c.toNat : Int) = some (Lib.indexByte fsL c) := fun c => congrArg some (byte_fs1 c)
      have g : ∀ c : UInt8, decide (0 ≤ Lib.indexByte fsL c) = fsB c := fun c => rfl
      simp only [cond_true, e0, e1, f, Option.bind_some, g, List.all_cons, List.all_nil, Bool.and_true, Bool.true_and]
      cases fsB c <;> rfl
  · rw [dec_f h1]; rfl
theorem r09_fence_eq (n : Nat) (s : List UInt8) (h : 40 < n) : (bif ((s.length : Int) == 2) then (
                (at? s 0).bind fun c9 =>
                (m_r09_has n [40, 41, 91, 93, 123, 125, 124, 60, 62, 47, 46] (c9.toNat : Int)).bind fun y11 =>
                bif y11 then (
                  (at? s 1).bind fun c12 =>
                  (m_r09_has n [40, 41, 91, 93, 123, 125, 124, 60, 62, 47, 46] (c12.toNat : Int)).bind fun y14 =>
                  some y14
                ) else (
                  some false
                )
              ) else (
                some false
              )) = some (fenB s) := by
  rw [len2]
  unfold fenB
  by_cases h1 : s.length = 2
  · rw [dec_t h1]
    match s, h1 with
    | [c, d], _ =>
      have e0 : at? [c, d] (0 : Int) = some c := rfl
      have e1 : at? [c, d] (1 : Int) = some d := rfl
      have f : ∀ c : UInt8, m_r09_has n [40, 41, 91, 93, 123, 125, 124, 60, 62, 47, 46] (c.toNat : Int) = some (fsB c) := fun c => by
        rw [r09_has_eq n _ _ (by simp only [List.length_cons, List.length_nil]; omega) (by simp only [List.length_cons, List.length_nil]; omega)]
        exact congrArg some (byte_fs c)
      simp only [cond_true, e0, e1, f, Option.bind_some, List.all_cons, List.all_nil, Bool.and_true, Bool.true_and]
      cases fsB c <;> rfl
  · rw [dec_f h1]; rfl
def okL (L : Nat) : Nat → List UInt8 → Bool
  | _, [] => true
  | i, c :: r => ((c == 46 && (decide (0 < i) && decide (i + 1 < L))) || digitB c) && okL L (i + 1) r
def numB (s : List UInt8) : Bool := okL s.length 0 s && (decide (0 < s.length) && (decide (s.length ≤ 20) && decide (s.count 46 ≤ 1)))
theorem byte46 (c : UInt8) : ((c.toNat : Int) == 46) = (c == 46) :=
  of_decide_eq_true (u8_all (P := fun c => decide (((c.toNat : Int) == 46) = (c == 46))) (by decide +kernel) c)
theorem dig46 : digitB 46 = false := by decide
theorem num_loop (s : List UInt8) (hb : s.length ≤ 1073741824) : ∀ (k i p : Nat), s.length - i < k → i ≤ s.length → p ≤ i →
    m_r09_Number_l1 s k (p : Int) (i : Int) = some (if okL s.length i (s.drop i) then .go ((p + (s.drop i).count 46 : Nat) : Int) else .ret false)
  | 0, _, _, h, _, _ => by omega
  | k + 1, i, p, hk, hi, hp => by
    unfold m_r09_Number_l1
    by_cases h : i < s.length
    · rw [dec_t (Int.ofNat_lt.2 h), cond_true, at_get h, List.drop_eq_getElem_cons h]
      generalize s[i] = c
      simp only [Option.bind_some, byte46, byte_digit2, okL, List.count_cons]
      rw [wi_succ (by omega), wi_succ (by omega), wrap64_in (by omega) (by omega)]
      have d1 : decide ((0 : Int) < (i : Int)) = decide (0 < i) := cast_lt 0 i
      have d2 : decide ((i : Int) < (s.length : Int) - 1) = decide (i + 1 < s.length) := by
        by_cases h : i + 1 < s.length
        · rw [dec_t h, dec_t (by omega)]
        · rw [dec_f h, dec_f (by omega)]
      rw [d1, d2]
      cases e : c == 46 with
      | true =>
        obtain rfl : c = 46 := eq_of_beq e
        simp only [cond_true, dig46, Bool.true_and, Bool.or_false]
        cases decide (0 < i) with
        | false => rfl
        | true =>
          simp only [cond_true, Option.bind_some, Bool.true_and]
          cases decide (i + 1 < s.length) with
          | false => rfl
          | true =>
            simp only [cond_true, Option.bind_some, Bool.true_and]
            rw [num_loop s hb k (i + 1) (p + 1) (by omega) (by omega) (by omega)]
            simp only [if_true]
            rw [show p + 1 + (s.drop (i + 1)).count 46 = p + ((s.drop (i + 1)).count 46 + 1) by omega]
      | false =>
        simp only [cond_false, Option.bind_some, Bool.false_and, Bool.false_or]
        cases digitB c with
        | false => rfl
        | true =>
          simp only [Bool.not_true, cond_false, Option.bind_some, Bool.true_and]
          rw [num_loop s hb k (i + 1) p (by omega) (by omega) (by omega)]
          simp
    · rw [dec_f (by omega), cond_false]
      obtain rfl : i = s.length := by omega
      simp [okL]
theorem r09_Number_eq (n : Nat) (s : List UInt8) (h : s.length < n) (hb : s.length ≤ 1073741824) : m_r09_Number n s = some (numB s) := by
  have := num_loop s hb n 0 0 (by omega) (by omega) (by omega)
  rw [show ((0 : Nat) : Int) = 0 from rfl, List.drop_zero] at this
  rw [m_r09_Number, this]
  unfold numB
  have e0 := cast_lt 0 s.length
  have e20 := cast_le s.length 20
  have e1 := cast_le (s.count 46) 1
  rw [show ((0 : Nat) : Int) = 0 from rfl] at e0
  rw [show ((20 : Nat) : Int) = 20 from rfl] at e20
  rw [show ((1 : Nat) : Int) = 1 from rfl] at e1
  cases okL s.length 0 s with
  | false => rfl
  | true =>
    simp only [if_true, Option.bind_some, e0, e20, Nat.zero_add, e1]
    cases decide (0 < s.length) <;> cases decide (s.length ≤ 20) <;> rfl
theorem cut_cases : ∀ s : List UInt8, (s.count 46 = 0 ∧ Lib.indexByte s 46 = -1) ∨ ∃ a b, s = a ++ 46 :: b ∧ a.count 46 = 0 ∧ Lib.indexByte s 46 = (a.length : Int)
  | [] => .inl ⟨rfl, rfl⟩
  | c :: s => by
    by_cases h : c = 46
    · subst h
      exact .inr ⟨[], s, rfl, rfl, by simp [Lib.indexByte]⟩
    · have hc : (c == 46) = false := by simpa using h
      rcases cut_cases s with ⟨h1, h2⟩ | ⟨a, b, rfl, h1, h2⟩
      · exact .inl ⟨by rw [List.count_cons, h1, hc]; rfl, by simp [Lib.indexByte, hc, h2]⟩
      · refine .inr ⟨c :: a, b, rfl, by rw [List.count_cons, h1, hc]; rfl, ?_⟩
        have h3 : ((a.length : Int) == -1) = false := by
          cases e : ((a.length : Int) == -1) with
          | false => rfl
          | true => have := eq_of_beq e; omega
        simp [Lib.indexByte, hc, h2, h3]
theorem okL_plain (L : Nat) : ∀ (i : Nat) (a : List UInt8), a.count 46 = 0 → okL L i a = a.all digitB
  | _, [], _ => rfl
  | i, c :: a, h => by
    have hc : (c == 46) = false := by
      cases e : c == 46 with
      | false => rfl
      | true => rw [List.count_cons, e] at h; simp at h
    rw [List.count_cons, hc] at h
    rw [okL, hc, okL_plain L (i + 1) a (by simpa using h)]
    simp
theorem okL_append (L : Nat) : ∀ (i : Nat) (a b : List UInt8), okL L i (a ++ b) = (okL L i a && okL L (i + a.length) b)
  | _, [], b => by simp [okL]
  | i, c :: a, b => by
    simp only [List.cons_append, okL, okL_append L (i + 1) a b, List.length_cons, Bool.and_assoc, show i + 1 + a.length = i + (a.length + 1) by omega]
theorem dig_no46 : ∀ a : List UInt8, a.all digitB = true → a.count 46 = 0
  | [], _ => rfl
  | c :: a, h => by
    simp only [List.all_cons, Bool.and_eq_true] at h
    have hc : (c == 46) = false := by
      cases e : c == 46 with
      | false => rfl
      | true => obtain rfl : c = 46 := eq_of_beq e; simp [dig46] at h
    rw [List.count_cons, hc, dig_no46 a h.2]; rfl
theorem num_cut (a b : List UInt8) (ha : a.count 46 = 0) : numB (a ++ 46 :: b) = (decide ((a ++ 46 :: b).length ≤ 20) && ((a.all digitB && !(a == [])) && (b.all digitB && !(b == [])))) := by
  unfold numB
  have hl : (a ++ 46 :: b).length = a.length + (b.length + 1) := by simp
  rw [okL_append, okL_plain _ _ a ha, hl]
  simp only [okL, dig46, Bool.or_false, List.count_append, List.count_cons, ha, beq_self_eq_true, Bool.true_and, if_true, Nat.zero_add]
  have e1 : decide (0 < a.length) = !(a == []) := by cases a <;> rfl
  have e2 : decide (a.length + 1 < a.length + (b.length + 1)) = !(b == []) := by
    cases b with
    | nil => simp
    | cons c b => simp
  have e3 : decide (0 < a.length + (b.length + 1)) = true := dec_t (by omega)
  rw [e1, e2, e3]
  cases hb : b.all digitB with
  | true =>
    rw [okL_plain _ _ b (dig_no46 b hb), hb, dig_no46 b hb]
    cases a.all digitB <;> cases a == [] <;> cases b == [] <;> cases decide (a.length + (b.length + 1) ≤ 20) <;> rfl
  | false =>
    cases hc : decide (b.count 46 + 1 ≤ 1) with
    | true =>
      have : b.count 46 = 0 := by have := of_decide_eq_true hc; omega
      rw [okL_plain _ _ b this, hb]
      cases a.all digitB <;> cases a == [] <;> cases b == [] <;> cases decide (a.length + (b.length + 1) ≤ 20) <;> rfl
    | false =>
      generalize okL _ _ b = z
      cases z <;> cases a.all digitB <;> cases a == [] <;> cases b == [] <;> cases decide (a.length + (b.length + 1) ≤ 20) <;> rfl
theorem num_plain (s : List UInt8) (h : s.count 46 = 0) : numB s = (decide (s.length ≤ 20) && (s.all digitB && !(s == []))) := by
  unfold numB
  rw [okL_plain _ _ s h, h]
  have e1 : decide (0 < s.length) = !(s == []) := by cases s <;> rfl
  rw [e1]
  cases s.all digitB <;> cases s == [] <;> cases decide (s.length ≤ 20) <;> rfl
theorem node_Number_eq (n : Nat) (s : List UInt8) (h : s.length < n) (hb : s.length ≤ 1073741824) : m_node_Number n s = some (numB s) := by
  have e20 := cast_le s.length 20
  rw [show ((20 : Nat) : Int) = 20 from rfl] at e20
  have hi : m_stringslite_Index s [46] = some (Lib.indexByte s 46) := rfl
  rcases cut_cases s with ⟨h1, h2⟩ | ⟨a, b, rfl, h1, h2⟩
  · rw [num_plain s h1]
    simp only [m_node_Number, m_strings_Cut, m_stringslite_Cut, hi, h2, Option.bind_some, show decide ((0 : Int) ≤ -1) = false from rfl, cond_false, e20, node_digits_eq n s h hb]
    cases decide (s.length ≤ 20) <;> cases (s.all digitB && !(s == [])) <;> rfl
  · have hl : (a ++ 46 :: b).length = a.length + (b.length + 1) := by simp
    rw [num_cut a b h1]
    have w1 : IntKind.i64.wrap ((a.length : Int) + (([46] : List UInt8).length : Int)) = ((a.length + 1 : Nat) : Int) := wi_succ (by omega)
    have t1 : ((a ++ 46 :: b).take ((a.length : Int)).toNat).drop (0 : Int).toNat = a := by simp
    have t2 : ((a ++ 46 :: b).take (((a ++ 46 :: b).length : Int)).toNat).drop (((a.length + 1 : Nat) : Int)).toNat = b := by
      rw [Int.toNat_natCast, Int.toNat_natCast, List.take_length, List.drop_append]
      simp
    simp only [m_node_Number, m_strings_Cut, m_stringslite_Cut, hi, h2, Option.bind_some, w1]
    rw [dec_t (by omega), cond_true, req_t (by omega), req_t (by omega), t1, t2]
    simp only [Option.bind_some, e20, node_digits_eq n a (by omega) (by omega), node_digits_eq n b (by omega) (by omega)]
    cases decide ((a ++ 46 :: b).length ≤ 20) <;> cases (a.all digitB && !(a == [])) <;> cases (b.all digitB && !(b == [])) <;> rfl
end Go.Proofs.YtefbmooajknmgaaDoor
set_option linter.unusedVariables false
set_option linter.unusedSimpArgs false
namespace Go.Proofs.YtefbmooajknmgaaDoor
open Go.Abs
def Nd.kind : Nd → Int | .mk k _ _ _ => k
def textB (k : Int) (t : List UInt8) : Bool :=
  if k = 2 then symB t else if k = 3 then numB t else if k = 4 then (decide (t.length ≤ 200) && t.all printB) else if k = 10 then acL.any (fun e => e == t) else if k = 11 then fenB t else t == []
def kidsB (k c : Int) (m : Int) : Bool :=
  if k = 12 then decide (1 ≤ c) && (decide (c ≤ 16) && (decide (1 ≤ m) && (decide (m ≤ 256) && (m.tmod c == 0))))
  else (c == 0) && (if k = 1 then decide (m ≤ 200) else if k = 2 then m == 0 else if k = 3 then m == 0 else if k = 4 then m == 0 else if k = 5 then m == 2 else if k = 6 then m == 2 else if k = 7 then m == 2 else if k = 8 then m == 2
    else if k = 9 then m == 3 else if k = 10 then m == 1 else if k = 11 then m == 1 else false)
mutual
def formB : Nd → Bool
  | .mk k t c ks => (textB k t && kidsB k c (ks.length : Int)) && formsB k ks
def formsB : Int → List Nd → Bool
  | _, [] => true
  | k, v :: vs => (!((v.kind == 1) == (k == 1)) && formB v) && formsB k vs
end
mutual
def Nd.dep : Nd → Nat
  | .mk _ _ _ ks => Nd.deps ks + 1
def Nd.deps : List Nd → Nat
  | [] => 0
  | v :: vs => Nat.max v.dep (Nd.deps vs)
end
theorem forms_drop {k : Int} {a : List Nd} {i : Nat} (h : i < a.length) : formsB k (a.drop i) = ((!((a[i].kind == 1) == (k == 1)) && formB a[i]) && formsB k (a.drop (i + 1))) := by
  rw [List.drop_eq_getElem_cons h]; rfl
theorem deps_drop {a : List Nd} {i : Nat} (h : i < a.length) : Nd.deps (a.drop i) = Nat.max (a[i]).dep (Nd.deps (a.drop (i + 1))) := by
  rw [List.drop_eq_getElem_cons h]; rfl
mutual
theorem Nd.dep_cnt : ∀ v : Nd, v.dep ≤ v.cnt
  | .mk _ _ _ ks => by have := Nd.deps_cnts ks; simp only [Nd.dep, Nd.cnt]; omega
theorem Nd.deps_cnts : ∀ vs : List Nd, Nd.deps vs ≤ Nd.cnts vs
  | [] => Nat.le_refl _
  | v :: vs => by
    have := Nd.dep_cnt v; have := Nd.deps_cnts vs
    simp only [Nd.deps, Nd.cnts]
    exact Nat.max_le.2 ⟨by omega, by omega⟩
end
mutual
theorem Nd.cnt_w : ∀ v : Nd, v.cnt ≤ v.w
  | .mk _ t _ ks => by have := Nd.cnts_ws ks; simp only [Nd.cnt, Nd.w]; omega
theorem Nd.cnts_ws : ∀ vs : List Nd, Nd.cnts vs ≤ Nd.ws vs
  | [] => Nat.le_refl _
  | v :: vs => by have := Nd.cnt_w v; have := Nd.cnts_ws vs; simp only [Nd.cnts, Nd.ws]; omega
end
theorem ne_beq {a b : Int} (h : a ≠ b) : (a == b) = false := by
  cases e : (a == b) with
  | false => rfl
  | true => exact absurd (eq_of_beq e) h
theorem r09_text_eq (n : Nat) (k : Int) (t : List UInt8) (c : Int) (ks : List Nd) (h : t.length + 40 < n) (hb : t.length ≤ 1073741824) : m_r09_text n (.mk k t c ks) = some (textB k t) := by
  have e200 := cast_le t.length 200
  rw [show ((200 : Nat) : Int) = 200 from rfl] at e200
  have ea : m_r09_In n acL t = some (acL.any fun e => e == t) := r09_In_eq n acL t (by simp only [acL, List.length_cons, List.length_nil]; omega) (by simp [acL])
  have a1 : m_r09_Accents = some acL := rfl
  unfold m_r09_text textB
  dsimp only
  by_cases h2 : k = 2
  · subst h2; simp only [beq_self_eq_true, cond_true, r09_Symbol_eq n t h hb, Option.bind_some, if_true]
  rw [ne_beq h2, if_neg h2, cond_false]
  by_cases h3 : k = 3
  · subst h3; simp only [beq_self_eq_true, cond_true, r09_Number_eq n t (by omega) hb, Option.bind_some, if_true]
  rw [ne_beq h3, if_neg h3, cond_false]
  by_cases h4 : k = 4
  · subst h4; simp only [beq_self_eq_true, cond_true, r09_Printable_eq n t (by omega) hb, Option.bind_some, if_true, e200]
    cases decide (t.length ≤ 200) <;> rfl
  rw [ne_beq h4, if_neg h4, cond_false]
  by_cases h10 : k = 10
  · subst h10; simp only [beq_self_eq_true, cond_true, a1, ea, Option.bind_some, if_true]
  rw [ne_beq h10, if_neg h10, cond_false]
  by_cases h11 : k = 11
  · subst h11; rw [if_pos rfl, beq_self_eq_true, cond_true, r09_fence_eq n t (by omega)]; rfl
  rw [ne_beq h11, if_neg h11, cond_false]
theorem kinds (k : Int) : k = 1 ∨ k = 2 ∨ k = 3 ∨ k = 4 ∨ k = 5 ∨ k = 6 ∨ k = 7 ∨ k = 8 ∨ k = 9 ∨ k = 10 ∨ k = 11 ∨ k = 12 ∨ (k < 1 ∨ 12 < k) := by omega
theorem r09_kids_eq (k : Int) (t : List UInt8) (c : Int) (ks : List Nd) : m_r09_kids (.mk k t c ks) = some (kidsB k c (ks.length : Int)) := by
  unfold m_r09_kids
  dsimp only
  generalize (ks.length : Int) = m
  rcases kinds k with rfl | rfl | rfl | rfl | rfl | rfl | rfl | rfl | rfl | rfl | rfl | rfl | h
  · simp only [bne, kidsB]; generalize (c == 0) = z; generalize decide (m ≤ 200) = y; cases z <;> rfl
  · simp only [bne, kidsB]; generalize (c == 0) = z; generalize (m == 0) = y; cases z <;> rfl
  · simp only [bne, kidsB]; generalize (c == 0) = z; generalize (m == 0) = y; cases z <;> rfl
  · simp only [bne, kidsB]; generalize (c == 0) = z; generalize (m == 0) = y; cases z <;> rfl
  · simp only [bne, kidsB]; generalize (c == 0) = z; generalize (m == 2) = y; cases z <;> rfl
  · simp only [bne, kidsB]; generalize (c == 0) = z; generalize (m == 2) = y; cases z <;> rfl
  · simp only [bne, kidsB]; generalize (c == 0) = z; generalize (m == 2) = y; cases z <;> rfl
  · simp only [bne, kidsB]; generalize (c == 0) = z; generalize (m == 2) = y; cases z <;> rfl
  · simp only [bne, kidsB]; generalize (c == 0) = z; generalize (m == 3) = y; cases z <;> rfl
  · simp only [bne, kidsB]; generalize (c == 0) = z; generalize (m == 1) = y; cases z <;> rfl
  · simp only [bne, kidsB]; generalize (c == 0) = z; generalize (m == 1) = y; cases z <;> rfl
  · unfold kidsB
    rw [if_pos rfl, beq_self_eq_true, cond_true]
    by_cases h1 : 1 ≤ c
    · rw [dec_t h1, req_t (by omega)]
      generalize (m.tmod c == 0) = y
      cases decide (c ≤ 16) <;> cases decide (1 ≤ m) <;> cases decide (m ≤ 256) <;> rfl
    · rw [dec_f h1]; rfl
  · have e : ∀ i : Int, 1 ≤ i → i ≤ 12 → (k == i) = false := fun i h1 h2 => ne_beq (by omega)
    have f : ∀ i : Int, 1 ≤ i → i ≤ 12 → k ≠ i := fun i h1 h2 => by omega
    unfold kidsB
    rw [if_neg (f 12 (by decide) (by decide)), if_neg (f 1 (by decide) (by decide)), if_neg (f 2 (by decide) (by decide)), if_neg (f 3 (by decide) (by decide)), if_neg (f 4 (by decide) (by decide)), if_neg (f 5 (by decide) (by decide)),
      if_neg (f 6 (by decide) (by decide)), if_neg (f 7 (by decide) (by decide)), if_neg (f 8 (by decide) (by decide)), if_neg (f 9 (by decide) (by decide)), if_neg (f 10 (by decide) (by decide)), if_neg (f 11 (by decide) (by decide))]
    rw [e 12 (by decide) (by decide), e 1 (by decide) (by decide), e 2 (by decide) (by decide), e 3 (by decide) (by decide), e 4 (by decide) (by decide), e 5 (by decide) (by decide),
      e 6 (by decide) (by decide), e 7 (by decide) (by decide), e 8 (by decide) (by decide), e 9 (by decide) (by decide), e 10 (by decide) (by decide), e 11 (by decide) (by decide)]
    cases (c == 0) <;> cases (c != 0) <;> rfl
theorem own_eq (n : Nat) (x : Int) (k : Int) (t : List UInt8) (c : Int) (ks : List Nd) (h : t.length + 40 < n) (hb : t.length ≤ 1073741824) :
    m_node_checker_own n ((), x) (.mk k t c ks) = some (textB k t && kidsB k c (ks.length : Int), ((), x)) := by
  have e200 := cast_le t.length 200
  rw [show ((200 : Nat) : Int) = 200 from rfl] at e200
  unfold m_node_checker_own
  dsimp only
  generalize (ks.length : Int) = m
  have em : m_node_empty t = some (t == []) := rfl
  rcases kinds k with rfl | rfl | rfl | rfl | rfl | rfl | rfl | rfl | rfl | rfl | rfl | rfl | h
  · simp only [em]
    show _ = some ((t == []) && ((c == 0) && decide (m ≤ 200)), ((), x))
    cases t == [] <;> cases c == 0 <;> rfl
  · simp only [node_Symbol_eq n t h hb]
    show _ = some (symB t && ((c == 0) && (m == 0)), ((), x))
    cases symB t <;> cases c == 0 <;> rfl
  · simp only [node_Number_eq n t (by omega) hb]
    show _ = some (numB t && ((c == 0) && (m == 0)), ((), x))
    cases numB t <;> cases c == 0 <;> rfl
  · simp only [node_plain_eq n t (by omega) hb, e200]
    show _ = some ((decide (t.length ≤ 200) && t.all printB) && ((c == 0) && (m == 0)), ((), x))
    cases decide (t.length ≤ 200) <;> cases t.all printB <;> cases c == 0 <;> rfl
  · simp only [em]
    show _ = some ((t == []) && ((c == 0) && (m == 2)), ((), x))
    cases t == [] <;> cases c == 0 <;> rfl
  · simp only [em]
    show _ = some ((t == []) && ((c == 0) && (m == 2)), ((), x))
    cases t == [] <;> cases c == 0 <;> rfl
  · simp only [em]
    show _ = some ((t == []) && ((c == 0) && (m == 2)), ((), x))
    cases t == [] <;> cases c == 0 <;> rfl
  · simp only [em]
    show _ = some ((t == []) && ((c == 0) && (m == 2)), ((), x))
    cases t == [] <;> cases c == 0 <;> rfl
  · simp only [em]
    show _ = some ((t == []) && ((c == 0) && (m == 3)), ((), x))
    cases t == [] <;> cases c == 0 <;> rfl
  · simp only [node_accent_eq]
    show _ = some ((acL.any fun e => e == t) && ((c == 0) && (m == 1)), ((), x))
    cases (acL.any fun e => e == t) <;> cases c == 0 <;> rfl
  · simp only [node_fence_eq]
    show _ = some (fenB t && ((c == 0) && (m == 1)), ((), x))
    cases fenB t <;> cases c == 0 <;> rfl
  · simp only [em]
    show _ = some ((t == []) && (decide (1 ≤ c) && (decide (c ≤ 16) && (decide (1 ≤ m) && (decide (m ≤ 256) && (m.tmod c == 0))))), ((), x))
    by_cases h1 : 1 ≤ c
    · rw [dec_t h1, req_t (by omega)]
      generalize (m.tmod c == 0) = y
      cases t == [] <;> cases decide (c ≤ 16) <;> cases decide (1 ≤ m) <;> cases decide (m ≤ 256) <;> rfl
    · rw [dec_f h1]
      cases t == [] <;> rfl
  · have f : ∀ i : Int, 1 ≤ i → i ≤ 12 → k ≠ i := fun i h1 h2 => by omega
    have hk : kidsB k c m = false := by
      unfold kidsB
      rw [if_neg (f 12 (by decide) (by decide)), if_neg (f 1 (by decide) (by decide)), if_neg (f 2 (by decide) (by decide)), if_neg (f 3 (by decide) (by decide)), if_neg (f 4 (by decide) (by decide)), if_neg (f 5 (by decide) (by decide)),
        if_neg (f 6 (by decide) (by decide)), if_neg (f 7 (by decide) (by decide)), if_neg (f 8 (by decide) (by decide)), if_neg (f 9 (by decide) (by decide)), if_neg (f 10 (by decide) (by decide)), if_neg (f 11 (by decide) (by decide))]
      exact Bool.and_false _
    rw [hk, Bool.and_false]
    by_cases h1 : k < 1
    · rw [dec_t h1]; rfl
    · rw [dec_f h1, dec_t (show 12 < k by omega)]; rfl
theorem r09_form_loop {F : Nd → Option Bool} {k : Int} {ks : List Nd} (hF : ∀ v ∈ ks, F v = some (formB v)) (hl : ks.length ≤ 1073741824) :
    ∀ (q i : Nat), ks.length - i < q → i ≤ ks.length → m_r09_form_l1 F k ks q (i : Int) = some (if formsB k (ks.drop i) then .go () else .ret false)
  | 0, _, h, _ => by omega
  | q + 1, i, hq, hi => by
    unfold m_r09_form_l1
    by_cases h : i < ks.length
    · rw [dec_t (Int.ofNat_lt.2 h), cond_true, at_get h]
      have hf := hF _ (List.getElem_mem h)
      have g1 := forms_drop (k := k) h
      rcases e : ks[i] with ⟨a, b, c, d⟩
      rw [e] at hf g1
      simp only [Nd.kind] at g1
      generalize formsB k (ks.drop i) = g at g1 ⊢
      subst g1
      simp only [Option.bind_some, hf]
      rw [wi_succ (by omega), r09_form_loop hF hl q (i + 1) (by omega) (by omega)]
      cases ((a == 1) == (k == 1)) <;> cases formB (Nd.mk a b c d) <;> simp
    · rw [dec_f (by omega), cond_false]
      obtain rfl : i = ks.length := by omega
      simp [formsB]
theorem r09_form_eq : ∀ (n : Nat) (t : Nd), t.w + 45 < n → t.w ≤ 1073741824 → m_r09_form n t = some (formB t)
  | 0, _, h, _ => by omega
  | n + 1, .mk k t c ks, h, hb => by
    simp only [Nd.w] at h hb
    have hl := Nd.ws_len ks
    unfold m_r09_form
    rw [r09_text_eq n k t c ks (by omega) (by omega), r09_kids_eq]
    have := r09_form_loop (F := m_r09_form n) (k := k) (ks := ks) (fun v hv => r09_form_eq n v (by have := Nd.w_mem hv; omega) (by have := Nd.w_mem hv; omega)) (by omega) n 0 (by omega) (by omega)
    rw [show ((0 : Nat) : Int) = 0 from rfl, List.drop_zero] at this
    simp only [Option.bind_some, this, formB]
    cases textB k t <;> cases kidsB k c (ks.length : Int) <;> cases formsB k ks <;> rfl
theorem r09_Depth_loop {F : Nd → Option Int} {ks : List Nd} (hF : ∀ v ∈ ks, F v = some (v.dep : Int)) (hl : ks.length ≤ 1073741824) :
    ∀ (q i o : Nat), ks.length - i < q → i ≤ ks.length → m_r09_Depth_l1 F ks q (o : Int) (i : Int) = some ((Nat.max o (Nd.deps (ks.drop i)) : Nat) : Int)
  | 0, _, _, h, _ => by omega
  | q + 1, i, o, hq, hi => by
    unfold m_r09_Depth_l1
    by_cases h : i < ks.length
    · rw [dec_t (Int.ofNat_lt.2 h), cond_true, at_get h, deps_drop h]
      have hf := hF _ (List.getElem_mem h)
      rcases e : ks[i] with ⟨a, b, c, d⟩
      rw [e] at hf
      simp only [Option.bind_some, hf]
      have hm : (if (o : Int) < ((Nd.mk a b c d).dep : Int) then ((Nd.mk a b c d).dep : Int) else (o : Int)) = ((Nat.max o (Nd.mk a b c d).dep : Nat) : Int) := by
        by_cases g : (o : Int) < ((Nd.mk a b c d).dep : Int)
        · rw [if_pos g]; congr 1; exact (Nat.max_eq_right (by omega)).symm
        · rw [if_neg g]; congr 1; exact (Nat.max_eq_left (by omega)).symm
      rw [wi_succ (by omega), hm, r09_Depth_loop hF hl q (i + 1) _ (by omega) (by omega)]
      congr 2
      exact Nat.max_assoc _ _ _
    · rw [dec_f (by omega), cond_false]
      obtain rfl : i = ks.length := by omega
      rw [List.drop_length]
      congr 2
      exact (Nat.max_eq_left (Nat.zero_le _)).symm
theorem r09_Depth_eq : ∀ (n : Nat) (t : Nd), t.cnt < n → t.cnt ≤ 67108864 → m_r09_Depth n t = some (t.dep : Int)
  | 0, _, h, _ => by omega
  | n + 1, .mk k t c ks, h, hb => by
    simp only [Nd.cnt] at h hb
    have hl := Nd.cnts_len ks
    have hd := Nd.deps_cnts ks
    unfold m_r09_Depth
    have := r09_Depth_loop (F := m_r09_Depth n) (ks := ks) (fun v hv => r09_Depth_eq n v (by have := Nd.cnts_mem hv; omega) (by have := Nd.cnts_mem hv; omega)) (by omega) n 0 0 (by omega) (by omega)
    rw [show ((0 : Nat) : Int) = 0 from rfl, List.drop_zero] at this
    rw [this, Option.bind_some, show Nat.max 0 (Nd.deps ks) = Nd.deps ks from Nat.max_eq_right (Nat.zero_le _), wi_succ (by omega)]
    rfl
def validB (t : Nd) : Bool := (t.kind == 1) && (formB t && (decide (t.cnt ≤ 1000) && decide (t.dep ≤ 24)))
theorem r09_Valid_eq (n : Nat) (t : Nd) (h : t.w + 45 < n) (hb : t.w ≤ 67108864) : m_r09_Valid n t = some (validB t) := by
  have hc := Nd.cnt_w t
  have e1 := r09_form_eq n t h (by omega)
  have e2 := r09_Count_eq n t (by omega) (by omega)
  have e3 := r09_Depth_eq n t (by omega) (by omega)
  have e4 := cast_le t.cnt 1000
  rw [show ((1000 : Nat) : Int) = 1000 from rfl] at e4
  have e5 := cast_le t.dep 24
  rw [show ((24 : Nat) : Int) = 24 from rfl] at e5
  obtain ⟨k, s, c, ks⟩ := t
  unfold m_r09_Valid validB
  simp only [e1, e2, e3, Option.bind_some, e4, e5, Nd.kind]
  cases k == 1 <;> cases formB (.mk k s c ks) <;> cases decide ((Nd.mk k s c ks).cnt ≤ 1000) <;> rfl
abbrev okN (t : Nd) (x d : Nat) : Prop := formB t = true ∧ x + t.cnt ≤ 1000 ∧ d + t.dep ≤ 25
abbrev okNs (k : Int) (vs : List Nd) (x d : Nat) : Prop := formsB k vs = true ∧ x + Nd.cnts vs ≤ 1000 ∧ d + Nd.deps vs ≤ 24
theorem check_loop {F : (Unit × Int) → Nd → Int → Option (Bool × (Unit × Int))} {k : Int} {ks : List Nd} {d : Nat} (hd : d ≤ 24)
    (hF : ∀ v ∈ ks, ∀ x : Nat, x ≤ 1000 → ∃ y, F ((), (x : Int)) v ((d + 1 : Nat) : Int) = some (decide (okN v x (d + 1)), ((), y)) ∧ (okN v x (d + 1) → y = ((x + v.cnt : Nat) : Int))) (hl : ks.length ≤ 1073741824) :
    ∀ (q i x : Nat), ks.length - i < q → i ≤ ks.length → x ≤ 1000 →
      (okNs k (ks.drop i) x d ∧ m_node_checker_node_l1 F k ks (d : Int) q (x : Int) (i : Int) = some (.go ((x + Nd.cnts (ks.drop i) : Nat) : Int))) ∨
      (¬ okNs k (ks.drop i) x d ∧ ∃ z, m_node_checker_node_l1 F k ks (d : Int) q (x : Int) (i : Int) = some (.ret (false, ((), z))))
  | 0, _, _, h, _, _ => by omega
  | q + 1, i, x, hq, hi, hx => by
    unfold m_node_checker_node_l1
    by_cases h : i < ks.length
    · rw [dec_t (Int.ofNat_lt.2 h), cond_true, at_get h]
      obtain ⟨y, hf, hy⟩ := hF _ (List.getElem_mem h) x hx
      have g1 := forms_drop (k := k) h
      have g2 := Nd.cnts_drop h
      have g3 := deps_drop h
      rcases e : ks[i] with ⟨a, b, c, ds⟩
      rw [e] at hf hy g1 g2 g3
      simp only [Option.bind_some]
      rw [wi_succ (by omega), wi_succ (by omega), hf]
      simp only [Option.bind_some]
      have g4 : Nd.deps (ks.drop i) = Nat.max (Nd.mk a b c ds).dep (Nd.deps (ks.drop (i + 1))) := g3
      have g5 : (Nd.mk a b c ds).dep ≤ Nd.deps (ks.drop i) := by rw [g4]; exact Nat.le_max_left _ _
      have g6 : Nd.deps (ks.drop (i + 1)) ≤ Nd.deps (ks.drop i) := by rw [g4]; exact Nat.le_max_right _ _
      rw [show ((k == 1) == (a == 1)) = ((a == 1) == (k == 1)) by cases k == 1 <;> cases a == 1 <;> rfl]
      cases hkk : ((a == 1) == (k == 1)) with
      | true =>
        simp only [cond_true, Option.bind_some]
        refine .inr ⟨fun ⟨h1, _⟩ => ?_, _, rfl⟩
        rw [g1] at h1
        simp [Nd.kind, hkk] at h1
      | false =>
        simp only [cond_false, Option.bind_some]
        by_cases hok : okN (Nd.mk a b c ds) x (d + 1)
        · rw [dec_t hok]
          simp only [Bool.not_true, cond_false]
          rw [hy hok]
          have hp := (Nd.mk a b c ds).cnt_pos
          rcases check_loop hd hF hl q (i + 1) (x + (Nd.mk a b c ds).cnt) (by omega) (by omega) hok.2.1 with ⟨hr, hr2⟩ | ⟨hr, z, hr2⟩
          · refine .inl ⟨⟨?_, ?_, ?_⟩, ?_⟩
            · rw [g1, hr.1, hok.1]; simp [Nd.kind, hkk]
            · have := hr.2.1; omega
            · have := hr.2.2
              have := hok.2.2
              have : Nd.deps (ks.drop i) ≤ 24 - d := by rw [g4]; exact Nat.max_le.2 ⟨by omega, by omega⟩
              omega
            · rw [hr2, g2]; congr 3; omega
          · refine .inr ⟨fun ⟨h1, h2, h3⟩ => hr ⟨?_, by omega, by omega⟩, z, hr2⟩
            rw [g1] at h1
            simp only [Bool.and_eq_true] at h1
            exact h1.2
        · rw [dec_f hok]
          simp only [Bool.not_false, cond_true]
          refine .inr ⟨fun ⟨h1, h2, h3⟩ => hok ⟨?_, by omega, by omega⟩, y, rfl⟩
          rw [g1] at h1
          simp only [Bool.and_eq_true] at h1
          exact h1.1.2
    · rw [dec_f (by omega), cond_false]
      obtain rfl : i = ks.length := by omega
      rw [List.drop_length]
      exact .inl ⟨⟨rfl, hx, hd⟩, rfl⟩
theorem check_eq : ∀ (n : Nat) (t : Nd) (x d : Nat), t.w + 45 < n → t.w ≤ 67108864 → x ≤ 1000 → d ≤ 25 →
    ∃ y, m_node_checker_node n ((), (x : Int)) t (d : Int) = some (decide (okN t x d), ((), y)) ∧ (okN t x d → y = ((x + t.cnt : Nat) : Int))
  | 0, _, _, _, h, _, _, _ => by omega
  | n + 1, .mk k t c ks, x, d, h, hb, hx, hd => by
    simp only [Nd.w] at h hb
    have hl := Nd.ws_len ks
    unfold m_node_checker_node
    rw [wi_succ (by omega)]
    by_cases h1 : 1000 < ((x + 1 : Nat) : Int)
    · rw [dec_t h1]
      simp only [cond_true, Option.bind_some]
      have hn : ¬ okN (.mk k t c ks) x d := fun ⟨_, h2, _⟩ => by simp only [Nd.cnt] at h2; omega
      exact ⟨_, by rw [dec_f hn], fun h => absurd h hn⟩
    · rw [dec_f h1, cond_false]
      by_cases h2 : 24 < (d : Int)
      · rw [dec_t h2]
        simp only [cond_true, Option.bind_some]
        have hn : ¬ okN (.mk k t c ks) x d := fun ⟨_, _, h2⟩ => by simp only [Nd.dep] at h2; omega
        exact ⟨_, by rw [dec_f hn], fun h => absurd h hn⟩
      · rw [dec_f h2, cond_false, own_eq n _ k t c ks (by omega) (by omega)]
        simp only [Option.bind_some]
        cases ho : (textB k t && kidsB k c (ks.length : Int)) with
        | false =>
          simp only [Bool.not_false, cond_true]
          have hn : ¬ okN (.mk k t c ks) x d := fun ⟨h1, _⟩ => by rw [formB, ho] at h1; cases h1
          exact ⟨_, by rw [dec_f hn], fun h => absurd h hn⟩
        | true =>
          simp only [Bool.not_true, cond_false]
          have := check_loop (F := m_node_checker_node n) (k := k) (ks := ks) (d := d) (by omega) (fun v hv z hz => check_eq n v z (d + 1) (by have := Nd.w_mem hv; omega) (by have := Nd.w_mem hv; omega) hz (by omega)) (by omega) n 0 (x + 1) (by omega) (by omega) (by omega)
          rw [show ((0 : Nat) : Int) = 0 from rfl, List.drop_zero] at this
          rcases this with ⟨hr, hr2⟩ | ⟨hr, z, hr2⟩
          · have hy : okN (.mk k t c ks) x d := ⟨by rw [formB, ho, hr.1]; rfl, by have := hr.2.1; simp only [Nd.cnt]; omega, by have := hr.2.2; simp only [Nd.dep]; omega⟩
            rw [hr2]
            exact ⟨_, by rw [dec_t hy]; rfl, fun _ => by simp only [Nd.cnt]; omega⟩
          · have hn : ¬ okN (.mk k t c ks) x d := fun ⟨g1, g2, g3⟩ => hr ⟨by rw [formB, ho] at g1; exact g1, by simp only [Nd.cnt] at g2; omega, by simp only [Nd.dep] at g3; omega⟩
            rw [hr2]
            exact ⟨_, by rw [dec_f hn]; rfl, fun h => absurd h hn⟩
theorem node_Valid_eq (n : Nat) (t : Nd) (h : t.w + 45 < n) (hb : t.w ≤ 67108864) : m_node_Valid n t = some (validB t) := by
  obtain ⟨y, h1, _⟩ := check_eq n t 0 1 h hb (by omega) (by omega)
  rw [show ((0 : Nat) : Int) = 0 from rfl, show ((1 : Nat) : Int) = 1 from rfl] at h1
  obtain ⟨k, s, c, ks⟩ := t
  unfold m_node_Valid validB
  have hk : m_node_kinds = some () := rfl
  simp only [hk, h1, Option.bind_some, Nd.kind]
  cases k == 1 with
  | false => rfl
  | true =>
    simp only [cond_true, Option.bind_some, Bool.true_and, Option.some.injEq, okN]
    cases formB (.mk k s c ks) with
    | false => simp
    | true =>
      by_cases g1 : (Nd.mk k s c ks).cnt ≤ 1000
      · by_cases g2 : (Nd.mk k s c ks).dep ≤ 24
        · rw [dec_t g1, dec_t g2, dec_t ⟨rfl, by omega, by omega⟩]; rfl
        · rw [dec_t g1, dec_f g2, dec_f (fun h => g2 (by omega))]; rfl
      · rw [dec_f g1, dec_f (fun h => g1 (by omega))]; rfl
end Go.Proofs.YtefbmooajknmgaaDoor
set_option linter.unusedVariables false
set_option linter.unusedSimpArgs false
namespace Go.Proofs.YtefbmooajknmgaaDoor
open Go.Abs
def Nd.text : Nd → List UInt8 | .mk _ t _ _ => t
def Nd.cols : Nd → Int | .mk _ _ c _ => c
theorem Nd.cnt_kids : ∀ x : Nd, x.cnt = Nd.cnts x.kids + 1
  | .mk _ _ _ _ => rfl
def alikeB (x y : Nd) : Bool := (x.kind == y.kind) && (((x.kids.length : Int) == (y.kids.length : Int)) && (x.cols == y.cols))
def rowD (P : Nd → Nd → Nat) (x : Nd) (f : List Nd → Nat) : List Nd → Nat
  | [] => x.cnt + f []
  | y :: ys => if alikeB x y then min (min (x.cnt + f (y :: ys)) (y.cnt + rowD P x f ys)) (P x y + f ys) else min (x.cnt + f (y :: ys)) (y.cnt + rowD P x f ys)
def TD (P : Nd → Nd → Nat) : List Nd → List Nd → Nat
  | [] => Nd.cnts
  | x :: xs => rowD P x (TD P xs)
def sumD (f : List Nd → List Nd → Nat) : List Nd → List Nd → Nat
  | u :: us, v :: vs => f u.kids v.kids + sumD f us vs
  | _, _ => 0
def txt (x y : Nd) : Nat := bif x.text == y.text then 0 else 1
def PD : Nat → Nd → Nd → Nat
  | 0, _, _ => 0
  | n + 1, x, y => txt x y + sumD (TD (PD n)) x.kids y.kids
def D (x y : Nd) : Nat := PD x.cnt x y
end Go.Proofs.YtefbmooajknmgaaDoor
