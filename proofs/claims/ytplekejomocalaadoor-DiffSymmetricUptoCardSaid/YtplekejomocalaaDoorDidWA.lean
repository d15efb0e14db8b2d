/-
  Walks, printed by gw.py.
-/
import Derived.Test.YtplekejomocalaaDoorLibB
import Derived.Test.YtplekejomocalaaDoorMNod
set_option linter.unusedVariables false
set_option linter.unusedSimpArgs false
namespace Go.Proofs.YtplekejomocalaaDoor
open Go.Abs

/- vinculum/vinculumlaw16.symbols -/
def R_l16_symbols (n : Nat) (xs : List AV) (r : Ret) : Prop := ∃ (a0 : List UInt8) (y0 : Nd), m_l16_symbols n a0 = some y0 ∧ xs = [.s (.str a0)] ∧ r = .val (.agg ((Nd.enc y0).map .s))
def S_l16_symbols : PSpec := pspec fun xs r => ∃ n, R_l16_symbols n xs r
set_option maxHeartbeats 2000000 in
set_option maxRecDepth 100000 in
theorem ok_l16_symbols : PSound Tryd.prog 12 S_l16_symbols := by
  have gok : ∀ (f : Nat) (s : PSpec), (fun _ => none : Nat → Option PSpec) f = some s → PSound Tryd.prog f s := fun _ _ h => by cases h
  refine psound tokW Tryd.call12 Tryd.func12 rfl (fun xs r h => by obtain ⟨n, _, _, _, rfl, _⟩ := h; show 1 ≤ 24; decide) 24 rfl ?_
  rintro xs r w0 G0 ⟨n, s1, y0, h, rfl, rfl⟩ _
  rw [m_l16_symbols] at h
  refine tri_seq ?_
  refine tri_region (by exact tokW) (by exact gok) [2] [] rfl ?_
  show Tri _ _ _ _
  refine tri_seq ?_
  refine tri_region (by exact tokW) (by exact gok) [3] [] rfl ?_
  show Tri _ _ _ _
  refine tri_seq ?_
  refine tri_seq ?_
  refine tri_region (by exact tokW) (by exact gok) [] [] rfl ?_
  show Tri _ _ _ _
  obtain ⟨l6, hl, h⟩ := bind_out h
  refine tri_post ⟨ofL [(2, .op 0 0), (3, .op 1 0)], ofH [(0, .box 24 [.s (.int .i64 0), .s (.str []), .s (.int .i64 0), .nl 4]), (1, .box 24 [.s (.int .i64 1), .s (.str []), .s (.int .i64 0), .orow 2]), (2, .row 24 4 (Nd.encs l6))], 3⟩ ?_ (fun σ' hle => ?_)
  · refine tri_block (tri_loopI (X := Nat × Int × (List Nd)) (fun y => match y with | (k, i4, l5) => ⟨ofL [(0, .s (.str s1)), (2, .op 0 0), (3, .op 1 0), (4, .s (.int .i64 i4))], ofH [(0, .box 24 [.s (.int .i64 0), .s (.str []), .s (.int .i64 0), .nl 4]), (1, .box 24 [.s (.int .i64 1), .s (.str []), .s (.int .i64 0), .orow 2]), (2, .row 24 4 (Nd.encs l5))], 3⟩) (fun y => m_l16_symbols_l1 s1 y.1 y.2.1 y.2.2 = some l6) (fun y => y.1) (n, 0, []) hl ?_ ?_)
    · exact (Le.trans (Le.trans (Le.rename [(0, 0), (1, 1)] [(0, .s (.str s1)), (2, .op 0 0), (3, .op 1 0), (4, .s (.int .i64 0))] [(0, .box 24 [.s (.int .i64 0), .s (.str []), .s (.int .i64 0), .nl 4]), (1, .box 24 [.s (.int .i64 1), .s (.str []), .s (.int .i64 0), .nl 4])] 2 ⟨rfl, rfl, rfl, rfl, trivial⟩ ⟨rfl, ⟨_, rfl, rfl⟩, rfl, ⟨_, rfl, rfl⟩, trivial⟩ rfl rfl rfl rfl rfl) (Le.takeNil 1 3 24 rfl rfl (by decide))) (Le.rename [(0, 0), (1, 1), (2, 2)] _ _ _ ⟨rfl, rfl, rfl, rfl, trivial⟩ ⟨rfl, ⟨_, rfl, rfl⟩, rfl, ⟨_, rfl, rfl⟩, rfl, ⟨_, rfl, congrArg (Ob.row 24 4) (by simp [List.map_append, List.map_take, List.map_drop, irow, brow, b8of_row, List.map_cons, List.map_nil, b8of_wrap, Nd.encs_eq, Nd.enc])⟩, trivial⟩ rfl rfl rfl rfl rfl))
    · rintro ⟨k, i4, l5⟩ h
      cases k with
      | zero => cases h
      | succ k =>
        replace h : m_l16_symbols_l1 s1 (k+1) i4 l5 = some l6 := h
        rw [m_l16_symbols_l1] at h
        refine tri_seq ?_
        refine tri_seq ?_
        refine tri_region (by exact tokW) (by exact gok) [] [] rfl ?_
        show Tri _ _ _ _
        refine tri_cond rfl (fun hb => ?_) (fun hb => ?_)
        · replace h := bif_t hb h
          refine tri_skip ?_
          show Tri _ _ _ _
          refine tri_seq ?_
          refine tri_block ?_
          refine tri_drawn (by exact tokW) (by exact gok) (by exact mixed) [21] [20] [1, 9, 11] rfl (by decide +kernel) ?_
          obtain ⟨hq, h⟩ := req_out h
          refine And.intro hq ?_
          intro r7 hr7
          obtain rfl : Nd.encs [Nd.mk 2 ((s1.take (IntKind.i64.wrap (i4 + 1)).toNat).drop i4.toNat) 0 []] = r7 := (hr7.trans (by simp [List.map_append, List.map_take, List.map_drop, irow, brow, b8of_row, List.map_cons, List.map_nil, b8of_wrap, Nd.encs_eq, Nd.enc])).symm
          obtain ⟨hq, h⟩ := req_out h
          refine And.intro (show ((Nd.encs l5).length + (Nd.encs [Nd.mk 2 ((s1.take (IntKind.i64.wrap (i4 + 1)).toNat).drop i4.toNat) 0 []]).length) * 56 ≤ 140737488355328 ∧ (Nd.encs l5).length + (Nd.encs [Nd.mk 2 ((s1.take (IntKind.i64.wrap (i4 + 1)).toNat).drop i4.toNat) 0 []]).length ≤ 9223372036854775807 from by simp only [List.length_append, List.length_cons, List.length_nil, List.length_map, rlen Nd.encs_eq] at hq ⊢; omega) ?_
          show Tri _ _ _ _
          refine tri_le (Le.rename [(0, 0), (1, 1), (3, 2)] [(0, .s (.str s1)), (2, .op 0 0), (3, .op 1 0), (4, .s (.int .i64 i4))] [(0, .box 24 [.s (.int .i64 0), .s (.str []), .s (.int .i64 0), .nl 4]), (1, .box 24 [.s (.int .i64 1), .s (.str []), .s (.int .i64 0), .orow 2]), (2, .row 24 4 (Nd.encs (l5 ++ [Nd.mk 2 ((s1.take (IntKind.i64.wrap (i4 + 1)).toNat).drop i4.toNat) 0 []])))] 3 ⟨rfl, rfl, rfl, rfl, trivial⟩ ⟨rfl, ⟨_, rfl, rfl⟩, rfl, ⟨_, rfl, rfl⟩, rfl, ⟨_, rfl, congrArg (Ob.row 24 4) (by simp [List.map_append, List.map_take, List.map_drop, irow, brow, b8of_row, List.map_cons, List.map_nil, b8of_wrap, Nd.encs_eq, Nd.enc])⟩, trivial⟩ rfl rfl rfl rfl rfl) ?_
          refine tri_region (by exact tokW) (by exact gok) [] [] rfl ?_
          refine ⟨(k, IntKind.i64.wrap (i4 + 1), l5 ++ [Nd.mk 2 ((s1.take (IntKind.i64.wrap (i4 + 1)).toNat).drop i4.toNat) 0 []]), h, (Le.rename [(0, 0), (1, 1), (2, 2)] _ _ _ ⟨rfl, rfl, rfl, rfl, trivial⟩ ⟨rfl, ⟨_, rfl, rfl⟩, rfl, ⟨_, rfl, rfl⟩, rfl, ⟨_, rfl, rfl⟩, trivial⟩ rfl rfl rfl rfl rfl), Nat.lt_succ_self k⟩
        · replace h := bif_f hb h
          refine tri_exit ?_
          cases h
          exact (Le.rename [(0, 0), (1, 1), (2, 2)] _ _ _ ⟨rfl, rfl, trivial⟩ ⟨rfl, ⟨_, rfl, rfl⟩, rfl, ⟨_, rfl, rfl⟩, rfl, ⟨_, rfl, rfl⟩, trivial⟩ rfl rfl rfl rfl rfl)
  · show Tri _ _ _ _
    refine tri_le hle ?_
    refine tri_seq ?_
    refine tri_region (by exact tokW) (by exact gok) [] [] rfl ?_
    show Tri _ _ _ _
    refine tri_ret ?_
    have hy := Option.some.inj h
    subst hy
    unfold Gives
    exact ⟨_, (Le.trans (Le.rename [(0, 0), (2, 1)] [(2, .op 0 0)] [(0, .box 24 [.s (.int .i64 1), .s (.str []), .s (.int .i64 0), .orow 1]), (1, .row 24 4 (Nd.encs l6))] 2 ⟨rfl, trivial⟩ ⟨rfl, ⟨_, rfl, rfl⟩, rfl, ⟨_, rfl, rfl⟩, trivial⟩ rfl rfl rfl rfl rfl) (Le.giveRow 1 rfl)), rfl, rfl⟩

/- vinculum/node.empty -/
def R_node_empty (xs : List AV) (r : Ret) : Prop := ∃ (a0 : List UInt8) (y0 : Bool), m_node_empty a0 = some y0 ∧ xs = [.s (.str a0)] ∧ r = .val (.s (.bool y0))
def S_node_empty : PSpec := pspec fun xs r => R_node_empty xs r
set_option maxHeartbeats 2000000 in
set_option maxRecDepth 100000 in
theorem ok_node_empty : PSound Tryd.prog 45 S_node_empty := by
  have gok : ∀ (f : Nat) (s : PSpec), (fun _ => none : Nat → Option PSpec) f = some s → PSound Tryd.prog f s := fun _ _ h => by cases h
  refine psound tokW Tryd.call45 Tryd.func45 rfl (fun xs r h => by obtain ⟨_, _, _, rfl, _⟩ := h; show 1 ≤ 5; decide) 5 rfl ?_
  rintro xs r w0 G0 ⟨s1, y0, h, rfl, rfl⟩ _
  rw [m_node_empty] at h
  refine tri_seq ?_
  refine tri_region (by exact tokW) (by exact gok) [] [] rfl ?_
  show Tri _ _ _ _
  refine tri_seq ?_
  refine tri_region (by exact tokW) (by exact gok) [] [] rfl ?_
  show Tri _ _ _ _
  refine tri_ret ?_
  have hy := Option.some.inj h
  subst hy
  unfold Gives
  exact ⟨_, Le.refl _ _, rfl, rfl⟩

/- vinculum/node.letters -/
def R_node_letters (n : Nat) (xs : List AV) (r : Ret) : Prop := ∃ (a0 : List UInt8) (y0 : Bool), m_node_letters n a0 = some y0 ∧ xs = [.s (.str a0)] ∧ r = .val (.s (.bool y0))
def S_node_letters : PSpec := pspec fun xs r => ∃ n, R_node_letters n xs r
set_option maxHeartbeats 2000000 in
set_option maxRecDepth 100000 in
theorem ok_node_letters : PSound Tryd.prog 61 S_node_letters := by
  have gok : ∀ (f : Nat) (s : PSpec), (fun _ => none : Nat → Option PSpec) f = some s → PSound Tryd.prog f s := fun _ _ h => by cases h
  refine psound tokW Tryd.call61 Tryd.func61 rfl (fun xs r h => by obtain ⟨n, _, _, _, rfl, _⟩ := h; show 1 ≤ 21; decide) 21 rfl ?_
  rintro xs r w0 G0 ⟨n, s1, y0, h, rfl, rfl⟩ _
  rw [m_node_letters] at h
  refine tri_seq ?_
  refine tri_region (by exact tokW) (by exact gok) [] [] rfl ?_
  show Tri _ _ _ _
  refine tri_seq ?_
  refine tri_seq ?_
  refine tri_region (by exact tokW) (by exact gok) [] [] rfl ?_
  show Tri _ _ _ _
  obtain ⟨fl, hl, ho1⟩ := bind_out h
  refine tri_fl (fl := fl) (fun z => match z with | _ => ⟨ofL [], fun _ => none, 0⟩) ?_ (fun z σ' hz hle => ?_)
  · refine tri_block (tri_loopI (X := Nat × Int) (fun y => match y with | (k, i2) => ⟨ofL [(0, .s (.str s1)), (3, .s (.int .i64 i2))], fun _ => none, 0⟩) (fun y => m_node_letters_l1 s1 y.1 y.2 = some fl) (fun y => y.1) (n, 0) hl ?_ ?_)
    · exact (Le.forget _ ⟨rfl, rfl, trivial⟩)
    · rintro ⟨k, i2⟩ h
      cases k with
      | zero => cases h
      | succ k =>
        replace h : m_node_letters_l1 s1 (k+1) i2 = some fl := h
        rw [m_node_letters_l1] at h
        refine tri_seq ?_
        refine tri_seq ?_
        refine tri_region (by exact tokW) (by exact gok) [] [] rfl ?_
        show Tri _ _ _ _
        refine tri_cond rfl (fun hb => ?_) (fun hb => ?_)
        · replace h := bif_t hb h
          refine tri_skip ?_
          show Tri _ _ _ _
          refine tri_seq ?_
          refine tri_block ?_
          refine tri_seq ?_
          refine tri_region (by exact tokW) (by exact gok) [] [13] rfl ?_
          obtain ⟨c3, hc3, h⟩ := bind_out h
          refine And.intro (str_ok hc3).1 ?_
          intro v4 hv4
          obtain rfl : (c3.toNat : Int) = v4 := (hv4.trans (str_ok hc3).2).symm
          show Tri _ _ _ _
          refine tri_seq ?_
          obtain ⟨x5, hj, h⟩ := bind_out h
          refine tri_post ⟨ofL [(0, .s (.str s1)), (3, .s (.int .i64 i2)), (20, .s (.bool x5))], fun _ => none, 0⟩ ?_ (fun σ' hle => ?_)
          · replace h := hj
            refine tri_region (by exact tokW) (by exact gok) [] [17] rfl ?_
            intro b hb
            cases b with
            | true =>
              replace h := bif_t hb.symm h
              cases h
              exact (Le.forget _ ⟨rfl, rfl, rfl, trivial⟩)
            | false =>
              replace h := bif_f hb.symm h
              cases h
              exact (Le.forget _ ⟨rfl, rfl, rfl, trivial⟩)
          · show Tri _ _ _ _
            refine tri_le hle ?_
            refine tri_cond rfl (fun hb => ?_) (fun hb => ?_)
            · replace h := bif_t hb h
              refine tri_seq ?_
              refine tri_region (by exact tokW) (by exact gok) [] [] rfl ?_
              show Tri _ _ _ _
              refine tri_ret ?_
              cases h
              replace h : some _ = some _ := ho1
              have hy := Option.some.inj h
              subst hy
              unfold Gives
              exact ⟨_, Le.refl _ _, rfl, rfl⟩
            · replace h := bif_f hb h
              refine tri_skip ?_
              show Tri _ _ _ _
              refine tri_region (by exact tokW) (by exact gok) [] [] rfl ?_
              refine ⟨(k, IntKind.i64.wrap (i2 + 1)), h, (Le.forget _ ⟨rfl, rfl, trivial⟩), Nat.lt_succ_self k⟩
        · replace h := bif_f hb h
          refine tri_exit ?_
          cases h
          exact ⟨_, rfl, (Le.forget _ trivial)⟩
  · subst hz
    obtain _ := z
    replace h := ho1
    show Tri _ _ _ _
    refine tri_le hle ?_
    refine tri_seq ?_
    refine tri_region (by exact tokW) (by exact gok) [] [] rfl ?_
    show Tri _ _ _ _
    refine tri_ret ?_
    have hy := Option.some.inj h
    subst hy
    unfold Gives
    exact ⟨_, Le.refl _ _, rfl, rfl⟩

/- vinculum/node.keyword -/
def R_node_keyword (xs : List AV) (r : Ret) : Prop := ∃ (a0 : List UInt8) (y0 : Bool), m_node_keyword a0 = some y0 ∧ xs = [.s (.str a0)] ∧ r = .val (.s (.bool y0))
def S_node_keyword : PSpec := pspec fun xs r => R_node_keyword xs r
set_option maxHeartbeats 2000000 in
set_option maxRecDepth 100000 in
theorem ok_node_keyword : PSound Tryd.prog 63 S_node_keyword := by
  have gok : ∀ (f : Nat) (s : PSpec), (fun _ => none : Nat → Option PSpec) f = some s → PSound Tryd.prog f s := fun _ _ h => by cases h
  refine psound tokW Tryd.call63 Tryd.func63 rfl (fun xs r h => by obtain ⟨_, _, _, rfl, _⟩ := h; show 1 ≤ 9; decide) 9 rfl ?_
  rintro xs r w0 G0 ⟨s1, y0, h, rfl, rfl⟩ _
  rw [m_node_keyword] at h
  refine tri_seq ?_
  refine tri_region (by exact tokW) (by exact gok) [] [] rfl ?_
  show Tri _ _ _ _
  refine tri_seq ?_
  refine tri_seq ?_
  refine tri_region (by exact tokW) (by exact gok) [] [] rfl ?_
  show Tri _ _ _ _
  obtain ⟨fl, hj, ho1⟩ := bind_out h
  refine tri_fl (fl := fl) (fun z => match z with | _ => ⟨ofL [], fun _ => none, 0⟩) ?_ (fun z σ' hz hle => ?_)
  · replace h := hj
    refine tri_block ?_
    refine tri_seq ?_
    refine tri_seq ?_
    refine tri_region (by exact tokW) (by exact gok) [] [] rfl ?_
    show Tri _ _ _ _
    obtain ⟨x2, hj, h⟩ := bind_out h
    refine tri_post ⟨ofL [(4, .s (.bool x2))], fun _ => none, 0⟩ ?_ (fun σ' hle => ?_)
    · replace h := hj
      refine tri_cond rfl (fun hb => ?_) (fun hb => ?_)
      · replace h := bif_t hb h
        refine tri_skip ?_
        cases h
        exact (Le.forget _ ⟨rfl, trivial⟩)
      · replace h := bif_f hb h
        refine tri_seq ?_
        refine tri_region (by exact tokW) (by exact gok) [] [] rfl ?_
        show Tri _ _ _ _
        refine tri_cond rfl (fun hb => ?_) (fun hb => ?_)
        · replace h := bif_t hb h
          refine tri_skip ?_
          cases h
          exact (Le.forget _ ⟨rfl, trivial⟩)
        · replace h := bif_f hb h
          refine tri_seq ?_
          refine tri_region (by exact tokW) (by exact gok) [] [] rfl ?_
          show Tri _ _ _ _
          refine tri_cond rfl (fun hb => ?_) (fun hb => ?_)
          · replace h := bif_t hb h
            refine tri_skip ?_
            cases h
            exact (Le.forget _ ⟨rfl, trivial⟩)
          · replace h := bif_f hb h
            refine tri_region (by exact tokW) (by exact gok) [] [] rfl ?_
            cases h
            exact (Le.forget _ ⟨rfl, trivial⟩)
    · show Tri _ _ _ _
      refine tri_le hle ?_
      refine tri_cond rfl (fun hb => ?_) (fun hb => ?_)
      · replace h := bif_t hb h
        refine tri_seq ?_
        refine tri_region (by exact tokW) (by exact gok) [] [] rfl ?_
        show Tri _ _ _ _
        refine tri_ret ?_
        cases h
        replace h : some _ = some _ := ho1
        have hy := Option.some.inj h
        subst hy
        unfold Gives
        exact ⟨_, Le.refl _ _, rfl, rfl⟩
      · replace h := bif_f hb h
        refine tri_skip ?_
        cases h
        exact ⟨_, rfl, (Le.forget _ trivial)⟩
  · subst hz
    obtain _ := z
    replace h := ho1
    show Tri _ _ _ _
    refine tri_le hle ?_
    refine tri_seq ?_
    refine tri_region (by exact tokW) (by exact gok) [] [] rfl ?_
    show Tri _ _ _ _
    refine tri_ret ?_
    have hy := Option.some.inj h
    subst hy
    unfold Gives
    exact ⟨_, Le.refl _ _, rfl, rfl⟩

/- vinculum/node.accent -/
def R_node_accent (xs : List AV) (r : Ret) : Prop := ∃ (a0 : List UInt8) (y0 : Bool), m_node_accent a0 = some y0 ∧ xs = [.s (.str a0)] ∧ r = .val (.s (.bool y0))
def S_node_accent : PSpec := pspec fun xs r => R_node_accent xs r
set_option maxHeartbeats 2000000 in
set_option maxRecDepth 100000 in
theorem ok_node_accent : PSound Tryd.prog 49 S_node_accent := by
  have gok : ∀ (f : Nat) (s : PSpec), (fun _ => none : Nat → Option PSpec) f = some s → PSound Tryd.prog f s := fun _ _ h => by cases h
  refine psound tokW Tryd.call49 Tryd.func49 rfl (fun xs r h => by obtain ⟨_, _, _, rfl, _⟩ := h; show 1 ≤ 11; decide) 11 rfl ?_
  rintro xs r w0 G0 ⟨s1, y0, h, rfl, rfl⟩ _
  rw [m_node_accent] at h
  refine tri_seq ?_
  refine tri_region (by exact tokW) (by exact gok) [] [] rfl ?_
  show Tri _ _ _ _
  refine tri_seq ?_
  refine tri_seq ?_
  refine tri_region (by exact tokW) (by exact gok) [] [] rfl ?_
  show Tri _ _ _ _
  obtain ⟨fl, hj, ho1⟩ := bind_out h
  refine tri_fl (fl := fl) (fun z => match z with | _ => ⟨ofL [], fun _ => none, 0⟩) ?_ (fun z σ' hz hle => ?_)
  · replace h := hj
    refine tri_block ?_
    refine tri_seq ?_
    refine tri_seq ?_
    refine tri_region (by exact tokW) (by exact gok) [] [] rfl ?_
    show Tri _ _ _ _
    obtain ⟨x2, hj, h⟩ := bind_out h
    refine tri_post ⟨ofL [(4, .s (.bool x2))], fun _ => none, 0⟩ ?_ (fun σ' hle => ?_)
    · replace h := hj
      refine tri_cond rfl (fun hb => ?_) (fun hb => ?_)
      · replace h := bif_t hb h
        refine tri_skip ?_
        cases h
        exact (Le.forget _ ⟨rfl, trivial⟩)
      · replace h := bif_f hb h
        refine tri_seq ?_
        refine tri_region (by exact tokW) (by exact gok) [] [] rfl ?_
        show Tri _ _ _ _
        refine tri_cond rfl (fun hb => ?_) (fun hb => ?_)
        · replace h := bif_t hb h
          refine tri_skip ?_
          cases h
          exact (Le.forget _ ⟨rfl, trivial⟩)
        · replace h := bif_f hb h
          refine tri_seq ?_
          refine tri_region (by exact tokW) (by exact gok) [] [] rfl ?_
          show Tri _ _ _ _
          refine tri_cond rfl (fun hb => ?_) (fun hb => ?_)
          · replace h := bif_t hb h
            refine tri_skip ?_
            cases h
            exact (Le.forget _ ⟨rfl, trivial⟩)
          · replace h := bif_f hb h
            refine tri_seq ?_
            refine tri_region (by exact tokW) (by exact gok) [] [] rfl ?_
            show Tri _ _ _ _
            refine tri_cond rfl (fun hb => ?_) (fun hb => ?_)
            · replace h := bif_t hb h
              refine tri_skip ?_
              cases h
              exact (Le.forget _ ⟨rfl, trivial⟩)
            · replace h := bif_f hb h
              refine tri_seq ?_
              refine tri_region (by exact tokW) (by exact gok) [] [] rfl ?_
              show Tri _ _ _ _
              refine tri_cond rfl (fun hb => ?_) (fun hb => ?_)
              · replace h := bif_t hb h
                refine tri_skip ?_
                cases h
                exact (Le.forget _ ⟨rfl, trivial⟩)
              · replace h := bif_f hb h
                refine tri_region (by exact tokW) (by exact gok) [] [] rfl ?_
                cases h
                exact (Le.forget _ ⟨rfl, trivial⟩)
    · show Tri _ _ _ _
      refine tri_le hle ?_
      refine tri_cond rfl (fun hb => ?_) (fun hb => ?_)
      · replace h := bif_t hb h
        refine tri_seq ?_
        refine tri_region (by exact tokW) (by exact gok) [] [] rfl ?_
        show Tri _ _ _ _
        refine tri_ret ?_
        cases h
        replace h : some _ = some _ := ho1
        have hy := Option.some.inj h
        subst hy
        unfold Gives
        exact ⟨_, Le.refl _ _, rfl, rfl⟩
      · replace h := bif_f hb h
        refine tri_skip ?_
        cases h
        exact ⟨_, rfl, (Le.forget _ trivial)⟩
  · subst hz
    obtain _ := z
    replace h := ho1
    show Tri _ _ _ _
    refine tri_le hle ?_
    refine tri_seq ?_
    refine tri_region (by exact tokW) (by exact gok) [] [] rfl ?_
    show Tri _ _ _ _
    refine tri_ret ?_
    have hy := Option.some.inj h
    subst hy
    unfold Gives
    exact ⟨_, Le.refl _ _, rfl, rfl⟩

/- vinculum/node.Symbol -/
def R_node_Symbol (n : Nat) (xs : List AV) (r : Ret) : Prop := ∃ (a0 : List UInt8) (y0 : Bool), m_node_Symbol n a0 = some y0 ∧ xs = [.s (.str a0)] ∧ r = .val (.s (.bool y0))
def S_node_Symbol : PSpec := pspec fun xs r => ∃ n, R_node_Symbol n xs r
set_option maxHeartbeats 2000000 in
set_option maxRecDepth 100000 in
theorem ok_node_Symbol : PSound Tryd.prog 46 S_node_Symbol := by
  have gok : ∀ f s, look? f [(61, S_node_letters), (62, S_strings_Contains), (63, S_node_keyword), (49, S_node_accent)] = some s → PSound Tryd.prog f s := look_all (by
    simp only [List.forall_mem_cons]
    exact ⟨ok_node_letters, ok_strings_Contains, ok_node_keyword, ok_node_accent, by simp⟩)
  refine psound tokW Tryd.call46 Tryd.func46 rfl (fun xs r h => by obtain ⟨n, _, _, _, rfl, _⟩ := h; show 1 ≤ 34; decide) 34 rfl ?_
  rintro xs r w0 G0 ⟨n, s1, y0, h, rfl, rfl⟩ _
  rw [m_node_Symbol] at h
  refine tri_seq ?_
  refine tri_region (by exact tokW) (by exact gok) [] [] rfl ?_
  show Tri _ _ _ _
  refine tri_seq ?_
  refine tri_seq ?_
  refine tri_region (by exact tokW) (by exact gok) [] [] rfl ?_
  show Tri _ _ _ _
  refine tri_cond rfl (fun hb => ?_) (fun hb => ?_)
  · replace h := bif_t hb h
    refine tri_seq ?_
    obtain ⟨x2, hj, h⟩ := bind_out h
    refine tri_post ⟨ofL [(2, .s (.bool x2))], fun _ => none, 0⟩ ?_ (fun σ' hle => ?_)
    · replace h := hj
      refine tri_region (by exact tokW) (by exact gok) [] [8] rfl ?_
      obtain ⟨y3, hy3, h⟩ := bind_out h
      refine ⟨_, ⟨_, _, _, hy3, rfl, rfl⟩, ?_⟩
      intro b hb
      cases b with
      | true =>
        replace h := bif_t hb.symm h
        cases h
        exact (Le.forget _ ⟨rfl, trivial⟩)
      | false =>
        replace h := bif_f hb.symm h
        obtain ⟨y4, hy4, h⟩ := bind_out h
        refine ⟨_, ⟨_, _, _, hy4, rfl, rfl⟩, ?_⟩
        cases h
        exact (Le.forget _ ⟨rfl, trivial⟩)
    · show Tri _ _ _ _
      refine tri_le hle ?_
      refine tri_ret ?_
      have hy := Option.some.inj h
      subst hy
      unfold Gives
      exact ⟨_, Le.refl _ _, rfl, rfl⟩
  · replace h := bif_f hb h
    refine tri_skip ?_
    show Tri _ _ _ _
    refine tri_seq ?_
    obtain ⟨x5, hj, h⟩ := bind_out h
    refine tri_post ⟨ofL [(2, .s (.bool x5))], fun _ => none, 0⟩ ?_ (fun σ' hle => ?_)
    · replace h := hj
      refine tri_region (by exact tokW) (by exact gok) [] [15, 20, 24, 29] rfl ?_
      intro b hb
      cases b with
      | true =>
        replace h := bif_t hb.symm h
        intro b hb
        cases b with
        | true =>
          replace h := bif_t hb.symm h
          obtain ⟨y6, hy6, h⟩ := bind_out h
          refine ⟨_, ⟨_, _, _, hy6, rfl, rfl⟩, ?_⟩
          intro b hb
          cases b with
          | true =>
            replace h := bif_t hb.symm h
            obtain ⟨y7, hy7, h⟩ := bind_out h
            refine ⟨_, ⟨_, _, hy7, rfl, rfl⟩, ?_⟩
            intro b hb
            cases b with
            | true =>
              replace h := bif_t hb.symm h
              obtain ⟨y8, hy8, h⟩ := bind_out h
              refine ⟨_, ⟨_, _, hy8, rfl, rfl⟩, ?_⟩
              cases h
              exact (Le.forget _ ⟨rfl, trivial⟩)
            | false =>
              replace h := bif_f hb.symm h
              cases h
              exact (Le.forget _ ⟨rfl, trivial⟩)
          | false =>
            replace h := bif_f hb.symm h
            intro b hb
            subst hb
            cases h
            exact (Le.forget _ ⟨rfl, trivial⟩)
        | false =>
          replace h := bif_f hb.symm h
          intro b hb
          subst hb
          intro b hb
          subst hb
          cases h
          exact (Le.forget _ ⟨rfl, trivial⟩)
      | false =>
        replace h := bif_f hb.symm h
        intro b hb
        subst hb
        intro b hb
        subst hb
        intro b hb
        subst hb
        cases h
        exact (Le.forget _ ⟨rfl, trivial⟩)
    · show Tri _ _ _ _
      refine tri_le hle ?_
      refine tri_ret ?_
      have hy := Option.some.inj h
      subst hy
      unfold Gives
      exact ⟨_, Le.refl _ _, rfl, rfl⟩

/- internal/stringslite.Cut -/
def R_stringslite_Cut (xs : List AV) (r : Ret) : Prop := ∃ (a0 : List UInt8) (a1 : List UInt8) (y0 : List UInt8) (y1 : List UInt8) (y2 : Bool), m_stringslite_Cut a0 a1 = some (y0, y1, y2) ∧ xs = [.s (.str a0), .s (.str a1)] ∧ r = .val (.tup [.s (.str y0), .s (.str y1), .s (.bool y2)])
def S_stringslite_Cut : PSpec := pspec fun xs r => R_stringslite_Cut xs r
set_option maxHeartbeats 2000000 in
set_option maxRecDepth 100000 in
theorem ok_stringslite_Cut : PSound Tryd.prog 70 S_stringslite_Cut := by
  have gok : ∀ f s, look? f [(73, S_stringslite_Index)] = some s → PSound Tryd.prog f s := look_all (by
    simp only [List.forall_mem_cons]
    exact ⟨ok_stringslite_Index, by simp⟩)
  refine psound tokW Tryd.call70 Tryd.func70 rfl (fun xs r h => by obtain ⟨_, _, _, _, _, _, rfl, _⟩ := h; show 2 ≤ 23; decide) 23 rfl ?_
  rintro xs r w0 G0 ⟨s1, sep2, y0, y1, y2, h, rfl, rfl⟩ _
  rw [m_stringslite_Cut] at h
  refine tri_seq ?_
  refine tri_region (by exact tokW) (by exact gok) [] [] rfl ?_
  show Tri _ _ _ _
  refine tri_seq ?_
  refine tri_seq ?_
  refine tri_region (by exact tokW) (by exact gok) [] [] rfl ?_
  obtain ⟨y3, hy3, h⟩ := bind_out h
  refine ⟨_, ⟨_, _, _, hy3, rfl, rfl⟩, ?_⟩
  show Tri _ _ _ _
  refine tri_seq ?_
  refine tri_region (by exact tokW) (by exact gok) [] [] rfl ?_
  show Tri _ _ _ _
  refine tri_cond rfl (fun hb => ?_) (fun hb => ?_)
  · replace h := bif_t hb h
    refine tri_seq ?_
    refine tri_drawn (by exact tokW) (by exact gok) (by exact mixed) [] [] [] rfl (by decide +kernel) ?_
    obtain ⟨hq, h⟩ := req_out h
    refine And.intro hq ?_
    obtain ⟨hq, h⟩ := req_out h
    refine And.intro hq ?_
    show Tri _ _ _ _
    refine tri_ret ?_
    obtain ⟨hj1, hk1⟩ := Prod.mk.inj (Option.some.inj h)
    subst hj1
    obtain ⟨hj2, hk2⟩ := Prod.mk.inj hk1
    subst hj2
    subst hk2
    unfold Gives
    exact ⟨_, Le.refl _ _, rfl, rfl⟩
  · replace h := bif_f hb h
    refine tri_skip ?_
    show Tri _ _ _ _
    refine tri_seq ?_
    refine tri_region (by exact tokW) (by exact gok) [] [] rfl ?_
    show Tri _ _ _ _
    refine tri_ret ?_
    obtain ⟨hj1, hk1⟩ := Prod.mk.inj (Option.some.inj h)
    subst hj1
    obtain ⟨hj2, hk2⟩ := Prod.mk.inj hk1
    subst hj2
    subst hk2
    unfold Gives
    exact ⟨_, Le.refl _ _, rfl, rfl⟩

/- strings.Cut -/
def R_strings_Cut (xs : List AV) (r : Ret) : Prop := ∃ (a0 : List UInt8) (a1 : List UInt8) (y0 : List UInt8) (y1 : List UInt8) (y2 : Bool), m_strings_Cut a0 a1 = some (y0, y1, y2) ∧ xs = [.s (.str a0), .s (.str a1)] ∧ r = .val (.tup [.s (.str y0), .s (.str y1), .s (.bool y2)])
def S_strings_Cut : PSpec := pspec fun xs r => R_strings_Cut xs r
set_option maxHeartbeats 2000000 in
set_option maxRecDepth 100000 in
theorem ok_strings_Cut : PSound Tryd.prog 64 S_strings_Cut := by
  have gok : ∀ f s, look? f [(70, S_stringslite_Cut)] = some s → PSound Tryd.prog f s := look_all (by
    simp only [List.forall_mem_cons]
    exact ⟨ok_stringslite_Cut, by simp⟩)
  refine psound tokW Tryd.call64 Tryd.func64 rfl (fun xs r h => by obtain ⟨_, _, _, _, _, _, rfl, _⟩ := h; show 2 ≤ 13; decide) 13 rfl ?_
  rintro xs r w0 G0 ⟨s1, sep2, y0, y1, y2, h, rfl, rfl⟩ _
  rw [m_strings_Cut] at h
  refine tri_seq ?_
  refine tri_region (by exact tokW) (by exact gok) [] [] rfl ?_
  show Tri _ _ _ _
  refine tri_seq ?_
  refine tri_region (by exact tokW) (by exact gok) [] [] rfl ?_
  obtain ⟨⟨y3, y4, y5⟩, hy3, h⟩ := bind_out h
  refine ⟨_, ⟨_, _, _, _, _, hy3, rfl, rfl⟩, ?_⟩
  show Tri _ _ _ _
  refine tri_ret ?_
  obtain ⟨hj1, hk1⟩ := Prod.mk.inj (Option.some.inj h)
  subst hj1
  obtain ⟨hj2, hk2⟩ := Prod.mk.inj hk1
  subst hj2
  subst hk2
  unfold Gives
  exact ⟨_, Le.refl _ _, rfl, rfl⟩

/- vinculum/node.digits -/
def R_node_digits (n : Nat) (xs : List AV) (r : Ret) : Prop := ∃ (a0 : List UInt8) (y0 : Bool), m_node_digits n a0 = some y0 ∧ xs = [.s (.str a0)] ∧ r = .val (.s (.bool y0))
def S_node_digits : PSpec := pspec fun xs r => ∃ n, R_node_digits n xs r
set_option maxHeartbeats 2000000 in
set_option maxRecDepth 100000 in
theorem ok_node_digits : PSound Tryd.prog 65 S_node_digits := by
  have gok : ∀ (f : Nat) (s : PSpec), (fun _ => none : Nat → Option PSpec) f = some s → PSound Tryd.prog f s := fun _ _ h => by cases h
  refine psound tokW Tryd.call65 Tryd.func65 rfl (fun xs r h => by obtain ⟨n, _, _, _, rfl, _⟩ := h; show 1 ≤ 22; decide) 22 rfl ?_
  rintro xs r w0 G0 ⟨n, s1, y0, h, rfl, rfl⟩ _
  rw [m_node_digits] at h
  refine tri_seq ?_
  refine tri_region (by exact tokW) (by exact gok) [] [] rfl ?_
  show Tri _ _ _ _
  refine tri_seq ?_
  refine tri_seq ?_
  refine tri_region (by exact tokW) (by exact gok) [] [] rfl ?_
  show Tri _ _ _ _
  obtain ⟨fl, hl, ho1⟩ := bind_out h
  refine tri_fl (fl := fl) (fun z => match z with | _ => ⟨ofL [(0, .s (.str s1))], fun _ => none, 0⟩) ?_ (fun z σ' hz hle => ?_)
  · refine tri_block (tri_loopI (X := Nat × Int) (fun y => match y with | (k, i2) => ⟨ofL [(0, .s (.str s1)), (3, .s (.int .i64 i2))], fun _ => none, 0⟩) (fun y => m_node_digits_l1 s1 y.1 y.2 = some fl) (fun y => y.1) (n, 0) hl ?_ ?_)
    · exact (Le.forget _ ⟨rfl, rfl, trivial⟩)
    · rintro ⟨k, i2⟩ h
      cases k with
      | zero => cases h
      | succ k =>
        replace h : m_node_digits_l1 s1 (k+1) i2 = some fl := h
        rw [m_node_digits_l1] at h
        refine tri_seq ?_
        refine tri_seq ?_
        refine tri_region (by exact tokW) (by exact gok) [] [] rfl ?_
        show Tri _ _ _ _
        refine tri_cond rfl (fun hb => ?_) (fun hb => ?_)
        · replace h := bif_t hb h
          refine tri_skip ?_
          show Tri _ _ _ _
          refine tri_seq ?_
          refine tri_block ?_
          refine tri_seq ?_
          obtain ⟨x3, hj, h⟩ := bind_out h
          refine tri_post ⟨ofL [(0, .s (.str s1)), (3, .s (.int .i64 i2)), (19, .s (.bool x3))], fun _ => none, 0⟩ ?_ (fun σ' hle => ?_)
          · replace h := hj
            refine tri_region (by exact tokW) (by exact gok) [] [12, 14, 17] rfl ?_
            obtain ⟨c4, hc4, h⟩ := bind_out h
            refine And.intro (str_ok hc4).1 ?_
            intro v5 hv5
            obtain rfl : (c4.toNat : Int) = v5 := (hv5.trans (str_ok hc4).2).symm
            intro b hb
            cases b with
            | true =>
              replace h := bif_t hb.symm h
              cases h
              exact (Le.forget _ ⟨rfl, rfl, rfl, trivial⟩)
            | false =>
              replace h := bif_f hb.symm h
              obtain ⟨c6, hc6, h⟩ := bind_out h
              refine And.intro (str_ok hc6).1 ?_
              intro v7 hv7
              obtain rfl : (c6.toNat : Int) = v7 := (hv7.trans (str_ok hc6).2).symm
              cases h
              exact (Le.forget _ ⟨rfl, rfl, rfl, trivial⟩)
          · show Tri _ _ _ _
            refine tri_le hle ?_
            refine tri_cond rfl (fun hb => ?_) (fun hb => ?_)
            · replace h := bif_t hb h
              refine tri_seq ?_
              refine tri_region (by exact tokW) (by exact gok) [] [] rfl ?_
              show Tri _ _ _ _
              refine tri_ret ?_
              cases h
              replace h : some _ = some _ := ho1
              have hy := Option.some.inj h
              subst hy
              unfold Gives
              exact ⟨_, Le.refl _ _, rfl, rfl⟩
            · replace h := bif_f hb h
              refine tri_skip ?_
              show Tri _ _ _ _
              refine tri_region (by exact tokW) (by exact gok) [] [] rfl ?_
              refine ⟨(k, IntKind.i64.wrap (i2 + 1)), h, (Le.forget _ ⟨rfl, rfl, trivial⟩), Nat.lt_succ_self k⟩
        · replace h := bif_f hb h
          refine tri_exit ?_
          cases h
          exact ⟨_, rfl, (Le.forget _ ⟨rfl, trivial⟩)⟩
  · subst hz
    obtain _ := z
    replace h := ho1
    show Tri _ _ _ _
    refine tri_le hle ?_
    refine tri_seq ?_
    refine tri_region (by exact tokW) (by exact gok) [] [] rfl ?_
    show Tri _ _ _ _
    refine tri_ret ?_
    have hy := Option.some.inj h
    subst hy
    unfold Gives
    exact ⟨_, Le.refl _ _, rfl, rfl⟩

/- vinculum/node.Number -/
def R_node_Number (n : Nat) (xs : List AV) (r : Ret) : Prop := ∃ (a0 : List UInt8) (y0 : Bool), m_node_Number n a0 = some y0 ∧ xs = [.s (.str a0)] ∧ r = .val (.s (.bool y0))
def S_node_Number : PSpec := pspec fun xs r => ∃ n, R_node_Number n xs r
set_option maxHeartbeats 2000000 in
set_option maxRecDepth 100000 in
theorem ok_node_Number : PSound Tryd.prog 47 S_node_Number := by
  have gok : ∀ f s, look? f [(64, S_strings_Cut), (65, S_node_digits)] = some s → PSound Tryd.prog f s := look_all (by
    simp only [List.forall_mem_cons]
    exact ⟨ok_strings_Cut, ok_node_digits, by simp⟩)
  refine psound tokW Tryd.call47 Tryd.func47 rfl (fun xs r h => by obtain ⟨n, _, _, _, rfl, _⟩ := h; show 1 ≤ 27; decide) 27 rfl ?_
  rintro xs r w0 G0 ⟨n, s1, y0, h, rfl, rfl⟩ _
  rw [m_node_Number] at h
  refine tri_seq ?_
  refine tri_region (by exact tokW) (by exact gok) [] [] rfl ?_
  show Tri _ _ _ _
  refine tri_seq ?_
  refine tri_region (by exact tokW) (by exact gok) [] [] rfl ?_
  obtain ⟨⟨y2, y3, y4⟩, hy2, h⟩ := bind_out h
  refine ⟨_, ⟨_, _, _, _, _, hy2, rfl, rfl⟩, ?_⟩
  show Tri _ _ _ _
  refine tri_seq ?_
  obtain ⟨x5, hj, h⟩ := bind_out h
  refine tri_post ⟨ofL [(2, .s (.bool x5))], fun _ => none, 0⟩ ?_ (fun σ' hle => ?_)
  · replace h := hj
    refine tri_region (by exact tokW) (by exact gok) [] [15, 19, 22] rfl ?_
    intro b hb
    cases b with
    | true =>
      replace h := bif_t hb.symm h
      obtain ⟨y6, hy6, h⟩ := bind_out h
      refine ⟨_, ⟨_, _, _, hy6, rfl, rfl⟩, ?_⟩
      intro b hb
      cases b with
      | true =>
        replace h := bif_t hb.symm h
        intro b hb
        cases b with
        | true =>
          replace h := bif_t hb.symm h
          cases h
          exact (Le.forget _ ⟨rfl, trivial⟩)
        | false =>
          replace h := bif_f hb.symm h
          obtain ⟨y7, hy7, h⟩ := bind_out h
          refine ⟨_, ⟨_, _, _, hy7, rfl, rfl⟩, ?_⟩
          cases h
          exact (Le.forget _ ⟨rfl, trivial⟩)
      | false =>
        replace h := bif_f hb.symm h
        cases h
        exact (Le.forget _ ⟨rfl, trivial⟩)
    | false =>
      replace h := bif_f hb.symm h
      intro b hb
      subst hb
      cases h
      exact (Le.forget _ ⟨rfl, trivial⟩)
  · show Tri _ _ _ _
    refine tri_le hle ?_
    refine tri_ret ?_
    have hy := Option.some.inj h
    subst hy
    unfold Gives
    exact ⟨_, Le.refl _ _, rfl, rfl⟩

/- vinculum/node.plain -/
def R_node_plain (n : Nat) (xs : List AV) (r : Ret) : Prop := ∃ (a0 : List UInt8) (y0 : Bool), m_node_plain n a0 = some y0 ∧ xs = [.s (.str a0)] ∧ r = .val (.s (.bool y0))
def S_node_plain : PSpec := pspec fun xs r => ∃ n, R_node_plain n xs r
set_option maxHeartbeats 2000000 in
set_option maxRecDepth 100000 in
theorem ok_node_plain : PSound Tryd.prog 48 S_node_plain := by
  have gok : ∀ (f : Nat) (s : PSpec), (fun _ => none : Nat → Option PSpec) f = some s → PSound Tryd.prog f s := fun _ _ h => by cases h
  refine psound tokW Tryd.call48 Tryd.func48 rfl (fun xs r h => by obtain ⟨n, _, _, _, rfl, _⟩ := h; show 1 ≤ 23; decide) 23 rfl ?_
  rintro xs r w0 G0 ⟨n, s1, y0, h, rfl, rfl⟩ _
  rw [m_node_plain] at h
  refine tri_seq ?_
  refine tri_region (by exact tokW) (by exact gok) [] [] rfl ?_
  show Tri _ _ _ _
  refine tri_seq ?_
  refine tri_seq ?_
  refine tri_region (by exact tokW) (by exact gok) [] [] rfl ?_
  show Tri _ _ _ _
  obtain ⟨fl, hl, ho1⟩ := bind_out h
  refine tri_fl (fl := fl) (fun z => match z with | _ => ⟨ofL [(0, .s (.str s1))], fun _ => none, 0⟩) ?_ (fun z σ' hz hle => ?_)
  · refine tri_block (tri_loopI (X := Nat × Int) (fun y => match y with | (k, i2) => ⟨ofL [(0, .s (.str s1)), (3, .s (.int .i64 i2))], fun _ => none, 0⟩) (fun y => m_node_plain_l1 s1 y.1 y.2 = some fl) (fun y => y.1) (n, 0) hl ?_ ?_)
    · exact (Le.forget _ ⟨rfl, rfl, trivial⟩)
    · rintro ⟨k, i2⟩ h
      cases k with
      | zero => cases h
      | succ k =>
        replace h : m_node_plain_l1 s1 (k+1) i2 = some fl := h
        rw [m_node_plain_l1] at h
        refine tri_seq ?_
        refine tri_seq ?_
        refine tri_region (by exact tokW) (by exact gok) [] [] rfl ?_
        show Tri _ _ _ _
        refine tri_cond rfl (fun hb => ?_) (fun hb => ?_)
        · replace h := bif_t hb h
          refine tri_skip ?_
          show Tri _ _ _ _
          refine tri_seq ?_
          refine tri_block ?_
          refine tri_seq ?_
          obtain ⟨x3, hj, h⟩ := bind_out h
          refine tri_post ⟨ofL [(0, .s (.str s1)), (3, .s (.int .i64 i2)), (19, .s (.bool x3))], fun _ => none, 0⟩ ?_ (fun σ' hle => ?_)
          · replace h := hj
            refine tri_region (by exact tokW) (by exact gok) [] [12, 14, 17] rfl ?_
            obtain ⟨c4, hc4, h⟩ := bind_out h
            refine And.intro (str_ok hc4).1 ?_
            intro v5 hv5
            obtain rfl : (c4.toNat : Int) = v5 := (hv5.trans (str_ok hc4).2).symm
            intro b hb
            cases b with
            | true =>
              replace h := bif_t hb.symm h
              cases h
              exact (Le.forget _ ⟨rfl, rfl, rfl, trivial⟩)
            | false =>
              replace h := bif_f hb.symm h
              obtain ⟨c6, hc6, h⟩ := bind_out h
              refine And.intro (str_ok hc6).1 ?_
              intro v7 hv7
              obtain rfl : (c6.toNat : Int) = v7 := (hv7.trans (str_ok hc6).2).symm
              cases h
              exact (Le.forget _ ⟨rfl, rfl, rfl, trivial⟩)
          · show Tri _ _ _ _
            refine tri_le hle ?_
            refine tri_cond rfl (fun hb => ?_) (fun hb => ?_)
            · replace h := bif_t hb h
              refine tri_seq ?_
              refine tri_region (by exact tokW) (by exact gok) [] [] rfl ?_
              show Tri _ _ _ _
              refine tri_ret ?_
              cases h
              replace h : some _ = some _ := ho1
              have hy := Option.some.inj h
              subst hy
              unfold Gives
              exact ⟨_, Le.refl _ _, rfl, rfl⟩
            · replace h := bif_f hb h
              refine tri_skip ?_
              show Tri _ _ _ _
              refine tri_region (by exact tokW) (by exact gok) [] [] rfl ?_
              refine ⟨(k, IntKind.i64.wrap (i2 + 1)), h, (Le.forget _ ⟨rfl, rfl, trivial⟩), Nat.lt_succ_self k⟩
        · replace h := bif_f hb h
          refine tri_exit ?_
          cases h
          exact ⟨_, rfl, (Le.forget _ ⟨rfl, trivial⟩)⟩
  · subst hz
    obtain _ := z
    replace h := ho1
    show Tri _ _ _ _
    refine tri_le hle ?_
    refine tri_seq ?_
    refine tri_region (by exact tokW) (by exact gok) [] [] rfl ?_
    show Tri _ _ _ _
    refine tri_ret ?_
    have hy := Option.some.inj h
    subst hy
    unfold Gives
    exact ⟨_, Le.refl _ _, rfl, rfl⟩

/- vinculum/node.fence -/
def R_node_fence (xs : List AV) (r : Ret) : Prop := ∃ (a0 : List UInt8) (y0 : Bool), m_node_fence a0 = some y0 ∧ xs = [.s (.str a0)] ∧ r = .val (.s (.bool y0))
def S_node_fence : PSpec := pspec fun xs r => R_node_fence xs r
set_option maxHeartbeats 2000000 in
set_option maxRecDepth 100000 in
theorem ok_node_fence : PSound Tryd.prog 50 S_node_fence := by
  have gok : ∀ f s, look? f [(66, S_strings_IndexByte)] = some s → PSound Tryd.prog f s := look_all (by
    simp only [List.forall_mem_cons]
    exact ⟨ok_strings_IndexByte, by simp⟩)
  refine psound tokW Tryd.call50 Tryd.func50 rfl (fun xs r h => by obtain ⟨_, _, _, rfl, _⟩ := h; show 1 ≤ 18; decide) 18 rfl ?_
  rintro xs r w0 G0 ⟨s1, y0, h, rfl, rfl⟩ _
  rw [m_node_fence] at h
  refine tri_seq ?_
  refine tri_region (by exact tokW) (by exact gok) [] [] rfl ?_
  show Tri _ _ _ _
  refine tri_seq ?_
  obtain ⟨x2, hj, h⟩ := bind_out h
  refine tri_post ⟨ofL [(2, .s (.bool x2))], fun _ => none, 0⟩ ?_ (fun σ' hle => ?_)
  · replace h := hj
    refine tri_region (by exact tokW) (by exact gok) [] [6, 8, 12, 14] rfl ?_
    intro b hb
    cases b with
    | true =>
      replace h := bif_t hb.symm h
      obtain ⟨c3, hc3, h⟩ := bind_out h
      refine And.intro (str_ok hc3).1 ?_
      intro v4 hv4
      obtain rfl : (c3.toNat : Int) = v4 := (hv4.trans (str_ok hc3).2).symm
      obtain ⟨y5, hy5, h⟩ := bind_out h
      refine ⟨_, ⟨_, _, _, hy5, rfl, rfl⟩, ?_⟩
      intro b hb
      cases b with
      | true =>
        replace h := bif_t hb.symm h
        obtain ⟨c6, hc6, h⟩ := bind_out h
        refine And.intro (str_ok hc6).1 ?_
        intro v7 hv7
        obtain rfl : (c6.toNat : Int) = v7 := (hv7.trans (str_ok hc6).2).symm
        obtain ⟨y8, hy8, h⟩ := bind_out h
        refine ⟨_, ⟨_, _, _, hy8, rfl, rfl⟩, ?_⟩
        cases h
        exact (Le.forget _ ⟨rfl, trivial⟩)
      | false =>
        replace h := bif_f hb.symm h
        cases h
        exact (Le.forget _ ⟨rfl, trivial⟩)
    | false =>
      replace h := bif_f hb.symm h
      intro b hb
      subst hb
      cases h
      exact (Le.forget _ ⟨rfl, trivial⟩)
  · show Tri _ _ _ _
    refine tri_le hle ?_
    refine tri_ret ?_
    have hy := Option.some.inj h
    subst hy
    unfold Gives
    exact ⟨_, Le.refl _ _, rfl, rfl⟩

/- vinculum/node.kinds -/
def enc_13_node_kind (p : Unit) : List S := [.str [], .int .i64 0, .nf, .str [114, 111, 119], .int .i64 0, .fn 45, .str [115, 121, 109], .int .i64 0, .fn 46, .str [110, 117, 109], .int .i64 0, .fn 47, .str [116, 101, 120, 116], .int .i64 0, .fn 48, .str [102, 114, 97, 99], .int .i64 2, .fn 45, .str [114, 111, 111, 116], .int .i64 2, .fn 45, .str [115, 117, 98], .int .i64 2, .fn 45, .str [115, 117, 112], .int .i64 2, .fn 45, .str [98, 111, 116, 104], .int .i64 3, .fn 45, .str [97, 99, 99, 101, 110, 116], .int .i64 1, .fn 49, .str [102, 101, 110, 99, 101], .int .i64 1, .fn 50, .str [109, 97, 116, 114, 105, 120], .int .i64 0, .fn 45]
def R_node_kinds (xs : List AV) (r : Ret) : Prop := ∃ (y0 : Unit), m_node_kinds = some y0 ∧ xs = [] ∧ r = .val (.agg ((enc_13_node_kind y0).map .s))
def S_node_kinds : PSpec := pspec fun xs r => R_node_kinds xs r
set_option maxHeartbeats 2000000 in
set_option maxRecDepth 100000 in
theorem ok_node_kinds : PSound Tryd.prog 33 S_node_kinds := by
  have gok : ∀ (f : Nat) (s : PSpec), (fun _ => none : Nat → Option PSpec) f = some s → PSound Tryd.prog f s := fun _ _ h => by cases h
  refine psound tokW Tryd.call33 Tryd.func33 rfl (fun xs r h => by obtain ⟨_, _, rfl, _⟩ := h; show 0 ≤ 14; decide) 14 rfl ?_
  rintro xs r w0 G0 ⟨y0, h, rfl, rfl⟩ _
  rw [m_node_kinds] at h
  refine tri_seq ?_
  refine tri_region (by exact tokW) (by exact gok) [0] [] rfl ?_
  show Tri _ _ _ _
  refine tri_seq ?_
  refine tri_region (by exact tokW) (by exact gok) [] [] rfl ?_
  show Tri _ _ _ _
  refine tri_ret ?_
  have hy := Option.some.inj h
  subst hy
  unfold Gives
  exact ⟨_, Le.refl _ _, rfl, rfl⟩

/- (*vinculum/node.checker).own -/
def enc_node_checker (p : (Unit × Int)) : List S := [.str [], .int .i64 0, .nf, .str [114, 111, 119], .int .i64 0, .fn 45, .str [115, 121, 109], .int .i64 0, .fn 46, .str [110, 117, 109], .int .i64 0, .fn 47, .str [116, 101, 120, 116], .int .i64 0, .fn 48, .str [102, 114, 97, 99], .int .i64 2, .fn 45, .str [114, 111, 111, 116], .int .i64 2, .fn 45, .str [115, 117, 98], .int .i64 2, .fn 45, .str [115, 117, 112], .int .i64 2, .fn 45, .str [98, 111, 116, 104], .int .i64 3, .fn 45, .str [97, 99, 99, 101, 110, 116], .int .i64 1, .fn 49, .str [102, 101, 110, 99, 101], .int .i64 1, .fn 50, .str [109, 97, 116, 114, 105, 120], .int .i64 0, .fn 45, .int .i64 p.2]
def R_node_checker_own (n : Nat) (xs : List AV) (os : List Ob) (x : AV) (os' : List (Option Ob)) : Prop := ∃ (a0 : (Unit × Int)) (a1 : Nd) (y0 : Bool) (z0 : (Unit × Int)), m_node_checker_own n a0 a1 = some (y0, z0) ∧ xs = [.op 0 0, .s (.pt (Nd.enc a1))] ∧ os = [.box 62 ((enc_node_checker a0).map .s)] ∧ x = .s (.bool y0) ∧ os' = [some (.box 62 ((enc_node_checker z0).map .s))]
def S_node_checker_own : PSpec := ospec (fun xs os x os' => ∃ n, R_node_checker_own n xs os x os')
set_option maxHeartbeats 2000000 in
set_option maxRecDepth 100000 in
theorem ok_node_checker_own : PSound Tryd.prog 51 S_node_checker_own := by
  have gok : ∀ f s, look? f [(45, S_node_empty), (46, S_node_Symbol), (47, S_node_Number), (48, S_node_plain), (49, S_node_accent), (50, S_node_fence)] = some s → PSound Tryd.prog f s := look_all (by
    simp only [List.forall_mem_cons]
    exact ⟨ok_node_empty, ok_node_Symbol, ok_node_Number, ok_node_plain, ok_node_accent, ok_node_fence, by simp⟩)
  refine PSound.withNil (osound tokW Tryd.call51 Tryd.func51 rfl (fun xs os x os' h => by obtain ⟨n, _, _, _, _, _, rfl, rfl, _, rfl⟩ := h; exact ⟨by show 2 ≤ 120; decide, by show 1 ≤ 1; decide⟩) 120 rfl ?_) _
  rintro xs os x os' w0 G0 B0 ⟨n, ⟨_, o1_nodes⟩, ⟨a2_kind, a2_text, a2_cols, a2_kids⟩, y0, z0, h, rfl, rfl, rfl, rfl⟩ _
  rw [m_node_checker_own] at h
  refine tri_seq ?_
  refine tri_region (by exact tokW) (by exact gok) [] [] rfl ?_
  show Tri _ _ _ _
  refine tri_seq ?_
  refine tri_seq ?_
  obtain ⟨x3, hj, h⟩ := bind_out h
  refine tri_post ⟨ofL [(0, .op 0 0), (1, .s (.pt [.int .i64 a2_kind, .str a2_text, .int .i64 a2_cols, .sl 4 (Nd.encs a2_kids)])), (34, .s (.bool x3))], ofH [(0, .box 62 [.s (.str []), .s (.int .i64 0), .s (.nf), .s (.str [114, 111, 119]), .s (.int .i64 0), .s (.fn 45), .s (.str [115, 121, 109]), .s (.int .i64 0), .s (.fn 46), .s (.str [110, 117, 109]), .s (.int .i64 0), .s (.fn 47), .s (.str [116, 101, 120, 116]), .s (.int .i64 0), .s (.fn 48), .s (.str [102, 114, 97, 99]), .s (.int .i64 2), .s (.fn 45), .s (.str [114, 111, 111, 116]), .s (.int .i64 2), .s (.fn 45), .s (.str [115, 117, 98]), .s (.int .i64 2), .s (.fn 45), .s (.str [115, 117, 112]), .s (.int .i64 2), .s (.fn 45), .s (.str [98, 111, 116, 104]), .s (.int .i64 3), .s (.fn 45), .s (.str [97, 99, 99, 101, 110, 116]), .s (.int .i64 1), .s (.fn 49), .s (.str [102, 101, 110, 99, 101]), .s (.int .i64 1), .s (.fn 50), .s (.str [109, 97, 116, 114, 105, 120]), .s (.int .i64 0), .s (.fn 45), .s (.int .i64 o1_nodes)])], 1⟩ ?_ (fun σ' hle => ?_)
  · replace h := hj
    refine tri_drawn (by exact tokW) (by exact gok) (by exact mixed) [] [10, 17, 22] [22] rfl (by decide +kernel) ?_
    intro b hb
    cases b with
    | true =>
      replace h := bif_t hb.symm h
      intro b hb
      subst hb
      cases h
      exact (Le.rename [(0, 0)] _ _ _ ⟨rfl, rfl, rfl, trivial⟩ ⟨rfl, ⟨_, rfl, rfl⟩, trivial⟩ rfl rfl rfl rfl rfl)
    | false =>
      replace h := bif_f hb.symm h
      intro b hb
      cases b with
      | true =>
        replace h := bif_t hb.symm h
        cases h
        exact (Le.rename [(0, 0)] _ _ _ ⟨rfl, rfl, rfl, trivial⟩ ⟨rfl, ⟨_, rfl, rfl⟩, trivial⟩ rfl rfl rfl rfl rfl)
      | false =>
        replace h := bif_f hb.symm h
        intro vsp hvsp
        cases hc : (a2_kind == 1) with
        | true =>
          replace h := bif_t hc h
          obtain rfl : (1 : Int) = vsp := (hvsp.trans (eq_of_beq hc)).symm
          refine And.intro (by decide) ?_
          obtain ⟨y4, hy4, h⟩ := bind_out h
          refine ⟨_, ⟨_, _, hy4, rfl, rfl⟩, ?_⟩
          cases h
          exact (Le.rename [(0, 0)] _ _ _ ⟨rfl, rfl, rfl, trivial⟩ ⟨rfl, ⟨_, rfl, rfl⟩, trivial⟩ rfl rfl rfl rfl rfl)
        | false =>
          replace h := bif_f hc h
          cases hc : (a2_kind == 2) with
          | true =>
            replace h := bif_t hc h
            obtain rfl : (2 : Int) = vsp := (hvsp.trans (eq_of_beq hc)).symm
            refine And.intro (by decide) ?_
            obtain ⟨y5, hy5, h⟩ := bind_out h
            refine ⟨_, ⟨_, _, _, hy5, rfl, rfl⟩, ?_⟩
            cases h
            exact (Le.rename [(0, 0)] _ _ _ ⟨rfl, rfl, rfl, trivial⟩ ⟨rfl, ⟨_, rfl, rfl⟩, trivial⟩ rfl rfl rfl rfl rfl)
          | false =>
            replace h := bif_f hc h
            cases hc : (a2_kind == 3) with
            | true =>
              replace h := bif_t hc h
              obtain rfl : (3 : Int) = vsp := (hvsp.trans (eq_of_beq hc)).symm
              refine And.intro (by decide) ?_
              obtain ⟨y6, hy6, h⟩ := bind_out h
              refine ⟨_, ⟨_, _, _, hy6, rfl, rfl⟩, ?_⟩
              cases h
              exact (Le.rename [(0, 0)] _ _ _ ⟨rfl, rfl, rfl, trivial⟩ ⟨rfl, ⟨_, rfl, rfl⟩, trivial⟩ rfl rfl rfl rfl rfl)
            | false =>
              replace h := bif_f hc h
              cases hc : (a2_kind == 4) with
              | true =>
                replace h := bif_t hc h
                obtain rfl : (4 : Int) = vsp := (hvsp.trans (eq_of_beq hc)).symm
                refine And.intro (by decide) ?_
                obtain ⟨y7, hy7, h⟩ := bind_out h
                refine ⟨_, ⟨_, _, _, hy7, rfl, rfl⟩, ?_⟩
                cases h
                exact (Le.rename [(0, 0)] _ _ _ ⟨rfl, rfl, rfl, trivial⟩ ⟨rfl, ⟨_, rfl, rfl⟩, trivial⟩ rfl rfl rfl rfl rfl)
              | false =>
                replace h := bif_f hc h
                cases hc : (a2_kind == 5) with
                | true =>
                  replace h := bif_t hc h
                  obtain rfl : (5 : Int) = vsp := (hvsp.trans (eq_of_beq hc)).symm
                  refine And.intro (by decide) ?_
                  obtain ⟨y8, hy8, h⟩ := bind_out h
                  refine ⟨_, ⟨_, _, hy8, rfl, rfl⟩, ?_⟩
                  cases h
                  exact (Le.rename [(0, 0)] _ _ _ ⟨rfl, rfl, rfl, trivial⟩ ⟨rfl, ⟨_, rfl, rfl⟩, trivial⟩ rfl rfl rfl rfl rfl)
                | false =>
                  replace h := bif_f hc h
                  cases hc : (a2_kind == 6) with
                  | true =>
                    replace h := bif_t hc h
                    obtain rfl : (6 : Int) = vsp := (hvsp.trans (eq_of_beq hc)).symm
                    refine And.intro (by decide) ?_
                    obtain ⟨y9, hy9, h⟩ := bind_out h
                    refine ⟨_, ⟨_, _, hy9, rfl, rfl⟩, ?_⟩
                    cases h
                    exact (Le.rename [(0, 0)] _ _ _ ⟨rfl, rfl, rfl, trivial⟩ ⟨rfl, ⟨_, rfl, rfl⟩, trivial⟩ rfl rfl rfl rfl rfl)
                  | false =>
                    replace h := bif_f hc h
                    cases hc : (a2_kind == 7) with
                    | true =>
                      replace h := bif_t hc h
                      obtain rfl : (7 : Int) = vsp := (hvsp.trans (eq_of_beq hc)).symm
                      refine And.intro (by decide) ?_
                      obtain ⟨y10, hy10, h⟩ := bind_out h
                      refine ⟨_, ⟨_, _, hy10, rfl, rfl⟩, ?_⟩
                      cases h
                      exact (Le.rename [(0, 0)] _ _ _ ⟨rfl, rfl, rfl, trivial⟩ ⟨rfl, ⟨_, rfl, rfl⟩, trivial⟩ rfl rfl rfl rfl rfl)
                    | false =>
                      replace h := bif_f hc h
                      cases hc : (a2_kind == 8) with
                      | true =>
                        replace h := bif_t hc h
                        obtain rfl : (8 : Int) = vsp := (hvsp.trans (eq_of_beq hc)).symm
                        refine And.intro (by decide) ?_
                        obtain ⟨y11, hy11, h⟩ := bind_out h
                        refine ⟨_, ⟨_, _, hy11, rfl, rfl⟩, ?_⟩
                        cases h
                        exact (Le.rename [(0, 0)] _ _ _ ⟨rfl, rfl, rfl, trivial⟩ ⟨rfl, ⟨_, rfl, rfl⟩, trivial⟩ rfl rfl rfl rfl rfl)
                      | false =>
                        replace h := bif_f hc h
                        cases hc : (a2_kind == 9) with
                        | true =>
                          replace h := bif_t hc h
                          obtain rfl : (9 : Int) = vsp := (hvsp.trans (eq_of_beq hc)).symm
                          refine And.intro (by decide) ?_
                          obtain ⟨y12, hy12, h⟩ := bind_out h
                          refine ⟨_, ⟨_, _, hy12, rfl, rfl⟩, ?_⟩
                          cases h
                          exact (Le.rename [(0, 0)] _ _ _ ⟨rfl, rfl, rfl, trivial⟩ ⟨rfl, ⟨_, rfl, rfl⟩, trivial⟩ rfl rfl rfl rfl rfl)
                        | false =>
                          replace h := bif_f hc h
                          cases hc : (a2_kind == 10) with
                          | true =>
                            replace h := bif_t hc h
                            obtain rfl : (10 : Int) = vsp := (hvsp.trans (eq_of_beq hc)).symm
                            refine And.intro (by decide) ?_
                            obtain ⟨y13, hy13, h⟩ := bind_out h
                            refine ⟨_, ⟨_, _, hy13, rfl, rfl⟩, ?_⟩
                            cases h
                            exact (Le.rename [(0, 0)] _ _ _ ⟨rfl, rfl, rfl, trivial⟩ ⟨rfl, ⟨_, rfl, rfl⟩, trivial⟩ rfl rfl rfl rfl rfl)
                          | false =>
                            replace h := bif_f hc h
                            cases hc : (a2_kind == 11) with
                            | true =>
                              replace h := bif_t hc h
                              obtain rfl : (11 : Int) = vsp := (hvsp.trans (eq_of_beq hc)).symm
                              refine And.intro (by decide) ?_
                              obtain ⟨y14, hy14, h⟩ := bind_out h
                              refine ⟨_, ⟨_, _, hy14, rfl, rfl⟩, ?_⟩
                              cases h
                              exact (Le.rename [(0, 0)] _ _ _ ⟨rfl, rfl, rfl, trivial⟩ ⟨rfl, ⟨_, rfl, rfl⟩, trivial⟩ rfl rfl rfl rfl rfl)
                            | false =>
                              replace h := bif_f hc h
                              cases hc : (a2_kind == 12) with
                              | true =>
                                replace h := bif_t hc h
                                obtain rfl : (12 : Int) = vsp := (hvsp.trans (eq_of_beq hc)).symm
                                refine And.intro (by decide) ?_
                                obtain ⟨y15, hy15, h⟩ := bind_out h
                                refine ⟨_, ⟨_, _, hy15, rfl, rfl⟩, ?_⟩
                                cases h
                                exact (Le.rename [(0, 0)] _ _ _ ⟨rfl, rfl, rfl, trivial⟩ ⟨rfl, ⟨_, rfl, rfl⟩, trivial⟩ rfl rfl rfl rfl rfl)
                              | false =>
                                replace h := bif_f hc h
                                cases h
  · show Tri _ _ _ _
    refine tri_le hle ?_
    refine tri_cond rfl (fun hb => ?_) (fun hb => ?_)
    · replace h := bif_t hb h
      refine tri_seq ?_
      refine tri_region (by exact tokW) (by exact gok) [] [] rfl ?_
      show Tri _ _ _ _
      refine tri_ret ?_
      obtain ⟨hj1, hk1⟩ := Prod.mk.inj (Option.some.inj h)
      subst hj1
      subst hk1
      unfold GivesO
      exact ⟨_, (Le.rename [(0, 0)] [(4, .s (.bool false))] [(0, .box 62 [.s (.str []), .s (.int .i64 0), .s (.nf), .s (.str [114, 111, 119]), .s (.int .i64 0), .s (.fn 45), .s (.str [115, 121, 109]), .s (.int .i64 0), .s (.fn 46), .s (.str [110, 117, 109]), .s (.int .i64 0), .s (.fn 47), .s (.str [116, 101, 120, 116]), .s (.int .i64 0), .s (.fn 48), .s (.str [102, 114, 97, 99]), .s (.int .i64 2), .s (.fn 45), .s (.str [114, 111, 111, 116]), .s (.int .i64 2), .s (.fn 45), .s (.str [115, 117, 98]), .s (.int .i64 2), .s (.fn 45), .s (.str [115, 117, 112]), .s (.int .i64 2), .s (.fn 45), .s (.str [98, 111, 116, 104]), .s (.int .i64 3), .s (.fn 45), .s (.str [97, 99, 99, 101, 110, 116]), .s (.int .i64 1), .s (.fn 49), .s (.str [102, 101, 110, 99, 101]), .s (.int .i64 1), .s (.fn 50), .s (.str [109, 97, 116, 114, 105, 120]), .s (.int .i64 0), .s (.fn 45), .s (.int .i64 o1_nodes)])] 1 ⟨rfl, trivial⟩ ⟨rfl, ⟨_, rfl, rfl⟩, trivial⟩ rfl rfl rfl rfl rfl), rfl, rfl, rfl, rfl, trivial⟩
    · replace h := bif_f hb h
      refine tri_skip ?_
      show Tri _ _ _ _
      refine tri_seq ?_
      refine tri_seq ?_
      refine tri_region (by exact tokW) (by exact gok) [] [] rfl ?_
      show Tri _ _ _ _
      refine tri_block ?_
      refine tri_seq ?_
      refine tri_region (by exact tokW) (by exact gok) [] [] rfl ?_
      show Tri _ _ _ _
      refine tri_cond rfl (fun hb => ?_) (fun hb => ?_)
      · replace h := bif_t hb h
        refine tri_seq ?_
        obtain ⟨x16, hj, h⟩ := bind_out h
        refine tri_post ⟨ofL [(4, .s (.bool x16))], ofH [(0, .box 62 [.s (.str []), .s (.int .i64 0), .s (.nf), .s (.str [114, 111, 119]), .s (.int .i64 0), .s (.fn 45), .s (.str [115, 121, 109]), .s (.int .i64 0), .s (.fn 46), .s (.str [110, 117, 109]), .s (.int .i64 0), .s (.fn 47), .s (.str [116, 101, 120, 116]), .s (.int .i64 0), .s (.fn 48), .s (.str [102, 114, 97, 99]), .s (.int .i64 2), .s (.fn 45), .s (.str [114, 111, 111, 116]), .s (.int .i64 2), .s (.fn 45), .s (.str [115, 117, 98]), .s (.int .i64 2), .s (.fn 45), .s (.str [115, 117, 112]), .s (.int .i64 2), .s (.fn 45), .s (.str [98, 111, 116, 104]), .s (.int .i64 3), .s (.fn 45), .s (.str [97, 99, 99, 101, 110, 116]), .s (.int .i64 1), .s (.fn 49), .s (.str [102, 101, 110, 99, 101]), .s (.int .i64 1), .s (.fn 50), .s (.str [109, 97, 116, 114, 105, 120]), .s (.int .i64 0), .s (.fn 45), .s (.int .i64 o1_nodes)])], 1⟩ ?_ (fun σ' hle => ?_)
        · replace h := hj
          refine tri_region (by exact tokW) (by exact gok) [] [46, 51] rfl ?_
          intro b hb
          cases b with
          | true =>
            replace h := bif_t hb.symm h
            intro n17 hn17
            obtain rfl : (a2_kids.length : Int) = n17 := (hn17.trans (congrArg (fun m : Nat => (m : Int)) (rlen Nd.encs_eq a2_kids))).symm
            cases h
            exact (Le.rename [(0, 0)] _ _ _ ⟨rfl, trivial⟩ ⟨rfl, ⟨_, rfl, rfl⟩, trivial⟩ rfl rfl rfl rfl rfl)
          | false =>
            replace h := bif_f hb.symm h
            cases h
            exact (Le.rename [(0, 0)] _ _ _ ⟨rfl, trivial⟩ ⟨rfl, ⟨_, rfl, rfl⟩, trivial⟩ rfl rfl rfl rfl rfl)
        · show Tri _ _ _ _
          refine tri_le hle ?_
          refine tri_ret ?_
          obtain ⟨hj1, hk1⟩ := Prod.mk.inj (Option.some.inj h)
          subst hj1
          subst hk1
          unfold GivesO
          exact ⟨_, (Le.rename [(0, 0)] [(4, .s (.bool x16))] [(0, .box 62 [.s (.str []), .s (.int .i64 0), .s (.nf), .s (.str [114, 111, 119]), .s (.int .i64 0), .s (.fn 45), .s (.str [115, 121, 109]), .s (.int .i64 0), .s (.fn 46), .s (.str [110, 117, 109]), .s (.int .i64 0), .s (.fn 47), .s (.str [116, 101, 120, 116]), .s (.int .i64 0), .s (.fn 48), .s (.str [102, 114, 97, 99]), .s (.int .i64 2), .s (.fn 45), .s (.str [114, 111, 111, 116]), .s (.int .i64 2), .s (.fn 45), .s (.str [115, 117, 98]), .s (.int .i64 2), .s (.fn 45), .s (.str [115, 117, 112]), .s (.int .i64 2), .s (.fn 45), .s (.str [98, 111, 116, 104]), .s (.int .i64 3), .s (.fn 45), .s (.str [97, 99, 99, 101, 110, 116]), .s (.int .i64 1), .s (.fn 49), .s (.str [102, 101, 110, 99, 101]), .s (.int .i64 1), .s (.fn 50), .s (.str [109, 97, 116, 114, 105, 120]), .s (.int .i64 0), .s (.fn 45), .s (.int .i64 o1_nodes)])] 1 ⟨rfl, trivial⟩ ⟨rfl, ⟨_, rfl, rfl⟩, trivial⟩ rfl rfl rfl rfl rfl), rfl, rfl, rfl, rfl, trivial⟩
      · replace h := bif_f hb h
        refine tri_seq ?_
        refine tri_region (by exact tokW) (by exact gok) [] [] rfl ?_
        show Tri _ _ _ _
        refine tri_cond rfl (fun hb => ?_) (fun hb => ?_)
        · replace h := bif_t hb h
          refine tri_seq ?_
          obtain ⟨x18, hj, h⟩ := bind_out h
          refine tri_post ⟨ofL [(4, .s (.bool x18))], ofH [(0, .box 62 [.s (.str []), .s (.int .i64 0), .s (.nf), .s (.str [114, 111, 119]), .s (.int .i64 0), .s (.fn 45), .s (.str [115, 121, 109]), .s (.int .i64 0), .s (.fn 46), .s (.str [110, 117, 109]), .s (.int .i64 0), .s (.fn 47), .s (.str [116, 101, 120, 116]), .s (.int .i64 0), .s (.fn 48), .s (.str [102, 114, 97, 99]), .s (.int .i64 2), .s (.fn 45), .s (.str [114, 111, 111, 116]), .s (.int .i64 2), .s (.fn 45), .s (.str [115, 117, 98]), .s (.int .i64 2), .s (.fn 45), .s (.str [115, 117, 112]), .s (.int .i64 2), .s (.fn 45), .s (.str [98, 111, 116, 104]), .s (.int .i64 3), .s (.fn 45), .s (.str [97, 99, 99, 101, 110, 116]), .s (.int .i64 1), .s (.fn 49), .s (.str [102, 101, 110, 99, 101]), .s (.int .i64 1), .s (.fn 50), .s (.str [109, 97, 116, 114, 105, 120]), .s (.int .i64 0), .s (.fn 45), .s (.int .i64 o1_nodes)])], 1⟩ ?_ (fun σ' hle => ?_)
          · replace h := hj
            refine tri_drawn (by exact tokW) (by exact gok) (by exact mixed) [] [61, 68, 73, 76, 81, 84, 89] [] rfl (by decide +kernel) ?_
            intro b hb
            cases b with
            | true =>
              replace h := bif_t hb.symm h
              intro b hb
              cases b with
              | true =>
                replace h := bif_t hb.symm h
                intro n19 hn19
                obtain rfl : (a2_kids.length : Int) = n19 := (hn19.trans (congrArg (fun m : Nat => (m : Int)) (rlen Nd.encs_eq a2_kids))).symm
                intro b hb
                cases b with
                | true =>
                  replace h := bif_t hb.symm h
                  intro n20 hn20
                  obtain rfl : (a2_kids.length : Int) = n20 := (hn20.trans (congrArg (fun m : Nat => (m : Int)) (rlen Nd.encs_eq a2_kids))).symm
                  intro b hb
                  cases b with
                  | true =>
                    replace h := bif_t hb.symm h
                    intro n21 hn21
                    obtain rfl : (a2_kids.length : Int) = n21 := (hn21.trans (congrArg (fun m : Nat => (m : Int)) (rlen Nd.encs_eq a2_kids))).symm
                    obtain ⟨hq, h⟩ := req_out h
                    refine And.intro hq ?_
                    cases h
                    exact (Le.rename [(0, 0)] _ _ _ ⟨rfl, trivial⟩ ⟨rfl, ⟨_, rfl, rfl⟩, trivial⟩ rfl rfl rfl rfl rfl)
                  | false =>
                    replace h := bif_f hb.symm h
                    cases h
                    exact (Le.rename [(0, 0)] _ _ _ ⟨rfl, trivial⟩ ⟨rfl, ⟨_, rfl, rfl⟩, trivial⟩ rfl rfl rfl rfl rfl)
                | false =>
                  replace h := bif_f hb.symm h
                  intro b hb
                  subst hb
                  cases h
                  exact (Le.rename [(0, 0)] _ _ _ ⟨rfl, trivial⟩ ⟨rfl, ⟨_, rfl, rfl⟩, trivial⟩ rfl rfl rfl rfl rfl)
              | false =>
                replace h := bif_f hb.symm h
                intro b hb
                subst hb
                intro b hb
                subst hb
                cases h
                exact (Le.rename [(0, 0)] _ _ _ ⟨rfl, trivial⟩ ⟨rfl, ⟨_, rfl, rfl⟩, trivial⟩ rfl rfl rfl rfl rfl)
            | false =>
              replace h := bif_f hb.symm h
              intro b hb
              subst hb
              intro b hb
              subst hb
              intro b hb
              subst hb
              cases h
              exact (Le.rename [(0, 0)] _ _ _ ⟨rfl, trivial⟩ ⟨rfl, ⟨_, rfl, rfl⟩, trivial⟩ rfl rfl rfl rfl rfl)
          · show Tri _ _ _ _
            refine tri_le hle ?_
            refine tri_ret ?_
            obtain ⟨hj1, hk1⟩ := Prod.mk.inj (Option.some.inj h)
            subst hj1
            subst hk1
            unfold GivesO
            exact ⟨_, (Le.rename [(0, 0)] [(4, .s (.bool x18))] [(0, .box 62 [.s (.str []), .s (.int .i64 0), .s (.nf), .s (.str [114, 111, 119]), .s (.int .i64 0), .s (.fn 45), .s (.str [115, 121, 109]), .s (.int .i64 0), .s (.fn 46), .s (.str [110, 117, 109]), .s (.int .i64 0), .s (.fn 47), .s (.str [116, 101, 120, 116]), .s (.int .i64 0), .s (.fn 48), .s (.str [102, 114, 97, 99]), .s (.int .i64 2), .s (.fn 45), .s (.str [114, 111, 111, 116]), .s (.int .i64 2), .s (.fn 45), .s (.str [115, 117, 98]), .s (.int .i64 2), .s (.fn 45), .s (.str [115, 117, 112]), .s (.int .i64 2), .s (.fn 45), .s (.str [98, 111, 116, 104]), .s (.int .i64 3), .s (.fn 45), .s (.str [97, 99, 99, 101, 110, 116]), .s (.int .i64 1), .s (.fn 49), .s (.str [102, 101, 110, 99, 101]), .s (.int .i64 1), .s (.fn 50), .s (.str [109, 97, 116, 114, 105, 120]), .s (.int .i64 0), .s (.fn 45), .s (.int .i64 o1_nodes)])] 1 ⟨rfl, trivial⟩ ⟨rfl, ⟨_, rfl, rfl⟩, trivial⟩ rfl rfl rfl rfl rfl), rfl, rfl, rfl, rfl, trivial⟩
        · replace h := bif_f hb h
          refine tri_skip ?_
          show Tri _ _ _ _
          refine tri_seq ?_
          obtain ⟨x22, hj, h⟩ := bind_out h
          refine tri_post ⟨ofL [(4, .s (.bool x22))], ofH [(0, .box 62 [.s (.str []), .s (.int .i64 0), .s (.nf), .s (.str [114, 111, 119]), .s (.int .i64 0), .s (.fn 45), .s (.str [115, 121, 109]), .s (.int .i64 0), .s (.fn 46), .s (.str [110, 117, 109]), .s (.int .i64 0), .s (.fn 47), .s (.str [116, 101, 120, 116]), .s (.int .i64 0), .s (.fn 48), .s (.str [102, 114, 97, 99]), .s (.int .i64 2), .s (.fn 45), .s (.str [114, 111, 111, 116]), .s (.int .i64 2), .s (.fn 45), .s (.str [115, 117, 98]), .s (.int .i64 2), .s (.fn 45), .s (.str [115, 117, 112]), .s (.int .i64 2), .s (.fn 45), .s (.str [98, 111, 116, 104]), .s (.int .i64 3), .s (.fn 45), .s (.str [97, 99, 99, 101, 110, 116]), .s (.int .i64 1), .s (.fn 49), .s (.str [102, 101, 110, 99, 101]), .s (.int .i64 1), .s (.fn 50), .s (.str [109, 97, 116, 114, 105, 120]), .s (.int .i64 0), .s (.fn 45), .s (.int .i64 o1_nodes)])], 1⟩ ?_ (fun σ' hle => ?_)
          · replace h := hj
            refine tri_drawn (by exact tokW) (by exact gok) (by exact mixed) [] [102, 107, 112] [20] rfl (by decide +kernel) ?_
            intro b hb
            cases b with
            | true =>
              replace h := bif_t hb.symm h
              intro n23 hn23
              obtain rfl : (a2_kids.length : Int) = n23 := (hn23.trans (congrArg (fun m : Nat => (m : Int)) (rlen Nd.encs_eq a2_kids))).symm
              intro vsp hvsp
              cases hc : (a2_kind == 1) with
              | true =>
                replace h := bif_t hc h
                obtain rfl : (1 : Int) = vsp := (hvsp.trans (eq_of_beq hc)).symm
                refine And.intro (by decide) ?_
                cases h
                exact (Le.rename [(0, 0)] _ _ _ ⟨rfl, trivial⟩ ⟨rfl, ⟨_, rfl, rfl⟩, trivial⟩ rfl rfl rfl rfl rfl)
              | false =>
                replace h := bif_f hc h
                cases hc : (a2_kind == 2) with
                | true =>
                  replace h := bif_t hc h
                  obtain rfl : (2 : Int) = vsp := (hvsp.trans (eq_of_beq hc)).symm
                  refine And.intro (by decide) ?_
                  cases h
                  exact (Le.rename [(0, 0)] _ _ _ ⟨rfl, trivial⟩ ⟨rfl, ⟨_, rfl, rfl⟩, trivial⟩ rfl rfl rfl rfl rfl)
                | false =>
                  replace h := bif_f hc h
                  cases hc : (a2_kind == 3) with
                  | true =>
                    replace h := bif_t hc h
                    obtain rfl : (3 : Int) = vsp := (hvsp.trans (eq_of_beq hc)).symm
                    refine And.intro (by decide) ?_
                    cases h
                    exact (Le.rename [(0, 0)] _ _ _ ⟨rfl, trivial⟩ ⟨rfl, ⟨_, rfl, rfl⟩, trivial⟩ rfl rfl rfl rfl rfl)
                  | false =>
                    replace h := bif_f hc h
                    cases hc : (a2_kind == 4) with
                    | true =>
                      replace h := bif_t hc h
                      obtain rfl : (4 : Int) = vsp := (hvsp.trans (eq_of_beq hc)).symm
                      refine And.intro (by decide) ?_
                      cases h
                      exact (Le.rename [(0, 0)] _ _ _ ⟨rfl, trivial⟩ ⟨rfl, ⟨_, rfl, rfl⟩, trivial⟩ rfl rfl rfl rfl rfl)
                    | false =>
                      replace h := bif_f hc h
                      cases hc : (a2_kind == 5) with
                      | true =>
                        replace h := bif_t hc h
                        obtain rfl : (5 : Int) = vsp := (hvsp.trans (eq_of_beq hc)).symm
                        refine And.intro (by decide) ?_
                        cases h
                        exact (Le.rename [(0, 0)] _ _ _ ⟨rfl, trivial⟩ ⟨rfl, ⟨_, rfl, rfl⟩, trivial⟩ rfl rfl rfl rfl rfl)
                      | false =>
                        replace h := bif_f hc h
                        cases hc : (a2_kind == 6) with
                        | true =>
                          replace h := bif_t hc h
                          obtain rfl : (6 : Int) = vsp := (hvsp.trans (eq_of_beq hc)).symm
                          refine And.intro (by decide) ?_
                          cases h
                          exact (Le.rename [(0, 0)] _ _ _ ⟨rfl, trivial⟩ ⟨rfl, ⟨_, rfl, rfl⟩, trivial⟩ rfl rfl rfl rfl rfl)
                        | false =>
                          replace h := bif_f hc h
                          cases hc : (a2_kind == 7) with
                          | true =>
                            replace h := bif_t hc h
                            obtain rfl : (7 : Int) = vsp := (hvsp.trans (eq_of_beq hc)).symm
                            refine And.intro (by decide) ?_
                            cases h
                            exact (Le.rename [(0, 0)] _ _ _ ⟨rfl, trivial⟩ ⟨rfl, ⟨_, rfl, rfl⟩, trivial⟩ rfl rfl rfl rfl rfl)
                          | false =>
                            replace h := bif_f hc h
                            cases hc : (a2_kind == 8) with
                            | true =>
                              replace h := bif_t hc h
                              obtain rfl : (8 : Int) = vsp := (hvsp.trans (eq_of_beq hc)).symm
                              refine And.intro (by decide) ?_
                              cases h
                              exact (Le.rename [(0, 0)] _ _ _ ⟨rfl, trivial⟩ ⟨rfl, ⟨_, rfl, rfl⟩, trivial⟩ rfl rfl rfl rfl rfl)
                            | false =>
                              replace h := bif_f hc h
                              cases hc : (a2_kind == 9) with
                              | true =>
                                replace h := bif_t hc h
                                obtain rfl : (9 : Int) = vsp := (hvsp.trans (eq_of_beq hc)).symm
                                refine And.intro (by decide) ?_
                                cases h
                                exact (Le.rename [(0, 0)] _ _ _ ⟨rfl, trivial⟩ ⟨rfl, ⟨_, rfl, rfl⟩, trivial⟩ rfl rfl rfl rfl rfl)
                              | false =>
                                replace h := bif_f hc h
                                cases hc : (a2_kind == 10) with
                                | true =>
                                  replace h := bif_t hc h
                                  obtain rfl : (10 : Int) = vsp := (hvsp.trans (eq_of_beq hc)).symm
                                  refine And.intro (by decide) ?_
                                  cases h
                                  exact (Le.rename [(0, 0)] _ _ _ ⟨rfl, trivial⟩ ⟨rfl, ⟨_, rfl, rfl⟩, trivial⟩ rfl rfl rfl rfl rfl)
                                | false =>
                                  replace h := bif_f hc h
                                  cases hc : (a2_kind == 11) with
                                  | true =>
                                    replace h := bif_t hc h
                                    obtain rfl : (11 : Int) = vsp := (hvsp.trans (eq_of_beq hc)).symm
                                    refine And.intro (by decide) ?_
                                    cases h
                                    exact (Le.rename [(0, 0)] _ _ _ ⟨rfl, trivial⟩ ⟨rfl, ⟨_, rfl, rfl⟩, trivial⟩ rfl rfl rfl rfl rfl)
                                  | false =>
                                    replace h := bif_f hc h
                                    cases hc : (a2_kind == 12) with
                                    | true =>
                                      replace h := bif_t hc h
                                      obtain rfl : (12 : Int) = vsp := (hvsp.trans (eq_of_beq hc)).symm
                                      refine And.intro (by decide) ?_
                                      cases h
                                      exact (Le.rename [(0, 0)] _ _ _ ⟨rfl, trivial⟩ ⟨rfl, ⟨_, rfl, rfl⟩, trivial⟩ rfl rfl rfl rfl rfl)
                                    | false =>
                                      replace h := bif_f hc h
                                      cases h
            | false =>
              replace h := bif_f hb.symm h
              cases h
              exact (Le.rename [(0, 0)] _ _ _ ⟨rfl, trivial⟩ ⟨rfl, ⟨_, rfl, rfl⟩, trivial⟩ rfl rfl rfl rfl rfl)
          · show Tri _ _ _ _
            refine tri_le hle ?_
            refine tri_ret ?_
            obtain ⟨hj1, hk1⟩ := Prod.mk.inj (Option.some.inj h)
            subst hj1
            subst hk1
            unfold GivesO
            exact ⟨_, (Le.rename [(0, 0)] [(4, .s (.bool x22))] [(0, .box 62 [.s (.str []), .s (.int .i64 0), .s (.nf), .s (.str [114, 111, 119]), .s (.int .i64 0), .s (.fn 45), .s (.str [115, 121, 109]), .s (.int .i64 0), .s (.fn 46), .s (.str [110, 117, 109]), .s (.int .i64 0), .s (.fn 47), .s (.str [116, 101, 120, 116]), .s (.int .i64 0), .s (.fn 48), .s (.str [102, 114, 97, 99]), .s (.int .i64 2), .s (.fn 45), .s (.str [114, 111, 111, 116]), .s (.int .i64 2), .s (.fn 45), .s (.str [115, 117, 98]), .s (.int .i64 2), .s (.fn 45), .s (.str [115, 117, 112]), .s (.int .i64 2), .s (.fn 45), .s (.str [98, 111, 116, 104]), .s (.int .i64 3), .s (.fn 45), .s (.str [97, 99, 99, 101, 110, 116]), .s (.int .i64 1), .s (.fn 49), .s (.str [102, 101, 110, 99, 101]), .s (.int .i64 1), .s (.fn 50), .s (.str [109, 97, 116, 114, 105, 120]), .s (.int .i64 0), .s (.fn 45), .s (.int .i64 o1_nodes)])] 1 ⟨rfl, trivial⟩ ⟨rfl, ⟨_, rfl, rfl⟩, trivial⟩ rfl rfl rfl rfl rfl), rfl, rfl, rfl, rfl, trivial⟩

/- (*vinculum/node.checker).node -/
def R_node_checker_node (n : Nat) (xs : List AV) (os : List Ob) (x : AV) (os' : List (Option Ob)) : Prop := ∃ (a0 : (Unit × Int)) (a1 : Nd) (a2 : Int) (y0 : Bool) (z0 : (Unit × Int)), m_node_checker_node n a0 a1 a2 = some (y0, z0) ∧ xs = [.op 0 0, .s (.pt (Nd.enc a1)), .s (.int .i64 a2)] ∧ os = [.box 62 ((enc_node_checker a0).map .s)] ∧ x = .s (.bool y0) ∧ os' = [some (.box 62 ((enc_node_checker z0).map .s))]
set_option maxHeartbeats 2000000 in
set_option maxRecDepth 100000 in
theorem step_node_checker_node (n : Nat) (ih : PSound Tryd.prog 34 (ospec (R_node_checker_node n))) : PSound Tryd.prog 34 (ospec (R_node_checker_node (n + 1))) := by
  have gok : ∀ f s, look? f [(51, S_node_checker_own), (34, ospec (R_node_checker_node n))] = some s → PSound Tryd.prog f s := look_all (by
    simp only [List.forall_mem_cons]
    exact ⟨ok_node_checker_own, ih, by simp⟩)
  refine PSound.withNil (osound tokW Tryd.call34 Tryd.func34 rfl (fun xs os x os' h => by obtain ⟨_, _, _, _, _, _, rfl, rfl, _, rfl⟩ := h; exact ⟨by show 3 ≤ 67; decide, by show 1 ≤ 1; decide⟩) 67 rfl ?_) _
  rintro xs os x os' w0 G0 B0 ⟨⟨_, o1_nodes⟩, ⟨a2_kind, a2_text, a2_cols, a2_kids⟩, a3, y0, z0, h, rfl, rfl, rfl, rfl⟩ _
  rw [m_node_checker_node] at h
  refine tri_seq ?_
  refine tri_region (by exact tokW) (by exact gok) [] [] rfl ?_
  show Tri _ _ _ _
  refine tri_seq ?_
  refine tri_region (by exact tokW) (by exact gok) [] [] rfl ?_
  show Tri _ _ _ _
  refine tri_seq ?_
  refine tri_seq ?_
  obtain ⟨⟨x4, x5⟩, hj, h⟩ := bind_out h
  refine tri_post ⟨ofL [(0, .op 0 0), (1, .s (.pt [.int .i64 a2_kind, .str a2_text, .int .i64 a2_cols, .sl 4 (Nd.encs a2_kids)])), (2, .s (.int .i64 a3)), (29, .s (.bool x4))], ofH [(0, .box 62 [.s (.str []), .s (.int .i64 0), .s (.nf), .s (.str [114, 111, 119]), .s (.int .i64 0), .s (.fn 45), .s (.str [115, 121, 109]), .s (.int .i64 0), .s (.fn 46), .s (.str [110, 117, 109]), .s (.int .i64 0), .s (.fn 47), .s (.str [116, 101, 120, 116]), .s (.int .i64 0), .s (.fn 48), .s (.str [102, 114, 97, 99]), .s (.int .i64 2), .s (.fn 45), .s (.str [114, 111, 111, 116]), .s (.int .i64 2), .s (.fn 45), .s (.str [115, 117, 98]), .s (.int .i64 2), .s (.fn 45), .s (.str [115, 117, 112]), .s (.int .i64 2), .s (.fn 45), .s (.str [98, 111, 116, 104]), .s (.int .i64 3), .s (.fn 45), .s (.str [97, 99, 99, 101, 110, 116]), .s (.int .i64 1), .s (.fn 49), .s (.str [102, 101, 110, 99, 101]), .s (.int .i64 1), .s (.fn 50), .s (.str [109, 97, 116, 114, 105, 120]), .s (.int .i64 0), .s (.fn 45), .s (.int .i64 x5)])], 1⟩ ?_ (fun σ' hle => ?_)
  · replace h := hj
    refine tri_region (by exact tokW) (by exact gok) [] [20, 24] rfl ?_
    intro b hb
    cases b with
    | true =>
      replace h := bif_t hb.symm h
      intro b hb
      subst hb
      cases h
      exact (Le.rename [(0, 0)] _ _ _ ⟨rfl, rfl, rfl, rfl, trivial⟩ ⟨rfl, ⟨_, rfl, rfl⟩, trivial⟩ rfl rfl rfl rfl rfl)
    | false =>
      replace h := bif_f hb.symm h
      intro b hb
      cases b with
      | true =>
        replace h := bif_t hb.symm h
        cases h
        exact (Le.rename [(0, 0)] _ _ _ ⟨rfl, rfl, rfl, rfl, trivial⟩ ⟨rfl, ⟨_, rfl, rfl⟩, trivial⟩ rfl rfl rfl rfl rfl)
      | false =>
        replace h := bif_f hb.symm h
        obtain ⟨⟨y6, ⟨_, w7_nodes⟩⟩, hy6, h⟩ := bind_out h
        refine ⟨_, _, ⟨_, _, _, _, _, hy6, rfl, rfl, rfl, rfl⟩, ?_⟩
        cases h
        exact (Le.rename [(0, 0)] _ _ _ ⟨rfl, rfl, rfl, rfl, trivial⟩ ⟨rfl, ⟨_, rfl, rfl⟩, trivial⟩ rfl rfl rfl rfl rfl)
  · show Tri _ _ _ _
    refine tri_le hle ?_
    refine tri_cond rfl (fun hb => ?_) (fun hb => ?_)
    · replace h := bif_t hb h
      refine tri_seq ?_
      refine tri_region (by exact tokW) (by exact gok) [] [] rfl ?_
      show Tri _ _ _ _
      refine tri_ret ?_
      obtain ⟨hj1, hk1⟩ := Prod.mk.inj (Option.some.inj h)
      subst hj1
      subst hk1
      unfold GivesO
      exact ⟨_, (Le.rename [(0, 0)] [(6, .s (.bool false))] [(0, .box 62 [.s (.str []), .s (.int .i64 0), .s (.nf), .s (.str [114, 111, 119]), .s (.int .i64 0), .s (.fn 45), .s (.str [115, 121, 109]), .s (.int .i64 0), .s (.fn 46), .s (.str [110, 117, 109]), .s (.int .i64 0), .s (.fn 47), .s (.str [116, 101, 120, 116]), .s (.int .i64 0), .s (.fn 48), .s (.str [102, 114, 97, 99]), .s (.int .i64 2), .s (.fn 45), .s (.str [114, 111, 111, 116]), .s (.int .i64 2), .s (.fn 45), .s (.str [115, 117, 98]), .s (.int .i64 2), .s (.fn 45), .s (.str [115, 117, 112]), .s (.int .i64 2), .s (.fn 45), .s (.str [98, 111, 116, 104]), .s (.int .i64 3), .s (.fn 45), .s (.str [97, 99, 99, 101, 110, 116]), .s (.int .i64 1), .s (.fn 49), .s (.str [102, 101, 110, 99, 101]), .s (.int .i64 1), .s (.fn 50), .s (.str [109, 97, 116, 114, 105, 120]), .s (.int .i64 0), .s (.fn 45), .s (.int .i64 x5)])] 1 ⟨rfl, trivial⟩ ⟨rfl, ⟨_, rfl, rfl⟩, trivial⟩ rfl rfl rfl rfl rfl), rfl, rfl, rfl, rfl, trivial⟩
    · replace h := bif_f hb h
      refine tri_skip ?_
      show Tri _ _ _ _
      refine tri_seq ?_
      refine tri_seq ?_
      refine tri_region (by exact tokW) (by exact gok) [] [34] rfl ?_
      intro n8 hn8
      obtain rfl : (a2_kids.length : Int) = n8 := (hn8.trans (congrArg (fun m : Nat => (m : Int)) (rlen Nd.encs_eq a2_kids))).symm
      show Tri _ _ _ _
      obtain ⟨fl, hl, ho1⟩ := bind_out h
      refine tri_fl (fl := fl) (fun z => match z with | x11 => ⟨ofL [], ofH [(0, .box 62 [.s (.str []), .s (.int .i64 0), .s (.nf), .s (.str [114, 111, 119]), .s (.int .i64 0), .s (.fn 45), .s (.str [115, 121, 109]), .s (.int .i64 0), .s (.fn 46), .s (.str [110, 117, 109]), .s (.int .i64 0), .s (.fn 47), .s (.str [116, 101, 120, 116]), .s (.int .i64 0), .s (.fn 48), .s (.str [102, 114, 97, 99]), .s (.int .i64 2), .s (.fn 45), .s (.str [114, 111, 111, 116]), .s (.int .i64 2), .s (.fn 45), .s (.str [115, 117, 98]), .s (.int .i64 2), .s (.fn 45), .s (.str [115, 117, 112]), .s (.int .i64 2), .s (.fn 45), .s (.str [98, 111, 116, 104]), .s (.int .i64 3), .s (.fn 45), .s (.str [97, 99, 99, 101, 110, 116]), .s (.int .i64 1), .s (.fn 49), .s (.str [102, 101, 110, 99, 101]), .s (.int .i64 1), .s (.fn 50), .s (.str [109, 97, 116, 114, 105, 120]), .s (.int .i64 0), .s (.fn 45), .s (.int .i64 x11)])], 1⟩) ?_ (fun x11 σ' hz hle => ?_)
      · refine tri_block (tri_loopI (X := Nat × Int × Int) (fun y => match y with | (k, x9, x10) => ⟨ofL [(0, .op 0 0), (1, .s (.pt [.int .i64 a2_kind, .str a2_text, .int .i64 a2_cols, .sl 4 (Nd.encs a2_kids)])), (2, .s (.int .i64 a3)), (34, .s (.int .i64 (a2_kids.length : Int))), (35, .s (.int .i64 x10))], ofH [(0, .box 62 [.s (.str []), .s (.int .i64 0), .s (.nf), .s (.str [114, 111, 119]), .s (.int .i64 0), .s (.fn 45), .s (.str [115, 121, 109]), .s (.int .i64 0), .s (.fn 46), .s (.str [110, 117, 109]), .s (.int .i64 0), .s (.fn 47), .s (.str [116, 101, 120, 116]), .s (.int .i64 0), .s (.fn 48), .s (.str [102, 114, 97, 99]), .s (.int .i64 2), .s (.fn 45), .s (.str [114, 111, 111, 116]), .s (.int .i64 2), .s (.fn 45), .s (.str [115, 117, 98]), .s (.int .i64 2), .s (.fn 45), .s (.str [115, 117, 112]), .s (.int .i64 2), .s (.fn 45), .s (.str [98, 111, 116, 104]), .s (.int .i64 3), .s (.fn 45), .s (.str [97, 99, 99, 101, 110, 116]), .s (.int .i64 1), .s (.fn 49), .s (.str [102, 101, 110, 99, 101]), .s (.int .i64 1), .s (.fn 50), .s (.str [109, 97, 116, 114, 105, 120]), .s (.int .i64 0), .s (.fn 45), .s (.int .i64 x9)])], 1⟩) (fun y => m_node_checker_node_l1 (m_node_checker_node n) a2_kind a2_kids a3 y.1 y.2.1 y.2.2 = some fl) (fun y => y.1) (n, x5, 0) hl ?_ ?_)
        · exact (Le.rename [(0, 0)] _ _ _ ⟨rfl, rfl, rfl, rfl, rfl, trivial⟩ ⟨rfl, ⟨_, rfl, rfl⟩, trivial⟩ rfl rfl rfl rfl rfl)
        · rintro ⟨k, x9, x10⟩ h
          cases k with
          | zero => cases h
          | succ k =>
            replace h : m_node_checker_node_l1 (m_node_checker_node n) a2_kind a2_kids a3 (k+1) x9 x10 = some fl := h
            rw [m_node_checker_node_l1] at h
            refine tri_seq ?_
            refine tri_region (by exact tokW) (by exact gok) [] [] rfl ?_
            show Tri _ _ _ _
            refine tri_seq ?_
            refine tri_cond rfl (fun hb => ?_) (fun hb => ?_)
            · replace h := bif_t hb h
              refine tri_skip ?_
              show Tri _ _ _ _
              refine tri_seq ?_
              refine tri_block ?_
              refine tri_seq ?_
              refine tri_region (by exact tokW) (by exact gok) [] [] rfl ?_
              show Tri _ _ _ _
              refine tri_seq ?_
              obtain ⟨⟨x12, x13⟩, hj, h⟩ := bind_out h
              refine tri_post ⟨ofL [(0, .op 0 0), (1, .s (.pt [.int .i64 a2_kind, .str a2_text, .int .i64 a2_cols, .sl 4 (Nd.encs a2_kids)])), (2, .s (.int .i64 a3)), (34, .s (.int .i64 (a2_kids.length : Int))), (35, .s (.int .i64 x10)), (65, .s (.bool x12))], ofH [(0, .box 62 [.s (.str []), .s (.int .i64 0), .s (.nf), .s (.str [114, 111, 119]), .s (.int .i64 0), .s (.fn 45), .s (.str [115, 121, 109]), .s (.int .i64 0), .s (.fn 46), .s (.str [110, 117, 109]), .s (.int .i64 0), .s (.fn 47), .s (.str [116, 101, 120, 116]), .s (.int .i64 0), .s (.fn 48), .s (.str [102, 114, 97, 99]), .s (.int .i64 2), .s (.fn 45), .s (.str [114, 111, 111, 116]), .s (.int .i64 2), .s (.fn 45), .s (.str [115, 117, 98]), .s (.int .i64 2), .s (.fn 45), .s (.str [115, 117, 112]), .s (.int .i64 2), .s (.fn 45), .s (.str [98, 111, 116, 104]), .s (.int .i64 3), .s (.fn 45), .s (.str [97, 99, 99, 101, 110, 116]), .s (.int .i64 1), .s (.fn 49), .s (.str [102, 101, 110, 99, 101]), .s (.int .i64 1), .s (.fn 50), .s (.str [109, 97, 116, 114, 105, 120]), .s (.int .i64 0), .s (.fn 45), .s (.int .i64 x13)])], 1⟩ ?_ (fun σ' hle => ?_)
              · replace h := hj
                refine tri_drawn (by exact tokW) (by exact gok) (by exact mixed) [] [48, 53, 60] [25] rfl (by decide +kernel) ?_
                obtain ⟨⟨e14_kind, e14_text, e14_cols, e14_kids⟩, he14, h⟩ := bind_out h
                refine And.intro (at_ok Nd.encs_eq he14).1 ?_
                intro r15 hr15
                obtain rfl : [.int .i64 e14_kind, .str e14_text, .int .i64 e14_cols, .sl 4 (Nd.encs e14_kids)] = r15 := (hr15.trans (at_ok Nd.encs_eq he14).2.1).symm
                intro b hb
                cases b with
                | true =>
                  replace h := bif_t hb.symm h
                  cases h
                  exact (Le.rename [(0, 0)] _ _ _ ⟨rfl, rfl, rfl, rfl, rfl, rfl, trivial⟩ ⟨rfl, ⟨_, rfl, rfl⟩, trivial⟩ rfl rfl rfl rfl rfl)
                | false =>
                  replace h := bif_f hb.symm h
                  obtain ⟨⟨e16_kind, e16_text, e16_cols, e16_kids⟩, he16, h⟩ := bind_out h
                  refine And.intro (at_ok Nd.encs_eq he16).1 ?_
                  intro r17 hr17
                  obtain rfl : [.int .i64 e16_kind, .str e16_text, .int .i64 e16_cols, .sl 4 (Nd.encs e16_kids)] = r17 := (hr17.trans (at_ok Nd.encs_eq he16).2.1).symm
                  obtain ⟨⟨y18, ⟨_, w19_nodes⟩⟩, hy18, h⟩ := bind_out h
                  refine ⟨_, _, ⟨_, _, _, _, _, hy18, rfl, rfl, rfl, rfl⟩, ?_⟩
                  cases h
                  exact (Le.rename [(0, 0)] _ _ _ ⟨rfl, rfl, rfl, rfl, rfl, rfl, trivial⟩ ⟨rfl, ⟨_, rfl, rfl⟩, trivial⟩ rfl rfl rfl rfl rfl)
              · show Tri _ _ _ _
                refine tri_le hle ?_
                refine tri_cond rfl (fun hb => ?_) (fun hb => ?_)
                · replace h := bif_t hb h
                  refine tri_seq ?_
                  refine tri_region (by exact tokW) (by exact gok) [] [] rfl ?_
                  show Tri _ _ _ _
                  refine tri_ret ?_
                  cases h
                  replace h : some _ = some _ := ho1
                  obtain ⟨hj1, hk1⟩ := Prod.mk.inj (Option.some.inj h)
                  subst hj1
                  subst hk1
                  unfold GivesO
                  exact ⟨_, (Le.rename [(0, 0)] [(6, .s (.bool false))] [(0, .box 62 [.s (.str []), .s (.int .i64 0), .s (.nf), .s (.str [114, 111, 119]), .s (.int .i64 0), .s (.fn 45), .s (.str [115, 121, 109]), .s (.int .i64 0), .s (.fn 46), .s (.str [110, 117, 109]), .s (.int .i64 0), .s (.fn 47), .s (.str [116, 101, 120, 116]), .s (.int .i64 0), .s (.fn 48), .s (.str [102, 114, 97, 99]), .s (.int .i64 2), .s (.fn 45), .s (.str [114, 111, 111, 116]), .s (.int .i64 2), .s (.fn 45), .s (.str [115, 117, 98]), .s (.int .i64 2), .s (.fn 45), .s (.str [115, 117, 112]), .s (.int .i64 2), .s (.fn 45), .s (.str [98, 111, 116, 104]), .s (.int .i64 3), .s (.fn 45), .s (.str [97, 99, 99, 101, 110, 116]), .s (.int .i64 1), .s (.fn 49), .s (.str [102, 101, 110, 99, 101]), .s (.int .i64 1), .s (.fn 50), .s (.str [109, 97, 116, 114, 105, 120]), .s (.int .i64 0), .s (.fn 45), .s (.int .i64 x13)])] 1 ⟨rfl, trivial⟩ ⟨rfl, ⟨_, rfl, rfl⟩, trivial⟩ rfl rfl rfl rfl rfl), rfl, rfl, rfl, rfl, trivial⟩
                · replace h := bif_f hb h
                  refine tri_skip ?_
                  show Tri _ _ _ _
                  refine tri_region (by exact tokW) (by exact gok) [] [] rfl ?_
                  refine ⟨(k, x13, IntKind.i64.wrap (x10 + 1)), h, (Le.rename [(0, 0)] _ _ _ ⟨rfl, rfl, rfl, rfl, rfl, trivial⟩ ⟨rfl, ⟨_, rfl, rfl⟩, trivial⟩ rfl rfl rfl rfl rfl), Nat.lt_succ_self k⟩
            · replace h := bif_f hb h
              refine tri_exit ?_
              cases h
              exact ⟨_, rfl, (Le.rename [(0, 0)] _ _ _ trivial ⟨rfl, ⟨_, rfl, rfl⟩, trivial⟩ rfl rfl rfl rfl rfl)⟩
      · subst hz
        replace h := ho1
        show Tri _ _ _ _
        refine tri_le hle ?_
        refine tri_seq ?_
        refine tri_region (by exact tokW) (by exact gok) [] [] rfl ?_
        show Tri _ _ _ _
        refine tri_ret ?_
        obtain ⟨hj1, hk1⟩ := Prod.mk.inj (Option.some.inj h)
        subst hj1
        subst hk1
        unfold GivesO
        exact ⟨_, (Le.rename [(0, 0)] [(6, .s (.bool true))] [(0, .box 62 [.s (.str []), .s (.int .i64 0), .s (.nf), .s (.str [114, 111, 119]), .s (.int .i64 0), .s (.fn 45), .s (.str [115, 121, 109]), .s (.int .i64 0), .s (.fn 46), .s (.str [110, 117, 109]), .s (.int .i64 0), .s (.fn 47), .s (.str [116, 101, 120, 116]), .s (.int .i64 0), .s (.fn 48), .s (.str [102, 114, 97, 99]), .s (.int .i64 2), .s (.fn 45), .s (.str [114, 111, 111, 116]), .s (.int .i64 2), .s (.fn 45), .s (.str [115, 117, 98]), .s (.int .i64 2), .s (.fn 45), .s (.str [115, 117, 112]), .s (.int .i64 2), .s (.fn 45), .s (.str [98, 111, 116, 104]), .s (.int .i64 3), .s (.fn 45), .s (.str [97, 99, 99, 101, 110, 116]), .s (.int .i64 1), .s (.fn 49), .s (.str [102, 101, 110, 99, 101]), .s (.int .i64 1), .s (.fn 50), .s (.str [109, 97, 116, 114, 105, 120]), .s (.int .i64 0), .s (.fn 45), .s (.int .i64 x11)])] 1 ⟨rfl, trivial⟩ ⟨rfl, ⟨_, rfl, rfl⟩, trivial⟩ rfl rfl rfl rfl rfl), rfl, rfl, rfl, rfl, trivial⟩
theorem all_node_checker_node : ∀ n, PSound Tryd.prog 34 (ospec (R_node_checker_node n)) := by
  intro n
  induction n with
  | zero => exact osound_none Tryd.call34 (fun xs os x os' h => by obtain ⟨_, _, _, _, _, h, _⟩ := h; cases h) _
  | succ n ih => exact step_node_checker_node n ih
def S_node_checker_node : PSpec := ospec (fun xs os x os' => ∃ n, R_node_checker_node n xs os x os')
theorem ok_node_checker_node : PSound Tryd.prog 34 S_node_checker_node := osound_all all_node_checker_node _

/- vinculum/node.Valid -/
def R_node_Valid (n : Nat) (xs : List AV) (r : Ret) : Prop := ∃ (a0 : Nd) (y0 : Bool), m_node_Valid n a0 = some y0 ∧ xs = [.agg ((Nd.enc a0).map .s)] ∧ r = .val (.s (.bool y0))
def S_node_Valid : PSpec := pspec fun xs r => ∃ n, R_node_Valid n xs r
set_option maxHeartbeats 2000000 in
set_option maxRecDepth 100000 in
theorem ok_node_Valid : PSound Tryd.prog 25 S_node_Valid := by
  have gok : ∀ f s, look? f [(33, S_node_kinds), (34, S_node_checker_node)] = some s → PSound Tryd.prog f s := look_all (by
    simp only [List.forall_mem_cons]
    exact ⟨ok_node_kinds, ok_node_checker_node, by simp⟩)
  refine psound tokW Tryd.call25 Tryd.func25 rfl (fun xs r h => by obtain ⟨n, _, _, _, rfl, _⟩ := h; show 1 ≤ 14; decide) 14 rfl ?_
  rintro xs r w0 G0 ⟨n, ⟨n1_kind, n1_text, n1_cols, n1_kids⟩, y0, h, rfl, rfl⟩ _
  rw [m_node_Valid] at h
  refine tri_seq ?_
  refine tri_region (by exact tokW) (by exact gok) [] [] rfl ?_
  show Tri _ _ _ _
  refine tri_seq ?_
  refine tri_region (by exact tokW) (by exact gok) [6] [] rfl ?_
  obtain ⟨_, hy2, h⟩ := bind_out h
  refine ⟨_, ⟨_, hy2, rfl, rfl⟩, ?_⟩
  show Tri _ _ _ _
  refine tri_seq ?_
  obtain ⟨x3, hj, h⟩ := bind_out h
  refine tri_post ⟨ofL [(2, .s (.bool x3))], fun _ => none, 0⟩ ?_ (fun σ' hle => ?_)
  · replace h := hj
    refine tri_region (by exact tokW) (by exact gok) [] [10] rfl ?_
    intro b hb
    cases b with
    | true =>
      replace h := bif_t hb.symm h
      obtain ⟨⟨y4, ⟨_, w5_nodes⟩⟩, hy4, h⟩ := bind_out h
      refine ⟨_, _, ⟨_, _, _, _, _, _, hy4, rfl, rfl, rfl, rfl⟩, ?_⟩
      cases h
      exact (Le.rename [] _ [] 0 ⟨rfl, trivial⟩ trivial rfl rfl rfl rfl rfl)
    | false =>
      replace h := bif_f hb.symm h
      cases h
      exact (Le.rename [] _ [] 0 ⟨rfl, trivial⟩ trivial rfl rfl rfl rfl rfl)
  · show Tri _ _ _ _
    refine tri_le hle ?_
    refine tri_ret ?_
    have hy := Option.some.inj h
    subst hy
    unfold Gives
    exact ⟨_, Le.refl _ _, rfl, rfl⟩

/- vinculum/diff.valid -/
def R_diff_valid (n : Nat) (xs : List AV) (r : Ret) : Prop := ∃ (a0 : Nd) (a1 : Nd) (y0 : Bool), m_diff_valid n a0 a1 = some y0 ∧ xs = [.agg ((Nd.enc a0).map .s), .agg ((Nd.enc a1).map .s)] ∧ r = .val (.s (.bool y0))
def S_diff_valid : PSpec := pspec fun xs r => ∃ n, R_diff_valid n xs r
set_option maxHeartbeats 2000000 in
set_option maxRecDepth 100000 in
theorem ok_diff_valid : PSound Tryd.prog 14 S_diff_valid := by
  have gok : ∀ f s, look? f [(25, S_node_Valid)] = some s → PSound Tryd.prog f s := look_all (by
    simp only [List.forall_mem_cons]
    exact ⟨ok_node_Valid, by simp⟩)
  refine psound tokW Tryd.call14 Tryd.func14 rfl (fun xs r h => by obtain ⟨n, _, _, _, _, rfl, _⟩ := h; show 2 ≤ 11; decide) 11 rfl ?_
  rintro xs r w0 G0 ⟨n, ⟨a1_kind, a1_text, a1_cols, a1_kids⟩, ⟨b2_kind, b2_text, b2_cols, b2_kids⟩, y0, h, rfl, rfl⟩ _
  rw [m_diff_valid] at h
  refine tri_seq ?_
  refine tri_region (by exact tokW) (by exact gok) [] [] rfl ?_
  show Tri _ _ _ _
  refine tri_seq ?_
  obtain ⟨x3, hj, h⟩ := bind_out h
  refine tri_post ⟨ofL [(4, .s (.bool x3))], fun _ => none, 0⟩ ?_ (fun σ' hle => ?_)
  · replace h := hj
    refine tri_region (by exact tokW) (by exact gok) [] [7] rfl ?_
    obtain ⟨y4, hy4, h⟩ := bind_out h
    refine ⟨_, ⟨_, _, _, hy4, rfl, rfl⟩, ?_⟩
    intro b hb
    cases b with
    | true =>
      replace h := bif_t hb.symm h
      obtain ⟨y5, hy5, h⟩ := bind_out h
      refine ⟨_, ⟨_, _, _, hy5, rfl, rfl⟩, ?_⟩
      cases h
      exact (Le.forget _ ⟨rfl, trivial⟩)
    | false =>
      replace h := bif_f hb.symm h
      cases h
      exact (Le.forget _ ⟨rfl, trivial⟩)
  · show Tri _ _ _ _
    refine tri_le hle ?_
    refine tri_ret ?_
    have hy := Option.some.inj h
    subst hy
    unfold Gives
    exact ⟨_, Le.refl _ _, rfl, rfl⟩

/- vinculum/node.Count$1 -/
def R_node_Count_1 (xs : List AV) (os : List Ob) (x : AV) (os' : List (Option Ob)) : Prop := ∃ (a0 : Int) (a1 : Int) (z0 : Int), m_node_Count_1 a0 a1 = some z0 ∧ xs = [.s (.int .i64 a0), .op 0 0] ∧ os = [.box 3 (((irow .i64) a1).map .s)] ∧ x = .tup [] ∧ os' = [some (.box 3 (((irow .i64) z0).map .s))]
def S_node_Count_1 : PSpec := ospec (fun xs os x os' => R_node_Count_1 xs os x os')
set_option maxHeartbeats 2000000 in
set_option maxRecDepth 100000 in
theorem ok_node_Count_1 : PSound Tryd.prog 60 S_node_Count_1 := by
  have gok : ∀ (f : Nat) (s : PSpec), (fun _ => none : Nat → Option PSpec) f = some s → PSound Tryd.prog f s := fun _ _ h => by cases h
  refine PSound.withNil (osound tokW Tryd.call60 Tryd.func60 rfl (fun xs os x os' h => by obtain ⟨_, _, _, _, rfl, rfl, _, rfl⟩ := h; exact ⟨by show 2 ≤ 5; decide, by show 1 ≤ 1; decide⟩) 5 rfl ?_) _
  rintro xs os x os' w0 G0 B0 ⟨a1, o2, z0, h, rfl, rfl, rfl, rfl⟩ _
  rw [m_node_Count_1] at h
  refine tri_region (by exact tokW) (by exact gok) [] [] rfl ?_
  have hy := Option.some.inj h
  subst hy
  unfold GivesO
  exact ⟨_, (Le.rename [(0, 0)] [] [(0, .box 3 [.s (.int .i64 (IntKind.i64.wrap (o2 + 1)))])] 1 trivial ⟨rfl, ⟨_, rfl, rfl⟩, trivial⟩ rfl rfl rfl rfl rfl), rfl, rfl, rfl, rfl, trivial⟩

/- vinculum/node.each -/
def enc_node_inner (p : (Nd × Int)) : List S := [.pt (Nd.enc p.1), .int .i64 p.2]
def R_node_each (n : Nat) (xs : List AV) (os : List Ob) (x : AV) (os' : List (Option Ob)) : Prop := ∃ (a0 : Nd) (a1 : Int) (z0 : Int), m_node_each n a0 a1 = some z0 ∧ xs = [.s (.pt (Nd.enc a0)), .clo 60 [.op 0 0]] ∧ os = [.box 3 (((irow .i64) a1).map .s)] ∧ x = .tup [] ∧ os' = [some (.box 3 (((irow .i64) z0).map .s))]
def S_node_each : PSpec := ospec (fun xs os x os' => ∃ n, R_node_each n xs os x os')
set_option maxHeartbeats 2000000 in
set_option maxRecDepth 100000 in
theorem ok_node_each : PSound Tryd.prog 59 S_node_each := by
  have gok : ∀ f s, look? f [(60, S_node_Count_1)] = some s → PSound Tryd.prog f s := look_all (by
    simp only [List.forall_mem_cons]
    exact ⟨ok_node_Count_1, by simp⟩)
  refine PSound.withNil (osound tokW Tryd.call59 Tryd.func59 rfl (fun xs os x os' h => by obtain ⟨n, _, _, _, _, rfl, rfl, _, rfl⟩ := h; exact ⟨by show 2 ≤ 52; decide, by show 1 ≤ 1; decide⟩) 52 rfl ?_) _
  rintro xs os x os' w0 G0 B0 ⟨n, ⟨n1_kind, n1_text, n1_cols, n1_kids⟩, o2, z0, h, rfl, rfl, rfl, rfl⟩ _
  rw [m_node_each] at h
  refine tri_seq ?_
  refine tri_region (by exact tokW) (by exact gok) [9] [] rfl ?_
  show Tri _ _ _ _
  refine tri_le (Le.rename [(0, 0), (1, 1)] [(1, .clo 60 [.op 0 0]), (4, .orow 1)] [(0, .box 3 [.s (.int .i64 o2)]), (1, .row 98 2 ((List.map enc_node_inner) [(Nd.mk n1_kind n1_text n1_cols n1_kids, 1)]))] 2 ⟨rfl, rfl, trivial⟩ ⟨rfl, ⟨_, rfl, rfl⟩, rfl, ⟨_, rfl, congrArg (Ob.row 98 2) (by simp [List.map_append, List.map_take, List.map_drop, irow, brow, b8of_row, List.map_cons, List.map_nil, b8of_wrap, Nd.encs_eq, Nd.enc, enc_13_node_kind, enc_node_checker, enc_node_inner])⟩, trivial⟩ rfl rfl rfl rfl rfl) ?_
  obtain ⟨x6, hl, h⟩ := bind_out h
  refine tri_post ⟨ofL [], ofH [(0, .box 3 [.s (.int .i64 x6)])], 1⟩ ?_ (fun σ' hle => ?_)
  · refine tri_block (tri_loopI (X := Nat × Int × (List (Nd × Int))) (fun y => match y with | (k, x3, l5) => ⟨ofL [(1, .clo 60 [.op 0 0]), (4, .orow 1)], ofH [(0, .box 3 [.s (.int .i64 x3)]), (1, .row 98 2 ((List.map enc_node_inner) l5))], 2⟩) (fun y => m_node_each_l1 n y.1 y.2.1 y.2.2 = some x6) (fun y => y.1) (n, o2, [(Nd.mk n1_kind n1_text n1_cols n1_kids, 1)]) hl ?_ ?_)
    · exact (Le.rename [(0, 0), (1, 1)] _ _ _ ⟨rfl, rfl, trivial⟩ ⟨rfl, ⟨_, rfl, rfl⟩, rfl, ⟨_, rfl, rfl⟩, trivial⟩ rfl rfl rfl rfl rfl)
    · rintro ⟨k, x3, l5⟩ h
      cases k with
      | zero => cases h
      | succ k =>
        replace h : m_node_each_l1 n (k+1) x3 l5 = some x6 := h
        rw [m_node_each_l1] at h
        refine tri_seq ?_
        refine tri_seq ?_
        refine tri_region (by exact tokW) (by exact gok) [] [11] rfl ?_
        intro n7 hn7
        obtain rfl : (l5.length : Int) = n7 := (hn7.trans (congrArg (fun m : Nat => (m : Int)) (rlen (fun _ => rfl) l5))).symm
        show Tri _ _ _ _
        refine tri_cond rfl (fun hb => ?_) (fun hb => ?_)
        · replace h := bif_t hb h
          refine tri_skip ?_
          show Tri _ _ _ _
          refine tri_block ?_
          refine tri_seq ?_
          refine tri_region (by exact tokW) (by exact gok) [5] [15] rfl ?_
          intro n8 hn8
          obtain rfl : (l5.length : Int) = n8 := (hn8.trans (congrArg (fun m : Nat => (m : Int)) (rlen (fun _ => rfl) l5))).symm
          obtain ⟨⟨⟨e9_node_kind, e9_node_text, e9_node_cols, e9_node_kids⟩, e9_depth⟩, he9, h⟩ := bind_out h
          refine And.intro (at_ok (fun _ => rfl) he9).1 ?_
          refine And.intro (at_ok (fun _ => rfl) he9).2.2 ?_
          refine ⟨_, (at_ok (fun _ => rfl) he9).2.1, ?_⟩
          show Tri _ _ _ _
          refine tri_le (Le.giveBox 2 [.pt [.int .i64 e9_node_kind, .str e9_node_text, .int .i64 e9_node_cols, .sl 4 (Nd.encs e9_node_kids)], .int .i64 e9_depth] rfl rfl) ?_
          refine tri_seq ?_
          refine tri_region (by exact tokW) (by exact gok) [23] [21] rfl ?_
          intro n10 hn10
          obtain rfl : (l5.length : Int) = n10 := (hn10.trans (congrArg (fun m : Nat => (m : Int)) (rlen (fun _ => rfl) l5))).symm
          obtain ⟨hq, h⟩ := req_out h
          refine And.intro ⟨hq.1, Int.le_trans hq.2 (Int.ofNat_le.2 (Nat.le_of_eq (rlen (fun _ => rfl) _).symm))⟩ ?_
          show Tri _ _ _ _
          refine tri_le (Le.rename [(0, 0), (3, 1)] [(1, .clo 60 [.op 0 0]), (4, .orow 1), (5, .s (.pt [.pt [.int .i64 e9_node_kind, .str e9_node_text, .int .i64 e9_node_cols, .sl 4 (Nd.encs e9_node_kids)], .int .i64 e9_depth]))] [(0, .box 3 [.s (.int .i64 x3)]), (1, .row 98 2 ((List.map enc_node_inner) (l5.take (IntKind.i64.wrap ((l5.length : Int) - 1)).toNat)))] 2 ⟨rfl, rfl, rfl, trivial⟩ ⟨rfl, ⟨_, rfl, rfl⟩, rfl, ⟨_, rfl, congrArg (Ob.row 98 2) (by simp [List.map_append, List.map_take, List.map_drop, irow, brow, b8of_row, List.map_cons, List.map_nil, b8of_wrap, Nd.encs_eq, Nd.enc, enc_13_node_kind, enc_node_checker, enc_node_inner])⟩, trivial⟩ rfl rfl rfl rfl rfl) ?_
          refine tri_seq ?_
          refine tri_region (by exact tokW) (by exact gok) [] [] rfl ?_
          obtain ⟨w11, hw11, h⟩ := bind_out h
          refine ⟨_, _, ⟨_, _, _, hw11, rfl, rfl, rfl, rfl⟩, ?_⟩
          show Tri _ _ _ _
          refine tri_seq ?_
          refine tri_region (by exact tokW) (by exact gok) [] [33] rfl ?_
          intro n12 hn12
          obtain rfl : (e9_node_kids.length : Int) = n12 := (hn12.trans (congrArg (fun m : Nat => (m : Int)) (rlen Nd.encs_eq e9_node_kids))).symm
          show Tri _ _ _ _
          obtain ⟨l16, hl, h⟩ := bind_out h
          refine tri_post ⟨ofL [(1, .clo 60 [.op 0 0]), (4, .orow 1)], ofH [(0, .box 3 [.s (.int .i64 w11)]), (1, .row 98 2 ((List.map enc_node_inner) l16))], 2⟩ ?_ (fun σ' hle => ?_)
          · refine tri_block (tri_loopI (X := Nat × Int × (List (Nd × Int))) (fun y => match y with | (k, x13, l15) => ⟨ofL [(1, .clo 60 [.op 0 0]), (4, .orow 1), (5, .s (.pt [.pt [.int .i64 e9_node_kind, .str e9_node_text, .int .i64 e9_node_cols, .sl 4 (Nd.encs e9_node_kids)], .int .i64 e9_depth])), (33, .s (.int .i64 (e9_node_kids.length : Int))), (34, .s (.int .i64 x13))], ofH [(0, .box 3 [.s (.int .i64 w11)]), (1, .row 98 2 ((List.map enc_node_inner) l15))], 2⟩) (fun y => m_node_each_l2 e9_node_kids e9_depth y.1 y.2.1 y.2.2 = some l16) (fun y => y.1) (n, 0, l5.take (IntKind.i64.wrap ((l5.length : Int) - 1)).toNat) hl ?_ ?_)
            · exact (Le.rename [(0, 0), (1, 1)] _ _ _ ⟨rfl, rfl, rfl, rfl, rfl, trivial⟩ ⟨rfl, ⟨_, rfl, rfl⟩, rfl, ⟨_, rfl, rfl⟩, trivial⟩ rfl rfl rfl rfl rfl)
            · rintro ⟨k, x13, l15⟩ h
              cases k with
              | zero => cases h
              | succ k =>
                replace h : m_node_each_l2 e9_node_kids e9_depth (k+1) x13 l15 = some l16 := h
                rw [m_node_each_l2] at h
                refine tri_seq ?_
                refine tri_region (by exact tokW) (by exact gok) [] [] rfl ?_
                show Tri _ _ _ _
                refine tri_seq ?_
                refine tri_cond rfl (fun hb => ?_) (fun hb => ?_)
                · replace h := bif_t hb h
                  refine tri_skip ?_
                  show Tri _ _ _ _
                  refine tri_seq ?_
                  refine tri_block ?_
                  refine tri_seq ?_
                  refine tri_region (by exact tokW) (by exact gok) [] [] rfl ?_
                  show Tri _ _ _ _
                  refine tri_drawn (by exact tokW) (by exact gok) (by exact mixed) [50] [44, 49] [13] rfl (by decide +kernel) ?_
                  obtain ⟨⟨e17_kind, e17_text, e17_cols, e17_kids⟩, he17, h⟩ := bind_out h
                  refine And.intro (at_ok Nd.encs_eq he17).1 ?_
                  intro r18 hr18
                  obtain rfl : [.int .i64 e17_kind, .str e17_text, .int .i64 e17_cols, .sl 4 (Nd.encs e17_kids)] = r18 := (hr18.trans (at_ok Nd.encs_eq he17).2.1).symm
                  intro r19 hr19
                  obtain rfl : (List.map enc_node_inner) [(Nd.mk e17_kind e17_text e17_cols e17_kids, IntKind.i64.wrap (e9_depth + 1))] = r19 := (hr19.trans (by simp [List.map_append, List.map_take, List.map_drop, irow, brow, b8of_row, List.map_cons, List.map_nil, b8of_wrap, Nd.encs_eq, Nd.enc, enc_13_node_kind, enc_node_checker, enc_node_inner])).symm
                  obtain ⟨hq, h⟩ := req_out h
                  refine And.intro (show (((List.map enc_node_inner) l15).length + ((List.map enc_node_inner) [(Nd.mk e17_kind e17_text e17_cols e17_kids, IntKind.i64.wrap (e9_depth + 1))]).length) * 16 ≤ 140737488355328 ∧ ((List.map enc_node_inner) l15).length + ((List.map enc_node_inner) [(Nd.mk e17_kind e17_text e17_cols e17_kids, IntKind.i64.wrap (e9_depth + 1))]).length ≤ 9223372036854775807 from by simp only [List.length_append, List.length_cons, List.length_nil, List.length_map, rlen (fun _ => rfl)] at hq ⊢; omega) ?_
                  show Tri _ _ _ _
                  refine tri_le (Le.rename [(0, 0), (2, 1)] [(1, .clo 60 [.op 0 0]), (4, .orow 1), (5, .s (.pt [.pt [.int .i64 e9_node_kind, .str e9_node_text, .int .i64 e9_node_cols, .sl 4 (Nd.encs e9_node_kids)], .int .i64 e9_depth])), (33, .s (.int .i64 (e9_node_kids.length : Int))), (34, .s (.int .i64 x13))] [(0, .box 3 [.s (.int .i64 w11)]), (1, .row 98 2 ((List.map enc_node_inner) (l15 ++ [(Nd.mk e17_kind e17_text e17_cols e17_kids, IntKind.i64.wrap (e9_depth + 1))])))] 2 ⟨rfl, rfl, rfl, rfl, rfl, trivial⟩ ⟨rfl, ⟨_, rfl, rfl⟩, rfl, ⟨_, rfl, congrArg (Ob.row 98 2) (by simp [List.map_append, List.map_take, List.map_drop, irow, brow, b8of_row, List.map_cons, List.map_nil, b8of_wrap, Nd.encs_eq, Nd.enc, enc_13_node_kind, enc_node_checker, enc_node_inner])⟩, trivial⟩ rfl rfl rfl rfl rfl) ?_
                  refine tri_region (by exact tokW) (by exact gok) [] [] rfl ?_
                  refine ⟨(k, IntKind.i64.wrap (x13 + 1), l15 ++ [(Nd.mk e17_kind e17_text e17_cols e17_kids, IntKind.i64.wrap (e9_depth + 1))]), h, (Le.rename [(0, 0), (1, 1)] _ _ _ ⟨rfl, rfl, rfl, rfl, rfl, trivial⟩ ⟨rfl, ⟨_, rfl, rfl⟩, rfl, ⟨_, rfl, rfl⟩, trivial⟩ rfl rfl rfl rfl rfl), Nat.lt_succ_self k⟩
                · replace h := bif_f hb h
                  refine tri_exit ?_
                  cases h
                  exact (Le.rename [(0, 0), (1, 1)] _ _ _ ⟨rfl, rfl, trivial⟩ ⟨rfl, ⟨_, rfl, rfl⟩, rfl, ⟨_, rfl, rfl⟩, trivial⟩ rfl rfl rfl rfl rfl)
          · refine ⟨(k, w11, l16), h, (Le.trans hle (Le.rename [(0, 0), (1, 1)] _ _ _ ⟨rfl, rfl, trivial⟩ ⟨rfl, ⟨_, rfl, rfl⟩, rfl, ⟨_, rfl, rfl⟩, trivial⟩ rfl rfl rfl rfl rfl)), Nat.lt_succ_self k⟩
        · replace h := bif_f hb h
          refine tri_exit ?_
          cases h
          exact (Le.rename [(0, 0)] _ _ _ trivial ⟨rfl, ⟨_, rfl, rfl⟩, trivial⟩ rfl rfl rfl rfl rfl)
  · have hy := Option.some.inj h
    subst hy
    unfold GivesO
    exact ⟨_, (Le.trans hle (Le.rename [(0, 0)] [] [(0, .box 3 [.s (.int .i64 x6)])] 1 trivial ⟨rfl, ⟨_, rfl, rfl⟩, trivial⟩ rfl rfl rfl rfl rfl)), rfl, rfl, rfl, rfl, trivial⟩

/- vinculum/node.Count -/
def R_node_Count (n : Nat) (xs : List AV) (r : Ret) : Prop := ∃ (a0 : Nd) (y0 : Int), m_node_Count n a0 = some y0 ∧ xs = [.agg ((Nd.enc a0).map .s)] ∧ r = .val (.s (.int .i64 y0))
def S_node_Count : PSpec := pspec fun xs r => ∃ n, R_node_Count n xs r
set_option maxHeartbeats 2000000 in
set_option maxRecDepth 100000 in
theorem ok_node_Count : PSound Tryd.prog 44 S_node_Count := by
  have gok : ∀ f s, look? f [(59, S_node_each)] = some s → PSound Tryd.prog f s := look_all (by
    simp only [List.forall_mem_cons]
    exact ⟨ok_node_each, by simp⟩)
  refine psound tokW Tryd.call44 Tryd.func44 rfl (fun xs r h => by obtain ⟨n, _, _, _, rfl, _⟩ := h; show 1 ≤ 7; decide) 7 rfl ?_
  rintro xs r w0 G0 ⟨n, ⟨n1_kind, n1_text, n1_cols, n1_kids⟩, y0, h, rfl, rfl⟩ _
  rw [m_node_Count] at h
  refine tri_seq ?_
  refine tri_region (by exact tokW) (by exact gok) [] [] rfl ?_
  show Tri _ _ _ _
  refine tri_seq ?_
  refine tri_region (by exact tokW) (by exact gok) [3] [] rfl ?_
  show Tri _ _ _ _
  refine tri_seq ?_
  refine tri_region (by exact tokW) (by exact gok) [] [] rfl ?_
  obtain ⟨w2, hw2, h⟩ := bind_out h
  refine ⟨_, _, ⟨_, _, _, _, hw2, rfl, rfl, rfl, rfl⟩, ?_⟩
  show Tri _ _ _ _
  refine tri_seq ?_
  refine tri_region (by exact tokW) (by exact gok) [] [] rfl ?_
  show Tri _ _ _ _
  refine tri_ret ?_
  have hy := Option.some.inj h
  subst hy
  unfold Gives
  exact ⟨_, Le.refl _ _, rfl, rfl⟩

/- vinculum/diff.sizes -/
def R_diff_sizes (n : Nat) (xs : List AV) (r : Ret) : Prop := ∃ (a0 : List Nd) (y0 : List Int), m_diff_sizes n a0 = some y0 ∧ xs = [.s (.sl 4 (Nd.encs a0))] ∧ r = .row 3 1 ((List.map (irow .i64)) y0)
def S_diff_sizes : PSpec := pspec fun xs r => ∃ n, R_diff_sizes n xs r
set_option maxHeartbeats 2000000 in
set_option maxRecDepth 100000 in
theorem ok_diff_sizes : PSound Tryd.prog 31 S_diff_sizes := by
  have gok : ∀ f s, look? f [(44, S_node_Count)] = some s → PSound Tryd.prog f s := look_all (by
    simp only [List.forall_mem_cons]
    exact ⟨ok_node_Count, by simp⟩)
  refine psound tokW Tryd.call31 Tryd.func31 rfl (fun xs r h => by obtain ⟨n, _, _, _, rfl, _⟩ := h; show 1 ≤ 23; decide) 23 rfl ?_
  rintro xs r w0 G0 ⟨n, l1, y0, h, rfl, rfl⟩ _
  rw [m_diff_sizes] at h
  refine tri_seq ?_
  refine tri_region (by exact tokW) (by exact gok) [2] [] rfl ?_
  show Tri _ _ _ _
  refine tri_le (Le.rename [] [(0, .s (.sl 4 (Nd.encs l1)))] [] 0 ⟨rfl, trivial⟩ trivial rfl rfl rfl rfl rfl) ?_
  refine tri_seq ?_
  refine tri_region (by exact tokW) (by exact gok) [7] [6] rfl ?_
  intro n2 hn2
  obtain rfl : (l1.length : Int) = n2 := (hn2.trans (congrArg (fun m : Nat => (m : Int)) (rlen Nd.encs_eq l1))).symm
  obtain ⟨hq, h⟩ := req_out h
  refine And.intro (show 0 ≤ (l1.length : Int) ∧ (l1.length : Int) ≤ (l1.length : Int) ∧ (l1.length : Int) * ((8 : Nat) : Int) ≤ 281474976710656 ∧ (l1.length : Int) ≤ 281474976710656 from ⟨hq.1, Int.le_refl _, by have h1 := hq.1; have h2 := hq.2; omega, by have h2 := hq.2; omega⟩) ?_
  show Tri _ _ _ _
  refine tri_le (Le.rename [(0, 0)] [(0, .s (.sl 4 (Nd.encs l1))), (3, .orow 0)] [(0, .row 3 1 ((List.map (irow .i64)) (List.replicate (l1.length : Int).toNat 0)))] 1 ⟨rfl, rfl, trivial⟩ ⟨rfl, ⟨_, rfl, congrArg (Ob.row 3 1) (by simp [List.map_append, List.map_take, List.map_drop, irow, brow, b8of_row, List.map_cons, List.map_nil, b8of_wrap, Nd.encs_eq, Nd.enc, enc_13_node_kind, enc_node_checker, enc_node_inner])⟩, trivial⟩ rfl rfl rfl rfl rfl) ?_
  refine tri_seq ?_
  refine tri_seq ?_
  refine tri_region (by exact tokW) (by exact gok) [] [9] rfl ?_
  intro n3 hn3
  obtain rfl : (l1.length : Int) = n3 := (hn3.trans (congrArg (fun m : Nat => (m : Int)) (rlen Nd.encs_eq l1))).symm
  show Tri _ _ _ _
  obtain ⟨l6, hl, h⟩ := bind_out h
  refine tri_post ⟨ofL [(3, .orow 0)], ofH [(0, .row 3 1 ((List.map (irow .i64)) l6))], 1⟩ ?_ (fun σ' hle => ?_)
  · refine tri_block (tri_loopI (X := Nat × Int × (List Int)) (fun y => match y with | (k, x4, l5) => ⟨ofL [(0, .s (.sl 4 (Nd.encs l1))), (3, .orow 0), (9, .s (.int .i64 (l1.length : Int))), (10, .s (.int .i64 x4))], ofH [(0, .row 3 1 ((List.map (irow .i64)) l5))], 1⟩) (fun y => m_diff_sizes_l1 n l1 y.1 y.2.1 y.2.2 = some l6) (fun y => y.1) (n, 0, List.replicate (l1.length : Int).toNat 0) hl ?_ ?_)
    · exact (Le.rename [(0, 0)] _ _ _ ⟨rfl, rfl, rfl, rfl, trivial⟩ ⟨rfl, ⟨_, rfl, rfl⟩, trivial⟩ rfl rfl rfl rfl rfl)
    · rintro ⟨k, x4, l5⟩ h
      cases k with
      | zero => cases h
      | succ k =>
        replace h : m_diff_sizes_l1 n l1 (k+1) x4 l5 = some l6 := h
        rw [m_diff_sizes_l1] at h
        refine tri_seq ?_
        refine tri_region (by exact tokW) (by exact gok) [] [] rfl ?_
        show Tri _ _ _ _
        refine tri_seq ?_
        refine tri_cond rfl (fun hb => ?_) (fun hb => ?_)
        · replace h := bif_t hb h
          refine tri_skip ?_
          show Tri _ _ _ _
          refine tri_seq ?_
          refine tri_block ?_
          refine tri_seq ?_
          refine tri_region (by exact tokW) (by exact gok) [] [] rfl ?_
          show Tri _ _ _ _
          refine tri_region (by exact tokW) (by exact gok) [] [17] rfl ?_
          obtain ⟨⟨e7_kind, e7_text, e7_cols, e7_kids⟩, he7, h⟩ := bind_out h
          refine And.intro (at_ok Nd.encs_eq he7).1 ?_
          intro r8 hr8
          obtain rfl : [.int .i64 e7_kind, .str e7_text, .int .i64 e7_cols, .sl 4 (Nd.encs e7_kids)] = r8 := (hr8.trans (at_ok Nd.encs_eq he7).2.1).symm
          obtain ⟨y9, hy9, h⟩ := bind_out h
          refine ⟨_, ⟨_, _, _, hy9, rfl, rfl⟩, ?_⟩
          obtain ⟨e10, he10, h⟩ := bind_out h
          refine And.intro (at_ok (fun _ => rfl) he10).1 ?_
          have hset11 := (rset (R := (List.map (irow .i64))) (f := (irow .i64)) (fun _ => rfl) he10 y9 0 1 [.int .i64 y9] rfl)
          have hat11 := at_set he10 y9
          refine And.intro (at_ok (fun _ => rfl) he10).2.2 ?_
          show Tri _ _ _ _
          refine tri_le (Le.rename [(0, 0)] [(0, .s (.sl 4 (Nd.encs l1))), (3, .orow 0), (9, .s (.int .i64 (l1.length : Int))), (10, .s (.int .i64 x4))] [(0, .row 3 1 ((List.map (irow .i64)) (l5.set x4.toNat y9)))] 1 ⟨rfl, rfl, rfl, rfl, trivial⟩ ⟨rfl, ⟨_, rfl, congrArg (Ob.row 3 1) hset11⟩, trivial⟩ rfl rfl rfl rfl rfl) ?_
          refine tri_region (by exact tokW) (by exact gok) [] [] rfl ?_
          refine ⟨(k, IntKind.i64.wrap (x4 + 1), l5.set x4.toNat y9), h, (Le.rename [(0, 0)] _ _ _ ⟨rfl, rfl, rfl, rfl, trivial⟩ ⟨rfl, ⟨_, rfl, rfl⟩, trivial⟩ rfl rfl rfl rfl rfl), Nat.lt_succ_self k⟩
        · replace h := bif_f hb h
          refine tri_exit ?_
          cases h
          exact (Le.rename [(0, 0)] _ _ _ ⟨rfl, trivial⟩ ⟨rfl, ⟨_, rfl, rfl⟩, trivial⟩ rfl rfl rfl rfl rfl)
  · show Tri _ _ _ _
    refine tri_le hle ?_
    refine tri_seq ?_
    refine tri_region (by exact tokW) (by exact gok) [] [] rfl ?_
    show Tri _ _ _ _
    refine tri_ret ?_
    have hy := Option.some.inj h
    subst hy
    unfold Gives
    exact ⟨_, Le.refl _ _, 0, rfl, rfl⟩

end Go.Proofs.YtplekejomocalaaDoor
