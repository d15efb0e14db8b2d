/-
  Walks, printed by gw.py.
-/
import Derived.Test.YtefbmooajknmgaaDoorLibG
import Derived.Test.YtefbmooajknmgaaDoorMNod
import Derived.Test.YtefbmooajknmgaaDoorMNoe
set_option linter.unusedVariables false
set_option linter.unusedSimpArgs false
namespace Go.Proofs.YtefbmooajknmgaaDoor
open Go.Abs

/- vinculum/vinculumref09.find -/
def R_r09_find (n : Nat) (xs : List AV) (r : Ret) : Prop := ∃ (a0 : Nd) (a1 : List Int) (y0 : Nd) (y1 : Bool), m_r09_find n a0 a1 = some (y0, y1) ∧ xs = [.agg ((Nd.enc a0).map .s), .s (.sl 1 ((List.map (irow .i64)) a1))] ∧ r = .val (.tup [.agg ((Nd.enc y0).map .s), .s (.bool y1)])
def S_r09_find : PSpec := pspec fun xs r => ∃ n, R_r09_find n xs r
set_option maxHeartbeats 2000000 in
set_option maxRecDepth 100000 in
theorem ok_r09_find : PSound Tryd.prog 69 S_r09_find := by
  have gok : ∀ (f : Nat) (s : PSpec), (fun _ => none : Nat → Option PSpec) f = some s → PSound Tryd.prog f s := fun _ _ h => by cases h
  refine psound tokW Tryd.call69 Tryd.func69 rfl (fun xs r h => by obtain ⟨n, _, _, _, _, _, rfl, _⟩ := h; show 2 ≤ 57; decide) 57 rfl ?_
  rintro xs r w0 G0 ⟨n, ⟨n1_kind, n1_text, n1_cols, n1_kids⟩, path2, y0, y1, h, rfl, rfl⟩ _
  rw [m_r09_find] at h
  refine tri_seq ?_
  refine tri_region (by exact tokW) (by exact gok) [2, 4] [] rfl ?_
  show Tri _ _ _ _
  refine tri_seq ?_
  obtain ⟨fl, hl, ho1⟩ := bind_out h
  refine tri_fl (fl := fl) (fun z => match z with | ⟨path9, x10, x11, x12, x13⟩ => ⟨ofL [(1, .s (.sl 1 ((List.map (irow .i64)) path9))), (2, .op 0 0), (4, .op 1 0)], ofH [(0, .box 26 [.s (.int .i64 x10), .s (.str x11), .s (.int .i64 x12), .s (.sl 4 (Nd.encs x13))]), (1, .box 26 [.s (.int .i64 0), .s (.str []), .s (.int .i64 0), .nl 4])], 2⟩) ?_ (fun z σ' hz hle => ?_)
  · refine tri_block (tri_loopI (X := Nat × Int × (List UInt8) × Int × (List Nd) × (List Int)) (fun y => match y with | (k, x3, x4, x5, x6, path8) => ⟨ofL [(1, .s (.sl 1 ((List.map (irow .i64)) path8))), (2, .op 0 0), (4, .op 1 0)], ofH [(0, .box 26 [.s (.int .i64 x3), .s (.str x4), .s (.int .i64 x5), .s (.sl 4 (Nd.encs x6))]), (1, .box 26 [.s (.int .i64 0), .s (.str []), .s (.int .i64 0), .nl 4])], 2⟩) (fun y => m_r09_find_l1  y.1 y.2.1 y.2.2.1 y.2.2.2.1 y.2.2.2.2.1 y.2.2.2.2.2 = some fl) (fun y => y.1) (n, n1_kind, n1_text, n1_cols, n1_kids, path2) hl ?_ ?_)
    · exact (Le.rename [(0, 0), (1, 1)] _ _ _ ⟨rfl, rfl, rfl, trivial⟩ ⟨rfl, ⟨_, rfl, rfl⟩, rfl, ⟨_, rfl, rfl⟩, trivial⟩ rfl rfl rfl rfl rfl)
    · rintro ⟨k, x3, x4, x5, x6, path8⟩ h
      cases k with
      | zero => cases h
      | succ k =>
        replace h : m_r09_find_l1  (k+1) x3 x4 x5 x6 path8 = some fl := h
        rw [m_r09_find_l1] at h
        refine tri_seq ?_
        refine tri_seq ?_
        refine tri_region (by exact tokW) (by exact gok) [] [7] rfl ?_
        intro n14 hn14
        obtain rfl : (path8.length : Int) = n14 := (hn14.trans (congrArg (fun m : Nat => (m : Int)) (rlen (fun _ => rfl) path8))).symm
        show Tri _ _ _ _
        refine tri_cond rfl (fun hb => ?_) (fun hb => ?_)
        · replace h := bif_t hb h
          refine tri_skip ?_
          show Tri _ _ _ _
          refine tri_block ?_
          refine tri_seq ?_
          refine tri_seq ?_
          obtain ⟨x15, hj, h⟩ := bind_out h
          refine tri_post ⟨ofL [(1, .s (.sl 1 ((List.map (irow .i64)) path8))), (2, .op 0 0), (4, .op 1 0), (21, .s (.bool x15))], ofH [(0, .box 26 [.s (.int .i64 x3), .s (.str x4), .s (.int .i64 x5), .s (.sl 4 (Nd.encs x6))]), (1, .box 26 [.s (.int .i64 0), .s (.str []), .s (.int .i64 0), .nl 4])], 2⟩ ?_ (fun σ' hle => ?_)
          · replace h := hj
            refine tri_drawn (by exact tokW) (by exact gok) (by exact mixed) [] [10, 13, 15, 19] [9] rfl (by decide +kernel) ?_
            obtain ⟨e16, he16, h⟩ := bind_out h
            refine And.intro (at_ok (fun _ => rfl) he16).1 ?_
            intro r17 hr17
            obtain rfl : [.int .i64 e16] = r17 := (hr17.trans (at_ok (fun _ => rfl) he16).2.1).symm
            intro b hb
            cases b with
            | true =>
              replace h := bif_t hb.symm h
              cases h
              exact (Le.rename [(0, 0), (1, 1)] _ _ _ ⟨rfl, rfl, rfl, rfl, trivial⟩ ⟨rfl, ⟨_, rfl, rfl⟩, rfl, ⟨_, rfl, rfl⟩, trivial⟩ rfl rfl rfl rfl rfl)
            | false =>
              replace h := bif_f hb.symm h
              obtain ⟨e18, he18, h⟩ := bind_out h
              refine And.intro (at_ok (fun _ => rfl) he18).1 ?_
              intro r19 hr19
              obtain rfl : [.int .i64 e18] = r19 := (hr19.trans (at_ok (fun _ => rfl) he18).2.1).symm
              intro n20 hn20
              obtain rfl : (x6.length : Int) = n20 := (hn20.trans (congrArg (fun m : Nat => (m : Int)) (rlen Nd.encs_eq x6))).symm
              cases h
              exact (Le.rename [(0, 0), (1, 1)] _ _ _ ⟨rfl, rfl, rfl, rfl, trivial⟩ ⟨rfl, ⟨_, rfl, rfl⟩, rfl, ⟨_, rfl, rfl⟩, trivial⟩ rfl rfl rfl rfl rfl)
          · show Tri _ _ _ _
            refine tri_le hle ?_
            refine tri_cond rfl (fun hb => ?_) (fun hb => ?_)
            · replace h := bif_t hb h
              refine tri_seq ?_
              refine tri_region (by exact tokW) (by exact gok) [] [] rfl ?_
              show Tri _ _ _ _
              refine tri_ret ?_
              cases h
              replace h : some _ = some _ := ho1
              obtain ⟨hj1, hk1⟩ := Prod.mk.inj (Option.some.inj h)
              subst hj1
              subst hk1
              unfold Gives
              exact ⟨_, Le.refl _ _, rfl, rfl⟩
            · replace h := bif_f hb h
              refine tri_skip ?_
              show Tri _ _ _ _
              refine tri_seq ?_
              refine tri_drawn (by exact tokW) (by exact gok) (by exact mixed) [] [26, 28] [1, 7] rfl (by decide +kernel) ?_
              obtain ⟨e21, he21, h⟩ := bind_out h
              refine And.intro (at_ok (fun _ => rfl) he21).1 ?_
              intro r22 hr22
              obtain rfl : [.int .i64 e21] = r22 := (hr22.trans (at_ok (fun _ => rfl) he21).2.1).symm
              obtain ⟨⟨e23_kind, e23_text, e23_cols, e23_kids⟩, he23, h⟩ := bind_out h
              refine And.intro (at_ok Nd.encs_eq he23).1 ?_
              intro r24 hr24
              obtain rfl : [.int .i64 e23_kind, .str e23_text, .int .i64 e23_cols, .sl 4 (Nd.encs e23_kids)] = r24 := (hr24.trans (at_ok Nd.encs_eq he23).2.1).symm
              show Tri _ _ _ _
              refine tri_seq ?_
              refine tri_seq ?_
              obtain ⟨x25, hj, h⟩ := bind_out h
              refine tri_post ⟨ofL [(1, .s (.sl 1 ((List.map (irow .i64)) path8))), (2, .op 0 0), (4, .op 1 0), (42, .s (.bool x25))], ofH [(0, .box 26 [.s (.int .i64 e23_kind), .s (.str e23_text), .s (.int .i64 e23_cols), .s (.sl 4 (Nd.encs e23_kids))]), (1, .box 26 [.s (.int .i64 0), .s (.str []), .s (.int .i64 0), .nl 4])], 2⟩ ?_ (fun σ' hle => ?_)
              · replace h := hj
                refine tri_drawn (by exact tokW) (by exact gok) (by exact mixed) [] [31, 34, 36, 40] [9] rfl (by decide +kernel) ?_
                obtain ⟨e26, he26, h⟩ := bind_out h
                refine And.intro (at_ok (fun _ => rfl) he26).1 ?_
                intro r27 hr27
                obtain rfl : [.int .i64 e26] = r27 := (hr27.trans (at_ok (fun _ => rfl) he26).2.1).symm
                intro b hb
                cases b with
                | true =>
                  replace h := bif_t hb.symm h
                  cases h
                  exact (Le.rename [(0, 0), (1, 1)] _ _ _ ⟨rfl, rfl, rfl, rfl, trivial⟩ ⟨rfl, ⟨_, rfl, rfl⟩, rfl, ⟨_, rfl, rfl⟩, trivial⟩ rfl rfl rfl rfl rfl)
                | false =>
                  replace h := bif_f hb.symm h
                  obtain ⟨e28, he28, h⟩ := bind_out h
                  refine And.intro (at_ok (fun _ => rfl) he28).1 ?_
                  intro r29 hr29
                  obtain rfl : [.int .i64 e28] = r29 := (hr29.trans (at_ok (fun _ => rfl) he28).2.1).symm
                  intro n30 hn30
                  obtain rfl : (e23_kids.length : Int) = n30 := (hn30.trans (congrArg (fun m : Nat => (m : Int)) (rlen Nd.encs_eq e23_kids))).symm
                  cases h
                  exact (Le.rename [(0, 0), (1, 1)] _ _ _ ⟨rfl, rfl, rfl, rfl, trivial⟩ ⟨rfl, ⟨_, rfl, rfl⟩, rfl, ⟨_, rfl, rfl⟩, trivial⟩ rfl rfl rfl rfl rfl)
              · show Tri _ _ _ _
                refine tri_le hle ?_
                refine tri_cond rfl (fun hb => ?_) (fun hb => ?_)
                · replace h := bif_t hb h
                  refine tri_seq ?_
                  refine tri_region (by exact tokW) (by exact gok) [] [] rfl ?_
                  show Tri _ _ _ _
                  refine tri_ret ?_
                  cases h
                  replace h : some _ = some _ := ho1
                  obtain ⟨hj1, hk1⟩ := Prod.mk.inj (Option.some.inj h)
                  subst hj1
                  subst hk1
                  unfold Gives
                  exact ⟨_, Le.refl _ _, rfl, rfl⟩
                · replace h := bif_f hb h
                  refine tri_skip ?_
                  show Tri _ _ _ _
                  refine tri_seq ?_
                  refine tri_drawn (by exact tokW) (by exact gok) (by exact mixed) [] [47, 49] [1, 7] rfl (by decide +kernel) ?_
                  obtain ⟨e31, he31, h⟩ := bind_out h
                  refine And.intro (at_ok (fun _ => rfl) he31).1 ?_
                  intro r32 hr32
                  obtain rfl : [.int .i64 e31] = r32 := (hr32.trans (at_ok (fun _ => rfl) he31).2.1).symm
                  obtain ⟨⟨e33_kind, e33_text, e33_cols, e33_kids⟩, he33, h⟩ := bind_out h
                  refine And.intro (at_ok Nd.encs_eq he33).1 ?_
                  intro r34 hr34
                  obtain rfl : [.int .i64 e33_kind, .str e33_text, .int .i64 e33_cols, .sl 4 (Nd.encs e33_kids)] = r34 := (hr34.trans (at_ok Nd.encs_eq he33).2.1).symm
                  show Tri _ _ _ _
                  refine tri_region (by exact tokW) (by exact gok) [] [52] rfl ?_
                  obtain ⟨hq, h⟩ := req_out h
                  refine And.intro ⟨hq.1, Int.le_trans hq.2.1 (Int.ofNat_le.2 (Nat.le_of_eq (rlen (fun _ => rfl) _).symm)), Int.le_refl _⟩ ?_
                  intro r35 hr35
                  obtain rfl : (List.map (irow .i64)) ((path8.take (path8.length : Int).toNat).drop (2 : Int).toNat) = r35 := (hr35.trans ((congrArg (fun m : Nat => (((List.map (irow .i64)) path8).take m).drop (2 : Int).toNat) (rlen (fun _ => rfl) _)).trans (rcut (fun _ => rfl) _ _ _))).symm
                  refine ⟨(k, e33_kind, e33_text, e33_cols, e33_kids, (path8.take (path8.length : Int).toNat).drop (2 : Int).toNat), h, (Le.rename [(0, 0), (1, 1)] _ _ _ ⟨rfl, rfl, rfl, trivial⟩ ⟨rfl, ⟨_, rfl, rfl⟩, rfl, ⟨_, rfl, rfl⟩, trivial⟩ rfl rfl rfl rfl rfl), Nat.lt_succ_self k⟩
        · replace h := bif_f hb h
          refine tri_exit ?_
          cases h
          exact ⟨_, rfl, (Le.rename [(0, 0), (1, 1)] _ _ _ ⟨rfl, rfl, rfl, trivial⟩ ⟨rfl, ⟨_, rfl, rfl⟩, rfl, ⟨_, rfl, rfl⟩, trivial⟩ rfl rfl rfl rfl rfl)⟩
  · subst hz
    obtain ⟨path9, x10, x11, x12, x13⟩ := z
    replace h := ho1
    show Tri _ _ _ _
    refine tri_le hle ?_
    refine tri_seq ?_
    refine tri_region (by exact tokW) (by exact gok) [] [55] rfl ?_
    intro n36 hn36
    obtain rfl : (path9.length : Int) = n36 := (hn36.trans (congrArg (fun m : Nat => (m : Int)) (rlen (fun _ => rfl) path9))).symm
    show Tri _ _ _ _
    refine tri_ret ?_
    obtain ⟨hj1, hk1⟩ := Prod.mk.inj (Option.some.inj h)
    subst hj1
    subst hk1
    unfold Gives
    exact ⟨_, Le.refl _ _, rfl, rfl⟩

/- vinculum/vinculumref09.Row -/
def R_r09_Row (n : Nat) (xs : List AV) (r : Ret) : Prop := ∃ (a0 : Nd) (a1 : List Int) (y0 : Nd) (y1 : Int), m_r09_Row n a0 a1 = some (y0, y1) ∧ xs = [.agg ((Nd.enc a0).map .s), .s (.sl 1 ((List.map (irow .i64)) a1))] ∧ r = .val (.tup [.agg ((Nd.enc y0).map .s), .s (.int .i64 y1)])
def S_r09_Row : PSpec := pspec fun xs r => ∃ n, R_r09_Row n xs r
set_option maxHeartbeats 2000000 in
set_option maxRecDepth 100000 in
theorem ok_r09_Row : PSound Tryd.prog 35 S_r09_Row := by
  have gok : ∀ f s, look? f [(24, S_r09_Valid), (69, S_r09_find)] = some s → PSound Tryd.prog f s := look_all (by
    simp only [List.forall_mem_cons]
    exact ⟨ok_r09_Valid, ok_r09_find, by simp⟩)
  refine psound tokW Tryd.call35 Tryd.func35 rfl (fun xs r h => by obtain ⟨n, _, _, _, _, _, rfl, _⟩ := h; show 2 ≤ 22; decide) 22 rfl ?_
  rintro xs r w0 G0 ⟨n, ⟨n1_kind, n1_text, n1_cols, n1_kids⟩, path2, y0, y1, h, rfl, rfl⟩ _
  rw [m_r09_Row] at h
  refine tri_seq ?_
  refine tri_region (by exact tokW) (by exact gok) [4] [] rfl ?_
  show Tri _ _ _ _
  refine tri_seq ?_
  refine tri_seq ?_
  refine tri_region (by exact tokW) (by exact gok) [] [] rfl ?_
  obtain ⟨y3, hy3, h⟩ := bind_out h
  refine ⟨_, ⟨_, _, _, hy3, rfl, rfl⟩, ?_⟩
  show Tri _ _ _ _
  refine tri_cond rfl (fun hb => ?_) (fun hb => ?_)
  · replace h := bif_t hb h
    refine tri_seq ?_
    refine tri_region (by exact tokW) (by exact gok) [] [] rfl ?_
    show Tri _ _ _ _
    refine tri_ret ?_
    obtain ⟨hj1, hk1⟩ := Prod.mk.inj (Option.some.inj h)
    subst hj1
    subst hk1
    unfold Gives
    exact ⟨_, Le.refl _ _, rfl, rfl⟩
  · replace h := bif_f hb h
    refine tri_skip ?_
    show Tri _ _ _ _
    refine tri_seq ?_
    refine tri_region (by exact tokW) (by exact gok) [6] [] rfl ?_
    obtain ⟨⟨⟨y4_kind, y4_text, y4_cols, y4_kids⟩, y5⟩, hy4, h⟩ := bind_out h
    refine ⟨_, ⟨_, _, _, _, _, hy4, rfl, rfl⟩, ?_⟩
    show Tri _ _ _ _
    refine tri_le (Le.giveBox 1 [.int .i64 y4_kind, .str y4_text, .int .i64 y4_cols, .sl 4 (Nd.encs y4_kids)] rfl rfl) ?_
    refine tri_seq ?_
    refine tri_seq ?_
    refine tri_region (by exact tokW) (by exact gok) [] [] rfl ?_
    show Tri _ _ _ _
    refine tri_cond rfl (fun hb => ?_) (fun hb => ?_)
    · replace h := bif_t hb h
      refine tri_seq ?_
      refine tri_region (by exact tokW) (by exact gok) [] [] rfl ?_
      show Tri _ _ _ _
      refine tri_ret ?_
      obtain ⟨hj1, hk1⟩ := Prod.mk.inj (Option.some.inj h)
      subst hj1
      subst hk1
      unfold Gives
      exact ⟨_, Le.refl _ _, rfl, rfl⟩
    · replace h := bif_f hb h
      refine tri_skip ?_
      show Tri _ _ _ _
      refine tri_seq ?_
      refine tri_region (by exact tokW) (by exact gok) [] [] rfl ?_
      show Tri _ _ _ _
      refine tri_ret ?_
      obtain ⟨hj1, hk1⟩ := Prod.mk.inj (Option.some.inj h)
      subst hj1
      subst hk1
      unfold Gives
      exact ⟨_, Le.refl _ _, rfl, rfl⟩

/- vinculum/vinculumref09.Item -/
def R_r09_Item (n : Nat) (xs : List AV) (r : Ret) : Prop := ∃ (a0 : Nd) (a1 : List Int) (a2 : Int) (y0 : Nd) (y1 : Int), m_r09_Item n a0 a1 a2 = some (y0, y1) ∧ xs = [.agg ((Nd.enc a0).map .s), .s (.sl 1 ((List.map (irow .i64)) a1)), .s (.int .i64 a2)] ∧ r = .val (.tup [.agg ((Nd.enc y0).map .s), .s (.int .i64 y1)])
def S_r09_Item : PSpec := pspec fun xs r => ∃ n, R_r09_Item n xs r
set_option maxHeartbeats 2000000 in
set_option maxRecDepth 100000 in
theorem ok_r09_Item : PSound Tryd.prog 37 S_r09_Item := by
  have gok : ∀ f s, look? f [(35, S_r09_Row)] = some s → PSound Tryd.prog f s := look_all (by
    simp only [List.forall_mem_cons]
    exact ⟨ok_r09_Row, by simp⟩)
  refine psound tokW Tryd.call37 Tryd.func37 rfl (fun xs r h => by obtain ⟨n, _, _, _, _, _, _, rfl, _⟩ := h; show 3 ≤ 35; decide) 35 rfl ?_
  rintro xs r w0 G0 ⟨n, ⟨n1_kind, n1_text, n1_cols, n1_kids⟩, path2, i3, y0, y1, h, rfl, rfl⟩ _
  rw [m_r09_Item] at h
  refine tri_seq ?_
  refine tri_region (by exact tokW) (by exact gok) [6] [] rfl ?_
  show Tri _ _ _ _
  refine tri_seq ?_
  refine tri_region (by exact tokW) (by exact gok) [8] [] rfl ?_
  obtain ⟨⟨⟨y4_kind, y4_text, y4_cols, y4_kids⟩, y5⟩, hy4, h⟩ := bind_out h
  refine ⟨_, ⟨_, _, _, _, _, hy4, rfl, rfl⟩, ?_⟩
  show Tri _ _ _ _
  refine tri_le (Le.giveBox 1 [.int .i64 y4_kind, .str y4_text, .int .i64 y4_cols, .sl 4 (Nd.encs y4_kids)] rfl rfl) ?_
  refine tri_seq ?_
  refine tri_seq ?_
  refine tri_region (by exact tokW) (by exact gok) [] [] rfl ?_
  show Tri _ _ _ _
  refine tri_cond rfl (fun hb => ?_) (fun hb => ?_)
  · replace h := bif_t hb h
    refine tri_seq ?_
    refine tri_region (by exact tokW) (by exact gok) [] [] rfl ?_
    show Tri _ _ _ _
    refine tri_ret ?_
    obtain ⟨hj1, hk1⟩ := Prod.mk.inj (Option.some.inj h)
    subst hj1
    subst hk1
    unfold Gives
    exact ⟨_, Le.refl _ _, rfl, rfl⟩
  · replace h := bif_f hb h
    refine tri_skip ?_
    show Tri _ _ _ _
    refine tri_seq ?_
    refine tri_seq ?_
    obtain ⟨x6, hj, h⟩ := bind_out h
    refine tri_post ⟨ofL [(2, .s (.int .i64 i3)), (6, .op 0 0), (8, .s (.pt [.int .i64 y4_kind, .str y4_text, .int .i64 y4_cols, .sl 4 (Nd.encs y4_kids)])), (28, .s (.bool x6))], ofH [(0, .box 26 [.s (.int .i64 0), .s (.str []), .s (.int .i64 0), .nl 4])], 1⟩ ?_ (fun σ' hle => ?_)
    · replace h := hj
      refine tri_region (by exact tokW) (by exact gok) [] [22, 26] rfl ?_
      intro b hb
      cases b with
      | true =>
        replace h := bif_t hb.symm h
        cases h
        exact (Le.rename [(0, 0)] _ _ _ ⟨rfl, rfl, rfl, rfl, trivial⟩ ⟨rfl, ⟨_, rfl, rfl⟩, trivial⟩ rfl rfl rfl rfl rfl)
      | false =>
        replace h := bif_f hb.symm h
        intro n7 hn7
        obtain rfl : (y4_kids.length : Int) = n7 := (hn7.trans (congrArg (fun m : Nat => (m : Int)) (rlen Nd.encs_eq y4_kids))).symm
        cases h
        exact (Le.rename [(0, 0)] _ _ _ ⟨rfl, rfl, rfl, rfl, trivial⟩ ⟨rfl, ⟨_, rfl, rfl⟩, trivial⟩ rfl rfl rfl rfl rfl)
    · show Tri _ _ _ _
      refine tri_le hle ?_
      refine tri_cond rfl (fun hb => ?_) (fun hb => ?_)
      · replace h := bif_t hb h
        refine tri_seq ?_
        refine tri_region (by exact tokW) (by exact gok) [] [] rfl ?_
        show Tri _ _ _ _
        refine tri_ret ?_
        obtain ⟨hj1, hk1⟩ := Prod.mk.inj (Option.some.inj h)
        subst hj1
        subst hk1
        unfold Gives
        exact ⟨_, Le.refl _ _, rfl, rfl⟩
      · replace h := bif_f hb h
        refine tri_skip ?_
        show Tri _ _ _ _
        refine tri_seq ?_
        refine tri_region (by exact tokW) (by exact gok) [] [33] rfl ?_
        obtain ⟨⟨e8_kind, e8_text, e8_cols, e8_kids⟩, he8, h⟩ := bind_out h
        refine And.intro (at_ok Nd.encs_eq he8).1 ?_
        intro r9 hr9
        obtain rfl : [.int .i64 e8_kind, .str e8_text, .int .i64 e8_cols, .sl 4 (Nd.encs e8_kids)] = r9 := (hr9.trans (at_ok Nd.encs_eq he8).2.1).symm
        show Tri _ _ _ _
        refine tri_ret ?_
        obtain ⟨hj1, hk1⟩ := Prod.mk.inj (Option.some.inj h)
        subst hj1
        subst hk1
        unfold Gives
        exact ⟨_, Le.refl _ _, rfl, rfl⟩

/- vinculum/vinculumlaw09.NodeRow -/
def R_l09_NodeRow (n : Nat) (xs : List AV) (r : Ret) : Prop := ∃ (a0 : Nd) (a1 : List Int) (a2 : Int) (y0 : Bool), m_l09_NodeRow n a0 a1 a2 = some y0 ∧ xs = [.agg ((Nd.enc a0).map .s), .s (.sl 1 ((List.map (irow .i64)) a1)), .s (.int .i64 a2)] ∧ r = .val (.s (.bool y0))
def S_l09_NodeRow : PSpec := pspec fun xs r => ∃ n, R_l09_NodeRow n xs r
set_option maxHeartbeats 2000000 in
set_option maxRecDepth 100000 in
theorem ok_l09_NodeRow : PSound Tryd.prog 9 S_l09_NodeRow := by
  have gok : ∀ f s, look? f [(11, S_l09_awake), (16, S_l09_few), (34, S_node_Row), (35, S_r09_Row), (36, S_node_Item), (37, S_r09_Item), (19, S_r09_Equal)] = some s → PSound Tryd.prog f s := look_all (by
    simp only [List.forall_mem_cons]
    exact ⟨ok_l09_awake, ok_l09_few, ok_node_Row, ok_r09_Row, ok_node_Item, ok_r09_Item, ok_r09_Equal, by simp⟩)
  refine psound tokW Tryd.call9 Tryd.func9 rfl (fun xs r h => by obtain ⟨n, _, _, _, _, _, rfl, _⟩ := h; show 3 ≤ 72; decide) 72 rfl ?_
  rintro xs r w0 G0 ⟨n, ⟨a1_kind, a1_text, a1_cols, a1_kids⟩, a2, a3, y0, h, rfl, rfl⟩ _
  rw [m_l09_NodeRow] at h
  refine tri_seq ?_
  refine tri_region (by exact tokW) (by exact gok) [] [] rfl ?_
  show Tri _ _ _ _
  refine tri_seq ?_
  refine tri_seq ?_
  obtain ⟨x4, hj, h⟩ := bind_out h
  refine tri_post ⟨ofL [(1, .s (.sl 1 ((List.map (irow .i64)) a2))), (2, .s (.int .i64 a3)), (3, .s (.pt [.int .i64 a1_kind, .str a1_text, .int .i64 a1_cols, .sl 4 (Nd.encs a1_kids)])), (26, .s (.bool x4))], fun _ => none, 0⟩ ?_ (fun σ' hle => ?_)
  · replace h := hj
    refine tri_region (by exact tokW) (by exact gok) [] [17, 22, 24] rfl ?_
    obtain ⟨y5, hy5, h⟩ := bind_out h
    refine ⟨_, ⟨_, _, hy5, rfl, rfl⟩, ?_⟩
    intro b hb
    cases b with
    | true =>
      replace h := bif_t hb.symm h
      intro b hb
      subst hb
      cases h
      exact (Le.forget _ ⟨rfl, rfl, rfl, rfl, trivial⟩)
    | false =>
      replace h := bif_f hb.symm h
      obtain ⟨y6, hy6, h⟩ := bind_out h
      refine ⟨_, ⟨_, _, _, hy6, rfl, rfl⟩, ?_⟩
      intro b hb
      cases b with
      | true =>
        replace h := bif_t hb.symm h
        cases h
        exact (Le.forget _ ⟨rfl, rfl, rfl, rfl, trivial⟩)
      | false =>
        replace h := bif_f hb.symm h
        intro n7 hn7
        obtain rfl : (a2.length : Int) = n7 := (hn7.trans (congrArg (fun m : Nat => (m : Int)) (rlen (fun _ => rfl) a2))).symm
        cases h
        exact (Le.forget _ ⟨rfl, rfl, rfl, rfl, trivial⟩)
  · show Tri _ _ _ _
    refine tri_le hle ?_
    refine tri_cond rfl (fun hb => ?_) (fun hb => ?_)
    · replace h := bif_t hb h
      refine tri_seq ?_
      refine tri_region (by exact tokW) (by exact gok) [] [] rfl ?_
      obtain ⟨y8, hy8, h⟩ := bind_out h
      refine ⟨_, ⟨_, _, hy8, rfl, rfl⟩, ?_⟩
      show Tri _ _ _ _
      refine tri_ret ?_
      have hy := Option.some.inj h
      subst hy
      unfold Gives
      exact ⟨_, Le.refl _ _, rfl, rfl⟩
    · replace h := bif_f hb h
      refine tri_skip ?_
      show Tri _ _ _ _
      refine tri_seq ?_
      refine tri_region (by exact tokW) (by exact gok) [7] [] rfl ?_
      obtain ⟨⟨⟨y9_kind, y9_text, y9_cols, y9_kids⟩, y10⟩, hy9, h⟩ := bind_out h
      refine ⟨_, ⟨_, _, _, _, _, hy9, rfl, rfl⟩, ?_⟩
      show Tri _ _ _ _
      refine tri_le (Le.giveBox 0 [.int .i64 y9_kind, .str y9_text, .int .i64 y9_cols, .sl 4 (Nd.encs y9_kids)] rfl rfl) ?_
      refine tri_seq ?_
      refine tri_region (by exact tokW) (by exact gok) [9] [] rfl ?_
      obtain ⟨⟨⟨y11_kind, y11_text, y11_cols, y11_kids⟩, y12⟩, hy11, h⟩ := bind_out h
      refine ⟨_, ⟨_, _, _, _, _, hy11, rfl, rfl⟩, ?_⟩
      show Tri _ _ _ _
      refine tri_le (Le.giveBox 1 [.int .i64 y11_kind, .str y11_text, .int .i64 y11_cols, .sl 4 (Nd.encs y11_kids)] rfl rfl) ?_
      refine tri_seq ?_
      refine tri_region (by exact tokW) (by exact gok) [11] [] rfl ?_
      obtain ⟨⟨⟨y13_kind, y13_text, y13_cols, y13_kids⟩, y14⟩, hy13, h⟩ := bind_out h
      refine ⟨_, ⟨_, _, _, _, _, _, hy13, rfl, rfl⟩, ?_⟩
      show Tri _ _ _ _
      refine tri_le (Le.giveBox 2 [.int .i64 y13_kind, .str y13_text, .int .i64 y13_cols, .sl 4 (Nd.encs y13_kids)] rfl rfl) ?_
      refine tri_seq ?_
      refine tri_region (by exact tokW) (by exact gok) [13] [] rfl ?_
      obtain ⟨⟨⟨y15_kind, y15_text, y15_cols, y15_kids⟩, y16⟩, hy15, h⟩ := bind_out h
      refine ⟨_, ⟨_, _, _, _, _, _, hy15, rfl, rfl⟩, ?_⟩
      show Tri _ _ _ _
      refine tri_le (Le.giveBox 3 [.int .i64 y15_kind, .str y15_text, .int .i64 y15_cols, .sl 4 (Nd.encs y15_kids)] rfl rfl) ?_
      refine tri_seq ?_
      obtain ⟨x17, hj, h⟩ := bind_out h
      refine tri_post ⟨ofL [(6, .s (.bool x17))], fun _ => none, 0⟩ ?_ (fun σ' hle => ?_)
      · replace h := hj
        refine tri_region (by exact tokW) (by exact gok) [] [57, 62, 67] rfl ?_
        intro b hb
        cases b with
        | true =>
          replace h := bif_t hb.symm h
          intro b hb
          cases b with
          | true =>
            replace h := bif_t hb.symm h
            obtain ⟨y18, hy18, h⟩ := bind_out h
            refine ⟨_, ⟨_, _, _, _, hy18, rfl, rfl⟩, ?_⟩
            intro b hb
            cases b with
            | true =>
              replace h := bif_t hb.symm h
              obtain ⟨y19, hy19, h⟩ := bind_out h
              refine ⟨_, ⟨_, _, _, _, hy19, rfl, rfl⟩, ?_⟩
              cases h
              exact (Le.rename [] _ [] 0 ⟨rfl, trivial⟩ trivial rfl rfl rfl rfl rfl)
            | false =>
              replace h := bif_f hb.symm h
              cases h
              exact (Le.rename [] _ [] 0 ⟨rfl, trivial⟩ trivial rfl rfl rfl rfl rfl)
          | false =>
            replace h := bif_f hb.symm h
            intro b hb
            subst hb
            cases h
            exact (Le.rename [] _ [] 0 ⟨rfl, trivial⟩ trivial rfl rfl rfl rfl rfl)
        | false =>
          replace h := bif_f hb.symm h
          intro b hb
          subst hb
          intro b hb
          subst hb
          cases h
          exact (Le.rename [] _ [] 0 ⟨rfl, trivial⟩ trivial rfl rfl rfl rfl rfl)
      · show Tri _ _ _ _
        refine tri_le hle ?_
        refine tri_ret ?_
        have hy := Option.some.inj h
        subst hy
        unfold Gives
        exact ⟨_, Le.refl _ _, rfl, rfl⟩

end Go.Proofs.YtefbmooajknmgaaDoor
