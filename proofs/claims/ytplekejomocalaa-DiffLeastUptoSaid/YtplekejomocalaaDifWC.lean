/-
  Walks, printed by gw.py.
-/
import Derived.Test.YtplekejomocalaaDifWB
set_option linter.unusedVariables false
set_option linter.unusedSimpArgs false
namespace Go.Proofs.Ytplekejomocalaa
open Go.Abs

/- vinculum/node.each -/
def enc_node_inner (p : (Nd × Int)) : List S := [.pt (Nd.enc p.1), .int .i64 p.2]
def R_node_each (n : Nat) (xs : List AV) (os : List Ob) (x : AV) (os' : List (Option Ob)) : Prop := ∃ (a0 : Nd) (a1 : Int) (z0 : Int), m_node_each n a0 a1 = some z0 ∧ xs = [.s (.pt (Nd.enc a0)), .clo 42 [.op 0 0]] ∧ os = [.box (((irow .i64) a1).map .s)] ∧ x = .tup [] ∧ os' = [some (.box (((irow .i64) z0).map .s))]
def S_node_each : PSpec := ospec (fun xs os x os' => ∃ n, R_node_each n xs os x os')
set_option maxHeartbeats 2000000 in
set_option maxRecDepth 100000 in
theorem ok_node_each : PSound Try.prog 41 S_node_each := by
  have gok : ∀ f s, look? f [(42, S_node_Count_1)] = some s → PSound Try.prog f s := look_all (by
    simp only [List.forall_mem_cons]
    exact ⟨ok_node_Count_1, by simp⟩)
  refine PSound.withNil (osound tokW Try.call41 Try.func41 rfl (fun xs os x os' h => by obtain ⟨n, _, _, _, _, rfl, rfl, _, rfl⟩ := h; exact ⟨by show 2 ≤ 52; decide, by show 1 ≤ 1; decide⟩) 52 rfl ?_) _
  rintro xs os x os' w0 G0 B0 ⟨n, ⟨n1_kind, n1_text, n1_cols, n1_kids⟩, o2, z0, h, rfl, rfl, rfl, rfl⟩ _
  rw [m_node_each] at h
  refine tri_seq ?_
  refine tri_region (by exact tokW) (by exact gok) [9] [] rfl ?_
  show Tri _ _ _ _
  refine tri_le (Le.rename [(0, 0), (1, 1)] [(1, .clo 42 [.op 0 0]), (4, .orow 1)] [(0, .box [.s (.int .i64 o2)]), (1, .row 87 2 ((List.map enc_node_inner) [(Nd.mk n1_kind n1_text n1_cols n1_kids, 1)]))] 2 ⟨rfl, rfl, trivial⟩ ⟨rfl, ⟨_, rfl, rfl⟩, rfl, ⟨_, rfl, congrArg (Ob.row 87 2) (by simp [List.map_append, List.map_take, List.map_drop, irow, brow, b8of_row, List.map_cons, List.map_nil, b8of_wrap, Nd.encs_eq, Nd.enc, enc_13_node_kind, enc_node_checker, enc_node_inner])⟩, trivial⟩ rfl rfl rfl rfl rfl) ?_
  obtain ⟨x6, hl, h⟩ := bind_out h
  refine tri_post ⟨ofL [], ofH [(0, .box [.s (.int .i64 x6)])], 1⟩ ?_ (fun σ' hle => ?_)
  · refine tri_block (tri_loopI (X := Nat × Int × (List (Nd × Int))) (fun y => match y with | (k, x3, l5) => ⟨ofL [(1, .clo 42 [.op 0 0]), (4, .orow 1)], ofH [(0, .box [.s (.int .i64 x3)]), (1, .row 87 2 ((List.map enc_node_inner) l5))], 2⟩) (fun y => m_node_each_l1 n y.1 y.2.1 y.2.2 = some x6) (fun y => y.1) (n, o2, [(Nd.mk n1_kind n1_text n1_cols n1_kids, 1)]) hl ?_ ?_)
    · exact (Le.rename [(0, 0), (1, 1)] _ _ _ ⟨rfl, rfl, trivial⟩ ⟨rfl, ⟨_, rfl, rfl⟩, rfl, ⟨_, rfl, rfl⟩, trivial⟩ rfl rfl rfl rfl rfl)
    · rintro ⟨k, x3, l5⟩ h
      cases k with
      | zero => cases h
      | succ k =>
        replace h : m_node_each_l1 n (k+1) x3 l5 = some x6 := h
        rw [m_node_each_l1] at h
        refine tri_seq ?_
        refine tri_seq ?_
        refine tri_region (by exact tokW) (by exact gok) [] [11] rfl ?_
        intro n7 hn7
        obtain rfl : (l5.length : Int) = n7 := (hn7.trans (congrArg (fun m : Nat => (m : Int)) (rlen (fun _ => rfl) l5))).symm
        show Tri _ _ _ _
        refine tri_cond rfl (fun hb => ?_) (fun hb => ?_)
        · replace h := bif_t hb h
          refine tri_skip ?_
          show Tri _ _ _ _
          refine tri_block ?_
          refine tri_seq ?_
          refine tri_region (by exact tokW) (by exact gok) [5] [15] rfl ?_
          intro n8 hn8
          obtain rfl : (l5.length : Int) = n8 := (hn8.trans (congrArg (fun m : Nat => (m : Int)) (rlen (fun _ => rfl) l5))).symm
          obtain ⟨⟨⟨e9_node_kind, e9_node_text, e9_node_cols, e9_node_kids⟩, e9_depth⟩, he9, h⟩ := bind_out h
          refine And.intro (at_ok (fun _ => rfl) he9).1 ?_
          refine And.intro (at_ok (fun _ => rfl) he9).2.2 ?_
          refine ⟨_, (at_ok (fun _ => rfl) he9).2.1, ?_⟩
          show Tri _ _ _ _
          refine tri_le (Le.giveBox 2 [.pt [.int .i64 e9_node_kind, .str e9_node_text, .int .i64 e9_node_cols, .sl 4 (Nd.encs e9_node_kids)], .int .i64 e9_depth] rfl rfl) ?_
          refine tri_seq ?_
          refine tri_region (by exact tokW) (by exact gok) [23] [21] rfl ?_
          intro n10 hn10
          obtain rfl : (l5.length : Int) = n10 := (hn10.trans (congrArg (fun m : Nat => (m : Int)) (rlen (fun _ => rfl) l5))).symm
          obtain ⟨hq, h⟩ := req_out h
          refine And.intro ⟨hq.1, Int.le_trans hq.2 (Int.ofNat_le.2 (Nat.le_of_eq (rlen (fun _ => rfl) _).symm))⟩ ?_
          show Tri _ _ _ _
          refine tri_le (Le.rename [(0, 0), (3, 1)] [(1, .clo 42 [.op 0 0]), (4, .orow 1), (5, .s (.pt [.pt [.int .i64 e9_node_kind, .str e9_node_text, .int .i64 e9_node_cols, .sl 4 (Nd.encs e9_node_kids)], .int .i64 e9_depth]))] [(0, .box [.s (.int .i64 x3)]), (1, .row 87 2 ((List.map enc_node_inner) (l5.take (IntKind.i64.wrap ((l5.length : Int) - 1)).toNat)))] 2 ⟨rfl, rfl, rfl, trivial⟩ ⟨rfl, ⟨_, rfl, rfl⟩, rfl, ⟨_, rfl, congrArg (Ob.row 87 2) (by simp [List.map_append, List.map_take, List.map_drop, irow, brow, b8of_row, List.map_cons, List.map_nil, b8of_wrap, Nd.encs_eq, Nd.enc, enc_13_node_kind, enc_node_checker, enc_node_inner])⟩, trivial⟩ rfl rfl rfl rfl rfl) ?_
          refine tri_seq ?_
          refine tri_region (by exact tokW) (by exact gok) [] [] rfl ?_
          obtain ⟨w11, hw11, h⟩ := bind_out h
          refine ⟨_, _, ⟨_, _, _, hw11, rfl, rfl, rfl, rfl⟩, ?_⟩
          show Tri _ _ _ _
          refine tri_seq ?_
          refine tri_region (by exact tokW) (by exact gok) [] [33] rfl ?_
          intro n12 hn12
          obtain rfl : (e9_node_kids.length : Int) = n12 := (hn12.trans (congrArg (fun m : Nat => (m : Int)) (rlen Nd.encs_eq e9_node_kids))).symm
          show Tri _ _ _ _
          obtain ⟨l16, hl, h⟩ := bind_out h
          refine tri_post ⟨ofL [(1, .clo 42 [.op 0 0]), (4, .orow 1)], ofH [(0, .box [.s (.int .i64 w11)]), (1, .row 87 2 ((List.map enc_node_inner) l16))], 2⟩ ?_ (fun σ' hle => ?_)
          · refine tri_block (tri_loopI (X := Nat × Int × (List (Nd × Int))) (fun y => match y with | (k, x13, l15) => ⟨ofL [(1, .clo 42 [.op 0 0]), (4, .orow 1), (5, .s (.pt [.pt [.int .i64 e9_node_kind, .str e9_node_text, .int .i64 e9_node_cols, .sl 4 (Nd.encs e9_node_kids)], .int .i64 e9_depth])), (33, .s (.int .i64 (e9_node_kids.length : Int))), (34, .s (.int .i64 x13))], ofH [(0, .box [.s (.int .i64 w11)]), (1, .row 87 2 ((List.map enc_node_inner) l15))], 2⟩) (fun y => m_node_each_l2 e9_node_kids e9_depth y.1 y.2.1 y.2.2 = some l16) (fun y => y.1) (n, 0, l5.take (IntKind.i64.wrap ((l5.length : Int) - 1)).toNat) hl ?_ ?_)
            · exact (Le.rename [(0, 0), (1, 1)] _ _ _ ⟨rfl, rfl, rfl, rfl, rfl, trivial⟩ ⟨rfl, ⟨_, rfl, rfl⟩, rfl, ⟨_, rfl, rfl⟩, trivial⟩ rfl rfl rfl rfl rfl)
            · rintro ⟨k, x13, l15⟩ h
              cases k with
              | zero => cases h
              | succ k =>
                replace h : m_node_each_l2 e9_node_kids e9_depth (k+1) x13 l15 = some l16 := h
                rw [m_node_each_l2] at h
                refine tri_seq ?_
                refine tri_region (by exact tokW) (by exact gok) [] [] rfl ?_
                show Tri _ _ _ _
                refine tri_seq ?_
                refine tri_cond rfl (fun hb => ?_) (fun hb => ?_)
                · replace h := bif_t hb h
                  refine tri_skip ?_
                  show Tri _ _ _ _
                  refine tri_seq ?_
                  refine tri_block ?_
                  refine tri_seq ?_
                  refine tri_region (by exact tokW) (by exact gok) [] [] rfl ?_
                  show Tri _ _ _ _
                  refine tri_drawn (by exact tokW) (by exact gok) (by exact mixed) [50] [44, 49] [13] rfl (by decide +kernel) ?_
                  obtain ⟨⟨e17_kind, e17_text, e17_cols, e17_kids⟩, he17, h⟩ := bind_out h
                  refine And.intro (at_ok Nd.encs_eq he17).1 ?_
                  intro r18 hr18
                  obtain rfl : [.int .i64 e17_kind, .str e17_text, .int .i64 e17_cols, .sl 4 (Nd.encs e17_kids)] = r18 := (hr18.trans (at_ok Nd.encs_eq he17).2.1).symm
                  intro r19 hr19
                  obtain rfl : (List.map enc_node_inner) [(Nd.mk e17_kind e17_text e17_cols e17_kids, IntKind.i64.wrap (e9_depth + 1))] = r19 := (hr19.trans (by simp [List.map_append, List.map_take, List.map_drop, irow, brow, b8of_row, List.map_cons, List.map_nil, b8of_wrap, Nd.encs_eq, Nd.enc, enc_13_node_kind, enc_node_checker, enc_node_inner])).symm
                  obtain ⟨hq, h⟩ := req_out h
                  refine And.intro (show (((List.map enc_node_inner) l15).length + ((List.map enc_node_inner) [(Nd.mk e17_kind e17_text e17_cols e17_kids, IntKind.i64.wrap (e9_depth + 1))]).length) * 16 ≤ 140737488355328 ∧ ((List.map enc_node_inner) l15).length + ((List.map enc_node_inner) [(Nd.mk e17_kind e17_text e17_cols e17_kids, IntKind.i64.wrap (e9_depth + 1))]).length ≤ 9223372036854775807 from by simp only [List.length_append, List.length_cons, List.length_nil, List.length_map, rlen (fun _ => rfl)] at hq ⊢; omega) ?_
                  show Tri _ _ _ _
                  refine tri_le (Le.rename [(0, 0), (2, 1)] [(1, .clo 42 [.op 0 0]), (4, .orow 1), (5, .s (.pt [.pt [.int .i64 e9_node_kind, .str e9_node_text, .int .i64 e9_node_cols, .sl 4 (Nd.encs e9_node_kids)], .int .i64 e9_depth])), (33, .s (.int .i64 (e9_node_kids.length : Int))), (34, .s (.int .i64 x13))] [(0, .box [.s (.int .i64 w11)]), (1, .row 87 2 ((List.map enc_node_inner) (l15 ++ [(Nd.mk e17_kind e17_text e17_cols e17_kids, IntKind.i64.wrap (e9_depth + 1))])))] 2 ⟨rfl, rfl, rfl, rfl, rfl, trivial⟩ ⟨rfl, ⟨_, rfl, rfl⟩, rfl, ⟨_, rfl, congrArg (Ob.row 87 2) (by simp [List.map_append, List.map_take, List.map_drop, irow, brow, b8of_row, List.map_cons, List.map_nil, b8of_wrap, Nd.encs_eq, Nd.enc, enc_13_node_kind, enc_node_checker, enc_node_inner])⟩, trivial⟩ rfl rfl rfl rfl rfl) ?_
                  refine tri_region (by exact tokW) (by exact gok) [] [] rfl ?_
                  refine ⟨(k, IntKind.i64.wrap (x13 + 1), l15 ++ [(Nd.mk e17_kind e17_text e17_cols e17_kids, IntKind.i64.wrap (e9_depth + 1))]), h, (Le.rename [(0, 0), (1, 1)] _ _ _ ⟨rfl, rfl, rfl, rfl, rfl, trivial⟩ ⟨rfl, ⟨_, rfl, rfl⟩, rfl, ⟨_, rfl, rfl⟩, trivial⟩ rfl rfl rfl rfl rfl), Nat.lt_succ_self k⟩
                · replace h := bif_f hb h
                  refine tri_exit ?_
                  cases h
                  exact (Le.rename [(0, 0), (1, 1)] _ _ _ ⟨rfl, rfl, trivial⟩ ⟨rfl, ⟨_, rfl, rfl⟩, rfl, ⟨_, rfl, rfl⟩, trivial⟩ rfl rfl rfl rfl rfl)
          · refine ⟨(k, w11, l16), h, (Le.trans hle (Le.rename [(0, 0), (1, 1)] _ _ _ ⟨rfl, rfl, trivial⟩ ⟨rfl, ⟨_, rfl, rfl⟩, rfl, ⟨_, rfl, rfl⟩, trivial⟩ rfl rfl rfl rfl rfl)), Nat.lt_succ_self k⟩
        · replace h := bif_f hb h
          refine tri_exit ?_
          cases h
          exact (Le.rename [(0, 0)] _ _ _ trivial ⟨rfl, ⟨_, rfl, rfl⟩, trivial⟩ rfl rfl rfl rfl rfl)
  · have hy := Option.some.inj h
    subst hy
    unfold GivesO
    exact ⟨_, (Le.trans hle (Le.rename [(0, 0)] [] [(0, .box [.s (.int .i64 x6)])] 1 trivial ⟨rfl, ⟨_, rfl, rfl⟩, trivial⟩ rfl rfl rfl rfl rfl)), rfl, rfl, rfl, rfl, trivial⟩

/- vinculum/node.Count -/
def R_node_Count (n : Nat) (xs : List AV) (r : Ret) : Prop := ∃ (a0 : Nd) (y0 : Int), m_node_Count n a0 = some y0 ∧ xs = [.agg ((Nd.enc a0).map .s)] ∧ r = .val (.s (.int .i64 y0))
def S_node_Count : PSpec := pspec fun xs r => ∃ n, R_node_Count n xs r
set_option maxHeartbeats 2000000 in
set_option maxRecDepth 100000 in
theorem ok_node_Count : PSound Try.prog 29 S_node_Count := by
  have gok : ∀ f s, look? f [(41, S_node_each)] = some s → PSound Try.prog f s := look_all (by
    simp only [List.forall_mem_cons]
    exact ⟨ok_node_each, by simp⟩)
  refine psound tokW Try.call29 Try.func29 rfl (fun xs r h => by obtain ⟨n, _, _, _, rfl, _⟩ := h; show 1 ≤ 7; decide) 7 rfl ?_
  rintro xs r w0 G0 ⟨n, ⟨n1_kind, n1_text, n1_cols, n1_kids⟩, y0, h, rfl, rfl⟩ _
  rw [m_node_Count] at h
  refine tri_seq ?_
  refine tri_region (by exact tokW) (by exact gok) [] [] rfl ?_
  show Tri _ _ _ _
  refine tri_seq ?_
  refine tri_region (by exact tokW) (by exact gok) [3] [] rfl ?_
  show Tri _ _ _ _
  refine tri_seq ?_
  refine tri_region (by exact tokW) (by exact gok) [] [] rfl ?_
  obtain ⟨w2, hw2, h⟩ := bind_out h
  refine ⟨_, _, ⟨_, _, _, _, hw2, rfl, rfl, rfl, rfl⟩, ?_⟩
  show Tri _ _ _ _
  refine tri_seq ?_
  refine tri_region (by exact tokW) (by exact gok) [] [] rfl ?_
  show Tri _ _ _ _
  refine tri_ret ?_
  have hy := Option.some.inj h
  subst hy
  unfold Gives
  exact ⟨_, Le.refl _ _, rfl, rfl⟩

/- vinculum/diff.sizes -/
def R_diff_sizes (n : Nat) (xs : List AV) (r : Ret) : Prop := ∃ (a0 : List Nd) (y0 : List Int), m_diff_sizes n a0 = some y0 ∧ xs = [.s (.sl 4 (Nd.encs a0))] ∧ r = .row 3 1 ((List.map (irow .i64)) y0)
def S_diff_sizes : PSpec := pspec fun xs r => ∃ n, R_diff_sizes n xs r
set_option maxHeartbeats 2000000 in
set_option maxRecDepth 100000 in
theorem ok_diff_sizes : PSound Try.prog 31 S_diff_sizes := by
  have gok : ∀ f s, look? f [(29, S_node_Count)] = some s → PSound Try.prog f s := look_all (by
    simp only [List.forall_mem_cons]
    exact ⟨ok_node_Count, by simp⟩)
  refine psound tokW Try.call31 Try.func31 rfl (fun xs r h => by obtain ⟨n, _, _, _, rfl, _⟩ := h; show 1 ≤ 23; decide) 23 rfl ?_
  rintro xs r w0 G0 ⟨n, l1, y0, h, rfl, rfl⟩ _
  rw [m_diff_sizes] at h
  refine tri_seq ?_
  refine tri_region (by exact tokW) (by exact gok) [2] [] rfl ?_
  show Tri _ _ _ _
  refine tri_le (Le.rename [] [(0, .s (.sl 4 (Nd.encs l1)))] [] 0 ⟨rfl, trivial⟩ trivial rfl rfl rfl rfl rfl) ?_
  refine tri_seq ?_
  refine tri_region (by exact tokW) (by exact gok) [7] [6] rfl ?_
  intro n2 hn2
  obtain rfl : (l1.length : Int) = n2 := (hn2.trans (congrArg (fun m : Nat => (m : Int)) (rlen Nd.encs_eq l1))).symm
  obtain ⟨hq, h⟩ := req_out h
  refine And.intro (show 0 ≤ (l1.length : Int) ∧ (l1.length : Int) ≤ (l1.length : Int) ∧ (l1.length : Int) * ((8 : Nat) : Int) ≤ 281474976710656 ∧ (l1.length : Int) ≤ 281474976710656 from ⟨hq.1, Int.le_refl _, by have h1 := hq.1; have h2 := hq.2; omega, by have h2 := hq.2; omega⟩) ?_
  show Tri _ _ _ _
  refine tri_le (Le.rename [(0, 0)] [(0, .s (.sl 4 (Nd.encs l1))), (3, .orow 0)] [(0, .row 3 1 ((List.map (irow .i64)) (List.replicate (l1.length : Int).toNat 0)))] 1 ⟨rfl, rfl, trivial⟩ ⟨rfl, ⟨_, rfl, congrArg (Ob.row 3 1) (by simp [List.map_append, List.map_take, List.map_drop, irow, brow, b8of_row, List.map_cons, List.map_nil, b8of_wrap, Nd.encs_eq, Nd.enc, enc_13_node_kind, enc_node_checker, enc_node_inner])⟩, trivial⟩ rfl rfl rfl rfl rfl) ?_
  refine tri_seq ?_
  refine tri_seq ?_
  refine tri_region (by exact tokW) (by exact gok) [] [9] rfl ?_
  intro n3 hn3
  obtain rfl : (l1.length : Int) = n3 := (hn3.trans (congrArg (fun m : Nat => (m : Int)) (rlen Nd.encs_eq l1))).symm
  show Tri _ _ _ _
  obtain ⟨l6, hl, h⟩ := bind_out h
  refine tri_post ⟨ofL [(3, .orow 0)], ofH [(0, .row 3 1 ((List.map (irow .i64)) l6))], 1⟩ ?_ (fun σ' hle => ?_)
  · refine tri_block (tri_loopI (X := Nat × Int × (List Int)) (fun y => match y with | (k, x4, l5) => ⟨ofL [(0, .s (.sl 4 (Nd.encs l1))), (3, .orow 0), (9, .s (.int .i64 (l1.length : Int))), (10, .s (.int .i64 x4))], ofH [(0, .row 3 1 ((List.map (irow .i64)) l5))], 1⟩) (fun y => m_diff_sizes_l1 n l1 y.1 y.2.1 y.2.2 = some l6) (fun y => y.1) (n, 0, List.replicate (l1.length : Int).toNat 0) hl ?_ ?_)
    · exact (Le.rename [(0, 0)] _ _ _ ⟨rfl, rfl, rfl, rfl, trivial⟩ ⟨rfl, ⟨_, rfl, rfl⟩, trivial⟩ rfl rfl rfl rfl rfl)
    · rintro ⟨k, x4, l5⟩ h
      cases k with
      | zero => cases h
      | succ k =>
        replace h : m_diff_sizes_l1 n l1 (k+1) x4 l5 = some l6 := h
        rw [m_diff_sizes_l1] at h
        refine tri_seq ?_
        refine tri_region (by exact tokW) (by exact gok) [] [] rfl ?_
        show Tri _ _ _ _
        refine tri_seq ?_
        refine tri_cond rfl (fun hb => ?_) (fun hb => ?_)
        · replace h := bif_t hb h
          refine tri_skip ?_
          show Tri _ _ _ _
          refine tri_seq ?_
          refine tri_block ?_
          refine tri_seq ?_
          refine tri_region (by exact tokW) (by exact gok) [] [] rfl ?_
          show Tri _ _ _ _
          refine tri_region (by exact tokW) (by exact gok) [] [17] rfl ?_
          obtain ⟨⟨e7_kind, e7_text, e7_cols, e7_kids⟩, he7, h⟩ := bind_out h
          refine And.intro (at_ok Nd.encs_eq he7).1 ?_
          intro r8 hr8
          obtain rfl : [.int .i64 e7_kind, .str e7_text, .int .i64 e7_cols, .sl 4 (Nd.encs e7_kids)] = r8 := (hr8.trans (at_ok Nd.encs_eq he7).2.1).symm
          obtain ⟨y9, hy9, h⟩ := bind_out h
          refine ⟨_, ⟨_, _, _, hy9, rfl, rfl⟩, ?_⟩
          obtain ⟨e10, he10, h⟩ := bind_out h
          refine And.intro (at_ok (fun _ => rfl) he10).1 ?_
          have hset11 := (rset (R := (List.map (irow .i64))) (f := (irow .i64)) (fun _ => rfl) he10 y9 0 1 [.int .i64 y9] rfl)
          have hat11 := at_set he10 y9
          refine And.intro (at_ok (fun _ => rfl) he10).2.2 ?_
          show Tri _ _ _ _
          refine tri_le (Le.rename [(0, 0)] [(0, .s (.sl 4 (Nd.encs l1))), (3, .orow 0), (9, .s (.int .i64 (l1.length : Int))), (10, .s (.int .i64 x4))] [(0, .row 3 1 ((List.map (irow .i64)) (l5.set x4.toNat y9)))] 1 ⟨rfl, rfl, rfl, rfl, trivial⟩ ⟨rfl, ⟨_, rfl, congrArg (Ob.row 3 1) hset11⟩, trivial⟩ rfl rfl rfl rfl rfl) ?_
          refine tri_region (by exact tokW) (by exact gok) [] [] rfl ?_
          refine ⟨(k, IntKind.i64.wrap (x4 + 1), l5.set x4.toNat y9), h, (Le.rename [(0, 0)] _ _ _ ⟨rfl, rfl, rfl, rfl, trivial⟩ ⟨rfl, ⟨_, rfl, rfl⟩, trivial⟩ rfl rfl rfl rfl rfl), Nat.lt_succ_self k⟩
        · replace h := bif_f hb h
          refine tri_exit ?_
          cases h
          exact (Le.rename [(0, 0)] _ _ _ ⟨rfl, trivial⟩ ⟨rfl, ⟨_, rfl, rfl⟩, trivial⟩ rfl rfl rfl rfl rfl)
  · show Tri _ _ _ _
    refine tri_le hle ?_
    refine tri_seq ?_
    refine tri_region (by exact tokW) (by exact gok) [] [] rfl ?_
    show Tri _ _ _ _
    refine tri_ret ?_
    have hy := Option.some.inj h
    subst hy
    unfold Gives
    exact ⟨_, Le.refl _ _, 0, rfl, rfl⟩

end Go.Proofs.Ytplekejomocalaa
