/-
  Walks, printed by gw.py.
-/
import Derived.Test.YtplekejomocalaaDifWA
set_option linter.unusedVariables false
set_option linter.unusedSimpArgs false
namespace Go.Proofs.Ytplekejomocalaa
open Go.Abs

/- (*vinculum/node.checker).own -/
def enc_node_checker (p : (Unit × Int)) : List S := [.str [], .int .i64 0, .nf, .str [114, 111, 119], .int .i64 0, .fn 57, .str [115, 121, 109], .int .i64 0, .fn 58, .str [110, 117, 109], .int .i64 0, .fn 59, .str [116, 101, 120, 116], .int .i64 0, .fn 60, .str [102, 114, 97, 99], .int .i64 2, .fn 57, .str [114, 111, 111, 116], .int .i64 2, .fn 57, .str [115, 117, 98], .int .i64 2, .fn 57, .str [115, 117, 112], .int .i64 2, .fn 57, .str [98, 111, 116, 104], .int .i64 3, .fn 57, .str [97, 99, 99, 101, 110, 116], .int .i64 1, .fn 61, .str [102, 101, 110, 99, 101], .int .i64 1, .fn 62, .str [109, 97, 116, 114, 105, 120], .int .i64 0, .fn 57, .int .i64 p.2]
def R_node_checker_own (n : Nat) (xs : List AV) (os : List Ob) (x : AV) (os' : List (Option Ob)) : Prop := ∃ (a0 : (Unit × Int)) (a1 : Nd) (y0 : Bool) (z0 : (Unit × Int)), m_node_checker_own n a0 a1 = some (y0, z0) ∧ xs = [.op 0 0, .s (.pt (Nd.enc a1))] ∧ os = [.box ((enc_node_checker a0).map .s)] ∧ x = .s (.bool y0) ∧ os' = [some (.box ((enc_node_checker z0).map .s))]
def S_node_checker_own : PSpec := ospec (fun xs os x os' => ∃ n, R_node_checker_own n xs os x os')
set_option maxHeartbeats 2000000 in
set_option maxRecDepth 100000 in
theorem ok_node_checker_own : PSound Try.prog 63 S_node_checker_own := by
  have gok : ∀ f s, look? f [(57, S_node_empty), (58, S_node_Symbol), (59, S_node_Number), (60, S_node_plain), (61, S_node_accent), (62, S_node_fence)] = some s → PSound Try.prog f s := look_all (by
    simp only [List.forall_mem_cons]
    exact ⟨ok_node_empty, ok_node_Symbol, ok_node_Number, ok_node_plain, ok_node_accent, ok_node_fence, by simp⟩)
  refine PSound.withNil (osound tokW Try.call63 Try.func63 rfl (fun xs os x os' h => by obtain ⟨n, _, _, _, _, _, rfl, rfl, _, rfl⟩ := h; exact ⟨by show 2 ≤ 120; decide, by show 1 ≤ 1; decide⟩) 120 rfl ?_) _
  rintro xs os x os' w0 G0 B0 ⟨n, ⟨_, o1_nodes⟩, ⟨a2_kind, a2_text, a2_cols, a2_kids⟩, y0, z0, h, rfl, rfl, rfl, rfl⟩ _
  rw [m_node_checker_own] at h
  refine tri_seq ?_
  refine tri_region (by exact tokW) (by exact gok) [] [] rfl ?_
  show Tri _ _ _ _
  refine tri_seq ?_
  refine tri_seq ?_
  obtain ⟨x3, hj, h⟩ := bind_out h
  refine tri_post ⟨ofL [(0, .op 0 0), (1, .s (.pt [.int .i64 a2_kind, .str a2_text, .int .i64 a2_cols, .sl 4 (Nd.encs a2_kids)])), (34, .s (.bool x3))], ofH [(0, .box [.s (.str []), .s (.int .i64 0), .s (.nf), .s (.str [114, 111, 119]), .s (.int .i64 0), .s (.fn 57), .s (.str [115, 121, 109]), .s (.int .i64 0), .s (.fn 58), .s (.str [110, 117, 109]), .s (.int .i64 0), .s (.fn 59), .s (.str [116, 101, 120, 116]), .s (.int .i64 0), .s (.fn 60), .s (.str [102, 114, 97, 99]), .s (.int .i64 2), .s (.fn 57), .s (.str [114, 111, 111, 116]), .s (.int .i64 2), .s (.fn 57), .s (.str [115, 117, 98]), .s (.int .i64 2), .s (.fn 57), .s (.str [115, 117, 112]), .s (.int .i64 2), .s (.fn 57), .s (.str [98, 111, 116, 104]), .s (.int .i64 3), .s (.fn 57), .s (.str [97, 99, 99, 101, 110, 116]), .s (.int .i64 1), .s (.fn 61), .s (.str [102, 101, 110, 99, 101]), .s (.int .i64 1), .s (.fn 62), .s (.str [109, 97, 116, 114, 105, 120]), .s (.int .i64 0), .s (.fn 57), .s (.int .i64 o1_nodes)])], 1⟩ ?_ (fun σ' hle => ?_)
  · replace h := hj
    refine tri_drawn (by exact tokW) (by exact gok) (by exact mixed) [] [10, 17, 22] [22] rfl (by decide +kernel) ?_
    intro b hb
    cases b with
    | true =>
      replace h := bif_t hb.symm h
      intro b hb
      subst hb
      cases h
      exact (Le.rename [(0, 0)] _ _ _ ⟨rfl, rfl, rfl, trivial⟩ ⟨rfl, ⟨_, rfl, rfl⟩, trivial⟩ rfl rfl rfl rfl rfl)
    | false =>
      replace h := bif_f hb.symm h
      intro b hb
      cases b with
      | true =>
        replace h := bif_t hb.symm h
        cases h
        exact (Le.rename [(0, 0)] _ _ _ ⟨rfl, rfl, rfl, trivial⟩ ⟨rfl, ⟨_, rfl, rfl⟩, trivial⟩ rfl rfl rfl rfl rfl)
      | false =>
        replace h := bif_f hb.symm h
        intro vsp hvsp
        cases hc : (a2_kind == 1) with
        | true =>
          replace h := bif_t hc h
          obtain rfl : (1 : Int) = vsp := (hvsp.trans (eq_of_beq hc)).symm
          refine And.intro (by decide) ?_
          obtain ⟨y4, hy4, h⟩ := bind_out h
          refine ⟨_, ⟨_, _, hy4, rfl, rfl⟩, ?_⟩
          cases h
          exact (Le.rename [(0, 0)] _ _ _ ⟨rfl, rfl, rfl, trivial⟩ ⟨rfl, ⟨_, rfl, rfl⟩, trivial⟩ rfl rfl rfl rfl rfl)
        | false =>
          replace h := bif_f hc h
          cases hc : (a2_kind == 2) with
          | true =>
            replace h := bif_t hc h
            obtain rfl : (2 : Int) = vsp := (hvsp.trans (eq_of_beq hc)).symm
            refine And.intro (by decide) ?_
            obtain ⟨y5, hy5, h⟩ := bind_out h
            refine ⟨_, ⟨_, _, _, hy5, rfl, rfl⟩, ?_⟩
            cases h
            exact (Le.rename [(0, 0)] _ _ _ ⟨rfl, rfl, rfl, trivial⟩ ⟨rfl, ⟨_, rfl, rfl⟩, trivial⟩ rfl rfl rfl rfl rfl)
          | false =>
            replace h := bif_f hc h
            cases hc : (a2_kind == 3) with
            | true =>
              replace h := bif_t hc h
              obtain rfl : (3 : Int) = vsp := (hvsp.trans (eq_of_beq hc)).symm
              refine And.intro (by decide) ?_
              obtain ⟨y6, hy6, h⟩ := bind_out h
              refine ⟨_, ⟨_, _, _, hy6, rfl, rfl⟩, ?_⟩
              cases h
              exact (Le.rename [(0, 0)] _ _ _ ⟨rfl, rfl, rfl, trivial⟩ ⟨rfl, ⟨_, rfl, rfl⟩, trivial⟩ rfl rfl rfl rfl rfl)
            | false =>
              replace h := bif_f hc h
              cases hc : (a2_kind == 4) with
              | true =>
                replace h := bif_t hc h
                obtain rfl : (4 : Int) = vsp := (hvsp.trans (eq_of_beq hc)).symm
                refine And.intro (by decide) ?_
                obtain ⟨y7, hy7, h⟩ := bind_out h
                refine ⟨_, ⟨_, _, _, hy7, rfl, rfl⟩, ?_⟩
                cases h
                exact (Le.rename [(0, 0)] _ _ _ ⟨rfl, rfl, rfl, trivial⟩ ⟨rfl, ⟨_, rfl, rfl⟩, trivial⟩ rfl rfl rfl rfl rfl)
              | false =>
                replace h := bif_f hc h
                cases hc : (a2_kind == 5) with
                | true =>
                  replace h := bif_t hc h
                  obtain rfl : (5 : Int) = vsp := (hvsp.trans (eq_of_beq hc)).symm
                  refine And.intro (by decide) ?_
                  obtain ⟨y8, hy8, h⟩ := bind_out h
                  refine ⟨_, ⟨_, _, hy8, rfl, rfl⟩, ?_⟩
                  cases h
                  exact (Le.rename [(0, 0)] _ _ _ ⟨rfl, rfl, rfl, trivial⟩ ⟨rfl, ⟨_, rfl, rfl⟩, trivial⟩ rfl rfl rfl rfl rfl)
                | false =>
                  replace h := bif_f hc h
                  cases hc : (a2_kind == 6) with
                  | true =>
                    replace h := bif_t hc h
                    obtain rfl : (6 : Int) = vsp := (hvsp.trans (eq_of_beq hc)).symm
                    refine And.intro (by decide) ?_
                    obtain ⟨y9, hy9, h⟩ := bind_out h
                    refine ⟨_, ⟨_, _, hy9, rfl, rfl⟩, ?_⟩
                    cases h
                    exact (Le.rename [(0, 0)] _ _ _ ⟨rfl, rfl, rfl, trivial⟩ ⟨rfl, ⟨_, rfl, rfl⟩, trivial⟩ rfl rfl rfl rfl rfl)
                  | false =>
                    replace h := bif_f hc h
                    cases hc : (a2_kind == 7) with
                    | true =>
                      replace h := bif_t hc h
                      obtain rfl : (7 : Int) = vsp := (hvsp.trans (eq_of_beq hc)).symm
                      refine And.intro (by decide) ?_
                      obtain ⟨y10, hy10, h⟩ := bind_out h
                      refine ⟨_, ⟨_, _, hy10, rfl, rfl⟩, ?_⟩
                      cases h
                      exact (Le.rename [(0, 0)] _ _ _ ⟨rfl, rfl, rfl, trivial⟩ ⟨rfl, ⟨_, rfl, rfl⟩, trivial⟩ rfl rfl rfl rfl rfl)
                    | false =>
                      replace h := bif_f hc h
                      cases hc : (a2_kind == 8) with
                      | true =>
                        replace h := bif_t hc h
                        obtain rfl : (8 : Int) = vsp := (hvsp.trans (eq_of_beq hc)).symm
                        refine And.intro (by decide) ?_
                        obtain ⟨y11, hy11, h⟩ := bind_out h
                        refine ⟨_, ⟨_, _, hy11, rfl, rfl⟩, ?_⟩
                        cases h
                        exact (Le.rename [(0, 0)] _ _ _ ⟨rfl, rfl, rfl, trivial⟩ ⟨rfl, ⟨_, rfl, rfl⟩, trivial⟩ rfl rfl rfl rfl rfl)
                      | false =>
                        replace h := bif_f hc h
                        cases hc : (a2_kind == 9) with
                        | true =>
                          replace h := bif_t hc h
                          obtain rfl : (9 : Int) = vsp := (hvsp.trans (eq_of_beq hc)).symm
                          refine And.intro (by decide) ?_
                          obtain ⟨y12, hy12, h⟩ := bind_out h
                          refine ⟨_, ⟨_, _, hy12, rfl, rfl⟩, ?_⟩
                          cases h
                          exact (Le.rename [(0, 0)] _ _ _ ⟨rfl, rfl, rfl, trivial⟩ ⟨rfl, ⟨_, rfl, rfl⟩, trivial⟩ rfl rfl rfl rfl rfl)
                        | false =>
                          replace h := bif_f hc h
                          cases hc : (a2_kind == 10) with
                          | true =>
                            replace h := bif_t hc h
                            obtain rfl : (10 : Int) = vsp := (hvsp.trans (eq_of_beq hc)).symm
                            refine And.intro (by decide) ?_
                            obtain ⟨y13, hy13, h⟩ := bind_out h
                            refine ⟨_, ⟨_, _, hy13, rfl, rfl⟩, ?_⟩
                            cases h
                            exact (Le.rename [(0, 0)] _ _ _ ⟨rfl, rfl, rfl, trivial⟩ ⟨rfl, ⟨_, rfl, rfl⟩, trivial⟩ rfl rfl rfl rfl rfl)
                          | false =>
                            replace h := bif_f hc h
                            cases hc : (a2_kind == 11) with
                            | true =>
                              replace h := bif_t hc h
                              obtain rfl : (11 : Int) = vsp := (hvsp.trans (eq_of_beq hc)).symm
                              refine And.intro (by decide) ?_
                              obtain ⟨y14, hy14, h⟩ := bind_out h
                              refine ⟨_, ⟨_, _, hy14, rfl, rfl⟩, ?_⟩
                              cases h
                              exact (Le.rename [(0, 0)] _ _ _ ⟨rfl, rfl, rfl, trivial⟩ ⟨rfl, ⟨_, rfl, rfl⟩, trivial⟩ rfl rfl rfl rfl rfl)
                            | false =>
                              replace h := bif_f hc h
                              cases hc : (a2_kind == 12) with
                              | true =>
                                replace h := bif_t hc h
                                obtain rfl : (12 : Int) = vsp := (hvsp.trans (eq_of_beq hc)).symm
                                refine And.intro (by decide) ?_
                                obtain ⟨y15, hy15, h⟩ := bind_out h
                                refine ⟨_, ⟨_, _, hy15, rfl, rfl⟩, ?_⟩
                                cases h
                                exact (Le.rename [(0, 0)] _ _ _ ⟨rfl, rfl, rfl, trivial⟩ ⟨rfl, ⟨_, rfl, rfl⟩, trivial⟩ rfl rfl rfl rfl rfl)
                              | false =>
                                replace h := bif_f hc h
                                cases h
  · show Tri _ _ _ _
    refine tri_le hle ?_
    refine tri_cond rfl (fun hb => ?_) (fun hb => ?_)
    · replace h := bif_t hb h
      refine tri_seq ?_
      refine tri_region (by exact tokW) (by exact gok) [] [] rfl ?_
      show Tri _ _ _ _
      refine tri_ret ?_
      obtain ⟨hj1, hk1⟩ := Prod.mk.inj (Option.some.inj h)
      subst hj1
      subst hk1
      unfold GivesO
      exact ⟨_, (Le.rename [(0, 0)] [(4, .s (.bool false))] [(0, .box [.s (.str []), .s (.int .i64 0), .s (.nf), .s (.str [114, 111, 119]), .s (.int .i64 0), .s (.fn 57), .s (.str [115, 121, 109]), .s (.int .i64 0), .s (.fn 58), .s (.str [110, 117, 109]), .s (.int .i64 0), .s (.fn 59), .s (.str [116, 101, 120, 116]), .s (.int .i64 0), .s (.fn 60), .s (.str [102, 114, 97, 99]), .s (.int .i64 2), .s (.fn 57), .s (.str [114, 111, 111, 116]), .s (.int .i64 2), .s (.fn 57), .s (.str [115, 117, 98]), .s (.int .i64 2), .s (.fn 57), .s (.str [115, 117, 112]), .s (.int .i64 2), .s (.fn 57), .s (.str [98, 111, 116, 104]), .s (.int .i64 3), .s (.fn 57), .s (.str [97, 99, 99, 101, 110, 116]), .s (.int .i64 1), .s (.fn 61), .s (.str [102, 101, 110, 99, 101]), .s (.int .i64 1), .s (.fn 62), .s (.str [109, 97, 116, 114, 105, 120]), .s (.int .i64 0), .s (.fn 57), .s (.int .i64 o1_nodes)])] 1 ⟨rfl, trivial⟩ ⟨rfl, ⟨_, rfl, rfl⟩, trivial⟩ rfl rfl rfl rfl rfl), rfl, rfl, rfl, rfl, trivial⟩
    · replace h := bif_f hb h
      refine tri_skip ?_
      show Tri _ _ _ _
      refine tri_seq ?_
      refine tri_seq ?_
      refine tri_region (by exact tokW) (by exact gok) [] [] rfl ?_
      show Tri _ _ _ _
      refine tri_block ?_
      refine tri_seq ?_
      refine tri_region (by exact tokW) (by exact gok) [] [] rfl ?_
      show Tri _ _ _ _
      refine tri_cond rfl (fun hb => ?_) (fun hb => ?_)
      · replace h := bif_t hb h
        refine tri_seq ?_
        obtain ⟨x16, hj, h⟩ := bind_out h
        refine tri_post ⟨ofL [(4, .s (.bool x16))], ofH [(0, .box [.s (.str []), .s (.int .i64 0), .s (.nf), .s (.str [114, 111, 119]), .s (.int .i64 0), .s (.fn 57), .s (.str [115, 121, 109]), .s (.int .i64 0), .s (.fn 58), .s (.str [110, 117, 109]), .s (.int .i64 0), .s (.fn 59), .s (.str [116, 101, 120, 116]), .s (.int .i64 0), .s (.fn 60), .s (.str [102, 114, 97, 99]), .s (.int .i64 2), .s (.fn 57), .s (.str [114, 111, 111, 116]), .s (.int .i64 2), .s (.fn 57), .s (.str [115, 117, 98]), .s (.int .i64 2), .s (.fn 57), .s (.str [115, 117, 112]), .s (.int .i64 2), .s (.fn 57), .s (.str [98, 111, 116, 104]), .s (.int .i64 3), .s (.fn 57), .s (.str [97, 99, 99, 101, 110, 116]), .s (.int .i64 1), .s (.fn 61), .s (.str [102, 101, 110, 99, 101]), .s (.int .i64 1), .s (.fn 62), .s (.str [109, 97, 116, 114, 105, 120]), .s (.int .i64 0), .s (.fn 57), .s (.int .i64 o1_nodes)])], 1⟩ ?_ (fun σ' hle => ?_)
        · replace h := hj
          refine tri_region (by exact tokW) (by exact gok) [] [46, 51] rfl ?_
          intro b hb
          cases b with
          | true =>
            replace h := bif_t hb.symm h
            intro n17 hn17
            obtain rfl : (a2_kids.length : Int) = n17 := (hn17.trans (congrArg (fun m : Nat => (m : Int)) (rlen Nd.encs_eq a2_kids))).symm
            cases h
            exact (Le.rename [(0, 0)] _ _ _ ⟨rfl, trivial⟩ ⟨rfl, ⟨_, rfl, rfl⟩, trivial⟩ rfl rfl rfl rfl rfl)
          | false =>
            replace h := bif_f hb.symm h
            cases h
            exact (Le.rename [(0, 0)] _ _ _ ⟨rfl, trivial⟩ ⟨rfl, ⟨_, rfl, rfl⟩, trivial⟩ rfl rfl rfl rfl rfl)
        · show Tri _ _ _ _
          refine tri_le hle ?_
          refine tri_ret ?_
          obtain ⟨hj1, hk1⟩ := Prod.mk.inj (Option.some.inj h)
          subst hj1
          subst hk1
          unfold GivesO
          exact ⟨_, (Le.rename [(0, 0)] [(4, .s (.bool x16))] [(0, .box [.s (.str []), .s (.int .i64 0), .s (.nf), .s (.str [114, 111, 119]), .s (.int .i64 0), .s (.fn 57), .s (.str [115, 121, 109]), .s (.int .i64 0), .s (.fn 58), .s (.str [110, 117, 109]), .s (.int .i64 0), .s (.fn 59), .s (.str [116, 101, 120, 116]), .s (.int .i64 0), .s (.fn 60), .s (.str [102, 114, 97, 99]), .s (.int .i64 2), .s (.fn 57), .s (.str [114, 111, 111, 116]), .s (.int .i64 2), .s (.fn 57), .s (.str [115, 117, 98]), .s (.int .i64 2), .s (.fn 57), .s (.str [115, 117, 112]), .s (.int .i64 2), .s (.fn 57), .s (.str [98, 111, 116, 104]), .s (.int .i64 3), .s (.fn 57), .s (.str [97, 99, 99, 101, 110, 116]), .s (.int .i64 1), .s (.fn 61), .s (.str [102, 101, 110, 99, 101]), .s (.int .i64 1), .s (.fn 62), .s (.str [109, 97, 116, 114, 105, 120]), .s (.int .i64 0), .s (.fn 57), .s (.int .i64 o1_nodes)])] 1 ⟨rfl, trivial⟩ ⟨rfl, ⟨_, rfl, rfl⟩, trivial⟩ rfl rfl rfl rfl rfl), rfl, rfl, rfl, rfl, trivial⟩
      · replace h := bif_f hb h
        refine tri_seq ?_
        refine tri_region (by exact tokW) (by exact gok) [] [] rfl ?_
        show Tri _ _ _ _
        refine tri_cond rfl (fun hb => ?_) (fun hb => ?_)
        · replace h := bif_t hb h
          refine tri_seq ?_
          obtain ⟨x18, hj, h⟩ := bind_out h
          refine tri_post ⟨ofL [(4, .s (.bool x18))], ofH [(0, .box [.s (.str []), .s (.int .i64 0), .s (.nf), .s (.str [114, 111, 119]), .s (.int .i64 0), .s (.fn 57), .s (.str [115, 121, 109]), .s (.int .i64 0), .s (.fn 58), .s (.str [110, 117, 109]), .s (.int .i64 0), .s (.fn 59), .s (.str [116, 101, 120, 116]), .s (.int .i64 0), .s (.fn 60), .s (.str [102, 114, 97, 99]), .s (.int .i64 2), .s (.fn 57), .s (.str [114, 111, 111, 116]), .s (.int .i64 2), .s (.fn 57), .s (.str [115, 117, 98]), .s (.int .i64 2), .s (.fn 57), .s (.str [115, 117, 112]), .s (.int .i64 2), .s (.fn 57), .s (.str [98, 111, 116, 104]), .s (.int .i64 3), .s (.fn 57), .s (.str [97, 99, 99, 101, 110, 116]), .s (.int .i64 1), .s (.fn 61), .s (.str [102, 101, 110, 99, 101]), .s (.int .i64 1), .s (.fn 62), .s (.str [109, 97, 116, 114, 105, 120]), .s (.int .i64 0), .s (.fn 57), .s (.int .i64 o1_nodes)])], 1⟩ ?_ (fun σ' hle => ?_)
          · replace h := hj
            refine tri_drawn (by exact tokW) (by exact gok) (by exact mixed) [] [61, 68, 73, 76, 81, 84, 89] [] rfl (by decide +kernel) ?_
            intro b hb
            cases b with
            | true =>
              replace h := bif_t hb.symm h
              intro b hb
              cases b with
              | true =>
                replace h := bif_t hb.symm h
                intro n19 hn19
                obtain rfl : (a2_kids.length : Int) = n19 := (hn19.trans (congrArg (fun m : Nat => (m : Int)) (rlen Nd.encs_eq a2_kids))).symm
                intro b hb
                cases b with
                | true =>
                  replace h := bif_t hb.symm h
                  intro n20 hn20
                  obtain rfl : (a2_kids.length : Int) = n20 := (hn20.trans (congrArg (fun m : Nat => (m : Int)) (rlen Nd.encs_eq a2_kids))).symm
                  intro b hb
                  cases b with
                  | true =>
                    replace h := bif_t hb.symm h
                    intro n21 hn21
                    obtain rfl : (a2_kids.length : Int) = n21 := (hn21.trans (congrArg (fun m : Nat => (m : Int)) (rlen Nd.encs_eq a2_kids))).symm
                    obtain ⟨hq, h⟩ := req_out h
                    refine And.intro hq ?_
                    cases h
                    exact (Le.rename [(0, 0)] _ _ _ ⟨rfl, trivial⟩ ⟨rfl, ⟨_, rfl, rfl⟩, trivial⟩ rfl rfl rfl rfl rfl)
                  | false =>
                    replace h := bif_f hb.symm h
                    cases h
                    exact (Le.rename [(0, 0)] _ _ _ ⟨rfl, trivial⟩ ⟨rfl, ⟨_, rfl, rfl⟩, trivial⟩ rfl rfl rfl rfl rfl)
                | false =>
                  replace h := bif_f hb.symm h
                  intro b hb
                  subst hb
                  cases h
                  exact (Le.rename [(0, 0)] _ _ _ ⟨rfl, trivial⟩ ⟨rfl, ⟨_, rfl, rfl⟩, trivial⟩ rfl rfl rfl rfl rfl)
              | false =>
                replace h := bif_f hb.symm h
                intro b hb
                subst hb
                intro b hb
                subst hb
                cases h
                exact (Le.rename [(0, 0)] _ _ _ ⟨rfl, trivial⟩ ⟨rfl, ⟨_, rfl, rfl⟩, trivial⟩ rfl rfl rfl rfl rfl)
            | false =>
              replace h := bif_f hb.symm h
              intro b hb
              subst hb
              intro b hb
              subst hb
              intro b hb
              subst hb
              cases h
              exact (Le.rename [(0, 0)] _ _ _ ⟨rfl, trivial⟩ ⟨rfl, ⟨_, rfl, rfl⟩, trivial⟩ rfl rfl rfl rfl rfl)
          · show Tri _ _ _ _
            refine tri_le hle ?_
            refine tri_ret ?_
            obtain ⟨hj1, hk1⟩ := Prod.mk.inj (Option.some.inj h)
            subst hj1
            subst hk1
            unfold GivesO
            exact ⟨_, (Le.rename [(0, 0)] [(4, .s (.bool x18))] [(0, .box [.s (.str []), .s (.int .i64 0), .s (.nf), .s (.str [114, 111, 119]), .s (.int .i64 0), .s (.fn 57), .s (.str [115, 121, 109]), .s (.int .i64 0), .s (.fn 58), .s (.str [110, 117, 109]), .s (.int .i64 0), .s (.fn 59), .s (.str [116, 101, 120, 116]), .s (.int .i64 0), .s (.fn 60), .s (.str [102, 114, 97, 99]), .s (.int .i64 2), .s (.fn 57), .s (.str [114, 111, 111, 116]), .s (.int .i64 2), .s (.fn 57), .s (.str [115, 117, 98]), .s (.int .i64 2), .s (.fn 57), .s (.str [115, 117, 112]), .s (.int .i64 2), .s (.fn 57), .s (.str [98, 111, 116, 104]), .s (.int .i64 3), .s (.fn 57), .s (.str [97, 99, 99, 101, 110, 116]), .s (.int .i64 1), .s (.fn 61), .s (.str [102, 101, 110, 99, 101]), .s (.int .i64 1), .s (.fn 62), .s (.str [109, 97, 116, 114, 105, 120]), .s (.int .i64 0), .s (.fn 57), .s (.int .i64 o1_nodes)])] 1 ⟨rfl, trivial⟩ ⟨rfl, ⟨_, rfl, rfl⟩, trivial⟩ rfl rfl rfl rfl rfl), rfl, rfl, rfl, rfl, trivial⟩
        · replace h := bif_f hb h
          refine tri_skip ?_
          show Tri _ _ _ _
          refine tri_seq ?_
          obtain ⟨x22, hj, h⟩ := bind_out h
          refine tri_post ⟨ofL [(4, .s (.bool x22))], ofH [(0, .box [.s (.str []), .s (.int .i64 0), .s (.nf), .s (.str [114, 111, 119]), .s (.int .i64 0), .s (.fn 57), .s (.str [115, 121, 109]), .s (.int .i64 0), .s (.fn 58), .s (.str [110, 117, 109]), .s (.int .i64 0), .s (.fn 59), .s (.str [116, 101, 120, 116]), .s (.int .i64 0), .s (.fn 60), .s (.str [102, 114, 97, 99]), .s (.int .i64 2), .s (.fn 57), .s (.str [114, 111, 111, 116]), .s (.int .i64 2), .s (.fn 57), .s (.str [115, 117, 98]), .s (.int .i64 2), .s (.fn 57), .s (.str [115, 117, 112]), .s (.int .i64 2), .s (.fn 57), .s (.str [98, 111, 116, 104]), .s (.int .i64 3), .s (.fn 57), .s (.str [97, 99, 99, 101, 110, 116]), .s (.int .i64 1), .s (.fn 61), .s (.str [102, 101, 110, 99, 101]), .s (.int .i64 1), .s (.fn 62), .s (.str [109, 97, 116, 114, 105, 120]), .s (.int .i64 0), .s (.fn 57), .s (.int .i64 o1_nodes)])], 1⟩ ?_ (fun σ' hle => ?_)
          · replace h := hj
            refine tri_drawn (by exact tokW) (by exact gok) (by exact mixed) [] [102, 107, 112] [20] rfl (by decide +kernel) ?_
            intro b hb
            cases b with
            | true =>
              replace h := bif_t hb.symm h
              intro n23 hn23
              obtain rfl : (a2_kids.length : Int) = n23 := (hn23.trans (congrArg (fun m : Nat => (m : Int)) (rlen Nd.encs_eq a2_kids))).symm
              intro vsp hvsp
              cases hc : (a2_kind == 1) with
              | true =>
                replace h := bif_t hc h
                obtain rfl : (1 : Int) = vsp := (hvsp.trans (eq_of_beq hc)).symm
                refine And.intro (by decide) ?_
                cases h
                exact (Le.rename [(0, 0)] _ _ _ ⟨rfl, trivial⟩ ⟨rfl, ⟨_, rfl, rfl⟩, trivial⟩ rfl rfl rfl rfl rfl)
              | false =>
                replace h := bif_f hc h
                cases hc : (a2_kind == 2) with
                | true =>
                  replace h := bif_t hc h
                  obtain rfl : (2 : Int) = vsp := (hvsp.trans (eq_of_beq hc)).symm
                  refine And.intro (by decide) ?_
                  cases h
                  exact (Le.rename [(0, 0)] _ _ _ ⟨rfl, trivial⟩ ⟨rfl, ⟨_, rfl, rfl⟩, trivial⟩ rfl rfl rfl rfl rfl)
                | false =>
                  replace h := bif_f hc h
                  cases hc : (a2_kind == 3) with
                  | true =>
                    replace h := bif_t hc h
                    obtain rfl : (3 : Int) = vsp := (hvsp.trans (eq_of_beq hc)).symm
                    refine And.intro (by decide) ?_
                    cases h
                    exact (Le.rename [(0, 0)] _ _ _ ⟨rfl, trivial⟩ ⟨rfl, ⟨_, rfl, rfl⟩, trivial⟩ rfl rfl rfl rfl rfl)
                  | false =>
                    replace h := bif_f hc h
                    cases hc : (a2_kind == 4) with
                    | true =>
                      replace h := bif_t hc h
                      obtain rfl : (4 : Int) = vsp := (hvsp.trans (eq_of_beq hc)).symm
                      refine And.intro (by decide) ?_
                      cases h
                      exact (Le.rename [(0, 0)] _ _ _ ⟨rfl, trivial⟩ ⟨rfl, ⟨_, rfl, rfl⟩, trivial⟩ rfl rfl rfl rfl rfl)
                    | false =>
                      replace h := bif_f hc h
                      cases hc : (a2_kind == 5) with
                      | true =>
                        replace h := bif_t hc h
                        obtain rfl : (5 : Int) = vsp := (hvsp.trans (eq_of_beq hc)).symm
                        refine And.intro (by decide) ?_
                        cases h
                        exact (Le.rename [(0, 0)] _ _ _ ⟨rfl, trivial⟩ ⟨rfl, ⟨_, rfl, rfl⟩, trivial⟩ rfl rfl rfl rfl rfl)
                      | false =>
                        replace h := bif_f hc h
                        cases hc : (a2_kind == 6) with
                        | true =>
                          replace h := bif_t hc h
                          obtain rfl : (6 : Int) = vsp := (hvsp.trans (eq_of_beq hc)).symm
                          refine And.intro (by decide) ?_
                          cases h
                          exact (Le.rename [(0, 0)] _ _ _ ⟨rfl, trivial⟩ ⟨rfl, ⟨_, rfl, rfl⟩, trivial⟩ rfl rfl rfl rfl rfl)
                        | false =>
                          replace h := bif_f hc h
                          cases hc : (a2_kind == 7) with
                          | true =>
                            replace h := bif_t hc h
                            obtain rfl : (7 : Int) = vsp := (hvsp.trans (eq_of_beq hc)).symm
                            refine And.intro (by decide) ?_
                            cases h
                            exact (Le.rename [(0, 0)] _ _ _ ⟨rfl, trivial⟩ ⟨rfl, ⟨_, rfl, rfl⟩, trivial⟩ rfl rfl rfl rfl rfl)
                          | false =>
                            replace h := bif_f hc h
                            cases hc : (a2_kind == 8) with
                            | true =>
                              replace h := bif_t hc h
                              obtain rfl : (8 : Int) = vsp := (hvsp.trans (eq_of_beq hc)).symm
                              refine And.intro (by decide) ?_
                              cases h
                              exact (Le.rename [(0, 0)] _ _ _ ⟨rfl, trivial⟩ ⟨rfl, ⟨_, rfl, rfl⟩, trivial⟩ rfl rfl rfl rfl rfl)
                            | false =>
                              replace h := bif_f hc h
                              cases hc : (a2_kind == 9) with
                              | true =>
                                replace h := bif_t hc h
                                obtain rfl : (9 : Int) = vsp := (hvsp.trans (eq_of_beq hc)).symm
                                refine And.intro (by decide) ?_
                                cases h
                                exact (Le.rename [(0, 0)] _ _ _ ⟨rfl, trivial⟩ ⟨rfl, ⟨_, rfl, rfl⟩, trivial⟩ rfl rfl rfl rfl rfl)
                              | false =>
                                replace h := bif_f hc h
                                cases hc : (a2_kind == 10) with
                                | true =>
                                  replace h := bif_t hc h
                                  obtain rfl : (10 : Int) = vsp := (hvsp.trans (eq_of_beq hc)).symm
                                  refine And.intro (by decide) ?_
                                  cases h
                                  exact (Le.rename [(0, 0)] _ _ _ ⟨rfl, trivial⟩ ⟨rfl, ⟨_, rfl, rfl⟩, trivial⟩ rfl rfl rfl rfl rfl)
                                | false =>
                                  replace h := bif_f hc h
                                  cases hc : (a2_kind == 11) with
                                  | true =>
                                    replace h := bif_t hc h
                                    obtain rfl : (11 : Int) = vsp := (hvsp.trans (eq_of_beq hc)).symm
                                    refine And.intro (by decide) ?_
                                    cases h
                                    exact (Le.rename [(0, 0)] _ _ _ ⟨rfl, trivial⟩ ⟨rfl, ⟨_, rfl, rfl⟩, trivial⟩ rfl rfl rfl rfl rfl)
                                  | false =>
                                    replace h := bif_f hc h
                                    cases hc : (a2_kind == 12) with
                                    | true =>
                                      replace h := bif_t hc h
                                      obtain rfl : (12 : Int) = vsp := (hvsp.trans (eq_of_beq hc)).symm
                                      refine And.intro (by decide) ?_
                                      cases h
                                      exact (Le.rename [(0, 0)] _ _ _ ⟨rfl, trivial⟩ ⟨rfl, ⟨_, rfl, rfl⟩, trivial⟩ rfl rfl rfl rfl rfl)
                                    | false =>
                                      replace h := bif_f hc h
                                      cases h
            | false =>
              replace h := bif_f hb.symm h
              cases h
              exact (Le.rename [(0, 0)] _ _ _ ⟨rfl, trivial⟩ ⟨rfl, ⟨_, rfl, rfl⟩, trivial⟩ rfl rfl rfl rfl rfl)
          · show Tri _ _ _ _
            refine tri_le hle ?_
            refine tri_ret ?_
            obtain ⟨hj1, hk1⟩ := Prod.mk.inj (Option.some.inj h)
            subst hj1
            subst hk1
            unfold GivesO
            exact ⟨_, (Le.rename [(0, 0)] [(4, .s (.bool x22))] [(0, .box [.s (.str []), .s (.int .i64 0), .s (.nf), .s (.str [114, 111, 119]), .s (.int .i64 0), .s (.fn 57), .s (.str [115, 121, 109]), .s (.int .i64 0), .s (.fn 58), .s (.str [110, 117, 109]), .s (.int .i64 0), .s (.fn 59), .s (.str [116, 101, 120, 116]), .s (.int .i64 0), .s (.fn 60), .s (.str [102, 114, 97, 99]), .s (.int .i64 2), .s (.fn 57), .s (.str [114, 111, 111, 116]), .s (.int .i64 2), .s (.fn 57), .s (.str [115, 117, 98]), .s (.int .i64 2), .s (.fn 57), .s (.str [115, 117, 112]), .s (.int .i64 2), .s (.fn 57), .s (.str [98, 111, 116, 104]), .s (.int .i64 3), .s (.fn 57), .s (.str [97, 99, 99, 101, 110, 116]), .s (.int .i64 1), .s (.fn 61), .s (.str [102, 101, 110, 99, 101]), .s (.int .i64 1), .s (.fn 62), .s (.str [109, 97, 116, 114, 105, 120]), .s (.int .i64 0), .s (.fn 57), .s (.int .i64 o1_nodes)])] 1 ⟨rfl, trivial⟩ ⟨rfl, ⟨_, rfl, rfl⟩, trivial⟩ rfl rfl rfl rfl rfl), rfl, rfl, rfl, rfl, trivial⟩

/- (*vinculum/node.checker).node -/
def R_node_checker_node (n : Nat) (xs : List AV) (os : List Ob) (x : AV) (os' : List (Option Ob)) : Prop := ∃ (a0 : (Unit × Int)) (a1 : Nd) (a2 : Int) (y0 : Bool) (z0 : (Unit × Int)), m_node_checker_node n a0 a1 a2 = some (y0, z0) ∧ xs = [.op 0 0, .s (.pt (Nd.enc a1)), .s (.int .i64 a2)] ∧ os = [.box ((enc_node_checker a0).map .s)] ∧ x = .s (.bool y0) ∧ os' = [some (.box ((enc_node_checker z0).map .s))]
set_option maxHeartbeats 2000000 in
set_option maxRecDepth 100000 in
theorem step_node_checker_node (n : Nat) (ih : PSound Try.prog 44 (ospec (R_node_checker_node n))) : PSound Try.prog 44 (ospec (R_node_checker_node (n + 1))) := by
  have gok : ∀ f s, look? f [(63, S_node_checker_own), (44, ospec (R_node_checker_node n))] = some s → PSound Try.prog f s := look_all (by
    simp only [List.forall_mem_cons]
    exact ⟨ok_node_checker_own, ih, by simp⟩)
  refine PSound.withNil (osound tokW Try.call44 Try.func44 rfl (fun xs os x os' h => by obtain ⟨_, _, _, _, _, _, rfl, rfl, _, rfl⟩ := h; exact ⟨by show 3 ≤ 67; decide, by show 1 ≤ 1; decide⟩) 67 rfl ?_) _
  rintro xs os x os' w0 G0 B0 ⟨⟨_, o1_nodes⟩, ⟨a2_kind, a2_text, a2_cols, a2_kids⟩, a3, y0, z0, h, rfl, rfl, rfl, rfl⟩ _
  rw [m_node_checker_node] at h
  refine tri_seq ?_
  refine tri_region (by exact tokW) (by exact gok) [] [] rfl ?_
  show Tri _ _ _ _
  refine tri_seq ?_
  refine tri_region (by exact tokW) (by exact gok) [] [] rfl ?_
  show Tri _ _ _ _
  refine tri_seq ?_
  refine tri_seq ?_
  obtain ⟨⟨x4, x5⟩, hj, h⟩ := bind_out h
  refine tri_post ⟨ofL [(0, .op 0 0), (1, .s (.pt [.int .i64 a2_kind, .str a2_text, .int .i64 a2_cols, .sl 4 (Nd.encs a2_kids)])), (2, .s (.int .i64 a3)), (29, .s (.bool x4))], ofH [(0, .box [.s (.str []), .s (.int .i64 0), .s (.nf), .s (.str [114, 111, 119]), .s (.int .i64 0), .s (.fn 57), .s (.str [115, 121, 109]), .s (.int .i64 0), .s (.fn 58), .s (.str [110, 117, 109]), .s (.int .i64 0), .s (.fn 59), .s (.str [116, 101, 120, 116]), .s (.int .i64 0), .s (.fn 60), .s (.str [102, 114, 97, 99]), .s (.int .i64 2), .s (.fn 57), .s (.str [114, 111, 111, 116]), .s (.int .i64 2), .s (.fn 57), .s (.str [115, 117, 98]), .s (.int .i64 2), .s (.fn 57), .s (.str [115, 117, 112]), .s (.int .i64 2), .s (.fn 57), .s (.str [98, 111, 116, 104]), .s (.int .i64 3), .s (.fn 57), .s (.str [97, 99, 99, 101, 110, 116]), .s (.int .i64 1), .s (.fn 61), .s (.str [102, 101, 110, 99, 101]), .s (.int .i64 1), .s (.fn 62), .s (.str [109, 97, 116, 114, 105, 120]), .s (.int .i64 0), .s (.fn 57), .s (.int .i64 x5)])], 1⟩ ?_ (fun σ' hle => ?_)
  · replace h := hj
    refine tri_region (by exact tokW) (by exact gok) [] [20, 24] rfl ?_
    intro b hb
    cases b with
    | true =>
      replace h := bif_t hb.symm h
      intro b hb
      subst hb
      cases h
      exact (Le.rename [(0, 0)] _ _ _ ⟨rfl, rfl, rfl, rfl, trivial⟩ ⟨rfl, ⟨_, rfl, rfl⟩, trivial⟩ rfl rfl rfl rfl rfl)
    | false =>
      replace h := bif_f hb.symm h
      intro b hb
      cases b with
      | true =>
        replace h := bif_t hb.symm h
        cases h
        exact (Le.rename [(0, 0)] _ _ _ ⟨rfl, rfl, rfl, rfl, trivial⟩ ⟨rfl, ⟨_, rfl, rfl⟩, trivial⟩ rfl rfl rfl rfl rfl)
      | false =>
        replace h := bif_f hb.symm h
        obtain ⟨⟨y6, ⟨_, w7_nodes⟩⟩, hy6, h⟩ := bind_out h
        refine ⟨_, _, ⟨_, _, _, _, _, hy6, rfl, rfl, rfl, rfl⟩, ?_⟩
        cases h
        exact (Le.rename [(0, 0)] _ _ _ ⟨rfl, rfl, rfl, rfl, trivial⟩ ⟨rfl, ⟨_, rfl, rfl⟩, trivial⟩ rfl rfl rfl rfl rfl)
  · show Tri _ _ _ _
    refine tri_le hle ?_
    refine tri_cond rfl (fun hb => ?_) (fun hb => ?_)
    · replace h := bif_t hb h
      refine tri_seq ?_
      refine tri_region (by exact tokW) (by exact gok) [] [] rfl ?_
      show Tri _ _ _ _
      refine tri_ret ?_
      obtain ⟨hj1, hk1⟩ := Prod.mk.inj (Option.some.inj h)
      subst hj1
      subst hk1
      unfold GivesO
      exact ⟨_, (Le.rename [(0, 0)] [(6, .s (.bool false))] [(0, .box [.s (.str []), .s (.int .i64 0), .s (.nf), .s (.str [114, 111, 119]), .s (.int .i64 0), .s (.fn 57), .s (.str [115, 121, 109]), .s (.int .i64 0), .s (.fn 58), .s (.str [110, 117, 109]), .s (.int .i64 0), .s (.fn 59), .s (.str [116, 101, 120, 116]), .s (.int .i64 0), .s (.fn 60), .s (.str [102, 114, 97, 99]), .s (.int .i64 2), .s (.fn 57), .s (.str [114, 111, 111, 116]), .s (.int .i64 2), .s (.fn 57), .s (.str [115, 117, 98]), .s (.int .i64 2), .s (.fn 57), .s (.str [115, 117, 112]), .s (.int .i64 2), .s (.fn 57), .s (.str [98, 111, 116, 104]), .s (.int .i64 3), .s (.fn 57), .s (.str [97, 99, 99, 101, 110, 116]), .s (.int .i64 1), .s (.fn 61), .s (.str [102, 101, 110, 99, 101]), .s (.int .i64 1), .s (.fn 62), .s (.str [109, 97, 116, 114, 105, 120]), .s (.int .i64 0), .s (.fn 57), .s (.int .i64 x5)])] 1 ⟨rfl, trivial⟩ ⟨rfl, ⟨_, rfl, rfl⟩, trivial⟩ rfl rfl rfl rfl rfl), rfl, rfl, rfl, rfl, trivial⟩
    · replace h := bif_f hb h
      refine tri_skip ?_
      show Tri _ _ _ _
      refine tri_seq ?_
      refine tri_seq ?_
      refine tri_region (by exact tokW) (by exact gok) [] [34] rfl ?_
      intro n8 hn8
      obtain rfl : (a2_kids.length : Int) = n8 := (hn8.trans (congrArg (fun m : Nat => (m : Int)) (rlen Nd.encs_eq a2_kids))).symm
      show Tri _ _ _ _
      obtain ⟨fl, hl, ho1⟩ := bind_out h
      refine tri_fl (fl := fl) (fun z => match z with | x11 => ⟨ofL [], ofH [(0, .box [.s (.str []), .s (.int .i64 0), .s (.nf), .s (.str [114, 111, 119]), .s (.int .i64 0), .s (.fn 57), .s (.str [115, 121, 109]), .s (.int .i64 0), .s (.fn 58), .s (.str [110, 117, 109]), .s (.int .i64 0), .s (.fn 59), .s (.str [116, 101, 120, 116]), .s (.int .i64 0), .s (.fn 60), .s (.str [102, 114, 97, 99]), .s (.int .i64 2), .s (.fn 57), .s (.str [114, 111, 111, 116]), .s (.int .i64 2), .s (.fn 57), .s (.str [115, 117, 98]), .s (.int .i64 2), .s (.fn 57), .s (.str [115, 117, 112]), .s (.int .i64 2), .s (.fn 57), .s (.str [98, 111, 116, 104]), .s (.int .i64 3), .s (.fn 57), .s (.str [97, 99, 99, 101, 110, 116]), .s (.int .i64 1), .s (.fn 61), .s (.str [102, 101, 110, 99, 101]), .s (.int .i64 1), .s (.fn 62), .s (.str [109, 97, 116, 114, 105, 120]), .s (.int .i64 0), .s (.fn 57), .s (.int .i64 x11)])], 1⟩) ?_ (fun x11 σ' hz hle => ?_)
      · refine tri_block (tri_loopI (X := Nat × Int × Int) (fun y => match y with | (k, x9, x10) => ⟨ofL [(0, .op 0 0), (1, .s (.pt [.int .i64 a2_kind, .str a2_text, .int .i64 a2_cols, .sl 4 (Nd.encs a2_kids)])), (2, .s (.int .i64 a3)), (34, .s (.int .i64 (a2_kids.length : Int))), (35, .s (.int .i64 x10))], ofH [(0, .box [.s (.str []), .s (.int .i64 0), .s (.nf), .s (.str [114, 111, 119]), .s (.int .i64 0), .s (.fn 57), .s (.str [115, 121, 109]), .s (.int .i64 0), .s (.fn 58), .s (.str [110, 117, 109]), .s (.int .i64 0), .s (.fn 59), .s (.str [116, 101, 120, 116]), .s (.int .i64 0), .s (.fn 60), .s (.str [102, 114, 97, 99]), .s (.int .i64 2), .s (.fn 57), .s (.str [114, 111, 111, 116]), .s (.int .i64 2), .s (.fn 57), .s (.str [115, 117, 98]), .s (.int .i64 2), .s (.fn 57), .s (.str [115, 117, 112]), .s (.int .i64 2), .s (.fn 57), .s (.str [98, 111, 116, 104]), .s (.int .i64 3), .s (.fn 57), .s (.str [97, 99, 99, 101, 110, 116]), .s (.int .i64 1), .s (.fn 61), .s (.str [102, 101, 110, 99, 101]), .s (.int .i64 1), .s (.fn 62), .s (.str [109, 97, 116, 114, 105, 120]), .s (.int .i64 0), .s (.fn 57), .s (.int .i64 x9)])], 1⟩) (fun y => m_node_checker_node_l1 (m_node_checker_node n) a2_kind a2_kids a3 y.1 y.2.1 y.2.2 = some fl) (fun y => y.1) (n, x5, 0) hl ?_ ?_)
        · exact (Le.rename [(0, 0)] _ _ _ ⟨rfl, rfl, rfl, rfl, rfl, trivial⟩ ⟨rfl, ⟨_, rfl, rfl⟩, trivial⟩ rfl rfl rfl rfl rfl)
        · rintro ⟨k, x9, x10⟩ h
          cases k with
          | zero => cases h
          | succ k =>
            replace h : m_node_checker_node_l1 (m_node_checker_node n) a2_kind a2_kids a3 (k+1) x9 x10 = some fl := h
            rw [m_node_checker_node_l1] at h
            refine tri_seq ?_
            refine tri_region (by exact tokW) (by exact gok) [] [] rfl ?_
            show Tri _ _ _ _
            refine tri_seq ?_
            refine tri_cond rfl (fun hb => ?_) (fun hb => ?_)
            · replace h := bif_t hb h
              refine tri_skip ?_
              show Tri _ _ _ _
              refine tri_seq ?_
              refine tri_block ?_
              refine tri_seq ?_
              refine tri_region (by exact tokW) (by exact gok) [] [] rfl ?_
              show Tri _ _ _ _
              refine tri_seq ?_
              obtain ⟨⟨x12, x13⟩, hj, h⟩ := bind_out h
              refine tri_post ⟨ofL [(0, .op 0 0), (1, .s (.pt [.int .i64 a2_kind, .str a2_text, .int .i64 a2_cols, .sl 4 (Nd.encs a2_kids)])), (2, .s (.int .i64 a3)), (34, .s (.int .i64 (a2_kids.length : Int))), (35, .s (.int .i64 x10)), (65, .s (.bool x12))], ofH [(0, .box [.s (.str []), .s (.int .i64 0), .s (.nf), .s (.str [114, 111, 119]), .s (.int .i64 0), .s (.fn 57), .s (.str [115, 121, 109]), .s (.int .i64 0), .s (.fn 58), .s (.str [110, 117, 109]), .s (.int .i64 0), .s (.fn 59), .s (.str [116, 101, 120, 116]), .s (.int .i64 0), .s (.fn 60), .s (.str [102, 114, 97, 99]), .s (.int .i64 2), .s (.fn 57), .s (.str [114, 111, 111, 116]), .s (.int .i64 2), .s (.fn 57), .s (.str [115, 117, 98]), .s (.int .i64 2), .s (.fn 57), .s (.str [115, 117, 112]), .s (.int .i64 2), .s (.fn 57), .s (.str [98, 111, 116, 104]), .s (.int .i64 3), .s (.fn 57), .s (.str [97, 99, 99, 101, 110, 116]), .s (.int .i64 1), .s (.fn 61), .s (.str [102, 101, 110, 99, 101]), .s (.int .i64 1), .s (.fn 62), .s (.str [109, 97, 116, 114, 105, 120]), .s (.int .i64 0), .s (.fn 57), .s (.int .i64 x13)])], 1⟩ ?_ (fun σ' hle => ?_)
              · replace h := hj
                refine tri_drawn (by exact tokW) (by exact gok) (by exact mixed) [] [48, 53, 60] [25] rfl (by decide +kernel) ?_
                obtain ⟨⟨e14_kind, e14_text, e14_cols, e14_kids⟩, he14, h⟩ := bind_out h
                refine And.intro (at_ok Nd.encs_eq he14).1 ?_
                intro r15 hr15
                obtain rfl : [.int .i64 e14_kind, .str e14_text, .int .i64 e14_cols, .sl 4 (Nd.encs e14_kids)] = r15 := (hr15.trans (at_ok Nd.encs_eq he14).2.1).symm
                intro b hb
                cases b with
                | true =>
                  replace h := bif_t hb.symm h
                  cases h
                  exact (Le.rename [(0, 0)] _ _ _ ⟨rfl, rfl, rfl, rfl, rfl, rfl, trivial⟩ ⟨rfl, ⟨_, rfl, rfl⟩, trivial⟩ rfl rfl rfl rfl rfl)
                | false =>
                  replace h := bif_f hb.symm h
                  obtain ⟨⟨e16_kind, e16_text, e16_cols, e16_kids⟩, he16, h⟩ := bind_out h
                  refine And.intro (at_ok Nd.encs_eq he16).1 ?_
                  intro r17 hr17
                  obtain rfl : [.int .i64 e16_kind, .str e16_text, .int .i64 e16_cols, .sl 4 (Nd.encs e16_kids)] = r17 := (hr17.trans (at_ok Nd.encs_eq he16).2.1).symm
                  obtain ⟨⟨y18, ⟨_, w19_nodes⟩⟩, hy18, h⟩ := bind_out h
                  refine ⟨_, _, ⟨_, _, _, _, _, hy18, rfl, rfl, rfl, rfl⟩, ?_⟩
                  cases h
                  exact (Le.rename [(0, 0)] _ _ _ ⟨rfl, rfl, rfl, rfl, rfl, rfl, trivial⟩ ⟨rfl, ⟨_, rfl, rfl⟩, trivial⟩ rfl rfl rfl rfl rfl)
              · show Tri _ _ _ _
                refine tri_le hle ?_
                refine tri_cond rfl (fun hb => ?_) (fun hb => ?_)
                · replace h := bif_t hb h
                  refine tri_seq ?_
                  refine tri_region (by exact tokW) (by exact gok) [] [] rfl ?_
                  show Tri _ _ _ _
                  refine tri_ret ?_
                  cases h
                  replace h : some _ = some _ := ho1
                  obtain ⟨hj1, hk1⟩ := Prod.mk.inj (Option.some.inj h)
                  subst hj1
                  subst hk1
                  unfold GivesO
                  exact ⟨_, (Le.rename [(0, 0)] [(6, .s (.bool false))] [(0, .box [.s (.str []), .s (.int .i64 0), .s (.nf), .s (.str [114, 111, 119]), .s (.int .i64 0), .s (.fn 57), .s (.str [115, 121, 109]), .s (.int .i64 0), .s (.fn 58), .s (.str [110, 117, 109]), .s (.int .i64 0), .s (.fn 59), .s (.str [116, 101, 120, 116]), .s (.int .i64 0), .s (.fn 60), .s (.str [102, 114, 97, 99]), .s (.int .i64 2), .s (.fn 57), .s (.str [114, 111, 111, 116]), .s (.int .i64 2), .s (.fn 57), .s (.str [115, 117, 98]), .s (.int .i64 2), .s (.fn 57), .s (.str [115, 117, 112]), .s (.int .i64 2), .s (.fn 57), .s (.str [98, 111, 116, 104]), .s (.int .i64 3), .s (.fn 57), .s (.str [97, 99, 99, 101, 110, 116]), .s (.int .i64 1), .s (.fn 61), .s (.str [102, 101, 110, 99, 101]), .s (.int .i64 1), .s (.fn 62), .s (.str [109, 97, 116, 114, 105, 120]), .s (.int .i64 0), .s (.fn 57), .s (.int .i64 x13)])] 1 ⟨rfl, trivial⟩ ⟨rfl, ⟨_, rfl, rfl⟩, trivial⟩ rfl rfl rfl rfl rfl), rfl, rfl, rfl, rfl, trivial⟩
                · replace h := bif_f hb h
                  refine tri_skip ?_
                  show Tri _ _ _ _
                  refine tri_region (by exact tokW) (by exact gok) [] [] rfl ?_
                  refine ⟨(k, x13, IntKind.i64.wrap (x10 + 1)), h, (Le.rename [(0, 0)] _ _ _ ⟨rfl, rfl, rfl, rfl, rfl, trivial⟩ ⟨rfl, ⟨_, rfl, rfl⟩, trivial⟩ rfl rfl rfl rfl rfl), Nat.lt_succ_self k⟩
            · replace h := bif_f hb h
              refine tri_exit ?_
              cases h
              exact ⟨_, rfl, (Le.rename [(0, 0)] _ _ _ trivial ⟨rfl, ⟨_, rfl, rfl⟩, trivial⟩ rfl rfl rfl rfl rfl)⟩
      · subst hz
        replace h := ho1
        show Tri _ _ _ _
        refine tri_le hle ?_
        refine tri_seq ?_
        refine tri_region (by exact tokW) (by exact gok) [] [] rfl ?_
        show Tri _ _ _ _
        refine tri_ret ?_
        obtain ⟨hj1, hk1⟩ := Prod.mk.inj (Option.some.inj h)
        subst hj1
        subst hk1
        unfold GivesO
        exact ⟨_, (Le.rename [(0, 0)] [(6, .s (.bool true))] [(0, .box [.s (.str []), .s (.int .i64 0), .s (.nf), .s (.str [114, 111, 119]), .s (.int .i64 0), .s (.fn 57), .s (.str [115, 121, 109]), .s (.int .i64 0), .s (.fn 58), .s (.str [110, 117, 109]), .s (.int .i64 0), .s (.fn 59), .s (.str [116, 101, 120, 116]), .s (.int .i64 0), .s (.fn 60), .s (.str [102, 114, 97, 99]), .s (.int .i64 2), .s (.fn 57), .s (.str [114, 111, 111, 116]), .s (.int .i64 2), .s (.fn 57), .s (.str [115, 117, 98]), .s (.int .i64 2), .s (.fn 57), .s (.str [115, 117, 112]), .s (.int .i64 2), .s (.fn 57), .s (.str [98, 111, 116, 104]), .s (.int .i64 3), .s (.fn 57), .s (.str [97, 99, 99, 101, 110, 116]), .s (.int .i64 1), .s (.fn 61), .s (.str [102, 101, 110, 99, 101]), .s (.int .i64 1), .s (.fn 62), .s (.str [109, 97, 116, 114, 105, 120]), .s (.int .i64 0), .s (.fn 57), .s (.int .i64 x11)])] 1 ⟨rfl, trivial⟩ ⟨rfl, ⟨_, rfl, rfl⟩, trivial⟩ rfl rfl rfl rfl rfl), rfl, rfl, rfl, rfl, trivial⟩
theorem all_node_checker_node : ∀ n, PSound Try.prog 44 (ospec (R_node_checker_node n)) := by
  intro n
  induction n with
  | zero => exact osound_none Try.call44 (fun xs os x os' h => by obtain ⟨_, _, _, _, _, h, _⟩ := h; cases h) _
  | succ n ih => exact step_node_checker_node n ih
def S_node_checker_node : PSpec := ospec (fun xs os x os' => ∃ n, R_node_checker_node n xs os x os')
theorem ok_node_checker_node : PSound Try.prog 44 S_node_checker_node := osound_all all_node_checker_node _

/- vinculum/node.Valid -/
def R_node_Valid (n : Nat) (xs : List AV) (r : Ret) : Prop := ∃ (a0 : Nd) (y0 : Bool), m_node_Valid n a0 = some y0 ∧ xs = [.agg ((Nd.enc a0).map .s)] ∧ r = .val (.s (.bool y0))
def S_node_Valid : PSpec := pspec fun xs r => ∃ n, R_node_Valid n xs r
set_option maxHeartbeats 2000000 in
set_option maxRecDepth 100000 in
theorem ok_node_Valid : PSound Try.prog 30 S_node_Valid := by
  have gok : ∀ f s, look? f [(43, S_node_kinds), (44, S_node_checker_node)] = some s → PSound Try.prog f s := look_all (by
    simp only [List.forall_mem_cons]
    exact ⟨ok_node_kinds, ok_node_checker_node, by simp⟩)
  refine psound tokW Try.call30 Try.func30 rfl (fun xs r h => by obtain ⟨n, _, _, _, rfl, _⟩ := h; show 1 ≤ 14; decide) 14 rfl ?_
  rintro xs r w0 G0 ⟨n, ⟨n1_kind, n1_text, n1_cols, n1_kids⟩, y0, h, rfl, rfl⟩ _
  rw [m_node_Valid] at h
  refine tri_seq ?_
  refine tri_region (by exact tokW) (by exact gok) [] [] rfl ?_
  show Tri _ _ _ _
  refine tri_seq ?_
  refine tri_region (by exact tokW) (by exact gok) [6] [] rfl ?_
  obtain ⟨_, hy2, h⟩ := bind_out h
  refine ⟨_, ⟨_, hy2, rfl, rfl⟩, ?_⟩
  show Tri _ _ _ _
  refine tri_seq ?_
  obtain ⟨x3, hj, h⟩ := bind_out h
  refine tri_post ⟨ofL [(2, .s (.bool x3))], fun _ => none, 0⟩ ?_ (fun σ' hle => ?_)
  · replace h := hj
    refine tri_region (by exact tokW) (by exact gok) [] [10] rfl ?_
    intro b hb
    cases b with
    | true =>
      replace h := bif_t hb.symm h
      obtain ⟨⟨y4, ⟨_, w5_nodes⟩⟩, hy4, h⟩ := bind_out h
      refine ⟨_, _, ⟨_, _, _, _, _, _, hy4, rfl, rfl, rfl, rfl⟩, ?_⟩
      cases h
      exact (Le.rename [] _ [] 0 ⟨rfl, trivial⟩ trivial rfl rfl rfl rfl rfl)
    | false =>
      replace h := bif_f hb.symm h
      cases h
      exact (Le.rename [] _ [] 0 ⟨rfl, trivial⟩ trivial rfl rfl rfl rfl rfl)
  · show Tri _ _ _ _
    refine tri_le hle ?_
    refine tri_ret ?_
    have hy := Option.some.inj h
    subst hy
    unfold Gives
    exact ⟨_, Le.refl _ _, rfl, rfl⟩

/- vinculum/diff.valid -/
def R_diff_valid (n : Nat) (xs : List AV) (r : Ret) : Prop := ∃ (a0 : Nd) (a1 : Nd) (y0 : Bool), m_diff_valid n a0 a1 = some y0 ∧ xs = [.agg ((Nd.enc a0).map .s), .agg ((Nd.enc a1).map .s)] ∧ r = .val (.s (.bool y0))
def S_diff_valid : PSpec := pspec fun xs r => ∃ n, R_diff_valid n xs r
set_option maxHeartbeats 2000000 in
set_option maxRecDepth 100000 in
theorem ok_diff_valid : PSound Try.prog 20 S_diff_valid := by
  have gok : ∀ f s, look? f [(30, S_node_Valid)] = some s → PSound Try.prog f s := look_all (by
    simp only [List.forall_mem_cons]
    exact ⟨ok_node_Valid, by simp⟩)
  refine psound tokW Try.call20 Try.func20 rfl (fun xs r h => by obtain ⟨n, _, _, _, _, rfl, _⟩ := h; show 2 ≤ 11; decide) 11 rfl ?_
  rintro xs r w0 G0 ⟨n, ⟨a1_kind, a1_text, a1_cols, a1_kids⟩, ⟨b2_kind, b2_text, b2_cols, b2_kids⟩, y0, h, rfl, rfl⟩ _
  rw [m_diff_valid] at h
  refine tri_seq ?_
  refine tri_region (by exact tokW) (by exact gok) [] [] rfl ?_
  show Tri _ _ _ _
  refine tri_seq ?_
  obtain ⟨x3, hj, h⟩ := bind_out h
  refine tri_post ⟨ofL [(4, .s (.bool x3))], fun _ => none, 0⟩ ?_ (fun σ' hle => ?_)
  · replace h := hj
    refine tri_region (by exact tokW) (by exact gok) [] [7] rfl ?_
    obtain ⟨y4, hy4, h⟩ := bind_out h
    refine ⟨_, ⟨_, _, _, hy4, rfl, rfl⟩, ?_⟩
    intro b hb
    cases b with
    | true =>
      replace h := bif_t hb.symm h
      obtain ⟨y5, hy5, h⟩ := bind_out h
      refine ⟨_, ⟨_, _, _, hy5, rfl, rfl⟩, ?_⟩
      cases h
      exact (Le.forget _ ⟨rfl, trivial⟩)
    | false =>
      replace h := bif_f hb.symm h
      cases h
      exact (Le.forget _ ⟨rfl, trivial⟩)
  · show Tri _ _ _ _
    refine tri_le hle ?_
    refine tri_ret ?_
    have hy := Option.some.inj h
    subst hy
    unfold Gives
    exact ⟨_, Le.refl _ _, rfl, rfl⟩

/- vinculum/node.Count$1 -/
def R_node_Count_1 (xs : List AV) (os : List Ob) (x : AV) (os' : List (Option Ob)) : Prop := ∃ (a0 : Int) (a1 : Int) (z0 : Int), m_node_Count_1 a0 a1 = some z0 ∧ xs = [.s (.int .i64 a0), .op 0 0] ∧ os = [.box (((irow .i64) a1).map .s)] ∧ x = .tup [] ∧ os' = [some (.box (((irow .i64) z0).map .s))]
def S_node_Count_1 : PSpec := ospec (fun xs os x os' => R_node_Count_1 xs os x os')
set_option maxHeartbeats 2000000 in
set_option maxRecDepth 100000 in
theorem ok_node_Count_1 : PSound Try.prog 42 S_node_Count_1 := by
  have gok : ∀ (f : Nat) (s : PSpec), (fun _ => none : Nat → Option PSpec) f = some s → PSound Try.prog f s := fun _ _ h => by cases h
  refine PSound.withNil (osound tokW Try.call42 Try.func42 rfl (fun xs os x os' h => by obtain ⟨_, _, _, _, rfl, rfl, _, rfl⟩ := h; exact ⟨by show 2 ≤ 5; decide, by show 1 ≤ 1; decide⟩) 5 rfl ?_) _
  rintro xs os x os' w0 G0 B0 ⟨a1, o2, z0, h, rfl, rfl, rfl, rfl⟩ _
  rw [m_node_Count_1] at h
  refine tri_region (by exact tokW) (by exact gok) [] [] rfl ?_
  have hy := Option.some.inj h
  subst hy
  unfold GivesO
  exact ⟨_, (Le.rename [(0, 0)] [] [(0, .box [.s (.int .i64 (IntKind.i64.wrap (o2 + 1)))])] 1 trivial ⟨rfl, ⟨_, rfl, rfl⟩, trivial⟩ rfl rfl rfl rfl rfl), rfl, rfl, rfl, rfl, trivial⟩

end Go.Proofs.Ytplekejomocalaa
