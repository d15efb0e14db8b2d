/-
  THE CODEC: models and walks, printed by gw.py.
-/
import Derived.Test.YtjjljekedgdnnaaCodWA
set_option linter.unusedVariables false
set_option linter.unusedSimpArgs false
namespace Go.Proofs.Ytjjljekedgdnnaa
open Go.Abs

/- (*vinculum/codec.reader).value$1 -/
def m36_l1 (F36 : Int → (List UInt8) → Option (CV × Bool × (List UInt8))) (a1 : Int) (y4 : Int) : Nat → (List UInt8) → Int → (List CV) → Option (Fl (CV × Bool × (List UInt8)) ((List UInt8) × (List CV)))
| 0, _, _, _ => none
| k+1, x13, x17, l18 =>
  bif decide (x17 < y4) then (
    (F36 (IntKind.i64.wrap (a1 + 1)) x13).bind fun ⟨⟨y21_kind, y21_int, y21_text, y21_list⟩, y22, w23⟩ =>
    bif (!y22) then (
      some (.ret (CV.mk 0 0 [] [], false, w23))
    ) else (
      req (l18.length + [CV.mk y21_kind y21_int y21_text y21_list].length ≤ 4294967296) <|
      m36_l1 F36 a1 y4 k w23 (IntKind.u64.wrap (x17 + 1)) (l18 ++ [CV.mk y21_kind y21_int y21_text y21_list])
    )
  ) else (
    some (.go (x13, l18))
  )
def m36 : Nat → Int → (List UInt8) → Option (CV × Bool × (List UInt8))
| 0, _, _ => none
| n+1, a1, o2 =>
  bif decide (64 < a1) then (
    some (CV.mk 0 0 [] [], false, o2)
  ) else (
    (m37 n o2).bind fun ⟨y3, y4, y5, w6⟩ =>
    bif (!y5) then (
      some (CV.mk 0 0 [] [], false, w6)
    ) else (
      bif (y3 == 1) then (
        (
          bif ((bitOp .and .u64 y4 1) == 1) then (
            some (IntKind.i64.wrap ((IntKind.i64.wrap (0 - (IntKind.i64.wrap (y4.fdiv (2 ^ (min (1 : Int).toNat IntKind.u64.bits)))))) - 1))
          ) else (
            some (IntKind.i64.wrap (y4.fdiv (2 ^ (min (1 : Int).toNat IntKind.u64.bits))))
          )
         : Option (Int)).bind fun x7 =>
        some (CV.mk y3 x7 [] [], true, w6)
      ) else (
        bif (y3 == 2) then (
          (m38 w6 y4).bind fun ⟨y8, y9, w10⟩ =>
          some (CV.mk y3 0 y8 [], y9, w10)
        ) else (
          bif decide ((IntKind.u64.wrap (w6.length : Int)) < y4) then (
            some (CV.mk 0 0 [] [], false, w6)
          ) else (
            (m36_l1 (m36 n) a1 y4 n w6 0 []).bind fun fl => match fl with
            | .ret r => some r
            | .go ⟨x19, l20⟩ =>
              some (CV.mk y3 0 [] l20, true, x19)
          )
        )
      )
    )
  )
def R36 (n : Nat) (xs : List AV) (os : List Ob) (x : AV) (os' : List (Option Ob)) : Prop := ∃ (a0 : Int) (a1 : (List UInt8)) (y0 : CV) (y1 : Bool) (z1 : (List UInt8)), m36 n a0 a1 = some (y0, y1, z1) ∧ xs = [.s (.int .i64 a0), .op 0 0, .op 2 0] ∧ os = [.box [.op 1 0], .box ((enc70 a1).map .s), .box [.clo 36 [.op 0 0, .op 2 0]]] ∧ x = .tup [.agg ((CV.enc y0).map .s), .s (.bool y1)] ∧ os' = [some (.box [.op 1 0]), some (.box ((enc70 z1).map .s)), some (.box [.clo 36 [.op 0 0, .op 2 0]])]
set_option maxHeartbeats 2000000 in
theorem step36 (n : Nat) (ih : PSound Try.prog 36 (ospec (R36 n))) : PSound Try.prog 36 (ospec (R36 (n + 1))) := by
  have gok : ∀ f s, look? f [(37, S37), (38, S38), (36, ospec (R36 n))] = some s → PSound Try.prog f s := look_all (by
    simp only [List.forall_mem_cons]
    exact ⟨ok37, ok38, ih, by simp⟩)
  refine PSound.withNil (osound tokW Try.call36 Try.func36 rfl (fun xs os x os' h => by obtain ⟨_, _, _, _, _, _, rfl, rfl, _, rfl⟩ := h; exact ⟨by show 3 ≤ 83; decide, by show 3 ≤ 3; decide⟩) 83 rfl ?_) _
  rintro xs os x os' w0 G0 B0 ⟨a1, o2, y0, y1, z1, h, rfl, rfl, rfl, rfl⟩ _
  refine tri_seq ?_
  refine tri_region tokW gok [4] [] rfl ?_
  show Tri _ _ _ _
  refine tri_seq ?_
  refine tri_seq ?_
  refine tri_region tokW gok [] [] rfl ?_
  show Tri _ _ _ _
  refine tri_cond rfl (fun hb => ?_) (fun hb => ?_)
  · replace h := bif_t hb h
    refine tri_seq ?_
    refine tri_region tokW gok [] [] rfl ?_
    show Tri _ _ _ _
    refine tri_ret ?_
    obtain ⟨hj1, hk1⟩ := Prod.mk.inj (Option.some.inj h)
    subst hj1
    obtain ⟨hj2, hk2⟩ := Prod.mk.inj hk1
    subst hj2
    subst hk2
    unfold GivesO
    exact ⟨_, (Le.rename [(0, 0), (1, 1), (2, 2), (3, 3)] [(4, .op 3 0), (5, .s (.bool false))] [(0, .box [.op 1 0]), (1, .box [.s (.sl 1 ((List.map brow) o2))]), (2, .box [.clo 36 [.op 0 0, .op 2 0]]), (3, .box [.s (.int .i64 0), .s (.int .i64 0), .s (.str []), .nl 4])] 4 ⟨rfl, rfl, trivial⟩ ⟨rfl, ⟨_, rfl, rfl⟩, rfl, ⟨_, rfl, rfl⟩, rfl, ⟨_, rfl, rfl⟩, rfl, ⟨_, rfl, rfl⟩, trivial⟩ rfl rfl rfl rfl rfl), rfl, rfl, rfl, rfl, rfl, rfl, rfl, rfl, trivial⟩
  · replace h := bif_f hb h
    refine tri_skip ?_
    show Tri _ _ _ _
    refine tri_seq ?_
    refine tri_region tokW gok [] [] rfl ?_
    obtain ⟨⟨y3, y4, y5, w6⟩, hy3, h⟩ := bind_out h
    refine ⟨_, _, ⟨_, _, _, _, _, _, hy3, rfl, rfl, rfl, rfl⟩, ?_⟩
    show Tri _ _ _ _
    refine tri_seq ?_
    refine tri_seq ?_
    refine tri_region tokW gok [] [] rfl ?_
    show Tri _ _ _ _
    refine tri_cond rfl (fun hb => ?_) (fun hb => ?_)
    · replace h := bif_t hb h
      refine tri_seq ?_
      refine tri_region tokW gok [] [] rfl ?_
      show Tri _ _ _ _
      refine tri_ret ?_
      obtain ⟨hj1, hk1⟩ := Prod.mk.inj (Option.some.inj h)
      subst hj1
      obtain ⟨hj2, hk2⟩ := Prod.mk.inj hk1
      subst hj2
      subst hk2
      unfold GivesO
      exact ⟨_, (Le.rename [(0, 0), (1, 1), (2, 2), (3, 3)] [(4, .op 3 0), (5, .s (.bool false))] [(0, .box [.op 1 0]), (1, .box [.s (.sl 1 ((List.map brow) w6))]), (2, .box [.clo 36 [.op 0 0, .op 2 0]]), (3, .box [.s (.int .i64 0), .s (.int .i64 0), .s (.str []), .nl 4])] 4 ⟨rfl, rfl, trivial⟩ ⟨rfl, ⟨_, rfl, rfl⟩, rfl, ⟨_, rfl, rfl⟩, rfl, ⟨_, rfl, rfl⟩, rfl, ⟨_, rfl, rfl⟩, trivial⟩ rfl rfl rfl rfl rfl), rfl, rfl, rfl, rfl, rfl, rfl, rfl, rfl, trivial⟩
    · replace h := bif_f hb h
      refine tri_skip ?_
      show Tri _ _ _ _
      refine tri_seq ?_
      refine tri_region tokW gok [9] [] rfl ?_
      show Tri _ _ _ _
      refine tri_seq ?_
      refine tri_seq ?_
      refine tri_region tokW gok [] [] rfl ?_
      show Tri _ _ _ _
      refine tri_block ?_
      refine tri_seq ?_
      refine tri_region tokW gok [] [] rfl ?_
      show Tri _ _ _ _
      refine tri_cond rfl (fun hb => ?_) (fun hb => ?_)
      · replace h := bif_t hb h
        refine tri_seq ?_
        refine tri_region tokW gok [] [] rfl ?_
        refine And.intro (by decide) ?_
        show Tri _ _ _ _
        refine tri_seq ?_
        refine tri_seq ?_
        refine tri_region tokW gok [] [] rfl ?_
        show Tri _ _ _ _
        obtain ⟨x7, hj, h⟩ := bind_out h
        refine tri_post ⟨ofL [(4, .op 3 0), (9, .op 4 0)], ofH [(0, .box [.op 1 0]), (1, .box [.s (.sl 1 ((List.map brow) w6))]), (2, .box [.clo 36 [.op 0 0, .op 2 0]]), (3, .box [.s (.int .i64 0), .s (.int .i64 0), .s (.str []), .nl 4]), (4, .box [.s (.int .i64 y3), .s (.int .i64 x7), .s (.str []), .nl 4])], 5⟩ ?_ (fun σ' hle => ?_)
        · replace h := hj
          refine tri_cond rfl (fun hb => ?_) (fun hb => ?_)
          · replace h := bif_t hb h
            refine tri_region tokW gok [] [] rfl ?_
            cases h
            exact (Le.rename [(0, 0), (1, 1), (2, 2), (3, 3), (4, 4)] _ _ _ ⟨rfl, rfl, trivial⟩ ⟨rfl, ⟨_, rfl, rfl⟩, rfl, ⟨_, rfl, rfl⟩, rfl, ⟨_, rfl, rfl⟩, rfl, ⟨_, rfl, rfl⟩, rfl, ⟨_, rfl, rfl⟩, trivial⟩ rfl rfl rfl rfl rfl)
          · replace h := bif_f hb h
            refine tri_skip ?_
            cases h
            exact (Le.rename [(0, 0), (1, 1), (2, 2), (3, 3), (4, 4)] _ _ _ ⟨rfl, rfl, trivial⟩ ⟨rfl, ⟨_, rfl, rfl⟩, rfl, ⟨_, rfl, rfl⟩, rfl, ⟨_, rfl, rfl⟩, rfl, ⟨_, rfl, rfl⟩, rfl, ⟨_, rfl, rfl⟩, trivial⟩ rfl rfl rfl rfl rfl)
        · show Tri _ _ _ _
          refine tri_le hle ?_
          refine tri_seq ?_
          refine tri_region tokW gok [] [] rfl ?_
          show Tri _ _ _ _
          refine tri_ret ?_
          obtain ⟨hj1, hk1⟩ := Prod.mk.inj (Option.some.inj h)
          subst hj1
          obtain ⟨hj2, hk2⟩ := Prod.mk.inj hk1
          subst hj2
          subst hk2
          unfold GivesO
          exact ⟨_, (Le.rename [(0, 0), (1, 1), (2, 2), (3, 3)] [(4, .op 3 0), (5, .s (.bool true))] [(0, .box [.op 1 0]), (1, .box [.s (.sl 1 ((List.map brow) w6))]), (2, .box [.clo 36 [.op 0 0, .op 2 0]]), (3, .box [.s (.int .i64 y3), .s (.int .i64 x7), .s (.str []), .nl 4])] 4 ⟨rfl, rfl, trivial⟩ ⟨rfl, ⟨_, rfl, rfl⟩, rfl, ⟨_, rfl, rfl⟩, rfl, ⟨_, rfl, rfl⟩, rfl, ⟨_, rfl, rfl⟩, trivial⟩ rfl rfl rfl rfl rfl), rfl, rfl, rfl, rfl, rfl, rfl, rfl, rfl, trivial⟩
      · replace h := bif_f hb h
        refine tri_seq ?_
        refine tri_region tokW gok [] [] rfl ?_
        show Tri _ _ _ _
        refine tri_cond rfl (fun hb => ?_) (fun hb => ?_)
        · replace h := bif_t hb h
          refine tri_seq ?_
          refine tri_region tokW gok [] [] rfl ?_
          obtain ⟨⟨y8, y9, w10⟩, hy8, h⟩ := bind_out h
          refine ⟨_, _, ⟨_, _, _, _, _, hy8, rfl, rfl, rfl, rfl⟩, ?_⟩
          show Tri _ _ _ _
          refine tri_seq ?_
          refine tri_region tokW gok [] [] rfl ?_
          show Tri _ _ _ _
          refine tri_ret ?_
          obtain ⟨hj1, hk1⟩ := Prod.mk.inj (Option.some.inj h)
          subst hj1
          obtain ⟨hj2, hk2⟩ := Prod.mk.inj hk1
          subst hj2
          subst hk2
          unfold GivesO
          exact ⟨_, (Le.rename [(0, 0), (1, 1), (2, 2), (3, 3)] [(4, .op 3 0), (5, .s (.bool y9))] [(0, .box [.op 1 0]), (1, .box [.s (.sl 1 ((List.map brow) w10))]), (2, .box [.clo 36 [.op 0 0, .op 2 0]]), (3, .box [.s (.int .i64 y3), .s (.int .i64 0), .s (.str y8), .nl 4])] 4 ⟨rfl, rfl, trivial⟩ ⟨rfl, ⟨_, rfl, rfl⟩, rfl, ⟨_, rfl, rfl⟩, rfl, ⟨_, rfl, rfl⟩, rfl, ⟨_, rfl, rfl⟩, trivial⟩ rfl rfl rfl rfl rfl), rfl, rfl, rfl, rfl, rfl, rfl, rfl, rfl, trivial⟩
        · replace h := bif_f hb h
          refine tri_skip ?_
          show Tri _ _ _ _
          refine tri_seq ?_
          refine tri_seq ?_
          refine tri_region tokW gok [] [58] rfl ?_
          intro n11 hn11
          obtain rfl : (w6.length : Int) = n11 := (hn11.trans (congrArg (fun m : Nat => (m : Int)) (rlen (fun _ => rfl) w6))).symm
          show Tri _ _ _ _
          refine tri_cond rfl (fun hb => ?_) (fun hb => ?_)
          · replace h := bif_t hb h
            refine tri_seq ?_
            refine tri_region tokW gok [] [] rfl ?_
            show Tri _ _ _ _
            refine tri_ret ?_
            obtain ⟨hj1, hk1⟩ := Prod.mk.inj (Option.some.inj h)
            subst hj1
            obtain ⟨hj2, hk2⟩ := Prod.mk.inj hk1
            subst hj2
            subst hk2
            unfold GivesO
            exact ⟨_, (Le.rename [(0, 0), (1, 1), (2, 2), (3, 3)] [(4, .op 3 0), (5, .s (.bool false))] [(0, .box [.op 1 0]), (1, .box [.s (.sl 1 ((List.map brow) w6))]), (2, .box [.clo 36 [.op 0 0, .op 2 0]]), (3, .box [.s (.int .i64 0), .s (.int .i64 0), .s (.str []), .nl 4])] 4 ⟨rfl, rfl, trivial⟩ ⟨rfl, ⟨_, rfl, rfl⟩, rfl, ⟨_, rfl, rfl⟩, rfl, ⟨_, rfl, rfl⟩, rfl, ⟨_, rfl, rfl⟩, trivial⟩ rfl rfl rfl rfl rfl), rfl, rfl, rfl, rfl, rfl, rfl, rfl, rfl, trivial⟩
          · replace h := bif_f hb h
            refine tri_skip ?_
            show Tri _ _ _ _
            refine tri_seq ?_
            refine tri_seq ?_
            refine tri_region tokW gok [] [] rfl ?_
            show Tri _ _ _ _
            obtain ⟨fl, hl, ho1⟩ := bind_out h
            refine tri_fl (fl := fl) (fun z => match z with | ⟨x19, l20⟩ => ⟨ofL [(4, .op 3 0), (9, .op 4 0)], ofH [(0, .box [.op 1 0]), (1, .box [.s (.sl 1 ((List.map brow) x19))]), (2, .box [.clo 36 [.op 0 0, .op 2 0]]), (3, .box [.s (.int .i64 0), .s (.int .i64 0), .s (.str []), .nl 4]), (4, .box [.s (.int .i64 y3), .s (.int .i64 0), .s (.str []), .orow 5]), (5, .row 30 4 (CV.encs l20))], 6⟩) ?_ (fun z σ' hz hle => ?_)
            · refine tri_block (tri_loopI (X := Nat × (List UInt8) × Int × (List CV)) (fun y => match y with | (k, x13, x17, l18) => ⟨ofL [(0, .s (.int .i64 a1)), (2, .op 2 0), (4, .op 3 0), (9, .op 4 0), (62, .s (.int .u64 y4)), (63, .s (.int .u64 x17))], ofH [(0, .box [.op 1 0]), (1, .box [.s (.sl 1 ((List.map brow) x13))]), (2, .box [.clo 36 [.op 0 0, .op 2 0]]), (3, .box [.s (.int .i64 0), .s (.int .i64 0), .s (.str []), .nl 4]), (4, .box [.s (.int .i64 y3), .s (.int .i64 0), .s (.str []), .orow 5]), (5, .row 30 4 (CV.encs l18))], 6⟩) (fun y => m36_l1 (m36 n) a1 y4 y.1 y.2.1 y.2.2.1 y.2.2.2 = some fl) (fun y => y.1) (n, w6, 0, []) hl ?_ ?_)
              · exact (Le.trans (Le.trans (Le.rename [(0, 0), (1, 1), (2, 2), (3, 3), (4, 4)] [(0, .s (.int .i64 a1)), (2, .op 2 0), (4, .op 3 0), (9, .op 4 0), (62, .s (.int .u64 y4)), (63, .s (.int .u64 0))] [(0, .box [.op 1 0]), (1, .box [.s (.sl 1 ((List.map brow) w6))]), (2, .box [.clo 36 [.op 0 0, .op 2 0]]), (3, .box [.s (.int .i64 0), .s (.int .i64 0), .s (.str []), .nl 4]), (4, .box [.s (.int .i64 y3), .s (.int .i64 0), .s (.str []), .nl 4])] 5 ⟨rfl, rfl, rfl, rfl, rfl, rfl, trivial⟩ ⟨rfl, ⟨_, rfl, rfl⟩, rfl, ⟨_, rfl, rfl⟩, rfl, ⟨_, rfl, rfl⟩, rfl, ⟨_, rfl, rfl⟩, rfl, ⟨_, rfl, rfl⟩, trivial⟩ rfl rfl rfl rfl rfl) (Le.takeNil 4 3 30 rfl rfl (by decide))) (Le.rename [(0, 0), (1, 1), (2, 2), (3, 3), (4, 4), (5, 5)] _ _ _ ⟨rfl, rfl, rfl, rfl, rfl, rfl, trivial⟩ ⟨rfl, ⟨_, rfl, rfl⟩, rfl, ⟨_, rfl, rfl⟩, rfl, ⟨_, rfl, rfl⟩, rfl, ⟨_, rfl, rfl⟩, rfl, ⟨_, rfl, rfl⟩, rfl, ⟨_, rfl, congrArg (Ob.row 30 4) (by simp [List.map_append, List.map_take, List.map_drop, irow, brow, b8of_row, List.map_cons, List.map_nil, b8of_wrap, CV.encs_eq, CV.enc, enc61, enc66, enc70])⟩, trivial⟩ rfl rfl rfl rfl rfl))
              · rintro ⟨k, x13, x17, l18⟩ h
                cases k with
                | zero => cases h
                | succ k =>
                  refine tri_seq ?_
                  refine tri_region tokW gok [] [] rfl ?_
                  show Tri _ _ _ _
                  refine tri_seq ?_
                  refine tri_cond rfl (fun hb => ?_) (fun hb => ?_)
                  · replace h := bif_t hb h
                    refine tri_skip ?_
                    show Tri _ _ _ _
                    refine tri_seq ?_
                    refine tri_block ?_
                    refine tri_seq ?_
                    refine tri_region tokW gok [10] [] rfl ?_
                    obtain ⟨⟨⟨y21_kind, y21_int, y21_text, y21_list⟩, y22, w23⟩, hy21, h⟩ := bind_out h
                    refine ⟨_, _, ⟨_, _, _, _, _, hy21, rfl, rfl, rfl, rfl⟩, ?_⟩
                    show Tri _ _ _ _
                    refine tri_le (Le.giveBox 6 [.int .i64 y21_kind, .int .i64 y21_int, .str y21_text, .sl 4 (CV.encs y21_list)] rfl rfl) ?_
                    refine tri_seq ?_
                    refine tri_seq ?_
                    refine tri_region tokW gok [] [] rfl ?_
                    show Tri _ _ _ _
                    refine tri_cond rfl (fun hb => ?_) (fun hb => ?_)
                    · replace h := bif_t hb h
                      refine tri_seq ?_
                      refine tri_region tokW gok [] [] rfl ?_
                      show Tri _ _ _ _
                      refine tri_ret ?_
                      cases h
                      replace h : some _ = some _ := ho1
                      obtain ⟨hj1, hk1⟩ := Prod.mk.inj (Option.some.inj h)
                      subst hj1
                      obtain ⟨hj2, hk2⟩ := Prod.mk.inj hk1
                      subst hj2
                      subst hk2
                      unfold GivesO
                      exact ⟨_, (Le.rename [(0, 0), (1, 1), (2, 2), (3, 3)] [(4, .op 3 0), (5, .s (.bool false))] [(0, .box [.op 1 0]), (1, .box [.s (.sl 1 ((List.map brow) w23))]), (2, .box [.clo 36 [.op 0 0, .op 2 0]]), (3, .box [.s (.int .i64 0), .s (.int .i64 0), .s (.str []), .nl 4])] 4 ⟨rfl, rfl, trivial⟩ ⟨rfl, ⟨_, rfl, rfl⟩, rfl, ⟨_, rfl, rfl⟩, rfl, ⟨_, rfl, rfl⟩, rfl, ⟨_, rfl, rfl⟩, trivial⟩ rfl rfl rfl rfl rfl), rfl, rfl, rfl, rfl, rfl, rfl, rfl, rfl, trivial⟩
                    · replace h := bif_f hb h
                      refine tri_skip ?_
                      show Tri _ _ _ _
                      refine tri_region tokW gok [79] [78] rfl ?_
                      intro r24 hr24
                      obtain rfl : CV.encs [CV.mk y21_kind y21_int y21_text y21_list] = r24 := (hr24.trans (by simp [List.map_append, List.map_take, List.map_drop, irow, brow, b8of_row, List.map_cons, List.map_nil, b8of_wrap, CV.encs_eq, CV.enc, enc61, enc66, enc70])).symm
                      obtain ⟨hq, h⟩ := req_out h
                      refine And.intro (show ((CV.encs l18).length + (CV.encs [CV.mk y21_kind y21_int y21_text y21_list]).length) * 56 ≤ 140737488355328 ∧ (CV.encs l18).length + (CV.encs [CV.mk y21_kind y21_int y21_text y21_list]).length ≤ 9223372036854775807 from by simp only [List.length_append, List.length_cons, List.length_nil, List.length_map, rlen CV.encs_eq] at hq ⊢; omega) ?_
                      show Tri _ _ _ _
                      refine tri_le (Le.rename [(0, 0), (1, 1), (2, 2), (3, 3), (4, 4), (7, 5)] [(0, .s (.int .i64 a1)), (2, .op 2 0), (4, .op 3 0), (9, .op 4 0), (62, .s (.int .u64 y4)), (63, .s (.int .u64 x17))] [(0, .box [.op 1 0]), (1, .box [.s (.sl 1 ((List.map brow) w23))]), (2, .box [.clo 36 [.op 0 0, .op 2 0]]), (3, .box [.s (.int .i64 0), .s (.int .i64 0), .s (.str []), .nl 4]), (4, .box [.s (.int .i64 y3), .s (.int .i64 0), .s (.str []), .orow 5]), (5, .row 30 4 (CV.encs (l18 ++ [CV.mk y21_kind y21_int y21_text y21_list])))] 6 ⟨rfl, rfl, rfl, rfl, rfl, rfl, trivial⟩ ⟨rfl, ⟨_, rfl, rfl⟩, rfl, ⟨_, rfl, rfl⟩, rfl, ⟨_, rfl, rfl⟩, rfl, ⟨_, rfl, rfl⟩, rfl, ⟨_, rfl, rfl⟩, rfl, ⟨_, rfl, congrArg (Ob.row 30 4) (by simp [List.map_append, List.map_take, List.map_drop, irow, brow, b8of_row, List.map_cons, List.map_nil, b8of_wrap, CV.encs_eq, CV.enc, enc61, enc66, enc70])⟩, trivial⟩ rfl rfl rfl rfl rfl) ?_
                      refine tri_region tokW gok [] [] rfl ?_
                      refine ⟨(k, w23, IntKind.u64.wrap (x17 + 1), l18 ++ [CV.mk y21_kind y21_int y21_text y21_list]), h, (Le.rename [(0, 0), (1, 1), (2, 2), (3, 3), (4, 4), (5, 5)] _ _ _ ⟨rfl, rfl, rfl, rfl, rfl, rfl, trivial⟩ ⟨rfl, ⟨_, rfl, rfl⟩, rfl, ⟨_, rfl, rfl⟩, rfl, ⟨_, rfl, rfl⟩, rfl, ⟨_, rfl, rfl⟩, rfl, ⟨_, rfl, rfl⟩, rfl, ⟨_, rfl, rfl⟩, trivial⟩ rfl rfl rfl rfl rfl), Nat.lt_succ_self k⟩
                  · replace h := bif_f hb h
                    refine tri_exit ?_
                    cases h
                    exact ⟨_, rfl, (Le.rename [(0, 0), (1, 1), (2, 2), (3, 3), (4, 4), (5, 5)] _ _ _ ⟨rfl, rfl, trivial⟩ ⟨rfl, ⟨_, rfl, rfl⟩, rfl, ⟨_, rfl, rfl⟩, rfl, ⟨_, rfl, rfl⟩, rfl, ⟨_, rfl, rfl⟩, rfl, ⟨_, rfl, rfl⟩, rfl, ⟨_, rfl, rfl⟩, trivial⟩ rfl rfl rfl rfl rfl)⟩
            · subst hz
              obtain ⟨x19, l20⟩ := z
              replace h := ho1
              show Tri _ _ _ _
              refine tri_le hle ?_
              refine tri_seq ?_
              refine tri_region tokW gok [] [] rfl ?_
              show Tri _ _ _ _
              refine tri_ret ?_
              obtain ⟨hj1, hk1⟩ := Prod.mk.inj (Option.some.inj h)
              subst hj1
              obtain ⟨hj2, hk2⟩ := Prod.mk.inj hk1
              subst hj2
              subst hk2
              unfold GivesO
              exact ⟨_, (Le.trans (Le.rename [(0, 0), (1, 1), (2, 2), (3, 3), (5, 4)] [(4, .op 3 0), (5, .s (.bool true))] [(0, .box [.op 1 0]), (1, .box [.s (.sl 1 ((List.map brow) x19))]), (2, .box [.clo 36 [.op 0 0, .op 2 0]]), (3, .box [.s (.int .i64 y3), .s (.int .i64 0), .s (.str []), .orow 4]), (4, .row 30 4 (CV.encs l20))] 5 ⟨rfl, rfl, trivial⟩ ⟨rfl, ⟨_, rfl, rfl⟩, rfl, ⟨_, rfl, rfl⟩, rfl, ⟨_, rfl, rfl⟩, rfl, ⟨_, rfl, rfl⟩, rfl, ⟨_, rfl, rfl⟩, trivial⟩ rfl rfl rfl rfl rfl) (Le.giveRow 4 rfl)), rfl, rfl, rfl, rfl, rfl, rfl, rfl, rfl, trivial⟩
theorem all36 : ∀ n, PSound Try.prog 36 (ospec (R36 n)) := by
  intro n
  induction n with
  | zero => exact osound_none Try.call36 (fun xs os x os' h => by obtain ⟨_, _, _, _, _, h, _⟩ := h; cases h) _
  | succ n ih => exact step36 n ih
def S36 : PSpec := ospec (fun xs os x os' => ∃ n, R36 n xs os x os')
theorem ok36 : PSound Try.prog 36 S36 := osound_all all36 _

/- (*vinculum/codec.reader).value -/
def m34 (n : Nat) : (List UInt8) → Option (CV × Bool × (List UInt8))
| r1 =>
  (m36 n 1 r1).bind fun ⟨⟨y2_kind, y2_int, y2_text, y2_list⟩, y3, w4⟩ =>
  some (CV.mk y2_kind y2_int y2_text y2_list, y3, w4)
def R34 (n : Nat) (xs : List AV) (os : List Ob) (x : AV) (os' : List (Option Ob)) : Prop := ∃ (a0 : (List UInt8)) (y0 : CV) (y1 : Bool) (z0 : (List UInt8)), m34 n a0 = some (y0, y1, z0) ∧ xs = [.op 0 0] ∧ os = [.box ((enc70 a0).map .s)] ∧ x = .tup [.agg ((CV.enc y0).map .s), .s (.bool y1)] ∧ os' = [some (.box ((enc70 z0).map .s))]
def S34 : PSpec := ospec (fun xs os x os' => ∃ n, R34 n xs os x os')
set_option maxHeartbeats 2000000 in
theorem ok34 : PSound Try.prog 34 S34 := by
  have gok : ∀ f s, look? f [(36, S36)] = some s → PSound Try.prog f s := look_all (by
    simp only [List.forall_mem_cons]
    exact ⟨ok36, by simp⟩)
  refine PSound.withNil (osound tokW Try.call34 Try.func34 rfl (fun xs os x os' h => by obtain ⟨n, _, _, _, _, _, rfl, rfl, _, rfl⟩ := h; exact ⟨by show 1 ≤ 10; decide, by show 1 ≤ 1; decide⟩) 10 rfl ?_) _
  rintro xs os x os' w0 G0 B0 ⟨n, r1, y0, y1, z0, h, rfl, rfl, rfl, rfl⟩ _
  refine tri_seq ?_
  refine tri_region tokW gok [1, 2] [] rfl ?_
  show Tri _ _ _ _
  refine tri_seq ?_
  refine tri_region tokW gok [4] [] rfl ?_
  show Tri _ _ _ _
  refine tri_seq ?_
  refine tri_region tokW gok [] [] rfl ?_
  show Tri _ _ _ _
  refine tri_seq ?_
  refine tri_region tokW gok [] [] rfl ?_
  obtain ⟨⟨⟨y2_kind, y2_int, y2_text, y2_list⟩, y3, w4⟩, hy2, h⟩ := bind_out h
  refine ⟨_, _, ⟨_, _, _, _, _, _, hy2, rfl, rfl, rfl, rfl⟩, ?_⟩
  show Tri _ _ _ _
  refine tri_ret ?_
  obtain ⟨hj1, hk1⟩ := Prod.mk.inj (Option.some.inj h)
  subst hj1
  obtain ⟨hj2, hk2⟩ := Prod.mk.inj hk1
  subst hj2
  subst hk2
  unfold GivesO
  exact ⟨_, (Le.rename [(0, 0), (2, 1)] [(2, .op 1 0), (3, .s (.bool y3))] [(0, .box [.s (.sl 1 ((List.map brow) w4))]), (1, .box [.s (.int .i64 y2_kind), .s (.int .i64 y2_int), .s (.str y2_text), .s (.sl 4 (CV.encs y2_list))])] 2 ⟨rfl, rfl, trivial⟩ ⟨rfl, ⟨_, rfl, rfl⟩, rfl, ⟨_, rfl, rfl⟩, trivial⟩ rfl rfl rfl rfl rfl), rfl, rfl, rfl, rfl, trivial⟩

/- vinculum/codec.Decode -/
def m22 (n : Nat) : (List UInt8) → Option (CV × Int)
| b1 =>
  bif decide (1048576 < (b1.length : Int)) then (
    some (CV.mk 0 0 [] [], 4)
  ) else (
    (m34 n b1).bind fun ⟨⟨y3_kind, y3_int, y3_text, y3_list⟩, y4, w5⟩ =>
    (
      bif (!y4) then (
        some true
      ) else (
        some (decide (0 < (w5.length : Int)))
      )
     : Option (Bool)).bind fun x6 =>
    bif x6 then (
      some (CV.mk 0 0 [] [], 4)
    ) else (
      some (CV.mk y3_kind y3_int y3_text y3_list, 0)
    )
  )
def R22 (n : Nat) (xs : List AV) (r : Ret) : Prop := ∃ (a0 : List UInt8) (y0 : CV) (y1 : Int), m22 n a0 = some (y0, y1) ∧ xs = [.s (.sl 1 ((List.map brow) a0))] ∧ r = .val (.tup [.agg ((CV.enc y0).map .s), .s (.int .i64 y1)])
def S22 : PSpec := pspec fun xs r => ∃ n, R22 n xs r
set_option maxHeartbeats 2000000 in
theorem ok22 : PSound Try.prog 22 S22 := by
  have gok : ∀ f s, look? f [(34, S34)] = some s → PSound Try.prog f s := look_all (by
    simp only [List.forall_mem_cons]
    exact ⟨ok34, by simp⟩)
  refine psound tokW Try.call22 Try.func22 rfl (fun xs r h => by obtain ⟨n, _, _, _, _, rfl, _⟩ := h; show 1 ≤ 31; decide) 31 rfl ?_
  rintro xs r w0 G0 ⟨n, b1, y0, y1, h, rfl, rfl⟩ _
  refine tri_seq ?_
  refine tri_region tokW gok [2] [] rfl ?_
  show Tri _ _ _ _
  refine tri_seq ?_
  refine tri_seq ?_
  refine tri_region tokW gok [] [8] rfl ?_
  intro n2 hn2
  obtain rfl : (b1.length : Int) = n2 := (hn2.trans (congrArg (fun m : Nat => (m : Int)) (rlen (fun _ => rfl) b1))).symm
  show Tri _ _ _ _
  refine tri_cond rfl (fun hb => ?_) (fun hb => ?_)
  · replace h := bif_t hb h
    refine tri_seq ?_
    refine tri_region tokW gok [] [] rfl ?_
    show Tri _ _ _ _
    refine tri_ret ?_
    obtain ⟨hj1, hk1⟩ := Prod.mk.inj (Option.some.inj h)
    subst hj1
    subst hk1
    unfold Gives
    exact ⟨_, Le.refl _ _, rfl, rfl⟩
  · replace h := bif_f hb h
    refine tri_skip ?_
    show Tri _ _ _ _
    refine tri_seq ?_
    refine tri_region tokW gok [13] [] rfl ?_
    show Tri _ _ _ _
    refine tri_seq ?_
    refine tri_region tokW gok [5] [] rfl ?_
    obtain ⟨⟨⟨y3_kind, y3_int, y3_text, y3_list⟩, y4, w5⟩, hy3, h⟩ := bind_out h
    refine ⟨_, _, ⟨_, _, _, _, _, hy3, rfl, rfl, rfl, rfl⟩, ?_⟩
    show Tri _ _ _ _
    refine tri_le (Le.giveBox 2 [.int .i64 y3_kind, .int .i64 y3_int, .str y3_text, .sl 4 (CV.encs y3_list)] rfl rfl) ?_
    refine tri_seq ?_
    refine tri_seq ?_
    obtain ⟨x6, hj, h⟩ := bind_out h
    refine tri_post ⟨ofL [(2, .op 0 0), (5, .s (.pt [.int .i64 y3_kind, .int .i64 y3_int, .str y3_text, .sl 4 (CV.encs y3_list)])), (28, .s (.bool x6))], ofH [(0, .box [.s (.int .i64 0), .s (.int .i64 0), .s (.str []), .nl 4])], 1⟩ ?_ (fun σ' hle => ?_)
    · replace h := hj
      refine tri_region tokW gok [] [21, 26] rfl ?_
      intro b hb
      cases b with
      | true =>
        replace h := bif_t hb.symm h
        cases h
        exact (Le.rename [(0, 0)] _ _ _ ⟨rfl, rfl, rfl, trivial⟩ ⟨rfl, ⟨_, rfl, rfl⟩, trivial⟩ rfl rfl rfl rfl rfl)
      | false =>
        replace h := bif_f hb.symm h
        intro n7 hn7
        obtain rfl : (w5.length : Int) = n7 := (hn7.trans (congrArg (fun m : Nat => (m : Int)) (rlen (fun _ => rfl) w5))).symm
        cases h
        exact (Le.rename [(0, 0)] _ _ _ ⟨rfl, rfl, rfl, trivial⟩ ⟨rfl, ⟨_, rfl, rfl⟩, trivial⟩ rfl rfl rfl rfl rfl)
    · show Tri _ _ _ _
      refine tri_le hle ?_
      refine tri_cond rfl (fun hb => ?_) (fun hb => ?_)
      · replace h := bif_t hb h
        refine tri_seq ?_
        refine tri_region tokW gok [] [] rfl ?_
        show Tri _ _ _ _
        refine tri_ret ?_
        obtain ⟨hj1, hk1⟩ := Prod.mk.inj (Option.some.inj h)
        subst hj1
        subst hk1
        unfold Gives
        exact ⟨_, Le.refl _ _, rfl, rfl⟩
      · replace h := bif_f hb h
        refine tri_skip ?_
        show Tri _ _ _ _
        refine tri_seq ?_
        refine tri_region tokW gok [] [] rfl ?_
        show Tri _ _ _ _
        refine tri_ret ?_
        obtain ⟨hj1, hk1⟩ := Prod.mk.inj (Option.some.inj h)
        subst hj1
        subst hk1
        unfold Gives
        exact ⟨_, Le.refl _ _, rfl, rfl⟩

/- vinculum/vinculumlaw03.CodecIntegers -/
def m7 (n : Nat) : Int → Int → Option Bool
| a1, a2 =>
  (m11 n ).bind fun y3 =>
  bif (!y3) then (
    some false
  ) else (
    (m16 n (CV.mk 1 a1 [] [])).bind fun ⟨y4, y5⟩ =>
    (m16 n (CV.mk 1 a2 [] [])).bind fun ⟨y6, y7⟩ =>
    (m22 n y4).bind fun ⟨⟨y8_kind, y8_int, y8_text, y8_list⟩, y9⟩ =>
    (
      bif (y5 != 0) then (
        some true
      ) else (
        bif (y7 != 0) then (
          some true
        ) else (
          bif (y9 != 0) then (
            some true
          ) else (
            bif (y8_kind != 1) then (
              some true
            ) else (
              bif (y8_int != a1) then (
                some true
              ) else (
                bif decide (9 < (y4.length : Int)) then (
                  some true
                ) else (
                  some (decide (9 < (y6.length : Int)))
                )
              )
            )
          )
        )
      )
     : Option (Bool)).bind fun x10 =>
    bif x10 then (
      some false
    ) else (
      (m25 (CV.mk 1 a1 [] [])).bind fun y13 =>
      (m25 (CV.mk 1 a2 [] [])).bind fun y14 =>
      (
        bif (!(decide (y13 ≤ y14))) then (
          some true
        ) else (
          some (decide ((y4.length : Int) ≤ (y6.length : Int)))
        )
       : Option (Bool)).bind fun x15 =>
      some x15
    )
  )
def R7 (n : Nat) (xs : List AV) (r : Ret) : Prop := ∃ (a0 : Int) (a1 : Int) (y0 : Bool), m7 n a0 a1 = some y0 ∧ xs = [.s (.int .i64 a0), .s (.int .i64 a1)] ∧ r = .val (.s (.bool y0))
def S7 : PSpec := pspec fun xs r => ∃ n, R7 n xs r
set_option maxHeartbeats 2000000 in
theorem ok7 : PSound Try.prog 7 S7 := by
  have gok : ∀ f s, look? f [(11, S11), (16, S16), (22, S22), (25, S25)] = some s → PSound Try.prog f s := look_all (by
    simp only [List.forall_mem_cons]
    exact ⟨ok11, ok16, ok22, ok25, by simp⟩)
  refine psound tokW Try.call7 Try.func7 rfl (fun xs r h => by obtain ⟨n, _, _, _, _, rfl, _⟩ := h; show 2 ≤ 78; decide) 78 rfl ?_
  rintro xs r w0 G0 ⟨n, a1, a2, y0, h, rfl, rfl⟩ _
  refine tri_seq ?_
  refine tri_region tokW gok [] [] rfl ?_
  show Tri _ _ _ _
  refine tri_seq ?_
  refine tri_seq ?_
  refine tri_region tokW gok [] [] rfl ?_
  obtain ⟨y3, hy3, h⟩ := bind_out h
  refine ⟨_, ⟨_, _, hy3, rfl, rfl⟩, ?_⟩
  show Tri _ _ _ _
  refine tri_cond rfl (fun hb => ?_) (fun hb => ?_)
  · replace h := bif_t hb h
    refine tri_seq ?_
    refine tri_region tokW gok [] [] rfl ?_
    show Tri _ _ _ _
    refine tri_ret ?_
    have hy := Option.some.inj h
    subst hy
    unfold Gives
    exact ⟨_, Le.refl _ _, rfl, rfl⟩
  · replace h := bif_f hb h
    refine tri_skip ?_
    show Tri _ _ _ _
    refine tri_seq ?_
    refine tri_region tokW gok [] [] rfl ?_
    obtain ⟨⟨y4, y5⟩, hy4, h⟩ := bind_out h
    refine ⟨_, ⟨_, _, _, _, hy4, rfl, rfl⟩, ?_⟩
    show Tri _ _ _ _
    refine tri_seq ?_
    refine tri_region tokW gok [] [] rfl ?_
    obtain ⟨⟨y6, y7⟩, hy6, h⟩ := bind_out h
    refine ⟨_, ⟨_, _, _, _, hy6, rfl, rfl⟩, ?_⟩
    show Tri _ _ _ _
    refine tri_seq ?_
    refine tri_region tokW gok [9] [] rfl ?_
    obtain ⟨⟨⟨y8_kind, y8_int, y8_text, y8_list⟩, y9⟩, hy8, h⟩ := bind_out h
    refine ⟨_, ⟨_, _, _, _, hy8, rfl, rfl⟩, ?_⟩
    show Tri _ _ _ _
    refine tri_le (Le.giveBox 0 [.int .i64 y8_kind, .int .i64 y8_int, .str y8_text, .sl 4 (CV.encs y8_list)] rfl rfl) ?_
    refine tri_seq ?_
    refine tri_seq ?_
    obtain ⟨x10, hj, h⟩ := bind_out h
    refine tri_post ⟨ofL [(0, .s (.int .i64 a1)), (1, .s (.int .i64 a2)), (5, .s (.sl 1 ((List.map brow) y4))), (7, .s (.sl 1 ((List.map brow) y6))), (61, .s (.bool x10))], ofH [], 0⟩ ?_ (fun σ' hle => ?_)
    · replace h := hj
      refine tri_region tokW gok [] [33, 37, 41, 46, 52, 54, 57, 59] rfl ?_
      intro b hb
      cases b with
      | true =>
        replace h := bif_t hb.symm h
        intro b hb
        subst hb
        intro b hb
        subst hb
        intro b hb
        subst hb
        intro b hb
        subst hb
        intro b hb
        subst hb
        cases h
        exact (Le.rename [] _ _ _ ⟨rfl, rfl, rfl, rfl, rfl, trivial⟩ trivial rfl rfl rfl rfl rfl)
      | false =>
        replace h := bif_f hb.symm h
        intro b hb
        cases b with
        | true =>
          replace h := bif_t hb.symm h
          intro b hb
          subst hb
          intro b hb
          subst hb
          intro b hb
          subst hb
          intro b hb
          subst hb
          cases h
          exact (Le.rename [] _ _ _ ⟨rfl, rfl, rfl, rfl, rfl, trivial⟩ trivial rfl rfl rfl rfl rfl)
        | false =>
          replace h := bif_f hb.symm h
          intro b hb
          cases b with
          | true =>
            replace h := bif_t hb.symm h
            intro b hb
            subst hb
            intro b hb
            subst hb
            intro b hb
            subst hb
            cases h
            exact (Le.rename [] _ _ _ ⟨rfl, rfl, rfl, rfl, rfl, trivial⟩ trivial rfl rfl rfl rfl rfl)
          | false =>
            replace h := bif_f hb.symm h
            intro b hb
            cases b with
            | true =>
              replace h := bif_t hb.symm h
              intro b hb
              subst hb
              intro b hb
              subst hb
              cases h
              exact (Le.rename [] _ _ _ ⟨rfl, rfl, rfl, rfl, rfl, trivial⟩ trivial rfl rfl rfl rfl rfl)
            | false =>
              replace h := bif_f hb.symm h
              intro b hb
              cases b with
              | true =>
                replace h := bif_t hb.symm h
                intro b hb
                subst hb
                cases h
                exact (Le.rename [] _ _ _ ⟨rfl, rfl, rfl, rfl, rfl, trivial⟩ trivial rfl rfl rfl rfl rfl)
              | false =>
                replace h := bif_f hb.symm h
                intro n11 hn11
                obtain rfl : (y4.length : Int) = n11 := (hn11.trans (congrArg (fun m : Nat => (m : Int)) (rlen (fun _ => rfl) y4))).symm
                intro b hb
                cases b with
                | true =>
                  replace h := bif_t hb.symm h
                  cases h
                  exact (Le.rename [] _ _ _ ⟨rfl, rfl, rfl, rfl, rfl, trivial⟩ trivial rfl rfl rfl rfl rfl)
                | false =>
                  replace h := bif_f hb.symm h
                  intro n12 hn12
                  obtain rfl : (y6.length : Int) = n12 := (hn12.trans (congrArg (fun m : Nat => (m : Int)) (rlen (fun _ => rfl) y6))).symm
                  cases h
                  exact (Le.rename [] _ _ _ ⟨rfl, rfl, rfl, rfl, rfl, trivial⟩ trivial rfl rfl rfl rfl rfl)
    · show Tri _ _ _ _
      refine tri_le hle ?_
      refine tri_cond rfl (fun hb => ?_) (fun hb => ?_)
      · replace h := bif_t hb h
        refine tri_seq ?_
        refine tri_region tokW gok [] [] rfl ?_
        show Tri _ _ _ _
        refine tri_ret ?_
        have hy := Option.some.inj h
        subst hy
        unfold Gives
        exact ⟨_, Le.refl _ _, rfl, rfl⟩
      · replace h := bif_f hb h
        refine tri_skip ?_
        show Tri _ _ _ _
        refine tri_seq ?_
        refine tri_region tokW gok [] [] rfl ?_
        obtain ⟨y13, hy13, h⟩ := bind_out h
        refine ⟨_, ⟨_, _, hy13, rfl, rfl⟩, ?_⟩
        obtain ⟨y14, hy14, h⟩ := bind_out h
        refine ⟨_, ⟨_, _, hy14, rfl, rfl⟩, ?_⟩
        show Tri _ _ _ _
        refine tri_seq ?_
        obtain ⟨x15, hj, h⟩ := bind_out h
        refine tri_post ⟨ofL [(4, .s (.bool x15))], ofH [], 0⟩ ?_ (fun σ' hle => ?_)
        · replace h := hj
          refine tri_region tokW gok [] [71, 73, 75] rfl ?_
          intro b hb
          cases b with
          | true =>
            replace h := bif_t hb.symm h
            cases h
            exact (Le.rename [] _ _ _ ⟨rfl, trivial⟩ trivial rfl rfl rfl rfl rfl)
          | false =>
            replace h := bif_f hb.symm h
            intro n16 hn16
            obtain rfl : (y4.length : Int) = n16 := (hn16.trans (congrArg (fun m : Nat => (m : Int)) (rlen (fun _ => rfl) y4))).symm
            intro n17 hn17
            obtain rfl : (y6.length : Int) = n17 := (hn17.trans (congrArg (fun m : Nat => (m : Int)) (rlen (fun _ => rfl) y6))).symm
            cases h
            exact (Le.rename [] _ _ _ ⟨rfl, trivial⟩ trivial rfl rfl rfl rfl rfl)
        · show Tri _ _ _ _
          refine tri_le hle ?_
          refine tri_ret ?_
          have hy := Option.some.inj h
          subst hy
          unfold Gives
          exact ⟨_, Le.refl _ _, rfl, rfl⟩

/- vinculum/vinculumref03.Read -/
def m27_l1 (a1 : List UInt8) (e9 : UInt8) : Nat → Int → Int → Option (Int)
| 0, _, _ => none
| k+1, x17, x18 =>
  bif decide (x17 ≤ (IntKind.i64.wrap ((IntKind.i64.wrap (IntKind.u64.wrap ((e9.toNat : Int).tmod 64))) - 55))) then (
    (at? a1 x17).bind fun e20 =>
    m27_l1 a1 e9 k (IntKind.i64.wrap (x17 + 1)) (IntKind.u64.wrap ((IntKind.u64.wrap (256 * x18)) + (IntKind.u64.wrap (e20.toNat : Int))))
  ) else (
    some x18
  )
def m27_l2 (F27 : (List UInt8) → Int → Option (CV × Int)) (a1 : List UInt8) (a2 : Int) (x11 : Int) : Nat → Int → Int → (List CV) → Option (Fl (CV × Int) (Int × (List CV)))
| 0, _, _, _ => none
| k+1, x32, x33, l34 =>
  bif decide (x32 < (IntKind.i64.wrap x11)) then (
    req (0 ≤ x33 ∧ x33 ≤ (a1.length : Int) ∧ (a1.length : Int) ≤ (a1.length : Int)) <|
    (F27 ((a1.take (a1.length : Int).toNat).drop x33.toNat) (IntKind.i64.wrap (a2 - 1))).bind fun ⟨⟨y38_kind, y38_int, y38_text, y38_list⟩, y39⟩ =>
    bif (y39 == 0) then (
      some (.ret (CV.mk 0 0 [] [], 0))
    ) else (
      req (l34.length + [CV.mk y38_kind y38_int y38_text y38_list].length ≤ 4294967296) <|
      m27_l2 F27 a1 a2 x11 k (IntKind.i64.wrap (x32 + 1)) (IntKind.i64.wrap (x33 + y39)) (l34 ++ [CV.mk y38_kind y38_int y38_text y38_list])
    )
  ) else (
    some (.go (x33, l34))
  )
def m27 : Nat → (List UInt8) → Int → Option (CV × Int)
| 0, _, _ => none
| n+1, a1, a2 =>
  (
    bif ((a1.length : Int) == 0) then (
      some true
    ) else (
      bif (a2 == 0) then (
        some true
      ) else (
        (at? a1 0).bind fun e5 =>
        some (decide ((e5.toNat : Int) < 64))
      )
    )
   : Option (Bool)).bind fun x3 =>
  bif x3 then (
    some (CV.mk 0 0 [] [], 0)
  ) else (
    (at? a1 0).bind fun e7 =>
    (at? a1 0).bind fun e9 =>
    (
      bif decide (56 ≤ (IntKind.u64.wrap ((e9.toNat : Int).tmod 64))) then (
        (
          bif decide ((a1.length : Int) < (IntKind.i64.wrap (1 + (IntKind.i64.wrap ((IntKind.i64.wrap (IntKind.u64.wrap ((e9.toNat : Int).tmod 64))) - 55))))) then (
            some true
          ) else (
            (at? a1 1).bind fun e15 =>
            some ((e15.toNat : Int) == 0)
          )
         : Option (Bool)).bind fun x13 =>
        bif x13 then (
          some (.ret (CV.mk 0 0 [] [], 0))
        ) else (
          (m27_l1 a1 e9 n 1 0).bind fun x19 =>
          bif decide (x19 < 56) then (
            some (.ret (CV.mk 0 0 [] [], 0))
          ) else (
            some (.go (x19, IntKind.i64.wrap (1 + (IntKind.i64.wrap ((IntKind.i64.wrap (IntKind.u64.wrap ((e9.toNat : Int).tmod 64))) - 55)))))
          )
        )
      ) else (
        some (.go (IntKind.u64.wrap ((e9.toNat : Int).tmod 64), 1))
      )
     : Option (Fl (CV × Int) (Int × Int))).bind fun fl => match fl with
    | .ret r => some r
    | .go ⟨x11, x12⟩ =>
      (
        bif ((IntKind.i64.wrap ((IntKind.i64.wrap (e7.toNat : Int)).tdiv 64)) == 1) then (
          bif ((x11.tmod 2) == 1) then (
            some (.go (x12, IntKind.i64.wrap ((IntKind.i64.wrap (0 - (IntKind.i64.wrap (IntKind.u64.wrap (x11.tdiv 2))))) - 1), [], []))
          ) else (
            some (.go (x12, IntKind.i64.wrap (IntKind.u64.wrap (x11.tdiv 2)), [], []))
          )
        ) else (
          bif ((IntKind.i64.wrap ((IntKind.i64.wrap (e7.toNat : Int)).tdiv 64)) == 2) then (
            bif decide ((IntKind.u64.wrap (IntKind.i64.wrap ((a1.length : Int) - x12))) < x11) then (
              some (.ret (CV.mk 0 0 [] [], 0))
            ) else (
              req (0 ≤ x12 ∧ x12 ≤ IntKind.i64.wrap (x12 + (IntKind.i64.wrap x11)) ∧ IntKind.i64.wrap (x12 + (IntKind.i64.wrap x11)) ≤ (a1.length : Int)) <|
              some (.go (IntKind.i64.wrap (x12 + (IntKind.i64.wrap x11)), 0, (a1.take (IntKind.i64.wrap (x12 + (IntKind.i64.wrap x11))).toNat).drop x12.toNat, []))
            )
          ) else (
            bif decide ((IntKind.u64.wrap (IntKind.i64.wrap ((a1.length : Int) - x12))) < x11) then (
              some (.ret (CV.mk 0 0 [] [], 0))
            ) else (
              (m27_l2 (m27 n) a1 a2 x11 n 0 x12 []).bind fun fl => match fl with
              | .ret r => some (.ret r)
              | .go ⟨x35, l36⟩ =>
                some (.go (x35, 0, [], l36))
            )
          )
        )
       : Option (Fl (CV × Int) (Int × Int × (List UInt8) × (List CV)))).bind fun fl => match fl with
      | .ret r => some r
      | .go ⟨x22, x23, x24, l25⟩ =>
        some (CV.mk (IntKind.i64.wrap ((IntKind.i64.wrap (e7.toNat : Int)).tdiv 64)) x23 x24 l25, x22)
  )
def R27 (n : Nat) (xs : List AV) (r : Ret) : Prop := ∃ (a0 : List UInt8) (a1 : Int) (y0 : CV) (y1 : Int), m27 n a0 a1 = some (y0, y1) ∧ xs = [.s (.sl 1 ((List.map brow) a0)), .s (.int .i64 a1)] ∧ r = .val (.tup [.agg ((CV.enc y0).map .s), .s (.int .i64 y1)])
set_option maxHeartbeats 2000000 in
theorem step27 (n : Nat) (ih : PSound Try.prog 27 (pspec (R27 n))) : PSound Try.prog 27 (pspec (R27 (n + 1))) := by
  have gok : ∀ f s, look? f [(27, pspec (R27 n))] = some s → PSound Try.prog f s := look_all (by
    simp only [List.forall_mem_cons]
    exact ⟨ih, by simp⟩)
  refine psound tokW Try.call27 Try.func27 rfl (fun xs r h => by obtain ⟨_, _, _, _, _, rfl, _⟩ := h; show 2 ≤ 150; decide) 150 rfl ?_
  rintro xs r w0 G0 ⟨a1, a2, y0, y1, h, rfl, rfl⟩ _
  refine tri_seq ?_
  refine tri_region tokW gok [4] [] rfl ?_
  show Tri _ _ _ _
  refine tri_seq ?_
  refine tri_seq ?_
  obtain ⟨x3, hj, h⟩ := bind_out h
  refine tri_post ⟨ofL [(0, .s (.sl 1 ((List.map brow) a1))), (1, .s (.int .i64 a2)), (4, .op 0 0), (26, .s (.bool x3))], ofH [(0, .box [.s (.int .i64 0), .s (.int .i64 0), .s (.str []), .nl 4])], 1⟩ ?_ (fun σ' hle => ?_)
  · replace h := hj
    refine tri_region tokW gok [] [15, 17, 21, 23] rfl ?_
    intro n4 hn4
    obtain rfl : (a1.length : Int) = n4 := (hn4.trans (congrArg (fun m : Nat => (m : Int)) (rlen (fun _ => rfl) a1))).symm
    intro b hb
    cases b with
    | true =>
      replace h := bif_t hb.symm h
      intro b hb
      subst hb
      cases h
      exact (Le.rename [(0, 0)] _ _ _ ⟨rfl, rfl, rfl, rfl, trivial⟩ ⟨rfl, ⟨_, rfl, rfl⟩, trivial⟩ rfl rfl rfl rfl rfl)
    | false =>
      replace h := bif_f hb.symm h
      intro b hb
      cases b with
      | true =>
        replace h := bif_t hb.symm h
        cases h
        exact (Le.rename [(0, 0)] _ _ _ ⟨rfl, rfl, rfl, rfl, trivial⟩ ⟨rfl, ⟨_, rfl, rfl⟩, trivial⟩ rfl rfl rfl rfl rfl)
      | false =>
        replace h := bif_f hb.symm h
        obtain ⟨e5, he5, h⟩ := bind_out h
        refine And.intro (at_ok (fun _ => rfl) he5).1 ?_
        intro r6 hr6
        obtain rfl : [.int .u8 (e5.toNat : Int)] = r6 := (hr6.trans (at_ok (fun _ => rfl) he5).2.1).symm
        cases h
        exact (Le.rename [(0, 0)] _ _ _ ⟨rfl, rfl, rfl, rfl, trivial⟩ ⟨rfl, ⟨_, rfl, rfl⟩, trivial⟩ rfl rfl rfl rfl rfl)
  · show Tri _ _ _ _
    refine tri_le hle ?_
    refine tri_cond rfl (fun hb => ?_) (fun hb => ?_)
    · replace h := bif_t hb h
      refine tri_seq ?_
      refine tri_region tokW gok [] [] rfl ?_
      show Tri _ _ _ _
      refine tri_ret ?_
      obtain ⟨hj1, hk1⟩ := Prod.mk.inj (Option.some.inj h)
      subst hj1
      subst hk1
      unfold Gives
      exact ⟨_, Le.refl _ _, rfl, rfl⟩
    · replace h := bif_f hb h
      refine tri_skip ?_
      show Tri _ _ _ _
      refine tri_seq ?_
      refine tri_region tokW gok [6] [29] rfl ?_
      obtain ⟨e7, he7, h⟩ := bind_out h
      refine And.intro (at_ok (fun _ => rfl) he7).1 ?_
      intro r8 hr8
      obtain rfl : [.int .u8 (e7.toNat : Int)] = r8 := (hr8.trans (at_ok (fun _ => rfl) he7).2.1).symm
      refine And.intro (by decide) ?_
      show Tri _ _ _ _
      refine tri_seq ?_
      refine tri_region tokW gok [] [35] rfl ?_
      obtain ⟨e9, he9, h⟩ := bind_out h
      refine And.intro (at_ok (fun _ => rfl) he9).1 ?_
      intro r10 hr10
      obtain rfl : [.int .u8 (e9.toNat : Int)] = r10 := (hr10.trans (at_ok (fun _ => rfl) he9).2.1).symm
      refine And.intro (by decide) ?_
      show Tri _ _ _ _
      refine tri_seq ?_
      refine tri_seq ?_
      refine tri_region tokW gok [] [] rfl ?_
      show Tri _ _ _ _
      obtain ⟨fl, hj, ho1⟩ := bind_out h
      refine tri_fl (fl := fl) (fun z => match z with | ⟨x11, x12⟩ => ⟨ofL [(0, .s (.sl 1 ((List.map brow) a1))), (1, .s (.int .i64 a2)), (4, .op 0 0), (6, .op 1 0), (7, .s (.int .u64 x11)), (8, .s (.int .i64 x12))], ofH [(0, .box [.s (.int .i64 0), .s (.int .i64 0), .s (.str []), .nl 4]), (1, .box [.s (.int .i64 (IntKind.i64.wrap ((IntKind.i64.wrap (e7.toNat : Int)).tdiv 64))), .s (.int .i64 0), .s (.str []), .nl 4])], 2⟩) ?_ (fun z σ' hz hle => ?_)
      · replace h := hj
        refine tri_cond rfl (fun hb => ?_) (fun hb => ?_)
        · replace h := bif_t hb h
          refine tri_seq ?_
          refine tri_region tokW gok [] [] rfl ?_
          show Tri _ _ _ _
          refine tri_seq ?_
          refine tri_seq ?_
          obtain ⟨x13, hj, h⟩ := bind_out h
          refine tri_post ⟨ofL [(0, .s (.sl 1 ((List.map brow) a1))), (1, .s (.int .i64 a2)), (4, .op 0 0), (6, .op 1 0), (9, .s (.int .i64 (IntKind.i64.wrap ((IntKind.i64.wrap (IntKind.u64.wrap ((e9.toNat : Int).tmod 64))) - 55)))), (54, .s (.bool x13))], ofH [(0, .box [.s (.int .i64 0), .s (.int .i64 0), .s (.str []), .nl 4]), (1, .box [.s (.int .i64 (IntKind.i64.wrap ((IntKind.i64.wrap (e7.toNat : Int)).tdiv 64))), .s (.int .i64 0), .s (.str []), .nl 4])], 2⟩ ?_ (fun σ' hle => ?_)
          · replace h := hj
            refine tri_region tokW gok [] [45, 49, 51] rfl ?_
            intro n14 hn14
            obtain rfl : (a1.length : Int) = n14 := (hn14.trans (congrArg (fun m : Nat => (m : Int)) (rlen (fun _ => rfl) a1))).symm
            intro b hb
            cases b with
            | true =>
              replace h := bif_t hb.symm h
              cases h
              exact (Le.rename [(0, 0), (1, 1)] _ _ _ ⟨rfl, rfl, rfl, rfl, rfl, rfl, trivial⟩ ⟨rfl, ⟨_, rfl, rfl⟩, rfl, ⟨_, rfl, rfl⟩, trivial⟩ rfl rfl rfl rfl rfl)
            | false =>
              replace h := bif_f hb.symm h
              obtain ⟨e15, he15, h⟩ := bind_out h
              refine And.intro (at_ok (fun _ => rfl) he15).1 ?_
              intro r16 hr16
              obtain rfl : [.int .u8 (e15.toNat : Int)] = r16 := (hr16.trans (at_ok (fun _ => rfl) he15).2.1).symm
              cases h
              exact (Le.rename [(0, 0), (1, 1)] _ _ _ ⟨rfl, rfl, rfl, rfl, rfl, rfl, trivial⟩ ⟨rfl, ⟨_, rfl, rfl⟩, rfl, ⟨_, rfl, rfl⟩, trivial⟩ rfl rfl rfl rfl rfl)
          · show Tri _ _ _ _
            refine tri_le hle ?_
            refine tri_cond rfl (fun hb => ?_) (fun hb => ?_)
            · replace h := bif_t hb h
              refine tri_seq ?_
              refine tri_region tokW gok [] [] rfl ?_
              show Tri _ _ _ _
              refine tri_ret ?_
              cases h
              replace h : some _ = some _ := ho1
              obtain ⟨hj1, hk1⟩ := Prod.mk.inj (Option.some.inj h)
              subst hj1
              subst hk1
              unfold Gives
              exact ⟨_, Le.refl _ _, rfl, rfl⟩
            · replace h := bif_f hb h
              refine tri_skip ?_
              show Tri _ _ _ _
              refine tri_seq ?_
              refine tri_region tokW gok [] [] rfl ?_
              show Tri _ _ _ _
              refine tri_seq ?_
              refine tri_seq ?_
              refine tri_region tokW gok [] [] rfl ?_
              show Tri _ _ _ _
              obtain ⟨x19, hl, h⟩ := bind_out h
              refine tri_post ⟨ofL [(0, .s (.sl 1 ((List.map brow) a1))), (1, .s (.int .i64 a2)), (4, .op 0 0), (6, .op 1 0), (7, .s (.int .u64 x19)), (8, .s (.int .i64 (IntKind.i64.wrap (1 + (IntKind.i64.wrap ((IntKind.i64.wrap (IntKind.u64.wrap ((e9.toNat : Int).tmod 64))) - 55))))))], ofH [(0, .box [.s (.int .i64 0), .s (.int .i64 0), .s (.str []), .nl 4]), (1, .box [.s (.int .i64 (IntKind.i64.wrap ((IntKind.i64.wrap (e7.toNat : Int)).tdiv 64))), .s (.int .i64 0), .s (.str []), .nl 4])], 2⟩ ?_ (fun σ' hle => ?_)
              · refine tri_block (tri_loopI (X := Nat × Int × Int) (fun y => match y with | (k, x17, x18) => ⟨ofL [(0, .s (.sl 1 ((List.map brow) a1))), (1, .s (.int .i64 a2)), (4, .op 0 0), (6, .op 1 0), (7, .s (.int .u64 x18)), (8, .s (.int .i64 (IntKind.i64.wrap (1 + (IntKind.i64.wrap ((IntKind.i64.wrap (IntKind.u64.wrap ((e9.toNat : Int).tmod 64))) - 55)))))), (9, .s (.int .i64 (IntKind.i64.wrap ((IntKind.i64.wrap (IntKind.u64.wrap ((e9.toNat : Int).tmod 64))) - 55)))), (10, .s (.int .i64 x17))], ofH [(0, .box [.s (.int .i64 0), .s (.int .i64 0), .s (.str []), .nl 4]), (1, .box [.s (.int .i64 (IntKind.i64.wrap ((IntKind.i64.wrap (e7.toNat : Int)).tdiv 64))), .s (.int .i64 0), .s (.str []), .nl 4])], 2⟩) (fun y => m27_l1 a1 e9 y.1 y.2.1 y.2.2 = some x19) (fun y => y.1) (n, 1, 0) hl ?_ ?_)
                · exact (Le.rename [(0, 0), (1, 1)] _ _ _ ⟨rfl, rfl, rfl, rfl, rfl, rfl, rfl, rfl, trivial⟩ ⟨rfl, ⟨_, rfl, rfl⟩, rfl, ⟨_, rfl, rfl⟩, trivial⟩ rfl rfl rfl rfl rfl)
                · rintro ⟨k, x17, x18⟩ h
                  cases k with
                  | zero => cases h
                  | succ k =>
                    refine tri_seq ?_
                    refine tri_seq ?_
                    refine tri_region tokW gok [] [] rfl ?_
                    show Tri _ _ _ _
                    refine tri_cond rfl (fun hb => ?_) (fun hb => ?_)
                    · replace h := bif_t hb h
                      refine tri_skip ?_
                      show Tri _ _ _ _
                      refine tri_seq ?_
                      refine tri_block ?_
                      refine tri_region tokW gok [] [67] rfl ?_
                      obtain ⟨e20, he20, h⟩ := bind_out h
                      refine And.intro (at_ok (fun _ => rfl) he20).1 ?_
                      intro r21 hr21
                      obtain rfl : [.int .u8 (e20.toNat : Int)] = r21 := (hr21.trans (at_ok (fun _ => rfl) he20).2.1).symm
                      show Tri _ _ _ _
                      refine tri_region tokW gok [] [] rfl ?_
                      refine ⟨(k, IntKind.i64.wrap (x17 + 1), IntKind.u64.wrap ((IntKind.u64.wrap (256 * x18)) + (IntKind.u64.wrap (e20.toNat : Int)))), h, (Le.rename [(0, 0), (1, 1)] _ _ _ ⟨rfl, rfl, rfl, rfl, rfl, rfl, rfl, rfl, trivial⟩ ⟨rfl, ⟨_, rfl, rfl⟩, rfl, ⟨_, rfl, rfl⟩, trivial⟩ rfl rfl rfl rfl rfl), Nat.lt_succ_self k⟩
                    · replace h := bif_f hb h
                      refine tri_exit ?_
                      cases h
                      exact (Le.rename [(0, 0), (1, 1)] _ _ _ ⟨rfl, rfl, rfl, rfl, rfl, rfl, trivial⟩ ⟨rfl, ⟨_, rfl, rfl⟩, rfl, ⟨_, rfl, rfl⟩, trivial⟩ rfl rfl rfl rfl rfl)
              · show Tri _ _ _ _
                refine tri_le hle ?_
                refine tri_seq ?_
                refine tri_region tokW gok [] [] rfl ?_
                show Tri _ _ _ _
                refine tri_cond rfl (fun hb => ?_) (fun hb => ?_)
                · replace h := bif_t hb h
                  refine tri_seq ?_
                  refine tri_region tokW gok [] [] rfl ?_
                  show Tri _ _ _ _
                  refine tri_ret ?_
                  cases h
                  replace h : some _ = some _ := ho1
                  obtain ⟨hj1, hk1⟩ := Prod.mk.inj (Option.some.inj h)
                  subst hj1
                  subst hk1
                  unfold Gives
                  exact ⟨_, Le.refl _ _, rfl, rfl⟩
                · replace h := bif_f hb h
                  refine tri_skip ?_
                  cases h
                  exact ⟨_, rfl, (Le.rename [(0, 0), (1, 1)] _ _ _ ⟨rfl, rfl, rfl, rfl, rfl, rfl, trivial⟩ ⟨rfl, ⟨_, rfl, rfl⟩, rfl, ⟨_, rfl, rfl⟩, trivial⟩ rfl rfl rfl rfl rfl)⟩
        · replace h := bif_f hb h
          refine tri_skip ?_
          cases h
          exact ⟨_, rfl, (Le.rename [(0, 0), (1, 1)] _ _ _ ⟨rfl, rfl, rfl, rfl, rfl, rfl, trivial⟩ ⟨rfl, ⟨_, rfl, rfl⟩, rfl, ⟨_, rfl, rfl⟩, trivial⟩ rfl rfl rfl rfl rfl)⟩
      · subst hz
        obtain ⟨x11, x12⟩ := z
        replace h := ho1
        show Tri _ _ _ _
        refine tri_le hle ?_
        refine tri_seq ?_
        refine tri_seq ?_
        refine tri_region tokW gok [] [] rfl ?_
        show Tri _ _ _ _
        obtain ⟨fl, hj, ho1⟩ := bind_out h
        refine tri_fl (fl := fl) (fun z => match z with | ⟨x22, x23, x24, l25⟩ => ⟨ofL [(4, .op 0 0), (6, .op 1 0), (8, .s (.int .i64 x22))], ofH [(0, .box [.s (.int .i64 0), .s (.int .i64 0), .s (.str []), .nl 4]), (1, .box [.s (.int .i64 (IntKind.i64.wrap ((IntKind.i64.wrap (e7.toNat : Int)).tdiv 64))), .s (.int .i64 x23), .s (.str x24), .orow 2]), (2, .row 24 4 (CV.encs l25))], 3⟩) ?_ (fun z σ' hz hle => ?_)
        · replace h := hj
          refine tri_block ?_
          refine tri_seq ?_
          refine tri_region tokW gok [] [] rfl ?_
          show Tri _ _ _ _
          refine tri_cond rfl (fun hb => ?_) (fun hb => ?_)
          · replace h := bif_t hb h
            refine tri_seq ?_
            refine tri_region tokW gok [] [] rfl ?_
            refine And.intro (by decide) ?_
            show Tri _ _ _ _
            refine tri_seq ?_
            refine tri_region tokW gok [] [] rfl ?_
            refine And.intro (by decide) ?_
            show Tri _ _ _ _
            refine tri_cond rfl (fun hb => ?_) (fun hb => ?_)
            · replace h := bif_t hb h
              refine tri_region tokW gok [] [] rfl ?_
              cases h
              exact ⟨_, rfl, (Le.trans (Le.trans (Le.rename [(0, 0), (1, 1)] [(4, .op 0 0), (6, .op 1 0), (8, .s (.int .i64 x12))] [(0, .box [.s (.int .i64 0), .s (.int .i64 0), .s (.str []), .nl 4]), (1, .box [.s (.int .i64 (IntKind.i64.wrap ((IntKind.i64.wrap (e7.toNat : Int)).tdiv 64))), .s (.int .i64 (IntKind.i64.wrap ((IntKind.i64.wrap (0 - (IntKind.i64.wrap (IntKind.u64.wrap (x11.tdiv 2))))) - 1))), .s (.str []), .nl 4])] 2 ⟨rfl, rfl, rfl, trivial⟩ ⟨rfl, ⟨_, rfl, rfl⟩, rfl, ⟨_, rfl, rfl⟩, trivial⟩ rfl rfl rfl rfl rfl) (Le.takeNil 1 3 24 rfl rfl (by decide))) (Le.rename [(0, 0), (1, 1), (2, 2)] _ _ _ ⟨rfl, rfl, rfl, trivial⟩ ⟨rfl, ⟨_, rfl, rfl⟩, rfl, ⟨_, rfl, rfl⟩, rfl, ⟨_, rfl, congrArg (Ob.row 24 4) (by simp [List.map_append, List.map_take, List.map_drop, irow, brow, b8of_row, List.map_cons, List.map_nil, b8of_wrap, CV.encs_eq, CV.enc, enc61, enc66, enc70])⟩, trivial⟩ rfl rfl rfl rfl rfl))⟩
            · replace h := bif_f hb h
              refine tri_skip ?_
              cases h
              exact ⟨_, rfl, (Le.trans (Le.trans (Le.rename [(0, 0), (1, 1)] [(4, .op 0 0), (6, .op 1 0), (8, .s (.int .i64 x12))] [(0, .box [.s (.int .i64 0), .s (.int .i64 0), .s (.str []), .nl 4]), (1, .box [.s (.int .i64 (IntKind.i64.wrap ((IntKind.i64.wrap (e7.toNat : Int)).tdiv 64))), .s (.int .i64 (IntKind.i64.wrap (IntKind.u64.wrap (x11.tdiv 2)))), .s (.str []), .nl 4])] 2 ⟨rfl, rfl, rfl, trivial⟩ ⟨rfl, ⟨_, rfl, rfl⟩, rfl, ⟨_, rfl, rfl⟩, trivial⟩ rfl rfl rfl rfl rfl) (Le.takeNil 1 3 24 rfl rfl (by decide))) (Le.rename [(0, 0), (1, 1), (2, 2)] _ _ _ ⟨rfl, rfl, rfl, trivial⟩ ⟨rfl, ⟨_, rfl, rfl⟩, rfl, ⟨_, rfl, rfl⟩, rfl, ⟨_, rfl, congrArg (Ob.row 24 4) (by simp [List.map_append, List.map_take, List.map_drop, irow, brow, b8of_row, List.map_cons, List.map_nil, b8of_wrap, CV.encs_eq, CV.enc, enc61, enc66, enc70])⟩, trivial⟩ rfl rfl rfl rfl rfl))⟩
          · replace h := bif_f hb h
            refine tri_seq ?_
            refine tri_region tokW gok [] [] rfl ?_
            show Tri _ _ _ _
            refine tri_cond rfl (fun hb => ?_) (fun hb => ?_)
            · replace h := bif_t hb h
              refine tri_seq ?_
              refine tri_seq ?_
              refine tri_region tokW gok [] [129] rfl ?_
              intro n26 hn26
              obtain rfl : (a1.length : Int) = n26 := (hn26.trans (congrArg (fun m : Nat => (m : Int)) (rlen (fun _ => rfl) a1))).symm
              show Tri _ _ _ _
              refine tri_cond rfl (fun hb => ?_) (fun hb => ?_)
              · replace h := bif_t hb h
                refine tri_seq ?_
                refine tri_region tokW gok [] [] rfl ?_
                show Tri _ _ _ _
                refine tri_ret ?_
                cases h
                replace h : some _ = some _ := ho1
                obtain ⟨hj1, hk1⟩ := Prod.mk.inj (Option.some.inj h)
                subst hj1
                subst hk1
                unfold Gives
                exact ⟨_, Le.refl _ _, rfl, rfl⟩
              · replace h := bif_f hb h
                refine tri_skip ?_
                show Tri _ _ _ _
                refine tri_seq ?_
                refine tri_region tokW gok [] [141, 142] rfl ?_
                obtain ⟨hq, h⟩ := req_out h
                refine And.intro ⟨hq.1, hq.2.1, Int.le_trans hq.2.2 (Int.ofNat_le.2 (Nat.le_of_eq (rlen (fun _ => rfl) _).symm))⟩ ?_
                intro r27 hr27
                obtain rfl : (List.map brow) ((a1.take (IntKind.i64.wrap (x12 + (IntKind.i64.wrap x11))).toNat).drop x12.toNat) = r27 := (hr27.trans (rcut (fun _ => rfl) _ _ _)).symm
                refine And.intro (show List.map brow ((a1.take (IntKind.i64.wrap (x12 + (IntKind.i64.wrap x11))).toNat).drop x12.toNat) = ((List.map brow ((a1.take (IntKind.i64.wrap (x12 + (IntKind.i64.wrap x11))).toNat).drop x12.toNat)).map browOf).map brow from by rw [brow_back]) ?_
                intro s28 hs28
                obtain rfl : (a1.take (IntKind.i64.wrap (x12 + (IntKind.i64.wrap x11))).toNat).drop x12.toNat = s28 := (hs28.trans (brow_back _)).symm
                show Tri _ _ _ _
                refine tri_region tokW gok [] [] rfl ?_
                cases h
                exact ⟨_, rfl, (Le.trans (Le.trans (Le.rename [(0, 0), (1, 1)] [(4, .op 0 0), (6, .op 1 0), (8, .s (.int .i64 (IntKind.i64.wrap (x12 + (IntKind.i64.wrap x11)))))] [(0, .box [.s (.int .i64 0), .s (.int .i64 0), .s (.str []), .nl 4]), (1, .box [.s (.int .i64 (IntKind.i64.wrap ((IntKind.i64.wrap (e7.toNat : Int)).tdiv 64))), .s (.int .i64 0), .s (.str ((a1.take (IntKind.i64.wrap (x12 + (IntKind.i64.wrap x11))).toNat).drop x12.toNat)), .nl 4])] 2 ⟨rfl, rfl, rfl, trivial⟩ ⟨rfl, ⟨_, rfl, rfl⟩, rfl, ⟨_, rfl, rfl⟩, trivial⟩ rfl rfl rfl rfl rfl) (Le.takeNil 1 3 24 rfl rfl (by decide))) (Le.rename [(0, 0), (1, 1), (2, 2)] _ _ _ ⟨rfl, rfl, rfl, trivial⟩ ⟨rfl, ⟨_, rfl, rfl⟩, rfl, ⟨_, rfl, rfl⟩, rfl, ⟨_, rfl, congrArg (Ob.row 24 4) (by simp [List.map_append, List.map_take, List.map_drop, irow, brow, b8of_row, List.map_cons, List.map_nil, b8of_wrap, CV.encs_eq, CV.enc, enc61, enc66, enc70])⟩, trivial⟩ rfl rfl rfl rfl rfl))⟩
            · replace h := bif_f hb h
              refine tri_seq ?_
              refine tri_seq ?_
              refine tri_region tokW gok [] [78] rfl ?_
              intro n29 hn29
              obtain rfl : (a1.length : Int) = n29 := (hn29.trans (congrArg (fun m : Nat => (m : Int)) (rlen (fun _ => rfl) a1))).symm
              show Tri _ _ _ _
              refine tri_cond rfl (fun hb => ?_) (fun hb => ?_)
              · replace h := bif_t hb h
                refine tri_seq ?_
                refine tri_region tokW gok [] [] rfl ?_
                show Tri _ _ _ _
                refine tri_ret ?_
                cases h
                replace h : some _ = some _ := ho1
                obtain ⟨hj1, hk1⟩ := Prod.mk.inj (Option.some.inj h)
                subst hj1
                subst hk1
                unfold Gives
                exact ⟨_, Le.refl _ _, rfl, rfl⟩
              · replace h := bif_f hb h
                refine tri_skip ?_
                show Tri _ _ _ _
                refine tri_seq ?_
                refine tri_region tokW gok [] [] rfl ?_
                show Tri _ _ _ _
                obtain ⟨fl, hl, ho2⟩ := bind_out h
                refine tri_fl (fl := fl) (fun z => match z with | ⟨x35, l36⟩ => ⟨ofL [(4, .op 0 0), (6, .op 1 0), (8, .s (.int .i64 x35))], ofH [(0, .box [.s (.int .i64 0), .s (.int .i64 0), .s (.str []), .nl 4]), (1, .box [.s (.int .i64 (IntKind.i64.wrap ((IntKind.i64.wrap (e7.toNat : Int)).tdiv 64))), .s (.int .i64 0), .s (.str []), .orow 2]), (2, .row 24 4 (CV.encs l36))], 3⟩) ?_ (fun z σ' hz hle => ?_)
                · refine tri_block (tri_loopI (X := Nat × Int × Int × (List CV)) (fun y => match y with | (k, x32, x33, l34) => ⟨ofL [(0, .s (.sl 1 ((List.map brow) a1))), (1, .s (.int .i64 a2)), (4, .op 0 0), (6, .op 1 0), (7, .s (.int .u64 x11)), (8, .s (.int .i64 x33)), (11, .s (.int .i64 x32))], ofH [(0, .box [.s (.int .i64 0), .s (.int .i64 0), .s (.str []), .nl 4]), (1, .box [.s (.int .i64 (IntKind.i64.wrap ((IntKind.i64.wrap (e7.toNat : Int)).tdiv 64))), .s (.int .i64 0), .s (.str []), .orow 2]), (2, .row 24 4 (CV.encs l34))], 3⟩) (fun y => m27_l2 (m27 n) a1 a2 x11 y.1 y.2.1 y.2.2.1 y.2.2.2 = some fl) (fun y => y.1) (n, 0, x12, []) hl ?_ ?_)
                  · exact (Le.trans (Le.trans (Le.rename [(0, 0), (1, 1)] [(0, .s (.sl 1 ((List.map brow) a1))), (1, .s (.int .i64 a2)), (4, .op 0 0), (6, .op 1 0), (7, .s (.int .u64 x11)), (8, .s (.int .i64 x12)), (11, .s (.int .i64 0))] [(0, .box [.s (.int .i64 0), .s (.int .i64 0), .s (.str []), .nl 4]), (1, .box [.s (.int .i64 (IntKind.i64.wrap ((IntKind.i64.wrap (e7.toNat : Int)).tdiv 64))), .s (.int .i64 0), .s (.str []), .nl 4])] 2 ⟨rfl, rfl, rfl, rfl, rfl, rfl, rfl, trivial⟩ ⟨rfl, ⟨_, rfl, rfl⟩, rfl, ⟨_, rfl, rfl⟩, trivial⟩ rfl rfl rfl rfl rfl) (Le.takeNil 1 3 24 rfl rfl (by decide))) (Le.rename [(0, 0), (1, 1), (2, 2)] _ _ _ ⟨rfl, rfl, rfl, rfl, rfl, rfl, rfl, trivial⟩ ⟨rfl, ⟨_, rfl, rfl⟩, rfl, ⟨_, rfl, rfl⟩, rfl, ⟨_, rfl, congrArg (Ob.row 24 4) (by simp [List.map_append, List.map_take, List.map_drop, irow, brow, b8of_row, List.map_cons, List.map_nil, b8of_wrap, CV.encs_eq, CV.enc, enc61, enc66, enc70])⟩, trivial⟩ rfl rfl rfl rfl rfl))
                  · rintro ⟨k, x32, x33, l34⟩ h
                    cases k with
                    | zero => cases h
                    | succ k =>
                      refine tri_seq ?_
                      refine tri_seq ?_
                      refine tri_region tokW gok [] [] rfl ?_
                      show Tri _ _ _ _
                      refine tri_cond rfl (fun hb => ?_) (fun hb => ?_)
                      · replace h := bif_t hb h
                        refine tri_skip ?_
                        show Tri _ _ _ _
                        refine tri_seq ?_
                        refine tri_block ?_
                        refine tri_seq ?_
                        refine tri_region tokW gok [12] [93] rfl ?_
                        obtain ⟨hq, h⟩ := req_out h
                        refine And.intro ⟨hq.1, Int.le_trans hq.2.1 (Int.ofNat_le.2 (Nat.le_of_eq (rlen (fun _ => rfl) _).symm)), Int.le_refl _⟩ ?_
                        intro r37 hr37
                        obtain rfl : (List.map brow) ((a1.take (a1.length : Int).toNat).drop x33.toNat) = r37 := (hr37.trans ((congrArg (fun m : Nat => (((List.map brow) a1).take m).drop x33.toNat) (rlen (fun _ => rfl) _)).trans (rcut (fun _ => rfl) _ _ _))).symm
                        obtain ⟨⟨⟨y38_kind, y38_int, y38_text, y38_list⟩, y39⟩, hy38, h⟩ := bind_out h
                        refine ⟨_, ⟨_, _, _, _, hy38, rfl, rfl⟩, ?_⟩
                        show Tri _ _ _ _
                        refine tri_le (Le.giveBox 3 [.int .i64 y38_kind, .int .i64 y38_int, .str y38_text, .sl 4 (CV.encs y38_list)] rfl rfl) ?_
                        refine tri_seq ?_
                        refine tri_seq ?_
                        refine tri_region tokW gok [] [] rfl ?_
                        show Tri _ _ _ _
                        refine tri_cond rfl (fun hb => ?_) (fun hb => ?_)
                        · replace h := bif_t hb h
                          refine tri_seq ?_
                          refine tri_region tokW gok [] [] rfl ?_
                          show Tri _ _ _ _
                          refine tri_ret ?_
                          cases h
                          replace h : some _ = some _ := ho2
                          cases h
                          replace h : some _ = some _ := ho1
                          obtain ⟨hj1, hk1⟩ := Prod.mk.inj (Option.some.inj h)
                          subst hj1
                          subst hk1
                          unfold Gives
                          exact ⟨_, Le.refl _ _, rfl, rfl⟩
                        · replace h := bif_f hb h
                          refine tri_skip ?_
                          show Tri _ _ _ _
                          refine tri_seq ?_
                          refine tri_region tokW gok [106] [105] rfl ?_
                          intro r40 hr40
                          obtain rfl : CV.encs [CV.mk y38_kind y38_int y38_text y38_list] = r40 := (hr40.trans (by simp [List.map_append, List.map_take, List.map_drop, irow, brow, b8of_row, List.map_cons, List.map_nil, b8of_wrap, CV.encs_eq, CV.enc, enc61, enc66, enc70])).symm
                          obtain ⟨hq, h⟩ := req_out h
                          refine And.intro (show ((CV.encs l34).length + (CV.encs [CV.mk y38_kind y38_int y38_text y38_list]).length) * 56 ≤ 140737488355328 ∧ (CV.encs l34).length + (CV.encs [CV.mk y38_kind y38_int y38_text y38_list]).length ≤ 9223372036854775807 from by simp only [List.length_append, List.length_cons, List.length_nil, List.length_map, rlen CV.encs_eq] at hq ⊢; omega) ?_
                          show Tri _ _ _ _
                          refine tri_le (Le.rename [(0, 0), (1, 1), (4, 2)] [(0, .s (.sl 1 ((List.map brow) a1))), (1, .s (.int .i64 a2)), (4, .op 0 0), (6, .op 1 0), (7, .s (.int .u64 x11)), (8, .s (.int .i64 x33)), (11, .s (.int .i64 x32)), (13, .s (.int .i64 y39))] [(0, .box [.s (.int .i64 0), .s (.int .i64 0), .s (.str []), .nl 4]), (1, .box [.s (.int .i64 (IntKind.i64.wrap ((IntKind.i64.wrap (e7.toNat : Int)).tdiv 64))), .s (.int .i64 0), .s (.str []), .orow 2]), (2, .row 24 4 (CV.encs (l34 ++ [CV.mk y38_kind y38_int y38_text y38_list])))] 3 ⟨rfl, rfl, rfl, rfl, rfl, rfl, rfl, rfl, trivial⟩ ⟨rfl, ⟨_, rfl, rfl⟩, rfl, ⟨_, rfl, rfl⟩, rfl, ⟨_, rfl, congrArg (Ob.row 24 4) (by simp [List.map_append, List.map_take, List.map_drop, irow, brow, b8of_row, List.map_cons, List.map_nil, b8of_wrap, CV.encs_eq, CV.enc, enc61, enc66, enc70])⟩, trivial⟩ rfl rfl rfl rfl rfl) ?_
                          refine tri_region tokW gok [] [] rfl ?_
                          show Tri _ _ _ _
                          refine tri_region tokW gok [] [] rfl ?_
                          refine ⟨(k, IntKind.i64.wrap (x32 + 1), IntKind.i64.wrap (x33 + y39), l34 ++ [CV.mk y38_kind y38_int y38_text y38_list]), h, (Le.rename [(0, 0), (1, 1), (2, 2)] _ _ _ ⟨rfl, rfl, rfl, rfl, rfl, rfl, rfl, trivial⟩ ⟨rfl, ⟨_, rfl, rfl⟩, rfl, ⟨_, rfl, rfl⟩, rfl, ⟨_, rfl, rfl⟩, trivial⟩ rfl rfl rfl rfl rfl), Nat.lt_succ_self k⟩
                      · replace h := bif_f hb h
                        refine tri_exit ?_
                        cases h
                        exact ⟨_, rfl, (Le.rename [(0, 0), (1, 1), (2, 2)] _ _ _ ⟨rfl, rfl, rfl, trivial⟩ ⟨rfl, ⟨_, rfl, rfl⟩, rfl, ⟨_, rfl, rfl⟩, rfl, ⟨_, rfl, rfl⟩, trivial⟩ rfl rfl rfl rfl rfl)⟩
                · subst hz
                  obtain ⟨x35, l36⟩ := z
                  replace h := ho2
                  cases h
                  exact ⟨_, rfl, (Le.trans hle (Le.rename [(0, 0), (1, 1), (2, 2)] _ _ _ ⟨rfl, rfl, rfl, trivial⟩ ⟨rfl, ⟨_, rfl, rfl⟩, rfl, ⟨_, rfl, rfl⟩, rfl, ⟨_, rfl, rfl⟩, trivial⟩ rfl rfl rfl rfl rfl))⟩
        · subst hz
          obtain ⟨x22, x23, x24, l25⟩ := z
          replace h := ho1
          show Tri _ _ _ _
          refine tri_le hle ?_
          refine tri_seq ?_
          refine tri_region tokW gok [] [] rfl ?_
          show Tri _ _ _ _
          refine tri_ret ?_
          obtain ⟨hj1, hk1⟩ := Prod.mk.inj (Option.some.inj h)
          subst hj1
          subst hk1
          unfold Gives
          exact ⟨_, (Le.trans (Le.rename [(0, 0), (2, 1)] [(4, .op 0 0), (5, .s (.int .i64 x22))] [(0, .box [.s (.int .i64 (IntKind.i64.wrap ((IntKind.i64.wrap (e7.toNat : Int)).tdiv 64))), .s (.int .i64 x23), .s (.str x24), .orow 1]), (1, .row 24 4 (CV.encs l25))] 2 ⟨rfl, rfl, trivial⟩ ⟨rfl, ⟨_, rfl, rfl⟩, rfl, ⟨_, rfl, rfl⟩, trivial⟩ rfl rfl rfl rfl rfl) (Le.giveRow 1 rfl)), rfl, rfl⟩
theorem all27 : ∀ n, PSound Try.prog 27 (pspec (R27 n)) := by
  intro n
  induction n with
  | zero => exact ⟨Try.call27, fun G w xs vs r _ _ _ h => (by obtain ⟨_, _, _, _, h, _⟩ := h; cases h), fun R hR => by cases hR⟩
  | succ n ih => exact step27 n ih
def S27 : PSpec := pspec fun xs r => ∃ n, R27 n xs r
theorem ok27 : PSound Try.prog 27 S27 := psound_all all27

/- vinculum/vinculumref03.Decode -/
def m23 (n : Nat) : (List UInt8) → Option (CV × Int)
| b1 =>
  (m27 n b1 64).bind fun ⟨⟨y2_kind, y2_int, y2_text, y2_list⟩, y3⟩ =>
  (
    bif (y3 == 0) then (
      some true
    ) else (
      bif (y3 != (b1.length : Int)) then (
        some true
      ) else (
        some (decide (1048576 < y3))
      )
    )
   : Option (Bool)).bind fun x4 =>
  bif x4 then (
    some (CV.mk 0 0 [] [], 4)
  ) else (
    some (CV.mk y2_kind y2_int y2_text y2_list, 0)
  )
def R23 (n : Nat) (xs : List AV) (r : Ret) : Prop := ∃ (a0 : List UInt8) (y0 : CV) (y1 : Int), m23 n a0 = some (y0, y1) ∧ xs = [.s (.sl 1 ((List.map brow) a0))] ∧ r = .val (.tup [.agg ((CV.enc y0).map .s), .s (.int .i64 y1)])
def S23 : PSpec := pspec fun xs r => ∃ n, R23 n xs r
set_option maxHeartbeats 2000000 in
theorem ok23 : PSound Try.prog 23 S23 := by
  have gok : ∀ f s, look? f [(27, S27)] = some s → PSound Try.prog f s := look_all (by
    simp only [List.forall_mem_cons]
    exact ⟨ok27, by simp⟩)
  refine psound tokW Try.call23 Try.func23 rfl (fun xs r h => by obtain ⟨n, _, _, _, _, rfl, _⟩ := h; show 1 ≤ 25; decide) 25 rfl ?_
  rintro xs r w0 G0 ⟨n, b1, y0, y1, h, rfl, rfl⟩ _
  refine tri_seq ?_
  refine tri_region tokW gok [2] [] rfl ?_
  show Tri _ _ _ _
  refine tri_seq ?_
  refine tri_region tokW gok [4] [] rfl ?_
  obtain ⟨⟨⟨y2_kind, y2_int, y2_text, y2_list⟩, y3⟩, hy2, h⟩ := bind_out h
  refine ⟨_, ⟨_, _, _, _, _, hy2, rfl, rfl⟩, ?_⟩
  show Tri _ _ _ _
  refine tri_le (Le.giveBox 1 [.int .i64 y2_kind, .int .i64 y2_int, .str y2_text, .sl 4 (CV.encs y2_list)] rfl rfl) ?_
  refine tri_seq ?_
  refine tri_seq ?_
  obtain ⟨x4, hj, h⟩ := bind_out h
  refine tri_post ⟨ofL [(2, .op 0 0), (4, .s (.pt [.int .i64 y2_kind, .int .i64 y2_int, .str y2_text, .sl 4 (CV.encs y2_list)])), (22, .s (.bool x4))], ofH [(0, .box [.s (.int .i64 0), .s (.int .i64 0), .s (.str []), .nl 4])], 1⟩ ?_ (fun σ' hle => ?_)
  · replace h := hj
    refine tri_region tokW gok [] [13, 16, 19] rfl ?_
    intro b hb
    cases b with
    | true =>
      replace h := bif_t hb.symm h
      intro b hb
      subst hb
      cases h
      exact (Le.rename [(0, 0)] _ _ _ ⟨rfl, rfl, rfl, trivial⟩ ⟨rfl, ⟨_, rfl, rfl⟩, trivial⟩ rfl rfl rfl rfl rfl)
    | false =>
      replace h := bif_f hb.symm h
      intro n5 hn5
      obtain rfl : (b1.length : Int) = n5 := (hn5.trans (congrArg (fun m : Nat => (m : Int)) (rlen (fun _ => rfl) b1))).symm
      intro b hb
      cases b with
      | true =>
        replace h := bif_t hb.symm h
        cases h
        exact (Le.rename [(0, 0)] _ _ _ ⟨rfl, rfl, rfl, trivial⟩ ⟨rfl, ⟨_, rfl, rfl⟩, trivial⟩ rfl rfl rfl rfl rfl)
      | false =>
        replace h := bif_f hb.symm h
        cases h
        exact (Le.rename [(0, 0)] _ _ _ ⟨rfl, rfl, rfl, trivial⟩ ⟨rfl, ⟨_, rfl, rfl⟩, trivial⟩ rfl rfl rfl rfl rfl)
  · show Tri _ _ _ _
    refine tri_le hle ?_
    refine tri_cond rfl (fun hb => ?_) (fun hb => ?_)
    · replace h := bif_t hb h
      refine tri_seq ?_
      refine tri_region tokW gok [] [] rfl ?_
      show Tri _ _ _ _
      refine tri_ret ?_
      obtain ⟨hj1, hk1⟩ := Prod.mk.inj (Option.some.inj h)
      subst hj1
      subst hk1
      unfold Gives
      exact ⟨_, Le.refl _ _, rfl, rfl⟩
    · replace h := bif_f hb h
      refine tri_skip ?_
      show Tri _ _ _ _
      refine tri_seq ?_
      refine tri_region tokW gok [] [] rfl ?_
      show Tri _ _ _ _
      refine tri_ret ?_
      obtain ⟨hj1, hk1⟩ := Prod.mk.inj (Option.some.inj h)
      subst hj1
      subst hk1
      unfold Gives
      exact ⟨_, Le.refl _ _, rfl, rfl⟩

/- vinculum/vinculumlaw03.back -/
def m24_l1 (F24 : CV → Int → Option (CV × Bool)) (v1_kind : Int) (v1_int : Int) (v1_text : List UInt8) (v1_list : List CV) (most2 : Int) : Nat → Int → (List CV) → Option (Fl (CV × Bool) ((List CV)))
| 0, _, _ => none
| k+1, i6, l7 =>
  bif decide (i6 < (v1_list.length : Int)) then (
    (at? v1_list i6).bind fun ⟨e10_kind, e10_int, e10_text, e10_list⟩ =>
    (F24 (CV.mk e10_kind e10_int e10_text e10_list) most2).bind fun ⟨⟨y12_kind, y12_int, y12_text, y12_list⟩, y13⟩ =>
    bif (!y13) then (
      some (.ret (CV.mk v1_kind v1_int v1_text l7, false))
    ) else (
      req (l7.length + [CV.mk y12_kind y12_int y12_text y12_list].length ≤ 4294967296) <|
      m24_l1 F24 v1_kind v1_int v1_text v1_list most2 k (IntKind.i64.wrap (i6 + 1)) (l7 ++ [CV.mk y12_kind y12_int y12_text y12_list])
    )
  ) else (
    some (.go l7)
  )
def m24 : Nat → CV → Int → Option (CV × Bool)
| 0, _, _ => none
| n+1, ⟨v1_kind, v1_int, v1_text, v1_list⟩, most2 =>
  bif decide (most2 < (v1_list.length : Int)) then (
    some (CV.mk v1_kind v1_int v1_text [], false)
  ) else (
    (m24_l1 (m24 n) v1_kind v1_int v1_text v1_list most2 n 0 []).bind fun fl => match fl with
    | .ret r => some r
    | .go l8 =>
      some (CV.mk v1_kind v1_int v1_text l8, true)
  )
def R24 (n : Nat) (xs : List AV) (r : Ret) : Prop := ∃ (a0 : CV) (a1 : Int) (y0 : CV) (y1 : Bool), m24 n a0 a1 = some (y0, y1) ∧ xs = [.agg ((CV.enc a0).map .s), .s (.int .i64 a1)] ∧ r = .val (.tup [.agg ((CV.enc y0).map .s), .s (.bool y1)])
set_option maxHeartbeats 2000000 in
theorem step24 (n : Nat) (ih : PSound Try.prog 24 (pspec (R24 n))) : PSound Try.prog 24 (pspec (R24 (n + 1))) := by
  have gok : ∀ f s, look? f [(24, pspec (R24 n))] = some s → PSound Try.prog f s := look_all (by
    simp only [List.forall_mem_cons]
    exact ⟨ih, by simp⟩)
  refine psound tokW Try.call24 Try.func24 rfl (fun xs r h => by obtain ⟨_, _, _, _, _, rfl, _⟩ := h; show 2 ≤ 50; decide) 50 rfl ?_
  rintro xs r w0 G0 ⟨⟨v1_kind, v1_int, v1_text, v1_list⟩, most2, y0, y1, h, rfl, rfl⟩ _
  refine tri_seq ?_
  refine tri_region tokW gok [4] [] rfl ?_
  show Tri _ _ _ _
  refine tri_seq ?_
  refine tri_region tokW gok [6] [] rfl ?_
  show Tri _ _ _ _
  refine tri_seq ?_
  refine tri_seq ?_
  refine tri_region tokW gok [] [19] rfl ?_
  intro n3 hn3
  obtain rfl : (v1_list.length : Int) = n3 := (hn3.trans (congrArg (fun m : Nat => (m : Int)) (rlen CV.encs_eq v1_list))).symm
  show Tri _ _ _ _
  refine tri_cond rfl (fun hb => ?_) (fun hb => ?_)
  · replace h := bif_t hb h
    refine tri_seq ?_
    refine tri_region tokW gok [] [] rfl ?_
    show Tri _ _ _ _
    refine tri_ret ?_
    obtain ⟨hj1, hk1⟩ := Prod.mk.inj (Option.some.inj h)
    subst hj1
    subst hk1
    unfold Gives
    exact ⟨_, Le.refl _ _, rfl, rfl⟩
  · replace h := bif_f hb h
    refine tri_skip ?_
    show Tri _ _ _ _
    refine tri_seq ?_
    refine tri_seq ?_
    refine tri_region tokW gok [] [] rfl ?_
    show Tri _ _ _ _
    obtain ⟨fl, hl, ho1⟩ := bind_out h
    refine tri_fl (fl := fl) (fun z => match z with | l8 => ⟨ofL [(4, .op 0 0), (6, .op 1 0)], ofH [(0, .box [.s (.int .i64 0), .s (.int .i64 0), .s (.str []), .nl 4]), (1, .box [.s (.int .i64 v1_kind), .s (.int .i64 v1_int), .s (.str v1_text), .orow 2]), (2, .row 24 4 (CV.encs l8))], 3⟩) ?_ (fun l8 σ' hz hle => ?_)
    · refine tri_block (tri_loopI (X := Nat × Int × (List CV)) (fun y => match y with | (k, i6, l7) => ⟨ofL [(1, .s (.int .i64 most2)), (2, .s (.pt [.int .i64 v1_kind, .int .i64 v1_int, .str v1_text, .sl 4 (CV.encs v1_list)])), (4, .op 0 0), (6, .op 1 0), (7, .s (.int .i64 i6))], ofH [(0, .box [.s (.int .i64 0), .s (.int .i64 0), .s (.str []), .nl 4]), (1, .box [.s (.int .i64 v1_kind), .s (.int .i64 v1_int), .s (.str v1_text), .orow 2]), (2, .row 24 4 (CV.encs l7))], 3⟩) (fun y => m24_l1 (m24 n) v1_kind v1_int v1_text v1_list most2 y.1 y.2.1 y.2.2 = some fl) (fun y => y.1) (n, 0, []) hl ?_ ?_)
      · exact (Le.trans (Le.trans (Le.rename [(0, 0), (1, 1)] [(1, .s (.int .i64 most2)), (2, .s (.pt [.int .i64 v1_kind, .int .i64 v1_int, .str v1_text, .sl 4 (CV.encs v1_list)])), (4, .op 0 0), (6, .op 1 0), (7, .s (.int .i64 0))] [(0, .box [.s (.int .i64 0), .s (.int .i64 0), .s (.str []), .nl 4]), (1, .box [.s (.int .i64 v1_kind), .s (.int .i64 v1_int), .s (.str v1_text), .nl 4])] 2 ⟨rfl, rfl, rfl, rfl, rfl, trivial⟩ ⟨rfl, ⟨_, rfl, rfl⟩, rfl, ⟨_, rfl, rfl⟩, trivial⟩ rfl rfl rfl rfl rfl) (Le.takeNil 1 3 24 rfl rfl (by decide))) (Le.rename [(0, 0), (1, 1), (2, 2)] _ _ _ ⟨rfl, rfl, rfl, rfl, rfl, trivial⟩ ⟨rfl, ⟨_, rfl, rfl⟩, rfl, ⟨_, rfl, rfl⟩, rfl, ⟨_, rfl, congrArg (Ob.row 24 4) (by simp [List.map_append, List.map_take, List.map_drop, irow, brow, b8of_row, List.map_cons, List.map_nil, b8of_wrap, CV.encs_eq, CV.enc, enc61, enc66, enc70])⟩, trivial⟩ rfl rfl rfl rfl rfl))
      · rintro ⟨k, i6, l7⟩ h
        cases k with
        | zero => cases h
        | succ k =>
          refine tri_seq ?_
          refine tri_seq ?_
          refine tri_region tokW gok [] [26] rfl ?_
          intro n9 hn9
          obtain rfl : (v1_list.length : Int) = n9 := (hn9.trans (congrArg (fun m : Nat => (m : Int)) (rlen CV.encs_eq v1_list))).symm
          show Tri _ _ _ _
          refine tri_cond rfl (fun hb => ?_) (fun hb => ?_)
          · replace h := bif_t hb h
            refine tri_skip ?_
            show Tri _ _ _ _
            refine tri_seq ?_
            refine tri_block ?_
            refine tri_seq ?_
            refine tri_region tokW gok [8] [34] rfl ?_
            obtain ⟨⟨e10_kind, e10_int, e10_text, e10_list⟩, he10, h⟩ := bind_out h
            refine And.intro (at_ok CV.encs_eq he10).1 ?_
            intro r11 hr11
            obtain rfl : [.int .i64 e10_kind, .int .i64 e10_int, .str e10_text, .sl 4 (CV.encs e10_list)] = r11 := (hr11.trans (at_ok CV.encs_eq he10).2.1).symm
            obtain ⟨⟨⟨y12_kind, y12_int, y12_text, y12_list⟩, y13⟩, hy12, h⟩ := bind_out h
            refine ⟨_, ⟨_, _, _, _, hy12, rfl, rfl⟩, ?_⟩
            show Tri _ _ _ _
            refine tri_le (Le.giveBox 3 [.int .i64 y12_kind, .int .i64 y12_int, .str y12_text, .sl 4 (CV.encs y12_list)] rfl rfl) ?_
            refine tri_seq ?_
            refine tri_seq ?_
            refine tri_region tokW gok [] [] rfl ?_
            show Tri _ _ _ _
            refine tri_cond rfl (fun hb => ?_) (fun hb => ?_)
            · replace h := bif_t hb h
              refine tri_seq ?_
              refine tri_region tokW gok [] [] rfl ?_
              show Tri _ _ _ _
              refine tri_ret ?_
              cases h
              replace h : some _ = some _ := ho1
              obtain ⟨hj1, hk1⟩ := Prod.mk.inj (Option.some.inj h)
              subst hj1
              subst hk1
              unfold Gives
              exact ⟨_, (Le.trans (Le.rename [(0, 0), (2, 1)] [(4, .op 0 0), (5, .s (.bool false))] [(0, .box [.s (.int .i64 v1_kind), .s (.int .i64 v1_int), .s (.str v1_text), .orow 1]), (1, .row 24 4 (CV.encs l7))] 2 ⟨rfl, rfl, trivial⟩ ⟨rfl, ⟨_, rfl, rfl⟩, rfl, ⟨_, rfl, rfl⟩, trivial⟩ rfl rfl rfl rfl rfl) (Le.giveRow 1 rfl)), rfl, rfl⟩
            · replace h := bif_f hb h
              refine tri_skip ?_
              show Tri _ _ _ _
              refine tri_region tokW gok [47] [46] rfl ?_
              intro r14 hr14
              obtain rfl : CV.encs [CV.mk y12_kind y12_int y12_text y12_list] = r14 := (hr14.trans (by simp [List.map_append, List.map_take, List.map_drop, irow, brow, b8of_row, List.map_cons, List.map_nil, b8of_wrap, CV.encs_eq, CV.enc, enc61, enc66, enc70])).symm
              obtain ⟨hq, h⟩ := req_out h
              refine And.intro (show ((CV.encs l7).length + (CV.encs [CV.mk y12_kind y12_int y12_text y12_list]).length) * 56 ≤ 140737488355328 ∧ (CV.encs l7).length + (CV.encs [CV.mk y12_kind y12_int y12_text y12_list]).length ≤ 9223372036854775807 from by simp only [List.length_append, List.length_cons, List.length_nil, List.length_map, rlen CV.encs_eq] at hq ⊢; omega) ?_
              show Tri _ _ _ _
              refine tri_le (Le.rename [(0, 0), (1, 1), (4, 2)] [(1, .s (.int .i64 most2)), (2, .s (.pt [.int .i64 v1_kind, .int .i64 v1_int, .str v1_text, .sl 4 (CV.encs v1_list)])), (4, .op 0 0), (6, .op 1 0), (7, .s (.int .i64 i6))] [(0, .box [.s (.int .i64 0), .s (.int .i64 0), .s (.str []), .nl 4]), (1, .box [.s (.int .i64 v1_kind), .s (.int .i64 v1_int), .s (.str v1_text), .orow 2]), (2, .row 24 4 (CV.encs (l7 ++ [CV.mk y12_kind y12_int y12_text y12_list])))] 3 ⟨rfl, rfl, rfl, rfl, rfl, trivial⟩ ⟨rfl, ⟨_, rfl, rfl⟩, rfl, ⟨_, rfl, rfl⟩, rfl, ⟨_, rfl, congrArg (Ob.row 24 4) (by simp [List.map_append, List.map_take, List.map_drop, irow, brow, b8of_row, List.map_cons, List.map_nil, b8of_wrap, CV.encs_eq, CV.enc, enc61, enc66, enc70])⟩, trivial⟩ rfl rfl rfl rfl rfl) ?_
              refine tri_region tokW gok [] [] rfl ?_
              refine ⟨(k, IntKind.i64.wrap (i6 + 1), l7 ++ [CV.mk y12_kind y12_int y12_text y12_list]), h, (Le.rename [(0, 0), (1, 1), (2, 2)] _ _ _ ⟨rfl, rfl, rfl, rfl, rfl, trivial⟩ ⟨rfl, ⟨_, rfl, rfl⟩, rfl, ⟨_, rfl, rfl⟩, rfl, ⟨_, rfl, rfl⟩, trivial⟩ rfl rfl rfl rfl rfl), Nat.lt_succ_self k⟩
          · replace h := bif_f hb h
            refine tri_exit ?_
            cases h
            exact ⟨_, rfl, (Le.rename [(0, 0), (1, 1), (2, 2)] _ _ _ ⟨rfl, rfl, trivial⟩ ⟨rfl, ⟨_, rfl, rfl⟩, rfl, ⟨_, rfl, rfl⟩, rfl, ⟨_, rfl, rfl⟩, trivial⟩ rfl rfl rfl rfl rfl)⟩
    · subst hz
      replace h := ho1
      show Tri _ _ _ _
      refine tri_le hle ?_
      refine tri_seq ?_
      refine tri_region tokW gok [] [] rfl ?_
      show Tri _ _ _ _
      refine tri_ret ?_
      obtain ⟨hj1, hk1⟩ := Prod.mk.inj (Option.some.inj h)
      subst hj1
      subst hk1
      unfold Gives
      exact ⟨_, (Le.trans (Le.rename [(0, 0), (2, 1)] [(4, .op 0 0), (5, .s (.bool true))] [(0, .box [.s (.int .i64 v1_kind), .s (.int .i64 v1_int), .s (.str v1_text), .orow 1]), (1, .row 24 4 (CV.encs l8))] 2 ⟨rfl, rfl, trivial⟩ ⟨rfl, ⟨_, rfl, rfl⟩, rfl, ⟨_, rfl, rfl⟩, trivial⟩ rfl rfl rfl rfl rfl) (Le.giveRow 1 rfl)), rfl, rfl⟩
theorem all24 : ∀ n, PSound Try.prog 24 (pspec (R24 n)) := by
  intro n
  induction n with
  | zero => exact ⟨Try.call24, fun G w xs vs r _ _ _ h => (by obtain ⟨_, _, _, _, h, _⟩ := h; cases h), fun R hR => by cases hR⟩
  | succ n ih => exact step24 n ih
def S24 : PSpec := pspec fun xs r => ∃ n, R24 n xs r
theorem ok24 : PSound Try.prog 24 S24 := psound_all all24

/- vinculum/vinculumlaw03.CodecDecodes -/
def m5 (n : Nat) : (List UInt8) → Option Bool
| b1 =>
  (m11 n ).bind fun y2 =>
  bif (!y2) then (
    some false
  ) else (
    bif decide (3000 < (b1.length : Int)) then (
      some true
    ) else (
      req (([] : List UInt8).length + b1.length ≤ 4294967296) <|
      (m22 n b1).bind fun ⟨⟨y4_kind, y4_int, y4_text, y4_list⟩, y5⟩ =>
      (m23 n b1).bind fun ⟨⟨y6_kind, y6_int, y6_text, y6_list⟩, y7⟩ =>
      (m24 n (CV.mk y4_kind y4_int y4_text y4_list) 3000).bind fun ⟨⟨y8_kind, y8_int, y8_text, y8_list⟩, y9⟩ =>
      (
        bif (y5 == y7) then (
          bif y9 then (
            (m15 n (CV.mk y8_kind y8_int y8_text y8_list) (CV.mk y6_kind y6_int y6_text y6_list)).bind fun y11 =>
            bif y11 then (
              some (b1 == b1)
            ) else (
              some false
            )
          ) else (
            some false
          )
        ) else (
          some false
        )
       : Option (Bool)).bind fun x10 =>
      some x10
    )
  )
def R5 (n : Nat) (xs : List AV) (r : Ret) : Prop := ∃ (a0 : List UInt8) (y0 : Bool), m5 n a0 = some y0 ∧ xs = [.s (.sl 1 ((List.map brow) a0))] ∧ r = .val (.s (.bool y0))
def S5 : PSpec := pspec fun xs r => ∃ n, R5 n xs r
set_option maxHeartbeats 2000000 in
theorem ok5 : PSound Try.prog 5 S5 := by
  have gok : ∀ f s, look? f [(11, S11), (22, S22), (23, S23), (24, S24), (15, S15)] = some s → PSound Try.prog f s := look_all (by
    simp only [List.forall_mem_cons]
    exact ⟨ok11, ok22, ok23, ok24, ok15, by simp⟩)
  refine psound tokW Try.call5 Try.func5 rfl (fun xs r h => by obtain ⟨n, _, _, _, rfl, _⟩ := h; show 1 ≤ 51; decide) 51 rfl ?_
  rintro xs r w0 G0 ⟨n, b1, y0, h, rfl, rfl⟩ _
  refine tri_seq ?_
  refine tri_region tokW gok [] [] rfl ?_
  show Tri _ _ _ _
  refine tri_seq ?_
  refine tri_seq ?_
  refine tri_region tokW gok [] [] rfl ?_
  obtain ⟨y2, hy2, h⟩ := bind_out h
  refine ⟨_, ⟨_, _, hy2, rfl, rfl⟩, ?_⟩
  show Tri _ _ _ _
  refine tri_cond rfl (fun hb => ?_) (fun hb => ?_)
  · replace h := bif_t hb h
    refine tri_seq ?_
    refine tri_region tokW gok [] [] rfl ?_
    show Tri _ _ _ _
    refine tri_ret ?_
    have hy := Option.some.inj h
    subst hy
    unfold Gives
    exact ⟨_, Le.refl _ _, rfl, rfl⟩
  · replace h := bif_f hb h
    refine tri_skip ?_
    show Tri _ _ _ _
    refine tri_seq ?_
    refine tri_seq ?_
    refine tri_region tokW gok [] [13] rfl ?_
    intro n3 hn3
    obtain rfl : (b1.length : Int) = n3 := (hn3.trans (congrArg (fun m : Nat => (m : Int)) (rlen (fun _ => rfl) b1))).symm
    show Tri _ _ _ _
    refine tri_cond rfl (fun hb => ?_) (fun hb => ?_)
    · replace h := bif_t hb h
      refine tri_seq ?_
      refine tri_region tokW gok [] [] rfl ?_
      show Tri _ _ _ _
      refine tri_ret ?_
      have hy := Option.some.inj h
      subst hy
      unfold Gives
      exact ⟨_, Le.refl _ _, rfl, rfl⟩
    · replace h := bif_f hb h
      refine tri_skip ?_
      show Tri _ _ _ _
      refine tri_seq ?_
      refine tri_region tokW gok [15, 17] [] rfl ?_
      obtain ⟨hq, h⟩ := req_out h
      refine And.intro (show (([] : List (List S)).length + ((List.map brow) b1).length) * 1 ≤ 140737488355328 ∧ ([] : List (List S)).length + ((List.map brow) b1).length ≤ 9223372036854775807 from by simp only [List.length_append, List.length_cons, List.length_nil, List.length_map, rlen (fun _ => rfl)] at hq ⊢; omega) ?_
      show Tri _ _ _ _
      refine tri_le (Le.trans (Le.rename [(1, 0)] [(0, .s (.sl 1 ((List.map brow) b1))), (3, .orow 0)] [(0, .row 5 1 ((List.map brow) b1))] 1 ⟨rfl, rfl, trivial⟩ ⟨rfl, ⟨_, rfl, congrArg (Ob.row 5 1) (by simp [List.map_append, List.map_take, List.map_drop, irow, brow, b8of_row, List.map_cons, List.map_nil, b8of_wrap, CV.encs_eq, CV.enc, enc61, enc66, enc70])⟩, trivial⟩ rfl rfl rfl rfl rfl) (Le.giveRow 0 rfl)) ?_
      refine tri_seq ?_
      refine tri_region tokW gok [4] [] rfl ?_
      obtain ⟨⟨⟨y4_kind, y4_int, y4_text, y4_list⟩, y5⟩, hy4, h⟩ := bind_out h
      refine ⟨_, ⟨_, _, _, _, hy4, rfl, rfl⟩, ?_⟩
      show Tri _ _ _ _
      refine tri_le (Le.giveBox 1 [.int .i64 y4_kind, .int .i64 y4_int, .str y4_text, .sl 4 (CV.encs y4_list)] rfl rfl) ?_
      refine tri_seq ?_
      refine tri_region tokW gok [6] [] rfl ?_
      obtain ⟨⟨⟨y6_kind, y6_int, y6_text, y6_list⟩, y7⟩, hy6, h⟩ := bind_out h
      refine ⟨_, ⟨_, _, _, _, hy6, rfl, rfl⟩, ?_⟩
      show Tri _ _ _ _
      refine tri_le (Le.giveBox 2 [.int .i64 y6_kind, .int .i64 y6_int, .str y6_text, .sl 4 (CV.encs y6_list)] rfl rfl) ?_
      refine tri_seq ?_
      refine tri_region tokW gok [8] [] rfl ?_
      obtain ⟨⟨⟨y8_kind, y8_int, y8_text, y8_list⟩, y9⟩, hy8, h⟩ := bind_out h
      refine ⟨_, ⟨_, _, _, _, _, hy8, rfl, rfl⟩, ?_⟩
      show Tri _ _ _ _
      refine tri_le (Le.giveBox 3 [.int .i64 y8_kind, .int .i64 y8_int, .str y8_text, .sl 4 (CV.encs y8_list)] rfl rfl) ?_
      refine tri_seq ?_
      obtain ⟨x10, hj, h⟩ := bind_out h
      refine tri_post ⟨ofL [(2, .s (.bool x10))], ofH [], 0⟩ ?_ (fun σ' hle => ?_)
      · replace h := hj
        refine tri_region tokW gok [] [36, 39, 44, 46, 48] rfl ?_
        intro b hb
        cases b with
        | true =>
          replace h := bif_t hb.symm h
          intro b hb
          cases b with
          | true =>
            replace h := bif_t hb.symm h
            obtain ⟨y11, hy11, h⟩ := bind_out h
            refine ⟨_, ⟨_, _, _, _, hy11, rfl, rfl⟩, ?_⟩
            intro b hb
            cases b with
            | true =>
              replace h := bif_t hb.symm h
              refine And.intro (show List.map brow b1 = ((List.map brow b1).map browOf).map brow from by rw [brow_back]) ?_
              intro s12 hs12
              obtain rfl : b1 = s12 := (hs12.trans (brow_back _)).symm
              refine And.intro (show List.map brow b1 = ((List.map brow b1).map browOf).map brow from by rw [brow_back]) ?_
              intro s13 hs13
              obtain rfl : b1 = s13 := (hs13.trans (brow_back _)).symm
              cases h
              exact (Le.rename [] _ _ _ ⟨rfl, trivial⟩ trivial rfl rfl rfl rfl rfl)
            | false =>
              replace h := bif_f hb.symm h
              cases h
              exact (Le.rename [] _ _ _ ⟨rfl, trivial⟩ trivial rfl rfl rfl rfl rfl)
          | false =>
            replace h := bif_f hb.symm h
            intro b hb
            subst hb
            cases h
            exact (Le.rename [] _ _ _ ⟨rfl, trivial⟩ trivial rfl rfl rfl rfl rfl)
        | false =>
          replace h := bif_f hb.symm h
          intro b hb
          subst hb
          intro b hb
          subst hb
          cases h
          exact (Le.rename [] _ _ _ ⟨rfl, trivial⟩ trivial rfl rfl rfl rfl rfl)
      · show Tri _ _ _ _
        refine tri_le hle ?_
        refine tri_ret ?_
        have hy := Option.some.inj h
        subst hy
        unfold Gives
        exact ⟨_, Le.refl _ _, rfl, rfl⟩

/- vinculum/vinculumlaw03.CodecCut -/
def m6 (n : Nat) : CV → Int → (List UInt8) → Option Bool
| ⟨a1_kind, a1_int, a1_text, a1_list⟩, a2, a3 =>
  (m11 n ).bind fun y4 =>
  bif (!y4) then (
    some false
  ) else (
    (
      (m12 n (CV.mk a1_kind a1_int a1_text a1_list)).bind fun y6 =>
      bif (!y6) then (
        some true
      ) else (
        some (decide (100 < (a3.length : Int)))
      )
     : Option (Bool)).bind fun x5 =>
    bif x5 then (
      some true
    ) else (
      (m14 n (CV.mk a1_kind a1_int a1_text a1_list)).bind fun ⟨y8_kind, y8_int, y8_text, y8_list⟩ =>
      (m16 n (CV.mk y8_kind y8_int y8_text y8_list)).bind fun ⟨y9, y10⟩ =>
      (
        bif (y10 != 0) then (
          some true
        ) else (
          some ((y9.length : Int) == 0)
        )
       : Option (Bool)).bind fun x11 =>
      bif x11 then (
        some (y10 != 0)
      ) else (
        req ((y9.length : Int) ≠ 0) <|
        req (0 ≤ (0 : Int) ∧ (0 : Int) ≤ (IntKind.i64.wrap a2).tmod (y9.length : Int) ∧ (IntKind.i64.wrap a2).tmod (y9.length : Int) ≤ (y9.length : Int)) <|
        (m22 n ((y9.take ((IntKind.i64.wrap a2).tmod (y9.length : Int)).toNat).drop (0 : Int).toNat)).bind fun ⟨⟨y15_kind, y15_int, y15_text, y15_list⟩, y16⟩ =>
        req (([] : List UInt8).length + y9.length ≤ 4294967296) <|
        req (y9.length + a3.length ≤ 4294967296) <|
        (m22 n (y9 ++ a3)).bind fun ⟨⟨y17_kind, y17_int, y17_text, y17_list⟩, y18⟩ =>
        (
          bif (y16 == 4) then (
            some ((y18 == 0) == ((a3.length : Int) == 0))
          ) else (
            some false
          )
         : Option (Bool)).bind fun x19 =>
        some x19
      )
    )
  )
def R6 (n : Nat) (xs : List AV) (r : Ret) : Prop := ∃ (a0 : CV) (a1 : Int) (a2 : List UInt8) (y0 : Bool), m6 n a0 a1 a2 = some y0 ∧ xs = [.agg ((CV.enc a0).map .s), .s (.int .u16 a1), .s (.sl 1 ((List.map brow) a2))] ∧ r = .val (.s (.bool y0))
def S6 : PSpec := pspec fun xs r => ∃ n, R6 n xs r
set_option maxHeartbeats 2000000 in
theorem ok6 : PSound Try.prog 6 S6 := by
  have gok : ∀ f s, look? f [(11, S11), (12, S12), (14, S14), (16, S16), (22, S22)] = some s → PSound Try.prog f s := look_all (by
    simp only [List.forall_mem_cons]
    exact ⟨ok11, ok12, ok14, ok16, ok22, by simp⟩)
  refine psound tokW Try.call6 Try.func6 rfl (fun xs r h => by obtain ⟨n, _, _, _, _, _, rfl, _⟩ := h; show 3 ≤ 68; decide) 68 rfl ?_
  rintro xs r w0 G0 ⟨n, ⟨a1_kind, a1_int, a1_text, a1_list⟩, a2, a3, y0, h, rfl, rfl⟩ _
  refine tri_seq ?_
  refine tri_region tokW gok [] [] rfl ?_
  show Tri _ _ _ _
  refine tri_seq ?_
  refine tri_seq ?_
  refine tri_region tokW gok [] [] rfl ?_
  obtain ⟨y4, hy4, h⟩ := bind_out h
  refine ⟨_, ⟨_, _, hy4, rfl, rfl⟩, ?_⟩
  show Tri _ _ _ _
  refine tri_cond rfl (fun hb => ?_) (fun hb => ?_)
  · replace h := bif_t hb h
    refine tri_seq ?_
    refine tri_region tokW gok [] [] rfl ?_
    show Tri _ _ _ _
    refine tri_ret ?_
    have hy := Option.some.inj h
    subst hy
    unfold Gives
    exact ⟨_, Le.refl _ _, rfl, rfl⟩
  · replace h := bif_f hb h
    refine tri_skip ?_
    show Tri _ _ _ _
    refine tri_seq ?_
    refine tri_seq ?_
    obtain ⟨x5, hj, h⟩ := bind_out h
    refine tri_post ⟨ofL [(1, .s (.int .u16 a2)), (2, .s (.sl 1 ((List.map brow) a3))), (3, .s (.pt [.int .i64 a1_kind, .int .i64 a1_int, .str a1_text, .sl 4 (CV.encs a1_list)])), (22, .s (.bool x5))], fun _ => none, 0⟩ ?_ (fun σ' hle => ?_)
    · replace h := hj
      refine tri_region tokW gok [] [18, 20] rfl ?_
      obtain ⟨y6, hy6, h⟩ := bind_out h
      refine ⟨_, ⟨_, _, _, hy6, rfl, rfl⟩, ?_⟩
      intro b hb
      cases b with
      | true =>
        replace h := bif_t hb.symm h
        cases h
        exact (Le.forget _ ⟨rfl, rfl, rfl, rfl, trivial⟩)
      | false =>
        replace h := bif_f hb.symm h
        intro n7 hn7
        obtain rfl : (a3.length : Int) = n7 := (hn7.trans (congrArg (fun m : Nat => (m : Int)) (rlen (fun _ => rfl) a3))).symm
        cases h
        exact (Le.forget _ ⟨rfl, rfl, rfl, rfl, trivial⟩)
    · show Tri _ _ _ _
      refine tri_le hle ?_
      refine tri_cond rfl (fun hb => ?_) (fun hb => ?_)
      · replace h := bif_t hb h
        refine tri_seq ?_
        refine tri_region tokW gok [] [] rfl ?_
        show Tri _ _ _ _
        refine tri_ret ?_
        have hy := Option.some.inj h
        subst hy
        unfold Gives
        exact ⟨_, Le.refl _ _, rfl, rfl⟩
      · replace h := bif_f hb h
        refine tri_skip ?_
        show Tri _ _ _ _
        refine tri_seq ?_
        refine tri_region tokW gok [] [] rfl ?_
        obtain ⟨⟨y8_kind, y8_int, y8_text, y8_list⟩, hy8, h⟩ := bind_out h
        refine ⟨_, ⟨_, _, _, hy8, rfl, rfl⟩, ?_⟩
        obtain ⟨⟨y9, y10⟩, hy9, h⟩ := bind_out h
        refine ⟨_, ⟨_, _, _, _, hy9, rfl, rfl⟩, ?_⟩
        show Tri _ _ _ _
        refine tri_seq ?_
        refine tri_seq ?_
        obtain ⟨x11, hj, h⟩ := bind_out h
        refine tri_post ⟨ofL [(1, .s (.int .u16 a2)), (2, .s (.sl 1 ((List.map brow) a3))), (7, .s (.sl 1 ((List.map brow) y9))), (8, .s (.int .i64 y10)), (35, .s (.bool x11))], fun _ => none, 0⟩ ?_ (fun σ' hle => ?_)
        · replace h := hj
          refine tri_region tokW gok [] [31, 33] rfl ?_
          intro b hb
          cases b with
          | true =>
            replace h := bif_t hb.symm h
            cases h
            exact (Le.forget _ ⟨rfl, rfl, rfl, rfl, rfl, trivial⟩)
          | false =>
            replace h := bif_f hb.symm h
            intro n12 hn12
            obtain rfl : (y9.length : Int) = n12 := (hn12.trans (congrArg (fun m : Nat => (m : Int)) (rlen (fun _ => rfl) y9))).symm
            cases h
            exact (Le.forget _ ⟨rfl, rfl, rfl, rfl, rfl, trivial⟩)
        · show Tri _ _ _ _
          refine tri_le hle ?_
          refine tri_cond rfl (fun hb => ?_) (fun hb => ?_)
          · replace h := bif_t hb h
            refine tri_seq ?_
            refine tri_region tokW gok [] [] rfl ?_
            show Tri _ _ _ _
            refine tri_ret ?_
            have hy := Option.some.inj h
            subst hy
            unfold Gives
            exact ⟨_, Le.refl _ _, rfl, rfl⟩
          · replace h := bif_f hb h
            refine tri_skip ?_
            show Tri _ _ _ _
            refine tri_seq ?_
            refine tri_region tokW gok [9] [43, 45] rfl ?_
            intro n13 hn13
            obtain rfl : (y9.length : Int) = n13 := (hn13.trans (congrArg (fun m : Nat => (m : Int)) (rlen (fun _ => rfl) y9))).symm
            obtain ⟨hq, h⟩ := req_out h
            refine And.intro hq ?_
            obtain ⟨hq, h⟩ := req_out h
            refine And.intro ⟨hq.1, hq.2.1, Int.le_trans hq.2.2 (Int.ofNat_le.2 (Nat.le_of_eq (rlen (fun _ => rfl) _).symm))⟩ ?_
            intro r14 hr14
            obtain rfl : (List.map brow) ((y9.take ((IntKind.i64.wrap a2).tmod (y9.length : Int)).toNat).drop (0 : Int).toNat) = r14 := (hr14.trans (rcut (fun _ => rfl) _ _ _)).symm
            obtain ⟨⟨⟨y15_kind, y15_int, y15_text, y15_list⟩, y16⟩, hy15, h⟩ := bind_out h
            refine ⟨_, ⟨_, _, _, _, hy15, rfl, rfl⟩, ?_⟩
            show Tri _ _ _ _
            refine tri_le (Le.giveBox 0 [.int .i64 y15_kind, .int .i64 y15_int, .str y15_text, .sl 4 (CV.encs y15_list)] rfl rfl) ?_
            refine tri_seq ?_
            refine tri_region tokW gok [11, 50, 52, 54] [] rfl ?_
            obtain ⟨hq, h⟩ := req_out h
            refine And.intro (show (([] : List (List S)).length + ((List.map brow) y9).length) * 1 ≤ 140737488355328 ∧ ([] : List (List S)).length + ((List.map brow) y9).length ≤ 9223372036854775807 from by simp only [List.length_append, List.length_cons, List.length_nil, List.length_map, rlen (fun _ => rfl)] at hq ⊢; omega) ?_
            obtain ⟨hq, h⟩ := req_out h
            refine And.intro (show (([] ++ ((List.map brow) y9)).length + ((List.map brow) a3).length) * 1 ≤ 140737488355328 ∧ ([] ++ ((List.map brow) y9)).length + ((List.map brow) a3).length ≤ 9223372036854775807 from by simp only [List.length_append, List.length_cons, List.length_nil, List.length_map, rlen (fun _ => rfl)] at hq ⊢; omega) ?_
            obtain ⟨⟨⟨y17_kind, y17_int, y17_text, y17_list⟩, y18⟩, hy17, h⟩ := bind_out h
            refine ⟨_, ⟨_, _, _, _, hy17, (congrArg (fun r => [AV.s (.sl 1 r)]) (show ([] ++ ((List.map brow) y9)) ++ ((List.map brow) a3) = (List.map brow) (y9 ++ a3) from (by simp [List.map_append, List.map_take, List.map_drop, irow, brow, b8of_row, List.map_cons, List.map_nil, b8of_wrap, CV.encs_eq, CV.enc, enc61, enc66, enc70]))), rfl⟩, ?_⟩
            show Tri _ _ _ _
            refine tri_le (Le.giveBox 4 [.int .i64 y17_kind, .int .i64 y17_int, .str y17_text, .sl 4 (CV.encs y17_list)] rfl rfl) ?_
            refine tri_seq ?_
            obtain ⟨x19, hj, h⟩ := bind_out h
            refine tri_post ⟨ofL [(6, .s (.bool x19))], ofH [], 0⟩ ?_ (fun σ' hle => ?_)
            · replace h := hj
              refine tri_region tokW gok [] [60, 64] rfl ?_
              intro b hb
              cases b with
              | true =>
                replace h := bif_t hb.symm h
                intro n20 hn20
                obtain rfl : (a3.length : Int) = n20 := (hn20.trans (congrArg (fun m : Nat => (m : Int)) (rlen (fun _ => rfl) a3))).symm
                cases h
                exact (Le.rename [] _ _ _ ⟨rfl, trivial⟩ trivial rfl rfl rfl rfl rfl)
              | false =>
                replace h := bif_f hb.symm h
                cases h
                exact (Le.rename [] _ _ _ ⟨rfl, trivial⟩ trivial rfl rfl rfl rfl rfl)
            · show Tri _ _ _ _
              refine tri_le hle ?_
              refine tri_ret ?_
              have hy := Option.some.inj h
              subst hy
              unfold Gives
              exact ⟨_, Le.refl _ _, rfl, rfl⟩

/- vinculum/codec.Next -/
def m26 (n : Nat) : (List UInt8) → Option (CV × (List UInt8) × Int)
| b1 =>
  (m34 n b1).bind fun ⟨⟨y2_kind, y2_int, y2_text, y2_list⟩, y3, w4⟩ =>
  bif (!y3) then (
    some (CV.mk 0 0 [] [], [], 4)
  ) else (
    req (([] : List UInt8).length + w4.length ≤ 4294967296) <|
    some (CV.mk y2_kind y2_int y2_text y2_list, w4, 0)
  )
def R26 (n : Nat) (xs : List AV) (r : Ret) : Prop := ∃ (a0 : List UInt8) (y0 : CV) (y1 : List UInt8) (y2 : Int), m26 n a0 = some (y0, y1, y2) ∧ xs = [.s (.sl 1 ((List.map brow) a0))] ∧ r = .val (.tup [.agg ((CV.enc y0).map .s), .s (.sl 1 ((List.map brow) y1)), .s (.int .i64 y2)])
def S26 : PSpec := pspec fun xs r => ∃ n, R26 n xs r
set_option maxHeartbeats 2000000 in
theorem ok26 : PSound Try.prog 26 S26 := by
  have gok : ∀ f s, look? f [(34, S34)] = some s → PSound Try.prog f s := look_all (by
    simp only [List.forall_mem_cons]
    exact ⟨ok34, by simp⟩)
  refine psound tokW Try.call26 Try.func26 rfl (fun xs r h => by obtain ⟨n, _, _, _, _, _, rfl, _⟩ := h; show 1 ≤ 25; decide) 25 rfl ?_
  rintro xs r w0 G0 ⟨n, b1, y0, y1, y2, h, rfl, rfl⟩ _
  refine tri_seq ?_
  refine tri_region tokW gok [2] [] rfl ?_
  show Tri _ _ _ _
  refine tri_seq ?_
  refine tri_region tokW gok [10] [] rfl ?_
  show Tri _ _ _ _
  refine tri_seq ?_
  refine tri_region tokW gok [6] [] rfl ?_
  obtain ⟨⟨⟨y2_kind, y2_int, y2_text, y2_list⟩, y3, w4⟩, hy2, h⟩ := bind_out h
  refine ⟨_, _, ⟨_, _, _, _, _, hy2, rfl, rfl, rfl, rfl⟩, ?_⟩
  show Tri _ _ _ _
  refine tri_le (Le.trans (Le.trans (Le.giveBox 2 [.int .i64 y2_kind, .int .i64 y2_int, .str y2_text, .sl 4 (CV.encs y2_list)] rfl rfl) (Le.rename [(0, 0), (1, 1)] [(2, .op 0 0), (5, .op 1 0), (6, .s (.pt [.int .i64 y2_kind, .int .i64 y2_int, .str y2_text, .sl 4 (CV.encs y2_list)])), (7, .s (.bool y3))] [(0, .box [.s (.int .i64 0), .s (.int .i64 0), .s (.str []), .nl 4]), (1, .box [.s (.sl 1 ((List.map brow) w4))])] 2 ⟨rfl, rfl, rfl, rfl, trivial⟩ ⟨rfl, ⟨_, rfl, rfl⟩, rfl, ⟨_, rfl, rfl⟩, trivial⟩ rfl rfl rfl rfl rfl)) (Le.giveBox 1 [.sl 1 ((List.map brow) w4)] rfl rfl)) ?_
  refine tri_seq ?_
  refine tri_seq ?_
  refine tri_region tokW gok [] [] rfl ?_
  show Tri _ _ _ _
  refine tri_cond rfl (fun hb => ?_) (fun hb => ?_)
  · replace h := bif_t hb h
    refine tri_seq ?_
    refine tri_region tokW gok [] [] rfl ?_
    show Tri _ _ _ _
    refine tri_ret ?_
    obtain ⟨hj1, hk1⟩ := Prod.mk.inj (Option.some.inj h)
    subst hj1
    obtain ⟨hj2, hk2⟩ := Prod.mk.inj hk1
    subst hj2
    subst hk2
    unfold Gives
    exact ⟨_, Le.refl _ _, rfl, rfl⟩
  · replace h := bif_f hb h
    refine tri_skip ?_
    show Tri _ _ _ _
    refine tri_seq ?_
    refine tri_drawn tokW gok mixed [] [] [5, 6] rfl (by decide +kernel) ?_
    obtain ⟨hq, h⟩ := req_out h
    refine And.intro (show ((List.map brow) w4).length * 1 ≤ 140737488355328 ∧ ((List.map brow) w4).length ≤ 9223372036854775807 from by simp only [List.length_append, List.length_cons, List.length_nil, List.length_map, rlen (fun _ => rfl)] at hq ⊢; omega) ?_
    show Tri _ _ _ _
    refine tri_ret ?_
    obtain ⟨hj1, hk1⟩ := Prod.mk.inj (Option.some.inj h)
    subst hj1
    obtain ⟨hj2, hk2⟩ := Prod.mk.inj hk1
    subst hj2
    subst hk2
    unfold Gives
    exact ⟨_, (Le.trans (Le.rename [(0, 0), (2, 1)] [(2, .op 0 0), (3, .orow 1), (4, .s (.int .i64 0))] [(0, .box [.s (.int .i64 y2_kind), .s (.int .i64 y2_int), .s (.str y2_text), .s (.sl 4 (CV.encs y2_list))]), (1, .row 5 1 ((List.map brow) w4))] 2 ⟨rfl, rfl, rfl, trivial⟩ ⟨rfl, ⟨_, rfl, rfl⟩, rfl, ⟨_, rfl, rfl⟩, trivial⟩ rfl rfl rfl rfl rfl) (Le.giveRow 1 rfl)), rfl, rfl⟩

/- vinculum/vinculumlaw03.CodecNext -/
def m8 (n : Nat) : (List UInt8) → Option Bool
| b1 =>
  (m11 n ).bind fun y2 =>
  bif (!y2) then (
    some false
  ) else (
    bif decide (3000 < (b1.length : Int)) then (
      some true
    ) else (
      (m26 n b1).bind fun ⟨⟨y4_kind, y4_int, y4_text, y4_list⟩, y5, y6⟩ =>
      (m27 n b1 64).bind fun ⟨⟨y7_kind, y7_int, y7_text, y7_list⟩, y8⟩ =>
      bif (y8 == 0) then (
        (
          bif (y6 == 4) then (
            (m13 n (CV.mk y4_kind y4_int y4_text y4_list) (CV.mk 0 0 [] [])).bind fun y10 =>
            bif y10 then (
              some ((y5.length : Int) == 0)
            ) else (
              some false
            )
          ) else (
            some false
          )
         : Option (Bool)).bind fun x9 =>
        some x9
      ) else (
        (m24 n (CV.mk y4_kind y4_int y4_text y4_list) 3000).bind fun ⟨⟨y12_kind, y12_int, y12_text, y12_list⟩, y13⟩ =>
        (
          bif (y6 == 0) then (
            bif y13 then (
              (m15 n (CV.mk y12_kind y12_int y12_text y12_list) (CV.mk y7_kind y7_int y7_text y7_list)).bind fun y15 =>
              bif y15 then (
                req (0 ≤ y8 ∧ y8 ≤ (b1.length : Int) ∧ (b1.length : Int) ≤ (b1.length : Int)) <|
                some (y5 == ((b1.take (b1.length : Int).toNat).drop y8.toNat))
              ) else (
                some false
              )
            ) else (
              some false
            )
          ) else (
            some false
          )
         : Option (Bool)).bind fun x14 =>
        some x14
      )
    )
  )
def R8 (n : Nat) (xs : List AV) (r : Ret) : Prop := ∃ (a0 : List UInt8) (y0 : Bool), m8 n a0 = some y0 ∧ xs = [.s (.sl 1 ((List.map brow) a0))] ∧ r = .val (.s (.bool y0))
def S8 : PSpec := pspec fun xs r => ∃ n, R8 n xs r
set_option maxHeartbeats 2000000 in
theorem ok8 : PSound Try.prog 8 S8 := by
  have gok : ∀ f s, look? f [(11, S11), (26, S26), (27, S27), (13, S13), (24, S24), (15, S15)] = some s → PSound Try.prog f s := look_all (by
    simp only [List.forall_mem_cons]
    exact ⟨ok11, ok26, ok27, ok13, ok24, ok15, by simp⟩)
  refine psound tokW Try.call8 Try.func8 rfl (fun xs r h => by obtain ⟨n, _, _, _, rfl, _⟩ := h; show 1 ≤ 64; decide) 64 rfl ?_
  rintro xs r w0 G0 ⟨n, b1, y0, h, rfl, rfl⟩ _
  refine tri_seq ?_
  refine tri_region tokW gok [] [] rfl ?_
  show Tri _ _ _ _
  refine tri_seq ?_
  refine tri_seq ?_
  refine tri_region tokW gok [] [] rfl ?_
  obtain ⟨y2, hy2, h⟩ := bind_out h
  refine ⟨_, ⟨_, _, hy2, rfl, rfl⟩, ?_⟩
  show Tri _ _ _ _
  refine tri_cond rfl (fun hb => ?_) (fun hb => ?_)
  · replace h := bif_t hb h
    refine tri_seq ?_
    refine tri_region tokW gok [] [] rfl ?_
    show Tri _ _ _ _
    refine tri_ret ?_
    have hy := Option.some.inj h
    subst hy
    unfold Gives
    exact ⟨_, Le.refl _ _, rfl, rfl⟩
  · replace h := bif_f hb h
    refine tri_skip ?_
    show Tri _ _ _ _
    refine tri_seq ?_
    refine tri_seq ?_
    refine tri_region tokW gok [] [13] rfl ?_
    intro n3 hn3
    obtain rfl : (b1.length : Int) = n3 := (hn3.trans (congrArg (fun m : Nat => (m : Int)) (rlen (fun _ => rfl) b1))).symm
    show Tri _ _ _ _
    refine tri_cond rfl (fun hb => ?_) (fun hb => ?_)
    · replace h := bif_t hb h
      refine tri_seq ?_
      refine tri_region tokW gok [] [] rfl ?_
      show Tri _ _ _ _
      refine tri_ret ?_
      have hy := Option.some.inj h
      subst hy
      unfold Gives
      exact ⟨_, Le.refl _ _, rfl, rfl⟩
    · replace h := bif_f hb h
      refine tri_skip ?_
      show Tri _ _ _ _
      refine tri_seq ?_
      refine tri_region tokW gok [3] [] rfl ?_
      obtain ⟨⟨⟨y4_kind, y4_int, y4_text, y4_list⟩, y5, y6⟩, hy4, h⟩ := bind_out h
      refine ⟨_, ⟨_, _, _, _, _, hy4, rfl, rfl⟩, ?_⟩
      show Tri _ _ _ _
      refine tri_le (Le.giveBox 0 [.int .i64 y4_kind, .int .i64 y4_int, .str y4_text, .sl 4 (CV.encs y4_list)] rfl rfl) ?_
      refine tri_seq ?_
      refine tri_region tokW gok [6] [] rfl ?_
      obtain ⟨⟨⟨y7_kind, y7_int, y7_text, y7_list⟩, y8⟩, hy7, h⟩ := bind_out h
      refine ⟨_, ⟨_, _, _, _, _, hy7, rfl, rfl⟩, ?_⟩
      show Tri _ _ _ _
      refine tri_le (Le.giveBox 1 [.int .i64 y7_kind, .int .i64 y7_int, .str y7_text, .sl 4 (CV.encs y7_list)] rfl rfl) ?_
      refine tri_seq ?_
      refine tri_seq ?_
      refine tri_region tokW gok [] [] rfl ?_
      show Tri _ _ _ _
      refine tri_cond rfl (fun hb => ?_) (fun hb => ?_)
      · replace h := bif_t hb h
        refine tri_seq ?_
        obtain ⟨x9, hj, h⟩ := bind_out h
        refine tri_post ⟨ofL [(2, .s (.bool x9))], ofH [], 0⟩ ?_ (fun σ' hle => ?_)
        · replace h := hj
          refine tri_region tokW gok [] [30, 35, 37] rfl ?_
          intro b hb
          cases b with
          | true =>
            replace h := bif_t hb.symm h
            obtain ⟨y10, hy10, h⟩ := bind_out h
            refine ⟨_, ⟨_, _, _, _, hy10, rfl, rfl⟩, ?_⟩
            intro b hb
            cases b with
            | true =>
              replace h := bif_t hb.symm h
              intro n11 hn11
              obtain rfl : (y5.length : Int) = n11 := (hn11.trans (congrArg (fun m : Nat => (m : Int)) (rlen (fun _ => rfl) y5))).symm
              cases h
              exact (Le.rename [] _ _ _ ⟨rfl, trivial⟩ trivial rfl rfl rfl rfl rfl)
            | false =>
              replace h := bif_f hb.symm h
              cases h
              exact (Le.rename [] _ _ _ ⟨rfl, trivial⟩ trivial rfl rfl rfl rfl rfl)
          | false =>
            replace h := bif_f hb.symm h
            intro b hb
            subst hb
            cases h
            exact (Le.rename [] _ _ _ ⟨rfl, trivial⟩ trivial rfl rfl rfl rfl rfl)
        · show Tri _ _ _ _
          refine tri_le hle ?_
          refine tri_ret ?_
          have hy := Option.some.inj h
          subst hy
          unfold Gives
          exact ⟨_, Le.refl _ _, rfl, rfl⟩
      · replace h := bif_f hb h
        refine tri_skip ?_
        show Tri _ _ _ _
        refine tri_seq ?_
        refine tri_region tokW gok [8] [] rfl ?_
        obtain ⟨⟨⟨y12_kind, y12_int, y12_text, y12_list⟩, y13⟩, hy12, h⟩ := bind_out h
        refine ⟨_, ⟨_, _, _, _, _, hy12, rfl, rfl⟩, ?_⟩
        show Tri _ _ _ _
        refine tri_le (Le.giveBox 2 [.int .i64 y12_kind, .int .i64 y12_int, .str y12_text, .sl 4 (CV.encs y12_list)] rfl rfl) ?_
        refine tri_seq ?_
        obtain ⟨x14, hj, h⟩ := bind_out h
        refine tri_post ⟨ofL [(2, .s (.bool x14))], ofH [], 0⟩ ?_ (fun σ' hle => ?_)
        · replace h := hj
          refine tri_drawn tokW gok mixed [] [47, 50, 55, 57, 60, 61] [] rfl (by decide +kernel) ?_
          intro b hb
          cases b with
          | true =>
            replace h := bif_t hb.symm h
            intro b hb
            cases b with
            | true =>
              replace h := bif_t hb.symm h
              obtain ⟨y15, hy15, h⟩ := bind_out h
              refine ⟨_, ⟨_, _, _, _, hy15, rfl, rfl⟩, ?_⟩
              intro b hb
              cases b with
              | true =>
                replace h := bif_t hb.symm h
                refine And.intro (show List.map brow y5 = ((List.map brow y5).map browOf).map brow from by rw [brow_back]) ?_
                intro s16 hs16
                obtain rfl : y5 = s16 := (hs16.trans (brow_back _)).symm
                obtain ⟨hq, h⟩ := req_out h
                refine And.intro ⟨hq.1, Int.le_trans hq.2.1 (Int.ofNat_le.2 (Nat.le_of_eq (rlen (fun _ => rfl) _).symm)), Int.le_refl _⟩ ?_
                intro r17 hr17
                obtain rfl : (List.map brow) ((b1.take (b1.length : Int).toNat).drop y8.toNat) = r17 := (hr17.trans ((congrArg (fun m : Nat => (((List.map brow) b1).take m).drop y8.toNat) (rlen (fun _ => rfl) _)).trans (rcut (fun _ => rfl) _ _ _))).symm
                refine And.intro (show List.map brow ((b1.take (b1.length : Int).toNat).drop y8.toNat) = ((List.map brow ((b1.take (b1.length : Int).toNat).drop y8.toNat)).map browOf).map brow from by rw [brow_back]) ?_
                intro s18 hs18
                obtain rfl : (b1.take (b1.length : Int).toNat).drop y8.toNat = s18 := (hs18.trans (brow_back _)).symm
                cases h
                exact (Le.rename [] _ _ _ ⟨rfl, trivial⟩ trivial rfl rfl rfl rfl rfl)
              | false =>
                replace h := bif_f hb.symm h
                cases h
                exact (Le.rename [] _ _ _ ⟨rfl, trivial⟩ trivial rfl rfl rfl rfl rfl)
            | false =>
              replace h := bif_f hb.symm h
              intro b hb
              subst hb
              cases h
              exact (Le.rename [] _ _ _ ⟨rfl, trivial⟩ trivial rfl rfl rfl rfl rfl)
          | false =>
            replace h := bif_f hb.symm h
            intro b hb
            subst hb
            intro b hb
            subst hb
            cases h
            exact (Le.rename [] _ _ _ ⟨rfl, trivial⟩ trivial rfl rfl rfl rfl rfl)
        · show Tri _ _ _ _
          refine tri_le hle ?_
          refine tri_ret ?_
          have hy := Option.some.inj h
          subst hy
          unfold Gives
          exact ⟨_, Le.refl _ _, rfl, rfl⟩

/- vinculum/vinculumlaw03.CodecStreams -/
def m9_l1 (n : Nat) (a1 : List CV) : Nat → Int → (List UInt8) → Option (Fl Bool ((List UInt8)))
| 0, _, _ => none
| k+1, x5, l6 =>
  bif decide (x5 < (a1.length : Int)) then (
    (at? a1 x5).bind fun ⟨e9_kind, e9_int, e9_text, e9_list⟩ =>
    (m12 n (CV.mk e9_kind e9_int e9_text e9_list)).bind fun y11 =>
    bif (!y11) then (
      some (.ret true)
    ) else (
      (at? a1 x5).bind fun ⟨e12_kind, e12_int, e12_text, e12_list⟩ =>
      (m14 n (CV.mk e12_kind e12_int e12_text e12_list)).bind fun ⟨y14_kind, y14_int, y14_text, y14_list⟩ =>
      (m16 n (CV.mk y14_kind y14_int y14_text y14_list)).bind fun ⟨y15, y16⟩ =>
      bif (y16 != 0) then (
        some (.ret true)
      ) else (
        req (l6.length + y15.length ≤ 4294967296) <|
        m9_l1 n a1 k (IntKind.i64.wrap (x5 + 1)) (l6 ++ y15)
      )
    )
  ) else (
    some (.go l6)
  )
def m9_l2 (n : Nat) (a1 : List CV) : Nat → (List UInt8) → Int → Option (Fl Bool ((List UInt8)))
| 0, _, _ => none
| k+1, x17, x18 =>
  bif decide (x18 < (a1.length : Int)) then (
    (m26 n x17).bind fun ⟨⟨y21_kind, y21_int, y21_text, y21_list⟩, y22, y23⟩ =>
    (
      bif (y23 != 0) then (
        some true
      ) else (
        (at? a1 x18).bind fun ⟨e25_kind, e25_int, e25_text, e25_list⟩ =>
        (m14 n (CV.mk e25_kind e25_int e25_text e25_list)).bind fun ⟨y27_kind, y27_int, y27_text, y27_list⟩ =>
        (m13 n (CV.mk y21_kind y21_int y21_text y21_list) (CV.mk y27_kind y27_int y27_text y27_list)).bind fun y28 =>
        bif (!y28) then (
          some true
        ) else (
          some (decide ((x17.length : Int) ≤ (y22.length : Int)))
        )
      )
     : Option (Bool)).bind fun x24 =>
    bif x24 then (
      some (.ret false)
    ) else (
      m9_l2 n a1 k y22 (IntKind.i64.wrap (x18 + 1))
    )
  ) else (
    some (.go x17)
  )
def m9 (n : Nat) : (List CV) → Option Bool
| a1 =>
  (m11 n ).bind fun y2 =>
  bif (!y2) then (
    some false
  ) else (
    bif decide (6 < (a1.length : Int)) then (
      some true
    ) else (
      (m9_l1 n a1 n 0 []).bind fun fl => match fl with
      | .ret r => some r
      | .go l7 =>
        (m9_l2 n a1 n l7 0).bind fun fl => match fl with
        | .ret r => some r
        | .go x19 =>
          some ((x19.length : Int) == 0)
    )
  )
def R9 (n : Nat) (xs : List AV) (r : Ret) : Prop := ∃ (a0 : List CV) (y0 : Bool), m9 n a0 = some y0 ∧ xs = [.s (.sl 4 (CV.encs a0))] ∧ r = .val (.s (.bool y0))
def S9 : PSpec := pspec fun xs r => ∃ n, R9 n xs r
set_option maxHeartbeats 2000000 in
theorem ok9 : PSound Try.prog 9 S9 := by
  have gok : ∀ f s, look? f [(11, S11), (12, S12), (14, S14), (16, S16), (26, S26), (13, S13)] = some s → PSound Try.prog f s := look_all (by
    simp only [List.forall_mem_cons]
    exact ⟨ok11, ok12, ok14, ok16, ok26, ok13, by simp⟩)
  refine psound tokW Try.call9 Try.func9 rfl (fun xs r h => by obtain ⟨n, _, _, _, rfl, _⟩ := h; show 1 ≤ 77; decide) 77 rfl ?_
  rintro xs r w0 G0 ⟨n, a1, y0, h, rfl, rfl⟩ _
  refine tri_seq ?_
  refine tri_region tokW gok [] [] rfl ?_
  show Tri _ _ _ _
  refine tri_seq ?_
  refine tri_seq ?_
  refine tri_region tokW gok [] [] rfl ?_
  obtain ⟨y2, hy2, h⟩ := bind_out h
  refine ⟨_, ⟨_, _, hy2, rfl, rfl⟩, ?_⟩
  show Tri _ _ _ _
  refine tri_cond rfl (fun hb => ?_) (fun hb => ?_)
  · replace h := bif_t hb h
    refine tri_seq ?_
    refine tri_region tokW gok [] [] rfl ?_
    show Tri _ _ _ _
    refine tri_ret ?_
    have hy := Option.some.inj h
    subst hy
    unfold Gives
    exact ⟨_, Le.refl _ _, rfl, rfl⟩
  · replace h := bif_f hb h
    refine tri_skip ?_
    show Tri _ _ _ _
    refine tri_seq ?_
    refine tri_seq ?_
    refine tri_region tokW gok [] [14] rfl ?_
    intro n3 hn3
    obtain rfl : (a1.length : Int) = n3 := (hn3.trans (congrArg (fun m : Nat => (m : Int)) (rlen CV.encs_eq a1))).symm
    show Tri _ _ _ _
    refine tri_cond rfl (fun hb => ?_) (fun hb => ?_)
    · replace h := bif_t hb h
      refine tri_seq ?_
      refine tri_region tokW gok [] [] rfl ?_
      show Tri _ _ _ _
      refine tri_ret ?_
      have hy := Option.some.inj h
      subst hy
      unfold Gives
      exact ⟨_, Le.refl _ _, rfl, rfl⟩
    · replace h := bif_f hb h
      refine tri_skip ?_
      show Tri _ _ _ _
      refine tri_seq ?_
      refine tri_region tokW gok [3] [] rfl ?_
      show Tri _ _ _ _
      refine tri_le (Le.rename [(0, 0)] [(0, .s (.sl 4 (CV.encs a1))), (3, .orow 0)] [(0, .row 5 1 ((List.map brow) []))] 1 ⟨rfl, rfl, trivial⟩ ⟨rfl, ⟨_, rfl, congrArg (Ob.row 5 1) (by simp [List.map_append, List.map_take, List.map_drop, irow, brow, b8of_row, List.map_cons, List.map_nil, b8of_wrap, CV.encs_eq, CV.enc, enc61, enc66, enc70])⟩, trivial⟩ rfl rfl rfl rfl rfl) ?_
      refine tri_seq ?_
      refine tri_seq ?_
      refine tri_region tokW gok [] [] rfl ?_
      show Tri _ _ _ _
      obtain ⟨fl, hl, ho1⟩ := bind_out h
      refine tri_fl (fl := fl) (fun z => match z with | l7 => ⟨ofL [(0, .s (.sl 4 (CV.encs a1))), (3, .orow 0)], ofH [(0, .row 5 1 ((List.map brow) l7))], 1⟩) ?_ (fun l7 σ' hz hle => ?_)
      · refine tri_block (tri_loopI (X := Nat × Int × (List UInt8)) (fun y => match y with | (k, x5, l6) => ⟨ofL [(0, .s (.sl 4 (CV.encs a1))), (3, .orow 0), (4, .s (.int .i64 x5))], ofH [(0, .row 5 1 ((List.map brow) l6))], 1⟩) (fun y => m9_l1 n a1 y.1 y.2.1 y.2.2 = some fl) (fun y => y.1) (n, 0, []) hl ?_ ?_)
        · exact (Le.rename [(0, 0)] _ _ _ ⟨rfl, rfl, rfl, trivial⟩ ⟨rfl, ⟨_, rfl, rfl⟩, trivial⟩ rfl rfl rfl rfl rfl)
        · rintro ⟨k, x5, l6⟩ h
          cases k with
          | zero => cases h
          | succ k =>
            refine tri_seq ?_
            refine tri_seq ?_
            refine tri_region tokW gok [] [18] rfl ?_
            intro n8 hn8
            obtain rfl : (a1.length : Int) = n8 := (hn8.trans (congrArg (fun m : Nat => (m : Int)) (rlen CV.encs_eq a1))).symm
            show Tri _ _ _ _
            refine tri_cond rfl (fun hb => ?_) (fun hb => ?_)
            · replace h := bif_t hb h
              refine tri_skip ?_
              show Tri _ _ _ _
              refine tri_seq ?_
              refine tri_block ?_
              refine tri_seq ?_
              refine tri_seq ?_
              refine tri_region tokW gok [] [24] rfl ?_
              obtain ⟨⟨e9_kind, e9_int, e9_text, e9_list⟩, he9, h⟩ := bind_out h
              refine And.intro (at_ok CV.encs_eq he9).1 ?_
              intro r10 hr10
              obtain rfl : [.int .i64 e9_kind, .int .i64 e9_int, .str e9_text, .sl 4 (CV.encs e9_list)] = r10 := (hr10.trans (at_ok CV.encs_eq he9).2.1).symm
              obtain ⟨y11, hy11, h⟩ := bind_out h
              refine ⟨_, ⟨_, _, _, hy11, rfl, rfl⟩, ?_⟩
              show Tri _ _ _ _
              refine tri_cond rfl (fun hb => ?_) (fun hb => ?_)
              · replace h := bif_t hb h
                refine tri_seq ?_
                refine tri_region tokW gok [] [] rfl ?_
                show Tri _ _ _ _
                refine tri_ret ?_
                cases h
                replace h : some _ = some _ := ho1
                have hy := Option.some.inj h
                subst hy
                unfold Gives
                exact ⟨_, Le.refl _ _, rfl, rfl⟩
              · replace h := bif_f hb h
                refine tri_skip ?_
                show Tri _ _ _ _
                refine tri_seq ?_
                refine tri_region tokW gok [] [31] rfl ?_
                obtain ⟨⟨e12_kind, e12_int, e12_text, e12_list⟩, he12, h⟩ := bind_out h
                refine And.intro (at_ok CV.encs_eq he12).1 ?_
                intro r13 hr13
                obtain rfl : [.int .i64 e12_kind, .int .i64 e12_int, .str e12_text, .sl 4 (CV.encs e12_list)] = r13 := (hr13.trans (at_ok CV.encs_eq he12).2.1).symm
                obtain ⟨⟨y14_kind, y14_int, y14_text, y14_list⟩, hy14, h⟩ := bind_out h
                refine ⟨_, ⟨_, _, _, hy14, rfl, rfl⟩, ?_⟩
                obtain ⟨⟨y15, y16⟩, hy15, h⟩ := bind_out h
                refine ⟨_, ⟨_, _, _, _, hy15, rfl, rfl⟩, ?_⟩
                show Tri _ _ _ _
                refine tri_seq ?_
                refine tri_seq ?_
                refine tri_region tokW gok [] [] rfl ?_
                show Tri _ _ _ _
                refine tri_cond rfl (fun hb => ?_) (fun hb => ?_)
                · replace h := bif_t hb h
                  refine tri_seq ?_
                  refine tri_region tokW gok [] [] rfl ?_
                  show Tri _ _ _ _
                  refine tri_ret ?_
                  cases h
                  replace h : some _ = some _ := ho1
                  have hy := Option.some.inj h
                  subst hy
                  unfold Gives
                  exact ⟨_, Le.refl _ _, rfl, rfl⟩
                · replace h := bif_f hb h
                  refine tri_skip ?_
                  show Tri _ _ _ _
                  refine tri_region tokW gok [41] [] rfl ?_
                  obtain ⟨hq, h⟩ := req_out h
                  refine And.intro (show (((List.map brow) l6).length + ((List.map brow) y15).length) * 1 ≤ 140737488355328 ∧ ((List.map brow) l6).length + ((List.map brow) y15).length ≤ 9223372036854775807 from by simp only [List.length_append, List.length_cons, List.length_nil, List.length_map, rlen (fun _ => rfl)] at hq ⊢; omega) ?_
                  show Tri _ _ _ _
                  refine tri_le (Le.rename [(1, 0)] [(0, .s (.sl 4 (CV.encs a1))), (3, .orow 0), (4, .s (.int .i64 x5))] [(0, .row 5 1 ((List.map brow) (l6 ++ y15)))] 1 ⟨rfl, rfl, rfl, trivial⟩ ⟨rfl, ⟨_, rfl, congrArg (Ob.row 5 1) (by simp [List.map_append, List.map_take, List.map_drop, irow, brow, b8of_row, List.map_cons, List.map_nil, b8of_wrap, CV.encs_eq, CV.enc, enc61, enc66, enc70])⟩, trivial⟩ rfl rfl rfl rfl rfl) ?_
                  refine tri_region tokW gok [] [] rfl ?_
                  refine ⟨(k, IntKind.i64.wrap (x5 + 1), l6 ++ y15), h, (Le.rename [(0, 0)] _ _ _ ⟨rfl, rfl, rfl, trivial⟩ ⟨rfl, ⟨_, rfl, rfl⟩, trivial⟩ rfl rfl rfl rfl rfl), Nat.lt_succ_self k⟩
            · replace h := bif_f hb h
              refine tri_exit ?_
              cases h
              exact ⟨_, rfl, (Le.rename [(0, 0)] _ _ _ ⟨rfl, rfl, trivial⟩ ⟨rfl, ⟨_, rfl, rfl⟩, trivial⟩ rfl rfl rfl rfl rfl)⟩
      · subst hz
        replace h := ho1
        show Tri _ _ _ _
        refine tri_le hle ?_
        refine tri_seq ?_
        refine tri_seq ?_
        refine tri_region tokW gok [] [] rfl ?_
        show Tri _ _ _ _
        refine tri_le (Le.trans (Le.rename [(0, 0)] [(0, .s (.sl 4 (CV.encs a1))), (3, .orow 0), (7, .s (.int .i64 0))] [(0, .row 5 1 ((List.map brow) l7))] 1 ⟨rfl, rfl, rfl, trivial⟩ ⟨rfl, ⟨_, rfl, rfl⟩, trivial⟩ rfl rfl rfl rfl rfl) (Le.giveRow 0 rfl)) ?_
        obtain ⟨fl, hl, ho1⟩ := bind_out h
        refine tri_fl (fl := fl) (fun z => match z with | x19 => ⟨ofL [(3, .s (.sl 1 ((List.map brow) x19)))], ofH [], 0⟩) ?_ (fun x19 σ' hz hle => ?_)
        · refine tri_block (tri_loopI (X := Nat × (List UInt8) × Int) (fun y => match y with | (k, x17, x18) => ⟨ofL [(0, .s (.sl 4 (CV.encs a1))), (3, .s (.sl 1 ((List.map brow) x17))), (7, .s (.int .i64 x18))], ofH [], 0⟩) (fun y => m9_l2 n a1 y.1 y.2.1 y.2.2 = some fl) (fun y => y.1) (n, l7, 0) hl ?_ ?_)
          · exact (Le.rename [] _ _ _ ⟨rfl, rfl, rfl, trivial⟩ trivial rfl rfl rfl rfl rfl)
          · rintro ⟨k, x17, x18⟩ h
            cases k with
            | zero => cases h
            | succ k =>
              refine tri_seq ?_
              refine tri_seq ?_
              refine tri_region tokW gok [] [44] rfl ?_
              intro n20 hn20
              obtain rfl : (a1.length : Int) = n20 := (hn20.trans (congrArg (fun m : Nat => (m : Int)) (rlen CV.encs_eq a1))).symm
              show Tri _ _ _ _
              refine tri_cond rfl (fun hb => ?_) (fun hb => ?_)
              · replace h := bif_t hb h
                refine tri_skip ?_
                show Tri _ _ _ _
                refine tri_seq ?_
                refine tri_block ?_
                refine tri_seq ?_
                refine tri_region tokW gok [8] [] rfl ?_
                obtain ⟨⟨⟨y21_kind, y21_int, y21_text, y21_list⟩, y22, y23⟩, hy21, h⟩ := bind_out h
                refine ⟨_, ⟨_, _, _, _, _, hy21, rfl, rfl⟩, ?_⟩
                show Tri _ _ _ _
                refine tri_le (Le.giveBox 0 [.int .i64 y21_kind, .int .i64 y21_int, .str y21_text, .sl 4 (CV.encs y21_list)] rfl rfl) ?_
                refine tri_seq ?_
                refine tri_seq ?_
                obtain ⟨x24, hj, h⟩ := bind_out h
                refine tri_post ⟨ofL [(0, .s (.sl 4 (CV.encs a1))), (7, .s (.int .i64 x18)), (9, .s (.sl 1 ((List.map brow) y22))), (72, .s (.bool x24))], ofH [], 0⟩ ?_ (fun σ' hle => ?_)
                · replace h := hj
                  refine tri_drawn tokW gok mixed [] [56, 60, 66, 68, 70] [] rfl (by decide +kernel) ?_
                  intro b hb
                  cases b with
                  | true =>
                    replace h := bif_t hb.symm h
                    intro b hb
                    subst hb
                    cases h
                    exact (Le.rename [] _ _ _ ⟨rfl, rfl, rfl, rfl, trivial⟩ trivial rfl rfl rfl rfl rfl)
                  | false =>
                    replace h := bif_f hb.symm h
                    obtain ⟨⟨e25_kind, e25_int, e25_text, e25_list⟩, he25, h⟩ := bind_out h
                    refine And.intro (at_ok CV.encs_eq he25).1 ?_
                    intro r26 hr26
                    obtain rfl : [.int .i64 e25_kind, .int .i64 e25_int, .str e25_text, .sl 4 (CV.encs e25_list)] = r26 := (hr26.trans (at_ok CV.encs_eq he25).2.1).symm
                    obtain ⟨⟨y27_kind, y27_int, y27_text, y27_list⟩, hy27, h⟩ := bind_out h
                    refine ⟨_, ⟨_, _, _, hy27, rfl, rfl⟩, ?_⟩
                    obtain ⟨y28, hy28, h⟩ := bind_out h
                    refine ⟨_, ⟨_, _, _, _, hy28, rfl, rfl⟩, ?_⟩
                    intro b hb
                    cases b with
                    | true =>
                      replace h := bif_t hb.symm h
                      cases h
                      exact (Le.rename [] _ _ _ ⟨rfl, rfl, rfl, rfl, trivial⟩ trivial rfl rfl rfl rfl rfl)
                    | false =>
                      replace h := bif_f hb.symm h
                      intro n29 hn29
                      obtain rfl : (y22.length : Int) = n29 := (hn29.trans (congrArg (fun m : Nat => (m : Int)) (rlen (fun _ => rfl) y22))).symm
                      intro n30 hn30
                      obtain rfl : (x17.length : Int) = n30 := (hn30.trans (congrArg (fun m : Nat => (m : Int)) (rlen (fun _ => rfl) x17))).symm
                      cases h
                      exact (Le.rename [] _ _ _ ⟨rfl, rfl, rfl, rfl, trivial⟩ trivial rfl rfl rfl rfl rfl)
                · show Tri _ _ _ _
                  refine tri_le hle ?_
                  refine tri_cond rfl (fun hb => ?_) (fun hb => ?_)
                  · replace h := bif_t hb h
                    refine tri_seq ?_
                    refine tri_region tokW gok [] [] rfl ?_
                    show Tri _ _ _ _
                    refine tri_ret ?_
                    cases h
                    replace h : some _ = some _ := ho1
                    have hy := Option.some.inj h
                    subst hy
                    unfold Gives
                    exact ⟨_, Le.refl _ _, rfl, rfl⟩
                  · replace h := bif_f hb h
                    refine tri_skip ?_
                    show Tri _ _ _ _
                    refine tri_region tokW gok [] [] rfl ?_
                    show Tri _ _ _ _
                    refine tri_region tokW gok [] [] rfl ?_
                    refine ⟨(k, y22, IntKind.i64.wrap (x18 + 1)), h, (Le.rename [] _ _ _ ⟨rfl, rfl, rfl, trivial⟩ trivial rfl rfl rfl rfl rfl), Nat.lt_succ_self k⟩
              · replace h := bif_f hb h
                refine tri_exit ?_
                cases h
                exact ⟨_, rfl, (Le.rename [] _ _ _ ⟨rfl, trivial⟩ trivial rfl rfl rfl rfl rfl)⟩
        · subst hz
          replace h := ho1
          show Tri _ _ _ _
          refine tri_le hle ?_
          refine tri_seq ?_
          refine tri_region tokW gok [] [75] rfl ?_
          intro n31 hn31
          obtain rfl : (x19.length : Int) = n31 := (hn31.trans (congrArg (fun m : Nat => (m : Int)) (rlen (fun _ => rfl) x19))).symm
          show Tri _ _ _ _
          refine tri_ret ?_
          have hy := Option.some.inj h
          subst hy
          unfold Gives
          exact ⟨_, Le.refl _ _, rfl, rfl⟩

/- vinculum/vinculumlaw03.CodecRoundTrip -/
def m10 (n : Nat) : CV → (List UInt8) → Option Bool
| ⟨a1_kind, a1_int, a1_text, a1_list⟩, a2 =>
  (m11 n ).bind fun y3 =>
  bif (!y3) then (
    some false
  ) else (
    (
      (m12 n (CV.mk a1_kind a1_int a1_text a1_list)).bind fun y5 =>
      bif (!y5) then (
        some true
      ) else (
        some (decide (3000 < (a2.length : Int)))
      )
     : Option (Bool)).bind fun x4 =>
    bif x4 then (
      some true
    ) else (
      (m14 n (CV.mk a1_kind a1_int a1_text a1_list)).bind fun ⟨y7_kind, y7_int, y7_text, y7_list⟩ =>
      (m16 n (CV.mk y7_kind y7_int y7_text y7_list)).bind fun ⟨y8, y9⟩ =>
      (
        bif (y9 == 0) then (
          (m22 n y8).bind fun ⟨⟨y10_kind, y10_int, y10_text, y10_list⟩, y11⟩ =>
          (
            bif (y11 != 0) then (
              some true
            ) else (
              (m14 n (CV.mk a1_kind a1_int a1_text a1_list)).bind fun ⟨y13_kind, y13_int, y13_text, y13_list⟩ =>
              (m13 n (CV.mk y10_kind y10_int y10_text y10_list) (CV.mk y13_kind y13_int y13_text y13_list)).bind fun y14 =>
              some (!y14)
            )
           : Option (Bool)).bind fun x12 =>
          bif x12 then (
            some (.ret false)
          ) else (
            some (.go ())
          )
        ) else (
          some (.go ())
        )
       : Option (Fl Bool Unit)).bind fun fl => match fl with
      | .ret r => some r
      | .go _ =>
        (m22 n a2).bind fun ⟨⟨y15_kind, y15_int, y15_text, y15_list⟩, y16⟩ =>
        bif (y16 != 0) then (
          some (y16 == 4)
        ) else (
          (m16 n (CV.mk y15_kind y15_int y15_text y15_list)).bind fun ⟨y17, y18⟩ =>
          (
            bif (y18 == 0) then (
              bif (y17 == a2) then (
                (m17 n (CV.mk y15_kind y15_int y15_text y15_list)).bind fun y22 =>
                some y22
              ) else (
                some false
              )
            ) else (
              some false
            )
           : Option (Bool)).bind fun x19 =>
          some x19
        )
    )
  )
def R10 (n : Nat) (xs : List AV) (r : Ret) : Prop := ∃ (a0 : CV) (a1 : List UInt8) (y0 : Bool), m10 n a0 a1 = some y0 ∧ xs = [.agg ((CV.enc a0).map .s), .s (.sl 1 ((List.map brow) a1))] ∧ r = .val (.s (.bool y0))
def S10 : PSpec := pspec fun xs r => ∃ n, R10 n xs r
set_option maxHeartbeats 2000000 in
theorem ok10 : PSound Try.prog 10 S10 := by
  have gok : ∀ f s, look? f [(11, S11), (12, S12), (14, S14), (16, S16), (22, S22), (13, S13), (17, S17)] = some s → PSound Try.prog f s := look_all (by
    simp only [List.forall_mem_cons]
    exact ⟨ok11, ok12, ok14, ok16, ok22, ok13, ok17, by simp⟩)
  refine psound tokW Try.call10 Try.func10 rfl (fun xs r h => by obtain ⟨n, _, _, _, _, rfl, _⟩ := h; show 2 ≤ 72; decide) 72 rfl ?_
  rintro xs r w0 G0 ⟨n, ⟨a1_kind, a1_int, a1_text, a1_list⟩, a2, y0, h, rfl, rfl⟩ _
  refine tri_seq ?_
  refine tri_region tokW gok [] [] rfl ?_
  show Tri _ _ _ _
  refine tri_seq ?_
  refine tri_seq ?_
  refine tri_region tokW gok [] [] rfl ?_
  obtain ⟨y3, hy3, h⟩ := bind_out h
  refine ⟨_, ⟨_, _, hy3, rfl, rfl⟩, ?_⟩
  show Tri _ _ _ _
  refine tri_cond rfl (fun hb => ?_) (fun hb => ?_)
  · replace h := bif_t hb h
    refine tri_seq ?_
    refine tri_region tokW gok [] [] rfl ?_
    show Tri _ _ _ _
    refine tri_ret ?_
    have hy := Option.some.inj h
    subst hy
    unfold Gives
    exact ⟨_, Le.refl _ _, rfl, rfl⟩
  · replace h := bif_f hb h
    refine tri_skip ?_
    show Tri _ _ _ _
    refine tri_seq ?_
    refine tri_seq ?_
    obtain ⟨x4, hj, h⟩ := bind_out h
    refine tri_post ⟨ofL [(1, .s (.sl 1 ((List.map brow) a2))), (2, .s (.pt [.int .i64 a1_kind, .int .i64 a1_int, .str a1_text, .sl 4 (CV.encs a1_list)])), (22, .s (.bool x4))], fun _ => none, 0⟩ ?_ (fun σ' hle => ?_)
    · replace h := hj
      refine tri_region tokW gok [] [18, 20] rfl ?_
      obtain ⟨y5, hy5, h⟩ := bind_out h
      refine ⟨_, ⟨_, _, _, hy5, rfl, rfl⟩, ?_⟩
      intro b hb
      cases b with
      | true =>
        replace h := bif_t hb.symm h
        cases h
        exact (Le.forget _ ⟨rfl, rfl, rfl, trivial⟩)
      | false =>
        replace h := bif_f hb.symm h
        intro n6 hn6
        obtain rfl : (a2.length : Int) = n6 := (hn6.trans (congrArg (fun m : Nat => (m : Int)) (rlen (fun _ => rfl) a2))).symm
        cases h
        exact (Le.forget _ ⟨rfl, rfl, rfl, trivial⟩)
    · show Tri _ _ _ _
      refine tri_le hle ?_
      refine tri_cond rfl (fun hb => ?_) (fun hb => ?_)
      · replace h := bif_t hb h
        refine tri_seq ?_
        refine tri_region tokW gok [] [] rfl ?_
        show Tri _ _ _ _
        refine tri_ret ?_
        have hy := Option.some.inj h
        subst hy
        unfold Gives
        exact ⟨_, Le.refl _ _, rfl, rfl⟩
      · replace h := bif_f hb h
        refine tri_skip ?_
        show Tri _ _ _ _
        refine tri_seq ?_
        refine tri_seq ?_
        refine tri_region tokW gok [] [] rfl ?_
        obtain ⟨⟨y7_kind, y7_int, y7_text, y7_list⟩, hy7, h⟩ := bind_out h
        refine ⟨_, ⟨_, _, _, hy7, rfl, rfl⟩, ?_⟩
        obtain ⟨⟨y8, y9⟩, hy8, h⟩ := bind_out h
        refine ⟨_, ⟨_, _, _, _, hy8, rfl, rfl⟩, ?_⟩
        show Tri _ _ _ _
        refine tri_seq ?_
        refine tri_region tokW gok [] [] rfl ?_
        show Tri _ _ _ _
        obtain ⟨fl, hj, ho1⟩ := bind_out h
        refine tri_fl (fl := fl) (fun z => match z with | _ => ⟨ofL [(1, .s (.sl 1 ((List.map brow) a2)))], ofH [], 0⟩) ?_ (fun z σ' hz hle => ?_)
        · replace h := hj
          refine tri_cond rfl (fun hb => ?_) (fun hb => ?_)
          · replace h := bif_t hb h
            refine tri_seq ?_
            refine tri_region tokW gok [7] [] rfl ?_
            obtain ⟨⟨⟨y10_kind, y10_int, y10_text, y10_list⟩, y11⟩, hy10, h⟩ := bind_out h
            refine ⟨_, ⟨_, _, _, _, hy10, rfl, rfl⟩, ?_⟩
            show Tri _ _ _ _
            refine tri_le (Le.giveBox 0 [.int .i64 y10_kind, .int .i64 y10_int, .str y10_text, .sl 4 (CV.encs y10_list)] rfl rfl) ?_
            refine tri_seq ?_
            obtain ⟨x12, hj, h⟩ := bind_out h
            refine tri_post ⟨ofL [(1, .s (.sl 1 ((List.map brow) a2))), (44, .s (.bool x12))], ofH [], 0⟩ ?_ (fun σ' hle => ?_)
            · replace h := hj
              refine tri_drawn tokW gok mixed [] [38] [] rfl (by decide +kernel) ?_
              intro b hb
              cases b with
              | true =>
                replace h := bif_t hb.symm h
                cases h
                exact (Le.rename [] _ _ _ ⟨rfl, rfl, trivial⟩ trivial rfl rfl rfl rfl rfl)
              | false =>
                replace h := bif_f hb.symm h
                obtain ⟨⟨y13_kind, y13_int, y13_text, y13_list⟩, hy13, h⟩ := bind_out h
                refine ⟨_, ⟨_, _, _, hy13, rfl, rfl⟩, ?_⟩
                obtain ⟨y14, hy14, h⟩ := bind_out h
                refine ⟨_, ⟨_, _, _, _, hy14, rfl, rfl⟩, ?_⟩
                cases h
                exact (Le.rename [] _ _ _ ⟨rfl, rfl, trivial⟩ trivial rfl rfl rfl rfl rfl)
            · show Tri _ _ _ _
              refine tri_le hle ?_
              refine tri_cond rfl (fun hb => ?_) (fun hb => ?_)
              · replace h := bif_t hb h
                refine tri_seq ?_
                refine tri_region tokW gok [] [] rfl ?_
                show Tri _ _ _ _
                refine tri_ret ?_
                cases h
                replace h : some _ = some _ := ho1
                have hy := Option.some.inj h
                subst hy
                unfold Gives
                exact ⟨_, Le.refl _ _, rfl, rfl⟩
              · replace h := bif_f hb h
                refine tri_skip ?_
                cases h
                exact ⟨_, rfl, (Le.rename [] _ _ _ ⟨rfl, trivial⟩ trivial rfl rfl rfl rfl rfl)⟩
          · replace h := bif_f hb h
            refine tri_skip ?_
            cases h
            exact ⟨_, rfl, (Le.forget _ ⟨rfl, trivial⟩)⟩
        · subst hz
          obtain _ := z
          replace h := ho1
          show Tri _ _ _ _
          refine tri_le hle ?_
          refine tri_seq ?_
          refine tri_region tokW gok [9] [] rfl ?_
          obtain ⟨⟨⟨y15_kind, y15_int, y15_text, y15_list⟩, y16⟩, hy15, h⟩ := bind_out h
          refine ⟨_, ⟨_, _, _, _, hy15, rfl, rfl⟩, ?_⟩
          show Tri _ _ _ _
          refine tri_le (Le.giveBox 0 [.int .i64 y15_kind, .int .i64 y15_int, .str y15_text, .sl 4 (CV.encs y15_list)] rfl rfl) ?_
          refine tri_seq ?_
          refine tri_seq ?_
          refine tri_region tokW gok [] [] rfl ?_
          show Tri _ _ _ _
          refine tri_cond rfl (fun hb => ?_) (fun hb => ?_)
          · replace h := bif_t hb h
            refine tri_seq ?_
            refine tri_region tokW gok [] [] rfl ?_
            show Tri _ _ _ _
            refine tri_ret ?_
            have hy := Option.some.inj h
            subst hy
            unfold Gives
            exact ⟨_, Le.refl _ _, rfl, rfl⟩
          · replace h := bif_f hb h
            refine tri_skip ?_
            show Tri _ _ _ _
            refine tri_seq ?_
            refine tri_region tokW gok [] [] rfl ?_
            obtain ⟨⟨y17, y18⟩, hy17, h⟩ := bind_out h
            refine ⟨_, ⟨_, _, _, _, hy17, rfl, rfl⟩, ?_⟩
            show Tri _ _ _ _
            refine tri_seq ?_
            obtain ⟨x19, hj, h⟩ := bind_out h
            refine tri_post ⟨ofL [(4, .s (.bool x19))], ofH [], 0⟩ ?_ (fun σ' hle => ?_)
            · replace h := hj
              refine tri_region tokW gok [] [61, 63, 65, 68] rfl ?_
              intro b hb
              cases b with
              | true =>
                replace h := bif_t hb.symm h
                refine And.intro (show List.map brow y17 = ((List.map brow y17).map browOf).map brow from by rw [brow_back]) ?_
                intro s20 hs20
                obtain rfl : y17 = s20 := (hs20.trans (brow_back _)).symm
                refine And.intro (show List.map brow a2 = ((List.map brow a2).map browOf).map brow from by rw [brow_back]) ?_
                intro s21 hs21
                obtain rfl : a2 = s21 := (hs21.trans (brow_back _)).symm
                intro b hb
                cases b with
                | true =>
                  replace h := bif_t hb.symm h
                  obtain ⟨y22, hy22, h⟩ := bind_out h
                  refine ⟨_, ⟨_, _, _, hy22, rfl, rfl⟩, ?_⟩
                  cases h
                  exact (Le.rename [] _ _ _ ⟨rfl, trivial⟩ trivial rfl rfl rfl rfl rfl)
                | false =>
                  replace h := bif_f hb.symm h
                  cases h
                  exact (Le.rename [] _ _ _ ⟨rfl, trivial⟩ trivial rfl rfl rfl rfl rfl)
              | false =>
                replace h := bif_f hb.symm h
                intro b hb
                subst hb
                cases h
                exact (Le.rename [] _ _ _ ⟨rfl, trivial⟩ trivial rfl rfl rfl rfl rfl)
            · show Tri _ _ _ _
              refine tri_le hle ?_
              refine tri_ret ?_
              have hy := Option.some.inj h
              subst hy
              unfold Gives
              exact ⟨_, Le.refl _ _, rfl, rfl⟩

end Go.Proofs.Ytjjljekedgdnnaa
