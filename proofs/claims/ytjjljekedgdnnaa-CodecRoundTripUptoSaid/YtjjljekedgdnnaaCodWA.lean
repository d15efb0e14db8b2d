/-
  THE CODEC: models and walks, printed by gw.py.
-/
import Derived.Test.YtjjljekedgdnnaaCodB
set_option linter.unusedVariables false
set_option linter.unusedSimpArgs false
namespace Go.Proofs.Ytjjljekedgdnnaa
open Go.Abs

/- vinculum/codec.valid -/
def m31_l1 (F31 : CV → Int → Option Bool) (a1_list : List CV) (a2 : Int) : Nat → Int → Option (Fl Bool Unit)
| 0, _ => none
| k+1, x9 =>
  bif decide (x9 < (a1_list.length : Int)) then (
    (at? a1_list x9).bind fun ⟨e10_kind, e10_int, e10_text, e10_list⟩ =>
    (F31 (CV.mk e10_kind e10_int e10_text e10_list) (IntKind.i64.wrap (a2 + 1))).bind fun y12 =>
    bif (!y12) then (
      some (.ret false)
    ) else (
      m31_l1 F31 a1_list a2 k (IntKind.i64.wrap (x9 + 1))
    )
  ) else (
    some (.go ())
  )
def m31 : Nat → CV → Int → Option Bool
| 0, _, _ => none
| n+1, ⟨a1_kind, a1_int, a1_text, a1_list⟩, a2 =>
  bif decide (64 < a2) then (
    some false
  ) else (
    bif (a1_kind == 1) then (
      (
        bif (a1_text == []) then (
          some ((a1_list.length : Int) == 0)
        ) else (
          some false
        )
       : Option (Bool)).bind fun x3 =>
      some x3
    ) else (
      bif (a1_kind == 2) then (
        (
          bif (a1_int == 0) then (
            some ((a1_list.length : Int) == 0)
          ) else (
            some false
          )
         : Option (Bool)).bind fun x5 =>
        some x5
      ) else (
        bif (a1_kind == 3) then (
          (
            bif (a1_int != 0) then (
              some true
            ) else (
              some (!(a1_text == []))
            )
           : Option (Bool)).bind fun x7 =>
          bif x7 then (
            some false
          ) else (
            (m31_l1 (m31 n) a1_list a2 n 0).bind fun fl => match fl with
            | .ret r => some r
            | .go _ =>
              some true
          )
        ) else (
          some false
        )
      )
    )
  )
def R31 (n : Nat) (xs : List AV) (r : Ret) : Prop := ∃ (a0 : CV) (a1 : Int) (y0 : Bool), m31 n a0 a1 = some y0 ∧ xs = [.s (.pt (CV.enc a0)), .s (.int .i64 a1)] ∧ r = .val (.s (.bool y0))
set_option maxHeartbeats 2000000 in
theorem step31 (n : Nat) (ih : PSound Try.prog 31 (pspec (R31 n))) : PSound Try.prog 31 (pspec (R31 (n + 1))) := by
  have gok : ∀ f s, look? f [(31, pspec (R31 n))] = some s → PSound Try.prog f s := look_all (by
    simp only [List.forall_mem_cons]
    exact ⟨ih, by simp⟩)
  refine psound tokW Try.call31 Try.func31 rfl (fun xs r h => by obtain ⟨_, _, _, _, rfl, _⟩ := h; show 2 ≤ 75; decide) 75 rfl ?_
  rintro xs r w0 G0 ⟨⟨a1_kind, a1_int, a1_text, a1_list⟩, a2, y0, h, rfl, rfl⟩ _
  refine tri_seq ?_
  refine tri_region tokW gok [] [] rfl ?_
  show Tri _ _ _ _
  refine tri_seq ?_
  refine tri_seq ?_
  refine tri_region tokW gok [] [] rfl ?_
  show Tri _ _ _ _
  refine tri_cond rfl (fun hb => ?_) (fun hb => ?_)
  · replace h := bif_t hb h
    refine tri_seq ?_
    refine tri_region tokW gok [] [] rfl ?_
    show Tri _ _ _ _
    refine tri_ret ?_
    have hy := Option.some.inj h
    subst hy
    unfold Gives
    exact ⟨_, Le.refl _ _, rfl, rfl⟩
  · replace h := bif_f hb h
    refine tri_skip ?_
    show Tri _ _ _ _
    refine tri_seq ?_
    refine tri_seq ?_
    refine tri_region tokW gok [] [] rfl ?_
    show Tri _ _ _ _
    refine tri_block ?_
    refine tri_seq ?_
    refine tri_region tokW gok [] [] rfl ?_
    show Tri _ _ _ _
    refine tri_cond rfl (fun hb => ?_) (fun hb => ?_)
    · replace h := bif_t hb h
      refine tri_seq ?_
      obtain ⟨x3, hj, h⟩ := bind_out h
      refine tri_post ⟨ofL [(4, .s (.bool x3))], fun _ => none, 0⟩ ?_ (fun σ' hle => ?_)
      · replace h := hj
        refine tri_region tokW gok [] [19, 24] rfl ?_
        intro b hb
        cases b with
        | true =>
          replace h := bif_t hb.symm h
          intro n4 hn4
          obtain rfl : (a1_list.length : Int) = n4 := (hn4.trans (congrArg (fun m : Nat => (m : Int)) (rlen CV.encs_eq a1_list))).symm
          cases h
          exact (Le.forget _ ⟨rfl, trivial⟩)
        | false =>
          replace h := bif_f hb.symm h
          cases h
          exact (Le.forget _ ⟨rfl, trivial⟩)
      · show Tri _ _ _ _
        refine tri_le hle ?_
        refine tri_ret ?_
        have hy := Option.some.inj h
        subst hy
        unfold Gives
        exact ⟨_, Le.refl _ _, rfl, rfl⟩
    · replace h := bif_f hb h
      refine tri_seq ?_
      refine tri_region tokW gok [] [] rfl ?_
      show Tri _ _ _ _
      refine tri_cond rfl (fun hb => ?_) (fun hb => ?_)
      · replace h := bif_t hb h
        refine tri_seq ?_
        obtain ⟨x5, hj, h⟩ := bind_out h
        refine tri_post ⟨ofL [(4, .s (.bool x5))], fun _ => none, 0⟩ ?_ (fun σ' hle => ?_)
        · replace h := hj
          refine tri_region tokW gok [] [34, 39] rfl ?_
          intro b hb
          cases b with
          | true =>
            replace h := bif_t hb.symm h
            intro n6 hn6
            obtain rfl : (a1_list.length : Int) = n6 := (hn6.trans (congrArg (fun m : Nat => (m : Int)) (rlen CV.encs_eq a1_list))).symm
            cases h
            exact (Le.forget _ ⟨rfl, trivial⟩)
          | false =>
            replace h := bif_f hb.symm h
            cases h
            exact (Le.forget _ ⟨rfl, trivial⟩)
        · show Tri _ _ _ _
          refine tri_le hle ?_
          refine tri_ret ?_
          have hy := Option.some.inj h
          subst hy
          unfold Gives
          exact ⟨_, Le.refl _ _, rfl, rfl⟩
      · replace h := bif_f hb h
        refine tri_seq ?_
        refine tri_region tokW gok [] [] rfl ?_
        show Tri _ _ _ _
        refine tri_cond rfl (fun hb => ?_) (fun hb => ?_)
        · replace h := bif_t hb h
          refine tri_seq ?_
          refine tri_seq ?_
          obtain ⟨x7, hj, h⟩ := bind_out h
          refine tri_post ⟨ofL [(0, .s (.pt [.int .i64 a1_kind, .int .i64 a1_int, .str a1_text, .sl 4 (CV.encs a1_list)])), (1, .s (.int .i64 a2)), (55, .s (.bool x7))], fun _ => none, 0⟩ ?_ (fun σ' hle => ?_)
          · replace h := hj
            refine tri_region tokW gok [] [49] rfl ?_
            intro b hb
            cases b with
            | true =>
              replace h := bif_t hb.symm h
              cases h
              exact (Le.forget _ ⟨rfl, rfl, rfl, trivial⟩)
            | false =>
              replace h := bif_f hb.symm h
              cases h
              exact (Le.forget _ ⟨rfl, rfl, rfl, trivial⟩)
          · show Tri _ _ _ _
            refine tri_le hle ?_
            refine tri_cond rfl (fun hb => ?_) (fun hb => ?_)
            · replace h := bif_t hb h
              refine tri_seq ?_
              refine tri_region tokW gok [] [] rfl ?_
              show Tri _ _ _ _
              refine tri_ret ?_
              have hy := Option.some.inj h
              subst hy
              unfold Gives
              exact ⟨_, Le.refl _ _, rfl, rfl⟩
            · replace h := bif_f hb h
              refine tri_skip ?_
              show Tri _ _ _ _
              refine tri_seq ?_
              refine tri_seq ?_
              refine tri_region tokW gok [] [60] rfl ?_
              intro n8 hn8
              obtain rfl : (a1_list.length : Int) = n8 := (hn8.trans (congrArg (fun m : Nat => (m : Int)) (rlen CV.encs_eq a1_list))).symm
              show Tri _ _ _ _
              obtain ⟨fl, hl, ho1⟩ := bind_out h
              refine tri_fl (fl := fl) (fun z => match z with | _ => ⟨ofL [], fun _ => none, 0⟩) ?_ (fun z σ' hz hle => ?_)
              · refine tri_block (tri_loopI (X := Nat × Int) (fun y => match y with | (k, x9) => ⟨ofL [(0, .s (.pt [.int .i64 a1_kind, .int .i64 a1_int, .str a1_text, .sl 4 (CV.encs a1_list)])), (1, .s (.int .i64 a2)), (60, .s (.int .i64 (a1_list.length : Int))), (61, .s (.int .i64 x9))], fun _ => none, 0⟩) (fun y => m31_l1 (m31 n) a1_list a2 y.1 y.2 = some fl) (fun y => y.1) (n, 0) hl ?_ ?_)
                · exact (Le.forget _ ⟨rfl, rfl, rfl, rfl, trivial⟩)
                · rintro ⟨k, x9⟩ h
                  cases k with
                  | zero => cases h
                  | succ k =>
                    refine tri_seq ?_
                    refine tri_region tokW gok [] [] rfl ?_
                    show Tri _ _ _ _
                    refine tri_seq ?_
                    refine tri_cond rfl (fun hb => ?_) (fun hb => ?_)
                    · replace h := bif_t hb h
                      refine tri_skip ?_
                      show Tri _ _ _ _
                      refine tri_seq ?_
                      refine tri_block ?_
                      refine tri_seq ?_
                      refine tri_region tokW gok [] [] rfl ?_
                      show Tri _ _ _ _
                      refine tri_seq ?_
                      refine tri_region tokW gok [] [69] rfl ?_
                      obtain ⟨⟨e10_kind, e10_int, e10_text, e10_list⟩, he10, h⟩ := bind_out h
                      refine And.intro (at_ok CV.encs_eq he10).1 ?_
                      intro r11 hr11
                      obtain rfl : [.int .i64 e10_kind, .int .i64 e10_int, .str e10_text, .sl 4 (CV.encs e10_list)] = r11 := (hr11.trans (at_ok CV.encs_eq he10).2.1).symm
                      obtain ⟨y12, hy12, h⟩ := bind_out h
                      refine ⟨_, ⟨_, _, _, hy12, rfl, rfl⟩, ?_⟩
                      show Tri _ _ _ _
                      refine tri_cond rfl (fun hb => ?_) (fun hb => ?_)
                      · replace h := bif_t hb h
                        refine tri_seq ?_
                        refine tri_region tokW gok [] [] rfl ?_
                        show Tri _ _ _ _
                        refine tri_ret ?_
                        cases h
                        replace h : some _ = some _ := ho1
                        have hy := Option.some.inj h
                        subst hy
                        unfold Gives
                        exact ⟨_, Le.refl _ _, rfl, rfl⟩
                      · replace h := bif_f hb h
                        refine tri_skip ?_
                        show Tri _ _ _ _
                        refine tri_region tokW gok [] [] rfl ?_
                        refine ⟨(k, IntKind.i64.wrap (x9 + 1)), h, (Le.forget _ ⟨rfl, rfl, rfl, rfl, trivial⟩), Nat.lt_succ_self k⟩
                    · replace h := bif_f hb h
                      refine tri_exit ?_
                      cases h
                      exact ⟨_, rfl, (Le.forget _ trivial)⟩
              · subst hz
                obtain _ := z
                replace h := ho1
                show Tri _ _ _ _
                refine tri_le hle ?_
                refine tri_seq ?_
                refine tri_region tokW gok [] [] rfl ?_
                show Tri _ _ _ _
                refine tri_ret ?_
                have hy := Option.some.inj h
                subst hy
                unfold Gives
                exact ⟨_, Le.refl _ _, rfl, rfl⟩
        · replace h := bif_f hb h
          refine tri_skip ?_
          show Tri _ _ _ _
          refine tri_seq ?_
          refine tri_region tokW gok [] [] rfl ?_
          show Tri _ _ _ _
          refine tri_ret ?_
          have hy := Option.some.inj h
          subst hy
          unfold Gives
          exact ⟨_, Le.refl _ _, rfl, rfl⟩
theorem all31 : ∀ n, PSound Try.prog 31 (pspec (R31 n)) := by
  intro n
  induction n with
  | zero => exact ⟨Try.call31, fun G w xs vs r _ _ _ h => (by obtain ⟨_, _, _, h, _⟩ := h; cases h), fun R hR => by cases hR⟩
  | succ n ih => exact step31 n ih
def S31 : PSpec := pspec fun xs r => ∃ n, R31 n xs r
theorem ok31 : PSound Try.prog 31 S31 := psound_all all31

/- vinculum/codec.Valid -/
def m17 (n : Nat) : CV → Option Bool
| ⟨v1_kind, v1_int, v1_text, v1_list⟩ =>
  (m31 n (CV.mk v1_kind v1_int v1_text v1_list) 1).bind fun y2 =>
  some y2
def R17 (n : Nat) (xs : List AV) (r : Ret) : Prop := ∃ (a0 : CV) (y0 : Bool), m17 n a0 = some y0 ∧ xs = [.agg ((CV.enc a0).map .s)] ∧ r = .val (.s (.bool y0))
def S17 : PSpec := pspec fun xs r => ∃ n, R17 n xs r
set_option maxHeartbeats 2000000 in
theorem ok17 : PSound Try.prog 17 S17 := by
  have gok : ∀ f s, look? f [(31, S31)] = some s → PSound Try.prog f s := look_all (by
    simp only [List.forall_mem_cons]
    exact ⟨ok31, by simp⟩)
  refine psound tokW Try.call17 Try.func17 rfl (fun xs r h => by obtain ⟨n, _, _, _, rfl, _⟩ := h; show 1 ≤ 4; decide) 4 rfl ?_
  rintro xs r w0 G0 ⟨n, ⟨v1_kind, v1_int, v1_text, v1_list⟩, y0, h, rfl, rfl⟩ _
  refine tri_seq ?_
  refine tri_region tokW gok [] [] rfl ?_
  show Tri _ _ _ _
  refine tri_seq ?_
  refine tri_region tokW gok [] [] rfl ?_
  obtain ⟨y2, hy2, h⟩ := bind_out h
  refine ⟨_, ⟨_, _, _, _, hy2, rfl, rfl⟩, ?_⟩
  show Tri _ _ _ _
  refine tri_ret ?_
  have hy := Option.some.inj h
  subst hy
  unfold Gives
  exact ⟨_, Le.refl _ _, rfl, rfl⟩

/- vinculum/codec.number -/
def m39 : CV → Option Int
| ⟨v1_kind, v1_int, v1_text, v1_list⟩ =>
  bif (v1_kind == 2) then (
    some (IntKind.u64.wrap (v1_text.length : Int))
  ) else (
    bif (v1_kind == 3) then (
      some (IntKind.u64.wrap (v1_list.length : Int))
    ) else (
      bif decide (v1_int < 0) then (
        some (IntKind.u64.wrap ((IntKind.u64.wrap (2 * (IntKind.u64.wrap (IntKind.i64.wrap (0 - (IntKind.i64.wrap (v1_int + 1))))))) + 1))
      ) else (
        some (IntKind.u64.wrap (2 * (IntKind.u64.wrap v1_int)))
      )
    )
  )
def R39 (xs : List AV) (r : Ret) : Prop := ∃ (a0 : CV) (y0 : Int), m39 a0 = some y0 ∧ xs = [.s (.pt (CV.enc a0))] ∧ r = .val (.s (.int .u64 y0))
def S39 : PSpec := pspec fun xs r => R39 xs r
set_option maxHeartbeats 2000000 in
theorem ok39 : PSound Try.prog 39 S39 := by
  have gok : ∀ (f : Nat) (s : PSpec), (fun _ => none : Nat → Option PSpec) f = some s → PSound Try.prog f s := fun _ _ h => by cases h
  refine psound tokW Try.call39 Try.func39 rfl (fun xs r h => by obtain ⟨_, _, _, rfl, _⟩ := h; show 1 ≤ 48; decide) 48 rfl ?_
  rintro xs r w0 G0 ⟨⟨v1_kind, v1_int, v1_text, v1_list⟩, y0, h, rfl, rfl⟩ _
  refine tri_seq ?_
  refine tri_region tokW gok [] [] rfl ?_
  show Tri _ _ _ _
  refine tri_seq ?_
  refine tri_block ?_
  refine tri_seq ?_
  refine tri_region tokW gok [] [] rfl ?_
  show Tri _ _ _ _
  refine tri_cond rfl (fun hb => ?_) (fun hb => ?_)
  · replace h := bif_t hb h
    refine tri_seq ?_
    refine tri_region tokW gok [] [] rfl ?_
    show Tri _ _ _ _
    refine tri_ret ?_
    have hy := Option.some.inj h
    subst hy
    unfold Gives
    exact ⟨_, Le.refl _ _, rfl, rfl⟩
  · replace h := bif_f hb h
    refine tri_seq ?_
    refine tri_region tokW gok [] [] rfl ?_
    show Tri _ _ _ _
    refine tri_cond rfl (fun hb => ?_) (fun hb => ?_)
    · replace h := bif_t hb h
      refine tri_seq ?_
      refine tri_region tokW gok [] [25] rfl ?_
      intro n2 hn2
      obtain rfl : (v1_list.length : Int) = n2 := (hn2.trans (congrArg (fun m : Nat => (m : Int)) (rlen CV.encs_eq v1_list))).symm
      show Tri _ _ _ _
      refine tri_ret ?_
      have hy := Option.some.inj h
      subst hy
      unfold Gives
      exact ⟨_, Le.refl _ _, rfl, rfl⟩
    · replace h := bif_f hb h
      refine tri_seq ?_
      refine tri_region tokW gok [] [] rfl ?_
      show Tri _ _ _ _
      refine tri_cond rfl (fun hb => ?_) (fun hb => ?_)
      · replace h := bif_t hb h
        refine tri_seq ?_
        refine tri_region tokW gok [] [] rfl ?_
        show Tri _ _ _ _
        refine tri_ret ?_
        have hy := Option.some.inj h
        subst hy
        unfold Gives
        exact ⟨_, Le.refl _ _, rfl, rfl⟩
      · replace h := bif_f hb h
        refine tri_skip ?_
        show Tri _ _ _ _
        refine tri_seq ?_
        refine tri_region tokW gok [] [] rfl ?_
        show Tri _ _ _ _
        refine tri_ret ?_
        have hy := Option.some.inj h
        subst hy
        unfold Gives
        exact ⟨_, Le.refl _ _, rfl, rfl⟩

/- vinculum/codec.bytesOf -/
def m40_l1  : Nat → Int → Int → Option (Int)
| 0, _, _ => none
| k+1, n2, k3 =>
  bif (n2 != 0) then (
    m40_l1 k (n2.fdiv (2 ^ (min (8 : Int).toNat IntKind.u64.bits))) (IntKind.i64.wrap (k3 + 1))
  ) else (
    some k3
  )
def m40 (n : Nat) : Int → Option Int
| n1 =>
  (m40_l1  n (n1.fdiv (2 ^ (min (8 : Int).toNat IntKind.u64.bits))) 1).bind fun k4 =>
  some k4
def R40 (n : Nat) (xs : List AV) (r : Ret) : Prop := ∃ (a0 : Int) (y0 : Int), m40 n a0 = some y0 ∧ xs = [.s (.int .u64 a0)] ∧ r = .val (.s (.int .i64 y0))
def S40 : PSpec := pspec fun xs r => ∃ n, R40 n xs r
set_option maxHeartbeats 2000000 in
theorem ok40 : PSound Try.prog 40 S40 := by
  have gok : ∀ (f : Nat) (s : PSpec), (fun _ => none : Nat → Option PSpec) f = some s → PSound Try.prog f s := fun _ _ h => by cases h
  refine psound tokW Try.call40 Try.func40 rfl (fun xs r h => by obtain ⟨n, _, _, _, rfl, _⟩ := h; show 1 ≤ 13; decide) 13 rfl ?_
  rintro xs r w0 G0 ⟨n, n1, y0, h, rfl, rfl⟩ _
  refine tri_seq ?_
  refine tri_region tokW gok [] [] rfl ?_
  show Tri _ _ _ _
  refine tri_seq ?_
  refine tri_region tokW gok [] [] rfl ?_
  show Tri _ _ _ _
  refine tri_seq ?_
  refine tri_seq ?_
  refine tri_region tokW gok [] [] rfl ?_
  refine And.intro (by decide) ?_
  show Tri _ _ _ _
  obtain ⟨k4, hl, h⟩ := bind_out h
  refine tri_post ⟨ofL [(3, .s (.int .i64 k4))], fun _ => none, 0⟩ ?_ (fun σ' hle => ?_)
  · refine tri_block (tri_loopI (X := Nat × Int × Int) (fun y => match y with | (k, n2, k3) => ⟨ofL [(0, .s (.int .u64 n2)), (3, .s (.int .i64 k3))], fun _ => none, 0⟩) (fun y => m40_l1  y.1 y.2.1 y.2.2 = some k4) (fun y => y.1) (n, n1.fdiv (2 ^ (min (8 : Int).toNat IntKind.u64.bits)), 1) hl ?_ ?_)
    · exact (Le.forget _ ⟨rfl, rfl, trivial⟩)
    · rintro ⟨k, n2, k3⟩ h
      cases k with
      | zero => cases h
      | succ k =>
        refine tri_seq ?_
        refine tri_seq ?_
        refine tri_region tokW gok [] [] rfl ?_
        show Tri _ _ _ _
        refine tri_cond rfl (fun hb => ?_) (fun hb => ?_)
        · replace h := bif_t hb h
          refine tri_skip ?_
          show Tri _ _ _ _
          refine tri_seq ?_
          refine tri_block ?_
          refine tri_region tokW gok [] [] rfl ?_
          show Tri _ _ _ _
          refine tri_region tokW gok [] [] rfl ?_
          refine And.intro (by decide) ?_
          refine ⟨(k, n2.fdiv (2 ^ (min (8 : Int).toNat IntKind.u64.bits)), IntKind.i64.wrap (k3 + 1)), h, (Le.forget _ ⟨rfl, rfl, trivial⟩), Nat.lt_succ_self k⟩
        · replace h := bif_f hb h
          refine tri_exit ?_
          cases h
          exact (Le.forget _ ⟨rfl, trivial⟩)
  · show Tri _ _ _ _
    refine tri_le hle ?_
    refine tri_seq ?_
    refine tri_region tokW gok [] [] rfl ?_
    show Tri _ _ _ _
    refine tri_ret ?_
    have hy := Option.some.inj h
    subst hy
    unfold Gives
    exact ⟨_, Le.refl _ _, rfl, rfl⟩

/- vinculum/codec.head -/
def m35_l1 (y3 : Int) : Nat → Int → (List UInt8) → Option ((List UInt8))
| 0, _, _ => none
| k+1, i8, l9 =>
  bif decide (0 ≤ i8) then (
    req (0 ≤ IntKind.i64.wrap (8 * i8)) <|
    req (l9.length + [b8of (IntKind.u8.wrap (y3.fdiv (2 ^ (min (IntKind.i64.wrap (8 * i8)).toNat IntKind.u64.bits))))].length ≤ 4294967296) <|
    m35_l1 y3 k (IntKind.i64.wrap (i8 - 1)) (l9 ++ [b8of (IntKind.u8.wrap (y3.fdiv (2 ^ (min (IntKind.i64.wrap (8 * i8)).toNat IntKind.u64.bits))))])
  ) else (
    some l9
  )
def m35 (n : Nat) : (List UInt8) → CV → Option (List UInt8)
| b1, ⟨v2_kind, v2_int, v2_text, v2_list⟩ =>
  (m39 (CV.mk v2_kind v2_int v2_text v2_list)).bind fun y3 =>
  bif decide (y3 < 56) then (
    req (b1.length + [b8of (IntKind.u8.wrap ((IntKind.u8.wrap (IntKind.i64.wrap (64 * v2_kind))) + (IntKind.u8.wrap y3)))].length ≤ 4294967296) <|
    some (b1 ++ [b8of (IntKind.u8.wrap ((IntKind.u8.wrap (IntKind.i64.wrap (64 * v2_kind))) + (IntKind.u8.wrap y3)))])
  ) else (
    (m40 n y3).bind fun y5 =>
    req (b1.length + [b8of (IntKind.u8.wrap (IntKind.i64.wrap ((IntKind.i64.wrap ((IntKind.i64.wrap ((IntKind.i64.wrap (64 * v2_kind)) + 56)) - 1)) + y5)))].length ≤ 4294967296) <|
    (m35_l1 y3 n (IntKind.i64.wrap (y5 - 1)) (b1 ++ [b8of (IntKind.u8.wrap (IntKind.i64.wrap ((IntKind.i64.wrap ((IntKind.i64.wrap ((IntKind.i64.wrap (64 * v2_kind)) + 56)) - 1)) + y5)))])).bind fun l10 =>
    some l10
  )
def R35 (n : Nat) (xs : List AV) (os : List Ob) (x : AV) (os' : List (Option Ob)) : Prop := ∃ (a0 : List UInt8) (a1 : CV) (y0 : List UInt8), m35 n a0 a1 = some y0 ∧ xs = [.orow 0, .s (.pt (CV.enc a1))] ∧ os = [.row 5 1 ((List.map brow) a0)] ∧ x = .orow 1 ∧ os' = [none, some (.row 5 1 ((List.map brow) y0))]
def S35 : PSpec := ospec (fun xs os x os' => ∃ n, R35 n xs os x os') (some 0)
set_option maxHeartbeats 2000000 in
theorem ok35 : PSound Try.prog 35 S35 := by
  have gok : ∀ f s, look? f [(39, S39), (40, S40)] = some s → PSound Try.prog f s := look_all (by
    simp only [List.forall_mem_cons]
    exact ⟨ok39, ok40, by simp⟩)
  refine PSound.withNil (osound tokW Try.call35 Try.func35 rfl (fun xs os x os' h => by obtain ⟨n, _, _, _, _, rfl, rfl, _, rfl⟩ := h; exact ⟨by show 2 ≤ 54; decide, by show 1 ≤ 2; decide⟩) 54 rfl ?_) _
  rintro xs os x os' w0 G0 B0 ⟨n, b1, ⟨v2_kind, v2_int, v2_text, v2_list⟩, y0, h, rfl, rfl, rfl, rfl⟩ _
  refine tri_seq ?_
  refine tri_region tokW gok [4] [] rfl ?_
  show Tri _ _ _ _
  refine tri_le (Le.rename [(0, 0)] [(0, .orow 0), (1, .s (.pt [.int .i64 v2_kind, .int .i64 v2_int, .str v2_text, .sl 4 (CV.encs v2_list)]))] [(0, .row 5 1 ((List.map brow) b1))] 1 ⟨rfl, rfl, trivial⟩ ⟨rfl, ⟨_, rfl, rfl⟩, trivial⟩ rfl rfl rfl rfl rfl) ?_
  refine tri_seq ?_
  refine tri_region tokW gok [] [] rfl ?_
  obtain ⟨y3, hy3, h⟩ := bind_out h
  refine ⟨_, ⟨_, _, hy3, rfl, rfl⟩, ?_⟩
  show Tri _ _ _ _
  refine tri_seq ?_
  refine tri_seq ?_
  refine tri_region tokW gok [] [] rfl ?_
  show Tri _ _ _ _
  refine tri_cond rfl (fun hb => ?_) (fun hb => ?_)
  · replace h := bif_t hb h
    refine tri_seq ?_
    refine tri_region tokW gok [23] [22] rfl ?_
    intro r4 hr4
    obtain rfl : (List.map brow) [b8of (IntKind.u8.wrap ((IntKind.u8.wrap (IntKind.i64.wrap (64 * v2_kind))) + (IntKind.u8.wrap y3)))] = r4 := (hr4.trans (by simp [List.map_append, List.map_take, List.map_drop, irow, brow, b8of_row, List.map_cons, List.map_nil, b8of_wrap, CV.encs_eq, CV.enc])).symm
    obtain ⟨hq, h⟩ := req_out h
    refine And.intro (show (((List.map brow) b1).length + ((List.map brow) [b8of (IntKind.u8.wrap ((IntKind.u8.wrap (IntKind.i64.wrap (64 * v2_kind))) + (IntKind.u8.wrap y3)))]).length) * 1 ≤ 140737488355328 ∧ ((List.map brow) b1).length + ((List.map brow) [b8of (IntKind.u8.wrap ((IntKind.u8.wrap (IntKind.i64.wrap (64 * v2_kind))) + (IntKind.u8.wrap y3)))]).length ≤ 9223372036854775807 from by simp only [List.length_append, List.length_cons, List.length_nil, List.length_map, rlen (fun _ => rfl)] at hq ⊢; omega) ?_
    show Tri _ _ _ _
    refine tri_le (Le.rename [(1, 1)] [(4, .orow 1)] [(1, .row 5 1 ((List.map brow) (b1 ++ [b8of (IntKind.u8.wrap ((IntKind.u8.wrap (IntKind.i64.wrap (64 * v2_kind))) + (IntKind.u8.wrap y3)))])))] 2 ⟨rfl, trivial⟩ ⟨rfl, ⟨_, rfl, congrArg (Ob.row 5 1) (by simp [List.map_append, List.map_take, List.map_drop, irow, brow, b8of_row, List.map_cons, List.map_nil, b8of_wrap, CV.encs_eq, CV.enc])⟩, trivial⟩ rfl rfl rfl rfl rfl) ?_
    refine tri_ret ?_
    have hy := Option.some.inj h
    subst hy
    unfold GivesO
    exact ⟨_, (Le.rename [(1, 1)] [(4, .orow 1)] [(1, .row 5 1 ((List.map brow) (b1 ++ [b8of (IntKind.u8.wrap ((IntKind.u8.wrap (IntKind.i64.wrap (64 * v2_kind))) + (IntKind.u8.wrap y3)))])))] 2 ⟨rfl, trivial⟩ ⟨rfl, ⟨_, rfl, rfl⟩, trivial⟩ rfl rfl rfl rfl rfl), rfl, rfl, rfl, rfl, trivial⟩
  · replace h := bif_f hb h
    refine tri_skip ?_
    show Tri _ _ _ _
    refine tri_seq ?_
    refine tri_region tokW gok [] [] rfl ?_
    obtain ⟨y5, hy5, h⟩ := bind_out h
    refine ⟨_, ⟨_, _, _, hy5, rfl, rfl⟩, ?_⟩
    show Tri _ _ _ _
    refine tri_seq ?_
    refine tri_region tokW gok [38] [37] rfl ?_
    intro r6 hr6
    obtain rfl : (List.map brow) [b8of (IntKind.u8.wrap (IntKind.i64.wrap ((IntKind.i64.wrap ((IntKind.i64.wrap ((IntKind.i64.wrap (64 * v2_kind)) + 56)) - 1)) + y5)))] = r6 := (hr6.trans (by simp [List.map_append, List.map_take, List.map_drop, irow, brow, b8of_row, List.map_cons, List.map_nil, b8of_wrap, CV.encs_eq, CV.enc])).symm
    obtain ⟨hq, h⟩ := req_out h
    refine And.intro (show (((List.map brow) b1).length + ((List.map brow) [b8of (IntKind.u8.wrap (IntKind.i64.wrap ((IntKind.i64.wrap ((IntKind.i64.wrap ((IntKind.i64.wrap (64 * v2_kind)) + 56)) - 1)) + y5)))]).length) * 1 ≤ 140737488355328 ∧ ((List.map brow) b1).length + ((List.map brow) [b8of (IntKind.u8.wrap (IntKind.i64.wrap ((IntKind.i64.wrap ((IntKind.i64.wrap ((IntKind.i64.wrap (64 * v2_kind)) + 56)) - 1)) + y5)))]).length ≤ 9223372036854775807 from by simp only [List.length_append, List.length_cons, List.length_nil, List.length_map, rlen (fun _ => rfl)] at hq ⊢; omega) ?_
    show Tri _ _ _ _
    refine tri_le (Le.rename [(1, 1)] [(0, .orow 1), (5, .s (.int .u64 y3)), (6, .s (.int .i64 y5))] [(1, .row 5 1 ((List.map brow) (b1 ++ [b8of (IntKind.u8.wrap (IntKind.i64.wrap ((IntKind.i64.wrap ((IntKind.i64.wrap ((IntKind.i64.wrap (64 * v2_kind)) + 56)) - 1)) + y5)))])))] 2 ⟨rfl, rfl, rfl, trivial⟩ ⟨rfl, ⟨_, rfl, congrArg (Ob.row 5 1) (by simp [List.map_append, List.map_take, List.map_drop, irow, brow, b8of_row, List.map_cons, List.map_nil, b8of_wrap, CV.encs_eq, CV.enc])⟩, trivial⟩ rfl rfl rfl rfl rfl) ?_
    refine tri_seq ?_
    refine tri_seq ?_
    refine tri_region tokW gok [] [] rfl ?_
    show Tri _ _ _ _
    obtain ⟨l10, hl, h⟩ := bind_out h
    refine tri_post ⟨ofL [(0, .orow 1)], ofH [(1, .row 5 1 ((List.map brow) l10))], 2⟩ ?_ (fun σ' hle => ?_)
    · refine tri_block (tri_loopI (X := Nat × Int × (List UInt8)) (fun y => match y with | (k, i8, l9) => ⟨ofL [(0, .orow 1), (5, .s (.int .u64 y3)), (7, .s (.int .i64 i8))], ofH [(1, .row 5 1 ((List.map brow) l9))], 2⟩) (fun y => m35_l1 y3 y.1 y.2.1 y.2.2 = some l10) (fun y => y.1) (n, IntKind.i64.wrap (y5 - 1), b1 ++ [b8of (IntKind.u8.wrap (IntKind.i64.wrap ((IntKind.i64.wrap ((IntKind.i64.wrap ((IntKind.i64.wrap (64 * v2_kind)) + 56)) - 1)) + y5)))]) hl ?_ ?_)
      · exact (Le.rename [(1, 1)] _ _ _ ⟨rfl, rfl, rfl, trivial⟩ ⟨rfl, ⟨_, rfl, rfl⟩, trivial⟩ rfl rfl rfl rfl rfl)
      · rintro ⟨k, i8, l9⟩ h
        cases k with
        | zero => cases h
        | succ k =>
          refine tri_seq ?_
          refine tri_seq ?_
          refine tri_region tokW gok [] [] rfl ?_
          show Tri _ _ _ _
          refine tri_cond rfl (fun hb => ?_) (fun hb => ?_)
          · replace h := bif_t hb h
            refine tri_skip ?_
            show Tri _ _ _ _
            refine tri_seq ?_
            refine tri_block ?_
            refine tri_region tokW gok [52] [51] rfl ?_
            obtain ⟨hq, h⟩ := req_out h
            refine And.intro hq ?_
            intro r11 hr11
            obtain rfl : (List.map brow) [b8of (IntKind.u8.wrap (y3.fdiv (2 ^ (min (IntKind.i64.wrap (8 * i8)).toNat IntKind.u64.bits))))] = r11 := (hr11.trans (by simp [List.map_append, List.map_take, List.map_drop, irow, brow, b8of_row, List.map_cons, List.map_nil, b8of_wrap, CV.encs_eq, CV.enc])).symm
            obtain ⟨hq, h⟩ := req_out h
            refine And.intro (show (((List.map brow) l9).length + ((List.map brow) [b8of (IntKind.u8.wrap (y3.fdiv (2 ^ (min (IntKind.i64.wrap (8 * i8)).toNat IntKind.u64.bits))))]).length) * 1 ≤ 140737488355328 ∧ ((List.map brow) l9).length + ((List.map brow) [b8of (IntKind.u8.wrap (y3.fdiv (2 ^ (min (IntKind.i64.wrap (8 * i8)).toNat IntKind.u64.bits))))]).length ≤ 9223372036854775807 from by simp only [List.length_append, List.length_cons, List.length_nil, List.length_map, rlen (fun _ => rfl)] at hq ⊢; omega) ?_
            show Tri _ _ _ _
            refine tri_le (Le.rename [(2, 1)] [(0, .orow 1), (5, .s (.int .u64 y3)), (7, .s (.int .i64 i8))] [(1, .row 5 1 ((List.map brow) (l9 ++ [b8of (IntKind.u8.wrap (y3.fdiv (2 ^ (min (IntKind.i64.wrap (8 * i8)).toNat IntKind.u64.bits))))])))] 2 ⟨rfl, rfl, rfl, trivial⟩ ⟨rfl, ⟨_, rfl, congrArg (Ob.row 5 1) (by simp [List.map_append, List.map_take, List.map_drop, irow, brow, b8of_row, List.map_cons, List.map_nil, b8of_wrap, CV.encs_eq, CV.enc])⟩, trivial⟩ rfl rfl rfl rfl rfl) ?_
            refine tri_region tokW gok [] [] rfl ?_
            refine ⟨(k, IntKind.i64.wrap (i8 - 1), l9 ++ [b8of (IntKind.u8.wrap (y3.fdiv (2 ^ (min (IntKind.i64.wrap (8 * i8)).toNat IntKind.u64.bits))))]), h, (Le.rename [(1, 1)] _ _ _ ⟨rfl, rfl, rfl, trivial⟩ ⟨rfl, ⟨_, rfl, rfl⟩, trivial⟩ rfl rfl rfl rfl rfl), Nat.lt_succ_self k⟩
          · replace h := bif_f hb h
            refine tri_exit ?_
            cases h
            exact (Le.rename [(1, 1)] _ _ _ ⟨rfl, trivial⟩ ⟨rfl, ⟨_, rfl, rfl⟩, trivial⟩ rfl rfl rfl rfl rfl)
    · show Tri _ _ _ _
      refine tri_le hle ?_
      refine tri_seq ?_
      refine tri_region tokW gok [] [] rfl ?_
      show Tri _ _ _ _
      refine tri_ret ?_
      have hy := Option.some.inj h
      subst hy
      unfold GivesO
      exact ⟨_, (Le.rename [(1, 1)] [(4, .orow 1)] [(1, .row 5 1 ((List.map brow) l10))] 2 ⟨rfl, trivial⟩ ⟨rfl, ⟨_, rfl, rfl⟩, trivial⟩ rfl rfl rfl rfl rfl), rfl, rfl, rfl, rfl, trivial⟩

/- vinculum/codec.encode -/
def m30_l1 (F30 : (List UInt8) → CV → Option (List UInt8)) (v2_list : List CV) : Nat → Int → (List UInt8) → Option (Fl (List UInt8) ((List UInt8)))
| 0, _, _ => none
| k+1, x6, l7 =>
  bif decide (x6 < (v2_list.length : Int)) then (
    bif decide (1048576 < (l7.length : Int)) then (
      some (.ret l7)
    ) else (
      (at? v2_list x6).bind fun ⟨e10_kind, e10_int, e10_text, e10_list⟩ =>
      (F30 l7 (CV.mk e10_kind e10_int e10_text e10_list)).bind fun y12 =>
      m30_l1 F30 v2_list k (IntKind.i64.wrap (x6 + 1)) y12
    )
  ) else (
    some (.go l7)
  )
def m30 : Nat → (List UInt8) → CV → Option (List UInt8)
| 0, _, _ => none
| n+1, b1, ⟨v2_kind, v2_int, v2_text, v2_list⟩ =>
  (m35 n b1 (CV.mk v2_kind v2_int v2_text v2_list)).bind fun y3 =>
  bif decide (1048576 < (v2_text.length : Int)) then (
    req (0 ≤ (0 : Int) ∧ (0 : Int) ≤ (1048577 : Int) ∧ (1048577 : Int) ≤ (v2_text.length : Int)) <|
    req (y3.length + ((v2_text.take (1048577 : Int).toNat).drop (0 : Int).toNat).length ≤ 4294967296) <|
    some (y3 ++ ((v2_text.take (1048577 : Int).toNat).drop (0 : Int).toNat))
  ) else (
    req (y3.length + v2_text.length ≤ 4294967296) <|
    (m30_l1 (m30 n) v2_list n 0 (y3 ++ v2_text)).bind fun fl => match fl with
    | .ret r => some r
    | .go l8 =>
      some l8
  )
def R30 (n : Nat) (xs : List AV) (os : List Ob) (x : AV) (os' : List (Option Ob)) : Prop := ∃ (a0 : List UInt8) (a1 : CV) (y0 : List UInt8), m30 n a0 a1 = some y0 ∧ xs = [.orow 0, .s (.pt (CV.enc a1))] ∧ os = [.row 5 1 ((List.map brow) a0)] ∧ x = .orow 1 ∧ os' = [none, some (.row 5 1 ((List.map brow) y0))]
set_option maxHeartbeats 2000000 in
theorem step30 (n : Nat) (ih : PSound Try.prog 30 (ospec (R30 n) (some 0))) : PSound Try.prog 30 (ospec (R30 (n + 1)) (some 0)) := by
  have gok : ∀ f s, look? f [(35, S35), (30, ospec (R30 n) (some 0))] = some s → PSound Try.prog f s := look_all (by
    simp only [List.forall_mem_cons]
    exact ⟨ok35, ih, by simp⟩)
  refine PSound.withNil (osound tokW Try.call30 Try.func30 rfl (fun xs os x os' h => by obtain ⟨_, _, _, _, rfl, rfl, _, rfl⟩ := h; exact ⟨by show 2 ≤ 50; decide, by show 1 ≤ 2; decide⟩) 50 rfl ?_) _
  rintro xs os x os' w0 G0 B0 ⟨b1, ⟨v2_kind, v2_int, v2_text, v2_list⟩, y0, h, rfl, rfl, rfl, rfl⟩ _
  refine tri_seq ?_
  refine tri_region tokW gok [4] [] rfl ?_
  show Tri _ _ _ _
  refine tri_le (Le.rename [(0, 0)] [(0, .orow 0), (1, .s (.pt [.int .i64 v2_kind, .int .i64 v2_int, .str v2_text, .sl 4 (CV.encs v2_list)]))] [(0, .row 5 1 ((List.map brow) b1))] 1 ⟨rfl, rfl, trivial⟩ ⟨rfl, ⟨_, rfl, rfl⟩, trivial⟩ rfl rfl rfl rfl rfl) ?_
  refine tri_seq ?_
  refine tri_region tokW gok [8] [] rfl ?_
  obtain ⟨y3, hy3, h⟩ := bind_out h
  refine ⟨_, _, ⟨_, _, _, _, hy3, rfl, rfl, rfl, rfl⟩, ?_⟩
  show Tri _ _ _ _
  refine tri_seq ?_
  refine tri_seq ?_
  refine tri_region tokW gok [] [] rfl ?_
  show Tri _ _ _ _
  refine tri_cond rfl (fun hb => ?_) (fun hb => ?_)
  · replace h := bif_t hb h
    refine tri_seq ?_
    refine tri_region tokW gok [21] [] rfl ?_
    obtain ⟨hq, h⟩ := req_out h
    refine And.intro hq ?_
    obtain ⟨hq, h⟩ := req_out h
    refine And.intro (show (((List.map brow) y3).length + (List.map brow ((v2_text.take (1048577 : Int).toNat).drop (0 : Int).toNat)).length) * 1 ≤ 140737488355328 ∧ ((List.map brow) y3).length + (List.map brow ((v2_text.take (1048577 : Int).toNat).drop (0 : Int).toNat)).length ≤ 9223372036854775807 from by simp only [List.length_append, List.length_cons, List.length_nil, List.length_map, rlen (fun _ => rfl)] at hq ⊢; omega) ?_
    show Tri _ _ _ _
    refine tri_le (Le.rename [(2, 1)] [(4, .orow 1)] [(1, .row 5 1 ((List.map brow) (y3 ++ ((v2_text.take (1048577 : Int).toNat).drop (0 : Int).toNat))))] 2 ⟨rfl, trivial⟩ ⟨rfl, ⟨_, rfl, congrArg (Ob.row 5 1) (by simp [List.map_append, List.map_take, List.map_drop, irow, brow, b8of_row, List.map_cons, List.map_nil, b8of_wrap, CV.encs_eq, CV.enc])⟩, trivial⟩ rfl rfl rfl rfl rfl) ?_
    refine tri_ret ?_
    have hy := Option.some.inj h
    subst hy
    unfold GivesO
    exact ⟨_, (Le.rename [(1, 1)] [(4, .orow 1)] [(1, .row 5 1 ((List.map brow) (y3 ++ ((v2_text.take (1048577 : Int).toNat).drop (0 : Int).toNat))))] 2 ⟨rfl, trivial⟩ ⟨rfl, ⟨_, rfl, rfl⟩, trivial⟩ rfl rfl rfl rfl rfl), rfl, rfl, rfl, rfl, trivial⟩
  · replace h := bif_f hb h
    refine tri_skip ?_
    show Tri _ _ _ _
    refine tri_seq ?_
    refine tri_region tokW gok [27] [] rfl ?_
    obtain ⟨hq, h⟩ := req_out h
    refine And.intro (show (((List.map brow) y3).length + (List.map brow v2_text).length) * 1 ≤ 140737488355328 ∧ ((List.map brow) y3).length + (List.map brow v2_text).length ≤ 9223372036854775807 from by simp only [List.length_append, List.length_cons, List.length_nil, List.length_map, rlen (fun _ => rfl)] at hq ⊢; omega) ?_
    show Tri _ _ _ _
    refine tri_le (Le.rename [(2, 1)] [(0, .orow 1), (1, .s (.pt [.int .i64 v2_kind, .int .i64 v2_int, .str v2_text, .sl 4 (CV.encs v2_list)]))] [(1, .row 5 1 ((List.map brow) (y3 ++ v2_text)))] 2 ⟨rfl, rfl, trivial⟩ ⟨rfl, ⟨_, rfl, congrArg (Ob.row 5 1) (by simp [List.map_append, List.map_take, List.map_drop, irow, brow, b8of_row, List.map_cons, List.map_nil, b8of_wrap, CV.encs_eq, CV.enc])⟩, trivial⟩ rfl rfl rfl rfl rfl) ?_
    refine tri_seq ?_
    refine tri_seq ?_
    refine tri_region tokW gok [] [32] rfl ?_
    intro n4 hn4
    obtain rfl : (v2_list.length : Int) = n4 := (hn4.trans (congrArg (fun m : Nat => (m : Int)) (rlen CV.encs_eq v2_list))).symm
    show Tri _ _ _ _
    obtain ⟨fl, hl, ho1⟩ := bind_out h
    refine tri_fl (fl := fl) (fun z => match z with | l8 => ⟨ofL [(0, .orow 1)], ofH [(1, .row 5 1 ((List.map brow) l8))], 2⟩) ?_ (fun l8 σ' hz hle => ?_)
    · refine tri_block (tri_loopI (X := Nat × Int × (List UInt8)) (fun y => match y with | (k, x6, l7) => ⟨ofL [(0, .orow 1), (1, .s (.pt [.int .i64 v2_kind, .int .i64 v2_int, .str v2_text, .sl 4 (CV.encs v2_list)])), (32, .s (.int .i64 (v2_list.length : Int))), (33, .s (.int .i64 x6))], ofH [(1, .row 5 1 ((List.map brow) l7))], 2⟩) (fun y => m30_l1 (m30 n) v2_list y.1 y.2.1 y.2.2 = some fl) (fun y => y.1) (n, 0, y3 ++ v2_text) hl ?_ ?_)
      · exact (Le.rename [(1, 1)] _ _ _ ⟨rfl, rfl, rfl, rfl, trivial⟩ ⟨rfl, ⟨_, rfl, rfl⟩, trivial⟩ rfl rfl rfl rfl rfl)
      · rintro ⟨k, x6, l7⟩ h
        cases k with
        | zero => cases h
        | succ k =>
          refine tri_seq ?_
          refine tri_region tokW gok [] [] rfl ?_
          show Tri _ _ _ _
          refine tri_seq ?_
          refine tri_cond rfl (fun hb => ?_) (fun hb => ?_)
          · replace h := bif_t hb h
            refine tri_skip ?_
            show Tri _ _ _ _
            refine tri_seq ?_
            refine tri_block ?_
            refine tri_seq ?_
            refine tri_region tokW gok [] [] rfl ?_
            show Tri _ _ _ _
            refine tri_seq ?_
            refine tri_seq ?_
            refine tri_region tokW gok [] [37] rfl ?_
            intro n9 hn9
            obtain rfl : (l7.length : Int) = n9 := (hn9.trans (congrArg (fun m : Nat => (m : Int)) (rlen (fun _ => rfl) l7))).symm
            show Tri _ _ _ _
            refine tri_cond rfl (fun hb => ?_) (fun hb => ?_)
            · replace h := bif_t hb h
              refine tri_seq ?_
              refine tri_region tokW gok [] [] rfl ?_
              show Tri _ _ _ _
              refine tri_ret ?_
              cases h
              replace h : some _ = some _ := ho1
              have hy := Option.some.inj h
              subst hy
              unfold GivesO
              exact ⟨_, (Le.rename [(1, 1)] [(4, .orow 1)] [(1, .row 5 1 ((List.map brow) l7))] 2 ⟨rfl, trivial⟩ ⟨rfl, ⟨_, rfl, rfl⟩, trivial⟩ rfl rfl rfl rfl rfl), rfl, rfl, rfl, rfl, trivial⟩
            · replace h := bif_f hb h
              refine tri_skip ?_
              show Tri _ _ _ _
              refine tri_region tokW gok [47] [46] rfl ?_
              obtain ⟨⟨e10_kind, e10_int, e10_text, e10_list⟩, he10, h⟩ := bind_out h
              refine And.intro (at_ok CV.encs_eq he10).1 ?_
              intro r11 hr11
              obtain rfl : [.int .i64 e10_kind, .int .i64 e10_int, .str e10_text, .sl 4 (CV.encs e10_list)] = r11 := (hr11.trans (at_ok CV.encs_eq he10).2.1).symm
              obtain ⟨y12, hy12, h⟩ := bind_out h
              refine ⟨_, _, ⟨_, _, _, hy12, rfl, rfl, rfl, rfl⟩, ?_⟩
              show Tri _ _ _ _
              refine tri_region tokW gok [] [] rfl ?_
              refine ⟨(k, IntKind.i64.wrap (x6 + 1), y12), h, (Le.rename [(2, 1)] _ _ _ ⟨rfl, rfl, rfl, rfl, trivial⟩ ⟨rfl, ⟨_, rfl, rfl⟩, trivial⟩ rfl rfl rfl rfl rfl), Nat.lt_succ_self k⟩
          · replace h := bif_f hb h
            refine tri_exit ?_
            cases h
            exact ⟨_, rfl, (Le.rename [(1, 1)] _ _ _ ⟨rfl, trivial⟩ ⟨rfl, ⟨_, rfl, rfl⟩, trivial⟩ rfl rfl rfl rfl rfl)⟩
    · subst hz
      replace h := ho1
      show Tri _ _ _ _
      refine tri_le hle ?_
      refine tri_seq ?_
      refine tri_region tokW gok [] [] rfl ?_
      show Tri _ _ _ _
      refine tri_ret ?_
      have hy := Option.some.inj h
      subst hy
      unfold GivesO
      exact ⟨_, (Le.rename [(1, 1)] [(4, .orow 1)] [(1, .row 5 1 ((List.map brow) l8))] 2 ⟨rfl, trivial⟩ ⟨rfl, ⟨_, rfl, rfl⟩, trivial⟩ rfl rfl rfl rfl rfl), rfl, rfl, rfl, rfl, trivial⟩
theorem all30 : ∀ n, PSound Try.prog 30 (ospec (R30 n) (some 0)) := by
  intro n
  induction n with
  | zero => exact osound_none Try.call30 (fun xs os x os' h => by obtain ⟨_, _, _, h, _⟩ := h; cases h) _
  | succ n ih => exact step30 n ih
def S30 : PSpec := ospec (fun xs os x os' => ∃ n, R30 n xs os x os') (some 0)
theorem ok30 : PSound Try.prog 30 S30 := osound_all all30 _

/- vinculum/codec.Encode -/
def m16 (n : Nat) : CV → Option ((List UInt8) × Int)
| ⟨v1_kind, v1_int, v1_text, v1_list⟩ =>
  (m17 n (CV.mk v1_kind v1_int v1_text v1_list)).bind fun y2 =>
  bif (!y2) then (
    some ([], 1)
  ) else (
    (m30 n [] (CV.mk v1_kind v1_int v1_text v1_list)).bind fun y3 =>
    bif decide (1048576 < (y3.length : Int)) then (
      some ([], 6)
    ) else (
      some (y3, 0)
    )
  )
def R16 (n : Nat) (xs : List AV) (r : Ret) : Prop := ∃ (a0 : CV) (y0 : List UInt8) (y1 : Int), m16 n a0 = some (y0, y1) ∧ xs = [.agg ((CV.enc a0).map .s)] ∧ r = .val (.tup [.s (.sl 1 ((List.map brow) y0)), .s (.int .i64 y1)])
def S16 : PSpec := pspec fun xs r => ∃ n, R16 n xs r
set_option maxHeartbeats 2000000 in
theorem ok16 : PSound Try.prog 16 S16 := by
  have gok : ∀ f s, look? f [(17, S17), (30, S30)] = some s → PSound Try.prog f s := look_all (by
    simp only [List.forall_mem_cons]
    exact ⟨ok17, ok30, by simp⟩)
  refine psound tokW Try.call16 Try.func16 rfl (fun xs r h => by obtain ⟨n, _, _, _, _, rfl, _⟩ := h; show 1 ≤ 13; decide) 13 rfl ?_
  rintro xs r w0 G0 ⟨n, ⟨v1_kind, v1_int, v1_text, v1_list⟩, y0, y1, h, rfl, rfl⟩ _
  refine tri_seq ?_
  refine tri_region tokW gok [] [] rfl ?_
  show Tri _ _ _ _
  refine tri_seq ?_
  refine tri_seq ?_
  refine tri_region tokW gok [] [] rfl ?_
  obtain ⟨y2, hy2, h⟩ := bind_out h
  refine ⟨_, ⟨_, _, _, hy2, rfl, rfl⟩, ?_⟩
  show Tri _ _ _ _
  refine tri_cond rfl (fun hb => ?_) (fun hb => ?_)
  · replace h := bif_t hb h
    refine tri_seq ?_
    refine tri_region tokW gok [] [] rfl ?_
    show Tri _ _ _ _
    refine tri_ret ?_
    obtain ⟨hj1, hk1⟩ := Prod.mk.inj (Option.some.inj h)
    subst hj1
    subst hk1
    unfold Gives
    exact ⟨_, Le.refl _ _, rfl, rfl⟩
  · replace h := bif_f hb h
    refine tri_skip ?_
    show Tri _ _ _ _
    refine tri_seq ?_
    refine tri_region tokW gok [] [] rfl ?_
    obtain ⟨y3, hy3, h⟩ := bind_out h
    refine ⟨_, _, ⟨_, _, _, _, hy3, rfl, rfl, rfl, rfl⟩, ?_⟩
    show Tri _ _ _ _
    refine tri_seq ?_
    refine tri_seq ?_
    refine tri_region tokW gok [] [10] rfl ?_
    intro n4 hn4
    obtain rfl : (y3.length : Int) = n4 := (hn4.trans (congrArg (fun m : Nat => (m : Int)) (rlen (fun _ => rfl) y3))).symm
    show Tri _ _ _ _
    refine tri_cond rfl (fun hb => ?_) (fun hb => ?_)
    · replace h := bif_t hb h
      refine tri_seq ?_
      refine tri_region tokW gok [] [] rfl ?_
      show Tri _ _ _ _
      refine tri_ret ?_
      obtain ⟨hj1, hk1⟩ := Prod.mk.inj (Option.some.inj h)
      subst hj1
      subst hk1
      unfold Gives
      exact ⟨_, Le.refl _ _, rfl, rfl⟩
    · replace h := bif_f hb h
      refine tri_skip ?_
      show Tri _ _ _ _
      refine tri_seq ?_
      refine tri_region tokW gok [] [] rfl ?_
      show Tri _ _ _ _
      refine tri_ret ?_
      obtain ⟨hj1, hk1⟩ := Prod.mk.inj (Option.some.inj h)
      subst hj1
      subst hk1
      unfold Gives
      exact ⟨_, (Le.trans (Le.rename [(1, 0)] [(2, .orow 0), (3, .s (.int .i64 0))] [(0, .row 5 1 ((List.map brow) y3))] 1 ⟨rfl, rfl, trivial⟩ ⟨rfl, ⟨_, rfl, rfl⟩, trivial⟩ rfl rfl rfl rfl rfl) (Le.giveRow 0 rfl)), rfl, rfl⟩

/- vinculum/vinculumlaw03.awake -/
def m11 (n : Nat) : Option Bool
:=
  (m16 n (CV.mk 1 28 [] [])).bind fun ⟨y1, y2⟩ =>
  (
    bif (y2 == 0) then (
      some (y1 == [120, 56])
    ) else (
      some false
    )
   : Option (Bool)).bind fun x3 =>
  some x3
def R11 (n : Nat) (xs : List AV) (r : Ret) : Prop := ∃ (y0 : Bool), m11 n = some y0 ∧ xs = [] ∧ r = .val (.s (.bool y0))
def S11 : PSpec := pspec fun xs r => ∃ n, R11 n xs r
set_option maxHeartbeats 2000000 in
theorem ok11 : PSound Try.prog 11 S11 := by
  have gok : ∀ f s, look? f [(16, S16)] = some s → PSound Try.prog f s := look_all (by
    simp only [List.forall_mem_cons]
    exact ⟨ok16, by simp⟩)
  refine psound tokW Try.call11 Try.func11 rfl (fun xs r h => by obtain ⟨n, _, _, rfl, _⟩ := h; show 0 ≤ 15; decide) 15 rfl ?_
  rintro xs r w0 G0 ⟨n, y0, h, rfl, rfl⟩ _
  refine tri_seq ?_
  refine tri_region tokW gok [] [] rfl ?_
  show Tri _ _ _ _
  refine tri_seq ?_
  refine tri_region tokW gok [] [] rfl ?_
  obtain ⟨⟨y1, y2⟩, hy1, h⟩ := bind_out h
  refine ⟨_, ⟨_, _, _, _, hy1, rfl, rfl⟩, ?_⟩
  show Tri _ _ _ _
  refine tri_seq ?_
  obtain ⟨x3, hj, h⟩ := bind_out h
  refine tri_post ⟨ofL [(0, .s (.bool x3))], fun _ => none, 0⟩ ?_ (fun σ' hle => ?_)
  · replace h := hj
    refine tri_region tokW gok [] [10, 12] rfl ?_
    intro b hb
    cases b with
    | true =>
      replace h := bif_t hb.symm h
      refine And.intro (show List.map brow y1 = ((List.map brow y1).map browOf).map brow from by rw [brow_back]) ?_
      intro s4 hs4
      obtain rfl : y1 = s4 := (hs4.trans (brow_back _)).symm
      cases h
      exact (Le.forget _ ⟨rfl, trivial⟩)
    | false =>
      replace h := bif_f hb.symm h
      cases h
      exact (Le.forget _ ⟨rfl, trivial⟩)
  · show Tri _ _ _ _
    refine tri_le hle ?_
    refine tri_ret ?_
    have hy := Option.some.inj h
    subst hy
    unfold Gives
    exact ⟨_, Le.refl _ _, rfl, rfl⟩

/- vinculum/vinculumref03.Size -/
def m28_l1 (F28 : CV → Int → Option Int) (v1_list : List CV) (most2 : Int) : Nat → Int → Int → Option (Int)
| 0, _, _ => none
| k+1, n3, i4 =>
  (
    bif decide (i4 < (v1_list.length : Int)) then (
      some (decide (n3 < most2))
    ) else (
      some false
    )
   : Option (Bool)).bind fun x6 =>
  bif x6 then (
    (at? v1_list i4).bind fun ⟨e8_kind, e8_int, e8_text, e8_list⟩ =>
    (F28 (CV.mk e8_kind e8_int e8_text e8_list) (IntKind.i64.wrap (most2 - n3))).bind fun y10 =>
    m28_l1 F28 v1_list most2 k (IntKind.i64.wrap (n3 + y10)) (IntKind.i64.wrap (i4 + 1))
  ) else (
    some n3
  )
def m28 : Nat → CV → Int → Option Int
| 0, _, _ => none
| n+1, ⟨v1_kind, v1_int, v1_text, v1_list⟩, most2 =>
  (m28_l1 (m28 n) v1_list most2 n 1 0).bind fun n5 =>
  some n5
def R28 (n : Nat) (xs : List AV) (r : Ret) : Prop := ∃ (a0 : CV) (a1 : Int) (y0 : Int), m28 n a0 a1 = some y0 ∧ xs = [.agg ((CV.enc a0).map .s), .s (.int .i64 a1)] ∧ r = .val (.s (.int .i64 y0))
set_option maxHeartbeats 2000000 in
theorem step28 (n : Nat) (ih : PSound Try.prog 28 (pspec (R28 n))) : PSound Try.prog 28 (pspec (R28 (n + 1))) := by
  have gok : ∀ f s, look? f [(28, pspec (R28 n))] = some s → PSound Try.prog f s := look_all (by
    simp only [List.forall_mem_cons]
    exact ⟨ih, by simp⟩)
  refine psound tokW Try.call28 Try.func28 rfl (fun xs r h => by obtain ⟨_, _, _, _, rfl, _⟩ := h; show 2 ≤ 31; decide) 31 rfl ?_
  rintro xs r w0 G0 ⟨⟨v1_kind, v1_int, v1_text, v1_list⟩, most2, y0, h, rfl, rfl⟩ _
  refine tri_seq ?_
  refine tri_region tokW gok [] [] rfl ?_
  show Tri _ _ _ _
  refine tri_seq ?_
  refine tri_region tokW gok [] [] rfl ?_
  show Tri _ _ _ _
  refine tri_seq ?_
  refine tri_seq ?_
  refine tri_region tokW gok [] [] rfl ?_
  show Tri _ _ _ _
  obtain ⟨n5, hl, h⟩ := bind_out h
  refine tri_post ⟨ofL [(5, .s (.int .i64 n5))], fun _ => none, 0⟩ ?_ (fun σ' hle => ?_)
  · refine tri_block (tri_loopI (X := Nat × Int × Int) (fun y => match y with | (k, n3, i4) => ⟨ofL [(1, .s (.int .i64 most2)), (2, .s (.pt [.int .i64 v1_kind, .int .i64 v1_int, .str v1_text, .sl 4 (CV.encs v1_list)])), (5, .s (.int .i64 n3)), (6, .s (.int .i64 i4))], fun _ => none, 0⟩) (fun y => m28_l1 (m28 n) v1_list most2 y.1 y.2.1 y.2.2 = some n5) (fun y => y.1) (n, 1, 0) hl ?_ ?_)
    · exact (Le.forget _ ⟨rfl, rfl, rfl, rfl, trivial⟩)
    · rintro ⟨k, n3, i4⟩ h
      cases k with
      | zero => cases h
      | succ k =>
        refine tri_seq ?_
        refine tri_seq ?_
        obtain ⟨x6, hj, h⟩ := bind_out h
        refine tri_post ⟨ofL [(1, .s (.int .i64 most2)), (2, .s (.pt [.int .i64 v1_kind, .int .i64 v1_int, .str v1_text, .sl 4 (CV.encs v1_list)])), (5, .s (.int .i64 n3)), (6, .s (.int .i64 i4)), (16, .s (.bool x6))], fun _ => none, 0⟩ ?_ (fun σ' hle => ?_)
        · replace h := hj
          refine tri_region tokW gok [] [10, 12] rfl ?_
          intro n7 hn7
          obtain rfl : (v1_list.length : Int) = n7 := (hn7.trans (congrArg (fun m : Nat => (m : Int)) (rlen CV.encs_eq v1_list))).symm
          intro b hb
          cases b with
          | true =>
            replace h := bif_t hb.symm h
            cases h
            exact (Le.forget _ ⟨rfl, rfl, rfl, rfl, rfl, trivial⟩)
          | false =>
            replace h := bif_f hb.symm h
            cases h
            exact (Le.forget _ ⟨rfl, rfl, rfl, rfl, rfl, trivial⟩)
        · show Tri _ _ _ _
          refine tri_le hle ?_
          refine tri_cond rfl (fun hb => ?_) (fun hb => ?_)
          · replace h := bif_t hb h
            refine tri_skip ?_
            show Tri _ _ _ _
            refine tri_seq ?_
            refine tri_block ?_
            refine tri_region tokW gok [] [23] rfl ?_
            obtain ⟨⟨e8_kind, e8_int, e8_text, e8_list⟩, he8, h⟩ := bind_out h
            refine And.intro (at_ok CV.encs_eq he8).1 ?_
            intro r9 hr9
            obtain rfl : [.int .i64 e8_kind, .int .i64 e8_int, .str e8_text, .sl 4 (CV.encs e8_list)] = r9 := (hr9.trans (at_ok CV.encs_eq he8).2.1).symm
            obtain ⟨y10, hy10, h⟩ := bind_out h
            refine ⟨_, ⟨_, _, _, hy10, rfl, rfl⟩, ?_⟩
            show Tri _ _ _ _
            refine tri_region tokW gok [] [] rfl ?_
            refine ⟨(k, IntKind.i64.wrap (n3 + y10), IntKind.i64.wrap (i4 + 1)), h, (Le.forget _ ⟨rfl, rfl, rfl, rfl, trivial⟩), Nat.lt_succ_self k⟩
          · replace h := bif_f hb h
            refine tri_exit ?_
            cases h
            exact (Le.forget _ ⟨rfl, trivial⟩)
  · show Tri _ _ _ _
    refine tri_le hle ?_
    refine tri_seq ?_
    refine tri_region tokW gok [] [] rfl ?_
    show Tri _ _ _ _
    refine tri_ret ?_
    have hy := Option.some.inj h
    subst hy
    unfold Gives
    exact ⟨_, Le.refl _ _, rfl, rfl⟩
theorem all28 : ∀ n, PSound Try.prog 28 (pspec (R28 n)) := by
  intro n
  induction n with
  | zero => exact ⟨Try.call28, fun G w xs vs r _ _ _ h => (by obtain ⟨_, _, _, h, _⟩ := h; cases h), fun R hR => by cases hR⟩
  | succ n ih => exact step28 n ih
def S28 : PSpec := pspec fun xs r => ∃ n, R28 n xs r
theorem ok28 : PSound Try.prog 28 S28 := psound_all all28

/- vinculum/vinculumlaw03.short -/
def m29_l1 (F29 : CV → Option Bool) (v1_list : List CV) : Nat → Int → Option (Fl Bool Unit)
| 0, _ => none
| k+1, i2 =>
  bif decide (i2 < (v1_list.length : Int)) then (
    (at? v1_list i2).bind fun ⟨e4_kind, e4_int, e4_text, e4_list⟩ =>
    (F29 (CV.mk e4_kind e4_int e4_text e4_list)).bind fun y6 =>
    bif (!y6) then (
      some (.ret false)
    ) else (
      m29_l1 F29 v1_list k (IntKind.i64.wrap (i2 + 1))
    )
  ) else (
    some (.go ())
  )
def m29 : Nat → CV → Option Bool
| 0, _ => none
| n+1, ⟨v1_kind, v1_int, v1_text, v1_list⟩ =>
  (m29_l1 (m29 n) v1_list n 0).bind fun fl => match fl with
  | .ret r => some r
  | .go _ =>
    some (decide ((v1_text.length : Int) ≤ 5000))
def R29 (n : Nat) (xs : List AV) (r : Ret) : Prop := ∃ (a0 : CV) (y0 : Bool), m29 n a0 = some y0 ∧ xs = [.agg ((CV.enc a0).map .s)] ∧ r = .val (.s (.bool y0))
set_option maxHeartbeats 2000000 in
theorem step29 (n : Nat) (ih : PSound Try.prog 29 (pspec (R29 n))) : PSound Try.prog 29 (pspec (R29 (n + 1))) := by
  have gok : ∀ f s, look? f [(29, pspec (R29 n))] = some s → PSound Try.prog f s := look_all (by
    simp only [List.forall_mem_cons]
    exact ⟨ih, by simp⟩)
  refine psound tokW Try.call29 Try.func29 rfl (fun xs r h => by obtain ⟨_, _, _, rfl, _⟩ := h; show 1 ≤ 22; decide) 22 rfl ?_
  rintro xs r w0 G0 ⟨⟨v1_kind, v1_int, v1_text, v1_list⟩, y0, h, rfl, rfl⟩ _
  refine tri_seq ?_
  refine tri_region tokW gok [] [] rfl ?_
  show Tri _ _ _ _
  refine tri_seq ?_
  refine tri_seq ?_
  refine tri_region tokW gok [] [] rfl ?_
  show Tri _ _ _ _
  obtain ⟨fl, hl, ho1⟩ := bind_out h
  refine tri_fl (fl := fl) (fun z => match z with | _ => ⟨ofL [(1, .s (.pt [.int .i64 v1_kind, .int .i64 v1_int, .str v1_text, .sl 4 (CV.encs v1_list)]))], fun _ => none, 0⟩) ?_ (fun z σ' hz hle => ?_)
  · refine tri_block (tri_loopI (X := Nat × Int) (fun y => match y with | (k, i2) => ⟨ofL [(1, .s (.pt [.int .i64 v1_kind, .int .i64 v1_int, .str v1_text, .sl 4 (CV.encs v1_list)])), (3, .s (.int .i64 i2))], fun _ => none, 0⟩) (fun y => m29_l1 (m29 n) v1_list y.1 y.2 = some fl) (fun y => y.1) (n, 0) hl ?_ ?_)
    · exact (Le.forget _ ⟨rfl, rfl, trivial⟩)
    · rintro ⟨k, i2⟩ h
      cases k with
      | zero => cases h
      | succ k =>
        refine tri_seq ?_
        refine tri_seq ?_
        refine tri_region tokW gok [] [7] rfl ?_
        intro n3 hn3
        obtain rfl : (v1_list.length : Int) = n3 := (hn3.trans (congrArg (fun m : Nat => (m : Int)) (rlen CV.encs_eq v1_list))).symm
        show Tri _ _ _ _
        refine tri_cond rfl (fun hb => ?_) (fun hb => ?_)
        · replace h := bif_t hb h
          refine tri_skip ?_
          show Tri _ _ _ _
          refine tri_seq ?_
          refine tri_block ?_
          refine tri_seq ?_
          refine tri_region tokW gok [] [14] rfl ?_
          obtain ⟨⟨e4_kind, e4_int, e4_text, e4_list⟩, he4, h⟩ := bind_out h
          refine And.intro (at_ok CV.encs_eq he4).1 ?_
          intro r5 hr5
          obtain rfl : [.int .i64 e4_kind, .int .i64 e4_int, .str e4_text, .sl 4 (CV.encs e4_list)] = r5 := (hr5.trans (at_ok CV.encs_eq he4).2.1).symm
          obtain ⟨y6, hy6, h⟩ := bind_out h
          refine ⟨_, ⟨_, _, hy6, rfl, rfl⟩, ?_⟩
          show Tri _ _ _ _
          refine tri_cond rfl (fun hb => ?_) (fun hb => ?_)
          · replace h := bif_t hb h
            refine tri_seq ?_
            refine tri_region tokW gok [] [] rfl ?_
            show Tri _ _ _ _
            refine tri_ret ?_
            cases h
            replace h : some _ = some _ := ho1
            have hy := Option.some.inj h
            subst hy
            unfold Gives
            exact ⟨_, Le.refl _ _, rfl, rfl⟩
          · replace h := bif_f hb h
            refine tri_skip ?_
            show Tri _ _ _ _
            refine tri_region tokW gok [] [] rfl ?_
            refine ⟨(k, IntKind.i64.wrap (i2 + 1)), h, (Le.forget _ ⟨rfl, rfl, trivial⟩), Nat.lt_succ_self k⟩
        · replace h := bif_f hb h
          refine tri_exit ?_
          cases h
          exact ⟨_, rfl, (Le.forget _ ⟨rfl, trivial⟩)⟩
  · subst hz
    obtain _ := z
    replace h := ho1
    show Tri _ _ _ _
    refine tri_le hle ?_
    refine tri_seq ?_
    refine tri_region tokW gok [] [] rfl ?_
    show Tri _ _ _ _
    refine tri_ret ?_
    have hy := Option.some.inj h
    subst hy
    unfold Gives
    exact ⟨_, Le.refl _ _, rfl, rfl⟩
theorem all29 : ∀ n, PSound Try.prog 29 (pspec (R29 n)) := by
  intro n
  induction n with
  | zero => exact ⟨Try.call29, fun G w xs vs r _ _ _ h => (by obtain ⟨_, _, h, _⟩ := h; cases h), fun R hR => by cases hR⟩
  | succ n ih => exact step29 n ih
def S29 : PSpec := pspec fun xs r => ∃ n, R29 n xs r
theorem ok29 : PSound Try.prog 29 S29 := psound_all all29

/- vinculum/vinculumlaw03.few -/
def m12 (n : Nat) : CV → Option Bool
| ⟨v1_kind, v1_int, v1_text, v1_list⟩ =>
  (
    (m28 n (CV.mk v1_kind v1_int v1_text v1_list) 301).bind fun y3 =>
    bif decide (y3 ≤ 300) then (
      (m29 n (CV.mk v1_kind v1_int v1_text v1_list)).bind fun y4 =>
      some y4
    ) else (
      some false
    )
   : Option (Bool)).bind fun x2 =>
  some x2
def R12 (n : Nat) (xs : List AV) (r : Ret) : Prop := ∃ (a0 : CV) (y0 : Bool), m12 n a0 = some y0 ∧ xs = [.agg ((CV.enc a0).map .s)] ∧ r = .val (.s (.bool y0))
def S12 : PSpec := pspec fun xs r => ∃ n, R12 n xs r
set_option maxHeartbeats 2000000 in
theorem ok12 : PSound Try.prog 12 S12 := by
  have gok : ∀ f s, look? f [(28, S28), (29, S29)] = some s → PSound Try.prog f s := look_all (by
    simp only [List.forall_mem_cons]
    exact ⟨ok28, ok29, by simp⟩)
  refine psound tokW Try.call12 Try.func12 rfl (fun xs r h => by obtain ⟨n, _, _, _, rfl, _⟩ := h; show 1 ≤ 10; decide) 10 rfl ?_
  rintro xs r w0 G0 ⟨n, ⟨v1_kind, v1_int, v1_text, v1_list⟩, y0, h, rfl, rfl⟩ _
  refine tri_seq ?_
  refine tri_region tokW gok [] [] rfl ?_
  show Tri _ _ _ _
  refine tri_seq ?_
  obtain ⟨x2, hj, h⟩ := bind_out h
  refine tri_post ⟨ofL [(2, .s (.bool x2))], fun _ => none, 0⟩ ?_ (fun σ' hle => ?_)
  · replace h := hj
    refine tri_region tokW gok [] [6] rfl ?_
    obtain ⟨y3, hy3, h⟩ := bind_out h
    refine ⟨_, ⟨_, _, _, _, hy3, rfl, rfl⟩, ?_⟩
    intro b hb
    cases b with
    | true =>
      replace h := bif_t hb.symm h
      obtain ⟨y4, hy4, h⟩ := bind_out h
      refine ⟨_, ⟨_, _, _, hy4, rfl, rfl⟩, ?_⟩
      cases h
      exact (Le.forget _ ⟨rfl, trivial⟩)
    | false =>
      replace h := bif_f hb.symm h
      cases h
      exact (Le.forget _ ⟨rfl, trivial⟩)
  · show Tri _ _ _ _
    refine tri_le hle ?_
    refine tri_ret ?_
    have hy := Option.some.inj h
    subst hy
    unfold Gives
    exact ⟨_, Le.refl _ _, rfl, rfl⟩

/- vinculum/vinculumlaw03.own -/
def m14_l1 (F14 : CV → Option CV) (v1_list : List CV) : Nat → Int → (List CV) → Option ((List CV))
| 0, _, _ => none
| k+1, i4, l5 =>
  bif decide (i4 < (v1_list.length : Int)) then (
    (at? v1_list i4).bind fun ⟨e8_kind, e8_int, e8_text, e8_list⟩ =>
    (F14 (CV.mk e8_kind e8_int e8_text e8_list)).bind fun ⟨y10_kind, y10_int, y10_text, y10_list⟩ =>
    req (l5.length + [CV.mk y10_kind y10_int y10_text y10_list].length ≤ 4294967296) <|
    m14_l1 F14 v1_list k (IntKind.i64.wrap (i4 + 1)) (l5 ++ [CV.mk y10_kind y10_int y10_text y10_list])
  ) else (
    some l5
  )
def m14 : Nat → CV → Option CV
| 0, _ => none
| n+1, ⟨v1_kind, v1_int, v1_text, v1_list⟩ =>
  (m14_l1 (m14 n) v1_list n 0 []).bind fun l6 =>
  some (CV.mk v1_kind v1_int v1_text l6)
def R14 (n : Nat) (xs : List AV) (r : Ret) : Prop := ∃ (a0 : CV) (y0 : CV), m14 n a0 = some y0 ∧ xs = [.agg ((CV.enc a0).map .s)] ∧ r = .val (.agg ((CV.enc y0).map .s))
set_option maxHeartbeats 2000000 in
theorem step14 (n : Nat) (ih : PSound Try.prog 14 (pspec (R14 n))) : PSound Try.prog 14 (pspec (R14 (n + 1))) := by
  have gok : ∀ f s, look? f [(14, pspec (R14 n))] = some s → PSound Try.prog f s := look_all (by
    simp only [List.forall_mem_cons]
    exact ⟨ih, by simp⟩)
  refine psound tokW Try.call14 Try.func14 rfl (fun xs r h => by obtain ⟨_, _, _, rfl, _⟩ := h; show 1 ≤ 31; decide) 31 rfl ?_
  rintro xs r w0 G0 ⟨⟨v1_kind, v1_int, v1_text, v1_list⟩, y0, h, rfl, rfl⟩ _
  refine tri_seq ?_
  refine tri_region tokW gok [2] [] rfl ?_
  show Tri _ _ _ _
  refine tri_seq ?_
  refine tri_region tokW gok [3] [] rfl ?_
  show Tri _ _ _ _
  refine tri_seq ?_
  refine tri_seq ?_
  refine tri_region tokW gok [] [] rfl ?_
  show Tri _ _ _ _
  obtain ⟨l6, hl, h⟩ := bind_out h
  refine tri_post ⟨ofL [(2, .op 0 0), (3, .op 1 0)], ofH [(0, .box [.s (.int .i64 0), .s (.int .i64 0), .s (.str []), .nl 4]), (1, .box [.s (.int .i64 v1_kind), .s (.int .i64 v1_int), .s (.str v1_text), .orow 2]), (2, .row 30 4 (CV.encs l6))], 3⟩ ?_ (fun σ' hle => ?_)
  · refine tri_block (tri_loopI (X := Nat × Int × (List CV)) (fun y => match y with | (k, i4, l5) => ⟨ofL [(1, .s (.pt [.int .i64 v1_kind, .int .i64 v1_int, .str v1_text, .sl 4 (CV.encs v1_list)])), (2, .op 0 0), (3, .op 1 0), (4, .s (.int .i64 i4))], ofH [(0, .box [.s (.int .i64 0), .s (.int .i64 0), .s (.str []), .nl 4]), (1, .box [.s (.int .i64 v1_kind), .s (.int .i64 v1_int), .s (.str v1_text), .orow 2]), (2, .row 30 4 (CV.encs l5))], 3⟩) (fun y => m14_l1 (m14 n) v1_list y.1 y.2.1 y.2.2 = some l6) (fun y => y.1) (n, 0, []) hl ?_ ?_)
    · exact (Le.trans (Le.trans (Le.rename [(0, 0), (1, 1)] [(1, .s (.pt [.int .i64 v1_kind, .int .i64 v1_int, .str v1_text, .sl 4 (CV.encs v1_list)])), (2, .op 0 0), (3, .op 1 0), (4, .s (.int .i64 0))] [(0, .box [.s (.int .i64 0), .s (.int .i64 0), .s (.str []), .nl 4]), (1, .box [.s (.int .i64 v1_kind), .s (.int .i64 v1_int), .s (.str v1_text), .nl 4])] 2 ⟨rfl, rfl, rfl, rfl, trivial⟩ ⟨rfl, ⟨_, rfl, rfl⟩, rfl, ⟨_, rfl, rfl⟩, trivial⟩ rfl rfl rfl rfl rfl) (Le.takeNil 1 3 30 rfl rfl (by decide))) (Le.rename [(0, 0), (1, 1), (2, 2)] _ _ _ ⟨rfl, rfl, rfl, rfl, trivial⟩ ⟨rfl, ⟨_, rfl, rfl⟩, rfl, ⟨_, rfl, rfl⟩, rfl, ⟨_, rfl, congrArg (Ob.row 30 4) (by simp [List.map_append, List.map_take, List.map_drop, irow, brow, b8of_row, List.map_cons, List.map_nil, b8of_wrap, CV.encs_eq, CV.enc])⟩, trivial⟩ rfl rfl rfl rfl rfl))
    · rintro ⟨k, i4, l5⟩ h
      cases k with
      | zero => cases h
      | succ k =>
        refine tri_seq ?_
        refine tri_seq ?_
        refine tri_region tokW gok [] [15] rfl ?_
        intro n7 hn7
        obtain rfl : (v1_list.length : Int) = n7 := (hn7.trans (congrArg (fun m : Nat => (m : Int)) (rlen CV.encs_eq v1_list))).symm
        show Tri _ _ _ _
        refine tri_cond rfl (fun hb => ?_) (fun hb => ?_)
        · replace h := bif_t hb h
          refine tri_skip ?_
          show Tri _ _ _ _
          refine tri_seq ?_
          refine tri_block ?_
          refine tri_drawn tokW gok mixed [28] [24, 27] [1, 9, 11] rfl (by decide +kernel) ?_
          obtain ⟨⟨e8_kind, e8_int, e8_text, e8_list⟩, he8, h⟩ := bind_out h
          refine And.intro (at_ok CV.encs_eq he8).1 ?_
          intro r9 hr9
          obtain rfl : [.int .i64 e8_kind, .int .i64 e8_int, .str e8_text, .sl 4 (CV.encs e8_list)] = r9 := (hr9.trans (at_ok CV.encs_eq he8).2.1).symm
          obtain ⟨⟨y10_kind, y10_int, y10_text, y10_list⟩, hy10, h⟩ := bind_out h
          refine ⟨_, ⟨_, _, hy10, rfl, rfl⟩, ?_⟩
          intro r11 hr11
          obtain rfl : CV.encs [CV.mk y10_kind y10_int y10_text y10_list] = r11 := (hr11.trans (by simp [List.map_append, List.map_take, List.map_drop, irow, brow, b8of_row, List.map_cons, List.map_nil, b8of_wrap, CV.encs_eq, CV.enc])).symm
          obtain ⟨hq, h⟩ := req_out h
          refine And.intro (show ((CV.encs l5).length + (CV.encs [CV.mk y10_kind y10_int y10_text y10_list]).length) * 56 ≤ 140737488355328 ∧ (CV.encs l5).length + (CV.encs [CV.mk y10_kind y10_int y10_text y10_list]).length ≤ 9223372036854775807 from by simp only [List.length_append, List.length_cons, List.length_nil, List.length_map, rlen CV.encs_eq] at hq ⊢; omega) ?_
          show Tri _ _ _ _
          refine tri_le (Le.rename [(0, 0), (1, 1), (3, 2)] [(1, .s (.pt [.int .i64 v1_kind, .int .i64 v1_int, .str v1_text, .sl 4 (CV.encs v1_list)])), (2, .op 0 0), (3, .op 1 0), (4, .s (.int .i64 i4))] [(0, .box [.s (.int .i64 0), .s (.int .i64 0), .s (.str []), .nl 4]), (1, .box [.s (.int .i64 v1_kind), .s (.int .i64 v1_int), .s (.str v1_text), .orow 2]), (2, .row 30 4 (CV.encs (l5 ++ [CV.mk y10_kind y10_int y10_text y10_list])))] 3 ⟨rfl, rfl, rfl, rfl, trivial⟩ ⟨rfl, ⟨_, rfl, rfl⟩, rfl, ⟨_, rfl, rfl⟩, rfl, ⟨_, rfl, congrArg (Ob.row 30 4) (by simp [List.map_append, List.map_take, List.map_drop, irow, brow, b8of_row, List.map_cons, List.map_nil, b8of_wrap, CV.encs_eq, CV.enc])⟩, trivial⟩ rfl rfl rfl rfl rfl) ?_
          refine tri_region tokW gok [] [] rfl ?_
          refine ⟨(k, IntKind.i64.wrap (i4 + 1), l5 ++ [CV.mk y10_kind y10_int y10_text y10_list]), h, (Le.rename [(0, 0), (1, 1), (2, 2)] _ _ _ ⟨rfl, rfl, rfl, rfl, trivial⟩ ⟨rfl, ⟨_, rfl, rfl⟩, rfl, ⟨_, rfl, rfl⟩, rfl, ⟨_, rfl, rfl⟩, trivial⟩ rfl rfl rfl rfl rfl), Nat.lt_succ_self k⟩
        · replace h := bif_f hb h
          refine tri_exit ?_
          cases h
          exact (Le.rename [(0, 0), (1, 1), (2, 2)] _ _ _ ⟨rfl, rfl, trivial⟩ ⟨rfl, ⟨_, rfl, rfl⟩, rfl, ⟨_, rfl, rfl⟩, rfl, ⟨_, rfl, rfl⟩, trivial⟩ rfl rfl rfl rfl rfl)
  · show Tri _ _ _ _
    refine tri_le hle ?_
    refine tri_seq ?_
    refine tri_region tokW gok [] [] rfl ?_
    show Tri _ _ _ _
    refine tri_ret ?_
    have hy := Option.some.inj h
    subst hy
    unfold Gives
    exact ⟨_, (Le.trans (Le.rename [(0, 0), (2, 1)] [(2, .op 0 0)] [(0, .box [.s (.int .i64 v1_kind), .s (.int .i64 v1_int), .s (.str v1_text), .orow 1]), (1, .row 30 4 (CV.encs l6))] 2 ⟨rfl, trivial⟩ ⟨rfl, ⟨_, rfl, rfl⟩, rfl, ⟨_, rfl, rfl⟩, trivial⟩ rfl rfl rfl rfl rfl) (Le.giveRow 1 rfl)), rfl, rfl⟩
theorem all14 : ∀ n, PSound Try.prog 14 (pspec (R14 n)) := by
  intro n
  induction n with
  | zero => exact ⟨Try.call14, fun G w xs vs r _ _ _ h => (by obtain ⟨_, _, h, _⟩ := h; cases h), fun R hR => by cases hR⟩
  | succ n ih => exact step14 n ih
def S14 : PSpec := pspec fun xs r => ∃ n, R14 n xs r
theorem ok14 : PSound Try.prog 14 S14 := psound_all all14

/- vinculum/codec.Equal -/
def enc61 (p : (CV × CV)) : List S := [.pt (CV.enc p.1), .pt (CV.enc p.2)]
def m13_l2 (e7_0_list : List CV) (e9_1_list : List CV) : Nat → Int → (List (CV × CV)) → Option ((List (CV × CV)))
| 0, _, _ => none
| k+1, x17, l18 =>
  bif decide (x17 < (e7_0_list.length : Int)) then (
    (at? e7_0_list x17).bind fun ⟨e20_kind, e20_int, e20_text, e20_list⟩ =>
    (at? e9_1_list x17).bind fun ⟨e22_kind, e22_int, e22_text, e22_list⟩ =>
    req (l18.length + [(CV.mk e20_kind e20_int e20_text e20_list, CV.mk e22_kind e22_int e22_text e22_list)].length ≤ 4294967296) <|
    m13_l2 e7_0_list e9_1_list k (IntKind.i64.wrap (x17 + 1)) (l18 ++ [(CV.mk e20_kind e20_int e20_text e20_list, CV.mk e22_kind e22_int e22_text e22_list)])
  ) else (
    some l18
  )
def m13_l1 (n : Nat) : Nat → (List (CV × CV)) → Option (Fl Bool Unit)
| 0, _ => none
| k+1, l4 =>
  bif decide (0 < (l4.length : Int)) then (
    (at? l4 (IntKind.i64.wrap ((l4.length : Int) - 1))).bind fun ⟨⟨e7_0_kind, e7_0_int, e7_0_text, e7_0_list⟩, ⟨e7_1_kind, e7_1_int, e7_1_text, e7_1_list⟩⟩ =>
    (at? l4 (IntKind.i64.wrap ((l4.length : Int) - 1))).bind fun ⟨⟨e9_0_kind, e9_0_int, e9_0_text, e9_0_list⟩, ⟨e9_1_kind, e9_1_int, e9_1_text, e9_1_list⟩⟩ =>
    req (0 ≤ IntKind.i64.wrap ((l4.length : Int) - 1) ∧ IntKind.i64.wrap ((l4.length : Int) - 1) ≤ (l4.length : Int)) <|
    (
      bif (e7_0_kind != e9_1_kind) then (
        some (true, l4.take (IntKind.i64.wrap ((l4.length : Int) - 1)).toNat)
      ) else (
        bif (e7_0_int != e9_1_int) then (
          some (true, l4.take (IntKind.i64.wrap ((l4.length : Int) - 1)).toNat)
        ) else (
          bif (!(e7_0_text == e9_1_text)) then (
            some (true, l4.take (IntKind.i64.wrap ((l4.length : Int) - 1)).toNat)
          ) else (
            some (((e7_0_list.length : Int) != (e9_1_list.length : Int)), l4.take (IntKind.i64.wrap ((l4.length : Int) - 1)).toNat)
          )
        )
      )
     : Option (Bool × (List (CV × CV)))).bind fun ⟨x11, l12⟩ =>
    bif x11 then (
      some (.ret false)
    ) else (
      (m13_l2 e7_0_list e9_1_list n 0 l12).bind fun l19 =>
      m13_l1 n k l19
    )
  ) else (
    some (.go ())
  )
def m13 (n : Nat) : CV → CV → Option Bool
| ⟨a1_kind, a1_int, a1_text, a1_list⟩, ⟨a2_kind, a2_int, a2_text, a2_list⟩ =>
  (m13_l1 n n [(CV.mk a1_kind a1_int a1_text a1_list, CV.mk a2_kind a2_int a2_text a2_list)]).bind fun fl => match fl with
  | .ret r => some r
  | .go _ =>
    some true
def R13 (n : Nat) (xs : List AV) (r : Ret) : Prop := ∃ (a0 : CV) (a1 : CV) (y0 : Bool), m13 n a0 a1 = some y0 ∧ xs = [.agg ((CV.enc a0).map .s), .agg ((CV.enc a1).map .s)] ∧ r = .val (.s (.bool y0))
def S13 : PSpec := pspec fun xs r => ∃ n, R13 n xs r
set_option maxHeartbeats 2000000 in
theorem ok13 : PSound Try.prog 13 S13 := by
  have gok : ∀ (f : Nat) (s : PSpec), (fun _ => none : Nat → Option PSpec) f = some s → PSound Try.prog f s := fun _ _ h => by cases h
  refine psound tokW Try.call13 Try.func13 rfl (fun xs r h => by obtain ⟨n, _, _, _, _, rfl, _⟩ := h; show 2 ≤ 102; decide) 102 rfl ?_
  rintro xs r w0 G0 ⟨n, ⟨a1_kind, a1_int, a1_text, a1_list⟩, ⟨a2_kind, a2_int, a2_text, a2_list⟩, y0, h, rfl, rfl⟩ _
  refine tri_seq ?_
  refine tri_region tokW gok [] [] rfl ?_
  show Tri _ _ _ _
  refine tri_seq ?_
  refine tri_region tokW gok [10] [] rfl ?_
  show Tri _ _ _ _
  refine tri_le (Le.rename [(0, 0)] [(5, .orow 0)] [(0, .row 61 2 ((List.map enc61) [(CV.mk a1_kind a1_int a1_text a1_list, CV.mk a2_kind a2_int a2_text a2_list)]))] 1 ⟨rfl, trivial⟩ ⟨rfl, ⟨_, rfl, congrArg (Ob.row 61 2) (by simp [List.map_append, List.map_take, List.map_drop, irow, brow, b8of_row, List.map_cons, List.map_nil, b8of_wrap, CV.encs_eq, CV.enc, enc61])⟩, trivial⟩ rfl rfl rfl rfl rfl) ?_
  refine tri_seq ?_
  obtain ⟨fl, hl, ho1⟩ := bind_out h
  refine tri_fl (fl := fl) (fun z => match z with | _ => ⟨ofL [], ofH [], 0⟩) ?_ (fun z σ' hz hle => ?_)
  · refine tri_block (tri_loopI (X := Nat × (List (CV × CV))) (fun y => match y with | (k, l4) => ⟨ofL [(5, .orow 0)], ofH [(0, .row 61 2 ((List.map enc61) l4))], 1⟩) (fun y => m13_l1 n y.1 y.2 = some fl) (fun y => y.1) (n, [(CV.mk a1_kind a1_int a1_text a1_list, CV.mk a2_kind a2_int a2_text a2_list)]) hl ?_ ?_)
    · exact (Le.rename [(0, 0)] _ _ _ ⟨rfl, trivial⟩ ⟨rfl, ⟨_, rfl, rfl⟩, trivial⟩ rfl rfl rfl rfl rfl)
    · rintro ⟨k, l4⟩ h
      cases k with
      | zero => cases h
      | succ k =>
        refine tri_seq ?_
        refine tri_seq ?_
        refine tri_region tokW gok [] [12] rfl ?_
        intro n5 hn5
        obtain rfl : (l4.length : Int) = n5 := (hn5.trans (congrArg (fun m : Nat => (m : Int)) (rlen (fun _ => rfl) l4))).symm
        show Tri _ _ _ _
        refine tri_cond rfl (fun hb => ?_) (fun hb => ?_)
        · replace h := bif_t hb h
          refine tri_skip ?_
          show Tri _ _ _ _
          refine tri_block ?_
          refine tri_seq ?_
          refine tri_drawn tokW gok mixed [] [16, 23] [2, 4, 6, 9, 11, 13] rfl (by decide +kernel) ?_
          intro n6 hn6
          obtain rfl : (l4.length : Int) = n6 := (hn6.trans (congrArg (fun m : Nat => (m : Int)) (rlen (fun _ => rfl) l4))).symm
          obtain ⟨⟨⟨e7_0_kind, e7_0_int, e7_0_text, e7_0_list⟩, ⟨e7_1_kind, e7_1_int, e7_1_text, e7_1_list⟩⟩, he7, h⟩ := bind_out h
          refine And.intro (at_ok (fun _ => rfl) he7).1 ?_
          refine And.intro (by decide) ?_
          refine And.intro (at_ok (fun _ => rfl) he7).2.2 ?_
          refine ⟨_, (at_ok (fun _ => rfl) he7).2.1, ?_⟩
          intro n8 hn8
          obtain rfl : (l4.length : Int) = n8 := (hn8.trans (congrArg (fun m : Nat => (m : Int)) (rlen (fun _ => rfl) l4))).symm
          obtain ⟨⟨⟨e9_0_kind, e9_0_int, e9_0_text, e9_0_list⟩, ⟨e9_1_kind, e9_1_int, e9_1_text, e9_1_list⟩⟩, he9, h⟩ := bind_out h
          refine And.intro (at_ok (fun _ => rfl) he9).1 ?_
          refine And.intro (by decide) ?_
          refine And.intro (at_ok (fun _ => rfl) he9).2.2 ?_
          refine ⟨_, (at_ok (fun _ => rfl) he9).2.1, ?_⟩
          show Tri _ _ _ _
          refine tri_seq ?_
          refine tri_region tokW gok [32] [30] rfl ?_
          intro n10 hn10
          obtain rfl : (l4.length : Int) = n10 := (hn10.trans (congrArg (fun m : Nat => (m : Int)) (rlen (fun _ => rfl) l4))).symm
          obtain ⟨hq, h⟩ := req_out h
          refine And.intro ⟨hq.1, Int.le_trans hq.2 (Int.ofNat_le.2 (Nat.le_of_eq (rlen (fun _ => rfl) _).symm))⟩ ?_
          show Tri _ _ _ _
          refine tri_le (Le.rename [(1, 0)] [(5, .orow 0), (6, .s (.pt [.int .i64 e7_0_kind, .int .i64 e7_0_int, .str e7_0_text, .sl 4 (CV.encs e7_0_list)])), (7, .s (.pt [.int .i64 e9_1_kind, .int .i64 e9_1_int, .str e9_1_text, .sl 4 (CV.encs e9_1_list)]))] [(0, .row 61 2 ((List.map enc61) (l4.take (IntKind.i64.wrap ((l4.length : Int) - 1)).toNat)))] 1 ⟨rfl, rfl, rfl, trivial⟩ ⟨rfl, ⟨_, rfl, congrArg (Ob.row 61 2) (by simp [List.map_append, List.map_take, List.map_drop, irow, brow, b8of_row, List.map_cons, List.map_nil, b8of_wrap, CV.encs_eq, CV.enc, enc61])⟩, trivial⟩ rfl rfl rfl rfl rfl) ?_
          refine tri_seq ?_
          refine tri_seq ?_
          obtain ⟨⟨x11, l12⟩, hj, h⟩ := bind_out h
          refine tri_post ⟨ofL [(5, .orow 0), (6, .s (.pt [.int .i64 e7_0_kind, .int .i64 e7_0_int, .str e7_0_text, .sl 4 (CV.encs e7_0_list)])), (7, .s (.pt [.int .i64 e9_1_kind, .int .i64 e9_1_int, .str e9_1_text, .sl 4 (CV.encs e9_1_list)])), (76, .s (.bool x11))], ofH [(0, .row 61 2 ((List.map enc61) l12))], 1⟩ ?_ (fun σ' hle => ?_)
          · replace h := hj
            refine tri_drawn tokW gok mixed [] [42, 53, 64, 69, 74] [] rfl (by decide +kernel) ?_
            intro b hb
            cases b with
            | true =>
              replace h := bif_t hb.symm h
              intro b hb
              subst hb
              intro b hb
              subst hb
              cases h
              exact (Le.rename [(0, 0)] _ _ _ ⟨rfl, rfl, rfl, rfl, trivial⟩ ⟨rfl, ⟨_, rfl, rfl⟩, trivial⟩ rfl rfl rfl rfl rfl)
            | false =>
              replace h := bif_f hb.symm h
              intro b hb
              cases b with
              | true =>
                replace h := bif_t hb.symm h
                intro b hb
                subst hb
                cases h
                exact (Le.rename [(0, 0)] _ _ _ ⟨rfl, rfl, rfl, rfl, trivial⟩ ⟨rfl, ⟨_, rfl, rfl⟩, trivial⟩ rfl rfl rfl rfl rfl)
              | false =>
                replace h := bif_f hb.symm h
                intro b hb
                cases b with
                | true =>
                  replace h := bif_t hb.symm h
                  cases h
                  exact (Le.rename [(0, 0)] _ _ _ ⟨rfl, rfl, rfl, rfl, trivial⟩ ⟨rfl, ⟨_, rfl, rfl⟩, trivial⟩ rfl rfl rfl rfl rfl)
                | false =>
                  replace h := bif_f hb.symm h
                  intro n13 hn13
                  obtain rfl : (e7_0_list.length : Int) = n13 := (hn13.trans (congrArg (fun m : Nat => (m : Int)) (rlen CV.encs_eq e7_0_list))).symm
                  intro n14 hn14
                  obtain rfl : (e9_1_list.length : Int) = n14 := (hn14.trans (congrArg (fun m : Nat => (m : Int)) (rlen CV.encs_eq e9_1_list))).symm
                  cases h
                  exact (Le.rename [(0, 0)] _ _ _ ⟨rfl, rfl, rfl, rfl, trivial⟩ ⟨rfl, ⟨_, rfl, rfl⟩, trivial⟩ rfl rfl rfl rfl rfl)
          · show Tri _ _ _ _
            refine tri_le hle ?_
            refine tri_cond rfl (fun hb => ?_) (fun hb => ?_)
            · replace h := bif_t hb h
              refine tri_seq ?_
              refine tri_region tokW gok [] [] rfl ?_
              show Tri _ _ _ _
              refine tri_ret ?_
              cases h
              replace h : some _ = some _ := ho1
              have hy := Option.some.inj h
              subst hy
              unfold Gives
              exact ⟨_, Le.refl _ _, rfl, rfl⟩
            · replace h := bif_f hb h
              refine tri_skip ?_
              show Tri _ _ _ _
              refine tri_seq ?_
              refine tri_region tokW gok [] [81] rfl ?_
              intro n15 hn15
              obtain rfl : (e7_0_list.length : Int) = n15 := (hn15.trans (congrArg (fun m : Nat => (m : Int)) (rlen CV.encs_eq e7_0_list))).symm
              show Tri _ _ _ _
              obtain ⟨l19, hl, h⟩ := bind_out h
              refine tri_post ⟨ofL [(5, .orow 0)], ofH [(0, .row 61 2 ((List.map enc61) l19))], 1⟩ ?_ (fun σ' hle => ?_)
              · refine tri_block (tri_loopI (X := Nat × Int × (List (CV × CV))) (fun y => match y with | (k, x17, l18) => ⟨ofL [(5, .orow 0), (6, .s (.pt [.int .i64 e7_0_kind, .int .i64 e7_0_int, .str e7_0_text, .sl 4 (CV.encs e7_0_list)])), (7, .s (.pt [.int .i64 e9_1_kind, .int .i64 e9_1_int, .str e9_1_text, .sl 4 (CV.encs e9_1_list)])), (81, .s (.int .i64 (e7_0_list.length : Int))), (82, .s (.int .i64 x17))], ofH [(0, .row 61 2 ((List.map enc61) l18))], 1⟩) (fun y => m13_l2 e7_0_list e9_1_list y.1 y.2.1 y.2.2 = some l19) (fun y => y.1) (n, 0, l12) hl ?_ ?_)
                · exact (Le.rename [(0, 0)] _ _ _ ⟨rfl, rfl, rfl, rfl, rfl, trivial⟩ ⟨rfl, ⟨_, rfl, rfl⟩, trivial⟩ rfl rfl rfl rfl rfl)
                · rintro ⟨k, x17, l18⟩ h
                  cases k with
                  | zero => cases h
                  | succ k =>
                    refine tri_seq ?_
                    refine tri_region tokW gok [] [] rfl ?_
                    show Tri _ _ _ _
                    refine tri_seq ?_
                    refine tri_cond rfl (fun hb => ?_) (fun hb => ?_)
                    · replace h := bif_t hb h
                      refine tri_skip ?_
                      show Tri _ _ _ _
                      refine tri_seq ?_
                      refine tri_block ?_
                      refine tri_seq ?_
                      refine tri_region tokW gok [] [] rfl ?_
                      show Tri _ _ _ _
                      refine tri_drawn tokW gok mixed [100] [91, 97, 99] [15] rfl (by decide +kernel) ?_
                      obtain ⟨⟨e20_kind, e20_int, e20_text, e20_list⟩, he20, h⟩ := bind_out h
                      refine And.intro (at_ok CV.encs_eq he20).1 ?_
                      intro r21 hr21
                      obtain rfl : [.int .i64 e20_kind, .int .i64 e20_int, .str e20_text, .sl 4 (CV.encs e20_list)] = r21 := (hr21.trans (at_ok CV.encs_eq he20).2.1).symm
                      obtain ⟨⟨e22_kind, e22_int, e22_text, e22_list⟩, he22, h⟩ := bind_out h
                      refine And.intro (at_ok CV.encs_eq he22).1 ?_
                      intro r23 hr23
                      obtain rfl : [.int .i64 e22_kind, .int .i64 e22_int, .str e22_text, .sl 4 (CV.encs e22_list)] = r23 := (hr23.trans (at_ok CV.encs_eq he22).2.1).symm
                      intro r24 hr24
                      obtain rfl : (List.map enc61) [(CV.mk e20_kind e20_int e20_text e20_list, CV.mk e22_kind e22_int e22_text e22_list)] = r24 := (hr24.trans (by simp [List.map_append, List.map_take, List.map_drop, irow, brow, b8of_row, List.map_cons, List.map_nil, b8of_wrap, CV.encs_eq, CV.enc, enc61])).symm
                      obtain ⟨hq, h⟩ := req_out h
                      refine And.intro (show (((List.map enc61) l18).length + ((List.map enc61) [(CV.mk e20_kind e20_int e20_text e20_list, CV.mk e22_kind e22_int e22_text e22_list)]).length) * 16 ≤ 140737488355328 ∧ ((List.map enc61) l18).length + ((List.map enc61) [(CV.mk e20_kind e20_int e20_text e20_list, CV.mk e22_kind e22_int e22_text e22_list)]).length ≤ 9223372036854775807 from by simp only [List.length_append, List.length_cons, List.length_nil, List.length_map, rlen (fun _ => rfl)] at hq ⊢; omega) ?_
                      show Tri _ _ _ _
                      refine tri_le (Le.rename [(1, 0)] [(5, .orow 0), (6, .s (.pt [.int .i64 e7_0_kind, .int .i64 e7_0_int, .str e7_0_text, .sl 4 (CV.encs e7_0_list)])), (7, .s (.pt [.int .i64 e9_1_kind, .int .i64 e9_1_int, .str e9_1_text, .sl 4 (CV.encs e9_1_list)])), (81, .s (.int .i64 (e7_0_list.length : Int))), (82, .s (.int .i64 x17))] [(0, .row 61 2 ((List.map enc61) (l18 ++ [(CV.mk e20_kind e20_int e20_text e20_list, CV.mk e22_kind e22_int e22_text e22_list)])))] 1 ⟨rfl, rfl, rfl, rfl, rfl, trivial⟩ ⟨rfl, ⟨_, rfl, congrArg (Ob.row 61 2) (by simp [List.map_append, List.map_take, List.map_drop, irow, brow, b8of_row, List.map_cons, List.map_nil, b8of_wrap, CV.encs_eq, CV.enc, enc61])⟩, trivial⟩ rfl rfl rfl rfl rfl) ?_
                      refine tri_region tokW gok [] [] rfl ?_
                      refine ⟨(k, IntKind.i64.wrap (x17 + 1), l18 ++ [(CV.mk e20_kind e20_int e20_text e20_list, CV.mk e22_kind e22_int e22_text e22_list)]), h, (Le.rename [(0, 0)] _ _ _ ⟨rfl, rfl, rfl, rfl, rfl, trivial⟩ ⟨rfl, ⟨_, rfl, rfl⟩, trivial⟩ rfl rfl rfl rfl rfl), Nat.lt_succ_self k⟩
                    · replace h := bif_f hb h
                      refine tri_exit ?_
                      cases h
                      exact (Le.rename [(0, 0)] _ _ _ ⟨rfl, trivial⟩ ⟨rfl, ⟨_, rfl, rfl⟩, trivial⟩ rfl rfl rfl rfl rfl)
              · refine ⟨(k, l19), h, (Le.trans hle (Le.rename [(0, 0)] _ _ _ ⟨rfl, trivial⟩ ⟨rfl, ⟨_, rfl, rfl⟩, trivial⟩ rfl rfl rfl rfl rfl)), Nat.lt_succ_self k⟩
        · replace h := bif_f hb h
          refine tri_exit ?_
          cases h
          exact ⟨_, rfl, (Le.rename [] _ _ _ trivial trivial rfl rfl rfl rfl rfl)⟩
  · subst hz
    obtain _ := z
    replace h := ho1
    show Tri _ _ _ _
    refine tri_le hle ?_
    refine tri_seq ?_
    refine tri_region tokW gok [] [] rfl ?_
    show Tri _ _ _ _
    refine tri_ret ?_
    have hy := Option.some.inj h
    subst hy
    unfold Gives
    exact ⟨_, Le.refl _ _, rfl, rfl⟩

/- vinculum/vinculumref03.Equal -/
def m15_l1 (F15 : CV → CV → Option Bool) (a1_list : List CV) (b2_list : List CV) : Nat → Int → Option (Fl Bool Unit)
| 0, _ => none
| k+1, i6 =>
  bif decide (i6 < (a1_list.length : Int)) then (
    (at? a1_list i6).bind fun ⟨e8_kind, e8_int, e8_text, e8_list⟩ =>
    (at? b2_list i6).bind fun ⟨e10_kind, e10_int, e10_text, e10_list⟩ =>
    (F15 (CV.mk e8_kind e8_int e8_text e8_list) (CV.mk e10_kind e10_int e10_text e10_list)).bind fun y12 =>
    bif (!y12) then (
      some (.ret false)
    ) else (
      m15_l1 F15 a1_list b2_list k (IntKind.i64.wrap (i6 + 1))
    )
  ) else (
    some (.go ())
  )
def m15 : Nat → CV → CV → Option Bool
| 0, _, _ => none
| n+1, ⟨a1_kind, a1_int, a1_text, a1_list⟩, ⟨b2_kind, b2_int, b2_text, b2_list⟩ =>
  (
    bif (a1_kind != b2_kind) then (
      some true
    ) else (
      bif (a1_int != b2_int) then (
        some true
      ) else (
        bif (!(a1_text == b2_text)) then (
          some true
        ) else (
          some ((a1_list.length : Int) != (b2_list.length : Int))
        )
      )
    )
   : Option (Bool)).bind fun x3 =>
  bif x3 then (
    some false
  ) else (
    (m15_l1 (m15 n) a1_list b2_list n 0).bind fun fl => match fl with
    | .ret r => some r
    | .go _ =>
      some true
  )
def R15 (n : Nat) (xs : List AV) (r : Ret) : Prop := ∃ (a0 : CV) (a1 : CV) (y0 : Bool), m15 n a0 a1 = some y0 ∧ xs = [.agg ((CV.enc a0).map .s), .agg ((CV.enc a1).map .s)] ∧ r = .val (.s (.bool y0))
set_option maxHeartbeats 2000000 in
theorem step15 (n : Nat) (ih : PSound Try.prog 15 (pspec (R15 n))) : PSound Try.prog 15 (pspec (R15 (n + 1))) := by
  have gok : ∀ f s, look? f [(15, pspec (R15 n))] = some s → PSound Try.prog f s := look_all (by
    simp only [List.forall_mem_cons]
    exact ⟨ih, by simp⟩)
  refine psound tokW Try.call15 Try.func15 rfl (fun xs r h => by obtain ⟨_, _, _, _, rfl, _⟩ := h; show 2 ≤ 53; decide) 53 rfl ?_
  rintro xs r w0 G0 ⟨⟨a1_kind, a1_int, a1_text, a1_list⟩, ⟨b2_kind, b2_int, b2_text, b2_list⟩, y0, h, rfl, rfl⟩ _
  refine tri_seq ?_
  refine tri_region tokW gok [] [] rfl ?_
  show Tri _ _ _ _
  refine tri_seq ?_
  refine tri_seq ?_
  obtain ⟨x3, hj, h⟩ := bind_out h
  refine tri_post ⟨ofL [(2, .s (.pt [.int .i64 a1_kind, .int .i64 a1_int, .str a1_text, .sl 4 (CV.encs a1_list)])), (3, .s (.pt [.int .i64 b2_kind, .int .i64 b2_int, .str b2_text, .sl 4 (CV.encs b2_list)])), (33, .s (.bool x3))], fun _ => none, 0⟩ ?_ (fun σ' hle => ?_)
  · replace h := hj
    refine tri_region tokW gok [] [11, 18, 25, 28, 31] rfl ?_
    intro b hb
    cases b with
    | true =>
      replace h := bif_t hb.symm h
      intro b hb
      subst hb
      intro b hb
      subst hb
      cases h
      exact (Le.forget _ ⟨rfl, rfl, rfl, trivial⟩)
    | false =>
      replace h := bif_f hb.symm h
      intro b hb
      cases b with
      | true =>
        replace h := bif_t hb.symm h
        intro b hb
        subst hb
        cases h
        exact (Le.forget _ ⟨rfl, rfl, rfl, trivial⟩)
      | false =>
        replace h := bif_f hb.symm h
        intro b hb
        cases b with
        | true =>
          replace h := bif_t hb.symm h
          cases h
          exact (Le.forget _ ⟨rfl, rfl, rfl, trivial⟩)
        | false =>
          replace h := bif_f hb.symm h
          intro n4 hn4
          obtain rfl : (a1_list.length : Int) = n4 := (hn4.trans (congrArg (fun m : Nat => (m : Int)) (rlen CV.encs_eq a1_list))).symm
          intro n5 hn5
          obtain rfl : (b2_list.length : Int) = n5 := (hn5.trans (congrArg (fun m : Nat => (m : Int)) (rlen CV.encs_eq b2_list))).symm
          cases h
          exact (Le.forget _ ⟨rfl, rfl, rfl, trivial⟩)
  · show Tri _ _ _ _
    refine tri_le hle ?_
    refine tri_cond rfl (fun hb => ?_) (fun hb => ?_)
    · replace h := bif_t hb h
      refine tri_seq ?_
      refine tri_region tokW gok [] [] rfl ?_
      show Tri _ _ _ _
      refine tri_ret ?_
      have hy := Option.some.inj h
      subst hy
      unfold Gives
      exact ⟨_, Le.refl _ _, rfl, rfl⟩
    · replace h := bif_f hb h
      refine tri_skip ?_
      show Tri _ _ _ _
      refine tri_seq ?_
      refine tri_seq ?_
      refine tri_region tokW gok [] [] rfl ?_
      show Tri _ _ _ _
      obtain ⟨fl, hl, ho1⟩ := bind_out h
      refine tri_fl (fl := fl) (fun z => match z with | _ => ⟨ofL [], fun _ => none, 0⟩) ?_ (fun z σ' hz hle => ?_)
      · refine tri_block (tri_loopI (X := Nat × Int) (fun y => match y with | (k, i6) => ⟨ofL [(2, .s (.pt [.int .i64 a1_kind, .int .i64 a1_int, .str a1_text, .sl 4 (CV.encs a1_list)])), (3, .s (.pt [.int .i64 b2_kind, .int .i64 b2_int, .str b2_text, .sl 4 (CV.encs b2_list)])), (5, .s (.int .i64 i6))], fun _ => none, 0⟩) (fun y => m15_l1 (m15 n) a1_list b2_list y.1 y.2 = some fl) (fun y => y.1) (n, 0) hl ?_ ?_)
        · exact (Le.forget _ ⟨rfl, rfl, rfl, trivial⟩)
        · rintro ⟨k, i6⟩ h
          cases k with
          | zero => cases h
          | succ k =>
            refine tri_seq ?_
            refine tri_seq ?_
            refine tri_region tokW gok [] [37] rfl ?_
            intro n7 hn7
            obtain rfl : (a1_list.length : Int) = n7 := (hn7.trans (congrArg (fun m : Nat => (m : Int)) (rlen CV.encs_eq a1_list))).symm
            show Tri _ _ _ _
            refine tri_cond rfl (fun hb => ?_) (fun hb => ?_)
            · replace h := bif_t hb h
              refine tri_skip ?_
              show Tri _ _ _ _
              refine tri_seq ?_
              refine tri_block ?_
              refine tri_seq ?_
              refine tri_drawn tokW gok mixed [] [44, 49] [] rfl (by decide +kernel) ?_
              obtain ⟨⟨e8_kind, e8_int, e8_text, e8_list⟩, he8, h⟩ := bind_out h
              refine And.intro (at_ok CV.encs_eq he8).1 ?_
              intro r9 hr9
              obtain rfl : [.int .i64 e8_kind, .int .i64 e8_int, .str e8_text, .sl 4 (CV.encs e8_list)] = r9 := (hr9.trans (at_ok CV.encs_eq he8).2.1).symm
              obtain ⟨⟨e10_kind, e10_int, e10_text, e10_list⟩, he10, h⟩ := bind_out h
              refine And.intro (at_ok CV.encs_eq he10).1 ?_
              intro r11 hr11
              obtain rfl : [.int .i64 e10_kind, .int .i64 e10_int, .str e10_text, .sl 4 (CV.encs e10_list)] = r11 := (hr11.trans (at_ok CV.encs_eq he10).2.1).symm
              obtain ⟨y12, hy12, h⟩ := bind_out h
              refine ⟨_, ⟨_, _, _, hy12, rfl, rfl⟩, ?_⟩
              show Tri _ _ _ _
              refine tri_cond rfl (fun hb => ?_) (fun hb => ?_)
              · replace h := bif_t hb h
                refine tri_seq ?_
                refine tri_region tokW gok [] [] rfl ?_
                show Tri _ _ _ _
                refine tri_ret ?_
                cases h
                replace h : some _ = some _ := ho1
                have hy := Option.some.inj h
                subst hy
                unfold Gives
                exact ⟨_, Le.refl _ _, rfl, rfl⟩
              · replace h := bif_f hb h
                refine tri_skip ?_
                show Tri _ _ _ _
                refine tri_region tokW gok [] [] rfl ?_
                refine ⟨(k, IntKind.i64.wrap (i6 + 1)), h, (Le.forget _ ⟨rfl, rfl, rfl, trivial⟩), Nat.lt_succ_self k⟩
            · replace h := bif_f hb h
              refine tri_exit ?_
              cases h
              exact ⟨_, rfl, (Le.forget _ trivial)⟩
      · subst hz
        obtain _ := z
        replace h := ho1
        show Tri _ _ _ _
        refine tri_le hle ?_
        refine tri_seq ?_
        refine tri_region tokW gok [] [] rfl ?_
        show Tri _ _ _ _
        refine tri_ret ?_
        have hy := Option.some.inj h
        subst hy
        unfold Gives
        exact ⟨_, Le.refl _ _, rfl, rfl⟩
theorem all15 : ∀ n, PSound Try.prog 15 (pspec (R15 n)) := by
  intro n
  induction n with
  | zero => exact ⟨Try.call15, fun G w xs vs r _ _ _ h => (by obtain ⟨_, _, _, h, _⟩ := h; cases h), fun R hR => by cases hR⟩
  | succ n ih => exact step15 n ih
def S15 : PSpec := pspec fun xs r => ∃ n, R15 n xs r
theorem ok15 : PSound Try.prog 15 S15 := psound_all all15

/- vinculum/vinculumlaw03.CodecEqual -/
def m3 (n : Nat) : CV → CV → Option Bool
| ⟨a1_kind, a1_int, a1_text, a1_list⟩, ⟨b2_kind, b2_int, b2_text, b2_list⟩ =>
  (m11 n ).bind fun y3 =>
  bif (!y3) then (
    some false
  ) else (
    (
      (m12 n (CV.mk a1_kind a1_int a1_text a1_list)).bind fun y5 =>
      bif (!y5) then (
        some true
      ) else (
        (m12 n (CV.mk b2_kind b2_int b2_text b2_list)).bind fun y6 =>
        some (!y6)
      )
     : Option (Bool)).bind fun x4 =>
    bif x4 then (
      some true
    ) else (
      (
        (m14 n (CV.mk a1_kind a1_int a1_text a1_list)).bind fun ⟨y8_kind, y8_int, y8_text, y8_list⟩ =>
        (m14 n (CV.mk b2_kind b2_int b2_text b2_list)).bind fun ⟨y9_kind, y9_int, y9_text, y9_list⟩ =>
        (m13 n (CV.mk y8_kind y8_int y8_text y8_list) (CV.mk y9_kind y9_int y9_text y9_list)).bind fun y10 =>
        (m15 n (CV.mk a1_kind a1_int a1_text a1_list) (CV.mk b2_kind b2_int b2_text b2_list)).bind fun y11 =>
        bif (y10 == y11) then (
          (m14 n (CV.mk a1_kind a1_int a1_text a1_list)).bind fun ⟨y12_kind, y12_int, y12_text, y12_list⟩ =>
          (m14 n (CV.mk a1_kind a1_int a1_text a1_list)).bind fun ⟨y13_kind, y13_int, y13_text, y13_list⟩ =>
          (m13 n (CV.mk y12_kind y12_int y12_text y12_list) (CV.mk y13_kind y13_int y13_text y13_list)).bind fun y14 =>
          some y14
        ) else (
          some false
        )
       : Option (Bool)).bind fun x7 =>
      some x7
    )
  )
def R3 (n : Nat) (xs : List AV) (r : Ret) : Prop := ∃ (a0 : CV) (a1 : CV) (y0 : Bool), m3 n a0 a1 = some y0 ∧ xs = [.agg ((CV.enc a0).map .s), .agg ((CV.enc a1).map .s)] ∧ r = .val (.s (.bool y0))
def S3 : PSpec := pspec fun xs r => ∃ n, R3 n xs r
set_option maxHeartbeats 2000000 in
theorem ok3 : PSound Try.prog 3 S3 := by
  have gok : ∀ f s, look? f [(11, S11), (12, S12), (14, S14), (13, S13), (15, S15)] = some s → PSound Try.prog f s := look_all (by
    simp only [List.forall_mem_cons]
    exact ⟨ok11, ok12, ok14, ok13, ok15, by simp⟩)
  refine psound tokW Try.call3 Try.func3 rfl (fun xs r h => by obtain ⟨n, _, _, _, _, rfl, _⟩ := h; show 2 ≤ 31; decide) 31 rfl ?_
  rintro xs r w0 G0 ⟨n, ⟨a1_kind, a1_int, a1_text, a1_list⟩, ⟨b2_kind, b2_int, b2_text, b2_list⟩, y0, h, rfl, rfl⟩ _
  refine tri_seq ?_
  refine tri_region tokW gok [] [] rfl ?_
  show Tri _ _ _ _
  refine tri_seq ?_
  refine tri_seq ?_
  refine tri_region tokW gok [] [] rfl ?_
  obtain ⟨y3, hy3, h⟩ := bind_out h
  refine ⟨_, ⟨_, _, hy3, rfl, rfl⟩, ?_⟩
  show Tri _ _ _ _
  refine tri_cond rfl (fun hb => ?_) (fun hb => ?_)
  · replace h := bif_t hb h
    refine tri_seq ?_
    refine tri_region tokW gok [] [] rfl ?_
    show Tri _ _ _ _
    refine tri_ret ?_
    have hy := Option.some.inj h
    subst hy
    unfold Gives
    exact ⟨_, Le.refl _ _, rfl, rfl⟩
  · replace h := bif_f hb h
    refine tri_skip ?_
    show Tri _ _ _ _
    refine tri_seq ?_
    refine tri_seq ?_
    obtain ⟨x4, hj, h⟩ := bind_out h
    refine tri_post ⟨ofL [(2, .s (.pt [.int .i64 a1_kind, .int .i64 a1_int, .str a1_text, .sl 4 (CV.encs a1_list)])), (3, .s (.pt [.int .i64 b2_kind, .int .i64 b2_int, .str b2_text, .sl 4 (CV.encs b2_list)])), (14, .s (.bool x4))], fun _ => none, 0⟩ ?_ (fun σ' hle => ?_)
    · replace h := hj
      refine tri_region tokW gok [] [10] rfl ?_
      obtain ⟨y5, hy5, h⟩ := bind_out h
      refine ⟨_, ⟨_, _, _, hy5, rfl, rfl⟩, ?_⟩
      intro b hb
      cases b with
      | true =>
        replace h := bif_t hb.symm h
        cases h
        exact (Le.forget _ ⟨rfl, rfl, rfl, trivial⟩)
      | false =>
        replace h := bif_f hb.symm h
        obtain ⟨y6, hy6, h⟩ := bind_out h
        refine ⟨_, ⟨_, _, _, hy6, rfl, rfl⟩, ?_⟩
        cases h
        exact (Le.forget _ ⟨rfl, rfl, rfl, trivial⟩)
    · show Tri _ _ _ _
      refine tri_le hle ?_
      refine tri_cond rfl (fun hb => ?_) (fun hb => ?_)
      · replace h := bif_t hb h
        refine tri_seq ?_
        refine tri_region tokW gok [] [] rfl ?_
        show Tri _ _ _ _
        refine tri_ret ?_
        have hy := Option.some.inj h
        subst hy
        unfold Gives
        exact ⟨_, Le.refl _ _, rfl, rfl⟩
      · replace h := bif_f hb h
        refine tri_skip ?_
        show Tri _ _ _ _
        refine tri_seq ?_
        obtain ⟨x7, hj, h⟩ := bind_out h
        refine tri_post ⟨ofL [(4, .s (.bool x7))], fun _ => none, 0⟩ ?_ (fun σ' hle => ?_)
        · replace h := hj
          refine tri_drawn tokW gok mixed [] [24] [] rfl (by decide +kernel) ?_
          obtain ⟨⟨y8_kind, y8_int, y8_text, y8_list⟩, hy8, h⟩ := bind_out h
          refine ⟨_, ⟨_, _, _, hy8, rfl, rfl⟩, ?_⟩
          obtain ⟨⟨y9_kind, y9_int, y9_text, y9_list⟩, hy9, h⟩ := bind_out h
          refine ⟨_, ⟨_, _, _, hy9, rfl, rfl⟩, ?_⟩
          obtain ⟨y10, hy10, h⟩ := bind_out h
          refine ⟨_, ⟨_, _, _, _, hy10, rfl, rfl⟩, ?_⟩
          obtain ⟨y11, hy11, h⟩ := bind_out h
          refine ⟨_, ⟨_, _, _, _, hy11, rfl, rfl⟩, ?_⟩
          intro b hb
          cases b with
          | true =>
            replace h := bif_t hb.symm h
            obtain ⟨⟨y12_kind, y12_int, y12_text, y12_list⟩, hy12, h⟩ := bind_out h
            refine ⟨_, ⟨_, _, _, hy12, rfl, rfl⟩, ?_⟩
            obtain ⟨⟨y13_kind, y13_int, y13_text, y13_list⟩, hy13, h⟩ := bind_out h
            refine ⟨_, ⟨_, _, _, hy13, rfl, rfl⟩, ?_⟩
            obtain ⟨y14, hy14, h⟩ := bind_out h
            refine ⟨_, ⟨_, _, _, _, hy14, rfl, rfl⟩, ?_⟩
            cases h
            exact (Le.forget _ ⟨rfl, trivial⟩)
          | false =>
            replace h := bif_f hb.symm h
            cases h
            exact (Le.forget _ ⟨rfl, trivial⟩)
        · show Tri _ _ _ _
          refine tri_le hle ?_
          refine tri_ret ?_
          have hy := Option.some.inj h
          subst hy
          unfold Gives
          exact ⟨_, Le.refl _ _, rfl, rfl⟩

/- vinculum/vinculumref03.proper -/
def m32_l1 (F32 : CV → Option Bool) (v1_list : List CV) : Nat → Int → Option (Fl Bool Unit)
| 0, _ => none
| k+1, i7 =>
  bif decide (i7 < (v1_list.length : Int)) then (
    (at? v1_list i7).bind fun ⟨e9_kind, e9_int, e9_text, e9_list⟩ =>
    (F32 (CV.mk e9_kind e9_int e9_text e9_list)).bind fun y11 =>
    bif (!y11) then (
      some (.ret false)
    ) else (
      m32_l1 F32 v1_list k (IntKind.i64.wrap (i7 + 1))
    )
  ) else (
    some (.go ())
  )
def m32 : Nat → CV → Option Bool
| 0, _ => none
| n+1, ⟨v1_kind, v1_int, v1_text, v1_list⟩ =>
  (
    bif decide (v1_kind < 1) then (
      some true
    ) else (
      bif decide (3 < v1_kind) then (
        some true
      ) else (
        bif (v1_kind != 1) then (
          bif (v1_int != 0) then (
            some true
          ) else (
            bif (v1_kind != 2) then (
              bif (!(v1_text == [])) then (
                some true
              ) else (
                bif (v1_kind != 3) then (
                  some (decide (0 < (v1_list.length : Int)))
                ) else (
                  some false
                )
              )
            ) else (
              bif (v1_kind != 3) then (
                some (decide (0 < (v1_list.length : Int)))
              ) else (
                some false
              )
            )
          )
        ) else (
          bif (v1_kind != 2) then (
            bif (!(v1_text == [])) then (
              some true
            ) else (
              bif (v1_kind != 3) then (
                some (decide (0 < (v1_list.length : Int)))
              ) else (
                some false
              )
            )
          ) else (
            bif (v1_kind != 3) then (
              some (decide (0 < (v1_list.length : Int)))
            ) else (
              some false
            )
          )
        )
      )
    )
   : Option (Bool)).bind fun x2 =>
  bif x2 then (
    some false
  ) else (
    (m32_l1 (m32 n) v1_list n 0).bind fun fl => match fl with
    | .ret r => some r
    | .go _ =>
      some true
  )
def R32 (n : Nat) (xs : List AV) (r : Ret) : Prop := ∃ (a0 : CV) (y0 : Bool), m32 n a0 = some y0 ∧ xs = [.agg ((CV.enc a0).map .s)] ∧ r = .val (.s (.bool y0))
set_option maxHeartbeats 2000000 in
theorem step32 (n : Nat) (ih : PSound Try.prog 32 (pspec (R32 n))) : PSound Try.prog 32 (pspec (R32 (n + 1))) := by
  have gok : ∀ f s, look? f [(32, pspec (R32 n))] = some s → PSound Try.prog f s := look_all (by
    simp only [List.forall_mem_cons]
    exact ⟨ih, by simp⟩)
  refine psound tokW Try.call32 Try.func32 rfl (fun xs r h => by obtain ⟨_, _, _, rfl, _⟩ := h; show 1 ≤ 57; decide) 57 rfl ?_
  rintro xs r w0 G0 ⟨⟨v1_kind, v1_int, v1_text, v1_list⟩, y0, h, rfl, rfl⟩ _
  refine tri_seq ?_
  refine tri_region tokW gok [] [] rfl ?_
  show Tri _ _ _ _
  refine tri_seq ?_
  refine tri_seq ?_
  obtain ⟨x2, hj, h⟩ := bind_out h
  refine tri_post ⟨ofL [(1, .s (.pt [.int .i64 v1_kind, .int .i64 v1_int, .str v1_text, .sl 4 (CV.encs v1_list)])), (42, .s (.bool x2))], fun _ => none, 0⟩ ?_ (fun σ' hle => ?_)
  · replace h := hj
    refine tri_region tokW gok [] [7, 12, 16, 22, 26, 32, 36, 39] rfl ?_
    intro b hb
    cases b with
    | true =>
      replace h := bif_t hb.symm h
      intro b hb
      subst hb
      intro b hb
      subst hb
      intro b hb
      subst hb
      cases h
      exact (Le.forget _ ⟨rfl, rfl, trivial⟩)
    | false =>
      replace h := bif_f hb.symm h
      intro b hb
      cases b with
      | true =>
        replace h := bif_t hb.symm h
        intro b hb
        subst hb
        intro b hb
        subst hb
        cases h
        exact (Le.forget _ ⟨rfl, rfl, trivial⟩)
      | false =>
        replace h := bif_f hb.symm h
        intro b hb
        cases b with
        | true =>
          replace h := bif_t hb.symm h
          intro b hb
          cases b with
          | true =>
            replace h := bif_t hb.symm h
            intro b hb
            subst hb
            cases h
            exact (Le.forget _ ⟨rfl, rfl, trivial⟩)
          | false =>
            replace h := bif_f hb.symm h
            intro b hb
            cases b with
            | true =>
              replace h := bif_t hb.symm h
              intro b hb
              cases b with
              | true =>
                replace h := bif_t hb.symm h
                cases h
                exact (Le.forget _ ⟨rfl, rfl, trivial⟩)
              | false =>
                replace h := bif_f hb.symm h
                intro b hb
                cases b with
                | true =>
                  replace h := bif_t hb.symm h
                  intro n3 hn3
                  obtain rfl : (v1_list.length : Int) = n3 := (hn3.trans (congrArg (fun m : Nat => (m : Int)) (rlen CV.encs_eq v1_list))).symm
                  cases h
                  exact (Le.forget _ ⟨rfl, rfl, trivial⟩)
                | false =>
                  replace h := bif_f hb.symm h
                  cases h
                  exact (Le.forget _ ⟨rfl, rfl, trivial⟩)
            | false =>
              replace h := bif_f hb.symm h
              intro b hb
              subst hb
              intro b hb
              cases b with
              | true =>
                replace h := bif_t hb.symm h
                intro n4 hn4
                obtain rfl : (v1_list.length : Int) = n4 := (hn4.trans (congrArg (fun m : Nat => (m : Int)) (rlen CV.encs_eq v1_list))).symm
                cases h
                exact (Le.forget _ ⟨rfl, rfl, trivial⟩)
              | false =>
                replace h := bif_f hb.symm h
                cases h
                exact (Le.forget _ ⟨rfl, rfl, trivial⟩)
        | false =>
          replace h := bif_f hb.symm h
          intro b hb
          subst hb
          intro b hb
          cases b with
          | true =>
            replace h := bif_t hb.symm h
            intro b hb
            cases b with
            | true =>
              replace h := bif_t hb.symm h
              cases h
              exact (Le.forget _ ⟨rfl, rfl, trivial⟩)
            | false =>
              replace h := bif_f hb.symm h
              intro b hb
              cases b with
              | true =>
                replace h := bif_t hb.symm h
                intro n5 hn5
                obtain rfl : (v1_list.length : Int) = n5 := (hn5.trans (congrArg (fun m : Nat => (m : Int)) (rlen CV.encs_eq v1_list))).symm
                cases h
                exact (Le.forget _ ⟨rfl, rfl, trivial⟩)
              | false =>
                replace h := bif_f hb.symm h
                cases h
                exact (Le.forget _ ⟨rfl, rfl, trivial⟩)
          | false =>
            replace h := bif_f hb.symm h
            intro b hb
            subst hb
            intro b hb
            cases b with
            | true =>
              replace h := bif_t hb.symm h
              intro n6 hn6
              obtain rfl : (v1_list.length : Int) = n6 := (hn6.trans (congrArg (fun m : Nat => (m : Int)) (rlen CV.encs_eq v1_list))).symm
              cases h
              exact (Le.forget _ ⟨rfl, rfl, trivial⟩)
            | false =>
              replace h := bif_f hb.symm h
              cases h
              exact (Le.forget _ ⟨rfl, rfl, trivial⟩)
  · show Tri _ _ _ _
    refine tri_le hle ?_
    refine tri_cond rfl (fun hb => ?_) (fun hb => ?_)
    · replace h := bif_t hb h
      refine tri_seq ?_
      refine tri_region tokW gok [] [] rfl ?_
      show Tri _ _ _ _
      refine tri_ret ?_
      have hy := Option.some.inj h
      subst hy
      unfold Gives
      exact ⟨_, Le.refl _ _, rfl, rfl⟩
    · replace h := bif_f hb h
      refine tri_skip ?_
      show Tri _ _ _ _
      refine tri_seq ?_
      refine tri_seq ?_
      refine tri_region tokW gok [] [] rfl ?_
      show Tri _ _ _ _
      obtain ⟨fl, hl, ho1⟩ := bind_out h
      refine tri_fl (fl := fl) (fun z => match z with | _ => ⟨ofL [], fun _ => none, 0⟩) ?_ (fun z σ' hz hle => ?_)
      · refine tri_block (tri_loopI (X := Nat × Int) (fun y => match y with | (k, i7) => ⟨ofL [(1, .s (.pt [.int .i64 v1_kind, .int .i64 v1_int, .str v1_text, .sl 4 (CV.encs v1_list)])), (3, .s (.int .i64 i7))], fun _ => none, 0⟩) (fun y => m32_l1 (m32 n) v1_list y.1 y.2 = some fl) (fun y => y.1) (n, 0) hl ?_ ?_)
        · exact (Le.forget _ ⟨rfl, rfl, trivial⟩)
        · rintro ⟨k, i7⟩ h
          cases k with
          | zero => cases h
          | succ k =>
            refine tri_seq ?_
            refine tri_seq ?_
            refine tri_region tokW gok [] [46] rfl ?_
            intro n8 hn8
            obtain rfl : (v1_list.length : Int) = n8 := (hn8.trans (congrArg (fun m : Nat => (m : Int)) (rlen CV.encs_eq v1_list))).symm
            show Tri _ _ _ _
            refine tri_cond rfl (fun hb => ?_) (fun hb => ?_)
            · replace h := bif_t hb h
              refine tri_skip ?_
              show Tri _ _ _ _
              refine tri_seq ?_
              refine tri_block ?_
              refine tri_seq ?_
              refine tri_region tokW gok [] [53] rfl ?_
              obtain ⟨⟨e9_kind, e9_int, e9_text, e9_list⟩, he9, h⟩ := bind_out h
              refine And.intro (at_ok CV.encs_eq he9).1 ?_
              intro r10 hr10
              obtain rfl : [.int .i64 e9_kind, .int .i64 e9_int, .str e9_text, .sl 4 (CV.encs e9_list)] = r10 := (hr10.trans (at_ok CV.encs_eq he9).2.1).symm
              obtain ⟨y11, hy11, h⟩ := bind_out h
              refine ⟨_, ⟨_, _, hy11, rfl, rfl⟩, ?_⟩
              show Tri _ _ _ _
              refine tri_cond rfl (fun hb => ?_) (fun hb => ?_)
              · replace h := bif_t hb h
                refine tri_seq ?_
                refine tri_region tokW gok [] [] rfl ?_
                show Tri _ _ _ _
                refine tri_ret ?_
                cases h
                replace h : some _ = some _ := ho1
                have hy := Option.some.inj h
                subst hy
                unfold Gives
                exact ⟨_, Le.refl _ _, rfl, rfl⟩
              · replace h := bif_f hb h
                refine tri_skip ?_
                show Tri _ _ _ _
                refine tri_region tokW gok [] [] rfl ?_
                refine ⟨(k, IntKind.i64.wrap (i7 + 1)), h, (Le.forget _ ⟨rfl, rfl, trivial⟩), Nat.lt_succ_self k⟩
            · replace h := bif_f hb h
              refine tri_exit ?_
              cases h
              exact ⟨_, rfl, (Le.forget _ trivial)⟩
      · subst hz
        obtain _ := z
        replace h := ho1
        show Tri _ _ _ _
        refine tri_le hle ?_
        refine tri_seq ?_
        refine tri_region tokW gok [] [] rfl ?_
        show Tri _ _ _ _
        refine tri_ret ?_
        have hy := Option.some.inj h
        subst hy
        unfold Gives
        exact ⟨_, Le.refl _ _, rfl, rfl⟩
theorem all32 : ∀ n, PSound Try.prog 32 (pspec (R32 n)) := by
  intro n
  induction n with
  | zero => exact ⟨Try.call32, fun G w xs vs r _ _ _ h => (by obtain ⟨_, _, h, _⟩ := h; cases h), fun R hR => by cases hR⟩
  | succ n ih => exact step32 n ih
def S32 : PSpec := pspec fun xs r => ∃ n, R32 n xs r
theorem ok32 : PSound Try.prog 32 S32 := psound_all all32

/- vinculum/vinculumref03.Depth -/
def m20_l1 (F20 : CV → Option Int) (v1_list : List CV) : Nat → Int → Int → Option (Int)
| 0, _, _ => none
| k+1, n3, i4 =>
  bif decide (i4 < (v1_list.length : Int)) then (
    (at? v1_list i4).bind fun ⟨e7_kind, e7_int, e7_text, e7_list⟩ =>
    (F20 (CV.mk e7_kind e7_int e7_text e7_list)).bind fun y9 =>
    m20_l1 F20 v1_list k (if n3 < y9 then y9 else n3) (IntKind.i64.wrap (i4 + 1))
  ) else (
    some n3
  )
def m20 : Nat → CV → Option Int
| 0, _ => none
| n+1, ⟨v1_kind, v1_int, v1_text, v1_list⟩ =>
  (
    bif (v1_kind == 3) then (
      (m20_l1 (m20 n) v1_list n 0 0).bind fun n5 =>
      some n5
    ) else (
      some 0
    )
   : Option (Int)).bind fun n2 =>
  some (IntKind.i64.wrap (n2 + 1))
def R20 (n : Nat) (xs : List AV) (r : Ret) : Prop := ∃ (a0 : CV) (y0 : Int), m20 n a0 = some y0 ∧ xs = [.agg ((CV.enc a0).map .s)] ∧ r = .val (.s (.int .i64 y0))
set_option maxHeartbeats 2000000 in
theorem step20 (n : Nat) (ih : PSound Try.prog 20 (pspec (R20 n))) : PSound Try.prog 20 (pspec (R20 (n + 1))) := by
  have gok : ∀ f s, look? f [(20, pspec (R20 n))] = some s → PSound Try.prog f s := look_all (by
    simp only [List.forall_mem_cons]
    exact ⟨ih, by simp⟩)
  refine psound tokW Try.call20 Try.func20 rfl (fun xs r h => by obtain ⟨_, _, _, rfl, _⟩ := h; show 1 ≤ 25; decide) 25 rfl ?_
  rintro xs r w0 G0 ⟨⟨v1_kind, v1_int, v1_text, v1_list⟩, y0, h, rfl, rfl⟩ _
  refine tri_seq ?_
  refine tri_region tokW gok [] [] rfl ?_
  show Tri _ _ _ _
  refine tri_seq ?_
  refine tri_region tokW gok [] [] rfl ?_
  show Tri _ _ _ _
  refine tri_seq ?_
  refine tri_seq ?_
  refine tri_region tokW gok [] [] rfl ?_
  show Tri _ _ _ _
  obtain ⟨n2, hj, h⟩ := bind_out h
  refine tri_post ⟨ofL [(3, .s (.int .i64 n2))], fun _ => none, 0⟩ ?_ (fun σ' hle => ?_)
  · replace h := hj
    refine tri_cond rfl (fun hb => ?_) (fun hb => ?_)
    · replace h := bif_t hb h
      refine tri_seq ?_
      refine tri_region tokW gok [] [] rfl ?_
      show Tri _ _ _ _
      obtain ⟨n5, hl, h⟩ := bind_out h
      refine tri_post ⟨ofL [(3, .s (.int .i64 n5))], fun _ => none, 0⟩ ?_ (fun σ' hle => ?_)
      · refine tri_block (tri_loopI (X := Nat × Int × Int) (fun y => match y with | (k, n3, i4) => ⟨ofL [(1, .s (.pt [.int .i64 v1_kind, .int .i64 v1_int, .str v1_text, .sl 4 (CV.encs v1_list)])), (3, .s (.int .i64 n3)), (4, .s (.int .i64 i4))], fun _ => none, 0⟩) (fun y => m20_l1 (m20 n) v1_list y.1 y.2.1 y.2.2 = some n5) (fun y => y.1) (n, 0, 0) hl ?_ ?_)
        · exact (Le.forget _ ⟨rfl, rfl, rfl, trivial⟩)
        · rintro ⟨k, n3, i4⟩ h
          cases k with
          | zero => cases h
          | succ k =>
            refine tri_seq ?_
            refine tri_seq ?_
            refine tri_region tokW gok [] [11] rfl ?_
            intro n6 hn6
            obtain rfl : (v1_list.length : Int) = n6 := (hn6.trans (congrArg (fun m : Nat => (m : Int)) (rlen CV.encs_eq v1_list))).symm
            show Tri _ _ _ _
            refine tri_cond rfl (fun hb => ?_) (fun hb => ?_)
            · replace h := bif_t hb h
              refine tri_skip ?_
              show Tri _ _ _ _
              refine tri_seq ?_
              refine tri_block ?_
              refine tri_region tokW gok [] [19] rfl ?_
              obtain ⟨⟨e7_kind, e7_int, e7_text, e7_list⟩, he7, h⟩ := bind_out h
              refine And.intro (at_ok CV.encs_eq he7).1 ?_
              intro r8 hr8
              obtain rfl : [.int .i64 e7_kind, .int .i64 e7_int, .str e7_text, .sl 4 (CV.encs e7_list)] = r8 := (hr8.trans (at_ok CV.encs_eq he7).2.1).symm
              obtain ⟨y9, hy9, h⟩ := bind_out h
              refine ⟨_, ⟨_, _, hy9, rfl, rfl⟩, ?_⟩
              show Tri _ _ _ _
              refine tri_region tokW gok [] [] rfl ?_
              refine ⟨(k, (if n3 < y9 then y9 else n3), IntKind.i64.wrap (i4 + 1)), h, (Le.forget _ ⟨rfl, rfl, rfl, trivial⟩), Nat.lt_succ_self k⟩
            · replace h := bif_f hb h
              refine tri_exit ?_
              cases h
              exact (Le.forget _ ⟨rfl, trivial⟩)
      · cases h
        exact (Le.trans hle (Le.forget _ ⟨rfl, trivial⟩))
    · replace h := bif_f hb h
      refine tri_skip ?_
      cases h
      exact (Le.forget _ ⟨rfl, trivial⟩)
  · show Tri _ _ _ _
    refine tri_le hle ?_
    refine tri_seq ?_
    refine tri_region tokW gok [] [] rfl ?_
    show Tri _ _ _ _
    refine tri_ret ?_
    have hy := Option.some.inj h
    subst hy
    unfold Gives
    exact ⟨_, Le.refl _ _, rfl, rfl⟩
theorem all20 : ∀ n, PSound Try.prog 20 (pspec (R20 n)) := by
  intro n
  induction n with
  | zero => exact ⟨Try.call20, fun G w xs vs r _ _ _ h => (by obtain ⟨_, _, h, _⟩ := h; cases h), fun R hR => by cases hR⟩
  | succ n ih => exact step20 n ih
def S20 : PSpec := pspec fun xs r => ∃ n, R20 n xs r
theorem ok20 : PSound Try.prog 20 S20 := psound_all all20

/- vinculum/vinculumref03.Valid -/
def m18 (n : Nat) : CV → Option Bool
| ⟨v1_kind, v1_int, v1_text, v1_list⟩ =>
  (
    (m32 n (CV.mk v1_kind v1_int v1_text v1_list)).bind fun y3 =>
    bif y3 then (
      (m20 n (CV.mk v1_kind v1_int v1_text v1_list)).bind fun y4 =>
      some (decide (y4 ≤ 64))
    ) else (
      some false
    )
   : Option (Bool)).bind fun x2 =>
  some x2
def R18 (n : Nat) (xs : List AV) (r : Ret) : Prop := ∃ (a0 : CV) (y0 : Bool), m18 n a0 = some y0 ∧ xs = [.agg ((CV.enc a0).map .s)] ∧ r = .val (.s (.bool y0))
def S18 : PSpec := pspec fun xs r => ∃ n, R18 n xs r
set_option maxHeartbeats 2000000 in
theorem ok18 : PSound Try.prog 18 S18 := by
  have gok : ∀ f s, look? f [(32, S32), (20, S20)] = some s → PSound Try.prog f s := look_all (by
    simp only [List.forall_mem_cons]
    exact ⟨ok32, ok20, by simp⟩)
  refine psound tokW Try.call18 Try.func18 rfl (fun xs r h => by obtain ⟨n, _, _, _, rfl, _⟩ := h; show 1 ≤ 10; decide) 10 rfl ?_
  rintro xs r w0 G0 ⟨n, ⟨v1_kind, v1_int, v1_text, v1_list⟩, y0, h, rfl, rfl⟩ _
  refine tri_seq ?_
  refine tri_region tokW gok [] [] rfl ?_
  show Tri _ _ _ _
  refine tri_seq ?_
  obtain ⟨x2, hj, h⟩ := bind_out h
  refine tri_post ⟨ofL [(2, .s (.bool x2))], fun _ => none, 0⟩ ?_ (fun σ' hle => ?_)
  · replace h := hj
    refine tri_region tokW gok [] [5] rfl ?_
    obtain ⟨y3, hy3, h⟩ := bind_out h
    refine ⟨_, ⟨_, _, _, hy3, rfl, rfl⟩, ?_⟩
    intro b hb
    cases b with
    | true =>
      replace h := bif_t hb.symm h
      obtain ⟨y4, hy4, h⟩ := bind_out h
      refine ⟨_, ⟨_, _, _, hy4, rfl, rfl⟩, ?_⟩
      cases h
      exact (Le.forget _ ⟨rfl, trivial⟩)
    | false =>
      replace h := bif_f hb.symm h
      cases h
      exact (Le.forget _ ⟨rfl, trivial⟩)
  · show Tri _ _ _ _
    refine tri_le hle ?_
    refine tri_ret ?_
    have hy := Option.some.inj h
    subst hy
    unfold Gives
    exact ⟨_, Le.refl _ _, rfl, rfl⟩

/- vinculum/codec.Depth -/
def enc66 (p : (CV × Int)) : List S := [.pt (CV.enc p.1), .int .i64 p.2]
def m19_l2 (e8_value_list : List CV) (e8_depth : Int) : Nat → Int → (List (CV × Int)) → Option ((List (CV × Int)))
| 0, _, _ => none
| k+1, x11, l13 =>
  bif decide (x11 < (e8_value_list.length : Int)) then (
    (at? e8_value_list x11).bind fun ⟨e15_kind, e15_int, e15_text, e15_list⟩ =>
    req (l13.length + [(CV.mk e15_kind e15_int e15_text e15_list, IntKind.i64.wrap (e8_depth + 1))].length ≤ 4294967296) <|
    m19_l2 e8_value_list e8_depth k (IntKind.i64.wrap (x11 + 1)) (l13 ++ [(CV.mk e15_kind e15_int e15_text e15_list, IntKind.i64.wrap (e8_depth + 1))])
  ) else (
    some l13
  )
def m19_l1 (n : Nat) : Nat → Int → (List (CV × Int)) → Option (Int)
| 0, _, _ => none
| k+1, most2, l4 =>
  bif decide (0 < (l4.length : Int)) then (
    (at? l4 (IntKind.i64.wrap ((l4.length : Int) - 1))).bind fun ⟨⟨e8_value_kind, e8_value_int, e8_value_text, e8_value_list⟩, e8_depth⟩ =>
    req (0 ≤ IntKind.i64.wrap ((l4.length : Int) - 1) ∧ IntKind.i64.wrap ((l4.length : Int) - 1) ≤ (l4.length : Int)) <|
    bif (e8_value_kind != 3) then (
      m19_l1 n k (if most2 < e8_depth then e8_depth else most2) (l4.take (IntKind.i64.wrap ((l4.length : Int) - 1)).toNat)
    ) else (
      (m19_l2 e8_value_list e8_depth n 0 (l4.take (IntKind.i64.wrap ((l4.length : Int) - 1)).toNat)).bind fun l14 =>
      m19_l1 n k (if most2 < e8_depth then e8_depth else most2) l14
    )
  ) else (
    some most2
  )
def m19 (n : Nat) : CV → Option Int
| ⟨v1_kind, v1_int, v1_text, v1_list⟩ =>
  (m19_l1 n n 0 [(CV.mk v1_kind v1_int v1_text v1_list, 1)]).bind fun most5 =>
  some most5
def R19 (n : Nat) (xs : List AV) (r : Ret) : Prop := ∃ (a0 : CV) (y0 : Int), m19 n a0 = some y0 ∧ xs = [.agg ((CV.enc a0).map .s)] ∧ r = .val (.s (.int .i64 y0))
def S19 : PSpec := pspec fun xs r => ∃ n, R19 n xs r
set_option maxHeartbeats 2000000 in
theorem ok19 : PSound Try.prog 19 S19 := by
  have gok : ∀ (f : Nat) (s : PSpec), (fun _ => none : Nat → Option PSpec) f = some s → PSound Try.prog f s := fun _ _ h => by cases h
  refine psound tokW Try.call19 Try.func19 rfl (fun xs r h => by obtain ⟨n, _, _, _, rfl, _⟩ := h; show 1 ≤ 58; decide) 58 rfl ?_
  rintro xs r w0 G0 ⟨n, ⟨v1_kind, v1_int, v1_text, v1_list⟩, y0, h, rfl, rfl⟩ _
  refine tri_seq ?_
  refine tri_region tokW gok [] [] rfl ?_
  show Tri _ _ _ _
  refine tri_seq ?_
  refine tri_region tokW gok [] [] rfl ?_
  show Tri _ _ _ _
  refine tri_seq ?_
  refine tri_region tokW gok [8] [] rfl ?_
  show Tri _ _ _ _
  refine tri_le (Le.rename [(0, 0)] [(3, .s (.int .i64 0)), (4, .orow 0)] [(0, .row 66 2 ((List.map enc66) [(CV.mk v1_kind v1_int v1_text v1_list, 1)]))] 1 ⟨rfl, rfl, trivial⟩ ⟨rfl, ⟨_, rfl, congrArg (Ob.row 66 2) (by simp [List.map_append, List.map_take, List.map_drop, irow, brow, b8of_row, List.map_cons, List.map_nil, b8of_wrap, CV.encs_eq, CV.enc, enc61, enc66])⟩, trivial⟩ rfl rfl rfl rfl rfl) ?_
  refine tri_seq ?_
  obtain ⟨most5, hl, h⟩ := bind_out h
  refine tri_post ⟨ofL [(3, .s (.int .i64 most5))], ofH [], 0⟩ ?_ (fun σ' hle => ?_)
  · refine tri_block (tri_loopI (X := Nat × Int × (List (CV × Int))) (fun y => match y with | (k, most2, l4) => ⟨ofL [(3, .s (.int .i64 most2)), (4, .orow 0)], ofH [(0, .row 66 2 ((List.map enc66) l4))], 1⟩) (fun y => m19_l1 n y.1 y.2.1 y.2.2 = some most5) (fun y => y.1) (n, 0, [(CV.mk v1_kind v1_int v1_text v1_list, 1)]) hl ?_ ?_)
    · exact (Le.rename [(0, 0)] _ _ _ ⟨rfl, rfl, trivial⟩ ⟨rfl, ⟨_, rfl, rfl⟩, trivial⟩ rfl rfl rfl rfl rfl)
    · rintro ⟨k, most2, l4⟩ h
      cases k with
      | zero => cases h
      | succ k =>
        refine tri_seq ?_
        refine tri_seq ?_
        refine tri_region tokW gok [] [10] rfl ?_
        intro n6 hn6
        obtain rfl : (l4.length : Int) = n6 := (hn6.trans (congrArg (fun m : Nat => (m : Int)) (rlen (fun _ => rfl) l4))).symm
        show Tri _ _ _ _
        refine tri_cond rfl (fun hb => ?_) (fun hb => ?_)
        · replace h := bif_t hb h
          refine tri_skip ?_
          show Tri _ _ _ _
          refine tri_block ?_
          refine tri_seq ?_
          refine tri_region tokW gok [5] [14] rfl ?_
          intro n7 hn7
          obtain rfl : (l4.length : Int) = n7 := (hn7.trans (congrArg (fun m : Nat => (m : Int)) (rlen (fun _ => rfl) l4))).symm
          obtain ⟨⟨⟨e8_value_kind, e8_value_int, e8_value_text, e8_value_list⟩, e8_depth⟩, he8, h⟩ := bind_out h
          refine And.intro (at_ok (fun _ => rfl) he8).1 ?_
          refine And.intro (at_ok (fun _ => rfl) he8).2.2 ?_
          refine ⟨_, (at_ok (fun _ => rfl) he8).2.1, ?_⟩
          show Tri _ _ _ _
          refine tri_le (Le.giveBox 1 [.pt [.int .i64 e8_value_kind, .int .i64 e8_value_int, .str e8_value_text, .sl 4 (CV.encs e8_value_list)], .int .i64 e8_depth] rfl rfl) ?_
          refine tri_seq ?_
          refine tri_region tokW gok [22] [20] rfl ?_
          intro n9 hn9
          obtain rfl : (l4.length : Int) = n9 := (hn9.trans (congrArg (fun m : Nat => (m : Int)) (rlen (fun _ => rfl) l4))).symm
          obtain ⟨hq, h⟩ := req_out h
          refine And.intro ⟨hq.1, Int.le_trans hq.2 (Int.ofNat_le.2 (Nat.le_of_eq (rlen (fun _ => rfl) _).symm))⟩ ?_
          show Tri _ _ _ _
          refine tri_le (Le.rename [(2, 0)] [(3, .s (.int .i64 most2)), (4, .orow 0), (5, .s (.pt [.pt [.int .i64 e8_value_kind, .int .i64 e8_value_int, .str e8_value_text, .sl 4 (CV.encs e8_value_list)], .int .i64 e8_depth]))] [(0, .row 66 2 ((List.map enc66) (l4.take (IntKind.i64.wrap ((l4.length : Int) - 1)).toNat)))] 1 ⟨rfl, rfl, rfl, trivial⟩ ⟨rfl, ⟨_, rfl, congrArg (Ob.row 66 2) (by simp [List.map_append, List.map_take, List.map_drop, irow, brow, b8of_row, List.map_cons, List.map_nil, b8of_wrap, CV.encs_eq, CV.enc, enc61, enc66])⟩, trivial⟩ rfl rfl rfl rfl rfl) ?_
          refine tri_seq ?_
          refine tri_region tokW gok [] [] rfl ?_
          show Tri _ _ _ _
          refine tri_seq ?_
          refine tri_seq ?_
          refine tri_region tokW gok [] [] rfl ?_
          show Tri _ _ _ _
          refine tri_cond rfl (fun hb => ?_) (fun hb => ?_)
          · replace h := bif_t hb h
            refine tri_exit ?_
            refine ⟨(k, (if most2 < e8_depth then e8_depth else most2), l4.take (IntKind.i64.wrap ((l4.length : Int) - 1)).toNat), h, (Le.rename [(0, 0)] _ _ _ ⟨rfl, rfl, trivial⟩ ⟨rfl, ⟨_, rfl, rfl⟩, trivial⟩ rfl rfl rfl rfl rfl), Nat.lt_succ_self k⟩
          · replace h := bif_f hb h
            refine tri_skip ?_
            show Tri _ _ _ _
            refine tri_seq ?_
            refine tri_region tokW gok [] [38] rfl ?_
            intro n10 hn10
            obtain rfl : (e8_value_list.length : Int) = n10 := (hn10.trans (congrArg (fun m : Nat => (m : Int)) (rlen CV.encs_eq e8_value_list))).symm
            show Tri _ _ _ _
            obtain ⟨l14, hl, h⟩ := bind_out h
            refine tri_post ⟨ofL [(3, .s (.int .i64 (if most2 < e8_depth then e8_depth else most2))), (4, .orow 0)], ofH [(0, .row 66 2 ((List.map enc66) l14))], 1⟩ ?_ (fun σ' hle => ?_)
            · refine tri_block (tri_loopI (X := Nat × Int × (List (CV × Int))) (fun y => match y with | (k, x11, l13) => ⟨ofL [(3, .s (.int .i64 (if most2 < e8_depth then e8_depth else most2))), (4, .orow 0), (5, .s (.pt [.pt [.int .i64 e8_value_kind, .int .i64 e8_value_int, .str e8_value_text, .sl 4 (CV.encs e8_value_list)], .int .i64 e8_depth])), (38, .s (.int .i64 (e8_value_list.length : Int))), (39, .s (.int .i64 x11))], ofH [(0, .row 66 2 ((List.map enc66) l13))], 1⟩) (fun y => m19_l2 e8_value_list e8_depth y.1 y.2.1 y.2.2 = some l14) (fun y => y.1) (n, 0, l4.take (IntKind.i64.wrap ((l4.length : Int) - 1)).toNat) hl ?_ ?_)
              · exact (Le.rename [(0, 0)] _ _ _ ⟨rfl, rfl, rfl, rfl, rfl, trivial⟩ ⟨rfl, ⟨_, rfl, rfl⟩, trivial⟩ rfl rfl rfl rfl rfl)
              · rintro ⟨k, x11, l13⟩ h
                cases k with
                | zero => cases h
                | succ k =>
                  refine tri_seq ?_
                  refine tri_region tokW gok [] [] rfl ?_
                  show Tri _ _ _ _
                  refine tri_seq ?_
                  refine tri_cond rfl (fun hb => ?_) (fun hb => ?_)
                  · replace h := bif_t hb h
                    refine tri_skip ?_
                    show Tri _ _ _ _
                    refine tri_seq ?_
                    refine tri_block ?_
                    refine tri_seq ?_
                    refine tri_region tokW gok [] [] rfl ?_
                    show Tri _ _ _ _
                    refine tri_drawn tokW gok mixed [55] [49, 54] [13] rfl (by decide +kernel) ?_
                    obtain ⟨⟨e15_kind, e15_int, e15_text, e15_list⟩, he15, h⟩ := bind_out h
                    refine And.intro (at_ok CV.encs_eq he15).1 ?_
                    intro r16 hr16
                    obtain rfl : [.int .i64 e15_kind, .int .i64 e15_int, .str e15_text, .sl 4 (CV.encs e15_list)] = r16 := (hr16.trans (at_ok CV.encs_eq he15).2.1).symm
                    intro r17 hr17
                    obtain rfl : (List.map enc66) [(CV.mk e15_kind e15_int e15_text e15_list, IntKind.i64.wrap (e8_depth + 1))] = r17 := (hr17.trans (by simp [List.map_append, List.map_take, List.map_drop, irow, brow, b8of_row, List.map_cons, List.map_nil, b8of_wrap, CV.encs_eq, CV.enc, enc61, enc66])).symm
                    obtain ⟨hq, h⟩ := req_out h
                    refine And.intro (show (((List.map enc66) l13).length + ((List.map enc66) [(CV.mk e15_kind e15_int e15_text e15_list, IntKind.i64.wrap (e8_depth + 1))]).length) * 16 ≤ 140737488355328 ∧ ((List.map enc66) l13).length + ((List.map enc66) [(CV.mk e15_kind e15_int e15_text e15_list, IntKind.i64.wrap (e8_depth + 1))]).length ≤ 9223372036854775807 from by simp only [List.length_append, List.length_cons, List.length_nil, List.length_map, rlen (fun _ => rfl)] at hq ⊢; omega) ?_
                    show Tri _ _ _ _
                    refine tri_le (Le.rename [(1, 0)] [(3, .s (.int .i64 (if most2 < e8_depth then e8_depth else most2))), (4, .orow 0), (5, .s (.pt [.pt [.int .i64 e8_value_kind, .int .i64 e8_value_int, .str e8_value_text, .sl 4 (CV.encs e8_value_list)], .int .i64 e8_depth])), (38, .s (.int .i64 (e8_value_list.length : Int))), (39, .s (.int .i64 x11))] [(0, .row 66 2 ((List.map enc66) (l13 ++ [(CV.mk e15_kind e15_int e15_text e15_list, IntKind.i64.wrap (e8_depth + 1))])))] 1 ⟨rfl, rfl, rfl, rfl, rfl, trivial⟩ ⟨rfl, ⟨_, rfl, congrArg (Ob.row 66 2) (by simp [List.map_append, List.map_take, List.map_drop, irow, brow, b8of_row, List.map_cons, List.map_nil, b8of_wrap, CV.encs_eq, CV.enc, enc61, enc66])⟩, trivial⟩ rfl rfl rfl rfl rfl) ?_
                    refine tri_region tokW gok [] [] rfl ?_
                    refine ⟨(k, IntKind.i64.wrap (x11 + 1), l13 ++ [(CV.mk e15_kind e15_int e15_text e15_list, IntKind.i64.wrap (e8_depth + 1))]), h, (Le.rename [(0, 0)] _ _ _ ⟨rfl, rfl, rfl, rfl, rfl, trivial⟩ ⟨rfl, ⟨_, rfl, rfl⟩, trivial⟩ rfl rfl rfl rfl rfl), Nat.lt_succ_self k⟩
                  · replace h := bif_f hb h
                    refine tri_exit ?_
                    cases h
                    exact (Le.rename [(0, 0)] _ _ _ ⟨rfl, rfl, trivial⟩ ⟨rfl, ⟨_, rfl, rfl⟩, trivial⟩ rfl rfl rfl rfl rfl)
            · refine ⟨(k, (if most2 < e8_depth then e8_depth else most2), l14), h, (Le.trans hle (Le.rename [(0, 0)] _ _ _ ⟨rfl, rfl, trivial⟩ ⟨rfl, ⟨_, rfl, rfl⟩, trivial⟩ rfl rfl rfl rfl rfl)), Nat.lt_succ_self k⟩
        · replace h := bif_f hb h
          refine tri_exit ?_
          cases h
          exact (Le.rename [] _ _ _ ⟨rfl, trivial⟩ trivial rfl rfl rfl rfl rfl)
  · show Tri _ _ _ _
    refine tri_le hle ?_
    refine tri_seq ?_
    refine tri_region tokW gok [] [] rfl ?_
    show Tri _ _ _ _
    refine tri_ret ?_
    have hy := Option.some.inj h
    subst hy
    unfold Gives
    exact ⟨_, Le.refl _ _, rfl, rfl⟩

/- vinculum/vinculumref03.Number -/
def m25 : CV → Option Int
| ⟨v1_kind, v1_int, v1_text, v1_list⟩ =>
  bif (v1_kind == 2) then (
    some (IntKind.u64.wrap (v1_text.length : Int))
  ) else (
    bif (v1_kind == 3) then (
      some (IntKind.u64.wrap (v1_list.length : Int))
    ) else (
      bif decide (v1_int < 0) then (
        some (IntKind.u64.wrap ((IntKind.u64.wrap (2 * (IntKind.u64.wrap (IntKind.i64.wrap (0 - (IntKind.i64.wrap (v1_int + 1))))))) + 1))
      ) else (
        some (IntKind.u64.wrap (2 * (IntKind.u64.wrap v1_int)))
      )
    )
  )
def R25 (xs : List AV) (r : Ret) : Prop := ∃ (a0 : CV) (y0 : Int), m25 a0 = some y0 ∧ xs = [.agg ((CV.enc a0).map .s)] ∧ r = .val (.s (.int .u64 y0))
def S25 : PSpec := pspec fun xs r => R25 xs r
set_option maxHeartbeats 2000000 in
theorem ok25 : PSound Try.prog 25 S25 := by
  have gok : ∀ (f : Nat) (s : PSpec), (fun _ => none : Nat → Option PSpec) f = some s → PSound Try.prog f s := fun _ _ h => by cases h
  refine psound tokW Try.call25 Try.func25 rfl (fun xs r h => by obtain ⟨_, _, _, rfl, _⟩ := h; show 1 ≤ 31; decide) 31 rfl ?_
  rintro xs r w0 G0 ⟨⟨v1_kind, v1_int, v1_text, v1_list⟩, y0, h, rfl, rfl⟩ _
  refine tri_seq ?_
  refine tri_region tokW gok [] [] rfl ?_
  show Tri _ _ _ _
  refine tri_seq ?_
  refine tri_seq ?_
  refine tri_region tokW gok [] [] rfl ?_
  show Tri _ _ _ _
  refine tri_block ?_
  refine tri_seq ?_
  refine tri_region tokW gok [] [] rfl ?_
  show Tri _ _ _ _
  refine tri_cond rfl (fun hb => ?_) (fun hb => ?_)
  · replace h := bif_t hb h
    refine tri_seq ?_
    refine tri_region tokW gok [] [] rfl ?_
    show Tri _ _ _ _
    refine tri_ret ?_
    have hy := Option.some.inj h
    subst hy
    unfold Gives
    exact ⟨_, Le.refl _ _, rfl, rfl⟩
  · replace h := bif_f hb h
    refine tri_seq ?_
    refine tri_region tokW gok [] [] rfl ?_
    show Tri _ _ _ _
    refine tri_cond rfl (fun hb => ?_) (fun hb => ?_)
    · replace h := bif_t hb h
      refine tri_seq ?_
      refine tri_region tokW gok [] [15] rfl ?_
      intro n2 hn2
      obtain rfl : (v1_list.length : Int) = n2 := (hn2.trans (congrArg (fun m : Nat => (m : Int)) (rlen CV.encs_eq v1_list))).symm
      show Tri _ _ _ _
      refine tri_ret ?_
      have hy := Option.some.inj h
      subst hy
      unfold Gives
      exact ⟨_, Le.refl _ _, rfl, rfl⟩
    · replace h := bif_f hb h
      refine tri_skip ?_
      show Tri _ _ _ _
      refine tri_seq ?_
      refine tri_seq ?_
      refine tri_region tokW gok [] [] rfl ?_
      show Tri _ _ _ _
      refine tri_cond rfl (fun hb => ?_) (fun hb => ?_)
      · replace h := bif_t hb h
        refine tri_seq ?_
        refine tri_region tokW gok [] [] rfl ?_
        show Tri _ _ _ _
        refine tri_ret ?_
        have hy := Option.some.inj h
        subst hy
        unfold Gives
        exact ⟨_, Le.refl _ _, rfl, rfl⟩
      · replace h := bif_f hb h
        refine tri_skip ?_
        show Tri _ _ _ _
        refine tri_seq ?_
        refine tri_region tokW gok [] [] rfl ?_
        show Tri _ _ _ _
        refine tri_ret ?_
        have hy := Option.some.inj h
        subst hy
        unfold Gives
        exact ⟨_, Le.refl _ _, rfl, rfl⟩

/- vinculum/vinculumref03.Head -/
def m33_l1  : Nat → Int → (List UInt8) → Option ((List UInt8))
| 0, _, _ => none
| k+1, n3, l5 =>
  bif decide (0 < n3) then (
    req ([b8of (IntKind.u8.wrap (n3.tmod 256))].length + l5.length ≤ 4294967296) <|
    m33_l1 k (IntKind.u64.wrap (n3.tdiv 256)) ([b8of (IntKind.u8.wrap (n3.tmod 256))] ++ l5)
  ) else (
    some l5
  )
def m33 (n : Nat) : CV → Option (List UInt8)
| ⟨v1_kind, v1_int, v1_text, v1_list⟩ =>
  (m25 (CV.mk v1_kind v1_int v1_text v1_list)).bind fun y2 =>
  bif decide (y2 < 56) then (
    some [b8of (IntKind.u8.wrap (IntKind.i64.wrap ((IntKind.i64.wrap (64 * v1_kind)) + (IntKind.i64.wrap y2))))]
  ) else (
    (m33_l1  n y2 []).bind fun l6 =>
    req ([b8of (IntKind.u8.wrap (IntKind.i64.wrap ((IntKind.i64.wrap ((IntKind.i64.wrap (64 * v1_kind)) + 55)) + (l6.length : Int))))].length + l6.length ≤ 4294967296) <|
    some ([b8of (IntKind.u8.wrap (IntKind.i64.wrap ((IntKind.i64.wrap ((IntKind.i64.wrap (64 * v1_kind)) + 55)) + (l6.length : Int))))] ++ l6)
  )
def R33 (n : Nat) (xs : List AV) (r : Ret) : Prop := ∃ (a0 : CV) (y0 : List UInt8), m33 n a0 = some y0 ∧ xs = [.agg ((CV.enc a0).map .s)] ∧ r = .row 5 1 ((List.map brow) y0)
def S33 : PSpec := pspec fun xs r => ∃ n, R33 n xs r
set_option maxHeartbeats 2000000 in
theorem ok33 : PSound Try.prog 33 S33 := by
  have gok : ∀ f s, look? f [(25, S25)] = some s → PSound Try.prog f s := look_all (by
    simp only [List.forall_mem_cons]
    exact ⟨ok25, by simp⟩)
  refine psound tokW Try.call33 Try.func33 rfl (fun xs r h => by obtain ⟨n, _, _, _, rfl, _⟩ := h; show 1 ≤ 38; decide) 38 rfl ?_
  rintro xs r w0 G0 ⟨n, ⟨v1_kind, v1_int, v1_text, v1_list⟩, y0, h, rfl, rfl⟩ _
  refine tri_seq ?_
  refine tri_region tokW gok [2] [] rfl ?_
  show Tri _ _ _ _
  refine tri_le (Le.rename [] [(1, .s (.pt [.int .i64 v1_kind, .int .i64 v1_int, .str v1_text, .sl 4 (CV.encs v1_list)]))] [] 0 ⟨rfl, trivial⟩ trivial rfl rfl rfl rfl rfl) ?_
  refine tri_seq ?_
  refine tri_region tokW gok [] [] rfl ?_
  obtain ⟨y2, hy2, h⟩ := bind_out h
  refine ⟨_, ⟨_, _, hy2, rfl, rfl⟩, ?_⟩
  show Tri _ _ _ _
  refine tri_seq ?_
  refine tri_seq ?_
  refine tri_region tokW gok [] [] rfl ?_
  show Tri _ _ _ _
  refine tri_cond rfl (fun hb => ?_) (fun hb => ?_)
  · replace h := bif_t hb h
    refine tri_seq ?_
    refine tri_region tokW gok [16] [] rfl ?_
    show Tri _ _ _ _
    refine tri_le (Le.rename [(0, 0)] [(2, .orow 0)] [(0, .row 5 1 ((List.map brow) [b8of (IntKind.u8.wrap (IntKind.i64.wrap ((IntKind.i64.wrap (64 * v1_kind)) + (IntKind.i64.wrap y2))))]))] 1 ⟨rfl, trivial⟩ ⟨rfl, ⟨_, rfl, congrArg (Ob.row 5 1) (by simp [List.map_append, List.map_take, List.map_drop, irow, brow, b8of_row, List.map_cons, List.map_nil, b8of_wrap, CV.encs_eq, CV.enc, enc61, enc66])⟩, trivial⟩ rfl rfl rfl rfl rfl) ?_
    refine tri_ret ?_
    have hy := Option.some.inj h
    subst hy
    unfold Gives
    exact ⟨_, Le.refl _ _, 0, rfl, rfl⟩
  · replace h := bif_f hb h
    refine tri_skip ?_
    show Tri _ _ _ _
    refine tri_seq ?_
    refine tri_region tokW gok [4] [] rfl ?_
    show Tri _ _ _ _
    refine tri_le (Le.rename [(0, 0)] [(1, .s (.pt [.int .i64 v1_kind, .int .i64 v1_int, .str v1_text, .sl 4 (CV.encs v1_list)])), (3, .s (.int .u64 y2)), (4, .orow 0)] [(0, .row 5 1 ((List.map brow) []))] 1 ⟨rfl, rfl, rfl, trivial⟩ ⟨rfl, ⟨_, rfl, congrArg (Ob.row 5 1) (by simp [List.map_append, List.map_take, List.map_drop, irow, brow, b8of_row, List.map_cons, List.map_nil, b8of_wrap, CV.encs_eq, CV.enc, enc61, enc66])⟩, trivial⟩ rfl rfl rfl rfl rfl) ?_
    refine tri_seq ?_
    obtain ⟨l6, hl, h⟩ := bind_out h
    refine tri_post ⟨ofL [(1, .s (.pt [.int .i64 v1_kind, .int .i64 v1_int, .str v1_text, .sl 4 (CV.encs v1_list)])), (4, .orow 0)], ofH [(0, .row 5 1 ((List.map brow) l6))], 1⟩ ?_ (fun σ' hle => ?_)
    · refine tri_block (tri_loopI (X := Nat × Int × (List UInt8)) (fun y => match y with | (k, n3, l5) => ⟨ofL [(1, .s (.pt [.int .i64 v1_kind, .int .i64 v1_int, .str v1_text, .sl 4 (CV.encs v1_list)])), (3, .s (.int .u64 n3)), (4, .orow 0)], ofH [(0, .row 5 1 ((List.map brow) l5))], 1⟩) (fun y => m33_l1  y.1 y.2.1 y.2.2 = some l6) (fun y => y.1) (n, y2, []) hl ?_ ?_)
      · exact (Le.rename [(0, 0)] _ _ _ ⟨rfl, rfl, rfl, trivial⟩ ⟨rfl, ⟨_, rfl, rfl⟩, trivial⟩ rfl rfl rfl rfl rfl)
      · rintro ⟨k, n3, l5⟩ h
        cases k with
        | zero => cases h
        | succ k =>
          refine tri_seq ?_
          refine tri_seq ?_
          refine tri_region tokW gok [] [] rfl ?_
          show Tri _ _ _ _
          refine tri_cond rfl (fun hb => ?_) (fun hb => ?_)
          · replace h := bif_t hb h
            refine tri_skip ?_
            show Tri _ _ _ _
            refine tri_block ?_
            refine tri_seq ?_
            refine tri_region tokW gok [22, 24] [] rfl ?_
            refine And.intro (by decide) ?_
            obtain ⟨hq, h⟩ := req_out h
            refine And.intro (show ([[.int .u8 (IntKind.u8.wrap (n3.tmod 256))]].length + ((List.map brow) l5).length) * 1 ≤ 140737488355328 ∧ [[.int .u8 (IntKind.u8.wrap (n3.tmod 256))]].length + ((List.map brow) l5).length ≤ 9223372036854775807 from by simp only [List.length_append, List.length_cons, List.length_nil, List.length_map, rlen (fun _ => rfl)] at hq ⊢; omega) ?_
            show Tri _ _ _ _
            refine tri_le (Le.rename [(2, 0)] [(1, .s (.pt [.int .i64 v1_kind, .int .i64 v1_int, .str v1_text, .sl 4 (CV.encs v1_list)])), (3, .s (.int .u64 n3)), (4, .orow 0)] [(0, .row 5 1 ((List.map brow) ([b8of (IntKind.u8.wrap (n3.tmod 256))] ++ l5)))] 1 ⟨rfl, rfl, rfl, trivial⟩ ⟨rfl, ⟨_, rfl, congrArg (Ob.row 5 1) (by simp [List.map_append, List.map_take, List.map_drop, irow, brow, b8of_row, List.map_cons, List.map_nil, b8of_wrap, CV.encs_eq, CV.enc, enc61, enc66])⟩, trivial⟩ rfl rfl rfl rfl rfl) ?_
            refine tri_region tokW gok [] [] rfl ?_
            refine And.intro (by decide) ?_
            refine ⟨(k, IntKind.u64.wrap (n3.tdiv 256), [b8of (IntKind.u8.wrap (n3.tmod 256))] ++ l5), h, (Le.rename [(0, 0)] _ _ _ ⟨rfl, rfl, rfl, trivial⟩ ⟨rfl, ⟨_, rfl, rfl⟩, trivial⟩ rfl rfl rfl rfl rfl), Nat.lt_succ_self k⟩
          · replace h := bif_f hb h
            refine tri_exit ?_
            cases h
            exact (Le.rename [(0, 0)] _ _ _ ⟨rfl, rfl, trivial⟩ ⟨rfl, ⟨_, rfl, rfl⟩, trivial⟩ rfl rfl rfl rfl rfl)
    · show Tri _ _ _ _
      refine tri_le hle ?_
      refine tri_seq ?_
      refine tri_region tokW gok [35, 37] [32] rfl ?_
      intro n7 hn7
      obtain rfl : (l6.length : Int) = n7 := (hn7.trans (congrArg (fun m : Nat => (m : Int)) (rlen (fun _ => rfl) l6))).symm
      obtain ⟨hq, h⟩ := req_out h
      refine And.intro (show ([[.int .u8 (IntKind.u8.wrap (IntKind.i64.wrap ((IntKind.i64.wrap ((IntKind.i64.wrap (64 * v1_kind)) + 55)) + (l6.length : Int))))]].length + ((List.map brow) l6).length) * 1 ≤ 140737488355328 ∧ [[.int .u8 (IntKind.u8.wrap (IntKind.i64.wrap ((IntKind.i64.wrap ((IntKind.i64.wrap (64 * v1_kind)) + 55)) + (l6.length : Int))))]].length + ((List.map brow) l6).length ≤ 9223372036854775807 from by simp only [List.length_append, List.length_cons, List.length_nil, List.length_map, rlen (fun _ => rfl)] at hq ⊢; omega) ?_
      show Tri _ _ _ _
      refine tri_le (Le.rename [(2, 0)] [(2, .orow 0)] [(0, .row 5 1 ((List.map brow) ([b8of (IntKind.u8.wrap (IntKind.i64.wrap ((IntKind.i64.wrap ((IntKind.i64.wrap (64 * v1_kind)) + 55)) + (l6.length : Int))))] ++ l6)))] 1 ⟨rfl, trivial⟩ ⟨rfl, ⟨_, rfl, congrArg (Ob.row 5 1) (by simp [List.map_append, List.map_take, List.map_drop, irow, brow, b8of_row, List.map_cons, List.map_nil, b8of_wrap, CV.encs_eq, CV.enc, enc61, enc66])⟩, trivial⟩ rfl rfl rfl rfl rfl) ?_
      refine tri_ret ?_
      have hy := Option.some.inj h
      subst hy
      unfold Gives
      exact ⟨_, Le.refl _ _, 0, rfl, rfl⟩

/- vinculum/vinculumref03.Encode -/
def m21_l1 (F21 : CV → Option (List UInt8)) (v1_list : List CV) : Nat → Int → (List UInt8) → Option ((List UInt8))
| 0, _, _ => none
| k+1, i4, l5 =>
  bif decide (i4 < (v1_list.length : Int)) then (
    (at? v1_list i4).bind fun ⟨e8_kind, e8_int, e8_text, e8_list⟩ =>
    (F21 (CV.mk e8_kind e8_int e8_text e8_list)).bind fun y10 =>
    req (l5.length + y10.length ≤ 4294967296) <|
    m21_l1 F21 v1_list k (IntKind.i64.wrap (i4 + 1)) (l5 ++ y10)
  ) else (
    some l5
  )
def m21 : Nat → CV → Option (List UInt8)
| 0, _ => none
| n+1, ⟨v1_kind, v1_int, v1_text, v1_list⟩ =>
  (m33 n (CV.mk v1_kind v1_int v1_text v1_list)).bind fun y2 =>
  req (y2.length + v1_text.length ≤ 4294967296) <|
  (m21_l1 (m21 n) v1_list n 0 (y2 ++ v1_text)).bind fun l6 =>
  some l6
def R21 (n : Nat) (xs : List AV) (r : Ret) : Prop := ∃ (a0 : CV) (y0 : List UInt8), m21 n a0 = some y0 ∧ xs = [.agg ((CV.enc a0).map .s)] ∧ r = .row 5 1 ((List.map brow) y0)
set_option maxHeartbeats 2000000 in
theorem step21 (n : Nat) (ih : PSound Try.prog 21 (pspec (R21 n))) : PSound Try.prog 21 (pspec (R21 (n + 1))) := by
  have gok : ∀ f s, look? f [(33, S33), (21, pspec (R21 n))] = some s → PSound Try.prog f s := look_all (by
    simp only [List.forall_mem_cons]
    exact ⟨ok33, ih, by simp⟩)
  refine psound tokW Try.call21 Try.func21 rfl (fun xs r h => by obtain ⟨_, _, _, rfl, _⟩ := h; show 1 ≤ 26; decide) 26 rfl ?_
  rintro xs r w0 G0 ⟨⟨v1_kind, v1_int, v1_text, v1_list⟩, y0, h, rfl, rfl⟩ _
  refine tri_seq ?_
  refine tri_region tokW gok [2] [] rfl ?_
  show Tri _ _ _ _
  refine tri_le (Le.rename [] [(1, .s (.pt [.int .i64 v1_kind, .int .i64 v1_int, .str v1_text, .sl 4 (CV.encs v1_list)]))] [] 0 ⟨rfl, trivial⟩ trivial rfl rfl rfl rfl rfl) ?_
  refine tri_seq ?_
  refine tri_drawn tokW gok mixed [6, 9] [] [1, 4] rfl (by decide +kernel) ?_
  obtain ⟨y2, hy2, h⟩ := bind_out h
  refine ⟨_, ⟨_, _, _, hy2, rfl, rfl⟩, ?_⟩
  obtain ⟨hq, h⟩ := req_out h
  refine And.intro (show (((List.map brow) y2).length + (List.map brow v1_text).length) * 1 ≤ 140737488355328 ∧ ((List.map brow) y2).length + (List.map brow v1_text).length ≤ 9223372036854775807 from by simp only [List.length_append, List.length_cons, List.length_nil, List.length_map, rlen (fun _ => rfl)] at hq ⊢; omega) ?_
  show Tri _ _ _ _
  refine tri_le (Le.rename [(1, 0)] [(1, .s (.pt [.int .i64 v1_kind, .int .i64 v1_int, .str v1_text, .sl 4 (CV.encs v1_list)])), (3, .orow 0)] [(0, .row 5 1 ((List.map brow) (y2 ++ v1_text)))] 1 ⟨rfl, rfl, trivial⟩ ⟨rfl, ⟨_, rfl, congrArg (Ob.row 5 1) (by simp [List.map_append, List.map_take, List.map_drop, irow, brow, b8of_row, List.map_cons, List.map_nil, b8of_wrap, CV.encs_eq, CV.enc, enc61, enc66])⟩, trivial⟩ rfl rfl rfl rfl rfl) ?_
  refine tri_seq ?_
  refine tri_seq ?_
  refine tri_region tokW gok [] [] rfl ?_
  show Tri _ _ _ _
  obtain ⟨l6, hl, h⟩ := bind_out h
  refine tri_post ⟨ofL [(3, .orow 0)], ofH [(0, .row 5 1 ((List.map brow) l6))], 1⟩ ?_ (fun σ' hle => ?_)
  · refine tri_block (tri_loopI (X := Nat × Int × (List UInt8)) (fun y => match y with | (k, i4, l5) => ⟨ofL [(1, .s (.pt [.int .i64 v1_kind, .int .i64 v1_int, .str v1_text, .sl 4 (CV.encs v1_list)])), (3, .orow 0), (4, .s (.int .i64 i4))], ofH [(0, .row 5 1 ((List.map brow) l5))], 1⟩) (fun y => m21_l1 (m21 n) v1_list y.1 y.2.1 y.2.2 = some l6) (fun y => y.1) (n, 0, y2 ++ v1_text) hl ?_ ?_)
    · exact (Le.rename [(0, 0)] _ _ _ ⟨rfl, rfl, rfl, trivial⟩ ⟨rfl, ⟨_, rfl, rfl⟩, trivial⟩ rfl rfl rfl rfl rfl)
    · rintro ⟨k, i4, l5⟩ h
      cases k with
      | zero => cases h
      | succ k =>
        refine tri_seq ?_
        refine tri_seq ?_
        refine tri_region tokW gok [] [13] rfl ?_
        intro n7 hn7
        obtain rfl : (v1_list.length : Int) = n7 := (hn7.trans (congrArg (fun m : Nat => (m : Int)) (rlen CV.encs_eq v1_list))).symm
        show Tri _ _ _ _
        refine tri_cond rfl (fun hb => ?_) (fun hb => ?_)
        · replace h := bif_t hb h
          refine tri_skip ?_
          show Tri _ _ _ _
          refine tri_seq ?_
          refine tri_block ?_
          refine tri_region tokW gok [24] [21] rfl ?_
          obtain ⟨⟨e8_kind, e8_int, e8_text, e8_list⟩, he8, h⟩ := bind_out h
          refine And.intro (at_ok CV.encs_eq he8).1 ?_
          intro r9 hr9
          obtain rfl : [.int .i64 e8_kind, .int .i64 e8_int, .str e8_text, .sl 4 (CV.encs e8_list)] = r9 := (hr9.trans (at_ok CV.encs_eq he8).2.1).symm
          obtain ⟨y10, hy10, h⟩ := bind_out h
          refine ⟨_, ⟨_, _, hy10, rfl, rfl⟩, ?_⟩
          obtain ⟨hq, h⟩ := req_out h
          refine And.intro (show (((List.map brow) l5).length + ((List.map brow) y10).length) * 1 ≤ 140737488355328 ∧ ((List.map brow) l5).length + ((List.map brow) y10).length ≤ 9223372036854775807 from by simp only [List.length_append, List.length_cons, List.length_nil, List.length_map, rlen (fun _ => rfl)] at hq ⊢; omega) ?_
          show Tri _ _ _ _
          refine tri_le (Le.rename [(1, 0)] [(1, .s (.pt [.int .i64 v1_kind, .int .i64 v1_int, .str v1_text, .sl 4 (CV.encs v1_list)])), (3, .orow 0), (4, .s (.int .i64 i4))] [(0, .row 5 1 ((List.map brow) (l5 ++ y10)))] 1 ⟨rfl, rfl, rfl, trivial⟩ ⟨rfl, ⟨_, rfl, congrArg (Ob.row 5 1) (by simp [List.map_append, List.map_take, List.map_drop, irow, brow, b8of_row, List.map_cons, List.map_nil, b8of_wrap, CV.encs_eq, CV.enc, enc61, enc66])⟩, trivial⟩ rfl rfl rfl rfl rfl) ?_
          refine tri_region tokW gok [] [] rfl ?_
          refine ⟨(k, IntKind.i64.wrap (i4 + 1), l5 ++ y10), h, (Le.rename [(0, 0)] _ _ _ ⟨rfl, rfl, rfl, trivial⟩ ⟨rfl, ⟨_, rfl, rfl⟩, trivial⟩ rfl rfl rfl rfl rfl), Nat.lt_succ_self k⟩
        · replace h := bif_f hb h
          refine tri_exit ?_
          cases h
          exact (Le.rename [(0, 0)] _ _ _ ⟨rfl, trivial⟩ ⟨rfl, ⟨_, rfl, rfl⟩, trivial⟩ rfl rfl rfl rfl rfl)
  · show Tri _ _ _ _
    refine tri_le hle ?_
    refine tri_seq ?_
    refine tri_region tokW gok [] [] rfl ?_
    show Tri _ _ _ _
    refine tri_ret ?_
    have hy := Option.some.inj h
    subst hy
    unfold Gives
    exact ⟨_, Le.refl _ _, 0, rfl, rfl⟩
theorem all21 : ∀ n, PSound Try.prog 21 (pspec (R21 n)) := by
  intro n
  induction n with
  | zero => exact ⟨Try.call21, fun G w xs vs r _ _ _ h => (by obtain ⟨_, _, h, _⟩ := h; cases h), fun R hR => by cases hR⟩
  | succ n ih => exact step21 n ih
def S21 : PSpec := pspec fun xs r => ∃ n, R21 n xs r
theorem ok21 : PSound Try.prog 21 S21 := psound_all all21

/- vinculum/vinculumlaw03.CodecEncodes -/
def m4 (n : Nat) : CV → Option Bool
| ⟨v1_kind, v1_int, v1_text, v1_list⟩ =>
  (m11 n ).bind fun y2 =>
  bif (!y2) then (
    some false
  ) else (
    (m12 n (CV.mk v1_kind v1_int v1_text v1_list)).bind fun y3 =>
    bif (!y3) then (
      some true
    ) else (
      (m14 n (CV.mk v1_kind v1_int v1_text v1_list)).bind fun ⟨y4_kind, y4_int, y4_text, y4_list⟩ =>
      (m16 n (CV.mk y4_kind y4_int y4_text y4_list)).bind fun ⟨y5, y6⟩ =>
      (
        (m17 n (CV.mk y4_kind y4_int y4_text y4_list)).bind fun y8 =>
        (m18 n (CV.mk v1_kind v1_int v1_text v1_list)).bind fun y9 =>
        bif (!(y8 == y9)) then (
          some true
        ) else (
          (m19 n (CV.mk y4_kind y4_int y4_text y4_list)).bind fun y10 =>
          (m20 n (CV.mk v1_kind v1_int v1_text v1_list)).bind fun y11 =>
          some (y10 != y11)
        )
       : Option (Bool)).bind fun x7 =>
      bif x7 then (
        some false
      ) else (
        (m18 n (CV.mk v1_kind v1_int v1_text v1_list)).bind fun y12 =>
        bif (!y12) then (
          (
            bif (y6 == 1) then (
              some ((y5.length : Int) == 0)
            ) else (
              some false
            )
           : Option (Bool)).bind fun x13 =>
          some x13
        ) else (
          (m21 n (CV.mk v1_kind v1_int v1_text v1_list)).bind fun y15 =>
          bif decide (1048576 < (y15.length : Int)) then (
            (
              bif (y6 == 6) then (
                some ((y5.length : Int) == 0)
              ) else (
                some false
              )
             : Option (Bool)).bind fun x17 =>
            some x17
          ) else (
            (
              bif (y6 == 0) then (
                some (y5 == y15)
              ) else (
                some false
              )
             : Option (Bool)).bind fun x19 =>
            some x19
          )
        )
      )
    )
  )
def R4 (n : Nat) (xs : List AV) (r : Ret) : Prop := ∃ (a0 : CV) (y0 : Bool), m4 n a0 = some y0 ∧ xs = [.agg ((CV.enc a0).map .s)] ∧ r = .val (.s (.bool y0))
def S4 : PSpec := pspec fun xs r => ∃ n, R4 n xs r
set_option maxHeartbeats 2000000 in
theorem ok4 : PSound Try.prog 4 S4 := by
  have gok : ∀ f s, look? f [(11, S11), (12, S12), (14, S14), (16, S16), (17, S17), (18, S18), (19, S19), (20, S20), (21, S21)] = some s → PSound Try.prog f s := look_all (by
    simp only [List.forall_mem_cons]
    exact ⟨ok11, ok12, ok14, ok16, ok17, ok18, ok19, ok20, ok21, by simp⟩)
  refine psound tokW Try.call4 Try.func4 rfl (fun xs r h => by obtain ⟨n, _, _, _, rfl, _⟩ := h; show 1 ≤ 62; decide) 62 rfl ?_
  rintro xs r w0 G0 ⟨n, ⟨v1_kind, v1_int, v1_text, v1_list⟩, y0, h, rfl, rfl⟩ _
  refine tri_seq ?_
  refine tri_region tokW gok [] [] rfl ?_
  show Tri _ _ _ _
  refine tri_seq ?_
  refine tri_seq ?_
  refine tri_region tokW gok [] [] rfl ?_
  obtain ⟨y2, hy2, h⟩ := bind_out h
  refine ⟨_, ⟨_, _, hy2, rfl, rfl⟩, ?_⟩
  show Tri _ _ _ _
  refine tri_cond rfl (fun hb => ?_) (fun hb => ?_)
  · replace h := bif_t hb h
    refine tri_seq ?_
    refine tri_region tokW gok [] [] rfl ?_
    show Tri _ _ _ _
    refine tri_ret ?_
    have hy := Option.some.inj h
    subst hy
    unfold Gives
    exact ⟨_, Le.refl _ _, rfl, rfl⟩
  · replace h := bif_f hb h
    refine tri_skip ?_
    show Tri _ _ _ _
    refine tri_seq ?_
    refine tri_seq ?_
    refine tri_region tokW gok [] [] rfl ?_
    obtain ⟨y3, hy3, h⟩ := bind_out h
    refine ⟨_, ⟨_, _, _, hy3, rfl, rfl⟩, ?_⟩
    show Tri _ _ _ _
    refine tri_cond rfl (fun hb => ?_) (fun hb => ?_)
    · replace h := bif_t hb h
      refine tri_seq ?_
      refine tri_region tokW gok [] [] rfl ?_
      show Tri _ _ _ _
      refine tri_ret ?_
      have hy := Option.some.inj h
      subst hy
      unfold Gives
      exact ⟨_, Le.refl _ _, rfl, rfl⟩
    · replace h := bif_f hb h
      refine tri_skip ?_
      show Tri _ _ _ _
      refine tri_seq ?_
      refine tri_region tokW gok [3] [] rfl ?_
      obtain ⟨⟨y4_kind, y4_int, y4_text, y4_list⟩, hy4, h⟩ := bind_out h
      refine ⟨_, ⟨_, _, _, hy4, rfl, rfl⟩, ?_⟩
      show Tri _ _ _ _
      refine tri_le (Le.giveBox 0 [.int .i64 y4_kind, .int .i64 y4_int, .str y4_text, .sl 4 (CV.encs y4_list)] rfl rfl) ?_
      refine tri_seq ?_
      refine tri_region tokW gok [] [] rfl ?_
      obtain ⟨⟨y5, y6⟩, hy5, h⟩ := bind_out h
      refine ⟨_, ⟨_, _, _, _, hy5, rfl, rfl⟩, ?_⟩
      show Tri _ _ _ _
      refine tri_seq ?_
      refine tri_seq ?_
      obtain ⟨x7, hj, h⟩ := bind_out h
      refine tri_post ⟨ofL [(1, .s (.pt [.int .i64 v1_kind, .int .i64 v1_int, .str v1_text, .sl 4 (CV.encs v1_list)])), (4, .s (.sl 1 ((List.map brow) y5))), (5, .s (.int .i64 y6)), (30, .s (.bool x7))], ofH [], 0⟩ ?_ (fun σ' hle => ?_)
      · replace h := hj
        refine tri_drawn tokW gok mixed [] [24] [] rfl (by decide +kernel) ?_
        obtain ⟨y8, hy8, h⟩ := bind_out h
        refine ⟨_, ⟨_, _, _, hy8, rfl, rfl⟩, ?_⟩
        obtain ⟨y9, hy9, h⟩ := bind_out h
        refine ⟨_, ⟨_, _, _, hy9, rfl, rfl⟩, ?_⟩
        intro b hb
        cases b with
        | true =>
          replace h := bif_t hb.symm h
          cases h
          exact (Le.rename [] _ _ _ ⟨rfl, rfl, rfl, rfl, trivial⟩ trivial rfl rfl rfl rfl rfl)
        | false =>
          replace h := bif_f hb.symm h
          obtain ⟨y10, hy10, h⟩ := bind_out h
          refine ⟨_, ⟨_, _, _, hy10, rfl, rfl⟩, ?_⟩
          obtain ⟨y11, hy11, h⟩ := bind_out h
          refine ⟨_, ⟨_, _, _, hy11, rfl, rfl⟩, ?_⟩
          cases h
          exact (Le.rename [] _ _ _ ⟨rfl, rfl, rfl, rfl, trivial⟩ trivial rfl rfl rfl rfl rfl)
      · show Tri _ _ _ _
        refine tri_le hle ?_
        refine tri_cond rfl (fun hb => ?_) (fun hb => ?_)
        · replace h := bif_t hb h
          refine tri_seq ?_
          refine tri_region tokW gok [] [] rfl ?_
          show Tri _ _ _ _
          refine tri_ret ?_
          have hy := Option.some.inj h
          subst hy
          unfold Gives
          exact ⟨_, Le.refl _ _, rfl, rfl⟩
        · replace h := bif_f hb h
          refine tri_skip ?_
          show Tri _ _ _ _
          refine tri_seq ?_
          refine tri_seq ?_
          refine tri_region tokW gok [] [] rfl ?_
          obtain ⟨y12, hy12, h⟩ := bind_out h
          refine ⟨_, ⟨_, _, _, hy12, rfl, rfl⟩, ?_⟩
          show Tri _ _ _ _
          refine tri_cond rfl (fun hb => ?_) (fun hb => ?_)
          · replace h := bif_t hb h
            refine tri_seq ?_
            obtain ⟨x13, hj, h⟩ := bind_out h
            refine tri_post ⟨ofL [(2, .s (.bool x13))], ofH [], 0⟩ ?_ (fun σ' hle => ?_)
            · replace h := hj
              refine tri_region tokW gok [] [36, 38] rfl ?_
              intro b hb
              cases b with
              | true =>
                replace h := bif_t hb.symm h
                intro n14 hn14
                obtain rfl : (y5.length : Int) = n14 := (hn14.trans (congrArg (fun m : Nat => (m : Int)) (rlen (fun _ => rfl) y5))).symm
                cases h
                exact (Le.rename [] _ _ _ ⟨rfl, trivial⟩ trivial rfl rfl rfl rfl rfl)
              | false =>
                replace h := bif_f hb.symm h
                cases h
                exact (Le.rename [] _ _ _ ⟨rfl, trivial⟩ trivial rfl rfl rfl rfl rfl)
            · show Tri _ _ _ _
              refine tri_le hle ?_
              refine tri_ret ?_
              have hy := Option.some.inj h
              subst hy
              unfold Gives
              exact ⟨_, Le.refl _ _, rfl, rfl⟩
          · replace h := bif_f hb h
            refine tri_skip ?_
            show Tri _ _ _ _
            refine tri_seq ?_
            refine tri_region tokW gok [] [] rfl ?_
            obtain ⟨y15, hy15, h⟩ := bind_out h
            refine ⟨_, ⟨_, _, _, hy15, rfl, rfl⟩, ?_⟩
            show Tri _ _ _ _
            refine tri_seq ?_
            refine tri_seq ?_
            refine tri_region tokW gok [] [44] rfl ?_
            intro n16 hn16
            obtain rfl : (y15.length : Int) = n16 := (hn16.trans (congrArg (fun m : Nat => (m : Int)) (rlen (fun _ => rfl) y15))).symm
            show Tri _ _ _ _
            refine tri_cond rfl (fun hb => ?_) (fun hb => ?_)
            · replace h := bif_t hb h
              refine tri_seq ?_
              obtain ⟨x17, hj, h⟩ := bind_out h
              refine tri_post ⟨ofL [(2, .s (.bool x17))], ofH [], 0⟩ ?_ (fun σ' hle => ?_)
              · replace h := hj
                refine tri_region tokW gok [] [48, 50] rfl ?_
                intro b hb
                cases b with
                | true =>
                  replace h := bif_t hb.symm h
                  intro n18 hn18
                  obtain rfl : (y5.length : Int) = n18 := (hn18.trans (congrArg (fun m : Nat => (m : Int)) (rlen (fun _ => rfl) y5))).symm
                  cases h
                  exact (Le.rename [] _ _ _ ⟨rfl, trivial⟩ trivial rfl rfl rfl rfl rfl)
                | false =>
                  replace h := bif_f hb.symm h
                  cases h
                  exact (Le.rename [] _ _ _ ⟨rfl, trivial⟩ trivial rfl rfl rfl rfl rfl)
              · show Tri _ _ _ _
                refine tri_le hle ?_
                refine tri_ret ?_
                have hy := Option.some.inj h
                subst hy
                unfold Gives
                exact ⟨_, Le.refl _ _, rfl, rfl⟩
            · replace h := bif_f hb h
              refine tri_skip ?_
              show Tri _ _ _ _
              refine tri_seq ?_
              obtain ⟨x19, hj, h⟩ := bind_out h
              refine tri_post ⟨ofL [(2, .s (.bool x19))], ofH [], 0⟩ ?_ (fun σ' hle => ?_)
              · replace h := hj
                refine tri_region tokW gok [] [55, 57, 59] rfl ?_
                intro b hb
                cases b with
                | true =>
                  replace h := bif_t hb.symm h
                  refine And.intro (show List.map brow y5 = ((List.map brow y5).map browOf).map brow from by rw [brow_back]) ?_
                  intro s20 hs20
                  obtain rfl : y5 = s20 := (hs20.trans (brow_back _)).symm
                  refine And.intro (show List.map brow y15 = ((List.map brow y15).map browOf).map brow from by rw [brow_back]) ?_
                  intro s21 hs21
                  obtain rfl : y15 = s21 := (hs21.trans (brow_back _)).symm
                  cases h
                  exact (Le.rename [] _ _ _ ⟨rfl, trivial⟩ trivial rfl rfl rfl rfl rfl)
                | false =>
                  replace h := bif_f hb.symm h
                  cases h
                  exact (Le.rename [] _ _ _ ⟨rfl, trivial⟩ trivial rfl rfl rfl rfl rfl)
              · show Tri _ _ _ _
                refine tri_le hle ?_
                refine tri_ret ?_
                have hy := Option.some.inj h
                subst hy
                unfold Gives
                exact ⟨_, Le.refl _ _, rfl, rfl⟩

/- (*vinculum/codec.reader).head -/
def enc70 (p : (List UInt8)) : List S := [.sl 1 ((List.map brow) p)]
def m37_l1 (o1 : List UInt8) (e5 : UInt8) : Nat → Int → Int → Option (Int)
| 0, _, _ => none
| k+1, x11, x12 =>
  bif decide (x12 < (((((o1.take (o1.length : Int).toNat).drop (1 : Int).toNat).take (IntKind.i64.wrap ((IntKind.i64.wrap ((IntKind.i64.wrap (IntKind.u64.wrap (bitOp .and .u8 (e5.toNat : Int) 63))) - 56)) + 1)).toNat).drop (0 : Int).toNat).length : Int)) then (
    (at? ((((o1.take (o1.length : Int).toNat).drop (1 : Int).toNat).take (IntKind.i64.wrap ((IntKind.i64.wrap ((IntKind.i64.wrap (IntKind.u64.wrap (bitOp .and .u8 (e5.toNat : Int) 63))) - 56)) + 1)).toNat).drop (0 : Int).toNat) x12).bind fun e14 =>
    m37_l1 o1 e5 k (bitOp .or .u64 (IntKind.u64.wrap (x11 * 2 ^ (min (8 : Int).toNat IntKind.u64.bits))) (IntKind.u64.wrap (e14.toNat : Int))) (IntKind.i64.wrap (x12 + 1))
  ) else (
    some x11
  )
def m37 (n : Nat) : (List UInt8) → Option (Int × Int × Bool × (List UInt8))
| o1 =>
  bif ((o1.length : Int) == 0) then (
    some (0, 0, false, o1)
  ) else (
    (at? o1 0).bind fun e3 =>
    (at? o1 0).bind fun e5 =>
    req (0 ≤ (1 : Int) ∧ (1 : Int) ≤ (o1.length : Int) ∧ (o1.length : Int) ≤ (o1.length : Int)) <|
    bif ((IntKind.i64.wrap ((e3.toNat : Int).fdiv (2 ^ (min (6 : Int).toNat IntKind.u8.bits)))) == 0) then (
      some (0, 0, false, (o1.take (o1.length : Int).toNat).drop (1 : Int).toNat)
    ) else (
      bif decide ((IntKind.u64.wrap (bitOp .and .u8 (e5.toNat : Int) 63)) < 56) then (
        some (IntKind.i64.wrap ((e3.toNat : Int).fdiv (2 ^ (min (6 : Int).toNat IntKind.u8.bits))), IntKind.u64.wrap (bitOp .and .u8 (e5.toNat : Int) 63), true, (o1.take (o1.length : Int).toNat).drop (1 : Int).toNat)
      ) else (
        bif decide ((((o1.take (o1.length : Int).toNat).drop (1 : Int).toNat).length : Int) < (IntKind.i64.wrap ((IntKind.i64.wrap ((IntKind.i64.wrap (IntKind.u64.wrap (bitOp .and .u8 (e5.toNat : Int) 63))) - 56)) + 1))) then (
          some (0, 0, false, (o1.take (o1.length : Int).toNat).drop (1 : Int).toNat)
        ) else (
          req (0 ≤ (0 : Int) ∧ (0 : Int) ≤ IntKind.i64.wrap ((IntKind.i64.wrap ((IntKind.i64.wrap (IntKind.u64.wrap (bitOp .and .u8 (e5.toNat : Int) 63))) - 56)) + 1) ∧ IntKind.i64.wrap ((IntKind.i64.wrap ((IntKind.i64.wrap (IntKind.u64.wrap (bitOp .and .u8 (e5.toNat : Int) 63))) - 56)) + 1) ≤ (((o1.take (o1.length : Int).toNat).drop (1 : Int).toNat).length : Int)) <|
          (m37_l1 o1 e5 n 0 0).bind fun x13 =>
          req (0 ≤ (IntKind.i64.wrap ((IntKind.i64.wrap ((IntKind.i64.wrap (IntKind.u64.wrap (bitOp .and .u8 (e5.toNat : Int) 63))) - 56)) + 1)) ∧ (IntKind.i64.wrap ((IntKind.i64.wrap ((IntKind.i64.wrap (IntKind.u64.wrap (bitOp .and .u8 (e5.toNat : Int) 63))) - 56)) + 1)) ≤ (((o1.take (o1.length : Int).toNat).drop (1 : Int).toNat).length : Int) ∧ (((o1.take (o1.length : Int).toNat).drop (1 : Int).toNat).length : Int) ≤ (((o1.take (o1.length : Int).toNat).drop (1 : Int).toNat).length : Int)) <|
          (
            bif decide (56 ≤ x13) then (
              (m40 n x13).bind fun y18 =>
              some (y18 == (IntKind.i64.wrap ((IntKind.i64.wrap ((IntKind.i64.wrap (IntKind.u64.wrap (bitOp .and .u8 (e5.toNat : Int) 63))) - 56)) + 1)))
            ) else (
              some false
            )
           : Option (Bool)).bind fun x17 =>
          some (IntKind.i64.wrap ((e3.toNat : Int).fdiv (2 ^ (min (6 : Int).toNat IntKind.u8.bits))), x13, x17, (((o1.take (o1.length : Int).toNat).drop (1 : Int).toNat).take (((o1.take (o1.length : Int).toNat).drop (1 : Int).toNat).length : Int).toNat).drop (IntKind.i64.wrap ((IntKind.i64.wrap ((IntKind.i64.wrap (IntKind.u64.wrap (bitOp .and .u8 (e5.toNat : Int) 63))) - 56)) + 1)).toNat)
        )
      )
    )
  )
def R37 (n : Nat) (xs : List AV) (os : List Ob) (x : AV) (os' : List (Option Ob)) : Prop := ∃ (a0 : (List UInt8)) (y0 : Int) (y1 : Int) (y2 : Bool) (z0 : (List UInt8)), m37 n a0 = some (y0, y1, y2, z0) ∧ xs = [.op 0 0] ∧ os = [.box ((enc70 a0).map .s)] ∧ x = .tup [.s (.int .i64 y0), .s (.int .u64 y1), .s (.bool y2)] ∧ os' = [some (.box ((enc70 z0).map .s))]
def S37 : PSpec := ospec (fun xs os x os' => ∃ n, R37 n xs os x os')
set_option maxHeartbeats 2000000 in
theorem ok37 : PSound Try.prog 37 S37 := by
  have gok : ∀ f s, look? f [(40, S40)] = some s → PSound Try.prog f s := look_all (by
    simp only [List.forall_mem_cons]
    exact ⟨ok40, by simp⟩)
  refine PSound.withNil (osound tokW Try.call37 Try.func37 rfl (fun xs os x os' h => by obtain ⟨n, _, _, _, _, _, _, rfl, rfl, _, rfl⟩ := h; exact ⟨by show 1 ≤ 91; decide, by show 1 ≤ 1; decide⟩) 91 rfl ?_) _
  rintro xs os x os' w0 G0 B0 ⟨n, o1, y0, y1, y2, z0, h, rfl, rfl, rfl, rfl⟩ _
  refine tri_seq ?_
  refine tri_region tokW gok [] [] rfl ?_
  show Tri _ _ _ _
  refine tri_seq ?_
  refine tri_seq ?_
  refine tri_region tokW gok [] [12] rfl ?_
  intro n2 hn2
  obtain rfl : (o1.length : Int) = n2 := (hn2.trans (congrArg (fun m : Nat => (m : Int)) (rlen (fun _ => rfl) o1))).symm
  show Tri _ _ _ _
  refine tri_cond rfl (fun hb => ?_) (fun hb => ?_)
  · replace h := bif_t hb h
    refine tri_seq ?_
    refine tri_region tokW gok [] [] rfl ?_
    show Tri _ _ _ _
    refine tri_ret ?_
    obtain ⟨hj1, hk1⟩ := Prod.mk.inj (Option.some.inj h)
    subst hj1
    obtain ⟨hj2, hk2⟩ := Prod.mk.inj hk1
    subst hj2
    obtain ⟨hj3, hk3⟩ := Prod.mk.inj hk2
    subst hj3
    subst hk3
    unfold GivesO
    exact ⟨_, (Le.rename [(0, 0)] [(2, .s (.int .i64 0)), (3, .s (.int .u64 0)), (4, .s (.bool false))] [(0, .box [.s (.sl 1 ((List.map brow) o1))])] 1 ⟨rfl, rfl, rfl, trivial⟩ ⟨rfl, ⟨_, rfl, rfl⟩, trivial⟩ rfl rfl rfl rfl rfl), rfl, rfl, rfl, rfl, trivial⟩
  · replace h := bif_f hb h
    refine tri_skip ?_
    show Tri _ _ _ _
    refine tri_seq ?_
    refine tri_drawn tokW gok mixed [] [18, 26] [3, 11] rfl (by decide +kernel) ?_
    obtain ⟨e3, he3, h⟩ := bind_out h
    refine And.intro (at_ok (fun _ => rfl) he3).1 ?_
    intro r4 hr4
    obtain rfl : [.int .u8 (e3.toNat : Int)] = r4 := (hr4.trans (at_ok (fun _ => rfl) he3).2.1).symm
    refine And.intro (by decide) ?_
    obtain ⟨e5, he5, h⟩ := bind_out h
    refine And.intro (at_ok (fun _ => rfl) he5).1 ?_
    intro r6 hr6
    obtain rfl : [.int .u8 (e5.toNat : Int)] = r6 := (hr6.trans (at_ok (fun _ => rfl) he5).2.1).symm
    show Tri _ _ _ _
    refine tri_seq ?_
    refine tri_region tokW gok [] [35] rfl ?_
    obtain ⟨hq, h⟩ := req_out h
    refine And.intro ⟨hq.1, Int.le_trans hq.2.1 (Int.ofNat_le.2 (Nat.le_of_eq (rlen (fun _ => rfl) _).symm)), Int.le_refl _⟩ ?_
    intro r7 hr7
    obtain rfl : (List.map brow) ((o1.take (o1.length : Int).toNat).drop (1 : Int).toNat) = r7 := (hr7.trans ((congrArg (fun m : Nat => (((List.map brow) o1).take m).drop (1 : Int).toNat) (rlen (fun _ => rfl) _)).trans (rcut (fun _ => rfl) _ _ _))).symm
    show Tri _ _ _ _
    refine tri_seq ?_
    refine tri_seq ?_
    refine tri_region tokW gok [] [] rfl ?_
    show Tri _ _ _ _
    refine tri_cond rfl (fun hb => ?_) (fun hb => ?_)
    · replace h := bif_t hb h
      refine tri_seq ?_
      refine tri_region tokW gok [] [] rfl ?_
      show Tri _ _ _ _
      refine tri_ret ?_
      obtain ⟨hj1, hk1⟩ := Prod.mk.inj (Option.some.inj h)
      subst hj1
      obtain ⟨hj2, hk2⟩ := Prod.mk.inj hk1
      subst hj2
      obtain ⟨hj3, hk3⟩ := Prod.mk.inj hk2
      subst hj3
      subst hk3
      unfold GivesO
      exact ⟨_, (Le.rename [(0, 0)] [(2, .s (.int .i64 0)), (3, .s (.int .u64 0)), (4, .s (.bool false))] [(0, .box [.s (.sl 1 ((List.map brow) ((o1.take (o1.length : Int).toNat).drop (1 : Int).toNat)))])] 1 ⟨rfl, rfl, rfl, trivial⟩ ⟨rfl, ⟨_, rfl, rfl⟩, trivial⟩ rfl rfl rfl rfl rfl), rfl, rfl, rfl, rfl, trivial⟩
    · replace h := bif_f hb h
      refine tri_skip ?_
      show Tri _ _ _ _
      refine tri_seq ?_
      refine tri_seq ?_
      refine tri_region tokW gok [] [] rfl ?_
      show Tri _ _ _ _
      refine tri_cond rfl (fun hb => ?_) (fun hb => ?_)
      · replace h := bif_t hb h
        refine tri_seq ?_
        refine tri_region tokW gok [] [] rfl ?_
        show Tri _ _ _ _
        refine tri_ret ?_
        obtain ⟨hj1, hk1⟩ := Prod.mk.inj (Option.some.inj h)
        subst hj1
        obtain ⟨hj2, hk2⟩ := Prod.mk.inj hk1
        subst hj2
        obtain ⟨hj3, hk3⟩ := Prod.mk.inj hk2
        subst hj3
        subst hk3
        unfold GivesO
        exact ⟨_, (Le.rename [(0, 0)] [(2, .s (.int .i64 (IntKind.i64.wrap ((e3.toNat : Int).fdiv (2 ^ (min (6 : Int).toNat IntKind.u8.bits)))))), (3, .s (.int .u64 (IntKind.u64.wrap (bitOp .and .u8 (e5.toNat : Int) 63)))), (4, .s (.bool true))] [(0, .box [.s (.sl 1 ((List.map brow) ((o1.take (o1.length : Int).toNat).drop (1 : Int).toNat)))])] 1 ⟨rfl, rfl, rfl, trivial⟩ ⟨rfl, ⟨_, rfl, rfl⟩, trivial⟩ rfl rfl rfl rfl rfl), rfl, rfl, rfl, rfl, trivial⟩
      · replace h := bif_f hb h
        refine tri_skip ?_
        show Tri _ _ _ _
        refine tri_seq ?_
        refine tri_region tokW gok [] [] rfl ?_
        show Tri _ _ _ _
        refine tri_seq ?_
        refine tri_seq ?_
        refine tri_region tokW gok [] [52] rfl ?_
        intro n8 hn8
        obtain rfl : (((o1.take (o1.length : Int).toNat).drop (1 : Int).toNat).length : Int) = n8 := (hn8.trans (congrArg (fun m : Nat => (m : Int)) (rlen (fun _ => rfl) ((o1.take (o1.length : Int).toNat).drop (1 : Int).toNat)))).symm
        show Tri _ _ _ _
        refine tri_cond rfl (fun hb => ?_) (fun hb => ?_)
        · replace h := bif_t hb h
          refine tri_seq ?_
          refine tri_region tokW gok [] [] rfl ?_
          show Tri _ _ _ _
          refine tri_ret ?_
          obtain ⟨hj1, hk1⟩ := Prod.mk.inj (Option.some.inj h)
          subst hj1
          obtain ⟨hj2, hk2⟩ := Prod.mk.inj hk1
          subst hj2
          obtain ⟨hj3, hk3⟩ := Prod.mk.inj hk2
          subst hj3
          subst hk3
          unfold GivesO
          exact ⟨_, (Le.rename [(0, 0)] [(2, .s (.int .i64 0)), (3, .s (.int .u64 0)), (4, .s (.bool false))] [(0, .box [.s (.sl 1 ((List.map brow) ((o1.take (o1.length : Int).toNat).drop (1 : Int).toNat)))])] 1 ⟨rfl, rfl, rfl, trivial⟩ ⟨rfl, ⟨_, rfl, rfl⟩, trivial⟩ rfl rfl rfl rfl rfl), rfl, rfl, rfl, rfl, trivial⟩
        · replace h := bif_f hb h
          refine tri_skip ?_
          show Tri _ _ _ _
          refine tri_seq ?_
          refine tri_region tokW gok [] [] rfl ?_
          show Tri _ _ _ _
          refine tri_seq ?_
          refine tri_seq ?_
          refine tri_region tokW gok [] [60, 61] rfl ?_
          obtain ⟨hq, h⟩ := req_out h
          refine And.intro ⟨hq.1, hq.2.1, Int.le_trans hq.2.2 (Int.ofNat_le.2 (Nat.le_of_eq (rlen (fun _ => rfl) _).symm))⟩ ?_
          intro r9 hr9
          obtain rfl : (List.map brow) ((((o1.take (o1.length : Int).toNat).drop (1 : Int).toNat).take (IntKind.i64.wrap ((IntKind.i64.wrap ((IntKind.i64.wrap (IntKind.u64.wrap (bitOp .and .u8 (e5.toNat : Int) 63))) - 56)) + 1)).toNat).drop (0 : Int).toNat) = r9 := (hr9.trans (rcut (fun _ => rfl) _ _ _)).symm
          intro n10 hn10
          obtain rfl : (((((o1.take (o1.length : Int).toNat).drop (1 : Int).toNat).take (IntKind.i64.wrap ((IntKind.i64.wrap ((IntKind.i64.wrap (IntKind.u64.wrap (bitOp .and .u8 (e5.toNat : Int) 63))) - 56)) + 1)).toNat).drop (0 : Int).toNat).length : Int) = n10 := (hn10.trans (congrArg (fun m : Nat => (m : Int)) (rlen (fun _ => rfl) ((((o1.take (o1.length : Int).toNat).drop (1 : Int).toNat).take (IntKind.i64.wrap ((IntKind.i64.wrap ((IntKind.i64.wrap (IntKind.u64.wrap (bitOp .and .u8 (e5.toNat : Int) 63))) - 56)) + 1)).toNat).drop (0 : Int).toNat)))).symm
          show Tri _ _ _ _
          obtain ⟨x13, hl, h⟩ := bind_out h
          refine tri_post ⟨ofL [(0, .op 0 0), (2, .s (.int .i64 (IntKind.i64.wrap ((e3.toNat : Int).fdiv (2 ^ (min (6 : Int).toNat IntKind.u8.bits)))))), (3, .s (.int .u64 x13)), (5, .s (.int .i64 (IntKind.i64.wrap ((IntKind.i64.wrap ((IntKind.i64.wrap (IntKind.u64.wrap (bitOp .and .u8 (e5.toNat : Int) 63))) - 56)) + 1))))], ofH [(0, .box [.s (.sl 1 ((List.map brow) ((o1.take (o1.length : Int).toNat).drop (1 : Int).toNat)))])], 1⟩ ?_ (fun σ' hle => ?_)
          · refine tri_block (tri_loopI (X := Nat × Int × Int) (fun y => match y with | (k, x11, x12) => ⟨ofL [(0, .op 0 0), (2, .s (.int .i64 (IntKind.i64.wrap ((e3.toNat : Int).fdiv (2 ^ (min (6 : Int).toNat IntKind.u8.bits)))))), (3, .s (.int .u64 x11)), (5, .s (.int .i64 (IntKind.i64.wrap ((IntKind.i64.wrap ((IntKind.i64.wrap (IntKind.u64.wrap (bitOp .and .u8 (e5.toNat : Int) 63))) - 56)) + 1)))), (60, .s (.sl 1 ((List.map brow) ((((o1.take (o1.length : Int).toNat).drop (1 : Int).toNat).take (IntKind.i64.wrap ((IntKind.i64.wrap ((IntKind.i64.wrap (IntKind.u64.wrap (bitOp .and .u8 (e5.toNat : Int) 63))) - 56)) + 1)).toNat).drop (0 : Int).toNat)))), (61, .s (.int .i64 (((((o1.take (o1.length : Int).toNat).drop (1 : Int).toNat).take (IntKind.i64.wrap ((IntKind.i64.wrap ((IntKind.i64.wrap (IntKind.u64.wrap (bitOp .and .u8 (e5.toNat : Int) 63))) - 56)) + 1)).toNat).drop (0 : Int).toNat).length : Int))), (62, .s (.int .i64 x12))], ofH [(0, .box [.s (.sl 1 ((List.map brow) ((o1.take (o1.length : Int).toNat).drop (1 : Int).toNat)))])], 1⟩) (fun y => m37_l1 o1 e5 y.1 y.2.1 y.2.2 = some x13) (fun y => y.1) (n, 0, 0) hl ?_ ?_)
            · exact (Le.rename [(0, 0)] _ _ _ ⟨rfl, rfl, rfl, rfl, rfl, rfl, rfl, trivial⟩ ⟨rfl, ⟨_, rfl, rfl⟩, trivial⟩ rfl rfl rfl rfl rfl)
            · rintro ⟨k, x11, x12⟩ h
              cases k with
              | zero => cases h
              | succ k =>
                refine tri_seq ?_
                refine tri_region tokW gok [] [] rfl ?_
                show Tri _ _ _ _
                refine tri_seq ?_
                refine tri_cond rfl (fun hb => ?_) (fun hb => ?_)
                · replace h := bif_t hb h
                  refine tri_skip ?_
                  show Tri _ _ _ _
                  refine tri_seq ?_
                  refine tri_block ?_
                  refine tri_seq ?_
                  refine tri_region tokW gok [] [64] rfl ?_
                  obtain ⟨e14, he14, h⟩ := bind_out h
                  refine And.intro (at_ok (fun _ => rfl) he14).1 ?_
                  intro r15 hr15
                  obtain rfl : [.int .u8 (e14.toNat : Int)] = r15 := (hr15.trans (at_ok (fun _ => rfl) he14).2.1).symm
                  show Tri _ _ _ _
                  refine tri_region tokW gok [] [] rfl ?_
                  refine And.intro (by decide) ?_
                  show Tri _ _ _ _
                  refine tri_region tokW gok [] [] rfl ?_
                  refine ⟨(k, bitOp .or .u64 (IntKind.u64.wrap (x11 * 2 ^ (min (8 : Int).toNat IntKind.u64.bits))) (IntKind.u64.wrap (e14.toNat : Int)), IntKind.i64.wrap (x12 + 1)), h, (Le.rename [(0, 0)] _ _ _ ⟨rfl, rfl, rfl, rfl, rfl, rfl, rfl, trivial⟩ ⟨rfl, ⟨_, rfl, rfl⟩, trivial⟩ rfl rfl rfl rfl rfl), Nat.lt_succ_self k⟩
                · replace h := bif_f hb h
                  refine tri_exit ?_
                  cases h
                  exact (Le.rename [(0, 0)] _ _ _ ⟨rfl, rfl, rfl, rfl, trivial⟩ ⟨rfl, ⟨_, rfl, rfl⟩, trivial⟩ rfl rfl rfl rfl rfl)
          · show Tri _ _ _ _
            refine tri_le hle ?_
            refine tri_seq ?_
            refine tri_region tokW gok [] [78] rfl ?_
            obtain ⟨hq, h⟩ := req_out h
            refine And.intro ⟨hq.1, Int.le_trans hq.2.1 (Int.ofNat_le.2 (Nat.le_of_eq (rlen (fun _ => rfl) _).symm)), Int.le_refl _⟩ ?_
            intro r16 hr16
            obtain rfl : (List.map brow) ((((o1.take (o1.length : Int).toNat).drop (1 : Int).toNat).take (((o1.take (o1.length : Int).toNat).drop (1 : Int).toNat).length : Int).toNat).drop (IntKind.i64.wrap ((IntKind.i64.wrap ((IntKind.i64.wrap (IntKind.u64.wrap (bitOp .and .u8 (e5.toNat : Int) 63))) - 56)) + 1)).toNat) = r16 := (hr16.trans ((congrArg (fun m : Nat => (((List.map brow) ((o1.take (o1.length : Int).toNat).drop (1 : Int).toNat)).take m).drop (IntKind.i64.wrap ((IntKind.i64.wrap ((IntKind.i64.wrap (IntKind.u64.wrap (bitOp .and .u8 (e5.toNat : Int) 63))) - 56)) + 1)).toNat) (rlen (fun _ => rfl) _)).trans (rcut (fun _ => rfl) _ _ _))).symm
            show Tri _ _ _ _
            refine tri_seq ?_
            obtain ⟨x17, hj, h⟩ := bind_out h
            refine tri_post ⟨ofL [(2, .s (.int .i64 (IntKind.i64.wrap ((e3.toNat : Int).fdiv (2 ^ (min (6 : Int).toNat IntKind.u8.bits)))))), (3, .s (.int .u64 x13)), (4, .s (.bool x17))], ofH [(0, .box [.s (.sl 1 ((List.map brow) ((((o1.take (o1.length : Int).toNat).drop (1 : Int).toNat).take (((o1.take (o1.length : Int).toNat).drop (1 : Int).toNat).length : Int).toNat).drop (IntKind.i64.wrap ((IntKind.i64.wrap ((IntKind.i64.wrap (IntKind.u64.wrap (bitOp .and .u8 (e5.toNat : Int) 63))) - 56)) + 1)).toNat)))])], 1⟩ ?_ (fun σ' hle => ?_)
            · replace h := hj
              refine tri_region tokW gok [] [85] rfl ?_
              intro b hb
              cases b with
              | true =>
                replace h := bif_t hb.symm h
                obtain ⟨y18, hy18, h⟩ := bind_out h
                refine ⟨_, ⟨_, _, _, hy18, rfl, rfl⟩, ?_⟩
                cases h
                exact (Le.rename [(0, 0)] _ _ _ ⟨rfl, rfl, rfl, trivial⟩ ⟨rfl, ⟨_, rfl, rfl⟩, trivial⟩ rfl rfl rfl rfl rfl)
              | false =>
                replace h := bif_f hb.symm h
                cases h
                exact (Le.rename [(0, 0)] _ _ _ ⟨rfl, rfl, rfl, trivial⟩ ⟨rfl, ⟨_, rfl, rfl⟩, trivial⟩ rfl rfl rfl rfl rfl)
            · show Tri _ _ _ _
              refine tri_le hle ?_
              refine tri_ret ?_
              obtain ⟨hj1, hk1⟩ := Prod.mk.inj (Option.some.inj h)
              subst hj1
              obtain ⟨hj2, hk2⟩ := Prod.mk.inj hk1
              subst hj2
              obtain ⟨hj3, hk3⟩ := Prod.mk.inj hk2
              subst hj3
              subst hk3
              unfold GivesO
              exact ⟨_, (Le.rename [(0, 0)] [(2, .s (.int .i64 (IntKind.i64.wrap ((e3.toNat : Int).fdiv (2 ^ (min (6 : Int).toNat IntKind.u8.bits)))))), (3, .s (.int .u64 x13)), (4, .s (.bool x17))] [(0, .box [.s (.sl 1 ((List.map brow) ((((o1.take (o1.length : Int).toNat).drop (1 : Int).toNat).take (((o1.take (o1.length : Int).toNat).drop (1 : Int).toNat).length : Int).toNat).drop (IntKind.i64.wrap ((IntKind.i64.wrap ((IntKind.i64.wrap (IntKind.u64.wrap (bitOp .and .u8 (e5.toNat : Int) 63))) - 56)) + 1)).toNat)))])] 1 ⟨rfl, rfl, rfl, trivial⟩ ⟨rfl, ⟨_, rfl, rfl⟩, trivial⟩ rfl rfl rfl rfl rfl), rfl, rfl, rfl, rfl, trivial⟩

/- (*vinculum/codec.reader).text -/
def m38 : (List UInt8) → Int → Option ((List UInt8) × Bool × (List UInt8))
| r1, n2 =>
  bif decide ((IntKind.u64.wrap (r1.length : Int)) < n2) then (
    some ([], false, r1)
  ) else (
    req (0 ≤ (0 : Int) ∧ (0 : Int) ≤ n2 ∧ n2 ≤ (r1.length : Int)) <|
    req (0 ≤ n2 ∧ n2 ≤ (r1.length : Int) ∧ (r1.length : Int) ≤ (r1.length : Int)) <|
    some ((r1.take n2.toNat).drop (0 : Int).toNat, true, (r1.take (r1.length : Int).toNat).drop n2.toNat)
  )
def R38 (xs : List AV) (os : List Ob) (x : AV) (os' : List (Option Ob)) : Prop := ∃ (a0 : (List UInt8)) (a1 : Int) (y0 : List UInt8) (y1 : Bool) (z0 : (List UInt8)), m38 a0 a1 = some (y0, y1, z0) ∧ xs = [.op 0 0, .s (.int .u64 a1)] ∧ os = [.box ((enc70 a0).map .s)] ∧ x = .tup [.s (.str y0), .s (.bool y1)] ∧ os' = [some (.box ((enc70 z0).map .s))]
def S38 : PSpec := ospec (fun xs os x os' => R38 xs os x os')
set_option maxHeartbeats 2000000 in
theorem ok38 : PSound Try.prog 38 S38 := by
  have gok : ∀ (f : Nat) (s : PSpec), (fun _ => none : Nat → Option PSpec) f = some s → PSound Try.prog f s := fun _ _ h => by cases h
  refine PSound.withNil (osound tokW Try.call38 Try.func38 rfl (fun xs os x os' h => by obtain ⟨_, _, _, _, _, _, rfl, rfl, _, rfl⟩ := h; exact ⟨by show 2 ≤ 32; decide, by show 1 ≤ 1; decide⟩) 32 rfl ?_) _
  rintro xs os x os' w0 G0 B0 ⟨r1, n2, y0, y1, z0, h, rfl, rfl, rfl, rfl⟩ _
  refine tri_seq ?_
  refine tri_region tokW gok [] [] rfl ?_
  show Tri _ _ _ _
  refine tri_seq ?_
  refine tri_seq ?_
  refine tri_region tokW gok [] [12] rfl ?_
  intro n3 hn3
  obtain rfl : (r1.length : Int) = n3 := (hn3.trans (congrArg (fun m : Nat => (m : Int)) (rlen (fun _ => rfl) r1))).symm
  show Tri _ _ _ _
  refine tri_cond rfl (fun hb => ?_) (fun hb => ?_)
  · replace h := bif_t hb h
    refine tri_seq ?_
    refine tri_region tokW gok [] [] rfl ?_
    show Tri _ _ _ _
    refine tri_ret ?_
    obtain ⟨hj1, hk1⟩ := Prod.mk.inj (Option.some.inj h)
    subst hj1
    obtain ⟨hj2, hk2⟩ := Prod.mk.inj hk1
    subst hj2
    subst hk2
    unfold GivesO
    exact ⟨_, (Le.rename [(0, 0)] [(4, .s (.str [])), (5, .s (.bool false))] [(0, .box [.s (.sl 1 ((List.map brow) r1))])] 1 ⟨rfl, rfl, trivial⟩ ⟨rfl, ⟨_, rfl, rfl⟩, trivial⟩ rfl rfl rfl rfl rfl), rfl, rfl, rfl, rfl, trivial⟩
  · replace h := bif_f hb h
    refine tri_skip ?_
    show Tri _ _ _ _
    refine tri_seq ?_
    refine tri_region tokW gok [] [20, 21] rfl ?_
    obtain ⟨hq, h⟩ := req_out h
    refine And.intro ⟨hq.1, hq.2.1, Int.le_trans hq.2.2 (Int.ofNat_le.2 (Nat.le_of_eq (rlen (fun _ => rfl) _).symm))⟩ ?_
    intro r4 hr4
    obtain rfl : (List.map brow) ((r1.take n2.toNat).drop (0 : Int).toNat) = r4 := (hr4.trans (rcut (fun _ => rfl) _ _ _)).symm
    refine And.intro (show List.map brow ((r1.take n2.toNat).drop (0 : Int).toNat) = ((List.map brow ((r1.take n2.toNat).drop (0 : Int).toNat)).map browOf).map brow from by rw [brow_back]) ?_
    intro s5 hs5
    obtain rfl : (r1.take n2.toNat).drop (0 : Int).toNat = s5 := (hs5.trans (brow_back _)).symm
    show Tri _ _ _ _
    refine tri_seq ?_
    refine tri_region tokW gok [] [28] rfl ?_
    obtain ⟨hq, h⟩ := req_out h
    refine And.intro ⟨hq.1, Int.le_trans hq.2.1 (Int.ofNat_le.2 (Nat.le_of_eq (rlen (fun _ => rfl) _).symm)), Int.le_refl _⟩ ?_
    intro r6 hr6
    obtain rfl : (List.map brow) ((r1.take (r1.length : Int).toNat).drop n2.toNat) = r6 := (hr6.trans ((congrArg (fun m : Nat => (((List.map brow) r1).take m).drop n2.toNat) (rlen (fun _ => rfl) _)).trans (rcut (fun _ => rfl) _ _ _))).symm
    show Tri _ _ _ _
    refine tri_seq ?_
    refine tri_region tokW gok [] [] rfl ?_
    show Tri _ _ _ _
    refine tri_ret ?_
    obtain ⟨hj1, hk1⟩ := Prod.mk.inj (Option.some.inj h)
    subst hj1
    obtain ⟨hj2, hk2⟩ := Prod.mk.inj hk1
    subst hj2
    subst hk2
    unfold GivesO
    exact ⟨_, (Le.rename [(0, 0)] [(4, .s (.str ((r1.take n2.toNat).drop (0 : Int).toNat))), (5, .s (.bool true))] [(0, .box [.s (.sl 1 ((List.map brow) ((r1.take (r1.length : Int).toNat).drop n2.toNat)))])] 1 ⟨rfl, rfl, trivial⟩ ⟨rfl, ⟨_, rfl, rfl⟩, trivial⟩ rfl rfl rfl rfl rfl), rfl, rfl, rfl, rfl, trivial⟩

end Go.Proofs.Ytjjljekedgdnnaa
