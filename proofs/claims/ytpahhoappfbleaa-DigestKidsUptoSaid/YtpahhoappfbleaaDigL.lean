/-
  THE DIGEST, PART L: the law of kids, its function.
-/
import Derived.Test.YtpahhoappfbleaaDigK
set_option linter.unusedVariables false
namespace Go.Proofs.Ytpahhoappfbleaa
open Go.Abs

theorem RN.dig_eq (k : Int) (t : List UInt8) (c : Int) (ks : List RN) : (RN.mk k t c ks).dig = upd start0 (joined k t c (RN.digs ks)) := by
  simp only [RN.dig]

set_option maxHeartbeats 1000000 in
theorem lawKids_ok : PSound Try.prog 8 lawTreeS := by
  refine psound tok Try.call8 Try.func8 rfl (fun xs r h => by obtain ⟨t, _, rfl, _⟩ := h; show 1 ≤ 38; decide) 38 rfl ?_
  rintro xs r w0 G0 ⟨⟨k, text, c, kids⟩, hok, rfl, rfl⟩ _
  obtain ⟨ht, hk, hks⟩ := id hok
  have hlen := RN.encs_length kids
  refine tri_seq (tri_region tok gok6 [] [] rfl ?_)
  show Tri _ _ _ _
  refine tri_seq (tri_seq (tri_region tok gok6 [] [11] rfl ?_))
  refine ⟨_, ⟨rfl, rfl⟩, ?_⟩
  refine ⟨_, ⟨(RN.mk k text c kids).h + 1, RN.mk k text c kids, 201, Nat.lt_succ_self _, hok, rfl, rfl⟩, ?_⟩
  intro b hb
  cases b with
  | true =>
    show Tri _ _ _ _
    refine tri_cond rfl (fun _ => ?_) (fun h => by cases h)
    refine tri_seq (tri_region tok gok6 [] [] rfl ?_)
    refine ⟨_, ⟨rfl, rfl⟩, ?_⟩
    show Tri _ _ _ _
    refine tri_ret ?_
    unfold Gives
    exact ⟨_, Le.refl _ _, rfl, rfl⟩
  | false =>
    show Tri _ _ _ _
    refine tri_cond rfl (fun h => by cases h) (fun _ => ?_)
    refine tri_skip ?_
    show Tri _ _ _ _
    refine tri_seq (tri_region tok gok6 [3] [] rfl ?_)
    show Tri _ _ _ _
    refine tri_seq (tri_seq (tri_region tok gok6 [] [] rfl ?_))
    show Tri _ _ _ _
    refine tri_block (tri_loopI (X := Nat) (fun i => ⟨ofL [(1, .s (.pt (RN.mk k text c kids).enc)), (3, .orow 0), (15, .s (.sl 4 (RN.encs kids))), (16, .s (.int .i64 (kids.length : Int))), (17, .s (.int .i64 (i : Int)))], ofH [(0, .row 22 1 ((sofar kids i).map (irow .u64)))], 1⟩)
      (fun i => i ≤ kids.length) (fun i => kids.length - i) 0 (Nat.zero_le _) ?_ ?_)
    · refine Le.rename [(0, 0)] [(1, .s (.pt (RN.mk k text c kids).enc)), (3, .orow 0), (15, .s (.sl 4 (RN.encs kids))), (16, .s (.int .i64 (kids.length : Int))), (17, .s (.int .i64 ((0 : Nat) : Int)))] _ _ ⟨rfl, rfl, rfl, ?_, rfl, trivial⟩ ⟨rfl, ⟨_, rfl, rfl⟩, trivial⟩ rfl rfl rfl rfl rfl
      exact congrArg (fun n : Nat => AV.s (.int .i64 n)) hlen
    · intro i hi
      refine tri_seq (tri_region tok gok6 [] [] rfl ?_)
      show Tri _ _ _ _
      refine tri_seq (tri_cond rfl (fun hb => ?_) (fun hb => ?_))
      · refine tri_skip ?_
        show Tri _ _ _ _
        have hi : i < kids.length := by
          have : (i : Int) < kids.length := by simpa using hb
          omega
        refine tri_seq (tri_block (tri_seq (tri_region tok gok6 [5] [19] rfl ?_)))
        refine And.intro ⟨by omega, by rw [hlen]; simpa using hi⟩ ?_
        intro row hrow
        obtain ⟨k2, t2, c2, ks2, hq⟩ : ∃ k2 t2 c2 ks2, kids[i] = RN.mk k2 t2 c2 ks2 := by cases kids[i]; exact ⟨_, _, _, _, rfl⟩
        obtain rfl : row = (RN.mk k2 t2 c2 ks2).enc := (hrow.trans (RN.encs_get hi)).trans (by rw [hq])
        show Tri _ _ _ _
        refine tri_region tok gok6 [25] [] rfl ?_
        refine ⟨_, ⟨_, RN.mk k2 t2 c2 ks2, Nat.lt_succ_self _, by rw [← hq]; exact RN.oks_mem hi hks, rfl, rfl⟩, ?_⟩
        have hsl := sofar_length (ks := kids) (Nat.le_of_lt hi)
        refine And.intro (show (((sofar kids i).map (irow .u64)).length + 1) * 8 ≤ 140737488355328 ∧ ((sofar kids i).map (irow .u64)).length + 1 ≤ 9223372036854775807 from ⟨by rw [List.length_map]; omega, by rw [List.length_map]; omega⟩) ?_
        show Tri _ _ _ _
        refine tri_region tok gok6 [] [] rfl ?_
        refine ⟨i + 1, hi, ?_, by show kids.length - (i + 1) < kids.length - i; omega⟩
        refine Le.rename [(2, 0)] _ _ _ ⟨rfl, rfl, rfl, rfl, ?_, trivial⟩ ⟨rfl, ⟨_, rfl, ?_⟩, trivial⟩ rfl rfl rfl rfl rfl
        · exact congrArg (fun n => AV.s (.int .i64 n)) (wrap64_in (by omega) (by omega))
        · refine congrArg (fun r => Ob.row 22 1 r) (show (sofar kids i).map (irow .u64) ++ [irow .u64 (RN.mk k2 t2 c2 ks2).dig] = _ from ?_)
          rw [sofar_next hi, hq, List.map_append]; rfl
      · refine tri_exit ?_
        show Tri _ _ _ _
        have hi' : i = kids.length := by
          have : ¬ (i : Int) < kids.length := by simpa using hb
          omega
        subst hi'
        refine tri_seq (tri_drawn tok gok6 mixed [] [] [9] rfl (by decide +kernel) ?_)
        refine ⟨_, ⟨_, RN.mk k text c kids, Nat.lt_succ_self _, hok, rfl, rfl⟩, ?_⟩
        refine ⟨_, ⟨k, text, c, RN.digs kids, ht, by rw [RN.digs_eq]; simpa using hk, ?_, rfl⟩, ?_⟩
        · refine (show _ = [AV.s (.int .i64 k), AV.s (.str text), AV.s (.int .i64 c), AV.s (.sl 1 ((sofar kids kids.length).map (irow .u64)))] from rfl).trans ?_
          rw [sofar_all]
        show Tri _ _ _ _
        refine tri_ret ?_
        unfold Gives
        exact ⟨_, Le.refl _ _, congrArg (fun b => some (AV.s (.bool b))) (show decide ((RN.mk k text c kids).dig = upd start0 (joined k text c (RN.digs kids))) = true by rw [RN.dig_eq]; simp), rfl⟩
end Go.Proofs.Ytpahhoappfbleaa
