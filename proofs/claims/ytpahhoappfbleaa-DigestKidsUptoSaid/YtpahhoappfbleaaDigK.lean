/-
  THE DIGEST, PART K: Tree on both sides, and the laws of trees, their functions.
-/
import Derived.Test.YtpahhoappfbleaaDigJ
set_option linter.unusedVariables false
namespace Go.Proofs.Ytpahhoappfbleaa
open Go.Abs

def refTreeR (n : Nat) (xs : List AV) (r : Ret) : Prop := ∃ t : RN, t.h < n ∧ t.ok 1048576 ∧ xs = [.agg (t.enc.map .s)] ∧ r = .val (.s (.int .u64 t.dig))

theorem top_ok : PSound Try.prog 17 (pspec fun xs r => ∃ n, refTreeR n xs r) := by
  have gok : ∀ f s, look? f [(21, treeS)] = some s → PSound Try.prog f s := look_all (by
    simp only [List.forall_mem_cons]
    exact ⟨tree_ok, by simp⟩)
  refine psound tok Try.call17 Try.func17 rfl (fun xs r h => by obtain ⟨n, t, _, _, rfl, _⟩ := h; show 1 ≤ 4; decide) 4 rfl ?_
  rintro xs r w0 G0 ⟨n, ⟨k, text, c, kids⟩, hh, hok, rfl, rfl⟩ _
  refine tri_seq (tri_region tok gok [] [] rfl ?_)
  show Tri _ _ _ _
  refine tri_seq (tri_region tok gok [] [] rfl ?_)
  refine ⟨_, ⟨n, RN.mk k text c kids, hh, hok, rfl, rfl⟩, ?_⟩
  show Tri _ _ _ _
  refine tri_ret ?_
  unfold Gives
  exact ⟨_, Le.refl _ _, rfl, rfl⟩

set_option maxHeartbeats 1000000 in
theorem refTree_step (n : Nat) (ih : PSound Try.prog 18 (pspec (refTreeR n))) : PSound Try.prog 18 (pspec (refTreeR (n + 1))) := by
  have gok : ∀ f s, look? f [(15, joinS), (18, pspec (refTreeR n))] = some s → PSound Try.prog f s := look_all (by
    simp only [List.forall_mem_cons]
    exact ⟨refJoin_ok, ih, by simp⟩)
  refine psound tok Try.call18 Try.func18 rfl (fun xs r h => by obtain ⟨t, _, _, rfl, _⟩ := h; show 1 ≤ 29; decide) 29 rfl ?_
  rintro xs r w0 G0 ⟨⟨k, text, c, kids⟩, hh, ⟨ht, hk, hks⟩, rfl, rfl⟩ _
  have hlen := RN.encs_length kids
  refine tri_seq (tri_region tok gok [] [] rfl ?_)
  show Tri _ _ _ _
  refine tri_seq (tri_region tok gok [3] [] rfl ?_)
  show Tri _ _ _ _
  refine tri_seq (tri_seq (tri_region tok gok [] [] rfl ?_))
  show Tri _ _ _ _
  refine tri_block (tri_loopI (X := Nat) (fun i => ⟨ofL [(1, .s (.pt (RN.mk k text c kids).enc)), (3, .orow 0), (4, .s (.int .i64 (i : Int)))], ofH [(0, .row 22 1 ((sofar kids i).map (irow .u64)))], 1⟩)
    (fun i => i ≤ kids.length) (fun i => kids.length - i) 0 (Nat.zero_le _) ?_ ?_)
  · exact Le.rename [(0, 0)] [(1, .s (.pt (RN.mk k text c kids).enc)), (3, .orow 0), (4, .s (.int .i64 ((0 : Nat) : Int)))] _ _ ⟨rfl, rfl, rfl, trivial⟩ ⟨rfl, ⟨_, rfl, rfl⟩, trivial⟩ rfl rfl rfl rfl rfl
  · intro i hi
    refine tri_seq (tri_seq (tri_region tok gok [] [] rfl ?_))
    show Tri _ _ _ _
    refine tri_cond rfl (fun hb => ?_) (fun hb => ?_)
    · refine tri_skip ?_
      show Tri _ _ _ _
      have hi : i < kids.length := by
        have : (i : Int) < ((RN.encs kids).length : Int) := by simpa using hb
        omega
      refine tri_seq (tri_block (tri_region tok gok [20] [16] rfl ?_))
      refine And.intro ⟨by omega, by rw [hlen]; simpa using hi⟩ ?_
      intro row hrow
      obtain ⟨k2, t2, c2, ks2, hq⟩ : ∃ k2 t2 c2 ks2, kids[i] = RN.mk k2 t2 c2 ks2 := by cases kids[i]; exact ⟨_, _, _, _, rfl⟩
      obtain rfl : row = (RN.mk k2 t2 c2 ks2).enc := (hrow.trans (RN.encs_get hi)).trans (by rw [hq])
      have h1 := RN.hs_mem hi
      simp only [RN.h] at hh
      refine ⟨_, ⟨RN.mk k2 t2 c2 ks2, by rw [← hq]; omega, by rw [← hq]; exact RN.oks_mem hi hks, rfl, rfl⟩, ?_⟩
      have hsl := sofar_length (ks := kids) (Nat.le_of_lt hi)
      refine And.intro (show (((sofar kids i).map (irow .u64)).length + 1) * 8 ≤ 140737488355328 ∧ ((sofar kids i).map (irow .u64)).length + 1 ≤ 9223372036854775807 from ⟨by rw [List.length_map]; omega, by rw [List.length_map]; omega⟩) ?_
      show Tri _ _ _ _
      refine tri_region tok gok [] [] rfl ?_
      refine ⟨i + 1, hi, ?_, by show kids.length - (i + 1) < kids.length - i; omega⟩
      refine Le.rename [(1, 0)] _ _ _ ⟨rfl, rfl, ?_, trivial⟩ ⟨rfl, ⟨_, rfl, ?_⟩, trivial⟩ rfl rfl rfl rfl rfl
      · exact congrArg (fun n => AV.s (.int .i64 n)) (wrap64_in (by omega) (by omega))
      · refine congrArg (fun r => Ob.row 22 1 r) (show (sofar kids i).map (irow .u64) ++ [irow .u64 (RN.mk k2 t2 c2 ks2).dig] = _ from ?_)
        rw [sofar_next hi, hq, List.map_append]; rfl
    · refine tri_exit ?_
      show Tri _ _ _ _
      have hi' : i = kids.length := by
        have : ¬ (i : Int) < ((RN.encs kids).length : Int) := by simpa using hb
        omega
      subst hi'
      refine tri_seq (tri_region tok gok [] [] rfl ?_)
      refine ⟨_, ⟨k, text, c, RN.digs kids, ht, by rw [RN.digs_eq]; simpa using hk, ?_, rfl⟩, ?_⟩
      · refine (show _ = [AV.s (.int .i64 k), AV.s (.str text), AV.s (.int .i64 c), AV.s (.sl 1 ((sofar kids kids.length).map (irow .u64)))] from rfl).trans ?_
        rw [sofar_all]
      show Tri _ _ _ _
      refine tri_ret ?_
      unfold Gives
      exact ⟨_, Le.refl _ _, rfl, rfl⟩

theorem refTree_all : ∀ n, PSound Try.prog 18 (pspec (refTreeR n)) := by
  intro n
  induction n with
  | zero => exact ⟨Try.call18, fun G w xs vs r _ _ _ ⟨t, h, _⟩ => absurd h (Nat.not_lt_zero _), fun R hR => by cases hR⟩
  | succ n ih => exact refTree_step n ih
def wholeS : PSpec := pspec fun xs r => ∃ n, refTreeR n xs r
theorem refTree_ok : PSound Try.prog 18 wholeS := psound_all refTree_all

def spec6 : List (Nat × PSpec) := [(9, awakeS), (14, joinS), (16, sizeS), (17, wholeS), (18, wholeS)]
theorem gok6 : ∀ f s, look? f spec6 = some s → PSound Try.prog f s := look_all (by
  simp only [spec6, List.forall_mem_cons]
  exact ⟨awake_ok, join_ok, size_ok, top_ok, refTree_ok, by simp⟩)

def lawTreeS : PSpec := pspec fun xs r => ∃ t : RN, t.ok 1048576 ∧ xs = [.agg (t.enc.map .s)] ∧ r = .val (.s (.bool true))

theorem lawTree_ok : PSound Try.prog 7 lawTreeS := by
  refine psound tok Try.call7 Try.func7 rfl (fun xs r h => by obtain ⟨t, _, rfl, _⟩ := h; show 1 ≤ 16; decide) 16 rfl ?_
  rintro xs r w0 G0 ⟨⟨k, text, c, kids⟩, hok, rfl, rfl⟩ _
  refine tri_seq (tri_region tok gok6 [] [] rfl ?_)
  show Tri _ _ _ _
  refine tri_seq (tri_seq (tri_region tok gok6 [] [8] rfl ?_))
  refine ⟨_, ⟨rfl, rfl⟩, ?_⟩
  refine ⟨_, ⟨(RN.mk k text c kids).h + 1, RN.mk k text c kids, 201, Nat.lt_succ_self _, hok, rfl, rfl⟩, ?_⟩
  intro b hb
  cases b with
  | true =>
    show Tri _ _ _ _
    refine tri_cond rfl (fun _ => ?_) (fun h => by cases h)
    refine tri_seq (tri_region tok gok6 [] [] rfl ?_)
    refine ⟨_, ⟨rfl, rfl⟩, ?_⟩
    show Tri _ _ _ _
    refine tri_ret ?_
    unfold Gives
    exact ⟨_, Le.refl _ _, rfl, rfl⟩
  | false =>
    show Tri _ _ _ _
    refine tri_cond rfl (fun h => by cases h) (fun _ => ?_)
    refine tri_skip ?_
    show Tri _ _ _ _
    refine tri_seq (tri_drawn tok gok6 mixed [] [] [] rfl (by decide +kernel) ?_)
    refine ⟨_, ⟨_, RN.mk k text c kids, Nat.lt_succ_self _, hok, rfl, rfl⟩, ?_⟩
    refine ⟨_, ⟨_, RN.mk k text c kids, Nat.lt_succ_self _, hok, rfl, rfl⟩, ?_⟩
    show Tri _ _ _ _
    refine tri_ret ?_
    unfold Gives
    exact ⟨_, Le.refl _ _, congrArg (fun b => some (AV.s (.bool b))) (eq_true (RN.mk k text c kids).dig), rfl⟩
end Go.Proofs.Ytpahhoappfbleaa
