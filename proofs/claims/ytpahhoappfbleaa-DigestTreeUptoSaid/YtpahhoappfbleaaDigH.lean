/-
  THE DIGEST, PART H: Join of the reference, and the law of Join, their functions.
-/
import Derived.Test.YtpahhoappfbleaaDigG
set_option linter.unusedVariables false
namespace Go.Proofs.Ytpahhoappfbleaa
open Go.Abs

set_option maxHeartbeats 2000000 in
theorem refJoin_ok : PSound Try.prog 15 joinS := by
  refine psound tok Try.call15 Try.func15 rfl (fun xs r h => by obtain ⟨k, t, c, ks, _, _, rfl, _⟩ := h; show 4 ≤ 47; decide) 47 rfl ?_
  rintro xs r w0 G0 ⟨k, text, cols, kids, ht, hk, rfl, rfl⟩ _
  refine tri_seq (tri_region tok gok4 [] [] rfl ?_)
  show Tri _ _ _ _
  refine tri_seq (tri_region tok gok4 [13, 17, 18] [] rfl ?_)
  refine ⟨_, ⟨u64 k, rfl, rfl⟩, ?_⟩
  refine ⟨_, ⟨u64 (text.length : Int), rfl, rfl⟩, ?_⟩
  refine And.intro (by simp [eight_length]) ?_
  show Tri _ _ _ _
  refine tri_seq (tri_region tok gok4 [21] [] rfl ?_)
  refine And.intro (by simp [eight_length]; omega) ?_
  show Tri _ _ _ _
  refine tri_le (Le.rename [(3, 0)] [(2, .s (.int .i64 cols)), (3, .s (.sl 1 (kids.map (irow .u64)))), (9, .orow 0)] [(0, .row 5 1 ((eight (u64 k) ++ eight (u64 (text.length : Int)) ++ text).map brow))] 1 ⟨rfl, rfl, rfl, trivial⟩
    ⟨rfl, ⟨_, rfl, congrArg (fun r => Ob.row 5 1 r) (show (eight (u64 k)).map brow ++ (eight (u64 (text.length : Int))).map brow ++ text.map brow = _ by simp)⟩, trivial⟩ rfl rfl rfl rfl rfl) ?_
  refine tri_seq (tri_region tok gok4 [25, 26, 30, 31] [] rfl ?_)
  refine ⟨_, ⟨u64 cols, rfl, rfl⟩, ?_⟩
  refine And.intro (by simp [eight_length]; omega) ?_
  refine ⟨_, ⟨u64 ((kids.map (irow .u64)).length : Int), rfl, rfl⟩, ?_⟩
  refine And.intro (by simp [eight_length]; omega) ?_
  show Tri _ _ _ _
  refine tri_seq (tri_seq (tri_region tok gok4 [] [] rfl ?_))
  show Tri _ _ _ _
  refine tri_block (tri_loopI (X := Nat) (fun i => ⟨ofL [(3, .s (.sl 1 (kids.map (irow .u64)))), (9, .orow 0), (10, .s (.int .i64 (i : Int)))], ofH [(0, .row 5 1 ((before k text cols kids.length ++ (kids.take i).flatMap eight).map brow))], 1⟩)
    (fun i => i ≤ kids.length) (fun i => kids.length - i) 0 (Nat.zero_le _) ?_ ?_)
  · refine Le.rename [(4, 0)] [(3, .s (.sl 1 (kids.map (irow .u64)))), (9, .orow 0), (10, .s (.int .i64 ((0 : Nat) : Int)))] _ _ ⟨rfl, rfl, rfl, trivial⟩ ⟨rfl, ⟨_, rfl, ?_⟩, trivial⟩ rfl rfl rfl rfl rfl
    exact congrArg (fun r => Ob.row 5 1 r) (show (eight (u64 k) ++ eight (u64 (text.length : Int)) ++ text).map brow ++ (eight (u64 cols)).map brow ++ (eight (u64 ((kids.map (irow .u64)).length : Int))).map brow = _ by simp [before])
  · intro i hi
    refine tri_seq (tri_seq (tri_region tok gok4 [] [] rfl ?_))
    show Tri _ _ _ _
    refine tri_cond rfl (fun hb => ?_) (fun hb => ?_)
    · refine tri_skip ?_
      show Tri _ _ _ _
      have hi : i < kids.length := by
        have : (i : Int) < kids.length := by simpa using hb
        omega
      refine tri_seq (tri_block (tri_region tok gok4 [43, 44] [41] rfl ?_))
      refine And.intro ⟨by omega, by simpa using hi⟩ ?_
      intro row hrow
      obtain rfl : row = irow .u64 kids[i] := by simpa [List.getElem?_eq_getElem hi] using hrow
      refine ⟨_, ⟨kids[i], rfl, rfl⟩, ?_⟩
      have h1 := before_length k text cols kids.length
      have h2 := flat_length (kids.take i)
      have h3 : (kids.take i).length ≤ kids.length := by simp; omega
      have h4 : ((before k text cols kids.length ++ (kids.take i).flatMap eight).map brow).length + ((eight kids[i]).map brow).length ≤ 16777216 := by
        rw [List.length_map, List.length_map, List.length_append, eight_length]; omega
      refine And.intro (show (((before k text cols kids.length ++ (kids.take i).flatMap eight).map brow).length + ((eight kids[i]).map brow).length) * 1 ≤ 140737488355328 ∧ ((before k text cols kids.length ++ (kids.take i).flatMap eight).map brow).length + ((eight kids[i]).map brow).length ≤ 9223372036854775807 from ⟨by omega, by omega⟩) ?_
      show Tri _ _ _ _
      refine tri_region tok gok4 [] [] rfl ?_
      refine ⟨i + 1, hi, ?_, by show kids.length - (i + 1) < kids.length - i; omega⟩
      refine Le.rename [(2, 0)] _ _ _ ⟨rfl, rfl, ?_, trivial⟩ ⟨rfl, ⟨_, rfl, ?_⟩, trivial⟩ rfl rfl rfl rfl rfl
      · exact congrArg (fun n => AV.s (.int .i64 n)) (wrap64_in (by omega) (by omega))
      · refine congrArg (fun r => Ob.row 5 1 r) (show (before k text cols kids.length ++ (kids.take i).flatMap eight).map brow ++ (eight kids[i]).map brow = _ from ?_)
        rw [← List.take_append_getElem hi, List.flatMap_append]
        simp
    · refine tri_exit ?_
      show Tri _ _ _ _
      have hi' : i = kids.length := by
        have : ¬ (i : Int) < kids.length := by simpa using hb
        omega
      subst hi'
      refine tri_seq (tri_region tok gok4 [] [] rfl ?_)
      refine ⟨_, ⟨joined k text cols kids, ?_, ?_, rfl⟩, ?_⟩
      · have h1 := before_length k text cols kids.length
        have h2 := flat_length kids
        rw [joined, List.length_append]; omega
      · refine (show _ = [AV.s (.sl 1 ((before k text cols kids.length ++ (kids.take kids.length).flatMap eight).map brow))] from rfl).trans ?_
        rw [List.take_length]; rfl
      show Tri _ _ _ _
      refine tri_ret ?_
      unfold Gives
      exact ⟨_, Le.refl _ _, rfl, rfl⟩

def spec5 : List (Nat × PSpec) := [(9, awakeS), (10, bytesS), (11, bytesS), (12, updateS), (13, updateS), (14, joinS), (15, joinS)]
theorem gok5 : ∀ f s, look? f spec5 = some s → PSound Try.prog f s := look_all (by
  simp only [spec5, List.forall_mem_cons]
  exact ⟨awake_ok, bytes_ok, refBytes_ok, update_ok, refUpdate_ok, join_ok, refJoin_ok, by simp⟩)

def lawJoinS : PSpec := pspec fun xs r => ∃ (k : Int) (text : List UInt8) (cols : Int) (kids : List Int), text.length ≤ 1048576 ∧ kids.length ≤ 1048576 ∧
  xs = [.agg [.s (.int .i64 k), .s (.int .i64 cols)], .s (.str text), .s (.sl 1 (kids.map (irow .u64)))] ∧ r = .val (.s (.bool true))

theorem lawJoin_ok : PSound Try.prog 6 lawJoinS := by
  refine psound tok Try.call6 Try.func6 rfl (fun xs r h => by obtain ⟨k, t, c, ks, _, _, rfl, _⟩ := h; show 3 ≤ 25; decide) 25 rfl ?_
  rintro xs r w0 G0 ⟨k, text, cols, kids, ht, hk, rfl, rfl⟩ _
  refine tri_seq (tri_region tok gok5 [] [] rfl ?_)
  show Tri _ _ _ _
  refine tri_seq (tri_drawn tok gok5 mixed [] [] [] rfl (by decide +kernel) ?_)
  refine ⟨_, ⟨rfl, rfl⟩, ?_⟩
  refine And.intro (by decide) ?_
  refine And.intro (by decide) ?_
  refine ⟨_, ⟨k, text, cols, kids, ht, hk, rfl, rfl⟩, ?_⟩
  refine And.intro (by decide) ?_
  refine And.intro (by decide) ?_
  refine ⟨_, ⟨k, text, cols, kids, ht, hk, rfl, rfl⟩, ?_⟩
  show Tri _ _ _ _
  refine tri_ret ?_
  unfold Gives
  exact ⟨_, Le.refl _ _, congrArg (fun b => some (AV.s (.bool b))) (eq_true (upd start0 (joined k text cols kids))), rfl⟩
end Go.Proofs.Ytpahhoappfbleaa
