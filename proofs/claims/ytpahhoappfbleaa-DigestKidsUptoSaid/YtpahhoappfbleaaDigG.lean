/-
  THE DIGEST, PART G: Join on both sides, and the law of Join, their functions.
-/
import Derived.Test.YtpahhoappfbleaaDigE
import Derived.Test.YtpahhoappfbleaaDigF
set_option linter.unusedVariables false
namespace Go.Proofs.Ytpahhoappfbleaa
open Go.Abs

def u64 (n : Int) : Int := IntKind.u64.wrap n
def before (k : Int) (text : List UInt8) (cols : Int) (m : Nat) : List UInt8 := eight (u64 k) ++ eight (u64 (text.length : Int)) ++ text ++ eight (u64 cols) ++ eight (u64 (m : Int))
def joined (k : Int) (text : List UInt8) (cols : Int) (kids : List Int) : List UInt8 := before k text cols kids.length ++ kids.flatMap eight

def joinS : PSpec := pspec fun xs r => ∃ (k : Int) (text : List UInt8) (cols : Int) (kids : List Int), text.length ≤ 1048576 ∧ kids.length ≤ 1048576 ∧
  xs = [.s (.int .i64 k), .s (.str text), .s (.int .i64 cols), .s (.sl 1 (kids.map (irow .u64)))] ∧ r = .val (.s (.int .u64 (upd start0 (joined k text cols kids))))

def spec4 : List (Nat × PSpec) := [(9, awakeS), (10, bytesS), (11, bytesS), (12, updateS), (13, updateS), (19, numberS), (20, eightS)]
theorem gok4 : ∀ f s, look? f spec4 = some s → PSound Try.prog f s := look_all (by
  simp only [spec4, List.forall_mem_cons]
  exact ⟨awake_ok, bytes_ok, refBytes_ok, update_ok, refUpdate_ok, number_ok, eight_ok, by simp⟩)

theorem before_length (k : Int) (text : List UInt8) (cols : Int) (m : Nat) : (before k text cols m).length = text.length + 32 := by
  simp [before, eight_length]; omega
theorem flat_length (kids : List Int) : (kids.flatMap eight).length = 8 * kids.length := by
  induction kids with
  | nil => rfl
  | cons a l ih => rw [List.flatMap_cons, List.length_append, ih, eight_length, List.length_cons]; omega

theorem wlen {n : Nat} (h : n ≤ 1048576) : IntKind.i64.wrap (n : Int) = n := wrap64_in (by omega) (by omega)

set_option maxHeartbeats 2000000 in
theorem join_ok : PSound Try.prog 14 joinS := by
  refine psound tok Try.call14 Try.func14 rfl (fun xs r h => by obtain ⟨k, t, c, ks, _, _, rfl, _⟩ := h; show 4 ≤ 53; decide) 53 rfl ?_
  rintro xs r w0 G0 ⟨k, text, cols, kids, ht, hk, rfl, rfl⟩ _
  refine tri_seq (tri_region tok gok4 [] [] rfl ?_)
  show Tri _ _ _ _
  have hcap : IntKind.i64.wrap (IntKind.i64.wrap (32 + (text.length : Int)) + IntKind.i64.wrap (8 * ((kids.map (irow .u64)).length : Int))) = 32 + (text.length : Int) + 8 * (kids.length : Int) := by
    rw [List.length_map, wrap64_in (n := 32 + (text.length : Int)) (by omega) (by omega), wrap64_in (n := 8 * (kids.length : Int)) (by omega) (by omega), wrap64_in (by omega) (by omega)]
  refine tri_seq (tri_region tok gok4 [19] [] rfl ?_)
  refine And.intro (by
    show (0 : Int) ≤ 0 ∧ (0 : Int) ≤ IntKind.i64.wrap (IntKind.i64.wrap (32 + (text.length : Int)) + IntKind.i64.wrap (8 * ((kids.map (irow .u64)).length : Int))) ∧ IntKind.i64.wrap (IntKind.i64.wrap (32 + (text.length : Int)) + IntKind.i64.wrap (8 * ((kids.map (irow .u64)).length : Int))) * ((1 : Nat) : Int) ≤ 281474976710656 ∧ IntKind.i64.wrap (IntKind.i64.wrap (32 + (text.length : Int)) + IntKind.i64.wrap (8 * ((kids.map (irow .u64)).length : Int))) ≤ 281474976710656
    rw [hcap]; omega) ?_
  show Tri _ _ _ _
  refine tri_seq (tri_region tok gok4 [] [] rfl ?_)
  refine ⟨_, _, ⟨[], u64 k, by simp, rfl, rfl, rfl, rfl⟩, ?_⟩
  show Tri _ _ _ _
  refine tri_seq (tri_region tok gok4 [] [] rfl ?_)
  refine ⟨_, _, ⟨[] ++ eight (u64 k), u64 (text.length : Int), by simp [eight_length], rfl, rfl, rfl, rfl⟩, ?_⟩
  show Tri _ _ _ _
  refine tri_seq (tri_region tok gok4 [31] [] rfl ?_)
  refine And.intro (by simp [eight_length]; omega) ?_
  show Tri _ _ _ _
  refine tri_le (Le.rename [(3, 0)] [(2, .s (.int .i64 cols)), (3, .s (.sl 1 (kids.map (irow .u64)))), (9, .orow 0)] [(0, .row 5 1 ((eight (u64 k) ++ eight (u64 (text.length : Int)) ++ text).map brow))] 1 ⟨rfl, rfl, rfl, trivial⟩
    ⟨rfl, ⟨_, rfl, congrArg (fun r => Ob.row 5 1 r) (show ([] ++ eight (u64 k) ++ eight (u64 (text.length : Int))).map brow ++ text.map brow = _ by simp)⟩, trivial⟩ rfl rfl rfl rfl rfl) ?_
  refine tri_seq (tri_region tok gok4 [] [] rfl ?_)
  refine ⟨_, _, ⟨eight (u64 k) ++ eight (u64 (text.length : Int)) ++ text, u64 cols, by simp [eight_length]; omega, rfl, rfl, rfl, rfl⟩, ?_⟩
  show Tri _ _ _ _
  refine tri_seq (tri_region tok gok4 [] [] rfl ?_)
  refine ⟨_, _, ⟨eight (u64 k) ++ eight (u64 (text.length : Int)) ++ text ++ eight (u64 cols), u64 ((kids.map (irow .u64)).length : Int), by simp [eight_length]; omega, rfl, rfl, rfl, rfl⟩, ?_⟩
  show Tri _ _ _ _
  refine tri_seq (tri_seq (tri_region tok gok4 [] [] rfl ?_))
  show Tri _ _ _ _
  refine tri_block (tri_loopI (X := Nat) (fun i => ⟨ofL [(9, .orow 0), (41, .s (.sl 1 (kids.map (irow .u64)))), (42, .s (.int .i64 (kids.length : Int))), (43, .s (.int .i64 (i : Int)))], ofH [(0, .row 5 1 ((before k text cols kids.length ++ (kids.take i).flatMap eight).map brow))], 1⟩)
    (fun i => i ≤ kids.length) (fun i => kids.length - i) 0 (Nat.zero_le _) ?_ ?_)
  · refine Le.rename [(2, 0)] [(9, .orow 0), (41, .s (.sl 1 (kids.map (irow .u64)))), (42, .s (.int .i64 (kids.length : Int))), (43, .s (.int .i64 ((0 : Nat) : Int)))] _ _ ⟨rfl, rfl, ?_, rfl, trivial⟩ ⟨rfl, ⟨_, rfl, ?_⟩, trivial⟩ rfl rfl rfl rfl rfl
    · exact congrArg (fun n : Nat => AV.s (.int .i64 n)) (List.length_map _)
    · exact congrArg (fun r => Ob.row 5 1 r) (by simp [before])
  · intro i hi
    refine tri_seq (tri_region tok gok4 [] [] rfl ?_)
    show Tri _ _ _ _
    refine tri_seq (tri_cond rfl (fun hb => ?_) (fun hb => ?_))
    · refine tri_skip ?_
      show Tri _ _ _ _
      have hi : i < kids.length := by
        have : (i : Int) < kids.length := by simpa using hb
        omega
      refine tri_seq (tri_block (tri_seq (tri_region tok gok4 [] [45] rfl ?_)))
      refine And.intro ⟨by omega, by simpa using hi⟩ ?_
      intro row hrow
      obtain rfl : row = irow .u64 kids[i] := by simpa [List.getElem?_eq_getElem hi] using hrow
      show Tri _ _ _ _
      refine tri_region tok gok4 [] [] rfl ?_
      refine ⟨_, _, ⟨before k text cols kids.length ++ (kids.take i).flatMap eight, kids[i], ?_, rfl, rfl, rfl, rfl⟩, ?_⟩
      · have h1 := before_length k text cols kids.length
        have h2 := flat_length (kids.take i)
        have h3 : (kids.take i).length ≤ kids.length := by simp; omega
        rw [List.length_append]; omega
      show Tri _ _ _ _
      refine tri_region tok gok4 [] [] rfl ?_
      refine ⟨i + 1, hi, ?_, by show kids.length - (i + 1) < kids.length - i; omega⟩
      refine Le.rename [(1, 0)] _ _ _ ⟨rfl, rfl, rfl, ?_, trivial⟩ ⟨rfl, ⟨_, rfl, ?_⟩, trivial⟩ rfl rfl rfl rfl rfl
      · exact congrArg (fun n => AV.s (.int .i64 n)) (wrap64_in (by omega) (by omega))
      · refine congrArg (fun r => Ob.row 5 1 (List.map brow r)) ?_
        rw [← List.take_append_getElem hi, List.flatMap_append]
        simp
    · refine tri_exit ?_
      show Tri _ _ _ _
      have hi' : i = kids.length := by
        have : ¬ (i : Int) < kids.length := by simpa using hb
        omega
      subst hi'
      refine tri_seq (tri_region tok gok4 [] [] rfl ?_)
      refine ⟨_, ⟨joined k text cols kids, ?_, ?_, rfl⟩, ?_⟩
      · have h1 := before_length k text cols kids.length
        have h2 := flat_length kids
        rw [joined, List.length_append]; omega
      · refine (show _ = [AV.s (.sl 1 ((before k text cols kids.length ++ (kids.take kids.length).flatMap eight).map brow))] from rfl).trans ?_
        rw [List.take_length]; rfl
      show Tri _ _ _ _
      refine tri_ret ?_
      unfold Gives
      exact ⟨_, Le.refl _ _, rfl, rfl⟩
end Go.Proofs.Ytpahhoappfbleaa
