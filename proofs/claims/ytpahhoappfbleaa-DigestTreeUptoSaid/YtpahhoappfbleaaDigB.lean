/-
  THE DIGEST, PART B: the reference's digest of bytes, the example, and the first law's function.
-/
import Derived.Test.YtpahhoappfbleaaDigA
set_option linter.unusedVariables false
namespace Go.Proofs.Ytpahhoappfbleaa
open Go.Abs

theorem refUpdate_ok : PSound Try.prog 13 updateS := by
  refine psound tok Try.call13 Try.func13 rfl (fun xs r h => by obtain ⟨h, bs, hb, rfl, _⟩ := h; show 2 ≤ 21; decide) 21 rfl ?_
  rintro xs r w0 G0 ⟨h, bs, hbs, rfl, rfl⟩ _
  refine tri_seq (tri_region (Γ := fun _ => none) tok (fun _ _ h => by cases h) [] [] rfl ?_)
  show Tri _ _ _ _
  refine tri_seq (tri_seq (tri_region (Γ := fun _ => none) tok (fun _ _ h => by cases h) [] [] rfl ?_))
  show Tri _ _ _ _
  refine tri_block (tri_loopI (X := Nat × Int) (fun y => ⟨ofL [(0, .s (.int .u64 y.2)), (1, .s (.sl 1 (bs.map brow))), (5, .s (.int .i64 y.1))], fun _ => none, 0⟩)
    (fun y => y.1 ≤ bs.length ∧ upd y.2 (bs.drop y.1) = upd h bs) (fun y => bs.length - y.1) (0, h) ⟨Nat.zero_le _, rfl⟩ ?_ ?_)
  · exact Le.forget _ ⟨rfl, rfl, rfl, trivial⟩
  · rintro ⟨i, hh⟩ ⟨hil, hinv⟩
    refine tri_seq (tri_seq (tri_region (Γ := fun _ => none) tok (fun _ _ h => by cases h) [] [] rfl ?_))
    show Tri _ _ _ _
    refine tri_cond rfl (fun hb => ?_) (fun hb => ?_)
    · refine tri_skip ?_
      show Tri _ _ _ _
      have hi : i < bs.length := by simpa using hb
      refine tri_seq (tri_block (tri_region (Γ := fun _ => none) tok (fun _ _ h => by cases h) [] [15] rfl ?_))
      refine And.intro ⟨by omega, by simpa using hi⟩ ?_
      intro row hrow
      obtain rfl : row = brow bs[i] := by simpa [List.getElem?_eq_getElem hi] using hrow
      show Tri _ _ _ _
      refine tri_region (Γ := fun _ => none) tok (fun _ _ h => by cases h) [] [] rfl ?_
      refine ⟨(i + 1, upd1 hh bs[i]), ⟨hi, upd_next hi hinv⟩, Le.forget _ ⟨rfl, rfl, congrArg (fun n => AV.s (.int .i64 n)) (wrap64_in (by omega) (by omega)), trivial⟩, ?_⟩
      show bs.length - (i + 1) < bs.length - i
      omega
    · refine tri_exit ?_
      show Tri _ _ _ _
      have hi : bs.length ≤ i := by simpa using hb
      refine tri_seq (tri_region (Γ := fun _ => none) tok (fun _ _ h => by cases h) [] [] rfl ?_)
      show Tri _ _ _ _
      refine tri_ret ?_
      unfold Gives
      exact ⟨_, Le.refl _ _, congrArg (fun n => some (AV.s (.int .u64 n))) (upd_end hinv hi), rfl⟩

def spec1 : List (Nat × PSpec) := [(12, updateS), (13, updateS)]
theorem gok1 : ∀ f s, look? f spec1 = some s → PSound Try.prog f s := look_all (by
  simp only [spec1, List.forall_mem_cons]
  exact ⟨update_ok, refUpdate_ok, by simp⟩)

theorem bytes_ok : PSound Try.prog 10 bytesS := by
  refine psound tok Try.call10 Try.func10 rfl (fun xs r h => by obtain ⟨bs, hb, rfl, _⟩ := h; show 1 ≤ 5; decide) 5 rfl ?_
  rintro xs r w0 G0 ⟨bs, hbs, rfl, rfl⟩ _
  refine tri_seq (tri_region tok gok1 [] [] rfl ?_)
  show Tri _ _ _ _
  refine tri_seq (tri_region tok gok1 [] [] rfl ?_)
  refine ⟨_, ⟨_, bs, hbs, rfl, rfl⟩, ?_⟩
  show Tri _ _ _ _
  refine tri_ret ?_
  unfold Gives
  exact ⟨_, Le.refl _ _, rfl, rfl⟩

theorem refBytes_ok : PSound Try.prog 11 bytesS := by
  refine psound tok Try.call11 Try.func11 rfl (fun xs r h => by obtain ⟨bs, hb, rfl, _⟩ := h; show 1 ≤ 5; decide) 5 rfl ?_
  rintro xs r w0 G0 ⟨bs, hbs, rfl, rfl⟩ _
  refine tri_seq (tri_region tok gok1 [] [] rfl ?_)
  show Tri _ _ _ _
  refine tri_seq (tri_region tok gok1 [] [] rfl ?_)
  refine ⟨_, ⟨_, bs, hbs, rfl, rfl⟩, ?_⟩
  show Tri _ _ _ _
  refine tri_ret ?_
  unfold Gives
  exact ⟨_, Le.refl _ _, rfl, rfl⟩

def spec2 : List (Nat × PSpec) := [(10, bytesS), (11, bytesS), (12, updateS), (13, updateS)]
theorem gok2 : ∀ f s, look? f spec2 = some s → PSound Try.prog f s := look_all (by
  simp only [spec2, List.forall_mem_cons]
  exact ⟨bytes_ok, refBytes_ok, update_ok, refUpdate_ok, by simp⟩)

theorem awake_ok : PSound Try.prog 9 awakeS := by
  refine psound tok Try.call9 Try.func9 rfl (fun xs r h => by obtain ⟨rfl, _⟩ := h; show 0 ≤ 5; decide) 5 rfl ?_
  rintro xs r w0 G0 ⟨rfl, rfl⟩ _
  refine tri_seq (tri_region tok gok2 [] [] rfl ?_)
  show Tri _ _ _ _
  refine tri_seq (tri_region tok gok2 [1] [] rfl ?_)
  refine And.intro (by simp) ?_
  refine ⟨_, ⟨[97], by decide, rfl, rfl⟩, ?_⟩
  show Tri _ _ _ _
  refine tri_ret ?_
  unfold Gives
  exact ⟨_, Le.refl _ _, by kernel_rfl, rfl⟩

def spec3 : List (Nat × PSpec) := [(9, awakeS), (10, bytesS), (11, bytesS), (12, updateS), (13, updateS)]
theorem gok3 : ∀ f s, look? f spec3 = some s → PSound Try.prog f s := look_all (by
  simp only [spec3, List.forall_mem_cons]
  exact ⟨awake_ok, bytes_ok, refBytes_ok, update_ok, refUpdate_ok, by simp⟩)

def lawBytesS : PSpec := pspec fun xs r => ∃ (h : Int) (bs : List UInt8), bs.length ≤ 1152921504606846976 ∧ xs = [.s (.int .u64 h), .s (.sl 1 (bs.map brow))] ∧ r = .val (.s (.bool true))

theorem eq_true {α : Type} [DecidableEq α] (a : α) : (a == a) = true := by simp

theorem lawBytes_ok : PSound Try.prog 3 lawBytesS := by
  refine psound tok Try.call3 Try.func3 rfl (fun xs r h => by obtain ⟨h, bs, hb, rfl, _⟩ := h; show 2 ≤ 22; decide) 22 rfl ?_
  rintro xs r w0 G0 ⟨h, bs, hbs, rfl, rfl⟩ _
  refine tri_seq (tri_region tok gok3 [] [] rfl ?_)
  show Tri _ _ _ _
  refine tri_seq (tri_region tok gok3 [] [11] rfl ?_)
  refine ⟨_, ⟨rfl, rfl⟩, ?_⟩
  refine ⟨_, ⟨bs, hbs, rfl, rfl⟩, ?_⟩
  refine ⟨_, ⟨bs, hbs, rfl, rfl⟩, ?_⟩
  intro b hb
  obtain rfl : b = true := by simpa using hb
  refine ⟨_, ⟨h, bs, hbs, rfl, rfl⟩, ?_⟩
  refine ⟨_, ⟨h, bs, hbs, rfl, rfl⟩, ?_⟩
  show Tri _ _ _ _
  refine tri_ret ?_
  unfold Gives
  exact ⟨_, Le.refl _ _, congrArg (fun b => some (AV.s (.bool b))) (eq_true (upd h bs)), rfl⟩
end Go.Proofs.Ytpahhoappfbleaa
