/-
  THE DIGEST, PART C: the laws' functions over bytes.
-/
import Derived.Test.YtpahhoappfbleaaDigB
set_option linter.unusedVariables false
namespace Go.Proofs.Ytpahhoappfbleaa
open Go.Abs

theorem upd_append : ∀ (a b : List UInt8) (h : Int), upd (upd h a) b = upd h (a ++ b)
  | [], b, h => rfl
  | c :: a, b, h => upd_append a b (upd1 h c)

def lawUpdatesS : PSpec := pspec fun xs r => ∃ (a b : List UInt8), a.length ≤ 1048576 ∧ b.length ≤ 1048576 ∧ xs = [.s (.sl 1 (a.map brow)), .s (.sl 1 (b.map brow))] ∧ r = .val (.s (.bool true))

theorem lawUpdates_ok : PSound Try.prog 4 lawUpdatesS := by
  refine psound tok Try.call4 Try.func4 rfl (fun xs r h => by obtain ⟨a, b, ha, hb, rfl, _⟩ := h; show 2 ≤ 26; decide) 26 rfl ?_
  rintro xs r w0 G0 ⟨a, b, ha, hb, rfl, rfl⟩ _
  refine tri_seq (tri_region tok gok3 [] [] rfl ?_)
  show Tri _ _ _ _
  refine tri_seq (tri_region tok gok3 [11, 13, 15] [17] rfl ?_)
  refine ⟨_, ⟨rfl, rfl⟩, ?_⟩
  refine ⟨_, ⟨a, by omega, rfl, rfl⟩, ?_⟩
  refine ⟨_, ⟨upd start0 a, b, by omega, rfl, rfl⟩, ?_⟩
  refine And.intro (by simp; omega) ?_
  refine And.intro (by simp; omega) ?_
  refine ⟨_, ⟨a ++ b, by simp; omega, (show _ = [AV.s (.sl 1 (a.map brow ++ b.map brow))] from rfl).trans (by simp), rfl⟩, ?_⟩
  intro t ht
  obtain rfl : t = true := by rw [ht]; simp [upd_append]
  refine ⟨_, ⟨start0, a, by omega, rfl, rfl⟩, ?_⟩
  refine ⟨_, ⟨a, by omega, rfl, rfl⟩, ?_⟩
  show Tri _ _ _ _
  refine tri_ret ?_
  unfold Gives
  exact ⟨_, Le.refl _ _, congrArg (fun b => some (AV.s (.bool b))) (eq_true (upd start0 a)), rfl⟩
end Go.Proofs.Ytpahhoappfbleaa
