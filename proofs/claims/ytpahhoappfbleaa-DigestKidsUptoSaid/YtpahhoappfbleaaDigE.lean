/-
  THE DIGEST, PART E: the law of one byte, its function.
-/
import Derived.Test.YtpahhoappfbleaaDigD
set_option linter.unusedVariables false
namespace Go.Proofs.Ytpahhoappfbleaa
open Go.Abs

theorem mixed : Try.prog.follows .mixedOrders = true := by kernel_rfl

def lawByteS : PSpec := pspec fun xs r => ∃ (bs : List UInt8) (c0 : Int) (c : UInt8) (h0 h1 : Int), bs.length ≤ 1048576 ∧ 0 ≤ c0 ∧ c0 ≤ 255 ∧ in64 h0 ∧ in64 h1 ∧
  xs = [.s (.sl 1 (bs.map brow)), .agg [.s (.int .u8 c0), .s (.int .u8 (c.toNat : Int))], .agg [.s (.int .u64 h0), .s (.int .u64 h1)]] ∧ r = .val (.s (.bool true))

theorem lawByte_ok : PSound Try.prog 5 lawByteS := by
  refine psound tok Try.call5 Try.func5 rfl (fun xs r h => by obtain ⟨bs, c0, c, h0, h1, _, _, _, _, _, rfl, _⟩ := h; show 3 ≤ 59; decide) 59 rfl ?_
  rintro xs r w0 G0 ⟨bs, c0, c, h0, h1, hl, hc1, hc2, i0, i1, rfl, rfl⟩ _
  refine tri_seq (tri_region tok gok3 [] [] rfl ?_)
  show Tri _ _ _ _
  refine tri_seq (tri_seq (tri_drawn tok gok3 mixed [] [27] [] rfl (by decide +kernel) ?_))
  refine ⟨_, ⟨rfl, rfl⟩, ?_⟩
  refine And.intro (by decide) ?_
  refine ⟨_, ⟨h0, bs, by omega, rfl, rfl⟩, ?_⟩
  refine And.intro (by decide) ?_
  refine ⟨_, ⟨h1, bs, by omega, rfl, rfl⟩, ?_⟩
  refine And.intro (by decide) ?_
  refine And.intro (by decide) ?_
  intro t ht
  obtain rfl : t = false := ht.trans (law_same i0 i1 bs)
  show Tri _ _ _ _
  refine tri_cond rfl (fun hb => by cases hb) (fun _ => ?_)
  refine tri_skip ?_
  show Tri _ _ _ _
  refine tri_seq (tri_seq (tri_region tok gok3 [] [] rfl ?_))
  show Tri _ _ _ _
  refine tri_cond rfl (fun hb => ?_) (fun hb => ?_)
  · refine tri_seq (tri_region tok gok3 [] [] rfl ?_)
    show Tri _ _ _ _
    refine tri_ret ?_
    unfold Gives
    exact ⟨_, Le.refl _ _, rfl, rfl⟩
  · have hne : 0 < bs.length := by
      have : ((bs.map brow).length : Int) ≠ 0 := by simpa using hb
      simp at this
      exact List.length_pos_iff.2 this
    refine tri_skip ?_
    show Tri _ _ _ _
    refine tri_seq (tri_drawn tok gok3 mixed [] [37] [] rfl (by decide +kernel) ?_)
    refine And.intro (by decide) ?_
    refine And.intro (show ((bs.map brow).length : Int) ≠ 0 by rw [List.length_map]; omega) ?_
    intro at' hat
    refine And.intro (by decide) ?_
    have hw : IntKind.i64.wrap c0 = c0 := wrap64_in (by omega) (by omega)
    obtain ⟨i, hi, rfl⟩ : ∃ i : Nat, i < bs.length ∧ at' = (i : Int) := by
      have h1 : c0.tmod ((bs.map brow).length : Int) = ((c0.toNat % bs.length : Nat) : Int) := by
        rw [List.length_map, Int.tmod_eq_emod_of_nonneg hc1, Int.natCast_emod, Int.toNat_of_nonneg hc1]
      refine ⟨c0.toNat % bs.length, Nat.mod_lt _ hne, ?_⟩
      rw [← h1, ← hw]
      exact hat
    clear hat
    show Tri _ _ _ _
    refine tri_seq (tri_region tok gok3 [40, 42] [] rfl ?_)
    refine And.intro (by simp; omega) ?_
    show Tri _ _ _ _
    refine tri_seq (tri_region tok gok3 [] [] rfl ?_)
    refine And.intro ⟨by omega, by simpa using hi⟩ ?_
    refine And.intro (by simpa using hi) ?_
    show Tri _ _ _ _
    refine tri_seq (tri_drawn tok gok3 mixed [] [54] [1] rfl (by decide +kernel) ?_)
    refine ⟨_, ⟨bs.set i c, by simp; omega, ?_, rfl⟩, ?_⟩
    · refine (show _ = [AV.s (.sl 1 ((bs.map brow).set i (((bs.map brow).getD i []).take 0 ++ [.int .u8 (c.toNat : Int)] ++ ((bs.map brow).getD i []).drop (0 + 1))))] from rfl).trans ?_
      have e1 : (bs.map brow).getD i [] = brow bs[i] := by simp [List.getElem?_eq_getElem hi]
      rw [e1, List.map_set]
      rfl
    refine ⟨_, ⟨bs, by omega, rfl, rfl⟩, ?_⟩
    refine And.intro ⟨by omega, by simpa using hi⟩ ?_
    intro row hrow
    obtain rfl : row = brow bs[i] := by simpa [List.getElem?_eq_getElem hi] using hrow
    show Tri _ _ _ _
    refine tri_ret ?_
    unfold Gives
    have e2 : decide ((bs[i].toNat : Int) = (c.toNat : Int)) = decide (bs[i] = c) := by
      by_cases h : bs[i] = c
      · simp [h]
      · have : ¬ ((bs[i].toNat : Int) = (c.toNat : Int)) := fun e => h (UInt8.toNat_inj.1 (by omega))
        simp [h, this]
    exact ⟨_, Le.refl _ _, congrArg (fun b => some (AV.s (.bool b))) ((congrArg (fun b => (decide (upd start0 (bs.set i c) = upd start0 bs) == b)) e2).trans (law_byte hi c)), rfl⟩
end Go.Proofs.Ytpahhoappfbleaa
