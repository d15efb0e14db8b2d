/-
  THE DIGEST, PART J: the digest of a tree, on both sides.
-/
import Derived.Test.YtpahhoappfbleaaDigI
set_option linter.unusedVariables false
namespace Go.Proofs.Ytpahhoappfbleaa
open Go.Abs

mutual
def RN.dig : RN → Int
  | .mk k t c ks => upd start0 (joined k t c (RN.digs ks))
def RN.digs : List RN → List Int
  | [] => []
  | k :: ks => k.dig :: RN.digs ks
end
theorem RN.digs_eq : ∀ (ks : List RN), RN.digs ks = ks.map RN.dig
  | [] => rfl
  | k :: ks => by simp [RN.digs, RN.digs_eq ks]

def sofar (ks : List RN) (i : Nat) : List Int := (ks.take i).map RN.dig
theorem sofar_next {ks : List RN} {i : Nat} (hi : i < ks.length) : sofar ks (i + 1) = sofar ks i ++ [ks[i].dig] := by
  show (ks.take (i + 1)).map RN.dig = (ks.take i).map RN.dig ++ [ks[i].dig]
  rw [← List.take_append_getElem hi, List.map_append]; rfl
theorem sofar_all (ks : List RN) : sofar ks ks.length = RN.digs ks := by simp [sofar, RN.digs_eq]
theorem sofar_length {ks : List RN} {i : Nat} (hi : i ≤ ks.length) : (sofar ks i).length = i := by simp [sofar]; omega
def rowAt (ks : List RN) (i : Nat) : List (List S) := (sofar ks i ++ List.replicate (ks.length - i) 0).map (irow .u64)
theorem rowAt_zero (ks : List RN) : rowAt ks 0 = List.replicate ks.length [.int .u64 0] := by
  simp [rowAt, sofar, irow]
theorem rowAt_all (ks : List RN) : rowAt ks ks.length = (RN.digs ks).map (irow .u64) := by
  simp [rowAt, sofar_all]
theorem rowAt_length {ks : List RN} {i : Nat} (hi : i ≤ ks.length) : (rowAt ks i).length = ks.length := by
  simp [rowAt, sofar_length hi]; omega
theorem rowAt_set {ks : List RN} {i : Nat} (hi : i < ks.length) {r : List S} (hr : r = irow .u64 ks[i].dig) : (rowAt ks i).set i r = rowAt ks (i + 1) := by
  subst hr
  have h1 := sofar_length (ks := ks) (Nat.le_of_lt hi)
  unfold rowAt
  rw [sofar_next hi, show ks.length - i = (ks.length - (i + 1)) + 1 by omega, List.replicate_succ, ← List.map_set, List.set_append_right _ _ (by omega), h1, Nat.sub_self]
  simp

def treeR (n : Nat) (xs : List AV) (r : Ret) : Prop := ∃ t : RN, t.h < n ∧ t.ok 1048576 ∧ xs = [.s (.pt t.enc)] ∧ r = .val (.s (.int .u64 t.dig))

set_option maxHeartbeats 1000000 in
theorem tree_step (n : Nat) (ih : PSound Try.prog 21 (pspec (treeR n))) : PSound Try.prog 21 (pspec (treeR (n + 1))) := by
  have gok : ∀ f s, look? f [(14, joinS), (21, pspec (treeR n))] = some s → PSound Try.prog f s := look_all (by
    simp only [List.forall_mem_cons]
    exact ⟨join_ok, ih, by simp⟩)
  refine psound tok Try.call21 Try.func21 rfl (fun xs r h => by obtain ⟨t, _, _, rfl, _⟩ := h; show 1 ≤ 44; decide) 44 rfl ?_
  rintro xs r w0 G0 ⟨⟨k, text, c, kids⟩, hh, ⟨ht, hk, hks⟩, rfl, rfl⟩ _
  refine tri_seq (tri_region tok gok [] [] rfl ?_)
  show Tri _ _ _ _
  refine tri_seq (tri_region tok gok [10] [] rfl ?_)
  have hlen := RN.encs_length kids
  refine And.intro (show (0 : Int) ≤ ((RN.encs kids).length : Int) ∧ ((RN.encs kids).length : Int) ≤ ((RN.encs kids).length : Int) ∧ ((RN.encs kids).length : Int) * ((8 : Nat) : Int) ≤ 281474976710656 ∧ ((RN.encs kids).length : Int) ≤ 281474976710656 by omega) ?_
  show Tri _ _ _ _
  refine tri_seq (tri_seq (tri_region tok gok [] [] rfl ?_))
  show Tri _ _ _ _
  refine tri_block (tri_loopI (X := Nat) (fun i => ⟨ofL [(0, .s (.pt (RN.mk k text c kids).enc)), (3, .orow 0), (15, .s (.int .i64 (kids.length : Int))), (16, .s (.int .i64 (i : Int)))], ofH [(0, .row 22 1 (rowAt kids i))], 1⟩)
    (fun i => i ≤ kids.length) (fun i => kids.length - i) 0 (Nat.zero_le _) ?_ ?_)
  · refine Le.rename [(0, 0)] [(0, .s (.pt (RN.mk k text c kids).enc)), (3, .orow 0), (15, .s (.int .i64 (kids.length : Int))), (16, .s (.int .i64 ((0 : Nat) : Int)))] _ _ ⟨rfl, rfl, ?_, rfl, trivial⟩ ⟨rfl, ⟨_, rfl, ?_⟩, trivial⟩ rfl rfl rfl rfl rfl
    · exact congrArg (fun n : Nat => AV.s (.int .i64 n)) hlen
    · refine congrArg (fun r => Ob.row 22 1 r) (show List.replicate (Int.toNat ((RN.encs kids).length : Int)) [S.int .u64 0] = _ from ?_)
      rw [rowAt_zero, hlen]; rfl
  · intro i hi
    refine tri_seq (tri_region tok gok [] [] rfl ?_)
    show Tri _ _ _ _
    refine tri_seq (tri_cond rfl (fun hb => ?_) (fun hb => ?_))
    · refine tri_skip ?_
      show Tri _ _ _ _
      have hi : i < kids.length := by
        have : (i : Int) < kids.length := by simpa using hb
        omega
      refine tri_seq (tri_block (tri_seq (tri_region tok gok [] [] rfl ?_)))
      show Tri _ _ _ _
      refine tri_region tok gok [] [26] rfl ?_
      refine And.intro ⟨by omega, by rw [hlen]; simpa using hi⟩ ?_
      intro row hrow
      obtain rfl : row = kids[i].enc := hrow.trans (RN.encs_get hi)
      have h1 := RN.hs_mem hi
      simp only [RN.h] at hh
      refine ⟨_, ⟨kids[i], by omega, RN.oks_mem hi hks, rfl, rfl⟩, ?_⟩
      refine And.intro ⟨by omega, by rw [rowAt_length (Nat.le_of_lt hi)]; simpa using hi⟩ ?_
      refine And.intro (show (i : Int).toNat < (rowAt kids i).length by rw [rowAt_length (Nat.le_of_lt hi)]; simpa using hi) ?_
      show Tri _ _ _ _
      refine tri_region tok gok [] [] rfl ?_
      refine ⟨i + 1, hi, ?_, by show kids.length - (i + 1) < kids.length - i; omega⟩
      refine Le.rename [(0, 0)] _ _ _ ⟨rfl, rfl, rfl, ?_, trivial⟩ ⟨rfl, ⟨_, rfl, ?_⟩, trivial⟩ rfl rfl rfl rfl rfl
      · exact congrArg (fun n => AV.s (.int .i64 n)) (wrap64_in (by omega) (by omega))
      · refine congrArg (fun r => Ob.row 22 1 r) (show (rowAt kids i).set i (((rowAt kids i).getD i []).take 0 ++ [S.int .u64 kids[i].dig] ++ ((rowAt kids i).getD i []).drop (0 + 1)) = _ from rowAt_set hi ?_)
        have hl : ((rowAt kids i).getD i []).length = 1 := by
          have hlt : i < (rowAt kids i).length := by rw [rowAt_length (Nat.le_of_lt hi)]; exact hi
          have : (rowAt kids i).getD i [] = (rowAt kids i)[i] := by simp [List.getElem?_eq_getElem hlt]
          rw [this]
          obtain ⟨x, _, hx⟩ := List.mem_map.1 (List.getElem_mem hlt)
          rw [← hx]; rfl
        rw [List.drop_eq_nil_of_le (by omega)]
        rfl
    · refine tri_exit ?_
      show Tri _ _ _ _
      have hi' : i = kids.length := by
        have : ¬ (i : Int) < kids.length := by simpa using hb
        omega
      subst hi'
      refine tri_seq (tri_drawn tok gok mixed [] [] [13] rfl (by decide +kernel) ?_)
      refine ⟨_, ⟨k, text, c, RN.digs kids, ht, by rw [RN.digs_eq]; simpa using hk, ?_, rfl⟩, ?_⟩
      · refine (show _ = [AV.s (.int .i64 k), AV.s (.str text), AV.s (.int .i64 c), AV.s (.sl 1 (rowAt kids kids.length))] from rfl).trans ?_
        rw [rowAt_all]
      show Tri _ _ _ _
      refine tri_ret ?_
      unfold Gives
      exact ⟨_, Le.refl _ _, rfl, rfl⟩

theorem tree_all : ∀ n, PSound Try.prog 21 (pspec (treeR n)) := by
  intro n
  induction n with
  | zero => exact ⟨Try.call21, fun G w xs vs r _ _ _ ⟨t, h, _⟩ => absurd h (Nat.not_lt_zero _), fun R hR => by cases hR⟩
  | succ n ih => exact tree_step n ih
def treeS : PSpec := pspec fun xs r => ∃ n, treeR n xs r
theorem tree_ok : PSound Try.prog 21 treeS := psound_all tree_all
end Go.Proofs.Ytpahhoappfbleaa
