/-
  THE DIGEST, PART I: trees as data; the law's count of nodes.
-/
import Derived.Test.YtpahhoappfbleaaDigH
set_option linter.unusedVariables false
namespace Go.Proofs.Ytpahhoappfbleaa
open Go.Abs

/-- A tree. -/
inductive RN where
  | mk (kind : Int) (text : List UInt8) (cols : Int) (kids : List RN)

mutual
def RN.enc : RN → List S
  | .mk k t c ks => [.int .i64 k, .str t, .int .i64 c, .sl 4 (RN.encs ks)]
def RN.encs : List RN → List (List S)
  | [] => []
  | k :: ks => k.enc :: RN.encs ks
end
mutual
def RN.h : RN → Nat
  | .mk _ _ _ ks => RN.hs ks + 1
def RN.hs : List RN → Nat
  | [] => 0
  | k :: ks => max k.h (RN.hs ks)
end
mutual
def RN.ok (N : Nat) : RN → Prop
  | .mk _ t _ ks => t.length ≤ N ∧ ks.length ≤ N ∧ RN.oks N ks
def RN.oks (N : Nat) : List RN → Prop
  | [] => True
  | k :: ks => k.ok N ∧ RN.oks N ks
end

theorem RN.encs_eq : ∀ (ks : List RN), RN.encs ks = ks.map RN.enc
  | [] => rfl
  | k :: ks => by simp [RN.encs, RN.encs_eq ks]
theorem RN.encs_get {ks : List RN} {i : Nat} (h : i < ks.length) : (RN.encs ks).getD i [] = ks[i].enc := by
  rw [RN.encs_eq]; simp [List.getElem?_eq_getElem h]
theorem RN.encs_length (ks : List RN) : (RN.encs ks).length = ks.length := by rw [RN.encs_eq]; simp
theorem RN.hs_mem : ∀ {ks : List RN} {i : Nat} (h : i < ks.length), ks[i].h ≤ RN.hs ks
  | k :: ks, 0, _ => by simp [RN.hs]; omega
  | k :: ks, i + 1, h => by
    have := RN.hs_mem (ks := ks) (i := i) (by simpa using h)
    simp only [RN.hs, List.getElem_cons_succ]; omega
theorem RN.oks_mem {N : Nat} : ∀ {ks : List RN} {i : Nat} (h : i < ks.length), RN.oks N ks → ks[i].ok N
  | k :: ks, 0, _, ho => ho.1
  | k :: ks, i + 1, h, ho => by simpa using RN.oks_mem (ks := ks) (i := i) (by simpa using h) ho.2

mutual
theorem RN.ok_of {N : Nat} : ∀ {t : RN}, bulkL t.enc ≤ N → t.ok N
  | .mk k t c ks, h => by
    simp only [RN.enc, bulkL, S.bulk] at h
    have h1 := RN.oks_len ks
    exact ⟨by omega, by omega, RN.oks_of (ks := ks) (by omega)⟩
theorem RN.oks_of {N : Nat} : ∀ {ks : List RN}, bulkLL (RN.encs ks) ≤ N → RN.oks N ks
  | [], _ => trivial
  | k :: ks, h => by
    simp only [RN.encs, bulkLL] at h
    exact ⟨RN.ok_of (by omega), RN.oks_of (by omega)⟩
theorem RN.oks_len : ∀ (ks : List RN), ks.length ≤ bulkLL (RN.encs ks)
  | [] => by simp [RN.encs, bulkLL]
  | k :: ks => by
    have := RN.oks_len ks
    have h1 : 1 ≤ bulkL k.enc := by cases k; simp [RN.enc, bulkL, S.bulk]
    simp only [RN.encs, bulkLL, List.length_cons]; omega
end

theorem typed_node : ∀ (n : Nat) {ss : List S}, Typed T n 38 ss → ∃ t : RN, ss = t.enc := by
  intro n
  induction n using Nat.strongRecOn with
  | _ n ih =>
    intro ss h
    obtain ⟨m, rfl, a0, q0, rfl, u0, a1, q1, rfl, u1, a2, q2, rfl, u2, a3, q3, rfl, u3, rfl⟩ := typed_struct (T := T) (fs := [(0,3),(1,9),(2,3),(3,36)]) rfl rfl h
    obtain ⟨k, rfl, _⟩ := typed_int (T := T) (k := .i64) rfl rfl u0
    obtain ⟨t, rfl, _⟩ := typed_str (T := T) rfl rfl u1
    obtain ⟨c, rfl, _⟩ := typed_int (T := T) (k := .i64) rfl rfl u2
    obtain ⟨m', rows, rfl, rfl, _, hr⟩ := typed_slice (T := T) (e := 38) rfl rfl u3
    obtain ⟨ks, rfl, _⟩ := all_map (f := RN.enc) (q := fun _ => True) (l := rows) fun r hr' => by
      obtain ⟨t, ht⟩ := ih m' (by omega) (hr r hr')
      exact ⟨t, ht, trivial⟩
    exact ⟨.mk k t c ks, by simp only [RN.enc, RN.encs_eq]; rfl⟩

/-- Contracts for trees of every height, put together. -/
theorem psound_all {P : Program} {f : Nat} {s : Nat → List AV → Ret → Prop} (h : ∀ n, PSound P f (pspec (s n))) : PSound P f (pspec fun xs r => ∃ n, s n xs r) :=
  ⟨(h 0).1, fun G w xs vs r hl hp hv ⟨n, hn⟩ => (h n).2.1 G w xs vs r hl hp hv hn, fun R hR => by cases hR⟩

mutual
def RN.size : RN → Int → Int
  | .mk _ _ _ ks, most => RN.sizes ks most 1
def RN.sizes : List RN → Int → Int → Int
  | [], _, out => out
  | k :: ks, most, out => if out < most then RN.sizes ks most (IntKind.i64.wrap (out + k.size (IntKind.i64.wrap (most - out)))) else out
end
theorem sizes_end {ks : List RN} {i : Nat} {most out z : Int} (h : RN.sizes (ks.drop i) most out = z) (hl : ks.length ≤ i) : out = z := by
  rw [List.drop_eq_nil_of_le hl] at h; exact h
theorem sizes_stop {ks : List RN} {most out z : Int} (h : RN.sizes ks most out = z) (hl : ¬ out < most) : out = z := by
  cases ks with
  | nil => exact h
  | cons k ks => simpa [RN.sizes, hl] using h
theorem sizes_next {ks : List RN} {i : Nat} {most out z : Int} (h : RN.sizes (ks.drop i) most out = z) (hi : i < ks.length) (hl : out < most) :
    RN.sizes (ks.drop (i + 1)) most (IntKind.i64.wrap (out + ks[i].size (IntKind.i64.wrap (most - out)))) = z := by
  rw [List.drop_eq_getElem_cons hi] at h
  simpa [RN.sizes, hl] using h

def sizeR (n : Nat) (xs : List AV) (r : Ret) : Prop := ∃ (t : RN) (most : Int), t.h < n ∧ t.ok 1048576 ∧ xs = [.agg (t.enc.map .s), .s (.int .i64 most)] ∧ r = .val (.s (.int .i64 (t.size most)))

set_option maxHeartbeats 1000000 in
theorem size_step (n : Nat) (ih : PSound Try.prog 16 (pspec (sizeR n))) : PSound Try.prog 16 (pspec (sizeR (n + 1))) := by
  have gok : ∀ f s, look? f [(16, pspec (sizeR n))] = some s → PSound Try.prog f s := look_all (by
    simp only [List.forall_mem_cons]
    exact ⟨ih, by simp⟩)
  refine psound tok Try.call16 Try.func16 rfl (fun xs r h => by obtain ⟨t, m, _, _, rfl, _⟩ := h; show 2 ≤ 31; decide) 31 rfl ?_
  rintro xs r w0 G0 ⟨⟨k, text, c, kids⟩, most, hh, ⟨ht, hk, hks⟩, rfl, rfl⟩ _
  refine tri_seq (tri_region tok gok [] [] rfl ?_)
  show Tri _ _ _ _
  refine tri_seq (tri_region tok gok [] [] rfl ?_)
  show Tri _ _ _ _
  refine tri_seq (tri_seq (tri_region tok gok [] [] rfl ?_))
  show Tri _ _ _ _
  refine tri_block (tri_loopI (X := Nat × Int) (fun y => ⟨ofL [(1, .s (.int .i64 most)), (2, .s (.pt (RN.mk k text c kids).enc)), (5, .s (.int .i64 y.2)), (6, .s (.int .i64 (y.1 : Int)))], fun _ => none, 0⟩)
    (fun y => y.1 ≤ kids.length ∧ RN.sizes (kids.drop y.1) most y.2 = (RN.mk k text c kids).size most) (fun y => kids.length - y.1) (0, 1) ⟨Nat.zero_le _, rfl⟩ ?_ ?_)
  · exact Le.forget _ ⟨rfl, rfl, rfl, rfl, trivial⟩
  · rintro ⟨i, out⟩ ⟨hi, hinv⟩
    refine tri_seq (tri_seq (tri_region tok gok [] [11, 15] rfl ?_))
    intro b hb
    cases b with
    | false =>
      show Tri _ _ _ _
      refine tri_cond rfl (fun h => by cases h) (fun _ => ?_)
      refine tri_exit ?_
      show Tri _ _ _ _
      have hi : kids.length ≤ i := by
        have : ¬ ((i : Int) < ((RN.encs kids).length : Int)) := by simpa using hb.symm
        rw [RN.encs_length] at this; omega
      refine tri_seq (tri_region tok gok [] [] rfl ?_)
      show Tri _ _ _ _
      refine tri_ret ?_
      unfold Gives
      exact ⟨_, Le.refl _ _, congrArg (fun n => some (AV.s (.int .i64 n))) (sizes_end hinv hi), rfl⟩
    | true =>
      intro b2 hb2
      have hi : i < kids.length := by
        have : ((i : Int) < ((RN.encs kids).length : Int)) := by simpa using hb.symm
        rw [RN.encs_length] at this; omega
      show Tri _ _ _ _
      cases b2 with
      | false =>
        refine tri_cond rfl (fun h => by cases h) (fun _ => ?_)
        refine tri_exit ?_
        show Tri _ _ _ _
        have hl : ¬ out < most := by simpa using hb2.symm
        refine tri_seq (tri_region tok gok [] [] rfl ?_)
        show Tri _ _ _ _
        refine tri_ret ?_
        unfold Gives
        exact ⟨_, Le.refl _ _, congrArg (fun n => some (AV.s (.int .i64 n))) (sizes_stop hinv hl), rfl⟩
      | true =>
        refine tri_cond rfl (fun _ => ?_) (fun h => by cases h)
        refine tri_skip ?_
        show Tri _ _ _ _
        have hl : out < most := by simpa using hb2.symm
        refine tri_seq (tri_block (tri_region tok gok [] [23] rfl ?_))
        refine And.intro ⟨by omega, by rw [RN.encs_length]; simpa using hi⟩ ?_
        intro row hrow
        obtain ⟨k2, t2, c2, ks2, hq⟩ : ∃ k2 t2 c2 ks2, kids[i] = RN.mk k2 t2 c2 ks2 := by cases kids[i]; exact ⟨_, _, _, _, rfl⟩
        obtain rfl : row = (RN.mk k2 t2 c2 ks2).enc := (hrow.trans (RN.encs_get hi)).trans (by rw [hq])
        have h1 := RN.hs_mem hi
        simp only [RN.h] at hh
        refine ⟨_, ⟨RN.mk k2 t2 c2 ks2, IntKind.i64.wrap (most - out), by rw [← hq]; omega, by rw [← hq]; exact RN.oks_mem hi hks, rfl, rfl⟩, ?_⟩
        show Tri _ _ _ _
        refine tri_region tok gok [] [] rfl ?_
        refine ⟨(i + 1, IntKind.i64.wrap (out + (RN.mk k2 t2 c2 ks2).size (IntKind.i64.wrap (most - out)))), ⟨hi, by rw [← hq]; exact sizes_next hinv hi hl⟩, Le.forget _ ⟨rfl, rfl, rfl, ?_, trivial⟩, by show kids.length - (i + 1) < kids.length - i; omega⟩
        exact congrArg (fun n => AV.s (.int .i64 n)) (wrap64_in (by omega) (by omega))

theorem size_all : ∀ n, PSound Try.prog 16 (pspec (sizeR n)) := by
  intro n
  induction n with
  | zero => exact ⟨Try.call16, fun G w xs vs r _ _ _ ⟨t, m, h, _⟩ => absurd h (Nat.not_lt_zero _), fun R hR => by cases hR⟩
  | succ n ih => exact size_step n ih

def sizeS : PSpec := pspec fun xs r => ∃ n, sizeR n xs r
theorem size_ok : PSound Try.prog 16 sizeS := psound_all size_all
end Go.Proofs.Ytpahhoappfbleaa
