/-
  THE DIGEST, PART A: the table of types, and the digest of bytes on both sides.
-/
import Derived.Test.YtpahhoappfbleaaAbsO
import Derived.Test.YtpahhoappfbleaaProg
import Derived.KernelRfl
set_option linter.unusedVariables false
namespace Go.Proofs.Ytpahhoappfbleaa
open Go.Abs

def tab : List (Nat × TI) := [
  (3, ⟨.int .i64, 1, 8, [.int .i64 0]⟩), (4, ⟨.bool, 1, 1, [.bool false]⟩), (5, ⟨.int .u8, 1, 1, [.int .u8 0]⟩), (9, ⟨.str, 1, 16, [.str []]⟩),
  (22, ⟨.int .u64, 1, 8, [.int .u64 0]⟩), (23, ⟨.slice 5, 1, 24, [.sl 1 []]⟩), (29, ⟨.arr 2 5, 2, 2, [.int .u8 0, .int .u8 0]⟩), (30, ⟨.arr 2 22, 2, 16, [.int .u64 0, .int .u64 0]⟩),
  (32, ⟨.arr 2 3, 2, 16, [.int .i64 0, .int .i64 0]⟩), (33, ⟨.slice 22, 1, 24, [.sl 1 []]⟩),
  (36, ⟨.slice 38, 1, 24, [.sl 4 []]⟩), (38, ⟨.struct [(0,3),(1,9),(2,3),(3,36)], 4, 56, [.int .i64 0, .str [], .int .i64 0, .sl 4 []]⟩), (45, ⟨.ptr 38, 1, 8, [.np]⟩)]
def T (t : Nat) : Option TI := look? t tab

theorem tok : TOk Try.prog T := tok_of (by
  simp only [tab, List.forall_mem_cons]
  refine ⟨?_, ?_, ?_, ?_, ?_, ?_, ?_, ?_, ?_, ?_, ?_, ?_, ?_, by simp⟩
  · exact ⟨_, Try.t3, _, Try.underlying3, rfl, by kernel_rfl, rfl, rfl, rfl, rfl, rfl, fun _ => rfl, rfl⟩
  · exact ⟨_, Try.t4, _, Try.underlying4, rfl, by kernel_rfl, rfl, rfl, rfl, rfl, rfl, fun _ => rfl, rfl⟩
  · exact ⟨_, Try.t5, _, Try.underlying5, rfl, by kernel_rfl, rfl, rfl, rfl, rfl, rfl, fun _ => rfl, rfl⟩
  · exact ⟨_, Try.t9, _, Try.underlying9, rfl, by kernel_rfl, rfl, rfl, rfl, rfl, rfl, fun _ => rfl, rfl⟩
  · exact ⟨_, Try.t22, _, Try.underlying22, rfl, by kernel_rfl, rfl, rfl, rfl, rfl, rfl, fun _ => rfl, rfl⟩
  · exact ⟨_, Try.t23, _, Try.underlying23, rfl, by kernel_rfl, rfl, rfl, rfl, rfl, rfl, fun _ => rfl, rfl⟩
  · exact ⟨_, Try.t29, _, Try.underlying29, rfl, by kernel_rfl, rfl, rfl, rfl, rfl, rfl, (fun h => by cases h), rfl⟩
  · exact ⟨_, Try.t30, _, Try.underlying30, rfl, by kernel_rfl, rfl, rfl, rfl, rfl, rfl, (fun h => by cases h), rfl⟩
  · exact ⟨_, Try.t32, _, Try.underlying32, rfl, by kernel_rfl, rfl, rfl, rfl, rfl, rfl, (fun h => by cases h), rfl⟩
  · exact ⟨_, Try.t33, _, Try.underlying33, rfl, by kernel_rfl, rfl, rfl, rfl, rfl, rfl, fun _ => rfl, rfl⟩
  · exact ⟨_, Try.t36, _, Try.underlying36, rfl, by kernel_rfl, rfl, rfl, rfl, rfl, rfl, fun _ => rfl, rfl⟩
  · exact ⟨_, Try.t38, _, Try.underlying38, rfl, by kernel_rfl, rfl, rfl, rfl, rfl, rfl, (fun h => by cases h), rfl⟩
  · exact ⟨_, Try.t45, _, Try.underlying45, rfl, by kernel_rfl, rfl, rfl, rfl, rfl, rfl, fun _ => rfl, rfl⟩)

theorem tcl : ∀ t i, T t = some i → closedAt T i = true := closed_of (by rfl)

/-- one byte into the digest -/
def upd1 (h : Int) (c : UInt8) : Int := IntKind.u64.wrap (bitOp .xor .u64 h (IntKind.u64.wrap c.toNat) * 1099511628211)
def upd (h : Int) : List UInt8 → Int
  | [] => h
  | c :: cs => upd (upd1 h c) cs
def start0 : Int := 14695981039346656037

def updateS : PSpec := pspec fun xs r => ∃ h bs, bs.length ≤ 1152921504606846976 ∧ xs = [.s (.int .u64 h), .s (.sl 1 (bs.map brow))] ∧ r = .val (.s (.int .u64 (upd h bs)))
def bytesS : PSpec := pspec fun xs r => ∃ bs, bs.length ≤ 1152921504606846976 ∧ xs = [.s (.sl 1 (bs.map brow))] ∧ r = .val (.s (.int .u64 (upd start0 bs)))
def awakeS : PSpec := pspec fun xs r => xs = [] ∧ r = .val (.s (.bool true))

theorem upd_end {h : Int} {bs : List UInt8} {i : Nat} {hh : Int} (hi : upd hh (bs.drop i) = upd h bs) (hl : bs.length ≤ i) : hh = upd h bs := by
  rw [List.drop_eq_nil_of_le hl] at hi; exact hi
theorem upd_next {h : Int} {bs : List UInt8} {i : Nat} {hh : Int} (hl : i < bs.length) (hi : upd hh (bs.drop i) = upd h bs) : upd (upd1 hh bs[i]) (bs.drop (i + 1)) = upd h bs := by
  rw [← hi, List.drop_eq_getElem_cons hl]; rfl

theorem update_ok : PSound Try.prog 12 updateS := by
  refine psound tok Try.call12 Try.func12 rfl (fun xs r h => by obtain ⟨h, bs, hb, rfl, _⟩ := h; show 2 ≤ 20; decide) 20 rfl ?_
  rintro xs r w0 G0 ⟨h, bs, hbs, rfl, rfl⟩ _
  refine tri_seq (tri_region (Γ := fun _ => none) tok (fun _ _ h => by cases h) [] [] rfl ?_)
  show Tri _ _ _ _
  refine tri_seq (tri_seq (tri_region (Γ := fun _ => none) tok (fun _ _ h => by cases h) [] [] rfl ?_))
  show Tri _ _ _ _
  refine tri_block (tri_loopI (X := Nat × Int) (fun y => ⟨ofL [(0, .s (.int .u64 y.2)), (1, .s (.sl 1 (bs.map brow))), (7, .s (.sl 1 (bs.map brow))), (8, .s (.int .i64 bs.length)), (9, .s (.int .i64 y.1))], fun _ => none, 0⟩)
    (fun y => y.1 ≤ bs.length ∧ upd y.2 (bs.drop y.1) = upd h bs) (fun y => bs.length - y.1) (0, h) ⟨Nat.zero_le _, rfl⟩ ?_ ?_)
  · exact Le.forget _ ⟨rfl, rfl, rfl, congrArg (fun n : Nat => AV.s (.int .i64 n)) (List.length_map _), rfl, trivial⟩
  · rintro ⟨i, hh⟩ ⟨hil, hinv⟩
    refine tri_seq (tri_region (Γ := fun _ => none) tok (fun _ _ h => by cases h) [] [] rfl ?_)
    show Tri _ _ _ _
    refine tri_seq (tri_cond rfl (fun hb => ?_) (fun hb => ?_))
    · refine tri_skip ?_
      show Tri _ _ _ _
      have hi : i < bs.length := by simpa using hb
      refine tri_seq (tri_block (tri_seq (tri_region (Γ := fun _ => none) tok (fun _ _ h => by cases h) [] [11] rfl ?_)))
      refine And.intro ⟨by omega, by simpa using hi⟩ ?_
      intro row hrow
      obtain rfl : row = brow bs[i] := by simpa [List.getElem?_eq_getElem hi] using hrow
      show Tri _ _ _ _
      refine tri_region (Γ := fun _ => none) tok (fun _ _ h => by cases h) [] [] rfl ?_
      show Tri _ _ _ _
      refine tri_region (Γ := fun _ => none) tok (fun _ _ h => by cases h) [] [] rfl ?_
      refine ⟨(i + 1, upd1 hh bs[i]), ⟨hi, upd_next hi hinv⟩, Le.forget _ ⟨rfl, rfl, rfl, rfl, congrArg (fun n => AV.s (.int .i64 n)) (wrap64_in (by omega) (by omega)), trivial⟩, ?_⟩
      show bs.length - (i + 1) < bs.length - i
      omega
    · refine tri_exit ?_
      show Tri _ _ _ _
      have hi : bs.length ≤ i := by simpa using hb
      refine tri_seq (tri_region (Γ := fun _ => none) tok (fun _ _ h => by cases h) [] [] rfl ?_)
      show Tri _ _ _ _
      refine tri_ret ?_
      unfold Gives
      exact ⟨_, Le.refl _ _, congrArg (fun n => some (AV.s (.int .u64 n))) (upd_end hinv hi), rfl⟩
end Go.Proofs.Ytpahhoappfbleaa
