/-
  THE CODEC, PART A: the table of types.
-/
import Derived.Test.YtjjljekedgdnnaaAbsQ
import Derived.Test.YtjjljekedgdnnaaProg
import Derived.KernelRfl
namespace Go.Proofs.Ytjjljekedgdnnaa
open Go.Abs

def tab : List (Nat × TI) := [
  (3, ⟨.int .i64, 1, 8, [.int .i64 0]⟩),
  (4, ⟨.bool, 1, 1, [.bool false]⟩),
  (5, ⟨.int .u8, 1, 1, [.int .u8 0]⟩),
  (9, ⟨.str, 1, 16, [.str []]⟩),
  (22, ⟨.slice 24, 1, 24, [.sl 4 []]⟩),
  (24, ⟨.struct [(0, 3), (1, 3), (2, 9), (3, 22)], 4, 56, [.int .i64 0, .int .i64 0, .str [], .sl 4 []]⟩),
  (28, ⟨.slice 30, 1, 24, [.sl 4 []]⟩),
  (30, ⟨.struct [(0, 3), (1, 3), (2, 9), (3, 28)], 4, 56, [.int .i64 0, .int .i64 0, .str [], .sl 4 []]⟩),
  (33, ⟨.slice 5, 1, 24, [.sl 1 []]⟩),
  (34, ⟨.int .i64, 1, 8, [.int .i64 0]⟩),
  (48, ⟨.int .u16, 1, 2, [.int .u16 0]⟩),
  (50, ⟨.int .u64, 1, 8, [.int .u64 0]⟩),
  (60, ⟨.ptr 30, 1, 8, [.np]⟩),
  (61, ⟨.arr 2 60, 2, 16, [.np, .np]⟩),
  (62, ⟨.slice 61, 1, 24, [.sl 2 []]⟩),
  (66, ⟨.struct [(0, 60), (1, 3)], 2, 16, [.np, .int .i64 0]⟩),
  (67, ⟨.slice 66, 1, 24, [.sl 2 []]⟩),
  (68, ⟨.ptr 70, 1, 8, [.np]⟩),
  (70, ⟨.struct [(0, 33)], 1, 24, [.sl 1 []]⟩)]
def T (t : Nat) : Option TI := look? t tab

theorem tabok : ∀ p ∈ tab, okT Try.prog p.1 p.2 := by
  simp only [tab, List.forall_mem_cons]
  refine ⟨?_, ?_, ?_, ?_, ?_, ?_, ?_, ?_, ?_, ?_, ?_, ?_, ?_, ?_, ?_, ?_, ?_, ?_, ?_, by simp⟩
  · exact ⟨_, Try.t3, _, Try.underlying3, rfl, by kernel_rfl, rfl, rfl, rfl, rfl, rfl, fun _ => rfl, rfl⟩
  · exact ⟨_, Try.t4, _, Try.underlying4, rfl, by kernel_rfl, rfl, rfl, rfl, rfl, rfl, fun _ => rfl, rfl⟩
  · exact ⟨_, Try.t5, _, Try.underlying5, rfl, by kernel_rfl, rfl, rfl, rfl, rfl, rfl, fun _ => rfl, rfl⟩
  · exact ⟨_, Try.t9, _, Try.underlying9, rfl, by kernel_rfl, rfl, rfl, rfl, rfl, rfl, fun _ => rfl, rfl⟩
  · exact ⟨_, Try.t22, _, Try.underlying22, rfl, by kernel_rfl, rfl, rfl, rfl, rfl, rfl, fun _ => rfl, rfl⟩
  · exact ⟨_, Try.t24, _, Try.underlying24, rfl, by kernel_rfl, rfl, rfl, rfl, rfl, rfl, (fun h => by cases h), rfl⟩
  · exact ⟨_, Try.t28, _, Try.underlying28, rfl, by kernel_rfl, rfl, rfl, rfl, rfl, rfl, fun _ => rfl, rfl⟩
  · exact ⟨_, Try.t30, _, Try.underlying30, rfl, by kernel_rfl, rfl, rfl, rfl, rfl, rfl, (fun h => by cases h), rfl⟩
  · exact ⟨_, Try.t33, _, Try.underlying33, rfl, by kernel_rfl, rfl, rfl, rfl, rfl, rfl, fun _ => rfl, rfl⟩
  · exact ⟨_, Try.t34, _, Try.underlying34, rfl, by kernel_rfl, rfl, rfl, rfl, rfl, rfl, fun _ => rfl, rfl⟩
  · exact ⟨_, Try.t48, _, Try.underlying48, rfl, by kernel_rfl, rfl, rfl, rfl, rfl, rfl, fun _ => rfl, rfl⟩
  · exact ⟨_, Try.t50, _, Try.underlying50, rfl, by kernel_rfl, rfl, rfl, rfl, rfl, rfl, fun _ => rfl, rfl⟩
  · exact ⟨_, Try.t60, _, Try.underlying60, rfl, by kernel_rfl, rfl, rfl, rfl, rfl, rfl, fun _ => rfl, rfl⟩
  · exact ⟨_, Try.t61, _, Try.underlying61, rfl, by kernel_rfl, rfl, rfl, rfl, rfl, rfl, (fun h => by cases h), rfl⟩
  · exact ⟨_, Try.t62, _, Try.underlying62, rfl, by kernel_rfl, rfl, rfl, rfl, rfl, rfl, fun _ => rfl, rfl⟩
  · exact ⟨_, Try.t66, _, Try.underlying66, rfl, by kernel_rfl, rfl, rfl, rfl, rfl, rfl, (fun h => by cases h), rfl⟩
  · exact ⟨_, Try.t67, _, Try.underlying67, rfl, by kernel_rfl, rfl, rfl, rfl, rfl, rfl, fun _ => rfl, rfl⟩
  · exact ⟨_, Try.t68, _, Try.underlying68, rfl, by kernel_rfl, rfl, rfl, rfl, rfl, rfl, fun _ => rfl, rfl⟩
  · exact ⟨_, Try.t70, _, Try.underlying70, rfl, by kernel_rfl, rfl, rfl, rfl, rfl, rfl, (fun h => by cases h), rfl⟩
theorem tok : TOk Try.prog T := tok_of tabok

theorem tcl : ∀ t i, T t = some i → closedAt T i = true := closed_of (by rfl)

def tabW : List (Nat × TI) := (73, ⟨.fn, 1, 8, [.nf]⟩) :: tab
def TW (t : Nat) : Option TI := look? t tabW
theorem tokW : TOk Try.prog TW := tok_of (by
  simp only [tabW, List.forall_mem_cons (l := tab)]
  exact ⟨⟨_, Try.t73, _, Try.underlying73, rfl, by kernel_rfl, rfl, rfl, rfl, rfl, rfl, fun _ => rfl, rfl⟩, tabok⟩)
theorem mixed : Try.prog.follows .mixedOrders = true := by kernel_rfl
end Go.Proofs.Ytjjljekedgdnnaa
