/-
  TABLES OF TYPES, printed by tabs.py.
-/
import Derived.Test.YtplekejomocalaaMTyp
import Derived.Test.YtplekejomocalaaProg
import Derived.KernelRfl
namespace Go.Proofs.Ytplekejomocalaa
open Go.Abs

def tab : List (Nat × TI) := [
  (3, ⟨.int .i64, 1, 8, [.int .i64 0]⟩),
  (4, ⟨.bool, 1, 1, [.bool false]⟩),
  (9, ⟨.str, 1, 16, [.str []]⟩),
  (22, ⟨.slice 24, 1, 24, [.sl 4 []]⟩),
  (24, ⟨.struct [(0, 3), (1, 9), (2, 3), (3, 22)], 4, 56, [.int .i64 0, .str [], .int .i64 0, .sl 4 []]⟩),
  (32, ⟨.slice 37, 1, 24, [.sl 8 []]⟩),
  (35, ⟨.slice 3, 1, 24, [.sl 1 []]⟩),
  (37, ⟨.struct [(0, 3), (1, 35), (2, 3), (3, 3), (4, 22), (5, 3), (6, 9), (7, 9)], 8, 112, [.int .i64 0, .sl 1 [], .int .i64 0, .int .i64 0, .sl 4 [], .int .i64 0, .str [], .str []]⟩)]
def T (t : Nat) : Option TI := look? t tab

theorem tabok : ∀ p ∈ tab, okT Try.prog p.1 p.2 := by
  simp only [tab, List.forall_mem_cons]
  refine ⟨?_, ?_, ?_, ?_, ?_, ?_, ?_, ?_, by simp⟩
  · exact ⟨_, Try.t3, _, Try.underlying3, rfl, by kernel_rfl, rfl, rfl, rfl, rfl, rfl, fun _ => rfl, rfl⟩
  · exact ⟨_, Try.t4, _, Try.underlying4, rfl, by kernel_rfl, rfl, rfl, rfl, rfl, rfl, fun _ => rfl, rfl⟩
  · exact ⟨_, Try.t9, _, Try.underlying9, rfl, by kernel_rfl, rfl, rfl, rfl, rfl, rfl, fun _ => rfl, rfl⟩
  · exact ⟨_, Try.t22, _, Try.underlying22, rfl, by kernel_rfl, rfl, rfl, rfl, rfl, rfl, fun _ => rfl, rfl⟩
  · exact ⟨_, Try.t24, _, Try.underlying24, rfl, by kernel_rfl, rfl, rfl, rfl, rfl, rfl, (fun h => by cases h), rfl⟩
  · exact ⟨_, Try.t32, _, Try.underlying32, rfl, by kernel_rfl, rfl, rfl, rfl, rfl, rfl, fun _ => rfl, rfl⟩
  · exact ⟨_, Try.t35, _, Try.underlying35, rfl, by kernel_rfl, rfl, rfl, rfl, rfl, rfl, fun _ => rfl, rfl⟩
  · exact ⟨_, Try.t37, _, Try.underlying37, rfl, by kernel_rfl, rfl, rfl, rfl, rfl, rfl, (fun h => by cases h), rfl⟩
theorem tok : TOk Try.prog T := tok_of tabok
theorem tcl : ∀ t i, T t = some i → closedAt T i = true := closed_of (by rfl)

def tabX : List (Nat × TI) := [
  (5, ⟨.int .u8, 1, 1, [.int .u8 0]⟩),
  (27, ⟨.int .i64, 1, 8, [.int .i64 0]⟩),
  (46, ⟨.slice 35, 1, 24, [.sl 1 []]⟩),
  (48, ⟨.struct [(0, 46), (1, 46), (2, 35), (3, 35)], 4, 96, [.sl 1 [], .sl 1 [], .sl 1 [], .sl 1 []]⟩),
  (58, ⟨.ptr 24, 1, 8, [.np]⟩),
  (65, ⟨.fn, 1, 8, [.nf]⟩),
  (66, ⟨.ptr 73, 1, 8, [.np]⟩),
  (67, ⟨.fn, 1, 8, [.nf]⟩),
  (69, ⟨.struct [(0, 9), (1, 3), (2, 67)], 3, 32, [.str [], .int .i64 0, .nf]⟩),
  (70, ⟨.arr 13 69, 39, 416, [.str [], .int .i64 0, .nf, .str [], .int .i64 0, .nf, .str [], .int .i64 0, .nf, .str [], .int .i64 0, .nf, .str [], .int .i64 0, .nf, .str [], .int .i64 0, .nf, .str [], .int .i64 0, .nf, .str [], .int .i64 0, .nf, .str [], .int .i64 0, .nf, .str [], .int .i64 0, .nf, .str [], .int .i64 0, .nf, .str [], .int .i64 0, .nf, .str [], .int .i64 0, .nf]⟩),
  (73, ⟨.struct [(0, 70), (39, 3)], 40, 424, [.str [], .int .i64 0, .nf, .str [], .int .i64 0, .nf, .str [], .int .i64 0, .nf, .str [], .int .i64 0, .nf, .str [], .int .i64 0, .nf, .str [], .int .i64 0, .nf, .str [], .int .i64 0, .nf, .str [], .int .i64 0, .nf, .str [], .int .i64 0, .nf, .str [], .int .i64 0, .nf, .str [], .int .i64 0, .nf, .str [], .int .i64 0, .nf, .str [], .int .i64 0, .nf, .int .i64 0]⟩),
  (76, ⟨.slice 9, 1, 24, [.sl 1 []]⟩),
  (87, ⟨.struct [(0, 58), (1, 3)], 2, 16, [.np, .int .i64 0]⟩),
  (88, ⟨.slice 87, 1, 24, [.sl 2 []]⟩),
  (97, ⟨.int .u64, 1, 8, [.int .u64 0]⟩),
  (98, ⟨.int .u32, 1, 4, [.int .u32 0]⟩)]
theorem tabXok : ∀ p ∈ tabX, okT Try.prog p.1 p.2 := by
  simp only [tabX, List.forall_mem_cons]
  refine ⟨?_, ?_, ?_, ?_, ?_, ?_, ?_, ?_, ?_, ?_, ?_, ?_, ?_, ?_, ?_, ?_, by simp⟩
  · exact ⟨_, Try.t5, _, Try.underlying5, rfl, by kernel_rfl, rfl, rfl, rfl, rfl, rfl, fun _ => rfl, rfl⟩
  · exact ⟨_, Try.t27, _, Try.underlying27, rfl, by kernel_rfl, rfl, rfl, rfl, rfl, rfl, fun _ => rfl, rfl⟩
  · exact ⟨_, Try.t46, _, Try.underlying46, rfl, by kernel_rfl, rfl, rfl, rfl, rfl, rfl, fun _ => rfl, rfl⟩
  · exact ⟨_, Try.t48, _, Try.underlying48, rfl, by kernel_rfl, rfl, rfl, rfl, rfl, rfl, (fun h => by cases h), rfl⟩
  · exact ⟨_, Try.t58, _, Try.underlying58, rfl, by kernel_rfl, rfl, rfl, rfl, rfl, rfl, fun _ => rfl, rfl⟩
  · exact ⟨_, Try.t65, _, Try.underlying65, rfl, by kernel_rfl, rfl, rfl, rfl, rfl, rfl, fun _ => rfl, rfl⟩
  · exact ⟨_, Try.t66, _, Try.underlying66, rfl, by kernel_rfl, rfl, rfl, rfl, rfl, rfl, fun _ => rfl, rfl⟩
  · exact ⟨_, Try.t67, _, Try.underlying67, rfl, by kernel_rfl, rfl, rfl, rfl, rfl, rfl, fun _ => rfl, rfl⟩
  · exact ⟨_, Try.t69, _, Try.underlying69, rfl, by kernel_rfl, rfl, rfl, rfl, rfl, rfl, (fun h => by cases h), rfl⟩
  · exact ⟨_, Try.t70, _, Try.underlying70, rfl, by kernel_rfl, rfl, rfl, rfl, rfl, rfl, (fun h => by cases h), rfl⟩
  · exact ⟨_, Try.t73, _, Try.underlying73, rfl, by kernel_rfl, rfl, rfl, rfl, rfl, rfl, (fun h => by cases h), rfl⟩
  · exact ⟨_, Try.t76, _, Try.underlying76, rfl, by kernel_rfl, rfl, rfl, rfl, rfl, rfl, fun _ => rfl, rfl⟩
  · exact ⟨_, Try.t87, _, Try.underlying87, rfl, by kernel_rfl, rfl, rfl, rfl, rfl, rfl, (fun h => by cases h), rfl⟩
  · exact ⟨_, Try.t88, _, Try.underlying88, rfl, by kernel_rfl, rfl, rfl, rfl, rfl, rfl, fun _ => rfl, rfl⟩
  · exact ⟨_, Try.t97, _, Try.underlying97, rfl, by kernel_rfl, rfl, rfl, rfl, rfl, rfl, fun _ => rfl, rfl⟩
  · exact ⟨_, Try.t98, _, Try.underlying98, rfl, by kernel_rfl, rfl, rfl, rfl, rfl, rfl, fun _ => rfl, rfl⟩
def TW (t : Nat) : Option TI := look? t (tab ++ tabX)
theorem tokW : TOk Try.prog TW := tok_of fun p hp => (List.mem_append.1 hp).elim (tabok p) (tabXok p)
theorem mixed : Try.prog.follows .mixedOrders = true := by kernel_rfl
end Go.Proofs.Ytplekejomocalaa
