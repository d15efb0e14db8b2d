/-
  TABLES OF TYPES, printed by tabs.py.
-/
import Derived.Test.YtplekejomocalaaDoorMTyp
import Derived.Test.YtplekejomocalaaDoorProg
import Derived.KernelRfl
namespace Go.Proofs.YtplekejomocalaaDoor
open Go.Abs

def tab : List (Nat × TI) := [
  (3, ⟨.int .i64, 1, 8, [.int .i64 0]⟩),
  (4, ⟨.bool, 1, 1, [.bool false]⟩),
  (9, ⟨.str, 1, 16, [.str []]⟩),
  (22, ⟨.slice 24, 1, 24, [.sl 4 []]⟩),
  (24, ⟨.struct [(0, 3), (1, 9), (2, 3), (3, 22)], 4, 56, [.int .i64 0, .str [], .int .i64 0, .sl 4 []]⟩)]
def T (t : Nat) : Option TI := look? t tab

theorem tabok : ∀ p ∈ tab, okT Tryd.prog p.1 p.2 := by
  simp only [tab, List.forall_mem_cons]
  refine ⟨?_, ?_, ?_, ?_, ?_, by simp⟩
  · exact ⟨_, Tryd.t3, _, Tryd.underlying3, rfl, by kernel_rfl, rfl, rfl, rfl, rfl, rfl, fun _ => rfl, rfl⟩
  · exact ⟨_, Tryd.t4, _, Tryd.underlying4, rfl, by kernel_rfl, rfl, rfl, rfl, rfl, rfl, fun _ => rfl, rfl⟩
  · exact ⟨_, Tryd.t9, _, Tryd.underlying9, rfl, by kernel_rfl, rfl, rfl, rfl, rfl, rfl, fun _ => rfl, rfl⟩
  · exact ⟨_, Tryd.t22, _, Tryd.underlying22, rfl, by kernel_rfl, rfl, rfl, rfl, rfl, rfl, fun _ => rfl, rfl⟩
  · exact ⟨_, Tryd.t24, _, Tryd.underlying24, rfl, by kernel_rfl, rfl, rfl, rfl, rfl, rfl, (fun h => by cases h), rfl⟩
theorem tok : TOk Tryd.prog T := tok_of tabok
theorem tcl : ∀ t i, T t = some i → closedAt T i = true := closed_of (by rfl)

def tabX : List (Nat × TI) := [
  (2, ⟨.int .i64, 1, 8, [.int .i64 0]⟩),
  (5, ⟨.int .u8, 1, 1, [.int .u8 0]⟩),
  (27, ⟨.slice 34, 1, 24, [.sl 2 []]⟩),
  (28, ⟨.int .i64, 1, 8, [.int .i64 0]⟩),
  (34, ⟨.arr 2 3, 2, 16, [.int .i64 0, .int .i64 0]⟩),
  (40, ⟨.slice 42, 1, 24, [.sl 1 []]⟩),
  (42, ⟨.slice 3, 1, 24, [.sl 1 []]⟩),
  (46, ⟨.struct [(0, 40), (1, 40), (2, 42), (3, 42)], 4, 96, [.sl 1 [], .sl 1 [], .sl 1 [], .sl 1 []]⟩),
  (49, ⟨.arr 13 9, 13, 208, [.str [], .str [], .str [], .str [], .str [], .str [], .str [], .str [], .str [], .str [], .str [], .str [], .str []]⟩),
  (54, ⟨.ptr 24, 1, 8, [.np]⟩),
  (55, ⟨.ptr 62, 1, 8, [.np]⟩),
  (56, ⟨.fn, 1, 8, [.nf]⟩),
  (58, ⟨.struct [(0, 9), (1, 3), (2, 56)], 3, 32, [.str [], .int .i64 0, .nf]⟩),
  (59, ⟨.arr 13 58, 39, 416, [.str [], .int .i64 0, .nf, .str [], .int .i64 0, .nf, .str [], .int .i64 0, .nf, .str [], .int .i64 0, .nf, .str [], .int .i64 0, .nf, .str [], .int .i64 0, .nf, .str [], .int .i64 0, .nf, .str [], .int .i64 0, .nf, .str [], .int .i64 0, .nf, .str [], .int .i64 0, .nf, .str [], .int .i64 0, .nf, .str [], .int .i64 0, .nf, .str [], .int .i64 0, .nf]⟩),
  (62, ⟨.struct [(0, 59), (39, 3)], 40, 424, [.str [], .int .i64 0, .nf, .str [], .int .i64 0, .nf, .str [], .int .i64 0, .nf, .str [], .int .i64 0, .nf, .str [], .int .i64 0, .nf, .str [], .int .i64 0, .nf, .str [], .int .i64 0, .nf, .str [], .int .i64 0, .nf, .str [], .int .i64 0, .nf, .str [], .int .i64 0, .nf, .str [], .int .i64 0, .nf, .str [], .int .i64 0, .nf, .str [], .int .i64 0, .nf, .int .i64 0]⟩),
  (64, ⟨.ptr 70, 1, 8, [.np]⟩),
  (65, ⟨.ptr 68, 1, 8, [.np]⟩),
  (66, ⟨.slice 5, 1, 24, [.sl 1 []]⟩),
  (68, ⟨.struct [(0, 65), (1, 66)], 2, 32, [.np, .sl 1 []]⟩),
  (70, ⟨.struct [(0, 59), (39, 68)], 41, 448, [.str [], .int .i64 0, .nf, .str [], .int .i64 0, .nf, .str [], .int .i64 0, .nf, .str [], .int .i64 0, .nf, .str [], .int .i64 0, .nf, .str [], .int .i64 0, .nf, .str [], .int .i64 0, .nf, .str [], .int .i64 0, .nf, .str [], .int .i64 0, .nf, .str [], .int .i64 0, .nf, .str [], .int .i64 0, .nf, .str [], .int .i64 0, .nf, .str [], .int .i64 0, .nf, .np, .sl 1 []]⟩),
  (73, ⟨.struct [(0, 54), (1, 3)], 2, 16, [.np, .int .i64 0]⟩),
  (74, ⟨.slice 73, 1, 24, [.sl 2 []]⟩),
  (75, ⟨.ptr 73, 1, 8, [.np]⟩),
  (81, ⟨.slice 9, 1, 24, [.sl 1 []]⟩),
  (87, ⟨.ptr 5, 1, 8, [.np]⟩),
  (90, ⟨.fn, 1, 8, [.nf]⟩),
  (98, ⟨.struct [(0, 54), (1, 3)], 2, 16, [.np, .int .i64 0]⟩),
  (99, ⟨.slice 98, 1, 24, [.sl 2 []]⟩),
  (102, ⟨.arr 24 5, 24, 24, [.int .u8 0, .int .u8 0, .int .u8 0, .int .u8 0, .int .u8 0, .int .u8 0, .int .u8 0, .int .u8 0, .int .u8 0, .int .u8 0, .int .u8 0, .int .u8 0, .int .u8 0, .int .u8 0, .int .u8 0, .int .u8 0, .int .u8 0, .int .u8 0, .int .u8 0, .int .u8 0, .int .u8 0, .int .u8 0, .int .u8 0, .int .u8 0]⟩),
  (103, ⟨.int .u64, 1, 8, [.int .u64 0]⟩),
  (109, ⟨.int .u64, 1, 8, [.int .u64 0]⟩),
  (111, ⟨.arr 20 103, 20, 160, [.int .u64 0, .int .u64 0, .int .u64 0, .int .u64 0, .int .u64 0, .int .u64 0, .int .u64 0, .int .u64 0, .int .u64 0, .int .u64 0, .int .u64 0, .int .u64 0, .int .u64 0, .int .u64 0, .int .u64 0, .int .u64 0, .int .u64 0, .int .u64 0, .int .u64 0, .int .u64 0]⟩),
  (112, ⟨.int .u32, 1, 4, [.int .u32 0]⟩),
  (113, ⟨.arr 65 5, 65, 65, [.int .u8 0, .int .u8 0, .int .u8 0, .int .u8 0, .int .u8 0, .int .u8 0, .int .u8 0, .int .u8 0, .int .u8 0, .int .u8 0, .int .u8 0, .int .u8 0, .int .u8 0, .int .u8 0, .int .u8 0, .int .u8 0, .int .u8 0, .int .u8 0, .int .u8 0, .int .u8 0, .int .u8 0, .int .u8 0, .int .u8 0, .int .u8 0, .int .u8 0, .int .u8 0, .int .u8 0, .int .u8 0, .int .u8 0, .int .u8 0, .int .u8 0, .int .u8 0, .int .u8 0, .int .u8 0, .int .u8 0, .int .u8 0, .int .u8 0, .int .u8 0, .int .u8 0, .int .u8 0, .int .u8 0, .int .u8 0, .int .u8 0, .int .u8 0, .int .u8 0, .int .u8 0, .int .u8 0, .int .u8 0, .int .u8 0, .int .u8 0, .int .u8 0, .int .u8 0, .int .u8 0, .int .u8 0, .int .u8 0, .int .u8 0, .int .u8 0, .int .u8 0, .int .u8 0, .int .u8 0, .int .u8 0, .int .u8 0, .int .u8 0, .int .u8 0, .int .u8 0]⟩),
  (119, ⟨.arr 32 5, 32, 32, [.int .u8 0, .int .u8 0, .int .u8 0, .int .u8 0, .int .u8 0, .int .u8 0, .int .u8 0, .int .u8 0, .int .u8 0, .int .u8 0, .int .u8 0, .int .u8 0, .int .u8 0, .int .u8 0, .int .u8 0, .int .u8 0, .int .u8 0, .int .u8 0, .int .u8 0, .int .u8 0, .int .u8 0, .int .u8 0, .int .u8 0, .int .u8 0, .int .u8 0, .int .u8 0, .int .u8 0, .int .u8 0, .int .u8 0, .int .u8 0, .int .u8 0, .int .u8 0]⟩),
  (120, ⟨.arr 64 5, 64, 64, [.int .u8 0, .int .u8 0, .int .u8 0, .int .u8 0, .int .u8 0, .int .u8 0, .int .u8 0, .int .u8 0, .int .u8 0, .int .u8 0, .int .u8 0, .int .u8 0, .int .u8 0, .int .u8 0, .int .u8 0, .int .u8 0, .int .u8 0, .int .u8 0, .int .u8 0, .int .u8 0, .int .u8 0, .int .u8 0, .int .u8 0, .int .u8 0, .int .u8 0, .int .u8 0, .int .u8 0, .int .u8 0, .int .u8 0, .int .u8 0, .int .u8 0, .int .u8 0, .int .u8 0, .int .u8 0, .int .u8 0, .int .u8 0, .int .u8 0, .int .u8 0, .int .u8 0, .int .u8 0, .int .u8 0, .int .u8 0, .int .u8 0, .int .u8 0, .int .u8 0, .int .u8 0, .int .u8 0, .int .u8 0, .int .u8 0, .int .u8 0, .int .u8 0, .int .u8 0, .int .u8 0, .int .u8 0, .int .u8 0, .int .u8 0, .int .u8 0, .int .u8 0, .int .u8 0, .int .u8 0, .int .u8 0, .int .u8 0, .int .u8 0, .int .u8 0]⟩)]
theorem tabXok : ∀ p ∈ tabX, okT Tryd.prog p.1 p.2 := by
  simp only [tabX, List.forall_mem_cons]
  refine ⟨?_, ?_, ?_, ?_, ?_, ?_, ?_, ?_, ?_, ?_, ?_, ?_, ?_, ?_, ?_, ?_, ?_, ?_, ?_, ?_, ?_, ?_, ?_, ?_, ?_, ?_, ?_, ?_, ?_, ?_, ?_, ?_, ?_, ?_, ?_, ?_, by simp⟩
  · exact ⟨_, Tryd.t2, _, Tryd.underlying2, rfl, by kernel_rfl, rfl, rfl, rfl, rfl, rfl, fun _ => rfl, rfl⟩
  · exact ⟨_, Tryd.t5, _, Tryd.underlying5, rfl, by kernel_rfl, rfl, rfl, rfl, rfl, rfl, fun _ => rfl, rfl⟩
  · exact ⟨_, Tryd.t27, _, Tryd.underlying27, rfl, by kernel_rfl, rfl, rfl, rfl, rfl, rfl, fun _ => rfl, rfl⟩
  · exact ⟨_, Tryd.t28, _, Tryd.underlying28, rfl, by kernel_rfl, rfl, rfl, rfl, rfl, rfl, fun _ => rfl, rfl⟩
  · exact ⟨_, Tryd.t34, _, Tryd.underlying34, rfl, by kernel_rfl, rfl, rfl, rfl, rfl, rfl, (fun h => by cases h), rfl⟩
  · exact ⟨_, Tryd.t40, _, Tryd.underlying40, rfl, by kernel_rfl, rfl, rfl, rfl, rfl, rfl, fun _ => rfl, rfl⟩
  · exact ⟨_, Tryd.t42, _, Tryd.underlying42, rfl, by kernel_rfl, rfl, rfl, rfl, rfl, rfl, fun _ => rfl, rfl⟩
  · exact ⟨_, Tryd.t46, _, Tryd.underlying46, rfl, by kernel_rfl, rfl, rfl, rfl, rfl, rfl, (fun h => by cases h), rfl⟩
  · exact ⟨_, Tryd.t49, _, Tryd.underlying49, rfl, by kernel_rfl, rfl, rfl, rfl, rfl, rfl, (fun h => by cases h), rfl⟩
  · exact ⟨_, Tryd.t54, _, Tryd.underlying54, rfl, by kernel_rfl, rfl, rfl, rfl, rfl, rfl, fun _ => rfl, rfl⟩
  · exact ⟨_, Tryd.t55, _, Tryd.underlying55, rfl, by kernel_rfl, rfl, rfl, rfl, rfl, rfl, fun _ => rfl, rfl⟩
  · exact ⟨_, Tryd.t56, _, Tryd.underlying56, rfl, by kernel_rfl, rfl, rfl, rfl, rfl, rfl, fun _ => rfl, rfl⟩
  · exact ⟨_, Tryd.t58, _, Tryd.underlying58, rfl, by kernel_rfl, rfl, rfl, rfl, rfl, rfl, (fun h => by cases h), rfl⟩
  · exact ⟨_, Tryd.t59, _, Tryd.underlying59, rfl, by kernel_rfl, rfl, rfl, rfl, rfl, rfl, (fun h => by cases h), rfl⟩
  · exact ⟨_, Tryd.t62, _, Tryd.underlying62, rfl, by kernel_rfl, rfl, rfl, rfl, rfl, rfl, (fun h => by cases h), rfl⟩
  · exact ⟨_, Tryd.t64, _, Tryd.underlying64, rfl, by kernel_rfl, rfl, rfl, rfl, rfl, rfl, fun _ => rfl, rfl⟩
  · exact ⟨_, Tryd.t65, _, Tryd.underlying65, rfl, by kernel_rfl, rfl, rfl, rfl, rfl, rfl, fun _ => rfl, rfl⟩
  · exact ⟨_, Tryd.t66, _, Tryd.underlying66, rfl, by kernel_rfl, rfl, rfl, rfl, rfl, rfl, fun _ => rfl, rfl⟩
  · exact ⟨_, Tryd.t68, _, Tryd.underlying68, rfl, by kernel_rfl, rfl, rfl, rfl, rfl, rfl, (fun h => by cases h), rfl⟩
  · exact ⟨_, Tryd.t70, _, Tryd.underlying70, rfl, by kernel_rfl, rfl, rfl, rfl, rfl, rfl, (fun h => by cases h), rfl⟩
  · exact ⟨_, Tryd.t73, _, Tryd.underlying73, rfl, by kernel_rfl, rfl, rfl, rfl, rfl, rfl, (fun h => by cases h), rfl⟩
  · exact ⟨_, Tryd.t74, _, Tryd.underlying74, rfl, by kernel_rfl, rfl, rfl, rfl, rfl, rfl, fun _ => rfl, rfl⟩
  · exact ⟨_, Tryd.t75, _, Tryd.underlying75, rfl, by kernel_rfl, rfl, rfl, rfl, rfl, rfl, fun _ => rfl, rfl⟩
  · exact ⟨_, Tryd.t81, _, Tryd.underlying81, rfl, by kernel_rfl, rfl, rfl, rfl, rfl, rfl, fun _ => rfl, rfl⟩
  · exact ⟨_, Tryd.t87, _, Tryd.underlying87, rfl, by kernel_rfl, rfl, rfl, rfl, rfl, rfl, fun _ => rfl, rfl⟩
  · exact ⟨_, Tryd.t90, _, Tryd.underlying90, rfl, by kernel_rfl, rfl, rfl, rfl, rfl, rfl, fun _ => rfl, rfl⟩
  · exact ⟨_, Tryd.t98, _, Tryd.underlying98, rfl, by kernel_rfl, rfl, rfl, rfl, rfl, rfl, (fun h => by cases h), rfl⟩
  · exact ⟨_, Tryd.t99, _, Tryd.underlying99, rfl, by kernel_rfl, rfl, rfl, rfl, rfl, rfl, fun _ => rfl, rfl⟩
  · exact ⟨_, Tryd.t102, _, Tryd.underlying102, rfl, by kernel_rfl, rfl, rfl, rfl, rfl, rfl, (fun h => by cases h), rfl⟩
  · exact ⟨_, Tryd.t103, _, Tryd.underlying103, rfl, by kernel_rfl, rfl, rfl, rfl, rfl, rfl, fun _ => rfl, rfl⟩
  · exact ⟨_, Tryd.t109, _, Tryd.underlying109, rfl, by kernel_rfl, rfl, rfl, rfl, rfl, rfl, fun _ => rfl, rfl⟩
  · exact ⟨_, Tryd.t111, _, Tryd.underlying111, rfl, by kernel_rfl, rfl, rfl, rfl, rfl, rfl, (fun h => by cases h), rfl⟩
  · exact ⟨_, Tryd.t112, _, Tryd.underlying112, rfl, by kernel_rfl, rfl, rfl, rfl, rfl, rfl, fun _ => rfl, rfl⟩
  · exact ⟨_, Tryd.t113, _, Tryd.underlying113, rfl, by kernel_rfl, rfl, rfl, rfl, rfl, rfl, (fun h => by cases h), rfl⟩
  · exact ⟨_, Tryd.t119, _, Tryd.underlying119, rfl, by kernel_rfl, rfl, rfl, rfl, rfl, rfl, (fun h => by cases h), rfl⟩
  · exact ⟨_, Tryd.t120, _, Tryd.underlying120, rfl, by kernel_rfl, rfl, rfl, rfl, rfl, rfl, (fun h => by cases h), rfl⟩
def TW (t : Nat) : Option TI := look? t (tab ++ tabX)
theorem tokW : TOk Tryd.prog TW := tok_of fun p hp => (List.mem_append.1 hp).elim (tabok p) (tabXok p)
theorem mixed : Tryd.prog.follows .mixedOrders = true := by kernel_rfl
end Go.Proofs.YtplekejomocalaaDoor
