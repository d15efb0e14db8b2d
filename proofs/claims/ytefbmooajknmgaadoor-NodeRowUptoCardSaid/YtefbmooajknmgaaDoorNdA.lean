/-
  TABLES OF TYPES, printed by tabs.py.
-/
import Derived.Test.YtefbmooajknmgaaDoorMTyp
import Derived.Test.YtefbmooajknmgaaDoorProg
import Derived.KernelRfl
namespace Go.Proofs.YtefbmooajknmgaaDoor
open Go.Abs

def tab : List (Nat × TI) := [
  (3, ⟨.int .i64, 1, 8, [.int .i64 0]⟩),
  (4, ⟨.bool, 1, 1, [.bool false]⟩),
  (9, ⟨.str, 1, 16, [.str []]⟩),
  (24, ⟨.slice 26, 1, 24, [.sl 4 []]⟩),
  (26, ⟨.struct [(0, 3), (1, 9), (2, 3), (3, 24)], 4, 56, [.int .i64 0, .str [], .int .i64 0, .sl 4 []]⟩),
  (33, ⟨.slice 3, 1, 24, [.sl 1 []]⟩),
  (41, ⟨.arr 2 33, 2, 48, [.sl 1 [], .sl 1 []]⟩)]
def T (t : Nat) : Option TI := look? t tab

theorem tabok : ∀ p ∈ tab, okT Tryd.prog p.1 p.2 := by
  simp only [tab, List.forall_mem_cons]
  refine ⟨?_, ?_, ?_, ?_, ?_, ?_, ?_, by simp⟩
  · exact ⟨_, Tryd.t3, _, Tryd.underlying3, rfl, by kernel_rfl, rfl, rfl, rfl, rfl, rfl, fun _ => rfl, rfl⟩
  · exact ⟨_, Tryd.t4, _, Tryd.underlying4, rfl, by kernel_rfl, rfl, rfl, rfl, rfl, rfl, fun _ => rfl, rfl⟩
  · exact ⟨_, Tryd.t9, _, Tryd.underlying9, rfl, by kernel_rfl, rfl, rfl, rfl, rfl, rfl, fun _ => rfl, rfl⟩
  · exact ⟨_, Tryd.t24, _, Tryd.underlying24, rfl, by kernel_rfl, rfl, rfl, rfl, rfl, rfl, fun _ => rfl, rfl⟩
  · exact ⟨_, Tryd.t26, _, Tryd.underlying26, rfl, by kernel_rfl, rfl, rfl, rfl, rfl, rfl, (fun h => by cases h), rfl⟩
  · exact ⟨_, Tryd.t33, _, Tryd.underlying33, rfl, by kernel_rfl, rfl, rfl, rfl, rfl, rfl, fun _ => rfl, rfl⟩
  · exact ⟨_, Tryd.t41, _, Tryd.underlying41, rfl, by kernel_rfl, rfl, rfl, rfl, rfl, rfl, (fun h => by cases h), rfl⟩
theorem tok : TOk Tryd.prog T := tok_of tabok
theorem tcl : ∀ t i, T t = some i → closedAt T i = true := closed_of (by rfl)

def tabX : List (Nat × TI) := [
  (2, ⟨.int .i64, 1, 8, [.int .i64 0]⟩),
  (5, ⟨.int .u8, 1, 1, [.int .u8 0]⟩),
  (23, ⟨.fn, 1, 8, [.nf]⟩),
  (29, ⟨.fn, 1, 8, [.nf]⟩),
  (34, ⟨.int .i64, 1, 8, [.int .i64 0]⟩),
  (47, ⟨.slice 9, 1, 24, [.sl 1 []]⟩),
  (51, ⟨.ptr 61, 1, 8, [.np]⟩),
  (53, ⟨.struct [(0, 9), (1, 3), (2, 23)], 3, 32, [.str [], .int .i64 0, .nf]⟩),
  (54, ⟨.arr 13 53, 39, 416, [.str [], .int .i64 0, .nf, .str [], .int .i64 0, .nf, .str [], .int .i64 0, .nf, .str [], .int .i64 0, .nf, .str [], .int .i64 0, .nf, .str [], .int .i64 0, .nf, .str [], .int .i64 0, .nf, .str [], .int .i64 0, .nf, .str [], .int .i64 0, .nf, .str [], .int .i64 0, .nf, .str [], .int .i64 0, .nf, .str [], .int .i64 0, .nf, .str [], .int .i64 0, .nf]⟩),
  (56, ⟨.ptr 59, 1, 8, [.np]⟩),
  (57, ⟨.slice 5, 1, 24, [.sl 1 []]⟩),
  (59, ⟨.struct [(0, 56), (1, 57)], 2, 32, [.np, .sl 1 []]⟩),
  (61, ⟨.struct [(0, 54), (39, 59)], 41, 448, [.str [], .int .i64 0, .nf, .str [], .int .i64 0, .nf, .str [], .int .i64 0, .nf, .str [], .int .i64 0, .nf, .str [], .int .i64 0, .nf, .str [], .int .i64 0, .nf, .str [], .int .i64 0, .nf, .str [], .int .i64 0, .nf, .str [], .int .i64 0, .nf, .str [], .int .i64 0, .nf, .str [], .int .i64 0, .nf, .str [], .int .i64 0, .nf, .str [], .int .i64 0, .nf, .np, .sl 1 []]⟩),
  (63, ⟨.ptr 26, 1, 8, [.np]⟩),
  (65, ⟨.struct [(0, 63), (1, 3)], 2, 16, [.np, .int .i64 0]⟩),
  (66, ⟨.slice 65, 1, 24, [.sl 2 []]⟩),
  (67, ⟨.ptr 65, 1, 8, [.np]⟩),
  (72, ⟨.arr 13 9, 13, 208, [.str [], .str [], .str [], .str [], .str [], .str [], .str [], .str [], .str [], .str [], .str [], .str [], .str []]⟩),
  (77, ⟨.ptr 79, 1, 8, [.np]⟩),
  (79, ⟨.struct [(0, 54), (39, 3)], 40, 424, [.str [], .int .i64 0, .nf, .str [], .int .i64 0, .nf, .str [], .int .i64 0, .nf, .str [], .int .i64 0, .nf, .str [], .int .i64 0, .nf, .str [], .int .i64 0, .nf, .str [], .int .i64 0, .nf, .str [], .int .i64 0, .nf, .str [], .int .i64 0, .nf, .str [], .int .i64 0, .nf, .str [], .int .i64 0, .nf, .str [], .int .i64 0, .nf, .str [], .int .i64 0, .nf, .int .i64 0]⟩),
  (84, ⟨.fn, 1, 8, [.nf]⟩),
  (95, ⟨.ptr 5, 1, 8, [.np]⟩),
  (98, ⟨.struct [(0, 63), (1, 3)], 2, 16, [.np, .int .i64 0]⟩),
  (99, ⟨.slice 98, 1, 24, [.sl 2 []]⟩),
  (100, ⟨.slice 63, 1, 24, [.sl 1 []]⟩),
  (106, ⟨.int .u64, 1, 8, [.int .u64 0]⟩),
  (108, ⟨.int .u32, 1, 4, [.int .u32 0]⟩),
  (111, ⟨.arr 24 5, 24, 24, [.int .u8 0, .int .u8 0, .int .u8 0, .int .u8 0, .int .u8 0, .int .u8 0, .int .u8 0, .int .u8 0, .int .u8 0, .int .u8 0, .int .u8 0, .int .u8 0, .int .u8 0, .int .u8 0, .int .u8 0, .int .u8 0, .int .u8 0, .int .u8 0, .int .u8 0, .int .u8 0, .int .u8 0, .int .u8 0, .int .u8 0, .int .u8 0]⟩),
  (112, ⟨.int .u64, 1, 8, [.int .u64 0]⟩),
  (118, ⟨.arr 20 112, 20, 160, [.int .u64 0, .int .u64 0, .int .u64 0, .int .u64 0, .int .u64 0, .int .u64 0, .int .u64 0, .int .u64 0, .int .u64 0, .int .u64 0, .int .u64 0, .int .u64 0, .int .u64 0, .int .u64 0, .int .u64 0, .int .u64 0, .int .u64 0, .int .u64 0, .int .u64 0, .int .u64 0]⟩),
  (119, ⟨.arr 65 5, 65, 65, [.int .u8 0, .int .u8 0, .int .u8 0, .int .u8 0, .int .u8 0, .int .u8 0, .int .u8 0, .int .u8 0, .int .u8 0, .int .u8 0, .int .u8 0, .int .u8 0, .int .u8 0, .int .u8 0, .int .u8 0, .int .u8 0, .int .u8 0, .int .u8 0, .int .u8 0, .int .u8 0, .int .u8 0, .int .u8 0, .int .u8 0, .int .u8 0, .int .u8 0, .int .u8 0, .int .u8 0, .int .u8 0, .int .u8 0, .int .u8 0, .int .u8 0, .int .u8 0, .int .u8 0, .int .u8 0, .int .u8 0, .int .u8 0, .int .u8 0, .int .u8 0, .int .u8 0, .int .u8 0, .int .u8 0, .int .u8 0, .int .u8 0, .int .u8 0, .int .u8 0, .int .u8 0, .int .u8 0, .int .u8 0, .int .u8 0, .int .u8 0, .int .u8 0, .int .u8 0, .int .u8 0, .int .u8 0, .int .u8 0, .int .u8 0, .int .u8 0, .int .u8 0, .int .u8 0, .int .u8 0, .int .u8 0, .int .u8 0, .int .u8 0, .int .u8 0, .int .u8 0]⟩),
  (123, ⟨.arr 32 5, 32, 32, [.int .u8 0, .int .u8 0, .int .u8 0, .int .u8 0, .int .u8 0, .int .u8 0, .int .u8 0, .int .u8 0, .int .u8 0, .int .u8 0, .int .u8 0, .int .u8 0, .int .u8 0, .int .u8 0, .int .u8 0, .int .u8 0, .int .u8 0, .int .u8 0, .int .u8 0, .int .u8 0, .int .u8 0, .int .u8 0, .int .u8 0, .int .u8 0, .int .u8 0, .int .u8 0, .int .u8 0, .int .u8 0, .int .u8 0, .int .u8 0, .int .u8 0, .int .u8 0]⟩),
  (124, ⟨.arr 64 5, 64, 64, [.int .u8 0, .int .u8 0, .int .u8 0, .int .u8 0, .int .u8 0, .int .u8 0, .int .u8 0, .int .u8 0, .int .u8 0, .int .u8 0, .int .u8 0, .int .u8 0, .int .u8 0, .int .u8 0, .int .u8 0, .int .u8 0, .int .u8 0, .int .u8 0, .int .u8 0, .int .u8 0, .int .u8 0, .int .u8 0, .int .u8 0, .int .u8 0, .int .u8 0, .int .u8 0, .int .u8 0, .int .u8 0, .int .u8 0, .int .u8 0, .int .u8 0, .int .u8 0, .int .u8 0, .int .u8 0, .int .u8 0, .int .u8 0, .int .u8 0, .int .u8 0, .int .u8 0, .int .u8 0, .int .u8 0, .int .u8 0, .int .u8 0, .int .u8 0, .int .u8 0, .int .u8 0, .int .u8 0, .int .u8 0, .int .u8 0, .int .u8 0, .int .u8 0, .int .u8 0, .int .u8 0, .int .u8 0, .int .u8 0, .int .u8 0, .int .u8 0, .int .u8 0, .int .u8 0, .int .u8 0, .int .u8 0, .int .u8 0, .int .u8 0, .int .u8 0]⟩)]
theorem tabXok : ∀ p ∈ tabX, okT Tryd.prog p.1 p.2 := by
  simp only [tabX, List.forall_mem_cons]
  refine ⟨?_, ?_, ?_, ?_, ?_, ?_, ?_, ?_, ?_, ?_, ?_, ?_, ?_, ?_, ?_, ?_, ?_, ?_, ?_, ?_, ?_, ?_, ?_, ?_, ?_, ?_, ?_, ?_, ?_, ?_, ?_, ?_, ?_, by simp⟩
  · exact ⟨_, Tryd.t2, _, Tryd.underlying2, rfl, by kernel_rfl, rfl, rfl, rfl, rfl, rfl, fun _ => rfl, rfl⟩
  · exact ⟨_, Tryd.t5, _, Tryd.underlying5, rfl, by kernel_rfl, rfl, rfl, rfl, rfl, rfl, fun _ => rfl, rfl⟩
  · exact ⟨_, Tryd.t23, _, Tryd.underlying23, rfl, by kernel_rfl, rfl, rfl, rfl, rfl, rfl, fun _ => rfl, rfl⟩
  · exact ⟨_, Tryd.t29, _, Tryd.underlying29, rfl, by kernel_rfl, rfl, rfl, rfl, rfl, rfl, fun _ => rfl, rfl⟩
  · exact ⟨_, Tryd.t34, _, Tryd.underlying34, rfl, by kernel_rfl, rfl, rfl, rfl, rfl, rfl, fun _ => rfl, rfl⟩
  · exact ⟨_, Tryd.t47, _, Tryd.underlying47, rfl, by kernel_rfl, rfl, rfl, rfl, rfl, rfl, fun _ => rfl, rfl⟩
  · exact ⟨_, Tryd.t51, _, Tryd.underlying51, rfl, by kernel_rfl, rfl, rfl, rfl, rfl, rfl, fun _ => rfl, rfl⟩
  · exact ⟨_, Tryd.t53, _, Tryd.underlying53, rfl, by kernel_rfl, rfl, rfl, rfl, rfl, rfl, (fun h => by cases h), rfl⟩
  · exact ⟨_, Tryd.t54, _, Tryd.underlying54, rfl, by kernel_rfl, rfl, rfl, rfl, rfl, rfl, (fun h => by cases h), rfl⟩
  · exact ⟨_, Tryd.t56, _, Tryd.underlying56, rfl, by kernel_rfl, rfl, rfl, rfl, rfl, rfl, fun _ => rfl, rfl⟩
  · exact ⟨_, Tryd.t57, _, Tryd.underlying57, rfl, by kernel_rfl, rfl, rfl, rfl, rfl, rfl, fun _ => rfl, rfl⟩
  · exact ⟨_, Tryd.t59, _, Tryd.underlying59, rfl, by kernel_rfl, rfl, rfl, rfl, rfl, rfl, (fun h => by cases h), rfl⟩
  · exact ⟨_, Tryd.t61, _, Tryd.underlying61, rfl, by kernel_rfl, rfl, rfl, rfl, rfl, rfl, (fun h => by cases h), rfl⟩
  · exact ⟨_, Tryd.t63, _, Tryd.underlying63, rfl, by kernel_rfl, rfl, rfl, rfl, rfl, rfl, fun _ => rfl, rfl⟩
  · exact ⟨_, Tryd.t65, _, Tryd.underlying65, rfl, by kernel_rfl, rfl, rfl, rfl, rfl, rfl, (fun h => by cases h), rfl⟩
  · exact ⟨_, Tryd.t66, _, Tryd.underlying66, rfl, by kernel_rfl, rfl, rfl, rfl, rfl, rfl, fun _ => rfl, rfl⟩
  · exact ⟨_, Tryd.t67, _, Tryd.underlying67, rfl, by kernel_rfl, rfl, rfl, rfl, rfl, rfl, fun _ => rfl, rfl⟩
  · exact ⟨_, Tryd.t72, _, Tryd.underlying72, rfl, by kernel_rfl, rfl, rfl, rfl, rfl, rfl, (fun h => by cases h), rfl⟩
  · exact ⟨_, Tryd.t77, _, Tryd.underlying77, rfl, by kernel_rfl, rfl, rfl, rfl, rfl, rfl, fun _ => rfl, rfl⟩
  · exact ⟨_, Tryd.t79, _, Tryd.underlying79, rfl, by kernel_rfl, rfl, rfl, rfl, rfl, rfl, (fun h => by cases h), rfl⟩
  · exact ⟨_, Tryd.t84, _, Tryd.underlying84, rfl, by kernel_rfl, rfl, rfl, rfl, rfl, rfl, fun _ => rfl, rfl⟩
  · exact ⟨_, Tryd.t95, _, Tryd.underlying95, rfl, by kernel_rfl, rfl, rfl, rfl, rfl, rfl, fun _ => rfl, rfl⟩
  · exact ⟨_, Tryd.t98, _, Tryd.underlying98, rfl, by kernel_rfl, rfl, rfl, rfl, rfl, rfl, (fun h => by cases h), rfl⟩
  · exact ⟨_, Tryd.t99, _, Tryd.underlying99, rfl, by kernel_rfl, rfl, rfl, rfl, rfl, rfl, fun _ => rfl, rfl⟩
  · exact ⟨_, Tryd.t100, _, Tryd.underlying100, rfl, by kernel_rfl, rfl, rfl, rfl, rfl, rfl, fun _ => rfl, rfl⟩
  · exact ⟨_, Tryd.t106, _, Tryd.underlying106, rfl, by kernel_rfl, rfl, rfl, rfl, rfl, rfl, fun _ => rfl, rfl⟩
  · exact ⟨_, Tryd.t108, _, Tryd.underlying108, rfl, by kernel_rfl, rfl, rfl, rfl, rfl, rfl, fun _ => rfl, rfl⟩
  · exact ⟨_, Tryd.t111, _, Tryd.underlying111, rfl, by kernel_rfl, rfl, rfl, rfl, rfl, rfl, (fun h => by cases h), rfl⟩
  · exact ⟨_, Tryd.t112, _, Tryd.underlying112, rfl, by kernel_rfl, rfl, rfl, rfl, rfl, rfl, fun _ => rfl, rfl⟩
  · exact ⟨_, Tryd.t118, _, Tryd.underlying118, rfl, by kernel_rfl, rfl, rfl, rfl, rfl, rfl, (fun h => by cases h), rfl⟩
  · exact ⟨_, Tryd.t119, _, Tryd.underlying119, rfl, by kernel_rfl, rfl, rfl, rfl, rfl, rfl, (fun h => by cases h), rfl⟩
  · exact ⟨_, Tryd.t123, _, Tryd.underlying123, rfl, by kernel_rfl, rfl, rfl, rfl, rfl, rfl, (fun h => by cases h), rfl⟩
  · exact ⟨_, Tryd.t124, _, Tryd.underlying124, rfl, by kernel_rfl, rfl, rfl, rfl, rfl, rfl, (fun h => by cases h), rfl⟩
def TW (t : Nat) : Option TI := look? t (tab ++ tabX)
theorem tokW : TOk Tryd.prog TW := tok_of fun p hp => (List.mem_append.1 hp).elim (tabok p) (tabXok p)
theorem mixed : Tryd.prog.follows .mixedOrders = true := by kernel_rfl
end Go.Proofs.YtefbmooajknmgaaDoor
