/-
  Contracts of strings.Builder's methods over a builder that is a field of a struct of the caller's own, and strconv.Itoa's.
-/
import Derived.Test.YtefbmooajknmgaaDoorLibS
import Derived.Test.YtefbmooajknmgaaDoorLibI
import Derived.Test.YtefbmooajknmgaaDoorAbsV
import Derived.Test.YtefbmooajknmgaaDoorMNod
import Derived.Lib.Builder
import Derived.Lib.AppendStr
import Derived.Lib.UnsafeStr
import Derived.Laws.Externs
import Derived.Shelf.RegionOpenPlain
set_option linter.unusedVariables false
namespace Go.Proofs

set_option maxHeartbeats 1000000 in
set_option maxRecDepth 100000 in
/-- copyCheck at a builder that has been used: nothing turns. -/
theorem Tryd.bld_check_used (b off : Nat) (w : World) (h0 : w.cell? ⟨b, off, none⟩ = some (.pointer (some ⟨b, off, none⟩))) :
    Calls Tryd.prog 78 #[.pointer (some ⟨b, off, none⟩)] w fun e w' => e = .returned (.tuple #[]) ∧ w' = w := by
  have hj : Tryd.prog.info? 59 = some Tryd.t59 := by kernel_rfl
  go_enter Tryd.func78, Tryd.ntmps78
  go_wp2
  rw [Lib.run_neq_ptr_same w _ Tryd.underlying56 hj]
  go_wp2
  go_end0
  exact ⟨rfl, rfl⟩

set_option maxHeartbeats 1000000 in
set_option maxRecDepth 100000 in
/-- copyCheck at a fresh builder: it stores its own address. -/
theorem Tryd.bld_check_fresh (b : Nat) (w : World) (h0 : w.cell? ⟨b, 39, none⟩ = some (.pointer none)) (hsh : w.shape? b = some (61, 41)) (hfz : w.frozen? ⟨b, 39, none⟩ = false) :
    Calls Tryd.prog 78 #[.pointer (some ⟨b, 39, none⟩)] w fun e w' => e = .returned (.tuple #[]) ∧ w' = w.setCell ⟨b, 39, none⟩ (.pointer (some ⟨b, 39, none⟩)) := by
  have hj : Tryd.prog.info? 59 = some Tryd.t59 := by kernel_rfl
  have hjs : Tryd.t59.size ≠ 0 := by decide
  have hlies : liesAt Tryd.prog Tryd.prog.depth 61 (41 / Tryd.prog.cellsOf 61) 39 59 1 = true := by kernel_rfl
  go_enter Tryd.func78, Tryd.ntmps78
  go_wp2
  rw [Lib.run_to_unsafe w ⟨b, 39, none⟩ Tryd.underlying56 Tryd.underlying103 hj hjs hsh (show (39 : Nat) < 41 by decide)]
  simp only [Result.andThen]
  rw [Oper.upon_value]
  go_wp2
  rw [run_callFunc_extern Tryd.func86 (by kernel_rfl) (by kernel_rfl) (by kernel_rfl) (e := Extern.AbiNoEscape.same) (by kernel_rfl)]
  rw [Lib.run_noEscape]
  simp only [Result.andThen]
  rw [Oper.upon_value]
  go_wp2
  rw [Lib.run_from_unsafe w ⟨b, 39, none⟩ Tryd.underlying103 Tryd.underlying56 hj hsh hlies]
  simp only [Result.andThen]
  rw [Oper.upon_value]
  go_wp2
  go_end0
  exact ⟨rfl, rfl⟩

set_option maxHeartbeats 2000000 in
set_option maxRecDepth 100000 in
/-- String at a builder that holds a byte. -/
theorem Tryd.bld_String (b g cap : Nat) (l : List UInt8) (w : World) (cur : Array Value) (h0 : l ≠ []) (hb : w.cell? ⟨b, 40, none⟩ = some (.slice (some ⟨g, 0, none⟩) l.length cap)) (hg : w.heap[g]? = some (.cells cur 5 (0, 0))) (hc : cur.size = cap * 1) (hle : l.length ≤ cap) (hm : l.length ≤ 9223372036854775807)
    (hx : ∀ (j : Nat) x, l[j]? = some x → cur[j]? = some (.int .u8 x.toNat)) :
    Calls Tryd.prog 54 #[.pointer (some ⟨b, 39, none⟩)] w fun e w' => e = .returned (.string ⟨l.toArray⟩) ∧ w' = w.drew.freeze ⟨g, 0, none⟩ l.length := by
  have hl0 : l.length ≠ 0 := by simpa using h0
  have c1 : w.drew.cell? ⟨b, 40, none⟩ = some (.slice (some ⟨g, 0, none⟩) l.length cap) := hb
  have hSD : (Builtin.unsafeSliceData_ #[57] 95 #[.slice (some ⟨g, 0, none⟩) l.length cap]).run Tryd.prog w.drew = .ok (.pointer (some ⟨g, 0, none⟩)) w.drew :=
    Lib.run_unsafeSliceData_row _ _ _ _ _ _ (by omega)
  have hg' : w.drew.heap[g]? = some (.cells cur 5 (0, 0)) := hg
  have hUS : (Builtin.unsafeString_ #[95, 3] 9 #[.pointer (some ⟨g, 0, none⟩), .int .i64 l.length]).run Tryd.prog w.drew = .ok (.string ⟨l.toArray⟩) (w.drew.freeze ⟨g, 0, none⟩ l.length) := by
    refine Lib.run_unsafeString_row w.drew 95 3 9 5 Tryd.underlying95 (by kernel_rfl) g cur.size (by simp [World.shape?, hg']) l h0 (by omega) hm ?_
    intro j x hx'
    have e : (Addr.mk g 0 none).add j = ⟨g, j, none⟩ := by
      unfold Addr.add
      split
      · rename_i e; rw [e]
      · simp
    rw [e]
    simp only [World.cell?, hg']
    exact hx j x hx'
  have mixed : Tryd.prog.follows .mixedOrders = true := by kernel_rfl
  go_enter Tryd.func54, Tryd.ntmps54
  go_wp2
  go_region_o
  all_goals (go_wp2; go_ret; exact ⟨rfl, rfl⟩)
end Go.Proofs
namespace Go.Proofs.YtefbmooajknmgaaDoor
open Go.Abs

/-- The cells of the dumper's table. -/
def kcells : List AV := [.s (.str []), .s (.int .i64 0), .s .nf, .s (.str [114, 111, 119]), .s (.int .i64 0), .s (.fn 73), .s (.str [115, 121, 109]), .s (.int .i64 0), .s (.fn 12), .s (.str [110, 117, 109]), .s (.int .i64 0), .s (.fn 14), .s (.str [116, 101, 120, 116]), .s (.int .i64 0), .s (.fn 74), .s (.str [102, 114, 97, 99]), .s (.int .i64 2), .s (.fn 73), .s (.str [114, 111, 111, 116]), .s (.int .i64 2), .s (.fn 73), .s (.str [115, 117, 98]), .s (.int .i64 2), .s (.fn 73), .s (.str [115, 117, 112]), .s (.int .i64 2), .s (.fn 73), .s (.str [98, 111, 116, 104]), .s (.int .i64 3), .s (.fn 73), .s (.str [97, 99, 99, 101, 110, 116]), .s (.int .i64 1), .s (.fn 42), .s (.str [102, 101, 110, 99, 101]), .s (.int .i64 1), .s (.fn 75), .s (.str [109, 97, 116, 114, 105, 120]), .s (.int .i64 0), .s (.fn 73)]
def bcells (a b : AV) : List AV := kcells ++ [a, b]
theorem bcells_pers {a b : AV} : ∀ (i : Nat) (x : AV), (bcells a b)[i]? = some x → i ≠ 39 → i ≠ 40 → x.pers = true := fun i x h h1 h2 => by
  have hk : kcells.all AV.pers = true := by decide
  have hl : kcells.length = 39 := rfl
  unfold bcells at h
  rw [List.getElem?_append] at h
  split at h
  · exact List.all_eq_true.1 hk x (List.mem_of_getElem? h)
  · rw [hl] at h
    have : i - 39 < 2 := by have := (List.getElem?_eq_some_iff.1 h).1; simpa using this
    omega

theorem bld_check_used' (b : Nat) (w : World) (cur : Array Value) (h : w.heap[b]? = some (.cells cur 61 (0, 0))) (hc : cur[39]? = some (.pointer (some ⟨b, 39, none⟩))) :
    Calls Tryd.prog 78 #[.pointer (some ⟨b, 39, none⟩)] w fun e w' => e = .returned (.tuple #[]) ∧ Wrote b 39 (.pointer (some ⟨b, 39, none⟩)) cur 61 w w' :=
  (Tryd.bld_check_used b 39 w (by simp [World.cell?, h, hc])).mono fun e w' ⟨h1, h2⟩ => ⟨h1, by subst h2; exact Wrote.same h hc⟩
theorem bld_check_fresh' (b : Nat) (w : World) (cur : Array Value) (h : w.heap[b]? = some (.cells cur 61 (0, 0))) (hs : cur.size = 41) (hc : cur[39]? = some (.pointer none)) :
    Calls Tryd.prog 78 #[.pointer (some ⟨b, 39, none⟩)] w fun e w' => e = .returned (.tuple #[]) ∧ Wrote b 39 (.pointer (some ⟨b, 39, none⟩)) cur 61 w w' :=
  (Tryd.bld_check_fresh b w (by simp [World.cell?, h, hc]) (by simp [World.shape?, h, hs]) (by simp [World.frozen?, h])).mono fun e w' ⟨h1, h2⟩ => ⟨h1, by subst h2; exact Wrote.cell h⟩

def R_strings_Builder_copyCheck (xs : List AV) (os : List Ob) (x : AV) (os' : List (Option Ob)) : Prop := ∃ (a0 : List UInt8) (z1 : List UInt8), m_strings_Builder_copyCheck a0 = some z1 ∧ xs = [.op 0 39] ∧ os = [.box 61 (bcells (.op 0 39) (.orow 1)), .row 5 1 (List.map brow a0)] ∧ x = .tup [] ∧ os' = [some (.box 61 (bcells (.op 0 39) (.orow 2))), none, some (.row 5 1 (List.map brow z1))]
def S_strings_Builder_copyCheck : PSpec := ospec (fun xs os x os' => R_strings_Builder_copyCheck xs os x os')
theorem ok_strings_Builder_copyCheck : PSound Tryd.prog 78 S_strings_Builder_copyCheck :=
  PSound.ofOwn Tryd.call78 fun G w β xs vs os x os' h1 h2 h3 h4 h5 ⟨a0, z1, hm, hx, ho, hr, ho'⟩ =>
    bld_own (p := .op 0 39) (e := 5) rfl (.inr rfl) rfl rfl bcells_pers (fun b w cur hb _ _ hc => bld_check_used' b w cur hb (hc rfl)) G w β xs vs os x os' h1 h2 h3 h4 h5 ⟨_, hx, ho, hr, by rw [ho', ← Option.some.inj hm]; rfl⟩
def R_strings_Builder_copyCheck_v1 (xs : List AV) (os : List Ob) (x : AV) (os' : List (Option Ob)) : Prop := ∃ (a0 : List UInt8) (z1 : List UInt8), m_strings_Builder_copyCheck a0 = some z1 ∧ xs = [.op 0 39] ∧ os = [.box 61 (bcells (.s .np) (.orow 1)), .row 5 1 (List.map brow a0)] ∧ x = .tup [] ∧ os' = [some (.box 61 (bcells (.op 0 39) (.orow 2))), none, some (.row 5 1 (List.map brow z1))]
def S_strings_Builder_copyCheck_v1 : PSpec := ospec (fun xs os x os' => R_strings_Builder_copyCheck_v1 xs os x os')
theorem ok_strings_Builder_copyCheck_v1 : PSound Tryd.prog 78 S_strings_Builder_copyCheck_v1 :=
  PSound.ofOwn Tryd.call78 fun G w β xs vs os x os' h1 h2 h3 h4 h5 ⟨a0, z1, hm, hx, ho, hr, ho'⟩ =>
    bld_own (p := .s .np) (e := 5) rfl (.inl rfl) rfl rfl bcells_pers (fun b w cur hb hs hc _ => bld_check_fresh' b w cur hb hs (hc rfl)) G w β xs vs os x os' h1 h2 h3 h4 h5 ⟨_, hx, ho, hr, by rw [ho', ← Option.some.inj hm]; rfl⟩
def R_strings_Builder_String (xs : List AV) (os : List Ob) (x : AV) (os' : List (Option Ob)) : Prop := ∃ (a0 : List UInt8) (y0 : List UInt8), m_strings_Builder_String a0 = some y0 ∧ xs = [.op 0 39] ∧ os = [.box 61 (bcells (.op 0 39) (.orow 1)), .row 5 1 (List.map brow a0)] ∧ x = .s (.str y0) ∧ os' = [some (.box 61 (bcells (.op 0 39) .junk)), none]
def S_strings_Builder_String : PSpec := ospec (fun xs os x os' => R_strings_Builder_String xs os x os')
theorem ok_strings_Builder_String : PSound Tryd.prog 54 S_strings_Builder_String :=
  PSound.ofOwn Tryd.call54 fun G w β xs vs os x os' h1 h2 h3 h4 h5 ⟨a0, y0, hm, hx, ho, hr, ho'⟩ => by
    obtain ⟨⟨hq, hq2⟩, hm⟩ := req_out hm
    exact bld_own_str (D := 61) (e := 5) (cells := bcells (.op 0 39) (.orow 1)) rfl rfl rfl bcells_pers (fun b g cap l w cur => Tryd.bld_String b g cap l w cur) G w β xs vs os x os' h1 h2 h3 h4 h5 ⟨a0, hq, hq2, hx, ho, by rw [hr, Option.some.inj hm], ho'⟩

theorem Ext.grow {G : Nat → Prop} {w : World} (h : ∀ b, G b → b < w.heap.size) (k : Nat) (os : Array Obj) : Ext G G w (Sort.grow (w.drewN k) os) :=
  ⟨rfl, rfl, rfl, by show w.heap.size ≤ (w.heap ++ os).size; simp, fun b hb => by show (w.heap ++ os)[b]? = _; simp [Array.getElem?_append, hb], fun _ h => h, fun _ h => .inl h, fun b hb => by have := h b hb; show b < (w.heap ++ os).size; simp; omega⟩
theorem tab_of {G : Nat → Prop} {w : World} (h : GlobOk G w) : Lib.TabIs Tryd.prog w "internal/strconv.uint64pow10" .u64 Lib.pow10Tab := by
  obtain ⟨_, e, f, hh⟩ := h.2 1 _ rfl
  have hg : Tryd.prog.globalNamed "internal/strconv.uint64pow10" = some 1 := by kernel_rfl
  unfold Lib.TabIs World.var?
  rw [hg]
  simp only [Option.bind_some, hh]
def R_strconv_Itoa (xs : List AV) (r : Ret) : Prop := ∃ (a0 : Int) (y0 : List UInt8), m_strconv_Itoa a0 = some y0 ∧ xs = [.s (.int .i64 a0)] ∧ r = .val (.s (.str y0))
def S_strconv_Itoa : PSpec := pspec fun xs r => R_strconv_Itoa xs r
theorem ok_strconv_Itoa : PSound Tryd.prog 77 S_strconv_Itoa :=
  ⟨Tryd.call77, fun G w xs vs r hl hgl hp hv ⟨a, y, hm, hx, hr⟩ => by
    subst hx; subst hr
    obtain ⟨⟨q1, q2⟩, hm⟩ := req_out hm
    have hy := Option.some.inj hm
    subst hy
    simp only [AVals, AVal, Rep] at hv
    obtain ⟨_, _, rfl, rfl, rfl⟩ := hv
    exact (Tryd.strconv_Itoa a q1 q2 w (tab_of hgl)).mono fun e w' ⟨h1, k, os, h2⟩ => ⟨_, G, h1, by rw [h2]; exact Ext.grow hl k os, rfl, by simp only [AVal, Rep]⟩, fun R hR => (by cases hR), fun R hR => (by cases hR)⟩
end Go.Proofs.YtefbmooajknmgaaDoor

