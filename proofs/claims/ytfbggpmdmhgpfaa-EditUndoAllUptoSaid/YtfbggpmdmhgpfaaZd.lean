/-
  Joined out of: EdA, LibS, LibD, LibF, MEd, MEh, MEe, EdV, LibG, LibH, LibW, AbsY, LibO, LibR.
-/
import Derived.Test.YtfbggpmdmhgpfaaProg
import Derived.KernelRfl
import Derived.Lib.Strings
import Derived.Lib.Slices
import Derived.Lib.Walk
import Derived.Lib.Bytealg
import Derived.WalkKit
import Derived.Lib.SliceRun
import Derived.Lib.AppendZerosOnto
import Derived.Shelf.RegionOpenPlain
import Derived.Test.YtfbggpmdmhgpfaaZc
set_option linter.unusedVariables false
set_option linter.unusedSimpArgs false
namespace Go.Proofs.Ytfbggpmdmhgpfaa
open Go.Abs
def tab : List (Nat × TI) := [
  (3, ⟨.int .i64, 1, 8, [.int .i64 0]⟩),
  (4, ⟨.bool, 1, 1, [.bool false]⟩),
  (9, ⟨.str, 1, 16, [.str []]⟩),
  (22, ⟨.slice 24, 1, 24, [.sl 4 []]⟩),
  (24, ⟨.struct [(0, 3), (1, 9), (2, 3), (3, 22)], 4, 56, [.int .i64 0, .str [], .int .i64 0, .sl 4 []]⟩),
  (25, ⟨.slice 3, 1, 24, [.sl 1 []]⟩),
  (27, ⟨.struct [(0, 3), (1, 25), (2, 3), (3, 3), (4, 22), (5, 3), (6, 9), (7, 9)], 8, 112, [.int .i64 0, .sl 1 [], .int .i64 0, .int .i64 0, .sl 4 [], .int .i64 0, .str [], .str []]⟩),
  (42, ⟨.slice 27, 1, 24, [.sl 8 []]⟩)]
def T (t : Nat) : Option TI := look? t tab
theorem tabok : ∀ p ∈ tab, okT Try.prog p.1 p.2 := by
  simp only [tab, List.forall_mem_cons]
  refine ⟨?_, ?_, ?_, ?_, ?_, ?_, ?_, ?_, by simp⟩
  · exact ⟨_, Try.t3, _, Try.underlying3, rfl, by kernel_rfl, rfl, rfl, rfl, rfl, rfl, fun _ => rfl, rfl⟩
  · exact ⟨_, Try.t4, _, Try.underlying4, rfl, by kernel_rfl, rfl, rfl, rfl, rfl, rfl, fun _ => rfl, rfl⟩
  · exact ⟨_, Try.t9, _, Try.underlying9, rfl, by kernel_rfl, rfl, rfl, rfl, rfl, rfl, fun _ => rfl, rfl⟩
  · exact ⟨_, Try.t22, _, Try.underlying22, rfl, by kernel_rfl, rfl, rfl, rfl, rfl, rfl, fun _ => rfl, rfl⟩
  · exact ⟨_, Try.t24, _, Try.underlying24, rfl, by kernel_rfl, rfl, rfl, rfl, rfl, rfl, (fun h => by cases h), rfl⟩
  · exact ⟨_, Try.t25, _, Try.underlying25, rfl, by kernel_rfl, rfl, rfl, rfl, rfl, rfl, fun _ => rfl, rfl⟩
  · exact ⟨_, Try.t27, _, Try.underlying27, rfl, by kernel_rfl, rfl, rfl, rfl, rfl, rfl, (fun h => by cases h), rfl⟩
  · exact ⟨_, Try.t42, _, Try.underlying42, rfl, by kernel_rfl, rfl, rfl, rfl, rfl, rfl, fun _ => rfl, rfl⟩
theorem tok : TOk Try.prog T := tok_of tabok
theorem tcl : ∀ t i, T t = some i → closedAt T i = true := closed_of (by rfl)
def tabX : List (Nat × TI) := [
  (5, ⟨.int .u8, 1, 1, [.int .u8 0]⟩),
  (30, ⟨.int .i64, 1, 8, [.int .i64 0]⟩),
  (37, ⟨.fn, 1, 8, [.nf]⟩),
  (53, ⟨.fn, 1, 8, [.nf]⟩),
  (57, ⟨.struct [(0, 27), (8, 22)], 9, 136, [.int .i64 0, .sl 1 [], .int .i64 0, .int .i64 0, .sl 4 [], .int .i64 0, .str [], .str [], .sl 4 []]⟩),
  (63, ⟨.arr 13 9, 13, 208, [.str [], .str [], .str [], .str [], .str [], .str [], .str [], .str [], .str [], .str [], .str [], .str [], .str []]⟩),
  (71, ⟨.fn, 1, 8, [.nf]⟩),
  (72, ⟨.fn, 1, 8, [.nf]⟩),
  (76, ⟨.ptr 83, 1, 8, [.np]⟩),
  (77, ⟨.fn, 1, 8, [.nf]⟩),
  (79, ⟨.struct [(0, 9), (1, 3), (2, 77)], 3, 32, [.str [], .int .i64 0, .nf]⟩),
  (80, ⟨.arr 13 79, 39, 416, [.str [], .int .i64 0, .nf, .str [], .int .i64 0, .nf, .str [], .int .i64 0, .nf, .str [], .int .i64 0, .nf, .str [], .int .i64 0, .nf, .str [], .int .i64 0, .nf, .str [], .int .i64 0, .nf, .str [], .int .i64 0, .nf, .str [], .int .i64 0, .nf, .str [], .int .i64 0, .nf, .str [], .int .i64 0, .nf, .str [], .int .i64 0, .nf, .str [], .int .i64 0, .nf]⟩),
  (83, ⟨.struct [(0, 80), (39, 3)], 40, 424, [.str [], .int .i64 0, .nf, .str [], .int .i64 0, .nf, .str [], .int .i64 0, .nf, .str [], .int .i64 0, .nf, .str [], .int .i64 0, .nf, .str [], .int .i64 0, .nf, .str [], .int .i64 0, .nf, .str [], .int .i64 0, .nf, .str [], .int .i64 0, .nf, .str [], .int .i64 0, .nf, .str [], .int .i64 0, .nf, .str [], .int .i64 0, .nf, .str [], .int .i64 0, .nf, .int .i64 0]⟩),
  (85, ⟨.ptr 24, 1, 8, [.np]⟩),
  (89, ⟨.slice 5, 1, 24, [.sl 1 []]⟩),
  (93, ⟨.slice 85, 1, 24, [.sl 1 []]⟩),
  (96, ⟨.fn, 1, 8, [.nf]⟩),
  (101, ⟨.slice 9, 1, 24, [.sl 1 []]⟩),
  (111, ⟨.slice 22, 1, 24, [.sl 1 []]⟩),
  (114, ⟨.int .u64, 1, 8, [.int .u64 0]⟩),
  (115, ⟨.int .u32, 1, 4, [.int .u32 0]⟩)]
theorem tabXok : ∀ p ∈ tabX, okT Try.prog p.1 p.2 := by
  simp only [tabX, List.forall_mem_cons]
  refine ⟨?_, ?_, ?_, ?_, ?_, ?_, ?_, ?_, ?_, ?_, ?_, ?_, ?_, ?_, ?_, ?_, ?_, ?_, ?_, ?_, ?_, by simp⟩
  · exact ⟨_, Try.t5, _, Try.underlying5, rfl, by kernel_rfl, rfl, rfl, rfl, rfl, rfl, fun _ => rfl, rfl⟩
  · exact ⟨_, Try.t30, _, Try.underlying30, rfl, by kernel_rfl, rfl, rfl, rfl, rfl, rfl, fun _ => rfl, rfl⟩
  · exact ⟨_, Try.t37, _, Try.underlying37, rfl, by kernel_rfl, rfl, rfl, rfl, rfl, rfl, fun _ => rfl, rfl⟩
  · exact ⟨_, Try.t53, _, Try.underlying53, rfl, by kernel_rfl, rfl, rfl, rfl, rfl, rfl, fun _ => rfl, rfl⟩
  · exact ⟨_, Try.t57, _, Try.underlying57, rfl, by kernel_rfl, rfl, rfl, rfl, rfl, rfl, (fun h => by cases h), rfl⟩
  · exact ⟨_, Try.t63, _, Try.underlying63, rfl, by kernel_rfl, rfl, rfl, rfl, rfl, rfl, (fun h => by cases h), rfl⟩
  · exact ⟨_, Try.t71, _, Try.underlying71, rfl, by kernel_rfl, rfl, rfl, rfl, rfl, rfl, fun _ => rfl, rfl⟩
  · exact ⟨_, Try.t72, _, Try.underlying72, rfl, by kernel_rfl, rfl, rfl, rfl, rfl, rfl, fun _ => rfl, rfl⟩
  · exact ⟨_, Try.t76, _, Try.underlying76, rfl, by kernel_rfl, rfl, rfl, rfl, rfl, rfl, fun _ => rfl, rfl⟩
  · exact ⟨_, Try.t77, _, Try.underlying77, rfl, by kernel_rfl, rfl, rfl, rfl, rfl, rfl, fun _ => rfl, rfl⟩
  · exact ⟨_, Try.t79, _, Try.underlying79, rfl, by kernel_rfl, rfl, rfl, rfl, rfl, rfl, (fun h => by cases h), rfl⟩
  · exact ⟨_, Try.t80, _, Try.underlying80, rfl, by kernel_rfl, rfl, rfl, rfl, rfl, rfl, (fun h => by cases h), rfl⟩
  · exact ⟨_, Try.t83, _, Try.underlying83, rfl, by kernel_rfl, rfl, rfl, rfl, rfl, rfl, (fun h => by cases h), rfl⟩
  · exact ⟨_, Try.t85, _, Try.underlying85, rfl, by kernel_rfl, rfl, rfl, rfl, rfl, rfl, fun _ => rfl, rfl⟩
  · exact ⟨_, Try.t89, _, Try.underlying89, rfl, by kernel_rfl, rfl, rfl, rfl, rfl, rfl, fun _ => rfl, rfl⟩
  · exact ⟨_, Try.t93, _, Try.underlying93, rfl, by kernel_rfl, rfl, rfl, rfl, rfl, rfl, fun _ => rfl, rfl⟩
  · exact ⟨_, Try.t96, _, Try.underlying96, rfl, by kernel_rfl, rfl, rfl, rfl, rfl, rfl, fun _ => rfl, rfl⟩
  · exact ⟨_, Try.t101, _, Try.underlying101, rfl, by kernel_rfl, rfl, rfl, rfl, rfl, rfl, fun _ => rfl, rfl⟩
  · exact ⟨_, Try.t111, _, Try.underlying111, rfl, by kernel_rfl, rfl, rfl, rfl, rfl, rfl, fun _ => rfl, rfl⟩
  · exact ⟨_, Try.t114, _, Try.underlying114, rfl, by kernel_rfl, rfl, rfl, rfl, rfl, rfl, fun _ => rfl, rfl⟩
  · exact ⟨_, Try.t115, _, Try.underlying115, rfl, by kernel_rfl, rfl, rfl, rfl, rfl, rfl, fun _ => rfl, rfl⟩
def TW (t : Nat) : Option TI := look? t (tab ++ tabX)
theorem tokW : TOk Try.prog TW := tok_of fun p hp => (List.mem_append.1 hp).elim (tabok p) (tabXok p)
theorem mixed : Try.prog.follows .mixedOrders = true := by kernel_rfl
end Go.Proofs.Ytfbggpmdmhgpfaa
namespace Go.Proofs
set_option maxHeartbeats 1000000 in
set_option maxRecDepth 100000 in
theorem Try.stringslite_IndexByte (s : ByteArray) (c : Int) (w : World) :
    Calls Try.prog 105 #[.string s, .int .u8 c] w fun e w' => e = .returned (.int .i64 (Lib.indexByte s.data.toList c.toNat.toUInt8)) ∧ w' = w := by
  go_enter Try.func105, Try.ntmps105
  go_wp2
  rw [run_callFunc_extern Try.func108 (by kernel_rfl) (by kernel_rfl) (by kernel_rfl) (e := Extern.BytealgIndexByte.indexByte) (by kernel_rfl), Lib.run_indexByteString]
  simp only [Result.andThen]
  rw [Oper.upon_value]
  go_wp2
  go_ret
  exact ⟨rfl, rfl⟩
set_option maxHeartbeats 2000000 in
set_option maxRecDepth 100000 in
theorem Try.stringslite_Index_one (s : ByteArray) (c : UInt8) (w : World) :
    Calls Try.prog 107 #[.string s, .string ⟨#[c]⟩] w fun e w' => e = .returned (.int .i64 (Lib.indexByte s.data.toList c)) ∧ w' = w := by
  go_enter Try.func107, Try.ntmps107
  go_wp2_with (go_at_call 105; refine (Try.stringslite_IndexByte _ _ _).mono ?_; rintro e w' ⟨rfl, rfl⟩)
  · have h : ([c] == s.toList) = true := by assumption
    go_ret
    refine ⟨?_, rfl⟩
    have e : s.data.toList = [c] := by rw [← Lib.toList_data]; exact (beq_iff_eq.1 h).symm
    rw [e]
    simp [Lib.indexByte]
  · go_ret
    exact ⟨rfl, rfl⟩
set_option maxHeartbeats 1000000 in
theorem Try.strings_IndexByte (s : ByteArray) (c : Int) (w : World) :
    Calls Try.prog 97 #[.string s, .int .u8 c] w fun e w' => e = .returned (.int .i64 (Lib.indexByte s.data.toList c.toNat.toUInt8)) ∧ w' = w := by
  go_enter Try.func97, Try.ntmps97
  go_wp2_with (go_at_call 105; refine (Try.stringslite_IndexByte _ _ _).mono ?_; rintro e w' ⟨rfl, rfl⟩)
  go_ret
  exact ⟨rfl, rfl⟩
set_option maxHeartbeats 1000000 in
theorem Try.strings_Index_one (s : ByteArray) (c : UInt8) (w : World) :
    Calls Try.prog 103 #[.string s, .string ⟨#[c]⟩] w fun e w' => e = .returned (.int .i64 (Lib.indexByte s.data.toList c)) ∧ w' = w := by
  go_enter Try.func103, Try.ntmps103
  go_wp2_with (go_at_call 107; refine (Try.stringslite_Index_one _ _ _).mono ?_; rintro e w' ⟨rfl, rfl⟩)
  go_ret
  exact ⟨rfl, rfl⟩
set_option maxHeartbeats 1000000 in
theorem Try.strings_Contains_one (s : ByteArray) (c : UInt8) (w : World) :
    Calls Try.prog 93 #[.string s, .string ⟨#[c]⟩] w fun e w' => e = .returned (.bool (decide (0 ≤ Lib.indexByte s.data.toList c))) ∧ w' = w := by
  go_enter Try.func93, Try.ntmps93
  go_wp2_with (go_at_call 103; refine (Try.strings_Index_one _ _ _).mono ?_; rintro e w' ⟨rfl, rfl⟩)
  go_ret
  exact ⟨rfl, rfl⟩
end Go.Proofs
namespace Go.Proofs.Ytfbggpmdmhgpfaa
open Go.Abs
theorem psound_lib {f : Nat} {s : List AV → Ret → Prop} (hcall : ∀ args w, (callFunc f args).run Try.prog w = .ok (.enter f args) w)
    (h : ∀ (G : Nat → Prop) (w : World) (xs : List AV) (vs : List Value) (r : Ret), AVals G w (fun _ => .tuple #[]) xs vs → s xs r → Calls Try.prog f vs.toArray w fun e w' => w' = w ∧ ∃ v, e = .returned v ∧ RetAt G w w r v) : PSound Try.prog f (pspec s) :=
  ⟨hcall, fun G w xs vs r hl _ _ hv hs => (h G w xs vs r hv hs).mono fun e w' ⟨h1, v, h2, h3⟩ => (by subst h1; exact ⟨v, G, h2, Ext.refl hl, h3⟩), fun R hR => (by cases hR), fun R hR => (by cases hR)⟩
def R_stringslite_Index (xs : List AV) (r : Ret) : Prop := ∃ (a0 a1 : List UInt8) (y0 : Int), m_stringslite_Index a0 a1 = some y0 ∧ xs = [.s (.str a0), .s (.str a1)] ∧ r = .val (.s (.int .i64 y0))
def S_stringslite_Index : PSpec := pspec fun xs r => R_stringslite_Index xs r
theorem ok_stringslite_Index : PSound Try.prog 107 S_stringslite_Index := psound_lib Try.call107 fun G w xs vs r hv ⟨a, p, y, h, hx, hr⟩ => by
  subst hx; subst hr
  obtain ⟨hp, h⟩ := req_out h
  have hy := Option.some.inj h
  subst hy
  obtain ⟨c, rfl⟩ : ∃ c, p = [c] := by
    match p, hp with
    | [c], _ => exact ⟨c, rfl⟩
  simp only [AVals, AVal, Rep] at hv
  obtain ⟨_, _, rfl, rfl, _, _, rfl, rfl, rfl⟩ := hv
  exact (Try.stringslite_Index_one ⟨a.toArray⟩ c w).mono fun e w' ⟨h1, h2⟩ => ⟨h2, _, h1, rfl, by simp only [AVal, Rep]; rfl⟩
def R_strings_Contains (xs : List AV) (r : Ret) : Prop := ∃ (a0 a1 : List UInt8) (y0 : Bool), m_strings_Contains a0 a1 = some y0 ∧ xs = [.s (.str a0), .s (.str a1)] ∧ r = .val (.s (.bool y0))
def S_strings_Contains : PSpec := pspec fun xs r => R_strings_Contains xs r
theorem ok_strings_Contains : PSound Try.prog 93 S_strings_Contains := psound_lib Try.call93 fun G w xs vs r hv ⟨a, p, y, h, hx, hr⟩ => by
  subst hx; subst hr
  obtain ⟨hp, h⟩ := req_out h
  have hy := Option.some.inj h
  subst hy
  obtain ⟨c, rfl⟩ : ∃ c, p = [c] := by
    match p, hp with
    | [c], _ => exact ⟨c, rfl⟩
  simp only [AVals, AVal, Rep] at hv
  obtain ⟨_, _, rfl, rfl, _, _, rfl, rfl, rfl⟩ := hv
  exact (Try.strings_Contains_one ⟨a.toArray⟩ c w).mono fun e w' ⟨h1, h2⟩ => ⟨h2, _, h1, rfl, by simp only [AVal, Rep]; rfl⟩
def R_strings_IndexByte (xs : List AV) (r : Ret) : Prop := ∃ (a0 : List UInt8) (a1 : Int) (y0 : Int), m_strings_IndexByte a0 a1 = some y0 ∧ xs = [.s (.str a0), .s (.int .u8 a1)] ∧ r = .val (.s (.int .i64 y0))
def S_strings_IndexByte : PSpec := pspec fun xs r => R_strings_IndexByte xs r
theorem ok_strings_IndexByte : PSound Try.prog 97 S_strings_IndexByte := psound_lib Try.call97 fun G w xs vs r hv ⟨a, c, y, h, hx, hr⟩ => by
  subst hx; subst hr
  have hy := Option.some.inj h
  subst hy
  simp only [AVals, AVal, Rep] at hv
  obtain ⟨_, _, rfl, rfl, _, _, rfl, rfl, rfl⟩ := hv
  exact (Try.strings_IndexByte ⟨a.toArray⟩ c w).mono fun e w' ⟨h1, h2⟩ => ⟨h2, _, h1, rfl, by simp only [AVal, Rep]⟩
end Go.Proofs.Ytfbggpmdmhgpfaa
namespace Go.Proofs.Ytfbggpmdmhgpfaa
open Go.Abs
def VAt (hp : Nat → Option Ob) (e : Nat) (v : AV) (ks : List Nd) (keys : List Nat) : Prop :=
  (ks = [] ∧ v = .s (.sl 4 []) ∧ keys = []) ∨ ∃ q rows keys' w, v = .orow q ∧ hp q = some (.arow e 4 rows) ∧ rows.length = ks.length ∧ keys = q :: keys' ∧ LAt hp e q 0 ks keys' [] w
theorem At.full {hp : Nat → Option Ob} {e : Nat} {p : AV} {k c : Int} {t : List UInt8} {ks : List Nd} {keys : List Nat} {w : Nat} (h : At hp e p (.mk k t c ks) keys [] w) : ∃ v, cellsAt hp p = some (ncells k t c v) ∧ VAt hp e v ks keys := by
  simp only [At] at h
  obtain ⟨v, hc, ⟨_, _, h, _⟩ | ⟨rfl, rfl, rfl, _, _⟩ | ⟨q, rows, keys', rfl, hq, hlen, rfl, h⟩⟩ := h
  · cases h
  · exact ⟨_, hc, .inl ⟨rfl, rfl, rfl⟩⟩
  · exact ⟨_, hc, .inr ⟨q, rows, keys', w, rfl, hq, hlen, rfl, h⟩⟩
def RH_deep_Node (xs : List AV) (hp : Nat → Option Ob) (n : Nat) (Φ : AV → (Nat → Option Ob) → Nat → Prop) : Prop :=
  ∃ (k c : Int) (tx : List UInt8) (ks : List Nd), (Nd.mk k tx c ks).cnt ≤ 1000000000 ∧ xs = [.agg (ncells k tx c (.s (.sl 4 (Nd.encs ks))))] ∧
    ∀ v hp' n' keys, n ≤ n' → (∀ k, k < n → hp' k = hp k) → VAt hp' 24 v ks keys → keys.Nodup → (∀ k ∈ keys, n ≤ k ∧ k < n') → Φ (.agg (ncells k tx c v)) hp' n'
def H_deep_Node : PSpec := hspec RH_deep_Node
theorem resOf_box {T : Nat → Option TI} {σ : St} {t ty q bt : Nat} {i : TI} {cells : List AV} (h1 : σ.env t = .op q 0) (h2 : σ.hp q = some (.box bt cells)) (h3 : T ty = some i) (ha : i.k.agg = true) (hz : i.size = cells.length) : resOf T σ [.cell t ty] = some (AV.deep (.agg cells)) := by
  have hb : Nat.ble i.size cells.length = true := by rw [hz]; exact Nat.ble_eq_true_of_le (Nat.le_refl _)
  simp only [resOf, resAll, resAV, h1, h2, h3, ha, hb]
  rw [hz, List.take_length]
theorem upd_at {σ : St} {q : Nat} {ob : Ob} : (updOb σ q ob).hp q = some ob := by simp only [updOb, Nat.beq_refl, cond_true]
theorem upd_ne {σ : St} {q k : Nat} {ob : Ob} (h : k ≠ q) : (updOb σ q ob).hp k = σ.hp k := by simp only [updOb, beq_ne h, cond_false]
theorem VAt.frame {hp hp' : Nat → Option Ob} {e : Nat} {v : AV} {ks : List Nd} {keys : List Nat} (h : VAt hp e v ks keys) (hs : ∀ k ∈ keys, hp' k = hp k) : VAt hp' e v ks keys := by
  rcases h with h | ⟨q, rows, keys', w, h1, h2, h3, rfl, h4⟩
  · exact .inl h
  · exact .inr ⟨q, rows, keys', w, h1, (hs q List.mem_cons_self).trans h2, h3, rfl, h4.sameQ (Sim.same (p0 := .junk) fun k hk => hs k (List.mem_cons.2 hk)) (fun j _ e => by cases e) (fun q j _ e => by cases e)⟩
theorem s1_asgL {T : Nat → Option TI} {own : Bool} {o : Oper} {σ : St} {p : AV} {y : Operand} (hl : isL 4 p) (ho : o.op = .assign y ∨ o.op = .move y) (hy : opd T σ.env o.type y = p) (hn : (own && isNilConst y) = false) : step1 T own o σ = some (none, p, σ) := by
  have e0 : p.nrm = p := by rcases hl with ⟨_, _, rfl⟩ | ⟨_, rfl⟩ <;> rfl
  have e1 : pstep T own o σ.env = some (none, p) := by
    rcases ho with ho | ho <;> simp only [pstep, ho, hn, hy, e0]
  simp only [step1, e1]
theorem tri_gen {c : Cx} {x : Code} {σ : St} {Q : Abs.End → St → Prop} (l : List (Nat × AV)) (n' : Nat) (h : holds σ.env l) (hn : σ.nx = n') (hk : ∀ H, (∀ k, H k = σ.hp k) → Tri c x ⟨ofL l, H, n'⟩ Q) : Tri c x σ Q := by
  subst hn
  exact tri_le (Le.forget l h) (hk σ.hp fun _ => rfl)
theorem At.pend {hp : Nat → Option Ob} {e w : Nat} {p : AV} {k c : Int} {tx : List UInt8} {ks : List Nd} (h : At hp e p (.mk k tx c ks) [] [p] w) : cellsAt hp p = some (ncells k tx c (.s (.sl 4 (Nd.encs ks)))) := by
  simp only [At] at h
  obtain ⟨v, hc, ⟨rfl, _⟩ | ⟨_, _, _, h, _⟩ | ⟨q, rows, keys', _, _, _, h, _⟩⟩ := h
  · exact hc
  · cases h
  · cases h
theorem putC_congr {hp hp' : Nat → Option Ob} {sz k : Nat} {p : AV} {c : List AV} (hl : isL sz p) (h1 : hp' k = hp k) (h2 : hp' (baseK p) = hp (baseK p)) : putC hp' p c k = putC hp p c k := by
  rcases hl with ⟨q, i, rfl⟩ | ⟨q, rfl⟩ <;> (simp only [baseK] at h2; simp only [putC, h1, h2])
theorem putC_twice {hp hp' : Nat → Option Ob} {sz k : Nat} {p : AV} {c c' cs : List AV} (hl : isL sz p) (hc : cellsAt hp p = some cs) (h : hp' (baseK p) = putC hp p c' (baseK p)) (hk : k ≠ baseK p → hp' k = hp k) : putC hp' p c k = putC hp p c k := by
  by_cases hb : k = baseK p
  · subst hb
    rcases cellsAt_inv hl hc with ⟨q, i, e, rows, rfl, hq, hi⟩ | ⟨q, bt, rfl, hq⟩
    · simp only [baseK] at h ⊢
      rw [putC_rp hq] at h ⊢
      simp only [Nat.beq_refl, cond_true] at h ⊢
      rw [putC_rp h]
      simp only [Nat.beq_refl, cond_true, List.set_set]
    · simp only [baseK] at h ⊢
      rw [putC_op hq] at h ⊢
      simp only [Nat.beq_refl, cond_true] at h ⊢
      rw [putC_op h]
      simp only [Nat.beq_refl, cond_true]
  · rw [putC_other hb, putC_other hb, hk hb]
theorem locs_succ {q j : Nat} : locs q 0 (j + 1) = locs q 0 j ++ [.rp q 4 j 0] := by
  simp [locs, List.range'_concat]
theorem last_get {α : Type} {S : List α} {p : α} : ((S ++ [p]).map fun p => [p]).getD S.length [] = [p] := by
  simp [List.getD_eq_getElem?_getD]
structure DInv (hp : Nat → Option Ob) (n e pe : Nat) (t : Nd) (H : Nat → Option Ob) (ls nx : Nat) (S : List AV) (keys : List Nat) (w : Nat) : Prop where
  low : ∀ k, k < n → H k = hp k
  res : ∃ a b c d, H (n + 1) = some (.box e [a, b, c, d])
  stk : H ls = some (.arow pe 1 (S.map fun p => [p]))
  tree : At H e (.op n 0) t keys S w
  nd : (n :: keys).Nodup
  kb : ∀ k ∈ keys, n + 1 < k ∧ k < nx ∧ k ≠ ls
  l1 : n + 1 < ls
  l2 : ls < nx
set_option maxHeartbeats 4000000 in
set_option maxRecDepth 100000 in
theorem hok_deep_Node : PSound Try.prog 49 H_deep_Node := by
  have gok : ∀ (f : Nat) (s : PSpec), (fun _ => none : Nat → Option PSpec) f = some s → PSound Try.prog f s := fun _ _ h => by cases h
  refine hsound tokW Try.call49 Try.func49 rfl (fun xs hp n Φ h => by obtain ⟨_, _, _, _, _, rfl, _⟩ := h; show 1 ≤ _; decide) _ rfl ?_
  rintro xs hp n Φ w0 G0 B0 ⟨k0, c, tx, ks, hcnt, rfl, hΦ⟩ _ hhp
  refine tri_seq ?_
  refine tri_region (by exact tokW) (by exact gok) [1, 2] [] rfl ?_
  show Tri _ _ _ _
  refine tri_seq ?_
  refine tri_region (by exact tokW) (by exact gok) [7] [] rfl ?_
  show Tri _ _ _ _
  refine tri_le (Le.forgetH [(1, .op n 0), (2, .op (n + 1) 0), (3, .orow (n + 2))] (fun k => bif Nat.beq k (n + 2) then some (.arow 85 1 [[.op n 0]]) else bif Nat.beq k (n + 1) then some (.box 24 [.s (.int .i64 0), .s (.str []), .s (.int .i64 0), .nl 4]) else bif Nat.beq k n then some (.box 24 (ncells k0 tx c (.s (.sl 4 (Nd.encs ks))))) else hp k) (n + 3) ⟨rfl, rfl, rfl, trivial⟩ (fun k => rfl) rfl) ?_
  have hI : DInv hp n 24 85 (.mk k0 tx c ks) (fun k => bif Nat.beq k (n + 2) then some (.arow 85 1 [[.op n 0]]) else bif Nat.beq k (n + 1) then some (.box 24 [.s (.int .i64 0), .s (.str []), .s (.int .i64 0), .nl 4]) else bif Nat.beq k n then some (.box 24 (ncells k0 tx c (.s (.sl 4 (Nd.encs ks))))) else hp k) (n + 2) (n + 3) [.op n 0] [] (Nd.mk k0 tx c ks).cnt := {
    low := fun k hk => by
      have h1 : k ≠ n + 2 := by omega
      have h2 : k ≠ n + 1 := by omega
      have h3 : k ≠ n := by omega
      simp only [beq_ne h1, beq_ne h2, beq_ne h3, cond_false]
    res := ⟨.s (.int .i64 0), .s (.str []), .s (.int .i64 0), .nl 4, by
      have h1 : n + 1 ≠ n + 2 := by omega
      simp only [beq_ne h1, Nat.beq_refl, cond_false, cond_true]⟩
    stk := by simp only [Nat.beq_refl, cond_true]; rfl
    tree := by
      have h1 : n ≠ n + 2 := by omega
      have h2 : n ≠ n + 1 := by omega
      simp only [At]
      exact ⟨.s (.sl 4 (Nd.encs ks)), cellsAt_op (bt := 24) (by simp only [beq_ne h1, beq_ne h2, Nat.beq_refl, cond_false, cond_true]), .inl (by simp [Nd.cnt])⟩
    nd := by simp
    kb := fun k hk => by cases hk
    l1 := by omega
    l2 := by omega }
  generalize hH : (fun k => bif Nat.beq k (n + 2) then some (Ob.arow 85 1 [[AV.op n 0]]) else bif Nat.beq k (n + 1) then some (Ob.box 24 [AV.s (.int .i64 0), AV.s (.str []), AV.s (.int .i64 0), AV.nl 4]) else bif Nat.beq k n then some (Ob.box 24 (ncells k0 tx c (.s (.sl 4 (Nd.encs ks))))) else hp k) = H0 at hI ⊢
  clear hH
  refine tri_seq ?_
  refine tri_block (tri_loopI (X := (Nat → Option Ob) × Nat × Nat × List AV × List Nat × Nat) (fun y => match y with | (H, ls, nx, S, keys, w) => ⟨ofL [(1, .op n 0), (2, .op (n + 1) 0), (3, .orow ls)], H, nx⟩)
    (fun y => match y with | (H, ls, nx, S, keys, w) => DInv hp n 24 85 (.mk k0 tx c ks) H ls nx S keys w) (fun y => match y with | (H, ls, nx, S, keys, w) => w) (H0, n + 2, n + 3, [.op n 0], [], (Nd.mk k0 tx c ks).cnt) hI (Le.refl _ _) ?_)
  rintro ⟨H, ls, nx, S, keys, w⟩ hI
  have hI : DInv hp n 24 85 (.mk k0 tx c ks) H ls nx S keys w := hI
  refine tri_seq ?_
  refine tri_seq ?_
  refine tri_region (by exact tokW) (by exact gok) [] [] rfl ?_
  refine evOps_step rfl rfl rfl rfl rfl rfl trivial ?_
  refine evOps_step rfl rfl rfl rfl rfl (s1_lenA rfl rfl rfl rfl rfl hI.stk) trivial ?_
  refine evOps_step rfl rfl rfl rfl rfl rfl trivial ?_
  show Tri _ _ _ _
  refine tri_cond rfl (fun hb => ?_) (fun hb => ?_)
  rotate_left
  · refine tri_exit ?_
    show Tri _ _ _ _
    refine tri_le (Le.forget [(1, .op n 0), (2, .op (n + 1) 0), (3, .orow ls)] ⟨rfl, rfl, rfl, trivial⟩) ?_
    have hS : S = [] := by
      cases S with
      | nil => rfl
      | cons x S =>
        have := of_decide_eq_false hb
        simp only [List.length_map, List.length_cons] at this
        omega
    subst hS
    obtain ⟨v, hc, hv⟩ := hI.tree.full
    rcases cellsAt_inv (sz := 4) (.inr ⟨n, rfl⟩) hc with ⟨q, i, e, rows, h1, _⟩ | ⟨q, bt, h1, hq⟩
    · cases h1
    cases h1
    obtain ⟨ra, rb, rc, rd, hr1⟩ := hI.res
    refine tri_seq ?_
    refine tri_region (by exact tokW) (by exact gok) [] [] rfl ?_
    refine evOps_step rfl rfl rfl rfl rfl (s1_loadBA rfl rfl rfl rfl hq rfl) trivial ?_
    have hvl : v.one = true ∧ v.lt nx = true := by
      rcases hv with ⟨_, rfl, _⟩ | ⟨q, _, _, _, rfl, _, _, hk, _⟩
      · exact ⟨rfl, rfl⟩
      · exact ⟨rfl, decide_eq_true (hI.kb q (by rw [hk]; exact List.mem_cons_self)).2.1⟩
    refine evOps_step0 rfl rfl rfl (s1_storeB rfl rfl rfl hr1 rfl rfl (by show ([AV.s _, AV.s _, AV.s _, v] : List AV).all AV.one = true; simp only [List.all_cons, List.all_nil, hvl.1]; rfl) (by show AV.ltAll nx [AV.s _, AV.s _, AV.s _, v] = true; simp only [AV.ltAll, hvl.2]; rfl)) trivial ?_
    show Tri _ _ _ _
    refine tri_ret ?_
    have hln : n < nx := Nat.lt_trans (Nat.lt_trans (Nat.lt_succ_self n) hI.l1) hI.l2
    have hdeep : AV.deep (.agg (ncells k0 tx c v)) = .agg (ncells k0 tx c v) := by
      rcases hv with ⟨_, rfl, _⟩ | ⟨q, _, _, _, rfl, _⟩ <;> rfl
    unfold GivesH
    refine ⟨_, Le.refl _ _, .agg (ncells k0 tx c v), ?_, hΦ v _ _ keys (Nat.le_of_lt hln) (fun k hk => ?_) ?_ (List.nodup_cons.1 hI.nd).2 fun k hk => ⟨Nat.le_of_lt (Nat.lt_trans (Nat.lt_succ_self n) (hI.kb k hk).1), (hI.kb k hk).2.1⟩⟩
    · exact (resOf_box (cells := ncells k0 tx c v) rfl upd_at rfl rfl rfl).trans (congrArg some hdeep)
    · exact (upd_ne (by omega)).trans (hI.low k hk)
    · exact hv.frame fun k hk => upd_ne (by have := (hI.kb k hk).1; omega)
  refine tri_skip ?_
  show Tri _ _ _ _
  obtain ⟨S', p, rfl⟩ : ∃ S' p, S = S' ++ [p] := by
    rcases List.eq_nil_or_concat S with rfl | ⟨S', p, rfl⟩
    · cases hb
    · exact ⟨S', p, List.concat_eq_append⟩
  have hl0 : isL 4 p := hI.tree.loc (.inr ⟨n, rfl⟩) (by simp)
  obtain ⟨⟨k1, tx1, c1, ks1⟩, w1, hp0, hw, hrep⟩ := hI.tree.repl (.inr ⟨n, rfl⟩) hI.nd
  have hcell := hp0.pend
  have hwl := hI.tree.len
  have hSl : S'.length < 1000000000 := by
    have := hwl.1
    have := hwl.2
    simp only [List.length_append, List.length_singleton] at *
    omega
  have hz : IntKind.i64.wrap (((((S' ++ [p]).map fun p => [p]).length : Nat) : Int) - 1) = (S'.length : Int) := by
    rw [wrap64_in (by simp only [List.length_map, List.length_append, List.length_singleton]; omega) (by simp only [List.length_map, List.length_append, List.length_singleton]; omega)]
    simp only [List.length_map, List.length_append, List.length_singleton]; omega
  have hlt1 : S'.length < ((S' ++ [p]).map fun p => [p]).length := by simp
  refine tri_le (Le.forget [(1, .op n 0), (2, .op (n + 1) 0), (3, .orow ls)] ⟨rfl, rfl, rfl, trivial⟩) ?_
  refine tri_block ?_
  refine tri_seq ?_
  refine tri_region (by exact tokW) (by exact gok) [] [] rfl ?_
  refine evOps_step rfl rfl rfl rfl rfl rfl trivial ?_
  refine evOps_step rfl rfl rfl rfl rfl rfl trivial ?_
  refine evOps_step rfl rfl rfl rfl rfl (s1_lenA rfl rfl rfl rfl rfl hI.stk) trivial ?_
  refine evOps_step rfl rfl rfl rfl rfl rfl trivial ?_
  rw [hz]
  refine evOps_step rfl rfl rfl rfl rfl (s1_idxA rfl rfl rfl rfl rfl rfl hI.stk rfl) ⟨Int.natCast_nonneg _, Int.ofNat_lt.2 hlt1⟩ ?_
  refine evOps_ldA (c := p) rfl rfl rfl rfl rfl rfl hI.stk hlt1 (by rw [Int.toNat_natCast, last_get]; rfl) ?_
  refine evOps_step rfl rfl rfl rfl rfl (s1_asgL hl0 (.inl rfl) rfl rfl) trivial ?_
  show Tri _ _ _ _
  refine tri_le (Le.forget [(1, .op n 0), (2, .op (n + 1) 0), (3, .orow ls), (4, p)] ⟨rfl, rfl, rfl, rfl, trivial⟩) ?_
  refine tri_seq ?_
  refine tri_region (by exact tokW) (by exact gok) [21] [] rfl ?_
  refine evOps_step rfl rfl rfl rfl rfl rfl trivial ?_
  refine evOps_step rfl rfl rfl rfl rfl rfl trivial ?_
  refine evOps_step rfl rfl rfl rfl rfl (s1_lenA rfl rfl rfl rfl rfl hI.stk) trivial ?_
  refine evOps_step rfl rfl rfl rfl rfl rfl trivial ?_
  rw [hz]
  refine evOps_step rfl rfl rfl rfl rfl (s1_sliceA rfl rfl rfl rfl rfl rfl hI.stk rfl) ⟨Int.natCast_nonneg _, Int.ofNat_le.2 (Nat.le_of_lt hlt1)⟩ ?_
  refine evOps_step rfl rfl rfl rfl rfl rfl trivial ?_
  show Tri _ _ _ _
  refine tri_gen [(1, .op n 0), (2, .op (n + 1) 0), (3, .orow nx), (4, p)] (nx + 1) ⟨rfl, rfl, rfl, rfl, trivial⟩ rfl fun H1 hH1 => ?_
  have g1 : H1 nx = some (.arow 85 1 (S'.map fun p => [p])) := (hH1 nx).trans (by
    show (bif Nat.beq nx nx then some (Ob.arow 85 1 (((S' ++ [p]).map fun p => [p]).take ((S'.length : Int)).toNat)) else _) = _
    rw [Nat.beq_refl, cond_true, Int.toNat_natCast]
    simp)
  have g2 : ∀ k, k ≠ nx → k ≠ ls → H1 k = H k := fun k h1 h2 => (hH1 k).trans (by
    show (bif Nat.beq k nx then _ else bif Nat.beq k ls then none else H k) = _
    rw [beq_ne h1, beq_ne h2]; rfl)
  clear hH1
  have hbase : baseK p = n ∨ baseK p ∈ keys := by
    rcases hI.tree.base (p0 := p) (by simp) with h | h
    · exact .inl (by rw [h]; rfl)
    · exact .inr h
  have hln : n < nx := Nat.lt_trans (Nat.lt_trans (Nat.lt_succ_self n) hI.l1) hI.l2
  have hbl : baseK p ≠ nx ∧ baseK p ≠ ls ∧ baseK p ≠ n + 1 ∧ baseK p < nx := by
    have h1 := hI.l1
    have h2 := hI.l2
    rcases hbase with h | h
    · rw [h]; omega
    · have := hI.kb _ h; omega
  have fin : ∀ (cs : List AV) (Hj : Nat → Option Ob) (lsj nxj : Nat) (new : List Nat) (ch : List AV) (w' : Nat), (∀ k, k ≠ ls → k < nx → Hj k = putC H p cs k) → Hj lsj = some (.arow 85 1 ((S' ++ ch).map fun p => [p])) → At Hj 24 p (.mk k1 tx1 c1 ks1) new ch w' →
      new.Nodup → (∀ k ∈ new, nx ≤ k ∧ k < nxj ∧ k ≠ lsj) → nx ≤ lsj → lsj < nxj → w' < (Nd.mk k1 tx1 c1 ks1).cnt → ∃ keys2, DInv hp n 24 85 (.mk k0 tx c ks) Hj lsj nxj (S' ++ ch) keys2 (w1 + w') ∧ w1 + w' < w := by
    intro cs Hj lsj nxj new ch w' f1 f2 f3 f4 f5 f6 f7 f8
    have l1 := hI.l1
    have l2 := hI.l2
    have hD : ∀ k, k = n ∨ k ∈ keys → k ≠ ls ∧ k < nx := fun k hk => by
      rcases hk with rfl | hk
      · omega
      · have := hI.kb k hk; omega
    obtain ⟨keys2, hperm, hat⟩ := hrep Hj new ch w' (Sim.put hl0 hcell fun k hk => f1 k (hD k hk).1 (hD k hk).2) f3
    have hmem : ∀ k, k ∈ keys2 → k ∈ keys ∨ k ∈ new := fun k hk => List.mem_append.1 (hperm.mem_iff.1 hk)
    have hkn := List.nodup_cons.1 hI.nd
    refine ⟨keys2, {
      low := fun k hk => (f1 k (by omega) (by omega)).trans ((putC_other (by
        rcases hbase with h | h
        · omega
        · have := hI.kb _ h; omega)).trans (hI.low k hk))
      res := by
        obtain ⟨a, b, c, d, hr⟩ := hI.res
        exact ⟨a, b, c, d, (f1 (n + 1) (by omega) (by omega)).trans ((putC_other (Ne.symm hbl.2.2.1)).trans hr)⟩
      stk := f2
      tree := hat
      nd := List.nodup_cons.2 ⟨fun hm => by
        rcases hmem n hm with h | h
        · exact hkn.1 h
        · have := f5 n h; omega, hperm.nodup_iff.2 (List.nodup_append.2 ⟨hkn.2, f4, fun a ha b hb e => by
          have := hI.kb a ha
          have := f5 b hb
          omega⟩)⟩
      kb := fun k hk => by
        rcases hmem k hk with h | h
        · have := hI.kb k h; omega
        · have := f5 k h; omega
      l1 := by omega
      l2 := f7 }, by omega⟩
  have hc1 : cellsAt H1 p = some (ncells k1 tx1 c1 (.s (.sl 4 (Nd.encs ks1)))) := (cellsAt_eq hl0 (g2 _ hbl.1 hbl.2.1)).trans hcell
  refine tri_seq ?_
  refine tri_region (by exact tokW) (by exact gok) [] [] rfl ?_
  refine evOps_step rfl rfl rfl rfl rfl (s1_asgL hl0 (.inr rfl) rfl rfl) trivial ?_
  refine evOps_step rfl rfl rfl rfl rfl (s1_nilL hl0 rfl rfl) trivial ?_
  refine evOps_step rfl rfl rfl rfl rfl (s1_fldL hl0 rfl rfl rfl rfl rfl rfl rfl) trivial ?_
  refine evOps_ldL (off := 3) (sz := 4) rfl rfl rfl rfl rfl rfl rfl hl0 rfl hc1 rfl ?_
  refine evOps_step rfl rfl rfl rfl rfl rfl trivial ?_
  show Tri _ _ _ _
  refine tri_le (Le.forget [(1, .op n 0), (2, .op (n + 1) 0), (3, .orow nx), (4, p), (5, .s (.sl 4 (Nd.encs ks1)))] ⟨rfl, rfl, rfl, rfl, rfl, trivial⟩) ?_
  refine tri_seq ?_
  refine tri_region (by exact tokW) (by exact gok) [] [] rfl ?_
  refine evOps_step rfl rfl rfl rfl rfl (s1_asgL hl0 (.inr rfl) rfl rfl) trivial ?_
  refine evOps_step rfl rfl rfl rfl rfl (s1_nilL hl0 rfl rfl) trivial ?_
  refine evOps_step rfl rfl rfl rfl rfl (s1_fldL hl0 rfl rfl rfl rfl rfl rfl rfl) trivial ?_
  refine evOps_stL (off := 3) (sz := 4) (c := .s (.sl 4 [])) rfl rfl rfl rfl rfl hl0 rfl hc1 rfl (by decide) rfl rfl rfl ?_
  show Tri _ _ _ _
  refine tri_gen [(1, .op n 0), (2, .op (n + 1) 0), (3, .orow nx), (4, p), (5, .s (.sl 4 (Nd.encs ks1)))] (nx + 1) ⟨rfl, rfl, rfl, rfl, rfl, trivial⟩ rfl fun H2 hH2 => ?_
  have hH2 : ∀ k, H2 k = putC H1 p (ncells k1 tx1 c1 (.s (.sl 4 []))) k := hH2
  have hc2 : cellsAt H2 p = some (ncells k1 tx1 c1 (.s (.sl 4 []))) := (cellsAt_eq hl0 (hH2 _)).trans (cellsAt_put hl0 hc1)
  refine tri_seq ?_
  refine tri_seq ?_
  refine tri_region (by exact tokW) (by exact gok) [] [] rfl ?_
  refine evOps_step rfl rfl rfl rfl rfl rfl trivial ?_
  refine evOps_step rfl rfl rfl rfl rfl rfl trivial ?_
  refine evOps_step rfl rfl rfl rfl rfl rfl trivial ?_
  show Tri _ _ _ _
  refine tri_cond rfl (fun hb => ?_) (fun hb => ?_)
  rotate_left
  · obtain rfl : ks1 = [] := by
      cases ks1 with
      | nil => rfl
      | cons x l =>
        have := of_decide_eq_false hb
        simp only [Nd.encs, List.length_cons] at this
        omega
    refine tri_skip ?_
    show Tri _ _ _ _
    refine tri_le (Le.forget [(1, .op n 0), (2, .op (n + 1) 0), (3, .orow nx), (4, p), (5, .s (.sl 4 []))] ⟨rfl, rfl, rfl, rfl, rfl, trivial⟩) ?_
    refine tri_seq ?_
    refine tri_region (by exact tokW) (by exact gok) [] [] rfl ?_
    refine evOps_step rfl rfl rfl rfl rfl (s1_asgL hl0 (.inr rfl) rfl rfl) trivial ?_
    refine evOps_step rfl rfl rfl rfl rfl (s1_nilL hl0 rfl rfl) trivial ?_
    refine evOps_step rfl rfl rfl rfl rfl (s1_fldL hl0 rfl rfl rfl rfl rfl rfl rfl) trivial ?_
    refine evOps_ldL (off := 3) (sz := 4) rfl rfl rfl rfl rfl rfl rfl hl0 rfl hc2 rfl ?_
    refine evOps_step rfl rfl rfl rfl rfl rfl trivial ?_
    refine evOps_step rfl rfl rfl rfl rfl rfl trivial ?_
    show Tri _ _ _ _
    refine tri_le (Le.forget [(1, .op n 0), (2, .op (n + 1) 0), (3, .orow nx), (4, p), (5, .s (.sl 4 []))] ⟨rfl, rfl, rfl, rfl, rfl, trivial⟩) ?_
    refine tri_seq ?_
    refine tri_region (by exact tokW) (by exact gok) [] [] rfl ?_
    refine evOps_step rfl rfl rfl rfl rfl (s1_asgL hl0 (.inr rfl) rfl rfl) trivial ?_
    refine evOps_step rfl rfl rfl rfl rfl (s1_nilL hl0 rfl rfl) trivial ?_
    refine evOps_step rfl rfl rfl rfl rfl (s1_fldL hl0 rfl rfl rfl rfl rfl rfl rfl) trivial ?_
    refine evOps_ldL (off := 3) (sz := 4) rfl rfl rfl rfl rfl rfl rfl hl0 rfl hc2 rfl ?_
    refine evOps_step rfl rfl rfl rfl rfl rfl trivial ?_
    refine evOps_step rfl rfl rfl rfl rfl rfl trivial ?_
    show Tri _ _ _ _
    refine tri_block (tri_loopI (X := Unit) (fun _ => ⟨ofL [(1, .op n 0), (2, .op (n + 1) 0), (3, .orow nx), (48, .s (.int .i64 0)), (49, .s (.int .i64 0))], H2, nx + 1⟩) (fun _ => True) (fun _ => 0) () trivial (Le.forget [(1, .op n 0), (2, .op (n + 1) 0), (3, .orow nx), (48, .s (.int .i64 0)), (49, .s (.int .i64 0))] ⟨rfl, rfl, rfl, rfl, rfl, trivial⟩) ?_)
    rintro ⟨⟩ _
    refine tri_seq ?_
    refine tri_region (by exact tokW) (by exact gok) [] [] rfl ?_
    refine evOps_step rfl rfl rfl rfl rfl rfl trivial ?_
    show Tri _ _ _ _
    refine tri_seq ?_
    refine tri_cond rfl (fun hb => by cases hb) (fun hb => ?_)
    refine tri_exit ?_
    obtain ⟨keys2, hz1, hz2⟩ := fin (ncells k1 tx1 c1 (.s (.sl 4 []))) H2 nx (nx + 1) [] [] 0
      (fun k h1 h2 => (hH2 k).trans (putC_congr hl0 (g2 k (by omega) h1) (g2 _ hbl.1 hbl.2.1)))
      (by rw [List.append_nil]; exact (hH2 nx).trans ((putC_other (Ne.symm hbl.1)).trans g1))
      (by simp only [At]; exact ⟨.s (.sl 4 []), hc2, .inr (.inl (by simp))⟩) (by simp) (fun k hk => by cases hk) (Nat.le_refl _) (Nat.lt_succ_self _) (by simp [Nd.cnt])
    exact ⟨(H2, nx, nx + 1, S' ++ [], keys2, w1 + 0), hz1, Le.forget [(1, .op n 0), (2, .op (n + 1) 0), (3, .orow nx)] ⟨rfl, rfl, rfl, trivial⟩, hz2⟩
  · have hm : 0 < ks1.length := by
      have := of_decide_eq_true hb
      rw [Nd.encs_eq, List.length_map] at this
      omega
    have hkl : ks1.length < 1000000000 := by
      have h1 := Nd.cnts_len ks1
      have h2 := hwl.2
      simp only [Nd.cnt] at hw hcnt h2
      omega
    have hel : (Nd.encs ks1).length = ks1.length := by rw [Nd.encs_eq, List.length_map]
    refine tri_le (Le.forget [(1, .op n 0), (2, .op (n + 1) 0), (3, .orow nx), (4, p), (5, .s (.sl 4 (Nd.encs ks1)))] ⟨rfl, rfl, rfl, rfl, rfl, trivial⟩) ?_
    refine tri_region (by exact tokW) (by exact gok) [35] [] rfl ?_
    refine evOps_step rfl rfl rfl rfl rfl (s1_asgL hl0 (.inr rfl) rfl rfl) trivial ?_
    refine evOps_step rfl rfl rfl rfl rfl rfl trivial ?_
    refine evOps_step rfl rfl rfl rfl rfl rfl trivial ?_
    refine evOps_step rfl rfl rfl rfl rfl (s1_mk rfl rfl rfl rfl rfl rfl rfl rfl rfl) (show 0 ≤ _ ∧ _ from ⟨Int.natCast_nonneg _, Int.le_refl _, show (((Nd.encs ks1).length : Nat) : Int) * ((56 : Nat) : Int) ≤ 281474976710656 by omega, show (((Nd.encs ks1).length : Nat) : Int) ≤ 281474976710656 by omega⟩) ?_
    refine evOps_step rfl rfl rfl rfl rfl (s1_nilL hl0 rfl rfl) trivial ?_
    refine evOps_step rfl rfl rfl rfl rfl (s1_fldL hl0 rfl rfl rfl rfl rfl rfl rfl) trivial ?_
    have hbn : baseK p ≠ nx + 1 := by have := hbl.2.2.2; omega
    refine evOps_stL (off := 3) (sz := 4) (c := .orow (nx + 1)) rfl rfl rfl rfl rfl hl0 rfl ((cellsAt_eq hl0 (by show (bif Nat.beq (baseK p) (nx + 1) then _ else H2 (baseK p)) = _; rw [beq_ne hbn]; rfl)).trans hc2) rfl (by decide) rfl rfl (decide_eq_true (Nat.lt_succ_self _)) ?_
    show Tri _ _ _ _
    refine tri_gen [(1, .op n 0), (2, .op (n + 1) 0), (3, .orow nx), (4, p), (5, .s (.sl 4 (Nd.encs ks1)))] (nx + 2) ⟨rfl, rfl, rfl, rfl, rfl, trivial⟩ rfl fun H3 hH3 => ?_
    have hH3 : ∀ k, H3 k = putC (fun k => bif Nat.beq k (nx + 1) then some (.row 24 4 (List.replicate (((Nd.encs ks1).length : Int)).toNat [.int .i64 0, .str [], .int .i64 0, .sl 4 []])) else H2 k) p (ncells k1 tx1 c1 (.orow (nx + 1))) k := hH3
    have a1 : H3 (nx + 1) = some (.row 24 4 (List.replicate (((Nd.encs ks1).length : Int)).toNat [.int .i64 0, .str [], .int .i64 0, .sl 4 []])) := (hH3 _).trans ((putC_other (Ne.symm hbn)).trans (by simp only [Nat.beq_refl, cond_true]))
    have a2 : ∀ k, k ≠ nx + 1 → H3 k = putC H2 p (ncells k1 tx1 c1 (.orow (nx + 1))) k := fun k hk => (hH3 k).trans (putC_congr hl0 (by simp only [beq_ne hk, cond_false]) (by simp only [beq_ne hbn, cond_false]))
    have hc3 : cellsAt H3 p = some (ncells k1 tx1 c1 (.orow (nx + 1))) := (cellsAt_eq hl0 (a2 _ hbn)).trans (cellsAt_put hl0 hc2)
    refine tri_le (Le.toA (nx + 1) a1) ?_
    refine tri_seq ?_
    refine tri_region (by exact tokW) (by exact gok) [] [] rfl ?_
    refine evOps_step rfl rfl rfl rfl rfl (s1_asgL hl0 (.inr rfl) rfl rfl) trivial ?_
    refine evOps_step rfl rfl rfl rfl rfl (s1_nilL hl0 rfl rfl) trivial ?_
    refine evOps_step rfl rfl rfl rfl rfl (s1_fldL hl0 rfl rfl rfl rfl rfl rfl rfl) trivial ?_
    refine evOps_ldL (off := 3) (sz := 4) rfl rfl rfl rfl rfl rfl rfl hl0 rfl ((cellsAt_eq hl0 (upd_ne hbn)).trans hc3) rfl ?_
    refine evOps_step rfl rfl rfl rfl rfl rfl trivial ?_
    refine evOps_step rfl rfl rfl rfl rfl (s1_copyA rfl rfl rfl rfl rfl rfl rfl rfl rfl upd_at rfl rfl) (show (List.map _ _).length = List.length _ by simp) ?_
    show Tri _ _ _ _
    refine tri_gen [(1, .op n 0), (2, .op (n + 1) 0), (3, .orow nx), (4, p), (5, .s (.sl 4 (Nd.encs ks1)))] (nx + 2) ⟨rfl, rfl, rfl, rfl, rfl, trivial⟩ rfl fun H4 hH4 => ?_
    have r1 : H4 (nx + 1) = some (.arow 24 4 ((Nd.encs ks1).map (·.map AV.s))) := (hH4 _).trans upd_at
    have r2 : ∀ k, k ≠ nx + 1 → H4 k = H3 k := fun k hk => (hH4 k).trans ((upd_ne hk).trans (upd_ne hk))
    clear hH4
    have hc4 : cellsAt H4 p = some (ncells k1 tx1 c1 (.orow (nx + 1))) := (cellsAt_eq hl0 (r2 _ hbn)).trans hc3
    refine tri_seq ?_
    refine tri_region (by exact tokW) (by exact gok) [] [] rfl ?_
    refine evOps_step rfl rfl rfl rfl rfl (s1_asgL hl0 (.inr rfl) rfl rfl) trivial ?_
    refine evOps_step rfl rfl rfl rfl rfl (s1_nilL hl0 rfl rfl) trivial ?_
    refine evOps_step rfl rfl rfl rfl rfl (s1_fldL hl0 rfl rfl rfl rfl rfl rfl rfl) trivial ?_
    refine evOps_ldL (off := 3) (sz := 4) rfl rfl rfl rfl rfl rfl rfl hl0 rfl hc4 rfl ?_
    refine evOps_step rfl rfl rfl rfl rfl (s1_lenA rfl rfl rfl rfl rfl r1) trivial ?_
    refine evOps_step rfl rfl rfl rfl rfl rfl trivial ?_
    show Tri _ _ _ _
    have hlen4 : ((Nd.encs ks1).map (·.map AV.s)).length = ks1.length := by rw [List.length_map, hel]
    refine tri_block (tri_loopI (X := (Nat → Option Ob) × Nat × Nat × Nat) (fun y => match y with | (Hj, lsj, nxj, j) => ⟨ofL [(1, .op n 0), (2, .op (n + 1) 0), (3, .orow lsj), (4, p), (48, .s (.int .i64 (ks1.length : Int))), (49, .s (.int .i64 (j : Int)))], Hj, nxj⟩)
      (fun y => match y with | (Hj, lsj, nxj, j) => j ≤ ks1.length ∧ (∀ k, k ≠ nx → k < nx + 2 → Hj k = H4 k) ∧ Hj lsj = some (.arow 85 1 ((S' ++ locs (nx + 1) 0 j).map fun p => [p])) ∧ (lsj = nx ∨ nx + 2 ≤ lsj) ∧ lsj < nxj ∧ nx + 2 ≤ nxj) (fun y => match y with | (Hj, lsj, nxj, j) => ks1.length - j) (H4, nx, nx + 2, 0)
      ⟨Nat.zero_le _, fun k _ _ => rfl, by
        refine (r2 nx (by omega)).trans ((a2 nx (by omega)).trans ((putC_other (Ne.symm hbl.1)).trans ((hH2 nx).trans ((putC_other (Ne.symm hbl.1)).trans (g1.trans ?_)))))
        simp [locs], .inl rfl, by omega, Nat.le_refl _⟩
      (Le.forget [(1, .op n 0), (2, .op (n + 1) 0), (3, .orow nx), (4, p), (48, .s (.int .i64 (ks1.length : Int))), (49, .s (.int .i64 ((0 : Nat) : Int)))] ⟨rfl, rfl, rfl, rfl, congrArg (fun m : Nat => AV.s (.int .i64 (m : Int))) hlen4, rfl, trivial⟩) ?_)
    rintro ⟨Hj, lsj, nxj, j⟩ ⟨i1, i2, i3, i4, i5, i6⟩
    have hbj : baseK p ≠ nx ∧ baseK p < nx + 2 := ⟨hbl.1, by have := hbl.2.2.2; omega⟩
    have hcj : cellsAt Hj p = some (ncells k1 tx1 c1 (.orow (nx + 1))) := (cellsAt_eq hl0 (i2 _ hbj.1 hbj.2)).trans hc4
    have hrj : Hj (nx + 1) = some (.arow 24 4 ((Nd.encs ks1).map (·.map AV.s))) := (i2 (nx + 1) (by omega) (by omega)).trans r1
    refine tri_seq ?_
    refine tri_region (by exact tokW) (by exact gok) [] [] rfl ?_
    refine evOps_step rfl rfl rfl rfl rfl rfl trivial ?_
    show Tri _ _ _ _
    refine tri_seq ?_
    refine tri_cond rfl (fun hb => ?_) (fun hb => ?_)
    · refine tri_skip ?_
      show Tri _ _ _ _
      have hj : j < ks1.length := Int.ofNat_lt.1 (of_decide_eq_true hb)
      have hsl : ((S' ++ locs (nx + 1) 0 j).map fun p => [p]).length = S'.length + j := by simp [locs]
      refine tri_le (Le.forget [(1, .op n 0), (2, .op (n + 1) 0), (3, .orow lsj), (4, p), (48, .s (.int .i64 (ks1.length : Int))), (49, .s (.int .i64 (j : Int)))] ⟨rfl, rfl, rfl, rfl, rfl, rfl, trivial⟩) ?_
      refine tri_seq ?_
      refine tri_block ?_
      refine tri_seq ?_
      refine tri_region (by exact tokW) (by exact gok) [] [] rfl ?_
      refine evOps_step rfl rfl rfl rfl rfl rfl trivial ?_
      refine evOps_step rfl rfl rfl rfl rfl rfl trivial ?_
      show Tri _ _ _ _
      refine tri_region (by exact tokW) (by exact gok) [59, 60] [] rfl ?_
      refine evOps_step rfl rfl rfl rfl rfl rfl trivial ?_
      refine evOps_step rfl rfl rfl rfl rfl (s1_asgL hl0 (.inr rfl) rfl rfl) trivial ?_
      refine evOps_step rfl rfl rfl rfl rfl (s1_nilL hl0 rfl rfl) trivial ?_
      refine evOps_step rfl rfl rfl rfl rfl (s1_fldL hl0 rfl rfl rfl rfl rfl rfl rfl) trivial ?_
      refine evOps_ldL (off := 3) (sz := 4) rfl rfl rfl rfl rfl rfl rfl hl0 rfl hcj rfl ?_
      refine evOps_step rfl rfl rfl rfl rfl rfl trivial ?_
      refine evOps_step rfl rfl rfl rfl rfl (s1_idxA rfl rfl rfl rfl rfl rfl hrj rfl) ⟨Int.natCast_nonneg _, Int.ofNat_lt.2 (by rw [hlen4]; exact hj)⟩ ?_
      rw [Int.toNat_natCast]
      refine evOps_step rfl rfl rfl rfl rfl rfl trivial ?_
      refine evOps_step rfl rfl rfl rfl rfl (s1_appA (rows := (S' ++ locs (nx + 1) 0 j).map fun p => [p]) (rows2 := [[.rp (nx + 1) 4 j 0]]) rfl rfl rfl rfl rfl rfl rfl rfl rfl (by show (bif Nat.beq lsj nxj then _ else Hj lsj) = _; rw [beq_ne (by omega)]; exact i3) (by show (bif Nat.beq nxj nxj then _ else Hj nxj) = _; rw [Nat.beq_refl]; rfl) rfl rfl rfl) (show (((S' ++ locs (nx + 1) 0 j).map fun p => [p]).length + 1) * 8 ≤ 140737488355328 ∧ ((S' ++ locs (nx + 1) 0 j).map fun p => [p]).length + 1 ≤ 9223372036854775807 by rw [hsl]; omega) ?_
      refine evOps_step rfl rfl rfl rfl rfl rfl trivial ?_
      show Tri _ _ _ _
      refine tri_gen [(1, .op n 0), (2, .op (n + 1) 0), (3, .orow (nxj + 1)), (4, p), (48, .s (.int .i64 (ks1.length : Int))), (49, .s (.int .i64 (j : Int)))] (nxj + 2) ⟨rfl, rfl, rfl, rfl, rfl, rfl, trivial⟩ rfl fun H5 hH5 => ?_
      have e1 : H5 (nxj + 1) = some (.arow 85 1 ((S' ++ locs (nx + 1) 0 (j + 1)).map fun p => [p])) := (hH5 _).trans (by
        show (bif Nat.beq (nxj + 1) (nxj + 1) then some (Ob.arow 85 1 (((S' ++ locs (nx + 1) 0 j).map fun p => [p]) ++ [[.rp (nx + 1) 4 j 0]])) else _) = _
        rw [Nat.beq_refl, cond_true, locs_succ]
        simp)
      have e2 : ∀ k, k ≠ nxj + 1 → k ≠ lsj → k ≠ nxj → H5 k = Hj k := fun k h1 h2 h3 => (hH5 k).trans (by
        show (bif Nat.beq k (nxj + 1) then _ else bif Nat.beq k lsj then none else bif Nat.beq k nxj then _ else Hj k) = _
        rw [beq_ne h1, beq_ne h2, beq_ne h3]; rfl)
      clear hH5
      refine tri_region (by exact tokW) (by exact gok) [] [] rfl ?_
      refine evOps_step rfl rfl rfl rfl rfl rfl trivial ?_
      refine evOps_step rfl rfl rfl rfl rfl rfl trivial ?_
      exact ⟨(H5, nxj + 1, nxj + 2, j + 1), ⟨hj, fun k h1 h2 => (e2 k (by omega) (by omega) (by omega)).trans (i2 k h1 h2), e1, .inr (by omega), by omega, by omega⟩,
        Le.forget [(1, .op n 0), (2, .op (n + 1) 0), (3, .orow (nxj + 1)), (4, p), (48, .s (.int .i64 (ks1.length : Int))), (49, .s (.int .i64 ((j + 1 : Nat) : Int)))] ⟨rfl, rfl, rfl, rfl, rfl, congrArg (fun z => AV.s (.int .i64 z)) (wi_succ (by omega)), trivial⟩, by show ks1.length - (j + 1) < ks1.length - j; omega⟩
    · refine tri_exit ?_
      have hj : j = ks1.length := by
        have := of_decide_eq_false hb
        omega
      subst hj
      obtain ⟨keys2, hz1, hz2⟩ := fin (ncells k1 tx1 c1 (.orow (nx + 1))) Hj lsj nxj [nx + 1] (locs (nx + 1) 0 ks1.length) (Nd.cnts ks1)
        (fun k h1 h2 => (i2 k (by omega) (by omega)).trans ((r2 k (by omega)).trans ((a2 k (by omega)).trans (putC_twice hl0 hcell ((hH2 _).trans (putC_congr hl0 (g2 _ hbl.1 hbl.2.1) (g2 _ hbl.1 hbl.2.1))) fun hk => (hH2 k).trans ((putC_other hk).trans (g2 k (by omega) h1))))))
        i3 (by simp only [At]; exact ⟨.orow (nx + 1), hcj, .inr (.inr ⟨nx + 1, _, [], rfl, hrj, hlen4, rfl, LAt.copied hrj⟩)⟩) (by simp) (fun k hk => by
          have := List.mem_singleton.1 hk
          omega) (by omega) i5 (by simp [Nd.cnt])
      exact ⟨(Hj, lsj, nxj, S' ++ locs (nx + 1) 0 ks1.length, keys2, w1 + Nd.cnts ks1), hz1, Le.forget [(1, .op n 0), (2, .op (n + 1) 0), (3, .orow lsj)] ⟨rfl, rfl, rfl, trivial⟩, hz2⟩
def R_deep_Node (xs : List AV) (r : Ret) : Prop := ∃ (a0 : Nd) (y0 : Nd), m_deep_Node a0 = some y0 ∧ xs = [.agg ((Nd.enc a0).map .s)] ∧ r = .val (.agg ((Nd.enc y0).map .s))
def S_deep_Node : PSpec := pspec fun xs r => R_deep_Node xs r
theorem ok_deep_Node : PSound Try.prog 49 S_deep_Node :=
  PSound.giveAll hok_deep_Node fun xs r h => by
    obtain ⟨⟨k, t, c, ks⟩, y, hm, rfl, rfl⟩ := h
    obtain ⟨hq, hm⟩ := req_out hm
    obtain rfl := Option.some.inj hm
    refine ⟨_, rfl, rfl, k, c, t, ks, hq, rfl, fun v hp' n' keys _ _ hv _ _ => ?_⟩
    refine rdV_node (t := .mk k t c ks) (RdC.node ?_)
    rcases hv with ⟨rfl, rfl, _⟩ | ⟨q, rows, keys', w, rfl, hq, hlen, rfl, h⟩
    · exact .s _
    · exact Rd.rows hq hlen fun j x hj => (by have := LAt.rd h j x hj; rwa [Nat.zero_add] at this)
end Go.Proofs.Ytfbggpmdmhgpfaa
namespace Go.Proofs.Ytfbggpmdmhgpfaa
open Go.Abs
theorem findL_none1 {n : Nd} {i s : Int} {p : List Int} (h : ¬ (0 ≤ i ∧ i < n.kids.length)) : findL n (i :: s :: p) = none := by rw [findL, if_neg h]
theorem findL_none2 {n x : Nd} {i s : Int} {p : List Int} (h0 : 0 ≤ i) (hx : n.kids[i.toNat]? = some x) (h : ¬ (0 ≤ s ∧ s < x.kids.length)) : findL n (i :: s :: p) = none := by
  have hl := (List.getElem?_eq_some_iff.1 hx).1
  rw [findL, if_pos ⟨h0, by omega⟩]
  simp only [List.getD_eq_getElem?_getD, hx, Option.getD_some]
  rw [if_neg h]
theorem findL_step {n x z : Nd} {i s : Int} {p : List Int} (h0 : 0 ≤ i) (hx : n.kids[i.toNat]? = some x) (h1 : 0 ≤ s) (hz : x.kids[s.toNat]? = some z) : findL n (i :: s :: p) = findL z p := by
  have hl := (List.getElem?_eq_some_iff.1 hx).1
  have hl2 := (List.getElem?_eq_some_iff.1 hz).1
  rw [findL, if_pos ⟨h0, by omega⟩]
  simp only [List.getD_eq_getElem?_getD, hx, hz, Option.getD_some]
  rw [if_pos ⟨h1, by omega⟩]
theorem encs_at {l : List Nd} {i : Nat} {x : Nd} (h : l[i]? = some x) : (Nd.encs l).getD i [] = Nd.enc x := by
  simp [Nd.encs_eq, List.getD_eq_getElem?_getD, h]
theorem encs_len (l : List Nd) : (Nd.encs l).length = l.length := by rw [Nd.encs_eq, List.length_map]
def enc_found : Option Nd → AV
  | some y => .s (.pt (Nd.enc y))
  | none => .junk
def R_node_find (xs : List AV) (r : Ret) : Prop := ∃ (a0 : Nd) (a1 : List Int), xs = [.s (.pt (Nd.enc a0)), .s (.sl 1 (a1.map (irow .i64)))] ∧ r = .val (.tup [enc_found (findL a0 a1), .s (.bool (findL a0 a1).isSome)])
def S_node_find : PSpec := pspec fun xs r => R_node_find xs r
set_option maxHeartbeats 2000000 in
set_option maxRecDepth 100000 in
theorem ok_node_find : PSound Try.prog 58 S_node_find := by
  have gok : ∀ (f : Nat) (s : PSpec), (fun _ => none : Nat → Option PSpec) f = some s → PSound Try.prog f s := fun _ _ h => by cases h
  refine psound tokW Try.call58 Try.func58 rfl (fun xs r h => by obtain ⟨_, _, rfl, _⟩ := h; show 2 ≤ _; decide) _ rfl ?_
  rintro xs r w0 G0 ⟨n0, p0, rfl, rfl⟩ _
  generalize hy : findL n0 p0 = y
  refine tri_seq ?_
  refine tri_region (by exact tokW) (by exact gok) [] [] rfl ?_
  show Tri _ _ _ _
  refine tri_seq ?_
  refine tri_block (tri_loopI (X := Nd × List Int) (fun x => match x with | (n, p) => ⟨ofL [(0, .s (.pt (Nd.enc n))), (1, .s (.sl 1 (p.map (irow .i64)))), (4, .s .np), (5, .s (.bool false))], fun _ => none, 0⟩)
    (fun x => match x with | (n, p) => findL n p = y) (fun x => match x with | (n, p) => p.length) (n0, p0) hy (Le.forget [(0, .s (.pt (Nd.enc n0))), (1, .s (.sl 1 (p0.map (irow .i64)))), (4, .s .np), (5, .s (.bool false))] ⟨rfl, rfl, rfl, rfl, trivial⟩) ?_)
  rintro ⟨⟨k, t, c, ks⟩, p⟩ hI
  have hI : findL (.mk k t c ks) p = y := hI
  refine tri_seq ?_
  refine tri_seq ?_
  refine tri_region (by exact tokW) (by exact gok) [] [] rfl ?_
  show Tri _ _ _ _
  refine tri_cond rfl (fun hb => ?_) (fun hb => ?_)
  · refine tri_skip ?_
    show Tri _ _ _ _
    match p, hI, hb with
    | [], _, hb => cases hb
    | [_], _, hb => cases hb
    | i :: s :: p, hI, hb =>
      refine tri_le (Le.forget [(0, .s (.pt (Nd.enc (.mk k t c ks)))), (1, .s (.sl 1 ((i :: s :: p).map (irow .i64)))), (4, .s .np), (5, .s (.bool false))] ⟨rfl, rfl, rfl, rfl, trivial⟩) ?_
      refine tri_seq ?_
      refine tri_block ?_
      refine tri_seq ?_
      refine tri_drawn (by exact tokW) (by exact gok) (by exact mixed) [] [] [1, 2, 4, 5] rfl (by decide +kernel) ?_
      refine And.intro (show (0 : Int) ≤ 0 ∧ (0 : Int) < ((((i :: s :: p).map (irow .i64)).length : Nat) : Int) by simp only [List.map_cons, List.length_cons]; omega) ?_
      refine And.intro (show (0 : Int) ≤ 1 ∧ (1 : Int) < ((((i :: s :: p).map (irow .i64)).length : Nat) : Int) by simp only [List.map_cons, List.length_cons]; omega) ?_
      show Tri _ _ _ _
      refine tri_le (Le.forget [(0, .s (.pt [.int .i64 k, .str t, .int .i64 c, .sl 4 (Nd.encs ks)])), (1, .s (.sl 1 ((i :: s :: p).map (irow .i64)))), (4, .s .np), (5, .s (.bool false)), (6, .s (.int .i64 i)), (7, .s (.int .i64 s))] ⟨rfl, rfl, rfl, rfl, rfl, rfl, trivial⟩) ?_
      refine tri_seq ?_
      refine tri_seq ?_
      by_cases hi : i < 0
      · refine tri_region (by exact tokW) (by exact gok) [] [21] rfl ?_
        intro b hb
        obtain rfl : true = b := (hb.trans (decide_eq_true hi)).symm
        show Tri _ _ _ _
        refine tri_cond rfl (fun _ => ?_) (fun h => by cases h)
        refine tri_seq ?_
        refine tri_region (by exact tokW) (by exact gok) [] [] rfl ?_
        show Tri _ _ _ _
        refine tri_ret ?_
        obtain rfl : none = y := (findL_none1 (fun h => by omega)).symm.trans hI
        unfold Gives
        exact ⟨_, Le.forget [(5, .s (.bool false))] ⟨rfl, trivial⟩, rfl, rfl⟩
      by_cases hi2 : (ks.length : Int) ≤ i
      · refine tri_region (by exact tokW) (by exact gok) [] [21, 29] rfl ?_
        intro b hb
        obtain rfl : false = b := (hb.trans (decide_eq_false hi)).symm
        intro b hb
        obtain rfl : true = b := (hb.trans (decide_eq_true (show (((Nd.encs ks).length : Nat) : Int) ≤ i by rw [encs_len]; exact hi2))).symm
        show Tri _ _ _ _
        refine tri_cond rfl (fun _ => ?_) (fun h => by cases h)
        refine tri_seq ?_
        refine tri_region (by exact tokW) (by exact gok) [] [] rfl ?_
        show Tri _ _ _ _
        refine tri_ret ?_
        obtain rfl : none = y := (findL_none1 (n := .mk k t c ks) (fun h => by have : i < ks.length := h.2; omega)).symm.trans hI
        unfold Gives
        exact ⟨_, Le.forget [(5, .s (.bool false))] ⟨rfl, trivial⟩, rfl, rfl⟩
      refine tri_region (by exact tokW) (by exact gok) [] [21, 29] rfl ?_
      intro b hb
      obtain rfl : false = b := (hb.trans (decide_eq_false hi)).symm
      intro b hb
      obtain rfl : false = b := (hb.trans (decide_eq_false (show ¬ (((Nd.encs ks).length : Nat) : Int) ≤ i by rw [encs_len]; exact hi2))).symm
      show Tri _ _ _ _
      refine tri_cond rfl (fun h => by cases h) (fun _ => ?_)
      refine tri_skip ?_
      show Tri _ _ _ _
      have hi0 : i.toNat < ks.length := by omega
      obtain ⟨⟨k2, t2, c2, ks2⟩, hx⟩ : ∃ x, ks[i.toNat]? = some x := ⟨_, List.getElem?_eq_getElem hi0⟩
      refine tri_le (Le.forget [(0, .s (.pt [.int .i64 k, .str t, .int .i64 c, .sl 4 (Nd.encs ks)])), (1, .s (.sl 1 ((i :: s :: p).map (irow .i64)))), (4, .s .np), (5, .s (.bool false)), (6, .s (.int .i64 i)), (7, .s (.int .i64 s))] ⟨rfl, rfl, rfl, rfl, rfl, rfl, trivial⟩) ?_
      refine tri_seq ?_
      refine tri_region (by exact tokW) (by exact gok) [] [] rfl ?_
      refine And.intro (show (0 : Int) ≤ i ∧ i < (((Nd.encs ks).length : Nat) : Int) by rw [encs_len]; omega) ?_
      show Tri _ _ _ _
      refine tri_le (Le.forget [(0, .s (.pt [.int .i64 k, .str t, .int .i64 c, .sl 4 (Nd.encs ks)])), (1, .s (.sl 1 ((i :: s :: p).map (irow .i64)))), (4, .s .np), (5, .s (.bool false)), (6, .s (.int .i64 i)), (7, .s (.int .i64 s)), (8, .s (.pt [.int .i64 k2, .str t2, .int .i64 c2, .sl 4 (Nd.encs ks2)]))] ⟨rfl, rfl, rfl, rfl, rfl, rfl, congrArg (fun z => AV.s (.pt z)) (encs_at hx), trivial⟩) ?_
      refine tri_seq ?_
      refine tri_seq ?_
      by_cases hs : s < 0
      · refine tri_region (by exact tokW) (by exact gok) [] [38] rfl ?_
        intro b hb
        obtain rfl : true = b := (hb.trans (decide_eq_true hs)).symm
        show Tri _ _ _ _
        refine tri_cond rfl (fun _ => ?_) (fun h => by cases h)
        refine tri_seq ?_
        refine tri_region (by exact tokW) (by exact gok) [] [] rfl ?_
        show Tri _ _ _ _
        refine tri_ret ?_
        obtain rfl : none = y := (findL_none2 (n := .mk k t c ks) (by omega) hx (fun h => by omega)).symm.trans hI
        unfold Gives
        exact ⟨_, Le.forget [(5, .s (.bool false))] ⟨rfl, trivial⟩, rfl, rfl⟩
      by_cases hs2 : (ks2.length : Int) ≤ s
      · refine tri_region (by exact tokW) (by exact gok) [] [38, 46] rfl ?_
        intro b hb
        obtain rfl : false = b := (hb.trans (decide_eq_false hs)).symm
        intro b hb
        obtain rfl : true = b := (hb.trans (decide_eq_true (show (((Nd.encs ks2).length : Nat) : Int) ≤ s by rw [encs_len]; exact hs2))).symm
        show Tri _ _ _ _
        refine tri_cond rfl (fun _ => ?_) (fun h => by cases h)
        refine tri_seq ?_
        refine tri_region (by exact tokW) (by exact gok) [] [] rfl ?_
        show Tri _ _ _ _
        refine tri_ret ?_
        obtain rfl : none = y := (findL_none2 (n := .mk k t c ks) (by omega) hx (fun h => by have : s < ks2.length := h.2; omega)).symm.trans hI
        unfold Gives
        exact ⟨_, Le.forget [(5, .s (.bool false))] ⟨rfl, trivial⟩, rfl, rfl⟩
      refine tri_region (by exact tokW) (by exact gok) [] [38, 46] rfl ?_
      intro b hb
      obtain rfl : false = b := (hb.trans (decide_eq_false hs)).symm
      intro b hb
      obtain rfl : false = b := (hb.trans (decide_eq_false (show ¬ (((Nd.encs ks2).length : Nat) : Int) ≤ s by rw [encs_len]; exact hs2))).symm
      show Tri _ _ _ _
      refine tri_cond rfl (fun h => by cases h) (fun _ => ?_)
      refine tri_skip ?_
      show Tri _ _ _ _
      have hs0 : s.toNat < ks2.length := by omega
      obtain ⟨z, hz⟩ : ∃ z, ks2[s.toNat]? = some z := ⟨_, List.getElem?_eq_getElem hs0⟩
      refine tri_le (Le.forget [(0, .s (.pt [.int .i64 k, .str t, .int .i64 c, .sl 4 (Nd.encs ks)])), (1, .s (.sl 1 ((i :: s :: p).map (irow .i64)))), (4, .s .np), (5, .s (.bool false)), (6, .s (.int .i64 i)), (7, .s (.int .i64 s)), (8, .s (.pt [.int .i64 k2, .str t2, .int .i64 c2, .sl 4 (Nd.encs ks2)]))] ⟨rfl, rfl, rfl, rfl, rfl, rfl, rfl, trivial⟩) ?_
      refine tri_region (by exact tokW) (by exact gok) [] [] rfl ?_
      refine And.intro (show (0 : Int) ≤ s ∧ s < (((Nd.encs ks2).length : Nat) : Int) by rw [encs_len]; omega) ?_
      show Tri _ _ _ _
      refine tri_le (Le.forget [(0, .s (.pt (Nd.enc z))), (1, .s (.sl 1 ((i :: s :: p).map (irow .i64)))), (4, .s .np), (5, .s (.bool false))] ⟨congrArg (fun z => AV.s (.pt z)) (encs_at hz), rfl, rfl, rfl, trivial⟩) ?_
      refine tri_region (by exact tokW) (by exact gok) [] [] rfl ?_
      refine And.intro (show (0 : Int) ≤ 2 ∧ (2 : Int) ≤ ((((i :: s :: p).map (irow .i64)).length : Nat) : Int) ∧ _ ≤ _ from ⟨by decide, by simp only [List.map_cons, List.length_cons]; omega, Int.le_refl _⟩) ?_
      exact ⟨(z, p), (findL_step (n := .mk k t c ks) (by omega) hx (by omega) hz).symm.trans hI, Le.forget [(0, .s (.pt (Nd.enc z))), (1, .s (.sl 1 (p.map (irow .i64)))), (4, .s .np), (5, .s (.bool false))] ⟨rfl, congrArg (fun z => AV.s (.sl 1 z)) (by rw [Int.toNat_natCast, List.take_length]; rfl), rfl, rfl, trivial⟩, by show p.length < p.length + 1 + 1; omega⟩
  · refine tri_exit ?_
    show Tri _ _ _ _
    refine tri_seq ?_
    match p, hI, hb with
    | [], hI, _ =>
      refine tri_region (by exact tokW) (by exact gok) [] [] rfl ?_
      show Tri _ _ _ _
      refine tri_ret ?_
      obtain rfl : some (.mk k t c ks) = y := hI
      unfold Gives
      exact ⟨_, Le.refl _ _, rfl, rfl⟩
    | [i], hI, _ =>
      refine tri_region (by exact tokW) (by exact gok) [] [] rfl ?_
      show Tri _ _ _ _
      refine tri_ret ?_
      obtain rfl : none = y := hI
      unfold Gives
      exact ⟨_, Le.forget [(5, .s (.bool false))] ⟨rfl, trivial⟩, rfl, rfl⟩
    | i :: s :: p, _, hb => exact absurd (of_decide_eq_false hb) (by simp only [List.map_cons, List.length_cons]; omega)
end Go.Proofs.Ytfbggpmdmhgpfaa
namespace Go.Proofs.Ytfbggpmdmhgpfaa
open Go.Abs
def m_slices_Concat_sNode_l1 (slices1 : List (List Nd)) : Nat → Int → Int → Option (Int)
| 0, _, _ => none
| k+1, x3, size4 =>
  bif decide (x3 < (slices1.length : Int)) then (
    (at? slices1 x3).bind fun e6 =>
    bif decide ((IntKind.i64.wrap (size4 + (e6.length : Int))) < 0) then (
      none
    ) else (
      m_slices_Concat_sNode_l1 slices1 k (IntKind.i64.wrap (x3 + 1)) (IntKind.i64.wrap (size4 + (e6.length : Int)))
    )
  ) else (
    some size4
  )
def m_slices_Concat_sNode_l2 (slices1 : List (List Nd)) : Nat → Int → (List Nd) → Option ((List Nd))
| 0, _, _ => none
| k+1, x11, l13 =>
  bif decide (x11 < (slices1.length : Int)) then (
    (at? slices1 x11).bind fun e15 =>
    req (l13.length + e15.length ≤ 4294967296) <|
    m_slices_Concat_sNode_l2 slices1 k (IntKind.i64.wrap (x11 + 1)) (l13 ++ e15)
  ) else (
    some l13
  )
def m_slices_Concat_sNode (n : Nat) : (List (List Nd)) → Option (List Nd)
| slices1 =>
  (m_slices_Concat_sNode_l1 slices1 n 0 0).bind fun size5 =>
  (m_slices_Grow_sNode size5).bind fun y9 =>
  (m_slices_Concat_sNode_l2 slices1 n 0 y9).bind fun l14 =>
  some l14
def m_edit_change_join (n : Nat) : ((Int × List Int × Int × Int × List Nd × Int × List UInt8 × List UInt8) × List Nd) → Int → (List Nd) → Option (List Nd)
| ⟨⟨c1_op_kind, c1_op_row, c1_op_at, c1_op_n, c1_op_nodes, c1_op_slot, c1_op_old, c1_op_text⟩, c1_items⟩, n2, nodes3 =>
  req (0 ≤ (0 : Int) ∧ (0 : Int) ≤ c1_op_at ∧ c1_op_at ≤ (c1_items.length : Int)) <|
  req (0 ≤ (IntKind.i64.wrap (c1_op_at + n2)) ∧ (IntKind.i64.wrap (c1_op_at + n2)) ≤ (c1_items.length : Int) ∧ (c1_items.length : Int) ≤ (c1_items.length : Int)) <|
  (m_slices_Concat_sNode n [(c1_items.take c1_op_at.toNat).drop (0 : Int).toNat, nodes3, (c1_items.take (c1_items.length : Int).toNat).drop (IntKind.i64.wrap (c1_op_at + n2)).toNat]).bind fun y7 =>
  some y7
def m_edit_change_unwrap_kids (n : Nat) : ((Int × List Int × Int × Int × List Nd × Int × List UInt8 × List UInt8) × List Nd) → Option ((List Nd) × Int)
| ⟨⟨c1_op_kind, c1_op_row, c1_op_at, c1_op_n, c1_op_nodes, c1_op_slot, c1_op_old, c1_op_text⟩, c1_items⟩ =>
  (at? c1_items c1_op_at).bind fun ⟨e2_kind, e2_text, e2_cols, e2_kids⟩ =>
  (m_deep_Node_own (Nd.mk e2_kind e2_text e2_cols e2_kids)).bind fun ⟨y4_kind, y4_text, y4_cols, y4_kids⟩ =>
  (m_node_Slots (Nd.mk y4_kind y4_text y4_cols y4_kids)).bind fun y5 =>
  bif decide (y5 ≤ c1_op_slot) then (
    some ([], 7)
  ) else (
    (at? y4_kids c1_op_slot).bind fun ⟨e6_kind, e6_text, e6_cols, e6_kids⟩ =>
    (at? y4_kids c1_op_slot).bind fun ⟨e7_kind, e7_text, e7_cols, e7_kids⟩ =>
    (
      bif ((e6_kids.length : Int) != c1_op_n) then (
        some true
      ) else (
        (at? c1_op_nodes 0).bind fun ⟨e11_kind, e11_text, e11_cols, e11_kids⟩ =>
        (m_node_Equal n (Nd.mk y4_kind y4_text y4_cols (y4_kids.set c1_op_slot.toNat (Nd.mk e7_kind e7_text e7_cols []))) (Nd.mk e11_kind e11_text e11_cols e11_kids)).bind fun y13 =>
        some (!y13)
      )
     : Option (Bool)).bind fun x9 =>
    bif x9 then (
      some ([], 7)
    ) else (
      (m_edit_change_join n ((c1_op_kind, c1_op_row, c1_op_at, c1_op_n, c1_op_nodes, c1_op_slot, c1_op_old, c1_op_text), c1_items) 1 e6_kids).bind fun y14 =>
      some (y14, 0)
    )
  )
def m_edit_change_wrap (n : Nat) : ((Int × List Int × Int × Int × List Nd × Int × List UInt8 × List UInt8) × List Nd) → Option ((List Nd) × Int)
| ⟨⟨c1_op_kind, c1_op_row, c1_op_at, c1_op_n, c1_op_nodes, c1_op_slot, c1_op_old, c1_op_text⟩, c1_items⟩ =>
  (at? c1_op_nodes 0).bind fun ⟨e2_kind, e2_text, e2_cols, e2_kids⟩ =>
  (m_deep_Node_own (Nd.mk e2_kind e2_text e2_cols e2_kids)).bind fun ⟨y4_kind, y4_text, y4_cols, y4_kids⟩ =>
  req (0 ≤ c1_op_at ∧ c1_op_at ≤ IntKind.i64.wrap (c1_op_at + c1_op_n) ∧ IntKind.i64.wrap (c1_op_at + c1_op_n) ≤ (c1_items.length : Int)) <|
  (m_slices_Clone_sNode ((c1_items.take (IntKind.i64.wrap (c1_op_at + c1_op_n)).toNat).drop c1_op_at.toNat)).bind fun y6 =>
  (at? y4_kids c1_op_slot).bind fun ⟨e7_kind, e7_text, e7_cols, e7_kids⟩ =>
  (m_edit_change_join n ((c1_op_kind, c1_op_row, c1_op_at, c1_op_n, c1_op_nodes, c1_op_slot, c1_op_old, c1_op_text), c1_items) c1_op_n [Nd.mk y4_kind y4_text y4_cols (y4_kids.set c1_op_slot.toNat (Nd.mk e7_kind e7_text e7_cols y6))]).bind fun y10 =>
  some (y10, 0)
def m_edit_change_insert (n : Nat) : ((Int × List Int × Int × Int × List Nd × Int × List UInt8 × List UInt8) × List Nd) → Option ((List Nd) × Int)
| ⟨⟨c1_op_kind, c1_op_row, c1_op_at, c1_op_n, c1_op_nodes, c1_op_slot, c1_op_old, c1_op_text⟩, c1_items⟩ =>
  (m_edit_change_join n ((c1_op_kind, c1_op_row, c1_op_at, c1_op_n, c1_op_nodes, c1_op_slot, c1_op_old, c1_op_text), c1_items) 0 c1_op_nodes).bind fun y2 =>
  some (y2, 0)
def m_edit_change_remove (n : Nat) : ((Int × List Int × Int × Int × List Nd × Int × List UInt8 × List UInt8) × List Nd) → Option ((List Nd) × Int)
| ⟨⟨c1_op_kind, c1_op_row, c1_op_at, c1_op_n, c1_op_nodes, c1_op_slot, c1_op_old, c1_op_text⟩, c1_items⟩ =>
  req (0 ≤ c1_op_at ∧ c1_op_at ≤ IntKind.i64.wrap (c1_op_at + (c1_op_nodes.length : Int)) ∧ IntKind.i64.wrap (c1_op_at + (c1_op_nodes.length : Int)) ≤ (c1_items.length : Int)) <|
  (m_slices_EqualFunc_sNode n ((c1_items.take (IntKind.i64.wrap (c1_op_at + (c1_op_nodes.length : Int))).toNat).drop c1_op_at.toNat) c1_op_nodes).bind fun y4 =>
  bif (!y4) then (
    some ([], 7)
  ) else (
    (m_edit_change_join n ((c1_op_kind, c1_op_row, c1_op_at, c1_op_n, c1_op_nodes, c1_op_slot, c1_op_old, c1_op_text), c1_items) (c1_op_nodes.length : Int) []).bind fun y5 =>
    some (y5, 0)
  )
def m_edit_change_set (n : Nat) : ((Int × List Int × Int × Int × List Nd × Int × List UInt8 × List UInt8) × List Nd) → Option ((List Nd) × Int)
| ⟨⟨c1_op_kind, c1_op_row, c1_op_at, c1_op_n, c1_op_nodes, c1_op_slot, c1_op_old, c1_op_text⟩, c1_items⟩ =>
  (at? c1_items c1_op_at).bind fun ⟨e2_kind, e2_text, e2_cols, e2_kids⟩ =>
  (
    (
      bif (e2_kind == 2) then (
        some (e2_kind == 2)
      ) else (
        bif (e2_kind == 3) then (
          some (e2_kind == 3)
        ) else (
          bif (e2_kind == 4) then (
            some (e2_kind == 4)
          ) else (
            bif (e2_kind == 10) then (
              some (e2_kind == 10)
            ) else (
              some (e2_kind == 11)
            )
          )
        )
      )
     : Option (Bool)).bind fun x4 =>
    bif x4 then (
      some (.go ())
    ) else (
      some (.ret ([], 7))
    )
   : Option (Fl ((List Nd) × Int) Unit)).bind fun fl => match fl with
  | .ret r => some r
  | .go _ =>
    bif (!(e2_text == c1_op_old)) then (
      some ([], 7)
    ) else (
      (m_edit_change_join n ((c1_op_kind, c1_op_row, c1_op_at, c1_op_n, c1_op_nodes, c1_op_slot, c1_op_old, c1_op_text), c1_items) 1 [Nd.mk e2_kind c1_op_text e2_cols e2_kids]).bind fun y6 =>
      some (y6, 0)
    )
def m_edit_change_enough : ((Int × List Int × Int × Int × List Nd × Int × List UInt8 × List UInt8) × List Nd) → Option Int
| ⟨⟨c1_op_kind, c1_op_row, c1_op_at, c1_op_n, c1_op_nodes, c1_op_slot, c1_op_old, c1_op_text⟩, c1_items⟩ =>
  (
    bif (c1_op_kind == 1) then (
      some 0
    ) else (
      bif (c1_op_kind == 2) then (
        some (c1_op_nodes.length : Int)
      ) else (
        bif (c1_op_kind == 3) then (
          some c1_op_n
        ) else (
          some 1
        )
      )
    )
   : Option (Int)).bind fun need2 =>
  (
    bif decide (c1_op_at < 0) then (
      some true
    ) else (
      bif decide ((c1_items.length : Int) < c1_op_at) then (
        some true
      ) else (
        some (decide ((IntKind.i64.wrap ((c1_items.length : Int) - c1_op_at)) < need2))
      )
    )
   : Option (Bool)).bind fun x4 =>
  bif x4 then (
    some 2
  ) else (
    some 0
  )
def m_edit_container (n : Nat) : (List Nd) → Int → Option Bool
| l1, slot2 =>
  (
    bif ((l1.length : Int) != 1) then (
      some true
    ) else (
      (m_node_ValidItems n l1).bind fun y5 =>
      bif (!y5) then (
        some true
      ) else (
        bif decide (slot2 < 0) then (
          some true
        ) else (
          (at? l1 0).bind fun ⟨e6_kind, e6_text, e6_cols, e6_kids⟩ =>
          (m_node_Slots (Nd.mk e6_kind e6_text e6_cols e6_kids)).bind fun y8 =>
          some (decide (y8 ≤ slot2))
        )
      )
    )
   : Option (Bool)).bind fun x3 =>
  bif x3 then (
    some false
  ) else (
    (at? l1 0).bind fun ⟨e9_kind, e9_text, e9_cols, e9_kids⟩ =>
    (at? e9_kids slot2).bind fun ⟨e11_kind, e11_text, e11_cols, e11_kids⟩ =>
    some ((e11_kids.length : Int) == 0)
  )
def m_edit_Formed (n : Nat) : (Int × List Int × Int × Int × List Nd × Int × List UInt8 × List UInt8) → Option Bool
| ⟨a1_kind, a1_row, a1_at, a1_n, a1_nodes, a1_slot, a1_old, a1_text⟩ =>
  (
    bif (!(a1_old == [])) then (
      some true
    ) else (
      some (!(a1_text == []))
    )
   : Option (Bool)).bind fun x2 =>
  (
    (
      bif (a1_kind == 1) then (
        some (a1_kind == 1)
      ) else (
        some (a1_kind == 2)
      )
     : Option (Bool)).bind fun x3 =>
    bif x3 then (
      (
        bif (a1_n == 0) then (
          bif (a1_slot == 0) then (
            bif (!x2) then (
              bif decide (0 < (a1_nodes.length : Int)) then (
                (m_node_ValidItems n a1_nodes).bind fun y6 =>
                some y6
              ) else (
                some false
              )
            ) else (
              some false
            )
          ) else (
            some false
          )
        ) else (
          some false
        )
       : Option (Bool)).bind fun x4 =>
      some (.ret x4)
    ) else (
      (
        bif (a1_kind == 3) then (
          some (a1_kind == 3)
        ) else (
          some (a1_kind == 4)
        )
       : Option (Bool)).bind fun x7 =>
      bif x7 then (
        (
          bif decide (0 ≤ a1_n) then (
            bif (!x2) then (
              (m_edit_container n a1_nodes a1_slot).bind fun y9 =>
              some y9
            ) else (
              some false
            )
          ) else (
            some false
          )
         : Option (Bool)).bind fun x8 =>
        some (.ret x8)
      ) else (
        bif (a1_kind == 5) then (
          (
            bif (a1_n == 0) then (
              bif (a1_slot == 0) then (
                bif ((a1_nodes.length : Int) == 0) then (
                  some (!(a1_old == a1_text))
                ) else (
                  some false
                )
              ) else (
                some false
              )
            ) else (
              some false
            )
           : Option (Bool)).bind fun x10 =>
          some (.ret x10)
        ) else (
          some (.go ())
        )
      )
    )
   : Option (Fl Bool Unit)).bind fun fl => match fl with
  | .ret r => some r
  | .go _ =>
    some false
def m_deep_Ints : (List Int) → Option (List Int)
| l1 =>
  (m_slices_Clone_sint l1).bind fun y2 =>
  some y2
def m_deep_Nodes_l1 (l1 : List Nd) : Nat → Int → (List Nd) → Option ((List Nd))
| 0, _, _ => none
| k+1, x4, l5 =>
  bif decide (x4 < (l1.length : Int)) then (
    (at? l1 x4).bind fun ⟨e7_kind, e7_text, e7_cols, e7_kids⟩ =>
    (m_deep_Node (Nd.mk e7_kind e7_text e7_cols e7_kids)).bind fun ⟨y9_kind, y9_text, y9_cols, y9_kids⟩ =>
    req (l5.length + [Nd.mk y9_kind y9_text y9_cols y9_kids].length ≤ 4294967296) <|
    m_deep_Nodes_l1 l1 k (IntKind.i64.wrap (x4 + 1)) (l5 ++ [Nd.mk y9_kind y9_text y9_cols y9_kids])
  ) else (
    some l5
  )
def m_deep_Nodes (n : Nat) : (List Nd) → Option (List Nd)
| l1 =>
  (m_deep_Nodes_l1 l1 n 0 []).bind fun l6 =>
  some l6
def m_deep_Op (n : Nat) : (Int × List Int × Int × Int × List Nd × Int × List UInt8 × List UInt8) → Option (Int × List Int × Int × Int × List Nd × Int × List UInt8 × List UInt8)
| ⟨op1_kind, op1_row, op1_at, op1_n, op1_nodes, op1_slot, op1_old, op1_text⟩ =>
  (m_deep_Ints op1_row).bind fun y2 =>
  (m_deep_Nodes n op1_nodes).bind fun y3 =>
  some (op1_kind, y2, op1_at, op1_n, y3, op1_slot, op1_old, op1_text)
def m_edit_change_unwrap_none : ((Int × List Int × Int × Int × List Nd × Int × List UInt8 × List UInt8) × List Nd) → Option ((List Nd) × Int)
| ⟨⟨c1_op_kind, c1_op_row, c1_op_at, c1_op_n, c1_op_nodes, c1_op_slot, c1_op_old, c1_op_text⟩, c1_items⟩ =>
  (at? c1_items c1_op_at).bind fun ⟨e2_kind, e2_text, e2_cols, e2_kids⟩ =>
  (m_deep_Node (Nd.mk e2_kind e2_text e2_cols e2_kids)).bind fun ⟨y4_kind, y4_text, y4_cols, y4_kids⟩ =>
  (m_node_Slots (Nd.mk y4_kind y4_text y4_cols y4_kids)).bind fun y5 =>
  bif decide (y5 ≤ c1_op_slot) then (
    some ([], 7)
  ) else (
    none
  )
end Go.Proofs.Ytfbggpmdmhgpfaa
namespace Go.Proofs.Ytfbggpmdmhgpfaa
open Go.Abs
def m_edit_change_unwrap (n : Nat) (c : (Int × List Int × Int × Int × List Nd × Int × List UInt8 × List UInt8) × List Nd) : Option (List Nd × Int) :=
  match m_edit_change_unwrap_none c with
  | some r => some r
  | none => m_edit_change_unwrap_kids n c
end Go.Proofs.Ytfbggpmdmhgpfaa
namespace Go.Proofs.Ytfbggpmdmhgpfaa
open Go.Abs
def m_edit_change_apply (n : Nat) : ((Int × List Int × Int × Int × List Nd × Int × List UInt8 × List UInt8) × List Nd) → Option ((List Nd) × Int)
| ⟨⟨c1_op_kind, c1_op_row, c1_op_at, c1_op_n, c1_op_nodes, c1_op_slot, c1_op_old, c1_op_text⟩, c1_items⟩ =>
  (m_edit_change_enough ((c1_op_kind, c1_op_row, c1_op_at, c1_op_n, c1_op_nodes, c1_op_slot, c1_op_old, c1_op_text), c1_items)).bind fun y2 =>
  bif (y2 != 0) then (
    some ([], y2)
  ) else (
    bif (c1_op_kind == 1) then (
      (m_edit_change_insert n ((c1_op_kind, c1_op_row, c1_op_at, c1_op_n, c1_op_nodes, c1_op_slot, c1_op_old, c1_op_text), c1_items)).bind fun ⟨y3, y4⟩ =>
      some (y3, y4)
    ) else (
      bif (c1_op_kind == 2) then (
        (m_edit_change_remove n ((c1_op_kind, c1_op_row, c1_op_at, c1_op_n, c1_op_nodes, c1_op_slot, c1_op_old, c1_op_text), c1_items)).bind fun ⟨y5, y6⟩ =>
        some (y5, y6)
      ) else (
        bif (c1_op_kind == 3) then (
          (m_edit_change_wrap n ((c1_op_kind, c1_op_row, c1_op_at, c1_op_n, c1_op_nodes, c1_op_slot, c1_op_old, c1_op_text), c1_items)).bind fun ⟨y7, y8⟩ =>
          some (y7, y8)
        ) else (
          bif (c1_op_kind == 4) then (
            (m_edit_change_unwrap n ((c1_op_kind, c1_op_row, c1_op_at, c1_op_n, c1_op_nodes, c1_op_slot, c1_op_old, c1_op_text), c1_items)).bind fun ⟨y9, y10⟩ =>
            some (y9, y10)
          ) else (
            (m_edit_change_set n ((c1_op_kind, c1_op_row, c1_op_at, c1_op_n, c1_op_nodes, c1_op_slot, c1_op_old, c1_op_text), c1_items)).bind fun ⟨y11, y12⟩ =>
            some (y11, y12)
          )
        )
      )
    )
  )
def m_edit_Apply (n : Nat) : Nd → (Int × List Int × Int × Int × List Nd × Int × List UInt8 × List UInt8) → Option (Nd × Int)
| ⟨n1_kind, n1_text, n1_cols, n1_kids⟩, ⟨op2_kind, op2_row, op2_at, op2_n, op2_nodes, op2_slot, op2_old, op2_text⟩ =>
  (m_node_Valid n (Nd.mk n1_kind n1_text n1_cols n1_kids)).bind fun y3 =>
  bif (!y3) then (
    some (Nd.mk 0 [] 0 [], 1)
  ) else (
    (m_edit_Formed n (op2_kind, op2_row, op2_at, op2_n, op2_nodes, op2_slot, op2_old, op2_text)).bind fun y4 =>
    bif (!y4) then (
      some (Nd.mk 0 [] 0 [], 4)
    ) else (
      (m_node_Row n (Nd.mk n1_kind n1_text n1_cols n1_kids) op2_row).bind fun ⟨⟨y5_kind, y5_text, y5_cols, y5_kids⟩, y6⟩ =>
      bif (y6 != 0) then (
        some (Nd.mk 0 [] 0 [], y6)
      ) else (
        (m_edit_change_apply n ((op2_kind, op2_row, op2_at, op2_n, op2_nodes, op2_slot, op2_old, op2_text), y5_kids)).bind fun ⟨y7, y8⟩ =>
        bif (y8 != 0) then (
          some (Nd.mk 0 [] 0 [], y8)
        ) else (
          (m_node_With n (Nd.mk n1_kind n1_text n1_cols n1_kids) op2_row (Nd.mk y5_kind y5_text y5_cols y7)).bind fun ⟨⟨y9_kind, y9_text, y9_cols, y9_kids⟩, y10⟩ =>
          bif (y10 != 0) then (
            some (Nd.mk 0 [] 0 [], 6)
          ) else (
            some (Nd.mk y9_kind y9_text y9_cols y9_kids, 0)
          )
        )
      )
    )
  )
def m_edit_ApplyAll_l1 (n : Nat) (ops2 : List (Int × List Int × Int × Int × List Nd × Int × List UInt8 × List UInt8)) : Nat → Int → (List UInt8) → Int → (List Nd) → Int → Option (Fl (Nd × Int × Int) (Int × (List UInt8) × Int × (List Nd)))
| 0, _, _, _, _, _ => none
| k+1, x7, x8, x9, x10, x11 =>
  bif decide (x11 < (ops2.length : Int)) then (
    (at? ops2 x11).bind fun ⟨e16_kind, e16_row, e16_at, e16_n, e16_nodes, e16_slot, e16_old, e16_text⟩ =>
    (m_edit_Apply n (Nd.mk x7 x8 x9 x10) (e16_kind, e16_row, e16_at, e16_n, e16_nodes, e16_slot, e16_old, e16_text)).bind fun ⟨⟨y18_kind, y18_text, y18_cols, y18_kids⟩, y19⟩ =>
    bif (y19 != 0) then (
      some (.ret (Nd.mk 0 [] 0 [], x11, y19))
    ) else (
      m_edit_ApplyAll_l1 n ops2 k y18_kind y18_text y18_cols y18_kids (IntKind.i64.wrap (x11 + 1))
    )
  ) else (
    some (.go (x7, x8, x9, x10))
  )
def m_edit_ApplyAll (n : Nat) : Nd → (List (Int × List Int × Int × Int × List Nd × Int × List UInt8 × List UInt8)) → Option (Nd × Int × Int)
| ⟨n1_kind, n1_text, n1_cols, n1_kids⟩, ops2 =>
  (m_node_Valid n (Nd.mk n1_kind n1_text n1_cols n1_kids)).bind fun y3 =>
  bif (!y3) then (
    some (Nd.mk 0 [] 0 [], 0, 1)
  ) else (
    (m_deep_Node (Nd.mk n1_kind n1_text n1_cols n1_kids)).bind fun ⟨y4_kind, y4_text, y4_cols, y4_kids⟩ =>
    (m_edit_ApplyAll_l1 n ops2 n y4_kind y4_text y4_cols y4_kids 0).bind fun fl => match fl with
    | .ret r => some r
    | .go ⟨x12, x13, x14, x15⟩ =>
      some (Nd.mk x12 x13 x14 x15, 0, 0)
  )
def m_edit_Invert (n : Nat) : (Int × List Int × Int × Int × List Nd × Int × List UInt8 × List UInt8) → Option (Int × List Int × Int × Int × List Nd × Int × List UInt8 × List UInt8)
| ⟨op1_kind, op1_row, op1_at, op1_n, op1_nodes, op1_slot, op1_old, op1_text⟩ =>
  (m_deep_Op n (op1_kind, op1_row, op1_at, op1_n, op1_nodes, op1_slot, op1_old, op1_text)).bind fun ⟨y2_kind, y2_row, y2_at, y2_n, y2_nodes, y2_slot, y2_old, y2_text⟩ =>
  (
    bif (op1_kind == 1) then (
      some (2, y2_old, y2_text)
    ) else (
      bif (op1_kind == 2) then (
        some (1, y2_old, y2_text)
      ) else (
        bif (op1_kind == 3) then (
          some (4, y2_old, y2_text)
        ) else (
          bif (op1_kind == 4) then (
            some (3, y2_old, y2_text)
          ) else (
            bif (op1_kind == 5) then (
              some (y2_kind, op1_text, op1_old)
            ) else (
              some (y2_kind, y2_old, y2_text)
            )
          )
        )
      )
    )
   : Option (Int × (List UInt8) × (List UInt8))).bind fun ⟨x3, x4, x5⟩ =>
  some (x3, y2_row, y2_at, y2_n, y2_nodes, y2_slot, x4, x5)
def m_l12_awake_1 : (List Nd) → Option Nd
| l1 =>
  some (Nd.mk 1 [] 0 l1)
def m_l12_awake (n : Nat) : Option Bool
:=
  (m_l12_awake_1 []).bind fun ⟨y1_kind, y1_text, y1_cols, y1_kids⟩ =>
  (m_l12_awake_1 []).bind fun ⟨y2_kind, y2_text, y2_cols, y2_kids⟩ =>
  (m_l12_awake_1 [Nd.mk 2 [97] 0 [], Nd.mk 2 [98] 0 []]).bind fun ⟨y6_kind, y6_text, y6_cols, y6_kids⟩ =>
  (m_edit_Apply n (Nd.mk y6_kind y6_text y6_cols y6_kids) (3, [], 0, 2, [Nd.mk 5 [] 0 [Nd.mk y1_kind y1_text y1_cols y1_kids, Nd.mk y2_kind y2_text y2_cols y2_kids]], 0, [], [])).bind fun ⟨⟨y7_kind, y7_text, y7_cols, y7_kids⟩, y8⟩ =>
  (
    bif (y8 == 0) then (
      (m_l12_awake_1 [Nd.mk 2 [97] 0 [], Nd.mk 2 [98] 0 []]).bind fun ⟨y11_kind, y11_text, y11_cols, y11_kids⟩ =>
      (m_l12_awake_1 []).bind fun ⟨y12_kind, y12_text, y12_cols, y12_kids⟩ =>
      (m_l12_awake_1 [Nd.mk 5 [] 0 [Nd.mk y11_kind y11_text y11_cols y11_kids, Nd.mk y12_kind y12_text y12_cols y12_kids]]).bind fun ⟨y15_kind, y15_text, y15_cols, y15_kids⟩ =>
      (m_r09_Equal n (Nd.mk y7_kind y7_text y7_cols y7_kids) (Nd.mk y15_kind y15_text y15_cols y15_kids)).bind fun y16 =>
      some y16
    ) else (
      some false
    )
   : Option (Bool)).bind fun x9 =>
  some x9
def m_l12_few_l1 (n : Nat) (ops2 : List (Int × List Int × Int × Int × List Nd × Int × List UInt8 × List UInt8)) : Nat → Int → Option (Fl Bool Unit)
| 0, _ => none
| k+1, x4 =>
  bif decide (x4 < (ops2.length : Int)) then (
    (at? ops2 x4).bind fun ⟨e5_kind, e5_row, e5_at, e5_n, e5_nodes, e5_slot, e5_old, e5_text⟩ =>
    (m_r12_Few n (e5_kind, e5_row, e5_at, e5_n, e5_nodes, e5_slot, e5_old, e5_text)).bind fun y7 =>
    bif (!y7) then (
      some (.ret false)
    ) else (
      m_l12_few_l1 n ops2 k (IntKind.i64.wrap (x4 + 1))
    )
  ) else (
    some (.go ())
  )
def m_l12_few (n : Nat) : Nd → (List (Int × List Int × Int × Int × List Nd × Int × List UInt8 × List UInt8)) → Option Bool
| ⟨n1_kind, n1_text, n1_cols, n1_kids⟩, ops2 =>
  (m_l12_few_l1 n ops2 n 0).bind fun fl => match fl with
  | .ret r => some r
  | .go _ =>
    (
      (m_r09_Few n (Nd.mk n1_kind n1_text n1_cols n1_kids) 300).bind fun y9 =>
      bif y9 then (
        some (decide ((ops2.length : Int) ≤ 12))
      ) else (
        some false
      )
     : Option (Bool)).bind fun x8 =>
    some x8
end Go.Proofs.Ytfbggpmdmhgpfaa
namespace Go.Proofs.Ytfbggpmdmhgpfaa
open Go.Abs
def R_node_empty (xs : List AV) (r : Ret) : Prop := ∃ (a0 : List UInt8) (y0 : Bool), m_node_empty a0 = some y0 ∧ xs = [.s (.str a0)] ∧ r = .val (.s (.bool y0))
def S_node_empty : PSpec := pspec fun xs r => R_node_empty xs r
set_option maxHeartbeats 2000000 in
set_option maxRecDepth 100000 in
theorem ok_node_empty : PSound Try.prog 74 S_node_empty := by
  have gok : ∀ (f : Nat) (s : PSpec), (fun _ => none : Nat → Option PSpec) f = some s → PSound Try.prog f s := fun _ _ h => by cases h
  refine psound tokW Try.call74 Try.func74 rfl (fun xs r h => by obtain ⟨_, _, _, rfl, _⟩ := h; show 1 ≤ 5; decide) 5 rfl ?_
  rintro xs r w0 G0 ⟨s1, y0, h, rfl, rfl⟩ _
  rw [m_node_empty] at h
  refine tri_seq ?_
  refine tri_region (by exact tokW) (by exact gok) [] [] rfl ?_
  show Tri _ _ _ _
  refine tri_seq ?_
  refine tri_region (by exact tokW) (by exact gok) [] [] rfl ?_
  show Tri _ _ _ _
  refine tri_ret ?_
  have hy := Option.some.inj h
  subst hy
  unfold Gives
  exact ⟨_, Le.refl _ _, rfl, rfl⟩
def R_node_letters (n : Nat) (xs : List AV) (r : Ret) : Prop := ∃ (a0 : List UInt8) (y0 : Bool), m_node_letters n a0 = some y0 ∧ xs = [.s (.str a0)] ∧ r = .val (.s (.bool y0))
def S_node_letters : PSpec := pspec fun xs r => ∃ n, R_node_letters n xs r
set_option maxHeartbeats 2000000 in
set_option maxRecDepth 100000 in
theorem ok_node_letters : PSound Try.prog 92 S_node_letters := by
  have gok : ∀ (f : Nat) (s : PSpec), (fun _ => none : Nat → Option PSpec) f = some s → PSound Try.prog f s := fun _ _ h => by cases h
  refine psound tokW Try.call92 Try.func92 rfl (fun xs r h => by obtain ⟨n, _, _, _, rfl, _⟩ := h; show 1 ≤ 21; decide) 21 rfl ?_
  rintro xs r w0 G0 ⟨n, s1, y0, h, rfl, rfl⟩ _
  rw [m_node_letters] at h
  refine tri_seq ?_
  refine tri_region (by exact tokW) (by exact gok) [] [] rfl ?_
  show Tri _ _ _ _
  refine tri_seq ?_
  refine tri_seq ?_
  refine tri_region (by exact tokW) (by exact gok) [] [] rfl ?_
  show Tri _ _ _ _
  obtain ⟨fl, hl, ho1⟩ := bind_out h
  refine tri_fl (fl := fl) (fun z => match z with | _ => ⟨ofL [], fun _ => none, 0⟩) ?_ (fun z σ' hz hle => ?_)
  · refine tri_block (tri_loopI (X := Nat × Int) (fun y => match y with | (k, i2) => ⟨ofL [(0, .s (.str s1)), (3, .s (.int .i64 i2))], fun _ => none, 0⟩) (fun y => m_node_letters_l1 s1 y.1 y.2 = some fl) (fun y => y.1) (n, 0) hl ?_ ?_)
    · exact (Le.forget _ ⟨rfl, rfl, trivial⟩)
    · rintro ⟨k, i2⟩ h
      cases k with
      | zero => cases h
      | succ k =>
        replace h : m_node_letters_l1 s1 (k+1) i2 = some fl := h
        rw [m_node_letters_l1] at h
        refine tri_seq ?_
        refine tri_seq ?_
        refine tri_region (by exact tokW) (by exact gok) [] [] rfl ?_
        show Tri _ _ _ _
        refine tri_cond rfl (fun hb => ?_) (fun hb => ?_)
        · replace h := bif_t hb h
          refine tri_skip ?_
          show Tri _ _ _ _
          refine tri_seq ?_
          refine tri_block ?_
          refine tri_seq ?_
          refine tri_region (by exact tokW) (by exact gok) [] [13] rfl ?_
          obtain ⟨c3, hc3, h⟩ := bind_out h
          refine And.intro (str_ok hc3).1 ?_
          intro v4 hv4
          obtain rfl : (c3.toNat : Int) = v4 := (hv4.trans (str_ok hc3).2).symm
          show Tri _ _ _ _
          refine tri_seq ?_
          obtain ⟨x5, hj, h⟩ := bind_out h
          refine tri_post ⟨ofL [(0, .s (.str s1)), (3, .s (.int .i64 i2)), (20, .s (.bool x5))], fun _ => none, 0⟩ ?_ (fun σ' hle => ?_)
          · replace h := hj
            refine tri_region (by exact tokW) (by exact gok) [] [17] rfl ?_
            intro b hb
            cases b with
            | true =>
              replace h := bif_t hb.symm h
              cases h
              exact (Le.forget _ ⟨rfl, rfl, rfl, trivial⟩)
            | false =>
              replace h := bif_f hb.symm h
              cases h
              exact (Le.forget _ ⟨rfl, rfl, rfl, trivial⟩)
          · show Tri _ _ _ _
            refine tri_le hle ?_
            refine tri_cond rfl (fun hb => ?_) (fun hb => ?_)
            · replace h := bif_t hb h
              refine tri_seq ?_
              refine tri_region (by exact tokW) (by exact gok) [] [] rfl ?_
              show Tri _ _ _ _
              refine tri_ret ?_
              cases h
              replace h : some _ = some _ := ho1
              have hy := Option.some.inj h
              subst hy
              unfold Gives
              exact ⟨_, Le.refl _ _, rfl, rfl⟩
            · replace h := bif_f hb h
              refine tri_skip ?_
              show Tri _ _ _ _
              refine tri_region (by exact tokW) (by exact gok) [] [] rfl ?_
              refine ⟨(k, IntKind.i64.wrap (i2 + 1)), h, (Le.forget _ ⟨rfl, rfl, trivial⟩), Nat.lt_succ_self k⟩
        · replace h := bif_f hb h
          refine tri_exit ?_
          cases h
          exact ⟨_, rfl, (Le.forget _ trivial)⟩
  · subst hz
    obtain _ := z
    replace h := ho1
    show Tri _ _ _ _
    refine tri_le hle ?_
    refine tri_seq ?_
    refine tri_region (by exact tokW) (by exact gok) [] [] rfl ?_
    show Tri _ _ _ _
    refine tri_ret ?_
    have hy := Option.some.inj h
    subst hy
    unfold Gives
    exact ⟨_, Le.refl _ _, rfl, rfl⟩
def R_node_keyword (xs : List AV) (r : Ret) : Prop := ∃ (a0 : List UInt8) (y0 : Bool), m_node_keyword a0 = some y0 ∧ xs = [.s (.str a0)] ∧ r = .val (.s (.bool y0))
def S_node_keyword : PSpec := pspec fun xs r => R_node_keyword xs r
set_option maxHeartbeats 2000000 in
set_option maxRecDepth 100000 in
theorem ok_node_keyword : PSound Try.prog 94 S_node_keyword := by
  have gok : ∀ (f : Nat) (s : PSpec), (fun _ => none : Nat → Option PSpec) f = some s → PSound Try.prog f s := fun _ _ h => by cases h
  refine psound tokW Try.call94 Try.func94 rfl (fun xs r h => by obtain ⟨_, _, _, rfl, _⟩ := h; show 1 ≤ 9; decide) 9 rfl ?_
  rintro xs r w0 G0 ⟨s1, y0, h, rfl, rfl⟩ _
  rw [m_node_keyword] at h
  refine tri_seq ?_
  refine tri_region (by exact tokW) (by exact gok) [] [] rfl ?_
  show Tri _ _ _ _
  refine tri_seq ?_
  refine tri_seq ?_
  refine tri_region (by exact tokW) (by exact gok) [] [] rfl ?_
  show Tri _ _ _ _
  obtain ⟨fl, hj, ho1⟩ := bind_out h
  refine tri_fl (fl := fl) (fun z => match z with | _ => ⟨ofL [], fun _ => none, 0⟩) ?_ (fun z σ' hz hle => ?_)
  · replace h := hj
    refine tri_block ?_
    refine tri_seq ?_
    refine tri_seq ?_
    refine tri_region (by exact tokW) (by exact gok) [] [] rfl ?_
    show Tri _ _ _ _
    obtain ⟨x2, hj, h⟩ := bind_out h
    refine tri_post ⟨ofL [(4, .s (.bool x2))], fun _ => none, 0⟩ ?_ (fun σ' hle => ?_)
    · replace h := hj
      refine tri_cond rfl (fun hb => ?_) (fun hb => ?_)
      · replace h := bif_t hb h
        refine tri_skip ?_
        cases h
        exact (Le.forget _ ⟨rfl, trivial⟩)
      · replace h := bif_f hb h
        refine tri_seq ?_
        refine tri_region (by exact tokW) (by exact gok) [] [] rfl ?_
        show Tri _ _ _ _
        refine tri_cond rfl (fun hb => ?_) (fun hb => ?_)
        · replace h := bif_t hb h
          refine tri_skip ?_
          cases h
          exact (Le.forget _ ⟨rfl, trivial⟩)
        · replace h := bif_f hb h
          refine tri_seq ?_
          refine tri_region (by exact tokW) (by exact gok) [] [] rfl ?_
          show Tri _ _ _ _
          refine tri_cond rfl (fun hb => ?_) (fun hb => ?_)
          · replace h := bif_t hb h
            refine tri_skip ?_
            cases h
            exact (Le.forget _ ⟨rfl, trivial⟩)
          · replace h := bif_f hb h
            refine tri_region (by exact tokW) (by exact gok) [] [] rfl ?_
            cases h
            exact (Le.forget _ ⟨rfl, trivial⟩)
    · show Tri _ _ _ _
      refine tri_le hle ?_
      refine tri_cond rfl (fun hb => ?_) (fun hb => ?_)
      · replace h := bif_t hb h
        refine tri_seq ?_
        refine tri_region (by exact tokW) (by exact gok) [] [] rfl ?_
        show Tri _ _ _ _
        refine tri_ret ?_
        cases h
        replace h : some _ = some _ := ho1
        have hy := Option.some.inj h
        subst hy
        unfold Gives
        exact ⟨_, Le.refl _ _, rfl, rfl⟩
      · replace h := bif_f hb h
        refine tri_skip ?_
        cases h
        exact ⟨_, rfl, (Le.forget _ trivial)⟩
  · subst hz
    obtain _ := z
    replace h := ho1
    show Tri _ _ _ _
    refine tri_le hle ?_
    refine tri_seq ?_
    refine tri_region (by exact tokW) (by exact gok) [] [] rfl ?_
    show Tri _ _ _ _
    refine tri_ret ?_
    have hy := Option.some.inj h
    subst hy
    unfold Gives
    exact ⟨_, Le.refl _ _, rfl, rfl⟩
def R_node_accent (xs : List AV) (r : Ret) : Prop := ∃ (a0 : List UInt8) (y0 : Bool), m_node_accent a0 = some y0 ∧ xs = [.s (.str a0)] ∧ r = .val (.s (.bool y0))
def S_node_accent : PSpec := pspec fun xs r => R_node_accent xs r
set_option maxHeartbeats 2000000 in
set_option maxRecDepth 100000 in
theorem ok_node_accent : PSound Try.prog 78 S_node_accent := by
  have gok : ∀ (f : Nat) (s : PSpec), (fun _ => none : Nat → Option PSpec) f = some s → PSound Try.prog f s := fun _ _ h => by cases h
  refine psound tokW Try.call78 Try.func78 rfl (fun xs r h => by obtain ⟨_, _, _, rfl, _⟩ := h; show 1 ≤ 11; decide) 11 rfl ?_
  rintro xs r w0 G0 ⟨s1, y0, h, rfl, rfl⟩ _
  rw [m_node_accent] at h
  refine tri_seq ?_
  refine tri_region (by exact tokW) (by exact gok) [] [] rfl ?_
  show Tri _ _ _ _
  refine tri_seq ?_
  refine tri_seq ?_
  refine tri_region (by exact tokW) (by exact gok) [] [] rfl ?_
  show Tri _ _ _ _
  obtain ⟨fl, hj, ho1⟩ := bind_out h
  refine tri_fl (fl := fl) (fun z => match z with | _ => ⟨ofL [], fun _ => none, 0⟩) ?_ (fun z σ' hz hle => ?_)
  · replace h := hj
    refine tri_block ?_
    refine tri_seq ?_
    refine tri_seq ?_
    refine tri_region (by exact tokW) (by exact gok) [] [] rfl ?_
    show Tri _ _ _ _
    obtain ⟨x2, hj, h⟩ := bind_out h
    refine tri_post ⟨ofL [(4, .s (.bool x2))], fun _ => none, 0⟩ ?_ (fun σ' hle => ?_)
    · replace h := hj
      refine tri_cond rfl (fun hb => ?_) (fun hb => ?_)
      · replace h := bif_t hb h
        refine tri_skip ?_
        cases h
        exact (Le.forget _ ⟨rfl, trivial⟩)
      · replace h := bif_f hb h
        refine tri_seq ?_
        refine tri_region (by exact tokW) (by exact gok) [] [] rfl ?_
        show Tri _ _ _ _
        refine tri_cond rfl (fun hb => ?_) (fun hb => ?_)
        · replace h := bif_t hb h
          refine tri_skip ?_
          cases h
          exact (Le.forget _ ⟨rfl, trivial⟩)
        · replace h := bif_f hb h
          refine tri_seq ?_
          refine tri_region (by exact tokW) (by exact gok) [] [] rfl ?_
          show Tri _ _ _ _
          refine tri_cond rfl (fun hb => ?_) (fun hb => ?_)
          · replace h := bif_t hb h
            refine tri_skip ?_
            cases h
            exact (Le.forget _ ⟨rfl, trivial⟩)
          · replace h := bif_f hb h
            refine tri_seq ?_
            refine tri_region (by exact tokW) (by exact gok) [] [] rfl ?_
            show Tri _ _ _ _
            refine tri_cond rfl (fun hb => ?_) (fun hb => ?_)
            · replace h := bif_t hb h
              refine tri_skip ?_
              cases h
              exact (Le.forget _ ⟨rfl, trivial⟩)
            · replace h := bif_f hb h
              refine tri_seq ?_
              refine tri_region (by exact tokW) (by exact gok) [] [] rfl ?_
              show Tri _ _ _ _
              refine tri_cond rfl (fun hb => ?_) (fun hb => ?_)
              · replace h := bif_t hb h
                refine tri_skip ?_
                cases h
                exact (Le.forget _ ⟨rfl, trivial⟩)
              · replace h := bif_f hb h
                refine tri_region (by exact tokW) (by exact gok) [] [] rfl ?_
                cases h
                exact (Le.forget _ ⟨rfl, trivial⟩)
    · show Tri _ _ _ _
      refine tri_le hle ?_
      refine tri_cond rfl (fun hb => ?_) (fun hb => ?_)
      · replace h := bif_t hb h
        refine tri_seq ?_
        refine tri_region (by exact tokW) (by exact gok) [] [] rfl ?_
        show Tri _ _ _ _
        refine tri_ret ?_
        cases h
        replace h : some _ = some _ := ho1
        have hy := Option.some.inj h
        subst hy
        unfold Gives
        exact ⟨_, Le.refl _ _, rfl, rfl⟩
      · replace h := bif_f hb h
        refine tri_skip ?_
        cases h
        exact ⟨_, rfl, (Le.forget _ trivial)⟩
  · subst hz
    obtain _ := z
    replace h := ho1
    show Tri _ _ _ _
    refine tri_le hle ?_
    refine tri_seq ?_
    refine tri_region (by exact tokW) (by exact gok) [] [] rfl ?_
    show Tri _ _ _ _
    refine tri_ret ?_
    have hy := Option.some.inj h
    subst hy
    unfold Gives
    exact ⟨_, Le.refl _ _, rfl, rfl⟩
def R_node_Symbol (n : Nat) (xs : List AV) (r : Ret) : Prop := ∃ (a0 : List UInt8) (y0 : Bool), m_node_Symbol n a0 = some y0 ∧ xs = [.s (.str a0)] ∧ r = .val (.s (.bool y0))
def S_node_Symbol : PSpec := pspec fun xs r => ∃ n, R_node_Symbol n xs r
set_option maxHeartbeats 2000000 in
set_option maxRecDepth 100000 in
theorem ok_node_Symbol : PSound Try.prog 75 S_node_Symbol := by
  have gok : ∀ f s, look? f [(92, S_node_letters), (93, S_strings_Contains), (94, S_node_keyword), (78, S_node_accent)] = some s → PSound Try.prog f s := look_all (by
    simp only [List.forall_mem_cons]
    exact ⟨ok_node_letters, ok_strings_Contains, ok_node_keyword, ok_node_accent, by simp⟩)
  refine psound tokW Try.call75 Try.func75 rfl (fun xs r h => by obtain ⟨n, _, _, _, rfl, _⟩ := h; show 1 ≤ 34; decide) 34 rfl ?_
  rintro xs r w0 G0 ⟨n, s1, y0, h, rfl, rfl⟩ _
  rw [m_node_Symbol] at h
  refine tri_seq ?_
  refine tri_region (by exact tokW) (by exact gok) [] [] rfl ?_
  show Tri _ _ _ _
  refine tri_seq ?_
  refine tri_seq ?_
  refine tri_region (by exact tokW) (by exact gok) [] [] rfl ?_
  show Tri _ _ _ _
  refine tri_cond rfl (fun hb => ?_) (fun hb => ?_)
  · replace h := bif_t hb h
    refine tri_seq ?_
    obtain ⟨x2, hj, h⟩ := bind_out h
    refine tri_post ⟨ofL [(2, .s (.bool x2))], fun _ => none, 0⟩ ?_ (fun σ' hle => ?_)
    · replace h := hj
      refine tri_region (by exact tokW) (by exact gok) [] [8] rfl ?_
      obtain ⟨y3, hy3, h⟩ := bind_out h
      refine ⟨_, ⟨_, _, _, hy3, rfl, rfl⟩, ?_⟩
      intro b hb
      cases b with
      | true =>
        replace h := bif_t hb.symm h
        cases h
        exact (Le.forget _ ⟨rfl, trivial⟩)
      | false =>
        replace h := bif_f hb.symm h
        obtain ⟨y4, hy4, h⟩ := bind_out h
        refine ⟨_, ⟨_, _, _, hy4, rfl, rfl⟩, ?_⟩
        cases h
        exact (Le.forget _ ⟨rfl, trivial⟩)
    · show Tri _ _ _ _
      refine tri_le hle ?_
      refine tri_ret ?_
      have hy := Option.some.inj h
      subst hy
      unfold Gives
      exact ⟨_, Le.refl _ _, rfl, rfl⟩
  · replace h := bif_f hb h
    refine tri_skip ?_
    show Tri _ _ _ _
    refine tri_seq ?_
    obtain ⟨x5, hj, h⟩ := bind_out h
    refine tri_post ⟨ofL [(2, .s (.bool x5))], fun _ => none, 0⟩ ?_ (fun σ' hle => ?_)
    · replace h := hj
      refine tri_region (by exact tokW) (by exact gok) [] [15, 20, 24, 29] rfl ?_
      intro b hb
      cases b with
      | true =>
        replace h := bif_t hb.symm h
        intro b hb
        cases b with
        | true =>
          replace h := bif_t hb.symm h
          obtain ⟨y6, hy6, h⟩ := bind_out h
          refine ⟨_, ⟨_, _, _, hy6, rfl, rfl⟩, ?_⟩
          intro b hb
          cases b with
          | true =>
            replace h := bif_t hb.symm h
            obtain ⟨y7, hy7, h⟩ := bind_out h
            refine ⟨_, ⟨_, _, hy7, rfl, rfl⟩, ?_⟩
            intro b hb
            cases b with
            | true =>
              replace h := bif_t hb.symm h
              obtain ⟨y8, hy8, h⟩ := bind_out h
              refine ⟨_, ⟨_, _, hy8, rfl, rfl⟩, ?_⟩
              cases h
              exact (Le.forget _ ⟨rfl, trivial⟩)
            | false =>
              replace h := bif_f hb.symm h
              cases h
              exact (Le.forget _ ⟨rfl, trivial⟩)
          | false =>
            replace h := bif_f hb.symm h
            intro b hb
            subst hb
            cases h
            exact (Le.forget _ ⟨rfl, trivial⟩)
        | false =>
          replace h := bif_f hb.symm h
          intro b hb
          subst hb
          intro b hb
          subst hb
          cases h
          exact (Le.forget _ ⟨rfl, trivial⟩)
      | false =>
        replace h := bif_f hb.symm h
        intro b hb
        subst hb
        intro b hb
        subst hb
        intro b hb
        subst hb
        cases h
        exact (Le.forget _ ⟨rfl, trivial⟩)
    · show Tri _ _ _ _
      refine tri_le hle ?_
      refine tri_ret ?_
      have hy := Option.some.inj h
      subst hy
      unfold Gives
      exact ⟨_, Le.refl _ _, rfl, rfl⟩
def R_stringslite_Cut (xs : List AV) (r : Ret) : Prop := ∃ (a0 : List UInt8) (a1 : List UInt8) (y0 : List UInt8) (y1 : List UInt8) (y2 : Bool), m_stringslite_Cut a0 a1 = some (y0, y1, y2) ∧ xs = [.s (.str a0), .s (.str a1)] ∧ r = .val (.tup [.s (.str y0), .s (.str y1), .s (.bool y2)])
def S_stringslite_Cut : PSpec := pspec fun xs r => R_stringslite_Cut xs r
set_option maxHeartbeats 2000000 in
set_option maxRecDepth 100000 in
theorem ok_stringslite_Cut : PSound Try.prog 104 S_stringslite_Cut := by
  have gok : ∀ f s, look? f [(107, S_stringslite_Index)] = some s → PSound Try.prog f s := look_all (by
    simp only [List.forall_mem_cons]
    exact ⟨ok_stringslite_Index, by simp⟩)
  refine psound tokW Try.call104 Try.func104 rfl (fun xs r h => by obtain ⟨_, _, _, _, _, _, rfl, _⟩ := h; show 2 ≤ 23; decide) 23 rfl ?_
  rintro xs r w0 G0 ⟨s1, sep2, y0, y1, y2, h, rfl, rfl⟩ _
  rw [m_stringslite_Cut] at h
  refine tri_seq ?_
  refine tri_region (by exact tokW) (by exact gok) [] [] rfl ?_
  show Tri _ _ _ _
  refine tri_seq ?_
  refine tri_seq ?_
  refine tri_region (by exact tokW) (by exact gok) [] [] rfl ?_
  obtain ⟨y3, hy3, h⟩ := bind_out h
  refine ⟨_, ⟨_, _, _, hy3, rfl, rfl⟩, ?_⟩
  show Tri _ _ _ _
  refine tri_seq ?_
  refine tri_region (by exact tokW) (by exact gok) [] [] rfl ?_
  show Tri _ _ _ _
  refine tri_cond rfl (fun hb => ?_) (fun hb => ?_)
  · replace h := bif_t hb h
    refine tri_seq ?_
    refine tri_drawn (by exact tokW) (by exact gok) (by exact mixed) [] [] [] rfl (by decide +kernel) ?_
    obtain ⟨hq, h⟩ := req_out h
    refine And.intro hq ?_
    obtain ⟨hq, h⟩ := req_out h
    refine And.intro hq ?_
    show Tri _ _ _ _
    refine tri_ret ?_
    obtain ⟨hj1, hk1⟩ := Prod.mk.inj (Option.some.inj h)
    subst hj1
    obtain ⟨hj2, hk2⟩ := Prod.mk.inj hk1
    subst hj2
    subst hk2
    unfold Gives
    exact ⟨_, Le.refl _ _, rfl, rfl⟩
  · replace h := bif_f hb h
    refine tri_skip ?_
    show Tri _ _ _ _
    refine tri_seq ?_
    refine tri_region (by exact tokW) (by exact gok) [] [] rfl ?_
    show Tri _ _ _ _
    refine tri_ret ?_
    obtain ⟨hj1, hk1⟩ := Prod.mk.inj (Option.some.inj h)
    subst hj1
    obtain ⟨hj2, hk2⟩ := Prod.mk.inj hk1
    subst hj2
    subst hk2
    unfold Gives
    exact ⟨_, Le.refl _ _, rfl, rfl⟩
def R_strings_Cut (xs : List AV) (r : Ret) : Prop := ∃ (a0 : List UInt8) (a1 : List UInt8) (y0 : List UInt8) (y1 : List UInt8) (y2 : Bool), m_strings_Cut a0 a1 = some (y0, y1, y2) ∧ xs = [.s (.str a0), .s (.str a1)] ∧ r = .val (.tup [.s (.str y0), .s (.str y1), .s (.bool y2)])
def S_strings_Cut : PSpec := pspec fun xs r => R_strings_Cut xs r
set_option maxHeartbeats 2000000 in
set_option maxRecDepth 100000 in
theorem ok_strings_Cut : PSound Try.prog 95 S_strings_Cut := by
  have gok : ∀ f s, look? f [(104, S_stringslite_Cut)] = some s → PSound Try.prog f s := look_all (by
    simp only [List.forall_mem_cons]
    exact ⟨ok_stringslite_Cut, by simp⟩)
  refine psound tokW Try.call95 Try.func95 rfl (fun xs r h => by obtain ⟨_, _, _, _, _, _, rfl, _⟩ := h; show 2 ≤ 13; decide) 13 rfl ?_
  rintro xs r w0 G0 ⟨s1, sep2, y0, y1, y2, h, rfl, rfl⟩ _
  rw [m_strings_Cut] at h
  refine tri_seq ?_
  refine tri_region (by exact tokW) (by exact gok) [] [] rfl ?_
  show Tri _ _ _ _
  refine tri_seq ?_
  refine tri_region (by exact tokW) (by exact gok) [] [] rfl ?_
  obtain ⟨⟨y3, y4, y5⟩, hy3, h⟩ := bind_out h
  refine ⟨_, ⟨_, _, _, _, _, hy3, rfl, rfl⟩, ?_⟩
  show Tri _ _ _ _
  refine tri_ret ?_
  obtain ⟨hj1, hk1⟩ := Prod.mk.inj (Option.some.inj h)
  subst hj1
  obtain ⟨hj2, hk2⟩ := Prod.mk.inj hk1
  subst hj2
  subst hk2
  unfold Gives
  exact ⟨_, Le.refl _ _, rfl, rfl⟩
def R_node_digits (n : Nat) (xs : List AV) (r : Ret) : Prop := ∃ (a0 : List UInt8) (y0 : Bool), m_node_digits n a0 = some y0 ∧ xs = [.s (.str a0)] ∧ r = .val (.s (.bool y0))
def S_node_digits : PSpec := pspec fun xs r => ∃ n, R_node_digits n xs r
set_option maxHeartbeats 2000000 in
set_option maxRecDepth 100000 in
theorem ok_node_digits : PSound Try.prog 96 S_node_digits := by
  have gok : ∀ (f : Nat) (s : PSpec), (fun _ => none : Nat → Option PSpec) f = some s → PSound Try.prog f s := fun _ _ h => by cases h
  refine psound tokW Try.call96 Try.func96 rfl (fun xs r h => by obtain ⟨n, _, _, _, rfl, _⟩ := h; show 1 ≤ 22; decide) 22 rfl ?_
  rintro xs r w0 G0 ⟨n, s1, y0, h, rfl, rfl⟩ _
  rw [m_node_digits] at h
  refine tri_seq ?_
  refine tri_region (by exact tokW) (by exact gok) [] [] rfl ?_
  show Tri _ _ _ _
  refine tri_seq ?_
  refine tri_seq ?_
  refine tri_region (by exact tokW) (by exact gok) [] [] rfl ?_
  show Tri _ _ _ _
  obtain ⟨fl, hl, ho1⟩ := bind_out h
  refine tri_fl (fl := fl) (fun z => match z with | _ => ⟨ofL [(0, .s (.str s1))], fun _ => none, 0⟩) ?_ (fun z σ' hz hle => ?_)
  · refine tri_block (tri_loopI (X := Nat × Int) (fun y => match y with | (k, i2) => ⟨ofL [(0, .s (.str s1)), (3, .s (.int .i64 i2))], fun _ => none, 0⟩) (fun y => m_node_digits_l1 s1 y.1 y.2 = some fl) (fun y => y.1) (n, 0) hl ?_ ?_)
    · exact (Le.forget _ ⟨rfl, rfl, trivial⟩)
    · rintro ⟨k, i2⟩ h
      cases k with
      | zero => cases h
      | succ k =>
        replace h : m_node_digits_l1 s1 (k+1) i2 = some fl := h
        rw [m_node_digits_l1] at h
        refine tri_seq ?_
        refine tri_seq ?_
        refine tri_region (by exact tokW) (by exact gok) [] [] rfl ?_
        show Tri _ _ _ _
        refine tri_cond rfl (fun hb => ?_) (fun hb => ?_)
        · replace h := bif_t hb h
          refine tri_skip ?_
          show Tri _ _ _ _
          refine tri_seq ?_
          refine tri_block ?_
          refine tri_seq ?_
          obtain ⟨x3, hj, h⟩ := bind_out h
          refine tri_post ⟨ofL [(0, .s (.str s1)), (3, .s (.int .i64 i2)), (19, .s (.bool x3))], fun _ => none, 0⟩ ?_ (fun σ' hle => ?_)
          · replace h := hj
            refine tri_region (by exact tokW) (by exact gok) [] [12, 14, 17] rfl ?_
            obtain ⟨c4, hc4, h⟩ := bind_out h
            refine And.intro (str_ok hc4).1 ?_
            intro v5 hv5
            obtain rfl : (c4.toNat : Int) = v5 := (hv5.trans (str_ok hc4).2).symm
            intro b hb
            cases b with
            | true =>
              replace h := bif_t hb.symm h
              cases h
              exact (Le.forget _ ⟨rfl, rfl, rfl, trivial⟩)
            | false =>
              replace h := bif_f hb.symm h
              obtain ⟨c6, hc6, h⟩ := bind_out h
              refine And.intro (str_ok hc6).1 ?_
              intro v7 hv7
              obtain rfl : (c6.toNat : Int) = v7 := (hv7.trans (str_ok hc6).2).symm
              cases h
              exact (Le.forget _ ⟨rfl, rfl, rfl, trivial⟩)
          · show Tri _ _ _ _
            refine tri_le hle ?_
            refine tri_cond rfl (fun hb => ?_) (fun hb => ?_)
            · replace h := bif_t hb h
              refine tri_seq ?_
              refine tri_region (by exact tokW) (by exact gok) [] [] rfl ?_
              show Tri _ _ _ _
              refine tri_ret ?_
              cases h
              replace h : some _ = some _ := ho1
              have hy := Option.some.inj h
              subst hy
              unfold Gives
              exact ⟨_, Le.refl _ _, rfl, rfl⟩
            · replace h := bif_f hb h
              refine tri_skip ?_
              show Tri _ _ _ _
              refine tri_region (by exact tokW) (by exact gok) [] [] rfl ?_
              refine ⟨(k, IntKind.i64.wrap (i2 + 1)), h, (Le.forget _ ⟨rfl, rfl, trivial⟩), Nat.lt_succ_self k⟩
        · replace h := bif_f hb h
          refine tri_exit ?_
          cases h
          exact ⟨_, rfl, (Le.forget _ ⟨rfl, trivial⟩)⟩
  · subst hz
    obtain _ := z
    replace h := ho1
    show Tri _ _ _ _
    refine tri_le hle ?_
    refine tri_seq ?_
    refine tri_region (by exact tokW) (by exact gok) [] [] rfl ?_
    show Tri _ _ _ _
    refine tri_ret ?_
    have hy := Option.some.inj h
    subst hy
    unfold Gives
    exact ⟨_, Le.refl _ _, rfl, rfl⟩
def R_node_Number (n : Nat) (xs : List AV) (r : Ret) : Prop := ∃ (a0 : List UInt8) (y0 : Bool), m_node_Number n a0 = some y0 ∧ xs = [.s (.str a0)] ∧ r = .val (.s (.bool y0))
def S_node_Number : PSpec := pspec fun xs r => ∃ n, R_node_Number n xs r
set_option maxHeartbeats 2000000 in
set_option maxRecDepth 100000 in
theorem ok_node_Number : PSound Try.prog 76 S_node_Number := by
  have gok : ∀ f s, look? f [(95, S_strings_Cut), (96, S_node_digits)] = some s → PSound Try.prog f s := look_all (by
    simp only [List.forall_mem_cons]
    exact ⟨ok_strings_Cut, ok_node_digits, by simp⟩)
  refine psound tokW Try.call76 Try.func76 rfl (fun xs r h => by obtain ⟨n, _, _, _, rfl, _⟩ := h; show 1 ≤ 27; decide) 27 rfl ?_
  rintro xs r w0 G0 ⟨n, s1, y0, h, rfl, rfl⟩ _
  rw [m_node_Number] at h
  refine tri_seq ?_
  refine tri_region (by exact tokW) (by exact gok) [] [] rfl ?_
  show Tri _ _ _ _
  refine tri_seq ?_
  refine tri_region (by exact tokW) (by exact gok) [] [] rfl ?_
  obtain ⟨⟨y2, y3, y4⟩, hy2, h⟩ := bind_out h
  refine ⟨_, ⟨_, _, _, _, _, hy2, rfl, rfl⟩, ?_⟩
  show Tri _ _ _ _
  refine tri_seq ?_
  obtain ⟨x5, hj, h⟩ := bind_out h
  refine tri_post ⟨ofL [(2, .s (.bool x5))], fun _ => none, 0⟩ ?_ (fun σ' hle => ?_)
  · replace h := hj
    refine tri_region (by exact tokW) (by exact gok) [] [15, 19, 22] rfl ?_
    intro b hb
    cases b with
    | true =>
      replace h := bif_t hb.symm h
      obtain ⟨y6, hy6, h⟩ := bind_out h
      refine ⟨_, ⟨_, _, _, hy6, rfl, rfl⟩, ?_⟩
      intro b hb
      cases b with
      | true =>
        replace h := bif_t hb.symm h
        intro b hb
        cases b with
        | true =>
          replace h := bif_t hb.symm h
          cases h
          exact (Le.forget _ ⟨rfl, trivial⟩)
        | false =>
          replace h := bif_f hb.symm h
          obtain ⟨y7, hy7, h⟩ := bind_out h
          refine ⟨_, ⟨_, _, _, hy7, rfl, rfl⟩, ?_⟩
          cases h
          exact (Le.forget _ ⟨rfl, trivial⟩)
      | false =>
        replace h := bif_f hb.symm h
        cases h
        exact (Le.forget _ ⟨rfl, trivial⟩)
    | false =>
      replace h := bif_f hb.symm h
      intro b hb
      subst hb
      cases h
      exact (Le.forget _ ⟨rfl, trivial⟩)
  · show Tri _ _ _ _
    refine tri_le hle ?_
    refine tri_ret ?_
    have hy := Option.some.inj h
    subst hy
    unfold Gives
    exact ⟨_, Le.refl _ _, rfl, rfl⟩
def R_node_plain (n : Nat) (xs : List AV) (r : Ret) : Prop := ∃ (a0 : List UInt8) (y0 : Bool), m_node_plain n a0 = some y0 ∧ xs = [.s (.str a0)] ∧ r = .val (.s (.bool y0))
def S_node_plain : PSpec := pspec fun xs r => ∃ n, R_node_plain n xs r
set_option maxHeartbeats 2000000 in
set_option maxRecDepth 100000 in
theorem ok_node_plain : PSound Try.prog 77 S_node_plain := by
  have gok : ∀ (f : Nat) (s : PSpec), (fun _ => none : Nat → Option PSpec) f = some s → PSound Try.prog f s := fun _ _ h => by cases h
  refine psound tokW Try.call77 Try.func77 rfl (fun xs r h => by obtain ⟨n, _, _, _, rfl, _⟩ := h; show 1 ≤ 23; decide) 23 rfl ?_
  rintro xs r w0 G0 ⟨n, s1, y0, h, rfl, rfl⟩ _
  rw [m_node_plain] at h
  refine tri_seq ?_
  refine tri_region (by exact tokW) (by exact gok) [] [] rfl ?_
  show Tri _ _ _ _
  refine tri_seq ?_
  refine tri_seq ?_
  refine tri_region (by exact tokW) (by exact gok) [] [] rfl ?_
  show Tri _ _ _ _
  obtain ⟨fl, hl, ho1⟩ := bind_out h
  refine tri_fl (fl := fl) (fun z => match z with | _ => ⟨ofL [(0, .s (.str s1))], fun _ => none, 0⟩) ?_ (fun z σ' hz hle => ?_)
  · refine tri_block (tri_loopI (X := Nat × Int) (fun y => match y with | (k, i2) => ⟨ofL [(0, .s (.str s1)), (3, .s (.int .i64 i2))], fun _ => none, 0⟩) (fun y => m_node_plain_l1 s1 y.1 y.2 = some fl) (fun y => y.1) (n, 0) hl ?_ ?_)
    · exact (Le.forget _ ⟨rfl, rfl, trivial⟩)
    · rintro ⟨k, i2⟩ h
      cases k with
      | zero => cases h
      | succ k =>
        replace h : m_node_plain_l1 s1 (k+1) i2 = some fl := h
        rw [m_node_plain_l1] at h
        refine tri_seq ?_
        refine tri_seq ?_
        refine tri_region (by exact tokW) (by exact gok) [] [] rfl ?_
        show Tri _ _ _ _
        refine tri_cond rfl (fun hb => ?_) (fun hb => ?_)
        · replace h := bif_t hb h
          refine tri_skip ?_
          show Tri _ _ _ _
          refine tri_seq ?_
          refine tri_block ?_
          refine tri_seq ?_
          obtain ⟨x3, hj, h⟩ := bind_out h
          refine tri_post ⟨ofL [(0, .s (.str s1)), (3, .s (.int .i64 i2)), (19, .s (.bool x3))], fun _ => none, 0⟩ ?_ (fun σ' hle => ?_)
          · replace h := hj
            refine tri_region (by exact tokW) (by exact gok) [] [12, 14, 17] rfl ?_
            obtain ⟨c4, hc4, h⟩ := bind_out h
            refine And.intro (str_ok hc4).1 ?_
            intro v5 hv5
            obtain rfl : (c4.toNat : Int) = v5 := (hv5.trans (str_ok hc4).2).symm
            intro b hb
            cases b with
            | true =>
              replace h := bif_t hb.symm h
              cases h
              exact (Le.forget _ ⟨rfl, rfl, rfl, trivial⟩)
            | false =>
              replace h := bif_f hb.symm h
              obtain ⟨c6, hc6, h⟩ := bind_out h
              refine And.intro (str_ok hc6).1 ?_
              intro v7 hv7
              obtain rfl : (c6.toNat : Int) = v7 := (hv7.trans (str_ok hc6).2).symm
              cases h
              exact (Le.forget _ ⟨rfl, rfl, rfl, trivial⟩)
          · show Tri _ _ _ _
            refine tri_le hle ?_
            refine tri_cond rfl (fun hb => ?_) (fun hb => ?_)
            · replace h := bif_t hb h
              refine tri_seq ?_
              refine tri_region (by exact tokW) (by exact gok) [] [] rfl ?_
              show Tri _ _ _ _
              refine tri_ret ?_
              cases h
              replace h : some _ = some _ := ho1
              have hy := Option.some.inj h
              subst hy
              unfold Gives
              exact ⟨_, Le.refl _ _, rfl, rfl⟩
            · replace h := bif_f hb h
              refine tri_skip ?_
              show Tri _ _ _ _
              refine tri_region (by exact tokW) (by exact gok) [] [] rfl ?_
              refine ⟨(k, IntKind.i64.wrap (i2 + 1)), h, (Le.forget _ ⟨rfl, rfl, trivial⟩), Nat.lt_succ_self k⟩
        · replace h := bif_f hb h
          refine tri_exit ?_
          cases h
          exact ⟨_, rfl, (Le.forget _ ⟨rfl, trivial⟩)⟩
  · subst hz
    obtain _ := z
    replace h := ho1
    show Tri _ _ _ _
    refine tri_le hle ?_
    refine tri_seq ?_
    refine tri_region (by exact tokW) (by exact gok) [] [] rfl ?_
    show Tri _ _ _ _
    refine tri_ret ?_
    have hy := Option.some.inj h
    subst hy
    unfold Gives
    exact ⟨_, Le.refl _ _, rfl, rfl⟩
def R_node_fence (xs : List AV) (r : Ret) : Prop := ∃ (a0 : List UInt8) (y0 : Bool), m_node_fence a0 = some y0 ∧ xs = [.s (.str a0)] ∧ r = .val (.s (.bool y0))
def S_node_fence : PSpec := pspec fun xs r => R_node_fence xs r
set_option maxHeartbeats 2000000 in
set_option maxRecDepth 100000 in
theorem ok_node_fence : PSound Try.prog 79 S_node_fence := by
  have gok : ∀ f s, look? f [(97, S_strings_IndexByte)] = some s → PSound Try.prog f s := look_all (by
    simp only [List.forall_mem_cons]
    exact ⟨ok_strings_IndexByte, by simp⟩)
  refine psound tokW Try.call79 Try.func79 rfl (fun xs r h => by obtain ⟨_, _, _, rfl, _⟩ := h; show 1 ≤ 18; decide) 18 rfl ?_
  rintro xs r w0 G0 ⟨s1, y0, h, rfl, rfl⟩ _
  rw [m_node_fence] at h
  refine tri_seq ?_
  refine tri_region (by exact tokW) (by exact gok) [] [] rfl ?_
  show Tri _ _ _ _
  refine tri_seq ?_
  obtain ⟨x2, hj, h⟩ := bind_out h
  refine tri_post ⟨ofL [(2, .s (.bool x2))], fun _ => none, 0⟩ ?_ (fun σ' hle => ?_)
  · replace h := hj
    refine tri_region (by exact tokW) (by exact gok) [] [6, 8, 12, 14] rfl ?_
    intro b hb
    cases b with
    | true =>
      replace h := bif_t hb.symm h
      obtain ⟨c3, hc3, h⟩ := bind_out h
      refine And.intro (str_ok hc3).1 ?_
      intro v4 hv4
      obtain rfl : (c3.toNat : Int) = v4 := (hv4.trans (str_ok hc3).2).symm
      obtain ⟨y5, hy5, h⟩ := bind_out h
      refine ⟨_, ⟨_, _, _, hy5, rfl, rfl⟩, ?_⟩
      intro b hb
      cases b with
      | true =>
        replace h := bif_t hb.symm h
        obtain ⟨c6, hc6, h⟩ := bind_out h
        refine And.intro (str_ok hc6).1 ?_
        intro v7 hv7
        obtain rfl : (c6.toNat : Int) = v7 := (hv7.trans (str_ok hc6).2).symm
        obtain ⟨y8, hy8, h⟩ := bind_out h
        refine ⟨_, ⟨_, _, _, hy8, rfl, rfl⟩, ?_⟩
        cases h
        exact (Le.forget _ ⟨rfl, trivial⟩)
      | false =>
        replace h := bif_f hb.symm h
        cases h
        exact (Le.forget _ ⟨rfl, trivial⟩)
    | false =>
      replace h := bif_f hb.symm h
      intro b hb
      subst hb
      cases h
      exact (Le.forget _ ⟨rfl, trivial⟩)
  · show Tri _ _ _ _
    refine tri_le hle ?_
    refine tri_ret ?_
    have hy := Option.some.inj h
    subst hy
    unfold Gives
    exact ⟨_, Le.refl _ _, rfl, rfl⟩
def enc_13_node_kind (p : Unit) : List S := [.str [], .int .i64 0, .nf, .str [114, 111, 119], .int .i64 0, .fn 74, .str [115, 121, 109], .int .i64 0, .fn 75, .str [110, 117, 109], .int .i64 0, .fn 76, .str [116, 101, 120, 116], .int .i64 0, .fn 77, .str [102, 114, 97, 99], .int .i64 2, .fn 74, .str [114, 111, 111, 116], .int .i64 2, .fn 74, .str [115, 117, 98], .int .i64 2, .fn 74, .str [115, 117, 112], .int .i64 2, .fn 74, .str [98, 111, 116, 104], .int .i64 3, .fn 74, .str [97, 99, 99, 101, 110, 116], .int .i64 1, .fn 78, .str [102, 101, 110, 99, 101], .int .i64 1, .fn 79, .str [109, 97, 116, 114, 105, 120], .int .i64 0, .fn 74]
def R_node_kinds (xs : List AV) (r : Ret) : Prop := ∃ (y0 : Unit), m_node_kinds = some y0 ∧ xs = [] ∧ r = .val (.agg ((enc_13_node_kind y0).map .s))
def S_node_kinds : PSpec := pspec fun xs r => R_node_kinds xs r
set_option maxHeartbeats 2000000 in
set_option maxRecDepth 100000 in
theorem ok_node_kinds : PSound Try.prog 56 S_node_kinds := by
  have gok : ∀ (f : Nat) (s : PSpec), (fun _ => none : Nat → Option PSpec) f = some s → PSound Try.prog f s := fun _ _ h => by cases h
  refine psound tokW Try.call56 Try.func56 rfl (fun xs r h => by obtain ⟨_, _, rfl, _⟩ := h; show 0 ≤ 14; decide) 14 rfl ?_
  rintro xs r w0 G0 ⟨y0, h, rfl, rfl⟩ _
  rw [m_node_kinds] at h
  refine tri_seq ?_
  refine tri_region (by exact tokW) (by exact gok) [0] [] rfl ?_
  show Tri _ _ _ _
  refine tri_seq ?_
  refine tri_region (by exact tokW) (by exact gok) [] [] rfl ?_
  show Tri _ _ _ _
  refine tri_ret ?_
  have hy := Option.some.inj h
  subst hy
  unfold Gives
  exact ⟨_, Le.refl _ _, rfl, rfl⟩
def enc_node_checker (p : (Unit × Int)) : List S := [.str [], .int .i64 0, .nf, .str [114, 111, 119], .int .i64 0, .fn 74, .str [115, 121, 109], .int .i64 0, .fn 75, .str [110, 117, 109], .int .i64 0, .fn 76, .str [116, 101, 120, 116], .int .i64 0, .fn 77, .str [102, 114, 97, 99], .int .i64 2, .fn 74, .str [114, 111, 111, 116], .int .i64 2, .fn 74, .str [115, 117, 98], .int .i64 2, .fn 74, .str [115, 117, 112], .int .i64 2, .fn 74, .str [98, 111, 116, 104], .int .i64 3, .fn 74, .str [97, 99, 99, 101, 110, 116], .int .i64 1, .fn 78, .str [102, 101, 110, 99, 101], .int .i64 1, .fn 79, .str [109, 97, 116, 114, 105, 120], .int .i64 0, .fn 74, .int .i64 p.2]
def R_node_checker_own (n : Nat) (xs : List AV) (os : List Ob) (x : AV) (os' : List (Option Ob)) : Prop := ∃ (a0 : (Unit × Int)) (a1 : Nd) (y0 : Bool) (z0 : (Unit × Int)), m_node_checker_own n a0 a1 = some (y0, z0) ∧ xs = [.op 0 0, .s (.pt (Nd.enc a1))] ∧ os = [.box 83 ((enc_node_checker a0).map .s)] ∧ x = .s (.bool y0) ∧ os' = [some (.box 83 ((enc_node_checker z0).map .s))]
def S_node_checker_own : PSpec := ospec (fun xs os x os' => ∃ n, R_node_checker_own n xs os x os')
set_option maxHeartbeats 2000000 in
set_option maxRecDepth 100000 in
theorem ok_node_checker_own : PSound Try.prog 80 S_node_checker_own := by
  have gok : ∀ f s, look? f [(74, S_node_empty), (75, S_node_Symbol), (76, S_node_Number), (77, S_node_plain), (78, S_node_accent), (79, S_node_fence)] = some s → PSound Try.prog f s := look_all (by
    simp only [List.forall_mem_cons]
    exact ⟨ok_node_empty, ok_node_Symbol, ok_node_Number, ok_node_plain, ok_node_accent, ok_node_fence, by simp⟩)
  refine PSound.withNil (osound tokW Try.call80 Try.func80 rfl (fun xs os x os' h => by obtain ⟨n, _, _, _, _, _, rfl, rfl, _, rfl⟩ := h; exact ⟨by show 2 ≤ 120; decide, by show 1 ≤ 1; decide⟩) 120 rfl ?_) _
  rintro xs os x os' w0 G0 B0 ⟨n, ⟨_, o1_nodes⟩, ⟨a2_kind, a2_text, a2_cols, a2_kids⟩, y0, z0, h, rfl, rfl, rfl, rfl⟩ _
  rw [m_node_checker_own] at h
  refine tri_seq ?_
  refine tri_region (by exact tokW) (by exact gok) [] [] rfl ?_
  show Tri _ _ _ _
  refine tri_seq ?_
  refine tri_seq ?_
  obtain ⟨x3, hj, h⟩ := bind_out h
  refine tri_post ⟨ofL [(0, .op 0 0), (1, .s (.pt [.int .i64 a2_kind, .str a2_text, .int .i64 a2_cols, .sl 4 (Nd.encs a2_kids)])), (34, .s (.bool x3))], ofH [(0, .box 83 [.s (.str []), .s (.int .i64 0), .s (.nf), .s (.str [114, 111, 119]), .s (.int .i64 0), .s (.fn 74), .s (.str [115, 121, 109]), .s (.int .i64 0), .s (.fn 75), .s (.str [110, 117, 109]), .s (.int .i64 0), .s (.fn 76), .s (.str [116, 101, 120, 116]), .s (.int .i64 0), .s (.fn 77), .s (.str [102, 114, 97, 99]), .s (.int .i64 2), .s (.fn 74), .s (.str [114, 111, 111, 116]), .s (.int .i64 2), .s (.fn 74), .s (.str [115, 117, 98]), .s (.int .i64 2), .s (.fn 74), .s (.str [115, 117, 112]), .s (.int .i64 2), .s (.fn 74), .s (.str [98, 111, 116, 104]), .s (.int .i64 3), .s (.fn 74), .s (.str [97, 99, 99, 101, 110, 116]), .s (.int .i64 1), .s (.fn 78), .s (.str [102, 101, 110, 99, 101]), .s (.int .i64 1), .s (.fn 79), .s (.str [109, 97, 116, 114, 105, 120]), .s (.int .i64 0), .s (.fn 74), .s (.int .i64 o1_nodes)])], 1⟩ ?_ (fun σ' hle => ?_)
  · replace h := hj
    refine tri_drawn (by exact tokW) (by exact gok) (by exact mixed) [] [10, 17, 22] [22] rfl (by decide +kernel) ?_
    intro b hb
    cases b with
    | true =>
      replace h := bif_t hb.symm h
      intro b hb
      subst hb
      cases h
      exact (Le.rename [(0, 0)] _ _ _ ⟨rfl, rfl, rfl, trivial⟩ ⟨rfl, ⟨_, rfl, rfl⟩, trivial⟩ rfl rfl rfl rfl rfl)
    | false =>
      replace h := bif_f hb.symm h
      intro b hb
      cases b with
      | true =>
        replace h := bif_t hb.symm h
        cases h
        exact (Le.rename [(0, 0)] _ _ _ ⟨rfl, rfl, rfl, trivial⟩ ⟨rfl, ⟨_, rfl, rfl⟩, trivial⟩ rfl rfl rfl rfl rfl)
      | false =>
        replace h := bif_f hb.symm h
        intro vsp hvsp
        cases hc : (a2_kind == 1) with
        | true =>
          replace h := bif_t hc h
          obtain rfl : (1 : Int) = vsp := (hvsp.trans (eq_of_beq hc)).symm
          refine And.intro (by decide) ?_
          obtain ⟨y4, hy4, h⟩ := bind_out h
          refine ⟨_, ⟨_, _, hy4, rfl, rfl⟩, ?_⟩
          cases h
          exact (Le.rename [(0, 0)] _ _ _ ⟨rfl, rfl, rfl, trivial⟩ ⟨rfl, ⟨_, rfl, rfl⟩, trivial⟩ rfl rfl rfl rfl rfl)
        | false =>
          replace h := bif_f hc h
          cases hc : (a2_kind == 2) with
          | true =>
            replace h := bif_t hc h
            obtain rfl : (2 : Int) = vsp := (hvsp.trans (eq_of_beq hc)).symm
            refine And.intro (by decide) ?_
            obtain ⟨y5, hy5, h⟩ := bind_out h
            refine ⟨_, ⟨_, _, _, hy5, rfl, rfl⟩, ?_⟩
            cases h
            exact (Le.rename [(0, 0)] _ _ _ ⟨rfl, rfl, rfl, trivial⟩ ⟨rfl, ⟨_, rfl, rfl⟩, trivial⟩ rfl rfl rfl rfl rfl)
          | false =>
            replace h := bif_f hc h
            cases hc : (a2_kind == 3) with
            | true =>
              replace h := bif_t hc h
              obtain rfl : (3 : Int) = vsp := (hvsp.trans (eq_of_beq hc)).symm
              refine And.intro (by decide) ?_
              obtain ⟨y6, hy6, h⟩ := bind_out h
              refine ⟨_, ⟨_, _, _, hy6, rfl, rfl⟩, ?_⟩
              cases h
              exact (Le.rename [(0, 0)] _ _ _ ⟨rfl, rfl, rfl, trivial⟩ ⟨rfl, ⟨_, rfl, rfl⟩, trivial⟩ rfl rfl rfl rfl rfl)
            | false =>
              replace h := bif_f hc h
              cases hc : (a2_kind == 4) with
              | true =>
                replace h := bif_t hc h
                obtain rfl : (4 : Int) = vsp := (hvsp.trans (eq_of_beq hc)).symm
                refine And.intro (by decide) ?_
                obtain ⟨y7, hy7, h⟩ := bind_out h
                refine ⟨_, ⟨_, _, _, hy7, rfl, rfl⟩, ?_⟩
                cases h
                exact (Le.rename [(0, 0)] _ _ _ ⟨rfl, rfl, rfl, trivial⟩ ⟨rfl, ⟨_, rfl, rfl⟩, trivial⟩ rfl rfl rfl rfl rfl)
              | false =>
                replace h := bif_f hc h
                cases hc : (a2_kind == 5) with
                | true =>
                  replace h := bif_t hc h
                  obtain rfl : (5 : Int) = vsp := (hvsp.trans (eq_of_beq hc)).symm
                  refine And.intro (by decide) ?_
                  obtain ⟨y8, hy8, h⟩ := bind_out h
                  refine ⟨_, ⟨_, _, hy8, rfl, rfl⟩, ?_⟩
                  cases h
                  exact (Le.rename [(0, 0)] _ _ _ ⟨rfl, rfl, rfl, trivial⟩ ⟨rfl, ⟨_, rfl, rfl⟩, trivial⟩ rfl rfl rfl rfl rfl)
                | false =>
                  replace h := bif_f hc h
                  cases hc : (a2_kind == 6) with
                  | true =>
                    replace h := bif_t hc h
                    obtain rfl : (6 : Int) = vsp := (hvsp.trans (eq_of_beq hc)).symm
                    refine And.intro (by decide) ?_
                    obtain ⟨y9, hy9, h⟩ := bind_out h
                    refine ⟨_, ⟨_, _, hy9, rfl, rfl⟩, ?_⟩
                    cases h
                    exact (Le.rename [(0, 0)] _ _ _ ⟨rfl, rfl, rfl, trivial⟩ ⟨rfl, ⟨_, rfl, rfl⟩, trivial⟩ rfl rfl rfl rfl rfl)
                  | false =>
                    replace h := bif_f hc h
                    cases hc : (a2_kind == 7) with
                    | true =>
                      replace h := bif_t hc h
                      obtain rfl : (7 : Int) = vsp := (hvsp.trans (eq_of_beq hc)).symm
                      refine And.intro (by decide) ?_
                      obtain ⟨y10, hy10, h⟩ := bind_out h
                      refine ⟨_, ⟨_, _, hy10, rfl, rfl⟩, ?_⟩
                      cases h
                      exact (Le.rename [(0, 0)] _ _ _ ⟨rfl, rfl, rfl, trivial⟩ ⟨rfl, ⟨_, rfl, rfl⟩, trivial⟩ rfl rfl rfl rfl rfl)
                    | false =>
                      replace h := bif_f hc h
                      cases hc : (a2_kind == 8) with
                      | true =>
                        replace h := bif_t hc h
                        obtain rfl : (8 : Int) = vsp := (hvsp.trans (eq_of_beq hc)).symm
                        refine And.intro (by decide) ?_
                        obtain ⟨y11, hy11, h⟩ := bind_out h
                        refine ⟨_, ⟨_, _, hy11, rfl, rfl⟩, ?_⟩
                        cases h
                        exact (Le.rename [(0, 0)] _ _ _ ⟨rfl, rfl, rfl, trivial⟩ ⟨rfl, ⟨_, rfl, rfl⟩, trivial⟩ rfl rfl rfl rfl rfl)
                      | false =>
                        replace h := bif_f hc h
                        cases hc : (a2_kind == 9) with
                        | true =>
                          replace h := bif_t hc h
                          obtain rfl : (9 : Int) = vsp := (hvsp.trans (eq_of_beq hc)).symm
                          refine And.intro (by decide) ?_
                          obtain ⟨y12, hy12, h⟩ := bind_out h
                          refine ⟨_, ⟨_, _, hy12, rfl, rfl⟩, ?_⟩
                          cases h
                          exact (Le.rename [(0, 0)] _ _ _ ⟨rfl, rfl, rfl, trivial⟩ ⟨rfl, ⟨_, rfl, rfl⟩, trivial⟩ rfl rfl rfl rfl rfl)
                        | false =>
                          replace h := bif_f hc h
                          cases hc : (a2_kind == 10) with
                          | true =>
                            replace h := bif_t hc h
                            obtain rfl : (10 : Int) = vsp := (hvsp.trans (eq_of_beq hc)).symm
                            refine And.intro (by decide) ?_
                            obtain ⟨y13, hy13, h⟩ := bind_out h
                            refine ⟨_, ⟨_, _, hy13, rfl, rfl⟩, ?_⟩
                            cases h
                            exact (Le.rename [(0, 0)] _ _ _ ⟨rfl, rfl, rfl, trivial⟩ ⟨rfl, ⟨_, rfl, rfl⟩, trivial⟩ rfl rfl rfl rfl rfl)
                          | false =>
                            replace h := bif_f hc h
                            cases hc : (a2_kind == 11) with
                            | true =>
                              replace h := bif_t hc h
                              obtain rfl : (11 : Int) = vsp := (hvsp.trans (eq_of_beq hc)).symm
                              refine And.intro (by decide) ?_
                              obtain ⟨y14, hy14, h⟩ := bind_out h
                              refine ⟨_, ⟨_, _, hy14, rfl, rfl⟩, ?_⟩
                              cases h
                              exact (Le.rename [(0, 0)] _ _ _ ⟨rfl, rfl, rfl, trivial⟩ ⟨rfl, ⟨_, rfl, rfl⟩, trivial⟩ rfl rfl rfl rfl rfl)
                            | false =>
                              replace h := bif_f hc h
                              cases hc : (a2_kind == 12) with
                              | true =>
                                replace h := bif_t hc h
                                obtain rfl : (12 : Int) = vsp := (hvsp.trans (eq_of_beq hc)).symm
                                refine And.intro (by decide) ?_
                                obtain ⟨y15, hy15, h⟩ := bind_out h
                                refine ⟨_, ⟨_, _, hy15, rfl, rfl⟩, ?_⟩
                                cases h
                                exact (Le.rename [(0, 0)] _ _ _ ⟨rfl, rfl, rfl, trivial⟩ ⟨rfl, ⟨_, rfl, rfl⟩, trivial⟩ rfl rfl rfl rfl rfl)
                              | false =>
                                replace h := bif_f hc h
                                cases h
  · show Tri _ _ _ _
    refine tri_le hle ?_
    refine tri_cond rfl (fun hb => ?_) (fun hb => ?_)
    · replace h := bif_t hb h
      refine tri_seq ?_
      refine tri_region (by exact tokW) (by exact gok) [] [] rfl ?_
      show Tri _ _ _ _
      refine tri_ret ?_
      obtain ⟨hj1, hk1⟩ := Prod.mk.inj (Option.some.inj h)
      subst hj1
      subst hk1
      unfold GivesO
      exact ⟨_, (Le.rename [(0, 0)] [(4, .s (.bool false))] [(0, .box 83 [.s (.str []), .s (.int .i64 0), .s (.nf), .s (.str [114, 111, 119]), .s (.int .i64 0), .s (.fn 74), .s (.str [115, 121, 109]), .s (.int .i64 0), .s (.fn 75), .s (.str [110, 117, 109]), .s (.int .i64 0), .s (.fn 76), .s (.str [116, 101, 120, 116]), .s (.int .i64 0), .s (.fn 77), .s (.str [102, 114, 97, 99]), .s (.int .i64 2), .s (.fn 74), .s (.str [114, 111, 111, 116]), .s (.int .i64 2), .s (.fn 74), .s (.str [115, 117, 98]), .s (.int .i64 2), .s (.fn 74), .s (.str [115, 117, 112]), .s (.int .i64 2), .s (.fn 74), .s (.str [98, 111, 116, 104]), .s (.int .i64 3), .s (.fn 74), .s (.str [97, 99, 99, 101, 110, 116]), .s (.int .i64 1), .s (.fn 78), .s (.str [102, 101, 110, 99, 101]), .s (.int .i64 1), .s (.fn 79), .s (.str [109, 97, 116, 114, 105, 120]), .s (.int .i64 0), .s (.fn 74), .s (.int .i64 o1_nodes)])] 1 ⟨rfl, trivial⟩ ⟨rfl, ⟨_, rfl, rfl⟩, trivial⟩ rfl rfl rfl rfl rfl), rfl, rfl, rfl, rfl, trivial⟩
    · replace h := bif_f hb h
      refine tri_skip ?_
      show Tri _ _ _ _
      refine tri_seq ?_
      refine tri_seq ?_
      refine tri_region (by exact tokW) (by exact gok) [] [] rfl ?_
      show Tri _ _ _ _
      refine tri_block ?_
      refine tri_seq ?_
      refine tri_region (by exact tokW) (by exact gok) [] [] rfl ?_
      show Tri _ _ _ _
      refine tri_cond rfl (fun hb => ?_) (fun hb => ?_)
      · replace h := bif_t hb h
        refine tri_seq ?_
        obtain ⟨x16, hj, h⟩ := bind_out h
        refine tri_post ⟨ofL [(4, .s (.bool x16))], ofH [(0, .box 83 [.s (.str []), .s (.int .i64 0), .s (.nf), .s (.str [114, 111, 119]), .s (.int .i64 0), .s (.fn 74), .s (.str [115, 121, 109]), .s (.int .i64 0), .s (.fn 75), .s (.str [110, 117, 109]), .s (.int .i64 0), .s (.fn 76), .s (.str [116, 101, 120, 116]), .s (.int .i64 0), .s (.fn 77), .s (.str [102, 114, 97, 99]), .s (.int .i64 2), .s (.fn 74), .s (.str [114, 111, 111, 116]), .s (.int .i64 2), .s (.fn 74), .s (.str [115, 117, 98]), .s (.int .i64 2), .s (.fn 74), .s (.str [115, 117, 112]), .s (.int .i64 2), .s (.fn 74), .s (.str [98, 111, 116, 104]), .s (.int .i64 3), .s (.fn 74), .s (.str [97, 99, 99, 101, 110, 116]), .s (.int .i64 1), .s (.fn 78), .s (.str [102, 101, 110, 99, 101]), .s (.int .i64 1), .s (.fn 79), .s (.str [109, 97, 116, 114, 105, 120]), .s (.int .i64 0), .s (.fn 74), .s (.int .i64 o1_nodes)])], 1⟩ ?_ (fun σ' hle => ?_)
        · replace h := hj
          refine tri_region (by exact tokW) (by exact gok) [] [46, 51] rfl ?_
          intro b hb
          cases b with
          | true =>
            replace h := bif_t hb.symm h
            intro n17 hn17
            obtain rfl : (a2_kids.length : Int) = n17 := (hn17.trans (congrArg (fun m : Nat => (m : Int)) (rlen Nd.encs_eq a2_kids))).symm
            cases h
            exact (Le.rename [(0, 0)] _ _ _ ⟨rfl, trivial⟩ ⟨rfl, ⟨_, rfl, rfl⟩, trivial⟩ rfl rfl rfl rfl rfl)
          | false =>
            replace h := bif_f hb.symm h
            cases h
            exact (Le.rename [(0, 0)] _ _ _ ⟨rfl, trivial⟩ ⟨rfl, ⟨_, rfl, rfl⟩, trivial⟩ rfl rfl rfl rfl rfl)
        · show Tri _ _ _ _
          refine tri_le hle ?_
          refine tri_ret ?_
          obtain ⟨hj1, hk1⟩ := Prod.mk.inj (Option.some.inj h)
          subst hj1
          subst hk1
          unfold GivesO
          exact ⟨_, (Le.rename [(0, 0)] [(4, .s (.bool x16))] [(0, .box 83 [.s (.str []), .s (.int .i64 0), .s (.nf), .s (.str [114, 111, 119]), .s (.int .i64 0), .s (.fn 74), .s (.str [115, 121, 109]), .s (.int .i64 0), .s (.fn 75), .s (.str [110, 117, 109]), .s (.int .i64 0), .s (.fn 76), .s (.str [116, 101, 120, 116]), .s (.int .i64 0), .s (.fn 77), .s (.str [102, 114, 97, 99]), .s (.int .i64 2), .s (.fn 74), .s (.str [114, 111, 111, 116]), .s (.int .i64 2), .s (.fn 74), .s (.str [115, 117, 98]), .s (.int .i64 2), .s (.fn 74), .s (.str [115, 117, 112]), .s (.int .i64 2), .s (.fn 74), .s (.str [98, 111, 116, 104]), .s (.int .i64 3), .s (.fn 74), .s (.str [97, 99, 99, 101, 110, 116]), .s (.int .i64 1), .s (.fn 78), .s (.str [102, 101, 110, 99, 101]), .s (.int .i64 1), .s (.fn 79), .s (.str [109, 97, 116, 114, 105, 120]), .s (.int .i64 0), .s (.fn 74), .s (.int .i64 o1_nodes)])] 1 ⟨rfl, trivial⟩ ⟨rfl, ⟨_, rfl, rfl⟩, trivial⟩ rfl rfl rfl rfl rfl), rfl, rfl, rfl, rfl, trivial⟩
      · replace h := bif_f hb h
        refine tri_seq ?_
        refine tri_region (by exact tokW) (by exact gok) [] [] rfl ?_
        show Tri _ _ _ _
        refine tri_cond rfl (fun hb => ?_) (fun hb => ?_)
        · replace h := bif_t hb h
          refine tri_seq ?_
          obtain ⟨x18, hj, h⟩ := bind_out h
          refine tri_post ⟨ofL [(4, .s (.bool x18))], ofH [(0, .box 83 [.s (.str []), .s (.int .i64 0), .s (.nf), .s (.str [114, 111, 119]), .s (.int .i64 0), .s (.fn 74), .s (.str [115, 121, 109]), .s (.int .i64 0), .s (.fn 75), .s (.str [110, 117, 109]), .s (.int .i64 0), .s (.fn 76), .s (.str [116, 101, 120, 116]), .s (.int .i64 0), .s (.fn 77), .s (.str [102, 114, 97, 99]), .s (.int .i64 2), .s (.fn 74), .s (.str [114, 111, 111, 116]), .s (.int .i64 2), .s (.fn 74), .s (.str [115, 117, 98]), .s (.int .i64 2), .s (.fn 74), .s (.str [115, 117, 112]), .s (.int .i64 2), .s (.fn 74), .s (.str [98, 111, 116, 104]), .s (.int .i64 3), .s (.fn 74), .s (.str [97, 99, 99, 101, 110, 116]), .s (.int .i64 1), .s (.fn 78), .s (.str [102, 101, 110, 99, 101]), .s (.int .i64 1), .s (.fn 79), .s (.str [109, 97, 116, 114, 105, 120]), .s (.int .i64 0), .s (.fn 74), .s (.int .i64 o1_nodes)])], 1⟩ ?_ (fun σ' hle => ?_)
          · replace h := hj
            refine tri_drawn (by exact tokW) (by exact gok) (by exact mixed) [] [61, 68, 73, 76, 81, 84, 89] [] rfl (by decide +kernel) ?_
            intro b hb
            cases b with
            | true =>
              replace h := bif_t hb.symm h
              intro b hb
              cases b with
              | true =>
                replace h := bif_t hb.symm h
                intro n19 hn19
                obtain rfl : (a2_kids.length : Int) = n19 := (hn19.trans (congrArg (fun m : Nat => (m : Int)) (rlen Nd.encs_eq a2_kids))).symm
                intro b hb
                cases b with
                | true =>
                  replace h := bif_t hb.symm h
                  intro n20 hn20
                  obtain rfl : (a2_kids.length : Int) = n20 := (hn20.trans (congrArg (fun m : Nat => (m : Int)) (rlen Nd.encs_eq a2_kids))).symm
                  intro b hb
                  cases b with
                  | true =>
                    replace h := bif_t hb.symm h
                    intro n21 hn21
                    obtain rfl : (a2_kids.length : Int) = n21 := (hn21.trans (congrArg (fun m : Nat => (m : Int)) (rlen Nd.encs_eq a2_kids))).symm
                    obtain ⟨hq, h⟩ := req_out h
                    refine And.intro hq ?_
                    cases h
                    exact (Le.rename [(0, 0)] _ _ _ ⟨rfl, trivial⟩ ⟨rfl, ⟨_, rfl, rfl⟩, trivial⟩ rfl rfl rfl rfl rfl)
                  | false =>
                    replace h := bif_f hb.symm h
                    cases h
                    exact (Le.rename [(0, 0)] _ _ _ ⟨rfl, trivial⟩ ⟨rfl, ⟨_, rfl, rfl⟩, trivial⟩ rfl rfl rfl rfl rfl)
                | false =>
                  replace h := bif_f hb.symm h
                  intro b hb
                  subst hb
                  cases h
                  exact (Le.rename [(0, 0)] _ _ _ ⟨rfl, trivial⟩ ⟨rfl, ⟨_, rfl, rfl⟩, trivial⟩ rfl rfl rfl rfl rfl)
              | false =>
                replace h := bif_f hb.symm h
                intro b hb
                subst hb
                intro b hb
                subst hb
                cases h
                exact (Le.rename [(0, 0)] _ _ _ ⟨rfl, trivial⟩ ⟨rfl, ⟨_, rfl, rfl⟩, trivial⟩ rfl rfl rfl rfl rfl)
            | false =>
              replace h := bif_f hb.symm h
              intro b hb
              subst hb
              intro b hb
              subst hb
              intro b hb
              subst hb
              cases h
              exact (Le.rename [(0, 0)] _ _ _ ⟨rfl, trivial⟩ ⟨rfl, ⟨_, rfl, rfl⟩, trivial⟩ rfl rfl rfl rfl rfl)
          · show Tri _ _ _ _
            refine tri_le hle ?_
            refine tri_ret ?_
            obtain ⟨hj1, hk1⟩ := Prod.mk.inj (Option.some.inj h)
            subst hj1
            subst hk1
            unfold GivesO
            exact ⟨_, (Le.rename [(0, 0)] [(4, .s (.bool x18))] [(0, .box 83 [.s (.str []), .s (.int .i64 0), .s (.nf), .s (.str [114, 111, 119]), .s (.int .i64 0), .s (.fn 74), .s (.str [115, 121, 109]), .s (.int .i64 0), .s (.fn 75), .s (.str [110, 117, 109]), .s (.int .i64 0), .s (.fn 76), .s (.str [116, 101, 120, 116]), .s (.int .i64 0), .s (.fn 77), .s (.str [102, 114, 97, 99]), .s (.int .i64 2), .s (.fn 74), .s (.str [114, 111, 111, 116]), .s (.int .i64 2), .s (.fn 74), .s (.str [115, 117, 98]), .s (.int .i64 2), .s (.fn 74), .s (.str [115, 117, 112]), .s (.int .i64 2), .s (.fn 74), .s (.str [98, 111, 116, 104]), .s (.int .i64 3), .s (.fn 74), .s (.str [97, 99, 99, 101, 110, 116]), .s (.int .i64 1), .s (.fn 78), .s (.str [102, 101, 110, 99, 101]), .s (.int .i64 1), .s (.fn 79), .s (.str [109, 97, 116, 114, 105, 120]), .s (.int .i64 0), .s (.fn 74), .s (.int .i64 o1_nodes)])] 1 ⟨rfl, trivial⟩ ⟨rfl, ⟨_, rfl, rfl⟩, trivial⟩ rfl rfl rfl rfl rfl), rfl, rfl, rfl, rfl, trivial⟩
        · replace h := bif_f hb h
          refine tri_skip ?_
          show Tri _ _ _ _
          refine tri_seq ?_
          obtain ⟨x22, hj, h⟩ := bind_out h
          refine tri_post ⟨ofL [(4, .s (.bool x22))], ofH [(0, .box 83 [.s (.str []), .s (.int .i64 0), .s (.nf), .s (.str [114, 111, 119]), .s (.int .i64 0), .s (.fn 74), .s (.str [115, 121, 109]), .s (.int .i64 0), .s (.fn 75), .s (.str [110, 117, 109]), .s (.int .i64 0), .s (.fn 76), .s (.str [116, 101, 120, 116]), .s (.int .i64 0), .s (.fn 77), .s (.str [102, 114, 97, 99]), .s (.int .i64 2), .s (.fn 74), .s (.str [114, 111, 111, 116]), .s (.int .i64 2), .s (.fn 74), .s (.str [115, 117, 98]), .s (.int .i64 2), .s (.fn 74), .s (.str [115, 117, 112]), .s (.int .i64 2), .s (.fn 74), .s (.str [98, 111, 116, 104]), .s (.int .i64 3), .s (.fn 74), .s (.str [97, 99, 99, 101, 110, 116]), .s (.int .i64 1), .s (.fn 78), .s (.str [102, 101, 110, 99, 101]), .s (.int .i64 1), .s (.fn 79), .s (.str [109, 97, 116, 114, 105, 120]), .s (.int .i64 0), .s (.fn 74), .s (.int .i64 o1_nodes)])], 1⟩ ?_ (fun σ' hle => ?_)
          · replace h := hj
            refine tri_drawn (by exact tokW) (by exact gok) (by exact mixed) [] [102, 107, 112] [20] rfl (by decide +kernel) ?_
            intro b hb
            cases b with
            | true =>
              replace h := bif_t hb.symm h
              intro n23 hn23
              obtain rfl : (a2_kids.length : Int) = n23 := (hn23.trans (congrArg (fun m : Nat => (m : Int)) (rlen Nd.encs_eq a2_kids))).symm
              intro vsp hvsp
              cases hc : (a2_kind == 1) with
              | true =>
                replace h := bif_t hc h
                obtain rfl : (1 : Int) = vsp := (hvsp.trans (eq_of_beq hc)).symm
                refine And.intro (by decide) ?_
                cases h
                exact (Le.rename [(0, 0)] _ _ _ ⟨rfl, trivial⟩ ⟨rfl, ⟨_, rfl, rfl⟩, trivial⟩ rfl rfl rfl rfl rfl)
              | false =>
                replace h := bif_f hc h
                cases hc : (a2_kind == 2) with
                | true =>
                  replace h := bif_t hc h
                  obtain rfl : (2 : Int) = vsp := (hvsp.trans (eq_of_beq hc)).symm
                  refine And.intro (by decide) ?_
                  cases h
                  exact (Le.rename [(0, 0)] _ _ _ ⟨rfl, trivial⟩ ⟨rfl, ⟨_, rfl, rfl⟩, trivial⟩ rfl rfl rfl rfl rfl)
                | false =>
                  replace h := bif_f hc h
                  cases hc : (a2_kind == 3) with
                  | true =>
                    replace h := bif_t hc h
                    obtain rfl : (3 : Int) = vsp := (hvsp.trans (eq_of_beq hc)).symm
                    refine And.intro (by decide) ?_
                    cases h
                    exact (Le.rename [(0, 0)] _ _ _ ⟨rfl, trivial⟩ ⟨rfl, ⟨_, rfl, rfl⟩, trivial⟩ rfl rfl rfl rfl rfl)
                  | false =>
                    replace h := bif_f hc h
                    cases hc : (a2_kind == 4) with
                    | true =>
                      replace h := bif_t hc h
                      obtain rfl : (4 : Int) = vsp := (hvsp.trans (eq_of_beq hc)).symm
                      refine And.intro (by decide) ?_
                      cases h
                      exact (Le.rename [(0, 0)] _ _ _ ⟨rfl, trivial⟩ ⟨rfl, ⟨_, rfl, rfl⟩, trivial⟩ rfl rfl rfl rfl rfl)
                    | false =>
                      replace h := bif_f hc h
                      cases hc : (a2_kind == 5) with
                      | true =>
                        replace h := bif_t hc h
                        obtain rfl : (5 : Int) = vsp := (hvsp.trans (eq_of_beq hc)).symm
                        refine And.intro (by decide) ?_
                        cases h
                        exact (Le.rename [(0, 0)] _ _ _ ⟨rfl, trivial⟩ ⟨rfl, ⟨_, rfl, rfl⟩, trivial⟩ rfl rfl rfl rfl rfl)
                      | false =>
                        replace h := bif_f hc h
                        cases hc : (a2_kind == 6) with
                        | true =>
                          replace h := bif_t hc h
                          obtain rfl : (6 : Int) = vsp := (hvsp.trans (eq_of_beq hc)).symm
                          refine And.intro (by decide) ?_
                          cases h
                          exact (Le.rename [(0, 0)] _ _ _ ⟨rfl, trivial⟩ ⟨rfl, ⟨_, rfl, rfl⟩, trivial⟩ rfl rfl rfl rfl rfl)
                        | false =>
                          replace h := bif_f hc h
                          cases hc : (a2_kind == 7) with
                          | true =>
                            replace h := bif_t hc h
                            obtain rfl : (7 : Int) = vsp := (hvsp.trans (eq_of_beq hc)).symm
                            refine And.intro (by decide) ?_
                            cases h
                            exact (Le.rename [(0, 0)] _ _ _ ⟨rfl, trivial⟩ ⟨rfl, ⟨_, rfl, rfl⟩, trivial⟩ rfl rfl rfl rfl rfl)
                          | false =>
                            replace h := bif_f hc h
                            cases hc : (a2_kind == 8) with
                            | true =>
                              replace h := bif_t hc h
                              obtain rfl : (8 : Int) = vsp := (hvsp.trans (eq_of_beq hc)).symm
                              refine And.intro (by decide) ?_
                              cases h
                              exact (Le.rename [(0, 0)] _ _ _ ⟨rfl, trivial⟩ ⟨rfl, ⟨_, rfl, rfl⟩, trivial⟩ rfl rfl rfl rfl rfl)
                            | false =>
                              replace h := bif_f hc h
                              cases hc : (a2_kind == 9) with
                              | true =>
                                replace h := bif_t hc h
                                obtain rfl : (9 : Int) = vsp := (hvsp.trans (eq_of_beq hc)).symm
                                refine And.intro (by decide) ?_
                                cases h
                                exact (Le.rename [(0, 0)] _ _ _ ⟨rfl, trivial⟩ ⟨rfl, ⟨_, rfl, rfl⟩, trivial⟩ rfl rfl rfl rfl rfl)
                              | false =>
                                replace h := bif_f hc h
                                cases hc : (a2_kind == 10) with
                                | true =>
                                  replace h := bif_t hc h
                                  obtain rfl : (10 : Int) = vsp := (hvsp.trans (eq_of_beq hc)).symm
                                  refine And.intro (by decide) ?_
                                  cases h
                                  exact (Le.rename [(0, 0)] _ _ _ ⟨rfl, trivial⟩ ⟨rfl, ⟨_, rfl, rfl⟩, trivial⟩ rfl rfl rfl rfl rfl)
                                | false =>
                                  replace h := bif_f hc h
                                  cases hc : (a2_kind == 11) with
                                  | true =>
                                    replace h := bif_t hc h
                                    obtain rfl : (11 : Int) = vsp := (hvsp.trans (eq_of_beq hc)).symm
                                    refine And.intro (by decide) ?_
                                    cases h
                                    exact (Le.rename [(0, 0)] _ _ _ ⟨rfl, trivial⟩ ⟨rfl, ⟨_, rfl, rfl⟩, trivial⟩ rfl rfl rfl rfl rfl)
                                  | false =>
                                    replace h := bif_f hc h
                                    cases hc : (a2_kind == 12) with
                                    | true =>
                                      replace h := bif_t hc h
                                      obtain rfl : (12 : Int) = vsp := (hvsp.trans (eq_of_beq hc)).symm
                                      refine And.intro (by decide) ?_
                                      cases h
                                      exact (Le.rename [(0, 0)] _ _ _ ⟨rfl, trivial⟩ ⟨rfl, ⟨_, rfl, rfl⟩, trivial⟩ rfl rfl rfl rfl rfl)
                                    | false =>
                                      replace h := bif_f hc h
                                      cases h
            | false =>
              replace h := bif_f hb.symm h
              cases h
              exact (Le.rename [(0, 0)] _ _ _ ⟨rfl, trivial⟩ ⟨rfl, ⟨_, rfl, rfl⟩, trivial⟩ rfl rfl rfl rfl rfl)
          · show Tri _ _ _ _
            refine tri_le hle ?_
            refine tri_ret ?_
            obtain ⟨hj1, hk1⟩ := Prod.mk.inj (Option.some.inj h)
            subst hj1
            subst hk1
            unfold GivesO
            exact ⟨_, (Le.rename [(0, 0)] [(4, .s (.bool x22))] [(0, .box 83 [.s (.str []), .s (.int .i64 0), .s (.nf), .s (.str [114, 111, 119]), .s (.int .i64 0), .s (.fn 74), .s (.str [115, 121, 109]), .s (.int .i64 0), .s (.fn 75), .s (.str [110, 117, 109]), .s (.int .i64 0), .s (.fn 76), .s (.str [116, 101, 120, 116]), .s (.int .i64 0), .s (.fn 77), .s (.str [102, 114, 97, 99]), .s (.int .i64 2), .s (.fn 74), .s (.str [114, 111, 111, 116]), .s (.int .i64 2), .s (.fn 74), .s (.str [115, 117, 98]), .s (.int .i64 2), .s (.fn 74), .s (.str [115, 117, 112]), .s (.int .i64 2), .s (.fn 74), .s (.str [98, 111, 116, 104]), .s (.int .i64 3), .s (.fn 74), .s (.str [97, 99, 99, 101, 110, 116]), .s (.int .i64 1), .s (.fn 78), .s (.str [102, 101, 110, 99, 101]), .s (.int .i64 1), .s (.fn 79), .s (.str [109, 97, 116, 114, 105, 120]), .s (.int .i64 0), .s (.fn 74), .s (.int .i64 o1_nodes)])] 1 ⟨rfl, trivial⟩ ⟨rfl, ⟨_, rfl, rfl⟩, trivial⟩ rfl rfl rfl rfl rfl), rfl, rfl, rfl, rfl, trivial⟩
def R_node_checker_node (n : Nat) (xs : List AV) (os : List Ob) (x : AV) (os' : List (Option Ob)) : Prop := ∃ (a0 : (Unit × Int)) (a1 : Nd) (a2 : Int) (y0 : Bool) (z0 : (Unit × Int)), m_node_checker_node n a0 a1 a2 = some (y0, z0) ∧ xs = [.op 0 0, .s (.pt (Nd.enc a1)), .s (.int .i64 a2)] ∧ os = [.box 83 ((enc_node_checker a0).map .s)] ∧ x = .s (.bool y0) ∧ os' = [some (.box 83 ((enc_node_checker z0).map .s))]
set_option maxHeartbeats 2000000 in
set_option maxRecDepth 100000 in
theorem step_node_checker_node (n : Nat) (ih : PSound Try.prog 57 (ospec (R_node_checker_node n))) : PSound Try.prog 57 (ospec (R_node_checker_node (n + 1))) := by
  have gok : ∀ f s, look? f [(80, S_node_checker_own), (57, ospec (R_node_checker_node n))] = some s → PSound Try.prog f s := look_all (by
    simp only [List.forall_mem_cons]
    exact ⟨ok_node_checker_own, ih, by simp⟩)
  refine PSound.withNil (osound tokW Try.call57 Try.func57 rfl (fun xs os x os' h => by obtain ⟨_, _, _, _, _, _, rfl, rfl, _, rfl⟩ := h; exact ⟨by show 3 ≤ 67; decide, by show 1 ≤ 1; decide⟩) 67 rfl ?_) _
  rintro xs os x os' w0 G0 B0 ⟨⟨_, o1_nodes⟩, ⟨a2_kind, a2_text, a2_cols, a2_kids⟩, a3, y0, z0, h, rfl, rfl, rfl, rfl⟩ _
  rw [m_node_checker_node] at h
  refine tri_seq ?_
  refine tri_region (by exact tokW) (by exact gok) [] [] rfl ?_
  show Tri _ _ _ _
  refine tri_seq ?_
  refine tri_region (by exact tokW) (by exact gok) [] [] rfl ?_
  show Tri _ _ _ _
  refine tri_seq ?_
  refine tri_seq ?_
  obtain ⟨⟨x4, x5⟩, hj, h⟩ := bind_out h
  refine tri_post ⟨ofL [(0, .op 0 0), (1, .s (.pt [.int .i64 a2_kind, .str a2_text, .int .i64 a2_cols, .sl 4 (Nd.encs a2_kids)])), (2, .s (.int .i64 a3)), (29, .s (.bool x4))], ofH [(0, .box 83 [.s (.str []), .s (.int .i64 0), .s (.nf), .s (.str [114, 111, 119]), .s (.int .i64 0), .s (.fn 74), .s (.str [115, 121, 109]), .s (.int .i64 0), .s (.fn 75), .s (.str [110, 117, 109]), .s (.int .i64 0), .s (.fn 76), .s (.str [116, 101, 120, 116]), .s (.int .i64 0), .s (.fn 77), .s (.str [102, 114, 97, 99]), .s (.int .i64 2), .s (.fn 74), .s (.str [114, 111, 111, 116]), .s (.int .i64 2), .s (.fn 74), .s (.str [115, 117, 98]), .s (.int .i64 2), .s (.fn 74), .s (.str [115, 117, 112]), .s (.int .i64 2), .s (.fn 74), .s (.str [98, 111, 116, 104]), .s (.int .i64 3), .s (.fn 74), .s (.str [97, 99, 99, 101, 110, 116]), .s (.int .i64 1), .s (.fn 78), .s (.str [102, 101, 110, 99, 101]), .s (.int .i64 1), .s (.fn 79), .s (.str [109, 97, 116, 114, 105, 120]), .s (.int .i64 0), .s (.fn 74), .s (.int .i64 x5)])], 1⟩ ?_ (fun σ' hle => ?_)
  · replace h := hj
    refine tri_region (by exact tokW) (by exact gok) [] [20, 24] rfl ?_
    intro b hb
    cases b with
    | true =>
      replace h := bif_t hb.symm h
      intro b hb
      subst hb
      cases h
      exact (Le.rename [(0, 0)] _ _ _ ⟨rfl, rfl, rfl, rfl, trivial⟩ ⟨rfl, ⟨_, rfl, rfl⟩, trivial⟩ rfl rfl rfl rfl rfl)
    | false =>
      replace h := bif_f hb.symm h
      intro b hb
      cases b with
      | true =>
        replace h := bif_t hb.symm h
        cases h
        exact (Le.rename [(0, 0)] _ _ _ ⟨rfl, rfl, rfl, rfl, trivial⟩ ⟨rfl, ⟨_, rfl, rfl⟩, trivial⟩ rfl rfl rfl rfl rfl)
      | false =>
        replace h := bif_f hb.symm h
        obtain ⟨⟨y6, ⟨_, w7_nodes⟩⟩, hy6, h⟩ := bind_out h
        refine ⟨_, _, ⟨_, _, _, _, _, hy6, rfl, rfl, rfl, rfl⟩, ?_⟩
        cases h
        exact (Le.rename [(0, 0)] _ _ _ ⟨rfl, rfl, rfl, rfl, trivial⟩ ⟨rfl, ⟨_, rfl, rfl⟩, trivial⟩ rfl rfl rfl rfl rfl)
  · show Tri _ _ _ _
    refine tri_le hle ?_
    refine tri_cond rfl (fun hb => ?_) (fun hb => ?_)
    · replace h := bif_t hb h
      refine tri_seq ?_
      refine tri_region (by exact tokW) (by exact gok) [] [] rfl ?_
      show Tri _ _ _ _
      refine tri_ret ?_
      obtain ⟨hj1, hk1⟩ := Prod.mk.inj (Option.some.inj h)
      subst hj1
      subst hk1
      unfold GivesO
      exact ⟨_, (Le.rename [(0, 0)] [(6, .s (.bool false))] [(0, .box 83 [.s (.str []), .s (.int .i64 0), .s (.nf), .s (.str [114, 111, 119]), .s (.int .i64 0), .s (.fn 74), .s (.str [115, 121, 109]), .s (.int .i64 0), .s (.fn 75), .s (.str [110, 117, 109]), .s (.int .i64 0), .s (.fn 76), .s (.str [116, 101, 120, 116]), .s (.int .i64 0), .s (.fn 77), .s (.str [102, 114, 97, 99]), .s (.int .i64 2), .s (.fn 74), .s (.str [114, 111, 111, 116]), .s (.int .i64 2), .s (.fn 74), .s (.str [115, 117, 98]), .s (.int .i64 2), .s (.fn 74), .s (.str [115, 117, 112]), .s (.int .i64 2), .s (.fn 74), .s (.str [98, 111, 116, 104]), .s (.int .i64 3), .s (.fn 74), .s (.str [97, 99, 99, 101, 110, 116]), .s (.int .i64 1), .s (.fn 78), .s (.str [102, 101, 110, 99, 101]), .s (.int .i64 1), .s (.fn 79), .s (.str [109, 97, 116, 114, 105, 120]), .s (.int .i64 0), .s (.fn 74), .s (.int .i64 x5)])] 1 ⟨rfl, trivial⟩ ⟨rfl, ⟨_, rfl, rfl⟩, trivial⟩ rfl rfl rfl rfl rfl), rfl, rfl, rfl, rfl, trivial⟩
    · replace h := bif_f hb h
      refine tri_skip ?_
      show Tri _ _ _ _
      refine tri_seq ?_
      refine tri_seq ?_
      refine tri_region (by exact tokW) (by exact gok) [] [34] rfl ?_
      intro n8 hn8
      obtain rfl : (a2_kids.length : Int) = n8 := (hn8.trans (congrArg (fun m : Nat => (m : Int)) (rlen Nd.encs_eq a2_kids))).symm
      show Tri _ _ _ _
      obtain ⟨fl, hl, ho1⟩ := bind_out h
      refine tri_fl (fl := fl) (fun z => match z with | x11 => ⟨ofL [], ofH [(0, .box 83 [.s (.str []), .s (.int .i64 0), .s (.nf), .s (.str [114, 111, 119]), .s (.int .i64 0), .s (.fn 74), .s (.str [115, 121, 109]), .s (.int .i64 0), .s (.fn 75), .s (.str [110, 117, 109]), .s (.int .i64 0), .s (.fn 76), .s (.str [116, 101, 120, 116]), .s (.int .i64 0), .s (.fn 77), .s (.str [102, 114, 97, 99]), .s (.int .i64 2), .s (.fn 74), .s (.str [114, 111, 111, 116]), .s (.int .i64 2), .s (.fn 74), .s (.str [115, 117, 98]), .s (.int .i64 2), .s (.fn 74), .s (.str [115, 117, 112]), .s (.int .i64 2), .s (.fn 74), .s (.str [98, 111, 116, 104]), .s (.int .i64 3), .s (.fn 74), .s (.str [97, 99, 99, 101, 110, 116]), .s (.int .i64 1), .s (.fn 78), .s (.str [102, 101, 110, 99, 101]), .s (.int .i64 1), .s (.fn 79), .s (.str [109, 97, 116, 114, 105, 120]), .s (.int .i64 0), .s (.fn 74), .s (.int .i64 x11)])], 1⟩) ?_ (fun x11 σ' hz hle => ?_)
      · refine tri_block (tri_loopI (X := Nat × Int × Int) (fun y => match y with | (k, x9, x10) => ⟨ofL [(0, .op 0 0), (1, .s (.pt [.int .i64 a2_kind, .str a2_text, .int .i64 a2_cols, .sl 4 (Nd.encs a2_kids)])), (2, .s (.int .i64 a3)), (34, .s (.int .i64 (a2_kids.length : Int))), (35, .s (.int .i64 x10))], ofH [(0, .box 83 [.s (.str []), .s (.int .i64 0), .s (.nf), .s (.str [114, 111, 119]), .s (.int .i64 0), .s (.fn 74), .s (.str [115, 121, 109]), .s (.int .i64 0), .s (.fn 75), .s (.str [110, 117, 109]), .s (.int .i64 0), .s (.fn 76), .s (.str [116, 101, 120, 116]), .s (.int .i64 0), .s (.fn 77), .s (.str [102, 114, 97, 99]), .s (.int .i64 2), .s (.fn 74), .s (.str [114, 111, 111, 116]), .s (.int .i64 2), .s (.fn 74), .s (.str [115, 117, 98]), .s (.int .i64 2), .s (.fn 74), .s (.str [115, 117, 112]), .s (.int .i64 2), .s (.fn 74), .s (.str [98, 111, 116, 104]), .s (.int .i64 3), .s (.fn 74), .s (.str [97, 99, 99, 101, 110, 116]), .s (.int .i64 1), .s (.fn 78), .s (.str [102, 101, 110, 99, 101]), .s (.int .i64 1), .s (.fn 79), .s (.str [109, 97, 116, 114, 105, 120]), .s (.int .i64 0), .s (.fn 74), .s (.int .i64 x9)])], 1⟩) (fun y => m_node_checker_node_l1 (m_node_checker_node n) a2_kind a2_kids a3 y.1 y.2.1 y.2.2 = some fl) (fun y => y.1) (n, x5, 0) hl ?_ ?_)
        · exact (Le.rename [(0, 0)] _ _ _ ⟨rfl, rfl, rfl, rfl, rfl, trivial⟩ ⟨rfl, ⟨_, rfl, rfl⟩, trivial⟩ rfl rfl rfl rfl rfl)
        · rintro ⟨k, x9, x10⟩ h
          cases k with
          | zero => cases h
          | succ k =>
            replace h : m_node_checker_node_l1 (m_node_checker_node n) a2_kind a2_kids a3 (k+1) x9 x10 = some fl := h
            rw [m_node_checker_node_l1] at h
            refine tri_seq ?_
            refine tri_region (by exact tokW) (by exact gok) [] [] rfl ?_
            show Tri _ _ _ _
            refine tri_seq ?_
            refine tri_cond rfl (fun hb => ?_) (fun hb => ?_)
            · replace h := bif_t hb h
              refine tri_skip ?_
              show Tri _ _ _ _
              refine tri_seq ?_
              refine tri_block ?_
              refine tri_seq ?_
              refine tri_region (by exact tokW) (by exact gok) [] [] rfl ?_
              show Tri _ _ _ _
              refine tri_seq ?_
              obtain ⟨⟨x12, x13⟩, hj, h⟩ := bind_out h
              refine tri_post ⟨ofL [(0, .op 0 0), (1, .s (.pt [.int .i64 a2_kind, .str a2_text, .int .i64 a2_cols, .sl 4 (Nd.encs a2_kids)])), (2, .s (.int .i64 a3)), (34, .s (.int .i64 (a2_kids.length : Int))), (35, .s (.int .i64 x10)), (65, .s (.bool x12))], ofH [(0, .box 83 [.s (.str []), .s (.int .i64 0), .s (.nf), .s (.str [114, 111, 119]), .s (.int .i64 0), .s (.fn 74), .s (.str [115, 121, 109]), .s (.int .i64 0), .s (.fn 75), .s (.str [110, 117, 109]), .s (.int .i64 0), .s (.fn 76), .s (.str [116, 101, 120, 116]), .s (.int .i64 0), .s (.fn 77), .s (.str [102, 114, 97, 99]), .s (.int .i64 2), .s (.fn 74), .s (.str [114, 111, 111, 116]), .s (.int .i64 2), .s (.fn 74), .s (.str [115, 117, 98]), .s (.int .i64 2), .s (.fn 74), .s (.str [115, 117, 112]), .s (.int .i64 2), .s (.fn 74), .s (.str [98, 111, 116, 104]), .s (.int .i64 3), .s (.fn 74), .s (.str [97, 99, 99, 101, 110, 116]), .s (.int .i64 1), .s (.fn 78), .s (.str [102, 101, 110, 99, 101]), .s (.int .i64 1), .s (.fn 79), .s (.str [109, 97, 116, 114, 105, 120]), .s (.int .i64 0), .s (.fn 74), .s (.int .i64 x13)])], 1⟩ ?_ (fun σ' hle => ?_)
              · replace h := hj
                refine tri_drawn (by exact tokW) (by exact gok) (by exact mixed) [] [48, 53, 60] [25] rfl (by decide +kernel) ?_
                obtain ⟨⟨e14_kind, e14_text, e14_cols, e14_kids⟩, he14, h⟩ := bind_out h
                refine And.intro (at_ok Nd.encs_eq he14).1 ?_
                intro r15 hr15
                obtain rfl : [.int .i64 e14_kind, .str e14_text, .int .i64 e14_cols, .sl 4 (Nd.encs e14_kids)] = r15 := (hr15.trans (at_ok Nd.encs_eq he14).2.1).symm
                intro b hb
                cases b with
                | true =>
                  replace h := bif_t hb.symm h
                  cases h
                  exact (Le.rename [(0, 0)] _ _ _ ⟨rfl, rfl, rfl, rfl, rfl, rfl, trivial⟩ ⟨rfl, ⟨_, rfl, rfl⟩, trivial⟩ rfl rfl rfl rfl rfl)
                | false =>
                  replace h := bif_f hb.symm h
                  obtain ⟨⟨e16_kind, e16_text, e16_cols, e16_kids⟩, he16, h⟩ := bind_out h
                  refine And.intro (at_ok Nd.encs_eq he16).1 ?_
                  intro r17 hr17
                  obtain rfl : [.int .i64 e16_kind, .str e16_text, .int .i64 e16_cols, .sl 4 (Nd.encs e16_kids)] = r17 := (hr17.trans (at_ok Nd.encs_eq he16).2.1).symm
                  obtain ⟨⟨y18, ⟨_, w19_nodes⟩⟩, hy18, h⟩ := bind_out h
                  refine ⟨_, _, ⟨_, _, _, _, _, hy18, rfl, rfl, rfl, rfl⟩, ?_⟩
                  cases h
                  exact (Le.rename [(0, 0)] _ _ _ ⟨rfl, rfl, rfl, rfl, rfl, rfl, trivial⟩ ⟨rfl, ⟨_, rfl, rfl⟩, trivial⟩ rfl rfl rfl rfl rfl)
              · show Tri _ _ _ _
                refine tri_le hle ?_
                refine tri_cond rfl (fun hb => ?_) (fun hb => ?_)
                · replace h := bif_t hb h
                  refine tri_seq ?_
                  refine tri_region (by exact tokW) (by exact gok) [] [] rfl ?_
                  show Tri _ _ _ _
                  refine tri_ret ?_
                  cases h
                  replace h : some _ = some _ := ho1
                  obtain ⟨hj1, hk1⟩ := Prod.mk.inj (Option.some.inj h)
                  subst hj1
                  subst hk1
                  unfold GivesO
                  exact ⟨_, (Le.rename [(0, 0)] [(6, .s (.bool false))] [(0, .box 83 [.s (.str []), .s (.int .i64 0), .s (.nf), .s (.str [114, 111, 119]), .s (.int .i64 0), .s (.fn 74), .s (.str [115, 121, 109]), .s (.int .i64 0), .s (.fn 75), .s (.str [110, 117, 109]), .s (.int .i64 0), .s (.fn 76), .s (.str [116, 101, 120, 116]), .s (.int .i64 0), .s (.fn 77), .s (.str [102, 114, 97, 99]), .s (.int .i64 2), .s (.fn 74), .s (.str [114, 111, 111, 116]), .s (.int .i64 2), .s (.fn 74), .s (.str [115, 117, 98]), .s (.int .i64 2), .s (.fn 74), .s (.str [115, 117, 112]), .s (.int .i64 2), .s (.fn 74), .s (.str [98, 111, 116, 104]), .s (.int .i64 3), .s (.fn 74), .s (.str [97, 99, 99, 101, 110, 116]), .s (.int .i64 1), .s (.fn 78), .s (.str [102, 101, 110, 99, 101]), .s (.int .i64 1), .s (.fn 79), .s (.str [109, 97, 116, 114, 105, 120]), .s (.int .i64 0), .s (.fn 74), .s (.int .i64 x13)])] 1 ⟨rfl, trivial⟩ ⟨rfl, ⟨_, rfl, rfl⟩, trivial⟩ rfl rfl rfl rfl rfl), rfl, rfl, rfl, rfl, trivial⟩
                · replace h := bif_f hb h
                  refine tri_skip ?_
                  show Tri _ _ _ _
                  refine tri_region (by exact tokW) (by exact gok) [] [] rfl ?_
                  refine ⟨(k, x13, IntKind.i64.wrap (x10 + 1)), h, (Le.rename [(0, 0)] _ _ _ ⟨rfl, rfl, rfl, rfl, rfl, trivial⟩ ⟨rfl, ⟨_, rfl, rfl⟩, trivial⟩ rfl rfl rfl rfl rfl), Nat.lt_succ_self k⟩
            · replace h := bif_f hb h
              refine tri_exit ?_
              cases h
              exact ⟨_, rfl, (Le.rename [(0, 0)] _ _ _ trivial ⟨rfl, ⟨_, rfl, rfl⟩, trivial⟩ rfl rfl rfl rfl rfl)⟩
      · subst hz
        replace h := ho1
        show Tri _ _ _ _
        refine tri_le hle ?_
        refine tri_seq ?_
        refine tri_region (by exact tokW) (by exact gok) [] [] rfl ?_
        show Tri _ _ _ _
        refine tri_ret ?_
        obtain ⟨hj1, hk1⟩ := Prod.mk.inj (Option.some.inj h)
        subst hj1
        subst hk1
        unfold GivesO
        exact ⟨_, (Le.rename [(0, 0)] [(6, .s (.bool true))] [(0, .box 83 [.s (.str []), .s (.int .i64 0), .s (.nf), .s (.str [114, 111, 119]), .s (.int .i64 0), .s (.fn 74), .s (.str [115, 121, 109]), .s (.int .i64 0), .s (.fn 75), .s (.str [110, 117, 109]), .s (.int .i64 0), .s (.fn 76), .s (.str [116, 101, 120, 116]), .s (.int .i64 0), .s (.fn 77), .s (.str [102, 114, 97, 99]), .s (.int .i64 2), .s (.fn 74), .s (.str [114, 111, 111, 116]), .s (.int .i64 2), .s (.fn 74), .s (.str [115, 117, 98]), .s (.int .i64 2), .s (.fn 74), .s (.str [115, 117, 112]), .s (.int .i64 2), .s (.fn 74), .s (.str [98, 111, 116, 104]), .s (.int .i64 3), .s (.fn 74), .s (.str [97, 99, 99, 101, 110, 116]), .s (.int .i64 1), .s (.fn 78), .s (.str [102, 101, 110, 99, 101]), .s (.int .i64 1), .s (.fn 79), .s (.str [109, 97, 116, 114, 105, 120]), .s (.int .i64 0), .s (.fn 74), .s (.int .i64 x11)])] 1 ⟨rfl, trivial⟩ ⟨rfl, ⟨_, rfl, rfl⟩, trivial⟩ rfl rfl rfl rfl rfl), rfl, rfl, rfl, rfl, trivial⟩
theorem all_node_checker_node : ∀ n, PSound Try.prog 57 (ospec (R_node_checker_node n)) := by
  intro n
  induction n with
  | zero => exact osound_none Try.call57 (fun xs os x os' h => by obtain ⟨_, _, _, _, _, h, _⟩ := h; cases h) _
  | succ n ih => exact step_node_checker_node n ih
def S_node_checker_node : PSpec := ospec (fun xs os x os' => ∃ n, R_node_checker_node n xs os x os')
theorem ok_node_checker_node : PSound Try.prog 57 S_node_checker_node := osound_all all_node_checker_node _
def R_node_Valid (n : Nat) (xs : List AV) (r : Ret) : Prop := ∃ (a0 : Nd) (y0 : Bool), m_node_Valid n a0 = some y0 ∧ xs = [.agg ((Nd.enc a0).map .s)] ∧ r = .val (.s (.bool y0))
def S_node_Valid : PSpec := pspec fun xs r => ∃ n, R_node_Valid n xs r
set_option maxHeartbeats 2000000 in
set_option maxRecDepth 100000 in
theorem ok_node_Valid : PSound Try.prog 35 S_node_Valid := by
  have gok : ∀ f s, look? f [(56, S_node_kinds), (57, S_node_checker_node)] = some s → PSound Try.prog f s := look_all (by
    simp only [List.forall_mem_cons]
    exact ⟨ok_node_kinds, ok_node_checker_node, by simp⟩)
  refine psound tokW Try.call35 Try.func35 rfl (fun xs r h => by obtain ⟨n, _, _, _, rfl, _⟩ := h; show 1 ≤ 14; decide) 14 rfl ?_
  rintro xs r w0 G0 ⟨n, ⟨n1_kind, n1_text, n1_cols, n1_kids⟩, y0, h, rfl, rfl⟩ _
  rw [m_node_Valid] at h
  refine tri_seq ?_
  refine tri_region (by exact tokW) (by exact gok) [] [] rfl ?_
  show Tri _ _ _ _
  refine tri_seq ?_
  refine tri_region (by exact tokW) (by exact gok) [6] [] rfl ?_
  obtain ⟨_, hy2, h⟩ := bind_out h
  refine ⟨_, ⟨_, hy2, rfl, rfl⟩, ?_⟩
  show Tri _ _ _ _
  refine tri_seq ?_
  obtain ⟨x3, hj, h⟩ := bind_out h
  refine tri_post ⟨ofL [(2, .s (.bool x3))], fun _ => none, 0⟩ ?_ (fun σ' hle => ?_)
  · replace h := hj
    refine tri_region (by exact tokW) (by exact gok) [] [10] rfl ?_
    intro b hb
    cases b with
    | true =>
      replace h := bif_t hb.symm h
      obtain ⟨⟨y4, ⟨_, w5_nodes⟩⟩, hy4, h⟩ := bind_out h
      refine ⟨_, _, ⟨_, _, _, _, _, _, hy4, rfl, rfl, rfl, rfl⟩, ?_⟩
      cases h
      exact (Le.rename [] _ [] 0 ⟨rfl, trivial⟩ trivial rfl rfl rfl rfl rfl)
    | false =>
      replace h := bif_f hb.symm h
      cases h
      exact (Le.rename [] _ [] 0 ⟨rfl, trivial⟩ trivial rfl rfl rfl rfl rfl)
  · show Tri _ _ _ _
    refine tri_le hle ?_
    refine tri_ret ?_
    have hy := Option.some.inj h
    subst hy
    unfold Gives
    exact ⟨_, Le.refl _ _, rfl, rfl⟩
def R_node_ValidItems (n : Nat) (xs : List AV) (r : Ret) : Prop := ∃ (a0 : List Nd) (y0 : Bool), m_node_ValidItems n a0 = some y0 ∧ xs = [.s (.sl 4 (Nd.encs a0))] ∧ r = .val (.s (.bool y0))
def S_node_ValidItems : PSpec := pspec fun xs r => ∃ n, R_node_ValidItems n xs r
set_option maxHeartbeats 2000000 in
set_option maxRecDepth 100000 in
theorem ok_node_ValidItems : PSound Try.prog 45 S_node_ValidItems := by
  have gok : ∀ f s, look? f [(35, S_node_Valid)] = some s → PSound Try.prog f s := look_all (by
    simp only [List.forall_mem_cons]
    exact ⟨ok_node_Valid, by simp⟩)
  refine psound tokW Try.call45 Try.func45 rfl (fun xs r h => by obtain ⟨n, _, _, _, rfl, _⟩ := h; show 1 ≤ 6; decide) 6 rfl ?_
  rintro xs r w0 G0 ⟨n, l1, y0, h, rfl, rfl⟩ _
  rw [m_node_ValidItems] at h
  refine tri_seq ?_
  refine tri_region (by exact tokW) (by exact gok) [] [] rfl ?_
  show Tri _ _ _ _
  refine tri_seq ?_
  refine tri_region (by exact tokW) (by exact gok) [] [] rfl ?_
  obtain ⟨y2, hy2, h⟩ := bind_out h
  refine ⟨_, ⟨_, _, _, hy2, rfl, rfl⟩, ?_⟩
  show Tri _ _ _ _
  refine tri_ret ?_
  have hy := Option.some.inj h
  subst hy
  unfold Gives
  exact ⟨_, Le.refl _ _, rfl, rfl⟩
def R_node_Slots (xs : List AV) (r : Ret) : Prop := ∃ (a0 : Nd) (y0 : Int), m_node_Slots a0 = some y0 ∧ xs = [.agg ((Nd.enc a0).map .s)] ∧ r = .val (.s (.int .i64 y0))
def S_node_Slots : PSpec := pspec fun xs r => R_node_Slots xs r
set_option maxHeartbeats 2000000 in
set_option maxRecDepth 100000 in
theorem ok_node_Slots : PSound Try.prog 68 S_node_Slots := by
  have gok : ∀ (f : Nat) (s : PSpec), (fun _ => none : Nat → Option PSpec) f = some s → PSound Try.prog f s := fun _ _ h => by cases h
  refine psound tokW Try.call68 Try.func68 rfl (fun xs r h => by obtain ⟨_, _, _, rfl, _⟩ := h; show 1 ≤ 9; decide) 9 rfl ?_
  rintro xs r w0 G0 ⟨⟨n1_kind, n1_text, n1_cols, n1_kids⟩, y0, h, rfl, rfl⟩ _
  rw [m_node_Slots] at h
  refine tri_seq ?_
  refine tri_region (by exact tokW) (by exact gok) [] [] rfl ?_
  show Tri _ _ _ _
  refine tri_seq ?_
  refine tri_seq ?_
  refine tri_region (by exact tokW) (by exact gok) [] [] rfl ?_
  show Tri _ _ _ _
  refine tri_cond rfl (fun hb => ?_) (fun hb => ?_)
  · replace h := bif_t hb h
    refine tri_seq ?_
    refine tri_region (by exact tokW) (by exact gok) [] [] rfl ?_
    show Tri _ _ _ _
    refine tri_ret ?_
    have hy := Option.some.inj h
    subst hy
    unfold Gives
    exact ⟨_, Le.refl _ _, rfl, rfl⟩
  · replace h := bif_f hb h
    refine tri_skip ?_
    show Tri _ _ _ _
    refine tri_seq ?_
    refine tri_region (by exact tokW) (by exact gok) [] [8] rfl ?_
    intro n2 hn2
    obtain rfl : (n1_kids.length : Int) = n2 := (hn2.trans (congrArg (fun m : Nat => (m : Int)) (rlen Nd.encs_eq n1_kids))).symm
    show Tri _ _ _ _
    refine tri_ret ?_
    have hy := Option.some.inj h
    subst hy
    unfold Gives
    exact ⟨_, Le.refl _ _, rfl, rfl⟩
def R_node_Equal (n : Nat) (xs : List AV) (r : Ret) : Prop := ∃ (a0 : Nd) (a1 : Nd) (y0 : Bool), m_node_Equal n a0 a1 = some y0 ∧ xs = [.agg ((Nd.enc a0).map .s), .agg ((Nd.enc a1).map .s)] ∧ r = .val (.s (.bool y0))
def R_slices_EqualFunc_sNode (n : Nat) (xs : List AV) (r : Ret) : Prop := ∃ (a0 : List Nd) (a1 : List Nd) (y0 : Bool), m_slices_EqualFunc_sNode n a0 a1 = some y0 ∧ xs = [.s (.sl 4 (Nd.encs a0)), .s (.sl 4 (Nd.encs a1)), .s (.fn 83)] ∧ r = .val (.s (.bool y0))
set_option maxHeartbeats 2000000 in
set_option maxRecDepth 100000 in
theorem step_node_Equal (n : Nat) (ih_node_Equal : PSound Try.prog 83 (pspec (R_node_Equal n))) (ih_slices_EqualFunc_sNode : PSound Try.prog 82 (pspec (R_slices_EqualFunc_sNode n))) : PSound Try.prog 83 (pspec (R_node_Equal (n + 1))) := by
  have gok : ∀ f s, look? f [(82, pspec (R_slices_EqualFunc_sNode n))] = some s → PSound Try.prog f s := look_all (by
    simp only [List.forall_mem_cons]
    exact ⟨ih_slices_EqualFunc_sNode, by simp⟩)
  refine psound tokW Try.call83 Try.func83 rfl (fun xs r h => by obtain ⟨_, _, _, _, rfl, _⟩ := h; show 2 ≤ 31; decide) 31 rfl ?_
  rintro xs r w0 G0 ⟨⟨a1_kind, a1_text, a1_cols, a1_kids⟩, ⟨b2_kind, b2_text, b2_cols, b2_kids⟩, y0, h, rfl, rfl⟩ _
  rw [m_node_Equal] at h
  refine tri_seq ?_
  refine tri_region (by exact tokW) (by exact gok) [] [] rfl ?_
  show Tri _ _ _ _
  refine tri_seq ?_
  obtain ⟨x3, hj, h⟩ := bind_out h
  refine tri_post ⟨ofL [(4, .s (.bool x3))], fun _ => none, 0⟩ ?_ (fun σ' hle => ?_)
  · replace h := hj
    refine tri_region (by exact tokW) (by exact gok) [] [10, 17, 24] rfl ?_
    intro b hb
    cases b with
    | true =>
      replace h := bif_t hb.symm h
      intro b hb
      cases b with
      | true =>
        replace h := bif_t hb.symm h
        intro b hb
        cases b with
        | true =>
          replace h := bif_t hb.symm h
          obtain ⟨y4, hy4, h⟩ := bind_out h
          refine ⟨_, ⟨_, _, _, hy4, rfl, rfl⟩, ?_⟩
          cases h
          exact (Le.forget _ ⟨rfl, trivial⟩)
        | false =>
          replace h := bif_f hb.symm h
          cases h
          exact (Le.forget _ ⟨rfl, trivial⟩)
      | false =>
        replace h := bif_f hb.symm h
        intro b hb
        subst hb
        cases h
        exact (Le.forget _ ⟨rfl, trivial⟩)
    | false =>
      replace h := bif_f hb.symm h
      intro b hb
      subst hb
      intro b hb
      subst hb
      cases h
      exact (Le.forget _ ⟨rfl, trivial⟩)
  · show Tri _ _ _ _
    refine tri_le hle ?_
    refine tri_ret ?_
    have hy := Option.some.inj h
    subst hy
    unfold Gives
    exact ⟨_, Le.refl _ _, rfl, rfl⟩
set_option maxHeartbeats 2000000 in
set_option maxRecDepth 100000 in
theorem step_slices_EqualFunc_sNode (n : Nat) (ih_node_Equal : PSound Try.prog 83 (pspec (R_node_Equal n))) (ih_slices_EqualFunc_sNode : PSound Try.prog 82 (pspec (R_slices_EqualFunc_sNode n))) : PSound Try.prog 82 (pspec (R_slices_EqualFunc_sNode (n + 1))) := by
  have gok : ∀ f s, look? f [(83, pspec (R_node_Equal n))] = some s → PSound Try.prog f s := look_all (by
    simp only [List.forall_mem_cons]
    exact ⟨ih_node_Equal, by simp⟩)
  refine psound tokW Try.call82 Try.func82 rfl (fun xs r h => by obtain ⟨_, _, _, _, rfl, _⟩ := h; show 3 ≤ 32; decide) 32 rfl ?_
  rintro xs r w0 G0 ⟨s11, s22, y0, h, rfl, rfl⟩ _
  rw [m_slices_EqualFunc_sNode] at h
  refine tri_seq ?_
  refine tri_region (by exact tokW) (by exact gok) [] [] rfl ?_
  show Tri _ _ _ _
  refine tri_seq ?_
  refine tri_seq ?_
  refine tri_region (by exact tokW) (by exact gok) [] [11, 13] rfl ?_
  intro n3 hn3
  obtain rfl : (s11.length : Int) = n3 := (hn3.trans (congrArg (fun m : Nat => (m : Int)) (rlen Nd.encs_eq s11))).symm
  intro n4 hn4
  obtain rfl : (s22.length : Int) = n4 := (hn4.trans (congrArg (fun m : Nat => (m : Int)) (rlen Nd.encs_eq s22))).symm
  show Tri _ _ _ _
  refine tri_cond rfl (fun hb => ?_) (fun hb => ?_)
  · replace h := bif_t hb h
    refine tri_seq ?_
    refine tri_region (by exact tokW) (by exact gok) [] [] rfl ?_
    show Tri _ _ _ _
    refine tri_ret ?_
    have hy := Option.some.inj h
    subst hy
    unfold Gives
    exact ⟨_, Le.refl _ _, rfl, rfl⟩
  · replace h := bif_f hb h
    refine tri_skip ?_
    show Tri _ _ _ _
    refine tri_seq ?_
    refine tri_seq ?_
    refine tri_region (by exact tokW) (by exact gok) [] [16] rfl ?_
    intro n5 hn5
    obtain rfl : (s11.length : Int) = n5 := (hn5.trans (congrArg (fun m : Nat => (m : Int)) (rlen Nd.encs_eq s11))).symm
    show Tri _ _ _ _
    obtain ⟨fl, hl, ho1⟩ := bind_out h
    refine tri_fl (fl := fl) (fun z => match z with | _ => ⟨ofL [], fun _ => none, 0⟩) ?_ (fun z σ' hz hle => ?_)
    · refine tri_block (tri_loopI (X := Nat × Int) (fun y => match y with | (k, x6) => ⟨ofL [(1, .s (.sl 4 (Nd.encs s22))), (2, .s (.fn 83)), (15, .s (.sl 4 (Nd.encs s11))), (16, .s (.int .i64 (s11.length : Int))), (17, .s (.int .i64 x6))], fun _ => none, 0⟩) (fun y => m_slices_EqualFunc_sNode_l1 (m_node_Equal n) s11 s22 y.1 y.2 = some fl) (fun y => y.1) (n, 0) hl ?_ ?_)
      · exact (Le.forget _ ⟨rfl, rfl, rfl, rfl, rfl, trivial⟩)
      · rintro ⟨k, x6⟩ h
        cases k with
        | zero => cases h
        | succ k =>
          replace h : m_slices_EqualFunc_sNode_l1 (m_node_Equal n) s11 s22 (k+1) x6 = some fl := h
          rw [m_slices_EqualFunc_sNode_l1] at h
          refine tri_seq ?_
          refine tri_region (by exact tokW) (by exact gok) [] [] rfl ?_
          show Tri _ _ _ _
          refine tri_seq ?_
          refine tri_cond rfl (fun hb => ?_) (fun hb => ?_)
          · replace h := bif_t hb h
            refine tri_skip ?_
            show Tri _ _ _ _
            refine tri_seq ?_
            refine tri_block ?_
            refine tri_seq ?_
            refine tri_region (by exact tokW) (by exact gok) [8] [20] rfl ?_
            obtain ⟨⟨e7_kind, e7_text, e7_cols, e7_kids⟩, he7, h⟩ := bind_out h
            refine And.intro (at_ok Nd.encs_eq he7).1 ?_
            intro r8 hr8
            obtain rfl : [.int .i64 e7_kind, .str e7_text, .int .i64 e7_cols, .sl 4 (Nd.encs e7_kids)] = r8 := (hr8.trans (at_ok Nd.encs_eq he7).2.1).symm
            show Tri _ _ _ _
            refine tri_le (Le.giveBox 0 [.int .i64 e7_kind, .str e7_text, .int .i64 e7_cols, .sl 4 (Nd.encs e7_kids)] rfl rfl) ?_
            refine tri_seq ?_
            refine tri_region (by exact tokW) (by exact gok) [9] [24] rfl ?_
            obtain ⟨⟨e9_kind, e9_text, e9_cols, e9_kids⟩, he9, h⟩ := bind_out h
            refine And.intro (at_ok Nd.encs_eq he9).1 ?_
            intro r10 hr10
            obtain rfl : [.int .i64 e9_kind, .str e9_text, .int .i64 e9_cols, .sl 4 (Nd.encs e9_kids)] = r10 := (hr10.trans (at_ok Nd.encs_eq he9).2.1).symm
            show Tri _ _ _ _
            refine tri_le (Le.giveBox 1 [.int .i64 e9_kind, .str e9_text, .int .i64 e9_cols, .sl 4 (Nd.encs e9_kids)] rfl rfl) ?_
            refine tri_seq ?_
            refine tri_region (by exact tokW) (by exact gok) [] [] rfl ?_
            obtain ⟨y11, hy11, h⟩ := bind_out h
            refine ⟨_, ⟨_, _, _, hy11, rfl, rfl⟩, ?_⟩
            show Tri _ _ _ _
            refine tri_cond rfl (fun hb => ?_) (fun hb => ?_)
            · replace h := bif_t hb h
              refine tri_seq ?_
              refine tri_region (by exact tokW) (by exact gok) [] [] rfl ?_
              show Tri _ _ _ _
              refine tri_ret ?_
              cases h
              replace h : some _ = some _ := ho1
              have hy := Option.some.inj h
              subst hy
              unfold Gives
              exact ⟨_, Le.refl _ _, rfl, rfl⟩
            · replace h := bif_f hb h
              refine tri_skip ?_
              show Tri _ _ _ _
              refine tri_region (by exact tokW) (by exact gok) [] [] rfl ?_
              refine ⟨(k, IntKind.i64.wrap (x6 + 1)), h, (Le.rename [] _ [] 0 ⟨rfl, rfl, rfl, rfl, rfl, trivial⟩ trivial rfl rfl rfl rfl rfl), Nat.lt_succ_self k⟩
          · replace h := bif_f hb h
            refine tri_exit ?_
            cases h
            exact ⟨_, rfl, (Le.forget _ trivial)⟩
    · subst hz
      obtain _ := z
      replace h := ho1
      show Tri _ _ _ _
      refine tri_le hle ?_
      refine tri_seq ?_
      refine tri_region (by exact tokW) (by exact gok) [] [] rfl ?_
      show Tri _ _ _ _
      refine tri_ret ?_
      have hy := Option.some.inj h
      subst hy
      unfold Gives
      exact ⟨_, Le.refl _ _, rfl, rfl⟩
theorem alls_node_Equal : ∀ n, PSound Try.prog 83 (pspec (R_node_Equal n)) ∧ PSound Try.prog 82 (pspec (R_slices_EqualFunc_sNode n)) := by
  intro n
  induction n with
  | zero =>
    refine ⟨?_, ?_⟩
    · exact psound_none Try.call83 (fun xs r h => by obtain ⟨_, _, _, h, _⟩ := h; rw [m_node_Equal] at h; cases h)
    · exact psound_none Try.call82 (fun xs r h => by obtain ⟨_, _, _, h, _⟩ := h; rw [m_slices_EqualFunc_sNode] at h; cases h)
  | succ n ih =>
    obtain ⟨ih_node_Equal, ih_slices_EqualFunc_sNode⟩ := ih
    exact ⟨step_node_Equal n ih_node_Equal ih_slices_EqualFunc_sNode, step_slices_EqualFunc_sNode n ih_node_Equal ih_slices_EqualFunc_sNode⟩
def S_node_Equal : PSpec := pspec fun xs r => ∃ n, R_node_Equal n xs r
theorem ok_node_Equal : PSound Try.prog 83 S_node_Equal := psound_all (fun n => (alls_node_Equal n).1)
def S_slices_EqualFunc_sNode : PSpec := pspec fun xs r => ∃ n, R_slices_EqualFunc_sNode n xs r
theorem ok_slices_EqualFunc_sNode : PSound Try.prog 82 S_slices_EqualFunc_sNode := psound_all (fun n => (alls_node_Equal n).2)
end Go.Proofs.Ytfbggpmdmhgpfaa
namespace Go.Proofs.Ytfbggpmdmhgpfaa
open Go.Abs
def R_node_Row (n : Nat) (xs : List AV) (r : Ret) : Prop := ∃ (a0 : Nd) (a1 : List Int) (y0 : Nd) (y1 : Int), m_node_Row n a0 a1 = some (y0, y1) ∧ xs = [.agg ((Nd.enc a0).map .s), .s (.sl 1 (a1.map (irow .i64)))] ∧ r = .val (.tup [.agg ((Nd.enc y0).map .s), .s (.int .i64 y1)])
def S_node_Row : PSpec := pspec fun xs r => ∃ n, R_node_Row n xs r
set_option maxHeartbeats 2000000 in
set_option maxRecDepth 100000 in
theorem ok_node_Row : PSound Try.prog 36 S_node_Row := by
  have gok : ∀ f s, look? f [(35, S_node_Valid), (58, S_node_find), (49, S_deep_Node)] = some s → PSound Try.prog f s := look_all (by
    simp only [List.forall_mem_cons]
    exact ⟨ok_node_Valid, ok_node_find, ok_deep_Node, by simp⟩)
  refine psound tokW Try.call36 Try.func36 rfl (fun xs r h => by obtain ⟨n, _, _, _, _, _, rfl, _⟩ := h; show 2 ≤ _; decide) _ rfl ?_
  rintro xs r w0 G0 ⟨f, ⟨k, t, c, ks⟩, p, y0, y1, h, rfl, rfl⟩ _
  rw [m_node_Row] at h
  obtain ⟨b, hb, h⟩ := bind_out h
  refine tri_seq ?_
  refine tri_region (by exact tokW) (by exact gok) [4] [] rfl ?_
  show Tri _ _ _ _
  refine tri_seq ?_
  refine tri_seq ?_
  refine tri_region (by exact tokW) (by exact gok) [] [] rfl ?_
  refine ⟨_, ⟨f, _, _, hb, rfl, rfl⟩, ?_⟩
  show Tri _ _ _ _
  cases b with
  | false =>
    refine tri_cond rfl (fun _ => ?_) (fun h => by cases h)
    refine tri_seq ?_
    refine tri_region (by exact tokW) (by exact gok) [] [] rfl ?_
    show Tri _ _ _ _
    refine tri_ret ?_
    obtain ⟨rfl, rfl⟩ := Prod.mk.inj (Option.some.inj h)
    unfold Gives
    exact ⟨_, Le.refl _ _, rfl, rfl⟩
  | true =>
    refine tri_cond rfl (fun h => by cases h) (fun _ => ?_)
    refine tri_skip ?_
    show Tri _ _ _ _
    replace h : (match findL (.mk k t c ks) p with | some r => (m_deep_Node r).bind fun r => some (r, 0) | none => some (zeroNd, 8)) = some (y0, y1) := h
    refine tri_seq ?_
    refine tri_region (by exact tokW) (by exact gok) [] [] rfl ?_
    cases hf : findL (.mk k t c ks) p with
    | none =>
      rw [hf] at h
      refine ⟨.val (.tup [.junk, .s (.bool false)]), ⟨.mk k t c ks, p, rfl, by rw [hf]; rfl⟩, ?_⟩
      show Tri _ _ _ _
      refine tri_seq ?_
      refine tri_seq ?_
      refine tri_region (by exact tokW) (by exact gok) [] [] rfl ?_
      show Tri _ _ _ _
      refine tri_cond rfl (fun _ => ?_) (fun h => by cases h)
      refine tri_seq ?_
      refine tri_region (by exact tokW) (by exact gok) [] [] rfl ?_
      show Tri _ _ _ _
      refine tri_ret ?_
      obtain ⟨rfl, rfl⟩ := Prod.mk.inj (Option.some.inj h)
      unfold Gives
      exact ⟨_, Le.refl _ _, rfl, rfl⟩
    | some z =>
      obtain ⟨k2, t2, c2, ks2⟩ := z
      rw [hf] at h
      refine ⟨.val (.tup [.s (.pt (Nd.enc (.mk k2 t2 c2 ks2))), .s (.bool true)]), ⟨.mk k t c ks, p, rfl, by rw [hf]; rfl⟩, ?_⟩
      show Tri _ _ _ _
      refine tri_seq ?_
      refine tri_seq ?_
      refine tri_region (by exact tokW) (by exact gok) [] [] rfl ?_
      show Tri _ _ _ _
      refine tri_cond rfl (fun h => by cases h) (fun _ => ?_)
      refine tri_skip ?_
      show Tri _ _ _ _
      obtain ⟨⟨k3, t3, c3, ks3⟩, hd, h⟩ := bind_out h
      obtain ⟨rfl, rfl⟩ := Prod.mk.inj (Option.some.inj h)
      refine tri_seq ?_
      refine tri_region (by exact tokW) (by exact gok) [] [] rfl ?_
      refine ⟨_, ⟨_, _, hd, rfl, rfl⟩, ?_⟩
      show Tri _ _ _ _
      refine tri_ret ?_
      unfold Gives
      exact ⟨_, Le.refl _ _, rfl, rfl⟩
end Go.Proofs.Ytfbggpmdmhgpfaa
namespace Go.Proofs.Ytfbggpmdmhgpfaa
open Go.Abs
theorem s1_lenV {T : Nat → Option TI} {own : Bool} {o : Oper} {σ : St} {e t e0 : Nat} {args : Array Operand} {ts : Array Nat} {y : Operand} {v : AV} {ks : List Nd} {keys : List Nat} (hv : VAt σ.hp e v ks keys) (ho : o.op = .call { callee := .builtin .len, args := args, argTypes := ts }) (ha : args.toList = [y]) (hts : ts.toList = [t]) (ht : tk T t = .slice e0)
    (hy : opd T σ.env t y = v) : step1 T own o σ = some (none, .s (.int .i64 (ks.length : Int)), σ) := by
  rcases hv with ⟨rfl, rfl, _⟩ | ⟨q, rows, keys', w, rfl, hq, hlen, _, _⟩
  · have e1 : pstep T own o σ.env = some (none, .s (.int .i64 0)) := by simp only [pstep, ho, ha, hts, pLen, ht, hy]; rfl
    simp only [step1, e1]; rfl
  · rw [s1_lenA ho ha hts ht hy hq, hlen]
theorem putL_step {k c : Int} {tx : List UInt8} {ks : List Nd} {k2 c2 : Int} {tx2 : List UInt8} {ks2 : List Nd} {z r : Nd} {i s : Int} {p : List Int} (hx : ks[i.toNat]? = some (.mk k2 tx2 c2 ks2)) (hz : ks2[s.toNat]? = some z) :
    putL (.mk k tx c ks) (i :: s :: p) r = .mk k tx c (ks.set i.toNat (.mk k2 tx2 c2 (ks2.set s.toNat (putL z p r)))) := by
  rw [putL, hx]
  simp only [hz]
theorem Hole.here {hp : Nat → Option Ob} {e : Nat} {p p1 : AV} {y : Nd} {keys : List Nat} {F : Nd → Nd} (hn : (baseK p :: keys).Nodup) (h : Hole hp e p keys p1 y F) : ∃ keys0 w0, At hp e p1 y keys0 [] w0 ∧ isL 4 p1 ∧ (baseK p1 :: keys0).Nodup := by
  obtain ⟨keys0, rest, w0, a1, a2, a3, a4, _⟩ := h
  obtain ⟨hb, hnk⟩ := List.nodup_cons.1 hn
  obtain ⟨n0, n1, n01⟩ := List.nodup_append.1 (a1.nodup_iff.1 hnk)
  refine ⟨keys0, w0, a2, a3, List.nodup_cons.2 ⟨fun hm => ?_, n0⟩⟩
  rcases a4 with rfl | a4
  · exact hb (a1.mem_iff.2 (List.mem_append_left _ hm))
  · exact n01 _ hm _ a4 rfl
theorem Hole.step {hp : Nat → Option Ob} {e q i : Nat} {p p1 : AV} {k c : Int} {tx : List UInt8} {ks : List Nd} {x : Nd} {keys : List Nat} {F : Nd → Nd} (hn : (baseK p :: keys).Nodup) (h : Hole hp e p keys p1 (.mk k tx c ks) F) (hx : ks[i]? = some x) (hc : cellsAt hp p1 = some (ncells k tx c (.orow q))) :
    Hole hp e p keys (.rp q 4 i 0) x (fun r => F (.mk k tx c (ks.set i r))) :=
  Hole.trans hn h fun keys0 w0 ha hl hn0 => by
    obtain ⟨b, rows, h1, _, _, h4⟩ := Hole.kid ha hl hn0 hx
    rw [hc] at h1
    have : q = b := by simpa [ncells] using h1
    rw [this]; exact h4
theorem putL_nil {t r : Nd} : putL t [] r = r := by cases t; rfl
def RH_node_find (xs : List AV) (hp : Nat → Option Ob) (n : Nat) (Φ : AV → (Nat → Option Ob) → Nat → Prop) : Prop :=
  ∃ (p : AV) (t : Nd) (path : List Int) (keys : List Nat) (w : Nat), xs = [p, .s (.sl 1 (path.map (irow .i64)))] ∧ isL 4 p ∧ At hp 24 p t keys [] w ∧ (baseK p :: keys).Nodup ∧
    (findL t path = none → Φ (.tup [.junk, .s (.bool false)]) hp n) ∧ ∀ p1 y F, findL t path = some y → Hole hp 24 p keys p1 y F → (∀ r, putL t path r = F r) → Φ (.tup [p1, .s (.bool true)]) hp n
def H_node_find : PSpec := hspec RH_node_find
set_option maxHeartbeats 600000 in
set_option maxRecDepth 100000 in
theorem hok_node_find : PSound Try.prog 58 H_node_find := by
  have gok : ∀ (f : Nat) (s : PSpec), (fun _ => none : Nat → Option PSpec) f = some s → PSound Try.prog f s := fun _ _ h => by cases h
  refine hsound tokW Try.call58 Try.func58 rfl (fun xs hp n Φ h => by obtain ⟨_, _, _, _, _, rfl, _⟩ := h; show 2 ≤ _; decide) _ rfl ?_
  rintro xs hp n Φ w0 G0 B0 ⟨p0, t0, path0, keys, w, rfl, hl0, hat, hnd, hΦ1, hΦ2⟩ _ hhp
  refine tri_seq ?_
  refine tri_region (by exact tokW) (by exact gok) [] [] rfl ?_
  show Tri _ _ _ _
  refine tri_seq ?_
  refine tri_block (tri_loopI (X := AV × Nd × List Int × (Nd → Nd)) (fun x => match x with | (p, y, q, F) => ⟨ofL [(0, p), (1, .s (.sl 1 (q.map (irow .i64)))), (4, .s .np), (5, .s (.bool false))], hp, n⟩)
    (fun x => match x with | (p, y, q, F) => findL t0 path0 = findL y q ∧ Hole hp 24 p0 keys p y F ∧ ∀ r, putL t0 path0 r = F (putL y q r)) (fun x => match x with | (p, y, q, F) => q.length) (p0, t0, path0, id) ⟨rfl, Hole.refl hat hl0, fun _ => rfl⟩ (Le.forget [(0, p0), (1, .s (.sl 1 (path0.map (irow .i64)))), (4, .s .np), (5, .s (.bool false))] ⟨rfl, rfl, rfl, rfl, trivial⟩) ?_)
  rintro ⟨p, ⟨k, t, c, ks⟩, q, F⟩ hI
  have hI : findL t0 path0 = findL (.mk k t c ks) q ∧ Hole hp 24 p0 keys p (.mk k t c ks) F ∧ ∀ r, putL t0 path0 r = F (putL (.mk k t c ks) q r) := hI
  obtain ⟨hI1, hI2, hI3⟩ := hI
  have hlp : isL 4 p := by obtain ⟨_, _, _, _, _, h, _⟩ := hI2; exact h
  refine tri_seq ?_
  refine tri_seq ?_
  refine tri_region (by exact tokW) (by exact gok) [] [] rfl ?_
  show Tri _ _ _ _
  refine tri_cond rfl (fun hb => ?_) (fun hb => ?_)
  · refine tri_skip ?_
    show Tri _ _ _ _
    match q, hI1, hI3, hb with
    | [], _, _, hb => cases hb
    | [_], _, _, hb => cases hb
    | i :: s :: q, hI1, hI3, hb =>
      refine tri_le (Le.forgetH [(0, p), (1, .s (.sl 1 ((i :: s :: q).map (irow .i64)))), (4, .s .np), (5, .s (.bool false))] hp n ⟨rfl, rfl, rfl, rfl, trivial⟩ (fun _ => rfl) rfl) ?_
      refine tri_seq ?_
      refine tri_block ?_
      refine tri_seq ?_
      refine tri_drawn (by exact tokW) (by exact gok) (by exact mixed) [] [] [1, 2, 4, 5] rfl (by decide +kernel) ?_
      refine And.intro (show (0 : Int) ≤ 0 ∧ (0 : Int) < ((((i :: s :: q).map (irow .i64)).length : Nat) : Int) by simp only [List.map_cons, List.length_cons]; omega) ?_
      refine And.intro (show (0 : Int) ≤ 1 ∧ (1 : Int) < ((((i :: s :: q).map (irow .i64)).length : Nat) : Int) by simp only [List.map_cons, List.length_cons]; omega) ?_
      show Tri _ _ _ _
      refine tri_le (Le.forgetH [(0, p), (1, .s (.sl 1 ((i :: s :: q).map (irow .i64)))), (4, .s .np), (5, .s (.bool false)), (6, .s (.int .i64 i)), (7, .s (.int .i64 s))] hp n ⟨rfl, rfl, rfl, rfl, rfl, rfl, trivial⟩ (fun _ => rfl) rfl) ?_
      refine tri_seq ?_
      refine tri_seq ?_
      by_cases hi : i < 0
      · refine tri_region (by exact tokW) (by exact gok) [] [21] rfl ?_
        intro b hb
        obtain rfl : true = b := (hb.trans (decide_eq_true hi)).symm
        show Tri _ _ _ _
        refine tri_cond rfl (fun _ => ?_) (fun h => by cases h)
        refine tri_seq ?_
        refine tri_region (by exact tokW) (by exact gok) [] [] rfl ?_
        show Tri _ _ _ _
        refine tri_ret ?_
        unfold GivesH
        exact ⟨_, Le.forget [(5, .s (.bool false))] ⟨rfl, trivial⟩, _, rfl, hΦ1 (hI1.trans (findL_none1 (fun h => by omega)))⟩
      obtain ⟨keys1, w1, hat1, _, hnd1⟩ := hI2.here hnd
      obtain ⟨v, hcv, hv⟩ := hat1.full
      refine tri_region (by exact tokW) (by exact gok) [] [] rfl ?_
      refine evOps_step rfl rfl rfl rfl rfl rfl trivial ?_
      refine evOps_step rfl rfl rfl rfl rfl rfl trivial ?_
      rw [show decide (i < 0) = false from decide_eq_false hi]
      refine evOps_step rfl rfl rfl rfl rfl rfl trivial ?_
      refine evOps_go (g := 22) rfl rfl rfl ?_
      refine evOps_step rfl rfl rfl rfl rfl rfl trivial ?_
      refine evOps_go (g := 22) rfl rfl rfl ?_
      refine evOps_step rfl rfl rfl rfl rfl (s1_asgL hlp (.inr rfl) rfl rfl) trivial ?_
      refine evOps_go (g := 22) rfl rfl rfl ?_
      refine evOps_step rfl rfl rfl rfl rfl (s1_nilL hlp rfl rfl) trivial ?_
      refine evOps_go (g := 22) rfl rfl rfl ?_
      refine evOps_step rfl rfl rfl rfl rfl (s1_fldL hlp rfl rfl rfl rfl rfl rfl rfl) trivial ?_
      refine evOps_go (g := 22) rfl rfl rfl ?_
      refine evOps_ldL (off := 3) (sz := 4) rfl rfl rfl rfl rfl rfl rfl hlp rfl hcv rfl ?_
      refine evOps_go (g := 22) rfl rfl rfl ?_
      refine evOps_step rfl rfl rfl rfl rfl (s1_lenV hv rfl rfl rfl rfl rfl) trivial ?_
      refine evOps_go (g := 22) rfl rfl rfl ?_
      refine evOps_step rfl rfl rfl rfl rfl rfl trivial ?_
      by_cases hi2 : (ks.length : Int) ≤ i
      · rw [show decide ((ks.length : Int) ≤ i) = true from decide_eq_true hi2]
        refine evOps_step rfl rfl rfl rfl rfl rfl trivial ?_
        show Tri _ _ _ _
        refine tri_cond rfl (fun _ => ?_) (fun h => by cases h)
        refine tri_seq ?_
        refine tri_region (by exact tokW) (by exact gok) [] [] rfl ?_
        show Tri _ _ _ _
        refine tri_ret ?_
        unfold GivesH
        exact ⟨_, Le.forget [(5, .s (.bool false))] ⟨rfl, trivial⟩, _, rfl, hΦ1 (hI1.trans (findL_none1 (n := .mk k t c ks) (fun h => by have : i < (ks.length : Int) := h.2; omega)))⟩
      rw [show decide ((ks.length : Int) ≤ i) = false from decide_eq_false hi2]
      refine evOps_step rfl rfl rfl rfl rfl rfl trivial ?_
      show Tri _ _ _ _
      refine tri_cond rfl (fun h => by cases h) (fun _ => ?_)
      refine tri_skip ?_
      show Tri _ _ _ _
      have hi0 : i.toNat < ks.length := by omega
      obtain ⟨⟨k2, t2, c2, ks2⟩, hx⟩ : ∃ x, ks[i.toNat]? = some x := ⟨_, List.getElem?_eq_getElem hi0⟩
      obtain ⟨b1, rows1, hc1, hr1, hlen1, hole1⟩ := Hole.kid hat1 hlp hnd1 hx
      refine tri_le (Le.forgetH [(0, p), (1, .s (.sl 1 ((i :: s :: q).map (irow .i64)))), (4, .s .np), (5, .s (.bool false)), (6, .s (.int .i64 i)), (7, .s (.int .i64 s))] hp n ⟨rfl, rfl, rfl, rfl, rfl, rfl, trivial⟩ (fun _ => rfl) rfl) ?_
      refine tri_seq ?_
      refine tri_region (by exact tokW) (by exact gok) [] [] rfl ?_
      refine evOps_step rfl rfl rfl rfl rfl (s1_asgL hlp (.inr rfl) rfl rfl) trivial ?_
      refine evOps_step rfl rfl rfl rfl rfl (s1_nilL hlp rfl rfl) trivial ?_
      refine evOps_step rfl rfl rfl rfl rfl (s1_fldL hlp rfl rfl rfl rfl rfl rfl rfl) trivial ?_
      refine evOps_ldL (off := 3) (sz := 4) rfl rfl rfl rfl rfl rfl rfl hlp rfl hc1 rfl ?_
      refine evOps_step rfl rfl rfl rfl rfl rfl trivial ?_
      refine evOps_step rfl rfl rfl rfl rfl (s1_idxA rfl rfl rfl rfl rfl rfl hr1 rfl) ⟨by omega, by rw [hlen1]; omega⟩ ?_
      refine evOps_step rfl rfl rfl rfl rfl rfl trivial ?_
      show Tri _ _ _ _
      refine tri_le (Le.forgetH [(0, p), (1, .s (.sl 1 ((i :: s :: q).map (irow .i64)))), (4, .s .np), (5, .s (.bool false)), (6, .s (.int .i64 i)), (7, .s (.int .i64 s)), (8, .rp b1 4 i.toNat 0)] hp n ⟨rfl, rfl, rfl, rfl, rfl, rfl, rfl, trivial⟩ (fun _ => rfl) rfl) ?_
      refine tri_seq ?_
      refine tri_seq ?_
      by_cases hs : s < 0
      · refine tri_region (by exact tokW) (by exact gok) [] [38] rfl ?_
        intro b hb
        obtain rfl : true = b := (hb.trans (decide_eq_true hs)).symm
        show Tri _ _ _ _
        refine tri_cond rfl (fun _ => ?_) (fun h => by cases h)
        refine tri_seq ?_
        refine tri_region (by exact tokW) (by exact gok) [] [] rfl ?_
        show Tri _ _ _ _
        refine tri_ret ?_
        unfold GivesH
        exact ⟨_, Le.forget [(5, .s (.bool false))] ⟨rfl, trivial⟩, _, rfl, hΦ1 (hI1.trans (findL_none2 (n := .mk k t c ks) (by omega) hx (fun h => by omega)))⟩
      have hl2 : isL 4 (.rp b1 4 i.toNat 0) := .inl ⟨b1, i.toNat, rfl⟩
      have hI4 := Hole.step hnd hI2 hx hc1
      obtain ⟨keys2, w2, hat2, _, hnd2⟩ := hI4.here hnd
      obtain ⟨v2, hcv2, hv2⟩ := hat2.full
      refine tri_region (by exact tokW) (by exact gok) [] [] rfl ?_
      refine evOps_step rfl rfl rfl rfl rfl rfl trivial ?_
      refine evOps_step rfl rfl rfl rfl rfl rfl trivial ?_
      rw [show decide (s < 0) = false from decide_eq_false hs]
      refine evOps_step rfl rfl rfl rfl rfl rfl trivial ?_
      refine evOps_go (g := 39) rfl rfl rfl ?_
      refine evOps_step rfl rfl rfl rfl rfl rfl trivial ?_
      refine evOps_go (g := 39) rfl rfl rfl ?_
      refine evOps_step rfl rfl rfl rfl rfl (s1_asgL hl2 (.inr rfl) rfl rfl) trivial ?_
      refine evOps_go (g := 39) rfl rfl rfl ?_
      refine evOps_step rfl rfl rfl rfl rfl (s1_nilL hl2 rfl rfl) trivial ?_
      refine evOps_go (g := 39) rfl rfl rfl ?_
      refine evOps_step rfl rfl rfl rfl rfl (s1_fldL hl2 rfl rfl rfl rfl rfl rfl rfl) trivial ?_
      refine evOps_go (g := 39) rfl rfl rfl ?_
      refine evOps_ldL (off := 3) (sz := 4) rfl rfl rfl rfl rfl rfl rfl hl2 rfl hcv2 rfl ?_
      refine evOps_go (g := 39) rfl rfl rfl ?_
      refine evOps_step rfl rfl rfl rfl rfl (s1_lenV hv2 rfl rfl rfl rfl rfl) trivial ?_
      refine evOps_go (g := 39) rfl rfl rfl ?_
      refine evOps_step rfl rfl rfl rfl rfl rfl trivial ?_
      by_cases hs2 : (ks2.length : Int) ≤ s
      · rw [show decide ((ks2.length : Int) ≤ s) = true from decide_eq_true hs2]
        refine evOps_step rfl rfl rfl rfl rfl rfl trivial ?_
        show Tri _ _ _ _
        refine tri_cond rfl (fun _ => ?_) (fun h => by cases h)
        refine tri_seq ?_
        refine tri_region (by exact tokW) (by exact gok) [] [] rfl ?_
        show Tri _ _ _ _
        refine tri_ret ?_
        unfold GivesH
        exact ⟨_, Le.forget [(5, .s (.bool false))] ⟨rfl, trivial⟩, _, rfl, hΦ1 (hI1.trans (findL_none2 (n := .mk k t c ks) (by omega) hx (fun h => by have : s < (ks2.length : Int) := h.2; omega)))⟩
      rw [show decide ((ks2.length : Int) ≤ s) = false from decide_eq_false hs2]
      refine evOps_step rfl rfl rfl rfl rfl rfl trivial ?_
      show Tri _ _ _ _
      refine tri_cond rfl (fun h => by cases h) (fun _ => ?_)
      refine tri_skip ?_
      show Tri _ _ _ _
      have hs0 : s.toNat < ks2.length := by omega
      obtain ⟨z, hz⟩ : ∃ z, ks2[s.toNat]? = some z := ⟨_, List.getElem?_eq_getElem hs0⟩
      obtain ⟨b2, rows2, hc2, hr2, hlen2, hole2⟩ := Hole.kid hat2 hl2 hnd2 hz
      refine tri_le (Le.forgetH [(0, p), (1, .s (.sl 1 ((i :: s :: q).map (irow .i64)))), (4, .s .np), (5, .s (.bool false)), (6, .s (.int .i64 i)), (7, .s (.int .i64 s)), (8, .rp b1 4 i.toNat 0)] hp n ⟨rfl, rfl, rfl, rfl, rfl, rfl, rfl, trivial⟩ (fun _ => rfl) rfl) ?_
      refine tri_region (by exact tokW) (by exact gok) [] [] rfl ?_
      refine evOps_step rfl rfl rfl rfl rfl (s1_asgL hl2 (.inr rfl) rfl rfl) trivial ?_
      refine evOps_step rfl rfl rfl rfl rfl (s1_nilL hl2 rfl rfl) trivial ?_
      refine evOps_step rfl rfl rfl rfl rfl (s1_fldL hl2 rfl rfl rfl rfl rfl rfl rfl) trivial ?_
      refine evOps_ldL (off := 3) (sz := 4) rfl rfl rfl rfl rfl rfl rfl hl2 rfl hc2 rfl ?_
      refine evOps_step rfl rfl rfl rfl rfl rfl trivial ?_
      refine evOps_step rfl rfl rfl rfl rfl (s1_idxA rfl rfl rfl rfl rfl rfl hr2 rfl) ⟨by omega, by rw [hlen2]; omega⟩ ?_
      refine evOps_step rfl rfl rfl rfl rfl rfl trivial ?_
      show Tri _ _ _ _
      refine tri_le (Le.forgetH [(0, .rp b2 4 s.toNat 0), (1, .s (.sl 1 ((i :: s :: q).map (irow .i64)))), (4, .s .np), (5, .s (.bool false))] hp n ⟨rfl, rfl, rfl, rfl, trivial⟩ (fun _ => rfl) rfl) ?_
      refine tri_region (by exact tokW) (by exact gok) [] [] rfl ?_
      have h2l : (2 : Int) ≤ ((((i :: s :: q).map (irow .i64)).length : Nat) : Int) := by simp only [List.map_cons, List.length_cons]; omega
      refine evOps_step rfl rfl rfl rfl rfl rfl trivial ?_
      refine evOps_step rfl rfl rfl rfl rfl rfl ⟨by decide, h2l, Int.le_refl _⟩ ?_
      refine evOps_step rfl rfl rfl rfl rfl rfl trivial ?_
      have hI5 := Hole.step hnd hI4 hz hc2
      refine ⟨(.rp b2 4 s.toNat 0, z, q, fun r => F (.mk k t c (ks.set i.toNat (.mk k2 t2 c2 (ks2.set s.toNat r))))), ⟨?_, hI5, ?_⟩, Le.forgetH [(0, .rp b2 4 s.toNat 0), (1, .s (.sl 1 (q.map (irow .i64)))), (4, .s .np), (5, .s (.bool false))] hp n ⟨rfl, congrArg (fun z => AV.s (.sl 1 z)) ?_, rfl, rfl, trivial⟩ (fun _ => rfl) rfl, ?_⟩
      · exact hI1.trans (findL_step (n := .mk k t c ks) (by omega) hx (by omega) hz)
      · intro r
        exact (hI3 r).trans (congrArg F (putL_step hx hz))
      · show List.drop 2 (List.take ((((i :: s :: q).map (irow .i64)).length : Nat) : Int).toNat ((i :: s :: q).map (irow .i64))) = _
        rw [Int.toNat_natCast, List.take_length]; rfl
      · show q.length < q.length + 1 + 1
        omega
  · refine tri_exit ?_
    show Tri _ _ _ _
    refine tri_le (Le.forgetH [(0, p), (1, .s (.sl 1 (q.map (irow .i64)))), (4, .s .np), (5, .s (.bool false))] hp n ⟨rfl, rfl, rfl, rfl, trivial⟩ (fun _ => rfl) rfl) ?_
    refine tri_seq ?_
    refine tri_region (by exact tokW) (by exact gok) [] [] rfl ?_
    refine evOps_step rfl rfl rfl rfl rfl (s1_asgL hlp (.inr rfl) rfl rfl) trivial ?_
    match q, hI1, hI3, hb with
    | [], hI1, hI3, _ =>
      refine evOps_step rfl rfl rfl rfl rfl rfl trivial ?_
      refine evOps_step rfl rfl rfl rfl rfl rfl trivial ?_
      refine evOps_step rfl rfl rfl rfl rfl rfl trivial ?_
      refine evOps_step rfl rfl rfl rfl rfl (s1_asgL hlp (.inl rfl) rfl rfl) trivial ?_
      refine evOps_step rfl rfl rfl rfl rfl rfl trivial ?_
      show Tri _ _ _ _
      refine tri_ret ?_
      have hd : AV.deep p = p := by rcases hlp with ⟨_, _, rfl⟩ | ⟨_, rfl⟩ <;> rfl
      unfold GivesH
      refine ⟨_, Le.forget [(4, p), (5, .s (.bool true))] ⟨rfl, rfl, trivial⟩, .tup [p, .s (.bool true)], ?_, hΦ2 p (.mk k t c ks) F (hI1.trans rfl) hI2 fun r => (hI3 r).trans (by rw [putL_nil])⟩
      show some (AV.tup [AV.deep p, .s (.bool true)]) = _
      rw [hd]
    | [i], hI1, _, _ =>
      refine evOps_step rfl rfl rfl rfl rfl rfl trivial ?_
      refine evOps_step rfl rfl rfl rfl rfl rfl trivial ?_
      refine evOps_step rfl rfl rfl rfl rfl rfl trivial ?_
      refine evOps_step rfl rfl rfl rfl rfl (s1_asgL hlp (.inl rfl) rfl rfl) trivial ?_
      refine evOps_step rfl rfl rfl rfl rfl rfl trivial ?_
      show Tri _ _ _ _
      refine tri_ret ?_
      unfold GivesH
      exact ⟨_, Le.forget [(5, .s (.bool false))] ⟨rfl, trivial⟩, _, rfl, hΦ1 (hI1.trans rfl)⟩
    | i :: s :: p, _, _, hb => exact absurd (of_decide_eq_false hb) (by simp only [List.map_cons, List.length_cons]; omega)
end Go.Proofs.Ytfbggpmdmhgpfaa
namespace Go.Proofs.Ytfbggpmdmhgpfaa
open Go.Abs
theorem resOf_box2 {T : Nat → Option TI} {σ : St} {t ty q bt u : Nat} {i : TI} {cells : List AV} (h1 : σ.env t = .op q 0) (h2 : σ.hp q = some (.box bt cells)) (h3 : T ty = some i) (ha : i.k.agg = true) (hz : i.size = cells.length) : resOf T σ [.cell t ty, .tmp u] = some (.tup [AV.deep (.agg cells), (σ.env u).deep]) := by
  have hb : Nat.ble i.size cells.length = true := by rw [hz]; exact Nat.ble_eq_true_of_le (Nat.le_refl _)
  simp only [resOf, resAll, resAV, h1, h2, h3, ha, hb]
  rw [hz, List.take_length]
theorem Hole.base {hp : Nat → Option Ob} {e : Nat} {p p1 : AV} {y : Nd} {keys : List Nat} {F : Nd → Nd} (h : Hole hp e p keys p1 y F) : baseK p1 = baseK p ∨ baseK p1 ∈ keys := by
  obtain ⟨keys0, rest, w0, a1, a2, a3, a4, _⟩ := h
  rcases a4 with rfl | a4
  · exact .inl rfl
  · exact .inr (a1.mem_iff.2 (List.mem_append_right _ a4))
theorem At.ofV {hp : Nat → Option Ob} {e : Nat} {p v : AV} {k c : Int} {t : List UInt8} {ks : List Nd} {keys : List Nat} (hc : cellsAt hp p = some (ncells k t c v)) (h : VAt hp e v ks keys) : ∃ w, At hp e p (.mk k t c ks) keys [] w := by
  rcases h with ⟨rfl, rfl, rfl⟩ | ⟨q, rows, keys', w, rfl, h1, h2, rfl, h3⟩
  · exact ⟨0, by simp only [At]; exact ⟨_, hc, .inr (.inl (by simp))⟩⟩
  · exact ⟨w, by simp only [At]; exact ⟨_, hc, .inr (.inr ⟨q, rows, keys', rfl, h1, h2, rfl, h3⟩)⟩⟩
def R_node_With (n : Nat) (xs : List AV) (r : Ret) : Prop := ∃ (a0 : Nd) (a1 : List Int) (a2 : Nd) (y0 : Nd) (y1 : Int), m_node_With n a0 a1 a2 = some (y0, y1) ∧ xs = [.agg ((Nd.enc a0).map .s), .s (.sl 1 (a1.map (irow .i64))), .agg ((Nd.enc a2).map .s)] ∧ r = .val (.tup [.agg ((Nd.enc y0).map .s), .s (.int .i64 y1)])
def S_node_With : PSpec := pspec fun xs r => ∃ n, R_node_With n xs r
set_option maxHeartbeats 600000 in
set_option maxRecDepth 100000 in
theorem ok_node_With : PSound Try.prog 38 S_node_With := by
  have gok : ∀ f s, look? f [(35, S_node_Valid), (58, H_node_find), (49, H_deep_Node)] = some s → PSound Try.prog f s := look_all (by
    simp only [List.forall_mem_cons]
    exact ⟨ok_node_Valid, hok_node_find, hok_deep_Node, by simp⟩)
  refine psound tokW Try.call38 Try.func38 rfl (fun xs r h => by obtain ⟨n, _, _, _, _, _, _, rfl, _⟩ := h; show 3 ≤ _; decide) _ rfl ?_
  rintro xs r w0 G0 ⟨f, ⟨k, t, c, ks⟩, path, ⟨rk, rt, rc, rks⟩, y0, y1, h, rfl, rfl⟩ _
  rw [m_node_With] at h
  obtain ⟨b, hb, h⟩ := bind_out h
  refine tri_seq ?_
  refine tri_region (by exact tokW) (by exact gok) [6] [] rfl ?_
  show Tri _ _ _ _
  refine tri_seq ?_
  refine tri_seq ?_
  refine tri_region (by exact tokW) (by exact gok) [] [] rfl ?_
  refine ⟨_, ⟨f, _, _, hb, rfl, rfl⟩, ?_⟩
  show Tri _ _ _ _
  cases b with
  | false =>
    refine tri_cond rfl (fun _ => ?_) (fun h => by cases h)
    refine tri_seq ?_
    refine tri_region (by exact tokW) (by exact gok) [] [] rfl ?_
    show Tri _ _ _ _
    refine tri_ret ?_
    obtain ⟨rfl, rfl⟩ := Prod.mk.inj (Option.some.inj h)
    unfold Gives
    exact ⟨_, Le.refl _ _, rfl, rfl⟩
  | true =>
    refine tri_cond rfl (fun h => by cases h) (fun _ => ?_)
    refine tri_skip ?_
    show Tri _ _ _ _
    rw [if_pos rfl] at h
    obtain ⟨n1, hn1, h⟩ := bind_out h
    obtain ⟨hcnt, hn1⟩ := req_out hn1
    obtain rfl := Option.some.inj hn1
    refine tri_seq ?_
    refine tri_region (by exact tokW) (by exact gok) [8] [] rfl ?_
    refine ⟨_, ⟨k, c, t, ks, hcnt, rfl, fun v hp' n' keys h1 h2 h3 h4 h5 => ?_⟩, fun _ _ _ h => h⟩
    have hv1 : v.one = true ∧ ∀ m, n' < m → v.lt m = true := by
      rcases h3 with ⟨_, rfl, _⟩ | ⟨q, _, _, _, rfl, _, _, hk, _⟩
      · exact ⟨rfl, fun _ _ => rfl⟩
      · exact ⟨rfl, fun m hm => decide_eq_true (Nat.lt_trans (h5 q (by rw [hk]; exact List.mem_cons_self)).2 hm)⟩
    refine lay_in (d := 16) ?_
    refine evOps_step rfl rfl rfl rfl rfl rfl trivial ?_
    refine evOps_stW (sz := 4) (cs := [.s (.int .i64 0), .s (.str []), .s (.int .i64 0), .nl 4]) (cs' := ncells k t c v) (p := .op n' 0) rfl rfl rfl rfl rfl (.inr ⟨n', rfl⟩) rfl (cellsAt_op (bt := 24) (by show (bif Nat.beq n' n' then _ else hp' n') = _; rw [Nat.beq_refl]; rfl)) rfl rfl rfl (by simp only [ncells, List.all_cons, List.all_nil, hv1.1]; rfl) (by have h0 : v.lt (n' + 1) = true := hv1.2 _ (Nat.lt_succ_self _); show AV.ltAll (n' + 1) (ncells k t c v) = true; simp only [ncells, AV.ltAll, h0]; rfl) ?_
    show Tri _ _ _ _
    refine tri_gen [(1, .s (.sl 1 (path.map (irow .i64)))), (5, .s (.pt (Nd.enc (.mk rk rt rc rks)))), (6, .op 0 0), (8, .op n' 0)] (n' + 1) ⟨rfl, rfl, rfl, rfl, trivial⟩ rfl fun H hH => ?_
    have g1 : H n' = some (.box 24 (ncells k t c v)) := (hH n').trans (by
      show putC (fun m => bif Nat.beq m n' then some (Ob.box 24 [.s (.int .i64 0), .s (.str []), .s (.int .i64 0), .nl 4]) else hp' m) (.op n' 0) (ncells k t c v) n' = _
      rw [putC_op (bt := 24) (cs := [.s (.int .i64 0), .s (.str []), .s (.int .i64 0), .nl 4]) (by simp only [Nat.beq_refl, cond_true])]
      simp only [Nat.beq_refl, cond_true])
    have g2 : ∀ m, m < n' → H m = hp' m := fun m hm => (hH m).trans (by
      show putC (fun m => bif Nat.beq m n' then some (Ob.box 24 [.s (.int .i64 0), .s (.str []), .s (.int .i64 0), .nl 4]) else hp' m) (.op n' 0) (ncells k t c v) m = _
      rw [putC_other (show m ≠ n' by omega), beq_ne (show m ≠ n' by omega)]; rfl)
    clear hH
    have g0 : H 0 = some (.box 24 [.s (.int .i64 0), .s (.str []), .s (.int .i64 0), .nl 4]) := (g2 0 h1).trans (h2 0 (Nat.lt_succ_self 0))
    obtain ⟨w, hat⟩ := At.ofV (cellsAt_op g1) (h3.frame fun m hm => g2 m (h5 m hm).2)
    have hnd : (baseK (.op n' 0) :: keys).Nodup := List.nodup_cons.2 ⟨fun hm => Nat.lt_irrefl _ (h5 n' hm).2, h4⟩
    refine tri_seq ?_
    refine tri_region (by exact tokW) (by exact gok) [] [] rfl ?_
    refine ⟨_, ⟨.op n' 0, .mk k t c ks, path, keys, w, rfl, .inr ⟨n', rfl⟩, hat, hnd, fun hf => ?_, fun p1 y F hf hole hF => ?_⟩, fun _ _ _ h => h⟩
    · rw [hf] at h
      show Tri _ _ _ _
      refine tri_seq ?_
      refine tri_seq ?_
      refine tri_region (by exact tokW) (by exact gok) [] [] rfl ?_
      show Tri _ _ _ _
      refine tri_cond rfl (fun _ => ?_) (fun h => by cases h)
      obtain ⟨rfl, rfl⟩ := Prod.mk.inj (Option.some.inj h)
      refine tri_le (Le.forgetH [(6, .op 0 0)] H (n' + 1) ⟨rfl, trivial⟩ (fun _ => rfl) rfl) ?_
      refine tri_seq ?_
      refine tri_region (by exact tokW) (by exact gok) [] [] rfl ?_
      refine evOps_step rfl rfl rfl rfl rfl rfl trivial ?_
      refine evOps_stW (sz := 4) (cs := [.s (.int .i64 0), .s (.str []), .s (.int .i64 0), .nl 4]) (cs' := [.s (.int .i64 0), .s (.str []), .s (.int .i64 0), .nl 4]) (p := .op 0 0) rfl rfl rfl rfl rfl (.inr ⟨0, rfl⟩) rfl (cellsAt_op (bt := 24) g0) rfl rfl rfl rfl rfl ?_
      refine evOps_step rfl rfl rfl rfl rfl rfl trivial ?_
      show Tri _ _ _ _
      refine tri_ret ?_
      unfold Gives
      refine ⟨_, Le.refl _ _, (resOf_box2 (bt := 24) (cells := [.s (.int .i64 0), .s (.str []), .s (.int .i64 0), .nl 4]) rfl ?_ rfl rfl rfl).trans rfl, rfl⟩
      show putC H (.op 0 0) _ 0 = _
      rw [putC_op (bt := 24) (cs := [.s (.int .i64 0), .s (.str []), .s (.int .i64 0), .nl 4]) g0]; rfl
    · rw [hf] at h
      obtain ⟨keys1, w1, hat1, hl1, hnd1⟩ := hole.here hnd
      refine lay_in (d := 19) ?_
      refine evOps_step rfl rfl rfl rfl rfl rfl trivial ?_
      refine evOps_step rfl rfl rfl rfl rfl rfl trivial ?_
      refine evOps_step rfl rfl rfl rfl rfl rfl trivial ?_
      refine evOps_step rfl rfl rfl rfl rfl (s1_asgL hl1 (.inl rfl) rfl rfl) trivial ?_
      refine evOps_step rfl rfl rfl rfl rfl rfl trivial ?_
      show Tri _ _ _ _
      refine tri_le (Le.forgetH [(5, .s (.pt (Nd.enc (.mk rk rt rc rks)))), (6, .op 0 0), (8, .op n' 0), (9, p1), (10, .s (.bool true))] H (n' + 1) ⟨rfl, rfl, rfl, rfl, rfl, trivial⟩ (fun _ => rfl) rfl) ?_
      refine tri_seq ?_
      refine tri_seq ?_
      refine tri_region (by exact tokW) (by exact gok) [] [] rfl ?_
      show Tri _ _ _ _
      refine tri_cond rfl (fun h => by cases h) (fun _ => ?_)
      refine tri_skip ?_
      show Tri _ _ _ _
      obtain ⟨b2, hb2, h⟩ := bind_out h
      refine tri_seq ?_
      refine tri_seq ?_
      refine tri_region (by exact tokW) (by exact gok) [] [] rfl ?_
      refine ⟨_, ⟨f, _, _, hb2, rfl, rfl⟩, ?_⟩
      show Tri _ _ _ _
      cases b2 with
      | false =>
        refine tri_cond rfl (fun _ => ?_) (fun h => by cases h)
        obtain ⟨rfl, rfl⟩ := Prod.mk.inj (Option.some.inj h)
        refine tri_le (Le.forgetH [(6, .op 0 0)] H (n' + 1) ⟨rfl, trivial⟩ (fun _ => rfl) rfl) ?_
        refine tri_seq ?_
        refine tri_region (by exact tokW) (by exact gok) [] [] rfl ?_
        refine evOps_step rfl rfl rfl rfl rfl rfl trivial ?_
        refine evOps_stW (sz := 4) (cs := [.s (.int .i64 0), .s (.str []), .s (.int .i64 0), .nl 4]) (cs' := [.s (.int .i64 0), .s (.str []), .s (.int .i64 0), .nl 4]) (p := .op 0 0) rfl rfl rfl rfl rfl (.inr ⟨0, rfl⟩) rfl (cellsAt_op (bt := 24) g0) rfl rfl rfl rfl rfl ?_
        refine evOps_step rfl rfl rfl rfl rfl rfl trivial ?_
        show Tri _ _ _ _
        refine tri_ret ?_
        unfold Gives
        refine ⟨_, Le.refl _ _, (resOf_box2 (bt := 24) (cells := [.s (.int .i64 0), .s (.str []), .s (.int .i64 0), .nl 4]) rfl ?_ rfl rfl rfl).trans rfl, rfl⟩
        show putC H (.op 0 0) _ 0 = _
        rw [putC_op (bt := 24) (cs := [.s (.int .i64 0), .s (.str []), .s (.int .i64 0), .nl 4]) g0]; rfl
      | true =>
        refine tri_cond rfl (fun h => by cases h) (fun _ => ?_)
        refine tri_skip ?_
        show Tri _ _ _ _
        rw [if_pos rfl] at h
        obtain ⟨n2, hn2, h⟩ := bind_out h
        obtain ⟨hcnt2, hn2⟩ := req_out hn2
        obtain rfl := Option.some.inj hn2
        refine tri_le (Le.forgetH [(5, .s (.pt (Nd.enc (.mk rk rt rc rks)))), (6, .op 0 0), (8, .op n' 0), (9, p1)] H (n' + 1) ⟨rfl, rfl, rfl, rfl, trivial⟩ (fun _ => rfl) rfl) ?_
        refine tri_seq ?_
        refine tri_region (by exact tokW) (by exact gok) [] [] rfl ?_
        refine evOps_step rfl rfl rfl rfl rfl (s1_asgL hl1 (.inr rfl) rfl rfl) trivial ?_
        refine evOps_step rfl rfl rfl rfl rfl rfl trivial ?_
        refine ⟨_, ⟨rk, rc, rt, rks, hcnt2, rfl, fun v2 hp2 n2 keys2 q1 q2 q3 q4 q5 => ?_⟩, fun _ _ _ h => h⟩
        refine lay_in (d := 31) ?_
        refine evOps_step rfl rfl rfl rfl rfl (s1_nilL hl1 rfl rfl) trivial ?_
        have hb1 : baseK p1 < n' + 1 := by
          rcases hole.base with h | h
          · have : baseK p1 = n' := h
            omega
          · have := (h5 _ h).2; omega
        obtain ⟨yk, yt, yc, yks⟩ := y
        obtain ⟨vy, hcy, _⟩ := hat1.full
        have hcy2 : cellsAt hp2 p1 = some (ncells yk yt yc vy) := (cellsAt_eq hl1 (q2 _ hb1)).trans hcy
        have hv2 : v2.one = true ∧ v2.lt n2 = true := by
          rcases q3 with ⟨_, rfl, _⟩ | ⟨q, _, _, _, rfl, _, _, hk, _⟩
          · exact ⟨rfl, rfl⟩
          · exact ⟨rfl, decide_eq_true (q5 q (by rw [hk]; exact List.mem_cons_self)).2⟩
        refine evOps_stW (sz := 4) (cs' := ncells rk rt rc v2) rfl rfl rfl rfl rfl hl1 rfl hcy2 rfl rfl rfl (by simp only [ncells, List.all_cons, List.all_nil, hv2.1]; rfl) (by show AV.ltAll n2 (ncells rk rt rc v2) = true; simp only [ncells, AV.ltAll, hv2.2]; rfl) ?_
        show Tri _ _ _ _
        refine tri_gen [(6, .op 0 0), (8, .op n' 0)] n2 ⟨rfl, rfl, trivial⟩ rfl fun H2 hH2 => ?_
        have hH2 : ∀ m, H2 m = putC hp2 p1 (ncells rk rt rc v2) m := hH2
        have hcp : cellsAt H2 p1 = some (ncells rk rt rc v2) := (cellsAt_eq hl1 (hH2 _)).trans (cellsAt_put hl1 hcy2)
        have hb2k : ∀ m ∈ keys2, H2 m = hp2 m := fun m hm => (hH2 m).trans (putC_other (by have hm1 : n' + 1 ≤ m := (q5 m hm).1; omega))
        obtain ⟨w3, hat3⟩ := At.ofV hcp (q3.frame hb2k)
        obtain ⟨keys0, rest, w0', a1, a2, a3, a4, a5⟩ := hole
        have hrest : ∀ m, m = n' ∨ m ∈ rest → m < n' + 1 := fun m hm => by
          rcases hm with rfl | hm
          · omega
          · have := (h5 m (a1.mem_iff.2 (List.mem_append_right _ hm))).2; omega
        obtain ⟨keys3, w4, hperm, hfin⟩ := a5 H2 (.mk rk rt rc rks) keys2 w3 (Sim.put (c := ncells rk rt rc v2) hl1 hcy fun m hm => (hH2 m).trans (putC_congr hl1 (q2 m (hrest m hm)) (q2 _ hb1))) hat3
        have hput : F (.mk rk rt rc rks) = putL (.mk k t c ks) path (.mk rk rt rc rks) := (hF _).symm
        rw [hput] at hfin
        have hn0 : ∀ m, m = n' ∨ m ∈ keys3 → m ≠ 0 := fun m hm => by
          have e1 : 1 ≤ n' := h1
          rcases hm with rfl | hm
          · omega
          · rcases List.mem_append.1 (hperm.mem_iff.1 hm) with hm | hm
            · have e2 : 1 ≤ m := (h5 m (a1.mem_iff.2 (List.mem_append_right _ hm))).1
              omega
            · have e2 : n' + 1 ≤ m := (q5 m hm).1
              omega
        have hatD : At (fun m => bif Nat.beq m 0 then none else H2 m) 24 (.op n' 0) (putL (.mk k t c ks) path (.mk rk rt rc rks)) keys3 [] w4 := hfin.frame (.inr ⟨n', rfl⟩) fun m hm => by rw [beq_ne (hn0 m hm)]; rfl
        obtain ⟨cs, hcs, hrd⟩ := hatD.rd
        rcases cellsAt_inv (sz := 4) (.inr ⟨n', rfl⟩) hcs with ⟨q, i, e, rows, h1, _⟩ | ⟨q, bt, h1, hbt⟩
        · cases h1
        cases h1
        refine tri_le (Le.givePart [(6, .op 0 0), (8, .s (.pt (Nd.enc (putL (.mk k t c ks) path (.mk rk rt rc rks)))))] (fun m => bif Nat.beq m 0 then none else H2 m) (fun m => bif Nat.beq m 0 then H2 m else none) (fun m ob hm => by
          cases e : Nat.beq m 0 with
          | true => rw [e] at hm; cases hm
          | false => rw [e] at hm; exact hm) (fun m ob hm => by
          cases e : Nat.beq m 0 with
          | true => rw [e] at hm; exact hm
          | false => rw [e] at hm; cases hm) (fun m ob ob' h1 h2 => by
          cases e : Nat.beq m 0 with
          | true => rw [e] at h1; cases h1
          | false => rw [e] at h2; cases h2) ⟨.inl rfl, .inr (Rd.box (off := 0) hbt hrd.1 hrd.2), trivial⟩) ?_
        have hb0 : 0 ≠ baseK p1 := by
          rcases a4 with rfl | a4
          · exact Ne.symm (hn0 n' (.inl rfl))
          · exact Ne.symm (hn0 _ (.inr (hperm.mem_iff.2 (List.mem_append_left _ a4))))
        have g3 : H2 0 = some (.box 24 [.s (.int .i64 0), .s (.str []), .s (.int .i64 0), .nl 4]) := (hH2 0).trans ((putC_other hb0).trans ((q2 0 (Nat.succ_pos n')).trans g0))
        clear hrd hcs hatD hfin hput
        generalize putL (.mk k t c ks) path (.mk rk rt rc rks) = T1 at *
        obtain ⟨k9, t9, c9, ks9⟩ := T1
        obtain ⟨b3, hb3, h⟩ := bind_out h
        refine tri_gen [(6, .op 0 0), (8, .s (.pt (Nd.enc (.mk k9 t9 c9 ks9))))] n2 ⟨rfl, rfl, trivial⟩ rfl fun H3 hH3 => ?_
        have g4 : H3 0 = some (.box 24 [.s (.int .i64 0), .s (.str []), .s (.int .i64 0), .nl 4]) := (hH3 0).trans g3
        refine tri_seq ?_
        refine tri_seq ?_
        refine tri_region (by exact tokW) (by exact gok) [] [] rfl ?_
        refine ⟨_, ⟨f, _, _, hb3, rfl, rfl⟩, ?_⟩
        show Tri _ _ _ _
        cases b3 with
        | false =>
          refine tri_cond rfl (fun _ => ?_) (fun h => by cases h)
          obtain ⟨rfl, rfl⟩ := Prod.mk.inj (Option.some.inj h)
          refine tri_le (Le.forgetH [(6, .op 0 0)] H3 n2 ⟨rfl, trivial⟩ (fun _ => rfl) rfl) ?_
          refine tri_seq ?_
          refine tri_region (by exact tokW) (by exact gok) [] [] rfl ?_
          refine evOps_step rfl rfl rfl rfl rfl rfl trivial ?_
          refine evOps_stW (sz := 4) (cs := [.s (.int .i64 0), .s (.str []), .s (.int .i64 0), .nl 4]) (cs' := [.s (.int .i64 0), .s (.str []), .s (.int .i64 0), .nl 4]) (p := .op 0 0) rfl rfl rfl rfl rfl (.inr ⟨0, rfl⟩) rfl (cellsAt_op (bt := 24) g4) rfl rfl rfl rfl rfl ?_
          refine evOps_step rfl rfl rfl rfl rfl rfl trivial ?_
          show Tri _ _ _ _
          refine tri_ret ?_
          unfold Gives
          refine ⟨_, Le.refl _ _, (resOf_box2 (bt := 24) (cells := [.s (.int .i64 0), .s (.str []), .s (.int .i64 0), .nl 4]) rfl ?_ rfl rfl rfl).trans rfl, rfl⟩
          show putC H3 (.op 0 0) _ 0 = _
          rw [putC_op (bt := 24) (cs := [.s (.int .i64 0), .s (.str []), .s (.int .i64 0), .nl 4]) g4]; rfl
        | true =>
          refine tri_cond rfl (fun h => by cases h) (fun _ => ?_)
          obtain ⟨rfl, rfl⟩ := Prod.mk.inj (Option.some.inj h)
          refine tri_skip ?_
          show Tri _ _ _ _
          refine tri_le (Le.forgetH [(6, .op 0 0), (8, .s (.pt (Nd.enc (.mk k9 t9 c9 ks9))))] H3 n2 ⟨rfl, rfl, trivial⟩ (fun _ => rfl) rfl) ?_
          refine tri_seq ?_
          refine tri_region (by exact tokW) (by exact gok) [] [] rfl ?_
          refine evOps_step rfl rfl rfl rfl rfl rfl trivial ?_
          refine evOps_stW (sz := 4) (cs := [.s (.int .i64 0), .s (.str []), .s (.int .i64 0), .nl 4]) (cs' := ncells k9 t9 c9 (.s (.sl 4 (Nd.encs ks9)))) (p := .op 0 0) rfl rfl rfl rfl rfl (.inr ⟨0, rfl⟩) rfl (cellsAt_op (bt := 24) g4) rfl rfl rfl rfl rfl ?_
          refine evOps_step rfl rfl rfl rfl rfl rfl trivial ?_
          show Tri _ _ _ _
          refine tri_ret ?_
          unfold Gives
          refine ⟨_, Le.refl _ _, (resOf_box2 (bt := 24) (cells := ncells k9 t9 c9 (.s (.sl 4 (Nd.encs ks9)))) rfl ?_ rfl rfl rfl).trans rfl, rfl⟩
          show putC H3 (.op 0 0) _ 0 = _
          rw [putC_op (bt := 24) (cs := [.s (.int .i64 0), .s (.str []), .s (.int .i64 0), .nl 4]) g4]; rfl
end Go.Proofs.Ytfbggpmdmhgpfaa
namespace Go.Abs
theorem PSound.giveTop {P : Program} {f e sz : Nat} {R : List AV → (Nat → Option Ob) → Nat → (AV → (Nat → Option Ob) → Nat → Prop) → Prop} {S : List AV → List S → List (List S) → Prop} (h : PSound P f (hspec R))
    (hS : ∀ xs cs rs, S xs cs rs → R xs (fun _ => none) 0 fun x hp n => ∃ q rows hpD, x = .agg (cs.map .s ++ [.orow q]) ∧ hp q = some (.arow e sz rows) ∧ rows.length = rs.length ∧ (∀ r ∈ rs, r.length = sz) ∧ (∀ k ob, hpD k = some ob → hp k = some ob ∧ k ≠ q) ∧
      ∀ (i : Nat) x s, rows.flatten[i]? = some x → rs.flatten[i]? = some s → Rd hpD x s) :
    PSound P f (ospec fun xs os x os' => ∃ cs rs, os = [] ∧ x = .agg (cs.map .s ++ [.orow 0]) ∧ os' = [some (.row e sz rs)] ∧ S xs cs rs) := by
  refine PSound.ofOwn h.1 fun G w β xs vs os x os' hlt hgl hv hxl hob ⟨cs, rs, ho, hx, ho', hs⟩ => ?_
  subst ho; subst hx; subst ho'
  refine (h.2.2.2 R rfl G w β xs vs (fun _ => none) 0 _ hlt hgl hv hxl ⟨fun k ob hk => (by cases hk), fun k ob hk => (by cases hk), fun k k' ob ob' hk => (by cases hk)⟩ (hS xs cs rs hs)).mono ?_
  rintro e' w' ⟨v, G', β', x, hp', n', rfl, ⟨q, rows, hpD, rfl, hq, hlen, hsz, hD, hrd⟩, hn, hfr, hsub, hnew, hlt', hx, hxl, hob, hst⟩
  let c : Cx := heapCx P w β (fun _ => none) 0 G 0
  have hk : Keep G G' w w' := ⟨hsub, fun b hb => hfr.old b (hlt b hb) (by rintro ⟨k, ob, h, _⟩; cases h)⟩
  have hc : Conc c G' β' ⟨fun _ => .junk, hpD, n'⟩ { tmps := #[], defers := [] } w' := {
    defers := rfl
    size := rfl
    env := fun t => by simp only [AVal]
    envlt := fun t => rfl
    hp := fun k ob hk => hob.obs k ob (hD k ob hk).1
    hplt := fun k ob hk => hob.lts k ob (hD k ob hk).1
    inj := fun k k' ob ob' hk hk' => hob.inj k k' ob ob' (hD k ob hk).1 (hD k' ob' hk').1
    lt := hlt'
    sub := hsub
    new := hnew
    fr := hfr
    stay := ⟨hn, hst⟩
    glob := hgl.keep hk }
  have hmine : ∀ b, c.mine b → w.heap.size ≤ b := fun b hb => by
    rcases hb with ⟨k, ob, h, _⟩ | h
    · cases h
    · exact h
  have hk' : Keep G' (allG G' β' hpD) w' w' := ⟨fun _ h => .inl h, fun _ _ => rfl⟩
  refine ⟨v, allG G' β' hpD, fun _ => β' q, rfl, ⟨hfr.os, hfr.tape, hfr.output, hfr.size, fun b hb _ => hfr.old b hb (by rintro ⟨k, ob, h, _⟩; cases h)⟩, fun b hb => .inl (hsub b hb), fun b hb => ?_, fun b hb => ?_, ?_, ?_, Nat.zero_le _, ⟨fun i ob hi => ?_, fun i j ob ob' hi hj hne => ?_⟩, fun i ob hi => absurd hi (Nat.not_lt_zero _)⟩
  · rcases hb with hb | ⟨k, ob, h1, h2⟩
    · exact (hnew b hb).imp id fun h => .inr (hmine b h)
    · exact .inr (.inr (hmine b (row_block (hc.hp k ob h1) b h2).2))
  · rcases hb with hb | ⟨k, ob, h1, h2⟩
    · exact hlt' b hb
    · exact hc.blk_lt h1 h2
  · simp only [AVal] at hx ⊢
    obtain ⟨us, rfl, hus⟩ := hx
    refine ⟨us, rfl, AVals.mk (by rw [hus.length]; simp) fun i y u hy hu => ?_⟩
    rw [List.getElem?_append] at hy
    by_cases hi : i < (cs.map AV.s).length
    · rw [if_pos hi] at hy
      obtain ⟨u', hu', hr⟩ := hus.get (i := i) (x := y) (by rw [List.getElem?_append, if_pos hi]; exact hy)
      rw [hu] at hu'; cases hu'
      rw [List.getElem?_map] at hy
      obtain ⟨s, _, rfl⟩ := Option.map_eq_some_iff.1 hy
      simp only [AVal] at hr ⊢
      exact hr.keep hk'
    · rw [if_neg hi] at hy
      have h0 : i - (cs.map AV.s).length = 0 := by have := (List.getElem?_eq_some_iff.1 hy).1; simpa using this
      rw [h0] at hy
      cases hy
      obtain ⟨u', hu', hr⟩ := hus.get (i := i) (x := .orow q) (by rw [List.getElem?_append, if_neg hi, h0]; rfl)
      rw [hu] at hu'; cases hu'
      simp only [AVal] at hr ⊢
      exact hr
  · simp only [AV.lt]
    refine ltAll_mk fun i y hy => ?_
    rw [List.getElem?_append] at hy
    split at hy
    · rw [List.getElem?_map] at hy
      obtain ⟨s, _, rfl⟩ := Option.map_eq_some_iff.1 hy
      rfl
    · rename_i hi
      have h0 : i - (cs.map AV.s).length = 0 := by have := (List.getElem?_eq_some_iff.1 hy).1; simpa using this
      rw [h0] at hy
      cases hy
      rfl
  · match i, hi with
    | 0, hi =>
      cases hi
      refine ⟨?_, rfl⟩
      obtain ⟨hl, hz, ho⟩ := hob.obs q _ hq
      refine ⟨hsz, hz, ?_⟩
      rcases ho with ⟨h1, rfl⟩ | ⟨b, cap, cur, h1, h2, h3, h4, h5, h6, h7⟩
      · exact .inl ⟨h1, List.length_eq_zero_iff.1 (by simpa using hlen.symm)⟩
      · refine .inr ⟨b, cap, cur, by rw [← hlen]; exact h1, by rw [← hlen]; exact h2, h3, h4, ?_, .inr (hmine b h6), fun i s hi => ?_⟩
        · rintro (hb | ⟨k, ob, g1, g2⟩)
          · exact h5 hb
          · exact hob.inj k q ob _ (hD k ob g1).1 hq (hD k ob g1).2 b g2 (by rw [h1]; rfl)
        · have hfl := length_flatten' hl
          have hfs := length_flatten' hsz
          have hil : i < rows.flatten.length := by rw [hfl, hlen, ← hfs]; exact (List.getElem?_eq_some_iff.1 hi).1
          obtain ⟨u, hu, hr', _⟩ := h7 i _ (List.getElem?_eq_getElem hil)
          exact ⟨u, hu, (hrd i _ s (List.getElem?_eq_getElem hil) hi).rep hc hr'⟩
    | i + 1, hi => simp at hi
  · match i, j, hi, hj with
    | 0, 0, _, _ => exact absurd rfl hne
    | 0, j + 1, _, hj => simp at hj
    | i + 1, _, hi, _ => simp at hi
end Go.Abs
namespace Go.Proofs.Ytfbggpmdmhgpfaa
open Go.Abs
theorem VAt.rd {hp : Nat → Option Ob} {e : Nat} {v : AV} {ks : List Nd} {keys : List Nat} (h : VAt hp e v ks keys) : Rd hp v (.sl 4 (Nd.encs ks)) := by
  rcases h with ⟨rfl, rfl, _⟩ | ⟨q, rows, keys', w, rfl, hq, hlen, rfl, h⟩
  · exact .s _
  · exact Rd.rows hq hlen fun j x hj => (by have := LAt.rd h j x hj; rwa [Nat.zero_add] at this)
def S_deep_own (xs : List AV) (cs : List S) (rs : List (List S)) : Prop := ∃ (a0 : Nd) (k c : Int) (t : List UInt8) (ks : List Nd), m_deep_Node_own a0 = some (.mk k t c ks) ∧ xs = [.agg ((Nd.enc a0).map .s)] ∧ cs = [.int .i64 k, .str t, .int .i64 c] ∧ rs = Nd.encs ks
theorem ok_deep_top : PSound Try.prog 49 (ospec fun xs os x os' => ∃ cs rs, os = [] ∧ x = .agg (cs.map .s ++ [.orow 0]) ∧ os' = [some (.row 24 4 rs)] ∧ S_deep_own xs cs rs) := by
  refine PSound.giveTop hok_deep_Node fun xs cs rs ⟨⟨k0, t0, c0, ks0⟩, k, c, t, ks, hm, hx, hcs, hrs⟩ => ?_
  subst hx; subst hcs; subst hrs
  obtain ⟨⟨hq, hne⟩, hm⟩ := req_out hm
  cases hm
  refine ⟨k0, c0, t0, ks0, hq, rfl, fun v hp' n' keys _ _ hv hnd _ => ?_⟩
  rcases hv with ⟨rfl, _⟩ | ⟨q, rows, keys', w, rfl, hq, hlen, rfl, hl⟩
  · exact absurd rfl hne
  refine ⟨q, rows, fun k => if k ∈ keys' then hp' k else none, rfl, hq, by rw [Nd.encs_eq, List.length_map]; exact hlen, fun r hr => ?_, fun k ob hk => ?_, rd_flat fun j r s hr hs => ?_⟩
  · rw [Nd.encs_eq] at hr
    obtain ⟨x, _, rfl⟩ := List.mem_map.1 hr
    cases x; rfl
  · dsimp only at hk
    split at hk
    · rename_i hm
      exact ⟨hk, fun e => (List.nodup_cons.1 hnd).1 (by rw [← e]; exact hm)⟩
    · cases hk
  · rw [Nd.encs_eq, List.getElem?_map] at hs
    cases hx : ks0[j]? with
    | none => rw [hx] at hs; cases hs
    | some x =>
      rw [hx] at hs; cases hs
      obtain ⟨keys0, rest, w0, hperm, hat, _⟩ := LAt.hole (i := 0) hl hnd hx
      rw [Nat.zero_add] at hat
      obtain ⟨k2, t2, c2, ks2⟩ := x
      obtain ⟨v, hc, hv⟩ := hat.full
      rw [cellsAt_rp hq, hr] at hc
      cases hc
      exact RdC.node (VAt.rd (hv.frame fun k hk => by
        show (if k ∈ keys' then hp' k else none) = hp' k
        rw [if_pos (hperm.mem_iff.2 (List.mem_append_left _ hk))]))
def R_deep_Node_own (xs : List AV) (os : List Ob) (x : AV) (os' : List (Option Ob)) : Prop := ∃ (a0 : Nd) (y0 : Nd), m_deep_Node_own a0 = some y0 ∧ xs = [.agg ((Nd.enc a0).map .s)] ∧ os = [] ∧ x = .agg (match y0 with | .mk k t c _ => [.s (.int .i64 k), .s (.str t), .s (.int .i64 c), .orow 0]) ∧ os' = [some (.row 24 4 (match y0 with | .mk _ _ _ ks => Nd.encs ks))]
def S_deep_Node_own : PSpec := ospec (fun xs os x os' => R_deep_Node_own xs os x os')
theorem ok_deep_Node_own : PSound Try.prog 49 S_deep_Node_own :=
  PSound.ofOwn ok_deep_top.1 fun G w β xs vs os x os' h1 h2 h3 h4 h5 ⟨a0, ⟨k, t, c, ks⟩, hm, hx, ho, hr, ho'⟩ =>
    ok_deep_top.2.2.1 _ rfl G w β xs vs os x os' h1 h2 h3 h4 h5 ⟨[.int .i64 k, .str t, .int .i64 c], Nd.encs ks, ho, hr, ho', a0, k, c, t, ks, hm, hx, rfl, rfl⟩
end Go.Proofs.Ytfbggpmdmhgpfaa
namespace Go.Proofs
open Go.RowKit Go.Lib
set_option maxHeartbeats 2000000 in
set_option maxRecDepth 100000 in
theorem Try.Grow_nil_sNode (w : World) :
    Calls Try.prog 106 #[.slice none 0 0, .int .i64 0] w fun e w' => e = .returned (.slice none 0 0) ∧ w' = w := by
  have h2 : wrap64 0 = 0 := by unfold wrap64; omega
  go_enter Try.func106, Try.ntmps106
  go_wp2
  go_ret
  exact ⟨rfl, rfl⟩
set_option maxHeartbeats 4000000 in
set_option maxRecDepth 100000 in
theorem Try.Grow_new_sNode (i0 : TypeInfo) (z : Value) (hi0 : Try.prog.info? 24 = some i0) (hz0 : i0.zero = some z) (hs0 : 0 < i0.size)
    (n : Nat) (w : World) (hroom : 0 < n) (hbig : n * i0.bytes ≤ 140737488355328) (h63 : n ≤ 4611686018427387904) :
    Calls Try.prog 106 #[.slice none 0 0, .int .i64 n] w fun e w' =>
      e = .returned (.slice (some ⟨w.heap.size, 0, none⟩) 0 (grownCap w n 0 24)) ∧
      w' = w.drew.alloc (.cells (#[] ++ Builtin.zeroCells z.cells n ++ Builtin.zeroCells z.cells (grownCap w n 0 24 - n)) 24) := by
  have h1 : ¬ ((n : Int) < 0) := by omega
  have h2 : wrap64 0 = 0 := by unfold wrap64; omega
  have h3 : wrap64 (n : Int) = (n : Int) := by unfold wrap64; omega
  have h4 : (n : Int) > 0 := by omega
  have hold : (Builtin.firstCells i0.size 0 (.slice none 0 0)).run Try.prog w.drew = .ok ([] : List Value).toArray w.drew := run_firstCells_none w.drew i0.size 0 0 0
  have hrz : ∀ ty, (Builtin.append_ #[22, 3] ty #[.slice none 0 0, .int .i64 (n : Int)]).run Try.prog w =
      .ok (.slice (some ⟨w.heap.size, 0, none⟩) n (grownCap w n 0 24)) (w.drew.alloc (.cells (#[] ++ Builtin.zeroCells z.cells n ++ Builtin.zeroCells z.cells (grownCap w n 0 24 - n)) 24)) := fun ty => by
    have h := Lib.run_append_grow_zeros w 22 3 ty 24 i0 z .i64 .i64 Try.underlying22 Try.underlying3 hi0 hz0 none 0 0 [] hold n (by omega) hs0 (by omega) (by omega) (by omega)
      (by rw [Nat.zero_add]; exact growslice_fits hroom hbig)
    rw [Nat.zero_add] at h
    exact h
  have hGn : n ≤ grownCap w n 0 24 := grownCap_ge w _ _ _
  obtain ⟨G, hG⟩ : ∃ G, G = grownCap w n 0 24 := ⟨_, rfl⟩
  rw [← hG] at hrz hGn ⊢
  have hG63 : G ≤ 9223372036854775807 := by
    have := grownCap_le_maxLen w n 0 24 (by unfold maxLen; omega)
    rw [← hG] at this
    unfold maxLen at this
    omega
  clear hold hG
  go_enter Try.func106, Try.ntmps106
  go_wp2_with (at_builtin; refine Lib.wpList_append_run _ rfl _ _ _ _ rfl _ _ rfl rfl _ _ (hrz _) ?_)
  all_goals (go_ret; exact ⟨rfl, rfl⟩)
end Go.Proofs
namespace Go.Proofs.Ytfbggpmdmhgpfaa
open Go.Abs
theorem zc_size (z : Array Value) (n : Nat) : (Builtin.zeroCells z n).size = n * z.size := by simp [Builtin.zeroCells]
def R_slices_Grow_sNode (xs : List AV) (r : Ret) : Prop := ∃ (a0 : Int) (y0 : List Nd), m_slices_Grow_sNode a0 = some y0 ∧ xs = [.nl 4, .s (.int .i64 a0)] ∧ r = .row 24 4 (Nd.encs y0)
def S_slices_Grow_sNode : PSpec := nspec fun xs r => R_slices_Grow_sNode xs r
theorem ok_slices_Grow_sNode : PSound Try.prog 106 S_slices_Grow_sNode :=
  ⟨Try.call106, fun G w xs vs r hl hg _ hv ⟨a0, y0, hm, hx, hr⟩ => by
    subst hx; subst hr
    obtain ⟨⟨q1, q2⟩, hm⟩ := req_out hm
    obtain rfl := Option.some.inj hm
    obtain ⟨n, rfl⟩ := Int.eq_ofNat_of_zero_le q1
    simp only [AVals, AVal, Rep] at hv
    obtain ⟨_, _, rfl, rfl, _, _, rfl, rfl, rfl⟩ := hv
    by_cases h0 : n = 0
    · subst h0
      exact (Try.Grow_nil_sNode w).mono fun e w' ⟨h1, h2⟩ => by
        subst h2
        exact ⟨_, G, h1, Ext.refl hl, fun r hr => (by cases hr), by decide, .inl ⟨rfl, rfl⟩⟩
    obtain ⟨d, info, z, b1, b2, b3, b4, b5, b6, b7, b8, b9, b10⟩ := tokW 24 _ rfl
    have i1 : info.size = 4 := b4
    have i2 : info.bytes = 56 := b5
    have hzs : z.cells.size = 4 := zero_size b7 b8 b9
    refine (Try.Grow_new_sNode info z b3 b6 (by omega) n w (by omega) (by rw [i2]; omega) (by omega)).mono fun e w' ⟨h1, h2⟩ => ?_
    have hge : n ≤ grownCap w n 0 24 := by unfold grownCap Question.cut; simp
    generalize grownCap w n 0 24 = g at *
    refine ⟨_, G, h1, ?_, fun r hr => (by cases hr), by decide, .inr ⟨w.heap.size, g, #[] ++ Builtin.zeroCells z.cells n ++ Builtin.zeroCells z.cells (g - n), rfl, Nat.zero_le _, ?_, by rw [h2]; exact heap_push_new w.drew _, fun h => Nat.lt_irrefl _ (hl _ h), Nat.le_refl _, fun i s hi => by cases hi⟩⟩
    · rw [h2]
      exact (Ext.drew hl).trans (Ext.own (w := w.drew) hl _)
    · simp only [Array.size_append, Array.size_empty, zc_size, hzs]
      omega,
  fun R hR => (by cases hR), fun R hR => (by cases hR)⟩
def R_slices_Clone_sNode (xs : List AV) (r : Ret) : Prop := ∃ (a0 : List Nd) (y0 : List Nd), m_slices_Clone_sNode a0 = some y0 ∧ xs = [.s (.sl 4 (Nd.encs a0))] ∧ r = .val (.s (.sl 4 (Nd.encs y0)))
def S_slices_Clone_sNode : PSpec := pspec fun xs r => R_slices_Clone_sNode xs r
set_option maxHeartbeats 2000000 in
set_option maxRecDepth 100000 in
theorem ok_slices_Clone_sNode : PSound Try.prog 84 S_slices_Clone_sNode := by
  have gok : ∀ (f : Nat) (s : PSpec), (fun _ => none : Nat → Option PSpec) f = some s → PSound Try.prog f s := fun _ _ h => by cases h
  refine psound tokW Try.call84 Try.func84 rfl (fun xs r h => by obtain ⟨_, _, _, rfl, _⟩ := h; show 1 ≤ _; decide) _ rfl ?_
  rintro xs r w0 G0 ⟨l, y, h, rfl, rfl⟩ _
  obtain ⟨hq, h⟩ := req_out h
  obtain rfl := Option.some.inj h
  have hlen : (Nd.encs l).length = l.length := rlen Nd.encs_eq l
  refine tri_seq ?_
  refine tri_region (by exact tokW) (by exact gok) [] [] rfl ?_
  show Tri _ _ _ _
  refine tri_seq ?_
  refine tri_seq ?_
  refine tri_region (by exact tokW) (by exact gok) [] [] rfl ?_
  intro b hb
  show Tri _ _ _ _
  cases b with
  | true =>
    have hl := hb rfl
    refine tri_cond rfl (fun _ => ?_) (fun h => by cases h)
    refine tri_seq ?_
    refine tri_region (by exact tokW) (by exact gok) [] [] rfl ?_
    show Tri _ _ _ _
    refine tri_ret ?_
    unfold Gives
    exact ⟨_, Le.refl _ _, congrArg (fun z => some (AV.s (.sl 4 z))) hl.symm, rfl⟩
  | false =>
    refine tri_cond rfl (fun h => by cases h) (fun _ => ?_)
    refine tri_skip ?_
    show Tri _ _ _ _
    refine tri_seq ?_
    refine tri_region (by exact tokW) (by exact gok) [5, 7] [] rfl ?_
    refine And.intro (show (([] : List (List S)).length + (Nd.encs l).length) * 56 ≤ 140737488355328 ∧ ([] : List (List S)).length + (Nd.encs l).length ≤ 9223372036854775807 from by rw [hlen]; simp only [List.length_nil]; omega) ?_
    show Tri _ _ _ _
    refine tri_ret ?_
    unfold Gives
    exact ⟨_, Le.giveRow 1 (e := 24) (sz := 4) (rows := Nd.encs l) rfl, rfl, rfl⟩
def R_slices_Clone_sint (xs : List AV) (r : Ret) : Prop := ∃ (a0 : List Int) (y0 : List Int), m_slices_Clone_sint a0 = some y0 ∧ xs = [.s (.sl 1 ((List.map (irow .i64)) a0))] ∧ r = .val (.s (.sl 1 ((List.map (irow .i64)) y0)))
def S_slices_Clone_sint : PSpec := pspec fun xs r => R_slices_Clone_sint xs r
set_option maxHeartbeats 2000000 in
set_option maxRecDepth 100000 in
theorem ok_slices_Clone_sint : PSound Try.prog 85 S_slices_Clone_sint := by
  have gok : ∀ (f : Nat) (s : PSpec), (fun _ => none : Nat → Option PSpec) f = some s → PSound Try.prog f s := fun _ _ h => by cases h
  refine psound tokW Try.call85 Try.func85 rfl (fun xs r h => by obtain ⟨_, _, _, rfl, _⟩ := h; show 1 ≤ _; decide) _ rfl ?_
  rintro xs r w0 G0 ⟨l, y, h, rfl, rfl⟩ _
  obtain ⟨hq, h⟩ := req_out h
  obtain rfl := Option.some.inj h
  have hlen : ((List.map (irow .i64)) l).length = l.length := rlen (fun _ => rfl) l
  refine tri_seq ?_
  refine tri_region (by exact tokW) (by exact gok) [] [] rfl ?_
  show Tri _ _ _ _
  refine tri_seq ?_
  refine tri_seq ?_
  refine tri_region (by exact tokW) (by exact gok) [] [] rfl ?_
  intro b hb
  show Tri _ _ _ _
  cases b with
  | true =>
    have hl := hb rfl
    refine tri_cond rfl (fun _ => ?_) (fun h => by cases h)
    refine tri_seq ?_
    refine tri_region (by exact tokW) (by exact gok) [] [] rfl ?_
    show Tri _ _ _ _
    refine tri_ret ?_
    unfold Gives
    exact ⟨_, Le.refl _ _, congrArg (fun z => some (AV.s (.sl 1 z))) hl.symm, rfl⟩
  | false =>
    refine tri_cond rfl (fun h => by cases h) (fun _ => ?_)
    refine tri_skip ?_
    show Tri _ _ _ _
    refine tri_seq ?_
    refine tri_region (by exact tokW) (by exact gok) [5, 7] [] rfl ?_
    refine And.intro (show (([] : List (List S)).length + ((List.map (irow .i64)) l).length) * 8 ≤ 140737488355328 ∧ ([] : List (List S)).length + ((List.map (irow .i64)) l).length ≤ 9223372036854775807 from by rw [hlen]; simp only [List.length_nil]; omega) ?_
    show Tri _ _ _ _
    refine tri_ret ?_
    unfold Gives
    exact ⟨_, Le.giveRow 1 (e := 3) (sz := 1) (rows := (List.map (irow .i64)) l) rfl, rfl, rfl⟩
end Go.Proofs.Ytfbggpmdmhgpfaa
