/-
  Contracts of Go's library, laid by the kit's shelf over this program, and turned into my form.
-/
import Derived.Test.YtefbmooajknmgaaDoorMLib
import Derived.Lib.Strings
import Derived.Lib.Slices
import Derived.Lib.Walk
import Derived.Test.YtefbmooajknmgaaDoorAbsU
import Derived.Test.YtefbmooajknmgaaDoorNdA
import Derived.Lib.Bytealg
set_option linter.unusedVariables false
namespace Go.Proofs

set_option maxHeartbeats 1000000 in
set_option maxRecDepth 100000 in
/-- internal/stringslite.IndexByte (what strings.IndexByte calls): IT RETURNS 'Lib.indexByte s c'; the world is as it was. -/
theorem Tryd.stringslite_IndexByte (s : ByteArray) (c : Int) (w : World) :
    Calls Tryd.prog 88 #[.string s, .int .u8 c] w fun e w' => e = .returned (.int .i64 (Lib.indexByte s.data.toList c.toNat.toUInt8)) ∧ w' = w := by
  go_enter Tryd.func88, Tryd.ntmps88
  go_wp2
  rw [run_callFunc_extern Tryd.func93 (by kernel_rfl) (by kernel_rfl) (by kernel_rfl) (e := Extern.BytealgIndexByte.indexByte) (by kernel_rfl), Lib.run_indexByteString]
  simp only [Result.andThen]
  rw [Oper.upon_value]
  go_wp2
  go_ret
  exact ⟨rfl, rfl⟩

set_option maxHeartbeats 2000000 in
set_option maxRecDepth 100000 in
/-- internal/stringslite.Index (what strings.Index calls) AT A substr OF ONE BYTE c: IT RETURNS 'Lib.indexByte s c'; the world is as it was. -/
theorem Tryd.stringslite_Index_one (s : ByteArray) (c : UInt8) (w : World) :
    Calls Tryd.prog 83 #[.string s, .string ⟨#[c]⟩] w fun e w' => e = .returned (.int .i64 (Lib.indexByte s.data.toList c)) ∧ w' = w := by
  go_enter Tryd.func83, Tryd.ntmps83
  go_wp2_with (go_at_call 88; refine (Tryd.stringslite_IndexByte _ _ _).mono ?_; rintro e w' ⟨rfl, rfl⟩)
  · have h : ([c] == s.toList) = true := by assumption
    go_ret
    refine ⟨?_, rfl⟩
    have e : s.data.toList = [c] := by rw [← Lib.toList_data]; exact (beq_iff_eq.1 h).symm
    rw [e]
    simp [Lib.indexByte]
  · go_ret
    exact ⟨rfl, rfl⟩

set_option maxHeartbeats 1000000 in
/-- strings.IndexByte: "IndexByte returns the index of the first instance of c in s, or -1 if c is not present in s.": IT RETURNS 'Lib.indexByte s c'; the world is as it was. -/
theorem Tryd.strings_IndexByte (s : ByteArray) (c : Int) (w : World) :
    Calls Tryd.prog 84 #[.string s, .int .u8 c] w fun e w' => e = .returned (.int .i64 (Lib.indexByte s.data.toList c.toNat.toUInt8)) ∧ w' = w := by
  go_enter Tryd.func84, Tryd.ntmps84
  go_wp2_with (go_at_call 88; refine (Tryd.stringslite_IndexByte _ _ _).mono ?_; rintro e w' ⟨rfl, rfl⟩)
  go_ret
  exact ⟨rfl, rfl⟩

set_option maxHeartbeats 1000000 in
/-- strings.Index: "Index returns the index of the first instance of substr in s, or -1 if substr is not present in s.": AT A substr OF ONE BYTE c: IT RETURNS 'Lib.indexByte s c'; the world is as it was. -/
theorem Tryd.strings_Index_one (s : ByteArray) (c : UInt8) (w : World) :
    Calls Tryd.prog 70 #[.string s, .string ⟨#[c]⟩] w fun e w' => e = .returned (.int .i64 (Lib.indexByte s.data.toList c)) ∧ w' = w := by
  go_enter Tryd.func70, Tryd.ntmps70
  go_wp2_with (go_at_call 83; refine (Tryd.stringslite_Index_one _ _ _).mono ?_; rintro e w' ⟨rfl, rfl⟩)
  go_ret
  exact ⟨rfl, rfl⟩

set_option maxHeartbeats 1000000 in
/-- strings.Contains: "Contains reports whether substr is within s.": AT A substr OF ONE BYTE c: IT RETURNS 'decide (0 ≤ Lib.indexByte s c)'; the world is as it was. -/
theorem Tryd.strings_Contains_one (s : ByteArray) (c : UInt8) (w : World) :
    Calls Tryd.prog 40 #[.string s, .string ⟨#[c]⟩] w fun e w' => e = .returned (.bool (decide (0 ≤ Lib.indexByte s.data.toList c))) ∧ w' = w := by
  go_enter Tryd.func40, Tryd.ntmps40
  go_wp2_with (go_at_call 70; refine (Tryd.strings_Index_one _ _ _).mono ?_; rintro e w' ⟨rfl, rfl⟩)
  go_ret
  exact ⟨rfl, rfl⟩

end Go.Proofs
namespace Go.Proofs.YtefbmooajknmgaaDoor
open Go.Abs

theorem psound_lib {f : Nat} {s : List AV → Ret → Prop} (hcall : ∀ args w, (callFunc f args).run Tryd.prog w = .ok (.enter f args) w)
    (h : ∀ (G : Nat → Prop) (w : World) (xs : List AV) (vs : List Value) (r : Ret), AVals G w (fun _ => .tuple #[]) xs vs → s xs r → Calls Tryd.prog f vs.toArray w fun e w' => w' = w ∧ ∃ v, e = .returned v ∧ RetAt G w w r v) : PSound Tryd.prog f (pspec s) :=
  ⟨hcall, fun G w xs vs r hl _ _ hv hs => (h G w xs vs r hv hs).mono fun e w' ⟨h1, v, h2, h3⟩ => (by subst h1; exact ⟨v, G, h2, Ext.refl hl, h3⟩), fun R hR => (by cases hR), fun R hR => (by cases hR)⟩

def R_stringslite_Index (xs : List AV) (r : Ret) : Prop := ∃ (a0 a1 : List UInt8) (y0 : Int), m_stringslite_Index a0 a1 = some y0 ∧ xs = [.s (.str a0), .s (.str a1)] ∧ r = .val (.s (.int .i64 y0))
def S_stringslite_Index : PSpec := pspec fun xs r => R_stringslite_Index xs r
theorem ok_stringslite_Index : PSound Tryd.prog 83 S_stringslite_Index := psound_lib Tryd.call83 fun G w xs vs r hv ⟨a, p, y, h, hx, hr⟩ => by
  subst hx; subst hr
  obtain ⟨hp, h⟩ := req_out h
  have hy := Option.some.inj h
  subst hy
  obtain ⟨c, rfl⟩ : ∃ c, p = [c] := by
    match p, hp with
    | [c], _ => exact ⟨c, rfl⟩
  simp only [AVals, AVal, Rep] at hv
  obtain ⟨_, _, rfl, rfl, _, _, rfl, rfl, rfl⟩ := hv
  exact (Tryd.stringslite_Index_one ⟨a.toArray⟩ c w).mono fun e w' ⟨h1, h2⟩ => ⟨h2, _, h1, rfl, by simp only [AVal, Rep]; rfl⟩
def R_strings_Contains (xs : List AV) (r : Ret) : Prop := ∃ (a0 a1 : List UInt8) (y0 : Bool), m_strings_Contains a0 a1 = some y0 ∧ xs = [.s (.str a0), .s (.str a1)] ∧ r = .val (.s (.bool y0))
def S_strings_Contains : PSpec := pspec fun xs r => R_strings_Contains xs r
theorem ok_strings_Contains : PSound Tryd.prog 40 S_strings_Contains := psound_lib Tryd.call40 fun G w xs vs r hv ⟨a, p, y, h, hx, hr⟩ => by
  subst hx; subst hr
  obtain ⟨hp, h⟩ := req_out h
  have hy := Option.some.inj h
  subst hy
  obtain ⟨c, rfl⟩ : ∃ c, p = [c] := by
    match p, hp with
    | [c], _ => exact ⟨c, rfl⟩
  simp only [AVals, AVal, Rep] at hv
  obtain ⟨_, _, rfl, rfl, _, _, rfl, rfl, rfl⟩ := hv
  exact (Tryd.strings_Contains_one ⟨a.toArray⟩ c w).mono fun e w' ⟨h1, h2⟩ => ⟨h2, _, h1, rfl, by simp only [AVal, Rep]; rfl⟩
def R_strings_IndexByte (xs : List AV) (r : Ret) : Prop := ∃ (a0 : List UInt8) (a1 : Int) (y0 : Int), m_strings_IndexByte a0 a1 = some y0 ∧ xs = [.s (.str a0), .s (.int .u8 a1)] ∧ r = .val (.s (.int .i64 y0))
def S_strings_IndexByte : PSpec := pspec fun xs r => R_strings_IndexByte xs r
theorem ok_strings_IndexByte : PSound Tryd.prog 84 S_strings_IndexByte := psound_lib Tryd.call84 fun G w xs vs r hv ⟨a, c, y, h, hx, hr⟩ => by
  subst hx; subst hr
  have hy := Option.some.inj h
  subst hy
  simp only [AVals, AVal, Rep] at hv
  obtain ⟨_, _, rfl, rfl, _, _, rfl, rfl, rfl⟩ := hv
  exact (Tryd.strings_IndexByte ⟨a.toArray⟩ c w).mono fun e w' ⟨h1, h2⟩ => ⟨h2, _, h1, rfl, by simp only [AVal, Rep]⟩
end Go.Proofs.YtefbmooajknmgaaDoor

