/-
  THE DIGEST, PART D: plain facts: a byte's step loses nothing.
-/
import Derived.Test.YtpahhoappfbleaaDigC
set_option linter.unusedVariables false
namespace Go.Proofs.Ytpahhoappfbleaa
open Go.Abs

def in64 (h : Int) : Prop := 0 ≤ h ∧ h < 18446744073709551616

theorem wrapU (n : Int) : IntKind.u64.wrap n = n % 18446744073709551616 := by
  simp only [IntKind.wrap, IntKind.bits, IntKind.signed]
  simp

theorem upd1_bv (h : Int) (c : UInt8) : upd1 h c = (((BitVec.ofInt 64 h ^^^ BitVec.ofInt 64 (IntKind.u64.wrap c.toNat)) * 1099511628211#64).toNat : Int) := by
  have e : bitOp .xor .u64 h (IntKind.u64.wrap c.toNat) = ((BitVec.ofInt 64 h ^^^ BitVec.ofInt 64 (IntKind.u64.wrap c.toNat)).toNat : Int) := by
    show IntKind.u64.wrap ((BitVec.ofInt 64 h ^^^ BitVec.ofInt 64 (IntKind.u64.wrap c.toNat)).toNat : Int) = _
    have := (BitVec.ofInt 64 h ^^^ BitVec.ofInt 64 (IntKind.u64.wrap c.toNat)).isLt
    exact wrapU_in (by omega) (by omega)
  unfold upd1
  rw [e, wrapU, BitVec.toNat_mul]
  have : (1099511628211#64).toNat = 1099511628211 := by decide
  rw [this]
  generalize (BitVec.ofInt 64 h ^^^ BitVec.ofInt 64 (IntKind.u64.wrap c.toNat)).toNat = n
  omega

theorem upd1_in (h : Int) (c : UInt8) : in64 (upd1 h c) := by
  rw [upd1_bv]
  have := ((BitVec.ofInt 64 h ^^^ BitVec.ofInt 64 (IntKind.u64.wrap c.toNat)) * 1099511628211#64).isLt
  exact ⟨by omega, by omega⟩

theorem mul_inj {a b : BitVec 64} (h : a * 1099511628211#64 = b * 1099511628211#64) : a = b := by
  have e : ∀ x : BitVec 64, x * 1099511628211#64 * 14886173955864302971#64 = x := fun x => by
    rw [BitVec.mul_assoc, show (1099511628211#64 * 14886173955864302971#64 : BitVec 64) = 1#64 by decide +kernel, BitVec.mul_one]
  rw [← e a, ← e b, h]

theorem ofInt_inj {a b : Int} (ha : in64 a) (hb : in64 b) (h : BitVec.ofInt 64 a = BitVec.ofInt 64 b) : a = b := by
  have := congrArg BitVec.toNat h
  rw [BitVec.toNat_ofInt, BitVec.toNat_ofInt] at this
  obtain ⟨a1, a2⟩ := ha
  obtain ⟨b1, b2⟩ := hb
  have e1 : a % ((2 ^ 64 : Nat) : Int) = a := Int.emod_eq_of_lt a1 (by omega)
  have e2 : b % ((2 ^ 64 : Nat) : Int) = b := Int.emod_eq_of_lt b1 (by omega)
  rw [e1, e2] at this
  omega

theorem xor_cancel_right {a b c : BitVec 64} (h : a ^^^ c = b ^^^ c) : a = b := by
  have := congrArg (· ^^^ c) h
  simpa [BitVec.xor_assoc] using this
theorem xor_cancel_left {a b c : BitVec 64} (h : c ^^^ a = c ^^^ b) : a = b := by
  rw [BitVec.xor_comm c a, BitVec.xor_comm c b] at h
  exact xor_cancel_right h

theorem upd1_inj {h h' : Int} {c : UInt8} (a : in64 h) (b : in64 h') (e : upd1 h c = upd1 h' c) : h = h' := by
  rw [upd1_bv, upd1_bv] at e
  have e := BitVec.eq_of_toNat_eq (by exact_mod_cast e)
  exact ofInt_inj a b (xor_cancel_right (mul_inj e))

theorem upd1_byte {h : Int} {c d : UInt8} (e : upd1 h c = upd1 h d) : c = d := by
  rw [upd1_bv, upd1_bv] at e
  have e := BitVec.eq_of_toNat_eq (by exact_mod_cast e)
  have hc : ∀ x : UInt8, in64 (IntKind.u64.wrap x.toNat) ∧ IntKind.u64.wrap x.toNat = x.toNat := fun x => by
    have := x.toNat_lt
    rw [wrapU_in (by omega) (by omega)]
    exact ⟨⟨by omega, by omega⟩, rfl⟩
  have := ofInt_inj (hc c).1 (hc d).1 (xor_cancel_left (mul_inj e))
  rw [(hc c).2, (hc d).2] at this
  exact UInt8.toNat_inj.1 (by omega)

theorem upd_inj : ∀ (bs : List UInt8) {h h' : Int}, in64 h → in64 h' → upd h bs = upd h' bs → h = h'
  | [], h, h', _, _, e => e
  | c :: bs, h, h', a, b, e => upd1_inj a b (upd_inj bs (upd1_in h c) (upd1_in h' c) e)

theorem upd_in : ∀ (bs : List UInt8) {h : Int}, in64 h → in64 (upd h bs)
  | [], h, a => a
  | c :: bs, h, _ => upd_in bs (upd1_in h c)

theorem upd_set : ∀ (bs : List UInt8) (h : Int) (i : Nat) (hi : i < bs.length) (c : UInt8), upd h (bs.set i c) = upd h bs → bs[i] = c
  | b :: bs, h, 0, hi, c, e => (upd1_byte (upd_inj bs (upd1_in h c) (upd1_in h b) e)).symm
  | b :: bs, h, i + 1, hi, c, e => by
    have := upd_set bs (upd1 h b) i (by simpa using hi) c e
    simpa using this

theorem law_same {h0 h1 : Int} (a : in64 h0) (b : in64 h1) (bs : List UInt8) : (decide (upd h0 bs = upd h1 bs) != decide (h0 = h1)) = false := by
  by_cases e : h0 = h1
  · subst e; simp
  · have : upd h0 bs ≠ upd h1 bs := fun h => e (upd_inj bs a b h)
    simp [e, this]

theorem law_byte {bs : List UInt8} {h : Int} {i : Nat} (hi : i < bs.length) (c : UInt8) : (decide (upd h (bs.set i c) = upd h bs) == decide (bs[i] = c)) = true := by
  by_cases e : bs[i] = c
  · have : bs.set i c = bs := by rw [← e]; exact List.set_getElem_self hi
    simp [e, this]
  · have : upd h (bs.set i c) ≠ upd h bs := fun h' => e (upd_set bs h i hi c h')
    simp [e, this]
end Go.Proofs.Ytpahhoappfbleaa
