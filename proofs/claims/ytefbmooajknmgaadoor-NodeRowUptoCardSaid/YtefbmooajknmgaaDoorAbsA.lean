/-
  THE ABSTRACT MACHINE, PART A: abstract values, what they stand for, and that this lasts.
-/
import Derived.Tactics
import Derived.Orders
import Derived.Still
import Derived.Laws.AppendOwn
import Derived.Laws.Cells
import Derived.Laws.Strings
namespace Go.Abs

/-- A persistent scalar datum (one cell). A slice is its rows (each row the cells of an element), a pointer the cells from where it points on. -/
inductive S where
  | int (k : IntKind) (n : Int)
  | bool (b : Bool)
  | str (s : List UInt8)
  | sl (sz : Nat) (rows : List (List S))
  | np
  | pt (row : List S)
  | fn (f : Nat)
  | nf
  deriving Inhabited

mutual
def Rep (G : Nat → Prop) (w : World) : S → Value → Prop
  | .int k n, v => v = .int k n
  | .bool b, v => v = .bool b
  | .str s, v => v = .string ⟨s.toArray⟩
  | .sl sz rows, v => (rows = [] ∧ ∃ o c, v = .slice o 0 c) ∨
      ∃ b off cap, v = .slice (some ⟨b, off, none⟩) rows.length cap ∧ rows.length ≤ cap ∧ RepRows G w sz b rows off
  | .np, v => v = .pointer none
  | .pt row, v => ∃ b off, v = .pointer (some ⟨b, off, none⟩) ∧ RepRow G w b row off
  | .fn f, v => v = .func (.func f) #[] #[]
  | .nf, v => v = .nilFunc
def RepRow (G : Nat → Prop) (w : World) (b : Nat) : List S → Nat → Prop
  | [], _ => True
  | s :: r, off => G b ∧ (∃ v, w.cell? ⟨b, off, none⟩ = some v ∧ Rep G w s v) ∧ RepRow G w b r (off + 1)
def RepRows (G : Nat → Prop) (w : World) (sz b : Nat) : List (List S) → Nat → Prop
  | [], _ => True
  | r :: rs, off => r.length = sz ∧ RepRow G w b r off ∧ RepRows G w sz b rs (off + sz)
end

/-- What is persistent lasts: the blocks of G hold what they held. -/
structure Keep (G G' : Nat → Prop) (w w' : World) : Prop where
  sub : ∀ b, G b → G' b
  same : ∀ b, G b → w'.heap[b]? = w.heap[b]?

theorem Keep.refl (G : Nat → Prop) (w : World) : Keep G G w w := ⟨fun _ h => h, fun _ _ => rfl⟩
theorem Keep.trans {G G' G'' : Nat → Prop} {w w' w'' : World} (h : Keep G G' w w') (k : Keep G' G'' w' w'') : Keep G G'' w w'' :=
  ⟨fun b hb => k.sub b (h.sub b hb), fun b hb => (k.same b (h.sub b hb)).trans (h.same b hb)⟩

theorem cell?_of_heap {w w' : World} {a : Addr} (h : w'.heap[a.block]? = w.heap[a.block]?) : w'.cell? a = w.cell? a := by
  unfold World.cell?; rw [h]

mutual
theorem Rep.keep {G G' : Nat → Prop} {w w' : World} (k : Keep G G' w w') : ∀ {s : S} {v : Value}, Rep G w s v → Rep G' w' s v
  | .int .., _, h => h
  | .bool _, _, h => h
  | .str _, _, h => h
  | .np, _, h => h
  | .fn _, _, h => h
  | .nf, _, h => h
  | .sl sz rows, v, h => by
    simp only [Rep] at h ⊢
    rcases h with h | ⟨b, off, cap, h1, h2, h3⟩
    · exact .inl h
    · exact .inr ⟨b, off, cap, h1, h2, RepRows.keep k h3⟩
  | .pt row, v, h => by
    simp only [Rep] at h ⊢
    obtain ⟨b, off, h1, h2⟩ := h
    exact ⟨b, off, h1, RepRow.keep k h2⟩
theorem RepRow.keep {G G' : Nat → Prop} {w w' : World} (k : Keep G G' w w') {b : Nat} : ∀ {r : List S} {off : Nat}, RepRow G w b r off → RepRow G' w' b r off
  | [], _, _ => trivial
  | s :: r, off, h => by
    simp only [RepRow] at h ⊢
    obtain ⟨h1, ⟨v, h2, h3⟩, h4⟩ := h
    exact ⟨k.sub b h1, ⟨v, by rw [cell?_of_heap (k.same b h1)]; exact h2, Rep.keep k h3⟩, RepRow.keep k h4⟩
theorem RepRows.keep {G G' : Nat → Prop} {w w' : World} (k : Keep G G' w w') {sz b : Nat} : ∀ {r : List (List S)} {off : Nat}, RepRows G w sz b r off → RepRows G' w' sz b r off
  | [], _, _ => trivial
  | r :: rs, off, h => by
    simp only [RepRows] at h ⊢
    exact ⟨h.1, RepRow.keep k h.2.1, RepRows.keep k h.2.2⟩
end

theorem RepRow.get {G : Nat → Prop} {w : World} {b : Nat} : ∀ {r : List S} {off i : Nat} {s : S}, RepRow G w b r off → r[i]? = some s →
    G b ∧ ∃ v, w.cell? ⟨b, off + i, none⟩ = some v ∧ Rep G w s v
  | [], _, _, _, _, h => by simp at h
  | x :: r, off, 0, s, h, hi => by
    simp only [RepRow] at h; simp at hi; subst hi; exact ⟨h.1, h.2.1⟩
  | x :: r, off, i + 1, s, h, hi => by
    simp only [RepRow] at h
    have := RepRow.get (i := i) h.2.2 (by simpa using hi)
    rw [show off + (i + 1) = off + 1 + i by omega]; exact this

theorem RepRow.mk {G : Nat → Prop} {w : World} {b : Nat} : ∀ {r : List S} {off : Nat}, (∀ i s, r[i]? = some s → G b ∧ ∃ v, w.cell? ⟨b, off + i, none⟩ = some v ∧ Rep G w s v) → RepRow G w b r off
  | [], _, _ => trivial
  | x :: r, off, h => by
    simp only [RepRow]
    obtain ⟨h1, h2⟩ := h 0 x (by simp)
    refine ⟨h1, by simpa using h2, RepRow.mk fun i s hi => ?_⟩
    have := h (i + 1) s (by simpa using hi)
    rwa [show off + (i + 1) = off + 1 + i by omega] at this

theorem RepRow.drop {G : Nat → Prop} {w : World} {b : Nat} {r : List S} {off : Nat} (h : RepRow G w b r off) (n : Nat) : RepRow G w b (r.drop n) (off + n) :=
  RepRow.mk fun i s hi => by
    rw [List.getElem?_drop] at hi
    have := h.get hi
    rwa [show off + n + i = off + (n + i) by omega]
theorem RepRow.take {G : Nat → Prop} {w : World} {b : Nat} {r : List S} {off : Nat} (h : RepRow G w b r off) (n : Nat) : RepRow G w b (r.take n) off :=
  RepRow.mk fun i s hi => by
    rw [List.getElem?_take] at hi
    split at hi
    · exact h.get hi
    · cases hi

theorem RepRows.get {G : Nat → Prop} {w : World} {sz b : Nat} : ∀ {rs : List (List S)} {off i : Nat} {r : List S}, RepRows G w sz b rs off → rs[i]? = some r →
    r.length = sz ∧ RepRow G w b r (off + i * sz)
  | [], _, _, _, _, h => by simp at h
  | x :: rs, off, 0, r, h, hi => by
    simp only [RepRows] at h; simp at hi; subst hi; exact ⟨h.1, by simpa using h.2.1⟩
  | x :: rs, off, i + 1, r, h, hi => by
    simp only [RepRows] at h
    have := RepRows.get (i := i) h.2.2 (by simpa using hi)
    rw [Nat.succ_mul, show off + (i * sz + sz) = off + sz + i * sz by omega]; exact this

theorem RepRows.mk {G : Nat → Prop} {w : World} {sz b : Nat} : ∀ {rs : List (List S)} {off : Nat}, (∀ i r, rs[i]? = some r → r.length = sz ∧ RepRow G w b r (off + i * sz)) → RepRows G w sz b rs off
  | [], _, _ => trivial
  | x :: rs, off, h => by
    simp only [RepRows]
    obtain ⟨h1, h2⟩ := h 0 x (by simp)
    refine ⟨h1, by simpa using h2, RepRows.mk fun i r hi => ?_⟩
    have := h (i + 1) r (by simpa using hi)
    rwa [Nat.succ_mul, show off + (i * sz + sz) = off + sz + i * sz by omega] at this

theorem RepRows.drop {G : Nat → Prop} {w : World} {sz b : Nat} {rs : List (List S)} {off : Nat} (h : RepRows G w sz b rs off) (n : Nat) : RepRows G w sz b (rs.drop n) (off + n * sz) :=
  RepRows.mk fun i r hi => by
    rw [List.getElem?_drop] at hi
    have := h.get hi
    rwa [Nat.add_assoc, ← Nat.add_mul]
theorem RepRows.take {G : Nat → Prop} {w : World} {sz b : Nat} {rs : List (List S)} {off : Nat} (h : RepRows G w sz b rs off) (n : Nat) : RepRows G w sz b (rs.take n) off :=
  RepRows.mk fun i r hi => by
    rw [List.getElem?_take] at hi
    split at hi
    · exact h.get hi
    · cases hi

theorem Rep.one {G : Nat → Prop} {w : World} {s : S} {v : Value} (h : Rep G w s v) : v.oneCell' = true := by
  cases s <;> simp only [Rep] at h
  case sl =>
    rcases h with ⟨_, o, c, rfl⟩ | ⟨b, off, cap, rfl, _⟩ <;> rfl
  case pt => obtain ⟨b, off, rfl, _⟩ := h; rfl
  all_goals subst h; rfl

/-- An abstract value of a temporary. 'op k o': a pointer into the own box k, at its cell o. 'orow k': the own row k, as a slice. 'rp k sz i o': a pointer into the own row k, at cell o of its element i. 'nl sz': the very nil slice. -/
inductive AV where
  | s (x : S)
  | nl (sz : Nat)
  | agg (xs : List AV)
  | tup (xs : List AV)
  | op (k off : Nat)
  | orow (k : Nat)
  | rp (k sz i off : Nat)
  | clo (f : Nat) (caps : List AV)
  | junk
  deriving Inhabited

inductive Ob where
  | box (t : Nat) (cells : List AV)
  | row (e sz : Nat) (rows : List (List S))
  | arow (e sz : Nat) (rows : List (List AV))
  deriving Inhabited

def blk : Value → Option Nat
  | .pointer (some a) => some a.block
  | .slice (some a) _ _ => some a.block
  | _ => none

mutual
def AVal (G : Nat → Prop) (w : World) (β : Nat → Value) : AV → Value → Prop
  | .s x, v => Rep G w x v
  | .nl _, v => v = .slice none 0 0
  | .agg xs, v => ∃ vs : List Value, v = .agg vs.toArray ∧ AVals G w β xs vs
  | .tup xs, v => ∃ vs : List Value, v = .tuple vs.toArray ∧ AVals G w β xs vs
  | .op k off, v => ∃ b, β k = .pointer (some ⟨b, 0, none⟩) ∧ v = .pointer (some ⟨b, off, none⟩)
  | .orow k, v => v = β k ∧ ∃ o n c, v = .slice o n c
  | .rp k sz i off, v => ∃ b n c, β k = .slice (some ⟨b, 0, none⟩) n c ∧ v = .pointer (some ⟨b, i * sz + off, none⟩)
  | .clo f caps, v => ∃ vs : List Value, v = .func (.func f) #[] vs.toArray ∧ AVals G w β caps vs
  | .junk, _ => True
def AVals (G : Nat → Prop) (w : World) (β : Nat → Value) : List AV → List Value → Prop
  | [], vs => vs = []
  | x :: xs, vs => ∃ v vs', vs = v :: vs' ∧ AVal G w β x v ∧ AVals G w β xs vs'
end

mutual
theorem AVal.keep {G G' : Nat → Prop} {w w' : World} {β : Nat → Value} (k : Keep G G' w w') : ∀ {x : AV} {v : Value}, AVal G w β x v → AVal G' w' β x v
  | .s x, v, h => by simp only [AVal] at h ⊢; exact Rep.keep k h
  | .nl _, v, h => by simp only [AVal] at h ⊢; exact h
  | .agg xs, v, h => by
    simp only [AVal] at h ⊢
    obtain ⟨vs, h1, h2⟩ := h
    exact ⟨vs, h1, AVals.keep k h2⟩
  | .tup xs, v, h => by
    simp only [AVal] at h ⊢
    obtain ⟨vs, h1, h2⟩ := h
    exact ⟨vs, h1, AVals.keep k h2⟩
  | .clo f xs, v, h => by
    simp only [AVal] at h ⊢
    obtain ⟨vs, h1, h2⟩ := h
    exact ⟨vs, h1, AVals.keep k h2⟩
  | .op .., v, h => by simp only [AVal] at h ⊢; exact h
  | .orow _, v, h => by simp only [AVal] at h ⊢; exact h
  | .rp .., v, h => by simp only [AVal] at h ⊢; exact h
  | .junk, _, _ => by simp only [AVal]
theorem AVals.keep {G G' : Nat → Prop} {w w' : World} {β : Nat → Value} (k : Keep G G' w w') : ∀ {xs : List AV} {vs : List Value}, AVals G w β xs vs → AVals G' w' β xs vs
  | [], _, h => by simp only [AVals] at h ⊢; exact h
  | x :: xs, vs, h => by
    simp only [AVals] at h ⊢
    obtain ⟨v, vs', h1, h2, h3⟩ := h
    exact ⟨v, vs', h1, AVal.keep k h2, AVals.keep k h3⟩
end

theorem AVals.length {G : Nat → Prop} {w : World} {β : Nat → Value} : ∀ {xs : List AV} {vs : List Value}, AVals G w β xs vs → vs.length = xs.length
  | [], _, h => by simp only [AVals] at h; simp [h]
  | x :: xs, vs, h => by
    simp only [AVals] at h
    obtain ⟨v, vs', rfl, _, h3⟩ := h
    simp [AVals.length h3]
theorem AVals.get {G : Nat → Prop} {w : World} {β : Nat → Value} : ∀ {xs : List AV} {vs : List Value}, AVals G w β xs vs → ∀ {i : Nat} {x : AV}, xs[i]? = some x → ∃ v, vs[i]? = some v ∧ AVal G w β x v
  | [], _, _, _, _, h => by simp at h
  | y :: xs, vs, h, 0, x, hi => by
    simp only [AVals] at h
    obtain ⟨v, vs', rfl, h2, _⟩ := h
    simp at hi; subst hi; exact ⟨v, by simp, h2⟩
  | y :: xs, vs, h, i + 1, x, hi => by
    simp only [AVals] at h
    obtain ⟨v, vs', rfl, _, h3⟩ := h
    simpa using AVals.get h3 (i := i) (by simpa using hi)
theorem AVals.mk {G : Nat → Prop} {w : World} {β : Nat → Value} : ∀ {xs : List AV} {vs : List Value}, vs.length = xs.length → (∀ (i : Nat) x v, xs[i]? = some x → vs[i]? = some v → AVal G w β x v) → AVals G w β xs vs
  | [], vs, hl, _ => by simp only [AVals]; simpa using hl
  | x :: xs, [], hl, _ => by simp at hl
  | x :: xs, v :: vs, hl, h => by
    simp only [AVals]
    exact ⟨v, vs, rfl, h 0 x v (by simp) (by simp), AVals.mk (by simpa using hl) fun i x v h1 h2 => h (i + 1) x v (by simpa using h1) (by simpa using h2)⟩

/- Abstract values that hold no reference to what the frame owns. -/
mutual
def AV.pers : AV → Bool
  | .s _ => true
  | .nl _ => true
  | .agg xs => AV.persAll xs
  | .tup xs => AV.persAll xs
  | .clo _ xs => AV.persAll xs
  | .junk => true
  | _ => false
def AV.persAll : List AV → Bool
  | [] => true
  | x :: xs => x.pers && AV.persAll xs
end

mutual
theorem AVal.pers {G : Nat → Prop} {w : World} {β β' : Nat → Value} : ∀ {x : AV} {v : Value}, x.pers = true → AVal G w β x v → AVal G w β' x v
  | .s x, v, _, h => by simp only [AVal] at h ⊢; exact h
  | .nl _, v, _, h => by simp only [AVal] at h ⊢; exact h
  | .agg xs, v, hp, h => by
    simp only [AVal] at h ⊢
    obtain ⟨vs, h1, h2⟩ := h
    exact ⟨vs, h1, AVals.pers (by simpa [AV.pers] using hp) h2⟩
  | .tup xs, v, hp, h => by
    simp only [AVal] at h ⊢
    obtain ⟨vs, h1, h2⟩ := h
    exact ⟨vs, h1, AVals.pers (by simpa [AV.pers] using hp) h2⟩
  | .clo f xs, v, hp, h => by
    simp only [AVal] at h ⊢
    obtain ⟨vs, h1, h2⟩ := h
    exact ⟨vs, h1, AVals.pers (by simpa [AV.pers] using hp) h2⟩
  | .op .., v, hp, _ => by simp [AV.pers] at hp
  | .orow _, v, hp, _ => by simp [AV.pers] at hp
  | .rp .., v, hp, _ => by simp [AV.pers] at hp
  | .junk, _, _, _ => by simp only [AVal]
theorem AVals.pers {G : Nat → Prop} {w : World} {β β' : Nat → Value} : ∀ {xs : List AV} {vs : List Value}, AV.persAll xs = true → AVals G w β xs vs → AVals G w β' xs vs
  | [], _, _, h => by simp only [AVals] at h ⊢; exact h
  | x :: xs, vs, hp, h => by
    simp only [AVals] at h ⊢
    simp only [AV.persAll, Bool.and_eq_true] at hp
    obtain ⟨v, vs', h1, h2, h3⟩ := h
    exact ⟨v, vs', h1, AVal.pers hp.1 h2, AVals.pers hp.2 h3⟩
end

/-- One cell. -/
def AV.one : AV → Bool
  | .agg _ | .tup _ | .junk => false
  | _ => true

theorem AVal.one {G : Nat → Prop} {w : World} {β : Nat → Value} {x : AV} {v : Value} (hx : x.one = true) (h : AVal G w β x v) : v.oneCell' = true := by
  cases x <;> simp only [AV.one, Bool.false_eq_true] at hx <;> simp only [AVal] at h
  case s => exact h.one
  case nl => subst h; rfl
  case op => obtain ⟨b, _, rfl⟩ := h; rfl
  case orow => obtain ⟨_, o, n, c, rfl⟩ := h; rfl
  case rp => obtain ⟨b, n, c, _, rfl⟩ := h; rfl
  case clo => obtain ⟨vs, rfl, _⟩ := h; rfl

theorem AVal.one_s {G : Nat → Prop} {w : World} {β : Nat → Value} {x : S} {v : Value} (h : AVal G w β (.s x) v) : v.oneCell' = true := AVal.one (by rfl) h

end Go.Abs
