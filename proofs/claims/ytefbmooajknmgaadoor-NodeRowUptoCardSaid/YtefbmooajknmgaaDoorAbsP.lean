/-
  THE ABSTRACT MACHINE, PART P: typed data of the usual shapes.
-/
import Derived.Test.YtefbmooajknmgaaDoorAbsO
namespace Go.Abs

section
variable {T : Nat → Option TI}

theorem typed_int {n t : Nat} {ss : List S} {i : TI} {k : IntKind} (ht : T t = some i) (hk : i.k = .int k) (h : Typed T n t ss) : ∃ x : Int, ss = [.int k x] ∧ k.min ≤ x ∧ x ≤ k.max := by
  cases n with
  | zero => exact h.elim
  | succ n => simpa only [Typed, ht, hk] using h
theorem typed_bool {n t : Nat} {ss : List S} {i : TI} (ht : T t = some i) (hk : i.k = .bool) (h : Typed T n t ss) : ∃ b, ss = [.bool b] := by
  cases n with
  | zero => exact h.elim
  | succ n => simpa only [Typed, ht, hk] using h
theorem typed_str {n t : Nat} {ss : List S} {i : TI} (ht : T t = some i) (hk : i.k = .str) (h : Typed T n t ss) : ∃ l : List UInt8, ss = [.str l] ∧ l.length ≤ maxLen := by
  cases n with
  | zero => exact h.elim
  | succ n => simpa only [Typed, ht, hk] using h
theorem typed_slice {n t e : Nat} {ss : List S} {i : TI} (ht : T t = some i) (hk : i.k = .slice e) (h : Typed T n t ss) : ∃ m rows, n = m + 1 ∧ ss = [.sl (szOf T e) rows] ∧ rows.length ≤ maxLen ∧ ∀ r ∈ rows, Typed T m e r := by
  cases n with
  | zero => exact h.elim
  | succ n =>
    simp only [Typed, ht, hk] at h
    obtain ⟨rows, h1, h2, h3⟩ := h
    exact ⟨n, rows, rfl, h1, h2, h3⟩
theorem typed_struct {n t : Nat} {fs : List (Nat × Nat)} {ss : List S} {i : TI} (ht : T t = some i) (hk : i.k = .struct fs) (h : Typed T n t ss) : ∃ m, n = m + 1 ∧ seqOf (Typed T m) (fs.map (·.2)) ss := by
  cases n with
  | zero => exact h.elim
  | succ n =>
    simp only [Typed, ht, hk] at h
    exact ⟨n, rfl, h⟩
theorem typed_arr {n t len e : Nat} {ss : List S} {i : TI} (ht : T t = some i) (hk : i.k = .arr len e) (h : Typed T n t ss) : ∃ m, n = m + 1 ∧ seqOf (Typed T m) (List.replicate len e) ss := by
  cases n with
  | zero => exact h.elim
  | succ n =>
    simp only [Typed, ht, hk] at h
    exact ⟨n, rfl, h⟩

/-- Every member by a function of its own. -/
theorem all_map {α β : Type} {f : α → β} {q : α → Prop} : ∀ {l : List β}, (∀ y ∈ l, ∃ x, y = f x ∧ q x) → ∃ xs : List α, l = xs.map f ∧ ∀ x ∈ xs, q x
  | [], _ => ⟨[], rfl, fun _ h => by cases h⟩
  | y :: l, h => by
    obtain ⟨x, hx, hq⟩ := h y List.mem_cons_self
    obtain ⟨xs, h1, h2⟩ := all_map (fun z hz => h z (List.mem_cons_of_mem _ hz))
    refine ⟨x :: xs, by rw [hx, h1]; rfl, fun z hz => ?_⟩
    rcases List.mem_cons.1 hz with rfl | hz
    · exact hq
    · exact h2 z hz

/-- A row of integers of a kind. -/
def irow (k : IntKind) (x : Int) : List S := [.int k x]

theorem typed_ints {n t e : Nat} {ss : List S} {i j : TI} {k : IntKind} (ht : T t = some i) (hk : i.k = .slice e) (he : T e = some j) (hj : j.k = .int k) (h : Typed T n t ss) :
    ∃ xs : List Int, ss = [.sl j.size (xs.map (irow k))] ∧ xs.length ≤ maxLen ∧ ∀ x ∈ xs, k.min ≤ x ∧ x ≤ k.max := by
  obtain ⟨m, rows, _, rfl, h2, h3⟩ := typed_slice ht hk h
  obtain ⟨xs, rfl, hq⟩ := all_map (f := irow k) (q := fun x => k.min ≤ x ∧ x ≤ k.max) (l := rows) fun r hr => by
    obtain ⟨x, h4, h5⟩ := typed_int he hj (h3 r hr)
    exact ⟨x, h4, h5⟩
  exact ⟨xs, by simp [szOf, he], by simpa using h2, hq⟩

theorem brow_of {x : Int} (h0 : 0 ≤ x) (h1 : x ≤ 255) : ∃ c : UInt8, irow .u8 x = brow c := by
  refine ⟨UInt8.ofNat x.toNat, ?_⟩
  have : (UInt8.ofNat x.toNat).toNat = x.toNat := by simp [UInt8.toNat_ofNat']; omega
  simp only [brow, irow, this]
  rw [Int.toNat_of_nonneg h0]

theorem typed_bytes {n t e : Nat} {ss : List S} {i j : TI} (ht : T t = some i) (hk : i.k = .slice e) (he : T e = some j) (hj : j.k = .int .u8) (h : Typed T n t ss) :
    ∃ bs : List UInt8, ss = [.sl j.size (bs.map brow)] ∧ bs.length ≤ maxLen := by
  obtain ⟨m, rows, _, rfl, h2, h3⟩ := typed_slice ht hk h
  obtain ⟨bs, rfl, _⟩ := all_map (f := brow) (q := fun _ => True) (l := rows) fun r hr => by
    obtain ⟨x, h4, h5, h6⟩ := typed_int he hj (h3 r hr)
    obtain ⟨c, hc⟩ := brow_of (x := x) h5 h6
    exact ⟨c, h4.trans hc, trivial⟩
  exact ⟨bs, by simp [szOf, he], by simpa using h2⟩
end

theorem bulkL_pos : ∀ (l : List S), l.length ≤ bulkL l
  | [] => by simp [bulkL]
  | s :: l => by
    have := bulkL_pos l
    have h1 : 1 ≤ s.bulk := by cases s <;> simp [S.bulk]
    simp only [bulkL, List.length_cons]; omega

theorem bulk_rows : ∀ {rows : List (List S)}, (∀ r ∈ rows, 1 ≤ r.length) → rows.length ≤ bulkLL rows
  | [], _ => by simp [bulkLL]
  | r :: rows, h => by
    have h1 := h r List.mem_cons_self
    have h2 := bulkL_pos r
    have h3 := bulk_rows (rows := rows) (fun r' hr => h r' (List.mem_cons_of_mem _ hr))
    simp only [bulkLL, List.length_cons]; omega

theorem bulk_bytes (bs : List UInt8) : bs.length ≤ bulkLL (bs.map brow) := by
  have := bulk_rows (rows := bs.map brow) (fun r hr => by obtain ⟨c, _, rfl⟩ := List.mem_map.1 hr; exact Nat.le_refl 1)
  simpa using this
theorem bulk_ints (k : IntKind) (xs : List Int) : xs.length ≤ bulkLL (xs.map (irow k)) := by
  have := bulk_rows (rows := xs.map (irow k)) (fun r hr => by obtain ⟨c, _, rfl⟩ := List.mem_map.1 hr; exact Nat.le_refl 1)
  simpa using this

/-- Contracts for every height, put together. -/
theorem psound_all {P : Program} {f : Nat} {s : Nat → List AV → Ret → Prop} (h : ∀ n, PSound P f (pspec (s n))) : PSound P f (pspec fun xs r => ∃ n, s n xs r) :=
  ⟨(h 0).1, fun G w xs vs r hl hgl hp hv ⟨n, hn⟩ => (h n).2.1 G w xs vs r hl hgl hp hv hn, fun R hR => (by cases hR), fun R hR => (by cases hR)⟩
theorem psound_none {P : Program} {f : Nat} {s : List AV → Ret → Prop} (hcall : ∀ args w, (callFunc f args).run P w = .ok (.enter f args) w) (h : ∀ xs r, ¬ s xs r) : PSound P f (pspec s) :=
  ⟨hcall, fun G w xs vs r _ _ _ _ hs => absurd hs (h xs r), fun R hR => (by cases hR), fun R hR => (by cases hR)⟩
/-- The same of contracts over the whole heap. -/
theorem hsound_none {P : Program} {f : Nat} {R : List AV → (Nat → Option Ob) → Nat → (AV → (Nat → Option Ob) → Nat → Prop) → Prop} (hcall : ∀ args w, (callFunc f args).run P w = .ok (.enter f args) w) (h : ∀ xs hp n Φ, ¬ R xs hp n Φ) : PSound P f (hspec R) :=
  ⟨hcall, fun G w xs vs r _ _ _ _ hs => hs.elim, fun R hR => (by cases hR), fun R' hR' => by
    obtain rfl : R = R' := by simpa [hspec] using hR'
    exact fun G w β xs vs hp n Φ _ _ _ _ _ hs => absurd hs (h xs hp n Φ)⟩
theorem hsound_all {P : Program} {f : Nat} {s : Nat → List AV → (Nat → Option Ob) → Nat → (AV → (Nat → Option Ob) → Nat → Prop) → Prop} (h : ∀ n, PSound P f (hspec (s n))) : PSound P f (hspec fun xs hp n Φ => ∃ m, s m xs hp n Φ) :=
  ⟨(h 0).1, fun G w xs vs r _ _ _ _ hs => hs.elim, fun R hR => (by cases hR), fun R' hR' => by
    obtain rfl : (fun xs hp n Φ => ∃ m, s m xs hp n Φ) = R' := by simpa [hspec] using hR'
    exact fun G w β xs vs hp n Φ h1 h2 h3 h4 h5 ⟨m, hs⟩ => (h m).2.2.2 (s m) rfl G w β xs vs hp n Φ h1 h2 h3 h4 h5 hs⟩

end Go.Abs
