/-
  THE ABSTRACT MACHINE, PART Q: models of functions (values of Option with fuel), as the printed walks use them.
-/
import Derived.Test.YtefbmooajknmgaaDoorAbsP
set_option linter.unusedVariables false
namespace Go.Abs

/-- A condition that must hold. -/
def req {α : Type} (φ : Prop) [Decidable φ] (K : Option α) : Option α := if φ then K else none
theorem req_out {α : Type} {φ : Prop} [Decidable φ] {K : Option α} {r : α} (h : req φ K = some r) : φ ∧ K = some r := by
  unfold req at h
  split at h
  · exact ⟨by assumption, h⟩
  · cases h
theorem req_t {α : Type} {φ : Prop} [Decidable φ] {K : Option α} (h : φ) : req φ K = K := if_pos h
theorem bind_out {α β : Type} {o : Option α} {f : α → Option β} {r : β} (h : o.bind f = some r) : ∃ x, o = some x ∧ f x = some r := by
  cases o with
  | none => cases h
  | some x => exact ⟨x, rfl, h⟩
theorem bif_t {α : Type} {b : Bool} {A B : Option α} {r : α} (hb : b = true) (h : (bif b then A else B) = some r) : A = some r := by subst hb; exact h
theorem bif_f {α : Type} {b : Bool} {A B : Option α} {r : α} (hb : b = false) (h : (bif b then A else B) = some r) : B = some r := by subst hb; exact h
theorem none_out {α : Type} {p : Prop} {o : Option α} {r : α} (ho : o = none) (h : o = some r) : p := by rw [ho] at h; cases h

/-- How a loop ends: the function is left with a result, or the loop with its variables. -/
inductive Fl (R G : Type) where
  | ret (r : R)
  | go (g : G)

/-- An element at an index that must be in range. -/
def at? {α : Type} (l : List α) (i : Int) : Option α := if 0 ≤ i then l[i.toNat]? else none
theorem at_ok {α : Type} {R : List α → List (List S)} {f : α → List S} (hR : ∀ l, R l = l.map f) {l : List α} {i : Int} {y : α} (h : at? l i = some y) :
    (0 ≤ i ∧ i < ((R l).length : Int)) ∧ (R l).getD i.toNat [] = f y ∧ i.toNat < (R l).length := by
  unfold at? at h
  split at h
  · rename_i h0
    obtain ⟨hl, hy⟩ := List.getElem?_eq_some_iff.1 h
    rw [hR, List.length_map]
    exact ⟨⟨h0, by omega⟩, by simp [h], hl⟩
  · cases h
theorem at_get {α : Type} {l : List α} {i : Nat} (h : i < l.length) : at? l (i : Int) = some l[i] := by
  simp [at?, h]
theorem rlen {α : Type} {R : List α → List (List S)} {f : α → List S} (hR : ∀ l, R l = l.map f) (l : List α) : (R l).length = l.length := by rw [hR, List.length_map]
theorem rcut {α : Type} {R : List α → List (List S)} {f : α → List S} (hR : ∀ l, R l = l.map f) (l : List α) (a b : Nat) : ((R l).take b).drop a = R ((l.take b).drop a) := by
  rw [hR, hR, List.map_drop, List.map_take]
theorem rtake {α : Type} {R : List α → List (List S)} {f : α → List S} (hR : ∀ l, R l = l.map f) (l : List α) (b : Nat) : (R l).take b = R (l.take b) := by
  rw [hR, hR, List.map_take]
theorem rapp {α : Type} {R : List α → List (List S)} {f : α → List S} (hR : ∀ l, R l = l.map f) (l m : List α) : R l ++ R m = R (l ++ m) := by
  rw [hR, hR, hR, List.map_append]
theorem rnil {α : Type} {R : List α → List (List S)} {f : α → List S} (hR : ∀ l, R l = l.map f) : ([] : List (List S)) = R [] := by
  rw [hR, List.map_nil]
theorem rone {α : Type} {R : List α → List (List S)} {f : α → List S} (hR : ∀ l, R l = l.map f) (y : α) : [f y] = R [y] := by
  rw [hR, List.map_cons, List.map_nil]
theorem rcons {α : Type} {R : List α → List (List S)} {f : α → List S} (hR : ∀ l, R l = l.map f) (y : α) {m : List (List S)} {l : List α} (h : m = R l) : f y :: m = R (y :: l) := by
  rw [hR, List.map_cons, h, hR]

theorem at_set {α : Type} {l : List α} {i : Int} {y : α} (h : at? l i = some y) (y' : α) : at? (l.set i.toNat y') i = some y' := by
  unfold at? at h ⊢
  split at h
  · rename_i h0
    rw [if_pos h0]
    rw [List.getElem?_set_self (List.getElem?_eq_some_iff.1 h).1]
  · cases h
theorem rset {α : Type} {R : List α → List (List S)} {f : α → List S} (hR : ∀ l, R l = l.map f) {l : List α} {i : Int} {y : α} (h : at? l i = some y) (y' : α) (o n : Nat) (ss : List S) (hs : (f y).take o ++ ss ++ (f y).drop n = f y') :
    (R l).set i.toNat (((R l).getD i.toNat []).take o ++ ss ++ ((R l).getD i.toNat []).drop n) = R (l.set i.toNat y') := by
  rw [(at_ok hR h).2.1, hs, hR, hR, List.map_set]
/-- A byte out of a number of that kind. -/
def b8of (n : Int) : UInt8 := UInt8.ofNat n.toNat
theorem b8of_toNat (c : UInt8) : b8of (c.toNat : Int) = c := by simp [b8of]
theorem b8of_row {n : Int} (h0 : 0 ≤ n) (h1 : n ≤ 255) : [S.int .u8 n] = brow (b8of n) := by
  have : (b8of n).toNat = n.toNat := by simp [b8of, UInt8.toNat_ofNat']; omega
  simp only [brow, this, Int.toNat_of_nonneg h0]
theorem wrap8_range (n : Int) : 0 ≤ IntKind.u8.wrap n ∧ IntKind.u8.wrap n ≤ 255 := by
  have : IntKind.u8.wrap n = n % 256 := by
    simp only [IntKind.wrap, IntKind.bits, IntKind.signed]
    simp
  rw [this]; omega
theorem b8of_wrap (n : Int) : [S.int .u8 (IntKind.u8.wrap n)] = brow (b8of (IntKind.u8.wrap n)) := b8of_row (wrap8_range n).1 (wrap8_range n).2
theorem brow_back (l : List UInt8) : (l.map brow).map browOf = l := by
  induction l with
  | nil => rfl
  | cons c l ih =>
    have : browOf (brow c) = c := by simp [browOf, brow]
    simp only [List.map_cons, this, ih]

/-- Behind a code that ends normally in one state. -/
theorem tri_join {c : Cx} {σ : St} {Q : End → St → Prop} {x y : Code} (σ1 : St) (h1 : Tri c x σ (fun e σ' => match e with | .normal => Le c σ' σ1 | e => Q e σ')) (h2 : Tri c y σ1 Q) : Tri c (.seq x y) σ Q :=
  tri_seq (tri_mono h1 fun e σ' hq => by
    cases e with
    | normal => exact tri_le hq h2
    | exit id => exact hq
    | ret => exact hq)

theorem tri_post {c : Cx} {σ : St} {Q : End → St → Prop} {x : Code} (σ1 : St) (h1 : Tri c x σ (fun e σ' => match e with | .normal => Le c σ' σ1 | e => Q e σ')) (h2 : ∀ σ', Le c σ' σ1 → Q .normal σ') : Tri c x σ Q :=
  tri_mono h1 fun e σ' hq => by
    cases e with
    | normal => exact h2 σ' hq
    | exit id => exact hq
    | ret => exact hq
theorem tri_fl {c : Cx} {σ : St} {Q : End → St → Prop} {x : Code} {R Z : Type} {fl : Fl R Z} (E : Z → St) (h1 : Tri c x σ (fun e σ' => match e with | .normal => ∃ z, fl = .go z ∧ Le c σ' (E z) | e => Q e σ'))
    (h2 : ∀ z σ', fl = .go z → Le c σ' (E z) → Q .normal σ') : Tri c x σ Q :=
  tri_mono h1 fun e σ' hq => by
    cases e with
    | normal => obtain ⟨z, h3, h4⟩ := hq; exact h2 z σ' h3 h4
    | exit id => exact hq
    | ret => exact hq
/-- A byte of a string. -/
theorem str_ok {l : List UInt8} {i : Int} {y : UInt8} (h : at? l i = some y) : (0 ≤ i ∧ i < (l.length : Int)) ∧ ((l.getD i.toNat 0).toNat : Int) = (y.toNat : Int) := by
  unfold at? at h
  split at h
  · rename_i h0
    obtain ⟨hl, hy⟩ := List.getElem?_eq_some_iff.1 h
    exact ⟨⟨h0, by omega⟩, by simp [h]⟩
  · cases h

theorem PSound.withNil {P : Program} {f : Nat} {R : List AV → List Ob → AV → List (Option Ob) → Prop} (h : PSound P f (ospec R)) (k : Option Nat) : PSound P f (ospec R k) := ⟨h.1, h.2.1, h.2.2.1, fun R hR => by cases hR⟩
theorem osound_none {P : Program} {f : Nat} {R : List AV → List Ob → AV → List (Option Ob) → Prop} (hcall : ∀ args w, (callFunc f args).run P w = .ok (.enter f args) w) (h : ∀ xs os x os', ¬ R xs os x os') (k : Option Nat) : PSound P f (ospec R k) :=
  ⟨hcall, fun G w xs vs r _ _ _ _ hs => hs.elim, fun R' hR' => (by
    obtain rfl : R = R' := by simpa [ospec] using hR'
    exact fun G w β xs vs os x os' _ _ _ _ _ hs => absurd hs (h xs os x os')), fun R hR => (by cases hR)⟩
theorem osound_all {P : Program} {f : Nat} {s : Nat → List AV → List Ob → AV → List (Option Ob) → Prop} {k : Option Nat} (h : ∀ n, PSound P f (ospec (s n) k)) (k' : Option Nat) : PSound P f (ospec (fun xs os x os' => ∃ n, s n xs os x os') k') :=
  ⟨(h 0).1, fun G w xs vs r _ _ _ _ hs => hs.elim, fun R' hR' => (by
    obtain rfl : (fun xs os x os' => ∃ n, s n xs os x os') = R' := by simpa [ospec] using hR'
    exact fun G w β xs vs os x os' h1 h2 h3 h4 h5 ⟨n, hs⟩ => (h n).2.2.1 (s n) rfl G w β xs vs os x os' h1 h2 h3 h4 h5 hs), fun R hR => (by cases hR)⟩

/-- Something holds for all fuels from some on. -/
def Ev (p : Nat → Prop) : Prop := ∃ N, ∀ n, N ≤ n → p n
theorem Ev.and {p q : Nat → Prop} (h : Ev p) (k : Ev q) : Ev fun n => p n ∧ q n := by
  obtain ⟨a, ha⟩ := h
  obtain ⟨b, hb⟩ := k
  exact ⟨a + b, fun n hn => ⟨ha n (by omega), hb n (by omega)⟩⟩
theorem Ev.mono {p q : Nat → Prop} (h : Ev p) (k : ∀ n, p n → q n) : Ev q := by
  obtain ⟨a, ha⟩ := h
  exact ⟨a, fun n hn => k n (ha n hn)⟩
theorem Ev.ge (m : Nat) : Ev fun n => m ≤ n := ⟨m, fun _ h => h⟩
theorem Ev.all {p : Nat → Prop} (h : ∀ n, p n) : Ev p := ⟨0, fun n _ => h n⟩
theorem Ev.succ {p : Nat → Prop} (h : Ev fun n => p (n + 1)) : Ev p := by
  obtain ⟨a, ha⟩ := h
  refine ⟨a + 1, fun n hn => ?_⟩
  obtain ⟨m, rfl⟩ : ∃ m, n = m + 1 := ⟨n - 1, by omega⟩
  exact ha m (by omega)
theorem Ev.list {α : Type} {p : α → Nat → Prop} : ∀ {l : List α}, (∀ x ∈ l, Ev (p x)) → Ev fun n => ∀ x ∈ l, p x n
  | [], _ => .all fun n x h => by cases h
  | y :: l, h => ((h y List.mem_cons_self).and (Ev.list fun x hx => h x (List.mem_cons_of_mem _ hx))).mono fun n ⟨h1, h2⟩ x hx => by
    rcases List.mem_cons.1 hx with rfl | hx
    · exact h1
    · exact h2 x hx

/- A loop over a list by an index: what is left of the list. -/
theorem at_drop {α : Type} {l : List α} {i : Nat} {v : α} {r : List α} (h : l.drop i = v :: r) : at? l (i : Int) = some v := by
  have hi : i < l.length := by
    rcases Nat.lt_or_ge i l.length with h1 | h1
    · exact h1
    · rw [List.drop_eq_nil_of_le h1] at h; cases h
  rw [at_get hi]
  rw [List.drop_eq_getElem_cons hi] at h
  exact congrArg some (List.cons.inj h).1
theorem drop_lt {α : Type} {l : List α} {i : Nat} {v : α} {r : List α} (h : l.drop i = v :: r) : i < l.length := by
  rcases Nat.lt_or_ge i l.length with h1 | h1
  · exact h1
  · rw [List.drop_eq_nil_of_le h1] at h; cases h
theorem drop_on {α : Type} {l : List α} {i : Nat} {v : α} {r : List α} (h : l.drop i = v :: r) : l.drop (i + 1) = r := by
  rw [List.drop_eq_getElem_cons (drop_lt h)] at h
  exact (List.cons.inj h).2
theorem lt_drop {α : Type} {l : List α} {i : Nat} {v : α} {r : List α} (h : l.drop i = v :: r) : decide ((i : Int) < (l.length : Int)) = true := by
  have := drop_lt h
  simpa using this
theorem nil_drop {α : Type} {l : List α} {i : Nat} (h : l.drop i = []) : decide ((i : Int) < (l.length : Int)) = false := by
  have := List.drop_eq_nil_iff.1 h
  simpa using this
theorem wi_succ {i : Nat} (h : i < 9223372036854775807) : IntKind.i64.wrap ((i : Int) + 1) = ((i + 1 : Nat) : Int) := by
  rw [wrap64_in (by omega) (by omega)]; rfl
theorem mem_drop {α : Type} {l : List α} {i : Nat} {v : α} {r : List α} (h : l.drop i = v :: r) : v ∈ l := by
  have := List.mem_of_mem_drop (a := v) (l := l) (i := i) (by rw [h]; exact List.mem_cons_self)
  exact this
end Go.Abs
