/-
  THE ABSTRACT MACHINE, PART B: the state of a frame, what it stands for, and the ways in which the world goes on.
-/
import Derived.Test.YtefbmooajknmgaaDoorAbsA
import Derived.Test.YtefbmooajknmgaaDoorAbsZ
import Derived.Deep.AppendSrc
namespace Go.Abs

/-- The shape of a type, as the abstract machine needs it. -/
inductive TK where
  | bool | int (k : IntKind) | str | slice (e : Nat) | ptr (e : Nat) | struct (fs : List (Nat × Nat)) | arr (n e : Nat) | fn | other
  deriving Inhabited

structure TI where
  k : TK
  size : Nat
  bytes : Nat
  zero : List S
  deriving Inhabited

def tkOf : TypeDesc → TK
  | .bool => .bool
  | .int k => .int k
  | .string => .str
  | .slice e => .slice e
  | .pointer e => .ptr e
  | .struct fs => .struct (fs.toList.map fun f => (f.offset, f.type))
  | .array n e => .arr n e
  | .func .. => .fn
  | _ => .other

/-- The value of a scalar that leads to no memory. -/
def S.zval : S → Value
  | .int k n => .int k n
  | .bool b => .bool b
  | .str s => .string ⟨s.toArray⟩
  | .sl _ _ => .slice none 0 0
  | .np => .pointer none
  | .pt _ => .pointer none
  | .fn f => .func (.func f) #[] #[]
  | .nf => .nilFunc
def S.zok : S → Bool
  | .sl _ [] => true
  | .sl _ _ => false
  | .pt _ => false
  | _ => true

theorem S.zrep {G : Nat → Prop} {w : World} : ∀ {s : S}, s.zok = true → Rep G w s s.zval
  | .int .., _ => by simp [Rep, S.zval]
  | .bool _, _ => by simp [Rep, S.zval]
  | .str _, _ => by simp [Rep, S.zval]
  | .sl _ [], _ => by simp [Rep, S.zval]
  | .sl _ (_ :: _), h => by simp [S.zok] at h
  | .np, _ => by simp [Rep, S.zval]
  | .pt _, h => by simp [S.zok] at h
  | .fn _, _ => by simp [Rep, S.zval]
  | .nf, _ => by simp [Rep, S.zval]

def TK.agg : TK → Bool
  | .struct _ | .arr _ _ => true
  | _ => false

/-- The table tells the program's own types. -/
def TOk (P : Program) (T : Nat → Option TI) : Prop :=
  ∀ t i, T t = some i → ∃ d info z, P.underlying t = some d ∧ tkOf d = i.k ∧ P.info? t = some info ∧ info.size = i.size ∧ info.bytes = i.bytes ∧
    info.zero = some z ∧ z = (if i.k.agg then .agg (i.zero.map S.zval).toArray else (i.zero.headD .np).zval) ∧ i.zero.length = i.size ∧ (i.k.agg = false → i.size = 1) ∧ i.zero.all S.zok = true

section
variable {P : Program} {T : Nat → Option TI} (w : World)
theorem run_underlying' {t : Nat} {d : TypeDesc} (h : P.underlying t = some d) : (underlying t).run P w = .ok d w := by simp [underlying, h]
theorem run_typeInfo' {t : Nat} {i : TypeInfo} (h : P.info? t = some i) : (typeInfo t).run P w = .ok i w := by simp [typeInfo, h]
theorem run_sizeOf' {t : Nat} {i : TypeInfo} (h : P.info? t = some i) : (sizeOf t).run P w = .ok i.size w := by simp [sizeOf, run_typeInfo' w h]
theorem run_isAgg' {t : Nat} {d : TypeDesc} (h : P.underlying t = some d) : (isAgg t).run P w = .ok (tkOf d).agg w := by
  simp only [isAgg, Sem.run_bind, run_underlying' w h, Result.andThen_ok]
  cases d <;> rfl
theorem run_zero' {t : Nat} {i : TypeInfo} {z : Value} (h : P.info? t = some i) (hz : i.zero = some z) : (zeroValue t).run P w = .ok z w := by
  simp [zeroValue, run_typeInfo' w h, hz]
end

/-- What the frame began with: the program, the world, the blocks that it may write, the blocks that it took as persistent, the number of its temporaries. -/
structure Cx where
  P : Program
  w0 : World
  X : Nat → Prop
  G0 : Nat → Prop
  N : Nat
  n0 : Nat := 0
  B0 : Nat → Value := fun _ => .tuple #[]

def Cx.mine (c : Cx) (b : Nat) : Prop := c.X b ∨ c.w0.heap.size ≤ b

structure St where
  env : Nat → AV
  hp : Nat → Option Ob
  nx : Nat

def St.put (σ : St) (d : Option Nat) (x : AV) : St :=
  match d with
  | none => σ
  | some d => { σ with env := fun t => bif Nat.beq t d then x else σ.env t }

mutual
/-- All references are to keys below n. -/
def AV.lt (n : Nat) : AV → Bool
  | .op k _ => decide (k < n)
  | .orow k => decide (k < n)
  | .rp k _ _ _ => decide (k < n)
  | .agg xs => AV.ltAll n xs
  | .tup xs => AV.ltAll n xs
  | .clo _ xs => AV.ltAll n xs
  | _ => true
def AV.ltAll (n : Nat) : List AV → Bool
  | [] => true
  | x :: xs => x.lt n && AV.ltAll n xs
end

mutual
theorem AV.lt_mono {n m : Nat} (h : n ≤ m) : ∀ {x : AV}, x.lt n = true → x.lt m = true
  | .op .., hx => by simp only [AV.lt, decide_eq_true_eq] at *; omega
  | .orow _, hx => by simp only [AV.lt, decide_eq_true_eq] at *; omega
  | .rp .., hx => by simp only [AV.lt, decide_eq_true_eq] at *; omega
  | .agg xs, hx => by simp only [AV.lt] at *; exact AV.ltAll_mono h hx
  | .tup xs, hx => by simp only [AV.lt] at *; exact AV.ltAll_mono h hx
  | .clo _ xs, hx => by simp only [AV.lt] at *; exact AV.ltAll_mono h hx
  | .s _, _ => by simp only [AV.lt]
  | .nl _, _ => by simp only [AV.lt]
  | .junk, _ => by simp only [AV.lt]
theorem AV.ltAll_mono {n m : Nat} (h : n ≤ m) : ∀ {xs : List AV}, AV.ltAll n xs = true → AV.ltAll m xs = true
  | [], _ => by simp only [AV.ltAll]
  | x :: xs, hx => by
    simp only [AV.ltAll, Bool.and_eq_true] at *
    exact ⟨AV.lt_mono h hx.1, AV.ltAll_mono h hx.2⟩
end

mutual
theorem AVal.beta {G : Nat → Prop} {w : World} {β β' : Nat → Value} {n : Nat} (hb : ∀ k, k < n → β' k = β k) : ∀ {x : AV} {v : Value}, x.lt n = true → AVal G w β x v → AVal G w β' x v
  | .s x, v, _, h => by simp only [AVal] at h ⊢; exact h
  | .nl _, v, _, h => by simp only [AVal] at h ⊢; exact h
  | .agg xs, v, hp, h => by
    simp only [AVal] at h ⊢
    obtain ⟨vs, h1, h2⟩ := h
    exact ⟨vs, h1, AVals.beta hb (by simpa only [AV.lt] using hp) h2⟩
  | .tup xs, v, hp, h => by
    simp only [AVal] at h ⊢
    obtain ⟨vs, h1, h2⟩ := h
    exact ⟨vs, h1, AVals.beta hb (by simpa only [AV.lt] using hp) h2⟩
  | .clo f xs, v, hp, h => by
    simp only [AVal] at h ⊢
    obtain ⟨vs, h1, h2⟩ := h
    exact ⟨vs, h1, AVals.beta hb (by simpa only [AV.lt] using hp) h2⟩
  | .op k _, v, hp, h => by simp only [AVal, AV.lt, decide_eq_true_eq] at *; rw [hb k hp]; exact h
  | .orow k, v, hp, h => by simp only [AVal, AV.lt, decide_eq_true_eq] at *; rw [hb k hp]; exact h
  | .rp k _ _ _, v, hp, h => by simp only [AVal, AV.lt, decide_eq_true_eq] at *; rw [hb k hp]; exact h
  | .junk, _, _, _ => by simp only [AVal]
theorem AVals.beta {G : Nat → Prop} {w : World} {β β' : Nat → Value} {n : Nat} (hb : ∀ k, k < n → β' k = β k) : ∀ {xs : List AV} {vs : List Value}, AV.ltAll n xs = true → AVals G w β xs vs → AVals G w β' xs vs
  | [], _, _, h => by simp only [AVals] at h ⊢; exact h
  | x :: xs, vs, hp, h => by
    simp only [AVals] at h ⊢
    simp only [AV.ltAll, Bool.and_eq_true] at hp
    obtain ⟨v, vs', h1, h2, h3⟩ := h
    exact ⟨v, vs', h1, AVal.beta hb hp.1 h2, AVals.beta hb hp.2 h3⟩
end

def Ob.lt (n : Nat) : Ob → Bool
  | .box _ cells => AV.ltAll n cells
  | .row .. => true
  | .arow _ _ rows => AV.ltAll n rows.flatten

/-- What the own object k is: 'v' its address. -/
def ObAt (c : Cx) (G : Nat → Prop) (w : World) (β : Nat → Value) (v : Value) : Ob → Prop
  | .box t cells => ∃ b e cur, v = .pointer (some ⟨b, 0, none⟩) ∧ w.heap[b]? = some (.cells cur e (0, 0)) ∧ ¬ G b ∧ c.mine b ∧
      AVals G w β cells cur.toList ∧ (∀ u ∈ cur.toList, u.oneCell' = true) ∧ e = t
  | .row e sz rows => (∀ r ∈ rows, r.length = sz) ∧ 0 < sz ∧
      ((v = .slice none 0 0 ∧ rows = []) ∨ ∃ b cap cur, v = .slice (some ⟨b, 0, none⟩) rows.length cap ∧ rows.length ≤ cap ∧ cur.size = cap * sz ∧
        w.heap[b]? = some (.cells cur e (0, 0)) ∧ ¬ G b ∧ c.mine b ∧ ∀ (i : Nat) s, rows.flatten[i]? = some s → ∃ u, cur[i]? = some u ∧ Rep G w s u)
  | .arow e sz rows => (∀ r ∈ rows, r.length = sz) ∧ 0 < sz ∧
      ((v = .slice none 0 0 ∧ rows = []) ∨ ∃ b cap cur, v = .slice (some ⟨b, 0, none⟩) rows.length cap ∧ rows.length ≤ cap ∧ cur.size = cap * sz ∧
        w.heap[b]? = some (.cells cur e (0, 0)) ∧ ¬ G b ∧ c.mine b ∧ ∀ (i : Nat) x, rows.flatten[i]? = some x → ∃ u, cur[i]? = some u ∧ AVal G w β x u ∧ u.oneCell' = true)

theorem ltAll_get' {n : Nat} : ∀ {l : List AV} {q : Nat} {y : AV}, AV.ltAll n l = true → l[q]? = some y → y.lt n = true
  | [], _, _, _, h => by simp at h
  | x :: l, 0, y, h, hq => by simp only [AV.ltAll, Bool.and_eq_true] at h; simp at hq; subst hq; exact h.1
  | x :: l, q + 1, y, h, hq => by simp only [AV.ltAll, Bool.and_eq_true] at h; exact ltAll_get' h.2 (by simpa using hq)
theorem ltAll_mk' {n : Nat} : ∀ {l : List AV}, (∀ (q : Nat) (y : AV), l[q]? = some y → y.lt n = true) → AV.ltAll n l = true
  | [], _ => rfl
  | x :: l, h => by
    simp only [AV.ltAll, Bool.and_eq_true]
    exact ⟨h 0 x (by simp), ltAll_mk' fun q y hq => h (q + 1) y (by simpa using hq)⟩

/-- An own row of any cells, where nothing of its block has turned. -/
theorem ObAt.moveA {c c' : Cx} {G G' : Nat → Prop} {w w' : World} {β β' : Nat → Value} {v : Value} {e sz : Nat} {rows : List (List AV)} (ho : ObAt c G w β v (.arow e sz rows))
    (hb : ∀ b x, blk v = some b → w.heap[b]? = some x → w'.heap[b]? = some x) (hg : ∀ b x, blk v = some b → w.heap[b]? = some x → ¬ G b → ¬ G' b) (hm : ∀ b, blk v = some b → c.mine b → c'.mine b)
    (hA : ∀ (i : Nat) x u, rows.flatten[i]? = some x → AVal G w β x u → AVal G' w' β' x u) : ObAt c' G' w' β' v (.arow e sz rows) := by
  obtain ⟨h0, h0', h1⟩ := ho
  refine ⟨h0, h0', h1.imp id ?_⟩
  rintro ⟨b, cap, cur, h1, h2, h3, h4, h5, h6, h7⟩
  have hbv : blk v = some b := by rw [h1]; rfl
  exact ⟨b, cap, cur, h1, h2, h3, hb b _ hbv h4, hg b _ hbv h4 h5, hm b hbv h6, fun i x hi => let ⟨u, hu, hr, h1⟩ := h7 i x hi; ⟨u, hu, hA i x u hi hr, h1⟩⟩

/-- The package-level variables that are read hold what the table says. -/
def GlobOk (G : Nat → Prop) (w : World) : Prop := (∀ g row, globs g = some row → RepRow G w g row 0) ∧ ∀ g cs, gtabs g = some cs → G g ∧ ∃ e f, w.heap[g]? = some (.cells cs e f)
theorem GlobOk.keep {G G' : Nat → Prop} {w w' : World} (k : Keep G G' w w') (h : GlobOk G w) : GlobOk G' w' :=
  ⟨fun g row hg => RepRow.keep k (h.1 g row hg), fun g cs hg => let ⟨h1, e, f, h2⟩ := h.2 g cs hg; ⟨k.sub g h1, e, f, (k.same g h1).trans h2⟩⟩

/-- The frame's own blocks, and new ones, may have been written; nothing else has turned. -/
structure Fr (X : Nat → Prop) (w w' : World) : Prop where
  os : w'.os = w.os
  tape : w'.tape = w.tape
  output : w'.output = w.output
  size : w.heap.size ≤ w'.heap.size
  old : ∀ b, b < w.heap.size → ¬ X b → w'.heap[b]? = w.heap[b]?

theorem Fr.refl (X : Nat → Prop) (w : World) : Fr X w w := ⟨rfl, rfl, rfl, Nat.le_refl _, fun _ _ _ => rfl⟩
theorem Fr.trans {X : Nat → Prop} {a b c : World} (h : Fr X a b) (k : Fr X b c) : Fr X a c :=
  ⟨k.os.trans h.os, k.tape.trans h.tape, k.output.trans h.output, Nat.le_trans h.size k.size, fun i hi hx => (k.old i (Nat.lt_of_lt_of_le hi h.size) hx).trans (h.old i hi hx)⟩

structure Conc (c : Cx) (G : Nat → Prop) (β : Nat → Value) (σ : St) (a : Act) (w : World) : Prop where
  defers : a.defers = []
  size : a.tmps.size = c.N
  env : ∀ t, AVal G w β (σ.env t) (a.tmps.getD t undef)
  envlt : ∀ t, (σ.env t).lt σ.nx = true
  hp : ∀ k ob, σ.hp k = some ob → ObAt c G w β (β k) ob
  hplt : ∀ k ob, σ.hp k = some ob → k < σ.nx ∧ ob.lt σ.nx = true
  inj : ∀ k k' ob ob', σ.hp k = some ob → σ.hp k' = some ob' → k ≠ k' → ∀ b, blk (β k) = some b → blk (β k') ≠ some b
  lt : ∀ b, G b → b < w.heap.size
  sub : ∀ b, c.G0 b → G b
  new : ∀ b, G b → c.G0 b ∨ c.mine b
  fr : Fr c.X c.w0 w
  stay : c.n0 ≤ σ.nx ∧ ∀ k, k < c.n0 → β k = c.B0 k
  glob : GlobOk G w

/-- The world has grown, nothing that was there has turned. -/
structure Ext (G G' : Nat → Prop) (w w' : World) : Prop where
  os : w'.os = w.os
  tape : w'.tape = w.tape
  output : w'.output = w.output
  size : w.heap.size ≤ w'.heap.size
  old : ∀ b, b < w.heap.size → w'.heap[b]? = w.heap[b]?
  sub : ∀ b, G b → G' b
  new : ∀ b, G' b → G b ∨ w.heap.size ≤ b
  lt : ∀ b, G' b → b < w'.heap.size

theorem Ext.refl {G : Nat → Prop} {w : World} (h : ∀ b, G b → b < w.heap.size) : Ext G G w w :=
  ⟨rfl, rfl, rfl, Nat.le_refl _, fun _ _ => rfl, fun _ h => h, fun _ h => .inl h, h⟩
theorem Ext.trans {G G' G'' : Nat → Prop} {w w' w'' : World} (h : Ext G G' w w') (k : Ext G' G'' w' w'') : Ext G G'' w w'' :=
  ⟨k.os.trans h.os, k.tape.trans h.tape, k.output.trans h.output, Nat.le_trans h.size k.size,
   fun b hb => (k.old b (Nat.lt_of_lt_of_le hb h.size)).trans (h.old b hb), fun b hb => k.sub b (h.sub b hb),
   fun b hb => (k.new b hb).elim (fun h1 => h.new b h1) (fun h1 => .inr (Nat.le_trans h.size h1)), k.lt⟩
theorem Ext.keep {G G' : Nat → Prop} {w w' : World} (h : Ext G G' w w') (hl : ∀ b, G b → b < w.heap.size) : Keep G G' w w' :=
  ⟨h.sub, fun b hb => h.old b (hl b hb)⟩
theorem Ext.drew {G : Nat → Prop} {w : World} (h : ∀ b, G b → b < w.heap.size) : Ext G G w w.drew :=
  ⟨rfl, rfl, rfl, Nat.le_refl _, fun _ _ => rfl, fun _ h => h, fun _ h => .inl h, h⟩
theorem heap_push_old (w : World) (o : Obj) {b : Nat} (h : b < w.heap.size) : (w.alloc o).heap[b]? = w.heap[b]? := by
  show (w.heap.push o)[b]? = _
  rw [Array.getElem?_push, if_neg (by omega)]
theorem heap_push_new (w : World) (o : Obj) : (w.alloc o).heap[w.heap.size]? = some o := by
  show (w.heap.push o)[w.heap.size]? = _
  rw [Array.getElem?_push, if_pos rfl]
/-- A new block that is persistent from the first. -/
theorem Ext.alloc {G : Nat → Prop} {w : World} (h : ∀ b, G b → b < w.heap.size) (o : Obj) : Ext G (fun b => G b ∨ b = w.heap.size) w (w.alloc o) :=
  ⟨rfl, rfl, rfl, by simp, fun _ hb => heap_push_old w o hb, fun _ h => .inl h, fun b hb => hb.imp id (fun e => by omega), fun b hb => by
    rcases hb with hb | rfl
    · have := h b hb; simp; omega
    · simp⟩

theorem ObAt.ext {c : Cx} {G G' : Nat → Prop} {w w' : World} {β : Nat → Value} {v : Value} {ob : Ob} (hl : ∀ b, G b → b < w.heap.size) (h : Ext G G' w w') (ho : ObAt c G w β v ob) : ObAt c G' w' β v ob := by
  have k := h.keep hl
  have hlt : ∀ b x, w.heap[b]? = some x → b < w.heap.size := fun b x hx => (Array.getElem?_eq_some_iff.1 hx).1
  have hng : ∀ b x, w.heap[b]? = some x → ¬ G b → ¬ G' b := fun b x hx hg hg' => (h.new b hg').elim hg (fun h1 => by have := hlt b x hx; omega)
  cases ob with
  | box cells =>
    obtain ⟨b, e, cur, h1, h2, h3, h4, h5, h6⟩ := ho
    exact ⟨b, e, cur, h1, by rw [h.old b (hlt _ _ h2)]; exact h2, hng b _ h2 h3, h4, h5.keep k, h6⟩
  | row e sz rows =>
    obtain ⟨h0, h0', h1⟩ := ho
    refine ⟨h0, h0', h1.imp id ?_⟩
    rintro ⟨b, cap, cur, h1, h2, h3, h4, h5, h6, h7⟩
    exact ⟨b, cap, cur, h1, h2, h3, by rw [h.old b (hlt _ _ h4)]; exact h4, hng b _ h4 h5, h6, fun i s hi => let ⟨u, hu, hr⟩ := h7 i s hi; ⟨u, hu, hr.keep k⟩⟩
  | arow e sz rows => exact ho.moveA (fun b x _ hx => by rw [h.old b (hlt _ _ hx)]; exact hx) (fun b x _ hx hg => hng b x hx hg) (fun _ _ h => h) (fun _ _ _ _ hr => hr.keep k)

theorem Conc.ext {c : Cx} {G G' : Nat → Prop} {β : Nat → Value} {σ : St} {a : Act} {w w' : World} (h : Conc c G β σ a w) (he : Ext G G' w w') : Conc c G' β σ a w' where
  defers := h.defers
  size := h.size
  env t := (h.env t).keep (he.keep h.lt)
  envlt := h.envlt
  hp k ob hk := (h.hp k ob hk).ext h.lt he
  hplt := h.hplt
  inj := h.inj
  lt := he.lt
  sub b hb := he.sub b (h.sub b hb)
  new b hb := (he.new b hb).elim (fun h1 => h.new b h1) (fun h1 => .inr (.inr (Nat.le_trans h.fr.size h1)))
  fr := h.fr.trans ⟨he.os, he.tape, he.output, he.size, fun b hb _ => he.old b hb⟩
  stay := h.stay
  glob := h.glob.keep (he.keep h.lt)

theorem put_size (a : Act) (d : Option Nat) (v : Value) : (a.put d v).tmps.size = a.tmps.size := by cases d <;> simp [Act.put]
theorem put_defers (a : Act) (d : Option Nat) (v : Value) : (a.put d v).defers = a.defers := by cases d <;> simp [Act.put]

theorem Conc.put {c : Cx} {G : Nat → Prop} {β : Nat → Value} {σ : St} {a : Act} {w : World} (h : Conc c G β σ a w) {d : Option Nat} {x : AV} {v : Value}
    (hd : ∀ t, d = some t → t < c.N) (hx : AVal G w β x v) (hl : x.lt σ.nx = true) : Conc c G β (σ.put d x) (a.put d v) w := by
  cases d with
  | none => exact h
  | some d =>
    have hd' := hd d rfl
    refine { h with defers := (put_defers ..).trans h.defers, size := (put_size ..).trans h.size, env := fun t => ?_, envlt := fun t => ?_ }
    · simp only [St.put, Act.put]
      cases ht : Nat.beq t d with
      | true =>
        obtain rfl : t = d := Nat.eq_of_beq_eq_true ht
        simp only [cond_true, Array.getD_eq_getD_getElem?]
        rw [Array.getElem?_setIfInBounds_self_of_lt (by rw [h.size]; exact hd')]
        exact hx
      | false =>
        have hne : t ≠ d := Nat.ne_of_beq_eq_false ht
        simp only [cond_false, Array.getD_eq_getD_getElem?]
        rw [Array.getElem?_setIfInBounds_ne (Ne.symm hne)]
        have := h.env t
        simpa only [Array.getD_eq_getD_getElem?] using this
    · simp only [St.put]
      cases Nat.beq t d with
      | true => exact hl
      | false => exact h.envlt t

/-- A new own object, at the key that is next. -/
theorem Conc.make {c : Cx} {G : Nat → Prop} {β : Nat → Value} {σ : St} {a : Act} {w : World} (h : Conc c G β σ a w) {ob : Ob} {v : Value}
    (ho : ObAt c G w β v ob) (hl : ob.lt σ.nx = true) (hn : ∀ k ob', σ.hp k = some ob' → ∀ b, blk v = some b → blk (β k) ≠ some b) :
    ∃ β', (∀ k, k < σ.nx → β' k = β k) ∧ β' σ.nx = v ∧
      Conc c G β' { σ with hp := fun k => bif Nat.beq k σ.nx then some ob else σ.hp k, nx := σ.nx + 1 } a w := by
  refine ⟨fun k => if k = σ.nx then v else β k, fun k hk => if_neg (by omega), if_pos rfl, ?_⟩
  have hb : ∀ k, k < σ.nx → (fun k => if k = σ.nx then v else β k) k = β k := fun k hk => if_neg (by omega)
  have hob : ∀ {u : Value} {o : Ob}, o.lt σ.nx = true → ObAt c G w β u o → ObAt c G w (fun k => if k = σ.nx then v else β k) u o := fun {u o} hlt hu => by
    cases o with
    | box cells =>
      obtain ⟨b, e, cur, h1, h2, h3, h4, h5, h6⟩ := hu
      exact ⟨b, e, cur, h1, h2, h3, h4, h5.beta hb (by simpa [Ob.lt] using hlt), h6⟩
    | row e sz rows => exact hu
    | arow e sz rows => exact hu.moveA (fun _ _ _ h => h) (fun _ _ _ _ h => h) (fun _ _ h => h) (fun i x u hx hr => hr.beta hb (ltAll_get' (by simpa [Ob.lt] using hlt) hx))
  have hst : c.n0 ≤ σ.nx + 1 ∧ ∀ k, k < c.n0 → (if k = σ.nx then v else β k) = c.B0 k := by
    refine ⟨Nat.le_succ_of_le h.stay.1, fun k hk => ?_⟩
    have h1 := h.stay.1
    rw [if_neg (by omega)]
    exact h.stay.2 k hk
  refine { h with env := fun t => (h.env t).beta hb (h.envlt t), envlt := fun t => AV.lt_mono (Nat.le_succ _) (h.envlt t), hp := fun k ob' hk => ?_, hplt := fun k ob' hk => ?_, inj := ?_, stay := hst }
  · dsimp only at hk ⊢
    cases hkn : Nat.beq k σ.nx with
    | true =>
      obtain rfl : k = σ.nx := Nat.eq_of_beq_eq_true hkn
      rw [hkn, cond_true, Option.some.injEq] at hk
      subst hk
      rw [if_pos rfl]
      exact hob hl ho
    | false =>
      rw [hkn, cond_false] at hk
      rw [if_neg (Nat.ne_of_beq_eq_false hkn)]
      exact hob (h.hplt k ob' hk).2 (h.hp k ob' hk)
  · dsimp only at hk ⊢
    cases hkn : Nat.beq k σ.nx with
    | true =>
      obtain rfl : k = σ.nx := Nat.eq_of_beq_eq_true hkn
      rw [hkn, cond_true, Option.some.injEq] at hk
      subst hk
      refine ⟨Nat.lt_succ_self _, ?_⟩
      cases ob with
      | box cells => exact AV.ltAll_mono (Nat.le_succ _) (by simpa [Ob.lt] using hl)
      | row => rfl
      | arow => exact AV.ltAll_mono (Nat.le_succ _) (by simpa [Ob.lt] using hl)
    | false =>
      rw [hkn, cond_false] at hk
      have := h.hplt k ob' hk
      refine ⟨Nat.lt_succ_of_lt this.1, ?_⟩
      cases ob' with
      | box cells => exact AV.ltAll_mono (Nat.le_succ _) (by simpa [Ob.lt] using this.2)
      | row => rfl
      | arow => exact AV.ltAll_mono (Nat.le_succ _) (by simpa [Ob.lt] using this.2)
  · intro k k' o o' hk hk' hne b hbk hbk'
    dsimp only at hk hk' hbk hbk'
    cases hkn : Nat.beq k σ.nx with
    | true =>
      obtain rfl : k = σ.nx := Nat.eq_of_beq_eq_true hkn
      have hk'n : Nat.beq k' σ.nx = false := by
        cases e : Nat.beq k' σ.nx with
        | false => rfl
        | true => exact absurd (Nat.eq_of_beq_eq_true e).symm hne
      rw [hk'n, cond_false] at hk'
      rw [if_pos rfl] at hbk
      rw [if_neg (Ne.symm hne)] at hbk'
      exact hn k' o' hk' b hbk hbk'
    | false =>
      rw [hkn, cond_false] at hk
      rw [if_neg (Nat.ne_of_beq_eq_false hkn)] at hbk
      cases hk'n : Nat.beq k' σ.nx with
      | true =>
        obtain rfl : k' = σ.nx := Nat.eq_of_beq_eq_true hk'n
        rw [if_pos rfl] at hbk'
        exact hn k o hk b hbk' hbk
      | false =>
        rw [hk'n, cond_false] at hk'
        rw [if_neg (Nat.ne_of_beq_eq_false hk'n)] at hbk'
        exact h.inj k k' o o' hk hk' hne b hbk hbk'

/-- An own object is let go. -/
theorem Conc.drop {c : Cx} {G : Nat → Prop} {β : Nat → Value} {σ : St} {a : Act} {w : World} (h : Conc c G β σ a w) (j : Nat) :
    Conc c G β { σ with hp := fun k => bif Nat.beq k j then none else σ.hp k } a w := by
  have hk' : ∀ {k ob}, (bif Nat.beq k j then none else σ.hp k) = some ob → σ.hp k = some ob := fun {k ob} hk => by
    cases e : Nat.beq k j with
    | true => rw [e, cond_true] at hk; cases hk
    | false => rw [e, cond_false] at hk; exact hk
  exact { h with hp := fun k ob hk => h.hp k ob (hk' hk), hplt := fun k ob hk => h.hplt k ob (hk' hk), inj := fun k k2 o o2 h1 h2 => h.inj k k2 o o2 (hk' h1) (hk' h2) }

/-- The block of one own object is written; the object becomes another one at the same address. -/
theorem Conc.write {c : Cx} {G : Nat → Prop} {β : Nat → Value} {σ : St} {a : Act} {w w' : World} (h : Conc c G β σ a w) {j : Nat} {ob ob' : Ob} (hj : σ.hp j = some ob)
    {b : Nat} (hb : blk (β j) = some b) (hg : ¬ G b) (hm : c.mine b) (hos : w'.os = w.os) (htape : w'.tape = w.tape) (hout : w'.output = w.output) (hsize : w'.heap.size = w.heap.size)
    (hold : ∀ i, i ≠ b → w'.heap[i]? = w.heap[i]?) (hnew : ∀ (_ : Keep G G w w'), ObAt c G w' β (β j) ob') (hl : ob'.lt σ.nx = true) :
    Conc c G β { σ with hp := fun k => bif Nat.beq k j then some ob' else σ.hp k } a w' := by
  have k : Keep G G w w' := ⟨fun _ h => h, fun i hi => hold i (fun e => hg (e ▸ hi))⟩
  have hoth : ∀ {k' o}, σ.hp k' = some o → k' ≠ j → ∀ {b' : Nat}, blk (β k') = some b' → w'.heap[b']? = w.heap[b']? := fun {k' o} hk hne {b'} hb' =>
    hold b' (fun e => h.inj k' j o ob hk hj hne b (e ▸ hb') hb)
  refine { h with env := fun t => (h.env t).keep k, hp := fun k' o hk => ?_, hplt := fun k' o hk => ?_, inj := ?_, lt := fun i hi => by rw [hsize]; exact h.lt i hi, fr := ?_, glob := h.glob.keep k }
  · dsimp only at hk
    cases e : Nat.beq k' j with
    | true =>
      obtain rfl : k' = j := Nat.eq_of_beq_eq_true e
      rw [e, cond_true, Option.some.injEq] at hk
      subst hk
      exact hnew k
    | false =>
      rw [e, cond_false] at hk
      have hne := Nat.ne_of_beq_eq_false e
      have ho := h.hp k' o hk
      cases o with
      | box cells =>
        obtain ⟨b', e', cur, h1, h2, h3, h4, h5, h6⟩ := ho
        exact ⟨b', e', cur, h1, by rw [hoth hk hne (by rw [h1]; rfl)]; exact h2, h3, h4, h5.keep k, h6⟩
      | row e' sz rows =>
        obtain ⟨h0, h0', h1⟩ := ho
        refine ⟨h0, h0', h1.imp id ?_⟩
        rintro ⟨b', cap, cur, h1, h2, h3, h4, h5, h6, h7⟩
        exact ⟨b', cap, cur, h1, h2, h3, by rw [hoth hk hne (by rw [h1]; rfl)]; exact h4, h5, h6, fun i s hi => let ⟨u, hu, hr⟩ := h7 i s hi; ⟨u, hu, hr.keep k⟩⟩
      | arow e' sz rows => exact ho.moveA (fun b x hb hx => by rw [hoth hk hne hb]; exact hx) (fun _ _ _ _ h => h) (fun _ _ h => h) (fun _ _ _ _ hr => hr.keep k)
  · dsimp only at hk ⊢
    cases e : Nat.beq k' j with
    | true =>
      obtain rfl : k' = j := Nat.eq_of_beq_eq_true e
      rw [e, cond_true, Option.some.injEq] at hk
      subst hk
      exact ⟨(h.hplt k' ob hj).1, hl⟩
    | false =>
      rw [e, cond_false] at hk
      exact h.hplt k' o hk
  · have hget : ∀ {k' : Nat} {o : Ob}, (bif Nat.beq k' j then some ob' else σ.hp k') = some o → ∃ o', σ.hp k' = some o' := fun {k' o} hk => by
      cases e : Nat.beq k' j with
      | true => obtain rfl : k' = j := Nat.eq_of_beq_eq_true e; exact ⟨ob, hj⟩
      | false => rw [e, cond_false] at hk; exact ⟨o, hk⟩
    intro k1 k2 o1 o2 h1 h2 hne
    obtain ⟨o1', h1'⟩ := hget h1
    obtain ⟨o2', h2'⟩ := hget h2
    exact h.inj k1 k2 o1' o2' h1' h2' hne
  · refine ⟨hos.trans h.fr.os, htape.trans h.fr.tape, hout.trans h.fr.output, by rw [hsize]; exact h.fr.size, fun i hi hx => (hold i ?_).trans (h.fr.old i hi hx)⟩
    rintro rfl
    rcases hm with hm | hm
    · exact hx hm
    · omega

end Go.Abs
