/-
  THE ABSTRACT MACHINE, PART G: operations on what the frame owns.
-/
import Derived.Test.YtefbmooajknmgaaDoorAbsF
set_option linter.unusedSimpArgs false
set_option linter.unusedVariables false
namespace Go.Abs

/-- Nothing but the block b? (the frame's own, of no live object) has turned; blocks may have come. -/
theorem Conc.other {c : Cx} {G : Nat → Prop} {β : Nat → Value} {σ : St} {a : Act} {w w' : World} (h : Conc c G β σ a w) (b? : Option Nat)
    (hnl : ∀ k ob, σ.hp k = some ob → ∀ b, blk (β k) = some b → some b ≠ b?) (hg : ∀ b, b? = some b → ¬ G b ∧ c.mine b)
    (hos : w'.os = w.os) (htape : w'.tape = w.tape) (hout : w'.output = w.output) (hsize : w.heap.size ≤ w'.heap.size)
    (hold : ∀ i, i < w.heap.size → some i ≠ b? → w'.heap[i]? = w.heap[i]?) : Conc c G β σ a w' := by
  have k : Keep G G w w' := ⟨fun _ h => h, fun i hi => hold i (h.lt i hi) (fun e => (hg i e.symm).1 hi)⟩
  have hin : ∀ {b : Nat} {x : Obj}, w.heap[b]? = some x → b < w.heap.size := fun {b x} hx => (Array.getElem?_eq_some_iff.1 hx).1
  refine { h with env := fun t => (h.env t).keep k, hp := fun k' o hk => ?_, lt := fun i hi => Nat.lt_of_lt_of_le (h.lt i hi) hsize, fr := ?_, glob := h.glob.keep k }
  · have ho := h.hp k' o hk
    have hn := hnl k' o hk
    cases o with
    | box cells =>
      obtain ⟨b', e', cur, h1, h2, h3, h4, h5, h6⟩ := ho
      exact ⟨b', e', cur, h1, by rw [hold b' (hin h2) (hn b' (by rw [h1]; rfl))]; exact h2, h3, h4, h5.keep k, h6⟩
    | row e' sz rows =>
      obtain ⟨h0, h0', h1⟩ := ho
      refine ⟨h0, h0', h1.imp id ?_⟩
      rintro ⟨b', cap, cur, h1, h2, h3, h4, h5, h6, h7⟩
      exact ⟨b', cap, cur, h1, h2, h3, by rw [hold b' (hin h4) (hn b' (by rw [h1]; rfl))]; exact h4, h5, h6, fun i s hi => let ⟨u, hu, hr⟩ := h7 i s hi; ⟨u, hu, hr.keep k⟩⟩
    | arow e' sz rows => exact ho.moveA (fun b x hb hx => by rw [hold b (hin hx) (hn b hb)]; exact hx) (fun _ _ _ _ h => h) (fun _ _ h => h) (fun _ _ _ _ hr => hr.keep k)
  · refine ⟨hos.trans h.fr.os, htape.trans h.fr.tape, hout.trans h.fr.output, Nat.le_trans h.fr.size hsize, fun i hi hx => (hold i (Nat.lt_of_lt_of_le hi h.fr.size) ?_).trans (h.fr.old i hi hx)⟩
    intro e
    rcases (hg i e.symm).2 with hm | hm
    · exact hx hm
    · omega

def addOb (σ : St) (ob : Ob) : St := { σ with hp := fun k => bif Nat.beq k σ.nx then some ob else σ.hp k, nx := σ.nx + 1 }
def ridOb (σ : St) (j : Nat) : St := { σ with hp := fun k => bif Nat.beq k j then none else σ.hp k }
def updOb (σ : St) (j : Nat) (ob : Ob) : St := { σ with hp := fun k => bif Nat.beq k j then some ob else σ.hp k }

/-- Values read as these things, by a relation. -/
def RepsR {α : Type} (Q : α → Value → Prop) (ss : List α) (vs : List Value) : Prop :=
  vs.length = ss.length ∧ ∀ (i : Nat) s v, ss[i]? = some s → vs[i]? = some v → Q s v
/-- Rows in a block of the frame's own. -/
def ORow {α : Type} (c : Cx) (G : Nat → Prop) (w : World) (Q : α → Value → Prop) (v : Value) (e sz : Nat) (rows : List (List α)) : Prop :=
  (∀ r ∈ rows, r.length = sz) ∧ 0 < sz ∧
      ((v = .slice none 0 0 ∧ rows = []) ∨ ∃ b cap cur, v = .slice (some ⟨b, 0, none⟩) rows.length cap ∧ rows.length ≤ cap ∧ cur.size = cap * sz ∧
        w.heap[b]? = some (.cells cur e (0, 0)) ∧ ¬ G b ∧ c.mine b ∧ ∀ (i : Nat) s, rows.flatten[i]? = some s → ∃ u, cur[i]? = some u ∧ Q s u)
/-- What a cell of an own row of any cells holds. -/
def AQ (G : Nat → Prop) (β : Nat → Value) (w : World) (x : AV) (u : Value) : Prop := AVal G w β x u ∧ u.oneCell' = true
structure ReadsR {α : Type} (w : World) (P : Program) (Q : α → Value → Prop) (tx sz : Nat) (rows : List (List α)) (x : Value) : Prop where
  src : ∃ news, Src P sz tx x rows.length news w ∧ RepsR Q rows.flatten news
  len : ∀ r ∈ rows, r.length = sz

/-- A slice of rows that are there to be read. -/
structure Reads (G : Nat → Prop) (w : World) (P : Program) (tx sz : Nat) (rows : List (List S)) (x : Value) : Prop where
  src : ∃ news, Src P sz tx x rows.length news w ∧ Reps G w rows.flatten news
  len : ∀ r ∈ rows, r.length = sz

section
variable {P : Program} {T : Nat → Option TI} {G : Nat → Prop} {w : World} {β : Nat → Value} {c : Cx}

theorem cells_of_row {row : List S} {b off : Nat} (h : RepRow G w b row off) : ∃ vs : List Value, Reps G w row vs ∧ ∀ (j : Nat) u, vs[j]? = some u → w.cell? ⟨b, off + j, none⟩ = some u := by
  refine ⟨(List.range row.length).map fun i => (w.cell? ⟨b, off + i, none⟩).getD undef, ⟨by simp, fun i s v hs hv => ?_⟩, fun j u hu => ?_⟩
  · obtain ⟨_, u, h1, h2⟩ := h.get hs
    have hlt : i < row.length := (List.getElem?_eq_some_iff.1 hs).1
    simp [hlt, h1] at hv
    subst hv; exact h2
  · have hlt : j < row.length := by have := (List.getElem?_eq_some_iff.1 hu).1; simpa using this
    obtain ⟨_, v, h1, h2⟩ := h.get (i := j) (s := row[j]) (List.getElem?_eq_getElem hlt)
    simp [hlt, h1] at hu
    subst hu; exact h1

theorem Reps.one {ss : List S} {vs : List Value} (h : Reps G w ss vs) : ∀ u ∈ vs, u.oneCell' = true := fun u hu => by
  obtain ⟨i, hi⟩ := List.getElem?_of_mem hu
  have hlt : i < ss.length := by rw [← h.1]; exact (List.getElem?_eq_some_iff.1 hi).1
  exact (h.2 i ss[i] u (List.getElem?_eq_getElem hlt) hi).one

theorem length_flatten' {α : Type} {sz : Nat} : ∀ {rows : List (List α)}, (∀ r ∈ rows, r.length = sz) → rows.flatten.length = rows.length * sz
  | [], _ => by simp
  | r :: rows, h => by
    simp only [List.flatten_cons, List.length_append, List.length_cons, h r (by simp), length_flatten' (rows := rows) fun r hr => h r (by simp [hr])]
    rw [Nat.add_mul]; omega

theorem reads_sl {tx e sz : Nat} (ht : P.underlying tx = some (.slice e)) {rows : List (List S)} {x : Value} (h : Rep G w (.sl sz rows) x) (hl : rows = [] ∨ True) : Reads G w P tx sz rows x := by
  simp only [Rep] at h
  rcases h with ⟨rfl, o, cp, rfl⟩ | ⟨b, off, cap, rfl, hle, hr⟩
  · refine ⟨⟨[], ?_, ⟨rfl, fun i s v hs => by simp at hs⟩⟩, fun r hr => by cases hr⟩
    cases o with
    | none => exact Src.ofNil w ht cp
    | some ad => exact Src.ofSlice w ht ad 0 cp [] (by simp) (fun j u hu => by simp at hu) (fun u hu => by cases hu)
  · have hlen : ∀ r ∈ rows, r.length = sz := fun r hr' => by
      obtain ⟨i, hi⟩ := List.getElem?_of_mem hr'
      exact (hr.get hi).1
    obtain ⟨vs, h1, h2⟩ := cells_of_row (rows_flatten hr)
    refine ⟨⟨vs, Src.ofSlice w ht ⟨b, off, none⟩ _ cap vs (by rw [h1.1, length_flatten' hlen]) (fun j u hu => by rw [addr_add]; exact h2 j u hu) h1.one, h1⟩, hlen⟩

theorem flatten_brow : ∀ (l : List UInt8), (l.map brow).flatten = l.map fun b => S.int .u8 (b.toNat : Int)
  | [] => rfl
  | b :: l => by simp [brow, flatten_brow l]

theorem reads_str {tx : Nat} (ht : P.underlying tx = some .string) {l : List UInt8} : Reads G w P tx 1 (l.map brow) (.string ⟨l.toArray⟩) := by
  refine ⟨⟨byteCells ⟨l.toArray⟩, by have := Src.ofString (w := w) ht ⟨l.toArray⟩; simpa [ByteArray.size] using this, ?_⟩, fun r hr => by obtain ⟨b, _, rfl⟩ := List.mem_map.1 hr; rfl⟩
  rw [flatten_brow]
  refine ⟨by simp [byteCells], fun i s v hs hv => ?_⟩
  simp only [byteCells, List.getElem?_map] at hs hv
  cases hb : l[i]? with
  | none => rw [hb] at hs; simp at hs
  | some b =>
    rw [hb] at hs; simp at hs; simp [hb] at hv
    subst hs; subst hv; simp [Rep]

theorem RepsR.append {α : Type} {Q : α → Value → Prop} {s1 s2 : List α} {v1 v2 : List Value} (h1 : RepsR Q s1 v1) (h2 : RepsR Q s2 v2) : RepsR Q (s1 ++ s2) (v1 ++ v2) := by
  refine ⟨by simp [h1.1, h2.1], fun i s v hs hv => ?_⟩
  rw [List.getElem?_append] at hs hv
  rw [h1.1] at hv
  split at hs
  · rename_i hlt
    rw [if_pos hlt] at hv; exact h1.2 i s v hs hv
  · rename_i hlt
    rw [if_neg hlt] at hv; exact h2.2 _ s v hs hv
theorem RepsR.one {α : Type} {Q : α → Value → Prop} (hQ : ∀ s u, Q s u → u.oneCell' = true) {ss : List α} {vs : List Value} (h : RepsR Q ss vs) : ∀ u ∈ vs, u.oneCell' = true := fun u hu => by
  obtain ⟨i, hi⟩ := List.getElem?_of_mem hu
  have hlt : i < ss.length := by rw [← h.1]; exact (List.getElem?_eq_some_iff.1 hi).1
  exact hQ _ _ (h.2 i ss[i] u (List.getElem?_eq_getElem hlt) hi)

theorem reads_ownR {α : Type} {Q : α → Value → Prop} (hQ : ∀ s u, Q s u → u.oneCell' = true) {tx e sz : Nat} (ht : P.underlying tx = some (.slice e)) {e' : Nat} {rows : List (List α)} {v : Value} (h : ORow c G w Q v e' sz rows) : ReadsR w P Q tx sz rows v := by
  obtain ⟨hlen, hsz, h⟩ := h
  rcases h with ⟨rfl, rfl⟩ | ⟨b, cap, cur, rfl, hle, hs, hb, _, _, hc⟩
  · exact ⟨⟨[], Src.ofNil w ht 0, ⟨rfl, fun i s v hs => by simp at hs⟩⟩, fun r hr => by cases hr⟩
  · have hfl := length_flatten' hlen
    have hin : ∀ i, i < rows.flatten.length → i < cur.size := fun i hi => by
      rw [hfl] at hi; rw [hs]
      exact Nat.lt_of_lt_of_le hi (Nat.mul_le_mul_right sz hle)
    have hreps : RepsR Q rows.flatten (cur.toList.take rows.flatten.length) := by
      refine ⟨?_, fun i s v h1 h2 => ?_⟩
      · have h1 := Nat.mul_le_mul_right sz hle
        rw [List.length_take, hfl]
        simp only [Array.length_toList]
        omega
      · obtain ⟨u, hu, hr⟩ := hc i s h1
        rw [List.getElem?_take, if_pos (List.getElem?_eq_some_iff.1 h1).1] at h2
        rw [Array.getElem?_toList, hu] at h2
        cases h2; exact hr
    refine ⟨⟨_, Src.ofSlice w ht ⟨b, 0, none⟩ _ cap _ (by rw [hreps.1, hfl]) (fun j u hu => ?_) (hreps.one hQ), hreps⟩, hlen⟩
    rw [addr_add]
    have hj : j < rows.flatten.length := by rw [← hreps.1]; exact (List.getElem?_eq_some_iff.1 hu).1
    rw [List.getElem?_take, if_pos hj, Array.getElem?_toList] at hu
    simp [World.cell?, hb, hu]
theorem reads_own {tx e sz : Nat} (ht : P.underlying tx = some (.slice e)) {e' : Nat} {rows : List (List S)} {v : Value} (h : ObAt c G w β v (.row e' sz rows)) : Reads G w P tx sz rows v :=
  have r := reads_ownR (c := c) (G := G) (Q := Rep G w) (fun _ _ h => h.one) ht h
  ⟨r.src, r.len⟩

theorem heap_setCells (b : Nat) : ∀ (vs : List Value) (o : Nat) (w : World) (k : Nat), k ≠ b → (w.setCells b o vs).heap[k]? = w.heap[k]?
  | [], _, _, _, _ => rfl
  | v :: vs, o, w, k, h => by
    rw [World.setCells, heap_setCells b vs (o + 1) _ k h]
    simp only [World.setCell, Array.getElem?_modify]
    rw [if_neg (Ne.symm h)]
theorem size_setCells' (b : Nat) : ∀ (vs : List Value) (o : Nat) (w : World), (w.setCells b o vs).heap.size = w.heap.size
  | [], _, _ => rfl
  | v :: vs, o, w => by rw [World.setCells, size_setCells' b vs]; simp
theorem rest_setCells (b : Nat) : ∀ (vs : List Value) (o : Nat) (w : World), (w.setCells b o vs).os = w.os ∧ (w.setCells b o vs).tape = w.tape ∧ (w.setCells b o vs).output = w.output
  | [], _, _ => ⟨rfl, rfl, rfl⟩
  | v :: vs, o, w => by rw [World.setCells]; exact rest_setCells b vs (o + 1) _
/-- The block behind the stores. -/
theorem block_setCells (b : Nat) {e : TypeId} {f : Nat × Nat} : ∀ (vs : List Value) (o : Nat) (w : World) (cur : Array Value), w.heap[b]? = some (.cells cur e f) →
    ∃ cur', (w.setCells b o vs).heap[b]? = some (.cells cur' e f) ∧ cur'.size = cur.size ∧ ∀ i, cur'[i]? = if o ≤ i ∧ i < o + vs.length ∧ i < cur.size then vs[i - o]? else cur[i]?
  | [], o, w, cur, h => ⟨cur, h, rfl, fun i => by rw [if_neg (by simp; omega)]⟩
  | v :: vs, o, w, cur, h => by
    have h1 : (w.setCell ⟨b, o, none⟩ v).heap[b]? = some (.cells (cur.setIfInBounds o v) e f) := by
      simp [World.setCell, Array.getElem?_modify, h]
    obtain ⟨cur', h2, h3, h4⟩ := block_setCells b vs (o + 1) _ _ h1
    refine ⟨cur', h2, by simpa using h3, fun i => ?_⟩
    rw [h4]
    simp only [Array.size_setIfInBounds, List.length_cons, Array.getElem?_setIfInBounds]
    by_cases ha : o + 1 ≤ i ∧ i < o + 1 + vs.length ∧ i < cur.size
    · rw [if_pos ha, if_pos (by omega), show i - o = (i - (o + 1)) + 1 by omega]; simp
    · rw [if_neg ha]
      by_cases hi : o = i
      · subst hi
        rw [if_pos rfl]
        split
        · rw [if_pos (by omega)]; simp
        · rw [if_neg (by omega), Array.getElem?_eq_none (by omega)]
      · rw [if_neg hi, if_neg (by omega)]

theorem under_slice (hT : TOk P T) {t e : Nat} {i : TI} (ht : T t = some i) (hk : i.k = .slice e) : P.underlying t = some (.slice e) := by
  obtain ⟨d, info, z, b1, b2, _⟩ := hT t i ht
  rw [hk] at b2
  cases d <;> simp only [tkOf, reduceCtorEq, TK.slice.injEq] at b2
  subst b2; exact b1

/-- What an append leaves. -/
def Appended (c : Cx) (G : Nat → Prop) (w : World) (β : Nat → Value) (v : Value) (ob : Ob) (v' : Value) (w' : World) : Prop :=
  w'.os = w.os ∧ w'.tape = w.tape ∧ w'.output = w.output ∧ w.heap.size ≤ w'.heap.size ∧
      (∀ i, i < w.heap.size → some i ≠ blk v → w'.heap[i]? = w.heap[i]?) ∧ ObAt c G w' β v' ob ∧ (∀ b, blk v' = some b → blk v = some b ∨ w.heap.size ≤ b)
def AppendedR {α : Type} (c : Cx) (G : Nat → Prop) (w : World) (Q : World → α → Value → Prop) (v : Value) (e sz : Nat) (rows : List (List α)) (v' : Value) (w' : World) : Prop :=
  w'.os = w.os ∧ w'.tape = w.tape ∧ w'.output = w.output ∧ w.heap.size ≤ w'.heap.size ∧
      (∀ i, i < w.heap.size → some i ≠ blk v → w'.heap[i]? = w.heap[i]?) ∧ ORow c G w' (Q w') v' e sz rows ∧ (∀ b, blk v' = some b → blk v = some b ∨ w.heap.size ≤ b)

/-- APPEND TO A ROW OF THE FRAME's OWN. -/
theorem run_appendR {α : Type} {Q : World → α → Value → Prop} (hQ : ∀ w s u, Q w s u → u.oneCell' = true) (hQk : ∀ w w' s u, Keep G G w w' → Q w s u → Q w' s u) (hT : TOk P T) {t tx ty e sz : Nat} {i j : TI} (ht : T t = some i) (hk : i.k = .slice e) (hj : T e = some j) (hsz' : sz = j.size) {rows rows' : List (List α)} {v x : Value}
    (ho : ORow c G w (Q w) v e sz rows) (hx : ReadsR w P (Q w) tx sz rows' x) (hb : (rows.length + rows'.length) * j.bytes ≤ 140737488355328) (h63 : rows.length + rows'.length ≤ 9223372036854775807) (hw0 : c.w0.heap.size ≤ w.heap.size)
    (hG : ∀ b, G b → b < w.heap.size) :
    ∃ v' w', (Builtin.append_ #[t, tx] ty #[v, x]).run P w = .ok v' w' ∧ AppendedR c G w Q v e sz (rows ++ rows') v' w' := by
  subst hsz'
  have b1 := under_slice hT ht hk
  obtain ⟨d', info', z', g1, g2, g3, g4, g5, g6, g7, g8, g9, g10⟩ := hT e j hj
  have hzs := zero_size g7 g8 g9
  obtain ⟨⟨news, hs, hreps⟩, hlen'⟩ := hx
  have hvn : v = .slice none 0 0 ∨ ∃ b cap, v = .slice (some ⟨b, 0, none⟩) rows.length cap := by
    obtain ⟨_, _, h⟩ := ho
    exact h.imp (fun h => h.1) (fun ⟨b, cap, _, h, _⟩ => ⟨b, cap, h⟩)
  have hown := reads_ownR (hQ w) (P := P) (tx := t) b1 ho
  obtain ⟨hlen, hsz, h⟩ := ho
  have hall : ∀ r ∈ rows ++ rows', r.length = j.size := fun r hr => (List.mem_append.1 hr).elim (hlen r) (hlen' r)
  have hnl : news.length = rows'.length * j.size := hs.newsLen
  rw [← g4] at hs
  -- a new row
  have grow : ∀ (base : Option Addr) (sCap : Nat) (olds : List Value), v = .slice base rows.length sCap → sCap < rows.length + rows'.length →
      (Builtin.firstCells info'.size rows.length (.slice base rows.length sCap)).run P w.drew = .ok olds.toArray w.drew → RepsR (Q w) rows.flatten olds →
      ∃ v' w', (Builtin.append_ #[t, tx] ty #[v, x]).run P w = .ok v' w' ∧ AppendedR c G w Q v e j.size (rows ++ rows') v' w' := by
    intro base sCap olds hv hg hold hro
    subst hv
    have hrun := run_append_grow_src (P := P) w t tx ty e info' z' b1 g3 g6 base rows.length sCap olds hold x rows'.length news hs hg (by omega) (by rw [g5]; exact growslice_fits hg hb)
    refine ⟨_, _, hrun, rfl, rfl, rfl, by simp, fun i hi _ => heap_push_old w.drew _ hi, ?_, fun b hbk => .inr (by simp [blk] at hbk; omega)⟩
    have hcap : rows.length + rows'.length ≤ grownCap w (rows.length + rows'.length) sCap e := by
      unfold grownCap Question.cut; simp
    have hol : olds.length = rows.length * j.size := by rw [hro.1, length_flatten' hlen]
    refine ⟨hall, hsz, .inr ⟨w.heap.size, grownCap w (rows.length + rows'.length) sCap e, _, by simp, by simpa using hcap, ?_, heap_push_new w.drew _, fun hg' => Nat.lt_irrefl _ (hG _ hg'), .inr hw0, fun i s hi => ?_⟩⟩
    · simp only [Array.size_append, List.size_toArray, List.length_append, hol, hnl, Builtin.zeroCells, Array.size_map, Array.size_range, hzs]
      rw [← Nat.add_mul, ← Nat.add_mul]
      congr 1; omega
    · have hcat : RepsR (Q w) (rows ++ rows').flatten (olds ++ news) := by rw [List.flatten_append]; exact hro.append hreps
      have hlt : i < (olds ++ news).length := by rw [hcat.1]; exact (List.getElem?_eq_some_iff.1 hi).1
      refine ⟨(olds ++ news)[i], ?_, hQk w _ _ _ ⟨fun _ h => h, fun b hb' => heap_push_old w.drew _ (hG b hb')⟩ (hcat.2 i s _ hi (List.getElem?_eq_getElem hlt))⟩
      rw [Array.getElem?_append_left (by simpa using hlt)]
      simp
  rcases h with ⟨rfl, rfl⟩ | ⟨b, cap, cur, rfl, hle, hcs, hbb, hng, hm, hc⟩
  · by_cases h0 : rows'.length = 0
    · obtain rfl : rows' = [] := List.length_eq_zero_iff.1 h0
      refine ⟨.slice none 0 0, w, ?_, rfl, rfl, rfl, Nat.le_refl _, fun _ _ _ => rfl, ⟨hall, hsz, .inl ⟨rfl, rfl⟩⟩, fun b hb => by simp [blk] at hb⟩
      rcases hs.kind with ⟨e', hk'⟩ | hk' <;>
        (have hcl := hs.cells
         simp only [List.length_nil] at hcl
         simp [Builtin.append_, run_underlying' w b1, run_underlying' w hk', run_sizeOf' w g3, hs.len, hcl])
    · exact grow none 0 [] rfl (by simp; omega) (by simp [Builtin.firstCells]) ⟨rfl, fun i s v hi => by simp at hi⟩
  · by_cases hroom : rows.length + rows'.length ≤ cap
    · have hfit : (rows.length + rows'.length) * j.size ≤ cur.size := by rw [hcs]; exact Nat.mul_le_mul_right _ hroom
      rw [Nat.add_mul] at hfit
      have hcell : ∀ i, i < cur.size → w.cell? ⟨b, i, none⟩ = some (cur.getD i undef) := fun i hi => by
        simp [World.cell?, hbb, hi]
      have hrun := run_append_room_src (P := P) w t tx ty e info' b1 g3 b 0 rows.length cap x rows'.length news hs hroom
        (fun k hk => by rw [g4, hcell _ (by omega)]; rfl) (fun k hk => by simp [World.frozen?, hbb])
      obtain ⟨cur', c1, c2, c3⟩ := block_setCells b news (0 + rows.length * info'.size) w cur hbb
      have hrest := rest_setCells b news (0 + rows.length * info'.size) w
      refine ⟨_, _, hrun, hrest.1, hrest.2.1, hrest.2.2, by rw [size_setCells']; exact Nat.le_refl _, fun i hi hne => heap_setCells _ _ _ _ _ (fun e => hne (by subst e; rfl)), ?_, fun b' hb' => .inl hb'⟩
      have hk' : Keep G G w (w.setCells b (0 + rows.length * info'.size) news) := ⟨fun _ h => h, fun i hi => heap_setCells _ _ _ _ _ (fun e => hng (e ▸ hi))⟩
      refine ⟨hall, hsz, .inr ⟨b, cap, cur', by simp, by simpa using hroom, by rw [c2, hcs], c1, hng, hm, fun i s hi => ?_⟩⟩
      have hfl := length_flatten' hlen
      rw [List.flatten_append, List.getElem?_append] at hi
      rw [c3]
      simp only [g4, Nat.zero_add] at hk' ⊢
      split at hi
      · rename_i hlt
        rw [hfl] at hlt
        rw [if_neg (by omega)]
        obtain ⟨u, hu, hr⟩ := hc i s hi
        exact ⟨u, hu, hQk w _ _ _ hk' hr⟩
      · rename_i hlt
        rw [hfl] at hlt hi
        have hlt2 := (List.getElem?_eq_some_iff.1 hi).1
        rw [← hreps.1] at hlt2
        rw [if_pos (by omega)]
        exact ⟨news[i - rows.length * j.size], List.getElem?_eq_getElem hlt2, hQk w _ _ _ hk' (hreps.2 _ s _ hi (List.getElem?_eq_getElem hlt2))⟩
    · obtain ⟨⟨olds, ho1, ho2⟩, _⟩ := hown
      rw [← g4] at ho1
      exact grow (some ⟨b, 0, none⟩) cap olds rfl (by omega) ho1.cellsD ho2

theorem run_append (hT : TOk P T) {t tx ty e sz : Nat} {i j : TI} (ht : T t = some i) (hk : i.k = .slice e) (hj : T e = some j) (hsz' : sz = j.size) {rows rows' : List (List S)} {v x : Value}
    (ho : ObAt c G w β v (.row e sz rows)) (hx : Reads G w P tx sz rows' x) (hb : (rows.length + rows'.length) * j.bytes ≤ 140737488355328) (h63 : rows.length + rows'.length ≤ 9223372036854775807) (hw0 : c.w0.heap.size ≤ w.heap.size)
    (hG : ∀ b, G b → b < w.heap.size) :
    ∃ v' w', (Builtin.append_ #[t, tx] ty #[v, x]).run P w = .ok v' w' ∧ Appended c G w β v (.row e sz (rows ++ rows')) v' w' :=
  run_appendR (Q := Rep G) (fun _ _ _ h => h.one) (fun _ _ _ _ k h => h.keep k) hT ht hk hj hsz' ho ⟨hx.src, hx.len⟩ hb h63 hw0 hG
theorem AQ.keep {w w' : World} {x : AV} {u : Value} (k : Keep G G w w') (h : AQ G β w x u) : AQ G β w' x u := ⟨h.1.keep k, h.2⟩
theorem run_appendA (hT : TOk P T) {t tx ty e sz : Nat} {i j : TI} (ht : T t = some i) (hk : i.k = .slice e) (hj : T e = some j) (hsz' : sz = j.size) {rows rows' : List (List AV)} {v x : Value}
    (ho : ObAt c G w β v (.arow e sz rows)) (hx : ReadsR w P (AQ G β w) tx sz rows' x) (hb : (rows.length + rows'.length) * j.bytes ≤ 140737488355328) (h63 : rows.length + rows'.length ≤ 9223372036854775807) (hw0 : c.w0.heap.size ≤ w.heap.size)
    (hG : ∀ b, G b → b < w.heap.size) :
    ∃ v' w', (Builtin.append_ #[t, tx] ty #[v, x]).run P w = .ok v' w' ∧ Appended c G w β v (.arow e sz (rows ++ rows')) v' w' :=
  run_appendR (Q := AQ G β) (fun _ _ _ h => h.2) (fun _ _ _ _ k h => h.keep k) hT ht hk hj hsz' ho hx hb h63 hw0 hG
/-- Persistent rows, as rows of any cells. -/
theorem Reads.any {tx sz : Nat} {rows : List (List S)} {x : Value} (h : Reads G w P tx sz rows x) : ReadsR w P (AQ G β w) tx sz (rows.map (·.map AV.s)) x := by
  obtain ⟨⟨news, h1, h2⟩, h3⟩ := h
  have hf : (rows.map (·.map AV.s)).flatten = rows.flatten.map AV.s := by simp [List.map_flatten]
  refine ⟨⟨news, by simpa using h1, ?_⟩, fun r hr => ?_⟩
  · rw [hf]
    refine ⟨by rw [List.length_map]; exact h2.1, fun i s v hs hv => ?_⟩
    rw [List.getElem?_map] at hs
    obtain ⟨s', hs', rfl⟩ := Option.map_eq_some_iff.1 hs
    have := h2.2 i s' v hs' hv
    exact ⟨by simpa only [AVal] using this, this.one⟩
  · obtain ⟨r', hr', rfl⟩ := List.mem_map.1 hr
    simpa using h3 r' hr'

end
end Go.Abs
