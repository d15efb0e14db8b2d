/-
  THE ABSTRACT MACHINE, PART E: the other operations that touch nothing that the frame owns; all of them in one theorem.
-/
import Derived.Test.YtefbmooajknmgaaDoorAbsD
set_option linter.unusedSimpArgs false
set_option linter.unusedVariables false
namespace Go.Abs

section
variable {P : Program} {T : Nat → Option TI} {G : Nat → Prop} {w : World} {β : Nat → Value}

def OAVal (G : Nat → Prop) (w : World) (β : Nat → Value) : Option AV → Option Value → Prop
  | none, none => True
  | some y, some u => AVal G w β y u
  | _, _ => False

theorem bnd_rep {d n : Int} {x : Option AV} (h : bnd d x = some n) {v : Option Value} (hv : OAVal G w β x v) :
    (v = none ∧ n = d) ∨ ∃ k, v = some (.int k n) := by
  unfold bnd at h
  split at h
  · cases h
    cases v with
    | none => exact .inl ⟨rfl, rfl⟩
    | some u => exact hv.elim
  · cases h
    cases v with
    | none => exact hv.elim
    | some u => simp only [OAVal, AVal, Rep] at hv; subst hv; exact .inr ⟨_, rfl⟩
  · cases h

theorem run_sliceBound {k : IntKind} {n : Int} {y : Nat} {code : BoundsCode} (h0 : 0 ≤ n) (h1 : n ≤ y) : (Instr.sliceBound (.int k n) y code).run P w = .ok n.toNat w := by
  simp [Instr.sliceBound, asIntOf, h0, h1]

theorem run_bounds {isSlice : Bool} {len cap : Nat} {vlo vhi : Option Value} {a b : Int} (hl : (vlo = none ∧ a = 0) ∨ ∃ k, vlo = some (.int k a)) (hh : (vhi = none ∧ b = len) ∨ ∃ k, vhi = some (.int k b))
    (h0 : 0 ≤ a) (h1 : a ≤ b) (h2 : b ≤ cap) : (Instr.sliceBounds isSlice len cap vlo vhi none).run P w = .ok (a.toNat, b.toNat, cap) w := by
  have h3 : 0 ≤ b := by omega
  rcases hh with ⟨rfl, rfl⟩ | ⟨k, rfl⟩ <;> rcases hl with ⟨rfl, rfl⟩ | ⟨k', rfl⟩
  · simp [Instr.sliceBounds]
  · simp [Instr.sliceBounds, run_sliceBound (P := P) (w := w) h0 h1]
  · simp [Instr.sliceBounds, run_sliceBound (P := P) (w := w) h3 h2]
  · have h4 : a ≤ (b.toNat : Int) := by omega
    simp [Instr.sliceBounds, run_sliceBound (P := P) (w := w) h3 h2, run_sliceBound (P := P) (w := w) h0 h4]

theorem run_pSlice (hT : TOk P T) {t : Nat} {x r : AV} {lo hi : Option AV} {φ : Option Prop} (h : pSlice T t x lo hi = some (φ, r)) (hφ : φ.getD True) {u : Value} {vlo vhi : Option Value}
    (hx : AVal G w β x u) (hlo : OAVal G w β lo vlo) (hhi : OAVal G w β hi vhi) :
    ∃ z, (Instr.sliceAt t u vlo vhi none).run P w = .ok z w ∧ AVal G w β r z := by
  unfold pSlice at h
  split at h
  · rename_i ti l ht
    obtain ⟨d, info, z, h1, h2, _⟩ := hT t ti ht
    split at h
    · rename_i a b hk ha hb
      cases h
      rw [hk] at h2
      cases d <;> simp only [tkOf, reduceCtorEq] at h2
      simp only [AVal, Rep] at hx; subst hx
      simp only [Option.getD_some] at hφ
      obtain ⟨h3, h4, h5⟩ := hφ
      have hbb := run_bounds (P := P) (w := w) (isSlice := false) (len := l.length) (cap := l.length) (bnd_rep ha hlo) (bnd_rep hb hhi) h3 h4 h5
      refine ⟨.string ⟨((l.take b.toNat).drop a.toNat).toArray⟩, ?_, by simp [AVal, Rep]⟩
      have he : (ByteArray.mk l.toArray).extract a.toNat b.toNat = ⟨((l.take b.toNat).drop a.toNat).toArray⟩ := by
        apply ByteArray.ext
        apply Array.ext'
        simp [List.drop_take]
      have hsz : (ByteArray.mk l.toArray).size = l.length := rfl
      simp [Instr.sliceAt, Instr.slice, run_underlying' w h1, hsz, hbb, he]
    · cases h
  · rename_i ti sz rows ht
    obtain ⟨d, info, z, h1, h2, _⟩ := hT t ti ht
    split at h
    · rename_i e a b hk ha hb
      split at h
      · rename_i j hj
        split at h
        · rename_i hsz
          cases h
          obtain rfl : sz = j.size := Nat.eq_of_beq_eq_true hsz
          obtain ⟨d', info', z', g1, g2, g3, g4, _⟩ := hT e j hj
          rw [hk] at h2
          cases d <;> simp only [tkOf, reduceCtorEq, TK.slice.injEq] at h2
          subst h2
          simp only [Option.getD_some] at hφ
          obtain ⟨h3, h4, h5⟩ := hφ
          simp only [AVal, Rep] at hx
          rcases hx with ⟨rfl, o, cp, rfl⟩ | ⟨b0, off, cap, rfl, hle, hr⟩
          · obtain rfl : b = 0 := by simp at h5; omega
            obtain rfl : a = 0 := by omega
            have hbb := run_bounds (P := P) (w := w) (isSlice := true) (len := 0) (cap := cp) (bnd_rep ha hlo) (bnd_rep hb hhi) h3 h4 (by simp)
            refine ⟨.slice (o.map (fun ad => if cp = 0 then ad else ad.add 0)) 0 cp, ?_, ?_⟩
            · cases o with
              | none => simp [Instr.sliceAt, Instr.slice, run_underlying' w h1, hbb, run_sizeOf' w g3, g4]
              | some ad =>
                simp only [Instr.sliceAt, Instr.slice, run_underlying' w h1, hbb, run_sizeOf' w g3, g4, Sem.run_bind, Result.andThen_ok, Sem.run_pure]
                by_cases hcp : cp = 0 <;> simp [hcp]
            · simp only [AVal, Rep]
              exact .inl ⟨by simp, _, _, rfl⟩
          · have hbb := run_bounds (P := P) (w := w) (isSlice := true) (len := rows.length) (cap := cap) (bnd_rep ha hlo) (bnd_rep hb hhi) h3 h4 (by omega)
            refine ⟨.slice (some (if cap = a.toNat then ⟨b0, off, none⟩ else ⟨b0, off + a.toNat * j.size, none⟩)) (b.toNat - a.toNat) (cap - a.toNat), ?_, ?_⟩
            · simp [Instr.sliceAt, Instr.slice, run_underlying' w h1, hbb, run_sizeOf' w g3, g4, addr_add]
              split <;> rfl
            · have hlen : ((rows.take b.toNat).drop a.toNat).length = b.toNat - a.toNat := by simp; omega
              simp only [AVal, Rep]
              refine .inr ⟨b0, if cap = a.toNat then off else off + a.toNat * j.size, cap - a.toNat, ?_, by rw [hlen]; omega, ?_⟩
              · rw [hlen]; split <;> rfl
              · split
                · have : (rows.take b.toNat).drop a.toNat = [] := List.length_eq_zero_iff.1 (by rw [hlen]; omega)
                  rw [this]; trivial
                · exact (hr.take b.toNat).drop a.toNat
        · cases h
      · cases h
    · cases h
  · cases h

theorem run_pLen (hT : TOk P T) {t ty : Nat} {x r : AV} {φ : Option Prop} (h : pLen T t x = some (φ, r)) {u : Value} (hx : AVal G w β x u) :
    ∃ z, (Builtin.len_ #[t] ty #[u]).run P w = .ok z w ∧ AVal G w β r z := by
  unfold pLen at h
  split at h
  · rename_i l hk
    obtain ⟨d, hd, e⟩ := tk_desc hT hk (by simp)
    cases d <;> simp only [tkOf, reduceCtorEq] at e
    cases h
    simp only [AVal, Rep] at hx; subst hx
    refine ⟨goInt l.length, ?_, by simp [AVal, Rep, goInt]⟩
    simp [Builtin.len_, run_underlying' w hd]
    rfl
  · rename_i e0 sz rows hk
    obtain ⟨d, hd, e⟩ := tk_desc hT hk (by simp)
    cases d <;> simp only [tkOf, reduceCtorEq] at e
    cases h
    simp only [AVal, Rep] at hx
    rcases hx with ⟨rfl, o, cp, rfl⟩ | ⟨b, off, cap, rfl, _⟩
    · exact ⟨goInt 0, by simp [Builtin.len_, run_underlying' w hd], by simp [AVal, Rep, goInt]⟩
    · exact ⟨goInt rows.length, by simp [Builtin.len_, run_underlying' w hd], by simp [AVal, Rep, goInt]⟩
  · rename_i e0 sz hk
    obtain ⟨d, hd, e⟩ := tk_desc hT hk (by simp)
    cases d <;> simp only [tkOf, reduceCtorEq] at e
    cases h
    simp only [AVal] at hx; subst hx
    exact ⟨goInt 0, by simp [Builtin.len_, run_underlying' w hd], by simp [AVal, Rep, goInt]⟩
  · rename_i n e0 hk
    obtain ⟨d, hd, e⟩ := tk_desc hT hk (by simp)
    cases d <;> simp only [tkOf, reduceCtorEq, TK.arr.injEq] at e
    cases h
    exact ⟨goInt n, by simp [Builtin.len_, run_underlying' w hd, e.1], by simp [AVal, Rep, goInt]⟩
  · cases h

theorem run_pCopy (hT : TOk P T) {t tx ty : Nat} {x y r : AV} {φ : Option Prop} (h : pCopy T t tx x y = some (φ, r)) {u v : Value} (hx : AVal G w β x u) (hy : AVal G w β y v) :
    ∃ z, (Builtin.copy_ #[t, tx] ty #[u, v]).run P w = .ok z w ∧ AVal G w β r z := by
  unfold pCopy at h
  split at h
  · split at h
    · rename_i e0 e1 hk hk'
      split at h
      · rename_i j hj
        cases h
        obtain ⟨d, hd, e⟩ := tk_desc hT hk (by simp)
        cases d <;> simp only [tkOf, reduceCtorEq, TK.slice.injEq] at e
        subst e
        obtain ⟨d', info', z', g1, g2, g3, g4, _⟩ := hT _ j hj
        simp only [AVal, Rep] at hx hy
        have hu : ∃ o c, u = .slice o 0 c := by
          rcases hx with ⟨_, o, c, rfl⟩ | ⟨b, off, cap, rfl, _⟩
          · exact ⟨o, c, rfl⟩
          · exact ⟨_, _, rfl⟩
        have hv : ∃ o n c, v = .slice o n c := by
          rcases hy with ⟨_, o, c, rfl⟩ | ⟨b, off, cap, rfl, _⟩
          · exact ⟨o, 0, c, rfl⟩
          · exact ⟨_, _, _, rfl⟩
        obtain ⟨o, c, rfl⟩ := hu
        obtain ⟨o', n', c', rfl⟩ := hv
        refine ⟨goInt 0, ?_, by simp [AVal, Rep, goInt]⟩
        cases o <;> cases o' <;> simp [Builtin.copy_, run_underlying' w hd, run_sizeOf' w g3, Builtin.lenOf, Builtin.firstCells, loadCells, loadCellsFrom, storeCells]
      · cases h
    · cases h
  · cases h

theorem run_pMin {op : Builtin} {xs : List AV} {r : AV} {φ : Option Prop} (h : pMin op xs = some (φ, r)) {vs : List Value} (hx : AVals G w β xs vs) :
    ∃ z, (∀ ts ty cs, (builtin op ts ty cs vs.toArray).run P w = .ok (.value z) w) ∧ AVal G w β r z := by
  unfold pMin at h
  split at h
  · rename_i k a k' b
    split at h
    · rename_i hk
      obtain rfl := kEq_eq hk
      cases h
      simp only [AVals, AVal, Rep] at hx
      obtain ⟨_, _, rfl, rfl, _, _, rfl, rfl, rfl⟩ := hx
      exact ⟨.int k (if b < a then b else a), fun _ _ _ => by simp [builtin, Builtin.min_, Builtin.min2], by simp [AVal, Rep]⟩
    · cases h
  · rename_i k a k' b
    split at h
    · rename_i hk
      obtain rfl := kEq_eq hk
      cases h
      simp only [AVals, AVal, Rep] at hx
      obtain ⟨_, _, rfl, rfl, _, _, rfl, rfl, rfl⟩ := hx
      exact ⟨.int k (if a < b then b else a), fun _ _ _ => by simp [builtin, Builtin.max_, Builtin.max2], by simp [AVal, Rep]⟩
    · cases h
  · cases h

/-- A new block that is persistent from the first: a row of rows. -/
theorem alloc_rep {ss : List S} {vs : Array Value} (hl : ∀ b, G b → b < w.heap.size) (h : Reps G w ss vs.toList) (e : TypeId) (n : Nat) (w' : World) (hw : w'.heap = w.heap) :
    RepRow (fun b => G b ∨ b = w.heap.size) (w'.alloc (.cells vs e)) w.heap.size ss 0 := by
  have k : Keep G (fun b => G b ∨ b = w.heap.size) w (w'.alloc (.cells vs e)) :=
    ⟨fun _ h => .inl h, fun b hb => by rw [heap_push_old _ _ (by rw [hw]; exact hl b hb), hw]⟩
  refine RepRow.mk fun i s hi => ⟨.inr rfl, ?_⟩
  have hlt : i < vs.toList.length := by rw [h.1]; exact (List.getElem?_eq_some_iff.1 hi).1
  refine ⟨vs.toList[i], ?_, (h.2 i s _ hi (List.getElem?_eq_getElem hlt)).keep k⟩
  rw [← hw]
  simp [World.cell?_alloc_new]

theorem flatten_rows {sz b : Nat} : ∀ {rows : List (List S)} {off : Nat}, (∀ r ∈ rows, r.length = sz) → RepRow G w b rows.flatten off → RepRows G w sz b rows off
  | [], _, _, _ => trivial
  | r :: rows, off, hl, h => by
    simp only [RepRows]
    have h1 : r.length = sz := hl r (by simp)
    refine ⟨h1, ?_, flatten_rows (fun r hr => hl r (by simp [hr])) ?_⟩
    · have := h.take r.length; simpa using this
    · have := h.drop r.length; rw [h1] at this; simpa [← h1] using this

theorem rows_flatten {sz b : Nat} : ∀ {rows : List (List S)} {off : Nat}, RepRows G w sz b rows off → RepRow G w b rows.flatten off
  | [], _, _ => by simp only [List.flatten_nil, RepRow]
  | r :: rows, off, h => by
    simp only [RepRows] at h
    refine RepRow.mk fun i s hi => ?_
    rw [List.flatten_cons, List.getElem?_append] at hi
    split at hi
    · exact h.2.1.get hi
    · rename_i hlt
      have := (rows_flatten h.2.2).get hi
      rwa [h.1, show off + sz + (i - sz) = off + i by omega] at this

theorem Reps.append {s1 s2 : List S} {v1 v2 : List Value} (h1 : Reps G w s1 v1) (h2 : Reps G w s2 v2) : Reps G w (s1 ++ s2) (v1 ++ v2) :=
  ⟨by simp [h1.1, h2.1], fun i s v hs hv => by
    rw [List.getElem?_append] at hs hv
    rw [h1.1] at hv
    split at hs
    · rename_i hlt; rw [if_pos hlt] at hv; exact h1.2 i s v hs hv
    · rename_i hlt; rw [if_neg hlt] at hv; exact h2.2 _ s v hs hv⟩

theorem foldset (off : Nat) : ∀ (l : List Value) (k : Nat) (cells : Array Value), off + k + l.length ≤ cells.size →
    ((l.zipIdx k).foldl (fun (cs : Array Value) (p : Value × Nat) => cs.setIfInBounds (off + p.2) p.1) cells).toList = cells.toList.take (off + k) ++ l ++ cells.toList.drop (off + k + l.length)
  | [], k, cells, _ => by simp
  | v :: l, k, cells, h => by
    simp only [List.length_cons] at h
    simp only [List.zipIdx_cons, List.foldl_cons]
    rw [foldset off l (k + 1) _ (by simp; omega)]
    apply List.ext_getElem?
    intro n
    simp only [List.append_assoc, List.getElem?_append, List.length_take, Array.length_toList, Array.size_setIfInBounds, List.getElem?_take, List.getElem?_drop, List.length_cons, Array.getElem?_toList, Array.getElem?_setIfInBounds, List.getElem?_cons]
    have e1 : min (off + (k + 1)) cells.size = off + k + 1 := by omega
    have e2 : min (off + k) cells.size = off + k := by omega
    rw [e1, e2]
    by_cases h1 : n < off + k
    · rw [if_pos (by omega), if_pos (by omega), if_pos h1, if_pos h1, if_neg (by omega)]
    · rw [if_neg h1]
      by_cases h2 : n = off + k
      · subst h2
        rw [if_pos (by omega), if_pos (by omega), if_pos rfl, if_pos (by omega), if_pos (by omega), if_pos (by omega)]
      · rw [if_neg (by omega)]
        by_cases h3 : n - (off + k + 1) < l.length
        · rw [if_pos h3, if_pos (by omega), if_neg (by omega)]
          congr 1 <;> omega
        · rw [if_neg h3, if_neg (by omega), if_neg (by omega)]
          congr 1 <;> omega

theorem fill_step {place : Nat → Option (Nat × Nat)} {i off size : Nat} {v : Value} {rest : List (Nat × Value)} {cells : List Value} (hp : place i = some (off, size))
    (h1 : v.cells.size = size) (h2 : off + size ≤ cells.length) :
    Instr.fill place cells.toArray ((i, v) :: rest) = Instr.fill place (cells.take off ++ v.cells.toList ++ cells.drop (off + size)).toArray rest := by
  have hc : ¬ (v.cells.size ≠ size ∨ off + v.cells.size > cells.toArray.size) := by simp; omega
  conv => lhs; unfold Instr.fill
  simp only [hp]
  rw [if_neg (by simpa using hc)]
  congr 1
  apply Array.ext'
  have := foldset off v.cells.toList 0 cells.toArray (by simp; omega)
  simp only [Nat.add_zero, Array.length_toList, h1] at this
  rw [← this, ← Array.foldl_toList]
  simp

/-- Parts of the right size, in their order: the parts' cells. -/
theorem fill_rows (size : Nat) : ∀ (us : List Value) (i : Nat) (cells : List Value), (∀ v ∈ us, v.cells.size = size) → (i + us.length) * size ≤ cells.length →
    Instr.fill (fun i => some (i * size, size)) cells.toArray ((us.zipIdx i).map fun p => (p.2, p.1)) =
      some (cells.take (i * size) ++ (us.map fun v => v.cells.toList).flatten ++ cells.drop ((i + us.length) * size)).toArray
  | [], i, cells, _, _ => by simp [Instr.fill]
  | v :: us, i, cells, hs, hc => by
    have h1 : v.cells.size = size := hs v (by simp)
    simp only [List.length_cons] at hc
    have e1 : (i + (us.length + 1)) * size = i * size + size + us.length * size := by
      rw [Nat.add_mul, Nat.add_mul]; omega
    have e2 : (i + 1 + us.length) * size = i * size + size + us.length * size := by
      rw [Nat.add_mul, Nat.add_mul]; omega
    have e3 : (i + 1) * size = i * size + size := by rw [Nat.add_mul]; omega
    rw [e1] at hc
    simp only [List.zipIdx_cons, List.map_cons]
    rw [fill_step rfl h1 (by omega), fill_rows size us (i + 1) _ (fun u hu => hs u (by simp [hu])) (by simp [h1]; rw [e2]; omega)]
    congr 2
    have l1 : (cells.take (i * size)).length = i * size := by simp; omega
    have l2 : v.cells.toList.length = size := by simpa using h1
    rw [e2, e3, List.length_cons, e1]
    simp only [List.flatten_cons, List.append_assoc]
    rw [List.take_append, List.take_append, List.drop_append, List.drop_append, l1, l2]
    simp only [List.take_take, List.drop_drop, List.drop_take]
    rw [List.take_of_length_le (l := v.cells.toList) (by omega), List.drop_eq_nil_of_le (as := v.cells.toList) (by omega)]
    have z1 : i * size - (i * size + size + us.length * size) = 0 := by omega
    have z2 : i * size + size - i * size - size = 0 := by omega
    have z3 : min (i * size + size) (i * size) = i * size := by omega
    have z4 : i * size + size + (i * size + size + us.length * size - i * size - size) = i * size + size + us.length * size := by omega
    simp [z1, z2, z3, z4]

theorem cellsA_rep {x : AV} {v : Value} {xs : List AV} (hx : AVal G w β x v) (h : x.cellsA = xs) (hone : xs.all AV.one = true) : AVals G w β xs v.cells.toList := by
  subst h
  cases x with
  | agg ys => simp only [AVal] at hx; obtain ⟨vs, rfl, hv⟩ := hx; simpa [AV.cellsA, Value.cells] using hv
  | tup ys => simp [AV.cellsA, AV.nrm, AV.one] at hone
  | junk => simp [AV.cellsA, AV.nrm, AV.one] at hone
  | s y => rw [cells_one hx.one_s]; exact ⟨v, [], rfl, hx, rfl⟩
  | nl y =>
    have h1 := hx.nrm
    rw [cells_one (AVal.one (by rfl) hx)]; exact ⟨v, [], rfl, h1, rfl⟩
  | op k o => rw [cells_one (AVal.one (by rfl) hx)]; exact ⟨v, [], rfl, hx, rfl⟩
  | orow k => rw [cells_one (AVal.one (by rfl) hx)]; exact ⟨v, [], rfl, hx, rfl⟩
  | rp k sz i o => rw [cells_one (AVal.one (by rfl) hx)]; exact ⟨v, [], rfl, hx, rfl⟩
  | clo f cs => rw [cells_one (AVal.one (by rfl) hx)]; exact ⟨v, [], rfl, hx, rfl⟩

theorem AVals.append {xs ys : List AV} {us vs : List Value} (h1 : AVals G w β xs us) (h2 : AVals G w β ys vs) : AVals G w β (xs ++ ys) (us ++ vs) :=
  AVals.mk (by simp [h1.length, h2.length]) fun i x v hx hv => by
    rw [List.getElem?_append] at hx hv
    rw [h1.length] at hv
    split at hx
    · rename_i hlt; rw [if_pos hlt] at hv; obtain ⟨u, e1, e2⟩ := h1.get hx; rw [e1] at hv; cases hv; exact e2
    · rename_i hlt; rw [if_neg hlt] at hv; obtain ⟨u, e1, e2⟩ := h2.get hx; rw [e1] at hv; cases hv; exact e2
theorem AVals.take {xs : List AV} {us : List Value} (h : AVals G w β xs us) (n : Nat) : AVals G w β (xs.take n) (us.take n) :=
  AVals.mk (by simp [h.length]) fun i x v hx hv => by
    rw [List.getElem?_take] at hx hv
    split at hx
    · rename_i hlt; rw [if_pos hlt] at hv; obtain ⟨u, e1, e2⟩ := h.get hx; rw [e1] at hv; cases hv; exact e2
    · cases hx
theorem AVals.drop {xs : List AV} {us : List Value} (h : AVals G w β xs us) (n : Nat) : AVals G w β (xs.drop n) (us.drop n) :=
  AVals.mk (by simp [h.length]) fun i x v hx hv => by
    rw [List.getElem?_drop] at hx hv
    obtain ⟨u, e1, e2⟩ := h.get hx; rw [e1] at hv; cases hv; exact e2

theorem fillA_rep {env : Nat → AV} {ρ : Operand → Value} (hρ : ∀ ty x, AVal G w β (opd T env ty x) (ρ x)) {place : Nat → Option (Nat × Nat)} {placeV : Nat → Option (Nat × Nat)}
    (hpl : ∀ j off ft i, place j = some (off, ft) → T ft = some i → placeV j = some (off, i.size)) :
    ∀ {parts : List (Nat × Operand)} {cells xs : List AV} {cs : List Value}, fillA T env place cells parts = some xs → AVals G w β cells cs →
      ∃ cs', Instr.fill placeV cs.toArray (parts.map fun p => (p.1, ρ p.2)) = some cs'.toArray ∧ AVals G w β xs cs'
  | [], cells, xs, cs, h, hc => by
    simp only [fillA, Option.some.injEq] at h; subst h
    exact ⟨cs, by simp [Instr.fill], hc⟩
  | (j, x) :: r, cells, xs, cs, h, hc => by
    simp only [fillA, spine_eq] at h
    split at h
    · cases h
    · rename_i off ft hj
      split at h
      · cases h
      · rename_i i hi
        split at h
        · rename_i h1 h2 h3
          have h1 := Nat.eq_of_beq_eq_true h1
          have h2 := Nat.le_of_ble_eq_true h2
          have hv := cellsA_rep (hρ ft x) rfl h3
          have hvl := hv.length
          obtain ⟨cs', e1, e2⟩ := fillA_rep hρ hpl h (((hc.take off).append hv).append (hc.drop (off + i.size)))
          refine ⟨cs', ?_, e2⟩
          rw [List.map_cons, fill_step (hpl j off ft i hj hi) (by simpa [h1] using hvl) (by rw [hc.length]; exact h2)]
          exact e1
        · cases h

theorem run_places (hT : TOk P T) : ∀ (fields : List Field), (fields.map fun f => (f.offset, f.type)).all (fun q => (T q.2).isSome) = true →
    ∃ places : List (Nat × Nat), (fields.mapM (m := Sem) fun f => do pure (f.offset, ← sizeOf f.type)).run P w = .ok places w ∧
      ∀ (j off ft : Nat) (k : TI), (fields.map fun f => (f.offset, f.type))[j]? = some (off, ft) → T ft = some k → places[j]? = some (off, k.size)
  | [], _ => ⟨[], by simp, fun j off ft k h => by simp at h⟩
  | f :: fields, h => by
    simp only [List.map_cons, List.all_cons, Bool.and_eq_true] at h
    obtain ⟨ps, h1, h2⟩ := run_places hT fields h.2
    obtain ⟨k0, hk0⟩ := Option.isSome_iff_exists.1 h.1
    obtain ⟨d, info, z, b1, b2, b3, b4, _⟩ := hT _ _ hk0
    refine ⟨(f.offset, k0.size) :: ps, ?_, fun j off ft k hj hk => ?_⟩
    · simp only [List.mapM_cons, Sem.run_bind, run_sizeOf' w b3, b4, Result.andThen_ok, Sem.run_pure, h1]
    · cases j with
      | zero => simp at hj; obtain ⟨rfl, rfl⟩ := hj; rw [hk0] at hk; cases hk; simp
      | succ j => simpa using h2 j off ft k (by simpa using hj) hk

end
end Go.Abs
