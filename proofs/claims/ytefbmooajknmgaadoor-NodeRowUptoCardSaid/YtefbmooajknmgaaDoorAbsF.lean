/-
  THE ABSTRACT MACHINE, PART F: 'pstep' does what it says.
-/
import Derived.Test.YtefbmooajknmgaaDoorAbsE
set_option linter.unusedSimpArgs false
set_option linter.unusedVariables false
namespace Go.Abs

section
variable {P : Program} {T : Nat → Option TI} {G : Nat → Prop} {w : World} {β : Nat → Value}

theorem partsS_rep {env : Nat → AV} {ρ : Operand → Value} (hρ : ∀ ty x, AVal G w β (opd T env ty x) (ρ x)) {e : Nat} : ∀ {parts : List (Nat × Operand)} {i : Nat} {rows : List (List S)}, partsS T env e i parts = some rows →
    parts.map (fun p => (p.1, ρ p.2)) = ((parts.map fun p => ρ p.2).zipIdx i).map (fun p => (p.2, p.1)) ∧ rows.length = parts.length ∧
      ∀ (j : Nat) r p, rows[j]? = some r → parts[j]? = some p → Reps G w r (ρ p.2).cells.toList
  | [], i, rows, h => by
    simp only [partsS, Option.some.injEq] at h; subst h
    exact ⟨rfl, rfl, fun j r p h1 _ => by simp at h1⟩
  | (j, x) :: rest, i, rows, h => by
    simp only [partsS] at h
    split at h
    · rename_i cs rs h1 h2 h3
      cases h
      obtain rfl := Nat.eq_of_beq_eq_true h1
      obtain ⟨a1, a2, a3⟩ := partsS_rep hρ h3
      refine ⟨by simp [List.zipIdx_cons, a1], by simp [a2], fun n r p hr hp => ?_⟩
      cases n with
      | zero => simp at hr hp; subst hr; subst hp; exact cellsS_rep h2 (hρ e x)
      | succ n => exact a3 n r p (by simpa using hr) (by simpa using hp)
    · cases h

theorem reps_flatten : ∀ {rows : List (List S)} {vss : List (List Value)}, rows.length = vss.length → (∀ (j : Nat) r vs, rows[j]? = some r → vss[j]? = some vs → Reps G w r vs) → Reps G w rows.flatten vss.flatten
  | [], [], _, _ => ⟨rfl, fun i s v h => by simp at h⟩
  | [], _ :: _, hl, _ => by simp at hl
  | _ :: _, [], hl, _ => by simp at hl
  | r :: rows, vs :: vss, hl, h => by
    simp only [List.flatten_cons]
    exact (h 0 r vs (by simp) (by simp)).append (reps_flatten (by simpa using hl) fun j r vs h1 h2 => h (j + 1) r vs (by simpa using h1) (by simpa using h2))

theorem avals_map {env : Nat → AV} {ρ : Operand → Value} (hρ : ∀ ty x, AVal G w β (opd T env ty x) (ρ x)) (ty : Nat) : ∀ (xs : List Operand), AVals G w β (xs.map (opd T env ty)) (xs.map ρ)
  | [] => by simp only [List.map_nil, AVals]
  | x :: xs => by simp only [List.map_cons, AVals]; exact ⟨_, _, rfl, hρ ty x, avals_map hρ ty xs⟩

theorem opds_rep {env : Nat → AV} {ρ : Operand → Value} (hρ : ∀ ty x, AVal G w β (opd T env ty x) (ρ x)) : ∀ (xs : List Operand) (ts : List Nat), AVals G w β (opds T env xs ts) (xs.map ρ)
  | [], _ => by simp only [opds, List.map_nil, AVals]
  | x :: xs, ts => by simp only [opds, List.map_cons, AVals]; exact ⟨_, _, rfl, (hρ _ x).deep, opds_rep hρ xs ts.tail⟩

theorem oaval {env : Nat → AV} {ρ : Operand → Value} (hρ : ∀ ty x, AVal G w β (opd T env ty x) (ρ x)) (x : Option Operand) : OAVal G w β (x.map (opd T env 0)) (x.map ρ) := by
  cases x with
  | none => trivial
  | some x => exact hρ 0 x


theorem zero_size {k : TK} {zero : List S} {size : Nat} {z : Value} (g7 : z = if k.agg = true then Value.agg (zero.map S.zval).toArray else (zero.headD S.np).zval) (g8 : zero.length = size) (g9 : k.agg = false → size = 1) : z.cells.size = size := by
  subst g7
  cases hag : k.agg with
  | true => simp [Value.cells, g8]
  | false =>
    have hz1 : (zero.headD .np).zval.oneCell' = true := by cases hh : zero.headD .np <;> rfl
    rw [if_neg (by simp), cells_one hz1]
    simp [g9 hag]

theorem run_buildSlice (hT : TOk P T) {t e n : Nat} {i j : TI} (ht : T t = some i) (hk : i.k = .slice e) (hj : T e = some j) (us : List Value) (parts : Array (Nat × Value)) (hp : parts.toList = (us.zipIdx 0).map fun p => (p.2, p.1))
    (hus : ∀ v ∈ us, v.cells.size = j.size) (hn : us.length = n) (h3 : 1 ≤ j.size) (h4 : n * j.size ≤ 16777216) :
    (Instr.buildSlice t n parts).run P w = .ok (.slice (some ⟨w.heap.size, 0, none⟩) n n) (w.alloc (.cells (us.map fun v => v.cells.toList).flatten.toArray e)) := by
  obtain ⟨d, info, z, b1, b2, _⟩ := hT t i ht
  obtain ⟨d', info', z', g1, g2, g3, g4, g5, g6, g7, g8, g9, g10⟩ := hT e j hj
  rw [hk] at b2
  cases d <;> simp only [tkOf, reduceCtorEq, TK.slice.injEq] at b2
  subst b2
  have hzs := zero_size g7 g8 g9
  have hfill := fill_rows j.size us 0 ((Array.range (n * j.size)).map (fun x => z'.cells[x % z'.cells.size]!)).toList hus (by simp [hn])
  have hdrop : ((Array.range (n * j.size)).map (fun x => z'.cells[x % z'.cells.size]!)).toList.drop ((0 + us.length) * j.size) = [] := by
    apply List.drop_eq_nil_of_le; simp [hn]
  rw [hdrop, List.append_nil, ← hp] at hfill
  simp only [Nat.zero_mul, List.take_zero, List.nil_append, Array.toArray_toList] at hfill
  have h5 : ¬ (n * j.size > 2 ^ 24) := by omega
  by_cases h0 : n = 0
  · subst h0
    obtain rfl : us = [] := List.length_eq_zero_iff.1 hn
    obtain rfl : parts = #[] := Array.toList_eq_nil_iff.1 (by rw [hp]; rfl)
    simp [Instr.buildSlice, run_underlying' w b1, run_sizeOf' w g3, Instr.fill, newRow, show Array.range 0 = #[] from rfl]
  · have h6 : ¬ (n * j.size = 0) := fun h => by rcases Nat.mul_eq_zero.1 h with h | h <;> omega
    simp only [Instr.buildSlice, Sem.run_bind, run_underlying' w b1, Result.andThen_ok, run_sizeOf' w g3, g4, Sem.run_ite, if_neg h5, if_neg h6, run_zero' w g3 g6, Sem.run_map, Sem.run_pure]
    simp only [Sem.run_pure, Result.andThen_ok, Sem.run_bind, hfill]
    simp [newRow]

end

theorem pcases {c : Cx} {T : Nat → Option TI} {G : Nat → Prop} {β : Nat → Value} {σ : St} {a : Act} {w : World} (hT : TOk c.P T)
    (hc : Conc c G β σ a w) {own : Bool} {o : Oper} {φ : Option Prop} {x : AV} (h : pstep T own o σ.env = some (φ, x)) (hφ : φ.getD True) {K : Act → World → Prop} {Q : Exit → Act → World → Prop}
    (hK : ∀ G' w' v, Ext G G' w w' → AVal G' w' β x v → K (a.put o.dst v) w') : o.wp c.P a w K Q := by
  have hρ : ∀ ty x, AVal G w β (opd T σ.env ty x) (a.eval x) := opd_rep hc T
  have same : ∀ {v}, (execOp a.eval o).run c.P w = .ok (.value v) w → AVal G w β x v → o.wp c.P a w K Q := fun hr hv => wp_value hr (hK _ _ _ (Ext.refl hc.lt) hv)
  have pureRun : ∀ {s : Sem Value}, execOp a.eval o = (do pure (.value (← s))) → (∃ z, s.run c.P w = .ok z w ∧ AVal G w β x z) → o.wp c.P a w K Q := fun {s} he ⟨z, h1, h2⟩ =>
    same (by rw [he]; simp [h1]) h2
  unfold pstep at h
  split at h
  case h_1 y ho =>
    split at h
    · cases h
    · cases h; exact same (by simp [execOp, ho]) (hρ _ _).nrm
  case h_2 y ho =>
    split at h
    · cases h
    · cases h; exact same (by simp [execOp, ho]) (hρ _ _).nrm
  case h_3 cnd y z ho =>
    have hcn := hρ 0 cnd
    split at h
    · rename_i e; cases h; rw [e] at hcn; simp only [AVal, Rep] at hcn
      exact same (v := a.eval y) (by simp [execOp, ho, hcn, asBool]) (hρ _ _).nrm
    · rename_i e; cases h; rw [e] at hcn; simp only [AVal, Rep] at hcn
      exact same (v := a.eval z) (by simp [execOp, ho, hcn, asBool]) (hρ _ _).nrm
    · cases h
  case h_4 t y ho =>
    split at h
    · cases h
    · split at h
      · rename_i cs hcs
        cases h
        have hr := cellsS_rep hcs (hρ t y)
        refine wp_value (v := .pointer (some ⟨w.heap.size, 0, none⟩)) (w' := w.alloc (.cells (a.eval y).cells t)) (by simp [execOp, ho, Instr.box, newVar, newRow]) (hK _ _ _ (Ext.alloc hc.lt _) ?_)
        simp only [AVal, Rep]
        exact ⟨_, 0, rfl, alloc_rep hc.lt hr t 0 w rfl⟩
      · cases h
  case h_5 t n parts ho =>
    split at h
    · rename_i i ht
      split at h
      · rename_i e hk
        split at h
        · rename_i j hj
          split at h
          · rename_i rows hp
            split at h
            · rename_i h1 h2 h3 h4
              cases h
              have h1 := Nat.eq_of_beq_eq_true h1
              have h3 := Nat.le_of_ble_eq_true h3
              have h4 := Nat.le_of_ble_eq_true h4
              have hlen : ∀ r ∈ rows, r.length = j.size := fun r hr => Nat.eq_of_beq_eq_true (List.all_eq_true.1 h2 r hr)
              obtain ⟨p1, p2, p3⟩ := partsS_rep hρ hp
              have hus : ∀ v ∈ parts.toList.map (fun p => a.eval p.2), v.cells.size = j.size := fun v hv => by
                obtain ⟨q, hq, rfl⟩ := List.mem_map.1 hv
                obtain ⟨m, hm⟩ := List.getElem?_of_mem hq
                have hlt : m < rows.length := by rw [p2]; exact (List.getElem?_eq_some_iff.1 hm).1
                have := (p3 m rows[m] q (List.getElem?_eq_getElem hlt) hm).1
                rw [hlen _ (List.getElem_mem hlt)] at this
                simpa using this
              have hrun := run_buildSlice (w := w) hT (n := n) ht hk hj (parts.toList.map fun p => a.eval p.2) (parts.map fun (i, x) => (i, a.eval x)) (by rw [← p1]; simp) hus (by rw [List.length_map, ← p2, h1]) h3 h4
              refine wp_value (by unfold execOp; rw [ho]; simp only [Sem.run_bind]; rw [hrun]; rfl) (hK _ _ _ (Ext.alloc hc.lt _) ?_)
              simp only [AVal, Rep]
              refine .inr ⟨w.heap.size, 0, n, by rw [h1], by omega, flatten_rows hlen ?_⟩
              refine alloc_rep hc.lt ?_ e 0 w rfl
              refine reps_flatten (by simp [p2]) fun m r vs hr hvs => ?_
              simp only [List.getElem?_map] at hvs
              cases hpm : parts.toList[m]? with
              | none => rw [hpm] at hvs; simp at hvs
              | some q => rw [hpm] at hvs; simp at hvs; subst hvs; exact p3 m r q hr hpm
            · cases h
          · cases h
        · cases h
      · cases h
    · cases h
  case h_6 t parts ho =>
    unfold pBuild at h
    split at h
    · cases h
    · rename_i i ht
      obtain ⟨d, info, z, b1, b2, b3, b4, b5, b6, b7, b8, b9, b10⟩ := hT t i ht
      have hz : ∀ (hag : i.k.agg = true), z.cells = (i.zero.map S.zval).toArray ∧ AVals G w β (i.zero.map zAV) (i.zero.map S.zval) := fun hag => by
        rw [if_pos hag] at b7
        refine ⟨by subst b7; rfl, AVals.mk (by simp) fun m y v hy hv => ?_⟩
        rw [List.getElem?_map] at hy hv
        cases hs : i.zero[m]? with
        | none => rw [hs] at hy; simp at hy
        | some s =>
          rw [hs] at hy hv; simp at hy hv; subst hy; subst hv
          exact zAV_rep (List.all_eq_true.1 b10 s (List.mem_of_getElem? hs))
      split at h
      · rename_i fs hk
        split at h
        · rename_i xs hall hf
          cases h
          obtain ⟨e1, e2⟩ := hz (by rw [hk]; rfl)
          rw [hk] at b2
          cases d <;> simp only [tkOf, reduceCtorEq, TK.struct.injEq] at b2
          rename_i fields
          subst b2
          obtain ⟨ps, m1', m2⟩ := run_places (w := w) hT fields.toList hall
          have m1 : (fields.mapM (m := Sem) fun f => do pure (f.offset, ← sizeOf f.type)).run c.P w = .ok ps.toArray w := by
            rw [Array.mapM_eq_mapM_toList]
            simp only [Sem.run_map, m1', Result.andThen_ok]
          obtain ⟨cs', f1, f2⟩ := fillA_rep (placeV := (ps.toArray[·]?)) hρ (fun j off ft k h1 h2 => by simpa using m2 j off ft k h1 h2) hf e2
          refine same (v := .agg cs'.toArray) ?_ (by simp only [AVal]; exact ⟨cs', rfl, f2⟩)
          unfold execOp; rw [ho]
          simp only [Sem.run_bind, Instr.build, run_zero' w b3 b6, Result.andThen_ok, run_underlying' w b1, Sem.run_map, m1, e1, Sem.run_pure]
          have : (parts.map fun (x : Nat × Operand) => (x.1, a.eval x.2)).toList = parts.toList.map fun p => (p.1, a.eval p.2) := by simp
          simp only [Sem.run_pure, Result.andThen_ok, this, f1]
        · cases h
      · rename_i len e hk
        split at h
        · rename_i m hm
          split at h
          · rename_i xs hf
            cases h
            obtain ⟨d', info', z', g1, g2, g3, g4, _⟩ := hT e m hm
            obtain ⟨e1, e2⟩ := hz (by rw [hk]; rfl)
            rw [hk] at b2
            cases d <;> simp only [tkOf, reduceCtorEq, TK.arr.injEq] at b2
            obtain ⟨rfl, rfl⟩ := b2
            obtain ⟨cs', f1, f2⟩ := fillA_rep (placeV := fun i => some (i * info'.size, info'.size)) hρ (fun j off ft k h1 h2 => by
              cases h1; rw [hm] at h2; cases h2; rw [g4]) hf e2
            refine same (v := .agg cs'.toArray) ?_ (by simp only [AVal]; exact ⟨cs', rfl, f2⟩)
            unfold execOp; rw [ho]
            simp only [Sem.run_bind, Instr.build, run_zero' w b3 b6, Result.andThen_ok, run_underlying' w b1, Sem.run_map, run_sizeOf' w g3, e1, Sem.run_pure]
            have : (parts.map fun (x : Nat × Operand) => (x.1, a.eval x.2)).toList = parts.toList.map fun p => (p.1, a.eval p.2) := by simp
            simp only [Sem.run_pure, Result.andThen_ok, this, f1]
          · cases h
        · cases h
      · cases h
  case h_7 t y ho =>
    split at h
    · rename_i row e
      split at h
      · rename_i z hl
        cases h
        have := hρ 0 y
        rw [e] at this
        exact pureRun (s := Instr.loadAt t (a.eval y)) (by simp only [execOp, ho]) (run_loadS hT hl this)
      · cases h
    · cases h
  case h_8 y ho =>
    have := hρ 0 y
    split at h
    · rename_i e; cases h; rw [e] at this
      have h2 := this
      simp only [AVal, Rep] at h2; obtain ⟨b, off, hv, _⟩ := h2
      rw [hv] at this
      exact same (by simp [execOp, ho, hv]) this
    · rename_i e; cases h; rw [e] at this
      have h2 := this
      simp only [AVal] at h2; obtain ⟨b, _, hv⟩ := h2
      rw [hv] at this
      exact same (by simp [execOp, ho, hv]) this
    · rename_i e; cases h; rw [e] at this
      have h2 := this
      simp only [AVal] at h2; obtain ⟨b, _, _, _, hv⟩ := h2
      rw [hv] at this
      exact same (by simp [execOp, ho, hv]) this
    · rename_i e; cases h; rw [e] at this
      have h2 := this
      simp only [AVal, Rep] at h2
      rw [h2] at this
      exact same (by simp [execOp, ho, h2]) this
    · rename_i e; cases h; rw [e] at this
      have h2 := this
      simp only [AVal] at h2; obtain ⟨vs, hv, _⟩ := h2
      rw [hv] at this
      exact same (by simp [execOp, ho, hv]) this
    · cases h
  case h_9 op t y z u ho =>
    exact pureRun (s := do eqGuard op t y z (a.eval y) (a.eval z); binOp op t (a.eval y) (a.eval z)) (by simp only [execOp, ho]) (run_pBin hT h hφ (hρ t y) (hρ u z) y z)
  case h_10 op t y ho =>
    exact pureRun (s := Op.unary op (a.eval y)) (by simp only [execOp, ho]) (run_pUn h (hρ t y))
  case h_11 src dst y ho =>
    exact pureRun (s := convert src dst (a.eval y)) (by simp only [execOp, ho]) (run_pConv hT h hφ (hρ src y).nrm)
  case h_12 f first caps ho =>
    split at h
    · rename_i e1 e2
      cases h
      have e1' : first = #[] := Array.toList_eq_nil_iff.1 e1
      have e2' : caps = #[] := Array.toList_eq_nil_iff.1 e2
      subst e1'; subst e2'
      exact same (v := .func (.func f) #[] #[]) (by simp [execOp, ho, Instr.makeFunc]) (by simp [AVal, Rep])
    · rename_i cs e1 e2
      cases h
      have e1' : first = #[] := Array.toList_eq_nil_iff.1 e1
      subst e1'
      refine same (v := .func (.func f) #[] (caps.map a.eval)) (by simp [execOp, ho, Instr.makeFunc]) ?_
      simp only [AVal]
      exact ⟨caps.toList.map a.eval, congrArg _ (Array.ext' (by simp)), avals_map hρ 0 caps.toList⟩
    · cases h
  case h_13 t y lo hi ho =>
    exact pureRun (s := Instr.sliceAt t (a.eval y) (lo.map a.eval) (hi.map a.eval) none) (by simp only [execOp, ho, Option.map_none]) (run_pSlice hT h hφ (hρ t y).nrm (oaval hρ lo) (oaval hρ hi))
  case h_14 t y f ho =>
    exact pureRun (s := Instr.fieldAt t (a.eval y) f) (by simp only [execOp, ho]) (run_pFieldAddr hT h (hρ 0 y))
  case h_15 t y f ho =>
    exact pureRun (s := Instr.field t (a.eval y) f) (by simp only [execOp, ho]) (run_pField hT h (hρ t y))
  case h_16 t y i ho =>
    exact pureRun (s := Instr.indexAt t (a.eval y) (a.eval i)) (by simp only [execOp, ho]) (run_pIndexAddr hT h hφ (hρ t y).nrm (hρ 0 i))
  case h_17 t y i ho =>
    exact pureRun (s := Instr.index t (a.eval y) (a.eval i)) (by simp only [execOp, ho]) (run_pIndex hT h hφ (hρ t y) (hρ 0 i))
  case h_18 y i ho =>
    split at h
    · rename_i xs e
      split at h
      · rename_i z hz
        cases h
        have := hρ 0 y
        rw [e] at this
        simp only [AVal] at this
        obtain ⟨vs, hv, h2⟩ := this
        obtain ⟨u, hu, h3⟩ := h2.get hz
        exact same (v := u) (by unfold execOp; rw [ho]; simp [hv, Instr.extract, hu]) h3
      · cases h
    · cases h
  case h_19 args ts ho =>
    split at h
    · rename_i y t e e'
      have e1 : args = #[y] := Array.toList_inj.1 (by simpa using e)
      have e2 : ts = #[t] := Array.toList_inj.1 (by simpa using e')
      subst e1; subst e2
      obtain ⟨z, h1, h2⟩ := run_pLen (w := w) (ty := o.type) hT h (hρ t y)
      exact same (v := z) (by simp [execOp, ho, resolve, invoke, builtin, h1]) h2
    · cases h
  case h_20 args ts ho =>
    obtain ⟨z, h1, h2⟩ := run_pMin (P := c.P) h (avals_map hρ 0 args.toList)
    refine same (v := z) ?_ h2
    have e : (args.toList.map a.eval).toArray = args.map a.eval := Array.ext' (by simp)
    rw [e] at h1
    simp [execOp, ho, resolve, invoke, h1]
  case h_21 args ts ho =>
    obtain ⟨z, h1, h2⟩ := run_pMin (P := c.P) h (avals_map hρ 0 args.toList)
    refine same (v := z) ?_ h2
    have e : (args.toList.map a.eval).toArray = args.map a.eval := Array.ext' (by simp)
    rw [e] at h1
    simp [execOp, ho, resolve, invoke, h1]
  case h_22 args ts ho =>
    split at h
    · rename_i y z t tx e e'
      have e1 : args = #[y, z] := Array.toList_inj.1 (by simpa using e)
      have e2 : ts = #[t, tx] := Array.toList_inj.1 (by simpa using e')
      subst e1; subst e2
      obtain ⟨u, h1, h2⟩ := run_pCopy (w := w) (ty := o.type) hT h (hρ t y) (hρ tx z)
      exact same (v := u) (by simp [execOp, ho, resolve, invoke, builtin, h1]) h2
    · cases h
  all_goals cases h

end Go.Abs
