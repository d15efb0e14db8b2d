/-
  THE ABSTRACT MACHINE, PART J: one step; a region in its order; a region whose order is drawn.
-/
import Derived.Test.YtefbmooajknmgaaDoorAbsR
set_option linter.unusedSimpArgs false
set_option linter.unusedVariables false
namespace Go.Abs

theorem cellsA_lt {x : AV} {n : Nat} (h : x.lt n = true) : AV.ltAll n x.cellsA = true := by
  cases x <;> simp only [AV.cellsA, AV.nrm, AV.ltAll, Bool.and_true] <;> first | exact h | rfl | simpa only [AV.lt] using h

theorem ltAll_append {n : Nat} {xs ys : List AV} (h1 : AV.ltAll n xs = true) (h2 : AV.ltAll n ys = true) : AV.ltAll n (xs ++ ys) = true :=
  ltAll_mk fun q y hq => by
    rw [List.getElem?_append] at hq
    split at hq
    · exact ltAll_get h1 hq
    · exact ltAll_get h2 hq
theorem ltAll_take {n : Nat} {xs : List AV} (h : AV.ltAll n xs = true) (k : Nat) : AV.ltAll n (xs.take k) = true :=
  ltAll_mk fun q y hq => by
    rw [List.getElem?_take] at hq
    split at hq
    · exact ltAll_get h hq
    · cases hq
theorem ltAll_drop {n : Nat} {xs : List AV} (h : AV.ltAll n xs = true) (k : Nat) : AV.ltAll n (xs.drop k) = true :=
  ltAll_mk fun q y hq => by
    rw [List.getElem?_drop] at hq
    exact ltAll_get h hq

theorem fillA_lt {T : Nat → Option TI} {env : Nat → AV} {n : Nat} (h : ∀ ty x, (opd T env ty x).lt n = true) {place : Nat → Option (Nat × Nat)} : ∀ {parts : List (Nat × Operand)} {cells xs : List AV}, fillA T env place cells parts = some xs → AV.ltAll n cells = true → AV.ltAll n xs = true
  | [], cells, xs, hf, hc => by simp only [fillA, Option.some.injEq] at hf; subst hf; exact hc
  | (j, x) :: r, cells, xs, hf, hc => by
    simp only [fillA, spine_eq] at hf
    split at hf
    · cases hf
    · split at hf
      · cases hf
      · split at hf
        · exact fillA_lt h hf (ltAll_append (ltAll_append (ltAll_take hc _) (cellsA_lt (h _ _))) (ltAll_drop hc _))
        · cases hf

theorem pPart_lt {T : Nat → Option TI} {t : Nat} {xs : List AV} {off n : Nat} {y : AV} (h : pPart T t xs off = some y) (hx : AV.ltAll n xs = true) : y.lt n = true := by
  unfold pPart at h
  split at h
  · cases h
  · split at h
    · split at h
      · cases h; simp only [AV.lt]; exact ltAll_take (ltAll_drop hx _) _
      · cases h
    · exact ltAll_get hx h

theorem pAddr_lt {x y : AV} {off n : Nat} (h : pAddr x off = some y) (hx : x.lt n = true) : y.lt n = true := by
  unfold pAddr at h
  split at h <;> cases h <;> first | rfl | (simp only [AV.lt] at hx ⊢; exact hx)

theorem pField_lt {T : Nat → Option TI} {t f n : Nat} {x y : AV} {φ : Option Prop} (h : pField T t x f = some (φ, y)) (hx : x.lt n = true) : y.lt n = true := by
  unfold pField at h
  split at h
  · simp only [AV.lt] at hx
    split at h
    · split at h
      · split at h
        · rename_i hp; cases h; exact pPart_lt hp hx
        · cases h
      · cases h
    · cases h
  · cases h
theorem pIndex_lt {T : Nat → Option TI} {t n : Nat} {x i y : AV} {φ : Option Prop} (h : pIndex T t x i = some (φ, y)) (hx : x.lt n = true) : y.lt n = true := by
  unfold pIndex at h
  split at h
  · split at h <;> cases h; rfl
  · simp only [AV.lt] at hx
    split at h
    · split at h
      · split at h
        · rename_i hp; cases h; exact pPart_lt hp hx
        · cases h
      · cases h
    · cases h
  · cases h
theorem pIndexAddr_lt {T : Nat → Option TI} {t n : Nat} {x i y : AV} {φ : Option Prop} (h : pIndexAddr T t x i = some (φ, y)) (hx : x.lt n = true) : y.lt n = true := by
  unfold pIndexAddr at h
  split at h
  · split at h
    · split at h
      · split at h <;> cases h; rfl
      · cases h
    · split at h
      · split at h
        · rename_i hp; cases h; exact pAddr_lt hp hx
        · cases h
      · cases h
    · cases h
  · cases h

theorem pstep_lt {T : Nat → Option TI} {own : Bool} {o : Oper} {σ : St} {φ : Option Prop} {x : AV} (hl : ∀ t, (σ.env t).lt σ.nx = true) (h : pstep T own o σ.env = some (φ, x)) : x.lt σ.nx = true := by
  have ho : ∀ ty x, (opd T σ.env ty x).lt σ.nx = true := opd_lt hl T
  unfold pstep at h
  split at h
  case h_1 => split at h <;> cases h; exact AV.nrm_lt (ho _ _)
  case h_2 => split at h <;> cases h; exact AV.nrm_lt (ho _ _)
  case h_3 => split at h <;> cases h <;> exact AV.nrm_lt (ho _ _)
  case h_4 =>
    split at h
    · cases h
    · split at h <;> cases h; rfl
  case h_5 =>
    repeat' split at h
    all_goals cases h
    rfl
  case h_6 =>
    unfold pBuild at h
    repeat' split at h
    all_goals cases h
    all_goals (rename_i hf; simp only [AV.lt]; exact fillA_lt ho hf (zAV_ltAll _))
  case h_7 =>
    repeat' split at h
    all_goals cases h
    rename_i hf; exact loadS_lt hf
  case h_8 y _ =>
    have := ho 0 y
    split at h <;> cases h <;> first | rfl | (rename_i e; rw [e] at this; exact this)
  case h_9 =>
    unfold pBin at h
    split at h
    · rename_i r0 h0
      cases h
      unfold pBin0 pInt pStr at h0
      repeat' split at h0
      all_goals first | (cases h0; rfl) | cases h0
    · unfold pArr at h
      repeat' split at h
      all_goals first | (cases h; rfl) | cases h
  case h_10 =>
    unfold pUn at h
    split at h <;> cases h <;> rfl
  case h_11 =>
    unfold pConv at h
    repeat' split at h
    all_goals first | (cases h; rfl) | cases h
  case h_12 =>
    split at h <;> cases h
    · rfl
    · simp only [AV.lt]
      refine ltAll_mk fun q y hq => ?_
      rw [List.getElem?_map] at hq
      obtain ⟨z, _, rfl⟩ := Option.map_eq_some_iff.1 hq
      exact ho _ _
  case h_13 =>
    unfold pSlice at h
    repeat' split at h
    all_goals first | (cases h; rfl) | cases h
  case h_14 =>
    unfold pFieldAddr at h
    repeat' split at h
    all_goals first | (cases h; rename_i hp; exact pAddr_lt hp (ho _ _)) | cases h
  case h_15 t y f _ => exact pField_lt h (ho t y)
  case h_16 => exact pIndexAddr_lt h (AV.nrm_lt (ho _ _))
  case h_17 => exact pIndex_lt h (ho _ _)
  case h_18 y i _ =>
    have := ho 0 y
    split at h
    · rename_i xs e
      split at h
      · rename_i hz
        cases h
        rw [e] at this
        simp only [AV.lt] at this
        exact ltAll_get this hz
      · cases h
    · cases h
  case h_19 =>
    split at h
    · unfold pLen at h
      split at h <;> first | (cases h; rfl) | cases h
    · cases h
  case h_20 =>
    unfold pMin at h
    repeat' split at h
    all_goals first | (cases h; rfl) | cases h
  case h_21 =>
    unfold pMin at h
    repeat' split at h
    all_goals first | (cases h; rfl) | cases h
  case h_22 =>
    split at h
    · unfold pCopy at h
      repeat' split at h
      all_goals first | (cases h; rfl) | cases h
    · cases h
  all_goals cases h

/-- One operation on what the frame owns, rows of any cells too. -/
def lstepB (T : Nat → Option TI) (own : Bool) (o : Oper) (σ : St) : Option (Option Prop × AV × St) :=
  match lstep T own o σ with
  | some r => some r
  | none => lstepA T o σ
/-- One operation that calls nothing: a condition, the value, the state behind it (before the value is laid). -/
def step1 (T : Nat → Option TI) (own : Bool) (o : Oper) (σ : St) : Option (Option Prop × AV × St) :=
  match pstep T own o σ.env with
  | some (φ, x) => some (φ, x, σ)
  | none => lstepB T own o σ

theorem step_sound {c : Cx} {T : Nat → Option TI} {G : Nat → Prop} {β : Nat → Value} {σ σ' : St} {a : Act} {w : World} (hT : TOk c.P T)
    (hc : Conc c G β σ a w) {own : Bool} {o : Oper} {φ : Option Prop} {x : AV} (h : step1 T own o σ = some (φ, x, σ')) (hφ : φ.getD True) (hd : ∀ t, o.dst = some t → t < c.N) {K : Act → World → Prop} {Q : Exit → Act → World → Prop}
    (hK : ∀ G' β' a' w', Conc c G' β' (σ'.put o.dst x) a' w' → K a' w') : o.wp c.P a w K Q := by
  unfold step1 at h
  split at h
  · rename_i φ' x' hp
    cases h
    exact pcases hT hc hp hφ fun G' w' v he hv => hK G' β _ w' ((hc.ext he).put hd hv (pstep_lt hc.envlt hp))
  · unfold lstepB at h
    split at h
    · rename_i hl
      cases h
      exact lcases hT hc hl hφ fun G' β' w' v h1 h2 h3 => hK G' β' _ w' (h1.put hd h2 h3)
    · exact acases hT hc h hφ fun β' w' v h1 h2 h3 => hK G β' _ w' (h1.put hd h2 h3)

mutual
/-- The value is reckoned before it is handed on. -/
def forced : AV → (AV → Prop) → Prop
  | .s (.int k n), K => K (.s (.int k n))
  | .s (.bool b), K => K (.s (.bool b))
  | .s (.str l), K => K (.s (.str l))
  | .s (.sl sz rows), K => K (.s (.sl sz rows))
  | .s .np, K => K (.s .np)
  | .s (.pt row), K => K (.s (.pt row))
  | .s (.fn f), K => K (.s (.fn f))
  | .s .nf, K => K (.s .nf)
  | .nl sz, K => K (.nl sz)
  | .agg xs, K => forcedAll xs fun ys => K (.agg ys)
  | .tup xs, K => forcedAll xs fun ys => K (.tup ys)
  | .op k o, K => K (.op k o)
  | .orow k, K => K (.orow k)
  | .rp k sz i o, K => K (.rp k sz i o)
  | .clo f xs, K => forcedAll xs fun ys => K (.clo f ys)
  | .junk, K => K .junk
def forcedAll : List AV → (List AV → Prop) → Prop
  | [], K => K []
  | x :: xs, K => forced x fun y => forcedAll xs fun ys => K (y :: ys)
end
mutual
theorem forced_eq : ∀ (x : AV) (K : AV → Prop), forced x K = K x
  | .s (.int k n), K => rfl
  | .s (.bool b), K => rfl
  | .s (.str l), K => rfl
  | .s (.sl sz rows), K => rfl
  | .s .np, K => rfl
  | .s (.pt row), K => rfl
  | .s (.fn f), K => rfl
  | .s .nf, K => rfl
  | .nl sz, K => rfl
  | .agg xs, K => by simp only [forced]; exact forcedAll_eq xs _
  | .tup xs, K => by simp only [forced]; exact forcedAll_eq xs _
  | .op k o, K => rfl
  | .orow k, K => rfl
  | .rp k sz i o, K => rfl
  | .clo f xs, K => by simp only [forced]; exact forcedAll_eq xs _
  | .junk, K => rfl
theorem forcedAll_eq : ∀ (xs : List AV) (K : List AV → Prop), forcedAll xs K = K xs
  | [], K => rfl
  | x :: xs, K => by
    simp only [forcedAll]
    rw [forced_eq x]
    exact forcedAll_eq xs _
end

/-- A value's payload under a name of its own: what the walk then knows of it is an equation. -/
def named (x : AV) (K : AV → Prop) : Prop :=
  match x with
  | .s (.bool b) => ∀ b', b' = b → K (.s (.bool b'))
  | .s (.int k n) => ∀ n', n' = n → K (.s (.int k n'))
  | .s (.pt r) => ∀ r', r' = r → K (.s (.pt r'))
  | .s (.str l) => ∀ l', l' = l → K (.s (.str l'))
  | .s (.sl sz rows) => ∀ rows', rows' = rows → K (.s (.sl sz rows'))
  | x => forced x K
theorem named_out {x : AV} {K : AV → Prop} (h : named x K) : K x := by
  unfold named at h
  split at h <;> first | exact h _ rfl | exact (forced_eq _ K) ▸ h

/-- A value goes into its temporary. -/
def St.putN (σ : St) (d : Nat) (x : AV) : St := { σ with env := fun t => bif Nat.beq t d then x else σ.env t }
def lay (nm : Bool) (d : Option Nat) (x : AV) (σ : St) (K : St → Prop) : Prop :=
  match d with
  | none => K σ
  | some d => match nm with
    | true => named x fun y => K (σ.putN d y)
    | false => forced x fun y => K (σ.putN d y)
theorem lay_out {nm : Bool} {d : Option Nat} {x : AV} {σ : St} {K : St → Prop} (h : lay nm d x σ K) : K (σ.put d x) := by
  unfold lay at h
  split at h
  · exact h
  · split at h
    · exact named_out h
    · rw [forced_eq] at h; exact h

def andO (φ : Option Prop) (K : Prop) : Prop :=
  match φ with
  | none => K
  | some p => p ∧ K
theorem andO_out {φ : Option Prop} {K : Prop} (h : andO φ K) : φ.getD True ∧ K := by
  cases φ with
  | none => exact ⟨trivial, h⟩
  | some p => exact h

def inL (t : Nat) : List Nat → Bool
  | [] => false
  | x :: xs => Nat.beq t x || inL t xs
def dIn (d : Option Nat) (l : List Nat) : Bool := match d with | some t => inL t l | none => false

theorem undef_rep {G : Nat → Prop} {w : World} {β : Nat → Value} : AVal G w β (.tup []) undef := by
  simp only [AVal]
  exact ⟨[], rfl, by simp only [AVals]⟩

/-- The operations of a region in the text's order. M: the temporaries whose makes are the frame's own. nm: those whose values get a name. N: the number of temporaries. -/
def evOps (T : Nat → Option TI) (Γ : Nat → Option PSpec) (M nm : List Nat) (N : Nat) (all : List Oper) : List Oper → St → (St → Prop) → Prop
  | [], σ, K => K σ
  | o :: os, σ, K =>
    match (match o.dst with | some t => Nat.blt t N | none => true) with
    | false => False
    | true =>
      let run : Prop := match callOf T Γ o σ.env with
        | some (_, s, xs) => ∃ r, s.spec xs r ∧ match afterCall (dIn o.dst M) σ r with
          | none => False
          | some (x, σ') => lay (dIn o.dst nm) o.dst x σ' fun σ'' => evOps T Γ M nm N all os σ'' K
        | none => match step1 T (dIn o.dst M) o σ with
          | none => callL T Γ (dIn o.dst M) o σ fun x σ' => lay (dIn o.dst nm) o.dst x σ' fun σ'' => evOps T Γ M nm N all os σ'' K
          | some (φ, x, σ') => andO φ (lay (dIn o.dst nm) o.dst x σ' fun σ'' => evOps T Γ M nm N all os σ'' K)
      match o.guard with
      | none => run
      | some (j, want) => match (all[j]?).bind (·.dst) with
        | some g => match σ.env g with
          | .s (.bool true) => match want with | true => run | false => lay false o.dst (.tup []) σ fun σ'' => evOps T Γ M nm N all os σ'' K
          | .s (.bool false) => match want with | false => run | true => lay false o.dst (.tup []) σ fun σ'' => evOps T Γ M nm N all os σ'' K
          | .tup [] => lay false o.dst (.tup []) σ fun σ'' => evOps T Γ M nm N all os σ'' K
          | _ => False
        | none => False

theorem yielded_eq {c : Cx} {G : Nat → Prop} {β : Nat → Value} {σ : St} {a : Act} {w : World} (hc : Conc c G β σ a w) {ops : Array Oper} {j g : Nat} {b : Bool} (hj : (ops[j]?).bind (·.dst) = some g) (hg : g < c.N)
    (hb : σ.env g = .s (.bool b)) : yielded ops a.tmps j = some b := by
  have h1 := hc.env g
  rw [hb] at h1
  simp only [AVal, Rep] at h1
  have h2 : a.tmps[g]? = some (.bool b) := by
    have hlt : g < a.tmps.size := by rw [hc.size]; exact hg
    rw [Array.getElem?_eq_getElem hlt]
    rw [Array.getD_eq_getD_getElem?, Array.getElem?_eq_getElem hlt] at h1
    simpa using h1
  simp [yielded, hj, h2]

theorem yielded_none {c : Cx} {G : Nat → Prop} {β : Nat → Value} {σ : St} {a : Act} {w : World} (hc : Conc c G β σ a w) {ops : Array Oper} {j g : Nat} (hj : (ops[j]?).bind (·.dst) = some g) (hg : g < c.N)
    (hb : σ.env g = .tup []) : yielded ops a.tmps j = none := by
  have h1 := hc.env g
  rw [hb] at h1
  simp only [AVal] at h1
  obtain ⟨vs, h1, h2⟩ := h1
  simp only [AVals] at h2
  subst h2
  have h3 : a.tmps[g]? = some (.tuple #[]) := by
    have hlt : g < a.tmps.size := by rw [hc.size]; exact hg
    rw [Array.getElem?_eq_getElem hlt]
    rw [Array.getD_eq_getD_getElem?, Array.getElem?_eq_getElem hlt] at h1
    simpa using h1
  simp [yielded, hj, h3]

theorem evOps_sound {c : Cx} {T : Nat → Option TI} {Γ : Nat → Option PSpec} {M nm : List Nat} (hT : TOk c.P T) (hΓ : ∀ f s, Γ f = some s → PSound c.P f s) {all : List Oper} {Q : Exit → Act → World → Prop} {K : St → Prop}
    (hK : ∀ σ G β a w, K σ → Conc c G β σ a w → Q .normal a w) (hN : ∀ (j g : Nat), (all[j]?).bind (fun o => o.dst) = some g → g < c.N) :
    ∀ (os : List Oper) (σ : St) (G : Nat → Prop) (β : Nat → Value) (a : Act) (w : World), evOps T Γ M nm c.N all os σ K → Conc c G β σ a w → wpList c.P all.toArray Q os a w
  | [], σ, G, β, a, w, h, hc => hK σ G β a w h hc
  | o :: os, σ, G, β, a, w, h, hc => by
    unfold evOps at h
    split at h
    · exact h.elim
    · rename_i hdst
      have hd : ∀ t, o.dst = some t → t < c.N := fun t ht => by
        rw [ht] at hdst
        exact Nat.le_of_ble_eq_true hdst
      have hrun : (match callOf T Γ o σ.env with
        | some (_, s, xs) => ∃ r, s.spec xs r ∧ match afterCall (dIn o.dst M) σ r with
          | none => False
          | some (x, σ') => lay (dIn o.dst nm) o.dst x σ' fun σ'' => evOps T Γ M nm c.N all os σ'' K
        | none => match step1 T (dIn o.dst M) o σ with
          | none => callL T Γ (dIn o.dst M) o σ fun x σ' => lay (dIn o.dst nm) o.dst x σ' fun σ'' => evOps T Γ M nm c.N all os σ'' K
          | some (φ, x, σ') => andO φ (lay (dIn o.dst nm) o.dst x σ' fun σ'' => evOps T Γ M nm c.N all os σ'' K)) → o.wp c.P a w (wpList c.P all.toArray Q os) Q := fun h => by
        split at h
        · rename_i g s xs hco
          obtain ⟨r, hr, h⟩ := h
          split at h
          · exact h.elim
          · rename_i x σ' hx
            refine call_sound hΓ hc hco hr hx fun G' β' w' v h1 h2 h3 => evOps_sound (M := M) (nm := nm) hT hΓ hK hN os _ G' β' _ w' (lay_out h) (h1.put hd h2 h3)
        · split at h
          · exact callL_sound hT hΓ hc h fun x σ' G' β' w' v hk h1 h2 h3 => evOps_sound (M := M) (nm := nm) hT hΓ hK hN os _ G' β' _ w' (lay_out hk) (h1.put hd h2 h3)
          · rename_i φ x σ' hs
            obtain ⟨h1, h2⟩ := andO_out h
            refine step_sound hT hc hs h1 hd fun G' β' a' w' hc' => evOps_sound (M := M) (nm := nm) hT hΓ hK hN os _ G' β' a' w' (lay_out h2) hc'
      have hskip : (lay false o.dst (.tup []) σ fun σ'' => evOps T Γ M nm c.N all os σ'' K) → wpList c.P all.toArray Q os (a.put o.dst undef) w := fun h =>
        evOps_sound (M := M) (nm := nm) hT hΓ hK hN os _ G β _ w (lay_out h) (hc.put hd undef_rep rfl)
      dsimp only at h
      unfold wpList
      split at h
      · rename_i hg
        rw [if_pos (by simp [Region.wanted, hg])]
        exact .inl (hrun h)
      · rename_i j want hg
        split at h
        · rename_i g hj
          have hj' : (all.toArray[j]?).bind (·.dst) = some g := by simpa using hj
          split at h
          · rename_i hb
            have hy := yielded_eq hc hj' (hN j g hj) hb
            split at h
            · rw [if_pos (by simp [Region.wanted, hg, hy])]
              exact .inl (hrun h)
            · rw [if_neg (by simp [Region.wanted, hg, hy])]
              exact hskip h
          · rename_i hb
            have hy := yielded_eq hc hj' (hN j g hj) hb
            split at h
            · rw [if_pos (by simp [Region.wanted, hg, hy])]
              exact .inl (hrun h)
            · rw [if_neg (by simp [Region.wanted, hg, hy])]
              exact hskip h
          · rename_i hb
            have hy := yielded_none hc hj' (hN j g hj) hb
            rw [if_neg (by simp [Region.wanted, hg, hy])]
            exact hskip h
          · exact h.elim
        · exact h.elim

def dstsOk (N : Nat) : List Oper → Bool
  | [] => true
  | o :: os => (match o.dst with | some t => Nat.blt t N | none => true) && dstsOk N os
theorem dstsOk_spec {N : Nat} : ∀ {os : List Oper}, dstsOk N os = true → ∀ (j g : Nat), (os[j]?).bind (fun o => o.dst) = some g → g < N
  | [], _, j, g, h => by simp at h
  | o :: os, ho, 0, g, h => by
    simp only [dstsOk, Bool.and_eq_true] at ho
    simp at h
    rw [h] at ho
    exact Nat.le_of_ble_eq_true ho.1
  | o :: os, ho, j + 1, g, h => by
    simp only [dstsOk, Bool.and_eq_true] at ho
    exact dstsOk_spec ho.2 j g (by simpa using h)

end Go.Abs
