/-
  THE ABSTRACT MACHINE, PART K: code; what is forgotten, renamed, given up; functions.
-/
import Derived.Test.YtefbmooajknmgaaDoorAbsJ
set_option linter.unusedSimpArgs false
set_option linter.unusedVariables false
namespace Go.Abs

/-- What a code does, of abstract states. 'E': why it ends. -/
inductive End where
  | normal
  | exit (id : Nat)
  | ret

def toExit : End → Exit
  | .normal => .normal
  | .exit id => .exit id
  | .ret => .ret

/-- The abstract triple. -/
def Tri (c : Cx) (code : Code) (σ : St) (Q : End → St → Prop) : Prop :=
  ∀ G β a w, Conc c G β σ a w → code.wp c.P (fun e a' w' => ∃ e' G' β' σ', e = toExit e' ∧ Q e' σ' ∧ Conc c G' β' σ' a' w') a w

theorem tri_region {c : Cx} {T : Nat → Option TI} {Γ : Nat → Option PSpec} (hT : TOk c.P T) (hΓ : ∀ f s, Γ f = some s → PSound c.P f s) {id : Nat} {ops : List Oper} {σ : St} {Q : End → St → Prop} (M nm : List Nat)
    (hN : dstsOk c.N ops = true) (h : evOps T Γ M nm c.N ops ops σ (Q .normal)) : Tri c (.region id ops.toArray false) σ Q := fun G β a w hc =>
  wp_region_lit (evOps_sound hT hΓ (Q := fun e a' w' => ∃ e' G' β' σ', e = toExit e' ∧ Q e' σ' ∧ Conc c G' β' σ' a' w') (fun σ' G' β' a' w' hk hc' => ⟨.normal, G', β', σ', rfl, hk, hc'⟩) (dstsOk_spec hN) ops σ G β a w h hc)

def thenQ (c : Cx) (y : Code) (Q : End → St → Prop) : End → St → Prop
  | .normal, σ => Tri c y σ Q
  | e, σ => Q e σ
def blockQ (id : Nat) (Q : End → St → Prop) : End → St → Prop
  | .exit j, σ => match Nat.beq j id with | true => Q .normal σ | false => Q (.exit j) σ
  | e, σ => Q e σ

section
variable {c : Cx} {σ : St} {Q : End → St → Prop}

theorem tri_seq {x y : Code} (h : Tri c x σ (thenQ c y Q)) : Tri c (.seq x y) σ Q := fun G β a w hc => by
  refine wp_seq (wp_mono (h G β a w hc) ?_)
  rintro e a' w' ⟨e', G', β', σ', rfl, hq, hc'⟩
  cases e' with
  | normal => exact hq G' β' a' w' hc'
  | exit id => exact ⟨.exit id, G', β', σ', rfl, hq, hc'⟩
  | ret => exact ⟨.ret, G', β', σ', rfl, hq, hc'⟩

theorem tri_skip (h : Q .normal σ) : Tri c .skip σ Q := fun G β a w hc => wp_skip ⟨.normal, G, β, σ, rfl, h, hc⟩
theorem tri_exit {id : Nat} (h : Q (.exit id) σ) : Tri c (.exit id) σ Q := fun G β a w hc => wp_exit ⟨.exit id, G, β, σ, rfl, h, hc⟩
theorem tri_ret (h : Q .ret σ) : Tri c .ret σ Q := fun G β a w hc => wp_ret ⟨.ret, G, β, σ, rfl, h, hc⟩

theorem tri_block {id : Nat} {x : Code} (h : Tri c x σ (blockQ id Q)) : Tri c (.block id x) σ Q := fun G β a w hc => by
  refine wp_block (wp_mono (h G β a w hc) ?_)
  rintro e a' w' ⟨e', G', β', σ', rfl, hq, hc'⟩
  cases e' with
  | normal => exact ⟨.normal, G', β', σ', rfl, hq, hc'⟩
  | ret => exact ⟨.ret, G', β', σ', rfl, hq, hc'⟩
  | exit j =>
    simp only [blockQ] at hq
    show Exit.inBlock id _ (.exit j) a' w'
    unfold Exit.inBlock
    dsimp only
    split at hq
    · rename_i e
      rw [if_pos (Nat.eq_of_beq_eq_true e)]
      exact ⟨.normal, G', β', σ', rfl, hq, hc'⟩
    · rename_i e
      rw [if_neg (Nat.ne_of_beq_eq_false e)]
      exact ⟨.exit j, G', β', σ', rfl, hq, hc'⟩

theorem tri_cond {x y : Code} {t : Nat} {b : Bool} (hb : σ.env t = .s (.bool b)) (h1 : b = true → Tri c x σ Q) (h2 : b = false → Tri c y σ Q) : Tri c (.cond (.tmp t) x y) σ Q := fun G β a w hc => by
  have h := hc.env t
  rw [hb] at h
  simp only [AVal, Rep] at h
  exact wp_cond_split (t := b) h (fun e => h1 e G β a w hc) (fun e => h2 e G β a w hc)

/-- What is known of a state, in other words. -/
def Le (c : Cx) (σ σ' : St) : Prop := ∀ G β a w, Conc c G β σ a w → ∃ G' β', Conc c G' β' σ' a w

theorem Le.refl (c : Cx) (σ : St) : Le c σ σ := fun G β _ _ h => ⟨G, β, h⟩
theorem Le.trans {σ σ' σ'' : St} (h : Le c σ σ') (k : Le c σ' σ'') : Le c σ σ'' := fun G β a w hc =>
  let ⟨G', β', h'⟩ := h G β a w hc
  k G' β' a w h'

theorem tri_le {x : Code} {σ' : St} (hl : Le c σ σ') (h : Tri c x σ' Q) : Tri c x σ Q := fun G β a w hc =>
  let ⟨G', β', h'⟩ := hl G β a w hc
  h G' β' a w h'

theorem tri_mono {x : Code} {Q' : End → St → Prop} (h : Tri c x σ Q) (hq : ∀ e σ', Q e σ' → Q' e σ') : Tri c x σ Q' := fun G β a w hc =>
  wp_mono (h G β a w hc) fun e a' w' ⟨e', G', β', σ', h1, h2, h3⟩ => ⟨e', G', β', σ', h1, hq _ _ h2, h3⟩

theorem tri_loop {x : Code} {X : Type} (E : X → St) (m : X → Nat) (x0 : X) (h0 : Le c σ (E x0))
    (h : ∀ y, Tri c x (E y) (fun e σ' => match e with | .normal => ∃ z, Le c σ' (E z) ∧ m z < m y | e => Q e σ')) : Tri c (.loop x) σ Q := fun G β a w hc => by
  obtain ⟨G1, β1, hc1⟩ := h0 G β a w hc
  intro b k cs
  have key : ∀ n y G β a w, m y = n → Conc c G β (E y) a w →
      ∃ e a' w', (∃ e' G' β' σ', e = toExit e' ∧ Q e' σ' ∧ Conc c G' β' σ' a' w') ∧ Arrives c.P (lone (b.at a (.code x :: .inLoop x :: k)) cs w) b k cs e a' w' := by
    intro n
    induction n using Nat.strongRecOn with
    | _ n ih =>
      intro y G β a w hn hc
      obtain ⟨e, a', w', ⟨e', G', β', σ', rfl, hq, hc'⟩, harr⟩ := h y G β a w hc b (.inLoop x :: k) cs
      cases e' with
      | normal =>
        obtain ⟨z, hle, hlt⟩ := hq
        obtain ⟨G2, β2, hc2⟩ := hle G' β' a' w' hc'
        obtain ⟨e2, a2, w2, hq2, harr2⟩ := ih (m z) (by omega) z G2 β2 a' w' rfl hc2
        exact ⟨e2, a2, w2, hq2, .of_steps (Steps.trans harr (.one step_inLoop)) harr2⟩
      | exit id => exact ⟨.exit id, a', w', ⟨.exit id, G', β', σ', rfl, hq, hc'⟩, .pass (x := .inLoop x) rfl (fun _ _ => .inl (by simp [toExit])) harr⟩
      | ret => exact ⟨.ret, a', w', ⟨.ret, G', β', σ', rfl, hq, hc'⟩, .pass (x := .inLoop x) rfl (fun _ _ => .inl (by simp [toExit])) harr⟩
  obtain ⟨e, a', w', hq, harr⟩ := key _ x0 G1 β1 a w rfl hc1
  exact ⟨e, a', w', hq, .of_steps (.one step_loop) harr⟩

/-- The same with a relation that holds at every round's head. -/
theorem tri_loopI {x : Code} {X : Type} (E : X → St) (I : X → Prop) (m : X → Nat) (x0 : X) (i0 : I x0) (h0 : Le c σ (E x0))
    (h : ∀ y, I y → Tri c x (E y) (fun e σ' => match e with | .normal => ∃ z, I z ∧ Le c σ' (E z) ∧ m z < m y | e => Q e σ')) : Tri c (.loop x) σ Q :=
  tri_loop (X := { y : X // I y }) (fun y => E y.1) (fun y => m y.1) ⟨x0, i0⟩ h0 fun y => tri_mono (h y.1 y.2) fun e σ' hq => by
    cases e with
    | normal => obtain ⟨z, h1, h2, h3⟩ := hq; exact ⟨⟨z, h1⟩, h2, h3⟩
    | exit id => exact hq
    | ret => exact hq

def ofL (l : List (Nat × AV)) : Nat → AV :=
  match l with
  | [] => fun _ => .junk
  | (t, x) :: r => fun s => bif Nat.beq s t then x else ofL r s
def ofH (l : List (Nat × Ob)) : Nat → Option Ob :=
  match l with
  | [] => fun _ => none
  | (t, x) :: r => fun s => bif Nat.beq s t then some x else ofH r s

/-- The listed temporaries hold the listed values. -/
def holds (env : Nat → AV) : List (Nat × AV) → Prop
  | [] => True
  | (t, x) :: r => env t = x ∧ holds env r

theorem holds_ofL {P : AV → Prop} (hj : P .junk) : ∀ {l : List (Nat × AV)} {env : Nat → AV}, holds env l → (∀ t, P (env t)) → ∀ t, ofL l t = .junk ∨ ofL l t = env t
  | [], env, _, _, t => .inl rfl
  | (s, x) :: r, env, h, hp, t => by
    simp only [ofL]
    cases e : Nat.beq t s with
    | true => obtain rfl := Nat.eq_of_beq_eq_true e; exact .inr h.1.symm
    | false => exact holds_ofL hj h.2 hp t

/-- Only what is listed is still known of the temporaries. -/
theorem Le.forget (l : List (Nat × AV)) (h : holds σ.env l) : Le c σ { σ with env := ofL l } := fun G β a w hc => by
  have he := holds_ofL (P := fun _ => True) trivial h (fun _ => trivial)
  refine ⟨G, β, { hc with env := fun t => ?_, envlt := fun t => ?_ }⟩
  · rcases he t with e | e <;> (dsimp only; rw [e])
    · simp only [AVal]
    · exact hc.env t
  · rcases he t with e | e <;> (dsimp only; rw [e])
    · rfl
    · exact hc.envlt t

/-- Each target object is the image of an object; the pairs (old, new) name all of them, in the same order. -/
def kept (hp : Nat → Option Ob) (ρ : List (Nat × Nat)) : List (Nat × Nat) → List (Nat × Ob) → Prop
  | [], [] => True
  | (k, j) :: r, (j', o) :: l => j = j' ∧ (∃ o0, hp k = some o0 ∧ o0.ren ρ = o) ∧ kept hp ρ r l
  | _, _ => False

theorem distinct_fst {l : List (Nat × Nat)} : distinct (l.map (·.1)) = true → ∀ {k j j'}, (k, j) ∈ l → (k, j') ∈ l → j = j' := by
  induction l with
  | nil => intro _ k j j' h; cases h
  | cons p r ih =>
    intro h k j j' h1 h2
    simp only [List.map_cons, distinct, Bool.and_eq_true] at h
    have hn := noneIn_spec h.1
    rcases List.mem_cons.1 h1 with h1 | h1 <;> rcases List.mem_cons.1 h2 with h2 | h2
    · rw [← h1] at h2; cases h2; rfl
    · exact absurd (List.mem_map.2 ⟨_, h2, by rw [← h1]⟩) hn
    · exact absurd (List.mem_map.2 ⟨_, h1, by rw [← h2]⟩) hn
    · exact ih h.2 h1 h2
theorem distinct_snd {l : List (Nat × Nat)} : distinct (l.map (·.2)) = true → ∀ {k k' j}, (k, j) ∈ l → (k', j) ∈ l → k = k' := by
  induction l with
  | nil => intro _ k k' j h; cases h
  | cons p r ih =>
    intro h k k' j h1 h2
    simp only [List.map_cons, distinct, Bool.and_eq_true] at h
    have hn := noneIn_spec h.1
    rcases List.mem_cons.1 h1 with h1 | h1 <;> rcases List.mem_cons.1 h2 with h2 | h2
    · rw [← h1] at h2; cases h2; rfl
    · exact absurd (List.mem_map.2 ⟨_, h2, by rw [← h1]⟩) hn
    · exact absurd (List.mem_map.2 ⟨_, h1, by rw [← h2]⟩) hn
    · exact ih h.2 h1 h2
def lookR (j : Nat) : List (Nat × Nat) → Option Nat
  | [] => none
  | (a, b) :: r => bif Nat.beq j b then some a else lookR j r
theorem lookR_mem {k j : Nat} : ∀ {l : List (Nat × Nat)}, lookR j l = some k → (k, j) ∈ l
  | [], h => by simp [lookR] at h
  | (a, b) :: r, h => by
    simp only [lookR] at h
    cases e : Nat.beq j b with
    | true => rw [e, cond_true] at h; cases h; obtain rfl := Nat.eq_of_beq_eq_true e; simp
    | false => rw [e, cond_false] at h; simp [lookR_mem h]
theorem lookR_of_mem {k j : Nat} : ∀ {l : List (Nat × Nat)}, (k, j) ∈ l → ∃ k', lookR j l = some k'
  | [], h => by cases h
  | (a, b) :: r, h => by
    simp only [lookR]
    cases e : Nat.beq j b with
    | true => exact ⟨a, by simp⟩
    | false =>
      rw [cond_false]
      rcases List.mem_cons.1 h with h | h
      · cases h; exact absurd rfl (Nat.ne_of_beq_eq_false e)
      · exact lookR_of_mem h

def rens (env : Nat → AV) (ρ : List (Nat × Nat)) : List (Nat × AV) → Prop
  | [] => True
  | (t, x) :: r => (env t).ren ρ = x ∧ rens env ρ r

theorem kept_get {hp : Nat → Option Ob} {ρ : List (Nat × Nat)} : ∀ {r : List (Nat × Nat)} {l : List (Nat × Ob)}, kept hp ρ r l → ∀ {j o}, ofH l j = some o → ∃ k o0, (k, j) ∈ r ∧ hp k = some o0 ∧ o0.ren ρ = o
  | [], [], _, j, o, h => by simp [ofH] at h
  | [], _ :: _, hk, _, _, _ => hk.elim
  | _ :: _, [], hk, _, _, _ => hk.elim
  | (k, j1) :: r, (j2, o2) :: l, hk, j, o, h => by
    simp only [kept] at hk
    obtain ⟨rfl, ⟨o0, h1, h2⟩, h4⟩ := hk
    simp only [ofH] at h
    cases e : Nat.beq j j1 with
    | true =>
      rw [e, cond_true] at h; cases h
      obtain rfl := Nat.eq_of_beq_eq_true e
      exact ⟨k, o0, by simp, h1, h2⟩
    | false =>
      rw [e, cond_false] at h
      obtain ⟨k', o', h5, h6⟩ := kept_get h4 h
      exact ⟨k', o', by simp [h5], h6⟩

def ltL (n : Nat) : List (Nat × AV) → Bool
  | [] => true
  | (_, x) :: r => x.lt n && ltL n r
def ltH (n : Nat) : List (Nat × Ob) → Bool
  | [] => true
  | (k, o) :: r => Nat.blt k n && o.lt n && ltH n r
theorem ltL_spec {n : Nat} : ∀ {l : List (Nat × AV)}, ltL n l = true → ∀ t, (ofL l t).lt n = true
  | [], _, t => rfl
  | (s, x) :: r, h, t => by
    simp only [ltL, Bool.and_eq_true] at h
    simp only [ofL]
    cases Nat.beq t s with
    | true => exact h.1
    | false => exact ltL_spec h.2 t
theorem ltH_spec {n : Nat} : ∀ {l : List (Nat × Ob)}, ltH n l = true → ∀ k o, ofH l k = some o → k < n ∧ o.lt n = true
  | [], _, k, o, h => by simp [ofH] at h
  | (s, x) :: r, h, k, o, hk => by
    simp only [ltH, Bool.and_eq_true] at h
    simp only [ofH] at hk
    cases e : Nat.beq k s with
    | true =>
      rw [e, cond_true] at hk; cases hk
      obtain rfl := Nat.eq_of_beq_eq_true e
      exact ⟨Nat.le_of_ble_eq_true h.1.1, h.1.2⟩
    | false => rw [e, cond_false] at hk; exact ltH_spec h.2 k o hk

/-- The keys that were handed in keep their names. -/
def stayOk (n0 n : Nat) : List (Nat × Nat) → Bool
  | [] => Nat.ble n0 n
  | (k, j) :: r => (Nat.ble n0 j || Nat.beq k j) && stayOk n0 n r
theorem stayOk_spec {n0 n : Nat} : ∀ {ρ : List (Nat × Nat)}, stayOk n0 n ρ = true → n0 ≤ n ∧ ∀ k j, (k, j) ∈ ρ → j < n0 → k = j
  | [], h => ⟨Nat.le_of_ble_eq_true h, fun k j h => by cases h⟩
  | (a, b) :: r, h => by
    simp only [stayOk, Bool.and_eq_true, Bool.or_eq_true] at h
    obtain ⟨h1, h2⟩ := stayOk_spec h.2
    refine ⟨h1, fun k j hm hj => ?_⟩
    rcases List.mem_cons.1 hm with hm | hm
    · cases hm
      rcases h.1 with h3 | h3
      · have := Nat.le_of_ble_eq_true h3; omega
      · exact Nat.eq_of_beq_eq_true h3
    · exact h2 k j hm hj

def backB (β : Nat → Value) (ρ : List (Nat × Nat)) (j : Nat) : Value := match lookR j ρ with | some k => β k | none => β j

/-- Keys get new names, the rest is forgotten. -/
theorem Le.rename (ρ : List (Nat × Nat)) (l : List (Nat × AV)) (hl : List (Nat × Ob)) (n : Nat) (h1 : rens σ.env ρ l) (h2 : kept σ.hp ρ ρ hl) (h3 : distinct (ρ.map (·.1)) = true) (h4 : distinct (ρ.map (·.2)) = true)
    (h5 : ltL n l = true) (h6 : ltH n hl = true) (h7 : stayOk c.n0 n ρ = true) : Le c σ { env := ofL l, hp := ofH hl, nx := n } := fun G β a w hc => by
  have hb : ∀ k j, look k ρ = some j → (backB β ρ) j = β k := fun k j hkj => by
    have hm := look_mem hkj
    obtain ⟨k', hk'⟩ := lookR_of_mem hm
    have := distinct_snd h4 hm (lookR_mem hk')
    subst this
    simp only [backB, hk']
  have henv : ∀ {l : List (Nat × AV)}, rens σ.env ρ l → ∀ t, AVal G w (backB β ρ) (ofL l t) (a.tmps.getD t undef) := fun {l} => by
    induction l with
    | nil => intro _ t; simp only [ofL, AVal]
    | cons p r ih =>
      obtain ⟨s, x⟩ := p
      intro h t
      simp only [ofL]
      cases e : Nat.beq t s with
      | true => obtain rfl := Nat.eq_of_beq_eq_true e; rw [cond_true, ← h.1]; exact (hc.env t).ren hb
      | false => exact ih h.2 t
  have hat : ∀ {v : Value} {o o' : Ob}, o.ren ρ = o' → ObAt c G w β v o → ObAt c G w (backB β ρ) v o' := fun {v o o'} ho h => by
    subst ho
    cases o with
    | box xs =>
      obtain ⟨b, e, cur, q1, q2, q3, q4, q5, q6⟩ := h
      exact ⟨b, e, cur, q1, q2, q3, q4, q5.ren hb, q6⟩
    | row e sz rows => exact h
    | arow e sz rows => exact ObAt.ren hb (fun _ _ h => h) h
  have hβ : ∀ {k j}, (k, j) ∈ ρ → (backB β ρ) j = β k := fun {k j} hm => by
    obtain ⟨k', hk'⟩ := lookR_of_mem hm
    have := distinct_snd h4 hm (lookR_mem hk')
    subst this
    simp only [backB, hk']
  refine ⟨G, backB β ρ, { defers := hc.defers, size := hc.size, env := henv h1, envlt := ltL_spec h5, hp := fun j o hj => ?_, hplt := ltH_spec h6, inj := ?_, lt := hc.lt, sub := hc.sub, new := hc.new, fr := hc.fr, stay := ⟨(stayOk_spec h7).1, fun j hj => ?_⟩, glob := hc.glob }⟩
  · obtain ⟨k, o0, hm, hk, ho⟩ := kept_get h2 hj
    rw [hβ hm]
    exact hat ho (hc.hp k o0 hk)
  · intro j j' o o' hj hj' hne b hb1 hb2
    obtain ⟨k, o0, hm, hk, _⟩ := kept_get h2 hj
    obtain ⟨k', o0', hm', hk', _⟩ := kept_get h2 hj'
    rw [hβ hm] at hb1
    rw [hβ hm'] at hb2
    exact hc.inj k k' o0 o0' hk hk' (fun e => hne (by subst e; exact distinct_fst h3 hm hm')) b hb1 hb2
  · unfold backB
    cases hl : lookR j ρ with
    | none => exact hc.stay.2 j hj
    | some k =>
      obtain rfl := (stayOk_spec h7).2 k j (lookR_mem hl) hj
      exact hc.stay.2 k hj

mutual
/-- The own object k is given up: what led to it is read as persistent data. -/
def AV.frz (k : Nat) (r : AV) (p : Nat → AV) : AV → AV
  | .op j o => match Nat.beq j k with | true => p o | false => .op j o
  | .orow j => match Nat.beq j k with | true => r | false => .orow j
  | .rp j sz i o => match Nat.beq j k with | true => .junk | false => .rp j sz i o
  | .agg xs => .agg (AV.frzAll k r p xs)
  | .tup xs => .tup (AV.frzAll k r p xs)
  | .clo f xs => .clo f (AV.frzAll k r p xs)
  | x => x
def AV.frzAll (k : Nat) (r : AV) (p : Nat → AV) : List AV → List AV
  | [] => []
  | x :: xs => AV.frz k r p x :: AV.frzAll k r p xs
end

mutual
theorem AVal.frz {G G' : Nat → Prop} {w : World} {β : Nat → Value} {k : Nat} {r : AV} {p : Nat → AV} (hG : ∀ b, G b → G' b) (hr : (∃ o n cp, β k = .slice o n cp) → AVal G' w β r (β k)) (hp : ∀ b o, β k = .pointer (some ⟨b, 0, none⟩) → AVal G' w β (p o) (.pointer (some ⟨b, o, none⟩))) :
    ∀ {x : AV} {v : Value}, AVal G w β x v → AVal G' w β (AV.frz k r p x) v
  | .s x, v, h => by simp only [AVal, AV.frz] at h ⊢; exact h.keep ⟨hG, fun _ _ => rfl⟩
  | .nl _, v, h => by simp only [AVal, AV.frz] at h ⊢; exact h
  | .agg xs, v, h => by
    simp only [AVal, AV.frz] at h ⊢
    obtain ⟨vs, h1, h2⟩ := h
    exact ⟨vs, h1, AVals.frz hG hr hp h2⟩
  | .tup xs, v, h => by
    simp only [AVal, AV.frz] at h ⊢
    obtain ⟨vs, h1, h2⟩ := h
    exact ⟨vs, h1, AVals.frz hG hr hp h2⟩
  | .clo f xs, v, h => by
    simp only [AVal, AV.frz] at h ⊢
    obtain ⟨vs, h1, h2⟩ := h
    exact ⟨vs, h1, AVals.frz hG hr hp h2⟩
  | .op j o, v, h => by
    simp only [AV.frz]
    split
    · rename_i e; obtain rfl := Nat.eq_of_beq_eq_true e
      simp only [AVal] at h
      obtain ⟨b, h1, rfl⟩ := h
      exact hp b o h1
    · simp only [AVal] at h ⊢; exact h
  | .orow j, v, h => by
    simp only [AV.frz]
    split
    · rename_i e; obtain rfl := Nat.eq_of_beq_eq_true e
      simp only [AVal] at h
      obtain ⟨rfl, h1⟩ := h
      exact hr h1
    · simp only [AVal] at h ⊢; exact h
  | .rp j sz i o, v, h => by
    simp only [AV.frz]
    split
    · simp only [AVal]
    · simp only [AVal] at h ⊢; exact h
  | .junk, _, _ => by simp only [AV.frz, AVal]
theorem AVals.frz {G G' : Nat → Prop} {w : World} {β : Nat → Value} {k : Nat} {r : AV} {p : Nat → AV} (hG : ∀ b, G b → G' b) (hr : (∃ o n cp, β k = .slice o n cp) → AVal G' w β r (β k)) (hp : ∀ b o, β k = .pointer (some ⟨b, 0, none⟩) → AVal G' w β (p o) (.pointer (some ⟨b, o, none⟩))) :
    ∀ {xs : List AV} {vs : List Value}, AVals G w β xs vs → AVals G' w β (AV.frzAll k r p xs) vs
  | [], _, h => by simp only [AVals, AV.frzAll] at h ⊢; exact h
  | x :: xs, vs, h => by
    simp only [AVals, AV.frzAll] at h ⊢
    obtain ⟨v, vs', h1, h2, h3⟩ := h
    exact ⟨v, vs', h1, AVal.frz hG hr hp h2, AVals.frz hG hr hp h3⟩
end

mutual
theorem AV.frz_lt {n k : Nat} {r : AV} {p : Nat → AV} (hr : r.lt n = true) (hp : ∀ o, (p o).lt n = true) : ∀ {x : AV}, x.lt n = true → (AV.frz k r p x).lt n = true
  | .s _, h => rfl
  | .nl _, h => rfl
  | .junk, h => rfl
  | .agg xs, h => by simp only [AV.frz, AV.lt] at *; exact AV.frzAll_lt hr hp h
  | .tup xs, h => by simp only [AV.frz, AV.lt] at *; exact AV.frzAll_lt hr hp h
  | .clo _ xs, h => by simp only [AV.frz, AV.lt] at *; exact AV.frzAll_lt hr hp h
  | .op j o, h => by simp only [AV.frz]; split <;> first | exact hp o | exact h
  | .orow j, h => by simp only [AV.frz]; split <;> first | exact hr | exact h
  | .rp j sz i o, h => by simp only [AV.frz]; split <;> first | rfl | exact h
theorem AV.frzAll_lt {n k : Nat} {r : AV} {p : Nat → AV} (hr : r.lt n = true) (hp : ∀ o, (p o).lt n = true) : ∀ {xs : List AV}, AV.ltAll n xs = true → AV.ltAll n (AV.frzAll k r p xs) = true
  | [], _ => rfl
  | x :: xs, h => by
    simp only [AV.frzAll, AV.ltAll, Bool.and_eq_true] at *
    exact ⟨AV.frz_lt hr hp h.1, AV.frzAll_lt hr hp h.2⟩
end

def Ob.frz (k : Nat) (r : AV) (p : Nat → AV) : Ob → Ob
  | .box t xs => .box t (AV.frzAll k r p xs)
  | .arow e sz rows => .arow e sz (rows.map (AV.frzAll k r p))
  | o => o

theorem frzAll_eq {k : Nat} {r : AV} {p : Nat → AV} : ∀ (l : List AV), AV.frzAll k r p l = l.map (AV.frz k r p)
  | [] => rfl
  | x :: l => by simp [AV.frzAll, frzAll_eq l]
theorem frzAll_flatten {k : Nat} {r : AV} {p : Nat → AV} : ∀ (rows : List (List AV)), (rows.map (AV.frzAll k r p)).flatten = rows.flatten.map (AV.frz k r p)
  | [] => rfl
  | x :: rows => by simp [frzAll_eq, frzAll_flatten rows, List.map_append]

def giveSt (σ : St) (k : Nat) (r : AV) (p : Nat → AV) : St :=
  { env := fun t => AV.frz k r p (σ.env t), hp := fun j => bif Nat.beq j k then none else (σ.hp j).map (Ob.frz k r p), nx := σ.nx }

theorem Conc.given {G G' : Nat → Prop} {β : Nat → Value} {a : Act} {w : World} (hc : Conc c G β σ a w) {k : Nat} {ob : Ob} (hk : σ.hp k = some ob) {r : AV} {p : Nat → AV} (hsub : ∀ b, G b → G' b)
    (hnew : ∀ b, G' b → G b ∨ blk (β k) = some b)
    (hr : (∃ o n cp, β k = .slice o n cp) → AVal G' w β r (β k)) (hp : ∀ b o, β k = .pointer (some ⟨b, 0, none⟩) → AVal G' w β (p o) (.pointer (some ⟨b, o, none⟩)))
    (hrl : r.lt σ.nx = true) (hpl : ∀ o, (p o).lt σ.nx = true) : Conc c G' β (giveSt σ k r p) a w := by
  have hkeep : Keep G G' w w := ⟨hsub, fun _ _ => rfl⟩
  have hget : ∀ {j o'}, (giveSt σ k r p).hp j = some o' → j ≠ k ∧ ∃ o, σ.hp j = some o ∧ o' = Ob.frz k r p o := fun {j o'} h => by
    simp only [giveSt] at h
    cases e : Nat.beq j k with
    | true => rw [e, cond_true] at h; cases h
    | false =>
      rw [e, cond_false] at h
      obtain ⟨o, h1, h2⟩ := Option.map_eq_some_iff.1 h
      exact ⟨Nat.ne_of_beq_eq_false e, o, h1, h2.symm⟩
  have hmk := row_block (hc.hp k ob hk)
  refine { defers := hc.defers, size := hc.size, env := fun t => (hc.env t).frz hsub hr hp, envlt := fun t => AV.frz_lt hrl hpl (hc.envlt t), hp := fun j o' hj => ?_, hplt := fun j o' hj => ?_, inj := ?_, lt := fun b hb => ?_, sub := fun b hb => hsub b (hc.sub b hb), new := fun b hb => ?_, fr := hc.fr, stay := hc.stay, glob := hc.glob.keep hkeep }
  · obtain ⟨hne, o, h1, rfl⟩ := hget hj
    have ho := hc.hp j o h1
    have hng : ∀ b, blk (β j) = some b → ¬ G' b := fun b hb hg' => by
      rcases hnew b hg' with h | h
      · exact (row_block ho b hb).1 h
      · exact hc.inj j k o ob h1 hk hne b hb h
    cases o with
    | box xs =>
      obtain ⟨b, e, cur, q1, q2, q3, q4, q5, q6⟩ := ho
      exact ⟨b, e, cur, q1, q2, hng b (by rw [q1]; rfl), q4, AVals.frz hsub hr hp q5, q6⟩
    | row e sz rows =>
      obtain ⟨q1, q2, q3⟩ := ho
      refine ⟨q1, q2, q3.imp id ?_⟩
      rintro ⟨b, cap, cur, g1, g2, g3, g4, g5, g6, g7⟩
      exact ⟨b, cap, cur, g1, g2, g3, g4, hng b (by rw [g1]; rfl), g6, fun i s hi => let ⟨u, hu, hr'⟩ := g7 i s hi; ⟨u, hu, hr'.keep hkeep⟩⟩
    | arow e sz rows =>
      obtain ⟨q1, q2, q3⟩ := ho
      refine ⟨fun x hx => by obtain ⟨y, hy, rfl⟩ := List.mem_map.1 hx; rw [frzAll_eq, List.length_map]; exact q1 y hy, q2, q3.imp (fun h => ⟨h.1, by rw [h.2]; rfl⟩) ?_⟩
      rintro ⟨b, cap, cur, g1, g2, g3, g4, g5, g6, g7⟩
      refine ⟨b, cap, cur, by rw [List.length_map]; exact g1, by rw [List.length_map]; exact g2, g3, g4, hng b (by rw [g1]; rfl), g6, fun i x hi => ?_⟩
      rw [frzAll_flatten, List.getElem?_map] at hi
      obtain ⟨y, hy, rfl⟩ := Option.map_eq_some_iff.1 hi
      obtain ⟨u, hu, hr', h1⟩ := g7 i y hy
      exact ⟨u, hu, AVal.frz hsub hr hp hr', h1⟩
  · obtain ⟨hne, o, h1, rfl⟩ := hget hj
    obtain ⟨h2, h3⟩ := hc.hplt j o h1
    refine ⟨h2, ?_⟩
    cases o with
    | box xs => simp only [Ob.lt, Ob.frz] at *; exact AV.frzAll_lt hrl hpl h3
    | row => rfl
    | arow e sz rows =>
      simp only [Ob.lt, Ob.frz] at *
      refine ltAll_mk fun q y hq => ?_
      rw [frzAll_flatten, List.getElem?_map] at hq
      obtain ⟨z, hz, rfl⟩ := Option.map_eq_some_iff.1 hq
      exact AV.frz_lt hrl hpl (ltAll_get h3 hz)
  · intro j j' o o' hj hj' hne b hb hb'
    obtain ⟨_, o1, h1, _⟩ := hget hj
    obtain ⟨_, o2, h2, _⟩ := hget hj'
    exact hc.inj j j' o1 o2 h1 h2 hne b hb hb'
  · rcases hnew b hb with h | h
    · exact hc.lt b h
    · exact hc.blk_lt hk h
  · rcases hnew b hb with h | h
    · exact hc.new b h
    · exact .inr (hmk b h).2

/-- THE OWN ROW k IS GIVEN UP. -/
theorem Le.giveRow (k : Nat) {e sz : Nat} {rows : List (List S)} (hk : σ.hp k = some (.row e sz rows)) : Le c σ (giveSt σ k (.s (.sl sz rows)) (fun _ => .junk)) := fun G β a w hc => by
  obtain ⟨hlen, hsz, ho⟩ := hc.hp k _ hk
  rcases ho with ⟨h1, rfl⟩ | ⟨b, cap, cur, h1, h2, h3, h4, h5, h6, h7⟩
  · refine ⟨G, β, hc.given hk (fun _ h => h) (fun _ h => .inl h) (fun _ => ?_) (fun b o h => by rw [h1] at h; cases h) rfl (fun _ => rfl)⟩
    rw [h1]; simp [AVal, Rep]
  · refine ⟨fun i => G i ∨ i = b, β, hc.given hk (fun _ h => .inl h) (fun i h => h.imp id (fun e => by rw [h1, e]; rfl)) (fun _ => ?_) (fun b o h => by rw [h1] at h; cases h) rfl (fun _ => rfl)⟩
    rw [h1]
    simp only [AVal, Rep]
    refine .inr ⟨b, 0, cap, rfl, h2, flatten_rows hlen (RepRow.mk fun i s hi => ⟨.inr rfl, ?_⟩)⟩
    obtain ⟨u, hu, hr⟩ := h7 i s hi
    exact ⟨u, by simp [World.cell?, h4, hu], hr.keep ⟨fun _ h => .inl h, fun _ _ => rfl⟩⟩

/-- Cells that are all persistent. -/
def scRows : List (List AV) → Option (List (List S))
  | [] => some []
  | r :: rs => match scAll r, scRows rs with | some y, some ys => some (y :: ys) | _, _ => none
theorem scAll_map : ∀ {xs : List AV} {ss : List S}, scAll xs = some ss → xs.map AV.sc = ss.map some
  | [], ss, h => by simp only [scAll, Option.some.injEq] at h; subst h; rfl
  | x :: xs, ss, h => by
    simp only [scAll] at h
    split at h
    · rename_i y ys h1 h2
      cases h
      simp [h1, scAll_map h2]
    · cases h
theorem scRows_map : ∀ {rows : List (List AV)} {rs : List (List S)}, scRows rows = some rs → rows.flatten.map AV.sc = rs.flatten.map some ∧ rows.length = rs.length ∧ ∀ sz, (∀ r ∈ rows, r.length = sz) → ∀ r ∈ rs, r.length = sz
  | [], rs, h => by simp only [scRows, Option.some.injEq] at h; subst h; exact ⟨rfl, rfl, fun _ _ _ h => by cases h⟩
  | r :: rows, rs, h => by
    simp only [scRows] at h
    split at h
    · rename_i y ys h1 h2
      cases h
      obtain ⟨a1, a2, a3⟩ := scRows_map h2
      have a0 := scAll_map h1
      have al : r.length = y.length := by simpa using congrArg List.length a0
      refine ⟨by simp [a0, a1], by simp [a2], fun sz hl r' hr' => ?_⟩
      rcases List.mem_cons.1 hr' with rfl | hr'
      · rw [← al]; exact hl r (by simp)
      · exact a3 sz (fun q hq => hl q (by simp [hq])) r' hr'
    · cases h
/-- THE OWN ROW k OF ANY CELLS IS GIVEN UP. -/
theorem Le.giveArow (k : Nat) {e sz : Nat} {rows : List (List AV)} (rs : List (List S)) (hk : σ.hp k = some (.arow e sz rows)) (hs : scRows rows = some rs) : Le c σ (giveSt σ k (.s (.sl sz rs)) (fun _ => .junk)) := fun G β a w hc => by
  obtain ⟨hlen, hsz, ho⟩ := hc.hp k _ hk
  obtain ⟨s1, s2, s3⟩ := scRows_map hs
  rcases ho with ⟨h1, rfl⟩ | ⟨b, cap, cur, h1, h2, h3, h4, h5, h6, h7⟩
  · refine ⟨G, β, hc.given hk (fun _ h => h) (fun _ h => .inl h) (fun _ => ?_) (fun b o h => by rw [h1] at h; cases h) rfl (fun _ => rfl)⟩
    obtain rfl : rs = [] := List.length_eq_zero_iff.1 (by simpa using s2.symm)
    rw [h1]; simp [AVal, Rep]
  · refine ⟨fun i => G i ∨ i = b, β, hc.given hk (fun _ h => .inl h) (fun i h => h.imp id (fun e => by rw [h1, e]; rfl)) (fun _ => ?_) (fun b o h => by rw [h1] at h; cases h) rfl (fun _ => rfl)⟩
    rw [h1]
    simp only [AVal, Rep]
    refine .inr ⟨b, 0, cap, by rw [s2], by rw [← s2]; exact h2, flatten_rows (s3 sz hlen) (RepRow.mk fun i s hi => ⟨.inr rfl, ?_⟩)⟩
    have hm : (rows.flatten.map AV.sc)[i]? = some (some s) := by rw [s1, List.getElem?_map, hi]; rfl
    rw [List.getElem?_map] at hm
    obtain ⟨x, hx, hxs⟩ := Option.map_eq_some_iff.1 hm
    obtain ⟨u, hu, hr, _⟩ := h7 i x hx
    exact ⟨u, by simp [World.cell?, h4, hu], (AV.sc_rep hxs hr).keep ⟨fun _ h => .inl h, fun _ _ => rfl⟩⟩
/-- An own row of persistent cells, as one of any cells. -/
theorem Le.toA (k : Nat) {e sz : Nat} {rows : List (List S)} (hk : σ.hp k = some (.row e sz rows)) : Le c σ (updOb σ k (.arow e sz (rows.map (·.map AV.s)))) := fun G β a w hc => by
  have hf : (rows.map (·.map AV.s)).flatten = rows.flatten.map AV.s := by simp [List.map_flatten]
  have hget : ∀ {j o}, (updOb σ k (.arow e sz (rows.map (·.map AV.s)))).hp j = some o → (j = k ∧ o = .arow e sz (rows.map (·.map AV.s))) ∨ (j ≠ k ∧ σ.hp j = some o) := fun {j o} h => by
    simp only [updOb] at h
    cases hq : Nat.beq j k with
    | true => rw [hq, cond_true] at h; cases h; exact .inl ⟨Nat.eq_of_beq_eq_true hq, rfl⟩
    | false => rw [hq, cond_false] at h; exact .inr ⟨Nat.ne_of_beq_eq_false hq, h⟩
  have hget' : ∀ {j o}, (updOb σ k (.arow e sz (rows.map (·.map AV.s)))).hp j = some o → ∃ o', σ.hp j = some o' := fun {j o} h => by
    rcases hget h with ⟨rfl, _⟩ | ⟨_, h⟩
    · exact ⟨_, hk⟩
    · exact ⟨_, h⟩
  refine ⟨G, β, { hc with hp := fun j o hj => ?_, hplt := fun j o hj => ?_, inj := fun j j' o o' hj hj' => (let ⟨_, h1⟩ := hget' hj; let ⟨_, h2⟩ := hget' hj'; hc.inj j j' _ _ h1 h2) }⟩
  · rcases hget hj with ⟨rfl, rfl⟩ | ⟨_, h⟩
    · obtain ⟨hlen, hsz, ho⟩ := hc.hp j _ hk
      refine ⟨fun r hr => by obtain ⟨r', hr', rfl⟩ := List.mem_map.1 hr; simpa using hlen r' hr', hsz, ho.imp (fun h => ⟨h.1, by rw [h.2]; rfl⟩) ?_⟩
      rintro ⟨b, cap, cur, h1, h2, h3, h4, h5, h6, h7⟩
      refine ⟨b, cap, cur, by rw [List.length_map]; exact h1, by rw [List.length_map]; exact h2, h3, h4, h5, h6, fun i x hi => ?_⟩
      rw [hf, List.getElem?_map] at hi
      obtain ⟨s, hs, rfl⟩ := Option.map_eq_some_iff.1 hi
      obtain ⟨u, hu, hr⟩ := h7 i s hs
      exact ⟨u, hu, by simpa only [AVal] using hr, hr.one⟩
    · exact hc.hp j o h
  · rcases hget hj with ⟨rfl, rfl⟩ | ⟨_, h⟩
    · refine ⟨(hc.hplt j _ hk).1, ?_⟩
      simp only [Ob.lt]; rw [hf]; exact ltAll_s _
    · exact hc.hplt j o h

/-- THE OWN BOX k IS GIVEN UP. -/
theorem Le.giveBox (k : Nat) {bt : Nat} {cells : List AV} (ss : List S) (hk : σ.hp k = some (.box bt cells)) (hs : scAll cells = some ss) : Le c σ (giveSt σ k .junk (fun o => .s (.pt (ss.drop o)))) := fun G β a w hc => by
  obtain ⟨b, e, cur, h1, h2, h3, h4, h5, h6⟩ := hc.hp k _ hk
  have hreps := scAll_rep hs h5
  refine ⟨fun i => G i ∨ i = b, β, hc.given hk (fun _ h => .inl h) (fun i h => h.imp id (fun e => by rw [h1, e]; rfl)) (fun _ => by simp only [AVal]) (fun b' o h => ?_) rfl (fun _ => rfl)⟩
  rw [h1] at h; cases h
  simp only [AVal, Rep]
  have hrow : RepRow (fun i => G i ∨ i = b) w b ss 0 := RepRow.mk fun i s hi => ⟨.inr rfl, by
    obtain ⟨u, hu, hr⟩ := reps_get hreps hi
    rw [Array.getElem?_toList] at hu
    exact ⟨u, by simp [World.cell?, h2, hu], hr.keep ⟨fun _ h => .inl h, fun _ _ => rfl⟩⟩⟩
  exact ⟨b, o, rfl, by simpa using hrow.drop o⟩

/-- The very nil in a cell of the own box k becomes an own row, empty as yet. -/
theorem Le.takeNil (k off e : Nat) {bt : Nat} {cells : List AV} {sz : Nat} (hk : σ.hp k = some (.box bt cells)) (ho : cells[off]? = some (.nl sz)) (hs : 0 < sz) :
    Le c σ (addOb (updOb σ k (.box bt (cells.set off (.orow σ.nx)))) (.row e sz [])) := fun G β a w hc => by
  obtain ⟨b, e0, cur, h1, h2, h3, h4, h5, h6⟩ := hc.hp k _ hk
  have hkn := (hc.hplt k _ hk).1
  have hcl : AV.ltAll σ.nx cells = true := (hc.hplt k _ hk).2
  obtain ⟨β', b1, b2, b3⟩ := hc.make (ob := .row e sz []) (v := .slice none 0 0) ⟨fun r hr => (by cases hr), hs, .inl ⟨rfl, rfl⟩⟩ rfl (fun _ _ _ b hb => by cases hb)
  have hk' : (addOb σ (.row e sz [])).hp k = some (.box bt cells) := by
    show (bif Nat.beq k σ.nx then some (Ob.row e sz []) else σ.hp k) = _
    cases e1 : Nat.beq k σ.nx with
    | true => have := Nat.eq_of_beq_eq_true e1; omega
    | false => rw [cond_false]; exact hk
  have hset : AVals G w β' (cells.set off (.orow σ.nx)) cur.toList := by
    have h5' := h5.beta b1 hcl
    refine AVals.mk (by rw [List.length_set]; exact h5.length) fun i x v hx hv => ?_
    rw [List.getElem?_set] at hx
    split at hx
    · rename_i hio
      subst hio
      split at hx
      · cases hx
        obtain ⟨u, hu, hn⟩ := h5'.get ho
        rw [hu] at hv; cases hv
        simp only [AVal] at hn ⊢
        exact ⟨hn.trans b2.symm, _, _, _, hn⟩
      · cases hx
    · obtain ⟨u, hu, hn⟩ := h5'.get hx
      rw [hu] at hv; cases hv; exact hn
  have hlt2 : AV.ltAll (σ.nx + 1) (cells.set off (.orow σ.nx)) = true := ltAll_mk fun q y hq => by
    rw [List.getElem?_set] at hq
    split at hq
    · split at hq
      · cases hq; simp [AV.lt]
      · cases hq
    · exact AV.lt_mono (Nat.le_succ _) (ltAll_get hcl hq)
  have hβk : β' k = β k := b1 k hkn
  have := b3.write (j := k) (ob := .box bt cells) (ob' := .box bt (cells.set off (.orow σ.nx))) (w' := w) hk' (b := b) (by rw [hβk, h1]; rfl) h3 h4 rfl rfl rfl rfl (fun _ _ => rfl)
    (fun _ => by rw [hβk]; exact ⟨b, e0, cur, h1, h2, h3, h4, hset, h6⟩) hlt2
  refine ⟨G, β', ?_⟩
  have e2 : (addOb (updOb σ k (.box bt (cells.set off (.orow σ.nx)))) (.row e sz [])) = { addOb σ (.row e sz []) with hp := fun k' => bif Nat.beq k' k then some (.box bt (cells.set off (.orow σ.nx))) else (addOb σ (.row e sz [])).hp k' } := by
    simp only [addOb, updOb, St.mk.injEq, true_and, and_true]
    funext k'
    cases e3 : Nat.beq k' σ.nx with
    | true =>
      have h8 := Nat.eq_of_beq_eq_true e3
      cases e4 : Nat.beq k' k with
      | true => have := Nat.eq_of_beq_eq_true e4; omega
      | false => rfl
    | false => rfl
  rw [e2]; exact this

def resRun (tmps : Array Value) : ResultVar → Sem Value
  | .tmp t => pure (tmps.getD t undef)
  | .cell a t => do loadVar t (← asAddr (tmps.getD a undef))
theorem results_eq (fn : Func) (tmps : Array Value) : results fn tmps = (do let vs ← fn.results.mapM (resRun tmps); pure (if h : vs.size = 1 then vs[0] else .tuple vs)) := rfl

/-- One result. -/
def resAV (T : Nat → Option TI) (σ : St) : ResultVar → Option AV
  | .tmp t => some (σ.env t).deep
  | .cell t ty => match σ.env t with
    | .op k 0 => match σ.hp k, T ty with
      | some (.box _ cells), some i => match i.k.agg with
        | true => match Nat.ble i.size cells.length with | true => some (AV.deep (.agg (cells.take i.size))) | false => none
        | false => match cells with | x :: _ => some x.nrm | [] => none
      | _, _ => none
    | .s (.pt row) => loadS T ty row
    | _ => none

theorem resAV_rep {T : Nat → Option TI} (hT : TOk c.P T) {G : Nat → Prop} {β : Nat → Value} {a : Act} {w : World} (hc : Conc c G β σ a w) {rv : ResultVar} {x : AV} (h : resAV T σ rv = some x) :
    ∃ v, (resRun a.tmps rv).run c.P w = .ok v w ∧ AVal G w β x v := by
  cases rv with
  | tmp t => simp only [resAV, Option.some.injEq] at h; subst h; exact ⟨_, rfl, (hc.env t).deep⟩
  | cell t ty =>
    have he := hc.env t
    simp only [resAV] at h
    split at h
    · rename_i k e
      rw [e] at he
      simp only [AVal] at he
      obtain ⟨b, hβ, hv⟩ := he
      split at h
      · rename_i cells i hh hi
        obtain ⟨d, info, z, b1, b2, b3, b4, _⟩ := hT ty i hi
        obtain ⟨b', e', cur, o1, o2, o3, o4, o5, o6⟩ := hc.hp k _ hh
        rw [hβ] at o1; cases o1
        have hcell : ∀ q v, cur[q]? = some v → w.cell? ⟨b, q, none⟩ = some v := fun q v hq => by simp [World.cell?, o2, hq]
        split at h
        · rename_i hag
          split at h
          · rename_i hle
            cases h
            have hle := Nat.le_of_ble_eq_true hle
            have hl := o5.length
            simp only [Array.length_toList] at hl
            have hlc := run_loadCells_list (P := c.P) w ⟨b, 0, none⟩ (cur.toList.take i.size) fun q v hq => by
              rw [List.getElem?_take] at hq
              split at hq
              · rw [Array.getElem?_toList] at hq
                rw [addr_add, Nat.zero_add]; exact hcell _ _ hq
              · cases hq
            have hlen : (cur.toList.take i.size).length = i.size := by simp; omega
            rw [hlen] at hlc
            refine ⟨.agg (cur.toList.take i.size).toArray, ?_, AVal.deep (by simp only [AVal]; exact ⟨_, rfl, o5.take i.size⟩)⟩
            simp [resRun, hv, asAddr, loadVar, run_isAgg' w b1, b2, hag, run_sizeOf' w b3, b4, hlc]
          · cases h
        · rename_i hag
          split at h
          · rename_i z r hz
            cases h
            obtain ⟨u, hu, hr⟩ := o5.get (i := 0) rfl
            rw [Array.getElem?_toList] at hu
            exact ⟨u, by simp [resRun, hv, asAddr, loadVar, run_isAgg' w b1, b2, hag, hcell _ _ hu], hr.nrm⟩
          · cases h
      · cases h
    · rename_i row e
      rw [e] at he
      simp only [AVal, Rep] at he
      obtain ⟨b, off, hv, hr⟩ := he
      obtain ⟨z, h1, h2⟩ := run_loadAt (β := β) hT h (fun i s hi => (hr.get hi).2)
      exact ⟨z, by simpa [resRun, hv, asAddr, Instr.loadAt, Instr.sureAddr] using h1, h2⟩
    · cases h

def resAll (T : Nat → Option TI) (σ : St) : List ResultVar → Option (List AV)
  | [] => some []
  | r :: rs => match resAV T σ r, resAll T σ rs with | some x, some xs => some (x :: xs) | _, _ => none

theorem resAll_rep {T : Nat → Option TI} (hT : TOk c.P T) {G : Nat → Prop} {β : Nat → Value} {a : Act} {w : World} (hc : Conc c G β σ a w) : ∀ {rs : List ResultVar} {xs : List AV}, resAll T σ rs = some xs →
    ∃ vs, (rs.mapM (m := Sem) (resRun a.tmps)).run c.P w = .ok vs w ∧ AVals G w β xs vs
  | [], xs, h => by simp only [resAll, Option.some.injEq] at h; subst h; exact ⟨[], rfl, by simp only [AVals]⟩
  | r :: rs, xs, h => by
    simp only [resAll] at h
    split at h
    · rename_i x xs' h1 h2
      cases h
      obtain ⟨v, h3, h4⟩ := resAV_rep hT hc h1
      obtain ⟨vs, h5, h6⟩ := resAll_rep hT hc h2
      refine ⟨v :: vs, ?_, by simp only [AVals]; exact ⟨v, vs, rfl, h4, h6⟩⟩
      rw [List.mapM_cons]
      simp only [Sem.run_bind, Sem.run_pure]
      rw [h3]; simp only [Result.andThen_ok, h5]
    · cases h

/-- What the function hands back. -/
def resOf (T : Nat → Option TI) (σ : St) (rs : List ResultVar) : Option AV :=
  match resAll T σ rs with
  | some [x] => some x
  | some xs => some (.tup xs)
  | none => none

theorem resOf_rep {T : Nat → Option TI} (hT : TOk c.P T) {G : Nat → Prop} {β : Nat → Value} {a : Act} {w : World} (hc : Conc c G β σ a w) {fn : Func} {x : AV} (h : resOf T σ fn.results.toList = some x) :
    ∃ v, (results fn a.tmps).run c.P w = .ok v w ∧ AVal G w β x v := by
  unfold resOf at h
  have key : ∀ {xs}, resAll T σ fn.results.toList = some xs → ∃ vs : List Value, (fn.results.mapM (m := Sem) (resRun a.tmps)).run c.P w = .ok vs.toArray w ∧ AVals G w β xs vs := fun {xs} hx => by
    obtain ⟨vs, h1, h2⟩ := resAll_rep hT hc hx
    refine ⟨vs, ?_, h2⟩
    rw [Array.mapM_eq_mapM_toList]
    simp only [Sem.run_map, h1, Result.andThen_ok]
  split at h
  · rename_i y hy
    cases h
    obtain ⟨vs, h1, h2⟩ := key hy
    simp only [AVals] at h2
    obtain ⟨v, vs', rfl, h3, rfl⟩ := h2
    exact ⟨v, by rw [results_eq]; simp only [Sem.run_bind]; rw [h1]; rfl, h3⟩
  · rename_i xs hn hy
    cases h
    obtain ⟨vs, h1, h2⟩ := key hy
    refine ⟨.tuple vs.toArray, ?_, by simp only [AVal]; exact ⟨vs, rfl, h2⟩⟩
    rw [results_eq]
    simp only [Sem.run_bind]
    rw [h1]
    have hl := h2.length
    have : ¬ (vs.toArray.size = 1) := fun e => by
      have : xs.length = 1 := by rw [← hl]; simpa using e
      obtain ⟨y, rfl⟩ := List.length_eq_one_iff.1 this
      exact hn y rfl
    simp only [Result.andThen_ok, Sem.run_pure]
    rw [dif_neg this]
  · cases h

end

/-- The state in which a function begins. -/
def start (xs : List AV) : St := { env := fun t => xs.getD t .junk, hp := fun _ => none, nx := 0 }

/-- The result, given up so far that it leads to nothing of the frame's own. -/
def Gives (c : Cx) (T : Nat → Option TI) (rs : List ResultVar) (r : Ret) (σ : St) : Prop :=
  ∃ σ', Le c σ σ' ∧ match r with
    | .val x => resOf T σ' rs = some x ∧ x.pers = true
    | .row e sz rows => ∃ k, resOf T σ' rs = some (.orow k) ∧ σ'.hp k = some (.row e sz rows)

/-- What a function that only reads may write: nothing. -/
def readCx (P : Program) (w0 : World) (G0 : Nat → Prop) (N : Nat) : Cx := { P := P, w0 := w0, X := fun _ => False, G0 := G0, N := N }

theorem psound {P : Program} {T : Nat → Option TI} (hT : TOk P T) {f : Nat} {fn : Func} {code : Code} {s : PSpec} (hcall : ∀ args w, (callFunc f args).run P w = .ok (.enter f args) w)
    (hf : P.funcs[f]? = some fn) (hb : fn.body = some code) (hn : ∀ xs r, s.spec xs r → xs.length ≤ fn.ntmps)
    (N : Nat) (hN : fn.ntmps = N)
    (h : ∀ xs r w0 G0, s.spec xs r → AV.persAll xs = true → Tri (readCx P w0 G0 N) code (start xs) (fun e σ => match e with | .exit _ => False | _ => Gives (readCx P w0 G0 N) T fn.results.toList r σ)) (hown : s.own = none := by rfl) (hheap : s.heap = none := by rfl) : PSound P f s := by
  subst hN
  refine ⟨hcall, fun G w xs vs r hlt hgl hp hv hpre => ?_, fun R hR => (by rw [hown] at hR; cases hR), fun R hR => (by rw [hheap] at hR; cases hR)⟩
  let c : Cx := readCx P w G fn.ntmps
  have hlen := hv.length
  have hxn := hn xs r hpre
  have hc : Conc c G (fun _ => .tuple #[]) (start xs) { tmps := vs.toArray ++ Array.replicate (fn.ntmps - vs.toArray.size) undef, defers := [] } w := {
    defers := rfl
    size := by simp only [Array.size_append, List.size_toArray, Array.size_replicate]; show _ = fn.ntmps; omega
    env := fun t => by
      simp only [start]
      by_cases ht : t < xs.length
      · obtain ⟨v, h1, h2⟩ := hv.get (i := t) (x := xs[t]) (List.getElem?_eq_getElem ht)
        have e1 : xs.getD t .junk = xs[t] := by simp [List.getElem?_eq_getElem ht]
        have e2 : (vs.toArray ++ Array.replicate (fn.ntmps - vs.toArray.size) undef).getD t undef = v := by
          rw [Array.getD_eq_getD_getElem?, Array.getElem?_append_left (by simpa [hlen] using ht)]
          simp [h1]
        rw [e1, e2]; exact h2
      · have : xs.getD t .junk = .junk := by simp [List.getElem?_eq_none (by omega : xs.length ≤ t)]
        rw [this]; simp only [AVal]
    envlt := fun t => by
      simp only [start]
      by_cases ht : t < xs.length
      · have e1 : xs.getD t .junk = xs[t] := by simp [List.getElem?_eq_getElem ht]
        rw [e1]; exact ltAll_get (AV.persAll_lt hp) (List.getElem?_eq_getElem ht)
      · have : xs.getD t .junk = .junk := by simp [List.getElem?_eq_none (by omega : xs.length ≤ t)]
        rw [this]; rfl
    hp := fun k ob hk => by simp [start] at hk
    hplt := fun k ob hk => by simp [start] at hk
    inj := fun k k' ob ob' hk => by simp [start] at hk
    lt := hlt
    sub := fun b hb => hb
    new := fun b hb => .inl hb
    fr := Fr.refl _ _
    stay := ⟨Nat.le_refl _, fun k hk => by cases hk⟩
    glob := hgl }
  refine calls_of_wp hf hb ?_
  refine wp_mono (h xs r w G hpre hp G _ _ w hc) ?_
  rintro e a' w' ⟨e', G', β', σ', rfl, hq, hc'⟩
  have fin : Gives c T fn.results.toList r σ' → a'.defers = [] ∧ ∃ v, (results fn a'.tmps).run P w' = .ok v w' ∧ (∃ v₀ G'', Ending.returned v = .returned v₀ ∧ Ext G G'' w w' ∧ RetAt G'' w w' r v₀) := fun hq => by
    obtain ⟨σ2, hle, hr⟩ := hq
    obtain ⟨G2, β2, hc2⟩ := hle G' β' a' w' hc'
    have hext : Ext G G2 w w' := ⟨hc2.fr.os, hc2.fr.tape, hc2.fr.output, hc2.fr.size, fun b hb => hc2.fr.old b hb (fun h => h), hc2.sub, fun b hb => (hc2.new b hb).imp id (fun h => h.elim False.elim id), hc2.lt⟩
    refine ⟨hc2.defers, ?_⟩
    unfold RetAt
    split at hr
    · rename_i x
      obtain ⟨v, h1, h2⟩ := resOf_rep (c := c) hT hc2 hr.1
      refine ⟨v, h1, v, G2, rfl, hext, ?_⟩
      exact ⟨hr.2, AVal.pers hr.2 h2⟩
    · rename_i e sz rows
      obtain ⟨k, hk1, hk2⟩ := hr
      obtain ⟨v, h1, h2⟩ := resOf_rep (c := c) hT hc2 hk1
      refine ⟨v, h1, v, G2, rfl, hext, ?_⟩
      simp only [AVal] at h2
      obtain ⟨rfl, _⟩ := h2
      obtain ⟨q1, q2, q3⟩ := hc2.hp k _ hk2
      refine ⟨q1, q2, q3.imp id ?_⟩
      rintro ⟨b, cap, cur, g1, g2, g3, g4, g5, g6, g7⟩
      exact ⟨b, cap, cur, g1, g2, g3, g4, g5, g6.elim False.elim id, g7⟩
  cases e' with
  | normal => exact fin hq
  | ret => exact fin hq
  | exit id => exact hq.elim



/-- The state in which a function begins that is handed own objects. -/
def startO (xs : List AV) (os : List Ob) : St := { env := fun t => xs.getD t .junk, hp := fun k => os[k]?, nx := os.length }

def hasObs (hp : Nat → Option Ob) (n : Nat) : Nat → List (Option Ob) → Prop
  | _, [] => True
  | i, none :: r => hasObs hp n (i + 1) r
  | i, some ob :: r => hp i = some ob ∧ ob.lt n = true ∧ hasObs hp n (i + 1) r
theorem hasObs_get {hp : Nat → Option Ob} {n : Nat} : ∀ {os : List (Option Ob)} {i j : Nat} {ob : Ob}, hasObs hp n i os → os[j]? = some (some ob) → hp (i + j) = some ob ∧ ob.lt n = true
  | [], _, _, _, _, h => by simp at h
  | none :: r, i, j, ob, h, hj => by
    cases j with
    | zero => simp at hj
    | succ j => rw [show i + (j + 1) = i + 1 + j by omega]; exact hasObs_get (os := r) h (by simpa using hj)
  | some o :: r, i, j, ob, h, hj => by
    cases j with
    | zero => simp at hj; subst hj; exact ⟨h.1, h.2.1⟩
    | succ j => rw [show i + (j + 1) = i + 1 + j by omega]; exact hasObs_get (os := r) h.2.2 (by simpa using hj)

/-- The result, and what has become of the objects. -/
def GivesO (c : Cx) (T : Nat → Option TI) (rs : List ResultVar) (x : AV) (os' : List (Option Ob)) (σ : St) : Prop :=
  ∃ σ', Le c σ σ' ∧ resOf T σ' rs = some x ∧ x.lt os'.length = true ∧ hasObs σ'.hp os'.length 0 os'

theorem ObAt.cx {c1 c2 : Cx} {G : Nat → Prop} {w : World} {β : Nat → Value} {v : Value} {o : Ob} (hm : ∀ b, c1.mine b → c2.mine b) (h : ObAt c1 G w β v o) : ObAt c2 G w β v o := by
  cases o with
  | box xs =>
    obtain ⟨b, e, cur, q1, q2, q3, q4, q5, q6⟩ := h
    exact ⟨b, e, cur, q1, q2, q3, hm b q4, q5, q6⟩
  | row e sz rows =>
    obtain ⟨h1, h2, h3⟩ := h
    refine ⟨h1, h2, h3.imp id ?_⟩
    rintro ⟨b, cap, cur, k1, k2, k3, k4, k5, k6, k7⟩
    exact ⟨b, cap, cur, k1, k2, k3, k4, k5, hm b k6, k7⟩
  | arow e sz rows => exact h.mv (fun b _ => hm b)

theorem osound {P : Program} {T : Nat → Option TI} (hT : TOk P T) {f : Nat} {fn : Func} {code : Code} {R : List AV → List Ob → AV → List (Option Ob) → Prop} (hcall : ∀ args w, (callFunc f args).run P w = .ok (.enter f args) w)
    (hf : P.funcs[f]? = some fn) (hb : fn.body = some code) (hn : ∀ xs os x os', R xs os x os' → xs.length ≤ fn.ntmps ∧ os.length ≤ os'.length)
    (N : Nat) (hN : fn.ntmps = N)
    (h : ∀ xs os x os' w0 G0 B0, R xs os x os' → AV.ltAll os.length xs = true → Tri (ownCx P w0 B0 os.length G0 N) code (startO xs os) (fun e σ => match e with | .exit _ => False | _ => GivesO (ownCx P w0 B0 os.length G0 N) T fn.results.toList x os' σ)) : PSound P f (ospec R) := by
  subst hN
  refine ⟨hcall, fun G w xs vs r _ _ _ _ hpre => hpre.elim, fun R' hR' => ?_, fun R hR => (by cases hR)⟩
  obtain rfl : R = R' := by simpa [ospec] using hR'
  intro G w β xs vs os x os' hlt hgl hv hxl hobs hR
  let c : Cx := ownCx P w β os.length G fn.ntmps
  have hlen := hv.length
  obtain ⟨hxn, hol⟩ := hn xs os x os' hR
  have hget : ∀ (k : Nat) ob, (startO xs os).hp k = some ob → (os.map some)[k]? = some (some ob) := fun k ob hk => by
    simp only [startO] at hk
    rw [List.getElem?_map, hk]; rfl
  have hc : Conc c G β (startO xs os) { tmps := vs.toArray ++ Array.replicate (fn.ntmps - vs.toArray.size) undef, defers := [] } w := {
    defers := rfl
    size := by simp only [Array.size_append, List.size_toArray, Array.size_replicate]; show _ = fn.ntmps; omega
    env := fun t => by
      simp only [startO]
      by_cases ht : t < xs.length
      · obtain ⟨v, h1, h2⟩ := hv.get (i := t) (x := xs[t]) (List.getElem?_eq_getElem ht)
        have e1 : xs.getD t .junk = xs[t] := by simp [List.getElem?_eq_getElem ht]
        have e2 : (vs.toArray ++ Array.replicate (fn.ntmps - vs.toArray.size) undef).getD t undef = v := by
          rw [Array.getD_eq_getD_getElem?, Array.getElem?_append_left (by simpa [hlen] using ht)]
          simp [h1]
        rw [e1, e2]; exact h2
      · have : xs.getD t .junk = .junk := by simp [List.getElem?_eq_none (by omega : xs.length ≤ t)]
        rw [this]; simp only [AVal]
    envlt := fun t => by
      simp only [startO]
      by_cases ht : t < xs.length
      · have e1 : xs.getD t .junk = xs[t] := by simp [List.getElem?_eq_getElem ht]
        rw [e1]; exact ltAll_get hxl (List.getElem?_eq_getElem ht)
      · have : xs.getD t .junk = .junk := by simp [List.getElem?_eq_none (by omega : xs.length ≤ t)]
        rw [this]; rfl
    hp := fun k ob hk => ObAt.cx (fun _ h => h) (hobs.1 k ob (hget k ob hk)).1
    hplt := fun k ob hk => ⟨(List.getElem?_eq_some_iff.1 hk).1, by have := (hobs.1 k ob (hget k ob hk)).2; rwa [List.length_map] at this⟩
    inj := fun k k' ob ob' hk hk' hne b => hobs.2 k k' ob ob' (hget k ob hk) (hget k' ob' hk') hne b
    lt := hlt
    sub := fun b hb => hb
    new := fun b hb => .inl hb
    fr := Fr.refl _ _
    stay := ⟨Nat.le_refl _, fun _ _ => rfl⟩
    glob := hgl }
  refine calls_of_wp hf hb ?_
  refine wp_mono (h xs os x os' w G β hR hxl G β _ w hc) ?_
  rintro e a' w' ⟨e', G', β', σ', rfl, hq, hc'⟩
  have fin : GivesO c T fn.results.toList x os' σ' → a'.defers = [] ∧ ∃ v, (results fn a'.tmps).run P w' = .ok v w' ∧ (∃ v₀ G'' β'', Ending.returned v = .returned v₀ ∧ Fr (ownCx P w β os.length G 0).X w w' ∧ (∀ b, G b → G'' b) ∧ (∀ b, G'' b → G b ∨ (ownCx P w β os.length G 0).mine b) ∧ (∀ b, G'' b → b < w'.heap.size) ∧
      AVal G'' w' β'' x v₀ ∧ x.lt os'.length = true ∧ os.length ≤ os'.length ∧ ObsAt (ownCx P w β os.length G 0) G'' w' β'' os' ∧ ∀ (i : Nat) ob, i < os.length → os'[i]? = some (some ob) → β'' i = β i) := fun hq => by
    obtain ⟨σ2, hle, hr, hxl, hh⟩ := hq
    obtain ⟨G2, β2, hc2⟩ := hle G' β' a' w' hc'
    refine ⟨hc2.defers, ?_⟩
    obtain ⟨v, h1, h2⟩ := resOf_rep (c := c) hT hc2 hr
    have hg : ∀ (i : Nat) ob, os'[i]? = some (some ob) → σ2.hp i = some ob ∧ ob.lt os'.length = true := fun i ob hi => by simpa using hasObs_get hh hi
    exact ⟨v, h1, v, G2, β2, rfl, hc2.fr, hc2.sub, hc2.new, hc2.lt, h2, hxl, hol,
      ⟨fun i ob hi => ⟨ObAt.cx (fun _ h => h) (hc2.hp i ob (hg i ob hi).1), (hg i ob hi).2⟩, fun i j ob ob' hi hj hne b => hc2.inj i j ob ob' (hg i ob hi).1 (hg j ob' hj).1 hne b⟩,
      fun i ob hi ho => hc2.stay.2 i hi⟩
  cases e' with
  | normal => exact fin hq
  | exit => exact hq.elim
  | ret => exact fin hq

theorem resAV_lt {c : Cx} {T : Nat → Option TI} {σ : St} {G : Nat → Prop} {β : Nat → Value} {a : Act} {w : World} (hc : Conc c G β σ a w) {rv : ResultVar} {x : AV} (h : resAV T σ rv = some x) : x.lt σ.nx = true := by
  unfold resAV at h
  split at h
  · cases h; exact AV.deep_lt (hc.envlt _)
  · split at h
    · split at h
      · rename_i cells i hk hi
        have hl : AV.ltAll σ.nx cells = true := by simpa [Ob.lt] using (hc.hplt _ _ hk).2
        split at h
        · split at h
          · cases h
            refine AV.deep_lt ?_
            simp only [AV.lt]
            exact ltAll_mk fun q y hq => ltAll_get hl (by
              rw [List.getElem?_take] at hq
              split at hq
              · exact hq
              · cases hq)
          · cases h
        · split at h
          · cases h
            simp only [AV.ltAll, Bool.and_eq_true] at hl
            exact AV.nrm_lt hl.1
          · cases h
      · cases h
    · exact loadS_lt h
    · cases h
theorem resAll_lt {c : Cx} {T : Nat → Option TI} {σ : St} {G : Nat → Prop} {β : Nat → Value} {a : Act} {w : World} (hc : Conc c G β σ a w) : ∀ {rs : List ResultVar} {xs : List AV}, resAll T σ rs = some xs → AV.ltAll σ.nx xs = true
  | [], xs, h => by simp only [resAll, Option.some.injEq] at h; subst h; rfl
  | r :: rs, xs, h => by
    simp only [resAll] at h
    split at h
    · rename_i x ys h1 h2
      cases h
      simp only [AV.ltAll, Bool.and_eq_true]
      exact ⟨resAV_lt hc h1, resAll_lt hc h2⟩
    · cases h
theorem resOf_lt {c : Cx} {T : Nat → Option TI} {σ : St} {G : Nat → Prop} {β : Nat → Value} {a : Act} {w : World} (hc : Conc c G β σ a w) {rs : List ResultVar} {x : AV} (h : resOf T σ rs = some x) : x.lt σ.nx = true := by
  unfold resOf at h
  split at h
  · rename_i y hy
    cases h
    have := resAll_lt hc hy
    simp only [AV.ltAll, Bool.and_true] at this
    exact this
  · rename_i xs _ hy
    cases h
    simp only [AV.lt]
    exact resAll_lt hc hy
  · cases h

/-- The result, and what has become of all own objects. -/
def GivesH (c : Cx) (T : Nat → Option TI) (rs : List ResultVar) (Φ : AV → (Nat → Option Ob) → Nat → Prop) (σ : St) : Prop :=
  ∃ σ', Le c σ σ' ∧ ∃ x, resOf T σ' rs = some x ∧ Φ x σ'.hp σ'.nx

theorem hsound {P : Program} {T : Nat → Option TI} (hT : TOk P T) {f : Nat} {fn : Func} {code : Code} {R : List AV → (Nat → Option Ob) → Nat → (AV → (Nat → Option Ob) → Nat → Prop) → Prop} (hcall : ∀ args w, (callFunc f args).run P w = .ok (.enter f args) w)
    (hf : P.funcs[f]? = some fn) (hb : fn.body = some code) (hn : ∀ xs hp n Φ, R xs hp n Φ → xs.length ≤ fn.ntmps)
    (N : Nat) (hN : fn.ntmps = N)
    (h : ∀ xs hp n Φ w0 G0 B0, R xs hp n Φ → AV.ltAll n xs = true → (∀ k ob, hp k = some ob → k < n ∧ ob.lt n = true) → Tri (heapCx P w0 B0 hp n G0 N) code ⟨fun t => xs.getD t .junk, hp, n⟩ (fun e σ => match e with | .exit _ => False | _ => GivesH (heapCx P w0 B0 hp n G0 N) T fn.results.toList Φ σ)) : PSound P f (hspec R) := by
  subst hN
  refine ⟨hcall, fun G w xs vs r _ _ _ _ hpre => hpre.elim, fun R hR => (by cases hR), fun R' hR' => ?_⟩
  obtain rfl : R = R' := by simpa [hspec] using hR'
  intro G w β xs vs hp n Φ hlt hgl hv hxl hobs hR
  let c : Cx := heapCx P w β hp n G fn.ntmps
  have hlen := hv.length
  have hxn := hn xs hp n Φ hR
  have hc : Conc c G β ⟨fun t => xs.getD t .junk, hp, n⟩ { tmps := vs.toArray ++ Array.replicate (fn.ntmps - vs.toArray.size) undef, defers := [] } w := {
    defers := rfl
    size := by simp only [Array.size_append, List.size_toArray, Array.size_replicate]; show _ = fn.ntmps; omega
    env := fun t => by
      dsimp only
      by_cases ht : t < xs.length
      · obtain ⟨v, h1, h2⟩ := hv.get (i := t) (x := xs[t]) (List.getElem?_eq_getElem ht)
        have e1 : xs.getD t .junk = xs[t] := by simp [List.getElem?_eq_getElem ht]
        have e2 : (vs.toArray ++ Array.replicate (fn.ntmps - vs.toArray.size) undef).getD t undef = v := by
          rw [Array.getD_eq_getD_getElem?, Array.getElem?_append_left (by simpa [hlen] using ht)]
          simp [h1]
        rw [e1, e2]; exact h2
      · have : xs.getD t .junk = .junk := by simp [List.getElem?_eq_none (by omega : xs.length ≤ t)]
        rw [this]; simp only [AVal]
    envlt := fun t => by
      dsimp only
      by_cases ht : t < xs.length
      · have e1 : xs.getD t .junk = xs[t] := by simp [List.getElem?_eq_getElem ht]
        rw [e1]; exact ltAll_get hxl (List.getElem?_eq_getElem ht)
      · have : xs.getD t .junk = .junk := by simp [List.getElem?_eq_none (by omega : xs.length ≤ t)]
        rw [this]; rfl
    hp := fun k ob hk => ObAt.cx (fun _ h => h) (hobs.obs k ob hk)
    hplt := hobs.lts
    inj := hobs.inj
    lt := hlt
    sub := fun b hb => hb
    new := fun b hb => .inl hb
    fr := Fr.refl _ _
    stay := ⟨Nat.le_refl _, fun _ _ => rfl⟩
    glob := hgl }
  refine calls_of_wp hf hb ?_
  refine wp_mono (h xs hp n Φ w G β hR hxl hobs.lts G β _ w hc) ?_
  rintro e a' w' ⟨e', G', β', σ', rfl, hq, hc'⟩
  have fin : GivesH c T fn.results.toList Φ σ' → a'.defers = [] ∧ ∃ v, (results fn a'.tmps).run P w' = .ok v w' ∧ (∃ v₀ G'' β'' x hp' n', Ending.returned v = .returned v₀ ∧ Φ x hp' n' ∧ n ≤ n' ∧ Fr (heapCx P w β hp n G 0).X w w' ∧ (∀ b, G b → G'' b) ∧ (∀ b, G'' b → G b ∨ (heapCx P w β hp n G 0).mine b) ∧ (∀ b, G'' b → b < w'.heap.size) ∧
      AVal G'' w' β'' x v₀ ∧ x.lt n' = true ∧ HpAt (heapCx P w β hp n G 0) G'' w' β'' hp' n' ∧ ∀ k, k < n → β'' k = β k) := fun hq => by
    obtain ⟨σ2, hle, x, hr, hΦ⟩ := hq
    obtain ⟨G2, β2, hc2⟩ := hle G' β' a' w' hc'
    refine ⟨hc2.defers, ?_⟩
    obtain ⟨v, h1, h2⟩ := resOf_rep (c := c) hT hc2 hr
    exact ⟨v, h1, v, G2, β2, x, σ2.hp, σ2.nx, rfl, hΦ, hc2.stay.1, hc2.fr, hc2.sub, hc2.new, hc2.lt, h2, resOf_lt hc2 hr,
      ⟨fun k ob hk => ObAt.cx (fun _ h => h) (hc2.hp k ob hk), hc2.hplt, hc2.inj⟩, hc2.stay.2⟩
  cases e' with
  | normal => exact fin hq
  | exit => exact hq.elim
  | ret => exact fin hq

attribute [irreducible] Tri Le Gives GivesO GivesH

end Go.Abs
