/-
  THE ABSTRACT MACHINE, PART L: A REGION WHOSE ORDER IS DRAWN: ONE WALK IN THE TEXT's ORDER SERVES EVERY ORDER. (The shape of the two long proofs is that of the guide's theorem on quiet operations.)
-/
import Derived.Test.YtefbmooajknmgaaDoorAbsK
set_option linter.unusedSimpArgs false
set_option linter.unusedVariables false
namespace Go.Abs

section
variable {T : Nat → Option TI} {Γ : Nat → Option PSpec} {env env' : Nat → AV}

theorem fillA_congr {place : Nat → Option (Nat × Nat)} : ∀ {parts : List (Nat × Operand)} {cells : List AV}, (∀ p ∈ parts, ∀ ty, opd T env ty p.2 = opd T env' ty p.2) → fillA T env place cells parts = fillA T env' place cells parts
  | [], _, _ => rfl
  | (j, x) :: r, cells, h => by
    have h1 := h (j, x) (by simp)
    simp only [fillA, spine_eq]
    split
    · rfl
    · split
      · rfl
      · simp only [h1]
        split
        · exact fillA_congr fun p hp => h p (by simp [hp])
        · rfl
theorem partsS_congr {e : Nat} : ∀ {parts : List (Nat × Operand)} {i : Nat}, (∀ p ∈ parts, ∀ ty, opd T env ty p.2 = opd T env' ty p.2) → partsS T env e i parts = partsS T env' e i parts
  | [], _, _ => rfl
  | (j, x) :: r, i, h => by
    have h1 := h (j, x) (by simp)
    simp only [partsS, h1, partsS_congr (parts := r) fun p hp => h p (by simp [hp])]
theorem map_congr {ty : Nat} {xs : List Operand} (h : ∀ x ∈ xs, ∀ ty, opd T env ty x = opd T env' ty x) : xs.map (opd T env ty) = xs.map (opd T env' ty) :=
  List.map_congr_left fun x hx => h x hx ty
theorem opds_congr : ∀ {xs : List Operand} {ts : List Nat}, (∀ x ∈ xs, ∀ ty, opd T env ty x = opd T env' ty x) → opds T env xs ts = opds T env' xs ts
  | [], _, _ => rfl
  | x :: xs, ts, h => by
    simp only [opds, h x (by simp), opds_congr (xs := xs) fun y hy => h y (by simp [hy])]
theorem omap_congr {ty : Nat} {x : Option Operand} (h : ∀ y, x = some y → ∀ ty, opd T env ty y = opd T env' ty y) : x.map (opd T env ty) = x.map (opd T env' ty) := by
  cases x with
  | none => rfl
  | some y => simp [h y rfl]

theorem pstep_congr {own : Bool} {o : Oper} (h : ∀ x ∈ o.op.operands, ∀ ty, opd T env ty x = opd T env' ty x) : pstep T own o env = pstep T own o env' := by
  unfold pstep
  cases hop : o.op <;> rw [hop] at h <;> simp only [Op.operands] at h <;> (try dsimp only)
  case move x => simp only [h x (by simp)]
  case assign x => simp only [h x (by simp)]
  case pick c x y => simp only [h c (by simp), h x (by simp), h y (by simp)]
  case box t x => simp only [h x (by simp)]
  case build t parts =>
    unfold pBuild
    have hp : ∀ p ∈ parts.toList, ∀ ty, opd T env ty p.2 = opd T env' ty p.2 := fun p hp => h p.2 (by simp; exact ⟨p.1, by simpa using hp⟩)
    split
    · rfl
    · split
      · rw [fillA_congr hp]
      · split
        · rw [fillA_congr hp]
        · rfl
      · rfl
  case buildSlice t n parts =>
    have hp : ∀ p ∈ parts.toList, ∀ ty, opd T env ty p.2 = opd T env' ty p.2 := fun p hp => h p.2 (by simp; exact ⟨p.1, by simpa using hp⟩)
    split
    · split
      · split
        · rw [partsS_congr hp]
        · rfl
      · rfl
    · rfl
  case load t x => simp only [h x (by simp)]
  case nilCheck x => simp only [h x (by simp)]
  case binOp op t x y u => simp only [h x (by simp), h y (by simp)]
  case unOp op t x => simp only [h x (by simp)]
  case convert src dst x => simp only [h x (by simp)]
  case makeFunc fn first caps =>
    cases fn <;> dsimp only
    split
    · rfl
    · rename_i cs e1 e2 e3
      have : ∀ x ∈ caps.toList, ∀ ty, opd T env ty x = opd T env' ty x := fun x hx => h x (by simp; exact .inr (by simpa using hx))
      rw [map_congr this]
    · rfl
  case slice t x lo hi mx =>
    cases mx <;> dsimp only
    rw [h x (by simp), omap_congr (fun y e => h y (by subst e; simp)), omap_congr (x := hi) (fun y e => h y (by subst e; simp))]
  case fieldAddr t x f => simp only [h x (by simp)]
  case field t x f => simp only [h x (by simp)]
  case indexAddr t x i => simp only [h x (by simp), h i (by simp)]
  case index t x i => simp only [h x (by simp), h i (by simp)]
  case extract x i => simp only [h x (by simp)]
  case call c =>
    obtain ⟨callee, args, ts⟩ := c
    have ha : ∀ x ∈ args.toList, ∀ ty, opd T env ty x = opd T env' ty x := fun x hx => h x (by simp [Call.operands]; exact .inr (by simpa using hx))
    cases callee with
    | builtin b =>
      cases b <;> dsimp only
      case len =>
        split
        · rename_i x t e1 e2
          rw [ha x (by rw [e1]; simp)]
        · rfl
      case min => rw [map_congr ha]
      case max => rw [map_congr ha]
      case copy =>
        split
        · rename_i x y t tx e1 e2
          rw [ha x (by rw [e1]; simp), ha y (by rw [e1]; simp)]
        · rfl
    | value f => rfl
    | invoke r m => rfl

theorem callOf_congr {o : Oper} (h : ∀ x ∈ o.op.operands, ∀ ty, opd T env ty x = opd T env' ty x) : callOf T Γ o env = callOf T Γ o env' := by
  unfold callOf
  split
  · rename_i f args ts ho
    rw [ho] at h
    simp only [Op.operands, Call.operands] at h
    have ha : ∀ x ∈ args.toList, ∀ ty, opd T env ty x = opd T env' ty x := fun x hx => h x (by simp; exact .inr (by simpa using hx))
    rw [h f (by simp), opds_congr ha]
  · rfl

theorem rawCall_congr {o : Oper} (h : ∀ x ∈ o.op.operands, ∀ ty, opd T env ty x = opd T env' ty x) : rawCall T o env = rawCall T o env' := by
  unfold rawCall
  split
  · rename_i f args ts ho
    rw [ho] at h
    simp only [Op.operands, Call.operands] at h
    have ha : ∀ x ∈ args.toList, ∀ ty, opd T env ty x = opd T env' ty x := fun x hx => h x (by simp; exact .inr (by simpa using hx))
    rw [h f (by simp), opds_congr ha]
  · rfl

/-- Another frame, the same memory. -/
def reenv (env : Nat → AV) (r : Option Prop × AV × St) : Option Prop × AV × St := (r.1, r.2.1, { r.2.2 with env := env })

theorem lstep_congr {own : Bool} {o : Oper} {σ : St} (h : ∀ x ∈ o.op.operands, ∀ ty, opd T σ.env ty x = opd T env' ty x) :
    lstep T own o { σ with env := env' } = (lstep T own o σ).map (reenv env') := by
  obtain ⟨env, hp, nx⟩ := σ
  dsimp only at h
  unfold lstep
  simp only [spine_eq]
  cases hop : o.op <;> rw [hop] at h <;> simp only [Op.operands] at h <;> (try dsimp only)
  case move x =>
    split
    · split <;> rfl
    · rfl
  case assign x =>
    split
    · split <;> rfl
    · rfl
  case box t x =>
    rw [← h x (by simp)]
    split <;> rfl
  case alloc t => split <;> rfl
  case buildSlice t n parts =>
    have hp : ∀ p ∈ parts.toList, ∀ ty, opd T env ty p.2 = opd T env' ty p.2 := fun p hp => h p.2 (by simp; exact ⟨p.1, by simpa using hp⟩)
    split
    · rw [← partsS_congr hp]
      split
      · split <;> rfl
      · rfl
    · rfl
  case makeSlice t l c =>
    rw [← h l (by simp), ← h c (by simp)]
    split
    · split <;> rfl
    · rfl
  case load t x =>
    rw [← h x (by simp)]
    split
    · split
      · split
        · split <;> rfl
        · split <;> rfl
      · rfl
    · rfl
  case store t x y =>
    rw [← h x (by simp), ← h y (by simp)]
    split
    · split
      · split <;> rfl
      · rfl
    · split
      · split <;> rfl
      · rfl
    · rfl
  case indexAddr t x i =>
    rw [← h x (by simp), ← h i (by simp)]
    split
    · split
      · split <;> rfl
      · rfl
    · rfl
  case convert src dst x =>
    rw [← h x (by simp)]
    split
    · split
      · split <;> rfl
      · rfl
    · split
      · split <;> rfl
      · rfl
    · rfl
  case slice t x lo hi mx =>
    cases lo <;> cases hi <;> cases mx <;> try rfl
    rename_i hi
    dsimp only
    rw [← h x (by simp), ← h hi (by simp)]
    split
    · split
      · split <;> rfl
      · rfl
    · rfl
  case call c =>
    obtain ⟨callee, args, ts⟩ := c
    have ha : ∀ x ∈ args.toList, ∀ ty, opd T env ty x = opd T env' ty x := fun x hx => h x (by simp [Call.operands]; exact .inr (by simpa using hx))
    cases callee with
    | builtin b =>
      cases b <;> try rfl
      case len =>
        dsimp only
        split
        · rename_i x t e1 e2
          rw [← ha x (by rw [e1]; simp)]
          split
          · split <;> rfl
          · rfl
        · rfl
      case append =>
        dsimp only
        split
        · rename_i x y t tx e1 e2
          rw [← ha x (by rw [e1]; simp), ← ha y (by rw [e1]; simp)]
          unfold lAppend
          have e3 : ∀ z, baseOf ⟨env', hp, nx⟩ z = baseOf ⟨env, hp, nx⟩ z := fun z => by cases z <;> rfl
          have e4 : ∀ z, rowsOf T ⟨env', hp, nx⟩ tx z = rowsOf T ⟨env, hp, nx⟩ tx z := fun z => by unfold rowsOf; rfl
          rw [e3, e4]
          split
          · split
            · split
              · rfl
              · split <;> rfl
            · rfl
          · rfl
        · rfl
    | value f => rfl
    | invoke r m => rfl
  all_goals rfl

theorem lstep_env {own : Bool} {o : Oper} {σ σ' : St} {φ : Option Prop} {x : AV} (h : lstep T own o σ = some (φ, x, σ')) : σ'.env = σ.env := by
  have := lstep_congr (T := T) (own := own) (o := o) (σ := σ) (env' := σ.env) (fun _ _ _ => rfl)
  have e : ({ σ with env := σ.env } : St) = σ := rfl
  rw [e, h] at this
  simp only [Option.map_some, Option.some.injEq, reenv, Prod.mk.injEq] at this
  rw [this.2.2]

theorem lstepA_congr {o : Oper} {σ : St} (h : ∀ x ∈ o.op.operands, ∀ ty, opd T σ.env ty x = opd T env' ty x) :
    lstepA T o { σ with env := env' } = (lstepA T o σ).map (reenv env') := by
  obtain ⟨env, hp, nx⟩ := σ
  dsimp only at h
  unfold lstepA
  cases hop : o.op <;> rw [hop] at h <;> simp only [Op.operands] at h <;> (try dsimp only)
  case buildSlice t n parts =>
    have hp : ∀ p ∈ parts.toList, ∀ ty, opd T env ty p.2 = opd T env' ty p.2 := fun p hp => h p.2 (by simp; exact ⟨p.1, by simpa using hp⟩)
    have hc : ∀ (e : Nat) (ps : List (Nat × Operand)) (i : Nat), (∀ p ∈ ps, ∀ ty, opd T env ty p.2 = opd T env' ty p.2) → partsA T env e i ps = partsA T env' e i ps := by
      intro e ps
      induction ps with
      | nil => intro i _; rfl
      | cons p ps ih =>
        intro i hh
        obtain ⟨j, x⟩ := p
        simp only [partsA]
        rw [hh (j, x) (by simp), ih (i + 1) fun p hp => hh p (by simp [hp])]
    split
    · rw [← hc _ _ _ hp]
      split
      · split <;> rfl
      · rfl
    · rfl
  case store t x y =>
    rw [← h x (by simp), ← h y (by simp)]
    split
    · split
      · split <;> rfl
      · rfl
    · rfl
  case indexAddr t x i =>
    rw [← h x (by simp), ← h i (by simp)]
    split
    · split
      · split <;> rfl
      · rfl
    · rfl
  case slice t x lo hi mx =>
    cases lo <;> cases hi <;> cases mx <;> try rfl
    rename_i hi
    dsimp only
    rw [← h x (by simp), ← h hi (by simp)]
    split
    · split
      · split <;> rfl
      · rfl
    · rfl
  case call c =>
    obtain ⟨callee, args, ts⟩ := c
    have ha : ∀ x ∈ args.toList, ∀ ty, opd T env ty x = opd T env' ty x := fun x hx => h x (by simp [Call.operands]; exact .inr (by simpa using hx))
    cases callee with
    | builtin b =>
      cases b <;> try rfl
      case len =>
        dsimp only
        split
        · rename_i x t e1 e2
          rw [← ha x (by rw [e1]; simp)]
          split
          · split <;> rfl
          · rfl
        · rfl
      case append =>
        dsimp only
        split
        · rename_i x y t tx e1 e2
          rw [← ha x (by rw [e1]; simp), ← ha y (by rw [e1]; simp)]
          have e3 : ∀ z, baseA ⟨env', hp, nx⟩ z = baseA ⟨env, hp, nx⟩ z := fun z => by cases z <;> rfl
          have e4 : ∀ z, rowsA T ⟨env', hp, nx⟩ tx z = rowsA T ⟨env, hp, nx⟩ tx z := fun z => by unfold rowsA; rfl
          rw [e3, e4]
          split
          · split <;> rfl
          · rfl
        · rfl
      case copy =>
        dsimp only
        split
        · rename_i x y t tx e1 e2
          rw [← ha x (by rw [e1]; simp), ← ha y (by rw [e1]; simp)]
          have e3 : ∀ z, baseA ⟨env', hp, nx⟩ z = baseA ⟨env, hp, nx⟩ z := fun z => by cases z <;> rfl
          have e4 : ∀ z, rowsA T ⟨env', hp, nx⟩ tx z = rowsA T ⟨env, hp, nx⟩ tx z := fun z => by unfold rowsA; rfl
          rw [e3, e4]
          split
          · split <;> rfl
          · rfl
        · rfl
    | value f => rfl
    | invoke r m => rfl
  all_goals rfl

theorem lstepB_congr {own : Bool} {o : Oper} {σ : St} (h : ∀ x ∈ o.op.operands, ∀ ty, opd T σ.env ty x = opd T env' ty x) :
    lstepB T own o { σ with env := env' } = (lstepB T own o σ).map (reenv env') := by
  unfold lstepB
  rw [lstep_congr h, lstepA_congr h]
  cases lstep T own o σ <;> rfl
theorem lstepB_env {own : Bool} {o : Oper} {σ σ' : St} {φ : Option Prop} {x : AV} (h : lstepB T own o σ = some (φ, x, σ')) : σ'.env = σ.env := by
  have := lstepB_congr (T := T) (own := own) (o := o) (σ := σ) (env' := σ.env) (fun _ _ _ => rfl)
  have e : ({ σ with env := σ.env } : St) = σ := rfl
  rw [e, h] at this
  simp only [Option.map_some, Option.some.injEq, reenv, Prod.mk.injEq] at this
  rw [this.2.2]

/-- The contracts that speak of single outcomes: what a region whose order is drawn may call. -/
def noHeap (Γ : Nat → Option PSpec) (f : Nat) : Option PSpec :=
  match Γ f with
  | some s => match s.heap with | none => some s | some _ => none
  | none => none
theorem noHeap_get {Γ : Nat → Option PSpec} {f : Nat} {s : PSpec} (h : noHeap Γ f = some s) : Γ f = some s ∧ s.heap = none := by
  unfold noHeap at h
  split at h
  · split at h
    · cases h; exact ⟨by assumption, by assumption⟩
    · cases h
  · cases h

/-- What may become of one operation. 'loud': it may touch what the frame owns. -/
def runs (T : Nat → Option TI) (Γ : Nat → Option PSpec) (own loud : Bool) (o : Oper) (σ σ1 : St) : Prop :=
  match callOf T Γ o σ.env with
  | some (_, s, xs) => ∃ r x σ', s.spec xs r ∧ afterCall (own && loud) σ r = some (x, σ') ∧ σ1 = σ'.put o.dst x
  | none => match loud with
    | true => match step1 T own o σ with
      | some (φ, x, σ') => φ.getD True ∧ σ1 = σ'.put o.dst x
      | none => callL T (noHeap Γ) own o σ fun x σ' => σ1 = σ'.put o.dst x
    | false => ∃ φ x, pstep T false o σ.env = some (φ, x) ∧ φ.getD True ∧ σ1 = σ.put o.dst x

def gate (all : List Oper) (o : Oper) (env : Nat → AV) : Option Bool :=
  match o.guard with
  | none => some true
  | some (j, want) => match (all[j]?).bind (fun o => o.dst) with
    | some g => match env g with
      | .s (.bool b) => some (b == want)
      | .tup [] => some false
      | _ => none
    | none => none

def outc (T : Nat → Option TI) (Γ : Nat → Option PSpec) (all : List Oper) (own loud : Bool) (o : Oper) (σ σ1 : St) : Prop :=
  match gate all o σ.env with
  | some true => runs T Γ own loud o σ σ1
  | some false => σ1 = σ.put o.dst (.tup [])
  | none => False

theorem put_comm {σ : St} {d e : Option Nat} {x y : AV} (h : ∀ t, d = some t → e ≠ some t) : (σ.put d x).put e y = (σ.put e y).put d x := by
  cases d <;> cases e <;> try rfl
  rename_i d e
  simp only [St.put, St.mk.injEq, and_self, and_true]
  funext t
  cases h1 : Nat.beq t e with
  | false => simp
  | true =>
    cases h2 : Nat.beq t d with
    | false => simp
    | true =>
      have := Nat.eq_of_beq_eq_true h1
      have := Nat.eq_of_beq_eq_true h2
      exact absurd (by congr 1; omega) (h d rfl)

theorem env_put {σ : St} {d : Option Nat} {x : AV} {t : Nat} (h : ∀ s, d = some s → s ≠ t) : (σ.put d x).env t = σ.env t := by
  cases d with
  | none => rfl
  | some d =>
    simp only [St.put]
    cases e : Nat.beq t d with
    | false => rfl
    | true => exact absurd (Nat.eq_of_beq_eq_true e).symm (h d rfl)

/-- Of what an operation looks at nothing has turned. -/
def Alike (all : List Oper) (o : Oper) (env env' : Nat → AV) : Prop := ∀ t ∈ o.looksAt all.toArray, env t = env' t

theorem Alike.opds {all : List Oper} {o : Oper} (h : Alike all o env env') : ∀ x ∈ o.op.operands, ∀ ty, opd T env ty x = opd T env' ty x := fun x hx ty => by
  cases x with
  | tmp t =>
    refine h t ?_
    unfold Oper.looksAt
    refine List.mem_append.2 (.inl (List.mem_filterMap.2 ⟨.tmp t, by simpa using hx, rfl⟩))
  | _ => rfl
theorem Alike.gate {all : List Oper} {o : Oper} (h : Alike all o env env') : gate all o env = gate all o env' := by
  unfold Abs.gate
  cases hg : o.guard with
  | none => rfl
  | some p =>
    obtain ⟨j, want⟩ := p
    dsimp only
    cases hj : (all[j]?).bind (fun o => o.dst) with
    | none => rfl
    | some g =>
      dsimp only
      have : env g = env' g := h g (by
        unfold Oper.looksAt
        refine List.mem_append.2 (.inr ?_)
        rw [hg]
        dsimp only
        have : (all.toArray[j]?).bind (fun o => o.dst) = some g := by simpa using hj
        rw [this]; simp)
      rw [this]
theorem Alike.put {all : List Oper} {o : Oper} {σ : St} {d : Option Nat} {x : AV} (h : ∀ t, d = some t → t ∉ o.looksAt all.toArray) : Alike all o (σ.put d x).env σ.env := fun t ht =>
  env_put fun s hs e => h s hs (e ▸ ht)

theorem afterCall_quiet {σ σ' : St} {r : Ret} {x : AV} (h : afterCall false σ r = some (x, σ')) : σ' = σ ∧ ∀ σ2, afterCall false σ2 r = some (x, σ2) := by
  unfold afterCall at h ⊢
  split at h
  · split at h
    · rename_i e; cases h; exact ⟨rfl, fun σ2 => by simp [e]⟩
    · cases h
  · cases h; exact ⟨rfl, fun σ2 => rfl⟩

theorem afterCall_env {own : Bool} {σ σ' : St} {r : Ret} {x : AV} (h : afterCall own σ r = some (x, σ')) : σ'.env = σ.env ∧ ∀ env', afterCall own { σ with env := env' } r = some (x, { σ' with env := env' }) := by
  unfold afterCall at h ⊢
  split at h
  · split at h
    · rename_i e; cases h; exact ⟨rfl, fun σ2 => by simp [e]⟩
    · cases h
  · split at h <;> cases h <;> exact ⟨rfl, fun σ2 => rfl⟩

theorem afterCall_nx {own : Bool} {σ σ' : St} {r : Ret} {x : AV} (h : afterCall own σ r = some (x, σ')) : σ.nx ≤ σ'.nx := by
  unfold afterCall at h
  split at h
  · split at h
    · cases h; exact Nat.le_refl _
    · cases h
  · split at h
    · cases h; exact Nat.le_succ _
    · cases h; exact Nat.le_refl _
theorem lstepB_nx {own : Bool} {o : Oper} {σ σ' : St} {φ : Option Prop} {x : AV} (h : lstepB T own o σ = some (φ, x, σ')) : σ.nx ≤ σ'.nx := by
  have a1 : ∀ (ob : Ob), σ.nx ≤ (addOb σ ob).nx := fun _ => Nat.le_succ _
  have a2 : ∀ (k : Nat) (ob : Ob), σ.nx ≤ (addOb (ridOb σ k) ob).nx := fun _ _ => Nat.le_succ _
  have a3 : ∀ (k : Nat) (ob : Ob), σ.nx ≤ (updOb σ k ob).nx := fun _ _ => Nat.le_refl _
  have a4 : ∀ (k : Nat), σ.nx ≤ (ridOb σ k).nx := fun _ => Nat.le_refl _
  have hA : ∀ {φ x σ'}, lstepA T o σ = some (φ, x, σ') → σ.nx ≤ σ'.nx := fun {φ x σ'} h => by
    unfold lstepA at h
    repeat' split at h
    all_goals first | (cases h; first | exact Nat.le_refl _ | exact a1 _ | exact a2 _ _ | exact a3 _ _ | exact a4 _) | cases h
  unfold lstepB at h
  split at h
  · rename_i r hl
    cases h
    unfold lstep at hl
    simp only [spine_eq] at hl
    repeat' split at hl
    all_goals first | (cases hl; first | exact Nat.le_refl _ | exact a1 _ | exact a2 _ _ | exact a3 _ _ | exact a4 _) | cases hl | skip
    unfold lAppend at hl
    repeat' split at hl
    all_goals first | (cases hl; first | exact Nat.le_refl _ | exact a1 _ | exact a2 _ _ | exact a3 _ _ | exact a4 _) | cases hl
  · exact hA h
/-- A call that takes own objects does the same in another frame. -/
theorem callL_env {own : Bool} {o : Oper} {σ : St} {K : AV → St → Prop} (h : callL T (noHeap Γ) own o σ K) : ∃ x hp nx, K x ⟨σ.env, hp, nx⟩ ∧ σ.nx ≤ nx ∧
    ∀ env', (∀ x ∈ o.op.operands, ∀ ty, opd T σ.env ty x = opd T env' ty x) → ∀ K' : AV → St → Prop, K' x ⟨env', hp, nx⟩ → callL T (noHeap Γ) own o { σ with env := env' } K' := by
  unfold callL at h
  split at h
  · rename_i hraw
    unfold loadL at h
    split at h
    · rename_i t y ho
      split at h
      · rename_i k sz i off e
        split at h
        · rename_i e' sz' rows hh
          split at h
          · rename_i hsz
            obtain ⟨hi, row, hrow, h⟩ := h
            split at h
            · rename_i x hl
              refine ⟨x, σ.hp, σ.nx, h, Nat.le_refl _, fun env' ha K' hk => ?_⟩
              unfold callL
              dsimp only
              rw [← rawCall_congr ha, hraw]
              dsimp only
              unfold loadL
              rw [ho]
              dsimp only
              rw [← ha y (by rw [ho]; simp [Op.operands]), e]
              dsimp only
              rw [hh]
              dsimp only
              rw [hsz]
              dsimp only
              refine ⟨hi, row, hrow, ?_⟩
              rw [hl]
              exact hk
            · exact h.elim
          · exact h.elim
        · rename_i e' sz' rows hh
          split at h
          · rename_i hsz
            obtain ⟨hi, row, hrow, h⟩ := h
            split at h
            · rename_i x hl
              refine ⟨x, σ.hp, σ.nx, h, Nat.le_refl _, fun env' ha K' hk => ?_⟩
              unfold callL
              dsimp only
              rw [← rawCall_congr ha, hraw]
              dsimp only
              unfold loadL
              rw [ho]
              dsimp only
              rw [← ha y (by rw [ho]; simp [Op.operands]), e]
              dsimp only
              rw [hh]
              dsimp only
              rw [hsz]
              dsimp only
              refine ⟨hi, row, hrow, ?_⟩
              rw [hl]
              exact hk
            · exact h.elim
          · exact h.elim
        · exact h.elim
      · exact h.elim
    · exact h.elim
  · rename_i g xs hraw
    split at h
    · exact h.elim
    · rename_i s hs
      have hnh := (noHeap_get hs).2
      rw [hnh] at h
      dsimp only at h
      split at h
      · rename_i hown
        split at h
        · exact h.elim
        · rename_i hp
          obtain ⟨r, hr, h⟩ := h
          split at h
          · exact h.elim
          · rename_i x σ' hx
            obtain ⟨e1, e2⟩ := afterCall_env hx
            have e3 : σ'.env = σ.env := by rw [e1]; cases r.flat <;> rfl
            refine ⟨x, σ'.hp, σ'.nx, by rw [← e3]; exact h, (by have := afterCall_nx hx; revert this; cases r.flat <;> exact id), fun env' ha K' hk => ?_⟩
            unfold callL
            dsimp only
            rw [← rawCall_congr ha, hraw]
            dsimp only
            rw [hs]
            dsimp only
            rw [hnh]
            dsimp only
            rw [hown]
            dsimp only
            rw [hp]
            refine ⟨r, hr, ?_⟩
            have e4 := e2 env'
            cases hf : r.flat with
            | true => rw [hf] at e4; dsimp only at e4 ⊢; rw [e4]; exact hk
            | false =>
              rw [hf] at e4
              have e5 : ({ ridAll (AV.keysAll xs) σ with env := env' } : St) = ridAll (AV.keysAll xs) { σ with env := env' } := rfl
              dsimp only at e4 ⊢
              rw [e5] at e4
              rw [e4]; exact hk
      · rename_i R hown
        have hnil : ∀ env', nilArg T s.nil o xs { σ with env := env' } = ((nilArg T s.nil o xs σ).1, { (nilArg T s.nil o xs σ).2 with env := env' }) := fun env' => by
          unfold nilArg
          split
          · rfl
          · split
            · split
              · split <;> rfl
              · rfl
            · rfl
        have hnenv : (nilArg T s.nil o xs σ).2.env = σ.env := by
          unfold nilArg
          split
          · rfl
          · split
            · split
              · split <;> rfl
              · rfl
            · rfl
        have hnnx : σ.nx ≤ (nilArg T s.nil o xs σ).2.nx := by
          unfold nilArg
          split
          · exact Nat.le_refl _
          · split
            · split
              · split
                · exact Nat.le_succ _
                · exact Nat.le_refl _
              · exact Nat.le_refl _
            · exact Nat.le_refl _
        cases hna : nilArg T s.nil o xs σ with
        | mk xs1 σ1 =>
        rw [hna] at h hnil hnenv hnnx
        dsimp only at h hnil hnenv hnnx
        split at h
        · rename_i os hd hos
          obtain ⟨x, os', hR, h⟩ := h
          refine ⟨_, _, _, by rw [← hnenv]; exact h, Nat.le_trans hnnx (Nat.le_add_right _ _), fun env' ha K' hk => ?_⟩
          unfold callL
          dsimp only
          rw [← rawCall_congr ha, hraw]
          dsimp only
          rw [hs]
          dsimp only
          rw [hnh]
          dsimp only
          rw [hown]
          dsimp only
          rw [hnil]
          dsimp only
          rw [hd, hos]
          exact ⟨x, os', hR, hk⟩
        · exact h.elim

/-- A quiet operation: what it lays, whatever else the state holds. -/
theorem quiet_out {all : List Oper} {own : Bool} {o : Oper} {σ σ1 : St} (h : outc T Γ all own false o σ σ1) : ∃ x, σ1 = σ.put o.dst x ∧ ∀ σ2 : St, Alike all o σ.env σ2.env → outc T Γ all own false o σ2 (σ2.put o.dst x) := by
  unfold outc at h
  split at h
  · rename_i hg
    unfold runs at h
    split at h
    · rename_i g s xs hco
      obtain ⟨r, x, σ', h1, h2, h3⟩ := h
      rw [Bool.and_false] at h2
      obtain ⟨rfl, h4⟩ := afterCall_quiet h2
      refine ⟨x, h3, fun σ2 ha => ?_⟩
      unfold outc
      rw [← ha.gate, hg]
      dsimp only
      unfold runs
      rw [← callOf_congr (Γ := Γ) (T := T) ha.opds, hco]
      exact ⟨r, x, σ2, h1, by rw [Bool.and_false]; exact h4 σ2, rfl⟩
    · rename_i hco
      obtain ⟨φ, x, h1, h2, h3⟩ := h
      refine ⟨x, h3, fun σ2 ha => ?_⟩
      unfold outc
      rw [← ha.gate, hg]
      dsimp only
      unfold runs
      rw [← callOf_congr (Γ := Γ) (T := T) ha.opds, hco]
      exact ⟨φ, x, by rw [← pstep_congr ha.opds]; exact h1, h2, rfl⟩
  · rename_i hg
    refine ⟨.tup [], h, fun σ2 ha => ?_⟩
    unfold outc
    rw [← ha.gate, hg]
  · exact h.elim

/-- A loud operation: the frame may be another one, where it does not look. -/
theorem loud_out {all : List Oper} {own loud : Bool} {o : Oper} {σ σ1 : St} (h : outc T Γ all own loud o σ σ1) : ∃ x hp nx, σ1 = St.put ⟨σ.env, hp, nx⟩ o.dst x ∧ ∀ env', Alike all o σ.env env' → outc T Γ all own loud o { σ with env := env' } (St.put ⟨env', hp, nx⟩ o.dst x) := by
  unfold outc at h
  split at h
  · rename_i hg
    unfold runs at h
    split at h
    · rename_i g s xs hco
      obtain ⟨r, x, σ', h1, h2, h3⟩ := h
      obtain ⟨h4, h5⟩ := afterCall_env h2
      refine ⟨x, σ'.hp, σ'.nx, by rw [h3, ← h4], fun env' ha => ?_⟩
      unfold outc
      dsimp only
      rw [← ha.gate, hg]
      dsimp only
      unfold runs
      dsimp only
      rw [← callOf_congr (Γ := Γ) (T := T) ha.opds, hco]
      exact ⟨r, x, _, h1, h5 env', rfl⟩
    · rename_i hco
      split at h
      · split at h
        · rename_i φ x σ' h1
          obtain ⟨h2, h3⟩ := h
          have key : σ'.env = σ.env ∧ ∀ env', Alike all o σ.env env' → step1 T own o { σ with env := env' } = some (φ, x, { σ' with env := env' }) := by
            unfold step1 at h1 ⊢
            split at h1
            · rename_i p hp
              cases h1
              refine ⟨rfl, fun env' ha => ?_⟩
              dsimp only
              rw [← pstep_congr ha.opds, hp]
            · rename_i hp
              refine ⟨lstepB_env h1, fun env' ha => ?_⟩
              dsimp only
              rw [← pstep_congr ha.opds, hp]
              dsimp only
              rw [lstepB_congr (σ := σ) ha.opds, h1]
              rfl
          refine ⟨x, σ'.hp, σ'.nx, by rw [h3, ← key.1], fun env' ha => ?_⟩
          unfold outc
          dsimp only
          rw [← ha.gate, hg]
          dsimp only
          unfold runs
          dsimp only
          rw [← callOf_congr (Γ := Γ) (T := T) ha.opds, hco]
          dsimp only
          rw [key.2 env' ha]
          exact ⟨h2, rfl⟩
        · rename_i h1
          have key : ∀ env', Alike all o σ.env env' → step1 T own o { σ with env := env' } = none := fun env' ha => by
            unfold step1 at h1 ⊢
            split at h1
            · cases h1
            · rename_i hp
              dsimp only
              rw [← pstep_congr ha.opds, hp]
              dsimp only
              rw [lstepB_congr (σ := σ) ha.opds, h1]
              rfl
          obtain ⟨x, hp, nx, e1, _, e2⟩ := callL_env h
          refine ⟨x, hp, nx, e1, fun env' ha => ?_⟩
          unfold outc
          dsimp only
          rw [← ha.gate, hg]
          dsimp only
          unfold runs
          dsimp only
          rw [← callOf_congr (Γ := Γ) (T := T) ha.opds, hco]
          dsimp only
          rw [key env' ha]
          exact e2 env' ha.opds _ rfl
      · obtain ⟨φ, x, h1, h2, h3⟩ := h
        refine ⟨x, σ.hp, σ.nx, h3, fun env' ha => ?_⟩
        unfold outc
        dsimp only
        rw [← ha.gate, hg]
        dsimp only
        unfold runs
        dsimp only
        rw [← callOf_congr (Γ := Γ) (T := T) ha.opds, hco]
        exact ⟨φ, x, by rw [← pstep_congr ha.opds]; exact h1, h2, rfl⟩
  · rename_i hg
    refine ⟨.tup [], σ.hp, σ.nx, h, fun env' ha => ?_⟩
    unfold outc
    dsimp only
    rw [← ha.gate, hg]
  · exact h.elim

/-- Operations that may read what the frame owns, and turn nothing. -/
def rdOp (o : Oper) : Bool :=
  match o.op with
  | .load _ _ => true
  | .indexAddr _ _ _ => true
  | .call { callee := .builtin .len, args := _, argTypes := _ } => true
  | _ => false

theorem lstep_same {own : Bool} {o : Oper} {σ σ' : St} {φ : Option Prop} {x : AV} (hr : rdOp o = true) (h : lstep T own o σ = some (φ, x, σ')) : σ' = σ := by
  unfold rdOp at hr
  split at hr
  · rename_i t y ho
    unfold lstep at h; try simp only [spine_eq] at h
    rw [ho] at h
    dsimp only at h
    repeat' split at h
    all_goals first | (cases h; rfl) | cases h
  · rename_i t y i ho
    unfold lstep at h; try simp only [spine_eq] at h
    rw [ho] at h
    dsimp only at h
    repeat' split at h
    all_goals first | (cases h; rfl) | cases h
  · rename_i args ts ho
    unfold lstep at h; try simp only [spine_eq] at h
    rw [ho] at h
    dsimp only at h
    repeat' split at h
    all_goals first | (cases h; rfl) | cases h
  · cases hr

theorem lstepB_same {own : Bool} {o : Oper} {σ σ' : St} {φ : Option Prop} {x : AV} (hr : rdOp o = true) (h : lstepB T own o σ = some (φ, x, σ')) : σ' = σ := by
  unfold lstepB at h
  split at h
  · rename_i hl
    cases h
    exact lstep_same hr hl
  unfold rdOp at hr
  split at hr
  · rename_i t y ho
    unfold lstepA at h
    rw [ho] at h
    cases h
  · rename_i t y i ho
    unfold lstepA at h
    rw [ho] at h
    dsimp only at h
    repeat' split at h
    all_goals first | (cases h; rfl) | cases h
  · rename_i args ts ho
    unfold lstepA at h
    rw [ho] at h
    dsimp only at h
    repeat' split at h
    all_goals first | (cases h; rfl) | cases h
  · cases hr

theorem loadL_same {o : Oper} {σ : St} {K : AV → St → Prop} (h : loadL T o σ K) : ∃ x, K x σ := by
  unfold loadL at h
  repeat' split at h
  all_goals first | exact h.elim | skip
  all_goals
    obtain ⟨_, row, _, h⟩ := h
    split at h
    · exact ⟨_, h⟩
    · exact h.elim

theorem reads_same {all : List Oper} {own : Bool} {o : Oper} {σ σ1 : St} (hr : rdOp o = true) (h : outc T Γ all own true o σ σ1) : σ1.hp = σ.hp ∧ σ1.nx = σ.nx := by
  have hput : ∀ (σ : St) (d : Option Nat) (x : AV), (σ.put d x).hp = σ.hp ∧ (σ.put d x).nx = σ.nx := fun σ d x => by cases d <;> exact ⟨rfl, rfl⟩
  have hco : callOf T Γ o σ.env = none ∧ rawCall T o σ.env = none := by
    unfold rdOp at hr
    split at hr
    · rename_i ho; unfold callOf rawCall; rw [ho]; exact ⟨rfl, rfl⟩
    · rename_i ho; unfold callOf rawCall; rw [ho]; exact ⟨rfl, rfl⟩
    · rename_i ho; unfold callOf rawCall; rw [ho]; exact ⟨rfl, rfl⟩
    · cases hr
  unfold outc at h
  split at h
  · unfold runs at h
    rw [hco.1] at h
    dsimp only at h
    split at h
    · rename_i φ x σ' hs
      obtain ⟨_, rfl⟩ := h
      unfold step1 at hs
      split at hs
      · cases hs; exact hput _ _ _
      · rw [lstepB_same hr hs]; exact hput _ _ _
    · unfold callL at h
      rw [hco.2] at h
      obtain ⟨x, rfl⟩ := loadL_same h
      exact hput _ _ _
  · subst h; exact hput _ _ _
  · exact h.elim

theorem put_nx (σ : St) (d : Option Nat) (x : AV) : (σ.put d x).nx = σ.nx := by cases d <;> rfl
theorem put_hp (σ : St) (d : Option Nat) (x : AV) : (σ.put d x).hp = σ.hp := by cases d <;> rfl
theorem put_env2 (env : Nat → AV) (hp hp' : Nat → Option Ob) (nx nx' : Nat) (d : Option Nat) (x : AV) : (St.put ⟨env, hp, nx⟩ d x).env = (St.put ⟨env, hp', nx'⟩ d x).env := by cases d <;> rfl
theorem outc_nx {all : List Oper} {own loud : Bool} {o : Oper} {σ σ1 : St} (h : outc T Γ all own loud o σ σ1) : σ.nx ≤ σ1.nx := by
  unfold outc at h
  split at h
  · unfold runs at h
    split at h
    · obtain ⟨r, x, σ', _, h2, rfl⟩ := h
      rw [put_nx]; exact afterCall_nx h2
    · split at h
      · split at h
        · rename_i φ x σ' hs
          obtain ⟨_, rfl⟩ := h
          rw [put_nx]
          unfold step1 at hs
          split at hs
          · cases hs; exact Nat.le_refl _
          · exact lstepB_nx hs
        · obtain ⟨x, hp, nx, e1, e2, _⟩ := callL_env h
          rw [e1, put_nx]; exact e2
      · obtain ⟨φ, x, _, _, rfl⟩ := h
        rw [put_nx]; exact Nat.le_refl _
  · subst h; rw [put_nx]; exact Nat.le_refl _
  · exact h.elim
/-- A reference to no object, or to one below n. -/
def oldAV (n : Nat) : AV → Bool
  | .op k _ => Nat.blt k n
  | .orow k => Nat.blt k n
  | .rp k _ _ _ => Nat.blt k n
  | _ => true
/-- Operations that read objects below n only. -/
def rdOld (T : Nat → Option TI) (n : Nat) (o : Oper) (env : Nat → AV) : Bool :=
  match o.op with
  | .load _ x => oldAV n (opd T env 0 x)
  | .indexAddr t x _ => oldAV n (opd T env t x)
  | .call { callee := .builtin .len, args := args, argTypes := ts } => match args.toList, ts.toList with
    | [x], [t] => oldAV n (opd T env t x)
    | _, _ => true
  | _ => false
theorem rdOld_congr {n : Nat} {o : Oper} (h : ∀ x ∈ o.op.operands, ∀ ty, opd T env ty x = opd T env' ty x) : rdOld T n o env = rdOld T n o env' := by
  unfold rdOld
  cases hop : o.op <;> rw [hop] at h <;> simp only [Op.operands] at h <;> (try dsimp only) <;> try rfl
  case load t x => rw [h x (by simp)]
  case indexAddr t x i => rw [h x (by simp)]
  case call c =>
    obtain ⟨callee, args, ts⟩ := c
    have ha : ∀ x ∈ args.toList, ∀ ty, opd T env ty x = opd T env' ty x := fun x hx => h x (by simp [Call.operands]; exact .inr (by simpa using hx))
    cases callee with
    | builtin b =>
      cases b <;> try rfl
      dsimp only
      split
      · rename_i x t e1 e2
        rw [ha x (by rw [e1]; simp)]
      · rfl
    | value f => rfl
    | invoke r m => rfl
theorem rd_step {own : Bool} {o : Oper} {n : Nat} {hp hp' : Nat → Option Ob} {nx nx' : Nat} {φ : Option Prop} {x : AV} {σ' : St} (hr : rdOp o = true) (ho : rdOld T n o env = true) (hh : ∀ k, k < n → hp' k = hp k)
    (hs : lstepB T own o ⟨env, hp, nx⟩ = some (φ, x, σ')) : lstepB T own o ⟨env, hp', nx'⟩ = some (φ, x, ⟨env, hp', nx'⟩) := by
  have hlt : ∀ {k}, Nat.blt k n = true → hp' k = hp k := fun {k} h => hh k (Nat.lt_of_lt_of_le (Nat.lt_succ_self k) (Nat.le_of_ble_eq_true h))
  have hsame := lstepB_same hr hs
  subst hsame
  unfold rdOp at hr
  unfold rdOld at ho
  unfold lstepB lstep lstepA at hs ⊢
  split at hr
  · rename_i t y hop
    rw [hop] at ho hs ⊢
    dsimp only at ho hs ⊢
    cases e : opd T env 0 y <;> rw [e] at hs ho
    case op k off =>
      dsimp only at hs ho ⊢
      simp only [oldAV] at ho
      rw [hlt ho]
      revert hs
      cases hp k with
      | none => intro hs; cases hs
      | some ob =>
        cases ob with
        | box bt cells =>
          cases T t with
          | none => intro hs; cases hs
          | some i =>
            dsimp only
            cases i.k.agg <;> dsimp only
            · cases cells[off]? <;> (intro hs; cases hs) <;> rfl
            · cases Nat.ble (off + i.size) cells.length <;> (intro hs; cases hs) <;> rfl
        | row => intro hs; cases hs
        | arow => intro hs; cases hs
    all_goals ((try dsimp only at hs); cases hs)
  · rename_i t y i hop
    rw [hop] at ho hs ⊢
    dsimp only at ho hs ⊢
    cases e : opd T env t y <;> rw [e] at hs ho
    case orow k =>
      simp only [oldAV] at ho
      revert hs
      cases elemOf T t with
      | none => intro hs; cases hs
      | some p =>
        obtain ⟨_, j⟩ := p
        cases opd T env 0 i with
        | s s =>
          cases s with
          | int kk m =>
            dsimp only
            rw [hlt ho]
            cases hp k with
            | none => intro hs; cases hs
            | some ob =>
              cases ob with
              | box => intro hs; cases hs
              | row e sz rows => dsimp only; cases Nat.beq sz j.size <;> (intro hs; cases hs) <;> rfl
              | arow e sz rows => dsimp only; cases Nat.beq sz j.size <;> (intro hs; cases hs) <;> rfl
          | _ => intro hs; cases hs
        | _ => intro hs; cases hs
    all_goals
      revert hs
      cases elemOf T t with
      | none => intro hs; cases hs
      | some p =>
        obtain ⟨_, j⟩ := p
        cases opd T env 0 i with
        | s s => cases s <;> (try dsimp only) <;> (intro hs; cases hs)
        | _ => intro hs; cases hs
  · rename_i args ts hop
    rw [hop] at ho hs ⊢
    dsimp only at ho hs ⊢
    revert hs ho
    cases args.toList with
    | nil => dsimp only; (intro h1 h2; first | exact absurd h1 (by simp) | exact absurd h2 (by simp))
    | cons y l =>
      cases l with
      | cons _ _ => dsimp only; (intro h1 h2; first | exact absurd h1 (by simp) | exact absurd h2 (by simp))
      | nil =>
        cases ts.toList with
        | nil => dsimp only; (intro h1 h2; first | exact absurd h1 (by simp) | exact absurd h2 (by simp))
        | cons t l =>
          cases l with
          | cons _ _ => dsimp only; (intro h1 h2; first | exact absurd h1 (by simp) | exact absurd h2 (by simp))
          | nil =>
            dsimp only
            cases tk T t with
            | slice e =>
              cases opd T env t y with
              | orow k =>
                dsimp only
                intro hs ho
                simp only [oldAV] at ho
                rw [hlt ho]
                revert hs
                cases hp k with
                | none => dsimp only; intro hs; cases hs
                | some ob => cases ob <;> dsimp only <;> (intro hs; cases hs) <;> rfl
              | _ => dsimp only; intro hs; cases hs
            | _ => dsimp only; intro hs; cases hs
  · cases hr
theorem rd_loadL {o : Oper} {n : Nat} {hp hp' : Nat → Option Ob} {nx nx' : Nat} {K : AV → St → Prop} (ho : rdOld T n o env = true) (hh : ∀ k, k < n → hp' k = hp k) (h : loadL T o ⟨env, hp, nx⟩ K) :
    ∃ x, K x ⟨env, hp, nx⟩ ∧ ∀ K' : AV → St → Prop, K' x ⟨env, hp', nx'⟩ → loadL T o ⟨env, hp', nx'⟩ K' := by
  have hlt : ∀ {k}, Nat.blt k n = true → hp' k = hp k := fun {k} h => hh k (Nat.lt_of_lt_of_le (Nat.lt_succ_self k) (Nat.le_of_ble_eq_true h))
  unfold rdOld at ho
  unfold loadL at h ⊢
  split at h
  · rename_i t y hop
    rw [hop] at ho
    dsimp only at ho h ⊢
    cases e : opd T env 0 y <;> rw [e] at h ho <;> dsimp only at h ho ⊢ <;> try (exact h.elim)
    simp only [oldAV] at ho
    rw [hlt ho]
    revert h
    cases hp _ with
    | none => intro h; exact h.elim
    | some ob =>
      cases ob with
      | box => intro h; exact h.elim
      | row e2 sz rows =>
        dsimp only
        cases Nat.beq _ sz with
        | false => intro h; exact h.elim
        | true =>
          dsimp only
          rintro ⟨h1, row, h2, h3⟩
          cases hl : loadS T t (row.drop _) with
          | none => rw [hl] at h3; exact h3.elim
          | some c =>
            rw [hl] at h3
            exact ⟨c, h3, fun K' hk => ⟨h1, row, h2, by rw [hl]; exact hk⟩⟩
      | arow e2 sz rows =>
        dsimp only
        cases Nat.beq _ sz with
        | false => intro h; exact h.elim
        | true =>
          dsimp only
          rintro ⟨h1, row, h2, h3⟩
          cases hl : loadA T t (row.drop _) with
          | none => rw [hl] at h3; exact h3.elim
          | some c =>
            rw [hl] at h3
            exact ⟨c, h3, fun K' hk => ⟨h1, row, h2, by rw [hl]; exact hk⟩⟩
  · exact h.elim
/-- An operation that reads objects below n does the same over another heap that agrees there. -/
theorem rd_heap {all : List Oper} {own : Bool} {o : Oper} {n : Nat} {hp hp' : Nat → Option Ob} {nx nx' : Nat} {σ1 : St} (hr : rdOp o = true) (ho : rdOld T n o env = true) (hh : ∀ k, k < n → hp' k = hp k) (hn : ∀ k, ∀ (h : hp k = none), k < n → hp' k = none) (h : outc T Γ all own true o ⟨env, hp, nx⟩ σ1)
    (hboth : ∀ (r : Option Prop × AV × St), lstepB T own o ⟨env, hp', nx'⟩ = some r → ∃ r', lstepB T own o ⟨env, hp, nx⟩ = some r') :
    ∃ y, σ1 = St.put ⟨env, hp, nx⟩ o.dst y ∧ outc T Γ all own true o ⟨env, hp', nx'⟩ (St.put ⟨env, hp', nx'⟩ o.dst y) := by
  have hco : callOf T Γ o env = none ∧ rawCall T o env = none := by
    unfold rdOp at hr
    split at hr
    · rename_i ho; unfold callOf rawCall; rw [ho]; exact ⟨rfl, rfl⟩
    · rename_i ho; unfold callOf rawCall; rw [ho]; exact ⟨rfl, rfl⟩
    · rename_i ho; unfold callOf rawCall; rw [ho]; exact ⟨rfl, rfl⟩
    · cases hr
  unfold outc at h
  dsimp only at h
  split at h
  · rename_i hg
    unfold runs at h
    dsimp only at h
    rw [hco.1] at h
    dsimp only at h
    split at h
    · rename_i φ x σ' hs
      obtain ⟨h2, rfl⟩ := h
      have : σ' = ⟨env, hp, nx⟩ ∧ step1 T own o ⟨env, hp', nx'⟩ = some (φ, x, ⟨env, hp', nx'⟩) := by
        unfold step1 at hs ⊢
        dsimp only at hs ⊢
        split at hs
        · cases hs; exact ⟨rfl, rfl⟩
        · exact ⟨lstepB_same hr hs, rd_step hr ho hh hs⟩
      obtain ⟨rfl, h3⟩ := this
      refine ⟨x, rfl, ?_⟩
      unfold outc
      dsimp only
      rw [hg]
      dsimp only
      unfold runs
      dsimp only
      rw [hco.1]
      dsimp only
      rw [h3]
      exact ⟨h2, rfl⟩
    · rename_i hs
      have h3 : step1 T own o ⟨env, hp', nx'⟩ = none := by
        unfold step1 at hs ⊢
        dsimp only at hs ⊢
        split at hs
        · cases hs
        · cases hq : lstepB T own o ⟨env, hp', nx'⟩ with
          | none => rfl
          | some r =>
            obtain ⟨r', hr'⟩ := hboth r hq
            rw [hr'] at hs; cases hs
      unfold callL at h
      dsimp only at h
      rw [hco.2] at h
      dsimp only at h
      obtain ⟨x, rfl, hx⟩ := rd_loadL (nx' := nx') ho hh h
      refine ⟨x, rfl, ?_⟩
      unfold outc
      dsimp only
      rw [hg]
      dsimp only
      unfold runs
      dsimp only
      rw [hco.1]
      dsimp only
      rw [h3]
      dsimp only
      unfold callL
      dsimp only
      rw [hco.2]
      exact hx _ rfl
  · rename_i hg
    subst h
    refine ⟨.tup [], rfl, ?_⟩
    unfold outc
    dsimp only
    rw [hg]
  · exact h.elim
theorem rd_heap2 {all : List Oper} {own : Bool} {o : Oper} {n : Nat} {hp hp' : Nat → Option Ob} {nx nx' : Nat} {σ1 : St} (hr : rdOp o = true) (ho : rdOld T n o env = true) (hh : ∀ k, k < n → hp' k = hp k) (h : outc T Γ all own true o ⟨env, hp, nx⟩ σ1) :
    ∃ y, σ1 = St.put ⟨env, hp, nx⟩ o.dst y ∧ outc T Γ all own true o ⟨env, hp', nx'⟩ (St.put ⟨env, hp', nx'⟩ o.dst y) :=
  rd_heap hr ho hh (fun k h hk => by rw [hh k hk]; exact h) h fun ⟨φ, x, σ'⟩ hq => ⟨_, rd_step (nx' := nx) hr ho (fun k hk => (hh k hk).symm) hq⟩

/-- Operations that make an object and look at none. -/
def mkOp (o : Oper) : Bool :=
  match o.op with
  | .alloc _ => true
  | .makeSlice _ _ _ => true
  | .box _ _ => true
  | .buildSlice _ _ _ => true
  | _ => false
theorem lstep_mk {own : Bool} {o : Oper} {σ σ' : St} {φ : Option Prop} {x : AV} (hm : mkOp o = true) (h : lstep T own o σ = some (φ, x, σ')) : ∃ ob, σ' = addOb σ ob := by
  unfold lstep at h
  simp only [spine_eq] at h
  unfold mkOp at hm
  split at hm
  · rename_i hop
    rw [hop] at h
    dsimp only at h
    repeat' split at h
    all_goals first | (cases h; exact ⟨_, rfl⟩) | cases h
  · rename_i hop
    rw [hop] at h
    dsimp only at h
    repeat' split at h
    all_goals first | (cases h; exact ⟨_, rfl⟩) | cases h
  · rename_i hop
    rw [hop] at h
    dsimp only at h
    repeat' split at h
    all_goals first | (cases h; exact ⟨_, rfl⟩) | cases h
  · rename_i hop
    rw [hop] at h
    dsimp only at h
    repeat' split at h
    all_goals first | (cases h; exact ⟨_, rfl⟩) | cases h
  · cases hm
theorem lstepA_mk {o : Oper} {σ σ' : St} {φ : Option Prop} {x : AV} (hm : mkOp o = true) (h : lstepA T o σ = some (φ, x, σ')) : ∃ ob, σ' = addOb σ ob := by
  unfold lstepA at h
  unfold mkOp at hm
  split at hm
  · rename_i hop
    rw [hop] at h
    dsimp only at h
    repeat' split at h
    all_goals first | (cases h; exact ⟨_, rfl⟩) | cases h
  · rename_i hop
    rw [hop] at h
    dsimp only at h
    repeat' split at h
    all_goals first | (cases h; exact ⟨_, rfl⟩) | cases h
  · rename_i hop
    rw [hop] at h
    dsimp only at h
    repeat' split at h
    all_goals first | (cases h; exact ⟨_, rfl⟩) | cases h
  · rename_i hop
    rw [hop] at h
    dsimp only at h
    repeat' split at h
    all_goals first | (cases h; exact ⟨_, rfl⟩) | cases h
  · cases hm
theorem lstepB_mk {own : Bool} {o : Oper} {σ σ' : St} {φ : Option Prop} {x : AV} (hm : mkOp o = true) (h : lstepB T own o σ = some (φ, x, σ')) : ∃ ob, σ' = addOb σ ob := by
  unfold lstepB at h
  split at h
  · rename_i hl
    cases h
    exact lstep_mk hm hl
  · exact lstepA_mk hm h
theorem mk_heap {all : List Oper} {own : Bool} {o : Oper} {σ σ1 : St} (hm : mkOp o = true) (h : outc T Γ all own true o σ σ1) : ∀ k, k < σ.nx → σ1.hp k = σ.hp k := fun k hk => by
  have hadd : ∀ ob, (addOb σ ob).hp k = σ.hp k := fun ob => by
    show (bif Nat.beq k σ.nx then _ else σ.hp k) = σ.hp k
    have : Nat.beq k σ.nx = false := by
      cases e : Nat.beq k σ.nx with
      | false => rfl
      | true => have := Nat.eq_of_beq_eq_true e; omega
    rw [this]; rfl
  have hc : callOf T Γ o σ.env = none ∧ rawCall T o σ.env = none ∧ ∀ K, ¬ loadL T o σ K := by
    unfold mkOp at hm
    split at hm <;> first | (rename_i hop; unfold callOf rawCall; rw [hop]; exact ⟨rfl, rfl, fun K h => by unfold loadL at h; rw [hop] at h; exact h⟩) | cases hm
  unfold outc at h
  split at h
  · unfold runs at h
    rw [hc.1] at h
    dsimp only at h
    split at h
    · rename_i φ x σ' hs
      obtain ⟨_, rfl⟩ := h
      rw [put_hp]
      unfold step1 at hs
      split at hs
      · cases hs; rfl
      · obtain ⟨ob, rfl⟩ := lstepB_mk hm hs
        exact hadd ob
    · unfold callL at h
      rw [hc.2.1] at h
      exact (hc.2.2 _ h).elim
  · subst h; rw [put_hp]
  · exact h.elim

/-- TWO OPERATIONS APART, NOT BOTH LOUD, MAY CHANGE PLACES; so may two that only read, and a new object and a look at an old one. -/
theorem outc_comm {all : List Oper} {oi oj : Oper} {owi owj li lj : Bool} {n : Nat} {σ σi σij : St} (hn : n ≤ σ.nx) (hap : oi.apart all.toArray oj = true) (hl : li = false ∨ lj = false ∨ (rdOp oi = true ∧ rdOp oj = true) ∨
      (mkOp oi = true ∧ rdOp oj = true ∧ rdOld T n oj σi.env = true) ∨ (rdOp oi = true ∧ mkOp oj = true ∧ rdOld T n oi σ.env = true))
    (h1 : outc T Γ all owi li oi σ σi) (h2 : outc T Γ all owj lj oj σi σij) : ∃ σj, outc T Γ all owj lj oj σ σj ∧ outc T Γ all owi li oi σj σij := by
  obtain ⟨a1, a2, a3⟩ := Oper.apart_spec hap
  have hl' : li = false ∨ lj = false ∨ (li = true ∧ lj = true ∧ ((rdOp oi = true ∧ rdOp oj = true) ∨
      (mkOp oi = true ∧ rdOp oj = true ∧ rdOld T n oj σi.env = true) ∨ (rdOp oi = true ∧ mkOp oj = true ∧ rdOld T n oi σ.env = true))) := by
    cases li with
    | false => exact .inl rfl
    | true =>
      cases lj with
      | false => exact .inr (.inl rfl)
      | true => rcases hl with h | h | h
                · cases h
                · cases h
                · exact .inr (.inr ⟨rfl, rfl, h⟩)
  rcases hl' with rfl | rfl | ⟨rfl, rfl, ⟨r1, r2⟩ | ⟨r1, r2, r3⟩ | ⟨r1, r2, r3⟩⟩
  · obtain ⟨x, rfl, hq⟩ := quiet_out h1
    obtain ⟨y, hp, nx, rfl, hy⟩ := loud_out h2
    have hb := hy σ.env (Alike.put a1)
    have e : ({ (σ.put oi.dst x) with env := σ.env } : St) = σ := by cases oi.dst <;> rfl
    rw [e] at hb
    refine ⟨_, hb, ?_⟩
    have := hq (St.put ⟨σ.env, hp, nx⟩ oj.dst y) (fun t ht => (Alike.put (σ := ⟨σ.env, hp, nx⟩) (x := y) a3 t ht).symm)
    rw [put_comm (fun t ht => fun e => a2 t e ht)] at this
    have e2 : St.put ⟨σ.env, hp, nx⟩ oi.dst x = ⟨(σ.put oi.dst x).env, hp, nx⟩ := by cases oi.dst <;> rfl
    rw [e2] at this
    exact this
  · obtain ⟨x, hp, nx, rfl, hx⟩ := loud_out h1
    obtain ⟨y, rfl, hq⟩ := quiet_out h2
    refine ⟨_, hq σ (fun t ht => Alike.put (σ := ⟨σ.env, hp, nx⟩) (x := x) a1 t ht), ?_⟩
    have := hx (σ.put oj.dst y).env (fun t ht => (Alike.put a3 t ht).symm)
    have e1 : ({ σ with env := (σ.put oj.dst y).env } : St) = σ.put oj.dst y := by cases oj.dst <;> rfl
    rw [e1] at this
    have e2 : (⟨(σ.put oj.dst y).env, hp, nx⟩ : St) = St.put ⟨σ.env, hp, nx⟩ oj.dst y := by cases oj.dst <;> rfl
    rw [e2, put_comm (fun t ht => fun e => a2 t e ht)] at this
    exact this
  · have s1 := reads_same r1 h1
    have s2 := reads_same r2 h2
    obtain ⟨x, hp, nx, rfl, hx⟩ := loud_out h1
    obtain ⟨y, hp2, nx2, rfl, hy⟩ := loud_out h2
    have f1 : hp = σ.hp ∧ nx = σ.nx := by cases h : oi.dst <;> (rw [h] at s1; exact s1)
    obtain ⟨rfl, rfl⟩ := f1
    have f2 : hp2 = σ.hp ∧ nx2 = σ.nx := by cases h : oi.dst <;> cases h' : oj.dst <;> (rw [h, h'] at s2; exact s2)
    obtain ⟨rfl, rfl⟩ := f2
    have hb := hy σ.env (Alike.put a1)
    have e : ({ St.put ⟨σ.env, σ.hp, σ.nx⟩ oi.dst x with env := σ.env } : St) = σ := by cases oi.dst <;> rfl
    rw [e] at hb
    refine ⟨_, hb, ?_⟩
    have := hx (σ.put oj.dst y).env (fun t ht => (Alike.put a3 t ht).symm)
    have e1 : (⟨(σ.put oj.dst y).env, σ.hp, σ.nx⟩ : St) = St.put ⟨σ.env, σ.hp, σ.nx⟩ oj.dst y := by cases oj.dst <;> rfl
    have e3 : St.put ⟨σ.env, σ.hp, σ.nx⟩ oi.dst x = ⟨(St.put ⟨σ.env, σ.hp, σ.nx⟩ oi.dst x).env, σ.hp, σ.nx⟩ := by cases oi.dst <;> rfl
    have key : St.put (St.put ⟨σ.env, σ.hp, σ.nx⟩ oj.dst y) oi.dst x = St.put ⟨(St.put ⟨σ.env, σ.hp, σ.nx⟩ oi.dst x).env, σ.hp, σ.nx⟩ oj.dst y := by
      rw [put_comm (fun t ht => fun e => a2 t e ht), ← e3]
    rw [← key]
    have e4 : outc T Γ all owi true oi (⟨(σ.put oj.dst y).env, σ.hp, σ.nx⟩ : St) (St.put ⟨(σ.put oj.dst y).env, σ.hp, σ.nx⟩ oi.dst x) := this
    rw [e1] at e4
    exact e4
  · have m1 := mk_heap r1 h1
    have s2 := reads_same r2 h2
    obtain ⟨x, hp, nx, rfl, hx⟩ := loud_out h1
    obtain ⟨y, hp2, nx2, rfl, hy⟩ := loud_out h2
    rw [put_hp] at m1
    have f2 : hp2 = hp ∧ nx2 = nx := by
      rw [put_hp, put_nx, put_hp, put_nx] at s2; exact s2
    obtain ⟨rfl, rfl⟩ := f2
    have hb := hy σ.env (Alike.put a1)
    have e : ({ St.put ⟨σ.env, hp2, nx2⟩ oi.dst x with env := σ.env } : St) = ⟨σ.env, hp2, nx2⟩ := by cases oi.dst <;> rfl
    rw [e] at hb
    have hal : Alike all oj (St.put ⟨σ.env, hp2, nx2⟩ oi.dst x).env σ.env := Alike.put a1
    have r3' : rdOld T n oj σ.env = true := by rw [← rdOld_congr (n := n) hal.opds]; exact r3
    obtain ⟨y', ey, hb'⟩ := rd_heap2 (hp' := σ.hp) (nx' := σ.nx) r2 r3' (fun k hk => (m1 k (Nat.lt_of_lt_of_le hk hn)).symm) hb
    refine ⟨_, hb', ?_⟩
    have h3 := hx (σ.put oj.dst y').env (fun t ht => (Alike.put a3 t ht).symm)
    have e1 : ({ σ with env := (σ.put oj.dst y').env } : St) = σ.put oj.dst y' := by cases oj.dst <;> rfl
    rw [e1] at h3
    have e2 : (⟨(σ.put oj.dst y').env, hp2, nx2⟩ : St) = St.put ⟨σ.env, hp2, nx2⟩ oj.dst y' := by cases oj.dst <;> rfl
    rw [e2, put_comm (fun t ht => fun e => a2 t e ht)] at h3
    have e3 : St.put (St.put ⟨σ.env, hp2, nx2⟩ oi.dst x) oj.dst y' = St.put ⟨(St.put ⟨σ.env, hp2, nx2⟩ oi.dst x).env, hp2, nx2⟩ oj.dst y := by
      have e5 : (⟨(St.put ⟨σ.env, hp2, nx2⟩ oi.dst x).env, hp2, nx2⟩ : St) = St.put ⟨σ.env, hp2, nx2⟩ oi.dst x := by cases oi.dst <;> rfl
      rw [e5, put_comm (σ := ⟨σ.env, hp2, nx2⟩) (d := oi.dst) (e := oj.dst) (x := x) (y := y') (fun t ht => a2 t ht), put_comm (σ := ⟨σ.env, hp2, nx2⟩) (d := oi.dst) (e := oj.dst) (x := x) (y := y) (fun t ht => a2 t ht), ey]
    rw [e3] at h3
    exact h3
  · have s1 := reads_same r1 h1
    have m2 := mk_heap r2 h2
    obtain ⟨x, hp, nx, rfl, hx⟩ := loud_out h1
    obtain ⟨y, hp2, nx2, rfl, hy⟩ := loud_out h2
    rw [put_hp, put_nx] at s1
    obtain ⟨rfl, rfl⟩ := s1
    rw [put_hp, put_hp, put_nx] at m2
    have hb := hy σ.env (Alike.put a1)
    have e : ({ St.put ⟨σ.env, σ.hp, σ.nx⟩ oi.dst x with env := σ.env } : St) = σ := by cases oi.dst <;> rfl
    rw [e] at hb
    refine ⟨_, hb, ?_⟩
    have hal : Alike all oi σ.env (St.put ⟨σ.env, hp2, nx2⟩ oj.dst y).env := fun t ht => (Alike.put (σ := ⟨σ.env, hp2, nx2⟩) (x := y) a3 t ht).symm
    have r3' : rdOld T n oi (St.put ⟨σ.env, hp2, nx2⟩ oj.dst y).env = true := by rw [← rdOld_congr (n := n) hal.opds]; exact r3
    have h1' := hx _ hal
    have e6 : ({ σ with env := (St.put ⟨σ.env, hp2, nx2⟩ oj.dst y).env } : St) = ⟨(St.put ⟨σ.env, hp2, nx2⟩ oj.dst y).env, σ.hp, σ.nx⟩ := rfl
    rw [e6] at h1'
    obtain ⟨x', ex, h3⟩ := rd_heap2 (hp' := hp2) (nx' := nx2) r1 r3' (fun k hk => m2 k (Nat.lt_of_lt_of_le hk hn)) h1'
    have e7 : (⟨(St.put ⟨σ.env, hp2, nx2⟩ oj.dst y).env, hp2, nx2⟩ : St) = St.put ⟨σ.env, hp2, nx2⟩ oj.dst y := by cases oj.dst <;> rfl
    rw [e7] at h3
    have e8 : St.put (St.put ⟨σ.env, hp2, nx2⟩ oj.dst y) oi.dst x' = St.put ⟨(St.put ⟨σ.env, σ.hp, σ.nx⟩ oi.dst x).env, hp2, nx2⟩ oj.dst y := by
      have e9 : (⟨(St.put ⟨σ.env, σ.hp, σ.nx⟩ oi.dst x).env, hp2, nx2⟩ : St) = St.put ⟨σ.env, hp2, nx2⟩ oi.dst x := by cases oi.dst <;> rfl
      rw [e9, ← put_comm (σ := ⟨σ.env, hp2, nx2⟩) (d := oj.dst) (e := oi.dst) (x := y) (y := x) (fun t ht => fun e => a2 t e ht)]
      cases hd : oi.dst with
      | none => rfl
      | some d =>
        rw [hd] at ex
        have e10 : x = x' := by
          have := congrArg (fun s : St => s.env d) ex
          simpa [St.put, Nat.beq_refl] using this
        rw [e10]
    rw [e8] at h3
    exact h3

/-- Operation number i comes up. -/
def aOp (T : Nat → Option TI) (Γ : Nat → Option PSpec) (M L Ro : List Nat) (n : Nat) (ops : List Oper) (i : Nat) (K : St → Prop) (σ : St) : Prop :=
  match ops[i]? with
  | none => K σ
  | some o => ∃ σ1, outc T Γ ops (dIn o.dst M) (inL i L) o σ σ1 ∧ (inL i Ro = true → rdOld T n o σ.env = true) ∧ K σ1

/-- Whatever order is picked from here on. -/
def aAny (T : Nat → Option TI) (Γ : Nat → Option PSpec) (M L Ro : List Nat) (n : Nat) (ops : List Oper) (Q : St → Prop) : Nat → Array Bool → St → Prop
  | 0, listed, σ => Region.ready .any ops.toArray listed = [] ∧ Q σ
  | fuel + 1, listed, σ =>
    (Region.ready .any ops.toArray listed = [] → Q σ) ∧
    ∀ i ∈ Region.ready .any ops.toArray listed, aOp T Γ M L Ro n ops i (aAny T Γ M L Ro n ops Q fuel (listed.setIfInBounds i true)) σ

theorem outc_alike {all : List Oper} {own loud : Bool} {o o' : Oper} {σ σ1 : St} (hd : ∀ t, o.dst = some t → t ∉ o'.looksAt all.toArray) (h : outc T Γ all own loud o σ σ1) : Alike all o' σ1.env σ.env := by
  obtain ⟨x, hp, nx, rfl, _⟩ := loud_out h
  intro t ht
  exact Alike.put (σ := ⟨σ.env, hp, nx⟩) (x := x) hd t ht

theorem aAny_first {M L Ro : List Nat} {n : Nat} {ops : List Oper} {Q : St → Prop} {i : Nat} {oi : Oper} (hi : ops[i]? = some oi) {D : List Nat}
    (hD : ∀ d od, d ∈ D → d ≠ i → ops[d]? = some od → ∃ e ∈ od.after, Region.binds .any e = true ∧ e.on ∈ D) :
    ∀ (fuel : Nat) (listed : Array Bool) (σ σi : St), n ≤ σ.nx → (inL i Ro = true → rdOld T n oi σ.env = true) → (∀ d, d ∈ D → listed.getD d true = false) →
      (∀ j oj, ops[j]? = some oj → j ≠ i → listed.getD j true = false → j ∉ D → oi.apart ops.toArray oj = true ∧ (inL i L = false ∨ inL j L = false ∨ (rdOp oi = true ∧ rdOp oj = true) ∨ (mkOp oi = true ∧ rdOp oj = true ∧ inL j Ro = true) ∨ (rdOp oi = true ∧ mkOp oj = true ∧ inL i Ro = true))) →
      i ∈ Region.ready .any ops.toArray listed → outc T Γ ops (dIn oi.dst M) (inL i L) oi σ σi →
      aAny T Γ M L Ro n ops Q fuel (listed.setIfInBounds i true) σi → aAny T Γ M L Ro n ops Q (fuel + 1) listed σ := by
  intro fuel
  induction fuel with
  | zero =>
    intro listed σ σi _ hro _ _ hr ho H
    refine ⟨fun h => (by rw [h] at hr; cases hr), fun j hj => ?_⟩
    by_cases hji : j = i
    · subst hji; unfold aOp; rw [hi]; exact ⟨σi, ho, hro, H⟩
    · have := ready_mono hj hji
      rw [H.1] at this
      cases this
  | succ fuel ih =>
    intro listed σ σi hn hro hU hfree hr ho H
    refine ⟨fun h => (by rw [h] at hr; cases hr), fun j hj => ?_⟩
    by_cases hji : j = i
    · subst hji; unfold aOp; rw [hi]; exact ⟨σi, ho, hro, H⟩
    · have h1 := H.2 j (ready_mono hj hji)
      obtain ⟨hjun, oj, hoj, hall⟩ := mem_ready.1 hj
      have hoj' : ops[j]? = some oj := by simpa using hoj
      have hnot : j ∉ D := fun hjD => by
        obtain ⟨e, he, hb, heD⟩ := hD j oj hjD hji hoj'
        have h1 := hall e he hb
        have h0 := hU _ heD
        rcases Nat.lt_or_ge e.on listed.size with h' | h'
        · simp [h'] at h0 h1; rw [h0] at h1; cases h1
        · simp [Array.getElem?_eq_none h'] at h1
      unfold aOp at h1 ⊢
      rw [hoj'] at h1 ⊢
      obtain ⟨σij, h2, h2r, h3⟩ := h1
      obtain ⟨hap, hll⟩ := hfree j oj hoj' hji hjun hnot
      obtain ⟨σj, h4, h5⟩ := outc_comm (n := n) hn hap (by
        rcases hll with h | h | h | ⟨h, h', h''⟩ | ⟨h, h', h''⟩
        · exact .inl h
        · exact .inr (.inl h)
        · exact .inr (.inr (.inl h))
        · exact .inr (.inr (.inr (.inl ⟨h, h', h2r h''⟩)))
        · exact .inr (.inr (.inr (.inr ⟨h, h', hro h''⟩)))) ho h2
      obtain ⟨p1, p2, p3⟩ := Oper.apart_spec hap
      have al1 : Alike ops oj σi.env σ.env := outc_alike p1 ho
      have al2 : Alike ops oi σj.env σ.env := outc_alike p3 h4
      refine ⟨σj, h4, (fun h => by rw [← rdOld_congr (n := n) al1.opds]; exact h2r h), ih (listed.setIfInBounds j true) σj σij (Nat.le_trans hn (outc_nx h4)) (fun h => by rw [rdOld_congr (n := n) al2.opds]; exact hro h) (fun d hd => by rw [getD_set_ne true (fun e => hnot (by rw [e]; exact hd))]; exact hU d hd) (fun k ok hk hki hun hno => ?_) (ready_mono hr (Ne.symm hji)) h5 (by rw [Array.setIfInBounds_comm _ _ hji]; exact h3)⟩
      refine hfree k ok hk hki ?_ hno
      by_cases hjk : j = k
      · subst hjk; exact hjun
      · rw [getD_set_ne true hjk] at hun; exact hun

/-- The text's order. -/
def aLex (T : Nat → Option TI) (Γ : Nat → Option PSpec) (M L Ro : List Nat) (n : Nat) (all : List Oper) (Q : St → Prop) : List Oper → Nat → St → Prop
  | [], _, σ => Q σ
  | o :: os, k, σ => ∃ σ1, outc T Γ all (dIn o.dst M) (inL k L) o σ σ1 ∧ (inL k Ro = true → rdOld T n o σ.env = true) ∧ aLex T Γ M L Ro n all Q os (k + 1) σ1

/-- The operations that can't come before operation i. -/
def depL (ops : Array Oper) (i : Nat) : List Nat :=
  (List.range ops.size).foldl (fun acc j => match j == i || (match ops[j]? with | some oj => oj.after.any (fun e => Region.binds .any e && inL e.on acc) | none => false) with | true => j :: acc | false => acc) []
/-- Of the operations that may still come, those that may come before operation i are apart from it, and not both are loud (but for two that only read). -/
def freeD (ops : Array Oper) (L Ro : List Nat) (listed : Array Bool) (i : Nat) : Bool :=
  (depL ops i).all (fun d => !(listed.getD d true)) && (List.range ops.size).all fun j => j == i || listed.getD j true || inL j (depL ops i) || match ops[i]?, ops[j]? with
    | some oi, some oj => oi.apart ops oj && (!(inL i L) || !(inL j L) || (rdOp oi && rdOp oj) || (mkOp oi && rdOp oj && inL j Ro) || (rdOp oi && mkOp oj && inL i Ro))
    | _, _ => true

def lexD (ops : Array Oper) (L Ro : List Nat) : Nat → Nat → Array Bool → Bool
  | 0, _, listed => (Region.ready .any ops listed).isEmpty
  | fuel + 1, k, listed => (Region.ready .any ops listed).contains k && freeD ops L Ro listed k && lexD ops L Ro fuel (k + 1) (listed.setIfInBounds k true)

theorem inL_mem {t : Nat} : ∀ {l : List Nat}, inL t l = true ↔ t ∈ l
  | [] => by simp [inL]
  | x :: l => by
    simp only [inL, Bool.or_eq_true, List.mem_cons, inL_mem (l := l)]
    exact ⟨fun h => h.imp Nat.eq_of_beq_eq_true id, fun h => h.imp (fun e => by rw [e]; exact Nat.beq_refl _) id⟩
theorem depL_spec (ops : Array Oper) (i : Nat) : ∀ d od, d ∈ depL ops i → d ≠ i → ops[d]? = some od → ∃ e ∈ od.after, Region.binds .any e = true ∧ e.on ∈ depL ops i := by
  have key : ∀ (l : List Nat) (acc : List Nat), (∀ d od, d ∈ acc → d ≠ i → ops[d]? = some od → ∃ e ∈ od.after, Region.binds .any e = true ∧ e.on ∈ acc) →
      ∀ d od, d ∈ l.foldl (fun acc j => match j == i || (match ops[j]? with | some oj => oj.after.any (fun e => Region.binds .any e && inL e.on acc) | none => false) with | true => j :: acc | false => acc) acc → d ≠ i → ops[d]? = some od →
        ∃ e ∈ od.after, Region.binds .any e = true ∧ e.on ∈ l.foldl (fun acc j => match j == i || (match ops[j]? with | some oj => oj.after.any (fun e => Region.binds .any e && inL e.on acc) | none => false) with | true => j :: acc | false => acc) acc := by
    intro l
    induction l with
    | nil => intro acc h; exact h
    | cons j l ih =>
      intro acc h
      simp only [List.foldl_cons]
      refine ih _ ?_
      intro d od hd hne hod
      split at hd
      · rename_i hc
        rcases List.mem_cons.1 hd with rfl | hd
        · simp only [Bool.or_eq_true, beq_iff_eq, hne, false_or, hod] at hc
          obtain ⟨e, he, hb⟩ := Array.any_eq_true'.1 hc
          simp only [Bool.and_eq_true] at hb
          exact ⟨e, he, hb.1, List.mem_cons_of_mem _ (inL_mem.1 hb.2)⟩
        · obtain ⟨e, he, hb, hm⟩ := h d od hd hne hod
          exact ⟨e, he, hb, List.mem_cons_of_mem _ hm⟩
      · rename_i hc
        obtain ⟨e, he, hb, hm⟩ := h d od hd hne hod
        exact ⟨e, he, hb, hm⟩
  exact key _ [] (fun d od hd => by cases hd)
theorem freeD_spec {ops : Array Oper} {L Ro : List Nat} {listed : Array Bool} {i : Nat} (h : freeD ops L Ro listed i = true) : (∀ d, d ∈ depL ops i → listed.getD d true = false) ∧
    ∀ (j : Nat) (oj : Oper), ops[j]? = some oj → j ≠ i → listed.getD j true = false → j ∉ depL ops i → ∀ {oi : Oper}, ops[i]? = some oi → oi.apart ops oj = true ∧ (inL i L = false ∨ inL j L = false ∨ (rdOp oi = true ∧ rdOp oj = true) ∨ (mkOp oi = true ∧ rdOp oj = true ∧ inL j Ro = true) ∨ (rdOp oi = true ∧ mkOp oj = true ∧ inL i Ro = true)) := by
  unfold freeD at h
  simp only [Bool.and_eq_true, List.all_eq_true, List.mem_range] at h
  obtain ⟨h1, h2⟩ := h
  refine ⟨fun d hd => by simpa using h1 d hd, fun j oj hj hne hun hnd oi hoi => ?_⟩
  have h3 := h2 j (Array.getElem?_eq_some_iff.1 hj).1
  have hnl : inL j (depL ops i) = false := by
    cases e : inL j (depL ops i) with
    | false => rfl
    | true => exact absurd (inL_mem.1 e) hnd
  simp only [hj, hoi, Bool.or_eq_true, Bool.and_eq_true, beq_iff_eq, hne, false_or, hun, Bool.false_eq_true, Bool.not_eq_true', hnl] at h3
  refine ⟨h3.1, ?_⟩
  rcases h3.2 with (((h3 | h3) | h3) | h3) | h3
  · exact .inl h3
  · exact .inr (.inl h3)
  · exact .inr (.inr (.inl h3))
  · exact .inr (.inr (.inr (.inl ⟨h3.1.1, h3.1.2, h3.2⟩)))
  · exact .inr (.inr (.inr (.inr ⟨h3.1.1, h3.1.2, h3.2⟩)))

theorem aAny_lex {M L Ro : List Nat} {n : Nat} {ops : List Oper} {Q : St → Prop} : ∀ (l : List Oper) (k : Nat) (listed : Array Bool) (σ : St), n ≤ σ.nx → (∀ j, l[j]? = ops[k + j]?) →
    lexD ops.toArray L Ro l.length k listed = true → aLex T Γ M L Ro n ops Q l k σ → aAny T Γ M L Ro n ops Q l.length listed σ
  | [], _, _, _, _, _, hB, h => ⟨by simpa [lexD] using hB, h⟩
  | o :: l, k, listed, σ, hn, hl, hB, h => by
    have h0 : ops[k]? = some o := by simpa using (hl 0).symm
    have h0' : ops.toArray[k]? = some o := by simpa using h0
    simp only [List.length_cons, lexD, Bool.and_eq_true] at hB
    obtain ⟨⟨hr, hf⟩, hB'⟩ := hB
    obtain ⟨hf1, hf2⟩ := freeD_spec hf
    obtain ⟨σ1, h1, hro, h2⟩ := h
    exact aAny_first h0 (fun d od hd hne hod => depL_spec ops.toArray k d od hd hne (by simpa using hod)) l.length listed σ σ1 hn hro hf1 (fun j oj hj hne hun hno => hf2 j oj (by simpa using hj) hne hun hno h0') (by simpa using hr) h1
      (aAny_lex l (k + 1) _ σ1 (Nat.le_trans hn (outc_nx h1)) (fun j => by have := hl (j + 1); simpa [Nat.add_assoc, Nat.add_comm 1 j] using this) hB' h2)

/-- It is the model's. -/
theorem outc_sound {c : Cx} {G : Nat → Prop} {β : Nat → Value} {σ σ1 : St} {a : Act} {w : World} (hT : TOk c.P T) (hΓ : ∀ f s, Γ f = some s → PSound c.P f s) (hc : Conc c G β σ a w) {all : List Oper} {own loud : Bool} {o : Oper}
    (hN : ∀ (j g : Nat), (all[j]?).bind (fun o => o.dst) = some g → g < c.N) (hd : ∀ t, o.dst = some t → t < c.N) (h : outc T Γ all own loud o σ σ1) {K : Act → World → Prop} {Q : Exit → Act → World → Prop}
    (hK : ∀ G' β' a' w', Conc c G' β' σ1 a' w' → K a' w') :
    if Region.wanted o (yielded all.toArray a.tmps) then o.wp c.P a w K Q ∨ (o.asks c.P a w ∧ LetsOut Q) else K (a.put o.dst undef) w := by
  have hgate : ∀ b, gate all o σ.env = some b → Region.wanted o (yielded all.toArray a.tmps) = b := fun b hb => by
    unfold gate at hb
    cases hg : o.guard with
    | none => rw [hg] at hb; cases hb; simp [Region.wanted, hg]
    | some p =>
      obtain ⟨j, want⟩ := p
      rw [hg] at hb
      dsimp only at hb
      split at hb
      · rename_i g hj
        split at hb
        · rename_i b' he
          cases hb
          have hj' : (all.toArray[j]?).bind (·.dst) = some g := by simpa using hj
          have hy := yielded_eq hc hj' (hN j g hj) he
          simp only [Region.wanted, hg, hy]
          cases b' <;> cases want <;> rfl
        · rename_i he
          cases hb
          have hj' : (all.toArray[j]?).bind (·.dst) = some g := by simpa using hj
          have hy := yielded_none hc hj' (hN j g hj) he
          simp only [Region.wanted, hg, hy]
          cases want <;> rfl
        · cases hb
      · cases hb
  unfold outc at h
  split at h
  · rename_i hg
    rw [if_pos (hgate _ hg)]
    refine .inl ?_
    unfold runs at h
    split at h
    · rename_i g s xs hco
      obtain ⟨r, x, σ', h1, h2, rfl⟩ := h
      exact call_sound hΓ hc hco h1 h2 fun G' β' w' v h3 h4 h5 => hK G' β' _ w' (h3.put hd h4 h5)
    · split at h
      · split at h
        · rename_i φ x σ' h1
          obtain ⟨h2, rfl⟩ := h
          exact step_sound hT hc h1 h2 hd hK
        · exact callL_sound hT (fun f s h => hΓ f s (noHeap_get h).1) hc h fun x σ' G' β' w' v e1 h1 h2 h3 => by subst e1; exact hK G' β' _ w' (h1.put hd h2 h3)
      · obtain ⟨φ, x, h1, h2, rfl⟩ := h
        exact step_sound (own := false) hT hc (by unfold step1; rw [h1]) h2 hd hK
  · rename_i hg
    rw [if_neg (by rw [hgate _ hg]; simp)]
    subst h
    exact hK G β _ w (hc.put hd undef_rep rfl)
  · exact h.elim

theorem any_sound {c : Cx} (hT : TOk c.P T) (hΓ : ∀ f s, Γ f = some s → PSound c.P f s) {M L Ro : List Nat} {n : Nat} {ops : List Oper} {Q : Exit → Act → World → Prop} {K : St → Prop}
    (hK : ∀ σ G β a w, K σ → Conc c G β σ a w → Q .normal a w) (hN : ∀ (j g : Nat), (ops[j]?).bind (fun o => o.dst) = some g → g < c.N) :
    ∀ (fuel : Nat) (listed : Array Bool) (σ : St) (G : Nat → Prop) (β : Nat → Value) (a : Act) (w : World), aAny T Γ M L Ro n ops K fuel listed σ → Conc c G β σ a w → wpAny c.P .any ops.toArray Q fuel listed a w
  | 0, listed, σ, G, β, a, w, h, hc => ⟨h.1, hK σ G β a w h.2 hc⟩
  | fuel + 1, listed, σ, G, β, a, w, h, hc => by
    refine ⟨fun h0 => hK σ G β a w (h.1 h0) hc, fun i hi => ?_⟩
    have h1 := h.2 i hi
    unfold aOp at h1
    unfold wpOp
    have hgo : ops.toArray[i]? = ops[i]? := by simp
    rw [hgo]
    cases ho : ops[i]? with
    | none => rw [ho] at h1; exact any_sound hT hΓ hK hN fuel _ σ G β a w h1 hc
    | some o =>
      rw [ho] at h1
      obtain ⟨σ1, h2, _, h3⟩ := h1
      exact outc_sound hT hΓ hc hN (fun t ht => hN i t (by rw [ho]; exact ht)) h2 fun G' β' a' w' hc' => any_sound hT hΓ hK hN fuel _ σ1 G' β' a' w' h3 hc'

/-- The walk in the text's order, as a thing that reduces. -/
def evD (T : Nat → Option TI) (Γ : Nat → Option PSpec) (M nm L Ro : List Nat) (n : Nat) (all : List Oper) : List Oper → Nat → St → (St → Prop) → Prop
  | [], _, σ, K => K σ
  | o :: os, k, σ, K =>
      let run : Prop := match callOf T Γ o σ.env with
        | some (_, s, xs) => ∃ r, s.spec xs r ∧ match afterCall (dIn o.dst M && inL k L) σ r with
          | none => False
          | some (x, σ') => lay (dIn o.dst nm) o.dst x σ' fun σ'' => evD T Γ M nm L Ro n all os (k + 1) σ'' K
        | none => match inL k L with
          | true => match step1 T (dIn o.dst M) o σ with
            | none => callL T (noHeap Γ) (dIn o.dst M) o σ fun x σ' => lay (dIn o.dst nm) o.dst x σ' fun σ'' => evD T Γ M nm L Ro n all os (k + 1) σ'' K
            | some (φ, x, σ') => andO φ (lay (dIn o.dst nm) o.dst x σ' fun σ'' => evD T Γ M nm L Ro n all os (k + 1) σ'' K)
          | false => match pstep T false o σ.env with
            | none => False
            | some (φ, x) => andO φ (lay (dIn o.dst nm) o.dst x σ fun σ'' => evD T Γ M nm L Ro n all os (k + 1) σ'' K)
      match inL k Ro && !(rdOld T n o σ.env) with
      | true => False
      | false => match o.guard with
      | none => run
      | some (j, want) => match (all[j]?).bind (fun o => o.dst) with
        | some g => match σ.env g with
          | .s (.bool true) => match want with | true => run | false => lay false o.dst (.tup []) σ fun σ'' => evD T Γ M nm L Ro n all os (k + 1) σ'' K
          | .s (.bool false) => match want with | false => run | true => lay false o.dst (.tup []) σ fun σ'' => evD T Γ M nm L Ro n all os (k + 1) σ'' K
          | .tup [] => lay false o.dst (.tup []) σ fun σ'' => evD T Γ M nm L Ro n all os (k + 1) σ'' K
          | _ => False
        | none => False

theorem lex_of_evD {M nm L Ro : List Nat} {n : Nat} {all : List Oper} {K : St → Prop} : ∀ {os : List Oper} {k : Nat} {σ : St}, evD T Γ M nm L Ro n all os k σ K → aLex T Γ M L Ro n all K os k σ
  | [], k, σ, h => h
  | o :: os, k, σ, h => by
    unfold evD at h
    dsimp only at h
    have hrun : (match callOf T Γ o σ.env with
        | some (_, s, xs) => ∃ r, s.spec xs r ∧ match afterCall (dIn o.dst M && inL k L) σ r with
          | none => False
          | some (x, σ') => lay (dIn o.dst nm) o.dst x σ' fun σ'' => evD T Γ M nm L Ro n all os (k + 1) σ'' K
        | none => match inL k L with
          | true => match step1 T (dIn o.dst M) o σ with
            | none => callL T (noHeap Γ) (dIn o.dst M) o σ fun x σ' => lay (dIn o.dst nm) o.dst x σ' fun σ'' => evD T Γ M nm L Ro n all os (k + 1) σ'' K
            | some (φ, x, σ') => andO φ (lay (dIn o.dst nm) o.dst x σ' fun σ'' => evD T Γ M nm L Ro n all os (k + 1) σ'' K)
          | false => match pstep T false o σ.env with
            | none => False
            | some (φ, x) => andO φ (lay (dIn o.dst nm) o.dst x σ fun σ'' => evD T Γ M nm L Ro n all os (k + 1) σ'' K)) →
        ∃ σ1, runs T Γ (dIn o.dst M) (inL k L) o σ σ1 ∧ aLex T Γ M L Ro n all K os (k + 1) σ1 := fun h => by
      unfold runs
      split at h
      · obtain ⟨r, h1, h2⟩ := h
        split at h2
        · exact h2.elim
        · rename_i x σ' hx
          exact ⟨_, ⟨r, x, σ', h1, hx, rfl⟩, lex_of_evD (lay_out h2)⟩
      · split at h
        · split at h
          · rename_i hs
            obtain ⟨x, hp, nx, e1, _, e2⟩ := callL_env h
            refine ⟨_, ?_, lex_of_evD (lay_out e1)⟩
            rw [hs]
            exact e2 σ.env (fun _ _ _ => rfl) _ rfl
          · rename_i φ x σ' hs
            obtain ⟨h1, h2⟩ := andO_out h
            refine ⟨_, ?_, lex_of_evD (lay_out h2)⟩
            rw [hs]
            exact ⟨h1, rfl⟩
        · split at h
          · exact h.elim
          · rename_i φ x hs
            obtain ⟨h1, h2⟩ := andO_out h
            exact ⟨_, ⟨φ, x, hs, h1, rfl⟩, lex_of_evD (lay_out h2)⟩
    split at h
    · exact h.elim
    rename_i hro0
    have hro : inL k Ro = true → rdOld T n o σ.env = true := fun hk => by
      rw [hk] at hro0
      cases e : rdOld T n o σ.env with
      | true => rfl
      | false => rw [e] at hro0; cases hro0
    have hgo : gate all o σ.env = some true → (∃ σ1, runs T Γ (dIn o.dst M) (inL k L) o σ σ1 ∧ aLex T Γ M L Ro n all K os (k + 1) σ1) → aLex T Γ M L Ro n all K (o :: os) k σ := fun hg ⟨σ1, h1, h2⟩ =>
      ⟨σ1, by unfold outc; rw [hg]; exact h1, hro, h2⟩
    have hskip : gate all o σ.env = some false → (lay false o.dst (.tup []) σ fun σ'' => evD T Γ M nm L Ro n all os (k + 1) σ'' K) → aLex T Γ M L Ro n all K (o :: os) k σ := fun hg h =>
      ⟨σ.put o.dst (.tup []), by unfold outc; rw [hg], hro, lex_of_evD (lay_out h)⟩
    split at h
    · rename_i hg
      exact hgo (by simp [gate, hg]) (hrun h)
    · rename_i j want hg
      split at h
      · rename_i g hj
        split at h
        · rename_i he
          split at h
          · exact hgo (by simp [gate, hg, hj, he]) (hrun h)
          · exact hskip (by simp [gate, hg, hj, he]) h
        · rename_i he
          split at h
          · exact hgo (by simp [gate, hg, hj, he]) (hrun h)
          · exact hskip (by simp [gate, hg, hj, he]) h
        · rename_i he
          exact hskip (by simp [gate, hg, hj, he]) h
        · exact h.elim
      · exact h.elim

/-- A REGION WHOSE ORDER IS DRAWN. L: the operations that may touch what the frame owns. Ro: those that look at objects that were there at the region's beginning only. -/
theorem tri_drawnR {c : Cx} (hT : TOk c.P T) (hΓ : ∀ f s, Γ f = some s → PSound c.P f s) (hm : c.P.follows .mixedOrders = true) {id : Nat} {ops : List Oper} {σ : St} {Q : End → St → Prop} (M nm L Ro : List Nat)
    (hN : dstsOk c.N ops = true) (hB : lexD ops.toArray L Ro ops.length 0 (Array.replicate ops.length false) = true) (h : evD T Γ M nm L Ro σ.nx ops ops 0 σ (Q .normal)) : Tri c (.region id ops.toArray true) σ Q := by
  unfold Tri
  intro G β a w hc
  refine wp_region_any hm ?_
  have h1 := aAny_lex (ops := ops) (M := M) (L := L) (Ro := Ro) (n := σ.nx) ops 0 (Array.replicate ops.length false) σ (Nat.le_refl _) (fun j => by simp) hB (lex_of_evD h)
  have hc' := hc.ext (Ext.drew hc.lt)
  have := any_sound hT hΓ (Q := fun e a' w' => ∃ e' G' β' σ', e = toExit e' ∧ Q e' σ' ∧ Conc c G' β' σ' a' w') (fun σ' G' β' a' w' hk hc' => ⟨.normal, G', β', σ', rfl, hk, hc'⟩) (dstsOk_spec hN) _ _ σ G β a _ h1 hc'
  simpa using this
theorem tri_drawn {c : Cx} (hT : TOk c.P T) (hΓ : ∀ f s, Γ f = some s → PSound c.P f s) (hm : c.P.follows .mixedOrders = true) {id : Nat} {ops : List Oper} {σ : St} {Q : End → St → Prop} (M nm L : List Nat)
    (hN : dstsOk c.N ops = true) (hB : lexD ops.toArray L [] ops.length 0 (Array.replicate ops.length false) = true) (h : evD T Γ M nm L [] σ.nx ops ops 0 σ (Q .normal)) : Tri c (.region id ops.toArray true) σ Q :=
  tri_drawnR hT hΓ hm M nm L [] hN hB h

end
end Go.Abs
