/-
  THE ABSTRACT MACHINE, PART L: A REGION WHOSE ORDER IS DRAWN: ONE WALK IN THE TEXT's ORDER SERVES EVERY ORDER. (The shape of the two long proofs is that of the guide's theorem on quiet operations.)
-/
import Derived.Test.YtjjljekedgdnnaaAbsK
set_option linter.unusedSimpArgs false
set_option linter.unusedVariables false
namespace Go.Abs

section
variable {T : Nat → Option TI} {Γ : Nat → Option PSpec} {env env' : Nat → AV}

theorem fillA_congr {place : Nat → Option (Nat × Nat)} : ∀ {parts : List (Nat × Operand)} {cells : List AV}, (∀ p ∈ parts, ∀ ty, opd T env ty p.2 = opd T env' ty p.2) → fillA T env place cells parts = fillA T env' place cells parts
  | [], _, _ => rfl
  | (j, x) :: r, cells, h => by
    have h1 := h (j, x) (by simp)
    simp only [fillA]
    split
    · rfl
    · split
      · rfl
      · simp only [h1]
        split
        · exact fillA_congr fun p hp => h p (by simp [hp])
        · rfl
theorem partsS_congr {e : Nat} : ∀ {parts : List (Nat × Operand)} {i : Nat}, (∀ p ∈ parts, ∀ ty, opd T env ty p.2 = opd T env' ty p.2) → partsS T env e i parts = partsS T env' e i parts
  | [], _, _ => rfl
  | (j, x) :: r, i, h => by
    have h1 := h (j, x) (by simp)
    simp only [partsS, h1, partsS_congr (parts := r) fun p hp => h p (by simp [hp])]
theorem map_congr {ty : Nat} {xs : List Operand} (h : ∀ x ∈ xs, ∀ ty, opd T env ty x = opd T env' ty x) : xs.map (opd T env ty) = xs.map (opd T env' ty) :=
  List.map_congr_left fun x hx => h x hx ty
theorem opds_congr : ∀ {xs : List Operand} {ts : List Nat}, (∀ x ∈ xs, ∀ ty, opd T env ty x = opd T env' ty x) → opds T env xs ts = opds T env' xs ts
  | [], _, _ => rfl
  | x :: xs, ts, h => by
    simp only [opds, h x (by simp), opds_congr (xs := xs) fun y hy => h y (by simp [hy])]
theorem omap_congr {ty : Nat} {x : Option Operand} (h : ∀ y, x = some y → ∀ ty, opd T env ty y = opd T env' ty y) : x.map (opd T env ty) = x.map (opd T env' ty) := by
  cases x with
  | none => rfl
  | some y => simp [h y rfl]

theorem pstep_congr {own : Bool} {o : Oper} (h : ∀ x ∈ o.op.operands, ∀ ty, opd T env ty x = opd T env' ty x) : pstep T own o env = pstep T own o env' := by
  unfold pstep
  cases hop : o.op <;> rw [hop] at h <;> simp only [Op.operands] at h <;> (try dsimp only)
  case move x => simp only [h x (by simp)]
  case assign x => simp only [h x (by simp)]
  case pick c x y => simp only [h c (by simp), h x (by simp), h y (by simp)]
  case box t x => simp only [h x (by simp)]
  case build t parts =>
    unfold pBuild
    have hp : ∀ p ∈ parts.toList, ∀ ty, opd T env ty p.2 = opd T env' ty p.2 := fun p hp => h p.2 (by simp; exact ⟨p.1, by simpa using hp⟩)
    split
    · rfl
    · split
      · rw [fillA_congr hp]
      · split
        · rw [fillA_congr hp]
        · rfl
      · rfl
  case buildSlice t n parts =>
    have hp : ∀ p ∈ parts.toList, ∀ ty, opd T env ty p.2 = opd T env' ty p.2 := fun p hp => h p.2 (by simp; exact ⟨p.1, by simpa using hp⟩)
    split
    · split
      · split
        · rw [partsS_congr hp]
        · rfl
      · rfl
    · rfl
  case load t x => simp only [h x (by simp)]
  case nilCheck x => simp only [h x (by simp)]
  case binOp op t x y u => simp only [h x (by simp), h y (by simp)]
  case unOp op t x => simp only [h x (by simp)]
  case convert src dst x => simp only [h x (by simp)]
  case makeFunc fn first caps =>
    cases fn <;> dsimp only
    split
    · rfl
    · rename_i cs e1 e2 e3
      have : ∀ x ∈ caps.toList, ∀ ty, opd T env ty x = opd T env' ty x := fun x hx => h x (by simp; exact .inr (by simpa using hx))
      rw [map_congr this]
    · rfl
  case slice t x lo hi mx =>
    cases mx <;> dsimp only
    rw [h x (by simp), omap_congr (fun y e => h y (by subst e; simp)), omap_congr (x := hi) (fun y e => h y (by subst e; simp))]
  case fieldAddr t x f => simp only [h x (by simp)]
  case field t x f => simp only [h x (by simp)]
  case indexAddr t x i => simp only [h x (by simp), h i (by simp)]
  case index t x i => simp only [h x (by simp), h i (by simp)]
  case extract x i => simp only [h x (by simp)]
  case call c =>
    obtain ⟨callee, args, ts⟩ := c
    have ha : ∀ x ∈ args.toList, ∀ ty, opd T env ty x = opd T env' ty x := fun x hx => h x (by simp [Call.operands]; exact .inr (by simpa using hx))
    cases callee with
    | builtin b =>
      cases b <;> dsimp only
      case len =>
        split
        · rename_i x t e1 e2
          rw [ha x (by rw [e1]; simp)]
        · rfl
      case min => rw [map_congr ha]
      case max => rw [map_congr ha]
    | value f => rfl
    | invoke r m => rfl

theorem callOf_congr {o : Oper} (h : ∀ x ∈ o.op.operands, ∀ ty, opd T env ty x = opd T env' ty x) : callOf T Γ o env = callOf T Γ o env' := by
  unfold callOf
  split
  · rename_i f args ts ho
    rw [ho] at h
    simp only [Op.operands, Call.operands] at h
    have ha : ∀ x ∈ args.toList, ∀ ty, opd T env ty x = opd T env' ty x := fun x hx => h x (by simp; exact .inr (by simpa using hx))
    rw [h f (by simp), opds_congr ha]
  · rfl

theorem rawCall_congr {o : Oper} (h : ∀ x ∈ o.op.operands, ∀ ty, opd T env ty x = opd T env' ty x) : rawCall T o env = rawCall T o env' := by
  unfold rawCall
  split
  · rename_i f args ts ho
    rw [ho] at h
    simp only [Op.operands, Call.operands] at h
    have ha : ∀ x ∈ args.toList, ∀ ty, opd T env ty x = opd T env' ty x := fun x hx => h x (by simp; exact .inr (by simpa using hx))
    rw [h f (by simp), opds_congr ha]
  · rfl

/-- Another frame, the same memory. -/
def reenv (env : Nat → AV) (r : Option Prop × AV × St) : Option Prop × AV × St := (r.1, r.2.1, { r.2.2 with env := env })

theorem lstep_congr {own : Bool} {o : Oper} {σ : St} (h : ∀ x ∈ o.op.operands, ∀ ty, opd T σ.env ty x = opd T env' ty x) :
    lstep T own o { σ with env := env' } = (lstep T own o σ).map (reenv env') := by
  obtain ⟨env, hp, nx⟩ := σ
  dsimp only at h
  unfold lstep
  cases hop : o.op <;> rw [hop] at h <;> simp only [Op.operands] at h <;> (try dsimp only)
  case move x =>
    split
    · split <;> rfl
    · rfl
  case assign x =>
    split
    · split <;> rfl
    · rfl
  case box t x =>
    rw [← h x (by simp)]
    split <;> rfl
  case alloc t => split <;> rfl
  case buildSlice t n parts =>
    have hp : ∀ p ∈ parts.toList, ∀ ty, opd T env ty p.2 = opd T env' ty p.2 := fun p hp => h p.2 (by simp; exact ⟨p.1, by simpa using hp⟩)
    split
    · rw [← partsS_congr hp]
      split
      · split <;> rfl
      · rfl
    · rfl
  case makeSlice t l c =>
    rw [← h l (by simp), ← h c (by simp)]
    split
    · split <;> rfl
    · rfl
  case load t x =>
    rw [← h x (by simp)]
    split
    · split
      · split
        · split <;> rfl
        · split <;> rfl
      · rfl
    · rfl
  case store t x y =>
    rw [← h x (by simp), ← h y (by simp)]
    split
    · split
      · split <;> rfl
      · rfl
    · split
      · split <;> rfl
      · rfl
    · rfl
  case indexAddr t x i =>
    rw [← h x (by simp), ← h i (by simp)]
    split
    · split
      · split <;> rfl
      · rfl
    · rfl
  case convert src dst x =>
    rw [← h x (by simp)]
    split
    · split
      · split <;> rfl
      · rfl
    · split
      · split <;> rfl
      · rfl
    · rfl
  case slice t x lo hi mx =>
    cases lo <;> cases hi <;> cases mx <;> try rfl
    rename_i hi
    dsimp only
    rw [← h x (by simp), ← h hi (by simp)]
    split
    · split
      · split <;> rfl
      · rfl
    · rfl
  case call c =>
    obtain ⟨callee, args, ts⟩ := c
    have ha : ∀ x ∈ args.toList, ∀ ty, opd T env ty x = opd T env' ty x := fun x hx => h x (by simp [Call.operands]; exact .inr (by simpa using hx))
    cases callee with
    | builtin b =>
      cases b <;> try rfl
      case len =>
        dsimp only
        split
        · rename_i x t e1 e2
          rw [← ha x (by rw [e1]; simp)]
          split
          · split <;> rfl
          · rfl
        · rfl
      case append =>
        dsimp only
        split
        · rename_i x y t tx e1 e2
          rw [← ha x (by rw [e1]; simp), ← ha y (by rw [e1]; simp)]
          unfold lAppend
          have e3 : ∀ z, baseOf ⟨env', hp, nx⟩ z = baseOf ⟨env, hp, nx⟩ z := fun z => by cases z <;> rfl
          have e4 : ∀ z, rowsOf T ⟨env', hp, nx⟩ tx z = rowsOf T ⟨env, hp, nx⟩ tx z := fun z => by unfold rowsOf; rfl
          rw [e3, e4]
          split
          · split
            · split
              · rfl
              · split <;> rfl
            · rfl
          · rfl
        · rfl
    | value f => rfl
    | invoke r m => rfl
  all_goals rfl

theorem lstep_env {own : Bool} {o : Oper} {σ σ' : St} {φ : Option Prop} {x : AV} (h : lstep T own o σ = some (φ, x, σ')) : σ'.env = σ.env := by
  have := lstep_congr (T := T) (own := own) (o := o) (σ := σ) (env' := σ.env) (fun _ _ _ => rfl)
  have e : ({ σ with env := σ.env } : St) = σ := rfl
  rw [e, h] at this
  simp only [Option.map_some, Option.some.injEq, reenv, Prod.mk.injEq] at this
  rw [this.2.2]

/-- What may become of one operation. 'loud': it may touch what the frame owns. -/
def runs (T : Nat → Option TI) (Γ : Nat → Option PSpec) (own loud : Bool) (o : Oper) (σ σ1 : St) : Prop :=
  match callOf T Γ o σ.env with
  | some (_, s, xs) => ∃ r x σ', s.spec xs r ∧ afterCall (own && loud) σ r = some (x, σ') ∧ σ1 = σ'.put o.dst x
  | none => match loud with
    | true => match step1 T own o σ with
      | some (φ, x, σ') => φ.getD True ∧ σ1 = σ'.put o.dst x
      | none => callL T Γ own o σ fun x σ' => σ1 = σ'.put o.dst x
    | false => ∃ φ x, pstep T false o σ.env = some (φ, x) ∧ φ.getD True ∧ σ1 = σ.put o.dst x

def gate (all : List Oper) (o : Oper) (env : Nat → AV) : Option Bool :=
  match o.guard with
  | none => some true
  | some (j, want) => match (all[j]?).bind (fun o => o.dst) with
    | some g => match env g with
      | .s (.bool b) => some (b == want)
      | .tup [] => some false
      | _ => none
    | none => none

def outc (T : Nat → Option TI) (Γ : Nat → Option PSpec) (all : List Oper) (own loud : Bool) (o : Oper) (σ σ1 : St) : Prop :=
  match gate all o σ.env with
  | some true => runs T Γ own loud o σ σ1
  | some false => σ1 = σ.put o.dst (.tup [])
  | none => False

theorem put_comm {σ : St} {d e : Option Nat} {x y : AV} (h : ∀ t, d = some t → e ≠ some t) : (σ.put d x).put e y = (σ.put e y).put d x := by
  cases d <;> cases e <;> try rfl
  rename_i d e
  simp only [St.put, St.mk.injEq, and_self, and_true]
  funext t
  cases h1 : Nat.beq t e with
  | false => simp
  | true =>
    cases h2 : Nat.beq t d with
    | false => simp
    | true =>
      have := Nat.eq_of_beq_eq_true h1
      have := Nat.eq_of_beq_eq_true h2
      exact absurd (by congr 1; omega) (h d rfl)

theorem env_put {σ : St} {d : Option Nat} {x : AV} {t : Nat} (h : ∀ s, d = some s → s ≠ t) : (σ.put d x).env t = σ.env t := by
  cases d with
  | none => rfl
  | some d =>
    simp only [St.put]
    cases e : Nat.beq t d with
    | false => rfl
    | true => exact absurd (Nat.eq_of_beq_eq_true e).symm (h d rfl)

/-- Of what an operation looks at nothing has turned. -/
def Alike (all : List Oper) (o : Oper) (env env' : Nat → AV) : Prop := ∀ t ∈ o.looksAt all.toArray, env t = env' t

theorem Alike.opds {all : List Oper} {o : Oper} (h : Alike all o env env') : ∀ x ∈ o.op.operands, ∀ ty, opd T env ty x = opd T env' ty x := fun x hx ty => by
  cases x with
  | tmp t =>
    refine h t ?_
    unfold Oper.looksAt
    refine List.mem_append.2 (.inl (List.mem_filterMap.2 ⟨.tmp t, by simpa using hx, rfl⟩))
  | _ => rfl
theorem Alike.gate {all : List Oper} {o : Oper} (h : Alike all o env env') : gate all o env = gate all o env' := by
  unfold Abs.gate
  cases hg : o.guard with
  | none => rfl
  | some p =>
    obtain ⟨j, want⟩ := p
    dsimp only
    cases hj : (all[j]?).bind (fun o => o.dst) with
    | none => rfl
    | some g =>
      dsimp only
      have : env g = env' g := h g (by
        unfold Oper.looksAt
        refine List.mem_append.2 (.inr ?_)
        rw [hg]
        dsimp only
        have : (all.toArray[j]?).bind (fun o => o.dst) = some g := by simpa using hj
        rw [this]; simp)
      rw [this]
theorem Alike.put {all : List Oper} {o : Oper} {σ : St} {d : Option Nat} {x : AV} (h : ∀ t, d = some t → t ∉ o.looksAt all.toArray) : Alike all o (σ.put d x).env σ.env := fun t ht =>
  env_put fun s hs e => h s hs (e ▸ ht)

theorem afterCall_quiet {σ σ' : St} {r : Ret} {x : AV} (h : afterCall false σ r = some (x, σ')) : σ' = σ ∧ ∀ σ2, afterCall false σ2 r = some (x, σ2) := by
  unfold afterCall at h ⊢
  split at h
  · split at h
    · rename_i e; cases h; exact ⟨rfl, fun σ2 => by simp [e]⟩
    · cases h
  · cases h; exact ⟨rfl, fun σ2 => rfl⟩

theorem afterCall_env {own : Bool} {σ σ' : St} {r : Ret} {x : AV} (h : afterCall own σ r = some (x, σ')) : σ'.env = σ.env ∧ ∀ env', afterCall own { σ with env := env' } r = some (x, { σ' with env := env' }) := by
  unfold afterCall at h ⊢
  split at h
  · split at h
    · rename_i e; cases h; exact ⟨rfl, fun σ2 => by simp [e]⟩
    · cases h
  · split at h <;> cases h <;> exact ⟨rfl, fun σ2 => rfl⟩

/-- A call that takes own objects does the same in another frame. -/
theorem callL_env {own : Bool} {o : Oper} {σ : St} {K : AV → St → Prop} (h : callL T Γ own o σ K) : ∃ x hp nx, K x ⟨σ.env, hp, nx⟩ ∧
    ∀ env', (∀ x ∈ o.op.operands, ∀ ty, opd T σ.env ty x = opd T env' ty x) → ∀ K' : AV → St → Prop, K' x ⟨env', hp, nx⟩ → callL T Γ own o { σ with env := env' } K' := by
  unfold callL at h
  split at h
  · rename_i hraw
    unfold loadL at h
    split at h
    · rename_i t y ho
      split at h
      · rename_i k sz i off e
        split at h
        · rename_i e' sz' rows hh
          split at h
          · rename_i hsz
            obtain ⟨hi, row, hrow, h⟩ := h
            split at h
            · rename_i x hl
              refine ⟨x, σ.hp, σ.nx, h, fun env' ha K' hk => ?_⟩
              unfold callL
              dsimp only
              rw [← rawCall_congr ha, hraw]
              dsimp only
              unfold loadL
              rw [ho]
              dsimp only
              rw [← ha y (by rw [ho]; simp [Op.operands]), e]
              dsimp only
              rw [hh]
              dsimp only
              rw [hsz]
              dsimp only
              refine ⟨hi, row, hrow, ?_⟩
              rw [hl]
              exact hk
            · exact h.elim
          · exact h.elim
        · exact h.elim
      · exact h.elim
    · exact h.elim
  · rename_i g xs hraw
    split at h
    · exact h.elim
    · rename_i s hs
      split at h
      · rename_i hown
        split at h
        · exact h.elim
        · rename_i hp
          obtain ⟨r, hr, h⟩ := h
          split at h
          · exact h.elim
          · rename_i x σ' hx
            obtain ⟨e1, e2⟩ := afterCall_env hx
            have e3 : σ'.env = σ.env := by rw [e1]; cases r.flat <;> rfl
            refine ⟨x, σ'.hp, σ'.nx, by rw [← e3]; exact h, fun env' ha K' hk => ?_⟩
            unfold callL
            dsimp only
            rw [← rawCall_congr ha, hraw]
            dsimp only
            rw [hs]
            dsimp only
            rw [hown]
            dsimp only
            rw [hp]
            refine ⟨r, hr, ?_⟩
            have e4 := e2 env'
            cases hf : r.flat with
            | true => rw [hf] at e4; dsimp only at e4 ⊢; rw [e4]; exact hk
            | false =>
              rw [hf] at e4
              have e5 : ({ ridAll (AV.keysAll xs) σ with env := env' } : St) = ridAll (AV.keysAll xs) { σ with env := env' } := rfl
              dsimp only at e4 ⊢
              rw [e5] at e4
              rw [e4]; exact hk
      · rename_i R hown
        have hnil : ∀ env', nilArg T s.nil o xs { σ with env := env' } = ((nilArg T s.nil o xs σ).1, { (nilArg T s.nil o xs σ).2 with env := env' }) := fun env' => by
          unfold nilArg
          split
          · rfl
          · split
            · split
              · split <;> rfl
              · rfl
            · rfl
        have hnenv : (nilArg T s.nil o xs σ).2.env = σ.env := by
          unfold nilArg
          split
          · rfl
          · split
            · split
              · split <;> rfl
              · rfl
            · rfl
        cases hna : nilArg T s.nil o xs σ with
        | mk xs1 σ1 =>
        rw [hna] at h hnil hnenv
        dsimp only at h hnil hnenv
        split at h
        · rename_i os hd hos
          obtain ⟨x, os', hR, h⟩ := h
          refine ⟨_, _, _, by rw [← hnenv]; exact h, fun env' ha K' hk => ?_⟩
          unfold callL
          dsimp only
          rw [← rawCall_congr ha, hraw]
          dsimp only
          rw [hs]
          dsimp only
          rw [hown]
          dsimp only
          rw [hnil]
          dsimp only
          rw [hd, hos]
          exact ⟨x, os', hR, hk⟩
        · exact h.elim

/-- A quiet operation: what it lays, whatever else the state holds. -/
theorem quiet_out {all : List Oper} {own : Bool} {o : Oper} {σ σ1 : St} (h : outc T Γ all own false o σ σ1) : ∃ x, σ1 = σ.put o.dst x ∧ ∀ σ2 : St, Alike all o σ.env σ2.env → outc T Γ all own false o σ2 (σ2.put o.dst x) := by
  unfold outc at h
  split at h
  · rename_i hg
    unfold runs at h
    split at h
    · rename_i g s xs hco
      obtain ⟨r, x, σ', h1, h2, h3⟩ := h
      rw [Bool.and_false] at h2
      obtain ⟨rfl, h4⟩ := afterCall_quiet h2
      refine ⟨x, h3, fun σ2 ha => ?_⟩
      unfold outc
      rw [← ha.gate, hg]
      dsimp only
      unfold runs
      rw [← callOf_congr (Γ := Γ) (T := T) ha.opds, hco]
      exact ⟨r, x, σ2, h1, by rw [Bool.and_false]; exact h4 σ2, rfl⟩
    · rename_i hco
      obtain ⟨φ, x, h1, h2, h3⟩ := h
      refine ⟨x, h3, fun σ2 ha => ?_⟩
      unfold outc
      rw [← ha.gate, hg]
      dsimp only
      unfold runs
      rw [← callOf_congr (Γ := Γ) (T := T) ha.opds, hco]
      exact ⟨φ, x, by rw [← pstep_congr ha.opds]; exact h1, h2, rfl⟩
  · rename_i hg
    refine ⟨.tup [], h, fun σ2 ha => ?_⟩
    unfold outc
    rw [← ha.gate, hg]
  · exact h.elim

/-- A loud operation: the frame may be another one, where it does not look. -/
theorem loud_out {all : List Oper} {own loud : Bool} {o : Oper} {σ σ1 : St} (h : outc T Γ all own loud o σ σ1) : ∃ x hp nx, σ1 = St.put ⟨σ.env, hp, nx⟩ o.dst x ∧ ∀ env', Alike all o σ.env env' → outc T Γ all own loud o { σ with env := env' } (St.put ⟨env', hp, nx⟩ o.dst x) := by
  unfold outc at h
  split at h
  · rename_i hg
    unfold runs at h
    split at h
    · rename_i g s xs hco
      obtain ⟨r, x, σ', h1, h2, h3⟩ := h
      obtain ⟨h4, h5⟩ := afterCall_env h2
      refine ⟨x, σ'.hp, σ'.nx, by rw [h3, ← h4], fun env' ha => ?_⟩
      unfold outc
      dsimp only
      rw [← ha.gate, hg]
      dsimp only
      unfold runs
      dsimp only
      rw [← callOf_congr (Γ := Γ) (T := T) ha.opds, hco]
      exact ⟨r, x, _, h1, h5 env', rfl⟩
    · rename_i hco
      split at h
      · split at h
        · rename_i φ x σ' h1
          obtain ⟨h2, h3⟩ := h
          have key : σ'.env = σ.env ∧ ∀ env', Alike all o σ.env env' → step1 T own o { σ with env := env' } = some (φ, x, { σ' with env := env' }) := by
            unfold step1 at h1 ⊢
            split at h1
            · rename_i p hp
              cases h1
              refine ⟨rfl, fun env' ha => ?_⟩
              dsimp only
              rw [← pstep_congr ha.opds, hp]
            · rename_i hp
              refine ⟨lstep_env h1, fun env' ha => ?_⟩
              dsimp only
              rw [← pstep_congr ha.opds, hp]
              dsimp only
              rw [lstep_congr (σ := σ) ha.opds, h1]
              rfl
          refine ⟨x, σ'.hp, σ'.nx, by rw [h3, ← key.1], fun env' ha => ?_⟩
          unfold outc
          dsimp only
          rw [← ha.gate, hg]
          dsimp only
          unfold runs
          dsimp only
          rw [← callOf_congr (Γ := Γ) (T := T) ha.opds, hco]
          dsimp only
          rw [key.2 env' ha]
          exact ⟨h2, rfl⟩
        · rename_i h1
          have key : ∀ env', Alike all o σ.env env' → step1 T own o { σ with env := env' } = none := fun env' ha => by
            unfold step1 at h1 ⊢
            split at h1
            · cases h1
            · rename_i hp
              dsimp only
              rw [← pstep_congr ha.opds, hp]
              dsimp only
              rw [lstep_congr (σ := σ) ha.opds, h1]
              rfl
          obtain ⟨x, hp, nx, e1, e2⟩ := callL_env h
          refine ⟨x, hp, nx, e1, fun env' ha => ?_⟩
          unfold outc
          dsimp only
          rw [← ha.gate, hg]
          dsimp only
          unfold runs
          dsimp only
          rw [← callOf_congr (Γ := Γ) (T := T) ha.opds, hco]
          dsimp only
          rw [key env' ha]
          exact e2 env' ha.opds _ rfl
      · obtain ⟨φ, x, h1, h2, h3⟩ := h
        refine ⟨x, σ.hp, σ.nx, h3, fun env' ha => ?_⟩
        unfold outc
        dsimp only
        rw [← ha.gate, hg]
        dsimp only
        unfold runs
        dsimp only
        rw [← callOf_congr (Γ := Γ) (T := T) ha.opds, hco]
        exact ⟨φ, x, by rw [← pstep_congr ha.opds]; exact h1, h2, rfl⟩
  · rename_i hg
    refine ⟨.tup [], σ.hp, σ.nx, h, fun env' ha => ?_⟩
    unfold outc
    dsimp only
    rw [← ha.gate, hg]
  · exact h.elim

/-- Operations that may read what the frame owns, and turn nothing. -/
def rdOp (o : Oper) : Bool :=
  match o.op with
  | .load _ _ => true
  | .indexAddr _ _ _ => true
  | .call { callee := .builtin .len, args := _, argTypes := _ } => true
  | _ => false

theorem lstep_same {own : Bool} {o : Oper} {σ σ' : St} {φ : Option Prop} {x : AV} (hr : rdOp o = true) (h : lstep T own o σ = some (φ, x, σ')) : σ' = σ := by
  unfold rdOp at hr
  split at hr
  · rename_i t y ho
    unfold lstep at h
    rw [ho] at h
    dsimp only at h
    repeat' split at h
    all_goals first | (cases h; rfl) | cases h
  · rename_i t y i ho
    unfold lstep at h
    rw [ho] at h
    dsimp only at h
    repeat' split at h
    all_goals first | (cases h; rfl) | cases h
  · rename_i args ts ho
    unfold lstep at h
    rw [ho] at h
    dsimp only at h
    repeat' split at h
    all_goals first | (cases h; rfl) | cases h
  · cases hr

theorem loadL_same {o : Oper} {σ : St} {K : AV → St → Prop} (h : loadL T o σ K) : ∃ x, K x σ := by
  unfold loadL at h
  repeat' split at h
  all_goals first | exact h.elim | skip
  obtain ⟨_, row, _, h⟩ := h
  split at h
  · exact ⟨_, h⟩
  · exact h.elim

theorem reads_same {all : List Oper} {own : Bool} {o : Oper} {σ σ1 : St} (hr : rdOp o = true) (h : outc T Γ all own true o σ σ1) : σ1.hp = σ.hp ∧ σ1.nx = σ.nx := by
  have hput : ∀ (σ : St) (d : Option Nat) (x : AV), (σ.put d x).hp = σ.hp ∧ (σ.put d x).nx = σ.nx := fun σ d x => by cases d <;> exact ⟨rfl, rfl⟩
  have hco : callOf T Γ o σ.env = none ∧ rawCall T o σ.env = none := by
    unfold rdOp at hr
    split at hr
    · rename_i ho; unfold callOf rawCall; rw [ho]; exact ⟨rfl, rfl⟩
    · rename_i ho; unfold callOf rawCall; rw [ho]; exact ⟨rfl, rfl⟩
    · rename_i ho; unfold callOf rawCall; rw [ho]; exact ⟨rfl, rfl⟩
    · cases hr
  unfold outc at h
  split at h
  · unfold runs at h
    rw [hco.1] at h
    dsimp only at h
    split at h
    · rename_i φ x σ' hs
      obtain ⟨_, rfl⟩ := h
      unfold step1 at hs
      split at hs
      · cases hs; exact hput _ _ _
      · rw [lstep_same hr hs]; exact hput _ _ _
    · unfold callL at h
      rw [hco.2] at h
      obtain ⟨x, rfl⟩ := loadL_same h
      exact hput _ _ _
  · subst h; exact hput _ _ _
  · exact h.elim

/-- TWO OPERATIONS APART, NOT BOTH LOUD, MAY CHANGE PLACES; so may two that only read. -/
theorem outc_comm {all : List Oper} {oi oj : Oper} {owi owj li lj : Bool} {σ σi σij : St} (hap : oi.apart all.toArray oj = true) (hl : li = false ∨ lj = false ∨ (rdOp oi = true ∧ rdOp oj = true))
    (h1 : outc T Γ all owi li oi σ σi) (h2 : outc T Γ all owj lj oj σi σij) : ∃ σj, outc T Γ all owj lj oj σ σj ∧ outc T Γ all owi li oi σj σij := by
  obtain ⟨a1, a2, a3⟩ := Oper.apart_spec hap
  have hl' : li = false ∨ lj = false ∨ (li = true ∧ lj = true ∧ rdOp oi = true ∧ rdOp oj = true) := by
    cases li with
    | false => exact .inl rfl
    | true =>
      cases lj with
      | false => exact .inr (.inl rfl)
      | true => rcases hl with h | h | h
                · cases h
                · cases h
                · exact .inr (.inr ⟨rfl, rfl, h.1, h.2⟩)
  rcases hl' with rfl | rfl | ⟨rfl, rfl, r1, r2⟩
  · obtain ⟨x, rfl, hq⟩ := quiet_out h1
    obtain ⟨y, hp, nx, rfl, hy⟩ := loud_out h2
    have hb := hy σ.env (Alike.put a1)
    have e : ({ (σ.put oi.dst x) with env := σ.env } : St) = σ := by cases oi.dst <;> rfl
    rw [e] at hb
    refine ⟨_, hb, ?_⟩
    have := hq (St.put ⟨σ.env, hp, nx⟩ oj.dst y) (fun t ht => (Alike.put (σ := ⟨σ.env, hp, nx⟩) (x := y) a3 t ht).symm)
    rw [put_comm (fun t ht => fun e => a2 t e ht)] at this
    have e2 : St.put ⟨σ.env, hp, nx⟩ oi.dst x = ⟨(σ.put oi.dst x).env, hp, nx⟩ := by cases oi.dst <;> rfl
    rw [e2] at this
    exact this
  · obtain ⟨x, hp, nx, rfl, hx⟩ := loud_out h1
    obtain ⟨y, rfl, hq⟩ := quiet_out h2
    refine ⟨_, hq σ (fun t ht => Alike.put (σ := ⟨σ.env, hp, nx⟩) (x := x) a1 t ht), ?_⟩
    have := hx (σ.put oj.dst y).env (fun t ht => (Alike.put a3 t ht).symm)
    have e1 : ({ σ with env := (σ.put oj.dst y).env } : St) = σ.put oj.dst y := by cases oj.dst <;> rfl
    rw [e1] at this
    have e2 : (⟨(σ.put oj.dst y).env, hp, nx⟩ : St) = St.put ⟨σ.env, hp, nx⟩ oj.dst y := by cases oj.dst <;> rfl
    rw [e2, put_comm (fun t ht => fun e => a2 t e ht)] at this
    exact this
  · have s1 := reads_same r1 h1
    have s2 := reads_same r2 h2
    obtain ⟨x, hp, nx, rfl, hx⟩ := loud_out h1
    obtain ⟨y, hp2, nx2, rfl, hy⟩ := loud_out h2
    have f1 : hp = σ.hp ∧ nx = σ.nx := by cases h : oi.dst <;> (rw [h] at s1; exact s1)
    obtain ⟨rfl, rfl⟩ := f1
    have f2 : hp2 = σ.hp ∧ nx2 = σ.nx := by cases h : oi.dst <;> cases h' : oj.dst <;> (rw [h, h'] at s2; exact s2)
    obtain ⟨rfl, rfl⟩ := f2
    have hb := hy σ.env (Alike.put a1)
    have e : ({ St.put ⟨σ.env, σ.hp, σ.nx⟩ oi.dst x with env := σ.env } : St) = σ := by cases oi.dst <;> rfl
    rw [e] at hb
    refine ⟨_, hb, ?_⟩
    have := hx (σ.put oj.dst y).env (fun t ht => (Alike.put a3 t ht).symm)
    have e1 : (⟨(σ.put oj.dst y).env, σ.hp, σ.nx⟩ : St) = St.put ⟨σ.env, σ.hp, σ.nx⟩ oj.dst y := by cases oj.dst <;> rfl
    have e3 : St.put ⟨σ.env, σ.hp, σ.nx⟩ oi.dst x = ⟨(St.put ⟨σ.env, σ.hp, σ.nx⟩ oi.dst x).env, σ.hp, σ.nx⟩ := by cases oi.dst <;> rfl
    have key : St.put (St.put ⟨σ.env, σ.hp, σ.nx⟩ oj.dst y) oi.dst x = St.put ⟨(St.put ⟨σ.env, σ.hp, σ.nx⟩ oi.dst x).env, σ.hp, σ.nx⟩ oj.dst y := by
      rw [put_comm (fun t ht => fun e => a2 t e ht), ← e3]
    rw [← key]
    have e4 : outc T Γ all owi true oi (⟨(σ.put oj.dst y).env, σ.hp, σ.nx⟩ : St) (St.put ⟨(σ.put oj.dst y).env, σ.hp, σ.nx⟩ oi.dst x) := this
    rw [e1] at e4
    exact e4

/-- Operation number i comes up. -/
def aOp (T : Nat → Option TI) (Γ : Nat → Option PSpec) (M L : List Nat) (ops : List Oper) (i : Nat) (K : St → Prop) (σ : St) : Prop :=
  match ops[i]? with
  | none => K σ
  | some o => ∃ σ1, outc T Γ ops (dIn o.dst M) (inL i L) o σ σ1 ∧ K σ1

/-- Whatever order is picked from here on. -/
def aAny (T : Nat → Option TI) (Γ : Nat → Option PSpec) (M L : List Nat) (ops : List Oper) (Q : St → Prop) : Nat → Array Bool → St → Prop
  | 0, listed, σ => Region.ready .any ops.toArray listed = [] ∧ Q σ
  | fuel + 1, listed, σ =>
    (Region.ready .any ops.toArray listed = [] → Q σ) ∧
    ∀ i ∈ Region.ready .any ops.toArray listed, aOp T Γ M L ops i (aAny T Γ M L ops Q fuel (listed.setIfInBounds i true)) σ

theorem aOp_mono {M L : List Nat} {ops : List Oper} {i : Nat} {K K' : St → Prop} {σ : St} (h : ∀ σ, K σ → K' σ) (hh : aOp T Γ M L ops i K σ) : aOp T Γ M L ops i K' σ := by
  unfold aOp at *
  split at hh
  · exact h _ hh
  · obtain ⟨σ1, h1, h2⟩ := hh; exact ⟨σ1, h1, h _ h2⟩

theorem aAny_first {M L : List Nat} {ops : List Oper} {Q : St → Prop} {i : Nat} {oi : Oper} (hi : ops[i]? = some oi) :
    ∀ (fuel : Nat) (listed : Array Bool) (σ σi : St),
      (∀ j oj, ops[j]? = some oj → j ≠ i → listed.getD j true = false → (∀ e ∈ oj.after, Region.binds .any e = true → e.on ≠ i) → oi.apart ops.toArray oj = true ∧ (inL i L = false ∨ inL j L = false ∨ (rdOp oi = true ∧ rdOp oj = true))) →
      i ∈ Region.ready .any ops.toArray listed → outc T Γ ops (dIn oi.dst M) (inL i L) oi σ σi →
      aAny T Γ M L ops Q fuel (listed.setIfInBounds i true) σi → aAny T Γ M L ops Q (fuel + 1) listed σ := by
  intro fuel
  induction fuel with
  | zero =>
    intro listed σ σi _ hr ho H
    refine ⟨fun h => (by rw [h] at hr; cases hr), fun j hj => ?_⟩
    by_cases hji : j = i
    · subst hji; unfold aOp; rw [hi]; exact ⟨σi, ho, H⟩
    · have := ready_mono hj hji
      rw [H.1] at this
      cases this
  | succ fuel ih =>
    intro listed σ σi hfree hr ho H
    refine ⟨fun h => (by rw [h] at hr; cases hr), fun j hj => ?_⟩
    by_cases hji : j = i
    · subst hji; unfold aOp; rw [hi]; exact ⟨σi, ho, H⟩
    · have h1 := H.2 j (ready_mono hj hji)
      obtain ⟨hjun, oj, hoj, hall⟩ := mem_ready.1 hj
      have hoj' : ops[j]? = some oj := by simpa using hoj
      have hnot : ∀ e ∈ oj.after, Region.binds .any e = true → e.on ≠ i := fun e he hb heq => by
        have h1 := hall e he hb
        have h0 := (mem_ready.1 hr).1
        rw [heq] at h1
        rcases Nat.lt_or_ge i listed.size with h' | h'
        · simp [h'] at h0 h1; rw [h0] at h1; cases h1
        · simp [Array.getElem?_eq_none h'] at h1
      unfold aOp at h1 ⊢
      rw [hoj'] at h1 ⊢
      obtain ⟨σij, h2, h3⟩ := h1
      obtain ⟨hap, hll⟩ := hfree j oj hoj' hji hjun hnot
      obtain ⟨σj, h4, h5⟩ := outc_comm hap hll ho h2
      refine ⟨σj, h4, ih (listed.setIfInBounds j true) σj σij (fun k ok hk hki hun hno => ?_) (ready_mono hr (Ne.symm hji)) h5 (by rw [Array.setIfInBounds_comm _ _ hji]; exact h3)⟩
      refine hfree k ok hk hki ?_ hno
      by_cases hjk : j = k
      · subst hjk; exact hjun
      · rw [getD_set_ne true hjk] at hun; exact hun

/-- The text's order. -/
def aLex (T : Nat → Option TI) (Γ : Nat → Option PSpec) (M L : List Nat) (all : List Oper) (Q : St → Prop) : List Oper → Nat → St → Prop
  | [], _, σ => Q σ
  | o :: os, k, σ => ∃ σ1, outc T Γ all (dIn o.dst M) (inL k L) o σ σ1 ∧ aLex T Γ M L all Q os (k + 1) σ1

def rdAt (ops : Array Oper) (i : Nat) : Bool := match ops[i]? with | some o => rdOp o | none => false
/-- Of the operations that may still come, a loud one has none beside it that may come before it and is loud too (but for two that only read). -/
def quietBeside (ops : Array Oper) (L : List Nat) (listed : Array Bool) (i : Nat) : Bool :=
  !(inL i L) || (List.range ops.size).all fun j => j == i || listed.getD j true || !(inL j L) || (rdAt ops i && rdAt ops j) || match ops[j]? with
    | some oj => oj.after.any (fun e => Region.binds .any e && e.on == i)
    | none => true

def lexD (ops : Array Oper) (L : List Nat) : Nat → Nat → Array Bool → Bool
  | 0, _, listed => (Region.ready .any ops listed).isEmpty
  | fuel + 1, k, listed => (Region.ready .any ops listed).contains k && Region.free .any ops listed k && quietBeside ops L listed k && lexD ops L fuel (k + 1) (listed.setIfInBounds k true)

theorem quietBeside_spec {ops : Array Oper} {L : List Nat} {listed : Array Bool} {i : Nat} (h : quietBeside ops L listed i = true) (j : Nat) (oj : Oper) (hj : ops[j]? = some oj) (hne : j ≠ i) (hun : listed.getD j true = false)
    {oi : Oper} (hoi : ops[i]? = some oi) (hno : ∀ e ∈ oj.after, Region.binds .any e = true → e.on ≠ i) : inL i L = false ∨ inL j L = false ∨ (rdOp oi = true ∧ rdOp oj = true) := by
  unfold quietBeside at h
  cases hi : inL i L with
  | false => exact .inl rfl
  | true =>
    refine .inr ?_
    rw [hi] at h
    simp only [Bool.not_true, Bool.false_or, List.all_eq_true, List.mem_range] at h
    have h1 := h j (Array.getElem?_eq_some_iff.1 hj).1
    simp only [hj, hoi, rdAt, Bool.or_eq_true, Bool.and_eq_true, beq_iff_eq, hne, false_or, hun, Bool.false_eq_true, Bool.not_eq_true'] at h1
    rcases h1 with (h1 | h1) | h1
    · exact .inl h1
    · exact .inr h1
    · obtain ⟨e, he, hb⟩ := Array.any_eq_true'.1 h1
      simp only [Bool.and_eq_true, beq_iff_eq] at hb
      exact absurd hb.2 (hno e he hb.1)

theorem aAny_lex {M L : List Nat} {ops : List Oper} {Q : St → Prop} : ∀ (l : List Oper) (k : Nat) (listed : Array Bool) (σ : St), (∀ j, l[j]? = ops[k + j]?) →
    lexD ops.toArray L l.length k listed = true → aLex T Γ M L ops Q l k σ → aAny T Γ M L ops Q l.length listed σ
  | [], _, _, _, _, hB, h => ⟨by simpa [lexD] using hB, h⟩
  | o :: l, k, listed, σ, hl, hB, h => by
    have h0 : ops[k]? = some o := by simpa using (hl 0).symm
    have h0' : ops.toArray[k]? = some o := by simpa using h0
    simp only [List.length_cons, lexD, Bool.and_eq_true] at hB
    obtain ⟨⟨⟨hr, hf⟩, hq⟩, hB'⟩ := hB
    obtain ⟨σ1, h1, h2⟩ := h
    exact aAny_first h0 l.length listed σ σ1 (fun j oj hj hne hun hno => ⟨Region.free_spec h0' hf j oj (by simpa using hj) hne hun hno, quietBeside_spec hq j oj (by simpa using hj) hne hun h0' hno⟩) (by simpa using hr) h1
      (aAny_lex l (k + 1) _ σ1 (fun j => by have := hl (j + 1); simpa [Nat.add_assoc, Nat.add_comm 1 j] using this) hB' h2)

/-- It is the model's. -/
theorem outc_sound {c : Cx} {G : Nat → Prop} {β : Nat → Value} {σ σ1 : St} {a : Act} {w : World} (hT : TOk c.P T) (hΓ : ∀ f s, Γ f = some s → PSound c.P f s) (hc : Conc c G β σ a w) {all : List Oper} {own loud : Bool} {o : Oper}
    (hN : ∀ (j g : Nat), (all[j]?).bind (fun o => o.dst) = some g → g < c.N) (hd : ∀ t, o.dst = some t → t < c.N) (h : outc T Γ all own loud o σ σ1) {K : Act → World → Prop} {Q : Exit → Act → World → Prop}
    (hK : ∀ G' β' a' w', Conc c G' β' σ1 a' w' → K a' w') :
    if Region.wanted o (yielded all.toArray a.tmps) then o.wp c.P a w K Q ∨ (o.asks c.P a w ∧ LetsOut Q) else K (a.put o.dst undef) w := by
  have hgate : ∀ b, gate all o σ.env = some b → Region.wanted o (yielded all.toArray a.tmps) = b := fun b hb => by
    unfold gate at hb
    cases hg : o.guard with
    | none => rw [hg] at hb; cases hb; simp [Region.wanted, hg]
    | some p =>
      obtain ⟨j, want⟩ := p
      rw [hg] at hb
      dsimp only at hb
      split at hb
      · rename_i g hj
        split at hb
        · rename_i b' he
          cases hb
          have hj' : (all.toArray[j]?).bind (·.dst) = some g := by simpa using hj
          have hy := yielded_eq hc hj' (hN j g hj) he
          simp only [Region.wanted, hg, hy]
          cases b' <;> cases want <;> rfl
        · rename_i he
          cases hb
          have hj' : (all.toArray[j]?).bind (·.dst) = some g := by simpa using hj
          have hy := yielded_none hc hj' (hN j g hj) he
          simp only [Region.wanted, hg, hy]
          cases want <;> rfl
        · cases hb
      · cases hb
  unfold outc at h
  split at h
  · rename_i hg
    rw [if_pos (hgate _ hg)]
    refine .inl ?_
    unfold runs at h
    split at h
    · rename_i g s xs hco
      obtain ⟨r, x, σ', h1, h2, rfl⟩ := h
      exact call_sound hΓ hc hco h1 h2 fun G' β' w' v h3 h4 h5 => hK G' β' _ w' (h3.put hd h4 h5)
    · split at h
      · split at h
        · rename_i φ x σ' h1
          obtain ⟨h2, rfl⟩ := h
          exact step_sound hT hc h1 h2 hd hK
        · exact callL_sound hT hΓ hc h fun x σ' G' β' w' v e1 h1 h2 h3 => by subst e1; exact hK G' β' _ w' (h1.put hd h2 h3)
      · obtain ⟨φ, x, h1, h2, rfl⟩ := h
        exact step_sound (own := false) hT hc (by unfold step1; rw [h1]) h2 hd hK
  · rename_i hg
    rw [if_neg (by rw [hgate _ hg]; simp)]
    subst h
    exact hK G β _ w (hc.put hd undef_rep rfl)
  · exact h.elim

theorem any_sound {c : Cx} (hT : TOk c.P T) (hΓ : ∀ f s, Γ f = some s → PSound c.P f s) {M L : List Nat} {ops : List Oper} {Q : Exit → Act → World → Prop} {K : St → Prop}
    (hK : ∀ σ G β a w, K σ → Conc c G β σ a w → Q .normal a w) (hN : ∀ (j g : Nat), (ops[j]?).bind (fun o => o.dst) = some g → g < c.N) :
    ∀ (fuel : Nat) (listed : Array Bool) (σ : St) (G : Nat → Prop) (β : Nat → Value) (a : Act) (w : World), aAny T Γ M L ops K fuel listed σ → Conc c G β σ a w → wpAny c.P .any ops.toArray Q fuel listed a w
  | 0, listed, σ, G, β, a, w, h, hc => ⟨h.1, hK σ G β a w h.2 hc⟩
  | fuel + 1, listed, σ, G, β, a, w, h, hc => by
    refine ⟨fun h0 => hK σ G β a w (h.1 h0) hc, fun i hi => ?_⟩
    have h1 := h.2 i hi
    unfold aOp at h1
    unfold wpOp
    have hgo : ops.toArray[i]? = ops[i]? := by simp
    rw [hgo]
    cases ho : ops[i]? with
    | none => rw [ho] at h1; exact any_sound hT hΓ hK hN fuel _ σ G β a w h1 hc
    | some o =>
      rw [ho] at h1
      obtain ⟨σ1, h2, h3⟩ := h1
      exact outc_sound hT hΓ hc hN (fun t ht => hN i t (by rw [ho]; exact ht)) h2 fun G' β' a' w' hc' => any_sound hT hΓ hK hN fuel _ σ1 G' β' a' w' h3 hc'

/-- The walk in the text's order, as a thing that reduces. -/
def evD (T : Nat → Option TI) (Γ : Nat → Option PSpec) (M nm L : List Nat) (all : List Oper) : List Oper → Nat → St → (St → Prop) → Prop
  | [], _, σ, K => K σ
  | o :: os, k, σ, K =>
      let run : Prop := match callOf T Γ o σ.env with
        | some (_, s, xs) => ∃ r, s.spec xs r ∧ match afterCall (dIn o.dst M && inL k L) σ r with
          | none => False
          | some (x, σ') => lay (dIn o.dst nm) o.dst x σ' fun σ'' => evD T Γ M nm L all os (k + 1) σ'' K
        | none => match inL k L with
          | true => match step1 T (dIn o.dst M) o σ with
            | none => callL T Γ (dIn o.dst M) o σ fun x σ' => lay (dIn o.dst nm) o.dst x σ' fun σ'' => evD T Γ M nm L all os (k + 1) σ'' K
            | some (φ, x, σ') => andO φ (lay (dIn o.dst nm) o.dst x σ' fun σ'' => evD T Γ M nm L all os (k + 1) σ'' K)
          | false => match pstep T false o σ.env with
            | none => False
            | some (φ, x) => andO φ (lay (dIn o.dst nm) o.dst x σ fun σ'' => evD T Γ M nm L all os (k + 1) σ'' K)
      match o.guard with
      | none => run
      | some (j, want) => match (all[j]?).bind (fun o => o.dst) with
        | some g => match σ.env g with
          | .s (.bool true) => match want with | true => run | false => lay false o.dst (.tup []) σ fun σ'' => evD T Γ M nm L all os (k + 1) σ'' K
          | .s (.bool false) => match want with | false => run | true => lay false o.dst (.tup []) σ fun σ'' => evD T Γ M nm L all os (k + 1) σ'' K
          | .tup [] => lay false o.dst (.tup []) σ fun σ'' => evD T Γ M nm L all os (k + 1) σ'' K
          | _ => False
        | none => False

theorem lex_of_evD {M nm L : List Nat} {all : List Oper} {K : St → Prop} : ∀ {os : List Oper} {k : Nat} {σ : St}, evD T Γ M nm L all os k σ K → aLex T Γ M L all K os k σ
  | [], k, σ, h => h
  | o :: os, k, σ, h => by
    unfold evD at h
    dsimp only at h
    have hrun : (match callOf T Γ o σ.env with
        | some (_, s, xs) => ∃ r, s.spec xs r ∧ match afterCall (dIn o.dst M && inL k L) σ r with
          | none => False
          | some (x, σ') => lay (dIn o.dst nm) o.dst x σ' fun σ'' => evD T Γ M nm L all os (k + 1) σ'' K
        | none => match inL k L with
          | true => match step1 T (dIn o.dst M) o σ with
            | none => callL T Γ (dIn o.dst M) o σ fun x σ' => lay (dIn o.dst nm) o.dst x σ' fun σ'' => evD T Γ M nm L all os (k + 1) σ'' K
            | some (φ, x, σ') => andO φ (lay (dIn o.dst nm) o.dst x σ' fun σ'' => evD T Γ M nm L all os (k + 1) σ'' K)
          | false => match pstep T false o σ.env with
            | none => False
            | some (φ, x) => andO φ (lay (dIn o.dst nm) o.dst x σ fun σ'' => evD T Γ M nm L all os (k + 1) σ'' K)) →
        ∃ σ1, runs T Γ (dIn o.dst M) (inL k L) o σ σ1 ∧ aLex T Γ M L all K os (k + 1) σ1 := fun h => by
      unfold runs
      split at h
      · obtain ⟨r, h1, h2⟩ := h
        split at h2
        · exact h2.elim
        · rename_i x σ' hx
          exact ⟨_, ⟨r, x, σ', h1, hx, rfl⟩, lex_of_evD (lay_out h2)⟩
      · split at h
        · split at h
          · rename_i hs
            obtain ⟨x, hp, nx, e1, e2⟩ := callL_env h
            refine ⟨_, ?_, lex_of_evD (lay_out e1)⟩
            rw [hs]
            exact e2 σ.env (fun _ _ _ => rfl) _ rfl
          · rename_i φ x σ' hs
            obtain ⟨h1, h2⟩ := andO_out h
            refine ⟨_, ?_, lex_of_evD (lay_out h2)⟩
            rw [hs]
            exact ⟨h1, rfl⟩
        · split at h
          · exact h.elim
          · rename_i φ x hs
            obtain ⟨h1, h2⟩ := andO_out h
            exact ⟨_, ⟨φ, x, hs, h1, rfl⟩, lex_of_evD (lay_out h2)⟩
    have hgo : gate all o σ.env = some true → (∃ σ1, runs T Γ (dIn o.dst M) (inL k L) o σ σ1 ∧ aLex T Γ M L all K os (k + 1) σ1) → aLex T Γ M L all K (o :: os) k σ := fun hg ⟨σ1, h1, h2⟩ =>
      ⟨σ1, by unfold outc; rw [hg]; exact h1, h2⟩
    have hskip : gate all o σ.env = some false → (lay false o.dst (.tup []) σ fun σ'' => evD T Γ M nm L all os (k + 1) σ'' K) → aLex T Γ M L all K (o :: os) k σ := fun hg h =>
      ⟨σ.put o.dst (.tup []), by unfold outc; rw [hg], lex_of_evD (lay_out h)⟩
    split at h
    · rename_i hg
      exact hgo (by simp [gate, hg]) (hrun h)
    · rename_i j want hg
      split at h
      · rename_i g hj
        split at h
        · rename_i he
          split at h
          · exact hgo (by simp [gate, hg, hj, he]) (hrun h)
          · exact hskip (by simp [gate, hg, hj, he]) h
        · rename_i he
          split at h
          · exact hgo (by simp [gate, hg, hj, he]) (hrun h)
          · exact hskip (by simp [gate, hg, hj, he]) h
        · rename_i he
          exact hskip (by simp [gate, hg, hj, he]) h
        · exact h.elim
      · exact h.elim

/-- A REGION WHOSE ORDER IS DRAWN. L: the operations that may touch what the frame owns. -/
theorem tri_drawn {c : Cx} (hT : TOk c.P T) (hΓ : ∀ f s, Γ f = some s → PSound c.P f s) (hm : c.P.follows .mixedOrders = true) {id : Nat} {ops : List Oper} {σ : St} {Q : End → St → Prop} (M nm L : List Nat)
    (hN : dstsOk c.N ops = true) (hB : lexD ops.toArray L ops.length 0 (Array.replicate ops.length false) = true) (h : evD T Γ M nm L ops ops 0 σ (Q .normal)) : Tri c (.region id ops.toArray true) σ Q := by
  unfold Tri
  intro G β a w hc
  refine wp_region_any hm ?_
  have h1 := aAny_lex (ops := ops) (M := M) (L := L) ops 0 (Array.replicate ops.length false) σ (fun j => by simp) hB (lex_of_evD h)
  have hc' := hc.ext (Ext.drew hc.lt)
  have := any_sound hT hΓ (Q := fun e a' w' => ∃ e' G' β' σ', e = toExit e' ∧ Q e' σ' ∧ Conc c G' β' σ' a' w') (fun σ' G' β' a' w' hk hc' => ⟨.normal, G', β', σ', rfl, hk, hc'⟩) (dstsOk_spec hN) _ _ σ G β a _ h1 hc'
  simpa using this

end
end Go.Abs
