/-
  Joined out of: AbsL, AbsM, AbsN, AbsO, AbsP, AbsQ, MTyp, MLib, MNod, MCnt, AbsS, AbsT, AbsU, AbsV, AbsW, AbsX.
-/
import Derived.OrdersIn
import Derived.Test.YtgfneloodabafaaGreatDoorRows
import Derived.WalkKit
import Derived.ProofKit
import Derived.OpenShut
import Derived.JoinedCond
import Derived.Carry
import Derived.Deep.Slices
import Derived.Lib.Strings
import Derived.Lib.Slices
import Derived.Lib.Bytealg
import Derived.Lib.ItoaNum
import Derived.Test.YtgfneloodabafaaGreatDoorZb
set_option linter.unusedVariables false
set_option linter.unusedSimpArgs false
set_option maxHeartbeats 2000000
set_option maxRecDepth 100000
namespace Go.Abs
section
variable {T : Nat → Option TI} {Γ : Nat → Option zAy} {env env' : Nat → AV}
theorem zHt {place : Nat → Option (Nat × Nat)} : ∀ {parts : List (Nat × Operand)} {cells : List AV}, (∀ p ∈ parts, ∀ ty, opd T env ty p.2 = opd T env' ty p.2) → zJq T env place cells parts = zJq T env' place cells parts
 | [], _, _ => rfl
 | (j, x) :: r, cells, h => by
  have h1 := h (j, x) (by simp)
  simp only [zJq, zDh]
  split
  ·rfl
  ·split
   ·rfl
   ·simp only [h1]
    split
    ·exact zHt fun p hp => h p (by simp [hp])
    ·rfl
theorem zGE {e : Nat} : ∀ {parts : List (Nat × Operand)} {i : Nat}, (∀ p ∈ parts, ∀ ty, opd T env ty p.2 = opd T env' ty p.2) → zId T env e i parts = zId T env' e i parts
 | [], _, _ => rfl
 | (j, x) :: r, i, h => by
  have h1 := h (j, x) (by simp)
  simp only [zId, h1, zGE (parts := r) fun p hp => h p (by simp [hp])]
theorem zKo {ty : Nat} {xs : List Operand} (h : ∀ x ∈ xs, ∀ ty, opd T env ty x = opd T env' ty x) : xs.map (opd T env ty) = xs.map (opd T env' ty) :=
 List.map_congr_left fun x hx => h x hx ty
theorem zIz : ∀ {xs : List Operand} {ts : List Nat}, (∀ x ∈ xs, ∀ ty, opd T env ty x = opd T env' ty x) → opds T env xs ts = opds T env' xs ts
 | [], _, _ => rfl
 | x :: xs, ts, h => by
  simp only [opds, h x (by simp), zIz (xs := xs) fun y hy => h y (by simp [hy])]
theorem zKB : ∀ {xs : List Operand} {ts : List Nat}, (∀ x ∈ xs, ∀ ty, opd T env ty x = opd T env' ty x) → zOB T env xs ts = zOB T env' xs ts
 | [], _, _ => rfl
 | x :: xs, ts, h => by
  simp only [zOB]
  rw [h x List.mem_cons_self, zKB fun y hy => h y (List.mem_cons_of_mem _ hy)]
theorem zLY {ty : Nat} {x : Option Operand} (h : ∀ y, x = some y → ∀ ty, opd T env ty y = opd T env' ty y) : x.map (opd T env ty) = x.map (opd T env' ty) := by
 cases x with
 | none => rfl
 | some y => simp [h y rfl]
theorem zEZ {own : Bool} {o : Oper} (h : ∀ x ∈ o.op.operands, ∀ ty, opd T env ty x = opd T env' ty x) : zCC T own o env = zCC T own o env' := by
 unfold zCC
 cases hop : o.op <;> rw [hop] at h <;> simp only [Op.operands] at h <;> (try dsimp only)
 case move x => simp only [h x (by simp)]
 case assign x => simp only [h x (by simp)]
 case pick c x y => simp only [h c (by simp), h x (by simp), h y (by simp)]
 case box t x => simp only [h x (by simp)]
 case build t parts =>
  unfold zQk
  have hp : ∀ p ∈ parts.toList, ∀ ty, opd T env ty p.2 = opd T env' ty p.2 := fun p hp => h p.2 (by simp; exact ⟨p.1, by simpa using hp⟩)
  split
  ·rfl
  ·split
   ·rw [zHt hp]
   ·split
    ·rw [zHt hp]
    ·rfl
   ·rfl
 case buildSlice t n parts =>
  have hp : ∀ p ∈ parts.toList, ∀ ty, opd T env ty p.2 = opd T env' ty p.2 := fun p hp => h p.2 (by simp; exact ⟨p.1, by simpa using hp⟩)
  split
  ·split
   ·split
    ·rw [zGE hp]
    ·rfl
   ·rfl
  ·rfl
 case load t x => simp only [h x (by simp)]
 case nilCheck x => simp only [h x (by simp)]
 case binOp op t x y u => simp only [h x (by simp), h y (by simp)]
 case unOp op t x => simp only [h x (by simp)]
 case convert src dst x => simp only [h x (by simp)]
 case makeFunc fn first caps =>
  cases fn <;> dsimp only
  split
  ·rfl
  ·rename_i cs e1 e2 e3
   have : ∀ x ∈ caps.toList, ∀ ty, opd T env ty x = opd T env' ty x := fun x hx => h x (by simp; exact .inr (by simpa using hx))
   rw [zKo this]
  ·rfl
 case slice t x lo hi mx =>
  cases mx <;> dsimp only
  rw [h x (by simp), zLY (fun y e => h y (by subst e; simp)), zLY (x := hi) (fun y e => h y (by subst e; simp))]
 case fieldAddr t x f => simp only [h x (by simp)]
 case field t x f => simp only [h x (by simp)]
 case indexAddr t x i => simp only [h x (by simp), h i (by simp)]
 case index t x i => simp only [h x (by simp), h i (by simp)]
 case extract x i => simp only [h x (by simp)]
 case call c =>
  obtain ⟨callee, args, ts⟩ := c
  have ha : ∀ x ∈ args.toList, ∀ ty, opd T env ty x = opd T env' ty x := fun x hx => h x (by simp [Call.operands]; exact .inr (by simpa using hx))
  cases callee with
  | builtin b =>
   cases b <;> dsimp only
   case len =>
    split
    ·rename_i x t e1 e2
     rw [ha x (by rw [e1]; simp)]
    ·rfl
   case cap =>
    split
    ·rename_i x t e1 e2
     rw [ha x (by rw [e1]; simp)]
    ·rfl
   case min => rw [zKo ha]
   case max => rw [zKo ha]
   case copy =>
    split
    ·rename_i x y t tx e1 e2
     rw [ha x (by rw [e1]; simp), ha y (by rw [e1]; simp)]
    ·rfl
  | value f => rfl
  | invoke r m => rfl
theorem zDz {o : Oper} (h : ∀ x ∈ o.op.operands, ∀ ty, opd T env ty x = opd T env' ty x) : callOf T Γ o env = callOf T Γ o env' := by
 unfold callOf
 split
 ·rename_i f args ts ho
  rw [ho] at h
  simp only [Op.operands, Call.operands] at h
  have ha : ∀ x ∈ args.toList, ∀ ty, opd T env ty x = opd T env' ty x := fun x hx => h x (by simp; exact .inr (by simpa using hx))
  unfold zNR
  rw [h f (by simp), zIz ha, zKB ha]
 ·rfl
theorem zEu {o : Oper} (h : ∀ x ∈ o.op.operands, ∀ ty, opd T env ty x = opd T env' ty x) : zCD T o env = zCD T o env' := by
 unfold zCD
 split
 ·rename_i f args ts ho
  rw [ho] at h
  simp only [Op.operands, Call.operands] at h
  have ha : ∀ x ∈ args.toList, ∀ ty, opd T env ty x = opd T env' ty x := fun x hx => h x (by simp; exact .inr (by simpa using hx))
  rw [h f (by simp), zIz ha]
 ·rfl
def zTr (env : Nat → AV) (r : Option Prop × AV × St) : Option Prop × AV × St := (r.1, r.2.1, { r.2.2 with env := env })
theorem zPA {own : Bool} {o : Oper} {σ : St} (h : ∀ x ∈ o.op.operands, ∀ ty, opd T σ.env ty x = opd T env' ty x) :
  zDk T own o { σ with env := env' } = (zDk T own o σ).map (zTr env') := by
 obtain ⟨env, hp, nx⟩ := σ
 dsimp only at h
 unfold zDk
 simp only [zDh]
 cases hop : o.op <;> rw [hop] at h <;> simp only [Op.operands] at h <;> (try dsimp only)
 case move x =>
  split
  ·split <;> rfl
  ·rfl
 case assign x =>
  split
  ·split <;> rfl
  ·rfl
 case box t x =>
  rw [← h x (by simp)]
  split <;> rfl
 case alloc t => split <;> rfl
 case buildSlice t n parts =>
  have hp : ∀ p ∈ parts.toList, ∀ ty, opd T env ty p.2 = opd T env' ty p.2 := fun p hp => h p.2 (by simp; exact ⟨p.1, by simpa using hp⟩)
  split
  ·rw [← zGE hp]
   split
   ·split <;> rfl
   ·rfl
  ·rfl
 case makeSlice t l c =>
  rw [← h l (by simp), ← h c (by simp)]
  split
  ·split <;> rfl
  ·rfl
 case load t x =>
  rw [← h x (by simp)]
  split
  ·split
   ·split
    ·split <;> rfl
    ·split <;> rfl
   ·rfl
  ·rfl
 case store t x y =>
  rw [← h x (by simp), ← h y (by simp)]
  split
  ·split
   ·split <;> rfl
   ·rfl
  ·split
   ·split <;> rfl
   ·rfl
  ·rfl
 case indexAddr t x i =>
  rw [← h x (by simp), ← h i (by simp)]
  split
  ·split
   ·split <;> rfl
   ·rfl
  ·rfl
 case convert src dst x =>
  rw [← h x (by simp)]
  split
  ·split
   ·split <;> rfl
   ·rfl
  ·split
   ·split <;> rfl
   ·rfl
  ·rfl
 case slice t x lo hi mx =>
  cases lo <;> cases hi <;> cases mx <;> try rfl
  rename_i hi
  dsimp only
  rw [← h x (by simp), ← h hi (by simp)]
  split
  ·split
   ·split <;> rfl
   ·rfl
  ·rfl
 case call c =>
  obtain ⟨callee, args, ts⟩ := c
  have ha : ∀ x ∈ args.toList, ∀ ty, opd T env ty x = opd T env' ty x := fun x hx => h x (by simp [Call.operands]; exact .inr (by simpa using hx))
  cases callee with
  | builtin b =>
   cases b <;> try rfl
   case len =>
    dsimp only
    split
    ·rename_i x t e1 e2
     rw [← ha x (by rw [e1]; simp)]
     split
     ·split <;> rfl
     ·rfl
    ·rfl
   case append =>
    dsimp only
    split
    ·rename_i x y t tx e1 e2
     rw [← ha x (by rw [e1]; simp), ← ha y (by rw [e1]; simp)]
     unfold zHv
     have e3 : ∀ z, zI1 ⟨env', hp, nx⟩ z = zI1 ⟨env, hp, nx⟩ z := fun z => by cases z <;> rfl
     have e4 : ∀ z, rowsOf T ⟨env', hp, nx⟩ tx z = rowsOf T ⟨env, hp, nx⟩ tx z := fun z => by unfold rowsOf; rfl
     rw [e3, e4]
     split
     ·split
      ·split
       ·rfl
       ·split <;> rfl
      ·rfl
     ·rfl
    ·rfl
  | value f => rfl
  | invoke r m => rfl
 all_goals rfl
theorem zOj {o : Oper} {σ : St} (h : ∀ x ∈ o.op.operands, ∀ ty, opd T σ.env ty x = opd T env' ty x) :
  zCS T o { σ with env := env' } = (zCS T o σ).map (zTr env') := by
 obtain ⟨env, hp, nx⟩ := σ
 dsimp only at h
 unfold zCS
 cases hop : o.op <;> rw [hop] at h <;> simp only [Op.operands] at h <;> (try dsimp only)
 case buildSlice t n parts =>
  have hp : ∀ p ∈ parts.toList, ∀ ty, opd T env ty p.2 = opd T env' ty p.2 := fun p hp => h p.2 (by simp; exact ⟨p.1, by simpa using hp⟩)
  have hc : ∀ (e : Nat) (ps : List (Nat × Operand)) (i : Nat), (∀ p ∈ ps, ∀ ty, opd T env ty p.2 = opd T env' ty p.2) → zGD T env e i ps = zGD T env' e i ps := by
   intro e ps
   induction ps with
   | nil => intro i _; rfl
   | cons p ps ih =>
    intro i hh
    obtain ⟨j, x⟩ := p
    simp only [zGD]
    rw [hh (j, x) (by simp), ih (i + 1) fun p hp => hh p (by simp [hp])]
  split
  ·rw [← hc _ _ _ hp]
   split
   ·split <;> rfl
   ·rfl
  ·rfl
 case store t x y =>
  rw [← h x (by simp), ← h y (by simp)]
  split
  ·split
   ·split <;> rfl
   ·rfl
  ·rfl
 case indexAddr t x i =>
  rw [← h x (by simp), ← h i (by simp)]
  split
  ·split
   ·split <;> rfl
   ·rfl
  ·rfl
 case slice t x lo hi mx =>
  cases lo <;> cases hi <;> cases mx <;> try rfl
  rename_i hi
  dsimp only
  rw [← h x (by simp), ← h hi (by simp)]
  split
  ·split
   ·split <;> rfl
   ·rfl
  ·rfl
 case call c =>
  obtain ⟨callee, args, ts⟩ := c
  have ha : ∀ x ∈ args.toList, ∀ ty, opd T env ty x = opd T env' ty x := fun x hx => h x (by simp [Call.operands]; exact .inr (by simpa using hx))
  cases callee with
  | builtin b =>
   cases b <;> try rfl
   case len =>
    dsimp only
    split
    ·rename_i x t e1 e2
     rw [← ha x (by rw [e1]; simp)]
     split
     ·split <;> rfl
     ·rfl
    ·rfl
   case append =>
    dsimp only
    split
    ·rename_i x y t tx e1 e2
     rw [← ha x (by rw [e1]; simp), ← ha y (by rw [e1]; simp)]
     have e3 : ∀ z, zJo ⟨env', hp, nx⟩ z = zJo ⟨env, hp, nx⟩ z := fun z => by cases z <;> rfl
     have e4 : ∀ z, zJv T ⟨env', hp, nx⟩ tx z = zJv T ⟨env, hp, nx⟩ tx z := fun z => by unfold zJv; rfl
     rw [e3, e4]
     split
     ·split <;> rfl
     ·rfl
    ·rfl
   case copy =>
    dsimp only
    split
    ·rename_i x y t tx e1 e2
     rw [← ha x (by rw [e1]; simp), ← ha y (by rw [e1]; simp)]
     have e3 : ∀ z, zJo ⟨env', hp, nx⟩ z = zJo ⟨env, hp, nx⟩ z := fun z => by cases z <;> rfl
     have e4 : ∀ z, zJv T ⟨env', hp, nx⟩ tx z = zJv T ⟨env, hp, nx⟩ tx z := fun z => by unfold zJv; rfl
     rw [e3, e4]
     split
     ·split <;> rfl
     ·rfl
    ·rfl
  | value f => rfl
  | invoke r m => rfl
 all_goals rfl
theorem zGt {own : Bool} {o : Oper} {σ : St} (h : ∀ x ∈ o.op.operands, ∀ ty, opd T σ.env ty x = opd T env' ty x) :
  zB7 T own o { σ with env := env' } = (zB7 T own o σ).map (zTr env') := by
 unfold zB7
 rw [zPA h, zOj h]
 cases zDk T own o σ <;> rfl
theorem zQR {own : Bool} {o : Oper} {σ σ' : St} {φ : Option Prop} {x : AV} (h : zB7 T own o σ = some (φ, x, σ')) : σ'.env = σ.env := by
 have := zGt (T := T) (own := own) (o := o) (σ := σ) (env' := σ.env) (fun _ _ _ => rfl)
 have e : ({ σ with env := σ.env } : St) = σ := rfl
 rw [e, h] at this
 simp only [Option.map_some, Option.some.injEq, zTr, Prod.mk.injEq] at this
 rw [this.2.2]
def zKq (Γ : Nat → Option zAy) (f : Nat) : Option zAy :=
 match Γ f with
 | some s => match s.heap with | none => some s | some _ => none
 | none => none
theorem zLU {Γ : Nat → Option zAy} {f : Nat} {s : zAy} (h : zKq Γ f = some s) : Γ f = some s ∧ s.heap = none := by
 unfold zKq at h
 split at h
 ·split at h
  ·cases h; exact ⟨by assumption, by assumption⟩
  ·cases h
 ·cases h
def runs (T : Nat → Option TI) (Γ : Nat → Option zAy) (own loud : Bool) (o : Oper) (σ σ1 : St) : Prop :=
 match callOf T Γ o σ.env with
 | some (_, s, xs) => ∃ r x σ', s.spec xs r ∧ zBD (own && loud) σ r = some (x, σ') ∧ σ1 = σ'.put o.dst x
 | none => match loud with
  | true => match step1 T own o σ with
   | some (φ, x, σ') => φ.getD True ∧ σ1 = σ'.put o.dst x
   | none => zFD T (zKq Γ) own o σ fun x σ' => σ1 = σ'.put o.dst x
  | false => ∃ φ x, zCC T false o σ.env = some (φ, x) ∧ φ.getD True ∧ σ1 = σ.put o.dst x
def gate (all : List Oper) (o : Oper) (env : Nat → AV) : Option Bool :=
 match o.guard with
 | none => some true
 | some (j, want) => match (all[j]?).bind (fun o => o.dst) with
  | some g => match env g with
   | .s (.bool b) => some (b == want)
   | .tup [] => some false
   | _ => none
  | none => none
def outc (T : Nat → Option TI) (Γ : Nat → Option zAy) (all : List Oper) (own loud : Bool) (o : Oper) (σ σ1 : St) : Prop :=
 match gate all o σ.env with
 | some true => runs T Γ own loud o σ σ1
 | some false => σ1 = σ.put o.dst (.tup [])
 | none => False
theorem put_comm {σ : St} {d e : Option Nat} {x y : AV} (h : ∀ t, d = some t → e ≠ some t) : (σ.put d x).put e y = (σ.put e y).put d x := by
 cases d <;> cases e <;> try rfl
 rename_i d e
 simp only [St.put, St.mk.injEq, and_self, and_true]
 funext t
 cases h1 : Nat.beq t e with
 | false => simp
 | true =>
  cases h2 : Nat.beq t d with
  | false => simp
  | true =>
   have := Nat.eq_of_beq_eq_true h1
   have := Nat.eq_of_beq_eq_true h2
   exact absurd (by congr 1; omega) (h d rfl)
theorem zT8 {σ : St} {d : Option Nat} {x : AV} {t : Nat} (h : ∀ s, d = some s → s ≠ t) : (σ.put d x).env t = σ.env t := by
 cases d with
 | none => rfl
 | some d =>
  simp only [St.put]
  cases e : Nat.beq t d with
  | false => rfl
  | true => exact absurd (Nat.eq_of_beq_eq_true e).symm (h d rfl)
def Alike (all : List Oper) (o : Oper) (env env' : Nat → AV) : Prop := ∀ t ∈ o.looksAt all.toArray, env t = env' t
theorem Alike.opds {all : List Oper} {o : Oper} (h : Alike all o env env') : ∀ x ∈ o.op.operands, ∀ ty, opd T env ty x = opd T env' ty x := fun x hx ty => by
 cases x with
 | tmp t =>
  refine h t ?_
  unfold Oper.looksAt
  refine List.mem_append.2 (.inl (List.mem_filterMap.2 ⟨.tmp t, by simpa using hx, rfl⟩))
 | _ => rfl
theorem Alike.gate {all : List Oper} {o : Oper} (h : Alike all o env env') : gate all o env = gate all o env' := by
 unfold Abs.gate
 cases hg : o.guard with
 | none => rfl
 | some p =>
  obtain ⟨j, want⟩ := p
  dsimp only
  cases hj : (all[j]?).bind (fun o => o.dst) with
  | none => rfl
  | some g =>
   dsimp only
   have : env g = env' g := h g (by
    unfold Oper.looksAt
    refine List.mem_append.2 (.inr ?_)
    rw [hg]
    dsimp only
    have : (all.toArray[j]?).bind (fun o => o.dst) = some g := by simpa using hj
    rw [this]; simp)
   rw [this]
theorem Alike.put {all : List Oper} {o : Oper} {σ : St} {d : Option Nat} {x : AV} (h : ∀ t, d = some t → t ∉ o.looksAt all.toArray) : Alike all o (σ.put d x).env σ.env := fun t ht =>
 zT8 fun s hs e => h s hs (e ▸ ht)
theorem zJX {σ σ' : St} {r : Ret} {x : AV} (h : zBD false σ r = some (x, σ')) : σ' = σ ∧ ∀ σ2, zBD false σ2 r = some (x, σ2) := by
 unfold zBD at h ⊢
 split at h
 ·split at h
  ·rename_i e; cases h; exact ⟨rfl, fun σ2 => by simp [e]⟩
  ·cases h
 ·cases h; exact ⟨rfl, fun σ2 => rfl⟩
theorem zHU {own : Bool} {σ σ' : St} {r : Ret} {x : AV} (h : zBD own σ r = some (x, σ')) : σ'.env = σ.env ∧ ∀ env', zBD own { σ with env := env' } r = some (x, { σ' with env := env' }) := by
 unfold zBD at h ⊢
 split at h
 ·split at h
  ·rename_i e; cases h; exact ⟨rfl, fun σ2 => by simp [e]⟩
  ·cases h
 ·split at h <;> cases h <;> exact ⟨rfl, fun σ2 => rfl⟩
theorem zI0 {own : Bool} {σ σ' : St} {r : Ret} {x : AV} (h : zBD own σ r = some (x, σ')) : σ.nx ≤ σ'.nx := by
 unfold zBD at h
 split at h
 ·split at h
  ·cases h; exact Nat.le_refl _
  ·cases h
 ·split at h
  ·cases h; exact Nat.le_succ _
  ·cases h; exact Nat.le_refl _
theorem zRO {own : Bool} {o : Oper} {σ σ' : St} {φ : Option Prop} {x : AV} (h : zB7 T own o σ = some (φ, x, σ')) : σ.nx ≤ σ'.nx := by
 have a1 : ∀ (ob : Ob), σ.nx ≤ (zBU σ ob).nx := fun _ => Nat.le_succ _
 have a2 : ∀ (k : Nat) (ob : Ob), σ.nx ≤ (zBU (zE1 σ k) ob).nx := fun _ _ => Nat.le_succ _
 have a3 : ∀ (k : Nat) (ob : Ob), σ.nx ≤ (zFx σ k ob).nx := fun _ _ => Nat.le_refl _
 have a4 : ∀ (k : Nat), σ.nx ≤ (zE1 σ k).nx := fun _ => Nat.le_refl _
 have hA : ∀ {φ x σ'}, zCS T o σ = some (φ, x, σ') → σ.nx ≤ σ'.nx := fun {φ x σ'} h => by
  unfold zCS at h
  repeat' split at h
  all_goals first | (cases h; first | exact Nat.le_refl _ | exact a1 _ | exact a2 _ _ | exact a3 _ _ | exact a4 _) | cases h
 unfold zB7 at h
 split at h
 ·rename_i r hl
  cases h
  unfold zDk at hl
  simp only [zDh] at hl
  repeat' split at hl
  all_goals first | (cases hl; first | exact Nat.le_refl _ | exact a1 _ | exact a2 _ _ | exact a3 _ _ | exact a4 _) | cases hl | skip
  unfold zHv at hl
  repeat' split at hl
  all_goals first | (cases hl; first | exact Nat.le_refl _ | exact a1 _ | exact a2 _ _ | exact a3 _ _ | exact a4 _) | cases hl
 ·exact hA h
theorem zJ6 {own : Bool} {o : Oper} {σ : St} {K : AV → St → Prop} (h : zFD T (zKq Γ) own o σ K) : ∃ x hp nx, K x ⟨σ.env, hp, nx⟩ ∧ σ.nx ≤ nx ∧
  ∀ env', (∀ x ∈ o.op.operands, ∀ ty, opd T σ.env ty x = opd T env' ty x) → ∀ K' : AV → St → Prop, K' x ⟨env', hp, nx⟩ → zFD T (zKq Γ) own o { σ with env := env' } K' := by
 unfold zFD at h
 split at h
 ·rename_i hraw
  unfold zHw at h
  split at h
  ·rename_i t y ho
   split at h
   ·rename_i k sz i off e
    split at h
    ·rename_i e' sz' rows hh
     split at h
     ·rename_i hsz
      obtain ⟨hi, row, hrow, h⟩ := h
      split at h
      ·rename_i x hl
       refine ⟨x, σ.hp, σ.nx, h, Nat.le_refl _, fun env' ha K' hk => ?_⟩
       unfold zFD
       dsimp only
       rw [← zEu ha, hraw]
       dsimp only
       unfold zHw
       rw [ho]
       dsimp only
       rw [← ha y (by rw [ho]; simp [Op.operands]), e]
       dsimp only
       rw [hh]
       dsimp only
       rw [hsz]
       dsimp only
       refine ⟨hi, row, hrow, ?_⟩
       rw [hl]
       exact hk
      ·exact h.elim
     ·exact h.elim
    ·rename_i e' sz' rows hh
     split at h
     ·rename_i hsz
      obtain ⟨hi, row, hrow, h⟩ := h
      split at h
      ·rename_i x hl
       refine ⟨x, σ.hp, σ.nx, h, Nat.le_refl _, fun env' ha K' hk => ?_⟩
       unfold zFD
       dsimp only
       rw [← zEu ha, hraw]
       dsimp only
       unfold zHw
       rw [ho]
       dsimp only
       rw [← ha y (by rw [ho]; simp [Op.operands]), e]
       dsimp only
       rw [hh]
       dsimp only
       rw [hsz]
       dsimp only
       refine ⟨hi, row, hrow, ?_⟩
       rw [hl]
       exact hk
      ·exact h.elim
     ·exact h.elim
    ·exact h.elim
   ·exact h.elim
  ·exact h.elim
 ·rename_i g xs hraw
  split at h
  ·exact h.elim
  ·rename_i s hs
   have hnh := (zLU hs).2
   rw [hnh] at h
   dsimp only at h
   split at h
   ·rename_i hown
    split at h
    ·exact h.elim
    ·rename_i hp
     obtain ⟨r, hr, h⟩ := h
     split at h
     ·exact h.elim
     ·rename_i x σ' hx
      obtain ⟨e1, e2⟩ := zHU hx
      have e3 : σ'.env = σ.env := by rw [e1]; cases r.flat <;> rfl
      refine ⟨x, σ'.hp, σ'.nx, by rw [← e3]; exact h, (by have := zI0 hx; revert this; cases r.flat <;> exact id), fun env' ha K' hk => ?_⟩
      unfold zFD
      dsimp only
      rw [← zEu ha, hraw]
      dsimp only
      rw [hs]
      dsimp only
      rw [hnh]
      dsimp only
      rw [hown]
      dsimp only
      rw [hp]
      refine ⟨r, hr, ?_⟩
      have e4 := e2 env'
      cases hf : r.flat with
      | true => rw [hf] at e4; dsimp only at e4 ⊢; rw [e4]; exact hk
      | false =>
       rw [hf] at e4
       have e5 : ({ zL5 (AV.keysAll xs) σ with env := env' } : St) = zL5 (AV.keysAll xs) { σ with env := env' } := rfl
       dsimp only at e4 ⊢
       rw [e5] at e4
       rw [e4]; exact hk
   ·rename_i R hown
    have hnil : ∀ env', zFO T s.nil o xs { σ with env := env' } = ((zFO T s.nil o xs σ).1, { (zFO T s.nil o xs σ).2 with env := env' }) := fun env' => by
     unfold zFO
     split
     ·rfl
     ·split
      ·split
       ·split <;> rfl
       ·rfl
      ·rfl
    have hnenv : (zFO T s.nil o xs σ).2.env = σ.env := by
     unfold zFO
     split
     ·rfl
     ·split
      ·split
       ·split <;> rfl
       ·rfl
      ·rfl
    have hnnx : σ.nx ≤ (zFO T s.nil o xs σ).2.nx := by
     unfold zFO
     split
     ·exact Nat.le_refl _
     ·split
      ·split
       ·split
        ·exact Nat.le_succ _
        ·exact Nat.le_refl _
       ·exact Nat.le_refl _
      ·exact Nat.le_refl _
    cases hna : zFO T s.nil o xs σ with
    | mk xs1 σ1 =>
    rw [hna] at h hnil hnenv hnnx
    dsimp only at h hnil hnenv hnnx
    split at h
    ·rename_i os hd hos
     obtain ⟨x, os', hR, h⟩ := h
     refine ⟨_, _, _, by rw [← hnenv]; exact h, Nat.le_trans hnnx (Nat.le_add_right _ _), fun env' ha K' hk => ?_⟩
     unfold zFD
     dsimp only
     rw [← zEu ha, hraw]
     dsimp only
     rw [hs]
     dsimp only
     rw [hnh]
     dsimp only
     rw [hown]
     dsimp only
     rw [hnil]
     dsimp only
     rw [hd, hos]
     exact ⟨x, os', hR, hk⟩
    ·exact h.elim
theorem zOO {all : List Oper} {own : Bool} {o : Oper} {σ σ1 : St} (h : outc T Γ all own false o σ σ1) : ∃ x, σ1 = σ.put o.dst x ∧ ∀ σ2 : St, Alike all o σ.env σ2.env → outc T Γ all own false o σ2 (σ2.put o.dst x) := by
 unfold outc at h
 split at h
 ·rename_i hg
  unfold runs at h
  split at h
  ·rename_i g s xs hco
   obtain ⟨r, x, σ', h1, h2, h3⟩ := h
   rw [Bool.and_false] at h2
   obtain ⟨rfl, h4⟩ := zJX h2
   refine ⟨x, h3, fun σ2 ha => ?_⟩
   unfold outc
   rw [← ha.gate, hg]
   dsimp only
   unfold runs
   rw [← zDz (Γ := Γ) (T := T) ha.opds, hco]
   exact ⟨r, x, σ2, h1, by rw [Bool.and_false]; exact h4 σ2, rfl⟩
  ·rename_i hco
   obtain ⟨φ, x, h1, h2, h3⟩ := h
   refine ⟨x, h3, fun σ2 ha => ?_⟩
   unfold outc
   rw [← ha.gate, hg]
   dsimp only
   unfold runs
   rw [← zDz (Γ := Γ) (T := T) ha.opds, hco]
   exact ⟨φ, x, by rw [← zEZ ha.opds]; exact h1, h2, rfl⟩
 ·rename_i hg
  refine ⟨.tup [], h, fun σ2 ha => ?_⟩
  unfold outc
  rw [← ha.gate, hg]
 ·exact h.elim
theorem zEt {all : List Oper} {own loud : Bool} {o : Oper} {σ σ1 : St} (h : outc T Γ all own loud o σ σ1) : ∃ x hp nx, σ1 = St.put ⟨σ.env, hp, nx⟩ o.dst x ∧ ∀ env', Alike all o σ.env env' → outc T Γ all own loud o { σ with env := env' } (St.put ⟨env', hp, nx⟩ o.dst x) := by
 unfold outc at h
 split at h
 ·rename_i hg
  unfold runs at h
  split at h
  ·rename_i g s xs hco
   obtain ⟨r, x, σ', h1, h2, h3⟩ := h
   obtain ⟨h4, h5⟩ := zHU h2
   refine ⟨x, σ'.hp, σ'.nx, by rw [h3, ← h4], fun env' ha => ?_⟩
   unfold outc
   dsimp only
   rw [← ha.gate, hg]
   dsimp only
   unfold runs
   dsimp only
   rw [← zDz (Γ := Γ) (T := T) ha.opds, hco]
   exact ⟨r, x, _, h1, h5 env', rfl⟩
  ·rename_i hco
   split at h
   ·split at h
    ·rename_i φ x σ' h1
     obtain ⟨h2, h3⟩ := h
     have key : σ'.env = σ.env ∧ ∀ env', Alike all o σ.env env' → step1 T own o { σ with env := env' } = some (φ, x, { σ' with env := env' }) := by
      unfold step1 at h1 ⊢
      split at h1
      ·rename_i p hp
       cases h1
       refine ⟨rfl, fun env' ha => ?_⟩
       dsimp only
       rw [← zEZ ha.opds, hp]
      ·rename_i hp
       refine ⟨zQR h1, fun env' ha => ?_⟩
       dsimp only
       rw [← zEZ ha.opds, hp]
       dsimp only
       rw [zGt (σ := σ) ha.opds, h1]
       rfl
     refine ⟨x, σ'.hp, σ'.nx, by rw [h3, ← key.1], fun env' ha => ?_⟩
     unfold outc
     dsimp only
     rw [← ha.gate, hg]
     dsimp only
     unfold runs
     dsimp only
     rw [← zDz (Γ := Γ) (T := T) ha.opds, hco]
     dsimp only
     rw [key.2 env' ha]
     exact ⟨h2, rfl⟩
    ·rename_i h1
     have key : ∀ env', Alike all o σ.env env' → step1 T own o { σ with env := env' } = none := fun env' ha => by
      unfold step1 at h1 ⊢
      split at h1
      ·cases h1
      ·rename_i hp
       dsimp only
       rw [← zEZ ha.opds, hp]
       dsimp only
       rw [zGt (σ := σ) ha.opds, h1]
       rfl
     obtain ⟨x, hp, nx, e1, _, e2⟩ := zJ6 h
     refine ⟨x, hp, nx, e1, fun env' ha => ?_⟩
     unfold outc
     dsimp only
     rw [← ha.gate, hg]
     dsimp only
     unfold runs
     dsimp only
     rw [← zDz (Γ := Γ) (T := T) ha.opds, hco]
     dsimp only
     rw [key env' ha]
     exact e2 env' ha.opds _ rfl
   ·obtain ⟨φ, x, h1, h2, h3⟩ := h
    refine ⟨x, σ.hp, σ.nx, h3, fun env' ha => ?_⟩
    unfold outc
    dsimp only
    rw [← ha.gate, hg]
    dsimp only
    unfold runs
    dsimp only
    rw [← zDz (Γ := Γ) (T := T) ha.opds, hco]
    exact ⟨φ, x, by rw [← zEZ ha.opds]; exact h1, h2, rfl⟩
 ·rename_i hg
  refine ⟨.tup [], σ.hp, σ.nx, h, fun env' ha => ?_⟩
  unfold outc
  dsimp only
  rw [← ha.gate, hg]
 ·exact h.elim
def rdOp (o : Oper) : Bool :=
 match o.op with
 | .load _ _ => true
 | .indexAddr _ _ _ => true
 | .call { callee := .builtin .len, args := _, argTypes := _ } => true
 | _ => false
theorem zQS {own : Bool} {o : Oper} {σ σ' : St} {φ : Option Prop} {x : AV} (hr : rdOp o = true) (h : zDk T own o σ = some (φ, x, σ')) : σ' = σ := by
 unfold rdOp at hr
 split at hr
 ·rename_i t y ho
  unfold zDk at h; try simp only [zDh] at h
  rw [ho] at h
  dsimp only at h
  repeat' split at h
  all_goals first | (cases h; rfl) | cases h
 ·rename_i t y i ho
  unfold zDk at h; try simp only [zDh] at h
  rw [ho] at h
  dsimp only at h
  repeat' split at h
  all_goals first | (cases h; rfl) | cases h
 ·rename_i args ts ho
  unfold zDk at h; try simp only [zDh] at h
  rw [ho] at h
  dsimp only at h
  repeat' split at h
  all_goals first | (cases h; rfl) | cases h
 ·cases hr
theorem zHx {own : Bool} {o : Oper} {σ σ' : St} {φ : Option Prop} {x : AV} (hr : rdOp o = true) (h : zB7 T own o σ = some (φ, x, σ')) : σ' = σ := by
 unfold zB7 at h
 split at h
 ·rename_i hl
  cases h
  exact zQS hr hl
 unfold rdOp at hr
 split at hr
 ·rename_i t y ho
  unfold zCS at h
  rw [ho] at h
  cases h
 ·rename_i t y i ho
  unfold zCS at h
  rw [ho] at h
  dsimp only at h
  repeat' split at h
  all_goals first | (cases h; rfl) | cases h
 ·rename_i args ts ho
  unfold zCS at h
  rw [ho] at h
  dsimp only at h
  repeat' split at h
  all_goals first | (cases h; rfl) | cases h
 ·cases hr
theorem zQQ {o : Oper} {σ : St} {K : AV → St → Prop} (h : zHw T o σ K) : ∃ x, K x σ := by
 unfold zHw at h
 repeat' split at h
 all_goals first | exact h.elim | skip
 all_goals
  obtain ⟨_, row, _, h⟩ := h
  split at h
  ·exact ⟨_, h⟩
  ·exact h.elim
theorem zGU {all : List Oper} {own : Bool} {o : Oper} {σ σ1 : St} (hr : rdOp o = true) (h : outc T Γ all own true o σ σ1) : σ1.hp = σ.hp ∧ σ1.nx = σ.nx := by
 have hput : ∀ (σ : St) (d : Option Nat) (x : AV), (σ.put d x).hp = σ.hp ∧ (σ.put d x).nx = σ.nx := fun σ d x => by cases d <;> exact ⟨rfl, rfl⟩
 have hco : callOf T Γ o σ.env = none ∧ zCD T o σ.env = none := by
  unfold rdOp at hr
  split at hr
  ·rename_i ho; unfold callOf zCD; rw [ho]; exact ⟨rfl, rfl⟩
  ·rename_i ho; unfold callOf zCD; rw [ho]; exact ⟨rfl, rfl⟩
  ·rename_i ho; unfold callOf zCD; rw [ho]; exact ⟨rfl, rfl⟩
  ·cases hr
 unfold outc at h
 split at h
 ·unfold runs at h
  rw [hco.1] at h
  dsimp only at h
  split at h
  ·rename_i φ x σ' hs
   obtain ⟨_, rfl⟩ := h
   unfold step1 at hs
   split at hs
   ·cases hs; exact hput _ _ _
   ·rw [zHx hr hs]; exact hput _ _ _
  ·unfold zFD at h
   rw [hco.2] at h
   obtain ⟨x, rfl⟩ := zQQ h
   exact hput _ _ _
 ·subst h; exact hput _ _ _
 ·exact h.elim
theorem zJd (σ : St) (d : Option Nat) (x : AV) : (σ.put d x).nx = σ.nx := by cases d <;> rfl
theorem zHf (σ : St) (d : Option Nat) (x : AV) : (σ.put d x).hp = σ.hp := by cases d <;> rfl
theorem zPK {all : List Oper} {own loud : Bool} {o : Oper} {σ σ1 : St} (h : outc T Γ all own loud o σ σ1) : σ.nx ≤ σ1.nx := by
 unfold outc at h
 split at h
 ·unfold runs at h
  split at h
  ·obtain ⟨r, x, σ', _, h2, rfl⟩ := h
   rw [zJd]; exact zI0 h2
  ·split at h
   ·split at h
    ·rename_i φ x σ' hs
     obtain ⟨_, rfl⟩ := h
     rw [zJd]
     unfold step1 at hs
     split at hs
     ·cases hs; exact Nat.le_refl _
     ·exact zRO hs
    ·obtain ⟨x, hp, nx, e1, e2, _⟩ := zJ6 h
     rw [e1, zJd]; exact e2
   ·obtain ⟨φ, x, _, _, rfl⟩ := h
    rw [zJd]; exact Nat.le_refl _
 ·subst h; rw [zJd]; exact Nat.le_refl _
 ·exact h.elim
def zPI (n : Nat) : AV → Bool
 | .op k _ => Nat.blt k n
 | .orow k => Nat.blt k n
 | .rp k _ _ _ => Nat.blt k n
 | _ => true
def zTd (n : Nat) : AV → Bool
 | .orow k => Nat.ble n k
 | _ => false
def zEo (T : Nat → Option TI) (n : Nat) (o : Oper) (env : Nat → AV) : Bool :=
 match o.op with
 | .load _ x => zPI n (opd T env 0 x)
 | .indexAddr t x _ => zPI n (opd T env t x)
 | .call { callee := .builtin .len, args := args, argTypes := ts } => match args.toList, ts.toList with
  | [x], [t] => zPI n (opd T env t x)
  | _, _ => true
 | .call { callee := .builtin .append, args := args, argTypes := ts } => match args.toList, ts.toList with
  | [x, _], [t, _] => zTd n (opd T env t x)
  | _, _ => false
 | _ => false
theorem zF4 {n : Nat} {o : Oper} (h : ∀ x ∈ o.op.operands, ∀ ty, opd T env ty x = opd T env' ty x) : zEo T n o env = zEo T n o env' := by
 unfold zEo
 cases hop : o.op <;> rw [hop] at h <;> simp only [Op.operands] at h <;> (try dsimp only) <;> try rfl
 case load t x => rw [h x (by simp)]
 case indexAddr t x i => rw [h x (by simp)]
 case call c =>
  obtain ⟨callee, args, ts⟩ := c
  have ha : ∀ x ∈ args.toList, ∀ ty, opd T env ty x = opd T env' ty x := fun x hx => h x (by simp [Call.operands]; exact .inr (by simpa using hx))
  cases callee with
  | builtin b =>
   cases b <;> try rfl
   all_goals
    dsimp only
    split
    ·rename_i e1 e2
     rw [ha _ (by rw [e1]; simp)]
    ·rfl
  | value f => rfl
  | invoke r m => rfl
theorem zR9 {own : Bool} {o : Oper} {n : Nat} {hp hp' : Nat → Option Ob} {nx nx' : Nat} {φ : Option Prop} {x : AV} {σ' : St} (hr : rdOp o = true) (ho : zEo T n o env = true) (hh : ∀ k, k < n → hp' k = hp k)
  (hs : zB7 T own o ⟨env, hp, nx⟩ = some (φ, x, σ')) : zB7 T own o ⟨env, hp', nx'⟩ = some (φ, x, ⟨env, hp', nx'⟩) := by
 have hlt : ∀ {k}, Nat.blt k n = true → hp' k = hp k := fun {k} h => hh k (Nat.lt_of_lt_of_le (Nat.lt_succ_self k) (Nat.le_of_ble_eq_true h))
 have hsame := zHx hr hs
 subst hsame
 unfold rdOp at hr
 unfold zEo at ho
 unfold zB7 zDk zCS at hs ⊢
 split at hr
 ·rename_i t y hop
  rw [hop] at ho hs ⊢
  dsimp only at ho hs ⊢
  cases e : opd T env 0 y <;> rw [e] at hs ho
  case op k off =>
   dsimp only at hs ho ⊢
   simp only [zPI] at ho
   rw [hlt ho]
   revert hs
   cases hp k with
   | none => intro hs; cases hs
   | some ob =>
    cases ob with
    | box bt cells =>
     cases T t with
     | none => intro hs; cases hs
     | some i =>
      dsimp only
      cases i.k.agg <;> dsimp only
      ·cases cells[off]? <;> (intro hs; cases hs) <;> rfl
      ·cases Nat.ble (off + i.size) cells.length <;> (intro hs; cases hs) <;> rfl
    | row => intro hs; cases hs
    | arow => intro hs; cases hs
  all_goals ((try dsimp only at hs); cases hs)
 ·rename_i t y i hop
  rw [hop] at ho hs ⊢
  dsimp only at ho hs ⊢
  cases e : opd T env t y <;> rw [e] at hs ho
  case orow k =>
   simp only [zPI] at ho
   revert hs
   cases elemOf T t with
   | none => intro hs; cases hs
   | some p =>
    obtain ⟨_, j⟩ := p
    cases opd T env 0 i with
    | s s =>
     cases s with
     | int kk m =>
      dsimp only
      rw [hlt ho]
      cases hp k with
      | none => intro hs; cases hs
      | some ob =>
       cases ob with
       | box => intro hs; cases hs
       | row e sz rows => dsimp only; cases Nat.beq sz j.size <;> (intro hs; cases hs) <;> rfl
       | arow e sz rows => dsimp only; cases Nat.beq sz j.size <;> (intro hs; cases hs) <;> rfl
     | _ => intro hs; cases hs
    | _ => intro hs; cases hs
  all_goals
   revert hs
   cases elemOf T t with
   | none => intro hs; cases hs
   | some p =>
    obtain ⟨_, j⟩ := p
    cases opd T env 0 i with
    | s s => cases s <;> (try dsimp only) <;> (intro hs; cases hs)
    | _ => intro hs; cases hs
 ·rename_i args ts hop
  rw [hop] at ho hs ⊢
  dsimp only at ho hs ⊢
  revert hs ho
  cases args.toList with
  | nil => dsimp only; (intro h1 h2; first | exact absurd h1 (by simp) | exact absurd h2 (by simp))
  | cons y l =>
   cases l with
   | cons _ _ => dsimp only; (intro h1 h2; first | exact absurd h1 (by simp) | exact absurd h2 (by simp))
   | nil =>
    cases ts.toList with
    | nil => dsimp only; (intro h1 h2; first | exact absurd h1 (by simp) | exact absurd h2 (by simp))
    | cons t l =>
     cases l with
     | cons _ _ => dsimp only; (intro h1 h2; first | exact absurd h1 (by simp) | exact absurd h2 (by simp))
     | nil =>
      dsimp only
      cases tk T t with
      | slice e =>
       cases opd T env t y with
       | orow k =>
        dsimp only
        intro hs ho
        simp only [zPI] at ho
        rw [hlt ho]
        revert hs
        cases hp k with
        | none => dsimp only; intro hs; cases hs
        | some ob => cases ob <;> dsimp only <;> (intro hs; cases hs) <;> rfl
       | _ => dsimp only; intro hs; cases hs
      | _ => dsimp only; intro hs; cases hs
 ·cases hr
theorem zTp {o : Oper} {n : Nat} {hp hp' : Nat → Option Ob} {nx nx' : Nat} {K : AV → St → Prop} (ho : zEo T n o env = true) (hh : ∀ k, k < n → hp' k = hp k) (h : zHw T o ⟨env, hp, nx⟩ K) :
  ∃ x, K x ⟨env, hp, nx⟩ ∧ ∀ K' : AV → St → Prop, K' x ⟨env, hp', nx'⟩ → zHw T o ⟨env, hp', nx'⟩ K' := by
 have hlt : ∀ {k}, Nat.blt k n = true → hp' k = hp k := fun {k} h => hh k (Nat.lt_of_lt_of_le (Nat.lt_succ_self k) (Nat.le_of_ble_eq_true h))
 unfold zEo at ho
 unfold zHw at h ⊢
 split at h
 ·rename_i t y hop
  rw [hop] at ho
  dsimp only at ho h ⊢
  cases e : opd T env 0 y <;> rw [e] at h ho <;> dsimp only at h ho ⊢ <;> try (exact h.elim)
  simp only [zPI] at ho
  rw [hlt ho]
  revert h
  cases hp _ with
  | none => intro h; exact h.elim
  | some ob =>
   cases ob with
   | box => intro h; exact h.elim
   | row e2 sz rows =>
    dsimp only
    cases Nat.beq _ sz with
    | false => intro h; exact h.elim
    | true =>
     dsimp only
     rintro ⟨h1, row, h2, h3⟩
     cases hl : zK9 T t (row.drop _) with
     | none => rw [hl] at h3; exact h3.elim
     | some c =>
      rw [hl] at h3
      exact ⟨c, h3, fun K' hk => ⟨h1, row, h2, by rw [hl]; exact hk⟩⟩
   | arow e2 sz rows =>
    dsimp only
    cases Nat.beq _ sz with
    | false => intro h; exact h.elim
    | true =>
     dsimp only
     rintro ⟨h1, row, h2, h3⟩
     cases hl : zMH T t (row.drop _) with
     | none => rw [hl] at h3; exact h3.elim
     | some c =>
      rw [hl] at h3
      exact ⟨c, h3, fun K' hk => ⟨h1, row, h2, by rw [hl]; exact hk⟩⟩
 ·exact h.elim
theorem zUp {all : List Oper} {own : Bool} {o : Oper} {n : Nat} {hp hp' : Nat → Option Ob} {nx nx' : Nat} {σ1 : St} (hr : rdOp o = true) (ho : zEo T n o env = true) (hh : ∀ k, k < n → hp' k = hp k) (hn : ∀ k, ∀ (h : hp k = none), k < n → hp' k = none) (h : outc T Γ all own true o ⟨env, hp, nx⟩ σ1)
  (hboth : ∀ (r : Option Prop × AV × St), zB7 T own o ⟨env, hp', nx'⟩ = some r → ∃ r', zB7 T own o ⟨env, hp, nx⟩ = some r') :
  ∃ y, σ1 = St.put ⟨env, hp, nx⟩ o.dst y ∧ outc T Γ all own true o ⟨env, hp', nx'⟩ (St.put ⟨env, hp', nx'⟩ o.dst y) := by
 have hco : callOf T Γ o env = none ∧ zCD T o env = none := by
  unfold rdOp at hr
  split at hr
  ·rename_i ho; unfold callOf zCD; rw [ho]; exact ⟨rfl, rfl⟩
  ·rename_i ho; unfold callOf zCD; rw [ho]; exact ⟨rfl, rfl⟩
  ·rename_i ho; unfold callOf zCD; rw [ho]; exact ⟨rfl, rfl⟩
  ·cases hr
 unfold outc at h
 dsimp only at h
 split at h
 ·rename_i hg
  unfold runs at h
  dsimp only at h
  rw [hco.1] at h
  dsimp only at h
  split at h
  ·rename_i φ x σ' hs
   obtain ⟨h2, rfl⟩ := h
   have : σ' = ⟨env, hp, nx⟩ ∧ step1 T own o ⟨env, hp', nx'⟩ = some (φ, x, ⟨env, hp', nx'⟩) := by
    unfold step1 at hs ⊢
    dsimp only at hs ⊢
    split at hs
    ·cases hs; exact ⟨rfl, rfl⟩
    ·exact ⟨zHx hr hs, zR9 hr ho hh hs⟩
   obtain ⟨rfl, h3⟩ := this
   refine ⟨x, rfl, ?_⟩
   unfold outc
   dsimp only
   rw [hg]
   dsimp only
   unfold runs
   dsimp only
   rw [hco.1]
   dsimp only
   rw [h3]
   exact ⟨h2, rfl⟩
  ·rename_i hs
   have h3 : step1 T own o ⟨env, hp', nx'⟩ = none := by
    unfold step1 at hs ⊢
    dsimp only at hs ⊢
    split at hs
    ·cases hs
    ·cases hq : zB7 T own o ⟨env, hp', nx'⟩ with
     | none => rfl
     | some r =>
      obtain ⟨r', hr'⟩ := hboth r hq
      rw [hr'] at hs; cases hs
   unfold zFD at h
   dsimp only at h
   rw [hco.2] at h
   dsimp only at h
   obtain ⟨x, rfl, hx⟩ := zTp (nx' := nx') ho hh h
   refine ⟨x, rfl, ?_⟩
   unfold outc
   dsimp only
   rw [hg]
   dsimp only
   unfold runs
   dsimp only
   rw [hco.1]
   dsimp only
   rw [h3]
   dsimp only
   unfold zFD
   dsimp only
   rw [hco.2]
   exact hx _ rfl
 ·rename_i hg
  subst h
  refine ⟨.tup [], rfl, ?_⟩
  unfold outc
  dsimp only
  rw [hg]
 ·exact h.elim
theorem zQn {all : List Oper} {own : Bool} {o : Oper} {n : Nat} {hp hp' : Nat → Option Ob} {nx nx' : Nat} {σ1 : St} (hr : rdOp o = true) (ho : zEo T n o env = true) (hh : ∀ k, k < n → hp' k = hp k) (h : outc T Γ all own true o ⟨env, hp, nx⟩ σ1) :
  ∃ y, σ1 = St.put ⟨env, hp, nx⟩ o.dst y ∧ outc T Γ all own true o ⟨env, hp', nx'⟩ (St.put ⟨env, hp', nx'⟩ o.dst y) :=
 zUp hr ho hh (fun k h hk => by rw [hh k hk]; exact h) h fun ⟨φ, x, σ'⟩ hq => ⟨_, zR9 (nx' := nx) hr ho (fun k hk => (hh k hk).symm) hq⟩
def mkOp (o : Oper) : Bool :=
 match o.op with
 | .alloc _ => true
 | .makeSlice _ _ _ => true
 | .box _ _ => true
 | .buildSlice _ _ _ => true
 | _ => false
theorem zTa {own : Bool} {o : Oper} {σ σ' : St} {φ : Option Prop} {x : AV} (hm : mkOp o = true) (h : zDk T own o σ = some (φ, x, σ')) : ∃ ob, σ' = zBU σ ob := by
 unfold zDk at h
 simp only [zDh] at h
 unfold mkOp at hm
 split at hm
 ·rename_i hop
  rw [hop] at h
  dsimp only at h
  repeat' split at h
  all_goals first | (cases h; exact ⟨_, rfl⟩) | cases h
 ·rename_i hop
  rw [hop] at h
  dsimp only at h
  repeat' split at h
  all_goals first | (cases h; exact ⟨_, rfl⟩) | cases h
 ·rename_i hop
  rw [hop] at h
  dsimp only at h
  repeat' split at h
  all_goals first | (cases h; exact ⟨_, rfl⟩) | cases h
 ·rename_i hop
  rw [hop] at h
  dsimp only at h
  repeat' split at h
  all_goals first | (cases h; exact ⟨_, rfl⟩) | cases h
 ·cases hm
theorem zRM {o : Oper} {σ σ' : St} {φ : Option Prop} {x : AV} (hm : mkOp o = true) (h : zCS T o σ = some (φ, x, σ')) : ∃ ob, σ' = zBU σ ob := by
 unfold zCS at h
 unfold mkOp at hm
 split at hm
 ·rename_i hop
  rw [hop] at h
  dsimp only at h
  repeat' split at h
  all_goals first | (cases h; exact ⟨_, rfl⟩) | cases h
 ·rename_i hop
  rw [hop] at h
  dsimp only at h
  repeat' split at h
  all_goals first | (cases h; exact ⟨_, rfl⟩) | cases h
 ·rename_i hop
  rw [hop] at h
  dsimp only at h
  repeat' split at h
  all_goals first | (cases h; exact ⟨_, rfl⟩) | cases h
 ·rename_i hop
  rw [hop] at h
  dsimp only at h
  repeat' split at h
  all_goals first | (cases h; exact ⟨_, rfl⟩) | cases h
 ·cases hm
theorem zRN {own : Bool} {o : Oper} {σ σ' : St} {φ : Option Prop} {x : AV} (hm : mkOp o = true) (h : zB7 T own o σ = some (φ, x, σ')) : ∃ ob, σ' = zBU σ ob := by
 unfold zB7 at h
 split at h
 ·rename_i hl
  cases h
  exact zTa hm hl
 ·exact zRM hm h
theorem zUj {all : List Oper} {own : Bool} {o : Oper} {σ σ1 : St} (hm : mkOp o = true) (h : outc T Γ all own true o σ σ1) : ∀ k, k < σ.nx → σ1.hp k = σ.hp k := fun k hk => by
 have hadd : ∀ ob, (zBU σ ob).hp k = σ.hp k := fun ob => by
  show (bif Nat.beq k σ.nx then _ else σ.hp k) = σ.hp k
  have : Nat.beq k σ.nx = false := by
   cases e : Nat.beq k σ.nx with
   | false => rfl
   | true => have := Nat.eq_of_beq_eq_true e; omega
  rw [this]; rfl
 have hc : callOf T Γ o σ.env = none ∧ zCD T o σ.env = none ∧ ∀ K, ¬ zHw T o σ K := by
  unfold mkOp at hm
  split at hm <;> first | (rename_i hop; unfold callOf zCD; rw [hop]; exact ⟨rfl, rfl, fun K h => by unfold zHw at h; rw [hop] at h; exact h⟩) | cases hm
 unfold outc at h
 split at h
 ·unfold runs at h
  rw [hc.1] at h
  dsimp only at h
  split at h
  ·rename_i φ x σ' hs
   obtain ⟨_, rfl⟩ := h
   rw [zHf]
   unfold step1 at hs
   split at hs
   ·cases hs; rfl
   ·obtain ⟨ob, rfl⟩ := zRN hm hs
    exact hadd ob
  ·unfold zFD at h
   rw [hc.2.1] at h
   exact (hc.2.2 _ h).elim
 ·subst h; rw [zHf]
 ·exact h.elim
def apOp (o : Oper) : Bool :=
 match o.op with
 | .call { callee := .builtin .append, args := _, argTypes := _ } => true
 | _ => false
def mkD (T : Nat → Option TI) (n : Nat) (o : Oper) (env : Nat → AV) : Prop := mkOp o = true ∨ (apOp o = true ∧ zEo T n o env = true)
def mkS (o : Oper) (r : Bool) : Bool := mkOp o || (apOp o && r)
theorem zUL {n : Nat} {o : Oper} {r : Bool} {env : Nat → AV} (h : mkS o r = true) (hr : r = true → zEo T n o env = true) : mkD T n o env := by
 unfold mkS at h
 simp only [Bool.or_eq_true, Bool.and_eq_true] at h
 exact h.imp id fun h => ⟨h.1, hr h.2⟩
theorem zUE {σ : St} {k j : Nat} {ob : Ob} (hj : j < k) (hn : j < σ.nx) : (zBU (zE1 σ k) ob).hp j = σ.hp j := by
 show (bif Nat.beq j σ.nx then _ else (bif Nat.beq j k then none else σ.hp j)) = σ.hp j
 have e1 : Nat.beq j σ.nx = false := by
  cases e : Nat.beq j σ.nx with
  | false => rfl
  | true => have := Nat.eq_of_beq_eq_true e; omega
 have e2 : Nat.beq j k = false := by
  cases e : Nat.beq j k with
  | false => rfl
  | true => have := Nat.eq_of_beq_eq_true e; omega
 rw [e1, e2]; rfl
theorem zLT {n : Nat} {x : AV} (h : zTd n x = true) : ∃ k, x = .orow k ∧ n ≤ k := by
 cases x <;> simp only [zTd] at h <;> first | cases h | exact ⟨_, rfl, Nat.le_of_ble_eq_true h⟩
theorem zPq {σ : St} {k e sz : Nat} {kk : Option Nat} {rows : List (List S)} (h : zI1 σ (.orow k) = some (kk, e, sz, rows)) : kk = some k := by
 unfold zI1 at h
 dsimp only at h
 split at h
 ·cases h; rfl
 ·cases h
theorem zQI {σ : St} {k e sz kk : Nat} {rows : List (List AV)} (h : zJo σ (.orow k) = some (kk, e, sz, rows)) : kk = k := by
 unfold zJo at h
 dsimp only at h
 split at h
 ·cases h; rfl
 ·cases h
theorem zQP {σ σ' : St} {t tx n : Nat} {x y : AV} {φ : Option Prop} {z : AV} (hx : zTd n x = true) (hn : n ≤ σ.nx) (h : zHv T σ t tx x y = some (φ, z, σ')) : ∀ j, j < n → σ'.hp j = σ.hp j := fun j hj => by
 obtain ⟨k, rfl, hk⟩ := zLT hx
 unfold zHv at h
 split at h
 ·rename_i h2 h3
  have hb := zPq h2
  subst hb
  split at h
  ·dsimp only at h
   split at h
   ·cases h; exact zUE (Nat.lt_of_lt_of_le hj hk) (Nat.lt_of_lt_of_le hj hn)
   ·cases h
  ·cases h
 ·cases h
theorem zT4 {all : List Oper} {own : Bool} {o : Oper} {n : Nat} {σ σ1 : St} (hn : n ≤ σ.nx) (hm : apOp o = true) (ho : zEo T n o σ.env = true) (h : outc T Γ all own true o σ σ1) : ∀ k, k < n → σ1.hp k = σ.hp k := fun k hk => by
 obtain ⟨args, ts, hop⟩ : ∃ args ts, o.op = .call { callee := .builtin .append, args := args, argTypes := ts } := by
  unfold apOp at hm
  split at hm
  ·rename_i a b hop; exact ⟨_, _, hop⟩
  ·cases hm
 unfold zEo at ho
 rw [hop] at ho
 dsimp only at ho
 split at ho
 case h_2 => cases ho
 rename_i x y t tx e1 e2
 have hc : callOf T Γ o σ.env = none ∧ zCD T o σ.env = none ∧ ∀ K, ¬ zHw T o σ K := by
  unfold callOf zCD; rw [hop]; exact ⟨rfl, rfl, fun K h => by unfold zHw at h; rw [hop] at h; exact h⟩
 unfold outc at h
 split at h
 ·unfold runs at h
  rw [hc.1] at h
  dsimp only at h
  split at h
  ·rename_i φ z σ' hs
   obtain ⟨_, rfl⟩ := h
   rw [zHf]
   unfold step1 at hs
   split at hs
   ·cases hs; rfl
   ·unfold zB7 at hs
    split at hs
    ·rename_i hl
     cases hs
     unfold zDk at hl
     simp only [zDh] at hl
     rw [hop] at hl
     dsimp only at hl
     rw [e1, e2] at hl
     exact zQP ho hn hl k hk
    ·rename_i hl
     unfold zCS at hs
     rw [hop] at hs
     dsimp only at hs
     rw [e1, e2] at hs
     dsimp only at hs
     obtain ⟨q, hq, hqn⟩ := zLT ho
     rw [hq] at hs
     split at hs
     ·rename_i h2 h3
      have hb := zQI h2
      subst hb
      split at hs
      ·cases hs; exact zUE (Nat.lt_of_lt_of_le hk hqn) (Nat.lt_of_lt_of_le hk hn)
      ·cases hs
     ·cases hs
  ·unfold zFD at h
   rw [hc.2.1] at h
   exact (hc.2.2 _ h).elim
 ·subst h; rw [zHf]
 ·exact h.elim
theorem zQh {all : List Oper} {own : Bool} {o : Oper} {n : Nat} {σ σ1 : St} (hn : n ≤ σ.nx) (hm : mkD T n o σ.env) (h : outc T Γ all own true o σ σ1) : ∀ k, k < n → σ1.hp k = σ.hp k := fun k hk => by
 rcases hm with hm | ⟨hm, ho⟩
 ·exact zUj hm h k (Nat.lt_of_lt_of_le hk hn)
 ·exact zT4 hn hm ho h k hk
theorem zRW {all : List Oper} {oi oj : Oper} {owi owj li lj : Bool} {n : Nat} {σ σi σij : St} (hn : n ≤ σ.nx) (hap : oi.apart all.toArray oj = true) (hl : li = false ∨ lj = false ∨ (rdOp oi = true ∧ rdOp oj = true) ∨
   (mkD T n oi σ.env ∧ rdOp oj = true ∧ zEo T n oj σi.env = true) ∨ (rdOp oi = true ∧ mkD T n oj σi.env ∧ zEo T n oi σ.env = true))
  (h1 : outc T Γ all owi li oi σ σi) (h2 : outc T Γ all owj lj oj σi σij) : ∃ σj, outc T Γ all owj lj oj σ σj ∧ outc T Γ all owi li oi σj σij := by
 obtain ⟨a1, a2, a3⟩ := Oper.apart_spec hap
 have hl' : li = false ∨ lj = false ∨ (li = true ∧ lj = true ∧ ((rdOp oi = true ∧ rdOp oj = true) ∨
   (mkD T n oi σ.env ∧ rdOp oj = true ∧ zEo T n oj σi.env = true) ∨ (rdOp oi = true ∧ mkD T n oj σi.env ∧ zEo T n oi σ.env = true))) := by
  cases li with
  | false => exact .inl rfl
  | true =>
   cases lj with
   | false => exact .inr (.inl rfl)
   | true =>
        rcases hl with h | h | h
        ·cases h
        ·cases h
        ·exact .inr (.inr ⟨rfl, rfl, h⟩)
 rcases hl' with rfl | rfl | ⟨rfl, rfl, ⟨r1, r2⟩ | ⟨r1, r2, r3⟩ | ⟨r1, r2, r3⟩⟩
 ·obtain ⟨x, rfl, hq⟩ := zOO h1
  obtain ⟨y, hp, nx, rfl, hy⟩ := zEt h2
  have hb := hy σ.env (Alike.put a1)
  have e : ({ (σ.put oi.dst x) with env := σ.env } : St) = σ := by cases oi.dst <;> rfl
  rw [e] at hb
  refine ⟨_, hb, ?_⟩
  have := hq (St.put ⟨σ.env, hp, nx⟩ oj.dst y) (fun t ht => (Alike.put (σ := ⟨σ.env, hp, nx⟩) (x := y) a3 t ht).symm)
  rw [put_comm (fun t ht => fun e => a2 t e ht)] at this
  have e2 : St.put ⟨σ.env, hp, nx⟩ oi.dst x = ⟨(σ.put oi.dst x).env, hp, nx⟩ := by cases oi.dst <;> rfl
  rw [e2] at this
  exact this
 ·obtain ⟨x, hp, nx, rfl, hx⟩ := zEt h1
  obtain ⟨y, rfl, hq⟩ := zOO h2
  refine ⟨_, hq σ (fun t ht => Alike.put (σ := ⟨σ.env, hp, nx⟩) (x := x) a1 t ht), ?_⟩
  have := hx (σ.put oj.dst y).env (fun t ht => (Alike.put a3 t ht).symm)
  have e1 : ({ σ with env := (σ.put oj.dst y).env } : St) = σ.put oj.dst y := by cases oj.dst <;> rfl
  rw [e1] at this
  have e2 : (⟨(σ.put oj.dst y).env, hp, nx⟩ : St) = St.put ⟨σ.env, hp, nx⟩ oj.dst y := by cases oj.dst <;> rfl
  rw [e2, put_comm (fun t ht => fun e => a2 t e ht)] at this
  exact this
 ·have s1 := zGU r1 h1
  have s2 := zGU r2 h2
  obtain ⟨x, hp, nx, rfl, hx⟩ := zEt h1
  obtain ⟨y, hp2, nx2, rfl, hy⟩ := zEt h2
  have f1 : hp = σ.hp ∧ nx = σ.nx := by cases h : oi.dst <;> (rw [h] at s1; exact s1)
  obtain ⟨rfl, rfl⟩ := f1
  have f2 : hp2 = σ.hp ∧ nx2 = σ.nx := by cases h : oi.dst <;> cases h' : oj.dst <;> (rw [h, h'] at s2; exact s2)
  obtain ⟨rfl, rfl⟩ := f2
  have hb := hy σ.env (Alike.put a1)
  have e : ({ St.put ⟨σ.env, σ.hp, σ.nx⟩ oi.dst x with env := σ.env } : St) = σ := by cases oi.dst <;> rfl
  rw [e] at hb
  refine ⟨_, hb, ?_⟩
  have := hx (σ.put oj.dst y).env (fun t ht => (Alike.put a3 t ht).symm)
  have e1 : (⟨(σ.put oj.dst y).env, σ.hp, σ.nx⟩ : St) = St.put ⟨σ.env, σ.hp, σ.nx⟩ oj.dst y := by cases oj.dst <;> rfl
  have e3 : St.put ⟨σ.env, σ.hp, σ.nx⟩ oi.dst x = ⟨(St.put ⟨σ.env, σ.hp, σ.nx⟩ oi.dst x).env, σ.hp, σ.nx⟩ := by cases oi.dst <;> rfl
  have key : St.put (St.put ⟨σ.env, σ.hp, σ.nx⟩ oj.dst y) oi.dst x = St.put ⟨(St.put ⟨σ.env, σ.hp, σ.nx⟩ oi.dst x).env, σ.hp, σ.nx⟩ oj.dst y := by
   rw [put_comm (fun t ht => fun e => a2 t e ht), ← e3]
  rw [← key]
  have e4 : outc T Γ all owi true oi (⟨(σ.put oj.dst y).env, σ.hp, σ.nx⟩ : St) (St.put ⟨(σ.put oj.dst y).env, σ.hp, σ.nx⟩ oi.dst x) := this
  rw [e1] at e4
  exact e4
 ·have m1 := zQh hn r1 h1
  have s2 := zGU r2 h2
  obtain ⟨x, hp, nx, rfl, hx⟩ := zEt h1
  obtain ⟨y, hp2, nx2, rfl, hy⟩ := zEt h2
  rw [zHf] at m1
  have f2 : hp2 = hp ∧ nx2 = nx := by
   rw [zHf, zJd, zHf, zJd] at s2; exact s2
  obtain ⟨rfl, rfl⟩ := f2
  have hb := hy σ.env (Alike.put a1)
  have e : ({ St.put ⟨σ.env, hp2, nx2⟩ oi.dst x with env := σ.env } : St) = ⟨σ.env, hp2, nx2⟩ := by cases oi.dst <;> rfl
  rw [e] at hb
  have hal : Alike all oj (St.put ⟨σ.env, hp2, nx2⟩ oi.dst x).env σ.env := Alike.put a1
  have r3' : zEo T n oj σ.env = true := by rw [← zF4 (n := n) hal.opds]; exact r3
  obtain ⟨y', ey, hb'⟩ := zQn (hp' := σ.hp) (nx' := σ.nx) r2 r3' (fun k hk => (m1 k hk).symm) hb
  refine ⟨_, hb', ?_⟩
  have h3 := hx (σ.put oj.dst y').env (fun t ht => (Alike.put a3 t ht).symm)
  have e1 : ({ σ with env := (σ.put oj.dst y').env } : St) = σ.put oj.dst y' := by cases oj.dst <;> rfl
  rw [e1] at h3
  have e2 : (⟨(σ.put oj.dst y').env, hp2, nx2⟩ : St) = St.put ⟨σ.env, hp2, nx2⟩ oj.dst y' := by cases oj.dst <;> rfl
  rw [e2, put_comm (fun t ht => fun e => a2 t e ht)] at h3
  have e3 : St.put (St.put ⟨σ.env, hp2, nx2⟩ oi.dst x) oj.dst y' = St.put ⟨(St.put ⟨σ.env, hp2, nx2⟩ oi.dst x).env, hp2, nx2⟩ oj.dst y := by
   have e5 : (⟨(St.put ⟨σ.env, hp2, nx2⟩ oi.dst x).env, hp2, nx2⟩ : St) = St.put ⟨σ.env, hp2, nx2⟩ oi.dst x := by cases oi.dst <;> rfl
   rw [e5, put_comm (σ := ⟨σ.env, hp2, nx2⟩) (d := oi.dst) (e := oj.dst) (x := x) (y := y') (fun t ht => a2 t ht), put_comm (σ := ⟨σ.env, hp2, nx2⟩) (d := oi.dst) (e := oj.dst) (x := x) (y := y) (fun t ht => a2 t ht), ey]
  rw [e3] at h3
  exact h3
 ·have s1 := zGU r1 h1
  have m2 := zQh (Nat.le_trans hn (zPK h1)) r2 h2
  obtain ⟨x, hp, nx, rfl, hx⟩ := zEt h1
  obtain ⟨y, hp2, nx2, rfl, hy⟩ := zEt h2
  rw [zHf, zJd] at s1
  obtain ⟨rfl, rfl⟩ := s1
  rw [zHf, zHf] at m2
  have hb := hy σ.env (Alike.put a1)
  have e : ({ St.put ⟨σ.env, σ.hp, σ.nx⟩ oi.dst x with env := σ.env } : St) = σ := by cases oi.dst <;> rfl
  rw [e] at hb
  refine ⟨_, hb, ?_⟩
  have hal : Alike all oi σ.env (St.put ⟨σ.env, hp2, nx2⟩ oj.dst y).env := fun t ht => (Alike.put (σ := ⟨σ.env, hp2, nx2⟩) (x := y) a3 t ht).symm
  have r3' : zEo T n oi (St.put ⟨σ.env, hp2, nx2⟩ oj.dst y).env = true := by rw [← zF4 (n := n) hal.opds]; exact r3
  have h1' := hx _ hal
  have e6 : ({ σ with env := (St.put ⟨σ.env, hp2, nx2⟩ oj.dst y).env } : St) = ⟨(St.put ⟨σ.env, hp2, nx2⟩ oj.dst y).env, σ.hp, σ.nx⟩ := rfl
  rw [e6] at h1'
  obtain ⟨x', ex, h3⟩ := zQn (hp' := hp2) (nx' := nx2) r1 r3' (fun k hk => m2 k hk) h1'
  have e7 : (⟨(St.put ⟨σ.env, hp2, nx2⟩ oj.dst y).env, hp2, nx2⟩ : St) = St.put ⟨σ.env, hp2, nx2⟩ oj.dst y := by cases oj.dst <;> rfl
  rw [e7] at h3
  have e8 : St.put (St.put ⟨σ.env, hp2, nx2⟩ oj.dst y) oi.dst x' = St.put ⟨(St.put ⟨σ.env, σ.hp, σ.nx⟩ oi.dst x).env, hp2, nx2⟩ oj.dst y := by
   have e9 : (⟨(St.put ⟨σ.env, σ.hp, σ.nx⟩ oi.dst x).env, hp2, nx2⟩ : St) = St.put ⟨σ.env, hp2, nx2⟩ oi.dst x := by cases oi.dst <;> rfl
   rw [e9, ← put_comm (σ := ⟨σ.env, hp2, nx2⟩) (d := oj.dst) (e := oi.dst) (x := y) (y := x) (fun t ht => fun e => a2 t e ht)]
   cases hd : oi.dst with
   | none => rfl
   | some d =>
    rw [hd] at ex
    have e10 : x = x' := by
     have := congrArg (fun s : St => s.env d) ex
     simpa [St.put, Nat.beq_refl] using this
    rw [e10]
  rw [e8] at h3
  exact h3
def aOp (T : Nat → Option TI) (Γ : Nat → Option zAy) (M L Ro : List Nat) (n : Nat) (ops : List Oper) (i : Nat) (K : St → Prop) (σ : St) : Prop :=
 match ops[i]? with
 | none => K σ
 | some o => ∃ σ1, outc T Γ ops (dIn o.dst M) (inL i L) o σ σ1 ∧ (inL i Ro = true → zEo T n o σ.env = true) ∧ K σ1
def aAny (T : Nat → Option TI) (Γ : Nat → Option zAy) (M L Ro : List Nat) (n : Nat) (ops : List Oper) (Q : St → Prop) : Nat → Array Bool → St → Prop
 | 0, listed, σ => Region.ready .any ops.toArray listed = [] ∧ Q σ
 | fuel + 1, listed, σ =>
  (Region.ready .any ops.toArray listed = [] → Q σ) ∧
  ∀ i ∈ Region.ready .any ops.toArray listed, aOp T Γ M L Ro n ops i (aAny T Γ M L Ro n ops Q fuel (listed.setIfInBounds i true)) σ
theorem zL0 {all : List Oper} {own loud : Bool} {o o' : Oper} {σ σ1 : St} (hd : ∀ t, o.dst = some t → t ∉ o'.looksAt all.toArray) (h : outc T Γ all own loud o σ σ1) : Alike all o' σ1.env σ.env := by
 obtain ⟨x, hp, nx, rfl, _⟩ := zEt h
 intro t ht
 exact Alike.put (σ := ⟨σ.env, hp, nx⟩) (x := x) hd t ht
theorem zQE {M L Ro : List Nat} {n : Nat} {ops : List Oper} {Q : St → Prop} {i : Nat} {oi : Oper} (hi : ops[i]? = some oi) {D : List Nat}
  (hD : ∀ d od, d ∈ D → d ≠ i → ops[d]? = some od → ∃ e ∈ od.after, Region.binds .any e = true ∧ e.on ∈ D) :
  ∀ (fuel : Nat) (listed : Array Bool) (σ σi : St), n ≤ σ.nx → (inL i Ro = true → zEo T n oi σ.env = true) → (∀ d, d ∈ D → listed.getD d true = false) →
   (∀ j oj, ops[j]? = some oj → j ≠ i → listed.getD j true = false → j ∉ D → oi.apart ops.toArray oj = true ∧ (inL i L = false ∨ inL j L = false ∨ (rdOp oi = true ∧ rdOp oj = true) ∨ (mkS oi (inL i Ro) = true ∧ rdOp oj = true ∧ inL j Ro = true) ∨ (rdOp oi = true ∧ mkS oj (inL j Ro) = true ∧ inL i Ro = true))) →
   i ∈ Region.ready .any ops.toArray listed → outc T Γ ops (dIn oi.dst M) (inL i L) oi σ σi →
   aAny T Γ M L Ro n ops Q fuel (listed.setIfInBounds i true) σi → aAny T Γ M L Ro n ops Q (fuel + 1) listed σ := by
 intro fuel
 induction fuel with
 | zero =>
  intro listed σ σi _ hro _ _ hr ho H
  refine ⟨fun h => (by rw [h] at hr; cases hr), fun j hj => ?_⟩
  by_cases hji : j = i
  ·subst hji; unfold aOp; rw [hi]; exact ⟨σi, ho, hro, H⟩
  ·have := ready_mono hj hji
   rw [H.1] at this
   cases this
 | succ fuel ih =>
  intro listed σ σi hn hro hU hfree hr ho H
  refine ⟨fun h => (by rw [h] at hr; cases hr), fun j hj => ?_⟩
  by_cases hji : j = i
  ·subst hji; unfold aOp; rw [hi]; exact ⟨σi, ho, hro, H⟩
  ·have h1 := H.2 j (ready_mono hj hji)
   obtain ⟨hjun, oj, hoj, hall⟩ := mem_ready.1 hj
   have hoj' : ops[j]? = some oj := by simpa using hoj
   have hnot : j ∉ D := fun hjD => by
    obtain ⟨e, he, hb, heD⟩ := hD j oj hjD hji hoj'
    have h1 := hall e he hb
    have h0 := hU _ heD
    rcases Nat.lt_or_ge e.on listed.size with h' | h'
    ·simp [h'] at h0 h1; rw [h0] at h1; cases h1
    ·simp [Array.getElem?_eq_none h'] at h1
   unfold aOp at h1 ⊢
   rw [hoj'] at h1 ⊢
   obtain ⟨σij, h2, h2r, h3⟩ := h1
   obtain ⟨hap, hll⟩ := hfree j oj hoj' hji hjun hnot
   obtain ⟨σj, h4, h5⟩ := zRW (n := n) hn hap (by
    rcases hll with h | h | h | ⟨h, h', h''⟩ | ⟨h, h', h''⟩
    ·exact .inl h
    ·exact .inr (.inl h)
    ·exact .inr (.inr (.inl h))
    ·exact .inr (.inr (.inr (.inl ⟨zUL h hro, h', h2r h''⟩)))
    ·exact .inr (.inr (.inr (.inr ⟨h, zUL h' h2r, hro h''⟩)))) ho h2
   obtain ⟨p1, p2, p3⟩ := Oper.apart_spec hap
   have al1 : Alike ops oj σi.env σ.env := zL0 p1 ho
   have al2 : Alike ops oi σj.env σ.env := zL0 p3 h4
   refine ⟨σj, h4, (fun h => by rw [← zF4 (n := n) al1.opds]; exact h2r h), ih (listed.setIfInBounds j true) σj σij (Nat.le_trans hn (zPK h4)) (fun h => by rw [zF4 (n := n) al2.opds]; exact hro h) (fun d hd => by rw [getD_set_ne true (fun e => hnot (by rw [e]; exact hd))]; exact hU d hd) (fun k ok hk hki hun hno => ?_) (ready_mono hr (Ne.symm hji)) h5 (by rw [Array.setIfInBounds_comm _ _ hji]; exact h3)⟩
   refine hfree k ok hk hki ?_ hno
   by_cases hjk : j = k
   ·subst hjk; exact hjun
   ·rw [getD_set_ne true hjk] at hun; exact hun
def aLex (T : Nat → Option TI) (Γ : Nat → Option zAy) (M L Ro : List Nat) (n : Nat) (all : List Oper) (Q : St → Prop) : List Oper → Nat → St → Prop
 | [], _, σ => Q σ
 | o :: os, k, σ => ∃ σ1, outc T Γ all (dIn o.dst M) (inL k L) o σ σ1 ∧ (inL k Ro = true → zEo T n o σ.env = true) ∧ aLex T Γ M L Ro n all Q os (k + 1) σ1
def depL (ops : Array Oper) (i : Nat) : List Nat :=
 (List.range ops.size).foldl (fun acc j => match j == i || (match ops[j]? with | some oj => oj.after.any (fun e => Region.binds .any e && inL e.on acc) | none => false) with | true => j :: acc | false => acc) []
def zUa (ops : Array Oper) (L Ro : List Nat) (listed : Array Bool) (i : Nat) : Bool :=
 (depL ops i).all (fun d => !(listed.getD d true)) && (List.range ops.size).all fun j => j == i || listed.getD j true || inL j (depL ops i) || match ops[i]?, ops[j]? with
  | some oi, some oj => oi.apart ops oj && (!(inL i L) || !(inL j L) || (rdOp oi && rdOp oj) || (mkS oi (inL i Ro) && rdOp oj && inL j Ro) || (rdOp oi && mkS oj (inL j Ro) && inL i Ro))
  | _, _ => true
def lexD (ops : Array Oper) (L Ro : List Nat) : Nat → Nat → Array Bool → Bool
 | 0, _, listed => (Region.ready .any ops listed).isEmpty
 | fuel + 1, k, listed => (Region.ready .any ops listed).contains k && zUa ops L Ro listed k && lexD ops L Ro fuel (k + 1) (listed.setIfInBounds k true)
theorem zPv {t : Nat} : ∀ {l : List Nat}, inL t l = true ↔ t ∈ l
 | [] => by simp [inL]
 | x :: l => by
  simp only [inL, Bool.or_eq_true, List.mem_cons, zPv (l := l)]
  exact ⟨fun h => h.imp Nat.eq_of_beq_eq_true id, fun h => h.imp (fun e => by rw [e]; exact Nat.beq_refl _) id⟩
theorem zRx (ops : Array Oper) (i : Nat) : ∀ d od, d ∈ depL ops i → d ≠ i → ops[d]? = some od → ∃ e ∈ od.after, Region.binds .any e = true ∧ e.on ∈ depL ops i := by
 have key : ∀ (l : List Nat) (acc : List Nat), (∀ d od, d ∈ acc → d ≠ i → ops[d]? = some od → ∃ e ∈ od.after, Region.binds .any e = true ∧ e.on ∈ acc) →
   ∀ d od, d ∈ l.foldl (fun acc j => match j == i || (match ops[j]? with | some oj => oj.after.any (fun e => Region.binds .any e && inL e.on acc) | none => false) with | true => j :: acc | false => acc) acc → d ≠ i → ops[d]? = some od →
    ∃ e ∈ od.after, Region.binds .any e = true ∧ e.on ∈ l.foldl (fun acc j => match j == i || (match ops[j]? with | some oj => oj.after.any (fun e => Region.binds .any e && inL e.on acc) | none => false) with | true => j :: acc | false => acc) acc := by
  intro l
  induction l with
  | nil => intro acc h; exact h
  | cons j l ih =>
   intro acc h
   simp only [List.foldl_cons]
   refine ih _ ?_
   intro d od hd hne hod
   split at hd
   ·rename_i hc
    rcases List.mem_cons.1 hd with rfl | hd
    ·simp only [Bool.or_eq_true, beq_iff_eq, hne, false_or, hod] at hc
     obtain ⟨e, he, hb⟩ := Array.any_eq_true'.1 hc
     simp only [Bool.and_eq_true] at hb
     exact ⟨e, he, hb.1, List.mem_cons_of_mem _ (zPv.1 hb.2)⟩
    ·obtain ⟨e, he, hb, hm⟩ := h d od hd hne hod
     exact ⟨e, he, hb, List.mem_cons_of_mem _ hm⟩
   ·rename_i hc
    obtain ⟨e, he, hb, hm⟩ := h d od hd hne hod
    exact ⟨e, he, hb, hm⟩
 exact key _ [] (fun d od hd => by cases hd)
theorem zQM {ops : Array Oper} {L Ro : List Nat} {listed : Array Bool} {i : Nat} (h : zUa ops L Ro listed i = true) : (∀ d, d ∈ depL ops i → listed.getD d true = false) ∧
  ∀ (j : Nat) (oj : Oper), ops[j]? = some oj → j ≠ i → listed.getD j true = false → j ∉ depL ops i → ∀ {oi : Oper}, ops[i]? = some oi → oi.apart ops oj = true ∧ (inL i L = false ∨ inL j L = false ∨ (rdOp oi = true ∧ rdOp oj = true) ∨ (mkS oi (inL i Ro) = true ∧ rdOp oj = true ∧ inL j Ro = true) ∨ (rdOp oi = true ∧ mkS oj (inL j Ro) = true ∧ inL i Ro = true)) := by
 unfold zUa at h
 simp only [Bool.and_eq_true, List.all_eq_true, List.mem_range] at h
 obtain ⟨h1, h2⟩ := h
 refine ⟨fun d hd => by simpa using h1 d hd, fun j oj hj hne hun hnd oi hoi => ?_⟩
 have h3 := h2 j (Array.getElem?_eq_some_iff.1 hj).1
 have hnl : inL j (depL ops i) = false := by
  cases e : inL j (depL ops i) with
  | false => rfl
  | true => exact absurd (zPv.1 e) hnd
 simp only [hj, hoi, Bool.or_eq_true, Bool.and_eq_true, beq_iff_eq, hne, false_or, hun, Bool.false_eq_true, Bool.not_eq_true', hnl] at h3
 refine ⟨h3.1, ?_⟩
 rcases h3.2 with (((h3 | h3) | h3) | h3) | h3
 ·exact .inl h3
 ·exact .inr (.inl h3)
 ·exact .inr (.inr (.inl h3))
 ·exact .inr (.inr (.inr (.inl ⟨h3.1.1, h3.1.2, h3.2⟩)))
 ·exact .inr (.inr (.inr (.inr ⟨h3.1.1, h3.1.2, h3.2⟩)))
theorem zP2 {M L Ro : List Nat} {n : Nat} {ops : List Oper} {Q : St → Prop} : ∀ (l : List Oper) (k : Nat) (listed : Array Bool) (σ : St), n ≤ σ.nx → (∀ j, l[j]? = ops[k + j]?) →
  lexD ops.toArray L Ro l.length k listed = true → aLex T Γ M L Ro n ops Q l k σ → aAny T Γ M L Ro n ops Q l.length listed σ
 | [], _, _, _, _, _, hB, h => ⟨by simpa [lexD] using hB, h⟩
 | o :: l, k, listed, σ, hn, hl, hB, h => by
  have h0 : ops[k]? = some o := by simpa using (hl 0).symm
  have h0' : ops.toArray[k]? = some o := by simpa using h0
  simp only [List.length_cons, lexD, Bool.and_eq_true] at hB
  obtain ⟨⟨hr, hf⟩, hB'⟩ := hB
  obtain ⟨hf1, hf2⟩ := zQM hf
  obtain ⟨σ1, h1, hro, h2⟩ := h
  exact zQE h0 (fun d od hd hne hod => zRx ops.toArray k d od hd hne (by simpa using hod)) l.length listed σ σ1 hn hro hf1 (fun j oj hj hne hun hno => hf2 j oj (by simpa using hj) hne hun hno h0') (by simpa using hr) h1
   (zP2 l (k + 1) _ σ1 (Nat.le_trans hn (zPK h1)) (fun j => by have := hl (j + 1); simpa [Nat.add_assoc, Nat.add_comm 1 j] using this) hB' h2)
theorem zQ3 {c : Cx} {G : Nat → Prop} {β : Nat → Value} {σ σ1 : St} {a : Act} {w : World} (hT : TOk c.P T) (hΓ : ∀ f s, Γ f = some s → PSound c.P f s) (hc : Conc c G β σ a w) {all : List Oper} {own loud : Bool} {o : Oper}
  (hN : ∀ (j g : Nat), (all[j]?).bind (fun o => o.dst) = some g → g < c.N) (hd : ∀ t, o.dst = some t → t < c.N) (h : outc T Γ all own loud o σ σ1) {K : Act → World → Prop} {Q : Exit → Act → World → Prop}
  (hK : ∀ G' β' a' w', Conc c G' β' σ1 a' w' → K a' w') :
  if Region.wanted o (yielded all.toArray a.tmps) then o.wp c.P a w K Q ∨ (o.asks c.P a w ∧ LetsOut Q) else K (a.put o.dst undef) w := by
 have hgate : ∀ b, gate all o σ.env = some b → Region.wanted o (yielded all.toArray a.tmps) = b := fun b hb => by
  unfold gate at hb
  cases hg : o.guard with
  | none => rw [hg] at hb; cases hb; simp [Region.wanted, hg]
  | some p =>
   obtain ⟨j, want⟩ := p
   rw [hg] at hb
   dsimp only at hb
   split at hb
   ·rename_i g hj
    split at hb
    ·rename_i b' he
     cases hb
     have hj' : (all.toArray[j]?).bind (·.dst) = some g := by simpa using hj
     have hy := zIJ hc hj' (hN j g hj) he
     simp only [Region.wanted, hg, hy]
     cases b' <;> cases want <;> rfl
    ·rename_i he
     cases hb
     have hj' : (all.toArray[j]?).bind (·.dst) = some g := by simpa using hj
     have hy := zJj hc hj' (hN j g hj) he
     simp only [Region.wanted, hg, hy]
     cases want <;> rfl
    ·cases hb
   ·cases hb
 unfold outc at h
 split at h
 ·rename_i hg
  rw [if_pos (hgate _ hg)]
  refine .inl ?_
  unfold runs at h
  split at h
  ·rename_i g s xs hco
   obtain ⟨r, x, σ', h1, h2, rfl⟩ := h
   exact zLE hΓ hc hco h1 h2 fun G' β' w' v h3 h4 h5 => hK G' β' _ w' (h3.put hd h4 h5)
  ·split at h
   ·split at h
    ·rename_i φ x σ' h1
     obtain ⟨h2, rfl⟩ := h
     exact zIH hT hc h1 h2 hd hK
    ·exact zJ7 hT (fun f s h => hΓ f s (zLU h).1) hc h fun x σ' G' β' w' v e1 h1 h2 h3 => by subst e1; exact hK G' β' _ w' (h1.put hd h2 h3)
   ·obtain ⟨φ, x, h1, h2, rfl⟩ := h
    exact zIH (own := false) hT hc (by unfold step1; rw [h1]) h2 hd hK
 ·rename_i hg
  rw [if_neg (by rw [hgate _ hg]; simp)]
  subst h
  exact hK G β _ w (hc.put hd zO4 rfl)
 ·exact h.elim
theorem zJ0 {c : Cx} (hT : TOk c.P T) (hΓ : ∀ f s, Γ f = some s → PSound c.P f s) {M L Ro : List Nat} {n : Nat} {ops : List Oper} {Q : Exit → Act → World → Prop} {K : St → Prop}
  (hK : ∀ σ G β a w, K σ → Conc c G β σ a w → Q .normal a w) (hN : ∀ (j g : Nat), (ops[j]?).bind (fun o => o.dst) = some g → g < c.N) :
  ∀ (fuel : Nat) (listed : Array Bool) (σ : St) (G : Nat → Prop) (β : Nat → Value) (a : Act) (w : World), aAny T Γ M L Ro n ops K fuel listed σ → Conc c G β σ a w → wpAny c.P .any ops.toArray Q fuel listed a w
 | 0, listed, σ, G, β, a, w, h, hc => ⟨h.1, hK σ G β a w h.2 hc⟩
 | fuel + 1, listed, σ, G, β, a, w, h, hc => by
  refine ⟨fun h0 => hK σ G β a w (h.1 h0) hc, fun i hi => ?_⟩
  have h1 := h.2 i hi
  unfold aOp at h1
  unfold wpOp
  have hgo : ops.toArray[i]? = ops[i]? := by simp
  rw [hgo]
  cases ho : ops[i]? with
  | none => rw [ho] at h1; exact zJ0 hT hΓ hK hN fuel _ σ G β a w h1 hc
  | some o =>
   rw [ho] at h1
   obtain ⟨σ1, h2, _, h3⟩ := h1
   exact zQ3 hT hΓ hc hN (fun t ht => hN i t (by rw [ho]; exact ht)) h2 fun G' β' a' w' hc' => zJ0 hT hΓ hK hN fuel _ σ1 G' β' a' w' h3 hc'
def evD (T : Nat → Option TI) (Γ : Nat → Option zAy) (M nm L Ro : List Nat) (n : Nat) (all : List Oper) : List Oper → Nat → St → (St → Prop) → Prop
 | [], _, σ, K => K σ
 | o :: os, k, σ, K =>
   let run : Prop := match callOf T Γ o σ.env with
    | some (_, s, xs) => ∃ r, s.spec xs r ∧ match zBD (dIn o.dst M && inL k L) σ r with
     | none => False
     | some (x, σ') => lay (dIn o.dst nm) o.dst x σ' fun σ'' => evD T Γ M nm L Ro n all os (k + 1) σ'' K
    | none => match inL k L with
     | true => match step1 T (dIn o.dst M) o σ with
      | none => zFD T (zKq Γ) (dIn o.dst M) o σ fun x σ' => lay (dIn o.dst nm) o.dst x σ' fun σ'' => evD T Γ M nm L Ro n all os (k + 1) σ'' K
      | some (φ, x, σ') => andO φ (lay (dIn o.dst nm) o.dst x σ' fun σ'' => evD T Γ M nm L Ro n all os (k + 1) σ'' K)
     | false => match zCC T false o σ.env with
      | none => False
      | some (φ, x) => andO φ (lay (dIn o.dst nm) o.dst x σ fun σ'' => evD T Γ M nm L Ro n all os (k + 1) σ'' K)
   match inL k Ro && !(zEo T n o σ.env) with
   | true => False
   | false => match o.guard with
   | none => run
   | some (j, want) => match (all[j]?).bind (fun o => o.dst) with
    | some g => match σ.env g with
     | .s (.bool true) => match want with | true => run | false => lay false o.dst (.tup []) σ fun σ'' => evD T Γ M nm L Ro n all os (k + 1) σ'' K
     | .s (.bool false) => match want with | false => run | true => lay false o.dst (.tup []) σ fun σ'' => evD T Γ M nm L Ro n all os (k + 1) σ'' K
     | .tup [] => lay false o.dst (.tup []) σ fun σ'' => evD T Γ M nm L Ro n all os (k + 1) σ'' K
     | _ => False
    | none => False
theorem zEy {M nm L Ro : List Nat} {n : Nat} {all : List Oper} {K : St → Prop} : ∀ {os : List Oper} {k : Nat} {σ : St}, evD T Γ M nm L Ro n all os k σ K → aLex T Γ M L Ro n all K os k σ
 | [], k, σ, h => h
 | o :: os, k, σ, h => by
  unfold evD at h
  dsimp only at h
  have hrun : (match callOf T Γ o σ.env with
    | some (_, s, xs) => ∃ r, s.spec xs r ∧ match zBD (dIn o.dst M && inL k L) σ r with
     | none => False
     | some (x, σ') => lay (dIn o.dst nm) o.dst x σ' fun σ'' => evD T Γ M nm L Ro n all os (k + 1) σ'' K
    | none => match inL k L with
     | true => match step1 T (dIn o.dst M) o σ with
      | none => zFD T (zKq Γ) (dIn o.dst M) o σ fun x σ' => lay (dIn o.dst nm) o.dst x σ' fun σ'' => evD T Γ M nm L Ro n all os (k + 1) σ'' K
      | some (φ, x, σ') => andO φ (lay (dIn o.dst nm) o.dst x σ' fun σ'' => evD T Γ M nm L Ro n all os (k + 1) σ'' K)
     | false => match zCC T false o σ.env with
      | none => False
      | some (φ, x) => andO φ (lay (dIn o.dst nm) o.dst x σ fun σ'' => evD T Γ M nm L Ro n all os (k + 1) σ'' K)) →
    ∃ σ1, runs T Γ (dIn o.dst M) (inL k L) o σ σ1 ∧ aLex T Γ M L Ro n all K os (k + 1) σ1 := fun h => by
   unfold runs
   split at h
   ·obtain ⟨r, h1, h2⟩ := h
    split at h2
    ·exact h2.elim
    ·rename_i x σ' hx
     exact ⟨_, ⟨r, x, σ', h1, hx, rfl⟩, zEy (zFr h2)⟩
   ·split at h
    ·split at h
     ·rename_i hs
      obtain ⟨x, hp, nx, e1, _, e2⟩ := zJ6 h
      refine ⟨_, ?_, zEy (zFr e1)⟩
      rw [hs]
      exact e2 σ.env (fun _ _ _ => rfl) _ rfl
     ·rename_i φ x σ' hs
      obtain ⟨h1, h2⟩ := zMu h
      refine ⟨_, ?_, zEy (zFr h2)⟩
      rw [hs]
      exact ⟨h1, rfl⟩
    ·split at h
     ·exact h.elim
     ·rename_i φ x hs
      obtain ⟨h1, h2⟩ := zMu h
      exact ⟨_, ⟨φ, x, hs, h1, rfl⟩, zEy (zFr h2)⟩
  split at h
  ·exact h.elim
  rename_i hro0
  have hro : inL k Ro = true → zEo T n o σ.env = true := fun hk => by
   rw [hk] at hro0
   cases e : zEo T n o σ.env with
   | true => rfl
   | false => rw [e] at hro0; cases hro0
  have hgo : gate all o σ.env = some true → (∃ σ1, runs T Γ (dIn o.dst M) (inL k L) o σ σ1 ∧ aLex T Γ M L Ro n all K os (k + 1) σ1) → aLex T Γ M L Ro n all K (o :: os) k σ := fun hg ⟨σ1, h1, h2⟩ =>
   ⟨σ1, by unfold outc; rw [hg]; exact h1, hro, h2⟩
  have hskip : gate all o σ.env = some false → (lay false o.dst (.tup []) σ fun σ'' => evD T Γ M nm L Ro n all os (k + 1) σ'' K) → aLex T Γ M L Ro n all K (o :: os) k σ := fun hg h =>
   ⟨σ.put o.dst (.tup []), by unfold outc; rw [hg], hro, zEy (zFr h)⟩
  split at h
  ·rename_i hg
   exact hgo (by simp [gate, hg]) (hrun h)
  ·rename_i j want hg
   split at h
   ·rename_i g hj
    split at h
    ·rename_i he
     split at h
     ·exact hgo (by simp [gate, hg, hj, he]) (hrun h)
     ·exact hskip (by simp [gate, hg, hj, he]) h
    ·rename_i he
     split at h
     ·exact hgo (by simp [gate, hg, hj, he]) (hrun h)
     ·exact hskip (by simp [gate, hg, hj, he]) h
    ·rename_i he
     exact hskip (by simp [gate, hg, hj, he]) h
    ·exact h.elim
   ·exact h.elim
theorem zJG {ro : Option Nat} {n : Nat} {P : Program} {md : Region.Mode} {ops : Array Oper} {Q : Exit → Act → World → Prop} (hQ : ¬ LetsOut Q) (hd : ∀ (i : Nat) o, ops[i]? = some o → ∀ c, o.op ≠ .defer c) :
  ∀ (fuel : Nat) (listed : Array Bool) (a : Act) (w : World), wpAny P md ops Q fuel listed a w → wpAnyIn (rF ro) n P md ops Q fuel listed a w
 | 0, _, _, _, h => h
 | fuel + 1, listed, a, w, h => ⟨h.1, fun i hi => by
  have h1 := h.2 i hi
  unfold wpOp at h1
  unfold wpOpIn
  cases ho : ops[i]? with
  | none => rw [ho] at h1; exact zJG hQ hd fuel _ a w h1
  | some o =>
   rw [ho] at h1
   dsimp only at h1 ⊢
   split
   ·rename_i hw
    rw [if_pos hw] at h1
    rcases h1 with h1 | ⟨_, h1⟩
    ·exact zUN (hd i o ho) (fun a w h => zJG hQ hd fuel _ a w h) h1
    ·exact absurd h1 hQ
   ·rename_i hw
    rw [if_neg hw] at h1
    exact ⟨fun _ _ => trivial, zJG hQ hd fuel _ _ w h1⟩⟩
theorem zD0 {c : Cx} (hT : TOk c.P T) (hΓ : ∀ f s, Γ f = some s → PSound c.P f s) (hm : c.P.follows .mixedOrders = true) {id : Nat} {ops : List Oper} {σ : St} {Q : End → St → Prop} (M nm L Ro : List Nat)
  (hN : zH1 c.N ops = true) (hB : lexD ops.toArray L Ro ops.length 0 (Array.replicate ops.length false) = true) (h : evD T Γ M nm L Ro σ.nx ops ops 0 σ (Q .normal)) : Tri c (.region id ops.toArray true) σ Q := by
 unfold Tri
 intro G β a w hc
 refine wpIn_region_any hm (zJG zKl (fun i o hi => zKf hN o (List.mem_of_getElem? (by simpa using hi))) _ _ _ _ ?_)
 have h1 := zP2 (ops := ops) (M := M) (L := L) (Ro := Ro) (n := σ.nx) ops 0 (Array.replicate ops.length false) σ (Nat.le_refl _) (fun j => by simp) hB (zEy h)
 have hc' := hc.ext (Ext.drew hc.lt)
 have := zJ0 hT hΓ (Q := fun e a' w' => ∃ e' G' β' σ', e = zKT e' ∧ Q e' σ' ∧ Conc c G' β' σ' a' w') (fun σ' G' β' a' w' hk hc' => ⟨.normal, G', β', σ', rfl, hk, hc'⟩) (zHr hN) _ _ σ G β a _ h1 hc'
 simpa using this
theorem zAC {c : Cx} (hT : TOk c.P T) (hΓ : ∀ f s, Γ f = some s → PSound c.P f s) (hm : c.P.follows .mixedOrders = true) {id : Nat} {ops : List Oper} {σ : St} {Q : End → St → Prop} (M nm L : List Nat)
  (hN : zH1 c.N ops = true) (hB : lexD ops.toArray L [] ops.length 0 (Array.replicate ops.length false) = true) (h : evD T Γ M nm L [] σ.nx ops ops 0 σ (Q .normal)) : Tri c (.region id ops.toArray true) σ Q :=
 zD0 hT hΓ hm M nm L [] hN hB h
end
end Go.Abs
namespace Go.Abs
open Go.ChangeShapes Go.WideShapes Go.RowKit Go.Proofs.YtgfneloodabafaaGreatDoor
def szOf (T : Nat → Option TI) (t : Nat) : Nat := match T t with | some i => i.size | none => 0
def zSv (p : Nat → List S → Prop) : List Nat → List S → Prop
 | [], ss => ss = []
 | t :: ts, ss => ∃ a b, ss = a ++ b ∧ p t a ∧ zSv p ts b
def Typed (T : Nat → Option TI) : Nat → Nat → List S → Prop
 | 0, _, _ => False
 | n + 1, t, ss => match T t with
  | none => False
  | some i => match i.k with
   | .bool => ∃ b, ss = [.bool b]
   | .int k => ∃ x : Int, ss = [.int k x] ∧ k.min ≤ x ∧ x ≤ k.max
   | .str => ∃ l : List UInt8, ss = [.str l] ∧ l.length ≤ maxLen
   | .slice e => ∃ rows : List (List S), ss = [.sl (szOf T e) rows] ∧ rows.length ≤ maxLen ∧ ∀ r ∈ rows, Typed T n e r
   | .ptr e => ss = [.np] ∨ ∃ row, ss = [.pt row] ∧ Typed T n e row
   | .struct fs => zSv (Typed T n) (fs.map (·.2)) ss
   | .arr len e => zSv (Typed T n) (List.replicate len e) ss
   | _ => False
mutual
def S.bulk : S → Nat
 | .str l => l.length + 1
 | .sl _ rows => zDF rows + 1
 | .pt row => zC0 row + 1
 | _ => 1
def zC0 : List S → Nat
 | [] => 0
 | s :: r => s.bulk + zC0 r
def zDF : List (List S) → Nat
 | [] => 0
 | r :: rs => zC0 r + zDF rs
end
theorem zI2 : ∀ (a b : List S), zC0 (a ++ b) = zC0 a + zC0 b
 | [], b => by simp [zC0]
 | s :: a, b => by simp only [List.cons_append, zC0, zI2 a b]; omega
def fits (T : Nat → Option TI) : List (Nat × Nat) → Nat → Nat → Bool
 | [], off, n => Nat.beq off n
 | (o, t) :: r, off, n => Nat.beq o off && (T t).isSome && fits T r (off + szOf T t) n
def zC1 (T : Nat → Option TI) (i : TI) : Bool := match i.k with
 | .bool | .int _ | .str => true
 | .slice e => (T e).isSome && Nat.ble 1 (szOf T e)
 | .ptr e => (T e).isSome && Nat.ble 1 (szOf T e)
 | .struct fs => fits T fs 0 i.size
 | .arr n e => (T e).isSome && Nat.beq (n * szOf T e) i.size
 | _ => false
section
variable {H : Type} {enc : TypeId × Value → H} {P : Program} {T : Nat → Option TI} {w : World} {spare : Nat → Bool} {held : Bool}
theorem zDV (hT : TOk P T) {t : Nat} (h : (T t).isSome = true) : P.cellsOf t = szOf T t := by
 obtain ⟨i, hi⟩ := Option.isSome_iff_exists.1 h
 obtain ⟨d, info, z, h1, h2, h3, h4, _⟩ := hT t i hi
 simp [Program.cellsOf, h3, h4, szOf, hi]
def old (w : World) (b : Nat) : Prop := b < w.heap.size
theorem zMw {w : World} {a : Addr} {v : Value} (h : w.cell? a = some v) : old w a.block ∧ a.spot = none := by
 unfold World.cell? at h
 unfold old
 split at h
 ·rename_i c x y e
  refine ⟨(Array.getElem?_eq_some_iff.1 e).1, ?_⟩
  split at h
  ·cases h
  ·rename_i hs
   cases hh : a.spot with
   | none => rfl
   | some s => rw [hh] at hs; simp at hs
 ·cases h
theorem zJg {b off : Nat} {ss : List S} {cs : List Value} (h : Reps (old w) w ss cs) (hc : ∀ i, i < ss.length → w.cell? ⟨b, off + i, none⟩ = cs[i]?) : RepRow (old w) w b ss off :=
 RepRow.mk fun i s hs => by
  have hi : i < ss.length := (List.getElem?_eq_some_iff.1 hs).1
  have hi' : i < cs.length := by rw [h.1]; exact hi
  have hv : cs[i]? = some cs[i] := List.getElem?_eq_getElem hi'
  have hcell := (hc i hi).trans hv
  exact ⟨(zMw hcell).1, _, hcell, h.2 i s _ hs hv⟩
theorem zPm {a : Addr} (hs : a.spot = none) (k : Nat) : a.add k = ⟨a.block, a.off + k, none⟩ := by
 unfold Addr.add
 obtain ⟨b, o, s⟩ := a
 simp only at hs; subst hs
 split
 ·rename_i h; subst h; rfl
 ·rfl
theorem zLD {R : Nat → List S} {D : Nat → DataW H} : ∀ {l : List Nat}, (∀ i ∈ l, zC0 (R i) ≤ Rows.uptoBulk (D i)) → zDF (l.map R) ≤ Rows.uptoBulkAll (l.map D)
 | [], _ => by simp [zDF]
 | i :: l, h => by
  simp only [List.map_cons, zDF, Rows.uptoBulkAll]
  have h1 := h i List.mem_cons_self
  have h2 := zLD (fun j hj => h j (List.mem_cons_of_mem _ hj))
  omega
theorem zNd {n : Nat} {p : Nat → List S → Prop} (hT : TOk P T)
  (ih : ∀ t cs x, (T t).isSome = true → DataW.trod enc P w 0 spare held n t cs = some x → ∃ ss, Reps (old w) w ss cs ∧ p t ss ∧ zC0 ss ≤ Rows.uptoBulk x.1) :
  ∀ (fs : List (Nat × Nat)) (off tot : Nat) (cs : List Value) (xs : List (DataW H × List MemPlace)), fits T fs off tot = true → cs.length = tot → xs.length = fs.length →
   (∀ (i : Nat) f, fs[i]? = some f → DataW.trod enc P w 0 spare held n f.2 ((cs.drop f.1).take (P.cellsOf f.2)) = xs[i]?) →
   ∃ ss, Reps (old w) w ss (cs.drop off) ∧ zSv p (fs.map (·.2)) ss ∧ zC0 ss ≤ Rows.uptoBulkAll (xs.map (·.1))
 | [], off, tot, cs, xs, hf, hl, _, _ => by
  obtain rfl := Nat.eq_of_beq_eq_true hf
  refine ⟨[], ⟨by simp [hl], fun i s v h => by simp at h⟩, rfl, by simp [zC0]⟩
 | (o, t) :: fs, off, tot, cs, xs, hf, hl, hxl, hx => by
  simp only [fits, Bool.and_eq_true] at hf
  obtain ⟨⟨ho, ht⟩, hr⟩ := hf
  obtain rfl := Nat.eq_of_beq_eq_true ho
  match xs, hxl with
  | y :: ys, hxl =>
   have h0 := hx 0 (o, t) rfl
   simp only [List.getElem?_cons_zero] at h0
   obtain ⟨s1, r1, p1, b1⟩ := ih t _ y ht h0
   obtain ⟨s2, r2, p2, b2⟩ := zNd hT ih fs (o + szOf T t) tot cs ys hr hl (by simpa using hxl) (fun i f hi => by simpa using hx (i + 1) f (by simpa using hi))
   rw [zDV hT ht] at r1
   have e : cs.drop o = (cs.drop o).take (szOf T t) ++ cs.drop (o + szOf T t) := by
    rw [← List.drop_drop, List.take_append_drop]
   refine ⟨s1 ++ s2, ?_, ⟨s1, s2, rfl, p1, p2⟩, ?_⟩
   ·rw [e]; exact r1.append r2
   ·simp only [List.map_cons, Rows.uptoBulkAll, zI2]; omega
theorem zP7 {e : Nat} (he : (T e).isSome = true) : ∀ (n off : Nat), fits T ((List.range n).map (fun i => (off + i * szOf T e, e))) off (off + n * szOf T e) = true
 | 0, off => by simp [fits]
 | n + 1, off => by
  rw [List.range_succ_eq_map]
  simp only [List.map_cons, List.map_map, fits, Nat.zero_mul, Nat.add_zero, Nat.beq_eq, he, Bool.true_and, Bool.and_true]
  have := zP7 he n (off + szOf T e)
  have e1 : (List.range n).map (fun i => (off + szOf T e + i * szOf T e, e)) = (List.range n).map ((fun i => (off + i * szOf T e, e)) ∘ Nat.succ) := by
   refine List.map_congr_left fun i _ => ?_
   simp only [Function.comp, Nat.succ_eq_add_one, Nat.add_mul]
   congr 1; omega
  rw [← e1, show off + (n + 1) * szOf T e = off + szOf T e + n * szOf T e by rw [Nat.add_mul]; omega, this]
  simp
theorem conv (hT : TOk P T) (hC : ∀ t i, T t = some i → zC1 T i = true) : ∀ (n : Nat) (t : Nat) (cs : List Value) (x : DataW H × List MemPlace), (T t).isSome = true →
  DataW.trod enc P w 0 spare held n t cs = some x → ∃ ss, Reps (old w) w ss cs ∧ Typed T n t ss ∧ zC0 ss ≤ Rows.uptoBulk x.1
 | 0, t, cs, x, _, h => by simp [DataW.trod] at h
 | n + 1, t, cs, x, ht, h => by
  obtain ⟨i, hi⟩ := Option.isSome_iff_exists.1 ht
  have hcl := hC t i hi
  obtain ⟨d, info, z, h1, h2, h3, h4, h5, h6, h7, h8, h9, h10⟩ := hT t i hi
  have one : ∀ {s : S} {v : Value}, Rep (old w) w s v → Reps (old w) w [s] [v] := fun {s v} hr => ⟨rfl, fun j s' v' hs hv => by
   cases j with
   | zero => simp at hs hv; subst hs; subst hv; exact hr
   | succ j => simp at hs⟩
  cases d <;> simp only [tkOf] at h2
  case bool =>
   obtain ⟨b, rfl, rfl⟩ := DataW.trod_bool h1 h
   exact ⟨[.bool b], one (by simp [Rep]), by simp [Typed, hi, ← h2], by simp [zC0, S.bulk, Rows.uptoBulk]⟩
  case int k =>
   obtain ⟨m, rfl, rfl, hw⟩ := DataW.trod_int h1 h
   have hb : k.min ≤ m ∧ m ≤ k.max := by simpa [Lit.wf] using hw
   exact ⟨[.int k m], one (by simp [Rep]), by simp [Typed, hi, ← h2, hb], by simp [zC0, S.bulk, Rows.uptoBulk]⟩
  case string =>
   obtain ⟨s, rfl, rfl, hl⟩ := DataW.trod_string h1 h
   refine ⟨[.str s.data.toList], one (by simp [Rep]), ?_, by simp [zC0, S.bulk, Rows.uptoBulk]⟩
   simp only [Typed, hi, ← h2]
   exact ⟨_, rfl, by simpa using hl⟩
  case pointer e =>
   simp only [zC1, ← h2, Bool.and_eq_true] at hcl
   rcases DataW.trod_pointer h1 h with ⟨rfl, rfl⟩ | ⟨a, cs', y, m, hm, rfl, rfl, hcs, hy⟩
   ·exact ⟨[.np], one (by simp [Rep]), by simp [Typed, hi, ← h2], by simp [zC0, S.bulk, Rows.uptoBulk]⟩
   ·cases hm
    obtain ⟨ss, r1, r2, r3⟩ := conv hT hC n e cs' y hcl.1 hy
    obtain ⟨_, g2, g3⟩ := World.cells?_some hcs
    rw [zDV hT hcl.1] at g2 g3
    have hpos := Nat.le_of_ble_eq_true hcl.2
    have hspot : a.spot = none := by
     have := g3 0 (by omega)
     rw [List.getElem?_eq_getElem (by omega)] at this
     have := (zMw this).2
     simpa [Addr.add] using this
    refine ⟨[.pt ss], one ?_, ?_, by simp only [zC0, S.bulk, Rows.uptoBulk]; omega⟩
    ·simp only [Rep]
     refine ⟨a.block, a.off, ?_, zJg r1 fun j hj => ?_⟩
     ·obtain ⟨b, o, s⟩ := a; simp only at hspot; subst hspot; rfl
     ·rw [← zPm hspot]; exact g3 j (by rw [← g2, r1.1]; exact hj)
    ·simp only [Typed, hi, ← h2]
     exact .inr ⟨ss, rfl, r2⟩
  case slice e =>
   simp only [zC1, ← h2, Bool.and_eq_true] at hcl
   have hpos := Nat.le_of_ble_eq_true hcl.2
   rcases DataW.trod_slice h1 h with ⟨rfl, rfl⟩ | ⟨a, len, cap, elems, rest, m, hm, rfl, rfl, hb, hl, hcm, hlen, hel, _, _⟩
   ·refine ⟨[.sl (szOf T e) []], one (by simp only [Rep]; exact .inl ⟨trivial, none, 0, rfl⟩), ?_, by simp [zC0, S.bulk, Rows.uptoBulk, zDF]⟩
    simp only [Typed, hi, ← h2]
    exact ⟨[], rfl, by simp, fun r hr => by cases hr⟩
   ·cases hm
    subst hlen
    have key : ∀ j, j < elems.length → ∃ ss : List S, ss.length = szOf T e ∧ a.spot = none ∧ RepRow (old w) w a.block ss (a.off + j * szOf T e) ∧ Typed T n e ss ∧ zC0 ss ≤ Rows.uptoBulk ((elems.map (·.1)).getD j .nil) := fun j hj => by
     have hspot : a.spot = none := by
      have h0 := hel 0 (by omega)
      rw [List.getElem?_eq_getElem (by omega)] at h0
      obtain ⟨cs', g1, _⟩ := Option.bind_eq_some_iff.1 h0
      obtain ⟨_, g2, g3⟩ := World.cells?_some g1
      rw [zDV hT hcl.1] at g2 g3
      have := g3 0 (by omega)
      rw [List.getElem?_eq_getElem (by omega)] at this
      have := (zMw this).2
      simpa [Addr.add] using this
     have h0 := hel j hj
     rw [List.getElem?_eq_getElem hj] at h0
     obtain ⟨cs', g1, gy⟩ := Option.bind_eq_some_iff.1 h0
     obtain ⟨_, g2, g3⟩ := World.cells?_some g1
     rw [zDV hT hcl.1] at g2 g3
     obtain ⟨ss, r1, r2, r3⟩ := conv hT hC n e cs' elems[j] hcl.1 gy
     refine ⟨ss, by rw [← r1.1, g2], hspot, zJg r1 fun q hq => ?_, r2, by simpa [List.getD, List.getElem?_eq_getElem hj] using r3⟩
     have := g3 q (by rw [← g2, r1.1]; exact hq)
     rw [zPm hspot, zPm (a := ⟨a.block, _, none⟩) rfl] at this
     exact this
    obtain ⟨R, hR⟩ := Go.Deep.choose_lt key
    refine ⟨[.sl (szOf T e) ((List.range elems.length).map R)], one ?_, ?_, ?_⟩
    ·simp only [Rep]
     by_cases h0 : elems.length = 0
     ·exact .inl ⟨by simp [h0], some a, cap, by rw [h0]⟩
     ·have hspot := (hR 0 (by omega)).2.1
      refine .inr ⟨a.block, a.off, cap, ?_, by simpa using hl, RepRows.mk fun j r hr => ?_⟩
      ·obtain ⟨b, o, s⟩ := a; simp only at hspot; subst hspot; simp
      ·simp only [List.getElem?_map, Option.map_eq_some_iff] at hr
       obtain ⟨j', hj', rfl⟩ := hr
       obtain ⟨hlt, rfl⟩ := List.getElem?_eq_some_iff.1 hj'
       simp only [List.getElem_range, List.length_range] at hlt ⊢
       exact ⟨(hR j hlt).1, (hR j hlt).2.2.1⟩
    ·simp only [Typed, hi, ← h2]
     refine ⟨_, rfl, by simp; omega, fun r hr => ?_⟩
     obtain ⟨j, hj, rfl⟩ := List.mem_map.1 hr
     exact (hR j (by simpa using hj)).2.2.2.1
    ·have hb := zLD (R := R) (D := fun j => (elems.map (·.1)).getD j .nil) (l := List.range elems.length) (fun j hj => (hR j (by simpa using hj)).2.2.2.2)
     have e1 : (List.range elems.length).map (fun j => (elems.map (·.1)).getD j DataW.nil) = elems.map (·.1) := by
      apply List.ext_getElem (by simp)
      intro j g1 g2
      simp only [List.length_map] at g2
      simp [List.getD, List.getElem?_eq_getElem g2]
     rw [e1] at hb
     simp only [zC0, S.bulk, Rows.uptoBulk]; omega
  case struct fs =>
   simp only [zC1, ← h2] at hcl
   obtain ⟨xs, m, hm, rfl, hlen, hxl, hx⟩ := DataW.trod_struct h1 h
   cases hm
   rw [zDV hT ht] at hlen
   obtain ⟨ss, r1, r2, r3⟩ := zNd (p := Typed T n) hT (conv hT hC n) (fs.toList.map fun f => (f.offset, f.type)) 0 i.size cs xs hcl (by rw [hlen, szOf, hi]) (by simpa using hxl) (fun j f hf => by
    simp only [List.getElem?_map, Option.map_eq_some_iff] at hf
    obtain ⟨g, hg, rfl⟩ := hf
    exact hx j g (by simpa using hg))
   refine ⟨ss, by simpa using r1, ?_, by simp only [Rows.uptoBulk]; omega⟩
   simp only [Typed, hi, ← h2]
   exact r2
  case array len e =>
   simp only [zC1, ← h2, Bool.and_eq_true] at hcl
   obtain ⟨he, hsz⟩ := hcl
   have hsz := Nat.eq_of_beq_eq_true hsz
   have h' : cs.length = P.cellsOf t ∧ ∃ xs, (List.range len).mapM (fun i => DataW.trod enc P w 0 spare held n e ((cs.drop (i * P.cellsOf e)).take (P.cellsOf e))) = some xs ∧ x = (.agg (xs.map (·.1)), xs.flatMap (·.2)) := by
    unfold DataW.trod at h
    rw [h1] at h
    split at h <;> simp_all
    obtain ⟨hl, xs, hp, hd⟩ := h
    exact ⟨xs, hp, hd.symm⟩
   obtain ⟨hlen, xs, hp, rfl⟩ := h'
   rw [zDV hT ht] at hlen
   have hxl := mapM_some_length hp
   obtain ⟨ss, r1, r2, r3⟩ := zNd (p := Typed T n) hT (conv hT hC n) ((List.range len).map fun i => (0 + i * szOf T e, e)) 0 i.size cs xs (by
     have := zP7 he len 0
     rwa [Nat.zero_add (len * szOf T e), hsz] at this) (by rw [hlen, szOf, hi]) (by simpa using hxl) (fun j f hf => by
    simp only [List.getElem?_map, Option.map_eq_some_iff] at hf
    obtain ⟨g, hg, rfl⟩ := hf
    have := mapM_some_get hp j g hg
    rw [zDV hT he] at this ⊢
    simpa using this)
   refine ⟨ss, by simpa using r1, ?_, by simp only [Rows.uptoBulk]; omega⟩
   simp only [Typed, hi, ← h2]
   have e1 : ((List.range len).map fun i => (0 + i * szOf T e, e)).map (·.2) = List.replicate len e := by
    rw [List.map_map]
    apply List.ext_getElem (by simp)
    intro j g1 g2
    simp
   rwa [e1] at r2
  all_goals simp [zC1, ← h2] at hcl
end
end Go.Abs
namespace Go.Abs
open Go.ChangeShapes Go.WideShapes Go.RowKit Go.Proofs.YtgfneloodabafaaGreatDoor
def zST (T : Nat → Option TI) (t : Nat) (ss : List S) : AV := match T t with
 | some i => match i.k.agg with
  | true => .agg (ss.map .s)
  | false => .s (ss.headD .np)
 | none => .junk
def zJ1 (T : Nat → Option TI) : List Nat → List (List S) → List AV
 | t :: ts, ss :: sss => zST T t ss :: zJ1 T ts sss
 | _, _ => []
def zSK (T : Nat → Option TI) : List Nat → List (List S) → Prop
 | [], sss => sss = []
 | t :: ts, sss => ∃ ss r, sss = ss :: r ∧ (∃ n, Typed T n t ss) ∧ zSK T ts r
theorem zJ2 {T : Nat → Option TI} : ∀ {ts : List Nat} {sss : List (List S)}, (∀ t ∈ ts, (T t).isSome = true) → AV.persAll (zJ1 T ts sss) = true
 | [], _, _ => by cases ‹List (List S)› <;> rfl
 | _ :: _, [], _ => rfl
 | t :: ts, ss :: sss, h => by
  simp only [zJ1, AV.persAll, Bool.and_eq_true]
  refine ⟨?_, zJ2 fun t' h' => h t' (List.mem_cons_of_mem _ h')⟩
  obtain ⟨i, hi⟩ := Option.isSome_iff_exists.1 (h t List.mem_cons_self)
  unfold zST
  rw [hi]
  simp only
  split
  ·simp only [AV.pers]
   clear hi
   induction ss with
   | nil => rfl
   | cons s r ih => simp [AV.persAll, AV.pers, ih]
  ·rfl
section
variable {H : Type} {enc : TypeId × Value → H} {P : Program} {T : Nat → Option TI} {w : World} {spare : Nat → Bool} {held : Bool}
theorem zQY {r : Reach} {base t : Nat} {d : TypeDesc} {v : Value} (h : P.underlying t = some d) (hk : (tkOf d).agg = false) (hok : Value.okWide P w r base t v) : v.oneCell' = true := by
 cases d <;> simp only [tkOf, TK.agg, reduceCtorEq, Bool.true_eq_false] at hk <;> simp only [Value.okWide, h] at hok <;> cases v <;> first
  | rfl
  | (exfalso; simp only [Cell.okWide, Cell.ok, h] at hok)
theorem zQX {r : Reach} {base t : Nat} {d : TypeDesc} {v : Value} (h : P.underlying t = some d) (hk : (tkOf d).agg = true) (hok : Value.okWide P w r base t v) : ∃ cs, v = .agg cs := by
 cases d <;> simp only [tkOf, TK.agg, reduceCtorEq, Bool.false_eq_true] at hk <;> simp only [Value.okWide, h] at hok <;> exact ⟨_, hok.choose_spec.1⟩
theorem zLB {G : Nat → Prop} {β : Nat → Value} : ∀ {ss : List S} {vs : List Value}, Reps G w ss vs → AVals G w β (ss.map .s) vs
 | [], vs, h => by simp only [List.map_nil, AVals]; exact List.length_eq_zero_iff.1 h.1
 | s :: ss, [], h => by simp [Reps] at h
 | s :: ss, v :: vs, h => by
  simp only [List.map_cons, AVals]
  exact ⟨v, vs, rfl, by simp only [AVal]; exact h.2 0 s v rfl rfl, zLB ⟨by simpa using h.1, fun i s v h1 h2 => h.2 (i + 1) s v (by simpa using h1) (by simpa using h2)⟩⟩
theorem zSW (hT : TOk P T) (hC : ∀ t i, T t = some i → zC1 T i = true) {β : Nat → Value} {r : Reach} {base t : Nat} {v : Value} {d : DataW H} {p : List MemPlace} (ht : (T t).isSome = true)
  (hok : Value.okWide P w r base t v) (h : DataW.Trod enc P w 0 spare held t v d p) : ∃ ss, (∃ n, Typed T n t ss) ∧ AVal (old w) w β (zST T t ss) v ∧ zC0 ss ≤ Rows.uptoBulk d := by
 obtain ⟨n, hn⟩ := h
 obtain ⟨ss, r1, r2, r3⟩ := conv hT hC n t _ _ ht hn
 obtain ⟨i, hi⟩ := Option.isSome_iff_exists.1 ht
 obtain ⟨d', info, z, h1, h2, _⟩ := hT t i hi
 refine ⟨ss, ⟨n, r2⟩, ?_, r3⟩
 unfold zST
 rw [hi]
 simp only
 cases hag : i.k.agg with
 | true =>
  obtain ⟨cs, rfl⟩ := zQX h1 (by rw [h2]; exact hag) hok
  simp only [AVal]
  exact ⟨cs.toList, by simp, zLB r1⟩
 | false =>
  have hone := zQY h1 (by rw [h2]; exact hag) hok
  rw [cells_one hone] at r1
  match ss, r1 with
  | [s], r1 => simp only [AVal, List.headD_cons]; exact r1.2 0 s v rfl rfl
theorem zNX (hT : TOk P T) (hC : ∀ t i, T t = some i → zC1 T i = true) {β : Nat → Value} {r : Reach} {base : Nat} : ∀ {ts : List Nat} {vs : List Value} {ds : List (DataW H)} {ps : List MemPlace},
  (∀ t ∈ ts, (T t).isSome = true) → (∀ (j : Nat) t v, ts[j]? = some t → vs[j]? = some v → Value.okWide P w r base t v) → DataW.TrodAll enc P w 0 spare held ts vs ds ps →
  ∃ sss, zSK T ts sss ∧ AVals (old w) w β (zJ1 T ts sss) vs ∧ zDF sss ≤ Rows.uptoBulkAll ds
 | [], vs, ds, ps, _, _, h => by
  obtain ⟨rfl, rfl, rfl⟩ := trodAll_nil h
  exact ⟨[], rfl, by simp only [zJ1, AVals], by simp [zDF]⟩
 | t :: ts, vs, ds, ps, ht, hok, h => by
  obtain ⟨v, vs', d, ds', p, q, rfl, rfl, rfl, h1, h2⟩ := trodAll_cons h
  obtain ⟨ss, a1, a2, a3⟩ := zSW hT hC (β := β) (ht t List.mem_cons_self) (hok 0 t v rfl rfl) h1
  obtain ⟨sss, b1, b2, b3⟩ := zNX hT hC (β := β) (fun t' h' => ht t' (List.mem_cons_of_mem _ h')) (fun j t' v' e1 e2 => hok (j + 1) t' v' (by simpa using e1) (by simpa using e2)) h2
  refine ⟨ss :: sss, ⟨ss, sss, rfl, a1, b1⟩, ?_, ?_⟩
  ·simp only [zJ1, AVals]; exact ⟨v, vs', rfl, a2, b2⟩
  ·simp only [zDF, Rows.uptoBulkAll]; omega
theorem zIl (hl : laidOutB P = true) {W W' : World} (hb : Below W.heap.size W W') : ∀ {ts : List Nat} {vs : List Value} {ds : List (DataW H)} {ps : List MemPlace}, (∀ t ∈ ts, P.readableRec t = true ∧ t < P.types.size) →
  DataW.TrodAll enc P W 0 (fun _ => true) true ts vs ds ps → (∀ p ∈ ps, p.block < W.heap.size) → DataW.TrodAll enc P W' 0 (fun b => decide (b < W.heap.size)) true ts vs ds ps
 | [], vs, ds, ps, _, h, _ => by
  obtain ⟨rfl, rfl, rfl⟩ := trodAll_nil h
  exact trodAll_mk0
 | t :: ts, vs, ds, ps, ht, h, hlt => by
  obtain ⟨v, vs', d, ds', p, q, rfl, rfl, rfl, h1, h2⟩ := trodAll_cons h
  exact ⟨p, q, Below.trod hl (ht t List.mem_cons_self).1 (ht t List.mem_cons_self).2 h1 hb (fun x hx => hlt x (List.mem_append_left _ hx)),
   zIl hl hb (fun t' h' => ht t' (List.mem_cons_of_mem _ h')) h2 (fun x hx => hlt x (List.mem_append_right _ hx)), rfl⟩
theorem trodAll_length {base : Nat} : ∀ {ts : List Nat} {vs : List Value} {ds : List (DataW H)} {ps : List MemPlace}, DataW.TrodAll enc P w base spare held ts vs ds ps → ds.length = ts.length
 | [], vs, ds, ps, h => by
  obtain ⟨rfl, rfl, rfl⟩ := trodAll_nil h
  rfl
 | t :: ts, vs, ds, ps, h => by
  obtain ⟨v, vs', d, ds', p, q, rfl, rfl, rfl, h1, h2⟩ := trodAll_cons h
  simp [trodAll_length h2]
theorem zOg (hT : TOk P T) (hC : ∀ t i, T t = some i → zC1 T i = true) (hl : laidOutB P = true) {f tb : Nat} {fn : Func} {s : ChangeSpec} {ps : zAy} (hs : PSound P f ps) (hvars : s.vars = [])
  (hpar : ∀ t ∈ fn.params.toList, (T t).isSome = true ∧ P.readableRec t = true ∧ t < P.types.size) (hres : fn.resultTypes = #[tb]) (htb : P.underlying tb = some .bool)
  (hfn : ∀ (ds : List (DataW H)), ds.length = fn.params.size → s.fn H ds = { results := [.lit (.bool true)], args := ds })
  (zQN : ∀ sss, zSK T fn.params.toList sss → zDF sss ≤ 1048576 → ps.spec (zJ1 T fn.params.toList sss) (.val (.s (.bool true))))
  {F : Stop.Interp} (W : World) (base : Nat) (args : Array Value) (ds gs : List (DataW H)) (before : List MemPlace)
  (hval : ∀ (j : Nat) t v, fn.params[j]? = some t → args[j]? = some v → Value.okWide P W .any base t v)
  (hW : DataW.Whole enc P fn.params.toList s.vars false W args.toList ds gs before) (hk : Rows.uptoSmall H (ds ++ gs) = true) (hgl : GlobOk (old W) W := by exact ⟨fun g row h => (by cases h), fun g cs h => (by cases h)⟩) :
  Calls P f args W fun e W' => ∃ v, e = .returned v ∧ s.post enc P fn false true false false W args v W' := by
 have hW' := hW
 obtain ⟨p, q, hA, hV, rfl, hfz, hnd⟩ := hW
 rw [hvars] at hV
 obtain ⟨rfl, rfl⟩ := trodVars_none hV
 have hb : Rows.uptoBulkAll ds ≤ 1048576 := by
  have := of_decide_eq_true hk
  simpa using this
 obtain ⟨sss, c1, c2, c3⟩ := zNX hT hC (β := fun _ => .tuple #[]) (fun t ht => (hpar t ht).1) (fun j t v h1 h2 => hval j t v (by simpa using h1) (by simpa using h2)) hA
 have hcall := hs.2.1 (old W) W _ _ _ (fun _ h => h) hgl (zJ2 fun t ht => (hpar t ht).1) c2 (zQN sss c1 (Nat.le_trans c3 hb))
 refine hcall.mono fun e W' ⟨v, G', he, hext, hret⟩ => ⟨v, he, ?_⟩
 obtain ⟨_, hret⟩ := hret
 simp only [AVal, Rep] at hret
 subst hret
 have hbelow : Below W.heap.size W W' := ⟨hext.os, hext.tape, hext.output, hext.size, fun k hk => hext.old k hk⟩
 have hlen : ds.length = fn.params.size := by simpa using trodAll_length hA
 have hlt : ∀ x ∈ p, x.block < W.heap.size := fun x hx => by simpa using hW'.lt x (by simpa using hx)
 refine ⟨ds, [], p ++ [], [], p, [], hW', ?_, ?_, ?_, hbelow.frame _, fun h => by cases h⟩
 ·rw [List.append_nil, hfn ds hlen, hres]
  exact trodAll_cons_mk (shut_bool htb true) trodAll_mk0
 ·rw [List.append_nil, hfn ds hlen]
  exact zIl hl hbelow (fun t ht => (hpar t ht).2) hA hlt
 ·rw [List.append_nil, hfn ds hlen, hvars]
  rfl
end
end Go.Abs
namespace Go.Abs
def look? {α : Type} (k : Nat) : List (Nat × α) → Option α
 | [] => none
 | (a, b) :: r => match Nat.beq k a with | true => some b | false => look? k r
theorem zAA {α : Type} {Q : Nat → α → Prop} : ∀ {l : List (Nat × α)}, (∀ p ∈ l, Q p.1 p.2) → ∀ t i, look? t l = some i → Q t i
 | [], _, t, i, h => by simp [look?] at h
 | (a, b) :: r, hl, t, i, h => by
  simp only [look?] at h
  split at h
  ·rename_i e; cases h; obtain rfl := Nat.eq_of_beq_eq_true e; exact hl _ List.mem_cons_self
  ·exact zAA (fun p hp => hl p (List.mem_cons_of_mem _ hp)) t i h
def okT (P : Program) (t : Nat) (i : TI) : Prop := ∃ d info z, P.underlying t = some d ∧ tkOf d = i.k ∧ P.info? t = some info ∧ info.size = i.size ∧ info.bytes = i.bytes ∧
  info.zero = some z ∧ z = (if i.k.agg then .agg (i.zero.map S.zval).toArray else (i.zero.headD .np).zval) ∧ i.zero.length = i.size ∧ (i.k.agg = false → i.size = 1) ∧ i.zero.all S.zok = true
theorem zTY {P : Program} {tab : List (Nat × TI)} (h : ∀ p ∈ tab, okT P p.1 p.2) : TOk P (fun t => look? t tab) := zAA (Q := okT P) h
theorem zRu {tab : List (Nat × TI)} (h : tab.all (fun p => zC1 (fun t => look? t tab) p.2) = true) : ∀ t i, look? t tab = some i → zC1 (fun t => look? t tab) i = true :=
 zAA (Q := fun _ i => zC1 (fun t => look? t tab) i = true) fun p hp => List.all_eq_true.1 h p hp
theorem wrap64_in {n : Int} (h0 : -9223372036854775808 ≤ n) (h1 : n < 9223372036854775808) : IntKind.i64.wrap n = n := by
 simp only [IntKind.wrap, IntKind.bits, IntKind.signed]
 by_cases hn : 0 ≤ n
 ·have e : n % (2 ^ 64 : Int) = n := Int.emod_eq_of_lt hn (by omega)
  simp only [e]
  rw [if_neg (by simp; omega)]
 ·have e : n % (2 ^ 64 : Int) = n + 2 ^ 64 := by
   rw [← Int.add_emod_right]; exact Int.emod_eq_of_lt (by omega) (by omega)
  simp only [e]
  rw [if_pos (by simp; omega)]
  omega
end Go.Abs
namespace Go.Abs
section
variable {T : Nat → Option TI}
theorem zE4 {n t : Nat} {ss : List S} {i : TI} {k : IntKind} (ht : T t = some i) (hk : i.k = .int k) (h : Typed T n t ss) : ∃ x : Int, ss = [.int k x] ∧ k.min ≤ x ∧ x ≤ k.max := by
 cases n with
 | zero => exact h.elim
 | succ n => simpa only [Typed, ht, hk] using h
theorem zKW {n t : Nat} {ss : List S} {i : TI} (ht : T t = some i) (hk : i.k = .str) (h : Typed T n t ss) : ∃ l : List UInt8, ss = [.str l] ∧ l.length ≤ maxLen := by
 cases n with
 | zero => exact h.elim
 | succ n => simpa only [Typed, ht, hk] using h
theorem zF8 {n t e : Nat} {ss : List S} {i : TI} (ht : T t = some i) (hk : i.k = .slice e) (h : Typed T n t ss) : ∃ m rows, n = m + 1 ∧ ss = [.sl (szOf T e) rows] ∧ rows.length ≤ maxLen ∧ ∀ r ∈ rows, Typed T m e r := by
 cases n with
 | zero => exact h.elim
 | succ n =>
  simp only [Typed, ht, hk] at h
  obtain ⟨rows, h1, h2, h3⟩ := h
  exact ⟨n, rows, rfl, h1, h2, h3⟩
theorem zGN {n t : Nat} {fs : List (Nat × Nat)} {ss : List S} {i : TI} (ht : T t = some i) (hk : i.k = .struct fs) (h : Typed T n t ss) : ∃ m, n = m + 1 ∧ zSv (Typed T m) (fs.map (·.2)) ss := by
 cases n with
 | zero => exact h.elim
 | succ n =>
  simp only [Typed, ht, hk] at h
  exact ⟨n, rfl, h⟩
theorem zJY {α β : Type} {f : α → β} {q : α → Prop} : ∀ {l : List β}, (∀ y ∈ l, ∃ x, y = f x ∧ q x) → ∃ xs : List α, l = xs.map f ∧ ∀ x ∈ xs, q x
 | [], _ => ⟨[], rfl, fun _ h => by cases h⟩
 | y :: l, h => by
  obtain ⟨x, hx, hq⟩ := h y List.mem_cons_self
  obtain ⟨xs, h1, h2⟩ := zJY (fun z hz => h z (List.mem_cons_of_mem _ hz))
  refine ⟨x :: xs, by rw [hx, h1]; rfl, fun z hz => ?_⟩
  rcases List.mem_cons.1 hz with rfl | hz
  ·exact hq
  ·exact h2 z hz
def irow (k : IntKind) (x : Int) : List S := [.int k x]
theorem zMc {n t e : Nat} {ss : List S} {i j : TI} {k : IntKind} (ht : T t = some i) (hk : i.k = .slice e) (he : T e = some j) (hj : j.k = .int k) (h : Typed T n t ss) :
  ∃ xs : List Int, ss = [.sl j.size (xs.map (irow k))] ∧ xs.length ≤ maxLen ∧ ∀ x ∈ xs, k.min ≤ x ∧ x ≤ k.max := by
 obtain ⟨m, rows, _, rfl, h2, h3⟩ := zF8 ht hk h
 obtain ⟨xs, rfl, hq⟩ := zJY (f := irow k) (q := fun x => k.min ≤ x ∧ x ≤ k.max) (l := rows) fun r hr => by
  obtain ⟨x, h4, h5⟩ := zE4 he hj (h3 r hr)
  exact ⟨x, h4, h5⟩
 exact ⟨xs, by simp [szOf, he], by simpa using h2, hq⟩
end
theorem zNT : ∀ (l : List S), l.length ≤ zC0 l
 | [] => by simp [zC0]
 | s :: l => by
  have := zNT l
  have h1 : 1 ≤ s.bulk := by cases s <;> simp [S.bulk]
  simp only [zC0, List.length_cons]; omega
theorem zNU : ∀ {rows : List (List S)}, (∀ r ∈ rows, 1 ≤ r.length) → rows.length ≤ zDF rows
 | [], _ => by simp [zDF]
 | r :: rows, h => by
  have h1 := h r List.mem_cons_self
  have h2 := zNT r
  have h3 := zNU (rows := rows) (fun r' hr => h r' (List.mem_cons_of_mem _ hr))
  simp only [zDF, List.length_cons]; omega
theorem zRr (k : IntKind) (xs : List Int) : xs.length ≤ zDF (xs.map (irow k)) := by
 have := zNU (rows := xs.map (irow k)) (fun r hr => by obtain ⟨c, _, rfl⟩ := List.mem_map.1 hr; exact Nat.le_refl 1)
 simpa using this
theorem zDe {P : Program} {f : Nat} {s : Nat → List AV → Ret → Prop} (h : ∀ n, PSound P f (zAI (s n))) : PSound P f (zAI fun xs r => ∃ n, s n xs r) :=
 ⟨(h 0).1, fun G w xs vs r hl hgl hp hv ⟨n, hn⟩ => (h n).2.1 G w xs vs r hl hgl hp hv hn, fun R hR => (by cases hR), fun R hR => (by cases hR)⟩
theorem zB5 {P : Program} {f : Nat} {s : List AV → Ret → Prop} (hcall : ∀ args w, (callFunc f args).run P w = .ok (.enter f args) w) (h : ∀ xs r, ¬ s xs r) : PSound P f (zAI s) :=
 ⟨hcall, fun G w xs vs r _ _ _ _ hs => absurd hs (h xs r), fun R hR => (by cases hR), fun R hR => (by cases hR)⟩
end Go.Abs
namespace Go.Abs
def req {α : Type} (φ : Prop) [Decidable φ] (K : Option α) : Option α := if φ then K else none
theorem zAN {α : Type} {φ : Prop} [Decidable φ] {K : Option α} {r : α} (h : req φ K = some r) : φ ∧ K = some r := by
 unfold req at h
 split at h
 ·exact ⟨by assumption, h⟩
 ·cases h
theorem zB6 {α : Type} {φ : Prop} [Decidable φ] {K : Option α} (h : φ) : req φ K = K := if_pos h
theorem zAc {α β : Type} {o : Option α} {f : α → Option β} {r : β} (h : o.bind f = some r) : ∃ x, o = some x ∧ f x = some r := by
 cases o with
 | none => cases h
 | some x => exact ⟨x, rfl, h⟩
theorem zAk {α : Type} {b : Bool} {A B : Option α} {r : α} (hb : b = true) (h : (bif b then A else B) = some r) : A = some r := by subst hb; exact h
theorem zAj {α : Type} {b : Bool} {A B : Option α} {r : α} (hb : b = false) (h : (bif b then A else B) = some r) : B = some r := by subst hb; exact h
inductive Fl (R G : Type) where
 | ret (r : R)
 | go (g : G)
def at? {α : Type} (l : List α) (i : Int) : Option α := if 0 ≤ i then l[i.toNat]? else none
theorem zAw {α : Type} {R : List α → List (List S)} {f : α → List S} (hR : ∀ l, R l = l.map f) {l : List α} {i : Int} {y : α} (h : at? l i = some y) :
  (0 ≤ i ∧ i < ((R l).length : Int)) ∧ (R l).getD i.toNat [] = f y ∧ i.toNat < (R l).length := by
 unfold at? at h
 split at h
 ·rename_i h0
  obtain ⟨hl, hy⟩ := List.getElem?_eq_some_iff.1 h
  rw [hR, List.length_map]
  exact ⟨⟨h0, by omega⟩, by simp [h], hl⟩
 ·cases h
theorem zBi {α : Type} {l : List α} {i : Nat} (h : i < l.length) : at? l (i : Int) = some l[i] := by
 simp [at?, h]
theorem rlen {α : Type} {R : List α → List (List S)} {f : α → List S} (hR : ∀ l, R l = l.map f) (l : List α) : (R l).length = l.length := by rw [hR, List.length_map]
theorem rcut {α : Type} {R : List α → List (List S)} {f : α → List S} (hR : ∀ l, R l = l.map f) (l : List α) (a b : Nat) : ((R l).take b).drop a = R ((l.take b).drop a) := by
 rw [hR, hR, List.map_drop, List.map_take]
theorem at_set {α : Type} {l : List α} {i : Int} {y : α} (h : at? l i = some y) (y' : α) : at? (l.set i.toNat y') i = some y' := by
 unfold at? at h ⊢
 split at h
 ·rename_i h0
  rw [if_pos h0]
  rw [List.getElem?_set_self (List.getElem?_eq_some_iff.1 h).1]
 ·cases h
theorem rset {α : Type} {R : List α → List (List S)} {f : α → List S} (hR : ∀ l, R l = l.map f) {l : List α} {i : Int} {y : α} (h : at? l i = some y) (y' : α) (o n : Nat) (ss : List S) (hs : (f y).take o ++ ss ++ (f y).drop n = f y') :
  (R l).set i.toNat (((R l).getD i.toNat []).take o ++ ss ++ ((R l).getD i.toNat []).drop n) = R (l.set i.toNat y') := by
 rw [(zAw hR h).2.1, hs, hR, hR, List.map_set]
def b8of (n : Int) : UInt8 := UInt8.ofNat n.toNat
theorem zAK {n : Int} (h0 : 0 ≤ n) (h1 : n ≤ 255) : [S.int .u8 n] = brow (b8of n) := by
 have : (b8of n).toNat = n.toNat := by simp [b8of, UInt8.toNat_ofNat']; omega
 simp only [brow, this, Int.toNat_of_nonneg h0]
theorem zKX (n : Int) : 0 ≤ IntKind.u8.wrap n ∧ IntKind.u8.wrap n ≤ 255 := by
 have : IntKind.u8.wrap n = n % 256 := by
  simp only [IntKind.wrap, IntKind.bits, IntKind.signed]
  simp
 rw [this]; omega
theorem zAD (n : Int) : [S.int .u8 (IntKind.u8.wrap n)] = brow (b8of (IntKind.u8.wrap n)) := zAK (zKX n).1 (zKX n).2
theorem zAq {c : Cx} {σ : St} {Q : End → St → Prop} {x : Code} (σ1 : St) (h1 : Tri c x σ (fun e σ' => match e with | .normal => Le c σ' σ1 | e => Q e σ')) (h2 : ∀ σ', Le c σ' σ1 → Q .normal σ') : Tri c x σ Q :=
 zNh h1 fun e σ' hq => by
  cases e with
  | normal => exact h2 σ' hq
  | exit id => exact hq
  | ret => exact hq
theorem zCY {c : Cx} {σ : St} {Q : End → St → Prop} {x : Code} {R Z : Type} {fl : Fl R Z} (E : Z → St) (h1 : Tri c x σ (fun e σ' => match e with | .normal => ∃ z, fl = .go z ∧ Le c σ' (E z) | e => Q e σ'))
  (h2 : ∀ z σ', fl = .go z → Le c σ' (E z) → Q .normal σ') : Tri c x σ Q :=
 zNh h1 fun e σ' hq => by
  cases e with
  | normal => obtain ⟨z, h3, h4⟩ := hq; exact h2 z σ' h3 h4
  | exit id => exact hq
  | ret => exact hq
theorem zBg {l : List UInt8} {i : Int} {y : UInt8} (h : at? l i = some y) : (0 ≤ i ∧ i < (l.length : Int)) ∧ ((l.getD i.toNat 0).toNat : Int) = (y.toNat : Int) := by
 unfold at? at h
 split at h
 ·rename_i h0
  obtain ⟨hl, hy⟩ := List.getElem?_eq_some_iff.1 h
  exact ⟨⟨h0, by omega⟩, by simp [h]⟩
 ·cases h
theorem PSound.withNil {P : Program} {f : Nat} {R : List AV → List Ob → AV → List (Option Ob) → Prop} (h : PSound P f (zCm R)) (k : Option Nat) : PSound P f (zCm R k) := ⟨h.1, h.2.1, h.2.2.1, fun R hR => by cases hR⟩
theorem zHF {P : Program} {f : Nat} {R : List AV → List Ob → AV → List (Option Ob) → Prop} (hcall : ∀ args w, (callFunc f args).run P w = .ok (.enter f args) w) (h : ∀ xs os x os', ¬ R xs os x os') (k : Option Nat) : PSound P f (zCm R k) :=
 ⟨hcall, fun G w xs vs r _ _ _ _ hs => hs.elim, fun R' hR' => (by
  obtain rfl : R = R' := by simpa [zCm] using hR'
  exact fun G w β xs vs os x os' _ _ _ _ _ hs => absurd hs (h xs os x os')), fun R hR => (by cases hR)⟩
theorem zLZ {P : Program} {f : Nat} {s : Nat → List AV → List Ob → AV → List (Option Ob) → Prop} {k : Option Nat} (h : ∀ n, PSound P f (zCm (s n) k)) (k' : Option Nat) : PSound P f (zCm (fun xs os x os' => ∃ n, s n xs os x os') k') :=
 ⟨(h 0).1, fun G w xs vs r _ _ _ _ hs => hs.elim, fun R' hR' => (by
  obtain rfl : (fun xs os x os' => ∃ n, s n xs os x os') = R' := by simpa [zCm] using hR'
  exact fun G w β xs vs os x os' h1 h2 h3 h4 h5 ⟨n, hs⟩ => (h n).2.2.1 (s n) rfl G w β xs vs os x os' h1 h2 h3 h4 h5 hs), fun R hR => (by cases hR)⟩
def Ev (p : Nat → Prop) : Prop := ∃ N, ∀ n, N ≤ n → p n
theorem Ev.and {p q : Nat → Prop} (h : Ev p) (k : Ev q) : Ev fun n => p n ∧ q n := by
 obtain ⟨a, ha⟩ := h
 obtain ⟨b, hb⟩ := k
 exact ⟨a + b, fun n hn => ⟨ha n (by omega), hb n (by omega)⟩⟩
theorem Ev.mono {p q : Nat → Prop} (h : Ev p) (k : ∀ n, p n → q n) : Ev q := by
 obtain ⟨a, ha⟩ := h
 exact ⟨a, fun n hn => k n (ha n hn)⟩
theorem Ev.all {p : Nat → Prop} (h : ∀ n, p n) : Ev p := ⟨0, fun n _ => h n⟩
theorem Ev.succ {p : Nat → Prop} (h : Ev fun n => p (n + 1)) : Ev p := by
 obtain ⟨a, ha⟩ := h
 refine ⟨a + 1, fun n hn => ?_⟩
 obtain ⟨m, rfl⟩ : ∃ m, n = m + 1 := ⟨n - 1, by omega⟩
 exact ha m (by omega)
theorem zAX {i : Nat} (h : i < 9223372036854775807) : IntKind.i64.wrap ((i : Int) + 1) = ((i + 1 : Nat) : Int) := by
 rw [wrap64_in (by omega) (by omega)]; rfl
end Go.Abs
namespace Go.Proofs.YtgfneloodabafaaGreatDoor
open Go.Abs
inductive Nd where
 | mk (kind : Int) (text : List UInt8) (cols : Int) (kids : List Nd)
mutual
def Nd.enc : Nd → List S
 | .mk k t c ks => [.int .i64 k, .str t, .int .i64 c, .sl 4 (Nd.encs ks)]
def Nd.encs : List Nd → List (List S)
 | [] => []
 | v :: vs => v.enc :: Nd.encs vs
end
mutual
def Nd.w : Nd → Nat
 | .mk _ t _ ks => t.length + Nd.ws ks + 1
def Nd.ws : List Nd → Nat
 | [] => 0
 | v :: vs => v.w + Nd.ws vs + 1
end
def zKj (n : Int) : Prop := -9223372036854775808 ≤ n ∧ n ≤ 9223372036854775807
mutual
def Nd.rng : Nd → Prop
 | .mk k _ c ks => zKj k ∧ zKj c ∧ Nd.rngs ks
def Nd.rngs : List Nd → Prop
 | [] => True
 | v :: vs => v.rng ∧ Nd.rngs vs
end
theorem Nd.encs_eq : ∀ (vs : List Nd), Nd.encs vs = vs.map Nd.enc
 | [] => rfl
 | v :: vs => by simp [Nd.encs, Nd.encs_eq vs]
theorem Nd.rngAll : ∀ {vs : List Nd}, (∀ v ∈ vs, v.rng) → Nd.rngs vs
 | [], _ => trivial
 | v :: vs, h => ⟨h v List.mem_cons_self, Nd.rngAll fun u hu => h u (List.mem_cons_of_mem _ hu)⟩
theorem Nd.rng_mem : ∀ {vs : List Nd} {v : Nd}, Nd.rngs vs → v ∈ vs → v.rng
 | u :: vs, v, h, hm => by
  rcases List.mem_cons.1 hm with rfl | hm
  ·exact h.1
  ·exact Nd.rng_mem h.2 hm
theorem Nd.w_mem : ∀ {vs : List Nd} {v : Nd}, v ∈ vs → v.w < Nd.ws vs
 | u :: vs, v, hm => by
  simp only [Nd.ws]
  rcases List.mem_cons.1 hm with rfl | hm
  ·omega
  ·have := Nd.w_mem hm; omega
theorem Nd.ws_len : ∀ (vs : List Nd), vs.length ≤ Nd.ws vs
 | [] => Nat.le_refl _
 | v :: vs => by have := Nd.ws_len vs; simp only [Nd.ws, List.length_cons]; omega
theorem Nd.ws_append : ∀ (a b : List Nd), Nd.ws (a ++ b) = Nd.ws a + Nd.ws b
 | [], b => by simp [Nd.ws]
 | v :: a, b => by simp only [List.cons_append, Nd.ws, Nd.ws_append a b]; omega
mutual
theorem Nd.w_bulk : ∀ (v : Nd), v.w + 1 ≤ zC0 v.enc
 | .mk k t c vs => by
  have := Nd.ws_bulk vs
  simp only [Nd.w, Nd.enc, zC0, S.bulk]; omega
theorem Nd.ws_bulk : ∀ (vs : List Nd), Nd.ws vs ≤ zDF (Nd.encs vs)
 | [] => Nat.zero_le _
 | v :: vs => by
  have h1 := Nd.w_bulk v
  have h2 := Nd.ws_bulk vs
  simp only [Nd.ws, Nd.encs, zDF]; omega
end
theorem zMd {T : Nat → Option TI} {e s ki st : Nat} {i j k1 k2 : TI} (he : T e = some i) (hk : i.k = .struct [(0,ki),(1,st),(2,ki),(3,s)]) (hs : T s = some j) (hj : j.k = .slice e) (hz : szOf T e = 4)
  (hi : T ki = some k1) (hki : k1.k = .int .i64) (ht : T st = some k2) (hkt : k2.k = .str) :
  ∀ (n : Nat) {ss : List S}, Typed T n e ss → ∃ t : Nd, ss = t.enc ∧ t.rng := by
 intro n
 induction n using Nat.strongRecOn with
 | _ n ih =>
  intro ss h
  obtain ⟨m, rfl, a0, q0, rfl, u0, a1, q1, rfl, u1, a2, q2, rfl, u2, a3, q3, rfl, u3, rfl⟩ := zGN (T := T) he hk h
  obtain ⟨k, rfl, k1, k2⟩ := zE4 (T := T) (k := .i64) hi hki u0
  obtain ⟨t, rfl, _⟩ := zKW (T := T) ht hkt u1
  obtain ⟨c, rfl, c1, c2⟩ := zE4 (T := T) (k := .i64) hi hki u2
  obtain ⟨m', rows, rfl, rfl, _, hr⟩ := zF8 (T := T) hs hj u3
  obtain ⟨ks, rfl, hks⟩ := zJY (f := Nd.enc) (q := Nd.rng) (l := rows) fun r hr' => ih m' (by omega) (hr r hr')
  refine ⟨.mk k t c ks, by simp only [Nd.enc, Nd.encs_eq, hz]; rfl, ?_⟩
  have e1 : IntKind.i64.min = -9223372036854775808 ∧ IntKind.i64.max = 9223372036854775807 := by decide
  rw [e1.1] at k1 c1; rw [e1.2] at k2 c2
  exact ⟨⟨k1, k2⟩, ⟨c1, c2⟩, Nd.rngAll hks⟩
end Go.Proofs.YtgfneloodabafaaGreatDoor
namespace Go.Proofs.YtgfneloodabafaaGreatDoor
open Go.Abs
def zDv (s p : List UInt8) : Option Int := req (p.length = 1) <| some (Lib.indexByte s (p.headD 0))
def zDL (s p : List UInt8) : Option Bool := req (p.length = 1) <| some (decide (0 ≤ Lib.indexByte s (p.headD 0)))
def zCB (s : List UInt8) (c : Int) : Option Int := some (Lib.indexByte s c.toNat.toUInt8)
def zA4 (b : List UInt8) : Option (List UInt8) := some b
def zCo (b : List UInt8) : Option (List UInt8) := req (b ≠ [] ∧ b.length ≤ 9223372036854775807) <| some b
def zDp (n : Int) : Option (List UInt8) := req (-9223372036854775808 ≤ n ∧ n ≤ 9223372036854775807) <| some (Lib.itoa n)
def zCM (n : Int) : Option (List Int) := req (0 ≤ n ∧ n ≤ 1073741824) (some [])
def zDu (l : List Int) : Option (List Int) := req (l.length ≤ 4294967296) (some l)
end Go.Proofs.YtgfneloodabafaaGreatDoor
namespace Go.Proofs.YtgfneloodabafaaGreatDoor
open Go.Abs
def zBS : (List UInt8) → Option Bool
| s1 =>
 some (s1 == [])
def zBp (s1 : List UInt8) : Nat → Int → Option (Fl Bool Unit)
| 0, _ => none
| k+1, i2 =>
 bif decide (i2 < (s1.length : Int)) then (
  (at? s1 i2).bind fun c3 =>
  (
   bif decide ((zJ4 .or .u8 (c3.toNat : Int) 32) < 97) then (
    some true
   ) else (
    some (decide (122 < (zJ4 .or .u8 (c3.toNat : Int) 32)))
   )
   : Option (Bool)).bind fun x5 =>
  bif x5 then (
   some (.ret false)
  ) else (
   zBp s1 k (IntKind.i64.wrap (i2 + 1))
  )
 ) else (
  some (.go ())
 )
def zCK (n : Nat) : (List UInt8) → Option Bool
| s1 =>
 (zBp s1 n 0).bind fun fl => match fl with
 | .ret r => some r
 | .go _ =>
  some true
def zDn : (List UInt8) → Option Bool
| s1 =>
 (
  (
   bif (s1 == [102, 114, 97, 99]) then (
    some (s1 == [102, 114, 97, 99])
   ) else (
    bif (s1 == [114, 111, 111, 116]) then (
     some (s1 == [114, 111, 111, 116])
    ) else (
     bif (s1 == [109, 97, 116, 114, 105, 120]) then (
      some (s1 == [109, 97, 116, 114, 105, 120])
     ) else (
      some (s1 == [102, 101, 110, 99, 101])
     )
    )
   )
   : Option (Bool)).bind fun x2 =>
  bif x2 then (
   some (.ret true)
  ) else (
   some (.go ())
  )
  : Option (Fl Bool Unit)).bind fun fl => match fl with
 | .ret r => some r
 | .go _ =>
  some false
def zC8 : (List UInt8) → Option Bool
| s1 =>
 (
  (
   bif (s1 == [104, 97, 116]) then (
    some (s1 == [104, 97, 116])
   ) else (
    bif (s1 == [98, 97, 114]) then (
     some (s1 == [98, 97, 114])
    ) else (
     bif (s1 == [118, 101, 99]) then (
      some (s1 == [118, 101, 99])
     ) else (
      bif (s1 == [100, 111, 116]) then (
       some (s1 == [100, 111, 116])
      ) else (
       bif (s1 == [116, 105, 108, 100, 101]) then (
        some (s1 == [116, 105, 108, 100, 101])
       ) else (
        some (s1 == [99, 104, 101, 99, 107])
       )
      )
     )
    )
   )
   : Option (Bool)).bind fun x2 =>
  bif x2 then (
   some (.ret true)
  ) else (
   some (.go ())
  )
  : Option (Fl Bool Unit)).bind fun fl => match fl with
 | .ret r => some r
 | .go _ =>
  some false
def zDI (n : Nat) : (List UInt8) → Option Bool
| s1 =>
 bif ((s1.length : Int) == 1) then (
  (
   (zCK n s1).bind fun y3 =>
   bif y3 then (
    some true
   ) else (
    (zDL [43, 45, 42, 47, 61, 60, 62, 44, 59, 58, 33, 124, 39, 63, 126, 64] s1).bind fun y4 =>
    some y4
   )
   : Option (Bool)).bind fun x2 =>
  some x2
 ) else (
  (
   bif decide (2 ≤ (s1.length : Int)) then (
    bif decide ((s1.length : Int) ≤ 16) then (
     (zCK n s1).bind fun y6 =>
     bif y6 then (
      (zDn s1).bind fun y7 =>
      bif (!y7) then (
       (zC8 s1).bind fun y8 =>
       some (!y8)
      ) else (
       some false
      )
     ) else (
      some false
     )
    ) else (
     some false
    )
   ) else (
    some false
   )
   : Option (Bool)).bind fun x5 =>
  some x5
 )
def zCp : (List UInt8) → (List UInt8) → Option ((List UInt8) × (List UInt8) × Bool)
| s1, sep2 =>
 (zDv s1 sep2).bind fun y3 =>
 bif decide (0 ≤ y3) then (
  req (0 ≤ (0 : Int) ∧ (0 : Int) ≤ y3 ∧ y3 ≤ (s1.length : Int)) <|
  req (0 ≤ (IntKind.i64.wrap (y3 + (sep2.length : Int))) ∧ (IntKind.i64.wrap (y3 + (sep2.length : Int))) ≤ (s1.length : Int) ∧ (s1.length : Int) ≤ (s1.length : Int)) <|
  some ((s1.take y3.toNat).drop (0 : Int).toNat, (s1.take (s1.length : Int).toNat).drop (IntKind.i64.wrap (y3 + (sep2.length : Int))).toNat, true)
 ) else (
  some (s1, [], false)
 )
def zDM : (List UInt8) → (List UInt8) → Option ((List UInt8) × (List UInt8) × Bool)
| s1, sep2 =>
 (zCp s1 sep2).bind fun ⟨y3, y4, y5⟩ =>
 some (y3, y4, y5)
def zBw (s1 : List UInt8) : Nat → Int → Option (Fl Bool Unit)
| 0, _ => none
| k+1, i2 =>
 bif decide (i2 < (s1.length : Int)) then (
  (
   (at? s1 i2).bind fun c4 =>
   bif decide ((c4.toNat : Int) < 48) then (
    some true
   ) else (
    (at? s1 i2).bind fun c6 =>
    some (decide (57 < (c6.toNat : Int)))
   )
   : Option (Bool)).bind fun x3 =>
  bif x3 then (
   some (.ret false)
  ) else (
   zBw s1 k (IntKind.i64.wrap (i2 + 1))
  )
 ) else (
  some (.go ())
 )
def zC9 (n : Nat) : (List UInt8) → Option Bool
| s1 =>
 (zBw s1 n 0).bind fun fl => match fl with
 | .ret r => some r
 | .go _ =>
  some (!(s1 == []))
def zC7 (n : Nat) : (List UInt8) → Option Bool
| s1 =>
 (zDM s1 [46]).bind fun ⟨y2, y3, y4⟩ =>
 (
  bif decide ((s1.length : Int) ≤ 20) then (
   (zC9 n y2).bind fun y6 =>
   bif y6 then (
    bif (!y4) then (
     some true
    ) else (
     (zC9 n y3).bind fun y7 =>
     some y7
    )
   ) else (
    some false
   )
  ) else (
   some false
  )
  : Option (Bool)).bind fun x5 =>
 some x5
def zBG (s1 : List UInt8) : Nat → Int → Option (Fl Bool Unit)
| 0, _ => none
| k+1, i2 =>
 bif decide (i2 < (s1.length : Int)) then (
  (
   (at? s1 i2).bind fun c4 =>
   bif decide ((c4.toNat : Int) < 32) then (
    some true
   ) else (
    (at? s1 i2).bind fun c6 =>
    some (decide (126 < (c6.toNat : Int)))
   )
   : Option (Bool)).bind fun x3 =>
  bif x3 then (
   some (.ret false)
  ) else (
   zBG s1 k (IntKind.i64.wrap (i2 + 1))
  )
 ) else (
  some (.go ())
 )
def zEd (n : Nat) : (List UInt8) → Option Bool
| s1 =>
 (zBG s1 n 0).bind fun fl => match fl with
 | .ret r => some r
 | .go _ =>
  some (decide ((s1.length : Int) ≤ 200))
def zEc : (List UInt8) → Option Bool
| s1 =>
 (
  bif ((s1.length : Int) == 2) then (
   (at? s1 0).bind fun c3 =>
   (zCB [40, 41, 91, 93, 123, 125, 60, 62, 47, 124, 46] (c3.toNat : Int)).bind fun y5 =>
   bif decide (0 ≤ y5) then (
    (at? s1 1).bind fun c6 =>
    (zCB [40, 41, 91, 93, 123, 125, 60, 62, 47, 124, 46] (c6.toNat : Int)).bind fun y8 =>
    some (decide (0 ≤ y8))
   ) else (
    some false
   )
  ) else (
   some false
  )
  : Option (Bool)).bind fun x2 =>
 some x2
def zDB : Option Unit
:=
 some ()
def zCe (n : Nat) : (Unit × Int) → Nd → Option (Bool × (Unit × Int))
| ⟨_, o1_nodes⟩, ⟨a2_kind, a2_text, a2_cols, a2_kids⟩ =>
 (
  bif decide (a2_kind < 1) then (
   some true
  ) else (
   bif decide (12 < a2_kind) then (
    some true
   ) else (
    bif (a2_kind == 1) then (
     (zBS a2_text).bind fun y4 =>
     some (!y4)
    ) else (
     bif (a2_kind == 2) then (
      (zDI n a2_text).bind fun y5 =>
      some (!y5)
     ) else (
      bif (a2_kind == 3) then (
       (zC7 n a2_text).bind fun y6 =>
       some (!y6)
      ) else (
       bif (a2_kind == 4) then (
        (zEd n a2_text).bind fun y7 =>
        some (!y7)
       ) else (
        bif (a2_kind == 5) then (
         (zBS a2_text).bind fun y8 =>
         some (!y8)
        ) else (
         bif (a2_kind == 6) then (
          (zBS a2_text).bind fun y9 =>
          some (!y9)
         ) else (
          bif (a2_kind == 7) then (
           (zBS a2_text).bind fun y10 =>
           some (!y10)
          ) else (
           bif (a2_kind == 8) then (
            (zBS a2_text).bind fun y11 =>
            some (!y11)
           ) else (
            bif (a2_kind == 9) then (
             (zBS a2_text).bind fun y12 =>
             some (!y12)
            ) else (
             bif (a2_kind == 10) then (
              (zC8 a2_text).bind fun y13 =>
              some (!y13)
             ) else (
              bif (a2_kind == 11) then (
               (zEc a2_text).bind fun y14 =>
               some (!y14)
              ) else (
               bif (a2_kind == 12) then (
                (zBS a2_text).bind fun y15 =>
                some (!y15)
               ) else (
                none
               )
              )
             )
            )
           )
          )
         )
        )
       )
      )
     )
    )
   )
  )
  : Option (Bool)).bind fun x3 =>
 bif x3 then (
  some (false, ((), o1_nodes))
 ) else (
  bif (a2_kind == 1) then (
   (
    bif (a2_cols == 0) then (
     some (decide ((a2_kids.length : Int) ≤ 200))
    ) else (
     some false
    )
    : Option (Bool)).bind fun x16 =>
   some (x16, ((), o1_nodes))
  ) else (
   bif (a2_kind == 12) then (
    (
     bif decide (1 ≤ a2_cols) then (
      bif decide (a2_cols ≤ 16) then (
       bif decide (1 ≤ (a2_kids.length : Int)) then (
        bif decide ((a2_kids.length : Int) ≤ 256) then (
         req (a2_cols ≠ 0) <|
         some (((a2_kids.length : Int).tmod a2_cols) == 0)
        ) else (
         some false
        )
       ) else (
        some false
       )
      ) else (
       some false
      )
     ) else (
      some false
     )
     : Option (Bool)).bind fun x18 =>
    some (x18, ((), o1_nodes))
   ) else (
    (
     bif (a2_cols == 0) then (
      bif (a2_kind == 1) then (
       some ((a2_kids.length : Int) == 0)
      ) else (
       bif (a2_kind == 2) then (
        some ((a2_kids.length : Int) == 0)
       ) else (
        bif (a2_kind == 3) then (
         some ((a2_kids.length : Int) == 0)
        ) else (
         bif (a2_kind == 4) then (
          some ((a2_kids.length : Int) == 0)
         ) else (
          bif (a2_kind == 5) then (
           some ((a2_kids.length : Int) == 2)
          ) else (
           bif (a2_kind == 6) then (
            some ((a2_kids.length : Int) == 2)
           ) else (
            bif (a2_kind == 7) then (
             some ((a2_kids.length : Int) == 2)
            ) else (
             bif (a2_kind == 8) then (
              some ((a2_kids.length : Int) == 2)
             ) else (
              bif (a2_kind == 9) then (
               some ((a2_kids.length : Int) == 3)
              ) else (
               bif (a2_kind == 10) then (
                some ((a2_kids.length : Int) == 1)
               ) else (
                bif (a2_kind == 11) then (
                 some ((a2_kids.length : Int) == 1)
                ) else (
                 bif (a2_kind == 12) then (
                  some ((a2_kids.length : Int) == 0)
                 ) else (
                  none
                 )
                )
               )
              )
             )
            )
           )
          )
         )
        )
       )
      )
     ) else (
      some false
     )
     : Option (Bool)).bind fun x22 =>
    some (x22, ((), o1_nodes))
   )
  )
 )
def zA1 (F_node_checker_node : (Unit × Int) → Nd → Int → Option (Bool × (Unit × Int))) (a2_kind : Int) (a2_kids : List Nd) (a3 : Int) : Nat → Int → Int → Option (Fl (Bool × (Unit × Int)) (Int))
| 0, _, _ => none
| k+1, x9, x10 =>
 bif decide (x10 < (a2_kids.length : Int)) then (
  (
   (at? a2_kids x10).bind fun ⟨e14_kind, e14_text, e14_cols, e14_kids⟩ =>
   bif ((a2_kind == 1) == (e14_kind == 1)) then (
    some (true, x9)
   ) else (
    (at? a2_kids x10).bind fun ⟨e16_kind, e16_text, e16_cols, e16_kids⟩ =>
    (F_node_checker_node ((), x9) (Nd.mk e16_kind e16_text e16_cols e16_kids) (IntKind.i64.wrap (a3 + 1))).bind fun ⟨y18, ⟨_, w19_nodes⟩⟩ =>
    some ((!y18), w19_nodes)
   )
   : Option (Bool × Int)).bind fun ⟨x12, x13⟩ =>
  bif x12 then (
   some (.ret (false, ((), x13)))
  ) else (
   zA1 F_node_checker_node a2_kind a2_kids a3 k x13 (IntKind.i64.wrap (x10 + 1))
  )
 ) else (
  some (.go x9)
 )
def zBa : Nat → (Unit × Int) → Nd → Int → Option (Bool × (Unit × Int))
| 0, _, _, _ => none
| n+1, ⟨_, o1_nodes⟩, ⟨a2_kind, a2_text, a2_cols, a2_kids⟩, a3 =>
 (
  bif decide (1000 < (IntKind.i64.wrap (o1_nodes + 1))) then (
   some (true, IntKind.i64.wrap (o1_nodes + 1))
  ) else (
   bif decide (24 < a3) then (
    some (true, IntKind.i64.wrap (o1_nodes + 1))
   ) else (
    (zCe n ((), IntKind.i64.wrap (o1_nodes + 1)) (Nd.mk a2_kind a2_text a2_cols a2_kids)).bind fun ⟨y6, ⟨_, w7_nodes⟩⟩ =>
    some ((!y6), w7_nodes)
   )
  )
  : Option (Bool × Int)).bind fun ⟨x4, x5⟩ =>
 bif x4 then (
  some (false, ((), x5))
 ) else (
  (zA1 (zBa n) a2_kind a2_kids a3 n x5 0).bind fun fl => match fl with
  | .ret r => some r
  | .go x11 =>
   some (true, ((), x11))
 )
def zBR (n : Nat) : Nd → Option Bool
| ⟨n1_kind, n1_text, n1_cols, n1_kids⟩ =>
 (zDB ).bind fun _ =>
 (
  bif (n1_kind == 1) then (
   (zBa n ((), 0) (Nd.mk n1_kind n1_text n1_cols n1_kids) 1).bind fun ⟨y4, ⟨_, w5_nodes⟩⟩ =>
   some y4
  ) else (
   some false
  )
  : Option (Bool)).bind fun x3 =>
 some x3
def zD3 : Int → Int → Option Int
| a1, o2 =>
 some (IntKind.i64.wrap (o2 + 1))
def zCi (e9_node_kids : List Nd) (e9_depth : Int) : Nat → Int → (List (Nd × Int)) → Option ((List (Nd × Int)))
| 0, _, _ => none
| k+1, x13, l15 =>
 bif decide (x13 < (e9_node_kids.length : Int)) then (
  (at? e9_node_kids x13).bind fun ⟨e17_kind, e17_text, e17_cols, e17_kids⟩ =>
  req (l15.length + [(Nd.mk e17_kind e17_text e17_cols e17_kids, IntKind.i64.wrap (e9_depth + 1))].length ≤ 4294967296) <|
  zCi e9_node_kids e9_depth k (IntKind.i64.wrap (x13 + 1)) (l15 ++ [(Nd.mk e17_kind e17_text e17_cols e17_kids, IntKind.i64.wrap (e9_depth + 1))])
 ) else (
  some l15
 )
def zCh (n : Nat) : Nat → Int → (List (Nd × Int)) → Option (Int)
| 0, _, _ => none
| k+1, x3, l5 =>
 bif decide (0 < (l5.length : Int)) then (
  (at? l5 (IntKind.i64.wrap ((l5.length : Int) - 1))).bind fun ⟨⟨e9_node_kind, e9_node_text, e9_node_cols, e9_node_kids⟩, e9_depth⟩ =>
  req (0 ≤ IntKind.i64.wrap ((l5.length : Int) - 1) ∧ IntKind.i64.wrap ((l5.length : Int) - 1) ≤ (l5.length : Int)) <|
  (zD3 e9_depth x3).bind fun w11 =>
  (zCi e9_node_kids e9_depth n 0 (l5.take (IntKind.i64.wrap ((l5.length : Int) - 1)).toNat)).bind fun l16 =>
  zCh n k w11 l16
 ) else (
  some x3
 )
def zF2 (n : Nat) : Nd → Int → Option Int
| ⟨n1_kind, n1_text, n1_cols, n1_kids⟩, o2 =>
 (zCh n n o2 [(Nd.mk n1_kind n1_text n1_cols n1_kids, 1)]).bind fun x6 =>
 some x6
def zEb (n : Nat) : Nd → Option Int
| ⟨n1_kind, n1_text, n1_cols, n1_kids⟩ =>
 (zF2 n (Nd.mk n1_kind n1_text n1_cols n1_kids) 0).bind fun w2 =>
 some w2
def zDC : Int → Option Bool
| c1 =>
 (
  bif decide (97 ≤ c1) then (
   bif decide (c1 ≤ 122) then (
    some true
   ) else (
    bif decide (65 ≤ c1) then (
     some (decide (c1 ≤ 90))
    ) else (
     some false
    )
   )
  ) else (
   bif decide (65 ≤ c1) then (
    some (decide (c1 ≤ 90))
   ) else (
    some false
   )
  )
  : Option (Bool)).bind fun x2 =>
 some x2
def zCs (s1 : List UInt8) (c2 : Int) : Nat → Int → Option (Fl Bool Unit)
| 0, _ => none
| k+1, i3 =>
 bif decide (i3 < (s1.length : Int)) then (
  (at? s1 i3).bind fun c4 =>
  bif ((c4.toNat : Int) == c2) then (
   some (.ret true)
  ) else (
   zCs s1 c2 k (IntKind.i64.wrap (i3 + 1))
  )
 ) else (
  some (.go ())
 )
def zCW (n : Nat) : (List UInt8) → Int → Option Bool
| s1, c2 =>
 (zCs s1 c2 n 0).bind fun fl => match fl with
 | .ret r => some r
 | .go _ =>
  some false
def zDJ (n : Nat) : Int → Option Bool
| c1 =>
 (
  (zDC c1).bind fun y3 =>
  bif y3 then (
   some true
  ) else (
   (zCW n [43, 45, 42, 47, 61, 60, 62, 44, 59, 58, 33, 124, 39, 63, 126, 64] c1).bind fun y4 =>
   some y4
  )
  : Option (Bool)).bind fun x2 =>
 some x2
def zD5 : Option (List (List UInt8))
:=
 some [[102, 114, 97, 99], [114, 111, 111, 116], [109, 97, 116, 114, 105, 120], [102, 101, 110, 99, 101]]
def zCU (l1 : List (List UInt8)) (s2 : List UInt8) : Nat → Int → Option (Fl Bool Unit)
| 0, _ => none
| k+1, i3 =>
 bif decide (i3 < (l1.length : Int)) then (
  (at? l1 i3).bind fun e5 =>
  bif (e5 == s2) then (
   some (.ret true)
  ) else (
   zCU l1 s2 k (IntKind.i64.wrap (i3 + 1))
  )
 ) else (
  some (.go ())
 )
def zD4 (n : Nat) : (List (List UInt8)) → (List UInt8) → Option Bool
| l1, s2 =>
 (zCU l1 s2 n 0).bind fun fl => match fl with
 | .ret r => some r
 | .go _ =>
  some false
def zDa : Option (List (List UInt8))
:=
 some [[104, 97, 116], [98, 97, 114], [118, 101, 99], [100, 111, 116], [116, 105, 108, 100, 101], [99, 104, 101, 99, 107]]
def zBv (s1 : List UInt8) : Nat → Int → Option (Fl Bool Unit)
| 0, _ => none
| k+1, i5 =>
 bif decide (i5 < (s1.length : Int)) then (
  (at? s1 i5).bind fun c6 =>
  (zDC (c6.toNat : Int)).bind fun y8 =>
  bif (!y8) then (
   some (.ret false)
  ) else (
   zBv s1 k (IntKind.i64.wrap (i5 + 1))
  )
 ) else (
  some (.go ())
 )
def zEf (n : Nat) : (List UInt8) → Option Bool
| s1 =>
 bif ((s1.length : Int) == 1) then (
  (at? s1 0).bind fun c2 =>
  (zDJ n (c2.toNat : Int)).bind fun y4 =>
  some y4
 ) else (
  (zBv s1 n 0).bind fun fl => match fl with
  | .ret r => some r
  | .go _ =>
   (
    bif decide (2 ≤ (s1.length : Int)) then (
     bif decide ((s1.length : Int) ≤ 16) then (
      (zD5 ).bind fun y10 =>
      (zD4 n y10 s1).bind fun y11 =>
      bif (!y11) then (
       (zDa ).bind fun y12 =>
       (zD4 n y12 s1).bind fun y13 =>
       some (!y13)
      ) else (
       some false
      )
     ) else (
      some false
     )
    ) else (
     some false
    )
    : Option (Bool)).bind fun x9 =>
   some x9
 )
def zEW : Int → Option Bool
| c1 =>
 (
  bif decide (48 ≤ c1) then (
   some (decide (c1 ≤ 57))
  ) else (
   some false
  )
  : Option (Bool)).bind fun x2 =>
 some x2
def zB2 (s1 : List UInt8) : Nat → Int → Int → Option (Fl Bool (Int))
| 0, _, _ => none
| k+1, points2, i3 =>
 bif decide (i3 < (s1.length : Int)) then (
  (
   (
    (at? s1 i3).bind fun c7 =>
    bif ((c7.toNat : Int) == 46) then (
     bif decide (0 < i3) then (
      some (decide (i3 < (IntKind.i64.wrap ((s1.length : Int) - 1))))
     ) else (
      some false
     )
    ) else (
     some false
    )
    : Option (Bool)).bind fun x6 =>
   bif x6 then (
    some (.go (IntKind.i64.wrap (points2 + 1)))
   ) else (
    (at? s1 i3).bind fun c9 =>
    (zEW (c9.toNat : Int)).bind fun y11 =>
    bif (!y11) then (
     some (.ret false)
    ) else (
     some (.go points2)
    )
   )
   : Option (Fl Bool (Int))).bind fun fl => match fl with
  | .ret r => some (.ret r)
  | .go points5 =>
   zB2 s1 k points5 (IntKind.i64.wrap (i3 + 1))
 ) else (
  some (.go points2)
 )
def zEe (n : Nat) : (List UInt8) → Option Bool
| s1 =>
 (zB2 s1 n 0 0).bind fun fl => match fl with
 | .ret r => some r
 | .go points4 =>
  (
   bif decide (0 < (s1.length : Int)) then (
    bif decide ((s1.length : Int) ≤ 20) then (
     some (decide (points4 ≤ 1))
    ) else (
     some false
    )
   ) else (
    some false
   )
   : Option (Bool)).bind fun x12 =>
  some x12
def zBk (s1 : List UInt8) : Nat → Int → Option (Fl Bool Unit)
| 0, _ => none
| k+1, i2 =>
 bif decide (i2 < (s1.length : Int)) then (
  (
   (at? s1 i2).bind fun c4 =>
   bif decide ((c4.toNat : Int) < 32) then (
    some true
   ) else (
    (at? s1 i2).bind fun c6 =>
    some (decide (126 < (c6.toNat : Int)))
   )
   : Option (Bool)).bind fun x3 =>
  bif x3 then (
   some (.ret false)
  ) else (
   zBk s1 k (IntKind.i64.wrap (i2 + 1))
  )
 ) else (
  some (.go ())
 )
def zCV (n : Nat) : (List UInt8) → Option Bool
| s1 =>
 (zBk s1 n 0).bind fun fl => match fl with
 | .ret r => some r
 | .go _ =>
  some true
def zFN (n : Nat) : Nd → Option Bool
| ⟨n1_kind, n1_text, n1_cols, n1_kids⟩ =>
 bif (n1_kind == 2) then (
  (zEf n n1_text).bind fun y2 =>
  some y2
 ) else (
  bif (n1_kind == 3) then (
   (zEe n n1_text).bind fun y3 =>
   some y3
  ) else (
   bif (n1_kind == 4) then (
    (
     bif decide ((n1_text.length : Int) ≤ 200) then (
      (zCV n n1_text).bind fun y5 =>
      some y5
     ) else (
      some false
     )
     : Option (Bool)).bind fun x4 =>
    some x4
   ) else (
    bif (n1_kind == 10) then (
     (zDa ).bind fun y6 =>
     (zD4 n y6 n1_text).bind fun y7 =>
     some y7
    ) else (
     bif (n1_kind == 11) then (
      (
       bif ((n1_text.length : Int) == 2) then (
        (at? n1_text 0).bind fun c9 =>
        (zCW n [40, 41, 91, 93, 123, 125, 124, 60, 62, 47, 46] (c9.toNat : Int)).bind fun y11 =>
        bif y11 then (
         (at? n1_text 1).bind fun c12 =>
         (zCW n [40, 41, 91, 93, 123, 125, 124, 60, 62, 47, 46] (c12.toNat : Int)).bind fun y14 =>
         some y14
        ) else (
         some false
        )
       ) else (
        some false
       )
       : Option (Bool)).bind fun x8 =>
      some x8
     ) else (
      some (n1_text == [])
     )
    )
   )
  )
 )
def zFM : Nd → Option Bool
| ⟨n1_kind, n1_text, n1_cols, n1_kids⟩ =>
 bif (n1_kind == 12) then (
  (
   bif decide (1 ≤ n1_cols) then (
    bif decide (n1_cols ≤ 16) then (
     bif decide (1 ≤ (n1_kids.length : Int)) then (
      bif decide ((n1_kids.length : Int) ≤ 256) then (
       req (n1_cols ≠ 0) <|
       some (((n1_kids.length : Int).tmod n1_cols) == 0)
      ) else (
       some false
      )
     ) else (
      some false
     )
    ) else (
     some false
    )
   ) else (
    some false
   )
   : Option (Bool)).bind fun x3 =>
  some x3
 ) else (
  bif (n1_cols != 0) then (
   some false
  ) else (
   (
    bif (n1_kind == 1) then (
     some (.ret (decide ((n1_kids.length : Int) ≤ 200)))
    ) else (
     (
      bif (n1_kind == 2) then (
       some (n1_kind == 2)
      ) else (
       bif (n1_kind == 3) then (
        some (n1_kind == 3)
       ) else (
        some (n1_kind == 4)
       )
      )
      : Option (Bool)).bind fun x4 =>
     bif x4 then (
      some (.ret ((n1_kids.length : Int) == 0))
     ) else (
      (
       bif (n1_kind == 5) then (
        some (n1_kind == 5)
       ) else (
        bif (n1_kind == 6) then (
         some (n1_kind == 6)
        ) else (
         bif (n1_kind == 7) then (
          some (n1_kind == 7)
         ) else (
          some (n1_kind == 8)
         )
        )
       )
       : Option (Bool)).bind fun x5 =>
      bif x5 then (
       some (.ret ((n1_kids.length : Int) == 2))
      ) else (
       bif (n1_kind == 9) then (
        some (.ret ((n1_kids.length : Int) == 3))
       ) else (
        (
         bif (n1_kind == 10) then (
          some (n1_kind == 10)
         ) else (
          some (n1_kind == 11)
         )
         : Option (Bool)).bind fun x6 =>
        bif x6 then (
         some (.ret ((n1_kids.length : Int) == 1))
        ) else (
         some (.go ())
        )
       )
      )
     )
    )
    : Option (Fl Bool Unit)).bind fun fl => match fl with
   | .ret r => some r
   | .go _ =>
    some false
  )
 )
def zCA (F_r09_form : Nd → Option Bool) (n1_kind : Int) (n1_kids : List Nd) : Nat → Int → Option (Fl Bool Unit)
| 0, _ => none
| k+1, i5 =>
 bif decide (i5 < (n1_kids.length : Int)) then (
  (
   (at? n1_kids i5).bind fun ⟨e8_kind, e8_text, e8_cols, e8_kids⟩ =>
   bif ((e8_kind == 1) == (n1_kind == 1)) then (
    some true
   ) else (
    (at? n1_kids i5).bind fun ⟨e10_kind, e10_text, e10_cols, e10_kids⟩ =>
    (F_r09_form (Nd.mk e10_kind e10_text e10_cols e10_kids)).bind fun y12 =>
    some (!y12)
   )
   : Option (Bool)).bind fun x7 =>
  bif x7 then (
   some (.ret false)
  ) else (
   zCA F_r09_form n1_kind n1_kids k (IntKind.i64.wrap (i5 + 1))
  )
 ) else (
  some (.go ())
 )
def zDb : Nat → Nd → Option Bool
| 0, _ => none
| n+1, ⟨n1_kind, n1_text, n1_cols, n1_kids⟩ =>
 (
  (zFN n (Nd.mk n1_kind n1_text n1_cols n1_kids)).bind fun y3 =>
  bif (!y3) then (
   some true
  ) else (
   (zFM (Nd.mk n1_kind n1_text n1_cols n1_kids)).bind fun y4 =>
   some (!y4)
  )
  : Option (Bool)).bind fun x2 =>
 bif x2 then (
  some false
 ) else (
  (zCA (zDb n) n1_kind n1_kids n 0).bind fun fl => match fl with
  | .ret r => some r
  | .go _ =>
   some true
 )
def zCj (F_r09_Count : Nd → Option Int) (n1_kids : List Nd) : Nat → Int → Int → Option (Int)
| 0, _, _ => none
| k+1, out2, i3 =>
 bif decide (i3 < (n1_kids.length : Int)) then (
  (at? n1_kids i3).bind fun ⟨e6_kind, e6_text, e6_cols, e6_kids⟩ =>
  (F_r09_Count (Nd.mk e6_kind e6_text e6_cols e6_kids)).bind fun y8 =>
  zCj F_r09_Count n1_kids k (IntKind.i64.wrap (out2 + y8)) (IntKind.i64.wrap (i3 + 1))
 ) else (
  some out2
 )
def zCx : Nat → Nd → Option Int
| 0, _ => none
| n+1, ⟨n1_kind, n1_text, n1_cols, n1_kids⟩ =>
 (zCj (zCx n) n1_kids n 1 0).bind fun out4 =>
 some out4
def zCk (F_r09_Depth : Nd → Option Int) (n1_kids : List Nd) : Nat → Int → Int → Option (Int)
| 0, _, _ => none
| k+1, out2, i3 =>
 bif decide (i3 < (n1_kids.length : Int)) then (
  (at? n1_kids i3).bind fun ⟨e6_kind, e6_text, e6_cols, e6_kids⟩ =>
  (F_r09_Depth (Nd.mk e6_kind e6_text e6_cols e6_kids)).bind fun y8 =>
  zCk F_r09_Depth n1_kids k (if out2 < y8 then y8 else out2) (IntKind.i64.wrap (i3 + 1))
 ) else (
  some out2
 )
def zCy : Nat → Nd → Option Int
| 0, _ => none
| n+1, ⟨n1_kind, n1_text, n1_cols, n1_kids⟩ =>
 (zCk (zCy n) n1_kids n 0 0).bind fun out4 =>
 some (IntKind.i64.wrap (out4 + 1))
def zB4 (n : Nat) : Nd → Option Bool
| ⟨n1_kind, n1_text, n1_cols, n1_kids⟩ =>
 (
  bif (n1_kind == 1) then (
   (zDb n (Nd.mk n1_kind n1_text n1_cols n1_kids)).bind fun y3 =>
   bif y3 then (
    (zCx n (Nd.mk n1_kind n1_text n1_cols n1_kids)).bind fun y4 =>
    bif decide (y4 ≤ 1000) then (
     (zCy n (Nd.mk n1_kind n1_text n1_cols n1_kids)).bind fun y5 =>
     some (decide (y5 ≤ 24))
    ) else (
     some false
    )
   ) else (
    some false
   )
  ) else (
   some false
  )
  : Option (Bool)).bind fun x2 =>
 some x2
def zBu (F_r09_Equal : Nd → Nd → Option Bool) (a1 : List Nd) (b2 : List Nd) : Nat → Int → Option (Fl Bool Unit)
| 0, _ => none
| k+1, i5 =>
 bif decide (i5 < (a1.length : Int)) then (
  (at? a1 i5).bind fun ⟨e7_kind, e7_text, e7_cols, e7_kids⟩ =>
  (at? b2 i5).bind fun ⟨e9_kind, e9_text, e9_cols, e9_kids⟩ =>
  (F_r09_Equal (Nd.mk e7_kind e7_text e7_cols e7_kids) (Nd.mk e9_kind e9_text e9_cols e9_kids)).bind fun y11 =>
  bif (!y11) then (
   some (.ret false)
  ) else (
   zBu F_r09_Equal a1 b2 k (IntKind.i64.wrap (i5 + 1))
  )
 ) else (
  some (.go ())
 )
mutual
def zBo : Nat → Nd → Nd → Option Bool
| 0, _, _ => none
| n+1, ⟨a1_kind, a1_text, a1_cols, a1_kids⟩, ⟨b2_kind, b2_text, b2_cols, b2_kids⟩ =>
 (
  bif (a1_kind == b2_kind) then (
   bif (a1_text == b2_text) then (
    bif (a1_cols == b2_cols) then (
     (zB3 n a1_kids b2_kids).bind fun y4 =>
     some y4
    ) else (
     some false
    )
   ) else (
    some false
   )
  ) else (
   some false
  )
  : Option (Bool)).bind fun x3 =>
 some x3
def zB3 : Nat → (List Nd) → (List Nd) → Option Bool
| 0, _, _ => none
| n+1, a1, b2 =>
 bif ((a1.length : Int) != (b2.length : Int)) then (
  some false
 ) else (
  (zBu (zBo n) a1 b2 n 0).bind fun fl => match fl with
  | .ret r => some r
  | .go _ =>
   some true
 )
end
def zCf (F_r09_left : Nd → Int → Option Int) (n1_kids : List Nd) : Nat → Int → Int → Option (Int)
| 0, _, _ => none
| k+1, most3, i4 =>
 (
  bif decide (i4 < (n1_kids.length : Int)) then (
   some (decide (0 ≤ most3))
  ) else (
   some false
  )
  : Option (Bool)).bind fun x6 =>
 bif x6 then (
  (at? n1_kids i4).bind fun ⟨e8_kind, e8_text, e8_cols, e8_kids⟩ =>
  (F_r09_left (Nd.mk e8_kind e8_text e8_cols e8_kids) most3).bind fun y10 =>
  zCf F_r09_left n1_kids k y10 (IntKind.i64.wrap (i4 + 1))
 ) else (
  some most3
 )
def zDc : Nat → Nd → Int → Option Int
| 0, _, _ => none
| n+1, ⟨n1_kind, n1_text, n1_cols, n1_kids⟩, most2 =>
 (zCf (zDc n) n1_kids n (IntKind.i64.wrap (most2 - 1)) 0).bind fun most5 =>
 some most5
def zDK (n : Nat) : Nd → Int → Option Bool
| ⟨n1_kind, n1_text, n1_cols, n1_kids⟩, most2 =>
 (zDc n (Nd.mk n1_kind n1_text n1_cols n1_kids) most2).bind fun y3 =>
 some (decide (0 ≤ y3))
def zEa (n : Nat) : Nd → Nd → Option Bool
| ⟨a1_kind, a1_text, a1_cols, a1_kids⟩, ⟨b2_kind, b2_text, b2_cols, b2_kids⟩ =>
 (
  (zBR n (Nd.mk a1_kind a1_text a1_cols a1_kids)).bind fun y4 =>
  bif y4 then (
   (zBR n (Nd.mk b2_kind b2_text b2_cols b2_kids)).bind fun y5 =>
   some y5
  ) else (
   some false
  )
  : Option (Bool)).bind fun x3 =>
 some x3
def zCz : (List Nd) → Option Nd
| l1 =>
 some (Nd.mk 1 [] 0 l1)
def zGv (n : Nat) : (Int × List Int × Int × Int × List Nd × Int × List UInt8 × List UInt8) → Option Bool
| ⟨op1_kind, op1_row, op1_at, op1_n, op1_nodes, op1_slot, op1_old, op1_text⟩ =>
 (
  (zCz op1_nodes).bind fun ⟨y3_kind, y3_text, y3_cols, y3_kids⟩ =>
  (zDK n (Nd.mk y3_kind y3_text y3_cols y3_kids) 100).bind fun y4 =>
  bif y4 then (
   some (decide ((op1_row.length : Int) ≤ 60))
  ) else (
   some false
  )
  : Option (Bool)).bind fun x2 =>
 some x2
def zB9 (n : Nat) : (List Nd) → Option Bool
| l1 =>
 (zCz l1).bind fun ⟨y2_kind, y2_text, y2_cols, y2_kids⟩ =>
 (zB4 n (Nd.mk y2_kind y2_text y2_cols y2_kids)).bind fun y3 =>
 some y3
def zDo (n : Nat) : (List Nd) → Int → Option Bool
| l1, slot2 =>
 (
  bif ((l1.length : Int) == 1) then (
   (zB9 n l1).bind fun y5 =>
   bif y5 then (
    bif decide (0 ≤ slot2) then (
     (at? l1 0).bind fun ⟨e6_kind, e6_text, e6_cols, e6_kids⟩ =>
     bif decide (slot2 < (e6_kids.length : Int)) then (
      (at? l1 0).bind fun ⟨e9_kind, e9_text, e9_cols, e9_kids⟩ =>
      (at? e9_kids slot2).bind fun ⟨e11_kind, e11_text, e11_cols, e11_kids⟩ =>
      some ((e11_kids.length : Int) == 0)
     ) else (
      some false
     )
    ) else (
     some false
    )
   ) else (
    some false
   )
  ) else (
   some false
  )
  : Option (Bool)).bind fun x3 =>
 some x3
def zEg (n : Nat) : (Int × List Int × Int × Int × List Nd × Int × List UInt8 × List UInt8) → Option Bool
| ⟨a1_kind, a1_row, a1_at, a1_n, a1_nodes, a1_slot, a1_old, a1_text⟩ =>
 (
  (
   bif (a1_kind == 1) then (
    some (a1_kind == 1)
   ) else (
    some (a1_kind == 2)
   )
   : Option (Bool)).bind fun x2 =>
  bif x2 then (
   (
    bif decide (0 < (a1_nodes.length : Int)) then (
     (zB9 n a1_nodes).bind fun y5 =>
     bif y5 then (
      bif (a1_n == 0) then (
       bif (a1_slot == 0) then (
        bif (a1_old == []) then (
         some (a1_text == [])
        ) else (
         some false
        )
       ) else (
        some false
       )
      ) else (
       some false
      )
     ) else (
      some false
     )
    ) else (
     some false
    )
    : Option (Bool)).bind fun x3 =>
   some (.ret x3)
  ) else (
   (
    bif (a1_kind == 3) then (
     some (a1_kind == 3)
    ) else (
     some (a1_kind == 4)
    )
    : Option (Bool)).bind fun x6 =>
   bif x6 then (
    (
     bif decide (0 ≤ a1_n) then (
      (zDo n a1_nodes a1_slot).bind fun y8 =>
      bif y8 then (
       bif (a1_old == []) then (
        some (a1_text == [])
       ) else (
        some false
       )
      ) else (
       some false
      )
     ) else (
      some false
     )
     : Option (Bool)).bind fun x7 =>
    some (.ret x7)
   ) else (
    bif (a1_kind == 5) then (
     (
      bif (!(a1_old == a1_text)) then (
       bif ((a1_nodes.length : Int) == 0) then (
        bif (a1_n == 0) then (
         some (a1_slot == 0)
        ) else (
         some false
        )
       ) else (
        some false
       )
      ) else (
       some false
      )
      : Option (Bool)).bind fun x9 =>
     some (.ret x9)
    ) else (
     some (.go ())
    )
   )
  )
  : Option (Fl Bool Unit)).bind fun fl => match fl with
 | .ret r => some r
 | .go _ =>
  some false
def zBO  : Nat → Int → (List UInt8) → Int → (List Nd) → (List Int) → Option (Fl (Nd × Bool) ((List Int) × Int × (List UInt8) × Int × (List Nd)))
| 0, _, _, _, _, _ => none
| k+1, x3, x4, x5, x6, path8 =>
 bif decide (2 ≤ (path8.length : Int)) then (
  (
   (at? path8 0).bind fun e16 =>
   bif decide (e16 < 0) then (
    some true
   ) else (
    (at? path8 0).bind fun e18 =>
    some (decide ((x6.length : Int) ≤ e18))
   )
   : Option (Bool)).bind fun x15 =>
  bif x15 then (
   some (.ret (Nd.mk 0 [] 0 [], false))
  ) else (
   (at? path8 0).bind fun e21 =>
   (at? x6 e21).bind fun ⟨e23_kind, e23_text, e23_cols, e23_kids⟩ =>
   (
    (at? path8 1).bind fun e26 =>
    bif decide (e26 < 0) then (
     some true
    ) else (
     (at? path8 1).bind fun e28 =>
     some (decide ((e23_kids.length : Int) ≤ e28))
    )
    : Option (Bool)).bind fun x25 =>
   bif x25 then (
    some (.ret (Nd.mk 0 [] 0 [], false))
   ) else (
    (at? path8 1).bind fun e31 =>
    (at? e23_kids e31).bind fun ⟨e33_kind, e33_text, e33_cols, e33_kids⟩ =>
    req (0 ≤ (2 : Int) ∧ (2 : Int) ≤ (path8.length : Int) ∧ (path8.length : Int) ≤ (path8.length : Int)) <|
    zBO k e33_kind e33_text e33_cols e33_kids ((path8.take (path8.length : Int).toNat).drop (2 : Int).toNat)
   )
  )
 ) else (
  some (.go (path8, x3, x4, x5, x6))
 )
def zFL (n : Nat) : Nd → (List Int) → Option (Nd × Bool)
| ⟨n1_kind, n1_text, n1_cols, n1_kids⟩, path2 =>
 (zBO  n n1_kind n1_text n1_cols n1_kids path2).bind fun fl => match fl with
 | .ret r => some r
 | .go ⟨path9, x10, x11, x12, x13⟩ =>
  some (Nd.mk x10 x11 x12 x13, ((path9.length : Int) == 0))
def zGu (n : Nat) : Nd → (List Int) → Option (Nd × Int)
| ⟨n1_kind, n1_text, n1_cols, n1_kids⟩, path2 =>
 (zB4 n (Nd.mk n1_kind n1_text n1_cols n1_kids)).bind fun y3 =>
 bif (!y3) then (
  some (Nd.mk 0 [] 0 [], 1)
 ) else (
  (zFL n (Nd.mk n1_kind n1_text n1_cols n1_kids) path2).bind fun ⟨⟨y4_kind, y4_text, y4_cols, y4_kids⟩, y5⟩ =>
  bif (!y5) then (
   some (Nd.mk 0 [] 0 [], 8)
  ) else (
   some (Nd.mk y4_kind y4_text y4_cols y4_kids, 0)
  )
 )
def zBT : (List Nd) → Int → Int → (List Nd) → Option (List Nd)
| l1, at2, to3, by4 =>
 req (0 ≤ (0 : Int) ∧ (0 : Int) ≤ at2 ∧ at2 ≤ (l1.length : Int)) <|
 req (([] : List Nd).length + ((l1.take at2.toNat).drop (0 : Int).toNat).length ≤ 4294967296) <|
 req (((l1.take at2.toNat).drop (0 : Int).toNat).length + by4.length ≤ 4294967296) <|
 req (0 ≤ to3 ∧ to3 ≤ (l1.length : Int) ∧ (l1.length : Int) ≤ (l1.length : Int)) <|
 req ((((l1.take at2.toNat).drop (0 : Int).toNat) ++ by4).length + ((l1.take (l1.length : Int).toNat).drop to3.toNat).length ≤ 4294967296) <|
 some ((((l1.take at2.toNat).drop (0 : Int).toNat) ++ by4) ++ ((l1.take (l1.length : Int).toNat).drop to3.toNat))
def zB0 (n : Nat) (l1 : List Nd) : Nat → Int → (List Int) → Option ((List Int))
| 0, _, _ => none
| k+1, x4, l5 =>
 bif decide (x4 < (l1.length : Int)) then (
  (at? l1 x4).bind fun ⟨e7_kind, e7_text, e7_cols, e7_kids⟩ =>
  (zEb n (Nd.mk e7_kind e7_text e7_cols e7_kids)).bind fun y9 =>
  (at? l5 x4).bind fun e10 =>
  zB0 n l1 k (IntKind.i64.wrap (x4 + 1)) (l5.set x4.toNat y9)
 ) else (
  some l5
 )
def zDA (n : Nat) : (List Nd) → Option (List Int)
| l1 =>
 req (0 ≤ (l1.length : Int) ∧ (l1.length : Int) ≤ 4294967296) <|
 (zB0 n l1 n 0 (List.replicate (l1.length : Int).toNat 0)).bind fun l6 =>
 some l6
def zBC : Nd → Int → Nd → Option Nd
| ⟨n1_kind, n1_text, n1_cols, n1_kids⟩, i2, ⟨kid3_kind, kid3_text, kid3_cols, kid3_kids⟩ =>
 req (([] : List Nd).length + n1_kids.length ≤ 4294967296) <|
 (at? n1_kids i2).bind fun ⟨e4_kind, e4_text, e4_cols, e4_kids⟩ =>
 some (Nd.mk n1_kind n1_text n1_cols (n1_kids.set i2.toNat (Nd.mk kid3_kind kid3_text kid3_cols kid3_kids)))
def zCX : Nd → Int → (List Nd) → Option Nd
| ⟨n1_kind, n1_text, n1_cols, n1_kids⟩, slot2, l3 =>
 req (([] : List Nd).length + l3.length ≤ 4294967296) <|
 (zCz l3).bind fun ⟨y4_kind, y4_text, y4_cols, y4_kids⟩ =>
 (zBC (Nd.mk n1_kind n1_text n1_cols n1_kids) slot2 (Nd.mk y4_kind y4_text y4_cols y4_kids)).bind fun ⟨y5_kind, y5_text, y5_cols, y5_kids⟩ =>
 some (Nd.mk y5_kind y5_text y5_cols y5_kids)
def zEh (n : Nat) : (List Nd) → (Int × List Int × Int × Int × List Nd × Int × List UInt8 × List UInt8) → Option ((List Nd) × Int)
| a1, ⟨a2_kind, a2_row, a2_at, a2_n, a2_nodes, a2_slot, a2_old, a2_text⟩ =>
 (
  bif (a2_kind == 1) then (
   some 0
  ) else (
   bif (a2_kind == 2) then (
    some (a2_nodes.length : Int)
   ) else (
    bif (a2_kind == 3) then (
     some a2_n
    ) else (
     some 1
    )
   )
  )
  : Option (Int)).bind fun x3 =>
 (
  bif decide (a2_at < 0) then (
   some true
  ) else (
   bif decide ((a1.length : Int) < a2_at) then (
    some true
   ) else (
    some (decide ((IntKind.i64.wrap ((a1.length : Int) - a2_at)) < x3))
   )
  )
  : Option (Bool)).bind fun x5 =>
 bif x5 then (
  some ([], 2)
 ) else (
  bif (a2_kind == 1) then (
   (zBT a1 a2_at (IntKind.i64.wrap (a2_at + x3)) a2_nodes).bind fun y8 =>
   some (y8, 0)
  ) else (
   bif (a2_kind == 2) then (
    req (0 ≤ a2_at ∧ a2_at ≤ IntKind.i64.wrap (a2_at + x3) ∧ IntKind.i64.wrap (a2_at + x3) ≤ (a1.length : Int)) <|
    (zB3 n ((a1.take (IntKind.i64.wrap (a2_at + x3)).toNat).drop a2_at.toNat) a2_nodes).bind fun y10 =>
    bif (!y10) then (
     some ([], 7)
    ) else (
     (zBT a1 a2_at (IntKind.i64.wrap (a2_at + x3)) []).bind fun y11 =>
     some (y11, 0)
    )
   ) else (
    bif (a2_kind == 3) then (
     (at? a2_nodes 0).bind fun ⟨e12_kind, e12_text, e12_cols, e12_kids⟩ =>
     req (0 ≤ a2_at ∧ a2_at ≤ IntKind.i64.wrap (a2_at + x3) ∧ IntKind.i64.wrap (a2_at + x3) ≤ (a1.length : Int)) <|
     (zCX (Nd.mk e12_kind e12_text e12_cols e12_kids) a2_slot ((a1.take (IntKind.i64.wrap (a2_at + x3)).toNat).drop a2_at.toNat)).bind fun ⟨y15_kind, y15_text, y15_cols, y15_kids⟩ =>
     (zBT a1 a2_at (IntKind.i64.wrap (a2_at + x3)) [Nd.mk y15_kind y15_text y15_cols y15_kids]).bind fun y17 =>
     some (y17, 0)
    ) else (
     (at? a1 a2_at).bind fun ⟨e18_kind, e18_text, e18_cols, e18_kids⟩ =>
     bif (a2_kind == 4) then (
      (
       bif decide ((e18_kids.length : Int) ≤ a2_slot) then (
        some true
       ) else (
        (at? e18_kids a2_slot).bind fun ⟨e22_kind, e22_text, e22_cols, e22_kids⟩ =>
        bif ((e22_kids.length : Int) != a2_n) then (
         some true
        ) else (
         (at? a2_nodes 0).bind fun ⟨e25_kind, e25_text, e25_cols, e25_kids⟩ =>
         (at? e18_kids a2_slot).bind fun ⟨e27_kind, e27_text, e27_cols, e27_kids⟩ =>
         (zCX (Nd.mk e25_kind e25_text e25_cols e25_kids) a2_slot e27_kids).bind fun ⟨y29_kind, y29_text, y29_cols, y29_kids⟩ =>
         (zBo n (Nd.mk e18_kind e18_text e18_cols e18_kids) (Nd.mk y29_kind y29_text y29_cols y29_kids)).bind fun y30 =>
         some (!y30)
        )
       )
       : Option (Bool)).bind fun x20 =>
      bif x20 then (
       some ([], 7)
      ) else (
       (at? e18_kids a2_slot).bind fun ⟨e31_kind, e31_text, e31_cols, e31_kids⟩ =>
       (zBT a1 a2_at (IntKind.i64.wrap (a2_at + x3)) e31_kids).bind fun y33 =>
       some (y33, 0)
      )
     ) else (
      (
       (
        bif (e18_kind == 2) then (
         some (e18_kind == 2)
        ) else (
         bif (e18_kind == 3) then (
          some (e18_kind == 3)
         ) else (
          bif (e18_kind == 4) then (
           some (e18_kind == 4)
          ) else (
           bif (e18_kind == 10) then (
            some (e18_kind == 10)
           ) else (
            some (e18_kind == 11)
           )
          )
         )
        )
        : Option (Bool)).bind fun x34 =>
       bif x34 then (
        bif (e18_text == a2_old) then (
         (zBT a1 a2_at (IntKind.i64.wrap (a2_at + x3)) [Nd.mk e18_kind a2_text e18_cols e18_kids]).bind fun y36 =>
         some (.ret (y36, 0))
        ) else (
         some (.go ())
        )
       ) else (
        some (.go ())
       )
       : Option (Fl ((List Nd) × Int) Unit)).bind fun fl => match fl with
      | .ret r => some r
      | .go _ =>
       some ([], 7)
     )
    )
   )
  )
 )
def zEi : Nat → Nd → (List Int) → (List Nd) → Option Nd
| 0, _, _, _ => none
| n+1, ⟨n1_kind, n1_text, n1_cols, n1_kids⟩, path2, l3 =>
 bif ((path2.length : Int) == 0) then (
  (zCz l3).bind fun ⟨y5_kind, y5_text, y5_cols, y5_kids⟩ =>
  some (Nd.mk y5_kind y5_text y5_cols y5_kids)
 ) else (
  (at? path2 0).bind fun e6 =>
  (at? n1_kids e6).bind fun ⟨e8_kind, e8_text, e8_cols, e8_kids⟩ =>
  (at? path2 0).bind fun e10 =>
  (at? path2 1).bind fun e12 =>
  (at? path2 1).bind fun e14 =>
  (at? e8_kids e14).bind fun ⟨e16_kind, e16_text, e16_cols, e16_kids⟩ =>
  req (0 ≤ (2 : Int) ∧ (2 : Int) ≤ (path2.length : Int) ∧ (path2.length : Int) ≤ (path2.length : Int)) <|
  (zEi n (Nd.mk e16_kind e16_text e16_cols e16_kids) ((path2.take (path2.length : Int).toNat).drop (2 : Int).toNat) l3).bind fun ⟨y19_kind, y19_text, y19_cols, y19_kids⟩ =>
  (zBC (Nd.mk e8_kind e8_text e8_cols e8_kids) e12 (Nd.mk y19_kind y19_text y19_cols y19_kids)).bind fun ⟨y20_kind, y20_text, y20_cols, y20_kids⟩ =>
  (zBC (Nd.mk n1_kind n1_text n1_cols n1_kids) e10 (Nd.mk y20_kind y20_text y20_cols y20_kids)).bind fun ⟨y21_kind, y21_text, y21_cols, y21_kids⟩ =>
  some (Nd.mk y21_kind y21_text y21_cols y21_kids)
 )
def zEX (n : Nat) : Nd → (Int × List Int × Int × Int × List Nd × Int × List UInt8 × List UInt8) → Option (Nd × Int)
| ⟨n1_kind, n1_text, n1_cols, n1_kids⟩, ⟨op2_kind, op2_row, op2_at, op2_n, op2_nodes, op2_slot, op2_old, op2_text⟩ =>
 (zB4 n (Nd.mk n1_kind n1_text n1_cols n1_kids)).bind fun y3 =>
 bif (!y3) then (
  some (Nd.mk 0 [] 0 [], 1)
 ) else (
  (zEg n (op2_kind, op2_row, op2_at, op2_n, op2_nodes, op2_slot, op2_old, op2_text)).bind fun y4 =>
  bif (!y4) then (
   some (Nd.mk 0 [] 0 [], 4)
  ) else (
   (zGu n (Nd.mk n1_kind n1_text n1_cols n1_kids) op2_row).bind fun ⟨⟨y5_kind, y5_text, y5_cols, y5_kids⟩, y6⟩ =>
   bif (y6 != 0) then (
    some (Nd.mk 0 [] 0 [], y6)
   ) else (
    (zEh n y5_kids (op2_kind, op2_row, op2_at, op2_n, op2_nodes, op2_slot, op2_old, op2_text)).bind fun ⟨y7, y8⟩ =>
    bif (y8 != 0) then (
     some (Nd.mk 0 [] 0 [], y8)
    ) else (
     (zEi n (Nd.mk n1_kind n1_text n1_cols n1_kids) op2_row y7).bind fun ⟨y9_kind, y9_text, y9_cols, y9_kids⟩ =>
     (zB4 n (Nd.mk y9_kind y9_text y9_cols y9_kids)).bind fun y10 =>
     bif (!y10) then (
      some (Nd.mk 0 [] 0 [], 6)
     ) else (
      some (Nd.mk y9_kind y9_text y9_cols y9_kids, 0)
     )
    )
   )
  )
 )
def zBA (n : Nat) (ops2 : List (Int × List Int × Int × Int × List Nd × Int × List UInt8 × List UInt8)) : Nat → Int → (List UInt8) → Int → (List Nd) → Int → Option (Fl (Nd × Int × Int) (Int × (List UInt8) × Int × (List Nd)))
| 0, _, _, _, _, _ => none
| k+1, x4, x5, x6, x7, i9 =>
 bif decide (i9 < (ops2.length : Int)) then (
  (at? ops2 i9).bind fun ⟨e15_kind, e15_row, e15_at, e15_n, e15_nodes, e15_slot, e15_old, e15_text⟩ =>
  (zEX n (Nd.mk x4 x5 x6 x7) (e15_kind, e15_row, e15_at, e15_n, e15_nodes, e15_slot, e15_old, e15_text)).bind fun ⟨⟨y17_kind, y17_text, y17_cols, y17_kids⟩, y18⟩ =>
  bif (y18 != 0) then (
   some (.ret (Nd.mk 0 [] 0 [], i9, y18))
  ) else (
   zBA n ops2 k y17_kind y17_text y17_cols y17_kids (IntKind.i64.wrap (i9 + 1))
  )
 ) else (
  some (.go (x4, x5, x6, x7))
 )
def zBq (n : Nat) : Nd → (List (Int × List Int × Int × Int × List Nd × Int × List UInt8 × List UInt8)) → Option (Nd × Int × Int)
| ⟨n1_kind, n1_text, n1_cols, n1_kids⟩, ops2 =>
 (zB4 n (Nd.mk n1_kind n1_text n1_cols n1_kids)).bind fun y3 =>
 bif (!y3) then (
  some (Nd.mk 0 [] 0 [], 0, 1)
 ) else (
  (zBA n ops2 n n1_kind n1_text n1_cols n1_kids 0).bind fun fl => match fl with
  | .ret r => some r
  | .go ⟨x10, x11, x12, x13⟩ =>
   some (Nd.mk x10 x11 x12 x13, 0, 0)
 )
def zA2 : List Int → List Int
| [] => [0]
| o :: os => IntKind.i64.wrap ((zA2 os).headD 0 + o) :: zA2 os
def zAE (F_diff_pairing : Nd → Nd → Option Int) (x : Nd) (f : Int) : List Nd → List Int → List Int → Option (List Int × List Int)
| [], [], [v] => some ([IntKind.i64.wrap (v + f)], [])
| y :: ys, o :: os, v :: v2 :: vs =>
 (zAE F_diff_pairing x f ys os (v2 :: vs)).bind fun p =>
 (F_diff_pairing x y).bind fun c =>
 let c0 := if IntKind.i64.wrap (v + f) < IntKind.i64.wrap (p.1.headD 0 + o) then IntKind.i64.wrap (v + f) else IntKind.i64.wrap (p.1.headD 0 + o)
 let c1 := if 0 ≤ c then (if IntKind.i64.wrap (v2 + c) < c0 then IntKind.i64.wrap (v2 + c) else c0) else c0
 some (c1 :: p.1, c :: p.2)
| _, _, _ => none
def zAO (F_diff_pairing : Nd → Nd → Option Int) (b : List Nd) (other : List Int) : List Nd → List Int → Option (List (List Int) × List (List Int))
| [], [] => some ([zA2 other], [])
| x :: xs, f :: fs =>
 (zAO F_diff_pairing b other xs fs).bind fun p =>
 match p.1 with
 | [] => none
 | r1 :: _ => (zAE F_diff_pairing x f b other r1).bind fun q => some (q.1 :: p.1, q.2 :: p.2)
| _, _ => none
def zBy (F_diff_fill : (List Nd) → (List Nd) → Option (List (List Int) × List (List Int) × List Int × List Int)) (a1_kids : List Nd) (a2_kids : List Nd) : Nat → Int → Int → Option (Int)
| 0, _, _ => none
| k+1, x8, x9 =>
 bif decide (x9 < (a1_kids.length : Int)) then (
  (at? a1_kids x9).bind fun ⟨e11_kind, e11_text, e11_cols, e11_kids⟩ =>
  (at? a2_kids x9).bind fun ⟨e13_kind, e13_text, e13_cols, e13_kids⟩ =>
  (F_diff_fill e11_kids e13_kids).bind fun ⟨y15_least, y15_pair, y15_first, y15_other⟩ =>
  (at? y15_least 0).bind fun e16 =>
  (at? e16 0).bind fun e18 =>
  zBy F_diff_fill a1_kids a2_kids k (IntKind.i64.wrap (x8 + e18)) (IntKind.i64.wrap (x9 + 1))
 ) else (
  some x8
 )
mutual
def zCg : Nat → (List Nd) → (List Nd) → Option (List (List Int) × List (List Int) × List Int × List Int)
| 0, _, _ => none
| n+1, a, b =>
 (zDA n a).bind fun first =>
 (zDA n b).bind fun other =>
 req (a.length ≤ 1048576 ∧ b.length ≤ 1048576 ∧ other.length = b.length) <|
 (zAO (zBB n) b other a first).bind fun p =>
 some (p.1, p.2, first, other)
def zBB : Nat → Nd → Nd → Option Int
| 0, _, _ => none
| n+1, ⟨a1_kind, a1_text, a1_cols, a1_kids⟩, ⟨a2_kind, a2_text, a2_cols, a2_kids⟩ =>
 (
  bif (a1_kind != a2_kind) then (
   some true
  ) else (
   bif (a1_cols != a2_cols) then (
    some true
   ) else (
    some ((a1_kids.length : Int) != (a2_kids.length : Int))
   )
  )
  : Option (Bool)).bind fun x3 =>
 bif x3 then (
  some (-1)
 ) else (
  (
   bif (!(a1_text == a2_text)) then (
    some 1
   ) else (
    some 0
   )
   : Option (Int)).bind fun x6 =>
  (zBy (zCg n) a1_kids a2_kids n x6 0).bind fun x10 =>
  some x10
 )
end
def zAo : (List UInt8) → (List UInt8) → Option (Int × Unit × (List UInt8))
| s1, b2 =>
 (zA4 b2).bind fun b3 =>
 req (b3.length + s1.length ≤ 4294967296) <|
 some ((s1.length : Int), (), b3 ++ s1)
def zAH : UInt8 → (List UInt8) → Option (Unit × (List UInt8))
| c1, b2 =>
 (zA4 b2).bind fun b3 =>
 req (b3.length + [c1].length ≤ 4294967296) <|
 some ((), b3 ++ [c1])
def zAU (a1_text : List UInt8) : Nat → Int → (List UInt8) → Option ((List UInt8))
| 0, _, _ => none
| k+1, x49, l50 =>
 bif decide (x49 < (a1_text.length : Int)) then (
  (
   (
    (at? a1_text x49).bind fun c54 =>
    bif ((c54.toNat : Int) == 34) then (
     some true
    ) else (
     (at? a1_text x49).bind fun c56 =>
     some ((c56.toNat : Int) == 92)
    )
    : Option (Bool)).bind fun x53 =>
   (
    bif x53 then (
     (zAH (b8of 92) l50).bind fun ⟨_, b60⟩ =>
     some b60
    ) else (
     some l50
    )
    : Option ((List UInt8))).bind fun l58 =>
   (at? a1_text x49).bind fun c61 =>
   (zAH c61 l58).bind fun ⟨_, b64⟩ =>
   some b64
   : Option ((List UInt8))).bind fun l52 =>
  zAU a1_text k (IntKind.i64.wrap (x49 + 1)) l52
 ) else (
  some l50
 )
def zBj (n : Nat) : Nd → (List UInt8) → Option (List UInt8)
| ⟨a1_kind, a1_text, a1_cols, a1_kids⟩, b2 =>
 (
  bif decide (1 ≤ a1_kind) then (
   some (decide (a1_kind ≤ 12))
  ) else (
   some false
  )
  : Option (Bool)).bind fun x3 =>
 (
  bif x3 then (
   bif (a1_kind == 1) then (
    (zAo [114, 111, 119] b2).bind fun ⟨y5, _, b7⟩ =>
    some b7
   ) else (
    bif (a1_kind == 2) then (
     (zAo [115, 121, 109] b2).bind fun ⟨y8, _, b10⟩ =>
     some b10
    ) else (
     bif (a1_kind == 3) then (
      (zAo [110, 117, 109] b2).bind fun ⟨y11, _, b13⟩ =>
      some b13
     ) else (
      bif (a1_kind == 4) then (
       (zAo [116, 101, 120, 116] b2).bind fun ⟨y14, _, b16⟩ =>
       some b16
      ) else (
       bif (a1_kind == 5) then (
        (zAo [102, 114, 97, 99] b2).bind fun ⟨y17, _, b19⟩ =>
        some b19
       ) else (
        bif (a1_kind == 6) then (
         (zAo [114, 111, 111, 116] b2).bind fun ⟨y20, _, b22⟩ =>
         some b22
        ) else (
         bif (a1_kind == 7) then (
          (zAo [115, 117, 98] b2).bind fun ⟨y23, _, b25⟩ =>
          some b25
         ) else (
          bif (a1_kind == 8) then (
           (zAo [115, 117, 112] b2).bind fun ⟨y26, _, b28⟩ =>
           some b28
          ) else (
           bif (a1_kind == 9) then (
            (zAo [98, 111, 116, 104] b2).bind fun ⟨y29, _, b31⟩ =>
            some b31
           ) else (
            bif (a1_kind == 10) then (
             (zAo [97, 99, 99, 101, 110, 116] b2).bind fun ⟨y32, _, b34⟩ =>
             some b34
            ) else (
             bif (a1_kind == 11) then (
              (zAo [102, 101, 110, 99, 101] b2).bind fun ⟨y35, _, b37⟩ =>
              some b37
             ) else (
              bif (a1_kind == 12) then (
               (zAo [109, 97, 116, 114, 105, 120] b2).bind fun ⟨y38, _, b40⟩ =>
               some b40
              ) else (
               none
              )
             )
            )
           )
          )
         )
        )
       )
      )
     )
    )
   )
  ) else (
   (zDp a1_kind).bind fun y41 =>
   req ([110, 111, 100, 101].length + y41.length ≤ 1099511627776) <|
   (zAo ([110, 111, 100, 101] ++ y41) b2).bind fun ⟨y42, _, b44⟩ =>
   some b44
  )
  : Option ((List UInt8))).bind fun l4 =>
 (
  bif (!(a1_text == [])) then (
   (zAo [58, 34] l4).bind fun ⟨y46, _, b48⟩ =>
   (zAU a1_text n 0 b48).bind fun l51 =>
   (zAH (b8of 34) l51).bind fun ⟨_, b66⟩ =>
   some b66
  ) else (
   some l4
  )
  : Option ((List UInt8))).bind fun l45 =>
 bif (a1_cols != 0) then (
  (zDp a1_cols).bind fun y67 =>
  req ([42].length + y67.length ≤ 1099511627776) <|
  (zAo ([42] ++ y67) l45).bind fun ⟨y68, _, b70⟩ =>
  some b70
 ) else (
  some l45
 )
def zBQ (n : Nat) : Nat → (List UInt8) → (List (Nd × Int)) → Option ((List UInt8))
| 0, _, _ => none
| k+1, l5, l6 =>
 bif decide (0 < (l6.length : Int)) then (
  (at? l6 (IntKind.i64.wrap ((l6.length : Int) - 1))).bind fun ⟨⟨e10_node_kind, e10_node_text, e10_node_cols, e10_node_kids⟩, e10_kids⟩ =>
  bif (e10_kids == (e10_node_kids.length : Int)) then (
   (
    bif decide (0 < e10_kids) then (
     (zAH (b8of 41) l5).bind fun ⟨_, b14⟩ =>
     some b14
    ) else (
     some l5
    )
    : Option ((List UInt8))).bind fun l12 =>
   req (0 ≤ IntKind.i64.wrap ((l6.length : Int) - 1) ∧ IntKind.i64.wrap ((l6.length : Int) - 1) ≤ (l6.length : Int)) <|
   zBQ n k l12 (l6.take (IntKind.i64.wrap ((l6.length : Int) - 1)).toNat)
  ) else (
   (at? e10_node_kids e10_kids).bind fun ⟨e17_kind, e17_text, e17_cols, e17_kids⟩ =>
   (at? ([40, 32] : List UInt8) (if 1 < e10_kids then 1 else e10_kids)).bind fun c19 =>
   (zAH c19 l5).bind fun ⟨_, b22⟩ =>
   (zBj n (Nd.mk e17_kind e17_text e17_cols e17_kids) b22).bind fun b23 =>
   req ((l6.set (IntKind.i64.wrap ((l6.length : Int) - 1)).toNat (Nd.mk e10_node_kind e10_node_text e10_node_cols e10_node_kids, IntKind.i64.wrap (e10_kids + 1))).length + [(Nd.mk e17_kind e17_text e17_cols e17_kids, 0)].length ≤ 4294967296) <|
   zBQ n k b23 ((l6.set (IntKind.i64.wrap ((l6.length : Int) - 1)).toNat (Nd.mk e10_node_kind e10_node_text e10_node_cols e10_node_kids, IntKind.i64.wrap (e10_kids + 1))) ++ [(Nd.mk e17_kind e17_text e17_cols e17_kids, 0)])
  )
 ) else (
  some l5
 )
def zDY (n : Nat) : Nd → Option (List UInt8)
| ⟨a1_kind, a1_text, a1_cols, a1_kids⟩ =>
 (zDB ).bind fun _ =>
 (zBj n (Nd.mk a1_kind a1_text a1_cols a1_kids) []).bind fun b3 =>
 (zBQ n n b3 [(Nd.mk a1_kind a1_text a1_cols a1_kids, 0)]).bind fun l7 =>
 (zCo l7).bind fun y25 =>
 some y25
def zAW (F_node_Equal : Nd → Nd → Option Bool) (s11 : List Nd) (s22 : List Nd) : Nat → Int → Option (Fl Bool Unit)
| 0, _ => none
| k+1, x6 =>
 bif decide (x6 < (s11.length : Int)) then (
  (at? s11 x6).bind fun ⟨e7_kind, e7_text, e7_cols, e7_kids⟩ =>
  (at? s22 x6).bind fun ⟨e9_kind, e9_text, e9_cols, e9_kids⟩ =>
  (F_node_Equal (Nd.mk e7_kind e7_text e7_cols e7_kids) (Nd.mk e9_kind e9_text e9_cols e9_kids)).bind fun y11 =>
  bif (!y11) then (
   some (.ret false)
  ) else (
   zAW F_node_Equal s11 s22 k (IntKind.i64.wrap (x6 + 1))
  )
 ) else (
  some (.go ())
 )
mutual
def zCd : Nat → Nd → Nd → Option Bool
| 0, _, _ => none
| n+1, ⟨a1_kind, a1_text, a1_cols, a1_kids⟩, ⟨b2_kind, b2_text, b2_cols, b2_kids⟩ =>
 (
  bif (a1_kind == b2_kind) then (
   bif (a1_text == b2_text) then (
    bif (a1_cols == b2_cols) then (
     (zA3 n a1_kids b2_kids).bind fun y4 =>
     some y4
    ) else (
     some false
    )
   ) else (
    some false
   )
  ) else (
   some false
  )
  : Option (Bool)).bind fun x3 =>
 some x3
def zA3 : Nat → (List Nd) → (List Nd) → Option Bool
| 0, _, _ => none
| n+1, s11, s22 =>
 bif ((s11.length : Int) != (s22.length : Int)) then (
  some false
 ) else (
  (zAW (zCd n) s11 s22 n 0).bind fun fl => match fl with
  | .ret r => some r
  | .go _ =>
   some true
 )
end
def zBt (n : Nat) (a1 : List Nd) (a2 : List Nd) (y3_least : List (List Int)) (y3_pair : List (List Int)) (y3_first : List Int) (y3_other : List Int) : Nat → Int → Int → (List (Int × Int)) → Option ((List (Int × Int)))
| 0, _, _, _ => none
| k+1, x5, x6, l7 =>
 (
  bif decide (x5 < (a1.length : Int)) then (
   some (decide (x6 < (a2.length : Int)))
  ) else (
   some false
  )
  : Option (Bool)).bind fun x9 =>
 bif x9 then (
  (at? y3_least x5).bind fun e12 =>
  (at? e12 x6).bind fun e14 =>
  (at? y3_least (IntKind.i64.wrap (x5 + 1))).bind fun e16 =>
  (at? e16 x6).bind fun e18 =>
  (at? y3_first x5).bind fun e20 =>
  (at? y3_least x5).bind fun e22 =>
  (at? e22 (IntKind.i64.wrap (x6 + 1))).bind fun e24 =>
  (at? y3_other x6).bind fun e26 =>
  (
   (at? y3_pair x5).bind fun e29 =>
   (at? e29 x6).bind fun e31 =>
   bif decide (0 ≤ e31) then (
    (at? y3_least (IntKind.i64.wrap (x5 + 1))).bind fun e33 =>
    (at? e33 (IntKind.i64.wrap (x6 + 1))).bind fun e35 =>
    (at? y3_pair x5).bind fun e37 =>
    (at? e37 x6).bind fun e39 =>
    some (e14 == (IntKind.i64.wrap (e35 + e39)))
   ) else (
    some false
   )
   : Option (Bool)).bind fun x28 =>
  bif x28 then (
   req (l7.length + [(x5, x6)].length ≤ 4294967296) <|
   zBt n a1 a2 y3_least y3_pair y3_first y3_other k (IntKind.i64.wrap (x5 + 1)) (IntKind.i64.wrap (x6 + 1)) (l7 ++ [(x5, x6)])
  ) else (
   (
    bif (e14 == (IntKind.i64.wrap (e18 + e20))) then (
     bif (!(e14 == (IntKind.i64.wrap (e24 + e26)))) then (
      some true
     ) else (
      (at? a1 x5).bind fun ⟨e43_kind, e43_text, e43_cols, e43_kids⟩ =>
      (zDY n (Nd.mk e43_kind e43_text e43_cols e43_kids)).bind fun y45 =>
      (at? a2 x6).bind fun ⟨e46_kind, e46_text, e46_cols, e46_kids⟩ =>
      (zDY n (Nd.mk e46_kind e46_text e46_cols e46_kids)).bind fun y48 =>
      some (Op.bytesLess y45 y48)
     )
    ) else (
     some false
    )
    : Option (Bool)).bind fun x42 =>
   bif x42 then (
    zBt n a1 a2 y3_least y3_pair y3_first y3_other k (IntKind.i64.wrap (x5 + 1)) x6 l7
   ) else (
    zBt n a1 a2 y3_least y3_pair y3_first y3_other k x5 (IntKind.i64.wrap (x6 + 1)) l7
   )
  )
 ) else (
  some l7
 )
def zFg (n : Nat) : (List Nd) → (List Nd) → Option (List (Int × Int))
| a1, a2 =>
 (zCg n a1 a2).bind fun ⟨y3_least, y3_pair, y3_first, y3_other⟩ =>
 (zBt n a1 a2 y3_least y3_pair y3_first y3_other n 0 0 []).bind fun l8 =>
 some l8
def zD9 (n : Nat) : Nd → Nd → Option ((List (Int × Int)) × Int)
| ⟨a1_kind, a1_text, a1_cols, a1_kids⟩, ⟨b2_kind, b2_text, b2_cols, b2_kids⟩ =>
 (zEa n (Nd.mk a1_kind a1_text a1_cols a1_kids) (Nd.mk b2_kind b2_text b2_cols b2_kids)).bind fun y3 =>
 bif (!y3) then (
  some ([], 1)
 ) else (
  (zFg n a1_kids b2_kids).bind fun y4 =>
  some (y4, 0)
 )
end Go.Proofs.YtgfneloodabafaaGreatDoor
namespace Go.Proofs.YtgfneloodabafaaGreatDoor
open Go.Abs
mutual
def Nd.cnt : Nd → Nat
 | .mk _ _ _ ks => Nd.cnts ks + 1
def Nd.cnts : List Nd → Nat
 | [] => 0
 | v :: vs => v.cnt + Nd.cnts vs
end
theorem Nd.cnt_pos : ∀ v : Nd, 1 ≤ v.cnt
 | .mk _ _ _ ks => by simp only [Nd.cnt]; omega
theorem Nd.cnts_append : ∀ a b : List Nd, Nd.cnts (a ++ b) = Nd.cnts a + Nd.cnts b
 | [], b => by simp [Nd.cnts]
 | v :: a, b => by simp only [List.cons_append, Nd.cnts, Nd.cnts_append a b]; omega
theorem Nd.cnts_len : ∀ a : List Nd, a.length ≤ Nd.cnts a
 | [] => Nat.le_refl _
 | v :: a => by have := Nd.cnts_len a; have := v.cnt_pos; simp only [Nd.cnts, List.length_cons]; omega
theorem Nd.cnts_mem : ∀ {a : List Nd} {v : Nd}, v ∈ a → v.cnt ≤ Nd.cnts a
 | u :: a, v, h => by
  simp only [Nd.cnts]
  rcases List.mem_cons.1 h with rfl | h
  ·omega
  ·have := Nd.cnts_mem h; omega
theorem Nd.cnts_drop {a : List Nd} {i : Nat} (h : i < a.length) : Nd.cnts (a.drop i) = (a[i]).cnt + Nd.cnts (a.drop (i + 1)) := by
 rw [List.drop_eq_getElem_cons h]; rfl
def zHy (n : Nd) : Option Nd := req (n.cnt ≤ 1000000000) (some n)
def Nd.kids : Nd → List Nd
 | .mk _ _ _ ks => ks
theorem zS5 (n : Nd) : n.kids ≠ [] ↔ n.kids.isEmpty = false := by cases n.kids <;> simp
instance (n : Nd) : Decidable (n.kids ≠ []) := decidable_of_iff _ (zS5 n).symm
def zCQ : Nd → List Int → Option Nd
 | n, [] => some n
 | _, [_] => none
 | n, i :: s :: path => if 0 ≤ i ∧ i < n.kids.length then
   let item := n.kids.getD i.toNat n
   if 0 ≤ s ∧ s < item.kids.length then zCQ (item.kids.getD s.toNat n) path else none
  else none
def zFn : Nd := .mk 0 [] 0 []
def putL : Nd → List Int → Nd → Nd
 | .mk k t c ks, i :: s :: path, r => .mk k t c (ks.set i.toNat (match ks[i.toNat]? with
  | some (.mk k2 t2 c2 ks2) => .mk k2 t2 c2 (ks2.set s.toNat (match ks2[s.toNat]? with
   | some z => putL z path r
   | none => r))
  | none => r))
 | _, _, r => r
end Go.Proofs.YtgfneloodabafaaGreatDoor
namespace Go.Abs
section
variable {T : Nat → Option TI} {Γ : Nat → Option zAy} {M nm L : List Nat} {N k n : Nat} {all os : List Oper} {o : Oper} {σ σ' : St} {K : St → Prop} {φ : Option Prop} {x : AV} {d : Nat}
theorem zRn {φ : Option Prop} {K : Prop} (h1 : φ.getD True) (h2 : K) : andO φ K := by
 cases φ with
 | none => exact h2
 | some p => exact ⟨h1, h2⟩
theorem zTV (h : K (σ.putN d x)) : lay false (some d) x σ K := by
 simp only [lay, zH3]; exact h
theorem zAs (hg : o.guard = none) (hd : o.dst = some d) (hN : Nat.blt d N = true) (hc : callOf T Γ o σ.env = none) (hn : dIn (some d) nm = false) (hs : step1 T (dIn (some d) M) o σ = some (φ, x, σ')) (hφ : φ.getD True)
  (h : zDQ T Γ M nm N all os (σ'.putN d x) K) : zDQ T Γ M nm N all (o :: os) σ K := by
 unfold zDQ
 rw [hg, hd]
 dsimp only
 rw [hN, hc, hn, hs]
 exact zRn hφ (zTV h)
theorem zHs (hg : o.guard = none) (hd : o.dst = none) (hc : callOf T Γ o σ.env = none) (hs : step1 T (dIn none M) o σ = some (φ, x, σ')) (hφ : φ.getD True)
  (h : zDQ T Γ M nm N all os σ' K) : zDQ T Γ M nm N all (o :: os) σ K := by
 unfold zDQ
 rw [hg, hd, hc, hs]
 exact zRn hφ h
theorem zSq {own : Bool} {t e q sz kk : Nat} {j ti : TI} {y i : Operand} {n : Int} {ki : IntKind} {rows : List (List AV)} (ho : o.op = .indexAddr t y i) (ht : T t = some ti) (hk : ti.k = .slice e) (hj : T e = some j) (hy : opd T σ.env t y = .orow q)
  (hi : opd T σ.env 0 i = .s (.int ki n)) (hh : σ.hp q = some (.arow kk sz rows)) (hz : Nat.beq sz j.size = true) : step1 T own o σ = some (some (0 ≤ n ∧ n < rows.length), .rp q sz n.toNat 0, σ) := by
 have e1 : zCC T own o σ.env = none := by simp only [zCC, ho, zEC, hy, hi, AV.nrm, ht, hk]
 simp only [step1, e1, zB7, zDk, zCS, ho, elemOf, ht, hk, hj, hy, hi, hh, hz]
theorem zSt {own : Bool} {t q sz r off kk : Nat} {ti : TI} {y z : Operand} {rows : List (List AV)} (ho : o.op = .store t y z) (ht : T t = some ti) (hy : opd T σ.env 0 y = .rp q sz r off)
  (hh : σ.hp q = some (.arow kk sz rows)) (h1 : Nat.beq sz sz = true) (h2 : Nat.beq (opd T σ.env t z).cellsA.length ti.size = true) (h3 : Nat.ble (off + ti.size) sz = true) (h4 : ((opd T σ.env t z).cellsA).all AV.one = true) :
  step1 T own o σ = some (some (r < rows.length), .junk, zFx σ q (.arow kk sz (rows.set r ((rows.getD r []).take off ++ (opd T σ.env t z).cellsA ++ (rows.getD r []).drop (off + ti.size))))) := by
 have e1 : zCC T own o σ.env = none := by simp only [zCC, ho]
 have e2 : zDk T own o σ = none := by
  simp only [zDk, ho, hy, ht, hh]
 simp only [step1, e1, zB7, e2, zCS, ho, ht, hy, hh, h1, h2, h3, h4]
theorem zOY {own : Bool} {t q off : Nat} {ti : TI} {y z : Operand} {bt : Nat} {cells : List AV} (ho : o.op = .store t y z) (ht : T t = some ti) (hy : opd T σ.env 0 y = .op q off)
  (hh : σ.hp q = some (.box bt cells)) (h2 : Nat.beq (opd T σ.env t z).cellsA.length ti.size = true) (h3 : Nat.ble (off + ti.size) cells.length = true) (h4 : ((opd T σ.env t z).cellsA).all AV.one = true) (h5 : AV.ltAll σ.nx (opd T σ.env t z).cellsA = true) :
  step1 T own o σ = some (none, .junk, zFx σ q (.box bt (cells.take off ++ (opd T σ.env t z).cellsA ++ cells.drop (off + ti.size)))) := by
 have e1 : zCC T own o σ.env = none := by simp only [zCC, ho]
 simp only [step1, e1, zB7, zDk, ho, ht, hy, hh, h2, h3, h4, h5, zDh]
theorem zTC {own : Bool} {t q off : Nat} {ti : TI} {y : Operand} {bt : Nat} {cells : List AV} {c : AV} (ho : o.op = .load t y) (ht : T t = some ti) (ha : ti.k.agg = false) (hy : opd T σ.env 0 y = .op q off) (hh : σ.hp q = some (.box bt cells)) (hc : cells[off]? = some c) :
  step1 T own o σ = some (none, c, σ) := by
 have e1 : zCC T own o σ.env = none := by simp only [zCC, ho, hy]
 simp only [step1, e1, zB7, zDk, ho, ht, hy, hh, ha, hc]
theorem zSr {own : Bool} {t q off : Nat} {ti : TI} {y : Operand} {bt : Nat} {cells : List AV} (ho : o.op = .load t y) (ht : T t = some ti) (ha : ti.k.agg = true) (hy : opd T σ.env 0 y = .op q off) (hh : σ.hp q = some (.box bt cells)) (hc : Nat.ble (off + ti.size) cells.length = true) :
  step1 T own o σ = some (none, .agg ((cells.drop off).take ti.size), σ) := by
 have e1 : zCC T own o σ.env = none := by simp only [zCC, ho, hy]
 simp only [step1, e1, zB7, zDk, ho, ht, hy, hh, ha, hc]
theorem zNb {own : Bool} {t q kk sz : Nat} {e : Nat} {args : Array Operand} {ts : Array Nat} {y : Operand} {rows : List (List AV)} (ho : o.op = .call { callee := .builtin .len, args := args, argTypes := ts }) (ha : args.toList = [y]) (hts : ts.toList = [t]) (ht : tk T t = .slice e)
  (hy : opd T σ.env t y = .orow q) (hh : σ.hp q = some (.arow kk sz rows)) : step1 T own o σ = some (none, .s (.int .i64 (rows.length : Int)), σ) := by
 have e1 : zCC T own o σ.env = none := by simp only [zCC, ho, ha, hts, pLen, ht, hy]
 have e2 : zDk T own o σ = none := by simp only [zDk, ho, ha, hts, ht, hy, hh]
 simp only [step1, e1, zB7, e2, zCS, ho, ha, hts, ht, hy, hh]
theorem zTD {own : Bool} {t q sz r off : Nat} {y : Operand} (ho : o.op = .load t y) (hy : opd T σ.env 0 y = .rp q sz r off) : step1 T own o σ = none ∧ callOf T Γ o σ.env = none ∧ zCD T o σ.env = none := by
 have e1 : zCC T own o σ.env = none := by simp only [zCC, ho, hy]
 have e2 : zDk T own o σ = none := by simp only [zDk, ho, hy]
 have e3 : zCS T o σ = none := by simp only [zCS, ho]
 exact ⟨by simp only [step1, e1, zB7, e2, e3], by simp only [callOf, ho], by simp only [zCD, ho]⟩
theorem zUk {t : Nat} {y : Operand} (ho : o.op = .load t y) : nilQ T o σ.env = none := by simp only [nilQ, ho]
theorem zN2 {t q sz r off kk : Nat} {y : Operand} {rows : List (List AV)} {c : AV} (hg : o.guard = none) (hd : o.dst = some d) (hN : Nat.blt d N = true) (hn : dIn (some d) nm = false) (ho : o.op = .load t y) (hy : opd T σ.env 0 y = .rp q sz r off)
  (hh : σ.hp q = some (.arow kk sz rows)) (hr : r < rows.length) (hc : zMH T t ((rows.getD r []).drop off) = some c) (h : zDQ T Γ M nm N all os (σ.putN d c) K) : zDQ T Γ M nm N all (o :: os) σ K := by
 obtain ⟨e1, e2, e3⟩ := zTD (Γ := Γ) (own := dIn (some d) M) ho hy
 unfold zDQ
 rw [hg, hd]
 dsimp only
 rw [hN, e2, hn, e1, zUk ho]
 have hz : Nat.beq sz sz = true := Nat.beq_refl sz
 simp only [zFD, e3, zHw, ho, hy, hh, hz]
 exact ⟨hr, _, rfl, by rw [hc]; exact zTV h⟩
end
end Go.Abs
namespace Go.Abs
inductive Rd (hp : Nat → Option Ob) : AV → S → Prop
 | s (x : S) : Rd hp (.s x) x
 | nl (sz : Nat) : Rd hp (.nl sz) (.sl sz [])
 | row {k e sz : Nat} {rows : List (List S)} (h : hp k = some (.row e sz rows)) : Rd hp (.orow k) (.sl sz rows)
 | arow {k e sz : Nat} {rows : List (List AV)} {rs : List (List S)} (h : hp k = some (.arow e sz rows)) (hl : rows.length = rs.length) (hr : ∀ r ∈ rs, r.length = sz)
   (hc : ∀ (i : Nat) x s, rows.flatten[i]? = some x → rs.flatten[i]? = some s → Rd hp x s) : Rd hp (.orow k) (.sl sz rs)
 | box {k off bt : Nat} {cells : List AV} {ss : List S} (h : hp k = some (.box bt cells)) (hl : cells.length = ss.length)
   (hc : ∀ (i : Nat) x s, cells[i]? = some x → ss[i]? = some s → Rd hp x s) : Rd hp (.op k off) (.pt (ss.drop off))
 | el {k e sz i off : Nat} {rows : List (List AV)} {rs : List (List S)} (h : hp k = some (.arow e sz rows)) (hl : rows.length = rs.length) (hr : ∀ r ∈ rs, r.length = sz) (hi : i < rs.length)
   (hc : ∀ (i : Nat) x s, rows.flatten[i]? = some x → rs.flatten[i]? = some s → Rd hp x s) : Rd hp (.rp k sz i off) (.pt ((rs.getD i []).drop off))
def allG (G : Nat → Prop) (β : Nat → Value) (hp : Nat → Option Ob) (b : Nat) : Prop := G b ∨ ∃ k ob, hp k = some ob ∧ blk (β k) = some b
theorem Rd.rep {c : Cx} {G : Nat → Prop} {β : Nat → Value} {σ : St} {a : Act} {w : World} (hc : Conc c G β σ a w) {x : AV} {s : S} (h : Rd σ.hp x s) : ∀ {v : Value}, AVal G w β x v → Rep (allG G β σ.hp) w s v := by
 have hk : Keep G (allG G β σ.hp) w w := ⟨fun _ h => .inl h, fun _ _ => rfl⟩
 induction h with
 | s x => intro v hv; simp only [AVal] at hv; exact hv.keep hk
 | nl sz => intro v hv; simp only [AVal] at hv; subst hv; simp [Rep]
 | @row k e sz rows h =>
  intro v hv
  simp only [AVal] at hv
  obtain ⟨hlen, hsz, ho⟩ := hc.hp k _ h
  rw [hv.1]
  rcases ho with ⟨h1, rfl⟩ | ⟨b, cap, cur, h1, h2, h3, h4, h5, h6, h7⟩
  ·rw [h1]; simp [Rep]
  ·rw [h1]
   simp only [Rep]
   refine .inr ⟨b, 0, cap, rfl, h2, zCb hlen (RepRow.mk fun i s hi => ⟨.inr ⟨k, _, h, by rw [h1]; rfl⟩, ?_⟩)⟩
   obtain ⟨u, hu, hr⟩ := h7 i s hi
   exact ⟨u, by simp [World.cell?, h4, hu], hr.keep hk⟩
 | @arow k e sz rows rs h hl hr hcc ih =>
  intro v hv
  simp only [AVal] at hv
  obtain ⟨hlen, hsz, ho⟩ := hc.hp k _ h
  rw [hv.1]
  rcases ho with ⟨h1, rfl⟩ | ⟨b, cap, cur, h1, h2, h3, h4, h5, h6, h7⟩
  ·obtain rfl : rs = [] := List.length_eq_zero_iff.1 (by simpa using hl.symm)
   rw [h1]; simp [Rep]
  ·rw [h1]
   simp only [Rep]
   refine .inr ⟨b, 0, cap, by rw [hl], by rw [← hl]; exact h2, zCb hr (RepRow.mk fun i s hi => ⟨.inr ⟨k, _, h, by rw [h1]; rfl⟩, ?_⟩)⟩
   have hfl := zBe hlen
   have hfs := zBe hr
   have hil : i < rows.flatten.length := by rw [hfl, hl, ← hfs]; exact (List.getElem?_eq_some_iff.1 hi).1
   obtain ⟨u, hu, hr', _⟩ := h7 i _ (List.getElem?_eq_getElem hil)
   exact ⟨u, by simp [World.cell?, h4, hu], ih i _ s (List.getElem?_eq_getElem hil) hi hr'⟩
 | @box k off bt cells ss h hl hcc ih =>
  intro v hv
  simp only [AVal] at hv
  obtain ⟨b, e, cur, h1, h2, h3, h4, h5, h6⟩ := hc.hp k _ h
  obtain ⟨b', hβ, rfl⟩ := hv
  rw [h1] at hβ; cases hβ
  simp only [Rep]
  have hrow : RepRow (allG G β σ.hp) w b ss 0 := RepRow.mk fun i s hi => by
   refine ⟨.inr ⟨k, _, h, by rw [h1]; rfl⟩, ?_⟩
   have hil : i < cells.length := by rw [hl]; exact (List.getElem?_eq_some_iff.1 hi).1
   obtain ⟨u, hu, hr⟩ := h5.get (List.getElem?_eq_getElem hil)
   rw [Array.getElem?_toList] at hu
   exact ⟨u, by simp [World.cell?, h2, hu], ih i _ s (List.getElem?_eq_getElem hil) hi hr⟩
  exact ⟨b, off, rfl, by simpa using hrow.drop off⟩
 | @el k e sz i off rows rs h hl hr hi hcc ih =>
  intro v hv
  simp only [AVal] at hv
  obtain ⟨b, n, cp, hβ, rfl⟩ := hv
  obtain ⟨hlen, hsz, ho⟩ := hc.hp k _ h
  rcases ho with ⟨h1, rfl⟩ | ⟨b', cap, cur, h1, h2, h3, h4, h5, h6, h7⟩
  ·simp at hl; omega
  rw [hβ] at h1; cases h1
  simp only [Rep]
  refine ⟨b, i * sz + off, rfl, ?_⟩
  have hfl := zBe hlen
  have hfs := zBe hr
  have hrow : RepRow (allG G β σ.hp) w b rs.flatten 0 := RepRow.mk fun q s hq => by
   refine ⟨.inr ⟨k, _, h, by rw [hβ]; rfl⟩, ?_⟩
   have hil : q < rows.flatten.length := by rw [hfl, hl, ← hfs]; exact (List.getElem?_eq_some_iff.1 hq).1
   obtain ⟨u, hu, hr', _⟩ := h7 q _ (List.getElem?_eq_getElem hil)
   exact ⟨u, by simp [World.cell?, h4, hu], ih q _ s (List.getElem?_eq_getElem hil) hq hr'⟩
  have hrows := (zCb hr hrow).get (i := i) (r := rs[i]) (List.getElem?_eq_getElem hi)
  have hg : rs.getD i [] = rs[i] := by simp [List.getElem?_eq_getElem hi]
  rw [hg]
  have := hrows.2.drop off
  simpa using this
def RdV (hp : Nat → Option Ob) : AV → AV → Prop
 | x, .s y => Rd hp x y
 | .agg xs, .agg ys => xs.length = ys.length ∧ ∀ (i : Nat) x y, xs[i]? = some x → ys[i]? = some y → ∃ s, y = .s s ∧ Rd hp x s
 | _, .junk => True
 | _, _ => False
theorem RdV.aval {c : Cx} {G : Nat → Prop} {β : Nat → Value} {σ : St} {a : Act} {w : World} (hc : Conc c G β σ a w) {x y : AV} (h : RdV σ.hp x y) {v : Value} (hv : AVal G w β x v) : AVal (allG G β σ.hp) w β y v := by
 unfold RdV at h
 split at h
 ·simp only [AVal]; exact h.rep hc hv
 ·simp only [AVal] at hv ⊢
  obtain ⟨vs, rfl, hvs⟩ := hv
  refine ⟨vs, rfl, AVals.mk (by rw [← h.1]; exact hvs.length) fun i y u hy hu => ?_⟩
  rename_i xs ys
  have hil : i < xs.length := by rw [h.1]; exact (List.getElem?_eq_some_iff.1 hy).1
  obtain ⟨s, rfl, hs⟩ := h.2 i _ y (List.getElem?_eq_getElem hil) hy
  obtain ⟨u', hu', hr⟩ := hvs.get (List.getElem?_eq_getElem hil)
  rw [hu] at hu'; cases hu'
  simp only [AVal]; exact hs.rep hc hr
 ·simp only [AVal]
 ·exact h.elim
def RdL (hp : Nat → Option Ob) (env : Nat → AV) : List (Nat × AV) → Prop
 | [] => True
 | (t, y) :: r => RdV hp (env t) y ∧ RdL hp env r
theorem RdL.get {c : Cx} {G : Nat → Prop} {β : Nat → Value} {σ : St} {a : Act} {w : World} (hc : Conc c G β σ a w) : ∀ {l : List (Nat × AV)}, RdL σ.hp σ.env l → ∀ t, AVal (allG G β σ.hp) w β (ofL l t) (a.tmps.getD t undef)
 | [], _, t => by simp only [ofL, AVal]
 | (u, y) :: r, h, t => by
  simp only [ofL]
  cases e : Nat.beq t u with
  | true => obtain rfl := Nat.eq_of_beq_eq_true e; exact h.1.aval hc (hc.env t)
  | false => exact RdL.get hc h.2 t
def zTk : List (Nat × AV) → Bool
 | [] => true
 | (_, y) :: r => (y.pers || (match y with | .junk => true | _ => false)) && zTk r
theorem zQm {n : Nat} : ∀ {l : List (Nat × AV)}, zTk l = true → ∀ t, (ofL l t).lt n = true
 | [], _, t => rfl
 | (u, y) :: r, h, t => by
  simp only [zTk, Bool.and_eq_true, Bool.or_eq_true] at h
  simp only [ofL]
  cases Nat.beq t u with
  | true =>
   rcases h.1 with h1 | h1
   ·exact AV.pers_lt h1
   ·cases y <;> simp at h1
    rfl
  | false => exact zQm h.2 t
theorem Le.giveWhole {c : Cx} {σ : St} (l : List (Nat × AV)) (h : RdL σ.hp σ.env l) (hp : zTk l = true) : Le c σ ⟨ofL l, fun _ => none, σ.nx⟩ := by
 unfold Le
 intro G β a w hc
 have hk : Keep G (allG G β σ.hp) w w := ⟨fun _ h => .inl h, fun _ _ => rfl⟩
 refine ⟨allG G β σ.hp, β, { defers := hc.defers, size := hc.size, env := RdL.get hc h, envlt := zQm hp, hp := fun k ob hk => (by cases hk), hplt := fun k ob hk => (by cases hk), inj := fun k k' ob ob' hk => (by cases hk), lt := fun b hb => ?_, sub := fun b hb => .inl (hc.sub b hb), new := fun b hb => ?_, fr := hc.fr, stay := hc.stay, glob := hc.glob.keep hk }⟩
 ·rcases hb with hb | ⟨k, ob, h1, h2⟩
  ·exact hc.lt b hb
  ·exact hc.blk_lt h1 h2
 ·rcases hb with hb | ⟨k, ob, h1, h2⟩
  ·exact hc.new b hb
  ·exact .inr (row_block (hc.hp k ob h1) b h2).2
end Go.Abs
namespace Go.Abs
def zAP (L : List (List Int)) : List (List AV) := L.map fun r => [.s (.sl 1 (r.map (irow .i64)))]
def nils (k : Nat) : List (List AV) := List.replicate k [.s (.sl 1 [])]
theorem zT9 {α β : Type} (f : α → β) : ∀ (l : List α), (l.map fun r => [f r]).flatten = l.map f
 | [] => rfl
 | x :: l => by simp [zT9 f l]
theorem zOS {hp : Nat → Option Ob} {k e : Nat} {L : List (List Int)} (h : hp k = some (.arow e 1 (zAP L))) : Rd hp (.orow k) (.sl 1 (L.map fun r => [S.sl 1 (r.map (irow .i64))])) :=
 .arow h (by simp [zAP]) (fun r hr => by obtain ⟨r', _, rfl⟩ := List.mem_map.1 hr; rfl) fun i x s hx hs => by
  have e1 : (zAP L).flatten = L.map fun r => AV.s (.sl 1 (r.map (irow .i64))) := zT9 _ L
  have e2 : (L.map fun r => [S.sl 1 (r.map (irow .i64))]).flatten = L.map fun r => S.sl 1 (r.map (irow .i64)) := zT9 _ L
  rw [e1, List.getElem?_map] at hx
  rw [e2, List.getElem?_map] at hs
  cases hi : L[i]? with
  | none => rw [hi] at hx; cases hx
  | some r =>
   rw [hi] at hx hs
   cases hx; cases hs
   exact .s _
theorem zQz (m : Nat) : (List.replicate m [S.sl 1 []]).map (·.map AV.s) = nils m := by simp [nils]
theorem zE0 {ρ : List (Nat × Nat)} (L : List (List Int)) : (zAP L).map (AV.renAll ρ) = zAP L := by
 simp [zAP, AV.renAll, AV.ren]
theorem zF6 {ρ : List (Nat × Nat)} (m : Nat) : (nils m).map (AV.renAll ρ) = nils m := by
 simp [nils, AV.renAll, AV.ren]
theorem zTb {n : Nat} {l : List AV} (h : ∀ x ∈ l, ∃ s, x = AV.s s) : AV.ltAll n l = true := zEA fun x hx => by obtain ⟨s, rfl⟩ := h x hx; rfl
theorem zF0 {n k : Nat} {L : List (List Int)} : AV.ltAll n (nils k ++ zAP L).flatten = true := zTb fun x hx => by
 simp only [nils, zAP, List.mem_flatten, List.mem_append, List.mem_replicate, List.mem_map] at hx
 obtain ⟨l, (⟨_, rfl⟩ | ⟨r, _, rfl⟩), hx⟩ := hx
 ·exact ⟨_, List.mem_singleton.1 hx⟩
 ·exact ⟨_, List.mem_singleton.1 hx⟩
theorem zIu {n : Nat} : ∀ {xs ys : List AV}, AV.ltAll n (xs ++ ys) = (AV.ltAll n xs && AV.ltAll n ys)
 | [], _ => rfl
 | x :: xs, ys => by simp [AV.ltAll, zIu (xs := xs), Bool.and_assoc]
theorem lt_1 {n k q : Nat} {L : List (List Int)} : AV.ltAll n (nils k ++ [.orow q] :: zAP L).flatten = decide (q < n) := by
 have h1 : AV.ltAll n (nils k).flatten = true := by have := zF0 (n := n) (k := k) (L := []); simpa [zAP] using this
 have h2 : AV.ltAll n (zAP L).flatten = true := zF0 (k := 0)
 rw [List.flatten_append, List.flatten_cons, zIu, zIu, h1, h2]
 simp [AV.ltAll, AV.lt]
theorem lt_p {n : Nat} {L : List (List Int)} : AV.ltAll n (zAP L).flatten = true := zF0 (k := 0)
theorem zDG {k : Nat} {x : List AV} {l : List (List AV)} : (nils k ++ x :: l).getD k [] = x := by
 simp [nils, List.getD_eq_getElem?_getD, List.getElem?_append]
theorem zIs {k : Nat} {x y : List AV} {l : List (List AV)} : (nils k ++ x :: y :: l).getD (k + 1) [] = y := by
 simp [nils, List.getD_eq_getElem?_getD, List.getElem?_append]
theorem zQq {k : Nat} {x : List AV} {L : List (List Int)} : (nils (k + 1) ++ zAP L).set k x = nils k ++ x :: zAP L := by
 have : nils (k + 1) ++ zAP L = nils k ++ [.s (.sl 1 [])] :: zAP L := by simp [nils, List.replicate_succ']
 rw [this, List.set_append_right _ _ (by simp [nils])]
 simp [nils]
theorem zN9 {k : Nat} {L : List (List Int)} : (nils (k + 1) ++ zAP L).getD k [] = [.s (.sl 1 [])] := by
 have : nils (k + 1) ++ zAP L = nils k ++ [.s (.sl 1 [])] :: zAP L := by simp [nils, List.replicate_succ']
 rw [this, zDG]
theorem zDq {l : List Int} {i : Nat} {v : Int} (h : l[i]? = some v) : (l.map (irow .i64)).getD i [] = [.int .i64 v] := by
 simp [List.getD_eq_getElem?_getD, h, irow]
theorem zFZ (l : List Int) : (l.map (irow .i64)).length = l.length := List.length_map ..
theorem zF5 {e : Nat} {k q : Nat} {L : List (List Int)} (ρ : List (Nat × Nat)) (h : look q ρ = some q) : (Ob.arow e 1 (nils k ++ [.orow q] :: zAP L)).ren ρ = .arow e 1 (nils k ++ [.orow q] :: zAP L) := by
 simp [Ob.ren, zF6, zE0, AV.renAll, AV.ren, h]
theorem zQo {e : Nat} {k : Nat} {L : List (List Int)} (ρ : List (Nat × Nat)) : (Ob.arow e 1 (nils k ++ zAP L)).ren ρ = .arow e 1 (nils k ++ zAP L) := by
 simp [Ob.ren, zF6, zE0]
theorem zNe {l : List Int} {j : Nat} {v x : Int} (h : l[j]? = some v) : (l.map (irow .i64)).set j (((l.map (irow .i64)).getD j []).take 0 ++ [.int .i64 x] ++ ((l.map (irow .i64)).getD j []).drop (0 + 1)) = (l.set j x).map (irow .i64) := by
 rw [zDq h, List.map_set]; rfl
theorem zJE {j : Nat} {x : Int} (l : List Int) : (List.replicate (j + 1) 0 ++ l).set j x = List.replicate j 0 ++ x :: l := by
 rw [List.replicate_succ', List.append_assoc, List.set_append_right _ _ (by simp)]
 simp
theorem zU1 {e : Nat} {a q : Nat} {r : List Int} {L : List (List Int)} {p : Nat → AV} (ρ : List (Nat × Nat)) (h : Nat.beq q q = true) : (Ob.frz q (.s (.sl 1 (r.map (irow .i64)))) p (.arow e 1 (nils a ++ [.orow q] :: zAP L))).ren ρ = .arow e 1 (nils a ++ zAP (r :: L)) := by
 simp [Ob.frz, Ob.ren, nils, zAP, AV.frzAll, AV.frz, AV.renAll, AV.ren, h]
theorem zUH {e : Nat} {a q : Nat} {L : List (List Int)} (r : AV) (p : Nat → AV) (ρ : List (Nat × Nat)) : (Ob.frz q r p (.arow e 1 (nils a ++ zAP L))).ren ρ = .arow e 1 (nils a ++ zAP L) := by
 simp [Ob.frz, Ob.ren, nils, zAP, AV.frzAll, AV.frz, AV.renAll, AV.ren]
theorem Le.forgetH {c : Cx} {σ : St} (l : List (Nat × AV)) (hp' : Nat → Option Ob) (n : Nat) (h : holds σ.env l) (hh : ∀ k, σ.hp k = hp' k) (hn : σ.nx = n) : Le c σ ⟨ofL l, hp', n⟩ := by
 obtain rfl : σ.hp = hp' := funext hh
 subst hn
 exact Le.forget l h
end Go.Abs
namespace Go.Abs
theorem PSound.ofOwn {P : Program} {f : Nat} {R : List AV → List Ob → AV → List (Option Ob) → Prop} (hcall : ∀ args w, (callFunc f args).run P w = .ok (.enter f args) w) (h : zJy P f R) : PSound P f (zCm R) :=
 ⟨hcall, fun _ _ _ _ _ _ _ _ _ hs => hs.elim, fun R' hR' => (by
  obtain rfl : R = R' := by simpa [zCm] using hR'
  exact h), fun R hR => (by cases hR)⟩
def zTf (s : zAy) : List AV → List Ob → AV → List (Option Ob) → Prop := match s.own with | some R => R | none => fun _ _ _ _ => False
def orS (s t : zAy) : zAy := zCm fun xs os x os' => zTf s xs os x os' ∨ zTf t xs os x os'
theorem zOD {P : Program} {f : Nat} {s t : zAy} (hs : PSound P f s) (ht : PSound P f t) : PSound P f (orS s t) :=
 PSound.ofOwn hs.1 fun G w β xs vs os x os' h1 h2 h3 h4 h5 h6 => by
  rcases h6 with h6 | h6
  ·unfold zTf at h6
   cases hR : s.own with
   | none => rw [hR] at h6; exact h6.elim
   | some R => rw [hR] at h6; exact hs.2.2.1 R hR G w β xs vs os x os' h1 h2 h3 h4 h5 h6
  ·unfold zTf at h6
   cases hR : t.own with
   | none => rw [hR] at h6; exact h6.elim
   | some R => rw [hR] at h6; exact ht.2.2.1 R hR G w β xs vs os x os' h1 h2 h3 h4 h5 h6
structure Wrote (b off : Nat) (v : Value) (cur : Array Value) (e : Nat) (w w' : World) : Prop where
 os : w'.os = w.os
 tape : w'.tape = w.tape
 output : w'.output = w.output
 size : w'.heap.size = w.heap.size
 old : ∀ i, i ≠ b → w'.heap[i]? = w.heap[i]?
 new : w'.heap[b]? = some (.cells (cur.setIfInBounds off v) e (0, 0))
theorem Wrote.cell {b off e : Nat} {v : Value} {cur : Array Value} {w : World} (h : w.heap[b]? = some (.cells cur e (0, 0))) : Wrote b off v cur e w (w.setCell ⟨b, off, none⟩ v) :=
 ⟨rfl, rfl, rfl, by simp [World.setCell], fun i hi => by
  simp only [World.setCell, Array.getElem?_modify]
  rw [if_neg (Ne.symm hi)], by simp [World.setCell, Array.getElem?_modify, h]⟩
theorem Wrote.same {b off e : Nat} {v : Value} {cur : Array Value} {w : World} (h : w.heap[b]? = some (.cells cur e (0, 0))) (hc : cur[off]? = some v) : Wrote b off v cur e w w :=
 ⟨rfl, rfl, rfl, rfl, fun _ _ => rfl, by
  rw [h]
  have : cur.setIfInBounds off v = cur := by
   apply Array.ext
   ·simp
   ·intro i h1 h2
    rw [Array.getElem_setIfInBounds (by simpa using h2)]
    split
    ·rename_i e; subst e
     rw [Array.getElem?_eq_getElem h2] at hc
     exact (Option.some.inj hc).symm
    ·rfl
  rw [this]⟩
theorem zRG {G : Nat → Prop} {w w' : World} {b : Nat} (hb : ¬ G b) (h : ∀ i, i ≠ b → w'.heap[i]? = w.heap[i]?) : Keep G G w w' := ⟨fun _ h => h, fun i hi => h i fun e => hb (e ▸ hi)⟩
theorem zRq {P : Program} {f D e off : Nat} {cells cells' : List AV} {p : AV} (hoff : cells[off]? = some p) (hp : p = .s .np ∨ p = .op 0 off) (hrow : cells[off + 1]? = some (.orow 1))
  (hc' : cells' = (cells.set off (.op 0 off)).set (off + 1) (.orow 2)) (hpers : ∀ (i : Nat) x, cells[i]? = some x → i ≠ off → i ≠ off + 1 → x.pers = true)
  (hwalk : ∀ (b : Nat) (w : World) (cur : Array Value), w.heap[b]? = some (.cells cur D (0, 0)) → cur.size = cells.length → (p = .s .np → cur[off]? = some (.pointer none)) → (p = .op 0 off → cur[off]? = some (.pointer (some ⟨b, off, none⟩))) →
   Calls P f #[.pointer (some ⟨b, off, none⟩)] w fun e w' => e = .returned (.tuple #[]) ∧ Wrote b off (.pointer (some ⟨b, off, none⟩)) cur D w w') :
  zJy P f fun xs os x os' => ∃ bs, xs = [.op 0 off] ∧ os = [.box D cells, .row e 1 bs] ∧ x = .tup [] ∧ os' = [some (.box D cells'), none, some (.row e 1 bs)] := by
 rintro G w β xs vs os x os' hlt hgl hv hxl hobs ⟨bs, rfl, rfl, rfl, rfl⟩
 obtain ⟨hob0, _⟩ := hobs.1 0 (.box D cells) rfl
 obtain ⟨hob1, _⟩ := hobs.1 1 (.row e 1 bs) rfl
 have hdis : ∀ b, blk (β 0) = some b → blk (β 1) ≠ some b := fun b => hobs.2 0 1 (.box D cells) (.row e 1 bs) rfl rfl (by decide) b
 obtain ⟨b, e', cur, h1, h2, h3, h4, h5, h6, rfl⟩ := hob0
 simp only [AVals, AVal] at hv
 obtain ⟨v, vs', rfl, ⟨b', hb', rfl⟩, rfl⟩ := hv
 have hbb : b' = b := by rw [h1] at hb'; simpa using hb'.symm
 subst hbb
 have hsz : cur.size = cells.length := by simpa using h5.length
 have hval : ∀ v, cur[off]? = some v → AVal G w β p v := fun v hv => by
  obtain ⟨u, hu, hr⟩ := h5.get hoff
  rw [Array.getElem?_toList, hv] at hu; cases hu; exact hr
 have hin : off < cur.size := by rw [hsz]; exact (List.getElem?_eq_some_iff.1 hoff).1
 refine (hwalk b' w cur h2 hsz (fun e => ?_) (fun e => ?_)).mono fun e2 w' ⟨he, hw⟩ => ?_
 ·have := hval _ (Array.getElem?_eq_getElem hin)
  rw [e] at this
  simp only [AVal, Rep] at this
  rw [Array.getElem?_eq_getElem hin, this]
 ·have := hval _ (Array.getElem?_eq_getElem hin)
  rw [e] at this
  simp only [AVal] at this
  obtain ⟨b2, hb2, hv2⟩ := this
  rw [h1] at hb2; cases hb2
  rw [Array.getElem?_eq_getElem hin, hv2]
 ·have hk : Keep G G w w' := zRG h3 hw.old
  let β' : Nat → Value := fun k => if k = 2 then β 1 else β k
  have hβ0 : β' 0 = β 0 := if_neg (by decide)
  have hβ2 : β' 2 = β 1 := if_pos rfl
  have hpp : AVals G w' β' cells' (cur.setIfInBounds off (.pointer (some ⟨b', off, none⟩))).toList := by
   rw [hc']
   refine AVals.mk (by simp [hsz]) fun i x v hx hv => ?_
   rw [Array.getElem?_toList, Array.getElem?_setIfInBounds] at hv
   rw [List.getElem?_set] at hx
   split at hx
   ·rename_i hi
    subst hi
    split at hx
    ·cases hx
     rw [if_neg (by omega)] at hv
     obtain ⟨u, hu, hr⟩ := h5.get hrow
     rw [Array.getElem?_toList, hv] at hu; cases hu
     simp only [AVal] at hr ⊢
     rw [hβ2]; exact hr
    ·cases hx
   ·rename_i hi
    rw [List.getElem?_set] at hx
    split at hx
    ·rename_i hi2
     subst hi2
     rw [if_pos rfl] at hv
     split at hx
     ·cases hx
      rw [if_pos hin] at hv
      cases hv
      simp only [AVal]
      exact ⟨b', by rw [hβ0]; exact h1, rfl⟩
     ·cases hx
    ·rename_i hi2
     rw [if_neg hi2] at hv
     obtain ⟨u, hu, hr⟩ := h5.get hx
     rw [Array.getElem?_toList, hv] at hu; cases hu
     exact AVal.pers (hpers i x hx (Ne.symm hi2) (Ne.symm hi)) (hr.keep hk)
  have hone : ∀ u ∈ (cur.setIfInBounds off (.pointer (some ⟨b', off, none⟩))).toList, u.oneCell' = true := fun u hu => by
   obtain ⟨i, hi⟩ := List.getElem?_of_mem hu
   rw [Array.getElem?_toList, Array.getElem?_setIfInBounds] at hi
   split at hi
   ·first | (cases hi; rfl) | (split at hi <;> first | (cases hi; rfl) | cases hi)
   ·exact h6 u (List.mem_of_getElem? (by rw [Array.getElem?_toList]; exact hi))
  have hX : (zEY P w β 2 G 0).X b' := ⟨0, by decide, by rw [h1]; rfl⟩
  have hltc : AV.ltAll 3 cells' = true := by
   rw [hc']
   refine zC4 fun q y hq => ?_
   rw [List.getElem?_set] at hq
   split at hq
   ·split at hq
    ·cases hq; rfl
    ·cases hq
   ·rename_i hi
    rw [List.getElem?_set] at hq
    split at hq
    ·split at hq
     ·cases hq; rfl
     ·cases hq
    ·rename_i hi2
     exact AV.pers_lt (hpers q y hq (Ne.symm hi2) (Ne.symm hi))
  refine ⟨.tuple #[], G, β', he, ⟨hw.os, hw.tape, hw.output, by rw [hw.size]; exact Nat.le_refl _, fun i hi hx => hw.old i fun e => hx (e ▸ hX)⟩, fun _ h => h, fun _ h => .inl h, fun i hi => by rw [hw.size]; exact hlt i hi,
   ⟨[], rfl, by simp only [AVals]⟩, rfl, (show 2 ≤ 3 by decide), ⟨fun i ob hi => ?_, fun i j ob ob' hi hj hne bb hbi => ?_⟩, fun i ob hi ho => ?_⟩
  ·match i, hi with
   | 0, hi =>
    cases hi
    refine ⟨⟨b', _, _, by rw [hβ0]; exact h1, hw.new, h3, h4, hpp, hone, rfl⟩, by simpa [Ob.lt] using hltc⟩
   | 1, hi => cases hi
   | 2, hi =>
    cases hi
    refine ⟨?_, rfl⟩
    rw [hβ2]
    obtain ⟨g1, g2, g3⟩ := hob1
    refine ⟨g1, g2, g3.imp id ?_⟩
    rintro ⟨bg, cap, gc, k1, k2, k3, k4, k5, k6, k7⟩
    have hne : bg ≠ b' := fun e => hdis b' (by rw [h1]; rfl) (by rw [k1, e]; rfl)
    exact ⟨bg, cap, gc, k1, k2, k3, (hw.old bg hne).trans k4, k5, k6, fun i s hi => let ⟨u, hu, hr⟩ := k7 i s hi; ⟨u, hu, hr.keep hk⟩⟩
   | k + 3, hi => simp at hi
  ·match i, j, hi, hj with
   | 0, 0, _, _ => exact absurd rfl hne
   | 0, 2, _, _ => rw [hβ0] at hbi; rw [hβ2]; exact hdis bb hbi
   | 2, 0, _, _ => rw [hβ2] at hbi; rw [hβ0]; exact fun e => hdis bb e hbi
   | 2, 2, _, _ => exact absurd rfl hne
   | 1, _, hi, _ => cases hi
   | _, 1, _, hj => cases hj
   | k + 3, _, hi, _ => simp at hi
   | _, k + 3, _, hj => simp at hj
  ·match i, hi with
   | 0, _ => exact hβ0
   | 1, _ => cases ho
theorem zPr {P : Program} {f D e off : Nat} {cells cells' : List AV} (hrow : cells[off + 1]? = some (.orow 1)) (hself : cells[off]? = some (.op 0 off))
  (hc' : cells' = cells.set (off + 1) .junk) (hpers : ∀ (i : Nat) x, cells[i]? = some x → i ≠ off → i ≠ off + 1 → x.pers = true)
  (hwalk : ∀ (b g cap : Nat) (l : List UInt8) (w : World) (cur : Array Value), l ≠ [] → w.cell? ⟨b, off + 1, none⟩ = some (.slice (some ⟨g, 0, none⟩) l.length cap) → w.heap[g]? = some (.cells cur e (0, 0)) → cur.size = cap * 1 → l.length ≤ cap → l.length ≤ 9223372036854775807 →
   (∀ (j : Nat) x, l[j]? = some x → cur[j]? = some (.int .u8 x.toNat)) →
   Calls P f #[.pointer (some ⟨b, off, none⟩)] w fun e w' => e = .returned (.string ⟨l.toArray⟩) ∧ w' = w.drew.freeze ⟨g, 0, none⟩ l.length) :
  zJy P f fun xs os x os' => ∃ l : List UInt8, l ≠ [] ∧ l.length ≤ 9223372036854775807 ∧ xs = [.op 0 off] ∧ os = [.box D cells, .row e 1 (l.map brow)] ∧ x = .s (.str l) ∧ os' = [some (.box D cells'), none] := by
 rintro G w β xs vs os x os' hlt hgl hv hxl hobs ⟨l, hl0, hlm, rfl, rfl, rfl, rfl⟩
 obtain ⟨hob0, _⟩ := hobs.1 0 (.box D cells) rfl
 obtain ⟨hob1, _⟩ := hobs.1 1 (.row e 1 (l.map brow)) rfl
 have hdis : ∀ b, blk (β 0) = some b → blk (β 1) ≠ some b := fun b => hobs.2 0 1 (.box D cells) (.row e 1 (l.map brow)) rfl rfl (by decide) b
 obtain ⟨b, e', cur, h1, h2, h3, h4, h5, h6, rfl⟩ := hob0
 simp only [AVals, AVal] at hv
 obtain ⟨v, vs', rfl, ⟨b', hb', rfl⟩, rfl⟩ := hv
 have hbb : b' = b := by rw [h1] at hb'; simpa using hb'.symm
 subst hbb
 have hsz : cur.size = cells.length := by simpa using h5.length
 obtain ⟨g1, g2, g3⟩ := hob1
 rcases g3 with ⟨_, hnil⟩ | ⟨g, cap, gc, k1, k2, k3, k4, k5, k6, k7⟩
 ·exact absurd (by simpa using hnil) hl0
 have hgb : g ≠ b' := fun e => hdis b' (by rw [h1]; rfl) (by rw [k1, e]; rfl)
 have hc1 : cur[off + 1]? = some (β 1) := by
  obtain ⟨u, hu, hr⟩ := h5.get hrow
  simp only [AVal] at hr
  rw [Array.getElem?_toList] at hu
  rw [hu, hr.1]
 have hlen : (l.map brow).length = l.length := by simp
 refine (hwalk b' g cap l w gc hl0 (by simp [World.cell?, h2, hc1, k1]) k4 k3 (by simpa using k2) hlm (fun j x hx => ?_)).mono fun e2 w' ⟨he, hw⟩ => ?_
 ·obtain ⟨u, hu, hr⟩ := k7 j (.int .u8 x.toNat) (by rw [zFd, List.getElem?_map, hx]; rfl)
  simp only [Rep] at hr
  rw [hu, hr]
 ·have hold : ∀ i, i ≠ g → w'.heap[i]? = w.heap[i]? := fun i hi => by
   rw [hw]
   unfold World.freeze
   rw [if_neg (by simpa using hl0)]
   simp only [Array.getElem?_modify]
   rw [if_neg (Ne.symm hi)]; rfl
  have hsize : w'.heap.size = w.heap.size := by
   rw [hw]; unfold World.freeze; rw [if_neg (by simpa using hl0)]; simp
  have hrest : w'.os = w.os ∧ w'.tape = w.tape ∧ w'.output = w.output := by
   rw [hw]; unfold World.freeze; rw [if_neg (by simpa using hl0)]; exact ⟨rfl, rfl, rfl⟩
  have hk : Keep G G w w' := zRG k5 hold
  have hX : (zEY P w β 2 G 0).X g := ⟨1, by decide, by rw [k1]; rfl⟩
  have hpp : AVals G w' β cells' cur.toList := by
   rw [hc']
   refine AVals.mk (by simp [hsz]) fun i x v hx hv => ?_
   rw [List.getElem?_set] at hx
   split at hx
   ·split at hx
    ·cases hx; simp only [AVal]
    ·cases hx
   ·obtain ⟨u, hu, hr⟩ := h5.get hx
    rw [hv] at hu; cases hu
    exact hr.keep hk
  have hltc : AV.ltAll 2 cells' = true := by
   rw [hc']
   refine zC4 fun q y hq => ?_
   rw [List.getElem?_set] at hq
   split at hq
   ·split at hq
    ·cases hq; rfl
    ·cases hq
   ·rename_i hi
    by_cases hi2 : q = off
    ·subst hi2
     rw [hself] at hq; cases hq; rfl
    ·exact AV.pers_lt (hpers q y hq hi2 (Ne.symm hi))
  refine ⟨.string ⟨l.toArray⟩, G, β, he, ⟨hrest.1, hrest.2.1, hrest.2.2, by rw [hsize]; exact Nat.le_refl _, fun i hi hx => hold i fun e => hx (e ▸ hX)⟩, fun _ h => h, fun _ h => .inl h, fun i hi => by rw [hsize]; exact hlt i hi,
   by simp only [AVal, Rep], rfl, (show 2 ≤ 2 by decide), ⟨fun i ob hi => ?_, fun i j ob ob' hi hj hne bb hbi => ?_⟩, fun i ob hi ho => rfl⟩
  ·match i, hi with
   | 0, hi =>
    cases hi
    exact ⟨⟨b', _, cur, h1, (hold b' (Ne.symm hgb)).trans h2, h3, h4, hpp, h6, rfl⟩, by simpa [Ob.lt] using hltc⟩
   | 1, hi => cases hi
   | k + 2, hi => simp at hi
  ·match i, j, hi, hj with
   | 0, 0, _, _ => exact absurd rfl hne
   | 1, _, hi, _ => cases hi
   | _, 1, _, hj => cases hj
   | k + 2, _, hi, _ => simp at hi
   | _, k + 2, _, hj => simp at hj
end Go.Abs
namespace Go.Abs
section
variable {T : Nat → Option TI} {Γ : Nat → Option zAy} {M nm L : List Nat} {N k n : Nat} {all os : List Oper} {o : Oper} {σ σ' : St} {K : St → Prop} {φ : Option Prop} {x : AV} {d : Nat}
theorem zSs {own : Bool} {t e q kk sz : Nat} {j ti : TI} {y hi : Operand} {n : Int} {ki : IntKind} {rows : List (List AV)} (ho : o.op = .slice t y none (some hi) none) (ht : T t = some ti) (hk : ti.k = .slice e) (hj : T e = some j) (hy : opd T σ.env t y = .orow q)
  (hi' : opd T σ.env 0 hi = .s (.int ki n)) (hh : σ.hp q = some (.arow kk sz rows)) (hz : Nat.beq sz j.size = true) :
  step1 T own o σ = some (some (0 ≤ n ∧ n ≤ rows.length), .orow σ.nx, zBU (zE1 σ q) (.arow kk sz (rows.take n.toNat))) := by
 have e1 : zCC T own o σ.env = none := by simp only [zCC, ho, zKC, hy, AV.nrm, ht, hk, Option.map_none, Option.map_some, hi']
 have e2 : zDk T own o σ = none := by simp only [zDk, ho, elemOf, ht, hk, hj, hy, hi', hh]
 simp only [step1, e1, zB7, e2, zCS, ho, elemOf, ht, hk, hj, hy, hi', hh, hz]
theorem zUr {own : Bool} {t tx e q q2 kk kk2 sz sz2 : Nat} {j ti : TI} {args : Array Operand} {ts : Array Nat} {y z : Operand} {rows rows2 : List (List AV)} (ho : o.op = .call { callee := .builtin .append, args := args, argTypes := ts }) (ha : args.toList = [y, z]) (hts : ts.toList = [t, tx])
  (ht : T t = some ti) (hk : ti.k = .slice e) (hj : T e = some j) (htx : tk T tx = .slice e) (hy : opd T σ.env t y = .orow q) (hz : opd T σ.env tx z = .orow q2) (hh : σ.hp q = some (.arow kk sz rows)) (hh2 : σ.hp q2 = some (.arow kk2 sz2 rows2))
  (h1 : Nat.beq sz j.size = true) (h2 : Nat.beq sz2 j.size = true) (h3 : Nat.beq e kk = true) :
  step1 T own o σ = some (some ((rows.length + rows2.length) * j.bytes ≤ 140737488355328 ∧ rows.length + rows2.length ≤ 9223372036854775807), .orow σ.nx, zBU (zE1 σ q) (.arow e sz (rows ++ rows2))) := by
 have e1 : zCC T own o σ.env = none := by simp only [zCC, ho]
 have e2 : zDk T own o σ = none := by simp only [zDk, ho, ha, hts, zHv, elemOf, ht, hk, hj, hy, zI1, hh]
 simp only [step1, e1, zB7, e2, zCS, ho, ha, hts, elemOf, ht, hk, hj, hy, hz, zJo, hh, zJv, htx, hh2, h1, h2, h3]
theorem zTB {own : Bool} {t tx e q kk sz sz2 e2 : Nat} {j ti : TI} {args : Array Operand} {ts : Array Nat} {y z : Operand} {rows : List (List AV)} {rows2 : List (List S)} (ho : o.op = .call { callee := .builtin .copy, args := args, argTypes := ts }) (ha : args.toList = [y, z]) (hts : ts.toList = [t, tx])
  (ht : T t = some ti) (hk : ti.k = .slice e) (hj : T e = some j) (htx : tk T tx = .slice e2) (hy : opd T σ.env t y = .orow q) (hz : opd T σ.env tx z = .s (.sl sz2 rows2)) (hh : σ.hp q = some (.arow kk sz rows))
  (h1 : Nat.beq sz j.size = true) (h2 : Nat.beq sz2 j.size = true) :
  step1 T own o σ = some (some ((rows2.map (·.map AV.s)).length = rows.length), .s (.int .i64 (rows.length : Int)), zFx σ q (.arow kk sz (rows2.map (·.map AV.s)))) := by
 have e1 : zCC T own o σ.env = none := by simp only [zCC, ho, ha, hts, zRX, hy]
 have e2 : zDk T own o σ = none := by simp only [zDk, ho]
 simp only [step1, e1, zB7, e2, zCS, ho, ha, hts, elemOf, ht, hk, hj, hy, hz, zJo, hh, zJv, htx, h1, h2]
theorem zU4 {own : Bool} {t e : Nat} {j ti : TI} {y z : Operand} {n m : Int} {k1 k2 : IntKind} (hw : own = true) (ho : o.op = .makeSlice t y z) (ht : T t = some ti) (hk : ti.k = .slice e) (hj : T e = some j) (hy : opd T σ.env 0 y = .s (.int k1 n)) (hz : opd T σ.env 0 z = .s (.int k2 m)) (h1 : Nat.ble 1 j.size = true)
  (hp : zCC T own o σ.env = none) :
  step1 T own o σ = some (some (0 ≤ n ∧ n ≤ m ∧ m * j.bytes ≤ 281474976710656 ∧ m ≤ 281474976710656), .orow σ.nx, zBU σ (.row e j.size (List.replicate n.toNat j.zero))) := by
 simp only [step1, hp, zB7, zDk, ho, elemOf, ht, hk, hj, hy, hz, h1]
end
def cellSim (tr2 : Nat → Option Ob) (a b : AV) : Prop := b = a ∨ ∃ y, a = .s y ∧ Rd tr2 b y
def zUM (tr2 : Nat → Option Ob) : Ob → Ob → Prop
 | .box t cs, o => ∃ cs2, o = .box t cs2 ∧ cs2.length = cs.length ∧ ∀ (i : Nat) a b, cs[i]? = some a → cs2[i]? = some b → cellSim tr2 a b
 | .row e sz rows, o => o = .row e sz rows
 | .arow e sz rows, o => ∃ rows2, o = .arow e sz rows2 ∧ rows2.length = rows.length ∧ rows2.flatten.length = rows.flatten.length ∧ ∀ (i : Nat) a b, rows.flatten[i]? = some a → rows2.flatten[i]? = some b → cellSim tr2 a b
theorem Rd.s_inv {hp : Nat → Option Ob} {y s : S} (h : Rd hp (.s y) s) : s = y := by cases h; rfl
theorem cellSim.go {tr tr2 : Nat → Option Ob} {a b : AV} {s : S} (h : cellSim tr2 a b) (hr : Rd tr a s) (ih : Rd tr2 a s) : Rd tr2 b s := by
 rcases h with rfl | ⟨y, rfl, h⟩
 ·exact ih
 ·rw [hr.s_inv]; exact h
theorem Rd.upd {tr tr2 : Nat → Option Ob} (h : ∀ k ob, tr k = some ob → ∃ ob2, tr2 k = some ob2 ∧ zUM tr2 ob ob2) {x : AV} {s : S} (hr : Rd tr x s) : Rd tr2 x s := by
 induction hr with
 | s x => exact .s x
 | nl sz => exact .nl sz
 | row hk =>
  obtain ⟨ob2, h1, h2⟩ := h _ _ hk
  simp only [zUM] at h2
  subst h2
  exact .row h1
 | arow hk hl hrr hc ih =>
  obtain ⟨ob2, h1, rows2, rfl, h2, h3, h4⟩ := h _ _ hk
  refine .arow h1 (h2.trans hl) hrr fun i x2 s hx hs => ?_
  have hil := (List.getElem?_eq_some_iff.1 hx).1
  rw [h3] at hil
  have ha := List.getElem?_eq_getElem hil
  exact (h4 i _ x2 ha hx).go (hc i _ s ha hs) (ih i _ s ha hs)
 | box hk hl hc ih =>
  obtain ⟨ob2, h1, cs2, rfl, h2, h4⟩ := h _ _ hk
  refine .box h1 (h2.trans hl) fun i x2 s hx hs => ?_
  have hil := (List.getElem?_eq_some_iff.1 hx).1
  rw [h2] at hil
  have ha := List.getElem?_eq_getElem hil
  exact (h4 i _ x2 ha hx).go (hc i _ s ha hs) (ih i _ s ha hs)
 | el hk hl hrr hi hc ih =>
  obtain ⟨ob2, h1, rows2, rfl, h2, h3, h4⟩ := h _ _ hk
  refine .el h1 (h2.trans hl) hrr hi fun i x2 s hx hs => ?_
  have hil := (List.getElem?_eq_some_iff.1 hx).1
  rw [h3] at hil
  have ha := List.getElem?_eq_getElem hil
  exact (h4 i _ x2 ha hx).go (hc i _ s ha hs) (ih i _ s ha hs)
theorem Rd.mono {tr tr2 : Nat → Option Ob} (h : ∀ k ob, tr k = some ob → tr2 k = some ob) {x : AV} {s : S} (hr : Rd tr x s) : Rd tr2 x s := by
 refine hr.upd fun k ob hk => ⟨ob, h k ob hk, ?_⟩
 cases ob with
 | box t cs => exact ⟨cs, rfl, rfl, fun i a b h1 h2 => .inl (by rw [h1] at h2; exact (Option.some.inj h2).symm)⟩
 | row => rfl
 | arow e sz rows => exact ⟨rows, rfl, rfl, rfl, fun i a b h1 h2 => .inl (by rw [h1] at h2; exact (Option.some.inj h2).symm)⟩
end Go.Abs
namespace Go.Abs
def isL (sz : Nat) (p : AV) : Prop := (∃ q i, p = .rp q sz i 0) ∨ (∃ q, p = .op q 0)
def zBI : AV → Nat
 | .op q _ => q
 | .rp q _ _ _ => q
 | _ => 0
def locO (p : AV) (off : Nat) : AV := match p with
 | .op q _ => .op q off
 | .rp q sz i _ => .rp q sz i off
 | x => x
def zBc (hp : Nat → Option Ob) : AV → Option (List AV)
 | .op q 0 => match hp q with | some (.box _ cs) => some cs | _ => none
 | .rp q sz i 0 => match hp q with | some (.arow _ sz' rows) => bif Nat.beq sz sz' then rows[i]? else none | _ => none
 | _ => none
def putC (hp : Nat → Option Ob) (p : AV) (c : List AV) (k : Nat) : Option Ob := match p with
 | .op q _ => match hp q with | some (.box bt _) => bif Nat.beq k q then some (.box bt c) else hp k | _ => hp k
 | .rp q _ i _ => match hp q with | some (.arow e sz rows) => bif Nat.beq k q then some (.arow e sz (rows.set i c)) else hp k | _ => hp k
 | _ => hp k
theorem zDR {k q : Nat} (h : k ≠ q) : Nat.beq k q = false := by
 cases e : Nat.beq k q with
 | true => exact absurd (Nat.eq_of_beq_eq_true e) h
 | false => rfl
theorem zCq {hp : Nat → Option Ob} {p : AV} {c : List AV} {k : Nat} (h : k ≠ zBI p) : putC hp p c k = hp k := by
 unfold putC
 split
 ·rename_i q _
  have h : k ≠ q := h
  split
  ·rw [zDR h, cond_false]
  ·rfl
 ·rename_i q _ _ _
  have h : k ≠ q := h
  split
  ·rw [zDR h, cond_false]
  ·rfl
 ·rfl
theorem zKF {hp : Nat → Option Ob} {q o bt : Nat} {cs c : List AV} (h : hp q = some (.box bt cs)) : putC hp (.op q o) c = fun k => bif Nat.beq k q then some (.box bt c) else hp k := by
 funext k; simp only [putC, h]
theorem zID {hp : Nat → Option Ob} {q s i o e sz : Nat} {rows : List (List AV)} {c : List AV} (h : hp q = some (.arow e sz rows)) : putC hp (.rp q s i o) c = fun k => bif Nat.beq k q then some (.arow e sz (rows.set i c)) else hp k := by
 funext k; simp only [putC, h]
theorem zLG {hp : Nat → Option Ob} {q bt : Nat} {cs : List AV} (h : hp q = some (.box bt cs)) : zBc hp (.op q 0) = some cs := by simp only [zBc, h]
theorem zFF {hp : Nat → Option Ob} {q e sz i : Nat} {rows : List (List AV)} (h : hp q = some (.arow e sz rows)) : zBc hp (.rp q sz i 0) = rows[i]? := by simp only [zBc, h, Nat.beq_refl, cond_true]
theorem zDs {hp : Nat → Option Ob} {sz : Nat} {p : AV} {cs : List AV} (hl : isL sz p) (h : zBc hp p = some cs) : (∃ q i e rows, p = .rp q sz i 0 ∧ hp q = some (.arow e sz rows) ∧ rows[i]? = some cs) ∨ ∃ q bt, p = .op q 0 ∧ hp q = some (.box bt cs) := by
 rcases hl with ⟨q, i, rfl⟩ | ⟨q, rfl⟩
 ·simp only [zBc] at h
  split at h
  ·rename_i e sz' rows hq
   cases hb : Nat.beq sz sz' with
   | false => rw [hb] at h; cases h
   | true =>
    rw [hb, cond_true] at h
    obtain rfl := Nat.eq_of_beq_eq_true hb
    exact .inl ⟨q, i, e, rows, rfl, hq, h⟩
  ·cases h
 ·simp only [zBc] at h
  split at h
  ·rename_i bt cs' hq
   cases h
   exact .inr ⟨q, bt, rfl, hq⟩
  ·cases h
theorem zJ8 {hp : Nat → Option Ob} {sz : Nat} {p : AV} {c cs : List AV} (hl : isL sz p) (h : zBc hp p = some cs) : zBc (putC hp p c) p = some c := by
 rcases zDs hl h with ⟨q, i, e, rows, rfl, hq, hi⟩ | ⟨q, bt, rfl, hq⟩
 ·rw [zID hq, zFF (e := e) (rows := rows.set i c) (by simp only [Nat.beq_refl, cond_true]), List.getElem?_set, if_pos rfl, if_pos (List.getElem?_eq_some_iff.1 hi).1]
 ·rw [zKF hq, zLG (bt := bt) (cs := c) (by simp only [Nat.beq_refl, cond_true])]
theorem zCI {hp hp' : Nat → Option Ob} {sz : Nat} {p : AV} (hl : isL sz p) (h : hp' (zBI p) = hp (zBI p)) : zBc hp' p = zBc hp p := by
 rcases hl with ⟨q', i', rfl⟩ | ⟨q', rfl⟩ <;> (simp only [zBI] at h; simp only [zBc, h])
theorem zR7 {hp : Nat → Option Ob} {sz : Nat} {p p' : AV} {c cs : List AV} (hl : isL sz p) (hc : zBc hp p = some cs) (hl' : isL sz p') (hne : p' ≠ p) : zBc (putC hp p c) p' = zBc hp p' := by
 by_cases hb : zBI p' = zBI p
 ·rcases zDs hl hc with ⟨q, i, e, rows, rfl, hq, hi⟩ | ⟨q, bt, rfl, hq⟩
  ·have hp2 : putC hp (.rp q sz i 0) c q = some (.arow e sz (rows.set i c)) := by rw [zID hq]; simp only [Nat.beq_refl, cond_true]
   rcases hl' with ⟨q', i', rfl⟩ | ⟨q', rfl⟩ <;> (simp only [zBI] at hb; subst hb)
   ·have hi : i' ≠ i := fun e => hne (by rw [e])
    rw [zFF hp2, zFF hq, List.getElem?_set, if_neg (Ne.symm hi)]
   ·simp only [zBc, hp2, hq]
  ·have hp2 : putC hp (.op q 0) c q = some (.box bt c) := by rw [zKF hq]; simp only [Nat.beq_refl, cond_true]
   rcases hl' with ⟨q', i', rfl⟩ | ⟨q', rfl⟩ <;> (simp only [zBI] at hb; subst hb)
   ·simp only [zBc, hp2, hq]
   ·exact absurd rfl hne
 ·exact zCI hl' (zCq hb)
theorem zTm {hp : Nat → Option Ob} {sz' : Nat} {p : AV} {c cs : List AV} (hl : isL sz' p) (hc : zBc hp p = some cs) {q e sz : Nat} {rows : List (List AV)} (h : hp q = some (.arow e sz rows)) : ∃ rows', putC hp p c q = some (.arow e sz rows') ∧ rows'.length = rows.length := by
 by_cases hb : q = zBI p
 ·subst hb
  rcases zDs hl hc with ⟨q, i, e', rows', rfl, hq, hi⟩ | ⟨q, bt, rfl, hq⟩
  ·simp only [zBI] at h ⊢
   rw [hq] at h; cases h
   rw [zID hq]; exact ⟨_, by simp only [Nat.beq_refl, cond_true]; rfl, List.length_set ..⟩
  ·simp only [zBI] at h
   rw [hq] at h; cases h
 ·rw [zCq hb]; exact ⟨rows, h, rfl⟩
section
variable {T : Nat → Option TI} {Γ : Nat → Option zAy} {M nm L : List Nat} {N k n : Nat} {all os : List Oper} {o : Oper} {σ σ' : St} {K : St → Prop} {φ : Option Prop} {x : AV} {d : Nat}
theorem zGL {own : Bool} {sz : Nat} {p : AV} {y : Operand} (hl : isL sz p) (ho : o.op = .nilCheck y) (hy : opd T σ.env 0 y = p) : step1 T own o σ = some (none, p, σ) := by
 have e1 : zCC T own o σ.env = some (none, p) := by
  rcases hl with ⟨q, i, rfl⟩ | ⟨q, rfl⟩ <;> simp only [zCC, ho, hy]
 simp only [step1, e1]
theorem zGK {own : Bool} {sz : Nat} {p : AV} {t f off ft : Nat} {ti j : TI} {fs : List (Nat × Nat)} {y : Operand} (hl : isL sz p) (ho : o.op = .fieldAddr t y f) (hy : opd T σ.env 0 y = p) (ht : T t = some ti) (hk : ti.k = .struct fs) (hf : fs[f]? = some (off, ft)) (hj : T ft = some j) (hz : Nat.ble 1 j.size = true) :
  step1 T own o σ = some (none, locO p off, σ) := by
 have e1 : zCC T own o σ.env = some (none, locO p off) := by
  rcases hl with ⟨q, i, rfl⟩ | ⟨q, rfl⟩ <;> simp only [zCC, ho, hy, zFR, ht, hk, hf, hj, hz, zLi, locO, Nat.zero_add]
 simp only [step1, e1]
theorem zFG {sz t off : Nat} {ti : TI} {y : Operand} {p c : AV} {cs : List AV} (hg : o.guard = none) (hd : o.dst = some d) (hN : Nat.blt d N = true) (hn : dIn (some d) nm = false) (ho : o.op = .load t y) (ht : T t = some ti) (ha : ti.k.agg = false) (hl : isL sz p) (hy : opd T σ.env 0 y = locO p off)
  (hcs : zBc σ.hp p = some cs) (hc : cs[off]? = some c) (h : zDQ T Γ M nm N all os (σ.putN d c) K) : zDQ T Γ M nm N all (o :: os) σ K := by
 rcases zDs hl hcs with ⟨q, i, e, rows, rfl, hq, hi⟩ | ⟨q, bt, rfl, hq⟩
 ·have hgd : rows.getD i [] = cs := by rw [List.getD_eq_getElem?_getD, hi]; rfl
  refine zN2 hg hd hN hn ho hy hq (List.getElem?_eq_some_iff.1 hi).1 (c := c) ?_ h
  simp only [zMH, ht, ha, hgd]
  rw [List.drop_eq_getElem_cons (List.getElem?_eq_some_iff.1 hc).1]
  simp only [(List.getElem?_eq_some_iff.1 hc).2]
 ·have hcall : callOf T Γ o σ.env = none := by simp only [callOf, ho]
  exact zAs hg hd hN hcall hn (zTC ho ht ha hy hq hc) trivial h
theorem zN3 {sz t off : Nat} {ti : TI} {y z : Operand} {p c : AV} {cs : List AV} (hg : o.guard = none) (hd : o.dst = none) (ho : o.op = .store t y z) (ht : T t = some ti) (hs : ti.size = 1) (hl : isL sz p) (hy : opd T σ.env 0 y = locO p off)
  (hcs : zBc σ.hp p = some cs) (hlen : cs.length = sz) (hoff : off < sz) (hz : (opd T σ.env t z).cellsA = [c]) (ho1 : c.one = true) (hlt : c.lt σ.nx = true)
  (h : zDQ T Γ M nm N all os { σ with hp := putC σ.hp p (cs.set off c) } K) : zDQ T Γ M nm N all (o :: os) σ K := by
 have hcall : callOf T Γ o σ.env = none := by simp only [callOf, ho]
 have hset : cs.take off ++ [c] ++ cs.drop (off + 1) = cs.set off c := by
  rw [List.set_eq_take_append_cons_drop, if_pos (by omega)]; simp
 have h1 : Nat.ble (off + 1) sz = true := Nat.ble_eq_true_of_le hoff
 rcases zDs hl hcs with ⟨q, i, e, rows, rfl, hq, hi⟩ | ⟨q, bt, rfl, hq⟩
 ·have hgd : rows.getD i [] = cs := by rw [List.getD_eq_getElem?_getD, hi]; rfl
  have hst := zSt (T := T) (own := dIn none M) (o := o) (σ := σ) ho ht hy hq (Nat.beq_refl _) (by rw [hz, hs]; rfl) (by rw [hs]; exact h1) (by rw [hz]; simp [ho1])
  refine zHs hg hd hcall hst (List.getElem?_eq_some_iff.1 hi).1 ?_
  rw [hgd, hz, hs, hset]
  rw [zID hq] at h
  exact h
 ·have hst := zOY (T := T) (own := dIn none M) (o := o) (σ := σ) ho ht hy hq (by rw [hz, hs]; rfl) (by rw [hs, hlen]; exact h1) (by rw [hz]; simp [ho1]) (by rw [hz]; simp [AV.ltAll, hlt])
  refine zHs hg hd hcall hst trivial ?_
  rw [hz, hs, hset]
  rw [zKF hq] at h
  exact h
end
theorem PSound.giveAll {P : Program} {f : Nat} {R : List AV → (Nat → Option Ob) → Nat → (AV → (Nat → Option Ob) → Nat → Prop) → Prop} {S : List AV → Ret → Prop} (h : PSound P f (zQN R))
  (hS : ∀ xs r, S xs r → ∃ y, r = .val y ∧ y.pers = true ∧ R xs (fun _ => none) 0 fun x hp n => RdV hp x y) : PSound P f (zAI S) := by
 refine ⟨h.1, fun G w xs vs r hlt hgl hp hv hs => ?_, fun R hR => (by cases hR), fun R hR => (by cases hR)⟩
 obtain ⟨y, rfl, hy, hR⟩ := hS xs r hs
 refine (h.2.2.2 R rfl G w (fun _ => .tuple #[]) xs vs (fun _ => none) 0 _ hlt hgl hv (AV.persAll_lt hp) ⟨fun k ob hk => (by cases hk), fun k ob hk => (by cases hk), fun k k' ob ob' hk => (by cases hk)⟩ hR).mono ?_
 rintro e w' ⟨v, G', β', x, hp', n', rfl, hΦ, hn, hfr, hsub, hnew, hlt', hx, hxl, hob, hst⟩
 let c : Cx := zEq P w (fun _ => .tuple #[]) (fun _ => none) 0 G 0
 have hk : Keep G G' w w' := ⟨hsub, fun b hb => hfr.old b (hlt b hb) (by rintro ⟨k, ob, h, _⟩; cases h)⟩
 have hc : Conc c G' β' ⟨fun _ => .junk, hp', n'⟩ { tmps := #[], defers := [] } w' := {
  defers := rfl
  size := rfl
  env := fun t => by simp only [AVal]
  envlt := fun t => rfl
  hp := hob.obs
  hplt := hob.lts
  inj := hob.inj
  lt := hlt'
  sub := hsub
  new := hnew
  fr := hfr
  stay := ⟨hn, hst⟩
  glob := hgl.keep hk }
 have hmine : ∀ b, c.mine b → w.heap.size ≤ b := fun b hb => by
  rcases hb with ⟨k, ob, h, _⟩ | h
  ·cases h
  ·exact h
 refine ⟨v, allG G' β' hp', rfl, ⟨hfr.os, hfr.tape, hfr.output, hfr.size, fun b hb => hfr.old b hb (by rintro ⟨k, ob, h, _⟩; cases h), fun b hb => .inl (hsub b hb), fun b hb => ?_, fun b hb => ?_⟩, hy, (hΦ.aval hc hx).pers hy⟩
 ·rcases hb with hb | ⟨k, ob, h1, h2⟩
  ·exact (hnew b hb).imp id (hmine b)
  ·exact .inr (hmine b (row_block (hc.hp k ob h1) b h2).2)
 ·rcases hb with hb | ⟨k, ob, h1, h2⟩
  ·exact hlt' b hb
  ·exact hc.blk_lt h1 h2
theorem RdV.lt {hp : Nat → Option Ob} {x y : AV} (h : RdV hp x y) (n : Nat) : y.lt n = true := by
 unfold RdV at h
 split at h
 ·rfl
 ·rename_i xs ys
  simp only [AV.lt]
  refine zKn fun q y hq => ?_
  have hil : q < xs.length := by rw [h.1]; exact (List.getElem?_eq_some_iff.1 hq).1
  obtain ⟨s, rfl, _⟩ := h.2 q _ y (List.getElem?_eq_getElem hil) hq
  rfl
 ·rfl
 ·exact h.elim
def RdK (hp : Nat → Option Ob) (env : Nat → AV) : List (Nat × AV) → Prop
 | [] => True
 | (t, y) :: r => (y = env t ∨ RdV hp (env t) y) ∧ RdK hp env r
theorem RdK.lt {hp : Nat → Option Ob} {env : Nat → AV} {n : Nat} (he : ∀ t, (env t).lt n = true) : ∀ {l : List (Nat × AV)}, RdK hp env l → ∀ t, (ofL l t).lt n = true
 | [], _, t => rfl
 | (u, y) :: r, h, t => by
  simp only [ofL]
  cases Nat.beq t u with
  | true =>
   rcases h.1 with h1 | h1
   ·rw [h1]; exact he u
   ·exact h1.lt n
  | false => exact RdK.lt he h.2 t
end Go.Abs
