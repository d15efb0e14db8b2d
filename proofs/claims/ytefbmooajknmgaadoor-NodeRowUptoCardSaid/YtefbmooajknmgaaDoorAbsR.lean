/-
  THE ABSTRACT MACHINE, PART R: calls; own objects lent, or handed over.
-/
import Derived.Test.YtefbmooajknmgaaDoorAbsI
set_option linter.unusedSimpArgs false
set_option linter.unusedVariables false
namespace Go.Abs

mutual
theorem AV.pers_lt {n : Nat} : ∀ {x : AV}, x.pers = true → x.lt n = true
  | .s _, _ => rfl
  | .nl _, _ => rfl
  | .agg xs, h => by simp only [AV.pers] at h; simp only [AV.lt]; exact AV.persAll_lt h
  | .tup xs, h => by simp only [AV.pers] at h; simp only [AV.lt]; exact AV.persAll_lt h
  | .clo _ xs, h => by simp only [AV.pers] at h; simp only [AV.lt]; exact AV.persAll_lt h
  | .op .., h => by simp [AV.pers] at h
  | .orow _, h => by simp [AV.pers] at h
  | .rp .., h => by simp [AV.pers] at h
  | .junk, _ => rfl
theorem AV.persAll_lt {n : Nat} : ∀ {xs : List AV}, AV.persAll xs = true → AV.ltAll n xs = true
  | [], _ => rfl
  | x :: xs, h => by
    simp only [AV.persAll, Bool.and_eq_true] at h
    simp only [AV.ltAll, Bool.and_eq_true]
    exact ⟨AV.pers_lt h.1, AV.persAll_lt h.2⟩
end

/-- What a call leaves. -/
def afterCall (own : Bool) (σ : St) (r : Ret) : Option (AV × St) :=
  match r with
  | .val x => match x.pers with | true => some (x, σ) | false => none
  | .row e sz rows => match own with | true => some (.orow σ.nx, addOb σ (.row e sz rows)) | false => some (.s (.sl sz rows), σ)

theorem after_sound {c : Cx} {G G' : Nat → Prop} {β : Nat → Value} {σ σ' : St} {a : Act} {w w' : World} (hc : Conc c G β σ a w) (h1 : Ext G G' w w') {r : Ret} {v : Value} (h2 : RetAt G' w w' r v) {own : Bool} {x : AV}
    (hx : afterCall own σ r = some (x, σ')) {K : Prop}
    (hK : ∀ G' β' w'' v', w'' = w' → v' = v → Conc c G' β' σ' a w'' → AVal G' w'' β' x v' → x.lt σ'.nx = true → K) : K := by
  have hcx := hc.ext h1
  unfold afterCall at hx
  unfold RetAt at h2
  split at hx
  · split at hx
    · rename_i hpers
      cases hx
      exact hK G' β w' v rfl rfl hcx (AVal.pers h2.1 h2.2) (AV.pers_lt hpers)
    · cases hx
  · rename_i e1 sz rows
    obtain ⟨f1, f2, f3⟩ := h2
    split at hx
    · cases hx
      rcases f3 with ⟨rfl, rfl⟩ | ⟨b, cap, cur, rfl, k1, k2, k3, k4, k5, k6⟩
      · obtain ⟨β', b1, b2, b3⟩ := hcx.make (ob := .row e1 sz []) (v := .slice none 0 0) ⟨f1, f2, .inl ⟨rfl, rfl⟩⟩ rfl (fun _ _ _ b hb => by cases hb)
        refine hK G' β' w' _ rfl rfl b3 ?_ (by simp [AV.lt, addOb])
        simp only [AVal]
        exact ⟨b2.symm, _, _, _, rfl⟩
      · obtain ⟨β', b1, b2, b3⟩ := hcx.make (ob := .row e1 sz rows) (v := .slice (some ⟨b, 0, none⟩) rows.length cap) ⟨f1, f2, .inr ⟨b, cap, cur, rfl, k1, k2, k3, k4, .inr (Nat.le_trans hc.fr.size k5), k6⟩⟩ rfl (fun k o' hk b' hb e' => by
          cases hb
          have h9 : b < w.heap.size := hc.blk_lt hk e'
          omega)
        refine hK G' β' w' _ rfl rfl b3 ?_ (by simp [AV.lt, addOb])
        simp only [AVal]
        exact ⟨b2.symm, _, _, _, rfl⟩
    · cases hx
      rcases f3 with ⟨rfl, rfl⟩ | ⟨b, cap, cur, rfl, k1, k2, k3, k4, k5, k6⟩
      · exact hK G' β w' _ rfl rfl hcx (by simp only [AVal, Rep]; exact .inl ⟨trivial, _, _, rfl⟩) rfl
      · have hblt : b < w'.heap.size := (Array.getElem?_eq_some_iff.1 k3).1
        have hx : Ext G (fun i => G' i ∨ i = b) w w' := ⟨h1.os, h1.tape, h1.output, h1.size, h1.old, fun i hi => .inl (h1.sub i hi), fun i hi => hi.elim (h1.new i) (fun e => .inr (e ▸ k5)), fun i hi => hi.elim (h1.lt i) (fun e => e ▸ hblt)⟩
        refine hK _ β w' _ rfl rfl (hc.ext hx) ?_ rfl
        simp only [AVal, Rep]
        refine .inr ⟨b, 0, cap, rfl, k1, flatten_rows f1 (RepRow.mk fun i s hi => ⟨.inr rfl, ?_⟩)⟩
        obtain ⟨u, hu, hr⟩ := k6 i s hi
        refine ⟨u, by simp [World.cell?, k3, hu], hr.keep ⟨fun _ h => .inl h, fun _ _ => rfl⟩⟩
theorem call_sound {c : Cx} {T : Nat → Option TI} {Γ : Nat → Option PSpec} {G : Nat → Prop} {β : Nat → Value} {σ σ' : St} {a : Act} {w : World} (hΓ : ∀ f s, Γ f = some s → PSound c.P f s)
    (hc : Conc c G β σ a w) {o : Oper} {g : Nat} {s : PSpec} {xs : List AV} (h : callOf T Γ o σ.env = some (g, s, xs)) {r : Ret} (hr : s.spec xs r) {own : Bool} {x : AV} (hx : afterCall own σ r = some (x, σ'))
    {K : Act → World → Prop} {Q : Exit → Act → World → Prop}
    (hK : ∀ G' β' w' v, Conc c G' β' σ' a w' → AVal G' w' β' x v → x.lt σ'.nx = true → K (a.put o.dst v) w') : o.wp c.P a w K Q := by
  have hρ : ∀ ty x, AVal G w β (opd T σ.env ty x) (a.eval x) := opd_rep hc T
  unfold callOf at h
  split at h
  · rename_i f args ts ho
    split at h
    · rename_i g' e
      split at h
      · rename_i s' hs
        split at h
        · rename_i hown
          split at h
          · rename_i hp
            cases h
            have := hρ 0 f
            rw [e] at this
            simp only [AVal, Rep] at this
            have hargs := opds_rep hρ args.toList ts.toList
            obtain ⟨hcall, hsound, _⟩ := hΓ g s hs
            have hexec : (execOp a.eval o).run c.P w = .ok (.enter g (args.toList.map a.eval).toArray) w := by
              have e : (args.toList.map a.eval).toArray = args.map a.eval := Array.ext' (by simp)
              rw [e]
              simp [execOp, ho, resolve, this, Deferred.ofValue, invoke, hcall]
            unfold Oper.wp
            rw [hexec]
            simp only [Oper.upon_enter]
            refine (hsound G w _ _ r hc.lt hc.glob hp (AVals.pers hp hargs) hr).mono fun e w' he => ?_
            obtain ⟨v, G', rfl, h1, h2⟩ := he
            exact after_sound hc h1 h2 hx fun G' β' w'' v' e1 e2 h3 h4 h5 => by subst e1; subst e2; exact hK G' β' _ _ h3 h4 h5
          · cases h
        · cases h
      · cases h
    · cases h
  · cases h

def noneIn (x : Nat) : List Nat → Bool
  | [] => true
  | y :: ys => !(Nat.beq x y) && noneIn x ys
def distinct : List Nat → Bool
  | [] => true
  | x :: xs => noneIn x xs && distinct xs
theorem noneIn_spec {x : Nat} : ∀ {l : List Nat}, noneIn x l = true → x ∉ l
  | [], _ => by simp
  | y :: ys, h => by
    simp only [noneIn, Bool.and_eq_true, Bool.not_eq_true'] at h
    have h1 := Nat.ne_of_beq_eq_false h.1
    have h2 := noneIn_spec h.2
    simp [h1, h2]
def look (k : Nat) : List (Nat × Nat) → Option Nat
  | [] => none
  | (a, b) :: r => bif Nat.beq k a then some b else look k r

mutual
/-- Keys under new names; what has no new name is not known any more. -/
def AV.ren (ρ : List (Nat × Nat)) : AV → AV
  | .op k o => match look k ρ with | some j => .op j o | none => .junk
  | .orow k => match look k ρ with | some j => .orow j | none => .junk
  | .rp k sz i o => match look k ρ with | some j => .rp j sz i o | none => .junk
  | .agg xs => .agg (AV.renAll ρ xs)
  | .tup xs => .tup (AV.renAll ρ xs)
  | .clo f xs => .clo f (AV.renAll ρ xs)
  | x => x
def AV.renAll (ρ : List (Nat × Nat)) : List AV → List AV
  | [] => []
  | x :: xs => x.ren ρ :: AV.renAll ρ xs
end
def Ob.ren (ρ : List (Nat × Nat)) : Ob → Ob
  | .box t xs => .box t (AV.renAll ρ xs)
  | .arow e sz rows => .arow e sz (rows.map (AV.renAll ρ))
  | o => o

mutual
theorem AVal.ren {G : Nat → Prop} {w : World} {β β' : Nat → Value} {ρ : List (Nat × Nat)} (hb : ∀ k j, look k ρ = some j → β' j = β k) : ∀ {x : AV} {v : Value}, AVal G w β x v → AVal G w β' (x.ren ρ) v
  | .s x, v, h => by simp only [AVal, AV.ren] at h ⊢; exact h
  | .nl _, v, h => by simp only [AVal, AV.ren] at h ⊢; exact h
  | .agg xs, v, h => by
    simp only [AVal, AV.ren] at h ⊢
    obtain ⟨vs, h1, h2⟩ := h
    exact ⟨vs, h1, AVals.ren hb h2⟩
  | .tup xs, v, h => by
    simp only [AVal, AV.ren] at h ⊢
    obtain ⟨vs, h1, h2⟩ := h
    exact ⟨vs, h1, AVals.ren hb h2⟩
  | .clo f xs, v, h => by
    simp only [AVal, AV.ren] at h ⊢
    obtain ⟨vs, h1, h2⟩ := h
    exact ⟨vs, h1, AVals.ren hb h2⟩
  | .op k o, v, h => by
    simp only [AV.ren]
    split
    · rename_i j hj; simp only [AVal] at h ⊢; rw [hb k j hj]; exact h
    · simp only [AVal]
  | .orow k, v, h => by
    simp only [AV.ren]
    split
    · rename_i j hj; simp only [AVal] at h ⊢; rw [hb k j hj]; exact h
    · simp only [AVal]
  | .rp k sz i o, v, h => by
    simp only [AV.ren]
    split
    · rename_i j hj; simp only [AVal] at h ⊢; rw [hb k j hj]; exact h
    · simp only [AVal]
  | .junk, _, _ => by simp only [AV.ren, AVal]
theorem AVals.ren {G : Nat → Prop} {w : World} {β β' : Nat → Value} {ρ : List (Nat × Nat)} (hb : ∀ k j, look k ρ = some j → β' j = β k) : ∀ {xs : List AV} {vs : List Value}, AVals G w β xs vs → AVals G w β' (AV.renAll ρ xs) vs
  | [], _, h => by simp only [AVals, AV.renAll] at h ⊢; exact h
  | x :: xs, vs, h => by
    simp only [AVals, AV.renAll] at h ⊢
    obtain ⟨v, vs', h1, h2, h3⟩ := h
    exact ⟨v, vs', h1, AVal.ren hb h2, AVals.ren hb h3⟩
end


/-- Data in which nothing leads anywhere. -/
def S.flat : S → Bool
  | .sl _ _ => false
  | .pt _ => false
  | _ => true
mutual
def AV.flat : AV → Bool
  | .s x => x.flat
  | .nl _ => true
  | .agg xs => AV.flatAll xs
  | .tup xs => AV.flatAll xs
  | _ => false
def AV.flatAll : List AV → Bool
  | [] => true
  | x :: xs => x.flat && AV.flatAll xs
end
def Ret.flat : Ret → Bool
  | .val x => x.flat
  | .row _ _ _ => false

theorem Rep.flat {G G' : Nat → Prop} {w w' : World} {s : S} {v : Value} (hs : s.flat = true) (h : Rep G w s v) : Rep G' w' s v := by
  cases s with
  | sl sz rows => simp [S.flat] at hs
  | pt => simp [S.flat] at hs
  | _ => simpa only [Rep] using h
mutual
theorem AVal.flat {G G' : Nat → Prop} {w w' : World} {β β' : Nat → Value} : ∀ {x : AV} {v : Value}, x.flat = true → AVal G w β x v → AVal G' w' β' x v
  | .s x, v, hf, h => by simp only [AVal, AV.flat] at h hf ⊢; exact h.flat hf
  | .nl _, v, _, h => by simp only [AVal] at h ⊢; exact h
  | .agg xs, v, hf, h => by
    simp only [AVal, AV.flat] at h hf ⊢
    obtain ⟨vs, h1, h2⟩ := h
    exact ⟨vs, h1, AVals.flat hf h2⟩
  | .tup xs, v, hf, h => by
    simp only [AVal, AV.flat] at h hf ⊢
    obtain ⟨vs, h1, h2⟩ := h
    exact ⟨vs, h1, AVals.flat hf h2⟩
  | .clo .., _, hf, _ => by simp [AV.flat] at hf
  | .op .., _, hf, _ => by simp [AV.flat] at hf
  | .orow _, _, hf, _ => by simp [AV.flat] at hf
  | .rp .., _, hf, _ => by simp [AV.flat] at hf
  | .junk, _, hf, _ => by simp [AV.flat] at hf
theorem AVals.flat {G G' : Nat → Prop} {w w' : World} {β β' : Nat → Value} : ∀ {xs : List AV} {vs : List Value}, AV.flatAll xs = true → AVals G w β xs vs → AVals G' w' β' xs vs
  | [], _, _, h => by simp only [AVals] at h ⊢; exact h
  | x :: xs, vs, hf, h => by
    simp only [AVals] at h ⊢
    simp only [AV.flatAll, Bool.and_eq_true] at hf
    obtain ⟨v, vs', h1, h2, h3⟩ := h
    exact ⟨v, vs', h1, AVal.flat hf.1 h2, AVals.flat hf.2 h3⟩
end
theorem RetAt.flat {G G1 G' : Nat → Prop} {w w' : World} (hs : ∀ b, G b → G' b) {r : Ret} {v : Value} (hf : r.flat = true) (h : RetAt G' w w' r v) : RetAt G w w' r v := by
  cases r with
  | val x => exact ⟨h.1, AVal.flat hf h.2⟩
  | row e sz rows =>
    simp [Ret.flat] at hf

mutual
/-- The own objects to which a value leads. -/
def AV.keys : AV → List Nat
  | .op k _ => [k]
  | .orow k => [k]
  | .rp k _ _ _ => [k]
  | .agg xs => AV.keysAll xs
  | .tup xs => AV.keysAll xs
  | .clo _ xs => AV.keysAll xs
  | _ => []
def AV.keysAll : List AV → List Nat
  | [] => []
  | x :: xs => x.keys ++ AV.keysAll xs
end
mutual
/-- A value as one that only reads sees it. -/
def AV.lend (hp : Nat → Option Ob) : AV → AV
  | .orow k => match hp k with | some (.row _ sz rows) => .s (.sl sz rows) | _ => .junk
  | .op k o => match hp k with
    | some (.box _ cells) => match scAll cells with | some ss => .s (.pt (ss.drop o)) | none => .junk
    | _ => .junk
  | .rp .. => .junk
  | .agg xs => .agg (AV.lendAll hp xs)
  | .tup xs => .tup (AV.lendAll hp xs)
  | .clo f xs => .clo f (AV.lendAll hp xs)
  | x => x
def AV.lendAll (hp : Nat → Option Ob) : List AV → List AV
  | [] => []
  | x :: xs => x.lend hp :: AV.lendAll hp xs
end

section
variable {c : Cx} {G : Nat → Prop} {β : Nat → Value} {σ : St} {a : Act} {w : World}

def lentG (G : Nat → Prop) (β : Nat → Value) (σ : St) (ks : List Nat) (b : Nat) : Prop := G b ∨ ∃ k ob, k ∈ ks ∧ σ.hp k = some ob ∧ blk (β k) = some b

mutual
theorem AVal.lend (hc : Conc c G β σ a w) {ks : List Nat} : ∀ {x : AV} {v : Value}, (∀ k ∈ x.keys, k ∈ ks) → AVal G w β x v → AVal (lentG G β σ ks) w β (x.lend σ.hp) v
  | .s x, v, _, h => by simp only [AVal, AV.lend] at h ⊢; exact h.keep ⟨fun _ h => .inl h, fun _ _ => rfl⟩
  | .nl _, v, _, h => by simp only [AVal, AV.lend] at h ⊢; exact h
  | .agg xs, v, hk, h => by
    simp only [AVal, AV.lend] at h ⊢
    obtain ⟨vs, h1, h2⟩ := h
    exact ⟨vs, h1, AVals.lend hc (fun k hk' => hk k (by simpa [AV.keys] using hk')) h2⟩
  | .tup xs, v, hk, h => by
    simp only [AVal, AV.lend] at h ⊢
    obtain ⟨vs, h1, h2⟩ := h
    exact ⟨vs, h1, AVals.lend hc (fun k hk' => hk k (by simpa [AV.keys] using hk')) h2⟩
  | .clo f xs, v, hk, h => by
    simp only [AVal, AV.lend] at h ⊢
    obtain ⟨vs, h1, h2⟩ := h
    exact ⟨vs, h1, AVals.lend hc (fun k hk' => hk k (by simpa [AV.keys] using hk')) h2⟩
  | .op k o, v, hk, h => by
    simp only [AV.lend]
    have hkk := hk k (by simp [AV.keys])
    split
    · rename_i cells hh
      split
      · rename_i ss hs
        obtain ⟨b, e, cur, h1, h2, h3, h4, h5, h6⟩ := hc.hp k _ hh
        have hreps := scAll_rep hs h5
        simp only [AVal] at h
        obtain ⟨b', e1, rfl⟩ := h
        rw [h1] at e1; cases e1
        simp only [AVal, Rep]
        have hrow : RepRow (lentG G β σ ks) w b ss 0 := RepRow.mk fun i s hi => ⟨.inr ⟨k, _, hkk, hh, by rw [h1]; rfl⟩, by
          obtain ⟨u, hu, hr⟩ := reps_get hreps hi
          rw [Array.getElem?_toList] at hu
          exact ⟨u, by simp [World.cell?, h2, hu], hr.keep ⟨fun _ h => .inl h, fun _ _ => rfl⟩⟩⟩
        exact ⟨b, o, rfl, by simpa using hrow.drop o⟩
      · simp only [AVal]
    · simp only [AVal]
  | .orow k, v, hk, h => by
    simp only [AV.lend]
    have hkk := hk k (by simp [AV.keys])
    split
    · rename_i e sz rows hh
      obtain ⟨hlen, hsz, ho⟩ := hc.hp k _ hh
      simp only [AVal] at h
      obtain ⟨rfl, _⟩ := h
      simp only [AVal, Rep]
      rcases ho with ⟨h1, rfl⟩ | ⟨b, cap, cur, h1, h2, h3, h4, h5, h6, h7⟩
      · exact .inl ⟨rfl, _, _, h1⟩
      · refine .inr ⟨b, 0, cap, h1, h2, flatten_rows hlen (RepRow.mk fun i s hi => ⟨.inr ⟨k, _, hkk, hh, by rw [h1]; rfl⟩, ?_⟩)⟩
        obtain ⟨u, hu, hr⟩ := h7 i s hi
        exact ⟨u, by simp [World.cell?, h4, hu], hr.keep ⟨fun _ h => .inl h, fun _ _ => rfl⟩⟩
    · simp only [AVal]
  | .rp .., v, _, h => by simp only [AV.lend, AVal]
  | .junk, _, _, _ => by simp only [AV.lend, AVal]
theorem AVals.lend (hc : Conc c G β σ a w) {ks : List Nat} : ∀ {xs : List AV} {vs : List Value}, (∀ k ∈ AV.keysAll xs, k ∈ ks) → AVals G w β xs vs → AVals (lentG G β σ ks) w β (AV.lendAll σ.hp xs) vs
  | [], _, _, h => by simp only [AVals, AV.lendAll] at h ⊢; exact h
  | x :: xs, vs, hk, h => by
    simp only [AVals, AV.lendAll] at h ⊢
    obtain ⟨v, vs', h1, h2, h3⟩ := h
    exact ⟨v, vs', h1, AVal.lend hc (fun k hk' => hk k (by simp [AV.keysAll, hk'])) h2, AVals.lend hc (fun k hk' => hk k (by simp [AV.keysAll, hk'])) h3⟩
end

def kin (k : Nat) : List Nat → Bool
  | [] => false
  | x :: xs => match Nat.beq k x with | true => true | false => kin k xs
theorem kin_false {k : Nat} : ∀ {l : List Nat}, kin k l = false → k ∉ l
  | [], _ => by simp
  | x :: xs, h => by
    simp only [kin] at h
    split at h
    · cases h
    · rename_i e
      have := kin_false h
      have := Nat.ne_of_beq_eq_false e
      simp_all

/-- Own objects are let go. -/
def ridAll (ks : List Nat) (σ : St) : St := { σ with hp := fun k => bif kin k ks then none else σ.hp k }

theorem Conc.giveAll (hc : Conc c G β σ a w) (ks : List Nat) : Conc c (lentG G β σ ks) β (ridAll ks σ) a w := by
  have k : Keep G (lentG G β σ ks) w w := ⟨fun _ h => .inl h, fun _ _ => rfl⟩
  have hget : ∀ {k' o}, (ridAll ks σ).hp k' = some o → k' ∉ ks ∧ σ.hp k' = some o := fun {k' o} hk => by
    simp only [ridAll] at hk
    cases e : kin k' ks with
    | true => rw [e, cond_true] at hk; cases hk
    | false => rw [e, cond_false] at hk; exact ⟨kin_false e, hk⟩
  have hng : ∀ {k' o}, σ.hp k' = some o → k' ∉ ks → ∀ {b : Nat}, blk (β k') = some b → ¬ lentG G β σ ks b := fun {k' o} hk hn {b} hb hl => by
    rcases hl with hl | ⟨k2, o2, h1, h2, h3⟩
    · exact (row_block (hc.hp k' o hk) b hb).1 hl
    · exact hc.inj k' k2 o o2 hk h2 (fun e => hn (e ▸ h1)) b hb h3
  refine { hc with env := fun t => (hc.env t).keep k, hp := fun k' o hk => ?_, hplt := fun k' o hk => hc.hplt k' o (hget hk).2, inj := fun k1 k2 o1 o2 h1 h2 => hc.inj k1 k2 o1 o2 (hget h1).2 (hget h2).2, lt := fun i hi => ?_, sub := fun i hi => .inl (hc.sub i hi), new := fun i hi => ?_, glob := hc.glob.keep k }
  · obtain ⟨hn, hk0⟩ := hget hk
    have ho := hc.hp k' o hk0
    cases o with
    | box cells =>
      obtain ⟨b', e', cur, h1, h2, h3, h4, h5, h6⟩ := ho
      exact ⟨b', e', cur, h1, h2, hng hk0 hn (by rw [h1]; rfl), h4, h5.keep k, h6⟩
    | row e' sz rows =>
      obtain ⟨h0, h0', h1⟩ := ho
      refine ⟨h0, h0', h1.imp id ?_⟩
      rintro ⟨b', cap, cur, h1, h2, h3, h4, h5, h6, h7⟩
      exact ⟨b', cap, cur, h1, h2, h3, h4, hng hk0 hn (by rw [h1]; rfl), h6, fun i s hi => let ⟨u, hu, hr⟩ := h7 i s hi; ⟨u, hu, hr.keep k⟩⟩
    | arow e' sz rows => exact ho.moveA (fun _ _ _ h => h) (fun b _ hb _ _ => hng hk0 hn hb) (fun _ _ h => h) (fun _ _ _ _ hr => hr.keep k)
  · rcases hi with hi | ⟨k2, o2, h1, h2, h3⟩
    · exact hc.lt i hi
    · exact hc.blk_lt h2 h3
  · rcases hi with hi | ⟨k2, o2, h1, h2, h3⟩
    · exact hc.new i hi
    · exact .inr (row_block (hc.hp k2 o2 h2) i h3).2

/-- A call: the function's number and the arguments. -/
def rawCall (T : Nat → Option TI) (o : Oper) (env : Nat → AV) : Option (Nat × List AV) :=
  match o.op with
  | .call { callee := .value f, args := args, argTypes := ts } => match opd T env 0 f with
    | .s (.fn g) => some (g, opds T env args.toList ts.toList)
    | .clo g caps => some (g, opds T env args.toList ts.toList ++ caps)
    | _ => none
  | _ => none

def closeKeys (hp : Nat → Option Ob) : Nat → List Nat → List Nat → List Nat
  | 0, _, acc => acc
  | _, [], acc => acc
  | n + 1, k :: r, acc => match kin k acc with
    | true => closeKeys hp n r acc
    | false => match hp k with
      | some (.box _ cells) => closeKeys hp n (AV.keysAll cells ++ r) (acc ++ [k])
      | _ => closeKeys hp n r (acc ++ [k])

def zipI : Nat → List Nat → List (Nat × Nat)
  | _, [] => []
  | i, k :: ks => (k, i) :: zipI (i + 1) ks
def obsOf (hp : Nat → Option Ob) (ρ : List (Nat × Nat)) : List Nat → Option (List Ob)
  | [] => some []
  | k :: ks => match hp k, obsOf hp ρ ks with | some o, some os => some (o.ren ρ :: os) | _, _ => none
/-- The caller's name of the callee's i-th object. -/
def backK : List Nat → Nat → Nat → Nat
  | k :: _, _, 0 => k
  | _ :: ks, nx, i + 1 => backK ks nx i
  | [], nx, i => nx + i
def backL (ks : List Nat) (nx : Nat) : Nat → List (Option Ob) → List (Nat × Nat)
  | _, [] => []
  | i, none :: r => backL ks nx (i + 1) r
  | i, some _ :: r => (i, backK ks nx i) :: backL ks nx (i + 1) r
def layObs (ρ : List (Nat × Nat)) (f : Nat → Nat) : Nat → List (Option Ob) → (Nat → Option Ob) → Nat → Option Ob
  | _, [], hp => hp
  | i, o :: os, hp => layObs ρ f (i + 1) os (fun k => bif Nat.beq k (f i) then o.map (Ob.ren ρ) else hp k)
def handed (σ : St) (ks : List Nat) (os' : List (Option Ob)) : St :=
  { σ with hp := layObs (backL ks σ.nx 0 os') (backK ks σ.nx) 0 os' σ.hp, nx := σ.nx + (os'.length - ks.length) }

/-- Where nil is handed over as a slice of the callee's own: an own row without elements. -/
def nilArg (T : Nat → Option TI) (nil : Option Nat) (o : Oper) (xs : List AV) (σ : St) : List AV × St :=
  match nil with
  | none => (xs, σ)
  | some k => match o.op with
    | .call { callee := _, args := args, argTypes := ts } => match args.toList[k]?, elemOf T (ts.toList.getD k 0) with
      | some x, some (e, j) => match isNilConst x, Nat.ble 1 j.size with
        | true, true => (xs.set k (.orow σ.nx), addOb σ (.row e j.size []))
        | _, _ => (xs, σ)
      | _, _ => (xs, σ)
    | _ => (xs, σ)

/-- A load through a pointer into an own row: the walk says what the element is. -/
def loadL (T : Nat → Option TI) (o : Oper) (σ : St) (K : AV → St → Prop) : Prop :=
  match o.op with
  | .load t x => match opd T σ.env 0 x with
    | .rp k sz i off => match σ.hp k with
      | some (.row _ sz' rows) => match Nat.beq sz sz' with
        | true => i < rows.length ∧ ∃ row, rows.getD i [] = row ∧ match loadS T t (row.drop off) with | some y => K y σ | none => False
        | false => False
      | some (.arow _ sz' rows) => match Nat.beq sz sz' with
        | true => i < rows.length ∧ ∃ row, rows.getD i [] = row ∧ match loadA T t (row.drop off) with | some y => K y σ | none => False
        | false => False
      | _ => False
    | _ => False
  | _ => False

/-- A call that takes own objects: lent to one that only reads, handed over to one that tells what it does with them. -/
def callL (T : Nat → Option TI) (Γ : Nat → Option PSpec) (own : Bool) (o : Oper) (σ : St) (K : AV → St → Prop) : Prop :=
  match rawCall T o σ.env with
  | none => loadL T o σ K
  | some (g, xs) => match Γ g with
    | none => False
    | some s => match s.heap with
     | some R => ∃ Φ, R xs σ.hp σ.nx Φ ∧ ∀ x hp' n', Φ x hp' n' → K x ⟨σ.env, hp', n'⟩
     | none => match s.own with
      | none => match AV.persAll (AV.lendAll σ.hp xs) with
        | false => False
        | true => ∃ r, s.spec (AV.lendAll σ.hp xs) r ∧ match afterCall own (match r.flat with | true => σ | false => ridAll (AV.keysAll xs) σ) r with
          | none => False
          | some (x, σ') => K x σ'
      | some R => match nilArg T s.nil o xs σ with
        | (xs, σ) => match distinct (closeKeys σ.hp 64 (AV.keysAll xs) []), obsOf σ.hp (zipI 0 (closeKeys σ.hp 64 (AV.keysAll xs) [])) (closeKeys σ.hp 64 (AV.keysAll xs) []) with
          | true, some os => ∃ x os', R (AV.renAll (zipI 0 (closeKeys σ.hp 64 (AV.keysAll xs) [])) xs) os x os' ∧
              K (x.ren (backL (closeKeys σ.hp 64 (AV.keysAll xs) []) σ.nx 0 os')) (handed σ (closeKeys σ.hp 64 (AV.keysAll xs) []) os')
          | _, _ => False

theorem distinct_nodup : ∀ {l : List Nat}, distinct l = true → l.Nodup
  | [], _ => List.nodup_nil
  | x :: xs, h => by
    simp only [distinct, Bool.and_eq_true] at h
    exact List.nodup_cons.2 ⟨noneIn_spec h.1, distinct_nodup h.2⟩

theorem backK_lt : ∀ {ks : List Nat} {nx i : Nat}, i < ks.length → ks[i]? = some (backK ks nx i)
  | k :: ks, nx, 0, _ => rfl
  | k :: ks, nx, i + 1, h => by simpa [backK] using backK_lt (ks := ks) (nx := nx) (i := i) (by simpa using h)
theorem backK_ge : ∀ {ks : List Nat} {nx i : Nat}, ks.length ≤ i → backK ks nx i = nx + (i - ks.length)
  | [], nx, i, _ => by simp [backK]
  | k :: ks, nx, 0, h => by simp at h
  | k :: ks, nx, i + 1, h => by rw [backK, backK_ge (by simpa using h)]; simp

theorem look_zipI : ∀ {ks : List Nat} {n k i : Nat}, look k (zipI n ks) = some i → n ≤ i ∧ ks[i - n]? = some k
  | [], n, k, i, h => by simp [zipI, look] at h
  | a :: ks, n, k, i, h => by
    simp only [zipI, look] at h
    cases e : Nat.beq k a with
    | true => rw [e, cond_true] at h; cases h; obtain rfl := Nat.eq_of_beq_eq_true e; simp
    | false =>
      rw [e, cond_false] at h
      obtain ⟨h1, h2⟩ := look_zipI h
      refine ⟨by omega, ?_⟩
      rw [show i - n = (i - (n + 1)) + 1 by omega]; simpa using h2

theorem look_mem {k j : Nat} : ∀ {l : List (Nat × Nat)}, look k l = some j → (k, j) ∈ l
  | [], h => by simp [look] at h
  | (a, b) :: r, h => by
    simp only [look] at h
    cases e : Nat.beq k a with
    | true => rw [e, cond_true] at h; cases h; obtain rfl := Nat.eq_of_beq_eq_true e; simp
    | false => rw [e, cond_false] at h; simp [look_mem h]

theorem look_backL {ks : List Nat} {nx : Nat} : ∀ {os : List (Option Ob)} {n i k : Nat}, look i (backL ks nx n os) = some k → n ≤ i ∧ (∃ ob, os[i - n]? = some (some ob)) ∧ k = backK ks nx i
  | [], n, i, k, h => by simp [backL, look] at h
  | none :: r, n, i, k, h => by
    simp only [backL] at h
    obtain ⟨h1, ⟨ob, h2⟩, h3⟩ := look_backL h
    refine ⟨by omega, ⟨ob, ?_⟩, h3⟩
    rw [show i - n = (i - (n + 1)) + 1 by omega]; simpa using h2
  | some o :: r, n, i, k, h => by
    simp only [backL, look] at h
    cases e : Nat.beq i n with
    | true => rw [e, cond_true] at h; cases h; obtain rfl := Nat.eq_of_beq_eq_true e; exact ⟨Nat.le_refl _, ⟨o, by simp⟩, rfl⟩
    | false =>
      rw [e, cond_false] at h
      obtain ⟨h1, ⟨ob, h2⟩, h3⟩ := look_backL h
      refine ⟨by omega, ⟨ob, ?_⟩, h3⟩
      rw [show i - n = (i - (n + 1)) + 1 by omega]; simpa using h2

theorem layObs_get {ρ : List (Nat × Nat)} {f : Nat → Nat} : ∀ {os : List (Option Ob)} {i : Nat} {hp : Nat → Option Ob} {k : Nat} {ob : Ob}, layObs ρ f i os hp k = some ob →
    (∃ j ob0, os[j]? = some (some ob0) ∧ k = f (i + j) ∧ ob = ob0.ren ρ) ∨ (hp k = some ob ∧ ∀ j, j < os.length → k ≠ f (i + j))
  | [], i, hp, k, ob, h => .inr ⟨h, fun j hj => by simp at hj⟩
  | o :: os, i, hp, k, ob, h => by
    simp only [layObs] at h
    rcases layObs_get h with ⟨j, ob0, h1, h2, h3⟩ | ⟨h1, h2⟩
    · exact .inl ⟨j + 1, ob0, by simpa using h1, by rw [h2]; congr 1; omega, h3⟩
    · cases e : Nat.beq k (f i) with
      | true =>
        rw [e, cond_true] at h1
        obtain ⟨ob0, h3, h4⟩ := Option.map_eq_some_iff.1 h1
        exact .inl ⟨0, ob0, by simp [h3], Nat.eq_of_beq_eq_true e, h4.symm⟩
      | false =>
        rw [e, cond_false] at h1
        refine .inr ⟨h1, fun j hj => ?_⟩
        cases j with
        | zero => exact Nat.ne_of_beq_eq_false e
        | succ j => have := h2 j (by simpa using hj); rwa [show i + 1 + j = i + (j + 1) by omega] at this

theorem obsOf_get {hp : Nat → Option Ob} {ρ : List (Nat × Nat)} : ∀ {ks : List Nat} {os : List Ob}, obsOf hp ρ ks = some os → os.length = ks.length ∧ ∀ (i : Nat) k, ks[i]? = some k → ∃ o, hp k = some o ∧ os[i]? = some (o.ren ρ)
  | [], os, h => by simp only [obsOf, Option.some.injEq] at h; subst h; exact ⟨rfl, fun i k h => by simp at h⟩
  | k :: ks, os, h => by
    simp only [obsOf] at h
    split at h
    · rename_i o os1 h1 h2
      cases h
      obtain ⟨a1, a2⟩ := obsOf_get h2
      refine ⟨by simp [a1], fun i k' hk => ?_⟩
      cases i with
      | zero => simp at hk; subst hk; exact ⟨o, h1, by simp⟩
      | succ i => simpa using a2 i k' (by simpa using hk)
    · cases h

theorem renAll_eq {ρ : List (Nat × Nat)} : ∀ (l : List AV), AV.renAll ρ l = l.map (AV.ren ρ)
  | [] => rfl
  | x :: l => by simp [AV.renAll, renAll_eq l]
theorem renAll_flatten {ρ : List (Nat × Nat)} : ∀ (rows : List (List AV)), (rows.map (AV.renAll ρ)).flatten = rows.flatten.map (AV.ren ρ)
  | [] => rfl
  | r :: rows => by simp [renAll_eq, renAll_flatten rows, List.map_append]
theorem ObAt.mv {c1 c2 : Cx} {G : Nat → Prop} {w : World} {β : Nat → Value} {v : Value} {o : Ob} (hm : ∀ b, blk v = some b → c1.mine b → c2.mine b) (h : ObAt c1 G w β v o) : ObAt c2 G w β v o := by
  cases o with
  | box xs =>
    obtain ⟨b, e, cur, q1, q2, q3, q4, q5, q6⟩ := h
    exact ⟨b, e, cur, q1, q2, q3, hm b (by rw [q1]; rfl) q4, q5, q6⟩
  | row e sz rows =>
    obtain ⟨h1, h2, h3⟩ := h
    refine ⟨h1, h2, h3.imp id ?_⟩
    rintro ⟨b, cap, cur, k1, k2, k3, k4, k5, k6, k7⟩
    exact ⟨b, cap, cur, k1, k2, k3, k4, k5, hm b (by rw [k1]; rfl) k6, k7⟩
  | arow e sz rows => exact h.moveA (fun _ _ _ h => h) (fun _ _ _ _ h => h) hm (fun _ _ _ _ h => h)

theorem ObAt.ren {c1 c2 : Cx} {G : Nat → Prop} {w : World} {β β' : Nat → Value} {ρ : List (Nat × Nat)} (hb : ∀ k j, look k ρ = some j → β' j = β k) {v : Value} {o : Ob} (hm : ∀ b, blk v = some b → c1.mine b → c2.mine b)
    (h : ObAt c1 G w β v o) : ObAt c2 G w β' v (o.ren ρ) := by
  cases o with
  | box xs =>
    obtain ⟨b, e, cur, q1, q2, q3, q4, q5, q6⟩ := h
    exact ⟨b, e, cur, q1, q2, q3, hm b (by rw [q1]; rfl) q4, q5.ren hb, q6⟩
  | row e sz rows =>
    obtain ⟨h1, h2, h3⟩ := h
    refine ⟨h1, h2, h3.imp id ?_⟩
    rintro ⟨b, cap, cur, k1, k2, k3, k4, k5, k6, k7⟩
    exact ⟨b, cap, cur, k1, k2, k3, k4, k5, hm b (by rw [k1]; rfl) k6, k7⟩
  | arow e sz rows =>
    obtain ⟨h1, h2, h3⟩ := h
    refine ⟨fun r hr => by obtain ⟨r', hr', rfl⟩ := List.mem_map.1 hr; rw [renAll_eq, List.length_map]; exact h1 r' hr', h2, h3.imp (fun h => ⟨h.1, by rw [h.2]; rfl⟩) ?_⟩
    rintro ⟨b, cap, cur, k1, k2, k3, k4, k5, k6, k7⟩
    refine ⟨b, cap, cur, by rw [List.length_map]; exact k1, by rw [List.length_map]; exact k2, k3, k4, k5, hm b (by rw [k1]; rfl) k6, fun i x hi => ?_⟩
    rw [renAll_flatten, List.getElem?_map] at hi
    obtain ⟨y, hy, rfl⟩ := Option.map_eq_some_iff.1 hi
    obtain ⟨u, hu, hr, h1⟩ := k7 i y hy
    exact ⟨u, hu, hr.ren hb, h1⟩

mutual
theorem AV.ren_lt {ρ : List (Nat × Nat)} {n : Nat} (h : ∀ k j, look k ρ = some j → j < n) : ∀ {x : AV}, (x.ren ρ).lt n = true
  | .s _ => rfl
  | .nl _ => rfl
  | .agg xs => by simp only [AV.ren, AV.lt]; exact AV.renAll_lt h
  | .tup xs => by simp only [AV.ren, AV.lt]; exact AV.renAll_lt h
  | .clo _ xs => by simp only [AV.ren, AV.lt]; exact AV.renAll_lt h
  | .op k o => by
    simp only [AV.ren]
    split
    · rename_i j hj; simp only [AV.lt, decide_eq_true_eq]; exact h k j hj
    · rfl
  | .orow k => by
    simp only [AV.ren]
    split
    · rename_i j hj; simp only [AV.lt, decide_eq_true_eq]; exact h k j hj
    · rfl
  | .rp k _ _ _ => by
    simp only [AV.ren]
    split
    · rename_i j hj; simp only [AV.lt, decide_eq_true_eq]; exact h k j hj
    · rfl
  | .junk => rfl
theorem AV.renAll_lt {ρ : List (Nat × Nat)} {n : Nat} (h : ∀ k j, look k ρ = some j → j < n) : ∀ {xs : List AV}, AV.ltAll n (AV.renAll ρ xs) = true
  | [] => rfl
  | x :: xs => by simp only [AV.renAll, AV.ltAll, Bool.and_eq_true]; exact ⟨AV.ren_lt h, AV.renAll_lt h⟩
end
theorem Ob.ren_lt {ρ : List (Nat × Nat)} {n : Nat} (h : ∀ k j, look k ρ = some j → j < n) {o : Ob} : (o.ren ρ).lt n = true := by
  cases o with
  | box xs => simp only [Ob.ren, Ob.lt]; exact AV.renAll_lt h
  | row => rfl
  | arow e sz rows =>
    simp only [Ob.ren, Ob.lt]
    exact ltAll_mk' fun q y hq => by
      rw [renAll_flatten, List.getElem?_map] at hq
      obtain ⟨z, _, rfl⟩ := Option.map_eq_some_iff.1 hq
      exact AV.ren_lt h


/-- What the callee leaves of the objects that it was handed, and of new ones. -/
theorem Conc.handed (hc : Conc c G β σ a w) {ks : List Nat} {os : List Ob} {os' : List (Option Ob)} (hd : ks.Nodup) (hks : ∀ (i : Nat) k, ks[i]? = some k → ∃ ob, σ.hp k = some ob) (hlen : os.length = ks.length)
    {G' : Nat → Prop} {β1 β' : Nat → Value} {w' : World} (hβ : ∀ (i : Nat) k, ks[i]? = some k → β1 i = β k) (h1 : Fr (ownCx c.P w β1 os.length G 0).X w w') (h2 : ∀ b, G b → G' b) (h3 : ∀ b, G' b → G b ∨ (ownCx c.P w β1 os.length G 0).mine b) (h4 : ∀ b, G' b → b < w'.heap.size)
    (h5 : os.length ≤ os'.length) (h6 : ObsAt (ownCx c.P w β1 os.length G 0) G' w' β' os') (h7 : ∀ (i : Nat) ob, i < os.length → os'[i]? = some (some ob) → β' i = β1 i) :
    ∃ β2, (∀ k j, look k (backL ks σ.nx 0 os') = some j → β2 j = β' k) ∧ (∀ k, k < σ.nx → β2 k = β k) ∧ Conc c G' β2 (handed σ ks os') a w' := by
  have hX : ∀ b, (ownCx c.P w β1 os.length G 0).X b → ∃ k ob, k ∈ ks ∧ σ.hp k = some ob ∧ blk (β k) = some b := fun b ⟨i, hi, hb⟩ => by
    have hk := List.getElem?_eq_getElem (l := ks) (by rw [← hlen]; exact hi)
    obtain ⟨ob, ho⟩ := hks i _ hk
    exact ⟨ks[i]'(by rw [← hlen]; exact hi), ob, List.getElem_mem _, ho, by rw [← hβ i _ hk]; exact hb⟩
  have hXG : ∀ b, G b → ¬ (ownCx c.P w β1 os.length G 0).X b := fun b hg hx => by
    obtain ⟨k, ob, _, ho, hb⟩ := hX b hx
    exact (row_block (hc.hp k ob ho) b hb).1 hg
  have hmine : ∀ b, (ownCx c.P w β1 os.length G 0).mine b → c.mine b := fun b hm => by
    rcases hm with hm | hm
    · obtain ⟨k, ob, _, ho, hb⟩ := hX b hm
      exact (row_block (hc.hp k ob ho) b hb).2
    · exact .inr (Nat.le_trans hc.fr.size hm)
  have hksl : ∀ (i : Nat) k, ks[i]? = some k → k < σ.nx := fun i k hk => by
    obtain ⟨ob, ho⟩ := hks i k hk
    exact (hc.hplt k ob ho).1
  have keep : Keep G G' w w' := ⟨h2, fun b hb => h1.old b (hc.lt b hb) (hXG b hb)⟩
  refine ⟨fun k => if k < σ.nx then β k else β' (ks.length + (k - σ.nx)), fun k j hkj => ?_, fun k hk => if_pos hk, ?_⟩
  · obtain ⟨_, ⟨ob, hob⟩, rfl⟩ := look_backL hkj
    rw [Nat.sub_zero] at hob
    dsimp only
    by_cases hi : k < ks.length
    · have hb := backK_lt (ks := ks) (nx := σ.nx) hi
      rw [if_pos (hksl k _ hb), h7 k ob (by rw [hlen]; exact hi) hob, hβ k _ hb]
    · rw [backK_ge (by omega), if_neg (by omega)]
      congr 1; omega
  · have hβ2 : ∀ k, k < σ.nx → (fun k => if k < σ.nx then β k else β' (ks.length + (k - σ.nx))) k = β k := fun k hk => if_pos hk
    have hbk : ∀ j, j < os'.length → backK ks σ.nx j < σ.nx + (os'.length - ks.length) := fun j hj => by
      by_cases hi : j < ks.length
      · have := hksl j _ (backK_lt (ks := ks) (nx := σ.nx) hi); omega
      · rw [backK_ge (by omega)]; omega
    have hal : ∀ j ob0, os'[j]? = some (some ob0) → (if backK ks σ.nx j < σ.nx then β (backK ks σ.nx j) else β' (ks.length + (backK ks σ.nx j - σ.nx))) = β' j := fun j ob0 hj => by
      by_cases hi : j < ks.length
      · have hb := backK_lt (ks := ks) (nx := σ.nx) hi
        rw [if_pos (hksl j _ hb), h7 j ob0 (by rw [hlen]; exact hi) hj, hβ j _ hb]
      · rw [backK_ge (by omega), if_neg (by omega)]
        congr 1; omega
    have hinj : ∀ i j, i < os'.length → j < os'.length → backK ks σ.nx i = backK ks σ.nx j → i = j := fun i j hi hj e => by
      by_cases h8 : i < ks.length <;> by_cases h9 : j < ks.length
      · have q1 := backK_lt (ks := ks) (nx := σ.nx) h8
        have q2 := backK_lt (ks := ks) (nx := σ.nx) h9
        rw [← e, ← q1] at q2
        exact (List.getElem?_inj h8 hd).1 q2.symm
      · have q1 := hksl i _ (backK_lt (ks := ks) (nx := σ.nx) h8)
        rw [e, backK_ge (by omega)] at q1; omega
      · have q1 := hksl j _ (backK_lt (ks := ks) (nx := σ.nx) h9)
        rw [← e, backK_ge (by omega)] at q1; omega
      · rw [backK_ge (by omega), backK_ge (by omega)] at e; omega
    have hold : ∀ k ob, σ.hp k = some ob → (∀ j, j < os'.length → k ≠ backK ks σ.nx (0 + j)) → k ∉ ks := fun k ob _ hn hm => by
      obtain ⟨i, hi, rfl⟩ := List.getElem_of_mem hm
      have hil : i < os'.length := by omega
      have := backK_lt (ks := ks) (nx := σ.nx) hi
      rw [List.getElem?_eq_getElem hi] at this
      refine hn i hil ?_
      rw [Nat.zero_add]
      exact (Option.some.inj this)
    have hoth : ∀ k ob, σ.hp k = some ob → k ∉ ks → ∀ b, blk (β k) = some b → w'.heap[b]? = w.heap[b]? ∧ ¬ G' b ∧ ¬ (ownCx c.P w β1 os.length G 0).mine b := fun k ob hk hn b hb => by
      have hx : ¬ (ownCx c.P w β1 os.length G 0).X b := fun hx => by
        obtain ⟨k2, ob2, q1, q2, q3⟩ := hX b hx
        exact hc.inj k k2 ob ob2 hk q2 (fun e => hn (e ▸ q1)) b hb q3
      have hlt := hc.blk_lt hk hb
      have hm : ¬ (ownCx c.P w β1 os.length G 0).mine b := fun hm => hm.elim hx (fun h => by simp only [ownCx] at h; omega)
      exact ⟨h1.old b hlt hx, fun hg => (h3 b hg).elim (row_block (hc.hp k ob hk) b hb).1 hm, hm⟩
    refine { defers := hc.defers, size := hc.size, env := fun t => ((hc.env t).keep keep).beta hβ2 (hc.envlt t), envlt := fun t => AV.lt_mono (Nat.le_add_right _ _) (hc.envlt t), hp := fun k ob hk => ?_, hplt := fun k ob hk => ?_, inj := fun k k2 ob ob2 hk hk2 hne b hb hb2 => ?_, lt := h4, sub := fun b hb => h2 b (hc.sub b hb), new := fun b hb => (h3 b hb).elim (hc.new b) (fun h => .inr (hmine b h)), fr := ?_, stay := ⟨Nat.le_trans hc.stay.1 (Nat.le_add_right _ _), fun k hk => by rw [if_pos (Nat.lt_of_lt_of_le hk hc.stay.1)]; exact hc.stay.2 k hk⟩, glob := hc.glob.keep keep }
    · rcases layObs_get hk with ⟨j, ob0, q1, q2, rfl⟩ | ⟨q1, q2⟩
      · rw [Nat.zero_add] at q2
        subst q2
        rw [hal j ob0 q1]
        refine ObAt.ren (fun i k hik => ?_) (fun b _ hm => hmine b hm) (h6.1 j ob0 q1).1
        obtain ⟨_, ⟨ob, hob⟩, rfl⟩ := look_backL hik
        exact hal i ob (by simpa using hob)
      · have hn := hold k ob q1 q2
        have hkl := (hc.hplt k ob q1)
        rw [if_pos hkl.1]
        have ho := hc.hp k ob q1
        cases ob with
        | box cells =>
          obtain ⟨b', e', cur, r1, r2, r3, r4, r5, r6⟩ := ho
          obtain ⟨s1, s2, _⟩ := hoth k _ q1 hn b' (by rw [r1]; rfl)
          exact ⟨b', e', cur, r1, by rw [s1]; exact r2, s2, r4, (r5.keep keep).beta hβ2 (by simpa [Ob.lt] using hkl.2), r6⟩
        | row e' sz rows =>
          obtain ⟨r0, r0', r1⟩ := ho
          refine ⟨r0, r0', r1.imp id ?_⟩
          rintro ⟨b', cap, cur, r1, r2, r3, r4, r5, r6, r7⟩
          obtain ⟨s1, s2, _⟩ := hoth k _ q1 hn b' (by rw [r1]; rfl)
          exact ⟨b', cap, cur, r1, r2, r3, by rw [s1]; exact r4, s2, r6, fun i s hi => let ⟨u, hu, hr⟩ := r7 i s hi; ⟨u, hu, hr.keep keep⟩⟩
        | arow e' sz rows => exact ho.moveA (fun b _ hb hx => by rw [(hoth k _ q1 hn b hb).1]; exact hx) (fun b _ hb _ _ => (hoth k _ q1 hn b hb).2.1) (fun _ _ h => h) (fun i x u hx hr => (hr.keep keep).beta hβ2 (ltAll_get' (by simpa [Ob.lt] using hkl.2) hx))
    · rcases layObs_get hk with ⟨j, ob0, q1, q2, rfl⟩ | ⟨q1, q2⟩
      · rw [Nat.zero_add] at q2
        subst q2
        have hj : j < os'.length := (List.getElem?_eq_some_iff.1 q1).1
        exact ⟨hbk j hj, Ob.ren_lt fun i k hik => by obtain ⟨_, ⟨ob, hi⟩, rfl⟩ := look_backL hik; exact hbk i (by simpa using (List.getElem?_eq_some_iff.1 hi).1)⟩
      · obtain ⟨r1, r2⟩ := hc.hplt k ob q1
        refine ⟨Nat.lt_of_lt_of_le r1 (Nat.le_add_right _ _), ?_⟩
        cases ob with
        | box cells => exact AV.ltAll_mono (Nat.le_add_right _ _) (by simpa [Ob.lt] using r2)
        | row => rfl
        | arow => exact AV.ltAll_mono (Nat.le_add_right _ _) (by simpa [Ob.lt] using r2)
    · rcases layObs_get hk with ⟨j, ob0, q1, q2, rfl⟩ | ⟨q1, q2⟩ <;> rcases layObs_get hk2 with ⟨j2, ob02, q12, q22, rfl⟩ | ⟨q12, q22⟩
      · rw [Nat.zero_add] at q2 q22
        subst q2; subst q22
        rw [hal j ob0 q1] at hb
        rw [hal j2 ob02 q12] at hb2
        exact h6.2 j j2 ob0 ob02 q1 q12 (fun e => hne (by rw [e])) b hb hb2
      · rw [Nat.zero_add] at q2
        subst q2
        rw [hal j ob0 q1] at hb
        rw [if_pos (hc.hplt k2 ob2 q12).1] at hb2
        exact (hoth k2 ob2 q12 (hold k2 ob2 q12 q22) b hb2).2.2 (row_block (h6.1 j ob0 q1).1 b hb).2
      · rw [Nat.zero_add] at q22
        subst q22
        rw [hal j2 ob02 q12] at hb2
        rw [if_pos (hc.hplt k ob q1).1] at hb
        exact (hoth k ob q1 (hold k ob q1 q2) b hb).2.2 (row_block (h6.1 j2 ob02 q12).1 b hb2).2
      · rw [if_pos (hc.hplt k ob q1).1] at hb
        rw [if_pos (hc.hplt k2 ob2 q12).1] at hb2
        exact hc.inj k k2 ob ob2 q1 q12 hne b hb hb2
    · refine ⟨h1.os.trans hc.fr.os, h1.tape.trans hc.fr.tape, h1.output.trans hc.fr.output, Nat.le_trans hc.fr.size h1.size, fun b hb hx => (h1.old b (Nat.lt_of_lt_of_le hb hc.fr.size) (fun hm => ?_)).trans (hc.fr.old b hb hx)⟩
      rcases hmine b (.inl hm) with h | h
      · exact hx h
      · omega

/-- What a function leaves that was handed all own objects. -/
theorem Conc.heaped (hc : Conc c G β σ a w) {G' : Nat → Prop} {β' : Nat → Value} {hp' : Nat → Option Ob} {n' : Nat} {w' : World} (h0 : σ.nx ≤ n') (h1 : Fr (heapCx c.P w β σ.hp σ.nx G 0).X w w') (h2 : ∀ b, G b → G' b)
    (h3 : ∀ b, G' b → G b ∨ (heapCx c.P w β σ.hp σ.nx G 0).mine b) (h4 : ∀ b, G' b → b < w'.heap.size) (h5 : HpAt (heapCx c.P w β σ.hp σ.nx G 0) G' w' β' hp' n') (h6 : ∀ k, k < σ.nx → β' k = β k) : Conc c G' β' ⟨σ.env, hp', n'⟩ a w' := by
  have hm : ∀ b, (heapCx c.P w β σ.hp σ.nx G 0).mine b → c.mine b := fun b hm => by
    rcases hm with ⟨k, ob, q1, q2⟩ | hm
    · exact (row_block (hc.hp k ob q1) b q2).2
    · exact .inr (Nat.le_trans hc.fr.size hm)
  have k : Keep G G' w w' := ⟨h2, fun b hb => h1.old b (hc.lt b hb) (fun ⟨k, ob, q1, q2⟩ => (row_block (hc.hp k ob q1) b q2).1 hb)⟩
  refine { defers := hc.defers, size := hc.size, env := fun t => ((hc.env t).keep k).beta h6 (hc.envlt t), envlt := fun t => AV.lt_mono h0 (hc.envlt t), hp := fun k ob hk => (h5.obs k ob hk).mv fun b _ hb => hm b hb, hplt := h5.lts, inj := h5.inj, lt := h4, sub := fun b hb => h2 b (hc.sub b hb), new := fun b hb => (h3 b hb).elim (hc.new b) (fun h => .inr (hm b h)), fr := ?_, stay := ⟨Nat.le_trans hc.stay.1 h0, fun k hk => (h6 k (Nat.lt_of_lt_of_le hk hc.stay.1)).trans (hc.stay.2 k hk)⟩, glob := hc.glob.keep k }
  refine ⟨h1.os.trans hc.fr.os, h1.tape.trans hc.fr.tape, h1.output.trans hc.fr.output, Nat.le_trans hc.fr.size h1.size, fun b hb hx => (h1.old b (Nat.lt_of_lt_of_le hb hc.fr.size) (fun hx' => ?_)).trans (hc.fr.old b hb hx)⟩
  rcases hm b (.inl hx') with h | h
  · exact hx h
  · omega
theorem Conc.hpAt (hc : Conc c G β σ a w) : HpAt (heapCx c.P w β σ.hp σ.nx G 0) G w β σ.hp σ.nx :=
  ⟨fun k ob hk => (hc.hp k ob hk).mv fun b hb _ => .inl ⟨k, ob, hk, hb⟩, hc.hplt, hc.inj⟩

theorem opds_lt {T : Nat → Option TI} {σ : St} (h : ∀ t, (σ.env t).lt σ.nx = true) : ∀ (xs : List Operand) (ts : List Nat), AV.ltAll σ.nx (opds T σ.env xs ts) = true
  | [], _ => rfl
  | x :: xs, ts => by
    simp only [opds, AV.ltAll, Bool.and_eq_true]
    exact ⟨AV.deep_lt (opd_lt h T _ x), opds_lt h xs ts.tail⟩
theorem ltAll_app {n : Nat} : ∀ {xs ys : List AV}, AV.ltAll n xs = true → AV.ltAll n ys = true → AV.ltAll n (xs ++ ys) = true
  | [], _, _, h => h
  | x :: xs, ys, h1, h2 => by
    simp only [List.cons_append, AV.ltAll, Bool.and_eq_true] at h1 ⊢
    exact ⟨h1.1, ltAll_app h1.2 h2⟩
theorem AVals.setrow {G : Nat → Prop} {w : World} {β : Nat → Value} {k j : Nat} {v : Value} (hv : β j = v) (ho : ∃ o n c, v = .slice o n c) : ∀ {xs : List AV} {vs : List Value}, AVals G w β xs vs → vs[k]? = some v → AVals G w β (xs.set k (.orow j)) vs := fun {xs vs} h hk =>
  AVals.mk (by rw [List.length_set]; exact h.length) fun i x u hx hu => by
    rw [List.getElem?_set] at hx
    split at hx
    · rename_i e
      subst e
      split at hx
      · cases hx
        rw [hk] at hu; cases hu
        simp only [AVal]
        exact ⟨hv.symm, ho⟩
      · cases hx
    · obtain ⟨u', h1, h2⟩ := h.get hx
      rw [hu] at h1; cases h1; exact h2
theorem nilArg_sound {T : Nat → Option TI} (hc : Conc c G β σ a w) {nil : Option Nat} {o : Oper} {xs xs1 : List AV} {σ1 : St} {vs : List Value} (hargs : AVals G w β xs vs) (hlt : AV.ltAll σ.nx xs = true)
    (hvs : ∀ cal args ts (k : Nat) x, o.op = .call { callee := cal, args := args, argTypes := ts } → args.toList[k]? = some x → vs[k]? = some (a.eval x)) (h : nilArg T nil o xs σ = (xs1, σ1)) :
    ∃ β1, Conc c G β1 σ1 a w ∧ AVals G w β1 xs1 vs := by
  unfold nilArg at h
  split at h
  · cases h; exact ⟨β, hc, hargs⟩
  · rename_i k
    split at h
    · rename_i cal args ts ho
      split at h
      · rename_i x e j hx he
        split at h
        · rename_i hn hs
          cases h
          have hv := hvs _ _ _ k x ho hx
          have hy : a.eval x = .slice none 0 0 := by
            unfold isNilConst at hn
            split at hn
            · rfl
            · cases hn
          rw [hy] at hv
          obtain ⟨β', b1, b2, b3⟩ := hc.make (ob := .row e j.size []) (v := .slice none 0 0) ⟨fun r hr => (by cases hr), Nat.le_of_ble_eq_true hs, .inl ⟨rfl, rfl⟩⟩ rfl (fun _ _ _ b hb => by cases hb)
          exact ⟨β', b3, AVals.setrow b2 ⟨_, _, _, rfl⟩ (hargs.beta b1 hlt) hv⟩
        · cases h; exact ⟨β, hc, hargs⟩
      · cases h; exact ⟨β, hc, hargs⟩
    · cases h; exact ⟨β, hc, hargs⟩

theorem callL_sound {T : Nat → Option TI} {Γ : Nat → Option PSpec} (hT : TOk c.P T) (hΓ : ∀ f s, Γ f = some s → PSound c.P f s) (hc : Conc c G β σ a w) {o : Oper} {own : Bool} {K0 : AV → St → Prop} (h : callL T Γ own o σ K0) {K : Act → World → Prop} {Q : Exit → Act → World → Prop}
    (hK : ∀ x σ' G' β' w' v, K0 x σ' → Conc c G' β' σ' a w' → AVal G' w' β' x v → x.lt σ'.nx = true → K (a.put o.dst v) w') : o.wp c.P a w K Q := by
  have hρ : ∀ ty x, AVal G w β (opd T σ.env ty x) (a.eval x) := opd_rep hc T
  unfold callL at h
  split at h
  · unfold loadL at h
    split at h
    · rename_i t y ho
      split at h
      · rename_i k sz i off e
        split at h
        · rename_i e' sz' rows hh
          split at h
          · rename_i hsz
            obtain rfl := Nat.eq_of_beq_eq_true hsz
            obtain ⟨hi, row, hrow, h⟩ := h
            split at h
            · rename_i x hl
              rw [← hrow] at hl
              exact load_rp hT hc ho e hh hi hl fun v h1 h2 => hK x σ G β w v h hc h1 h2
            · exact h.elim
          · exact h.elim
        · rename_i e' sz' rows hh
          split at h
          · rename_i hsz
            obtain rfl := Nat.eq_of_beq_eq_true hsz
            obtain ⟨hi, row, hrow, h⟩ := h
            split at h
            · rename_i x hl
              rw [← hrow] at hl
              exact load_rpA hT hc ho e hh hi hl fun v h1 h2 => hK x σ G β w v h hc h1 h2
            · exact h.elim
          · exact h.elim
        · exact h.elim
      · exact h.elim
    · exact h.elim
  · rename_i g xs hraw
    unfold rawCall at hraw
    split at hraw
    · rename_i f args ts ho
      have hpre : ∃ vs : List Value, AVals G w β xs vs ∧ AV.ltAll σ.nx xs = true ∧ (∀ cal args ts (k : Nat) x, o.op = .call { callee := cal, args := args, argTypes := ts } → args.toList[k]? = some x → vs[k]? = some (a.eval x)) ∧ ∀ (hcall : ∀ args w, (callFunc g args).run c.P w = .ok (.enter g args) w), (execOp a.eval o).run c.P w = .ok (.enter g vs.toArray) w := by
        have hargs := opds_rep hρ args.toList ts.toList
        split at hraw
        · rename_i g' e
          cases hraw
          have hfe := hρ 0 f
          rw [e] at hfe
          simp only [AVal, Rep] at hfe
          refine ⟨_, hargs, opds_lt hc.envlt _ _, fun cal args' ts' k x ho' hx => by rw [ho] at ho'; cases ho'; rw [List.getElem?_map, hx]; rfl, fun hcall => ?_⟩
          have e : (args.toList.map a.eval).toArray = args.map a.eval := Array.ext' (by simp)
          rw [e]
          simp [execOp, ho, resolve, hfe, Deferred.ofValue, invoke, hcall]
        · rename_i g' caps e
          cases hraw
          have hfe := hρ 0 f
          rw [e] at hfe
          simp only [AVal] at hfe
          obtain ⟨cs, hfe, hcs⟩ := hfe
          have hcl : (opd T σ.env 0 f).lt σ.nx = true := opd_lt hc.envlt T 0 f
          rw [e] at hcl
          simp only [AV.lt] at hcl
          refine ⟨args.toList.map a.eval ++ cs, hargs.append hcs, ltAll_app (opds_lt hc.envlt _ _) hcl, fun cal args' ts' k x ho' hx => by
            rw [ho] at ho'; cases ho'
            have hk : k < (args.toList.map a.eval).length := by rw [List.length_map]; exact (List.getElem?_eq_some_iff.1 hx).1
            rw [List.getElem?_append_left hk, List.getElem?_map, hx]; rfl, fun hcall => ?_⟩
          have e : (args.toList.map a.eval ++ cs).toArray = args.map a.eval ++ cs.toArray := Array.ext' (by simp)
          rw [e]
          simp [execOp, ho, resolve, hfe, Deferred.ofValue, invoke, hcall]
        · cases hraw
      obtain ⟨vs, hargs, hxl, hvs, hex⟩ := hpre
      · clear hraw
        split at h
        · exact h.elim
        · rename_i s hs
          obtain ⟨hcall, hsound, hown, hheap⟩ := hΓ g s hs
          have hexec := hex hcall
          unfold Oper.wp
          rw [hexec]
          simp only [Oper.upon_enter]
          split at h
          · rename_i R hR
            obtain ⟨Φ, hΦ, h⟩ := h
            refine (hheap R hR G w β xs vs σ.hp σ.nx Φ hc.lt hc.glob hargs hxl hc.hpAt hΦ).mono fun e w' he => ?_
            obtain ⟨v, G', β', x, hp', n', rfl, q1, q2, q3, q4, q5, q6, q7, q8, q9, q10⟩ := he
            exact hK x _ G' β' w' v (h x hp' n' q1) (hc.heaped q2 q3 q4 q5 q6 q9 q10) q7 q8
          split at h
          · split at h
            · exact h.elim
            · rename_i hp
              obtain ⟨r, hr, h⟩ := h
              have hl := AVals.lend hc (ks := AV.keysAll xs) (fun _ h => h) hargs
              refine (hsound (lentG G β σ (AV.keysAll xs)) w _ _ r (hc.giveAll (AV.keysAll xs)).lt (hc.giveAll (AV.keysAll xs)).glob hp (AVals.pers hp hl) hr).mono fun e w' he => ?_
              obtain ⟨v, G', rfl, h1, h2⟩ := he
              cases hfl : r.flat with
              | true =>
                rw [hfl] at h
                dsimp only at h
                split at h
                · exact h.elim
                · rename_i x σ' hx
                  have hext : Ext G G w w' := ⟨h1.os, h1.tape, h1.output, h1.size, h1.old, fun _ h => h, fun _ h => .inl h, fun b hb => Nat.lt_of_lt_of_le (hc.lt b hb) h1.size⟩
                  exact after_sound hc hext (RetAt.flat (G1 := G) (fun b hb => h1.sub b (.inl hb)) hfl h2) hx fun G' β' w'' v' e1 e2 h3 h4 h5 => by subst e1; subst e2; exact hK x σ' G' β' _ _ h h3 h4 h5
              | false =>
                rw [hfl] at h
                dsimp only at h
                split at h
                · exact h.elim
                · rename_i x σ' hx
                  exact after_sound (hc.giveAll (AV.keysAll xs)) h1 h2 hx fun G' β' w'' v' e1 e2 h3 h4 h5 => by subst e1; subst e2; exact hK x σ' G' β' _ _ h h3 h4 h5
          · rename_i R hR
            cases hna : nilArg T s.nil o xs σ with
            | mk xs1 σ1 =>
            rw [hna] at h
            dsimp only at h
            obtain ⟨β1, hc1, hargs1⟩ := nilArg_sound hc hargs hxl hvs hna
            clear hna hargs hxl hc hρ
            revert hc1 hargs1 h
            generalize σ1 = σ
            generalize β1 = β
            generalize xs1 = xs
            intro h hc hargs
            generalize closeKeys σ.hp 64 (AV.keysAll xs) [] = ks at h
            split at h
            · rename_i os hd hos
              obtain ⟨x, os', hR', h⟩ := h
              obtain ⟨l1, l2⟩ := obsOf_get hos
              have hb : ∀ k j, look k (zipI 0 ks) = some j → (fun i => β (ks.getD i 0)) j = β k := fun k j hkj => by
                obtain ⟨_, h2⟩ := look_zipI hkj
                simp only [Nat.sub_zero] at h2
                simp [h2]
              have hlt : ∀ k j, look k (zipI 0 ks) = some j → j < os.length := fun k j hkj => by
                obtain ⟨_, h2⟩ := look_zipI hkj
                rw [l1]; simpa using (List.getElem?_eq_some_iff.1 h2).1
              have hget : ∀ (i : Nat) k, ks[i]? = some k → (fun i => β (ks.getD i 0)) i = β k := fun i k hk => by simp [hk]
              have hnod := distinct_nodup hd
              have hobs : ObsAt (ownCx c.P w (fun i => β (ks.getD i 0)) os.length G 0) G w (fun i => β (ks.getD i 0)) (os.map some) := by
                have hk : ∀ (i : Nat) ob, (os.map some)[i]? = some (some ob) → ∃ k o, ks[i]? = some k ∧ σ.hp k = some o ∧ ob = o.ren (zipI 0 ks) := fun i ob hi => by
                  rw [List.getElem?_map] at hi
                  obtain ⟨ob', hi', e⟩ := Option.map_eq_some_iff.1 hi
                  cases e
                  have hil : i < ks.length := by rw [← l1]; exact (List.getElem?_eq_some_iff.1 hi').1
                  obtain ⟨o, q1, q2⟩ := l2 i _ (List.getElem?_eq_getElem hil)
                  rw [hi'] at q2; cases q2
                  exact ⟨_, o, List.getElem?_eq_getElem hil, q1, rfl⟩
                refine ⟨fun i ob hi => ?_, fun i j ob ob' hi hj hne b hb1 hb2 => ?_⟩
                · obtain ⟨k, o, q1, q2, rfl⟩ := hk i ob hi
                  rw [hget i k q1]
                  refine ⟨ObAt.ren hb (fun b hb' _ => .inl ⟨i, by rw [l1]; exact (List.getElem?_eq_some_iff.1 q1).1, by have := hget i k q1; dsimp only at this ⊢; rw [this]; exact hb'⟩) (hc.hp k o q2), ?_⟩
                  rw [List.length_map]
                  exact Ob.ren_lt hlt
                · obtain ⟨k, o, q1, q2, rfl⟩ := hk i ob hi
                  obtain ⟨k', o', q1', q2', rfl⟩ := hk j ob' hj
                  rw [hget i k q1] at hb1
                  rw [hget j k' q1'] at hb2
                  refine hc.inj k k' o o' q2 q2' (fun e => hne ?_) b hb1 hb2
                  subst e
                  exact (List.getElem?_inj (List.getElem?_eq_some_iff.1 q1).1 hnod).1 (q1.trans q1'.symm)
              refine (hown R hR G w _ _ _ os x os' hc.lt hc.glob (AVals.ren hb hargs) (AV.renAll_lt hlt) hobs hR').mono fun e w' he => ?_
              obtain ⟨v, G', β', rfl, h1, h2, h3, h4, h5, h6, h7, h8, h9⟩ := he
              obtain ⟨β2, r1, r2, r3⟩ := hc.handed hnod (fun i k hk => (l2 i k hk).imp fun o h => h.1) l1 hget h1 h2 h3 h4 h7 h8 h9
              exact hK _ _ G' β2 w' v h r3 (AVal.ren r1 h5) (AV.ren_lt fun i k hik => by
                obtain ⟨_, ⟨ob, hob⟩, rfl⟩ := look_backL hik
                rw [Nat.sub_zero] at hob
                have hj : i < os'.length := (List.getElem?_eq_some_iff.1 hob).1
                show backK ks σ.nx i < σ.nx + (os'.length - ks.length)
                by_cases hi : i < ks.length
                · have hb' := backK_lt (ks := ks) (nx := σ.nx) hi
                  obtain ⟨o, q1, _⟩ := l2 i _ hb'
                  have := (hc.hplt _ o q1).1; omega
                · rw [backK_ge (by omega)]; omega)
            · exact h.elim
    · cases hraw

end
end Go.Abs
