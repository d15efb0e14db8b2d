/-
  THE ABSTRACT MACHINE, PART T: everything that a frame owns is given up at once.
-/
import Derived.Test.YtefbmooajknmgaaDoorAbsS
set_option linter.unusedVariables false
namespace Go.Abs

/-- What a value reads as, once all own objects are given up. -/
inductive Rd (hp : Nat → Option Ob) : AV → S → Prop
  | s (x : S) : Rd hp (.s x) x
  | nl (sz : Nat) : Rd hp (.nl sz) (.sl sz [])
  | row {k e sz : Nat} {rows : List (List S)} (h : hp k = some (.row e sz rows)) : Rd hp (.orow k) (.sl sz rows)
  | arow {k e sz : Nat} {rows : List (List AV)} {rs : List (List S)} (h : hp k = some (.arow e sz rows)) (hl : rows.length = rs.length) (hr : ∀ r ∈ rs, r.length = sz)
      (hc : ∀ (i : Nat) x s, rows.flatten[i]? = some x → rs.flatten[i]? = some s → Rd hp x s) : Rd hp (.orow k) (.sl sz rs)
  | box {k off bt : Nat} {cells : List AV} {ss : List S} (h : hp k = some (.box bt cells)) (hl : cells.length = ss.length)
      (hc : ∀ (i : Nat) x s, cells[i]? = some x → ss[i]? = some s → Rd hp x s) : Rd hp (.op k off) (.pt (ss.drop off))
  | el {k e sz i off : Nat} {rows : List (List AV)} {rs : List (List S)} (h : hp k = some (.arow e sz rows)) (hl : rows.length = rs.length) (hr : ∀ r ∈ rs, r.length = sz) (hi : i < rs.length)
      (hc : ∀ (i : Nat) x s, rows.flatten[i]? = some x → rs.flatten[i]? = some s → Rd hp x s) : Rd hp (.rp k sz i off) (.pt ((rs.getD i []).drop off))

/-- All blocks of the frame's own objects, and what is persistent. -/
def allG (G : Nat → Prop) (β : Nat → Value) (hp : Nat → Option Ob) (b : Nat) : Prop := G b ∨ ∃ k ob, hp k = some ob ∧ blk (β k) = some b

theorem Rd.rep {c : Cx} {G : Nat → Prop} {β : Nat → Value} {σ : St} {a : Act} {w : World} (hc : Conc c G β σ a w) {x : AV} {s : S} (h : Rd σ.hp x s) : ∀ {v : Value}, AVal G w β x v → Rep (allG G β σ.hp) w s v := by
  have hk : Keep G (allG G β σ.hp) w w := ⟨fun _ h => .inl h, fun _ _ => rfl⟩
  induction h with
  | s x => intro v hv; simp only [AVal] at hv; exact hv.keep hk
  | nl sz => intro v hv; simp only [AVal] at hv; subst hv; simp [Rep]
  | @row k e sz rows h =>
    intro v hv
    simp only [AVal] at hv
    obtain ⟨hlen, hsz, ho⟩ := hc.hp k _ h
    rw [hv.1]
    rcases ho with ⟨h1, rfl⟩ | ⟨b, cap, cur, h1, h2, h3, h4, h5, h6, h7⟩
    · rw [h1]; simp [Rep]
    · rw [h1]
      simp only [Rep]
      refine .inr ⟨b, 0, cap, rfl, h2, flatten_rows hlen (RepRow.mk fun i s hi => ⟨.inr ⟨k, _, h, by rw [h1]; rfl⟩, ?_⟩)⟩
      obtain ⟨u, hu, hr⟩ := h7 i s hi
      exact ⟨u, by simp [World.cell?, h4, hu], hr.keep hk⟩
  | @arow k e sz rows rs h hl hr hcc ih =>
    intro v hv
    simp only [AVal] at hv
    obtain ⟨hlen, hsz, ho⟩ := hc.hp k _ h
    rw [hv.1]
    rcases ho with ⟨h1, rfl⟩ | ⟨b, cap, cur, h1, h2, h3, h4, h5, h6, h7⟩
    · obtain rfl : rs = [] := List.length_eq_zero_iff.1 (by simpa using hl.symm)
      rw [h1]; simp [Rep]
    · rw [h1]
      simp only [Rep]
      refine .inr ⟨b, 0, cap, by rw [hl], by rw [← hl]; exact h2, flatten_rows hr (RepRow.mk fun i s hi => ⟨.inr ⟨k, _, h, by rw [h1]; rfl⟩, ?_⟩)⟩
      have hfl := length_flatten' hlen
      have hfs := length_flatten' hr
      have hil : i < rows.flatten.length := by rw [hfl, hl, ← hfs]; exact (List.getElem?_eq_some_iff.1 hi).1
      obtain ⟨u, hu, hr', _⟩ := h7 i _ (List.getElem?_eq_getElem hil)
      exact ⟨u, by simp [World.cell?, h4, hu], ih i _ s (List.getElem?_eq_getElem hil) hi hr'⟩
  | @box k off bt cells ss h hl hcc ih =>
    intro v hv
    simp only [AVal] at hv
    obtain ⟨b, e, cur, h1, h2, h3, h4, h5, h6⟩ := hc.hp k _ h
    obtain ⟨b', hβ, rfl⟩ := hv
    rw [h1] at hβ; cases hβ
    simp only [Rep]
    have hrow : RepRow (allG G β σ.hp) w b ss 0 := RepRow.mk fun i s hi => by
      refine ⟨.inr ⟨k, _, h, by rw [h1]; rfl⟩, ?_⟩
      have hil : i < cells.length := by rw [hl]; exact (List.getElem?_eq_some_iff.1 hi).1
      obtain ⟨u, hu, hr⟩ := h5.get (List.getElem?_eq_getElem hil)
      rw [Array.getElem?_toList] at hu
      exact ⟨u, by simp [World.cell?, h2, hu], ih i _ s (List.getElem?_eq_getElem hil) hi hr⟩
    exact ⟨b, off, rfl, by simpa using hrow.drop off⟩
  | @el k e sz i off rows rs h hl hr hi hcc ih =>
    intro v hv
    simp only [AVal] at hv
    obtain ⟨b, n, cp, hβ, rfl⟩ := hv
    obtain ⟨hlen, hsz, ho⟩ := hc.hp k _ h
    rcases ho with ⟨h1, rfl⟩ | ⟨b', cap, cur, h1, h2, h3, h4, h5, h6, h7⟩
    · simp at hl; omega
    rw [hβ] at h1; cases h1
    simp only [Rep]
    refine ⟨b, i * sz + off, rfl, ?_⟩
    have hfl := length_flatten' hlen
    have hfs := length_flatten' hr
    have hrow : RepRow (allG G β σ.hp) w b rs.flatten 0 := RepRow.mk fun q s hq => by
      refine ⟨.inr ⟨k, _, h, by rw [hβ]; rfl⟩, ?_⟩
      have hil : q < rows.flatten.length := by rw [hfl, hl, ← hfs]; exact (List.getElem?_eq_some_iff.1 hq).1
      obtain ⟨u, hu, hr', _⟩ := h7 q _ (List.getElem?_eq_getElem hil)
      exact ⟨u, by simp [World.cell?, h4, hu], ih q _ s (List.getElem?_eq_getElem hil) hq hr'⟩
    have hrows := (flatten_rows hr hrow).get (i := i) (r := rs[i]) (List.getElem?_eq_getElem hi)
    have hg : rs.getD i [] = rs[i] := by simp [List.getElem?_eq_getElem hi]
    rw [hg]
    have := hrows.2.drop off
    simpa using this

/-- The same of structs, arrays, tuples. -/
def RdV (hp : Nat → Option Ob) : AV → AV → Prop
  | x, .s y => Rd hp x y
  | .agg xs, .agg ys => xs.length = ys.length ∧ ∀ (i : Nat) x y, xs[i]? = some x → ys[i]? = some y → ∃ s, y = .s s ∧ Rd hp x s
  | _, .junk => True
  | _, _ => False
theorem RdV.aval {c : Cx} {G : Nat → Prop} {β : Nat → Value} {σ : St} {a : Act} {w : World} (hc : Conc c G β σ a w) {x y : AV} (h : RdV σ.hp x y) {v : Value} (hv : AVal G w β x v) : AVal (allG G β σ.hp) w β y v := by
  unfold RdV at h
  split at h
  · simp only [AVal]; exact h.rep hc hv
  · simp only [AVal] at hv ⊢
    obtain ⟨vs, rfl, hvs⟩ := hv
    refine ⟨vs, rfl, AVals.mk (by rw [← h.1]; exact hvs.length) fun i y u hy hu => ?_⟩
    rename_i xs ys
    have hil : i < xs.length := by rw [h.1]; exact (List.getElem?_eq_some_iff.1 hy).1
    obtain ⟨s, rfl, hs⟩ := h.2 i _ y (List.getElem?_eq_getElem hil) hy
    obtain ⟨u', hu', hr⟩ := hvs.get (List.getElem?_eq_getElem hil)
    rw [hu] at hu'; cases hu'
    simp only [AVal]; exact hs.rep hc hr
  · simp only [AVal]
  · exact h.elim

def RdL (hp : Nat → Option Ob) (env : Nat → AV) : List (Nat × AV) → Prop
  | [] => True
  | (t, y) :: r => RdV hp (env t) y ∧ RdL hp env r
theorem RdL.get {c : Cx} {G : Nat → Prop} {β : Nat → Value} {σ : St} {a : Act} {w : World} (hc : Conc c G β σ a w) : ∀ {l : List (Nat × AV)}, RdL σ.hp σ.env l → ∀ t, AVal (allG G β σ.hp) w β (ofL l t) (a.tmps.getD t undef)
  | [], _, t => by simp only [ofL, AVal]
  | (u, y) :: r, h, t => by
    simp only [ofL]
    cases e : Nat.beq t u with
    | true => obtain rfl := Nat.eq_of_beq_eq_true e; exact h.1.aval hc (hc.env t)
    | false => exact RdL.get hc h.2 t
def persL : List (Nat × AV) → Bool
  | [] => true
  | (_, y) :: r => (y.pers || (match y with | .junk => true | _ => false)) && persL r
theorem persL_lt {n : Nat} : ∀ {l : List (Nat × AV)}, persL l = true → ∀ t, (ofL l t).lt n = true
  | [], _, t => rfl
  | (u, y) :: r, h, t => by
    simp only [persL, Bool.and_eq_true, Bool.or_eq_true] at h
    simp only [ofL]
    cases Nat.beq t u with
    | true =>
      rcases h.1 with h1 | h1
      · exact AV.pers_lt h1
      · cases y <;> simp at h1
        rfl
    | false => exact persL_lt h.2 t
/-- EVERYTHING IS GIVEN UP. -/
theorem Le.giveWhole {c : Cx} {σ : St} (l : List (Nat × AV)) (h : RdL σ.hp σ.env l) (hp : persL l = true) : Le c σ ⟨ofL l, fun _ => none, σ.nx⟩ := by
  unfold Le
  intro G β a w hc
  have hk : Keep G (allG G β σ.hp) w w := ⟨fun _ h => .inl h, fun _ _ => rfl⟩
  refine ⟨allG G β σ.hp, β, { defers := hc.defers, size := hc.size, env := RdL.get hc h, envlt := persL_lt hp, hp := fun k ob hk => (by cases hk), hplt := fun k ob hk => (by cases hk), inj := fun k k' ob ob' hk => (by cases hk), lt := fun b hb => ?_, sub := fun b hb => .inl (hc.sub b hb), new := fun b hb => ?_, fr := hc.fr, stay := hc.stay, glob := hc.glob.keep hk }⟩
  · rcases hb with hb | ⟨k, ob, h1, h2⟩
    · exact hc.lt b hb
    · exact hc.blk_lt h1 h2
  · rcases hb with hb | ⟨k, ob, h1, h2⟩
    · exact hc.new b hb
    · exact .inr (row_block (hc.hp k ob h1) b h2).2
end Go.Abs
