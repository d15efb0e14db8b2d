/-
  THE ABSTRACT MACHINE, PART V: contracts over own objects that are shown on the world itself: a builder within an own box.
-/
import Derived.Test.YtefbmooajknmgaaDoorAbsU
set_option linter.unusedVariables false
namespace Go.Abs

theorem PSound.ofOwn {P : Program} {f : Nat} {R : List AV → List Ob → AV → List (Option Ob) → Prop} (hcall : ∀ args w, (callFunc f args).run P w = .ok (.enter f args) w) (h : OwnSound P f R) : PSound P f (ospec R) :=
  ⟨hcall, fun _ _ _ _ _ _ _ _ _ hs => hs.elim, fun R' hR' => (by
    obtain rfl : R = R' := by simpa [ospec] using hR'
    exact h), fun R hR => (by cases hR)⟩

/-- What a contract over own objects says. -/
def ownOf (s : PSpec) : List AV → List Ob → AV → List (Option Ob) → Prop := match s.own with | some R => R | none => fun _ _ _ _ => False
/-- One of two. -/
def orS (s t : PSpec) : PSpec := ospec fun xs os x os' => ownOf s xs os x os' ∨ ownOf t xs os x os'
theorem osound_or {P : Program} {f : Nat} {s t : PSpec} (hs : PSound P f s) (ht : PSound P f t) : PSound P f (orS s t) :=
  PSound.ofOwn hs.1 fun G w β xs vs os x os' h1 h2 h3 h4 h5 h6 => by
    rcases h6 with h6 | h6
    · unfold ownOf at h6
      cases hR : s.own with
      | none => rw [hR] at h6; exact h6.elim
      | some R => rw [hR] at h6; exact hs.2.2.1 R hR G w β xs vs os x os' h1 h2 h3 h4 h5 h6
    · unfold ownOf at h6
      cases hR : t.own with
      | none => rw [hR] at h6; exact h6.elim
      | some R => rw [hR] at h6; exact ht.2.2.1 R hR G w β xs vs os x os' h1 h2 h3 h4 h5 h6

/-- What has become of the world where one cell of one block was written. -/
structure Wrote (b off : Nat) (v : Value) (cur : Array Value) (e : Nat) (w w' : World) : Prop where
  os : w'.os = w.os
  tape : w'.tape = w.tape
  output : w'.output = w.output
  size : w'.heap.size = w.heap.size
  old : ∀ i, i ≠ b → w'.heap[i]? = w.heap[i]?
  new : w'.heap[b]? = some (.cells (cur.setIfInBounds off v) e (0, 0))
theorem Wrote.cell {b off e : Nat} {v : Value} {cur : Array Value} {w : World} (h : w.heap[b]? = some (.cells cur e (0, 0))) : Wrote b off v cur e w (w.setCell ⟨b, off, none⟩ v) :=
  ⟨rfl, rfl, rfl, by simp [World.setCell], fun i hi => by
    simp only [World.setCell, Array.getElem?_modify]
    rw [if_neg (Ne.symm hi)], by simp [World.setCell, Array.getElem?_modify, h]⟩
theorem Wrote.same {b off e : Nat} {v : Value} {cur : Array Value} {w : World} (h : w.heap[b]? = some (.cells cur e (0, 0))) (hc : cur[off]? = some v) : Wrote b off v cur e w w :=
  ⟨rfl, rfl, rfl, rfl, fun _ _ => rfl, by
    rw [h]
    have : cur.setIfInBounds off v = cur := by
      apply Array.ext
      · simp
      · intro i h1 h2
        rw [Array.getElem_setIfInBounds (by simpa using h2)]
        split
        · rename_i e; subst e
          rw [Array.getElem?_eq_getElem h2] at hc
          exact (Option.some.inj hc).symm
        · rfl
    rw [this]⟩

theorem keep_of {G : Nat → Prop} {w w' : World} {b : Nat} (hb : ¬ G b) (h : ∀ i, i ≠ b → w'.heap[i]? = w.heap[i]?) : Keep G G w w' := ⟨fun _ h => h, fun i hi => h i fun e => hb (e ▸ hi)⟩

/-- A method of a builder that lies in an own box, its bytes in an own row: it writes at most the builder's own address. -/
theorem bld_own {P : Program} {f D e off : Nat} {cells cells' : List AV} {p : AV} (hoff : cells[off]? = some p) (hp : p = .s .np ∨ p = .op 0 off) (hrow : cells[off + 1]? = some (.orow 1))
    (hc' : cells' = (cells.set off (.op 0 off)).set (off + 1) (.orow 2)) (hpers : ∀ (i : Nat) x, cells[i]? = some x → i ≠ off → i ≠ off + 1 → x.pers = true)
    (hwalk : ∀ (b : Nat) (w : World) (cur : Array Value), w.heap[b]? = some (.cells cur D (0, 0)) → cur.size = cells.length → (p = .s .np → cur[off]? = some (.pointer none)) → (p = .op 0 off → cur[off]? = some (.pointer (some ⟨b, off, none⟩))) →
      Calls P f #[.pointer (some ⟨b, off, none⟩)] w fun e w' => e = .returned (.tuple #[]) ∧ Wrote b off (.pointer (some ⟨b, off, none⟩)) cur D w w') :
    OwnSound P f fun xs os x os' => ∃ bs, xs = [.op 0 off] ∧ os = [.box D cells, .row e 1 bs] ∧ x = .tup [] ∧ os' = [some (.box D cells'), none, some (.row e 1 bs)] := by
  rintro G w β xs vs os x os' hlt hgl hv hxl hobs ⟨bs, rfl, rfl, rfl, rfl⟩
  obtain ⟨hob0, _⟩ := hobs.1 0 (.box D cells) rfl
  obtain ⟨hob1, _⟩ := hobs.1 1 (.row e 1 bs) rfl
  have hdis : ∀ b, blk (β 0) = some b → blk (β 1) ≠ some b := fun b => hobs.2 0 1 (.box D cells) (.row e 1 bs) rfl rfl (by decide) b
  obtain ⟨b, e', cur, h1, h2, h3, h4, h5, h6, rfl⟩ := hob0
  simp only [AVals, AVal] at hv
  obtain ⟨v, vs', rfl, ⟨b', hb', rfl⟩, rfl⟩ := hv
  have hbb : b' = b := by rw [h1] at hb'; simpa using hb'.symm
  subst hbb
  have hsz : cur.size = cells.length := by simpa using h5.length
  have hval : ∀ v, cur[off]? = some v → AVal G w β p v := fun v hv => by
    obtain ⟨u, hu, hr⟩ := h5.get hoff
    rw [Array.getElem?_toList, hv] at hu; cases hu; exact hr
  have hin : off < cur.size := by rw [hsz]; exact (List.getElem?_eq_some_iff.1 hoff).1
  refine (hwalk b' w cur h2 hsz (fun e => ?_) (fun e => ?_)).mono fun e2 w' ⟨he, hw⟩ => ?_
  · have := hval _ (Array.getElem?_eq_getElem hin)
    rw [e] at this
    simp only [AVal, Rep] at this
    rw [Array.getElem?_eq_getElem hin, this]
  · have := hval _ (Array.getElem?_eq_getElem hin)
    rw [e] at this
    simp only [AVal] at this
    obtain ⟨b2, hb2, hv2⟩ := this
    rw [h1] at hb2; cases hb2
    rw [Array.getElem?_eq_getElem hin, hv2]
  · have hk : Keep G G w w' := keep_of h3 hw.old
    let β' : Nat → Value := fun k => if k = 2 then β 1 else β k
    have hβ0 : β' 0 = β 0 := if_neg (by decide)
    have hβ2 : β' 2 = β 1 := if_pos rfl
    have hpp : AVals G w' β' cells' (cur.setIfInBounds off (.pointer (some ⟨b', off, none⟩))).toList := by
      rw [hc']
      refine AVals.mk (by simp [hsz]) fun i x v hx hv => ?_
      rw [Array.getElem?_toList, Array.getElem?_setIfInBounds] at hv
      rw [List.getElem?_set] at hx
      split at hx
      · rename_i hi
        subst hi
        split at hx
        · cases hx
          rw [if_neg (by omega)] at hv
          obtain ⟨u, hu, hr⟩ := h5.get hrow
          rw [Array.getElem?_toList, hv] at hu; cases hu
          simp only [AVal] at hr ⊢
          rw [hβ2]; exact hr
        · cases hx
      · rename_i hi
        rw [List.getElem?_set] at hx
        split at hx
        · rename_i hi2
          subst hi2
          rw [if_pos rfl] at hv
          split at hx
          · cases hx
            rw [if_pos hin] at hv
            cases hv
            simp only [AVal]
            exact ⟨b', by rw [hβ0]; exact h1, rfl⟩
          · cases hx
        · rename_i hi2
          rw [if_neg hi2] at hv
          obtain ⟨u, hu, hr⟩ := h5.get hx
          rw [Array.getElem?_toList, hv] at hu; cases hu
          exact AVal.pers (hpers i x hx (Ne.symm hi2) (Ne.symm hi)) (hr.keep hk)
    have hone : ∀ u ∈ (cur.setIfInBounds off (.pointer (some ⟨b', off, none⟩))).toList, u.oneCell' = true := fun u hu => by
      obtain ⟨i, hi⟩ := List.getElem?_of_mem hu
      rw [Array.getElem?_toList, Array.getElem?_setIfInBounds] at hi
      split at hi
      · first | (cases hi; rfl) | (split at hi <;> first | (cases hi; rfl) | cases hi)
      · exact h6 u (List.mem_of_getElem? (by rw [Array.getElem?_toList]; exact hi))
    have hX : (ownCx P w β 2 G 0).X b' := ⟨0, by decide, by rw [h1]; rfl⟩
    have hltc : AV.ltAll 3 cells' = true := by
      rw [hc']
      refine ltAll_mk fun q y hq => ?_
      rw [List.getElem?_set] at hq
      split at hq
      · split at hq
        · cases hq; rfl
        · cases hq
      · rename_i hi
        rw [List.getElem?_set] at hq
        split at hq
        · split at hq
          · cases hq; rfl
          · cases hq
        · rename_i hi2
          exact AV.pers_lt (hpers q y hq (Ne.symm hi2) (Ne.symm hi))
    refine ⟨.tuple #[], G, β', he, ⟨hw.os, hw.tape, hw.output, by rw [hw.size]; exact Nat.le_refl _, fun i hi hx => hw.old i fun e => hx (e ▸ hX)⟩, fun _ h => h, fun _ h => .inl h, fun i hi => by rw [hw.size]; exact hlt i hi,
      ⟨[], rfl, by simp only [AVals]⟩, rfl, (show 2 ≤ 3 by decide), ⟨fun i ob hi => ?_, fun i j ob ob' hi hj hne bb hbi => ?_⟩, fun i ob hi ho => ?_⟩
    · match i, hi with
      | 0, hi =>
        cases hi
        refine ⟨⟨b', _, _, by rw [hβ0]; exact h1, hw.new, h3, h4, hpp, hone, rfl⟩, by simpa [Ob.lt] using hltc⟩
      | 1, hi => cases hi
      | 2, hi =>
        cases hi
        refine ⟨?_, rfl⟩
        rw [hβ2]
        obtain ⟨g1, g2, g3⟩ := hob1
        refine ⟨g1, g2, g3.imp id ?_⟩
        rintro ⟨bg, cap, gc, k1, k2, k3, k4, k5, k6, k7⟩
        have hne : bg ≠ b' := fun e => hdis b' (by rw [h1]; rfl) (by rw [k1, e]; rfl)
        exact ⟨bg, cap, gc, k1, k2, k3, (hw.old bg hne).trans k4, k5, k6, fun i s hi => let ⟨u, hu, hr⟩ := k7 i s hi; ⟨u, hu, hr.keep hk⟩⟩
      | k + 3, hi => simp at hi
    · match i, j, hi, hj with
      | 0, 0, _, _ => exact absurd rfl hne
      | 0, 2, _, _ => rw [hβ0] at hbi; rw [hβ2]; exact hdis bb hbi
      | 2, 0, _, _ => rw [hβ2] at hbi; rw [hβ0]; exact fun e => hdis bb e hbi
      | 2, 2, _, _ => exact absurd rfl hne
      | 1, _, hi, _ => cases hi
      | _, 1, _, hj => cases hj
      | k + 3, _, hi, _ => simp at hi
      | _, k + 3, _, hj => simp at hj
    · match i, hi with
      | 0, _ => exact hβ0
      | 1, _ => cases ho

/-- The text of such a builder; its bytes are given up. -/
theorem bld_own_str {P : Program} {f D e off : Nat} {cells cells' : List AV} (hrow : cells[off + 1]? = some (.orow 1)) (hself : cells[off]? = some (.op 0 off))
    (hc' : cells' = cells.set (off + 1) .junk) (hpers : ∀ (i : Nat) x, cells[i]? = some x → i ≠ off → i ≠ off + 1 → x.pers = true)
    (hwalk : ∀ (b g cap : Nat) (l : List UInt8) (w : World) (cur : Array Value), l ≠ [] → w.cell? ⟨b, off + 1, none⟩ = some (.slice (some ⟨g, 0, none⟩) l.length cap) → w.heap[g]? = some (.cells cur e (0, 0)) → cur.size = cap * 1 → l.length ≤ cap → l.length ≤ 9223372036854775807 →
      (∀ (j : Nat) x, l[j]? = some x → cur[j]? = some (.int .u8 x.toNat)) →
      Calls P f #[.pointer (some ⟨b, off, none⟩)] w fun e w' => e = .returned (.string ⟨l.toArray⟩) ∧ w' = w.drew.freeze ⟨g, 0, none⟩ l.length) :
    OwnSound P f fun xs os x os' => ∃ l : List UInt8, l ≠ [] ∧ l.length ≤ 9223372036854775807 ∧ xs = [.op 0 off] ∧ os = [.box D cells, .row e 1 (l.map brow)] ∧ x = .s (.str l) ∧ os' = [some (.box D cells'), none] := by
  rintro G w β xs vs os x os' hlt hgl hv hxl hobs ⟨l, hl0, hlm, rfl, rfl, rfl, rfl⟩
  obtain ⟨hob0, _⟩ := hobs.1 0 (.box D cells) rfl
  obtain ⟨hob1, _⟩ := hobs.1 1 (.row e 1 (l.map brow)) rfl
  have hdis : ∀ b, blk (β 0) = some b → blk (β 1) ≠ some b := fun b => hobs.2 0 1 (.box D cells) (.row e 1 (l.map brow)) rfl rfl (by decide) b
  obtain ⟨b, e', cur, h1, h2, h3, h4, h5, h6, rfl⟩ := hob0
  simp only [AVals, AVal] at hv
  obtain ⟨v, vs', rfl, ⟨b', hb', rfl⟩, rfl⟩ := hv
  have hbb : b' = b := by rw [h1] at hb'; simpa using hb'.symm
  subst hbb
  have hsz : cur.size = cells.length := by simpa using h5.length
  obtain ⟨g1, g2, g3⟩ := hob1
  rcases g3 with ⟨_, hnil⟩ | ⟨g, cap, gc, k1, k2, k3, k4, k5, k6, k7⟩
  · exact absurd (by simpa using hnil) hl0
  have hgb : g ≠ b' := fun e => hdis b' (by rw [h1]; rfl) (by rw [k1, e]; rfl)
  have hc1 : cur[off + 1]? = some (β 1) := by
    obtain ⟨u, hu, hr⟩ := h5.get hrow
    simp only [AVal] at hr
    rw [Array.getElem?_toList] at hu
    rw [hu, hr.1]
  have hlen : (l.map brow).length = l.length := by simp
  refine (hwalk b' g cap l w gc hl0 (by simp [World.cell?, h2, hc1, k1]) k4 k3 (by simpa using k2) hlm (fun j x hx => ?_)).mono fun e2 w' ⟨he, hw⟩ => ?_
  · obtain ⟨u, hu, hr⟩ := k7 j (.int .u8 x.toNat) (by rw [flatten_brow, List.getElem?_map, hx]; rfl)
    simp only [Rep] at hr
    rw [hu, hr]
  · have hold : ∀ i, i ≠ g → w'.heap[i]? = w.heap[i]? := fun i hi => by
      rw [hw]
      unfold World.freeze
      rw [if_neg (by simpa using hl0)]
      simp only [Array.getElem?_modify]
      rw [if_neg (Ne.symm hi)]; rfl
    have hsize : w'.heap.size = w.heap.size := by
      rw [hw]; unfold World.freeze; rw [if_neg (by simpa using hl0)]; simp
    have hrest : w'.os = w.os ∧ w'.tape = w.tape ∧ w'.output = w.output := by
      rw [hw]; unfold World.freeze; rw [if_neg (by simpa using hl0)]; exact ⟨rfl, rfl, rfl⟩
    have hk : Keep G G w w' := keep_of k5 hold
    have hX : (ownCx P w β 2 G 0).X g := ⟨1, by decide, by rw [k1]; rfl⟩
    have hpp : AVals G w' β cells' cur.toList := by
      rw [hc']
      refine AVals.mk (by simp [hsz]) fun i x v hx hv => ?_
      rw [List.getElem?_set] at hx
      split at hx
      · split at hx
        · cases hx; simp only [AVal]
        · cases hx
      · obtain ⟨u, hu, hr⟩ := h5.get hx
        rw [hv] at hu; cases hu
        exact hr.keep hk
    have hltc : AV.ltAll 2 cells' = true := by
      rw [hc']
      refine ltAll_mk fun q y hq => ?_
      rw [List.getElem?_set] at hq
      split at hq
      · split at hq
        · cases hq; rfl
        · cases hq
      · rename_i hi
        by_cases hi2 : q = off
        · subst hi2
          rw [hself] at hq; cases hq; rfl
        · exact AV.pers_lt (hpers q y hq hi2 (Ne.symm hi))
    refine ⟨.string ⟨l.toArray⟩, G, β, he, ⟨hrest.1, hrest.2.1, hrest.2.2, by rw [hsize]; exact Nat.le_refl _, fun i hi hx => hold i fun e => hx (e ▸ hX)⟩, fun _ h => h, fun _ h => .inl h, fun i hi => by rw [hsize]; exact hlt i hi,
      by simp only [AVal, Rep], rfl, (show 2 ≤ 2 by decide), ⟨fun i ob hi => ?_, fun i j ob ob' hi hj hne bb hbi => ?_⟩, fun i ob hi ho => rfl⟩
    · match i, hi with
      | 0, hi =>
        cases hi
        exact ⟨⟨b', _, cur, h1, (hold b' (Ne.symm hgb)).trans h2, h3, h4, hpp, h6, rfl⟩, by simpa [Ob.lt] using hltc⟩
      | 1, hi => cases hi
      | k + 2, hi => simp at hi
    · match i, j, hi, hj with
      | 0, 0, _, _ => exact absurd rfl hne
      | 1, _, hi, _ => cases hi
      | _, 1, _, hj => cases hj
      | k + 2, _, hi, _ => simp at hi
      | _, k + 2, _, hj => simp at hj
end Go.Abs
