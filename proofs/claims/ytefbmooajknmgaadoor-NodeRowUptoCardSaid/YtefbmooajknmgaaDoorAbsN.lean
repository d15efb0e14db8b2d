/-
  THE ABSTRACT MACHINE, PART N: a law's contract in the statement's own words, from an abstract one: it returns true, and its arguments read as before.
-/
import Derived.Test.YtefbmooajknmgaaDoorAbsM
set_option linter.unusedSimpArgs false
set_option linter.unusedVariables false
namespace Go.Abs
open Go.ChangeShapes Go.WideShapes Go.RowKit Go.Proofs.YtefbmooajknmgaaDoor

/-- An argument, by its type. -/
def argAV (T : Nat → Option TI) (t : Nat) (ss : List S) : AV := match T t with
  | some i => match i.k.agg with
    | true => .agg (ss.map .s)
    | false => .s (ss.headD .np)
  | none => .junk
def argAVs (T : Nat → Option TI) : List Nat → List (List S) → List AV
  | t :: ts, ss :: sss => argAV T t ss :: argAVs T ts sss
  | _, _ => []
def ArgsT (T : Nat → Option TI) : List Nat → List (List S) → Prop
  | [], sss => sss = []
  | t :: ts, sss => ∃ ss r, sss = ss :: r ∧ (∃ n, Typed T n t ss) ∧ ArgsT T ts r

theorem argAVs_pers {T : Nat → Option TI} : ∀ {ts : List Nat} {sss : List (List S)}, (∀ t ∈ ts, (T t).isSome = true) → AV.persAll (argAVs T ts sss) = true
  | [], _, _ => by cases ‹List (List S)› <;> rfl
  | _ :: _, [], _ => rfl
  | t :: ts, ss :: sss, h => by
    simp only [argAVs, AV.persAll, Bool.and_eq_true]
    refine ⟨?_, argAVs_pers fun t' h' => h t' (List.mem_cons_of_mem _ h')⟩
    obtain ⟨i, hi⟩ := Option.isSome_iff_exists.1 (h t List.mem_cons_self)
    unfold argAV
    rw [hi]
    simp only
    split
    · simp only [AV.pers]
      clear hi
      induction ss with
      | nil => rfl
      | cons s r ih => simp [AV.persAll, AV.pers, ih]
    · rfl

section
variable {H : Type} {enc : TypeId × Value → H} {P : Program} {T : Nat → Option TI} {w : World} {spare : Nat → Bool} {held : Bool}

theorem okWide_one {r : Reach} {base t : Nat} {d : TypeDesc} {v : Value} (h : P.underlying t = some d) (hk : (tkOf d).agg = false) (hok : Value.okWide P w r base t v) : v.oneCell' = true := by
  cases d <;> simp only [tkOf, TK.agg, reduceCtorEq, Bool.true_eq_false] at hk <;> simp only [Value.okWide, h] at hok <;> cases v <;> first
    | rfl
    | (exfalso; simp only [Cell.okWide, Cell.ok, h] at hok)

theorem okWide_agg {r : Reach} {base t : Nat} {d : TypeDesc} {v : Value} (h : P.underlying t = some d) (hk : (tkOf d).agg = true) (hok : Value.okWide P w r base t v) : ∃ cs, v = .agg cs := by
  cases d <;> simp only [tkOf, TK.agg, reduceCtorEq, Bool.false_eq_true] at hk <;> simp only [Value.okWide, h] at hok <;> exact ⟨_, hok.choose_spec.1⟩

theorem avals_reps {G : Nat → Prop} {β : Nat → Value} : ∀ {ss : List S} {vs : List Value}, Reps G w ss vs → AVals G w β (ss.map .s) vs
  | [], vs, h => by simp only [List.map_nil, AVals]; exact List.length_eq_zero_iff.1 h.1
  | s :: ss, [], h => by simp [Reps] at h
  | s :: ss, v :: vs, h => by
    simp only [List.map_cons, AVals]
    exact ⟨v, vs, rfl, by simp only [AVal]; exact h.2 0 s v rfl rfl, avals_reps ⟨by simpa using h.1, fun i s v h1 h2 => h.2 (i + 1) s v (by simpa using h1) (by simpa using h2)⟩⟩

theorem conv_arg (hT : TOk P T) (hC : ∀ t i, T t = some i → closedAt T i = true) {β : Nat → Value} {r : Reach} {base t : Nat} {v : Value} {d : DataW H} {p : List MemPlace} (ht : (T t).isSome = true)
    (hok : Value.okWide P w r base t v) (h : DataW.Trod enc P w 0 spare held t v d p) : ∃ ss, (∃ n, Typed T n t ss) ∧ AVal (old w) w β (argAV T t ss) v ∧ bulkL ss ≤ Rows.uptoBulk d := by
  obtain ⟨n, hn⟩ := h
  obtain ⟨ss, r1, r2, r3⟩ := conv hT hC n t _ _ ht hn
  obtain ⟨i, hi⟩ := Option.isSome_iff_exists.1 ht
  obtain ⟨d', info, z, h1, h2, _⟩ := hT t i hi
  refine ⟨ss, ⟨n, r2⟩, ?_, r3⟩
  unfold argAV
  rw [hi]
  simp only
  cases hag : i.k.agg with
  | true =>
    obtain ⟨cs, rfl⟩ := okWide_agg h1 (by rw [h2]; exact hag) hok
    simp only [AVal]
    exact ⟨cs.toList, by simp, avals_reps r1⟩
  | false =>
    have hone := okWide_one h1 (by rw [h2]; exact hag) hok
    rw [cells_one hone] at r1
    match ss, r1 with
    | [s], r1 => simp only [AVal, List.headD_cons]; exact r1.2 0 s v rfl rfl

theorem conv_args (hT : TOk P T) (hC : ∀ t i, T t = some i → closedAt T i = true) {β : Nat → Value} {r : Reach} {base : Nat} : ∀ {ts : List Nat} {vs : List Value} {ds : List (DataW H)} {ps : List MemPlace},
    (∀ t ∈ ts, (T t).isSome = true) → (∀ (j : Nat) t v, ts[j]? = some t → vs[j]? = some v → Value.okWide P w r base t v) → DataW.TrodAll enc P w 0 spare held ts vs ds ps →
    ∃ sss, ArgsT T ts sss ∧ AVals (old w) w β (argAVs T ts sss) vs ∧ bulkLL sss ≤ Rows.uptoBulkAll ds
  | [], vs, ds, ps, _, _, h => by
    obtain ⟨rfl, rfl, rfl⟩ := trodAll_nil h
    exact ⟨[], rfl, by simp only [argAVs, AVals], by simp [bulkLL]⟩
  | t :: ts, vs, ds, ps, ht, hok, h => by
    obtain ⟨v, vs', d, ds', p, q, rfl, rfl, rfl, h1, h2⟩ := trodAll_cons h
    obtain ⟨ss, a1, a2, a3⟩ := conv_arg hT hC (β := β) (ht t List.mem_cons_self) (hok 0 t v rfl rfl) h1
    obtain ⟨sss, b1, b2, b3⟩ := conv_args hT hC (β := β) (fun t' h' => ht t' (List.mem_cons_of_mem _ h')) (fun j t' v' e1 e2 => hok (j + 1) t' v' (by simpa using e1) (by simpa using e2)) h2
    refine ⟨ss :: sss, ⟨ss, sss, rfl, a1, b1⟩, ?_, ?_⟩
    · simp only [argAVs, AVals]; exact ⟨v, vs', rfl, a2, b2⟩
    · simp only [bulkLL, Rows.uptoBulkAll]; omega

theorem trodAll_below (hl : laidOutB P = true) {W W' : World} (hb : Below W.heap.size W W') : ∀ {ts : List Nat} {vs : List Value} {ds : List (DataW H)} {ps : List MemPlace}, (∀ t ∈ ts, P.readableRec t = true ∧ t < P.types.size) →
    DataW.TrodAll enc P W 0 (fun _ => true) true ts vs ds ps → (∀ p ∈ ps, p.block < W.heap.size) → DataW.TrodAll enc P W' 0 (fun b => decide (b < W.heap.size)) true ts vs ds ps
  | [], vs, ds, ps, _, h, _ => by
    obtain ⟨rfl, rfl, rfl⟩ := trodAll_nil h
    exact trodAll_mk0
  | t :: ts, vs, ds, ps, ht, h, hlt => by
    obtain ⟨v, vs', d, ds', p, q, rfl, rfl, rfl, h1, h2⟩ := trodAll_cons h
    exact ⟨p, q, Below.trod hl (ht t List.mem_cons_self).1 (ht t List.mem_cons_self).2 h1 hb (fun x hx => hlt x (List.mem_append_left _ hx)),
      trodAll_below hl hb (fun t' h' => ht t' (List.mem_cons_of_mem _ h')) h2 (fun x hx => hlt x (List.mem_append_right _ hx)), rfl⟩

theorem trodAll_length {base : Nat} : ∀ {ts : List Nat} {vs : List Value} {ds : List (DataW H)} {ps : List MemPlace}, DataW.TrodAll enc P w base spare held ts vs ds ps → ds.length = ts.length
  | [], vs, ds, ps, h => by
    obtain ⟨rfl, rfl, rfl⟩ := trodAll_nil h
    rfl
  | t :: ts, vs, ds, ps, h => by
    obtain ⟨v, vs', d, ds', p, q, rfl, rfl, rfl, h1, h2⟩ := trodAll_cons h
    simp [trodAll_length h2]

/-- THE LAW'S CONTRACT. -/
theorem law_contract (hT : TOk P T) (hC : ∀ t i, T t = some i → closedAt T i = true) (hl : laidOutB P = true) {f tb : Nat} {fn : Func} {s : ChangeSpec} {ps : PSpec} (hs : PSound P f ps) (hvars : s.vars = [])
    (hpar : ∀ t ∈ fn.params.toList, (T t).isSome = true ∧ P.readableRec t = true ∧ t < P.types.size) (hres : fn.resultTypes = #[tb]) (htb : P.underlying tb = some .bool)
    (hfn : ∀ (ds : List (DataW H)), ds.length = fn.params.size → s.fn H ds = { results := [.lit (.bool true)], args := ds })
    (hspec : ∀ sss, ArgsT T fn.params.toList sss → bulkLL sss ≤ 1048576 → ps.spec (argAVs T fn.params.toList sss) (.val (.s (.bool true))))
    {F : Stop.Interp} (W : World) (base : Nat) (args : Array Value) (ds gs : List (DataW H)) (before : List MemPlace)
    (hval : ∀ (j : Nat) t v, fn.params[j]? = some t → args[j]? = some v → Value.okWide P W .any base t v)
    (hW : DataW.Whole enc P fn.params.toList s.vars false W args.toList ds gs before) (hk : Rows.uptoSmall H (ds ++ gs) = true) (hgl : GlobOk (old W) W := by exact ⟨fun g row h => (by cases h), fun g cs h => (by cases h)⟩) :
    Calls P f args W fun e W' => ∃ v, e = .returned v ∧ s.post enc P fn false true false false W args v W' := by
  have hW' := hW
  obtain ⟨p, q, hA, hV, rfl, hfz, hnd⟩ := hW
  rw [hvars] at hV
  obtain ⟨rfl, rfl⟩ := trodVars_none hV
  have hb : Rows.uptoBulkAll ds ≤ 1048576 := by
    have := of_decide_eq_true hk
    simpa using this
  obtain ⟨sss, c1, c2, c3⟩ := conv_args hT hC (β := fun _ => .tuple #[]) (fun t ht => (hpar t ht).1) (fun j t v h1 h2 => hval j t v (by simpa using h1) (by simpa using h2)) hA
  have hcall := hs.2.1 (old W) W _ _ _ (fun _ h => h) hgl (argAVs_pers fun t ht => (hpar t ht).1) c2 (hspec sss c1 (Nat.le_trans c3 hb))
  refine hcall.mono fun e W' ⟨v, G', he, hext, hret⟩ => ⟨v, he, ?_⟩
  obtain ⟨_, hret⟩ := hret
  simp only [AVal, Rep] at hret
  subst hret
  have hbelow : Below W.heap.size W W' := ⟨hext.os, hext.tape, hext.output, hext.size, fun k hk => hext.old k hk⟩
  have hlen : ds.length = fn.params.size := by simpa using trodAll_length hA
  have hlt : ∀ x ∈ p, x.block < W.heap.size := fun x hx => by simpa using hW'.lt x (by simpa using hx)
  refine ⟨ds, [], p ++ [], [], p, [], hW', ?_, ?_, ?_, hbelow.frame _, fun h => by cases h⟩
  · rw [List.append_nil, hfn ds hlen, hres]
    exact trodAll_cons_mk (shut_bool htb true) trodAll_mk0
  · rw [List.append_nil, hfn ds hlen]
    exact trodAll_below hl hbelow (fun t ht => (hpar t ht).2) hA hlt
  · rw [List.append_nil, hfn ds hlen, hvars]
    rfl
end
end Go.Abs
