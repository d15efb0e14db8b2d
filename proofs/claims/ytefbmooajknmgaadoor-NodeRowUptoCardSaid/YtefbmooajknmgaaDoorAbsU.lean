/-
  THE ABSTRACT MACHINE, PART U: matrices of integers: an own row of slices, of which one may be an own row too.
-/
import Derived.Test.YtefbmooajknmgaaDoorAbsT
set_option linter.unusedVariables false
set_option linter.unusedSimpArgs false
namespace Go.Abs

def pcells (L : List (List Int)) : List (List AV) := L.map fun r => [.s (.sl 1 (r.map (irow .i64)))]
def nils (k : Nat) : List (List AV) := List.replicate k [.s (.sl 1 [])]

theorem flat1 {α β : Type} (f : α → β) : ∀ (l : List α), (l.map fun r => [f r]).flatten = l.map f
  | [] => rfl
  | x :: l => by simp [flat1 f l]
theorem rd_pcells {hp : Nat → Option Ob} {k e : Nat} {L : List (List Int)} (h : hp k = some (.arow e 1 (pcells L))) : Rd hp (.orow k) (.sl 1 (L.map fun r => [S.sl 1 (r.map (irow .i64))])) :=
  .arow h (by simp [pcells]) (fun r hr => by obtain ⟨r', _, rfl⟩ := List.mem_map.1 hr; rfl) fun i x s hx hs => by
    have e1 : (pcells L).flatten = L.map fun r => AV.s (.sl 1 (r.map (irow .i64))) := flat1 _ L
    have e2 : (L.map fun r => [S.sl 1 (r.map (irow .i64))]).flatten = L.map fun r => S.sl 1 (r.map (irow .i64)) := flat1 _ L
    rw [e1, List.getElem?_map] at hx
    rw [e2, List.getElem?_map] at hs
    cases hi : L[i]? with
    | none => rw [hi] at hx; cases hx
    | some r =>
      rw [hi] at hx hs
      cases hx; cases hs
      exact .s _
theorem toA_nils (m : Nat) : (List.replicate m [S.sl 1 []]).map (·.map AV.s) = nils m := by simp [nils]
theorem ren_persL {ρ : List (Nat × Nat)} (L : List (List Int)) : (pcells L).map (AV.renAll ρ) = pcells L := by
  simp [pcells, AV.renAll, AV.ren]
theorem ren_nils {ρ : List (Nat × Nat)} (m : Nat) : (nils m).map (AV.renAll ρ) = nils m := by
  simp [nils, AV.renAll, AV.ren]

theorem lt_all_s {n : Nat} {l : List AV} (h : ∀ x ∈ l, ∃ s, x = AV.s s) : AV.ltAll n l = true := ltAll_memI fun x hx => by obtain ⟨s, rfl⟩ := h x hx; rfl
theorem lt_np {n k : Nat} {L : List (List Int)} : AV.ltAll n (nils k ++ pcells L).flatten = true := lt_all_s fun x hx => by
  simp only [nils, pcells, List.mem_flatten, List.mem_append, List.mem_replicate, List.mem_map] at hx
  obtain ⟨l, (⟨_, rfl⟩ | ⟨r, _, rfl⟩), hx⟩ := hx
  · exact ⟨_, List.mem_singleton.1 hx⟩
  · exact ⟨_, List.mem_singleton.1 hx⟩
theorem ltAll_appE {n : Nat} : ∀ {xs ys : List AV}, AV.ltAll n (xs ++ ys) = (AV.ltAll n xs && AV.ltAll n ys)
  | [], _ => rfl
  | x :: xs, ys => by simp [AV.ltAll, ltAll_appE (xs := xs), Bool.and_assoc]
theorem lt_1 {n k q : Nat} {L : List (List Int)} : AV.ltAll n (nils k ++ [.orow q] :: pcells L).flatten = decide (q < n) := by
  have h1 : AV.ltAll n (nils k).flatten = true := by have := lt_np (n := n) (k := k) (L := []); simpa [pcells] using this
  have h2 : AV.ltAll n (pcells L).flatten = true := lt_np (k := 0)
  rw [List.flatten_append, List.flatten_cons, ltAll_appE, ltAll_appE, h1, h2]
  simp [AV.ltAll, AV.lt]
theorem lt_p {n : Nat} {L : List (List Int)} : AV.ltAll n (pcells L).flatten = true := lt_np (k := 0)

theorem getD_nils {k : Nat} {x : List AV} {l : List (List AV)} : (nils k ++ x :: l).getD k [] = x := by
  simp [nils, List.getD_eq_getElem?_getD, List.getElem?_append]
theorem getD_nils1 {k : Nat} {x y : List AV} {l : List (List AV)} : (nils k ++ x :: y :: l).getD (k + 1) [] = y := by
  simp [nils, List.getD_eq_getElem?_getD, List.getElem?_append]
theorem set_nils {k : Nat} {x : List AV} {L : List (List Int)} : (nils (k + 1) ++ pcells L).set k x = nils k ++ x :: pcells L := by
  have : nils (k + 1) ++ pcells L = nils k ++ [.s (.sl 1 [])] :: pcells L := by simp [nils, List.replicate_succ']
  rw [this, List.set_append_right _ _ (by simp [nils])]
  simp [nils]
theorem getD_nil' {k : Nat} {L : List (List Int)} : (nils (k + 1) ++ pcells L).getD k [] = [.s (.sl 1 [])] := by
  have : nils (k + 1) ++ pcells L = nils k ++ [.s (.sl 1 [])] :: pcells L := by simp [nils, List.replicate_succ']
  rw [this, getD_nils]
theorem ints_get {l : List Int} {i : Nat} {v : Int} (h : l[i]? = some v) : (l.map (irow .i64)).getD i [] = [.int .i64 v] := by
  simp [List.getD_eq_getElem?_getD, h, irow]
theorem len_ints (l : List Int) : (l.map (irow .i64)).length = l.length := List.length_map ..

theorem ren_1 {e : Nat} {k q : Nat} {L : List (List Int)} (ρ : List (Nat × Nat)) (h : look q ρ = some q) : (Ob.arow e 1 (nils k ++ [.orow q] :: pcells L)).ren ρ = .arow e 1 (nils k ++ [.orow q] :: pcells L) := by
  simp [Ob.ren, ren_nils, ren_persL, AV.renAll, AV.ren, h]
theorem ren_np {e : Nat} {k : Nat} {L : List (List Int)} (ρ : List (Nat × Nat)) : (Ob.arow e 1 (nils k ++ pcells L)).ren ρ = .arow e 1 (nils k ++ pcells L) := by
  simp [Ob.ren, ren_nils, ren_persL]

theorem set_row {l : List Int} {j : Nat} {v x : Int} (h : l[j]? = some v) : (l.map (irow .i64)).set j (((l.map (irow .i64)).getD j []).take 0 ++ [.int .i64 x] ++ ((l.map (irow .i64)).getD j []).drop (0 + 1)) = (l.set j x).map (irow .i64) := by
  rw [ints_get h, List.map_set]; rfl
theorem set_zero {j : Nat} {x : Int} (l : List Int) : (List.replicate (j + 1) 0 ++ l).set j x = List.replicate j 0 ++ x :: l := by
  rw [List.replicate_succ', List.append_assoc, List.set_append_right _ _ (by simp)]
  simp

theorem frz_1 {e : Nat} {a q : Nat} {r : List Int} {L : List (List Int)} {p : Nat → AV} (ρ : List (Nat × Nat)) (h : Nat.beq q q = true) : (Ob.frz q (.s (.sl 1 (r.map (irow .i64)))) p (.arow e 1 (nils a ++ [.orow q] :: pcells L))).ren ρ = .arow e 1 (nils a ++ pcells (r :: L)) := by
  simp [Ob.frz, Ob.ren, nils, pcells, AV.frzAll, AV.frz, AV.renAll, AV.ren, h]
theorem frz_np {e : Nat} {a q : Nat} {L : List (List Int)} (r : AV) (p : Nat → AV) (ρ : List (Nat × Nat)) : (Ob.frz q r p (.arow e 1 (nils a ++ pcells L))).ren ρ = .arow e 1 (nils a ++ pcells L) := by
  simp [Ob.frz, Ob.ren, nils, pcells, AV.frzAll, AV.frz, AV.renAll, AV.ren]


/-- A matrix of which all rows are own: the rows of cells at the key 0, row q at the key q + 1. -/
def tabHp (e : Nat) (rows : List (List AV)) (dyn : Nat → Option Ob) : Nat → Option Ob
  | 0 => some (.arow e 1 rows)
  | k + 1 => dyn k
def okeys (t : Nat) : List (List AV) := (List.range t).map fun q => [.orow (q + 1)]
/-- Rows below k are as made, from k on they are told. -/
def ddyn (e k : Nat) (z : List Int) (L : List (List Int)) (q : Nat) : Option Ob :=
  if q < k then some (.row e 1 (z.map (irow .i64))) else (L[q - k]?).map fun r => .row e 1 (r.map (irow .i64))
theorem Le.forgetH {c : Cx} {σ : St} (l : List (Nat × AV)) (hp' : Nat → Option Ob) (n : Nat) (h : holds σ.env l) (hh : ∀ k, σ.hp k = hp' k) (hn : σ.nx = n) : Le c σ ⟨ofL l, hp', n⟩ := by
  obtain rfl : σ.hp = hp' := funext hh
  subst hn
  exact Le.forget l h
theorem okeys_len (t : Nat) : (okeys t).length = t := by simp [okeys]
theorem okeys_get {t q : Nat} (h : q < t) : (okeys t).getD q [] = [.orow (q + 1)] := by
  simp [okeys, List.getD_eq_getElem?_getD, h]
theorem okeys_nil {t m : Nat} : (okeys t ++ nils (m + 1)).getD t [] = [.s (.sl 1 [])] := by
  simp [okeys, nils, List.getD_eq_getElem?_getD, List.getElem?_append]
theorem okeys_set {t m : Nat} : (okeys t ++ nils (m + 1)).set t [.orow (t + 1)] = okeys (t + 1) ++ nils m := by
  rw [List.set_append_right _ _ (by simp [okeys])]
  simp [okeys, nils, List.range_succ, List.replicate_succ]
theorem ddyn_head {e k : Nat} {z r : List Int} {L : List (List Int)} : ddyn e k z (r :: L) k = some (.row e 1 (r.map (irow .i64))) := by
  simp [ddyn]
theorem ddyn_next {e k : Nat} {z r s : List Int} {L : List (List Int)} : ddyn e k z (r :: s :: L) (k + 1) = some (.row e 1 (s.map (irow .i64))) := by
  unfold ddyn
  rw [if_neg (by omega), show k + 1 - k = 1 by omega]; rfl
theorem ddyn_take {e k : Nat} {z : List Int} {L : List (List Int)} (q : Nat) : ddyn e (k + 1) z L q = ddyn e k z (z :: L) q := by
  unfold ddyn
  by_cases h : q < k
  · rw [if_pos h, if_pos (by omega)]
  · by_cases h2 : q = k
    · subst h2; rw [if_pos (by omega), if_neg h]; simp
    · rw [if_neg h, if_neg (by omega), show q - k = (q - (k + 1)) + 1 by omega]; simp
theorem ddyn_set {e k : Nat} {z r r' : List Int} {L : List (List Int)} (q : Nat) : (bif Nat.beq (q + 1) (k + 1) then some (Ob.row e 1 (r'.map (irow .i64))) else ddyn e k z (r :: L) q) = ddyn e k z (r' :: L) q := by
  cases h : Nat.beq (q + 1) (k + 1) with
  | true =>
    obtain rfl : q = k := by have := Nat.eq_of_beq_eq_true h; omega
    rw [cond_true, ddyn_head]
  | false =>
    have hne : q ≠ k := fun e => by subst e; rw [Nat.beq_refl] at h; cases h
    rw [cond_false]
    unfold ddyn
    by_cases h2 : q < k
    · rw [if_pos h2, if_pos h2]
    · rw [if_neg h2, if_neg h2, show q - k = (q - k - 1) + 1 by omega]; rfl

end Go.Abs
