/-
  Joined out of: MOwn, NdA, LibS, LibI, LibB, LibD, LibF, MNoe.
-/
import Derived.Test.YtefbmooajknmgaaDoorProg
import Derived.KernelRfl
import Derived.Lib.Strings
import Derived.Lib.Slices
import Derived.Lib.Walk
import Derived.Lib.Bytealg
import Derived.Shelf.LaysM
import Derived.Shelf.Strconv.Itoa3
import Derived.Lib.Builder
import Derived.Lib.AppendStr
import Derived.Lib.UnsafeStr
import Derived.Laws.Externs
import Derived.Shelf.RegionOpenPlain
import Derived.Test.YtefbmooajknmgaaDoorZc
set_option linter.unusedVariables false
namespace Go.Proofs.YtefbmooajknmgaaDoor
open Go.Abs
def ncells (k : Int) (t : List UInt8) (c : Int) (v : AV) : List AV := [.s (.int .i64 k), .s (.str t), .s (.int .i64 c), v]
mutual
def At (hp : Nat → Option Ob) (e : Nat) (p : AV) : Nd → List Nat → List AV → Nat → Prop
  | .mk k t c ks, keys, pd, w => ∃ v, cellsAt hp p = some (ncells k t c v) ∧
      ((v = .s (.sl 4 (Nd.encs ks)) ∧ keys = [] ∧ pd = [p] ∧ w = Nd.cnts ks + 1) ∨ (ks = [] ∧ v = .s (.sl 4 []) ∧ keys = [] ∧ pd = [] ∧ w = 0) ∨
        ∃ q rows keys', v = .orow q ∧ hp q = some (.arow e 4 rows) ∧ rows.length = ks.length ∧ keys = q :: keys' ∧ LAt hp e q 0 ks keys' pd w)
def LAt (hp : Nat → Option Ob) (e q i : Nat) : List Nd → List Nat → List AV → Nat → Prop
  | [], keys, pd, w => keys = [] ∧ pd = [] ∧ w = 0
  | t :: ts, keys, pd, w => ∃ k1 k2 p1 p2 w1 w2, keys = k1 ++ k2 ∧ pd = p1 ++ p2 ∧ w = w1 + w2 ∧ At hp e (.rp q 4 i 0) t k1 p1 w1 ∧ LAt hp e q (i + 1) ts k2 p2 w2
end
mutual
theorem At.len {hp : Nat → Option Ob} {e : Nat} {p : AV} : ∀ {t : Nd} {keys : List Nat} {pd : List AV} {w : Nat}, At hp e p t keys pd w → pd.length ≤ w ∧ w ≤ t.cnt
  | .mk k t c ks, keys, pd, w, h => by
    simp only [At] at h
    obtain ⟨v, _, ⟨_, _, rfl, rfl⟩ | ⟨_, _, _, rfl, rfl⟩ | ⟨q, rows, keys', _, _, _, _, h⟩⟩ := h
    · simp [Nd.cnt]
    · simp
    · have := LAt.len h
      simp only [Nd.cnt]; omega
theorem LAt.len {hp : Nat → Option Ob} {e q i : Nat} : ∀ {ts : List Nd} {keys : List Nat} {pd : List AV} {w : Nat}, LAt hp e q i ts keys pd w → pd.length ≤ w ∧ w ≤ Nd.cnts ts
  | [], keys, pd, w, h => by
    simp only [LAt] at h
    obtain ⟨_, rfl, rfl⟩ := h
    simp
  | t :: ts, keys, pd, w, h => by
    simp only [LAt] at h
    obtain ⟨k1, k2, p1, p2, w1, w2, _, rfl, rfl, h1, h2⟩ := h
    have := At.len h1
    have := LAt.len h2
    simp only [Nd.cnts, List.length_append]; omega
end
structure Sim (hp hp' : Nat → Option Ob) (e : Nat) (D : Nat → Prop) (p0 : AV) : Prop where
  row : ∀ q rows, D q → hp q = some (.arow e 4 rows) → ∃ rows', hp' q = some (.arow e 4 rows') ∧ rows'.length = rows.length
  cell : ∀ p, D (baseK p) → p ≠ p0 → isL 4 p → cellsAt hp' p = cellsAt hp p
theorem Sim.sub {hp hp' : Nat → Option Ob} {e : Nat} {D D' : Nat → Prop} {p0 : AV} (h : Sim hp hp' e D p0) (hd : ∀ q, D' q → D q) : Sim hp hp' e D' p0 :=
  ⟨fun q rows hq => h.row q rows (hd q hq), fun p hp => h.cell p (hd _ hp)⟩
mutual
theorem At.sameQ {hp hp' : Nat → Option Ob} {e : Nat} {p p0 : AV} : ∀ {t : Nd} {keys : List Nat} {pd : List AV} {w : Nat}, At hp e p t keys pd w → isL 4 p → Sim hp hp' e (fun k => k = baseK p ∨ k ∈ keys) p0 → p ≠ p0 → (∀ q j, q ∈ keys → AV.rp q 4 j 0 ≠ p0) → At hp' e p t keys pd w
  | .mk k t c ks, keys, pd, w, h, hl, hs, hne, hb => by
    simp only [At] at h ⊢
    obtain ⟨v, hc, h⟩ := h
    refine ⟨v, by rw [hs.cell p (.inl rfl) hne hl, hc], ?_⟩
    rcases h with h | h | ⟨q, rows, keys', h1, h2, h3, rfl, h5⟩
    · exact .inl h
    · exact .inr (.inl h)
    · obtain ⟨rows', h6, h7⟩ := hs.row q rows (.inr List.mem_cons_self) h2
      exact .inr (.inr ⟨q, rows', keys', h1, h6, h7.trans h3, rfl, LAt.sameQ h5 (hs.sub fun k hk => .inr (List.mem_cons.2 hk)) (fun j _ => hb q j List.mem_cons_self) (fun q' j hm => hb q' j (List.mem_cons_of_mem _ hm))⟩)
theorem LAt.sameQ {hp hp' : Nat → Option Ob} {e q i : Nat} {p0 : AV} : ∀ {ts : List Nd} {keys : List Nat} {pd : List AV} {w : Nat}, LAt hp e q i ts keys pd w → Sim hp hp' e (fun k => k = q ∨ k ∈ keys) p0 → (∀ j, i ≤ j → AV.rp q 4 j 0 ≠ p0) → (∀ q' j, q' ∈ keys → AV.rp q' 4 j 0 ≠ p0) → LAt hp' e q i ts keys pd w
  | [], _, _, _, h, _, _, _ => h
  | t :: ts, keys, pd, w, h, hs, hne, hb => by
    simp only [LAt] at h ⊢
    obtain ⟨k1, k2, p1, p2, w1, w2, rfl, rfl, rfl, h1, h2⟩ := h
    exact ⟨k1, k2, p1, p2, w1, w2, rfl, rfl, rfl,
      At.sameQ h1 (.inl ⟨q, i, rfl⟩) (hs.sub fun k hk => hk.imp id (List.mem_append_left _)) (hne i (Nat.le_refl _)) (fun q' j hm => hb q' j (List.mem_append_left _ hm)),
      LAt.sameQ h2 (hs.sub fun k hk => hk.imp id (List.mem_append_right _)) (fun j hj => hne j (by omega)) (fun q' j hm => hb q' j (List.mem_append_right _ hm))⟩
end
theorem At.same {hp hp' : Nat → Option Ob} {e : Nat} {p p0 : AV} {t : Nd} {keys : List Nat} {pd : List AV} {w : Nat} (h : At hp e p t keys pd w) (hl : isL 4 p) (hs : Sim hp hp' e (fun k => k = baseK p ∨ k ∈ keys) p0) (hne : p ≠ p0) (hb : baseK p0 ∉ keys) : At hp' e p t keys pd w :=
  h.sameQ hl hs hne fun q j hm e => hb (by rw [← e]; exact hm)
theorem LAt.same {hp hp' : Nat → Option Ob} {e q i : Nat} {p0 : AV} {ts : List Nd} {keys : List Nat} {pd : List AV} {w : Nat} (h : LAt hp e q i ts keys pd w) (hs : Sim hp hp' e (fun k => k = q ∨ k ∈ keys) p0) (hne : ∀ j, i ≤ j → AV.rp q 4 j 0 ≠ p0) (hb : baseK p0 ∉ keys) : LAt hp' e q i ts keys pd w :=
  h.sameQ hs hne fun q j hm e => hb (by rw [← e]; exact hm)
theorem Sim.same {hp hp' : Nat → Option Ob} {e : Nat} {D : Nat → Prop} {p0 : AV} (h : ∀ k, D k → hp' k = hp k) : Sim hp hp' e D p0 :=
  ⟨fun q rows hq hr => ⟨rows, (h q hq).trans hr, rfl⟩, fun p hp _ hl => cellsAt_eq hl (h _ hp)⟩
theorem At.frame {hp hp' : Nat → Option Ob} {e : Nat} {p : AV} {t : Nd} {keys : List Nat} {pd : List AV} {w : Nat} (h : At hp e p t keys pd w) (hl : isL 4 p) (hs : ∀ k, k = baseK p ∨ k ∈ keys → hp' k = hp k) : At hp' e p t keys pd w :=
  h.sameQ hl (Sim.same (p0 := .junk) hs) (fun e => by rcases hl with ⟨_, _, rfl⟩ | ⟨_, rfl⟩ <;> cases e) (fun q j _ e => by cases e)
mutual
theorem At.base {hp : Nat → Option Ob} {e : Nat} {p p0 : AV} : ∀ {t : Nd} {keys : List Nat} {pd : List AV} {w : Nat}, At hp e p t keys pd w → p0 ∈ pd → p0 = p ∨ baseK p0 ∈ keys
  | .mk k t c ks, keys, pd, w, h, hm => by
    simp only [At] at h
    obtain ⟨v, _, ⟨_, _, rfl, _⟩ | ⟨_, _, _, rfl, _⟩ | ⟨q, rows, keys', _, _, _, rfl, h⟩⟩ := h
    · exact .inl (List.mem_singleton.1 hm)
    · cases hm
    · rcases LAt.base h hm with ⟨j, _, rfl⟩ | h
      · exact .inr List.mem_cons_self
      · exact .inr (List.mem_cons_of_mem _ h)
theorem LAt.base {hp : Nat → Option Ob} {e q i : Nat} {p0 : AV} : ∀ {ts : List Nd} {keys : List Nat} {pd : List AV} {w : Nat}, LAt hp e q i ts keys pd w → p0 ∈ pd → (∃ j, i ≤ j ∧ p0 = .rp q 4 j 0) ∨ baseK p0 ∈ keys
  | [], keys, pd, w, h, hm => by
    simp only [LAt] at h
    obtain ⟨_, rfl, _⟩ := h
    cases hm
  | t :: ts, keys, pd, w, h, hm => by
    simp only [LAt] at h
    obtain ⟨k1, k2, p1, p2, w1, w2, rfl, rfl, rfl, h1, h2⟩ := h
    rcases List.mem_append.1 hm with hm | hm
    · rcases At.base h1 hm with rfl | hm
      · exact .inl ⟨i, Nat.le_refl _, rfl⟩
      · exact .inr (List.mem_append_left _ hm)
    · rcases LAt.base h2 hm with ⟨j, hj, hm⟩ | hm
      · exact .inl ⟨j, by omega, hm⟩
      · exact .inr (List.mem_append_right _ hm)
end
mutual
theorem At.loc {hp : Nat → Option Ob} {e : Nat} {p p0 : AV} : ∀ {t : Nd} {keys : List Nat} {pd : List AV} {w : Nat}, At hp e p t keys pd w → isL 4 p → p0 ∈ pd → isL 4 p0
  | .mk k t c ks, keys, pd, w, h, hl, hm => by
    simp only [At] at h
    obtain ⟨v, _, ⟨_, _, rfl, _⟩ | ⟨_, _, _, rfl, _⟩ | ⟨q, rows, keys', _, _, _, rfl, h⟩⟩ := h
    · rw [List.mem_singleton.1 hm]; exact hl
    · cases hm
    · exact LAt.loc h hm
theorem LAt.loc {hp : Nat → Option Ob} {e q i : Nat} {p0 : AV} : ∀ {ts : List Nd} {keys : List Nat} {pd : List AV} {w : Nat}, LAt hp e q i ts keys pd w → p0 ∈ pd → isL 4 p0
  | [], keys, pd, w, h, hm => by
    simp only [LAt] at h
    obtain ⟨_, rfl, _⟩ := h
    cases hm
  | t :: ts, keys, pd, w, h, hm => by
    simp only [LAt] at h
    obtain ⟨k1, k2, p1, p2, w1, w2, rfl, rfl, rfl, h1, h2⟩ := h
    rcases List.mem_append.1 hm with hm | hm
    · exact At.loc h1 (.inl ⟨q, i, rfl⟩) hm
    · exact LAt.loc h2 hm
end
theorem app_last {α : Type} {a b S : List α} {x : α} (h : a ++ b = S ++ [x]) : (b = [] ∧ a = S ++ [x]) ∨ ∃ S2, b = S2 ++ [x] ∧ S = a ++ S2 := by
  rcases List.eq_nil_or_concat b with rfl | ⟨b', y, rfl⟩
  · exact .inl ⟨rfl, by simpa using h⟩
  · rw [List.concat_eq_append, ← List.append_assoc] at h
    have := List.append_inj' h rfl
    obtain ⟨h1, h2⟩ := this
    cases h2
    exact .inr ⟨b', List.concat_eq_append, h1.symm⟩
def Repl (hp : Nat → Option Ob) (e : Nat) (p0 : AV) (S : List AV) (w : Nat) (D : Nat → Prop) (keys : List Nat) (P : (Nat → Option Ob) → List Nat → List AV → Nat → Prop) : Prop :=
  ∃ t0 w0, At hp e p0 t0 [] [p0] t0.cnt ∧ w = w0 + t0.cnt ∧ ∀ hp' new ch w', Sim hp hp' e D p0 → At hp' e p0 t0 new ch w' → ∃ keys2, keys2.Perm (keys ++ new) ∧ P hp' keys2 (S ++ ch) (w0 + w')
theorem perm_mid {a b n : List Nat} {k2 : List Nat} (h : k2.Perm (a ++ n)) : (k2 ++ b).Perm (a ++ b ++ n) :=
  (h.append_right b).trans (by rw [List.append_assoc, List.append_assoc]; exact (List.perm_append_comm).append_left a)
mutual
theorem At.repl {hp : Nat → Option Ob} {e : Nat} {p p0 : AV} {S : List AV} : ∀ {t : Nd} {keys : List Nat} {w : Nat}, At hp e p t keys (S ++ [p0]) w → isL 4 p → (baseK p :: keys).Nodup →
    Repl hp e p0 S w (fun k => k = baseK p ∨ k ∈ keys) keys fun hp' keys2 pd w => At hp' e p t keys2 pd w
  | .mk k t c ks, keys, w, h, hl, hn => by
    have h0 := h
    simp only [At] at h
    obtain ⟨v, hc, ⟨rfl, rfl, h2, rfl⟩ | ⟨_, _, _, h2, _⟩ | ⟨q, rows, keys', rfl, hq, hlen, rfl, h⟩⟩ := h
    · cases S with
      | cons x S => cases S <;> simp at h2
      | nil =>
        obtain rfl : p0 = p := by simpa using h2
        refine ⟨.mk k t c ks, 0, h0, by simp [Nd.cnt], fun hp' new ch w' _ ha => ⟨new, by simp, by simpa using ha⟩⟩
    · simp at h2
    · have hn2 := List.nodup_cons.1 hn
      have hb : baseK p0 ∈ q :: keys' := by
        rcases LAt.base h (p0 := p0) (by simp) with ⟨j, _, rfl⟩ | h
        · exact List.mem_cons_self
        · exact List.mem_cons_of_mem _ h
      have hne : p ≠ p0 := fun e => hn2.1 (by rw [e]; exact hb)
      obtain ⟨t0, w0, r1, r2, r3⟩ := LAt.repl h hn2.2
      refine ⟨t0, w0, r1, r2, fun hp' new ch w' hs ha => ?_⟩
      obtain ⟨rows', h6, h7⟩ := hs.row q rows (.inr List.mem_cons_self) hq
      obtain ⟨keys2, hp2, hl2⟩ := r3 hp' new ch w' (hs.sub fun k hk => .inr (List.mem_cons.2 hk)) ha
      refine ⟨q :: keys2, by simpa using hp2, ?_⟩
      simp only [At]
      exact ⟨.orow q, by rw [hs.cell p (.inl rfl) hne hl, hc], .inr (.inr ⟨q, rows', keys2, rfl, h6, h7.trans hlen, rfl, hl2⟩)⟩
theorem LAt.repl {hp : Nat → Option Ob} {e q i : Nat} {p0 : AV} {S : List AV} : ∀ {ts : List Nd} {keys : List Nat} {w : Nat}, LAt hp e q i ts keys (S ++ [p0]) w → (q :: keys).Nodup →
    Repl hp e p0 S w (fun k => k = q ∨ k ∈ keys) keys fun hp' keys2 pd w => LAt hp' e q i ts keys2 pd w
  | [], keys, w, h, hn => by
    simp only [LAt] at h
    simp at h
  | t :: ts, keys, w, h, hn => by
    simp only [LAt] at h
    obtain ⟨k1, k2, p1, p2, w1, w2, rfl, hpd, rfl, h1, h2⟩ := h
    obtain ⟨hq, hn2⟩ := List.nodup_cons.1 hn
    obtain ⟨n1, n2, n12⟩ := List.nodup_append.1 hn2
    have hq1 : q ∉ k1 := fun h => hq (List.mem_append_left _ h)
    have hq2 : q ∉ k2 := fun h => hq (List.mem_append_right _ h)
    rcases app_last hpd.symm with ⟨rfl, rfl⟩ | ⟨S2, rfl, rfl⟩
    · have hb := At.base h1 (p0 := p0) (by simp)
      obtain ⟨t0, w0, r1, r2, r3⟩ := At.repl h1 (.inl ⟨q, i, rfl⟩) (List.nodup_cons.2 ⟨hq1, n1⟩)
      refine ⟨t0, w0 + w2, r1, by omega, fun hp' new ch w' hs ha => ?_⟩
      obtain ⟨keys2, hp2, hl2⟩ := r3 hp' new ch w' (hs.sub fun k hk => hk.imp id (List.mem_append_left _)) ha
      refine ⟨keys2 ++ k2, perm_mid hp2, ?_⟩
      simp only [LAt]
      refine ⟨keys2, k2, S ++ ch, [], w0 + w', w2, rfl, by simp, by omega, hl2, ?_⟩
      refine LAt.same h2 (hs.sub fun k hk => hk.imp id (List.mem_append_right _)) (fun j hj e => ?_) (fun hm => ?_)
      · rcases hb with rfl | hb
        · cases e; omega
        · rw [← e] at hb; exact hq1 hb
      · rcases hb with rfl | hb
        · exact hq2 hm
        · exact n12 _ hb _ hm rfl
    · have hb := LAt.base h2 (p0 := p0) (by simp)
      obtain ⟨t0, w0, r1, r2, r3⟩ := LAt.repl h2 (List.nodup_cons.2 ⟨hq2, n2⟩)
      refine ⟨t0, w1 + w0, r1, by omega, fun hp' new ch w' hs ha => ?_⟩
      obtain ⟨keys2, hp2, hl2⟩ := r3 hp' new ch w' (hs.sub fun k hk => hk.imp id (List.mem_append_right _)) ha
      refine ⟨k1 ++ keys2, by rw [List.append_assoc]; exact hp2.append_left k1, ?_⟩
      simp only [LAt]
      refine ⟨k1, keys2, p1, S2 ++ ch, w1, w0 + w', rfl, by simp, by omega, ?_, hl2⟩
      refine At.same h1 (.inl ⟨q, i, rfl⟩) (hs.sub fun k hk => hk.imp id (List.mem_append_left _)) (fun e => ?_) (fun hm => ?_)
      · rcases hb with ⟨j, hj, hb⟩ | hb
        · rw [hb] at e; cases e; omega
        · rw [← e] at hb; exact hq2 hb
      · rcases hb with ⟨j, hj, rfl⟩ | hb
        · exact hq1 hm
        · exact n12 _ hm _ hb rfl
end
theorem Sim.put {hp hp' : Nat → Option Ob} {e : Nat} {D : Nat → Prop} {p0 : AV} {c cs : List AV} (hl : isL 4 p0) (hc : cellsAt hp p0 = some cs) (h : ∀ k, D k → hp' k = putC hp p0 c k) : Sim hp hp' e D p0 :=
  ⟨fun q rows hq hr => by rw [h q hq]; exact putC_row hl hc hr, fun p hp hne hl' => (cellsAt_eq hl' (h _ hp)).trans (putC_cell hl hc hl' hne)⟩
def locs (q i n : Nat) : List AV := (List.range' i n).map fun j => .rp q 4 j 0
theorem LAt.fresh {hp : Nat → Option Ob} {e q : Nat} : ∀ {ts : List Nd} {i : Nat}, (∀ j x, ts[j]? = some x → cellsAt hp (.rp q 4 (i + j) 0) = some (x.enc.map AV.s)) → LAt hp e q i ts [] (locs q i ts.length) (Nd.cnts ts)
  | [], i, _ => by simp [LAt, locs, Nd.cnts]
  | .mk k t c ks :: ts, i, h => by
    simp only [LAt]
    refine ⟨[], [], [.rp q 4 i 0], locs q (i + 1) ts.length, Nd.cnts ks + 1, Nd.cnts ts, rfl, by simp [locs, List.range'_succ], by simp [Nd.cnts, Nd.cnt], ?_, LAt.fresh fun j x hj => ?_⟩
    · simp only [At]
      exact ⟨.s (.sl 4 (Nd.encs ks)), h 0 (.mk k t c ks) rfl, .inl (by simp)⟩
    · rw [show i + 1 + j = i + (j + 1) by omega]; exact h (j + 1) x (by simpa using hj)
theorem LAt.copied {hp : Nat → Option Ob} {e q : Nat} {ts : List Nd} (h : hp q = some (.arow e 4 ((Nd.encs ts).map (·.map AV.s)))) : LAt hp e q 0 ts [] (locs q 0 ts.length) (Nd.cnts ts) :=
  LAt.fresh fun j x hj => by
    rw [cellsAt_rp h, Nat.zero_add, Nd.encs_eq, List.map_map, List.getElem?_map, hj]; rfl
theorem rd_flat {hp : Nat → Option Ob} : ∀ {rows : List (List AV)} {rs : List (List S)}, (∀ (j : Nat) r s, rows[j]? = some r → rs[j]? = some s → r.length = s.length ∧ ∀ (i : Nat) x y, r[i]? = some x → s[i]? = some y → Rd hp x y) → ∀ (i : Nat) x y, rows.flatten[i]? = some x → rs.flatten[i]? = some y → Rd hp x y
  | [], _, _, _, _, _, h, _ => by simp at h
  | _ :: _, [], _, _, _, _, _, h => by simp at h
  | r :: rows, s :: rs, h, i, x, y, hx, hy => by
    obtain ⟨hl, h0⟩ := h 0 r s (by simp) (by simp)
    rw [List.flatten_cons, List.getElem?_append] at hx hy
    by_cases hi : i < r.length
    · rw [if_pos hi] at hx
      rw [if_pos (hl ▸ hi)] at hy
      exact h0 i x y hx hy
    · rw [if_neg hi] at hx
      rw [if_neg (hl ▸ hi), ← hl] at hy
      exact rd_flat (fun j r s hr hs => h (j + 1) r s (by simpa using hr) (by simpa using hs)) _ x y hx hy
def RdC (hp : Nat → Option Ob) (cs : List AV) (ss : List S) : Prop := cs.length = ss.length ∧ ∀ (i : Nat) x y, cs[i]? = some x → ss[i]? = some y → Rd hp x y
theorem RdC.node {hp : Nat → Option Ob} {k : Int} {t : List UInt8} {c : Int} {ks : List Nd} {v : AV} (h : Rd hp v (.sl 4 (Nd.encs ks))) : RdC hp (ncells k t c v) (Nd.enc (.mk k t c ks)) :=
  ⟨rfl, fun i x y hx hy => by
    match i with
    | 0 => cases hx; cases hy; exact .s _
    | 1 => cases hx; cases hy; exact .s _
    | 2 => cases hx; cases hy; exact .s _
    | 3 => cases hx; cases hy; exact h
    | i + 4 => simp [ncells] at hx⟩
theorem Rd.rows {hp : Nat → Option Ob} {q e : Nat} {rows : List (List AV)} {ks : List Nd} (hq : hp q = some (.arow e 4 rows)) (hl : rows.length = ks.length) (h : ∀ j x, ks[j]? = some x → ∃ cs, cellsAt hp (.rp q 4 j 0) = some cs ∧ RdC hp cs x.enc) : Rd hp (.orow q) (.sl 4 (Nd.encs ks)) := by
  rw [Nd.encs_eq]
  refine .arow hq (by simpa using hl) (fun r hr => ?_) (rd_flat fun j r s hr hs => ?_)
  · obtain ⟨x, _, rfl⟩ := List.mem_map.1 hr
    cases x; rfl
  · rw [List.getElem?_map] at hs
    cases hx : ks[j]? with
    | none => rw [hx] at hs; cases hs
    | some x =>
      rw [hx] at hs; cases hs
      obtain ⟨cs, h1, h2⟩ := h j x hx
      rw [cellsAt_rp hq, hr] at h1
      cases h1
      exact h2
mutual
theorem At.rd {hp : Nat → Option Ob} {e : Nat} {p : AV} : ∀ {t : Nd} {keys : List Nat} {pd : List AV} {w : Nat}, At hp e p t keys pd w → ∃ cs, cellsAt hp p = some cs ∧ RdC hp cs t.enc
  | .mk k t c ks, keys, pd, w, h => by
    simp only [At] at h
    obtain ⟨v, hc, ⟨rfl, _⟩ | ⟨rfl, rfl, _⟩ | ⟨q, rows, keys', rfl, hq, hlen, rfl, h⟩⟩ := h
    · exact ⟨_, hc, .node (.s _)⟩
    · exact ⟨_, hc, .node (.s _)⟩
    · exact ⟨_, hc, .node (Rd.rows hq hlen fun j x hj => (by have := LAt.rd h j x hj; rwa [Nat.zero_add] at this))⟩
theorem LAt.rd {hp : Nat → Option Ob} {e q i : Nat} : ∀ {ts : List Nd} {keys : List Nat} {pd : List AV} {w : Nat}, LAt hp e q i ts keys pd w → ∀ j x, ts[j]? = some x → ∃ cs, cellsAt hp (.rp q 4 (i + j) 0) = some cs ∧ RdC hp cs x.enc
  | [], keys, pd, w, h, j, x, hj => by simp at hj
  | t :: ts, keys, pd, w, h, 0, x, hj => by
    simp only [LAt] at h
    obtain ⟨k1, k2, p1, p2, w1, w2, rfl, rfl, rfl, h1, h2⟩ := h
    cases hj
    exact At.rd h1
  | t :: ts, keys, pd, w, h, j + 1, x, hj => by
    simp only [LAt] at h
    obtain ⟨k1, k2, p1, p2, w1, w2, rfl, rfl, rfl, h1, h2⟩ := h
    rw [show i + (j + 1) = i + 1 + j by omega]
    exact LAt.rd h2 j x (by simpa using hj)
end
theorem rdV_node {hp : Nat → Option Ob} {cs : List AV} {t : Nd} (h : RdC hp cs t.enc) : RdV hp (.agg cs) (.agg (t.enc.map AV.s)) := by
  refine ⟨by simpa using h.1, fun i x y hx hy => ?_⟩
  rw [List.getElem?_map] at hy
  cases hs : t.enc[i]? with
  | none => rw [hs] at hy; cases hy
  | some s => rw [hs] at hy; cases hy; exact ⟨s, rfl, h.2 i x s hx hs⟩
def Hole (hp : Nat → Option Ob) (e : Nat) (p : AV) (keys : List Nat) (p1 : AV) (y : Nd) (F : Nd → Nd) : Prop :=
  ∃ keys0 rest w0, keys.Perm (keys0 ++ rest) ∧ At hp e p1 y keys0 [] w0 ∧ isL 4 p1 ∧ (p1 = p ∨ baseK p1 ∈ rest) ∧
    ∀ hp' t1 new w1, Sim hp hp' e (fun k => k = baseK p ∨ k ∈ rest) p1 → At hp' e p1 t1 new [] w1 → ∃ keys2 w2, keys2.Perm (rest ++ new) ∧ At hp' e p (F t1) keys2 [] w2
theorem Hole.refl {hp : Nat → Option Ob} {e w : Nat} {p : AV} {t : Nd} {keys : List Nat} (h : At hp e p t keys [] w) (hl : isL 4 p) : Hole hp e p keys p t id :=
  ⟨keys, [], w, by simp, h, hl, .inl rfl, fun hp' t1 new w1 _ h1 => ⟨new, w1, by simp, h1⟩⟩
theorem LAt.hole {hp : Nat → Option Ob} {e q : Nat} {x : Nd} : ∀ {ts : List Nd} {keys : List Nat} {w i j : Nat}, LAt hp e q i ts keys [] w → (q :: keys).Nodup → ts[j]? = some x →
    ∃ keys0 rest w0, keys.Perm (keys0 ++ rest) ∧ At hp e (.rp q 4 (i + j) 0) x keys0 [] w0 ∧ ∀ hp' t1 new w1, Sim hp hp' e (fun k => k = q ∨ k ∈ rest) (.rp q 4 (i + j) 0) → At hp' e (.rp q 4 (i + j) 0) t1 new [] w1 →
      ∃ keys2 w2, keys2.Perm (rest ++ new) ∧ LAt hp' e q i (ts.set j t1) keys2 [] w2
  | [], keys, w, i, j, h, hn, hx => by simp at hx
  | t :: ts, keys, w, i, 0, h, hn, hx => by
    simp only [LAt] at h
    obtain ⟨k1, k2, p1, p2, w1, w2, rfl, hpd, rfl, h1, h2⟩ := h
    obtain ⟨rfl, rfl⟩ := List.append_eq_nil_iff.1 hpd.symm
    cases hx
    have hq := (List.nodup_cons.1 hn).1
    refine ⟨k1, k2, w1, List.Perm.refl _, h1, fun hp' t1 new w3 hs h3 => ⟨new ++ k2, w3 + w2, List.perm_append_comm, ?_⟩⟩
    simp only [List.set_cons_zero, LAt]
    exact ⟨new, k2, [], [], w3, w2, rfl, rfl, rfl, h3, LAt.same h2 hs (fun j hj e => by cases e; omega) (fun hm => hq (List.mem_append_right _ hm))⟩
  | t :: ts, keys, w, i, j + 1, h, hn, hx => by
    simp only [LAt] at h
    obtain ⟨k1, k2, p1, p2, w1, w2, rfl, hpd, rfl, h1, h2⟩ := h
    obtain ⟨rfl, rfl⟩ := List.append_eq_nil_iff.1 hpd.symm
    obtain ⟨hq, hn2⟩ := List.nodup_cons.1 hn
    obtain ⟨n1, n2, _⟩ := List.nodup_append.1 hn2
    obtain ⟨keys0, rest, w0, r1, r2, r3⟩ := LAt.hole (i := i + 1) (j := j) h2 (List.nodup_cons.2 ⟨fun hm => hq (List.mem_append_right _ hm), n2⟩) (by simpa using hx)
    rw [show i + 1 + j = i + (j + 1) by omega] at r2 r3
    refine ⟨keys0, k1 ++ rest, w0, List.perm_iff_count.2 fun a => ?_, r2, fun hp' t1 new w3 hs h3 => ?_⟩
    · have := r1.count_eq a
      simp only [List.count_append] at this ⊢
      omega
    · obtain ⟨keys2, w4, q1, q2⟩ := r3 hp' t1 new w3 (hs.sub fun k hk => hk.imp id (List.mem_append_right _)) h3
      refine ⟨k1 ++ keys2, w1 + w4, by rw [List.append_assoc]; exact q1.append_left k1, ?_⟩
      simp only [List.set_cons_succ, LAt]
      exact ⟨k1, keys2, [], [], w1, w4, rfl, rfl, rfl, At.same h1 (.inl ⟨q, i, rfl⟩) (hs.sub fun k hk => hk.imp id (List.mem_append_left _)) (fun e => by injection e with e1 e2 e3 e4; omega) (fun hm => hq (List.mem_append_left _ hm)), q2⟩
theorem Hole.kid {hp : Nat → Option Ob} {e w i : Nat} {p : AV} {k c : Int} {tx : List UInt8} {ks : List Nd} {x : Nd} {keys : List Nat} (h : At hp e p (.mk k tx c ks) keys [] w) (hl : isL 4 p) (hn : (baseK p :: keys).Nodup) (hx : ks[i]? = some x) :
    ∃ q rows, cellsAt hp p = some (ncells k tx c (.orow q)) ∧ hp q = some (.arow e 4 rows) ∧ rows.length = ks.length ∧ Hole hp e p keys (.rp q 4 i 0) x (fun x' => .mk k tx c (ks.set i x')) := by
  simp only [At] at h
  obtain ⟨v, hc, ⟨_, _, h, _⟩ | ⟨rfl, _⟩ | ⟨q, rows, keys', rfl, hq, hlen, rfl, h⟩⟩ := h
  · cases h
  · simp at hx
  · obtain ⟨hb, hn2⟩ := List.nodup_cons.1 hn
    obtain ⟨keys0, rest, w0, r1, r2, r3⟩ := LAt.hole h hn2 hx
    rw [Nat.zero_add] at r2 r3
    refine ⟨q, rows, hc, hq, hlen, keys0, q :: rest, w0, List.perm_iff_count.2 fun a => ?_, r2, .inl ⟨q, i, rfl⟩, .inr List.mem_cons_self, fun hp' t1 new w1 hs h1 => ?_⟩
    · have := r1.count_eq a
      simp only [List.count_append, List.count_cons] at this ⊢
      omega
    · obtain ⟨rows', g1, g2⟩ := hs.row q rows (.inr List.mem_cons_self) hq
      obtain ⟨keys2, w2, q1, q2⟩ := r3 hp' t1 new w1 (hs.sub fun k hk => .inr (List.mem_cons.2 hk)) h1
      refine ⟨q :: keys2, w2, by simpa using q1, ?_⟩
      simp only [At]
      refine ⟨.orow q, by rw [hs.cell p (.inl rfl) (fun e => hb (by rw [e]; exact List.mem_cons_self)) hl, hc], .inr (.inr ⟨q, rows', keys2, rfl, g1, by rw [g2, hlen, List.length_set], rfl, q2⟩)⟩
theorem Hole.trans {hp : Nat → Option Ob} {e : Nat} {p p1 p2 : AV} {y z : Nd} {keys : List Nat} {F F2 : Nd → Nd} (hn : (baseK p :: keys).Nodup) (h : Hole hp e p keys p1 y F) (k : ∀ keys0 w0, At hp e p1 y keys0 [] w0 → isL 4 p1 → (baseK p1 :: keys0).Nodup → Hole hp e p1 keys0 p2 z F2) : Hole hp e p keys p2 z (fun x => F (F2 x)) := by
  obtain ⟨keys0, rest, w0, a1, a2, a3, a4, a5⟩ := h
  obtain ⟨hb, hnk⟩ := List.nodup_cons.1 hn
  obtain ⟨n0, n1, n01⟩ := List.nodup_append.1 (a1.nodup_iff.1 hnk)
  have hb1 : baseK p1 ∉ keys0 := fun hm => by
    rcases a4 with rfl | a4
    · exact hb (a1.mem_iff.2 (List.mem_append_left _ hm))
    · exact n01 _ hm _ a4 rfl
  obtain ⟨keys1, rest1, w1, b1, b2, b3, b4, b5⟩ := k keys0 w0 a2 a3 (List.nodup_cons.2 ⟨hb1, n0⟩)
  refine ⟨keys1, rest1 ++ rest, w1, List.perm_iff_count.2 fun a => ?_, b2, b3, ?_, fun hp' t1 new w2 hs h2 => ?_⟩
  · have := a1.count_eq a
    have := b1.count_eq a
    simp only [List.count_append] at *
    omega
  · rcases b4 with rfl | b4
    · exact a4.imp id (List.mem_append_right _)
    · exact .inr (List.mem_append_left _ b4)
  · have hp1 : baseK p1 = baseK p ∨ baseK p1 ∈ rest := a4.imp (fun e => by rw [e]) id
    obtain ⟨keysA, wA, q1, q2⟩ := b5 hp' t1 new w2 (hs.sub fun k hk => by
      rcases hk with rfl | hk
      · exact hp1.imp id (List.mem_append_right _)
      · exact .inr (List.mem_append_left _ hk)) h2
    have hs1 : Sim hp hp' e (fun k => k = baseK p ∨ k ∈ rest) p1 := ⟨fun q rows hq => hs.row q rows (hq.imp id (List.mem_append_right _)), fun p' hp' hne hl' => by
      by_cases e2 : p' = p2
      · subst e2
        rcases b4 with b4 | b4
        · exact absurd b4 hne
        · exfalso
          have hm : baseK p' ∈ keys0 := b1.mem_iff.2 (List.mem_append_right _ b4)
          rcases hp' with h3 | h3
          · exact hb (a1.mem_iff.2 (List.mem_append_left _ (by rw [← h3]; exact hm)))
          · exact n01 _ hm _ h3 rfl
      · exact hs.cell p' (hp'.imp id (List.mem_append_right _)) e2 hl'⟩
    obtain ⟨keysB, wB, q3, q4⟩ := a5 hp' (F2 t1) keysA wA hs1 q2
    refine ⟨keysB, wB, List.perm_iff_count.2 fun a => ?_, q4⟩
    have := q1.count_eq a
    have := q3.count_eq a
    simp only [List.count_append] at *
    omega
end Go.Proofs.YtefbmooajknmgaaDoor
namespace Go.Proofs.YtefbmooajknmgaaDoor
open Go.Abs
def tab : List (Nat × TI) := [
  (3, ⟨.int .i64, 1, 8, [.int .i64 0]⟩),
  (4, ⟨.bool, 1, 1, [.bool false]⟩),
  (9, ⟨.str, 1, 16, [.str []]⟩),
  (24, ⟨.slice 26, 1, 24, [.sl 4 []]⟩),
  (26, ⟨.struct [(0, 3), (1, 9), (2, 3), (3, 24)], 4, 56, [.int .i64 0, .str [], .int .i64 0, .sl 4 []]⟩),
  (33, ⟨.slice 3, 1, 24, [.sl 1 []]⟩),
  (41, ⟨.arr 2 33, 2, 48, [.sl 1 [], .sl 1 []]⟩)]
def T (t : Nat) : Option TI := look? t tab
theorem tabok : ∀ p ∈ tab, okT Tryd.prog p.1 p.2 := by
  simp only [tab, List.forall_mem_cons]
  refine ⟨?_, ?_, ?_, ?_, ?_, ?_, ?_, by simp⟩
  · exact ⟨_, Tryd.t3, _, Tryd.underlying3, rfl, by kernel_rfl, rfl, rfl, rfl, rfl, rfl, fun _ => rfl, rfl⟩
  · exact ⟨_, Tryd.t4, _, Tryd.underlying4, rfl, by kernel_rfl, rfl, rfl, rfl, rfl, rfl, fun _ => rfl, rfl⟩
  · exact ⟨_, Tryd.t9, _, Tryd.underlying9, rfl, by kernel_rfl, rfl, rfl, rfl, rfl, rfl, fun _ => rfl, rfl⟩
  · exact ⟨_, Tryd.t24, _, Tryd.underlying24, rfl, by kernel_rfl, rfl, rfl, rfl, rfl, rfl, fun _ => rfl, rfl⟩
  · exact ⟨_, Tryd.t26, _, Tryd.underlying26, rfl, by kernel_rfl, rfl, rfl, rfl, rfl, rfl, (fun h => by cases h), rfl⟩
  · exact ⟨_, Tryd.t33, _, Tryd.underlying33, rfl, by kernel_rfl, rfl, rfl, rfl, rfl, rfl, fun _ => rfl, rfl⟩
  · exact ⟨_, Tryd.t41, _, Tryd.underlying41, rfl, by kernel_rfl, rfl, rfl, rfl, rfl, rfl, (fun h => by cases h), rfl⟩
theorem tok : TOk Tryd.prog T := tok_of tabok
theorem tcl : ∀ t i, T t = some i → closedAt T i = true := closed_of (by rfl)
def tabX : List (Nat × TI) := [
  (2, ⟨.int .i64, 1, 8, [.int .i64 0]⟩),
  (5, ⟨.int .u8, 1, 1, [.int .u8 0]⟩),
  (23, ⟨.fn, 1, 8, [.nf]⟩),
  (29, ⟨.fn, 1, 8, [.nf]⟩),
  (34, ⟨.int .i64, 1, 8, [.int .i64 0]⟩),
  (47, ⟨.slice 9, 1, 24, [.sl 1 []]⟩),
  (51, ⟨.ptr 61, 1, 8, [.np]⟩),
  (53, ⟨.struct [(0, 9), (1, 3), (2, 23)], 3, 32, [.str [], .int .i64 0, .nf]⟩),
  (54, ⟨.arr 13 53, 39, 416, [.str [], .int .i64 0, .nf, .str [], .int .i64 0, .nf, .str [], .int .i64 0, .nf, .str [], .int .i64 0, .nf, .str [], .int .i64 0, .nf, .str [], .int .i64 0, .nf, .str [], .int .i64 0, .nf, .str [], .int .i64 0, .nf, .str [], .int .i64 0, .nf, .str [], .int .i64 0, .nf, .str [], .int .i64 0, .nf, .str [], .int .i64 0, .nf, .str [], .int .i64 0, .nf]⟩),
  (56, ⟨.ptr 59, 1, 8, [.np]⟩),
  (57, ⟨.slice 5, 1, 24, [.sl 1 []]⟩),
  (59, ⟨.struct [(0, 56), (1, 57)], 2, 32, [.np, .sl 1 []]⟩),
  (61, ⟨.struct [(0, 54), (39, 59)], 41, 448, [.str [], .int .i64 0, .nf, .str [], .int .i64 0, .nf, .str [], .int .i64 0, .nf, .str [], .int .i64 0, .nf, .str [], .int .i64 0, .nf, .str [], .int .i64 0, .nf, .str [], .int .i64 0, .nf, .str [], .int .i64 0, .nf, .str [], .int .i64 0, .nf, .str [], .int .i64 0, .nf, .str [], .int .i64 0, .nf, .str [], .int .i64 0, .nf, .str [], .int .i64 0, .nf, .np, .sl 1 []]⟩),
  (63, ⟨.ptr 26, 1, 8, [.np]⟩),
  (65, ⟨.struct [(0, 63), (1, 3)], 2, 16, [.np, .int .i64 0]⟩),
  (66, ⟨.slice 65, 1, 24, [.sl 2 []]⟩),
  (67, ⟨.ptr 65, 1, 8, [.np]⟩),
  (72, ⟨.arr 13 9, 13, 208, [.str [], .str [], .str [], .str [], .str [], .str [], .str [], .str [], .str [], .str [], .str [], .str [], .str []]⟩),
  (77, ⟨.ptr 79, 1, 8, [.np]⟩),
  (79, ⟨.struct [(0, 54), (39, 3)], 40, 424, [.str [], .int .i64 0, .nf, .str [], .int .i64 0, .nf, .str [], .int .i64 0, .nf, .str [], .int .i64 0, .nf, .str [], .int .i64 0, .nf, .str [], .int .i64 0, .nf, .str [], .int .i64 0, .nf, .str [], .int .i64 0, .nf, .str [], .int .i64 0, .nf, .str [], .int .i64 0, .nf, .str [], .int .i64 0, .nf, .str [], .int .i64 0, .nf, .str [], .int .i64 0, .nf, .int .i64 0]⟩),
  (84, ⟨.fn, 1, 8, [.nf]⟩),
  (95, ⟨.ptr 5, 1, 8, [.np]⟩),
  (98, ⟨.struct [(0, 63), (1, 3)], 2, 16, [.np, .int .i64 0]⟩),
  (99, ⟨.slice 98, 1, 24, [.sl 2 []]⟩),
  (100, ⟨.slice 63, 1, 24, [.sl 1 []]⟩),
  (106, ⟨.int .u64, 1, 8, [.int .u64 0]⟩),
  (108, ⟨.int .u32, 1, 4, [.int .u32 0]⟩),
  (111, ⟨.arr 24 5, 24, 24, [.int .u8 0, .int .u8 0, .int .u8 0, .int .u8 0, .int .u8 0, .int .u8 0, .int .u8 0, .int .u8 0, .int .u8 0, .int .u8 0, .int .u8 0, .int .u8 0, .int .u8 0, .int .u8 0, .int .u8 0, .int .u8 0, .int .u8 0, .int .u8 0, .int .u8 0, .int .u8 0, .int .u8 0, .int .u8 0, .int .u8 0, .int .u8 0]⟩),
  (112, ⟨.int .u64, 1, 8, [.int .u64 0]⟩),
  (118, ⟨.arr 20 112, 20, 160, [.int .u64 0, .int .u64 0, .int .u64 0, .int .u64 0, .int .u64 0, .int .u64 0, .int .u64 0, .int .u64 0, .int .u64 0, .int .u64 0, .int .u64 0, .int .u64 0, .int .u64 0, .int .u64 0, .int .u64 0, .int .u64 0, .int .u64 0, .int .u64 0, .int .u64 0, .int .u64 0]⟩),
  (119, ⟨.arr 65 5, 65, 65, [.int .u8 0, .int .u8 0, .int .u8 0, .int .u8 0, .int .u8 0, .int .u8 0, .int .u8 0, .int .u8 0, .int .u8 0, .int .u8 0, .int .u8 0, .int .u8 0, .int .u8 0, .int .u8 0, .int .u8 0, .int .u8 0, .int .u8 0, .int .u8 0, .int .u8 0, .int .u8 0, .int .u8 0, .int .u8 0, .int .u8 0, .int .u8 0, .int .u8 0, .int .u8 0, .int .u8 0, .int .u8 0, .int .u8 0, .int .u8 0, .int .u8 0, .int .u8 0, .int .u8 0, .int .u8 0, .int .u8 0, .int .u8 0, .int .u8 0, .int .u8 0, .int .u8 0, .int .u8 0, .int .u8 0, .int .u8 0, .int .u8 0, .int .u8 0, .int .u8 0, .int .u8 0, .int .u8 0, .int .u8 0, .int .u8 0, .int .u8 0, .int .u8 0, .int .u8 0, .int .u8 0, .int .u8 0, .int .u8 0, .int .u8 0, .int .u8 0, .int .u8 0, .int .u8 0, .int .u8 0, .int .u8 0, .int .u8 0, .int .u8 0, .int .u8 0, .int .u8 0]⟩),
  (123, ⟨.arr 32 5, 32, 32, [.int .u8 0, .int .u8 0, .int .u8 0, .int .u8 0, .int .u8 0, .int .u8 0, .int .u8 0, .int .u8 0, .int .u8 0, .int .u8 0, .int .u8 0, .int .u8 0, .int .u8 0, .int .u8 0, .int .u8 0, .int .u8 0, .int .u8 0, .int .u8 0, .int .u8 0, .int .u8 0, .int .u8 0, .int .u8 0, .int .u8 0, .int .u8 0, .int .u8 0, .int .u8 0, .int .u8 0, .int .u8 0, .int .u8 0, .int .u8 0, .int .u8 0, .int .u8 0]⟩),
  (124, ⟨.arr 64 5, 64, 64, [.int .u8 0, .int .u8 0, .int .u8 0, .int .u8 0, .int .u8 0, .int .u8 0, .int .u8 0, .int .u8 0, .int .u8 0, .int .u8 0, .int .u8 0, .int .u8 0, .int .u8 0, .int .u8 0, .int .u8 0, .int .u8 0, .int .u8 0, .int .u8 0, .int .u8 0, .int .u8 0, .int .u8 0, .int .u8 0, .int .u8 0, .int .u8 0, .int .u8 0, .int .u8 0, .int .u8 0, .int .u8 0, .int .u8 0, .int .u8 0, .int .u8 0, .int .u8 0, .int .u8 0, .int .u8 0, .int .u8 0, .int .u8 0, .int .u8 0, .int .u8 0, .int .u8 0, .int .u8 0, .int .u8 0, .int .u8 0, .int .u8 0, .int .u8 0, .int .u8 0, .int .u8 0, .int .u8 0, .int .u8 0, .int .u8 0, .int .u8 0, .int .u8 0, .int .u8 0, .int .u8 0, .int .u8 0, .int .u8 0, .int .u8 0, .int .u8 0, .int .u8 0, .int .u8 0, .int .u8 0, .int .u8 0, .int .u8 0, .int .u8 0, .int .u8 0]⟩)]
theorem tabXok : ∀ p ∈ tabX, okT Tryd.prog p.1 p.2 := by
  simp only [tabX, List.forall_mem_cons]
  refine ⟨?_, ?_, ?_, ?_, ?_, ?_, ?_, ?_, ?_, ?_, ?_, ?_, ?_, ?_, ?_, ?_, ?_, ?_, ?_, ?_, ?_, ?_, ?_, ?_, ?_, ?_, ?_, ?_, ?_, ?_, ?_, ?_, ?_, by simp⟩
  · exact ⟨_, Tryd.t2, _, Tryd.underlying2, rfl, by kernel_rfl, rfl, rfl, rfl, rfl, rfl, fun _ => rfl, rfl⟩
  · exact ⟨_, Tryd.t5, _, Tryd.underlying5, rfl, by kernel_rfl, rfl, rfl, rfl, rfl, rfl, fun _ => rfl, rfl⟩
  · exact ⟨_, Tryd.t23, _, Tryd.underlying23, rfl, by kernel_rfl, rfl, rfl, rfl, rfl, rfl, fun _ => rfl, rfl⟩
  · exact ⟨_, Tryd.t29, _, Tryd.underlying29, rfl, by kernel_rfl, rfl, rfl, rfl, rfl, rfl, fun _ => rfl, rfl⟩
  · exact ⟨_, Tryd.t34, _, Tryd.underlying34, rfl, by kernel_rfl, rfl, rfl, rfl, rfl, rfl, fun _ => rfl, rfl⟩
  · exact ⟨_, Tryd.t47, _, Tryd.underlying47, rfl, by kernel_rfl, rfl, rfl, rfl, rfl, rfl, fun _ => rfl, rfl⟩
  · exact ⟨_, Tryd.t51, _, Tryd.underlying51, rfl, by kernel_rfl, rfl, rfl, rfl, rfl, rfl, fun _ => rfl, rfl⟩
  · exact ⟨_, Tryd.t53, _, Tryd.underlying53, rfl, by kernel_rfl, rfl, rfl, rfl, rfl, rfl, (fun h => by cases h), rfl⟩
  · exact ⟨_, Tryd.t54, _, Tryd.underlying54, rfl, by kernel_rfl, rfl, rfl, rfl, rfl, rfl, (fun h => by cases h), rfl⟩
  · exact ⟨_, Tryd.t56, _, Tryd.underlying56, rfl, by kernel_rfl, rfl, rfl, rfl, rfl, rfl, fun _ => rfl, rfl⟩
  · exact ⟨_, Tryd.t57, _, Tryd.underlying57, rfl, by kernel_rfl, rfl, rfl, rfl, rfl, rfl, fun _ => rfl, rfl⟩
  · exact ⟨_, Tryd.t59, _, Tryd.underlying59, rfl, by kernel_rfl, rfl, rfl, rfl, rfl, rfl, (fun h => by cases h), rfl⟩
  · exact ⟨_, Tryd.t61, _, Tryd.underlying61, rfl, by kernel_rfl, rfl, rfl, rfl, rfl, rfl, (fun h => by cases h), rfl⟩
  · exact ⟨_, Tryd.t63, _, Tryd.underlying63, rfl, by kernel_rfl, rfl, rfl, rfl, rfl, rfl, fun _ => rfl, rfl⟩
  · exact ⟨_, Tryd.t65, _, Tryd.underlying65, rfl, by kernel_rfl, rfl, rfl, rfl, rfl, rfl, (fun h => by cases h), rfl⟩
  · exact ⟨_, Tryd.t66, _, Tryd.underlying66, rfl, by kernel_rfl, rfl, rfl, rfl, rfl, rfl, fun _ => rfl, rfl⟩
  · exact ⟨_, Tryd.t67, _, Tryd.underlying67, rfl, by kernel_rfl, rfl, rfl, rfl, rfl, rfl, fun _ => rfl, rfl⟩
  · exact ⟨_, Tryd.t72, _, Tryd.underlying72, rfl, by kernel_rfl, rfl, rfl, rfl, rfl, rfl, (fun h => by cases h), rfl⟩
  · exact ⟨_, Tryd.t77, _, Tryd.underlying77, rfl, by kernel_rfl, rfl, rfl, rfl, rfl, rfl, fun _ => rfl, rfl⟩
  · exact ⟨_, Tryd.t79, _, Tryd.underlying79, rfl, by kernel_rfl, rfl, rfl, rfl, rfl, rfl, (fun h => by cases h), rfl⟩
  · exact ⟨_, Tryd.t84, _, Tryd.underlying84, rfl, by kernel_rfl, rfl, rfl, rfl, rfl, rfl, fun _ => rfl, rfl⟩
  · exact ⟨_, Tryd.t95, _, Tryd.underlying95, rfl, by kernel_rfl, rfl, rfl, rfl, rfl, rfl, fun _ => rfl, rfl⟩
  · exact ⟨_, Tryd.t98, _, Tryd.underlying98, rfl, by kernel_rfl, rfl, rfl, rfl, rfl, rfl, (fun h => by cases h), rfl⟩
  · exact ⟨_, Tryd.t99, _, Tryd.underlying99, rfl, by kernel_rfl, rfl, rfl, rfl, rfl, rfl, fun _ => rfl, rfl⟩
  · exact ⟨_, Tryd.t100, _, Tryd.underlying100, rfl, by kernel_rfl, rfl, rfl, rfl, rfl, rfl, fun _ => rfl, rfl⟩
  · exact ⟨_, Tryd.t106, _, Tryd.underlying106, rfl, by kernel_rfl, rfl, rfl, rfl, rfl, rfl, fun _ => rfl, rfl⟩
  · exact ⟨_, Tryd.t108, _, Tryd.underlying108, rfl, by kernel_rfl, rfl, rfl, rfl, rfl, rfl, fun _ => rfl, rfl⟩
  · exact ⟨_, Tryd.t111, _, Tryd.underlying111, rfl, by kernel_rfl, rfl, rfl, rfl, rfl, rfl, (fun h => by cases h), rfl⟩
  · exact ⟨_, Tryd.t112, _, Tryd.underlying112, rfl, by kernel_rfl, rfl, rfl, rfl, rfl, rfl, fun _ => rfl, rfl⟩
  · exact ⟨_, Tryd.t118, _, Tryd.underlying118, rfl, by kernel_rfl, rfl, rfl, rfl, rfl, rfl, (fun h => by cases h), rfl⟩
  · exact ⟨_, Tryd.t119, _, Tryd.underlying119, rfl, by kernel_rfl, rfl, rfl, rfl, rfl, rfl, (fun h => by cases h), rfl⟩
  · exact ⟨_, Tryd.t123, _, Tryd.underlying123, rfl, by kernel_rfl, rfl, rfl, rfl, rfl, rfl, (fun h => by cases h), rfl⟩
  · exact ⟨_, Tryd.t124, _, Tryd.underlying124, rfl, by kernel_rfl, rfl, rfl, rfl, rfl, rfl, (fun h => by cases h), rfl⟩
def TW (t : Nat) : Option TI := look? t (tab ++ tabX)
theorem tokW : TOk Tryd.prog TW := tok_of fun p hp => (List.mem_append.1 hp).elim (tabok p) (tabXok p)
theorem mixed : Tryd.prog.follows .mixedOrders = true := by kernel_rfl
end Go.Proofs.YtefbmooajknmgaaDoor
set_option linter.unusedVariables false
namespace Go.Proofs
set_option maxHeartbeats 1000000 in
set_option maxRecDepth 100000 in
theorem Tryd.stringslite_IndexByte (s : ByteArray) (c : Int) (w : World) :
    Calls Tryd.prog 88 #[.string s, .int .u8 c] w fun e w' => e = .returned (.int .i64 (Lib.indexByte s.data.toList c.toNat.toUInt8)) ∧ w' = w := by
  go_enter Tryd.func88, Tryd.ntmps88
  go_wp2
  rw [run_callFunc_extern Tryd.func93 (by kernel_rfl) (by kernel_rfl) (by kernel_rfl) (e := Extern.BytealgIndexByte.indexByte) (by kernel_rfl), Lib.run_indexByteString]
  simp only [Result.andThen]
  rw [Oper.upon_value]
  go_wp2
  go_ret
  exact ⟨rfl, rfl⟩
set_option maxHeartbeats 2000000 in
set_option maxRecDepth 100000 in
theorem Tryd.stringslite_Index_one (s : ByteArray) (c : UInt8) (w : World) :
    Calls Tryd.prog 83 #[.string s, .string ⟨#[c]⟩] w fun e w' => e = .returned (.int .i64 (Lib.indexByte s.data.toList c)) ∧ w' = w := by
  go_enter Tryd.func83, Tryd.ntmps83
  go_wp2_with (go_at_call 88; refine (Tryd.stringslite_IndexByte _ _ _).mono ?_; rintro e w' ⟨rfl, rfl⟩)
  · have h : ([c] == s.toList) = true := by assumption
    go_ret
    refine ⟨?_, rfl⟩
    have e : s.data.toList = [c] := by rw [← Lib.toList_data]; exact (beq_iff_eq.1 h).symm
    rw [e]
    simp [Lib.indexByte]
  · go_ret
    exact ⟨rfl, rfl⟩
set_option maxHeartbeats 1000000 in
theorem Tryd.strings_IndexByte (s : ByteArray) (c : Int) (w : World) :
    Calls Tryd.prog 84 #[.string s, .int .u8 c] w fun e w' => e = .returned (.int .i64 (Lib.indexByte s.data.toList c.toNat.toUInt8)) ∧ w' = w := by
  go_enter Tryd.func84, Tryd.ntmps84
  go_wp2_with (go_at_call 88; refine (Tryd.stringslite_IndexByte _ _ _).mono ?_; rintro e w' ⟨rfl, rfl⟩)
  go_ret
  exact ⟨rfl, rfl⟩
set_option maxHeartbeats 1000000 in
theorem Tryd.strings_Index_one (s : ByteArray) (c : UInt8) (w : World) :
    Calls Tryd.prog 70 #[.string s, .string ⟨#[c]⟩] w fun e w' => e = .returned (.int .i64 (Lib.indexByte s.data.toList c)) ∧ w' = w := by
  go_enter Tryd.func70, Tryd.ntmps70
  go_wp2_with (go_at_call 83; refine (Tryd.stringslite_Index_one _ _ _).mono ?_; rintro e w' ⟨rfl, rfl⟩)
  go_ret
  exact ⟨rfl, rfl⟩
set_option maxHeartbeats 1000000 in
theorem Tryd.strings_Contains_one (s : ByteArray) (c : UInt8) (w : World) :
    Calls Tryd.prog 40 #[.string s, .string ⟨#[c]⟩] w fun e w' => e = .returned (.bool (decide (0 ≤ Lib.indexByte s.data.toList c))) ∧ w' = w := by
  go_enter Tryd.func40, Tryd.ntmps40
  go_wp2_with (go_at_call 70; refine (Tryd.strings_Index_one _ _ _).mono ?_; rintro e w' ⟨rfl, rfl⟩)
  go_ret
  exact ⟨rfl, rfl⟩
end Go.Proofs
namespace Go.Proofs.YtefbmooajknmgaaDoor
open Go.Abs
theorem psound_lib {f : Nat} {s : List AV → Ret → Prop} (hcall : ∀ args w, (callFunc f args).run Tryd.prog w = .ok (.enter f args) w)
    (h : ∀ (G : Nat → Prop) (w : World) (xs : List AV) (vs : List Value) (r : Ret), AVals G w (fun _ => .tuple #[]) xs vs → s xs r → Calls Tryd.prog f vs.toArray w fun e w' => w' = w ∧ ∃ v, e = .returned v ∧ RetAt G w w r v) : PSound Tryd.prog f (pspec s) :=
  ⟨hcall, fun G w xs vs r hl _ _ hv hs => (h G w xs vs r hv hs).mono fun e w' ⟨h1, v, h2, h3⟩ => (by subst h1; exact ⟨v, G, h2, Ext.refl hl, h3⟩), fun R hR => (by cases hR), fun R hR => (by cases hR)⟩
def R_stringslite_Index (xs : List AV) (r : Ret) : Prop := ∃ (a0 a1 : List UInt8) (y0 : Int), m_stringslite_Index a0 a1 = some y0 ∧ xs = [.s (.str a0), .s (.str a1)] ∧ r = .val (.s (.int .i64 y0))
def S_stringslite_Index : PSpec := pspec fun xs r => R_stringslite_Index xs r
theorem ok_stringslite_Index : PSound Tryd.prog 83 S_stringslite_Index := psound_lib Tryd.call83 fun G w xs vs r hv ⟨a, p, y, h, hx, hr⟩ => by
  subst hx; subst hr
  obtain ⟨hp, h⟩ := req_out h
  have hy := Option.some.inj h
  subst hy
  obtain ⟨c, rfl⟩ : ∃ c, p = [c] := by
    match p, hp with
    | [c], _ => exact ⟨c, rfl⟩
  simp only [AVals, AVal, Rep] at hv
  obtain ⟨_, _, rfl, rfl, _, _, rfl, rfl, rfl⟩ := hv
  exact (Tryd.stringslite_Index_one ⟨a.toArray⟩ c w).mono fun e w' ⟨h1, h2⟩ => ⟨h2, _, h1, rfl, by simp only [AVal, Rep]; rfl⟩
def R_strings_Contains (xs : List AV) (r : Ret) : Prop := ∃ (a0 a1 : List UInt8) (y0 : Bool), m_strings_Contains a0 a1 = some y0 ∧ xs = [.s (.str a0), .s (.str a1)] ∧ r = .val (.s (.bool y0))
def S_strings_Contains : PSpec := pspec fun xs r => R_strings_Contains xs r
theorem ok_strings_Contains : PSound Tryd.prog 40 S_strings_Contains := psound_lib Tryd.call40 fun G w xs vs r hv ⟨a, p, y, h, hx, hr⟩ => by
  subst hx; subst hr
  obtain ⟨hp, h⟩ := req_out h
  have hy := Option.some.inj h
  subst hy
  obtain ⟨c, rfl⟩ : ∃ c, p = [c] := by
    match p, hp with
    | [c], _ => exact ⟨c, rfl⟩
  simp only [AVals, AVal, Rep] at hv
  obtain ⟨_, _, rfl, rfl, _, _, rfl, rfl, rfl⟩ := hv
  exact (Tryd.strings_Contains_one ⟨a.toArray⟩ c w).mono fun e w' ⟨h1, h2⟩ => ⟨h2, _, h1, rfl, by simp only [AVal, Rep]; rfl⟩
def R_strings_IndexByte (xs : List AV) (r : Ret) : Prop := ∃ (a0 : List UInt8) (a1 : Int) (y0 : Int), m_strings_IndexByte a0 a1 = some y0 ∧ xs = [.s (.str a0), .s (.int .u8 a1)] ∧ r = .val (.s (.int .i64 y0))
def S_strings_IndexByte : PSpec := pspec fun xs r => R_strings_IndexByte xs r
theorem ok_strings_IndexByte : PSound Tryd.prog 84 S_strings_IndexByte := psound_lib Tryd.call84 fun G w xs vs r hv ⟨a, c, y, h, hx, hr⟩ => by
  subst hx; subst hr
  have hy := Option.some.inj h
  subst hy
  simp only [AVals, AVal, Rep] at hv
  obtain ⟨_, _, rfl, rfl, _, _, rfl, rfl, rfl⟩ := hv
  exact (Tryd.strings_IndexByte ⟨a.toArray⟩ c w).mono fun e w' ⟨h1, h2⟩ => ⟨h2, _, h1, rfl, by simp only [AVal, Rep]⟩
end Go.Proofs.YtefbmooajknmgaaDoor
namespace Go.Proofs
open Go.Shelf
def Tryd.laysM171_ren : Go.Shelf.Ren := ⟨fun | 171 => 77 | 243 => 85 | 246 => 92 | 283 => 95 | 284 => 96 | 285 => 97 | 286 => 98 | 129 => 100 | 317 => 99 | 318 => 101 | 319 => 102 | 320 => 103 | 337 => 104 | 338 => 105 | n => n, fun | 3 => 3 | 9 => 9 | 2 => 2 | 4 => 4 | 171 => 111 | 0 => 0 | 53 => 112 | 37 => 57 | 5 => 5 | 173 => 115 | 212 => 118 | 51 => 108 | 20 => 20 | 213 => 119 | 46 => 106 | 232 => 123 | 233 => 124 | n => n, fun | 17 => 1 | 18 => 2 | 19 => 3 | n => n⟩
theorem Tryd.laysM171 : Go.Proofs.LaysM.n171 Tryd.prog Tryd.laysM171_ren := {
  mixed := by kernel_rfl
  f129 := Tryd.func100.trans (congrArg some (by kernel_rfl))
  f171 := Tryd.func77.trans (congrArg some (by kernel_rfl))
  f243 := Tryd.func85.trans (congrArg some (by kernel_rfl))
  f246 := Tryd.func92.trans (congrArg some (by kernel_rfl))
  f283 := Tryd.func95.trans (congrArg some (by kernel_rfl))
  f284 := Tryd.func96.trans (congrArg some (by kernel_rfl))
  f285 := Tryd.func97.trans (congrArg some (by kernel_rfl))
  f286 := Tryd.func98.trans (congrArg some (by kernel_rfl))
  f317 := Tryd.func99.trans (congrArg some (by kernel_rfl))
  f318 := Tryd.func101.trans (congrArg some (by kernel_rfl))
  f319 := Tryd.func102.trans (congrArg some (by kernel_rfl))
  f320 := Tryd.func103.trans (congrArg some (by kernel_rfl))
  f337 := Tryd.func104.trans (congrArg some (by kernel_rfl))
  f338 := Tryd.func105.trans (congrArg some (by kernel_rfl))
  t0 := Tryd.underlying0
  a0 := Tryd.isAgg0
  z0 := Tryd.sizeOf0
  v0 := Tryd.zeroValue0
  t2 := Tryd.underlying2
  a2 := Tryd.isAgg2
  z2 := Tryd.sizeOf2
  v2 := Tryd.zeroValue2
  t3 := Tryd.underlying3
  a3 := Tryd.isAgg3
  z3 := Tryd.sizeOf3
  v3 := Tryd.zeroValue3
  t4 := Tryd.underlying4
  a4 := Tryd.isAgg4
  z4 := Tryd.sizeOf4
  v4 := Tryd.zeroValue4
  t5 := Tryd.underlying5
  a5 := Tryd.isAgg5
  z5 := Tryd.sizeOf5
  v5 := Tryd.zeroValue5
  t9 := Tryd.underlying9
  a9 := Tryd.isAgg9
  z9 := Tryd.sizeOf9
  v9 := Tryd.zeroValue9
  t20 := Tryd.underlying20
  a20 := Tryd.isAgg20
  z20 := Tryd.sizeOf20
  v20 := Tryd.zeroValue20
  t37 := Tryd.underlying57
  a37 := Tryd.isAgg57
  z37 := Tryd.sizeOf57
  v37 := Tryd.zeroValue57
  t46 := Tryd.underlying106
  a46 := Tryd.isAgg106
  z46 := Tryd.sizeOf106
  v46 := Tryd.zeroValue106
  t51 := Tryd.underlying108
  a51 := Tryd.isAgg108
  z51 := Tryd.sizeOf108
  v51 := Tryd.zeroValue108
  t53 := Tryd.underlying112
  a53 := Tryd.isAgg112
  z53 := Tryd.sizeOf112
  v53 := Tryd.zeroValue112
  t171 := Tryd.underlying111
  a171 := Tryd.isAgg111
  z171 := Tryd.sizeOf111
  v171 := Tryd.zeroValue111
  t173 := Tryd.underlying115
  a173 := Tryd.isAgg115
  z173 := Tryd.sizeOf115
  v173 := Tryd.zeroValue115
  t212 := Tryd.underlying118
  a212 := Tryd.isAgg118
  z212 := Tryd.sizeOf118
  v212 := Tryd.zeroValue118
  t213 := Tryd.underlying119
  a213 := Tryd.isAgg119
  z213 := Tryd.sizeOf119
  t232 := Tryd.underlying123
  a232 := Tryd.isAgg123
  z232 := Tryd.sizeOf123
  v232 := Tryd.zeroValue123
  t233 := Tryd.underlying124
  a233 := Tryd.isAgg124
  z233 := Tryd.sizeOf124
  v233 := Tryd.zeroValue124
  g17 := by kernel_rfl
  g18 := by kernel_rfl
  g19 := by kernel_rfl
  i0 := by kernel_rfl
  i2 := by kernel_rfl
  i3 := by kernel_rfl
  i4 := by kernel_rfl
  i5 := by kernel_rfl
  i9 := by kernel_rfl
  i20 := by kernel_rfl
  i37 := by kernel_rfl
  i46 := by kernel_rfl
  i51 := by kernel_rfl
  i53 := by kernel_rfl
  i171 := by kernel_rfl
  i173 := by kernel_rfl
  i212 := by kernel_rfl
  i232 := by kernel_rfl
  i233 := by kernel_rfl
  m17 := by kernel_rfl
  m18 := by kernel_rfl
  m19 := by kernel_rfl }
open Go.RowKit Go.Sort Go.Lib in
theorem Tryd.strconv_Itoa (n : Int) (h0 : -9223372036854775808 ≤ n) (h1 : n ≤ 9223372036854775807) (w : World) (htab : Lib.TabIs Tryd.prog w "internal/strconv.uint64pow10" .u64 Lib.pow10Tab) :
    Calls Tryd.prog 77 #[.int .i64 n] w fun e w' => e = .returned (.string ⟨(Lib.itoa n).toArray⟩) ∧ ∃ k os, w' = grow (w.drewN k) os := Any.strconv_Itoa Tryd.laysM171 n h0 h1 w htab
end Go.Proofs
set_option linter.unusedVariables false
namespace Go.Proofs
set_option maxHeartbeats 1000000 in
set_option maxRecDepth 100000 in
theorem Tryd.bld_check_used (b off : Nat) (w : World) (h0 : w.cell? ⟨b, off, none⟩ = some (.pointer (some ⟨b, off, none⟩))) :
    Calls Tryd.prog 78 #[.pointer (some ⟨b, off, none⟩)] w fun e w' => e = .returned (.tuple #[]) ∧ w' = w := by
  have hj : Tryd.prog.info? 59 = some Tryd.t59 := by kernel_rfl
  go_enter Tryd.func78, Tryd.ntmps78
  go_wp2
  rw [Lib.run_neq_ptr_same w _ Tryd.underlying56 hj]
  go_wp2
  go_end0
  exact ⟨rfl, rfl⟩
set_option maxHeartbeats 1000000 in
set_option maxRecDepth 100000 in
theorem Tryd.bld_check_fresh (b : Nat) (w : World) (h0 : w.cell? ⟨b, 39, none⟩ = some (.pointer none)) (hsh : w.shape? b = some (61, 41)) (hfz : w.frozen? ⟨b, 39, none⟩ = false) :
    Calls Tryd.prog 78 #[.pointer (some ⟨b, 39, none⟩)] w fun e w' => e = .returned (.tuple #[]) ∧ w' = w.setCell ⟨b, 39, none⟩ (.pointer (some ⟨b, 39, none⟩)) := by
  have hj : Tryd.prog.info? 59 = some Tryd.t59 := by kernel_rfl
  have hjs : Tryd.t59.size ≠ 0 := by decide
  have hlies : liesAt Tryd.prog Tryd.prog.depth 61 (41 / Tryd.prog.cellsOf 61) 39 59 1 = true := by kernel_rfl
  go_enter Tryd.func78, Tryd.ntmps78
  go_wp2
  rw [Lib.run_to_unsafe w ⟨b, 39, none⟩ Tryd.underlying56 Tryd.underlying103 hj hjs hsh (show (39 : Nat) < 41 by decide)]
  simp only [Result.andThen]
  rw [Oper.upon_value]
  go_wp2
  rw [run_callFunc_extern Tryd.func86 (by kernel_rfl) (by kernel_rfl) (by kernel_rfl) (e := Extern.AbiNoEscape.same) (by kernel_rfl)]
  rw [Lib.run_noEscape]
  simp only [Result.andThen]
  rw [Oper.upon_value]
  go_wp2
  rw [Lib.run_from_unsafe w ⟨b, 39, none⟩ Tryd.underlying103 Tryd.underlying56 hj hsh hlies]
  simp only [Result.andThen]
  rw [Oper.upon_value]
  go_wp2
  go_end0
  exact ⟨rfl, rfl⟩
set_option maxHeartbeats 2000000 in
set_option maxRecDepth 100000 in
theorem Tryd.bld_String (b g cap : Nat) (l : List UInt8) (w : World) (cur : Array Value) (h0 : l ≠ []) (hb : w.cell? ⟨b, 40, none⟩ = some (.slice (some ⟨g, 0, none⟩) l.length cap)) (hg : w.heap[g]? = some (.cells cur 5 (0, 0))) (hc : cur.size = cap * 1) (hle : l.length ≤ cap) (hm : l.length ≤ 9223372036854775807)
    (hx : ∀ (j : Nat) x, l[j]? = some x → cur[j]? = some (.int .u8 x.toNat)) :
    Calls Tryd.prog 54 #[.pointer (some ⟨b, 39, none⟩)] w fun e w' => e = .returned (.string ⟨l.toArray⟩) ∧ w' = w.drew.freeze ⟨g, 0, none⟩ l.length := by
  have hl0 : l.length ≠ 0 := by simpa using h0
  have c1 : w.drew.cell? ⟨b, 40, none⟩ = some (.slice (some ⟨g, 0, none⟩) l.length cap) := hb
  have hSD : (Builtin.unsafeSliceData_ #[57] 95 #[.slice (some ⟨g, 0, none⟩) l.length cap]).run Tryd.prog w.drew = .ok (.pointer (some ⟨g, 0, none⟩)) w.drew :=
    Lib.run_unsafeSliceData_row _ _ _ _ _ _ (by omega)
  have hg' : w.drew.heap[g]? = some (.cells cur 5 (0, 0)) := hg
  have hUS : (Builtin.unsafeString_ #[95, 3] 9 #[.pointer (some ⟨g, 0, none⟩), .int .i64 l.length]).run Tryd.prog w.drew = .ok (.string ⟨l.toArray⟩) (w.drew.freeze ⟨g, 0, none⟩ l.length) := by
    refine Lib.run_unsafeString_row w.drew 95 3 9 5 Tryd.underlying95 (by kernel_rfl) g cur.size (by simp [World.shape?, hg']) l h0 (by omega) hm ?_
    intro j x hx'
    have e : (Addr.mk g 0 none).add j = ⟨g, j, none⟩ := by
      unfold Addr.add
      split
      · rename_i e; rw [e]
      · simp
    rw [e]
    simp only [World.cell?, hg']
    exact hx j x hx'
  have mixed : Tryd.prog.follows .mixedOrders = true := by kernel_rfl
  go_enter Tryd.func54, Tryd.ntmps54
  go_wp2
  go_region_o
  all_goals (go_wp2; go_ret; exact ⟨rfl, rfl⟩)
end Go.Proofs
namespace Go.Proofs.YtefbmooajknmgaaDoor
open Go.Abs
def kcells : List AV := [.s (.str []), .s (.int .i64 0), .s .nf, .s (.str [114, 111, 119]), .s (.int .i64 0), .s (.fn 73), .s (.str [115, 121, 109]), .s (.int .i64 0), .s (.fn 12), .s (.str [110, 117, 109]), .s (.int .i64 0), .s (.fn 14), .s (.str [116, 101, 120, 116]), .s (.int .i64 0), .s (.fn 74), .s (.str [102, 114, 97, 99]), .s (.int .i64 2), .s (.fn 73), .s (.str [114, 111, 111, 116]), .s (.int .i64 2), .s (.fn 73), .s (.str [115, 117, 98]), .s (.int .i64 2), .s (.fn 73), .s (.str [115, 117, 112]), .s (.int .i64 2), .s (.fn 73), .s (.str [98, 111, 116, 104]), .s (.int .i64 3), .s (.fn 73), .s (.str [97, 99, 99, 101, 110, 116]), .s (.int .i64 1), .s (.fn 42), .s (.str [102, 101, 110, 99, 101]), .s (.int .i64 1), .s (.fn 75), .s (.str [109, 97, 116, 114, 105, 120]), .s (.int .i64 0), .s (.fn 73)]
def bcells (a b : AV) : List AV := kcells ++ [a, b]
theorem bcells_pers {a b : AV} : ∀ (i : Nat) (x : AV), (bcells a b)[i]? = some x → i ≠ 39 → i ≠ 40 → x.pers = true := fun i x h h1 h2 => by
  have hk : kcells.all AV.pers = true := by decide
  have hl : kcells.length = 39 := rfl
  unfold bcells at h
  rw [List.getElem?_append] at h
  split at h
  · exact List.all_eq_true.1 hk x (List.mem_of_getElem? h)
  · rw [hl] at h
    have : i - 39 < 2 := by have := (List.getElem?_eq_some_iff.1 h).1; simpa using this
    omega
theorem bld_check_used' (b : Nat) (w : World) (cur : Array Value) (h : w.heap[b]? = some (.cells cur 61 (0, 0))) (hc : cur[39]? = some (.pointer (some ⟨b, 39, none⟩))) :
    Calls Tryd.prog 78 #[.pointer (some ⟨b, 39, none⟩)] w fun e w' => e = .returned (.tuple #[]) ∧ Wrote b 39 (.pointer (some ⟨b, 39, none⟩)) cur 61 w w' :=
  (Tryd.bld_check_used b 39 w (by simp [World.cell?, h, hc])).mono fun e w' ⟨h1, h2⟩ => ⟨h1, by subst h2; exact Wrote.same h hc⟩
theorem bld_check_fresh' (b : Nat) (w : World) (cur : Array Value) (h : w.heap[b]? = some (.cells cur 61 (0, 0))) (hs : cur.size = 41) (hc : cur[39]? = some (.pointer none)) :
    Calls Tryd.prog 78 #[.pointer (some ⟨b, 39, none⟩)] w fun e w' => e = .returned (.tuple #[]) ∧ Wrote b 39 (.pointer (some ⟨b, 39, none⟩)) cur 61 w w' :=
  (Tryd.bld_check_fresh b w (by simp [World.cell?, h, hc]) (by simp [World.shape?, h, hs]) (by simp [World.frozen?, h])).mono fun e w' ⟨h1, h2⟩ => ⟨h1, by subst h2; exact Wrote.cell h⟩
def R_strings_Builder_copyCheck (xs : List AV) (os : List Ob) (x : AV) (os' : List (Option Ob)) : Prop := ∃ (a0 : List UInt8) (z1 : List UInt8), m_strings_Builder_copyCheck a0 = some z1 ∧ xs = [.op 0 39] ∧ os = [.box 61 (bcells (.op 0 39) (.orow 1)), .row 5 1 (List.map brow a0)] ∧ x = .tup [] ∧ os' = [some (.box 61 (bcells (.op 0 39) (.orow 2))), none, some (.row 5 1 (List.map brow z1))]
def S_strings_Builder_copyCheck : PSpec := ospec (fun xs os x os' => R_strings_Builder_copyCheck xs os x os')
theorem ok_strings_Builder_copyCheck : PSound Tryd.prog 78 S_strings_Builder_copyCheck :=
  PSound.ofOwn Tryd.call78 fun G w β xs vs os x os' h1 h2 h3 h4 h5 ⟨a0, z1, hm, hx, ho, hr, ho'⟩ =>
    bld_own (p := .op 0 39) (e := 5) rfl (.inr rfl) rfl rfl bcells_pers (fun b w cur hb _ _ hc => bld_check_used' b w cur hb (hc rfl)) G w β xs vs os x os' h1 h2 h3 h4 h5 ⟨_, hx, ho, hr, by rw [ho', ← Option.some.inj hm]; rfl⟩
def R_strings_Builder_copyCheck_v1 (xs : List AV) (os : List Ob) (x : AV) (os' : List (Option Ob)) : Prop := ∃ (a0 : List UInt8) (z1 : List UInt8), m_strings_Builder_copyCheck a0 = some z1 ∧ xs = [.op 0 39] ∧ os = [.box 61 (bcells (.s .np) (.orow 1)), .row 5 1 (List.map brow a0)] ∧ x = .tup [] ∧ os' = [some (.box 61 (bcells (.op 0 39) (.orow 2))), none, some (.row 5 1 (List.map brow z1))]
def S_strings_Builder_copyCheck_v1 : PSpec := ospec (fun xs os x os' => R_strings_Builder_copyCheck_v1 xs os x os')
theorem ok_strings_Builder_copyCheck_v1 : PSound Tryd.prog 78 S_strings_Builder_copyCheck_v1 :=
  PSound.ofOwn Tryd.call78 fun G w β xs vs os x os' h1 h2 h3 h4 h5 ⟨a0, z1, hm, hx, ho, hr, ho'⟩ =>
    bld_own (p := .s .np) (e := 5) rfl (.inl rfl) rfl rfl bcells_pers (fun b w cur hb hs hc _ => bld_check_fresh' b w cur hb hs (hc rfl)) G w β xs vs os x os' h1 h2 h3 h4 h5 ⟨_, hx, ho, hr, by rw [ho', ← Option.some.inj hm]; rfl⟩
def R_strings_Builder_String (xs : List AV) (os : List Ob) (x : AV) (os' : List (Option Ob)) : Prop := ∃ (a0 : List UInt8) (y0 : List UInt8), m_strings_Builder_String a0 = some y0 ∧ xs = [.op 0 39] ∧ os = [.box 61 (bcells (.op 0 39) (.orow 1)), .row 5 1 (List.map brow a0)] ∧ x = .s (.str y0) ∧ os' = [some (.box 61 (bcells (.op 0 39) .junk)), none]
def S_strings_Builder_String : PSpec := ospec (fun xs os x os' => R_strings_Builder_String xs os x os')
theorem ok_strings_Builder_String : PSound Tryd.prog 54 S_strings_Builder_String :=
  PSound.ofOwn Tryd.call54 fun G w β xs vs os x os' h1 h2 h3 h4 h5 ⟨a0, y0, hm, hx, ho, hr, ho'⟩ => by
    obtain ⟨⟨hq, hq2⟩, hm⟩ := req_out hm
    exact bld_own_str (D := 61) (e := 5) (cells := bcells (.op 0 39) (.orow 1)) rfl rfl rfl bcells_pers (fun b g cap l w cur => Tryd.bld_String b g cap l w cur) G w β xs vs os x os' h1 h2 h3 h4 h5 ⟨a0, hq, hq2, hx, ho, by rw [hr, Option.some.inj hm], ho'⟩
theorem Ext.grow {G : Nat → Prop} {w : World} (h : ∀ b, G b → b < w.heap.size) (k : Nat) (os : Array Obj) : Ext G G w (Sort.grow (w.drewN k) os) :=
  ⟨rfl, rfl, rfl, by show w.heap.size ≤ (w.heap ++ os).size; simp, fun b hb => by show (w.heap ++ os)[b]? = _; simp [Array.getElem?_append, hb], fun _ h => h, fun _ h => .inl h, fun b hb => by have := h b hb; show b < (w.heap ++ os).size; simp; omega⟩
theorem tab_of {G : Nat → Prop} {w : World} (h : GlobOk G w) : Lib.TabIs Tryd.prog w "internal/strconv.uint64pow10" .u64 Lib.pow10Tab := by
  obtain ⟨_, e, f, hh⟩ := h.2 1 _ rfl
  have hg : Tryd.prog.globalNamed "internal/strconv.uint64pow10" = some 1 := by kernel_rfl
  unfold Lib.TabIs World.var?
  rw [hg]
  simp only [Option.bind_some, hh]
def R_strconv_Itoa (xs : List AV) (r : Ret) : Prop := ∃ (a0 : Int) (y0 : List UInt8), m_strconv_Itoa a0 = some y0 ∧ xs = [.s (.int .i64 a0)] ∧ r = .val (.s (.str y0))
def S_strconv_Itoa : PSpec := pspec fun xs r => R_strconv_Itoa xs r
theorem ok_strconv_Itoa : PSound Tryd.prog 77 S_strconv_Itoa :=
  ⟨Tryd.call77, fun G w xs vs r hl hgl hp hv ⟨a, y, hm, hx, hr⟩ => by
    subst hx; subst hr
    obtain ⟨⟨q1, q2⟩, hm⟩ := req_out hm
    have hy := Option.some.inj hm
    subst hy
    simp only [AVals, AVal, Rep] at hv
    obtain ⟨_, _, rfl, rfl, rfl⟩ := hv
    exact (Tryd.strconv_Itoa a q1 q2 w (tab_of hgl)).mono fun e w' ⟨h1, k, os, h2⟩ => ⟨_, G, h1, by rw [h2]; exact Ext.grow hl k os, rfl, by simp only [AVal, Rep]⟩, fun R hR => (by cases hR), fun R hR => (by cases hR)⟩
end Go.Proofs.YtefbmooajknmgaaDoor
set_option linter.unusedVariables false
set_option linter.unusedSimpArgs false
namespace Go.Proofs.YtefbmooajknmgaaDoor
open Go.Abs
def VAt (hp : Nat → Option Ob) (e : Nat) (v : AV) (ks : List Nd) (keys : List Nat) : Prop :=
  (ks = [] ∧ v = .s (.sl 4 []) ∧ keys = []) ∨ ∃ q rows keys' w, v = .orow q ∧ hp q = some (.arow e 4 rows) ∧ rows.length = ks.length ∧ keys = q :: keys' ∧ LAt hp e q 0 ks keys' [] w
theorem At.full {hp : Nat → Option Ob} {e : Nat} {p : AV} {k c : Int} {t : List UInt8} {ks : List Nd} {keys : List Nat} {w : Nat} (h : At hp e p (.mk k t c ks) keys [] w) : ∃ v, cellsAt hp p = some (ncells k t c v) ∧ VAt hp e v ks keys := by
  simp only [At] at h
  obtain ⟨v, hc, ⟨_, _, h, _⟩ | ⟨rfl, rfl, rfl, _, _⟩ | ⟨q, rows, keys', rfl, hq, hlen, rfl, h⟩⟩ := h
  · cases h
  · exact ⟨_, hc, .inl ⟨rfl, rfl, rfl⟩⟩
  · exact ⟨_, hc, .inr ⟨q, rows, keys', w, rfl, hq, hlen, rfl, h⟩⟩
def RH_deep_Node (xs : List AV) (hp : Nat → Option Ob) (n : Nat) (Φ : AV → (Nat → Option Ob) → Nat → Prop) : Prop :=
  ∃ (k c : Int) (tx : List UInt8) (ks : List Nd), (Nd.mk k tx c ks).cnt ≤ 1000000000 ∧ xs = [.agg (ncells k tx c (.s (.sl 4 (Nd.encs ks))))] ∧
    ∀ v hp' n' keys, n ≤ n' → (∀ k, k < n → hp' k = hp k) → VAt hp' 26 v ks keys → keys.Nodup → (∀ k ∈ keys, n ≤ k ∧ k < n') → Φ (.agg (ncells k tx c v)) hp' n'
def H_deep_Node : PSpec := hspec RH_deep_Node
theorem resOf_box {T : Nat → Option TI} {σ : St} {t ty q bt : Nat} {i : TI} {cells : List AV} (h1 : σ.env t = .op q 0) (h2 : σ.hp q = some (.box bt cells)) (h3 : T ty = some i) (ha : i.k.agg = true) (hz : i.size = cells.length) : resOf T σ [.cell t ty] = some (AV.deep (.agg cells)) := by
  have hb : Nat.ble i.size cells.length = true := by rw [hz]; exact Nat.ble_eq_true_of_le (Nat.le_refl _)
  simp only [resOf, resAll, resAV, h1, h2, h3, ha, hb]
  rw [hz, List.take_length]
theorem upd_at {σ : St} {q : Nat} {ob : Ob} : (updOb σ q ob).hp q = some ob := by simp only [updOb, Nat.beq_refl, cond_true]
theorem upd_ne {σ : St} {q k : Nat} {ob : Ob} (h : k ≠ q) : (updOb σ q ob).hp k = σ.hp k := by simp only [updOb, beq_ne h, cond_false]
theorem VAt.frame {hp hp' : Nat → Option Ob} {e : Nat} {v : AV} {ks : List Nd} {keys : List Nat} (h : VAt hp e v ks keys) (hs : ∀ k ∈ keys, hp' k = hp k) : VAt hp' e v ks keys := by
  rcases h with h | ⟨q, rows, keys', w, h1, h2, h3, rfl, h4⟩
  · exact .inl h
  · exact .inr ⟨q, rows, keys', w, h1, (hs q List.mem_cons_self).trans h2, h3, rfl, h4.sameQ (Sim.same (p0 := .junk) fun k hk => hs k (List.mem_cons.2 hk)) (fun j _ e => by cases e) (fun q j _ e => by cases e)⟩
theorem s1_asgL {T : Nat → Option TI} {own : Bool} {o : Oper} {σ : St} {p : AV} {y : Operand} (hl : isL 4 p) (ho : o.op = .assign y ∨ o.op = .move y) (hy : opd T σ.env o.type y = p) (hn : (own && isNilConst y) = false) : step1 T own o σ = some (none, p, σ) := by
  have e0 : p.nrm = p := by rcases hl with ⟨_, _, rfl⟩ | ⟨_, rfl⟩ <;> rfl
  have e1 : pstep T own o σ.env = some (none, p) := by
    rcases ho with ho | ho <;> simp only [pstep, ho, hn, hy, e0]
  simp only [step1, e1]
theorem tri_gen {c : Cx} {x : Code} {σ : St} {Q : Abs.End → St → Prop} (l : List (Nat × AV)) (n' : Nat) (h : holds σ.env l) (hn : σ.nx = n') (hk : ∀ H, (∀ k, H k = σ.hp k) → Tri c x ⟨ofL l, H, n'⟩ Q) : Tri c x σ Q := by
  subst hn
  exact tri_le (Le.forget l h) (hk σ.hp fun _ => rfl)
theorem At.pend {hp : Nat → Option Ob} {e w : Nat} {p : AV} {k c : Int} {tx : List UInt8} {ks : List Nd} (h : At hp e p (.mk k tx c ks) [] [p] w) : cellsAt hp p = some (ncells k tx c (.s (.sl 4 (Nd.encs ks)))) := by
  simp only [At] at h
  obtain ⟨v, hc, ⟨rfl, _⟩ | ⟨_, _, _, h, _⟩ | ⟨q, rows, keys', _, _, _, h, _⟩⟩ := h
  · exact hc
  · cases h
  · cases h
theorem putC_congr {hp hp' : Nat → Option Ob} {sz k : Nat} {p : AV} {c : List AV} (hl : isL sz p) (h1 : hp' k = hp k) (h2 : hp' (baseK p) = hp (baseK p)) : putC hp' p c k = putC hp p c k := by
  rcases hl with ⟨q, i, rfl⟩ | ⟨q, rfl⟩ <;> (simp only [baseK] at h2; simp only [putC, h1, h2])
theorem putC_twice {hp hp' : Nat → Option Ob} {sz k : Nat} {p : AV} {c c' cs : List AV} (hl : isL sz p) (hc : cellsAt hp p = some cs) (h : hp' (baseK p) = putC hp p c' (baseK p)) (hk : k ≠ baseK p → hp' k = hp k) : putC hp' p c k = putC hp p c k := by
  by_cases hb : k = baseK p
  · subst hb
    rcases cellsAt_inv hl hc with ⟨q, i, e, rows, rfl, hq, hi⟩ | ⟨q, bt, rfl, hq⟩
    · simp only [baseK] at h ⊢
      rw [putC_rp hq] at h ⊢
      simp only [Nat.beq_refl, cond_true] at h ⊢
      rw [putC_rp h]
      simp only [Nat.beq_refl, cond_true, List.set_set]
    · simp only [baseK] at h ⊢
      rw [putC_op hq] at h ⊢
      simp only [Nat.beq_refl, cond_true] at h ⊢
      rw [putC_op h]
      simp only [Nat.beq_refl, cond_true]
  · rw [putC_other hb, putC_other hb, hk hb]
theorem locs_succ {q j : Nat} : locs q 0 (j + 1) = locs q 0 j ++ [.rp q 4 j 0] := by
  simp [locs, List.range'_concat]
theorem last_get {α : Type} {S : List α} {p : α} : ((S ++ [p]).map fun p => [p]).getD S.length [] = [p] := by
  simp [List.getD_eq_getElem?_getD]
structure DInv (hp : Nat → Option Ob) (n e pe : Nat) (t : Nd) (H : Nat → Option Ob) (ls nx : Nat) (S : List AV) (keys : List Nat) (w : Nat) : Prop where
  low : ∀ k, k < n → H k = hp k
  res : ∃ a b c d, H (n + 1) = some (.box e [a, b, c, d])
  stk : H ls = some (.arow pe 1 (S.map fun p => [p]))
  tree : At H e (.op n 0) t keys S w
  nd : (n :: keys).Nodup
  kb : ∀ k ∈ keys, n + 1 < k ∧ k < nx ∧ k ≠ ls
  l1 : n + 1 < ls
  l2 : ls < nx
set_option maxHeartbeats 4000000 in
set_option maxRecDepth 100000 in
theorem hok_deep_Node : PSound Tryd.prog 66 H_deep_Node := by
  have gok : ∀ (f : Nat) (s : PSpec), (fun _ => none : Nat → Option PSpec) f = some s → PSound Tryd.prog f s := fun _ _ h => by cases h
  refine hsound tokW Tryd.call66 Tryd.func66 rfl (fun xs hp n Φ h => by obtain ⟨_, _, _, _, _, rfl, _⟩ := h; show 1 ≤ _; decide) _ rfl ?_
  rintro xs hp n Φ w0 G0 B0 ⟨k0, c, tx, ks, hcnt, rfl, hΦ⟩ _ hhp
  refine tri_seq ?_
  refine tri_region (by exact tokW) (by exact gok) [1, 2] [] rfl ?_
  show Tri _ _ _ _
  refine tri_seq ?_
  refine tri_region (by exact tokW) (by exact gok) [7] [] rfl ?_
  show Tri _ _ _ _
  refine tri_le (Le.forgetH [(1, .op n 0), (2, .op (n + 1) 0), (3, .orow (n + 2))] (fun k => bif Nat.beq k (n + 2) then some (.arow 63 1 [[.op n 0]]) else bif Nat.beq k (n + 1) then some (.box 26 [.s (.int .i64 0), .s (.str []), .s (.int .i64 0), .nl 4]) else bif Nat.beq k n then some (.box 26 (ncells k0 tx c (.s (.sl 4 (Nd.encs ks))))) else hp k) (n + 3) ⟨rfl, rfl, rfl, trivial⟩ (fun k => rfl) rfl) ?_
  have hI : DInv hp n 26 63 (.mk k0 tx c ks) (fun k => bif Nat.beq k (n + 2) then some (.arow 63 1 [[.op n 0]]) else bif Nat.beq k (n + 1) then some (.box 26 [.s (.int .i64 0), .s (.str []), .s (.int .i64 0), .nl 4]) else bif Nat.beq k n then some (.box 26 (ncells k0 tx c (.s (.sl 4 (Nd.encs ks))))) else hp k) (n + 2) (n + 3) [.op n 0] [] (Nd.mk k0 tx c ks).cnt := {
    low := fun k hk => by
      have h1 : k ≠ n + 2 := by omega
      have h2 : k ≠ n + 1 := by omega
      have h3 : k ≠ n := by omega
      simp only [beq_ne h1, beq_ne h2, beq_ne h3, cond_false]
    res := ⟨.s (.int .i64 0), .s (.str []), .s (.int .i64 0), .nl 4, by
      have h1 : n + 1 ≠ n + 2 := by omega
      simp only [beq_ne h1, Nat.beq_refl, cond_false, cond_true]⟩
    stk := by simp only [Nat.beq_refl, cond_true]; rfl
    tree := by
      have h1 : n ≠ n + 2 := by omega
      have h2 : n ≠ n + 1 := by omega
      simp only [At]
      exact ⟨.s (.sl 4 (Nd.encs ks)), cellsAt_op (bt := 26) (by simp only [beq_ne h1, beq_ne h2, Nat.beq_refl, cond_false, cond_true]), .inl (by simp [Nd.cnt])⟩
    nd := by simp
    kb := fun k hk => by cases hk
    l1 := by omega
    l2 := by omega }
  generalize hH : (fun k => bif Nat.beq k (n + 2) then some (Ob.arow 63 1 [[AV.op n 0]]) else bif Nat.beq k (n + 1) then some (Ob.box 26 [AV.s (.int .i64 0), AV.s (.str []), AV.s (.int .i64 0), AV.nl 4]) else bif Nat.beq k n then some (Ob.box 26 (ncells k0 tx c (.s (.sl 4 (Nd.encs ks))))) else hp k) = H0 at hI ⊢
  clear hH
  refine tri_seq ?_
  refine tri_block (tri_loopI (X := (Nat → Option Ob) × Nat × Nat × List AV × List Nat × Nat) (fun y => match y with | (H, ls, nx, S, keys, w) => ⟨ofL [(1, .op n 0), (2, .op (n + 1) 0), (3, .orow ls)], H, nx⟩)
    (fun y => match y with | (H, ls, nx, S, keys, w) => DInv hp n 26 63 (.mk k0 tx c ks) H ls nx S keys w) (fun y => match y with | (H, ls, nx, S, keys, w) => w) (H0, n + 2, n + 3, [.op n 0], [], (Nd.mk k0 tx c ks).cnt) hI (Le.refl _ _) ?_)
  rintro ⟨H, ls, nx, S, keys, w⟩ hI
  have hI : DInv hp n 26 63 (.mk k0 tx c ks) H ls nx S keys w := hI
  refine tri_seq ?_
  refine tri_seq ?_
  refine tri_region (by exact tokW) (by exact gok) [] [] rfl ?_
  refine evOps_step rfl rfl rfl rfl rfl rfl trivial ?_
  refine evOps_step rfl rfl rfl rfl rfl (s1_lenA rfl rfl rfl rfl rfl hI.stk) trivial ?_
  refine evOps_step rfl rfl rfl rfl rfl rfl trivial ?_
  show Tri _ _ _ _
  refine tri_cond rfl (fun hb => ?_) (fun hb => ?_)
  rotate_left
  · refine tri_exit ?_
    show Tri _ _ _ _
    refine tri_le (Le.forget [(1, .op n 0), (2, .op (n + 1) 0), (3, .orow ls)] ⟨rfl, rfl, rfl, trivial⟩) ?_
    have hS : S = [] := by
      cases S with
      | nil => rfl
      | cons x S =>
        have := of_decide_eq_false hb
        simp only [List.length_map, List.length_cons] at this
        omega
    subst hS
    obtain ⟨v, hc, hv⟩ := hI.tree.full
    rcases cellsAt_inv (sz := 4) (.inr ⟨n, rfl⟩) hc with ⟨q, i, e, rows, h1, _⟩ | ⟨q, bt, h1, hq⟩
    · cases h1
    cases h1
    obtain ⟨ra, rb, rc, rd, hr1⟩ := hI.res
    refine tri_seq ?_
    refine tri_region (by exact tokW) (by exact gok) [] [] rfl ?_
    refine evOps_step rfl rfl rfl rfl rfl (s1_loadBA rfl rfl rfl rfl hq rfl) trivial ?_
    have hvl : v.one = true ∧ v.lt nx = true := by
      rcases hv with ⟨_, rfl, _⟩ | ⟨q, _, _, _, rfl, _, _, hk, _⟩
      · exact ⟨rfl, rfl⟩
      · exact ⟨rfl, decide_eq_true (hI.kb q (by rw [hk]; exact List.mem_cons_self)).2.1⟩
    refine evOps_step0 rfl rfl rfl (s1_storeB rfl rfl rfl hr1 rfl rfl (by show ([AV.s _, AV.s _, AV.s _, v] : List AV).all AV.one = true; simp only [List.all_cons, List.all_nil, hvl.1]; rfl) (by show AV.ltAll nx [AV.s _, AV.s _, AV.s _, v] = true; simp only [AV.ltAll, hvl.2]; rfl)) trivial ?_
    show Tri _ _ _ _
    refine tri_ret ?_
    have hln : n < nx := Nat.lt_trans (Nat.lt_trans (Nat.lt_succ_self n) hI.l1) hI.l2
    have hdeep : AV.deep (.agg (ncells k0 tx c v)) = .agg (ncells k0 tx c v) := by
      rcases hv with ⟨_, rfl, _⟩ | ⟨q, _, _, _, rfl, _⟩ <;> rfl
    unfold GivesH
    refine ⟨_, Le.refl _ _, .agg (ncells k0 tx c v), ?_, hΦ v _ _ keys (Nat.le_of_lt hln) (fun k hk => ?_) ?_ (List.nodup_cons.1 hI.nd).2 fun k hk => ⟨Nat.le_of_lt (Nat.lt_trans (Nat.lt_succ_self n) (hI.kb k hk).1), (hI.kb k hk).2.1⟩⟩
    · exact (resOf_box (cells := ncells k0 tx c v) rfl upd_at rfl rfl rfl).trans (congrArg some hdeep)
    · exact (upd_ne (by omega)).trans (hI.low k hk)
    · exact hv.frame fun k hk => upd_ne (by have := (hI.kb k hk).1; omega)
  refine tri_skip ?_
  show Tri _ _ _ _
  obtain ⟨S', p, rfl⟩ : ∃ S' p, S = S' ++ [p] := by
    rcases List.eq_nil_or_concat S with rfl | ⟨S', p, rfl⟩
    · cases hb
    · exact ⟨S', p, List.concat_eq_append⟩
  have hl0 : isL 4 p := hI.tree.loc (.inr ⟨n, rfl⟩) (by simp)
  obtain ⟨⟨k1, tx1, c1, ks1⟩, w1, hp0, hw, hrep⟩ := hI.tree.repl (.inr ⟨n, rfl⟩) hI.nd
  have hcell := hp0.pend
  have hwl := hI.tree.len
  have hSl : S'.length < 1000000000 := by
    have := hwl.1
    have := hwl.2
    simp only [List.length_append, List.length_singleton] at *
    omega
  have hz : IntKind.i64.wrap (((((S' ++ [p]).map fun p => [p]).length : Nat) : Int) - 1) = (S'.length : Int) := by
    rw [wrap64_in (by simp only [List.length_map, List.length_append, List.length_singleton]; omega) (by simp only [List.length_map, List.length_append, List.length_singleton]; omega)]
    simp only [List.length_map, List.length_append, List.length_singleton]; omega
  have hlt1 : S'.length < ((S' ++ [p]).map fun p => [p]).length := by simp
  refine tri_le (Le.forget [(1, .op n 0), (2, .op (n + 1) 0), (3, .orow ls)] ⟨rfl, rfl, rfl, trivial⟩) ?_
  refine tri_block ?_
  refine tri_seq ?_
  refine tri_region (by exact tokW) (by exact gok) [] [] rfl ?_
  refine evOps_step rfl rfl rfl rfl rfl rfl trivial ?_
  refine evOps_step rfl rfl rfl rfl rfl rfl trivial ?_
  refine evOps_step rfl rfl rfl rfl rfl (s1_lenA rfl rfl rfl rfl rfl hI.stk) trivial ?_
  refine evOps_step rfl rfl rfl rfl rfl rfl trivial ?_
  rw [hz]
  refine evOps_step rfl rfl rfl rfl rfl (s1_idxA rfl rfl rfl rfl rfl rfl hI.stk rfl) ⟨Int.natCast_nonneg _, Int.ofNat_lt.2 hlt1⟩ ?_
  refine evOps_ldA (c := p) rfl rfl rfl rfl rfl rfl hI.stk hlt1 (by rw [Int.toNat_natCast, last_get]; rfl) ?_
  refine evOps_step rfl rfl rfl rfl rfl (s1_asgL hl0 (.inl rfl) rfl rfl) trivial ?_
  show Tri _ _ _ _
  refine tri_le (Le.forget [(1, .op n 0), (2, .op (n + 1) 0), (3, .orow ls), (4, p)] ⟨rfl, rfl, rfl, rfl, trivial⟩) ?_
  refine tri_seq ?_
  refine tri_region (by exact tokW) (by exact gok) [21] [] rfl ?_
  refine evOps_step rfl rfl rfl rfl rfl rfl trivial ?_
  refine evOps_step rfl rfl rfl rfl rfl rfl trivial ?_
  refine evOps_step rfl rfl rfl rfl rfl (s1_lenA rfl rfl rfl rfl rfl hI.stk) trivial ?_
  refine evOps_step rfl rfl rfl rfl rfl rfl trivial ?_
  rw [hz]
  refine evOps_step rfl rfl rfl rfl rfl (s1_sliceA rfl rfl rfl rfl rfl rfl hI.stk rfl) ⟨Int.natCast_nonneg _, Int.ofNat_le.2 (Nat.le_of_lt hlt1)⟩ ?_
  refine evOps_step rfl rfl rfl rfl rfl rfl trivial ?_
  show Tri _ _ _ _
  refine tri_gen [(1, .op n 0), (2, .op (n + 1) 0), (3, .orow nx), (4, p)] (nx + 1) ⟨rfl, rfl, rfl, rfl, trivial⟩ rfl fun H1 hH1 => ?_
  have g1 : H1 nx = some (.arow 63 1 (S'.map fun p => [p])) := (hH1 nx).trans (by
    show (bif Nat.beq nx nx then some (Ob.arow 63 1 (((S' ++ [p]).map fun p => [p]).take ((S'.length : Int)).toNat)) else _) = _
    rw [Nat.beq_refl, cond_true, Int.toNat_natCast]
    simp)
  have g2 : ∀ k, k ≠ nx → k ≠ ls → H1 k = H k := fun k h1 h2 => (hH1 k).trans (by
    show (bif Nat.beq k nx then _ else bif Nat.beq k ls then none else H k) = _
    rw [beq_ne h1, beq_ne h2]; rfl)
  clear hH1
  have hbase : baseK p = n ∨ baseK p ∈ keys := by
    rcases hI.tree.base (p0 := p) (by simp) with h | h
    · exact .inl (by rw [h]; rfl)
    · exact .inr h
  have hln : n < nx := Nat.lt_trans (Nat.lt_trans (Nat.lt_succ_self n) hI.l1) hI.l2
  have hbl : baseK p ≠ nx ∧ baseK p ≠ ls ∧ baseK p ≠ n + 1 ∧ baseK p < nx := by
    have h1 := hI.l1
    have h2 := hI.l2
    rcases hbase with h | h
    · rw [h]; omega
    · have := hI.kb _ h; omega
  have fin : ∀ (cs : List AV) (Hj : Nat → Option Ob) (lsj nxj : Nat) (new : List Nat) (ch : List AV) (w' : Nat), (∀ k, k ≠ ls → k < nx → Hj k = putC H p cs k) → Hj lsj = some (.arow 63 1 ((S' ++ ch).map fun p => [p])) → At Hj 26 p (.mk k1 tx1 c1 ks1) new ch w' →
      new.Nodup → (∀ k ∈ new, nx ≤ k ∧ k < nxj ∧ k ≠ lsj) → nx ≤ lsj → lsj < nxj → w' < (Nd.mk k1 tx1 c1 ks1).cnt → ∃ keys2, DInv hp n 26 63 (.mk k0 tx c ks) Hj lsj nxj (S' ++ ch) keys2 (w1 + w') ∧ w1 + w' < w := by
    intro cs Hj lsj nxj new ch w' f1 f2 f3 f4 f5 f6 f7 f8
    have l1 := hI.l1
    have l2 := hI.l2
    have hD : ∀ k, k = n ∨ k ∈ keys → k ≠ ls ∧ k < nx := fun k hk => by
      rcases hk with rfl | hk
      · omega
      · have := hI.kb k hk; omega
    obtain ⟨keys2, hperm, hat⟩ := hrep Hj new ch w' (Sim.put hl0 hcell fun k hk => f1 k (hD k hk).1 (hD k hk).2) f3
    have hmem : ∀ k, k ∈ keys2 → k ∈ keys ∨ k ∈ new := fun k hk => List.mem_append.1 (hperm.mem_iff.1 hk)
    have hkn := List.nodup_cons.1 hI.nd
    refine ⟨keys2, {
      low := fun k hk => (f1 k (by omega) (by omega)).trans ((putC_other (by
        rcases hbase with h | h
        · omega
        · have := hI.kb _ h; omega)).trans (hI.low k hk))
      res := by
        obtain ⟨a, b, c, d, hr⟩ := hI.res
        exact ⟨a, b, c, d, (f1 (n + 1) (by omega) (by omega)).trans ((putC_other (Ne.symm hbl.2.2.1)).trans hr)⟩
      stk := f2
      tree := hat
      nd := List.nodup_cons.2 ⟨fun hm => by
        rcases hmem n hm with h | h
        · exact hkn.1 h
        · have := f5 n h; omega, hperm.nodup_iff.2 (List.nodup_append.2 ⟨hkn.2, f4, fun a ha b hb e => by
          have := hI.kb a ha
          have := f5 b hb
          omega⟩)⟩
      kb := fun k hk => by
        rcases hmem k hk with h | h
        · have := hI.kb k h; omega
        · have := f5 k h; omega
      l1 := by omega
      l2 := f7 }, by omega⟩
  have hc1 : cellsAt H1 p = some (ncells k1 tx1 c1 (.s (.sl 4 (Nd.encs ks1)))) := (cellsAt_eq hl0 (g2 _ hbl.1 hbl.2.1)).trans hcell
  refine tri_seq ?_
  refine tri_region (by exact tokW) (by exact gok) [] [] rfl ?_
  refine evOps_step rfl rfl rfl rfl rfl (s1_asgL hl0 (.inr rfl) rfl rfl) trivial ?_
  refine evOps_step rfl rfl rfl rfl rfl (s1_nilL hl0 rfl rfl) trivial ?_
  refine evOps_step rfl rfl rfl rfl rfl (s1_fldL hl0 rfl rfl rfl rfl rfl rfl rfl) trivial ?_
  refine evOps_ldL (off := 3) (sz := 4) rfl rfl rfl rfl rfl rfl rfl hl0 rfl hc1 rfl ?_
  refine evOps_step rfl rfl rfl rfl rfl rfl trivial ?_
  show Tri _ _ _ _
  refine tri_le (Le.forget [(1, .op n 0), (2, .op (n + 1) 0), (3, .orow nx), (4, p), (5, .s (.sl 4 (Nd.encs ks1)))] ⟨rfl, rfl, rfl, rfl, rfl, trivial⟩) ?_
  refine tri_seq ?_
  refine tri_region (by exact tokW) (by exact gok) [] [] rfl ?_
  refine evOps_step rfl rfl rfl rfl rfl (s1_asgL hl0 (.inr rfl) rfl rfl) trivial ?_
  refine evOps_step rfl rfl rfl rfl rfl (s1_nilL hl0 rfl rfl) trivial ?_
  refine evOps_step rfl rfl rfl rfl rfl (s1_fldL hl0 rfl rfl rfl rfl rfl rfl rfl) trivial ?_
  refine evOps_stL (off := 3) (sz := 4) (c := .s (.sl 4 [])) rfl rfl rfl rfl rfl hl0 rfl hc1 rfl (by decide) rfl rfl rfl ?_
  show Tri _ _ _ _
  refine tri_gen [(1, .op n 0), (2, .op (n + 1) 0), (3, .orow nx), (4, p), (5, .s (.sl 4 (Nd.encs ks1)))] (nx + 1) ⟨rfl, rfl, rfl, rfl, rfl, trivial⟩ rfl fun H2 hH2 => ?_
  have hH2 : ∀ k, H2 k = putC H1 p (ncells k1 tx1 c1 (.s (.sl 4 []))) k := hH2
  have hc2 : cellsAt H2 p = some (ncells k1 tx1 c1 (.s (.sl 4 []))) := (cellsAt_eq hl0 (hH2 _)).trans (cellsAt_put hl0 hc1)
  refine tri_seq ?_
  refine tri_seq ?_
  refine tri_region (by exact tokW) (by exact gok) [] [] rfl ?_
  refine evOps_step rfl rfl rfl rfl rfl rfl trivial ?_
  refine evOps_step rfl rfl rfl rfl rfl rfl trivial ?_
  refine evOps_step rfl rfl rfl rfl rfl rfl trivial ?_
  show Tri _ _ _ _
  refine tri_cond rfl (fun hb => ?_) (fun hb => ?_)
  rotate_left
  · obtain rfl : ks1 = [] := by
      cases ks1 with
      | nil => rfl
      | cons x l =>
        have := of_decide_eq_false hb
        simp only [Nd.encs, List.length_cons] at this
        omega
    refine tri_skip ?_
    show Tri _ _ _ _
    refine tri_le (Le.forget [(1, .op n 0), (2, .op (n + 1) 0), (3, .orow nx), (4, p), (5, .s (.sl 4 []))] ⟨rfl, rfl, rfl, rfl, rfl, trivial⟩) ?_
    refine tri_seq ?_
    refine tri_region (by exact tokW) (by exact gok) [] [] rfl ?_
    refine evOps_step rfl rfl rfl rfl rfl (s1_asgL hl0 (.inr rfl) rfl rfl) trivial ?_
    refine evOps_step rfl rfl rfl rfl rfl (s1_nilL hl0 rfl rfl) trivial ?_
    refine evOps_step rfl rfl rfl rfl rfl (s1_fldL hl0 rfl rfl rfl rfl rfl rfl rfl) trivial ?_
    refine evOps_ldL (off := 3) (sz := 4) rfl rfl rfl rfl rfl rfl rfl hl0 rfl hc2 rfl ?_
    refine evOps_step rfl rfl rfl rfl rfl rfl trivial ?_
    refine evOps_step rfl rfl rfl rfl rfl rfl trivial ?_
    show Tri _ _ _ _
    refine tri_le (Le.forget [(1, .op n 0), (2, .op (n + 1) 0), (3, .orow nx), (4, p), (5, .s (.sl 4 []))] ⟨rfl, rfl, rfl, rfl, rfl, trivial⟩) ?_
    refine tri_seq ?_
    refine tri_region (by exact tokW) (by exact gok) [] [] rfl ?_
    refine evOps_step rfl rfl rfl rfl rfl (s1_asgL hl0 (.inr rfl) rfl rfl) trivial ?_
    refine evOps_step rfl rfl rfl rfl rfl (s1_nilL hl0 rfl rfl) trivial ?_
    refine evOps_step rfl rfl rfl rfl rfl (s1_fldL hl0 rfl rfl rfl rfl rfl rfl rfl) trivial ?_
    refine evOps_ldL (off := 3) (sz := 4) rfl rfl rfl rfl rfl rfl rfl hl0 rfl hc2 rfl ?_
    refine evOps_step rfl rfl rfl rfl rfl rfl trivial ?_
    refine evOps_step rfl rfl rfl rfl rfl rfl trivial ?_
    show Tri _ _ _ _
    refine tri_block (tri_loopI (X := Unit) (fun _ => ⟨ofL [(1, .op n 0), (2, .op (n + 1) 0), (3, .orow nx), (48, .s (.int .i64 0)), (49, .s (.int .i64 0))], H2, nx + 1⟩) (fun _ => True) (fun _ => 0) () trivial (Le.forget [(1, .op n 0), (2, .op (n + 1) 0), (3, .orow nx), (48, .s (.int .i64 0)), (49, .s (.int .i64 0))] ⟨rfl, rfl, rfl, rfl, rfl, trivial⟩) ?_)
    rintro ⟨⟩ _
    refine tri_seq ?_
    refine tri_region (by exact tokW) (by exact gok) [] [] rfl ?_
    refine evOps_step rfl rfl rfl rfl rfl rfl trivial ?_
    show Tri _ _ _ _
    refine tri_seq ?_
    refine tri_cond rfl (fun hb => by cases hb) (fun hb => ?_)
    refine tri_exit ?_
    obtain ⟨keys2, hz1, hz2⟩ := fin (ncells k1 tx1 c1 (.s (.sl 4 []))) H2 nx (nx + 1) [] [] 0
      (fun k h1 h2 => (hH2 k).trans (putC_congr hl0 (g2 k (by omega) h1) (g2 _ hbl.1 hbl.2.1)))
      (by rw [List.append_nil]; exact (hH2 nx).trans ((putC_other (Ne.symm hbl.1)).trans g1))
      (by simp only [At]; exact ⟨.s (.sl 4 []), hc2, .inr (.inl (by simp))⟩) (by simp) (fun k hk => by cases hk) (Nat.le_refl _) (Nat.lt_succ_self _) (by simp [Nd.cnt])
    exact ⟨(H2, nx, nx + 1, S' ++ [], keys2, w1 + 0), hz1, Le.forget [(1, .op n 0), (2, .op (n + 1) 0), (3, .orow nx)] ⟨rfl, rfl, rfl, trivial⟩, hz2⟩
  · have hm : 0 < ks1.length := by
      have := of_decide_eq_true hb
      rw [Nd.encs_eq, List.length_map] at this
      omega
    have hkl : ks1.length < 1000000000 := by
      have h1 := Nd.cnts_len ks1
      have h2 := hwl.2
      simp only [Nd.cnt] at hw hcnt h2
      omega
    have hel : (Nd.encs ks1).length = ks1.length := by rw [Nd.encs_eq, List.length_map]
    refine tri_le (Le.forget [(1, .op n 0), (2, .op (n + 1) 0), (3, .orow nx), (4, p), (5, .s (.sl 4 (Nd.encs ks1)))] ⟨rfl, rfl, rfl, rfl, rfl, trivial⟩) ?_
    refine tri_region (by exact tokW) (by exact gok) [35] [] rfl ?_
    refine evOps_step rfl rfl rfl rfl rfl (s1_asgL hl0 (.inr rfl) rfl rfl) trivial ?_
    refine evOps_step rfl rfl rfl rfl rfl rfl trivial ?_
    refine evOps_step rfl rfl rfl rfl rfl rfl trivial ?_
    refine evOps_step rfl rfl rfl rfl rfl (s1_mk rfl rfl rfl rfl rfl rfl rfl rfl rfl) (show 0 ≤ _ ∧ _ from ⟨Int.natCast_nonneg _, Int.le_refl _, show (((Nd.encs ks1).length : Nat) : Int) * ((56 : Nat) : Int) ≤ 281474976710656 by omega, show (((Nd.encs ks1).length : Nat) : Int) ≤ 281474976710656 by omega⟩) ?_
    refine evOps_step rfl rfl rfl rfl rfl (s1_nilL hl0 rfl rfl) trivial ?_
    refine evOps_step rfl rfl rfl rfl rfl (s1_fldL hl0 rfl rfl rfl rfl rfl rfl rfl) trivial ?_
    have hbn : baseK p ≠ nx + 1 := by have := hbl.2.2.2; omega
    refine evOps_stL (off := 3) (sz := 4) (c := .orow (nx + 1)) rfl rfl rfl rfl rfl hl0 rfl ((cellsAt_eq hl0 (by show (bif Nat.beq (baseK p) (nx + 1) then _ else H2 (baseK p)) = _; rw [beq_ne hbn]; rfl)).trans hc2) rfl (by decide) rfl rfl (decide_eq_true (Nat.lt_succ_self _)) ?_
    show Tri _ _ _ _
    refine tri_gen [(1, .op n 0), (2, .op (n + 1) 0), (3, .orow nx), (4, p), (5, .s (.sl 4 (Nd.encs ks1)))] (nx + 2) ⟨rfl, rfl, rfl, rfl, rfl, trivial⟩ rfl fun H3 hH3 => ?_
    have hH3 : ∀ k, H3 k = putC (fun k => bif Nat.beq k (nx + 1) then some (.row 26 4 (List.replicate (((Nd.encs ks1).length : Int)).toNat [.int .i64 0, .str [], .int .i64 0, .sl 4 []])) else H2 k) p (ncells k1 tx1 c1 (.orow (nx + 1))) k := hH3
    have a1 : H3 (nx + 1) = some (.row 26 4 (List.replicate (((Nd.encs ks1).length : Int)).toNat [.int .i64 0, .str [], .int .i64 0, .sl 4 []])) := (hH3 _).trans ((putC_other (Ne.symm hbn)).trans (by simp only [Nat.beq_refl, cond_true]))
    have a2 : ∀ k, k ≠ nx + 1 → H3 k = putC H2 p (ncells k1 tx1 c1 (.orow (nx + 1))) k := fun k hk => (hH3 k).trans (putC_congr hl0 (by simp only [beq_ne hk, cond_false]) (by simp only [beq_ne hbn, cond_false]))
    have hc3 : cellsAt H3 p = some (ncells k1 tx1 c1 (.orow (nx + 1))) := (cellsAt_eq hl0 (a2 _ hbn)).trans (cellsAt_put hl0 hc2)
    refine tri_le (Le.toA (nx + 1) a1) ?_
    refine tri_seq ?_
    refine tri_region (by exact tokW) (by exact gok) [] [] rfl ?_
    refine evOps_step rfl rfl rfl rfl rfl (s1_asgL hl0 (.inr rfl) rfl rfl) trivial ?_
    refine evOps_step rfl rfl rfl rfl rfl (s1_nilL hl0 rfl rfl) trivial ?_
    refine evOps_step rfl rfl rfl rfl rfl (s1_fldL hl0 rfl rfl rfl rfl rfl rfl rfl) trivial ?_
    refine evOps_ldL (off := 3) (sz := 4) rfl rfl rfl rfl rfl rfl rfl hl0 rfl ((cellsAt_eq hl0 (upd_ne hbn)).trans hc3) rfl ?_
    refine evOps_step rfl rfl rfl rfl rfl rfl trivial ?_
    refine evOps_step rfl rfl rfl rfl rfl (s1_copyA rfl rfl rfl rfl rfl rfl rfl rfl rfl upd_at rfl rfl) (show (List.map _ _).length = List.length _ by simp) ?_
    show Tri _ _ _ _
    refine tri_gen [(1, .op n 0), (2, .op (n + 1) 0), (3, .orow nx), (4, p), (5, .s (.sl 4 (Nd.encs ks1)))] (nx + 2) ⟨rfl, rfl, rfl, rfl, rfl, trivial⟩ rfl fun H4 hH4 => ?_
    have r1 : H4 (nx + 1) = some (.arow 26 4 ((Nd.encs ks1).map (·.map AV.s))) := (hH4 _).trans upd_at
    have r2 : ∀ k, k ≠ nx + 1 → H4 k = H3 k := fun k hk => (hH4 k).trans ((upd_ne hk).trans (upd_ne hk))
    clear hH4
    have hc4 : cellsAt H4 p = some (ncells k1 tx1 c1 (.orow (nx + 1))) := (cellsAt_eq hl0 (r2 _ hbn)).trans hc3
    refine tri_seq ?_
    refine tri_region (by exact tokW) (by exact gok) [] [] rfl ?_
    refine evOps_step rfl rfl rfl rfl rfl (s1_asgL hl0 (.inr rfl) rfl rfl) trivial ?_
    refine evOps_step rfl rfl rfl rfl rfl (s1_nilL hl0 rfl rfl) trivial ?_
    refine evOps_step rfl rfl rfl rfl rfl (s1_fldL hl0 rfl rfl rfl rfl rfl rfl rfl) trivial ?_
    refine evOps_ldL (off := 3) (sz := 4) rfl rfl rfl rfl rfl rfl rfl hl0 rfl hc4 rfl ?_
    refine evOps_step rfl rfl rfl rfl rfl (s1_lenA rfl rfl rfl rfl rfl r1) trivial ?_
    refine evOps_step rfl rfl rfl rfl rfl rfl trivial ?_
    show Tri _ _ _ _
    have hlen4 : ((Nd.encs ks1).map (·.map AV.s)).length = ks1.length := by rw [List.length_map, hel]
    refine tri_block (tri_loopI (X := (Nat → Option Ob) × Nat × Nat × Nat) (fun y => match y with | (Hj, lsj, nxj, j) => ⟨ofL [(1, .op n 0), (2, .op (n + 1) 0), (3, .orow lsj), (4, p), (48, .s (.int .i64 (ks1.length : Int))), (49, .s (.int .i64 (j : Int)))], Hj, nxj⟩)
      (fun y => match y with | (Hj, lsj, nxj, j) => j ≤ ks1.length ∧ (∀ k, k ≠ nx → k < nx + 2 → Hj k = H4 k) ∧ Hj lsj = some (.arow 63 1 ((S' ++ locs (nx + 1) 0 j).map fun p => [p])) ∧ (lsj = nx ∨ nx + 2 ≤ lsj) ∧ lsj < nxj ∧ nx + 2 ≤ nxj) (fun y => match y with | (Hj, lsj, nxj, j) => ks1.length - j) (H4, nx, nx + 2, 0)
      ⟨Nat.zero_le _, fun k _ _ => rfl, by
        refine (r2 nx (by omega)).trans ((a2 nx (by omega)).trans ((putC_other (Ne.symm hbl.1)).trans ((hH2 nx).trans ((putC_other (Ne.symm hbl.1)).trans (g1.trans ?_)))))
        simp [locs], .inl rfl, by omega, Nat.le_refl _⟩
      (Le.forget [(1, .op n 0), (2, .op (n + 1) 0), (3, .orow nx), (4, p), (48, .s (.int .i64 (ks1.length : Int))), (49, .s (.int .i64 ((0 : Nat) : Int)))] ⟨rfl, rfl, rfl, rfl, congrArg (fun m : Nat => AV.s (.int .i64 (m : Int))) hlen4, rfl, trivial⟩) ?_)
    rintro ⟨Hj, lsj, nxj, j⟩ ⟨i1, i2, i3, i4, i5, i6⟩
    have hbj : baseK p ≠ nx ∧ baseK p < nx + 2 := ⟨hbl.1, by have := hbl.2.2.2; omega⟩
    have hcj : cellsAt Hj p = some (ncells k1 tx1 c1 (.orow (nx + 1))) := (cellsAt_eq hl0 (i2 _ hbj.1 hbj.2)).trans hc4
    have hrj : Hj (nx + 1) = some (.arow 26 4 ((Nd.encs ks1).map (·.map AV.s))) := (i2 (nx + 1) (by omega) (by omega)).trans r1
    refine tri_seq ?_
    refine tri_region (by exact tokW) (by exact gok) [] [] rfl ?_
    refine evOps_step rfl rfl rfl rfl rfl rfl trivial ?_
    show Tri _ _ _ _
    refine tri_seq ?_
    refine tri_cond rfl (fun hb => ?_) (fun hb => ?_)
    · refine tri_skip ?_
      show Tri _ _ _ _
      have hj : j < ks1.length := Int.ofNat_lt.1 (of_decide_eq_true hb)
      have hsl : ((S' ++ locs (nx + 1) 0 j).map fun p => [p]).length = S'.length + j := by simp [locs]
      refine tri_le (Le.forget [(1, .op n 0), (2, .op (n + 1) 0), (3, .orow lsj), (4, p), (48, .s (.int .i64 (ks1.length : Int))), (49, .s (.int .i64 (j : Int)))] ⟨rfl, rfl, rfl, rfl, rfl, rfl, trivial⟩) ?_
      refine tri_seq ?_
      refine tri_block ?_
      refine tri_seq ?_
      refine tri_region (by exact tokW) (by exact gok) [] [] rfl ?_
      refine evOps_step rfl rfl rfl rfl rfl rfl trivial ?_
      refine evOps_step rfl rfl rfl rfl rfl rfl trivial ?_
      show Tri _ _ _ _
      refine tri_region (by exact tokW) (by exact gok) [59, 60] [] rfl ?_
      refine evOps_step rfl rfl rfl rfl rfl rfl trivial ?_
      refine evOps_step rfl rfl rfl rfl rfl (s1_asgL hl0 (.inr rfl) rfl rfl) trivial ?_
      refine evOps_step rfl rfl rfl rfl rfl (s1_nilL hl0 rfl rfl) trivial ?_
      refine evOps_step rfl rfl rfl rfl rfl (s1_fldL hl0 rfl rfl rfl rfl rfl rfl rfl) trivial ?_
      refine evOps_ldL (off := 3) (sz := 4) rfl rfl rfl rfl rfl rfl rfl hl0 rfl hcj rfl ?_
      refine evOps_step rfl rfl rfl rfl rfl rfl trivial ?_
      refine evOps_step rfl rfl rfl rfl rfl (s1_idxA rfl rfl rfl rfl rfl rfl hrj rfl) ⟨Int.natCast_nonneg _, Int.ofNat_lt.2 (by rw [hlen4]; exact hj)⟩ ?_
      rw [Int.toNat_natCast]
      refine evOps_step rfl rfl rfl rfl rfl rfl trivial ?_
      refine evOps_step rfl rfl rfl rfl rfl (s1_appA (rows := (S' ++ locs (nx + 1) 0 j).map fun p => [p]) (rows2 := [[.rp (nx + 1) 4 j 0]]) rfl rfl rfl rfl rfl rfl rfl rfl rfl (by show (bif Nat.beq lsj nxj then _ else Hj lsj) = _; rw [beq_ne (by omega)]; exact i3) (by show (bif Nat.beq nxj nxj then _ else Hj nxj) = _; rw [Nat.beq_refl]; rfl) rfl rfl rfl) (show (((S' ++ locs (nx + 1) 0 j).map fun p => [p]).length + 1) * 8 ≤ 140737488355328 ∧ ((S' ++ locs (nx + 1) 0 j).map fun p => [p]).length + 1 ≤ 9223372036854775807 by rw [hsl]; omega) ?_
      refine evOps_step rfl rfl rfl rfl rfl rfl trivial ?_
      show Tri _ _ _ _
      refine tri_gen [(1, .op n 0), (2, .op (n + 1) 0), (3, .orow (nxj + 1)), (4, p), (48, .s (.int .i64 (ks1.length : Int))), (49, .s (.int .i64 (j : Int)))] (nxj + 2) ⟨rfl, rfl, rfl, rfl, rfl, rfl, trivial⟩ rfl fun H5 hH5 => ?_
      have e1 : H5 (nxj + 1) = some (.arow 63 1 ((S' ++ locs (nx + 1) 0 (j + 1)).map fun p => [p])) := (hH5 _).trans (by
        show (bif Nat.beq (nxj + 1) (nxj + 1) then some (Ob.arow 63 1 (((S' ++ locs (nx + 1) 0 j).map fun p => [p]) ++ [[.rp (nx + 1) 4 j 0]])) else _) = _
        rw [Nat.beq_refl, cond_true, locs_succ]
        simp)
      have e2 : ∀ k, k ≠ nxj + 1 → k ≠ lsj → k ≠ nxj → H5 k = Hj k := fun k h1 h2 h3 => (hH5 k).trans (by
        show (bif Nat.beq k (nxj + 1) then _ else bif Nat.beq k lsj then none else bif Nat.beq k nxj then _ else Hj k) = _
        rw [beq_ne h1, beq_ne h2, beq_ne h3]; rfl)
      clear hH5
      refine tri_region (by exact tokW) (by exact gok) [] [] rfl ?_
      refine evOps_step rfl rfl rfl rfl rfl rfl trivial ?_
      refine evOps_step rfl rfl rfl rfl rfl rfl trivial ?_
      exact ⟨(H5, nxj + 1, nxj + 2, j + 1), ⟨hj, fun k h1 h2 => (e2 k (by omega) (by omega) (by omega)).trans (i2 k h1 h2), e1, .inr (by omega), by omega, by omega⟩,
        Le.forget [(1, .op n 0), (2, .op (n + 1) 0), (3, .orow (nxj + 1)), (4, p), (48, .s (.int .i64 (ks1.length : Int))), (49, .s (.int .i64 ((j + 1 : Nat) : Int)))] ⟨rfl, rfl, rfl, rfl, rfl, congrArg (fun z => AV.s (.int .i64 z)) (wi_succ (by omega)), trivial⟩, by show ks1.length - (j + 1) < ks1.length - j; omega⟩
    · refine tri_exit ?_
      have hj : j = ks1.length := by
        have := of_decide_eq_false hb
        omega
      subst hj
      obtain ⟨keys2, hz1, hz2⟩ := fin (ncells k1 tx1 c1 (.orow (nx + 1))) Hj lsj nxj [nx + 1] (locs (nx + 1) 0 ks1.length) (Nd.cnts ks1)
        (fun k h1 h2 => (i2 k (by omega) (by omega)).trans ((r2 k (by omega)).trans ((a2 k (by omega)).trans (putC_twice hl0 hcell ((hH2 _).trans (putC_congr hl0 (g2 _ hbl.1 hbl.2.1) (g2 _ hbl.1 hbl.2.1))) fun hk => (hH2 k).trans ((putC_other hk).trans (g2 k (by omega) h1))))))
        i3 (by simp only [At]; exact ⟨.orow (nx + 1), hcj, .inr (.inr ⟨nx + 1, _, [], rfl, hrj, hlen4, rfl, LAt.copied hrj⟩)⟩) (by simp) (fun k hk => by
          have := List.mem_singleton.1 hk
          omega) (by omega) i5 (by simp [Nd.cnt])
      exact ⟨(Hj, lsj, nxj, S' ++ locs (nx + 1) 0 ks1.length, keys2, w1 + Nd.cnts ks1), hz1, Le.forget [(1, .op n 0), (2, .op (n + 1) 0), (3, .orow lsj)] ⟨rfl, rfl, rfl, trivial⟩, hz2⟩
def R_deep_Node (xs : List AV) (r : Ret) : Prop := ∃ (a0 : Nd) (y0 : Nd), m_deep_Node a0 = some y0 ∧ xs = [.agg ((Nd.enc a0).map .s)] ∧ r = .val (.agg ((Nd.enc y0).map .s))
def S_deep_Node : PSpec := pspec fun xs r => R_deep_Node xs r
theorem ok_deep_Node : PSound Tryd.prog 66 S_deep_Node :=
  PSound.giveAll hok_deep_Node fun xs r h => by
    obtain ⟨⟨k, t, c, ks⟩, y, hm, rfl, rfl⟩ := h
    obtain ⟨hq, hm⟩ := req_out hm
    obtain rfl := Option.some.inj hm
    refine ⟨_, rfl, rfl, k, c, t, ks, hq, rfl, fun v hp' n' keys _ _ hv _ _ => ?_⟩
    refine rdV_node (t := .mk k t c ks) (RdC.node ?_)
    rcases hv with ⟨rfl, rfl, _⟩ | ⟨q, rows, keys', w, rfl, hq, hlen, rfl, h⟩
    · exact .s _
    · exact Rd.rows hq hlen fun j x hj => (by have := LAt.rd h j x hj; rwa [Nat.zero_add] at this)
end Go.Proofs.YtefbmooajknmgaaDoor
set_option linter.unusedVariables false
set_option linter.unusedSimpArgs false
namespace Go.Proofs.YtefbmooajknmgaaDoor
open Go.Abs
theorem findL_none1 {n : Nd} {i s : Int} {p : List Int} (h : ¬ (0 ≤ i ∧ i < n.kids.length)) : findL n (i :: s :: p) = none := by rw [findL, if_neg h]
theorem findL_none2 {n x : Nd} {i s : Int} {p : List Int} (h0 : 0 ≤ i) (hx : n.kids[i.toNat]? = some x) (h : ¬ (0 ≤ s ∧ s < x.kids.length)) : findL n (i :: s :: p) = none := by
  have hl := (List.getElem?_eq_some_iff.1 hx).1
  rw [findL, if_pos ⟨h0, by omega⟩]
  simp only [List.getD_eq_getElem?_getD, hx, Option.getD_some]
  rw [if_neg h]
theorem findL_step {n x z : Nd} {i s : Int} {p : List Int} (h0 : 0 ≤ i) (hx : n.kids[i.toNat]? = some x) (h1 : 0 ≤ s) (hz : x.kids[s.toNat]? = some z) : findL n (i :: s :: p) = findL z p := by
  have hl := (List.getElem?_eq_some_iff.1 hx).1
  have hl2 := (List.getElem?_eq_some_iff.1 hz).1
  rw [findL, if_pos ⟨h0, by omega⟩]
  simp only [List.getD_eq_getElem?_getD, hx, hz, Option.getD_some]
  rw [if_pos ⟨h1, by omega⟩]
theorem encs_at {l : List Nd} {i : Nat} {x : Nd} (h : l[i]? = some x) : (Nd.encs l).getD i [] = Nd.enc x := by
  simp [Nd.encs_eq, List.getD_eq_getElem?_getD, h]
theorem encs_len (l : List Nd) : (Nd.encs l).length = l.length := by rw [Nd.encs_eq, List.length_map]
def enc_found : Option Nd → AV
  | some y => .s (.pt (Nd.enc y))
  | none => .junk
def R_node_find (xs : List AV) (r : Ret) : Prop := ∃ (a0 : Nd) (a1 : List Int), xs = [.s (.pt (Nd.enc a0)), .s (.sl 1 (a1.map (irow .i64)))] ∧ r = .val (.tup [enc_found (findL a0 a1), .s (.bool (findL a0 a1).isSome)])
def S_node_find : PSpec := pspec fun xs r => R_node_find xs r
set_option maxHeartbeats 2000000 in
set_option maxRecDepth 100000 in
theorem ok_node_find : PSound Tryd.prog 67 S_node_find := by
  have gok : ∀ (f : Nat) (s : PSpec), (fun _ => none : Nat → Option PSpec) f = some s → PSound Tryd.prog f s := fun _ _ h => by cases h
  refine psound tokW Tryd.call67 Tryd.func67 rfl (fun xs r h => by obtain ⟨_, _, rfl, _⟩ := h; show 2 ≤ _; decide) _ rfl ?_
  rintro xs r w0 G0 ⟨n0, p0, rfl, rfl⟩ _
  generalize hy : findL n0 p0 = y
  refine tri_seq ?_
  refine tri_region (by exact tokW) (by exact gok) [] [] rfl ?_
  show Tri _ _ _ _
  refine tri_seq ?_
  refine tri_block (tri_loopI (X := Nd × List Int) (fun x => match x with | (n, p) => ⟨ofL [(0, .s (.pt (Nd.enc n))), (1, .s (.sl 1 (p.map (irow .i64)))), (4, .s .np), (5, .s (.bool false))], fun _ => none, 0⟩)
    (fun x => match x with | (n, p) => findL n p = y) (fun x => match x with | (n, p) => p.length) (n0, p0) hy (Le.forget [(0, .s (.pt (Nd.enc n0))), (1, .s (.sl 1 (p0.map (irow .i64)))), (4, .s .np), (5, .s (.bool false))] ⟨rfl, rfl, rfl, rfl, trivial⟩) ?_)
  rintro ⟨⟨k, t, c, ks⟩, p⟩ hI
  have hI : findL (.mk k t c ks) p = y := hI
  refine tri_seq ?_
  refine tri_seq ?_
  refine tri_region (by exact tokW) (by exact gok) [] [] rfl ?_
  show Tri _ _ _ _
  refine tri_cond rfl (fun hb => ?_) (fun hb => ?_)
  · refine tri_skip ?_
    show Tri _ _ _ _
    match p, hI, hb with
    | [], _, hb => cases hb
    | [_], _, hb => cases hb
    | i :: s :: p, hI, hb =>
      refine tri_le (Le.forget [(0, .s (.pt (Nd.enc (.mk k t c ks)))), (1, .s (.sl 1 ((i :: s :: p).map (irow .i64)))), (4, .s .np), (5, .s (.bool false))] ⟨rfl, rfl, rfl, rfl, trivial⟩) ?_
      refine tri_seq ?_
      refine tri_block ?_
      refine tri_seq ?_
      refine tri_drawn (by exact tokW) (by exact gok) (by exact mixed) [] [] [1, 2, 4, 5] rfl (by decide +kernel) ?_
      refine And.intro (show (0 : Int) ≤ 0 ∧ (0 : Int) < ((((i :: s :: p).map (irow .i64)).length : Nat) : Int) by simp only [List.map_cons, List.length_cons]; omega) ?_
      refine And.intro (show (0 : Int) ≤ 1 ∧ (1 : Int) < ((((i :: s :: p).map (irow .i64)).length : Nat) : Int) by simp only [List.map_cons, List.length_cons]; omega) ?_
      show Tri _ _ _ _
      refine tri_le (Le.forget [(0, .s (.pt [.int .i64 k, .str t, .int .i64 c, .sl 4 (Nd.encs ks)])), (1, .s (.sl 1 ((i :: s :: p).map (irow .i64)))), (4, .s .np), (5, .s (.bool false)), (6, .s (.int .i64 i)), (7, .s (.int .i64 s))] ⟨rfl, rfl, rfl, rfl, rfl, rfl, trivial⟩) ?_
      refine tri_seq ?_
      refine tri_seq ?_
      by_cases hi : i < 0
      · refine tri_region (by exact tokW) (by exact gok) [] [21] rfl ?_
        intro b hb
        obtain rfl : true = b := (hb.trans (decide_eq_true hi)).symm
        show Tri _ _ _ _
        refine tri_cond rfl (fun _ => ?_) (fun h => by cases h)
        refine tri_seq ?_
        refine tri_region (by exact tokW) (by exact gok) [] [] rfl ?_
        show Tri _ _ _ _
        refine tri_ret ?_
        obtain rfl : none = y := (findL_none1 (fun h => by omega)).symm.trans hI
        unfold Gives
        exact ⟨_, Le.forget [(5, .s (.bool false))] ⟨rfl, trivial⟩, rfl, rfl⟩
      by_cases hi2 : (ks.length : Int) ≤ i
      · refine tri_region (by exact tokW) (by exact gok) [] [21, 29] rfl ?_
        intro b hb
        obtain rfl : false = b := (hb.trans (decide_eq_false hi)).symm
        intro b hb
        obtain rfl : true = b := (hb.trans (decide_eq_true (show (((Nd.encs ks).length : Nat) : Int) ≤ i by rw [encs_len]; exact hi2))).symm
        show Tri _ _ _ _
        refine tri_cond rfl (fun _ => ?_) (fun h => by cases h)
        refine tri_seq ?_
        refine tri_region (by exact tokW) (by exact gok) [] [] rfl ?_
        show Tri _ _ _ _
        refine tri_ret ?_
        obtain rfl : none = y := (findL_none1 (n := .mk k t c ks) (fun h => by have : i < ks.length := h.2; omega)).symm.trans hI
        unfold Gives
        exact ⟨_, Le.forget [(5, .s (.bool false))] ⟨rfl, trivial⟩, rfl, rfl⟩
      refine tri_region (by exact tokW) (by exact gok) [] [21, 29] rfl ?_
      intro b hb
      obtain rfl : false = b := (hb.trans (decide_eq_false hi)).symm
      intro b hb
      obtain rfl : false = b := (hb.trans (decide_eq_false (show ¬ (((Nd.encs ks).length : Nat) : Int) ≤ i by rw [encs_len]; exact hi2))).symm
      show Tri _ _ _ _
      refine tri_cond rfl (fun h => by cases h) (fun _ => ?_)
      refine tri_skip ?_
      show Tri _ _ _ _
      have hi0 : i.toNat < ks.length := by omega
      obtain ⟨⟨k2, t2, c2, ks2⟩, hx⟩ : ∃ x, ks[i.toNat]? = some x := ⟨_, List.getElem?_eq_getElem hi0⟩
      refine tri_le (Le.forget [(0, .s (.pt [.int .i64 k, .str t, .int .i64 c, .sl 4 (Nd.encs ks)])), (1, .s (.sl 1 ((i :: s :: p).map (irow .i64)))), (4, .s .np), (5, .s (.bool false)), (6, .s (.int .i64 i)), (7, .s (.int .i64 s))] ⟨rfl, rfl, rfl, rfl, rfl, rfl, trivial⟩) ?_
      refine tri_seq ?_
      refine tri_region (by exact tokW) (by exact gok) [] [] rfl ?_
      refine And.intro (show (0 : Int) ≤ i ∧ i < (((Nd.encs ks).length : Nat) : Int) by rw [encs_len]; omega) ?_
      show Tri _ _ _ _
      refine tri_le (Le.forget [(0, .s (.pt [.int .i64 k, .str t, .int .i64 c, .sl 4 (Nd.encs ks)])), (1, .s (.sl 1 ((i :: s :: p).map (irow .i64)))), (4, .s .np), (5, .s (.bool false)), (6, .s (.int .i64 i)), (7, .s (.int .i64 s)), (8, .s (.pt [.int .i64 k2, .str t2, .int .i64 c2, .sl 4 (Nd.encs ks2)]))] ⟨rfl, rfl, rfl, rfl, rfl, rfl, congrArg (fun z => AV.s (.pt z)) (encs_at hx), trivial⟩) ?_
      refine tri_seq ?_
      refine tri_seq ?_
      by_cases hs : s < 0
      · refine tri_region (by exact tokW) (by exact gok) [] [38] rfl ?_
        intro b hb
        obtain rfl : true = b := (hb.trans (decide_eq_true hs)).symm
        show Tri _ _ _ _
        refine tri_cond rfl (fun _ => ?_) (fun h => by cases h)
        refine tri_seq ?_
        refine tri_region (by exact tokW) (by exact gok) [] [] rfl ?_
        show Tri _ _ _ _
        refine tri_ret ?_
        obtain rfl : none = y := (findL_none2 (n := .mk k t c ks) (by omega) hx (fun h => by omega)).symm.trans hI
        unfold Gives
        exact ⟨_, Le.forget [(5, .s (.bool false))] ⟨rfl, trivial⟩, rfl, rfl⟩
      by_cases hs2 : (ks2.length : Int) ≤ s
      · refine tri_region (by exact tokW) (by exact gok) [] [38, 46] rfl ?_
        intro b hb
        obtain rfl : false = b := (hb.trans (decide_eq_false hs)).symm
        intro b hb
        obtain rfl : true = b := (hb.trans (decide_eq_true (show (((Nd.encs ks2).length : Nat) : Int) ≤ s by rw [encs_len]; exact hs2))).symm
        show Tri _ _ _ _
        refine tri_cond rfl (fun _ => ?_) (fun h => by cases h)
        refine tri_seq ?_
        refine tri_region (by exact tokW) (by exact gok) [] [] rfl ?_
        show Tri _ _ _ _
        refine tri_ret ?_
        obtain rfl : none = y := (findL_none2 (n := .mk k t c ks) (by omega) hx (fun h => by have : s < ks2.length := h.2; omega)).symm.trans hI
        unfold Gives
        exact ⟨_, Le.forget [(5, .s (.bool false))] ⟨rfl, trivial⟩, rfl, rfl⟩
      refine tri_region (by exact tokW) (by exact gok) [] [38, 46] rfl ?_
      intro b hb
      obtain rfl : false = b := (hb.trans (decide_eq_false hs)).symm
      intro b hb
      obtain rfl : false = b := (hb.trans (decide_eq_false (show ¬ (((Nd.encs ks2).length : Nat) : Int) ≤ s by rw [encs_len]; exact hs2))).symm
      show Tri _ _ _ _
      refine tri_cond rfl (fun h => by cases h) (fun _ => ?_)
      refine tri_skip ?_
      show Tri _ _ _ _
      have hs0 : s.toNat < ks2.length := by omega
      obtain ⟨z, hz⟩ : ∃ z, ks2[s.toNat]? = some z := ⟨_, List.getElem?_eq_getElem hs0⟩
      refine tri_le (Le.forget [(0, .s (.pt [.int .i64 k, .str t, .int .i64 c, .sl 4 (Nd.encs ks)])), (1, .s (.sl 1 ((i :: s :: p).map (irow .i64)))), (4, .s .np), (5, .s (.bool false)), (6, .s (.int .i64 i)), (7, .s (.int .i64 s)), (8, .s (.pt [.int .i64 k2, .str t2, .int .i64 c2, .sl 4 (Nd.encs ks2)]))] ⟨rfl, rfl, rfl, rfl, rfl, rfl, rfl, trivial⟩) ?_
      refine tri_region (by exact tokW) (by exact gok) [] [] rfl ?_
      refine And.intro (show (0 : Int) ≤ s ∧ s < (((Nd.encs ks2).length : Nat) : Int) by rw [encs_len]; omega) ?_
      show Tri _ _ _ _
      refine tri_le (Le.forget [(0, .s (.pt (Nd.enc z))), (1, .s (.sl 1 ((i :: s :: p).map (irow .i64)))), (4, .s .np), (5, .s (.bool false))] ⟨congrArg (fun z => AV.s (.pt z)) (encs_at hz), rfl, rfl, rfl, trivial⟩) ?_
      refine tri_region (by exact tokW) (by exact gok) [] [] rfl ?_
      refine And.intro (show (0 : Int) ≤ 2 ∧ (2 : Int) ≤ ((((i :: s :: p).map (irow .i64)).length : Nat) : Int) ∧ _ ≤ _ from ⟨by decide, by simp only [List.map_cons, List.length_cons]; omega, Int.le_refl _⟩) ?_
      exact ⟨(z, p), (findL_step (n := .mk k t c ks) (by omega) hx (by omega) hz).symm.trans hI, Le.forget [(0, .s (.pt (Nd.enc z))), (1, .s (.sl 1 (p.map (irow .i64)))), (4, .s .np), (5, .s (.bool false))] ⟨rfl, congrArg (fun z => AV.s (.sl 1 z)) (by rw [Int.toNat_natCast, List.take_length]; rfl), rfl, rfl, trivial⟩, by show p.length < p.length + 1 + 1; omega⟩
  · refine tri_exit ?_
    show Tri _ _ _ _
    refine tri_seq ?_
    match p, hI, hb with
    | [], hI, _ =>
      refine tri_region (by exact tokW) (by exact gok) [] [] rfl ?_
      show Tri _ _ _ _
      refine tri_ret ?_
      obtain rfl : some (.mk k t c ks) = y := hI
      unfold Gives
      exact ⟨_, Le.refl _ _, rfl, rfl⟩
    | [i], hI, _ =>
      refine tri_region (by exact tokW) (by exact gok) [] [] rfl ?_
      show Tri _ _ _ _
      refine tri_ret ?_
      obtain rfl : none = y := hI
      unfold Gives
      exact ⟨_, Le.forget [(5, .s (.bool false))] ⟨rfl, trivial⟩, rfl, rfl⟩
    | i :: s :: p, _, hb => exact absurd (of_decide_eq_false hb) (by simp only [List.map_cons, List.length_cons]; omega)
end Go.Proofs.YtefbmooajknmgaaDoor
set_option linter.unusedVariables false
namespace Go.Proofs.YtefbmooajknmgaaDoor
open Go.Abs
def m_r09_put : Nat → Nd → (List Int) → Nd → Option Nd
| 0, _, _, _ => none
| n+1, ⟨n1_kind, n1_text, n1_cols, n1_kids⟩, path2, ⟨row3_kind, row3_text, row3_cols, row3_kids⟩ =>
  bif ((path2.length : Int) == 0) then (
    some (Nd.mk row3_kind row3_text row3_cols row3_kids)
  ) else (
    (at? path2 0).bind fun e5 =>
    (at? n1_kids e5).bind fun ⟨e7_kind, e7_text, e7_cols, e7_kids⟩ =>
    (at? path2 0).bind fun e9 =>
    (at? path2 1).bind fun e11 =>
    (at? path2 1).bind fun e13 =>
    (at? e7_kids e13).bind fun ⟨e15_kind, e15_text, e15_cols, e15_kids⟩ =>
    req (0 ≤ (2 : Int) ∧ (2 : Int) ≤ (path2.length : Int) ∧ (path2.length : Int) ≤ (path2.length : Int)) <|
    (m_r09_put n (Nd.mk e15_kind e15_text e15_cols e15_kids) ((path2.take (path2.length : Int).toNat).drop (2 : Int).toNat) (Nd.mk row3_kind row3_text row3_cols row3_kids)).bind fun ⟨y18_kind, y18_text, y18_cols, y18_kids⟩ =>
    (m_r09_Replaced (Nd.mk e7_kind e7_text e7_cols e7_kids) e11 (Nd.mk y18_kind y18_text y18_cols y18_kids)).bind fun ⟨y19_kind, y19_text, y19_cols, y19_kids⟩ =>
    (m_r09_Replaced (Nd.mk n1_kind n1_text n1_cols n1_kids) e9 (Nd.mk y19_kind y19_text y19_cols y19_kids)).bind fun ⟨y20_kind, y20_text, y20_cols, y20_kids⟩ =>
    some (Nd.mk y20_kind y20_text y20_cols y20_kids)
  )
def m_r09_With (n : Nat) : Nd → (List Int) → Nd → Option (Nd × Int)
| ⟨n1_kind, n1_text, n1_cols, n1_kids⟩, path2, ⟨row3_kind, row3_text, row3_cols, row3_kids⟩ =>
  (m_r09_Row n (Nd.mk n1_kind n1_text n1_cols n1_kids) path2).bind fun ⟨⟨y4_kind, y4_text, y4_cols, y4_kids⟩, y5⟩ =>
  bif (y5 != 0) then (
    some (Nd.mk 0 [] 0 [], y5)
  ) else (
    (m_r09_Valid n (Nd.mk row3_kind row3_text row3_cols row3_kids)).bind fun y6 =>
    bif (!y6) then (
      some (Nd.mk 0 [] 0 [], 4)
    ) else (
      (m_r09_put n (Nd.mk n1_kind n1_text n1_cols n1_kids) path2 (Nd.mk row3_kind row3_text row3_cols row3_kids)).bind fun ⟨y7_kind, y7_text, y7_cols, y7_kids⟩ =>
      (m_r09_Valid n (Nd.mk y7_kind y7_text y7_cols y7_kids)).bind fun y8 =>
      bif (!y8) then (
        some (Nd.mk 0 [] 0 [], 6)
      ) else (
        some (Nd.mk y7_kind y7_text y7_cols y7_kids, 0)
      )
    )
  )
def m_l09_NodeWith (n : Nat) : Nd → (List Int) → Nd → Option Bool
| ⟨n1_kind, n1_text, n1_cols, n1_kids⟩, path2, ⟨row3_kind, row3_text, row3_cols, row3_kids⟩ =>
  (
    (m_l09_awake n ).bind fun y5 =>
    bif (!y5) then (
      some true
    ) else (
      (m_l09_few n (Nd.mk n1_kind n1_text n1_cols n1_kids)).bind fun y6 =>
      bif (!y6) then (
        some true
      ) else (
        (m_l09_few n (Nd.mk row3_kind row3_text row3_cols row3_kids)).bind fun y7 =>
        bif (!y7) then (
          some true
        ) else (
          some (decide (60 < (path2.length : Int)))
        )
      )
    )
   : Option (Bool)).bind fun x4 =>
  bif x4 then (
    (m_l09_awake n ).bind fun y9 =>
    some y9
  ) else (
    (m_r09_Dump n (Nd.mk n1_kind n1_text n1_cols n1_kids)).bind fun y10 =>
    (m_node_With n (Nd.mk n1_kind n1_text n1_cols n1_kids) path2 (Nd.mk row3_kind row3_text row3_cols row3_kids)).bind fun ⟨⟨y11_kind, y11_text, y11_cols, y11_kids⟩, y12⟩ =>
    (m_r09_With n (Nd.mk n1_kind n1_text n1_cols n1_kids) path2 (Nd.mk row3_kind row3_text row3_cols row3_kids)).bind fun ⟨⟨y13_kind, y13_text, y13_cols, y13_kids⟩, y14⟩ =>
    (
      bif (y12 == y14) then (
        (m_r09_Equal n (Nd.mk y11_kind y11_text y11_cols y11_kids) (Nd.mk y13_kind y13_text y13_cols y13_kids)).bind fun y16 =>
        bif y16 then (
          (m_r09_Dump n (Nd.mk n1_kind n1_text n1_cols n1_kids)).bind fun y17 =>
          some (y17 == y10)
        ) else (
          some false
        )
      ) else (
        some false
      )
     : Option (Bool)).bind fun x15 =>
    some x15
  )
def m_l09_begins_l1 (l1 : List Int) (with2 : List Int) : Nat → Int → Option (Fl Bool Unit)
| 0, _ => none
| k+1, x6 =>
  bif decide (x6 < (with2.length : Int)) then (
    (at? l1 x6).bind fun e7 =>
    (at? with2 x6).bind fun e9 =>
    bif (e7 != e9) then (
      some (.ret false)
    ) else (
      m_l09_begins_l1 l1 with2 k (IntKind.i64.wrap (x6 + 1))
    )
  ) else (
    some (.go ())
  )
def m_l09_begins (n : Nat) : (List Int) → (List Int) → Option Bool
| l1, with2 =>
  bif decide ((l1.length : Int) < (with2.length : Int)) then (
    some false
  ) else (
    (m_l09_begins_l1 l1 with2 n 0).bind fun fl => match fl with
    | .ret r => some r
    | .go _ =>
      some true
  )
def m_l09_NodeReplace (n : Nat) : Nd → Nd → (List Int × List Int) → Option Bool
| ⟨a1_kind, a1_text, a1_cols, a1_kids⟩, ⟨a2_kind, a2_text, a2_cols, a2_kids⟩, ⟨a3_0, a3_1⟩ =>
  (
    (m_l09_awake n ).bind fun y5 =>
    bif (!y5) then (
      some true
    ) else (
      (m_l09_few n (Nd.mk a1_kind a1_text a1_cols a1_kids)).bind fun y6 =>
      bif (!y6) then (
        some true
      ) else (
        (m_l09_few n (Nd.mk a2_kind a2_text a2_cols a2_kids)).bind fun y7 =>
        bif (!y7) then (
          some true
        ) else (
          bif decide (60 < (a3_0.length : Int)) then (
            some true
          ) else (
            some (decide (60 < (a3_1.length : Int)))
          )
        )
      )
    )
   : Option (Bool)).bind fun x4 =>
  bif x4 then (
    (m_l09_awake n ).bind fun y10 =>
    some y10
  ) else (
    (m_node_Row n (Nd.mk a1_kind a1_text a1_cols a1_kids) a3_0).bind fun ⟨⟨y11_kind, y11_text, y11_cols, y11_kids⟩, y12⟩ =>
    (m_node_With n (Nd.mk a1_kind a1_text a1_cols a1_kids) a3_0 (Nd.mk a2_kind a2_text a2_cols a2_kids)).bind fun ⟨⟨y13_kind, y13_text, y13_cols, y13_kids⟩, y14⟩ =>
    (
      bif (y12 != 0) then (
        some true
      ) else (
        some (y14 != 0)
      )
     : Option (Bool)).bind fun x15 =>
    bif x15 then (
      some true
    ) else (
      (m_node_Row n (Nd.mk y13_kind y13_text y13_cols y13_kids) a3_0).bind fun ⟨⟨y16_kind, y16_text, y16_cols, y16_kids⟩, y17⟩ =>
      (m_node_With n (Nd.mk y13_kind y13_text y13_cols y13_kids) a3_0 (Nd.mk y11_kind y11_text y11_cols y11_kids)).bind fun ⟨⟨y18_kind, y18_text, y18_cols, y18_kids⟩, y19⟩ =>
      (
        bif (y17 != 0) then (
          some true
        ) else (
          bif (y19 != 0) then (
            some true
          ) else (
            (m_r09_Equal n (Nd.mk y16_kind y16_text y16_cols y16_kids) (Nd.mk a2_kind a2_text a2_cols a2_kids)).bind fun y21 =>
            bif (!y21) then (
              some true
            ) else (
              (m_r09_Equal n (Nd.mk y18_kind y18_text y18_cols y18_kids) (Nd.mk a1_kind a1_text a1_cols a1_kids)).bind fun y22 =>
              bif (!y22) then (
                some true
              ) else (
                (m_node_Valid n (Nd.mk y13_kind y13_text y13_cols y13_kids)).bind fun y23 =>
                some (!y23)
              )
            )
          )
        )
       : Option (Bool)).bind fun x20 =>
      bif x20 then (
        some false
      ) else (
        (
          (m_l09_begins n a3_1 a3_0).bind fun y25 =>
          bif y25 then (
            some true
          ) else (
            (m_l09_begins n a3_0 a3_1).bind fun y26 =>
            some y26
          )
         : Option (Bool)).bind fun x24 =>
        bif x24 then (
          some true
        ) else (
          (m_node_Row n (Nd.mk a1_kind a1_text a1_cols a1_kids) a3_1).bind fun ⟨⟨y27_kind, y27_text, y27_cols, y27_kids⟩, y28⟩ =>
          (m_node_Row n (Nd.mk y13_kind y13_text y13_cols y13_kids) a3_1).bind fun ⟨⟨y29_kind, y29_text, y29_cols, y29_kids⟩, y30⟩ =>
          (
            bif (y28 == y30) then (
              (m_r09_Equal n (Nd.mk y27_kind y27_text y27_cols y27_kids) (Nd.mk y29_kind y29_text y29_cols y29_kids)).bind fun y32 =>
              some y32
            ) else (
              some false
            )
           : Option (Bool)).bind fun x31 =>
          some x31
        )
      )
    )
  )
end Go.Proofs.YtefbmooajknmgaaDoor
