/-
  Joined out of: MOwn, MgA, LibS, LibI, LibB, LibD, LibR, MEd, MMg, MMz, MaVA.
-/
import Derived.Test.YtgfneloodabafaaGreatDoorProg
import Derived.KernelRfl
import Derived.Lib.Strings
import Derived.Lib.Slices
import Derived.Lib.Walk
import Derived.Lib.Bytealg
import Derived.Shelf.LaysM
import Derived.Shelf.Strconv.Itoa3
import Derived.Lib.Builder
import Derived.Lib.AppendStr
import Derived.Lib.UnsafeStr
import Derived.Laws.Externs
import Derived.Shelf.RegionOpenPlain
import Derived.WalkKit
import Derived.Lib.SliceRun
import Derived.Lib.AppendZerosOnto
import Derived.Test.YtgfneloodabafaaGreatDoorZc
set_option linter.unusedVariables false
set_option linter.unusedSimpArgs false
set_option maxHeartbeats 2000000
set_option maxRecDepth 100000
namespace Go.Proofs.YtgfneloodabafaaGreatDoor
open Go.Abs
def zCN (k : Int) (t : List UInt8) (c : Int) (v : AV) : List AV := [.s (.int .i64 k), .s (.str t), .s (.int .i64 c), v]
mutual
def At (hp : Nat → Option Ob) (e : Nat) (p : AV) : Nd → List Nat → List AV → Nat → Prop
 | .mk k t c ks, keys, pd, w => ∃ v, zBc hp p = some (zCN k t c v) ∧
   ((v = .s (.sl 4 (Nd.encs ks)) ∧ keys = [] ∧ pd = [p] ∧ w = Nd.cnts ks + 1) ∨ (ks = [] ∧ v = .s (.sl 4 []) ∧ keys = [] ∧ pd = [] ∧ w = 0) ∨
    ∃ q rows keys', v = .orow q ∧ hp q = some (.arow e 4 rows) ∧ rows.length = ks.length ∧ keys = q :: keys' ∧ LAt hp e q 0 ks keys' pd w)
def LAt (hp : Nat → Option Ob) (e q i : Nat) : List Nd → List Nat → List AV → Nat → Prop
 | [], keys, pd, w => keys = [] ∧ pd = [] ∧ w = 0
 | t :: ts, keys, pd, w => ∃ k1 k2 p1 p2 w1 w2, keys = k1 ++ k2 ∧ pd = p1 ++ p2 ∧ w = w1 + w2 ∧ At hp e (.rp q 4 i 0) t k1 p1 w1 ∧ LAt hp e q (i + 1) ts k2 p2 w2
end
mutual
theorem At.len {hp : Nat → Option Ob} {e : Nat} {p : AV} : ∀ {t : Nd} {keys : List Nat} {pd : List AV} {w : Nat}, At hp e p t keys pd w → pd.length ≤ w ∧ w ≤ t.cnt
 | .mk k t c ks, keys, pd, w, h => by
  simp only [At] at h
  obtain ⟨v, _, ⟨_, _, rfl, rfl⟩ | ⟨_, _, _, rfl, rfl⟩ | ⟨q, rows, keys', _, _, _, _, h⟩⟩ := h
  ·simp [Nd.cnt]
  ·simp
  ·have := LAt.len h
   simp only [Nd.cnt]; omega
theorem LAt.len {hp : Nat → Option Ob} {e q i : Nat} : ∀ {ts : List Nd} {keys : List Nat} {pd : List AV} {w : Nat}, LAt hp e q i ts keys pd w → pd.length ≤ w ∧ w ≤ Nd.cnts ts
 | [], keys, pd, w, h => by
  simp only [LAt] at h
  obtain ⟨_, rfl, rfl⟩ := h
  simp
 | t :: ts, keys, pd, w, h => by
  simp only [LAt] at h
  obtain ⟨k1, k2, p1, p2, w1, w2, _, rfl, rfl, h1, h2⟩ := h
  have := At.len h1
  have := LAt.len h2
  simp only [Nd.cnts, List.length_append]; omega
end
structure Sim (hp hp' : Nat → Option Ob) (e : Nat) (D : Nat → Prop) (p0 : AV) : Prop where
 row : ∀ q rows, D q → hp q = some (.arow e 4 rows) → ∃ rows', hp' q = some (.arow e 4 rows') ∧ rows'.length = rows.length
 cell : ∀ p, D (zBI p) → p ≠ p0 → isL 4 p → zBc hp' p = zBc hp p
theorem Sim.sub {hp hp' : Nat → Option Ob} {e : Nat} {D D' : Nat → Prop} {p0 : AV} (h : Sim hp hp' e D p0) (hd : ∀ q, D' q → D q) : Sim hp hp' e D' p0 :=
 ⟨fun q rows hq => h.row q rows (hd q hq), fun p hp => h.cell p (hd _ hp)⟩
mutual
theorem At.sameQ {hp hp' : Nat → Option Ob} {e : Nat} {p p0 : AV} : ∀ {t : Nd} {keys : List Nat} {pd : List AV} {w : Nat}, At hp e p t keys pd w → isL 4 p → Sim hp hp' e (fun k => k = zBI p ∨ k ∈ keys) p0 → p ≠ p0 → (∀ q j, q ∈ keys → AV.rp q 4 j 0 ≠ p0) → At hp' e p t keys pd w
 | .mk k t c ks, keys, pd, w, h, hl, hs, hne, hb => by
  simp only [At] at h ⊢
  obtain ⟨v, hc, h⟩ := h
  refine ⟨v, by rw [hs.cell p (.inl rfl) hne hl, hc], ?_⟩
  rcases h with h | h | ⟨q, rows, keys', h1, h2, h3, rfl, h5⟩
  ·exact .inl h
  ·exact .inr (.inl h)
  ·obtain ⟨rows', h6, h7⟩ := hs.row q rows (.inr List.mem_cons_self) h2
   exact .inr (.inr ⟨q, rows', keys', h1, h6, h7.trans h3, rfl, LAt.sameQ h5 (hs.sub fun k hk => .inr (List.mem_cons.2 hk)) (fun j _ => hb q j List.mem_cons_self) (fun q' j hm => hb q' j (List.mem_cons_of_mem _ hm))⟩)
theorem LAt.sameQ {hp hp' : Nat → Option Ob} {e q i : Nat} {p0 : AV} : ∀ {ts : List Nd} {keys : List Nat} {pd : List AV} {w : Nat}, LAt hp e q i ts keys pd w → Sim hp hp' e (fun k => k = q ∨ k ∈ keys) p0 → (∀ j, i ≤ j → AV.rp q 4 j 0 ≠ p0) → (∀ q' j, q' ∈ keys → AV.rp q' 4 j 0 ≠ p0) → LAt hp' e q i ts keys pd w
 | [], _, _, _, h, _, _, _ => h
 | t :: ts, keys, pd, w, h, hs, hne, hb => by
  simp only [LAt] at h ⊢
  obtain ⟨k1, k2, p1, p2, w1, w2, rfl, rfl, rfl, h1, h2⟩ := h
  exact ⟨k1, k2, p1, p2, w1, w2, rfl, rfl, rfl,
   At.sameQ h1 (.inl ⟨q, i, rfl⟩) (hs.sub fun k hk => hk.imp id (List.mem_append_left _)) (hne i (Nat.le_refl _)) (fun q' j hm => hb q' j (List.mem_append_left _ hm)),
   LAt.sameQ h2 (hs.sub fun k hk => hk.imp id (List.mem_append_right _)) (fun j hj => hne j (by omega)) (fun q' j hm => hb q' j (List.mem_append_right _ hm))⟩
end
theorem At.same {hp hp' : Nat → Option Ob} {e : Nat} {p p0 : AV} {t : Nd} {keys : List Nat} {pd : List AV} {w : Nat} (h : At hp e p t keys pd w) (hl : isL 4 p) (hs : Sim hp hp' e (fun k => k = zBI p ∨ k ∈ keys) p0) (hne : p ≠ p0) (hb : zBI p0 ∉ keys) : At hp' e p t keys pd w :=
 h.sameQ hl hs hne fun q j hm e => hb (by rw [← e]; exact hm)
theorem LAt.same {hp hp' : Nat → Option Ob} {e q i : Nat} {p0 : AV} {ts : List Nd} {keys : List Nat} {pd : List AV} {w : Nat} (h : LAt hp e q i ts keys pd w) (hs : Sim hp hp' e (fun k => k = q ∨ k ∈ keys) p0) (hne : ∀ j, i ≤ j → AV.rp q 4 j 0 ≠ p0) (hb : zBI p0 ∉ keys) : LAt hp' e q i ts keys pd w :=
 h.sameQ hs hne fun q j hm e => hb (by rw [← e]; exact hm)
theorem Sim.same {hp hp' : Nat → Option Ob} {e : Nat} {D : Nat → Prop} {p0 : AV} (h : ∀ k, D k → hp' k = hp k) : Sim hp hp' e D p0 :=
 ⟨fun q rows hq hr => ⟨rows, (h q hq).trans hr, rfl⟩, fun p hp _ hl => zCI hl (h _ hp)⟩
theorem At.frame {hp hp' : Nat → Option Ob} {e : Nat} {p : AV} {t : Nd} {keys : List Nat} {pd : List AV} {w : Nat} (h : At hp e p t keys pd w) (hl : isL 4 p) (hs : ∀ k, k = zBI p ∨ k ∈ keys → hp' k = hp k) : At hp' e p t keys pd w :=
 h.sameQ hl (Sim.same (p0 := .junk) hs) (fun e => by rcases hl with ⟨_, _, rfl⟩ | ⟨_, rfl⟩ <;> cases e) (fun q j _ e => by cases e)
mutual
theorem At.base {hp : Nat → Option Ob} {e : Nat} {p p0 : AV} : ∀ {t : Nd} {keys : List Nat} {pd : List AV} {w : Nat}, At hp e p t keys pd w → p0 ∈ pd → p0 = p ∨ zBI p0 ∈ keys
 | .mk k t c ks, keys, pd, w, h, hm => by
  simp only [At] at h
  obtain ⟨v, _, ⟨_, _, rfl, _⟩ | ⟨_, _, _, rfl, _⟩ | ⟨q, rows, keys', _, _, _, rfl, h⟩⟩ := h
  ·exact .inl (List.mem_singleton.1 hm)
  ·cases hm
  ·rcases LAt.base h hm with ⟨j, _, rfl⟩ | h
   ·exact .inr List.mem_cons_self
   ·exact .inr (List.mem_cons_of_mem _ h)
theorem LAt.base {hp : Nat → Option Ob} {e q i : Nat} {p0 : AV} : ∀ {ts : List Nd} {keys : List Nat} {pd : List AV} {w : Nat}, LAt hp e q i ts keys pd w → p0 ∈ pd → (∃ j, i ≤ j ∧ p0 = .rp q 4 j 0) ∨ zBI p0 ∈ keys
 | [], keys, pd, w, h, hm => by
  simp only [LAt] at h
  obtain ⟨_, rfl, _⟩ := h
  cases hm
 | t :: ts, keys, pd, w, h, hm => by
  simp only [LAt] at h
  obtain ⟨k1, k2, p1, p2, w1, w2, rfl, rfl, rfl, h1, h2⟩ := h
  rcases List.mem_append.1 hm with hm | hm
  ·rcases At.base h1 hm with rfl | hm
   ·exact .inl ⟨i, Nat.le_refl _, rfl⟩
   ·exact .inr (List.mem_append_left _ hm)
  ·rcases LAt.base h2 hm with ⟨j, hj, hm⟩ | hm
   ·exact .inl ⟨j, by omega, hm⟩
   ·exact .inr (List.mem_append_right _ hm)
end
mutual
theorem At.loc {hp : Nat → Option Ob} {e : Nat} {p p0 : AV} : ∀ {t : Nd} {keys : List Nat} {pd : List AV} {w : Nat}, At hp e p t keys pd w → isL 4 p → p0 ∈ pd → isL 4 p0
 | .mk k t c ks, keys, pd, w, h, hl, hm => by
  simp only [At] at h
  obtain ⟨v, _, ⟨_, _, rfl, _⟩ | ⟨_, _, _, rfl, _⟩ | ⟨q, rows, keys', _, _, _, rfl, h⟩⟩ := h
  ·rw [List.mem_singleton.1 hm]; exact hl
  ·cases hm
  ·exact LAt.loc h hm
theorem LAt.loc {hp : Nat → Option Ob} {e q i : Nat} {p0 : AV} : ∀ {ts : List Nd} {keys : List Nat} {pd : List AV} {w : Nat}, LAt hp e q i ts keys pd w → p0 ∈ pd → isL 4 p0
 | [], keys, pd, w, h, hm => by
  simp only [LAt] at h
  obtain ⟨_, rfl, _⟩ := h
  cases hm
 | t :: ts, keys, pd, w, h, hm => by
  simp only [LAt] at h
  obtain ⟨k1, k2, p1, p2, w1, w2, rfl, rfl, rfl, h1, h2⟩ := h
  rcases List.mem_append.1 hm with hm | hm
  ·exact At.loc h1 (.inl ⟨q, i, rfl⟩) hm
  ·exact LAt.loc h2 hm
end
theorem zSS {α : Type} {a b S : List α} {x : α} (h : a ++ b = S ++ [x]) : (b = [] ∧ a = S ++ [x]) ∨ ∃ S2, b = S2 ++ [x] ∧ S = a ++ S2 := by
 rcases List.eq_nil_or_concat b with rfl | ⟨b', y, rfl⟩
 ·exact .inl ⟨rfl, by simpa using h⟩
 ·rw [List.concat_eq_append, ← List.append_assoc] at h
  have := List.append_inj' h rfl
  obtain ⟨h1, h2⟩ := this
  cases h2
  exact .inr ⟨b', List.concat_eq_append, h1.symm⟩
def Repl (hp : Nat → Option Ob) (e : Nat) (p0 : AV) (S : List AV) (w : Nat) (D : Nat → Prop) (keys : List Nat) (P : (Nat → Option Ob) → List Nat → List AV → Nat → Prop) : Prop :=
 ∃ t0 w0, At hp e p0 t0 [] [p0] t0.cnt ∧ w = w0 + t0.cnt ∧ ∀ hp' new ch w', Sim hp hp' e D p0 → At hp' e p0 t0 new ch w' → ∃ keys2, keys2.Perm (keys ++ new) ∧ P hp' keys2 (S ++ ch) (w0 + w')
theorem zTj {a b n : List Nat} {k2 : List Nat} (h : k2.Perm (a ++ n)) : (k2 ++ b).Perm (a ++ b ++ n) :=
 (h.append_right b).trans (by rw [List.append_assoc, List.append_assoc]; exact (List.perm_append_comm).append_left a)
mutual
theorem At.repl {hp : Nat → Option Ob} {e : Nat} {p p0 : AV} {S : List AV} : ∀ {t : Nd} {keys : List Nat} {w : Nat}, At hp e p t keys (S ++ [p0]) w → isL 4 p → (zBI p :: keys).Nodup →
  Repl hp e p0 S w (fun k => k = zBI p ∨ k ∈ keys) keys fun hp' keys2 pd w => At hp' e p t keys2 pd w
 | .mk k t c ks, keys, w, h, hl, hn => by
  have h0 := h
  simp only [At] at h
  obtain ⟨v, hc, ⟨rfl, rfl, h2, rfl⟩ | ⟨_, _, _, h2, _⟩ | ⟨q, rows, keys', rfl, hq, hlen, rfl, h⟩⟩ := h
  ·cases S with
   | cons x S => cases S <;> simp at h2
   | nil =>
    obtain rfl : p0 = p := by simpa using h2
    refine ⟨.mk k t c ks, 0, h0, by simp [Nd.cnt], fun hp' new ch w' _ ha => ⟨new, by simp, by simpa using ha⟩⟩
  ·simp at h2
  ·have hn2 := List.nodup_cons.1 hn
   have hb : zBI p0 ∈ q :: keys' := by
    rcases LAt.base h (p0 := p0) (by simp) with ⟨j, _, rfl⟩ | h
    ·exact List.mem_cons_self
    ·exact List.mem_cons_of_mem _ h
   have hne : p ≠ p0 := fun e => hn2.1 (by rw [e]; exact hb)
   obtain ⟨t0, w0, r1, r2, r3⟩ := LAt.repl h hn2.2
   refine ⟨t0, w0, r1, r2, fun hp' new ch w' hs ha => ?_⟩
   obtain ⟨rows', h6, h7⟩ := hs.row q rows (.inr List.mem_cons_self) hq
   obtain ⟨keys2, hp2, hl2⟩ := r3 hp' new ch w' (hs.sub fun k hk => .inr (List.mem_cons.2 hk)) ha
   refine ⟨q :: keys2, by simpa using hp2, ?_⟩
   simp only [At]
   exact ⟨.orow q, by rw [hs.cell p (.inl rfl) hne hl, hc], .inr (.inr ⟨q, rows', keys2, rfl, h6, h7.trans hlen, rfl, hl2⟩)⟩
theorem LAt.repl {hp : Nat → Option Ob} {e q i : Nat} {p0 : AV} {S : List AV} : ∀ {ts : List Nd} {keys : List Nat} {w : Nat}, LAt hp e q i ts keys (S ++ [p0]) w → (q :: keys).Nodup →
  Repl hp e p0 S w (fun k => k = q ∨ k ∈ keys) keys fun hp' keys2 pd w => LAt hp' e q i ts keys2 pd w
 | [], keys, w, h, hn => by
  simp only [LAt] at h
  simp at h
 | t :: ts, keys, w, h, hn => by
  simp only [LAt] at h
  obtain ⟨k1, k2, p1, p2, w1, w2, rfl, hpd, rfl, h1, h2⟩ := h
  obtain ⟨hq, hn2⟩ := List.nodup_cons.1 hn
  obtain ⟨n1, n2, n12⟩ := List.nodup_append.1 hn2
  have hq1 : q ∉ k1 := fun h => hq (List.mem_append_left _ h)
  have hq2 : q ∉ k2 := fun h => hq (List.mem_append_right _ h)
  rcases zSS hpd.symm with ⟨rfl, rfl⟩ | ⟨S2, rfl, rfl⟩
  ·have hb := At.base h1 (p0 := p0) (by simp)
   obtain ⟨t0, w0, r1, r2, r3⟩ := At.repl h1 (.inl ⟨q, i, rfl⟩) (List.nodup_cons.2 ⟨hq1, n1⟩)
   refine ⟨t0, w0 + w2, r1, by omega, fun hp' new ch w' hs ha => ?_⟩
   obtain ⟨keys2, hp2, hl2⟩ := r3 hp' new ch w' (hs.sub fun k hk => hk.imp id (List.mem_append_left _)) ha
   refine ⟨keys2 ++ k2, zTj hp2, ?_⟩
   simp only [LAt]
   refine ⟨keys2, k2, S ++ ch, [], w0 + w', w2, rfl, by simp, by omega, hl2, ?_⟩
   refine LAt.same h2 (hs.sub fun k hk => hk.imp id (List.mem_append_right _)) (fun j hj e => ?_) (fun hm => ?_)
   ·rcases hb with rfl | hb
    ·cases e; omega
    ·rw [← e] at hb; exact hq1 hb
   ·rcases hb with rfl | hb
    ·exact hq2 hm
    ·exact n12 _ hb _ hm rfl
  ·have hb := LAt.base h2 (p0 := p0) (by simp)
   obtain ⟨t0, w0, r1, r2, r3⟩ := LAt.repl h2 (List.nodup_cons.2 ⟨hq2, n2⟩)
   refine ⟨t0, w1 + w0, r1, by omega, fun hp' new ch w' hs ha => ?_⟩
   obtain ⟨keys2, hp2, hl2⟩ := r3 hp' new ch w' (hs.sub fun k hk => hk.imp id (List.mem_append_right _)) ha
   refine ⟨k1 ++ keys2, by rw [List.append_assoc]; exact hp2.append_left k1, ?_⟩
   simp only [LAt]
   refine ⟨k1, keys2, p1, S2 ++ ch, w1, w0 + w', rfl, by simp, by omega, ?_, hl2⟩
   refine At.same h1 (.inl ⟨q, i, rfl⟩) (hs.sub fun k hk => hk.imp id (List.mem_append_left _)) (fun e => ?_) (fun hm => ?_)
   ·rcases hb with ⟨j, hj, hb⟩ | hb
    ·rw [hb] at e; cases e; omega
    ·rw [← e] at hb; exact hq2 hb
   ·rcases hb with ⟨j, hj, rfl⟩ | hb
    ·exact hq1 hm
    ·exact n12 _ hm _ hb rfl
end
theorem Sim.put {hp hp' : Nat → Option Ob} {e : Nat} {D : Nat → Prop} {p0 : AV} {c cs : List AV} (hl : isL 4 p0) (hc : zBc hp p0 = some cs) (h : ∀ k, D k → hp' k = putC hp p0 c k) : Sim hp hp' e D p0 :=
 ⟨fun q rows hq hr => by rw [h q hq]; exact zTm hl hc hr, fun p hp hne hl' => (zCI hl' (h _ hp)).trans (zR7 hl hc hl' hne)⟩
def locs (q i n : Nat) : List AV := (List.range' i n).map fun j => .rp q 4 j 0
theorem LAt.fresh {hp : Nat → Option Ob} {e q : Nat} : ∀ {ts : List Nd} {i : Nat}, (∀ j x, ts[j]? = some x → zBc hp (.rp q 4 (i + j) 0) = some (x.enc.map AV.s)) → LAt hp e q i ts [] (locs q i ts.length) (Nd.cnts ts)
 | [], i, _ => by simp [LAt, locs, Nd.cnts]
 | .mk k t c ks :: ts, i, h => by
  simp only [LAt]
  refine ⟨[], [], [.rp q 4 i 0], locs q (i + 1) ts.length, Nd.cnts ks + 1, Nd.cnts ts, rfl, by simp [locs, List.range'_succ], by simp [Nd.cnts, Nd.cnt], ?_, LAt.fresh fun j x hj => ?_⟩
  ·simp only [At]
   exact ⟨.s (.sl 4 (Nd.encs ks)), h 0 (.mk k t c ks) rfl, .inl (by simp)⟩
  ·rw [show i + 1 + j = i + (j + 1) by omega]; exact h (j + 1) x (by simpa using hj)
theorem LAt.copied {hp : Nat → Option Ob} {e q : Nat} {ts : List Nd} (h : hp q = some (.arow e 4 ((Nd.encs ts).map (·.map AV.s)))) : LAt hp e q 0 ts [] (locs q 0 ts.length) (Nd.cnts ts) :=
 LAt.fresh fun j x hj => by
  rw [zFF h, Nat.zero_add, Nd.encs_eq, List.map_map, List.getElem?_map, hj]; rfl
theorem zR8 {hp : Nat → Option Ob} : ∀ {rows : List (List AV)} {rs : List (List S)}, (∀ (j : Nat) r s, rows[j]? = some r → rs[j]? = some s → r.length = s.length ∧ ∀ (i : Nat) x y, r[i]? = some x → s[i]? = some y → Rd hp x y) → ∀ (i : Nat) x y, rows.flatten[i]? = some x → rs.flatten[i]? = some y → Rd hp x y
 | [], _, _, _, _, _, h, _ => by simp at h
 | _ :: _, [], _, _, _, _, _, h => by simp at h
 | r :: rows, s :: rs, h, i, x, y, hx, hy => by
  obtain ⟨hl, h0⟩ := h 0 r s (by simp) (by simp)
  rw [List.flatten_cons, List.getElem?_append] at hx hy
  by_cases hi : i < r.length
  ·rw [if_pos hi] at hx
   rw [if_pos (hl ▸ hi)] at hy
   exact h0 i x y hx hy
  ·rw [if_neg hi] at hx
   rw [if_neg (hl ▸ hi), ← hl] at hy
   exact zR8 (fun j r s hr hs => h (j + 1) r s (by simpa using hr) (by simpa using hs)) _ x y hx hy
def RdC (hp : Nat → Option Ob) (cs : List AV) (ss : List S) : Prop := cs.length = ss.length ∧ ∀ (i : Nat) x y, cs[i]? = some x → ss[i]? = some y → Rd hp x y
theorem RdC.node {hp : Nat → Option Ob} {k : Int} {t : List UInt8} {c : Int} {ks : List Nd} {v : AV} (h : Rd hp v (.sl 4 (Nd.encs ks))) : RdC hp (zCN k t c v) (Nd.enc (.mk k t c ks)) :=
 ⟨rfl, fun i x y hx hy => by
  match i with
  | 0 => cases hx; cases hy; exact .s _
  | 1 => cases hx; cases hy; exact .s _
  | 2 => cases hx; cases hy; exact .s _
  | 3 => cases hx; cases hy; exact h
  | i + 4 => simp [zCN] at hx⟩
theorem Rd.rows {hp : Nat → Option Ob} {q e : Nat} {rows : List (List AV)} {ks : List Nd} (hq : hp q = some (.arow e 4 rows)) (hl : rows.length = ks.length) (h : ∀ j x, ks[j]? = some x → ∃ cs, zBc hp (.rp q 4 j 0) = some cs ∧ RdC hp cs x.enc) : Rd hp (.orow q) (.sl 4 (Nd.encs ks)) := by
 rw [Nd.encs_eq]
 refine .arow hq (by simpa using hl) (fun r hr => ?_) (zR8 fun j r s hr hs => ?_)
 ·obtain ⟨x, _, rfl⟩ := List.mem_map.1 hr
  cases x; rfl
 ·rw [List.getElem?_map] at hs
  cases hx : ks[j]? with
  | none => rw [hx] at hs; cases hs
  | some x =>
   rw [hx] at hs; cases hs
   obtain ⟨cs, h1, h2⟩ := h j x hx
   rw [zFF hq, hr] at h1
   cases h1
   exact h2
mutual
theorem At.rd {hp : Nat → Option Ob} {e : Nat} {p : AV} : ∀ {t : Nd} {keys : List Nat} {pd : List AV} {w : Nat}, At hp e p t keys pd w → ∃ cs, zBc hp p = some cs ∧ RdC hp cs t.enc
 | .mk k t c ks, keys, pd, w, h => by
  simp only [At] at h
  obtain ⟨v, hc, ⟨rfl, _⟩ | ⟨rfl, rfl, _⟩ | ⟨q, rows, keys', rfl, hq, hlen, rfl, h⟩⟩ := h
  ·exact ⟨_, hc, .node (.s _)⟩
  ·exact ⟨_, hc, .node (.s _)⟩
  ·exact ⟨_, hc, .node (Rd.rows hq hlen fun j x hj => (by have := LAt.rd h j x hj; rwa [Nat.zero_add] at this))⟩
theorem LAt.rd {hp : Nat → Option Ob} {e q i : Nat} : ∀ {ts : List Nd} {keys : List Nat} {pd : List AV} {w : Nat}, LAt hp e q i ts keys pd w → ∀ j x, ts[j]? = some x → ∃ cs, zBc hp (.rp q 4 (i + j) 0) = some cs ∧ RdC hp cs x.enc
 | [], keys, pd, w, h, j, x, hj => by simp at hj
 | t :: ts, keys, pd, w, h, 0, x, hj => by
  simp only [LAt] at h
  obtain ⟨k1, k2, p1, p2, w1, w2, rfl, rfl, rfl, h1, h2⟩ := h
  cases hj
  exact At.rd h1
 | t :: ts, keys, pd, w, h, j + 1, x, hj => by
  simp only [LAt] at h
  obtain ⟨k1, k2, p1, p2, w1, w2, rfl, rfl, rfl, h1, h2⟩ := h
  rw [show i + (j + 1) = i + 1 + j by omega]
  exact LAt.rd h2 j x (by simpa using hj)
end
theorem zTo {hp : Nat → Option Ob} {cs : List AV} {t : Nd} (h : RdC hp cs t.enc) : RdV hp (.agg cs) (.agg (t.enc.map AV.s)) := by
 refine ⟨by simpa using h.1, fun i x y hx hy => ?_⟩
 rw [List.getElem?_map] at hy
 cases hs : t.enc[i]? with
 | none => rw [hs] at hy; cases hy
 | some s => rw [hs] at hy; cases hy; exact ⟨s, rfl, h.2 i x s hx hs⟩
def Hole (hp : Nat → Option Ob) (e : Nat) (p : AV) (keys : List Nat) (p1 : AV) (y : Nd) (F : Nd → Nd) : Prop :=
 ∃ keys0 rest w0, keys.Perm (keys0 ++ rest) ∧ At hp e p1 y keys0 [] w0 ∧ isL 4 p1 ∧ (p1 = p ∨ zBI p1 ∈ rest) ∧
  ∀ hp' t1 new w1, Sim hp hp' e (fun k => k = zBI p ∨ k ∈ rest) p1 → At hp' e p1 t1 new [] w1 → ∃ keys2 w2, keys2.Perm (rest ++ new) ∧ At hp' e p (F t1) keys2 [] w2
theorem Hole.refl {hp : Nat → Option Ob} {e w : Nat} {p : AV} {t : Nd} {keys : List Nat} (h : At hp e p t keys [] w) (hl : isL 4 p) : Hole hp e p keys p t id :=
 ⟨keys, [], w, by simp, h, hl, .inl rfl, fun hp' t1 new w1 _ h1 => ⟨new, w1, by simp, h1⟩⟩
theorem Hole.trans {hp : Nat → Option Ob} {e : Nat} {p p1 p2 : AV} {y z : Nd} {keys : List Nat} {F F2 : Nd → Nd} (hn : (zBI p :: keys).Nodup) (h : Hole hp e p keys p1 y F) (k : ∀ keys0 w0, At hp e p1 y keys0 [] w0 → isL 4 p1 → (zBI p1 :: keys0).Nodup → Hole hp e p1 keys0 p2 z F2) : Hole hp e p keys p2 z (fun x => F (F2 x)) := by
 obtain ⟨keys0, rest, w0, a1, a2, a3, a4, a5⟩ := h
 obtain ⟨hb, hnk⟩ := List.nodup_cons.1 hn
 obtain ⟨n0, n1, n01⟩ := List.nodup_append.1 (a1.nodup_iff.1 hnk)
 have hb1 : zBI p1 ∉ keys0 := fun hm => by
  rcases a4 with rfl | a4
  ·exact hb (a1.mem_iff.2 (List.mem_append_left _ hm))
  ·exact n01 _ hm _ a4 rfl
 obtain ⟨keys1, rest1, w1, b1, b2, b3, b4, b5⟩ := k keys0 w0 a2 a3 (List.nodup_cons.2 ⟨hb1, n0⟩)
 refine ⟨keys1, rest1 ++ rest, w1, List.perm_iff_count.2 fun a => ?_, b2, b3, ?_, fun hp' t1 new w2 hs h2 => ?_⟩
 ·have := a1.count_eq a
  have := b1.count_eq a
  simp only [List.count_append] at *
  omega
 ·rcases b4 with rfl | b4
  ·exact a4.imp id (List.mem_append_right _)
  ·exact .inr (List.mem_append_left _ b4)
 ·have hp1 : zBI p1 = zBI p ∨ zBI p1 ∈ rest := a4.imp (fun e => by rw [e]) id
  obtain ⟨keysA, wA, q1, q2⟩ := b5 hp' t1 new w2 (hs.sub fun k hk => by
   rcases hk with rfl | hk
   ·exact hp1.imp id (List.mem_append_right _)
   ·exact .inr (List.mem_append_left _ hk)) h2
  have hs1 : Sim hp hp' e (fun k => k = zBI p ∨ k ∈ rest) p1 := ⟨fun q rows hq => hs.row q rows (hq.imp id (List.mem_append_right _)), fun p' hp' hne hl' => by
   by_cases e2 : p' = p2
   ·subst e2
    rcases b4 with b4 | b4
    ·exact absurd b4 hne
    ·exfalso
     have hm : zBI p' ∈ keys0 := b1.mem_iff.2 (List.mem_append_right _ b4)
     rcases hp' with h3 | h3
     ·exact hb (a1.mem_iff.2 (List.mem_append_left _ (by rw [← h3]; exact hm)))
     ·exact n01 _ hm _ h3 rfl
   ·exact hs.cell p' (hp'.imp id (List.mem_append_right _)) e2 hl'⟩
  obtain ⟨keysB, wB, q3, q4⟩ := a5 hp' (F2 t1) keysA wA hs1 q2
  refine ⟨keysB, wB, List.perm_iff_count.2 fun a => ?_, q4⟩
  have := q1.count_eq a
  have := q3.count_eq a
  simp only [List.count_append] at *
  omega
end Go.Proofs.YtgfneloodabafaaGreatDoor
namespace Go.Proofs.YtgfneloodabafaaGreatDoor
open Go.Abs
def tab : List (Nat × TI) := [
 (3, ⟨.int .i64, 1, 8, [.int .i64 0]⟩),
 (4, ⟨.bool, 1, 1, [.bool false]⟩),
 (9, ⟨.str, 1, 16, [.str []]⟩),
 (22, ⟨.slice 24, 1, 24, [.sl 4 []]⟩),
 (24, ⟨.struct [(0, 3), (1, 9), (2, 3), (3, 22)], 4, 56, [.int .i64 0, .str [], .int .i64 0, .sl 4 []]⟩),
 (33, ⟨.slice 3, 1, 24, [.sl 1 []]⟩),
 (34, ⟨.slice 56, 1, 24, [.sl 8 []]⟩),
 (36, ⟨.struct [(0, 33), (1, 34)], 2, 48, [.sl 1 [], .sl 8 []]⟩),
 (56, ⟨.struct [(0, 3), (1, 33), (2, 3), (3, 3), (4, 22), (5, 3), (6, 9), (7, 9)], 8, 112, [.int .i64 0, .sl 1 [], .int .i64 0, .int .i64 0, .sl 4 [], .int .i64 0, .str [], .str []]⟩)]
def T (t : Nat) : Option TI := look? t tab
theorem zUW : ∀ p ∈ tab, okT Tryz.prog p.1 p.2 := by
 simp only [tab, List.forall_mem_cons]
 refine ⟨?_, ?_, ?_, ?_, ?_, ?_, ?_, ?_, ?_, by simp⟩
 ·exact ⟨_, Tryz.t3, _, Tryz.underlying3, rfl, by kernel_rfl, rfl, rfl, rfl, rfl, rfl, fun _ => rfl, rfl⟩
 ·exact ⟨_, Tryz.t4, _, Tryz.underlying4, rfl, by kernel_rfl, rfl, rfl, rfl, rfl, rfl, fun _ => rfl, rfl⟩
 ·exact ⟨_, Tryz.t9, _, Tryz.underlying9, rfl, by kernel_rfl, rfl, rfl, rfl, rfl, rfl, fun _ => rfl, rfl⟩
 ·exact ⟨_, Tryz.t22, _, Tryz.underlying22, rfl, by kernel_rfl, rfl, rfl, rfl, rfl, rfl, fun _ => rfl, rfl⟩
 ·exact ⟨_, Tryz.t24, _, Tryz.underlying24, rfl, by kernel_rfl, rfl, rfl, rfl, rfl, rfl, (fun h => by cases h), rfl⟩
 ·exact ⟨_, Tryz.t33, _, Tryz.underlying33, rfl, by kernel_rfl, rfl, rfl, rfl, rfl, rfl, fun _ => rfl, rfl⟩
 ·exact ⟨_, Tryz.t34, _, Tryz.underlying34, rfl, by kernel_rfl, rfl, rfl, rfl, rfl, rfl, fun _ => rfl, rfl⟩
 ·exact ⟨_, Tryz.t36, _, Tryz.underlying36, rfl, by kernel_rfl, rfl, rfl, rfl, rfl, rfl, (fun h => by cases h), rfl⟩
 ·exact ⟨_, Tryz.t56, _, Tryz.underlying56, rfl, by kernel_rfl, rfl, rfl, rfl, rfl, rfl, (fun h => by cases h), rfl⟩
theorem tok : TOk Tryz.prog T := zTY zUW
theorem tcl : ∀ t i, T t = some i → zC1 T i = true := zRu (by rfl)
def tabX : List (Nat × TI) := [
 (2, ⟨.int .i64, 1, 8, [.int .i64 0]⟩),
 (5, ⟨.int .u8, 1, 1, [.int .u8 0]⟩),
 (27, ⟨.slice 52, 1, 24, [.sl 5 []]⟩),
 (28, ⟨.int .i64, 1, 8, [.int .i64 0]⟩),
 (31, ⟨.fn, 1, 8, [.nf]⟩),
 (45, ⟨.ptr 47, 1, 8, [.np]⟩),
 (47, ⟨.struct [(0, 3), (1, 27)], 2, 32, [.int .i64 0, .sl 5 []]⟩),
 (52, ⟨.struct [(0, 33), (1, 3), (2, 3), (3, 22), (4, 22)], 5, 88, [.sl 1 [], .int .i64 0, .int .i64 0, .sl 4 [], .sl 4 []]⟩),
 (60, ⟨.ptr 62, 1, 8, [.np]⟩),
 (62, ⟨.struct [(0, 3), (1, 27)], 2, 32, [.int .i64 0, .sl 5 []]⟩),
 (69, ⟨.ptr 76, 1, 8, [.np]⟩),
 (70, ⟨.fn, 1, 8, [.nf]⟩),
 (72, ⟨.struct [(0, 9), (1, 3), (2, 70)], 3, 32, [.str [], .int .i64 0, .nf]⟩),
 (73, ⟨.arr 13 72, 39, 416, [.str [], .int .i64 0, .nf, .str [], .int .i64 0, .nf, .str [], .int .i64 0, .nf, .str [], .int .i64 0, .nf, .str [], .int .i64 0, .nf, .str [], .int .i64 0, .nf, .str [], .int .i64 0, .nf, .str [], .int .i64 0, .nf, .str [], .int .i64 0, .nf, .str [], .int .i64 0, .nf, .str [], .int .i64 0, .nf, .str [], .int .i64 0, .nf, .str [], .int .i64 0, .nf]⟩),
 (76, ⟨.struct [(0, 73), (39, 3)], 40, 424, [.str [], .int .i64 0, .nf, .str [], .int .i64 0, .nf, .str [], .int .i64 0, .nf, .str [], .int .i64 0, .nf, .str [], .int .i64 0, .nf, .str [], .int .i64 0, .nf, .str [], .int .i64 0, .nf, .str [], .int .i64 0, .nf, .str [], .int .i64 0, .nf, .str [], .int .i64 0, .nf, .str [], .int .i64 0, .nf, .str [], .int .i64 0, .nf, .str [], .int .i64 0, .nf, .int .i64 0]⟩),
 (78, ⟨.ptr 24, 1, 8, [.np]⟩),
 (80, ⟨.arr 3 22, 3, 72, [.sl 4 [], .sl 4 [], .sl 4 []]⟩),
 (83, ⟨.slice 98, 1, 24, [.sl 2 []]⟩),
 (98, ⟨.arr 2 3, 2, 16, [.int .i64 0, .int .i64 0]⟩),
 (101, ⟨.slice 33, 1, 24, [.sl 1 []]⟩),
 (106, ⟨.slice 9, 1, 24, [.sl 1 []]⟩),
 (117, ⟨.arr 13 9, 13, 208, [.str [], .str [], .str [], .str [], .str [], .str [], .str [], .str [], .str [], .str [], .str [], .str [], .str []]⟩),
 (120, ⟨.slice 22, 1, 24, [.sl 1 []]⟩),
 (124, ⟨.struct [(0, 101), (1, 101), (2, 33), (3, 33)], 4, 96, [.sl 1 [], .sl 1 [], .sl 1 [], .sl 1 []]⟩),
 (126, ⟨.slice 78, 1, 24, [.sl 1 []]⟩),
 (127, ⟨.slice 5, 1, 24, [.sl 1 []]⟩),
 (130, ⟨.ptr 135, 1, 8, [.np]⟩),
 (131, ⟨.ptr 133, 1, 8, [.np]⟩),
 (133, ⟨.struct [(0, 131), (1, 127)], 2, 32, [.np, .sl 1 []]⟩),
 (135, ⟨.struct [(0, 73), (39, 133)], 41, 448, [.str [], .int .i64 0, .nf, .str [], .int .i64 0, .nf, .str [], .int .i64 0, .nf, .str [], .int .i64 0, .nf, .str [], .int .i64 0, .nf, .str [], .int .i64 0, .nf, .str [], .int .i64 0, .nf, .str [], .int .i64 0, .nf, .str [], .int .i64 0, .nf, .str [], .int .i64 0, .nf, .str [], .int .i64 0, .nf, .str [], .int .i64 0, .nf, .str [], .int .i64 0, .nf, .np, .sl 1 []]⟩),
 (138, ⟨.struct [(0, 78), (1, 3)], 2, 16, [.np, .int .i64 0]⟩),
 (139, ⟨.slice 138, 1, 24, [.sl 2 []]⟩),
 (140, ⟨.ptr 138, 1, 8, [.np]⟩),
 (146, ⟨.int .u64, 1, 8, [.int .u64 0]⟩),
 (149, ⟨.ptr 5, 1, 8, [.np]⟩),
 (150, ⟨.int .u32, 1, 4, [.int .u32 0]⟩),
 (154, ⟨.fn, 1, 8, [.nf]⟩),
 (158, ⟨.struct [(0, 78), (1, 3)], 2, 16, [.np, .int .i64 0]⟩),
 (159, ⟨.slice 158, 1, 24, [.sl 2 []]⟩),
 (161, ⟨.arr 24 5, 24, 24, [.int .u8 0, .int .u8 0, .int .u8 0, .int .u8 0, .int .u8 0, .int .u8 0, .int .u8 0, .int .u8 0, .int .u8 0, .int .u8 0, .int .u8 0, .int .u8 0, .int .u8 0, .int .u8 0, .int .u8 0, .int .u8 0, .int .u8 0, .int .u8 0, .int .u8 0, .int .u8 0, .int .u8 0, .int .u8 0, .int .u8 0, .int .u8 0]⟩),
 (162, ⟨.int .u64, 1, 8, [.int .u64 0]⟩),
 (168, ⟨.arr 20 162, 20, 160, [.int .u64 0, .int .u64 0, .int .u64 0, .int .u64 0, .int .u64 0, .int .u64 0, .int .u64 0, .int .u64 0, .int .u64 0, .int .u64 0, .int .u64 0, .int .u64 0, .int .u64 0, .int .u64 0, .int .u64 0, .int .u64 0, .int .u64 0, .int .u64 0, .int .u64 0, .int .u64 0]⟩),
 (169, ⟨.arr 65 5, 65, 65, [.int .u8 0, .int .u8 0, .int .u8 0, .int .u8 0, .int .u8 0, .int .u8 0, .int .u8 0, .int .u8 0, .int .u8 0, .int .u8 0, .int .u8 0, .int .u8 0, .int .u8 0, .int .u8 0, .int .u8 0, .int .u8 0, .int .u8 0, .int .u8 0, .int .u8 0, .int .u8 0, .int .u8 0, .int .u8 0, .int .u8 0, .int .u8 0, .int .u8 0, .int .u8 0, .int .u8 0, .int .u8 0, .int .u8 0, .int .u8 0, .int .u8 0, .int .u8 0, .int .u8 0, .int .u8 0, .int .u8 0, .int .u8 0, .int .u8 0, .int .u8 0, .int .u8 0, .int .u8 0, .int .u8 0, .int .u8 0, .int .u8 0, .int .u8 0, .int .u8 0, .int .u8 0, .int .u8 0, .int .u8 0, .int .u8 0, .int .u8 0, .int .u8 0, .int .u8 0, .int .u8 0, .int .u8 0, .int .u8 0, .int .u8 0, .int .u8 0, .int .u8 0, .int .u8 0, .int .u8 0, .int .u8 0, .int .u8 0, .int .u8 0, .int .u8 0, .int .u8 0]⟩),
 (173, ⟨.arr 32 5, 32, 32, [.int .u8 0, .int .u8 0, .int .u8 0, .int .u8 0, .int .u8 0, .int .u8 0, .int .u8 0, .int .u8 0, .int .u8 0, .int .u8 0, .int .u8 0, .int .u8 0, .int .u8 0, .int .u8 0, .int .u8 0, .int .u8 0, .int .u8 0, .int .u8 0, .int .u8 0, .int .u8 0, .int .u8 0, .int .u8 0, .int .u8 0, .int .u8 0, .int .u8 0, .int .u8 0, .int .u8 0, .int .u8 0, .int .u8 0, .int .u8 0, .int .u8 0, .int .u8 0]⟩),
 (174, ⟨.arr 64 5, 64, 64, [.int .u8 0, .int .u8 0, .int .u8 0, .int .u8 0, .int .u8 0, .int .u8 0, .int .u8 0, .int .u8 0, .int .u8 0, .int .u8 0, .int .u8 0, .int .u8 0, .int .u8 0, .int .u8 0, .int .u8 0, .int .u8 0, .int .u8 0, .int .u8 0, .int .u8 0, .int .u8 0, .int .u8 0, .int .u8 0, .int .u8 0, .int .u8 0, .int .u8 0, .int .u8 0, .int .u8 0, .int .u8 0, .int .u8 0, .int .u8 0, .int .u8 0, .int .u8 0, .int .u8 0, .int .u8 0, .int .u8 0, .int .u8 0, .int .u8 0, .int .u8 0, .int .u8 0, .int .u8 0, .int .u8 0, .int .u8 0, .int .u8 0, .int .u8 0, .int .u8 0, .int .u8 0, .int .u8 0, .int .u8 0, .int .u8 0, .int .u8 0, .int .u8 0, .int .u8 0, .int .u8 0, .int .u8 0, .int .u8 0, .int .u8 0, .int .u8 0, .int .u8 0, .int .u8 0, .int .u8 0, .int .u8 0, .int .u8 0, .int .u8 0, .int .u8 0]⟩)]
theorem zUU : ∀ p ∈ tabX, okT Tryz.prog p.1 p.2 := by
 simp only [tabX, List.forall_mem_cons]
 refine ⟨?_, ?_, ?_, ?_, ?_, ?_, ?_, ?_, ?_, ?_, ?_, ?_, ?_, ?_, ?_, ?_, ?_, ?_, ?_, ?_, ?_, ?_, ?_, ?_, ?_, ?_, ?_, ?_, ?_, ?_, ?_, ?_, ?_, ?_, ?_, ?_, ?_, ?_, ?_, ?_, ?_, ?_, ?_, ?_, ?_, by simp⟩
 ·exact ⟨_, Tryz.t2, _, Tryz.underlying2, rfl, by kernel_rfl, rfl, rfl, rfl, rfl, rfl, fun _ => rfl, rfl⟩
 ·exact ⟨_, Tryz.t5, _, Tryz.underlying5, rfl, by kernel_rfl, rfl, rfl, rfl, rfl, rfl, fun _ => rfl, rfl⟩
 ·exact ⟨_, Tryz.t27, _, Tryz.underlying27, rfl, by kernel_rfl, rfl, rfl, rfl, rfl, rfl, fun _ => rfl, rfl⟩
 ·exact ⟨_, Tryz.t28, _, Tryz.underlying28, rfl, by kernel_rfl, rfl, rfl, rfl, rfl, rfl, fun _ => rfl, rfl⟩
 ·exact ⟨_, Tryz.t31, _, Tryz.underlying31, rfl, by kernel_rfl, rfl, rfl, rfl, rfl, rfl, fun _ => rfl, rfl⟩
 ·exact ⟨_, Tryz.t45, _, Tryz.underlying45, rfl, by kernel_rfl, rfl, rfl, rfl, rfl, rfl, fun _ => rfl, rfl⟩
 ·exact ⟨_, Tryz.t47, _, Tryz.underlying47, rfl, by kernel_rfl, rfl, rfl, rfl, rfl, rfl, (fun h => by cases h), rfl⟩
 ·exact ⟨_, Tryz.t52, _, Tryz.underlying52, rfl, by kernel_rfl, rfl, rfl, rfl, rfl, rfl, (fun h => by cases h), rfl⟩
 ·exact ⟨_, Tryz.t60, _, Tryz.underlying60, rfl, by kernel_rfl, rfl, rfl, rfl, rfl, rfl, fun _ => rfl, rfl⟩
 ·exact ⟨_, Tryz.t62, _, Tryz.underlying62, rfl, by kernel_rfl, rfl, rfl, rfl, rfl, rfl, (fun h => by cases h), rfl⟩
 ·exact ⟨_, Tryz.t69, _, Tryz.underlying69, rfl, by kernel_rfl, rfl, rfl, rfl, rfl, rfl, fun _ => rfl, rfl⟩
 ·exact ⟨_, Tryz.t70, _, Tryz.underlying70, rfl, by kernel_rfl, rfl, rfl, rfl, rfl, rfl, fun _ => rfl, rfl⟩
 ·exact ⟨_, Tryz.t72, _, Tryz.underlying72, rfl, by kernel_rfl, rfl, rfl, rfl, rfl, rfl, (fun h => by cases h), rfl⟩
 ·exact ⟨_, Tryz.t73, _, Tryz.underlying73, rfl, by kernel_rfl, rfl, rfl, rfl, rfl, rfl, (fun h => by cases h), rfl⟩
 ·exact ⟨_, Tryz.t76, _, Tryz.underlying76, rfl, by kernel_rfl, rfl, rfl, rfl, rfl, rfl, (fun h => by cases h), rfl⟩
 ·exact ⟨_, Tryz.t78, _, Tryz.underlying78, rfl, by kernel_rfl, rfl, rfl, rfl, rfl, rfl, fun _ => rfl, rfl⟩
 ·exact ⟨_, Tryz.t80, _, Tryz.underlying80, rfl, by kernel_rfl, rfl, rfl, rfl, rfl, rfl, (fun h => by cases h), rfl⟩
 ·exact ⟨_, Tryz.t83, _, Tryz.underlying83, rfl, by kernel_rfl, rfl, rfl, rfl, rfl, rfl, fun _ => rfl, rfl⟩
 ·exact ⟨_, Tryz.t98, _, Tryz.underlying98, rfl, by kernel_rfl, rfl, rfl, rfl, rfl, rfl, (fun h => by cases h), rfl⟩
 ·exact ⟨_, Tryz.t101, _, Tryz.underlying101, rfl, by kernel_rfl, rfl, rfl, rfl, rfl, rfl, fun _ => rfl, rfl⟩
 ·exact ⟨_, Tryz.t106, _, Tryz.underlying106, rfl, by kernel_rfl, rfl, rfl, rfl, rfl, rfl, fun _ => rfl, rfl⟩
 ·exact ⟨_, Tryz.t117, _, Tryz.underlying117, rfl, by kernel_rfl, rfl, rfl, rfl, rfl, rfl, (fun h => by cases h), rfl⟩
 ·exact ⟨_, Tryz.t120, _, Tryz.underlying120, rfl, by kernel_rfl, rfl, rfl, rfl, rfl, rfl, fun _ => rfl, rfl⟩
 ·exact ⟨_, Tryz.t124, _, Tryz.underlying124, rfl, by kernel_rfl, rfl, rfl, rfl, rfl, rfl, (fun h => by cases h), rfl⟩
 ·exact ⟨_, Tryz.t126, _, Tryz.underlying126, rfl, by kernel_rfl, rfl, rfl, rfl, rfl, rfl, fun _ => rfl, rfl⟩
 ·exact ⟨_, Tryz.t127, _, Tryz.underlying127, rfl, by kernel_rfl, rfl, rfl, rfl, rfl, rfl, fun _ => rfl, rfl⟩
 ·exact ⟨_, Tryz.t130, _, Tryz.underlying130, rfl, by kernel_rfl, rfl, rfl, rfl, rfl, rfl, fun _ => rfl, rfl⟩
 ·exact ⟨_, Tryz.t131, _, Tryz.underlying131, rfl, by kernel_rfl, rfl, rfl, rfl, rfl, rfl, fun _ => rfl, rfl⟩
 ·exact ⟨_, Tryz.t133, _, Tryz.underlying133, rfl, by kernel_rfl, rfl, rfl, rfl, rfl, rfl, (fun h => by cases h), rfl⟩
 ·exact ⟨_, Tryz.t135, _, Tryz.underlying135, rfl, by kernel_rfl, rfl, rfl, rfl, rfl, rfl, (fun h => by cases h), rfl⟩
 ·exact ⟨_, Tryz.t138, _, Tryz.underlying138, rfl, by kernel_rfl, rfl, rfl, rfl, rfl, rfl, (fun h => by cases h), rfl⟩
 ·exact ⟨_, Tryz.t139, _, Tryz.underlying139, rfl, by kernel_rfl, rfl, rfl, rfl, rfl, rfl, fun _ => rfl, rfl⟩
 ·exact ⟨_, Tryz.t140, _, Tryz.underlying140, rfl, by kernel_rfl, rfl, rfl, rfl, rfl, rfl, fun _ => rfl, rfl⟩
 ·exact ⟨_, Tryz.t146, _, Tryz.underlying146, rfl, by kernel_rfl, rfl, rfl, rfl, rfl, rfl, fun _ => rfl, rfl⟩
 ·exact ⟨_, Tryz.t149, _, Tryz.underlying149, rfl, by kernel_rfl, rfl, rfl, rfl, rfl, rfl, fun _ => rfl, rfl⟩
 ·exact ⟨_, Tryz.t150, _, Tryz.underlying150, rfl, by kernel_rfl, rfl, rfl, rfl, rfl, rfl, fun _ => rfl, rfl⟩
 ·exact ⟨_, Tryz.t154, _, Tryz.underlying154, rfl, by kernel_rfl, rfl, rfl, rfl, rfl, rfl, fun _ => rfl, rfl⟩
 ·exact ⟨_, Tryz.t158, _, Tryz.underlying158, rfl, by kernel_rfl, rfl, rfl, rfl, rfl, rfl, (fun h => by cases h), rfl⟩
 ·exact ⟨_, Tryz.t159, _, Tryz.underlying159, rfl, by kernel_rfl, rfl, rfl, rfl, rfl, rfl, fun _ => rfl, rfl⟩
 ·exact ⟨_, Tryz.t161, _, Tryz.underlying161, rfl, by kernel_rfl, rfl, rfl, rfl, rfl, rfl, (fun h => by cases h), rfl⟩
 ·exact ⟨_, Tryz.t162, _, Tryz.underlying162, rfl, by kernel_rfl, rfl, rfl, rfl, rfl, rfl, fun _ => rfl, rfl⟩
 ·exact ⟨_, Tryz.t168, _, Tryz.underlying168, rfl, by kernel_rfl, rfl, rfl, rfl, rfl, rfl, (fun h => by cases h), rfl⟩
 ·exact ⟨_, Tryz.t169, _, Tryz.underlying169, rfl, by kernel_rfl, rfl, rfl, rfl, rfl, rfl, (fun h => by cases h), rfl⟩
 ·exact ⟨_, Tryz.t173, _, Tryz.underlying173, rfl, by kernel_rfl, rfl, rfl, rfl, rfl, rfl, (fun h => by cases h), rfl⟩
 ·exact ⟨_, Tryz.t174, _, Tryz.underlying174, rfl, by kernel_rfl, rfl, rfl, rfl, rfl, rfl, (fun h => by cases h), rfl⟩
def TW (t : Nat) : Option TI := look? t (tab ++ tabX)
theorem tokW : TOk Tryz.prog TW := zTY fun p hp => (List.mem_append.1 hp).elim (zUW p) (zUU p)
theorem mixed : Tryz.prog.follows .mixedOrders = true := by kernel_rfl
end Go.Proofs.YtgfneloodabafaaGreatDoor
namespace Go.Proofs
set_option maxHeartbeats 1000000 in
theorem Tryz.stringslite_IndexByte (s : ByteArray) (c : Int) (w : World) :
  Calls Tryz.prog 99 #[.string s, .int .u8 c] w fun e w' => e = .returned (.int .i64 (Lib.indexByte s.data.toList c.toNat.toUInt8)) ∧ w' = w := by
 go_enter Tryz.func99, Tryz.ntmps99
 go_wp2
 rw [run_callFunc_extern Tryz.func104 (by kernel_rfl) (by kernel_rfl) (by kernel_rfl) (e := Extern.BytealgIndexByte.indexByte) (by kernel_rfl), Lib.run_indexByteString]
 simp only [Result.andThen]
 rw [Oper.upon_value]
 go_wp2
 go_ret
 exact ⟨rfl, rfl⟩
theorem Tryz.stringslite_Index_one (s : ByteArray) (c : UInt8) (w : World) :
  Calls Tryz.prog 103 #[.string s, .string ⟨#[c]⟩] w fun e w' => e = .returned (.int .i64 (Lib.indexByte s.data.toList c)) ∧ w' = w := by
 go_enter Tryz.func103, Tryz.ntmps103
 go_wp2_with (go_at_call 99; refine (Tryz.stringslite_IndexByte _ _ _).mono ?_; rintro e w' ⟨rfl, rfl⟩)
 ·have h : ([c] == s.toList) = true := by assumption
  go_ret
  refine ⟨?_, rfl⟩
  have e : s.data.toList = [c] := by rw [← Lib.toList_data]; exact (beq_iff_eq.1 h).symm
  rw [e]
  simp [Lib.indexByte]
 ·go_ret
  exact ⟨rfl, rfl⟩
set_option maxHeartbeats 1000000 in
theorem Tryz.strings_IndexByte (s : ByteArray) (c : Int) (w : World) :
  Calls Tryz.prog 83 #[.string s, .int .u8 c] w fun e w' => e = .returned (.int .i64 (Lib.indexByte s.data.toList c.toNat.toUInt8)) ∧ w' = w := by
 go_enter Tryz.func83, Tryz.ntmps83
 go_wp2_with (go_at_call 99; refine (Tryz.stringslite_IndexByte _ _ _).mono ?_; rintro e w' ⟨rfl, rfl⟩)
 go_ret
 exact ⟨rfl, rfl⟩
set_option maxHeartbeats 1000000 in
theorem Tryz.strings_Index_one (s : ByteArray) (c : UInt8) (w : World) :
  Calls Tryz.prog 97 #[.string s, .string ⟨#[c]⟩] w fun e w' => e = .returned (.int .i64 (Lib.indexByte s.data.toList c)) ∧ w' = w := by
 go_enter Tryz.func97, Tryz.ntmps97
 go_wp2_with (go_at_call 103; refine (Tryz.stringslite_Index_one _ _ _).mono ?_; rintro e w' ⟨rfl, rfl⟩)
 go_ret
 exact ⟨rfl, rfl⟩
set_option maxHeartbeats 1000000 in
theorem Tryz.strings_Contains_one (s : ByteArray) (c : UInt8) (w : World) :
  Calls Tryz.prog 79 #[.string s, .string ⟨#[c]⟩] w fun e w' => e = .returned (.bool (decide (0 ≤ Lib.indexByte s.data.toList c))) ∧ w' = w := by
 go_enter Tryz.func79, Tryz.ntmps79
 go_wp2_with (go_at_call 97; refine (Tryz.strings_Index_one _ _ _).mono ?_; rintro e w' ⟨rfl, rfl⟩)
 go_ret
 exact ⟨rfl, rfl⟩
end Go.Proofs
namespace Go.Proofs.YtgfneloodabafaaGreatDoor
open Go.Abs
theorem zIB {f : Nat} {s : List AV → Ret → Prop} (hcall : ∀ args w, (callFunc f args).run Tryz.prog w = .ok (.enter f args) w)
  (h : ∀ (G : Nat → Prop) (w : World) (xs : List AV) (vs : List Value) (r : Ret), AVals G w (fun _ => .tuple #[]) xs vs → s xs r → Calls Tryz.prog f vs.toArray w fun e w' => w' = w ∧ ∃ v, e = .returned v ∧ RetAt G w w r v) : PSound Tryz.prog f (zAI s) :=
 ⟨hcall, fun G w xs vs r hl _ _ hv hs => (h G w xs vs r hv hs).mono fun e w' ⟨h1, v, h2, h3⟩ => (by subst h1; exact ⟨v, G, h2, Ext.refl hl, h3⟩), fun R hR => (by cases hR), fun R hR => (by cases hR)⟩
def zHn (xs : List AV) (r : Ret) : Prop := ∃ (a0 a1 : List UInt8) (y0 : Int), zDv a0 a1 = some y0 ∧ xs = [.s (.str a0), .s (.str a1)] ∧ r = .val (.s (.int .i64 y0))
def zEP : zAy := zAI fun xs r => zHn xs r
theorem zG1 : PSound Tryz.prog 103 zEP := zIB Tryz.call103 fun G w xs vs r hv ⟨a, p, y, h, hx, hr⟩ => by
 subst hx; subst hr
 obtain ⟨hp, h⟩ := zAN h
 have hy := Option.some.inj h
 subst hy
 obtain ⟨c, rfl⟩ : ∃ c, p = [c] := by
  match p, hp with
  | [c], _ => exact ⟨c, rfl⟩
 simp only [AVals, AVal, Rep] at hv
 obtain ⟨_, _, rfl, rfl, _, _, rfl, rfl, rfl⟩ := hv
 exact (Tryz.stringslite_Index_one ⟨a.toArray⟩ c w).mono fun e w' ⟨h1, h2⟩ => ⟨h2, _, h1, rfl, by simp only [AVal, Rep]; rfl⟩
def zHM (xs : List AV) (r : Ret) : Prop := ∃ (a0 a1 : List UInt8) (y0 : Bool), zDL a0 a1 = some y0 ∧ xs = [.s (.str a0), .s (.str a1)] ∧ r = .val (.s (.bool y0))
def zFb : zAy := zAI fun xs r => zHM xs r
theorem zHE : PSound Tryz.prog 79 zFb := zIB Tryz.call79 fun G w xs vs r hv ⟨a, p, y, h, hx, hr⟩ => by
 subst hx; subst hr
 obtain ⟨hp, h⟩ := zAN h
 have hy := Option.some.inj h
 subst hy
 obtain ⟨c, rfl⟩ : ∃ c, p = [c] := by
  match p, hp with
  | [c], _ => exact ⟨c, rfl⟩
 simp only [AVals, AVal, Rep] at hv
 obtain ⟨_, _, rfl, rfl, _, _, rfl, rfl, rfl⟩ := hv
 exact (Tryz.strings_Contains_one ⟨a.toArray⟩ c w).mono fun e w' ⟨h1, h2⟩ => ⟨h2, _, h1, rfl, by simp only [AVal, Rep]; rfl⟩
def zHm (xs : List AV) (r : Ret) : Prop := ∃ (a0 : List UInt8) (a1 : Int) (y0 : Int), zCB a0 a1 = some y0 ∧ xs = [.s (.str a0), .s (.int .u8 a1)] ∧ r = .val (.s (.int .i64 y0))
def zEO : zAy := zAI fun xs r => zHm xs r
theorem zG0 : PSound Tryz.prog 83 zEO := zIB Tryz.call83 fun G w xs vs r hv ⟨a, c, y, h, hx, hr⟩ => by
 subst hx; subst hr
 have hy := Option.some.inj h
 subst hy
 simp only [AVals, AVal, Rep] at hv
 obtain ⟨_, _, rfl, rfl, _, _, rfl, rfl, rfl⟩ := hv
 exact (Tryz.strings_IndexByte ⟨a.toArray⟩ c w).mono fun e w' ⟨h1, h2⟩ => ⟨h2, _, h1, rfl, by simp only [AVal, Rep]⟩
end Go.Proofs.YtgfneloodabafaaGreatDoor
namespace Go.Proofs
open Go.Shelf
def Tryz.laysM171_ren : Go.Shelf.Ren := ⟨fun | 171 => 115 | 243 => 120 | 246 => 122 | 283 => 123 | 284 => 124 | 285 => 125 | 286 => 126 | 129 => 128 | 317 => 127 | 318 => 129 | 319 => 130 | 320 => 131 | 337 => 132 | 338 => 133 | n => n, fun | 3 => 3 | 9 => 9 | 2 => 2 | 4 => 4 | 171 => 161 | 0 => 0 | 53 => 162 | 37 => 127 | 5 => 5 | 173 => 165 | 212 => 168 | 51 => 150 | 20 => 20 | 213 => 169 | 46 => 146 | 232 => 173 | 233 => 174 | n => n, fun | 17 => 1 | 18 => 2 | 19 => 3 | n => n⟩
theorem Tryz.laysM171 : Go.Proofs.LaysM.n171 Tryz.prog Tryz.laysM171_ren := {
 mixed := by kernel_rfl
 f129 := Tryz.func128.trans (congrArg some (by kernel_rfl))
 f171 := Tryz.func115.trans (congrArg some (by kernel_rfl))
 f243 := Tryz.func120.trans (congrArg some (by kernel_rfl))
 f246 := Tryz.func122.trans (congrArg some (by kernel_rfl))
 f283 := Tryz.func123.trans (congrArg some (by kernel_rfl))
 f284 := Tryz.func124.trans (congrArg some (by kernel_rfl))
 f285 := Tryz.func125.trans (congrArg some (by kernel_rfl))
 f286 := Tryz.func126.trans (congrArg some (by kernel_rfl))
 f317 := Tryz.func127.trans (congrArg some (by kernel_rfl))
 f318 := Tryz.func129.trans (congrArg some (by kernel_rfl))
 f319 := Tryz.func130.trans (congrArg some (by kernel_rfl))
 f320 := Tryz.func131.trans (congrArg some (by kernel_rfl))
 f337 := Tryz.func132.trans (congrArg some (by kernel_rfl))
 f338 := Tryz.func133.trans (congrArg some (by kernel_rfl))
 t0 := Tryz.underlying0
 a0 := Tryz.isAgg0
 z0 := Tryz.sizeOf0
 v0 := Tryz.zeroValue0
 t2 := Tryz.underlying2
 a2 := Tryz.isAgg2
 z2 := Tryz.sizeOf2
 v2 := Tryz.zeroValue2
 t3 := Tryz.underlying3
 a3 := Tryz.isAgg3
 z3 := Tryz.sizeOf3
 v3 := Tryz.zeroValue3
 t4 := Tryz.underlying4
 a4 := Tryz.isAgg4
 z4 := Tryz.sizeOf4
 v4 := Tryz.zeroValue4
 t5 := Tryz.underlying5
 a5 := Tryz.isAgg5
 z5 := Tryz.sizeOf5
 v5 := Tryz.zeroValue5
 t9 := Tryz.underlying9
 a9 := Tryz.isAgg9
 z9 := Tryz.sizeOf9
 v9 := Tryz.zeroValue9
 t20 := Tryz.underlying20
 a20 := Tryz.isAgg20
 z20 := Tryz.sizeOf20
 v20 := Tryz.zeroValue20
 t37 := Tryz.underlying127
 a37 := Tryz.isAgg127
 z37 := Tryz.sizeOf127
 v37 := Tryz.zeroValue127
 t46 := Tryz.underlying146
 a46 := Tryz.isAgg146
 z46 := Tryz.sizeOf146
 v46 := Tryz.zeroValue146
 t51 := Tryz.underlying150
 a51 := Tryz.isAgg150
 z51 := Tryz.sizeOf150
 v51 := Tryz.zeroValue150
 t53 := Tryz.underlying162
 a53 := Tryz.isAgg162
 z53 := Tryz.sizeOf162
 v53 := Tryz.zeroValue162
 t171 := Tryz.underlying161
 a171 := Tryz.isAgg161
 z171 := Tryz.sizeOf161
 v171 := Tryz.zeroValue161
 t173 := Tryz.underlying165
 a173 := Tryz.isAgg165
 z173 := Tryz.sizeOf165
 v173 := Tryz.zeroValue165
 t212 := Tryz.underlying168
 a212 := Tryz.isAgg168
 z212 := Tryz.sizeOf168
 v212 := Tryz.zeroValue168
 t213 := Tryz.underlying169
 a213 := Tryz.isAgg169
 z213 := Tryz.sizeOf169
 t232 := Tryz.underlying173
 a232 := Tryz.isAgg173
 z232 := Tryz.sizeOf173
 v232 := Tryz.zeroValue173
 t233 := Tryz.underlying174
 a233 := Tryz.isAgg174
 z233 := Tryz.sizeOf174
 v233 := Tryz.zeroValue174
 g17 := by kernel_rfl
 g18 := by kernel_rfl
 g19 := by kernel_rfl
 i0 := by kernel_rfl
 i2 := by kernel_rfl
 i3 := by kernel_rfl
 i4 := by kernel_rfl
 i5 := by kernel_rfl
 i9 := by kernel_rfl
 i20 := by kernel_rfl
 i37 := by kernel_rfl
 i46 := by kernel_rfl
 i51 := by kernel_rfl
 i53 := by kernel_rfl
 i171 := by kernel_rfl
 i173 := by kernel_rfl
 i212 := by kernel_rfl
 i232 := by kernel_rfl
 i233 := by kernel_rfl
 m17 := by kernel_rfl
 m18 := by kernel_rfl
 m19 := by kernel_rfl }
open Go.RowKit Go.Sort Go.Lib in
theorem Tryz.strconv_Itoa (n : Int) (h0 : -9223372036854775808 ≤ n) (h1 : n ≤ 9223372036854775807) (w : World) (htab : Lib.TabIs Tryz.prog w "internal/strconv.uint64pow10" .u64 Lib.pow10Tab) :
  Calls Tryz.prog 115 #[.int .i64 n] w fun e w' => e = .returned (.string ⟨(Lib.itoa n).toArray⟩) ∧ ∃ k os, w' = grow (w.drewN k) os := Any.strconv_Itoa Tryz.laysM171 n h0 h1 w htab
end Go.Proofs
namespace Go.Proofs
set_option maxHeartbeats 1000000 in
theorem Tryz.bld_check_used (b off : Nat) (w : World) (h0 : w.cell? ⟨b, off, none⟩ = some (.pointer (some ⟨b, off, none⟩))) :
  Calls Tryz.prog 116 #[.pointer (some ⟨b, off, none⟩)] w fun e w' => e = .returned (.tuple #[]) ∧ w' = w := by
 have hj : Tryz.prog.info? 133 = some Tryz.t133 := by kernel_rfl
 go_enter Tryz.func116, Tryz.ntmps116
 go_wp2
 rw [Lib.run_neq_ptr_same w _ Tryz.underlying131 hj]
 go_wp2
 go_end0
 exact ⟨rfl, rfl⟩
set_option maxHeartbeats 1000000 in
theorem Tryz.bld_check_fresh (b : Nat) (w : World) (h0 : w.cell? ⟨b, 39, none⟩ = some (.pointer none)) (hsh : w.shape? b = some (135, 41)) (hfz : w.frozen? ⟨b, 39, none⟩ = false) :
  Calls Tryz.prog 116 #[.pointer (some ⟨b, 39, none⟩)] w fun e w' => e = .returned (.tuple #[]) ∧ w' = w.setCell ⟨b, 39, none⟩ (.pointer (some ⟨b, 39, none⟩)) := by
 have hj : Tryz.prog.info? 133 = some Tryz.t133 := by kernel_rfl
 have hjs : Tryz.t133.size ≠ 0 := by decide
 have hlies : liesAt Tryz.prog Tryz.prog.depth 135 (41 / Tryz.prog.cellsOf 135) 39 133 1 = true := by kernel_rfl
 go_enter Tryz.func116, Tryz.ntmps116
 go_wp2
 rw [Lib.run_to_unsafe w ⟨b, 39, none⟩ Tryz.underlying131 Tryz.underlying155 hj hjs hsh (show (39 : Nat) < 41 by decide)]
 simp only [Result.andThen]
 rw [Oper.upon_value]
 go_wp2
 rw [run_callFunc_extern Tryz.func121 (by kernel_rfl) (by kernel_rfl) (by kernel_rfl) (e := Extern.AbiNoEscape.same) (by kernel_rfl)]
 rw [Lib.run_noEscape]
 simp only [Result.andThen]
 rw [Oper.upon_value]
 go_wp2
 rw [Lib.run_from_unsafe w ⟨b, 39, none⟩ Tryz.underlying155 Tryz.underlying131 hj hsh hlies]
 simp only [Result.andThen]
 rw [Oper.upon_value]
 go_wp2
 go_end0
 exact ⟨rfl, rfl⟩
theorem Tryz.bld_String (b g cap : Nat) (l : List UInt8) (w : World) (cur : Array Value) (h0 : l ≠ []) (hb : w.cell? ⟨b, 40, none⟩ = some (.slice (some ⟨g, 0, none⟩) l.length cap)) (hg : w.heap[g]? = some (.cells cur 5 (0, 0))) (hc : cur.size = cap * 1) (hle : l.length ≤ cap) (hm : l.length ≤ 9223372036854775807)
  (hx : ∀ (j : Nat) x, l[j]? = some x → cur[j]? = some (.int .u8 x.toNat)) :
  Calls Tryz.prog 109 #[.pointer (some ⟨b, 39, none⟩)] w fun e w' => e = .returned (.string ⟨l.toArray⟩) ∧ w' = w.drew.freeze ⟨g, 0, none⟩ l.length := by
 have hl0 : l.length ≠ 0 := by simpa using h0
 have c1 : w.drew.cell? ⟨b, 40, none⟩ = some (.slice (some ⟨g, 0, none⟩) l.length cap) := hb
 have hSD : (Builtin.unsafeSliceData_ #[127] 149 #[.slice (some ⟨g, 0, none⟩) l.length cap]).run Tryz.prog w.drew = .ok (.pointer (some ⟨g, 0, none⟩)) w.drew :=
  Lib.run_unsafeSliceData_row _ _ _ _ _ _ (by omega)
 have hg' : w.drew.heap[g]? = some (.cells cur 5 (0, 0)) := hg
 have hUS : (Builtin.unsafeString_ #[149, 3] 9 #[.pointer (some ⟨g, 0, none⟩), .int .i64 l.length]).run Tryz.prog w.drew = .ok (.string ⟨l.toArray⟩) (w.drew.freeze ⟨g, 0, none⟩ l.length) := by
  refine Lib.run_unsafeString_row w.drew 149 3 9 5 Tryz.underlying149 (by kernel_rfl) g cur.size (by simp [World.shape?, hg']) l h0 (by omega) hm ?_
  intro j x hx'
  have e : (Addr.mk g 0 none).add j = ⟨g, j, none⟩ := by
   unfold Addr.add
   split
   ·rename_i e; rw [e]
   ·simp
  rw [e]
  simp only [World.cell?, hg']
  exact hx j x hx'
 have mixed : Tryz.prog.follows .mixedOrders = true := by kernel_rfl
 go_enter Tryz.func109, Tryz.ntmps109
 go_wp2
 go_region_o
 all_goals (go_wp2; go_ret; exact ⟨rfl, rfl⟩)
end Go.Proofs
namespace Go.Proofs.YtgfneloodabafaaGreatDoor
open Go.Abs
def zRF : List AV := [.s (.str []), .s (.int .i64 0), .s .nf, .s (.str [114, 111, 119]), .s (.int .i64 0), .s (.fn 55), .s (.str [115, 121, 109]), .s (.int .i64 0), .s (.fn 56), .s (.str [110, 117, 109]), .s (.int .i64 0), .s (.fn 57), .s (.str [116, 101, 120, 116]), .s (.int .i64 0), .s (.fn 58), .s (.str [102, 114, 97, 99]), .s (.int .i64 2), .s (.fn 55), .s (.str [114, 111, 111, 116]), .s (.int .i64 2), .s (.fn 55), .s (.str [115, 117, 98]), .s (.int .i64 2), .s (.fn 55), .s (.str [115, 117, 112]), .s (.int .i64 2), .s (.fn 55), .s (.str [98, 111, 116, 104]), .s (.int .i64 3), .s (.fn 55), .s (.str [97, 99, 99, 101, 110, 116]), .s (.int .i64 1), .s (.fn 59), .s (.str [102, 101, 110, 99, 101]), .s (.int .i64 1), .s (.fn 60), .s (.str [109, 97, 116, 114, 105, 120]), .s (.int .i64 0), .s (.fn 55)]
def zA6 (a b : AV) : List AV := zRF ++ [a, b]
theorem zHp {a b : AV} : ∀ (i : Nat) (x : AV), (zA6 a b)[i]? = some x → i ≠ 39 → i ≠ 40 → x.pers = true := fun i x h h1 h2 => by
 have hk : zRF.all AV.pers = true := by decide
 have hl : zRF.length = 39 := rfl
 unfold zA6 at h
 rw [List.getElem?_append] at h
 split at h
 ·exact List.all_eq_true.1 hk x (List.mem_of_getElem? h)
 ·rw [hl] at h
  have : i - 39 < 2 := by have := (List.getElem?_eq_some_iff.1 h).1; simpa using this
  omega
theorem zJ5 (b : Nat) (w : World) (cur : Array Value) (h : w.heap[b]? = some (.cells cur 135 (0, 0))) (hc : cur[39]? = some (.pointer (some ⟨b, 39, none⟩))) :
  Calls Tryz.prog 116 #[.pointer (some ⟨b, 39, none⟩)] w fun e w' => e = .returned (.tuple #[]) ∧ Wrote b 39 (.pointer (some ⟨b, 39, none⟩)) cur 135 w w' :=
 (Tryz.bld_check_used b 39 w (by simp [World.cell?, h, hc])).mono fun e w' ⟨h1, h2⟩ => ⟨h1, by subst h2; exact Wrote.same h hc⟩
theorem zJp (b : Nat) (w : World) (cur : Array Value) (h : w.heap[b]? = some (.cells cur 135 (0, 0))) (hs : cur.size = 41) (hc : cur[39]? = some (.pointer none)) :
  Calls Tryz.prog 116 #[.pointer (some ⟨b, 39, none⟩)] w fun e w' => e = .returned (.tuple #[]) ∧ Wrote b 39 (.pointer (some ⟨b, 39, none⟩)) cur 135 w w' :=
 (Tryz.bld_check_fresh b w (by simp [World.cell?, h, hc]) (by simp [World.shape?, h, hs]) (by simp [World.frozen?, h])).mono fun e w' ⟨h1, h2⟩ => ⟨h1, by subst h2; exact Wrote.cell h⟩
def zEH (xs : List AV) (os : List Ob) (x : AV) (os' : List (Option Ob)) : Prop := ∃ (a0 : List UInt8) (z1 : List UInt8), zA4 a0 = some z1 ∧ xs = [.op 0 39] ∧ os = [.box 135 (zA6 (.op 0 39) (.orow 1)), .row 5 1 (List.map brow a0)] ∧ x = .tup [] ∧ os' = [some (.box 135 (zA6 (.op 0 39) (.orow 2))), none, some (.row 5 1 (List.map brow z1))]
def zBY : zAy := zCm (fun xs os x os' => zEH xs os x os')
theorem zCO : PSound Tryz.prog 116 zBY :=
 PSound.ofOwn Tryz.call116 fun G w β xs vs os x os' h1 h2 h3 h4 h5 ⟨a0, z1, hm, hx, ho, hr, ho'⟩ =>
  zRq (p := .op 0 39) (e := 5) rfl (.inr rfl) rfl rfl zHp (fun b w cur hb _ _ hc => zJ5 b w cur hb (hc rfl)) G w β xs vs os x os' h1 h2 h3 h4 h5 ⟨_, hx, ho, hr, by rw [ho', ← Option.some.inj hm]; rfl⟩
def zD7 (xs : List AV) (os : List Ob) (x : AV) (os' : List (Option Ob)) : Prop := ∃ (a0 : List UInt8) (z1 : List UInt8), zA4 a0 = some z1 ∧ xs = [.op 0 39] ∧ os = [.box 135 (zA6 (.s .np) (.orow 1)), .row 5 1 (List.map brow a0)] ∧ x = .tup [] ∧ os' = [some (.box 135 (zA6 (.op 0 39) (.orow 2))), none, some (.row 5 1 (List.map brow z1))]
def zCr : zAy := zCm (fun xs os x os' => zD7 xs os x os')
theorem zDZ : PSound Tryz.prog 116 zCr :=
 PSound.ofOwn Tryz.call116 fun G w β xs vs os x os' h1 h2 h3 h4 h5 ⟨a0, z1, hm, hx, ho, hr, ho'⟩ =>
  zRq (p := .s .np) (e := 5) rfl (.inl rfl) rfl rfl zHp (fun b w cur hb hs hc _ => zJp b w cur hb hs (hc rfl)) G w β xs vs os x os' h1 h2 h3 h4 h5 ⟨_, hx, ho, hr, by rw [ho', ← Option.some.inj hm]; rfl⟩
def zFA (xs : List AV) (os : List Ob) (x : AV) (os' : List (Option Ob)) : Prop := ∃ (a0 : List UInt8) (y0 : List UInt8), zCo a0 = some y0 ∧ xs = [.op 0 39] ∧ os = [.box 135 (zA6 (.op 0 39) (.orow 1)), .row 5 1 (List.map brow a0)] ∧ x = .s (.str y0) ∧ os' = [some (.box 135 (zA6 (.op 0 39) .junk)), none]
def zDy : zAy := zCm (fun xs os x os' => zFA xs os x os')
theorem zFv : PSound Tryz.prog 109 zDy :=
 PSound.ofOwn Tryz.call109 fun G w β xs vs os x os' h1 h2 h3 h4 h5 ⟨a0, y0, hm, hx, ho, hr, ho'⟩ => by
  obtain ⟨⟨hq, hq2⟩, hm⟩ := zAN hm
  exact zPr (D := 135) (e := 5) (cells := zA6 (.op 0 39) (.orow 1)) rfl rfl rfl zHp (fun b g cap l w cur => Tryz.bld_String b g cap l w cur) G w β xs vs os x os' h1 h2 h3 h4 h5 ⟨a0, hq, hq2, hx, ho, by rw [hr, Option.some.inj hm], ho'⟩
theorem Ext.grow {G : Nat → Prop} {w : World} (h : ∀ b, G b → b < w.heap.size) (k : Nat) (os : Array Obj) : Ext G G w (Sort.grow (w.drewN k) os) :=
 ⟨rfl, rfl, rfl, by show w.heap.size ≤ (w.heap ++ os).size; simp, fun b hb => by show (w.heap ++ os)[b]? = _; simp [Array.getElem?_append, hb], fun _ h => h, fun _ h => .inl h, fun b hb => by have := h b hb; show b < (w.heap ++ os).size; simp; omega⟩
theorem zUV {G : Nat → Prop} {w : World} (h : GlobOk G w) : Lib.TabIs Tryz.prog w "internal/strconv.uint64pow10" .u64 Lib.pow10Tab := by
 obtain ⟨_, e, f, hh⟩ := h.2 1 _ rfl
 have hg : Tryz.prog.globalNamed "internal/strconv.uint64pow10" = some 1 := by kernel_rfl
 unfold Lib.TabIs World.var?
 rw [hg]
 simp only [Option.bind_some, hh]
def zK7 (xs : List AV) (r : Ret) : Prop := ∃ (a0 : Int) (y0 : List UInt8), zDp a0 = some y0 ∧ xs = [.s (.int .i64 a0)] ∧ r = .val (.s (.str y0))
def zFp : zAy := zAI fun xs r => zK7 xs r
theorem zGB : PSound Tryz.prog 115 zFp :=
 ⟨Tryz.call115, fun G w xs vs r hl hgl hp hv ⟨a, y, hm, hx, hr⟩ => by
  subst hx; subst hr
  obtain ⟨⟨q1, q2⟩, hm⟩ := zAN hm
  have hy := Option.some.inj hm
  subst hy
  simp only [AVals, AVal, Rep] at hv
  obtain ⟨_, _, rfl, rfl, rfl⟩ := hv
  exact (Tryz.strconv_Itoa a q1 q2 w (zUV hgl)).mono fun e w' ⟨h1, k, os, h2⟩ => ⟨_, G, h1, by rw [h2]; exact Ext.grow hl k os, rfl, by simp only [AVal, Rep]⟩, fun R hR => (by cases hR), fun R hR => (by cases hR)⟩
end Go.Proofs.YtgfneloodabafaaGreatDoor
namespace Go.Proofs.YtgfneloodabafaaGreatDoor
open Go.Abs
def VAt (hp : Nat → Option Ob) (e : Nat) (v : AV) (ks : List Nd) (keys : List Nat) : Prop :=
 (ks = [] ∧ v = .s (.sl 4 []) ∧ keys = []) ∨ ∃ q rows keys' w, v = .orow q ∧ hp q = some (.arow e 4 rows) ∧ rows.length = ks.length ∧ keys = q :: keys' ∧ LAt hp e q 0 ks keys' [] w
theorem At.full {hp : Nat → Option Ob} {e : Nat} {p : AV} {k c : Int} {t : List UInt8} {ks : List Nd} {keys : List Nat} {w : Nat} (h : At hp e p (.mk k t c ks) keys [] w) : ∃ v, zBc hp p = some (zCN k t c v) ∧ VAt hp e v ks keys := by
 simp only [At] at h
 obtain ⟨v, hc, ⟨_, _, h, _⟩ | ⟨rfl, rfl, rfl, _, _⟩ | ⟨q, rows, keys', rfl, hq, hlen, rfl, h⟩⟩ := h
 ·cases h
 ·exact ⟨_, hc, .inl ⟨rfl, rfl, rfl⟩⟩
 ·exact ⟨_, hc, .inr ⟨q, rows, keys', w, rfl, hq, hlen, rfl, h⟩⟩
def zNn (xs : List AV) (hp : Nat → Option Ob) (n : Nat) (Φ : AV → (Nat → Option Ob) → Nat → Prop) : Prop :=
 ∃ (k c : Int) (tx : List UInt8) (ks : List Nd), (Nd.mk k tx c ks).cnt ≤ 1000000000 ∧ xs = [.agg (zCN k tx c (.s (.sl 4 (Nd.encs ks))))] ∧
  ∀ v hp' n' keys, n ≤ n' → (∀ k, k < n → hp' k = hp k) → VAt hp' 24 v ks keys → keys.Nodup → (∀ k ∈ keys, n ≤ k ∧ k < n') → Φ (.agg (zCN k tx c v)) hp' n'
def zO9 : zAy := zQN zNn
theorem zSg {T : Nat → Option TI} {σ : St} {t ty q bt : Nat} {i : TI} {cells : List AV} (h1 : σ.env t = .op q 0) (h2 : σ.hp q = some (.box bt cells)) (h3 : T ty = some i) (ha : i.k.agg = true) (hz : i.size = cells.length) : zLk T σ [.cell t ty] = some (AV.deep (.agg cells)) := by
 have hb : Nat.ble i.size cells.length = true := by rw [hz]; exact Nat.ble_eq_true_of_le (Nat.le_refl _)
 simp only [zLk, zHi, zPQ, h1, h2, h3, ha, hb]
 rw [hz, List.take_length]
theorem zSC {σ : St} {q : Nat} {ob : Ob} : (zFx σ q ob).hp q = some ob := by simp only [zFx, Nat.beq_refl, cond_true]
theorem upd_ne {σ : St} {q k : Nat} {ob : Ob} (h : k ≠ q) : (zFx σ q ob).hp k = σ.hp k := by simp only [zFx, zDR h, cond_false]
theorem VAt.frame {hp hp' : Nat → Option Ob} {e : Nat} {v : AV} {ks : List Nd} {keys : List Nat} (h : VAt hp e v ks keys) (hs : ∀ k ∈ keys, hp' k = hp k) : VAt hp' e v ks keys := by
 rcases h with h | ⟨q, rows, keys', w, h1, h2, h3, rfl, h4⟩
 ·exact .inl h
 ·exact .inr ⟨q, rows, keys', w, h1, (hs q List.mem_cons_self).trans h2, h3, rfl, h4.sameQ (Sim.same (p0 := .junk) fun k hk => hs k (List.mem_cons.2 hk)) (fun j _ e => by cases e) (fun q j _ e => by cases e)⟩
theorem zF7 {T : Nat → Option TI} {own : Bool} {o : Oper} {σ : St} {p : AV} {y : Operand} (hl : isL 4 p) (ho : o.op = .assign y ∨ o.op = .move y) (hy : opd T σ.env o.type y = p) (hn : (own && zC3 y) = false) : step1 T own o σ = some (none, p, σ) := by
 have e0 : p.nrm = p := by rcases hl with ⟨_, _, rfl⟩ | ⟨_, rfl⟩ <;> rfl
 have e1 : zCC T own o σ.env = some (none, p) := by
  rcases ho with ho | ho <;> simp only [zCC, ho, hn, hy, e0]
 simp only [step1, e1]
theorem zKU {c : Cx} {x : Code} {σ : St} {Q : Abs.End → St → Prop} (l : List (Nat × AV)) (n' : Nat) (h : holds σ.env l) (hn : σ.nx = n') (hk : ∀ H, (∀ k, H k = σ.hp k) → Tri c x ⟨ofL l, H, n'⟩ Q) : Tri c x σ Q := by
 subst hn
 exact zAm (Le.forget l h) (hk σ.hp fun _ => rfl)
theorem At.pend {hp : Nat → Option Ob} {e w : Nat} {p : AV} {k c : Int} {tx : List UInt8} {ks : List Nd} (h : At hp e p (.mk k tx c ks) [] [p] w) : zBc hp p = some (zCN k tx c (.s (.sl 4 (Nd.encs ks)))) := by
 simp only [At] at h
 obtain ⟨v, hc, ⟨rfl, _⟩ | ⟨_, _, _, h, _⟩ | ⟨q, rows, keys', _, _, _, h, _⟩⟩ := h
 ·exact hc
 ·cases h
 ·cases h
theorem zIC {hp hp' : Nat → Option Ob} {sz k : Nat} {p : AV} {c : List AV} (hl : isL sz p) (h1 : hp' k = hp k) (h2 : hp' (zBI p) = hp (zBI p)) : putC hp' p c k = putC hp p c k := by
 rcases hl with ⟨q, i, rfl⟩ | ⟨q, rfl⟩ <;> (simp only [zBI] at h2; simp only [putC, h1, h2])
theorem zQ6 {hp hp' : Nat → Option Ob} {sz k : Nat} {p : AV} {c c' cs : List AV} (hl : isL sz p) (hc : zBc hp p = some cs) (h : hp' (zBI p) = putC hp p c' (zBI p)) (hk : k ≠ zBI p → hp' k = hp k) : putC hp' p c k = putC hp p c k := by
 by_cases hb : k = zBI p
 ·subst hb
  rcases zDs hl hc with ⟨q, i, e, rows, rfl, hq, hi⟩ | ⟨q, bt, rfl, hq⟩
  ·simp only [zBI] at h ⊢
   rw [zID hq] at h ⊢
   simp only [Nat.beq_refl, cond_true] at h ⊢
   rw [zID h]
   simp only [Nat.beq_refl, cond_true, List.set_set]
  ·simp only [zBI] at h ⊢
   rw [zKF hq] at h ⊢
   simp only [Nat.beq_refl, cond_true] at h ⊢
   rw [zKF h]
   simp only [Nat.beq_refl, cond_true]
 ·rw [zCq hb, zCq hb, hk hb]
theorem zRL {q j : Nat} : locs q 0 (j + 1) = locs q 0 j ++ [.rp q 4 j 0] := by
 simp [locs, List.range'_concat]
theorem zS6 {α : Type} {S : List α} {p : α} : ((S ++ [p]).map fun p => [p]).getD S.length [] = [p] := by
 simp [List.getD_eq_getElem?_getD]
structure DInv (hp : Nat → Option Ob) (n e pe : Nat) (t : Nd) (H : Nat → Option Ob) (ls nx : Nat) (S : List AV) (keys : List Nat) (w : Nat) : Prop where
 low : ∀ k, k < n → H k = hp k
 res : ∃ a b c d, H (n + 1) = some (.box e [a, b, c, d])
 stk : H ls = some (.arow pe 1 (S.map fun p => [p]))
 tree : At H e (.op n 0) t keys S w
 nd : (n :: keys).Nodup
 kb : ∀ k ∈ keys, n + 1 < k ∧ k < nx ∧ k ≠ ls
 l1 : n + 1 < ls
 l2 : ls < nx
set_option maxHeartbeats 4000000 in
theorem zMG : PSound Tryz.prog 88 zO9 := by
 have gok : ∀ (f : Nat) (s : zAy), (fun _ => none : Nat → Option zAy) f = some s → PSound Tryz.prog f s := fun _ _ h => by cases h
 refine zOc tokW Tryz.call88 Tryz.func88 rfl (fun xs hp n Φ h => by obtain ⟨_, _, _, _, _, rfl, _⟩ := h; show 1 ≤ _; decide) _ rfl ?_
 rintro xs hp n Φ w0 G0 B0 ⟨k0, c, tx, ks, hcnt, rfl, hΦ⟩ _ hhp
 refine zAb ?_
 refine zAa (by exact tokW) (by exact gok) [1, 2] [] rfl ?_
 show Tri _ _ _ _
 refine zAb ?_
 refine zAa (by exact tokW) (by exact gok) [7] [] rfl ?_
 show Tri _ _ _ _
 refine zAm (Le.forgetH [(1, .op n 0), (2, .op (n + 1) 0), (3, .orow (n + 2))] (fun k => bif Nat.beq k (n + 2) then some (.arow 78 1 [[.op n 0]]) else bif Nat.beq k (n + 1) then some (.box 24 [.s (.int .i64 0), .s (.str []), .s (.int .i64 0), .nl 4]) else bif Nat.beq k n then some (.box 24 (zCN k0 tx c (.s (.sl 4 (Nd.encs ks))))) else hp k) (n + 3) ⟨rfl, rfl, rfl, trivial⟩ (fun k => rfl) rfl) ?_
 have hI : DInv hp n 24 78 (.mk k0 tx c ks) (fun k => bif Nat.beq k (n + 2) then some (.arow 78 1 [[.op n 0]]) else bif Nat.beq k (n + 1) then some (.box 24 [.s (.int .i64 0), .s (.str []), .s (.int .i64 0), .nl 4]) else bif Nat.beq k n then some (.box 24 (zCN k0 tx c (.s (.sl 4 (Nd.encs ks))))) else hp k) (n + 2) (n + 3) [.op n 0] [] (Nd.mk k0 tx c ks).cnt := {
  low := fun k hk => by
   have h1 : k ≠ n + 2 := by omega
   have h2 : k ≠ n + 1 := by omega
   have h3 : k ≠ n := by omega
   simp only [zDR h1, zDR h2, zDR h3, cond_false]
  res := ⟨.s (.int .i64 0), .s (.str []), .s (.int .i64 0), .nl 4, by
   have h1 : n + 1 ≠ n + 2 := by omega
   simp only [zDR h1, Nat.beq_refl, cond_false, cond_true]⟩
  stk := by simp only [Nat.beq_refl, cond_true]; rfl
  tree := by
   have h1 : n ≠ n + 2 := by omega
   have h2 : n ≠ n + 1 := by omega
   simp only [At]
   exact ⟨.s (.sl 4 (Nd.encs ks)), zLG (bt := 24) (by simp only [zDR h1, zDR h2, Nat.beq_refl, cond_false, cond_true]), .inl (by simp [Nd.cnt])⟩
  nd := by simp
  kb := fun k hk => by cases hk
  l1 := by omega
  l2 := by omega }
 generalize hH : (fun k => bif Nat.beq k (n + 2) then some (Ob.arow 78 1 [[AV.op n 0]]) else bif Nat.beq k (n + 1) then some (Ob.box 24 [AV.s (.int .i64 0), AV.s (.str []), AV.s (.int .i64 0), AV.nl 4]) else bif Nat.beq k n then some (Ob.box 24 (zCN k0 tx c (.s (.sl 4 (Nd.encs ks))))) else hp k) = H0 at hI ⊢
 clear hH
 refine zAb ?_
 refine zAp (zAJ (X := (Nat → Option Ob) × Nat × Nat × List AV × List Nat × Nat) (fun y => match y with | (H, ls, nx, S, keys, w) => ⟨ofL [(1, .op n 0), (2, .op (n + 1) 0), (3, .orow ls)], H, nx⟩)
  (fun y => match y with | (H, ls, nx, S, keys, w) => DInv hp n 24 78 (.mk k0 tx c ks) H ls nx S keys w) (fun y => match y with | (H, ls, nx, S, keys, w) => w) (H0, n + 2, n + 3, [.op n 0], [], (Nd.mk k0 tx c ks).cnt) hI (Le.refl _ _) ?_)
 rintro ⟨H, ls, nx, S, keys, w⟩ hI
 have hI : DInv hp n 24 78 (.mk k0 tx c ks) H ls nx S keys w := hI
 refine zAb ?_
 refine zAb ?_
 refine zAa (by exact tokW) (by exact gok) [] [] rfl ?_
 refine zAs rfl rfl rfl rfl rfl rfl trivial ?_
 refine zAs rfl rfl rfl rfl rfl (zNb rfl rfl rfl rfl rfl hI.stk) trivial ?_
 refine zAs rfl rfl rfl rfl rfl rfl trivial ?_
 show Tri _ _ _ _
 refine zAe rfl (fun hb => ?_) (fun hb => ?_)
 rotate_left
 ·refine zAL ?_
  show Tri _ _ _ _
  refine zAm (Le.forget [(1, .op n 0), (2, .op (n + 1) 0), (3, .orow ls)] ⟨rfl, rfl, rfl, trivial⟩) ?_
  have hS : S = [] := by
   cases S with
   | nil => rfl
   | cons x S =>
    have := of_decide_eq_false hb
    simp only [List.length_map, List.length_cons] at this
    omega
  subst hS
  obtain ⟨v, hc, hv⟩ := hI.tree.full
  rcases zDs (sz := 4) (.inr ⟨n, rfl⟩) hc with ⟨q, i, e, rows, h1, _⟩ | ⟨q, bt, h1, hq⟩
  ·cases h1
  cases h1
  obtain ⟨ra, rb, rc, rd, hr1⟩ := hI.res
  refine zAb ?_
  refine zAa (by exact tokW) (by exact gok) [] [] rfl ?_
  refine zAs rfl rfl rfl rfl rfl (zSr rfl rfl rfl rfl hq rfl) trivial ?_
  have hvl : v.one = true ∧ v.lt nx = true := by
   rcases hv with ⟨_, rfl, _⟩ | ⟨q, _, _, _, rfl, _, _, hk, _⟩
   ·exact ⟨rfl, rfl⟩
   ·exact ⟨rfl, decide_eq_true (hI.kb q (by rw [hk]; exact List.mem_cons_self)).2.1⟩
  refine zHs rfl rfl rfl (zOY rfl rfl rfl hr1 rfl rfl (by show ([AV.s _, AV.s _, AV.s _, v] : List AV).all AV.one = true; simp only [List.all_cons, List.all_nil, hvl.1]; rfl) (by show AV.ltAll nx [AV.s _, AV.s _, AV.s _, v] = true; simp only [AV.ltAll, hvl.2]; rfl)) trivial ?_
  show Tri _ _ _ _
  refine zAi ?_
  have hln : n < nx := Nat.lt_trans (Nat.lt_trans (Nat.lt_succ_self n) hI.l1) hI.l2
  have hdeep : AV.deep (.agg (zCN k0 tx c v)) = .agg (zCN k0 tx c v) := by
   rcases hv with ⟨_, rfl, _⟩ | ⟨q, _, _, _, rfl, _⟩ <;> rfl
  unfold zP1
  refine ⟨_, Le.refl _ _, .agg (zCN k0 tx c v), ?_, hΦ v _ _ keys (Nat.le_of_lt hln) (fun k hk => ?_) ?_ (List.nodup_cons.1 hI.nd).2 fun k hk => ⟨Nat.le_of_lt (Nat.lt_trans (Nat.lt_succ_self n) (hI.kb k hk).1), (hI.kb k hk).2.1⟩⟩
  ·exact (zSg (cells := zCN k0 tx c v) rfl zSC rfl rfl rfl).trans (congrArg some hdeep)
  ·exact (upd_ne (by omega)).trans (hI.low k hk)
  ·exact hv.frame fun k hk => upd_ne (by have := (hI.kb k hk).1; omega)
 refine zAg ?_
 show Tri _ _ _ _
 obtain ⟨S', p, rfl⟩ : ∃ S' p, S = S' ++ [p] := by
  rcases List.eq_nil_or_concat S with rfl | ⟨S', p, rfl⟩
  ·cases hb
  ·exact ⟨S', p, List.concat_eq_append⟩
 have hl0 : isL 4 p := hI.tree.loc (.inr ⟨n, rfl⟩) (by simp)
 obtain ⟨⟨k1, tx1, c1, ks1⟩, w1, hp0, hw, hrep⟩ := hI.tree.repl (.inr ⟨n, rfl⟩) hI.nd
 have hcell := hp0.pend
 have hwl := hI.tree.len
 have hSl : S'.length < 1000000000 := by
  have := hwl.1
  have := hwl.2
  simp only [List.length_append, List.length_singleton] at *
  omega
 have hz : IntKind.i64.wrap (((((S' ++ [p]).map fun p => [p]).length : Nat) : Int) - 1) = (S'.length : Int) := by
  rw [wrap64_in (by simp only [List.length_map, List.length_append, List.length_singleton]; omega) (by simp only [List.length_map, List.length_append, List.length_singleton]; omega)]
  simp only [List.length_map, List.length_append, List.length_singleton]; omega
 have hlt1 : S'.length < ((S' ++ [p]).map fun p => [p]).length := by simp
 refine zAm (Le.forget [(1, .op n 0), (2, .op (n + 1) 0), (3, .orow ls)] ⟨rfl, rfl, rfl, trivial⟩) ?_
 refine zAp ?_
 refine zAb ?_
 refine zAa (by exact tokW) (by exact gok) [] [] rfl ?_
 refine zAs rfl rfl rfl rfl rfl rfl trivial ?_
 refine zAs rfl rfl rfl rfl rfl rfl trivial ?_
 refine zAs rfl rfl rfl rfl rfl (zNb rfl rfl rfl rfl rfl hI.stk) trivial ?_
 refine zAs rfl rfl rfl rfl rfl rfl trivial ?_
 rw [hz]
 refine zAs rfl rfl rfl rfl rfl (zSq rfl rfl rfl rfl rfl rfl hI.stk rfl) ⟨Int.natCast_nonneg _, Int.ofNat_lt.2 hlt1⟩ ?_
 refine zN2 (c := p) rfl rfl rfl rfl rfl rfl hI.stk hlt1 (by rw [Int.toNat_natCast, zS6]; rfl) ?_
 refine zAs rfl rfl rfl rfl rfl (zF7 hl0 (.inl rfl) rfl rfl) trivial ?_
 show Tri _ _ _ _
 refine zAm (Le.forget [(1, .op n 0), (2, .op (n + 1) 0), (3, .orow ls), (4, p)] ⟨rfl, rfl, rfl, rfl, trivial⟩) ?_
 refine zAb ?_
 refine zAa (by exact tokW) (by exact gok) [21] [] rfl ?_
 refine zAs rfl rfl rfl rfl rfl rfl trivial ?_
 refine zAs rfl rfl rfl rfl rfl rfl trivial ?_
 refine zAs rfl rfl rfl rfl rfl (zNb rfl rfl rfl rfl rfl hI.stk) trivial ?_
 refine zAs rfl rfl rfl rfl rfl rfl trivial ?_
 rw [hz]
 refine zAs rfl rfl rfl rfl rfl (zSs rfl rfl rfl rfl rfl rfl hI.stk rfl) ⟨Int.natCast_nonneg _, Int.ofNat_le.2 (Nat.le_of_lt hlt1)⟩ ?_
 refine zAs rfl rfl rfl rfl rfl rfl trivial ?_
 show Tri _ _ _ _
 refine zKU [(1, .op n 0), (2, .op (n + 1) 0), (3, .orow nx), (4, p)] (nx + 1) ⟨rfl, rfl, rfl, rfl, trivial⟩ rfl fun H1 hH1 => ?_
 have g1 : H1 nx = some (.arow 78 1 (S'.map fun p => [p])) := (hH1 nx).trans (by
  show (bif Nat.beq nx nx then some (Ob.arow 78 1 (((S' ++ [p]).map fun p => [p]).take ((S'.length : Int)).toNat)) else _) = _
  rw [Nat.beq_refl, cond_true, Int.toNat_natCast]
  simp)
 have g2 : ∀ k, k ≠ nx → k ≠ ls → H1 k = H k := fun k h1 h2 => (hH1 k).trans (by
  show (bif Nat.beq k nx then _ else bif Nat.beq k ls then none else H k) = _
  rw [zDR h1, zDR h2]; rfl)
 clear hH1
 have hbase : zBI p = n ∨ zBI p ∈ keys := by
  rcases hI.tree.base (p0 := p) (by simp) with h | h
  ·exact .inl (by rw [h]; rfl)
  ·exact .inr h
 have hln : n < nx := Nat.lt_trans (Nat.lt_trans (Nat.lt_succ_self n) hI.l1) hI.l2
 have hbl : zBI p ≠ nx ∧ zBI p ≠ ls ∧ zBI p ≠ n + 1 ∧ zBI p < nx := by
  have h1 := hI.l1
  have h2 := hI.l2
  rcases hbase with h | h
  ·rw [h]; omega
  ·have := hI.kb _ h; omega
 have fin : ∀ (cs : List AV) (Hj : Nat → Option Ob) (lsj nxj : Nat) (new : List Nat) (ch : List AV) (w' : Nat), (∀ k, k ≠ ls → k < nx → Hj k = putC H p cs k) → Hj lsj = some (.arow 78 1 ((S' ++ ch).map fun p => [p])) → At Hj 24 p (.mk k1 tx1 c1 ks1) new ch w' →
   new.Nodup → (∀ k ∈ new, nx ≤ k ∧ k < nxj ∧ k ≠ lsj) → nx ≤ lsj → lsj < nxj → w' < (Nd.mk k1 tx1 c1 ks1).cnt → ∃ keys2, DInv hp n 24 78 (.mk k0 tx c ks) Hj lsj nxj (S' ++ ch) keys2 (w1 + w') ∧ w1 + w' < w := by
  intro cs Hj lsj nxj new ch w' f1 f2 f3 f4 f5 f6 f7 f8
  have l1 := hI.l1
  have l2 := hI.l2
  have hD : ∀ k, k = n ∨ k ∈ keys → k ≠ ls ∧ k < nx := fun k hk => by
   rcases hk with rfl | hk
   ·omega
   ·have := hI.kb k hk; omega
  obtain ⟨keys2, hperm, hat⟩ := hrep Hj new ch w' (Sim.put hl0 hcell fun k hk => f1 k (hD k hk).1 (hD k hk).2) f3
  have hmem : ∀ k, k ∈ keys2 → k ∈ keys ∨ k ∈ new := fun k hk => List.mem_append.1 (hperm.mem_iff.1 hk)
  have hkn := List.nodup_cons.1 hI.nd
  refine ⟨keys2, {
   low := fun k hk => (f1 k (by omega) (by omega)).trans ((zCq (by
    rcases hbase with h | h
    ·omega
    ·have := hI.kb _ h; omega)).trans (hI.low k hk))
   res := by
    obtain ⟨a, b, c, d, hr⟩ := hI.res
    exact ⟨a, b, c, d, (f1 (n + 1) (by omega) (by omega)).trans ((zCq (Ne.symm hbl.2.2.1)).trans hr)⟩
   stk := f2
   tree := hat
   nd := List.nodup_cons.2 ⟨fun hm => by
    rcases hmem n hm with h | h
    ·exact hkn.1 h
    ·have := f5 n h; omega, hperm.nodup_iff.2 (List.nodup_append.2 ⟨hkn.2, f4, fun a ha b hb e => by
     have := hI.kb a ha
     have := f5 b hb
     omega⟩)⟩
   kb := fun k hk => by
    rcases hmem k hk with h | h
    ·have := hI.kb k h; omega
    ·have := f5 k h; omega
   l1 := by omega
   l2 := f7 }, by omega⟩
 have hc1 : zBc H1 p = some (zCN k1 tx1 c1 (.s (.sl 4 (Nd.encs ks1)))) := (zCI hl0 (g2 _ hbl.1 hbl.2.1)).trans hcell
 refine zAb ?_
 refine zAa (by exact tokW) (by exact gok) [] [] rfl ?_
 refine zAs rfl rfl rfl rfl rfl (zF7 hl0 (.inr rfl) rfl rfl) trivial ?_
 refine zAs rfl rfl rfl rfl rfl (zGL hl0 rfl rfl) trivial ?_
 refine zAs rfl rfl rfl rfl rfl (zGK hl0 rfl rfl rfl rfl rfl rfl rfl) trivial ?_
 refine zFG (off := 3) (sz := 4) rfl rfl rfl rfl rfl rfl rfl hl0 rfl hc1 rfl ?_
 refine zAs rfl rfl rfl rfl rfl rfl trivial ?_
 show Tri _ _ _ _
 refine zAm (Le.forget [(1, .op n 0), (2, .op (n + 1) 0), (3, .orow nx), (4, p), (5, .s (.sl 4 (Nd.encs ks1)))] ⟨rfl, rfl, rfl, rfl, rfl, trivial⟩) ?_
 refine zAb ?_
 refine zAa (by exact tokW) (by exact gok) [] [] rfl ?_
 refine zAs rfl rfl rfl rfl rfl (zF7 hl0 (.inr rfl) rfl rfl) trivial ?_
 refine zAs rfl rfl rfl rfl rfl (zGL hl0 rfl rfl) trivial ?_
 refine zAs rfl rfl rfl rfl rfl (zGK hl0 rfl rfl rfl rfl rfl rfl rfl) trivial ?_
 refine zN3 (off := 3) (sz := 4) (c := .s (.sl 4 [])) rfl rfl rfl rfl rfl hl0 rfl hc1 rfl (by decide) rfl rfl rfl ?_
 show Tri _ _ _ _
 refine zKU [(1, .op n 0), (2, .op (n + 1) 0), (3, .orow nx), (4, p), (5, .s (.sl 4 (Nd.encs ks1)))] (nx + 1) ⟨rfl, rfl, rfl, rfl, rfl, trivial⟩ rfl fun H2 hH2 => ?_
 have hH2 : ∀ k, H2 k = putC H1 p (zCN k1 tx1 c1 (.s (.sl 4 []))) k := hH2
 have hc2 : zBc H2 p = some (zCN k1 tx1 c1 (.s (.sl 4 []))) := (zCI hl0 (hH2 _)).trans (zJ8 hl0 hc1)
 refine zAb ?_
 refine zAb ?_
 refine zAa (by exact tokW) (by exact gok) [] [] rfl ?_
 refine zAs rfl rfl rfl rfl rfl rfl trivial ?_
 refine zAs rfl rfl rfl rfl rfl rfl trivial ?_
 refine zAs rfl rfl rfl rfl rfl rfl trivial ?_
 show Tri _ _ _ _
 refine zAe rfl (fun hb => ?_) (fun hb => ?_)
 rotate_left
 ·obtain rfl : ks1 = [] := by
   cases ks1 with
   | nil => rfl
   | cons x l =>
    have := of_decide_eq_false hb
    simp only [Nd.encs, List.length_cons] at this
    omega
  refine zAg ?_
  show Tri _ _ _ _
  refine zAm (Le.forget [(1, .op n 0), (2, .op (n + 1) 0), (3, .orow nx), (4, p), (5, .s (.sl 4 []))] ⟨rfl, rfl, rfl, rfl, rfl, trivial⟩) ?_
  refine zAb ?_
  refine zAa (by exact tokW) (by exact gok) [] [] rfl ?_
  refine zAs rfl rfl rfl rfl rfl (zF7 hl0 (.inr rfl) rfl rfl) trivial ?_
  refine zAs rfl rfl rfl rfl rfl (zGL hl0 rfl rfl) trivial ?_
  refine zAs rfl rfl rfl rfl rfl (zGK hl0 rfl rfl rfl rfl rfl rfl rfl) trivial ?_
  refine zFG (off := 3) (sz := 4) rfl rfl rfl rfl rfl rfl rfl hl0 rfl hc2 rfl ?_
  refine zAs rfl rfl rfl rfl rfl rfl trivial ?_
  refine zAs rfl rfl rfl rfl rfl rfl trivial ?_
  show Tri _ _ _ _
  refine zAm (Le.forget [(1, .op n 0), (2, .op (n + 1) 0), (3, .orow nx), (4, p), (5, .s (.sl 4 []))] ⟨rfl, rfl, rfl, rfl, rfl, trivial⟩) ?_
  refine zAb ?_
  refine zAa (by exact tokW) (by exact gok) [] [] rfl ?_
  refine zAs rfl rfl rfl rfl rfl (zF7 hl0 (.inr rfl) rfl rfl) trivial ?_
  refine zAs rfl rfl rfl rfl rfl (zGL hl0 rfl rfl) trivial ?_
  refine zAs rfl rfl rfl rfl rfl (zGK hl0 rfl rfl rfl rfl rfl rfl rfl) trivial ?_
  refine zFG (off := 3) (sz := 4) rfl rfl rfl rfl rfl rfl rfl hl0 rfl hc2 rfl ?_
  refine zAs rfl rfl rfl rfl rfl rfl trivial ?_
  refine zAs rfl rfl rfl rfl rfl rfl trivial ?_
  show Tri _ _ _ _
  refine zAp (zAJ (X := Unit) (fun _ => ⟨ofL [(1, .op n 0), (2, .op (n + 1) 0), (3, .orow nx), (48, .s (.int .i64 0)), (49, .s (.int .i64 0))], H2, nx + 1⟩) (fun _ => True) (fun _ => 0) () trivial (Le.forget [(1, .op n 0), (2, .op (n + 1) 0), (3, .orow nx), (48, .s (.int .i64 0)), (49, .s (.int .i64 0))] ⟨rfl, rfl, rfl, rfl, rfl, trivial⟩) ?_)
  rintro ⟨⟩ _
  refine zAb ?_
  refine zAa (by exact tokW) (by exact gok) [] [] rfl ?_
  refine zAs rfl rfl rfl rfl rfl rfl trivial ?_
  show Tri _ _ _ _
  refine zAb ?_
  refine zAe rfl (fun hb => by cases hb) (fun hb => ?_)
  refine zAL ?_
  obtain ⟨keys2, hz1, hz2⟩ := fin (zCN k1 tx1 c1 (.s (.sl 4 []))) H2 nx (nx + 1) [] [] 0
   (fun k h1 h2 => (hH2 k).trans (zIC hl0 (g2 k (by omega) h1) (g2 _ hbl.1 hbl.2.1)))
   (by rw [List.append_nil]; exact (hH2 nx).trans ((zCq (Ne.symm hbl.1)).trans g1))
   (by simp only [At]; exact ⟨.s (.sl 4 []), hc2, .inr (.inl (by simp))⟩) (by simp) (fun k hk => by cases hk) (Nat.le_refl _) (Nat.lt_succ_self _) (by simp [Nd.cnt])
  exact ⟨(H2, nx, nx + 1, S' ++ [], keys2, w1 + 0), hz1, Le.forget [(1, .op n 0), (2, .op (n + 1) 0), (3, .orow nx)] ⟨rfl, rfl, rfl, trivial⟩, hz2⟩
 ·have hm : 0 < ks1.length := by
   have := of_decide_eq_true hb
   rw [Nd.encs_eq, List.length_map] at this
   omega
  have hkl : ks1.length < 1000000000 := by
   have h1 := Nd.cnts_len ks1
   have h2 := hwl.2
   simp only [Nd.cnt] at hw hcnt h2
   omega
  have hel : (Nd.encs ks1).length = ks1.length := by rw [Nd.encs_eq, List.length_map]
  refine zAm (Le.forget [(1, .op n 0), (2, .op (n + 1) 0), (3, .orow nx), (4, p), (5, .s (.sl 4 (Nd.encs ks1)))] ⟨rfl, rfl, rfl, rfl, rfl, trivial⟩) ?_
  refine zAa (by exact tokW) (by exact gok) [35] [] rfl ?_
  refine zAs rfl rfl rfl rfl rfl (zF7 hl0 (.inr rfl) rfl rfl) trivial ?_
  refine zAs rfl rfl rfl rfl rfl rfl trivial ?_
  refine zAs rfl rfl rfl rfl rfl rfl trivial ?_
  refine zAs rfl rfl rfl rfl rfl (zU4 rfl rfl rfl rfl rfl rfl rfl rfl rfl) (show 0 ≤ _ ∧ _ from ⟨Int.natCast_nonneg _, Int.le_refl _, show (((Nd.encs ks1).length : Nat) : Int) * ((56 : Nat) : Int) ≤ 281474976710656 by omega, show (((Nd.encs ks1).length : Nat) : Int) ≤ 281474976710656 by omega⟩) ?_
  refine zAs rfl rfl rfl rfl rfl (zGL hl0 rfl rfl) trivial ?_
  refine zAs rfl rfl rfl rfl rfl (zGK hl0 rfl rfl rfl rfl rfl rfl rfl) trivial ?_
  have hbn : zBI p ≠ nx + 1 := by have := hbl.2.2.2; omega
  refine zN3 (off := 3) (sz := 4) (c := .orow (nx + 1)) rfl rfl rfl rfl rfl hl0 rfl ((zCI hl0 (by show (bif Nat.beq (zBI p) (nx + 1) then _ else H2 (zBI p)) = _; rw [zDR hbn]; rfl)).trans hc2) rfl (by decide) rfl rfl (decide_eq_true (Nat.lt_succ_self _)) ?_
  show Tri _ _ _ _
  refine zKU [(1, .op n 0), (2, .op (n + 1) 0), (3, .orow nx), (4, p), (5, .s (.sl 4 (Nd.encs ks1)))] (nx + 2) ⟨rfl, rfl, rfl, rfl, rfl, trivial⟩ rfl fun H3 hH3 => ?_
  have hH3 : ∀ k, H3 k = putC (fun k => bif Nat.beq k (nx + 1) then some (.row 24 4 (List.replicate (((Nd.encs ks1).length : Int)).toNat [.int .i64 0, .str [], .int .i64 0, .sl 4 []])) else H2 k) p (zCN k1 tx1 c1 (.orow (nx + 1))) k := hH3
  have a1 : H3 (nx + 1) = some (.row 24 4 (List.replicate (((Nd.encs ks1).length : Int)).toNat [.int .i64 0, .str [], .int .i64 0, .sl 4 []])) := (hH3 _).trans ((zCq (Ne.symm hbn)).trans (by simp only [Nat.beq_refl, cond_true]))
  have a2 : ∀ k, k ≠ nx + 1 → H3 k = putC H2 p (zCN k1 tx1 c1 (.orow (nx + 1))) k := fun k hk => (hH3 k).trans (zIC hl0 (by simp only [zDR hk, cond_false]) (by simp only [zDR hbn, cond_false]))
  have hc3 : zBc H3 p = some (zCN k1 tx1 c1 (.orow (nx + 1))) := (zCI hl0 (a2 _ hbn)).trans (zJ8 hl0 hc2)
  refine zAm (Le.toA (nx + 1) a1) ?_
  refine zAb ?_
  refine zAa (by exact tokW) (by exact gok) [] [] rfl ?_
  refine zAs rfl rfl rfl rfl rfl (zF7 hl0 (.inr rfl) rfl rfl) trivial ?_
  refine zAs rfl rfl rfl rfl rfl (zGL hl0 rfl rfl) trivial ?_
  refine zAs rfl rfl rfl rfl rfl (zGK hl0 rfl rfl rfl rfl rfl rfl rfl) trivial ?_
  refine zFG (off := 3) (sz := 4) rfl rfl rfl rfl rfl rfl rfl hl0 rfl ((zCI hl0 (upd_ne hbn)).trans hc3) rfl ?_
  refine zAs rfl rfl rfl rfl rfl rfl trivial ?_
  refine zAs rfl rfl rfl rfl rfl (zTB rfl rfl rfl rfl rfl rfl rfl rfl rfl zSC rfl rfl) (show (List.map _ _).length = List.length _ by simp) ?_
  show Tri _ _ _ _
  refine zKU [(1, .op n 0), (2, .op (n + 1) 0), (3, .orow nx), (4, p), (5, .s (.sl 4 (Nd.encs ks1)))] (nx + 2) ⟨rfl, rfl, rfl, rfl, rfl, trivial⟩ rfl fun H4 hH4 => ?_
  have r1 : H4 (nx + 1) = some (.arow 24 4 ((Nd.encs ks1).map (·.map AV.s))) := (hH4 _).trans zSC
  have r2 : ∀ k, k ≠ nx + 1 → H4 k = H3 k := fun k hk => (hH4 k).trans ((upd_ne hk).trans (upd_ne hk))
  clear hH4
  have hc4 : zBc H4 p = some (zCN k1 tx1 c1 (.orow (nx + 1))) := (zCI hl0 (r2 _ hbn)).trans hc3
  refine zAb ?_
  refine zAa (by exact tokW) (by exact gok) [] [] rfl ?_
  refine zAs rfl rfl rfl rfl rfl (zF7 hl0 (.inr rfl) rfl rfl) trivial ?_
  refine zAs rfl rfl rfl rfl rfl (zGL hl0 rfl rfl) trivial ?_
  refine zAs rfl rfl rfl rfl rfl (zGK hl0 rfl rfl rfl rfl rfl rfl rfl) trivial ?_
  refine zFG (off := 3) (sz := 4) rfl rfl rfl rfl rfl rfl rfl hl0 rfl hc4 rfl ?_
  refine zAs rfl rfl rfl rfl rfl (zNb rfl rfl rfl rfl rfl r1) trivial ?_
  refine zAs rfl rfl rfl rfl rfl rfl trivial ?_
  show Tri _ _ _ _
  have hlen4 : ((Nd.encs ks1).map (·.map AV.s)).length = ks1.length := by rw [List.length_map, hel]
  refine zAp (zAJ (X := (Nat → Option Ob) × Nat × Nat × Nat) (fun y => match y with | (Hj, lsj, nxj, j) => ⟨ofL [(1, .op n 0), (2, .op (n + 1) 0), (3, .orow lsj), (4, p), (48, .s (.int .i64 (ks1.length : Int))), (49, .s (.int .i64 (j : Int)))], Hj, nxj⟩)
   (fun y => match y with | (Hj, lsj, nxj, j) => j ≤ ks1.length ∧ (∀ k, k ≠ nx → k < nx + 2 → Hj k = H4 k) ∧ Hj lsj = some (.arow 78 1 ((S' ++ locs (nx + 1) 0 j).map fun p => [p])) ∧ (lsj = nx ∨ nx + 2 ≤ lsj) ∧ lsj < nxj ∧ nx + 2 ≤ nxj) (fun y => match y with | (Hj, lsj, nxj, j) => ks1.length - j) (H4, nx, nx + 2, 0)
   ⟨Nat.zero_le _, fun k _ _ => rfl, by
    refine (r2 nx (by omega)).trans ((a2 nx (by omega)).trans ((zCq (Ne.symm hbl.1)).trans ((hH2 nx).trans ((zCq (Ne.symm hbl.1)).trans (g1.trans ?_)))))
    simp [locs], .inl rfl, by omega, Nat.le_refl _⟩
   (Le.forget [(1, .op n 0), (2, .op (n + 1) 0), (3, .orow nx), (4, p), (48, .s (.int .i64 (ks1.length : Int))), (49, .s (.int .i64 ((0 : Nat) : Int)))] ⟨rfl, rfl, rfl, rfl, congrArg (fun m : Nat => AV.s (.int .i64 (m : Int))) hlen4, rfl, trivial⟩) ?_)
  rintro ⟨Hj, lsj, nxj, j⟩ ⟨i1, i2, i3, i4, i5, i6⟩
  have hbj : zBI p ≠ nx ∧ zBI p < nx + 2 := ⟨hbl.1, by have := hbl.2.2.2; omega⟩
  have hcj : zBc Hj p = some (zCN k1 tx1 c1 (.orow (nx + 1))) := (zCI hl0 (i2 _ hbj.1 hbj.2)).trans hc4
  have hrj : Hj (nx + 1) = some (.arow 24 4 ((Nd.encs ks1).map (·.map AV.s))) := (i2 (nx + 1) (by omega) (by omega)).trans r1
  refine zAb ?_
  refine zAa (by exact tokW) (by exact gok) [] [] rfl ?_
  refine zAs rfl rfl rfl rfl rfl rfl trivial ?_
  show Tri _ _ _ _
  refine zAb ?_
  refine zAe rfl (fun hb => ?_) (fun hb => ?_)
  ·refine zAg ?_
   show Tri _ _ _ _
   have hj : j < ks1.length := Int.ofNat_lt.1 (of_decide_eq_true hb)
   have hsl : ((S' ++ locs (nx + 1) 0 j).map fun p => [p]).length = S'.length + j := by simp [locs]
   refine zAm (Le.forget [(1, .op n 0), (2, .op (n + 1) 0), (3, .orow lsj), (4, p), (48, .s (.int .i64 (ks1.length : Int))), (49, .s (.int .i64 (j : Int)))] ⟨rfl, rfl, rfl, rfl, rfl, rfl, trivial⟩) ?_
   refine zAb ?_
   refine zAp ?_
   refine zAb ?_
   refine zAa (by exact tokW) (by exact gok) [] [] rfl ?_
   refine zAs rfl rfl rfl rfl rfl rfl trivial ?_
   refine zAs rfl rfl rfl rfl rfl rfl trivial ?_
   show Tri _ _ _ _
   refine zAa (by exact tokW) (by exact gok) [59, 60] [] rfl ?_
   refine zAs rfl rfl rfl rfl rfl rfl trivial ?_
   refine zAs rfl rfl rfl rfl rfl (zF7 hl0 (.inr rfl) rfl rfl) trivial ?_
   refine zAs rfl rfl rfl rfl rfl (zGL hl0 rfl rfl) trivial ?_
   refine zAs rfl rfl rfl rfl rfl (zGK hl0 rfl rfl rfl rfl rfl rfl rfl) trivial ?_
   refine zFG (off := 3) (sz := 4) rfl rfl rfl rfl rfl rfl rfl hl0 rfl hcj rfl ?_
   refine zAs rfl rfl rfl rfl rfl rfl trivial ?_
   refine zAs rfl rfl rfl rfl rfl (zSq rfl rfl rfl rfl rfl rfl hrj rfl) ⟨Int.natCast_nonneg _, Int.ofNat_lt.2 (by rw [hlen4]; exact hj)⟩ ?_
   rw [Int.toNat_natCast]
   refine zAs rfl rfl rfl rfl rfl rfl trivial ?_
   refine zAs rfl rfl rfl rfl rfl (zUr (rows := (S' ++ locs (nx + 1) 0 j).map fun p => [p]) (rows2 := [[.rp (nx + 1) 4 j 0]]) rfl rfl rfl rfl rfl rfl rfl rfl rfl (by show (bif Nat.beq lsj nxj then _ else Hj lsj) = _; rw [zDR (by omega)]; exact i3) (by show (bif Nat.beq nxj nxj then _ else Hj nxj) = _; rw [Nat.beq_refl]; rfl) rfl rfl rfl) (show (((S' ++ locs (nx + 1) 0 j).map fun p => [p]).length + 1) * 8 ≤ 140737488355328 ∧ ((S' ++ locs (nx + 1) 0 j).map fun p => [p]).length + 1 ≤ 9223372036854775807 by rw [hsl]; omega) ?_
   refine zAs rfl rfl rfl rfl rfl rfl trivial ?_
   show Tri _ _ _ _
   refine zKU [(1, .op n 0), (2, .op (n + 1) 0), (3, .orow (nxj + 1)), (4, p), (48, .s (.int .i64 (ks1.length : Int))), (49, .s (.int .i64 (j : Int)))] (nxj + 2) ⟨rfl, rfl, rfl, rfl, rfl, rfl, trivial⟩ rfl fun H5 hH5 => ?_
   have e1 : H5 (nxj + 1) = some (.arow 78 1 ((S' ++ locs (nx + 1) 0 (j + 1)).map fun p => [p])) := (hH5 _).trans (by
    show (bif Nat.beq (nxj + 1) (nxj + 1) then some (Ob.arow 78 1 (((S' ++ locs (nx + 1) 0 j).map fun p => [p]) ++ [[.rp (nx + 1) 4 j 0]])) else _) = _
    rw [Nat.beq_refl, cond_true, zRL]
    simp)
   have e2 : ∀ k, k ≠ nxj + 1 → k ≠ lsj → k ≠ nxj → H5 k = Hj k := fun k h1 h2 h3 => (hH5 k).trans (by
    show (bif Nat.beq k (nxj + 1) then _ else bif Nat.beq k lsj then none else bif Nat.beq k nxj then _ else Hj k) = _
    rw [zDR h1, zDR h2, zDR h3]; rfl)
   clear hH5
   refine zAa (by exact tokW) (by exact gok) [] [] rfl ?_
   refine zAs rfl rfl rfl rfl rfl rfl trivial ?_
   refine zAs rfl rfl rfl rfl rfl rfl trivial ?_
   exact ⟨(H5, nxj + 1, nxj + 2, j + 1), ⟨hj, fun k h1 h2 => (e2 k (by omega) (by omega) (by omega)).trans (i2 k h1 h2), e1, .inr (by omega), by omega, by omega⟩,
    Le.forget [(1, .op n 0), (2, .op (n + 1) 0), (3, .orow (nxj + 1)), (4, p), (48, .s (.int .i64 (ks1.length : Int))), (49, .s (.int .i64 ((j + 1 : Nat) : Int)))] ⟨rfl, rfl, rfl, rfl, rfl, congrArg (fun z => AV.s (.int .i64 z)) (zAX (by omega)), trivial⟩, by show ks1.length - (j + 1) < ks1.length - j; omega⟩
  ·refine zAL ?_
   have hj : j = ks1.length := by
    have := of_decide_eq_false hb
    omega
   subst hj
   obtain ⟨keys2, hz1, hz2⟩ := fin (zCN k1 tx1 c1 (.orow (nx + 1))) Hj lsj nxj [nx + 1] (locs (nx + 1) 0 ks1.length) (Nd.cnts ks1)
    (fun k h1 h2 => (i2 k (by omega) (by omega)).trans ((r2 k (by omega)).trans ((a2 k (by omega)).trans (zQ6 hl0 hcell ((hH2 _).trans (zIC hl0 (g2 _ hbl.1 hbl.2.1) (g2 _ hbl.1 hbl.2.1))) fun hk => (hH2 k).trans ((zCq hk).trans (g2 k (by omega) h1))))))
    i3 (by simp only [At]; exact ⟨.orow (nx + 1), hcj, .inr (.inr ⟨nx + 1, _, [], rfl, hrj, hlen4, rfl, LAt.copied hrj⟩)⟩) (by simp) (fun k hk => by
     have := List.mem_singleton.1 hk
     omega) (by omega) i5 (by simp [Nd.cnt])
   exact ⟨(Hj, lsj, nxj, S' ++ locs (nx + 1) 0 ks1.length, keys2, w1 + Nd.cnts ks1), hz1, Le.forget [(1, .op n 0), (2, .op (n + 1) 0), (3, .orow lsj)] ⟨rfl, rfl, rfl, trivial⟩, hz2⟩
def zPc (xs : List AV) (r : Ret) : Prop := ∃ (a0 : Nd) (y0 : Nd), zHy a0 = some y0 ∧ xs = [.agg ((Nd.enc a0).map .s)] ∧ r = .val (.agg ((Nd.enc y0).map .s))
def zJN : zAy := zAI fun xs r => zPc xs r
theorem zOq : PSound Tryz.prog 88 zJN :=
 PSound.giveAll zMG fun xs r h => by
  obtain ⟨⟨k, t, c, ks⟩, y, hm, rfl, rfl⟩ := h
  obtain ⟨hq, hm⟩ := zAN hm
  obtain rfl := Option.some.inj hm
  refine ⟨_, rfl, rfl, k, c, t, ks, hq, rfl, fun v hp' n' keys _ _ hv _ _ => ?_⟩
  refine zTo (t := .mk k t c ks) (RdC.node ?_)
  rcases hv with ⟨rfl, rfl, _⟩ | ⟨q, rows, keys', w, rfl, hq, hlen, rfl, h⟩
  ·exact .s _
  ·exact Rd.rows hq hlen fun j x hj => (by have := LAt.rd h j x hj; rwa [Nat.zero_add] at this)
end Go.Proofs.YtgfneloodabafaaGreatDoor
namespace Go.Proofs
open Go.RowKit Go.Lib
theorem Tryz.Grow_nil_sint (w : World) :
  Calls Tryz.prog 90 #[.slice none 0 0, .int .i64 0] w fun e w' => e = .returned (.slice none 0 0) ∧ w' = w := by
 have h2 : wrap64 0 = 0 := by unfold wrap64; omega
 go_enter Tryz.func90, Tryz.ntmps90
 go_wp2
 go_ret
 exact ⟨rfl, rfl⟩
set_option maxHeartbeats 4000000 in
theorem Tryz.Grow_new_sint (i0 : TypeInfo) (z : Value) (hi0 : Tryz.prog.info? 3 = some i0) (hz0 : i0.zero = some z) (hs0 : 0 < i0.size)
  (n : Nat) (w : World) (hroom : 0 < n) (hbig : n * i0.bytes ≤ 140737488355328) (h63 : n ≤ 4611686018427387904) :
  Calls Tryz.prog 90 #[.slice none 0 0, .int .i64 n] w fun e w' =>
   e = .returned (.slice (some ⟨w.heap.size, 0, none⟩) 0 (grownCap w n 0 3)) ∧
   w' = w.drew.alloc (.cells (#[] ++ Builtin.zeroCells z.cells n ++ Builtin.zeroCells z.cells (grownCap w n 0 3 - n)) 3) := by
 have h1 : ¬ ((n : Int) < 0) := by omega
 have h2 : wrap64 0 = 0 := by unfold wrap64; omega
 have h3 : wrap64 (n : Int) = (n : Int) := by unfold wrap64; omega
 have h4 : (n : Int) > 0 := by omega
 have hold : (Builtin.firstCells i0.size 0 (.slice none 0 0)).run Tryz.prog w.drew = .ok ([] : List Value).toArray w.drew := run_firstCells_none w.drew i0.size 0 0 0
 have hrz : ∀ ty, (Builtin.append_ #[33, 3] ty #[.slice none 0 0, .int .i64 (n : Int)]).run Tryz.prog w =
   .ok (.slice (some ⟨w.heap.size, 0, none⟩) n (grownCap w n 0 3)) (w.drew.alloc (.cells (#[] ++ Builtin.zeroCells z.cells n ++ Builtin.zeroCells z.cells (grownCap w n 0 3 - n)) 3)) := fun ty => by
  have h := Lib.run_append_grow_zeros w 33 3 ty 3 i0 z .i64 .i64 Tryz.underlying33 Tryz.underlying3 hi0 hz0 none 0 0 [] hold n (by omega) hs0 (by omega) (by omega) (by omega)
   (by rw [Nat.zero_add]; exact growslice_fits hroom hbig)
  rw [Nat.zero_add] at h
  exact h
 have hGn : n ≤ grownCap w n 0 3 := grownCap_ge w _ _ _
 obtain ⟨G, hG⟩ : ∃ G, G = grownCap w n 0 3 := ⟨_, rfl⟩
 rw [← hG] at hrz hGn ⊢
 have hG63 : G ≤ 9223372036854775807 := by
  have := grownCap_le_maxLen w n 0 3 (by unfold maxLen; omega)
  rw [← hG] at this
  unfold maxLen at this
  omega
 clear hold hG
 go_enter Tryz.func90, Tryz.ntmps90
 go_wp2_with (at_builtin; refine Lib.wpList_append_run _ rfl _ _ _ _ rfl _ _ rfl rfl _ _ (hrz _) ?_)
 all_goals (go_ret; exact ⟨rfl, rfl⟩)
end Go.Proofs
namespace Go.Proofs.YtgfneloodabafaaGreatDoor
open Go.Abs
theorem zUy (z : Array Value) (n : Nat) : (Builtin.zeroCells z n).size = n * z.size := by simp [Builtin.zeroCells]
def zHL (xs : List AV) (r : Ret) : Prop := ∃ (a0 : Int) (y0 : List Int), zCM a0 = some y0 ∧ xs = [.nl 1, .s (.int .i64 a0)] ∧ r = .row 3 1 ((List.map (irow .i64)) y0)
def zFa : zAy := zU3 fun xs r => zHL xs r
theorem zHD : PSound Tryz.prog 90 zFa :=
 ⟨Tryz.call90, fun G w xs vs r hl hg _ hv ⟨a0, y0, hm, hx, hr⟩ => by
  subst hx; subst hr
  obtain ⟨⟨q1, q2⟩, hm⟩ := zAN hm
  obtain rfl := Option.some.inj hm
  obtain ⟨n, rfl⟩ := Int.eq_ofNat_of_zero_le q1
  simp only [AVals, AVal, Rep] at hv
  obtain ⟨_, _, rfl, rfl, _, _, rfl, rfl, rfl⟩ := hv
  by_cases h0 : n = 0
  ·subst h0
   exact (Tryz.Grow_nil_sint w).mono fun e w' ⟨h1, h2⟩ => by
    subst h2
    exact ⟨_, G, h1, Ext.refl hl, fun r hr => (by cases hr), by decide, .inl ⟨rfl, rfl⟩⟩
  obtain ⟨d, info, z, b1, b2, b3, b4, b5, b6, b7, b8, b9, b10⟩ := tokW 3 _ rfl
  have i1 : info.size = 1 := b4
  have i2 : info.bytes = 8 := b5
  have hzs : z.cells.size = 1 := zIn b7 b8 b9
  refine (Tryz.Grow_new_sint info z b3 b6 (by omega) n w (by omega) (by rw [i2]; omega) (by omega)).mono fun e w' ⟨h1, h2⟩ => ?_
  have hge : n ≤ grownCap w n 0 3 := by unfold grownCap Question.cut; simp
  generalize grownCap w n 0 3 = g at *
  refine ⟨_, G, h1, ?_, fun r hr => (by cases hr), by decide, .inr ⟨w.heap.size, g, #[] ++ Builtin.zeroCells z.cells n ++ Builtin.zeroCells z.cells (g - n), rfl, Nat.zero_le _, ?_, by rw [h2]; exact zC2 w.drew _, fun h => Nat.lt_irrefl _ (hl _ h), Nat.le_refl _, fun i s hi => by cases hi⟩⟩
  ·rw [h2]
   exact (Ext.drew hl).trans (Ext.own (w := w.drew) hl _)
  ·simp only [Array.size_append, Array.size_empty, zUy, hzs]
   omega,
 fun R hR => (by cases hR), fun R hR => (by cases hR)⟩
def zHl (xs : List AV) (r : Ret) : Prop := ∃ (a0 : List Int) (y0 : List Int), zDu a0 = some y0 ∧ xs = [.s (.sl 1 ((List.map (irow .i64)) a0))] ∧ r = .val (.s (.sl 1 ((List.map (irow .i64)) y0)))
def zEN : zAy := zAI fun xs r => zHl xs r
theorem zGZ : PSound Tryz.prog 102 zEN := by
 have gok : ∀ (f : Nat) (s : zAy), (fun _ => none : Nat → Option zAy) f = some s → PSound Tryz.prog f s := fun _ _ h => by cases h
 refine zAM tokW Tryz.call102 Tryz.func102 rfl (fun xs r h => by obtain ⟨_, _, _, rfl, _⟩ := h; show 1 ≤ _; decide) _ rfl ?_
 rintro xs r w0 G0 ⟨l, y, h, rfl, rfl⟩ _
 obtain ⟨hq, h⟩ := zAN h
 obtain rfl := Option.some.inj h
 have hlen : ((List.map (irow .i64)) l).length = l.length := rlen (fun _ => rfl) l
 refine zAb ?_
 refine zAa (by exact tokW) (by exact gok) [] [] rfl ?_
 show Tri _ _ _ _
 refine zAb ?_
 refine zAb ?_
 refine zAa (by exact tokW) (by exact gok) [] [] rfl ?_
 intro b hb
 show Tri _ _ _ _
 cases b with
 | true =>
  have hl := hb rfl
  refine zAe rfl (fun _ => ?_) (fun h => by cases h)
  refine zAb ?_
  refine zAa (by exact tokW) (by exact gok) [] [] rfl ?_
  show Tri _ _ _ _
  refine zAi ?_
  unfold zAG
  exact ⟨_, Le.refl _ _, congrArg (fun z => some (AV.s (.sl 1 z))) hl.symm, rfl⟩
 | false =>
  refine zAe rfl (fun h => by cases h) (fun _ => ?_)
  refine zAg ?_
  show Tri _ _ _ _
  refine zAb ?_
  refine zAa (by exact tokW) (by exact gok) [5, 7] [] rfl ?_
  refine And.intro (show (([] : List (List S)).length + ((List.map (irow .i64)) l).length) * 8 ≤ 140737488355328 ∧ ([] : List (List S)).length + ((List.map (irow .i64)) l).length ≤ 9223372036854775807 from by rw [hlen]; simp only [List.length_nil]; omega) ?_
  show Tri _ _ _ _
  refine zAi ?_
  unfold zAG
  exact ⟨_, Le.giveRow 1 (e := 3) (sz := 1) (rows := (List.map (irow .i64)) l) rfl, rfl, rfl⟩
end Go.Proofs.YtgfneloodabafaaGreatDoor
namespace Go.Proofs.YtgfneloodabafaaGreatDoor
open Go.Abs
def zEV : (List Int) → Option (List Int)
| l1 =>
 (zDu l1).bind fun y2 =>
 some y2
def zBZ (l1 : List Nd) : Nat → Int → (List Nd) → Option ((List Nd))
| 0, _, _ => none
| k+1, x4, l5 =>
 bif decide (x4 < (l1.length : Int)) then (
  (at? l1 x4).bind fun ⟨e7_kind, e7_text, e7_cols, e7_kids⟩ =>
  (zHy (Nd.mk e7_kind e7_text e7_cols e7_kids)).bind fun ⟨y9_kind, y9_text, y9_cols, y9_kids⟩ =>
  req (l5.length + [Nd.mk y9_kind y9_text y9_cols y9_kids].length ≤ 4294967296) <|
  zBZ l1 k (IntKind.i64.wrap (x4 + 1)) (l5 ++ [Nd.mk y9_kind y9_text y9_cols y9_kids])
 ) else (
  some l5
 )
def zBF (n : Nat) : (List Nd) → Option (List Nd)
| l1 =>
 (zBZ l1 n 0 []).bind fun l6 =>
 some l6
end Go.Proofs.YtgfneloodabafaaGreatDoor
namespace Go.Proofs.YtgfneloodabafaaGreatDoor
open Go.Abs
def zCG (s1 : List UInt8) : Nat → Int → (List Nd) → Option ((List Nd))
| 0, _, _ => none
| k+1, i4, l5 =>
 bif decide (i4 < (s1.length : Int)) then (
  req (0 ≤ i4 ∧ i4 ≤ IntKind.i64.wrap (i4 + 1) ∧ IntKind.i64.wrap (i4 + 1) ≤ (s1.length : Int)) <|
  req (l5.length + [Nd.mk 2 ((s1.take (IntKind.i64.wrap (i4 + 1)).toNat).drop i4.toNat) 0 []].length ≤ 4294967296) <|
  zCG s1 k (IntKind.i64.wrap (i4 + 1)) (l5 ++ [Nd.mk 2 ((s1.take (IntKind.i64.wrap (i4 + 1)).toNat).drop i4.toNat) 0 []])
 ) else (
  some l5
 )
def zC5 (n : Nat) : (List UInt8) → Option Nd
| s1 =>
 (zCG s1 n 0 []).bind fun l6 =>
 some (Nd.mk 1 [] 0 l6)
def zBm (base1 : List Nd) : Nat → Int → (List Int) → Option ((List Int))
| 0, _, _ => none
| k+1, x7, l8 =>
 bif decide (x7 < ((List.replicate (base1.length : Int).toNat 0 : List Int).length : Int)) then (
  (at? l8 x7).bind fun e10 =>
  zBm base1 k (IntKind.i64.wrap (x7 + 1)) (l8.set x7.toNat (-1))
 ) else (
  some l8
 )
def zBn (y3 : List (Int × Int)) : Nat → Int → (List Int) → Option ((List Int))
| 0, _, _ => none
| k+1, x13, l14 =>
 bif decide (x13 < (y3.length : Int)) then (
  (at? y3 x13).bind fun ⟨e16_0, e16_1⟩ =>
  (at? l14 e16_0).bind fun e18 =>
  zBn y3 k (IntKind.i64.wrap (x13 + 1)) (l14.set e16_0.toNat e16_1)
 ) else (
  some l14
 )
def zB8 (n : Nat) : (List Nd) → (List Nd) → Option (List Int)
| base1, other2 =>
 (zD9 n (Nd.mk 1 [] 0 base1) (Nd.mk 1 [] 0 other2)).bind fun ⟨y3, y4⟩ =>
 req (0 ≤ (base1.length : Int) ∧ (base1.length : Int) ≤ 4294967296) <|
 (zBm base1 n 0 (List.replicate (base1.length : Int).toNat 0)).bind fun l9 =>
 (zBn y3 n 0 l9).bind fun l15 =>
 some l15
def zCT (n : Nat) : (List Nd) → (List Nd) → Option Bool
| a1, b2 =>
 (zA3 n a1 b2).bind fun y3 =>
 some y3
def zBh (n : Nat) : (Int × List (List Int × Int × Int × List Nd × List Nd)) → (List Int) → Int → (List Nd × List Nd × List Nd) → Option ((List Nd) × (Int × List (List Int × Int × Int × List Nd × List Nd)))
| ⟨o1_take, o1_conflicts⟩, path2, from3, ⟨part4_0, part4_1, part4_2⟩ =>
 (zEV path2).bind fun y5 =>
 (zBF n part4_1).bind fun y7 =>
 (zBF n part4_2).bind fun y8 =>
 req (o1_conflicts.length + [(y5, from3, IntKind.i64.wrap (from3 + (part4_0.length : Int)), y7, y8)].length ≤ 4294967296) <|
 bif (o1_take == 0) then (
  (zBF n part4_0).bind fun y10 =>
  some (y10, (o1_take, o1_conflicts ++ [(y5, from3, IntKind.i64.wrap (from3 + (part4_0.length : Int)), y7, y8)]))
 ) else (
  bif (o1_take == 1) then (
   (zBF n part4_1).bind fun y11 =>
   some (y11, (o1_take, o1_conflicts ++ [(y5, from3, IntKind.i64.wrap (from3 + (part4_0.length : Int)), y7, y8)]))
  ) else (
   bif (o1_take == 2) then (
    (zBF n part4_2).bind fun y12 =>
    some (y12, (o1_take, o1_conflicts ++ [(y5, from3, IntKind.i64.wrap (from3 + (part4_0.length : Int)), y7, y8)]))
   ) else (
    none
   )
  )
 )
def zBl (n : Nat) : (Int × List (List Int × Int × Int × List Nd × List Nd)) → (List Int) → Int → (List Nd × List Nd × List Nd) → Option ((List Nd) × (Int × List (List Int × Int × Int × List Nd × List Nd)))
| ⟨o1_take, o1_conflicts⟩, path2, from3, ⟨part4_0, part4_1, part4_2⟩ =>
 (zCT n part4_1 part4_0).bind fun y5 =>
 bif y5 then (
  (zBF n part4_2).bind fun y6 =>
  some (y6, (o1_take, o1_conflicts))
 ) else (
  (
   (zCT n part4_2 part4_0).bind fun y8 =>
   bif y8 then (
    some true
   ) else (
    (zCT n part4_2 part4_1).bind fun y9 =>
    some y9
   )
   : Option (Bool)).bind fun x7 =>
  bif x7 then (
   (zBF n part4_1).bind fun y10 =>
   some (y10, (o1_take, o1_conflicts))
  ) else (
   (zBh n (o1_take, o1_conflicts) path2 from3 (part4_0, part4_1, part4_2)).bind fun ⟨y11, ⟨w12_take, w12_conflicts⟩⟩ =>
   some (y11, (w12_take, w12_conflicts))
  )
 )
def zAS (slices1 : List (List Int)) : Nat → Int → Int → Option (Int)
| 0, _, _ => none
| k+1, x3, size4 =>
 bif decide (x3 < (slices1.length : Int)) then (
  (at? slices1 x3).bind fun e6 =>
  bif decide ((IntKind.i64.wrap (size4 + (e6.length : Int))) < 0) then (
   none
  ) else (
   zAS slices1 k (IntKind.i64.wrap (x3 + 1)) (IntKind.i64.wrap (size4 + (e6.length : Int)))
  )
 ) else (
  some size4
 )
def zAT (slices1 : List (List Int)) : Nat → Int → (List Int) → Option ((List Int))
| 0, _, _ => none
| k+1, x11, l13 =>
 bif decide (x11 < (slices1.length : Int)) then (
  (at? slices1 x11).bind fun e15 =>
  req (l13.length + e15.length ≤ 4294967296) <|
  zAT slices1 k (IntKind.i64.wrap (x11 + 1)) (l13 ++ e15)
 ) else (
  some l13
 )
def zBM (n : Nat) : (List (List Int)) → Option (List Int)
| slices1 =>
 (zAS slices1 n 0 0).bind fun size5 =>
 (zCM size5).bind fun y9 =>
 (zAT slices1 n 0 y9).bind fun l14 =>
 some l14
def zA0 (F_merge_merger_row : (Int × List (List Int × Int × Int × List Nd × List Nd)) → (List Int) → (List Nd) → (List Nd) → (List Nd) → Option ((List Nd) × (Int × List (List Int × Int × Int × List Nd × List Nd)))) (n : Nat) (a2 : List Int) (a3 : Int) (a4_kids : List Nd) (a5_kids : List Nd) (a6_kids : List Nd) : Nat → Int → Int → (List (List Int × Int × Int × List Nd × List Nd)) → (List Nd) → Option (Int × (List (List Int × Int × Int × List Nd × List Nd)) × (List Nd))
| 0, _, _, _, _ => none
| k+1, x15, x18, l19, l20 =>
 bif decide (x18 < (a4_kids.length : Int)) then (
  (zBM n [a2, [a3, x18]]).bind fun y26 =>
  (at? a4_kids x18).bind fun ⟨e27_kind, e27_text, e27_cols, e27_kids⟩ =>
  (at? a5_kids x18).bind fun ⟨e29_kind, e29_text, e29_cols, e29_kids⟩ =>
  (at? a6_kids x18).bind fun ⟨e31_kind, e31_text, e31_cols, e31_kids⟩ =>
  (F_merge_merger_row (x15, l19) y26 e27_kids e29_kids e31_kids).bind fun ⟨y33, ⟨w34_take, w34_conflicts⟩⟩ =>
  req (l20.length + [Nd.mk 1 [] 0 y33].length ≤ 4294967296) <|
  zA0 F_merge_merger_row n a2 a3 a4_kids a5_kids a6_kids k w34_take (IntKind.i64.wrap (x18 + 1)) w34_conflicts (l20 ++ [Nd.mk 1 [] 0 y33])
 ) else (
  some (x15, l19, l20)
 )
def zAZ (F_merge_merger_item : (Int × List (List Int × Int × Int × List Nd × List Nd)) → (List Int) → Int → Nd → Nd → Nd → Option ((List Nd) × (Int × List (List Int × Int × Int × List Nd × List Nd)))) (n : Nat) (a2 : List Int) (a3 : List Nd) (a4 : List Nd) (a5 : List Nd) (y6 : List Int) (y7 : List Int) : Nat → Int → Int → Int → Int → Int → (List (List Int × Int × Int × List Nd × List Nd)) → (List Nd) → Option (Int × Int × Int × Int × (List (List Int × Int × Int × List Nd × List Nd)) × (List Nd))
| 0, _, _, _, _, _, _, _ => none
| k+1, x9, x12, x13, x14, x15, l16, l17 =>
 bif decide (x15 < (a3.length : Int)) then (
  (
   (
    (at? y6 x15).bind fun e31 =>
    bif decide (e31 < 0) then (
     some true
    ) else (
     (at? y7 x15).bind fun e33 =>
     some (decide (e33 < 0))
    )
    : Option (Bool)).bind fun x30 =>
   bif x30 then (
    some (x12, x13, x14, x9, l16, l17)
   ) else (
    req (0 ≤ x12 ∧ x12 ≤ x15 ∧ x15 ≤ (a3.length : Int)) <|
    (at? y6 x15).bind fun e36 =>
    req (0 ≤ x13 ∧ x13 ≤ e36 ∧ e36 ≤ (a4.length : Int)) <|
    (at? y7 x15).bind fun e39 =>
    req (0 ≤ x14 ∧ x14 ≤ e39 ∧ e39 ≤ (a5.length : Int)) <|
    (zBl n (x9, l16) a2 x12 ((a3.take x15.toNat).drop x12.toNat, (a4.take e36.toNat).drop x13.toNat, (a5.take e39.toNat).drop x14.toNat)).bind fun ⟨y42, ⟨w43_take, w43_conflicts⟩⟩ =>
    req (l17.length + y42.length ≤ 4294967296) <|
    (at? a3 x15).bind fun ⟨e44_kind, e44_text, e44_cols, e44_kids⟩ =>
    (at? y6 x15).bind fun e46 =>
    (at? a4 e46).bind fun ⟨e48_kind, e48_text, e48_cols, e48_kids⟩ =>
    (at? y7 x15).bind fun e50 =>
    (at? a5 e50).bind fun ⟨e52_kind, e52_text, e52_cols, e52_kids⟩ =>
    (F_merge_merger_item (w43_take, w43_conflicts) a2 x15 (Nd.mk e44_kind e44_text e44_cols e44_kids) (Nd.mk e48_kind e48_text e48_cols e48_kids) (Nd.mk e52_kind e52_text e52_cols e52_kids)).bind fun ⟨y54, ⟨w55_take, w55_conflicts⟩⟩ =>
    req ((l17 ++ y42).length + y54.length ≤ 4294967296) <|
    (at? y6 x15).bind fun e56 =>
    (at? y7 x15).bind fun e58 =>
    some (IntKind.i64.wrap (x15 + 1), IntKind.i64.wrap (e56 + 1), IntKind.i64.wrap (e58 + 1), w55_take, w55_conflicts, (l17 ++ y42) ++ y54)
   )
   : Option (Int × Int × Int × Int × (List (List Int × Int × Int × List Nd × List Nd)) × (List Nd))).bind fun ⟨x24, x25, x26, x27, l28, l29⟩ =>
  zAZ F_merge_merger_item n a2 a3 a4 a5 y6 y7 k x27 x24 x25 x26 (IntKind.i64.wrap (x15 + 1)) l28 l29
 ) else (
  some (x12, x13, x14, x9, l16, l17)
 )
mutual
def zA9 : Nat → (Int × List (List Int × Int × Int × List Nd × List Nd)) → (List Int) → Int → Nd → Nd → Nd → Option ((List Nd) × (Int × List (List Int × Int × Int × List Nd × List Nd)))
| 0, _, _, _, _, _, _ => none
| n+1, ⟨o1_take, o1_conflicts⟩, a2, a3, ⟨a4_kind, a4_text, a4_cols, a4_kids⟩, ⟨a5_kind, a5_text, a5_cols, a5_kids⟩, ⟨a6_kind, a6_text, a6_cols, a6_kids⟩ =>
 (
  bif (a5_text == a4_text) then (
   some (.go a6_text)
  ) else (
   (
    bif (a6_text == a4_text) then (
     some true
    ) else (
     some (a6_text == a5_text)
    )
    : Option (Bool)).bind fun x8 =>
   bif x8 then (
    some (.go a5_text)
   ) else (
    (zBh n (o1_take, o1_conflicts) a2 a3 ([Nd.mk a4_kind a4_text a4_cols a4_kids], [Nd.mk a5_kind a5_text a5_cols a5_kids], [Nd.mk a6_kind a6_text a6_cols a6_kids])).bind fun ⟨y12, ⟨w13_take, w13_conflicts⟩⟩ =>
    some (.ret (y12, (w13_take, w13_conflicts)))
   )
  )
  : Option (Fl ((List Nd) × (Int × List (List Int × Int × Int × List Nd × List Nd))) ((List UInt8)))).bind fun fl => match fl with
 | .ret r => some r
 | .go x7 =>
  (zA0 (zAY n) n a2 a3 a4_kids a5_kids a6_kids n o1_take 0 o1_conflicts []).bind fun ⟨x21, l22, l23⟩ =>
  some ([Nd.mk a4_kind x7 a4_cols l23], (x21, l22))
def zAY : Nat → (Int × List (List Int × Int × Int × List Nd × List Nd)) → (List Int) → (List Nd) → (List Nd) → (List Nd) → Option ((List Nd) × (Int × List (List Int × Int × Int × List Nd × List Nd)))
| 0, _, _, _, _, _ => none
| n+1, ⟨o1_take, o1_conflicts⟩, a2, a3, a4, a5 =>
 (zB8 n a3 a4).bind fun y6 =>
 (zB8 n a3 a5).bind fun y7 =>
 (zAZ (zA9 n) n a2 a3 a4 a5 y6 y7 n o1_take 0 0 0 0 o1_conflicts []).bind fun ⟨x18, x19, x20, x21, l22, l23⟩ =>
 req (0 ≤ x18 ∧ x18 ≤ (a3.length : Int) ∧ (a3.length : Int) ≤ (a3.length : Int)) <|
 req (0 ≤ x19 ∧ x19 ≤ (a4.length : Int) ∧ (a4.length : Int) ≤ (a4.length : Int)) <|
 req (0 ≤ x20 ∧ x20 ≤ (a5.length : Int) ∧ (a5.length : Int) ≤ (a5.length : Int)) <|
 (zBl n (x21, l22) a2 x18 ((a3.take (a3.length : Int).toNat).drop x18.toNat, (a4.take (a4.length : Int).toNat).drop x19.toNat, (a5.take (a5.length : Int).toNat).drop x20.toNat)).bind fun ⟨y63, ⟨w64_take, w64_conflicts⟩⟩ =>
 req (l23.length + y63.length ≤ 4294967296) <|
 some (l23 ++ y63, (w64_take, w64_conflicts))
end
def zBz (n : Nat) : (Int × List (List Int × Int × Int × List Nd × List Nd)) → Nd → Nd → Nd → Option (Nd × Int × (Int × List (List Int × Int × Int × List Nd × List Nd)))
| ⟨o1_take, o1_conflicts⟩, ⟨base2_kind, base2_text, base2_cols, base2_kids⟩, ⟨x3_kind, x3_text, x3_cols, x3_kids⟩, ⟨y4_kind, y4_text, y4_cols, y4_kids⟩ =>
 (
  (zBR n (Nd.mk base2_kind base2_text base2_cols base2_kids)).bind fun y6 =>
  bif (!y6) then (
   some true
  ) else (
   (zBR n (Nd.mk x3_kind x3_text x3_cols x3_kids)).bind fun y7 =>
   bif (!y7) then (
    some true
   ) else (
    (zBR n (Nd.mk y4_kind y4_text y4_cols y4_kids)).bind fun y8 =>
    some (!y8)
   )
  )
  : Option (Bool)).bind fun x5 =>
 bif x5 then (
  some (Nd.mk 0 [] 0 [], 1, (o1_take, o1_conflicts))
 ) else (
  (zAY n (o1_take, o1_conflicts) [] base2_kids x3_kids y4_kids).bind fun ⟨y9, ⟨w10_take, w10_conflicts⟩⟩ =>
  (zBR n (Nd.mk 1 [] 0 y9)).bind fun y11 =>
  bif (!y11) then (
   some (Nd.mk 0 [] 0 [], 6, (w10_take, w10_conflicts))
  ) else (
   some (Nd.mk 1 [] 0 y9, 0, (w10_take, w10_conflicts))
  )
 )
def zBN (n : Nat) : Nd → Nd → Nd → Option (Nd × (List (List Int × Int × Int × List Nd × List Nd)) × Int)
| ⟨base1_kind, base1_text, base1_cols, base1_kids⟩, ⟨x2_kind, x2_text, x2_cols, x2_kids⟩, ⟨y3_kind, y3_text, y3_cols, y3_kids⟩ =>
 (zBz n (0, []) (Nd.mk base1_kind base1_text base1_cols base1_kids) (Nd.mk x2_kind x2_text x2_cols x2_kids) (Nd.mk y3_kind y3_text y3_cols y3_kids)).bind fun ⟨⟨y4_kind, y4_text, y4_cols, y4_kids⟩, y5, ⟨w6_take, w6_conflicts⟩⟩ =>
 bif (y5 != 0) then (
  some (Nd.mk 0 [] 0 [], [], y5)
 ) else (
  some (Nd.mk y4_kind y4_text y4_cols y4_kids, w6_conflicts, 0)
 )
def zF1 (n : Nat) : Option Bool
:=
 (zC5 n [97, 98]).bind fun ⟨y1_kind, y1_text, y1_cols, y1_kids⟩ =>
 (zC5 n [97, 99, 98]).bind fun ⟨y2_kind, y2_text, y2_cols, y2_kids⟩ =>
 (zC5 n [97, 98, 100]).bind fun ⟨y3_kind, y3_text, y3_cols, y3_kids⟩ =>
 (zBN n (Nd.mk y1_kind y1_text y1_cols y1_kids) (Nd.mk y2_kind y2_text y2_cols y2_kids) (Nd.mk y3_kind y3_text y3_cols y3_kids)).bind fun ⟨⟨y4_kind, y4_text, y4_cols, y4_kids⟩, y5, y6⟩ =>
 (
  bif (y6 == 0) then (
   bif ((y5.length : Int) == 0) then (
    (zC5 n [97, 99, 98, 100]).bind fun ⟨y9_kind, y9_text, y9_cols, y9_kids⟩ =>
    (zBo n (Nd.mk y4_kind y4_text y4_cols y4_kids) (Nd.mk y9_kind y9_text y9_cols y9_kids)).bind fun y10 =>
    some y10
   ) else (
    some false
   )
  ) else (
   some false
  )
  : Option (Bool)).bind fun x7 =>
 some x7
def zFK (n : Nat) : Nd → Nd → Nd → Option Bool
| ⟨a1_kind, a1_text, a1_cols, a1_kids⟩, ⟨b2_kind, b2_text, b2_cols, b2_kids⟩, ⟨c3_kind, c3_text, c3_cols, c3_kids⟩ =>
 (
  (zDK n (Nd.mk a1_kind a1_text a1_cols a1_kids) 100).bind fun y5 =>
  bif y5 then (
   (zDK n (Nd.mk b2_kind b2_text b2_cols b2_kids) 100).bind fun y6 =>
   bif y6 then (
    (zDK n (Nd.mk c3_kind c3_text c3_cols c3_kids) 100).bind fun y7 =>
    some y7
   ) else (
    some false
   )
  ) else (
   some false
  )
  : Option (Bool)).bind fun x4 =>
 some x4
end Go.Proofs.YtgfneloodabafaaGreatDoor
namespace Go.Proofs.YtgfneloodabafaaGreatDoor
open Go.Abs
def zC6 (n : Nat) : Nd → Nd → Nd → Option Bool
| ⟨base1_kind, base1_text, base1_cols, base1_kids⟩, ⟨x2_kind, x2_text, x2_cols, x2_kids⟩, ⟨y3_kind, y3_text, y3_cols, y3_kids⟩ =>
 (zBN n (Nd.mk base1_kind base1_text base1_cols base1_kids) (Nd.mk x2_kind x2_text x2_cols x2_kids) (Nd.mk y3_kind y3_text y3_cols y3_kids)).bind fun ⟨⟨y4_kind, y4_text, y4_cols, y4_kids⟩, y5, y6⟩ =>
 (
  bif (y6 == 0) then (
   some ((y5.length : Int) == 0)
  ) else (
   some false
  )
  : Option (Bool)).bind fun x7 =>
 some x7
def zB1 (l1 : List Int) (m2 : List Int) : Nat → Int → Option (Fl Bool Unit)
| 0, _ => none
| k+1, i5 =>
 bif decide (i5 < (m2.length : Int)) then (
  (at? l1 i5).bind fun e7 =>
  (at? m2 i5).bind fun e9 =>
  bif (e7 != e9) then (
   some (.ret false)
  ) else (
   zB1 l1 m2 k (IntKind.i64.wrap (i5 + 1))
  )
 ) else (
  some (.go ())
 )
def zCc (n : Nat) : (List Int) → (List Int) → Option Bool
| l1, m2 =>
 bif decide ((l1.length : Int) < (m2.length : Int)) then (
  some false
 ) else (
  (zB1 l1 m2 n 0).bind fun fl => match fl with
  | .ret r => some r
  | .go _ =>
   some true
 )
def zBf (n : Nat) (d1_path : List Int) (d1_ops : List (Int × List Int × Int × Int × List Nd × Int × List UInt8 × List UInt8)) : Nat → Int → Option (Fl Bool Unit)
| 0, _ => none
| k+1, i5 =>
 bif decide (i5 < (d1_ops.length : Int)) then (
  (
   (at? d1_ops i5).bind fun ⟨e8_kind, e8_row, e8_at, e8_n, e8_nodes, e8_slot, e8_old, e8_text⟩ =>
   (zGv n (e8_kind, e8_row, e8_at, e8_n, e8_nodes, e8_slot, e8_old, e8_text)).bind fun y10 =>
   bif (!y10) then (
    some true
   ) else (
    (at? d1_ops i5).bind fun ⟨e11_kind, e11_row, e11_at, e11_n, e11_nodes, e11_slot, e11_old, e11_text⟩ =>
    (zCc n e11_row d1_path).bind fun y13 =>
    some (!y13)
   )
   : Option (Bool)).bind fun x7 =>
  bif x7 then (
   some (.ret false)
  ) else (
   zBf n d1_path d1_ops k (IntKind.i64.wrap (i5 + 1))
  )
 ) else (
  some (.go ())
 )
def zBK (n : Nat) : (List Int × List (Int × List Int × Int × Int × List Nd × Int × List UInt8 × List UInt8)) → Option Bool
| ⟨d1_path, d1_ops⟩ =>
 (
  bif decide (6 < (d1_ops.length : Int)) then (
   some true
  ) else (
   some (decide (60 < (d1_path.length : Int)))
  )
  : Option (Bool)).bind fun x2 =>
 bif x2 then (
  some false
 ) else (
  (zBf n d1_path d1_ops n 0).bind fun fl => match fl with
  | .ret r => some r
  | .go _ =>
   some true
 )
def zDr (n : Nat) : Nd → (List Int × List (Int × List Int × Int × Int × List Nd × Int × List UInt8 × List UInt8)) → (List Int × List (Int × List Int × Int × Int × List Nd × Int × List UInt8 × List UInt8)) → Option Bool
| ⟨a1_kind, a1_text, a1_cols, a1_kids⟩, ⟨a2_path, a2_ops⟩, ⟨a3_path, a3_ops⟩ =>
 (zF1 n ).bind fun y4 =>
 bif (!y4) then (
  some false
 ) else (
  (
   (zDK n (Nd.mk a1_kind a1_text a1_cols a1_kids) 100).bind fun y6 =>
   bif (!y6) then (
    some true
   ) else (
    (zBK n (a2_path, a2_ops)).bind fun y7 =>
    bif (!y7) then (
     some true
    ) else (
     (zBK n (a3_path, a3_ops)).bind fun y8 =>
     bif (!y8) then (
      some true
     ) else (
      (zCc n a2_path a3_path).bind fun y9 =>
      bif y9 then (
       some true
      ) else (
       (zCc n a3_path a2_path).bind fun y10 =>
       some y10
      )
     )
    )
   )
   : Option (Bool)).bind fun x5 =>
  bif x5 then (
   some true
  ) else (
   (zBq n (Nd.mk a1_kind a1_text a1_cols a1_kids) a2_ops).bind fun ⟨⟨y11_kind, y11_text, y11_cols, y11_kids⟩, y12, y13⟩ =>
   (zBq n (Nd.mk a1_kind a1_text a1_cols a1_kids) a3_ops).bind fun ⟨⟨y14_kind, y14_text, y14_cols, y14_kids⟩, y15, y16⟩ =>
   (
    bif (y13 != 0) then (
     some true
    ) else (
     bif (y16 != 0) then (
      some true
     ) else (
      (zFK n (Nd.mk a1_kind a1_text a1_cols a1_kids) (Nd.mk y11_kind y11_text y11_cols y11_kids) (Nd.mk y14_kind y14_text y14_cols y14_kids)).bind fun y18 =>
      some (!y18)
     )
    )
    : Option (Bool)).bind fun x17 =>
   bif x17 then (
    some true
   ) else (
    (zBq n (Nd.mk y11_kind y11_text y11_cols y11_kids) a3_ops).bind fun ⟨⟨y19_kind, y19_text, y19_cols, y19_kids⟩, y20, y21⟩ =>
    bif (y21 != 0) then (
     some true
    ) else (
     (zBN n (Nd.mk a1_kind a1_text a1_cols a1_kids) (Nd.mk y11_kind y11_text y11_cols y11_kids) (Nd.mk y14_kind y14_text y14_cols y14_kids)).bind fun ⟨⟨y22_kind, y22_text, y22_cols, y22_kids⟩, y23, y24⟩ =>
     (
      bif (y24 == 0) then (
       bif ((y23.length : Int) == 0) then (
        (zBo n (Nd.mk y22_kind y22_text y22_cols y22_kids) (Nd.mk y19_kind y19_text y19_cols y19_kids)).bind fun y27 =>
        bif y27 then (
         (zC6 n (Nd.mk a1_kind a1_text a1_cols a1_kids) (Nd.mk y11_kind y11_text y11_cols y11_kids) (Nd.mk y14_kind y14_text y14_cols y14_kids)).bind fun y28 =>
         some y28
        ) else (
         some false
        )
       ) else (
        some false
       )
      ) else (
       some false
      )
      : Option (Bool)).bind fun x25 =>
     some x25
    )
   )
  )
 )
end Go.Proofs.YtgfneloodabafaaGreatDoor
namespace Go.Proofs.YtgfneloodabafaaGreatDoor
open Go.Abs
def zMg (n : Nat) (xs : List AV) (r : Ret) : Prop := ∃ (a0 : List UInt8) (y0 : Nd), zC5 n a0 = some y0 ∧ xs = [.s (.str a0)] ∧ r = .val (.agg ((Nd.enc y0).map .s))
def zHN : zAy := zAI fun xs r => ∃ n, zMg n xs r
theorem zLc : PSound Tryz.prog 19 zHN := by
 have gok : ∀ (f : Nat) (s : zAy), (fun _ => none : Nat → Option zAy) f = some s → PSound Tryz.prog f s := fun _ _ h => by cases h
 refine zAM tokW Tryz.call19 Tryz.func19 rfl (fun xs r h => by obtain ⟨n, _, _, _, rfl, _⟩ := h; show 1 ≤ 24; decide) 24 rfl ?_
 rintro xs r w0 G0 ⟨n, s1, y0, h, rfl, rfl⟩ _
 rw [zC5] at h
 refine zAb ?_
 refine zAa (by exact tokW) (by exact gok) [2] [] rfl ?_
 show Tri _ _ _ _
 refine zAb ?_
 refine zAa (by exact tokW) (by exact gok) [3] [] rfl ?_
 show Tri _ _ _ _
 refine zAb ?_
 refine zAb ?_
 refine zAa (by exact tokW) (by exact gok) [] [] rfl ?_
 show Tri _ _ _ _
 obtain ⟨l6, hl, h⟩ := zAc h
 refine zAq ⟨ofL [(2, .op 0 0), (3, .op 1 0)], ofH [(0, .box 24 [.s (.int .i64 0), .s (.str []), .s (.int .i64 0), .nl 4]), (1, .box 24 [.s (.int .i64 1), .s (.str []), .s (.int .i64 0), .orow 2]), (2, .row 24 4 (Nd.encs l6))], 3⟩ ?_ (fun σ' hle => ?_)
 ·refine zAp (zAJ (X := Nat × Int × (List Nd)) (fun y => match y with | (k, i4, l5) => ⟨ofL [(0, .s (.str s1)), (2, .op 0 0), (3, .op 1 0), (4, .s (.int .i64 i4))], ofH [(0, .box 24 [.s (.int .i64 0), .s (.str []), .s (.int .i64 0), .nl 4]), (1, .box 24 [.s (.int .i64 1), .s (.str []), .s (.int .i64 0), .orow 2]), (2, .row 24 4 (Nd.encs l5))], 3⟩) (fun y => zCG s1 y.1 y.2.1 y.2.2 = some l6) (fun y => y.1) (n, 0, []) hl ?_ ?_)
  ·exact (Le.trans (Le.trans (Le.rename [(0, 0), (1, 1)] [(0, .s (.str s1)), (2, .op 0 0), (3, .op 1 0), (4, .s (.int .i64 0))] [(0, .box 24 [.s (.int .i64 0), .s (.str []), .s (.int .i64 0), .nl 4]), (1, .box 24 [.s (.int .i64 1), .s (.str []), .s (.int .i64 0), .nl 4])] 2 ⟨rfl, rfl, rfl, rfl, trivial⟩ ⟨rfl, ⟨_, rfl, rfl⟩, rfl, ⟨_, rfl, rfl⟩, trivial⟩ rfl rfl rfl rfl rfl) (Le.takeNil 1 3 24 rfl rfl (by decide))) (Le.rename [(0, 0), (1, 1), (2, 2)] _ _ _ ⟨rfl, rfl, rfl, rfl, trivial⟩ ⟨rfl, ⟨_, rfl, rfl⟩, rfl, ⟨_, rfl, rfl⟩, rfl, ⟨_, rfl, congrArg (Ob.row 24 4) (by simp [List.map_append, List.map_take, List.map_drop, irow, brow, zAK, List.map_cons, List.map_nil, zAD, Nd.encs_eq, Nd.enc])⟩, trivial⟩ rfl rfl rfl rfl rfl))
  ·rintro ⟨k, i4, l5⟩ h
   cases k with
   | zero => cases h
   | succ k =>
    replace h : zCG s1 (k+1) i4 l5 = some l6 := h
    rw [zCG] at h
    refine zAb ?_
    refine zAb ?_
    refine zAa (by exact tokW) (by exact gok) [] [] rfl ?_
    show Tri _ _ _ _
    refine zAe rfl (fun hb => ?_) (fun hb => ?_)
    ·replace h := zAk hb h
     refine zAg ?_
     show Tri _ _ _ _
     refine zAb ?_
     refine zAp ?_
     refine zAC (by exact tokW) (by exact gok) (by exact mixed) [21] [20] [1, 9, 11] rfl (by decide +kernel) ?_
     obtain ⟨hq, h⟩ := zAN h
     refine And.intro hq ?_
     intro r7 hr7
     obtain rfl : Nd.encs [Nd.mk 2 ((s1.take (IntKind.i64.wrap (i4 + 1)).toNat).drop i4.toNat) 0 []] = r7 := (hr7.trans (by simp [List.map_append, List.map_take, List.map_drop, irow, brow, zAK, List.map_cons, List.map_nil, zAD, Nd.encs_eq, Nd.enc])).symm
     obtain ⟨hq, h⟩ := zAN h
     refine And.intro (show ((Nd.encs l5).length + (Nd.encs [Nd.mk 2 ((s1.take (IntKind.i64.wrap (i4 + 1)).toNat).drop i4.toNat) 0 []]).length) * 56 ≤ 140737488355328 ∧ (Nd.encs l5).length + (Nd.encs [Nd.mk 2 ((s1.take (IntKind.i64.wrap (i4 + 1)).toNat).drop i4.toNat) 0 []]).length ≤ 9223372036854775807 from by simp only [List.length_append, List.length_cons, List.length_nil, List.length_map, rlen Nd.encs_eq] at hq ⊢; omega) ?_
     show Tri _ _ _ _
     refine zAm (Le.rename [(0, 0), (1, 1), (3, 2)] [(0, .s (.str s1)), (2, .op 0 0), (3, .op 1 0), (4, .s (.int .i64 i4))] [(0, .box 24 [.s (.int .i64 0), .s (.str []), .s (.int .i64 0), .nl 4]), (1, .box 24 [.s (.int .i64 1), .s (.str []), .s (.int .i64 0), .orow 2]), (2, .row 24 4 (Nd.encs (l5 ++ [Nd.mk 2 ((s1.take (IntKind.i64.wrap (i4 + 1)).toNat).drop i4.toNat) 0 []])))] 3 ⟨rfl, rfl, rfl, rfl, trivial⟩ ⟨rfl, ⟨_, rfl, rfl⟩, rfl, ⟨_, rfl, rfl⟩, rfl, ⟨_, rfl, congrArg (Ob.row 24 4) (by simp [List.map_append, List.map_take, List.map_drop, irow, brow, zAK, List.map_cons, List.map_nil, zAD, Nd.encs_eq, Nd.enc])⟩, trivial⟩ rfl rfl rfl rfl rfl) ?_
     refine zAa (by exact tokW) (by exact gok) [] [] rfl ?_
     refine ⟨(k, IntKind.i64.wrap (i4 + 1), l5 ++ [Nd.mk 2 ((s1.take (IntKind.i64.wrap (i4 + 1)).toNat).drop i4.toNat) 0 []]), h, (Le.rename [(0, 0), (1, 1), (2, 2)] _ _ _ ⟨rfl, rfl, rfl, rfl, trivial⟩ ⟨rfl, ⟨_, rfl, rfl⟩, rfl, ⟨_, rfl, rfl⟩, rfl, ⟨_, rfl, rfl⟩, trivial⟩ rfl rfl rfl rfl rfl), Nat.lt_succ_self k⟩
    ·replace h := zAj hb h
     refine zAL ?_
     cases h
     exact (Le.rename [(0, 0), (1, 1), (2, 2)] _ _ _ ⟨rfl, rfl, trivial⟩ ⟨rfl, ⟨_, rfl, rfl⟩, rfl, ⟨_, rfl, rfl⟩, rfl, ⟨_, rfl, rfl⟩, trivial⟩ rfl rfl rfl rfl rfl)
 ·show Tri _ _ _ _
  refine zAm hle ?_
  refine zAb ?_
  refine zAa (by exact tokW) (by exact gok) [] [] rfl ?_
  show Tri _ _ _ _
  refine zAi ?_
  have hy := Option.some.inj h
  subst hy
  unfold zAG
  exact ⟨_, (Le.trans (Le.rename [(0, 0), (2, 1)] [(2, .op 0 0)] [(0, .box 24 [.s (.int .i64 1), .s (.str []), .s (.int .i64 0), .orow 1]), (1, .row 24 4 (Nd.encs l6))] 2 ⟨rfl, trivial⟩ ⟨rfl, ⟨_, rfl, rfl⟩, rfl, ⟨_, rfl, rfl⟩, trivial⟩ rfl rfl rfl rfl rfl) (Le.giveRow 1 rfl)), rfl, rfl⟩
def zNx (xs : List AV) (r : Ret) : Prop := ∃ (a0 : List UInt8) (y0 : Bool), zBS a0 = some y0 ∧ xs = [.s (.str a0)] ∧ r = .val (.s (.bool y0))
def zIR : zAy := zAI fun xs r => zNx xs r
theorem zMU : PSound Tryz.prog 55 zIR := by
 have gok : ∀ (f : Nat) (s : zAy), (fun _ => none : Nat → Option zAy) f = some s → PSound Tryz.prog f s := fun _ _ h => by cases h
 refine zAM tokW Tryz.call55 Tryz.func55 rfl (fun xs r h => by obtain ⟨_, _, _, rfl, _⟩ := h; show 1 ≤ 5; decide) 5 rfl ?_
 rintro xs r w0 G0 ⟨s1, y0, h, rfl, rfl⟩ _
 rw [zBS] at h
 refine zAb ?_
 refine zAa (by exact tokW) (by exact gok) [] [] rfl ?_
 show Tri _ _ _ _
 refine zAb ?_
 refine zAa (by exact tokW) (by exact gok) [] [] rfl ?_
 show Tri _ _ _ _
 refine zAi ?_
 have hy := Option.some.inj h
 subst hy
 unfold zAG
 exact ⟨_, Le.refl _ _, rfl, rfl⟩
def zK2 (n : Nat) (xs : List AV) (r : Ret) : Prop := ∃ (a0 : List UInt8) (y0 : Bool), zCK n a0 = some y0 ∧ xs = [.s (.str a0)] ∧ r = .val (.s (.bool y0))
def zG4 : zAy := zAI fun xs r => ∃ n, zK2 n xs r
theorem zKw : PSound Tryz.prog 78 zG4 := by
 have gok : ∀ (f : Nat) (s : zAy), (fun _ => none : Nat → Option zAy) f = some s → PSound Tryz.prog f s := fun _ _ h => by cases h
 refine zAM tokW Tryz.call78 Tryz.func78 rfl (fun xs r h => by obtain ⟨n, _, _, _, rfl, _⟩ := h; show 1 ≤ 21; decide) 21 rfl ?_
 rintro xs r w0 G0 ⟨n, s1, y0, h, rfl, rfl⟩ _
 rw [zCK] at h
 refine zAb ?_
 refine zAa (by exact tokW) (by exact gok) [] [] rfl ?_
 show Tri _ _ _ _
 refine zAb ?_
 refine zAb ?_
 refine zAa (by exact tokW) (by exact gok) [] [] rfl ?_
 show Tri _ _ _ _
 obtain ⟨fl, hl, ho1⟩ := zAc h
 refine zCY (fl := fl) (fun z => match z with | _ => ⟨ofL [], fun _ => none, 0⟩) ?_ (fun z σ' hz hle => ?_)
 ·refine zAp (zAJ (X := Nat × Int) (fun y => match y with | (k, i2) => ⟨ofL [(0, .s (.str s1)), (3, .s (.int .i64 i2))], fun _ => none, 0⟩) (fun y => zBp s1 y.1 y.2 = some fl) (fun y => y.1) (n, 0) hl ?_ ?_)
  ·exact (Le.forget _ ⟨rfl, rfl, trivial⟩)
  ·rintro ⟨k, i2⟩ h
   cases k with
   | zero => cases h
   | succ k =>
    replace h : zBp s1 (k+1) i2 = some fl := h
    rw [zBp] at h
    refine zAb ?_
    refine zAb ?_
    refine zAa (by exact tokW) (by exact gok) [] [] rfl ?_
    show Tri _ _ _ _
    refine zAe rfl (fun hb => ?_) (fun hb => ?_)
    ·replace h := zAk hb h
     refine zAg ?_
     show Tri _ _ _ _
     refine zAb ?_
     refine zAp ?_
     refine zAb ?_
     refine zAa (by exact tokW) (by exact gok) [] [13] rfl ?_
     obtain ⟨c3, hc3, h⟩ := zAc h
     refine And.intro (zBg hc3).1 ?_
     intro v4 hv4
     obtain rfl : (c3.toNat : Int) = v4 := (hv4.trans (zBg hc3).2).symm
     show Tri _ _ _ _
     refine zAb ?_
     obtain ⟨x5, hj, h⟩ := zAc h
     refine zAq ⟨ofL [(0, .s (.str s1)), (3, .s (.int .i64 i2)), (20, .s (.bool x5))], fun _ => none, 0⟩ ?_ (fun σ' hle => ?_)
     ·replace h := hj
      refine zAa (by exact tokW) (by exact gok) [] [17] rfl ?_
      intro b hb
      cases b with
      | true =>
       replace h := zAk hb.symm h
       cases h
       exact (Le.forget _ ⟨rfl, rfl, rfl, trivial⟩)
      | false =>
       replace h := zAj hb.symm h
       cases h
       exact (Le.forget _ ⟨rfl, rfl, rfl, trivial⟩)
     ·show Tri _ _ _ _
      refine zAm hle ?_
      refine zAe rfl (fun hb => ?_) (fun hb => ?_)
      ·replace h := zAk hb h
       refine zAb ?_
       refine zAa (by exact tokW) (by exact gok) [] [] rfl ?_
       show Tri _ _ _ _
       refine zAi ?_
       cases h
       replace h : some _ = some _ := ho1
       have hy := Option.some.inj h
       subst hy
       unfold zAG
       exact ⟨_, Le.refl _ _, rfl, rfl⟩
      ·replace h := zAj hb h
       refine zAg ?_
       show Tri _ _ _ _
       refine zAa (by exact tokW) (by exact gok) [] [] rfl ?_
       refine ⟨(k, IntKind.i64.wrap (i2 + 1)), h, (Le.forget _ ⟨rfl, rfl, trivial⟩), Nat.lt_succ_self k⟩
    ·replace h := zAj hb h
     refine zAL ?_
     cases h
     exact ⟨_, rfl, (Le.forget _ trivial)⟩
 ·subst hz
  obtain _ := z
  replace h := ho1
  show Tri _ _ _ _
  refine zAm hle ?_
  refine zAb ?_
  refine zAa (by exact tokW) (by exact gok) [] [] rfl ?_
  show Tri _ _ _ _
  refine zAi ?_
  have hy := Option.some.inj h
  subst hy
  unfold zAG
  exact ⟨_, Le.refl _ _, rfl, rfl⟩
def zK1 (xs : List AV) (r : Ret) : Prop := ∃ (a0 : List UInt8) (y0 : Bool), zDn a0 = some y0 ∧ xs = [.s (.str a0)] ∧ r = .val (.s (.bool y0))
def zG3 : zAy := zAI fun xs r => zK1 xs r
theorem zKv : PSound Tryz.prog 80 zG3 := by
 have gok : ∀ (f : Nat) (s : zAy), (fun _ => none : Nat → Option zAy) f = some s → PSound Tryz.prog f s := fun _ _ h => by cases h
 refine zAM tokW Tryz.call80 Tryz.func80 rfl (fun xs r h => by obtain ⟨_, _, _, rfl, _⟩ := h; show 1 ≤ 9; decide) 9 rfl ?_
 rintro xs r w0 G0 ⟨s1, y0, h, rfl, rfl⟩ _
 rw [zDn] at h
 refine zAb ?_
 refine zAa (by exact tokW) (by exact gok) [] [] rfl ?_
 show Tri _ _ _ _
 refine zAb ?_
 refine zAb ?_
 refine zAa (by exact tokW) (by exact gok) [] [] rfl ?_
 show Tri _ _ _ _
 obtain ⟨fl, hj, ho1⟩ := zAc h
 refine zCY (fl := fl) (fun z => match z with | _ => ⟨ofL [], fun _ => none, 0⟩) ?_ (fun z σ' hz hle => ?_)
 ·replace h := hj
  refine zAp ?_
  refine zAb ?_
  refine zAb ?_
  refine zAa (by exact tokW) (by exact gok) [] [] rfl ?_
  show Tri _ _ _ _
  obtain ⟨x2, hj, h⟩ := zAc h
  refine zAq ⟨ofL [(4, .s (.bool x2))], fun _ => none, 0⟩ ?_ (fun σ' hle => ?_)
  ·replace h := hj
   refine zAe rfl (fun hb => ?_) (fun hb => ?_)
   ·replace h := zAk hb h
    refine zAg ?_
    cases h
    exact (Le.forget _ ⟨rfl, trivial⟩)
   ·replace h := zAj hb h
    refine zAb ?_
    refine zAa (by exact tokW) (by exact gok) [] [] rfl ?_
    show Tri _ _ _ _
    refine zAe rfl (fun hb => ?_) (fun hb => ?_)
    ·replace h := zAk hb h
     refine zAg ?_
     cases h
     exact (Le.forget _ ⟨rfl, trivial⟩)
    ·replace h := zAj hb h
     refine zAb ?_
     refine zAa (by exact tokW) (by exact gok) [] [] rfl ?_
     show Tri _ _ _ _
     refine zAe rfl (fun hb => ?_) (fun hb => ?_)
     ·replace h := zAk hb h
      refine zAg ?_
      cases h
      exact (Le.forget _ ⟨rfl, trivial⟩)
     ·replace h := zAj hb h
      refine zAa (by exact tokW) (by exact gok) [] [] rfl ?_
      cases h
      exact (Le.forget _ ⟨rfl, trivial⟩)
  ·show Tri _ _ _ _
   refine zAm hle ?_
   refine zAe rfl (fun hb => ?_) (fun hb => ?_)
   ·replace h := zAk hb h
    refine zAb ?_
    refine zAa (by exact tokW) (by exact gok) [] [] rfl ?_
    show Tri _ _ _ _
    refine zAi ?_
    cases h
    replace h : some _ = some _ := ho1
    have hy := Option.some.inj h
    subst hy
    unfold zAG
    exact ⟨_, Le.refl _ _, rfl, rfl⟩
   ·replace h := zAj hb h
    refine zAg ?_
    cases h
    exact ⟨_, rfl, (Le.forget _ trivial)⟩
 ·subst hz
  obtain _ := z
  replace h := ho1
  show Tri _ _ _ _
  refine zAm hle ?_
  refine zAb ?_
  refine zAa (by exact tokW) (by exact gok) [] [] rfl ?_
  show Tri _ _ _ _
  refine zAi ?_
  have hy := Option.some.inj h
  subst hy
  unfold zAG
  exact ⟨_, Le.refl _ _, rfl, rfl⟩
def zMl (xs : List AV) (r : Ret) : Prop := ∃ (a0 : List UInt8) (y0 : Bool), zC8 a0 = some y0 ∧ xs = [.s (.str a0)] ∧ r = .val (.s (.bool y0))
def zFU : zAy := zAI fun xs r => zMl xs r
theorem zHd : PSound Tryz.prog 59 zFU := by
 have gok : ∀ (f : Nat) (s : zAy), (fun _ => none : Nat → Option zAy) f = some s → PSound Tryz.prog f s := fun _ _ h => by cases h
 refine zAM tokW Tryz.call59 Tryz.func59 rfl (fun xs r h => by obtain ⟨_, _, _, rfl, _⟩ := h; show 1 ≤ 11; decide) 11 rfl ?_
 rintro xs r w0 G0 ⟨s1, y0, h, rfl, rfl⟩ _
 rw [zC8] at h
 refine zAb ?_
 refine zAa (by exact tokW) (by exact gok) [] [] rfl ?_
 show Tri _ _ _ _
 refine zAb ?_
 refine zAb ?_
 refine zAa (by exact tokW) (by exact gok) [] [] rfl ?_
 show Tri _ _ _ _
 obtain ⟨fl, hj, ho1⟩ := zAc h
 refine zCY (fl := fl) (fun z => match z with | _ => ⟨ofL [], fun _ => none, 0⟩) ?_ (fun z σ' hz hle => ?_)
 ·replace h := hj
  refine zAp ?_
  refine zAb ?_
  refine zAb ?_
  refine zAa (by exact tokW) (by exact gok) [] [] rfl ?_
  show Tri _ _ _ _
  obtain ⟨x2, hj, h⟩ := zAc h
  refine zAq ⟨ofL [(4, .s (.bool x2))], fun _ => none, 0⟩ ?_ (fun σ' hle => ?_)
  ·replace h := hj
   refine zAe rfl (fun hb => ?_) (fun hb => ?_)
   ·replace h := zAk hb h
    refine zAg ?_
    cases h
    exact (Le.forget _ ⟨rfl, trivial⟩)
   ·replace h := zAj hb h
    refine zAb ?_
    refine zAa (by exact tokW) (by exact gok) [] [] rfl ?_
    show Tri _ _ _ _
    refine zAe rfl (fun hb => ?_) (fun hb => ?_)
    ·replace h := zAk hb h
     refine zAg ?_
     cases h
     exact (Le.forget _ ⟨rfl, trivial⟩)
    ·replace h := zAj hb h
     refine zAb ?_
     refine zAa (by exact tokW) (by exact gok) [] [] rfl ?_
     show Tri _ _ _ _
     refine zAe rfl (fun hb => ?_) (fun hb => ?_)
     ·replace h := zAk hb h
      refine zAg ?_
      cases h
      exact (Le.forget _ ⟨rfl, trivial⟩)
     ·replace h := zAj hb h
      refine zAb ?_
      refine zAa (by exact tokW) (by exact gok) [] [] rfl ?_
      show Tri _ _ _ _
      refine zAe rfl (fun hb => ?_) (fun hb => ?_)
      ·replace h := zAk hb h
       refine zAg ?_
       cases h
       exact (Le.forget _ ⟨rfl, trivial⟩)
      ·replace h := zAj hb h
       refine zAb ?_
       refine zAa (by exact tokW) (by exact gok) [] [] rfl ?_
       show Tri _ _ _ _
       refine zAe rfl (fun hb => ?_) (fun hb => ?_)
       ·replace h := zAk hb h
        refine zAg ?_
        cases h
        exact (Le.forget _ ⟨rfl, trivial⟩)
       ·replace h := zAj hb h
        refine zAa (by exact tokW) (by exact gok) [] [] rfl ?_
        cases h
        exact (Le.forget _ ⟨rfl, trivial⟩)
  ·show Tri _ _ _ _
   refine zAm hle ?_
   refine zAe rfl (fun hb => ?_) (fun hb => ?_)
   ·replace h := zAk hb h
    refine zAb ?_
    refine zAa (by exact tokW) (by exact gok) [] [] rfl ?_
    show Tri _ _ _ _
    refine zAi ?_
    cases h
    replace h : some _ = some _ := ho1
    have hy := Option.some.inj h
    subst hy
    unfold zAG
    exact ⟨_, Le.refl _ _, rfl, rfl⟩
   ·replace h := zAj hb h
    refine zAg ?_
    cases h
    exact ⟨_, rfl, (Le.forget _ trivial)⟩
 ·subst hz
  obtain _ := z
  replace h := ho1
  show Tri _ _ _ _
  refine zAm hle ?_
  refine zAb ?_
  refine zAa (by exact tokW) (by exact gok) [] [] rfl ?_
  show Tri _ _ _ _
  refine zAi ?_
  have hy := Option.some.inj h
  subst hy
  unfold zAG
  exact ⟨_, Le.refl _ _, rfl, rfl⟩
def zMk (n : Nat) (xs : List AV) (r : Ret) : Prop := ∃ (a0 : List UInt8) (y0 : Bool), zDI n a0 = some y0 ∧ xs = [.s (.str a0)] ∧ r = .val (.s (.bool y0))
def zHQ : zAy := zAI fun xs r => ∃ n, zMk n xs r
theorem zLf : PSound Tryz.prog 56 zHQ := by
 have gok : ∀ f s, look? f [(78, zG4), (79, zFb), (80, zG3), (59, zFU)] = some s → PSound Tryz.prog f s := zAA (by
  simp only [List.forall_mem_cons]
  exact ⟨zKw, zHE, zKv, zHd, by simp⟩)
 refine zAM tokW Tryz.call56 Tryz.func56 rfl (fun xs r h => by obtain ⟨n, _, _, _, rfl, _⟩ := h; show 1 ≤ 34; decide) 34 rfl ?_
 rintro xs r w0 G0 ⟨n, s1, y0, h, rfl, rfl⟩ _
 rw [zDI] at h
 refine zAb ?_
 refine zAa (by exact tokW) (by exact gok) [] [] rfl ?_
 show Tri _ _ _ _
 refine zAb ?_
 refine zAb ?_
 refine zAa (by exact tokW) (by exact gok) [] [] rfl ?_
 show Tri _ _ _ _
 refine zAe rfl (fun hb => ?_) (fun hb => ?_)
 ·replace h := zAk hb h
  refine zAb ?_
  obtain ⟨x2, hj, h⟩ := zAc h
  refine zAq ⟨ofL [(2, .s (.bool x2))], fun _ => none, 0⟩ ?_ (fun σ' hle => ?_)
  ·replace h := hj
   refine zAa (by exact tokW) (by exact gok) [] [8] rfl ?_
   obtain ⟨y3, hy3, h⟩ := zAc h
   refine ⟨_, ⟨_, _, _, hy3, rfl, rfl⟩, ?_⟩
   intro b hb
   cases b with
   | true =>
    replace h := zAk hb.symm h
    cases h
    exact (Le.forget _ ⟨rfl, trivial⟩)
   | false =>
    replace h := zAj hb.symm h
    obtain ⟨y4, hy4, h⟩ := zAc h
    refine ⟨_, ⟨_, _, _, hy4, rfl, rfl⟩, ?_⟩
    cases h
    exact (Le.forget _ ⟨rfl, trivial⟩)
  ·show Tri _ _ _ _
   refine zAm hle ?_
   refine zAi ?_
   have hy := Option.some.inj h
   subst hy
   unfold zAG
   exact ⟨_, Le.refl _ _, rfl, rfl⟩
 ·replace h := zAj hb h
  refine zAg ?_
  show Tri _ _ _ _
  refine zAb ?_
  obtain ⟨x5, hj, h⟩ := zAc h
  refine zAq ⟨ofL [(2, .s (.bool x5))], fun _ => none, 0⟩ ?_ (fun σ' hle => ?_)
  ·replace h := hj
   refine zAa (by exact tokW) (by exact gok) [] [15, 20, 24, 29] rfl ?_
   intro b hb
   cases b with
   | true =>
    replace h := zAk hb.symm h
    intro b hb
    cases b with
    | true =>
     replace h := zAk hb.symm h
     obtain ⟨y6, hy6, h⟩ := zAc h
     refine ⟨_, ⟨_, _, _, hy6, rfl, rfl⟩, ?_⟩
     intro b hb
     cases b with
     | true =>
      replace h := zAk hb.symm h
      obtain ⟨y7, hy7, h⟩ := zAc h
      refine ⟨_, ⟨_, _, hy7, rfl, rfl⟩, ?_⟩
      intro b hb
      cases b with
      | true =>
       replace h := zAk hb.symm h
       obtain ⟨y8, hy8, h⟩ := zAc h
       refine ⟨_, ⟨_, _, hy8, rfl, rfl⟩, ?_⟩
       cases h
       exact (Le.forget _ ⟨rfl, trivial⟩)
      | false =>
       replace h := zAj hb.symm h
       cases h
       exact (Le.forget _ ⟨rfl, trivial⟩)
     | false =>
      replace h := zAj hb.symm h
      intro b hb
      subst hb
      cases h
      exact (Le.forget _ ⟨rfl, trivial⟩)
    | false =>
     replace h := zAj hb.symm h
     intro b hb
     subst hb
     intro b hb
     subst hb
     cases h
     exact (Le.forget _ ⟨rfl, trivial⟩)
   | false =>
    replace h := zAj hb.symm h
    intro b hb
    subst hb
    intro b hb
    subst hb
    intro b hb
    subst hb
    cases h
    exact (Le.forget _ ⟨rfl, trivial⟩)
  ·show Tri _ _ _ _
   refine zAm hle ?_
   refine zAi ?_
   have hy := Option.some.inj h
   subst hy
   unfold zAG
   exact ⟨_, Le.refl _ _, rfl, rfl⟩
def zIp (xs : List AV) (r : Ret) : Prop := ∃ (a0 : List UInt8) (a1 : List UInt8) (y0 : List UInt8) (y1 : List UInt8) (y2 : Bool), zCp a0 a1 = some (y0, y1, y2) ∧ xs = [.s (.str a0), .s (.str a1)] ∧ r = .val (.tup [.s (.str y0), .s (.str y1), .s (.bool y2)])
def zFB : zAy := zAI fun xs r => zIp xs r
theorem zIc : PSound Tryz.prog 98 zFB := by
 have gok : ∀ f s, look? f [(103, zEP)] = some s → PSound Tryz.prog f s := zAA (by
  simp only [List.forall_mem_cons]
  exact ⟨zG1, by simp⟩)
 refine zAM tokW Tryz.call98 Tryz.func98 rfl (fun xs r h => by obtain ⟨_, _, _, _, _, _, rfl, _⟩ := h; show 2 ≤ 23; decide) 23 rfl ?_
 rintro xs r w0 G0 ⟨s1, sep2, y0, y1, y2, h, rfl, rfl⟩ _
 rw [zCp] at h
 refine zAb ?_
 refine zAa (by exact tokW) (by exact gok) [] [] rfl ?_
 show Tri _ _ _ _
 refine zAb ?_
 refine zAb ?_
 refine zAa (by exact tokW) (by exact gok) [] [] rfl ?_
 obtain ⟨y3, hy3, h⟩ := zAc h
 refine ⟨_, ⟨_, _, _, hy3, rfl, rfl⟩, ?_⟩
 show Tri _ _ _ _
 refine zAb ?_
 refine zAa (by exact tokW) (by exact gok) [] [] rfl ?_
 show Tri _ _ _ _
 refine zAe rfl (fun hb => ?_) (fun hb => ?_)
 ·replace h := zAk hb h
  refine zAb ?_
  refine zAC (by exact tokW) (by exact gok) (by exact mixed) [] [] [] rfl (by decide +kernel) ?_
  obtain ⟨hq, h⟩ := zAN h
  refine And.intro hq ?_
  obtain ⟨hq, h⟩ := zAN h
  refine And.intro hq ?_
  show Tri _ _ _ _
  refine zAi ?_
  obtain ⟨hj1, hk1⟩ := Prod.mk.inj (Option.some.inj h)
  subst hj1
  obtain ⟨hj2, hk2⟩ := Prod.mk.inj hk1
  subst hj2
  subst hk2
  unfold zAG
  exact ⟨_, Le.refl _ _, rfl, rfl⟩
 ·replace h := zAj hb h
  refine zAg ?_
  show Tri _ _ _ _
  refine zAb ?_
  refine zAa (by exact tokW) (by exact gok) [] [] rfl ?_
  show Tri _ _ _ _
  refine zAi ?_
  obtain ⟨hj1, hk1⟩ := Prod.mk.inj (Option.some.inj h)
  subst hj1
  obtain ⟨hj2, hk2⟩ := Prod.mk.inj hk1
  subst hj2
  subst hk2
  unfold zAG
  exact ⟨_, Le.refl _ _, rfl, rfl⟩
def zMo (xs : List AV) (r : Ret) : Prop := ∃ (a0 : List UInt8) (a1 : List UInt8) (y0 : List UInt8) (y1 : List UInt8) (y2 : Bool), zDM a0 a1 = some (y0, y1, y2) ∧ xs = [.s (.str a0), .s (.str a1)] ∧ r = .val (.tup [.s (.str y0), .s (.str y1), .s (.bool y2)])
def zHT : zAy := zAI fun xs r => zMo xs r
theorem zLh : PSound Tryz.prog 81 zHT := by
 have gok : ∀ f s, look? f [(98, zFB)] = some s → PSound Tryz.prog f s := zAA (by
  simp only [List.forall_mem_cons]
  exact ⟨zIc, by simp⟩)
 refine zAM tokW Tryz.call81 Tryz.func81 rfl (fun xs r h => by obtain ⟨_, _, _, _, _, _, rfl, _⟩ := h; show 2 ≤ 13; decide) 13 rfl ?_
 rintro xs r w0 G0 ⟨s1, sep2, y0, y1, y2, h, rfl, rfl⟩ _
 rw [zDM] at h
 refine zAb ?_
 refine zAa (by exact tokW) (by exact gok) [] [] rfl ?_
 show Tri _ _ _ _
 refine zAb ?_
 refine zAa (by exact tokW) (by exact gok) [] [] rfl ?_
 obtain ⟨⟨y3, y4, y5⟩, hy3, h⟩ := zAc h
 refine ⟨_, ⟨_, _, _, _, _, hy3, rfl, rfl⟩, ?_⟩
 show Tri _ _ _ _
 refine zAi ?_
 obtain ⟨hj1, hk1⟩ := Prod.mk.inj (Option.some.inj h)
 subst hj1
 obtain ⟨hj2, hk2⟩ := Prod.mk.inj hk1
 subst hj2
 subst hk2
 unfold zAG
 exact ⟨_, Le.refl _ _, rfl, rfl⟩
def zMm (n : Nat) (xs : List AV) (r : Ret) : Prop := ∃ (a0 : List UInt8) (y0 : Bool), zC9 n a0 = some y0 ∧ xs = [.s (.str a0)] ∧ r = .val (.s (.bool y0))
def zHR : zAy := zAI fun xs r => ∃ n, zMm n xs r
theorem zLg : PSound Tryz.prog 82 zHR := by
 have gok : ∀ (f : Nat) (s : zAy), (fun _ => none : Nat → Option zAy) f = some s → PSound Tryz.prog f s := fun _ _ h => by cases h
 refine zAM tokW Tryz.call82 Tryz.func82 rfl (fun xs r h => by obtain ⟨n, _, _, _, rfl, _⟩ := h; show 1 ≤ 22; decide) 22 rfl ?_
 rintro xs r w0 G0 ⟨n, s1, y0, h, rfl, rfl⟩ _
 rw [zC9] at h
 refine zAb ?_
 refine zAa (by exact tokW) (by exact gok) [] [] rfl ?_
 show Tri _ _ _ _
 refine zAb ?_
 refine zAb ?_
 refine zAa (by exact tokW) (by exact gok) [] [] rfl ?_
 show Tri _ _ _ _
 obtain ⟨fl, hl, ho1⟩ := zAc h
 refine zCY (fl := fl) (fun z => match z with | _ => ⟨ofL [(0, .s (.str s1))], fun _ => none, 0⟩) ?_ (fun z σ' hz hle => ?_)
 ·refine zAp (zAJ (X := Nat × Int) (fun y => match y with | (k, i2) => ⟨ofL [(0, .s (.str s1)), (3, .s (.int .i64 i2))], fun _ => none, 0⟩) (fun y => zBw s1 y.1 y.2 = some fl) (fun y => y.1) (n, 0) hl ?_ ?_)
  ·exact (Le.forget _ ⟨rfl, rfl, trivial⟩)
  ·rintro ⟨k, i2⟩ h
   cases k with
   | zero => cases h
   | succ k =>
    replace h : zBw s1 (k+1) i2 = some fl := h
    rw [zBw] at h
    refine zAb ?_
    refine zAb ?_
    refine zAa (by exact tokW) (by exact gok) [] [] rfl ?_
    show Tri _ _ _ _
    refine zAe rfl (fun hb => ?_) (fun hb => ?_)
    ·replace h := zAk hb h
     refine zAg ?_
     show Tri _ _ _ _
     refine zAb ?_
     refine zAp ?_
     refine zAb ?_
     obtain ⟨x3, hj, h⟩ := zAc h
     refine zAq ⟨ofL [(0, .s (.str s1)), (3, .s (.int .i64 i2)), (19, .s (.bool x3))], fun _ => none, 0⟩ ?_ (fun σ' hle => ?_)
     ·replace h := hj
      refine zAa (by exact tokW) (by exact gok) [] [12, 14, 17] rfl ?_
      obtain ⟨c4, hc4, h⟩ := zAc h
      refine And.intro (zBg hc4).1 ?_
      intro v5 hv5
      obtain rfl : (c4.toNat : Int) = v5 := (hv5.trans (zBg hc4).2).symm
      intro b hb
      cases b with
      | true =>
       replace h := zAk hb.symm h
       cases h
       exact (Le.forget _ ⟨rfl, rfl, rfl, trivial⟩)
      | false =>
       replace h := zAj hb.symm h
       obtain ⟨c6, hc6, h⟩ := zAc h
       refine And.intro (zBg hc6).1 ?_
       intro v7 hv7
       obtain rfl : (c6.toNat : Int) = v7 := (hv7.trans (zBg hc6).2).symm
       cases h
       exact (Le.forget _ ⟨rfl, rfl, rfl, trivial⟩)
     ·show Tri _ _ _ _
      refine zAm hle ?_
      refine zAe rfl (fun hb => ?_) (fun hb => ?_)
      ·replace h := zAk hb h
       refine zAb ?_
       refine zAa (by exact tokW) (by exact gok) [] [] rfl ?_
       show Tri _ _ _ _
       refine zAi ?_
       cases h
       replace h : some _ = some _ := ho1
       have hy := Option.some.inj h
       subst hy
       unfold zAG
       exact ⟨_, Le.refl _ _, rfl, rfl⟩
      ·replace h := zAj hb h
       refine zAg ?_
       show Tri _ _ _ _
       refine zAa (by exact tokW) (by exact gok) [] [] rfl ?_
       refine ⟨(k, IntKind.i64.wrap (i2 + 1)), h, (Le.forget _ ⟨rfl, rfl, trivial⟩), Nat.lt_succ_self k⟩
    ·replace h := zAj hb h
     refine zAL ?_
     cases h
     exact ⟨_, rfl, (Le.forget _ ⟨rfl, trivial⟩)⟩
 ·subst hz
  obtain _ := z
  replace h := ho1
  show Tri _ _ _ _
  refine zAm hle ?_
  refine zAb ?_
  refine zAa (by exact tokW) (by exact gok) [] [] rfl ?_
  show Tri _ _ _ _
  refine zAi ?_
  have hy := Option.some.inj h
  subst hy
  unfold zAG
  exact ⟨_, Le.refl _ _, rfl, rfl⟩
def zMj (n : Nat) (xs : List AV) (r : Ret) : Prop := ∃ (a0 : List UInt8) (y0 : Bool), zC7 n a0 = some y0 ∧ xs = [.s (.str a0)] ∧ r = .val (.s (.bool y0))
def zHP : zAy := zAI fun xs r => ∃ n, zMj n xs r
theorem zLe : PSound Tryz.prog 57 zHP := by
 have gok : ∀ f s, look? f [(81, zHT), (82, zHR)] = some s → PSound Tryz.prog f s := zAA (by
  simp only [List.forall_mem_cons]
  exact ⟨zLh, zLg, by simp⟩)
 refine zAM tokW Tryz.call57 Tryz.func57 rfl (fun xs r h => by obtain ⟨n, _, _, _, rfl, _⟩ := h; show 1 ≤ 27; decide) 27 rfl ?_
 rintro xs r w0 G0 ⟨n, s1, y0, h, rfl, rfl⟩ _
 rw [zC7] at h
 refine zAb ?_
 refine zAa (by exact tokW) (by exact gok) [] [] rfl ?_
 show Tri _ _ _ _
 refine zAb ?_
 refine zAa (by exact tokW) (by exact gok) [] [] rfl ?_
 obtain ⟨⟨y2, y3, y4⟩, hy2, h⟩ := zAc h
 refine ⟨_, ⟨_, _, _, _, _, hy2, rfl, rfl⟩, ?_⟩
 show Tri _ _ _ _
 refine zAb ?_
 obtain ⟨x5, hj, h⟩ := zAc h
 refine zAq ⟨ofL [(2, .s (.bool x5))], fun _ => none, 0⟩ ?_ (fun σ' hle => ?_)
 ·replace h := hj
  refine zAa (by exact tokW) (by exact gok) [] [15, 19, 22] rfl ?_
  intro b hb
  cases b with
  | true =>
   replace h := zAk hb.symm h
   obtain ⟨y6, hy6, h⟩ := zAc h
   refine ⟨_, ⟨_, _, _, hy6, rfl, rfl⟩, ?_⟩
   intro b hb
   cases b with
   | true =>
    replace h := zAk hb.symm h
    intro b hb
    cases b with
    | true =>
     replace h := zAk hb.symm h
     cases h
     exact (Le.forget _ ⟨rfl, trivial⟩)
    | false =>
     replace h := zAj hb.symm h
     obtain ⟨y7, hy7, h⟩ := zAc h
     refine ⟨_, ⟨_, _, _, hy7, rfl, rfl⟩, ?_⟩
     cases h
     exact (Le.forget _ ⟨rfl, trivial⟩)
   | false =>
    replace h := zAj hb.symm h
    cases h
    exact (Le.forget _ ⟨rfl, trivial⟩)
  | false =>
   replace h := zAj hb.symm h
   intro b hb
   subst hb
   cases h
   exact (Le.forget _ ⟨rfl, trivial⟩)
 ·show Tri _ _ _ _
  refine zAm hle ?_
  refine zAi ?_
  have hy := Option.some.inj h
  subst hy
  unfold zAG
  exact ⟨_, Le.refl _ _, rfl, rfl⟩
def zNA (n : Nat) (xs : List AV) (r : Ret) : Prop := ∃ (a0 : List UInt8) (y0 : Bool), zEd n a0 = some y0 ∧ xs = [.s (.str a0)] ∧ r = .val (.s (.bool y0))
def zIT : zAy := zAI fun xs r => ∃ n, zNA n xs r
theorem zMW : PSound Tryz.prog 58 zIT := by
 have gok : ∀ (f : Nat) (s : zAy), (fun _ => none : Nat → Option zAy) f = some s → PSound Tryz.prog f s := fun _ _ h => by cases h
 refine zAM tokW Tryz.call58 Tryz.func58 rfl (fun xs r h => by obtain ⟨n, _, _, _, rfl, _⟩ := h; show 1 ≤ 23; decide) 23 rfl ?_
 rintro xs r w0 G0 ⟨n, s1, y0, h, rfl, rfl⟩ _
 rw [zEd] at h
 refine zAb ?_
 refine zAa (by exact tokW) (by exact gok) [] [] rfl ?_
 show Tri _ _ _ _
 refine zAb ?_
 refine zAb ?_
 refine zAa (by exact tokW) (by exact gok) [] [] rfl ?_
 show Tri _ _ _ _
 obtain ⟨fl, hl, ho1⟩ := zAc h
 refine zCY (fl := fl) (fun z => match z with | _ => ⟨ofL [(0, .s (.str s1))], fun _ => none, 0⟩) ?_ (fun z σ' hz hle => ?_)
 ·refine zAp (zAJ (X := Nat × Int) (fun y => match y with | (k, i2) => ⟨ofL [(0, .s (.str s1)), (3, .s (.int .i64 i2))], fun _ => none, 0⟩) (fun y => zBG s1 y.1 y.2 = some fl) (fun y => y.1) (n, 0) hl ?_ ?_)
  ·exact (Le.forget _ ⟨rfl, rfl, trivial⟩)
  ·rintro ⟨k, i2⟩ h
   cases k with
   | zero => cases h
   | succ k =>
    replace h : zBG s1 (k+1) i2 = some fl := h
    rw [zBG] at h
    refine zAb ?_
    refine zAb ?_
    refine zAa (by exact tokW) (by exact gok) [] [] rfl ?_
    show Tri _ _ _ _
    refine zAe rfl (fun hb => ?_) (fun hb => ?_)
    ·replace h := zAk hb h
     refine zAg ?_
     show Tri _ _ _ _
     refine zAb ?_
     refine zAp ?_
     refine zAb ?_
     obtain ⟨x3, hj, h⟩ := zAc h
     refine zAq ⟨ofL [(0, .s (.str s1)), (3, .s (.int .i64 i2)), (19, .s (.bool x3))], fun _ => none, 0⟩ ?_ (fun σ' hle => ?_)
     ·replace h := hj
      refine zAa (by exact tokW) (by exact gok) [] [12, 14, 17] rfl ?_
      obtain ⟨c4, hc4, h⟩ := zAc h
      refine And.intro (zBg hc4).1 ?_
      intro v5 hv5
      obtain rfl : (c4.toNat : Int) = v5 := (hv5.trans (zBg hc4).2).symm
      intro b hb
      cases b with
      | true =>
       replace h := zAk hb.symm h
       cases h
       exact (Le.forget _ ⟨rfl, rfl, rfl, trivial⟩)
      | false =>
       replace h := zAj hb.symm h
       obtain ⟨c6, hc6, h⟩ := zAc h
       refine And.intro (zBg hc6).1 ?_
       intro v7 hv7
       obtain rfl : (c6.toNat : Int) = v7 := (hv7.trans (zBg hc6).2).symm
       cases h
       exact (Le.forget _ ⟨rfl, rfl, rfl, trivial⟩)
     ·show Tri _ _ _ _
      refine zAm hle ?_
      refine zAe rfl (fun hb => ?_) (fun hb => ?_)
      ·replace h := zAk hb h
       refine zAb ?_
       refine zAa (by exact tokW) (by exact gok) [] [] rfl ?_
       show Tri _ _ _ _
       refine zAi ?_
       cases h
       replace h : some _ = some _ := ho1
       have hy := Option.some.inj h
       subst hy
       unfold zAG
       exact ⟨_, Le.refl _ _, rfl, rfl⟩
      ·replace h := zAj hb h
       refine zAg ?_
       show Tri _ _ _ _
       refine zAa (by exact tokW) (by exact gok) [] [] rfl ?_
       refine ⟨(k, IntKind.i64.wrap (i2 + 1)), h, (Le.forget _ ⟨rfl, rfl, trivial⟩), Nat.lt_succ_self k⟩
    ·replace h := zAj hb h
     refine zAL ?_
     cases h
     exact ⟨_, rfl, (Le.forget _ ⟨rfl, trivial⟩)⟩
 ·subst hz
  obtain _ := z
  replace h := ho1
  show Tri _ _ _ _
  refine zAm hle ?_
  refine zAb ?_
  refine zAa (by exact tokW) (by exact gok) [] [] rfl ?_
  show Tri _ _ _ _
  refine zAi ?_
  have hy := Option.some.inj h
  subst hy
  unfold zAG
  exact ⟨_, Le.refl _ _, rfl, rfl⟩
def zNy (xs : List AV) (r : Ret) : Prop := ∃ (a0 : List UInt8) (y0 : Bool), zEc a0 = some y0 ∧ xs = [.s (.str a0)] ∧ r = .val (.s (.bool y0))
def zIS : zAy := zAI fun xs r => zNy xs r
theorem zMV : PSound Tryz.prog 60 zIS := by
 have gok : ∀ f s, look? f [(83, zEO)] = some s → PSound Tryz.prog f s := zAA (by
  simp only [List.forall_mem_cons]
  exact ⟨zG0, by simp⟩)
 refine zAM tokW Tryz.call60 Tryz.func60 rfl (fun xs r h => by obtain ⟨_, _, _, rfl, _⟩ := h; show 1 ≤ 18; decide) 18 rfl ?_
 rintro xs r w0 G0 ⟨s1, y0, h, rfl, rfl⟩ _
 rw [zEc] at h
 refine zAb ?_
 refine zAa (by exact tokW) (by exact gok) [] [] rfl ?_
 show Tri _ _ _ _
 refine zAb ?_
 obtain ⟨x2, hj, h⟩ := zAc h
 refine zAq ⟨ofL [(2, .s (.bool x2))], fun _ => none, 0⟩ ?_ (fun σ' hle => ?_)
 ·replace h := hj
  refine zAa (by exact tokW) (by exact gok) [] [6, 8, 12, 14] rfl ?_
  intro b hb
  cases b with
  | true =>
   replace h := zAk hb.symm h
   obtain ⟨c3, hc3, h⟩ := zAc h
   refine And.intro (zBg hc3).1 ?_
   intro v4 hv4
   obtain rfl : (c3.toNat : Int) = v4 := (hv4.trans (zBg hc3).2).symm
   obtain ⟨y5, hy5, h⟩ := zAc h
   refine ⟨_, ⟨_, _, _, hy5, rfl, rfl⟩, ?_⟩
   intro b hb
   cases b with
   | true =>
    replace h := zAk hb.symm h
    obtain ⟨c6, hc6, h⟩ := zAc h
    refine And.intro (zBg hc6).1 ?_
    intro v7 hv7
    obtain rfl : (c6.toNat : Int) = v7 := (hv7.trans (zBg hc6).2).symm
    obtain ⟨y8, hy8, h⟩ := zAc h
    refine ⟨_, ⟨_, _, _, hy8, rfl, rfl⟩, ?_⟩
    cases h
    exact (Le.forget _ ⟨rfl, trivial⟩)
   | false =>
    replace h := zAj hb.symm h
    cases h
    exact (Le.forget _ ⟨rfl, trivial⟩)
  | false =>
   replace h := zAj hb.symm h
   intro b hb
   subst hb
   cases h
   exact (Le.forget _ ⟨rfl, trivial⟩)
 ·show Tri _ _ _ _
  refine zAm hle ?_
  refine zAi ?_
  have hy := Option.some.inj h
  subst hy
  unfold zAG
  exact ⟨_, Le.refl _ _, rfl, rfl⟩
def zAn (p : Unit) : List S := [.str [], .int .i64 0, .nf, .str [114, 111, 119], .int .i64 0, .fn 55, .str [115, 121, 109], .int .i64 0, .fn 56, .str [110, 117, 109], .int .i64 0, .fn 57, .str [116, 101, 120, 116], .int .i64 0, .fn 58, .str [102, 114, 97, 99], .int .i64 2, .fn 55, .str [114, 111, 111, 116], .int .i64 2, .fn 55, .str [115, 117, 98], .int .i64 2, .fn 55, .str [115, 117, 112], .int .i64 2, .fn 55, .str [98, 111, 116, 104], .int .i64 3, .fn 55, .str [97, 99, 99, 101, 110, 116], .int .i64 1, .fn 59, .str [102, 101, 110, 99, 101], .int .i64 1, .fn 60, .str [109, 97, 116, 114, 105, 120], .int .i64 0, .fn 55]
def zNz (xs : List AV) (r : Ret) : Prop := ∃ (y0 : Unit), zDB = some y0 ∧ xs = [] ∧ r = .val (.agg ((zAn y0).map .s))
def zGj : zAy := zAI fun xs r => zNz xs r
theorem zIa : PSound Tryz.prog 38 zGj := by
 have gok : ∀ (f : Nat) (s : zAy), (fun _ => none : Nat → Option zAy) f = some s → PSound Tryz.prog f s := fun _ _ h => by cases h
 refine zAM tokW Tryz.call38 Tryz.func38 rfl (fun xs r h => by obtain ⟨_, _, rfl, _⟩ := h; show 0 ≤ 14; decide) 14 rfl ?_
 rintro xs r w0 G0 ⟨y0, h, rfl, rfl⟩ _
 rw [zDB] at h
 refine zAb ?_
 refine zAa (by exact tokW) (by exact gok) [0] [] rfl ?_
 show Tri _ _ _ _
 refine zAb ?_
 refine zAa (by exact tokW) (by exact gok) [] [] rfl ?_
 show Tri _ _ _ _
 refine zAi ?_
 have hy := Option.some.inj h
 subst hy
 unfold zAG
 exact ⟨_, Le.refl _ _, rfl, rfl⟩
def zAh (p : (Unit × Int)) : List S := [.str [], .int .i64 0, .nf, .str [114, 111, 119], .int .i64 0, .fn 55, .str [115, 121, 109], .int .i64 0, .fn 56, .str [110, 117, 109], .int .i64 0, .fn 57, .str [116, 101, 120, 116], .int .i64 0, .fn 58, .str [102, 114, 97, 99], .int .i64 2, .fn 55, .str [114, 111, 111, 116], .int .i64 2, .fn 55, .str [115, 117, 98], .int .i64 2, .fn 55, .str [115, 117, 112], .int .i64 2, .fn 55, .str [98, 111, 116, 104], .int .i64 3, .fn 55, .str [97, 99, 99, 101, 110, 116], .int .i64 1, .fn 59, .str [102, 101, 110, 99, 101], .int .i64 1, .fn 60, .str [109, 97, 116, 114, 105, 120], .int .i64 0, .fn 55, .int .i64 p.2]
def zHJ (n : Nat) (xs : List AV) (os : List Ob) (x : AV) (os' : List (Option Ob)) : Prop := ∃ (a0 : (Unit × Int)) (a1 : Nd) (y0 : Bool) (z0 : (Unit × Int)), zCe n a0 a1 = some (y0, z0) ∧ xs = [.op 0 0, .s (.pt (Nd.enc a1))] ∧ os = [.box 76 ((zAh a0).map .s)] ∧ x = .s (.bool y0) ∧ os' = [some (.box 76 ((zAh z0).map .s))]
def zE8 : zAy := zCm (fun xs os x os' => ∃ n, zHJ n xs os x os')
theorem zHB : PSound Tryz.prog 61 zE8 := by
 have gok : ∀ f s, look? f [(55, zIR), (56, zHQ), (57, zHP), (58, zIT), (59, zFU), (60, zIS)] = some s → PSound Tryz.prog f s := zAA (by
  simp only [List.forall_mem_cons]
  exact ⟨zMU, zLf, zLe, zMW, zHd, zMV, by simp⟩)
 refine PSound.withNil (zFj tokW Tryz.call61 Tryz.func61 rfl (fun xs os x os' h => by obtain ⟨n, _, _, _, _, _, rfl, rfl, _, rfl⟩ := h; exact ⟨by show 2 ≤ 120; decide, by show 1 ≤ 1; decide⟩) 120 rfl ?_) _
 rintro xs os x os' w0 G0 B0 ⟨n, ⟨_, o1_nodes⟩, ⟨a2_kind, a2_text, a2_cols, a2_kids⟩, y0, z0, h, rfl, rfl, rfl, rfl⟩ _
 rw [zCe] at h
 refine zAb ?_
 refine zAa (by exact tokW) (by exact gok) [] [] rfl ?_
 show Tri _ _ _ _
 refine zAb ?_
 refine zAb ?_
 obtain ⟨x3, hj, h⟩ := zAc h
 refine zAq ⟨ofL [(0, .op 0 0), (1, .s (.pt [.int .i64 a2_kind, .str a2_text, .int .i64 a2_cols, .sl 4 (Nd.encs a2_kids)])), (34, .s (.bool x3))], ofH [(0, .box 76 [.s (.str []), .s (.int .i64 0), .s (.nf), .s (.str [114, 111, 119]), .s (.int .i64 0), .s (.fn 55), .s (.str [115, 121, 109]), .s (.int .i64 0), .s (.fn 56), .s (.str [110, 117, 109]), .s (.int .i64 0), .s (.fn 57), .s (.str [116, 101, 120, 116]), .s (.int .i64 0), .s (.fn 58), .s (.str [102, 114, 97, 99]), .s (.int .i64 2), .s (.fn 55), .s (.str [114, 111, 111, 116]), .s (.int .i64 2), .s (.fn 55), .s (.str [115, 117, 98]), .s (.int .i64 2), .s (.fn 55), .s (.str [115, 117, 112]), .s (.int .i64 2), .s (.fn 55), .s (.str [98, 111, 116, 104]), .s (.int .i64 3), .s (.fn 55), .s (.str [97, 99, 99, 101, 110, 116]), .s (.int .i64 1), .s (.fn 59), .s (.str [102, 101, 110, 99, 101]), .s (.int .i64 1), .s (.fn 60), .s (.str [109, 97, 116, 114, 105, 120]), .s (.int .i64 0), .s (.fn 55), .s (.int .i64 o1_nodes)])], 1⟩ ?_ (fun σ' hle => ?_)
 ·replace h := hj
  refine zAC (by exact tokW) (by exact gok) (by exact mixed) [] [10, 17, 22] [22] rfl (by decide +kernel) ?_
  intro b hb
  cases b with
  | true =>
   replace h := zAk hb.symm h
   intro b hb
   subst hb
   cases h
   exact (Le.rename [(0, 0)] _ _ _ ⟨rfl, rfl, rfl, trivial⟩ ⟨rfl, ⟨_, rfl, rfl⟩, trivial⟩ rfl rfl rfl rfl rfl)
  | false =>
   replace h := zAj hb.symm h
   intro b hb
   cases b with
   | true =>
    replace h := zAk hb.symm h
    cases h
    exact (Le.rename [(0, 0)] _ _ _ ⟨rfl, rfl, rfl, trivial⟩ ⟨rfl, ⟨_, rfl, rfl⟩, trivial⟩ rfl rfl rfl rfl rfl)
   | false =>
    replace h := zAj hb.symm h
    intro vsp hvsp
    cases hc : (a2_kind == 1) with
    | true =>
     replace h := zAk hc h
     obtain rfl : (1 : Int) = vsp := (hvsp.trans (eq_of_beq hc)).symm
     refine And.intro (by decide) ?_
     obtain ⟨y4, hy4, h⟩ := zAc h
     refine ⟨_, ⟨_, _, hy4, rfl, rfl⟩, ?_⟩
     cases h
     exact (Le.rename [(0, 0)] _ _ _ ⟨rfl, rfl, rfl, trivial⟩ ⟨rfl, ⟨_, rfl, rfl⟩, trivial⟩ rfl rfl rfl rfl rfl)
    | false =>
     replace h := zAj hc h
     cases hc : (a2_kind == 2) with
     | true =>
      replace h := zAk hc h
      obtain rfl : (2 : Int) = vsp := (hvsp.trans (eq_of_beq hc)).symm
      refine And.intro (by decide) ?_
      obtain ⟨y5, hy5, h⟩ := zAc h
      refine ⟨_, ⟨_, _, _, hy5, rfl, rfl⟩, ?_⟩
      cases h
      exact (Le.rename [(0, 0)] _ _ _ ⟨rfl, rfl, rfl, trivial⟩ ⟨rfl, ⟨_, rfl, rfl⟩, trivial⟩ rfl rfl rfl rfl rfl)
     | false =>
      replace h := zAj hc h
      cases hc : (a2_kind == 3) with
      | true =>
       replace h := zAk hc h
       obtain rfl : (3 : Int) = vsp := (hvsp.trans (eq_of_beq hc)).symm
       refine And.intro (by decide) ?_
       obtain ⟨y6, hy6, h⟩ := zAc h
       refine ⟨_, ⟨_, _, _, hy6, rfl, rfl⟩, ?_⟩
       cases h
       exact (Le.rename [(0, 0)] _ _ _ ⟨rfl, rfl, rfl, trivial⟩ ⟨rfl, ⟨_, rfl, rfl⟩, trivial⟩ rfl rfl rfl rfl rfl)
      | false =>
       replace h := zAj hc h
       cases hc : (a2_kind == 4) with
       | true =>
        replace h := zAk hc h
        obtain rfl : (4 : Int) = vsp := (hvsp.trans (eq_of_beq hc)).symm
        refine And.intro (by decide) ?_
        obtain ⟨y7, hy7, h⟩ := zAc h
        refine ⟨_, ⟨_, _, _, hy7, rfl, rfl⟩, ?_⟩
        cases h
        exact (Le.rename [(0, 0)] _ _ _ ⟨rfl, rfl, rfl, trivial⟩ ⟨rfl, ⟨_, rfl, rfl⟩, trivial⟩ rfl rfl rfl rfl rfl)
       | false =>
        replace h := zAj hc h
        cases hc : (a2_kind == 5) with
        | true =>
         replace h := zAk hc h
         obtain rfl : (5 : Int) = vsp := (hvsp.trans (eq_of_beq hc)).symm
         refine And.intro (by decide) ?_
         obtain ⟨y8, hy8, h⟩ := zAc h
         refine ⟨_, ⟨_, _, hy8, rfl, rfl⟩, ?_⟩
         cases h
         exact (Le.rename [(0, 0)] _ _ _ ⟨rfl, rfl, rfl, trivial⟩ ⟨rfl, ⟨_, rfl, rfl⟩, trivial⟩ rfl rfl rfl rfl rfl)
        | false =>
         replace h := zAj hc h
         cases hc : (a2_kind == 6) with
         | true =>
          replace h := zAk hc h
          obtain rfl : (6 : Int) = vsp := (hvsp.trans (eq_of_beq hc)).symm
          refine And.intro (by decide) ?_
          obtain ⟨y9, hy9, h⟩ := zAc h
          refine ⟨_, ⟨_, _, hy9, rfl, rfl⟩, ?_⟩
          cases h
          exact (Le.rename [(0, 0)] _ _ _ ⟨rfl, rfl, rfl, trivial⟩ ⟨rfl, ⟨_, rfl, rfl⟩, trivial⟩ rfl rfl rfl rfl rfl)
         | false =>
          replace h := zAj hc h
          cases hc : (a2_kind == 7) with
          | true =>
           replace h := zAk hc h
           obtain rfl : (7 : Int) = vsp := (hvsp.trans (eq_of_beq hc)).symm
           refine And.intro (by decide) ?_
           obtain ⟨y10, hy10, h⟩ := zAc h
           refine ⟨_, ⟨_, _, hy10, rfl, rfl⟩, ?_⟩
           cases h
           exact (Le.rename [(0, 0)] _ _ _ ⟨rfl, rfl, rfl, trivial⟩ ⟨rfl, ⟨_, rfl, rfl⟩, trivial⟩ rfl rfl rfl rfl rfl)
          | false =>
           replace h := zAj hc h
           cases hc : (a2_kind == 8) with
           | true =>
            replace h := zAk hc h
            obtain rfl : (8 : Int) = vsp := (hvsp.trans (eq_of_beq hc)).symm
            refine And.intro (by decide) ?_
            obtain ⟨y11, hy11, h⟩ := zAc h
            refine ⟨_, ⟨_, _, hy11, rfl, rfl⟩, ?_⟩
            cases h
            exact (Le.rename [(0, 0)] _ _ _ ⟨rfl, rfl, rfl, trivial⟩ ⟨rfl, ⟨_, rfl, rfl⟩, trivial⟩ rfl rfl rfl rfl rfl)
           | false =>
            replace h := zAj hc h
            cases hc : (a2_kind == 9) with
            | true =>
             replace h := zAk hc h
             obtain rfl : (9 : Int) = vsp := (hvsp.trans (eq_of_beq hc)).symm
             refine And.intro (by decide) ?_
             obtain ⟨y12, hy12, h⟩ := zAc h
             refine ⟨_, ⟨_, _, hy12, rfl, rfl⟩, ?_⟩
             cases h
             exact (Le.rename [(0, 0)] _ _ _ ⟨rfl, rfl, rfl, trivial⟩ ⟨rfl, ⟨_, rfl, rfl⟩, trivial⟩ rfl rfl rfl rfl rfl)
            | false =>
             replace h := zAj hc h
             cases hc : (a2_kind == 10) with
             | true =>
              replace h := zAk hc h
              obtain rfl : (10 : Int) = vsp := (hvsp.trans (eq_of_beq hc)).symm
              refine And.intro (by decide) ?_
              obtain ⟨y13, hy13, h⟩ := zAc h
              refine ⟨_, ⟨_, _, hy13, rfl, rfl⟩, ?_⟩
              cases h
              exact (Le.rename [(0, 0)] _ _ _ ⟨rfl, rfl, rfl, trivial⟩ ⟨rfl, ⟨_, rfl, rfl⟩, trivial⟩ rfl rfl rfl rfl rfl)
             | false =>
              replace h := zAj hc h
              cases hc : (a2_kind == 11) with
              | true =>
               replace h := zAk hc h
               obtain rfl : (11 : Int) = vsp := (hvsp.trans (eq_of_beq hc)).symm
               refine And.intro (by decide) ?_
               obtain ⟨y14, hy14, h⟩ := zAc h
               refine ⟨_, ⟨_, _, hy14, rfl, rfl⟩, ?_⟩
               cases h
               exact (Le.rename [(0, 0)] _ _ _ ⟨rfl, rfl, rfl, trivial⟩ ⟨rfl, ⟨_, rfl, rfl⟩, trivial⟩ rfl rfl rfl rfl rfl)
              | false =>
               replace h := zAj hc h
               cases hc : (a2_kind == 12) with
               | true =>
                replace h := zAk hc h
                obtain rfl : (12 : Int) = vsp := (hvsp.trans (eq_of_beq hc)).symm
                refine And.intro (by decide) ?_
                obtain ⟨y15, hy15, h⟩ := zAc h
                refine ⟨_, ⟨_, _, hy15, rfl, rfl⟩, ?_⟩
                cases h
                exact (Le.rename [(0, 0)] _ _ _ ⟨rfl, rfl, rfl, trivial⟩ ⟨rfl, ⟨_, rfl, rfl⟩, trivial⟩ rfl rfl rfl rfl rfl)
               | false =>
                replace h := zAj hc h
                cases h
 ·show Tri _ _ _ _
  refine zAm hle ?_
  refine zAe rfl (fun hb => ?_) (fun hb => ?_)
  ·replace h := zAk hb h
   refine zAb ?_
   refine zAa (by exact tokW) (by exact gok) [] [] rfl ?_
   show Tri _ _ _ _
   refine zAi ?_
   obtain ⟨hj1, hk1⟩ := Prod.mk.inj (Option.some.inj h)
   subst hj1
   subst hk1
   unfold zBV
   exact ⟨_, (Le.rename [(0, 0)] [(4, .s (.bool false))] [(0, .box 76 [.s (.str []), .s (.int .i64 0), .s (.nf), .s (.str [114, 111, 119]), .s (.int .i64 0), .s (.fn 55), .s (.str [115, 121, 109]), .s (.int .i64 0), .s (.fn 56), .s (.str [110, 117, 109]), .s (.int .i64 0), .s (.fn 57), .s (.str [116, 101, 120, 116]), .s (.int .i64 0), .s (.fn 58), .s (.str [102, 114, 97, 99]), .s (.int .i64 2), .s (.fn 55), .s (.str [114, 111, 111, 116]), .s (.int .i64 2), .s (.fn 55), .s (.str [115, 117, 98]), .s (.int .i64 2), .s (.fn 55), .s (.str [115, 117, 112]), .s (.int .i64 2), .s (.fn 55), .s (.str [98, 111, 116, 104]), .s (.int .i64 3), .s (.fn 55), .s (.str [97, 99, 99, 101, 110, 116]), .s (.int .i64 1), .s (.fn 59), .s (.str [102, 101, 110, 99, 101]), .s (.int .i64 1), .s (.fn 60), .s (.str [109, 97, 116, 114, 105, 120]), .s (.int .i64 0), .s (.fn 55), .s (.int .i64 o1_nodes)])] 1 ⟨rfl, trivial⟩ ⟨rfl, ⟨_, rfl, rfl⟩, trivial⟩ rfl rfl rfl rfl rfl), rfl, rfl, rfl, rfl, trivial⟩
  ·replace h := zAj hb h
   refine zAg ?_
   show Tri _ _ _ _
   refine zAb ?_
   refine zAb ?_
   refine zAa (by exact tokW) (by exact gok) [] [] rfl ?_
   show Tri _ _ _ _
   refine zAp ?_
   refine zAb ?_
   refine zAa (by exact tokW) (by exact gok) [] [] rfl ?_
   show Tri _ _ _ _
   refine zAe rfl (fun hb => ?_) (fun hb => ?_)
   ·replace h := zAk hb h
    refine zAb ?_
    obtain ⟨x16, hj, h⟩ := zAc h
    refine zAq ⟨ofL [(4, .s (.bool x16))], ofH [(0, .box 76 [.s (.str []), .s (.int .i64 0), .s (.nf), .s (.str [114, 111, 119]), .s (.int .i64 0), .s (.fn 55), .s (.str [115, 121, 109]), .s (.int .i64 0), .s (.fn 56), .s (.str [110, 117, 109]), .s (.int .i64 0), .s (.fn 57), .s (.str [116, 101, 120, 116]), .s (.int .i64 0), .s (.fn 58), .s (.str [102, 114, 97, 99]), .s (.int .i64 2), .s (.fn 55), .s (.str [114, 111, 111, 116]), .s (.int .i64 2), .s (.fn 55), .s (.str [115, 117, 98]), .s (.int .i64 2), .s (.fn 55), .s (.str [115, 117, 112]), .s (.int .i64 2), .s (.fn 55), .s (.str [98, 111, 116, 104]), .s (.int .i64 3), .s (.fn 55), .s (.str [97, 99, 99, 101, 110, 116]), .s (.int .i64 1), .s (.fn 59), .s (.str [102, 101, 110, 99, 101]), .s (.int .i64 1), .s (.fn 60), .s (.str [109, 97, 116, 114, 105, 120]), .s (.int .i64 0), .s (.fn 55), .s (.int .i64 o1_nodes)])], 1⟩ ?_ (fun σ' hle => ?_)
    ·replace h := hj
     refine zAa (by exact tokW) (by exact gok) [] [46, 51] rfl ?_
     intro b hb
     cases b with
     | true =>
      replace h := zAk hb.symm h
      intro n17 hn17
      obtain rfl : (a2_kids.length : Int) = n17 := (hn17.trans (congrArg (fun m : Nat => (m : Int)) (rlen Nd.encs_eq a2_kids))).symm
      cases h
      exact (Le.rename [(0, 0)] _ _ _ ⟨rfl, trivial⟩ ⟨rfl, ⟨_, rfl, rfl⟩, trivial⟩ rfl rfl rfl rfl rfl)
     | false =>
      replace h := zAj hb.symm h
      cases h
      exact (Le.rename [(0, 0)] _ _ _ ⟨rfl, trivial⟩ ⟨rfl, ⟨_, rfl, rfl⟩, trivial⟩ rfl rfl rfl rfl rfl)
    ·show Tri _ _ _ _
     refine zAm hle ?_
     refine zAi ?_
     obtain ⟨hj1, hk1⟩ := Prod.mk.inj (Option.some.inj h)
     subst hj1
     subst hk1
     unfold zBV
     exact ⟨_, (Le.rename [(0, 0)] [(4, .s (.bool x16))] [(0, .box 76 [.s (.str []), .s (.int .i64 0), .s (.nf), .s (.str [114, 111, 119]), .s (.int .i64 0), .s (.fn 55), .s (.str [115, 121, 109]), .s (.int .i64 0), .s (.fn 56), .s (.str [110, 117, 109]), .s (.int .i64 0), .s (.fn 57), .s (.str [116, 101, 120, 116]), .s (.int .i64 0), .s (.fn 58), .s (.str [102, 114, 97, 99]), .s (.int .i64 2), .s (.fn 55), .s (.str [114, 111, 111, 116]), .s (.int .i64 2), .s (.fn 55), .s (.str [115, 117, 98]), .s (.int .i64 2), .s (.fn 55), .s (.str [115, 117, 112]), .s (.int .i64 2), .s (.fn 55), .s (.str [98, 111, 116, 104]), .s (.int .i64 3), .s (.fn 55), .s (.str [97, 99, 99, 101, 110, 116]), .s (.int .i64 1), .s (.fn 59), .s (.str [102, 101, 110, 99, 101]), .s (.int .i64 1), .s (.fn 60), .s (.str [109, 97, 116, 114, 105, 120]), .s (.int .i64 0), .s (.fn 55), .s (.int .i64 o1_nodes)])] 1 ⟨rfl, trivial⟩ ⟨rfl, ⟨_, rfl, rfl⟩, trivial⟩ rfl rfl rfl rfl rfl), rfl, rfl, rfl, rfl, trivial⟩
   ·replace h := zAj hb h
    refine zAb ?_
    refine zAa (by exact tokW) (by exact gok) [] [] rfl ?_
    show Tri _ _ _ _
    refine zAe rfl (fun hb => ?_) (fun hb => ?_)
    ·replace h := zAk hb h
     refine zAb ?_
     obtain ⟨x18, hj, h⟩ := zAc h
     refine zAq ⟨ofL [(4, .s (.bool x18))], ofH [(0, .box 76 [.s (.str []), .s (.int .i64 0), .s (.nf), .s (.str [114, 111, 119]), .s (.int .i64 0), .s (.fn 55), .s (.str [115, 121, 109]), .s (.int .i64 0), .s (.fn 56), .s (.str [110, 117, 109]), .s (.int .i64 0), .s (.fn 57), .s (.str [116, 101, 120, 116]), .s (.int .i64 0), .s (.fn 58), .s (.str [102, 114, 97, 99]), .s (.int .i64 2), .s (.fn 55), .s (.str [114, 111, 111, 116]), .s (.int .i64 2), .s (.fn 55), .s (.str [115, 117, 98]), .s (.int .i64 2), .s (.fn 55), .s (.str [115, 117, 112]), .s (.int .i64 2), .s (.fn 55), .s (.str [98, 111, 116, 104]), .s (.int .i64 3), .s (.fn 55), .s (.str [97, 99, 99, 101, 110, 116]), .s (.int .i64 1), .s (.fn 59), .s (.str [102, 101, 110, 99, 101]), .s (.int .i64 1), .s (.fn 60), .s (.str [109, 97, 116, 114, 105, 120]), .s (.int .i64 0), .s (.fn 55), .s (.int .i64 o1_nodes)])], 1⟩ ?_ (fun σ' hle => ?_)
     ·replace h := hj
      refine zAC (by exact tokW) (by exact gok) (by exact mixed) [] [61, 68, 73, 76, 81, 84, 89] [] rfl (by decide +kernel) ?_
      intro b hb
      cases b with
      | true =>
       replace h := zAk hb.symm h
       intro b hb
       cases b with
       | true =>
        replace h := zAk hb.symm h
        intro n19 hn19
        obtain rfl : (a2_kids.length : Int) = n19 := (hn19.trans (congrArg (fun m : Nat => (m : Int)) (rlen Nd.encs_eq a2_kids))).symm
        intro b hb
        cases b with
        | true =>
         replace h := zAk hb.symm h
         intro n20 hn20
         obtain rfl : (a2_kids.length : Int) = n20 := (hn20.trans (congrArg (fun m : Nat => (m : Int)) (rlen Nd.encs_eq a2_kids))).symm
         intro b hb
         cases b with
         | true =>
          replace h := zAk hb.symm h
          intro n21 hn21
          obtain rfl : (a2_kids.length : Int) = n21 := (hn21.trans (congrArg (fun m : Nat => (m : Int)) (rlen Nd.encs_eq a2_kids))).symm
          obtain ⟨hq, h⟩ := zAN h
          refine And.intro hq ?_
          cases h
          exact (Le.rename [(0, 0)] _ _ _ ⟨rfl, trivial⟩ ⟨rfl, ⟨_, rfl, rfl⟩, trivial⟩ rfl rfl rfl rfl rfl)
         | false =>
          replace h := zAj hb.symm h
          cases h
          exact (Le.rename [(0, 0)] _ _ _ ⟨rfl, trivial⟩ ⟨rfl, ⟨_, rfl, rfl⟩, trivial⟩ rfl rfl rfl rfl rfl)
        | false =>
         replace h := zAj hb.symm h
         intro b hb
         subst hb
         cases h
         exact (Le.rename [(0, 0)] _ _ _ ⟨rfl, trivial⟩ ⟨rfl, ⟨_, rfl, rfl⟩, trivial⟩ rfl rfl rfl rfl rfl)
       | false =>
        replace h := zAj hb.symm h
        intro b hb
        subst hb
        intro b hb
        subst hb
        cases h
        exact (Le.rename [(0, 0)] _ _ _ ⟨rfl, trivial⟩ ⟨rfl, ⟨_, rfl, rfl⟩, trivial⟩ rfl rfl rfl rfl rfl)
      | false =>
       replace h := zAj hb.symm h
       intro b hb
       subst hb
       intro b hb
       subst hb
       intro b hb
       subst hb
       cases h
       exact (Le.rename [(0, 0)] _ _ _ ⟨rfl, trivial⟩ ⟨rfl, ⟨_, rfl, rfl⟩, trivial⟩ rfl rfl rfl rfl rfl)
     ·show Tri _ _ _ _
      refine zAm hle ?_
      refine zAi ?_
      obtain ⟨hj1, hk1⟩ := Prod.mk.inj (Option.some.inj h)
      subst hj1
      subst hk1
      unfold zBV
      exact ⟨_, (Le.rename [(0, 0)] [(4, .s (.bool x18))] [(0, .box 76 [.s (.str []), .s (.int .i64 0), .s (.nf), .s (.str [114, 111, 119]), .s (.int .i64 0), .s (.fn 55), .s (.str [115, 121, 109]), .s (.int .i64 0), .s (.fn 56), .s (.str [110, 117, 109]), .s (.int .i64 0), .s (.fn 57), .s (.str [116, 101, 120, 116]), .s (.int .i64 0), .s (.fn 58), .s (.str [102, 114, 97, 99]), .s (.int .i64 2), .s (.fn 55), .s (.str [114, 111, 111, 116]), .s (.int .i64 2), .s (.fn 55), .s (.str [115, 117, 98]), .s (.int .i64 2), .s (.fn 55), .s (.str [115, 117, 112]), .s (.int .i64 2), .s (.fn 55), .s (.str [98, 111, 116, 104]), .s (.int .i64 3), .s (.fn 55), .s (.str [97, 99, 99, 101, 110, 116]), .s (.int .i64 1), .s (.fn 59), .s (.str [102, 101, 110, 99, 101]), .s (.int .i64 1), .s (.fn 60), .s (.str [109, 97, 116, 114, 105, 120]), .s (.int .i64 0), .s (.fn 55), .s (.int .i64 o1_nodes)])] 1 ⟨rfl, trivial⟩ ⟨rfl, ⟨_, rfl, rfl⟩, trivial⟩ rfl rfl rfl rfl rfl), rfl, rfl, rfl, rfl, trivial⟩
    ·replace h := zAj hb h
     refine zAg ?_
     show Tri _ _ _ _
     refine zAb ?_
     obtain ⟨x22, hj, h⟩ := zAc h
     refine zAq ⟨ofL [(4, .s (.bool x22))], ofH [(0, .box 76 [.s (.str []), .s (.int .i64 0), .s (.nf), .s (.str [114, 111, 119]), .s (.int .i64 0), .s (.fn 55), .s (.str [115, 121, 109]), .s (.int .i64 0), .s (.fn 56), .s (.str [110, 117, 109]), .s (.int .i64 0), .s (.fn 57), .s (.str [116, 101, 120, 116]), .s (.int .i64 0), .s (.fn 58), .s (.str [102, 114, 97, 99]), .s (.int .i64 2), .s (.fn 55), .s (.str [114, 111, 111, 116]), .s (.int .i64 2), .s (.fn 55), .s (.str [115, 117, 98]), .s (.int .i64 2), .s (.fn 55), .s (.str [115, 117, 112]), .s (.int .i64 2), .s (.fn 55), .s (.str [98, 111, 116, 104]), .s (.int .i64 3), .s (.fn 55), .s (.str [97, 99, 99, 101, 110, 116]), .s (.int .i64 1), .s (.fn 59), .s (.str [102, 101, 110, 99, 101]), .s (.int .i64 1), .s (.fn 60), .s (.str [109, 97, 116, 114, 105, 120]), .s (.int .i64 0), .s (.fn 55), .s (.int .i64 o1_nodes)])], 1⟩ ?_ (fun σ' hle => ?_)
     ·replace h := hj
      refine zAC (by exact tokW) (by exact gok) (by exact mixed) [] [102, 107, 112] [20] rfl (by decide +kernel) ?_
      intro b hb
      cases b with
      | true =>
       replace h := zAk hb.symm h
       intro n23 hn23
       obtain rfl : (a2_kids.length : Int) = n23 := (hn23.trans (congrArg (fun m : Nat => (m : Int)) (rlen Nd.encs_eq a2_kids))).symm
       intro vsp hvsp
       cases hc : (a2_kind == 1) with
       | true =>
        replace h := zAk hc h
        obtain rfl : (1 : Int) = vsp := (hvsp.trans (eq_of_beq hc)).symm
        refine And.intro (by decide) ?_
        cases h
        exact (Le.rename [(0, 0)] _ _ _ ⟨rfl, trivial⟩ ⟨rfl, ⟨_, rfl, rfl⟩, trivial⟩ rfl rfl rfl rfl rfl)
       | false =>
        replace h := zAj hc h
        cases hc : (a2_kind == 2) with
        | true =>
         replace h := zAk hc h
         obtain rfl : (2 : Int) = vsp := (hvsp.trans (eq_of_beq hc)).symm
         refine And.intro (by decide) ?_
         cases h
         exact (Le.rename [(0, 0)] _ _ _ ⟨rfl, trivial⟩ ⟨rfl, ⟨_, rfl, rfl⟩, trivial⟩ rfl rfl rfl rfl rfl)
        | false =>
         replace h := zAj hc h
         cases hc : (a2_kind == 3) with
         | true =>
          replace h := zAk hc h
          obtain rfl : (3 : Int) = vsp := (hvsp.trans (eq_of_beq hc)).symm
          refine And.intro (by decide) ?_
          cases h
          exact (Le.rename [(0, 0)] _ _ _ ⟨rfl, trivial⟩ ⟨rfl, ⟨_, rfl, rfl⟩, trivial⟩ rfl rfl rfl rfl rfl)
         | false =>
          replace h := zAj hc h
          cases hc : (a2_kind == 4) with
          | true =>
           replace h := zAk hc h
           obtain rfl : (4 : Int) = vsp := (hvsp.trans (eq_of_beq hc)).symm
           refine And.intro (by decide) ?_
           cases h
           exact (Le.rename [(0, 0)] _ _ _ ⟨rfl, trivial⟩ ⟨rfl, ⟨_, rfl, rfl⟩, trivial⟩ rfl rfl rfl rfl rfl)
          | false =>
           replace h := zAj hc h
           cases hc : (a2_kind == 5) with
           | true =>
            replace h := zAk hc h
            obtain rfl : (5 : Int) = vsp := (hvsp.trans (eq_of_beq hc)).symm
            refine And.intro (by decide) ?_
            cases h
            exact (Le.rename [(0, 0)] _ _ _ ⟨rfl, trivial⟩ ⟨rfl, ⟨_, rfl, rfl⟩, trivial⟩ rfl rfl rfl rfl rfl)
           | false =>
            replace h := zAj hc h
            cases hc : (a2_kind == 6) with
            | true =>
             replace h := zAk hc h
             obtain rfl : (6 : Int) = vsp := (hvsp.trans (eq_of_beq hc)).symm
             refine And.intro (by decide) ?_
             cases h
             exact (Le.rename [(0, 0)] _ _ _ ⟨rfl, trivial⟩ ⟨rfl, ⟨_, rfl, rfl⟩, trivial⟩ rfl rfl rfl rfl rfl)
            | false =>
             replace h := zAj hc h
             cases hc : (a2_kind == 7) with
             | true =>
              replace h := zAk hc h
              obtain rfl : (7 : Int) = vsp := (hvsp.trans (eq_of_beq hc)).symm
              refine And.intro (by decide) ?_
              cases h
              exact (Le.rename [(0, 0)] _ _ _ ⟨rfl, trivial⟩ ⟨rfl, ⟨_, rfl, rfl⟩, trivial⟩ rfl rfl rfl rfl rfl)
             | false =>
              replace h := zAj hc h
              cases hc : (a2_kind == 8) with
              | true =>
               replace h := zAk hc h
               obtain rfl : (8 : Int) = vsp := (hvsp.trans (eq_of_beq hc)).symm
               refine And.intro (by decide) ?_
               cases h
               exact (Le.rename [(0, 0)] _ _ _ ⟨rfl, trivial⟩ ⟨rfl, ⟨_, rfl, rfl⟩, trivial⟩ rfl rfl rfl rfl rfl)
              | false =>
               replace h := zAj hc h
               cases hc : (a2_kind == 9) with
               | true =>
                replace h := zAk hc h
                obtain rfl : (9 : Int) = vsp := (hvsp.trans (eq_of_beq hc)).symm
                refine And.intro (by decide) ?_
                cases h
                exact (Le.rename [(0, 0)] _ _ _ ⟨rfl, trivial⟩ ⟨rfl, ⟨_, rfl, rfl⟩, trivial⟩ rfl rfl rfl rfl rfl)
               | false =>
                replace h := zAj hc h
                cases hc : (a2_kind == 10) with
                | true =>
                 replace h := zAk hc h
                 obtain rfl : (10 : Int) = vsp := (hvsp.trans (eq_of_beq hc)).symm
                 refine And.intro (by decide) ?_
                 cases h
                 exact (Le.rename [(0, 0)] _ _ _ ⟨rfl, trivial⟩ ⟨rfl, ⟨_, rfl, rfl⟩, trivial⟩ rfl rfl rfl rfl rfl)
                | false =>
                 replace h := zAj hc h
                 cases hc : (a2_kind == 11) with
                 | true =>
                  replace h := zAk hc h
                  obtain rfl : (11 : Int) = vsp := (hvsp.trans (eq_of_beq hc)).symm
                  refine And.intro (by decide) ?_
                  cases h
                  exact (Le.rename [(0, 0)] _ _ _ ⟨rfl, trivial⟩ ⟨rfl, ⟨_, rfl, rfl⟩, trivial⟩ rfl rfl rfl rfl rfl)
                 | false =>
                  replace h := zAj hc h
                  cases hc : (a2_kind == 12) with
                  | true =>
                   replace h := zAk hc h
                   obtain rfl : (12 : Int) = vsp := (hvsp.trans (eq_of_beq hc)).symm
                   refine And.intro (by decide) ?_
                   cases h
                   exact (Le.rename [(0, 0)] _ _ _ ⟨rfl, trivial⟩ ⟨rfl, ⟨_, rfl, rfl⟩, trivial⟩ rfl rfl rfl rfl rfl)
                  | false =>
                   replace h := zAj hc h
                   cases h
      | false =>
       replace h := zAj hb.symm h
       cases h
       exact (Le.rename [(0, 0)] _ _ _ ⟨rfl, trivial⟩ ⟨rfl, ⟨_, rfl, rfl⟩, trivial⟩ rfl rfl rfl rfl rfl)
     ·show Tri _ _ _ _
      refine zAm hle ?_
      refine zAi ?_
      obtain ⟨hj1, hk1⟩ := Prod.mk.inj (Option.some.inj h)
      subst hj1
      subst hk1
      unfold zBV
      exact ⟨_, (Le.rename [(0, 0)] [(4, .s (.bool x22))] [(0, .box 76 [.s (.str []), .s (.int .i64 0), .s (.nf), .s (.str [114, 111, 119]), .s (.int .i64 0), .s (.fn 55), .s (.str [115, 121, 109]), .s (.int .i64 0), .s (.fn 56), .s (.str [110, 117, 109]), .s (.int .i64 0), .s (.fn 57), .s (.str [116, 101, 120, 116]), .s (.int .i64 0), .s (.fn 58), .s (.str [102, 114, 97, 99]), .s (.int .i64 2), .s (.fn 55), .s (.str [114, 111, 111, 116]), .s (.int .i64 2), .s (.fn 55), .s (.str [115, 117, 98]), .s (.int .i64 2), .s (.fn 55), .s (.str [115, 117, 112]), .s (.int .i64 2), .s (.fn 55), .s (.str [98, 111, 116, 104]), .s (.int .i64 3), .s (.fn 55), .s (.str [97, 99, 99, 101, 110, 116]), .s (.int .i64 1), .s (.fn 59), .s (.str [102, 101, 110, 99, 101]), .s (.int .i64 1), .s (.fn 60), .s (.str [109, 97, 116, 114, 105, 120]), .s (.int .i64 0), .s (.fn 55), .s (.int .i64 o1_nodes)])] 1 ⟨rfl, trivial⟩ ⟨rfl, ⟨_, rfl, rfl⟩, trivial⟩ rfl rfl rfl rfl rfl), rfl, rfl, rfl, rfl, trivial⟩
def zBX (n : Nat) (xs : List AV) (os : List Ob) (x : AV) (os' : List (Option Ob)) : Prop := ∃ (a0 : (Unit × Int)) (a1 : Nd) (a2 : Int) (y0 : Bool) (z0 : (Unit × Int)), zBa n a0 a1 a2 = some (y0, z0) ∧ xs = [.op 0 0, .s (.pt (Nd.enc a1)), .s (.int .i64 a2)] ∧ os = [.box 76 ((zAh a0).map .s)] ∧ x = .s (.bool y0) ∧ os' = [some (.box 76 ((zAh z0).map .s))]
theorem zGd (n : Nat) (ih : PSound Tryz.prog 39 (zCm (zBX n))) : PSound Tryz.prog 39 (zCm (zBX (n + 1))) := by
 have gok : ∀ f s, look? f [(61, zE8), (39, zCm (zBX n))] = some s → PSound Tryz.prog f s := zAA (by
  simp only [List.forall_mem_cons]
  exact ⟨zHB, ih, by simp⟩)
 refine PSound.withNil (zFj tokW Tryz.call39 Tryz.func39 rfl (fun xs os x os' h => by obtain ⟨_, _, _, _, _, _, rfl, rfl, _, rfl⟩ := h; exact ⟨by show 3 ≤ 67; decide, by show 1 ≤ 1; decide⟩) 67 rfl ?_) _
 rintro xs os x os' w0 G0 B0 ⟨⟨_, o1_nodes⟩, ⟨a2_kind, a2_text, a2_cols, a2_kids⟩, a3, y0, z0, h, rfl, rfl, rfl, rfl⟩ _
 rw [zBa] at h
 refine zAb ?_
 refine zAa (by exact tokW) (by exact gok) [] [] rfl ?_
 show Tri _ _ _ _
 refine zAb ?_
 refine zAa (by exact tokW) (by exact gok) [] [] rfl ?_
 show Tri _ _ _ _
 refine zAb ?_
 refine zAb ?_
 obtain ⟨⟨x4, x5⟩, hj, h⟩ := zAc h
 refine zAq ⟨ofL [(0, .op 0 0), (1, .s (.pt [.int .i64 a2_kind, .str a2_text, .int .i64 a2_cols, .sl 4 (Nd.encs a2_kids)])), (2, .s (.int .i64 a3)), (29, .s (.bool x4))], ofH [(0, .box 76 [.s (.str []), .s (.int .i64 0), .s (.nf), .s (.str [114, 111, 119]), .s (.int .i64 0), .s (.fn 55), .s (.str [115, 121, 109]), .s (.int .i64 0), .s (.fn 56), .s (.str [110, 117, 109]), .s (.int .i64 0), .s (.fn 57), .s (.str [116, 101, 120, 116]), .s (.int .i64 0), .s (.fn 58), .s (.str [102, 114, 97, 99]), .s (.int .i64 2), .s (.fn 55), .s (.str [114, 111, 111, 116]), .s (.int .i64 2), .s (.fn 55), .s (.str [115, 117, 98]), .s (.int .i64 2), .s (.fn 55), .s (.str [115, 117, 112]), .s (.int .i64 2), .s (.fn 55), .s (.str [98, 111, 116, 104]), .s (.int .i64 3), .s (.fn 55), .s (.str [97, 99, 99, 101, 110, 116]), .s (.int .i64 1), .s (.fn 59), .s (.str [102, 101, 110, 99, 101]), .s (.int .i64 1), .s (.fn 60), .s (.str [109, 97, 116, 114, 105, 120]), .s (.int .i64 0), .s (.fn 55), .s (.int .i64 x5)])], 1⟩ ?_ (fun σ' hle => ?_)
 ·replace h := hj
  refine zAa (by exact tokW) (by exact gok) [] [20, 24] rfl ?_
  intro b hb
  cases b with
  | true =>
   replace h := zAk hb.symm h
   intro b hb
   subst hb
   cases h
   exact (Le.rename [(0, 0)] _ _ _ ⟨rfl, rfl, rfl, rfl, trivial⟩ ⟨rfl, ⟨_, rfl, rfl⟩, trivial⟩ rfl rfl rfl rfl rfl)
  | false =>
   replace h := zAj hb.symm h
   intro b hb
   cases b with
   | true =>
    replace h := zAk hb.symm h
    cases h
    exact (Le.rename [(0, 0)] _ _ _ ⟨rfl, rfl, rfl, rfl, trivial⟩ ⟨rfl, ⟨_, rfl, rfl⟩, trivial⟩ rfl rfl rfl rfl rfl)
   | false =>
    replace h := zAj hb.symm h
    obtain ⟨⟨y6, ⟨_, w7_nodes⟩⟩, hy6, h⟩ := zAc h
    refine ⟨_, _, ⟨_, _, _, _, _, hy6, rfl, rfl, rfl, rfl⟩, ?_⟩
    cases h
    exact (Le.rename [(0, 0)] _ _ _ ⟨rfl, rfl, rfl, rfl, trivial⟩ ⟨rfl, ⟨_, rfl, rfl⟩, trivial⟩ rfl rfl rfl rfl rfl)
 ·show Tri _ _ _ _
  refine zAm hle ?_
  refine zAe rfl (fun hb => ?_) (fun hb => ?_)
  ·replace h := zAk hb h
   refine zAb ?_
   refine zAa (by exact tokW) (by exact gok) [] [] rfl ?_
   show Tri _ _ _ _
   refine zAi ?_
   obtain ⟨hj1, hk1⟩ := Prod.mk.inj (Option.some.inj h)
   subst hj1
   subst hk1
   unfold zBV
   exact ⟨_, (Le.rename [(0, 0)] [(6, .s (.bool false))] [(0, .box 76 [.s (.str []), .s (.int .i64 0), .s (.nf), .s (.str [114, 111, 119]), .s (.int .i64 0), .s (.fn 55), .s (.str [115, 121, 109]), .s (.int .i64 0), .s (.fn 56), .s (.str [110, 117, 109]), .s (.int .i64 0), .s (.fn 57), .s (.str [116, 101, 120, 116]), .s (.int .i64 0), .s (.fn 58), .s (.str [102, 114, 97, 99]), .s (.int .i64 2), .s (.fn 55), .s (.str [114, 111, 111, 116]), .s (.int .i64 2), .s (.fn 55), .s (.str [115, 117, 98]), .s (.int .i64 2), .s (.fn 55), .s (.str [115, 117, 112]), .s (.int .i64 2), .s (.fn 55), .s (.str [98, 111, 116, 104]), .s (.int .i64 3), .s (.fn 55), .s (.str [97, 99, 99, 101, 110, 116]), .s (.int .i64 1), .s (.fn 59), .s (.str [102, 101, 110, 99, 101]), .s (.int .i64 1), .s (.fn 60), .s (.str [109, 97, 116, 114, 105, 120]), .s (.int .i64 0), .s (.fn 55), .s (.int .i64 x5)])] 1 ⟨rfl, trivial⟩ ⟨rfl, ⟨_, rfl, rfl⟩, trivial⟩ rfl rfl rfl rfl rfl), rfl, rfl, rfl, rfl, trivial⟩
  ·replace h := zAj hb h
   refine zAg ?_
   show Tri _ _ _ _
   refine zAb ?_
   refine zAb ?_
   refine zAa (by exact tokW) (by exact gok) [] [34] rfl ?_
   intro n8 hn8
   obtain rfl : (a2_kids.length : Int) = n8 := (hn8.trans (congrArg (fun m : Nat => (m : Int)) (rlen Nd.encs_eq a2_kids))).symm
   show Tri _ _ _ _
   obtain ⟨fl, hl, ho1⟩ := zAc h
   refine zCY (fl := fl) (fun z => match z with | x11 => ⟨ofL [], ofH [(0, .box 76 [.s (.str []), .s (.int .i64 0), .s (.nf), .s (.str [114, 111, 119]), .s (.int .i64 0), .s (.fn 55), .s (.str [115, 121, 109]), .s (.int .i64 0), .s (.fn 56), .s (.str [110, 117, 109]), .s (.int .i64 0), .s (.fn 57), .s (.str [116, 101, 120, 116]), .s (.int .i64 0), .s (.fn 58), .s (.str [102, 114, 97, 99]), .s (.int .i64 2), .s (.fn 55), .s (.str [114, 111, 111, 116]), .s (.int .i64 2), .s (.fn 55), .s (.str [115, 117, 98]), .s (.int .i64 2), .s (.fn 55), .s (.str [115, 117, 112]), .s (.int .i64 2), .s (.fn 55), .s (.str [98, 111, 116, 104]), .s (.int .i64 3), .s (.fn 55), .s (.str [97, 99, 99, 101, 110, 116]), .s (.int .i64 1), .s (.fn 59), .s (.str [102, 101, 110, 99, 101]), .s (.int .i64 1), .s (.fn 60), .s (.str [109, 97, 116, 114, 105, 120]), .s (.int .i64 0), .s (.fn 55), .s (.int .i64 x11)])], 1⟩) ?_ (fun x11 σ' hz hle => ?_)
   ·refine zAp (zAJ (X := Nat × Int × Int) (fun y => match y with | (k, x9, x10) => ⟨ofL [(0, .op 0 0), (1, .s (.pt [.int .i64 a2_kind, .str a2_text, .int .i64 a2_cols, .sl 4 (Nd.encs a2_kids)])), (2, .s (.int .i64 a3)), (34, .s (.int .i64 (a2_kids.length : Int))), (35, .s (.int .i64 x10))], ofH [(0, .box 76 [.s (.str []), .s (.int .i64 0), .s (.nf), .s (.str [114, 111, 119]), .s (.int .i64 0), .s (.fn 55), .s (.str [115, 121, 109]), .s (.int .i64 0), .s (.fn 56), .s (.str [110, 117, 109]), .s (.int .i64 0), .s (.fn 57), .s (.str [116, 101, 120, 116]), .s (.int .i64 0), .s (.fn 58), .s (.str [102, 114, 97, 99]), .s (.int .i64 2), .s (.fn 55), .s (.str [114, 111, 111, 116]), .s (.int .i64 2), .s (.fn 55), .s (.str [115, 117, 98]), .s (.int .i64 2), .s (.fn 55), .s (.str [115, 117, 112]), .s (.int .i64 2), .s (.fn 55), .s (.str [98, 111, 116, 104]), .s (.int .i64 3), .s (.fn 55), .s (.str [97, 99, 99, 101, 110, 116]), .s (.int .i64 1), .s (.fn 59), .s (.str [102, 101, 110, 99, 101]), .s (.int .i64 1), .s (.fn 60), .s (.str [109, 97, 116, 114, 105, 120]), .s (.int .i64 0), .s (.fn 55), .s (.int .i64 x9)])], 1⟩) (fun y => zA1 (zBa n) a2_kind a2_kids a3 y.1 y.2.1 y.2.2 = some fl) (fun y => y.1) (n, x5, 0) hl ?_ ?_)
    ·exact (Le.rename [(0, 0)] _ _ _ ⟨rfl, rfl, rfl, rfl, rfl, trivial⟩ ⟨rfl, ⟨_, rfl, rfl⟩, trivial⟩ rfl rfl rfl rfl rfl)
    ·rintro ⟨k, x9, x10⟩ h
     cases k with
     | zero => cases h
     | succ k =>
      replace h : zA1 (zBa n) a2_kind a2_kids a3 (k+1) x9 x10 = some fl := h
      rw [zA1] at h
      refine zAb ?_
      refine zAa (by exact tokW) (by exact gok) [] [] rfl ?_
      show Tri _ _ _ _
      refine zAb ?_
      refine zAe rfl (fun hb => ?_) (fun hb => ?_)
      ·replace h := zAk hb h
       refine zAg ?_
       show Tri _ _ _ _
       refine zAb ?_
       refine zAp ?_
       refine zAb ?_
       refine zAa (by exact tokW) (by exact gok) [] [] rfl ?_
       show Tri _ _ _ _
       refine zAb ?_
       obtain ⟨⟨x12, x13⟩, hj, h⟩ := zAc h
       refine zAq ⟨ofL [(0, .op 0 0), (1, .s (.pt [.int .i64 a2_kind, .str a2_text, .int .i64 a2_cols, .sl 4 (Nd.encs a2_kids)])), (2, .s (.int .i64 a3)), (34, .s (.int .i64 (a2_kids.length : Int))), (35, .s (.int .i64 x10)), (65, .s (.bool x12))], ofH [(0, .box 76 [.s (.str []), .s (.int .i64 0), .s (.nf), .s (.str [114, 111, 119]), .s (.int .i64 0), .s (.fn 55), .s (.str [115, 121, 109]), .s (.int .i64 0), .s (.fn 56), .s (.str [110, 117, 109]), .s (.int .i64 0), .s (.fn 57), .s (.str [116, 101, 120, 116]), .s (.int .i64 0), .s (.fn 58), .s (.str [102, 114, 97, 99]), .s (.int .i64 2), .s (.fn 55), .s (.str [114, 111, 111, 116]), .s (.int .i64 2), .s (.fn 55), .s (.str [115, 117, 98]), .s (.int .i64 2), .s (.fn 55), .s (.str [115, 117, 112]), .s (.int .i64 2), .s (.fn 55), .s (.str [98, 111, 116, 104]), .s (.int .i64 3), .s (.fn 55), .s (.str [97, 99, 99, 101, 110, 116]), .s (.int .i64 1), .s (.fn 59), .s (.str [102, 101, 110, 99, 101]), .s (.int .i64 1), .s (.fn 60), .s (.str [109, 97, 116, 114, 105, 120]), .s (.int .i64 0), .s (.fn 55), .s (.int .i64 x13)])], 1⟩ ?_ (fun σ' hle => ?_)
       ·replace h := hj
        refine zAC (by exact tokW) (by exact gok) (by exact mixed) [] [48, 53, 60] [25] rfl (by decide +kernel) ?_
        obtain ⟨⟨e14_kind, e14_text, e14_cols, e14_kids⟩, he14, h⟩ := zAc h
        refine And.intro (zAw Nd.encs_eq he14).1 ?_
        intro r15 hr15
        obtain rfl : [.int .i64 e14_kind, .str e14_text, .int .i64 e14_cols, .sl 4 (Nd.encs e14_kids)] = r15 := (hr15.trans (zAw Nd.encs_eq he14).2.1).symm
        intro b hb
        cases b with
        | true =>
         replace h := zAk hb.symm h
         cases h
         exact (Le.rename [(0, 0)] _ _ _ ⟨rfl, rfl, rfl, rfl, rfl, rfl, trivial⟩ ⟨rfl, ⟨_, rfl, rfl⟩, trivial⟩ rfl rfl rfl rfl rfl)
        | false =>
         replace h := zAj hb.symm h
         obtain ⟨⟨e16_kind, e16_text, e16_cols, e16_kids⟩, he16, h⟩ := zAc h
         refine And.intro (zAw Nd.encs_eq he16).1 ?_
         intro r17 hr17
         obtain rfl : [.int .i64 e16_kind, .str e16_text, .int .i64 e16_cols, .sl 4 (Nd.encs e16_kids)] = r17 := (hr17.trans (zAw Nd.encs_eq he16).2.1).symm
         obtain ⟨⟨y18, ⟨_, w19_nodes⟩⟩, hy18, h⟩ := zAc h
         refine ⟨_, _, ⟨_, _, _, _, _, hy18, rfl, rfl, rfl, rfl⟩, ?_⟩
         cases h
         exact (Le.rename [(0, 0)] _ _ _ ⟨rfl, rfl, rfl, rfl, rfl, rfl, trivial⟩ ⟨rfl, ⟨_, rfl, rfl⟩, trivial⟩ rfl rfl rfl rfl rfl)
       ·show Tri _ _ _ _
        refine zAm hle ?_
        refine zAe rfl (fun hb => ?_) (fun hb => ?_)
        ·replace h := zAk hb h
         refine zAb ?_
         refine zAa (by exact tokW) (by exact gok) [] [] rfl ?_
         show Tri _ _ _ _
         refine zAi ?_
         cases h
         replace h : some _ = some _ := ho1
         obtain ⟨hj1, hk1⟩ := Prod.mk.inj (Option.some.inj h)
         subst hj1
         subst hk1
         unfold zBV
         exact ⟨_, (Le.rename [(0, 0)] [(6, .s (.bool false))] [(0, .box 76 [.s (.str []), .s (.int .i64 0), .s (.nf), .s (.str [114, 111, 119]), .s (.int .i64 0), .s (.fn 55), .s (.str [115, 121, 109]), .s (.int .i64 0), .s (.fn 56), .s (.str [110, 117, 109]), .s (.int .i64 0), .s (.fn 57), .s (.str [116, 101, 120, 116]), .s (.int .i64 0), .s (.fn 58), .s (.str [102, 114, 97, 99]), .s (.int .i64 2), .s (.fn 55), .s (.str [114, 111, 111, 116]), .s (.int .i64 2), .s (.fn 55), .s (.str [115, 117, 98]), .s (.int .i64 2), .s (.fn 55), .s (.str [115, 117, 112]), .s (.int .i64 2), .s (.fn 55), .s (.str [98, 111, 116, 104]), .s (.int .i64 3), .s (.fn 55), .s (.str [97, 99, 99, 101, 110, 116]), .s (.int .i64 1), .s (.fn 59), .s (.str [102, 101, 110, 99, 101]), .s (.int .i64 1), .s (.fn 60), .s (.str [109, 97, 116, 114, 105, 120]), .s (.int .i64 0), .s (.fn 55), .s (.int .i64 x13)])] 1 ⟨rfl, trivial⟩ ⟨rfl, ⟨_, rfl, rfl⟩, trivial⟩ rfl rfl rfl rfl rfl), rfl, rfl, rfl, rfl, trivial⟩
        ·replace h := zAj hb h
         refine zAg ?_
         show Tri _ _ _ _
         refine zAa (by exact tokW) (by exact gok) [] [] rfl ?_
         refine ⟨(k, x13, IntKind.i64.wrap (x10 + 1)), h, (Le.rename [(0, 0)] _ _ _ ⟨rfl, rfl, rfl, rfl, rfl, trivial⟩ ⟨rfl, ⟨_, rfl, rfl⟩, trivial⟩ rfl rfl rfl rfl rfl), Nat.lt_succ_self k⟩
      ·replace h := zAj hb h
       refine zAL ?_
       cases h
       exact ⟨_, rfl, (Le.rename [(0, 0)] _ _ _ trivial ⟨rfl, ⟨_, rfl, rfl⟩, trivial⟩ rfl rfl rfl rfl rfl)⟩
   ·subst hz
    replace h := ho1
    show Tri _ _ _ _
    refine zAm hle ?_
    refine zAb ?_
    refine zAa (by exact tokW) (by exact gok) [] [] rfl ?_
    show Tri _ _ _ _
    refine zAi ?_
    obtain ⟨hj1, hk1⟩ := Prod.mk.inj (Option.some.inj h)
    subst hj1
    subst hk1
    unfold zBV
    exact ⟨_, (Le.rename [(0, 0)] [(6, .s (.bool true))] [(0, .box 76 [.s (.str []), .s (.int .i64 0), .s (.nf), .s (.str [114, 111, 119]), .s (.int .i64 0), .s (.fn 55), .s (.str [115, 121, 109]), .s (.int .i64 0), .s (.fn 56), .s (.str [110, 117, 109]), .s (.int .i64 0), .s (.fn 57), .s (.str [116, 101, 120, 116]), .s (.int .i64 0), .s (.fn 58), .s (.str [102, 114, 97, 99]), .s (.int .i64 2), .s (.fn 55), .s (.str [114, 111, 111, 116]), .s (.int .i64 2), .s (.fn 55), .s (.str [115, 117, 98]), .s (.int .i64 2), .s (.fn 55), .s (.str [115, 117, 112]), .s (.int .i64 2), .s (.fn 55), .s (.str [98, 111, 116, 104]), .s (.int .i64 3), .s (.fn 55), .s (.str [97, 99, 99, 101, 110, 116]), .s (.int .i64 1), .s (.fn 59), .s (.str [102, 101, 110, 99, 101]), .s (.int .i64 1), .s (.fn 60), .s (.str [109, 97, 116, 114, 105, 120]), .s (.int .i64 0), .s (.fn 55), .s (.int .i64 x11)])] 1 ⟨rfl, trivial⟩ ⟨rfl, ⟨_, rfl, rfl⟩, trivial⟩ rfl rfl rfl rfl rfl), rfl, rfl, rfl, rfl, trivial⟩
theorem zGo : ∀ n, PSound Tryz.prog 39 (zCm (zBX n)) := by
 intro n
 induction n with
 | zero => exact zHF Tryz.call39 (fun xs os x os' h => by obtain ⟨_, _, _, _, _, h, _⟩ := h; cases h) _
 | succ n ih => exact zGd n ih
def zEK : zAy := zCm (fun xs os x os' => ∃ n, zBX n xs os x os')
theorem zGY : PSound Tryz.prog 39 zEK := zLZ zGo _
def zNw (n : Nat) (xs : List AV) (r : Ret) : Prop := ∃ (a0 : Nd) (y0 : Bool), zBR n a0 = some y0 ∧ xs = [.agg ((Nd.enc a0).map .s)] ∧ r = .val (.s (.bool y0))
def zGi : zAy := zAI fun xs r => ∃ n, zNw n xs r
theorem zH9 : PSound Tryz.prog 27 zGi := by
 have gok : ∀ f s, look? f [(38, zGj), (39, zEK)] = some s → PSound Tryz.prog f s := zAA (by
  simp only [List.forall_mem_cons]
  exact ⟨zIa, zGY, by simp⟩)
 refine zAM tokW Tryz.call27 Tryz.func27 rfl (fun xs r h => by obtain ⟨n, _, _, _, rfl, _⟩ := h; show 1 ≤ 14; decide) 14 rfl ?_
 rintro xs r w0 G0 ⟨n, ⟨n1_kind, n1_text, n1_cols, n1_kids⟩, y0, h, rfl, rfl⟩ _
 rw [zBR] at h
 refine zAb ?_
 refine zAa (by exact tokW) (by exact gok) [] [] rfl ?_
 show Tri _ _ _ _
 refine zAb ?_
 refine zAa (by exact tokW) (by exact gok) [6] [] rfl ?_
 obtain ⟨_, hy2, h⟩ := zAc h
 refine ⟨_, ⟨_, hy2, rfl, rfl⟩, ?_⟩
 show Tri _ _ _ _
 refine zAb ?_
 obtain ⟨x3, hj, h⟩ := zAc h
 refine zAq ⟨ofL [(2, .s (.bool x3))], fun _ => none, 0⟩ ?_ (fun σ' hle => ?_)
 ·replace h := hj
  refine zAa (by exact tokW) (by exact gok) [] [10] rfl ?_
  intro b hb
  cases b with
  | true =>
   replace h := zAk hb.symm h
   obtain ⟨⟨y4, ⟨_, w5_nodes⟩⟩, hy4, h⟩ := zAc h
   refine ⟨_, _, ⟨_, _, _, _, _, _, hy4, rfl, rfl, rfl, rfl⟩, ?_⟩
   cases h
   exact (Le.rename [] _ [] 0 ⟨rfl, trivial⟩ trivial rfl rfl rfl rfl rfl)
  | false =>
   replace h := zAj hb.symm h
   cases h
   exact (Le.rename [] _ [] 0 ⟨rfl, trivial⟩ trivial rfl rfl rfl rfl rfl)
 ·show Tri _ _ _ _
  refine zAm hle ?_
  refine zAi ?_
  have hy := Option.some.inj h
  subst hy
  unfold zAG
  exact ⟨_, Le.refl _ _, rfl, rfl⟩
def zNs (n : Nat) (xs : List AV) (r : Ret) : Prop := ∃ (a0 : Nd) (a1 : Nd) (y0 : Bool), zEa n a0 a1 = some y0 ∧ xs = [.agg ((Nd.enc a0).map .s), .agg ((Nd.enc a1).map .s)] ∧ r = .val (.s (.bool y0))
def zIO : zAy := zAI fun xs r => ∃ n, zNs n xs r
theorem zMR : PSound Tryz.prog 84 zIO := by
 have gok : ∀ f s, look? f [(27, zGi)] = some s → PSound Tryz.prog f s := zAA (by
  simp only [List.forall_mem_cons]
  exact ⟨zH9, by simp⟩)
 refine zAM tokW Tryz.call84 Tryz.func84 rfl (fun xs r h => by obtain ⟨n, _, _, _, _, rfl, _⟩ := h; show 2 ≤ 11; decide) 11 rfl ?_
 rintro xs r w0 G0 ⟨n, ⟨a1_kind, a1_text, a1_cols, a1_kids⟩, ⟨b2_kind, b2_text, b2_cols, b2_kids⟩, y0, h, rfl, rfl⟩ _
 rw [zEa] at h
 refine zAb ?_
 refine zAa (by exact tokW) (by exact gok) [] [] rfl ?_
 show Tri _ _ _ _
 refine zAb ?_
 obtain ⟨x3, hj, h⟩ := zAc h
 refine zAq ⟨ofL [(4, .s (.bool x3))], fun _ => none, 0⟩ ?_ (fun σ' hle => ?_)
 ·replace h := hj
  refine zAa (by exact tokW) (by exact gok) [] [7] rfl ?_
  obtain ⟨y4, hy4, h⟩ := zAc h
  refine ⟨_, ⟨_, _, _, hy4, rfl, rfl⟩, ?_⟩
  intro b hb
  cases b with
  | true =>
   replace h := zAk hb.symm h
   obtain ⟨y5, hy5, h⟩ := zAc h
   refine ⟨_, ⟨_, _, _, hy5, rfl, rfl⟩, ?_⟩
   cases h
   exact (Le.forget _ ⟨rfl, trivial⟩)
  | false =>
   replace h := zAj hb.symm h
   cases h
   exact (Le.forget _ ⟨rfl, trivial⟩)
 ·show Tri _ _ _ _
  refine zAm hle ?_
  refine zAi ?_
  have hy := Option.some.inj h
  subst hy
  unfold zAG
  exact ⟨_, Le.refl _ _, rfl, rfl⟩
def zK0 (xs : List AV) (os : List Ob) (x : AV) (os' : List (Option Ob)) : Prop := ∃ (a0 : Int) (a1 : Int) (z0 : Int), zD3 a0 a1 = some z0 ∧ xs = [.s (.int .i64 a0), .op 0 0] ∧ os = [.box 3 (((irow .i64) a1).map .s)] ∧ x = .tup [] ∧ os' = [some (.box 3 (((irow .i64) z0).map .s))]
def zG2 : zAy := zCm (fun xs os x os' => zK0 xs os x os')
theorem zKu : PSound Tryz.prog 119 zG2 := by
 have gok : ∀ (f : Nat) (s : zAy), (fun _ => none : Nat → Option zAy) f = some s → PSound Tryz.prog f s := fun _ _ h => by cases h
 refine PSound.withNil (zFj tokW Tryz.call119 Tryz.func119 rfl (fun xs os x os' h => by obtain ⟨_, _, _, _, rfl, rfl, _, rfl⟩ := h; exact ⟨by show 2 ≤ 5; decide, by show 1 ≤ 1; decide⟩) 5 rfl ?_) _
 rintro xs os x os' w0 G0 B0 ⟨a1, o2, z0, h, rfl, rfl, rfl, rfl⟩ _
 rw [zD3] at h
 refine zAa (by exact tokW) (by exact gok) [] [] rfl ?_
 have hy := Option.some.inj h
 subst hy
 unfold zBV
 exact ⟨_, (Le.rename [(0, 0)] [] [(0, .box 3 [.s (.int .i64 (IntKind.i64.wrap (o2 + 1)))])] 1 trivial ⟨rfl, ⟨_, rfl, rfl⟩, trivial⟩ rfl rfl rfl rfl rfl), rfl, rfl, rfl, rfl, trivial⟩
def zAl (p : (Nd × Int)) : List S := [.pt (Nd.enc p.1), .int .i64 p.2]
def zPf (n : Nat) (xs : List AV) (os : List Ob) (x : AV) (os' : List (Option Ob)) : Prop := ∃ (a0 : Nd) (a1 : Int) (z0 : Int), zF2 n a0 a1 = some z0 ∧ xs = [.s (.pt (Nd.enc a0)), .clo 119 [.op 0 0]] ∧ os = [.box 3 (((irow .i64) a1).map .s)] ∧ x = .tup [] ∧ os' = [some (.box 3 (((irow .i64) z0).map .s))]
def zJR : zAy := zCm (fun xs os x os' => ∃ n, zPf n xs os x os')
theorem zOu : PSound Tryz.prog 118 zJR := by
 have gok : ∀ f s, look? f [(119, zG2)] = some s → PSound Tryz.prog f s := zAA (by
  simp only [List.forall_mem_cons]
  exact ⟨zKu, by simp⟩)
 refine PSound.withNil (zFj tokW Tryz.call118 Tryz.func118 rfl (fun xs os x os' h => by obtain ⟨n, _, _, _, _, rfl, rfl, _, rfl⟩ := h; exact ⟨by show 2 ≤ 52; decide, by show 1 ≤ 1; decide⟩) 52 rfl ?_) _
 rintro xs os x os' w0 G0 B0 ⟨n, ⟨n1_kind, n1_text, n1_cols, n1_kids⟩, o2, z0, h, rfl, rfl, rfl, rfl⟩ _
 rw [zF2] at h
 refine zAb ?_
 refine zAa (by exact tokW) (by exact gok) [9] [] rfl ?_
 show Tri _ _ _ _
 refine zAm (Le.rename [(0, 0), (1, 1)] [(1, .clo 119 [.op 0 0]), (4, .orow 1)] [(0, .box 3 [.s (.int .i64 o2)]), (1, .row 158 2 ((List.map zAl) [(Nd.mk n1_kind n1_text n1_cols n1_kids, 1)]))] 2 ⟨rfl, rfl, trivial⟩ ⟨rfl, ⟨_, rfl, rfl⟩, rfl, ⟨_, rfl, congrArg (Ob.row 158 2) (by simp [List.map_append, List.map_take, List.map_drop, irow, brow, zAK, List.map_cons, List.map_nil, zAD, Nd.encs_eq, Nd.enc, zAn, zAh, zAl])⟩, trivial⟩ rfl rfl rfl rfl rfl) ?_
 obtain ⟨x6, hl, h⟩ := zAc h
 refine zAq ⟨ofL [], ofH [(0, .box 3 [.s (.int .i64 x6)])], 1⟩ ?_ (fun σ' hle => ?_)
 ·refine zAp (zAJ (X := Nat × Int × (List (Nd × Int))) (fun y => match y with | (k, x3, l5) => ⟨ofL [(1, .clo 119 [.op 0 0]), (4, .orow 1)], ofH [(0, .box 3 [.s (.int .i64 x3)]), (1, .row 158 2 ((List.map zAl) l5))], 2⟩) (fun y => zCh n y.1 y.2.1 y.2.2 = some x6) (fun y => y.1) (n, o2, [(Nd.mk n1_kind n1_text n1_cols n1_kids, 1)]) hl ?_ ?_)
  ·exact (Le.rename [(0, 0), (1, 1)] _ _ _ ⟨rfl, rfl, trivial⟩ ⟨rfl, ⟨_, rfl, rfl⟩, rfl, ⟨_, rfl, rfl⟩, trivial⟩ rfl rfl rfl rfl rfl)
  ·rintro ⟨k, x3, l5⟩ h
   cases k with
   | zero => cases h
   | succ k =>
    replace h : zCh n (k+1) x3 l5 = some x6 := h
    rw [zCh] at h
    refine zAb ?_
    refine zAb ?_
    refine zAa (by exact tokW) (by exact gok) [] [11] rfl ?_
    intro n7 hn7
    obtain rfl : (l5.length : Int) = n7 := (hn7.trans (congrArg (fun m : Nat => (m : Int)) (rlen (fun _ => rfl) l5))).symm
    show Tri _ _ _ _
    refine zAe rfl (fun hb => ?_) (fun hb => ?_)
    ·replace h := zAk hb h
     refine zAg ?_
     show Tri _ _ _ _
     refine zAp ?_
     refine zAb ?_
     refine zAa (by exact tokW) (by exact gok) [5] [15] rfl ?_
     intro n8 hn8
     obtain rfl : (l5.length : Int) = n8 := (hn8.trans (congrArg (fun m : Nat => (m : Int)) (rlen (fun _ => rfl) l5))).symm
     obtain ⟨⟨⟨e9_node_kind, e9_node_text, e9_node_cols, e9_node_kids⟩, e9_depth⟩, he9, h⟩ := zAc h
     refine And.intro (zAw (fun _ => rfl) he9).1 ?_
     refine And.intro (zAw (fun _ => rfl) he9).2.2 ?_
     refine ⟨_, (zAw (fun _ => rfl) he9).2.1, ?_⟩
     show Tri _ _ _ _
     refine zAm (Le.giveBox 2 [.pt [.int .i64 e9_node_kind, .str e9_node_text, .int .i64 e9_node_cols, .sl 4 (Nd.encs e9_node_kids)], .int .i64 e9_depth] rfl rfl) ?_
     refine zAb ?_
     refine zAa (by exact tokW) (by exact gok) [23] [21] rfl ?_
     intro n10 hn10
     obtain rfl : (l5.length : Int) = n10 := (hn10.trans (congrArg (fun m : Nat => (m : Int)) (rlen (fun _ => rfl) l5))).symm
     obtain ⟨hq, h⟩ := zAN h
     refine And.intro ⟨hq.1, Int.le_trans hq.2 (Int.ofNat_le.2 (Nat.le_of_eq (rlen (fun _ => rfl) _).symm))⟩ ?_
     show Tri _ _ _ _
     refine zAm (Le.rename [(0, 0), (3, 1)] [(1, .clo 119 [.op 0 0]), (4, .orow 1), (5, .s (.pt [.pt [.int .i64 e9_node_kind, .str e9_node_text, .int .i64 e9_node_cols, .sl 4 (Nd.encs e9_node_kids)], .int .i64 e9_depth]))] [(0, .box 3 [.s (.int .i64 x3)]), (1, .row 158 2 ((List.map zAl) (l5.take (IntKind.i64.wrap ((l5.length : Int) - 1)).toNat)))] 2 ⟨rfl, rfl, rfl, trivial⟩ ⟨rfl, ⟨_, rfl, rfl⟩, rfl, ⟨_, rfl, congrArg (Ob.row 158 2) (by simp [List.map_append, List.map_take, List.map_drop, irow, brow, zAK, List.map_cons, List.map_nil, zAD, Nd.encs_eq, Nd.enc, zAn, zAh, zAl])⟩, trivial⟩ rfl rfl rfl rfl rfl) ?_
     refine zAb ?_
     refine zAa (by exact tokW) (by exact gok) [] [] rfl ?_
     obtain ⟨w11, hw11, h⟩ := zAc h
     refine ⟨_, _, ⟨_, _, _, hw11, rfl, rfl, rfl, rfl⟩, ?_⟩
     show Tri _ _ _ _
     refine zAb ?_
     refine zAa (by exact tokW) (by exact gok) [] [33] rfl ?_
     intro n12 hn12
     obtain rfl : (e9_node_kids.length : Int) = n12 := (hn12.trans (congrArg (fun m : Nat => (m : Int)) (rlen Nd.encs_eq e9_node_kids))).symm
     show Tri _ _ _ _
     obtain ⟨l16, hl, h⟩ := zAc h
     refine zAq ⟨ofL [(1, .clo 119 [.op 0 0]), (4, .orow 1)], ofH [(0, .box 3 [.s (.int .i64 w11)]), (1, .row 158 2 ((List.map zAl) l16))], 2⟩ ?_ (fun σ' hle => ?_)
     ·refine zAp (zAJ (X := Nat × Int × (List (Nd × Int))) (fun y => match y with | (k, x13, l15) => ⟨ofL [(1, .clo 119 [.op 0 0]), (4, .orow 1), (5, .s (.pt [.pt [.int .i64 e9_node_kind, .str e9_node_text, .int .i64 e9_node_cols, .sl 4 (Nd.encs e9_node_kids)], .int .i64 e9_depth])), (33, .s (.int .i64 (e9_node_kids.length : Int))), (34, .s (.int .i64 x13))], ofH [(0, .box 3 [.s (.int .i64 w11)]), (1, .row 158 2 ((List.map zAl) l15))], 2⟩) (fun y => zCi e9_node_kids e9_depth y.1 y.2.1 y.2.2 = some l16) (fun y => y.1) (n, 0, l5.take (IntKind.i64.wrap ((l5.length : Int) - 1)).toNat) hl ?_ ?_)
      ·exact (Le.rename [(0, 0), (1, 1)] _ _ _ ⟨rfl, rfl, rfl, rfl, rfl, trivial⟩ ⟨rfl, ⟨_, rfl, rfl⟩, rfl, ⟨_, rfl, rfl⟩, trivial⟩ rfl rfl rfl rfl rfl)
      ·rintro ⟨k, x13, l15⟩ h
       cases k with
       | zero => cases h
       | succ k =>
        replace h : zCi e9_node_kids e9_depth (k+1) x13 l15 = some l16 := h
        rw [zCi] at h
        refine zAb ?_
        refine zAa (by exact tokW) (by exact gok) [] [] rfl ?_
        show Tri _ _ _ _
        refine zAb ?_
        refine zAe rfl (fun hb => ?_) (fun hb => ?_)
        ·replace h := zAk hb h
         refine zAg ?_
         show Tri _ _ _ _
         refine zAb ?_
         refine zAp ?_
         refine zAb ?_
         refine zAa (by exact tokW) (by exact gok) [] [] rfl ?_
         show Tri _ _ _ _
         refine zAC (by exact tokW) (by exact gok) (by exact mixed) [50] [44, 49] [13] rfl (by decide +kernel) ?_
         obtain ⟨⟨e17_kind, e17_text, e17_cols, e17_kids⟩, he17, h⟩ := zAc h
         refine And.intro (zAw Nd.encs_eq he17).1 ?_
         intro r18 hr18
         obtain rfl : [.int .i64 e17_kind, .str e17_text, .int .i64 e17_cols, .sl 4 (Nd.encs e17_kids)] = r18 := (hr18.trans (zAw Nd.encs_eq he17).2.1).symm
         intro r19 hr19
         obtain rfl : (List.map zAl) [(Nd.mk e17_kind e17_text e17_cols e17_kids, IntKind.i64.wrap (e9_depth + 1))] = r19 := (hr19.trans (by simp [List.map_append, List.map_take, List.map_drop, irow, brow, zAK, List.map_cons, List.map_nil, zAD, Nd.encs_eq, Nd.enc, zAn, zAh, zAl])).symm
         obtain ⟨hq, h⟩ := zAN h
         refine And.intro (show (((List.map zAl) l15).length + ((List.map zAl) [(Nd.mk e17_kind e17_text e17_cols e17_kids, IntKind.i64.wrap (e9_depth + 1))]).length) * 16 ≤ 140737488355328 ∧ ((List.map zAl) l15).length + ((List.map zAl) [(Nd.mk e17_kind e17_text e17_cols e17_kids, IntKind.i64.wrap (e9_depth + 1))]).length ≤ 9223372036854775807 from by simp only [List.length_append, List.length_cons, List.length_nil, List.length_map, rlen (fun _ => rfl)] at hq ⊢; omega) ?_
         show Tri _ _ _ _
         refine zAm (Le.rename [(0, 0), (2, 1)] [(1, .clo 119 [.op 0 0]), (4, .orow 1), (5, .s (.pt [.pt [.int .i64 e9_node_kind, .str e9_node_text, .int .i64 e9_node_cols, .sl 4 (Nd.encs e9_node_kids)], .int .i64 e9_depth])), (33, .s (.int .i64 (e9_node_kids.length : Int))), (34, .s (.int .i64 x13))] [(0, .box 3 [.s (.int .i64 w11)]), (1, .row 158 2 ((List.map zAl) (l15 ++ [(Nd.mk e17_kind e17_text e17_cols e17_kids, IntKind.i64.wrap (e9_depth + 1))])))] 2 ⟨rfl, rfl, rfl, rfl, rfl, trivial⟩ ⟨rfl, ⟨_, rfl, rfl⟩, rfl, ⟨_, rfl, congrArg (Ob.row 158 2) (by simp [List.map_append, List.map_take, List.map_drop, irow, brow, zAK, List.map_cons, List.map_nil, zAD, Nd.encs_eq, Nd.enc, zAn, zAh, zAl])⟩, trivial⟩ rfl rfl rfl rfl rfl) ?_
         refine zAa (by exact tokW) (by exact gok) [] [] rfl ?_
         refine ⟨(k, IntKind.i64.wrap (x13 + 1), l15 ++ [(Nd.mk e17_kind e17_text e17_cols e17_kids, IntKind.i64.wrap (e9_depth + 1))]), h, (Le.rename [(0, 0), (1, 1)] _ _ _ ⟨rfl, rfl, rfl, rfl, rfl, trivial⟩ ⟨rfl, ⟨_, rfl, rfl⟩, rfl, ⟨_, rfl, rfl⟩, trivial⟩ rfl rfl rfl rfl rfl), Nat.lt_succ_self k⟩
        ·replace h := zAj hb h
         refine zAL ?_
         cases h
         exact (Le.rename [(0, 0), (1, 1)] _ _ _ ⟨rfl, rfl, trivial⟩ ⟨rfl, ⟨_, rfl, rfl⟩, rfl, ⟨_, rfl, rfl⟩, trivial⟩ rfl rfl rfl rfl rfl)
     ·refine ⟨(k, w11, l16), h, (Le.trans hle (Le.rename [(0, 0), (1, 1)] _ _ _ ⟨rfl, rfl, trivial⟩ ⟨rfl, ⟨_, rfl, rfl⟩, rfl, ⟨_, rfl, rfl⟩, trivial⟩ rfl rfl rfl rfl rfl)), Nat.lt_succ_self k⟩
    ·replace h := zAj hb h
     refine zAL ?_
     cases h
     exact (Le.rename [(0, 0)] _ _ _ trivial ⟨rfl, ⟨_, rfl, rfl⟩, trivial⟩ rfl rfl rfl rfl rfl)
 ·have hy := Option.some.inj h
  subst hy
  unfold zBV
  exact ⟨_, (Le.trans hle (Le.rename [(0, 0)] [] [(0, .box 3 [.s (.int .i64 x6)])] 1 trivial ⟨rfl, ⟨_, rfl, rfl⟩, trivial⟩ rfl rfl rfl rfl rfl)), rfl, rfl, rfl, rfl, trivial⟩
def zNv (n : Nat) (xs : List AV) (r : Ret) : Prop := ∃ (a0 : Nd) (y0 : Int), zEb n a0 = some y0 ∧ xs = [.agg ((Nd.enc a0).map .s)] ∧ r = .val (.s (.int .i64 y0))
def zIQ : zAy := zAI fun xs r => ∃ n, zNv n xs r
theorem zMT : PSound Tryz.prog 113 zIQ := by
 have gok : ∀ f s, look? f [(118, zJR)] = some s → PSound Tryz.prog f s := zAA (by
  simp only [List.forall_mem_cons]
  exact ⟨zOu, by simp⟩)
 refine zAM tokW Tryz.call113 Tryz.func113 rfl (fun xs r h => by obtain ⟨n, _, _, _, rfl, _⟩ := h; show 1 ≤ 7; decide) 7 rfl ?_
 rintro xs r w0 G0 ⟨n, ⟨n1_kind, n1_text, n1_cols, n1_kids⟩, y0, h, rfl, rfl⟩ _
 rw [zEb] at h
 refine zAb ?_
 refine zAa (by exact tokW) (by exact gok) [] [] rfl ?_
 show Tri _ _ _ _
 refine zAb ?_
 refine zAa (by exact tokW) (by exact gok) [3] [] rfl ?_
 show Tri _ _ _ _
 refine zAb ?_
 refine zAa (by exact tokW) (by exact gok) [] [] rfl ?_
 obtain ⟨w2, hw2, h⟩ := zAc h
 refine ⟨_, _, ⟨_, _, _, _, hw2, rfl, rfl, rfl, rfl⟩, ?_⟩
 show Tri _ _ _ _
 refine zAb ?_
 refine zAa (by exact tokW) (by exact gok) [] [] rfl ?_
 show Tri _ _ _ _
 refine zAi ?_
 have hy := Option.some.inj h
 subst hy
 unfold zAG
 exact ⟨_, Le.refl _ _, rfl, rfl⟩
def zNr (n : Nat) (xs : List AV) (r : Ret) : Prop := ∃ (a0 : List Nd) (y0 : List Int), zDA n a0 = some y0 ∧ xs = [.s (.sl 4 (Nd.encs a0))] ∧ r = .row 3 1 ((List.map (irow .i64)) y0)
def zIN : zAy := zAI fun xs r => ∃ n, zNr n xs r
theorem zMQ : PSound Tryz.prog 105 zIN := by
 have gok : ∀ f s, look? f [(113, zIQ)] = some s → PSound Tryz.prog f s := zAA (by
  simp only [List.forall_mem_cons]
  exact ⟨zMT, by simp⟩)
 refine zAM tokW Tryz.call105 Tryz.func105 rfl (fun xs r h => by obtain ⟨n, _, _, _, rfl, _⟩ := h; show 1 ≤ 23; decide) 23 rfl ?_
 rintro xs r w0 G0 ⟨n, l1, y0, h, rfl, rfl⟩ _
 rw [zDA] at h
 refine zAb ?_
 refine zAa (by exact tokW) (by exact gok) [2] [] rfl ?_
 show Tri _ _ _ _
 refine zAm (Le.rename [] [(0, .s (.sl 4 (Nd.encs l1)))] [] 0 ⟨rfl, trivial⟩ trivial rfl rfl rfl rfl rfl) ?_
 refine zAb ?_
 refine zAa (by exact tokW) (by exact gok) [7] [6] rfl ?_
 intro n2 hn2
 obtain rfl : (l1.length : Int) = n2 := (hn2.trans (congrArg (fun m : Nat => (m : Int)) (rlen Nd.encs_eq l1))).symm
 obtain ⟨hq, h⟩ := zAN h
 refine And.intro (show 0 ≤ (l1.length : Int) ∧ (l1.length : Int) ≤ (l1.length : Int) ∧ (l1.length : Int) * ((8 : Nat) : Int) ≤ 281474976710656 ∧ (l1.length : Int) ≤ 281474976710656 from ⟨hq.1, Int.le_refl _, by have h1 := hq.1; have h2 := hq.2; omega, by have h2 := hq.2; omega⟩) ?_
 show Tri _ _ _ _
 refine zAm (Le.rename [(0, 0)] [(0, .s (.sl 4 (Nd.encs l1))), (3, .orow 0)] [(0, .row 3 1 ((List.map (irow .i64)) (List.replicate (l1.length : Int).toNat 0)))] 1 ⟨rfl, rfl, trivial⟩ ⟨rfl, ⟨_, rfl, congrArg (Ob.row 3 1) (by simp [List.map_append, List.map_take, List.map_drop, irow, brow, zAK, List.map_cons, List.map_nil, zAD, Nd.encs_eq, Nd.enc, zAn, zAh, zAl])⟩, trivial⟩ rfl rfl rfl rfl rfl) ?_
 refine zAb ?_
 refine zAb ?_
 refine zAa (by exact tokW) (by exact gok) [] [9] rfl ?_
 intro n3 hn3
 obtain rfl : (l1.length : Int) = n3 := (hn3.trans (congrArg (fun m : Nat => (m : Int)) (rlen Nd.encs_eq l1))).symm
 show Tri _ _ _ _
 obtain ⟨l6, hl, h⟩ := zAc h
 refine zAq ⟨ofL [(3, .orow 0)], ofH [(0, .row 3 1 ((List.map (irow .i64)) l6))], 1⟩ ?_ (fun σ' hle => ?_)
 ·refine zAp (zAJ (X := Nat × Int × (List Int)) (fun y => match y with | (k, x4, l5) => ⟨ofL [(0, .s (.sl 4 (Nd.encs l1))), (3, .orow 0), (9, .s (.int .i64 (l1.length : Int))), (10, .s (.int .i64 x4))], ofH [(0, .row 3 1 ((List.map (irow .i64)) l5))], 1⟩) (fun y => zB0 n l1 y.1 y.2.1 y.2.2 = some l6) (fun y => y.1) (n, 0, List.replicate (l1.length : Int).toNat 0) hl ?_ ?_)
  ·exact (Le.rename [(0, 0)] _ _ _ ⟨rfl, rfl, rfl, rfl, trivial⟩ ⟨rfl, ⟨_, rfl, rfl⟩, trivial⟩ rfl rfl rfl rfl rfl)
  ·rintro ⟨k, x4, l5⟩ h
   cases k with
   | zero => cases h
   | succ k =>
    replace h : zB0 n l1 (k+1) x4 l5 = some l6 := h
    rw [zB0] at h
    refine zAb ?_
    refine zAa (by exact tokW) (by exact gok) [] [] rfl ?_
    show Tri _ _ _ _
    refine zAb ?_
    refine zAe rfl (fun hb => ?_) (fun hb => ?_)
    ·replace h := zAk hb h
     refine zAg ?_
     show Tri _ _ _ _
     refine zAb ?_
     refine zAp ?_
     refine zAb ?_
     refine zAa (by exact tokW) (by exact gok) [] [] rfl ?_
     show Tri _ _ _ _
     refine zAa (by exact tokW) (by exact gok) [] [17] rfl ?_
     obtain ⟨⟨e7_kind, e7_text, e7_cols, e7_kids⟩, he7, h⟩ := zAc h
     refine And.intro (zAw Nd.encs_eq he7).1 ?_
     intro r8 hr8
     obtain rfl : [.int .i64 e7_kind, .str e7_text, .int .i64 e7_cols, .sl 4 (Nd.encs e7_kids)] = r8 := (hr8.trans (zAw Nd.encs_eq he7).2.1).symm
     obtain ⟨y9, hy9, h⟩ := zAc h
     refine ⟨_, ⟨_, _, _, hy9, rfl, rfl⟩, ?_⟩
     obtain ⟨e10, he10, h⟩ := zAc h
     refine And.intro (zAw (fun _ => rfl) he10).1 ?_
     have hset11 := (rset (R := (List.map (irow .i64))) (f := (irow .i64)) (fun _ => rfl) he10 y9 0 1 [.int .i64 y9] rfl)
     have hat11 := at_set he10 y9
     refine And.intro (zAw (fun _ => rfl) he10).2.2 ?_
     show Tri _ _ _ _
     refine zAm (Le.rename [(0, 0)] [(0, .s (.sl 4 (Nd.encs l1))), (3, .orow 0), (9, .s (.int .i64 (l1.length : Int))), (10, .s (.int .i64 x4))] [(0, .row 3 1 ((List.map (irow .i64)) (l5.set x4.toNat y9)))] 1 ⟨rfl, rfl, rfl, rfl, trivial⟩ ⟨rfl, ⟨_, rfl, congrArg (Ob.row 3 1) hset11⟩, trivial⟩ rfl rfl rfl rfl rfl) ?_
     refine zAa (by exact tokW) (by exact gok) [] [] rfl ?_
     refine ⟨(k, IntKind.i64.wrap (x4 + 1), l5.set x4.toNat y9), h, (Le.rename [(0, 0)] _ _ _ ⟨rfl, rfl, rfl, rfl, trivial⟩ ⟨rfl, ⟨_, rfl, rfl⟩, trivial⟩ rfl rfl rfl rfl rfl), Nat.lt_succ_self k⟩
    ·replace h := zAj hb h
     refine zAL ?_
     cases h
     exact (Le.rename [(0, 0)] _ _ _ ⟨rfl, trivial⟩ ⟨rfl, ⟨_, rfl, rfl⟩, trivial⟩ rfl rfl rfl rfl rfl)
 ·show Tri _ _ _ _
  refine zAm hle ?_
  refine zAb ?_
  refine zAa (by exact tokW) (by exact gok) [] [] rfl ?_
  show Tri _ _ _ _
  refine zAi ?_
  have hy := Option.some.inj h
  subst hy
  unfold zAG
  exact ⟨_, Le.refl _ _, 0, rfl, rfl⟩
end Go.Proofs.YtgfneloodabafaaGreatDoor
