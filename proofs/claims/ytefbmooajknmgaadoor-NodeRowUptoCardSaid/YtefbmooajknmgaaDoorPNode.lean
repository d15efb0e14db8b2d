/-
  PLAIN: the laws of layer 9 that read trees: names, dumps, validity, equality, sizes.
-/
import Derived.Test.YtefbmooajknmgaaDoorPDump
import Derived.Test.YtefbmooajknmgaaDoorPMet
set_option linter.unusedVariables false
set_option linter.unusedSimpArgs false
namespace Go.Proofs.YtefbmooajknmgaaDoor
open Go.Abs

theorem awake9_ok (n : Nat) (h : 200 ≤ n) : m_l09_awake n = some true := by
  have h1 := node_Valid_eq n (Nd.mk 1 [] 0 [Nd.mk 2 [120] 0 [], Nd.mk 5 [] 0 [Nd.mk 1 [] 0 [], Nd.mk 1 [] 0 []]]) (by simp [Nd.w, Nd.ws]; omega) (by simp [Nd.w, Nd.ws])
  have h2 := node_Dump_eq n (Nd.mk 1 [] 0 [Nd.mk 2 [120] 0 [], Nd.mk 5 [] 0 [Nd.mk 1 [] 0 [], Nd.mk 1 [] 0 []]]) (by simp [Nd.w, Nd.ws]; omega) (by simp [Nd.w, Nd.ws]) (by simp [Nd.rng, Nd.rngs, in64i])
  unfold m_l09_awake
  rw [h1, h2]
  have e1 : validB (Nd.mk 1 [] 0 [Nd.mk 2 [120] 0 [], Nd.mk 5 [] 0 [Nd.mk 1 [] 0 [], Nd.mk 1 [] 0 []]]) = true := by decide
  rw [e1]
  rfl
theorem few9_eq (n : Nat) (a : Nd) (h : 310 < n) : ∃ y, m_l09_few n a = some y ∧ (y = true → a.cnt ≤ 300) := by
  obtain ⟨y1, h1, h2⟩ := Few_eq n a 300 (by omega) (by omega)
  rw [show ((300 : Nat) : Int) = 300 from rfl] at h1
  obtain ⟨a1, a2, a3, a4⟩ := a
  unfold m_l09_few
  simp only [h1, Option.bind_some]
  exact ⟨y1, rfl, h2⟩
theorem NodeNames_eq (s : List UInt8) (hs : s.length ≤ 1048576) : m_l09_NodeNames 3000000 s = some true := by
  have hw := awake9_ok 3000000 (by decide)
  have e1 := node_Symbol_eq 3000000 s (by omega) (by omega)
  have e2 := r09_Symbol_eq 3000000 s (by omega) (by omega)
  have e3 := node_Number_eq 3000000 s (by omega) (by omega)
  have e4 := r09_Number_eq 3000000 s (by omega) (by omega)
  generalize 3000000 = n at *
  unfold m_l09_NodeNames
  simp only [hw, e1, e2, e3, e4, Option.bind_some, cond_true, beq_self_eq_true]
theorem beq_iff_bool {α : Type} [BEq α] [LawfulBEq α] {a b : α} {r : Bool} (h : r = true ↔ a = b) : (a == b) = r := by
  cases r with
  | true => exact beq_iff_eq.2 (h.1 rfl)
  | false => exact beq_eq_false_iff_ne.2 fun e => by have := h.2 e; cases this
theorem NodeDump_eq (a b : Nd) (ha : a.w ≤ 1048576) (hb : b.w ≤ 1048576) (ra : a.rng) (rb : b.rng) : m_l09_NodeDump 70000000 a b = some true := by
  have hw := awake9_ok 70000000 (by decide)
  obtain ⟨y, f1, _⟩ := few9_eq 70000000 a (by decide)
  obtain ⟨z, g1, _⟩ := few9_eq 70000000 b (by decide)
  have e1 := node_Dump_eq 70000000 a (by omega) (by omega) ra
  have e2 := node_Dump_eq 70000000 b (by omega) (by omega) rb
  have e3 := r09_Dump_eq 70000000 a (by omega) (by omega) ra
  have ca := Nd.cnt_w a
  obtain ⟨r, q1, q2⟩ := (Equal_eq 70000000).1 a b (by omega) (by omega)
  have e4 : (dumpL a == dumpL b) = r := beq_iff_bool (q2.trans ⟨fun h => by rw [h], dump_inj⟩)
  generalize 70000000 = n at *
  obtain ⟨a1, a2, a3, a4⟩ := a
  obtain ⟨b1, b2, b3, b4⟩ := b
  unfold m_l09_NodeDump
  simp only [hw, f1, g1, e1, e2, e3, q1, e4, Option.bind_some, cond_true, cond_false, Bool.not_true, beq_self_eq_true]
  cases y <;> cases z <;> rfl
theorem nsame_loop {F : Nd → Nd → Option Bool} {a b : List Nd} (hF : ∀ u ∈ a, ∀ v ∈ b, ∃ y, F u v = some y ∧ (y = true ↔ u = v)) (hl : a.length = b.length) (hb : a.length ≤ 1073741824) :
    ∀ (q i : Nat), a.length - i < q → i ≤ a.length → ∃ y, m_slices_EqualFunc_sNode_l1 F a b q (i : Int) = some (if y then .go () else .ret false) ∧ (y = true ↔ a.drop i = b.drop i)
  | 0, _, h, _ => by omega
  | q + 1, i, hq, hi => by
    unfold m_slices_EqualFunc_sNode_l1
    by_cases h : i < a.length
    · have h' : i < b.length := by omega
      rw [dec_t (Int.ofNat_lt.2 h), cond_true, at_get h, at_get h']
      obtain ⟨y, f1, f2⟩ := hF _ (List.getElem_mem h) _ (List.getElem_mem h')
      have d1 := List.drop_eq_getElem_cons h
      have d2 := List.drop_eq_getElem_cons h'
      rcases e : a[i] with ⟨x1, x2, x3, x4⟩
      rcases e' : b[i] with ⟨y1, y2, y3, y4⟩
      rw [e, e'] at f1 f2
      rw [e] at d1
      rw [e'] at d2
      simp only [Option.bind_some, f1]
      cases y with
      | false =>
        refine ⟨false, rfl, ⟨(fun h => by cases h), fun h => ?_⟩⟩
        rw [d1, d2] at h
        exact f2.2 (List.cons.inj h).1
      | true =>
        simp only [Bool.not_true, cond_false]
        rw [wi_succ (by omega)]
        obtain ⟨z, g1, g2⟩ := nsame_loop hF hl hb q (i + 1) (by omega) (by omega)
        refine ⟨z, g1, ?_⟩
        rw [d1, d2, g2, f2.1 rfl]
        simp
    · rw [dec_f (by omega), cond_false]
      obtain rfl : i = a.length := by omega
      refine ⟨true, rfl, ?_⟩
      rw [List.drop_length, hl, List.drop_length]
      simp
theorem node_Equal_eq : ∀ N : Nat, (∀ x y : Nd, 2 * x.cnt < N → x.cnt ≤ 67108864 → ∃ r, m_node_Equal N x y = some r ∧ (r = true ↔ x = y)) ∧
    (∀ a b : List Nd, 2 * Nd.cnts a + 1 < N → Nd.cnts a ≤ 67108864 → ∃ r, m_slices_EqualFunc_sNode N a b = some r ∧ (r = true ↔ a = b))
  | 0 => ⟨fun _ _ h _ => by omega, fun _ _ h _ => by omega⟩
  | n + 1 => by
    obtain ⟨ih1, ih2⟩ := node_Equal_eq n
    refine ⟨fun x y h hx => ?_, fun a b h ha => ?_⟩
    · obtain ⟨a, b, c, d⟩ := x
      obtain ⟨a', b', c', d'⟩ := y
      simp only [Nd.cnt] at h hx
      obtain ⟨r, h1, h2⟩ := ih2 d d' (by omega) (by omega)
      unfold m_node_Equal
      simp only [h1, Option.bind_some]
      cases e1 : a == a' with
      | false => exact ⟨false, rfl, ⟨(fun h => by cases h), fun h => by cases h; simp at e1⟩⟩
      | true =>
        cases e2 : b == b' with
        | false => exact ⟨false, rfl, ⟨(fun h => by cases h), fun h => by cases h; simp at e2⟩⟩
        | true =>
          cases e3 : c == c' with
          | false => exact ⟨false, rfl, ⟨(fun h => by cases h), fun h => by cases h; simp at e3⟩⟩
          | true =>
            refine ⟨r, rfl, h2.trans ⟨fun h => ?_, fun h => by cases h; rfl⟩⟩
            rw [eq_of_beq e1, eq_of_beq e2, eq_of_beq e3, h]
    · unfold m_slices_EqualFunc_sNode
      have l1 := Nd.cnts_len a
      by_cases hl : a.length = b.length
      · obtain ⟨y, g1, g2⟩ := nsame_loop (F := m_node_Equal n) (a := a) (b := b) (fun u hu v _ => ih1 u v (by have := Nd.cnts_mem hu; omega) (by have := Nd.cnts_mem hu; omega)) hl (by omega) n 0 (by omega) (by omega)
        rw [show ((0 : Nat) : Int) = 0 from rfl] at g1
        rw [hl, bne_self_eq_false, cond_false, g1]
        refine ⟨y, by cases y <;> rfl, g2⟩
      · have : ((a.length : Int) != (b.length : Int)) = true := by
          unfold bne
          rw [ne_beq (by omega)]; rfl
        rw [this]
        exact ⟨false, rfl, ⟨(fun h => by cases h), fun h => absurd (congrArg List.length h) hl⟩⟩
theorem NodeEqual_eq (a b : Nd) (ha : a.w ≤ 1048576) (hb : b.w ≤ 1048576) : m_l09_NodeEqual 70000000 a b = some true := by
  have hw := awake9_ok 70000000 (by decide)
  obtain ⟨y, f1, _⟩ := few9_eq 70000000 a (by decide)
  obtain ⟨z, g1, _⟩ := few9_eq 70000000 b (by decide)
  have ca := Nd.cnt_w a
  have cb := Nd.cnt_w b
  obtain ⟨r1, p1, p2⟩ := (node_Equal_eq 70000000).1 a b (by omega) (by omega)
  obtain ⟨r2, q1, q2⟩ := (Equal_eq 70000000).1 a b (by omega) (by omega)
  obtain ⟨r3, s1, s2⟩ := (node_Equal_eq 70000000).1 b a (by omega) (by omega)
  obtain ⟨r4, t1, t2⟩ := (node_Equal_eq 70000000).1 a a (by omega) (by omega)
  have e12 : r1 = r2 := Bool.eq_iff_iff.2 (p2.trans q2.symm)
  have e13 : r1 = r3 := Bool.eq_iff_iff.2 (p2.trans ⟨fun h => s2.2 h.symm, fun h => (s2.1 h).symm⟩)
  have e4 : r4 = true := t2.2 rfl
  subst e12; subst e13; subst e4
  generalize 70000000 = n at *
  obtain ⟨a1, a2, a3, a4⟩ := a
  obtain ⟨b1, b2, b3, b4⟩ := b
  unfold m_l09_NodeEqual
  simp only [hw, f1, g1, p1, q1, s1, t1, Option.bind_some, cond_true, cond_false, Bool.not_true, beq_self_eq_true]
  cases y <;> cases z <;> rfl

/- Validity. -/
theorem slots_eq (v : Nd) : m_node_Slots v = m_r09_Slots v ∧ ∃ m, m_r09_Slots v = some m := by
  obtain ⟨a, b, c, d⟩ := v
  unfold m_node_Slots m_r09_Slots
  exact ⟨rfl, bif a == 1 then 0 else (d.length : Int), by
    show (bif a == 1 then some (0 : Int) else some (d.length : Int)) = some (bif a == 1 then 0 else (d.length : Int))
    cases a == 1 <;> rfl⟩
theorem nv_loop (ks : List Nd) (hl : ks.length ≤ 1073741824) : ∀ (q i : Nat), ks.length - i < q → i ≤ ks.length → m_l09_NodeValid_l1 ks q (i : Int) = some (.go ())
  | 0, _, h, _ => by omega
  | q + 1, i, hq, hi => by
    unfold m_l09_NodeValid_l1
    by_cases h : i < ks.length
    · rw [dec_t (Int.ofNat_lt.2 h), cond_true, at_get h]
      rcases e : ks[i] with ⟨e1, e2, e3, e4⟩
      obtain ⟨h1, m, h2⟩ := slots_eq (.mk e1 e2 e3 e4)
      simp only [Option.bind_some, h1, h2, bne_self_eq_false, cond_false]
      rw [wi_succ (by omega)]
      exact nv_loop ks hl q (i + 1) (by omega) (by omega)
    · rw [dec_f (by omega), cond_false]
theorem NodeValid_eq (a : Nd) (ha : a.w ≤ 1048576) : m_l09_NodeValid 70000000 a = some true := by
  have hw := awake9_ok 70000000 (by decide)
  obtain ⟨y, f1, _⟩ := Few_eq 70000000 a 1100 (by omega) (by omega)
  rw [show ((1100 : Nat) : Int) = 1100 from rfl] at f1
  have e1 := node_Valid_eq 70000000 a (by omega) (by omega)
  have e2 := r09_Valid_eq 70000000 a (by omega) (by omega)
  obtain ⟨s1, m, s2⟩ := slots_eq a
  have hwa : a.w = a.text.length + Nd.ws a.kids + 1 := by cases a; rfl
  have e3 := node_Valid_eq 70000000 (.mk 1 [] 0 a.kids) (by simp only [Nd.w, List.length_nil]; omega) (by simp only [Nd.w, List.length_nil]; omega)
  have e4 := r09_Valid_eq 70000000 (.mk 1 [] 0 a.kids) (by simp only [Nd.w, List.length_nil]; omega) (by simp only [Nd.w, List.length_nil]; omega)
  have hlk := Nd.ws_len a.kids
  have e5 := nv_loop a.kids (by omega) 70000000 0 (by omega) (by omega)
  rw [show ((0 : Nat) : Int) = 0 from rfl] at e5
  generalize 70000000 = n at *
  obtain ⟨a1, a2, a3, a4⟩ := a
  simp only [Nd.kids] at e3 e4 e5
  unfold m_l09_NodeValid m_node_ValidItems m_r09_ValidItems m_r09_ToRow
  simp only [hw, f1, e1, e2, e3, e4, e5, s1, s2, Option.bind_some, cond_true, cond_false, Bool.not_true, beq_self_eq_true]
  cases y <;> rfl

/- Sizes. -/
def mxS : List (Nd × Nat) → Nat
  | [] => 0
  | p :: r => Nat.max (p.2 + p.1.dep - 1) (mxS r)
theorem nmax_def (a b : Nat) : Nat.max a b = if a ≤ b then b else a := rfl
theorem mxS_append : ∀ a b : List (Nd × Nat), mxS (a ++ b) = Nat.max (mxS a) (mxS b)
  | [], b => by simp only [List.nil_append, mxS]; exact (Nat.max_eq_right (Nat.zero_le _)).symm
  | p :: a, b => by
    simp only [List.cons_append, mxS, mxS_append a b]
    exact (Nat.max_assoc _ _ _).symm
theorem mxS_kids (d : Nat) : ∀ ks : List Nd, Nat.max d (mxS (ks.map fun v => (v, d + 1))) = d + Nd.deps ks
  | [] => by simp only [List.map_nil, mxS, Nd.deps]; exact Nat.max_eq_left (Nat.zero_le _)
  | v :: vs => by
    have ih := mxS_kids d vs
    simp only [List.map_cons, mxS, Nd.deps]
    simp only [nmax_def] at ih ⊢
    have := v.dep_pos
    repeat' split at ih
    all_goals (repeat' split)
    all_goals omega
def cntS (L : List (Nd × Nat)) : Nat := Nd.cnts (L.map (·.1))
theorem cntS_append (a b : List (Nd × Nat)) : cntS (a ++ b) = cntS a + cntS b := by simp [cntS, Nd.cnts_append]
theorem dloop2 (d : Nat) (hd : d ≤ 1073741824) {ks : List Nd} : ∀ (k i : Nat) (L : List (Nd × Nat)), ks.length - i < k → i ≤ ks.length → L.length + (ks.length - i) ≤ 1073741824 → ks.length ≤ 1073741824 →
    m_node_each_depth_l2 ks (d : Int) k (i : Int) (L.map entI) = some ((L ++ (ks.drop i).map fun v => (v, d + 1)).map entI)
  | 0, _, _, h, _, _, _ => by omega
  | k + 1, i, L, hk, hi, hl, hlk => by
    unfold m_node_each_depth_l2
    by_cases h : i < ks.length
    · rw [dec_t (Int.ofNat_lt.2 h), cond_true, at_get h]
      have hdr := List.drop_eq_getElem_cons h
      rcases e : ks[i] with ⟨a, b, c, e4⟩
      rw [e] at hdr
      simp only [Option.bind_some]
      rw [req_t (by simp; omega), wi_succ (by omega), wi_succ (by omega)]
      have e2 : L.map entI ++ [(Nd.mk a b c e4, ((d + 1 : Nat) : Int))] = (L ++ [(Nd.mk a b c e4, d + 1)]).map entI := by simp [entI]
      rw [e2, dloop2 d hd k (i + 1) _ (by omega) (by omega) (by simp; omega) hlk, hdr]
      simp
    · rw [dec_f (by omega), cond_false]
      obtain rfl : i = ks.length := by omega
      simp
theorem cntS_len (L : List (Nd × Nat)) : L.length ≤ cntS L := by
  have := Nd.cnts_len (L.map (·.1)); simpa [cntS] using this
theorem deps_mem : ∀ {ks : List Nd} {v : Nd}, v ∈ ks → v.dep ≤ Nd.deps ks
  | u :: ks, v, h => by
    simp only [Nd.deps, nmax_def]
    rcases List.mem_cons.1 h with rfl | h
    · split <;> omega
    · have := deps_mem h; split <;> omega
theorem dloop1 (n : Nat) : ∀ (k : Nat) (x : Nat) (L : List (Nd × Nat)), cntS L < k → cntS L < n → cntS L ≤ 67108864 → (∀ p ∈ L, p.2 + p.1.dep ≤ 67108864) → x ≤ 67108864 → m_node_each_depth_l1 n k (x : Int) (L.map entI) = some ((Nat.max x (mxS L) : Nat) : Int)
  | 0, _, _, h, _, _, _, _ => by omega
  | k + 1, x, L, hk, hn, hb, hL, hx => by
    unfold m_node_each_depth_l1
    rcases List.eq_nil_or_concat L with rfl | ⟨L, ⟨v, d⟩, rfl⟩
    · simp only [List.map_nil, List.length_nil, mxS]
      rw [show Nat.max x 0 = x from Nat.max_eq_left (Nat.zero_le _)]; rfl
    · rw [List.concat_eq_append] at *
      have hdv : d + v.dep ≤ 67108864 := hL (v, d) (by simp)
      obtain ⟨a, b, c, ks⟩ := v
      have hs : cntS (L ++ [(Nd.mk a b c ks, d)]) = cntS L + (Nd.cnts ks + 1) := by rw [cntS_append]; simp [cntS, Nd.cnts, Nd.cnt]
      have hll := cntS_len L
      have hlk := Nd.cnts_len ks
      simp only [Nd.dep] at hdv
      have hlen : ((List.map entI (L ++ [(Nd.mk a b c ks, d)])).length : Int) = (L.length : Int) + 1 := by simp
      have hw : IntKind.i64.wrap (((List.map entI (L ++ [(Nd.mk a b c ks, d)])).length : Int) - 1) = (L.length : Int) := by rw [hlen, wrap64_in (by omega) (by omega)]; omega
      have hat : at? (List.map entI (L ++ [(Nd.mk a b c ks, d)])) (L.length : Int) = some (Nd.mk a b c ks, (d : Int)) := by
        rw [at_get (by simp)]; simp [entI]
      rw [dec_t (by omega), cond_true, hw, hat]
      simp only [Option.bind_some]
      rw [req_t (by omega)]
      have ht : List.take L.length (List.map entI (L ++ [(Nd.mk a b c ks, d)])) = L.map entI := by simp
      have hm : (if (x : Int) < (d : Int) then (d : Int) else (x : Int)) = ((Nat.max x d : Nat) : Int) := by
        rw [nmax_def]; split <;> split <;> omega
      simp only [m_node_Depth_1, Option.bind_some, Int.toNat_natCast, ht, hm]
      have hl2 := dloop2 d (by omega) (ks := ks) n 0 L (by omega) (by omega) (by omega) (by omega)
      rw [show ((0 : Nat) : Int) = 0 from rfl, List.drop_zero] at hl2
      have hc2 : cntS (ks.map fun v => (v, d + 1)) = Nd.cnts ks := by simp [cntS, Function.comp_def]
      rw [hl2, Option.bind_some, dloop1 n k _ _ (by rw [cntS_append, hc2]; omega) (by rw [cntS_append, hc2]; omega) (by rw [cntS_append, hc2]; omega) ?_ (by rw [nmax_def]; split <;> omega)]
      · rw [mxS_append, mxS_append]
        have hmk := mxS_kids d ks
        have hone : mxS [(Nd.mk a b c ks, d)] = d + Nd.deps ks := by
          simp only [mxS, Nd.dep]
          rw [show Nat.max (d + (Nd.deps ks + 1) - 1) 0 = d + (Nd.deps ks + 1) - 1 from Nat.max_eq_left (Nat.zero_le _)]; omega
        rw [hone, ← hmk]
        congr 2
        simp only [nmax_def]
        repeat' split
        all_goals omega
      · intro p hp
        rcases List.mem_append.1 hp with hp | hp
        · exact hL p (by simp [hp])
        · obtain ⟨v, hv, rfl⟩ := List.mem_map.1 hp
          have : v.dep ≤ Nd.deps ks := deps_mem hv
          show d + 1 + v.dep ≤ 67108864
          omega
theorem node_Depth_eq (n : Nat) (t : Nd) (h : t.cnt < n) (hb : t.cnt ≤ 67108863) : m_node_Depth n t = some (t.dep : Int) := by
  have hd := Nd.dep_cnt t
  obtain ⟨a, b, c, ks⟩ := t
  have hl := dloop1 n n 0 [(.mk a b c ks, 1)] (by simpa [cntS, Nd.cnts] using h) (by simpa [cntS, Nd.cnts] using h) (by simp only [cntS, List.map_cons, List.map_nil, Nd.cnts]; omega) (fun p hp => by simp only [List.mem_singleton] at hp; subst hp; show 1 + (Nd.mk a b c ks).dep ≤ 67108864; omega) (by omega)
  have e : List.map entI [(Nd.mk a b c ks, 1)] = [(Nd.mk a b c ks, 1)] := rfl
  rw [e, show ((0 : Nat) : Int) = 0 from rfl] at hl
  unfold m_node_Depth m_node_each_depth
  simp only [hl, Option.bind_some]
  congr 2
  have hp := (Nd.mk a b c ks).dep_pos
  simp only [mxS, nmax_def]
  repeat' split
  all_goals omega
theorem NodeSizes_eq (a : Nd) (ha : a.w ≤ 1048576) : m_l09_NodeSizes 70000000 a = some true := by
  have hw := awake9_ok 70000000 (by decide)
  have ca := Nd.cnt_w a
  obtain ⟨y, f1, _⟩ := few9_eq 70000000 a (by omega)
  have e1 := node_Count_eq 70000000 a (by omega) (by omega)
  have e2 := r09_Count_eq 70000000 a (by omega) (by omega)
  have e3 := node_Depth_eq 70000000 a (by omega) (by omega)
  have e4 := r09_Depth_eq 70000000 a (by omega) (by omega)
  generalize 70000000 = n at *
  obtain ⟨a1, a2, a3, a4⟩ := a
  unfold m_l09_NodeSizes
  simp only [hw, f1, e1, e2, e3, e4, Option.bind_some, cond_true, cond_false, Bool.not_true, beq_self_eq_true]
  cases y <;> rfl
end Go.Proofs.YtefbmooajknmgaaDoor
