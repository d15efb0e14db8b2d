/-
  THE PROGRAM'S TABLE: it holds the distance too.
-/
import Derived.Test.YtefbmooajknmgaaDoorPDist
set_option linter.unusedVariables false
set_option linter.unusedSimpArgs false
namespace Go.Proofs.YtefbmooajknmgaaDoor
open Go.Abs

def cntI (x : Nd) : Int := (x.cnt : Int)
theorem sizes_loop (n : Nat) {l : List Nd} (hn : ∀ v ∈ l, v.cnt < n) (hb : Nd.cnts l ≤ 1048576) : ∀ (q i : Nat), l.length - i < q → i ≤ l.length →
    m_diff_sizes_l1 n l q (i : Int) ((l.take i).map cntI ++ List.replicate (l.length - i) 0) = some (l.map cntI)
  | 0, _, h, _ => by omega
  | q + 1, i, hq, hi => by
    have l1 := Nd.cnts_len l
    unfold m_diff_sizes_l1
    by_cases h : i < l.length
    · rw [dec_t (Int.ofNat_lt.2 h), cond_true, at_get h]
      have hm := List.getElem_mem h
      have hc := node_Count_eq n _ (hn _ hm) (by have := Nd.cnts_mem hm; omega)
      have ht : l.take (i + 1) = l.take i ++ [l[i]] := List.take_append_getElem h ▸ rfl
      rcases e : l[i] with ⟨a, b, c, d⟩
      rw [e] at hc ht
      simp only [Option.bind_some, hc]
      have hlen : ((l.take i).map cntI).length = i := by simp; omega
      obtain ⟨m, hm⟩ : ∃ m, l.length - i = m + 1 := ⟨l.length - i - 1, by omega⟩
      have hg : at? ((l.take i).map cntI ++ List.replicate (l.length - i) (0 : Int)) (i : Int) = some 0 := by
        unfold at?
        rw [if_pos (by omega), Int.toNat_natCast, List.getElem?_append_right (by omega), hlen, hm]
        simp
      rw [hg, Option.bind_some, wi_succ (by omega), Int.toNat_natCast]
      have hs : ((l.take i).map cntI ++ List.replicate (l.length - i) (0 : Int)).set i ((Nd.mk a b c d).cnt : Int) = (l.take (i + 1)).map cntI ++ List.replicate (l.length - (i + 1)) 0 := by
        rw [List.set_append_right _ _ (by omega), hlen, Nat.sub_self, hm, ht, show l.length - (i + 1) = m by omega, List.replicate_succ, List.set_cons_zero, List.map_append]
        simp [cntI]
      rw [hs]
      exact sizes_loop n hn hb q (i + 1) (by omega) (by omega)
    · rw [dec_f (by omega), cond_false]
      obtain rfl : i = l.length := by omega
      simp
theorem sizes_eq (n : Nat) (l : List Nd) (hn : Nd.cnts l + 1 < n) (hb : Nd.cnts l ≤ 1048576) : m_diff_sizes n l = some (l.map cntI) := by
  have l1 := Nd.cnts_len l
  have := sizes_loop n (l := l) (fun v hv => by have := Nd.cnts_mem hv; omega) hb n 0 (by omega) (by omega)
  rw [show ((0 : Nat) : Int) = 0 from rfl] at this
  simp only [List.take_zero, List.map_nil, List.nil_append, Nat.sub_zero] at this
  rw [m_diff_sizes, req_t ⟨by omega, by omega⟩, Int.toNat_natCast, this]; rfl
theorem flast_eq : ∀ b : List Nd, Nd.cnts b ≤ 1048576 → m_diff_fill_last (b.map cntI) = sufs (TD D []) b
  | [], _ => rfl
  | y :: ys, hb => by
    simp only [Nd.cnts] at hb
    have hf : TD D [] ys = Nd.cnts ys := rfl
    rw [List.map_cons, m_diff_fill_last, flast_eq ys (by omega), sufs_headD, hf, cntI, wrap64_in (by omega) (by omega), sufs, show TD D [] (y :: ys) = y.cnt + Nd.cnts ys from rfl]
    congr 1; omega
def prI (x y : Nd) : Int := bif alikeB x y then (D x y : Int) else -1
theorem frow_eq {F : Nd → Nd → Option Int} {x : Nd} {f : List Nd → Nat} {c : Nat} (hx : x.cnt ≤ 1048576) (hc : c ≤ 1048576) (hf : ∀ b, f b ≤ c + Nd.cnts b) :
    ∀ (b : List Nd), (∀ y ∈ b, F x y = some (prI x y)) → Nd.cnts b ≤ 1048576 → m_diff_fill_row F x (x.cnt : Int) b (b.map cntI) (sufs f b) = some (sufs (rowD D x f) b, b.map (prI x))
  | [], _, _ => by
    have := hf []
    simp only [Nd.cnts] at this
    simp only [sufs, List.map_nil, m_diff_fill_row, rowD]
    rw [wrap64_in (by omega) (by omega), Nat.add_comm]; rfl
  | y :: ys, h1, hb => by
    simp only [Nd.cnts] at hb
    have g1 := hf (y :: ys)
    simp only [Nd.cnts] at g1
    have g2 := hf ys
    have g3 := rowD_le (P := D) (x := x) hf ys
    have g4 := D_le x y
    have ih := frow_eq (F := F) hx hc hf ys (fun y hy => h1 y (List.mem_cons_of_mem _ hy)) (by omega)
    obtain ⟨r, hr⟩ := sufs_head f ys
    rw [sufs, hr, List.map_cons, m_diff_fill_row, ← hr, ih, Option.bind_some, h1 y List.mem_cons_self, Option.bind_some]
    dsimp only
    rw [sufs_headD, cntI, wrap64_in (n := (f (y :: ys) : Int) + (x.cnt : Int)) (by omega) (by omega), wrap64_in (n := (rowD D x f ys : Int) + _) (by omega) (by omega), ← Int.natCast_add, ← Int.natCast_add, min_pick, Nat.add_comm (f (y :: ys)), Nat.add_comm (rowD D x f ys)]
    unfold prI
    cases ha : alikeB x y with
    | false =>
      simp only [cond_false, sufs, rowD, ha, List.map_cons]
      rw [if_neg (by omega)]
      simp [prI, ha]
    | true =>
      simp only [cond_true]
      rw [if_pos (by omega), wrap64_in (by omega) (by omega), ← Int.natCast_add, min_pick, Nat.min_comm, Nat.add_comm (f ys)]
      simp [sufs, rowD, ha, prI]
theorem frows_eq {F : Nd → Nd → Option Int} {b : List Nd} (hb : Nd.cnts b ≤ 1048576) :
    ∀ (a : List Nd), (∀ x ∈ a, ∀ y ∈ b, F x y = some (prI x y)) → Nd.cnts a ≤ 1048576 → m_diff_fill_rows F b (b.map cntI) a (a.map cntI) = some (tabD D a b, a.map fun x => b.map (prI x))
  | [], _, _ => by rw [List.map_nil, m_diff_fill_rows, flast_eq b hb]; rfl
  | x :: xs, h1, ha => by
    simp only [Nd.cnts] at ha
    rw [List.map_cons, m_diff_fill_rows, frows_eq hb xs (fun y hy => h1 y (List.mem_cons_of_mem _ hy)) (by omega), Option.bind_some]
    obtain ⟨r, hr⟩ := tabD_head D xs b
    rw [hr]
    dsimp only
    rw [cntI, frow_eq (c := Nd.cnts xs) (by omega) (by omega) (TD_le xs) b (h1 x List.mem_cons_self) hb, Option.bind_some, ← hr]
    rfl
theorem pairing_loop {F : List Nd → List Nd → Option (List (List Int) × List (List Int) × List Int × List Int)} {a b : List Nd} (hF : ∀ u ∈ a, ∀ v ∈ b, ∃ p, F u.kids v.kids = some (tabD D u.kids v.kids, p)) (hl : a.length = b.length) (ha : Nd.cnts a ≤ 1048576) :
    ∀ (q i o : Nat), a.length - i < q → i ≤ a.length → o + sumD DL (a.drop i) (b.drop i) ≤ 4000000 → m_diff_pairing_l1 F a b q (o : Int) (i : Int) = some ((o + sumD DL (a.drop i) (b.drop i) : Nat) : Int)
  | 0, _, _, h, _, _ => by omega
  | q + 1, i, o, hq, hi, ho => by
    have l1 := Nd.cnts_len a
    unfold m_diff_pairing_l1
    by_cases h : i < a.length
    · have h' : i < b.length := by omega
      rw [dec_t (Int.ofNat_lt.2 h), cond_true, at_get h, at_get h']
      obtain ⟨p, hf⟩ := hF _ (List.getElem_mem h) _ (List.getElem_mem h')
      have hs := sum_drop (f := DL) h h'
      rcases e : a[i] with ⟨x1, x2, x3, x4⟩
      rcases e' : b[i] with ⟨y1, y2, y3, y4⟩
      rw [e, e'] at hf hs
      simp only [Nd.kids] at hf hs
      obtain ⟨r, r1, r2⟩ := tab00 D x4 y4
      have hd : TD D x4 y4 = DL x4 y4 := rfl
      rw [hd] at r2
      obtain ⟨p1, p2, p3⟩ := p
      simp only [Option.bind_some, hf, r1, r2]
      rw [wi_succ (by omega), wrap64_in (by omega) (by omega), ← Int.natCast_add, pairing_loop hF hl ha q (i + 1) _ (by omega) (by omega) (by omega)]
      congr 2; omega
    · rw [dec_f (by omega), cond_false]
      obtain rfl : i = a.length := by omega
      rw [List.drop_length]
      cases List.drop a.length b <;> rfl
theorem fill_eq : ∀ N : Nat, (∀ x y : Nd, 2 * x.cnt + 2 * y.cnt < N → x.cnt ≤ 1048576 → y.cnt ≤ 1048576 → m_diff_pairing N x y = some (prI x y)) ∧
    (∀ a b : List Nd, 2 * Nd.cnts a + 2 * Nd.cnts b + 2 < N → Nd.cnts a ≤ 1048576 → Nd.cnts b ≤ 1048576 → m_diff_fill N a b = some (tabD D a b, (a.map fun x => b.map (prI x)), a.map cntI, b.map cntI))
  | 0 => ⟨fun _ _ h _ _ => by omega, fun _ _ h _ _ => by omega⟩
  | n + 1 => by
    obtain ⟨ih1, ih2⟩ := fill_eq n
    refine ⟨fun x y h hx hy => ?_, fun a b h ha hb => ?_⟩
    · have e1 := x.cnt_kids
      have e2 := y.cnt_kids
      have hle := sumD_le x.kids y.kids
      have hD := D_eq x y
      have l1 := Nd.cnts_len x.kids
      have hF : ∀ u ∈ x.kids, ∀ v ∈ y.kids, ∃ p, m_diff_fill n u.kids v.kids = some (tabD D u.kids v.kids, p) := fun u hu v hv => by
        have := Nd.cnts_mem hu
        have := Nd.cnts_mem hv
        have := u.cnt_kids
        have := v.cnt_kids
        exact ⟨_, ih2 _ _ (by omega) (by omega) (by omega)⟩
      have ht := txt_le x y
      have hal : alikeB x y = true → x.kids.length = y.kids.length := alike_len
      have hlp : x.kids.length = y.kids.length → _ := fun hl => pairing_loop hF hl (by omega) n 0 (txt x y) (by omega) (by omega) (by simp only [List.drop_zero]; omega)
      rw [show ((0 : Nat) : Int) = 0 from rfl, List.drop_zero, List.drop_zero, ← hD] at hlp
      obtain ⟨a, b, c, d⟩ := x
      obtain ⟨a', b', c', d'⟩ := y
      unfold m_diff_pairing
      have e : (bif (!(b == b')) then some 1 else some 0 : Option Int) = some (txt (.mk a b c d) (.mk a' b' c' d') : Int) := by
        unfold txt
        simp only [Nd.text]
        cases b == b' <;> rfl
      have e3 : (bif (a != a') then some true else bif (c != c') then some true else some ((d.length : Int) != (d'.length : Int)) : Option Bool) = some (!alikeB (.mk a b c d) (.mk a' b' c' d')) := by
        unfold alikeB bne
        simp only [Nd.kind, Nd.kids, Nd.cols]
        cases a == a' <;> cases c == c' <;> cases ((d.length : Int) == (d'.length : Int)) <;> rfl
      rw [e, e3]
      unfold prI
      cases hab : alikeB (.mk a b c d) (.mk a' b' c' d') with
      | false => rfl
      | true =>
        simp only [Nd.kids] at hlp hal
        simp only [Option.bind_some, Bool.not_true, cond_false, cond_true]
        rw [hlp (hal hab)]; rfl
    · have l1 := Nd.cnts_len a
      have l2 := Nd.cnts_len b
      rw [m_diff_fill, sizes_eq n a (by omega) ha, sizes_eq n b (by omega) hb, Option.bind_some, Option.bind_some, req_t ⟨by omega, by omega, by simp⟩]
      rw [frows_eq hb a (fun x hx y hy => ?_) ha]
      · rfl
      · have := Nd.cnts_mem hy
        have := Nd.cnts_mem hx
        exact ih1 x y (by omega) (by omega) (by omega)

/- the cost -/
theorem diff_valid_eq (n : Nat) (a b : Nd) (ha : a.w + 45 < n) (ha' : a.w ≤ 67108864) (hb : b.w + 45 < n) (hb' : b.w ≤ 67108864) : m_diff_valid n a b = some (validB a && validB b) := by
  have e1 := node_Valid_eq n a ha ha'
  have e2 := node_Valid_eq n b hb hb'
  obtain ⟨a1, a2, a3, a4⟩ := a
  obtain ⟨b1, b2, b3, b4⟩ := b
  unfold m_diff_valid
  simp only [e1, e2, Option.bind_some]
  cases validB (.mk a1 a2 a3 a4) <;> rfl
theorem Cost_eq (n : Nat) (a b : Nd) (h : 2 * a.w + 2 * b.w + 50 < n) (ha : a.w ≤ 67108864) (hb : b.w ≤ 67108864) (ha2 : a.cnt ≤ 1048576) (hb2 : b.cnt ≤ 1048576) : m_diff_Cost n a b = some (bif validB a && validB b then ((DL a.kids b.kids : Int), 0) else (0, 1)) := by
  have e1 := diff_valid_eq n a b (by omega) ha (by omega) hb
  have c1 := Nd.cnt_w a
  have c2 := Nd.cnt_w b
  have k1 := a.cnt_kids
  have k2 := b.cnt_kids
  have e2 := (fill_eq n).2 a.kids b.kids (by omega) (by omega) (by omega)
  obtain ⟨r, r1, r2⟩ := tab00 D a.kids b.kids
  have hd : TD D a.kids b.kids = DL a.kids b.kids := rfl
  rw [hd] at r2
  obtain ⟨a1, a2, a3, a4⟩ := a
  obtain ⟨b1, b2, b3, b4⟩ := b
  simp only [Nd.kids] at e2 r1 r2
  unfold m_diff_Cost
  simp only [e1, Option.bind_some]
  cases validB (.mk a1 a2 a3 a4) && validB (.mk b1 b2 b3 b4) with
  | false => rfl
  | true => simp only [Bool.not_true, cond_false, e2, Option.bind_some, r1, r2, cond_true, Nd.kids]
end Go.Proofs.YtefbmooajknmgaaDoor
