/-
  Walks, printed by gw.py.
-/
import Derived.Test.YtplekejomocalaaDifWC
set_option linter.unusedVariables false
set_option linter.unusedSimpArgs false
namespace Go.Proofs.Ytplekejomocalaa
open Go.Abs

/- a knot: vinculum/diff.fill, vinculum/diff.pairing -/
theorem encs_get {l : List Nd} {i : Nat} {x : Nd} (h : l[i]? = some x) : (Nd.encs l).getD i [] = Nd.enc x := by
  simp [Nd.encs_eq, List.getD_eq_getElem?_getD, h]
theorem last_cons : ∀ (l : List Int), ∃ v vs, m_diff_fill_last l = v :: vs
  | [] => ⟨_, _, rfl⟩
  | _ :: _ => ⟨_, _, rfl⟩
theorem rows_len {F : Nd → Nd → Option Int} {b : List Nd} {other : List Int} : ∀ {xs : List Nd} {fs : List Int} {p : List (List Int) × List (List Int)}, m_diff_fill_rows F b other xs fs = some p → xs.length = fs.length
  | [], [], _, _ => rfl
  | [], _ :: _, _, h => by simp [m_diff_fill_rows] at h
  | _ :: _, [], _, h => by simp [m_diff_fill_rows] at h
  | x :: xs, f :: fs, p, h => by
    simp only [m_diff_fill_rows] at h
    obtain ⟨q, hq, _⟩ := bind_out h
    simp [rows_len hq]
theorem rows_drop {F : Nd → Nd → Option Int} {b : List Nd} {other : List Int} : ∀ {xs : List Nd} {fs : List Int} {p : List (List Int) × List (List Int)}, m_diff_fill_rows F b other xs fs = some p → ∀ i, i ≤ xs.length → ∃ q, m_diff_fill_rows F b other (xs.drop i) (fs.drop i) = some q
  | xs, fs, p, h, 0, _ => ⟨p, h⟩
  | [], _, _, _, i + 1, hi => by simp at hi
  | _ :: _, [], _, h, _ + 1, _ => by simp [m_diff_fill_rows] at h
  | x :: xs, f :: fs, p, h, i + 1, hi => by
    simp only [m_diff_fill_rows] at h
    obtain ⟨q, hq, _⟩ := bind_out h
    exact rows_drop hq i (by simpa using hi)
theorem row_len {F : Nd → Nd → Option Int} {x : Nd} {f : Int} : ∀ {ys : List Nd} {os vs : List Int} {p : List Int × List Int}, m_diff_fill_row F x f ys os vs = some p → os.length = ys.length ∧ vs.length = ys.length + 1 ∧ p.1.length = ys.length + 1 ∧ p.2.length = ys.length
  | [], [], [v], p, h => by simp only [m_diff_fill_row, Option.some.injEq] at h; subst h; simp
  | y :: ys, o :: os, v :: v2 :: vs, p, h => by
    simp only [m_diff_fill_row] at h
    obtain ⟨q, hq, h⟩ := bind_out h
    obtain ⟨c, hc, h⟩ := bind_out h
    have := row_len hq
    simp only [Option.some.injEq] at h
    subst h
    simp only [List.length_cons] at this ⊢
    omega
  | [], [], [], _, h => by simp [m_diff_fill_row] at h
  | [], [], _ :: _ :: _, _, h => by simp [m_diff_fill_row] at h
  | [], _ :: _, _, _, h => by simp [m_diff_fill_row] at h
  | _ :: _, [], _, _, h => by simp [m_diff_fill_row] at h
  | _ :: _, _ :: _, [], _, h => by simp [m_diff_fill_row] at h
  | _ :: _, _ :: _, [_], _, h => by simp [m_diff_fill_row] at h
theorem row_drop {F : Nd → Nd → Option Int} {x : Nd} {f : Int} : ∀ {ys : List Nd} {os vs : List Int} {p : List Int × List Int}, m_diff_fill_row F x f ys os vs = some p → ∀ j, j ≤ ys.length → ∃ q, m_diff_fill_row F x f (ys.drop j) (os.drop j) (vs.drop j) = some q
  | ys, os, vs, p, h, 0, _ => ⟨p, h⟩
  | y :: ys, o :: os, v :: v2 :: vs, p, h, j + 1, hj => by
    simp only [m_diff_fill_row] at h
    obtain ⟨q, hq, _⟩ := bind_out h
    exact row_drop hq j (by simpa using hj)
  | [], _, _, _, _, j + 1, hj => by simp at hj
  | _ :: _, [], _, _, h, _ + 1, _ => by simp [m_diff_fill_row] at h
  | _ :: _, _ :: _, [], _, h, _ + 1, _ => by simp [m_diff_fill_row] at h
  | _ :: _, _ :: _, [_], _, h, _ + 1, _ => by simp [m_diff_fill_row] at h
def enc_s_int (p : List Int) : List S := [.sl 1 ((List.map (irow .i64)) p)]
def enc_diff_grid (p : (List (List Int) × List (List Int) × List Int × List Int)) : List S := [.sl 1 ((List.map enc_s_int) p.1), .sl 1 ((List.map enc_s_int) p.2.1), .sl 1 ((List.map (irow .i64)) p.2.2.1), .sl 1 ((List.map (irow .i64)) p.2.2.2)]
def R_diff_fill (n : Nat) (xs : List AV) (r : Ret) : Prop := ∃ (a0 : List Nd) (a1 : List Nd) (y0 : (List (List Int) × List (List Int) × List Int × List Int)), m_diff_fill n a0 a1 = some y0 ∧ xs = [.s (.sl 4 (Nd.encs a0)), .s (.sl 4 (Nd.encs a1))] ∧ r = .val (.agg ((enc_diff_grid y0).map .s))
def R_diff_pairing (n : Nat) (xs : List AV) (r : Ret) : Prop := ∃ (a0 : Nd) (a1 : Nd) (y0 : Int), m_diff_pairing n a0 a1 = some y0 ∧ xs = [.s (.pt (Nd.enc a0)), .s (.pt (Nd.enc a1))] ∧ r = .val (.s (.int .i64 y0))
set_option maxHeartbeats 2000000 in
set_option maxRecDepth 100000 in
theorem step_diff_fill (n : Nat) (ih_diff_fill : PSound Try.prog 21 (pspec (R_diff_fill n))) (ih_diff_pairing : PSound Try.prog 32 (pspec (R_diff_pairing n))) : PSound Try.prog 21 (pspec (R_diff_fill (n + 1))) := by
  have gok : ∀ f s, look? f [(31, S_diff_sizes), (32, pspec (R_diff_pairing n))] = some s → PSound Try.prog f s := look_all (by
    simp only [List.forall_mem_cons]
    exact ⟨ok_diff_sizes, ih_diff_pairing, by simp⟩)
  refine psound tokW Try.call21 Try.func21 rfl (fun xs r h => by obtain ⟨_, _, _, _, rfl, _⟩ := h; show 2 ≤ 203; decide) 203 rfl ?_
  rintro xs r w0 G0 ⟨a, b, y0, h, rfl, rfl⟩ _
  rw [m_diff_fill] at h
  obtain ⟨first, hfirst, h⟩ := bind_out h
  obtain ⟨other, hother, h⟩ := bind_out h
  obtain ⟨hlen, h⟩ := req_out h
  obtain ⟨p, hp, h⟩ := bind_out h
  refine tri_seq ?_
  refine tri_region (by exact tokW) (by exact gok) [4] [] rfl ?_
  show Tri _ _ _ _
  refine tri_seq ?_
  refine tri_region (by exact tokW) (by exact gok) [5] [] rfl ?_
  refine ⟨_, ⟨_, _, _, hfirst, rfl, rfl⟩, ?_⟩
  refine ⟨_, ⟨_, _, _, hother, rfl, rfl⟩, ?_⟩
  show Tri _ _ _ _
  refine tri_seq ?_
  refine tri_region (by exact tokW) (by exact gok) [5] [15, 16] rfl ?_
  intro n1 hn1
  obtain rfl : (a.length : Int) = n1 := (hn1.trans (congrArg (fun m : Nat => (m : Int)) (rlen Nd.encs_eq a))).symm
  intro n2 hn2
  obtain rfl : ((a.length + 1 : Nat) : Int) = n2 := (hn2.trans (wi_succ (by omega))).symm
  refine And.intro (show 0 ≤ _ ∧ _ from ⟨by omega, Int.le_refl _, show ((a.length + 1 : Nat) : Int) * ((24 : Nat) : Int) ≤ 281474976710656 by omega, by omega⟩) ?_
  show Tri _ _ _ _
  refine tri_seq ?_
  refine tri_region (by exact tokW) (by exact gok) [5] [20] rfl ?_
  intro n1 hn1
  have e1 : (a.length : Int) = n1 := (hn1.trans (congrArg (fun m : Nat => (m : Int)) (rlen Nd.encs_eq a))).symm
  subst e1
  refine And.intro (show 0 ≤ _ ∧ _ from ⟨by omega, Int.le_refl _, show ((a.length : Nat) : Int) * ((24 : Nat) : Int) ≤ 281474976710656 by omega, by omega⟩) ?_
  show Tri _ _ _ _
  refine tri_seq ?_
  refine tri_seq ?_
  refine tri_region (by exact tokW) (by exact gok) [5] [24] rfl ?_
  intro n1 hn1
  have e1 : (a.length : Int) = n1 := (hn1.trans (congrArg (fun m : Nat => (m : Int)) (rlen Nd.encs_eq a))).symm
  subst e1
  show Tri _ _ _ _
  refine tri_post ⟨ofL [(0, .s (.sl 4 (Nd.encs a))), (1, .s (.sl 4 (Nd.encs b))), (4, .op 0 0), (5, .op 1 0)], ofH [(0, .box [.nl 1, .nl 1, .nl 1, .nl 1]), (1, .box [.orow 2, .orow 3, .s (.sl 1 (first.map (irow .i64))), .s (.sl 1 (other.map (irow .i64)))]), (2, .arow 35 1 (pcells p.1)), (3, .arow 35 1 (pcells p.2))], 4⟩ ?_ (fun σ' hle => ?_)
  · refine tri_block (tri_loopI (X := Nat × List (List Int) × List (List Int)) (fun y => match y with | (k, L, P) => ⟨ofL [(0, .s (.sl 4 (Nd.encs a))), (1, .s (.sl 4 (Nd.encs b))), (4, .op 0 0), (5, .op 1 0), (6, .s (.int .i64 ((k : Int) - 1)))], ofH [(0, .box [.nl 1, .nl 1, .nl 1, .nl 1]), (1, .box [.orow 2, .orow 3, .s (.sl 1 (first.map (irow .i64))), .s (.sl 1 (other.map (irow .i64)))]), (2, .arow 35 1 (nils k ++ pcells L)), (3, .arow 35 1 (nils (min k a.length) ++ pcells P))], 4⟩)
      (fun y => match y with | (k, L, P) => (k = a.length + 1 ∧ L = [] ∧ P = []) ∨ (k ≤ a.length ∧ m_diff_fill_rows (m_diff_pairing n) b other (a.drop k) (first.drop k) = some (L, P))) (fun y => y.1) (a.length + 1, [], []) (.inl ⟨rfl, rfl, rfl⟩) ?_ ?_)
    · refine Le.trans (Le.toA 2 rfl) (Le.trans (Le.toA 3 rfl) (Le.rename [(0, 0), (1, 1), (2, 2), (3, 3)] _ _ 4 ⟨rfl, rfl, rfl, rfl, ?_, trivial⟩ ⟨rfl, ⟨_, rfl, rfl⟩, rfl, ⟨_, rfl, rfl⟩, rfl, ⟨_, rfl, ?_⟩, rfl, ⟨_, rfl, ?_⟩, trivial⟩ rfl rfl rfl (by simp only [ltH, Ob.lt, lt_np]; rfl) rfl))
      · show AV.s (.int .i64 _) = AV.s (.int .i64 _)
        congr 2; omega
      · show Ob.arow 35 1 (((List.replicate (a.length + 1) [S.sl 1 []]).map (·.map AV.s)).map (AV.renAll _)) = _
        rw [toA_nils, ren_nils]; simp [pcells]
      · show Ob.arow 35 1 (((List.replicate a.length [S.sl 1 []]).map (·.map AV.s)).map (AV.renAll _)) = _
        rw [toA_nils, ren_nils]; simp [pcells]
    · rintro ⟨k, L, P⟩ hI
      refine tri_seq ?_
      refine tri_seq ?_
      refine tri_region (by exact tokW) (by exact gok) [] [26] rfl ?_
      intro b26 h26
      show Tri _ _ _ _
      refine tri_cond rfl (fun hb => ?_) (fun hb => ?_)
      · refine tri_skip ?_
        show Tri _ _ _ _
        have hk : 1 ≤ k := by
          rw [h26] at hb
          have := of_decide_eq_true hb; omega
        obtain ⟨i, rfl⟩ : ∃ i, k = i + 1 := ⟨k - 1, by omega⟩
        refine tri_le (Le.forget [(0, .s (.sl 4 (Nd.encs a))), (1, .s (.sl 4 (Nd.encs b))), (4, .op 0 0), (5, .op 1 0), (6, .s (.int .i64 (i : Int)))] ⟨rfl, rfl, rfl, rfl, congrArg (fun z => AV.s (.int .i64 z)) (by omega), trivial⟩) ?_
        refine tri_seq ?_
        refine tri_block ?_
        refine tri_seq ?_
        refine tri_drawnR (by exact tokW) (by exact gok) (by exact mixed) [35] [33, 34] [1, 6, 7, 8] [1, 7] rfl (by decide +kernel) ?_
        intro n1 hn1
        obtain rfl : (b.length : Int) = n1 := (hn1.trans (congrArg (fun m : Nat => (m : Int)) (rlen Nd.encs_eq b))).symm
        intro n2 hn2
        obtain rfl : ((b.length + 1 : Nat) : Int) = n2 := (hn2.trans (wi_succ (by omega))).symm
        refine And.intro (show 0 ≤ _ ∧ _ from ⟨by omega, Int.le_refl _, show ((b.length + 1 : Nat) : Int) * ((8 : Nat) : Int) ≤ 281474976710656 by omega, by omega⟩) ?_
        have hlt1 : i < (nils (i + 1) ++ pcells L).length := by simp [nils]; omega
        refine And.intro ⟨Int.natCast_nonneg _, Int.ofNat_lt.2 hlt1⟩ ?_
        refine And.intro hlt1 ?_
        refine tri_le (σ' := ⟨ofL [(0, .s (.sl 4 (Nd.encs a))), (1, .s (.sl 4 (Nd.encs b))), (4, .op 0 0), (5, .op 1 0), (6, .s (.int .i64 (i : Int)))], ofH [(0, .box [.nl 1, .nl 1, .nl 1, .nl 1]), (1, .box [.orow 2, .orow 3, .s (.sl 1 (first.map (irow .i64))), .s (.sl 1 (other.map (irow .i64)))]), (2, .arow 35 1 (nils i ++ [.orow 4] :: pcells L)), (3, .arow 35 1 (nils (min (i + 1) a.length) ++ pcells P)), (4, .row 3 1 ((List.replicate (b.length + 1) 0).map (irow .i64)))], 5⟩) (Le.rename [(0, 0), (1, 1), (2, 2), (3, 3), (4, 4)] _ _ 5 ⟨rfl, rfl, rfl, rfl, rfl, trivial⟩ ⟨rfl, ⟨_, rfl, rfl⟩, rfl, ⟨_, rfl, rfl⟩, rfl, ⟨_, rfl, ?_⟩, rfl, ⟨_, rfl, ?_⟩, rfl, ⟨_, rfl, ?_⟩, trivial⟩ rfl rfl rfl ?_ rfl) ?_
        · show Ob.arow 35 1 (List.map (AV.renAll _) ((nils (i + 1) ++ pcells L).set i (((nils (i + 1) ++ pcells L).getD i []).take 0 ++ [AV.orow 4] ++ ((nils (i + 1) ++ pcells L).getD i []).drop 1))) = _
          rw [getD_nil', show ([AV.s (S.sl 1 [])].take 0 ++ [AV.orow 4] ++ [AV.s (S.sl 1 [])].drop 1) = [AV.orow 4] from rfl, set_nils]
          simp [ren_nils, ren_persL, AV.renAll, AV.ren, look]
          rfl
        · show Ob.arow 35 1 (List.map (AV.renAll _) (nils (min (i + 1) a.length) ++ pcells P)) = _
          simp [ren_nils, ren_persL]
        · show Ob.row 3 1 (List.replicate (b.length + 1) [S.int .i64 0]) = _
          simp [irow]
        · simp only [ltH, Ob.lt, lt_np, lt_1]; rfl
        rcases hI with ⟨hin, rfl, rfl⟩ | ⟨hin, hrows⟩
        · obtain rfl : i = a.length := by omega
          refine tri_seq ?_
          refine tri_seq ?_
          refine tri_region (by exact tokW) (by exact gok) [] [39, 40] rfl ?_
          intro n1 hn1
          obtain rfl : (a.length : Int) = n1 := (hn1.trans (congrArg (fun m : Nat => (m : Int)) (rlen Nd.encs_eq a))).symm
          intro b40 h40
          obtain rfl : false = b40 := (h40.trans (decide_eq_false (Int.lt_irrefl _))).symm
          show Tri _ _ _ _
          refine tri_cond rfl (fun h => by cases h) (fun _ => ?_)
          refine tri_skip ?_
          show Tri _ _ _ _
          refine tri_seq ?_
          refine tri_region (by exact tokW) (by exact gok) [] [49] rfl ?_
          intro n1 hn1
          obtain rfl : (b.length : Int) = n1 := (hn1.trans (congrArg (fun m : Nat => (m : Int)) (rlen Nd.encs_eq b))).symm
          show Tri _ _ _ _
          refine tri_post ⟨ofL [(0, .s (.sl 4 (Nd.encs a))), (1, .s (.sl 4 (Nd.encs b))), (4, .op 0 0), (5, .op 1 0), (6, .s (.int .i64 (a.length : Int)))], ofH [(0, .box [.nl 1, .nl 1, .nl 1, .nl 1]), (1, .box [.orow 2, .orow 3, .s (.sl 1 (first.map (irow .i64))), .s (.sl 1 (other.map (irow .i64)))]), (2, .arow 35 1 (nils a.length ++ [.orow 4] :: pcells [])), (3, .arow 35 1 (nils (min (a.length + 1) a.length) ++ pcells [])), (4, .row 3 1 ((m_diff_fill_last other).map (irow .i64)))], 5⟩ ?_ (fun σ' hle => ?_)
          · refine tri_block (tri_loopI (X := Nat × List Int) (fun y => match y with | (k, rd) => ⟨ofL [(0, .s (.sl 4 (Nd.encs a))), (1, .s (.sl 4 (Nd.encs b))), (4, .op 0 0), (5, .op 1 0), (6, .s (.int .i64 (a.length : Int))), (7, .s (.int .i64 ((k : Int) - 1)))], ofH [(0, .box [.nl 1, .nl 1, .nl 1, .nl 1]), (1, .box [.orow 2, .orow 3, .s (.sl 1 (first.map (irow .i64))), .s (.sl 1 (other.map (irow .i64)))]), (2, .arow 35 1 (nils a.length ++ [.orow 4] :: pcells [])), (3, .arow 35 1 (nils (min (a.length + 1) a.length) ++ pcells [])), (4, .row 3 1 ((List.replicate k 0 ++ rd).map (irow .i64)))], 5⟩)
              (fun y => match y with | (k, rd) => (k = b.length + 1 ∧ rd = []) ∨ (k ≤ b.length ∧ rd = m_diff_fill_last (other.drop k))) (fun y => y.1) (b.length + 1, []) (.inl ⟨rfl, rfl⟩) ?_ ?_)
            · refine Le.rename [(0, 0), (1, 1), (2, 2), (3, 3), (4, 4)] _ _ 5 ⟨rfl, rfl, rfl, rfl, rfl, congrArg (fun z => AV.s (.int .i64 z)) (by omega), trivial⟩ ⟨rfl, ⟨_, rfl, rfl⟩, rfl, ⟨_, rfl, rfl⟩, rfl, ⟨_, rfl, ren_1 _ rfl⟩, rfl, ⟨_, rfl, ren_np _⟩, rfl, ⟨_, rfl, ?_⟩, trivial⟩ rfl rfl rfl (by simp only [ltH, Ob.lt, lt_np, lt_1]; rfl) rfl
              show Ob.row 3 1 _ = Ob.row 3 1 _
              simp
            · rintro ⟨k, rd⟩ hI
              refine tri_seq ?_
              refine tri_seq ?_
              refine tri_region (by exact tokW) (by exact gok) [] [51] rfl ?_
              intro b51 h51
              show Tri _ _ _ _
              refine tri_cond rfl (fun hb => ?_) (fun hb => ?_)
              · refine tri_skip ?_
                show Tri _ _ _ _
                have hk : 1 ≤ k := by
                  rw [h51] at hb
                  have := of_decide_eq_true hb; omega
                obtain ⟨j, rfl⟩ : ∃ j, k = j + 1 := ⟨k - 1, by omega⟩
                refine tri_le (Le.forget [(0, .s (.sl 4 (Nd.encs a))), (1, .s (.sl 4 (Nd.encs b))), (4, .op 0 0), (5, .op 1 0), (6, .s (.int .i64 (a.length : Int))), (7, .s (.int .i64 (j : Int)))] ⟨rfl, rfl, rfl, rfl, rfl, congrArg (fun z => AV.s (.int .i64 z)) (by omega), trivial⟩) ?_
                refine tri_seq ?_
                have wj : IntKind.i64.wrap ((j : Int) - 1) = (j : Int) - 1 := wrap64_in (by omega) (by rcases hI with h | h <;> omega)
                refine tri_block ?_
                refine tri_block ?_
                refine tri_seq ?_
                refine tri_region (by exact tokW) (by exact gok) [] [140, 141, 145] rfl ?_
                intro n1 hn1
                obtain rfl : (a.length : Int) = n1 := (hn1.trans (congrArg (fun m : Nat => (m : Int)) (rlen Nd.encs_eq a))).symm
                intro b1 hb1
                obtain rfl : true = b1 := (hb1.trans (beq_self_eq_true _)).symm
                intro n1 hn1
                obtain rfl : (b.length : Int) = n1 := (hn1.trans (congrArg (fun m : Nat => (m : Int)) (rlen Nd.encs_eq b))).symm
                show Tri _ _ _ _
                refine tri_cond rfl (fun hb2 => ?_) (fun hb2 => ?_)
                · refine tri_skip ?_
                  show Tri _ _ _ _
                  refine tri_region (by exact tokW) (by exact gok) [] [] rfl ?_
                  have hj : j = b.length := Int.ofNat.inj (eq_of_beq hb2)
                  refine ⟨(j, [0]), .inr ⟨by omega, by rw [hj, ← hlen.2.2, List.drop_length]; rfl⟩, Le.rename [(0, 0), (1, 1), (2, 2), (3, 3), (4, 4)] _ _ 5 ⟨rfl, rfl, rfl, rfl, rfl, congrArg (fun z => AV.s (.int .i64 z)) wj, trivial⟩ ⟨rfl, ⟨_, rfl, rfl⟩, rfl, ⟨_, rfl, rfl⟩, rfl, ⟨_, rfl, ren_1 _ rfl⟩, rfl, ⟨_, rfl, ren_np _⟩, rfl, ⟨_, rfl, ?_⟩, trivial⟩ rfl rfl rfl (by simp only [ltH, Ob.lt, lt_np, lt_1]; rfl) rfl, Nat.lt_succ_self j⟩
                  rcases hI with ⟨_, rfl⟩ | ⟨h, _⟩
                  · show Ob.row 3 1 _ = Ob.row 3 1 _
                    rw [List.append_nil, List.replicate_succ']
                  · omega
                · have hj : j ≠ b.length := fun e => by rw [e] at hb2; simp at hb2
                  obtain ⟨hj2, rfl⟩ : j + 1 ≤ b.length ∧ rd = m_diff_fill_last (other.drop (j + 1)) := by
                    rcases hI with ⟨h, _⟩ | h
                    · omega
                    · exact h
                  refine tri_seq ?_
                  refine tri_region (by exact tokW) (by exact gok) [] [151, 152] rfl ?_
                  intro n1 hn1
                  obtain rfl : (a.length : Int) = n1 := (hn1.trans (congrArg (fun m : Nat => (m : Int)) (rlen Nd.encs_eq a))).symm
                  intro b1 hb1
                  obtain rfl : true = b1 := (hb1.trans (beq_self_eq_true _)).symm
                  show Tri _ _ _ _
                  refine tri_cond rfl (fun _ => ?_) (fun h => by cases h)
                  refine tri_drawn (by exact tokW) (by exact gok) (by exact mixed) [] [165, 171] [1, 3, 4, 7, 9, 10, 13, 14, 16, 21, 22] rfl (by decide +kernel) ?_
                  have hlt1 : a.length < (nils a.length ++ [AV.orow 4] :: pcells []).length := by simp [nils]
                  refine And.intro ⟨Int.natCast_nonneg _, Int.ofNat_lt.2 hlt1⟩ ?_
                  refine And.intro hlt1 ⟨_, getD_nils, ?_⟩
                  refine And.intro ⟨Int.natCast_nonneg _, Int.ofNat_lt.2 hlt1⟩ ?_
                  refine And.intro hlt1 ⟨_, getD_nils, ?_⟩
                  intro z hz
                  obtain rfl : ((j + 1 : Nat) : Int) = z := (hz.trans (wi_succ (by omega))).symm
                  obtain ⟨v, vs, hv⟩ := last_cons (other.drop (j + 1))
                  have ho : other[j]? = some (other[j]'(by omega)) := List.getElem?_eq_getElem _
                  have hdr : other.drop j = other[j]'(by omega) :: other.drop (j + 1) := List.drop_eq_getElem_cons (by omega)
                  have g1 : (List.replicate (j + 1) 0 ++ v :: vs)[j + 1]? = some v := by simp [List.getElem?_append]
                  have hlt2 : j + 1 < (List.map (irow .i64) (List.replicate (j + 1) 0 ++ v :: vs)).length := by simp
                  rw [hv]
                  refine And.intro ⟨Int.natCast_nonneg _, Int.ofNat_lt.2 hlt2⟩ ?_
                  refine And.intro hlt2 ⟨_, ints_get g1, ?_⟩
                  refine And.intro ⟨Int.natCast_nonneg _, Int.ofNat_lt.2 (by rw [len_ints]; omega)⟩ ?_
                  intro r hr
                  obtain rfl : [S.int .i64 _] = r := (hr.trans (ints_get ho)).symm
                  have hlt3 : j < (List.map (irow .i64) (List.replicate (j + 1) 0 ++ v :: vs)).length := by simp; omega
                  refine And.intro ⟨Int.natCast_nonneg _, Int.ofNat_lt.2 hlt3⟩ ?_
                  refine And.intro hlt3 ?_
                  show Tri _ _ _ _
                  refine tri_region (by exact tokW) (by exact gok) [] [] rfl ?_
                  refine ⟨(j, m_diff_fill_last (other.drop j)), .inr ⟨by omega, rfl⟩, Le.rename [(0, 0), (1, 1), (2, 2), (3, 3), (4, 4)] _ _ 5 ⟨rfl, rfl, rfl, rfl, rfl, congrArg (fun z => AV.s (.int .i64 z)) wj, trivial⟩ ⟨rfl, ⟨_, rfl, rfl⟩, rfl, ⟨_, rfl, rfl⟩, rfl, ⟨_, rfl, ren_1 _ rfl⟩, rfl, ⟨_, rfl, ren_np _⟩, rfl, ⟨_, rfl, ?_⟩, trivial⟩ rfl rfl rfl (by simp only [ltH, Ob.lt, lt_np, lt_1]; rfl) rfl, Nat.lt_succ_self j⟩
                  refine congrArg (Ob.row 3 1) ((set_row (l := List.replicate (j + 1) 0 ++ v :: vs) (j := j) (v := 0) (x := IntKind.i64.wrap (v + other[j]'(by omega))) (by simp [List.getElem?_append])).trans (congrArg (List.map (irow .i64)) ?_))
                  rw [hdr]
                  simp only [m_diff_fill_last, hv, List.headD_cons]
                  exact set_zero _
              · refine tri_exit ?_
                have hk : k = 0 := by
                  rw [h51] at hb
                  have := of_decide_eq_false hb; omega
                subst hk
                rcases hI with ⟨h1, _⟩ | ⟨_, rfl⟩
                · omega
                · exact Le.rename [(0, 0), (1, 1), (2, 2), (3, 3), (4, 4)] _ _ 5 ⟨rfl, rfl, rfl, rfl, rfl, trivial⟩ ⟨rfl, ⟨_, rfl, rfl⟩, rfl, ⟨_, rfl, rfl⟩, rfl, ⟨_, rfl, ren_1 _ rfl⟩, rfl, ⟨_, rfl, ren_np _⟩, rfl, ⟨_, rfl, rfl⟩, trivial⟩ rfl rfl rfl (by simp only [ltH, Ob.lt, lt_np, lt_1]; rfl) rfl
          · show Tri _ _ _ _
            refine tri_le hle ?_
            refine tri_region (by exact tokW) (by exact gok) [] [] rfl ?_
            refine ⟨(a.length, [m_diff_fill_last other], []), .inr ⟨Nat.le_refl _, by rw [List.drop_length, rows_len hp, List.drop_length]; rfl⟩,
              Le.trans (Le.giveRow 4 rfl) (Le.rename [(0, 0), (1, 1), (2, 2), (3, 3)] _ _ 4 ⟨rfl, rfl, rfl, rfl, congrArg (fun z => AV.s (.int .i64 z)) (wrap64_in (by omega) (by omega)), trivial⟩ ⟨rfl, ⟨_, rfl, rfl⟩, rfl, ⟨_, rfl, rfl⟩, rfl, ⟨_, rfl, frz_1 (a := a.length) (p := fun _ => .junk) _ rfl⟩, rfl, ⟨_, rfl, (frz_np _ _ _).trans (by rw [Nat.min_eq_right (Nat.le_succ _), Nat.min_self])⟩, trivial⟩ rfl rfl rfl (by simp only [ltH, Ob.lt, lt_np, lt_1]; rfl) rfl), Nat.lt_succ_self _⟩
        · have hlf := rows_len hp
          have hbl := hlen.2.2
          obtain ⟨⟨L2, P2⟩, hq⟩ := rows_drop hp i (by omega)
          have ha : a[i]? = some (a[i]'(by omega)) := List.getElem?_eq_getElem _
          have hf : first[i]? = some (first[i]'(by omega)) := List.getElem?_eq_getElem _
          have hq0 := hq
          rw [List.drop_eq_getElem_cons (show i < a.length by omega), List.drop_eq_getElem_cons (show i < first.length by omega)] at hq
          generalize a[i]'(by omega) = x at ha hq
          generalize first[i]'(by omega) = f at hf hq
          simp only [m_diff_fill_rows, hrows] at hq
          obtain ⟨p0, hp0, hq⟩ := bind_out hq
          cases hp0
          cases L with
          | nil => cases hq
          | cons r1 L =>
          dsimp only at hq
          obtain ⟨⟨rr, ss⟩, hrow, hq⟩ := bind_out hq
          simp only [Option.some.injEq, Prod.mk.injEq] at hq
          obtain ⟨rfl, rfl⟩ := hq
          have hrl := row_len hrow
          dsimp only at hrl
          refine tri_seq ?_
          refine tri_seq ?_
          refine tri_region (by exact tokW) (by exact gok) [] [39, 40] rfl ?_
          intro n1 hn1
          obtain rfl : (a.length : Int) = n1 := (hn1.trans (congrArg (fun m : Nat => (m : Int)) (rlen Nd.encs_eq a))).symm
          intro b40 h40
          obtain rfl : true = b40 := (h40.trans (decide_eq_true (by omega))).symm
          show Tri _ _ _ _
          refine tri_cond rfl (fun _ => ?_) (fun h => by cases h)
          refine tri_drawnR (by exact tokW) (by exact gok) (by exact mixed) [46] [45] [1, 5, 6, 7] [1, 6] rfl (by decide +kernel) ?_
          intro n1 hn1
          obtain rfl : (b.length : Int) = n1 := (hn1.trans (congrArg (fun m : Nat => (m : Int)) (rlen Nd.encs_eq b))).symm
          refine And.intro (show 0 ≤ _ ∧ _ from ⟨by omega, Int.le_refl _, show ((b.length : Nat) : Int) * ((8 : Nat) : Int) ≤ 281474976710656 by omega, by omega⟩) ?_
          have hm1 : min (i + 1) a.length = i + 1 := Nat.min_eq_left hin
          have hlt1 : i < (nils (min (i + 1) a.length) ++ pcells P).length := by rw [hm1]; simp [nils]; omega
          refine And.intro ⟨Int.natCast_nonneg _, Int.ofNat_lt.2 hlt1⟩ ?_
          refine And.intro hlt1 ?_
          show Tri _ _ _ _
          refine tri_le (σ' := ⟨ofL [(0, .s (.sl 4 (Nd.encs a))), (1, .s (.sl 4 (Nd.encs b))), (4, .op 0 0), (5, .op 1 0), (6, .s (.int .i64 (i : Int)))], ofH [(0, .box [.nl 1, .nl 1, .nl 1, .nl 1]), (1, .box [.orow 2, .orow 3, .s (.sl 1 (first.map (irow .i64))), .s (.sl 1 (other.map (irow .i64)))]), (2, .arow 35 1 (nils i ++ [.orow 4] :: pcells (r1 :: L))), (3, .arow 35 1 (nils i ++ [.orow 5] :: pcells P)), (4, .row 3 1 ((List.replicate (b.length + 1) 0).map (irow .i64))), (5, .row 3 1 ((List.replicate b.length 0).map (irow .i64)))], 6⟩) (Le.rename [(0, 0), (1, 1), (2, 2), (3, 3), (4, 4), (5, 5)] _ _ 6 ⟨rfl, rfl, rfl, rfl, rfl, trivial⟩ ⟨rfl, ⟨_, rfl, rfl⟩, rfl, ⟨_, rfl, rfl⟩, rfl, ⟨_, rfl, ren_1 _ rfl⟩, rfl, ⟨_, rfl, ?_⟩, rfl, ⟨_, rfl, rfl⟩, rfl, ⟨_, rfl, ?_⟩, trivial⟩ rfl rfl rfl (by simp only [ltH, Ob.lt, lt_np, lt_1]; rfl) rfl) ?_
          · show Ob.arow 35 1 (List.map (AV.renAll _) ((nils (min (i + 1) a.length) ++ pcells P).set i (((nils (min (i + 1) a.length) ++ pcells P).getD i []).take 0 ++ [AV.orow 5] ++ ((nils (min (i + 1) a.length) ++ pcells P).getD i []).drop 1))) = _
            rw [hm1, getD_nil', show ([AV.s (S.sl 1 [])].take 0 ++ [AV.orow 5] ++ [AV.s (S.sl 1 [])].drop 1) = [AV.orow 5] from rfl, set_nils]
            simp [ren_nils, ren_persL, AV.renAll, AV.ren, look]
            rfl
          · show Ob.row 3 1 (List.replicate b.length [S.int .i64 0]) = _
            simp [irow]
          refine tri_seq ?_
          refine tri_region (by exact tokW) (by exact gok) [] [49] rfl ?_
          intro n1 hn1
          obtain rfl : (b.length : Int) = n1 := (hn1.trans (congrArg (fun m : Nat => (m : Int)) (rlen Nd.encs_eq b))).symm
          show Tri _ _ _ _
          refine tri_post ⟨ofL [(0, .s (.sl 4 (Nd.encs a))), (1, .s (.sl 4 (Nd.encs b))), (4, .op 0 0), (5, .op 1 0), (6, .s (.int .i64 (i : Int)))], ofH [(0, .box [.nl 1, .nl 1, .nl 1, .nl 1]), (1, .box [.orow 2, .orow 3, .s (.sl 1 (first.map (irow .i64))), .s (.sl 1 (other.map (irow .i64)))]), (2, .arow 35 1 (nils i ++ [.orow 4] :: pcells (r1 :: L))), (3, .arow 35 1 (nils i ++ [.orow 5] :: pcells P)), (4, .row 3 1 (rr.map (irow .i64))), (5, .row 3 1 (ss.map (irow .i64)))], 6⟩ ?_ (fun σ' hle => ?_)
          · refine tri_block (tri_loopI (X := Nat × List Int × List Int) (fun y => match y with | (k, rd, sd) => ⟨ofL [(0, .s (.sl 4 (Nd.encs a))), (1, .s (.sl 4 (Nd.encs b))), (4, .op 0 0), (5, .op 1 0), (6, .s (.int .i64 (i : Int))), (7, .s (.int .i64 ((k : Int) - 1)))], ofH [(0, .box [.nl 1, .nl 1, .nl 1, .nl 1]), (1, .box [.orow 2, .orow 3, .s (.sl 1 (first.map (irow .i64))), .s (.sl 1 (other.map (irow .i64)))]), (2, .arow 35 1 (nils i ++ [.orow 4] :: pcells (r1 :: L))), (3, .arow 35 1 (nils i ++ [.orow 5] :: pcells P)), (4, .row 3 1 ((List.replicate k 0 ++ rd).map (irow .i64))), (5, .row 3 1 ((List.replicate (min k b.length) 0 ++ sd).map (irow .i64)))], 6⟩)
              (fun y => match y with | (k, rd, sd) => (k = b.length + 1 ∧ rd = [] ∧ sd = []) ∨ (k ≤ b.length ∧ m_diff_fill_row (m_diff_pairing n) x f (b.drop k) (other.drop k) (r1.drop k) = some (rd, sd))) (fun y => y.1) (b.length + 1, [], []) (.inl ⟨rfl, rfl, rfl⟩) ?_ ?_)
            · refine Le.rename [(0, 0), (1, 1), (2, 2), (3, 3), (4, 4), (5, 5)] _ _ 6 ⟨rfl, rfl, rfl, rfl, rfl, congrArg (fun z => AV.s (.int .i64 z)) (by omega), trivial⟩ ⟨rfl, ⟨_, rfl, rfl⟩, rfl, ⟨_, rfl, rfl⟩, rfl, ⟨_, rfl, ren_1 _ rfl⟩, rfl, ⟨_, rfl, ren_1 _ rfl⟩, rfl, ⟨_, rfl, ?_⟩, rfl, ⟨_, rfl, ?_⟩, trivial⟩ rfl rfl rfl (by simp only [ltH, Ob.lt, lt_np, lt_1]; rfl) rfl
              · show Ob.row 3 1 _ = Ob.row 3 1 _
                simp
              · show Ob.row 3 1 _ = Ob.row 3 1 _
                rw [Nat.min_eq_right (Nat.le_succ _)]; simp
            · rintro ⟨k, rd, sd⟩ hI
              refine tri_seq ?_
              refine tri_seq ?_
              refine tri_region (by exact tokW) (by exact gok) [] [51] rfl ?_
              intro b51 h51
              show Tri _ _ _ _
              refine tri_cond rfl (fun hb => ?_) (fun hb => ?_)
              · refine tri_skip ?_
                show Tri _ _ _ _
                have hk : 1 ≤ k := by
                  rw [h51] at hb
                  have := of_decide_eq_true hb; omega
                obtain ⟨j, rfl⟩ : ∃ j, k = j + 1 := ⟨k - 1, by omega⟩
                refine tri_le (Le.forget [(0, .s (.sl 4 (Nd.encs a))), (1, .s (.sl 4 (Nd.encs b))), (4, .op 0 0), (5, .op 1 0), (6, .s (.int .i64 (i : Int))), (7, .s (.int .i64 (j : Int)))] ⟨rfl, rfl, rfl, rfl, rfl, congrArg (fun z => AV.s (.int .i64 z)) (by omega), trivial⟩) ?_
                have wj : IntKind.i64.wrap ((j : Int) - 1) = (j : Int) - 1 := wrap64_in (by omega) (by rcases hI with h | h <;> omega)
                have hne : ((i : Int) == (a.length : Int)) = false := by
                  cases e : ((i : Int) == (a.length : Int)) with
                  | false => rfl
                  | true => have := eq_of_beq e; omega
                refine tri_seq ?_
                refine tri_block ?_
                refine tri_block ?_
                refine tri_seq ?_
                refine tri_region (by exact tokW) (by exact gok) [] [140, 141] rfl ?_
                intro n1 hn1
                obtain rfl : (a.length : Int) = n1 := (hn1.trans (congrArg (fun m : Nat => (m : Int)) (rlen Nd.encs_eq a))).symm
                intro b1 hb1
                obtain rfl : false = b1 := (hb1.trans hne).symm
                show Tri _ _ _ _
                refine tri_cond rfl (fun h => by cases h) (fun _ => ?_)
                refine tri_seq ?_
                refine tri_region (by exact tokW) (by exact gok) [] [151, 152] rfl ?_
                intro n1 hn1
                obtain rfl : (a.length : Int) = n1 := (hn1.trans (congrArg (fun m : Nat => (m : Int)) (rlen Nd.encs_eq a))).symm
                intro b1 hb1
                obtain rfl : false = b1 := (hb1.trans hne).symm
                show Tri _ _ _ _
                refine tri_cond rfl (fun h => by cases h) (fun _ => ?_)
                refine tri_seq ?_
                refine tri_region (by exact tokW) (by exact gok) [] [178] rfl ?_
                intro n1 hn1
                obtain rfl : (b.length : Int) = n1 := (hn1.trans (congrArg (fun m : Nat => (m : Int)) (rlen Nd.encs_eq b))).symm
                show Tri _ _ _ _
                have hlt1 : i < (nils i ++ [AV.orow 4] :: pcells (r1 :: L)).length := by simp [nils]
                have hlt2 : i + 1 < (nils i ++ [AV.orow 4] :: pcells (r1 :: L)).length := by simp [nils, pcells]
                have hlt3 : i < (nils i ++ [AV.orow 5] :: pcells P).length := by simp [nils]
                refine tri_cond rfl (fun hb2 => ?_) (fun hb2 => ?_)
                · have hj : j = b.length := Int.ofNat.inj (eq_of_beq hb2)
                  obtain ⟨rfl, rfl⟩ : rd = [] ∧ sd = [] := by
                    rcases hI with ⟨_, h1, h2⟩ | ⟨h, _⟩
                    · exact ⟨h1, h2⟩
                    · omega
                  have hlr : j + 1 = r1.length := by omega
                  have hv : r1[j]? = some (r1[j]'(by omega)) := List.getElem?_eq_getElem _
                  have hdr : r1.drop j = [r1[j]'(by omega)] := by rw [List.drop_eq_getElem_cons (show j < r1.length by omega), List.drop_eq_nil_of_le (by omega)]
                  generalize r1[j]'(by omega) = v at hv hdr
                  refine tri_drawn (by exact tokW) (by exact gok) (by exact mixed) [] [189, 193, 198] [1, 3, 4, 7, 10, 11, 16, 21, 22] rfl (by decide +kernel) ?_
                  refine And.intro ⟨Int.natCast_nonneg _, Int.ofNat_lt.2 hlt1⟩ ?_
                  refine And.intro hlt1 ⟨_, getD_nils, ?_⟩
                  intro z hz
                  obtain rfl : ((i + 1 : Nat) : Int) = z := (hz.trans (wi_succ (by omega))).symm
                  refine And.intro ⟨Int.natCast_nonneg _, Int.ofNat_lt.2 hlt2⟩ ?_
                  refine And.intro hlt2 ⟨_, getD_nils1, ?_⟩
                  refine And.intro ⟨Int.natCast_nonneg _, Int.ofNat_lt.2 (by rw [len_ints]; omega)⟩ ?_
                  intro r hr
                  obtain rfl : [S.int .i64 v] = r := (hr.trans (ints_get hv)).symm
                  refine And.intro ⟨Int.natCast_nonneg _, Int.ofNat_lt.2 (by rw [len_ints]; omega)⟩ ?_
                  intro r hr
                  obtain rfl : [S.int .i64 f] = r := (hr.trans (ints_get hf)).symm
                  have hlt4 : j < (List.map (irow .i64) (List.replicate (j + 1) 0 ++ ([] : List Int))).length := by simp
                  refine And.intro ⟨Int.natCast_nonneg _, Int.ofNat_lt.2 hlt4⟩ ?_
                  refine And.intro hlt4 ?_
                  show Tri _ _ _ _
                  refine tri_region (by exact tokW) (by exact gok) [] [] rfl ?_
                  refine ⟨(j, [IntKind.i64.wrap (v + f)], []), .inr ⟨by omega, by rw [hdr, List.drop_eq_nil_of_le (show b.length ≤ j by omega), List.drop_eq_nil_of_le (show other.length ≤ j by omega)]; rfl⟩, Le.rename [(0, 0), (1, 1), (2, 2), (3, 3), (4, 4), (5, 5)] _ _ 6 ⟨rfl, rfl, rfl, rfl, rfl, congrArg (fun z => AV.s (.int .i64 z)) wj, trivial⟩ ⟨rfl, ⟨_, rfl, rfl⟩, rfl, ⟨_, rfl, rfl⟩, rfl, ⟨_, rfl, ren_1 _ rfl⟩, rfl, ⟨_, rfl, ren_1 _ rfl⟩, rfl, ⟨_, rfl, ?_⟩, rfl, ⟨_, rfl, ?_⟩, trivial⟩ rfl rfl rfl (by simp only [ltH, Ob.lt, lt_np, lt_1]; rfl) rfl, Nat.lt_succ_self j⟩
                  · refine congrArg (Ob.row 3 1) ((set_row (l := List.replicate (j + 1) 0 ++ []) (j := j) (v := 0) (x := IntKind.i64.wrap (v + f)) (by simp)).trans (congrArg (List.map (irow .i64)) (set_zero _)))
                  · show Ob.row 3 1 _ = Ob.row 3 1 _
                    rw [Nat.min_eq_right (show b.length ≤ j + 1 by omega), Nat.min_eq_right (show b.length ≤ j by omega)]
                · have hj : j ≠ b.length := fun e => by rw [e] at hb2; simp at hb2
                  obtain ⟨hj2, hd⟩ : j + 1 ≤ b.length ∧ m_diff_fill_row (m_diff_pairing n) x f (b.drop (j + 1)) (other.drop (j + 1)) (r1.drop (j + 1)) = some (rd, sd) := by
                    rcases hI with ⟨h, _⟩ | h
                    · omega
                    · exact h
                  obtain ⟨q, hq⟩ := row_drop hrow j (by omega)
                  have hqq := hq
                  have hv : r1[j]? = some (r1[j]'(by omega)) := List.getElem?_eq_getElem _
                  have hv2 : r1[j + 1]? = some (r1[j + 1]'(by omega)) := List.getElem?_eq_getElem _
                  have ho : other[j]? = some (other[j]'(by omega)) := List.getElem?_eq_getElem _
                  have hy : b[j]? = some (b[j]'(by omega)) := List.getElem?_eq_getElem _
                  rw [List.drop_eq_getElem_cons (show j < b.length by omega), List.drop_eq_getElem_cons (show j < other.length by omega), List.drop_eq_getElem_cons (show j < r1.length by omega), List.drop_eq_getElem_cons (show j + 1 < r1.length by omega)] at hq
                  rw [List.drop_eq_getElem_cons (show j + 1 < r1.length by omega)] at hd
                  generalize r1[j]'(by omega) = v at hv hq
                  generalize r1[j + 1]'(by omega) = v2 at hv2 hq hd
                  generalize other[j]'(by omega) = o at ho hq
                  generalize b[j]'(by omega) = y at hy hq
                  simp only [m_diff_fill_row, hd] at hq
                  obtain ⟨p0, hp0, hq⟩ := bind_out hq
                  cases hp0
                  obtain ⟨c, hc, hq⟩ := bind_out hq
                  have hrdl := row_len hd
                  cases rd with
                  | nil => simp at hrdl
                  | cons w ws =>
                  simp only [List.headD_cons, Option.some.injEq] at hq
                  have hmj : min (j + 1) b.length = j + 1 := Nat.min_eq_left hj2
                  have hmj' : min j b.length = j := Nat.min_eq_left (by omega)
                  refine tri_seq ?_
                  refine tri_drawn (by exact tokW) (by exact gok) (by exact mixed) [] [62, 65] [1, 3, 4, 13, 14] rfl (by decide +kernel) ?_
                  refine And.intro ⟨Int.natCast_nonneg _, Int.ofNat_lt.2 hlt3⟩ ?_
                  refine And.intro hlt3 ⟨_, getD_nils, ?_⟩
                  refine And.intro ⟨Int.natCast_nonneg _, Int.ofNat_lt.2 (by rw [rlen Nd.encs_eq]; omega)⟩ ?_
                  intro r hr
                  obtain rfl : Nd.enc x = r := (hr.trans (encs_get ha)).symm
                  refine And.intro ⟨Int.natCast_nonneg _, Int.ofNat_lt.2 (by rw [rlen Nd.encs_eq]; omega)⟩ ?_
                  intro r hr
                  obtain rfl : Nd.enc y = r := (hr.trans (encs_get hy)).symm
                  refine ⟨_, ⟨_, _, _, hc, rfl, rfl⟩, ?_⟩
                  have hlt5 : j < (List.map (irow .i64) (List.replicate (min (j + 1) b.length) 0 ++ sd)).length := by rw [hmj]; simp; omega
                  refine And.intro ⟨Int.natCast_nonneg _, Int.ofNat_lt.2 hlt5⟩ ?_
                  refine And.intro hlt5 ?_
                  show Tri _ _ _ _
                  refine tri_le (σ' := ⟨ofL [(0, .s (.sl 4 (Nd.encs a))), (1, .s (.sl 4 (Nd.encs b))), (4, .op 0 0), (5, .op 1 0), (6, .s (.int .i64 (i : Int))), (7, .s (.int .i64 (j : Int)))], ofH [(0, .box [.nl 1, .nl 1, .nl 1, .nl 1]), (1, .box [.orow 2, .orow 3, .s (.sl 1 (first.map (irow .i64))), .s (.sl 1 (other.map (irow .i64)))]), (2, .arow 35 1 (nils i ++ [.orow 4] :: pcells (r1 :: L))), (3, .arow 35 1 (nils i ++ [.orow 5] :: pcells P)), (4, .row 3 1 ((List.replicate (j + 1) 0 ++ w :: ws).map (irow .i64))), (5, .row 3 1 ((List.replicate j 0 ++ c :: sd).map (irow .i64)))], 6⟩) (Le.rename [(0, 0), (1, 1), (2, 2), (3, 3), (4, 4), (5, 5)] _ _ 6 ⟨rfl, rfl, rfl, rfl, rfl, rfl, trivial⟩ ⟨rfl, ⟨_, rfl, rfl⟩, rfl, ⟨_, rfl, rfl⟩, rfl, ⟨_, rfl, ren_1 _ rfl⟩, rfl, ⟨_, rfl, ren_1 _ rfl⟩, rfl, ⟨_, rfl, rfl⟩, rfl, ⟨_, rfl, ?_⟩, trivial⟩ rfl rfl rfl (by simp only [ltH, Ob.lt, lt_np, lt_1]; rfl) rfl) ?_
                  · refine congrArg (Ob.row 3 1) ((set_row (l := List.replicate (min (j + 1) b.length) 0 ++ sd) (j := j) (v := 0) (x := c) (by rw [hmj]; simp [List.getElem?_append])).trans (congrArg (List.map (irow .i64)) ?_))
                    rw [hmj]; exact set_zero _
                  have g4 : (List.replicate (j + 1) 0 ++ w :: ws)[j + 1]? = some w := by simp [List.getElem?_append]
                  have hlt4 : j + 1 < (List.map (irow .i64) (List.replicate (j + 1) 0 ++ w :: ws)).length := by simp
                  have hlt4' : j < (List.map (irow .i64) (List.replicate (j + 1) 0 ++ w :: ws)).length := by simp; omega
                  have g5 : (List.replicate j 0 ++ c :: sd)[j]? = some c := by simp [List.getElem?_append]
                  have hlt6 : j < (List.map (irow .i64) (List.replicate j 0 ++ c :: sd)).length := by simp
                  refine tri_seq ?_
                  refine tri_drawn (by exact tokW) (by exact gok) (by exact mixed) [] [74, 80, 86, 90, 95] [1, 3, 4, 7, 8, 10, 16, 19, 20, 25] rfl (by decide +kernel) ?_
                  refine And.intro ⟨Int.natCast_nonneg _, Int.ofNat_lt.2 hlt1⟩ ?_
                  refine And.intro hlt1 ⟨_, getD_nils, ?_⟩
                  intro z hz
                  obtain rfl : ((j + 1 : Nat) : Int) = z := (hz.trans (wi_succ (by omega))).symm
                  refine And.intro ⟨Int.natCast_nonneg _, Int.ofNat_lt.2 hlt4⟩ ?_
                  refine And.intro hlt4 ⟨_, ints_get g4, ?_⟩
                  refine And.intro ⟨Int.natCast_nonneg _, Int.ofNat_lt.2 (by rw [len_ints]; omega)⟩ ?_
                  intro r hr
                  obtain rfl : [S.int .i64 o] = r := (hr.trans (ints_get ho)).symm
                  intro z hz
                  obtain rfl : ((i + 1 : Nat) : Int) = z := (hz.trans (wi_succ (by omega))).symm
                  refine And.intro ⟨Int.natCast_nonneg _, Int.ofNat_lt.2 hlt2⟩ ?_
                  refine And.intro hlt2 ⟨_, getD_nils1, ?_⟩
                  refine And.intro ⟨Int.natCast_nonneg _, Int.ofNat_lt.2 (by rw [len_ints]; omega)⟩ ?_
                  intro r hr
                  obtain rfl : [S.int .i64 v] = r := (hr.trans (ints_get hv)).symm
                  refine And.intro ⟨Int.natCast_nonneg _, Int.ofNat_lt.2 (by rw [len_ints]; omega)⟩ ?_
                  intro r hr
                  obtain rfl : [S.int .i64 f] = r := (hr.trans (ints_get hf)).symm
                  show Tri _ _ _ _
                  refine tri_seq ?_
                  refine tri_seq ?_
                  refine tri_region (by exact tokW) (by exact gok) [] [] rfl ?_
                  refine And.intro ⟨Int.natCast_nonneg _, Int.ofNat_lt.2 hlt3⟩ ?_
                  refine And.intro hlt3 ⟨_, getD_nils, ?_⟩
                  refine And.intro ⟨Int.natCast_nonneg _, Int.ofNat_lt.2 hlt6⟩ ?_
                  refine And.intro hlt6 ⟨_, ints_get g5, ?_⟩
                  show Tri _ _ _ _
                  refine tri_post ⟨ofL [(0, .s (.sl 4 (Nd.encs a))), (1, .s (.sl 4 (Nd.encs b))), (4, .op 0 0), (5, .op 1 0), (6, .s (.int .i64 (i : Int))), (7, .s (.int .i64 (j : Int))), (8, .s (.int .i64 (q.1.headD 0)))], ofH [(0, .box [.nl 1, .nl 1, .nl 1, .nl 1]), (1, .box [.orow 2, .orow 3, .s (.sl 1 (first.map (irow .i64))), .s (.sl 1 (other.map (irow .i64)))]), (2, .arow 35 1 (nils i ++ [.orow 4] :: pcells (r1 :: L))), (3, .arow 35 1 (nils i ++ [.orow 5] :: pcells P)), (4, .row 3 1 ((List.replicate (j + 1) 0 ++ w :: ws).map (irow .i64))), (5, .row 3 1 ((List.replicate j 0 ++ c :: sd).map (irow .i64)))], 6⟩ ?_ (fun σ' hle => ?_)
                  · refine tri_cond rfl (fun hb3 => ?_) (fun hb3 => ?_)
                    · refine tri_drawn (by exact tokW) (by exact gok) (by exact mixed) [] [112, 116, 117] [2, 5, 6, 12, 14, 15, 17, 18] rfl (by decide +kernel) ?_
                      intro z hz
                      obtain rfl : ((i + 1 : Nat) : Int) = z := (hz.trans (wi_succ (by omega))).symm
                      refine And.intro ⟨Int.natCast_nonneg _, Int.ofNat_lt.2 hlt2⟩ ?_
                      refine And.intro hlt2 ⟨_, getD_nils1, ?_⟩
                      intro z hz
                      obtain rfl : ((j + 1 : Nat) : Int) = z := (hz.trans (wi_succ (by omega))).symm
                      refine And.intro ⟨Int.natCast_nonneg _, Int.ofNat_lt.2 (by rw [len_ints]; omega)⟩ ?_
                      intro r hr
                      obtain rfl : [S.int .i64 v2] = r := (hr.trans (ints_get hv2)).symm
                      refine And.intro ⟨Int.natCast_nonneg _, Int.ofNat_lt.2 hlt3⟩ ?_
                      refine And.intro hlt3 ⟨_, getD_nils, ?_⟩
                      refine And.intro ⟨Int.natCast_nonneg _, Int.ofNat_lt.2 hlt6⟩ ?_
                      refine And.intro hlt6 ⟨_, ints_get g5, ?_⟩
                      refine Le.rename [(0, 0), (1, 1), (2, 2), (3, 3), (4, 4), (5, 5)] _ _ 6 ⟨rfl, rfl, rfl, rfl, rfl, rfl, ?_, trivial⟩ ⟨rfl, ⟨_, rfl, rfl⟩, rfl, ⟨_, rfl, rfl⟩, rfl, ⟨_, rfl, ren_1 _ rfl⟩, rfl, ⟨_, rfl, ren_1 _ rfl⟩, rfl, ⟨_, rfl, rfl⟩, rfl, ⟨_, rfl, rfl⟩, trivial⟩ rfl rfl rfl (by simp only [ltH, Ob.lt, lt_np, lt_1]; rfl) rfl
                      have h0 : 0 ≤ c := of_decide_eq_true hb3
                      rw [if_pos h0] at hq
                      rw [← hq]
                      rfl
                    · refine tri_skip ?_
                      refine Le.rename [(0, 0), (1, 1), (2, 2), (3, 3), (4, 4), (5, 5)] _ _ 6 ⟨rfl, rfl, rfl, rfl, rfl, rfl, ?_, trivial⟩ ⟨rfl, ⟨_, rfl, rfl⟩, rfl, ⟨_, rfl, rfl⟩, rfl, ⟨_, rfl, ren_1 _ rfl⟩, rfl, ⟨_, rfl, ren_1 _ rfl⟩, rfl, ⟨_, rfl, rfl⟩, rfl, ⟨_, rfl, rfl⟩, trivial⟩ rfl rfl rfl (by simp only [ltH, Ob.lt, lt_np, lt_1]; rfl) rfl
                      have h0 : ¬ 0 ≤ c := of_decide_eq_false hb3
                      rw [if_neg h0] at hq
                      rw [← hq]
                      rfl
                  · show Tri _ _ _ _
                    refine tri_le hle ?_
                    refine tri_region (by exact tokW) (by exact gok) [] [] rfl ?_
                    refine And.intro ⟨Int.natCast_nonneg _, Int.ofNat_lt.2 hlt1⟩ ?_
                    refine And.intro hlt1 ⟨_, getD_nils, ?_⟩
                    refine And.intro ⟨Int.natCast_nonneg _, Int.ofNat_lt.2 hlt4'⟩ ?_
                    refine And.intro hlt4' ?_
                    show Tri _ _ _ _
                    refine tri_region (by exact tokW) (by exact gok) [] [] rfl ?_
                    refine ⟨(j, q.1, q.2), .inr ⟨by omega, hqq⟩, Le.rename [(0, 0), (1, 1), (2, 2), (3, 3), (4, 4), (5, 5)] _ _ 6 ⟨rfl, rfl, rfl, rfl, rfl, congrArg (fun z => AV.s (.int .i64 z)) wj, trivial⟩ ⟨rfl, ⟨_, rfl, rfl⟩, rfl, ⟨_, rfl, rfl⟩, rfl, ⟨_, rfl, ren_1 _ rfl⟩, rfl, ⟨_, rfl, ren_1 _ rfl⟩, rfl, ⟨_, rfl, ?_⟩, rfl, ⟨_, rfl, ?_⟩, trivial⟩ rfl rfl rfl (by simp only [ltH, Ob.lt, lt_np, lt_1]; rfl) rfl, Nat.lt_succ_self j⟩
                    · refine congrArg (Ob.row 3 1) ((set_row (l := List.replicate (j + 1) 0 ++ w :: ws) (j := j) (v := 0) (x := q.1.headD 0) (by simp [List.getElem?_append])).trans (congrArg (List.map (irow .i64)) ((set_zero _).trans ?_)))
                      rw [← hq]; rfl
                    · show Ob.row 3 1 _ = Ob.row 3 1 _
                      rw [hmj', ← hq]
              · refine tri_exit ?_
                have hk : k = 0 := by
                  rw [h51] at hb
                  have := of_decide_eq_false hb; omega
                subst hk
                rcases hI with ⟨h1, _⟩ | ⟨_, h1⟩
                · omega
                · simp only [List.drop_zero, hrow, Option.some.injEq, Prod.mk.injEq] at h1
                  obtain ⟨rfl, rfl⟩ := h1
                  refine Le.rename [(0, 0), (1, 1), (2, 2), (3, 3), (4, 4), (5, 5)] _ _ 6 ⟨rfl, rfl, rfl, rfl, rfl, trivial⟩ ⟨rfl, ⟨_, rfl, rfl⟩, rfl, ⟨_, rfl, rfl⟩, rfl, ⟨_, rfl, ren_1 _ rfl⟩, rfl, ⟨_, rfl, ren_1 _ rfl⟩, rfl, ⟨_, rfl, rfl⟩, rfl, ⟨_, rfl, ?_⟩, trivial⟩ rfl rfl rfl (by simp only [ltH, Ob.lt, lt_np, lt_1]; rfl) rfl
                  show Ob.row 3 1 _ = Ob.row 3 1 _
                  rw [Nat.zero_min]; rfl
          · show Tri _ _ _ _
            refine tri_le hle ?_
            refine tri_region (by exact tokW) (by exact gok) [] [] rfl ?_
            refine ⟨(i, rr :: r1 :: L, ss :: P), .inr ⟨by omega, hq0⟩,
              Le.trans (Le.giveRow 4 rfl) (Le.trans (Le.giveRow 5 rfl) (Le.rename [(0, 0), (1, 1), (2, 2), (3, 3)] _ _ 4 ⟨rfl, rfl, rfl, rfl, congrArg (fun z => AV.s (.int .i64 z)) (wrap64_in (by omega) (by omega)), trivial⟩ ⟨rfl, ⟨_, rfl, rfl⟩, rfl, ⟨_, rfl, rfl⟩, rfl, ⟨_, rfl, ?_⟩, rfl, ⟨_, rfl, ?_⟩, trivial⟩ rfl rfl rfl (by simp only [ltH, Ob.lt, lt_np, lt_1]; rfl) rfl)), Nat.lt_succ_self _⟩
            · simp [Ob.frz, Ob.ren, nils, pcells, AV.frzAll, AV.frz, AV.renAll, AV.ren]
            · rw [Nat.min_eq_left (show i ≤ a.length by omega)]
              simp [Ob.frz, Ob.ren, nils, pcells, AV.frzAll, AV.frz, AV.renAll, AV.ren]
      · refine tri_exit ?_
        have hk : k = 0 := by
          rw [h26] at hb
          have := of_decide_eq_false hb; omega
        subst hk
        rcases hI with ⟨h1, _⟩ | ⟨_, h1⟩
        · omega
        · simp only [List.drop_zero, hp, Option.some.injEq] at h1
          subst h1
          exact Le.rename [(0, 0), (1, 1), (2, 2), (3, 3)] _ _ 4 ⟨rfl, rfl, rfl, rfl, trivial⟩ ⟨rfl, ⟨_, rfl, rfl⟩, rfl, ⟨_, rfl, rfl⟩, rfl, ⟨_, rfl, congrArg (Ob.arow 35 1) (ren_persL _)⟩, rfl, ⟨_, rfl, congrArg (Ob.arow 35 1) ((congrArg (fun m => (nils m ++ pcells P).map (AV.renAll _)) (Nat.zero_min _)).trans (ren_persL _))⟩, trivial⟩ rfl rfl rfl (by simp only [ltH, Ob.lt, lt_p]; rfl) rfl
  · show Tri _ _ _ _
    refine tri_le hle ?_
    refine tri_seq ?_
    refine tri_region (by exact tokW) (by exact gok) [] [] rfl ?_
    show Tri _ _ _ _
    refine tri_ret ?_
    have hy := Option.some.inj h
    subst hy
    unfold Gives
    refine ⟨_, Le.giveWhole [(4, .s (.pt (enc_diff_grid (p.1, p.2, first, other))))] ⟨.box rfl rfl fun i x s hx hs => ?_, trivial⟩ rfl, rfl, rfl⟩
    match i, hx, hs with
    | 0, hx, hs => cases hx; cases hs; exact rd_pcells rfl
    | 1, hx, hs => cases hx; cases hs; exact rd_pcells rfl
    | 2, hx, hs => cases hx; cases hs; exact .s _
    | 3, hx, hs => cases hx; cases hs; exact .s _
    | i + 4, hx, hs => simp at hx
set_option maxHeartbeats 2000000 in
set_option maxRecDepth 100000 in
theorem step_diff_pairing (n : Nat) (ih_diff_fill : PSound Try.prog 21 (pspec (R_diff_fill n))) (ih_diff_pairing : PSound Try.prog 32 (pspec (R_diff_pairing n))) : PSound Try.prog 32 (pspec (R_diff_pairing (n + 1))) := by
  have gok : ∀ f s, look? f [(21, pspec (R_diff_fill n))] = some s → PSound Try.prog f s := look_all (by
    simp only [List.forall_mem_cons]
    exact ⟨ih_diff_fill, by simp⟩)
  refine psound tokW Try.call32 Try.func32 rfl (fun xs r h => by obtain ⟨_, _, _, _, rfl, _⟩ := h; show 2 ≤ 83; decide) 83 rfl ?_
  rintro xs r w0 G0 ⟨⟨a1_kind, a1_text, a1_cols, a1_kids⟩, ⟨a2_kind, a2_text, a2_cols, a2_kids⟩, y0, h, rfl, rfl⟩ _
  rw [m_diff_pairing] at h
  refine tri_seq ?_
  refine tri_region (by exact tokW) (by exact gok) [] [] rfl ?_
  show Tri _ _ _ _
  refine tri_seq ?_
  refine tri_seq ?_
  obtain ⟨x3, hj, h⟩ := bind_out h
  refine tri_post ⟨ofL [(0, .s (.pt [.int .i64 a1_kind, .str a1_text, .int .i64 a1_cols, .sl 4 (Nd.encs a1_kids)])), (1, .s (.pt [.int .i64 a2_kind, .str a2_text, .int .i64 a2_cols, .sl 4 (Nd.encs a2_kids)])), (39, .s (.bool x3))], fun _ => none, 0⟩ ?_ (fun σ' hle => ?_)
  · replace h := hj
    refine tri_drawn (by exact tokW) (by exact gok) (by exact mixed) [] [16, 27, 32, 37] [] rfl (by decide +kernel) ?_
    intro b hb
    cases b with
    | true =>
      replace h := bif_t hb.symm h
      intro b hb
      subst hb
      cases h
      exact (Le.forget _ ⟨rfl, rfl, rfl, trivial⟩)
    | false =>
      replace h := bif_f hb.symm h
      intro b hb
      cases b with
      | true =>
        replace h := bif_t hb.symm h
        cases h
        exact (Le.forget _ ⟨rfl, rfl, rfl, trivial⟩)
      | false =>
        replace h := bif_f hb.symm h
        intro n4 hn4
        obtain rfl : (a1_kids.length : Int) = n4 := (hn4.trans (congrArg (fun m : Nat => (m : Int)) (rlen Nd.encs_eq a1_kids))).symm
        intro n5 hn5
        obtain rfl : (a2_kids.length : Int) = n5 := (hn5.trans (congrArg (fun m : Nat => (m : Int)) (rlen Nd.encs_eq a2_kids))).symm
        cases h
        exact (Le.forget _ ⟨rfl, rfl, rfl, trivial⟩)
  · show Tri _ _ _ _
    refine tri_le hle ?_
    refine tri_cond rfl (fun hb => ?_) (fun hb => ?_)
    · replace h := bif_t hb h
      refine tri_seq ?_
      refine tri_region (by exact tokW) (by exact gok) [] [] rfl ?_
      show Tri _ _ _ _
      refine tri_ret ?_
      have hy := Option.some.inj h
      subst hy
      unfold Gives
      exact ⟨_, Le.refl _ _, rfl, rfl⟩
    · replace h := bif_f hb h
      refine tri_skip ?_
      show Tri _ _ _ _
      refine tri_seq ?_
      refine tri_region (by exact tokW) (by exact gok) [] [] rfl ?_
      show Tri _ _ _ _
      refine tri_seq ?_
      refine tri_seq ?_
      refine tri_drawn (by exact tokW) (by exact gok) (by exact mixed) [] [] [] rfl (by decide +kernel) ?_
      show Tri _ _ _ _
      obtain ⟨x6, hj, h⟩ := bind_out h
      refine tri_post ⟨ofL [(0, .s (.pt [.int .i64 a1_kind, .str a1_text, .int .i64 a1_cols, .sl 4 (Nd.encs a1_kids)])), (1, .s (.pt [.int .i64 a2_kind, .str a2_text, .int .i64 a2_cols, .sl 4 (Nd.encs a2_kids)])), (5, .s (.int .i64 x6))], fun _ => none, 0⟩ ?_ (fun σ' hle => ?_)
      · replace h := hj
        refine tri_cond rfl (fun hb => ?_) (fun hb => ?_)
        · replace h := bif_t hb h
          refine tri_region (by exact tokW) (by exact gok) [] [] rfl ?_
          cases h
          exact (Le.forget _ ⟨rfl, rfl, rfl, trivial⟩)
        · replace h := bif_f hb h
          refine tri_skip ?_
          cases h
          exact (Le.forget _ ⟨rfl, rfl, rfl, trivial⟩)
      · show Tri _ _ _ _
        refine tri_le hle ?_
        refine tri_seq ?_
        refine tri_seq ?_
        refine tri_region (by exact tokW) (by exact gok) [] [53] rfl ?_
        intro n7 hn7
        obtain rfl : (a1_kids.length : Int) = n7 := (hn7.trans (congrArg (fun m : Nat => (m : Int)) (rlen Nd.encs_eq a1_kids))).symm
        show Tri _ _ _ _
        obtain ⟨x10, hl, h⟩ := bind_out h
        refine tri_post ⟨ofL [(5, .s (.int .i64 x10))], fun _ => none, 0⟩ ?_ (fun σ' hle => ?_)
        · refine tri_block (tri_loopI (X := Nat × Int × Int) (fun y => match y with | (k, x8, x9) => ⟨ofL [(0, .s (.pt [.int .i64 a1_kind, .str a1_text, .int .i64 a1_cols, .sl 4 (Nd.encs a1_kids)])), (1, .s (.pt [.int .i64 a2_kind, .str a2_text, .int .i64 a2_cols, .sl 4 (Nd.encs a2_kids)])), (5, .s (.int .i64 x8)), (53, .s (.int .i64 (a1_kids.length : Int))), (54, .s (.int .i64 x9))], fun _ => none, 0⟩) (fun y => m_diff_pairing_l1 (m_diff_fill n) a1_kids a2_kids y.1 y.2.1 y.2.2 = some x10) (fun y => y.1) (n, x6, 0) hl ?_ ?_)
          · exact (Le.forget _ ⟨rfl, rfl, rfl, rfl, rfl, trivial⟩)
          · rintro ⟨k, x8, x9⟩ h
            cases k with
            | zero => cases h
            | succ k =>
              replace h : m_diff_pairing_l1 (m_diff_fill n) a1_kids a2_kids (k+1) x8 x9 = some x10 := h
              rw [m_diff_pairing_l1] at h
              refine tri_seq ?_
              refine tri_region (by exact tokW) (by exact gok) [] [] rfl ?_
              show Tri _ _ _ _
              refine tri_seq ?_
              refine tri_cond rfl (fun hb => ?_) (fun hb => ?_)
              · replace h := bif_t hb h
                refine tri_skip ?_
                show Tri _ _ _ _
                refine tri_seq ?_
                refine tri_block ?_
                refine tri_seq ?_
                refine tri_region (by exact tokW) (by exact gok) [] [] rfl ?_
                show Tri _ _ _ _
                refine tri_drawn (by exact tokW) (by exact gok) (by exact mixed) [] [63, 71, 76, 78] [] rfl (by decide +kernel) ?_
                obtain ⟨⟨e11_kind, e11_text, e11_cols, e11_kids⟩, he11, h⟩ := bind_out h
                refine And.intro (at_ok Nd.encs_eq he11).1 ?_
                intro r12 hr12
                obtain rfl : [.int .i64 e11_kind, .str e11_text, .int .i64 e11_cols, .sl 4 (Nd.encs e11_kids)] = r12 := (hr12.trans (at_ok Nd.encs_eq he11).2.1).symm
                obtain ⟨⟨e13_kind, e13_text, e13_cols, e13_kids⟩, he13, h⟩ := bind_out h
                refine And.intro (at_ok Nd.encs_eq he13).1 ?_
                intro r14 hr14
                obtain rfl : [.int .i64 e13_kind, .str e13_text, .int .i64 e13_cols, .sl 4 (Nd.encs e13_kids)] = r14 := (hr14.trans (at_ok Nd.encs_eq he13).2.1).symm
                obtain ⟨⟨y15_least, y15_pair, y15_first, y15_other⟩, hy15, h⟩ := bind_out h
                refine ⟨_, ⟨_, _, _, hy15, rfl, rfl⟩, ?_⟩
                obtain ⟨e16, he16, h⟩ := bind_out h
                refine And.intro (at_ok (fun _ => rfl) he16).1 ?_
                intro r17 hr17
                obtain rfl : [.sl 1 ((List.map (irow .i64)) e16)] = r17 := (hr17.trans (at_ok (fun _ => rfl) he16).2.1).symm
                obtain ⟨e18, he18, h⟩ := bind_out h
                refine And.intro (at_ok (fun _ => rfl) he18).1 ?_
                intro r19 hr19
                obtain rfl : [.int .i64 e18] = r19 := (hr19.trans (at_ok (fun _ => rfl) he18).2.1).symm
                show Tri _ _ _ _
                refine tri_region (by exact tokW) (by exact gok) [] [] rfl ?_
                refine ⟨(k, IntKind.i64.wrap (x8 + e18), IntKind.i64.wrap (x9 + 1)), h, (Le.forget _ ⟨rfl, rfl, rfl, rfl, rfl, trivial⟩), Nat.lt_succ_self k⟩
              · replace h := bif_f hb h
                refine tri_exit ?_
                cases h
                exact (Le.forget _ ⟨rfl, trivial⟩)
        · show Tri _ _ _ _
          refine tri_le hle ?_
          refine tri_seq ?_
          refine tri_region (by exact tokW) (by exact gok) [] [] rfl ?_
          show Tri _ _ _ _
          refine tri_ret ?_
          have hy := Option.some.inj h
          subst hy
          unfold Gives
          exact ⟨_, Le.refl _ _, rfl, rfl⟩
theorem alls_diff_fill : ∀ n, PSound Try.prog 21 (pspec (R_diff_fill n)) ∧ PSound Try.prog 32 (pspec (R_diff_pairing n)) := by
  intro n
  induction n with
  | zero =>
    refine ⟨?_, ?_⟩
    · exact psound_none Try.call21 (fun xs r h => by obtain ⟨_, _, _, h, _⟩ := h; rw [m_diff_fill] at h; cases h)
    · exact psound_none Try.call32 (fun xs r h => by obtain ⟨_, _, _, h, _⟩ := h; rw [m_diff_pairing] at h; cases h)
  | succ n ih =>
    obtain ⟨ih_diff_fill, ih_diff_pairing⟩ := ih
    exact ⟨step_diff_fill n ih_diff_fill ih_diff_pairing, step_diff_pairing n ih_diff_fill ih_diff_pairing⟩
def S_diff_fill : PSpec := pspec fun xs r => ∃ n, R_diff_fill n xs r
theorem ok_diff_fill : PSound Try.prog 21 S_diff_fill := psound_all (fun n => (alls_diff_fill n).1)
def S_diff_pairing : PSpec := pspec fun xs r => ∃ n, R_diff_pairing n xs r
theorem ok_diff_pairing : PSound Try.prog 32 S_diff_pairing := psound_all (fun n => (alls_diff_fill n).2)

/- vinculum/diff.Cost -/
def R_diff_Cost (n : Nat) (xs : List AV) (r : Ret) : Prop := ∃ (a0 : Nd) (a1 : Nd) (y0 : Int) (y1 : Int), m_diff_Cost n a0 a1 = some (y0, y1) ∧ xs = [.agg ((Nd.enc a0).map .s), .agg ((Nd.enc a1).map .s)] ∧ r = .val (.tup [.s (.int .i64 y0), .s (.int .i64 y1)])
def S_diff_Cost : PSpec := pspec fun xs r => ∃ n, R_diff_Cost n xs r
set_option maxHeartbeats 2000000 in
set_option maxRecDepth 100000 in
theorem ok_diff_Cost : PSound Try.prog 9 S_diff_Cost := by
  have gok : ∀ f s, look? f [(20, S_diff_valid), (21, S_diff_fill)] = some s → PSound Try.prog f s := look_all (by
    simp only [List.forall_mem_cons]
    exact ⟨ok_diff_valid, ok_diff_fill, by simp⟩)
  refine psound tokW Try.call9 Try.func9 rfl (fun xs r h => by obtain ⟨n, _, _, _, _, _, rfl, _⟩ := h; show 2 ≤ 20; decide) 20 rfl ?_
  rintro xs r w0 G0 ⟨n, ⟨a1_kind, a1_text, a1_cols, a1_kids⟩, ⟨b2_kind, b2_text, b2_cols, b2_kids⟩, y0, y1, h, rfl, rfl⟩ _
  rw [m_diff_Cost] at h
  refine tri_seq ?_
  refine tri_region (by exact tokW) (by exact gok) [] [] rfl ?_
  show Tri _ _ _ _
  refine tri_seq ?_
  refine tri_seq ?_
  refine tri_region (by exact tokW) (by exact gok) [] [] rfl ?_
  obtain ⟨y3, hy3, h⟩ := bind_out h
  refine ⟨_, ⟨_, _, _, _, hy3, rfl, rfl⟩, ?_⟩
  show Tri _ _ _ _
  refine tri_cond rfl (fun hb => ?_) (fun hb => ?_)
  · replace h := bif_t hb h
    refine tri_seq ?_
    refine tri_region (by exact tokW) (by exact gok) [] [] rfl ?_
    show Tri _ _ _ _
    refine tri_ret ?_
    obtain ⟨hj1, hk1⟩ := Prod.mk.inj (Option.some.inj h)
    subst hj1
    subst hk1
    unfold Gives
    exact ⟨_, Le.refl _ _, rfl, rfl⟩
  · replace h := bif_f hb h
    refine tri_skip ?_
    show Tri _ _ _ _
    refine tri_seq ?_
    refine tri_region (by exact tokW) (by exact gok) [] [16, 18] rfl ?_
    obtain ⟨⟨y4_least, y4_pair, y4_first, y4_other⟩, hy4, h⟩ := bind_out h
    refine ⟨_, ⟨_, _, _, _, hy4, rfl, rfl⟩, ?_⟩
    obtain ⟨e5, he5, h⟩ := bind_out h
    refine And.intro (at_ok (fun _ => rfl) he5).1 ?_
    intro r6 hr6
    obtain rfl : [.sl 1 ((List.map (irow .i64)) e5)] = r6 := (hr6.trans (at_ok (fun _ => rfl) he5).2.1).symm
    obtain ⟨e7, he7, h⟩ := bind_out h
    refine And.intro (at_ok (fun _ => rfl) he7).1 ?_
    intro r8 hr8
    obtain rfl : [.int .i64 e7] = r8 := (hr8.trans (at_ok (fun _ => rfl) he7).2.1).symm
    show Tri _ _ _ _
    refine tri_ret ?_
    obtain ⟨hj1, hk1⟩ := Prod.mk.inj (Option.some.inj h)
    subst hj1
    subst hk1
    unfold Gives
    exact ⟨_, Le.refl _ _, rfl, rfl⟩

end Go.Proofs.Ytplekejomocalaa
