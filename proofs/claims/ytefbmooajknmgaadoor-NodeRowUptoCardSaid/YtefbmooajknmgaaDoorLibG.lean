/-
  node.Row, Item.
-/
import Derived.Test.YtefbmooajknmgaaDoorLibF
import Derived.Test.YtefbmooajknmgaaDoorNdVB
set_option linter.unusedVariables false
set_option linter.unusedSimpArgs false
namespace Go.Proofs.YtefbmooajknmgaaDoor
open Go.Abs

def R_node_Row (n : Nat) (xs : List AV) (r : Ret) : Prop := ∃ (a0 : Nd) (a1 : List Int) (y0 : Nd) (y1 : Int), m_node_Row n a0 a1 = some (y0, y1) ∧ xs = [.agg ((Nd.enc a0).map .s), .s (.sl 1 (a1.map (irow .i64)))] ∧ r = .val (.tup [.agg ((Nd.enc y0).map .s), .s (.int .i64 y1)])
def S_node_Row : PSpec := pspec fun xs r => ∃ n, R_node_Row n xs r
set_option maxHeartbeats 2000000 in
set_option maxRecDepth 100000 in
theorem ok_node_Row : PSound Tryd.prog 34 S_node_Row := by
  have gok : ∀ f s, look? f [(23, S_node_Valid), (67, S_node_find), (66, S_deep_Node)] = some s → PSound Tryd.prog f s := look_all (by
    simp only [List.forall_mem_cons]
    exact ⟨ok_node_Valid, ok_node_find, ok_deep_Node, by simp⟩)
  refine psound tokW Tryd.call34 Tryd.func34 rfl (fun xs r h => by obtain ⟨n, _, _, _, _, _, rfl, _⟩ := h; show 2 ≤ _; decide) _ rfl ?_
  rintro xs r w0 G0 ⟨f, ⟨k, t, c, ks⟩, p, y0, y1, h, rfl, rfl⟩ _
  rw [m_node_Row] at h
  obtain ⟨b, hb, h⟩ := bind_out h
  refine tri_seq ?_
  refine tri_region (by exact tokW) (by exact gok) [4] [] rfl ?_
  show Tri _ _ _ _
  refine tri_seq ?_
  refine tri_seq ?_
  refine tri_region (by exact tokW) (by exact gok) [] [] rfl ?_
  refine ⟨_, ⟨f, _, _, hb, rfl, rfl⟩, ?_⟩
  show Tri _ _ _ _
  cases b with
  | false =>
    refine tri_cond rfl (fun _ => ?_) (fun h => by cases h)
    refine tri_seq ?_
    refine tri_region (by exact tokW) (by exact gok) [] [] rfl ?_
    show Tri _ _ _ _
    refine tri_ret ?_
    obtain ⟨rfl, rfl⟩ := Prod.mk.inj (Option.some.inj h)
    unfold Gives
    exact ⟨_, Le.refl _ _, rfl, rfl⟩
  | true =>
    refine tri_cond rfl (fun h => by cases h) (fun _ => ?_)
    refine tri_skip ?_
    show Tri _ _ _ _
    replace h : (match findL (.mk k t c ks) p with | some r => (m_deep_Node r).bind fun r => some (r, 0) | none => some (zeroNd, 8)) = some (y0, y1) := h
    refine tri_seq ?_
    refine tri_region (by exact tokW) (by exact gok) [] [] rfl ?_
    cases hf : findL (.mk k t c ks) p with
    | none =>
      rw [hf] at h
      refine ⟨.val (.tup [.junk, .s (.bool false)]), ⟨.mk k t c ks, p, rfl, by rw [hf]; rfl⟩, ?_⟩
      show Tri _ _ _ _
      refine tri_seq ?_
      refine tri_seq ?_
      refine tri_region (by exact tokW) (by exact gok) [] [] rfl ?_
      show Tri _ _ _ _
      refine tri_cond rfl (fun _ => ?_) (fun h => by cases h)
      refine tri_seq ?_
      refine tri_region (by exact tokW) (by exact gok) [] [] rfl ?_
      show Tri _ _ _ _
      refine tri_ret ?_
      obtain ⟨rfl, rfl⟩ := Prod.mk.inj (Option.some.inj h)
      unfold Gives
      exact ⟨_, Le.refl _ _, rfl, rfl⟩
    | some z =>
      obtain ⟨k2, t2, c2, ks2⟩ := z
      rw [hf] at h
      refine ⟨.val (.tup [.s (.pt (Nd.enc (.mk k2 t2 c2 ks2))), .s (.bool true)]), ⟨.mk k t c ks, p, rfl, by rw [hf]; rfl⟩, ?_⟩
      show Tri _ _ _ _
      refine tri_seq ?_
      refine tri_seq ?_
      refine tri_region (by exact tokW) (by exact gok) [] [] rfl ?_
      show Tri _ _ _ _
      refine tri_cond rfl (fun h => by cases h) (fun _ => ?_)
      refine tri_skip ?_
      show Tri _ _ _ _
      obtain ⟨⟨k3, t3, c3, ks3⟩, hd, h⟩ := bind_out h
      obtain ⟨rfl, rfl⟩ := Prod.mk.inj (Option.some.inj h)
      refine tri_seq ?_
      refine tri_region (by exact tokW) (by exact gok) [] [] rfl ?_
      refine ⟨_, ⟨_, _, hd, rfl, rfl⟩, ?_⟩
      show Tri _ _ _ _
      refine tri_ret ?_
      unfold Gives
      exact ⟨_, Le.refl _ _, rfl, rfl⟩

def R_node_Item (n : Nat) (xs : List AV) (r : Ret) : Prop := ∃ (a0 : Nd) (a1 : List Int) (a2 : Int) (y0 : Nd) (y1 : Int), m_node_Item n a0 a1 a2 = some (y0, y1) ∧ xs = [.agg ((Nd.enc a0).map .s), .s (.sl 1 (a1.map (irow .i64))), .s (.int .i64 a2)] ∧ r = .val (.tup [.agg ((Nd.enc y0).map .s), .s (.int .i64 y1)])
def S_node_Item : PSpec := pspec fun xs r => ∃ n, R_node_Item n xs r
set_option maxHeartbeats 2000000 in
set_option maxRecDepth 100000 in
theorem ok_node_Item : PSound Tryd.prog 36 S_node_Item := by
  have gok : ∀ f s, look? f [(23, S_node_Valid), (67, S_node_find), (66, S_deep_Node)] = some s → PSound Tryd.prog f s := look_all (by
    simp only [List.forall_mem_cons]
    exact ⟨ok_node_Valid, ok_node_find, ok_deep_Node, by simp⟩)
  refine psound tokW Tryd.call36 Tryd.func36 rfl (fun xs r h => by obtain ⟨n, _, _, _, _, _, _, rfl, _⟩ := h; show 3 ≤ _; decide) _ rfl ?_
  rintro xs r w0 G0 ⟨f, ⟨k, t, c, ks⟩, p, i, y0, y1, h, rfl, rfl⟩ _
  rw [m_node_Item] at h
  obtain ⟨b, hb, h⟩ := bind_out h
  refine tri_seq ?_
  refine tri_region (by exact tokW) (by exact gok) [6] [] rfl ?_
  show Tri _ _ _ _
  refine tri_seq ?_
  refine tri_seq ?_
  refine tri_region (by exact tokW) (by exact gok) [] [] rfl ?_
  refine ⟨_, ⟨f, _, _, hb, rfl, rfl⟩, ?_⟩
  show Tri _ _ _ _
  cases b with
  | false =>
    refine tri_cond rfl (fun _ => ?_) (fun h => by cases h)
    refine tri_seq ?_
    refine tri_region (by exact tokW) (by exact gok) [] [] rfl ?_
    show Tri _ _ _ _
    refine tri_ret ?_
    obtain ⟨rfl, rfl⟩ := Prod.mk.inj (Option.some.inj h)
    unfold Gives
    exact ⟨_, Le.refl _ _, rfl, rfl⟩
  | true =>
    refine tri_cond rfl (fun h => by cases h) (fun _ => ?_)
    refine tri_skip ?_
    show Tri _ _ _ _
    replace h : (match findL (.mk k t c ks) p with | some r => if 0 ≤ i ∧ i < r.kids.length then (m_deep_Node (r.kids.getD i.toNat r)).bind fun r => some (r, 0) else some (zeroNd, 2) | none => some (zeroNd, 8)) = some (y0, y1) := h
    refine tri_seq ?_
    refine tri_region (by exact tokW) (by exact gok) [] [] rfl ?_
    cases hf : findL (.mk k t c ks) p with
    | none =>
      rw [hf] at h
      refine ⟨.val (.tup [.junk, .s (.bool false)]), ⟨.mk k t c ks, p, rfl, by rw [hf]; rfl⟩, ?_⟩
      show Tri _ _ _ _
      refine tri_seq ?_
      refine tri_seq ?_
      refine tri_region (by exact tokW) (by exact gok) [] [] rfl ?_
      show Tri _ _ _ _
      refine tri_cond rfl (fun _ => ?_) (fun h => by cases h)
      refine tri_seq ?_
      refine tri_region (by exact tokW) (by exact gok) [] [] rfl ?_
      show Tri _ _ _ _
      refine tri_ret ?_
      obtain ⟨rfl, rfl⟩ := Prod.mk.inj (Option.some.inj h)
      unfold Gives
      exact ⟨_, Le.refl _ _, rfl, rfl⟩
    | some z =>
      obtain ⟨k2, t2, c2, ks2⟩ := z
      rw [hf] at h
      replace h : (if 0 ≤ i ∧ i < ks2.length then (m_deep_Node (ks2.getD i.toNat (.mk k2 t2 c2 ks2))).bind fun r => some (r, 0) else some (zeroNd, 2)) = some (y0, y1) := h
      refine ⟨.val (.tup [.s (.pt (Nd.enc (.mk k2 t2 c2 ks2))), .s (.bool true)]), ⟨.mk k t c ks, p, rfl, by rw [hf]; rfl⟩, ?_⟩
      show Tri _ _ _ _
      refine tri_seq ?_
      refine tri_seq ?_
      refine tri_region (by exact tokW) (by exact gok) [] [] rfl ?_
      show Tri _ _ _ _
      refine tri_cond rfl (fun h => by cases h) (fun _ => ?_)
      refine tri_skip ?_
      show Tri _ _ _ _
      refine tri_seq ?_
      refine tri_seq ?_
      by_cases hi : i < 0
      · rw [if_neg (by omega)] at h
        obtain ⟨rfl, rfl⟩ := Prod.mk.inj (Option.some.inj h)
        refine tri_region (by exact tokW) (by exact gok) [] [23] rfl ?_
        intro b hb
        obtain rfl : true = b := (hb.trans (decide_eq_true hi)).symm
        show Tri _ _ _ _
        refine tri_cond rfl (fun _ => ?_) (fun h => by cases h)
        refine tri_seq ?_
        refine tri_region (by exact tokW) (by exact gok) [] [] rfl ?_
        show Tri _ _ _ _
        refine tri_ret ?_
        unfold Gives
        exact ⟨_, Le.refl _ _, rfl, rfl⟩
      by_cases hi2 : (ks2.length : Int) ≤ i
      · rw [if_neg (by omega)] at h
        obtain ⟨rfl, rfl⟩ := Prod.mk.inj (Option.some.inj h)
        refine tri_region (by exact tokW) (by exact gok) [] [23, 31] rfl ?_
        intro b hb
        obtain rfl : false = b := (hb.trans (decide_eq_false hi)).symm
        intro b hb
        obtain rfl : true = b := (hb.trans (decide_eq_true (show (((Nd.encs ks2).length : Nat) : Int) ≤ i by rw [encs_len]; exact hi2))).symm
        show Tri _ _ _ _
        refine tri_cond rfl (fun _ => ?_) (fun h => by cases h)
        refine tri_seq ?_
        refine tri_region (by exact tokW) (by exact gok) [] [] rfl ?_
        show Tri _ _ _ _
        refine tri_ret ?_
        unfold Gives
        exact ⟨_, Le.refl _ _, rfl, rfl⟩
      rw [if_pos (by omega)] at h
      have hi0 : i.toNat < ks2.length := by omega
      obtain ⟨⟨k4, t4, c4, ks4⟩, hx⟩ : ∃ x, ks2[i.toNat]? = some x := ⟨_, List.getElem?_eq_getElem hi0⟩
      rw [List.getD_eq_getElem?_getD, hx, Option.getD_some] at h
      obtain ⟨⟨k3, t3, c3, ks3⟩, hd, h⟩ := bind_out h
      obtain ⟨rfl, rfl⟩ := Prod.mk.inj (Option.some.inj h)
      refine tri_region (by exact tokW) (by exact gok) [] [23, 31] rfl ?_
      intro b hb
      obtain rfl : false = b := (hb.trans (decide_eq_false hi)).symm
      intro b hb
      obtain rfl : false = b := (hb.trans (decide_eq_false (show ¬ (((Nd.encs ks2).length : Nat) : Int) ≤ i by rw [encs_len]; exact hi2))).symm
      show Tri _ _ _ _
      refine tri_cond rfl (fun h => by cases h) (fun _ => ?_)
      refine tri_skip ?_
      show Tri _ _ _ _
      refine tri_seq ?_
      refine tri_region (by exact tokW) (by exact gok) [] [] rfl ?_
      refine And.intro (show (0 : Int) ≤ i ∧ i < (((Nd.encs ks2).length : Nat) : Int) by rw [encs_len]; omega) ?_
      rw [show (Nd.encs ks2).getD i.toNat [] = Nd.enc (.mk k4 t4 c4 ks4) from encs_at hx]
      refine ⟨_, ⟨_, _, hd, rfl, rfl⟩, ?_⟩
      show Tri _ _ _ _
      refine tri_ret ?_
      unfold Gives
      exact ⟨_, Le.refl _ _, rfl, rfl⟩
end Go.Proofs.YtefbmooajknmgaaDoor

