/-
  Joined out of: MEd, EdE, MEh, LibE, MEe, EdF.
-/
import Derived.Test.YtfbggpmdmhgpfaaZd
set_option linter.unusedVariables false
set_option linter.unusedSimpArgs false
namespace Go.Proofs.Ytfbggpmdmhgpfaa
open Go.Abs
def m_slices_Concat_sNode_l1 (slices1 : List (List Nd)) : Nat → Int → Int → Option (Int)
| 0, _, _ => none
| k+1, x3, size4 =>
  bif decide (x3 < (slices1.length : Int)) then (
    (at? slices1 x3).bind fun e6 =>
    bif decide ((IntKind.i64.wrap (size4 + (e6.length : Int))) < 0) then (
      none
    ) else (
      m_slices_Concat_sNode_l1 slices1 k (IntKind.i64.wrap (x3 + 1)) (IntKind.i64.wrap (size4 + (e6.length : Int)))
    )
  ) else (
    some size4
  )
def m_slices_Concat_sNode_l2 (slices1 : List (List Nd)) : Nat → Int → (List Nd) → Option ((List Nd))
| 0, _, _ => none
| k+1, x11, l13 =>
  bif decide (x11 < (slices1.length : Int)) then (
    (at? slices1 x11).bind fun e15 =>
    req (l13.length + e15.length ≤ 4294967296) <|
    m_slices_Concat_sNode_l2 slices1 k (IntKind.i64.wrap (x11 + 1)) (l13 ++ e15)
  ) else (
    some l13
  )
def m_slices_Concat_sNode (n : Nat) : (List (List Nd)) → Option (List Nd)
| slices1 =>
  (m_slices_Concat_sNode_l1 slices1 n 0 0).bind fun size5 =>
  (m_slices_Grow_sNode size5).bind fun y9 =>
  (m_slices_Concat_sNode_l2 slices1 n 0 y9).bind fun l14 =>
  some l14
def m_edit_change_join (n : Nat) : ((Int × List Int × Int × Int × List Nd × Int × List UInt8 × List UInt8) × List Nd) → Int → (List Nd) → Option (List Nd)
| ⟨⟨c1_op_kind, c1_op_row, c1_op_at, c1_op_n, c1_op_nodes, c1_op_slot, c1_op_old, c1_op_text⟩, c1_items⟩, n2, nodes3 =>
  req (0 ≤ (0 : Int) ∧ (0 : Int) ≤ c1_op_at ∧ c1_op_at ≤ (c1_items.length : Int)) <|
  req (0 ≤ (IntKind.i64.wrap (c1_op_at + n2)) ∧ (IntKind.i64.wrap (c1_op_at + n2)) ≤ (c1_items.length : Int) ∧ (c1_items.length : Int) ≤ (c1_items.length : Int)) <|
  (m_slices_Concat_sNode n [(c1_items.take c1_op_at.toNat).drop (0 : Int).toNat, nodes3, (c1_items.take (c1_items.length : Int).toNat).drop (IntKind.i64.wrap (c1_op_at + n2)).toNat]).bind fun y7 =>
  some y7
def m_edit_change_unwrap_kids (n : Nat) : ((Int × List Int × Int × Int × List Nd × Int × List UInt8 × List UInt8) × List Nd) → Option ((List Nd) × Int)
| ⟨⟨c1_op_kind, c1_op_row, c1_op_at, c1_op_n, c1_op_nodes, c1_op_slot, c1_op_old, c1_op_text⟩, c1_items⟩ =>
  (at? c1_items c1_op_at).bind fun ⟨e2_kind, e2_text, e2_cols, e2_kids⟩ =>
  (m_deep_Node_own (Nd.mk e2_kind e2_text e2_cols e2_kids)).bind fun ⟨y4_kind, y4_text, y4_cols, y4_kids⟩ =>
  (m_node_Slots (Nd.mk y4_kind y4_text y4_cols y4_kids)).bind fun y5 =>
  bif decide (y5 ≤ c1_op_slot) then (
    some ([], 7)
  ) else (
    (at? y4_kids c1_op_slot).bind fun ⟨e6_kind, e6_text, e6_cols, e6_kids⟩ =>
    (at? y4_kids c1_op_slot).bind fun ⟨e7_kind, e7_text, e7_cols, e7_kids⟩ =>
    (
      bif ((e6_kids.length : Int) != c1_op_n) then (
        some true
      ) else (
        (at? c1_op_nodes 0).bind fun ⟨e11_kind, e11_text, e11_cols, e11_kids⟩ =>
        (m_node_Equal n (Nd.mk y4_kind y4_text y4_cols (y4_kids.set c1_op_slot.toNat (Nd.mk e7_kind e7_text e7_cols []))) (Nd.mk e11_kind e11_text e11_cols e11_kids)).bind fun y13 =>
        some (!y13)
      )
     : Option (Bool)).bind fun x9 =>
    bif x9 then (
      some ([], 7)
    ) else (
      (m_edit_change_join n ((c1_op_kind, c1_op_row, c1_op_at, c1_op_n, c1_op_nodes, c1_op_slot, c1_op_old, c1_op_text), c1_items) 1 e6_kids).bind fun y14 =>
      some (y14, 0)
    )
  )
def m_edit_change_wrap (n : Nat) : ((Int × List Int × Int × Int × List Nd × Int × List UInt8 × List UInt8) × List Nd) → Option ((List Nd) × Int)
| ⟨⟨c1_op_kind, c1_op_row, c1_op_at, c1_op_n, c1_op_nodes, c1_op_slot, c1_op_old, c1_op_text⟩, c1_items⟩ =>
  (at? c1_op_nodes 0).bind fun ⟨e2_kind, e2_text, e2_cols, e2_kids⟩ =>
  (m_deep_Node_own (Nd.mk e2_kind e2_text e2_cols e2_kids)).bind fun ⟨y4_kind, y4_text, y4_cols, y4_kids⟩ =>
  req (0 ≤ c1_op_at ∧ c1_op_at ≤ IntKind.i64.wrap (c1_op_at + c1_op_n) ∧ IntKind.i64.wrap (c1_op_at + c1_op_n) ≤ (c1_items.length : Int)) <|
  (m_slices_Clone_sNode ((c1_items.take (IntKind.i64.wrap (c1_op_at + c1_op_n)).toNat).drop c1_op_at.toNat)).bind fun y6 =>
  (at? y4_kids c1_op_slot).bind fun ⟨e7_kind, e7_text, e7_cols, e7_kids⟩ =>
  (m_edit_change_join n ((c1_op_kind, c1_op_row, c1_op_at, c1_op_n, c1_op_nodes, c1_op_slot, c1_op_old, c1_op_text), c1_items) c1_op_n [Nd.mk y4_kind y4_text y4_cols (y4_kids.set c1_op_slot.toNat (Nd.mk e7_kind e7_text e7_cols y6))]).bind fun y10 =>
  some (y10, 0)
def m_edit_change_insert (n : Nat) : ((Int × List Int × Int × Int × List Nd × Int × List UInt8 × List UInt8) × List Nd) → Option ((List Nd) × Int)
| ⟨⟨c1_op_kind, c1_op_row, c1_op_at, c1_op_n, c1_op_nodes, c1_op_slot, c1_op_old, c1_op_text⟩, c1_items⟩ =>
  (m_edit_change_join n ((c1_op_kind, c1_op_row, c1_op_at, c1_op_n, c1_op_nodes, c1_op_slot, c1_op_old, c1_op_text), c1_items) 0 c1_op_nodes).bind fun y2 =>
  some (y2, 0)
def m_edit_change_remove (n : Nat) : ((Int × List Int × Int × Int × List Nd × Int × List UInt8 × List UInt8) × List Nd) → Option ((List Nd) × Int)
| ⟨⟨c1_op_kind, c1_op_row, c1_op_at, c1_op_n, c1_op_nodes, c1_op_slot, c1_op_old, c1_op_text⟩, c1_items⟩ =>
  req (0 ≤ c1_op_at ∧ c1_op_at ≤ IntKind.i64.wrap (c1_op_at + (c1_op_nodes.length : Int)) ∧ IntKind.i64.wrap (c1_op_at + (c1_op_nodes.length : Int)) ≤ (c1_items.length : Int)) <|
  (m_slices_EqualFunc_sNode n ((c1_items.take (IntKind.i64.wrap (c1_op_at + (c1_op_nodes.length : Int))).toNat).drop c1_op_at.toNat) c1_op_nodes).bind fun y4 =>
  bif (!y4) then (
    some ([], 7)
  ) else (
    (m_edit_change_join n ((c1_op_kind, c1_op_row, c1_op_at, c1_op_n, c1_op_nodes, c1_op_slot, c1_op_old, c1_op_text), c1_items) (c1_op_nodes.length : Int) []).bind fun y5 =>
    some (y5, 0)
  )
def m_edit_change_set (n : Nat) : ((Int × List Int × Int × Int × List Nd × Int × List UInt8 × List UInt8) × List Nd) → Option ((List Nd) × Int)
| ⟨⟨c1_op_kind, c1_op_row, c1_op_at, c1_op_n, c1_op_nodes, c1_op_slot, c1_op_old, c1_op_text⟩, c1_items⟩ =>
  (at? c1_items c1_op_at).bind fun ⟨e2_kind, e2_text, e2_cols, e2_kids⟩ =>
  (
    (
      bif (e2_kind == 2) then (
        some (e2_kind == 2)
      ) else (
        bif (e2_kind == 3) then (
          some (e2_kind == 3)
        ) else (
          bif (e2_kind == 4) then (
            some (e2_kind == 4)
          ) else (
            bif (e2_kind == 10) then (
              some (e2_kind == 10)
            ) else (
              some (e2_kind == 11)
            )
          )
        )
      )
     : Option (Bool)).bind fun x4 =>
    bif x4 then (
      some (.go ())
    ) else (
      some (.ret ([], 7))
    )
   : Option (Fl ((List Nd) × Int) Unit)).bind fun fl => match fl with
  | .ret r => some r
  | .go _ =>
    bif (!(e2_text == c1_op_old)) then (
      some ([], 7)
    ) else (
      (m_edit_change_join n ((c1_op_kind, c1_op_row, c1_op_at, c1_op_n, c1_op_nodes, c1_op_slot, c1_op_old, c1_op_text), c1_items) 1 [Nd.mk e2_kind c1_op_text e2_cols e2_kids]).bind fun y6 =>
      some (y6, 0)
    )
def m_edit_change_enough : ((Int × List Int × Int × Int × List Nd × Int × List UInt8 × List UInt8) × List Nd) → Option Int
| ⟨⟨c1_op_kind, c1_op_row, c1_op_at, c1_op_n, c1_op_nodes, c1_op_slot, c1_op_old, c1_op_text⟩, c1_items⟩ =>
  (
    bif (c1_op_kind == 1) then (
      some 0
    ) else (
      bif (c1_op_kind == 2) then (
        some (c1_op_nodes.length : Int)
      ) else (
        bif (c1_op_kind == 3) then (
          some c1_op_n
        ) else (
          some 1
        )
      )
    )
   : Option (Int)).bind fun need2 =>
  (
    bif decide (c1_op_at < 0) then (
      some true
    ) else (
      bif decide ((c1_items.length : Int) < c1_op_at) then (
        some true
      ) else (
        some (decide ((IntKind.i64.wrap ((c1_items.length : Int) - c1_op_at)) < need2))
      )
    )
   : Option (Bool)).bind fun x4 =>
  bif x4 then (
    some 2
  ) else (
    some 0
  )
def m_edit_container (n : Nat) : (List Nd) → Int → Option Bool
| l1, slot2 =>
  (
    bif ((l1.length : Int) != 1) then (
      some true
    ) else (
      (m_node_ValidItems n l1).bind fun y5 =>
      bif (!y5) then (
        some true
      ) else (
        bif decide (slot2 < 0) then (
          some true
        ) else (
          (at? l1 0).bind fun ⟨e6_kind, e6_text, e6_cols, e6_kids⟩ =>
          (m_node_Slots (Nd.mk e6_kind e6_text e6_cols e6_kids)).bind fun y8 =>
          some (decide (y8 ≤ slot2))
        )
      )
    )
   : Option (Bool)).bind fun x3 =>
  bif x3 then (
    some false
  ) else (
    (at? l1 0).bind fun ⟨e9_kind, e9_text, e9_cols, e9_kids⟩ =>
    (at? e9_kids slot2).bind fun ⟨e11_kind, e11_text, e11_cols, e11_kids⟩ =>
    some ((e11_kids.length : Int) == 0)
  )
def m_edit_Formed (n : Nat) : (Int × List Int × Int × Int × List Nd × Int × List UInt8 × List UInt8) → Option Bool
| ⟨a1_kind, a1_row, a1_at, a1_n, a1_nodes, a1_slot, a1_old, a1_text⟩ =>
  (
    bif (!(a1_old == [])) then (
      some true
    ) else (
      some (!(a1_text == []))
    )
   : Option (Bool)).bind fun x2 =>
  (
    (
      bif (a1_kind == 1) then (
        some (a1_kind == 1)
      ) else (
        some (a1_kind == 2)
      )
     : Option (Bool)).bind fun x3 =>
    bif x3 then (
      (
        bif (a1_n == 0) then (
          bif (a1_slot == 0) then (
            bif (!x2) then (
              bif decide (0 < (a1_nodes.length : Int)) then (
                (m_node_ValidItems n a1_nodes).bind fun y6 =>
                some y6
              ) else (
                some false
              )
            ) else (
              some false
            )
          ) else (
            some false
          )
        ) else (
          some false
        )
       : Option (Bool)).bind fun x4 =>
      some (.ret x4)
    ) else (
      (
        bif (a1_kind == 3) then (
          some (a1_kind == 3)
        ) else (
          some (a1_kind == 4)
        )
       : Option (Bool)).bind fun x7 =>
      bif x7 then (
        (
          bif decide (0 ≤ a1_n) then (
            bif (!x2) then (
              (m_edit_container n a1_nodes a1_slot).bind fun y9 =>
              some y9
            ) else (
              some false
            )
          ) else (
            some false
          )
         : Option (Bool)).bind fun x8 =>
        some (.ret x8)
      ) else (
        bif (a1_kind == 5) then (
          (
            bif (a1_n == 0) then (
              bif (a1_slot == 0) then (
                bif ((a1_nodes.length : Int) == 0) then (
                  some (!(a1_old == a1_text))
                ) else (
                  some false
                )
              ) else (
                some false
              )
            ) else (
              some false
            )
           : Option (Bool)).bind fun x10 =>
          some (.ret x10)
        ) else (
          some (.go ())
        )
      )
    )
   : Option (Fl Bool Unit)).bind fun fl => match fl with
  | .ret r => some r
  | .go _ =>
    some false
def m_deep_Ints : (List Int) → Option (List Int)
| l1 =>
  (m_slices_Clone_sint l1).bind fun y2 =>
  some y2
def m_deep_Nodes_l1 (l1 : List Nd) : Nat → Int → (List Nd) → Option ((List Nd))
| 0, _, _ => none
| k+1, x4, l5 =>
  bif decide (x4 < (l1.length : Int)) then (
    (at? l1 x4).bind fun ⟨e7_kind, e7_text, e7_cols, e7_kids⟩ =>
    (m_deep_Node (Nd.mk e7_kind e7_text e7_cols e7_kids)).bind fun ⟨y9_kind, y9_text, y9_cols, y9_kids⟩ =>
    req (l5.length + [Nd.mk y9_kind y9_text y9_cols y9_kids].length ≤ 4294967296) <|
    m_deep_Nodes_l1 l1 k (IntKind.i64.wrap (x4 + 1)) (l5 ++ [Nd.mk y9_kind y9_text y9_cols y9_kids])
  ) else (
    some l5
  )
def m_deep_Nodes (n : Nat) : (List Nd) → Option (List Nd)
| l1 =>
  (m_deep_Nodes_l1 l1 n 0 []).bind fun l6 =>
  some l6
def m_deep_Op (n : Nat) : (Int × List Int × Int × Int × List Nd × Int × List UInt8 × List UInt8) → Option (Int × List Int × Int × Int × List Nd × Int × List UInt8 × List UInt8)
| ⟨op1_kind, op1_row, op1_at, op1_n, op1_nodes, op1_slot, op1_old, op1_text⟩ =>
  (m_deep_Ints op1_row).bind fun y2 =>
  (m_deep_Nodes n op1_nodes).bind fun y3 =>
  some (op1_kind, y2, op1_at, op1_n, y3, op1_slot, op1_old, op1_text)
def m_edit_change_unwrap_none : ((Int × List Int × Int × Int × List Nd × Int × List UInt8 × List UInt8) × List Nd) → Option ((List Nd) × Int)
| ⟨⟨c1_op_kind, c1_op_row, c1_op_at, c1_op_n, c1_op_nodes, c1_op_slot, c1_op_old, c1_op_text⟩, c1_items⟩ =>
  (at? c1_items c1_op_at).bind fun ⟨e2_kind, e2_text, e2_cols, e2_kids⟩ =>
  (m_deep_Node (Nd.mk e2_kind e2_text e2_cols e2_kids)).bind fun ⟨y4_kind, y4_text, y4_cols, y4_kids⟩ =>
  (m_node_Slots (Nd.mk y4_kind y4_text y4_cols y4_kids)).bind fun y5 =>
  bif decide (y5 ≤ c1_op_slot) then (
    some ([], 7)
  ) else (
    none
  )
end Go.Proofs.Ytfbggpmdmhgpfaa
namespace Go.Proofs.Ytfbggpmdmhgpfaa
open Go.Abs
def enc_s_api_Node (p : List Nd) : List S := [.sl 4 (Nd.encs p)]
def R_slices_Concat_sNode (n : Nat) (xs : List AV) (r : Ret) : Prop := ∃ (a0 : List (List Nd)) (y0 : List Nd), m_slices_Concat_sNode n a0 = some y0 ∧ xs = [.s (.sl 1 ((List.map enc_s_api_Node) a0))] ∧ r = .row 24 4 (Nd.encs y0)
def S_slices_Concat_sNode : PSpec := pspec fun xs r => ∃ n, R_slices_Concat_sNode n xs r
set_option maxHeartbeats 2000000 in
set_option maxRecDepth 100000 in
theorem ok_slices_Concat_sNode : PSound Try.prog 98 S_slices_Concat_sNode := by
  have gok : ∀ f s, look? f [(106, S_slices_Grow_sNode)] = some s → PSound Try.prog f s := look_all (by
    simp only [List.forall_mem_cons]
    exact ⟨ok_slices_Grow_sNode, by simp⟩)
  refine psound tokW Try.call98 Try.func98 rfl (fun xs r h => by obtain ⟨n, _, _, _, rfl, _⟩ := h; show 1 ≤ 36; decide) 36 rfl ?_
  rintro xs r w0 G0 ⟨n, slices1, y0, h, rfl, rfl⟩ _
  rw [m_slices_Concat_sNode] at h
  refine tri_seq ?_
  refine tri_region (by exact tokW) (by exact gok) [2] [] rfl ?_
  show Tri _ _ _ _
  refine tri_le (Le.rename [] [(0, .s (.sl 1 ((List.map enc_s_api_Node) slices1)))] [] 0 ⟨rfl, trivial⟩ trivial rfl rfl rfl rfl rfl) ?_
  refine tri_seq ?_
  refine tri_region (by exact tokW) (by exact gok) [] [] rfl ?_
  show Tri _ _ _ _
  refine tri_seq ?_
  refine tri_seq ?_
  refine tri_region (by exact tokW) (by exact gok) [] [10] rfl ?_
  intro n2 hn2
  obtain rfl : (slices1.length : Int) = n2 := (hn2.trans (congrArg (fun m : Nat => (m : Int)) (rlen (fun _ => rfl) slices1))).symm
  show Tri _ _ _ _
  obtain ⟨size5, hl, h⟩ := bind_out h
  refine tri_post ⟨ofL [(0, .s (.sl 1 ((List.map enc_s_api_Node) slices1))), (3, .s (.int .i64 size5))], fun _ => none, 0⟩ ?_ (fun σ' hle => ?_)
  · refine tri_block (tri_loopI (X := Nat × Int × Int) (fun y => match y with | (k, x3, size4) => ⟨ofL [(0, .s (.sl 1 ((List.map enc_s_api_Node) slices1))), (3, .s (.int .i64 size4)), (9, .s (.sl 1 ((List.map enc_s_api_Node) slices1))), (10, .s (.int .i64 (slices1.length : Int))), (11, .s (.int .i64 x3))], fun _ => none, 0⟩) (fun y => m_slices_Concat_sNode_l1 slices1 y.1 y.2.1 y.2.2 = some size5) (fun y => y.1) (n, 0, 0) hl ?_ ?_)
    · exact (Le.forget _ ⟨rfl, rfl, rfl, rfl, rfl, trivial⟩)
    · rintro ⟨k, x3, size4⟩ h
      cases k with
      | zero => cases h
      | succ k =>
        replace h : m_slices_Concat_sNode_l1 slices1 (k+1) x3 size4 = some size5 := h
        rw [m_slices_Concat_sNode_l1] at h
        refine tri_seq ?_
        refine tri_region (by exact tokW) (by exact gok) [] [] rfl ?_
        show Tri _ _ _ _
        refine tri_seq ?_
        refine tri_cond rfl (fun hb => ?_) (fun hb => ?_)
        · replace h := bif_t hb h
          refine tri_skip ?_
          show Tri _ _ _ _
          refine tri_seq ?_
          refine tri_block ?_
          refine tri_seq ?_
          refine tri_region (by exact tokW) (by exact gok) [] [13] rfl ?_
          obtain ⟨e6, he6, h⟩ := bind_out h
          refine And.intro (at_ok (fun _ => rfl) he6).1 ?_
          intro r7 hr7
          obtain rfl : [.sl 4 (Nd.encs e6)] = r7 := (hr7.trans (at_ok (fun _ => rfl) he6).2.1).symm
          show Tri _ _ _ _
          refine tri_seq ?_
          refine tri_region (by exact tokW) (by exact gok) [] [17] rfl ?_
          intro n8 hn8
          obtain rfl : (e6.length : Int) = n8 := (hn8.trans (congrArg (fun m : Nat => (m : Int)) (rlen Nd.encs_eq e6))).symm
          show Tri _ _ _ _
          refine tri_seq ?_
          refine tri_region (by exact tokW) (by exact gok) [] [] rfl ?_
          show Tri _ _ _ _
          refine tri_cond rfl (fun hb => ?_) (fun hb => ?_)
          · replace h := bif_t hb h
            cases h
          · replace h := bif_f hb h
            refine tri_skip ?_
            show Tri _ _ _ _
            refine tri_region (by exact tokW) (by exact gok) [] [] rfl ?_
            refine ⟨(k, IntKind.i64.wrap (x3 + 1), IntKind.i64.wrap (size4 + (e6.length : Int))), h, (Le.forget _ ⟨rfl, rfl, rfl, rfl, rfl, trivial⟩), Nat.lt_succ_self k⟩
        · replace h := bif_f hb h
          refine tri_exit ?_
          cases h
          exact (Le.forget _ ⟨rfl, rfl, trivial⟩)
  · show Tri _ _ _ _
    refine tri_le hle ?_
    refine tri_seq ?_
    refine tri_region (by exact tokW) (by exact gok) [24] [] rfl ?_
    obtain ⟨y9, hy9, h⟩ := bind_out h
    refine ⟨_, ⟨_, _, hy9, rfl, rfl⟩, ?_⟩
    show Tri _ _ _ _
    refine tri_seq ?_
    refine tri_seq ?_
    refine tri_region (by exact tokW) (by exact gok) [] [26] rfl ?_
    intro n10 hn10
    obtain rfl : (slices1.length : Int) = n10 := (hn10.trans (congrArg (fun m : Nat => (m : Int)) (rlen (fun _ => rfl) slices1))).symm
    show Tri _ _ _ _
    obtain ⟨l14, hl, h⟩ := bind_out h
    refine tri_post ⟨ofL [(6, .orow 0)], ofH [(0, .row 24 4 (Nd.encs l14))], 1⟩ ?_ (fun σ' hle => ?_)
    · refine tri_block (tri_loopI (X := Nat × Int × (List Nd)) (fun y => match y with | (k, x11, l13) => ⟨ofL [(6, .orow 0), (25, .s (.sl 1 ((List.map enc_s_api_Node) slices1))), (26, .s (.int .i64 (slices1.length : Int))), (27, .s (.int .i64 x11))], ofH [(0, .row 24 4 (Nd.encs l13))], 1⟩) (fun y => m_slices_Concat_sNode_l2 slices1 y.1 y.2.1 y.2.2 = some l14) (fun y => y.1) (n, 0, y9) hl ?_ ?_)
      · exact (Le.rename [(0, 0)] _ _ _ ⟨rfl, rfl, rfl, rfl, trivial⟩ ⟨rfl, ⟨_, rfl, rfl⟩, trivial⟩ rfl rfl rfl rfl rfl)
      · rintro ⟨k, x11, l13⟩ h
        cases k with
        | zero => cases h
        | succ k =>
          replace h : m_slices_Concat_sNode_l2 slices1 (k+1) x11 l13 = some l14 := h
          rw [m_slices_Concat_sNode_l2] at h
          refine tri_seq ?_
          refine tri_region (by exact tokW) (by exact gok) [] [] rfl ?_
          show Tri _ _ _ _
          refine tri_seq ?_
          refine tri_cond rfl (fun hb => ?_) (fun hb => ?_)
          · replace h := bif_t hb h
            refine tri_skip ?_
            show Tri _ _ _ _
            refine tri_seq ?_
            refine tri_block ?_
            refine tri_seq ?_
            refine tri_region (by exact tokW) (by exact gok) [] [29] rfl ?_
            obtain ⟨e15, he15, h⟩ := bind_out h
            refine And.intro (at_ok (fun _ => rfl) he15).1 ?_
            intro r16 hr16
            obtain rfl : [.sl 4 (Nd.encs e15)] = r16 := (hr16.trans (at_ok (fun _ => rfl) he15).2.1).symm
            show Tri _ _ _ _
            refine tri_region (by exact tokW) (by exact gok) [33] [] rfl ?_
            obtain ⟨hq, h⟩ := req_out h
            refine And.intro (show ((Nd.encs l13).length + (Nd.encs e15).length) * 56 ≤ 140737488355328 ∧ (Nd.encs l13).length + (Nd.encs e15).length ≤ 9223372036854775807 from by simp only [List.length_append, List.length_cons, List.length_nil, List.length_map, rlen Nd.encs_eq] at hq ⊢; omega) ?_
            show Tri _ _ _ _
            refine tri_le (Le.rename [(1, 0)] [(6, .orow 0), (25, .s (.sl 1 ((List.map enc_s_api_Node) slices1))), (26, .s (.int .i64 (slices1.length : Int))), (27, .s (.int .i64 x11))] [(0, .row 24 4 (Nd.encs (l13 ++ e15)))] 1 ⟨rfl, rfl, rfl, rfl, trivial⟩ ⟨rfl, ⟨_, rfl, congrArg (Ob.row 24 4) (by simp [List.map_append, List.map_take, List.map_drop, irow, brow, b8of_row, List.map_cons, List.map_nil, b8of_wrap, Nd.encs_eq, Nd.enc, enc_s_api_Node])⟩, trivial⟩ rfl rfl rfl rfl rfl) ?_
            refine tri_region (by exact tokW) (by exact gok) [] [] rfl ?_
            refine ⟨(k, IntKind.i64.wrap (x11 + 1), l13 ++ e15), h, (Le.rename [(0, 0)] _ _ _ ⟨rfl, rfl, rfl, rfl, trivial⟩ ⟨rfl, ⟨_, rfl, rfl⟩, trivial⟩ rfl rfl rfl rfl rfl), Nat.lt_succ_self k⟩
          · replace h := bif_f hb h
            refine tri_exit ?_
            cases h
            exact (Le.rename [(0, 0)] _ _ _ ⟨rfl, trivial⟩ ⟨rfl, ⟨_, rfl, rfl⟩, trivial⟩ rfl rfl rfl rfl rfl)
    · show Tri _ _ _ _
      refine tri_le hle ?_
      refine tri_seq ?_
      refine tri_region (by exact tokW) (by exact gok) [] [] rfl ?_
      show Tri _ _ _ _
      refine tri_ret ?_
      have hy := Option.some.inj h
      subst hy
      unfold Gives
      exact ⟨_, Le.refl _ _, 0, rfl, rfl⟩
def enc_edit_change (p : ((Int × List Int × Int × Int × List Nd × Int × List UInt8 × List UInt8) × List Nd)) : List S := [.int .i64 p.1.1, .sl 1 ((List.map (irow .i64)) p.1.2.1), .int .i64 p.1.2.2.1, .int .i64 p.1.2.2.2.1, .sl 4 (Nd.encs p.1.2.2.2.2.1), .int .i64 p.1.2.2.2.2.2.1, .str p.1.2.2.2.2.2.2.1, .str p.1.2.2.2.2.2.2.2, .sl 4 (Nd.encs p.2)]
def R_edit_change_join (n : Nat) (xs : List AV) (r : Ret) : Prop := ∃ (a0 : ((Int × List Int × Int × Int × List Nd × Int × List UInt8 × List UInt8) × List Nd)) (a1 : Int) (a2 : List Nd) (y0 : List Nd), m_edit_change_join n a0 a1 a2 = some y0 ∧ xs = [.agg ((enc_edit_change a0).map .s), .s (.int .i64 a1), .s (.sl 4 (Nd.encs a2))] ∧ r = .val (.s (.sl 4 (Nd.encs y0)))
def S_edit_change_join : PSpec := pspec fun xs r => ∃ n, R_edit_change_join n xs r
set_option maxHeartbeats 2000000 in
set_option maxRecDepth 100000 in
theorem ok_edit_change_join : PSound Try.prog 81 S_edit_change_join := by
  have gok : ∀ f s, look? f [(98, S_slices_Concat_sNode)] = some s → PSound Try.prog f s := look_all (by
    simp only [List.forall_mem_cons]
    exact ⟨ok_slices_Concat_sNode, by simp⟩)
  refine psound tokW Try.call81 Try.func81 rfl (fun xs r h => by obtain ⟨n, _, _, _, _, _, rfl, _⟩ := h; show 3 ≤ 24; decide) 24 rfl ?_
  rintro xs r w0 G0 ⟨n, ⟨⟨c1_op_kind, c1_op_row, c1_op_at, c1_op_n, c1_op_nodes, c1_op_slot, c1_op_old, c1_op_text⟩, c1_items⟩, n2, nodes3, y0, h, rfl, rfl⟩ _
  rw [m_edit_change_join] at h
  refine tri_seq ?_
  refine tri_region (by exact tokW) (by exact gok) [] [] rfl ?_
  show Tri _ _ _ _
  refine tri_seq ?_
  refine tri_drawn (by exact tokW) (by exact gok) (by exact mixed) [] [12, 21, 22] [] rfl (by decide +kernel) ?_
  obtain ⟨hq, h⟩ := req_out h
  refine And.intro ⟨hq.1, hq.2.1, Int.le_trans hq.2.2 (Int.ofNat_le.2 (Nat.le_of_eq (rlen Nd.encs_eq _).symm))⟩ ?_
  intro r4 hr4
  obtain rfl : Nd.encs ((c1_items.take c1_op_at.toNat).drop (0 : Int).toNat) = r4 := (hr4.trans (rcut Nd.encs_eq _ _ _)).symm
  obtain ⟨hq, h⟩ := req_out h
  refine And.intro ⟨hq.1, Int.le_trans hq.2.1 (Int.ofNat_le.2 (Nat.le_of_eq (rlen Nd.encs_eq _).symm)), Int.le_refl _⟩ ?_
  intro r5 hr5
  obtain rfl : Nd.encs ((c1_items.take (c1_items.length : Int).toNat).drop (IntKind.i64.wrap (c1_op_at + n2)).toNat) = r5 := (hr5.trans ((congrArg (fun m : Nat => ((Nd.encs c1_items).take m).drop (IntKind.i64.wrap (c1_op_at + n2)).toNat) (rlen Nd.encs_eq _)).trans (rcut Nd.encs_eq _ _ _))).symm
  intro r6 hr6
  obtain rfl : (List.map enc_s_api_Node) [(c1_items.take c1_op_at.toNat).drop (0 : Int).toNat, nodes3, (c1_items.take (c1_items.length : Int).toNat).drop (IntKind.i64.wrap (c1_op_at + n2)).toNat] = r6 := (hr6.trans (by simp [List.map_append, List.map_take, List.map_drop, irow, brow, b8of_row, List.map_cons, List.map_nil, b8of_wrap, Nd.encs_eq, Nd.enc, enc_s_api_Node])).symm
  obtain ⟨y7, hy7, h⟩ := bind_out h
  refine ⟨_, ⟨_, _, _, hy7, rfl, rfl⟩, ?_⟩
  show Tri _ _ _ _
  refine tri_ret ?_
  have hy := Option.some.inj h
  subst hy
  unfold Gives
  exact ⟨_, Le.refl _ _, rfl, rfl⟩
def R_edit_change_wrap (n : Nat) (xs : List AV) (r : Ret) : Prop := ∃ (a0 : ((Int × List Int × Int × Int × List Nd × Int × List UInt8 × List UInt8) × List Nd)) (y0 : List Nd) (y1 : Int), m_edit_change_wrap n a0 = some (y0, y1) ∧ xs = [.agg ((enc_edit_change a0).map .s)] ∧ r = .val (.tup [.s (.sl 4 (Nd.encs y0)), .s (.int .i64 y1)])
def S_edit_change_wrap : PSpec := pspec fun xs r => ∃ n, R_edit_change_wrap n xs r
set_option maxHeartbeats 2000000 in
set_option maxRecDepth 100000 in
theorem ok_edit_change_wrap : PSound Try.prog 62 S_edit_change_wrap := by
  have gok : ∀ f s, look? f [(49, S_deep_Node_own), (84, S_slices_Clone_sNode), (81, S_edit_change_join)] = some s → PSound Try.prog f s := look_all (by
    simp only [List.forall_mem_cons]
    exact ⟨ok_deep_Node_own, ok_slices_Clone_sNode, ok_edit_change_join, by simp⟩)
  refine psound tokW Try.call62 Try.func62 rfl (fun xs r h => by obtain ⟨n, _, _, _, _, rfl, _⟩ := h; show 1 ≤ 39; decide) 39 rfl ?_
  rintro xs r w0 G0 ⟨n, ⟨⟨c1_op_kind, c1_op_row, c1_op_at, c1_op_n, c1_op_nodes, c1_op_slot, c1_op_old, c1_op_text⟩, c1_items⟩, y0, y1, h, rfl, rfl⟩ _
  rw [m_edit_change_wrap] at h
  refine tri_seq ?_
  refine tri_region (by exact tokW) (by exact gok) [] [] rfl ?_
  show Tri _ _ _ _
  refine tri_seq ?_
  refine tri_region (by exact tokW) (by exact gok) [4] [8] rfl ?_
  obtain ⟨⟨e2_kind, e2_text, e2_cols, e2_kids⟩, he2, h⟩ := bind_out h
  refine And.intro (at_ok Nd.encs_eq he2).1 ?_
  intro r3 hr3
  obtain rfl : [.int .i64 e2_kind, .str e2_text, .int .i64 e2_cols, .sl 4 (Nd.encs e2_kids)] = r3 := (hr3.trans (at_ok Nd.encs_eq he2).2.1).symm
  obtain ⟨⟨y4_kind, y4_text, y4_cols, y4_kids⟩, hy4, h⟩ := bind_out h
  refine ⟨_, _, ⟨_, _, hy4, rfl, rfl, rfl, rfl⟩, ?_⟩
  show Tri _ _ _ _
  refine tri_seq ?_
  refine tri_drawn (by exact tokW) (by exact gok) (by exact mixed) [] [28] [1, 19, 21] rfl (by decide +kernel) ?_
  obtain ⟨hq, h⟩ := req_out h
  refine And.intro ⟨hq.1, hq.2.1, Int.le_trans hq.2.2 (Int.ofNat_le.2 (Nat.le_of_eq (rlen Nd.encs_eq _).symm))⟩ ?_
  intro r5 hr5
  obtain rfl : Nd.encs ((c1_items.take (IntKind.i64.wrap (c1_op_at + c1_op_n)).toNat).drop c1_op_at.toNat) = r5 := (hr5.trans (rcut Nd.encs_eq _ _ _)).symm
  obtain ⟨y6, hy6, h⟩ := bind_out h
  refine ⟨_, ⟨_, _, hy6, rfl, rfl⟩, ?_⟩
  obtain ⟨⟨e7_kind, e7_text, e7_cols, e7_kids⟩, he7, h⟩ := bind_out h
  refine And.intro (at_ok Nd.encs_eq he7).1 ?_
  have hset8 := (rset (R := Nd.encs) (f := Nd.enc) Nd.encs_eq he7 (Nd.mk e7_kind e7_text e7_cols y6) 3 4 [.sl 4 (Nd.encs y6)] rfl)
  have hat8 := at_set he7 (Nd.mk e7_kind e7_text e7_cols y6)
  refine And.intro (at_ok Nd.encs_eq he7).2.2 ?_
  show Tri _ _ _ _
  refine tri_le (Le.trans (Le.trans (Le.trans (Le.rename [(1, 0), (0, 1)] [(1, .s (.pt [.int .i64 c1_op_kind, .sl 1 ((List.map (irow .i64)) c1_op_row), .int .i64 c1_op_at, .int .i64 c1_op_n, .sl 4 (Nd.encs c1_op_nodes), .int .i64 c1_op_slot, .str c1_op_old, .str c1_op_text, .sl 4 (Nd.encs c1_items)])), (4, .op 0 0)] [(0, .box 24 [.s (.int .i64 y4_kind), .s (.str y4_text), .s (.int .i64 y4_cols), .orow 1]), (1, .row 24 4 (Nd.encs (y4_kids.set c1_op_slot.toNat (Nd.mk e7_kind e7_text e7_cols y6))))] 2 ⟨rfl, rfl, trivial⟩ ⟨rfl, ⟨_, rfl, rfl⟩, rfl, ⟨_, rfl, congrArg (Ob.row 24 4) hset8⟩, trivial⟩ rfl rfl rfl rfl rfl) (Le.giveRow 1 rfl)) (Le.rename [(0, 0)] [(1, .s (.pt [.int .i64 c1_op_kind, .sl 1 ((List.map (irow .i64)) c1_op_row), .int .i64 c1_op_at, .int .i64 c1_op_n, .sl 4 (Nd.encs c1_op_nodes), .int .i64 c1_op_slot, .str c1_op_old, .str c1_op_text, .sl 4 (Nd.encs c1_items)])), (4, .op 0 0)] [(0, .box 24 [.s (.int .i64 y4_kind), .s (.str y4_text), .s (.int .i64 y4_cols), .s (.sl 4 (Nd.encs (y4_kids.set c1_op_slot.toNat (Nd.mk e7_kind e7_text e7_cols y6))))])] 1 ⟨rfl, rfl, trivial⟩ ⟨rfl, ⟨_, rfl, rfl⟩, trivial⟩ rfl rfl rfl rfl rfl)) (Le.giveBox 0 [.int .i64 y4_kind, .str y4_text, .int .i64 y4_cols, .sl 4 (Nd.encs (y4_kids.set c1_op_slot.toNat (Nd.mk e7_kind e7_text e7_cols y6)))] rfl rfl)) ?_
  refine tri_seq ?_
  refine tri_region (by exact tokW) (by exact gok) [] [37] rfl ?_
  intro r9 hr9
  obtain rfl : Nd.encs [Nd.mk y4_kind y4_text y4_cols (y4_kids.set c1_op_slot.toNat (Nd.mk e7_kind e7_text e7_cols y6))] = r9 := (hr9.trans (by simp [List.map_append, List.map_take, List.map_drop, irow, brow, b8of_row, List.map_cons, List.map_nil, b8of_wrap, Nd.encs_eq, Nd.enc, enc_s_api_Node, enc_edit_change])).symm
  obtain ⟨y10, hy10, h⟩ := bind_out h
  refine ⟨_, ⟨_, _, _, _, _, hy10, rfl, rfl⟩, ?_⟩
  show Tri _ _ _ _
  refine tri_ret ?_
  obtain ⟨hj1, hk1⟩ := Prod.mk.inj (Option.some.inj h)
  subst hj1
  subst hk1
  unfold Gives
  exact ⟨_, Le.refl _ _, rfl, rfl⟩
def R_edit_change_unwrap_kids (n : Nat) (xs : List AV) (r : Ret) : Prop := ∃ (a0 : ((Int × List Int × Int × Int × List Nd × Int × List UInt8 × List UInt8) × List Nd)) (y0 : List Nd) (y1 : Int), m_edit_change_unwrap_kids n a0 = some (y0, y1) ∧ xs = [.agg ((enc_edit_change a0).map .s)] ∧ r = .val (.tup [.s (.sl 4 (Nd.encs y0)), .s (.int .i64 y1)])
def S_edit_change_unwrap_kids : PSpec := pspec fun xs r => ∃ n, R_edit_change_unwrap_kids n xs r
set_option maxHeartbeats 2000000 in
set_option maxRecDepth 100000 in
theorem ok_edit_change_unwrap_kids : PSound Try.prog 63 S_edit_change_unwrap_kids := by
  have gok : ∀ f s, look? f [(49, S_deep_Node_own), (68, S_node_Slots), (83, S_node_Equal), (81, S_edit_change_join)] = some s → PSound Try.prog f s := look_all (by
    simp only [List.forall_mem_cons]
    exact ⟨ok_deep_Node_own, ok_node_Slots, ok_node_Equal, ok_edit_change_join, by simp⟩)
  refine psound tokW Try.call63 Try.func63 rfl (fun xs r h => by obtain ⟨n, _, _, _, _, rfl, _⟩ := h; show 1 ≤ 54; decide) 54 rfl ?_
  rintro xs r w0 G0 ⟨n, ⟨⟨c1_op_kind, c1_op_row, c1_op_at, c1_op_n, c1_op_nodes, c1_op_slot, c1_op_old, c1_op_text⟩, c1_items⟩, y0, y1, h, rfl, rfl⟩ _
  rw [m_edit_change_unwrap_kids] at h
  refine tri_seq ?_
  refine tri_region (by exact tokW) (by exact gok) [] [] rfl ?_
  show Tri _ _ _ _
  refine tri_seq ?_
  refine tri_region (by exact tokW) (by exact gok) [4] [11] rfl ?_
  obtain ⟨⟨e2_kind, e2_text, e2_cols, e2_kids⟩, he2, h⟩ := bind_out h
  refine And.intro (at_ok Nd.encs_eq he2).1 ?_
  intro r3 hr3
  obtain rfl : [.int .i64 e2_kind, .str e2_text, .int .i64 e2_cols, .sl 4 (Nd.encs e2_kids)] = r3 := (hr3.trans (at_ok Nd.encs_eq he2).2.1).symm
  obtain ⟨⟨y4_kind, y4_text, y4_cols, y4_kids⟩, hy4, h⟩ := bind_out h
  refine ⟨_, _, ⟨_, _, hy4, rfl, rfl, rfl, rfl⟩, ?_⟩
  show Tri _ _ _ _
  refine tri_seq ?_
  refine tri_seq ?_
  refine tri_drawn (by exact tokW) (by exact gok) (by exact mixed) [] [] [3, 4] rfl (by decide +kernel) ?_
  obtain ⟨y5, hy5, h⟩ := bind_out h
  refine ⟨_, ⟨_, _, hy5, rfl, rfl⟩, ?_⟩
  show Tri _ _ _ _
  refine tri_cond rfl (fun hb => ?_) (fun hb => ?_)
  · replace h := bif_t hb h
    refine tri_seq ?_
    refine tri_region (by exact tokW) (by exact gok) [] [] rfl ?_
    show Tri _ _ _ _
    refine tri_ret ?_
    obtain ⟨hj1, hk1⟩ := Prod.mk.inj (Option.some.inj h)
    subst hj1
    subst hk1
    unfold Gives
    exact ⟨_, Le.refl _ _, rfl, rfl⟩
  · replace h := bif_f hb h
    refine tri_skip ?_
    show Tri _ _ _ _
    refine tri_seq ?_
    refine tri_region (by exact tokW) (by exact gok) [] [] rfl ?_
    obtain ⟨⟨e6_kind, e6_text, e6_cols, e6_kids⟩, he6, h⟩ := bind_out h
    refine And.intro (at_ok Nd.encs_eq he6).1 ?_
    refine And.intro (at_ok Nd.encs_eq he6).2.2 ?_
    refine ⟨_, (at_ok Nd.encs_eq he6).2.1, ?_⟩
    show Tri _ _ _ _
    refine tri_seq ?_
    refine tri_region (by exact tokW) (by exact gok) [] [] rfl ?_
    obtain ⟨⟨e7_kind, e7_text, e7_cols, e7_kids⟩, he7, h⟩ := bind_out h
    refine And.intro (at_ok Nd.encs_eq he7).1 ?_
    have hset8 := (rset (R := Nd.encs) (f := Nd.enc) Nd.encs_eq he7 (Nd.mk e7_kind e7_text e7_cols []) 3 4 [.sl 4 (Nd.encs [])] rfl)
    have hat8 := at_set he7 (Nd.mk e7_kind e7_text e7_cols [])
    refine And.intro (at_ok Nd.encs_eq he7).2.2 ?_
    show Tri _ _ _ _
    refine tri_le (Le.rename [(1, 0), (0, 1)] [(1, .s (.pt [.int .i64 c1_op_kind, .sl 1 ((List.map (irow .i64)) c1_op_row), .int .i64 c1_op_at, .int .i64 c1_op_n, .sl 4 (Nd.encs c1_op_nodes), .int .i64 c1_op_slot, .str c1_op_old, .str c1_op_text, .sl 4 (Nd.encs c1_items)])), (4, .op 0 0), (5, .s (.sl 4 (Nd.encs e6_kids)))] [(0, .box 24 [.s (.int .i64 y4_kind), .s (.str y4_text), .s (.int .i64 y4_cols), .orow 1]), (1, .row 24 4 (Nd.encs (y4_kids.set c1_op_slot.toNat (Nd.mk e7_kind e7_text e7_cols []))))] 2 ⟨rfl, rfl, rfl, trivial⟩ ⟨rfl, ⟨_, rfl, rfl⟩, rfl, ⟨_, rfl, congrArg (Ob.row 24 4) hset8⟩, trivial⟩ rfl rfl rfl rfl rfl) ?_
    refine tri_seq ?_
    refine tri_seq ?_
    obtain ⟨x9, hj, h⟩ := bind_out h
    refine tri_post ⟨ofL [(1, .s (.pt [.int .i64 c1_op_kind, .sl 1 ((List.map (irow .i64)) c1_op_row), .int .i64 c1_op_at, .int .i64 c1_op_n, .sl 4 (Nd.encs c1_op_nodes), .int .i64 c1_op_slot, .str c1_op_old, .str c1_op_text, .sl 4 (Nd.encs c1_items)])), (5, .s (.sl 4 (Nd.encs e6_kids))), (50, .s (.bool x9))], fun _ => none, 0⟩ ?_ (fun σ' hle => ?_)
    · replace h := hj
      refine tri_drawn (by exact tokW) (by exact gok) (by exact mixed) [] [36, 41, 46] [7, 13] rfl (by decide +kernel) ?_
      intro n10 hn10
      obtain rfl : (e6_kids.length : Int) = n10 := (hn10.trans (congrArg (fun m : Nat => (m : Int)) (rlen Nd.encs_eq e6_kids))).symm
      intro b hb
      cases b with
      | true =>
        replace h := bif_t hb.symm h
        cases h
        exact (Le.rename [] _ [] 0 ⟨rfl, rfl, rfl, trivial⟩ trivial rfl rfl rfl rfl rfl)
      | false =>
        replace h := bif_f hb.symm h
        obtain ⟨⟨e11_kind, e11_text, e11_cols, e11_kids⟩, he11, h⟩ := bind_out h
        refine And.intro (at_ok Nd.encs_eq he11).1 ?_
        intro r12 hr12
        obtain rfl : [.int .i64 e11_kind, .str e11_text, .int .i64 e11_cols, .sl 4 (Nd.encs e11_kids)] = r12 := (hr12.trans (at_ok Nd.encs_eq he11).2.1).symm
        obtain ⟨y13, hy13, h⟩ := bind_out h
        refine ⟨_, ⟨_, _, _, _, hy13, rfl, rfl⟩, ?_⟩
        cases h
        exact (Le.rename [] _ [] 0 ⟨rfl, rfl, rfl, trivial⟩ trivial rfl rfl rfl rfl rfl)
    · show Tri _ _ _ _
      refine tri_le hle ?_
      refine tri_cond rfl (fun hb => ?_) (fun hb => ?_)
      · replace h := bif_t hb h
        refine tri_seq ?_
        refine tri_region (by exact tokW) (by exact gok) [] [] rfl ?_
        show Tri _ _ _ _
        refine tri_ret ?_
        obtain ⟨hj1, hk1⟩ := Prod.mk.inj (Option.some.inj h)
        subst hj1
        subst hk1
        unfold Gives
        exact ⟨_, Le.refl _ _, rfl, rfl⟩
      · replace h := bif_f hb h
        refine tri_skip ?_
        show Tri _ _ _ _
        refine tri_seq ?_
        refine tri_region (by exact tokW) (by exact gok) [] [] rfl ?_
        obtain ⟨y14, hy14, h⟩ := bind_out h
        refine ⟨_, ⟨_, _, _, _, _, hy14, rfl, rfl⟩, ?_⟩
        show Tri _ _ _ _
        refine tri_ret ?_
        obtain ⟨hj1, hk1⟩ := Prod.mk.inj (Option.some.inj h)
        subst hj1
        subst hk1
        unfold Gives
        exact ⟨_, Le.refl _ _, rfl, rfl⟩
def R_edit_change_unwrap_none (xs : List AV) (r : Ret) : Prop := ∃ (a0 : ((Int × List Int × Int × Int × List Nd × Int × List UInt8 × List UInt8) × List Nd)) (y0 : List Nd) (y1 : Int), m_edit_change_unwrap_none a0 = some (y0, y1) ∧ xs = [.agg ((enc_edit_change a0).map .s)] ∧ r = .val (.tup [.s (.sl 4 (Nd.encs y0)), .s (.int .i64 y1)])
def S_edit_change_unwrap_none : PSpec := pspec fun xs r => R_edit_change_unwrap_none xs r
set_option maxHeartbeats 2000000 in
set_option maxRecDepth 100000 in
theorem ok_edit_change_unwrap_none : PSound Try.prog 63 S_edit_change_unwrap_none := by
  have gok : ∀ f s, look? f [(49, S_deep_Node), (68, S_node_Slots)] = some s → PSound Try.prog f s := look_all (by
    simp only [List.forall_mem_cons]
    exact ⟨ok_deep_Node, ok_node_Slots, by simp⟩)
  refine psound tokW Try.call63 Try.func63 rfl (fun xs r h => by obtain ⟨_, _, _, _, rfl, _⟩ := h; show 1 ≤ 54; decide) 54 rfl ?_
  rintro xs r w0 G0 ⟨⟨⟨c1_op_kind, c1_op_row, c1_op_at, c1_op_n, c1_op_nodes, c1_op_slot, c1_op_old, c1_op_text⟩, c1_items⟩, y0, y1, h, rfl, rfl⟩ _
  rw [m_edit_change_unwrap_none] at h
  refine tri_seq ?_
  refine tri_region (by exact tokW) (by exact gok) [] [] rfl ?_
  show Tri _ _ _ _
  refine tri_seq ?_
  refine tri_region (by exact tokW) (by exact gok) [4] [11] rfl ?_
  obtain ⟨⟨e2_kind, e2_text, e2_cols, e2_kids⟩, he2, h⟩ := bind_out h
  refine And.intro (at_ok Nd.encs_eq he2).1 ?_
  intro r3 hr3
  obtain rfl : [.int .i64 e2_kind, .str e2_text, .int .i64 e2_cols, .sl 4 (Nd.encs e2_kids)] = r3 := (hr3.trans (at_ok Nd.encs_eq he2).2.1).symm
  obtain ⟨⟨y4_kind, y4_text, y4_cols, y4_kids⟩, hy4, h⟩ := bind_out h
  refine ⟨_, ⟨_, _, hy4, rfl, rfl⟩, ?_⟩
  show Tri _ _ _ _
  refine tri_seq ?_
  refine tri_seq ?_
  refine tri_drawn (by exact tokW) (by exact gok) (by exact mixed) [] [] [3] rfl (by decide +kernel) ?_
  obtain ⟨y5, hy5, h⟩ := bind_out h
  refine ⟨_, ⟨_, _, hy5, rfl, rfl⟩, ?_⟩
  show Tri _ _ _ _
  refine tri_cond rfl (fun hb => ?_) (fun hb => ?_)
  · replace h := bif_t hb h
    refine tri_seq ?_
    refine tri_region (by exact tokW) (by exact gok) [] [] rfl ?_
    show Tri _ _ _ _
    refine tri_ret ?_
    obtain ⟨hj1, hk1⟩ := Prod.mk.inj (Option.some.inj h)
    subst hj1
    subst hk1
    unfold Gives
    exact ⟨_, Le.refl _ _, rfl, rfl⟩
  · replace h := bif_f hb h
    refine tri_skip ?_
    show Tri _ _ _ _
    refine tri_seq ?_
    cases h
def R_edit_change_insert (n : Nat) (xs : List AV) (r : Ret) : Prop := ∃ (a0 : ((Int × List Int × Int × Int × List Nd × Int × List UInt8 × List UInt8) × List Nd)) (y0 : List Nd) (y1 : Int), m_edit_change_insert n a0 = some (y0, y1) ∧ xs = [.agg ((enc_edit_change a0).map .s)] ∧ r = .val (.tup [.s (.sl 4 (Nd.encs y0)), .s (.int .i64 y1)])
def S_edit_change_insert : PSpec := pspec fun xs r => ∃ n, R_edit_change_insert n xs r
set_option maxHeartbeats 2000000 in
set_option maxRecDepth 100000 in
theorem ok_edit_change_insert : PSound Try.prog 60 S_edit_change_insert := by
  have gok : ∀ f s, look? f [(81, S_edit_change_join)] = some s → PSound Try.prog f s := look_all (by
    simp only [List.forall_mem_cons]
    exact ⟨ok_edit_change_join, by simp⟩)
  refine psound tokW Try.call60 Try.func60 rfl (fun xs r h => by obtain ⟨n, _, _, _, _, rfl, _⟩ := h; show 1 ≤ 9; decide) 9 rfl ?_
  rintro xs r w0 G0 ⟨n, ⟨⟨c1_op_kind, c1_op_row, c1_op_at, c1_op_n, c1_op_nodes, c1_op_slot, c1_op_old, c1_op_text⟩, c1_items⟩, y0, y1, h, rfl, rfl⟩ _
  rw [m_edit_change_insert] at h
  refine tri_seq ?_
  refine tri_region (by exact tokW) (by exact gok) [] [] rfl ?_
  show Tri _ _ _ _
  refine tri_seq ?_
  refine tri_region (by exact tokW) (by exact gok) [] [] rfl ?_
  obtain ⟨y2, hy2, h⟩ := bind_out h
  refine ⟨_, ⟨_, _, _, _, _, hy2, rfl, rfl⟩, ?_⟩
  show Tri _ _ _ _
  refine tri_ret ?_
  obtain ⟨hj1, hk1⟩ := Prod.mk.inj (Option.some.inj h)
  subst hj1
  subst hk1
  unfold Gives
  exact ⟨_, Le.refl _ _, rfl, rfl⟩
def R_edit_change_remove (n : Nat) (xs : List AV) (r : Ret) : Prop := ∃ (a0 : ((Int × List Int × Int × Int × List Nd × Int × List UInt8 × List UInt8) × List Nd)) (y0 : List Nd) (y1 : Int), m_edit_change_remove n a0 = some (y0, y1) ∧ xs = [.agg ((enc_edit_change a0).map .s)] ∧ r = .val (.tup [.s (.sl 4 (Nd.encs y0)), .s (.int .i64 y1)])
def S_edit_change_remove : PSpec := pspec fun xs r => ∃ n, R_edit_change_remove n xs r
set_option maxHeartbeats 2000000 in
set_option maxRecDepth 100000 in
theorem ok_edit_change_remove : PSound Try.prog 61 S_edit_change_remove := by
  have gok : ∀ f s, look? f [(82, S_slices_EqualFunc_sNode), (81, S_edit_change_join)] = some s → PSound Try.prog f s := look_all (by
    simp only [List.forall_mem_cons]
    exact ⟨ok_slices_EqualFunc_sNode, ok_edit_change_join, by simp⟩)
  refine psound tokW Try.call61 Try.func61 rfl (fun xs r h => by obtain ⟨n, _, _, _, _, rfl, _⟩ := h; show 1 ≤ 28; decide) 28 rfl ?_
  rintro xs r w0 G0 ⟨n, ⟨⟨c1_op_kind, c1_op_row, c1_op_at, c1_op_n, c1_op_nodes, c1_op_slot, c1_op_old, c1_op_text⟩, c1_items⟩, y0, y1, h, rfl, rfl⟩ _
  rw [m_edit_change_remove] at h
  refine tri_seq ?_
  refine tri_region (by exact tokW) (by exact gok) [] [] rfl ?_
  show Tri _ _ _ _
  refine tri_seq ?_
  refine tri_region (by exact tokW) (by exact gok) [] [8] rfl ?_
  intro n2 hn2
  obtain rfl : (c1_op_nodes.length : Int) = n2 := (hn2.trans (congrArg (fun m : Nat => (m : Int)) (rlen Nd.encs_eq c1_op_nodes))).symm
  show Tri _ _ _ _
  refine tri_seq ?_
  refine tri_seq ?_
  refine tri_drawn (by exact tokW) (by exact gok) (by exact mixed) [] [19] [] rfl (by decide +kernel) ?_
  obtain ⟨hq, h⟩ := req_out h
  refine And.intro ⟨hq.1, hq.2.1, Int.le_trans hq.2.2 (Int.ofNat_le.2 (Nat.le_of_eq (rlen Nd.encs_eq _).symm))⟩ ?_
  intro r3 hr3
  obtain rfl : Nd.encs ((c1_items.take (IntKind.i64.wrap (c1_op_at + (c1_op_nodes.length : Int))).toNat).drop c1_op_at.toNat) = r3 := (hr3.trans (rcut Nd.encs_eq _ _ _)).symm
  obtain ⟨y4, hy4, h⟩ := bind_out h
  refine ⟨_, ⟨_, _, _, _, hy4, rfl, rfl⟩, ?_⟩
  show Tri _ _ _ _
  refine tri_cond rfl (fun hb => ?_) (fun hb => ?_)
  · replace h := bif_t hb h
    refine tri_seq ?_
    refine tri_region (by exact tokW) (by exact gok) [] [] rfl ?_
    show Tri _ _ _ _
    refine tri_ret ?_
    obtain ⟨hj1, hk1⟩ := Prod.mk.inj (Option.some.inj h)
    subst hj1
    subst hk1
    unfold Gives
    exact ⟨_, Le.refl _ _, rfl, rfl⟩
  · replace h := bif_f hb h
    refine tri_skip ?_
    show Tri _ _ _ _
    refine tri_seq ?_
    refine tri_region (by exact tokW) (by exact gok) [] [] rfl ?_
    obtain ⟨y5, hy5, h⟩ := bind_out h
    refine ⟨_, ⟨_, _, _, _, _, hy5, rfl, rfl⟩, ?_⟩
    show Tri _ _ _ _
    refine tri_ret ?_
    obtain ⟨hj1, hk1⟩ := Prod.mk.inj (Option.some.inj h)
    subst hj1
    subst hk1
    unfold Gives
    exact ⟨_, Le.refl _ _, rfl, rfl⟩
def R_edit_change_set (n : Nat) (xs : List AV) (r : Ret) : Prop := ∃ (a0 : ((Int × List Int × Int × Int × List Nd × Int × List UInt8 × List UInt8) × List Nd)) (y0 : List Nd) (y1 : Int), m_edit_change_set n a0 = some (y0, y1) ∧ xs = [.agg ((enc_edit_change a0).map .s)] ∧ r = .val (.tup [.s (.sl 4 (Nd.encs y0)), .s (.int .i64 y1)])
def S_edit_change_set : PSpec := pspec fun xs r => ∃ n, R_edit_change_set n xs r
set_option maxHeartbeats 2000000 in
set_option maxRecDepth 100000 in
theorem ok_edit_change_set : PSound Try.prog 64 S_edit_change_set := by
  have gok : ∀ f s, look? f [(81, S_edit_change_join)] = some s → PSound Try.prog f s := look_all (by
    simp only [List.forall_mem_cons]
    exact ⟨ok_edit_change_join, by simp⟩)
  refine psound tokW Try.call64 Try.func64 rfl (fun xs r h => by obtain ⟨n, _, _, _, _, rfl, _⟩ := h; show 1 ≤ 34; decide) 34 rfl ?_
  rintro xs r w0 G0 ⟨n, ⟨⟨c1_op_kind, c1_op_row, c1_op_at, c1_op_n, c1_op_nodes, c1_op_slot, c1_op_old, c1_op_text⟩, c1_items⟩, y0, y1, h, rfl, rfl⟩ _
  rw [m_edit_change_set] at h
  refine tri_seq ?_
  refine tri_region (by exact tokW) (by exact gok) [] [] rfl ?_
  show Tri _ _ _ _
  refine tri_seq ?_
  refine tri_region (by exact tokW) (by exact gok) [4] [10] rfl ?_
  obtain ⟨⟨e2_kind, e2_text, e2_cols, e2_kids⟩, he2, h⟩ := bind_out h
  refine And.intro (at_ok Nd.encs_eq he2).1 ?_
  intro r3 hr3
  obtain rfl : [.int .i64 e2_kind, .str e2_text, .int .i64 e2_cols, .sl 4 (Nd.encs e2_kids)] = r3 := (hr3.trans (at_ok Nd.encs_eq he2).2.1).symm
  show Tri _ _ _ _
  refine tri_seq ?_
  refine tri_seq ?_
  refine tri_region (by exact tokW) (by exact gok) [] [] rfl ?_
  show Tri _ _ _ _
  obtain ⟨fl, hj, ho1⟩ := bind_out h
  refine tri_fl (fl := fl) (fun z => match z with | _ => ⟨ofL [(1, .s (.pt [.int .i64 c1_op_kind, .sl 1 ((List.map (irow .i64)) c1_op_row), .int .i64 c1_op_at, .int .i64 c1_op_n, .sl 4 (Nd.encs c1_op_nodes), .int .i64 c1_op_slot, .str c1_op_old, .str c1_op_text, .sl 4 (Nd.encs c1_items)])), (4, .op 0 0)], ofH [(0, .box 24 [.s (.int .i64 e2_kind), .s (.str e2_text), .s (.int .i64 e2_cols), .s (.sl 4 (Nd.encs e2_kids))])], 1⟩) ?_ (fun z σ' hz hle => ?_)
  · replace h := hj
    refine tri_block ?_
    refine tri_seq ?_
    refine tri_seq ?_
    refine tri_region (by exact tokW) (by exact gok) [] [] rfl ?_
    show Tri _ _ _ _
    obtain ⟨x4, hj, h⟩ := bind_out h
    refine tri_post ⟨ofL [(1, .s (.pt [.int .i64 c1_op_kind, .sl 1 ((List.map (irow .i64)) c1_op_row), .int .i64 c1_op_at, .int .i64 c1_op_n, .sl 4 (Nd.encs c1_op_nodes), .int .i64 c1_op_slot, .str c1_op_old, .str c1_op_text, .sl 4 (Nd.encs c1_items)])), (4, .op 0 0), (14, .s (.bool x4))], ofH [(0, .box 24 [.s (.int .i64 e2_kind), .s (.str e2_text), .s (.int .i64 e2_cols), .s (.sl 4 (Nd.encs e2_kids))])], 1⟩ ?_ (fun σ' hle => ?_)
    · replace h := hj
      refine tri_cond rfl (fun hb => ?_) (fun hb => ?_)
      · replace h := bif_t hb h
        refine tri_skip ?_
        cases h
        exact (Le.rename [(0, 0)] _ _ _ ⟨rfl, rfl, rfl, trivial⟩ ⟨rfl, ⟨_, rfl, rfl⟩, trivial⟩ rfl rfl rfl rfl rfl)
      · replace h := bif_f hb h
        refine tri_seq ?_
        refine tri_region (by exact tokW) (by exact gok) [] [] rfl ?_
        show Tri _ _ _ _
        refine tri_cond rfl (fun hb => ?_) (fun hb => ?_)
        · replace h := bif_t hb h
          refine tri_skip ?_
          cases h
          exact (Le.rename [(0, 0)] _ _ _ ⟨rfl, rfl, rfl, trivial⟩ ⟨rfl, ⟨_, rfl, rfl⟩, trivial⟩ rfl rfl rfl rfl rfl)
        · replace h := bif_f hb h
          refine tri_seq ?_
          refine tri_region (by exact tokW) (by exact gok) [] [] rfl ?_
          show Tri _ _ _ _
          refine tri_cond rfl (fun hb => ?_) (fun hb => ?_)
          · replace h := bif_t hb h
            refine tri_skip ?_
            cases h
            exact (Le.rename [(0, 0)] _ _ _ ⟨rfl, rfl, rfl, trivial⟩ ⟨rfl, ⟨_, rfl, rfl⟩, trivial⟩ rfl rfl rfl rfl rfl)
          · replace h := bif_f hb h
            refine tri_seq ?_
            refine tri_region (by exact tokW) (by exact gok) [] [] rfl ?_
            show Tri _ _ _ _
            refine tri_cond rfl (fun hb => ?_) (fun hb => ?_)
            · replace h := bif_t hb h
              refine tri_skip ?_
              cases h
              exact (Le.rename [(0, 0)] _ _ _ ⟨rfl, rfl, rfl, trivial⟩ ⟨rfl, ⟨_, rfl, rfl⟩, trivial⟩ rfl rfl rfl rfl rfl)
            · replace h := bif_f hb h
              refine tri_region (by exact tokW) (by exact gok) [] [] rfl ?_
              cases h
              exact (Le.rename [(0, 0)] _ _ _ ⟨rfl, rfl, rfl, trivial⟩ ⟨rfl, ⟨_, rfl, rfl⟩, trivial⟩ rfl rfl rfl rfl rfl)
    · show Tri _ _ _ _
      refine tri_le hle ?_
      refine tri_cond rfl (fun hb => ?_) (fun hb => ?_)
      · replace h := bif_t hb h
        refine tri_skip ?_
        cases h
        exact ⟨_, rfl, (Le.rename [(0, 0)] _ _ _ ⟨rfl, rfl, trivial⟩ ⟨rfl, ⟨_, rfl, rfl⟩, trivial⟩ rfl rfl rfl rfl rfl)⟩
      · replace h := bif_f hb h
        refine tri_seq ?_
        refine tri_region (by exact tokW) (by exact gok) [] [] rfl ?_
        show Tri _ _ _ _
        refine tri_ret ?_
        cases h
        replace h : some _ = some _ := ho1
        obtain ⟨hj1, hk1⟩ := Prod.mk.inj (Option.some.inj h)
        subst hj1
        subst hk1
        unfold Gives
        exact ⟨_, Le.refl _ _, rfl, rfl⟩
  · subst hz
    obtain _ := z
    replace h := ho1
    show Tri _ _ _ _
    refine tri_le hle ?_
    refine tri_seq ?_
    refine tri_seq ?_
    refine tri_region (by exact tokW) (by exact gok) [] [] rfl ?_
    show Tri _ _ _ _
    refine tri_cond rfl (fun hb => ?_) (fun hb => ?_)
    · replace h := bif_t hb h
      refine tri_seq ?_
      refine tri_region (by exact tokW) (by exact gok) [] [] rfl ?_
      show Tri _ _ _ _
      refine tri_ret ?_
      obtain ⟨hj1, hk1⟩ := Prod.mk.inj (Option.some.inj h)
      subst hj1
      subst hk1
      unfold Gives
      exact ⟨_, Le.refl _ _, rfl, rfl⟩
    · replace h := bif_f hb h
      refine tri_skip ?_
      show Tri _ _ _ _
      refine tri_seq ?_
      refine tri_region (by exact tokW) (by exact gok) [] [] rfl ?_
      show Tri _ _ _ _
      refine tri_seq ?_
      refine tri_region (by exact tokW) (by exact gok) [] [32] rfl ?_
      intro r5 hr5
      obtain rfl : Nd.encs [Nd.mk e2_kind c1_op_text e2_cols e2_kids] = r5 := (hr5.trans (by simp [List.map_append, List.map_take, List.map_drop, irow, brow, b8of_row, List.map_cons, List.map_nil, b8of_wrap, Nd.encs_eq, Nd.enc, enc_s_api_Node, enc_edit_change])).symm
      obtain ⟨y6, hy6, h⟩ := bind_out h
      refine ⟨_, ⟨_, _, _, _, _, hy6, rfl, rfl⟩, ?_⟩
      show Tri _ _ _ _
      refine tri_ret ?_
      obtain ⟨hj1, hk1⟩ := Prod.mk.inj (Option.some.inj h)
      subst hj1
      subst hk1
      unfold Gives
      exact ⟨_, Le.refl _ _, rfl, rfl⟩
def R_edit_change_enough (xs : List AV) (r : Ret) : Prop := ∃ (a0 : ((Int × List Int × Int × Int × List Nd × Int × List UInt8 × List UInt8) × List Nd)) (y0 : Int), m_edit_change_enough a0 = some y0 ∧ xs = [.agg ((enc_edit_change a0).map .s)] ∧ r = .val (.s (.int .i64 y0))
def S_edit_change_enough : PSpec := pspec fun xs r => R_edit_change_enough xs r
set_option maxHeartbeats 2000000 in
set_option maxRecDepth 100000 in
theorem ok_edit_change_enough : PSound Try.prog 59 S_edit_change_enough := by
  have gok : ∀ (f : Nat) (s : PSpec), (fun _ => none : Nat → Option PSpec) f = some s → PSound Try.prog f s := fun _ _ h => by cases h
  refine psound tokW Try.call59 Try.func59 rfl (fun xs r h => by obtain ⟨_, _, _, rfl, _⟩ := h; show 1 ≤ 44; decide) 44 rfl ?_
  rintro xs r w0 G0 ⟨⟨⟨c1_op_kind, c1_op_row, c1_op_at, c1_op_n, c1_op_nodes, c1_op_slot, c1_op_old, c1_op_text⟩, c1_items⟩, y0, h, rfl, rfl⟩ _
  rw [m_edit_change_enough] at h
  refine tri_seq ?_
  refine tri_region (by exact tokW) (by exact gok) [] [] rfl ?_
  show Tri _ _ _ _
  refine tri_seq ?_
  refine tri_region (by exact tokW) (by exact gok) [] [] rfl ?_
  show Tri _ _ _ _
  refine tri_seq ?_
  refine tri_seq ?_
  refine tri_region (by exact tokW) (by exact gok) [] [] rfl ?_
  show Tri _ _ _ _
  obtain ⟨need2, hj, h⟩ := bind_out h
  refine tri_post ⟨ofL [(1, .s (.pt [.int .i64 c1_op_kind, .sl 1 ((List.map (irow .i64)) c1_op_row), .int .i64 c1_op_at, .int .i64 c1_op_n, .sl 4 (Nd.encs c1_op_nodes), .int .i64 c1_op_slot, .str c1_op_old, .str c1_op_text, .sl 4 (Nd.encs c1_items)])), (3, .s (.int .i64 need2))], fun _ => none, 0⟩ ?_ (fun σ' hle => ?_)
  · replace h := hj
    refine tri_block ?_
    refine tri_seq ?_
    refine tri_region (by exact tokW) (by exact gok) [] [] rfl ?_
    show Tri _ _ _ _
    refine tri_cond rfl (fun hb => ?_) (fun hb => ?_)
    · replace h := bif_t hb h
      refine tri_region (by exact tokW) (by exact gok) [] [] rfl ?_
      cases h
      exact (Le.forget _ ⟨rfl, rfl, trivial⟩)
    · replace h := bif_f hb h
      refine tri_seq ?_
      refine tri_region (by exact tokW) (by exact gok) [] [] rfl ?_
      show Tri _ _ _ _
      refine tri_cond rfl (fun hb => ?_) (fun hb => ?_)
      · replace h := bif_t hb h
        refine tri_region (by exact tokW) (by exact gok) [] [14] rfl ?_
        intro n3 hn3
        obtain rfl : (c1_op_nodes.length : Int) = n3 := (hn3.trans (congrArg (fun m : Nat => (m : Int)) (rlen Nd.encs_eq c1_op_nodes))).symm
        cases h
        exact (Le.forget _ ⟨rfl, rfl, trivial⟩)
      · replace h := bif_f hb h
        refine tri_seq ?_
        refine tri_region (by exact tokW) (by exact gok) [] [] rfl ?_
        show Tri _ _ _ _
        refine tri_cond rfl (fun hb => ?_) (fun hb => ?_)
        · replace h := bif_t hb h
          refine tri_region (by exact tokW) (by exact gok) [] [] rfl ?_
          cases h
          exact (Le.forget _ ⟨rfl, rfl, trivial⟩)
        · replace h := bif_f hb h
          refine tri_skip ?_
          cases h
          exact (Le.forget _ ⟨rfl, rfl, trivial⟩)
  · show Tri _ _ _ _
    refine tri_le hle ?_
    refine tri_seq ?_
    refine tri_seq ?_
    obtain ⟨x4, hj, h⟩ := bind_out h
    refine tri_post ⟨ofL [(43, .s (.bool x4))], fun _ => none, 0⟩ ?_ (fun σ' hle => ?_)
    · replace h := hj
      refine tri_region (by exact tokW) (by exact gok) [] [24, 30, 33, 37] rfl ?_
      intro b hb
      cases b with
      | true =>
        replace h := bif_t hb.symm h
        intro b hb
        subst hb
        cases h
        exact (Le.forget _ ⟨rfl, trivial⟩)
      | false =>
        replace h := bif_f hb.symm h
        intro n5 hn5
        obtain rfl : (c1_items.length : Int) = n5 := (hn5.trans (congrArg (fun m : Nat => (m : Int)) (rlen Nd.encs_eq c1_items))).symm
        intro b hb
        cases b with
        | true =>
          replace h := bif_t hb.symm h
          cases h
          exact (Le.forget _ ⟨rfl, trivial⟩)
        | false =>
          replace h := bif_f hb.symm h
          intro n6 hn6
          obtain rfl : (c1_items.length : Int) = n6 := (hn6.trans (congrArg (fun m : Nat => (m : Int)) (rlen Nd.encs_eq c1_items))).symm
          cases h
          exact (Le.forget _ ⟨rfl, trivial⟩)
    · show Tri _ _ _ _
      refine tri_le hle ?_
      refine tri_cond rfl (fun hb => ?_) (fun hb => ?_)
      · replace h := bif_t hb h
        refine tri_seq ?_
        refine tri_region (by exact tokW) (by exact gok) [] [] rfl ?_
        show Tri _ _ _ _
        refine tri_ret ?_
        have hy := Option.some.inj h
        subst hy
        unfold Gives
        exact ⟨_, Le.refl _ _, rfl, rfl⟩
      · replace h := bif_f hb h
        refine tri_skip ?_
        show Tri _ _ _ _
        refine tri_seq ?_
        refine tri_region (by exact tokW) (by exact gok) [] [] rfl ?_
        show Tri _ _ _ _
        refine tri_ret ?_
        have hy := Option.some.inj h
        subst hy
        unfold Gives
        exact ⟨_, Le.refl _ _, rfl, rfl⟩
def R_edit_container (n : Nat) (xs : List AV) (r : Ret) : Prop := ∃ (a0 : List Nd) (a1 : Int) (y0 : Bool), m_edit_container n a0 a1 = some y0 ∧ xs = [.s (.sl 4 (Nd.encs a0)), .s (.int .i64 a1)] ∧ r = .val (.s (.bool y0))
def S_edit_container : PSpec := pspec fun xs r => ∃ n, R_edit_container n xs r
set_option maxHeartbeats 2000000 in
set_option maxRecDepth 100000 in
theorem ok_edit_container : PSound Try.prog 46 S_edit_container := by
  have gok : ∀ f s, look? f [(45, S_node_ValidItems), (68, S_node_Slots)] = some s → PSound Try.prog f s := look_all (by
    simp only [List.forall_mem_cons]
    exact ⟨ok_node_ValidItems, ok_node_Slots, by simp⟩)
  refine psound tokW Try.call46 Try.func46 rfl (fun xs r h => by obtain ⟨n, _, _, _, _, rfl, _⟩ := h; show 2 ≤ 35; decide) 35 rfl ?_
  rintro xs r w0 G0 ⟨n, l1, slot2, y0, h, rfl, rfl⟩ _
  rw [m_edit_container] at h
  refine tri_seq ?_
  refine tri_region (by exact tokW) (by exact gok) [] [] rfl ?_
  show Tri _ _ _ _
  refine tri_seq ?_
  refine tri_seq ?_
  obtain ⟨x3, hj, h⟩ := bind_out h
  refine tri_post ⟨ofL [(0, .s (.sl 4 (Nd.encs l1))), (1, .s (.int .i64 slot2)), (24, .s (.bool x3))], fun _ => none, 0⟩ ?_ (fun σ' hle => ?_)
  · replace h := hj
    refine tri_region (by exact tokW) (by exact gok) [] [6, 8, 13, 17, 20] rfl ?_
    intro n4 hn4
    obtain rfl : (l1.length : Int) = n4 := (hn4.trans (congrArg (fun m : Nat => (m : Int)) (rlen Nd.encs_eq l1))).symm
    intro b hb
    cases b with
    | true =>
      replace h := bif_t hb.symm h
      intro b hb
      subst hb
      intro b hb
      subst hb
      cases h
      exact (Le.forget _ ⟨rfl, rfl, rfl, trivial⟩)
    | false =>
      replace h := bif_f hb.symm h
      obtain ⟨y5, hy5, h⟩ := bind_out h
      refine ⟨_, ⟨_, _, _, hy5, rfl, rfl⟩, ?_⟩
      intro b hb
      cases b with
      | true =>
        replace h := bif_t hb.symm h
        intro b hb
        subst hb
        cases h
        exact (Le.forget _ ⟨rfl, rfl, rfl, trivial⟩)
      | false =>
        replace h := bif_f hb.symm h
        intro b hb
        cases b with
        | true =>
          replace h := bif_t hb.symm h
          cases h
          exact (Le.forget _ ⟨rfl, rfl, rfl, trivial⟩)
        | false =>
          replace h := bif_f hb.symm h
          obtain ⟨⟨e6_kind, e6_text, e6_cols, e6_kids⟩, he6, h⟩ := bind_out h
          refine And.intro (at_ok Nd.encs_eq he6).1 ?_
          intro r7 hr7
          obtain rfl : [.int .i64 e6_kind, .str e6_text, .int .i64 e6_cols, .sl 4 (Nd.encs e6_kids)] = r7 := (hr7.trans (at_ok Nd.encs_eq he6).2.1).symm
          obtain ⟨y8, hy8, h⟩ := bind_out h
          refine ⟨_, ⟨_, _, hy8, rfl, rfl⟩, ?_⟩
          cases h
          exact (Le.forget _ ⟨rfl, rfl, rfl, trivial⟩)
  · show Tri _ _ _ _
    refine tri_le hle ?_
    refine tri_cond rfl (fun hb => ?_) (fun hb => ?_)
    · replace h := bif_t hb h
      refine tri_seq ?_
      refine tri_region (by exact tokW) (by exact gok) [] [] rfl ?_
      show Tri _ _ _ _
      refine tri_ret ?_
      have hy := Option.some.inj h
      subst hy
      unfold Gives
      exact ⟨_, Le.refl _ _, rfl, rfl⟩
    · replace h := bif_f hb h
      refine tri_skip ?_
      show Tri _ _ _ _
      refine tri_seq ?_
      refine tri_region (by exact tokW) (by exact gok) [] [26, 30, 33] rfl ?_
      obtain ⟨⟨e9_kind, e9_text, e9_cols, e9_kids⟩, he9, h⟩ := bind_out h
      refine And.intro (at_ok Nd.encs_eq he9).1 ?_
      intro r10 hr10
      obtain rfl : [.int .i64 e9_kind, .str e9_text, .int .i64 e9_cols, .sl 4 (Nd.encs e9_kids)] = r10 := (hr10.trans (at_ok Nd.encs_eq he9).2.1).symm
      obtain ⟨⟨e11_kind, e11_text, e11_cols, e11_kids⟩, he11, h⟩ := bind_out h
      refine And.intro (at_ok Nd.encs_eq he11).1 ?_
      intro r12 hr12
      obtain rfl : [.int .i64 e11_kind, .str e11_text, .int .i64 e11_cols, .sl 4 (Nd.encs e11_kids)] = r12 := (hr12.trans (at_ok Nd.encs_eq he11).2.1).symm
      intro n13 hn13
      obtain rfl : (e11_kids.length : Int) = n13 := (hn13.trans (congrArg (fun m : Nat => (m : Int)) (rlen Nd.encs_eq e11_kids))).symm
      show Tri _ _ _ _
      refine tri_ret ?_
      have hy := Option.some.inj h
      subst hy
      unfold Gives
      exact ⟨_, Le.refl _ _, rfl, rfl⟩
def enc_api_Op (p : (Int × List Int × Int × Int × List Nd × Int × List UInt8 × List UInt8)) : List S := [.int .i64 p.1, .sl 1 ((List.map (irow .i64)) p.2.1), .int .i64 p.2.2.1, .int .i64 p.2.2.2.1, .sl 4 (Nd.encs p.2.2.2.2.1), .int .i64 p.2.2.2.2.2.1, .str p.2.2.2.2.2.2.1, .str p.2.2.2.2.2.2.2]
def R_edit_Formed (n : Nat) (xs : List AV) (r : Ret) : Prop := ∃ (a0 : (Int × List Int × Int × Int × List Nd × Int × List UInt8 × List UInt8)) (y0 : Bool), m_edit_Formed n a0 = some y0 ∧ xs = [.agg ((enc_api_Op a0).map .s)] ∧ r = .val (.s (.bool y0))
def S_edit_Formed : PSpec := pspec fun xs r => ∃ n, R_edit_Formed n xs r
set_option maxHeartbeats 2000000 in
set_option maxRecDepth 100000 in
theorem ok_edit_Formed : PSound Try.prog 21 S_edit_Formed := by
  have gok : ∀ f s, look? f [(45, S_node_ValidItems), (46, S_edit_container)] = some s → PSound Try.prog f s := look_all (by
    simp only [List.forall_mem_cons]
    exact ⟨ok_node_ValidItems, ok_edit_container, by simp⟩)
  refine psound tokW Try.call21 Try.func21 rfl (fun xs r h => by obtain ⟨n, _, _, _, rfl, _⟩ := h; show 1 ≤ 80; decide) 80 rfl ?_
  rintro xs r w0 G0 ⟨n, ⟨a1_kind, a1_row, a1_at, a1_n, a1_nodes, a1_slot, a1_old, a1_text⟩, y0, h, rfl, rfl⟩ _
  rw [m_edit_Formed] at h
  refine tri_seq ?_
  refine tri_region (by exact tokW) (by exact gok) [] [] rfl ?_
  show Tri _ _ _ _
  refine tri_seq ?_
  obtain ⟨x2, hj, h⟩ := bind_out h
  refine tri_post ⟨ofL [(1, .s (.pt [.int .i64 a1_kind, .sl 1 ((List.map (irow .i64)) a1_row), .int .i64 a1_at, .int .i64 a1_n, .sl 4 (Nd.encs a1_nodes), .int .i64 a1_slot, .str a1_old, .str a1_text])), (3, .s (.bool x2))], fun _ => none, 0⟩ ?_ (fun σ' hle => ?_)
  · replace h := hj
    refine tri_region (by exact tokW) (by exact gok) [] [7] rfl ?_
    intro b hb
    cases b with
    | true =>
      replace h := bif_t hb.symm h
      cases h
      exact (Le.forget _ ⟨rfl, rfl, trivial⟩)
    | false =>
      replace h := bif_f hb.symm h
      cases h
      exact (Le.forget _ ⟨rfl, rfl, trivial⟩)
  · show Tri _ _ _ _
    refine tri_le hle ?_
    refine tri_seq ?_
    refine tri_seq ?_
    refine tri_region (by exact tokW) (by exact gok) [] [] rfl ?_
    show Tri _ _ _ _
    obtain ⟨fl, hj, ho1⟩ := bind_out h
    refine tri_fl (fl := fl) (fun z => match z with | _ => ⟨ofL [], fun _ => none, 0⟩) ?_ (fun z σ' hz hle => ?_)
    · replace h := hj
      refine tri_block ?_
      refine tri_seq ?_
      refine tri_seq ?_
      refine tri_region (by exact tokW) (by exact gok) [] [] rfl ?_
      show Tri _ _ _ _
      obtain ⟨x3, hj, h⟩ := bind_out h
      refine tri_post ⟨ofL [(1, .s (.pt [.int .i64 a1_kind, .sl 1 ((List.map (irow .i64)) a1_row), .int .i64 a1_at, .int .i64 a1_n, .sl 4 (Nd.encs a1_nodes), .int .i64 a1_slot, .str a1_old, .str a1_text])), (3, .s (.bool x2)), (13, .s (.int .i64 a1_kind)), (14, .s (.bool x3))], fun _ => none, 0⟩ ?_ (fun σ' hle => ?_)
      · replace h := hj
        refine tri_cond rfl (fun hb => ?_) (fun hb => ?_)
        · replace h := bif_t hb h
          refine tri_skip ?_
          cases h
          exact (Le.forget _ ⟨rfl, rfl, rfl, rfl, trivial⟩)
        · replace h := bif_f hb h
          refine tri_region (by exact tokW) (by exact gok) [] [] rfl ?_
          cases h
          exact (Le.forget _ ⟨rfl, rfl, rfl, rfl, trivial⟩)
      · show Tri _ _ _ _
        refine tri_le hle ?_
        refine tri_cond rfl (fun hb => ?_) (fun hb => ?_)
        · replace h := bif_t hb h
          refine tri_seq ?_
          obtain ⟨x4, hj, h⟩ := bind_out h
          refine tri_post ⟨ofL [(2, .s (.bool x4))], fun _ => none, 0⟩ ?_ (fun σ' hle => ?_)
          · replace h := hj
            refine tri_region (by exact tokW) (by exact gok) [] [20, 25, 29, 32, 35] rfl ?_
            intro b hb
            cases b with
            | true =>
              replace h := bif_t hb.symm h
              intro b hb
              cases b with
              | true =>
                replace h := bif_t hb.symm h
                intro b hb
                cases b with
                | true =>
                  replace h := bif_t hb.symm h
                  intro n5 hn5
                  obtain rfl : (a1_nodes.length : Int) = n5 := (hn5.trans (congrArg (fun m : Nat => (m : Int)) (rlen Nd.encs_eq a1_nodes))).symm
                  intro b hb
                  cases b with
                  | true =>
                    replace h := bif_t hb.symm h
                    obtain ⟨y6, hy6, h⟩ := bind_out h
                    refine ⟨_, ⟨_, _, _, hy6, rfl, rfl⟩, ?_⟩
                    cases h
                    exact (Le.forget _ ⟨rfl, trivial⟩)
                  | false =>
                    replace h := bif_f hb.symm h
                    cases h
                    exact (Le.forget _ ⟨rfl, trivial⟩)
                | false =>
                  replace h := bif_f hb.symm h
                  intro b hb
                  subst hb
                  cases h
                  exact (Le.forget _ ⟨rfl, trivial⟩)
              | false =>
                replace h := bif_f hb.symm h
                intro b hb
                subst hb
                intro b hb
                subst hb
                cases h
                exact (Le.forget _ ⟨rfl, trivial⟩)
            | false =>
              replace h := bif_f hb.symm h
              intro b hb
              subst hb
              intro b hb
              subst hb
              intro b hb
              subst hb
              cases h
              exact (Le.forget _ ⟨rfl, trivial⟩)
          · show Tri _ _ _ _
            refine tri_le hle ?_
            refine tri_ret ?_
            cases h
            replace h : some _ = some _ := ho1
            have hy := Option.some.inj h
            subst hy
            unfold Gives
            exact ⟨_, Le.refl _ _, rfl, rfl⟩
        · replace h := bif_f hb h
          refine tri_seq ?_
          refine tri_seq ?_
          refine tri_region (by exact tokW) (by exact gok) [] [] rfl ?_
          show Tri _ _ _ _
          obtain ⟨x7, hj, h⟩ := bind_out h
          refine tri_post ⟨ofL [(1, .s (.pt [.int .i64 a1_kind, .sl 1 ((List.map (irow .i64)) a1_row), .int .i64 a1_at, .int .i64 a1_n, .sl 4 (Nd.encs a1_nodes), .int .i64 a1_slot, .str a1_old, .str a1_text])), (3, .s (.bool x2)), (13, .s (.int .i64 a1_kind)), (40, .s (.bool x7))], fun _ => none, 0⟩ ?_ (fun σ' hle => ?_)
          · replace h := hj
            refine tri_cond rfl (fun hb => ?_) (fun hb => ?_)
            · replace h := bif_t hb h
              refine tri_skip ?_
              cases h
              exact (Le.forget _ ⟨rfl, rfl, rfl, rfl, trivial⟩)
            · replace h := bif_f hb h
              refine tri_region (by exact tokW) (by exact gok) [] [] rfl ?_
              cases h
              exact (Le.forget _ ⟨rfl, rfl, rfl, rfl, trivial⟩)
          · show Tri _ _ _ _
            refine tri_le hle ?_
            refine tri_cond rfl (fun hb => ?_) (fun hb => ?_)
            · replace h := bif_t hb h
              refine tri_seq ?_
              obtain ⟨x8, hj, h⟩ := bind_out h
              refine tri_post ⟨ofL [(2, .s (.bool x8))], fun _ => none, 0⟩ ?_ (fun σ' hle => ?_)
              · replace h := hj
                refine tri_region (by exact tokW) (by exact gok) [] [46, 50] rfl ?_
                intro b hb
                cases b with
                | true =>
                  replace h := bif_t hb.symm h
                  intro b hb
                  cases b with
                  | true =>
                    replace h := bif_t hb.symm h
                    obtain ⟨y9, hy9, h⟩ := bind_out h
                    refine ⟨_, ⟨_, _, _, _, hy9, rfl, rfl⟩, ?_⟩
                    cases h
                    exact (Le.forget _ ⟨rfl, trivial⟩)
                  | false =>
                    replace h := bif_f hb.symm h
                    cases h
                    exact (Le.forget _ ⟨rfl, trivial⟩)
                | false =>
                  replace h := bif_f hb.symm h
                  intro b hb
                  subst hb
                  cases h
                  exact (Le.forget _ ⟨rfl, trivial⟩)
              · show Tri _ _ _ _
                refine tri_le hle ?_
                refine tri_ret ?_
                cases h
                replace h : some _ = some _ := ho1
                have hy := Option.some.inj h
                subst hy
                unfold Gives
                exact ⟨_, Le.refl _ _, rfl, rfl⟩
            · replace h := bif_f hb h
              refine tri_seq ?_
              refine tri_region (by exact tokW) (by exact gok) [] [] rfl ?_
              show Tri _ _ _ _
              refine tri_cond rfl (fun hb => ?_) (fun hb => ?_)
              · replace h := bif_t hb h
                refine tri_seq ?_
                obtain ⟨x10, hj, h⟩ := bind_out h
                refine tri_post ⟨ofL [(2, .s (.bool x10))], fun _ => none, 0⟩ ?_ (fun σ' hle => ?_)
                · replace h := hj
                  refine tri_region (by exact tokW) (by exact gok) [] [62, 67, 70, 73] rfl ?_
                  intro b hb
                  cases b with
                  | true =>
                    replace h := bif_t hb.symm h
                    intro b hb
                    cases b with
                    | true =>
                      replace h := bif_t hb.symm h
                      intro n11 hn11
                      obtain rfl : (a1_nodes.length : Int) = n11 := (hn11.trans (congrArg (fun m : Nat => (m : Int)) (rlen Nd.encs_eq a1_nodes))).symm
                      intro b hb
                      cases b with
                      | true =>
                        replace h := bif_t hb.symm h
                        cases h
                        exact (Le.forget _ ⟨rfl, trivial⟩)
                      | false =>
                        replace h := bif_f hb.symm h
                        cases h
                        exact (Le.forget _ ⟨rfl, trivial⟩)
                    | false =>
                      replace h := bif_f hb.symm h
                      intro b hb
                      subst hb
                      cases h
                      exact (Le.forget _ ⟨rfl, trivial⟩)
                  | false =>
                    replace h := bif_f hb.symm h
                    intro b hb
                    subst hb
                    intro b hb
                    subst hb
                    cases h
                    exact (Le.forget _ ⟨rfl, trivial⟩)
                · show Tri _ _ _ _
                  refine tri_le hle ?_
                  refine tri_ret ?_
                  cases h
                  replace h : some _ = some _ := ho1
                  have hy := Option.some.inj h
                  subst hy
                  unfold Gives
                  exact ⟨_, Le.refl _ _, rfl, rfl⟩
              · replace h := bif_f hb h
                refine tri_skip ?_
                cases h
                exact ⟨_, rfl, (Le.forget _ trivial)⟩
    · subst hz
      obtain _ := z
      replace h := ho1
      show Tri _ _ _ _
      refine tri_le hle ?_
      refine tri_seq ?_
      refine tri_region (by exact tokW) (by exact gok) [] [] rfl ?_
      show Tri _ _ _ _
      refine tri_ret ?_
      have hy := Option.some.inj h
      subst hy
      unfold Gives
      exact ⟨_, Le.refl _ _, rfl, rfl⟩
def R_deep_Ints (xs : List AV) (r : Ret) : Prop := ∃ (a0 : List Int) (y0 : List Int), m_deep_Ints a0 = some y0 ∧ xs = [.s (.sl 1 ((List.map (irow .i64)) a0))] ∧ r = .val (.s (.sl 1 ((List.map (irow .i64)) y0)))
def S_deep_Ints : PSpec := pspec fun xs r => R_deep_Ints xs r
set_option maxHeartbeats 2000000 in
set_option maxRecDepth 100000 in
theorem ok_deep_Ints : PSound Try.prog 69 S_deep_Ints := by
  have gok : ∀ f s, look? f [(85, S_slices_Clone_sint)] = some s → PSound Try.prog f s := look_all (by
    simp only [List.forall_mem_cons]
    exact ⟨ok_slices_Clone_sint, by simp⟩)
  refine psound tokW Try.call69 Try.func69 rfl (fun xs r h => by obtain ⟨_, _, _, rfl, _⟩ := h; show 1 ≤ 5; decide) 5 rfl ?_
  rintro xs r w0 G0 ⟨l1, y0, h, rfl, rfl⟩ _
  rw [m_deep_Ints] at h
  refine tri_seq ?_
  refine tri_region (by exact tokW) (by exact gok) [] [] rfl ?_
  show Tri _ _ _ _
  refine tri_seq ?_
  refine tri_region (by exact tokW) (by exact gok) [] [] rfl ?_
  obtain ⟨y2, hy2, h⟩ := bind_out h
  refine ⟨_, ⟨_, _, hy2, rfl, rfl⟩, ?_⟩
  show Tri _ _ _ _
  refine tri_ret ?_
  have hy := Option.some.inj h
  subst hy
  unfold Gives
  exact ⟨_, Le.refl _ _, rfl, rfl⟩
def R_deep_Nodes (n : Nat) (xs : List AV) (r : Ret) : Prop := ∃ (a0 : List Nd) (y0 : List Nd), m_deep_Nodes n a0 = some y0 ∧ xs = [.s (.sl 4 (Nd.encs a0))] ∧ r = .row 24 4 (Nd.encs y0)
def S_deep_Nodes : PSpec := pspec fun xs r => ∃ n, R_deep_Nodes n xs r
set_option maxHeartbeats 2000000 in
set_option maxRecDepth 100000 in
theorem ok_deep_Nodes : PSound Try.prog 70 S_deep_Nodes := by
  have gok : ∀ f s, look? f [(49, S_deep_Node)] = some s → PSound Try.prog f s := look_all (by
    simp only [List.forall_mem_cons]
    exact ⟨ok_deep_Node, by simp⟩)
  refine psound tokW Try.call70 Try.func70 rfl (fun xs r h => by obtain ⟨n, _, _, _, rfl, _⟩ := h; show 1 ≤ 20; decide) 20 rfl ?_
  rintro xs r w0 G0 ⟨n, l1, y0, h, rfl, rfl⟩ _
  rw [m_deep_Nodes] at h
  refine tri_seq ?_
  refine tri_region (by exact tokW) (by exact gok) [2] [] rfl ?_
  show Tri _ _ _ _
  refine tri_le (Le.rename [] [(0, .s (.sl 4 (Nd.encs l1)))] [] 0 ⟨rfl, trivial⟩ trivial rfl rfl rfl rfl rfl) ?_
  refine tri_seq ?_
  refine tri_region (by exact tokW) (by exact gok) [3] [] rfl ?_
  show Tri _ _ _ _
  refine tri_le (Le.rename [(0, 0)] [(0, .s (.sl 4 (Nd.encs l1))), (3, .orow 0)] [(0, .row 24 4 (Nd.encs []))] 1 ⟨rfl, rfl, trivial⟩ ⟨rfl, ⟨_, rfl, congrArg (Ob.row 24 4) (by simp [List.map_append, List.map_take, List.map_drop, irow, brow, b8of_row, List.map_cons, List.map_nil, b8of_wrap, Nd.encs_eq, Nd.enc, enc_s_api_Node, enc_edit_change, enc_api_Op])⟩, trivial⟩ rfl rfl rfl rfl rfl) ?_
  refine tri_seq ?_
  refine tri_seq ?_
  refine tri_region (by exact tokW) (by exact gok) [] [6] rfl ?_
  intro n2 hn2
  obtain rfl : (l1.length : Int) = n2 := (hn2.trans (congrArg (fun m : Nat => (m : Int)) (rlen Nd.encs_eq l1))).symm
  show Tri _ _ _ _
  obtain ⟨l6, hl, h⟩ := bind_out h
  refine tri_post ⟨ofL [(3, .orow 0)], ofH [(0, .row 24 4 (Nd.encs l6))], 1⟩ ?_ (fun σ' hle => ?_)
  · refine tri_block (tri_loopI (X := Nat × Int × (List Nd)) (fun y => match y with | (k, x4, l5) => ⟨ofL [(0, .s (.sl 4 (Nd.encs l1))), (3, .orow 0), (6, .s (.int .i64 (l1.length : Int))), (7, .s (.int .i64 x4))], ofH [(0, .row 24 4 (Nd.encs l5))], 1⟩) (fun y => m_deep_Nodes_l1 l1 y.1 y.2.1 y.2.2 = some l6) (fun y => y.1) (n, 0, []) hl ?_ ?_)
    · exact (Le.rename [(0, 0)] _ _ _ ⟨rfl, rfl, rfl, rfl, trivial⟩ ⟨rfl, ⟨_, rfl, rfl⟩, trivial⟩ rfl rfl rfl rfl rfl)
    · rintro ⟨k, x4, l5⟩ h
      cases k with
      | zero => cases h
      | succ k =>
        replace h : m_deep_Nodes_l1 l1 (k+1) x4 l5 = some l6 := h
        rw [m_deep_Nodes_l1] at h
        refine tri_seq ?_
        refine tri_region (by exact tokW) (by exact gok) [] [] rfl ?_
        show Tri _ _ _ _
        refine tri_seq ?_
        refine tri_cond rfl (fun hb => ?_) (fun hb => ?_)
        · replace h := bif_t hb h
          refine tri_skip ?_
          show Tri _ _ _ _
          refine tri_seq ?_
          refine tri_block ?_
          refine tri_seq ?_
          refine tri_region (by exact tokW) (by exact gok) [] [] rfl ?_
          show Tri _ _ _ _
          refine tri_region (by exact tokW) (by exact gok) [17] [13, 16] rfl ?_
          obtain ⟨⟨e7_kind, e7_text, e7_cols, e7_kids⟩, he7, h⟩ := bind_out h
          refine And.intro (at_ok Nd.encs_eq he7).1 ?_
          intro r8 hr8
          obtain rfl : [.int .i64 e7_kind, .str e7_text, .int .i64 e7_cols, .sl 4 (Nd.encs e7_kids)] = r8 := (hr8.trans (at_ok Nd.encs_eq he7).2.1).symm
          obtain ⟨⟨y9_kind, y9_text, y9_cols, y9_kids⟩, hy9, h⟩ := bind_out h
          refine ⟨_, ⟨_, _, hy9, rfl, rfl⟩, ?_⟩
          intro r10 hr10
          obtain rfl : Nd.encs [Nd.mk y9_kind y9_text y9_cols y9_kids] = r10 := (hr10.trans (by simp [List.map_append, List.map_take, List.map_drop, irow, brow, b8of_row, List.map_cons, List.map_nil, b8of_wrap, Nd.encs_eq, Nd.enc, enc_s_api_Node, enc_edit_change, enc_api_Op])).symm
          obtain ⟨hq, h⟩ := req_out h
          refine And.intro (show ((Nd.encs l5).length + (Nd.encs [Nd.mk y9_kind y9_text y9_cols y9_kids]).length) * 56 ≤ 140737488355328 ∧ (Nd.encs l5).length + (Nd.encs [Nd.mk y9_kind y9_text y9_cols y9_kids]).length ≤ 9223372036854775807 from by simp only [List.length_append, List.length_cons, List.length_nil, List.length_map, rlen Nd.encs_eq] at hq ⊢; omega) ?_
          show Tri _ _ _ _
          refine tri_le (Le.rename [(1, 0)] [(0, .s (.sl 4 (Nd.encs l1))), (3, .orow 0), (6, .s (.int .i64 (l1.length : Int))), (7, .s (.int .i64 x4))] [(0, .row 24 4 (Nd.encs (l5 ++ [Nd.mk y9_kind y9_text y9_cols y9_kids])))] 1 ⟨rfl, rfl, rfl, rfl, trivial⟩ ⟨rfl, ⟨_, rfl, congrArg (Ob.row 24 4) (by simp [List.map_append, List.map_take, List.map_drop, irow, brow, b8of_row, List.map_cons, List.map_nil, b8of_wrap, Nd.encs_eq, Nd.enc, enc_s_api_Node, enc_edit_change, enc_api_Op])⟩, trivial⟩ rfl rfl rfl rfl rfl) ?_
          refine tri_region (by exact tokW) (by exact gok) [] [] rfl ?_
          refine ⟨(k, IntKind.i64.wrap (x4 + 1), l5 ++ [Nd.mk y9_kind y9_text y9_cols y9_kids]), h, (Le.rename [(0, 0)] _ _ _ ⟨rfl, rfl, rfl, rfl, trivial⟩ ⟨rfl, ⟨_, rfl, rfl⟩, trivial⟩ rfl rfl rfl rfl rfl), Nat.lt_succ_self k⟩
        · replace h := bif_f hb h
          refine tri_exit ?_
          cases h
          exact (Le.rename [(0, 0)] _ _ _ ⟨rfl, trivial⟩ ⟨rfl, ⟨_, rfl, rfl⟩, trivial⟩ rfl rfl rfl rfl rfl)
  · show Tri _ _ _ _
    refine tri_le hle ?_
    refine tri_seq ?_
    refine tri_region (by exact tokW) (by exact gok) [] [] rfl ?_
    show Tri _ _ _ _
    refine tri_ret ?_
    have hy := Option.some.inj h
    subst hy
    unfold Gives
    exact ⟨_, Le.refl _ _, 0, rfl, rfl⟩
def R_deep_Op (n : Nat) (xs : List AV) (r : Ret) : Prop := ∃ (a0 : (Int × List Int × Int × Int × List Nd × Int × List UInt8 × List UInt8)) (y0 : (Int × List Int × Int × Int × List Nd × Int × List UInt8 × List UInt8)), m_deep_Op n a0 = some y0 ∧ xs = [.agg ((enc_api_Op a0).map .s)] ∧ r = .val (.agg ((enc_api_Op y0).map .s))
def S_deep_Op : PSpec := pspec fun xs r => ∃ n, R_deep_Op n xs r
set_option maxHeartbeats 2000000 in
set_option maxRecDepth 100000 in
theorem ok_deep_Op : PSound Try.prog 50 S_deep_Op := by
  have gok : ∀ f s, look? f [(69, S_deep_Ints), (70, S_deep_Nodes)] = some s → PSound Try.prog f s := look_all (by
    simp only [List.forall_mem_cons]
    exact ⟨ok_deep_Ints, ok_deep_Nodes, by simp⟩)
  refine psound tokW Try.call50 Try.func50 rfl (fun xs r h => by obtain ⟨n, _, _, _, rfl, _⟩ := h; show 1 ≤ 12; decide) 12 rfl ?_
  rintro xs r w0 G0 ⟨n, ⟨op1_kind, op1_row, op1_at, op1_n, op1_nodes, op1_slot, op1_old, op1_text⟩, y0, h, rfl, rfl⟩ _
  rw [m_deep_Op] at h
  refine tri_seq ?_
  refine tri_region (by exact tokW) (by exact gok) [1, 2] [] rfl ?_
  show Tri _ _ _ _
  refine tri_seq ?_
  refine tri_region (by exact tokW) (by exact gok) [] [] rfl ?_
  obtain ⟨y2, hy2, h⟩ := bind_out h
  refine ⟨_, ⟨_, _, hy2, rfl, rfl⟩, ?_⟩
  show Tri _ _ _ _
  refine tri_seq ?_
  refine tri_region (by exact tokW) (by exact gok) [] [] rfl ?_
  obtain ⟨y3, hy3, h⟩ := bind_out h
  refine ⟨_, ⟨_, _, _, hy3, rfl, rfl⟩, ?_⟩
  show Tri _ _ _ _
  refine tri_seq ?_
  refine tri_region (by exact tokW) (by exact gok) [] [] rfl ?_
  show Tri _ _ _ _
  refine tri_ret ?_
  have hy := Option.some.inj h
  subst hy
  unfold Gives
  exact ⟨_, Le.refl _ _, rfl, rfl⟩
end Go.Proofs.Ytfbggpmdmhgpfaa
namespace Go.Proofs.Ytfbggpmdmhgpfaa
open Go.Abs
def m_edit_change_unwrap (n : Nat) (c : (Int × List Int × Int × Int × List Nd × Int × List UInt8 × List UInt8) × List Nd) : Option (List Nd × Int) :=
  match m_edit_change_unwrap_none c with
  | some r => some r
  | none => m_edit_change_unwrap_kids n c
end Go.Proofs.Ytfbggpmdmhgpfaa
namespace Go.Proofs.Ytfbggpmdmhgpfaa
open Go.Abs
theorem psound_or {P : Program} {f : Nat} {A B : List AV → Ret → Prop} (hA : PSound P f (pspec A)) (hB : PSound P f (pspec B)) : PSound P f (pspec fun xs r => A xs r ∨ B xs r) :=
  ⟨hA.1, fun G w xs vs r hl hg hp hv hs => hs.elim (hA.2.1 G w xs vs r hl hg hp hv) (hB.2.1 G w xs vs r hl hg hp hv), fun R hR => (by cases hR), fun R hR => (by cases hR)⟩
theorem psound_mono {P : Program} {f : Nat} {A B : List AV → Ret → Prop} (hA : PSound P f (pspec A)) (h : ∀ xs r, B xs r → A xs r) : PSound P f (pspec B) :=
  ⟨hA.1, fun G w xs vs r hl hg hp hv hs => hA.2.1 G w xs vs r hl hg hp hv (h xs r hs), fun R hR => (by cases hR), fun R hR => (by cases hR)⟩
def R_edit_change_unwrap (n : Nat) (xs : List AV) (r : Ret) : Prop := ∃ (a0 : ((Int × List Int × Int × Int × List Nd × Int × List UInt8 × List UInt8) × List Nd)) (y0 : List Nd) (y1 : Int), m_edit_change_unwrap n a0 = some (y0, y1) ∧ xs = [.agg ((enc_edit_change a0).map .s)] ∧ r = .val (.tup [.s (.sl 4 (Nd.encs y0)), .s (.int .i64 y1)])
def S_edit_change_unwrap : PSpec := pspec fun xs r => ∃ n, R_edit_change_unwrap n xs r
theorem ok_edit_change_unwrap : PSound Try.prog 63 S_edit_change_unwrap :=
  psound_mono (psound_or ok_edit_change_unwrap_none ok_edit_change_unwrap_kids) fun xs r ⟨n, a, y, z, hm, hx, hr⟩ => by
    unfold m_edit_change_unwrap at hm
    split at hm
    · rename_i q hq
      obtain rfl := Option.some.inj hm
      exact .inl ⟨a, y, z, hq, hx, hr⟩
    · exact .inr ⟨n, a, y, z, hm, hx, hr⟩
end Go.Proofs.Ytfbggpmdmhgpfaa
namespace Go.Proofs.Ytfbggpmdmhgpfaa
open Go.Abs
def m_edit_change_apply (n : Nat) : ((Int × List Int × Int × Int × List Nd × Int × List UInt8 × List UInt8) × List Nd) → Option ((List Nd) × Int)
| ⟨⟨c1_op_kind, c1_op_row, c1_op_at, c1_op_n, c1_op_nodes, c1_op_slot, c1_op_old, c1_op_text⟩, c1_items⟩ =>
  (m_edit_change_enough ((c1_op_kind, c1_op_row, c1_op_at, c1_op_n, c1_op_nodes, c1_op_slot, c1_op_old, c1_op_text), c1_items)).bind fun y2 =>
  bif (y2 != 0) then (
    some ([], y2)
  ) else (
    bif (c1_op_kind == 1) then (
      (m_edit_change_insert n ((c1_op_kind, c1_op_row, c1_op_at, c1_op_n, c1_op_nodes, c1_op_slot, c1_op_old, c1_op_text), c1_items)).bind fun ⟨y3, y4⟩ =>
      some (y3, y4)
    ) else (
      bif (c1_op_kind == 2) then (
        (m_edit_change_remove n ((c1_op_kind, c1_op_row, c1_op_at, c1_op_n, c1_op_nodes, c1_op_slot, c1_op_old, c1_op_text), c1_items)).bind fun ⟨y5, y6⟩ =>
        some (y5, y6)
      ) else (
        bif (c1_op_kind == 3) then (
          (m_edit_change_wrap n ((c1_op_kind, c1_op_row, c1_op_at, c1_op_n, c1_op_nodes, c1_op_slot, c1_op_old, c1_op_text), c1_items)).bind fun ⟨y7, y8⟩ =>
          some (y7, y8)
        ) else (
          bif (c1_op_kind == 4) then (
            (m_edit_change_unwrap n ((c1_op_kind, c1_op_row, c1_op_at, c1_op_n, c1_op_nodes, c1_op_slot, c1_op_old, c1_op_text), c1_items)).bind fun ⟨y9, y10⟩ =>
            some (y9, y10)
          ) else (
            (m_edit_change_set n ((c1_op_kind, c1_op_row, c1_op_at, c1_op_n, c1_op_nodes, c1_op_slot, c1_op_old, c1_op_text), c1_items)).bind fun ⟨y11, y12⟩ =>
            some (y11, y12)
          )
        )
      )
    )
  )
def m_edit_Apply (n : Nat) : Nd → (Int × List Int × Int × Int × List Nd × Int × List UInt8 × List UInt8) → Option (Nd × Int)
| ⟨n1_kind, n1_text, n1_cols, n1_kids⟩, ⟨op2_kind, op2_row, op2_at, op2_n, op2_nodes, op2_slot, op2_old, op2_text⟩ =>
  (m_node_Valid n (Nd.mk n1_kind n1_text n1_cols n1_kids)).bind fun y3 =>
  bif (!y3) then (
    some (Nd.mk 0 [] 0 [], 1)
  ) else (
    (m_edit_Formed n (op2_kind, op2_row, op2_at, op2_n, op2_nodes, op2_slot, op2_old, op2_text)).bind fun y4 =>
    bif (!y4) then (
      some (Nd.mk 0 [] 0 [], 4)
    ) else (
      (m_node_Row n (Nd.mk n1_kind n1_text n1_cols n1_kids) op2_row).bind fun ⟨⟨y5_kind, y5_text, y5_cols, y5_kids⟩, y6⟩ =>
      bif (y6 != 0) then (
        some (Nd.mk 0 [] 0 [], y6)
      ) else (
        (m_edit_change_apply n ((op2_kind, op2_row, op2_at, op2_n, op2_nodes, op2_slot, op2_old, op2_text), y5_kids)).bind fun ⟨y7, y8⟩ =>
        bif (y8 != 0) then (
          some (Nd.mk 0 [] 0 [], y8)
        ) else (
          (m_node_With n (Nd.mk n1_kind n1_text n1_cols n1_kids) op2_row (Nd.mk y5_kind y5_text y5_cols y7)).bind fun ⟨⟨y9_kind, y9_text, y9_cols, y9_kids⟩, y10⟩ =>
          bif (y10 != 0) then (
            some (Nd.mk 0 [] 0 [], 6)
          ) else (
            some (Nd.mk y9_kind y9_text y9_cols y9_kids, 0)
          )
        )
      )
    )
  )
def m_edit_Check (n : Nat) : Nd → (Int × List Int × Int × Int × List Nd × Int × List UInt8 × List UInt8) → Option Int
| ⟨n1_kind, n1_text, n1_cols, n1_kids⟩, ⟨op2_kind, op2_row, op2_at, op2_n, op2_nodes, op2_slot, op2_old, op2_text⟩ =>
  (m_edit_Apply n (Nd.mk n1_kind n1_text n1_cols n1_kids) (op2_kind, op2_row, op2_at, op2_n, op2_nodes, op2_slot, op2_old, op2_text)).bind fun ⟨⟨y3_kind, y3_text, y3_cols, y3_kids⟩, y4⟩ =>
  some y4
def m_edit_ApplyAll_l1 (n : Nat) (ops2 : List (Int × List Int × Int × Int × List Nd × Int × List UInt8 × List UInt8)) : Nat → Int → (List UInt8) → Int → (List Nd) → Int → Option (Fl (Nd × Int × Int) (Int × (List UInt8) × Int × (List Nd)))
| 0, _, _, _, _, _ => none
| k+1, x7, x8, x9, x10, x11 =>
  bif decide (x11 < (ops2.length : Int)) then (
    (at? ops2 x11).bind fun ⟨e16_kind, e16_row, e16_at, e16_n, e16_nodes, e16_slot, e16_old, e16_text⟩ =>
    (m_edit_Apply n (Nd.mk x7 x8 x9 x10) (e16_kind, e16_row, e16_at, e16_n, e16_nodes, e16_slot, e16_old, e16_text)).bind fun ⟨⟨y18_kind, y18_text, y18_cols, y18_kids⟩, y19⟩ =>
    bif (y19 != 0) then (
      some (.ret (Nd.mk 0 [] 0 [], x11, y19))
    ) else (
      m_edit_ApplyAll_l1 n ops2 k y18_kind y18_text y18_cols y18_kids (IntKind.i64.wrap (x11 + 1))
    )
  ) else (
    some (.go (x7, x8, x9, x10))
  )
def m_edit_ApplyAll (n : Nat) : Nd → (List (Int × List Int × Int × Int × List Nd × Int × List UInt8 × List UInt8)) → Option (Nd × Int × Int)
| ⟨n1_kind, n1_text, n1_cols, n1_kids⟩, ops2 =>
  (m_node_Valid n (Nd.mk n1_kind n1_text n1_cols n1_kids)).bind fun y3 =>
  bif (!y3) then (
    some (Nd.mk 0 [] 0 [], 0, 1)
  ) else (
    (m_deep_Node (Nd.mk n1_kind n1_text n1_cols n1_kids)).bind fun ⟨y4_kind, y4_text, y4_cols, y4_kids⟩ =>
    (m_edit_ApplyAll_l1 n ops2 n y4_kind y4_text y4_cols y4_kids 0).bind fun fl => match fl with
    | .ret r => some r
    | .go ⟨x12, x13, x14, x15⟩ =>
      some (Nd.mk x12 x13 x14 x15, 0, 0)
  )
def m_edit_Invert (n : Nat) : (Int × List Int × Int × Int × List Nd × Int × List UInt8 × List UInt8) → Option (Int × List Int × Int × Int × List Nd × Int × List UInt8 × List UInt8)
| ⟨op1_kind, op1_row, op1_at, op1_n, op1_nodes, op1_slot, op1_old, op1_text⟩ =>
  (m_deep_Op n (op1_kind, op1_row, op1_at, op1_n, op1_nodes, op1_slot, op1_old, op1_text)).bind fun ⟨y2_kind, y2_row, y2_at, y2_n, y2_nodes, y2_slot, y2_old, y2_text⟩ =>
  (
    bif (op1_kind == 1) then (
      some (2, y2_old, y2_text)
    ) else (
      bif (op1_kind == 2) then (
        some (1, y2_old, y2_text)
      ) else (
        bif (op1_kind == 3) then (
          some (4, y2_old, y2_text)
        ) else (
          bif (op1_kind == 4) then (
            some (3, y2_old, y2_text)
          ) else (
            bif (op1_kind == 5) then (
              some (y2_kind, op1_text, op1_old)
            ) else (
              some (y2_kind, y2_old, y2_text)
            )
          )
        )
      )
    )
   : Option (Int × (List UInt8) × (List UInt8))).bind fun ⟨x3, x4, x5⟩ =>
  some (x3, y2_row, y2_at, y2_n, y2_nodes, y2_slot, x4, x5)
def m_l12_awake_1 : (List Nd) → Option Nd
| l1 =>
  some (Nd.mk 1 [] 0 l1)
def m_l12_awake (n : Nat) : Option Bool
:=
  (m_l12_awake_1 []).bind fun ⟨y1_kind, y1_text, y1_cols, y1_kids⟩ =>
  (m_l12_awake_1 []).bind fun ⟨y2_kind, y2_text, y2_cols, y2_kids⟩ =>
  (m_l12_awake_1 [Nd.mk 2 [97] 0 [], Nd.mk 2 [98] 0 []]).bind fun ⟨y6_kind, y6_text, y6_cols, y6_kids⟩ =>
  (m_edit_Apply n (Nd.mk y6_kind y6_text y6_cols y6_kids) (3, [], 0, 2, [Nd.mk 5 [] 0 [Nd.mk y1_kind y1_text y1_cols y1_kids, Nd.mk y2_kind y2_text y2_cols y2_kids]], 0, [], [])).bind fun ⟨⟨y7_kind, y7_text, y7_cols, y7_kids⟩, y8⟩ =>
  (
    bif (y8 == 0) then (
      (m_l12_awake_1 [Nd.mk 2 [97] 0 [], Nd.mk 2 [98] 0 []]).bind fun ⟨y11_kind, y11_text, y11_cols, y11_kids⟩ =>
      (m_l12_awake_1 []).bind fun ⟨y12_kind, y12_text, y12_cols, y12_kids⟩ =>
      (m_l12_awake_1 [Nd.mk 5 [] 0 [Nd.mk y11_kind y11_text y11_cols y11_kids, Nd.mk y12_kind y12_text y12_cols y12_kids]]).bind fun ⟨y15_kind, y15_text, y15_cols, y15_kids⟩ =>
      (m_r09_Equal n (Nd.mk y7_kind y7_text y7_cols y7_kids) (Nd.mk y15_kind y15_text y15_cols y15_kids)).bind fun y16 =>
      some y16
    ) else (
      some false
    )
   : Option (Bool)).bind fun x9 =>
  some x9
def m_l12_few_l1 (n : Nat) (ops2 : List (Int × List Int × Int × Int × List Nd × Int × List UInt8 × List UInt8)) : Nat → Int → Option (Fl Bool Unit)
| 0, _ => none
| k+1, x4 =>
  bif decide (x4 < (ops2.length : Int)) then (
    (at? ops2 x4).bind fun ⟨e5_kind, e5_row, e5_at, e5_n, e5_nodes, e5_slot, e5_old, e5_text⟩ =>
    (m_r12_Few n (e5_kind, e5_row, e5_at, e5_n, e5_nodes, e5_slot, e5_old, e5_text)).bind fun y7 =>
    bif (!y7) then (
      some (.ret false)
    ) else (
      m_l12_few_l1 n ops2 k (IntKind.i64.wrap (x4 + 1))
    )
  ) else (
    some (.go ())
  )
def m_l12_few (n : Nat) : Nd → (List (Int × List Int × Int × Int × List Nd × Int × List UInt8 × List UInt8)) → Option Bool
| ⟨n1_kind, n1_text, n1_cols, n1_kids⟩, ops2 =>
  (m_l12_few_l1 n ops2 n 0).bind fun fl => match fl with
  | .ret r => some r
  | .go _ =>
    (
      (m_r09_Few n (Nd.mk n1_kind n1_text n1_cols n1_kids) 300).bind fun y9 =>
      bif y9 then (
        some (decide ((ops2.length : Int) ≤ 12))
      ) else (
        some false
      )
     : Option (Bool)).bind fun x8 =>
    some x8
def m_l12_EditCounts_l1 (n : Nat) (op2_nodes : List Nd) : Nat → Int → Int → Option (Int)
| 0, _, _ => none
| k+1, x11, by12 =>
  bif decide (x11 < (op2_nodes.length : Int)) then (
    (at? op2_nodes x11).bind fun ⟨e14_kind, e14_text, e14_cols, e14_kids⟩ =>
    (m_r09_Count n (Nd.mk e14_kind e14_text e14_cols e14_kids)).bind fun y16 =>
    m_l12_EditCounts_l1 n op2_nodes k (IntKind.i64.wrap (x11 + 1)) (IntKind.i64.wrap (by12 + y16))
  ) else (
    some by12
  )
def m_l12_EditCounts (n : Nat) : Nd → (Int × List Int × Int × Int × List Nd × Int × List UInt8 × List UInt8) → Option Bool
| ⟨n1_kind, n1_text, n1_cols, n1_kids⟩, ⟨op2_kind, op2_row, op2_at, op2_n, op2_nodes, op2_slot, op2_old, op2_text⟩ =>
  (
    (m_l12_awake n ).bind fun y4 =>
    bif (!y4) then (
      some true
    ) else (
      (m_l12_few n (Nd.mk n1_kind n1_text n1_cols n1_kids) [(op2_kind, op2_row, op2_at, op2_n, op2_nodes, op2_slot, op2_old, op2_text)]).bind fun y6 =>
      some (!y6)
    )
   : Option (Bool)).bind fun x3 =>
  bif x3 then (
    (m_l12_awake n ).bind fun y7 =>
    some y7
  ) else (
    (m_edit_Apply n (Nd.mk n1_kind n1_text n1_cols n1_kids) (op2_kind, op2_row, op2_at, op2_n, op2_nodes, op2_slot, op2_old, op2_text)).bind fun ⟨⟨y8_kind, y8_text, y8_cols, y8_kids⟩, y9⟩ =>
    bif (y9 != 0) then (
      some true
    ) else (
      (m_l12_EditCounts_l1 n op2_nodes n 0 0).bind fun by13 =>
      (
        bif (op2_kind == 2) then (
          some true
        ) else (
          some (op2_kind == 4)
        )
       : Option (Bool)).bind fun x17 =>
      (
        bif x17 then (
          some (IntKind.i64.wrap (0 - by13))
        ) else (
          some by13
        )
       : Option (Int)).bind fun by18 =>
      (m_r09_Count n (Nd.mk y8_kind y8_text y8_cols y8_kids)).bind fun y19 =>
      (m_r09_Count n (Nd.mk n1_kind n1_text n1_cols n1_kids)).bind fun y20 =>
      some (y19 == (IntKind.i64.wrap (y20 + by18)))
    )
  )
def m_l12_begins_l1 (l1 : List Int) (with2 : List Int) : Nat → Int → Option (Fl Bool Unit)
| 0, _ => none
| k+1, x6 =>
  bif decide (x6 < (with2.length : Int)) then (
    (at? l1 x6).bind fun e7 =>
    (at? with2 x6).bind fun e9 =>
    bif (e7 != e9) then (
      some (.ret false)
    ) else (
      m_l12_begins_l1 l1 with2 k (IntKind.i64.wrap (x6 + 1))
    )
  ) else (
    some (.go ())
  )
def m_l12_begins (n : Nat) : (List Int) → (List Int) → Option Bool
| l1, with2 =>
  bif decide ((l1.length : Int) < (with2.length : Int)) then (
    some false
  ) else (
    (m_l12_begins_l1 l1 with2 n 0).bind fun fl => match fl with
    | .ret r => some r
    | .go _ =>
      some true
  )
def m_l12_EditElsewhere (n : Nat) : Nd → (Int × List Int × Int × Int × List Nd × Int × List UInt8 × List UInt8) → (List Int) → Option Bool
| ⟨a1_kind, a1_text, a1_cols, a1_kids⟩, ⟨a2_kind, a2_row, a2_at, a2_n, a2_nodes, a2_slot, a2_old, a2_text⟩, a3 =>
  (
    (m_l12_awake n ).bind fun y5 =>
    bif (!y5) then (
      some true
    ) else (
      (m_l12_few n (Nd.mk a1_kind a1_text a1_cols a1_kids) [(a2_kind, a2_row, a2_at, a2_n, a2_nodes, a2_slot, a2_old, a2_text)]).bind fun y7 =>
      bif (!y7) then (
        some true
      ) else (
        bif decide (60 < (a3.length : Int)) then (
          some true
        ) else (
          (m_l12_begins n a3 a2_row).bind fun y9 =>
          bif y9 then (
            some true
          ) else (
            (m_l12_begins n a2_row a3).bind fun y10 =>
            some y10
          )
        )
      )
    )
   : Option (Bool)).bind fun x4 =>
  bif x4 then (
    (m_l12_awake n ).bind fun y11 =>
    some y11
  ) else (
    (m_edit_Apply n (Nd.mk a1_kind a1_text a1_cols a1_kids) (a2_kind, a2_row, a2_at, a2_n, a2_nodes, a2_slot, a2_old, a2_text)).bind fun ⟨⟨y12_kind, y12_text, y12_cols, y12_kids⟩, y13⟩ =>
    bif (y13 != 0) then (
      some true
    ) else (
      (m_r09_Row n (Nd.mk a1_kind a1_text a1_cols a1_kids) a3).bind fun ⟨⟨y14_kind, y14_text, y14_cols, y14_kids⟩, y15⟩ =>
      (m_r09_Row n (Nd.mk y12_kind y12_text y12_cols y12_kids) a3).bind fun ⟨⟨y16_kind, y16_text, y16_cols, y16_kids⟩, y17⟩ =>
      (
        bif (y15 == y17) then (
          (m_r09_Equal n (Nd.mk y14_kind y14_text y14_cols y14_kids) (Nd.mk y16_kind y16_text y16_cols y16_kids)).bind fun y19 =>
          some y19
        ) else (
          some false
        )
       : Option (Bool)).bind fun x18 =>
      some x18
    )
  )
def m_l12_EditApply (n : Nat) : Nd → (Int × List Int × Int × Int × List Nd × Int × List UInt8 × List UInt8) → Option Bool
| ⟨n1_kind, n1_text, n1_cols, n1_kids⟩, ⟨op2_kind, op2_row, op2_at, op2_n, op2_nodes, op2_slot, op2_old, op2_text⟩ =>
  (
    (m_l12_awake n ).bind fun y4 =>
    bif (!y4) then (
      some true
    ) else (
      (m_l12_few n (Nd.mk n1_kind n1_text n1_cols n1_kids) [(op2_kind, op2_row, op2_at, op2_n, op2_nodes, op2_slot, op2_old, op2_text)]).bind fun y6 =>
      some (!y6)
    )
   : Option (Bool)).bind fun x3 =>
  bif x3 then (
    (m_l12_awake n ).bind fun y7 =>
    some y7
  ) else (
    (m_r09_Dump n (Nd.mk n1_kind n1_text n1_cols n1_kids)).bind fun y8 =>
    (m_edit_Apply n (Nd.mk n1_kind n1_text n1_cols n1_kids) (op2_kind, op2_row, op2_at, op2_n, op2_nodes, op2_slot, op2_old, op2_text)).bind fun ⟨⟨y9_kind, y9_text, y9_cols, y9_kids⟩, y10⟩ =>
    (m_r12_Apply n (Nd.mk n1_kind n1_text n1_cols n1_kids) (op2_kind, op2_row, op2_at, op2_n, op2_nodes, op2_slot, op2_old, op2_text)).bind fun ⟨⟨y11_kind, y11_text, y11_cols, y11_kids⟩, y12⟩ =>
    (
      bif (y10 == y12) then (
        (m_r09_Equal n (Nd.mk y9_kind y9_text y9_cols y9_kids) (Nd.mk y11_kind y11_text y11_cols y11_kids)).bind fun y14 =>
        bif y14 then (
          (m_edit_Check n (Nd.mk n1_kind n1_text n1_cols n1_kids) (op2_kind, op2_row, op2_at, op2_n, op2_nodes, op2_slot, op2_old, op2_text)).bind fun y15 =>
          bif (y15 == y12) then (
            (m_edit_Formed n (op2_kind, op2_row, op2_at, op2_n, op2_nodes, op2_slot, op2_old, op2_text)).bind fun y16 =>
            (m_r12_Formed n (op2_kind, op2_row, op2_at, op2_n, op2_nodes, op2_slot, op2_old, op2_text)).bind fun y17 =>
            bif (y16 == y17) then (
              (m_r09_Dump n (Nd.mk n1_kind n1_text n1_cols n1_kids)).bind fun y18 =>
              some (y18 == y8)
            ) else (
              some false
            )
          ) else (
            some false
          )
        ) else (
          some false
        )
      ) else (
        some false
      )
     : Option (Bool)).bind fun x13 =>
    some x13
  )
def m_l12_EditApplyAll (n : Nat) : Nd → (List (Int × List Int × Int × Int × List Nd × Int × List UInt8 × List UInt8)) → Option Bool
| ⟨n1_kind, n1_text, n1_cols, n1_kids⟩, ops2 =>
  (
    (m_l12_awake n ).bind fun y4 =>
    bif (!y4) then (
      some true
    ) else (
      (m_l12_few n (Nd.mk n1_kind n1_text n1_cols n1_kids) ops2).bind fun y5 =>
      some (!y5)
    )
   : Option (Bool)).bind fun x3 =>
  bif x3 then (
    (m_l12_awake n ).bind fun y6 =>
    some y6
  ) else (
    (m_edit_ApplyAll n (Nd.mk n1_kind n1_text n1_cols n1_kids) ops2).bind fun ⟨⟨y7_kind, y7_text, y7_cols, y7_kids⟩, y8, y9⟩ =>
    (m_r12_ApplyAll n (Nd.mk n1_kind n1_text n1_cols n1_kids) ops2).bind fun ⟨⟨y10_kind, y10_text, y10_cols, y10_kids⟩, y11, y12⟩ =>
    (
      bif (y9 == y12) then (
        bif (y8 == y11) then (
          (m_r09_Equal n (Nd.mk y7_kind y7_text y7_cols y7_kids) (Nd.mk y10_kind y10_text y10_cols y10_kids)).bind fun y14 =>
          some y14
        ) else (
          some false
        )
      ) else (
        some false
      )
     : Option (Bool)).bind fun x13 =>
    some x13
  )
def m_l12_EditCommutes (n : Nat) : Nd → (Int × List Int × Int × Int × List Nd × Int × List UInt8 × List UInt8) → (Int × List Int × Int × Int × List Nd × Int × List UInt8 × List UInt8) → Option Bool
| ⟨a1_kind, a1_text, a1_cols, a1_kids⟩, ⟨a2_kind, a2_row, a2_at, a2_n, a2_nodes, a2_slot, a2_old, a2_text⟩, ⟨a3_kind, a3_row, a3_at, a3_n, a3_nodes, a3_slot, a3_old, a3_text⟩ =>
  (
    (m_l12_awake n ).bind fun y5 =>
    bif (!y5) then (
      some true
    ) else (
      (m_l12_few n (Nd.mk a1_kind a1_text a1_cols a1_kids) [(a2_kind, a2_row, a2_at, a2_n, a2_nodes, a2_slot, a2_old, a2_text), (a3_kind, a3_row, a3_at, a3_n, a3_nodes, a3_slot, a3_old, a3_text)]).bind fun y7 =>
      bif (!y7) then (
        some true
      ) else (
        (m_l12_begins n a2_row a3_row).bind fun y8 =>
        bif y8 then (
          some true
        ) else (
          (m_l12_begins n a3_row a2_row).bind fun y9 =>
          some y9
        )
      )
    )
   : Option (Bool)).bind fun x4 =>
  bif x4 then (
    (m_l12_awake n ).bind fun y10 =>
    some y10
  ) else (
    (m_edit_ApplyAll n (Nd.mk a1_kind a1_text a1_cols a1_kids) [(a2_kind, a2_row, a2_at, a2_n, a2_nodes, a2_slot, a2_old, a2_text), (a3_kind, a3_row, a3_at, a3_n, a3_nodes, a3_slot, a3_old, a3_text)]).bind fun ⟨⟨y12_kind, y12_text, y12_cols, y12_kids⟩, y13, y14⟩ =>
    (m_edit_ApplyAll n (Nd.mk a1_kind a1_text a1_cols a1_kids) [(a3_kind, a3_row, a3_at, a3_n, a3_nodes, a3_slot, a3_old, a3_text), (a2_kind, a2_row, a2_at, a2_n, a2_nodes, a2_slot, a2_old, a2_text)]).bind fun ⟨⟨y16_kind, y16_text, y16_cols, y16_kids⟩, y17, y18⟩ =>
    (
      bif ((y14 == 0) == (y18 == 0)) then (
        (m_r09_Equal n (Nd.mk y12_kind y12_text y12_cols y12_kids) (Nd.mk y16_kind y16_text y16_cols y16_kids)).bind fun y20 =>
        some y20
      ) else (
        some false
      )
     : Option (Bool)).bind fun x19 =>
    some x19
  )
def m_l12_EditUndo (n : Nat) : Nd → (Int × List Int × Int × Int × List Nd × Int × List UInt8 × List UInt8) → Option Bool
| ⟨n1_kind, n1_text, n1_cols, n1_kids⟩, ⟨op2_kind, op2_row, op2_at, op2_n, op2_nodes, op2_slot, op2_old, op2_text⟩ =>
  (
    (m_l12_awake n ).bind fun y4 =>
    bif (!y4) then (
      some true
    ) else (
      (m_l12_few n (Nd.mk n1_kind n1_text n1_cols n1_kids) [(op2_kind, op2_row, op2_at, op2_n, op2_nodes, op2_slot, op2_old, op2_text)]).bind fun y6 =>
      some (!y6)
    )
   : Option (Bool)).bind fun x3 =>
  bif x3 then (
    (m_l12_awake n ).bind fun y7 =>
    some y7
  ) else (
    (m_edit_Apply n (Nd.mk n1_kind n1_text n1_cols n1_kids) (op2_kind, op2_row, op2_at, op2_n, op2_nodes, op2_slot, op2_old, op2_text)).bind fun ⟨⟨y8_kind, y8_text, y8_cols, y8_kids⟩, y9⟩ =>
    bif (y9 != 0) then (
      (m_r09_Equal n (Nd.mk y8_kind y8_text y8_cols y8_kids) (Nd.mk 0 [] 0 [])).bind fun y10 =>
      some y10
    ) else (
      (m_edit_Invert n (op2_kind, op2_row, op2_at, op2_n, op2_nodes, op2_slot, op2_old, op2_text)).bind fun ⟨y11_kind, y11_row, y11_at, y11_n, y11_nodes, y11_slot, y11_old, y11_text⟩ =>
      (m_edit_Apply n (Nd.mk y8_kind y8_text y8_cols y8_kids) (y11_kind, y11_row, y11_at, y11_n, y11_nodes, y11_slot, y11_old, y11_text)).bind fun ⟨⟨y12_kind, y12_text, y12_cols, y12_kids⟩, y13⟩ =>
      (
        bif (y13 == 0) then (
          (m_r09_Equal n (Nd.mk y12_kind y12_text y12_cols y12_kids) (Nd.mk n1_kind n1_text n1_cols n1_kids)).bind fun y15 =>
          bif y15 then (
            (m_r09_Valid n (Nd.mk y8_kind y8_text y8_cols y8_kids)).bind fun y16 =>
            some y16
          ) else (
            some false
          )
        ) else (
          some false
        )
       : Option (Bool)).bind fun x14 =>
      some x14
    )
  )
end Go.Proofs.Ytfbggpmdmhgpfaa
namespace Go.Proofs.Ytfbggpmdmhgpfaa
open Go.Abs
def R_edit_change_apply (n : Nat) (xs : List AV) (r : Ret) : Prop := ∃ (a0 : ((Int × List Int × Int × Int × List Nd × Int × List UInt8 × List UInt8) × List Nd)) (y0 : List Nd) (y1 : Int), m_edit_change_apply n a0 = some (y0, y1) ∧ xs = [.agg ((enc_edit_change a0).map .s)] ∧ r = .val (.tup [.s (.sl 4 (Nd.encs y0)), .s (.int .i64 y1)])
def S_edit_change_apply : PSpec := pspec fun xs r => ∃ n, R_edit_change_apply n xs r
set_option maxHeartbeats 2000000 in
set_option maxRecDepth 100000 in
theorem ok_edit_change_apply : PSound Try.prog 37 S_edit_change_apply := by
  have gok : ∀ f s, look? f [(59, S_edit_change_enough), (60, S_edit_change_insert), (61, S_edit_change_remove), (62, S_edit_change_wrap), (63, S_edit_change_unwrap), (64, S_edit_change_set)] = some s → PSound Try.prog f s := look_all (by
    simp only [List.forall_mem_cons]
    exact ⟨ok_edit_change_enough, ok_edit_change_insert, ok_edit_change_remove, ok_edit_change_wrap, ok_edit_change_unwrap, ok_edit_change_set, by simp⟩)
  refine psound tokW Try.call37 Try.func37 rfl (fun xs r h => by obtain ⟨n, _, _, _, _, rfl, _⟩ := h; show 1 ≤ 41; decide) 41 rfl ?_
  rintro xs r w0 G0 ⟨n, ⟨⟨c1_op_kind, c1_op_row, c1_op_at, c1_op_n, c1_op_nodes, c1_op_slot, c1_op_old, c1_op_text⟩, c1_items⟩, y0, y1, h, rfl, rfl⟩ _
  rw [m_edit_change_apply] at h
  refine tri_seq ?_
  refine tri_region (by exact tokW) (by exact gok) [] [] rfl ?_
  show Tri _ _ _ _
  refine tri_seq ?_
  refine tri_seq ?_
  refine tri_region (by exact tokW) (by exact gok) [] [] rfl ?_
  obtain ⟨y2, hy2, h⟩ := bind_out h
  refine ⟨_, ⟨_, _, hy2, rfl, rfl⟩, ?_⟩
  show Tri _ _ _ _
  refine tri_seq ?_
  refine tri_region (by exact tokW) (by exact gok) [] [] rfl ?_
  show Tri _ _ _ _
  refine tri_cond rfl (fun hb => ?_) (fun hb => ?_)
  · replace h := bif_t hb h
    refine tri_seq ?_
    refine tri_region (by exact tokW) (by exact gok) [] [] rfl ?_
    show Tri _ _ _ _
    refine tri_ret ?_
    obtain ⟨hj1, hk1⟩ := Prod.mk.inj (Option.some.inj h)
    subst hj1
    subst hk1
    unfold Gives
    exact ⟨_, Le.refl _ _, rfl, rfl⟩
  · replace h := bif_f hb h
    refine tri_skip ?_
    show Tri _ _ _ _
    refine tri_seq ?_
    refine tri_seq ?_
    refine tri_region (by exact tokW) (by exact gok) [] [] rfl ?_
    show Tri _ _ _ _
    refine tri_block ?_
    refine tri_seq ?_
    refine tri_region (by exact tokW) (by exact gok) [] [] rfl ?_
    show Tri _ _ _ _
    refine tri_cond rfl (fun hb => ?_) (fun hb => ?_)
    · replace h := bif_t hb h
      refine tri_seq ?_
      refine tri_region (by exact tokW) (by exact gok) [] [] rfl ?_
      obtain ⟨⟨y3, y4⟩, hy3, h⟩ := bind_out h
      refine ⟨_, ⟨_, _, _, _, hy3, rfl, rfl⟩, ?_⟩
      show Tri _ _ _ _
      refine tri_ret ?_
      obtain ⟨hj1, hk1⟩ := Prod.mk.inj (Option.some.inj h)
      subst hj1
      subst hk1
      unfold Gives
      exact ⟨_, Le.refl _ _, rfl, rfl⟩
    · replace h := bif_f hb h
      refine tri_seq ?_
      refine tri_region (by exact tokW) (by exact gok) [] [] rfl ?_
      show Tri _ _ _ _
      refine tri_cond rfl (fun hb => ?_) (fun hb => ?_)
      · replace h := bif_t hb h
        refine tri_seq ?_
        refine tri_region (by exact tokW) (by exact gok) [] [] rfl ?_
        obtain ⟨⟨y5, y6⟩, hy5, h⟩ := bind_out h
        refine ⟨_, ⟨_, _, _, _, hy5, rfl, rfl⟩, ?_⟩
        show Tri _ _ _ _
        refine tri_ret ?_
        obtain ⟨hj1, hk1⟩ := Prod.mk.inj (Option.some.inj h)
        subst hj1
        subst hk1
        unfold Gives
        exact ⟨_, Le.refl _ _, rfl, rfl⟩
      · replace h := bif_f hb h
        refine tri_seq ?_
        refine tri_region (by exact tokW) (by exact gok) [] [] rfl ?_
        show Tri _ _ _ _
        refine tri_cond rfl (fun hb => ?_) (fun hb => ?_)
        · replace h := bif_t hb h
          refine tri_seq ?_
          refine tri_region (by exact tokW) (by exact gok) [] [] rfl ?_
          obtain ⟨⟨y7, y8⟩, hy7, h⟩ := bind_out h
          refine ⟨_, ⟨_, _, _, _, hy7, rfl, rfl⟩, ?_⟩
          show Tri _ _ _ _
          refine tri_ret ?_
          obtain ⟨hj1, hk1⟩ := Prod.mk.inj (Option.some.inj h)
          subst hj1
          subst hk1
          unfold Gives
          exact ⟨_, Le.refl _ _, rfl, rfl⟩
        · replace h := bif_f hb h
          refine tri_seq ?_
          refine tri_region (by exact tokW) (by exact gok) [] [] rfl ?_
          show Tri _ _ _ _
          refine tri_cond rfl (fun hb => ?_) (fun hb => ?_)
          · replace h := bif_t hb h
            refine tri_seq ?_
            refine tri_region (by exact tokW) (by exact gok) [] [] rfl ?_
            obtain ⟨⟨y9, y10⟩, hy9, h⟩ := bind_out h
            refine ⟨_, ⟨_, _, _, _, hy9, rfl, rfl⟩, ?_⟩
            show Tri _ _ _ _
            refine tri_ret ?_
            obtain ⟨hj1, hk1⟩ := Prod.mk.inj (Option.some.inj h)
            subst hj1
            subst hk1
            unfold Gives
            exact ⟨_, Le.refl _ _, rfl, rfl⟩
          · replace h := bif_f hb h
            refine tri_skip ?_
            show Tri _ _ _ _
            refine tri_seq ?_
            refine tri_region (by exact tokW) (by exact gok) [] [] rfl ?_
            obtain ⟨⟨y11, y12⟩, hy11, h⟩ := bind_out h
            refine ⟨_, ⟨_, _, _, _, hy11, rfl, rfl⟩, ?_⟩
            show Tri _ _ _ _
            refine tri_ret ?_
            obtain ⟨hj1, hk1⟩ := Prod.mk.inj (Option.some.inj h)
            subst hj1
            subst hk1
            unfold Gives
            exact ⟨_, Le.refl _ _, rfl, rfl⟩
def R_edit_Apply (n : Nat) (xs : List AV) (r : Ret) : Prop := ∃ (a0 : Nd) (a1 : (Int × List Int × Int × Int × List Nd × Int × List UInt8 × List UInt8)) (y0 : Nd) (y1 : Int), m_edit_Apply n a0 a1 = some (y0, y1) ∧ xs = [.agg ((Nd.enc a0).map .s), .agg ((enc_api_Op a1).map .s)] ∧ r = .val (.tup [.agg ((Nd.enc y0).map .s), .s (.int .i64 y1)])
def S_edit_Apply : PSpec := pspec fun xs r => ∃ n, R_edit_Apply n xs r
set_option maxHeartbeats 2000000 in
set_option maxRecDepth 100000 in
theorem ok_edit_Apply : PSound Try.prog 13 S_edit_Apply := by
  have gok : ∀ f s, look? f [(35, S_node_Valid), (21, S_edit_Formed), (36, S_node_Row), (37, S_edit_change_apply), (38, S_node_With)] = some s → PSound Try.prog f s := look_all (by
    simp only [List.forall_mem_cons]
    exact ⟨ok_node_Valid, ok_edit_Formed, ok_node_Row, ok_edit_change_apply, ok_node_With, by simp⟩)
  refine psound tokW Try.call13 Try.func13 rfl (fun xs r h => by obtain ⟨n, _, _, _, _, _, rfl, _⟩ := h; show 2 ≤ 53; decide) 53 rfl ?_
  rintro xs r w0 G0 ⟨n, ⟨n1_kind, n1_text, n1_cols, n1_kids⟩, ⟨op2_kind, op2_row, op2_at, op2_n, op2_nodes, op2_slot, op2_old, op2_text⟩, y0, y1, h, rfl, rfl⟩ _
  rw [m_edit_Apply] at h
  refine tri_seq ?_
  refine tri_region (by exact tokW) (by exact gok) [4] [] rfl ?_
  show Tri _ _ _ _
  refine tri_seq ?_
  refine tri_seq ?_
  refine tri_region (by exact tokW) (by exact gok) [] [] rfl ?_
  obtain ⟨y3, hy3, h⟩ := bind_out h
  refine ⟨_, ⟨_, _, _, hy3, rfl, rfl⟩, ?_⟩
  show Tri _ _ _ _
  refine tri_cond rfl (fun hb => ?_) (fun hb => ?_)
  · replace h := bif_t hb h
    refine tri_seq ?_
    refine tri_region (by exact tokW) (by exact gok) [] [] rfl ?_
    show Tri _ _ _ _
    refine tri_ret ?_
    obtain ⟨hj1, hk1⟩ := Prod.mk.inj (Option.some.inj h)
    subst hj1
    subst hk1
    unfold Gives
    exact ⟨_, Le.refl _ _, rfl, rfl⟩
  · replace h := bif_f hb h
    refine tri_skip ?_
    show Tri _ _ _ _
    refine tri_seq ?_
    refine tri_seq ?_
    refine tri_region (by exact tokW) (by exact gok) [] [] rfl ?_
    obtain ⟨y4, hy4, h⟩ := bind_out h
    refine ⟨_, ⟨_, _, _, hy4, rfl, rfl⟩, ?_⟩
    show Tri _ _ _ _
    refine tri_cond rfl (fun hb => ?_) (fun hb => ?_)
    · replace h := bif_t hb h
      refine tri_seq ?_
      refine tri_region (by exact tokW) (by exact gok) [] [] rfl ?_
      show Tri _ _ _ _
      refine tri_ret ?_
      obtain ⟨hj1, hk1⟩ := Prod.mk.inj (Option.some.inj h)
      subst hj1
      subst hk1
      unfold Gives
      exact ⟨_, Le.refl _ _, rfl, rfl⟩
    · replace h := bif_f hb h
      refine tri_skip ?_
      show Tri _ _ _ _
      refine tri_seq ?_
      refine tri_region (by exact tokW) (by exact gok) [6] [] rfl ?_
      obtain ⟨⟨⟨y5_kind, y5_text, y5_cols, y5_kids⟩, y6⟩, hy5, h⟩ := bind_out h
      refine ⟨_, ⟨_, _, _, _, _, hy5, rfl, rfl⟩, ?_⟩
      show Tri _ _ _ _
      refine tri_seq ?_
      refine tri_seq ?_
      refine tri_region (by exact tokW) (by exact gok) [] [] rfl ?_
      show Tri _ _ _ _
      refine tri_cond rfl (fun hb => ?_) (fun hb => ?_)
      · replace h := bif_t hb h
        refine tri_seq ?_
        refine tri_region (by exact tokW) (by exact gok) [] [] rfl ?_
        show Tri _ _ _ _
        refine tri_ret ?_
        obtain ⟨hj1, hk1⟩ := Prod.mk.inj (Option.some.inj h)
        subst hj1
        subst hk1
        unfold Gives
        exact ⟨_, Le.refl _ _, rfl, rfl⟩
      · replace h := bif_f hb h
        refine tri_skip ?_
        show Tri _ _ _ _
        refine tri_seq ?_
        refine tri_region (by exact tokW) (by exact gok) [] [] rfl ?_
        obtain ⟨⟨y7, y8⟩, hy7, h⟩ := bind_out h
        refine ⟨_, ⟨_, _, _, _, hy7, rfl, rfl⟩, ?_⟩
        show Tri _ _ _ _
        refine tri_seq ?_
        refine tri_seq ?_
        refine tri_region (by exact tokW) (by exact gok) [] [] rfl ?_
        show Tri _ _ _ _
        refine tri_cond rfl (fun hb => ?_) (fun hb => ?_)
        · replace h := bif_t hb h
          refine tri_seq ?_
          refine tri_region (by exact tokW) (by exact gok) [] [] rfl ?_
          show Tri _ _ _ _
          refine tri_ret ?_
          obtain ⟨hj1, hk1⟩ := Prod.mk.inj (Option.some.inj h)
          subst hj1
          subst hk1
          unfold Gives
          exact ⟨_, Le.refl _ _, rfl, rfl⟩
        · replace h := bif_f hb h
          refine tri_skip ?_
          show Tri _ _ _ _
          refine tri_seq ?_
          refine tri_region (by exact tokW) (by exact gok) [8] [] rfl ?_
          obtain ⟨⟨⟨y9_kind, y9_text, y9_cols, y9_kids⟩, y10⟩, hy9, h⟩ := bind_out h
          refine ⟨_, ⟨_, _, _, _, _, _, hy9, rfl, rfl⟩, ?_⟩
          show Tri _ _ _ _
          refine tri_le (Le.giveBox 2 [.int .i64 y9_kind, .str y9_text, .int .i64 y9_cols, .sl 4 (Nd.encs y9_kids)] rfl rfl) ?_
          refine tri_seq ?_
          refine tri_seq ?_
          refine tri_region (by exact tokW) (by exact gok) [] [] rfl ?_
          show Tri _ _ _ _
          refine tri_cond rfl (fun hb => ?_) (fun hb => ?_)
          · replace h := bif_t hb h
            refine tri_seq ?_
            refine tri_region (by exact tokW) (by exact gok) [] [] rfl ?_
            show Tri _ _ _ _
            refine tri_ret ?_
            obtain ⟨hj1, hk1⟩ := Prod.mk.inj (Option.some.inj h)
            subst hj1
            subst hk1
            unfold Gives
            exact ⟨_, Le.refl _ _, rfl, rfl⟩
          · replace h := bif_f hb h
            refine tri_skip ?_
            show Tri _ _ _ _
            refine tri_seq ?_
            refine tri_region (by exact tokW) (by exact gok) [] [] rfl ?_
            show Tri _ _ _ _
            refine tri_ret ?_
            obtain ⟨hj1, hk1⟩ := Prod.mk.inj (Option.some.inj h)
            subst hj1
            subst hk1
            unfold Gives
            exact ⟨_, Le.refl _ _, rfl, rfl⟩
def R_edit_Check (n : Nat) (xs : List AV) (r : Ret) : Prop := ∃ (a0 : Nd) (a1 : (Int × List Int × Int × Int × List Nd × Int × List UInt8 × List UInt8)) (y0 : Int), m_edit_Check n a0 a1 = some y0 ∧ xs = [.agg ((Nd.enc a0).map .s), .agg ((enc_api_Op a1).map .s)] ∧ r = .val (.s (.int .i64 y0))
def S_edit_Check : PSpec := pspec fun xs r => ∃ n, R_edit_Check n xs r
set_option maxHeartbeats 2000000 in
set_option maxRecDepth 100000 in
theorem ok_edit_Check : PSound Try.prog 20 S_edit_Check := by
  have gok : ∀ f s, look? f [(13, S_edit_Apply)] = some s → PSound Try.prog f s := look_all (by
    simp only [List.forall_mem_cons]
    exact ⟨ok_edit_Apply, by simp⟩)
  refine psound tokW Try.call20 Try.func20 rfl (fun xs r h => by obtain ⟨n, _, _, _, _, rfl, _⟩ := h; show 2 ≤ 14; decide) 14 rfl ?_
  rintro xs r w0 G0 ⟨n, ⟨n1_kind, n1_text, n1_cols, n1_kids⟩, ⟨op2_kind, op2_row, op2_at, op2_n, op2_nodes, op2_slot, op2_old, op2_text⟩, y0, h, rfl, rfl⟩ _
  rw [m_edit_Check] at h
  refine tri_seq ?_
  refine tri_region (by exact tokW) (by exact gok) [] [] rfl ?_
  show Tri _ _ _ _
  refine tri_seq ?_
  refine tri_region (by exact tokW) (by exact gok) [5] [] rfl ?_
  obtain ⟨⟨⟨y3_kind, y3_text, y3_cols, y3_kids⟩, y4⟩, hy3, h⟩ := bind_out h
  refine ⟨_, ⟨_, _, _, _, _, hy3, rfl, rfl⟩, ?_⟩
  show Tri _ _ _ _
  refine tri_le (Le.giveBox 0 [.int .i64 y3_kind, .str y3_text, .int .i64 y3_cols, .sl 4 (Nd.encs y3_kids)] rfl rfl) ?_
  refine tri_seq ?_
  refine tri_region (by exact tokW) (by exact gok) [] [] rfl ?_
  show Tri _ _ _ _
  refine tri_ret ?_
  have hy := Option.some.inj h
  subst hy
  unfold Gives
  exact ⟨_, Le.refl _ _, rfl, rfl⟩
def R_edit_ApplyAll (n : Nat) (xs : List AV) (r : Ret) : Prop := ∃ (a0 : Nd) (a1 : List (Int × List Int × Int × Int × List Nd × Int × List UInt8 × List UInt8)) (y0 : Nd) (y1 : Int) (y2 : Int), m_edit_ApplyAll n a0 a1 = some (y0, y1, y2) ∧ xs = [.agg ((Nd.enc a0).map .s), .s (.sl 8 ((List.map enc_api_Op) a1))] ∧ r = .val (.tup [.agg ((Nd.enc y0).map .s), .s (.int .i64 y1), .s (.int .i64 y2)])
def S_edit_ApplyAll : PSpec := pspec fun xs r => ∃ n, R_edit_ApplyAll n xs r
set_option maxHeartbeats 2000000 in
set_option maxRecDepth 100000 in
theorem ok_edit_ApplyAll : PSound Try.prog 23 S_edit_ApplyAll := by
  have gok : ∀ f s, look? f [(35, S_node_Valid), (49, S_deep_Node), (13, S_edit_Apply)] = some s → PSound Try.prog f s := look_all (by
    simp only [List.forall_mem_cons]
    exact ⟨ok_node_Valid, ok_deep_Node, ok_edit_Apply, by simp⟩)
  refine psound tokW Try.call23 Try.func23 rfl (fun xs r h => by obtain ⟨n, _, _, _, _, _, _, rfl, _⟩ := h; show 2 ≤ 39; decide) 39 rfl ?_
  rintro xs r w0 G0 ⟨n, ⟨n1_kind, n1_text, n1_cols, n1_kids⟩, ops2, y0, y1, y2, h, rfl, rfl⟩ _
  rw [m_edit_ApplyAll] at h
  refine tri_seq ?_
  refine tri_region (by exact tokW) (by exact gok) [4] [] rfl ?_
  show Tri _ _ _ _
  refine tri_seq ?_
  refine tri_seq ?_
  refine tri_region (by exact tokW) (by exact gok) [] [] rfl ?_
  obtain ⟨y3, hy3, h⟩ := bind_out h
  refine ⟨_, ⟨_, _, _, hy3, rfl, rfl⟩, ?_⟩
  show Tri _ _ _ _
  refine tri_cond rfl (fun hb => ?_) (fun hb => ?_)
  · replace h := bif_t hb h
    refine tri_seq ?_
    refine tri_region (by exact tokW) (by exact gok) [] [] rfl ?_
    show Tri _ _ _ _
    refine tri_ret ?_
    obtain ⟨hj1, hk1⟩ := Prod.mk.inj (Option.some.inj h)
    subst hj1
    obtain ⟨hj2, hk2⟩ := Prod.mk.inj hk1
    subst hj2
    subst hk2
    unfold Gives
    exact ⟨_, Le.refl _ _, rfl, rfl⟩
  · replace h := bif_f hb h
    refine tri_skip ?_
    show Tri _ _ _ _
    refine tri_seq ?_
    refine tri_region (by exact tokW) (by exact gok) [7] [] rfl ?_
    obtain ⟨⟨y4_kind, y4_text, y4_cols, y4_kids⟩, hy4, h⟩ := bind_out h
    refine ⟨_, ⟨_, _, hy4, rfl, rfl⟩, ?_⟩
    show Tri _ _ _ _
    refine tri_seq ?_
    refine tri_seq ?_
    refine tri_region (by exact tokW) (by exact gok) [] [19] rfl ?_
    intro n5 hn5
    obtain rfl : (ops2.length : Int) = n5 := (hn5.trans (congrArg (fun m : Nat => (m : Int)) (rlen (fun _ => rfl) ops2))).symm
    show Tri _ _ _ _
    obtain ⟨fl, hl, ho1⟩ := bind_out h
    refine tri_fl (fl := fl) (fun z => match z with | ⟨x12, x13, x14, x15⟩ => ⟨ofL [(4, .op 0 0), (7, .op 1 0)], ofH [(0, .box 24 [.s (.int .i64 0), .s (.str []), .s (.int .i64 0), .nl 4]), (1, .box 24 [.s (.int .i64 x12), .s (.str x13), .s (.int .i64 x14), .s (.sl 4 (Nd.encs x15))])], 2⟩) ?_ (fun z σ' hz hle => ?_)
    · refine tri_block (tri_loopI (X := Nat × Int × (List UInt8) × Int × (List Nd) × Int) (fun y => match y with | (k, x7, x8, x9, x10, x11) => ⟨ofL [(4, .op 0 0), (7, .op 1 0), (18, .s (.sl 8 ((List.map enc_api_Op) ops2))), (19, .s (.int .i64 (ops2.length : Int))), (20, .s (.int .i64 x11))], ofH [(0, .box 24 [.s (.int .i64 0), .s (.str []), .s (.int .i64 0), .nl 4]), (1, .box 24 [.s (.int .i64 x7), .s (.str x8), .s (.int .i64 x9), .s (.sl 4 (Nd.encs x10))])], 2⟩) (fun y => m_edit_ApplyAll_l1 n ops2 y.1 y.2.1 y.2.2.1 y.2.2.2.1 y.2.2.2.2.1 y.2.2.2.2.2 = some fl) (fun y => y.1) (n, y4_kind, y4_text, y4_cols, y4_kids, 0) hl ?_ ?_)
      · exact (Le.rename [(0, 0), (1, 1)] _ _ _ ⟨rfl, rfl, rfl, rfl, rfl, trivial⟩ ⟨rfl, ⟨_, rfl, rfl⟩, rfl, ⟨_, rfl, rfl⟩, trivial⟩ rfl rfl rfl rfl rfl)
      · rintro ⟨k, x7, x8, x9, x10, x11⟩ h
        cases k with
        | zero => cases h
        | succ k =>
          replace h : m_edit_ApplyAll_l1 n ops2 (k+1) x7 x8 x9 x10 x11 = some fl := h
          rw [m_edit_ApplyAll_l1] at h
          refine tri_seq ?_
          refine tri_region (by exact tokW) (by exact gok) [] [] rfl ?_
          show Tri _ _ _ _
          refine tri_seq ?_
          refine tri_cond rfl (fun hb => ?_) (fun hb => ?_)
          · replace h := bif_t hb h
            refine tri_skip ?_
            show Tri _ _ _ _
            refine tri_seq ?_
            refine tri_block ?_
            refine tri_seq ?_
            refine tri_region (by exact tokW) (by exact gok) [9] [23] rfl ?_
            obtain ⟨⟨e16_kind, e16_row, e16_at, e16_n, e16_nodes, e16_slot, e16_old, e16_text⟩, he16, h⟩ := bind_out h
            refine And.intro (at_ok (fun _ => rfl) he16).1 ?_
            intro r17 hr17
            obtain rfl : [.int .i64 e16_kind, .sl 1 ((List.map (irow .i64)) e16_row), .int .i64 e16_at, .int .i64 e16_n, .sl 4 (Nd.encs e16_nodes), .int .i64 e16_slot, .str e16_old, .str e16_text] = r17 := (hr17.trans (at_ok (fun _ => rfl) he16).2.1).symm
            show Tri _ _ _ _
            refine tri_le (Le.giveBox 2 [.int .i64 e16_kind, .sl 1 ((List.map (irow .i64)) e16_row), .int .i64 e16_at, .int .i64 e16_n, .sl 4 (Nd.encs e16_nodes), .int .i64 e16_slot, .str e16_old, .str e16_text] rfl rfl) ?_
            refine tri_seq ?_
            refine tri_region (by exact tokW) (by exact gok) [10] [] rfl ?_
            obtain ⟨⟨⟨y18_kind, y18_text, y18_cols, y18_kids⟩, y19⟩, hy18, h⟩ := bind_out h
            refine ⟨_, ⟨_, _, _, _, _, hy18, rfl, rfl⟩, ?_⟩
            show Tri _ _ _ _
            refine tri_le (Le.giveBox 3 [.int .i64 y18_kind, .str y18_text, .int .i64 y18_cols, .sl 4 (Nd.encs y18_kids)] rfl rfl) ?_
            refine tri_seq ?_
            refine tri_seq ?_
            refine tri_region (by exact tokW) (by exact gok) [] [] rfl ?_
            show Tri _ _ _ _
            refine tri_cond rfl (fun hb => ?_) (fun hb => ?_)
            · replace h := bif_t hb h
              refine tri_seq ?_
              refine tri_region (by exact tokW) (by exact gok) [] [] rfl ?_
              show Tri _ _ _ _
              refine tri_ret ?_
              cases h
              replace h : some _ = some _ := ho1
              obtain ⟨hj1, hk1⟩ := Prod.mk.inj (Option.some.inj h)
              subst hj1
              obtain ⟨hj2, hk2⟩ := Prod.mk.inj hk1
              subst hj2
              subst hk2
              unfold Gives
              exact ⟨_, Le.refl _ _, rfl, rfl⟩
            · replace h := bif_f hb h
              refine tri_skip ?_
              show Tri _ _ _ _
              refine tri_region (by exact tokW) (by exact gok) [] [] rfl ?_
              show Tri _ _ _ _
              refine tri_region (by exact tokW) (by exact gok) [] [] rfl ?_
              refine ⟨(k, y18_kind, y18_text, y18_cols, y18_kids, IntKind.i64.wrap (x11 + 1)), h, (Le.rename [(0, 0), (1, 1)] _ _ _ ⟨rfl, rfl, rfl, rfl, rfl, trivial⟩ ⟨rfl, ⟨_, rfl, rfl⟩, rfl, ⟨_, rfl, rfl⟩, trivial⟩ rfl rfl rfl rfl rfl), Nat.lt_succ_self k⟩
          · replace h := bif_f hb h
            refine tri_exit ?_
            cases h
            exact ⟨_, rfl, (Le.rename [(0, 0), (1, 1)] _ _ _ ⟨rfl, rfl, trivial⟩ ⟨rfl, ⟨_, rfl, rfl⟩, rfl, ⟨_, rfl, rfl⟩, trivial⟩ rfl rfl rfl rfl rfl)⟩
    · subst hz
      obtain ⟨x12, x13, x14, x15⟩ := z
      replace h := ho1
      show Tri _ _ _ _
      refine tri_le hle ?_
      refine tri_seq ?_
      refine tri_region (by exact tokW) (by exact gok) [] [] rfl ?_
      show Tri _ _ _ _
      refine tri_ret ?_
      obtain ⟨hj1, hk1⟩ := Prod.mk.inj (Option.some.inj h)
      subst hj1
      obtain ⟨hj2, hk2⟩ := Prod.mk.inj hk1
      subst hj2
      subst hk2
      unfold Gives
      exact ⟨_, Le.refl _ _, rfl, rfl⟩
def R_edit_Invert (n : Nat) (xs : List AV) (r : Ret) : Prop := ∃ (a0 : (Int × List Int × Int × Int × List Nd × Int × List UInt8 × List UInt8)) (y0 : (Int × List Int × Int × Int × List Nd × Int × List UInt8 × List UInt8)), m_edit_Invert n a0 = some y0 ∧ xs = [.agg ((enc_api_Op a0).map .s)] ∧ r = .val (.agg ((enc_api_Op y0).map .s))
def S_edit_Invert : PSpec := pspec fun xs r => ∃ n, R_edit_Invert n xs r
set_option maxHeartbeats 2000000 in
set_option maxRecDepth 100000 in
theorem ok_edit_Invert : PSound Try.prog 25 S_edit_Invert := by
  have gok : ∀ f s, look? f [(50, S_deep_Op)] = some s → PSound Try.prog f s := look_all (by
    simp only [List.forall_mem_cons]
    exact ⟨ok_deep_Op, by simp⟩)
  refine psound tokW Try.call25 Try.func25 rfl (fun xs r h => by obtain ⟨n, _, _, _, rfl, _⟩ := h; show 1 ≤ 29; decide) 29 rfl ?_
  rintro xs r w0 G0 ⟨n, ⟨op1_kind, op1_row, op1_at, op1_n, op1_nodes, op1_slot, op1_old, op1_text⟩, y0, h, rfl, rfl⟩ _
  rw [m_edit_Invert] at h
  refine tri_seq ?_
  refine tri_region (by exact tokW) (by exact gok) [2] [] rfl ?_
  show Tri _ _ _ _
  refine tri_seq ?_
  refine tri_region (by exact tokW) (by exact gok) [3] [] rfl ?_
  obtain ⟨⟨y2_kind, y2_row, y2_at, y2_n, y2_nodes, y2_slot, y2_old, y2_text⟩, hy2, h⟩ := bind_out h
  refine ⟨_, ⟨_, _, _, hy2, rfl, rfl⟩, ?_⟩
  show Tri _ _ _ _
  refine tri_seq ?_
  refine tri_seq ?_
  refine tri_region (by exact tokW) (by exact gok) [] [] rfl ?_
  show Tri _ _ _ _
  obtain ⟨⟨x3, x4, x5⟩, hj, h⟩ := bind_out h
  refine tri_post ⟨ofL [(2, .op 0 0), (3, .op 1 0)], ofH [(0, .box 27 [.s (.int .i64 0), .nl 1, .s (.int .i64 0), .s (.int .i64 0), .nl 4, .s (.int .i64 0), .s (.str []), .s (.str [])]), (1, .box 27 [.s (.int .i64 x3), .s (.sl 1 ((List.map (irow .i64)) y2_row)), .s (.int .i64 y2_at), .s (.int .i64 y2_n), .s (.sl 4 (Nd.encs y2_nodes)), .s (.int .i64 y2_slot), .s (.str x4), .s (.str x5)])], 2⟩ ?_ (fun σ' hle => ?_)
  · replace h := hj
    refine tri_block ?_
    refine tri_seq ?_
    refine tri_region (by exact tokW) (by exact gok) [] [] rfl ?_
    show Tri _ _ _ _
    refine tri_cond rfl (fun hb => ?_) (fun hb => ?_)
    · replace h := bif_t hb h
      refine tri_region (by exact tokW) (by exact gok) [] [] rfl ?_
      cases h
      exact (Le.rename [(0, 0), (1, 1)] _ _ _ ⟨rfl, rfl, trivial⟩ ⟨rfl, ⟨_, rfl, rfl⟩, rfl, ⟨_, rfl, rfl⟩, trivial⟩ rfl rfl rfl rfl rfl)
    · replace h := bif_f hb h
      refine tri_seq ?_
      refine tri_region (by exact tokW) (by exact gok) [] [] rfl ?_
      show Tri _ _ _ _
      refine tri_cond rfl (fun hb => ?_) (fun hb => ?_)
      · replace h := bif_t hb h
        refine tri_region (by exact tokW) (by exact gok) [] [] rfl ?_
        cases h
        exact (Le.rename [(0, 0), (1, 1)] _ _ _ ⟨rfl, rfl, trivial⟩ ⟨rfl, ⟨_, rfl, rfl⟩, rfl, ⟨_, rfl, rfl⟩, trivial⟩ rfl rfl rfl rfl rfl)
      · replace h := bif_f hb h
        refine tri_seq ?_
        refine tri_region (by exact tokW) (by exact gok) [] [] rfl ?_
        show Tri _ _ _ _
        refine tri_cond rfl (fun hb => ?_) (fun hb => ?_)
        · replace h := bif_t hb h
          refine tri_region (by exact tokW) (by exact gok) [] [] rfl ?_
          cases h
          exact (Le.rename [(0, 0), (1, 1)] _ _ _ ⟨rfl, rfl, trivial⟩ ⟨rfl, ⟨_, rfl, rfl⟩, rfl, ⟨_, rfl, rfl⟩, trivial⟩ rfl rfl rfl rfl rfl)
        · replace h := bif_f hb h
          refine tri_seq ?_
          refine tri_region (by exact tokW) (by exact gok) [] [] rfl ?_
          show Tri _ _ _ _
          refine tri_cond rfl (fun hb => ?_) (fun hb => ?_)
          · replace h := bif_t hb h
            refine tri_region (by exact tokW) (by exact gok) [] [] rfl ?_
            cases h
            exact (Le.rename [(0, 0), (1, 1)] _ _ _ ⟨rfl, rfl, trivial⟩ ⟨rfl, ⟨_, rfl, rfl⟩, rfl, ⟨_, rfl, rfl⟩, trivial⟩ rfl rfl rfl rfl rfl)
          · replace h := bif_f hb h
            refine tri_seq ?_
            refine tri_region (by exact tokW) (by exact gok) [] [] rfl ?_
            show Tri _ _ _ _
            refine tri_cond rfl (fun hb => ?_) (fun hb => ?_)
            · replace h := bif_t hb h
              refine tri_drawn (by exact tokW) (by exact gok) (by exact mixed) [] [] [5, 7] rfl (by decide +kernel) ?_
              cases h
              exact (Le.rename [(0, 0), (1, 1)] _ _ _ ⟨rfl, rfl, trivial⟩ ⟨rfl, ⟨_, rfl, rfl⟩, rfl, ⟨_, rfl, rfl⟩, trivial⟩ rfl rfl rfl rfl rfl)
            · replace h := bif_f hb h
              refine tri_skip ?_
              cases h
              exact (Le.rename [(0, 0), (1, 1)] _ _ _ ⟨rfl, rfl, trivial⟩ ⟨rfl, ⟨_, rfl, rfl⟩, rfl, ⟨_, rfl, rfl⟩, trivial⟩ rfl rfl rfl rfl rfl)
  · show Tri _ _ _ _
    refine tri_le hle ?_
    refine tri_seq ?_
    refine tri_region (by exact tokW) (by exact gok) [] [] rfl ?_
    show Tri _ _ _ _
    refine tri_ret ?_
    have hy := Option.some.inj h
    subst hy
    unfold Gives
    exact ⟨_, Le.refl _ _, rfl, rfl⟩
end Go.Proofs.Ytfbggpmdmhgpfaa
