/-
  MODELS of functions, printed by gw.py.
-/
import Derived.Test.YtefbmooajknmgaaDoorMCnt
set_option linter.unusedVariables false
namespace Go.Proofs.YtefbmooajknmgaaDoor
open Go.Abs

/- vinculum/vinculumref09.Item -/
def m_r09_Item (n : Nat) : Nd → (List Int) → Int → Option (Nd × Int)
| ⟨n1_kind, n1_text, n1_cols, n1_kids⟩, path2, i3 =>
  (m_r09_Row n (Nd.mk n1_kind n1_text n1_cols n1_kids) path2).bind fun ⟨⟨y4_kind, y4_text, y4_cols, y4_kids⟩, y5⟩ =>
  bif (y5 != 0) then (
    some (Nd.mk 0 [] 0 [], y5)
  ) else (
    (
      bif decide (i3 < 0) then (
        some true
      ) else (
        some (decide ((y4_kids.length : Int) ≤ i3))
      )
     : Option (Bool)).bind fun x6 =>
    bif x6 then (
      some (Nd.mk 0 [] 0 [], 2)
    ) else (
      (at? y4_kids i3).bind fun ⟨e8_kind, e8_text, e8_cols, e8_kids⟩ =>
      some (Nd.mk e8_kind e8_text e8_cols e8_kids, 0)
    )
  )

/- vinculum/vinculumlaw09.NodeRow -/
def m_l09_NodeRow (n : Nat) : Nd → (List Int) → Int → Option Bool
| ⟨a1_kind, a1_text, a1_cols, a1_kids⟩, a2, a3 =>
  (
    (m_l09_awake n ).bind fun y5 =>
    bif (!y5) then (
      some true
    ) else (
      (m_l09_few n (Nd.mk a1_kind a1_text a1_cols a1_kids)).bind fun y6 =>
      bif (!y6) then (
        some true
      ) else (
        some (decide (60 < (a2.length : Int)))
      )
    )
   : Option (Bool)).bind fun x4 =>
  bif x4 then (
    (m_l09_awake n ).bind fun y8 =>
    some y8
  ) else (
    (m_node_Row n (Nd.mk a1_kind a1_text a1_cols a1_kids) a2).bind fun ⟨⟨y9_kind, y9_text, y9_cols, y9_kids⟩, y10⟩ =>
    (m_r09_Row n (Nd.mk a1_kind a1_text a1_cols a1_kids) a2).bind fun ⟨⟨y11_kind, y11_text, y11_cols, y11_kids⟩, y12⟩ =>
    (m_node_Item n (Nd.mk a1_kind a1_text a1_cols a1_kids) a2 a3).bind fun ⟨⟨y13_kind, y13_text, y13_cols, y13_kids⟩, y14⟩ =>
    (m_r09_Item n (Nd.mk a1_kind a1_text a1_cols a1_kids) a2 a3).bind fun ⟨⟨y15_kind, y15_text, y15_cols, y15_kids⟩, y16⟩ =>
    (
      bif (y10 == y12) then (
        bif (y14 == y16) then (
          (m_r09_Equal n (Nd.mk y9_kind y9_text y9_cols y9_kids) (Nd.mk y11_kind y11_text y11_cols y11_kids)).bind fun y18 =>
          bif y18 then (
            (m_r09_Equal n (Nd.mk y13_kind y13_text y13_cols y13_kids) (Nd.mk y15_kind y15_text y15_cols y15_kids)).bind fun y19 =>
            some y19
          ) else (
            some false
          )
        ) else (
          some false
        )
      ) else (
        some false
      )
     : Option (Bool)).bind fun x17 =>
    some x17
  )
end Go.Proofs.YtefbmooajknmgaaDoor
