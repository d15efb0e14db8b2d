/-
  MODELS of functions, printed by gw.py.
-/
import Derived.Test.YtefbmooajknmgaaDoorMLib
set_option linter.unusedVariables false
namespace Go.Proofs.YtefbmooajknmgaaDoor
open Go.Abs

/- vinculum/node.empty -/
def m_node_empty : (List UInt8) → Option Bool
| s1 =>
  some (s1 == [])

/- vinculum/node.letters -/
def m_node_letters_l1 (s1 : List UInt8) : Nat → Int → Option (Fl Bool Unit)
| 0, _ => none
| k+1, i2 =>
  bif decide (i2 < (s1.length : Int)) then (
    (at? s1 i2).bind fun c3 =>
    (
      bif decide ((bitOp .or .u8 (c3.toNat : Int) 32) < 97) then (
        some true
      ) else (
        some (decide (122 < (bitOp .or .u8 (c3.toNat : Int) 32)))
      )
     : Option (Bool)).bind fun x5 =>
    bif x5 then (
      some (.ret false)
    ) else (
      m_node_letters_l1 s1 k (IntKind.i64.wrap (i2 + 1))
    )
  ) else (
    some (.go ())
  )
def m_node_letters (n : Nat) : (List UInt8) → Option Bool
| s1 =>
  (m_node_letters_l1 s1 n 0).bind fun fl => match fl with
  | .ret r => some r
  | .go _ =>
    some true

/- vinculum/node.keyword -/
def m_node_keyword : (List UInt8) → Option Bool
| s1 =>
  (
    (
      bif (s1 == [102, 114, 97, 99]) then (
        some (s1 == [102, 114, 97, 99])
      ) else (
        bif (s1 == [114, 111, 111, 116]) then (
          some (s1 == [114, 111, 111, 116])
        ) else (
          bif (s1 == [109, 97, 116, 114, 105, 120]) then (
            some (s1 == [109, 97, 116, 114, 105, 120])
          ) else (
            some (s1 == [102, 101, 110, 99, 101])
          )
        )
      )
     : Option (Bool)).bind fun x2 =>
    bif x2 then (
      some (.ret true)
    ) else (
      some (.go ())
    )
   : Option (Fl Bool Unit)).bind fun fl => match fl with
  | .ret r => some r
  | .go _ =>
    some false

/- vinculum/node.accent -/
def m_node_accent : (List UInt8) → Option Bool
| s1 =>
  (
    (
      bif (s1 == [104, 97, 116]) then (
        some (s1 == [104, 97, 116])
      ) else (
        bif (s1 == [98, 97, 114]) then (
          some (s1 == [98, 97, 114])
        ) else (
          bif (s1 == [118, 101, 99]) then (
            some (s1 == [118, 101, 99])
          ) else (
            bif (s1 == [100, 111, 116]) then (
              some (s1 == [100, 111, 116])
            ) else (
              bif (s1 == [116, 105, 108, 100, 101]) then (
                some (s1 == [116, 105, 108, 100, 101])
              ) else (
                some (s1 == [99, 104, 101, 99, 107])
              )
            )
          )
        )
      )
     : Option (Bool)).bind fun x2 =>
    bif x2 then (
      some (.ret true)
    ) else (
      some (.go ())
    )
   : Option (Fl Bool Unit)).bind fun fl => match fl with
  | .ret r => some r
  | .go _ =>
    some false

/- vinculum/node.Symbol -/
def m_node_Symbol (n : Nat) : (List UInt8) → Option Bool
| s1 =>
  bif ((s1.length : Int) == 1) then (
    (
      (m_node_letters n s1).bind fun y3 =>
      bif y3 then (
        some true
      ) else (
        (m_strings_Contains [43, 45, 42, 47, 61, 60, 62, 44, 59, 58, 33, 124, 39, 63, 126, 64] s1).bind fun y4 =>
        some y4
      )
     : Option (Bool)).bind fun x2 =>
    some x2
  ) else (
    (
      bif decide (2 ≤ (s1.length : Int)) then (
        bif decide ((s1.length : Int) ≤ 16) then (
          (m_node_letters n s1).bind fun y6 =>
          bif y6 then (
            (m_node_keyword s1).bind fun y7 =>
            bif (!y7) then (
              (m_node_accent s1).bind fun y8 =>
              some (!y8)
            ) else (
              some false
            )
          ) else (
            some false
          )
        ) else (
          some false
        )
      ) else (
        some false
      )
     : Option (Bool)).bind fun x5 =>
    some x5
  )

/- internal/stringslite.Cut -/
def m_stringslite_Cut : (List UInt8) → (List UInt8) → Option ((List UInt8) × (List UInt8) × Bool)
| s1, sep2 =>
  (m_stringslite_Index s1 sep2).bind fun y3 =>
  bif decide (0 ≤ y3) then (
    req (0 ≤ (0 : Int) ∧ (0 : Int) ≤ y3 ∧ y3 ≤ (s1.length : Int)) <|
    req (0 ≤ (IntKind.i64.wrap (y3 + (sep2.length : Int))) ∧ (IntKind.i64.wrap (y3 + (sep2.length : Int))) ≤ (s1.length : Int) ∧ (s1.length : Int) ≤ (s1.length : Int)) <|
    some ((s1.take y3.toNat).drop (0 : Int).toNat, (s1.take (s1.length : Int).toNat).drop (IntKind.i64.wrap (y3 + (sep2.length : Int))).toNat, true)
  ) else (
    some (s1, [], false)
  )

/- strings.Cut -/
def m_strings_Cut : (List UInt8) → (List UInt8) → Option ((List UInt8) × (List UInt8) × Bool)
| s1, sep2 =>
  (m_stringslite_Cut s1 sep2).bind fun ⟨y3, y4, y5⟩ =>
  some (y3, y4, y5)

/- vinculum/node.digits -/
def m_node_digits_l1 (s1 : List UInt8) : Nat → Int → Option (Fl Bool Unit)
| 0, _ => none
| k+1, i2 =>
  bif decide (i2 < (s1.length : Int)) then (
    (
      (at? s1 i2).bind fun c4 =>
      bif decide ((c4.toNat : Int) < 48) then (
        some true
      ) else (
        (at? s1 i2).bind fun c6 =>
        some (decide (57 < (c6.toNat : Int)))
      )
     : Option (Bool)).bind fun x3 =>
    bif x3 then (
      some (.ret false)
    ) else (
      m_node_digits_l1 s1 k (IntKind.i64.wrap (i2 + 1))
    )
  ) else (
    some (.go ())
  )
def m_node_digits (n : Nat) : (List UInt8) → Option Bool
| s1 =>
  (m_node_digits_l1 s1 n 0).bind fun fl => match fl with
  | .ret r => some r
  | .go _ =>
    some (!(s1 == []))

/- vinculum/node.Number -/
def m_node_Number (n : Nat) : (List UInt8) → Option Bool
| s1 =>
  (m_strings_Cut s1 [46]).bind fun ⟨y2, y3, y4⟩ =>
  (
    bif decide ((s1.length : Int) ≤ 20) then (
      (m_node_digits n y2).bind fun y6 =>
      bif y6 then (
        bif (!y4) then (
          some true
        ) else (
          (m_node_digits n y3).bind fun y7 =>
          some y7
        )
      ) else (
        some false
      )
    ) else (
      some false
    )
   : Option (Bool)).bind fun x5 =>
  some x5

/- vinculum/node.plain -/
def m_node_plain_l1 (s1 : List UInt8) : Nat → Int → Option (Fl Bool Unit)
| 0, _ => none
| k+1, i2 =>
  bif decide (i2 < (s1.length : Int)) then (
    (
      (at? s1 i2).bind fun c4 =>
      bif decide ((c4.toNat : Int) < 32) then (
        some true
      ) else (
        (at? s1 i2).bind fun c6 =>
        some (decide (126 < (c6.toNat : Int)))
      )
     : Option (Bool)).bind fun x3 =>
    bif x3 then (
      some (.ret false)
    ) else (
      m_node_plain_l1 s1 k (IntKind.i64.wrap (i2 + 1))
    )
  ) else (
    some (.go ())
  )
def m_node_plain (n : Nat) : (List UInt8) → Option Bool
| s1 =>
  (m_node_plain_l1 s1 n 0).bind fun fl => match fl with
  | .ret r => some r
  | .go _ =>
    some (decide ((s1.length : Int) ≤ 200))

/- vinculum/node.fence -/
def m_node_fence : (List UInt8) → Option Bool
| s1 =>
  (
    bif ((s1.length : Int) == 2) then (
      (at? s1 0).bind fun c3 =>
      (m_strings_IndexByte [40, 41, 91, 93, 123, 125, 60, 62, 47, 124, 46] (c3.toNat : Int)).bind fun y5 =>
      bif decide (0 ≤ y5) then (
        (at? s1 1).bind fun c6 =>
        (m_strings_IndexByte [40, 41, 91, 93, 123, 125, 60, 62, 47, 124, 46] (c6.toNat : Int)).bind fun y8 =>
        some (decide (0 ≤ y8))
      ) else (
        some false
      )
    ) else (
      some false
    )
   : Option (Bool)).bind fun x2 =>
  some x2

/- vinculum/node.kinds -/
def m_node_kinds : Option Unit
:=
  some ()

/- (*vinculum/node.checker).own -/
def m_node_checker_own (n : Nat) : (Unit × Int) → Nd → Option (Bool × (Unit × Int))
| ⟨_, o1_nodes⟩, ⟨a2_kind, a2_text, a2_cols, a2_kids⟩ =>
  (
    bif decide (a2_kind < 1) then (
      some true
    ) else (
      bif decide (12 < a2_kind) then (
        some true
      ) else (
        bif (a2_kind == 1) then (
          (m_node_empty a2_text).bind fun y4 =>
          some (!y4)
        ) else (
          bif (a2_kind == 2) then (
            (m_node_Symbol n a2_text).bind fun y5 =>
            some (!y5)
          ) else (
            bif (a2_kind == 3) then (
              (m_node_Number n a2_text).bind fun y6 =>
              some (!y6)
            ) else (
              bif (a2_kind == 4) then (
                (m_node_plain n a2_text).bind fun y7 =>
                some (!y7)
              ) else (
                bif (a2_kind == 5) then (
                  (m_node_empty a2_text).bind fun y8 =>
                  some (!y8)
                ) else (
                  bif (a2_kind == 6) then (
                    (m_node_empty a2_text).bind fun y9 =>
                    some (!y9)
                  ) else (
                    bif (a2_kind == 7) then (
                      (m_node_empty a2_text).bind fun y10 =>
                      some (!y10)
                    ) else (
                      bif (a2_kind == 8) then (
                        (m_node_empty a2_text).bind fun y11 =>
                        some (!y11)
                      ) else (
                        bif (a2_kind == 9) then (
                          (m_node_empty a2_text).bind fun y12 =>
                          some (!y12)
                        ) else (
                          bif (a2_kind == 10) then (
                            (m_node_accent a2_text).bind fun y13 =>
                            some (!y13)
                          ) else (
                            bif (a2_kind == 11) then (
                              (m_node_fence a2_text).bind fun y14 =>
                              some (!y14)
                            ) else (
                              bif (a2_kind == 12) then (
                                (m_node_empty a2_text).bind fun y15 =>
                                some (!y15)
                              ) else (
                                none
                              )
                            )
                          )
                        )
                      )
                    )
                  )
                )
              )
            )
          )
        )
      )
    )
   : Option (Bool)).bind fun x3 =>
  bif x3 then (
    some (false, ((), o1_nodes))
  ) else (
    bif (a2_kind == 1) then (
      (
        bif (a2_cols == 0) then (
          some (decide ((a2_kids.length : Int) ≤ 200))
        ) else (
          some false
        )
       : Option (Bool)).bind fun x16 =>
      some (x16, ((), o1_nodes))
    ) else (
      bif (a2_kind == 12) then (
        (
          bif decide (1 ≤ a2_cols) then (
            bif decide (a2_cols ≤ 16) then (
              bif decide (1 ≤ (a2_kids.length : Int)) then (
                bif decide ((a2_kids.length : Int) ≤ 256) then (
                  req (a2_cols ≠ 0) <|
                  some (((a2_kids.length : Int).tmod a2_cols) == 0)
                ) else (
                  some false
                )
              ) else (
                some false
              )
            ) else (
              some false
            )
          ) else (
            some false
          )
         : Option (Bool)).bind fun x18 =>
        some (x18, ((), o1_nodes))
      ) else (
        (
          bif (a2_cols == 0) then (
            bif (a2_kind == 1) then (
              some ((a2_kids.length : Int) == 0)
            ) else (
              bif (a2_kind == 2) then (
                some ((a2_kids.length : Int) == 0)
              ) else (
                bif (a2_kind == 3) then (
                  some ((a2_kids.length : Int) == 0)
                ) else (
                  bif (a2_kind == 4) then (
                    some ((a2_kids.length : Int) == 0)
                  ) else (
                    bif (a2_kind == 5) then (
                      some ((a2_kids.length : Int) == 2)
                    ) else (
                      bif (a2_kind == 6) then (
                        some ((a2_kids.length : Int) == 2)
                      ) else (
                        bif (a2_kind == 7) then (
                          some ((a2_kids.length : Int) == 2)
                        ) else (
                          bif (a2_kind == 8) then (
                            some ((a2_kids.length : Int) == 2)
                          ) else (
                            bif (a2_kind == 9) then (
                              some ((a2_kids.length : Int) == 3)
                            ) else (
                              bif (a2_kind == 10) then (
                                some ((a2_kids.length : Int) == 1)
                              ) else (
                                bif (a2_kind == 11) then (
                                  some ((a2_kids.length : Int) == 1)
                                ) else (
                                  bif (a2_kind == 12) then (
                                    some ((a2_kids.length : Int) == 0)
                                  ) else (
                                    none
                                  )
                                )
                              )
                            )
                          )
                        )
                      )
                    )
                  )
                )
              )
            )
          ) else (
            some false
          )
         : Option (Bool)).bind fun x22 =>
        some (x22, ((), o1_nodes))
      )
    )
  )

/- (*vinculum/node.checker).node -/
def m_node_checker_node_l1 (F_node_checker_node : (Unit × Int) → Nd → Int → Option (Bool × (Unit × Int))) (a2_kind : Int) (a2_kids : List Nd) (a3 : Int) : Nat → Int → Int → Option (Fl (Bool × (Unit × Int)) (Int))
| 0, _, _ => none
| k+1, x9, x10 =>
  bif decide (x10 < (a2_kids.length : Int)) then (
    (
      (at? a2_kids x10).bind fun ⟨e14_kind, e14_text, e14_cols, e14_kids⟩ =>
      bif ((a2_kind == 1) == (e14_kind == 1)) then (
        some (true, x9)
      ) else (
        (at? a2_kids x10).bind fun ⟨e16_kind, e16_text, e16_cols, e16_kids⟩ =>
        (F_node_checker_node ((), x9) (Nd.mk e16_kind e16_text e16_cols e16_kids) (IntKind.i64.wrap (a3 + 1))).bind fun ⟨y18, ⟨_, w19_nodes⟩⟩ =>
        some ((!y18), w19_nodes)
      )
     : Option (Bool × Int)).bind fun ⟨x12, x13⟩ =>
    bif x12 then (
      some (.ret (false, ((), x13)))
    ) else (
      m_node_checker_node_l1 F_node_checker_node a2_kind a2_kids a3 k x13 (IntKind.i64.wrap (x10 + 1))
    )
  ) else (
    some (.go x9)
  )
def m_node_checker_node : Nat → (Unit × Int) → Nd → Int → Option (Bool × (Unit × Int))
| 0, _, _, _ => none
| n+1, ⟨_, o1_nodes⟩, ⟨a2_kind, a2_text, a2_cols, a2_kids⟩, a3 =>
  (
    bif decide (1000 < (IntKind.i64.wrap (o1_nodes + 1))) then (
      some (true, IntKind.i64.wrap (o1_nodes + 1))
    ) else (
      bif decide (24 < a3) then (
        some (true, IntKind.i64.wrap (o1_nodes + 1))
      ) else (
        (m_node_checker_own n ((), IntKind.i64.wrap (o1_nodes + 1)) (Nd.mk a2_kind a2_text a2_cols a2_kids)).bind fun ⟨y6, ⟨_, w7_nodes⟩⟩ =>
        some ((!y6), w7_nodes)
      )
    )
   : Option (Bool × Int)).bind fun ⟨x4, x5⟩ =>
  bif x4 then (
    some (false, ((), x5))
  ) else (
    (m_node_checker_node_l1 (m_node_checker_node n) a2_kind a2_kids a3 n x5 0).bind fun fl => match fl with
    | .ret r => some r
    | .go x11 =>
      some (true, ((), x11))
  )

/- vinculum/node.Valid -/
def m_node_Valid (n : Nat) : Nd → Option Bool
| ⟨n1_kind, n1_text, n1_cols, n1_kids⟩ =>
  (m_node_kinds ).bind fun _ =>
  (
    bif (n1_kind == 1) then (
      (m_node_checker_node n ((), 0) (Nd.mk n1_kind n1_text n1_cols n1_kids) 1).bind fun ⟨y4, ⟨_, w5_nodes⟩⟩ =>
      some y4
    ) else (
      some false
    )
   : Option (Bool)).bind fun x3 =>
  some x3

/- vinculum/node.Count$1 -/
def m_node_Count_1 : Int → Int → Option Int
| a1, o2 =>
  some (IntKind.i64.wrap (o2 + 1))

/- vinculum/node.each -/
def m_node_each_l2 (e9_node_kids : List Nd) (e9_depth : Int) : Nat → Int → (List (Nd × Int)) → Option ((List (Nd × Int)))
| 0, _, _ => none
| k+1, x13, l15 =>
  bif decide (x13 < (e9_node_kids.length : Int)) then (
    (at? e9_node_kids x13).bind fun ⟨e17_kind, e17_text, e17_cols, e17_kids⟩ =>
    req (l15.length + [(Nd.mk e17_kind e17_text e17_cols e17_kids, IntKind.i64.wrap (e9_depth + 1))].length ≤ 4294967296) <|
    m_node_each_l2 e9_node_kids e9_depth k (IntKind.i64.wrap (x13 + 1)) (l15 ++ [(Nd.mk e17_kind e17_text e17_cols e17_kids, IntKind.i64.wrap (e9_depth + 1))])
  ) else (
    some l15
  )
def m_node_each_l1 (n : Nat) : Nat → Int → (List (Nd × Int)) → Option (Int)
| 0, _, _ => none
| k+1, x3, l5 =>
  bif decide (0 < (l5.length : Int)) then (
    (at? l5 (IntKind.i64.wrap ((l5.length : Int) - 1))).bind fun ⟨⟨e9_node_kind, e9_node_text, e9_node_cols, e9_node_kids⟩, e9_depth⟩ =>
    req (0 ≤ IntKind.i64.wrap ((l5.length : Int) - 1) ∧ IntKind.i64.wrap ((l5.length : Int) - 1) ≤ (l5.length : Int)) <|
    (m_node_Count_1 e9_depth x3).bind fun w11 =>
    (m_node_each_l2 e9_node_kids e9_depth n 0 (l5.take (IntKind.i64.wrap ((l5.length : Int) - 1)).toNat)).bind fun l16 =>
    m_node_each_l1 n k w11 l16
  ) else (
    some x3
  )
def m_node_each (n : Nat) : Nd → Int → Option Int
| ⟨n1_kind, n1_text, n1_cols, n1_kids⟩, o2 =>
  (m_node_each_l1 n n o2 [(Nd.mk n1_kind n1_text n1_cols n1_kids, 1)]).bind fun x6 =>
  some x6

/- vinculum/node.Count -/
def m_node_Count (n : Nat) : Nd → Option Int
| ⟨n1_kind, n1_text, n1_cols, n1_kids⟩ =>
  (m_node_each n (Nd.mk n1_kind n1_text n1_cols n1_kids) 0).bind fun w2 =>
  some w2

/- vinculum/vinculumref09.Letter -/
def m_r09_Letter : Int → Option Bool
| c1 =>
  (
    bif decide (97 ≤ c1) then (
      bif decide (c1 ≤ 122) then (
        some true
      ) else (
        bif decide (65 ≤ c1) then (
          some (decide (c1 ≤ 90))
        ) else (
          some false
        )
      )
    ) else (
      bif decide (65 ≤ c1) then (
        some (decide (c1 ≤ 90))
      ) else (
        some false
      )
    )
   : Option (Bool)).bind fun x2 =>
  some x2

/- vinculum/vinculumref09.has -/
def m_r09_has_l1 (s1 : List UInt8) (c2 : Int) : Nat → Int → Option (Fl Bool Unit)
| 0, _ => none
| k+1, i3 =>
  bif decide (i3 < (s1.length : Int)) then (
    (at? s1 i3).bind fun c4 =>
    bif ((c4.toNat : Int) == c2) then (
      some (.ret true)
    ) else (
      m_r09_has_l1 s1 c2 k (IntKind.i64.wrap (i3 + 1))
    )
  ) else (
    some (.go ())
  )
def m_r09_has (n : Nat) : (List UInt8) → Int → Option Bool
| s1, c2 =>
  (m_r09_has_l1 s1 c2 n 0).bind fun fl => match fl with
  | .ret r => some r
  | .go _ =>
    some false

/- vinculum/vinculumref09.Character -/
def m_r09_Character (n : Nat) : Int → Option Bool
| c1 =>
  (
    (m_r09_Letter c1).bind fun y3 =>
    bif y3 then (
      some true
    ) else (
      (m_r09_has n [43, 45, 42, 47, 61, 60, 62, 44, 59, 58, 33, 124, 39, 63, 126, 64] c1).bind fun y4 =>
      some y4
    )
   : Option (Bool)).bind fun x2 =>
  some x2

/- vinculum/vinculumref09.Keywords -/
def m_r09_Keywords : Option (List (List UInt8))
:=
  some [[102, 114, 97, 99], [114, 111, 111, 116], [109, 97, 116, 114, 105, 120], [102, 101, 110, 99, 101]]

/- vinculum/vinculumref09.In -/
def m_r09_In_l1 (l1 : List (List UInt8)) (s2 : List UInt8) : Nat → Int → Option (Fl Bool Unit)
| 0, _ => none
| k+1, i3 =>
  bif decide (i3 < (l1.length : Int)) then (
    (at? l1 i3).bind fun e5 =>
    bif (e5 == s2) then (
      some (.ret true)
    ) else (
      m_r09_In_l1 l1 s2 k (IntKind.i64.wrap (i3 + 1))
    )
  ) else (
    some (.go ())
  )
def m_r09_In (n : Nat) : (List (List UInt8)) → (List UInt8) → Option Bool
| l1, s2 =>
  (m_r09_In_l1 l1 s2 n 0).bind fun fl => match fl with
  | .ret r => some r
  | .go _ =>
    some false

/- vinculum/vinculumref09.Accents -/
def m_r09_Accents : Option (List (List UInt8))
:=
  some [[104, 97, 116], [98, 97, 114], [118, 101, 99], [100, 111, 116], [116, 105, 108, 100, 101], [99, 104, 101, 99, 107]]

/- vinculum/vinculumref09.Symbol -/
def m_r09_Symbol_l1 (s1 : List UInt8) : Nat → Int → Option (Fl Bool Unit)
| 0, _ => none
| k+1, i5 =>
  bif decide (i5 < (s1.length : Int)) then (
    (at? s1 i5).bind fun c6 =>
    (m_r09_Letter (c6.toNat : Int)).bind fun y8 =>
    bif (!y8) then (
      some (.ret false)
    ) else (
      m_r09_Symbol_l1 s1 k (IntKind.i64.wrap (i5 + 1))
    )
  ) else (
    some (.go ())
  )
def m_r09_Symbol (n : Nat) : (List UInt8) → Option Bool
| s1 =>
  bif ((s1.length : Int) == 1) then (
    (at? s1 0).bind fun c2 =>
    (m_r09_Character n (c2.toNat : Int)).bind fun y4 =>
    some y4
  ) else (
    (m_r09_Symbol_l1 s1 n 0).bind fun fl => match fl with
    | .ret r => some r
    | .go _ =>
      (
        bif decide (2 ≤ (s1.length : Int)) then (
          bif decide ((s1.length : Int) ≤ 16) then (
            (m_r09_Keywords ).bind fun y10 =>
            (m_r09_In n y10 s1).bind fun y11 =>
            bif (!y11) then (
              (m_r09_Accents ).bind fun y12 =>
              (m_r09_In n y12 s1).bind fun y13 =>
              some (!y13)
            ) else (
              some false
            )
          ) else (
            some false
          )
        ) else (
          some false
        )
       : Option (Bool)).bind fun x9 =>
      some x9
  )

/- vinculum/vinculumref09.Digit -/
def m_r09_Digit : Int → Option Bool
| c1 =>
  (
    bif decide (48 ≤ c1) then (
      some (decide (c1 ≤ 57))
    ) else (
      some false
    )
   : Option (Bool)).bind fun x2 =>
  some x2

/- vinculum/vinculumref09.Number -/
def m_r09_Number_l1 (s1 : List UInt8) : Nat → Int → Int → Option (Fl Bool (Int))
| 0, _, _ => none
| k+1, points2, i3 =>
  bif decide (i3 < (s1.length : Int)) then (
    (
      (
        (at? s1 i3).bind fun c7 =>
        bif ((c7.toNat : Int) == 46) then (
          bif decide (0 < i3) then (
            some (decide (i3 < (IntKind.i64.wrap ((s1.length : Int) - 1))))
          ) else (
            some false
          )
        ) else (
          some false
        )
       : Option (Bool)).bind fun x6 =>
      bif x6 then (
        some (.go (IntKind.i64.wrap (points2 + 1)))
      ) else (
        (at? s1 i3).bind fun c9 =>
        (m_r09_Digit (c9.toNat : Int)).bind fun y11 =>
        bif (!y11) then (
          some (.ret false)
        ) else (
          some (.go points2)
        )
      )
     : Option (Fl Bool (Int))).bind fun fl => match fl with
    | .ret r => some (.ret r)
    | .go points5 =>
      m_r09_Number_l1 s1 k points5 (IntKind.i64.wrap (i3 + 1))
  ) else (
    some (.go points2)
  )
def m_r09_Number (n : Nat) : (List UInt8) → Option Bool
| s1 =>
  (m_r09_Number_l1 s1 n 0 0).bind fun fl => match fl with
  | .ret r => some r
  | .go points4 =>
    (
      bif decide (0 < (s1.length : Int)) then (
        bif decide ((s1.length : Int) ≤ 20) then (
          some (decide (points4 ≤ 1))
        ) else (
          some false
        )
      ) else (
        some false
      )
     : Option (Bool)).bind fun x12 =>
    some x12

/- vinculum/vinculumref09.Printable -/
def m_r09_Printable_l1 (s1 : List UInt8) : Nat → Int → Option (Fl Bool Unit)
| 0, _ => none
| k+1, i2 =>
  bif decide (i2 < (s1.length : Int)) then (
    (
      (at? s1 i2).bind fun c4 =>
      bif decide ((c4.toNat : Int) < 32) then (
        some true
      ) else (
        (at? s1 i2).bind fun c6 =>
        some (decide (126 < (c6.toNat : Int)))
      )
     : Option (Bool)).bind fun x3 =>
    bif x3 then (
      some (.ret false)
    ) else (
      m_r09_Printable_l1 s1 k (IntKind.i64.wrap (i2 + 1))
    )
  ) else (
    some (.go ())
  )
def m_r09_Printable (n : Nat) : (List UInt8) → Option Bool
| s1 =>
  (m_r09_Printable_l1 s1 n 0).bind fun fl => match fl with
  | .ret r => some r
  | .go _ =>
    some true

/- vinculum/vinculumref09.text -/
def m_r09_text (n : Nat) : Nd → Option Bool
| ⟨n1_kind, n1_text, n1_cols, n1_kids⟩ =>
  bif (n1_kind == 2) then (
    (m_r09_Symbol n n1_text).bind fun y2 =>
    some y2
  ) else (
    bif (n1_kind == 3) then (
      (m_r09_Number n n1_text).bind fun y3 =>
      some y3
    ) else (
      bif (n1_kind == 4) then (
        (
          bif decide ((n1_text.length : Int) ≤ 200) then (
            (m_r09_Printable n n1_text).bind fun y5 =>
            some y5
          ) else (
            some false
          )
         : Option (Bool)).bind fun x4 =>
        some x4
      ) else (
        bif (n1_kind == 10) then (
          (m_r09_Accents ).bind fun y6 =>
          (m_r09_In n y6 n1_text).bind fun y7 =>
          some y7
        ) else (
          bif (n1_kind == 11) then (
            (
              bif ((n1_text.length : Int) == 2) then (
                (at? n1_text 0).bind fun c9 =>
                (m_r09_has n [40, 41, 91, 93, 123, 125, 124, 60, 62, 47, 46] (c9.toNat : Int)).bind fun y11 =>
                bif y11 then (
                  (at? n1_text 1).bind fun c12 =>
                  (m_r09_has n [40, 41, 91, 93, 123, 125, 124, 60, 62, 47, 46] (c12.toNat : Int)).bind fun y14 =>
                  some y14
                ) else (
                  some false
                )
              ) else (
                some false
              )
             : Option (Bool)).bind fun x8 =>
            some x8
          ) else (
            some (n1_text == [])
          )
        )
      )
    )
  )

/- vinculum/vinculumref09.kids -/
def m_r09_kids : Nd → Option Bool
| ⟨n1_kind, n1_text, n1_cols, n1_kids⟩ =>
  bif (n1_kind == 12) then (
    (
      bif decide (1 ≤ n1_cols) then (
        bif decide (n1_cols ≤ 16) then (
          bif decide (1 ≤ (n1_kids.length : Int)) then (
            bif decide ((n1_kids.length : Int) ≤ 256) then (
              req (n1_cols ≠ 0) <|
              some (((n1_kids.length : Int).tmod n1_cols) == 0)
            ) else (
              some false
            )
          ) else (
            some false
          )
        ) else (
          some false
        )
      ) else (
        some false
      )
     : Option (Bool)).bind fun x3 =>
    some x3
  ) else (
    bif (n1_cols != 0) then (
      some false
    ) else (
      (
        bif (n1_kind == 1) then (
          some (.ret (decide ((n1_kids.length : Int) ≤ 200)))
        ) else (
          (
            bif (n1_kind == 2) then (
              some (n1_kind == 2)
            ) else (
              bif (n1_kind == 3) then (
                some (n1_kind == 3)
              ) else (
                some (n1_kind == 4)
              )
            )
           : Option (Bool)).bind fun x4 =>
          bif x4 then (
            some (.ret ((n1_kids.length : Int) == 0))
          ) else (
            (
              bif (n1_kind == 5) then (
                some (n1_kind == 5)
              ) else (
                bif (n1_kind == 6) then (
                  some (n1_kind == 6)
                ) else (
                  bif (n1_kind == 7) then (
                    some (n1_kind == 7)
                  ) else (
                    some (n1_kind == 8)
                  )
                )
              )
             : Option (Bool)).bind fun x5 =>
            bif x5 then (
              some (.ret ((n1_kids.length : Int) == 2))
            ) else (
              bif (n1_kind == 9) then (
                some (.ret ((n1_kids.length : Int) == 3))
              ) else (
                (
                  bif (n1_kind == 10) then (
                    some (n1_kind == 10)
                  ) else (
                    some (n1_kind == 11)
                  )
                 : Option (Bool)).bind fun x6 =>
                bif x6 then (
                  some (.ret ((n1_kids.length : Int) == 1))
                ) else (
                  some (.go ())
                )
              )
            )
          )
        )
       : Option (Fl Bool Unit)).bind fun fl => match fl with
      | .ret r => some r
      | .go _ =>
        some false
    )
  )

/- vinculum/vinculumref09.form -/
def m_r09_form_l1 (F_r09_form : Nd → Option Bool) (n1_kind : Int) (n1_kids : List Nd) : Nat → Int → Option (Fl Bool Unit)
| 0, _ => none
| k+1, i5 =>
  bif decide (i5 < (n1_kids.length : Int)) then (
    (
      (at? n1_kids i5).bind fun ⟨e8_kind, e8_text, e8_cols, e8_kids⟩ =>
      bif ((e8_kind == 1) == (n1_kind == 1)) then (
        some true
      ) else (
        (at? n1_kids i5).bind fun ⟨e10_kind, e10_text, e10_cols, e10_kids⟩ =>
        (F_r09_form (Nd.mk e10_kind e10_text e10_cols e10_kids)).bind fun y12 =>
        some (!y12)
      )
     : Option (Bool)).bind fun x7 =>
    bif x7 then (
      some (.ret false)
    ) else (
      m_r09_form_l1 F_r09_form n1_kind n1_kids k (IntKind.i64.wrap (i5 + 1))
    )
  ) else (
    some (.go ())
  )
def m_r09_form : Nat → Nd → Option Bool
| 0, _ => none
| n+1, ⟨n1_kind, n1_text, n1_cols, n1_kids⟩ =>
  (
    (m_r09_text n (Nd.mk n1_kind n1_text n1_cols n1_kids)).bind fun y3 =>
    bif (!y3) then (
      some true
    ) else (
      (m_r09_kids (Nd.mk n1_kind n1_text n1_cols n1_kids)).bind fun y4 =>
      some (!y4)
    )
   : Option (Bool)).bind fun x2 =>
  bif x2 then (
    some false
  ) else (
    (m_r09_form_l1 (m_r09_form n) n1_kind n1_kids n 0).bind fun fl => match fl with
    | .ret r => some r
    | .go _ =>
      some true
  )

/- vinculum/vinculumref09.Count -/
def m_r09_Count_l1 (F_r09_Count : Nd → Option Int) (n1_kids : List Nd) : Nat → Int → Int → Option (Int)
| 0, _, _ => none
| k+1, out2, i3 =>
  bif decide (i3 < (n1_kids.length : Int)) then (
    (at? n1_kids i3).bind fun ⟨e6_kind, e6_text, e6_cols, e6_kids⟩ =>
    (F_r09_Count (Nd.mk e6_kind e6_text e6_cols e6_kids)).bind fun y8 =>
    m_r09_Count_l1 F_r09_Count n1_kids k (IntKind.i64.wrap (out2 + y8)) (IntKind.i64.wrap (i3 + 1))
  ) else (
    some out2
  )
def m_r09_Count : Nat → Nd → Option Int
| 0, _ => none
| n+1, ⟨n1_kind, n1_text, n1_cols, n1_kids⟩ =>
  (m_r09_Count_l1 (m_r09_Count n) n1_kids n 1 0).bind fun out4 =>
  some out4

/- vinculum/vinculumref09.Depth -/
def m_r09_Depth_l1 (F_r09_Depth : Nd → Option Int) (n1_kids : List Nd) : Nat → Int → Int → Option (Int)
| 0, _, _ => none
| k+1, out2, i3 =>
  bif decide (i3 < (n1_kids.length : Int)) then (
    (at? n1_kids i3).bind fun ⟨e6_kind, e6_text, e6_cols, e6_kids⟩ =>
    (F_r09_Depth (Nd.mk e6_kind e6_text e6_cols e6_kids)).bind fun y8 =>
    m_r09_Depth_l1 F_r09_Depth n1_kids k (if out2 < y8 then y8 else out2) (IntKind.i64.wrap (i3 + 1))
  ) else (
    some out2
  )
def m_r09_Depth : Nat → Nd → Option Int
| 0, _ => none
| n+1, ⟨n1_kind, n1_text, n1_cols, n1_kids⟩ =>
  (m_r09_Depth_l1 (m_r09_Depth n) n1_kids n 0 0).bind fun out4 =>
  some (IntKind.i64.wrap (out4 + 1))

/- vinculum/vinculumref09.Valid -/
def m_r09_Valid (n : Nat) : Nd → Option Bool
| ⟨n1_kind, n1_text, n1_cols, n1_kids⟩ =>
  (
    bif (n1_kind == 1) then (
      (m_r09_form n (Nd.mk n1_kind n1_text n1_cols n1_kids)).bind fun y3 =>
      bif y3 then (
        (m_r09_Count n (Nd.mk n1_kind n1_text n1_cols n1_kids)).bind fun y4 =>
        bif decide (y4 ≤ 1000) then (
          (m_r09_Depth n (Nd.mk n1_kind n1_text n1_cols n1_kids)).bind fun y5 =>
          some (decide (y5 ≤ 24))
        ) else (
          some false
        )
      ) else (
        some false
      )
    ) else (
      some false
    )
   : Option (Bool)).bind fun x2 =>
  some x2

/- a knot: vinculum/vinculumref09.Equal, vinculum/vinculumref09.SameItems -/
def m_r09_SameItems_l1 (F_r09_Equal : Nd → Nd → Option Bool) (a1 : List Nd) (b2 : List Nd) : Nat → Int → Option (Fl Bool Unit)
| 0, _ => none
| k+1, i5 =>
  bif decide (i5 < (a1.length : Int)) then (
    (at? a1 i5).bind fun ⟨e7_kind, e7_text, e7_cols, e7_kids⟩ =>
    (at? b2 i5).bind fun ⟨e9_kind, e9_text, e9_cols, e9_kids⟩ =>
    (F_r09_Equal (Nd.mk e7_kind e7_text e7_cols e7_kids) (Nd.mk e9_kind e9_text e9_cols e9_kids)).bind fun y11 =>
    bif (!y11) then (
      some (.ret false)
    ) else (
      m_r09_SameItems_l1 F_r09_Equal a1 b2 k (IntKind.i64.wrap (i5 + 1))
    )
  ) else (
    some (.go ())
  )
mutual
def m_r09_Equal : Nat → Nd → Nd → Option Bool
| 0, _, _ => none
| n+1, ⟨a1_kind, a1_text, a1_cols, a1_kids⟩, ⟨b2_kind, b2_text, b2_cols, b2_kids⟩ =>
  (
    bif (a1_kind == b2_kind) then (
      bif (a1_text == b2_text) then (
        bif (a1_cols == b2_cols) then (
          (m_r09_SameItems n a1_kids b2_kids).bind fun y4 =>
          some y4
        ) else (
          some false
        )
      ) else (
        some false
      )
    ) else (
      some false
    )
   : Option (Bool)).bind fun x3 =>
  some x3
def m_r09_SameItems : Nat → (List Nd) → (List Nd) → Option Bool
| 0, _, _ => none
| n+1, a1, b2 =>
  bif ((a1.length : Int) != (b2.length : Int)) then (
    some false
  ) else (
    (m_r09_SameItems_l1 (m_r09_Equal n) a1 b2 n 0).bind fun fl => match fl with
    | .ret r => some r
    | .go _ =>
      some true
  )
end

/- vinculum/vinculumref09.left -/
def m_r09_left_l1 (F_r09_left : Nd → Int → Option Int) (n1_kids : List Nd) : Nat → Int → Int → Option (Int)
| 0, _, _ => none
| k+1, most3, i4 =>
  (
    bif decide (i4 < (n1_kids.length : Int)) then (
      some (decide (0 ≤ most3))
    ) else (
      some false
    )
   : Option (Bool)).bind fun x6 =>
  bif x6 then (
    (at? n1_kids i4).bind fun ⟨e8_kind, e8_text, e8_cols, e8_kids⟩ =>
    (F_r09_left (Nd.mk e8_kind e8_text e8_cols e8_kids) most3).bind fun y10 =>
    m_r09_left_l1 F_r09_left n1_kids k y10 (IntKind.i64.wrap (i4 + 1))
  ) else (
    some most3
  )
def m_r09_left : Nat → Nd → Int → Option Int
| 0, _, _ => none
| n+1, ⟨n1_kind, n1_text, n1_cols, n1_kids⟩, most2 =>
  (m_r09_left_l1 (m_r09_left n) n1_kids n (IntKind.i64.wrap (most2 - 1)) 0).bind fun most5 =>
  some most5

/- vinculum/vinculumref09.Few -/
def m_r09_Few (n : Nat) : Nd → Int → Option Bool
| ⟨n1_kind, n1_text, n1_cols, n1_kids⟩, most2 =>
  (m_r09_left n (Nd.mk n1_kind n1_text n1_cols n1_kids) most2).bind fun y3 =>
  some (decide (0 ≤ y3))

/- vinculum/vinculumlaw16.symbols -/
def m_l16_symbols_l1 (s1 : List UInt8) : Nat → Int → (List Nd) → Option ((List Nd))
| 0, _, _ => none
| k+1, i4, l5 =>
  bif decide (i4 < (s1.length : Int)) then (
    req (0 ≤ i4 ∧ i4 ≤ IntKind.i64.wrap (i4 + 1) ∧ IntKind.i64.wrap (i4 + 1) ≤ (s1.length : Int)) <|
    req (l5.length + [Nd.mk 2 ((s1.take (IntKind.i64.wrap (i4 + 1)).toNat).drop i4.toNat) 0 []].length ≤ 4294967296) <|
    m_l16_symbols_l1 s1 k (IntKind.i64.wrap (i4 + 1)) (l5 ++ [Nd.mk 2 ((s1.take (IntKind.i64.wrap (i4 + 1)).toNat).drop i4.toNat) 0 []])
  ) else (
    some l5
  )
def m_l16_symbols (n : Nat) : (List UInt8) → Option Nd
| s1 =>
  (m_l16_symbols_l1 s1 n 0 []).bind fun l6 =>
  some (Nd.mk 1 [] 0 l6)

/- vinculum/diff.valid -/
def m_diff_valid (n : Nat) : Nd → Nd → Option Bool
| ⟨a1_kind, a1_text, a1_cols, a1_kids⟩, ⟨b2_kind, b2_text, b2_cols, b2_kids⟩ =>
  (
    (m_node_Valid n (Nd.mk a1_kind a1_text a1_cols a1_kids)).bind fun y4 =>
    bif y4 then (
      (m_node_Valid n (Nd.mk b2_kind b2_text b2_cols b2_kids)).bind fun y5 =>
      some y5
    ) else (
      some false
    )
   : Option (Bool)).bind fun x3 =>
  some x3

/- vinculum/vinculumlaw16.few -/
def m_l16_few (n : Nat) : Nd → Nd → Option Bool
| ⟨a1_kind, a1_text, a1_cols, a1_kids⟩, ⟨b2_kind, b2_text, b2_cols, b2_kids⟩ =>
  (
    (m_r09_Few n (Nd.mk a1_kind a1_text a1_cols a1_kids) 120).bind fun y4 =>
    bif y4 then (
      (m_r09_Few n (Nd.mk b2_kind b2_text b2_cols b2_kids) 120).bind fun y5 =>
      some y5
    ) else (
      some false
    )
   : Option (Bool)).bind fun x3 =>
  some x3

/- vinculum/vinculumref16.Alike -/
def m_r16_Alike : Nd → Nd → Option Bool
| ⟨x1_kind, x1_text, x1_cols, x1_kids⟩, ⟨y2_kind, y2_text, y2_cols, y2_kids⟩ =>
  (
    bif (x1_kind == y2_kind) then (
      bif ((x1_kids.length : Int) == (y2_kids.length : Int)) then (
        some (x1_cols == y2_cols)
      ) else (
        some false
      )
    ) else (
      some false
    )
   : Option (Bool)).bind fun x3 =>
  some x3

/- vinculum/vinculumref09.ToRow -/
def m_r09_ToRow : (List Nd) → Option Nd
| l1 =>
  some (Nd.mk 1 [] 0 l1)

/- vinculum/vinculumref12.Few -/
def m_r12_Few (n : Nat) : (Int × List Int × Int × Int × List Nd × Int × List UInt8 × List UInt8) → Option Bool
| ⟨op1_kind, op1_row, op1_at, op1_n, op1_nodes, op1_slot, op1_old, op1_text⟩ =>
  (
    (m_r09_ToRow op1_nodes).bind fun ⟨y3_kind, y3_text, y3_cols, y3_kids⟩ =>
    (m_r09_Few n (Nd.mk y3_kind y3_text y3_cols y3_kids) 100).bind fun y4 =>
    bif y4 then (
      some (decide ((op1_row.length : Int) ≤ 60))
    ) else (
      some false
    )
   : Option (Bool)).bind fun x2 =>
  some x2

/- vinculum/vinculumref09.ValidItems -/
def m_r09_ValidItems (n : Nat) : (List Nd) → Option Bool
| l1 =>
  (m_r09_ToRow l1).bind fun ⟨y2_kind, y2_text, y2_cols, y2_kids⟩ =>
  (m_r09_Valid n (Nd.mk y2_kind y2_text y2_cols y2_kids)).bind fun y3 =>
  some y3

/- vinculum/vinculumref12.template -/
def m_r12_template (n : Nat) : (List Nd) → Int → Option Bool
| l1, slot2 =>
  (
    bif ((l1.length : Int) == 1) then (
      (m_r09_ValidItems n l1).bind fun y5 =>
      bif y5 then (
        bif decide (0 ≤ slot2) then (
          (at? l1 0).bind fun ⟨e6_kind, e6_text, e6_cols, e6_kids⟩ =>
          bif decide (slot2 < (e6_kids.length : Int)) then (
            (at? l1 0).bind fun ⟨e9_kind, e9_text, e9_cols, e9_kids⟩ =>
            (at? e9_kids slot2).bind fun ⟨e11_kind, e11_text, e11_cols, e11_kids⟩ =>
            some ((e11_kids.length : Int) == 0)
          ) else (
            some false
          )
        ) else (
          some false
        )
      ) else (
        some false
      )
    ) else (
      some false
    )
   : Option (Bool)).bind fun x3 =>
  some x3

/- vinculum/vinculumref12.Formed -/
def m_r12_Formed (n : Nat) : (Int × List Int × Int × Int × List Nd × Int × List UInt8 × List UInt8) → Option Bool
| ⟨a1_kind, a1_row, a1_at, a1_n, a1_nodes, a1_slot, a1_old, a1_text⟩ =>
  (
    (
      bif (a1_kind == 1) then (
        some (a1_kind == 1)
      ) else (
        some (a1_kind == 2)
      )
     : Option (Bool)).bind fun x2 =>
    bif x2 then (
      (
        bif decide (0 < (a1_nodes.length : Int)) then (
          (m_r09_ValidItems n a1_nodes).bind fun y5 =>
          bif y5 then (
            bif (a1_n == 0) then (
              bif (a1_slot == 0) then (
                bif (a1_old == []) then (
                  some (a1_text == [])
                ) else (
                  some false
                )
              ) else (
                some false
              )
            ) else (
              some false
            )
          ) else (
            some false
          )
        ) else (
          some false
        )
       : Option (Bool)).bind fun x3 =>
      some (.ret x3)
    ) else (
      (
        bif (a1_kind == 3) then (
          some (a1_kind == 3)
        ) else (
          some (a1_kind == 4)
        )
       : Option (Bool)).bind fun x6 =>
      bif x6 then (
        (
          bif decide (0 ≤ a1_n) then (
            (m_r12_template n a1_nodes a1_slot).bind fun y8 =>
            bif y8 then (
              bif (a1_old == []) then (
                some (a1_text == [])
              ) else (
                some false
              )
            ) else (
              some false
            )
          ) else (
            some false
          )
         : Option (Bool)).bind fun x7 =>
        some (.ret x7)
      ) else (
        bif (a1_kind == 5) then (
          (
            bif (!(a1_old == a1_text)) then (
              bif ((a1_nodes.length : Int) == 0) then (
                bif (a1_n == 0) then (
                  some (a1_slot == 0)
                ) else (
                  some false
                )
              ) else (
                some false
              )
            ) else (
              some false
            )
           : Option (Bool)).bind fun x9 =>
          some (.ret x9)
        ) else (
          some (.go ())
        )
      )
    )
   : Option (Fl Bool Unit)).bind fun fl => match fl with
  | .ret r => some r
  | .go _ =>
    some false

/- vinculum/vinculumref09.find -/
def m_r09_find_l1  : Nat → Int → (List UInt8) → Int → (List Nd) → (List Int) → Option (Fl (Nd × Bool) ((List Int) × Int × (List UInt8) × Int × (List Nd)))
| 0, _, _, _, _, _ => none
| k+1, x3, x4, x5, x6, path8 =>
  bif decide (2 ≤ (path8.length : Int)) then (
    (
      (at? path8 0).bind fun e16 =>
      bif decide (e16 < 0) then (
        some true
      ) else (
        (at? path8 0).bind fun e18 =>
        some (decide ((x6.length : Int) ≤ e18))
      )
     : Option (Bool)).bind fun x15 =>
    bif x15 then (
      some (.ret (Nd.mk 0 [] 0 [], false))
    ) else (
      (at? path8 0).bind fun e21 =>
      (at? x6 e21).bind fun ⟨e23_kind, e23_text, e23_cols, e23_kids⟩ =>
      (
        (at? path8 1).bind fun e26 =>
        bif decide (e26 < 0) then (
          some true
        ) else (
          (at? path8 1).bind fun e28 =>
          some (decide ((e23_kids.length : Int) ≤ e28))
        )
       : Option (Bool)).bind fun x25 =>
      bif x25 then (
        some (.ret (Nd.mk 0 [] 0 [], false))
      ) else (
        (at? path8 1).bind fun e31 =>
        (at? e23_kids e31).bind fun ⟨e33_kind, e33_text, e33_cols, e33_kids⟩ =>
        req (0 ≤ (2 : Int) ∧ (2 : Int) ≤ (path8.length : Int) ∧ (path8.length : Int) ≤ (path8.length : Int)) <|
        m_r09_find_l1 k e33_kind e33_text e33_cols e33_kids ((path8.take (path8.length : Int).toNat).drop (2 : Int).toNat)
      )
    )
  ) else (
    some (.go (path8, x3, x4, x5, x6))
  )
def m_r09_find (n : Nat) : Nd → (List Int) → Option (Nd × Bool)
| ⟨n1_kind, n1_text, n1_cols, n1_kids⟩, path2 =>
  (m_r09_find_l1  n n1_kind n1_text n1_cols n1_kids path2).bind fun fl => match fl with
  | .ret r => some r
  | .go ⟨path9, x10, x11, x12, x13⟩ =>
    some (Nd.mk x10 x11 x12 x13, ((path9.length : Int) == 0))

/- vinculum/vinculumref09.Row -/
def m_r09_Row (n : Nat) : Nd → (List Int) → Option (Nd × Int)
| ⟨n1_kind, n1_text, n1_cols, n1_kids⟩, path2 =>
  (m_r09_Valid n (Nd.mk n1_kind n1_text n1_cols n1_kids)).bind fun y3 =>
  bif (!y3) then (
    some (Nd.mk 0 [] 0 [], 1)
  ) else (
    (m_r09_find n (Nd.mk n1_kind n1_text n1_cols n1_kids) path2).bind fun ⟨⟨y4_kind, y4_text, y4_cols, y4_kids⟩, y5⟩ =>
    bif (!y5) then (
      some (Nd.mk 0 [] 0 [], 8)
    ) else (
      some (Nd.mk y4_kind y4_text y4_cols y4_kids, 0)
    )
  )

/- vinculum/vinculumref12.splice -/
def m_r12_splice : (List Nd) → Int → Int → (List Nd) → Option (List Nd)
| l1, at2, to3, by4 =>
  req (0 ≤ (0 : Int) ∧ (0 : Int) ≤ at2 ∧ at2 ≤ (l1.length : Int)) <|
  req (([] : List Nd).length + ((l1.take at2.toNat).drop (0 : Int).toNat).length ≤ 4294967296) <|
  req (((l1.take at2.toNat).drop (0 : Int).toNat).length + by4.length ≤ 4294967296) <|
  req (0 ≤ to3 ∧ to3 ≤ (l1.length : Int) ∧ (l1.length : Int) ≤ (l1.length : Int)) <|
  req ((((l1.take at2.toNat).drop (0 : Int).toNat) ++ by4).length + ((l1.take (l1.length : Int).toNat).drop to3.toNat).length ≤ 4294967296) <|
  some ((((l1.take at2.toNat).drop (0 : Int).toNat) ++ by4) ++ ((l1.take (l1.length : Int).toNat).drop to3.toNat))

/- vinculum/vinculumref16.Weight -/
def m_r16_Weight_l2 (n : Nat) (ops1 : List (Int × List Int × Int × Int × List Nd × Int × List UInt8 × List UInt8)) (i3 : Int) : Nat → Int → Int → Option (Int)
| 0, _, _ => none
| k+1, n10, k11 =>
  (at? ops1 i3).bind fun ⟨e13_kind, e13_row, e13_at, e13_n, e13_nodes, e13_slot, e13_old, e13_text⟩ =>
  bif decide (k11 < (e13_nodes.length : Int)) then (
    (at? ops1 i3).bind fun ⟨e16_kind, e16_row, e16_at, e16_n, e16_nodes, e16_slot, e16_old, e16_text⟩ =>
    (at? e16_nodes k11).bind fun ⟨e18_kind, e18_text, e18_cols, e18_kids⟩ =>
    (m_r09_Count n (Nd.mk e18_kind e18_text e18_cols e18_kids)).bind fun y20 =>
    m_r16_Weight_l2 n ops1 i3 k (IntKind.i64.wrap (n10 + y20)) (IntKind.i64.wrap (k11 + 1))
  ) else (
    some n10
  )
def m_r16_Weight_l1 (n : Nat) (ops1 : List (Int × List Int × Int × Int × List Nd × Int × List UInt8 × List UInt8)) : Nat → Int → Int → Option (Fl (Int × Int) (Int))
| 0, _, _ => none
| k+1, n2, i3 =>
  bif decide (i3 < (ops1.length : Int)) then (
    (
      (at? ops1 i3).bind fun ⟨e7_kind, e7_row, e7_at, e7_n, e7_nodes, e7_slot, e7_old, e7_text⟩ =>
      (
        bif (e7_kind == 1) then (
          some (e7_kind == 1)
        ) else (
          some (e7_kind == 2)
        )
       : Option (Bool)).bind fun x9 =>
      bif x9 then (
        (m_r16_Weight_l2 n ops1 i3 n n2 0).bind fun n12 =>
        some (.go n12)
      ) else (
        bif (e7_kind == 5) then (
          some (.go (IntKind.i64.wrap (n2 + 1)))
        ) else (
          some (.ret (0, 1))
        )
      )
     : Option (Fl (Int × Int) (Int))).bind fun fl => match fl with
    | .ret r => some (.ret r)
    | .go n6 =>
      m_r16_Weight_l1 n ops1 k n6 (IntKind.i64.wrap (i3 + 1))
  ) else (
    some (.go n2)
  )
def m_r16_Weight (n : Nat) : (List (Int × List Int × Int × Int × List Nd × Int × List UInt8 × List UInt8)) → Option (Int × Int)
| ops1 =>
  (m_r16_Weight_l1 n ops1 n 0 0).bind fun fl => match fl with
  | .ret r => some r
  | .go n4 =>
    some (n4, 0)

/- vinculum/diff.Weight -/
def m_diff_Weight_l2 (n : Nat) (e7_nodes : List Nd) : Nat → Int → Int → Option (Int)
| 0, _, _ => none
| k+1, x11, cost12 =>
  bif decide (x11 < (e7_nodes.length : Int)) then (
    (at? e7_nodes x11).bind fun ⟨e14_kind, e14_text, e14_cols, e14_kids⟩ =>
    (m_node_Count n (Nd.mk e14_kind e14_text e14_cols e14_kids)).bind fun y16 =>
    m_diff_Weight_l2 n e7_nodes k (IntKind.i64.wrap (x11 + 1)) (IntKind.i64.wrap (cost12 + y16))
  ) else (
    some cost12
  )
def m_diff_Weight_l1 (n : Nat) (ops1 : List (Int × List Int × Int × Int × List Nd × Int × List UInt8 × List UInt8)) : Nat → Int → Int → Option (Fl (Int × Int) (Int))
| 0, _, _ => none
| k+1, x3, cost4 =>
  bif decide (x3 < (ops1.length : Int)) then (
    (
      (at? ops1 x3).bind fun ⟨e7_kind, e7_row, e7_at, e7_n, e7_nodes, e7_slot, e7_old, e7_text⟩ =>
      (
        bif (e7_kind == 1) then (
          some (e7_kind == 1)
        ) else (
          some (e7_kind == 2)
        )
       : Option (Bool)).bind fun x9 =>
      bif x9 then (
        (m_diff_Weight_l2 n e7_nodes n 0 cost4).bind fun cost13 =>
        some (.go cost13)
      ) else (
        bif (e7_kind == 5) then (
          some (.go (IntKind.i64.wrap (cost4 + 1)))
        ) else (
          some (.ret (0, 1))
        )
      )
     : Option (Fl (Int × Int) (Int))).bind fun fl => match fl with
    | .ret r => some (.ret r)
    | .go cost6 =>
      m_diff_Weight_l1 n ops1 k (IntKind.i64.wrap (x3 + 1)) cost6
  ) else (
    some (.go cost4)
  )
def m_diff_Weight (n : Nat) : (List (Int × List Int × Int × Int × List Nd × Int × List UInt8 × List UInt8)) → Option (Int × Int)
| ops1 =>
  (m_diff_Weight_l1 n ops1 n 0 0).bind fun fl => match fl with
  | .ret r => some r
  | .go cost5 =>
    some (cost5, 0)

/- vinculum/diff.sizes -/
def m_diff_sizes_l1 (n : Nat) (l1 : List Nd) : Nat → Int → (List Int) → Option ((List Int))
| 0, _, _ => none
| k+1, x4, l5 =>
  bif decide (x4 < (l1.length : Int)) then (
    (at? l1 x4).bind fun ⟨e7_kind, e7_text, e7_cols, e7_kids⟩ =>
    (m_node_Count n (Nd.mk e7_kind e7_text e7_cols e7_kids)).bind fun y9 =>
    (at? l5 x4).bind fun e10 =>
    m_diff_sizes_l1 n l1 k (IntKind.i64.wrap (x4 + 1)) (l5.set x4.toNat y9)
  ) else (
    some l5
  )
def m_diff_sizes (n : Nat) : (List Nd) → Option (List Int)
| l1 =>
  req (0 ≤ (l1.length : Int) ∧ (l1.length : Int) ≤ 4294967296) <|
  (m_diff_sizes_l1 n l1 n 0 (List.replicate (l1.length : Int).toNat 0)).bind fun l6 =>
  some l6

/- vinculum/vinculumref09.Replaced -/
def m_r09_Replaced : Nd → Int → Nd → Option Nd
| ⟨n1_kind, n1_text, n1_cols, n1_kids⟩, i2, ⟨kid3_kind, kid3_text, kid3_cols, kid3_kids⟩ =>
  req (([] : List Nd).length + n1_kids.length ≤ 4294967296) <|
  (at? n1_kids i2).bind fun ⟨e4_kind, e4_text, e4_cols, e4_kids⟩ =>
  some (Nd.mk n1_kind n1_text n1_cols (n1_kids.set i2.toNat (Nd.mk kid3_kind kid3_text kid3_cols kid3_kids)))

/- vinculum/vinculumref12.filled -/
def m_r12_filled : Nd → Int → (List Nd) → Option Nd
| ⟨n1_kind, n1_text, n1_cols, n1_kids⟩, slot2, l3 =>
  req (([] : List Nd).length + l3.length ≤ 4294967296) <|
  (m_r09_ToRow l3).bind fun ⟨y4_kind, y4_text, y4_cols, y4_kids⟩ =>
  (m_r09_Replaced (Nd.mk n1_kind n1_text n1_cols n1_kids) slot2 (Nd.mk y4_kind y4_text y4_cols y4_kids)).bind fun ⟨y5_kind, y5_text, y5_cols, y5_kids⟩ =>
  some (Nd.mk y5_kind y5_text y5_cols y5_kids)

/- vinculum/vinculumref12.change -/
def m_r12_change (n : Nat) : (List Nd) → (Int × List Int × Int × Int × List Nd × Int × List UInt8 × List UInt8) → Option ((List Nd) × Int)
| a1, ⟨a2_kind, a2_row, a2_at, a2_n, a2_nodes, a2_slot, a2_old, a2_text⟩ =>
  (
    bif (a2_kind == 1) then (
      some 0
    ) else (
      bif (a2_kind == 2) then (
        some (a2_nodes.length : Int)
      ) else (
        bif (a2_kind == 3) then (
          some a2_n
        ) else (
          some 1
        )
      )
    )
   : Option (Int)).bind fun x3 =>
  (
    bif decide (a2_at < 0) then (
      some true
    ) else (
      bif decide ((a1.length : Int) < a2_at) then (
        some true
      ) else (
        some (decide ((IntKind.i64.wrap ((a1.length : Int) - a2_at)) < x3))
      )
    )
   : Option (Bool)).bind fun x5 =>
  bif x5 then (
    some ([], 2)
  ) else (
    bif (a2_kind == 1) then (
      (m_r12_splice a1 a2_at (IntKind.i64.wrap (a2_at + x3)) a2_nodes).bind fun y8 =>
      some (y8, 0)
    ) else (
      bif (a2_kind == 2) then (
        req (0 ≤ a2_at ∧ a2_at ≤ IntKind.i64.wrap (a2_at + x3) ∧ IntKind.i64.wrap (a2_at + x3) ≤ (a1.length : Int)) <|
        (m_r09_SameItems n ((a1.take (IntKind.i64.wrap (a2_at + x3)).toNat).drop a2_at.toNat) a2_nodes).bind fun y10 =>
        bif (!y10) then (
          some ([], 7)
        ) else (
          (m_r12_splice a1 a2_at (IntKind.i64.wrap (a2_at + x3)) []).bind fun y11 =>
          some (y11, 0)
        )
      ) else (
        bif (a2_kind == 3) then (
          (at? a2_nodes 0).bind fun ⟨e12_kind, e12_text, e12_cols, e12_kids⟩ =>
          req (0 ≤ a2_at ∧ a2_at ≤ IntKind.i64.wrap (a2_at + x3) ∧ IntKind.i64.wrap (a2_at + x3) ≤ (a1.length : Int)) <|
          (m_r12_filled (Nd.mk e12_kind e12_text e12_cols e12_kids) a2_slot ((a1.take (IntKind.i64.wrap (a2_at + x3)).toNat).drop a2_at.toNat)).bind fun ⟨y15_kind, y15_text, y15_cols, y15_kids⟩ =>
          (m_r12_splice a1 a2_at (IntKind.i64.wrap (a2_at + x3)) [Nd.mk y15_kind y15_text y15_cols y15_kids]).bind fun y17 =>
          some (y17, 0)
        ) else (
          (at? a1 a2_at).bind fun ⟨e18_kind, e18_text, e18_cols, e18_kids⟩ =>
          bif (a2_kind == 4) then (
            (
              bif decide ((e18_kids.length : Int) ≤ a2_slot) then (
                some true
              ) else (
                (at? e18_kids a2_slot).bind fun ⟨e22_kind, e22_text, e22_cols, e22_kids⟩ =>
                bif ((e22_kids.length : Int) != a2_n) then (
                  some true
                ) else (
                  (at? a2_nodes 0).bind fun ⟨e25_kind, e25_text, e25_cols, e25_kids⟩ =>
                  (at? e18_kids a2_slot).bind fun ⟨e27_kind, e27_text, e27_cols, e27_kids⟩ =>
                  (m_r12_filled (Nd.mk e25_kind e25_text e25_cols e25_kids) a2_slot e27_kids).bind fun ⟨y29_kind, y29_text, y29_cols, y29_kids⟩ =>
                  (m_r09_Equal n (Nd.mk e18_kind e18_text e18_cols e18_kids) (Nd.mk y29_kind y29_text y29_cols y29_kids)).bind fun y30 =>
                  some (!y30)
                )
              )
             : Option (Bool)).bind fun x20 =>
            bif x20 then (
              some ([], 7)
            ) else (
              (at? e18_kids a2_slot).bind fun ⟨e31_kind, e31_text, e31_cols, e31_kids⟩ =>
              (m_r12_splice a1 a2_at (IntKind.i64.wrap (a2_at + x3)) e31_kids).bind fun y33 =>
              some (y33, 0)
            )
          ) else (
            (
              (
                bif (e18_kind == 2) then (
                  some (e18_kind == 2)
                ) else (
                  bif (e18_kind == 3) then (
                    some (e18_kind == 3)
                  ) else (
                    bif (e18_kind == 4) then (
                      some (e18_kind == 4)
                    ) else (
                      bif (e18_kind == 10) then (
                        some (e18_kind == 10)
                      ) else (
                        some (e18_kind == 11)
                      )
                    )
                  )
                )
               : Option (Bool)).bind fun x34 =>
              bif x34 then (
                bif (e18_text == a2_old) then (
                  (m_r12_splice a1 a2_at (IntKind.i64.wrap (a2_at + x3)) [Nd.mk e18_kind a2_text e18_cols e18_kids]).bind fun y36 =>
                  some (.ret (y36, 0))
                ) else (
                  some (.go ())
                )
              ) else (
                some (.go ())
              )
             : Option (Fl ((List Nd) × Int) Unit)).bind fun fl => match fl with
            | .ret r => some r
            | .go _ =>
              some ([], 7)
          )
        )
      )
    )
  )

/- vinculum/vinculumref12.put -/
def m_r12_put : Nat → Nd → (List Int) → (List Nd) → Option Nd
| 0, _, _, _ => none
| n+1, ⟨n1_kind, n1_text, n1_cols, n1_kids⟩, path2, l3 =>
  bif ((path2.length : Int) == 0) then (
    (m_r09_ToRow l3).bind fun ⟨y5_kind, y5_text, y5_cols, y5_kids⟩ =>
    some (Nd.mk y5_kind y5_text y5_cols y5_kids)
  ) else (
    (at? path2 0).bind fun e6 =>
    (at? n1_kids e6).bind fun ⟨e8_kind, e8_text, e8_cols, e8_kids⟩ =>
    (at? path2 0).bind fun e10 =>
    (at? path2 1).bind fun e12 =>
    (at? path2 1).bind fun e14 =>
    (at? e8_kids e14).bind fun ⟨e16_kind, e16_text, e16_cols, e16_kids⟩ =>
    req (0 ≤ (2 : Int) ∧ (2 : Int) ≤ (path2.length : Int) ∧ (path2.length : Int) ≤ (path2.length : Int)) <|
    (m_r12_put n (Nd.mk e16_kind e16_text e16_cols e16_kids) ((path2.take (path2.length : Int).toNat).drop (2 : Int).toNat) l3).bind fun ⟨y19_kind, y19_text, y19_cols, y19_kids⟩ =>
    (m_r09_Replaced (Nd.mk e8_kind e8_text e8_cols e8_kids) e12 (Nd.mk y19_kind y19_text y19_cols y19_kids)).bind fun ⟨y20_kind, y20_text, y20_cols, y20_kids⟩ =>
    (m_r09_Replaced (Nd.mk n1_kind n1_text n1_cols n1_kids) e10 (Nd.mk y20_kind y20_text y20_cols y20_kids)).bind fun ⟨y21_kind, y21_text, y21_cols, y21_kids⟩ =>
    some (Nd.mk y21_kind y21_text y21_cols y21_kids)
  )

/- vinculum/vinculumref12.Apply -/
def m_r12_Apply (n : Nat) : Nd → (Int × List Int × Int × Int × List Nd × Int × List UInt8 × List UInt8) → Option (Nd × Int)
| ⟨n1_kind, n1_text, n1_cols, n1_kids⟩, ⟨op2_kind, op2_row, op2_at, op2_n, op2_nodes, op2_slot, op2_old, op2_text⟩ =>
  (m_r09_Valid n (Nd.mk n1_kind n1_text n1_cols n1_kids)).bind fun y3 =>
  bif (!y3) then (
    some (Nd.mk 0 [] 0 [], 1)
  ) else (
    (m_r12_Formed n (op2_kind, op2_row, op2_at, op2_n, op2_nodes, op2_slot, op2_old, op2_text)).bind fun y4 =>
    bif (!y4) then (
      some (Nd.mk 0 [] 0 [], 4)
    ) else (
      (m_r09_Row n (Nd.mk n1_kind n1_text n1_cols n1_kids) op2_row).bind fun ⟨⟨y5_kind, y5_text, y5_cols, y5_kids⟩, y6⟩ =>
      bif (y6 != 0) then (
        some (Nd.mk 0 [] 0 [], y6)
      ) else (
        (m_r12_change n y5_kids (op2_kind, op2_row, op2_at, op2_n, op2_nodes, op2_slot, op2_old, op2_text)).bind fun ⟨y7, y8⟩ =>
        bif (y8 != 0) then (
          some (Nd.mk 0 [] 0 [], y8)
        ) else (
          (m_r12_put n (Nd.mk n1_kind n1_text n1_cols n1_kids) op2_row y7).bind fun ⟨y9_kind, y9_text, y9_cols, y9_kids⟩ =>
          (m_r09_Valid n (Nd.mk y9_kind y9_text y9_cols y9_kids)).bind fun y10 =>
          bif (!y10) then (
            some (Nd.mk 0 [] 0 [], 6)
          ) else (
            some (Nd.mk y9_kind y9_text y9_cols y9_kids, 0)
          )
        )
      )
    )
  )

/- vinculum/vinculumref12.ApplyAll -/
def m_r12_ApplyAll_l1 (n : Nat) (ops2 : List (Int × List Int × Int × Int × List Nd × Int × List UInt8 × List UInt8)) : Nat → Int → (List UInt8) → Int → (List Nd) → Int → Option (Fl (Nd × Int × Int) (Int × (List UInt8) × Int × (List Nd)))
| 0, _, _, _, _, _ => none
| k+1, x4, x5, x6, x7, i9 =>
  bif decide (i9 < (ops2.length : Int)) then (
    (at? ops2 i9).bind fun ⟨e15_kind, e15_row, e15_at, e15_n, e15_nodes, e15_slot, e15_old, e15_text⟩ =>
    (m_r12_Apply n (Nd.mk x4 x5 x6 x7) (e15_kind, e15_row, e15_at, e15_n, e15_nodes, e15_slot, e15_old, e15_text)).bind fun ⟨⟨y17_kind, y17_text, y17_cols, y17_kids⟩, y18⟩ =>
    bif (y18 != 0) then (
      some (.ret (Nd.mk 0 [] 0 [], i9, y18))
    ) else (
      m_r12_ApplyAll_l1 n ops2 k y17_kind y17_text y17_cols y17_kids (IntKind.i64.wrap (i9 + 1))
    )
  ) else (
    some (.go (x4, x5, x6, x7))
  )
def m_r12_ApplyAll (n : Nat) : Nd → (List (Int × List Int × Int × Int × List Nd × Int × List UInt8 × List UInt8)) → Option (Nd × Int × Int)
| ⟨n1_kind, n1_text, n1_cols, n1_kids⟩, ops2 =>
  (m_r09_Valid n (Nd.mk n1_kind n1_text n1_cols n1_kids)).bind fun y3 =>
  bif (!y3) then (
    some (Nd.mk 0 [] 0 [], 0, 1)
  ) else (
    (m_r12_ApplyAll_l1 n ops2 n n1_kind n1_text n1_cols n1_kids 0).bind fun fl => match fl with
    | .ret r => some r
    | .go ⟨x10, x11, x12, x13⟩ =>
      some (Nd.mk x10 x11 x12 x13, 0, 0)
  )

/- a knot: vinculum/diff.fill, vinculum/diff.pairing -/
/-- The last row of the costs. -/
def m_diff_fill_last : List Int → List Int
| [] => [0]
| o :: os => IntKind.i64.wrap ((m_diff_fill_last os).headD 0 + o) :: m_diff_fill_last os
/-- The row of an item x of size f, over the next row. -/
def m_diff_fill_row (F_diff_pairing : Nd → Nd → Option Int) (x : Nd) (f : Int) : List Nd → List Int → List Int → Option (List Int × List Int)
| [], [], [v] => some ([IntKind.i64.wrap (v + f)], [])
| y :: ys, o :: os, v :: v2 :: vs =>
  (m_diff_fill_row F_diff_pairing x f ys os (v2 :: vs)).bind fun p =>
  (F_diff_pairing x y).bind fun c =>
  let c0 := if IntKind.i64.wrap (v + f) < IntKind.i64.wrap (p.1.headD 0 + o) then IntKind.i64.wrap (v + f) else IntKind.i64.wrap (p.1.headD 0 + o)
  let c1 := if 0 ≤ c then (if IntKind.i64.wrap (v2 + c) < c0 then IntKind.i64.wrap (v2 + c) else c0) else c0
  some (c1 :: p.1, c :: p.2)
| _, _, _ => none
def m_diff_fill_rows (F_diff_pairing : Nd → Nd → Option Int) (b : List Nd) (other : List Int) : List Nd → List Int → Option (List (List Int) × List (List Int))
| [], [] => some ([m_diff_fill_last other], [])
| x :: xs, f :: fs =>
  (m_diff_fill_rows F_diff_pairing b other xs fs).bind fun p =>
  match p.1 with
  | [] => none
  | r1 :: _ => (m_diff_fill_row F_diff_pairing x f b other r1).bind fun q => some (q.1 :: p.1, q.2 :: p.2)
| _, _ => none
def m_diff_pairing_l1 (F_diff_fill : (List Nd) → (List Nd) → Option (List (List Int) × List (List Int) × List Int × List Int)) (a1_kids : List Nd) (a2_kids : List Nd) : Nat → Int → Int → Option (Int)
| 0, _, _ => none
| k+1, x8, x9 =>
  bif decide (x9 < (a1_kids.length : Int)) then (
    (at? a1_kids x9).bind fun ⟨e11_kind, e11_text, e11_cols, e11_kids⟩ =>
    (at? a2_kids x9).bind fun ⟨e13_kind, e13_text, e13_cols, e13_kids⟩ =>
    (F_diff_fill e11_kids e13_kids).bind fun ⟨y15_least, y15_pair, y15_first, y15_other⟩ =>
    (at? y15_least 0).bind fun e16 =>
    (at? e16 0).bind fun e18 =>
    m_diff_pairing_l1 F_diff_fill a1_kids a2_kids k (IntKind.i64.wrap (x8 + e18)) (IntKind.i64.wrap (x9 + 1))
  ) else (
    some x8
  )
mutual
def m_diff_fill : Nat → (List Nd) → (List Nd) → Option (List (List Int) × List (List Int) × List Int × List Int)
| 0, _, _ => none
| n+1, a, b =>
  (m_diff_sizes n a).bind fun first =>
  (m_diff_sizes n b).bind fun other =>
  req (a.length ≤ 1048576 ∧ b.length ≤ 1048576 ∧ other.length = b.length) <|
  (m_diff_fill_rows (m_diff_pairing n) b other a first).bind fun p =>
  some (p.1, p.2, first, other)
def m_diff_pairing : Nat → Nd → Nd → Option Int
| 0, _, _ => none
| n+1, ⟨a1_kind, a1_text, a1_cols, a1_kids⟩, ⟨a2_kind, a2_text, a2_cols, a2_kids⟩ =>
  (
    bif (a1_kind != a2_kind) then (
      some true
    ) else (
      bif (a1_cols != a2_cols) then (
        some true
      ) else (
        some ((a1_kids.length : Int) != (a2_kids.length : Int))
      )
    )
   : Option (Bool)).bind fun x3 =>
  bif x3 then (
    some (-1)
  ) else (
    (
      bif (!(a1_text == a2_text)) then (
        some 1
      ) else (
        some 0
      )
     : Option (Int)).bind fun x6 =>
    (m_diff_pairing_l1 (m_diff_fill n) a1_kids a2_kids n x6 0).bind fun x10 =>
    some x10
  )
end

/- vinculum/diff.Cost -/
def m_diff_Cost (n : Nat) : Nd → Nd → Option (Int × Int)
| ⟨a1_kind, a1_text, a1_cols, a1_kids⟩, ⟨b2_kind, b2_text, b2_cols, b2_kids⟩ =>
  (m_diff_valid n (Nd.mk a1_kind a1_text a1_cols a1_kids) (Nd.mk b2_kind b2_text b2_cols b2_kids)).bind fun y3 =>
  bif (!y3) then (
    some (0, 1)
  ) else (
    (m_diff_fill n a1_kids b2_kids).bind fun ⟨y4_least, y4_pair, y4_first, y4_other⟩ =>
    (at? y4_least 0).bind fun e5 =>
    (at? e5 0).bind fun e7 =>
    some (e7, 0)
  )

/- vinculum/vinculumlaw16.awake -/
def m_l16_awake (n : Nat) : Option Bool
:=
  (m_l16_symbols n [120, 121]).bind fun ⟨y1_kind, y1_text, y1_cols, y1_kids⟩ =>
  (m_l16_symbols n [121, 122]).bind fun ⟨y2_kind, y2_text, y2_cols, y2_kids⟩ =>
  (m_diff_Cost n (Nd.mk y1_kind y1_text y1_cols y1_kids) (Nd.mk y2_kind y2_text y2_cols y2_kids)).bind fun ⟨y3, y4⟩ =>
  (
    bif (y4 == 0) then (
      some (y3 == 2)
    ) else (
      some false
    )
   : Option (Bool)).bind fun x5 =>
  some x5

/- a knot: vinculum/vinculumref16.pair, vinculum/vinculumref16.table -/
def m_r16_pair_l1 (F_r16_table : (List Nd) → (List Nd) → Option (List (List Int))) (x1_kids : List Nd) (y2_kids : List Nd) : Nat → Int → Int → Option (Int)
| 0, _, _ => none
| k+1, n4, i5 =>
  bif decide (i5 < (x1_kids.length : Int)) then (
    (at? x1_kids i5).bind fun ⟨e8_kind, e8_text, e8_cols, e8_kids⟩ =>
    (at? y2_kids i5).bind fun ⟨e10_kind, e10_text, e10_cols, e10_kids⟩ =>
    (F_r16_table e8_kids e10_kids).bind fun y12 =>
    (at? y12 0).bind fun e13 =>
    (at? e13 0).bind fun e15 =>
    m_r16_pair_l1 F_r16_table x1_kids y2_kids k (IntKind.i64.wrap (n4 + e15)) (IntKind.i64.wrap (i5 + 1))
  ) else (
    some n4
  )
/-- The last row of the distances. -/
def m_r16_table_last (F_r09_Count : Nd → Option Int) : List Nd → Option (List Int)
| [] => some [0]
| y :: ys => (m_r16_table_last F_r09_Count ys).bind fun r => (F_r09_Count y).bind fun c => some (IntKind.i64.wrap (c + r.headD 0) :: r)
/-- The row of an item x of size cx, over the next row. -/
def m_r16_table_row (F_r09_Count : Nd → Option Int) (F_r16_Alike : Nd → Nd → Option Bool) (F_r16_pair : Nd → Nd → Option Int) (x : Nd) (cx : Int) : List Nd → List Int → Option (List Int)
| [], [v] => some [IntKind.i64.wrap (cx + v)]
| y :: ys, v :: v2 :: vs =>
  (m_r16_table_row F_r09_Count F_r16_Alike F_r16_pair x cx ys (v2 :: vs)).bind fun r =>
  (F_r09_Count y).bind fun c =>
  (F_r16_Alike x y).bind fun al =>
  let l0 := IntKind.i64.wrap (cx + v)
  let n0 := IntKind.i64.wrap (c + r.headD 0)
  let l1 := bif (decide (l0 < 0) || decide (n0 < l0)) then n0 else l0
  bif al then ((F_r16_pair x y).bind fun p => some ((if IntKind.i64.wrap (p + v2) < l1 then IntKind.i64.wrap (p + v2) else l1) :: r)) else some (l1 :: r)
| _, _ => none
def m_r16_table_rows (F_r09_Count : Nd → Option Int) (F_r16_Alike : Nd → Nd → Option Bool) (F_r16_pair : Nd → Nd → Option Int) (b : List Nd) : List Nd → Option (List (List Int))
| [] => (m_r16_table_last F_r09_Count b).bind fun r => some [r]
| x :: xs =>
  (m_r16_table_rows F_r09_Count F_r16_Alike F_r16_pair b xs).bind fun p =>
  (F_r09_Count x).bind fun cx =>
  match p with
  | [] => none
  | r1 :: _ => (m_r16_table_row F_r09_Count F_r16_Alike F_r16_pair x cx b r1).bind fun q => some (q :: p)
mutual
def m_r16_pair : Nat → Nd → Nd → Option Int
| 0, _, _ => none
| n+1, ⟨x1_kind, x1_text, x1_cols, x1_kids⟩, ⟨y2_kind, y2_text, y2_cols, y2_kids⟩ =>
  (
    bif (!(x1_text == y2_text)) then (
      some 1
    ) else (
      some 0
    )
   : Option (Int)).bind fun n3 =>
  (m_r16_pair_l1 (m_r16_table n) x1_kids y2_kids n n3 0).bind fun n6 =>
  some n6
def m_r16_table : Nat → (List Nd) → (List Nd) → Option (List (List Int))
| 0, _, _ => none
| n+1, a, b =>
  req (a.length ≤ 1048576 ∧ b.length ≤ 1048576) <|
  m_r16_table_rows (m_r09_Count n) m_r16_Alike (m_r16_pair n) b a
end

/- vinculum/vinculumref16.Distance -/
def m_r16_Distance (n : Nat) : (List Nd) → (List Nd) → Option Int
| a1, b2 =>
  (m_r16_table n a1 b2).bind fun y3 =>
  (at? y3 0).bind fun e4 =>
  (at? e4 0).bind fun e6 =>
  some e6

/- vinculum/vinculumlaw16.DiffCost -/
def m_l16_DiffCost (n : Nat) : Nd → Nd → Option Bool
| ⟨a1_kind, a1_text, a1_cols, a1_kids⟩, ⟨b2_kind, b2_text, b2_cols, b2_kids⟩ =>
  (m_l16_awake n ).bind fun y3 =>
  bif (!y3) then (
    some false
  ) else (
    (m_l16_few n (Nd.mk a1_kind a1_text a1_cols a1_kids) (Nd.mk b2_kind b2_text b2_cols b2_kids)).bind fun y4 =>
    bif (!y4) then (
      some true
    ) else (
      (m_diff_Cost n (Nd.mk a1_kind a1_text a1_cols a1_kids) (Nd.mk b2_kind b2_text b2_cols b2_kids)).bind fun ⟨y5, y6⟩ =>
      (
        (m_r09_Valid n (Nd.mk a1_kind a1_text a1_cols a1_kids)).bind fun y8 =>
        bif (!y8) then (
          some true
        ) else (
          (m_r09_Valid n (Nd.mk b2_kind b2_text b2_cols b2_kids)).bind fun y9 =>
          some (!y9)
        )
       : Option (Bool)).bind fun x7 =>
      bif x7 then (
        (
          bif (y5 == 0) then (
            some (y6 == 1)
          ) else (
            some false
          )
         : Option (Bool)).bind fun x10 =>
        some x10
      ) else (
        (
          bif (y6 == 0) then (
            (m_r16_Distance n a1_kids b2_kids).bind fun y12 =>
            some (y5 == y12)
          ) else (
            some false
          )
         : Option (Bool)).bind fun x11 =>
        some x11
      )
    )
  )

/- vinculum/vinculumlaw16.DiffLeast -/
def m_l16_DiffLeast_l1 (n : Nat) (a2 : List (Int × List Int × Int × Int × List Nd × Int × List UInt8 × List UInt8)) : Nat → Int → Option (Fl Bool Unit)
| 0, _ => none
| k+1, x7 =>
  bif decide (x7 < (a2.length : Int)) then (
    (at? a2 x7).bind fun ⟨e9_kind, e9_row, e9_at, e9_n, e9_nodes, e9_slot, e9_old, e9_text⟩ =>
    (m_r12_Few n (e9_kind, e9_row, e9_at, e9_n, e9_nodes, e9_slot, e9_old, e9_text)).bind fun y11 =>
    bif (!y11) then (
      some (.ret true)
    ) else (
      m_l16_DiffLeast_l1 n a2 k (IntKind.i64.wrap (x7 + 1))
    )
  ) else (
    some (.go ())
  )
def m_l16_DiffLeast (n : Nat) : Nd → (List (Int × List Int × Int × Int × List Nd × Int × List UInt8 × List UInt8)) → Option Bool
| ⟨a1_kind, a1_text, a1_cols, a1_kids⟩, a2 =>
  (m_l16_awake n ).bind fun y3 =>
  bif (!y3) then (
    some false
  ) else (
    (
      (m_r09_Few n (Nd.mk a1_kind a1_text a1_cols a1_kids) 120).bind fun y5 =>
      bif (!y5) then (
        some true
      ) else (
        some (decide (12 < (a2.length : Int)))
      )
     : Option (Bool)).bind fun x4 =>
    bif x4 then (
      some true
    ) else (
      (m_l16_DiffLeast_l1 n a2 n 0).bind fun fl => match fl with
      | .ret r => some r
      | .go _ =>
        (m_r12_ApplyAll n (Nd.mk a1_kind a1_text a1_cols a1_kids) a2).bind fun ⟨⟨y12_kind, y12_text, y12_cols, y12_kids⟩, y13, y14⟩ =>
        (m_r16_Weight n a2).bind fun ⟨y15, y16⟩ =>
        (
          bif (y14 != 0) then (
            some true
          ) else (
            bif (y16 != 0) then (
              some true
            ) else (
              (m_r09_Few n (Nd.mk y12_kind y12_text y12_cols y12_kids) 120).bind fun y18 =>
              some (!y18)
            )
          )
         : Option (Bool)).bind fun x17 =>
        bif x17 then (
          some true
        ) else (
          (m_diff_Cost n (Nd.mk a1_kind a1_text a1_cols a1_kids) (Nd.mk y12_kind y12_text y12_cols y12_kids)).bind fun ⟨y19, y20⟩ =>
          (
            bif (y20 == 0) then (
              some (decide (y19 ≤ y15))
            ) else (
              some false
            )
           : Option (Bool)).bind fun x21 =>
          some x21
        )
    )
  )

/- vinculum/vinculumlaw16.DiffMetric -/
def m_l16_DiffMetric (n : Nat) : Nd → Nd → Nd → Option Bool
| ⟨a1_kind, a1_text, a1_cols, a1_kids⟩, ⟨a2_kind, a2_text, a2_cols, a2_kids⟩, ⟨a3_kind, a3_text, a3_cols, a3_kids⟩ =>
  (m_l16_awake n ).bind fun y4 =>
  bif (!y4) then (
    some false
  ) else (
    (
      (m_l16_few n (Nd.mk a1_kind a1_text a1_cols a1_kids) (Nd.mk a2_kind a2_text a2_cols a2_kids)).bind fun y6 =>
      bif (!y6) then (
        some true
      ) else (
        (m_r09_Few n (Nd.mk a3_kind a3_text a3_cols a3_kids) 120).bind fun y7 =>
        bif (!y7) then (
          some true
        ) else (
          (m_r09_Valid n (Nd.mk a1_kind a1_text a1_cols a1_kids)).bind fun y8 =>
          bif (!y8) then (
            some true
          ) else (
            (m_r09_Valid n (Nd.mk a2_kind a2_text a2_cols a2_kids)).bind fun y9 =>
            bif (!y9) then (
              some true
            ) else (
              (m_r09_Valid n (Nd.mk a3_kind a3_text a3_cols a3_kids)).bind fun y10 =>
              some (!y10)
            )
          )
        )
      )
     : Option (Bool)).bind fun x5 =>
    bif x5 then (
      some true
    ) else (
      (m_diff_Cost n (Nd.mk a1_kind a1_text a1_cols a1_kids) (Nd.mk a2_kind a2_text a2_cols a2_kids)).bind fun ⟨y11, y12⟩ =>
      (m_diff_Cost n (Nd.mk a2_kind a2_text a2_cols a2_kids) (Nd.mk a1_kind a1_text a1_cols a1_kids)).bind fun ⟨y13, y14⟩ =>
      (m_diff_Cost n (Nd.mk a2_kind a2_text a2_cols a2_kids) (Nd.mk a3_kind a3_text a3_cols a3_kids)).bind fun ⟨y15, y16⟩ =>
      (m_diff_Cost n (Nd.mk a1_kind a1_text a1_cols a1_kids) (Nd.mk a3_kind a3_text a3_cols a3_kids)).bind fun ⟨y17, y18⟩ =>
      (
        bif (y12 != 0) then (
          some true
        ) else (
          bif (y14 != 0) then (
            some true
          ) else (
            bif (y16 != 0) then (
              some true
            ) else (
              some (y18 != 0)
            )
          )
        )
       : Option (Bool)).bind fun x19 =>
      bif x19 then (
        some false
      ) else (
        (
          (m_r09_Equal n (Nd.mk a1_kind a1_text a1_cols a1_kids) (Nd.mk a2_kind a2_text a2_cols a2_kids)).bind fun y21 =>
          bif ((y11 == 0) == y21) then (
            bif (y11 == y13) then (
              some (decide (y17 ≤ (IntKind.i64.wrap (y11 + y15))))
            ) else (
              some false
            )
          ) else (
            some false
          )
         : Option (Bool)).bind fun x20 =>
        some x20
      )
    )
  )

/- vinculum/vinculumlaw16.DiffWeight -/
def m_l16_DiffWeight_l1 (n : Nat) (ops1 : List (Int × List Int × Int × Int × List Nd × Int × List UInt8 × List UInt8)) : Nat → Int → Option (Fl Bool Unit)
| 0, _ => none
| k+1, i4 =>
  bif decide (i4 < (ops1.length : Int)) then (
    (at? ops1 i4).bind fun ⟨e6_kind, e6_row, e6_at, e6_n, e6_nodes, e6_slot, e6_old, e6_text⟩ =>
    (m_r09_ToRow e6_nodes).bind fun ⟨y8_kind, y8_text, y8_cols, y8_kids⟩ =>
    (m_r09_Few n (Nd.mk y8_kind y8_text y8_cols y8_kids) 200).bind fun y9 =>
    bif (!y9) then (
      some (.ret true)
    ) else (
      m_l16_DiffWeight_l1 n ops1 k (IntKind.i64.wrap (i4 + 1))
    )
  ) else (
    some (.go ())
  )
def m_l16_DiffWeight (n : Nat) : (List (Int × List Int × Int × Int × List Nd × Int × List UInt8 × List UInt8)) → Option Bool
| ops1 =>
  (m_l16_awake n ).bind fun y2 =>
  bif (!y2) then (
    some false
  ) else (
    bif decide (30 < (ops1.length : Int)) then (
      some true
    ) else (
      (m_l16_DiffWeight_l1 n ops1 n 0).bind fun fl => match fl with
      | .ret r => some r
      | .go _ =>
        (m_diff_Weight n ops1).bind fun ⟨y10, y11⟩ =>
        (m_r16_Weight n ops1).bind fun ⟨y12, y13⟩ =>
        (
          bif (y10 == y12) then (
            some (y11 == y13)
          ) else (
            some false
          )
         : Option (Bool)).bind fun x14 =>
        some x14
    )
  )

/- vinculum/vinculumref09.Int -/
def m_r09_Int_l1  : Nat → Int → (List UInt8) → Option (Int × (List UInt8))
| 0, _, _ => none
| k+1, n5, s6 =>
  bif decide (10 ≤ n5) then (
    req ([b8of (IntKind.u8.wrap (IntKind.i64.wrap (48 + (n5.tmod 10))))].length + s6.length ≤ 1099511627776) <|
    m_r09_Int_l1 k (IntKind.i64.wrap (n5.tdiv 10)) ([b8of (IntKind.u8.wrap (IntKind.i64.wrap (48 + (n5.tmod 10))))] ++ s6)
  ) else (
    some (n5, s6)
  )
def m_r09_Int : Nat → Int → Option (List UInt8)
| 0, _ => none
| n+1, n1 =>
  bif decide (n1 < 0) then (
    bif ((IntKind.i64.wrap (n1.tdiv 10)) != 0) then (
      (m_r09_Int n (IntKind.i64.wrap (0 - (IntKind.i64.wrap (n1.tdiv 10))))).bind fun y4 =>
      req ([45].length + y4.length ≤ 1099511627776) <|
      req (([45] ++ y4).length + [b8of (IntKind.u8.wrap (IntKind.i64.wrap (48 - (n1.tmod 10))))].length ≤ 1099511627776) <|
      some (([45] ++ y4) ++ [b8of (IntKind.u8.wrap (IntKind.i64.wrap (48 - (n1.tmod 10))))])
    ) else (
      req ([45].length + [b8of (IntKind.u8.wrap (IntKind.i64.wrap (48 - (n1.tmod 10))))].length ≤ 1099511627776) <|
      some ([45] ++ [b8of (IntKind.u8.wrap (IntKind.i64.wrap (48 - (n1.tmod 10))))])
    )
  ) else (
    (m_r09_Int_l1  n n1 []).bind fun ⟨n7, s8⟩ =>
    req ([b8of (IntKind.u8.wrap (IntKind.i64.wrap (48 + n7)))].length + s8.length ≤ 1099511627776) <|
    some ([b8of (IntKind.u8.wrap (IntKind.i64.wrap (48 + n7)))] ++ s8)
  )

/- vinculum/vinculumref09.Quoted -/
def m_r09_Quoted_l1 (s1 : List UInt8) : Nat → Int → (List UInt8) → Option ((List UInt8))
| 0, _, _ => none
| k+1, i3, l4 =>
  bif decide (i3 < (s1.length : Int)) then (
    (
      (
        (at? s1 i3).bind fun c8 =>
        bif ((c8.toNat : Int) == 34) then (
          some true
        ) else (
          (at? s1 i3).bind fun c10 =>
          some ((c10.toNat : Int) == 92)
        )
       : Option (Bool)).bind fun x7 =>
      (
        bif x7 then (
          req (l4.length + [b8of 92].length ≤ 4294967296) <|
          some (l4 ++ [b8of 92])
        ) else (
          some l4
        )
       : Option ((List UInt8))).bind fun l12 =>
      (at? s1 i3).bind fun c14 =>
      req (l12.length + [c14].length ≤ 4294967296) <|
      some (l12 ++ [c14])
     : Option ((List UInt8))).bind fun l6 =>
    m_r09_Quoted_l1 s1 k (IntKind.i64.wrap (i3 + 1)) l6
  ) else (
    some l4
  )
def m_r09_Quoted (n : Nat) : (List UInt8) → Option (List UInt8)
| s1 =>
  (m_r09_Quoted_l1 s1 n 0 [b8of 34]).bind fun l5 =>
  req (l5.length + [b8of 34].length ≤ 4294967296) <|
  some (l5 ++ [b8of 34])

/- vinculum/vinculumref09.Dump -/
def m_r09_Dump_l1 (F_r09_Dump : Nd → Option (List UInt8)) (a1_kids : List Nd) : Nat → (List UInt8) → Int → Option ((List UInt8))
| 0, _, _ => none
| k+1, x10, x11 =>
  bif decide (x11 < (a1_kids.length : Int)) then (
    (
      (
        bif decide (0 < x11) then (
          req (x10.length + [32].length ≤ 1099511627776) <|
          some (x10 ++ [32])
        ) else (
          some x10
        )
       : Option ((List UInt8))).bind fun x15 =>
      (at? a1_kids x11).bind fun ⟨e16_kind, e16_text, e16_cols, e16_kids⟩ =>
      (F_r09_Dump (Nd.mk e16_kind e16_text e16_cols e16_kids)).bind fun y18 =>
      req (x15.length + y18.length ≤ 1099511627776) <|
      some (x15 ++ y18)
     : Option ((List UInt8))).bind fun x14 =>
    m_r09_Dump_l1 F_r09_Dump a1_kids k x14 (IntKind.i64.wrap (x11 + 1))
  ) else (
    some x10
  )
def m_r09_Dump : Nat → Nd → Option (List UInt8)
| 0, _ => none
| n+1, ⟨a1_kind, a1_text, a1_cols, a1_kids⟩ =>
  (m_r09_Int n a1_kind).bind fun y2 =>
  req ([110, 111, 100, 101].length + y2.length ≤ 1099511627776) <|
  (
    bif decide (1 ≤ a1_kind) then (
      some (decide (a1_kind ≤ 12))
    ) else (
      some false
    )
   : Option (Bool)).bind fun x3 =>
  (
    bif x3 then (
      bif (a1_kind == 1) then (
        some [114, 111, 119]
      ) else (
        bif (a1_kind == 2) then (
          some [115, 121, 109]
        ) else (
          bif (a1_kind == 3) then (
            some [110, 117, 109]
          ) else (
            bif (a1_kind == 4) then (
              some [116, 101, 120, 116]
            ) else (
              bif (a1_kind == 5) then (
                some [102, 114, 97, 99]
              ) else (
                bif (a1_kind == 6) then (
                  some [114, 111, 111, 116]
                ) else (
                  bif (a1_kind == 7) then (
                    some [115, 117, 98]
                  ) else (
                    bif (a1_kind == 8) then (
                      some [115, 117, 112]
                    ) else (
                      bif (a1_kind == 9) then (
                        some [98, 111, 116, 104]
                      ) else (
                        bif (a1_kind == 10) then (
                          some [97, 99, 99, 101, 110, 116]
                        ) else (
                          bif (a1_kind == 11) then (
                            some [102, 101, 110, 99, 101]
                          ) else (
                            bif (a1_kind == 12) then (
                              some [109, 97, 116, 114, 105, 120]
                            ) else (
                              none
                            )
                          )
                        )
                      )
                    )
                  )
                )
              )
            )
          )
        )
      )
    ) else (
      some ([110, 111, 100, 101] ++ y2)
    )
   : Option ((List UInt8))).bind fun x4 =>
  (
    bif (!(a1_text == [])) then (
      req (x4.length + [58].length ≤ 1099511627776) <|
      (m_r09_Quoted n a1_text).bind fun y6 =>
      req ((x4 ++ [58]).length + y6.length ≤ 1099511627776) <|
      some ((x4 ++ [58]) ++ y6)
    ) else (
      some x4
    )
   : Option ((List UInt8))).bind fun x5 =>
  (
    bif (a1_cols != 0) then (
      req (x5.length + [42].length ≤ 1099511627776) <|
      (m_r09_Int n a1_cols).bind fun y8 =>
      req ((x5 ++ [42]).length + y8.length ≤ 1099511627776) <|
      some ((x5 ++ [42]) ++ y8)
    ) else (
      some x5
    )
   : Option ((List UInt8))).bind fun x7 =>
  bif ((a1_kids.length : Int) == 0) then (
    some x7
  ) else (
    req (x7.length + [40].length ≤ 1099511627776) <|
    (m_r09_Dump_l1 (m_r09_Dump n) a1_kids n (x7 ++ [40]) 0).bind fun x12 =>
    req (x12.length + [41].length ≤ 1099511627776) <|
    some (x12 ++ [41])
  )

/- (*strings.Builder).WriteString -/
def m_strings_Builder_WriteString : (List UInt8) → (List UInt8) → Option (Int × Unit × (List UInt8))
| s1, b2 =>
  (m_strings_Builder_copyCheck b2).bind fun b3 =>
  req (b3.length + s1.length ≤ 4294967296) <|
  some ((s1.length : Int), (), b3 ++ s1)

/- (*strings.Builder).WriteByte -/
def m_strings_Builder_WriteByte : UInt8 → (List UInt8) → Option (Unit × (List UInt8))
| c1, b2 =>
  (m_strings_Builder_copyCheck b2).bind fun b3 =>
  req (b3.length + [c1].length ≤ 4294967296) <|
  some ((), b3 ++ [c1])

/- (*vinculum/node.dumper).head -/
def m_node_dumper_head_l1 (a1_text : List UInt8) : Nat → Int → (List UInt8) → Option ((List UInt8))
| 0, _, _ => none
| k+1, x49, l50 =>
  bif decide (x49 < (a1_text.length : Int)) then (
    (
      (
        (at? a1_text x49).bind fun c54 =>
        bif ((c54.toNat : Int) == 34) then (
          some true
        ) else (
          (at? a1_text x49).bind fun c56 =>
          some ((c56.toNat : Int) == 92)
        )
       : Option (Bool)).bind fun x53 =>
      (
        bif x53 then (
          (m_strings_Builder_WriteByte (b8of 92) l50).bind fun ⟨_, b60⟩ =>
          some b60
        ) else (
          some l50
        )
       : Option ((List UInt8))).bind fun l58 =>
      (at? a1_text x49).bind fun c61 =>
      (m_strings_Builder_WriteByte c61 l58).bind fun ⟨_, b64⟩ =>
      some b64
     : Option ((List UInt8))).bind fun l52 =>
    m_node_dumper_head_l1 a1_text k (IntKind.i64.wrap (x49 + 1)) l52
  ) else (
    some l50
  )
def m_node_dumper_head (n : Nat) : Nd → (List UInt8) → Option (List UInt8)
| ⟨a1_kind, a1_text, a1_cols, a1_kids⟩, b2 =>
  (
    bif decide (1 ≤ a1_kind) then (
      some (decide (a1_kind ≤ 12))
    ) else (
      some false
    )
   : Option (Bool)).bind fun x3 =>
  (
    bif x3 then (
      bif (a1_kind == 1) then (
        (m_strings_Builder_WriteString [114, 111, 119] b2).bind fun ⟨y5, _, b7⟩ =>
        some b7
      ) else (
        bif (a1_kind == 2) then (
          (m_strings_Builder_WriteString [115, 121, 109] b2).bind fun ⟨y8, _, b10⟩ =>
          some b10
        ) else (
          bif (a1_kind == 3) then (
            (m_strings_Builder_WriteString [110, 117, 109] b2).bind fun ⟨y11, _, b13⟩ =>
            some b13
          ) else (
            bif (a1_kind == 4) then (
              (m_strings_Builder_WriteString [116, 101, 120, 116] b2).bind fun ⟨y14, _, b16⟩ =>
              some b16
            ) else (
              bif (a1_kind == 5) then (
                (m_strings_Builder_WriteString [102, 114, 97, 99] b2).bind fun ⟨y17, _, b19⟩ =>
                some b19
              ) else (
                bif (a1_kind == 6) then (
                  (m_strings_Builder_WriteString [114, 111, 111, 116] b2).bind fun ⟨y20, _, b22⟩ =>
                  some b22
                ) else (
                  bif (a1_kind == 7) then (
                    (m_strings_Builder_WriteString [115, 117, 98] b2).bind fun ⟨y23, _, b25⟩ =>
                    some b25
                  ) else (
                    bif (a1_kind == 8) then (
                      (m_strings_Builder_WriteString [115, 117, 112] b2).bind fun ⟨y26, _, b28⟩ =>
                      some b28
                    ) else (
                      bif (a1_kind == 9) then (
                        (m_strings_Builder_WriteString [98, 111, 116, 104] b2).bind fun ⟨y29, _, b31⟩ =>
                        some b31
                      ) else (
                        bif (a1_kind == 10) then (
                          (m_strings_Builder_WriteString [97, 99, 99, 101, 110, 116] b2).bind fun ⟨y32, _, b34⟩ =>
                          some b34
                        ) else (
                          bif (a1_kind == 11) then (
                            (m_strings_Builder_WriteString [102, 101, 110, 99, 101] b2).bind fun ⟨y35, _, b37⟩ =>
                            some b37
                          ) else (
                            bif (a1_kind == 12) then (
                              (m_strings_Builder_WriteString [109, 97, 116, 114, 105, 120] b2).bind fun ⟨y38, _, b40⟩ =>
                              some b40
                            ) else (
                              none
                            )
                          )
                        )
                      )
                    )
                  )
                )
              )
            )
          )
        )
      )
    ) else (
      (m_strconv_Itoa a1_kind).bind fun y41 =>
      req ([110, 111, 100, 101].length + y41.length ≤ 1099511627776) <|
      (m_strings_Builder_WriteString ([110, 111, 100, 101] ++ y41) b2).bind fun ⟨y42, _, b44⟩ =>
      some b44
    )
   : Option ((List UInt8))).bind fun l4 =>
  (
    bif (!(a1_text == [])) then (
      (m_strings_Builder_WriteString [58, 34] l4).bind fun ⟨y46, _, b48⟩ =>
      (m_node_dumper_head_l1 a1_text n 0 b48).bind fun l51 =>
      (m_strings_Builder_WriteByte (b8of 34) l51).bind fun ⟨_, b66⟩ =>
      some b66
    ) else (
      some l4
    )
   : Option ((List UInt8))).bind fun l45 =>
  bif (a1_cols != 0) then (
    (m_strconv_Itoa a1_cols).bind fun y67 =>
    req ([42].length + y67.length ≤ 1099511627776) <|
    (m_strings_Builder_WriteString ([42] ++ y67) l45).bind fun ⟨y68, _, b70⟩ =>
    some b70
  ) else (
    some l45
  )

/- vinculum/node.Dump -/
def m_node_Dump_l1 (n : Nat) : Nat → (List UInt8) → (List (Nd × Int)) → Option ((List UInt8))
| 0, _, _ => none
| k+1, l5, l6 =>
  bif decide (0 < (l6.length : Int)) then (
    (at? l6 (IntKind.i64.wrap ((l6.length : Int) - 1))).bind fun ⟨⟨e10_node_kind, e10_node_text, e10_node_cols, e10_node_kids⟩, e10_kids⟩ =>
    bif (e10_kids == (e10_node_kids.length : Int)) then (
      (
        bif decide (0 < e10_kids) then (
          (m_strings_Builder_WriteByte (b8of 41) l5).bind fun ⟨_, b14⟩ =>
          some b14
        ) else (
          some l5
        )
       : Option ((List UInt8))).bind fun l12 =>
      req (0 ≤ IntKind.i64.wrap ((l6.length : Int) - 1) ∧ IntKind.i64.wrap ((l6.length : Int) - 1) ≤ (l6.length : Int)) <|
      m_node_Dump_l1 n k l12 (l6.take (IntKind.i64.wrap ((l6.length : Int) - 1)).toNat)
    ) else (
      (at? e10_node_kids e10_kids).bind fun ⟨e17_kind, e17_text, e17_cols, e17_kids⟩ =>
      (at? ([40, 32] : List UInt8) (if 1 < e10_kids then 1 else e10_kids)).bind fun c19 =>
      (m_strings_Builder_WriteByte c19 l5).bind fun ⟨_, b22⟩ =>
      (m_node_dumper_head n (Nd.mk e17_kind e17_text e17_cols e17_kids) b22).bind fun b23 =>
      req ((l6.set (IntKind.i64.wrap ((l6.length : Int) - 1)).toNat (Nd.mk e10_node_kind e10_node_text e10_node_cols e10_node_kids, IntKind.i64.wrap (e10_kids + 1))).length + [(Nd.mk e17_kind e17_text e17_cols e17_kids, 0)].length ≤ 4294967296) <|
      m_node_Dump_l1 n k b23 ((l6.set (IntKind.i64.wrap ((l6.length : Int) - 1)).toNat (Nd.mk e10_node_kind e10_node_text e10_node_cols e10_node_kids, IntKind.i64.wrap (e10_kids + 1))) ++ [(Nd.mk e17_kind e17_text e17_cols e17_kids, 0)])
    )
  ) else (
    some l5
  )
def m_node_Dump (n : Nat) : Nd → Option (List UInt8)
| ⟨a1_kind, a1_text, a1_cols, a1_kids⟩ =>
  (m_node_kinds ).bind fun _ =>
  (m_node_dumper_head n (Nd.mk a1_kind a1_text a1_cols a1_kids) []).bind fun b3 =>
  (m_node_Dump_l1 n n b3 [(Nd.mk a1_kind a1_text a1_cols a1_kids, 0)]).bind fun l7 =>
  (m_strings_Builder_String l7).bind fun y25 =>
  some y25

/- vinculum/vinculumlaw09.awake -/
def m_l09_awake (n : Nat) : Option Bool
:=
  (
    (m_node_Valid n (Nd.mk 1 [] 0 [Nd.mk 2 [120] 0 [], Nd.mk 5 [] 0 [Nd.mk 1 [] 0 [], Nd.mk 1 [] 0 []]])).bind fun y4 =>
    bif y4 then (
      (m_node_Dump n (Nd.mk 1 [] 0 [Nd.mk 2 [120] 0 [], Nd.mk 5 [] 0 [Nd.mk 1 [] 0 [], Nd.mk 1 [] 0 []]])).bind fun y5 =>
      some (y5 == [114, 111, 119, 40, 115, 121, 109, 58, 34, 120, 34, 32, 102, 114, 97, 99, 40, 114, 111, 119, 32, 114, 111, 119, 41, 41])
    ) else (
      some false
    )
   : Option (Bool)).bind fun x3 =>
  some x3

/- vinculum/vinculumlaw09.NodeNames -/
def m_l09_NodeNames (n : Nat) : (List UInt8) → Option Bool
| s1 =>
  (
    (m_l09_awake n ).bind fun y3 =>
    bif y3 then (
      (m_node_Symbol n s1).bind fun y4 =>
      (m_r09_Symbol n s1).bind fun y5 =>
      bif (y4 == y5) then (
        (m_node_Number n s1).bind fun y6 =>
        (m_r09_Number n s1).bind fun y7 =>
        some (y6 == y7)
      ) else (
        some false
      )
    ) else (
      some false
    )
   : Option (Bool)).bind fun x2 =>
  some x2

/- vinculum/vinculumlaw09.few -/
def m_l09_few (n : Nat) : Nd → Option Bool
| ⟨n1_kind, n1_text, n1_cols, n1_kids⟩ =>
  (m_r09_Few n (Nd.mk n1_kind n1_text n1_cols n1_kids) 300).bind fun y2 =>
  some y2

/- vinculum/vinculumlaw09.NodeDump -/
def m_l09_NodeDump (n : Nat) : Nd → Nd → Option Bool
| ⟨a1_kind, a1_text, a1_cols, a1_kids⟩, ⟨b2_kind, b2_text, b2_cols, b2_kids⟩ =>
  (
    (m_l09_awake n ).bind fun y4 =>
    bif (!y4) then (
      some true
    ) else (
      (m_l09_few n (Nd.mk a1_kind a1_text a1_cols a1_kids)).bind fun y5 =>
      bif (!y5) then (
        some true
      ) else (
        (m_l09_few n (Nd.mk b2_kind b2_text b2_cols b2_kids)).bind fun y6 =>
        some (!y6)
      )
    )
   : Option (Bool)).bind fun x3 =>
  bif x3 then (
    (m_l09_awake n ).bind fun y7 =>
    some y7
  ) else (
    (m_node_Dump n (Nd.mk a1_kind a1_text a1_cols a1_kids)).bind fun y8 =>
    (m_node_Dump n (Nd.mk b2_kind b2_text b2_cols b2_kids)).bind fun y9 =>
    (
      (m_r09_Dump n (Nd.mk a1_kind a1_text a1_cols a1_kids)).bind fun y11 =>
      bif (y8 == y11) then (
        (m_r09_Equal n (Nd.mk a1_kind a1_text a1_cols a1_kids) (Nd.mk b2_kind b2_text b2_cols b2_kids)).bind fun y12 =>
        some ((y8 == y9) == y12)
      ) else (
        some false
      )
     : Option (Bool)).bind fun x10 =>
    some x10
  )

/- vinculum/node.Slots -/
def m_node_Slots : Nd → Option Int
| ⟨n1_kind, n1_text, n1_cols, n1_kids⟩ =>
  bif (n1_kind == 1) then (
    some 0
  ) else (
    some (n1_kids.length : Int)
  )

/- vinculum/vinculumref09.Slots -/
def m_r09_Slots : Nd → Option Int
| ⟨n1_kind, n1_text, n1_cols, n1_kids⟩ =>
  bif (n1_kind == 1) then (
    some 0
  ) else (
    some (n1_kids.length : Int)
  )

/- vinculum/node.ValidItems -/
def m_node_ValidItems (n : Nat) : (List Nd) → Option Bool
| l1 =>
  (m_node_Valid n (Nd.mk 1 [] 0 l1)).bind fun y2 =>
  some y2

/- vinculum/vinculumlaw09.NodeValid -/
def m_l09_NodeValid_l1 (n1_kids : List Nd) : Nat → Int → Option (Fl Bool Unit)
| 0, _ => none
| k+1, x7 =>
  bif decide (x7 < (n1_kids.length : Int)) then (
    (at? n1_kids x7).bind fun ⟨e8_kind, e8_text, e8_cols, e8_kids⟩ =>
    (m_node_Slots (Nd.mk e8_kind e8_text e8_cols e8_kids)).bind fun y10 =>
    (m_r09_Slots (Nd.mk e8_kind e8_text e8_cols e8_kids)).bind fun y11 =>
    bif (y10 != y11) then (
      some (.ret false)
    ) else (
      m_l09_NodeValid_l1 n1_kids k (IntKind.i64.wrap (x7 + 1))
    )
  ) else (
    some (.go ())
  )
def m_l09_NodeValid (n : Nat) : Nd → Option Bool
| ⟨n1_kind, n1_text, n1_cols, n1_kids⟩ =>
  (
    (m_l09_awake n ).bind fun y3 =>
    bif (!y3) then (
      some true
    ) else (
      (m_r09_Few n (Nd.mk n1_kind n1_text n1_cols n1_kids) 1100).bind fun y4 =>
      some (!y4)
    )
   : Option (Bool)).bind fun x2 =>
  bif x2 then (
    (m_l09_awake n ).bind fun y5 =>
    some y5
  ) else (
    (m_l09_NodeValid_l1 n1_kids n 0).bind fun fl => match fl with
    | .ret r => some r
    | .go _ =>
      (
        (m_node_Valid n (Nd.mk n1_kind n1_text n1_cols n1_kids)).bind fun y13 =>
        (m_r09_Valid n (Nd.mk n1_kind n1_text n1_cols n1_kids)).bind fun y14 =>
        bif (y13 == y14) then (
          (m_node_ValidItems n n1_kids).bind fun y15 =>
          (m_r09_ValidItems n n1_kids).bind fun y16 =>
          bif (y15 == y16) then (
            (m_node_Slots (Nd.mk n1_kind n1_text n1_cols n1_kids)).bind fun y17 =>
            (m_r09_Slots (Nd.mk n1_kind n1_text n1_cols n1_kids)).bind fun y18 =>
            some (y17 == y18)
          ) else (
            some false
          )
        ) else (
          some false
        )
       : Option (Bool)).bind fun x12 =>
      some x12
  )

/- a knot: vinculum/node.Equal, slices.EqualFunc[[]vinculum/api.Node,[]vinculum/api.Node,vinculum/api.Node,vinculum/api.Node] -/
def m_slices_EqualFunc_sNode_l1 (F_node_Equal : Nd → Nd → Option Bool) (s11 : List Nd) (s22 : List Nd) : Nat → Int → Option (Fl Bool Unit)
| 0, _ => none
| k+1, x6 =>
  bif decide (x6 < (s11.length : Int)) then (
    (at? s11 x6).bind fun ⟨e7_kind, e7_text, e7_cols, e7_kids⟩ =>
    (at? s22 x6).bind fun ⟨e9_kind, e9_text, e9_cols, e9_kids⟩ =>
    (F_node_Equal (Nd.mk e7_kind e7_text e7_cols e7_kids) (Nd.mk e9_kind e9_text e9_cols e9_kids)).bind fun y11 =>
    bif (!y11) then (
      some (.ret false)
    ) else (
      m_slices_EqualFunc_sNode_l1 F_node_Equal s11 s22 k (IntKind.i64.wrap (x6 + 1))
    )
  ) else (
    some (.go ())
  )
mutual
def m_node_Equal : Nat → Nd → Nd → Option Bool
| 0, _, _ => none
| n+1, ⟨a1_kind, a1_text, a1_cols, a1_kids⟩, ⟨b2_kind, b2_text, b2_cols, b2_kids⟩ =>
  (
    bif (a1_kind == b2_kind) then (
      bif (a1_text == b2_text) then (
        bif (a1_cols == b2_cols) then (
          (m_slices_EqualFunc_sNode n a1_kids b2_kids).bind fun y4 =>
          some y4
        ) else (
          some false
        )
      ) else (
        some false
      )
    ) else (
      some false
    )
   : Option (Bool)).bind fun x3 =>
  some x3
def m_slices_EqualFunc_sNode : Nat → (List Nd) → (List Nd) → Option Bool
| 0, _, _ => none
| n+1, s11, s22 =>
  bif ((s11.length : Int) != (s22.length : Int)) then (
    some false
  ) else (
    (m_slices_EqualFunc_sNode_l1 (m_node_Equal n) s11 s22 n 0).bind fun fl => match fl with
    | .ret r => some r
    | .go _ =>
      some true
  )
end

/- vinculum/vinculumlaw09.NodeEqual -/
def m_l09_NodeEqual (n : Nat) : Nd → Nd → Option Bool
| ⟨a1_kind, a1_text, a1_cols, a1_kids⟩, ⟨b2_kind, b2_text, b2_cols, b2_kids⟩ =>
  (
    (m_l09_awake n ).bind fun y4 =>
    bif (!y4) then (
      some true
    ) else (
      (m_l09_few n (Nd.mk a1_kind a1_text a1_cols a1_kids)).bind fun y5 =>
      bif (!y5) then (
        some true
      ) else (
        (m_l09_few n (Nd.mk b2_kind b2_text b2_cols b2_kids)).bind fun y6 =>
        some (!y6)
      )
    )
   : Option (Bool)).bind fun x3 =>
  bif x3 then (
    (m_l09_awake n ).bind fun y7 =>
    some y7
  ) else (
    (m_node_Equal n (Nd.mk a1_kind a1_text a1_cols a1_kids) (Nd.mk b2_kind b2_text b2_cols b2_kids)).bind fun y8 =>
    (
      (m_r09_Equal n (Nd.mk a1_kind a1_text a1_cols a1_kids) (Nd.mk b2_kind b2_text b2_cols b2_kids)).bind fun y10 =>
      bif (y8 == y10) then (
        (m_node_Equal n (Nd.mk b2_kind b2_text b2_cols b2_kids) (Nd.mk a1_kind a1_text a1_cols a1_kids)).bind fun y11 =>
        bif (y8 == y11) then (
          (m_node_Equal n (Nd.mk a1_kind a1_text a1_cols a1_kids) (Nd.mk a1_kind a1_text a1_cols a1_kids)).bind fun y12 =>
          some y12
        ) else (
          some false
        )
      ) else (
        some false
      )
     : Option (Bool)).bind fun x9 =>
    some x9
  )

/- vinculum/node.Depth$1 -/
def m_node_Depth_1 : Int → Int → Option Int
| depth1, o2 =>
  some (if o2 < depth1 then depth1 else o2)

/- vinculum/node.each -/
def m_node_each_depth_l2 (e9_node_kids : List Nd) (e9_depth : Int) : Nat → Int → (List (Nd × Int)) → Option ((List (Nd × Int)))
| 0, _, _ => none
| k+1, x13, l15 =>
  bif decide (x13 < (e9_node_kids.length : Int)) then (
    (at? e9_node_kids x13).bind fun ⟨e17_kind, e17_text, e17_cols, e17_kids⟩ =>
    req (l15.length + [(Nd.mk e17_kind e17_text e17_cols e17_kids, IntKind.i64.wrap (e9_depth + 1))].length ≤ 4294967296) <|
    m_node_each_depth_l2 e9_node_kids e9_depth k (IntKind.i64.wrap (x13 + 1)) (l15 ++ [(Nd.mk e17_kind e17_text e17_cols e17_kids, IntKind.i64.wrap (e9_depth + 1))])
  ) else (
    some l15
  )
def m_node_each_depth_l1 (n : Nat) : Nat → Int → (List (Nd × Int)) → Option (Int)
| 0, _, _ => none
| k+1, x3, l5 =>
  bif decide (0 < (l5.length : Int)) then (
    (at? l5 (IntKind.i64.wrap ((l5.length : Int) - 1))).bind fun ⟨⟨e9_node_kind, e9_node_text, e9_node_cols, e9_node_kids⟩, e9_depth⟩ =>
    req (0 ≤ IntKind.i64.wrap ((l5.length : Int) - 1) ∧ IntKind.i64.wrap ((l5.length : Int) - 1) ≤ (l5.length : Int)) <|
    (m_node_Depth_1 e9_depth x3).bind fun w11 =>
    (m_node_each_depth_l2 e9_node_kids e9_depth n 0 (l5.take (IntKind.i64.wrap ((l5.length : Int) - 1)).toNat)).bind fun l16 =>
    m_node_each_depth_l1 n k w11 l16
  ) else (
    some x3
  )
def m_node_each_depth (n : Nat) : Nd → Int → Option Int
| ⟨n1_kind, n1_text, n1_cols, n1_kids⟩, o2 =>
  (m_node_each_depth_l1 n n o2 [(Nd.mk n1_kind n1_text n1_cols n1_kids, 1)]).bind fun x6 =>
  some x6

/- vinculum/node.Depth -/
def m_node_Depth (n : Nat) : Nd → Option Int
| ⟨n1_kind, n1_text, n1_cols, n1_kids⟩ =>
  (m_node_each_depth n (Nd.mk n1_kind n1_text n1_cols n1_kids) 0).bind fun w2 =>
  some w2

/- vinculum/vinculumlaw09.NodeSizes -/
def m_l09_NodeSizes (n : Nat) : Nd → Option Bool
| ⟨n1_kind, n1_text, n1_cols, n1_kids⟩ =>
  (
    (m_l09_awake n ).bind fun y3 =>
    bif (!y3) then (
      some true
    ) else (
      (m_l09_few n (Nd.mk n1_kind n1_text n1_cols n1_kids)).bind fun y4 =>
      some (!y4)
    )
   : Option (Bool)).bind fun x2 =>
  bif x2 then (
    (m_l09_awake n ).bind fun y5 =>
    some y5
  ) else (
    (
      (m_node_Count n (Nd.mk n1_kind n1_text n1_cols n1_kids)).bind fun y7 =>
      (m_r09_Count n (Nd.mk n1_kind n1_text n1_cols n1_kids)).bind fun y8 =>
      bif (y7 == y8) then (
        (m_node_Depth n (Nd.mk n1_kind n1_text n1_cols n1_kids)).bind fun y9 =>
        (m_r09_Depth n (Nd.mk n1_kind n1_text n1_cols n1_kids)).bind fun y10 =>
        some (y9 == y10)
      ) else (
        some false
      )
     : Option (Bool)).bind fun x6 =>
    some x6
  )

/- vinculum/diff.align -/
def m_diff_align_l1 (n : Nat) (a1 : List Nd) (a2 : List Nd) (y3_least : List (List Int)) (y3_pair : List (List Int)) (y3_first : List Int) (y3_other : List Int) : Nat → Int → Int → (List (Int × Int)) → Option ((List (Int × Int)))
| 0, _, _, _ => none
| k+1, x5, x6, l7 =>
  (
    bif decide (x5 < (a1.length : Int)) then (
      some (decide (x6 < (a2.length : Int)))
    ) else (
      some false
    )
   : Option (Bool)).bind fun x9 =>
  bif x9 then (
    (at? y3_least x5).bind fun e12 =>
    (at? e12 x6).bind fun e14 =>
    (at? y3_least (IntKind.i64.wrap (x5 + 1))).bind fun e16 =>
    (at? e16 x6).bind fun e18 =>
    (at? y3_first x5).bind fun e20 =>
    (at? y3_least x5).bind fun e22 =>
    (at? e22 (IntKind.i64.wrap (x6 + 1))).bind fun e24 =>
    (at? y3_other x6).bind fun e26 =>
    (
      (at? y3_pair x5).bind fun e29 =>
      (at? e29 x6).bind fun e31 =>
      bif decide (0 ≤ e31) then (
        (at? y3_least (IntKind.i64.wrap (x5 + 1))).bind fun e33 =>
        (at? e33 (IntKind.i64.wrap (x6 + 1))).bind fun e35 =>
        (at? y3_pair x5).bind fun e37 =>
        (at? e37 x6).bind fun e39 =>
        some (e14 == (IntKind.i64.wrap (e35 + e39)))
      ) else (
        some false
      )
     : Option (Bool)).bind fun x28 =>
    bif x28 then (
      req (l7.length + [(x5, x6)].length ≤ 4294967296) <|
      m_diff_align_l1 n a1 a2 y3_least y3_pair y3_first y3_other k (IntKind.i64.wrap (x5 + 1)) (IntKind.i64.wrap (x6 + 1)) (l7 ++ [(x5, x6)])
    ) else (
      (
        bif (e14 == (IntKind.i64.wrap (e18 + e20))) then (
          bif (!(e14 == (IntKind.i64.wrap (e24 + e26)))) then (
            some true
          ) else (
            (at? a1 x5).bind fun ⟨e43_kind, e43_text, e43_cols, e43_kids⟩ =>
            (m_node_Dump n (Nd.mk e43_kind e43_text e43_cols e43_kids)).bind fun y45 =>
            (at? a2 x6).bind fun ⟨e46_kind, e46_text, e46_cols, e46_kids⟩ =>
            (m_node_Dump n (Nd.mk e46_kind e46_text e46_cols e46_kids)).bind fun y48 =>
            some (Op.bytesLess y45 y48)
          )
        ) else (
          some false
        )
       : Option (Bool)).bind fun x42 =>
      bif x42 then (
        m_diff_align_l1 n a1 a2 y3_least y3_pair y3_first y3_other k (IntKind.i64.wrap (x5 + 1)) x6 l7
      ) else (
        m_diff_align_l1 n a1 a2 y3_least y3_pair y3_first y3_other k x5 (IntKind.i64.wrap (x6 + 1)) l7
      )
    )
  ) else (
    some l7
  )
def m_diff_align (n : Nat) : (List Nd) → (List Nd) → Option (List (Int × Int))
| a1, a2 =>
  (m_diff_fill n a1 a2).bind fun ⟨y3_least, y3_pair, y3_first, y3_other⟩ =>
  (m_diff_align_l1 n a1 a2 y3_least y3_pair y3_first y3_other n 0 0 []).bind fun l8 =>
  some l8

/- vinculum/diff.Align -/
def m_diff_Align (n : Nat) : Nd → Nd → Option ((List (Int × Int)) × Int)
| ⟨a1_kind, a1_text, a1_cols, a1_kids⟩, ⟨b2_kind, b2_text, b2_cols, b2_kids⟩ =>
  (m_diff_valid n (Nd.mk a1_kind a1_text a1_cols a1_kids) (Nd.mk b2_kind b2_text b2_cols b2_kids)).bind fun y3 =>
  bif (!y3) then (
    some ([], 1)
  ) else (
    (m_diff_align n a1_kids b2_kids).bind fun y4 =>
    some (y4, 0)
  )

/- vinculum/vinculumref16.Pairs -/
def m_r16_Pairs_l1 (n : Nat) (a1 : List Nd) (a2 : List Nd) (y3 : List (List Int)) : Nat → Int → Int → (List (Int × Int)) → Option ((List (Int × Int)))
| 0, _, _, _ => none
| k+1, x5, x6, l7 =>
  (
    bif decide (x5 < (a1.length : Int)) then (
      some (decide (x6 < (a2.length : Int)))
    ) else (
      some false
    )
   : Option (Bool)).bind fun x9 =>
  bif x9 then (
    (at? a1 x5).bind fun ⟨e12_kind, e12_text, e12_cols, e12_kids⟩ =>
    (m_r09_Count n (Nd.mk e12_kind e12_text e12_cols e12_kids)).bind fun y14 =>
    (at? y3 (IntKind.i64.wrap (x5 + 1))).bind fun e15 =>
    (at? e15 x6).bind fun e17 =>
    (at? y3 x5).bind fun e19 =>
    (at? e19 x6).bind fun e21 =>
    (at? a2 x6).bind fun ⟨e23_kind, e23_text, e23_cols, e23_kids⟩ =>
    (m_r09_Count n (Nd.mk e23_kind e23_text e23_cols e23_kids)).bind fun y25 =>
    (at? y3 x5).bind fun e26 =>
    (at? e26 (IntKind.i64.wrap (x6 + 1))).bind fun e28 =>
    (at? y3 x5).bind fun e30 =>
    (at? e30 x6).bind fun e32 =>
    (
      (at? a1 x5).bind fun ⟨e35_kind, e35_text, e35_cols, e35_kids⟩ =>
      (at? a2 x6).bind fun ⟨e37_kind, e37_text, e37_cols, e37_kids⟩ =>
      (m_r16_Alike (Nd.mk e35_kind e35_text e35_cols e35_kids) (Nd.mk e37_kind e37_text e37_cols e37_kids)).bind fun y39 =>
      bif y39 then (
        (at? a1 x5).bind fun ⟨e40_kind, e40_text, e40_cols, e40_kids⟩ =>
        (at? a2 x6).bind fun ⟨e42_kind, e42_text, e42_cols, e42_kids⟩ =>
        (m_r16_pair n (Nd.mk e40_kind e40_text e40_cols e40_kids) (Nd.mk e42_kind e42_text e42_cols e42_kids)).bind fun y44 =>
        (at? y3 (IntKind.i64.wrap (x5 + 1))).bind fun e45 =>
        (at? e45 (IntKind.i64.wrap (x6 + 1))).bind fun e47 =>
        (at? y3 x5).bind fun e49 =>
        (at? e49 x6).bind fun e51 =>
        some ((IntKind.i64.wrap (y44 + e47)) == e51)
      ) else (
        some false
      )
     : Option (Bool)).bind fun x34 =>
    bif x34 then (
      req (l7.length + [(x5, x6)].length ≤ 4294967296) <|
      m_r16_Pairs_l1 n a1 a2 y3 k (IntKind.i64.wrap (x5 + 1)) (IntKind.i64.wrap (x6 + 1)) (l7 ++ [(x5, x6)])
    ) else (
      (
        bif ((IntKind.i64.wrap (y14 + e17)) == e21) then (
          bif (!((IntKind.i64.wrap (y25 + e28)) == e32)) then (
            some true
          ) else (
            (at? a1 x5).bind fun ⟨e55_kind, e55_text, e55_cols, e55_kids⟩ =>
            (m_r09_Dump n (Nd.mk e55_kind e55_text e55_cols e55_kids)).bind fun y57 =>
            (at? a2 x6).bind fun ⟨e58_kind, e58_text, e58_cols, e58_kids⟩ =>
            (m_r09_Dump n (Nd.mk e58_kind e58_text e58_cols e58_kids)).bind fun y60 =>
            some (Op.bytesLess y57 y60)
          )
        ) else (
          some false
        )
       : Option (Bool)).bind fun x54 =>
      bif x54 then (
        m_r16_Pairs_l1 n a1 a2 y3 k (IntKind.i64.wrap (x5 + 1)) x6 l7
      ) else (
        m_r16_Pairs_l1 n a1 a2 y3 k x5 (IntKind.i64.wrap (x6 + 1)) l7
      )
    )
  ) else (
    some l7
  )
def m_r16_Pairs (n : Nat) : (List Nd) → (List Nd) → Option (List (Int × Int))
| a1, a2 =>
  (m_r16_table n a1 a2).bind fun y3 =>
  (m_r16_Pairs_l1 n a1 a2 y3 n 0 0 []).bind fun l8 =>
  some l8

/- vinculum/vinculumref16.SamePairs -/
def m_r16_SamePairs_l1 (a1 : List (Int × Int)) (b2 : List (Int × Int)) : Nat → Int → Option (Fl Bool Unit)
| 0, _ => none
| k+1, i5 =>
  bif decide (i5 < (a1.length : Int)) then (
    (at? a1 i5).bind fun ⟨e7_0, e7_1⟩ =>
    (at? b2 i5).bind fun ⟨e9_0, e9_1⟩ =>
    bif (!(e7_0 == e9_0 && e7_1 == e9_1)) then (
      some (.ret false)
    ) else (
      m_r16_SamePairs_l1 a1 b2 k (IntKind.i64.wrap (i5 + 1))
    )
  ) else (
    some (.go ())
  )
def m_r16_SamePairs (n : Nat) : (List (Int × Int)) → (List (Int × Int)) → Option Bool
| a1, b2 =>
  bif ((a1.length : Int) != (b2.length : Int)) then (
    some false
  ) else (
    (m_r16_SamePairs_l1 a1 b2 n 0).bind fun fl => match fl with
    | .ret r => some r
    | .go _ =>
      some true
  )

/- vinculum/vinculumlaw16.DiffAligns -/
def m_l16_DiffAligns (n : Nat) : Nd → Nd → Option Bool
| ⟨a1_kind, a1_text, a1_cols, a1_kids⟩, ⟨b2_kind, b2_text, b2_cols, b2_kids⟩ =>
  (m_l16_awake n ).bind fun y3 =>
  bif (!y3) then (
    some false
  ) else (
    (m_l16_few n (Nd.mk a1_kind a1_text a1_cols a1_kids) (Nd.mk b2_kind b2_text b2_cols b2_kids)).bind fun y4 =>
    bif (!y4) then (
      some true
    ) else (
      (m_diff_Align n (Nd.mk a1_kind a1_text a1_cols a1_kids) (Nd.mk b2_kind b2_text b2_cols b2_kids)).bind fun ⟨y5, y6⟩ =>
      (
        (m_r09_Valid n (Nd.mk a1_kind a1_text a1_cols a1_kids)).bind fun y8 =>
        bif (!y8) then (
          some true
        ) else (
          (m_r09_Valid n (Nd.mk b2_kind b2_text b2_cols b2_kids)).bind fun y9 =>
          some (!y9)
        )
       : Option (Bool)).bind fun x7 =>
      bif x7 then (
        (
          bif ((y5.length : Int) == 0) then (
            some (y6 == 1)
          ) else (
            some false
          )
         : Option (Bool)).bind fun x10 =>
        some x10
      ) else (
        (
          bif (y6 == 0) then (
            (m_r16_Pairs n a1_kids b2_kids).bind fun y13 =>
            (m_r16_SamePairs n y5 y13).bind fun y14 =>
            some y14
          ) else (
            some false
          )
         : Option (Bool)).bind fun x12 =>
        some x12
      )
    )
  )

/- vinculum/vinculumlaw16.DiffSymmetric -/
def m_l16_DiffSymmetric_l1 (y5 : List (Int × Int)) (y7 : List (Int × Int)) : Nat → Int → Option (Fl Bool Unit)
| 0, _ => none
| k+1, x12 =>
  bif decide (x12 < (y5.length : Int)) then (
    (
      (at? y5 x12).bind fun ⟨e15_0, e15_1⟩ =>
      (at? y7 x12).bind fun ⟨e17_0, e17_1⟩ =>
      bif (e15_0 != e17_1) then (
        some true
      ) else (
        (at? y5 x12).bind fun ⟨e19_0, e19_1⟩ =>
        (at? y7 x12).bind fun ⟨e21_0, e21_1⟩ =>
        some (e19_1 != e21_0)
      )
     : Option (Bool)).bind fun x14 =>
    bif x14 then (
      some (.ret false)
    ) else (
      m_l16_DiffSymmetric_l1 y5 y7 k (IntKind.i64.wrap (x12 + 1))
    )
  ) else (
    some (.go ())
  )
def m_l16_DiffSymmetric (n : Nat) : Nd → Nd → Option Bool
| ⟨a1_kind, a1_text, a1_cols, a1_kids⟩, ⟨a2_kind, a2_text, a2_cols, a2_kids⟩ =>
  (m_l16_awake n ).bind fun y3 =>
  bif (!y3) then (
    some false
  ) else (
    (m_l16_few n (Nd.mk a1_kind a1_text a1_cols a1_kids) (Nd.mk a2_kind a2_text a2_cols a2_kids)).bind fun y4 =>
    bif (!y4) then (
      some true
    ) else (
      (m_diff_Align n (Nd.mk a1_kind a1_text a1_cols a1_kids) (Nd.mk a2_kind a2_text a2_cols a2_kids)).bind fun ⟨y5, y6⟩ =>
      (m_diff_Align n (Nd.mk a2_kind a2_text a2_cols a2_kids) (Nd.mk a1_kind a1_text a1_cols a1_kids)).bind fun ⟨y7, y8⟩ =>
      (
        bif (y6 != y8) then (
          some true
        ) else (
          some ((y5.length : Int) != (y7.length : Int))
        )
       : Option (Bool)).bind fun x9 =>
      bif x9 then (
        some false
      ) else (
        (m_l16_DiffSymmetric_l1 y5 y7 n 0).bind fun fl => match fl with
        | .ret r => some r
        | .go _ =>
          some true
      )
    )
  )
end Go.Proofs.YtefbmooajknmgaaDoor
