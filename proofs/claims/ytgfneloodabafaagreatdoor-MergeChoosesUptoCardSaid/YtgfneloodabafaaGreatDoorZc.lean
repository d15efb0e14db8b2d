/-
  Joined out of: MNod, MCnt, AbsS, AbsT, AbsU, AbsV, AbsW, AbsX, MOwn, MgA, LibS, LibI, LibB, LibD, LibR, RwA, MEd, MMg, MMz.
-/
import Derived.Test.YtgfneloodabafaaGreatDoorProg
import Derived.KernelRfl
import Derived.Lib.Strings
import Derived.Lib.Slices
import Derived.Lib.Walk
import Derived.Lib.Bytealg
import Derived.Shelf.LaysM
import Derived.Shelf.Strconv.Itoa3
import Derived.Lib.Builder
import Derived.Lib.AppendStr
import Derived.Lib.UnsafeStr
import Derived.Laws.Externs
import Derived.Shelf.RegionOpenPlain
import Derived.WalkKit
import Derived.Lib.SliceRun
import Derived.Lib.AppendZerosOnto
import Derived.Test.YtgfneloodabafaaGreatDoorZb
set_option linter.unusedVariables false
set_option linter.unusedSimpArgs false
set_option maxHeartbeats 2000000
set_option maxRecDepth 100000
namespace Go.Proofs.YtgfneloodabafaaGreatDoor
open Go.Abs
def zB4 : (List UInt8) → Option Bool
| s1 =>
 some (s1 == [])
def zBw (s1 : List UInt8) : Nat → Int → Option (Fl Bool Unit)
| 0,_ => none
| k+1,i2 =>
 bif decide (i2 < (s1.length : Int)) then (
  (at? s1 i2).bind fun c3 =>
  (
   bif decide ((zKf .or .u8 (c3.toNat : Int) 32) < 97) then (
    some true
   ) else (
    some (decide (122 < (zKf .or .u8 (c3.toNat : Int) 32)))
   )
   : Option (Bool)).bind fun x5 =>
  bif x5 then (
   some (.ret false)
  ) else (
   zBw s1 k (IntKind.i64.wrap (i2 + 1))
  )
 ) else (
  some (.go ())
 )
def zCR (n : Nat) : (List UInt8) → Option Bool
| s1 =>
 (zBw s1 n 0).bind fun fl => match fl with
 | .ret r => some r
 | .go _ =>
  some true
def zDy : (List UInt8) → Option Bool
| s1 =>
 (
  (
   bif (s1 == [102,114,97,99]) then (
    some (s1 == [102,114,97,99])
   ) else (
    bif (s1 == [114,111,111,116]) then (
     some (s1 == [114,111,111,116])
    ) else (
     bif (s1 == [109,97,116,114,105,120]) then (
      some (s1 == [109,97,116,114,105,120])
     ) else (
      some (s1 == [102,101,110,99,101])
     )
    )
   )
   : Option (Bool)).bind fun x2 =>
  bif x2 then (
   some (.ret true)
  ) else (
   some (.go ())
  )
  : Option (Fl Bool Unit)).bind fun fl => match fl with
 | .ret r => some r
 | .go _ =>
  some false
def zDk : (List UInt8) → Option Bool
| s1 =>
 (
  (
   bif (s1 == [104,97,116]) then (
    some (s1 == [104,97,116])
   ) else (
    bif (s1 == [98,97,114]) then (
     some (s1 == [98,97,114])
    ) else (
     bif (s1 == [118,101,99]) then (
      some (s1 == [118,101,99])
     ) else (
      bif (s1 == [100,111,116]) then (
       some (s1 == [100,111,116])
      ) else (
       bif (s1 == [116,105,108,100,101]) then (
        some (s1 == [116,105,108,100,101])
       ) else (
        some (s1 == [99,104,101,99,107])
       )
      )
     )
    )
   )
   : Option (Bool)).bind fun x2 =>
  bif x2 then (
   some (.ret true)
  ) else (
   some (.go ())
  )
  : Option (Fl Bool Unit)).bind fun fl => match fl with
 | .ret r => some r
 | .go _ =>
  some false
def zDS (n : Nat) : (List UInt8) → Option Bool
| s1 =>
 bif ((s1.length : Int) == 1) then (
  (
   (zCR n s1).bind fun y3 =>
   bif y3 then (
    some true
   ) else (
    (zDV [43,45,42,47,61,60,62,44,59,58,33,124,39,63,126,64] s1).bind fun y4 =>
    some y4
   )
   : Option (Bool)).bind fun x2 =>
  some x2
 ) else (
  (
   bif decide (2 ≤ (s1.length : Int)) then (
    bif decide ((s1.length : Int) ≤ 16) then (
     (zCR n s1).bind fun y6 =>
     bif y6 then (
      (zDy s1).bind fun y7 =>
      bif (!y7) then (
       (zDk s1).bind fun y8 =>
       some (!y8)
      ) else (
       some false
      )
     ) else (
      some false
     )
    ) else (
     some false
    )
   ) else (
    some false
   )
   : Option (Bool)).bind fun x5 =>
  some x5
 )
def zCw : (List UInt8) → (List UInt8) → Option ((List UInt8) × (List UInt8) × Bool)
| s1,sep2 =>
 (zDD s1 sep2).bind fun y3 =>
 bif decide (0 ≤ y3) then (
  req (0 ≤ (0 : Int) ∧ (0 : Int) ≤ y3 ∧ y3 ≤ (s1.length : Int)) <|
  req (0 ≤ (IntKind.i64.wrap (y3 + (sep2.length : Int))) ∧ (IntKind.i64.wrap (y3 + (sep2.length : Int))) ≤ (s1.length : Int) ∧ (s1.length : Int) ≤ (s1.length : Int)) <|
  some ((s1.take y3.toNat).drop (0 : Int).toNat,(s1.take (s1.length : Int).toNat).drop (IntKind.i64.wrap (y3 + (sep2.length : Int))).toNat,true)
 ) else (
  some (s1,[],false)
 )
def zDW : (List UInt8) → (List UInt8) → Option ((List UInt8) × (List UInt8) × Bool)
| s1,sep2 =>
 (zCw s1 sep2).bind fun ⟨y3,y4,y5⟩ =>
 some (y3,y4,y5)
def zBI (s1 : List UInt8) : Nat → Int → Option (Fl Bool Unit)
| 0,_ => none
| k+1,i2 =>
 bif decide (i2 < (s1.length : Int)) then (
  (
   (at? s1 i2).bind fun c4 =>
   bif decide ((c4.toNat : Int) < 48) then (
    some true
   ) else (
    (at? s1 i2).bind fun c6 =>
    some (decide (57 < (c6.toNat : Int)))
   )
   : Option (Bool)).bind fun x3 =>
  bif x3 then (
   some (.ret false)
  ) else (
   zBI s1 k (IntKind.i64.wrap (i2 + 1))
  )
 ) else (
  some (.go ())
 )
def zDl (n : Nat) : (List UInt8) → Option Bool
| s1 =>
 (zBI s1 n 0).bind fun fl => match fl with
 | .ret r => some r
 | .go _ =>
  some (!(s1 == []))
def zDj (n : Nat) : (List UInt8) → Option Bool
| s1 =>
 (zDW s1 [46]).bind fun ⟨y2,y3,y4⟩ =>
 (
  bif decide ((s1.length : Int) ≤ 20) then (
   (zDl n y2).bind fun y6 =>
   bif y6 then (
    bif (!y4) then (
     some true
    ) else (
     (zDl n y3).bind fun y7 =>
     some y7
    )
   ) else (
    some false
   )
  ) else (
   some false
  )
  : Option (Bool)).bind fun x5 =>
 some x5
def zBR (s1 : List UInt8) : Nat → Int → Option (Fl Bool Unit)
| 0,_ => none
| k+1,i2 =>
 bif decide (i2 < (s1.length : Int)) then (
  (
   (at? s1 i2).bind fun c4 =>
   bif decide ((c4.toNat : Int) < 32) then (
    some true
   ) else (
    (at? s1 i2).bind fun c6 =>
    some (decide (126 < (c6.toNat : Int)))
   )
   : Option (Bool)).bind fun x3 =>
  bif x3 then (
   some (.ret false)
  ) else (
   zBR s1 k (IntKind.i64.wrap (i2 + 1))
  )
 ) else (
  some (.go ())
 )
def zEv (n : Nat) : (List UInt8) → Option Bool
| s1 =>
 (zBR s1 n 0).bind fun fl => match fl with
 | .ret r => some r
 | .go _ =>
  some (decide ((s1.length : Int) ≤ 200))
def zEu : (List UInt8) → Option Bool
| s1 =>
 (
  bif ((s1.length : Int) == 2) then (
   (at? s1 0).bind fun c3 =>
   (zCJ [40,41,91,93,123,125,60,62,47,124,46] (c3.toNat : Int)).bind fun y5 =>
   bif decide (0 ≤ y5) then (
    (at? s1 1).bind fun c6 =>
    (zCJ [40,41,91,93,123,125,60,62,47,124,46] (c6.toNat : Int)).bind fun y8 =>
    some (decide (0 ≤ y8))
   ) else (
    some false
   )
  ) else (
   some false
  )
  : Option (Bool)).bind fun x2 =>
 some x2
def zDK : Option Unit
:=
 some ()
def zCi (n : Nat) : (Unit × Int) → Nd → Option (Bool × (Unit × Int))
| ⟨_,o1_nodes⟩,⟨a2_kind,a2_text,a2_cols,a2_kids⟩ =>
 (
  bif decide (a2_kind < 1) then (
   some true
  ) else (
   bif decide (12 < a2_kind) then (
    some true
   ) else (
    bif (a2_kind == 1) then (
     (zB4 a2_text).bind fun y4 =>
     some (!y4)
    ) else (
     bif (a2_kind == 2) then (
      (zDS n a2_text).bind fun y5 =>
      some (!y5)
     ) else (
      bif (a2_kind == 3) then (
       (zDj n a2_text).bind fun y6 =>
       some (!y6)
      ) else (
       bif (a2_kind == 4) then (
        (zEv n a2_text).bind fun y7 =>
        some (!y7)
       ) else (
        bif (a2_kind == 5) then (
         (zB4 a2_text).bind fun y8 =>
         some (!y8)
        ) else (
         bif (a2_kind == 6) then (
          (zB4 a2_text).bind fun y9 =>
          some (!y9)
         ) else (
          bif (a2_kind == 7) then (
           (zB4 a2_text).bind fun y10 =>
           some (!y10)
          ) else (
           bif (a2_kind == 8) then (
            (zB4 a2_text).bind fun y11 =>
            some (!y11)
           ) else (
            bif (a2_kind == 9) then (
             (zB4 a2_text).bind fun y12 =>
             some (!y12)
            ) else (
             bif (a2_kind == 10) then (
              (zDk a2_text).bind fun y13 =>
              some (!y13)
             ) else (
              bif (a2_kind == 11) then (
               (zEu a2_text).bind fun y14 =>
               some (!y14)
              ) else (
               bif (a2_kind == 12) then (
                (zB4 a2_text).bind fun y15 =>
                some (!y15)
               ) else (
                none
               )
              )
             )
            )
           )
          )
         )
        )
       )
      )
     )
    )
   )
  )
  : Option (Bool)).bind fun x3 =>
 bif x3 then (
  some (false,((),o1_nodes))
 ) else (
  bif (a2_kind == 1) then (
   (
    bif (a2_cols == 0) then (
     some (decide ((a2_kids.length : Int) ≤ 200))
    ) else (
     some false
    )
    : Option (Bool)).bind fun x16 =>
   some (x16,((),o1_nodes))
  ) else (
   bif (a2_kind == 12) then (
    (
     bif decide (1 ≤ a2_cols) then (
      bif decide (a2_cols ≤ 16) then (
       bif decide (1 ≤ (a2_kids.length : Int)) then (
        bif decide ((a2_kids.length : Int) ≤ 256) then (
         req (a2_cols ≠ 0) <|
         some (((a2_kids.length : Int).tmod a2_cols) == 0)
        ) else (
         some false
        )
       ) else (
        some false
       )
      ) else (
       some false
      )
     ) else (
      some false
     )
     : Option (Bool)).bind fun x18 =>
    some (x18,((),o1_nodes))
   ) else (
    (
     bif (a2_cols == 0) then (
      bif (a2_kind == 1) then (
       some ((a2_kids.length : Int) == 0)
      ) else (
       bif (a2_kind == 2) then (
        some ((a2_kids.length : Int) == 0)
       ) else (
        bif (a2_kind == 3) then (
         some ((a2_kids.length : Int) == 0)
        ) else (
         bif (a2_kind == 4) then (
          some ((a2_kids.length : Int) == 0)
         ) else (
          bif (a2_kind == 5) then (
           some ((a2_kids.length : Int) == 2)
          ) else (
           bif (a2_kind == 6) then (
            some ((a2_kids.length : Int) == 2)
           ) else (
            bif (a2_kind == 7) then (
             some ((a2_kids.length : Int) == 2)
            ) else (
             bif (a2_kind == 8) then (
              some ((a2_kids.length : Int) == 2)
             ) else (
              bif (a2_kind == 9) then (
               some ((a2_kids.length : Int) == 3)
              ) else (
               bif (a2_kind == 10) then (
                some ((a2_kids.length : Int) == 1)
               ) else (
                bif (a2_kind == 11) then (
                 some ((a2_kids.length : Int) == 1)
                ) else (
                 bif (a2_kind == 12) then (
                  some ((a2_kids.length : Int) == 0)
                 ) else (
                  none
                 )
                )
               )
              )
             )
            )
           )
          )
         )
        )
       )
      )
     ) else (
      some false
     )
     : Option (Bool)).bind fun x22 =>
    some (x22,((),o1_nodes))
   )
  )
 )
def zA3 (F_node_checker_node : (Unit × Int) → Nd → Int → Option (Bool × (Unit × Int))) (a2_kind : Int) (a2_kids : List Nd) (a3 : Int) : Nat → Int → Int → Option (Fl (Bool × (Unit × Int)) (Int))
| 0,_,_ => none
| k+1,x9,x10 =>
 bif decide (x10 < (a2_kids.length : Int)) then (
  (
   (at? a2_kids x10).bind fun ⟨e14_kind,e14_text,e14_cols,e14_kids⟩ =>
   bif ((a2_kind == 1) == (e14_kind == 1)) then (
    some (true,x9)
   ) else (
    (at? a2_kids x10).bind fun ⟨e16_kind,e16_text,e16_cols,e16_kids⟩ =>
    (F_node_checker_node ((),x9) (Nd.mk e16_kind e16_text e16_cols e16_kids) (IntKind.i64.wrap (a3 + 1))).bind fun ⟨y18,⟨_,w19_nodes⟩⟩ =>
    some ((!y18),w19_nodes)
   )
   : Option (Bool × Int)).bind fun ⟨x12,x13⟩ =>
  bif x12 then (
   some (.ret (false,((),x13)))
  ) else (
   zA3 F_node_checker_node a2_kind a2_kids a3 k x13 (IntKind.i64.wrap (x10 + 1))
  )
 ) else (
  some (.go x9)
 )
def zBa : Nat → (Unit × Int) → Nd → Int → Option (Bool × (Unit × Int))
| 0,_,_,_ => none
| n+1,⟨_,o1_nodes⟩,⟨a2_kind,a2_text,a2_cols,a2_kids⟩,a3 =>
 (
  bif decide (1000 < (IntKind.i64.wrap (o1_nodes + 1))) then (
   some (true,IntKind.i64.wrap (o1_nodes + 1))
  ) else (
   bif decide (24 < a3) then (
    some (true,IntKind.i64.wrap (o1_nodes + 1))
   ) else (
    (zCi n ((),IntKind.i64.wrap (o1_nodes + 1)) (Nd.mk a2_kind a2_text a2_cols a2_kids)).bind fun ⟨y6,⟨_,w7_nodes⟩⟩ =>
    some ((!y6),w7_nodes)
   )
  )
  : Option (Bool × Int)).bind fun ⟨x4,x5⟩ =>
 bif x4 then (
  some (false,((),x5))
 ) else (
  (zA3 (zBa n) a2_kind a2_kids a3 n x5 0).bind fun fl => match fl with
  | .ret r => some r
  | .go x11 =>
   some (true,((),x11))
 )
def zB3 (n : Nat) : Nd → Option Bool
| ⟨n1_kind,n1_text,n1_cols,n1_kids⟩ =>
 (zDK ).bind fun _ =>
 (
  bif (n1_kind == 1) then (
   (zBa n ((),0) (Nd.mk n1_kind n1_text n1_cols n1_kids) 1).bind fun ⟨y4,⟨_,w5_nodes⟩⟩ =>
   some y4
  ) else (
   some false
  )
  : Option (Bool)).bind fun x3 =>
 some x3
def zEj : Int → Int → Option Int
| a1,o2 =>
 some (IntKind.i64.wrap (o2 + 1))
def zCn (e9_node_kids : List Nd) (e9_depth : Int) : Nat → Int → (List (Nd × Int)) → Option ((List (Nd × Int)))
| 0,_,_ => none
| k+1,x13,l15 =>
 bif decide (x13 < (e9_node_kids.length : Int)) then (
  (at? e9_node_kids x13).bind fun ⟨e17_kind,e17_text,e17_cols,e17_kids⟩ =>
  req (l15.length + [(Nd.mk e17_kind e17_text e17_cols e17_kids,IntKind.i64.wrap (e9_depth + 1))].length ≤ 4294967296) <|
  zCn e9_node_kids e9_depth k (IntKind.i64.wrap (x13 + 1)) (l15 ++ [(Nd.mk e17_kind e17_text e17_cols e17_kids,IntKind.i64.wrap (e9_depth + 1))])
 ) else (
  some l15
 )
def zCm (n : Nat) : Nat → Int → (List (Nd × Int)) → Option (Int)
| 0,_,_ => none
| k+1,x3,l5 =>
 bif decide (0 < (l5.length : Int)) then (
  (at? l5 (IntKind.i64.wrap ((l5.length : Int) - 1))).bind fun ⟨⟨e9_node_kind,e9_node_text,e9_node_cols,e9_node_kids⟩,e9_depth⟩ =>
  req (0 ≤ IntKind.i64.wrap ((l5.length : Int) - 1) ∧ IntKind.i64.wrap ((l5.length : Int) - 1) ≤ (l5.length : Int)) <|
  (zEj e9_depth x3).bind fun w11 =>
  (zCn e9_node_kids e9_depth n 0 (l5.take (IntKind.i64.wrap ((l5.length : Int) - 1)).toNat)).bind fun l16 =>
  zCm n k w11 l16
 ) else (
  some x3
 )
def zGb (n : Nat) : Nd → Int → Option Int
| ⟨n1_kind,n1_text,n1_cols,n1_kids⟩,o2 =>
 (zCm n n o2 [(Nd.mk n1_kind n1_text n1_cols n1_kids,1)]).bind fun x6 =>
 some x6
def zEt (n : Nat) : Nd → Option Int
| ⟨n1_kind,n1_text,n1_cols,n1_kids⟩ =>
 (zGb n (Nd.mk n1_kind n1_text n1_cols n1_kids) 0).bind fun w2 =>
 some w2
def zDL : Int → Option Bool
| c1 =>
 (
  bif decide (97 ≤ c1) then (
   bif decide (c1 ≤ 122) then (
    some true
   ) else (
    bif decide (65 ≤ c1) then (
     some (decide (c1 ≤ 90))
    ) else (
     some false
    )
   )
  ) else (
   bif decide (65 ≤ c1) then (
    some (decide (c1 ≤ 90))
   ) else (
    some false
   )
  )
  : Option (Bool)).bind fun x2 =>
 some x2
def zCB (s1 : List UInt8) (c2 : Int) : Nat → Int → Option (Fl Bool Unit)
| 0,_ => none
| k+1,i3 =>
 bif decide (i3 < (s1.length : Int)) then (
  (at? s1 i3).bind fun c4 =>
  bif ((c4.toNat : Int) == c2) then (
   some (.ret true)
  ) else (
   zCB s1 c2 k (IntKind.i64.wrap (i3 + 1))
  )
 ) else (
  some (.go ())
 )
def zC7 (n : Nat) : (List UInt8) → Int → Option Bool
| s1,c2 =>
 (zCB s1 c2 n 0).bind fun fl => match fl with
 | .ret r => some r
 | .go _ =>
  some false
def zDT (n : Nat) : Int → Option Bool
| c1 =>
 (
  (zDL c1).bind fun y3 =>
  bif y3 then (
   some true
  ) else (
   (zC7 n [43,45,42,47,61,60,62,44,59,58,33,124,39,63,126,64] c1).bind fun y4 =>
   some y4
  )
  : Option (Bool)).bind fun x2 =>
 some x2
def zEl : Option (List (List UInt8))
:=
 some [[102,114,97,99],[114,111,111,116],[109,97,116,114,105,120],[102,101,110,99,101]]
def zC4 (l1 : List (List UInt8)) (s2 : List UInt8) : Nat → Int → Option (Fl Bool Unit)
| 0,_ => none
| k+1,i3 =>
 bif decide (i3 < (l1.length : Int)) then (
  (at? l1 i3).bind fun e5 =>
  bif (e5 == s2) then (
   some (.ret true)
  ) else (
   zC4 l1 s2 k (IntKind.i64.wrap (i3 + 1))
  )
 ) else (
  some (.go ())
 )
def zEk (n : Nat) : (List (List UInt8)) → (List UInt8) → Option Bool
| l1,s2 =>
 (zC4 l1 s2 n 0).bind fun fl => match fl with
 | .ret r => some r
 | .go _ =>
  some false
def zDm : Option (List (List UInt8))
:=
 some [[104,97,116],[98,97,114],[118,101,99],[100,111,116],[116,105,108,100,101],[99,104,101,99,107]]
def zBE (s1 : List UInt8) : Nat → Int → Option (Fl Bool Unit)
| 0,_ => none
| k+1,i5 =>
 bif decide (i5 < (s1.length : Int)) then (
  (at? s1 i5).bind fun c6 =>
  (zDL (c6.toNat : Int)).bind fun y8 =>
  bif (!y8) then (
   some (.ret false)
  ) else (
   zBE s1 k (IntKind.i64.wrap (i5 + 1))
  )
 ) else (
  some (.go ())
 )
def zEy (n : Nat) : (List UInt8) → Option Bool
| s1 =>
 bif ((s1.length : Int) == 1) then (
  (at? s1 0).bind fun c2 =>
  (zDT n (c2.toNat : Int)).bind fun y4 =>
  some y4
 ) else (
  (zBE s1 n 0).bind fun fl => match fl with
  | .ret r => some r
  | .go _ =>
   (
    bif decide (2 ≤ (s1.length : Int)) then (
     bif decide ((s1.length : Int) ≤ 16) then (
      (zEl ).bind fun y10 =>
      (zEk n y10 s1).bind fun y11 =>
      bif (!y11) then (
       (zDm ).bind fun y12 =>
       (zEk n y12 s1).bind fun y13 =>
       some (!y13)
      ) else (
       some false
      )
     ) else (
      some false
     )
    ) else (
     some false
    )
    : Option (Bool)).bind fun x9 =>
   some x9
 )
def zFa : Int → Option Bool
| c1 =>
 (
  bif decide (48 ≤ c1) then (
   some (decide (c1 ≤ 57))
  ) else (
   some false
  )
  : Option (Bool)).bind fun x2 =>
 some x2
def zCb (s1 : List UInt8) : Nat → Int → Int → Option (Fl Bool (Int))
| 0,_,_ => none
| k+1,points2,i3 =>
 bif decide (i3 < (s1.length : Int)) then (
  (
   (
    (at? s1 i3).bind fun c7 =>
    bif ((c7.toNat : Int) == 46) then (
     bif decide (0 < i3) then (
      some (decide (i3 < (IntKind.i64.wrap ((s1.length : Int) - 1))))
     ) else (
      some false
     )
    ) else (
     some false
    )
    : Option (Bool)).bind fun x6 =>
   bif x6 then (
    some (.go (IntKind.i64.wrap (points2 + 1)))
   ) else (
    (at? s1 i3).bind fun c9 =>
    (zFa (c9.toNat : Int)).bind fun y11 =>
    bif (!y11) then (
     some (.ret false)
    ) else (
     some (.go points2)
    )
   )
   : Option (Fl Bool (Int))).bind fun fl => match fl with
  | .ret r => some (.ret r)
  | .go points5 =>
   zCb s1 k points5 (IntKind.i64.wrap (i3 + 1))
 ) else (
  some (.go points2)
 )
def zEw (n : Nat) : (List UInt8) → Option Bool
| s1 =>
 (zCb s1 n 0 0).bind fun fl => match fl with
 | .ret r => some r
 | .go points4 =>
  (
   bif decide (0 < (s1.length : Int)) then (
    bif decide ((s1.length : Int) ≤ 20) then (
     some (decide (points4 ≤ 1))
    ) else (
     some false
    )
   ) else (
    some false
   )
   : Option (Bool)).bind fun x12 =>
  some x12
def zBq (s1 : List UInt8) : Nat → Int → Option (Fl Bool Unit)
| 0,_ => none
| k+1,i2 =>
 bif decide (i2 < (s1.length : Int)) then (
  (
   (at? s1 i2).bind fun c4 =>
   bif decide ((c4.toNat : Int) < 32) then (
    some true
   ) else (
    (at? s1 i2).bind fun c6 =>
    some (decide (126 < (c6.toNat : Int)))
   )
   : Option (Bool)).bind fun x3 =>
  bif x3 then (
   some (.ret false)
  ) else (
   zBq s1 k (IntKind.i64.wrap (i2 + 1))
  )
 ) else (
  some (.go ())
 )
def zC5 (n : Nat) : (List UInt8) → Option Bool
| s1 =>
 (zBq s1 n 0).bind fun fl => match fl with
 | .ret r => some r
 | .go _ =>
  some true
def zFU (n : Nat) : Nd → Option Bool
| ⟨n1_kind,n1_text,n1_cols,n1_kids⟩ =>
 bif (n1_kind == 2) then (
  (zEy n n1_text).bind fun y2 =>
  some y2
 ) else (
  bif (n1_kind == 3) then (
   (zEw n n1_text).bind fun y3 =>
   some y3
  ) else (
   bif (n1_kind == 4) then (
    (
     bif decide ((n1_text.length : Int) ≤ 200) then (
      (zC5 n n1_text).bind fun y5 =>
      some y5
     ) else (
      some false
     )
     : Option (Bool)).bind fun x4 =>
    some x4
   ) else (
    bif (n1_kind == 10) then (
     (zDm ).bind fun y6 =>
     (zEk n y6 n1_text).bind fun y7 =>
     some y7
    ) else (
     bif (n1_kind == 11) then (
      (
       bif ((n1_text.length : Int) == 2) then (
        (at? n1_text 0).bind fun c9 =>
        (zC7 n [40,41,91,93,123,125,124,60,62,47,46] (c9.toNat : Int)).bind fun y11 =>
        bif y11 then (
         (at? n1_text 1).bind fun c12 =>
         (zC7 n [40,41,91,93,123,125,124,60,62,47,46] (c12.toNat : Int)).bind fun y14 =>
         some y14
        ) else (
         some false
        )
       ) else (
        some false
       )
       : Option (Bool)).bind fun x8 =>
      some x8
     ) else (
      some (n1_text == [])
     )
    )
   )
  )
 )
def zFT : Nd → Option Bool
| ⟨n1_kind,n1_text,n1_cols,n1_kids⟩ =>
 bif (n1_kind == 12) then (
  (
   bif decide (1 ≤ n1_cols) then (
    bif decide (n1_cols ≤ 16) then (
     bif decide (1 ≤ (n1_kids.length : Int)) then (
      bif decide ((n1_kids.length : Int) ≤ 256) then (
       req (n1_cols ≠ 0) <|
       some (((n1_kids.length : Int).tmod n1_cols) == 0)
      ) else (
       some false
      )
     ) else (
      some false
     )
    ) else (
     some false
    )
   ) else (
    some false
   )
   : Option (Bool)).bind fun x3 =>
  some x3
 ) else (
  bif (n1_cols != 0) then (
   some false
  ) else (
   (
    bif (n1_kind == 1) then (
     some (.ret (decide ((n1_kids.length : Int) ≤ 200)))
    ) else (
     (
      bif (n1_kind == 2) then (
       some (n1_kind == 2)
      ) else (
       bif (n1_kind == 3) then (
        some (n1_kind == 3)
       ) else (
        some (n1_kind == 4)
       )
      )
      : Option (Bool)).bind fun x4 =>
     bif x4 then (
      some (.ret ((n1_kids.length : Int) == 0))
     ) else (
      (
       bif (n1_kind == 5) then (
        some (n1_kind == 5)
       ) else (
        bif (n1_kind == 6) then (
         some (n1_kind == 6)
        ) else (
         bif (n1_kind == 7) then (
          some (n1_kind == 7)
         ) else (
          some (n1_kind == 8)
         )
        )
       )
       : Option (Bool)).bind fun x5 =>
      bif x5 then (
       some (.ret ((n1_kids.length : Int) == 2))
      ) else (
       bif (n1_kind == 9) then (
        some (.ret ((n1_kids.length : Int) == 3))
       ) else (
        (
         bif (n1_kind == 10) then (
          some (n1_kind == 10)
         ) else (
          some (n1_kind == 11)
         )
         : Option (Bool)).bind fun x6 =>
        bif x6 then (
         some (.ret ((n1_kids.length : Int) == 1))
        ) else (
         some (.go ())
        )
       )
      )
     )
    )
    : Option (Fl Bool Unit)).bind fun fl => match fl with
   | .ret r => some r
   | .go _ =>
    some false
  )
 )
def zCH (F_r09_form : Nd → Option Bool) (n1_kind : Int) (n1_kids : List Nd) : Nat → Int → Option (Fl Bool Unit)
| 0,_ => none
| k+1,i5 =>
 bif decide (i5 < (n1_kids.length : Int)) then (
  (
   (at? n1_kids i5).bind fun ⟨e8_kind,e8_text,e8_cols,e8_kids⟩ =>
   bif ((e8_kind == 1) == (n1_kind == 1)) then (
    some true
   ) else (
    (at? n1_kids i5).bind fun ⟨e10_kind,e10_text,e10_cols,e10_kids⟩ =>
    (F_r09_form (Nd.mk e10_kind e10_text e10_cols e10_kids)).bind fun y12 =>
    some (!y12)
   )
   : Option (Bool)).bind fun x7 =>
  bif x7 then (
   some (.ret false)
  ) else (
   zCH F_r09_form n1_kind n1_kids k (IntKind.i64.wrap (i5 + 1))
  )
 ) else (
  some (.go ())
 )
def zDn : Nat → Nd → Option Bool
| 0,_ => none
| n+1,⟨n1_kind,n1_text,n1_cols,n1_kids⟩ =>
 (
  (zFU n (Nd.mk n1_kind n1_text n1_cols n1_kids)).bind fun y3 =>
  bif (!y3) then (
   some true
  ) else (
   (zFT (Nd.mk n1_kind n1_text n1_cols n1_kids)).bind fun y4 =>
   some (!y4)
  )
  : Option (Bool)).bind fun x2 =>
 bif x2 then (
  some false
 ) else (
  (zCH (zDn n) n1_kind n1_kids n 0).bind fun fl => match fl with
  | .ret r => some r
  | .go _ =>
   some true
 )
def zCo (F_r09_Count : Nd → Option Int) (n1_kids : List Nd) : Nat → Int → Int → Option (Int)
| 0,_,_ => none
| k+1,out2,i3 =>
 bif decide (i3 < (n1_kids.length : Int)) then (
  (at? n1_kids i3).bind fun ⟨e6_kind,e6_text,e6_cols,e6_kids⟩ =>
  (F_r09_Count (Nd.mk e6_kind e6_text e6_cols e6_kids)).bind fun y8 =>
  zCo F_r09_Count n1_kids k (IntKind.i64.wrap (out2 + y8)) (IntKind.i64.wrap (i3 + 1))
 ) else (
  some out2
 )
def zBo : Nat → Nd → Option Int
| 0,_ => none
| n+1,⟨n1_kind,n1_text,n1_cols,n1_kids⟩ =>
 (zCo (zBo n) n1_kids n 1 0).bind fun out4 =>
 some out4
def zCp (F_r09_Depth : Nd → Option Int) (n1_kids : List Nd) : Nat → Int → Int → Option (Int)
| 0,_,_ => none
| k+1,out2,i3 =>
 bif decide (i3 < (n1_kids.length : Int)) then (
  (at? n1_kids i3).bind fun ⟨e6_kind,e6_text,e6_cols,e6_kids⟩ =>
  (F_r09_Depth (Nd.mk e6_kind e6_text e6_cols e6_kids)).bind fun y8 =>
  zCp F_r09_Depth n1_kids k (if out2 < y8 then y8 else out2) (IntKind.i64.wrap (i3 + 1))
 ) else (
  some out2
 )
def zCF : Nat → Nd → Option Int
| 0,_ => none
| n+1,⟨n1_kind,n1_text,n1_cols,n1_kids⟩ =>
 (zCp (zCF n) n1_kids n 0 0).bind fun out4 =>
 some (IntKind.i64.wrap (out4 + 1))
def zC6 (n : Nat) : Nd → Option Bool
| ⟨n1_kind,n1_text,n1_cols,n1_kids⟩ =>
 (
  bif (n1_kind == 1) then (
   (zDn n (Nd.mk n1_kind n1_text n1_cols n1_kids)).bind fun y3 =>
   bif y3 then (
    (zBo n (Nd.mk n1_kind n1_text n1_cols n1_kids)).bind fun y4 =>
    bif decide (y4 ≤ 1000) then (
     (zCF n (Nd.mk n1_kind n1_text n1_cols n1_kids)).bind fun y5 =>
     some (decide (y5 ≤ 24))
    ) else (
     some false
    )
   ) else (
    some false
   )
  ) else (
   some false
  )
  : Option (Bool)).bind fun x2 =>
 some x2
def zBD (F_r09_Equal : Nd → Nd → Option Bool) (a1 : List Nd) (b2 : List Nd) : Nat → Int → Option (Fl Bool Unit)
| 0,_ => none
| k+1,i5 =>
 bif decide (i5 < (a1.length : Int)) then (
  (at? a1 i5).bind fun ⟨e7_kind,e7_text,e7_cols,e7_kids⟩ =>
  (at? b2 i5).bind fun ⟨e9_kind,e9_text,e9_cols,e9_kids⟩ =>
  (F_r09_Equal (Nd.mk e7_kind e7_text e7_cols e7_kids) (Nd.mk e9_kind e9_text e9_cols e9_kids)).bind fun y11 =>
  bif (!y11) then (
   some (.ret false)
  ) else (
   zBD F_r09_Equal a1 b2 k (IntKind.i64.wrap (i5 + 1))
  )
 ) else (
  some (.go ())
 )
mutual
def zBL : Nat → Nd → Nd → Option Bool
| 0,_,_ => none
| n+1,⟨a1_kind,a1_text,a1_cols,a1_kids⟩,⟨b2_kind,b2_text,b2_cols,b2_kids⟩ =>
 (
  bif (a1_kind == b2_kind) then (
   bif (a1_text == b2_text) then (
    bif (a1_cols == b2_cols) then (
     (zBr n a1_kids b2_kids).bind fun y4 =>
     some y4
    ) else (
     some false
    )
   ) else (
    some false
   )
  ) else (
   some false
  )
  : Option (Bool)).bind fun x3 =>
 some x3
def zBr : Nat → (List Nd) → (List Nd) → Option Bool
| 0,_,_ => none
| n+1,a1,b2 =>
 bif ((a1.length : Int) != (b2.length : Int)) then (
  some false
 ) else (
  (zBD (zBL n) a1 b2 n 0).bind fun fl => match fl with
  | .ret r => some r
  | .go _ =>
   some true
 )
end
def zCj (F_r09_left : Nd → Int → Option Int) (n1_kids : List Nd) : Nat → Int → Int → Option (Int)
| 0,_,_ => none
| k+1,most3,i4 =>
 (
  bif decide (i4 < (n1_kids.length : Int)) then (
   some (decide (0 ≤ most3))
  ) else (
   some false
  )
  : Option (Bool)).bind fun x6 =>
 bif x6 then (
  (at? n1_kids i4).bind fun ⟨e8_kind,e8_text,e8_cols,e8_kids⟩ =>
  (F_r09_left (Nd.mk e8_kind e8_text e8_cols e8_kids) most3).bind fun y10 =>
  zCj F_r09_left n1_kids k y10 (IntKind.i64.wrap (i4 + 1))
 ) else (
  some most3
 )
def zDo : Nat → Nd → Int → Option Int
| 0,_,_ => none
| n+1,⟨n1_kind,n1_text,n1_cols,n1_kids⟩,most2 =>
 (zCj (zDo n) n1_kids n (IntKind.i64.wrap (most2 - 1)) 0).bind fun most5 =>
 some most5
def zFb (n : Nat) : Nd → Int → Option Bool
| ⟨n1_kind,n1_text,n1_cols,n1_kids⟩,most2 =>
 (zDo n (Nd.mk n1_kind n1_text n1_cols n1_kids) most2).bind fun y3 =>
 some (decide (0 ≤ y3))
def zEs (n : Nat) : Nd → Nd → Option Bool
| ⟨a1_kind,a1_text,a1_cols,a1_kids⟩,⟨b2_kind,b2_text,b2_cols,b2_kids⟩ =>
 (
  (zB3 n (Nd.mk a1_kind a1_text a1_cols a1_kids)).bind fun y4 =>
  bif y4 then (
   (zB3 n (Nd.mk b2_kind b2_text b2_cols b2_kids)).bind fun y5 =>
   some y5
  ) else (
   some false
  )
  : Option (Bool)).bind fun x3 =>
 some x3
def zC8 : Nd → Nd → Option Bool
| ⟨x1_kind,x1_text,x1_cols,x1_kids⟩,⟨y2_kind,y2_text,y2_cols,y2_kids⟩ =>
 (
  bif (x1_kind == y2_kind) then (
   bif ((x1_kids.length : Int) == (y2_kids.length : Int)) then (
    some (x1_cols == y2_cols)
   ) else (
    some false
   )
  ) else (
   some false
  )
  : Option (Bool)).bind fun x3 =>
 some x3
def zEc : (List Nd) → Option Nd
| l1 =>
 some (Nd.mk 1 [] 0 l1)
def zCa (n : Nat) (l1 : List Nd) : Nat → Int → (List Int) → Option ((List Int))
| 0,_,_ => none
| k+1,x4,l5 =>
 bif decide (x4 < (l1.length : Int)) then (
  (at? l1 x4).bind fun ⟨e7_kind,e7_text,e7_cols,e7_kids⟩ =>
  (zEt n (Nd.mk e7_kind e7_text e7_cols e7_kids)).bind fun y9 =>
  (at? l5 x4).bind fun e10 =>
  zCa n l1 k (IntKind.i64.wrap (x4 + 1)) (l5.set x4.toNat y9)
 ) else (
  some l5
 )
def zDJ (n : Nat) : (List Nd) → Option (List Int)
| l1 =>
 req (0 ≤ (l1.length : Int) ∧ (l1.length : Int) ≤ 4294967296) <|
 (zCa n l1 n 0 (List.replicate (l1.length : Int).toNat 0)).bind fun l6 =>
 some l6
def zA4 : List Int → List Int
| [] => [0]
| o :: os => IntKind.i64.wrap ((zA4 os).headD 0 + o) :: zA4 os
def zAH (F_diff_pairing : Nd → Nd → Option Int) (x : Nd) (f : Int) : List Nd → List Int → List Int → Option (List Int × List Int)
| [],[],[v] => some ([IntKind.i64.wrap (v + f)],[])
| y :: ys,o :: os,v :: v2 :: vs =>
 (zAH F_diff_pairing x f ys os (v2 :: vs)).bind fun p =>
 (F_diff_pairing x y).bind fun c =>
 let c0:=if IntKind.i64.wrap (v + f) < IntKind.i64.wrap (p.1.headD 0 + o) then IntKind.i64.wrap (v + f) else IntKind.i64.wrap (p.1.headD 0 + o)
 let c1:=if 0 ≤ c then (if IntKind.i64.wrap (v2 + c) < c0 then IntKind.i64.wrap (v2 + c) else c0) else c0
 some (c1 :: p.1,c :: p.2)
| _,_,_ => none
def zAR (F_diff_pairing : Nd → Nd → Option Int) (b : List Nd) (other : List Int) : List Nd → List Int → Option (List (List Int) × List (List Int))
| [],[] => some ([zA4 other],[])
| x :: xs,f :: fs =>
 (zAR F_diff_pairing b other xs fs).bind fun p =>
 match p.1 with
 | [] => none
 | r1 :: _ => (zAH F_diff_pairing x f b other r1).bind fun q => some (q.1 :: p.1,q.2 :: p.2)
| _,_ => none
def zBK (F_diff_fill : (List Nd) → (List Nd) → Option (List (List Int) × List (List Int) × List Int × List Int)) (a1_kids : List Nd) (a2_kids : List Nd) : Nat → Int → Int → Option (Int)
| 0,_,_ => none
| k+1,x8,x9 =>
 bif decide (x9 < (a1_kids.length : Int)) then (
  (at? a1_kids x9).bind fun ⟨e11_kind,e11_text,e11_cols,e11_kids⟩ =>
  (at? a2_kids x9).bind fun ⟨e13_kind,e13_text,e13_cols,e13_kids⟩ =>
  (F_diff_fill e11_kids e13_kids).bind fun ⟨y15_least,y15_pair,y15_first,y15_other⟩ =>
  (at? y15_least 0).bind fun e16 =>
  (at? e16 0).bind fun e18 =>
  zBK F_diff_fill a1_kids a2_kids k (IntKind.i64.wrap (x8 + e18)) (IntKind.i64.wrap (x9 + 1))
 ) else (
  some x8
 )
mutual
def zCk : Nat → (List Nd) → (List Nd) → Option (List (List Int) × List (List Int) × List Int × List Int)
| 0,_,_ => none
| n+1,a,b =>
 (zDJ n a).bind fun first =>
 (zDJ n b).bind fun other =>
 req (a.length ≤ 1048576 ∧ b.length ≤ 1048576 ∧ other.length = b.length) <|
 (zAR (zBO n) b other a first).bind fun p =>
 some (p.1,p.2,first,other)
def zBO : Nat → Nd → Nd → Option Int
| 0,_,_ => none
| n+1,⟨a1_kind,a1_text,a1_cols,a1_kids⟩,⟨a2_kind,a2_text,a2_cols,a2_kids⟩ =>
 (
  bif (a1_kind != a2_kind) then (
   some true
  ) else (
   bif (a1_cols != a2_cols) then (
    some true
   ) else (
    some ((a1_kids.length : Int) != (a2_kids.length : Int))
   )
  )
  : Option (Bool)).bind fun x3 =>
 bif x3 then (
  some (-1)
 ) else (
  (
   bif (!(a1_text == a2_text)) then (
    some 1
   ) else (
    some 0
   )
   : Option (Int)).bind fun x6 =>
  (zBK (zCk n) a1_kids a2_kids n x6 0).bind fun x10 =>
  some x10
 )
end
def zCI (F_r16_table : (List Nd) → (List Nd) → Option (List (List Int))) (x1_kids : List Nd) (y2_kids : List Nd) : Nat → Int → Int → Option (Int)
| 0,_,_ => none
| k+1,n4,i5 =>
 bif decide (i5 < (x1_kids.length : Int)) then (
  (at? x1_kids i5).bind fun ⟨e8_kind,e8_text,e8_cols,e8_kids⟩ =>
  (at? y2_kids i5).bind fun ⟨e10_kind,e10_text,e10_cols,e10_kids⟩ =>
  (F_r16_table e8_kids e10_kids).bind fun y12 =>
  (at? y12 0).bind fun e13 =>
  (at? e13 0).bind fun e15 =>
  zCI F_r16_table x1_kids y2_kids k (IntKind.i64.wrap (n4 + e15)) (IntKind.i64.wrap (i5 + 1))
 ) else (
  some n4
 )
def zAY (F_r09_Count : Nd → Option Int) : List Nd → Option (List Int)
| [] => some [0]
| y :: ys => (zAY F_r09_Count ys).bind fun r => (F_r09_Count y).bind fun c => some (IntKind.i64.wrap (c + r.headD 0) :: r)
def zAN (F_r09_Count : Nd → Option Int) (F_r16_Alike : Nd → Nd → Option Bool) (F_r16_pair : Nd → Nd → Option Int) (x : Nd) (cx : Int) : List Nd → List Int → Option (List Int)
| [],[v] => some [IntKind.i64.wrap (cx + v)]
| y :: ys,v :: v2 :: vs =>
 (zAN F_r09_Count F_r16_Alike F_r16_pair x cx ys (v2 :: vs)).bind fun r =>
 (F_r09_Count y).bind fun c =>
 (F_r16_Alike x y).bind fun al =>
 let l0:=IntKind.i64.wrap (cx + v)
 let n0:=IntKind.i64.wrap (c + r.headD 0)
 let l1:=bif (decide (l0 < 0) || decide (n0 < l0)) then n0 else l0
 bif al then ((F_r16_pair x y).bind fun p => some ((if IntKind.i64.wrap (p + v2) < l1 then IntKind.i64.wrap (p + v2) else l1) :: r)) else some (l1 :: r)
| _,_ => none
def zAP (F_r09_Count : Nd → Option Int) (F_r16_Alike : Nd → Nd → Option Bool) (F_r16_pair : Nd → Nd → Option Int) (b : List Nd) : List Nd → Option (List (List Int))
| [] => (zAY F_r09_Count b).bind fun r => some [r]
| x :: xs =>
 (zAP F_r09_Count F_r16_Alike F_r16_pair b xs).bind fun p =>
 (F_r09_Count x).bind fun cx =>
 match p with
 | [] => none
 | r1 :: _ => (zAN F_r09_Count F_r16_Alike F_r16_pair x cx b r1).bind fun q => some (q :: p)
mutual
def zCe : Nat → Nd → Nd → Option Int
| 0,_,_ => none
| n+1,⟨x1_kind,x1_text,x1_cols,x1_kids⟩,⟨y2_kind,y2_text,y2_cols,y2_kids⟩ =>
 (
  bif (!(x1_text == y2_text)) then (
   some 1
  ) else (
   some 0
  )
  : Option (Int)).bind fun n3 =>
 (zCI (zCq n) x1_kids y2_kids n n3 0).bind fun n6 =>
 some n6
def zCq : Nat → (List Nd) → (List Nd) → Option (List (List Int))
| 0,_,_ => none
| n+1,a,b =>
 req (a.length ≤ 1048576 ∧ b.length ≤ 1048576) <|
 zAP (zBo n) zC8 (zCe n) b a
end
def zBS  : Nat → Int → (List UInt8) → Option (Int × (List UInt8))
| 0,_,_ => none
| k+1,n5,s6 =>
 bif decide (10 ≤ n5) then (
  req ([b8of (IntKind.u8.wrap (IntKind.i64.wrap (48 + (n5.tmod 10))))].length + s6.length ≤ 1099511627776) <|
  zBS k (IntKind.i64.wrap (n5.tdiv 10)) ([b8of (IntKind.u8.wrap (IntKind.i64.wrap (48 + (n5.tmod 10))))] ++ s6)
 ) else (
  some (n5,s6)
 )
def zDU : Nat → Int → Option (List UInt8)
| 0,_ => none
| n+1,n1 =>
 bif decide (n1 < 0) then (
  bif ((IntKind.i64.wrap (n1.tdiv 10)) != 0) then (
   (zDU n (IntKind.i64.wrap (0 - (IntKind.i64.wrap (n1.tdiv 10))))).bind fun y4 =>
   req ([45].length + y4.length ≤ 1099511627776) <|
   req (([45] ++ y4).length + [b8of (IntKind.u8.wrap (IntKind.i64.wrap (48 - (n1.tmod 10))))].length ≤ 1099511627776) <|
   some (([45] ++ y4) ++ [b8of (IntKind.u8.wrap (IntKind.i64.wrap (48 - (n1.tmod 10))))])
  ) else (
   req ([45].length + [b8of (IntKind.u8.wrap (IntKind.i64.wrap (48 - (n1.tmod 10))))].length ≤ 1099511627776) <|
   some ([45] ++ [b8of (IntKind.u8.wrap (IntKind.i64.wrap (48 - (n1.tmod 10))))])
  )
 ) else (
  (zBS  n n1 []).bind fun ⟨n7,s8⟩ =>
  req ([b8of (IntKind.u8.wrap (IntKind.i64.wrap (48 + n7)))].length + s8.length ≤ 1099511627776) <|
  some ([b8of (IntKind.u8.wrap (IntKind.i64.wrap (48 + n7)))] ++ s8)
 )
def zBT (s1 : List UInt8) : Nat → Int → (List UInt8) → Option ((List UInt8))
| 0,_,_ => none
| k+1,i3,l4 =>
 bif decide (i3 < (s1.length : Int)) then (
  (
   (
    (at? s1 i3).bind fun c8 =>
    bif ((c8.toNat : Int) == 34) then (
     some true
    ) else (
     (at? s1 i3).bind fun c10 =>
     some ((c10.toNat : Int) == 92)
    )
    : Option (Bool)).bind fun x7 =>
   (
    bif x7 then (
     req (l4.length + [b8of 92].length ≤ 4294967296) <|
     some (l4 ++ [b8of 92])
    ) else (
     some l4
    )
    : Option ((List UInt8))).bind fun l12 =>
   (at? s1 i3).bind fun c14 =>
   req (l12.length + [c14].length ≤ 4294967296) <|
   some (l12 ++ [c14])
   : Option ((List UInt8))).bind fun l6 =>
  zBT s1 k (IntKind.i64.wrap (i3 + 1)) l6
 ) else (
  some l4
 )
def zEx (n : Nat) : (List UInt8) → Option (List UInt8)
| s1 =>
 (zBT s1 n 0 [b8of 34]).bind fun l5 =>
 req (l5.length + [b8of 34].length ≤ 4294967296) <|
 some (l5 ++ [b8of 34])
def zCG (F_r09_Dump : Nd → Option (List UInt8)) (a1_kids : List Nd) : Nat → (List UInt8) → Int → Option ((List UInt8))
| 0,_,_ => none
| k+1,x10,x11 =>
 bif decide (x11 < (a1_kids.length : Int)) then (
  (
   (
    bif decide (0 < x11) then (
     req (x10.length + [32].length ≤ 1099511627776) <|
     some (x10 ++ [32])
    ) else (
     some x10
    )
    : Option ((List UInt8))).bind fun x15 =>
   (at? a1_kids x11).bind fun ⟨e16_kind,e16_text,e16_cols,e16_kids⟩ =>
   (F_r09_Dump (Nd.mk e16_kind e16_text e16_cols e16_kids)).bind fun y18 =>
   req (x15.length + y18.length ≤ 1099511627776) <|
   some (x15 ++ y18)
   : Option ((List UInt8))).bind fun x14 =>
  zCG F_r09_Dump a1_kids k x14 (IntKind.i64.wrap (x11 + 1))
 ) else (
  some x10
 )
def zCS : Nat → Nd → Option (List UInt8)
| 0,_ => none
| n+1,⟨a1_kind,a1_text,a1_cols,a1_kids⟩ =>
 (zDU n a1_kind).bind fun y2 =>
 req ([110,111,100,101].length + y2.length ≤ 1099511627776) <|
 (
  bif decide (1 ≤ a1_kind) then (
   some (decide (a1_kind ≤ 12))
  ) else (
   some false
  )
  : Option (Bool)).bind fun x3 =>
 (
  bif x3 then (
   bif (a1_kind == 1) then (
    some [114,111,119]
   ) else (
    bif (a1_kind == 2) then (
     some [115,121,109]
    ) else (
     bif (a1_kind == 3) then (
      some [110,117,109]
     ) else (
      bif (a1_kind == 4) then (
       some [116,101,120,116]
      ) else (
       bif (a1_kind == 5) then (
        some [102,114,97,99]
       ) else (
        bif (a1_kind == 6) then (
         some [114,111,111,116]
        ) else (
         bif (a1_kind == 7) then (
          some [115,117,98]
         ) else (
          bif (a1_kind == 8) then (
           some [115,117,112]
          ) else (
           bif (a1_kind == 9) then (
            some [98,111,116,104]
           ) else (
            bif (a1_kind == 10) then (
             some [97,99,99,101,110,116]
            ) else (
             bif (a1_kind == 11) then (
              some [102,101,110,99,101]
             ) else (
              bif (a1_kind == 12) then (
               some [109,97,116,114,105,120]
              ) else (
               none
              )
             )
            )
           )
          )
         )
        )
       )
      )
     )
    )
   )
  ) else (
   some ([110,111,100,101] ++ y2)
  )
  : Option ((List UInt8))).bind fun x4 =>
 (
  bif (!(a1_text == [])) then (
   req (x4.length + [58].length ≤ 1099511627776) <|
   (zEx n a1_text).bind fun y6 =>
   req ((x4 ++ [58]).length + y6.length ≤ 1099511627776) <|
   some ((x4 ++ [58]) ++ y6)
  ) else (
   some x4
  )
  : Option ((List UInt8))).bind fun x5 =>
 (
  bif (a1_cols != 0) then (
   req (x5.length + [42].length ≤ 1099511627776) <|
   (zDU n a1_cols).bind fun y8 =>
   req ((x5 ++ [42]).length + y8.length ≤ 1099511627776) <|
   some ((x5 ++ [42]) ++ y8)
  ) else (
   some x5
  )
  : Option ((List UInt8))).bind fun x7 =>
 bif ((a1_kids.length : Int) == 0) then (
  some x7
 ) else (
  req (x7.length + [40].length ≤ 1099511627776) <|
  (zCG (zCS n) a1_kids n (x7 ++ [40]) 0).bind fun x12 =>
  req (x12.length + [41].length ≤ 1099511627776) <|
  some (x12 ++ [41])
 )
def zAq : (List UInt8) → (List UInt8) → Option (Int × Unit × (List UInt8))
| s1,b2 =>
 (zA6 b2).bind fun b3 =>
 req (b3.length + s1.length ≤ 4294967296) <|
 some ((s1.length : Int),(),b3 ++ s1)
def zAL : UInt8 → (List UInt8) → Option (Unit × (List UInt8))
| c1,b2 =>
 (zA6 b2).bind fun b3 =>
 req (b3.length + [c1].length ≤ 4294967296) <|
 some ((),b3 ++ [c1])
def zAX (a1_text : List UInt8) : Nat → Int → (List UInt8) → Option ((List UInt8))
| 0,_,_ => none
| k+1,x49,l50 =>
 bif decide (x49 < (a1_text.length : Int)) then (
  (
   (
    (at? a1_text x49).bind fun c54 =>
    bif ((c54.toNat : Int) == 34) then (
     some true
    ) else (
     (at? a1_text x49).bind fun c56 =>
     some ((c56.toNat : Int) == 92)
    )
    : Option (Bool)).bind fun x53 =>
   (
    bif x53 then (
     (zAL (b8of 92) l50).bind fun ⟨_,b60⟩ =>
     some b60
    ) else (
     some l50
    )
    : Option ((List UInt8))).bind fun l58 =>
   (at? a1_text x49).bind fun c61 =>
   (zAL c61 l58).bind fun ⟨_,b64⟩ =>
   some b64
   : Option ((List UInt8))).bind fun l52 =>
  zAX a1_text k (IntKind.i64.wrap (x49 + 1)) l52
 ) else (
  some l50
 )
def zBp (n : Nat) : Nd → (List UInt8) → Option (List UInt8)
| ⟨a1_kind,a1_text,a1_cols,a1_kids⟩,b2 =>
 (
  bif decide (1 ≤ a1_kind) then (
   some (decide (a1_kind ≤ 12))
  ) else (
   some false
  )
  : Option (Bool)).bind fun x3 =>
 (
  bif x3 then (
   bif (a1_kind == 1) then (
    (zAq [114,111,119] b2).bind fun ⟨y5,_,b7⟩ =>
    some b7
   ) else (
    bif (a1_kind == 2) then (
     (zAq [115,121,109] b2).bind fun ⟨y8,_,b10⟩ =>
     some b10
    ) else (
     bif (a1_kind == 3) then (
      (zAq [110,117,109] b2).bind fun ⟨y11,_,b13⟩ =>
      some b13
     ) else (
      bif (a1_kind == 4) then (
       (zAq [116,101,120,116] b2).bind fun ⟨y14,_,b16⟩ =>
       some b16
      ) else (
       bif (a1_kind == 5) then (
        (zAq [102,114,97,99] b2).bind fun ⟨y17,_,b19⟩ =>
        some b19
       ) else (
        bif (a1_kind == 6) then (
         (zAq [114,111,111,116] b2).bind fun ⟨y20,_,b22⟩ =>
         some b22
        ) else (
         bif (a1_kind == 7) then (
          (zAq [115,117,98] b2).bind fun ⟨y23,_,b25⟩ =>
          some b25
         ) else (
          bif (a1_kind == 8) then (
           (zAq [115,117,112] b2).bind fun ⟨y26,_,b28⟩ =>
           some b28
          ) else (
           bif (a1_kind == 9) then (
            (zAq [98,111,116,104] b2).bind fun ⟨y29,_,b31⟩ =>
            some b31
           ) else (
            bif (a1_kind == 10) then (
             (zAq [97,99,99,101,110,116] b2).bind fun ⟨y32,_,b34⟩ =>
             some b34
            ) else (
             bif (a1_kind == 11) then (
              (zAq [102,101,110,99,101] b2).bind fun ⟨y35,_,b37⟩ =>
              some b37
             ) else (
              bif (a1_kind == 12) then (
               (zAq [109,97,116,114,105,120] b2).bind fun ⟨y38,_,b40⟩ =>
               some b40
              ) else (
               none
              )
             )
            )
           )
          )
         )
        )
       )
      )
     )
    )
   )
  ) else (
   (zDz a1_kind).bind fun y41 =>
   req ([110,111,100,101].length + y41.length ≤ 1099511627776) <|
   (zAq ([110,111,100,101] ++ y41) b2).bind fun ⟨y42,_,b44⟩ =>
   some b44
  )
  : Option ((List UInt8))).bind fun l4 =>
 (
  bif (!(a1_text == [])) then (
   (zAq [58,34] l4).bind fun ⟨y46,_,b48⟩ =>
   (zAX a1_text n 0 b48).bind fun l51 =>
   (zAL (b8of 34) l51).bind fun ⟨_,b66⟩ =>
   some b66
  ) else (
   some l4
  )
  : Option ((List UInt8))).bind fun l45 =>
 bif (a1_cols != 0) then (
  (zDz a1_cols).bind fun y67 =>
  req ([42].length + y67.length ≤ 1099511627776) <|
  (zAq ([42] ++ y67) l45).bind fun ⟨y68,_,b70⟩ =>
  some b70
 ) else (
  some l45
 )
def zB2 (n : Nat) : Nat → (List UInt8) → (List (Nd × Int)) → Option ((List UInt8))
| 0,_,_ => none
| k+1,l5,l6 =>
 bif decide (0 < (l6.length : Int)) then (
  (at? l6 (IntKind.i64.wrap ((l6.length : Int) - 1))).bind fun ⟨⟨e10_node_kind,e10_node_text,e10_node_cols,e10_node_kids⟩,e10_kids⟩ =>
  bif (e10_kids == (e10_node_kids.length : Int)) then (
   (
    bif decide (0 < e10_kids) then (
     (zAL (b8of 41) l5).bind fun ⟨_,b14⟩ =>
     some b14
    ) else (
     some l5
    )
    : Option ((List UInt8))).bind fun l12 =>
   req (0 ≤ IntKind.i64.wrap ((l6.length : Int) - 1) ∧ IntKind.i64.wrap ((l6.length : Int) - 1) ≤ (l6.length : Int)) <|
   zB2 n k l12 (l6.take (IntKind.i64.wrap ((l6.length : Int) - 1)).toNat)
  ) else (
   (at? e10_node_kids e10_kids).bind fun ⟨e17_kind,e17_text,e17_cols,e17_kids⟩ =>
   (at? ([40,32] : List UInt8) (if 1 < e10_kids then 1 else e10_kids)).bind fun c19 =>
   (zAL c19 l5).bind fun ⟨_,b22⟩ =>
   (zBp n (Nd.mk e17_kind e17_text e17_cols e17_kids) b22).bind fun b23 =>
   req ((l6.set (IntKind.i64.wrap ((l6.length : Int) - 1)).toNat (Nd.mk e10_node_kind e10_node_text e10_node_cols e10_node_kids,IntKind.i64.wrap (e10_kids + 1))).length + [(Nd.mk e17_kind e17_text e17_cols e17_kids,0)].length ≤ 4294967296) <|
   zB2 n k b23 ((l6.set (IntKind.i64.wrap ((l6.length : Int) - 1)).toNat (Nd.mk e10_node_kind e10_node_text e10_node_cols e10_node_kids,IntKind.i64.wrap (e10_kids + 1))) ++ [(Nd.mk e17_kind e17_text e17_cols e17_kids,0)])
  )
 ) else (
  some l5
 )
def zEb (n : Nat) : Nd → Option (List UInt8)
| ⟨a1_kind,a1_text,a1_cols,a1_kids⟩ =>
 (zDK ).bind fun _ =>
 (zBp n (Nd.mk a1_kind a1_text a1_cols a1_kids) []).bind fun b3 =>
 (zB2 n n b3 [(Nd.mk a1_kind a1_text a1_cols a1_kids,0)]).bind fun l7 =>
 (zCv l7).bind fun y25 =>
 some y25
def zAZ (F_node_Equal : Nd → Nd → Option Bool) (s11 : List Nd) (s22 : List Nd) : Nat → Int → Option (Fl Bool Unit)
| 0,_ => none
| k+1,x6 =>
 bif decide (x6 < (s11.length : Int)) then (
  (at? s11 x6).bind fun ⟨e7_kind,e7_text,e7_cols,e7_kids⟩ =>
  (at? s22 x6).bind fun ⟨e9_kind,e9_text,e9_cols,e9_kids⟩ =>
  (F_node_Equal (Nd.mk e7_kind e7_text e7_cols e7_kids) (Nd.mk e9_kind e9_text e9_cols e9_kids)).bind fun y11 =>
  bif (!y11) then (
   some (.ret false)
  ) else (
   zAZ F_node_Equal s11 s22 k (IntKind.i64.wrap (x6 + 1))
  )
 ) else (
  some (.go ())
 )
mutual
def zCh : Nat → Nd → Nd → Option Bool
| 0,_,_ => none
| n+1,⟨a1_kind,a1_text,a1_cols,a1_kids⟩,⟨b2_kind,b2_text,b2_cols,b2_kids⟩ =>
 (
  bif (a1_kind == b2_kind) then (
   bif (a1_text == b2_text) then (
    bif (a1_cols == b2_cols) then (
     (zA5 n a1_kids b2_kids).bind fun y4 =>
     some y4
    ) else (
     some false
    )
   ) else (
    some false
   )
  ) else (
   some false
  )
  : Option (Bool)).bind fun x3 =>
 some x3
def zA5 : Nat → (List Nd) → (List Nd) → Option Bool
| 0,_,_ => none
| n+1,s11,s22 =>
 bif ((s11.length : Int) != (s22.length : Int)) then (
  some false
 ) else (
  (zAZ (zCh n) s11 s22 n 0).bind fun fl => match fl with
  | .ret r => some r
  | .go _ =>
   some true
 )
end
def zBC (n : Nat) (a1 : List Nd) (a2 : List Nd) (y3_least : List (List Int)) (y3_pair : List (List Int)) (y3_first : List Int) (y3_other : List Int) : Nat → Int → Int → (List (Int × Int)) → Option ((List (Int × Int)))
| 0,_,_,_ => none
| k+1,x5,x6,l7 =>
 (
  bif decide (x5 < (a1.length : Int)) then (
   some (decide (x6 < (a2.length : Int)))
  ) else (
   some false
  )
  : Option (Bool)).bind fun x9 =>
 bif x9 then (
  (at? y3_least x5).bind fun e12 =>
  (at? e12 x6).bind fun e14 =>
  (at? y3_least (IntKind.i64.wrap (x5 + 1))).bind fun e16 =>
  (at? e16 x6).bind fun e18 =>
  (at? y3_first x5).bind fun e20 =>
  (at? y3_least x5).bind fun e22 =>
  (at? e22 (IntKind.i64.wrap (x6 + 1))).bind fun e24 =>
  (at? y3_other x6).bind fun e26 =>
  (
   (at? y3_pair x5).bind fun e29 =>
   (at? e29 x6).bind fun e31 =>
   bif decide (0 ≤ e31) then (
    (at? y3_least (IntKind.i64.wrap (x5 + 1))).bind fun e33 =>
    (at? e33 (IntKind.i64.wrap (x6 + 1))).bind fun e35 =>
    (at? y3_pair x5).bind fun e37 =>
    (at? e37 x6).bind fun e39 =>
    some (e14 == (IntKind.i64.wrap (e35 + e39)))
   ) else (
    some false
   )
   : Option (Bool)).bind fun x28 =>
  bif x28 then (
   req (l7.length + [(x5,x6)].length ≤ 4294967296) <|
   zBC n a1 a2 y3_least y3_pair y3_first y3_other k (IntKind.i64.wrap (x5 + 1)) (IntKind.i64.wrap (x6 + 1)) (l7 ++ [(x5,x6)])
  ) else (
   (
    bif (e14 == (IntKind.i64.wrap (e18 + e20))) then (
     bif (!(e14 == (IntKind.i64.wrap (e24 + e26)))) then (
      some true
     ) else (
      (at? a1 x5).bind fun ⟨e43_kind,e43_text,e43_cols,e43_kids⟩ =>
      (zEb n (Nd.mk e43_kind e43_text e43_cols e43_kids)).bind fun y45 =>
      (at? a2 x6).bind fun ⟨e46_kind,e46_text,e46_cols,e46_kids⟩ =>
      (zEb n (Nd.mk e46_kind e46_text e46_cols e46_kids)).bind fun y48 =>
      some (Op.bytesLess y45 y48)
     )
    ) else (
     some false
    )
    : Option (Bool)).bind fun x42 =>
   bif x42 then (
    zBC n a1 a2 y3_least y3_pair y3_first y3_other k (IntKind.i64.wrap (x5 + 1)) x6 l7
   ) else (
    zBC n a1 a2 y3_least y3_pair y3_first y3_other k x5 (IntKind.i64.wrap (x6 + 1)) l7
   )
  )
 ) else (
  some l7
 )
def zFr (n : Nat) : (List Nd) → (List Nd) → Option (List (Int × Int))
| a1,a2 =>
 (zCk n a1 a2).bind fun ⟨y3_least,y3_pair,y3_first,y3_other⟩ =>
 (zBC n a1 a2 y3_least y3_pair y3_first y3_other n 0 0 []).bind fun l8 =>
 some l8
def zEr (n : Nat) : Nd → Nd → Option ((List (Int × Int)) × Int)
| ⟨a1_kind,a1_text,a1_cols,a1_kids⟩,⟨b2_kind,b2_text,b2_cols,b2_kids⟩ =>
 (zEs n (Nd.mk a1_kind a1_text a1_cols a1_kids) (Nd.mk b2_kind b2_text b2_cols b2_kids)).bind fun y3 =>
 bif (!y3) then (
  some ([],1)
 ) else (
  (zFr n a1_kids b2_kids).bind fun y4 =>
  some (y4,0)
 )
def zBe (n : Nat) (a1 : List Nd) (a2 : List Nd) (y3 : List (List Int)) : Nat → Int → Int → (List (Int × Int)) → Option ((List (Int × Int)))
| 0,_,_,_ => none
| k+1,x5,x6,l7 =>
 (
  bif decide (x5 < (a1.length : Int)) then (
   some (decide (x6 < (a2.length : Int)))
  ) else (
   some false
  )
  : Option (Bool)).bind fun x9 =>
 bif x9 then (
  (at? a1 x5).bind fun ⟨e12_kind,e12_text,e12_cols,e12_kids⟩ =>
  (zBo n (Nd.mk e12_kind e12_text e12_cols e12_kids)).bind fun y14 =>
  (at? y3 (IntKind.i64.wrap (x5 + 1))).bind fun e15 =>
  (at? e15 x6).bind fun e17 =>
  (at? y3 x5).bind fun e19 =>
  (at? e19 x6).bind fun e21 =>
  (at? a2 x6).bind fun ⟨e23_kind,e23_text,e23_cols,e23_kids⟩ =>
  (zBo n (Nd.mk e23_kind e23_text e23_cols e23_kids)).bind fun y25 =>
  (at? y3 x5).bind fun e26 =>
  (at? e26 (IntKind.i64.wrap (x6 + 1))).bind fun e28 =>
  (at? y3 x5).bind fun e30 =>
  (at? e30 x6).bind fun e32 =>
  (
   (at? a1 x5).bind fun ⟨e35_kind,e35_text,e35_cols,e35_kids⟩ =>
   (at? a2 x6).bind fun ⟨e37_kind,e37_text,e37_cols,e37_kids⟩ =>
   (zC8 (Nd.mk e35_kind e35_text e35_cols e35_kids) (Nd.mk e37_kind e37_text e37_cols e37_kids)).bind fun y39 =>
   bif y39 then (
    (at? a1 x5).bind fun ⟨e40_kind,e40_text,e40_cols,e40_kids⟩ =>
    (at? a2 x6).bind fun ⟨e42_kind,e42_text,e42_cols,e42_kids⟩ =>
    (zCe n (Nd.mk e40_kind e40_text e40_cols e40_kids) (Nd.mk e42_kind e42_text e42_cols e42_kids)).bind fun y44 =>
    (at? y3 (IntKind.i64.wrap (x5 + 1))).bind fun e45 =>
    (at? e45 (IntKind.i64.wrap (x6 + 1))).bind fun e47 =>
    (at? y3 x5).bind fun e49 =>
    (at? e49 x6).bind fun e51 =>
    some ((IntKind.i64.wrap (y44 + e47)) == e51)
   ) else (
    some false
   )
   : Option (Bool)).bind fun x34 =>
  bif x34 then (
   req (l7.length + [(x5,x6)].length ≤ 4294967296) <|
   zBe n a1 a2 y3 k (IntKind.i64.wrap (x5 + 1)) (IntKind.i64.wrap (x6 + 1)) (l7 ++ [(x5,x6)])
  ) else (
   (
    bif ((IntKind.i64.wrap (y14 + e17)) == e21) then (
     bif (!((IntKind.i64.wrap (y25 + e28)) == e32)) then (
      some true
     ) else (
      (at? a1 x5).bind fun ⟨e55_kind,e55_text,e55_cols,e55_kids⟩ =>
      (zCS n (Nd.mk e55_kind e55_text e55_cols e55_kids)).bind fun y57 =>
      (at? a2 x6).bind fun ⟨e58_kind,e58_text,e58_cols,e58_kids⟩ =>
      (zCS n (Nd.mk e58_kind e58_text e58_cols e58_kids)).bind fun y60 =>
      some (Op.bytesLess y57 y60)
     )
    ) else (
     some false
    )
    : Option (Bool)).bind fun x54 =>
   bif x54 then (
    zBe n a1 a2 y3 k (IntKind.i64.wrap (x5 + 1)) x6 l7
   ) else (
    zBe n a1 a2 y3 k x5 (IntKind.i64.wrap (x6 + 1)) l7
   )
  )
 ) else (
  some l7
 )
def zEd (n : Nat) : (List Nd) → (List Nd) → Option (List (Int × Int))
| a1,a2 =>
 (zCq n a1 a2).bind fun y3 =>
 (zBe n a1 a2 y3 n 0 0 []).bind fun l8 =>
 some l8
end Go.Proofs.YtgfneloodabafaaGreatDoor
namespace Go.Proofs.YtgfneloodabafaaGreatDoor
open Go.Abs
mutual
def Nd.cnt : Nd → Nat
 | .mk _ _ _ ks => Nd.cnts ks + 1
def Nd.cnts : List Nd → Nat
 | [] => 0
 | v :: vs => v.cnt + Nd.cnts vs
end
theorem Nd.cnt_pos : ∀ v : Nd,1 ≤ v.cnt
 | .mk _ _ _ ks => by simp only [Nd.cnt]; omega
theorem Nd.cnts_append : ∀ a b : List Nd,Nd.cnts (a ++ b) = Nd.cnts a + Nd.cnts b
 | [],b => by simp [Nd.cnts]
 | v :: a,b => by simp only [List.cons_append,Nd.cnts,Nd.cnts_append a b]; omega
theorem Nd.cnts_len : ∀ a : List Nd,a.length ≤ Nd.cnts a
 | [] => Nat.le_refl _
 | v :: a => by have:=Nd.cnts_len a; have:=v.cnt_pos; simp only [Nd.cnts,List.length_cons]; omega
theorem Nd.cnts_mem : ∀ {a : List Nd} {v : Nd},v ∈ a → v.cnt ≤ Nd.cnts a
 | u :: a,v,h => by
  simp only [Nd.cnts]
  rcases List.mem_cons.1 h with rfl | h
  ·omega
  ·have:=Nd.cnts_mem h; omega
theorem Nd.cnts_drop {a : List Nd} {i : Nat} (h : i < a.length) : Nd.cnts (a.drop i) = (a[i]).cnt + Nd.cnts (a.drop (i + 1)):=by
 rw [List.drop_eq_getElem_cons h]; rfl
def zHJ (n : Nd) : Option Nd:=req (n.cnt ≤ 1000000000) (some n)
def Nd.kids : Nd → List Nd
 | .mk _ _ _ ks => ks
theorem zSP (n : Nd) : n.kids ≠ [] ↔ n.kids.isEmpty = false:=by cases n.kids <;> simp
instance (n : Nd) : Decidable (n.kids ≠ []):=decidable_of_iff _ (zSP n).symm
def zQA : Nd:=.mk 0 [] 0 []
end Go.Proofs.YtgfneloodabafaaGreatDoor
namespace Go.Abs
section
variable {T : Nat → Option TI} {Γ : Nat → Option zAB} {M nm L : List Nat} {N k : Nat} {n : Nat → Bool} {all os : List Oper} {o : Oper} {σ σ' : St} {K : St → Prop} {φ : Option Prop} {x : AV} {d : Nat}
theorem zPm {φ : Option Prop} {K : Prop} (h1 : φ.getD True) (h2 : K) : andO φ K:=by
 cases φ with
 | none => exact h2
 | some p => exact ⟨h1,h2⟩
theorem zQa (h : K (σ.putN d x)) : lay false (some d) x σ K:=by
 simp only [lay,zIg]; exact h
theorem zAx (hg : o.guard = none) (hd : o.dst = some d) (hN : Nat.blt d N = true) (hc : callOf T Γ o σ.env = none) (hn : dIn (some d) nm = false) (hs : step1 T (dIn (some d) M) o σ = some (φ,x,σ')) (hφ : φ.getD True)
  (h : zD0 T Γ M nm N all os (σ'.putN d x) K) : zD0 T Γ M nm N all (o :: os) σ K:=by
 unfold zD0
 rw [hg,hd]
 dsimp only
 rw [hN,hc,hn,hs]
 exact zPm hφ (zQa h)
theorem zD9 (hg : o.guard = none) (hd : o.dst = none) (hc : callOf T Γ o σ.env = none) (hs : step1 T (dIn none M) o σ = some (φ,x,σ')) (hφ : φ.getD True)
  (h : zD0 T Γ M nm N all os σ' K) : zD0 T Γ M nm N all (o :: os) σ K:=by
 unfold zD0
 rw [hg,hd,hc,hs]
 exact zPm hφ h
theorem zJO (hg : o.guard = none) (hd : o.dst = some d) (hL : inL k L = true) (hc : callOf T Γ o σ.env = none) (hn : dIn (some d) nm = false) (hs : step1 T (dIn (some d) M) o σ = some (φ,x,σ')) (hφ : φ.getD True)
  (h : evD T Γ M nm L [] n all os (k + 1) (σ'.putN d x) K) : evD T Γ M nm L [] n all (o :: os) k σ K:=by
 unfold evD
 rw [hg,hd,hL,hc,hn,hs]
 simp only [inL,Bool.false_and]
 exact zPm hφ (zQa h)
theorem zKW {own : Bool} {t e q sz kk : Nat} {j ti : TI} {y i : Operand} {n : Int} {ki : IntKind} {rows : List (List S)} (ho : o.op = .indexAddr t y i) (ht : T t = some ti) (hk : ti.k = .slice e) (hj : T e = some j) (hy : opd T σ.env t y = .orow q)
  (hi : opd T σ.env 0 i = .s (.int ki n)) (hh : σ.hp q = some (.row kk sz rows)) (hz : Nat.beq sz j.size = true) : step1 T own o σ = some (some (0 ≤ n ∧ n < rows.length),.rp q sz n.toNat 0,σ):=by
 have e1 : zCr T own o σ.env = none:=by simp only [zCr,ho,zEg,hy,hi,AV.nrm,ht,hk]
 simp only [step1,e1,zB1,zC1,ho,elemOf,ht,hk,hj,hy,hi,hh,hz]
theorem zSi {own : Bool} {t e q sz kk : Nat} {j ti : TI} {y i : Operand} {n : Int} {ki : IntKind} {rows : List (List AV)} (ho : o.op = .indexAddr t y i) (ht : T t = some ti) (hk : ti.k = .slice e) (hj : T e = some j) (hy : opd T σ.env t y = .orow q)
  (hi : opd T σ.env 0 i = .s (.int ki n)) (hh : σ.hp q = some (.arow kk sz rows)) (hz : Nat.beq sz j.size = true) : step1 T own o σ = some (some (0 ≤ n ∧ n < rows.length),.rp q sz n.toNat 0,σ):=by
 have e1 : zCr T own o σ.env = none:=by simp only [zCr,ho,zEg,hy,hi,AV.nrm,ht,hk]
 simp only [step1,e1,zB1,zC1,zC2,ho,elemOf,ht,hk,hj,hy,hi,hh,hz]
theorem zNh {own : Bool} {t q sz r off kk : Nat} {ti : TI} {y z : Operand} {rows : List (List S)} {ss : List S} (ho : o.op = .store t y z) (ht : T t = some ti) (hy : opd T σ.env 0 y = .rp q sz r off)
  (hz : (opd T σ.env t z).cellsS = some ss) (hh : σ.hp q = some (.row kk sz rows)) (h1 : Nat.beq sz sz = true) (h2 : Nat.beq ss.length ti.size = true) (h3 : Nat.ble (off + ti.size) sz = true) :
  step1 T own o σ = some (some (r < rows.length),.junk,zEz σ q (.row kk sz (rows.set r ((rows.getD r []).take off ++ ss ++ (rows.getD r []).drop (off + ti.size))))):=by
 have e1 : zCr T own o σ.env = none:=by simp only [zCr,ho]
 simp only [step1,e1,zB1,zC1,ho,ht,hy,hz,hh,h1,h2,h3]
theorem zSl {own : Bool} {t q sz r off kk : Nat} {ti : TI} {y z : Operand} {rows : List (List AV)} (ho : o.op = .store t y z) (ht : T t = some ti) (hy : opd T σ.env 0 y = .rp q sz r off)
  (hh : σ.hp q = some (.arow kk sz rows)) (h1 : Nat.beq sz sz = true) (h2 : Nat.beq (opd T σ.env t z).cellsA.length ti.size = true) (h3 : Nat.ble (off + ti.size) sz = true) (h4 : ((opd T σ.env t z).cellsA).all AV.one = true) :
  step1 T own o σ = some (some (r < rows.length),.junk,zEz σ q (.arow kk sz (rows.set r ((rows.getD r []).take off ++ (opd T σ.env t z).cellsA ++ (rows.getD r []).drop (off + ti.size))))):=by
 have e1 : zCr T own o σ.env = none:=by simp only [zCr,ho]
 have e2 : zC1 T own o σ = none:=by
  simp only [zC1,ho,hy,ht,hh]
 simp only [step1,e1,zB1,e2,zC2,ho,ht,hy,hh,h1,h2,h3,h4]
theorem zOU {own : Bool} {t q off : Nat} {ti : TI} {y z : Operand} {bt : Nat} {cells : List AV} (ho : o.op = .store t y z) (ht : T t = some ti) (hy : opd T σ.env 0 y = .op q off)
  (hh : σ.hp q = some (.box bt cells)) (h2 : Nat.beq (opd T σ.env t z).cellsA.length ti.size = true) (h3 : Nat.ble (off + ti.size) cells.length = true) (h4 : ((opd T σ.env t z).cellsA).all AV.one = true) (h5 : AV.ltAll σ.nx (opd T σ.env t z).cellsA = true) :
  step1 T own o σ = some (none,.junk,zEz σ q (.box bt (cells.take off ++ (opd T σ.env t z).cellsA ++ cells.drop (off + ti.size)))):=by
 have e1 : zCr T own o σ.env = none:=by simp only [zCr,ho]
 simp only [step1,e1,zB1,zC1,ho,ht,hy,hh,h2,h3,h4,h5,zDt]
theorem zTj {own : Bool} {t q off : Nat} {ti : TI} {y : Operand} {bt : Nat} {cells : List AV} {c : AV} (ho : o.op = .load t y) (ht : T t = some ti) (ha : ti.k.agg = false) (hy : opd T σ.env 0 y = .op q off) (hh : σ.hp q = some (.box bt cells)) (hc : cells[off]? = some c) :
  step1 T own o σ = some (none,c,σ):=by
 have e1 : zCr T own o σ.env = none:=by simp only [zCr,ho,hy]
 simp only [step1,e1,zB1,zC1,ho,ht,hy,hh,ha,hc]
theorem zSj {own : Bool} {t q off : Nat} {ti : TI} {y : Operand} {bt : Nat} {cells : List AV} (ho : o.op = .load t y) (ht : T t = some ti) (ha : ti.k.agg = true) (hy : opd T σ.env 0 y = .op q off) (hh : σ.hp q = some (.box bt cells)) (hc : Nat.ble (off + ti.size) cells.length = true) :
  step1 T own o σ = some (none,.agg ((cells.drop off).take ti.size),σ):=by
 have e1 : zCr T own o σ.env = none:=by simp only [zCr,ho,hy]
 simp only [step1,e1,zB1,zC1,ho,ht,hy,hh,ha,hc]
theorem zNg {own : Bool} {t q kk sz : Nat} {e : Nat} {args : Array Operand} {ts : Array Nat} {y : Operand} {rows : List (List AV)} (ho : o.op = .call { callee:=.builtin .len,args:=args,argTypes:=ts }) (ha : args.toList = [y]) (hts : ts.toList = [t]) (ht : tk T t = .slice e)
  (hy : opd T σ.env t y = .orow q) (hh : σ.hp q = some (.arow kk sz rows)) : step1 T own o σ = some (none,.s (.int .i64 (rows.length : Int)),σ):=by
 have e1 : zCr T own o σ.env = none:=by simp only [zCr,ho,ha,hts,pLen,ht,hy]
 have e2 : zC1 T own o σ = none:=by simp only [zC1,ho,ha,hts,ht,hy,hh]
 simp only [step1,e1,zB1,e2,zC2,ho,ha,hts,ht,hy,hh]
theorem zQv {own : Bool} {t q sz r off : Nat} {y : Operand} (ho : o.op = .load t y) (hy : opd T σ.env 0 y = .rp q sz r off) : step1 T own o σ = none ∧ callOf T Γ o σ.env = none ∧ zCK T o σ.env = none:=by
 have e1 : zCr T own o σ.env = none:=by simp only [zCr,ho,hy]
 have e2 : zC1 T own o σ = none:=by simp only [zC1,ho,hy]
 have e3 : zC2 T o σ = none:=by simp only [zC2,ho]
 exact ⟨by simp only [step1,e1,zB1,e2,e3],by simp only [callOf,ho],by simp only [zCK,ho]⟩
theorem zTG {t : Nat} {y : Operand} (ho : o.op = .load t y) : nilQ T o σ.env = none:=by simp only [nilQ,ho]
theorem zN6 {t q sz r off kk : Nat} {y : Operand} {rows : List (List AV)} {c : AV} (hg : o.guard = none) (hd : o.dst = some d) (hN : Nat.blt d N = true) (hn : dIn (some d) nm = false) (ho : o.op = .load t y) (hy : opd T σ.env 0 y = .rp q sz r off)
  (hh : σ.hp q = some (.arow kk sz rows)) (hr : r < rows.length) (hc : zMM T t ((rows.getD r []).drop off) = some c) (h : zD0 T Γ M nm N all os (σ.putN d c) K) : zD0 T Γ M nm N all (o :: os) σ K:=by
 obtain ⟨e1,e2,e3⟩:=zQv (Γ:=Γ) (own:=dIn (some d) M) ho hy
 unfold zD0
 rw [hg,hd]
 dsimp only
 rw [hN,e2,hn,e1,zTG ho]
 have hz : Nat.beq sz sz = true:=Nat.beq_refl sz
 simp only [zFv,e3,zG7,ho,hy,hh,hz]
 exact ⟨hr,_,rfl,by rw [hc]; exact zQa h⟩
theorem zP1 {t q sz r off kk : Nat} {y : Operand} {rows : List (List S)} {c : AV} (hg : o.guard = none) (hd : o.dst = some d) (hL : inL k L = true) (hn : dIn (some d) nm = false) (ho : o.op = .load t y) (hy : opd T σ.env 0 y = .rp q sz r off)
  (hh : σ.hp q = some (.row kk sz rows)) (hr : r < rows.length) (hc : zJG T t ((rows.getD r []).drop off) = some c) (h : evD T Γ M nm L [] n all os (k + 1) (σ.putN d c) K) : evD T Γ M nm L [] n all (o :: os) k σ K:=by
 obtain ⟨e1,e2,e3⟩:=zQv (Γ:=Γ) (own:=dIn (some d) M) ho hy
 unfold evD
 rw [hg,hd,e2,hL,hn,e1]
 have hz : Nat.beq sz sz = true:=Nat.beq_refl sz
 simp only [inL,Bool.false_and,zSN,zFv,e3,zG7,ho,hy,hh,hz]
 exact ⟨hr,_,rfl,by rw [hc]; exact zQa h⟩
end
end Go.Abs
namespace Go.Abs
inductive Rd (hp : Nat → Option Ob) : AV → S → Prop
 | s (x : S) : Rd hp (.s x) x
 | nl (sz : Nat) : Rd hp (.nl sz) (.sl sz [])
 | row {k e sz : Nat} {rows : List (List S)} (h : hp k = some (.row e sz rows)) : Rd hp (.orow k) (.sl sz rows)
 | arow {k e sz : Nat} {rows : List (List AV)} {rs : List (List S)} (h : hp k = some (.arow e sz rows)) (hl : rows.length = rs.length) (hr : ∀ r ∈ rs,r.length = sz)
   (hc : ∀ (i : Nat) x s,rows.flatten[i]? = some x → rs.flatten[i]? = some s → Rd hp x s) : Rd hp (.orow k) (.sl sz rs)
 | box {k off bt : Nat} {cells : List AV} {ss : List S} (h : hp k = some (.box bt cells)) (hl : cells.length = ss.length)
   (hc : ∀ (i : Nat) x s,cells[i]? = some x → ss[i]? = some s → Rd hp x s) : Rd hp (.op k off) (.pt (ss.drop off))
 | el {k e sz i off : Nat} {rows : List (List AV)} {rs : List (List S)} (h : hp k = some (.arow e sz rows)) (hl : rows.length = rs.length) (hr : ∀ r ∈ rs,r.length = sz) (hi : i < rs.length)
   (hc : ∀ (i : Nat) x s,rows.flatten[i]? = some x → rs.flatten[i]? = some s → Rd hp x s) : Rd hp (.rp k sz i off) (.pt ((rs.getD i []).drop off))
def allG (G : Nat → Prop) (β : Nat → Value) (hp : Nat → Option Ob) (b : Nat) : Prop:=G b ∨ ∃ k ob,hp k = some ob ∧ blk (β k) = some b
theorem Rd.rep {c : Cx} {G : Nat → Prop} {β : Nat → Value} {σ : St} {a : Act} {w : World} (hc : Conc c G β σ a w) {x : AV} {s : S} (h : Rd σ.hp x s) : ∀ {v : Value},AVal G w β x v → Rep (allG G β σ.hp) w s v:=by
 have hk : Keep G (allG G β σ.hp) w w:=⟨fun _ h => .inl h,fun _ _ => rfl⟩
 induction h with
 | s x => intro v hv; simp only [AVal] at hv; exact hv.keep hk
 | nl sz => intro v hv; simp only [AVal] at hv; subst hv; simp [Rep]
 | @row k e sz rows h =>
  intro v hv
  simp only [AVal] at hv
  obtain ⟨hlen,hsz,ho⟩:=hc.hp k _ h
  rw [hv.1]
  rcases ho with ⟨h1,rfl⟩ | ⟨b,cap,cur,h1,h2,h3,h4,h5,h6,h7⟩
  ·rw [h1]; simp [Rep]
  ·rw [h1]
   simp only [Rep]
   refine .inr ⟨b,0,cap,rfl,h2,zCg hlen (RepRow.mk fun i s hi => ⟨.inr ⟨k,_,h,by rw [h1]; rfl⟩,?_⟩)⟩
   obtain ⟨u,hu,hr⟩:=h7 i s hi
   exact ⟨u,by simp [World.cell?,h4,hu],hr.keep hk⟩
 | @arow k e sz rows rs h hl hr hcc ih =>
  intro v hv
  simp only [AVal] at hv
  obtain ⟨hlen,hsz,ho⟩:=hc.hp k _ h
  rw [hv.1]
  rcases ho with ⟨h1,rfl⟩ | ⟨b,cap,cur,h1,h2,h3,h4,h5,h6,h7⟩
  ·obtain rfl : rs = []:=List.length_eq_zero_iff.1 (by simpa using hl.symm)
   rw [h1]; simp [Rep]
  ·rw [h1]
   simp only [Rep]
   refine .inr ⟨b,0,cap,by rw [hl],by rw [← hl]; exact h2,zCg hr (RepRow.mk fun i s hi => ⟨.inr ⟨k,_,h,by rw [h1]; rfl⟩,?_⟩)⟩
   have hfl:=zBk hlen
   have hfs:=zBk hr
   have hil : i < rows.flatten.length:=by rw [hfl,hl,← hfs]; exact (List.getElem?_eq_some_iff.1 hi).1
   obtain ⟨u,hu,hr',_⟩:=h7 i _ (List.getElem?_eq_getElem hil)
   exact ⟨u,by simp [World.cell?,h4,hu],ih i _ s (List.getElem?_eq_getElem hil) hi hr'⟩
 | @box k off bt cells ss h hl hcc ih =>
  intro v hv
  simp only [AVal] at hv
  obtain ⟨b,e,cur,h1,h2,h3,h4,h5,h6⟩:=hc.hp k _ h
  obtain ⟨b',hβ,rfl⟩:=hv
  rw [h1] at hβ; cases hβ
  simp only [Rep]
  have hrow : RepRow (allG G β σ.hp) w b ss 0:=RepRow.mk fun i s hi => by
   refine ⟨.inr ⟨k,_,h,by rw [h1]; rfl⟩,?_⟩
   have hil : i < cells.length:=by rw [hl]; exact (List.getElem?_eq_some_iff.1 hi).1
   obtain ⟨u,hu,hr⟩:=h5.get (List.getElem?_eq_getElem hil)
   rw [Array.getElem?_toList] at hu
   exact ⟨u,by simp [World.cell?,h2,hu],ih i _ s (List.getElem?_eq_getElem hil) hi hr⟩
  exact ⟨b,off,rfl,by simpa using hrow.drop off⟩
 | @el k e sz i off rows rs h hl hr hi hcc ih =>
  intro v hv
  simp only [AVal] at hv
  obtain ⟨b,n,cp,hβ,rfl⟩:=hv
  obtain ⟨hlen,hsz,ho⟩:=hc.hp k _ h
  rcases ho with ⟨h1,rfl⟩ | ⟨b',cap,cur,h1,h2,h3,h4,h5,h6,h7⟩
  ·simp at hl; omega
  rw [hβ] at h1; cases h1
  simp only [Rep]
  refine ⟨b,i * sz + off,rfl,?_⟩
  have hfl:=zBk hlen
  have hfs:=zBk hr
  have hrow : RepRow (allG G β σ.hp) w b rs.flatten 0:=RepRow.mk fun q s hq => by
   refine ⟨.inr ⟨k,_,h,by rw [hβ]; rfl⟩,?_⟩
   have hil : q < rows.flatten.length:=by rw [hfl,hl,← hfs]; exact (List.getElem?_eq_some_iff.1 hq).1
   obtain ⟨u,hu,hr',_⟩:=h7 q _ (List.getElem?_eq_getElem hil)
   exact ⟨u,by simp [World.cell?,h4,hu],ih q _ s (List.getElem?_eq_getElem hil) hq hr'⟩
  have hrows:=(zCg hr hrow).get (i:=i) (r:=rs[i]) (List.getElem?_eq_getElem hi)
  have hg : rs.getD i [] = rs[i]:=by simp [List.getElem?_eq_getElem hi]
  rw [hg]
  have:=hrows.2.drop off
  simpa using this
def RdV (hp : Nat → Option Ob) : AV → AV → Prop
 | x,.s y => Rd hp x y
 | .agg xs,.agg ys => xs.length = ys.length ∧ ∀ (i : Nat) x y,xs[i]? = some x → ys[i]? = some y → ∃ s,y = .s s ∧ Rd hp x s
 | _,.junk => True
 | _,_ => False
theorem RdV.aval {c : Cx} {G : Nat → Prop} {β : Nat → Value} {σ : St} {a : Act} {w : World} (hc : Conc c G β σ a w) {x y : AV} (h : RdV σ.hp x y) {v : Value} (hv : AVal G w β x v) : AVal (allG G β σ.hp) w β y v:=by
 unfold RdV at h
 split at h
 ·simp only [AVal]; exact h.rep hc hv
 ·simp only [AVal] at hv ⊢
  obtain ⟨vs,rfl,hvs⟩:=hv
  refine ⟨vs,rfl,AVals.mk (by rw [← h.1]; exact hvs.length) fun i y u hy hu => ?_⟩
  rename_i xs ys
  have hil : i < xs.length:=by rw [h.1]; exact (List.getElem?_eq_some_iff.1 hy).1
  obtain ⟨s,rfl,hs⟩:=h.2 i _ y (List.getElem?_eq_getElem hil) hy
  obtain ⟨u',hu',hr⟩:=hvs.get (List.getElem?_eq_getElem hil)
  rw [hu] at hu'; cases hu'
  simp only [AVal]; exact hs.rep hc hr
 ·simp only [AVal]
 ·exact h.elim
def RdL (hp : Nat → Option Ob) (env : Nat → AV) : List (Nat × AV) → Prop
 | [] => True
 | (t,y) :: r => RdV hp (env t) y ∧ RdL hp env r
theorem RdL.get {c : Cx} {G : Nat → Prop} {β : Nat → Value} {σ : St} {a : Act} {w : World} (hc : Conc c G β σ a w) : ∀ {l : List (Nat × AV)},RdL σ.hp σ.env l → ∀ t,AVal (allG G β σ.hp) w β (ofL l t) (a.tmps.getD t undef)
 | [],_,t => by simp only [ofL,AVal]
 | (u,y) :: r,h,t => by
  simp only [ofL]
  cases e : Nat.beq t u with
  | true => obtain rfl:=Nat.eq_of_beq_eq_true e; exact h.1.aval hc (hc.env t)
  | false => exact RdL.get hc h.2 t
def zS2 : List (Nat × AV) → Bool
 | [] => true
 | (_,y) :: r => (y.pers || (match y with | .junk => true | _ => false)) && zS2 r
theorem zQj {n : Nat} : ∀ {l : List (Nat × AV)},zS2 l = true → ∀ t,(ofL l t).lt n = true
 | [],_,t => rfl
 | (u,y) :: r,h,t => by
  simp only [zS2,Bool.and_eq_true,Bool.or_eq_true] at h
  simp only [ofL]
  cases Nat.beq t u with
  | true =>
   rcases h.1 with h1 | h1
   ·exact AV.pers_lt h1
   ·cases y <;> simp at h1
    rfl
  | false => exact zQj h.2 t
theorem Le.giveWhole {c : Cx} {σ : St} (l : List (Nat × AV)) (h : RdL σ.hp σ.env l) (hp : zS2 l = true) : Le c σ ⟨ofL l,fun _ => none,σ.nx⟩:=by
 unfold Le
 intro G β a w hc
 have hk : Keep G (allG G β σ.hp) w w:=⟨fun _ h => .inl h,fun _ _ => rfl⟩
 refine ⟨allG G β σ.hp,β,{ defers:=hc.defers,size:=hc.size,env:=RdL.get hc h,envlt:=zQj hp,hp:=fun k ob hk => (by cases hk),hplt:=fun k ob hk => (by cases hk),inj:=fun k k' ob ob' hk => (by cases hk),lt:=fun b hb => ?_,sub:=fun b hb => .inl (hc.sub b hb),new:=fun b hb => ?_,fr:=hc.fr,stay:=hc.stay,glob:=hc.glob.keep hk }⟩
 ·rcases hb with hb | ⟨k,ob,h1,h2⟩
  ·exact hc.lt b hb
  ·exact hc.blk_lt h1 h2
 ·rcases hb with hb | ⟨k,ob,h1,h2⟩
  ·exact hc.new b hb
  ·exact .inr (row_block (hc.hp k ob h1) b h2).2
end Go.Abs
namespace Go.Abs
def zAS (L : List (List Int)) : List (List AV):=L.map fun r => [.s (.sl 1 (r.map (irow .i64)))]
def nils (k : Nat) : List (List AV):=List.replicate k [.s (.sl 1 [])]
theorem zRt {α β : Type} (f : α → β) : ∀ (l : List α),(l.map fun r => [f r]).flatten = l.map f
 | [] => rfl
 | x :: l => by simp [zRt f l]
theorem zOP {hp : Nat → Option Ob} {k e : Nat} {L : List (List Int)} (h : hp k = some (.arow e 1 (zAS L))) : Rd hp (.orow k) (.sl 1 (L.map fun r => [S.sl 1 (r.map (irow .i64))])) :=
 .arow h (by simp [zAS]) (fun r hr => by obtain ⟨r',_,rfl⟩:=List.mem_map.1 hr; rfl) fun i x s hx hs => by
  have e1 : (zAS L).flatten = L.map fun r => AV.s (.sl 1 (r.map (irow .i64))):=zRt _ L
  have e2 : (L.map fun r => [S.sl 1 (r.map (irow .i64))]).flatten = L.map fun r => S.sl 1 (r.map (irow .i64)):=zRt _ L
  rw [e1,List.getElem?_map] at hx
  rw [e2,List.getElem?_map] at hs
  cases hi : L[i]? with
  | none => rw [hi] at hx; cases hx
  | some r =>
   rw [hi] at hx hs
   cases hx; cases hs
   exact .s _
theorem zNp (m : Nat) : (List.replicate m [S.sl 1 []]).map (·.map AV.s) = nils m:=by simp [nils]
theorem zFf {ρ : List (Nat × Nat)} (L : List (List Int)) : (zAS L).map (AV.renAll ρ) = zAS L:=by
 simp [zAS,AV.renAll,AV.ren]
theorem zGf {ρ : List (Nat × Nat)} (m : Nat) : (nils m).map (AV.renAll ρ) = nils m:=by
 simp [nils,AV.renAll,AV.ren]
theorem zSU {n : Nat} {l : List AV} (h : ∀ x ∈ l,∃ s,x = AV.s s) : AV.ltAll n l = true:=zER fun x hx => by obtain ⟨s,rfl⟩:=h x hx; rfl
theorem zF8 {n k : Nat} {L : List (List Int)} : AV.ltAll n (nils k ++ zAS L).flatten = true:=zSU fun x hx => by
 simp only [nils,zAS,List.mem_flatten,List.mem_append,List.mem_replicate,List.mem_map] at hx
 obtain ⟨l,(⟨_,rfl⟩ | ⟨r,_,rfl⟩),hx⟩:=hx
 ·exact ⟨_,List.mem_singleton.1 hx⟩
 ·exact ⟨_,List.mem_singleton.1 hx⟩
theorem zIK {n : Nat} : ∀ {xs ys : List AV},AV.ltAll n (xs ++ ys) = (AV.ltAll n xs && AV.ltAll n ys)
 | [],_ => rfl
 | x :: xs,ys => by simp [AV.ltAll,zIK (xs:=xs),Bool.and_assoc]
theorem lt_1 {n k q : Nat} {L : List (List Int)} : AV.ltAll n (nils k ++ [.orow q] :: zAS L).flatten = decide (q < n):=by
 have h1 : AV.ltAll n (nils k).flatten = true:=by have:=zF8 (n:=n) (k:=k) (L:=[]); simpa [zAS] using this
 have h2 : AV.ltAll n (zAS L).flatten = true:=zF8 (k:=0)
 rw [List.flatten_append,List.flatten_cons,zIK,zIK,h1,h2]
 simp [AV.ltAll,AV.lt]
theorem lt_p {n : Nat} {L : List (List Int)} : AV.ltAll n (zAS L).flatten = true:=zF8 (k:=0)
theorem zDQ {k : Nat} {x : List AV} {l : List (List AV)} : (nils k ++ x :: l).getD k [] = x:=by
 simp [nils,List.getD_eq_getElem?_getD,List.getElem?_append]
theorem zIH {k : Nat} {x y : List AV} {l : List (List AV)} : (nils k ++ x :: y :: l).getD (k + 1) [] = y:=by
 simp [nils,List.getD_eq_getElem?_getD,List.getElem?_append]
theorem zQq {k : Nat} {x : List AV} {L : List (List Int)} : (nils (k + 1) ++ zAS L).set k x = nils k ++ x :: zAS L:=by
 have : nils (k + 1) ++ zAS L = nils k ++ [.s (.sl 1 [])] :: zAS L:=by simp [nils,List.replicate_succ']
 rw [this,List.set_append_right _ _ (by simp [nils])]
 simp [nils]
theorem zOa {k : Nat} {L : List (List Int)} : (nils (k + 1) ++ zAS L).getD k [] = [.s (.sl 1 [])]:=by
 have : nils (k + 1) ++ zAS L = nils k ++ [.s (.sl 1 [])] :: zAS L:=by simp [nils,List.replicate_succ']
 rw [this,zDQ]
theorem zDf {l : List Int} {i : Nat} {v : Int} (h : l[i]? = some v) : (l.map (irow .i64)).getD i [] = [.int .i64 v]:=by
 simp [List.getD_eq_getElem?_getD,h,irow]
theorem zF7 (l : List Int) : (l.map (irow .i64)).length = l.length:=List.length_map ..
theorem zGe {e : Nat} {k q : Nat} {L : List (List Int)} (ρ : List (Nat × Nat)) (h : look q ρ = some q) : (Ob.arow e 1 (nils k ++ [.orow q] :: zAS L)).ren ρ = .arow e 1 (nils k ++ [.orow q] :: zAS L):=by
 simp [Ob.ren,zGf,zFf,AV.renAll,AV.ren,h]
theorem zQl {e : Nat} {k : Nat} {L : List (List Int)} (ρ : List (Nat × Nat)) : (Ob.arow e 1 (nils k ++ zAS L)).ren ρ = .arow e 1 (nils k ++ zAS L):=by
 simp [Ob.ren,zGf,zFf]
theorem zHS {l : List Int} {j : Nat} {v x : Int} (h : l[j]? = some v) : (l.map (irow .i64)).set j (((l.map (irow .i64)).getD j []).take 0 ++ [.int .i64 x] ++ ((l.map (irow .i64)).getD j []).drop (0 + 1)) = (l.set j x).map (irow .i64):=by
 rw [zDf h,List.map_set]; rfl
theorem zGi {j : Nat} {x : Int} (l : List Int) : (List.replicate (j + 1) 0 ++ l).set j x = List.replicate j 0 ++ x :: l:=by
 rw [List.replicate_succ',List.append_assoc,List.set_append_right _ _ (by simp)]
 simp
theorem zUe {e : Nat} {a q : Nat} {r : List Int} {L : List (List Int)} {p : Nat → AV} (ρ : List (Nat × Nat)) (h : Nat.beq q q = true) : (Ob.frz q (.s (.sl 1 (r.map (irow .i64)))) p (.arow e 1 (nils a ++ [.orow q] :: zAS L))).ren ρ = .arow e 1 (nils a ++ zAS (r :: L)):=by
 simp [Ob.frz,Ob.ren,nils,zAS,AV.frzAll,AV.frz,AV.renAll,AV.ren,h]
theorem zT0 {e : Nat} {a q : Nat} {L : List (List Int)} (r : AV) (p : Nat → AV) (ρ : List (Nat × Nat)) : (Ob.frz q r p (.arow e 1 (nils a ++ zAS L))).ren ρ = .arow e 1 (nils a ++ zAS L):=by
 simp [Ob.frz,Ob.ren,nils,zAS,AV.frzAll,AV.frz,AV.renAll,AV.ren]
def zKZ (e : Nat) (rows : List (List AV)) (dyn : Nat → Option Ob) : Nat → Option Ob
 | 0 => some (.arow e 1 rows)
 | k + 1 => dyn k
def zDE (t : Nat) : List (List AV):=(List.range t).map fun q => [.orow (q + 1)]
def ddyn (e k : Nat) (z : List Int) (L : List (List Int)) (q : Nat) : Option Ob :=
 if q < k then some (.row e 1 (z.map (irow .i64))) else (L[q - k]?).map fun r => .row e 1 (r.map (irow .i64))
theorem Le.forgetH {c : Cx} {σ : St} (l : List (Nat × AV)) (hp' : Nat → Option Ob) (n : Nat) (h : holds σ.env l) (hh : ∀ k,σ.hp k = hp' k) (hn : σ.nx = n) : Le c σ ⟨ofL l,hp',n⟩:=by
 obtain rfl : σ.hp = hp':=funext hh
 subst hn
 exact Le.forget l h
theorem zKG (t : Nat) : (zDE t).length = t:=by simp [zDE]
theorem zOA {t q : Nat} (h : q < t) : (zDE t).getD q [] = [.orow (q + 1)]:=by
 simp [zDE,List.getD_eq_getElem?_getD,h]
theorem zRP {t m : Nat} : (zDE t ++ nils (m + 1)).getD t [] = [.s (.sl 1 [])]:=by
 simp [zDE,nils,List.getD_eq_getElem?_getD,List.getElem?_append]
theorem zRQ {t m : Nat} : (zDE t ++ nils (m + 1)).set t [.orow (t + 1)] = zDE (t + 1) ++ nils m:=by
 rw [List.set_append_right _ _ (by simp [zDE])]
 simp [zDE,nils,List.range_succ,List.replicate_succ]
theorem zCZ {e k : Nat} {z r : List Int} {L : List (List Int)} : ddyn e k z (r :: L) k = some (.row e 1 (r.map (irow .i64))):=by
 simp [ddyn]
theorem zId {e k : Nat} {z r s : List Int} {L : List (List Int)} : ddyn e k z (r :: s :: L) (k + 1) = some (.row e 1 (s.map (irow .i64))):=by
 unfold ddyn
 rw [if_neg (by omega),show k + 1 - k = 1 by omega]; rfl
theorem zRp {e k : Nat} {z : List Int} {L : List (List Int)} (q : Nat) : ddyn e (k + 1) z L q = ddyn e k z (z :: L) q:=by
 unfold ddyn
 by_cases h : q < k
 ·rw [if_pos h,if_pos (by omega)]
 ·by_cases h2 : q = k
  ·subst h2; rw [if_pos (by omega),if_neg h]; simp
  ·rw [if_neg h,if_neg (by omega),show q - k = (q - (k + 1)) + 1 by omega]; simp
theorem zMG {e k : Nat} {z r r' : List Int} {L : List (List Int)} (q : Nat) : (bif Nat.beq (q + 1) (k + 1) then some (Ob.row e 1 (r'.map (irow .i64))) else ddyn e k z (r :: L) q) = ddyn e k z (r' :: L) q:=by
 cases h : Nat.beq (q + 1) (k + 1) with
 | true =>
  obtain rfl : q = k:=by have:=Nat.eq_of_beq_eq_true h; omega
  rw [cond_true,zCZ]
 | false =>
  have hne : q ≠ k:=fun e => by subst e; rw [Nat.beq_refl] at h; cases h
  rw [cond_false]
  unfold ddyn
  by_cases h2 : q < k
  ·rw [if_pos h2,if_pos h2]
  ·rw [if_neg h2,if_neg h2,show q - k = (q - k - 1) + 1 by omega]; rfl
end Go.Abs
namespace Go.Abs
theorem PSound.ofOwn {P : Program} {f : Nat} {R : List AV → List Ob → AV → List (Option Ob) → Prop} (hcall : ∀ args w,(callFunc f args).run P w = .ok (.enter f args) w) (h : zJN P f R) : PSound P f (zBN R) :=
 ⟨hcall,fun _ _ _ _ _ _ _ _ _ hs => hs.elim,fun R' hR' => (by
  obtain rfl : R = R':=by simpa [zBN] using hR'
  exact h),fun R hR => (by cases hR)⟩
def zSX (s : zAB) : List AV → List Ob → AV → List (Option Ob) → Prop:=match s.own with | some R => R | none => fun _ _ _ _ => False
def orS (s t : zAB) : zAB:=zBN fun xs os x os' => zSX s xs os x os' ∨ zSX t xs os x os'
theorem zOE {P : Program} {f : Nat} {s t : zAB} (hs : PSound P f s) (ht : PSound P f t) : PSound P f (orS s t) :=
 PSound.ofOwn hs.1 fun G w β xs vs os x os' h1 h2 h3 h4 h5 h6 => by
  rcases h6 with h6 | h6
  ·unfold zSX at h6
   cases hR : s.own with
   | none => rw [hR] at h6; exact h6.elim
   | some R => rw [hR] at h6; exact hs.2.2.1 R hR G w β xs vs os x os' h1 h2 h3 h4 h5 h6
  ·unfold zSX at h6
   cases hR : t.own with
   | none => rw [hR] at h6; exact h6.elim
   | some R => rw [hR] at h6; exact ht.2.2.1 R hR G w β xs vs os x os' h1 h2 h3 h4 h5 h6
structure Wrote (b off : Nat) (v : Value) (cur : Array Value) (e : Nat) (w w' : World) : Prop where
 os : w'.os = w.os
 tape : w'.tape = w.tape
 output : w'.output = w.output
 size : w'.heap.size = w.heap.size
 old : ∀ i,i ≠ b → w'.heap[i]? = w.heap[i]?
 new : w'.heap[b]? = some (.cells (cur.setIfInBounds off v) e (0,0))
theorem Wrote.cell {b off e : Nat} {v : Value} {cur : Array Value} {w : World} (h : w.heap[b]? = some (.cells cur e (0,0))) : Wrote b off v cur e w (w.setCell ⟨b,off,none⟩ v) :=
 ⟨rfl,rfl,rfl,by simp [World.setCell],fun i hi => by
  simp only [World.setCell,Array.getElem?_modify]
  rw [if_neg (Ne.symm hi)],by simp [World.setCell,Array.getElem?_modify,h]⟩
theorem Wrote.same {b off e : Nat} {v : Value} {cur : Array Value} {w : World} (h : w.heap[b]? = some (.cells cur e (0,0))) (hc : cur[off]? = some v) : Wrote b off v cur e w w :=
 ⟨rfl,rfl,rfl,rfl,fun _ _ => rfl,by
  rw [h]
  have : cur.setIfInBounds off v = cur:=by
   apply Array.ext
   ·simp
   ·intro i h1 h2
    rw [Array.getElem_setIfInBounds (by simpa using h2)]
    split
    ·rename_i e; subst e
     rw [Array.getElem?_eq_getElem h2] at hc
     exact (Option.some.inj hc).symm
    ·rfl
  rw [this]⟩
theorem zRB {G : Nat → Prop} {w w' : World} {b : Nat} (hb : ¬ G b) (h : ∀ i,i ≠ b → w'.heap[i]? = w.heap[i]?) : Keep G G w w':=⟨fun _ h => h,fun i hi => h i fun e => hb (e ▸ hi)⟩
theorem zRj {P : Program} {f D e off : Nat} {cells cells' : List AV} {p : AV} (hoff : cells[off]? = some p) (hp : p = .s .np ∨ p = .op 0 off) (hrow : cells[off + 1]? = some (.orow 1))
  (hc' : cells' = (cells.set off (.op 0 off)).set (off + 1) (.orow 2)) (hpers : ∀ (i : Nat) x,cells[i]? = some x → i ≠ off → i ≠ off + 1 → x.pers = true)
  (hwalk : ∀ (b : Nat) (w : World) (cur : Array Value),w.heap[b]? = some (.cells cur D (0,0)) → cur.size = cells.length → (p = .s .np → cur[off]? = some (.pointer none)) → (p = .op 0 off → cur[off]? = some (.pointer (some ⟨b,off,none⟩))) →
   Calls P f #[.pointer (some ⟨b,off,none⟩)] w fun e w' => e = .returned (.tuple #[]) ∧ Wrote b off (.pointer (some ⟨b,off,none⟩)) cur D w w') :
  zJN P f fun xs os x os' => ∃ bs,xs = [.op 0 off] ∧ os = [.box D cells,.row e 1 bs] ∧ x = .tup [] ∧ os' = [some (.box D cells'),none,some (.row e 1 bs)]:=by
 rintro G w β xs vs os x os' hlt hgl hv hxl hobs ⟨bs,rfl,rfl,rfl,rfl⟩
 obtain ⟨hob0,_⟩:=hobs.1 0 (.box D cells) rfl
 obtain ⟨hob1,_⟩:=hobs.1 1 (.row e 1 bs) rfl
 have hdis : ∀ b,blk (β 0) = some b → blk (β 1) ≠ some b:=fun b => hobs.2 0 1 (.box D cells) (.row e 1 bs) rfl rfl (by decide) b
 obtain ⟨b,e',cur,h1,h2,h3,h4,h5,h6,rfl⟩:=hob0
 simp only [AVals,AVal] at hv
 obtain ⟨v,vs',rfl,⟨b',hb',rfl⟩,rfl⟩:=hv
 have hbb : b' = b:=by rw [h1] at hb'; simpa using hb'.symm
 subst hbb
 have hsz : cur.size = cells.length:=by simpa using h5.length
 have hval : ∀ v,cur[off]? = some v → AVal G w β p v:=fun v hv => by
  obtain ⟨u,hu,hr⟩:=h5.get hoff
  rw [Array.getElem?_toList,hv] at hu; cases hu; exact hr
 have hin : off < cur.size:=by rw [hsz]; exact (List.getElem?_eq_some_iff.1 hoff).1
 refine (hwalk b' w cur h2 hsz (fun e => ?_) (fun e => ?_)).mono fun e2 w' ⟨he,hw⟩ => ?_
 ·have:=hval _ (Array.getElem?_eq_getElem hin)
  rw [e] at this
  simp only [AVal,Rep] at this
  rw [Array.getElem?_eq_getElem hin,this]
 ·have:=hval _ (Array.getElem?_eq_getElem hin)
  rw [e] at this
  simp only [AVal] at this
  obtain ⟨b2,hb2,hv2⟩:=this
  rw [h1] at hb2; cases hb2
  rw [Array.getElem?_eq_getElem hin,hv2]
 ·have hk : Keep G G w w':=zRB h3 hw.old
  let β' : Nat → Value:=fun k => if k = 2 then β 1 else β k
  have hβ0 : β' 0 = β 0:=if_neg (by decide)
  have hβ2 : β' 2 = β 1:=if_pos rfl
  have hpp : AVals G w' β' cells' (cur.setIfInBounds off (.pointer (some ⟨b',off,none⟩))).toList:=by
   rw [hc']
   refine AVals.mk (by simp [hsz]) fun i x v hx hv => ?_
   rw [Array.getElem?_toList,Array.getElem?_setIfInBounds] at hv
   rw [List.getElem?_set] at hx
   split at hx
   ·rename_i hi
    subst hi
    split at hx
    ·cases hx
     rw [if_neg (by omega)] at hv
     obtain ⟨u,hu,hr⟩:=h5.get hrow
     rw [Array.getElem?_toList,hv] at hu; cases hu
     simp only [AVal] at hr ⊢
     rw [hβ2]; exact hr
    ·cases hx
   ·rename_i hi
    rw [List.getElem?_set] at hx
    split at hx
    ·rename_i hi2
     subst hi2
     rw [if_pos rfl] at hv
     split at hx
     ·cases hx
      rw [if_pos hin] at hv
      cases hv
      simp only [AVal]
      exact ⟨b',by rw [hβ0]; exact h1,rfl⟩
     ·cases hx
    ·rename_i hi2
     rw [if_neg hi2] at hv
     obtain ⟨u,hu,hr⟩:=h5.get hx
     rw [Array.getElem?_toList,hv] at hu; cases hu
     exact AVal.pers (hpers i x hx (Ne.symm hi2) (Ne.symm hi)) (hr.keep hk)
  have hone : ∀ u ∈ (cur.setIfInBounds off (.pointer (some ⟨b',off,none⟩))).toList,u.oneCell' = true:=fun u hu => by
   obtain ⟨i,hi⟩:=List.getElem?_of_mem hu
   rw [Array.getElem?_toList,Array.getElem?_setIfInBounds] at hi
   split at hi
   ·first | (cases hi; rfl) | (split at hi <;> first | (cases hi; rfl) | cases hi)
   ·exact h6 u (List.mem_of_getElem? (by rw [Array.getElem?_toList]; exact hi))
  have hX : (zFd P w β 2 G 0).X b':=⟨0,by decide,by rw [h1]; rfl⟩
  have hltc : AV.ltAll 3 cells' = true:=by
   rw [hc']
   refine zDh fun q y hq => ?_
   rw [List.getElem?_set] at hq
   split at hq
   ·split at hq
    ·cases hq; rfl
    ·cases hq
   ·rename_i hi
    rw [List.getElem?_set] at hq
    split at hq
    ·split at hq
     ·cases hq; rfl
     ·cases hq
    ·rename_i hi2
     exact AV.pers_lt (hpers q y hq (Ne.symm hi2) (Ne.symm hi))
  refine ⟨.tuple #[],G,β',he,⟨hw.os,hw.tape,hw.output,by rw [hw.size]; exact Nat.le_refl _,fun i hi hx => hw.old i fun e => hx (e ▸ hX)⟩,fun _ h => h,fun _ h => .inl h,fun i hi => by rw [hw.size]; exact hlt i hi,
   ⟨[],rfl,by simp only [AVals]⟩,rfl,(show 2 ≤ 3 by decide),⟨fun i ob hi => ?_,fun i j ob ob' hi hj hne bb hbi => ?_⟩,fun i ob hi ho => ?_⟩
  ·match i,hi with
   | 0,hi =>
    cases hi
    refine ⟨⟨b',_,_,by rw [hβ0]; exact h1,hw.new,h3,h4,hpp,hone,rfl⟩,by simpa [Ob.lt] using hltc⟩
   | 1,hi => cases hi
   | 2,hi =>
    cases hi
    refine ⟨?_,rfl⟩
    rw [hβ2]
    obtain ⟨g1,g2,g3⟩:=hob1
    refine ⟨g1,g2,g3.imp id ?_⟩
    rintro ⟨bg,cap,gc,k1,k2,k3,k4,k5,k6,k7⟩
    have hne : bg ≠ b':=fun e => hdis b' (by rw [h1]; rfl) (by rw [k1,e]; rfl)
    exact ⟨bg,cap,gc,k1,k2,k3,(hw.old bg hne).trans k4,k5,k6,fun i s hi => let ⟨u,hu,hr⟩:=k7 i s hi; ⟨u,hu,hr.keep hk⟩⟩
   | k + 3,hi => simp at hi
  ·match i,j,hi,hj with
   | 0,0,_,_ => exact absurd rfl hne
   | 0,2,_,_ => rw [hβ0] at hbi; rw [hβ2]; exact hdis bb hbi
   | 2,0,_,_ => rw [hβ2] at hbi; rw [hβ0]; exact fun e => hdis bb e hbi
   | 2,2,_,_ => exact absurd rfl hne
   | 1,_,hi,_ => cases hi
   | _,1,_,hj => cases hj
   | k + 3,_,hi,_ => simp at hi
   | _,k + 3,_,hj => simp at hj
  ·match i,hi with
   | 0,_ => exact hβ0
   | 1,_ => cases ho
theorem zPo {P : Program} {f D e off : Nat} {cells cells' : List AV} (hrow : cells[off + 1]? = some (.orow 1)) (hself : cells[off]? = some (.op 0 off))
  (hc' : cells' = cells.set (off + 1) .junk) (hpers : ∀ (i : Nat) x,cells[i]? = some x → i ≠ off → i ≠ off + 1 → x.pers = true)
  (hwalk : ∀ (b g cap : Nat) (l : List UInt8) (w : World) (cur : Array Value),l ≠ [] → w.cell? ⟨b,off + 1,none⟩ = some (.slice (some ⟨g,0,none⟩) l.length cap) → w.heap[g]? = some (.cells cur e (0,0)) → cur.size = cap * 1 → l.length ≤ cap → l.length ≤ 9223372036854775807 →
   (∀ (j : Nat) x,l[j]? = some x → cur[j]? = some (.int .u8 x.toNat)) →
   Calls P f #[.pointer (some ⟨b,off,none⟩)] w fun e w' => e = .returned (.string ⟨l.toArray⟩) ∧ w' = w.drew.freeze ⟨g,0,none⟩ l.length) :
  zJN P f fun xs os x os' => ∃ l : List UInt8,l ≠ [] ∧ l.length ≤ 9223372036854775807 ∧ xs = [.op 0 off] ∧ os = [.box D cells,.row e 1 (l.map brow)] ∧ x = .s (.str l) ∧ os' = [some (.box D cells'),none]:=by
 rintro G w β xs vs os x os' hlt hgl hv hxl hobs ⟨l,hl0,hlm,rfl,rfl,rfl,rfl⟩
 obtain ⟨hob0,_⟩:=hobs.1 0 (.box D cells) rfl
 obtain ⟨hob1,_⟩:=hobs.1 1 (.row e 1 (l.map brow)) rfl
 have hdis : ∀ b,blk (β 0) = some b → blk (β 1) ≠ some b:=fun b => hobs.2 0 1 (.box D cells) (.row e 1 (l.map brow)) rfl rfl (by decide) b
 obtain ⟨b,e',cur,h1,h2,h3,h4,h5,h6,rfl⟩:=hob0
 simp only [AVals,AVal] at hv
 obtain ⟨v,vs',rfl,⟨b',hb',rfl⟩,rfl⟩:=hv
 have hbb : b' = b:=by rw [h1] at hb'; simpa using hb'.symm
 subst hbb
 have hsz : cur.size = cells.length:=by simpa using h5.length
 obtain ⟨g1,g2,g3⟩:=hob1
 rcases g3 with ⟨_,hnil⟩ | ⟨g,cap,gc,k1,k2,k3,k4,k5,k6,k7⟩
 ·exact absurd (by simpa using hnil) hl0
 have hgb : g ≠ b':=fun e => hdis b' (by rw [h1]; rfl) (by rw [k1,e]; rfl)
 have hc1 : cur[off + 1]? = some (β 1):=by
  obtain ⟨u,hu,hr⟩:=h5.get hrow
  simp only [AVal] at hr
  rw [Array.getElem?_toList] at hu
  rw [hu,hr.1]
 have hlen : (l.map brow).length = l.length:=by simp
 refine (hwalk b' g cap l w gc hl0 (by simp [World.cell?,h2,hc1,k1]) k4 k3 (by simpa using k2) hlm (fun j x hx => ?_)).mono fun e2 w' ⟨he,hw⟩ => ?_
 ·obtain ⟨u,hu,hr⟩:=k7 j (.int .u8 x.toNat) (by rw [zFp,List.getElem?_map,hx]; rfl)
  simp only [Rep] at hr
  rw [hu,hr]
 ·have hold : ∀ i,i ≠ g → w'.heap[i]? = w.heap[i]?:=fun i hi => by
   rw [hw]
   unfold World.freeze
   rw [if_neg (by simpa using hl0)]
   simp only [Array.getElem?_modify]
   rw [if_neg (Ne.symm hi)]; rfl
  have hsize : w'.heap.size = w.heap.size:=by
   rw [hw]; unfold World.freeze; rw [if_neg (by simpa using hl0)]; simp
  have hrest : w'.os = w.os ∧ w'.tape = w.tape ∧ w'.output = w.output:=by
   rw [hw]; unfold World.freeze; rw [if_neg (by simpa using hl0)]; exact ⟨rfl,rfl,rfl⟩
  have hk : Keep G G w w':=zRB k5 hold
  have hX : (zFd P w β 2 G 0).X g:=⟨1,by decide,by rw [k1]; rfl⟩
  have hpp : AVals G w' β cells' cur.toList:=by
   rw [hc']
   refine AVals.mk (by simp [hsz]) fun i x v hx hv => ?_
   rw [List.getElem?_set] at hx
   split at hx
   ·split at hx
    ·cases hx; simp only [AVal]
    ·cases hx
   ·obtain ⟨u,hu,hr⟩:=h5.get hx
    rw [hv] at hu; cases hu
    exact hr.keep hk
  have hltc : AV.ltAll 2 cells' = true:=by
   rw [hc']
   refine zDh fun q y hq => ?_
   rw [List.getElem?_set] at hq
   split at hq
   ·split at hq
    ·cases hq; rfl
    ·cases hq
   ·rename_i hi
    by_cases hi2 : q = off
    ·subst hi2
     rw [hself] at hq; cases hq; rfl
    ·exact AV.pers_lt (hpers q y hq hi2 (Ne.symm hi))
  refine ⟨.string ⟨l.toArray⟩,G,β,he,⟨hrest.1,hrest.2.1,hrest.2.2,by rw [hsize]; exact Nat.le_refl _,fun i hi hx => hold i fun e => hx (e ▸ hX)⟩,fun _ h => h,fun _ h => .inl h,fun i hi => by rw [hsize]; exact hlt i hi,
   by simp only [AVal,Rep],rfl,(show 2 ≤ 2 by decide),⟨fun i ob hi => ?_,fun i j ob ob' hi hj hne bb hbi => ?_⟩,fun i ob hi ho => rfl⟩
  ·match i,hi with
   | 0,hi =>
    cases hi
    exact ⟨⟨b',_,cur,h1,(hold b' (Ne.symm hgb)).trans h2,h3,h4,hpp,h6,rfl⟩,by simpa [Ob.lt] using hltc⟩
   | 1,hi => cases hi
   | k + 2,hi => simp at hi
  ·match i,j,hi,hj with
   | 0,0,_,_ => exact absurd rfl hne
   | 1,_,hi,_ => cases hi
   | _,1,_,hj => cases hj
   | k + 2,_,hi,_ => simp at hi
   | _,k + 2,_,hj => simp at hj
end Go.Abs
namespace Go.Abs
section
variable {T : Nat → Option TI} {Γ : Nat → Option zAB} {M nm L : List Nat} {N k n : Nat} {all os : List Oper} {o : Oper} {σ σ' : St} {K : St → Prop} {φ : Option Prop} {x : AV} {d : Nat}
theorem zSk {own : Bool} {t e q kk sz : Nat} {j ti : TI} {y hi : Operand} {n : Int} {ki : IntKind} {rows : List (List AV)} (ho : o.op = .slice t y none (some hi) none) (ht : T t = some ti) (hk : ti.k = .slice e) (hj : T e = some j) (hy : opd T σ.env t y = .orow q)
  (hi' : opd T σ.env 0 hi = .s (.int ki n)) (hh : σ.hp q = some (.arow kk sz rows)) (hz : Nat.beq sz j.size = true) :
  step1 T own o σ = some (some (0 ≤ n ∧ n ≤ rows.length),.orow σ.nx,zB5 (zFg σ q) (.arow kk sz (rows.take n.toNat))):=by
 have e1 : zCr T own o σ.env = none:=by simp only [zCr,ho,zKJ,hy,AV.nrm,ht,hk,Option.map_none,Option.map_some,hi']
 have e2 : zC1 T own o σ = none:=by simp only [zC1,ho,elemOf,ht,hk,hj,hy,hi',hh]
 simp only [step1,e1,zB1,e2,zC2,ho,elemOf,ht,hk,hj,hy,hi',hh,hz]
theorem zTM {own : Bool} {t tx e q q2 kk kk2 sz sz2 : Nat} {j ti : TI} {args : Array Operand} {ts : Array Nat} {y z : Operand} {rows rows2 : List (List AV)} (ho : o.op = .call { callee:=.builtin .append,args:=args,argTypes:=ts }) (ha : args.toList = [y,z]) (hts : ts.toList = [t,tx])
  (ht : T t = some ti) (hk : ti.k = .slice e) (hj : T e = some j) (htx : tk T tx = .slice e) (hy : opd T σ.env t y = .orow q) (hz : opd T σ.env tx z = .orow q2) (hh : σ.hp q = some (.arow kk sz rows)) (hh2 : σ.hp q2 = some (.arow kk2 sz2 rows2))
  (h1 : Nat.beq sz j.size = true) (h2 : Nat.beq sz2 j.size = true) (h3 : Nat.beq e kk = true) :
  step1 T own o σ = some (some ((rows.length + rows2.length) * j.bytes ≤ 140737488355328 ∧ rows.length + rows2.length ≤ 9223372036854775807),.orow σ.nx,zB5 (zFg σ q) (.arow e sz (rows ++ rows2))):=by
 have e1 : zCr T own o σ.env = none:=by simp only [zCr,ho]
 have e2 : zC1 T own o σ = none:=by simp only [zC1,ho,ha,hts,zHH,elemOf,ht,hk,hj,hy,zJg,hh]
 simp only [step1,e1,zB1,e2,zC2,ho,ha,hts,elemOf,ht,hk,hj,hy,hz,zJD,hh,zJL,htx,hh2,h1,h2,h3]
theorem zTi {own : Bool} {t tx e q kk sz sz2 e2 : Nat} {j ti : TI} {args : Array Operand} {ts : Array Nat} {y z : Operand} {rows : List (List AV)} {rows2 : List (List S)} (ho : o.op = .call { callee:=.builtin .copy,args:=args,argTypes:=ts }) (ha : args.toList = [y,z]) (hts : ts.toList = [t,tx])
  (ht : T t = some ti) (hk : ti.k = .slice e) (hj : T e = some j) (htx : tk T tx = .slice e2) (hy : opd T σ.env t y = .orow q) (hz : opd T σ.env tx z = .s (.sl sz2 rows2)) (hh : σ.hp q = some (.arow kk sz rows))
  (h1 : Nat.beq sz j.size = true) (h2 : Nat.beq sz2 j.size = true) :
  step1 T own o σ = some (some ((rows2.map (·.map AV.s)).length = rows.length),.s (.int .i64 (rows.length : Int)),zEz σ q (.arow kk sz (rows2.map (·.map AV.s)))):=by
 have e1 : zCr T own o σ.env = none:=by simp only [zCr,ho,ha,hts,zRS,hy]
 have e2 : zC1 T own o σ = none:=by simp only [zC1,ho]
 simp only [step1,e1,zB1,e2,zC2,ho,ha,hts,elemOf,ht,hk,hj,hy,hz,zJD,hh,zJL,htx,h1,h2]
theorem zUg {own : Bool} {t e : Nat} {j ti : TI} {y z : Operand} {n m : Int} {k1 k2 : IntKind} (hw : own = true) (ho : o.op = .makeSlice t y z) (ht : T t = some ti) (hk : ti.k = .slice e) (hj : T e = some j) (hy : opd T σ.env 0 y = .s (.int k1 n)) (hz : opd T σ.env 0 z = .s (.int k2 m)) (h1 : Nat.ble 1 j.size = true)
  (hp : zCr T own o σ.env = none) :
  step1 T own o σ = some (some (0 ≤ n ∧ n ≤ m ∧ m * j.bytes ≤ 281474976710656 ∧ m ≤ 281474976710656),.orow σ.nx,zB5 σ (.row e j.size (List.replicate n.toNat j.zero))):=by
 simp only [step1,hp,zB1,zC1,ho,elemOf,ht,hk,hj,hy,hz,h1]
end
def cellSim (tr2 : Nat → Option Ob) (a b : AV) : Prop:=b = a ∨ ∃ y,a = .s y ∧ Rd tr2 b y
def zT4 (tr2 : Nat → Option Ob) : Ob → Ob → Prop
 | .box t cs,o => ∃ cs2,o = .box t cs2 ∧ cs2.length = cs.length ∧ ∀ (i : Nat) a b,cs[i]? = some a → cs2[i]? = some b → cellSim tr2 a b
 | .row e sz rows,o => o = .row e sz rows
 | .arow e sz rows,o => ∃ rows2,o = .arow e sz rows2 ∧ rows2.length = rows.length ∧ rows2.flatten.length = rows.flatten.length ∧ ∀ (i : Nat) a b,rows.flatten[i]? = some a → rows2.flatten[i]? = some b → cellSim tr2 a b
theorem Rd.s_inv {hp : Nat → Option Ob} {y s : S} (h : Rd hp (.s y) s) : s = y:=by cases h; rfl
theorem cellSim.go {tr tr2 : Nat → Option Ob} {a b : AV} {s : S} (h : cellSim tr2 a b) (hr : Rd tr a s) (ih : Rd tr2 a s) : Rd tr2 b s:=by
 rcases h with rfl | ⟨y,rfl,h⟩
 ·exact ih
 ·rw [hr.s_inv]; exact h
theorem Rd.upd {tr tr2 : Nat → Option Ob} (h : ∀ k ob,tr k = some ob → ∃ ob2,tr2 k = some ob2 ∧ zT4 tr2 ob ob2) {x : AV} {s : S} (hr : Rd tr x s) : Rd tr2 x s:=by
 induction hr with
 | s x => exact .s x
 | nl sz => exact .nl sz
 | row hk =>
  obtain ⟨ob2,h1,h2⟩:=h _ _ hk
  simp only [zT4] at h2
  subst h2
  exact .row h1
 | arow hk hl hrr hc ih =>
  obtain ⟨ob2,h1,rows2,rfl,h2,h3,h4⟩:=h _ _ hk
  refine .arow h1 (h2.trans hl) hrr fun i x2 s hx hs => ?_
  have hil:=(List.getElem?_eq_some_iff.1 hx).1
  rw [h3] at hil
  have ha:=List.getElem?_eq_getElem hil
  exact (h4 i _ x2 ha hx).go (hc i _ s ha hs) (ih i _ s ha hs)
 | box hk hl hc ih =>
  obtain ⟨ob2,h1,cs2,rfl,h2,h4⟩:=h _ _ hk
  refine .box h1 (h2.trans hl) fun i x2 s hx hs => ?_
  have hil:=(List.getElem?_eq_some_iff.1 hx).1
  rw [h2] at hil
  have ha:=List.getElem?_eq_getElem hil
  exact (h4 i _ x2 ha hx).go (hc i _ s ha hs) (ih i _ s ha hs)
 | el hk hl hrr hi hc ih =>
  obtain ⟨ob2,h1,rows2,rfl,h2,h3,h4⟩:=h _ _ hk
  refine .el h1 (h2.trans hl) hrr hi fun i x2 s hx hs => ?_
  have hil:=(List.getElem?_eq_some_iff.1 hx).1
  rw [h3] at hil
  have ha:=List.getElem?_eq_getElem hil
  exact (h4 i _ x2 ha hx).go (hc i _ s ha hs) (ih i _ s ha hs)
theorem Rd.mono {tr tr2 : Nat → Option Ob} (h : ∀ k ob,tr k = some ob → tr2 k = some ob) {x : AV} {s : S} (hr : Rd tr x s) : Rd tr2 x s:=by
 refine hr.upd fun k ob hk => ⟨ob,h k ob hk,?_⟩
 cases ob with
 | box t cs => exact ⟨cs,rfl,rfl,fun i a b h1 h2 => .inl (by rw [h1] at h2; exact (Option.some.inj h2).symm)⟩
 | row => rfl
 | arow e sz rows => exact ⟨rows,rfl,rfl,rfl,fun i a b h1 h2 => .inl (by rw [h1] at h2; exact (Option.some.inj h2).symm)⟩
end Go.Abs
namespace Go.Abs
def isL (sz : Nat) (p : AV) : Prop:=(∃ q i,p = .rp q sz i 0) ∨ (∃ q,p = .op q 0)
def zBU : AV → Nat
 | .op q _ => q
 | .rp q _ _ _ => q
 | _ => 0
def locO (p : AV) (off : Nat) : AV:=match p with
 | .op q _ => .op q off
 | .rp q sz i _ => .rp q sz i off
 | x => x
def zBh (hp : Nat → Option Ob) : AV → Option (List AV)
 | .op q 0 => match hp q with | some (.box _ cs) => some cs | _ => none
 | .rp q sz i 0 => match hp q with | some (.arow _ sz' rows) => bif Nat.beq sz sz' then rows[i]? else none | _ => none
 | _ => none
def putC (hp : Nat → Option Ob) (p : AV) (c : List AV) (k : Nat) : Option Ob:=match p with
 | .op q _ => match hp q with | some (.box bt _) => bif Nat.beq k q then some (.box bt c) else hp k | _ => hp k
 | .rp q _ i _ => match hp q with | some (.arow e sz rows) => bif Nat.beq k q then some (.arow e sz (rows.set i c)) else hp k | _ => hp k
 | _ => hp k
theorem zD1 {k q : Nat} (h : k ≠ q) : Nat.beq k q = false:=by
 cases e : Nat.beq k q with
 | true => exact absurd (Nat.eq_of_beq_eq_true e) h
 | false => rfl
theorem zCz {hp : Nat → Option Ob} {p : AV} {c : List AV} {k : Nat} (h : k ≠ zBU p) : putC hp p c k = hp k:=by
 unfold putC
 split
 ·rename_i q _
  have h : k ≠ q:=h
  split
  ·rw [zD1 h,cond_false]
  ·rfl
 ·rename_i q _ _ _
  have h : k ≠ q:=h
  split
  ·rw [zD1 h,cond_false]
  ·rfl
 ·rfl
theorem zKK {hp : Nat → Option Ob} {q o bt : Nat} {cs c : List AV} (h : hp q = some (.box bt cs)) : putC hp (.op q o) c = fun k => bif Nat.beq k q then some (.box bt c) else hp k:=by
 funext k; simp only [putC,h]
theorem zIT {hp : Nat → Option Ob} {q s i o e sz : Nat} {rows : List (List AV)} {c : List AV} (h : hp q = some (.arow e sz rows)) : putC hp (.rp q s i o) c = fun k => bif Nat.beq k q then some (.arow e sz (rows.set i c)) else hp k:=by
 funext k; simp only [putC,h]
theorem zLI {hp : Nat → Option Ob} {q bt : Nat} {cs : List AV} (h : hp q = some (.box bt cs)) : zBh hp (.op q 0) = some cs:=by simp only [zBh,h]
theorem zFM {hp : Nat → Option Ob} {q e sz i : Nat} {rows : List (List AV)} (h : hp q = some (.arow e sz rows)) : zBh hp (.rp q sz i 0) = rows[i]?:=by simp only [zBh,h,Nat.beq_refl,cond_true]
theorem zDB {hp : Nat → Option Ob} {sz : Nat} {p : AV} {cs : List AV} (hl : isL sz p) (h : zBh hp p = some cs) : (∃ q i e rows,p = .rp q sz i 0 ∧ hp q = some (.arow e sz rows) ∧ rows[i]? = some cs) ∨ ∃ q bt,p = .op q 0 ∧ hp q = some (.box bt cs):=by
 rcases hl with ⟨q,i,rfl⟩ | ⟨q,rfl⟩
 ·simp only [zBh] at h
  split at h
  ·rename_i e sz' rows hq
   cases hb : Nat.beq sz sz' with
   | false => rw [hb] at h; cases h
   | true =>
    rw [hb,cond_true] at h
    obtain rfl:=Nat.eq_of_beq_eq_true hb
    exact .inl ⟨q,i,e,rows,rfl,hq,h⟩
  ·cases h
 ·simp only [zBh] at h
  split at h
  ·rename_i bt cs' hq
   cases h
   exact .inr ⟨q,bt,rfl,hq⟩
  ·cases h
theorem zKj {hp : Nat → Option Ob} {sz : Nat} {p : AV} {c cs : List AV} (hl : isL sz p) (h : zBh hp p = some cs) : zBh (putC hp p c) p = some c:=by
 rcases zDB hl h with ⟨q,i,e,rows,rfl,hq,hi⟩ | ⟨q,bt,rfl,hq⟩
 ·rw [zIT hq,zFM (e:=e) (rows:=rows.set i c) (by simp only [Nat.beq_refl,cond_true]),List.getElem?_set,if_pos rfl,if_pos (List.getElem?_eq_some_iff.1 hi).1]
 ·rw [zKK hq,zLI (bt:=bt) (cs:=c) (by simp only [Nat.beq_refl,cond_true])]
theorem zCP {hp hp' : Nat → Option Ob} {sz : Nat} {p : AV} (hl : isL sz p) (h : hp' (zBU p) = hp (zBU p)) : zBh hp' p = zBh hp p:=by
 rcases hl with ⟨q',i',rfl⟩ | ⟨q',rfl⟩ <;> (simp only [zBU] at h; simp only [zBh,h])
theorem zR0 {hp : Nat → Option Ob} {sz : Nat} {p p' : AV} {c cs : List AV} (hl : isL sz p) (hc : zBh hp p = some cs) (hl' : isL sz p') (hne : p' ≠ p) : zBh (putC hp p c) p' = zBh hp p':=by
 by_cases hb : zBU p' = zBU p
 ·rcases zDB hl hc with ⟨q,i,e,rows,rfl,hq,hi⟩ | ⟨q,bt,rfl,hq⟩
  ·have hp2 : putC hp (.rp q sz i 0) c q = some (.arow e sz (rows.set i c)):=by rw [zIT hq]; simp only [Nat.beq_refl,cond_true]
   rcases hl' with ⟨q',i',rfl⟩ | ⟨q',rfl⟩ <;> (simp only [zBU] at hb; subst hb)
   ·have hi : i' ≠ i:=fun e => hne (by rw [e])
    rw [zFM hp2,zFM hq,List.getElem?_set,if_neg (Ne.symm hi)]
   ·simp only [zBh,hp2,hq]
  ·have hp2 : putC hp (.op q 0) c q = some (.box bt c):=by rw [zKK hq]; simp only [Nat.beq_refl,cond_true]
   rcases hl' with ⟨q',i',rfl⟩ | ⟨q',rfl⟩ <;> (simp only [zBU] at hb; subst hb)
   ·simp only [zBh,hp2,hq]
   ·exact absurd rfl hne
 ·exact zCP hl' (zCz hb)
theorem zS4 {hp : Nat → Option Ob} {sz' : Nat} {p : AV} {c cs : List AV} (hl : isL sz' p) (hc : zBh hp p = some cs) {q e sz : Nat} {rows : List (List AV)} (h : hp q = some (.arow e sz rows)) : ∃ rows',putC hp p c q = some (.arow e sz rows') ∧ rows'.length = rows.length:=by
 by_cases hb : q = zBU p
 ·subst hb
  rcases zDB hl hc with ⟨q,i,e',rows',rfl,hq,hi⟩ | ⟨q,bt,rfl,hq⟩
  ·simp only [zBU] at h ⊢
   rw [hq] at h; cases h
   rw [zIT hq]; exact ⟨_,by simp only [Nat.beq_refl,cond_true]; rfl,List.length_set ..⟩
  ·simp only [zBU] at h
   rw [hq] at h; cases h
 ·rw [zCz hb]; exact ⟨rows,h,rfl⟩
section
variable {T : Nat → Option TI} {Γ : Nat → Option zAB} {M nm L : List Nat} {N k n : Nat} {all os : List Oper} {o : Oper} {σ σ' : St} {K : St → Prop} {φ : Option Prop} {x : AV} {d : Nat}
theorem zGV {own : Bool} {sz : Nat} {p : AV} {y : Operand} (hl : isL sz p) (ho : o.op = .nilCheck y) (hy : opd T σ.env 0 y = p) : step1 T own o σ = some (none,p,σ):=by
 have e1 : zCr T own o σ.env = some (none,p):=by
  rcases hl with ⟨q,i,rfl⟩ | ⟨q,rfl⟩ <;> simp only [zCr,ho,hy]
 simp only [step1,e1]
theorem zGU {own : Bool} {sz : Nat} {p : AV} {t f off ft : Nat} {ti j : TI} {fs : List (Nat × Nat)} {y : Operand} (hl : isL sz p) (ho : o.op = .fieldAddr t y f) (hy : opd T σ.env 0 y = p) (ht : T t = some ti) (hk : ti.k = .struct fs) (hf : fs[f]? = some (off,ft)) (hj : T ft = some j) (hz : Nat.ble 1 j.size = true) :
  step1 T own o σ = some (none,locO p off,σ):=by
 have e1 : zCr T own o σ.env = some (none,locO p off):=by
  rcases hl with ⟨q,i,rfl⟩ | ⟨q,rfl⟩ <;> simp only [zCr,ho,hy,zFX,ht,hk,hf,hj,hz,zLn,locO,Nat.zero_add]
 simp only [step1,e1]
theorem zFN {sz t off : Nat} {ti : TI} {y : Operand} {p c : AV} {cs : List AV} (hg : o.guard = none) (hd : o.dst = some d) (hN : Nat.blt d N = true) (hn : dIn (some d) nm = false) (ho : o.op = .load t y) (ht : T t = some ti) (ha : ti.k.agg = false) (hl : isL sz p) (hy : opd T σ.env 0 y = locO p off)
  (hcs : zBh σ.hp p = some cs) (hc : cs[off]? = some c) (h : zD0 T Γ M nm N all os (σ.putN d c) K) : zD0 T Γ M nm N all (o :: os) σ K:=by
 rcases zDB hl hcs with ⟨q,i,e,rows,rfl,hq,hi⟩ | ⟨q,bt,rfl,hq⟩
 ·have hgd : rows.getD i [] = cs:=by rw [List.getD_eq_getElem?_getD,hi]; rfl
  refine zN6 hg hd hN hn ho hy hq (List.getElem?_eq_some_iff.1 hi).1 (c:=c) ?_ h
  simp only [zMM,ht,ha,hgd]
  rw [List.drop_eq_getElem_cons (List.getElem?_eq_some_iff.1 hc).1]
  simp only [(List.getElem?_eq_some_iff.1 hc).2]
 ·have hcall : callOf T Γ o σ.env = none:=by simp only [callOf,ho]
  exact zAx hg hd hN hcall hn (zTj ho ht ha hy hq hc) trivial h
theorem zN7 {sz t off : Nat} {ti : TI} {y z : Operand} {p c : AV} {cs : List AV} (hg : o.guard = none) (hd : o.dst = none) (ho : o.op = .store t y z) (ht : T t = some ti) (hs : ti.size = 1) (hl : isL sz p) (hy : opd T σ.env 0 y = locO p off)
  (hcs : zBh σ.hp p = some cs) (hlen : cs.length = sz) (hoff : off < sz) (hz : (opd T σ.env t z).cellsA = [c]) (ho1 : c.one = true) (hlt : c.lt σ.nx = true)
  (h : zD0 T Γ M nm N all os { σ with hp:=putC σ.hp p (cs.set off c) } K) : zD0 T Γ M nm N all (o :: os) σ K:=by
 have hcall : callOf T Γ o σ.env = none:=by simp only [callOf,ho]
 have hset : cs.take off ++ [c] ++ cs.drop (off + 1) = cs.set off c:=by
  rw [List.set_eq_take_append_cons_drop,if_pos (by omega)]; simp
 have h1 : Nat.ble (off + 1) sz = true:=Nat.ble_eq_true_of_le hoff
 rcases zDB hl hcs with ⟨q,i,e,rows,rfl,hq,hi⟩ | ⟨q,bt,rfl,hq⟩
 ·have hgd : rows.getD i [] = cs:=by rw [List.getD_eq_getElem?_getD,hi]; rfl
  have hst:=zSl (T:=T) (own:=dIn none M) (o:=o) (σ:=σ) ho ht hy hq (Nat.beq_refl _) (by rw [hz,hs]; rfl) (by rw [hs]; exact h1) (by rw [hz]; simp [ho1])
  refine zD9 hg hd hcall hst (List.getElem?_eq_some_iff.1 hi).1 ?_
  rw [hgd,hz,hs,hset]
  rw [zIT hq] at h
  exact h
 ·have hst:=zOU (T:=T) (own:=dIn none M) (o:=o) (σ:=σ) ho ht hy hq (by rw [hz,hs]; rfl) (by rw [hs,hlen]; exact h1) (by rw [hz]; simp [ho1]) (by rw [hz]; simp [AV.ltAll,hlt])
  refine zD9 hg hd hcall hst trivial ?_
  rw [hz,hs,hset]
  rw [zKK hq] at h
  exact h
end
theorem PSound.giveAll {P : Program} {f : Nat} {R : List AV → (Nat → Option Ob) → Nat → (AV → (Nat → Option Ob) → Nat → Prop) → Prop} {S : List AV → Ret → Prop} (h : PSound P f (zQM R))
  (hS : ∀ xs r,S xs r → ∃ y,r = .val y ∧ y.pers = true ∧ R xs (fun _ => none) 0 fun x hp n => RdV hp x y) : PSound P f (zAJ S):=by
 refine ⟨h.1,fun G w xs vs r hlt hgl hp hv hs => ?_,fun R hR => (by cases hR),fun R hR => (by cases hR)⟩
 obtain ⟨y,rfl,hy,hR⟩:=hS xs r hs
 refine (h.2.2.2 R rfl G w (fun _ => .tuple #[]) xs vs (fun _ => none) 0 _ hlt hgl hv (AV.persAll_lt hp) ⟨fun k ob hk => (by cases hk),fun k ob hk => (by cases hk),fun k k' ob ob' hk => (by cases hk)⟩ hR).mono ?_
 rintro e w' ⟨v,G',β',x,hp',n',rfl,hΦ,hn,hfr,hsub,hnew,hlt',hx,hxl,hob,hst⟩
 let c : Cx:=zED P w (fun _ => .tuple #[]) (fun _ => none) 0 G 0
 have hk : Keep G G' w w':=⟨hsub,fun b hb => hfr.old b (hlt b hb) (by rintro ⟨k,ob,h,_⟩; cases h)⟩
 have hc : Conc c G' β' ⟨fun _ => .junk,hp',n'⟩ { tmps:=#[],defers:=[] } w':={
  defers:=rfl
  size:=rfl
  env:=fun t => by simp only [AVal]
  envlt:=fun t => rfl
  hp:=hob.obs
  hplt:=hob.lts
  inj:=hob.inj
  lt:=hlt'
  sub:=hsub
  new:=hnew
  fr:=hfr
  stay:=⟨hn,hst⟩
  glob:=hgl.keep hk }
 have hmine : ∀ b,c.mine b → w.heap.size ≤ b:=fun b hb => by
  rcases hb with ⟨k,ob,h,_⟩ | h
  ·cases h
  ·exact h
 refine ⟨v,allG G' β' hp',rfl,⟨hfr.os,hfr.tape,hfr.output,hfr.size,fun b hb => hfr.old b hb (by rintro ⟨k,ob,h,_⟩; cases h),fun b hb => .inl (hsub b hb),fun b hb => ?_,fun b hb => ?_⟩,hy,(hΦ.aval hc hx).pers hy⟩
 ·rcases hb with hb | ⟨k,ob,h1,h2⟩
  ·exact (hnew b hb).imp id (hmine b)
  ·exact .inr (hmine b (row_block (hc.hp k ob h1) b h2).2)
 ·rcases hb with hb | ⟨k,ob,h1,h2⟩
  ·exact hlt' b hb
  ·exact hc.blk_lt h1 h2
theorem RdV.lt {hp : Nat → Option Ob} {x y : AV} (h : RdV hp x y) (n : Nat) : y.lt n = true:=by
 unfold RdV at h
 split at h
 ·rfl
 ·rename_i xs ys
  simp only [AV.lt]
  refine zKv fun q y hq => ?_
  have hil : q < xs.length:=by rw [h.1]; exact (List.getElem?_eq_some_iff.1 hq).1
  obtain ⟨s,rfl,_⟩:=h.2 q _ y (List.getElem?_eq_getElem hil) hq
  rfl
 ·rfl
 ·exact h.elim
def RdK (hp : Nat → Option Ob) (env : Nat → AV) : List (Nat × AV) → Prop
 | [] => True
 | (t,y) :: r => (y = env t ∨ RdV hp (env t) y) ∧ RdK hp env r
theorem RdK.lt {hp : Nat → Option Ob} {env : Nat → AV} {n : Nat} (he : ∀ t,(env t).lt n = true) : ∀ {l : List (Nat × AV)},RdK hp env l → ∀ t,(ofL l t).lt n = true
 | [],_,t => rfl
 | (u,y) :: r,h,t => by
  simp only [ofL]
  cases Nat.beq t u with
  | true =>
   rcases h.1 with h1 | h1
   ·rw [h1]; exact he u
   ·exact h1.lt n
  | false => exact RdK.lt he h.2 t
end Go.Abs
namespace Go.Proofs.YtgfneloodabafaaGreatDoor
open Go.Abs
def zCW (k : Int) (t : List UInt8) (c : Int) (v : AV) : List AV:=[.s (.int .i64 k),.s (.str t),.s (.int .i64 c),v]
mutual
def At (hp : Nat → Option Ob) (e : Nat) (p : AV) : Nd → List Nat → List AV → Nat → Prop
 | .mk k t c ks,keys,pd,w => ∃ v,zBh hp p = some (zCW k t c v) ∧
   ((v = .s (.sl 4 (Nd.encs ks)) ∧ keys = [] ∧ pd = [p] ∧ w = Nd.cnts ks + 1) ∨ (ks = [] ∧ v = .s (.sl 4 []) ∧ keys = [] ∧ pd = [] ∧ w = 0) ∨
    ∃ q rows keys',v = .orow q ∧ hp q = some (.arow e 4 rows) ∧ rows.length = ks.length ∧ keys = q :: keys' ∧ LAt hp e q 0 ks keys' pd w)
def LAt (hp : Nat → Option Ob) (e q i : Nat) : List Nd → List Nat → List AV → Nat → Prop
 | [],keys,pd,w => keys = [] ∧ pd = [] ∧ w = 0
 | t :: ts,keys,pd,w => ∃ k1 k2 p1 p2 w1 w2,keys = k1 ++ k2 ∧ pd = p1 ++ p2 ∧ w = w1 + w2 ∧ At hp e (.rp q 4 i 0) t k1 p1 w1 ∧ LAt hp e q (i + 1) ts k2 p2 w2
end
mutual
theorem At.len {hp : Nat → Option Ob} {e : Nat} {p : AV} : ∀ {t : Nd} {keys : List Nat} {pd : List AV} {w : Nat},At hp e p t keys pd w → pd.length ≤ w ∧ w ≤ t.cnt
 | .mk k t c ks,keys,pd,w,h => by
  simp only [At] at h
  obtain ⟨v,_,⟨_,_,rfl,rfl⟩ | ⟨_,_,_,rfl,rfl⟩ | ⟨q,rows,keys',_,_,_,_,h⟩⟩:=h
  ·simp [Nd.cnt]
  ·simp
  ·have:=LAt.len h
   simp only [Nd.cnt]; omega
theorem LAt.len {hp : Nat → Option Ob} {e q i : Nat} : ∀ {ts : List Nd} {keys : List Nat} {pd : List AV} {w : Nat},LAt hp e q i ts keys pd w → pd.length ≤ w ∧ w ≤ Nd.cnts ts
 | [],keys,pd,w,h => by
  simp only [LAt] at h
  obtain ⟨_,rfl,rfl⟩:=h
  simp
 | t :: ts,keys,pd,w,h => by
  simp only [LAt] at h
  obtain ⟨k1,k2,p1,p2,w1,w2,_,rfl,rfl,h1,h2⟩:=h
  have:=At.len h1
  have:=LAt.len h2
  simp only [Nd.cnts,List.length_append]; omega
end
structure Sim (hp hp' : Nat → Option Ob) (e : Nat) (D : Nat → Prop) (p0 : AV) : Prop where
 row : ∀ q rows,D q → hp q = some (.arow e 4 rows) → ∃ rows',hp' q = some (.arow e 4 rows') ∧ rows'.length = rows.length
 cell : ∀ p,D (zBU p) → p ≠ p0 → isL 4 p → zBh hp' p = zBh hp p
theorem Sim.sub {hp hp' : Nat → Option Ob} {e : Nat} {D D' : Nat → Prop} {p0 : AV} (h : Sim hp hp' e D p0) (hd : ∀ q,D' q → D q) : Sim hp hp' e D' p0 :=
 ⟨fun q rows hq => h.row q rows (hd q hq),fun p hp => h.cell p (hd _ hp)⟩
mutual
theorem At.sameQ {hp hp' : Nat → Option Ob} {e : Nat} {p p0 : AV} : ∀ {t : Nd} {keys : List Nat} {pd : List AV} {w : Nat},At hp e p t keys pd w → isL 4 p → Sim hp hp' e (fun k => k = zBU p ∨ k ∈ keys) p0 → p ≠ p0 → (∀ q j,q ∈ keys → AV.rp q 4 j 0 ≠ p0) → At hp' e p t keys pd w
 | .mk k t c ks,keys,pd,w,h,hl,hs,hne,hb => by
  simp only [At] at h ⊢
  obtain ⟨v,hc,h⟩:=h
  refine ⟨v,by rw [hs.cell p (.inl rfl) hne hl,hc],?_⟩
  rcases h with h | h | ⟨q,rows,keys',h1,h2,h3,rfl,h5⟩
  ·exact .inl h
  ·exact .inr (.inl h)
  ·obtain ⟨rows',h6,h7⟩:=hs.row q rows (.inr List.mem_cons_self) h2
   exact .inr (.inr ⟨q,rows',keys',h1,h6,h7.trans h3,rfl,LAt.sameQ h5 (hs.sub fun k hk => .inr (List.mem_cons.2 hk)) (fun j _ => hb q j List.mem_cons_self) (fun q' j hm => hb q' j (List.mem_cons_of_mem _ hm))⟩)
theorem LAt.sameQ {hp hp' : Nat → Option Ob} {e q i : Nat} {p0 : AV} : ∀ {ts : List Nd} {keys : List Nat} {pd : List AV} {w : Nat},LAt hp e q i ts keys pd w → Sim hp hp' e (fun k => k = q ∨ k ∈ keys) p0 → (∀ j,i ≤ j → AV.rp q 4 j 0 ≠ p0) → (∀ q' j,q' ∈ keys → AV.rp q' 4 j 0 ≠ p0) → LAt hp' e q i ts keys pd w
 | [],_,_,_,h,_,_,_ => h
 | t :: ts,keys,pd,w,h,hs,hne,hb => by
  simp only [LAt] at h ⊢
  obtain ⟨k1,k2,p1,p2,w1,w2,rfl,rfl,rfl,h1,h2⟩:=h
  exact ⟨k1,k2,p1,p2,w1,w2,rfl,rfl,rfl,
   At.sameQ h1 (.inl ⟨q,i,rfl⟩) (hs.sub fun k hk => hk.imp id (List.mem_append_left _)) (hne i (Nat.le_refl _)) (fun q' j hm => hb q' j (List.mem_append_left _ hm)),
   LAt.sameQ h2 (hs.sub fun k hk => hk.imp id (List.mem_append_right _)) (fun j hj => hne j (by omega)) (fun q' j hm => hb q' j (List.mem_append_right _ hm))⟩
end
theorem At.same {hp hp' : Nat → Option Ob} {e : Nat} {p p0 : AV} {t : Nd} {keys : List Nat} {pd : List AV} {w : Nat} (h : At hp e p t keys pd w) (hl : isL 4 p) (hs : Sim hp hp' e (fun k => k = zBU p ∨ k ∈ keys) p0) (hne : p ≠ p0) (hb : zBU p0 ∉ keys) : At hp' e p t keys pd w :=
 h.sameQ hl hs hne fun q j hm e => hb (by rw [← e]; exact hm)
theorem LAt.same {hp hp' : Nat → Option Ob} {e q i : Nat} {p0 : AV} {ts : List Nd} {keys : List Nat} {pd : List AV} {w : Nat} (h : LAt hp e q i ts keys pd w) (hs : Sim hp hp' e (fun k => k = q ∨ k ∈ keys) p0) (hne : ∀ j,i ≤ j → AV.rp q 4 j 0 ≠ p0) (hb : zBU p0 ∉ keys) : LAt hp' e q i ts keys pd w :=
 h.sameQ hs hne fun q j hm e => hb (by rw [← e]; exact hm)
theorem Sim.same {hp hp' : Nat → Option Ob} {e : Nat} {D : Nat → Prop} {p0 : AV} (h : ∀ k,D k → hp' k = hp k) : Sim hp hp' e D p0 :=
 ⟨fun q rows hq hr => ⟨rows,(h q hq).trans hr,rfl⟩,fun p hp _ hl => zCP hl (h _ hp)⟩
theorem At.frame {hp hp' : Nat → Option Ob} {e : Nat} {p : AV} {t : Nd} {keys : List Nat} {pd : List AV} {w : Nat} (h : At hp e p t keys pd w) (hl : isL 4 p) (hs : ∀ k,k = zBU p ∨ k ∈ keys → hp' k = hp k) : At hp' e p t keys pd w :=
 h.sameQ hl (Sim.same (p0:=.junk) hs) (fun e => by rcases hl with ⟨_,_,rfl⟩ | ⟨_,rfl⟩ <;> cases e) (fun q j _ e => by cases e)
mutual
theorem At.base {hp : Nat → Option Ob} {e : Nat} {p p0 : AV} : ∀ {t : Nd} {keys : List Nat} {pd : List AV} {w : Nat},At hp e p t keys pd w → p0 ∈ pd → p0 = p ∨ zBU p0 ∈ keys
 | .mk k t c ks,keys,pd,w,h,hm => by
  simp only [At] at h
  obtain ⟨v,_,⟨_,_,rfl,_⟩ | ⟨_,_,_,rfl,_⟩ | ⟨q,rows,keys',_,_,_,rfl,h⟩⟩:=h
  ·exact .inl (List.mem_singleton.1 hm)
  ·cases hm
  ·rcases LAt.base h hm with ⟨j,_,rfl⟩ | h
   ·exact .inr List.mem_cons_self
   ·exact .inr (List.mem_cons_of_mem _ h)
theorem LAt.base {hp : Nat → Option Ob} {e q i : Nat} {p0 : AV} : ∀ {ts : List Nd} {keys : List Nat} {pd : List AV} {w : Nat},LAt hp e q i ts keys pd w → p0 ∈ pd → (∃ j,i ≤ j ∧ p0 = .rp q 4 j 0) ∨ zBU p0 ∈ keys
 | [],keys,pd,w,h,hm => by
  simp only [LAt] at h
  obtain ⟨_,rfl,_⟩:=h
  cases hm
 | t :: ts,keys,pd,w,h,hm => by
  simp only [LAt] at h
  obtain ⟨k1,k2,p1,p2,w1,w2,rfl,rfl,rfl,h1,h2⟩:=h
  rcases List.mem_append.1 hm with hm | hm
  ·rcases At.base h1 hm with rfl | hm
   ·exact .inl ⟨i,Nat.le_refl _,rfl⟩
   ·exact .inr (List.mem_append_left _ hm)
  ·rcases LAt.base h2 hm with ⟨j,hj,hm⟩ | hm
   ·exact .inl ⟨j,by omega,hm⟩
   ·exact .inr (List.mem_append_right _ hm)
end
mutual
theorem At.loc {hp : Nat → Option Ob} {e : Nat} {p p0 : AV} : ∀ {t : Nd} {keys : List Nat} {pd : List AV} {w : Nat},At hp e p t keys pd w → isL 4 p → p0 ∈ pd → isL 4 p0
 | .mk k t c ks,keys,pd,w,h,hl,hm => by
  simp only [At] at h
  obtain ⟨v,_,⟨_,_,rfl,_⟩ | ⟨_,_,_,rfl,_⟩ | ⟨q,rows,keys',_,_,_,rfl,h⟩⟩:=h
  ·rw [List.mem_singleton.1 hm]; exact hl
  ·cases hm
  ·exact LAt.loc h hm
theorem LAt.loc {hp : Nat → Option Ob} {e q i : Nat} {p0 : AV} : ∀ {ts : List Nd} {keys : List Nat} {pd : List AV} {w : Nat},LAt hp e q i ts keys pd w → p0 ∈ pd → isL 4 p0
 | [],keys,pd,w,h,hm => by
  simp only [LAt] at h
  obtain ⟨_,rfl,_⟩:=h
  cases hm
 | t :: ts,keys,pd,w,h,hm => by
  simp only [LAt] at h
  obtain ⟨k1,k2,p1,p2,w1,w2,rfl,rfl,rfl,h1,h2⟩:=h
  rcases List.mem_append.1 hm with hm | hm
  ·exact At.loc h1 (.inl ⟨q,i,rfl⟩) hm
  ·exact LAt.loc h2 hm
end
theorem zSC {α : Type} {a b S : List α} {x : α} (h : a ++ b = S ++ [x]) : (b = [] ∧ a = S ++ [x]) ∨ ∃ S2,b = S2 ++ [x] ∧ S = a ++ S2:=by
 rcases List.eq_nil_or_concat b with rfl | ⟨b',y,rfl⟩
 ·exact .inl ⟨rfl,by simpa using h⟩
 ·rw [List.concat_eq_append,← List.append_assoc] at h
  have:=List.append_inj' h rfl
  obtain ⟨h1,h2⟩:=this
  cases h2
  exact .inr ⟨b',List.concat_eq_append,h1.symm⟩
def Repl (hp : Nat → Option Ob) (e : Nat) (p0 : AV) (S : List AV) (w : Nat) (D : Nat → Prop) (keys : List Nat) (P : (Nat → Option Ob) → List Nat → List AV → Nat → Prop) : Prop :=
 ∃ t0 w0,At hp e p0 t0 [] [p0] t0.cnt ∧ w = w0 + t0.cnt ∧ ∀ hp' new ch w',Sim hp hp' e D p0 → At hp' e p0 t0 new ch w' → ∃ keys2,keys2.Perm (keys ++ new) ∧ P hp' keys2 (S ++ ch) (w0 + w')
theorem zS1 {a b n : List Nat} {k2 : List Nat} (h : k2.Perm (a ++ n)) : (k2 ++ b).Perm (a ++ b ++ n) :=
 (h.append_right b).trans (by rw [List.append_assoc,List.append_assoc]; exact (List.perm_append_comm).append_left a)
mutual
theorem At.repl {hp : Nat → Option Ob} {e : Nat} {p p0 : AV} {S : List AV} : ∀ {t : Nd} {keys : List Nat} {w : Nat},At hp e p t keys (S ++ [p0]) w → isL 4 p → (zBU p :: keys).Nodup →
  Repl hp e p0 S w (fun k => k = zBU p ∨ k ∈ keys) keys fun hp' keys2 pd w => At hp' e p t keys2 pd w
 | .mk k t c ks,keys,w,h,hl,hn => by
  have h0:=h
  simp only [At] at h
  obtain ⟨v,hc,⟨rfl,rfl,h2,rfl⟩ | ⟨_,_,_,h2,_⟩ | ⟨q,rows,keys',rfl,hq,hlen,rfl,h⟩⟩:=h
  ·cases S with
   | cons x S => cases S <;> simp at h2
   | nil =>
    obtain rfl : p0 = p:=by simpa using h2
    refine ⟨.mk k t c ks,0,h0,by simp [Nd.cnt],fun hp' new ch w' _ ha => ⟨new,by simp,by simpa using ha⟩⟩
  ·simp at h2
  ·have hn2:=List.nodup_cons.1 hn
   have hb : zBU p0 ∈ q :: keys':=by
    rcases LAt.base h (p0:=p0) (by simp) with ⟨j,_,rfl⟩ | h
    ·exact List.mem_cons_self
    ·exact List.mem_cons_of_mem _ h
   have hne : p ≠ p0:=fun e => hn2.1 (by rw [e]; exact hb)
   obtain ⟨t0,w0,r1,r2,r3⟩:=LAt.repl h hn2.2
   refine ⟨t0,w0,r1,r2,fun hp' new ch w' hs ha => ?_⟩
   obtain ⟨rows',h6,h7⟩:=hs.row q rows (.inr List.mem_cons_self) hq
   obtain ⟨keys2,hp2,hl2⟩:=r3 hp' new ch w' (hs.sub fun k hk => .inr (List.mem_cons.2 hk)) ha
   refine ⟨q :: keys2,by simpa using hp2,?_⟩
   simp only [At]
   exact ⟨.orow q,by rw [hs.cell p (.inl rfl) hne hl,hc],.inr (.inr ⟨q,rows',keys2,rfl,h6,h7.trans hlen,rfl,hl2⟩)⟩
theorem LAt.repl {hp : Nat → Option Ob} {e q i : Nat} {p0 : AV} {S : List AV} : ∀ {ts : List Nd} {keys : List Nat} {w : Nat},LAt hp e q i ts keys (S ++ [p0]) w → (q :: keys).Nodup →
  Repl hp e p0 S w (fun k => k = q ∨ k ∈ keys) keys fun hp' keys2 pd w => LAt hp' e q i ts keys2 pd w
 | [],keys,w,h,hn => by
  simp only [LAt] at h
  simp at h
 | t :: ts,keys,w,h,hn => by
  simp only [LAt] at h
  obtain ⟨k1,k2,p1,p2,w1,w2,rfl,hpd,rfl,h1,h2⟩:=h
  obtain ⟨hq,hn2⟩:=List.nodup_cons.1 hn
  obtain ⟨n1,n2,n12⟩:=List.nodup_append.1 hn2
  have hq1 : q ∉ k1:=fun h => hq (List.mem_append_left _ h)
  have hq2 : q ∉ k2:=fun h => hq (List.mem_append_right _ h)
  rcases zSC hpd.symm with ⟨rfl,rfl⟩ | ⟨S2,rfl,rfl⟩
  ·have hb:=At.base h1 (p0:=p0) (by simp)
   obtain ⟨t0,w0,r1,r2,r3⟩:=At.repl h1 (.inl ⟨q,i,rfl⟩) (List.nodup_cons.2 ⟨hq1,n1⟩)
   refine ⟨t0,w0 + w2,r1,by omega,fun hp' new ch w' hs ha => ?_⟩
   obtain ⟨keys2,hp2,hl2⟩:=r3 hp' new ch w' (hs.sub fun k hk => hk.imp id (List.mem_append_left _)) ha
   refine ⟨keys2 ++ k2,zS1 hp2,?_⟩
   simp only [LAt]
   refine ⟨keys2,k2,S ++ ch,[],w0 + w',w2,rfl,by simp,by omega,hl2,?_⟩
   refine LAt.same h2 (hs.sub fun k hk => hk.imp id (List.mem_append_right _)) (fun j hj e => ?_) (fun hm => ?_)
   ·rcases hb with rfl | hb
    ·cases e; omega
    ·rw [← e] at hb; exact hq1 hb
   ·rcases hb with rfl | hb
    ·exact hq2 hm
    ·exact n12 _ hb _ hm rfl
  ·have hb:=LAt.base h2 (p0:=p0) (by simp)
   obtain ⟨t0,w0,r1,r2,r3⟩:=LAt.repl h2 (List.nodup_cons.2 ⟨hq2,n2⟩)
   refine ⟨t0,w1 + w0,r1,by omega,fun hp' new ch w' hs ha => ?_⟩
   obtain ⟨keys2,hp2,hl2⟩:=r3 hp' new ch w' (hs.sub fun k hk => hk.imp id (List.mem_append_right _)) ha
   refine ⟨k1 ++ keys2,by rw [List.append_assoc]; exact hp2.append_left k1,?_⟩
   simp only [LAt]
   refine ⟨k1,keys2,p1,S2 ++ ch,w1,w0 + w',rfl,by simp,by omega,?_,hl2⟩
   refine At.same h1 (.inl ⟨q,i,rfl⟩) (hs.sub fun k hk => hk.imp id (List.mem_append_left _)) (fun e => ?_) (fun hm => ?_)
   ·rcases hb with ⟨j,hj,hb⟩ | hb
    ·rw [hb] at e; cases e; omega
    ·rw [← e] at hb; exact hq2 hb
   ·rcases hb with ⟨j,hj,rfl⟩ | hb
    ·exact hq1 hm
    ·exact n12 _ hm _ hb rfl
end
theorem Sim.put {hp hp' : Nat → Option Ob} {e : Nat} {D : Nat → Prop} {p0 : AV} {c cs : List AV} (hl : isL 4 p0) (hc : zBh hp p0 = some cs) (h : ∀ k,D k → hp' k = putC hp p0 c k) : Sim hp hp' e D p0 :=
 ⟨fun q rows hq hr => by rw [h q hq]; exact zS4 hl hc hr,fun p hp hne hl' => (zCP hl' (h _ hp)).trans (zR0 hl hc hl' hne)⟩
def locs (q i n : Nat) : List AV:=(List.range' i n).map fun j => .rp q 4 j 0
theorem LAt.fresh {hp : Nat → Option Ob} {e q : Nat} : ∀ {ts : List Nd} {i : Nat},(∀ j x,ts[j]? = some x → zBh hp (.rp q 4 (i + j) 0) = some (x.enc.map AV.s)) → LAt hp e q i ts [] (locs q i ts.length) (Nd.cnts ts)
 | [],i,_ => by simp [LAt,locs,Nd.cnts]
 | .mk k t c ks :: ts,i,h => by
  simp only [LAt]
  refine ⟨[],[],[.rp q 4 i 0],locs q (i + 1) ts.length,Nd.cnts ks + 1,Nd.cnts ts,rfl,by simp [locs,List.range'_succ],by simp [Nd.cnts,Nd.cnt],?_,LAt.fresh fun j x hj => ?_⟩
  ·simp only [At]
   exact ⟨.s (.sl 4 (Nd.encs ks)),h 0 (.mk k t c ks) rfl,.inl (by simp)⟩
  ·rw [show i + 1 + j = i + (j + 1) by omega]; exact h (j + 1) x (by simpa using hj)
theorem LAt.copied {hp : Nat → Option Ob} {e q : Nat} {ts : List Nd} (h : hp q = some (.arow e 4 ((Nd.encs ts).map (·.map AV.s)))) : LAt hp e q 0 ts [] (locs q 0 ts.length) (Nd.cnts ts) :=
 LAt.fresh fun j x hj => by
  rw [zFM h,Nat.zero_add,Nd.encs_eq,List.map_map,List.getElem?_map,hj]; rfl
theorem zR2 {hp : Nat → Option Ob} : ∀ {rows : List (List AV)} {rs : List (List S)},(∀ (j : Nat) r s,rows[j]? = some r → rs[j]? = some s → r.length = s.length ∧ ∀ (i : Nat) x y,r[i]? = some x → s[i]? = some y → Rd hp x y) → ∀ (i : Nat) x y,rows.flatten[i]? = some x → rs.flatten[i]? = some y → Rd hp x y
 | [],_,_,_,_,_,h,_ => by simp at h
 | _ :: _,[],_,_,_,_,_,h => by simp at h
 | r :: rows,s :: rs,h,i,x,y,hx,hy => by
  obtain ⟨hl,h0⟩:=h 0 r s (by simp) (by simp)
  rw [List.flatten_cons,List.getElem?_append] at hx hy
  by_cases hi : i < r.length
  ·rw [if_pos hi] at hx
   rw [if_pos (hl ▸ hi)] at hy
   exact h0 i x y hx hy
  ·rw [if_neg hi] at hx
   rw [if_neg (hl ▸ hi),← hl] at hy
   exact zR2 (fun j r s hr hs => h (j + 1) r s (by simpa using hr) (by simpa using hs)) _ x y hx hy
def RdC (hp : Nat → Option Ob) (cs : List AV) (ss : List S) : Prop:=cs.length = ss.length ∧ ∀ (i : Nat) x y,cs[i]? = some x → ss[i]? = some y → Rd hp x y
theorem RdC.node {hp : Nat → Option Ob} {k : Int} {t : List UInt8} {c : Int} {ks : List Nd} {v : AV} (h : Rd hp v (.sl 4 (Nd.encs ks))) : RdC hp (zCW k t c v) (Nd.enc (.mk k t c ks)) :=
 ⟨rfl,fun i x y hx hy => by
  match i with
  | 0 => cases hx; cases hy; exact .s _
  | 1 => cases hx; cases hy; exact .s _
  | 2 => cases hx; cases hy; exact .s _
  | 3 => cases hx; cases hy; exact h
  | i + 4 => simp [zCW] at hx⟩
theorem Rd.rows {hp : Nat → Option Ob} {q e : Nat} {rows : List (List AV)} {ks : List Nd} (hq : hp q = some (.arow e 4 rows)) (hl : rows.length = ks.length) (h : ∀ j x,ks[j]? = some x → ∃ cs,zBh hp (.rp q 4 j 0) = some cs ∧ RdC hp cs x.enc) : Rd hp (.orow q) (.sl 4 (Nd.encs ks)):=by
 rw [Nd.encs_eq]
 refine .arow hq (by simpa using hl) (fun r hr => ?_) (zR2 fun j r s hr hs => ?_)
 ·obtain ⟨x,_,rfl⟩:=List.mem_map.1 hr
  cases x; rfl
 ·rw [List.getElem?_map] at hs
  cases hx : ks[j]? with
  | none => rw [hx] at hs; cases hs
  | some x =>
   rw [hx] at hs; cases hs
   obtain ⟨cs,h1,h2⟩:=h j x hx
   rw [zFM hq,hr] at h1
   cases h1
   exact h2
mutual
theorem At.rd {hp : Nat → Option Ob} {e : Nat} {p : AV} : ∀ {t : Nd} {keys : List Nat} {pd : List AV} {w : Nat},At hp e p t keys pd w → ∃ cs,zBh hp p = some cs ∧ RdC hp cs t.enc
 | .mk k t c ks,keys,pd,w,h => by
  simp only [At] at h
  obtain ⟨v,hc,⟨rfl,_⟩ | ⟨rfl,rfl,_⟩ | ⟨q,rows,keys',rfl,hq,hlen,rfl,h⟩⟩:=h
  ·exact ⟨_,hc,.node (.s _)⟩
  ·exact ⟨_,hc,.node (.s _)⟩
  ·exact ⟨_,hc,.node (Rd.rows hq hlen fun j x hj => (by have:=LAt.rd h j x hj; rwa [Nat.zero_add] at this))⟩
theorem LAt.rd {hp : Nat → Option Ob} {e q i : Nat} : ∀ {ts : List Nd} {keys : List Nat} {pd : List AV} {w : Nat},LAt hp e q i ts keys pd w → ∀ j x,ts[j]? = some x → ∃ cs,zBh hp (.rp q 4 (i + j) 0) = some cs ∧ RdC hp cs x.enc
 | [],keys,pd,w,h,j,x,hj => by simp at hj
 | t :: ts,keys,pd,w,h,0,x,hj => by
  simp only [LAt] at h
  obtain ⟨k1,k2,p1,p2,w1,w2,rfl,rfl,rfl,h1,h2⟩:=h
  cases hj
  exact At.rd h1
 | t :: ts,keys,pd,w,h,j + 1,x,hj => by
  simp only [LAt] at h
  obtain ⟨k1,k2,p1,p2,w1,w2,rfl,rfl,rfl,h1,h2⟩:=h
  rw [show i + (j + 1) = i + 1 + j by omega]
  exact LAt.rd h2 j x (by simpa using hj)
end
theorem zS6 {hp : Nat → Option Ob} {cs : List AV} {t : Nd} (h : RdC hp cs t.enc) : RdV hp (.agg cs) (.agg (t.enc.map AV.s)):=by
 refine ⟨by simpa using h.1,fun i x y hx hy => ?_⟩
 rw [List.getElem?_map] at hy
 cases hs : t.enc[i]? with
 | none => rw [hs] at hy; cases hy
 | some s => rw [hs] at hy; cases hy; exact ⟨s,rfl,h.2 i x s hx hs⟩
def Hole (hp : Nat → Option Ob) (e : Nat) (p : AV) (keys : List Nat) (p1 : AV) (y : Nd) (F : Nd → Nd) : Prop :=
 ∃ keys0 rest w0,keys.Perm (keys0 ++ rest) ∧ At hp e p1 y keys0 [] w0 ∧ isL 4 p1 ∧ (p1 = p ∨ zBU p1 ∈ rest) ∧
  ∀ hp' t1 new w1,Sim hp hp' e (fun k => k = zBU p ∨ k ∈ rest) p1 → At hp' e p1 t1 new [] w1 → ∃ keys2 w2,keys2.Perm (rest ++ new) ∧ At hp' e p (F t1) keys2 [] w2
theorem Hole.refl {hp : Nat → Option Ob} {e w : Nat} {p : AV} {t : Nd} {keys : List Nat} (h : At hp e p t keys [] w) (hl : isL 4 p) : Hole hp e p keys p t id :=
 ⟨keys,[],w,by simp,h,hl,.inl rfl,fun hp' t1 new w1 _ h1 => ⟨new,w1,by simp,h1⟩⟩
theorem Hole.trans {hp : Nat → Option Ob} {e : Nat} {p p1 p2 : AV} {y z : Nd} {keys : List Nat} {F F2 : Nd → Nd} (hn : (zBU p :: keys).Nodup) (h : Hole hp e p keys p1 y F) (k : ∀ keys0 w0,At hp e p1 y keys0 [] w0 → isL 4 p1 → (zBU p1 :: keys0).Nodup → Hole hp e p1 keys0 p2 z F2) : Hole hp e p keys p2 z (fun x => F (F2 x)):=by
 obtain ⟨keys0,rest,w0,a1,a2,a3,a4,a5⟩:=h
 obtain ⟨hb,hnk⟩:=List.nodup_cons.1 hn
 obtain ⟨n0,n1,n01⟩:=List.nodup_append.1 (a1.nodup_iff.1 hnk)
 have hb1 : zBU p1 ∉ keys0:=fun hm => by
  rcases a4 with rfl | a4
  ·exact hb (a1.mem_iff.2 (List.mem_append_left _ hm))
  ·exact n01 _ hm _ a4 rfl
 obtain ⟨keys1,rest1,w1,b1,b2,b3,b4,b5⟩:=k keys0 w0 a2 a3 (List.nodup_cons.2 ⟨hb1,n0⟩)
 refine ⟨keys1,rest1 ++ rest,w1,List.perm_iff_count.2 fun a => ?_,b2,b3,?_,fun hp' t1 new w2 hs h2 => ?_⟩
 ·have:=a1.count_eq a
  have:=b1.count_eq a
  simp only [List.count_append] at *
  omega
 ·rcases b4 with rfl | b4
  ·exact a4.imp id (List.mem_append_right _)
  ·exact .inr (List.mem_append_left _ b4)
 ·have hp1 : zBU p1 = zBU p ∨ zBU p1 ∈ rest:=a4.imp (fun e => by rw [e]) id
  obtain ⟨keysA,wA,q1,q2⟩:=b5 hp' t1 new w2 (hs.sub fun k hk => by
   rcases hk with rfl | hk
   ·exact hp1.imp id (List.mem_append_right _)
   ·exact .inr (List.mem_append_left _ hk)) h2
  have hs1 : Sim hp hp' e (fun k => k = zBU p ∨ k ∈ rest) p1:=⟨fun q rows hq => hs.row q rows (hq.imp id (List.mem_append_right _)),fun p' hp' hne hl' => by
   by_cases e2 : p' = p2
   ·subst e2
    rcases b4 with b4 | b4
    ·exact absurd b4 hne
    ·exfalso
     have hm : zBU p' ∈ keys0:=b1.mem_iff.2 (List.mem_append_right _ b4)
     rcases hp' with h3 | h3
     ·exact hb (a1.mem_iff.2 (List.mem_append_left _ (by rw [← h3]; exact hm)))
     ·exact n01 _ hm _ h3 rfl
   ·exact hs.cell p' (hp'.imp id (List.mem_append_right _)) e2 hl'⟩
  obtain ⟨keysB,wB,q3,q4⟩:=a5 hp' (F2 t1) keysA wA hs1 q2
  refine ⟨keysB,wB,List.perm_iff_count.2 fun a => ?_,q4⟩
  have:=q1.count_eq a
  have:=q3.count_eq a
  simp only [List.count_append] at *
  omega
end Go.Proofs.YtgfneloodabafaaGreatDoor
namespace Go.Proofs.YtgfneloodabafaaGreatDoor
open Go.Abs
def tab : List (Nat × TI):=[
 (3,⟨.int .i64,1,8,[.int .i64 0]⟩),
 (4,⟨.bool,1,1,[.bool false]⟩),
 (9,⟨.str,1,16,[.str []]⟩),
 (22,⟨.slice 24,1,24,[.sl 4 []]⟩),
 (24,⟨.struct [(0,3),(1,9),(2,3),(3,22)],4,56,[.int .i64 0,.str [],.int .i64 0,.sl 4 []]⟩),
 (33,⟨.slice 3,1,24,[.sl 1 []]⟩),
 (34,⟨.slice 56,1,24,[.sl 8 []]⟩),
 (36,⟨.struct [(0,33),(1,34)],2,48,[.sl 1 [],.sl 8 []]⟩),
 (56,⟨.struct [(0,3),(1,33),(2,3),(3,3),(4,22),(5,3),(6,9),(7,9)],8,112,[.int .i64 0,.sl 1 [],.int .i64 0,.int .i64 0,.sl 4 [],.int .i64 0,.str [],.str []]⟩)]
def T (t : Nat) : Option TI:=look? t tab
theorem zUb : ∀ p ∈ tab,okT Tryz.prog p.1 p.2:=by
 simp only [tab,List.forall_mem_cons]
 refine ⟨?_,?_,?_,?_,?_,?_,?_,?_,?_,by simp⟩
 ·exact ⟨_,Tryz.t3,_,Tryz.underlying3,rfl,by kernel_rfl,rfl,rfl,rfl,rfl,rfl,fun _ => rfl,rfl⟩
 ·exact ⟨_,Tryz.t4,_,Tryz.underlying4,rfl,by kernel_rfl,rfl,rfl,rfl,rfl,rfl,fun _ => rfl,rfl⟩
 ·exact ⟨_,Tryz.t9,_,Tryz.underlying9,rfl,by kernel_rfl,rfl,rfl,rfl,rfl,rfl,fun _ => rfl,rfl⟩
 ·exact ⟨_,Tryz.t22,_,Tryz.underlying22,rfl,by kernel_rfl,rfl,rfl,rfl,rfl,rfl,fun _ => rfl,rfl⟩
 ·exact ⟨_,Tryz.t24,_,Tryz.underlying24,rfl,by kernel_rfl,rfl,rfl,rfl,rfl,rfl,(fun h => by cases h),rfl⟩
 ·exact ⟨_,Tryz.t33,_,Tryz.underlying33,rfl,by kernel_rfl,rfl,rfl,rfl,rfl,rfl,fun _ => rfl,rfl⟩
 ·exact ⟨_,Tryz.t34,_,Tryz.underlying34,rfl,by kernel_rfl,rfl,rfl,rfl,rfl,rfl,fun _ => rfl,rfl⟩
 ·exact ⟨_,Tryz.t36,_,Tryz.underlying36,rfl,by kernel_rfl,rfl,rfl,rfl,rfl,rfl,(fun h => by cases h),rfl⟩
 ·exact ⟨_,Tryz.t56,_,Tryz.underlying56,rfl,by kernel_rfl,rfl,rfl,rfl,rfl,rfl,(fun h => by cases h),rfl⟩
theorem tok : TOk Tryz.prog T:=zTs zUb
theorem tcl : ∀ t i,T t = some i → zDc T i = true:=zRm (by rfl)
def tabX : List (Nat × TI):=[
 (2,⟨.int .i64,1,8,[.int .i64 0]⟩),
 (5,⟨.int .u8,1,1,[.int .u8 0]⟩),
 (27,⟨.slice 52,1,24,[.sl 5 []]⟩),
 (28,⟨.int .i64,1,8,[.int .i64 0]⟩),
 (31,⟨.fn,1,8,[.nf]⟩),
 (45,⟨.ptr 47,1,8,[.np]⟩),
 (47,⟨.struct [(0,3),(1,27)],2,32,[.int .i64 0,.sl 5 []]⟩),
 (52,⟨.struct [(0,33),(1,3),(2,3),(3,22),(4,22)],5,88,[.sl 1 [],.int .i64 0,.int .i64 0,.sl 4 [],.sl 4 []]⟩),
 (60,⟨.ptr 62,1,8,[.np]⟩),
 (62,⟨.struct [(0,3),(1,27)],2,32,[.int .i64 0,.sl 5 []]⟩),
 (69,⟨.ptr 76,1,8,[.np]⟩),
 (70,⟨.fn,1,8,[.nf]⟩),
 (72,⟨.struct [(0,9),(1,3),(2,70)],3,32,[.str [],.int .i64 0,.nf]⟩),
 (73,⟨.arr 13 72,39,416,[.str [],.int .i64 0,.nf,.str [],.int .i64 0,.nf,.str [],.int .i64 0,.nf,.str [],.int .i64 0,.nf,.str [],.int .i64 0,.nf,.str [],.int .i64 0,.nf,.str [],.int .i64 0,.nf,.str [],.int .i64 0,.nf,.str [],.int .i64 0,.nf,.str [],.int .i64 0,.nf,.str [],.int .i64 0,.nf,.str [],.int .i64 0,.nf,.str [],.int .i64 0,.nf]⟩),
 (76,⟨.struct [(0,73),(39,3)],40,424,[.str [],.int .i64 0,.nf,.str [],.int .i64 0,.nf,.str [],.int .i64 0,.nf,.str [],.int .i64 0,.nf,.str [],.int .i64 0,.nf,.str [],.int .i64 0,.nf,.str [],.int .i64 0,.nf,.str [],.int .i64 0,.nf,.str [],.int .i64 0,.nf,.str [],.int .i64 0,.nf,.str [],.int .i64 0,.nf,.str [],.int .i64 0,.nf,.str [],.int .i64 0,.nf,.int .i64 0]⟩),
 (78,⟨.ptr 24,1,8,[.np]⟩),
 (80,⟨.arr 3 22,3,72,[.sl 4 [],.sl 4 [],.sl 4 []]⟩),
 (83,⟨.slice 98,1,24,[.sl 2 []]⟩),
 (98,⟨.arr 2 3,2,16,[.int .i64 0,.int .i64 0]⟩),
 (101,⟨.slice 33,1,24,[.sl 1 []]⟩),
 (106,⟨.slice 9,1,24,[.sl 1 []]⟩),
 (117,⟨.arr 13 9,13,208,[.str [],.str [],.str [],.str [],.str [],.str [],.str [],.str [],.str [],.str [],.str [],.str [],.str []]⟩),
 (120,⟨.slice 22,1,24,[.sl 1 []]⟩),
 (124,⟨.struct [(0,101),(1,101),(2,33),(3,33)],4,96,[.sl 1 [],.sl 1 [],.sl 1 [],.sl 1 []]⟩),
 (126,⟨.slice 78,1,24,[.sl 1 []]⟩),
 (127,⟨.slice 5,1,24,[.sl 1 []]⟩),
 (130,⟨.ptr 135,1,8,[.np]⟩),
 (131,⟨.ptr 133,1,8,[.np]⟩),
 (133,⟨.struct [(0,131),(1,127)],2,32,[.np,.sl 1 []]⟩),
 (135,⟨.struct [(0,73),(39,133)],41,448,[.str [],.int .i64 0,.nf,.str [],.int .i64 0,.nf,.str [],.int .i64 0,.nf,.str [],.int .i64 0,.nf,.str [],.int .i64 0,.nf,.str [],.int .i64 0,.nf,.str [],.int .i64 0,.nf,.str [],.int .i64 0,.nf,.str [],.int .i64 0,.nf,.str [],.int .i64 0,.nf,.str [],.int .i64 0,.nf,.str [],.int .i64 0,.nf,.str [],.int .i64 0,.nf,.np,.sl 1 []]⟩),
 (138,⟨.struct [(0,78),(1,3)],2,16,[.np,.int .i64 0]⟩),
 (139,⟨.slice 138,1,24,[.sl 2 []]⟩),
 (140,⟨.ptr 138,1,8,[.np]⟩),
 (146,⟨.int .u64,1,8,[.int .u64 0]⟩),
 (149,⟨.ptr 5,1,8,[.np]⟩),
 (150,⟨.int .u32,1,4,[.int .u32 0]⟩),
 (154,⟨.fn,1,8,[.nf]⟩),
 (158,⟨.struct [(0,78),(1,3)],2,16,[.np,.int .i64 0]⟩),
 (159,⟨.slice 158,1,24,[.sl 2 []]⟩),
 (161,⟨.arr 24 5,24,24,[.int .u8 0,.int .u8 0,.int .u8 0,.int .u8 0,.int .u8 0,.int .u8 0,.int .u8 0,.int .u8 0,.int .u8 0,.int .u8 0,.int .u8 0,.int .u8 0,.int .u8 0,.int .u8 0,.int .u8 0,.int .u8 0,.int .u8 0,.int .u8 0,.int .u8 0,.int .u8 0,.int .u8 0,.int .u8 0,.int .u8 0,.int .u8 0]⟩),
 (162,⟨.int .u64,1,8,[.int .u64 0]⟩),
 (168,⟨.arr 20 162,20,160,[.int .u64 0,.int .u64 0,.int .u64 0,.int .u64 0,.int .u64 0,.int .u64 0,.int .u64 0,.int .u64 0,.int .u64 0,.int .u64 0,.int .u64 0,.int .u64 0,.int .u64 0,.int .u64 0,.int .u64 0,.int .u64 0,.int .u64 0,.int .u64 0,.int .u64 0,.int .u64 0]⟩),
 (169,⟨.arr 65 5,65,65,[.int .u8 0,.int .u8 0,.int .u8 0,.int .u8 0,.int .u8 0,.int .u8 0,.int .u8 0,.int .u8 0,.int .u8 0,.int .u8 0,.int .u8 0,.int .u8 0,.int .u8 0,.int .u8 0,.int .u8 0,.int .u8 0,.int .u8 0,.int .u8 0,.int .u8 0,.int .u8 0,.int .u8 0,.int .u8 0,.int .u8 0,.int .u8 0,.int .u8 0,.int .u8 0,.int .u8 0,.int .u8 0,.int .u8 0,.int .u8 0,.int .u8 0,.int .u8 0,.int .u8 0,.int .u8 0,.int .u8 0,.int .u8 0,.int .u8 0,.int .u8 0,.int .u8 0,.int .u8 0,.int .u8 0,.int .u8 0,.int .u8 0,.int .u8 0,.int .u8 0,.int .u8 0,.int .u8 0,.int .u8 0,.int .u8 0,.int .u8 0,.int .u8 0,.int .u8 0,.int .u8 0,.int .u8 0,.int .u8 0,.int .u8 0,.int .u8 0,.int .u8 0,.int .u8 0,.int .u8 0,.int .u8 0,.int .u8 0,.int .u8 0,.int .u8 0,.int .u8 0]⟩),
 (173,⟨.arr 32 5,32,32,[.int .u8 0,.int .u8 0,.int .u8 0,.int .u8 0,.int .u8 0,.int .u8 0,.int .u8 0,.int .u8 0,.int .u8 0,.int .u8 0,.int .u8 0,.int .u8 0,.int .u8 0,.int .u8 0,.int .u8 0,.int .u8 0,.int .u8 0,.int .u8 0,.int .u8 0,.int .u8 0,.int .u8 0,.int .u8 0,.int .u8 0,.int .u8 0,.int .u8 0,.int .u8 0,.int .u8 0,.int .u8 0,.int .u8 0,.int .u8 0,.int .u8 0,.int .u8 0]⟩),
 (174,⟨.arr 64 5,64,64,[.int .u8 0,.int .u8 0,.int .u8 0,.int .u8 0,.int .u8 0,.int .u8 0,.int .u8 0,.int .u8 0,.int .u8 0,.int .u8 0,.int .u8 0,.int .u8 0,.int .u8 0,.int .u8 0,.int .u8 0,.int .u8 0,.int .u8 0,.int .u8 0,.int .u8 0,.int .u8 0,.int .u8 0,.int .u8 0,.int .u8 0,.int .u8 0,.int .u8 0,.int .u8 0,.int .u8 0,.int .u8 0,.int .u8 0,.int .u8 0,.int .u8 0,.int .u8 0,.int .u8 0,.int .u8 0,.int .u8 0,.int .u8 0,.int .u8 0,.int .u8 0,.int .u8 0,.int .u8 0,.int .u8 0,.int .u8 0,.int .u8 0,.int .u8 0,.int .u8 0,.int .u8 0,.int .u8 0,.int .u8 0,.int .u8 0,.int .u8 0,.int .u8 0,.int .u8 0,.int .u8 0,.int .u8 0,.int .u8 0,.int .u8 0,.int .u8 0,.int .u8 0,.int .u8 0,.int .u8 0,.int .u8 0,.int .u8 0,.int .u8 0,.int .u8 0]⟩)]
theorem zT9 : ∀ p ∈ tabX,okT Tryz.prog p.1 p.2:=by
 simp only [tabX,List.forall_mem_cons]
 refine ⟨?_,?_,?_,?_,?_,?_,?_,?_,?_,?_,?_,?_,?_,?_,?_,?_,?_,?_,?_,?_,?_,?_,?_,?_,?_,?_,?_,?_,?_,?_,?_,?_,?_,?_,?_,?_,?_,?_,?_,?_,?_,?_,?_,?_,?_,by simp⟩
 ·exact ⟨_,Tryz.t2,_,Tryz.underlying2,rfl,by kernel_rfl,rfl,rfl,rfl,rfl,rfl,fun _ => rfl,rfl⟩
 ·exact ⟨_,Tryz.t5,_,Tryz.underlying5,rfl,by kernel_rfl,rfl,rfl,rfl,rfl,rfl,fun _ => rfl,rfl⟩
 ·exact ⟨_,Tryz.t27,_,Tryz.underlying27,rfl,by kernel_rfl,rfl,rfl,rfl,rfl,rfl,fun _ => rfl,rfl⟩
 ·exact ⟨_,Tryz.t28,_,Tryz.underlying28,rfl,by kernel_rfl,rfl,rfl,rfl,rfl,rfl,fun _ => rfl,rfl⟩
 ·exact ⟨_,Tryz.t31,_,Tryz.underlying31,rfl,by kernel_rfl,rfl,rfl,rfl,rfl,rfl,fun _ => rfl,rfl⟩
 ·exact ⟨_,Tryz.t45,_,Tryz.underlying45,rfl,by kernel_rfl,rfl,rfl,rfl,rfl,rfl,fun _ => rfl,rfl⟩
 ·exact ⟨_,Tryz.t47,_,Tryz.underlying47,rfl,by kernel_rfl,rfl,rfl,rfl,rfl,rfl,(fun h => by cases h),rfl⟩
 ·exact ⟨_,Tryz.t52,_,Tryz.underlying52,rfl,by kernel_rfl,rfl,rfl,rfl,rfl,rfl,(fun h => by cases h),rfl⟩
 ·exact ⟨_,Tryz.t60,_,Tryz.underlying60,rfl,by kernel_rfl,rfl,rfl,rfl,rfl,rfl,fun _ => rfl,rfl⟩
 ·exact ⟨_,Tryz.t62,_,Tryz.underlying62,rfl,by kernel_rfl,rfl,rfl,rfl,rfl,rfl,(fun h => by cases h),rfl⟩
 ·exact ⟨_,Tryz.t69,_,Tryz.underlying69,rfl,by kernel_rfl,rfl,rfl,rfl,rfl,rfl,fun _ => rfl,rfl⟩
 ·exact ⟨_,Tryz.t70,_,Tryz.underlying70,rfl,by kernel_rfl,rfl,rfl,rfl,rfl,rfl,fun _ => rfl,rfl⟩
 ·exact ⟨_,Tryz.t72,_,Tryz.underlying72,rfl,by kernel_rfl,rfl,rfl,rfl,rfl,rfl,(fun h => by cases h),rfl⟩
 ·exact ⟨_,Tryz.t73,_,Tryz.underlying73,rfl,by kernel_rfl,rfl,rfl,rfl,rfl,rfl,(fun h => by cases h),rfl⟩
 ·exact ⟨_,Tryz.t76,_,Tryz.underlying76,rfl,by kernel_rfl,rfl,rfl,rfl,rfl,rfl,(fun h => by cases h),rfl⟩
 ·exact ⟨_,Tryz.t78,_,Tryz.underlying78,rfl,by kernel_rfl,rfl,rfl,rfl,rfl,rfl,fun _ => rfl,rfl⟩
 ·exact ⟨_,Tryz.t80,_,Tryz.underlying80,rfl,by kernel_rfl,rfl,rfl,rfl,rfl,rfl,(fun h => by cases h),rfl⟩
 ·exact ⟨_,Tryz.t83,_,Tryz.underlying83,rfl,by kernel_rfl,rfl,rfl,rfl,rfl,rfl,fun _ => rfl,rfl⟩
 ·exact ⟨_,Tryz.t98,_,Tryz.underlying98,rfl,by kernel_rfl,rfl,rfl,rfl,rfl,rfl,(fun h => by cases h),rfl⟩
 ·exact ⟨_,Tryz.t101,_,Tryz.underlying101,rfl,by kernel_rfl,rfl,rfl,rfl,rfl,rfl,fun _ => rfl,rfl⟩
 ·exact ⟨_,Tryz.t106,_,Tryz.underlying106,rfl,by kernel_rfl,rfl,rfl,rfl,rfl,rfl,fun _ => rfl,rfl⟩
 ·exact ⟨_,Tryz.t117,_,Tryz.underlying117,rfl,by kernel_rfl,rfl,rfl,rfl,rfl,rfl,(fun h => by cases h),rfl⟩
 ·exact ⟨_,Tryz.t120,_,Tryz.underlying120,rfl,by kernel_rfl,rfl,rfl,rfl,rfl,rfl,fun _ => rfl,rfl⟩
 ·exact ⟨_,Tryz.t124,_,Tryz.underlying124,rfl,by kernel_rfl,rfl,rfl,rfl,rfl,rfl,(fun h => by cases h),rfl⟩
 ·exact ⟨_,Tryz.t126,_,Tryz.underlying126,rfl,by kernel_rfl,rfl,rfl,rfl,rfl,rfl,fun _ => rfl,rfl⟩
 ·exact ⟨_,Tryz.t127,_,Tryz.underlying127,rfl,by kernel_rfl,rfl,rfl,rfl,rfl,rfl,fun _ => rfl,rfl⟩
 ·exact ⟨_,Tryz.t130,_,Tryz.underlying130,rfl,by kernel_rfl,rfl,rfl,rfl,rfl,rfl,fun _ => rfl,rfl⟩
 ·exact ⟨_,Tryz.t131,_,Tryz.underlying131,rfl,by kernel_rfl,rfl,rfl,rfl,rfl,rfl,fun _ => rfl,rfl⟩
 ·exact ⟨_,Tryz.t133,_,Tryz.underlying133,rfl,by kernel_rfl,rfl,rfl,rfl,rfl,rfl,(fun h => by cases h),rfl⟩
 ·exact ⟨_,Tryz.t135,_,Tryz.underlying135,rfl,by kernel_rfl,rfl,rfl,rfl,rfl,rfl,(fun h => by cases h),rfl⟩
 ·exact ⟨_,Tryz.t138,_,Tryz.underlying138,rfl,by kernel_rfl,rfl,rfl,rfl,rfl,rfl,(fun h => by cases h),rfl⟩
 ·exact ⟨_,Tryz.t139,_,Tryz.underlying139,rfl,by kernel_rfl,rfl,rfl,rfl,rfl,rfl,fun _ => rfl,rfl⟩
 ·exact ⟨_,Tryz.t140,_,Tryz.underlying140,rfl,by kernel_rfl,rfl,rfl,rfl,rfl,rfl,fun _ => rfl,rfl⟩
 ·exact ⟨_,Tryz.t146,_,Tryz.underlying146,rfl,by kernel_rfl,rfl,rfl,rfl,rfl,rfl,fun _ => rfl,rfl⟩
 ·exact ⟨_,Tryz.t149,_,Tryz.underlying149,rfl,by kernel_rfl,rfl,rfl,rfl,rfl,rfl,fun _ => rfl,rfl⟩
 ·exact ⟨_,Tryz.t150,_,Tryz.underlying150,rfl,by kernel_rfl,rfl,rfl,rfl,rfl,rfl,fun _ => rfl,rfl⟩
 ·exact ⟨_,Tryz.t154,_,Tryz.underlying154,rfl,by kernel_rfl,rfl,rfl,rfl,rfl,rfl,fun _ => rfl,rfl⟩
 ·exact ⟨_,Tryz.t158,_,Tryz.underlying158,rfl,by kernel_rfl,rfl,rfl,rfl,rfl,rfl,(fun h => by cases h),rfl⟩
 ·exact ⟨_,Tryz.t159,_,Tryz.underlying159,rfl,by kernel_rfl,rfl,rfl,rfl,rfl,rfl,fun _ => rfl,rfl⟩
 ·exact ⟨_,Tryz.t161,_,Tryz.underlying161,rfl,by kernel_rfl,rfl,rfl,rfl,rfl,rfl,(fun h => by cases h),rfl⟩
 ·exact ⟨_,Tryz.t162,_,Tryz.underlying162,rfl,by kernel_rfl,rfl,rfl,rfl,rfl,rfl,fun _ => rfl,rfl⟩
 ·exact ⟨_,Tryz.t168,_,Tryz.underlying168,rfl,by kernel_rfl,rfl,rfl,rfl,rfl,rfl,(fun h => by cases h),rfl⟩
 ·exact ⟨_,Tryz.t169,_,Tryz.underlying169,rfl,by kernel_rfl,rfl,rfl,rfl,rfl,rfl,(fun h => by cases h),rfl⟩
 ·exact ⟨_,Tryz.t173,_,Tryz.underlying173,rfl,by kernel_rfl,rfl,rfl,rfl,rfl,rfl,(fun h => by cases h),rfl⟩
 ·exact ⟨_,Tryz.t174,_,Tryz.underlying174,rfl,by kernel_rfl,rfl,rfl,rfl,rfl,rfl,(fun h => by cases h),rfl⟩
def TW (t : Nat) : Option TI:=look? t (tab ++ tabX)
theorem tokW : TOk Tryz.prog TW:=zTs fun p hp => (List.mem_append.1 hp).elim (zUb p) (zT9 p)
theorem mixed : Tryz.prog.follows .mixedOrders = true:=by kernel_rfl
end Go.Proofs.YtgfneloodabafaaGreatDoor
namespace Go.Proofs
set_option maxHeartbeats 1000000 in
theorem Tryz.stringslite_IndexByte (s : ByteArray) (c : Int) (w : World) :
  Calls Tryz.prog 99 #[.string s,.int .u8 c] w fun e w' => e = .returned (.int .i64 (Lib.indexByte s.data.toList c.toNat.toUInt8)) ∧ w' = w:=by
 go_enter Tryz.func99,Tryz.ntmps99
 go_wp2
 rw [run_callFunc_extern Tryz.func104 (by kernel_rfl) (by kernel_rfl) (by kernel_rfl) (e:=Extern.BytealgIndexByte.indexByte) (by kernel_rfl),Lib.run_indexByteString]
 simp only [Result.andThen]
 rw [Oper.upon_value]
 go_wp2
 go_ret
 exact ⟨rfl,rfl⟩
theorem Tryz.stringslite_Index_one (s : ByteArray) (c : UInt8) (w : World) :
  Calls Tryz.prog 103 #[.string s,.string ⟨#[c]⟩] w fun e w' => e = .returned (.int .i64 (Lib.indexByte s.data.toList c)) ∧ w' = w:=by
 go_enter Tryz.func103,Tryz.ntmps103
 go_wp2_with (go_at_call 99; refine (Tryz.stringslite_IndexByte _ _ _).mono ?_; rintro e w' ⟨rfl,rfl⟩)
 ·have h : ([c] == s.toList) = true:=by assumption
  go_ret
  refine ⟨?_,rfl⟩
  have e : s.data.toList = [c]:=by rw [← Lib.toList_data]; exact (beq_iff_eq.1 h).symm
  rw [e]
  simp [Lib.indexByte]
 ·go_ret
  exact ⟨rfl,rfl⟩
set_option maxHeartbeats 1000000 in
theorem Tryz.strings_IndexByte (s : ByteArray) (c : Int) (w : World) :
  Calls Tryz.prog 83 #[.string s,.int .u8 c] w fun e w' => e = .returned (.int .i64 (Lib.indexByte s.data.toList c.toNat.toUInt8)) ∧ w' = w:=by
 go_enter Tryz.func83,Tryz.ntmps83
 go_wp2_with (go_at_call 99; refine (Tryz.stringslite_IndexByte _ _ _).mono ?_; rintro e w' ⟨rfl,rfl⟩)
 go_ret
 exact ⟨rfl,rfl⟩
set_option maxHeartbeats 1000000 in
theorem Tryz.strings_Index_one (s : ByteArray) (c : UInt8) (w : World) :
  Calls Tryz.prog 97 #[.string s,.string ⟨#[c]⟩] w fun e w' => e = .returned (.int .i64 (Lib.indexByte s.data.toList c)) ∧ w' = w:=by
 go_enter Tryz.func97,Tryz.ntmps97
 go_wp2_with (go_at_call 103; refine (Tryz.stringslite_Index_one _ _ _).mono ?_; rintro e w' ⟨rfl,rfl⟩)
 go_ret
 exact ⟨rfl,rfl⟩
set_option maxHeartbeats 1000000 in
theorem Tryz.strings_Contains_one (s : ByteArray) (c : UInt8) (w : World) :
  Calls Tryz.prog 79 #[.string s,.string ⟨#[c]⟩] w fun e w' => e = .returned (.bool (decide (0 ≤ Lib.indexByte s.data.toList c))) ∧ w' = w:=by
 go_enter Tryz.func79,Tryz.ntmps79
 go_wp2_with (go_at_call 97; refine (Tryz.strings_Index_one _ _ _).mono ?_; rintro e w' ⟨rfl,rfl⟩)
 go_ret
 exact ⟨rfl,rfl⟩
end Go.Proofs
namespace Go.Proofs.YtgfneloodabafaaGreatDoor
open Go.Abs
theorem zIR {f : Nat} {s : List AV → Ret → Prop} (hcall : ∀ args w,(callFunc f args).run Tryz.prog w = .ok (.enter f args) w)
  (h : ∀ (G : Nat → Prop) (w : World) (xs : List AV) (vs : List Value) (r : Ret),AVals G w (fun _ => .tuple #[]) xs vs → s xs r → Calls Tryz.prog f vs.toArray w fun e w' => w' = w ∧ ∃ v,e = .returned v ∧ RetAt G w w r v) : PSound Tryz.prog f (zAJ s) :=
 ⟨hcall,fun G w xs vs r hl _ _ hv hs => (h G w xs vs r hv hs).mono fun e w' ⟨h1,v,h2,h3⟩ => (by subst h1; exact ⟨v,G,h2,Ext.refl hl,h3⟩),fun R hR => (by cases hR),fun R hR => (by cases hR)⟩
def zHy (xs : List AV) (r : Ret) : Prop:=∃ (a0 a1 : List UInt8) (y0 : Int),zDD a0 a1 = some y0 ∧ xs = [.s (.str a0),.s (.str a1)] ∧ r = .val (.s (.int .i64 y0))
def zE3 : zAB:=zAJ fun xs r => zHy xs r
theorem zHc : PSound Tryz.prog 103 zE3:=zIR Tryz.call103 fun G w xs vs r hv ⟨a,p,y,h,hx,hr⟩ => by
 subst hx; subst hr
 obtain ⟨hp,h⟩:=zAF h
 have hy:=Option.some.inj h
 subst hy
 obtain ⟨c,rfl⟩ : ∃ c,p = [c]:=by
  match p,hp with
  | [c],_ => exact ⟨c,rfl⟩
 simp only [AVals,AVal,Rep] at hv
 obtain ⟨_,_,rfl,rfl,_,_,rfl,rfl,rfl⟩:=hv
 exact (Tryz.stringslite_Index_one ⟨a.toArray⟩ c w).mono fun e w' ⟨h1,h2⟩ => ⟨h2,_,h1,rfl,by simp only [AVal,Rep]; rfl⟩
def zHZ (xs : List AV) (r : Ret) : Prop:=∃ (a0 a1 : List UInt8) (y0 : Bool),zDV a0 a1 = some y0 ∧ xs = [.s (.str a0),.s (.str a1)] ∧ r = .val (.s (.bool y0))
def zFn : zAB:=zAJ fun xs r => zHZ xs r
theorem zHP : PSound Tryz.prog 79 zFn:=zIR Tryz.call79 fun G w xs vs r hv ⟨a,p,y,h,hx,hr⟩ => by
 subst hx; subst hr
 obtain ⟨hp,h⟩:=zAF h
 have hy:=Option.some.inj h
 subst hy
 obtain ⟨c,rfl⟩ : ∃ c,p = [c]:=by
  match p,hp with
  | [c],_ => exact ⟨c,rfl⟩
 simp only [AVals,AVal,Rep] at hv
 obtain ⟨_,_,rfl,rfl,_,_,rfl,rfl,rfl⟩:=hv
 exact (Tryz.strings_Contains_one ⟨a.toArray⟩ c w).mono fun e w' ⟨h1,h2⟩ => ⟨h2,_,h1,rfl,by simp only [AVal,Rep]; rfl⟩
def zHx (xs : List AV) (r : Ret) : Prop:=∃ (a0 : List UInt8) (a1 : Int) (y0 : Int),zCJ a0 a1 = some y0 ∧ xs = [.s (.str a0),.s (.int .u8 a1)] ∧ r = .val (.s (.int .i64 y0))
def zE2 : zAB:=zAJ fun xs r => zHx xs r
theorem zHb : PSound Tryz.prog 83 zE2:=zIR Tryz.call83 fun G w xs vs r hv ⟨a,c,y,h,hx,hr⟩ => by
 subst hx; subst hr
 have hy:=Option.some.inj h
 subst hy
 simp only [AVals,AVal,Rep] at hv
 obtain ⟨_,_,rfl,rfl,_,_,rfl,rfl,rfl⟩:=hv
 exact (Tryz.strings_IndexByte ⟨a.toArray⟩ c w).mono fun e w' ⟨h1,h2⟩ => ⟨h2,_,h1,rfl,by simp only [AVal,Rep]⟩
end Go.Proofs.YtgfneloodabafaaGreatDoor
namespace Go.Proofs
open Go.Shelf
def Tryz.laysM171_ren : Go.Shelf.Ren:=⟨fun | 171 => 115 | 243 => 120 | 246 => 122 | 283 => 123 | 284 => 124 | 285 => 125 | 286 => 126 | 129 => 128 | 317 => 127 | 318 => 129 | 319 => 130 | 320 => 131 | 337 => 132 | 338 => 133 | n => n,fun | 3 => 3 | 9 => 9 | 2 => 2 | 4 => 4 | 171 => 161 | 0 => 0 | 53 => 162 | 37 => 127 | 5 => 5 | 173 => 165 | 212 => 168 | 51 => 150 | 20 => 20 | 213 => 169 | 46 => 146 | 232 => 173 | 233 => 174 | n => n,fun | 17 => 1 | 18 => 2 | 19 => 3 | n => n⟩
theorem Tryz.laysM171 : Go.Proofs.LaysM.n171 Tryz.prog Tryz.laysM171_ren:={
 mixed:=by kernel_rfl
 f129:=Tryz.func128.trans (congrArg some (by kernel_rfl))
 f171:=Tryz.func115.trans (congrArg some (by kernel_rfl))
 f243:=Tryz.func120.trans (congrArg some (by kernel_rfl))
 f246:=Tryz.func122.trans (congrArg some (by kernel_rfl))
 f283:=Tryz.func123.trans (congrArg some (by kernel_rfl))
 f284:=Tryz.func124.trans (congrArg some (by kernel_rfl))
 f285:=Tryz.func125.trans (congrArg some (by kernel_rfl))
 f286:=Tryz.func126.trans (congrArg some (by kernel_rfl))
 f317:=Tryz.func127.trans (congrArg some (by kernel_rfl))
 f318:=Tryz.func129.trans (congrArg some (by kernel_rfl))
 f319:=Tryz.func130.trans (congrArg some (by kernel_rfl))
 f320:=Tryz.func131.trans (congrArg some (by kernel_rfl))
 f337:=Tryz.func132.trans (congrArg some (by kernel_rfl))
 f338:=Tryz.func133.trans (congrArg some (by kernel_rfl))
 t0:=Tryz.underlying0
 a0:=Tryz.isAgg0
 z0:=Tryz.sizeOf0
 v0:=Tryz.zeroValue0
 t2:=Tryz.underlying2
 a2:=Tryz.isAgg2
 z2:=Tryz.sizeOf2
 v2:=Tryz.zeroValue2
 t3:=Tryz.underlying3
 a3:=Tryz.isAgg3
 z3:=Tryz.sizeOf3
 v3:=Tryz.zeroValue3
 t4:=Tryz.underlying4
 a4:=Tryz.isAgg4
 z4:=Tryz.sizeOf4
 v4:=Tryz.zeroValue4
 t5:=Tryz.underlying5
 a5:=Tryz.isAgg5
 z5:=Tryz.sizeOf5
 v5:=Tryz.zeroValue5
 t9:=Tryz.underlying9
 a9:=Tryz.isAgg9
 z9:=Tryz.sizeOf9
 v9:=Tryz.zeroValue9
 t20:=Tryz.underlying20
 a20:=Tryz.isAgg20
 z20:=Tryz.sizeOf20
 v20:=Tryz.zeroValue20
 t37:=Tryz.underlying127
 a37:=Tryz.isAgg127
 z37:=Tryz.sizeOf127
 v37:=Tryz.zeroValue127
 t46:=Tryz.underlying146
 a46:=Tryz.isAgg146
 z46:=Tryz.sizeOf146
 v46:=Tryz.zeroValue146
 t51:=Tryz.underlying150
 a51:=Tryz.isAgg150
 z51:=Tryz.sizeOf150
 v51:=Tryz.zeroValue150
 t53:=Tryz.underlying162
 a53:=Tryz.isAgg162
 z53:=Tryz.sizeOf162
 v53:=Tryz.zeroValue162
 t171:=Tryz.underlying161
 a171:=Tryz.isAgg161
 z171:=Tryz.sizeOf161
 v171:=Tryz.zeroValue161
 t173:=Tryz.underlying165
 a173:=Tryz.isAgg165
 z173:=Tryz.sizeOf165
 v173:=Tryz.zeroValue165
 t212:=Tryz.underlying168
 a212:=Tryz.isAgg168
 z212:=Tryz.sizeOf168
 v212:=Tryz.zeroValue168
 t213:=Tryz.underlying169
 a213:=Tryz.isAgg169
 z213:=Tryz.sizeOf169
 t232:=Tryz.underlying173
 a232:=Tryz.isAgg173
 z232:=Tryz.sizeOf173
 v232:=Tryz.zeroValue173
 t233:=Tryz.underlying174
 a233:=Tryz.isAgg174
 z233:=Tryz.sizeOf174
 v233:=Tryz.zeroValue174
 g17:=by kernel_rfl
 g18:=by kernel_rfl
 g19:=by kernel_rfl
 i0:=by kernel_rfl
 i2:=by kernel_rfl
 i3:=by kernel_rfl
 i4:=by kernel_rfl
 i5:=by kernel_rfl
 i9:=by kernel_rfl
 i20:=by kernel_rfl
 i37:=by kernel_rfl
 i46:=by kernel_rfl
 i51:=by kernel_rfl
 i53:=by kernel_rfl
 i171:=by kernel_rfl
 i173:=by kernel_rfl
 i212:=by kernel_rfl
 i232:=by kernel_rfl
 i233:=by kernel_rfl
 m17:=by kernel_rfl
 m18:=by kernel_rfl
 m19:=by kernel_rfl }
open Go.RowKit Go.Sort Go.Lib in
theorem Tryz.strconv_Itoa (n : Int) (h0 : -9223372036854775808 ≤ n) (h1 : n ≤ 9223372036854775807) (w : World) (htab : Lib.TabIs Tryz.prog w "internal/strconv.uint64pow10" .u64 Lib.pow10Tab) :
  Calls Tryz.prog 115 #[.int .i64 n] w fun e w' => e = .returned (.string ⟨(Lib.itoa n).toArray⟩) ∧ ∃ k os,w' = grow (w.drewN k) os:=Any.strconv_Itoa Tryz.laysM171 n h0 h1 w htab
end Go.Proofs
namespace Go.Proofs
set_option maxHeartbeats 1000000 in
theorem Tryz.bld_check_used (b off : Nat) (w : World) (h0 : w.cell? ⟨b,off,none⟩ = some (.pointer (some ⟨b,off,none⟩))) :
  Calls Tryz.prog 116 #[.pointer (some ⟨b,off,none⟩)] w fun e w' => e = .returned (.tuple #[]) ∧ w' = w:=by
 have hj : Tryz.prog.info? 133 = some Tryz.t133:=by kernel_rfl
 go_enter Tryz.func116,Tryz.ntmps116
 go_wp2
 rw [Lib.run_neq_ptr_same w _ Tryz.underlying131 hj]
 go_wp2
 go_end0
 exact ⟨rfl,rfl⟩
set_option maxHeartbeats 1000000 in
theorem Tryz.bld_check_fresh (b : Nat) (w : World) (h0 : w.cell? ⟨b,39,none⟩ = some (.pointer none)) (hsh : w.shape? b = some (135,41)) (hfz : w.frozen? ⟨b,39,none⟩ = false) :
  Calls Tryz.prog 116 #[.pointer (some ⟨b,39,none⟩)] w fun e w' => e = .returned (.tuple #[]) ∧ w' = w.setCell ⟨b,39,none⟩ (.pointer (some ⟨b,39,none⟩)):=by
 have hj : Tryz.prog.info? 133 = some Tryz.t133:=by kernel_rfl
 have hjs : Tryz.t133.size ≠ 0:=by decide
 have hlies : liesAt Tryz.prog Tryz.prog.depth 135 (41 / Tryz.prog.cellsOf 135) 39 133 1 = true:=by kernel_rfl
 go_enter Tryz.func116,Tryz.ntmps116
 go_wp2
 rw [Lib.run_to_unsafe w ⟨b,39,none⟩ Tryz.underlying131 Tryz.underlying155 hj hjs hsh (show (39 : Nat) < 41 by decide)]
 simp only [Result.andThen]
 rw [Oper.upon_value]
 go_wp2
 rw [run_callFunc_extern Tryz.func121 (by kernel_rfl) (by kernel_rfl) (by kernel_rfl) (e:=Extern.AbiNoEscape.same) (by kernel_rfl)]
 rw [Lib.run_noEscape]
 simp only [Result.andThen]
 rw [Oper.upon_value]
 go_wp2
 rw [Lib.run_from_unsafe w ⟨b,39,none⟩ Tryz.underlying155 Tryz.underlying131 hj hsh hlies]
 simp only [Result.andThen]
 rw [Oper.upon_value]
 go_wp2
 go_end0
 exact ⟨rfl,rfl⟩
theorem Tryz.bld_String (b g cap : Nat) (l : List UInt8) (w : World) (cur : Array Value) (h0 : l ≠ []) (hb : w.cell? ⟨b,40,none⟩ = some (.slice (some ⟨g,0,none⟩) l.length cap)) (hg : w.heap[g]? = some (.cells cur 5 (0,0))) (hc : cur.size = cap * 1) (hle : l.length ≤ cap) (hm : l.length ≤ 9223372036854775807)
  (hx : ∀ (j : Nat) x,l[j]? = some x → cur[j]? = some (.int .u8 x.toNat)) :
  Calls Tryz.prog 109 #[.pointer (some ⟨b,39,none⟩)] w fun e w' => e = .returned (.string ⟨l.toArray⟩) ∧ w' = w.drew.freeze ⟨g,0,none⟩ l.length:=by
 have hl0 : l.length ≠ 0:=by simpa using h0
 have c1 : w.drew.cell? ⟨b,40,none⟩ = some (.slice (some ⟨g,0,none⟩) l.length cap):=hb
 have hSD : (Builtin.unsafeSliceData_ #[127] 149 #[.slice (some ⟨g,0,none⟩) l.length cap]).run Tryz.prog w.drew = .ok (.pointer (some ⟨g,0,none⟩)) w.drew :=
  Lib.run_unsafeSliceData_row _ _ _ _ _ _ (by omega)
 have hg' : w.drew.heap[g]? = some (.cells cur 5 (0,0)):=hg
 have hUS : (Builtin.unsafeString_ #[149,3] 9 #[.pointer (some ⟨g,0,none⟩),.int .i64 l.length]).run Tryz.prog w.drew = .ok (.string ⟨l.toArray⟩) (w.drew.freeze ⟨g,0,none⟩ l.length):=by
  refine Lib.run_unsafeString_row w.drew 149 3 9 5 Tryz.underlying149 (by kernel_rfl) g cur.size (by simp [World.shape?,hg']) l h0 (by omega) hm ?_
  intro j x hx'
  have e : (Addr.mk g 0 none).add j = ⟨g,j,none⟩:=by
   unfold Addr.add
   split
   ·rename_i e; rw [e]
   ·simp
  rw [e]
  simp only [World.cell?,hg']
  exact hx j x hx'
 have mixed : Tryz.prog.follows .mixedOrders = true:=by kernel_rfl
 go_enter Tryz.func109,Tryz.ntmps109
 go_wp2
 go_region_o
 all_goals (go_wp2; go_ret; exact ⟨rfl,rfl⟩)
end Go.Proofs
namespace Go.Proofs.YtgfneloodabafaaGreatDoor
open Go.Abs
def zRA : List AV:=[.s (.str []),.s (.int .i64 0),.s .nf,.s (.str [114,111,119]),.s (.int .i64 0),.s (.fn 55),.s (.str [115,121,109]),.s (.int .i64 0),.s (.fn 56),.s (.str [110,117,109]),.s (.int .i64 0),.s (.fn 57),.s (.str [116,101,120,116]),.s (.int .i64 0),.s (.fn 58),.s (.str [102,114,97,99]),.s (.int .i64 2),.s (.fn 55),.s (.str [114,111,111,116]),.s (.int .i64 2),.s (.fn 55),.s (.str [115,117,98]),.s (.int .i64 2),.s (.fn 55),.s (.str [115,117,112]),.s (.int .i64 2),.s (.fn 55),.s (.str [98,111,116,104]),.s (.int .i64 3),.s (.fn 55),.s (.str [97,99,99,101,110,116]),.s (.int .i64 1),.s (.fn 59),.s (.str [102,101,110,99,101]),.s (.int .i64 1),.s (.fn 60),.s (.str [109,97,116,114,105,120]),.s (.int .i64 0),.s (.fn 55)]
def zA7 (a b : AV) : List AV:=zRA ++ [a,b]
theorem zHD {a b : AV} : ∀ (i : Nat) (x : AV),(zA7 a b)[i]? = some x → i ≠ 39 → i ≠ 40 → x.pers = true:=fun i x h h1 h2 => by
 have hk : zRA.all AV.pers = true:=by decide
 have hl : zRA.length = 39:=rfl
 unfold zA7 at h
 rw [List.getElem?_append] at h
 split at h
 ·exact List.all_eq_true.1 hk x (List.mem_of_getElem? h)
 ·rw [hl] at h
  have : i - 39 < 2:=by have:=(List.getElem?_eq_some_iff.1 h).1; simpa using this
  omega
theorem zKg (b : Nat) (w : World) (cur : Array Value) (h : w.heap[b]? = some (.cells cur 135 (0,0))) (hc : cur[39]? = some (.pointer (some ⟨b,39,none⟩))) :
  Calls Tryz.prog 116 #[.pointer (some ⟨b,39,none⟩)] w fun e w' => e = .returned (.tuple #[]) ∧ Wrote b 39 (.pointer (some ⟨b,39,none⟩)) cur 135 w w' :=
 (Tryz.bld_check_used b 39 w (by simp [World.cell?,h,hc])).mono fun e w' ⟨h1,h2⟩ => ⟨h1,by subst h2; exact Wrote.same h hc⟩
theorem zJE (b : Nat) (w : World) (cur : Array Value) (h : w.heap[b]? = some (.cells cur 135 (0,0))) (hs : cur.size = 41) (hc : cur[39]? = some (.pointer none)) :
  Calls Tryz.prog 116 #[.pointer (some ⟨b,39,none⟩)] w fun e w' => e = .returned (.tuple #[]) ∧ Wrote b 39 (.pointer (some ⟨b,39,none⟩)) cur 135 w w' :=
 (Tryz.bld_check_fresh b w (by simp [World.cell?,h,hc]) (by simp [World.shape?,h,hs]) (by simp [World.frozen?,h])).mono fun e w' ⟨h1,h2⟩ => ⟨h1,by subst h2; exact Wrote.cell h⟩
def zEY (xs : List AV) (os : List Ob) (x : AV) (os' : List (Option Ob)) : Prop:=∃ (a0 : List UInt8) (z1 : List UInt8),zA6 a0 = some z1 ∧ xs = [.op 0 39] ∧ os = [.box 135 (zA7 (.op 0 39) (.orow 1)),.row 5 1 (List.map brow a0)] ∧ x = .tup [] ∧ os' = [some (.box 135 (zA7 (.op 0 39) (.orow 2))),none,some (.row 5 1 (List.map brow z1))]
def zB8 : zAB:=zBN (fun xs os x os' => zEY xs os x os')
theorem zCX : PSound Tryz.prog 116 zB8 :=
 PSound.ofOwn Tryz.call116 fun G w β xs vs os x os' h1 h2 h3 h4 h5 ⟨a0,z1,hm,hx,ho,hr,ho'⟩ =>
  zRj (p:=.op 0 39) (e:=5) rfl (.inr rfl) rfl rfl zHD (fun b w cur hb _ _ hc => zKg b w cur hb (hc rfl)) G w β xs vs os x os' h1 h2 h3 h4 h5 ⟨_,hx,ho,hr,by rw [ho',← Option.some.inj hm]; rfl⟩
def zEo (xs : List AV) (os : List Ob) (x : AV) (os' : List (Option Ob)) : Prop:=∃ (a0 : List UInt8) (z1 : List UInt8),zA6 a0 = some z1 ∧ xs = [.op 0 39] ∧ os = [.box 135 (zA7 (.s .np) (.orow 1)),.row 5 1 (List.map brow a0)] ∧ x = .tup [] ∧ os' = [some (.box 135 (zA7 (.op 0 39) (.orow 2))),none,some (.row 5 1 (List.map brow z1))]
def zCA : zAB:=zBN (fun xs os x os' => zEo xs os x os')
theorem zEf : PSound Tryz.prog 116 zCA :=
 PSound.ofOwn Tryz.call116 fun G w β xs vs os x os' h1 h2 h3 h4 h5 ⟨a0,z1,hm,hx,ho,hr,ho'⟩ =>
  zRj (p:=.s .np) (e:=5) rfl (.inl rfl) rfl rfl zHD (fun b w cur hb hs hc _ => zJE b w cur hb hs (hc rfl)) G w β xs vs os x os' h1 h2 h3 h4 h5 ⟨_,hx,ho,hr,by rw [ho',← Option.some.inj hm]; rfl⟩
def zFF (xs : List AV) (os : List Ob) (x : AV) (os' : List (Option Ob)) : Prop:=∃ (a0 : List UInt8) (y0 : List UInt8),zCv a0 = some y0 ∧ xs = [.op 0 39] ∧ os = [.box 135 (zA7 (.op 0 39) (.orow 1)),.row 5 1 (List.map brow a0)] ∧ x = .s (.str y0) ∧ os' = [some (.box 135 (zA7 (.op 0 39) .junk)),none]
def zDH : zAB:=zBN (fun xs os x os' => zFF xs os x os')
theorem zFA : PSound Tryz.prog 109 zDH :=
 PSound.ofOwn Tryz.call109 fun G w β xs vs os x os' h1 h2 h3 h4 h5 ⟨a0,y0,hm,hx,ho,hr,ho'⟩ => by
  obtain ⟨⟨hq,hq2⟩,hm⟩:=zAF hm
  exact zPo (D:=135) (e:=5) (cells:=zA7 (.op 0 39) (.orow 1)) rfl rfl rfl zHD (fun b g cap l w cur => Tryz.bld_String b g cap l w cur) G w β xs vs os x os' h1 h2 h3 h4 h5 ⟨a0,hq,hq2,hx,ho,by rw [hr,Option.some.inj hm],ho'⟩
theorem Ext.grow {G : Nat → Prop} {w : World} (h : ∀ b,G b → b < w.heap.size) (k : Nat) (os : Array Obj) : Ext G G w (Sort.grow (w.drewN k) os) :=
 ⟨rfl,rfl,rfl,by show w.heap.size ≤ (w.heap ++ os).size; simp,fun b hb => by show (w.heap ++ os)[b]? = _; simp [Array.getElem?_append,hb],fun _ h => h,fun _ h => .inl h,fun b hb => by have:=h b hb; show b < (w.heap ++ os).size; simp; omega⟩
theorem zUa {G : Nat → Prop} {w : World} (h : GlobOk G w) : Lib.TabIs Tryz.prog w "internal/strconv.uint64pow10" .u64 Lib.pow10Tab:=by
 obtain ⟨_,e,f,hh⟩:=h.2 1 _ rfl
 have hg : Tryz.prog.globalNamed "internal/strconv.uint64pow10" = some 1:=by kernel_rfl
 unfold Lib.TabIs World.var?
 rw [hg]
 simp only [Option.bind_some,hh]
def zK9 (xs : List AV) (r : Ret) : Prop:=∃ (a0 : Int) (y0 : List UInt8),zDz a0 = some y0 ∧ xs = [.s (.int .i64 a0)] ∧ r = .val (.s (.str y0))
def zFu : zAB:=zAJ fun xs r => zK9 xs r
theorem zGN : PSound Tryz.prog 115 zFu :=
 ⟨Tryz.call115,fun G w xs vs r hl hgl hp hv ⟨a,y,hm,hx,hr⟩ => by
  subst hx; subst hr
  obtain ⟨⟨q1,q2⟩,hm⟩:=zAF hm
  have hy:=Option.some.inj hm
  subst hy
  simp only [AVals,AVal,Rep] at hv
  obtain ⟨_,_,rfl,rfl,rfl⟩:=hv
  exact (Tryz.strconv_Itoa a q1 q2 w (zUa hgl)).mono fun e w' ⟨h1,k,os,h2⟩ => ⟨_,G,h1,by rw [h2]; exact Ext.grow hl k os,rfl,by simp only [AVal,Rep]⟩,fun R hR => (by cases hR),fun R hR => (by cases hR)⟩
end Go.Proofs.YtgfneloodabafaaGreatDoor
namespace Go.Proofs.YtgfneloodabafaaGreatDoor
open Go.Abs
def VAt (hp : Nat → Option Ob) (e : Nat) (v : AV) (ks : List Nd) (keys : List Nat) : Prop :=
 (ks = [] ∧ v = .s (.sl 4 []) ∧ keys = []) ∨ ∃ q rows keys' w,v = .orow q ∧ hp q = some (.arow e 4 rows) ∧ rows.length = ks.length ∧ keys = q :: keys' ∧ LAt hp e q 0 ks keys' [] w
theorem At.full {hp : Nat → Option Ob} {e : Nat} {p : AV} {k c : Int} {t : List UInt8} {ks : List Nd} {keys : List Nat} {w : Nat} (h : At hp e p (.mk k t c ks) keys [] w) : ∃ v,zBh hp p = some (zCW k t c v) ∧ VAt hp e v ks keys:=by
 simp only [At] at h
 obtain ⟨v,hc,⟨_,_,h,_⟩ | ⟨rfl,rfl,rfl,_,_⟩ | ⟨q,rows,keys',rfl,hq,hlen,rfl,h⟩⟩:=h
 ·cases h
 ·exact ⟨_,hc,.inl ⟨rfl,rfl,rfl⟩⟩
 ·exact ⟨_,hc,.inr ⟨q,rows,keys',w,rfl,hq,hlen,rfl,h⟩⟩
def zNw (xs : List AV) (hp : Nat → Option Ob) (n : Nat) (Φ : AV → (Nat → Option Ob) → Nat → Prop) : Prop :=
 ∃ (k c : Int) (tx : List UInt8) (ks : List Nd),(Nd.mk k tx c ks).cnt ≤ 1000000000 ∧ xs = [.agg (zCW k tx c (.s (.sl 4 (Nd.encs ks))))] ∧
  ∀ v hp' n' keys,n ≤ n' → (∀ k,k < n → hp' k = hp k) → VAt hp' 24 v ks keys → keys.Nodup → (∀ k ∈ keys,n ≤ k ∧ k < n') → Φ (.agg (zCW k tx c v)) hp' n'
def zO7 : zAB:=zQM zNw
theorem zR9 {T : Nat → Option TI} {σ : St} {t ty q bt : Nat} {i : TI} {cells : List AV} (h1 : σ.env t = .op q 0) (h2 : σ.hp q = some (.box bt cells)) (h3 : T ty = some i) (ha : i.k.agg = true) (hz : i.size = cells.length) : zLp T σ [.cell t ty] = some (AV.deep (.agg cells)):=by
 have hb : Nat.ble i.size cells.length = true:=by rw [hz]; exact Nat.ble_eq_true_of_le (Nat.le_refl _)
 simp only [zLp,zHt,zPM,h1,h2,h3,ha,hb]
 rw [hz,List.take_length]
theorem zSr {σ : St} {q : Nat} {ob : Ob} : (zEz σ q ob).hp q = some ob:=by simp only [zEz,Nat.beq_refl,cond_true]
theorem upd_ne {σ : St} {q k : Nat} {ob : Ob} (h : k ≠ q) : (zEz σ q ob).hp k = σ.hp k:=by simp only [zEz,zD1 h,cond_false]
theorem VAt.frame {hp hp' : Nat → Option Ob} {e : Nat} {v : AV} {ks : List Nd} {keys : List Nat} (h : VAt hp e v ks keys) (hs : ∀ k ∈ keys,hp' k = hp k) : VAt hp' e v ks keys:=by
 rcases h with h | ⟨q,rows,keys',w,h1,h2,h3,rfl,h4⟩
 ·exact .inl h
 ·exact .inr ⟨q,rows,keys',w,h1,(hs q List.mem_cons_self).trans h2,h3,rfl,h4.sameQ (Sim.same (p0:=.junk) fun k hk => hs k (List.mem_cons.2 hk)) (fun j _ e => by cases e) (fun q j _ e => by cases e)⟩
theorem zGh {T : Nat → Option TI} {own : Bool} {o : Oper} {σ : St} {p : AV} {y : Operand} (hl : isL 4 p) (ho : o.op = .assign y ∨ o.op = .move y) (hy : opd T σ.env o.type y = p) (hn : (own && zDg y) = false) : step1 T own o σ = some (none,p,σ):=by
 have e0 : p.nrm = p:=by rcases hl with ⟨_,_,rfl⟩ | ⟨_,rfl⟩ <;> rfl
 have e1 : zCr T own o σ.env = some (none,p):=by
  rcases ho with ho | ho <;> simp only [zCr,ho,hn,hy,e0]
 simp only [step1,e1]
theorem zK1 {c : Cx} {x : Code} {σ : St} {Q : Abs.End → St → Prop} (l : List (Nat × AV)) (n' : Nat) (h : holds σ.env l) (hn : σ.nx = n') (hk : ∀ H,(∀ k,H k = σ.hp k) → Tri c x ⟨ofL l,H,n'⟩ Q) : Tri c x σ Q:=by
 subst hn
 exact zAk (Le.forget l h) (hk σ.hp fun _ => rfl)
theorem At.pend {hp : Nat → Option Ob} {e w : Nat} {p : AV} {k c : Int} {tx : List UInt8} {ks : List Nd} (h : At hp e p (.mk k tx c ks) [] [p] w) : zBh hp p = some (zCW k tx c (.s (.sl 4 (Nd.encs ks)))):=by
 simp only [At] at h
 obtain ⟨v,hc,⟨rfl,_⟩ | ⟨_,_,_,h,_⟩ | ⟨q,rows,keys',_,_,_,h,_⟩⟩:=h
 ·exact hc
 ·cases h
 ·cases h
theorem zIS {hp hp' : Nat → Option Ob} {sz k : Nat} {p : AV} {c : List AV} (hl : isL sz p) (h1 : hp' k = hp k) (h2 : hp' (zBU p) = hp (zBU p)) : putC hp' p c k = putC hp p c k:=by
 rcases hl with ⟨q,i,rfl⟩ | ⟨q,rfl⟩ <;> (simp only [zBU] at h2; simp only [putC,h1,h2])
theorem zQ2 {hp hp' : Nat → Option Ob} {sz k : Nat} {p : AV} {c c' cs : List AV} (hl : isL sz p) (hc : zBh hp p = some cs) (h : hp' (zBU p) = putC hp p c' (zBU p)) (hk : k ≠ zBU p → hp' k = hp k) : putC hp' p c k = putC hp p c k:=by
 by_cases hb : k = zBU p
 ·subst hb
  rcases zDB hl hc with ⟨q,i,e,rows,rfl,hq,hi⟩ | ⟨q,bt,rfl,hq⟩
  ·simp only [zBU] at h ⊢
   rw [zIT hq] at h ⊢
   simp only [Nat.beq_refl,cond_true] at h ⊢
   rw [zIT h]
   simp only [Nat.beq_refl,cond_true,List.set_set]
  ·simp only [zBU] at h ⊢
   rw [zKK hq] at h ⊢
   simp only [Nat.beq_refl,cond_true] at h ⊢
   rw [zKK h]
   simp only [Nat.beq_refl,cond_true]
 ·rw [zCz hb,zCz hb,hk hb]
theorem zRG {q j : Nat} : locs q 0 (j + 1) = locs q 0 j ++ [.rp q 4 j 0]:=by
 simp [locs,List.range'_concat]
theorem zSQ {α : Type} {S : List α} {p : α} : ((S ++ [p]).map fun p => [p]).getD S.length [] = [p]:=by
 simp [List.getD_eq_getElem?_getD]
structure DInv (hp : Nat → Option Ob) (n e pe : Nat) (t : Nd) (H : Nat → Option Ob) (ls nx : Nat) (S : List AV) (keys : List Nat) (w : Nat) : Prop where
 low : ∀ k,k < n → H k = hp k
 res : ∃ a b c d,H (n + 1) = some (.box e [a,b,c,d])
 stk : H ls = some (.arow pe 1 (S.map fun p => [p]))
 tree : At H e (.op n 0) t keys S w
 nd : (n :: keys).Nodup
 kb : ∀ k ∈ keys,n + 1 < k ∧ k < nx ∧ k ≠ ls
 l1 : n + 1 < ls
 l2 : ls < nx
set_option maxHeartbeats 4000000 in
theorem zML : PSound Tryz.prog 88 zO7:=by
 have gok : ∀ (f : Nat) (s : zAB),(fun _ => none : Nat → Option zAB) f = some s → PSound Tryz.prog f s:=fun _ _ h => by cases h
 refine zOd tokW Tryz.call88 Tryz.func88 rfl (fun xs hp n Φ h => by obtain ⟨_,_,_,_,_,rfl,_⟩:=h; show 1 ≤ _; decide) _ rfl ?_
 rintro xs hp n Φ w0 G0 B0 ⟨k0,c,tx,ks,hcnt,rfl,hΦ⟩ _ hhp
 refine zAb ?_
 refine zAa (by exact tokW) (by exact gok) [1,2] [] rfl ?_
 show Tri _ _ _ _
 refine zAb ?_
 refine zAa (by exact tokW) (by exact gok) [7] [] rfl ?_
 show Tri _ _ _ _
 refine zAk (Le.forgetH [(1,.op n 0),(2,.op (n + 1) 0),(3,.orow (n + 2))] (fun k => bif Nat.beq k (n + 2) then some (.arow 78 1 [[.op n 0]]) else bif Nat.beq k (n + 1) then some (.box 24 [.s (.int .i64 0),.s (.str []),.s (.int .i64 0),.nl 4]) else bif Nat.beq k n then some (.box 24 (zCW k0 tx c (.s (.sl 4 (Nd.encs ks))))) else hp k) (n + 3) ⟨rfl,rfl,rfl,trivial⟩ (fun k => rfl) rfl) ?_
 have hI : DInv hp n 24 78 (.mk k0 tx c ks) (fun k => bif Nat.beq k (n + 2) then some (.arow 78 1 [[.op n 0]]) else bif Nat.beq k (n + 1) then some (.box 24 [.s (.int .i64 0),.s (.str []),.s (.int .i64 0),.nl 4]) else bif Nat.beq k n then some (.box 24 (zCW k0 tx c (.s (.sl 4 (Nd.encs ks))))) else hp k) (n + 2) (n + 3) [.op n 0] [] (Nd.mk k0 tx c ks).cnt:={
  low:=fun k hk => by
   have h1 : k ≠ n + 2:=by omega
   have h2 : k ≠ n + 1:=by omega
   have h3 : k ≠ n:=by omega
   simp only [zD1 h1,zD1 h2,zD1 h3,cond_false]
  res:=⟨.s (.int .i64 0),.s (.str []),.s (.int .i64 0),.nl 4,by
   have h1 : n + 1 ≠ n + 2:=by omega
   simp only [zD1 h1,Nat.beq_refl,cond_false,cond_true]⟩
  stk:=by simp only [Nat.beq_refl,cond_true]; rfl
  tree:=by
   have h1 : n ≠ n + 2:=by omega
   have h2 : n ≠ n + 1:=by omega
   simp only [At]
   exact ⟨.s (.sl 4 (Nd.encs ks)),zLI (bt:=24) (by simp only [zD1 h1,zD1 h2,Nat.beq_refl,cond_false,cond_true]),.inl (by simp [Nd.cnt])⟩
  nd:=by simp
  kb:=fun k hk => by cases hk
  l1:=by omega
  l2:=by omega }
 generalize hH : (fun k => bif Nat.beq k (n + 2) then some (Ob.arow 78 1 [[AV.op n 0]]) else bif Nat.beq k (n + 1) then some (Ob.box 24 [AV.s (.int .i64 0),AV.s (.str []),AV.s (.int .i64 0),AV.nl 4]) else bif Nat.beq k n then some (Ob.box 24 (zCW k0 tx c (.s (.sl 4 (Nd.encs ks))))) else hp k) = H0 at hI ⊢
 clear hH
 refine zAb ?_
 refine zAn (zAG (X:=(Nat → Option Ob) × Nat × Nat × List AV × List Nat × Nat) (fun y => match y with | (H,ls,nx,S,keys,w) => ⟨ofL [(1,.op n 0),(2,.op (n + 1) 0),(3,.orow ls)],H,nx⟩)
  (fun y => match y with | (H,ls,nx,S,keys,w) => DInv hp n 24 78 (.mk k0 tx c ks) H ls nx S keys w) (fun y => match y with | (H,ls,nx,S,keys,w) => w) (H0,n + 2,n + 3,[.op n 0],[],(Nd.mk k0 tx c ks).cnt) hI (Le.refl _ _) ?_)
 rintro ⟨H,ls,nx,S,keys,w⟩ hI
 have hI : DInv hp n 24 78 (.mk k0 tx c ks) H ls nx S keys w:=hI
 refine zAb ?_
 refine zAb ?_
 refine zAa (by exact tokW) (by exact gok) [] [] rfl ?_
 refine zAx rfl rfl rfl rfl rfl rfl trivial ?_
 refine zAx rfl rfl rfl rfl rfl (zNg rfl rfl rfl rfl rfl hI.stk) trivial ?_
 refine zAx rfl rfl rfl rfl rfl rfl trivial ?_
 show Tri _ _ _ _
 refine zAf rfl (fun hb => ?_) (fun hb => ?_)
 rotate_left
 ·refine zAK ?_
  show Tri _ _ _ _
  refine zAk (Le.forget [(1,.op n 0),(2,.op (n + 1) 0),(3,.orow ls)] ⟨rfl,rfl,rfl,trivial⟩) ?_
  have hS : S = []:=by
   cases S with
   | nil => rfl
   | cons x S =>
    have:=of_decide_eq_false hb
    simp only [List.length_map,List.length_cons] at this
    omega
  subst hS
  obtain ⟨v,hc,hv⟩:=hI.tree.full
  rcases zDB (sz:=4) (.inr ⟨n,rfl⟩) hc with ⟨q,i,e,rows,h1,_⟩ | ⟨q,bt,h1,hq⟩
  ·cases h1
  cases h1
  obtain ⟨ra,rb,rc,rd,hr1⟩:=hI.res
  refine zAb ?_
  refine zAa (by exact tokW) (by exact gok) [] [] rfl ?_
  refine zAx rfl rfl rfl rfl rfl (zSj rfl rfl rfl rfl hq rfl) trivial ?_
  have hvl : v.one = true ∧ v.lt nx = true:=by
   rcases hv with ⟨_,rfl,_⟩ | ⟨q,_,_,_,rfl,_,_,hk,_⟩
   ·exact ⟨rfl,rfl⟩
   ·exact ⟨rfl,decide_eq_true (hI.kb q (by rw [hk]; exact List.mem_cons_self)).2.1⟩
  refine zD9 rfl rfl rfl (zOU rfl rfl rfl hr1 rfl rfl (by show ([AV.s _,AV.s _,AV.s _,v] : List AV).all AV.one = true; simp only [List.all_cons,List.all_nil,hvl.1]; rfl) (by show AV.ltAll nx [AV.s _,AV.s _,AV.s _,v] = true; simp only [AV.ltAll,hvl.2]; rfl)) trivial ?_
  show Tri _ _ _ _
  refine zAv ?_
  have hln : n < nx:=Nat.lt_trans (Nat.lt_trans (Nat.lt_succ_self n) hI.l1) hI.l2
  have hdeep : AV.deep (.agg (zCW k0 tx c v)) = .agg (zCW k0 tx c v):=by
   rcases hv with ⟨_,rfl,_⟩ | ⟨q,_,_,_,rfl,_⟩ <;> rfl
  unfold zPX
  refine ⟨_,Le.refl _ _,.agg (zCW k0 tx c v),?_,hΦ v _ _ keys (Nat.le_of_lt hln) (fun k hk => ?_) ?_ (List.nodup_cons.1 hI.nd).2 fun k hk => ⟨Nat.le_of_lt (Nat.lt_trans (Nat.lt_succ_self n) (hI.kb k hk).1),(hI.kb k hk).2.1⟩⟩
  ·exact (zR9 (cells:=zCW k0 tx c v) rfl zSr rfl rfl rfl).trans (congrArg some hdeep)
  ·exact (upd_ne (by omega)).trans (hI.low k hk)
  ·exact hv.frame fun k hk => upd_ne (by have:=(hI.kb k hk).1; omega)
 refine zAj ?_
 show Tri _ _ _ _
 obtain ⟨S',p,rfl⟩ : ∃ S' p,S = S' ++ [p]:=by
  rcases List.eq_nil_or_concat S with rfl | ⟨S',p,rfl⟩
  ·cases hb
  ·exact ⟨S',p,List.concat_eq_append⟩
 have hl0 : isL 4 p:=hI.tree.loc (.inr ⟨n,rfl⟩) (by simp)
 obtain ⟨⟨k1,tx1,c1,ks1⟩,w1,hp0,hw,hrep⟩:=hI.tree.repl (.inr ⟨n,rfl⟩) hI.nd
 have hcell:=hp0.pend
 have hwl:=hI.tree.len
 have hSl : S'.length < 1000000000:=by
  have:=hwl.1
  have:=hwl.2
  simp only [List.length_append,List.length_singleton] at *
  omega
 have hz : IntKind.i64.wrap (((((S' ++ [p]).map fun p => [p]).length : Nat) : Int) - 1) = (S'.length : Int):=by
  rw [wrap64_in (by simp only [List.length_map,List.length_append,List.length_singleton]; omega) (by simp only [List.length_map,List.length_append,List.length_singleton]; omega)]
  simp only [List.length_map,List.length_append,List.length_singleton]; omega
 have hlt1 : S'.length < ((S' ++ [p]).map fun p => [p]).length:=by simp
 refine zAk (Le.forget [(1,.op n 0),(2,.op (n + 1) 0),(3,.orow ls)] ⟨rfl,rfl,rfl,trivial⟩) ?_
 refine zAn ?_
 refine zAb ?_
 refine zAa (by exact tokW) (by exact gok) [] [] rfl ?_
 refine zAx rfl rfl rfl rfl rfl rfl trivial ?_
 refine zAx rfl rfl rfl rfl rfl rfl trivial ?_
 refine zAx rfl rfl rfl rfl rfl (zNg rfl rfl rfl rfl rfl hI.stk) trivial ?_
 refine zAx rfl rfl rfl rfl rfl rfl trivial ?_
 rw [hz]
 refine zAx rfl rfl rfl rfl rfl (zSi rfl rfl rfl rfl rfl rfl hI.stk rfl) ⟨Int.natCast_nonneg _,Int.ofNat_lt.2 hlt1⟩ ?_
 refine zN6 (c:=p) rfl rfl rfl rfl rfl rfl hI.stk hlt1 (by rw [Int.toNat_natCast,zSQ]; rfl) ?_
 refine zAx rfl rfl rfl rfl rfl (zGh hl0 (.inl rfl) rfl rfl) trivial ?_
 show Tri _ _ _ _
 refine zAk (Le.forget [(1,.op n 0),(2,.op (n + 1) 0),(3,.orow ls),(4,p)] ⟨rfl,rfl,rfl,rfl,trivial⟩) ?_
 refine zAb ?_
 refine zAa (by exact tokW) (by exact gok) [21] [] rfl ?_
 refine zAx rfl rfl rfl rfl rfl rfl trivial ?_
 refine zAx rfl rfl rfl rfl rfl rfl trivial ?_
 refine zAx rfl rfl rfl rfl rfl (zNg rfl rfl rfl rfl rfl hI.stk) trivial ?_
 refine zAx rfl rfl rfl rfl rfl rfl trivial ?_
 rw [hz]
 refine zAx rfl rfl rfl rfl rfl (zSk rfl rfl rfl rfl rfl rfl hI.stk rfl) ⟨Int.natCast_nonneg _,Int.ofNat_le.2 (Nat.le_of_lt hlt1)⟩ ?_
 refine zAx rfl rfl rfl rfl rfl rfl trivial ?_
 show Tri _ _ _ _
 refine zK1 [(1,.op n 0),(2,.op (n + 1) 0),(3,.orow nx),(4,p)] (nx + 1) ⟨rfl,rfl,rfl,rfl,trivial⟩ rfl fun H1 hH1 => ?_
 have g1 : H1 nx = some (.arow 78 1 (S'.map fun p => [p])):=(hH1 nx).trans (by
  show (bif Nat.beq nx nx then some (Ob.arow 78 1 (((S' ++ [p]).map fun p => [p]).take ((S'.length : Int)).toNat)) else _) = _
  rw [Nat.beq_refl,cond_true,Int.toNat_natCast]
  simp)
 have g2 : ∀ k,k ≠ nx → k ≠ ls → H1 k = H k:=fun k h1 h2 => (hH1 k).trans (by
  show (bif Nat.beq k nx then _ else bif Nat.beq k ls then none else H k) = _
  rw [zD1 h1,zD1 h2]; rfl)
 clear hH1
 have hbase : zBU p = n ∨ zBU p ∈ keys:=by
  rcases hI.tree.base (p0:=p) (by simp) with h | h
  ·exact .inl (by rw [h]; rfl)
  ·exact .inr h
 have hln : n < nx:=Nat.lt_trans (Nat.lt_trans (Nat.lt_succ_self n) hI.l1) hI.l2
 have hbl : zBU p ≠ nx ∧ zBU p ≠ ls ∧ zBU p ≠ n + 1 ∧ zBU p < nx:=by
  have h1:=hI.l1
  have h2:=hI.l2
  rcases hbase with h | h
  ·rw [h]; omega
  ·have:=hI.kb _ h; omega
 have fin : ∀ (cs : List AV) (Hj : Nat → Option Ob) (lsj nxj : Nat) (new : List Nat) (ch : List AV) (w' : Nat),(∀ k,k ≠ ls → k < nx → Hj k = putC H p cs k) → Hj lsj = some (.arow 78 1 ((S' ++ ch).map fun p => [p])) → At Hj 24 p (.mk k1 tx1 c1 ks1) new ch w' →
   new.Nodup → (∀ k ∈ new,nx ≤ k ∧ k < nxj ∧ k ≠ lsj) → nx ≤ lsj → lsj < nxj → w' < (Nd.mk k1 tx1 c1 ks1).cnt → ∃ keys2,DInv hp n 24 78 (.mk k0 tx c ks) Hj lsj nxj (S' ++ ch) keys2 (w1 + w') ∧ w1 + w' < w:=by
  intro cs Hj lsj nxj new ch w' f1 f2 f3 f4 f5 f6 f7 f8
  have l1:=hI.l1
  have l2:=hI.l2
  have hD : ∀ k,k = n ∨ k ∈ keys → k ≠ ls ∧ k < nx:=fun k hk => by
   rcases hk with rfl | hk
   ·omega
   ·have:=hI.kb k hk; omega
  obtain ⟨keys2,hperm,hat⟩:=hrep Hj new ch w' (Sim.put hl0 hcell fun k hk => f1 k (hD k hk).1 (hD k hk).2) f3
  have hmem : ∀ k,k ∈ keys2 → k ∈ keys ∨ k ∈ new:=fun k hk => List.mem_append.1 (hperm.mem_iff.1 hk)
  have hkn:=List.nodup_cons.1 hI.nd
  refine ⟨keys2,{
   low:=fun k hk => (f1 k (by omega) (by omega)).trans ((zCz (by
    rcases hbase with h | h
    ·omega
    ·have:=hI.kb _ h; omega)).trans (hI.low k hk))
   res:=by
    obtain ⟨a,b,c,d,hr⟩:=hI.res
    exact ⟨a,b,c,d,(f1 (n + 1) (by omega) (by omega)).trans ((zCz (Ne.symm hbl.2.2.1)).trans hr)⟩
   stk:=f2
   tree:=hat
   nd:=List.nodup_cons.2 ⟨fun hm => by
    rcases hmem n hm with h | h
    ·exact hkn.1 h
    ·have:=f5 n h; omega,hperm.nodup_iff.2 (List.nodup_append.2 ⟨hkn.2,f4,fun a ha b hb e => by
     have:=hI.kb a ha
     have:=f5 b hb
     omega⟩)⟩
   kb:=fun k hk => by
    rcases hmem k hk with h | h
    ·have:=hI.kb k h; omega
    ·have:=f5 k h; omega
   l1:=by omega
   l2:=f7 },by omega⟩
 have hc1 : zBh H1 p = some (zCW k1 tx1 c1 (.s (.sl 4 (Nd.encs ks1)))):=(zCP hl0 (g2 _ hbl.1 hbl.2.1)).trans hcell
 refine zAb ?_
 refine zAa (by exact tokW) (by exact gok) [] [] rfl ?_
 refine zAx rfl rfl rfl rfl rfl (zGh hl0 (.inr rfl) rfl rfl) trivial ?_
 refine zAx rfl rfl rfl rfl rfl (zGV hl0 rfl rfl) trivial ?_
 refine zAx rfl rfl rfl rfl rfl (zGU hl0 rfl rfl rfl rfl rfl rfl rfl) trivial ?_
 refine zFN (off:=3) (sz:=4) rfl rfl rfl rfl rfl rfl rfl hl0 rfl hc1 rfl ?_
 refine zAx rfl rfl rfl rfl rfl rfl trivial ?_
 show Tri _ _ _ _
 refine zAk (Le.forget [(1,.op n 0),(2,.op (n + 1) 0),(3,.orow nx),(4,p),(5,.s (.sl 4 (Nd.encs ks1)))] ⟨rfl,rfl,rfl,rfl,rfl,trivial⟩) ?_
 refine zAb ?_
 refine zAa (by exact tokW) (by exact gok) [] [] rfl ?_
 refine zAx rfl rfl rfl rfl rfl (zGh hl0 (.inr rfl) rfl rfl) trivial ?_
 refine zAx rfl rfl rfl rfl rfl (zGV hl0 rfl rfl) trivial ?_
 refine zAx rfl rfl rfl rfl rfl (zGU hl0 rfl rfl rfl rfl rfl rfl rfl) trivial ?_
 refine zN7 (off:=3) (sz:=4) (c:=.s (.sl 4 [])) rfl rfl rfl rfl rfl hl0 rfl hc1 rfl (by decide) rfl rfl rfl ?_
 show Tri _ _ _ _
 refine zK1 [(1,.op n 0),(2,.op (n + 1) 0),(3,.orow nx),(4,p),(5,.s (.sl 4 (Nd.encs ks1)))] (nx + 1) ⟨rfl,rfl,rfl,rfl,rfl,trivial⟩ rfl fun H2 hH2 => ?_
 have hH2 : ∀ k,H2 k = putC H1 p (zCW k1 tx1 c1 (.s (.sl 4 []))) k:=hH2
 have hc2 : zBh H2 p = some (zCW k1 tx1 c1 (.s (.sl 4 []))):=(zCP hl0 (hH2 _)).trans (zKj hl0 hc1)
 refine zAb ?_
 refine zAb ?_
 refine zAa (by exact tokW) (by exact gok) [] [] rfl ?_
 refine zAx rfl rfl rfl rfl rfl rfl trivial ?_
 refine zAx rfl rfl rfl rfl rfl rfl trivial ?_
 refine zAx rfl rfl rfl rfl rfl rfl trivial ?_
 show Tri _ _ _ _
 refine zAf rfl (fun hb => ?_) (fun hb => ?_)
 rotate_left
 ·obtain rfl : ks1 = []:=by
   cases ks1 with
   | nil => rfl
   | cons x l =>
    have:=of_decide_eq_false hb
    simp only [Nd.encs,List.length_cons] at this
    omega
  refine zAj ?_
  show Tri _ _ _ _
  refine zAk (Le.forget [(1,.op n 0),(2,.op (n + 1) 0),(3,.orow nx),(4,p),(5,.s (.sl 4 []))] ⟨rfl,rfl,rfl,rfl,rfl,trivial⟩) ?_
  refine zAb ?_
  refine zAa (by exact tokW) (by exact gok) [] [] rfl ?_
  refine zAx rfl rfl rfl rfl rfl (zGh hl0 (.inr rfl) rfl rfl) trivial ?_
  refine zAx rfl rfl rfl rfl rfl (zGV hl0 rfl rfl) trivial ?_
  refine zAx rfl rfl rfl rfl rfl (zGU hl0 rfl rfl rfl rfl rfl rfl rfl) trivial ?_
  refine zFN (off:=3) (sz:=4) rfl rfl rfl rfl rfl rfl rfl hl0 rfl hc2 rfl ?_
  refine zAx rfl rfl rfl rfl rfl rfl trivial ?_
  refine zAx rfl rfl rfl rfl rfl rfl trivial ?_
  show Tri _ _ _ _
  refine zAk (Le.forget [(1,.op n 0),(2,.op (n + 1) 0),(3,.orow nx),(4,p),(5,.s (.sl 4 []))] ⟨rfl,rfl,rfl,rfl,rfl,trivial⟩) ?_
  refine zAb ?_
  refine zAa (by exact tokW) (by exact gok) [] [] rfl ?_
  refine zAx rfl rfl rfl rfl rfl (zGh hl0 (.inr rfl) rfl rfl) trivial ?_
  refine zAx rfl rfl rfl rfl rfl (zGV hl0 rfl rfl) trivial ?_
  refine zAx rfl rfl rfl rfl rfl (zGU hl0 rfl rfl rfl rfl rfl rfl rfl) trivial ?_
  refine zFN (off:=3) (sz:=4) rfl rfl rfl rfl rfl rfl rfl hl0 rfl hc2 rfl ?_
  refine zAx rfl rfl rfl rfl rfl rfl trivial ?_
  refine zAx rfl rfl rfl rfl rfl rfl trivial ?_
  show Tri _ _ _ _
  refine zAn (zAG (X:=Unit) (fun _ => ⟨ofL [(1,.op n 0),(2,.op (n + 1) 0),(3,.orow nx),(48,.s (.int .i64 0)),(49,.s (.int .i64 0))],H2,nx + 1⟩) (fun _ => True) (fun _ => 0) () trivial (Le.forget [(1,.op n 0),(2,.op (n + 1) 0),(3,.orow nx),(48,.s (.int .i64 0)),(49,.s (.int .i64 0))] ⟨rfl,rfl,rfl,rfl,rfl,trivial⟩) ?_)
  rintro ⟨⟩ _
  refine zAb ?_
  refine zAa (by exact tokW) (by exact gok) [] [] rfl ?_
  refine zAx rfl rfl rfl rfl rfl rfl trivial ?_
  show Tri _ _ _ _
  refine zAb ?_
  refine zAf rfl (fun hb => by cases hb) (fun hb => ?_)
  refine zAK ?_
  obtain ⟨keys2,hz1,hz2⟩:=fin (zCW k1 tx1 c1 (.s (.sl 4 []))) H2 nx (nx + 1) [] [] 0
   (fun k h1 h2 => (hH2 k).trans (zIS hl0 (g2 k (by omega) h1) (g2 _ hbl.1 hbl.2.1)))
   (by rw [List.append_nil]; exact (hH2 nx).trans ((zCz (Ne.symm hbl.1)).trans g1))
   (by simp only [At]; exact ⟨.s (.sl 4 []),hc2,.inr (.inl (by simp))⟩) (by simp) (fun k hk => by cases hk) (Nat.le_refl _) (Nat.lt_succ_self _) (by simp [Nd.cnt])
  exact ⟨(H2,nx,nx + 1,S' ++ [],keys2,w1 + 0),hz1,Le.forget [(1,.op n 0),(2,.op (n + 1) 0),(3,.orow nx)] ⟨rfl,rfl,rfl,trivial⟩,hz2⟩
 ·have hm : 0 < ks1.length:=by
   have:=of_decide_eq_true hb
   rw [Nd.encs_eq,List.length_map] at this
   omega
  have hkl : ks1.length < 1000000000:=by
   have h1:=Nd.cnts_len ks1
   have h2:=hwl.2
   simp only [Nd.cnt] at hw hcnt h2
   omega
  have hel : (Nd.encs ks1).length = ks1.length:=by rw [Nd.encs_eq,List.length_map]
  refine zAk (Le.forget [(1,.op n 0),(2,.op (n + 1) 0),(3,.orow nx),(4,p),(5,.s (.sl 4 (Nd.encs ks1)))] ⟨rfl,rfl,rfl,rfl,rfl,trivial⟩) ?_
  refine zAa (by exact tokW) (by exact gok) [35] [] rfl ?_
  refine zAx rfl rfl rfl rfl rfl (zGh hl0 (.inr rfl) rfl rfl) trivial ?_
  refine zAx rfl rfl rfl rfl rfl rfl trivial ?_
  refine zAx rfl rfl rfl rfl rfl rfl trivial ?_
  refine zAx rfl rfl rfl rfl rfl (zUg rfl rfl rfl rfl rfl rfl rfl rfl rfl) (show 0 ≤ _ ∧ _ from ⟨Int.natCast_nonneg _,Int.le_refl _,show (((Nd.encs ks1).length : Nat) : Int) * ((56 : Nat) : Int) ≤ 281474976710656 by omega,show (((Nd.encs ks1).length : Nat) : Int) ≤ 281474976710656 by omega⟩) ?_
  refine zAx rfl rfl rfl rfl rfl (zGV hl0 rfl rfl) trivial ?_
  refine zAx rfl rfl rfl rfl rfl (zGU hl0 rfl rfl rfl rfl rfl rfl rfl) trivial ?_
  have hbn : zBU p ≠ nx + 1:=by have:=hbl.2.2.2; omega
  refine zN7 (off:=3) (sz:=4) (c:=.orow (nx + 1)) rfl rfl rfl rfl rfl hl0 rfl ((zCP hl0 (by show (bif Nat.beq (zBU p) (nx + 1) then _ else H2 (zBU p)) = _; rw [zD1 hbn]; rfl)).trans hc2) rfl (by decide) rfl rfl (decide_eq_true (Nat.lt_succ_self _)) ?_
  show Tri _ _ _ _
  refine zK1 [(1,.op n 0),(2,.op (n + 1) 0),(3,.orow nx),(4,p),(5,.s (.sl 4 (Nd.encs ks1)))] (nx + 2) ⟨rfl,rfl,rfl,rfl,rfl,trivial⟩ rfl fun H3 hH3 => ?_
  have hH3 : ∀ k,H3 k = putC (fun k => bif Nat.beq k (nx + 1) then some (.row 24 4 (List.replicate (((Nd.encs ks1).length : Int)).toNat [.int .i64 0,.str [],.int .i64 0,.sl 4 []])) else H2 k) p (zCW k1 tx1 c1 (.orow (nx + 1))) k:=hH3
  have a1 : H3 (nx + 1) = some (.row 24 4 (List.replicate (((Nd.encs ks1).length : Int)).toNat [.int .i64 0,.str [],.int .i64 0,.sl 4 []])):=(hH3 _).trans ((zCz (Ne.symm hbn)).trans (by simp only [Nat.beq_refl,cond_true]))
  have a2 : ∀ k,k ≠ nx + 1 → H3 k = putC H2 p (zCW k1 tx1 c1 (.orow (nx + 1))) k:=fun k hk => (hH3 k).trans (zIS hl0 (by simp only [zD1 hk,cond_false]) (by simp only [zD1 hbn,cond_false]))
  have hc3 : zBh H3 p = some (zCW k1 tx1 c1 (.orow (nx + 1))):=(zCP hl0 (a2 _ hbn)).trans (zKj hl0 hc2)
  refine zAk (Le.toA (nx + 1) a1) ?_
  refine zAb ?_
  refine zAa (by exact tokW) (by exact gok) [] [] rfl ?_
  refine zAx rfl rfl rfl rfl rfl (zGh hl0 (.inr rfl) rfl rfl) trivial ?_
  refine zAx rfl rfl rfl rfl rfl (zGV hl0 rfl rfl) trivial ?_
  refine zAx rfl rfl rfl rfl rfl (zGU hl0 rfl rfl rfl rfl rfl rfl rfl) trivial ?_
  refine zFN (off:=3) (sz:=4) rfl rfl rfl rfl rfl rfl rfl hl0 rfl ((zCP hl0 (upd_ne hbn)).trans hc3) rfl ?_
  refine zAx rfl rfl rfl rfl rfl rfl trivial ?_
  refine zAx rfl rfl rfl rfl rfl (zTi rfl rfl rfl rfl rfl rfl rfl rfl rfl zSr rfl rfl) (show (List.map _ _).length = List.length _ by simp) ?_
  show Tri _ _ _ _
  refine zK1 [(1,.op n 0),(2,.op (n + 1) 0),(3,.orow nx),(4,p),(5,.s (.sl 4 (Nd.encs ks1)))] (nx + 2) ⟨rfl,rfl,rfl,rfl,rfl,trivial⟩ rfl fun H4 hH4 => ?_
  have r1 : H4 (nx + 1) = some (.arow 24 4 ((Nd.encs ks1).map (·.map AV.s))):=(hH4 _).trans zSr
  have r2 : ∀ k,k ≠ nx + 1 → H4 k = H3 k:=fun k hk => (hH4 k).trans ((upd_ne hk).trans (upd_ne hk))
  clear hH4
  have hc4 : zBh H4 p = some (zCW k1 tx1 c1 (.orow (nx + 1))):=(zCP hl0 (r2 _ hbn)).trans hc3
  refine zAb ?_
  refine zAa (by exact tokW) (by exact gok) [] [] rfl ?_
  refine zAx rfl rfl rfl rfl rfl (zGh hl0 (.inr rfl) rfl rfl) trivial ?_
  refine zAx rfl rfl rfl rfl rfl (zGV hl0 rfl rfl) trivial ?_
  refine zAx rfl rfl rfl rfl rfl (zGU hl0 rfl rfl rfl rfl rfl rfl rfl) trivial ?_
  refine zFN (off:=3) (sz:=4) rfl rfl rfl rfl rfl rfl rfl hl0 rfl hc4 rfl ?_
  refine zAx rfl rfl rfl rfl rfl (zNg rfl rfl rfl rfl rfl r1) trivial ?_
  refine zAx rfl rfl rfl rfl rfl rfl trivial ?_
  show Tri _ _ _ _
  have hlen4 : ((Nd.encs ks1).map (·.map AV.s)).length = ks1.length:=by rw [List.length_map,hel]
  refine zAn (zAG (X:=(Nat → Option Ob) × Nat × Nat × Nat) (fun y => match y with | (Hj,lsj,nxj,j) => ⟨ofL [(1,.op n 0),(2,.op (n + 1) 0),(3,.orow lsj),(4,p),(48,.s (.int .i64 (ks1.length : Int))),(49,.s (.int .i64 (j : Int)))],Hj,nxj⟩)
   (fun y => match y with | (Hj,lsj,nxj,j) => j ≤ ks1.length ∧ (∀ k,k ≠ nx → k < nx + 2 → Hj k = H4 k) ∧ Hj lsj = some (.arow 78 1 ((S' ++ locs (nx + 1) 0 j).map fun p => [p])) ∧ (lsj = nx ∨ nx + 2 ≤ lsj) ∧ lsj < nxj ∧ nx + 2 ≤ nxj) (fun y => match y with | (Hj,lsj,nxj,j) => ks1.length - j) (H4,nx,nx + 2,0)
   ⟨Nat.zero_le _,fun k _ _ => rfl,by
    refine (r2 nx (by omega)).trans ((a2 nx (by omega)).trans ((zCz (Ne.symm hbl.1)).trans ((hH2 nx).trans ((zCz (Ne.symm hbl.1)).trans (g1.trans ?_)))))
    simp [locs],.inl rfl,by omega,Nat.le_refl _⟩
   (Le.forget [(1,.op n 0),(2,.op (n + 1) 0),(3,.orow nx),(4,p),(48,.s (.int .i64 (ks1.length : Int))),(49,.s (.int .i64 ((0 : Nat) : Int)))] ⟨rfl,rfl,rfl,rfl,congrArg (fun m : Nat => AV.s (.int .i64 (m : Int))) hlen4,rfl,trivial⟩) ?_)
  rintro ⟨Hj,lsj,nxj,j⟩ ⟨i1,i2,i3,i4,i5,i6⟩
  have hbj : zBU p ≠ nx ∧ zBU p < nx + 2:=⟨hbl.1,by have:=hbl.2.2.2; omega⟩
  have hcj : zBh Hj p = some (zCW k1 tx1 c1 (.orow (nx + 1))):=(zCP hl0 (i2 _ hbj.1 hbj.2)).trans hc4
  have hrj : Hj (nx + 1) = some (.arow 24 4 ((Nd.encs ks1).map (·.map AV.s))):=(i2 (nx + 1) (by omega) (by omega)).trans r1
  refine zAb ?_
  refine zAa (by exact tokW) (by exact gok) [] [] rfl ?_
  refine zAx rfl rfl rfl rfl rfl rfl trivial ?_
  show Tri _ _ _ _
  refine zAb ?_
  refine zAf rfl (fun hb => ?_) (fun hb => ?_)
  ·refine zAj ?_
   show Tri _ _ _ _
   have hj : j < ks1.length:=Int.ofNat_lt.1 (of_decide_eq_true hb)
   have hsl : ((S' ++ locs (nx + 1) 0 j).map fun p => [p]).length = S'.length + j:=by simp [locs]
   refine zAk (Le.forget [(1,.op n 0),(2,.op (n + 1) 0),(3,.orow lsj),(4,p),(48,.s (.int .i64 (ks1.length : Int))),(49,.s (.int .i64 (j : Int)))] ⟨rfl,rfl,rfl,rfl,rfl,rfl,trivial⟩) ?_
   refine zAb ?_
   refine zAn ?_
   refine zAb ?_
   refine zAa (by exact tokW) (by exact gok) [] [] rfl ?_
   refine zAx rfl rfl rfl rfl rfl rfl trivial ?_
   refine zAx rfl rfl rfl rfl rfl rfl trivial ?_
   show Tri _ _ _ _
   refine zAa (by exact tokW) (by exact gok) [59,60] [] rfl ?_
   refine zAx rfl rfl rfl rfl rfl rfl trivial ?_
   refine zAx rfl rfl rfl rfl rfl (zGh hl0 (.inr rfl) rfl rfl) trivial ?_
   refine zAx rfl rfl rfl rfl rfl (zGV hl0 rfl rfl) trivial ?_
   refine zAx rfl rfl rfl rfl rfl (zGU hl0 rfl rfl rfl rfl rfl rfl rfl) trivial ?_
   refine zFN (off:=3) (sz:=4) rfl rfl rfl rfl rfl rfl rfl hl0 rfl hcj rfl ?_
   refine zAx rfl rfl rfl rfl rfl rfl trivial ?_
   refine zAx rfl rfl rfl rfl rfl (zSi rfl rfl rfl rfl rfl rfl hrj rfl) ⟨Int.natCast_nonneg _,Int.ofNat_lt.2 (by rw [hlen4]; exact hj)⟩ ?_
   rw [Int.toNat_natCast]
   refine zAx rfl rfl rfl rfl rfl rfl trivial ?_
   refine zAx rfl rfl rfl rfl rfl (zTM (rows:=(S' ++ locs (nx + 1) 0 j).map fun p => [p]) (rows2:=[[.rp (nx + 1) 4 j 0]]) rfl rfl rfl rfl rfl rfl rfl rfl rfl (by show (bif Nat.beq lsj nxj then _ else Hj lsj) = _; rw [zD1 (by omega)]; exact i3) (by show (bif Nat.beq nxj nxj then _ else Hj nxj) = _; rw [Nat.beq_refl]; rfl) rfl rfl rfl) (show (((S' ++ locs (nx + 1) 0 j).map fun p => [p]).length + 1) * 8 ≤ 140737488355328 ∧ ((S' ++ locs (nx + 1) 0 j).map fun p => [p]).length + 1 ≤ 9223372036854775807 by rw [hsl]; omega) ?_
   refine zAx rfl rfl rfl rfl rfl rfl trivial ?_
   show Tri _ _ _ _
   refine zK1 [(1,.op n 0),(2,.op (n + 1) 0),(3,.orow (nxj + 1)),(4,p),(48,.s (.int .i64 (ks1.length : Int))),(49,.s (.int .i64 (j : Int)))] (nxj + 2) ⟨rfl,rfl,rfl,rfl,rfl,rfl,trivial⟩ rfl fun H5 hH5 => ?_
   have e1 : H5 (nxj + 1) = some (.arow 78 1 ((S' ++ locs (nx + 1) 0 (j + 1)).map fun p => [p])):=(hH5 _).trans (by
    show (bif Nat.beq (nxj + 1) (nxj + 1) then some (Ob.arow 78 1 (((S' ++ locs (nx + 1) 0 j).map fun p => [p]) ++ [[.rp (nx + 1) 4 j 0]])) else _) = _
    rw [Nat.beq_refl,cond_true,zRG]
    simp)
   have e2 : ∀ k,k ≠ nxj + 1 → k ≠ lsj → k ≠ nxj → H5 k = Hj k:=fun k h1 h2 h3 => (hH5 k).trans (by
    show (bif Nat.beq k (nxj + 1) then _ else bif Nat.beq k lsj then none else bif Nat.beq k nxj then _ else Hj k) = _
    rw [zD1 h1,zD1 h2,zD1 h3]; rfl)
   clear hH5
   refine zAa (by exact tokW) (by exact gok) [] [] rfl ?_
   refine zAx rfl rfl rfl rfl rfl rfl trivial ?_
   refine zAx rfl rfl rfl rfl rfl rfl trivial ?_
   exact ⟨(H5,nxj + 1,nxj + 2,j + 1),⟨hj,fun k h1 h2 => (e2 k (by omega) (by omega) (by omega)).trans (i2 k h1 h2),e1,.inr (by omega),by omega,by omega⟩,
    Le.forget [(1,.op n 0),(2,.op (n + 1) 0),(3,.orow (nxj + 1)),(4,p),(48,.s (.int .i64 (ks1.length : Int))),(49,.s (.int .i64 ((j + 1 : Nat) : Int)))] ⟨rfl,rfl,rfl,rfl,rfl,congrArg (fun z => AV.s (.int .i64 z)) (zAM (by omega)),trivial⟩,by show ks1.length - (j + 1) < ks1.length - j; omega⟩
  ·refine zAK ?_
   have hj : j = ks1.length:=by
    have:=of_decide_eq_false hb
    omega
   subst hj
   obtain ⟨keys2,hz1,hz2⟩:=fin (zCW k1 tx1 c1 (.orow (nx + 1))) Hj lsj nxj [nx + 1] (locs (nx + 1) 0 ks1.length) (Nd.cnts ks1)
    (fun k h1 h2 => (i2 k (by omega) (by omega)).trans ((r2 k (by omega)).trans ((a2 k (by omega)).trans (zQ2 hl0 hcell ((hH2 _).trans (zIS hl0 (g2 _ hbl.1 hbl.2.1) (g2 _ hbl.1 hbl.2.1))) fun hk => (hH2 k).trans ((zCz hk).trans (g2 k (by omega) h1))))))
    i3 (by simp only [At]; exact ⟨.orow (nx + 1),hcj,.inr (.inr ⟨nx + 1,_,[],rfl,hrj,hlen4,rfl,LAt.copied hrj⟩)⟩) (by simp) (fun k hk => by
     have:=List.mem_singleton.1 hk
     omega) (by omega) i5 (by simp [Nd.cnt])
   exact ⟨(Hj,lsj,nxj,S' ++ locs (nx + 1) 0 ks1.length,keys2,w1 + Nd.cnts ks1),hz1,Le.forget [(1,.op n 0),(2,.op (n + 1) 0),(3,.orow lsj)] ⟨rfl,rfl,rfl,trivial⟩,hz2⟩
def zPa (xs : List AV) (r : Ret) : Prop:=∃ (a0 : Nd) (y0 : Nd),zHJ a0 = some y0 ∧ xs = [.agg ((Nd.enc a0).map .s)] ∧ r = .val (.agg ((Nd.enc y0).map .s))
def zJY : zAB:=zAJ fun xs r => zPa xs r
theorem zOo : PSound Tryz.prog 88 zJY :=
 PSound.giveAll zML fun xs r h => by
  obtain ⟨⟨k,t,c,ks⟩,y,hm,rfl,rfl⟩:=h
  obtain ⟨hq,hm⟩:=zAF hm
  obtain rfl:=Option.some.inj hm
  refine ⟨_,rfl,rfl,k,c,t,ks,hq,rfl,fun v hp' n' keys _ _ hv _ _ => ?_⟩
  refine zS6 (t:=.mk k t c ks) (RdC.node ?_)
  rcases hv with ⟨rfl,rfl,_⟩ | ⟨q,rows,keys',w,rfl,hq,hlen,rfl,h⟩
  ·exact .s _
  ·exact Rd.rows hq hlen fun j x hj => (by have:=LAt.rd h j x hj; rwa [Nat.zero_add] at this)
end Go.Proofs.YtgfneloodabafaaGreatDoor
namespace Go.Proofs
open Go.RowKit Go.Lib
theorem Tryz.Grow_nil_sint (w : World) :
  Calls Tryz.prog 90 #[.slice none 0 0,.int .i64 0] w fun e w' => e = .returned (.slice none 0 0) ∧ w' = w:=by
 have h2 : wrap64 0 = 0:=by unfold wrap64; omega
 go_enter Tryz.func90,Tryz.ntmps90
 go_wp2
 go_ret
 exact ⟨rfl,rfl⟩
set_option maxHeartbeats 4000000 in
theorem Tryz.Grow_new_sint (i0 : TypeInfo) (z : Value) (hi0 : Tryz.prog.info? 3 = some i0) (hz0 : i0.zero = some z) (hs0 : 0 < i0.size)
  (n : Nat) (w : World) (hroom : 0 < n) (hbig : n * i0.bytes ≤ 140737488355328) (h63 : n ≤ 4611686018427387904) :
  Calls Tryz.prog 90 #[.slice none 0 0,.int .i64 n] w fun e w' =>
   e = .returned (.slice (some ⟨w.heap.size,0,none⟩) 0 (grownCap w n 0 3)) ∧
   w' = w.drew.alloc (.cells (#[] ++ Builtin.zeroCells z.cells n ++ Builtin.zeroCells z.cells (grownCap w n 0 3 - n)) 3):=by
 have h1 : ¬ ((n : Int) < 0):=by omega
 have h2 : wrap64 0 = 0:=by unfold wrap64; omega
 have h3 : wrap64 (n : Int) = (n : Int):=by unfold wrap64; omega
 have h4 : (n : Int) > 0:=by omega
 have hold : (Builtin.firstCells i0.size 0 (.slice none 0 0)).run Tryz.prog w.drew = .ok ([] : List Value).toArray w.drew:=run_firstCells_none w.drew i0.size 0 0 0
 have hrz : ∀ ty,(Builtin.append_ #[33,3] ty #[.slice none 0 0,.int .i64 (n : Int)]).run Tryz.prog w =
   .ok (.slice (some ⟨w.heap.size,0,none⟩) n (grownCap w n 0 3)) (w.drew.alloc (.cells (#[] ++ Builtin.zeroCells z.cells n ++ Builtin.zeroCells z.cells (grownCap w n 0 3 - n)) 3)):=fun ty => by
  have h:=Lib.run_append_grow_zeros w 33 3 ty 3 i0 z .i64 .i64 Tryz.underlying33 Tryz.underlying3 hi0 hz0 none 0 0 [] hold n (by omega) hs0 (by omega) (by omega) (by omega)
   (by rw [Nat.zero_add]; exact growslice_fits hroom hbig)
  rw [Nat.zero_add] at h
  exact h
 have hGn : n ≤ grownCap w n 0 3:=grownCap_ge w _ _ _
 obtain ⟨G,hG⟩ : ∃ G,G = grownCap w n 0 3:=⟨_,rfl⟩
 rw [← hG] at hrz hGn ⊢
 have hG63 : G ≤ 9223372036854775807:=by
  have:=grownCap_le_maxLen w n 0 3 (by unfold maxLen; omega)
  rw [← hG] at this
  unfold maxLen at this
  omega
 clear hold hG
 go_enter Tryz.func90,Tryz.ntmps90
 go_wp2_with (at_builtin; refine Lib.wpList_append_run _ rfl _ _ _ _ rfl _ _ rfl rfl _ _ (hrz _) ?_)
 all_goals (go_ret; exact ⟨rfl,rfl⟩)
end Go.Proofs
namespace Go.Proofs.YtgfneloodabafaaGreatDoor
open Go.Abs
theorem zTS (z : Array Value) (n : Nat) : (Builtin.zeroCells z n).size = n * z.size:=by simp [Builtin.zeroCells]
def zHY (xs : List AV) (r : Ret) : Prop:=∃ (a0 : Int) (y0 : List Int),zCV a0 = some y0 ∧ xs = [.nl 1,.s (.int .i64 a0)] ∧ r = .row 3 1 ((List.map (irow .i64)) y0)
def zFm : zAB:=zUf fun xs r => zHY xs r
theorem zHO : PSound Tryz.prog 90 zFm :=
 ⟨Tryz.call90,fun G w xs vs r hl hg _ hv ⟨a0,y0,hm,hx,hr⟩ => by
  subst hx; subst hr
  obtain ⟨⟨q1,q2⟩,hm⟩:=zAF hm
  obtain rfl:=Option.some.inj hm
  obtain ⟨n,rfl⟩:=Int.eq_ofNat_of_zero_le q1
  simp only [AVals,AVal,Rep] at hv
  obtain ⟨_,_,rfl,rfl,_,_,rfl,rfl,rfl⟩:=hv
  by_cases h0 : n = 0
  ·subst h0
   exact (Tryz.Grow_nil_sint w).mono fun e w' ⟨h1,h2⟩ => by
    subst h2
    exact ⟨_,G,h1,Ext.refl hl,fun r hr => (by cases hr),by decide,.inl ⟨rfl,rfl⟩⟩
  obtain ⟨d,info,z,b1,b2,b3,b4,b5,b6,b7,b8,b9,b10⟩:=tokW 3 _ rfl
  have i1 : info.size = 1:=b4
  have i2 : info.bytes = 8:=b5
  have hzs : z.cells.size = 1:=zIB b7 b8 b9
  refine (Tryz.Grow_new_sint info z b3 b6 (by omega) n w (by omega) (by rw [i2]; omega) (by omega)).mono fun e w' ⟨h1,h2⟩ => ?_
  have hge : n ≤ grownCap w n 0 3:=by unfold grownCap Question.cut; simp
  generalize grownCap w n 0 3 = g at *
  refine ⟨_,G,h1,?_,fun r hr => (by cases hr),by decide,.inr ⟨w.heap.size,g,#[] ++ Builtin.zeroCells z.cells n ++ Builtin.zeroCells z.cells (g - n),rfl,Nat.zero_le _,?_,by rw [h2]; exact zDe w.drew _,fun h => Nat.lt_irrefl _ (hl _ h),Nat.le_refl _,fun i s hi => by cases hi⟩⟩
  ·rw [h2]
   exact (Ext.drew hl).trans (Ext.own (w:=w.drew) hl _)
  ·simp only [Array.size_append,Array.size_empty,zTS,hzs]
   omega,
 fun R hR => (by cases hR),fun R hR => (by cases hR)⟩
def zHw (xs : List AV) (r : Ret) : Prop:=∃ (a0 : List Int) (y0 : List Int),zDC a0 = some y0 ∧ xs = [.s (.sl 1 ((List.map (irow .i64)) a0))] ∧ r = .val (.s (.sl 1 ((List.map (irow .i64)) y0)))
def zE1 : zAB:=zAJ fun xs r => zHw xs r
theorem zHa : PSound Tryz.prog 102 zE1:=by
 have gok : ∀ (f : Nat) (s : zAB),(fun _ => none : Nat → Option zAB) f = some s → PSound Tryz.prog f s:=fun _ _ h => by cases h
 refine zAT tokW Tryz.call102 Tryz.func102 rfl (fun xs r h => by obtain ⟨_,_,_,rfl,_⟩:=h; show 1 ≤ _; decide) _ rfl ?_
 rintro xs r w0 G0 ⟨l,y,h,rfl,rfl⟩ _
 obtain ⟨hq,h⟩:=zAF h
 obtain rfl:=Option.some.inj h
 have hlen : ((List.map (irow .i64)) l).length = l.length:=rlen (fun _ => rfl) l
 refine zAb ?_
 refine zAa (by exact tokW) (by exact gok) [] [] rfl ?_
 show Tri _ _ _ _
 refine zAb ?_
 refine zAb ?_
 refine zAa (by exact tokW) (by exact gok) [] [] rfl ?_
 intro b hb
 show Tri _ _ _ _
 cases b with
 | true =>
  have hl:=hb rfl
  refine zAf rfl (fun _ => ?_) (fun h => by cases h)
  refine zAb ?_
  refine zAa (by exact tokW) (by exact gok) [] [] rfl ?_
  show Tri _ _ _ _
  refine zAv ?_
  unfold zAQ
  exact ⟨_,Le.refl _ _,congrArg (fun z => some (AV.s (.sl 1 z))) hl.symm,rfl⟩
 | false =>
  refine zAf rfl (fun h => by cases h) (fun _ => ?_)
  refine zAj ?_
  show Tri _ _ _ _
  refine zAb ?_
  refine zAa (by exact tokW) (by exact gok) [5,7] [] rfl ?_
  refine And.intro (show (([] : List (List S)).length + ((List.map (irow .i64)) l).length) * 8 ≤ 140737488355328 ∧ ([] : List (List S)).length + ((List.map (irow .i64)) l).length ≤ 9223372036854775807 from by rw [hlen]; simp only [List.length_nil]; omega) ?_
  show Tri _ _ _ _
  refine zAv ?_
  unfold zAQ
  exact ⟨_,Le.giveRow 1 (e:=3) (sz:=1) (rows:=(List.map (irow .i64)) l) rfl,rfl,rfl⟩
end Go.Proofs.YtgfneloodabafaaGreatDoor
namespace Go.Abs
variable {c : Cx} {σ : St}
theorem Le.ofA (k : Nat) {e sz : Nat} {rows : List (List AV)} (rs : List (List S)) (hk : σ.hp k = some (.arow e sz rows)) (hs : zF1 rows = some rs) : Le c σ (zEz σ k (.row e sz rs)):=by
 unfold Le
 intro G β a w hc
 obtain ⟨s1,s2,s3⟩:=zMf hs
 have hget : ∀ {j o},(zEz σ k (.row e sz rs)).hp j = some o → (j = k ∧ o = .row e sz rs) ∨ (j ≠ k ∧ σ.hp j = some o):=fun {j o} h => by
  simp only [zEz] at h
  cases hq : Nat.beq j k with
  | true => rw [hq,cond_true] at h; cases h; exact .inl ⟨Nat.eq_of_beq_eq_true hq,rfl⟩
  | false => rw [hq,cond_false] at h; exact .inr ⟨Nat.ne_of_beq_eq_false hq,h⟩
 have hget' : ∀ {j o},(zEz σ k (.row e sz rs)).hp j = some o → ∃ o',σ.hp j = some o':=fun {j o} h => by
  rcases hget h with ⟨rfl,_⟩ | ⟨_,h⟩
  ·exact ⟨_,hk⟩
  ·exact ⟨_,h⟩
 refine ⟨G,β,{ hc with hp:=fun j o hj => ?_,hplt:=fun j o hj => ?_,inj:=fun j j' o o' hj hj' => (let ⟨_,h1⟩:=hget' hj; let ⟨_,h2⟩:=hget' hj'; hc.inj j j' _ _ h1 h2) }⟩
 ·rcases hget hj with ⟨rfl,rfl⟩ | ⟨_,h⟩
  ·obtain ⟨hlen,hsz,ho⟩:=hc.hp j _ hk
   refine ⟨fun r hr => s3 sz hlen r hr,hsz,ho.imp (fun h => ⟨h.1,by have:=h.2; subst this; exact List.length_eq_zero_iff.1 (by simpa using s2.symm)⟩) ?_⟩
   rintro ⟨b,cap,cur,h1,h2,h3,h4,h5,h6,h7⟩
   refine ⟨b,cap,cur,by rw [← s2]; exact h1,by rw [← s2]; exact h2,h3,h4,h5,h6,fun i s hi => ?_⟩
   have hm : (rows.flatten.map AV.sc)[i]? = some (some s):=by rw [s1,List.getElem?_map,hi]; rfl
   rw [List.getElem?_map] at hm
   obtain ⟨x,hx,hxs⟩:=Option.map_eq_some_iff.1 hm
   obtain ⟨u,hu,hr,_⟩:=h7 i x hx
   exact ⟨u,hu,AV.sc_rep hxs hr⟩
  ·exact hc.hp j o h
 ·rcases hget hj with ⟨rfl,rfl⟩ | ⟨_,h⟩
  ·exact ⟨(hc.hplt j _ hk).1,rfl⟩
  ·exact hc.hplt j o h
theorem zSm : ∀ r : List S,zIX (r.map AV.s) = some r
 | [] => rfl
 | x :: r => by simp [zIX,AV.sc,zSm r]
theorem zQp : ∀ rows : List (List S),zF1 (rows.map (·.map AV.s)) = some rows
 | [] => rfl
 | r :: rows => by simp [zF1,zSm r,zQp rows]
theorem zIx : ∀ {a b : List (List AV)} {x y : List (List S)},zF1 a = some x → zF1 b = some y → zF1 (a ++ b) = some (x ++ y)
 | [],b,x,y,h,h' => by
  simp only [zF1,Option.some.injEq] at h
  subst h
  exact h'
 | r :: a,b,x,y,h,h' => by
  simp only [zF1] at h
  split at h
  ·rename_i z zs h1 h2
   cases h
   simp [zF1,h1,zIx h2 h']
  ·cases h
theorem zP6 {k : Nat} {r : AV} {p : Nat → AV} : ∀ l : List S,AV.frzAll k r p (l.map AV.s) = l.map AV.s
 | [] => rfl
 | x :: l => by simp [AV.frzAll,AV.frz,zP6 l]
theorem zQL {k : Nat} {r : AV} {p : Nat → AV} (rows : List (List S)) : (rows.map (·.map AV.s)).map (AV.frzAll k r p) = rows.map (·.map AV.s):=by
 rw [List.map_map]
 exact List.map_congr_left fun l _ => zP6 l
end Go.Abs
namespace Go.Proofs.YtgfneloodabafaaGreatDoor
open Go.Abs
def zE9 : (List Int) → Option (List Int)
| l1 =>
 (zDC l1).bind fun y2 =>
 some y2
def zB9 (l1 : List Nd) : Nat → Int → (List Nd) → Option ((List Nd))
| 0,_,_ => none
| k+1,x4,l5 =>
 bif decide (x4 < (l1.length : Int)) then (
  (at? l1 x4).bind fun ⟨e7_kind,e7_text,e7_cols,e7_kids⟩ =>
  (zHJ (Nd.mk e7_kind e7_text e7_cols e7_kids)).bind fun ⟨y9_kind,y9_text,y9_cols,y9_kids⟩ =>
  req (l5.length + [Nd.mk y9_kind y9_text y9_cols y9_kids].length ≤ 4294967296) <|
  zB9 l1 k (IntKind.i64.wrap (x4 + 1)) (l5 ++ [Nd.mk y9_kind y9_text y9_cols y9_kids])
 ) else (
  some l5
 )
def zBQ (n : Nat) : (List Nd) → Option (List Nd)
| l1 =>
 (zB9 l1 n 0 []).bind fun l6 =>
 some l6
end Go.Proofs.YtgfneloodabafaaGreatDoor
namespace Go.Proofs.YtgfneloodabafaaGreatDoor
open Go.Abs
def zCN (s1 : List UInt8) : Nat → Int → (List Nd) → Option ((List Nd))
| 0,_,_ => none
| k+1,i4,l5 =>
 bif decide (i4 < (s1.length : Int)) then (
  req (0 ≤ i4 ∧ i4 ≤ IntKind.i64.wrap (i4 + 1) ∧ IntKind.i64.wrap (i4 + 1) ≤ (s1.length : Int)) <|
  req (l5.length + [Nd.mk 2 ((s1.take (IntKind.i64.wrap (i4 + 1)).toNat).drop i4.toNat) 0 []].length ≤ 4294967296) <|
  zCN s1 k (IntKind.i64.wrap (i4 + 1)) (l5 ++ [Nd.mk 2 ((s1.take (IntKind.i64.wrap (i4 + 1)).toNat).drop i4.toNat) 0 []])
 ) else (
  some l5
 )
def zDi (n : Nat) : (List UInt8) → Option Nd
| s1 =>
 (zCN s1 n 0 []).bind fun l6 =>
 some (Nd.mk 1 [] 0 l6)
def zBu (base1 : List Nd) : Nat → Int → (List Int) → Option ((List Int))
| 0,_,_ => none
| k+1,x7,l8 =>
 bif decide (x7 < ((List.replicate (base1.length : Int).toNat 0 : List Int).length : Int)) then (
  (at? l8 x7).bind fun e10 =>
  zBu base1 k (IntKind.i64.wrap (x7 + 1)) (l8.set x7.toNat (-1))
 ) else (
  some l8
 )
def zBv (y3 : List (Int × Int)) : Nat → Int → (List Int) → Option ((List Int))
| 0,_,_ => none
| k+1,x13,l14 =>
 bif decide (x13 < (y3.length : Int)) then (
  (at? y3 x13).bind fun ⟨e16_0,e16_1⟩ =>
  (at? l14 e16_0).bind fun e18 =>
  zBv y3 k (IntKind.i64.wrap (x13 + 1)) (l14.set e16_0.toNat e16_1)
 ) else (
  some l14
 )
def zCd (n : Nat) : (List Nd) → (List Nd) → Option (List Int)
| base1,other2 =>
 (zEr n (Nd.mk 1 [] 0 base1) (Nd.mk 1 [] 0 other2)).bind fun ⟨y3,y4⟩ =>
 req (0 ≤ (base1.length : Int) ∧ (base1.length : Int) ≤ 4294967296) <|
 (zBu base1 n 0 (List.replicate (base1.length : Int).toNat 0)).bind fun l9 =>
 (zBv y3 n 0 l9).bind fun l15 =>
 some l15
def zC3 (n : Nat) : (List Nd) → (List Nd) → Option Bool
| a1,b2 =>
 (zA5 n a1 b2).bind fun y3 =>
 some y3
def zBm (n : Nat) : (Int × List (List Int × Int × Int × List Nd × List Nd)) → (List Int) → Int → (List Nd × List Nd × List Nd) → Option ((List Nd) × (Int × List (List Int × Int × Int × List Nd × List Nd)))
| ⟨o1_take,o1_conflicts⟩,path2,from3,⟨part4_0,part4_1,part4_2⟩ =>
 (zE9 path2).bind fun y5 =>
 (zBQ n part4_1).bind fun y7 =>
 (zBQ n part4_2).bind fun y8 =>
 req (o1_conflicts.length + [(y5,from3,IntKind.i64.wrap (from3 + (part4_0.length : Int)),y7,y8)].length ≤ 4294967296) <|
 bif (o1_take == 0) then (
  (zBQ n part4_0).bind fun y10 =>
  some (y10,(o1_take,o1_conflicts ++ [(y5,from3,IntKind.i64.wrap (from3 + (part4_0.length : Int)),y7,y8)]))
 ) else (
  bif (o1_take == 1) then (
   (zBQ n part4_1).bind fun y11 =>
   some (y11,(o1_take,o1_conflicts ++ [(y5,from3,IntKind.i64.wrap (from3 + (part4_0.length : Int)),y7,y8)]))
  ) else (
   bif (o1_take == 2) then (
    (zBQ n part4_2).bind fun y12 =>
    some (y12,(o1_take,o1_conflicts ++ [(y5,from3,IntKind.i64.wrap (from3 + (part4_0.length : Int)),y7,y8)]))
   ) else (
    none
   )
  )
 )
def zBs (n : Nat) : (Int × List (List Int × Int × Int × List Nd × List Nd)) → (List Int) → Int → (List Nd × List Nd × List Nd) → Option ((List Nd) × (Int × List (List Int × Int × Int × List Nd × List Nd)))
| ⟨o1_take,o1_conflicts⟩,path2,from3,⟨part4_0,part4_1,part4_2⟩ =>
 (zC3 n part4_1 part4_0).bind fun y5 =>
 bif y5 then (
  (zBQ n part4_2).bind fun y6 =>
  some (y6,(o1_take,o1_conflicts))
 ) else (
  (
   (zC3 n part4_2 part4_0).bind fun y8 =>
   bif y8 then (
    some true
   ) else (
    (zC3 n part4_2 part4_1).bind fun y9 =>
    some y9
   )
   : Option (Bool)).bind fun x7 =>
  bif x7 then (
   (zBQ n part4_1).bind fun y10 =>
   some (y10,(o1_take,o1_conflicts))
  ) else (
   (zBm n (o1_take,o1_conflicts) path2 from3 (part4_0,part4_1,part4_2)).bind fun ⟨y11,⟨w12_take,w12_conflicts⟩⟩ =>
   some (y11,(w12_take,w12_conflicts))
  )
 )
def zAU (slices1 : List (List Int)) : Nat → Int → Int → Option (Int)
| 0,_,_ => none
| k+1,x3,size4 =>
 bif decide (x3 < (slices1.length : Int)) then (
  (at? slices1 x3).bind fun e6 =>
  bif decide ((IntKind.i64.wrap (size4 + (e6.length : Int))) < 0) then (
   none
  ) else (
   zAU slices1 k (IntKind.i64.wrap (x3 + 1)) (IntKind.i64.wrap (size4 + (e6.length : Int)))
  )
 ) else (
  some size4
 )
def zAW (slices1 : List (List Int)) : Nat → Int → (List Int) → Option ((List Int))
| 0,_,_ => none
| k+1,x11,l13 =>
 bif decide (x11 < (slices1.length : Int)) then (
  (at? slices1 x11).bind fun e15 =>
  req (l13.length + e15.length ≤ 4294967296) <|
  zAW slices1 k (IntKind.i64.wrap (x11 + 1)) (l13 ++ e15)
 ) else (
  some l13
 )
def zBZ (n : Nat) : (List (List Int)) → Option (List Int)
| slices1 =>
 (zAU slices1 n 0 0).bind fun size5 =>
 (zCV size5).bind fun y9 =>
 (zAW slices1 n 0 y9).bind fun l14 =>
 some l14
def zA2 (F_merge_merger_row : (Int × List (List Int × Int × Int × List Nd × List Nd)) → (List Int) → (List Nd) → (List Nd) → (List Nd) → Option ((List Nd) × (Int × List (List Int × Int × Int × List Nd × List Nd)))) (n : Nat) (a2 : List Int) (a3 : Int) (a4_kids : List Nd) (a5_kids : List Nd) (a6_kids : List Nd) : Nat → Int → Int → (List (List Int × Int × Int × List Nd × List Nd)) → (List Nd) → Option (Int × (List (List Int × Int × Int × List Nd × List Nd)) × (List Nd))
| 0,_,_,_,_ => none
| k+1,x15,x18,l19,l20 =>
 bif decide (x18 < (a4_kids.length : Int)) then (
  (zBZ n [a2,[a3,x18]]).bind fun y26 =>
  (at? a4_kids x18).bind fun ⟨e27_kind,e27_text,e27_cols,e27_kids⟩ =>
  (at? a5_kids x18).bind fun ⟨e29_kind,e29_text,e29_cols,e29_kids⟩ =>
  (at? a6_kids x18).bind fun ⟨e31_kind,e31_text,e31_cols,e31_kids⟩ =>
  (F_merge_merger_row (x15,l19) y26 e27_kids e29_kids e31_kids).bind fun ⟨y33,⟨w34_take,w34_conflicts⟩⟩ =>
  req (l20.length + [Nd.mk 1 [] 0 y33].length ≤ 4294967296) <|
  zA2 F_merge_merger_row n a2 a3 a4_kids a5_kids a6_kids k w34_take (IntKind.i64.wrap (x18 + 1)) w34_conflicts (l20 ++ [Nd.mk 1 [] 0 y33])
 ) else (
  some (x15,l19,l20)
 )
def zA1 (F_merge_merger_item : (Int × List (List Int × Int × Int × List Nd × List Nd)) → (List Int) → Int → Nd → Nd → Nd → Option ((List Nd) × (Int × List (List Int × Int × Int × List Nd × List Nd)))) (n : Nat) (a2 : List Int) (a3 : List Nd) (a4 : List Nd) (a5 : List Nd) (y6 : List Int) (y7 : List Int) : Nat → Int → Int → Int → Int → Int → (List (List Int × Int × Int × List Nd × List Nd)) → (List Nd) → Option (Int × Int × Int × Int × (List (List Int × Int × Int × List Nd × List Nd)) × (List Nd))
| 0,_,_,_,_,_,_,_ => none
| k+1,x9,x12,x13,x14,x15,l16,l17 =>
 bif decide (x15 < (a3.length : Int)) then (
  (
   (
    (at? y6 x15).bind fun e31 =>
    bif decide (e31 < 0) then (
     some true
    ) else (
     (at? y7 x15).bind fun e33 =>
     some (decide (e33 < 0))
    )
    : Option (Bool)).bind fun x30 =>
   bif x30 then (
    some (x12,x13,x14,x9,l16,l17)
   ) else (
    req (0 ≤ x12 ∧ x12 ≤ x15 ∧ x15 ≤ (a3.length : Int)) <|
    (at? y6 x15).bind fun e36 =>
    req (0 ≤ x13 ∧ x13 ≤ e36 ∧ e36 ≤ (a4.length : Int)) <|
    (at? y7 x15).bind fun e39 =>
    req (0 ≤ x14 ∧ x14 ≤ e39 ∧ e39 ≤ (a5.length : Int)) <|
    (zBs n (x9,l16) a2 x12 ((a3.take x15.toNat).drop x12.toNat,(a4.take e36.toNat).drop x13.toNat,(a5.take e39.toNat).drop x14.toNat)).bind fun ⟨y42,⟨w43_take,w43_conflicts⟩⟩ =>
    req (l17.length + y42.length ≤ 4294967296) <|
    (at? a3 x15).bind fun ⟨e44_kind,e44_text,e44_cols,e44_kids⟩ =>
    (at? y6 x15).bind fun e46 =>
    (at? a4 e46).bind fun ⟨e48_kind,e48_text,e48_cols,e48_kids⟩ =>
    (at? y7 x15).bind fun e50 =>
    (at? a5 e50).bind fun ⟨e52_kind,e52_text,e52_cols,e52_kids⟩ =>
    (F_merge_merger_item (w43_take,w43_conflicts) a2 x15 (Nd.mk e44_kind e44_text e44_cols e44_kids) (Nd.mk e48_kind e48_text e48_cols e48_kids) (Nd.mk e52_kind e52_text e52_cols e52_kids)).bind fun ⟨y54,⟨w55_take,w55_conflicts⟩⟩ =>
    req ((l17 ++ y42).length + y54.length ≤ 4294967296) <|
    (at? y6 x15).bind fun e56 =>
    (at? y7 x15).bind fun e58 =>
    some (IntKind.i64.wrap (x15 + 1),IntKind.i64.wrap (e56 + 1),IntKind.i64.wrap (e58 + 1),w55_take,w55_conflicts,(l17 ++ y42) ++ y54)
   )
   : Option (Int × Int × Int × Int × (List (List Int × Int × Int × List Nd × List Nd)) × (List Nd))).bind fun ⟨x24,x25,x26,x27,l28,l29⟩ =>
  zA1 F_merge_merger_item n a2 a3 a4 a5 y6 y7 k x27 x24 x25 x26 (IntKind.i64.wrap (x15 + 1)) l28 l29
 ) else (
  some (x12,x13,x14,x9,l16,l17)
 )
mutual
def zA9 : Nat → (Int × List (List Int × Int × Int × List Nd × List Nd)) → (List Int) → Int → Nd → Nd → Nd → Option ((List Nd) × (Int × List (List Int × Int × Int × List Nd × List Nd)))
| 0,_,_,_,_,_,_ => none
| n+1,⟨o1_take,o1_conflicts⟩,a2,a3,⟨a4_kind,a4_text,a4_cols,a4_kids⟩,⟨a5_kind,a5_text,a5_cols,a5_kids⟩,⟨a6_kind,a6_text,a6_cols,a6_kids⟩ =>
 (
  bif (a5_text == a4_text) then (
   some (.go a6_text)
  ) else (
   (
    bif (a6_text == a4_text) then (
     some true
    ) else (
     some (a6_text == a5_text)
    )
    : Option (Bool)).bind fun x8 =>
   bif x8 then (
    some (.go a5_text)
   ) else (
    (zBm n (o1_take,o1_conflicts) a2 a3 ([Nd.mk a4_kind a4_text a4_cols a4_kids],[Nd.mk a5_kind a5_text a5_cols a5_kids],[Nd.mk a6_kind a6_text a6_cols a6_kids])).bind fun ⟨y12,⟨w13_take,w13_conflicts⟩⟩ =>
    some (.ret (y12,(w13_take,w13_conflicts)))
   )
  )
  : Option (Fl ((List Nd) × (Int × List (List Int × Int × Int × List Nd × List Nd))) ((List UInt8)))).bind fun fl => match fl with
 | .ret r => some r
 | .go x7 =>
  (zA2 (zA0 n) n a2 a3 a4_kids a5_kids a6_kids n o1_take 0 o1_conflicts []).bind fun ⟨x21,l22,l23⟩ =>
  some ([Nd.mk a4_kind x7 a4_cols l23],(x21,l22))
def zA0 : Nat → (Int × List (List Int × Int × Int × List Nd × List Nd)) → (List Int) → (List Nd) → (List Nd) → (List Nd) → Option ((List Nd) × (Int × List (List Int × Int × Int × List Nd × List Nd)))
| 0,_,_,_,_,_ => none
| n+1,⟨o1_take,o1_conflicts⟩,a2,a3,a4,a5 =>
 (zCd n a3 a4).bind fun y6 =>
 (zCd n a3 a5).bind fun y7 =>
 (zA1 (zA9 n) n a2 a3 a4 a5 y6 y7 n o1_take 0 0 0 0 o1_conflicts []).bind fun ⟨x18,x19,x20,x21,l22,l23⟩ =>
 req (0 ≤ x18 ∧ x18 ≤ (a3.length : Int) ∧ (a3.length : Int) ≤ (a3.length : Int)) <|
 req (0 ≤ x19 ∧ x19 ≤ (a4.length : Int) ∧ (a4.length : Int) ≤ (a4.length : Int)) <|
 req (0 ≤ x20 ∧ x20 ≤ (a5.length : Int) ∧ (a5.length : Int) ≤ (a5.length : Int)) <|
 (zBs n (x21,l22) a2 x18 ((a3.take (a3.length : Int).toNat).drop x18.toNat,(a4.take (a4.length : Int).toNat).drop x19.toNat,(a5.take (a5.length : Int).toNat).drop x20.toNat)).bind fun ⟨y63,⟨w64_take,w64_conflicts⟩⟩ =>
 req (l23.length + y63.length ≤ 4294967296) <|
 some (l23 ++ y63,(w64_take,w64_conflicts))
end
def zBt (n : Nat) : (Int × List (List Int × Int × Int × List Nd × List Nd)) → Nd → Nd → Nd → Option (Nd × Int × (Int × List (List Int × Int × Int × List Nd × List Nd)))
| ⟨o1_take,o1_conflicts⟩,⟨base2_kind,base2_text,base2_cols,base2_kids⟩,⟨x3_kind,x3_text,x3_cols,x3_kids⟩,⟨y4_kind,y4_text,y4_cols,y4_kids⟩ =>
 (
  (zB3 n (Nd.mk base2_kind base2_text base2_cols base2_kids)).bind fun y6 =>
  bif (!y6) then (
   some true
  ) else (
   (zB3 n (Nd.mk x3_kind x3_text x3_cols x3_kids)).bind fun y7 =>
   bif (!y7) then (
    some true
   ) else (
    (zB3 n (Nd.mk y4_kind y4_text y4_cols y4_kids)).bind fun y8 =>
    some (!y8)
   )
  )
  : Option (Bool)).bind fun x5 =>
 bif x5 then (
  some (Nd.mk 0 [] 0 [],1,(o1_take,o1_conflicts))
 ) else (
  (zA0 n (o1_take,o1_conflicts) [] base2_kids x3_kids y4_kids).bind fun ⟨y9,⟨w10_take,w10_conflicts⟩⟩ =>
  (zB3 n (Nd.mk 1 [] 0 y9)).bind fun y11 =>
  bif (!y11) then (
   some (Nd.mk 0 [] 0 [],6,(w10_take,w10_conflicts))
  ) else (
   some (Nd.mk 1 [] 0 y9,0,(w10_take,w10_conflicts))
  )
 )
def zGa (n : Nat) : Nd → Nd → Nd → Option (Nd × (List (List Int × Int × Int × List Nd × List Nd)) × Int)
| ⟨base1_kind,base1_text,base1_cols,base1_kids⟩,⟨x2_kind,x2_text,x2_cols,x2_kids⟩,⟨y3_kind,y3_text,y3_cols,y3_kids⟩ =>
 (zBt n (0,[]) (Nd.mk base1_kind base1_text base1_cols base1_kids) (Nd.mk x2_kind x2_text x2_cols x2_kids) (Nd.mk y3_kind y3_text y3_cols y3_kids)).bind fun ⟨⟨y4_kind,y4_text,y4_cols,y4_kids⟩,y5,⟨w6_take,w6_conflicts⟩⟩ =>
 bif (y5 != 0) then (
  some (Nd.mk 0 [] 0 [],[],y5)
 ) else (
  some (Nd.mk y4_kind y4_text y4_cols y4_kids,w6_conflicts,0)
 )
def zF9 (n : Nat) : Option Bool
:=
 (zDi n [97,98]).bind fun ⟨y1_kind,y1_text,y1_cols,y1_kids⟩ =>
 (zDi n [97,99,98]).bind fun ⟨y2_kind,y2_text,y2_cols,y2_kids⟩ =>
 (zDi n [97,98,100]).bind fun ⟨y3_kind,y3_text,y3_cols,y3_kids⟩ =>
 (zGa n (Nd.mk y1_kind y1_text y1_cols y1_kids) (Nd.mk y2_kind y2_text y2_cols y2_kids) (Nd.mk y3_kind y3_text y3_cols y3_kids)).bind fun ⟨⟨y4_kind,y4_text,y4_cols,y4_kids⟩,y5,y6⟩ =>
 (
  bif (y6 == 0) then (
   bif ((y5.length : Int) == 0) then (
    (zDi n [97,99,98,100]).bind fun ⟨y9_kind,y9_text,y9_cols,y9_kids⟩ =>
    (zBL n (Nd.mk y4_kind y4_text y4_cols y4_kids) (Nd.mk y9_kind y9_text y9_cols y9_kids)).bind fun y10 =>
    some y10
   ) else (
    some false
   )
  ) else (
   some false
  )
  : Option (Bool)).bind fun x7 =>
 some x7
def zGI (n : Nat) : Nd → Nd → Nd → Option Bool
| ⟨a1_kind,a1_text,a1_cols,a1_kids⟩,⟨b2_kind,b2_text,b2_cols,b2_kids⟩,⟨c3_kind,c3_text,c3_cols,c3_kids⟩ =>
 (
  (zFb n (Nd.mk a1_kind a1_text a1_cols a1_kids) 100).bind fun y5 =>
  bif y5 then (
   (zFb n (Nd.mk b2_kind b2_text b2_cols b2_kids) 100).bind fun y6 =>
   bif y6 then (
    (zFb n (Nd.mk c3_kind c3_text c3_cols c3_kids) 100).bind fun y7 =>
    some y7
   ) else (
    some false
   )
  ) else (
   some false
  )
  : Option (Bool)).bind fun x4 =>
 some x4
def zCl (n : Nat) : Nd → Nd → Nd → Bool → Option (Nd × Int)
| ⟨base1_kind,base1_text,base1_cols,base1_kids⟩,⟨x2_kind,x2_text,x2_cols,x2_kids⟩,⟨y3_kind,y3_text,y3_cols,y3_kids⟩,left4 =>
 (
  bif left4 then (
   some 1
  ) else (
   some 2
  )
  : Option (Int)).bind fun x5 =>
 (zBt n (x5,[]) (Nd.mk base1_kind base1_text base1_cols base1_kids) (Nd.mk x2_kind x2_text x2_cols x2_kids) (Nd.mk y3_kind y3_text y3_cols y3_kids)).bind fun ⟨⟨y6_kind,y6_text,y6_cols,y6_kids⟩,y7,⟨w8_take,w8_conflicts⟩⟩ =>
 some (Nd.mk y6_kind y6_text y6_cols y6_kids,y7)
end Go.Proofs.YtgfneloodabafaaGreatDoor
namespace Go.Proofs.YtgfneloodabafaaGreatDoor
open Go.Abs
def zBY (l1 : List (Int × Int)) (i2 : Int) : Nat → Int → Option (Fl Int Unit)
| 0,_ => none
| k+1,k3 =>
 bif decide (k3 < (l1.length : Int)) then (
  (at? l1 k3).bind fun ⟨e5_0,e5_1⟩ =>
  bif (e5_0 == i2) then (
   (at? l1 k3).bind fun ⟨e7_0,e7_1⟩ =>
   some (.ret e7_1)
  ) else (
   zBY l1 i2 k (IntKind.i64.wrap (k3 + 1))
  )
 ) else (
  some (.go ())
 )
def zDp (n : Nat) : (List (Int × Int)) → Int → Option Int
| l1,i2 =>
 (zBY l1 i2 n 0).bind fun fl => match fl with
 | .ret r => some r
 | .go _ =>
  some (-1)
def zBx (n : Nat) : (Int × List (List Int × Int × Int × List Nd × List Nd)) → (List Int) → Int → (List Nd) → (List Nd) → (List Nd) → Option ((List Nd) × (Int × List (List Int × Int × Int × List Nd × List Nd)))
| ⟨o1_side,o1_l⟩,path2,from3,base4,x5,y6 =>
 req (path2.length ≤ 4294967296 ∧ o1_l.length + 1 ≤ 4294967296) <|
 bif (o1_side == 0) then (
 some (base4,(o1_side,o1_l ++ [(path2,from3,IntKind.i64.wrap (from3 + (base4.length : Int)),x5,y6)]))
 ) else (
 bif (o1_side == 1) then (
  some (x5,(o1_side,o1_l ++ [(path2,from3,IntKind.i64.wrap (from3 + (base4.length : Int)),x5,y6)]))
 ) else (
  bif (o1_side == 2) then (
   some (y6,(o1_side,o1_l ++ [(path2,from3,IntKind.i64.wrap (from3 + (base4.length : Int)),x5,y6)]))
  ) else (
   none
  )
 )
 )
def zBM (n : Nat) : (Int × List (List Int × Int × Int × List Nd × List Nd)) → (List Int) → Int → (List Nd) → (List Nd) → (List Nd) → Option ((List Nd) × (Int × List (List Int × Int × Int × List Nd × List Nd)))
| ⟨o1_side,o1_l⟩,path2,from3,base4,x5,y6 =>
 (zBr n x5 base4).bind fun y7 =>
 bif y7 then (
  some (y6,(o1_side,o1_l))
 ) else (
  (
   (zBr n y6 base4).bind fun y9 =>
   bif y9 then (
    some true
   ) else (
    (zBr n y6 x5).bind fun y10 =>
    some y10
   )
   : Option (Bool)).bind fun x8 =>
  bif x8 then (
   some (x5,(o1_side,o1_l))
  ) else (
   (zBx n (o1_side,o1_l) path2 from3 base4 x5 y6).bind fun ⟨y11,⟨w12_side,w12_l⟩⟩ =>
   some (y11,(w12_side,w12_l))
  )
 )
def zBf (F_r17_merger_row : (Int × List (List Int × Int × Int × List Nd × List Nd)) → (List Int) → (List Nd) → (List Nd) → (List Nd) → Option ((List Nd) × (Int × List (List Int × Int × Int × List Nd × List Nd)))) (a2 : List Int) (a3 : Int) (a4_kids : List Nd) (a5_kids : List Nd) (a6_kids : List Nd) : Nat → Int → Int → (List (List Int × Int × Int × List Nd × List Nd)) → (List Nd) → Option (Int × (List (List Int × Int × Int × List Nd × List Nd)) × (List Nd))
| 0,_,_,_,_ => none
| k+1,x16,x20,l21,l22 =>
 bif decide (x20 < (a4_kids.length : Int)) then (
  req (([] : List Int).length + a2.length ≤ 4294967296) <|
  req (a2.length + [a3,x20].length ≤ 4294967296) <|
  (at? a4_kids x20).bind fun ⟨e28_kind,e28_text,e28_cols,e28_kids⟩ =>
  (at? a5_kids x20).bind fun ⟨e30_kind,e30_text,e30_cols,e30_kids⟩ =>
  (at? a6_kids x20).bind fun ⟨e32_kind,e32_text,e32_cols,e32_kids⟩ =>
  (F_r17_merger_row (x16,l21) (a2 ++ [a3,x20]) e28_kids e30_kids e32_kids).bind fun ⟨y34,⟨w35_side,w35_l⟩⟩ =>
  (zEc y34).bind fun ⟨y36_kind,y36_text,y36_cols,y36_kids⟩ =>
  req (l22.length + [Nd.mk y36_kind y36_text y36_cols y36_kids].length ≤ 4294967296) <|
  zBf F_r17_merger_row a2 a3 a4_kids a5_kids a6_kids k w35_side (IntKind.i64.wrap (x20 + 1)) w35_l (l22 ++ [Nd.mk y36_kind y36_text y36_cols y36_kids])
 ) else (
  some (x16,l21,l22)
 )
def zBb (F_r17_merger_item : (Int × List (List Int × Int × Int × List Nd × List Nd)) → (List Int) → Int → Nd → Nd → Nd → Option (Nd × (Int × List (List Int × Int × Int × List Nd × List Nd)))) (n : Nat) (a2 : List Int) (a3 : List Nd) (a4 : List Nd) (a5 : List Nd) (y6 : List (Int × Int)) (y7 : List (Int × Int)) : Nat → Int → Int → Int → Int → Int → (List (List Int × Int × Int × List Nd × List Nd)) → (List Nd) → Option (Int × Int × Int × Int × (List (List Int × Int × Int × List Nd × List Nd)) × (List Nd))
| 0,_,_,_,_,_,_,_ => none
| k+1,x8,x11,x12,x13,x14,l15,l16 =>
 bif decide (x14 < (a3.length : Int)) then (
  (
   (zDp n y6 x14).bind fun y30 =>
   (zDp n y7 x14).bind fun y31 =>
   (
    bif decide (y30 < 0) then (
     some true
    ) else (
     some (decide (y31 < 0))
    )
    : Option (Bool)).bind fun x32 =>
   bif x32 then (
    some (x11,x12,x13,x8,l15,l16)
   ) else (
    req (0 ≤ x11 ∧ x11 ≤ x14 ∧ x14 ≤ (a3.length : Int)) <|
    req (0 ≤ x12 ∧ x12 ≤ y30 ∧ y30 ≤ (a4.length : Int)) <|
    req (0 ≤ x13 ∧ x13 ≤ y31 ∧ y31 ≤ (a5.length : Int)) <|
    (zBM n (x8,l15) a2 x11 ((a3.take x14.toNat).drop x11.toNat) ((a4.take y30.toNat).drop x12.toNat) ((a5.take y31.toNat).drop x13.toNat)).bind fun ⟨y36,⟨w37_side,w37_l⟩⟩ =>
    req (l16.length + y36.length ≤ 4294967296) <|
    (at? a3 x14).bind fun ⟨e38_kind,e38_text,e38_cols,e38_kids⟩ =>
    (at? a4 y30).bind fun ⟨e40_kind,e40_text,e40_cols,e40_kids⟩ =>
    (at? a5 y31).bind fun ⟨e42_kind,e42_text,e42_cols,e42_kids⟩ =>
    (F_r17_merger_item (w37_side,w37_l) a2 x14 (Nd.mk e38_kind e38_text e38_cols e38_kids) (Nd.mk e40_kind e40_text e40_cols e40_kids) (Nd.mk e42_kind e42_text e42_cols e42_kids)).bind fun ⟨⟨y44_kind,y44_text,y44_cols,y44_kids⟩,⟨w45_side,w45_l⟩⟩ =>
    req ((l16 ++ y36).length + [Nd.mk y44_kind y44_text y44_cols y44_kids].length ≤ 4294967296) <|
    some (IntKind.i64.wrap (x14 + 1),IntKind.i64.wrap (y30 + 1),IntKind.i64.wrap (y31 + 1),w45_side,w45_l,(l16 ++ y36) ++ [Nd.mk y44_kind y44_text y44_cols y44_kids])
   )
   : Option (Int × Int × Int × Int × (List (List Int × Int × Int × List Nd × List Nd)) × (List Nd))).bind fun ⟨x24,x25,x26,x27,l28,l29⟩ =>
  zBb F_r17_merger_item n a2 a3 a4 a5 y6 y7 k x27 x24 x25 x26 (IntKind.i64.wrap (x14 + 1)) l28 l29
 ) else (
  some (x11,x12,x13,x8,l15,l16)
 )
mutual
def zBn : Nat → (Int × List (List Int × Int × Int × List Nd × List Nd)) → (List Int) → Int → Nd → Nd → Nd → Option (Nd × (Int × List (List Int × Int × Int × List Nd × List Nd)))
| 0,_,_,_,_,_,_ => none
| n+1,⟨o1_side,o1_l⟩,a2,a3,⟨a4_kind,a4_text,a4_cols,a4_kids⟩,⟨a5_kind,a5_text,a5_cols,a5_kids⟩,⟨a6_kind,a6_text,a6_cols,a6_kids⟩ =>
 (
  bif (a5_text == a4_text) then (
   some (.go a6_text)
  ) else (
   (
    bif (!(a6_text == a4_text)) then (
     some (!(a6_text == a5_text))
    ) else (
     some false
    )
    : Option (Bool)).bind fun x8 =>
   bif x8 then (
    (zBx n (o1_side,o1_l) a2 a3 [Nd.mk a4_kind a4_text a4_cols a4_kids] [Nd.mk a5_kind a5_text a5_cols a5_kids] [Nd.mk a6_kind a6_text a6_cols a6_kids]).bind fun ⟨y12,⟨w13_side,w13_l⟩⟩ =>
    (at? y12 0).bind fun ⟨e14_kind,e14_text,e14_cols,e14_kids⟩ =>
    some (.ret (Nd.mk e14_kind e14_text e14_cols e14_kids,(w13_side,w13_l)))
   ) else (
    some (.go a5_text)
   )
  )
  : Option (Fl (Nd × (Int × List (List Int × Int × Int × List Nd × List Nd))) ((List UInt8)))).bind fun fl => match fl with
 | .ret r => some r
 | .go x7 =>
  (zBf (zBd n) a2 a3 a4_kids a5_kids a6_kids n o1_side 0 o1_l []).bind fun ⟨x23,l24,l25⟩ =>
  some (Nd.mk a4_kind x7 a4_cols l25,(x23,l24))
def zBd : Nat → (Int × List (List Int × Int × Int × List Nd × List Nd)) → (List Int) → (List Nd) → (List Nd) → (List Nd) → Option ((List Nd) × (Int × List (List Int × Int × Int × List Nd × List Nd)))
| 0,_,_,_,_,_ => none
| n+1,⟨o1_side,o1_l⟩,a2,a3,a4,a5 =>
 (zEd n a3 a4).bind fun y6 =>
 (zEd n a3 a5).bind fun y7 =>
 (zBb (zBn n) n a2 a3 a4 a5 y6 y7 n o1_side 0 0 0 0 o1_l []).bind fun ⟨x17,x18,x19,x20,l21,l22⟩ =>
 req (0 ≤ x17 ∧ x17 ≤ (a3.length : Int) ∧ (a3.length : Int) ≤ (a3.length : Int)) <|
 req (0 ≤ x18 ∧ x18 ≤ (a4.length : Int) ∧ (a4.length : Int) ≤ (a4.length : Int)) <|
 req (0 ≤ x19 ∧ x19 ≤ (a5.length : Int) ∧ (a5.length : Int) ≤ (a5.length : Int)) <|
 (zBM n (x20,l21) a2 x17 ((a3.take (a3.length : Int).toNat).drop x17.toNat) ((a4.take (a4.length : Int).toNat).drop x18.toNat) ((a5.take (a5.length : Int).toNat).drop x19.toNat)).bind fun ⟨y50,⟨w51_side,w51_l⟩⟩ =>
 req (l22.length + y50.length ≤ 4294967296) <|
 some (l22 ++ y50,(w51_side,w51_l))
end
def zEe (n : Nat) : Nd → Nd → Nd → Int → Option (Nd × (List (List Int × Int × Int × List Nd × List Nd)) × Int)
| ⟨base1_kind,base1_text,base1_cols,base1_kids⟩,⟨x2_kind,x2_text,x2_cols,x2_kids⟩,⟨y3_kind,y3_text,y3_cols,y3_kids⟩,side4 =>
 (
  (zC6 n (Nd.mk base1_kind base1_text base1_cols base1_kids)).bind fun y6 =>
  bif (!y6) then (
   some true
  ) else (
   (zC6 n (Nd.mk x2_kind x2_text x2_cols x2_kids)).bind fun y7 =>
   bif (!y7) then (
    some true
   ) else (
    (zC6 n (Nd.mk y3_kind y3_text y3_cols y3_kids)).bind fun y8 =>
    some (!y8)
   )
  )
  : Option (Bool)).bind fun x5 =>
 bif x5 then (
  some (Nd.mk 0 [] 0 [],[],1)
 ) else (
  (zBd n (side4,[]) [] base1_kids x2_kids y3_kids).bind fun ⟨y9,⟨w10_side,w10_l⟩⟩ =>
  (zEc y9).bind fun ⟨y11_kind,y11_text,y11_cols,y11_kids⟩ =>
  (zC6 n (Nd.mk y11_kind y11_text y11_cols y11_kids)).bind fun y12 =>
  bif (!y12) then (
   some (Nd.mk 0 [] 0 [],[],6)
  ) else (
   some (Nd.mk y11_kind y11_text y11_cols y11_kids,w10_l,0)
  )
 )
def zC9 (n : Nat) : Nd → Nd → Nd → Bool → Option (Nd × Int)
| ⟨base1_kind,base1_text,base1_cols,base1_kids⟩,⟨x2_kind,x2_text,x2_cols,x2_kids⟩,⟨y3_kind,y3_text,y3_cols,y3_kids⟩,left4 =>
 (
  bif left4 then (
   some 1
  ) else (
   some 2
  )
  : Option (Int)).bind fun side5 =>
 (zEe n (Nd.mk base1_kind base1_text base1_cols base1_kids) (Nd.mk x2_kind x2_text x2_cols x2_kids) (Nd.mk y3_kind y3_text y3_cols y3_kids) side5).bind fun ⟨⟨y6_kind,y6_text,y6_cols,y6_kids⟩,y7,y8⟩ =>
 some (Nd.mk y6_kind y6_text y6_cols y6_kids,y8)
def zCU (n : Nat) : Nd → Nd → Nd → Option Bool
| ⟨a1_kind,a1_text,a1_cols,a1_kids⟩,⟨a2_kind,a2_text,a2_cols,a2_kids⟩,⟨a3_kind,a3_text,a3_cols,a3_kids⟩ =>
 (zF9 n ).bind fun y4 =>
 bif (!y4) then (
  some false
 ) else (
  (zGI n (Nd.mk a1_kind a1_text a1_cols a1_kids) (Nd.mk a2_kind a2_text a2_cols a2_kids) (Nd.mk a3_kind a3_text a3_cols a3_kids)).bind fun y5 =>
  bif (!y5) then (
   some true
  ) else (
   (zCl n (Nd.mk a1_kind a1_text a1_cols a1_kids) (Nd.mk a2_kind a2_text a2_cols a2_kids) (Nd.mk a3_kind a3_text a3_cols a3_kids) true).bind fun ⟨⟨y6_kind,y6_text,y6_cols,y6_kids⟩,y7⟩ =>
   (zC9 n (Nd.mk a1_kind a1_text a1_cols a1_kids) (Nd.mk a2_kind a2_text a2_cols a2_kids) (Nd.mk a3_kind a3_text a3_cols a3_kids) true).bind fun ⟨⟨y8_kind,y8_text,y8_cols,y8_kids⟩,y9⟩ =>
   (zCl n (Nd.mk a1_kind a1_text a1_cols a1_kids) (Nd.mk a2_kind a2_text a2_cols a2_kids) (Nd.mk a3_kind a3_text a3_cols a3_kids) false).bind fun ⟨⟨y10_kind,y10_text,y10_cols,y10_kids⟩,y11⟩ =>
   (zC9 n (Nd.mk a1_kind a1_text a1_cols a1_kids) (Nd.mk a2_kind a2_text a2_cols a2_kids) (Nd.mk a3_kind a3_text a3_cols a3_kids) false).bind fun ⟨⟨y12_kind,y12_text,y12_cols,y12_kids⟩,y13⟩ =>
   (
    bif (y7 == y9) then (
     bif (y11 == y13) then (
      (zBL n (Nd.mk y6_kind y6_text y6_cols y6_kids) (Nd.mk y8_kind y8_text y8_cols y8_kids)).bind fun y15 =>
      bif y15 then (
       (zBL n (Nd.mk y10_kind y10_text y10_cols y10_kids) (Nd.mk y12_kind y12_text y12_cols y12_kids)).bind fun y16 =>
       some y16
      ) else (
       some false
      )
     ) else (
      some false
     )
    ) else (
     some false
    )
    : Option (Bool)).bind fun x14 =>
   some x14
  )
 )
end Go.Proofs.YtgfneloodabafaaGreatDoor
