/-
  Joined out of: MNod, MCnt, AbsS, AbsT, AbsU, AbsV, AbsW, AbsX, MOwn, DzA, LibS, LibI, LibB, LibD, MEd, MEj, MMg, MDe, MDf.
-/
import Derived.Test.YtjdhkpdjecegnaaGreatDoorProg
import Derived.KernelRfl
import Derived.Lib.Strings
import Derived.Lib.Slices
import Derived.Lib.Walk
import Derived.Lib.Bytealg
import Derived.Shelf.LaysM
import Derived.Shelf.Strconv.Itoa3
import Derived.Lib.Builder
import Derived.Lib.AppendStr
import Derived.Lib.UnsafeStr
import Derived.Laws.Externs
import Derived.Shelf.RegionOpenPlain
import Derived.Test.YtjdhkpdjecegnaaGreatDoorZb
set_option linter.unusedVariables false
set_option linter.unusedSimpArgs false
set_option maxHeartbeats 2000000
set_option maxRecDepth 100000
namespace Go.Proofs.YtjdhkpdjecegnaaGreatDoor
open Go.Abs
def zBR : (List UInt8) → Option Bool
| s1 =>
 some (s1 == [])
def zBo (s1 : List UInt8) : Nat → Int → Option (Fl Bool Unit)
| 0,_ => none
| k+1,i2 =>
 bif decide (i2 < (s1.length : Int)) then (
  (at? s1 i2).bind fun c3 =>
  (
   bif decide ((zKe .or .u8 (c3.toNat : Int) 32) < 97) then (
    some true
   ) else (
    some (decide (122 < (zKe .or .u8 (c3.toNat : Int) 32)))
   )
   : Option (Bool)).bind fun x5 =>
  bif x5 then (
   some (.ret false)
  ) else (
   zBo s1 k (IntKind.i64.wrap (i2 + 1))
  )
 ) else (
  some (.go ())
 )
def zCJ (n : Nat) : (List UInt8) → Option Bool
| s1 =>
 (zBo s1 n 0).bind fun fl => match fl with
 | .ret r => some r
 | .go _ =>
  some true
def zDi : (List UInt8) → Option Bool
| s1 =>
 (
  (
   bif (s1 == [102,114,97,99]) then (
    some (s1 == [102,114,97,99])
   ) else (
    bif (s1 == [114,111,111,116]) then (
     some (s1 == [114,111,111,116])
    ) else (
     bif (s1 == [109,97,116,114,105,120]) then (
      some (s1 == [109,97,116,114,105,120])
     ) else (
      some (s1 == [102,101,110,99,101])
     )
    )
   )
   : Option (Bool)).bind fun x2 =>
  bif x2 then (
   some (.ret true)
  ) else (
   some (.go ())
  )
  : Option (Fl Bool Unit)).bind fun fl => match fl with
 | .ret r => some r
 | .go _ =>
  some false
def zC5 : (List UInt8) → Option Bool
| s1 =>
 (
  (
   bif (s1 == [104,97,116]) then (
    some (s1 == [104,97,116])
   ) else (
    bif (s1 == [98,97,114]) then (
     some (s1 == [98,97,114])
    ) else (
     bif (s1 == [118,101,99]) then (
      some (s1 == [118,101,99])
     ) else (
      bif (s1 == [100,111,116]) then (
       some (s1 == [100,111,116])
      ) else (
       bif (s1 == [116,105,108,100,101]) then (
        some (s1 == [116,105,108,100,101])
       ) else (
        some (s1 == [99,104,101,99,107])
       )
      )
     )
    )
   )
   : Option (Bool)).bind fun x2 =>
  bif x2 then (
   some (.ret true)
  ) else (
   some (.go ())
  )
  : Option (Fl Bool Unit)).bind fun fl => match fl with
 | .ret r => some r
 | .go _ =>
  some false
def zDI (n : Nat) : (List UInt8) → Option Bool
| s1 =>
 bif ((s1.length : Int) == 1) then (
  (
   (zCJ n s1).bind fun y3 =>
   bif y3 then (
    some true
   ) else (
    (zDM [43,45,42,47,61,60,62,44,59,58,33,124,39,63,126,64] s1).bind fun y4 =>
    some y4
   )
   : Option (Bool)).bind fun x2 =>
  some x2
 ) else (
  (
   bif decide (2 ≤ (s1.length : Int)) then (
    bif decide ((s1.length : Int) ≤ 16) then (
     (zCJ n s1).bind fun y6 =>
     bif y6 then (
      (zDi s1).bind fun y7 =>
      bif (!y7) then (
       (zC5 s1).bind fun y8 =>
       some (!y8)
      ) else (
       some false
      )
     ) else (
      some false
     )
    ) else (
     some false
    )
   ) else (
    some false
   )
   : Option (Bool)).bind fun x5 =>
  some x5
 )
def zCk : (List UInt8) → (List UInt8) → Option ((List UInt8) × (List UInt8) × Bool)
| s1,sep2 =>
 (zDn s1 sep2).bind fun y3 =>
 bif decide (0 ≤ y3) then (
  req (0 ≤ (0 : Int) ∧ (0 : Int) ≤ y3 ∧ y3 ≤ (s1.length : Int)) <|
  req (0 ≤ (IntKind.i64.wrap (y3 + (sep2.length : Int))) ∧ (IntKind.i64.wrap (y3 + (sep2.length : Int))) ≤ (s1.length : Int) ∧ (s1.length : Int) ≤ (s1.length : Int)) <|
  some ((s1.take y3.toNat).drop (0 : Int).toNat,(s1.take (s1.length : Int).toNat).drop (IntKind.i64.wrap (y3 + (sep2.length : Int))).toNat,true)
 ) else (
  some (s1,[],false)
 )
def zDN : (List UInt8) → (List UInt8) → Option ((List UInt8) × (List UInt8) × Bool)
| s1,sep2 =>
 (zCk s1 sep2).bind fun ⟨y3,y4,y5⟩ =>
 some (y3,y4,y5)
def zBy (s1 : List UInt8) : Nat → Int → Option (Fl Bool Unit)
| 0,_ => none
| k+1,i2 =>
 bif decide (i2 < (s1.length : Int)) then (
  (
   (at? s1 i2).bind fun c4 =>
   bif decide ((c4.toNat : Int) < 48) then (
    some true
   ) else (
    (at? s1 i2).bind fun c6 =>
    some (decide (57 < (c6.toNat : Int)))
   )
   : Option (Bool)).bind fun x3 =>
  bif x3 then (
   some (.ret false)
  ) else (
   zBy s1 k (IntKind.i64.wrap (i2 + 1))
  )
 ) else (
  some (.go ())
 )
def zC6 (n : Nat) : (List UInt8) → Option Bool
| s1 =>
 (zBy s1 n 0).bind fun fl => match fl with
 | .ret r => some r
 | .go _ =>
  some (!(s1 == []))
def zC4 (n : Nat) : (List UInt8) → Option Bool
| s1 =>
 (zDN s1 [46]).bind fun ⟨y2,y3,y4⟩ =>
 (
  bif decide ((s1.length : Int) ≤ 20) then (
   (zC6 n y2).bind fun y6 =>
   bif y6 then (
    bif (!y4) then (
     some true
    ) else (
     (zC6 n y3).bind fun y7 =>
     some y7
    )
   ) else (
    some false
   )
  ) else (
   some false
  )
  : Option (Bool)).bind fun x5 =>
 some x5
def zBF (s1 : List UInt8) : Nat → Int → Option (Fl Bool Unit)
| 0,_ => none
| k+1,i2 =>
 bif decide (i2 < (s1.length : Int)) then (
  (
   (at? s1 i2).bind fun c4 =>
   bif decide ((c4.toNat : Int) < 32) then (
    some true
   ) else (
    (at? s1 i2).bind fun c6 =>
    some (decide (126 < (c6.toNat : Int)))
   )
   : Option (Bool)).bind fun x3 =>
  bif x3 then (
   some (.ret false)
  ) else (
   zBF s1 k (IntKind.i64.wrap (i2 + 1))
  )
 ) else (
  some (.go ())
 )
def zEh (n : Nat) : (List UInt8) → Option Bool
| s1 =>
 (zBF s1 n 0).bind fun fl => match fl with
 | .ret r => some r
 | .go _ =>
  some (decide ((s1.length : Int) ≤ 200))
def zEg : (List UInt8) → Option Bool
| s1 =>
 (
  bif ((s1.length : Int) == 2) then (
   (at? s1 0).bind fun c3 =>
   (zCz [40,41,91,93,123,125,60,62,47,124,46] (c3.toNat : Int)).bind fun y5 =>
   bif decide (0 ≤ y5) then (
    (at? s1 1).bind fun c6 =>
    (zCz [40,41,91,93,123,125,60,62,47,124,46] (c6.toNat : Int)).bind fun y8 =>
    some (decide (0 ≤ y8))
   ) else (
    some false
   )
  ) else (
   some false
  )
  : Option (Bool)).bind fun x2 =>
 some x2
def zDx : Option Unit
:=
 some ()
def zB5 (n : Nat) : (Unit × Int) → Nd → Option (Bool × (Unit × Int))
| ⟨_,o1_nodes⟩,⟨a2_kind,a2_text,a2_cols,a2_kids⟩ =>
 (
  bif decide (a2_kind < 1) then (
   some true
  ) else (
   bif decide (12 < a2_kind) then (
    some true
   ) else (
    bif (a2_kind == 1) then (
     (zBR a2_text).bind fun y4 =>
     some (!y4)
    ) else (
     bif (a2_kind == 2) then (
      (zDI n a2_text).bind fun y5 =>
      some (!y5)
     ) else (
      bif (a2_kind == 3) then (
       (zC4 n a2_text).bind fun y6 =>
       some (!y6)
      ) else (
       bif (a2_kind == 4) then (
        (zEh n a2_text).bind fun y7 =>
        some (!y7)
       ) else (
        bif (a2_kind == 5) then (
         (zBR a2_text).bind fun y8 =>
         some (!y8)
        ) else (
         bif (a2_kind == 6) then (
          (zBR a2_text).bind fun y9 =>
          some (!y9)
         ) else (
          bif (a2_kind == 7) then (
           (zBR a2_text).bind fun y10 =>
           some (!y10)
          ) else (
           bif (a2_kind == 8) then (
            (zBR a2_text).bind fun y11 =>
            some (!y11)
           ) else (
            bif (a2_kind == 9) then (
             (zBR a2_text).bind fun y12 =>
             some (!y12)
            ) else (
             bif (a2_kind == 10) then (
              (zC5 a2_text).bind fun y13 =>
              some (!y13)
             ) else (
              bif (a2_kind == 11) then (
               (zEg a2_text).bind fun y14 =>
               some (!y14)
              ) else (
               bif (a2_kind == 12) then (
                (zBR a2_text).bind fun y15 =>
                some (!y15)
               ) else (
                none
               )
              )
             )
            )
           )
          )
         )
        )
       )
      )
     )
    )
   )
  )
  : Option (Bool)).bind fun x3 =>
 bif x3 then (
  some (false,((),o1_nodes))
 ) else (
  bif (a2_kind == 1) then (
   (
    bif (a2_cols == 0) then (
     some (decide ((a2_kids.length : Int) ≤ 200))
    ) else (
     some false
    )
    : Option (Bool)).bind fun x16 =>
   some (x16,((),o1_nodes))
  ) else (
   bif (a2_kind == 12) then (
    (
     bif decide (1 ≤ a2_cols) then (
      bif decide (a2_cols ≤ 16) then (
       bif decide (1 ≤ (a2_kids.length : Int)) then (
        bif decide ((a2_kids.length : Int) ≤ 256) then (
         req (a2_cols ≠ 0) <|
         some (((a2_kids.length : Int).tmod a2_cols) == 0)
        ) else (
         some false
        )
       ) else (
        some false
       )
      ) else (
       some false
      )
     ) else (
      some false
     )
     : Option (Bool)).bind fun x18 =>
    some (x18,((),o1_nodes))
   ) else (
    (
     bif (a2_cols == 0) then (
      bif (a2_kind == 1) then (
       some ((a2_kids.length : Int) == 0)
      ) else (
       bif (a2_kind == 2) then (
        some ((a2_kids.length : Int) == 0)
       ) else (
        bif (a2_kind == 3) then (
         some ((a2_kids.length : Int) == 0)
        ) else (
         bif (a2_kind == 4) then (
          some ((a2_kids.length : Int) == 0)
         ) else (
          bif (a2_kind == 5) then (
           some ((a2_kids.length : Int) == 2)
          ) else (
           bif (a2_kind == 6) then (
            some ((a2_kids.length : Int) == 2)
           ) else (
            bif (a2_kind == 7) then (
             some ((a2_kids.length : Int) == 2)
            ) else (
             bif (a2_kind == 8) then (
              some ((a2_kids.length : Int) == 2)
             ) else (
              bif (a2_kind == 9) then (
               some ((a2_kids.length : Int) == 3)
              ) else (
               bif (a2_kind == 10) then (
                some ((a2_kids.length : Int) == 1)
               ) else (
                bif (a2_kind == 11) then (
                 some ((a2_kids.length : Int) == 1)
                ) else (
                 bif (a2_kind == 12) then (
                  some ((a2_kids.length : Int) == 0)
                 ) else (
                  none
                 )
                )
               )
              )
             )
            )
           )
          )
         )
        )
       )
      )
     ) else (
      some false
     )
     : Option (Bool)).bind fun x22 =>
    some (x22,((),o1_nodes))
   )
  )
 )
def zAY (F_node_checker_node : (Unit × Int) → Nd → Int → Option (Bool × (Unit × Int))) (a2_kind : Int) (a2_kids : List Nd) (a3 : Int) : Nat → Int → Int → Option (Fl (Bool × (Unit × Int)) (Int))
| 0,_,_ => none
| k+1,x9,x10 =>
 bif decide (x10 < (a2_kids.length : Int)) then (
  (
   (at? a2_kids x10).bind fun ⟨e14_kind,e14_text,e14_cols,e14_kids⟩ =>
   bif ((a2_kind == 1) == (e14_kind == 1)) then (
    some (true,x9)
   ) else (
    (at? a2_kids x10).bind fun ⟨e16_kind,e16_text,e16_cols,e16_kids⟩ =>
    (F_node_checker_node ((),x9) (Nd.mk e16_kind e16_text e16_cols e16_kids) (IntKind.i64.wrap (a3 + 1))).bind fun ⟨y18,⟨_,w19_nodes⟩⟩ =>
    some ((!y18),w19_nodes)
   )
   : Option (Bool × Int)).bind fun ⟨x12,x13⟩ =>
  bif x12 then (
   some (.ret (false,((),x13)))
  ) else (
   zAY F_node_checker_node a2_kind a2_kids a3 k x13 (IntKind.i64.wrap (x10 + 1))
  )
 ) else (
  some (.go x9)
 )
def zA3 : Nat → (Unit × Int) → Nd → Int → Option (Bool × (Unit × Int))
| 0,_,_,_ => none
| n+1,⟨_,o1_nodes⟩,⟨a2_kind,a2_text,a2_cols,a2_kids⟩,a3 =>
 (
  bif decide (1000 < (IntKind.i64.wrap (o1_nodes + 1))) then (
   some (true,IntKind.i64.wrap (o1_nodes + 1))
  ) else (
   bif decide (24 < a3) then (
    some (true,IntKind.i64.wrap (o1_nodes + 1))
   ) else (
    (zB5 n ((),IntKind.i64.wrap (o1_nodes + 1)) (Nd.mk a2_kind a2_text a2_cols a2_kids)).bind fun ⟨y6,⟨_,w7_nodes⟩⟩ =>
    some ((!y6),w7_nodes)
   )
  )
  : Option (Bool × Int)).bind fun ⟨x4,x5⟩ =>
 bif x4 then (
  some (false,((),x5))
 ) else (
  (zAY (zA3 n) a2_kind a2_kids a3 n x5 0).bind fun fl => match fl with
  | .ret r => some r
  | .go x11 =>
   some (true,((),x11))
 )
def zDw (n : Nat) : Nd → Option Bool
| ⟨n1_kind,n1_text,n1_cols,n1_kids⟩ =>
 (zDx ).bind fun _ =>
 (
  bif (n1_kind == 1) then (
   (zA3 n ((),0) (Nd.mk n1_kind n1_text n1_cols n1_kids) 1).bind fun ⟨y4,⟨_,w5_nodes⟩⟩ =>
   some y4
  ) else (
   some false
  )
  : Option (Bool)).bind fun x3 =>
 some x3
def zD7 : Int → Int → Option Int
| a1,o2 =>
 some (IntKind.i64.wrap (o2 + 1))
def zCa (e9_node_kids : List Nd) (e9_depth : Int) : Nat → Int → (List (Nd × Int)) → Option ((List (Nd × Int)))
| 0,_,_ => none
| k+1,x13,l15 =>
 bif decide (x13 < (e9_node_kids.length : Int)) then (
  (at? e9_node_kids x13).bind fun ⟨e17_kind,e17_text,e17_cols,e17_kids⟩ =>
  req (l15.length + [(Nd.mk e17_kind e17_text e17_cols e17_kids,IntKind.i64.wrap (e9_depth + 1))].length ≤ 4294967296) <|
  zCa e9_node_kids e9_depth k (IntKind.i64.wrap (x13 + 1)) (l15 ++ [(Nd.mk e17_kind e17_text e17_cols e17_kids,IntKind.i64.wrap (e9_depth + 1))])
 ) else (
  some l15
 )
def zB9 (n : Nat) : Nat → Int → (List (Nd × Int)) → Option (Int)
| 0,_,_ => none
| k+1,x3,l5 =>
 bif decide (0 < (l5.length : Int)) then (
  (at? l5 (IntKind.i64.wrap ((l5.length : Int) - 1))).bind fun ⟨⟨e9_node_kind,e9_node_text,e9_node_cols,e9_node_kids⟩,e9_depth⟩ =>
  req (0 ≤ IntKind.i64.wrap ((l5.length : Int) - 1) ∧ IntKind.i64.wrap ((l5.length : Int) - 1) ≤ (l5.length : Int)) <|
  (zD7 e9_depth x3).bind fun w11 =>
  (zCa e9_node_kids e9_depth n 0 (l5.take (IntKind.i64.wrap ((l5.length : Int) - 1)).toNat)).bind fun l16 =>
  zB9 n k w11 l16
 ) else (
  some x3
 )
def zFV (n : Nat) : Nd → Int → Option Int
| ⟨n1_kind,n1_text,n1_cols,n1_kids⟩,o2 =>
 (zB9 n n o2 [(Nd.mk n1_kind n1_text n1_cols n1_kids,1)]).bind fun x6 =>
 some x6
def zEf (n : Nat) : Nd → Option Int
| ⟨n1_kind,n1_text,n1_cols,n1_kids⟩ =>
 (zFV n (Nd.mk n1_kind n1_text n1_cols n1_kids) 0).bind fun w2 =>
 some w2
def zDy : Int → Option Bool
| c1 =>
 (
  bif decide (97 ≤ c1) then (
   bif decide (c1 ≤ 122) then (
    some true
   ) else (
    bif decide (65 ≤ c1) then (
     some (decide (c1 ≤ 90))
    ) else (
     some false
    )
   )
  ) else (
   bif decide (65 ≤ c1) then (
    some (decide (c1 ≤ 90))
   ) else (
    some false
   )
  )
  : Option (Bool)).bind fun x2 =>
 some x2
def zCp (s1 : List UInt8) (c2 : Int) : Nat → Int → Option (Fl Bool Unit)
| 0,_ => none
| k+1,i3 =>
 bif decide (i3 < (s1.length : Int)) then (
  (at? s1 i3).bind fun c4 =>
  bif ((c4.toNat : Int) == c2) then (
   some (.ret true)
  ) else (
   zCp s1 c2 k (IntKind.i64.wrap (i3 + 1))
  )
 ) else (
  some (.go ())
 )
def zCX (n : Nat) : (List UInt8) → Int → Option Bool
| s1,c2 =>
 (zCp s1 c2 n 0).bind fun fl => match fl with
 | .ret r => some r
 | .go _ =>
  some false
def zDJ (n : Nat) : Int → Option Bool
| c1 =>
 (
  (zDy c1).bind fun y3 =>
  bif y3 then (
   some true
  ) else (
   (zCX n [43,45,42,47,61,60,62,44,59,58,33,124,39,63,126,64] c1).bind fun y4 =>
   some y4
  )
  : Option (Bool)).bind fun x2 =>
 some x2
def zD9 : Option (List (List UInt8))
:=
 some [[102,114,97,99],[114,111,111,116],[109,97,116,114,105,120],[102,101,110,99,101]]
def zCV (l1 : List (List UInt8)) (s2 : List UInt8) : Nat → Int → Option (Fl Bool Unit)
| 0,_ => none
| k+1,i3 =>
 bif decide (i3 < (l1.length : Int)) then (
  (at? l1 i3).bind fun e5 =>
  bif (e5 == s2) then (
   some (.ret true)
  ) else (
   zCV l1 s2 k (IntKind.i64.wrap (i3 + 1))
  )
 ) else (
  some (.go ())
 )
def zD8 (n : Nat) : (List (List UInt8)) → (List UInt8) → Option Bool
| l1,s2 =>
 (zCV l1 s2 n 0).bind fun fl => match fl with
 | .ret r => some r
 | .go _ =>
  some false
def zC7 : Option (List (List UInt8))
:=
 some [[104,97,116],[98,97,114],[118,101,99],[100,111,116],[116,105,108,100,101],[99,104,101,99,107]]
def zBu (s1 : List UInt8) : Nat → Int → Option (Fl Bool Unit)
| 0,_ => none
| k+1,i5 =>
 bif decide (i5 < (s1.length : Int)) then (
  (at? s1 i5).bind fun c6 =>
  (zDy (c6.toNat : Int)).bind fun y8 =>
  bif (!y8) then (
   some (.ret false)
  ) else (
   zBu s1 k (IntKind.i64.wrap (i5 + 1))
  )
 ) else (
  some (.go ())
 )
def zEk (n : Nat) : (List UInt8) → Option Bool
| s1 =>
 bif ((s1.length : Int) == 1) then (
  (at? s1 0).bind fun c2 =>
  (zDJ n (c2.toNat : Int)).bind fun y4 =>
  some y4
 ) else (
  (zBu s1 n 0).bind fun fl => match fl with
  | .ret r => some r
  | .go _ =>
   (
    bif decide (2 ≤ (s1.length : Int)) then (
     bif decide ((s1.length : Int) ≤ 16) then (
      (zD9 ).bind fun y10 =>
      (zD8 n y10 s1).bind fun y11 =>
      bif (!y11) then (
       (zC7 ).bind fun y12 =>
       (zD8 n y12 s1).bind fun y13 =>
       some (!y13)
      ) else (
       some false
      )
     ) else (
      some false
     )
    ) else (
     some false
    )
    : Option (Bool)).bind fun x9 =>
   some x9
 )
def zEZ : Int → Option Bool
| c1 =>
 (
  bif decide (48 ≤ c1) then (
   some (decide (c1 ≤ 57))
  ) else (
   some false
  )
  : Option (Bool)).bind fun x2 =>
 some x2
def zBY (s1 : List UInt8) : Nat → Int → Int → Option (Fl Bool (Int))
| 0,_,_ => none
| k+1,points2,i3 =>
 bif decide (i3 < (s1.length : Int)) then (
  (
   (
    (at? s1 i3).bind fun c7 =>
    bif ((c7.toNat : Int) == 46) then (
     bif decide (0 < i3) then (
      some (decide (i3 < (IntKind.i64.wrap ((s1.length : Int) - 1))))
     ) else (
      some false
     )
    ) else (
     some false
    )
    : Option (Bool)).bind fun x6 =>
   bif x6 then (
    some (.go (IntKind.i64.wrap (points2 + 1)))
   ) else (
    (at? s1 i3).bind fun c9 =>
    (zEZ (c9.toNat : Int)).bind fun y11 =>
    bif (!y11) then (
     some (.ret false)
    ) else (
     some (.go points2)
    )
   )
   : Option (Fl Bool (Int))).bind fun fl => match fl with
  | .ret r => some (.ret r)
  | .go points5 =>
   zBY s1 k points5 (IntKind.i64.wrap (i3 + 1))
 ) else (
  some (.go points2)
 )
def zEi (n : Nat) : (List UInt8) → Option Bool
| s1 =>
 (zBY s1 n 0 0).bind fun fl => match fl with
 | .ret r => some r
 | .go points4 =>
  (
   bif decide (0 < (s1.length : Int)) then (
    bif decide ((s1.length : Int) ≤ 20) then (
     some (decide (points4 ≤ 1))
    ) else (
     some false
    )
   ) else (
    some false
   )
   : Option (Bool)).bind fun x12 =>
  some x12
def zBk (s1 : List UInt8) : Nat → Int → Option (Fl Bool Unit)
| 0,_ => none
| k+1,i2 =>
 bif decide (i2 < (s1.length : Int)) then (
  (
   (at? s1 i2).bind fun c4 =>
   bif decide ((c4.toNat : Int) < 32) then (
    some true
   ) else (
    (at? s1 i2).bind fun c6 =>
    some (decide (126 < (c6.toNat : Int)))
   )
   : Option (Bool)).bind fun x3 =>
  bif x3 then (
   some (.ret false)
  ) else (
   zBk s1 k (IntKind.i64.wrap (i2 + 1))
  )
 ) else (
  some (.go ())
 )
def zCW (n : Nat) : (List UInt8) → Option Bool
| s1 =>
 (zBk s1 n 0).bind fun fl => match fl with
 | .ret r => some r
 | .go _ =>
  some true
def zFF (n : Nat) : Nd → Option Bool
| ⟨n1_kind,n1_text,n1_cols,n1_kids⟩ =>
 bif (n1_kind == 2) then (
  (zEk n n1_text).bind fun y2 =>
  some y2
 ) else (
  bif (n1_kind == 3) then (
   (zEi n n1_text).bind fun y3 =>
   some y3
  ) else (
   bif (n1_kind == 4) then (
    (
     bif decide ((n1_text.length : Int) ≤ 200) then (
      (zCW n n1_text).bind fun y5 =>
      some y5
     ) else (
      some false
     )
     : Option (Bool)).bind fun x4 =>
    some x4
   ) else (
    bif (n1_kind == 10) then (
     (zC7 ).bind fun y6 =>
     (zD8 n y6 n1_text).bind fun y7 =>
     some y7
    ) else (
     bif (n1_kind == 11) then (
      (
       bif ((n1_text.length : Int) == 2) then (
        (at? n1_text 0).bind fun c9 =>
        (zCX n [40,41,91,93,123,125,124,60,62,47,46] (c9.toNat : Int)).bind fun y11 =>
        bif y11 then (
         (at? n1_text 1).bind fun c12 =>
         (zCX n [40,41,91,93,123,125,124,60,62,47,46] (c12.toNat : Int)).bind fun y14 =>
         some y14
        ) else (
         some false
        )
       ) else (
        some false
       )
       : Option (Bool)).bind fun x8 =>
      some x8
     ) else (
      some (n1_text == [])
     )
    )
   )
  )
 )
def zFE : Nd → Option Bool
| ⟨n1_kind,n1_text,n1_cols,n1_kids⟩ =>
 bif (n1_kind == 12) then (
  (
   bif decide (1 ≤ n1_cols) then (
    bif decide (n1_cols ≤ 16) then (
     bif decide (1 ≤ (n1_kids.length : Int)) then (
      bif decide ((n1_kids.length : Int) ≤ 256) then (
       req (n1_cols ≠ 0) <|
       some (((n1_kids.length : Int).tmod n1_cols) == 0)
      ) else (
       some false
      )
     ) else (
      some false
     )
    ) else (
     some false
    )
   ) else (
    some false
   )
   : Option (Bool)).bind fun x3 =>
  some x3
 ) else (
  bif (n1_cols != 0) then (
   some false
  ) else (
   (
    bif (n1_kind == 1) then (
     some (.ret (decide ((n1_kids.length : Int) ≤ 200)))
    ) else (
     (
      bif (n1_kind == 2) then (
       some (n1_kind == 2)
      ) else (
       bif (n1_kind == 3) then (
        some (n1_kind == 3)
       ) else (
        some (n1_kind == 4)
       )
      )
      : Option (Bool)).bind fun x4 =>
     bif x4 then (
      some (.ret ((n1_kids.length : Int) == 0))
     ) else (
      (
       bif (n1_kind == 5) then (
        some (n1_kind == 5)
       ) else (
        bif (n1_kind == 6) then (
         some (n1_kind == 6)
        ) else (
         bif (n1_kind == 7) then (
          some (n1_kind == 7)
         ) else (
          some (n1_kind == 8)
         )
        )
       )
       : Option (Bool)).bind fun x5 =>
      bif x5 then (
       some (.ret ((n1_kids.length : Int) == 2))
      ) else (
       bif (n1_kind == 9) then (
        some (.ret ((n1_kids.length : Int) == 3))
       ) else (
        (
         bif (n1_kind == 10) then (
          some (n1_kind == 10)
         ) else (
          some (n1_kind == 11)
         )
         : Option (Bool)).bind fun x6 =>
        bif x6 then (
         some (.ret ((n1_kids.length : Int) == 1))
        ) else (
         some (.go ())
        )
       )
      )
     )
    )
    : Option (Fl Bool Unit)).bind fun fl => match fl with
   | .ret r => some r
   | .go _ =>
    some false
  )
 )
def zCw (F_r09_form : Nd → Option Bool) (n1_kind : Int) (n1_kids : List Nd) : Nat → Int → Option (Fl Bool Unit)
| 0,_ => none
| k+1,i5 =>
 bif decide (i5 < (n1_kids.length : Int)) then (
  (
   (at? n1_kids i5).bind fun ⟨e8_kind,e8_text,e8_cols,e8_kids⟩ =>
   bif ((e8_kind == 1) == (n1_kind == 1)) then (
    some true
   ) else (
    (at? n1_kids i5).bind fun ⟨e10_kind,e10_text,e10_cols,e10_kids⟩ =>
    (F_r09_form (Nd.mk e10_kind e10_text e10_cols e10_kids)).bind fun y12 =>
    some (!y12)
   )
   : Option (Bool)).bind fun x7 =>
  bif x7 then (
   some (.ret false)
  ) else (
   zCw F_r09_form n1_kind n1_kids k (IntKind.i64.wrap (i5 + 1))
  )
 ) else (
  some (.go ())
 )
def zC8 : Nat → Nd → Option Bool
| 0,_ => none
| n+1,⟨n1_kind,n1_text,n1_cols,n1_kids⟩ =>
 (
  (zFF n (Nd.mk n1_kind n1_text n1_cols n1_kids)).bind fun y3 =>
  bif (!y3) then (
   some true
  ) else (
   (zFE (Nd.mk n1_kind n1_text n1_cols n1_kids)).bind fun y4 =>
   some (!y4)
  )
  : Option (Bool)).bind fun x2 =>
 bif x2 then (
  some false
 ) else (
  (zCw (zC8 n) n1_kind n1_kids n 0).bind fun fl => match fl with
  | .ret r => some r
  | .go _ =>
   some true
 )
def zCb (F_r09_Count : Nd → Option Int) (n1_kids : List Nd) : Nat → Int → Int → Option (Int)
| 0,_,_ => none
| k+1,out2,i3 =>
 bif decide (i3 < (n1_kids.length : Int)) then (
  (at? n1_kids i3).bind fun ⟨e6_kind,e6_text,e6_cols,e6_kids⟩ =>
  (F_r09_Count (Nd.mk e6_kind e6_text e6_cols e6_kids)).bind fun y8 =>
  zCb F_r09_Count n1_kids k (IntKind.i64.wrap (out2 + y8)) (IntKind.i64.wrap (i3 + 1))
 ) else (
  some out2
 )
def zBg : Nat → Nd → Option Int
| 0,_ => none
| n+1,⟨n1_kind,n1_text,n1_cols,n1_kids⟩ =>
 (zCb (zBg n) n1_kids n 1 0).bind fun out4 =>
 some out4
def zCc (F_r09_Depth : Nd → Option Int) (n1_kids : List Nd) : Nat → Int → Int → Option (Int)
| 0,_,_ => none
| k+1,out2,i3 =>
 bif decide (i3 < (n1_kids.length : Int)) then (
  (at? n1_kids i3).bind fun ⟨e6_kind,e6_text,e6_cols,e6_kids⟩ =>
  (F_r09_Depth (Nd.mk e6_kind e6_text e6_cols e6_kids)).bind fun y8 =>
  zCc F_r09_Depth n1_kids k (if out2 < y8 then y8 else out2) (IntKind.i64.wrap (i3 + 1))
 ) else (
  some out2
 )
def zCt : Nat → Nd → Option Int
| 0,_ => none
| n+1,⟨n1_kind,n1_text,n1_cols,n1_kids⟩ =>
 (zCc (zCt n) n1_kids n 0 0).bind fun out4 =>
 some (IntKind.i64.wrap (out4 + 1))
def zD0 (n : Nat) : Nd → Option Bool
| ⟨n1_kind,n1_text,n1_cols,n1_kids⟩ =>
 (
  bif (n1_kind == 1) then (
   (zC8 n (Nd.mk n1_kind n1_text n1_cols n1_kids)).bind fun y3 =>
   bif y3 then (
    (zBg n (Nd.mk n1_kind n1_text n1_cols n1_kids)).bind fun y4 =>
    bif decide (y4 ≤ 1000) then (
     (zCt n (Nd.mk n1_kind n1_text n1_cols n1_kids)).bind fun y5 =>
     some (decide (y5 ≤ 24))
    ) else (
     some false
    )
   ) else (
    some false
   )
  ) else (
   some false
  )
  : Option (Bool)).bind fun x2 =>
 some x2
def zBt (F_r09_Equal : Nd → Nd → Option Bool) (a1 : List Nd) (b2 : List Nd) : Nat → Int → Option (Fl Bool Unit)
| 0,_ => none
| k+1,i5 =>
 bif decide (i5 < (a1.length : Int)) then (
  (at? a1 i5).bind fun ⟨e7_kind,e7_text,e7_cols,e7_kids⟩ =>
  (at? b2 i5).bind fun ⟨e9_kind,e9_text,e9_cols,e9_kids⟩ =>
  (F_r09_Equal (Nd.mk e7_kind e7_text e7_cols e7_kids) (Nd.mk e9_kind e9_text e9_cols e9_kids)).bind fun y11 =>
  bif (!y11) then (
   some (.ret false)
  ) else (
   zBt F_r09_Equal a1 b2 k (IntKind.i64.wrap (i5 + 1))
  )
 ) else (
  some (.go ())
 )
mutual
def zCv : Nat → Nd → Nd → Option Bool
| 0,_,_ => none
| n+1,⟨a1_kind,a1_text,a1_cols,a1_kids⟩,⟨b2_kind,b2_text,b2_cols,b2_kids⟩ =>
 (
  bif (a1_kind == b2_kind) then (
   bif (a1_text == b2_text) then (
    bif (a1_cols == b2_cols) then (
     (zBZ n a1_kids b2_kids).bind fun y4 =>
     some y4
    ) else (
     some false
    )
   ) else (
    some false
   )
  ) else (
   some false
  )
  : Option (Bool)).bind fun x3 =>
 some x3
def zBZ : Nat → (List Nd) → (List Nd) → Option Bool
| 0,_,_ => none
| n+1,a1,b2 =>
 bif ((a1.length : Int) != (b2.length : Int)) then (
  some false
 ) else (
  (zBt (zCv n) a1 b2 n 0).bind fun fl => match fl with
  | .ret r => some r
  | .go _ =>
   some true
 )
end
def zB6 (F_r09_left : Nd → Int → Option Int) (n1_kids : List Nd) : Nat → Int → Int → Option (Int)
| 0,_,_ => none
| k+1,most3,i4 =>
 (
  bif decide (i4 < (n1_kids.length : Int)) then (
   some (decide (0 ≤ most3))
  ) else (
   some false
  )
  : Option (Bool)).bind fun x6 =>
 bif x6 then (
  (at? n1_kids i4).bind fun ⟨e8_kind,e8_text,e8_cols,e8_kids⟩ =>
  (F_r09_left (Nd.mk e8_kind e8_text e8_cols e8_kids) most3).bind fun y10 =>
  zB6 F_r09_left n1_kids k y10 (IntKind.i64.wrap (i4 + 1))
 ) else (
  some most3
 )
def zC9 : Nat → Nd → Int → Option Int
| 0,_,_ => none
| n+1,⟨n1_kind,n1_text,n1_cols,n1_kids⟩,most2 =>
 (zB6 (zC9 n) n1_kids n (IntKind.i64.wrap (most2 - 1)) 0).bind fun most5 =>
 some most5
def zFD (n : Nat) : Nd → Int → Option Bool
| ⟨n1_kind,n1_text,n1_cols,n1_kids⟩,most2 =>
 (zC9 n (Nd.mk n1_kind n1_text n1_cols n1_kids) most2).bind fun y3 =>
 some (decide (0 ≤ y3))
def zCF (s1 : List UInt8) : Nat → Int → (List Nd) → Option ((List Nd))
| 0,_,_ => none
| k+1,i4,l5 =>
 bif decide (i4 < (s1.length : Int)) then (
  req (0 ≤ i4 ∧ i4 ≤ IntKind.i64.wrap (i4 + 1) ∧ IntKind.i64.wrap (i4 + 1) ≤ (s1.length : Int)) <|
  req (l5.length + [Nd.mk 2 ((s1.take (IntKind.i64.wrap (i4 + 1)).toNat).drop i4.toNat) 0 []].length ≤ 4294967296) <|
  zCF s1 k (IntKind.i64.wrap (i4 + 1)) (l5 ++ [Nd.mk 2 ((s1.take (IntKind.i64.wrap (i4 + 1)).toNat).drop i4.toNat) 0 []])
 ) else (
  some l5
 )
def zEw (n : Nat) : (List UInt8) → Option Nd
| s1 =>
 (zCF s1 n 0 []).bind fun l6 =>
 some (Nd.mk 1 [] 0 l6)
def zDv (n : Nat) : Nd → Nd → Option Bool
| ⟨a1_kind,a1_text,a1_cols,a1_kids⟩,⟨b2_kind,b2_text,b2_cols,b2_kids⟩ =>
 (
  (zDw n (Nd.mk a1_kind a1_text a1_cols a1_kids)).bind fun y4 =>
  bif y4 then (
   (zDw n (Nd.mk b2_kind b2_text b2_cols b2_kids)).bind fun y5 =>
   some y5
  ) else (
   some false
  )
  : Option (Bool)).bind fun x3 =>
 some x3
def zGv (n : Nat) : Nd → Nd → Option Bool
| ⟨a1_kind,a1_text,a1_cols,a1_kids⟩,⟨b2_kind,b2_text,b2_cols,b2_kids⟩ =>
 (
  (zFD n (Nd.mk a1_kind a1_text a1_cols a1_kids) 120).bind fun y4 =>
  bif y4 then (
   (zFD n (Nd.mk b2_kind b2_text b2_cols b2_kids) 120).bind fun y5 =>
   some y5
  ) else (
   some false
  )
  : Option (Bool)).bind fun x3 =>
 some x3
def zCY : Nd → Nd → Option Bool
| ⟨x1_kind,x1_text,x1_cols,x1_kids⟩,⟨y2_kind,y2_text,y2_cols,y2_kids⟩ =>
 (
  bif (x1_kind == y2_kind) then (
   bif ((x1_kids.length : Int) == (y2_kids.length : Int)) then (
    some (x1_cols == y2_cols)
   ) else (
    some false
   )
  ) else (
   some false
  )
  : Option (Bool)).bind fun x3 =>
 some x3
def zBX (n : Nat) (l1 : List Nd) : Nat → Int → (List Int) → Option ((List Int))
| 0,_,_ => none
| k+1,x4,l5 =>
 bif decide (x4 < (l1.length : Int)) then (
  (at? l1 x4).bind fun ⟨e7_kind,e7_text,e7_cols,e7_kids⟩ =>
  (zEf n (Nd.mk e7_kind e7_text e7_cols e7_kids)).bind fun y9 =>
  (at? l5 x4).bind fun e10 =>
  zBX n l1 k (IntKind.i64.wrap (x4 + 1)) (l5.set x4.toNat y9)
 ) else (
  some l5
 )
def zDu (n : Nat) : (List Nd) → Option (List Int)
| l1 =>
 req (0 ≤ (l1.length : Int) ∧ (l1.length : Int) ≤ 4294967296) <|
 (zBX n l1 n 0 (List.replicate (l1.length : Int).toNat 0)).bind fun l6 =>
 some l6
def zAZ : List Int → List Int
| [] => [0]
| o :: os => IntKind.i64.wrap ((zAZ os).headD 0 + o) :: zAZ os
def zAD (F_diff_pairing : Nd → Nd → Option Int) (x : Nd) (f : Int) : List Nd → List Int → List Int → Option (List Int × List Int)
| [],[],[v] => some ([IntKind.i64.wrap (v + f)],[])
| y :: ys,o :: os,v :: v2 :: vs =>
 (zAD F_diff_pairing x f ys os (v2 :: vs)).bind fun p =>
 (F_diff_pairing x y).bind fun c =>
 let c0:=if IntKind.i64.wrap (v + f) < IntKind.i64.wrap (p.1.headD 0 + o) then IntKind.i64.wrap (v + f) else IntKind.i64.wrap (p.1.headD 0 + o)
 let c1:=if 0 ≤ c then (if IntKind.i64.wrap (v2 + c) < c0 then IntKind.i64.wrap (v2 + c) else c0) else c0
 some (c1 :: p.1,c :: p.2)
| _,_,_ => none
def zAQ (F_diff_pairing : Nd → Nd → Option Int) (b : List Nd) (other : List Int) : List Nd → List Int → Option (List (List Int) × List (List Int))
| [],[] => some ([zAZ other],[])
| x :: xs,f :: fs =>
 (zAQ F_diff_pairing b other xs fs).bind fun p =>
 match p.1 with
 | [] => none
 | r1 :: _ => (zAD F_diff_pairing x f b other r1).bind fun q => some (q.1 :: p.1,q.2 :: p.2)
| _,_ => none
def zBz (F_diff_fill : (List Nd) → (List Nd) → Option (List (List Int) × List (List Int) × List Int × List Int)) (a1_kids : List Nd) (a2_kids : List Nd) : Nat → Int → Int → Option (Int)
| 0,_,_ => none
| k+1,x8,x9 =>
 bif decide (x9 < (a1_kids.length : Int)) then (
  (at? a1_kids x9).bind fun ⟨e11_kind,e11_text,e11_cols,e11_kids⟩ =>
  (at? a2_kids x9).bind fun ⟨e13_kind,e13_text,e13_cols,e13_kids⟩ =>
  (F_diff_fill e11_kids e13_kids).bind fun ⟨y15_least,y15_pair,y15_first,y15_other⟩ =>
  (at? y15_least 0).bind fun e16 =>
  (at? e16 0).bind fun e18 =>
  zBz F_diff_fill a1_kids a2_kids k (IntKind.i64.wrap (x8 + e18)) (IntKind.i64.wrap (x9 + 1))
 ) else (
  some x8
 )
mutual
def zBW : Nat → (List Nd) → (List Nd) → Option (List (List Int) × List (List Int) × List Int × List Int)
| 0,_,_ => none
| n+1,a,b =>
 (zDu n a).bind fun first =>
 (zDu n b).bind fun other =>
 req (a.length ≤ 1048576 ∧ b.length ≤ 1048576 ∧ other.length = b.length) <|
 (zAQ (zBC n) b other a first).bind fun p =>
 some (p.1,p.2,first,other)
def zBC : Nat → Nd → Nd → Option Int
| 0,_,_ => none
| n+1,⟨a1_kind,a1_text,a1_cols,a1_kids⟩,⟨a2_kind,a2_text,a2_cols,a2_kids⟩ =>
 (
  bif (a1_kind != a2_kind) then (
   some true
  ) else (
   bif (a1_cols != a2_cols) then (
    some true
   ) else (
    some ((a1_kids.length : Int) != (a2_kids.length : Int))
   )
  )
  : Option (Bool)).bind fun x3 =>
 bif x3 then (
  some (-1)
 ) else (
  (
   bif (!(a1_text == a2_text)) then (
    some 1
   ) else (
    some 0
   )
   : Option (Int)).bind fun x6 =>
  (zBz (zBW n) a1_kids a2_kids n x6 0).bind fun x10 =>
  some x10
 )
end
def zHw (n : Nat) : Nd → Nd → Option (Int × Int)
| ⟨a1_kind,a1_text,a1_cols,a1_kids⟩,⟨b2_kind,b2_text,b2_cols,b2_kids⟩ =>
 (zDv n (Nd.mk a1_kind a1_text a1_cols a1_kids) (Nd.mk b2_kind b2_text b2_cols b2_kids)).bind fun y3 =>
 bif (!y3) then (
  some (0,1)
 ) else (
  (zBW n a1_kids b2_kids).bind fun ⟨y4_least,y4_pair,y4_first,y4_other⟩ =>
  (at? y4_least 0).bind fun e5 =>
  (at? e5 0).bind fun e7 =>
  some (e7,0)
 )
def zFU (n : Nat) : Option Bool
:=
 (zEw n [120,121]).bind fun ⟨y1_kind,y1_text,y1_cols,y1_kids⟩ =>
 (zEw n [121,122]).bind fun ⟨y2_kind,y2_text,y2_cols,y2_kids⟩ =>
 (zHw n (Nd.mk y1_kind y1_text y1_cols y1_kids) (Nd.mk y2_kind y2_text y2_cols y2_kids)).bind fun ⟨y3,y4⟩ =>
 (
  bif (y4 == 0) then (
   some (y3 == 2)
  ) else (
   some false
  )
  : Option (Bool)).bind fun x5 =>
 some x5
def zCy (F_r16_table : (List Nd) → (List Nd) → Option (List (List Int))) (x1_kids : List Nd) (y2_kids : List Nd) : Nat → Int → Int → Option (Int)
| 0,_,_ => none
| k+1,n4,i5 =>
 bif decide (i5 < (x1_kids.length : Int)) then (
  (at? x1_kids i5).bind fun ⟨e8_kind,e8_text,e8_cols,e8_kids⟩ =>
  (at? y2_kids i5).bind fun ⟨e10_kind,e10_text,e10_cols,e10_kids⟩ =>
  (F_r16_table e8_kids e10_kids).bind fun y12 =>
  (at? y12 0).bind fun e13 =>
  (at? e13 0).bind fun e15 =>
  zCy F_r16_table x1_kids y2_kids k (IntKind.i64.wrap (n4 + e15)) (IntKind.i64.wrap (i5 + 1))
 ) else (
  some n4
 )
def zAX (F_r09_Count : Nd → Option Int) : List Nd → Option (List Int)
| [] => some [0]
| y :: ys => (zAX F_r09_Count ys).bind fun r => (F_r09_Count y).bind fun c => some (IntKind.i64.wrap (c + r.headD 0) :: r)
def zAK (F_r09_Count : Nd → Option Int) (F_r16_Alike : Nd → Nd → Option Bool) (F_r16_pair : Nd → Nd → Option Int) (x : Nd) (cx : Int) : List Nd → List Int → Option (List Int)
| [],[v] => some [IntKind.i64.wrap (cx + v)]
| y :: ys,v :: v2 :: vs =>
 (zAK F_r09_Count F_r16_Alike F_r16_pair x cx ys (v2 :: vs)).bind fun r =>
 (F_r09_Count y).bind fun c =>
 (F_r16_Alike x y).bind fun al =>
 let l0:=IntKind.i64.wrap (cx + v)
 let n0:=IntKind.i64.wrap (c + r.headD 0)
 let l1:=bif (decide (l0 < 0) || decide (n0 < l0)) then n0 else l0
 bif al then ((F_r16_pair x y).bind fun p => some ((if IntKind.i64.wrap (p + v2) < l1 then IntKind.i64.wrap (p + v2) else l1) :: r)) else some (l1 :: r)
| _,_ => none
def zAN (F_r09_Count : Nd → Option Int) (F_r16_Alike : Nd → Nd → Option Bool) (F_r16_pair : Nd → Nd → Option Int) (b : List Nd) : List Nd → Option (List (List Int))
| [] => (zAX F_r09_Count b).bind fun r => some [r]
| x :: xs =>
 (zAN F_r09_Count F_r16_Alike F_r16_pair b xs).bind fun p =>
 (F_r09_Count x).bind fun cx =>
 match p with
 | [] => none
 | r1 :: _ => (zAK F_r09_Count F_r16_Alike F_r16_pair x cx b r1).bind fun q => some (q :: p)
mutual
def zB2 : Nat → Nd → Nd → Option Int
| 0,_,_ => none
| n+1,⟨x1_kind,x1_text,x1_cols,x1_kids⟩,⟨y2_kind,y2_text,y2_cols,y2_kids⟩ =>
 (
  bif (!(x1_text == y2_text)) then (
   some 1
  ) else (
   some 0
  )
  : Option (Int)).bind fun n3 =>
 (zCy (zCd n) x1_kids y2_kids n n3 0).bind fun n6 =>
 some n6
def zCd : Nat → (List Nd) → (List Nd) → Option (List (List Int))
| 0,_,_ => none
| n+1,a,b =>
 req (a.length ≤ 1048576 ∧ b.length ≤ 1048576) <|
 zAN (zBg n) zCY (zB2 n) b a
end
def zBG  : Nat → Int → (List UInt8) → Option (Int × (List UInt8))
| 0,_,_ => none
| k+1,n5,s6 =>
 bif decide (10 ≤ n5) then (
  req ([b8of (IntKind.u8.wrap (IntKind.i64.wrap (48 + (n5.tmod 10))))].length + s6.length ≤ 1099511627776) <|
  zBG k (IntKind.i64.wrap (n5.tdiv 10)) ([b8of (IntKind.u8.wrap (IntKind.i64.wrap (48 + (n5.tmod 10))))] ++ s6)
 ) else (
  some (n5,s6)
 )
def zDK : Nat → Int → Option (List UInt8)
| 0,_ => none
| n+1,n1 =>
 bif decide (n1 < 0) then (
  bif ((IntKind.i64.wrap (n1.tdiv 10)) != 0) then (
   (zDK n (IntKind.i64.wrap (0 - (IntKind.i64.wrap (n1.tdiv 10))))).bind fun y4 =>
   req ([45].length + y4.length ≤ 1099511627776) <|
   req (([45] ++ y4).length + [b8of (IntKind.u8.wrap (IntKind.i64.wrap (48 - (n1.tmod 10))))].length ≤ 1099511627776) <|
   some (([45] ++ y4) ++ [b8of (IntKind.u8.wrap (IntKind.i64.wrap (48 - (n1.tmod 10))))])
  ) else (
   req ([45].length + [b8of (IntKind.u8.wrap (IntKind.i64.wrap (48 - (n1.tmod 10))))].length ≤ 1099511627776) <|
   some ([45] ++ [b8of (IntKind.u8.wrap (IntKind.i64.wrap (48 - (n1.tmod 10))))])
  )
 ) else (
  (zBG  n n1 []).bind fun ⟨n7,s8⟩ =>
  req ([b8of (IntKind.u8.wrap (IntKind.i64.wrap (48 + n7)))].length + s8.length ≤ 1099511627776) <|
  some ([b8of (IntKind.u8.wrap (IntKind.i64.wrap (48 + n7)))] ++ s8)
 )
def zBH (s1 : List UInt8) : Nat → Int → (List UInt8) → Option ((List UInt8))
| 0,_,_ => none
| k+1,i3,l4 =>
 bif decide (i3 < (s1.length : Int)) then (
  (
   (
    (at? s1 i3).bind fun c8 =>
    bif ((c8.toNat : Int) == 34) then (
     some true
    ) else (
     (at? s1 i3).bind fun c10 =>
     some ((c10.toNat : Int) == 92)
    )
    : Option (Bool)).bind fun x7 =>
   (
    bif x7 then (
     req (l4.length + [b8of 92].length ≤ 4294967296) <|
     some (l4 ++ [b8of 92])
    ) else (
     some l4
    )
    : Option ((List UInt8))).bind fun l12 =>
   (at? s1 i3).bind fun c14 =>
   req (l12.length + [c14].length ≤ 4294967296) <|
   some (l12 ++ [c14])
   : Option ((List UInt8))).bind fun l6 =>
  zBH s1 k (IntKind.i64.wrap (i3 + 1)) l6
 ) else (
  some l4
 )
def zEj (n : Nat) : (List UInt8) → Option (List UInt8)
| s1 =>
 (zBH s1 n 0 [b8of 34]).bind fun l5 =>
 req (l5.length + [b8of 34].length ≤ 4294967296) <|
 some (l5 ++ [b8of 34])
def zCu (F_r09_Dump : Nd → Option (List UInt8)) (a1_kids : List Nd) : Nat → (List UInt8) → Int → Option ((List UInt8))
| 0,_,_ => none
| k+1,x10,x11 =>
 bif decide (x11 < (a1_kids.length : Int)) then (
  (
   (
    bif decide (0 < x11) then (
     req (x10.length + [32].length ≤ 1099511627776) <|
     some (x10 ++ [32])
    ) else (
     some x10
    )
    : Option ((List UInt8))).bind fun x15 =>
   (at? a1_kids x11).bind fun ⟨e16_kind,e16_text,e16_cols,e16_kids⟩ =>
   (F_r09_Dump (Nd.mk e16_kind e16_text e16_cols e16_kids)).bind fun y18 =>
   req (x15.length + y18.length ≤ 1099511627776) <|
   some (x15 ++ y18)
   : Option ((List UInt8))).bind fun x14 =>
  zCu F_r09_Dump a1_kids k x14 (IntKind.i64.wrap (x11 + 1))
 ) else (
  some x10
 )
def zCK : Nat → Nd → Option (List UInt8)
| 0,_ => none
| n+1,⟨a1_kind,a1_text,a1_cols,a1_kids⟩ =>
 (zDK n a1_kind).bind fun y2 =>
 req ([110,111,100,101].length + y2.length ≤ 1099511627776) <|
 (
  bif decide (1 ≤ a1_kind) then (
   some (decide (a1_kind ≤ 12))
  ) else (
   some false
  )
  : Option (Bool)).bind fun x3 =>
 (
  bif x3 then (
   bif (a1_kind == 1) then (
    some [114,111,119]
   ) else (
    bif (a1_kind == 2) then (
     some [115,121,109]
    ) else (
     bif (a1_kind == 3) then (
      some [110,117,109]
     ) else (
      bif (a1_kind == 4) then (
       some [116,101,120,116]
      ) else (
       bif (a1_kind == 5) then (
        some [102,114,97,99]
       ) else (
        bif (a1_kind == 6) then (
         some [114,111,111,116]
        ) else (
         bif (a1_kind == 7) then (
          some [115,117,98]
         ) else (
          bif (a1_kind == 8) then (
           some [115,117,112]
          ) else (
           bif (a1_kind == 9) then (
            some [98,111,116,104]
           ) else (
            bif (a1_kind == 10) then (
             some [97,99,99,101,110,116]
            ) else (
             bif (a1_kind == 11) then (
              some [102,101,110,99,101]
             ) else (
              bif (a1_kind == 12) then (
               some [109,97,116,114,105,120]
              ) else (
               none
              )
             )
            )
           )
          )
         )
        )
       )
      )
     )
    )
   )
  ) else (
   some ([110,111,100,101] ++ y2)
  )
  : Option ((List UInt8))).bind fun x4 =>
 (
  bif (!(a1_text == [])) then (
   req (x4.length + [58].length ≤ 1099511627776) <|
   (zEj n a1_text).bind fun y6 =>
   req ((x4 ++ [58]).length + y6.length ≤ 1099511627776) <|
   some ((x4 ++ [58]) ++ y6)
  ) else (
   some x4
  )
  : Option ((List UInt8))).bind fun x5 =>
 (
  bif (a1_cols != 0) then (
   req (x5.length + [42].length ≤ 1099511627776) <|
   (zDK n a1_cols).bind fun y8 =>
   req ((x5 ++ [42]).length + y8.length ≤ 1099511627776) <|
   some ((x5 ++ [42]) ++ y8)
  ) else (
   some x5
  )
  : Option ((List UInt8))).bind fun x7 =>
 bif ((a1_kids.length : Int) == 0) then (
  some x7
 ) else (
  req (x7.length + [40].length ≤ 1099511627776) <|
  (zCu (zCK n) a1_kids n (x7 ++ [40]) 0).bind fun x12 =>
  req (x12.length + [41].length ≤ 1099511627776) <|
  some (x12 ++ [41])
 )
def zAo : (List UInt8) → (List UInt8) → Option (Int × Unit × (List UInt8))
| s1,b2 =>
 (zA1 b2).bind fun b3 =>
 req (b3.length + s1.length ≤ 4294967296) <|
 some ((s1.length : Int),(),b3 ++ s1)
def zAI : UInt8 → (List UInt8) → Option (Unit × (List UInt8))
| c1,b2 =>
 (zA1 b2).bind fun b3 =>
 req (b3.length + [c1].length ≤ 4294967296) <|
 some ((),b3 ++ [c1])
def zAW (a1_text : List UInt8) : Nat → Int → (List UInt8) → Option ((List UInt8))
| 0,_,_ => none
| k+1,x49,l50 =>
 bif decide (x49 < (a1_text.length : Int)) then (
  (
   (
    (at? a1_text x49).bind fun c54 =>
    bif ((c54.toNat : Int) == 34) then (
     some true
    ) else (
     (at? a1_text x49).bind fun c56 =>
     some ((c56.toNat : Int) == 92)
    )
    : Option (Bool)).bind fun x53 =>
   (
    bif x53 then (
     (zAI (b8of 92) l50).bind fun ⟨_,b60⟩ =>
     some b60
    ) else (
     some l50
    )
    : Option ((List UInt8))).bind fun l58 =>
   (at? a1_text x49).bind fun c61 =>
   (zAI c61 l58).bind fun ⟨_,b64⟩ =>
   some b64
   : Option ((List UInt8))).bind fun l52 =>
  zAW a1_text k (IntKind.i64.wrap (x49 + 1)) l52
 ) else (
  some l50
 )
def zBj (n : Nat) : Nd → (List UInt8) → Option (List UInt8)
| ⟨a1_kind,a1_text,a1_cols,a1_kids⟩,b2 =>
 (
  bif decide (1 ≤ a1_kind) then (
   some (decide (a1_kind ≤ 12))
  ) else (
   some false
  )
  : Option (Bool)).bind fun x3 =>
 (
  bif x3 then (
   bif (a1_kind == 1) then (
    (zAo [114,111,119] b2).bind fun ⟨y5,_,b7⟩ =>
    some b7
   ) else (
    bif (a1_kind == 2) then (
     (zAo [115,121,109] b2).bind fun ⟨y8,_,b10⟩ =>
     some b10
    ) else (
     bif (a1_kind == 3) then (
      (zAo [110,117,109] b2).bind fun ⟨y11,_,b13⟩ =>
      some b13
     ) else (
      bif (a1_kind == 4) then (
       (zAo [116,101,120,116] b2).bind fun ⟨y14,_,b16⟩ =>
       some b16
      ) else (
       bif (a1_kind == 5) then (
        (zAo [102,114,97,99] b2).bind fun ⟨y17,_,b19⟩ =>
        some b19
       ) else (
        bif (a1_kind == 6) then (
         (zAo [114,111,111,116] b2).bind fun ⟨y20,_,b22⟩ =>
         some b22
        ) else (
         bif (a1_kind == 7) then (
          (zAo [115,117,98] b2).bind fun ⟨y23,_,b25⟩ =>
          some b25
         ) else (
          bif (a1_kind == 8) then (
           (zAo [115,117,112] b2).bind fun ⟨y26,_,b28⟩ =>
           some b28
          ) else (
           bif (a1_kind == 9) then (
            (zAo [98,111,116,104] b2).bind fun ⟨y29,_,b31⟩ =>
            some b31
           ) else (
            bif (a1_kind == 10) then (
             (zAo [97,99,99,101,110,116] b2).bind fun ⟨y32,_,b34⟩ =>
             some b34
            ) else (
             bif (a1_kind == 11) then (
              (zAo [102,101,110,99,101] b2).bind fun ⟨y35,_,b37⟩ =>
              some b37
             ) else (
              bif (a1_kind == 12) then (
               (zAo [109,97,116,114,105,120] b2).bind fun ⟨y38,_,b40⟩ =>
               some b40
              ) else (
               none
              )
             )
            )
           )
          )
         )
        )
       )
      )
     )
    )
   )
  ) else (
   (zDj a1_kind).bind fun y41 =>
   req ([110,111,100,101].length + y41.length ≤ 1099511627776) <|
   (zAo ([110,111,100,101] ++ y41) b2).bind fun ⟨y42,_,b44⟩ =>
   some b44
  )
  : Option ((List UInt8))).bind fun l4 =>
 (
  bif (!(a1_text == [])) then (
   (zAo [58,34] l4).bind fun ⟨y46,_,b48⟩ =>
   (zAW a1_text n 0 b48).bind fun l51 =>
   (zAI (b8of 34) l51).bind fun ⟨_,b66⟩ =>
   some b66
  ) else (
   some l4
  )
  : Option ((List UInt8))).bind fun l45 =>
 bif (a1_cols != 0) then (
  (zDj a1_cols).bind fun y67 =>
  req ([42].length + y67.length ≤ 1099511627776) <|
  (zAo ([42] ++ y67) l45).bind fun ⟨y68,_,b70⟩ =>
  some b70
 ) else (
  some l45
 )
def zBQ (n : Nat) : Nat → (List UInt8) → (List (Nd × Int)) → Option ((List UInt8))
| 0,_,_ => none
| k+1,l5,l6 =>
 bif decide (0 < (l6.length : Int)) then (
  (at? l6 (IntKind.i64.wrap ((l6.length : Int) - 1))).bind fun ⟨⟨e10_node_kind,e10_node_text,e10_node_cols,e10_node_kids⟩,e10_kids⟩ =>
  bif (e10_kids == (e10_node_kids.length : Int)) then (
   (
    bif decide (0 < e10_kids) then (
     (zAI (b8of 41) l5).bind fun ⟨_,b14⟩ =>
     some b14
    ) else (
     some l5
    )
    : Option ((List UInt8))).bind fun l12 =>
   req (0 ≤ IntKind.i64.wrap ((l6.length : Int) - 1) ∧ IntKind.i64.wrap ((l6.length : Int) - 1) ≤ (l6.length : Int)) <|
   zBQ n k l12 (l6.take (IntKind.i64.wrap ((l6.length : Int) - 1)).toNat)
  ) else (
   (at? e10_node_kids e10_kids).bind fun ⟨e17_kind,e17_text,e17_cols,e17_kids⟩ =>
   (at? ([40,32] : List UInt8) (if 1 < e10_kids then 1 else e10_kids)).bind fun c19 =>
   (zAI c19 l5).bind fun ⟨_,b22⟩ =>
   (zBj n (Nd.mk e17_kind e17_text e17_cols e17_kids) b22).bind fun b23 =>
   req ((l6.set (IntKind.i64.wrap ((l6.length : Int) - 1)).toNat (Nd.mk e10_node_kind e10_node_text e10_node_cols e10_node_kids,IntKind.i64.wrap (e10_kids + 1))).length + [(Nd.mk e17_kind e17_text e17_cols e17_kids,0)].length ≤ 4294967296) <|
   zBQ n k b23 ((l6.set (IntKind.i64.wrap ((l6.length : Int) - 1)).toNat (Nd.mk e10_node_kind e10_node_text e10_node_cols e10_node_kids,IntKind.i64.wrap (e10_kids + 1))) ++ [(Nd.mk e17_kind e17_text e17_cols e17_kids,0)])
  )
 ) else (
  some l5
 )
def zDZ (n : Nat) : Nd → Option (List UInt8)
| ⟨a1_kind,a1_text,a1_cols,a1_kids⟩ =>
 (zDx ).bind fun _ =>
 (zBj n (Nd.mk a1_kind a1_text a1_cols a1_kids) []).bind fun b3 =>
 (zBQ n n b3 [(Nd.mk a1_kind a1_text a1_cols a1_kids,0)]).bind fun l7 =>
 (zCj l7).bind fun y25 =>
 some y25
def zBq (n : Nat) (a1 : List Nd) (a2 : List Nd) (y3_least : List (List Int)) (y3_pair : List (List Int)) (y3_first : List Int) (y3_other : List Int) : Nat → Int → Int → (List (Int × Int)) → Option ((List (Int × Int)))
| 0,_,_,_ => none
| k+1,x5,x6,l7 =>
 (
  bif decide (x5 < (a1.length : Int)) then (
   some (decide (x6 < (a2.length : Int)))
  ) else (
   some false
  )
  : Option (Bool)).bind fun x9 =>
 bif x9 then (
  (at? y3_least x5).bind fun e12 =>
  (at? e12 x6).bind fun e14 =>
  (at? y3_least (IntKind.i64.wrap (x5 + 1))).bind fun e16 =>
  (at? e16 x6).bind fun e18 =>
  (at? y3_first x5).bind fun e20 =>
  (at? y3_least x5).bind fun e22 =>
  (at? e22 (IntKind.i64.wrap (x6 + 1))).bind fun e24 =>
  (at? y3_other x6).bind fun e26 =>
  (
   (at? y3_pair x5).bind fun e29 =>
   (at? e29 x6).bind fun e31 =>
   bif decide (0 ≤ e31) then (
    (at? y3_least (IntKind.i64.wrap (x5 + 1))).bind fun e33 =>
    (at? e33 (IntKind.i64.wrap (x6 + 1))).bind fun e35 =>
    (at? y3_pair x5).bind fun e37 =>
    (at? e37 x6).bind fun e39 =>
    some (e14 == (IntKind.i64.wrap (e35 + e39)))
   ) else (
    some false
   )
   : Option (Bool)).bind fun x28 =>
  bif x28 then (
   req (l7.length + [(x5,x6)].length ≤ 4294967296) <|
   zBq n a1 a2 y3_least y3_pair y3_first y3_other k (IntKind.i64.wrap (x5 + 1)) (IntKind.i64.wrap (x6 + 1)) (l7 ++ [(x5,x6)])
  ) else (
   (
    bif (e14 == (IntKind.i64.wrap (e18 + e20))) then (
     bif (!(e14 == (IntKind.i64.wrap (e24 + e26)))) then (
      some true
     ) else (
      (at? a1 x5).bind fun ⟨e43_kind,e43_text,e43_cols,e43_kids⟩ =>
      (zDZ n (Nd.mk e43_kind e43_text e43_cols e43_kids)).bind fun y45 =>
      (at? a2 x6).bind fun ⟨e46_kind,e46_text,e46_cols,e46_kids⟩ =>
      (zDZ n (Nd.mk e46_kind e46_text e46_cols e46_kids)).bind fun y48 =>
      some (Op.bytesLess y45 y48)
     )
    ) else (
     some false
    )
    : Option (Bool)).bind fun x42 =>
   bif x42 then (
    zBq n a1 a2 y3_least y3_pair y3_first y3_other k (IntKind.i64.wrap (x5 + 1)) x6 l7
   ) else (
    zBq n a1 a2 y3_least y3_pair y3_first y3_other k x5 (IntKind.i64.wrap (x6 + 1)) l7
   )
  )
 ) else (
  some l7
 )
def zDt (n : Nat) : (List Nd) → (List Nd) → Option (List (Int × Int))
| a1,a2 =>
 (zBW n a1 a2).bind fun ⟨y3_least,y3_pair,y3_first,y3_other⟩ =>
 (zBq n a1 a2 y3_least y3_pair y3_first y3_other n 0 0 []).bind fun l8 =>
 some l8
def zA7 (n : Nat) (a1 : List Nd) (a2 : List Nd) (y3 : List (List Int)) : Nat → Int → Int → (List (Int × Int)) → Option ((List (Int × Int)))
| 0,_,_,_ => none
| k+1,x5,x6,l7 =>
 (
  bif decide (x5 < (a1.length : Int)) then (
   some (decide (x6 < (a2.length : Int)))
  ) else (
   some false
  )
  : Option (Bool)).bind fun x9 =>
 bif x9 then (
  (at? a1 x5).bind fun ⟨e12_kind,e12_text,e12_cols,e12_kids⟩ =>
  (zBg n (Nd.mk e12_kind e12_text e12_cols e12_kids)).bind fun y14 =>
  (at? y3 (IntKind.i64.wrap (x5 + 1))).bind fun e15 =>
  (at? e15 x6).bind fun e17 =>
  (at? y3 x5).bind fun e19 =>
  (at? e19 x6).bind fun e21 =>
  (at? a2 x6).bind fun ⟨e23_kind,e23_text,e23_cols,e23_kids⟩ =>
  (zBg n (Nd.mk e23_kind e23_text e23_cols e23_kids)).bind fun y25 =>
  (at? y3 x5).bind fun e26 =>
  (at? e26 (IntKind.i64.wrap (x6 + 1))).bind fun e28 =>
  (at? y3 x5).bind fun e30 =>
  (at? e30 x6).bind fun e32 =>
  (
   (at? a1 x5).bind fun ⟨e35_kind,e35_text,e35_cols,e35_kids⟩ =>
   (at? a2 x6).bind fun ⟨e37_kind,e37_text,e37_cols,e37_kids⟩ =>
   (zCY (Nd.mk e35_kind e35_text e35_cols e35_kids) (Nd.mk e37_kind e37_text e37_cols e37_kids)).bind fun y39 =>
   bif y39 then (
    (at? a1 x5).bind fun ⟨e40_kind,e40_text,e40_cols,e40_kids⟩ =>
    (at? a2 x6).bind fun ⟨e42_kind,e42_text,e42_cols,e42_kids⟩ =>
    (zB2 n (Nd.mk e40_kind e40_text e40_cols e40_kids) (Nd.mk e42_kind e42_text e42_cols e42_kids)).bind fun y44 =>
    (at? y3 (IntKind.i64.wrap (x5 + 1))).bind fun e45 =>
    (at? e45 (IntKind.i64.wrap (x6 + 1))).bind fun e47 =>
    (at? y3 x5).bind fun e49 =>
    (at? e49 x6).bind fun e51 =>
    some ((IntKind.i64.wrap (y44 + e47)) == e51)
   ) else (
    some false
   )
   : Option (Bool)).bind fun x34 =>
  bif x34 then (
   req (l7.length + [(x5,x6)].length ≤ 4294967296) <|
   zA7 n a1 a2 y3 k (IntKind.i64.wrap (x5 + 1)) (IntKind.i64.wrap (x6 + 1)) (l7 ++ [(x5,x6)])
  ) else (
   (
    bif ((IntKind.i64.wrap (y14 + e17)) == e21) then (
     bif (!((IntKind.i64.wrap (y25 + e28)) == e32)) then (
      some true
     ) else (
      (at? a1 x5).bind fun ⟨e55_kind,e55_text,e55_cols,e55_kids⟩ =>
      (zCK n (Nd.mk e55_kind e55_text e55_cols e55_kids)).bind fun y57 =>
      (at? a2 x6).bind fun ⟨e58_kind,e58_text,e58_cols,e58_kids⟩ =>
      (zCK n (Nd.mk e58_kind e58_text e58_cols e58_kids)).bind fun y60 =>
      some (Op.bytesLess y57 y60)
     )
    ) else (
     some false
    )
    : Option (Bool)).bind fun x54 =>
   bif x54 then (
    zA7 n a1 a2 y3 k (IntKind.i64.wrap (x5 + 1)) x6 l7
   ) else (
    zA7 n a1 a2 y3 k x5 (IntKind.i64.wrap (x6 + 1)) l7
   )
  )
 ) else (
  some l7
 )
def zD1 (n : Nat) : (List Nd) → (List Nd) → Option (List (Int × Int))
| a1,a2 =>
 (zCd n a1 a2).bind fun y3 =>
 (zA7 n a1 a2 y3 n 0 0 []).bind fun l8 =>
 some l8
end Go.Proofs.YtjdhkpdjecegnaaGreatDoor
namespace Go.Proofs.YtjdhkpdjecegnaaGreatDoor
open Go.Abs
mutual
def Nd.cnt : Nd → Nat
 | .mk _ _ _ ks => Nd.cnts ks + 1
def Nd.cnts : List Nd → Nat
 | [] => 0
 | v :: vs => v.cnt + Nd.cnts vs
end
theorem Nd.cnt_pos : ∀ v : Nd,1 ≤ v.cnt
 | .mk _ _ _ ks => by simp only [Nd.cnt]; omega
theorem Nd.cnts_append : ∀ a b : List Nd,Nd.cnts (a ++ b) = Nd.cnts a + Nd.cnts b
 | [],b => by simp [Nd.cnts]
 | v :: a,b => by simp only [List.cons_append,Nd.cnts,Nd.cnts_append a b]; omega
theorem Nd.cnts_len : ∀ a : List Nd,a.length ≤ Nd.cnts a
 | [] => Nat.le_refl _
 | v :: a => by have:=Nd.cnts_len a; have:=v.cnt_pos; simp only [Nd.cnts,List.length_cons]; omega
theorem Nd.cnts_mem : ∀ {a : List Nd} {v : Nd},v ∈ a → v.cnt ≤ Nd.cnts a
 | u :: a,v,h => by
  simp only [Nd.cnts]
  rcases List.mem_cons.1 h with rfl | h
  ·omega
  ·have:=Nd.cnts_mem h; omega
theorem Nd.cnts_drop {a : List Nd} {i : Nat} (h : i < a.length) : Nd.cnts (a.drop i) = (a[i]).cnt + Nd.cnts (a.drop (i + 1)):=by
 rw [List.drop_eq_getElem_cons h]; rfl
def zFT (n : Nd) : Option Nd:=req (n.cnt ≤ 1000000000) (some n)
def Nd.kids : Nd → List Nd
 | .mk _ _ _ ks => ks
theorem zTo (n : Nd) : n.kids ≠ [] ↔ n.kids.isEmpty = false:=by cases n.kids <;> simp
instance (n : Nd) : Decidable (n.kids ≠ []):=decidable_of_iff _ (zTo n).symm
end Go.Proofs.YtjdhkpdjecegnaaGreatDoor
namespace Go.Abs
section
variable {T : Nat → Option TI} {Γ : Nat → Option zAx} {M nm L : List Nat} {N k : Nat} {n : Nat → Bool} {all os : List Oper} {o : Oper} {σ σ' : St} {K : St → Prop} {φ : Option Prop} {x : AV} {d : Nat}
theorem zPE {φ : Option Prop} {K : Prop} (h1 : φ.getD True) (h2 : K) : andO φ K:=by
 cases φ with
 | none => exact h2
 | some p => exact ⟨h1,h2⟩
theorem zQv (h : K (σ.putN d x)) : lay false (some d) x σ K:=by
 simp only [lay,zH6]; exact h
theorem zAt (hg : o.guard = none) (hd : o.dst = some d) (hN : Nat.blt d N = true) (hc : callOf T Γ o σ.env = none) (hn : dIn (some d) nm = false) (hs : step1 T (dIn (some d) M) o σ = some (φ,x,σ')) (hφ : φ.getD True)
  (h : zDF T Γ M nm N all os (σ'.putN d x) K) : zDF T Γ M nm N all (o :: os) σ K:=by
 unfold zDF;rw [hg,hd]
 dsimp only;rw [hN,hc,hn,hs]
 exact zPE hφ (zQv h)
theorem zDW (hg : o.guard = none) (hd : o.dst = none) (hc : callOf T Γ o σ.env = none) (hs : step1 T (dIn none M) o σ = some (φ,x,σ')) (hφ : φ.getD True)
  (h : zDF T Γ M nm N all os σ' K) : zDF T Γ M nm N all (o :: os) σ K:=by
 unfold zDF;rw [hg,hd,hc,hs]
 exact zPE hφ h
theorem zJO (hg : o.guard = none) (hd : o.dst = some d) (hL : inL k L = true) (hc : callOf T Γ o σ.env = none) (hn : dIn (some d) nm = false) (hs : step1 T (dIn (some d) M) o σ = some (φ,x,σ')) (hφ : φ.getD True)
  (h : evD T Γ M nm L [] n all os (k + 1) (σ'.putN d x) K) : evD T Γ M nm L [] n all (o :: os) k σ K:=by
 unfold evD;rw [hg,hd,hL,hc,hn,hs]
 simp only [inL,Bool.false_and]
 exact zPE hφ (zQv h)
theorem zKX {own : Bool} {t e q sz kk : Nat} {j ti : TI} {y i : Operand} {n : Int} {ki : IntKind} {rows : List (List S)} (ho : o.op = .indexAddr t y i) (ht : T t = some ti) (hk : ti.k = .slice e) (hj : T e = some j) (hy : opd T σ.env t y = .orow q)
  (hi : opd T σ.env 0 i = .s (.int ki n)) (hh : σ.hp q = some (.row kk sz rows)) (hz : Nat.beq sz j.size = true) : step1 T own o σ = some (some (0 ≤ n ∧ n < rows.length),.rp q sz n.toNat 0,σ):=by
 have e1 : zB8 T own o σ.env = none :=(by simp only [zB8,ho,zD4,hy,hi,AV.nrm,ht,hk]);simp only [step1,e1,zBP,zCT,ho,elemOf,ht,hk,hj,hy,hi,hh,hz]
theorem zSQ {own : Bool} {t e q sz kk : Nat} {j ti : TI} {y i : Operand} {n : Int} {ki : IntKind} {rows : List (List AV)} (ho : o.op = .indexAddr t y i) (ht : T t = some ti) (hk : ti.k = .slice e) (hj : T e = some j) (hy : opd T σ.env t y = .orow q)
  (hi : opd T σ.env 0 i = .s (.int ki n)) (hh : σ.hp q = some (.arow kk sz rows)) (hz : Nat.beq sz j.size = true) : step1 T own o σ = some (some (0 ≤ n ∧ n < rows.length),.rp q sz n.toNat 0,σ):=by
 have e1 : zB8 T own o σ.env = none :=(by simp only [zB8,ho,zD4,hy,hi,AV.nrm,ht,hk]);simp only [step1,e1,zBP,zCT,zCU,ho,elemOf,ht,hk,hj,hy,hi,hh,hz]
theorem zNn {own : Bool} {t q sz r off kk : Nat} {ti : TI} {y z : Operand} {rows : List (List S)} {ss : List S} (ho : o.op = .store t y z) (ht : T t = some ti) (hy : opd T σ.env 0 y = .rp q sz r off)
  (hz : (opd T σ.env t z).cellsS = some ss) (hh : σ.hp q = some (.row kk sz rows)) (h1 : Nat.beq sz sz = true) (h2 : Nat.beq ss.length ti.size = true) (h3 : Nat.ble (off + ti.size) sz = true) :
  step1 T own o σ = some (some (r < rows.length),.junk,zEo σ q (.row kk sz (rows.set r ((rows.getD r []).take off ++ ss ++ (rows.getD r []).drop (off + ti.size))))):=by
 have e1 : zB8 T own o σ.env = none :=(by simp only [zB8,ho]);simp only [step1,e1,zBP,zCT,ho,ht,hy,hz,hh,h1,h2,h3]
theorem zST {own : Bool} {t q sz r off kk : Nat} {ti : TI} {y z : Operand} {rows : List (List AV)} (ho : o.op = .store t y z) (ht : T t = some ti) (hy : opd T σ.env 0 y = .rp q sz r off)
  (hh : σ.hp q = some (.arow kk sz rows)) (h1 : Nat.beq sz sz = true) (h2 : Nat.beq (opd T σ.env t z).cellsA.length ti.size = true) (h3 : Nat.ble (off + ti.size) sz = true) (h4 : ((opd T σ.env t z).cellsA).all AV.one = true) :
  step1 T own o σ = some (some (r < rows.length),.junk,zEo σ q (.arow kk sz (rows.set r ((rows.getD r []).take off ++ (opd T σ.env t z).cellsA ++ (rows.getD r []).drop (off + ti.size))))):=by
 have e1 : zB8 T own o σ.env = none :=(by simp only [zB8,ho]);have e2 : zCT T own o σ = none:=by
  simp only [zCT,ho,hy,ht,hh]
 simp only [step1,e1,zBP,e2,zCU,ho,ht,hy,hh,h1,h2,h3,h4]
theorem zO8 {own : Bool} {t q off : Nat} {ti : TI} {y z : Operand} {bt : Nat} {cells : List AV} (ho : o.op = .store t y z) (ht : T t = some ti) (hy : opd T σ.env 0 y = .op q off)
  (hh : σ.hp q = some (.box bt cells)) (h2 : Nat.beq (opd T σ.env t z).cellsA.length ti.size = true) (h3 : Nat.ble (off + ti.size) cells.length = true) (h4 : ((opd T σ.env t z).cellsA).all AV.one = true) (h5 : AV.ltAll σ.nx (opd T σ.env t z).cellsA = true) :
  step1 T own o σ = some (none,.junk,zEo σ q (.box bt (cells.take off ++ (opd T σ.env t z).cellsA ++ cells.drop (off + ti.size)))):=by
 have e1 : zB8 T own o σ.env = none :=(by simp only [zB8,ho]);simp only [step1,e1,zBP,zCT,ho,ht,hy,hh,h2,h3,h4,h5,zDc]
theorem zTP {own : Bool} {t q off : Nat} {ti : TI} {y : Operand} {bt : Nat} {cells : List AV} {c : AV} (ho : o.op = .load t y) (ht : T t = some ti) (ha : ti.k.agg = false) (hy : opd T σ.env 0 y = .op q off) (hh : σ.hp q = some (.box bt cells)) (hc : cells[off]? = some c) :
  step1 T own o σ = some (none,c,σ):=by
 have e1 : zB8 T own o σ.env = none :=(by simp only [zB8,ho,hy]);simp only [step1,e1,zBP,zCT,ho,ht,hy,hh,ha,hc]
theorem zSR {own : Bool} {t q off : Nat} {ti : TI} {y : Operand} {bt : Nat} {cells : List AV} (ho : o.op = .load t y) (ht : T t = some ti) (ha : ti.k.agg = true) (hy : opd T σ.env 0 y = .op q off) (hh : σ.hp q = some (.box bt cells)) (hc : Nat.ble (off + ti.size) cells.length = true) :
  step1 T own o σ = some (none,.agg ((cells.drop off).take ti.size),σ):=by
 have e1 : zB8 T own o σ.env = none :=(by simp only [zB8,ho,hy]);simp only [step1,e1,zBP,zCT,ho,ht,hy,hh,ha,hc]
theorem zNm {own : Bool} {t q kk sz : Nat} {e : Nat} {args : Array Operand} {ts : Array Nat} {y : Operand} {rows : List (List AV)} (ho : o.op = .call { callee:=.builtin .len,args:=args,argTypes:=ts }) (ha : args.toList = [y]) (hts : ts.toList = [t]) (ht : tk T t = .slice e)
  (hy : opd T σ.env t y = .orow q) (hh : σ.hp q = some (.arow kk sz rows)) : step1 T own o σ = some (none,.s (.int .i64 (rows.length : Int)),σ):=by
 have e1 : zB8 T own o σ.env = none :=(by simp only [zB8,ho,ha,hts,pLen,ht,hy]);have e2 : zCT T own o σ = none :=(by simp only [zCT,ho,ha,hts,ht,hy,hh]);simp only [step1,e1,zBP,e2,zCU,ho,ha,hts,ht,hy,hh]
theorem zQN {own : Bool} {t q sz r off : Nat} {y : Operand} (ho : o.op = .load t y) (hy : opd T σ.env 0 y = .rp q sz r off) : step1 T own o σ = none ∧ callOf T Γ o σ.env = none ∧ zCA T o σ.env = none:=by
 have e1 : zB8 T own o σ.env = none :=(by simp only [zB8,ho,hy]);have e2 : zCT T own o σ = none :=(by simp only [zCT,ho,hy]);have e3 : zCU T o σ = none :=(by simp only [zCU,ho]);exact ⟨by simp only [step1,e1,zBP,e2,e3],by simp only [callOf,ho],by simp only [zCA,ho]⟩
theorem zUh {t : Nat} {y : Operand} (ho : o.op = .load t y) : nilQ T o σ.env = none:=by simp only [nilQ,ho]
theorem zOg {t q sz r off kk : Nat} {y : Operand} {rows : List (List AV)} {c : AV} (hg : o.guard = none) (hd : o.dst = some d) (hN : Nat.blt d N = true) (hn : dIn (some d) nm = false) (ho : o.op = .load t y) (hy : opd T σ.env 0 y = .rp q sz r off)
  (hh : σ.hp q = some (.arow kk sz rows)) (hr : r < rows.length) (hc : zMP T t ((rows.getD r []).drop off) = some c) (h : zDF T Γ M nm N all os (σ.putN d c) K) : zDF T Γ M nm N all (o :: os) σ K:=by
 obtain ⟨e1,e2,e3⟩:=zQN (Γ:=Γ) (own:=dIn (some d) M) ho hy;unfold zDF;rw [hg,hd]
 dsimp only;rw [hN,e2,hn,e1,zUh ho]
 have hz : Nat.beq sz sz = true:=Nat.beq_refl sz;simp only [zFi,e3,zGZ,ho,hy,hh,hz]
 exact ⟨hr,_,rfl,by rw [hc]; exact zQv h⟩
theorem zQm {t q sz r off kk : Nat} {y : Operand} {rows : List (List S)} {c : AV} (hg : o.guard = none) (hd : o.dst = some d) (hL : inL k L = true) (hn : dIn (some d) nm = false) (ho : o.op = .load t y) (hy : opd T σ.env 0 y = .rp q sz r off)
  (hh : σ.hp q = some (.row kk sz rows)) (hr : r < rows.length) (hc : zJD T t ((rows.getD r []).drop off) = some c) (h : evD T Γ M nm L [] n all os (k + 1) (σ.putN d c) K) : evD T Γ M nm L [] n all (o :: os) k σ K:=by
 obtain ⟨e1,e2,e3⟩:=zQN (Γ:=Γ) (own:=dIn (some d) M) ho hy;unfold evD;rw [hg,hd,e2,hL,hn,e1]
 have hz : Nat.beq sz sz = true:=Nat.beq_refl sz;simp only [inL,Bool.false_and,zTn,zFi,e3,zGZ,ho,hy,hh,hz]
 exact ⟨hr,_,rfl,by rw [hc]; exact zQv h⟩
end
end Go.Abs
namespace Go.Abs
inductive Rd (hp : Nat → Option Ob) : AV → S → Prop
 | s (x : S) : Rd hp (.s x) x
 | nl (sz : Nat) : Rd hp (.nl sz) (.sl sz [])
 | row {k e sz : Nat} {rows : List (List S)} (h : hp k = some (.row e sz rows)) : Rd hp (.orow k) (.sl sz rows)
 | arow {k e sz : Nat} {rows : List (List AV)} {rs : List (List S)} (h : hp k = some (.arow e sz rows)) (hl : rows.length = rs.length) (hr : ∀ r ∈ rs,r.length = sz)
   (hc : ∀ (i : Nat) x s,rows.flatten[i]? = some x → rs.flatten[i]? = some s → Rd hp x s) : Rd hp (.orow k) (.sl sz rs)
 | box {k off bt : Nat} {cells : List AV} {ss : List S} (h : hp k = some (.box bt cells)) (hl : cells.length = ss.length)
   (hc : ∀ (i : Nat) x s,cells[i]? = some x → ss[i]? = some s → Rd hp x s) : Rd hp (.op k off) (.pt (ss.drop off))
 | el {k e sz i off : Nat} {rows : List (List AV)} {rs : List (List S)} (h : hp k = some (.arow e sz rows)) (hl : rows.length = rs.length) (hr : ∀ r ∈ rs,r.length = sz) (hi : i < rs.length)
   (hc : ∀ (i : Nat) x s,rows.flatten[i]? = some x → rs.flatten[i]? = some s → Rd hp x s) : Rd hp (.rp k sz i off) (.pt ((rs.getD i []).drop off))
def allG (G : Nat → Prop) (β : Nat → Value) (hp : Nat → Option Ob) (b : Nat) : Prop:=G b ∨ ∃ k ob,hp k = some ob ∧ blk (β k) = some b
theorem Rd.rep {c : Cx} {G : Nat → Prop} {β : Nat → Value} {σ : St} {a : Act} {w : World} (hc : Conc c G β σ a w) {x : AV} {s : S} (h : Rd σ.hp x s) : ∀ {v : Value},AVal G w β x v → Rep (allG G β σ.hp) w s v:=by
 have hk : Keep G (allG G β σ.hp) w w:=⟨fun _ h => .inl h,fun _ _ => rfl⟩
 induction h with
 | s x => intro v hv; simp only [AVal] at hv; exact hv.keep hk
 | nl sz => intro v hv; simp only [AVal] at hv; subst hv; simp [Rep]
 | @row k e sz rows h =>
  intro v hv;simp only [AVal] at hv;obtain ⟨hlen,hsz,ho⟩:=hc.hp k _ h;rw [hv.1]
  rcases ho with ⟨h1,rfl⟩ | ⟨b,cap,cur,h1,h2,h3,h4,h5,h6,h7⟩
  ·rw [h1]; simp [Rep]
  ·rw [h1]
   simp only [Rep]
   refine .inr ⟨b,0,cap,rfl,h2,zB4 hlen (RepRow.mk fun i s hi => ⟨.inr ⟨k,_,h,by rw [h1]; rfl⟩,?_⟩)⟩
   obtain ⟨u,hu,hr⟩:=h7 i s hi;exact ⟨u,by simp [World.cell?,h4,hu],hr.keep hk⟩
 | @arow k e sz rows rs h hl hr hcc ih =>
  intro v hv;simp only [AVal] at hv;obtain ⟨hlen,hsz,ho⟩:=hc.hp k _ h;rw [hv.1]
  rcases ho with ⟨h1,rfl⟩ | ⟨b,cap,cur,h1,h2,h3,h4,h5,h6,h7⟩
  ·obtain rfl : rs = []:=List.length_eq_zero_iff.1 (by simpa using hl.symm)
   rw [h1]; simp [Rep]
  ·rw [h1]
   simp only [Rep]
   refine .inr ⟨b,0,cap,by rw [hl],by rw [← hl]; exact h2,zB4 hr (RepRow.mk fun i s hi => ⟨.inr ⟨k,_,h,by rw [h1]; rfl⟩,?_⟩)⟩
   have hfl:=zBa hlen;have hfs:=zBa hr;have hil : i < rows.flatten.length :=(by rw [hfl,hl,← hfs]; exact (List.getElem?_eq_some_iff.1 hi).1);obtain ⟨u,hu,hr',_⟩:=h7 i _ (List.getElem?_eq_getElem hil)
   exact ⟨u,by simp [World.cell?,h4,hu],ih i _ s (List.getElem?_eq_getElem hil) hi hr'⟩
 | @box k off bt cells ss h hl hcc ih =>
  intro v hv;simp only [AVal] at hv;obtain ⟨b,e,cur,h1,h2,h3,h4,h5,h6⟩:=hc.hp k _ h;obtain ⟨b',hβ,rfl⟩:=hv;rw [h1] at hβ; cases hβ
  simp only [Rep]
  have hrow : RepRow (allG G β σ.hp) w b ss 0:=RepRow.mk fun i s hi => by
   refine ⟨.inr ⟨k,_,h,by rw [h1]; rfl⟩,?_⟩
   have hil : i < cells.length :=(by rw [hl]; exact (List.getElem?_eq_some_iff.1 hi).1);obtain ⟨u,hu,hr⟩:=h5.get (List.getElem?_eq_getElem hil)
   rw [Array.getElem?_toList] at hu;exact ⟨u,by simp [World.cell?,h2,hu],ih i _ s (List.getElem?_eq_getElem hil) hi hr⟩
  exact ⟨b,off,rfl,by simpa using hrow.drop off⟩
 | @el k e sz i off rows rs h hl hr hi hcc ih =>
  intro v hv;simp only [AVal] at hv;obtain ⟨b,n,cp,hβ,rfl⟩:=hv;obtain ⟨hlen,hsz,ho⟩:=hc.hp k _ h;rcases ho with ⟨h1,rfl⟩ | ⟨b',cap,cur,h1,h2,h3,h4,h5,h6,h7⟩
  ·simp at hl; omega
  rw [hβ] at h1; cases h1
  simp only [Rep]
  refine ⟨b,i * sz + off,rfl,?_⟩
  have hfl:=zBa hlen;have hfs:=zBa hr;have hrow : RepRow (allG G β σ.hp) w b rs.flatten 0:=RepRow.mk fun q s hq => by
   refine ⟨.inr ⟨k,_,h,by rw [hβ]; rfl⟩,?_⟩
   have hil : q < rows.flatten.length :=(by rw [hfl,hl,← hfs]; exact (List.getElem?_eq_some_iff.1 hq).1);obtain ⟨u,hu,hr',_⟩:=h7 q _ (List.getElem?_eq_getElem hil)
   exact ⟨u,by simp [World.cell?,h4,hu],ih q _ s (List.getElem?_eq_getElem hil) hq hr'⟩
  have hrows:=(zB4 hr hrow).get (i:=i) (r:=rs[i]) (List.getElem?_eq_getElem hi)
  have hg : rs.getD i [] = rs[i] :=(by simp [List.getElem?_eq_getElem hi]);rw [hg]
  have:=hrows.2.drop off
  simpa using this
def RdV (hp : Nat → Option Ob) : AV → AV → Prop
 | x,.s y => Rd hp x y
 | .agg xs,.agg ys => xs.length = ys.length ∧ ∀ (i : Nat) x y,xs[i]? = some x → ys[i]? = some y → ∃ s,y = .s s ∧ Rd hp x s
 | _,.junk => True
 | _,_ => False
theorem RdV.aval {c : Cx} {G : Nat → Prop} {β : Nat → Value} {σ : St} {a : Act} {w : World} (hc : Conc c G β σ a w) {x y : AV} (h : RdV σ.hp x y) {v : Value} (hv : AVal G w β x v) : AVal (allG G β σ.hp) w β y v:=by
 unfold RdV at h;split at h
 ·simp only [AVal]; exact h.rep hc hv
 ·simp only [AVal] at hv ⊢;obtain ⟨vs,rfl,hvs⟩:=hv;refine ⟨vs,rfl,AVals.mk (by rw [← h.1]; exact hvs.length) fun i y u hy hu => ?_⟩
  rename_i xs ys
  have hil : i < xs.length :=(by rw [h.1]; exact (List.getElem?_eq_some_iff.1 hy).1);obtain ⟨s,rfl,hs⟩:=h.2 i _ y (List.getElem?_eq_getElem hil) hy;obtain ⟨u',hu',hr⟩:=hvs.get (List.getElem?_eq_getElem hil)
  rw [hu] at hu'; cases hu'
  simp only [AVal]; exact hs.rep hc hr
 ·simp only [AVal]
 ·exact h.elim
def RdL (hp : Nat → Option Ob) (env : Nat → AV) : List (Nat × AV) → Prop
 | [] => True
 | (t,y) :: r => RdV hp (env t) y ∧ RdL hp env r
theorem RdL.get {c : Cx} {G : Nat → Prop} {β : Nat → Value} {σ : St} {a : Act} {w : World} (hc : Conc c G β σ a w) : ∀ {l : List (Nat × AV)},RdL σ.hp σ.env l → ∀ t,AVal (allG G β σ.hp) w β (ofL l t) (a.tmps.getD t undef)
 | [],_,t => by simp only [ofL,AVal]
 | (u,y) :: r,h,t => by
  simp only [ofL]
  cases e : Nat.beq t u with
  | true => obtain rfl:=Nat.eq_of_beq_eq_true e; exact h.1.aval hc (hc.env t)
  | false => exact RdL.get hc h.2 t
def zTB : List (Nat × AV) → Bool
 | [] => true
 | (_,y) :: r => (y.pers || (match y with | .junk => true | _ => false)) && zTB r
theorem zQD {n : Nat} : ∀ {l : List (Nat × AV)},zTB l = true → ∀ t,(ofL l t).lt n = true
 | [],_,t => rfl
 | (u,y) :: r,h,t => by
  simp only [zTB,Bool.and_eq_true,Bool.or_eq_true] at h;simp only [ofL]
  cases Nat.beq t u with
  | true =>
   rcases h.1 with h1 | h1
   ·exact AV.pers_lt h1
   ·cases y <;> simp at h1
    rfl
  | false => exact zQD h.2 t
theorem Le.giveWhole {c : Cx} {σ : St} (l : List (Nat × AV)) (h : RdL σ.hp σ.env l) (hp : zTB l = true) : Le c σ ⟨ofL l,fun _ => none,σ.nx⟩:=by
 unfold Le;intro G β a w hc;have hk : Keep G (allG G β σ.hp) w w:=⟨fun _ h => .inl h,fun _ _ => rfl⟩
 refine ⟨allG G β σ.hp,β,{ defers:=hc.defers,size:=hc.size,env:=RdL.get hc h,envlt:=zQD hp,hp:=fun k ob hk => (by cases hk),hplt:=fun k ob hk => (by cases hk),inj:=fun k k' ob ob' hk => (by cases hk),lt:=fun b hb => ?_,sub:=fun b hb => .inl (hc.sub b hb),new:=fun b hb => ?_,fr:=hc.fr,stay:=hc.stay,glob:=hc.glob.keep hk }⟩
 ·rcases hb with hb | ⟨k,ob,h1,h2⟩
  ·exact hc.lt b hb
  ·exact hc.blk_lt h1 h2
 ·rcases hb with hb | ⟨k,ob,h1,h2⟩
  ·exact hc.new b hb
  ·exact .inr (row_block (hc.hp k ob h1) b h2).2
end Go.Abs
namespace Go.Abs
def zAR (L : List (List Int)) : List (List AV):=L.map fun r => [.s (.sl 1 (r.map (irow .i64)))]
def nils (k : Nat) : List (List AV):=List.replicate k [.s (.sl 1 [])]
theorem zR6 {α β : Type} (f : α → β) : ∀ (l : List α),(l.map fun r => [f r]).flatten = l.map f
 | [] => rfl
 | x :: l => by simp [zR6 f l]
theorem zO3 {hp : Nat → Option Ob} {k e : Nat} {L : List (List Int)} (h : hp k = some (.arow e 1 (zAR L))) : Rd hp (.orow k) (.sl 1 (L.map fun r => [S.sl 1 (r.map (irow .i64))])) :=
 .arow h (by simp [zAR]) (fun r hr => by obtain ⟨r',_,rfl⟩:=List.mem_map.1 hr; rfl) fun i x s hx hs => by
  have e1 : (zAR L).flatten = L.map fun r => AV.s (.sl 1 (r.map (irow .i64))):=zR6 _ L
  have e2 : (L.map fun r => [S.sl 1 (r.map (irow .i64))]).flatten = L.map fun r => S.sl 1 (r.map (irow .i64)):=zR6 _ L
  rw [e1,List.getElem?_map] at hx;rw [e2,List.getElem?_map] at hs;cases hi : L[i]? with
  | none => rw [hi] at hx; cases hx
  | some r =>
   rw [hi] at hx hs;cases hx; cases hs
   exact .s _
theorem zNv (m : Nat) : (List.replicate m [S.sl 1 []]).map (·.map AV.s) = nils m:=by simp [nils]
theorem zE2 {ρ : List (Nat × Nat)} (L : List (List Int)) : (zAR L).map (AV.renAll ρ) = zAR L:=by
 simp [zAR,AV.renAll,AV.ren]
theorem zFY {ρ : List (Nat × Nat)} (m : Nat) : (nils m).map (AV.renAll ρ) = nils m:=by
 simp [nils,AV.renAll,AV.ren]
theorem zTt {n : Nat} {l : List AV} (h : ∀ x ∈ l,∃ s,x = AV.s s) : AV.ltAll n l = true:=zEE fun x hx => by obtain ⟨s,rfl⟩:=h x hx; rfl
theorem zFR {n k : Nat} {L : List (List Int)} : AV.ltAll n (nils k ++ zAR L).flatten = true:=zTt fun x hx => by
 simp only [nils,zAR,List.mem_flatten,List.mem_append,List.mem_replicate,List.mem_map] at hx;obtain ⟨l,(⟨_,rfl⟩ | ⟨r,_,rfl⟩),hx⟩:=hx
 ·exact ⟨_,List.mem_singleton.1 hx⟩
 ·exact ⟨_,List.mem_singleton.1 hx⟩
theorem zIE {n : Nat} : ∀ {xs ys : List AV},AV.ltAll n (xs ++ ys) = (AV.ltAll n xs && AV.ltAll n ys)
 | [],_ => rfl
 | x :: xs,ys => by simp [AV.ltAll,zIE (xs:=xs),Bool.and_assoc]
theorem lt_1 {n k q : Nat} {L : List (List Int)} : AV.ltAll n (nils k ++ [.orow q] :: zAR L).flatten = decide (q < n):=by
 have h1 : AV.ltAll n (nils k).flatten = true :=(by have:=zFR (n:=n) (k:=k) (L:=[]); simpa [zAR] using this);have h2 : AV.ltAll n (zAR L).flatten = true:=zFR (k:=0)
 rw [List.flatten_append,List.flatten_cons,zIE,zIE,h1,h2]
 simp [AV.ltAll,AV.lt]
theorem lt_p {n : Nat} {L : List (List Int)} : AV.ltAll n (zAR L).flatten = true:=zFR (k:=0)
theorem zDG {k : Nat} {x : List AV} {l : List (List AV)} : (nils k ++ x :: l).getD k [] = x:=by
 simp [nils,List.getD_eq_getElem?_getD,List.getElem?_append]
theorem zID {k : Nat} {x y : List AV} {l : List (List AV)} : (nils k ++ x :: y :: l).getD (k + 1) [] = y:=by
 simp [nils,List.getD_eq_getElem?_getD,List.getElem?_append]
theorem zQK {k : Nat} {x : List AV} {L : List (List Int)} : (nils (k + 1) ++ zAR L).set k x = nils k ++ x :: zAR L:=by
 have : nils (k + 1) ++ zAR L = nils k ++ [.s (.sl 1 [])] :: zAR L :=(by simp [nils,List.replicate_succ']);rw [this,List.set_append_right _ _ (by simp [nils])]
 simp [nils]
theorem zOk {k : Nat} {L : List (List Int)} : (nils (k + 1) ++ zAR L).getD k [] = [.s (.sl 1 [])]:=by
 have : nils (k + 1) ++ zAR L = nils k ++ [.s (.sl 1 [])] :: zAR L :=(by simp [nils,List.replicate_succ']);rw [this,zDG]
theorem zC1 {l : List Int} {i : Nat} {v : Int} (h : l[i]? = some v) : (l.map (irow .i64)).getD i [] = [.int .i64 v]:=by
 simp [List.getD_eq_getElem?_getD,h,irow]
theorem zFQ (l : List Int) : (l.map (irow .i64)).length = l.length:=List.length_map ..
theorem zFX {e : Nat} {k q : Nat} {L : List (List Int)} (ρ : List (Nat × Nat)) (h : look q ρ = some q) : (Ob.arow e 1 (nils k ++ [.orow q] :: zAR L)).ren ρ = .arow e 1 (nils k ++ [.orow q] :: zAR L):=by
 simp [Ob.ren,zFY,zE2,AV.renAll,AV.ren,h]
theorem zQG {e : Nat} {k : Nat} {L : List (List Int)} (ρ : List (Nat × Nat)) : (Ob.arow e 1 (nils k ++ zAR L)).ren ρ = .arow e 1 (nils k ++ zAR L):=by
 simp [Ob.ren,zFY,zE2]
theorem zHF {l : List Int} {j : Nat} {v x : Int} (h : l[j]? = some v) : (l.map (irow .i64)).set j (((l.map (irow .i64)).getD j []).take 0 ++ [.int .i64 x] ++ ((l.map (irow .i64)).getD j []).drop (0 + 1)) = (l.set j x).map (irow .i64):=by
 rw [zC1 h,List.map_set]; rfl
theorem zF1 {j : Nat} {x : Int} (l : List Int) : (List.replicate (j + 1) 0 ++ l).set j x = List.replicate j 0 ++ x :: l:=by
 rw [List.replicate_succ',List.append_assoc,List.set_append_right _ _ (by simp)]
 simp
theorem zUT {e : Nat} {a q : Nat} {r : List Int} {L : List (List Int)} {p : Nat → AV} (ρ : List (Nat × Nat)) (h : Nat.beq q q = true) : (Ob.frz q (.s (.sl 1 (r.map (irow .i64)))) p (.arow e 1 (nils a ++ [.orow q] :: zAR L))).ren ρ = .arow e 1 (nils a ++ zAR (r :: L)):=by
 simp [Ob.frz,Ob.ren,nils,zAR,AV.frzAll,AV.frz,AV.renAll,AV.ren,h]
theorem zUF {e : Nat} {a q : Nat} {L : List (List Int)} (r : AV) (p : Nat → AV) (ρ : List (Nat × Nat)) : (Ob.frz q r p (.arow e 1 (nils a ++ zAR L))).ren ρ = .arow e 1 (nils a ++ zAR L):=by
 simp [Ob.frz,Ob.ren,nils,zAR,AV.frzAll,AV.frz,AV.renAll,AV.ren]
def zK0 (e : Nat) (rows : List (List AV)) (dyn : Nat → Option Ob) : Nat → Option Ob
 | 0 => some (.arow e 1 rows)
 | k + 1 => dyn k
def zDo (t : Nat) : List (List AV):=(List.range t).map fun q => [.orow (q + 1)]
def ddyn (e k : Nat) (z : List Int) (L : List (List Int)) (q : Nat) : Option Ob :=
 if q < k then some (.row e 1 (z.map (irow .i64))) else (L[q - k]?).map fun r => .row e 1 (r.map (irow .i64))
theorem Le.forgetH {c : Cx} {σ : St} (l : List (Nat × AV)) (hp' : Nat → Option Ob) (n : Nat) (h : holds σ.env l) (hh : ∀ k,σ.hp k = hp' k) (hn : σ.nx = n) : Le c σ ⟨ofL l,hp',n⟩:=by
 obtain rfl : σ.hp = hp':=funext hh;subst hn;exact Le.forget l h
theorem zKE (t : Nat) : (zDo t).length = t:=by simp [zDo]
theorem zOP {t q : Nat} (h : q < t) : (zDo t).getD q [] = [.orow (q + 1)]:=by
 simp [zDo,List.getD_eq_getElem?_getD,h]
theorem zSq {t m : Nat} : (zDo t ++ nils (m + 1)).getD t [] = [.s (.sl 1 [])]:=by
 simp [zDo,nils,List.getD_eq_getElem?_getD,List.getElem?_append]
theorem zSr {t m : Nat} : (zDo t ++ nils (m + 1)).set t [.orow (t + 1)] = zDo (t + 1) ++ nils m:=by
 rw [List.set_append_right _ _ (by simp [zDo])]
 simp [zDo,nils,List.range_succ,List.replicate_succ]
theorem zCR {e k : Nat} {z r : List Int} {L : List (List Int)} : ddyn e k z (r :: L) k = some (.row e 1 (r.map (irow .i64))):=by
 simp [ddyn]
theorem zH3 {e k : Nat} {z r s : List Int} {L : List (List Int)} : ddyn e k z (r :: s :: L) (k + 1) = some (.row e 1 (s.map (irow .i64))):=by
 unfold ddyn;rw [if_neg (by omega),show k + 1 - k = 1 by omega]; rfl
theorem zRW {e k : Nat} {z : List Int} {L : List (List Int)} (q : Nat) : ddyn e (k + 1) z L q = ddyn e k z (z :: L) q:=by
 unfold ddyn
 by_cases h : q < k
 ·rw [if_pos h,if_pos (by omega)]
 ·by_cases h2 : q = k
  ·subst h2; rw [if_pos (by omega),if_neg h]; simp
  ·rw [if_neg h,if_neg (by omega),show q - k = (q - (k + 1)) + 1 by omega]; simp
theorem zMG {e k : Nat} {z r r' : List Int} {L : List (List Int)} (q : Nat) : (bif Nat.beq (q + 1) (k + 1) then some (Ob.row e 1 (r'.map (irow .i64))) else ddyn e k z (r :: L) q) = ddyn e k z (r' :: L) q:=by
 cases h : Nat.beq (q + 1) (k + 1) with
 | true =>
  obtain rfl : q = k :=(by have:=Nat.eq_of_beq_eq_true h; omega);rw [cond_true,zCR]
 | false =>
  have hne : q ≠ k:=fun e => by subst e; rw [Nat.beq_refl] at h; cases h
  rw [cond_false]
  unfold ddyn
  by_cases h2 : q < k
  ·rw [if_pos h2,if_pos h2]
  ·rw [if_neg h2,if_neg h2,show q - k = (q - k - 1) + 1 by omega]; rfl
end Go.Abs
namespace Go.Abs
theorem PSound.ofOwn {P : Program} {f : Nat} {R : List AV → List Ob → AV → List (Option Ob) → Prop} (hcall : ∀ args w,(callFunc f args).run P w = .ok (.enter f args) w) (h : zJM P f R) : PSound P f (zCl R) :=
 ⟨hcall,fun _ _ _ _ _ _ _ _ _ hs => hs.elim,fun R' hR' => (by
  obtain rfl : R = R' :=(by simpa [zCl] using hR');exact h),fun R hR => (by cases hR)⟩
def zTx (s : zAx) : List AV → List Ob → AV → List (Option Ob) → Prop:=match s.own with | some R => R | none => fun _ _ _ _ => False
def orS (s t : zAx) : zAx:=zCl fun xs os x os' => zTx s xs os x os' ∨ zTx t xs os x os'
theorem zOT {P : Program} {f : Nat} {s t : zAx} (hs : PSound P f s) (ht : PSound P f t) : PSound P f (orS s t) :=
 PSound.ofOwn hs.1 fun G w β xs vs os x os' h1 h2 h3 h4 h5 h6 => by
  rcases h6 with h6 | h6
  ·unfold zTx at h6;cases hR : s.own with
   | none => rw [hR] at h6; exact h6.elim
   | some R => rw [hR] at h6; exact hs.2.2.1 R hR G w β xs vs os x os' h1 h2 h3 h4 h5 h6
  ·unfold zTx at h6;cases hR : t.own with
   | none => rw [hR] at h6; exact h6.elim
   | some R => rw [hR] at h6; exact ht.2.2.1 R hR G w β xs vs os x os' h1 h2 h3 h4 h5 h6
structure Wrote (b off : Nat) (v : Value) (cur : Array Value) (e : Nat) (w w' : World) : Prop where
 os : w'.os = w.os
 tape : w'.tape = w.tape
 output : w'.output = w.output
 size : w'.heap.size = w.heap.size
 old : ∀ i,i ≠ b → w'.heap[i]? = w.heap[i]?
 new : w'.heap[b]? = some (.cells (cur.setIfInBounds off v) e (0,0))
theorem Wrote.cell {b off e : Nat} {v : Value} {cur : Array Value} {w : World} (h : w.heap[b]? = some (.cells cur e (0,0))) : Wrote b off v cur e w (w.setCell ⟨b,off,none⟩ v) :=
 ⟨rfl,rfl,rfl,by simp [World.setCell],fun i hi => by
  simp only [World.setCell,Array.getElem?_modify]
  rw [if_neg (Ne.symm hi)],by simp [World.setCell,Array.getElem?_modify,h]⟩
theorem Wrote.same {b off e : Nat} {v : Value} {cur : Array Value} {w : World} (h : w.heap[b]? = some (.cells cur e (0,0))) (hc : cur[off]? = some v) : Wrote b off v cur e w w :=
 ⟨rfl,rfl,rfl,rfl,fun _ _ => rfl,by
  rw [h]
  have : cur.setIfInBounds off v = cur:=by
   apply Array.ext
   ·simp
   ·intro i h1 h2;rw [Array.getElem_setIfInBounds (by simpa using h2)]
    split
    ·rename_i e; subst e
     rw [Array.getElem?_eq_getElem h2] at hc;exact (Option.some.inj hc).symm
    ·rfl
  rw [this]⟩
theorem zSd {G : Nat → Prop} {w w' : World} {b : Nat} (hb : ¬ G b) (h : ∀ i,i ≠ b → w'.heap[i]? = w.heap[i]?) : Keep G G w w':=⟨fun _ h => h,fun i hi => h i fun e => hb (e ▸ hi)⟩
theorem zRM {P : Program} {f D e off : Nat} {cells cells' : List AV} {p : AV} (hoff : cells[off]? = some p) (hp : p = .s .np ∨ p = .op 0 off) (hrow : cells[off + 1]? = some (.orow 1))
  (hc' : cells' = (cells.set off (.op 0 off)).set (off + 1) (.orow 2)) (hpers : ∀ (i : Nat) x,cells[i]? = some x → i ≠ off → i ≠ off + 1 → x.pers = true)
  (hwalk : ∀ (b : Nat) (w : World) (cur : Array Value),w.heap[b]? = some (.cells cur D (0,0)) → cur.size = cells.length → (p = .s .np → cur[off]? = some (.pointer none)) → (p = .op 0 off → cur[off]? = some (.pointer (some ⟨b,off,none⟩))) →
   Calls P f #[.pointer (some ⟨b,off,none⟩)] w fun e w' => e = .returned (.tuple #[]) ∧ Wrote b off (.pointer (some ⟨b,off,none⟩)) cur D w w') :
  zJM P f fun xs os x os' => ∃ bs,xs = [.op 0 off] ∧ os = [.box D cells,.row e 1 bs] ∧ x = .tup [] ∧ os' = [some (.box D cells'),none,some (.row e 1 bs)]:=by
 rintro G w β xs vs os x os' hlt hgl hv hxl hobs ⟨bs,rfl,rfl,rfl,rfl⟩
 obtain ⟨hob0,_⟩:=hobs.1 0 (.box D cells) rfl;obtain ⟨hob1,_⟩:=hobs.1 1 (.row e 1 bs) rfl;have hdis : ∀ b,blk (β 0) = some b → blk (β 1) ≠ some b:=fun b => hobs.2 0 1 (.box D cells) (.row e 1 bs) rfl rfl (by decide) b
 obtain ⟨b,e',cur,h1,h2,h3,h4,h5,h6,rfl⟩:=hob0;simp only [AVals,AVal] at hv;obtain ⟨v,vs',rfl,⟨b',hb',rfl⟩,rfl⟩:=hv;have hbb : b' = b :=(by rw [h1] at hb'; simpa using hb'.symm);subst hbb;have hsz : cur.size = cells.length :=(by simpa using h5.length);have hval : ∀ v,cur[off]? = some v → AVal G w β p v:=fun v hv => by
  obtain ⟨u,hu,hr⟩:=h5.get hoff;rw [Array.getElem?_toList,hv] at hu; cases hu; exact hr
 have hin : off < cur.size :=(by rw [hsz]; exact (List.getElem?_eq_some_iff.1 hoff).1);refine (hwalk b' w cur h2 hsz (fun e => ?_) (fun e => ?_)).mono fun e2 w' ⟨he,hw⟩ => ?_
 ·have:=hval _ (Array.getElem?_eq_getElem hin)
  rw [e] at this;simp only [AVal,Rep] at this;rw [Array.getElem?_eq_getElem hin,this]
 ·have:=hval _ (Array.getElem?_eq_getElem hin)
  rw [e] at this;simp only [AVal] at this;obtain ⟨b2,hb2,hv2⟩:=this;rw [h1] at hb2; cases hb2
  rw [Array.getElem?_eq_getElem hin,hv2]
 ·have hk : Keep G G w w':=zSd h3 hw.old
  let β' : Nat → Value:=fun k => if k = 2 then β 1 else β k
  have hβ0 : β' 0 = β 0:=if_neg (by decide)
  have hβ2 : β' 2 = β 1:=if_pos rfl;have hpp : AVals G w' β' cells' (cur.setIfInBounds off (.pointer (some ⟨b',off,none⟩))).toList:=by
   rw [hc']
   refine AVals.mk (by simp [hsz]) fun i x v hx hv => ?_
   rw [Array.getElem?_toList,Array.getElem?_setIfInBounds] at hv;rw [List.getElem?_set] at hx;split at hx
   ·rename_i hi
    subst hi;split at hx
    ·cases hx;rw [if_neg (by omega)] at hv;obtain ⟨u,hu,hr⟩:=h5.get hrow;rw [Array.getElem?_toList,hv] at hu; cases hu
     simp only [AVal] at hr ⊢;rw [hβ2]; exact hr
    ·cases hx
   ·rename_i hi
    rw [List.getElem?_set] at hx;split at hx
    ·rename_i hi2
     subst hi2;rw [if_pos rfl] at hv;split at hx
     ·cases hx;rw [if_pos hin] at hv;cases hv;simp only [AVal]
      exact ⟨b',by rw [hβ0]; exact h1,rfl⟩
     ·cases hx
    ·rename_i hi2
     rw [if_neg hi2] at hv;obtain ⟨u,hu,hr⟩:=h5.get hx;rw [Array.getElem?_toList,hv] at hu; cases hu
     exact AVal.pers (hpers i x hx (Ne.symm hi2) (Ne.symm hi)) (hr.keep hk)
  have hone : ∀ u ∈ (cur.setIfInBounds off (.pointer (some ⟨b',off,none⟩))).toList,u.oneCell' = true:=fun u hu => by
   obtain ⟨i,hi⟩:=List.getElem?_of_mem hu;rw [Array.getElem?_toList,Array.getElem?_setIfInBounds] at hi;split at hi
   ·first | (cases hi; rfl) | (split at hi <;> first | (cases hi; rfl) | cases hi)
   ·exact h6 u (List.mem_of_getElem? (by rw [Array.getElem?_toList]; exact hi))
  have hX : (zD3 P w β 2 G 0).X b':=⟨0,by decide,by rw [h1]; rfl⟩
  have hltc : AV.ltAll 3 cells' = true:=by
   rw [hc']
   refine zC3 fun q y hq => ?_
   rw [List.getElem?_set] at hq;split at hq
   ·split at hq
    ·cases hq; rfl
    ·cases hq
   ·rename_i hi
    rw [List.getElem?_set] at hq;split at hq
    ·split at hq
     ·cases hq; rfl
     ·cases hq
    ·rename_i hi2
     exact AV.pers_lt (hpers q y hq (Ne.symm hi2) (Ne.symm hi))
  refine ⟨.tuple #[],G,β',he,⟨hw.os,hw.tape,hw.output,by rw [hw.size]; exact Nat.le_refl _,fun i hi hx => hw.old i fun e => hx (e ▸ hX)⟩,fun _ h => h,fun _ h => .inl h,fun i hi => by rw [hw.size]; exact hlt i hi,
   ⟨[],rfl,by simp only [AVals]⟩,rfl,(show 2 ≤ 3 by decide),⟨fun i ob hi => ?_,fun i j ob ob' hi hj hne bb hbi => ?_⟩,fun i ob hi ho => ?_⟩
  ·match i,hi with
   | 0,hi =>
    cases hi;refine ⟨⟨b',_,_,by rw [hβ0]; exact h1,hw.new,h3,h4,hpp,hone,rfl⟩,by simpa [Ob.lt] using hltc⟩
   | 1,hi => cases hi
   | 2,hi =>
    cases hi;refine ⟨?_,rfl⟩
    rw [hβ2]
    obtain ⟨g1,g2,g3⟩:=hob1;refine ⟨g1,g2,g3.imp id ?_⟩
    rintro ⟨bg,cap,gc,k1,k2,k3,k4,k5,k6,k7⟩
    have hne : bg ≠ b':=fun e => hdis b' (by rw [h1]; rfl) (by rw [k1,e]; rfl)
    exact ⟨bg,cap,gc,k1,k2,k3,(hw.old bg hne).trans k4,k5,k6,fun i s hi => let ⟨u,hu,hr⟩:=k7 i s hi; ⟨u,hu,hr.keep hk⟩⟩
   | k + 3,hi => simp at hi
  ·match i,j,hi,hj with
   | 0,0,_,_ => exact absurd rfl hne
   | 0,2,_,_ => rw [hβ0] at hbi; rw [hβ2]; exact hdis bb hbi
   | 2,0,_,_ => rw [hβ2] at hbi; rw [hβ0]; exact fun e => hdis bb e hbi
   | 2,2,_,_ => exact absurd rfl hne
   | 1,_,hi,_ => cases hi
   | _,1,_,hj => cases hj
   | k + 3,_,hi,_ => simp at hi
   | _,k + 3,_,hj => simp at hj
  ·match i,hi with
   | 0,_ => exact hβ0
   | 1,_ => cases ho
theorem zPG {P : Program} {f D e off : Nat} {cells cells' : List AV} (hrow : cells[off + 1]? = some (.orow 1)) (hself : cells[off]? = some (.op 0 off))
  (hc' : cells' = cells.set (off + 1) .junk) (hpers : ∀ (i : Nat) x,cells[i]? = some x → i ≠ off → i ≠ off + 1 → x.pers = true)
  (hwalk : ∀ (b g cap : Nat) (l : List UInt8) (w : World) (cur : Array Value),l ≠ [] → w.cell? ⟨b,off + 1,none⟩ = some (.slice (some ⟨g,0,none⟩) l.length cap) → w.heap[g]? = some (.cells cur e (0,0)) → cur.size = cap * 1 → l.length ≤ cap → l.length ≤ 9223372036854775807 →
   (∀ (j : Nat) x,l[j]? = some x → cur[j]? = some (.int .u8 x.toNat)) →
   Calls P f #[.pointer (some ⟨b,off,none⟩)] w fun e w' => e = .returned (.string ⟨l.toArray⟩) ∧ w' = w.drew.freeze ⟨g,0,none⟩ l.length) :
  zJM P f fun xs os x os' => ∃ l : List UInt8,l ≠ [] ∧ l.length ≤ 9223372036854775807 ∧ xs = [.op 0 off] ∧ os = [.box D cells,.row e 1 (l.map brow)] ∧ x = .s (.str l) ∧ os' = [some (.box D cells'),none]:=by
 rintro G w β xs vs os x os' hlt hgl hv hxl hobs ⟨l,hl0,hlm,rfl,rfl,rfl,rfl⟩
 obtain ⟨hob0,_⟩:=hobs.1 0 (.box D cells) rfl;obtain ⟨hob1,_⟩:=hobs.1 1 (.row e 1 (l.map brow)) rfl;have hdis : ∀ b,blk (β 0) = some b → blk (β 1) ≠ some b:=fun b => hobs.2 0 1 (.box D cells) (.row e 1 (l.map brow)) rfl rfl (by decide) b
 obtain ⟨b,e',cur,h1,h2,h3,h4,h5,h6,rfl⟩:=hob0;simp only [AVals,AVal] at hv;obtain ⟨v,vs',rfl,⟨b',hb',rfl⟩,rfl⟩:=hv;have hbb : b' = b :=(by rw [h1] at hb'; simpa using hb'.symm);subst hbb;have hsz : cur.size = cells.length :=(by simpa using h5.length);obtain ⟨g1,g2,g3⟩:=hob1;rcases g3 with ⟨_,hnil⟩ | ⟨g,cap,gc,k1,k2,k3,k4,k5,k6,k7⟩
 ·exact absurd (by simpa using hnil) hl0
 have hgb : g ≠ b':=fun e => hdis b' (by rw [h1]; rfl) (by rw [k1,e]; rfl)
 have hc1 : cur[off + 1]? = some (β 1):=by
  obtain ⟨u,hu,hr⟩:=h5.get hrow;simp only [AVal] at hr;rw [Array.getElem?_toList] at hu;rw [hu,hr.1]
 have hlen : (l.map brow).length = l.length :=(by simp);refine (hwalk b' g cap l w gc hl0 (by simp [World.cell?,h2,hc1,k1]) k4 k3 (by simpa using k2) hlm (fun j x hx => ?_)).mono fun e2 w' ⟨he,hw⟩ => ?_
 ·obtain ⟨u,hu,hr⟩:=k7 j (.int .u8 x.toNat) (by rw [zFa,List.getElem?_map,hx]; rfl)
  simp only [Rep] at hr;rw [hu,hr]
 ·have hold : ∀ i,i ≠ g → w'.heap[i]? = w.heap[i]?:=fun i hi => by
   rw [hw]
   unfold World.freeze;rw [if_neg (by simpa using hl0)]
   simp only [Array.getElem?_modify]
   rw [if_neg (Ne.symm hi)]; rfl
  have hsize : w'.heap.size = w.heap.size:=by
   rw [hw]; unfold World.freeze; rw [if_neg (by simpa using hl0)]; simp
  have hrest : w'.os = w.os ∧ w'.tape = w.tape ∧ w'.output = w.output:=by
   rw [hw]; unfold World.freeze; rw [if_neg (by simpa using hl0)]; exact ⟨rfl,rfl,rfl⟩
  have hk : Keep G G w w':=zSd k5 hold;have hX : (zD3 P w β 2 G 0).X g:=⟨1,by decide,by rw [k1]; rfl⟩
  have hpp : AVals G w' β cells' cur.toList:=by
   rw [hc']
   refine AVals.mk (by simp [hsz]) fun i x v hx hv => ?_
   rw [List.getElem?_set] at hx;split at hx
   ·split at hx
    ·cases hx; simp only [AVal]
    ·cases hx
   ·obtain ⟨u,hu,hr⟩:=h5.get hx;rw [hv] at hu; cases hu
    exact hr.keep hk
  have hltc : AV.ltAll 2 cells' = true:=by
   rw [hc']
   refine zC3 fun q y hq => ?_
   rw [List.getElem?_set] at hq;split at hq
   ·split at hq
    ·cases hq; rfl
    ·cases hq
   ·rename_i hi
    by_cases hi2 : q = off
    ·subst hi2;rw [hself] at hq; cases hq; rfl
    ·exact AV.pers_lt (hpers q y hq hi2 (Ne.symm hi))
  refine ⟨.string ⟨l.toArray⟩,G,β,he,⟨hrest.1,hrest.2.1,hrest.2.2,by rw [hsize]; exact Nat.le_refl _,fun i hi hx => hold i fun e => hx (e ▸ hX)⟩,fun _ h => h,fun _ h => .inl h,fun i hi => by rw [hsize]; exact hlt i hi,
   by simp only [AVal,Rep],rfl,(show 2 ≤ 2 by decide),⟨fun i ob hi => ?_,fun i j ob ob' hi hj hne bb hbi => ?_⟩,fun i ob hi ho => rfl⟩
  ·match i,hi with
   | 0,hi =>
    cases hi;exact ⟨⟨b',_,cur,h1,(hold b' (Ne.symm hgb)).trans h2,h3,h4,hpp,h6,rfl⟩,by simpa [Ob.lt] using hltc⟩
   | 1,hi => cases hi
   | k + 2,hi => simp at hi
  ·match i,j,hi,hj with
   | 0,0,_,_ => exact absurd rfl hne
   | 1,_,hi,_ => cases hi
   | _,1,_,hj => cases hj
   | k + 2,_,hi,_ => simp at hi
   | _,k + 2,_,hj => simp at hj
end Go.Abs
namespace Go.Abs
section
variable {T : Nat → Option TI} {Γ : Nat → Option zAx} {M nm L : List Nat} {N k n : Nat} {all os : List Oper} {o : Oper} {σ σ' : St} {K : St → Prop} {φ : Option Prop} {x : AV} {d : Nat}
theorem zSS {own : Bool} {t e q kk sz : Nat} {j ti : TI} {y hi : Operand} {n : Int} {ki : IntKind} {rows : List (List AV)} (ho : o.op = .slice t y none (some hi) none) (ht : T t = some ti) (hk : ti.k = .slice e) (hj : T e = some j) (hy : opd T σ.env t y = .orow q)
  (hi' : opd T σ.env 0 hi = .s (.int ki n)) (hh : σ.hp q = some (.arow kk sz rows)) (hz : Nat.beq sz j.size = true) :
  step1 T own o σ = some (some (0 ≤ n ∧ n ≤ rows.length),.orow σ.nx,zBS (zE3 σ q) (.arow kk sz (rows.take n.toNat))):=by
 have e1 : zB8 T own o σ.env = none :=(by simp only [zB8,ho,zKH,hy,AV.nrm,ht,hk,Option.map_none,Option.map_some,hi']);have e2 : zCT T own o σ = none :=(by simp only [zCT,ho,elemOf,ht,hk,hj,hy,hi',hh]);simp only [step1,e1,zBP,e2,zCU,ho,elemOf,ht,hk,hj,hy,hi',hh,hz]
theorem zUq {own : Bool} {t tx e q q2 kk kk2 sz sz2 : Nat} {j ti : TI} {args : Array Operand} {ts : Array Nat} {y z : Operand} {rows rows2 : List (List AV)} (ho : o.op = .call { callee:=.builtin .append,args:=args,argTypes:=ts }) (ha : args.toList = [y,z]) (hts : ts.toList = [t,tx])
  (ht : T t = some ti) (hk : ti.k = .slice e) (hj : T e = some j) (htx : tk T tx = .slice e) (hy : opd T σ.env t y = .orow q) (hz : opd T σ.env tx z = .orow q2) (hh : σ.hp q = some (.arow kk sz rows)) (hh2 : σ.hp q2 = some (.arow kk2 sz2 rows2))
  (h1 : Nat.beq sz j.size = true) (h2 : Nat.beq sz2 j.size = true) (h3 : Nat.beq e kk = true) :
  step1 T own o σ = some (some ((rows.length + rows2.length) * j.bytes ≤ 140737488355328 ∧ rows.length + rows2.length ≤ 9223372036854775807),.orow σ.nx,zBS (zE3 σ q) (.arow e sz (rows ++ rows2))):=by
 have e1 : zB8 T own o σ.env = none :=(by simp only [zB8,ho]);have e2 : zCT T own o σ = none :=(by simp only [zCT,ho,ha,hts,zHu,elemOf,ht,hk,hj,hy,zJa,hh]);simp only [step1,e1,zBP,e2,zCU,ho,ha,hts,elemOf,ht,hk,hj,hy,hz,zJA,hh,zJJ,htx,hh2,h1,h2,h3]
theorem zTO {own : Bool} {t tx e q kk sz sz2 e2 : Nat} {j ti : TI} {args : Array Operand} {ts : Array Nat} {y z : Operand} {rows : List (List AV)} {rows2 : List (List S)} (ho : o.op = .call { callee:=.builtin .copy,args:=args,argTypes:=ts }) (ha : args.toList = [y,z]) (hts : ts.toList = [t,tx])
  (ht : T t = some ti) (hk : ti.k = .slice e) (hj : T e = some j) (htx : tk T tx = .slice e2) (hy : opd T σ.env t y = .orow q) (hz : opd T σ.env tx z = .s (.sl sz2 rows2)) (hh : σ.hp q = some (.arow kk sz rows))
  (h1 : Nat.beq sz j.size = true) (h2 : Nat.beq sz2 j.size = true) :
  step1 T own o σ = some (some ((rows2.map (·.map AV.s)).length = rows.length),.s (.int .i64 (rows.length : Int)),zEo σ q (.arow kk sz (rows2.map (·.map AV.s)))):=by
 have e1 : zB8 T own o σ.env = none :=(by simp only [zB8,ho,ha,hts,zSu,hy]);have e2 : zCT T own o σ = none :=(by simp only [zCT,ho]);simp only [step1,e1,zBP,e2,zCU,ho,ha,hts,elemOf,ht,hk,hj,hy,hz,zJA,hh,zJJ,htx,h1,h2]
theorem zUV {own : Bool} {t e : Nat} {j ti : TI} {y z : Operand} {n m : Int} {k1 k2 : IntKind} (hw : own = true) (ho : o.op = .makeSlice t y z) (ht : T t = some ti) (hk : ti.k = .slice e) (hj : T e = some j) (hy : opd T σ.env 0 y = .s (.int k1 n)) (hz : opd T σ.env 0 z = .s (.int k2 m)) (h1 : Nat.ble 1 j.size = true)
  (hp : zB8 T own o σ.env = none) :
  step1 T own o σ = some (some (0 ≤ n ∧ n ≤ m ∧ m * j.bytes ≤ 281474976710656 ∧ m ≤ 281474976710656),.orow σ.nx,zBS σ (.row e j.size (List.replicate n.toNat j.zero))):=by
 simp only [step1,hp,zBP,zCT,ho,elemOf,ht,hk,hj,hy,hz,h1]
end
end Go.Abs
namespace Go.Abs
def isL (sz : Nat) (p : AV) : Prop:=(∃ q i,p = .rp q sz i 0) ∨ (∃ q,p = .op q 0)
def zCi : AV → Nat
 | .op q _ => q
 | .rp q _ _ _ => q
 | _ => 0
def locO (p : AV) (off : Nat) : AV:=match p with
 | .op q _ => .op q off
 | .rp q sz i _ => .rp q sz i off
 | x => x
def zA9 (hp : Nat → Option Ob) : AV → Option (List AV)
 | .op q 0 => match hp q with | some (.box _ cs) => some cs | _ => none
 | .rp q sz i 0 => match hp q with | some (.arow _ sz' rows) => bif Nat.beq sz sz' then rows[i]? else none | _ => none
 | _ => none
def putC (hp : Nat → Option Ob) (p : AV) (c : List AV) (k : Nat) : Option Ob:=match p with
 | .op q _ => match hp q with | some (.box bt _) => bif Nat.beq k q then some (.box bt c) else hp k | _ => hp k
 | .rp q _ i _ => match hp q with | some (.arow e sz rows) => bif Nat.beq k q then some (.arow e sz (rows.set i c)) else hp k | _ => hp k
 | _ => hp k
theorem zDR {k q : Nat} (h : k ≠ q) : Nat.beq k q = false:=by
 cases e : Nat.beq k q with
 | true => exact absurd (Nat.eq_of_beq_eq_true e) h
 | false => rfl
theorem zCm {hp : Nat → Option Ob} {p : AV} {c : List AV} {k : Nat} (h : k ≠ zCi p) : putC hp p c k = hp k:=by
 unfold putC;split
 ·rename_i q _
  have h : k ≠ q:=h;split
  ·rw [zDR h,cond_false]
  ·rfl
 ·rename_i q _ _ _
  have h : k ≠ q:=h;split
  ·rw [zDR h,cond_false]
  ·rfl
 ·rfl
theorem zKL {hp : Nat → Option Ob} {q o bt : Nat} {cs c : List AV} (h : hp q = some (.box bt cs)) : putC hp (.op q o) c = fun k => bif Nat.beq k q then some (.box bt c) else hp k:=by
 funext k; simp only [putC,h]
theorem zIM {hp : Nat → Option Ob} {q s i o e sz : Nat} {rows : List (List AV)} {c : List AV} (h : hp q = some (.arow e sz rows)) : putC hp (.rp q s i o) c = fun k => bif Nat.beq k q then some (.arow e sz (rows.set i c)) else hp k:=by
 funext k; simp only [putC,h]
theorem zLN {hp : Nat → Option Ob} {q bt : Nat} {cs : List AV} (h : hp q = some (.box bt cs)) : zA9 hp (.op q 0) = some cs:=by simp only [zA9,h]
theorem zFx {hp : Nat → Option Ob} {q e sz i : Nat} {rows : List (List AV)} (h : hp q = some (.arow e sz rows)) : zA9 hp (.rp q sz i 0) = rows[i]?:=by simp only [zA9,h,Nat.beq_refl,cond_true]
theorem zDl {hp : Nat → Option Ob} {sz : Nat} {p : AV} {cs : List AV} (hl : isL sz p) (h : zA9 hp p = some cs) : (∃ q i e rows,p = .rp q sz i 0 ∧ hp q = some (.arow e sz rows) ∧ rows[i]? = some cs) ∨ ∃ q bt,p = .op q 0 ∧ hp q = some (.box bt cs):=by
 rcases hl with ⟨q,i,rfl⟩ | ⟨q,rfl⟩
 ·simp only [zA9] at h;split at h
  ·rename_i e sz' rows hq
   cases hb : Nat.beq sz sz' with
   | false => rw [hb] at h; cases h
   | true =>
    rw [hb,cond_true] at h;obtain rfl:=Nat.eq_of_beq_eq_true hb;exact .inl ⟨q,i,e,rows,rfl,hq,h⟩
  ·cases h
 ·simp only [zA9] at h;split at h
  ·rename_i bt cs' hq
   cases h;exact .inr ⟨q,bt,rfl,hq⟩
  ·cases h
theorem zKi {hp : Nat → Option Ob} {sz : Nat} {p : AV} {c cs : List AV} (hl : isL sz p) (h : zA9 hp p = some cs) : zA9 (putC hp p c) p = some c:=by
 rcases zDl hl h with ⟨q,i,e,rows,rfl,hq,hi⟩ | ⟨q,bt,rfl,hq⟩
 ·rw [zIM hq,zFx (e:=e) (rows:=rows.set i c) (by simp only [Nat.beq_refl,cond_true]),List.getElem?_set,if_pos rfl,if_pos (List.getElem?_eq_some_iff.1 hi).1]
 ·rw [zKL hq,zLN (bt:=bt) (cs:=c) (by simp only [Nat.beq_refl,cond_true])]
theorem zCH {hp hp' : Nat → Option Ob} {sz : Nat} {p : AV} (hl : isL sz p) (h : hp' (zCi p) = hp (zCi p)) : zA9 hp' p = zA9 hp p:=by
 rcases hl with ⟨q',i',rfl⟩ | ⟨q',rfl⟩ <;> (simp only [zCi] at h; simp only [zA9,h])
theorem zSz {hp : Nat → Option Ob} {sz : Nat} {p p' : AV} {c cs : List AV} (hl : isL sz p) (hc : zA9 hp p = some cs) (hl' : isL sz p') (hne : p' ≠ p) : zA9 (putC hp p c) p' = zA9 hp p':=by
 by_cases hb : zCi p' = zCi p
 ·rcases zDl hl hc with ⟨q,i,e,rows,rfl,hq,hi⟩ | ⟨q,bt,rfl,hq⟩
  ·have hp2 : putC hp (.rp q sz i 0) c q = some (.arow e sz (rows.set i c)) :=(by rw [zIM hq]; simp only [Nat.beq_refl,cond_true]);rcases hl' with ⟨q',i',rfl⟩ | ⟨q',rfl⟩ <;> (simp only [zCi] at hb; subst hb)
   ·have hi : i' ≠ i:=fun e => hne (by rw [e])
    rw [zFx hp2,zFx hq,List.getElem?_set,if_neg (Ne.symm hi)]
   ·simp only [zA9,hp2,hq]
  ·have hp2 : putC hp (.op q 0) c q = some (.box bt c) :=(by rw [zKL hq]; simp only [Nat.beq_refl,cond_true]);rcases hl' with ⟨q',i',rfl⟩ | ⟨q',rfl⟩ <;> (simp only [zCi] at hb; subst hb)
   ·simp only [zA9,hp2,hq]
   ·exact absurd rfl hne
 ·exact zCH hl' (zCm hb)
theorem zTC {hp : Nat → Option Ob} {sz' : Nat} {p : AV} {c cs : List AV} (hl : isL sz' p) (hc : zA9 hp p = some cs) {q e sz : Nat} {rows : List (List AV)} (h : hp q = some (.arow e sz rows)) : ∃ rows',putC hp p c q = some (.arow e sz rows') ∧ rows'.length = rows.length:=by
 by_cases hb : q = zCi p
 ·subst hb;rcases zDl hl hc with ⟨q,i,e',rows',rfl,hq,hi⟩ | ⟨q,bt,rfl,hq⟩
  ·simp only [zCi] at h ⊢;rw [hq] at h; cases h
   rw [zIM hq]; exact ⟨_,by simp only [Nat.beq_refl,cond_true]; rfl,List.length_set ..⟩
  ·simp only [zCi] at h;rw [hq] at h; cases h
 ·rw [zCm hb]; exact ⟨rows,h,rfl⟩
section
variable {T : Nat → Option TI} {Γ : Nat → Option zAx} {M nm L : List Nat} {N k n : Nat} {all os : List Oper} {o : Oper} {σ σ' : St} {K : St → Prop} {φ : Option Prop} {x : AV} {d : Nat}
theorem zGK {own : Bool} {sz : Nat} {p : AV} {y : Operand} (hl : isL sz p) (ho : o.op = .nilCheck y) (hy : opd T σ.env 0 y = p) : step1 T own o σ = some (none,p,σ):=by
 have e1 : zB8 T own o σ.env = some (none,p):=by
  rcases hl with ⟨q,i,rfl⟩ | ⟨q,rfl⟩ <;> simp only [zB8,ho,hy]
 simp only [step1,e1]
theorem zGJ {own : Bool} {sz : Nat} {p : AV} {t f off ft : Nat} {ti j : TI} {fs : List (Nat × Nat)} {y : Operand} (hl : isL sz p) (ho : o.op = .fieldAddr t y f) (hy : opd T σ.env 0 y = p) (ht : T t = some ti) (hk : ti.k = .struct fs) (hf : fs[f]? = some (off,ft)) (hj : T ft = some j) (hz : Nat.ble 1 j.size = true) :
  step1 T own o σ = some (none,locO p off,σ):=by
 have e1 : zB8 T own o σ.env = some (none,locO p off):=by
  rcases hl with ⟨q,i,rfl⟩ | ⟨q,rfl⟩ <;> simp only [zB8,ho,hy,zFJ,ht,hk,hf,hj,hz,zLq,locO,Nat.zero_add]
 simp only [step1,e1]
theorem zFy {sz t off : Nat} {ti : TI} {y : Operand} {p c : AV} {cs : List AV} (hg : o.guard = none) (hd : o.dst = some d) (hN : Nat.blt d N = true) (hn : dIn (some d) nm = false) (ho : o.op = .load t y) (ht : T t = some ti) (ha : ti.k.agg = false) (hl : isL sz p) (hy : opd T σ.env 0 y = locO p off)
  (hcs : zA9 σ.hp p = some cs) (hc : cs[off]? = some c) (h : zDF T Γ M nm N all os (σ.putN d c) K) : zDF T Γ M nm N all (o :: os) σ K:=by
 rcases zDl hl hcs with ⟨q,i,e,rows,rfl,hq,hi⟩ | ⟨q,bt,rfl,hq⟩
 ·have hgd : rows.getD i [] = cs :=(by rw [List.getD_eq_getElem?_getD,hi]; rfl);refine zOg hg hd hN hn ho hy hq (List.getElem?_eq_some_iff.1 hi).1 (c:=c) ?_ h;simp only [zMP,ht,ha,hgd]
  rw [List.drop_eq_getElem_cons (List.getElem?_eq_some_iff.1 hc).1]
  simp only [(List.getElem?_eq_some_iff.1 hc).2]
 ·have hcall : callOf T Γ o σ.env = none :=(by simp only [callOf,ho]);exact zAt hg hd hN hcall hn (zTP ho ht ha hy hq hc) trivial h
theorem zOh {sz t off : Nat} {ti : TI} {y z : Operand} {p c : AV} {cs : List AV} (hg : o.guard = none) (hd : o.dst = none) (ho : o.op = .store t y z) (ht : T t = some ti) (hs : ti.size = 1) (hl : isL sz p) (hy : opd T σ.env 0 y = locO p off)
  (hcs : zA9 σ.hp p = some cs) (hlen : cs.length = sz) (hoff : off < sz) (hz : (opd T σ.env t z).cellsA = [c]) (ho1 : c.one = true) (hlt : c.lt σ.nx = true)
  (h : zDF T Γ M nm N all os { σ with hp:=putC σ.hp p (cs.set off c) } K) : zDF T Γ M nm N all (o :: os) σ K:=by
 have hcall : callOf T Γ o σ.env = none :=(by simp only [callOf,ho]);have hset : cs.take off ++ [c] ++ cs.drop (off + 1) = cs.set off c:=by
  rw [List.set_eq_take_append_cons_drop,if_pos (by omega)]; simp
 have h1 : Nat.ble (off + 1) sz = true:=Nat.ble_eq_true_of_le hoff;rcases zDl hl hcs with ⟨q,i,e,rows,rfl,hq,hi⟩ | ⟨q,bt,rfl,hq⟩
 ·have hgd : rows.getD i [] = cs :=(by rw [List.getD_eq_getElem?_getD,hi]; rfl);have hst:=zST (T:=T) (own:=dIn none M) (o:=o) (σ:=σ) ho ht hy hq (Nat.beq_refl _) (by rw [hz,hs]; rfl) (by rw [hs]; exact h1) (by rw [hz]; simp [ho1])
  refine zDW hg hd hcall hst (List.getElem?_eq_some_iff.1 hi).1 ?_;rw [hgd,hz,hs,hset]
  rw [zIM hq] at h;exact h
 ·have hst:=zO8 (T:=T) (own:=dIn none M) (o:=o) (σ:=σ) ho ht hy hq (by rw [hz,hs]; rfl) (by rw [hs,hlen]; exact h1) (by rw [hz]; simp [ho1]) (by rw [hz]; simp [AV.ltAll,hlt])
  refine zDW hg hd hcall hst trivial ?_;rw [hz,hs,hset]
  rw [zKL hq] at h;exact h
end
theorem PSound.giveAll {P : Program} {f : Nat} {R : List AV → (Nat → Option Ob) → Nat → (AV → (Nat → Option Ob) → Nat → Prop) → Prop} {S : List AV → Ret → Prop} (h : PSound P f (zQ7 R))
  (hS : ∀ xs r,S xs r → ∃ y,r = .val y ∧ y.pers = true ∧ R xs (fun _ => none) 0 fun x hp n => RdV hp x y) : PSound P f (zAG S):=by
 refine ⟨h.1,fun G w xs vs r hlt hgl hp hv hs => ?_,fun R hR => (by cases hR),fun R hR => (by cases hR)⟩
 obtain ⟨y,rfl,hy,hR⟩:=hS xs r hs;refine (h.2.2.2 R rfl G w (fun _ => .tuple #[]) xs vs (fun _ => none) 0 _ hlt hgl hv (AV.persAll_lt hp) ⟨fun k ob hk => (by cases hk),fun k ob hk => (by cases hk),fun k k' ob ob' hk => (by cases hk)⟩ hR).mono ?_;rintro e w' ⟨v,G',β',x,hp',n',rfl,hΦ,hn,hfr,hsub,hnew,hlt',hx,hxl,hob,hst⟩
 let c : Cx:=zEq P w (fun _ => .tuple #[]) (fun _ => none) 0 G 0
 have hk : Keep G G' w w':=⟨hsub,fun b hb => hfr.old b (hlt b hb) (by rintro ⟨k,ob,h,_⟩; cases h)⟩
 have hc : Conc c G' β' ⟨fun _ => .junk,hp',n'⟩ { tmps:=#[],defers:=[] } w':={
  defers:=rfl
  size:=rfl
  env:=fun t => by simp only [AVal]
  envlt:=fun t => rfl
  hp:=hob.obs
  hplt:=hob.lts
  inj:=hob.inj
  lt:=hlt'
  sub:=hsub
  new:=hnew
  fr:=hfr
  stay:=⟨hn,hst⟩
  glob:=hgl.keep hk }
 have hmine : ∀ b,c.mine b → w.heap.size ≤ b:=fun b hb => by
  rcases hb with ⟨k,ob,h,_⟩ | h
  ·cases h
  ·exact h
 refine ⟨v,allG G' β' hp',rfl,⟨hfr.os,hfr.tape,hfr.output,hfr.size,fun b hb => hfr.old b hb (by rintro ⟨k,ob,h,_⟩; cases h),fun b hb => .inl (hsub b hb),fun b hb => ?_,fun b hb => ?_⟩,hy,(hΦ.aval hc hx).pers hy⟩
 ·rcases hb with hb | ⟨k,ob,h1,h2⟩
  ·exact (hnew b hb).imp id (hmine b)
  ·exact .inr (hmine b (row_block (hc.hp k ob h1) b h2).2)
 ·rcases hb with hb | ⟨k,ob,h1,h2⟩
  ·exact hlt' b hb
  ·exact hc.blk_lt h1 h2
end Go.Abs
namespace Go.Proofs.YtjdhkpdjecegnaaGreatDoor
open Go.Abs
def zCO (k : Int) (t : List UInt8) (c : Int) (v : AV) : List AV:=[.s (.int .i64 k),.s (.str t),.s (.int .i64 c),v]
mutual
def At (hp : Nat → Option Ob) (e : Nat) (p : AV) : Nd → List Nat → List AV → Nat → Prop
 | .mk k t c ks,keys,pd,w => ∃ v,zA9 hp p = some (zCO k t c v) ∧
   ((v = .s (.sl 4 (Nd.encs ks)) ∧ keys = [] ∧ pd = [p] ∧ w = Nd.cnts ks + 1) ∨ (ks = [] ∧ v = .s (.sl 4 []) ∧ keys = [] ∧ pd = [] ∧ w = 0) ∨
    ∃ q rows keys',v = .orow q ∧ hp q = some (.arow e 4 rows) ∧ rows.length = ks.length ∧ keys = q :: keys' ∧ LAt hp e q 0 ks keys' pd w)
def LAt (hp : Nat → Option Ob) (e q i : Nat) : List Nd → List Nat → List AV → Nat → Prop
 | [],keys,pd,w => keys = [] ∧ pd = [] ∧ w = 0
 | t :: ts,keys,pd,w => ∃ k1 k2 p1 p2 w1 w2,keys = k1 ++ k2 ∧ pd = p1 ++ p2 ∧ w = w1 + w2 ∧ At hp e (.rp q 4 i 0) t k1 p1 w1 ∧ LAt hp e q (i + 1) ts k2 p2 w2
end
mutual
theorem At.len {hp : Nat → Option Ob} {e : Nat} {p : AV} : ∀ {t : Nd} {keys : List Nat} {pd : List AV} {w : Nat},At hp e p t keys pd w → pd.length ≤ w ∧ w ≤ t.cnt
 | .mk k t c ks,keys,pd,w,h => by
  simp only [At] at h
  obtain ⟨v,_,⟨_,_,rfl,rfl⟩ | ⟨_,_,_,rfl,rfl⟩ | ⟨q,rows,keys',_,_,_,_,h⟩⟩:=h
  ·simp [Nd.cnt]
  ·simp
  ·have:=LAt.len h
   simp only [Nd.cnt]; omega
theorem LAt.len {hp : Nat → Option Ob} {e q i : Nat} : ∀ {ts : List Nd} {keys : List Nat} {pd : List AV} {w : Nat},LAt hp e q i ts keys pd w → pd.length ≤ w ∧ w ≤ Nd.cnts ts
 | [],keys,pd,w,h => by
  simp only [LAt] at h
  obtain ⟨_,rfl,rfl⟩:=h
  simp
 | t :: ts,keys,pd,w,h => by
  simp only [LAt] at h
  obtain ⟨k1,k2,p1,p2,w1,w2,_,rfl,rfl,h1,h2⟩:=h
  have:=At.len h1
  have:=LAt.len h2
  simp only [Nd.cnts,List.length_append]; omega
end
structure Sim (hp hp' : Nat → Option Ob) (e : Nat) (D : Nat → Prop) (p0 : AV) : Prop where
 row : ∀ q rows,D q → hp q = some (.arow e 4 rows) → ∃ rows',hp' q = some (.arow e 4 rows') ∧ rows'.length = rows.length
 cell : ∀ p,D (zCi p) → p ≠ p0 → isL 4 p → zA9 hp' p = zA9 hp p
theorem Sim.sub {hp hp' : Nat → Option Ob} {e : Nat} {D D' : Nat → Prop} {p0 : AV} (h : Sim hp hp' e D p0) (hd : ∀ q,D' q → D q) : Sim hp hp' e D' p0 :=
 ⟨fun q rows hq => h.row q rows (hd q hq),fun p hp => h.cell p (hd _ hp)⟩
mutual
theorem At.sameQ {hp hp' : Nat → Option Ob} {e : Nat} {p p0 : AV} : ∀ {t : Nd} {keys : List Nat} {pd : List AV} {w : Nat},At hp e p t keys pd w → isL 4 p → Sim hp hp' e (fun k => k = zCi p ∨ k ∈ keys) p0 → p ≠ p0 → (∀ q j,q ∈ keys → AV.rp q 4 j 0 ≠ p0) → At hp' e p t keys pd w
 | .mk k t c ks,keys,pd,w,h,hl,hs,hne,hb => by
  simp only [At] at h ⊢
  obtain ⟨v,hc,h⟩:=h
  refine ⟨v,by rw [hs.cell p (.inl rfl) hne hl,hc],?_⟩
  rcases h with h | h | ⟨q,rows,keys',h1,h2,h3,rfl,h5⟩
  ·exact .inl h
  ·exact .inr (.inl h)
  ·obtain ⟨rows',h6,h7⟩:=hs.row q rows (.inr List.mem_cons_self) h2
   exact .inr (.inr ⟨q,rows',keys',h1,h6,h7.trans h3,rfl,LAt.sameQ h5 (hs.sub fun k hk => .inr (List.mem_cons.2 hk)) (fun j _ => hb q j List.mem_cons_self) (fun q' j hm => hb q' j (List.mem_cons_of_mem _ hm))⟩)
theorem LAt.sameQ {hp hp' : Nat → Option Ob} {e q i : Nat} {p0 : AV} : ∀ {ts : List Nd} {keys : List Nat} {pd : List AV} {w : Nat},LAt hp e q i ts keys pd w → Sim hp hp' e (fun k => k = q ∨ k ∈ keys) p0 → (∀ j,i ≤ j → AV.rp q 4 j 0 ≠ p0) → (∀ q' j,q' ∈ keys → AV.rp q' 4 j 0 ≠ p0) → LAt hp' e q i ts keys pd w
 | [],_,_,_,h,_,_,_ => h
 | t :: ts,keys,pd,w,h,hs,hne,hb => by
  simp only [LAt] at h ⊢
  obtain ⟨k1,k2,p1,p2,w1,w2,rfl,rfl,rfl,h1,h2⟩:=h
  exact ⟨k1,k2,p1,p2,w1,w2,rfl,rfl,rfl,
   At.sameQ h1 (.inl ⟨q,i,rfl⟩) (hs.sub fun k hk => hk.imp id (List.mem_append_left _)) (hne i (Nat.le_refl _)) (fun q' j hm => hb q' j (List.mem_append_left _ hm)),
   LAt.sameQ h2 (hs.sub fun k hk => hk.imp id (List.mem_append_right _)) (fun j hj => hne j (by omega)) (fun q' j hm => hb q' j (List.mem_append_right _ hm))⟩
end
theorem At.same {hp hp' : Nat → Option Ob} {e : Nat} {p p0 : AV} {t : Nd} {keys : List Nat} {pd : List AV} {w : Nat} (h : At hp e p t keys pd w) (hl : isL 4 p) (hs : Sim hp hp' e (fun k => k = zCi p ∨ k ∈ keys) p0) (hne : p ≠ p0) (hb : zCi p0 ∉ keys) : At hp' e p t keys pd w :=
 h.sameQ hl hs hne fun q j hm e => hb (by rw [← e]; exact hm)
theorem LAt.same {hp hp' : Nat → Option Ob} {e q i : Nat} {p0 : AV} {ts : List Nd} {keys : List Nat} {pd : List AV} {w : Nat} (h : LAt hp e q i ts keys pd w) (hs : Sim hp hp' e (fun k => k = q ∨ k ∈ keys) p0) (hne : ∀ j,i ≤ j → AV.rp q 4 j 0 ≠ p0) (hb : zCi p0 ∉ keys) : LAt hp' e q i ts keys pd w :=
 h.sameQ hs hne fun q j hm e => hb (by rw [← e]; exact hm)
theorem Sim.same {hp hp' : Nat → Option Ob} {e : Nat} {D : Nat → Prop} {p0 : AV} (h : ∀ k,D k → hp' k = hp k) : Sim hp hp' e D p0 :=
 ⟨fun q rows hq hr => ⟨rows,(h q hq).trans hr,rfl⟩,fun p hp _ hl => zCH hl (h _ hp)⟩
mutual
theorem At.base {hp : Nat → Option Ob} {e : Nat} {p p0 : AV} : ∀ {t : Nd} {keys : List Nat} {pd : List AV} {w : Nat},At hp e p t keys pd w → p0 ∈ pd → p0 = p ∨ zCi p0 ∈ keys
 | .mk k t c ks,keys,pd,w,h,hm => by
  simp only [At] at h
  obtain ⟨v,_,⟨_,_,rfl,_⟩ | ⟨_,_,_,rfl,_⟩ | ⟨q,rows,keys',_,_,_,rfl,h⟩⟩:=h
  ·exact .inl (List.mem_singleton.1 hm)
  ·cases hm
  ·rcases LAt.base h hm with ⟨j,_,rfl⟩ | h
   ·exact .inr List.mem_cons_self
   ·exact .inr (List.mem_cons_of_mem _ h)
theorem LAt.base {hp : Nat → Option Ob} {e q i : Nat} {p0 : AV} : ∀ {ts : List Nd} {keys : List Nat} {pd : List AV} {w : Nat},LAt hp e q i ts keys pd w → p0 ∈ pd → (∃ j,i ≤ j ∧ p0 = .rp q 4 j 0) ∨ zCi p0 ∈ keys
 | [],keys,pd,w,h,hm => by
  simp only [LAt] at h
  obtain ⟨_,rfl,_⟩:=h
  cases hm
 | t :: ts,keys,pd,w,h,hm => by
  simp only [LAt] at h
  obtain ⟨k1,k2,p1,p2,w1,w2,rfl,rfl,rfl,h1,h2⟩:=h
  rcases List.mem_append.1 hm with hm | hm
  ·rcases At.base h1 hm with rfl | hm
   ·exact .inl ⟨i,Nat.le_refl _,rfl⟩
   ·exact .inr (List.mem_append_left _ hm)
  ·rcases LAt.base h2 hm with ⟨j,hj,hm⟩ | hm
   ·exact .inl ⟨j,by omega,hm⟩
   ·exact .inr (List.mem_append_right _ hm)
end
mutual
theorem At.loc {hp : Nat → Option Ob} {e : Nat} {p p0 : AV} : ∀ {t : Nd} {keys : List Nat} {pd : List AV} {w : Nat},At hp e p t keys pd w → isL 4 p → p0 ∈ pd → isL 4 p0
 | .mk k t c ks,keys,pd,w,h,hl,hm => by
  simp only [At] at h
  obtain ⟨v,_,⟨_,_,rfl,_⟩ | ⟨_,_,_,rfl,_⟩ | ⟨q,rows,keys',_,_,_,rfl,h⟩⟩:=h
  ·rw [List.mem_singleton.1 hm]; exact hl
  ·cases hm
  ·exact LAt.loc h hm
theorem LAt.loc {hp : Nat → Option Ob} {e q i : Nat} {p0 : AV} : ∀ {ts : List Nd} {keys : List Nat} {pd : List AV} {w : Nat},LAt hp e q i ts keys pd w → p0 ∈ pd → isL 4 p0
 | [],keys,pd,w,h,hm => by
  simp only [LAt] at h
  obtain ⟨_,rfl,_⟩:=h
  cases hm
 | t :: ts,keys,pd,w,h,hm => by
  simp only [LAt] at h
  obtain ⟨k1,k2,p1,p2,w1,w2,rfl,rfl,rfl,h1,h2⟩:=h
  rcases List.mem_append.1 hm with hm | hm
  ·exact At.loc h1 (.inl ⟨q,i,rfl⟩) hm
  ·exact LAt.loc h2 hm
end
theorem zTb {α : Type} {a b S : List α} {x : α} (h : a ++ b = S ++ [x]) : (b = [] ∧ a = S ++ [x]) ∨ ∃ S2,b = S2 ++ [x] ∧ S = a ++ S2:=by
 rcases List.eq_nil_or_concat b with rfl | ⟨b',y,rfl⟩
 ·exact .inl ⟨rfl,by simpa using h⟩
 ·rw [List.concat_eq_append,← List.append_assoc] at h;have:=List.append_inj' h rfl;obtain ⟨h1,h2⟩:=this;cases h2;exact .inr ⟨b',List.concat_eq_append,h1.symm⟩
def Repl (hp : Nat → Option Ob) (e : Nat) (p0 : AV) (S : List AV) (w : Nat) (D : Nat → Prop) (keys : List Nat) (P : (Nat → Option Ob) → List Nat → List AV → Nat → Prop) : Prop :=
 ∃ t0 w0,At hp e p0 t0 [] [p0] t0.cnt ∧ w = w0 + t0.cnt ∧ ∀ hp' new ch w',Sim hp hp' e D p0 → At hp' e p0 t0 new ch w' → ∃ keys2,keys2.Perm (keys ++ new) ∧ P hp' keys2 (S ++ ch) (w0 + w')
theorem zTA {a b n : List Nat} {k2 : List Nat} (h : k2.Perm (a ++ n)) : (k2 ++ b).Perm (a ++ b ++ n) :=
 (h.append_right b).trans (by rw [List.append_assoc,List.append_assoc]; exact (List.perm_append_comm).append_left a)
mutual
theorem At.repl {hp : Nat → Option Ob} {e : Nat} {p p0 : AV} {S : List AV} : ∀ {t : Nd} {keys : List Nat} {w : Nat},At hp e p t keys (S ++ [p0]) w → isL 4 p → (zCi p :: keys).Nodup →
  Repl hp e p0 S w (fun k => k = zCi p ∨ k ∈ keys) keys fun hp' keys2 pd w => At hp' e p t keys2 pd w
 | .mk k t c ks,keys,w,h,hl,hn => by
  have h0:=h
  simp only [At] at h
  obtain ⟨v,hc,⟨rfl,rfl,h2,rfl⟩ | ⟨_,_,_,h2,_⟩ | ⟨q,rows,keys',rfl,hq,hlen,rfl,h⟩⟩:=h
  ·cases S with
   | cons x S => cases S <;> simp at h2
   | nil =>
    obtain rfl : p0 = p:=by simpa using h2
    refine ⟨.mk k t c ks,0,h0,by simp [Nd.cnt],fun hp' new ch w' _ ha => ⟨new,by simp,by simpa using ha⟩⟩
  ·simp at h2
  ·have hn2:=List.nodup_cons.1 hn
   have hb : zCi p0 ∈ q :: keys':=by
    rcases LAt.base h (p0:=p0) (by simp) with ⟨j,_,rfl⟩ | h
    ·exact List.mem_cons_self
    ·exact List.mem_cons_of_mem _ h
   have hne : p ≠ p0:=fun e => hn2.1 (by rw [e]; exact hb)
   obtain ⟨t0,w0,r1,r2,r3⟩:=LAt.repl h hn2.2
   refine ⟨t0,w0,r1,r2,fun hp' new ch w' hs ha => ?_⟩
   obtain ⟨rows',h6,h7⟩:=hs.row q rows (.inr List.mem_cons_self) hq
   obtain ⟨keys2,hp2,hl2⟩:=r3 hp' new ch w' (hs.sub fun k hk => .inr (List.mem_cons.2 hk)) ha
   refine ⟨q :: keys2,by simpa using hp2,?_⟩
   simp only [At]
   exact ⟨.orow q,by rw [hs.cell p (.inl rfl) hne hl,hc],.inr (.inr ⟨q,rows',keys2,rfl,h6,h7.trans hlen,rfl,hl2⟩)⟩
theorem LAt.repl {hp : Nat → Option Ob} {e q i : Nat} {p0 : AV} {S : List AV} : ∀ {ts : List Nd} {keys : List Nat} {w : Nat},LAt hp e q i ts keys (S ++ [p0]) w → (q :: keys).Nodup →
  Repl hp e p0 S w (fun k => k = q ∨ k ∈ keys) keys fun hp' keys2 pd w => LAt hp' e q i ts keys2 pd w
 | [],keys,w,h,hn => by
  simp only [LAt] at h
  simp at h
 | t :: ts,keys,w,h,hn => by
  simp only [LAt] at h
  obtain ⟨k1,k2,p1,p2,w1,w2,rfl,hpd,rfl,h1,h2⟩:=h
  obtain ⟨hq,hn2⟩:=List.nodup_cons.1 hn
  obtain ⟨n1,n2,n12⟩:=List.nodup_append.1 hn2
  have hq1 : q ∉ k1:=fun h => hq (List.mem_append_left _ h)
  have hq2 : q ∉ k2:=fun h => hq (List.mem_append_right _ h)
  rcases zTb hpd.symm with ⟨rfl,rfl⟩ | ⟨S2,rfl,rfl⟩
  ·have hb:=At.base h1 (p0:=p0) (by simp)
   obtain ⟨t0,w0,r1,r2,r3⟩:=At.repl h1 (.inl ⟨q,i,rfl⟩) (List.nodup_cons.2 ⟨hq1,n1⟩)
   refine ⟨t0,w0 + w2,r1,by omega,fun hp' new ch w' hs ha => ?_⟩
   obtain ⟨keys2,hp2,hl2⟩:=r3 hp' new ch w' (hs.sub fun k hk => hk.imp id (List.mem_append_left _)) ha
   refine ⟨keys2 ++ k2,zTA hp2,?_⟩
   simp only [LAt]
   refine ⟨keys2,k2,S ++ ch,[],w0 + w',w2,rfl,by simp,by omega,hl2,?_⟩
   refine LAt.same h2 (hs.sub fun k hk => hk.imp id (List.mem_append_right _)) (fun j hj e => ?_) (fun hm => ?_)
   ·rcases hb with rfl | hb
    ·cases e; omega
    ·rw [← e] at hb; exact hq1 hb
   ·rcases hb with rfl | hb
    ·exact hq2 hm
    ·exact n12 _ hb _ hm rfl
  ·have hb:=LAt.base h2 (p0:=p0) (by simp)
   obtain ⟨t0,w0,r1,r2,r3⟩:=LAt.repl h2 (List.nodup_cons.2 ⟨hq2,n2⟩)
   refine ⟨t0,w1 + w0,r1,by omega,fun hp' new ch w' hs ha => ?_⟩
   obtain ⟨keys2,hp2,hl2⟩:=r3 hp' new ch w' (hs.sub fun k hk => hk.imp id (List.mem_append_right _)) ha
   refine ⟨k1 ++ keys2,by rw [List.append_assoc]; exact hp2.append_left k1,?_⟩
   simp only [LAt]
   refine ⟨k1,keys2,p1,S2 ++ ch,w1,w0 + w',rfl,by simp,by omega,?_,hl2⟩
   refine At.same h1 (.inl ⟨q,i,rfl⟩) (hs.sub fun k hk => hk.imp id (List.mem_append_left _)) (fun e => ?_) (fun hm => ?_)
   ·rcases hb with ⟨j,hj,hb⟩ | hb
    ·rw [hb] at e; cases e; omega
    ·rw [← e] at hb; exact hq2 hb
   ·rcases hb with ⟨j,hj,rfl⟩ | hb
    ·exact hq1 hm
    ·exact n12 _ hm _ hb rfl
end
theorem Sim.put {hp hp' : Nat → Option Ob} {e : Nat} {D : Nat → Prop} {p0 : AV} {c cs : List AV} (hl : isL 4 p0) (hc : zA9 hp p0 = some cs) (h : ∀ k,D k → hp' k = putC hp p0 c k) : Sim hp hp' e D p0 :=
 ⟨fun q rows hq hr => by rw [h q hq]; exact zTC hl hc hr,fun p hp hne hl' => (zCH hl' (h _ hp)).trans (zSz hl hc hl' hne)⟩
def locs (q i n : Nat) : List AV:=(List.range' i n).map fun j => .rp q 4 j 0
theorem LAt.fresh {hp : Nat → Option Ob} {e q : Nat} : ∀ {ts : List Nd} {i : Nat},(∀ j x,ts[j]? = some x → zA9 hp (.rp q 4 (i + j) 0) = some (x.enc.map AV.s)) → LAt hp e q i ts [] (locs q i ts.length) (Nd.cnts ts)
 | [],i,_ => by simp [LAt,locs,Nd.cnts]
 | .mk k t c ks :: ts,i,h => by
  simp only [LAt]
  refine ⟨[],[],[.rp q 4 i 0],locs q (i + 1) ts.length,Nd.cnts ks + 1,Nd.cnts ts,rfl,by simp [locs,List.range'_succ],by simp [Nd.cnts,Nd.cnt],?_,LAt.fresh fun j x hj => ?_⟩
  ·simp only [At]
   exact ⟨.s (.sl 4 (Nd.encs ks)),h 0 (.mk k t c ks) rfl,.inl (by simp)⟩
  ·rw [show i + 1 + j = i + (j + 1) by omega]; exact h (j + 1) x (by simpa using hj)
theorem LAt.copied {hp : Nat → Option Ob} {e q : Nat} {ts : List Nd} (h : hp q = some (.arow e 4 ((Nd.encs ts).map (·.map AV.s)))) : LAt hp e q 0 ts [] (locs q 0 ts.length) (Nd.cnts ts) :=
 LAt.fresh fun j x hj => by
  rw [zFx h,Nat.zero_add,Nd.encs_eq,List.map_map,List.getElem?_map,hj]; rfl
theorem zSC {hp : Nat → Option Ob} : ∀ {rows : List (List AV)} {rs : List (List S)},(∀ (j : Nat) r s,rows[j]? = some r → rs[j]? = some s → r.length = s.length ∧ ∀ (i : Nat) x y,r[i]? = some x → s[i]? = some y → Rd hp x y) → ∀ (i : Nat) x y,rows.flatten[i]? = some x → rs.flatten[i]? = some y → Rd hp x y
 | [],_,_,_,_,_,h,_ => by simp at h
 | _ :: _,[],_,_,_,_,_,h => by simp at h
 | r :: rows,s :: rs,h,i,x,y,hx,hy => by
  obtain ⟨hl,h0⟩:=h 0 r s (by simp) (by simp)
  rw [List.flatten_cons,List.getElem?_append] at hx hy
  by_cases hi : i < r.length
  ·rw [if_pos hi] at hx;rw [if_pos (hl ▸ hi)] at hy;exact h0 i x y hx hy
  ·rw [if_neg hi] at hx;rw [if_neg (hl ▸ hi),← hl] at hy;exact zSC (fun j r s hr hs => h (j + 1) r s (by simpa using hr) (by simpa using hs)) _ x y hx hy
def RdC (hp : Nat → Option Ob) (cs : List AV) (ss : List S) : Prop:=cs.length = ss.length ∧ ∀ (i : Nat) x y,cs[i]? = some x → ss[i]? = some y → Rd hp x y
theorem RdC.node {hp : Nat → Option Ob} {k : Int} {t : List UInt8} {c : Int} {ks : List Nd} {v : AV} (h : Rd hp v (.sl 4 (Nd.encs ks))) : RdC hp (zCO k t c v) (Nd.enc (.mk k t c ks)) :=
 ⟨rfl,fun i x y hx hy => by
  match i with
  | 0 => cases hx; cases hy; exact .s _
  | 1 => cases hx; cases hy; exact .s _
  | 2 => cases hx; cases hy; exact .s _
  | 3 => cases hx; cases hy; exact h
  | i + 4 => simp [zCO] at hx⟩
theorem Rd.rows {hp : Nat → Option Ob} {q e : Nat} {rows : List (List AV)} {ks : List Nd} (hq : hp q = some (.arow e 4 rows)) (hl : rows.length = ks.length) (h : ∀ j x,ks[j]? = some x → ∃ cs,zA9 hp (.rp q 4 j 0) = some cs ∧ RdC hp cs x.enc) : Rd hp (.orow q) (.sl 4 (Nd.encs ks)):=by
 rw [Nd.encs_eq]
 refine .arow hq (by simpa using hl) (fun r hr => ?_) (zSC fun j r s hr hs => ?_)
 ·obtain ⟨x,_,rfl⟩:=List.mem_map.1 hr;cases x; rfl
 ·rw [List.getElem?_map] at hs;cases hx : ks[j]? with
  | none => rw [hx] at hs; cases hs
  | some x =>
   rw [hx] at hs; cases hs
   obtain ⟨cs,h1,h2⟩:=h j x hx;rw [zFx hq,hr] at h1;cases h1;exact h2
mutual
theorem At.rd {hp : Nat → Option Ob} {e : Nat} {p : AV} : ∀ {t : Nd} {keys : List Nat} {pd : List AV} {w : Nat},At hp e p t keys pd w → ∃ cs,zA9 hp p = some cs ∧ RdC hp cs t.enc
 | .mk k t c ks,keys,pd,w,h => by
  simp only [At] at h
  obtain ⟨v,hc,⟨rfl,_⟩ | ⟨rfl,rfl,_⟩ | ⟨q,rows,keys',rfl,hq,hlen,rfl,h⟩⟩:=h
  ·exact ⟨_,hc,.node (.s _)⟩
  ·exact ⟨_,hc,.node (.s _)⟩
  ·exact ⟨_,hc,.node (Rd.rows hq hlen fun j x hj => (by have:=LAt.rd h j x hj; rwa [Nat.zero_add] at this))⟩
theorem LAt.rd {hp : Nat → Option Ob} {e q i : Nat} : ∀ {ts : List Nd} {keys : List Nat} {pd : List AV} {w : Nat},LAt hp e q i ts keys pd w → ∀ j x,ts[j]? = some x → ∃ cs,zA9 hp (.rp q 4 (i + j) 0) = some cs ∧ RdC hp cs x.enc
 | [],keys,pd,w,h,j,x,hj => by simp at hj
 | t :: ts,keys,pd,w,h,0,x,hj => by
  simp only [LAt] at h
  obtain ⟨k1,k2,p1,p2,w1,w2,rfl,rfl,rfl,h1,h2⟩:=h
  cases hj
  exact At.rd h1
 | t :: ts,keys,pd,w,h,j + 1,x,hj => by
  simp only [LAt] at h
  obtain ⟨k1,k2,p1,p2,w1,w2,rfl,rfl,rfl,h1,h2⟩:=h
  rw [show i + (j + 1) = i + 1 + j by omega]
  exact LAt.rd h2 j x (by simpa using hj)
end
theorem zTD {hp : Nat → Option Ob} {cs : List AV} {t : Nd} (h : RdC hp cs t.enc) : RdV hp (.agg cs) (.agg (t.enc.map AV.s)):=by
 refine ⟨by simpa using h.1,fun i x y hx hy => ?_⟩
 rw [List.getElem?_map] at hy;cases hs : t.enc[i]? with
 | none => rw [hs] at hy; cases hy
 | some s => rw [hs] at hy; cases hy; exact ⟨s,rfl,h.2 i x s hx hs⟩
end Go.Proofs.YtjdhkpdjecegnaaGreatDoor
namespace Go.Proofs.YtjdhkpdjecegnaaGreatDoor
open Go.Abs
def tab : List (Nat × TI):=[
 (3,⟨.int .i64,1,8,[.int .i64 0]⟩),
 (4,⟨.bool,1,1,[.bool false]⟩),
 (9,⟨.str,1,16,[.str []]⟩),
 (22,⟨.slice 24,1,24,[.sl 4 []]⟩),
 (24,⟨.struct [(0,3),(1,9),(2,3),(3,22)],4,56,[.int .i64 0,.str [],.int .i64 0,.sl 4 []]⟩)]
def T (t : Nat) : Option TI:=look? t tab
theorem zUQ : ∀ p ∈ tab,okT Tryz.prog p.1 p.2:=by
 simp only [tab,List.forall_mem_cons]
 refine ⟨?_,?_,?_,?_,?_,by simp⟩
 ·exact ⟨_,Tryz.t3,_,Tryz.underlying3,rfl,by kernel_rfl,rfl,rfl,rfl,rfl,rfl,fun _ => rfl,rfl⟩
 ·exact ⟨_,Tryz.t4,_,Tryz.underlying4,rfl,by kernel_rfl,rfl,rfl,rfl,rfl,rfl,fun _ => rfl,rfl⟩
 ·exact ⟨_,Tryz.t9,_,Tryz.underlying9,rfl,by kernel_rfl,rfl,rfl,rfl,rfl,rfl,fun _ => rfl,rfl⟩
 ·exact ⟨_,Tryz.t22,_,Tryz.underlying22,rfl,by kernel_rfl,rfl,rfl,rfl,rfl,rfl,fun _ => rfl,rfl⟩
 ·exact ⟨_,Tryz.t24,_,Tryz.underlying24,rfl,by kernel_rfl,rfl,rfl,rfl,rfl,rfl,(fun h => by cases h),rfl⟩
theorem tok : TOk Tryz.prog T:=zT2 zUQ
theorem tcl : ∀ t i,T t = some i → zCZ T i = true:=zRT (by rfl)
def tabX : List (Nat × TI):=[
 (2,⟨.int .i64,1,8,[.int .i64 0]⟩),
 (5,⟨.int .u8,1,1,[.int .u8 0]⟩),
 (26,⟨.fn,1,8,[.nf]⟩),
 (27,⟨.slice 54,1,24,[.sl 8 []]⟩),
 (28,⟨.int .i64,1,8,[.int .i64 0]⟩),
 (39,⟨.ptr 71,1,8,[.np]⟩),
 (43,⟨.slice 3,1,24,[.sl 1 []]⟩),
 (45,⟨.struct [(0,43),(1,43)],2,48,[.sl 1 [],.sl 1 []]⟩),
 (47,⟨.struct [(0,27),(1,45),(3,45)],5,120,[.sl 8 [],.sl 1 [],.sl 1 [],.sl 1 [],.sl 1 []]⟩),
 (54,⟨.struct [(0,3),(1,43),(2,3),(3,3),(4,22),(5,3),(6,9),(7,9)],8,112,[.int .i64 0,.sl 1 [],.int .i64 0,.int .i64 0,.sl 4 [],.int .i64 0,.str [],.str []]⟩),
 (56,⟨.fn,1,8,[.nf]⟩),
 (64,⟨.slice 43,1,24,[.sl 1 []]⟩),
 (66,⟨.struct [(0,64),(1,64),(2,43),(3,43)],4,96,[.sl 1 [],.sl 1 [],.sl 1 [],.sl 1 []]⟩),
 (69,⟨.slice 47,1,24,[.sl 5 []]⟩),
 (71,⟨.struct [(0,24),(4,24),(8,69),(9,3)],10,144,[.int .i64 0,.str [],.int .i64 0,.sl 4 [],.int .i64 0,.str [],.int .i64 0,.sl 4 [],.sl 5 [],.int .i64 0]⟩),
 (78,⟨.slice 83,1,24,[.sl 2 []]⟩),
 (80,⟨.fn,1,8,[.nf]⟩),
 (81,⟨.fn,1,8,[.nf]⟩),
 (83,⟨.arr 2 3,2,16,[.int .i64 0,.int .i64 0]⟩),
 (87,⟨.ptr 94,1,8,[.np]⟩),
 (88,⟨.fn,1,8,[.nf]⟩),
 (90,⟨.struct [(0,9),(1,3),(2,88)],3,32,[.str [],.int .i64 0,.nf]⟩),
 (91,⟨.arr 13 90,39,416,[.str [],.int .i64 0,.nf,.str [],.int .i64 0,.nf,.str [],.int .i64 0,.nf,.str [],.int .i64 0,.nf,.str [],.int .i64 0,.nf,.str [],.int .i64 0,.nf,.str [],.int .i64 0,.nf,.str [],.int .i64 0,.nf,.str [],.int .i64 0,.nf,.str [],.int .i64 0,.nf,.str [],.int .i64 0,.nf,.str [],.int .i64 0,.nf,.str [],.int .i64 0,.nf]⟩),
 (94,⟨.struct [(0,91),(39,3)],40,424,[.str [],.int .i64 0,.nf,.str [],.int .i64 0,.nf,.str [],.int .i64 0,.nf,.str [],.int .i64 0,.nf,.str [],.int .i64 0,.nf,.str [],.int .i64 0,.nf,.str [],.int .i64 0,.nf,.str [],.int .i64 0,.nf,.str [],.int .i64 0,.nf,.str [],.int .i64 0,.nf,.str [],.int .i64 0,.nf,.str [],.int .i64 0,.nf,.str [],.int .i64 0,.nf,.int .i64 0]⟩),
 (96,⟨.ptr 24,1,8,[.np]⟩),
 (97,⟨.slice 96,1,24,[.sl 1 []]⟩),
 (102,⟨.struct [(0,54),(8,22)],9,136,[.int .i64 0,.sl 1 [],.int .i64 0,.int .i64 0,.sl 4 [],.int .i64 0,.str [],.str [],.sl 4 []]⟩),
 (106,⟨.fn,1,8,[.nf]⟩),
 (109,⟨.fn,1,8,[.nf]⟩),
 (110,⟨.fn,1,8,[.nf]⟩),
 (113,⟨.fn,1,8,[.nf]⟩),
 (116,⟨.slice 9,1,24,[.sl 1 []]⟩),
 (128,⟨.struct [(0,96),(1,3)],2,16,[.np,.int .i64 0]⟩),
 (129,⟨.slice 128,1,24,[.sl 2 []]⟩),
 (130,⟨.fn,1,8,[.nf]⟩),
 (131,⟨.ptr 137,1,8,[.np]⟩),
 (132,⟨.ptr 135,1,8,[.np]⟩),
 (133,⟨.slice 5,1,24,[.sl 1 []]⟩),
 (135,⟨.struct [(0,132),(1,133)],2,32,[.np,.sl 1 []]⟩),
 (137,⟨.struct [(0,91),(39,135)],41,448,[.str [],.int .i64 0,.nf,.str [],.int .i64 0,.nf,.str [],.int .i64 0,.nf,.str [],.int .i64 0,.nf,.str [],.int .i64 0,.nf,.str [],.int .i64 0,.nf,.str [],.int .i64 0,.nf,.str [],.int .i64 0,.nf,.str [],.int .i64 0,.nf,.str [],.int .i64 0,.nf,.str [],.int .i64 0,.nf,.str [],.int .i64 0,.nf,.str [],.int .i64 0,.nf,.np,.sl 1 []]⟩),
 (140,⟨.struct [(0,96),(1,3)],2,16,[.np,.int .i64 0]⟩),
 (141,⟨.slice 140,1,24,[.sl 2 []]⟩),
 (142,⟨.ptr 140,1,8,[.np]⟩),
 (148,⟨.arr 13 9,13,208,[.str [],.str [],.str [],.str [],.str [],.str [],.str [],.str [],.str [],.str [],.str [],.str [],.str []]⟩),
 (159,⟨.ptr 5,1,8,[.np]⟩),
 (164,⟨.slice 22,1,24,[.sl 1 []]⟩),
 (168,⟨.int .u64,1,8,[.int .u64 0]⟩),
 (169,⟨.arr 24 5,24,24,[.int .u8 0,.int .u8 0,.int .u8 0,.int .u8 0,.int .u8 0,.int .u8 0,.int .u8 0,.int .u8 0,.int .u8 0,.int .u8 0,.int .u8 0,.int .u8 0,.int .u8 0,.int .u8 0,.int .u8 0,.int .u8 0,.int .u8 0,.int .u8 0,.int .u8 0,.int .u8 0,.int .u8 0,.int .u8 0,.int .u8 0,.int .u8 0]⟩),
 (170,⟨.int .u64,1,8,[.int .u64 0]⟩),
 (175,⟨.int .u32,1,4,[.int .u32 0]⟩),
 (179,⟨.arr 20 170,20,160,[.int .u64 0,.int .u64 0,.int .u64 0,.int .u64 0,.int .u64 0,.int .u64 0,.int .u64 0,.int .u64 0,.int .u64 0,.int .u64 0,.int .u64 0,.int .u64 0,.int .u64 0,.int .u64 0,.int .u64 0,.int .u64 0,.int .u64 0,.int .u64 0,.int .u64 0,.int .u64 0]⟩),
 (180,⟨.arr 65 5,65,65,[.int .u8 0,.int .u8 0,.int .u8 0,.int .u8 0,.int .u8 0,.int .u8 0,.int .u8 0,.int .u8 0,.int .u8 0,.int .u8 0,.int .u8 0,.int .u8 0,.int .u8 0,.int .u8 0,.int .u8 0,.int .u8 0,.int .u8 0,.int .u8 0,.int .u8 0,.int .u8 0,.int .u8 0,.int .u8 0,.int .u8 0,.int .u8 0,.int .u8 0,.int .u8 0,.int .u8 0,.int .u8 0,.int .u8 0,.int .u8 0,.int .u8 0,.int .u8 0,.int .u8 0,.int .u8 0,.int .u8 0,.int .u8 0,.int .u8 0,.int .u8 0,.int .u8 0,.int .u8 0,.int .u8 0,.int .u8 0,.int .u8 0,.int .u8 0,.int .u8 0,.int .u8 0,.int .u8 0,.int .u8 0,.int .u8 0,.int .u8 0,.int .u8 0,.int .u8 0,.int .u8 0,.int .u8 0,.int .u8 0,.int .u8 0,.int .u8 0,.int .u8 0,.int .u8 0,.int .u8 0,.int .u8 0,.int .u8 0,.int .u8 0,.int .u8 0,.int .u8 0]⟩),
 (184,⟨.arr 32 5,32,32,[.int .u8 0,.int .u8 0,.int .u8 0,.int .u8 0,.int .u8 0,.int .u8 0,.int .u8 0,.int .u8 0,.int .u8 0,.int .u8 0,.int .u8 0,.int .u8 0,.int .u8 0,.int .u8 0,.int .u8 0,.int .u8 0,.int .u8 0,.int .u8 0,.int .u8 0,.int .u8 0,.int .u8 0,.int .u8 0,.int .u8 0,.int .u8 0,.int .u8 0,.int .u8 0,.int .u8 0,.int .u8 0,.int .u8 0,.int .u8 0,.int .u8 0,.int .u8 0]⟩),
 (185,⟨.arr 64 5,64,64,[.int .u8 0,.int .u8 0,.int .u8 0,.int .u8 0,.int .u8 0,.int .u8 0,.int .u8 0,.int .u8 0,.int .u8 0,.int .u8 0,.int .u8 0,.int .u8 0,.int .u8 0,.int .u8 0,.int .u8 0,.int .u8 0,.int .u8 0,.int .u8 0,.int .u8 0,.int .u8 0,.int .u8 0,.int .u8 0,.int .u8 0,.int .u8 0,.int .u8 0,.int .u8 0,.int .u8 0,.int .u8 0,.int .u8 0,.int .u8 0,.int .u8 0,.int .u8 0,.int .u8 0,.int .u8 0,.int .u8 0,.int .u8 0,.int .u8 0,.int .u8 0,.int .u8 0,.int .u8 0,.int .u8 0,.int .u8 0,.int .u8 0,.int .u8 0,.int .u8 0,.int .u8 0,.int .u8 0,.int .u8 0,.int .u8 0,.int .u8 0,.int .u8 0,.int .u8 0,.int .u8 0,.int .u8 0,.int .u8 0,.int .u8 0,.int .u8 0,.int .u8 0,.int .u8 0,.int .u8 0,.int .u8 0,.int .u8 0,.int .u8 0,.int .u8 0]⟩)]
theorem zUO : ∀ p ∈ tabX,okT Tryz.prog p.1 p.2:=by
 simp only [tabX,List.forall_mem_cons]
 refine ⟨?_,?_,?_,?_,?_,?_,?_,?_,?_,?_,?_,?_,?_,?_,?_,?_,?_,?_,?_,?_,?_,?_,?_,?_,?_,?_,?_,?_,?_,?_,?_,?_,?_,?_,?_,?_,?_,?_,?_,?_,?_,?_,?_,?_,?_,?_,?_,?_,?_,?_,?_,?_,?_,?_,by simp⟩
 ·exact ⟨_,Tryz.t2,_,Tryz.underlying2,rfl,by kernel_rfl,rfl,rfl,rfl,rfl,rfl,fun _ => rfl,rfl⟩
 ·exact ⟨_,Tryz.t5,_,Tryz.underlying5,rfl,by kernel_rfl,rfl,rfl,rfl,rfl,rfl,fun _ => rfl,rfl⟩
 ·exact ⟨_,Tryz.t26,_,Tryz.underlying26,rfl,by kernel_rfl,rfl,rfl,rfl,rfl,rfl,fun _ => rfl,rfl⟩
 ·exact ⟨_,Tryz.t27,_,Tryz.underlying27,rfl,by kernel_rfl,rfl,rfl,rfl,rfl,rfl,fun _ => rfl,rfl⟩
 ·exact ⟨_,Tryz.t28,_,Tryz.underlying28,rfl,by kernel_rfl,rfl,rfl,rfl,rfl,rfl,fun _ => rfl,rfl⟩
 ·exact ⟨_,Tryz.t39,_,Tryz.underlying39,rfl,by kernel_rfl,rfl,rfl,rfl,rfl,rfl,fun _ => rfl,rfl⟩
 ·exact ⟨_,Tryz.t43,_,Tryz.underlying43,rfl,by kernel_rfl,rfl,rfl,rfl,rfl,rfl,fun _ => rfl,rfl⟩
 ·exact ⟨_,Tryz.t45,_,Tryz.underlying45,rfl,by kernel_rfl,rfl,rfl,rfl,rfl,rfl,(fun h => by cases h),rfl⟩
 ·exact ⟨_,Tryz.t47,_,Tryz.underlying47,rfl,by kernel_rfl,rfl,rfl,rfl,rfl,rfl,(fun h => by cases h),rfl⟩
 ·exact ⟨_,Tryz.t54,_,Tryz.underlying54,rfl,by kernel_rfl,rfl,rfl,rfl,rfl,rfl,(fun h => by cases h),rfl⟩
 ·exact ⟨_,Tryz.t56,_,Tryz.underlying56,rfl,by kernel_rfl,rfl,rfl,rfl,rfl,rfl,fun _ => rfl,rfl⟩
 ·exact ⟨_,Tryz.t64,_,Tryz.underlying64,rfl,by kernel_rfl,rfl,rfl,rfl,rfl,rfl,fun _ => rfl,rfl⟩
 ·exact ⟨_,Tryz.t66,_,Tryz.underlying66,rfl,by kernel_rfl,rfl,rfl,rfl,rfl,rfl,(fun h => by cases h),rfl⟩
 ·exact ⟨_,Tryz.t69,_,Tryz.underlying69,rfl,by kernel_rfl,rfl,rfl,rfl,rfl,rfl,fun _ => rfl,rfl⟩
 ·exact ⟨_,Tryz.t71,_,Tryz.underlying71,rfl,by kernel_rfl,rfl,rfl,rfl,rfl,rfl,(fun h => by cases h),rfl⟩
 ·exact ⟨_,Tryz.t78,_,Tryz.underlying78,rfl,by kernel_rfl,rfl,rfl,rfl,rfl,rfl,fun _ => rfl,rfl⟩
 ·exact ⟨_,Tryz.t80,_,Tryz.underlying80,rfl,by kernel_rfl,rfl,rfl,rfl,rfl,rfl,fun _ => rfl,rfl⟩
 ·exact ⟨_,Tryz.t81,_,Tryz.underlying81,rfl,by kernel_rfl,rfl,rfl,rfl,rfl,rfl,fun _ => rfl,rfl⟩
 ·exact ⟨_,Tryz.t83,_,Tryz.underlying83,rfl,by kernel_rfl,rfl,rfl,rfl,rfl,rfl,(fun h => by cases h),rfl⟩
 ·exact ⟨_,Tryz.t87,_,Tryz.underlying87,rfl,by kernel_rfl,rfl,rfl,rfl,rfl,rfl,fun _ => rfl,rfl⟩
 ·exact ⟨_,Tryz.t88,_,Tryz.underlying88,rfl,by kernel_rfl,rfl,rfl,rfl,rfl,rfl,fun _ => rfl,rfl⟩
 ·exact ⟨_,Tryz.t90,_,Tryz.underlying90,rfl,by kernel_rfl,rfl,rfl,rfl,rfl,rfl,(fun h => by cases h),rfl⟩
 ·exact ⟨_,Tryz.t91,_,Tryz.underlying91,rfl,by kernel_rfl,rfl,rfl,rfl,rfl,rfl,(fun h => by cases h),rfl⟩
 ·exact ⟨_,Tryz.t94,_,Tryz.underlying94,rfl,by kernel_rfl,rfl,rfl,rfl,rfl,rfl,(fun h => by cases h),rfl⟩
 ·exact ⟨_,Tryz.t96,_,Tryz.underlying96,rfl,by kernel_rfl,rfl,rfl,rfl,rfl,rfl,fun _ => rfl,rfl⟩
 ·exact ⟨_,Tryz.t97,_,Tryz.underlying97,rfl,by kernel_rfl,rfl,rfl,rfl,rfl,rfl,fun _ => rfl,rfl⟩
 ·exact ⟨_,Tryz.t102,_,Tryz.underlying102,rfl,by kernel_rfl,rfl,rfl,rfl,rfl,rfl,(fun h => by cases h),rfl⟩
 ·exact ⟨_,Tryz.t106,_,Tryz.underlying106,rfl,by kernel_rfl,rfl,rfl,rfl,rfl,rfl,fun _ => rfl,rfl⟩
 ·exact ⟨_,Tryz.t109,_,Tryz.underlying109,rfl,by kernel_rfl,rfl,rfl,rfl,rfl,rfl,fun _ => rfl,rfl⟩
 ·exact ⟨_,Tryz.t110,_,Tryz.underlying110,rfl,by kernel_rfl,rfl,rfl,rfl,rfl,rfl,fun _ => rfl,rfl⟩
 ·exact ⟨_,Tryz.t113,_,Tryz.underlying113,rfl,by kernel_rfl,rfl,rfl,rfl,rfl,rfl,fun _ => rfl,rfl⟩
 ·exact ⟨_,Tryz.t116,_,Tryz.underlying116,rfl,by kernel_rfl,rfl,rfl,rfl,rfl,rfl,fun _ => rfl,rfl⟩
 ·exact ⟨_,Tryz.t128,_,Tryz.underlying128,rfl,by kernel_rfl,rfl,rfl,rfl,rfl,rfl,(fun h => by cases h),rfl⟩
 ·exact ⟨_,Tryz.t129,_,Tryz.underlying129,rfl,by kernel_rfl,rfl,rfl,rfl,rfl,rfl,fun _ => rfl,rfl⟩
 ·exact ⟨_,Tryz.t130,_,Tryz.underlying130,rfl,by kernel_rfl,rfl,rfl,rfl,rfl,rfl,fun _ => rfl,rfl⟩
 ·exact ⟨_,Tryz.t131,_,Tryz.underlying131,rfl,by kernel_rfl,rfl,rfl,rfl,rfl,rfl,fun _ => rfl,rfl⟩
 ·exact ⟨_,Tryz.t132,_,Tryz.underlying132,rfl,by kernel_rfl,rfl,rfl,rfl,rfl,rfl,fun _ => rfl,rfl⟩
 ·exact ⟨_,Tryz.t133,_,Tryz.underlying133,rfl,by kernel_rfl,rfl,rfl,rfl,rfl,rfl,fun _ => rfl,rfl⟩
 ·exact ⟨_,Tryz.t135,_,Tryz.underlying135,rfl,by kernel_rfl,rfl,rfl,rfl,rfl,rfl,(fun h => by cases h),rfl⟩
 ·exact ⟨_,Tryz.t137,_,Tryz.underlying137,rfl,by kernel_rfl,rfl,rfl,rfl,rfl,rfl,(fun h => by cases h),rfl⟩
 ·exact ⟨_,Tryz.t140,_,Tryz.underlying140,rfl,by kernel_rfl,rfl,rfl,rfl,rfl,rfl,(fun h => by cases h),rfl⟩
 ·exact ⟨_,Tryz.t141,_,Tryz.underlying141,rfl,by kernel_rfl,rfl,rfl,rfl,rfl,rfl,fun _ => rfl,rfl⟩
 ·exact ⟨_,Tryz.t142,_,Tryz.underlying142,rfl,by kernel_rfl,rfl,rfl,rfl,rfl,rfl,fun _ => rfl,rfl⟩
 ·exact ⟨_,Tryz.t148,_,Tryz.underlying148,rfl,by kernel_rfl,rfl,rfl,rfl,rfl,rfl,(fun h => by cases h),rfl⟩
 ·exact ⟨_,Tryz.t159,_,Tryz.underlying159,rfl,by kernel_rfl,rfl,rfl,rfl,rfl,rfl,fun _ => rfl,rfl⟩
 ·exact ⟨_,Tryz.t164,_,Tryz.underlying164,rfl,by kernel_rfl,rfl,rfl,rfl,rfl,rfl,fun _ => rfl,rfl⟩
 ·exact ⟨_,Tryz.t168,_,Tryz.underlying168,rfl,by kernel_rfl,rfl,rfl,rfl,rfl,rfl,fun _ => rfl,rfl⟩
 ·exact ⟨_,Tryz.t169,_,Tryz.underlying169,rfl,by kernel_rfl,rfl,rfl,rfl,rfl,rfl,(fun h => by cases h),rfl⟩
 ·exact ⟨_,Tryz.t170,_,Tryz.underlying170,rfl,by kernel_rfl,rfl,rfl,rfl,rfl,rfl,fun _ => rfl,rfl⟩
 ·exact ⟨_,Tryz.t175,_,Tryz.underlying175,rfl,by kernel_rfl,rfl,rfl,rfl,rfl,rfl,fun _ => rfl,rfl⟩
 ·exact ⟨_,Tryz.t179,_,Tryz.underlying179,rfl,by kernel_rfl,rfl,rfl,rfl,rfl,rfl,(fun h => by cases h),rfl⟩
 ·exact ⟨_,Tryz.t180,_,Tryz.underlying180,rfl,by kernel_rfl,rfl,rfl,rfl,rfl,rfl,(fun h => by cases h),rfl⟩
 ·exact ⟨_,Tryz.t184,_,Tryz.underlying184,rfl,by kernel_rfl,rfl,rfl,rfl,rfl,rfl,(fun h => by cases h),rfl⟩
 ·exact ⟨_,Tryz.t185,_,Tryz.underlying185,rfl,by kernel_rfl,rfl,rfl,rfl,rfl,rfl,(fun h => by cases h),rfl⟩
def TW (t : Nat) : Option TI:=look? t (tab ++ tabX)
theorem tokW : TOk Tryz.prog TW:=zT2 fun p hp => (List.mem_append.1 hp).elim (zUQ p) (zUO p)
theorem mixed : Tryz.prog.follows .mixedOrders = true:=by kernel_rfl
end Go.Proofs.YtjdhkpdjecegnaaGreatDoor
namespace Go.Proofs
set_option maxHeartbeats 1000000 in
theorem Tryz.stringslite_IndexByte (s : ByteArray) (c : Int) (w : World) :
  Calls Tryz.prog 122 #[.string s,.int .u8 c] w fun e w' => e = .returned (.int .i64 (Lib.indexByte s.data.toList c.toNat.toUInt8)) ∧ w' = w:=by
 go_enter Tryz.func122,Tryz.ntmps122
 go_wp2
 rw [run_callFunc_extern Tryz.func127 (by kernel_rfl) (by kernel_rfl) (by kernel_rfl) (e:=Extern.BytealgIndexByte.indexByte) (by kernel_rfl),Lib.run_indexByteString]
 simp only [Result.andThen]
 rw [Oper.upon_value]
 go_wp2
 go_ret
 exact ⟨rfl,rfl⟩
theorem Tryz.stringslite_Index_one (s : ByteArray) (c : UInt8) (w : World) :
  Calls Tryz.prog 126 #[.string s,.string ⟨#[c]⟩] w fun e w' => e = .returned (.int .i64 (Lib.indexByte s.data.toList c)) ∧ w' = w:=by
 go_enter Tryz.func126,Tryz.ntmps126
 go_wp2_with (go_at_call 122; refine (Tryz.stringslite_IndexByte _ _ _).mono ?_; rintro e w' ⟨rfl,rfl⟩)
 ·have h : ([c] == s.toList) = true:=by assumption
  go_ret
  refine ⟨?_,rfl⟩
  have e : s.data.toList = [c] :=(by rw [← Lib.toList_data]; exact (beq_iff_eq.1 h).symm);rw [e]
  simp [Lib.indexByte]
 ·go_ret
  exact ⟨rfl,rfl⟩
set_option maxHeartbeats 1000000 in
theorem Tryz.strings_IndexByte (s : ByteArray) (c : Int) (w : World) :
  Calls Tryz.prog 111 #[.string s,.int .u8 c] w fun e w' => e = .returned (.int .i64 (Lib.indexByte s.data.toList c.toNat.toUInt8)) ∧ w' = w:=by
 go_enter Tryz.func111,Tryz.ntmps111
 go_wp2_with (go_at_call 122; refine (Tryz.stringslite_IndexByte _ _ _).mono ?_; rintro e w' ⟨rfl,rfl⟩)
 go_ret
 exact ⟨rfl,rfl⟩
set_option maxHeartbeats 1000000 in
theorem Tryz.strings_Index_one (s : ByteArray) (c : UInt8) (w : World) :
  Calls Tryz.prog 120 #[.string s,.string ⟨#[c]⟩] w fun e w' => e = .returned (.int .i64 (Lib.indexByte s.data.toList c)) ∧ w' = w:=by
 go_enter Tryz.func120,Tryz.ntmps120
 go_wp2_with (go_at_call 126; refine (Tryz.stringslite_Index_one _ _ _).mono ?_; rintro e w' ⟨rfl,rfl⟩)
 go_ret
 exact ⟨rfl,rfl⟩
set_option maxHeartbeats 1000000 in
theorem Tryz.strings_Contains_one (s : ByteArray) (c : UInt8) (w : World) :
  Calls Tryz.prog 107 #[.string s,.string ⟨#[c]⟩] w fun e w' => e = .returned (.bool (decide (0 ≤ Lib.indexByte s.data.toList c))) ∧ w' = w:=by
 go_enter Tryz.func107,Tryz.ntmps107
 go_wp2_with (go_at_call 120; refine (Tryz.strings_Index_one _ _ _).mono ?_; rintro e w' ⟨rfl,rfl⟩)
 go_ret
 exact ⟨rfl,rfl⟩
end Go.Proofs
namespace Go.Proofs.YtjdhkpdjecegnaaGreatDoor
open Go.Abs
theorem zIK {f : Nat} {s : List AV → Ret → Prop} (hcall : ∀ args w,(callFunc f args).run Tryz.prog w = .ok (.enter f args) w)
  (h : ∀ (G : Nat → Prop) (w : World) (xs : List AV) (vs : List Value) (r : Ret),AVals G w (fun _ => .tuple #[]) xs vs → s xs r → Calls Tryz.prog f vs.toArray w fun e w' => w' = w ∧ ∃ v,e = .returned v ∧ RetAt G w w r v) : PSound Tryz.prog f (zAG s) :=
 ⟨hcall,fun G w xs vs r hl _ _ hv hs => (h G w xs vs r hv hs).mono fun e w' ⟨h1,v,h2,h3⟩ => (by subst h1; exact ⟨v,G,h2,Ext.refl hl,h3⟩),fun R hR => (by cases hR),fun R hR => (by cases hR)⟩
def zHk (xs : List AV) (r : Ret) : Prop:=∃ (a0 a1 : List UInt8) (y0 : Int),zDn a0 a1 = some y0 ∧ xs = [.s (.str a0),.s (.str a1)] ∧ r = .val (.s (.int .i64 y0))
def zES : zAx:=zAG fun xs r => zHk xs r
theorem zG3 : PSound Tryz.prog 126 zES:=zIK Tryz.call126 fun G w xs vs r hv ⟨a,p,y,h,hx,hr⟩ => by
 subst hx; subst hr
 obtain ⟨hp,h⟩:=zAJ h;have hy:=Option.some.inj h;subst hy;obtain ⟨c,rfl⟩ : ∃ c,p = [c]:=by
  match p,hp with
  | [c],_ => exact ⟨c,rfl⟩
 simp only [AVals,AVal,Rep] at hv;obtain ⟨_,_,rfl,rfl,_,_,rfl,rfl,rfl⟩:=hv;exact (Tryz.stringslite_Index_one ⟨a.toArray⟩ c w).mono fun e w' ⟨h1,h2⟩ => ⟨h2,_,h1,rfl,by simp only [AVal,Rep]; rfl⟩
def zHO (xs : List AV) (r : Ret) : Prop:=∃ (a0 a1 : List UInt8) (y0 : Bool),zDM a0 a1 = some y0 ∧ xs = [.s (.str a0),.s (.str a1)] ∧ r = .val (.s (.bool y0))
def zE8 : zAx:=zAG fun xs r => zHO xs r
theorem zHB : PSound Tryz.prog 107 zE8:=zIK Tryz.call107 fun G w xs vs r hv ⟨a,p,y,h,hx,hr⟩ => by
 subst hx; subst hr
 obtain ⟨hp,h⟩:=zAJ h;have hy:=Option.some.inj h;subst hy;obtain ⟨c,rfl⟩ : ∃ c,p = [c]:=by
  match p,hp with
  | [c],_ => exact ⟨c,rfl⟩
 simp only [AVals,AVal,Rep] at hv;obtain ⟨_,_,rfl,rfl,_,_,rfl,rfl,rfl⟩:=hv;exact (Tryz.strings_Contains_one ⟨a.toArray⟩ c w).mono fun e w' ⟨h1,h2⟩ => ⟨h2,_,h1,rfl,by simp only [AVal,Rep]; rfl⟩
def zHj (xs : List AV) (r : Ret) : Prop:=∃ (a0 : List UInt8) (a1 : Int) (y0 : Int),zCz a0 a1 = some y0 ∧ xs = [.s (.str a0),.s (.int .u8 a1)] ∧ r = .val (.s (.int .i64 y0))
def zER : zAx:=zAG fun xs r => zHj xs r
theorem zG2 : PSound Tryz.prog 111 zER:=zIK Tryz.call111 fun G w xs vs r hv ⟨a,c,y,h,hx,hr⟩ => by
 subst hx; subst hr
 have hy:=Option.some.inj h;subst hy;simp only [AVals,AVal,Rep] at hv;obtain ⟨_,_,rfl,rfl,_,_,rfl,rfl,rfl⟩:=hv;exact (Tryz.strings_IndexByte ⟨a.toArray⟩ c w).mono fun e w' ⟨h1,h2⟩ => ⟨h2,_,h1,rfl,by simp only [AVal,Rep]⟩
end Go.Proofs.YtjdhkpdjecegnaaGreatDoor
namespace Go.Proofs
open Go.Shelf
def Tryz.laysM171_ren : Go.Shelf.Ren:=⟨fun | 171 => 118 | 243 => 124 | 246 => 129 | 283 => 133 | 284 => 134 | 285 => 135 | 286 => 136 | 129 => 139 | 317 => 138 | 318 => 140 | 319 => 141 | 320 => 142 | 337 => 143 | 338 => 144 | n => n,fun | 3 => 3 | 9 => 9 | 2 => 2 | 4 => 4 | 171 => 169 | 0 => 0 | 53 => 170 | 37 => 133 | 5 => 5 | 173 => 173 | 212 => 179 | 51 => 175 | 20 => 20 | 213 => 180 | 46 => 168 | 232 => 184 | 233 => 185 | n => n,fun | 17 => 1 | 18 => 2 | 19 => 3 | n => n⟩
theorem Tryz.laysM171 : Go.Proofs.LaysM.n171 Tryz.prog Tryz.laysM171_ren:={
 mixed:=by kernel_rfl
 f129:=Tryz.func139.trans (congrArg some (by kernel_rfl))
 f171:=Tryz.func118.trans (congrArg some (by kernel_rfl))
 f243:=Tryz.func124.trans (congrArg some (by kernel_rfl))
 f246:=Tryz.func129.trans (congrArg some (by kernel_rfl))
 f283:=Tryz.func133.trans (congrArg some (by kernel_rfl))
 f284:=Tryz.func134.trans (congrArg some (by kernel_rfl))
 f285:=Tryz.func135.trans (congrArg some (by kernel_rfl))
 f286:=Tryz.func136.trans (congrArg some (by kernel_rfl))
 f317:=Tryz.func138.trans (congrArg some (by kernel_rfl))
 f318:=Tryz.func140.trans (congrArg some (by kernel_rfl))
 f319:=Tryz.func141.trans (congrArg some (by kernel_rfl))
 f320:=Tryz.func142.trans (congrArg some (by kernel_rfl))
 f337:=Tryz.func143.trans (congrArg some (by kernel_rfl))
 f338:=Tryz.func144.trans (congrArg some (by kernel_rfl))
 t0:=Tryz.underlying0
 a0:=Tryz.isAgg0
 z0:=Tryz.sizeOf0
 v0:=Tryz.zeroValue0
 t2:=Tryz.underlying2
 a2:=Tryz.isAgg2
 z2:=Tryz.sizeOf2
 v2:=Tryz.zeroValue2
 t3:=Tryz.underlying3
 a3:=Tryz.isAgg3
 z3:=Tryz.sizeOf3
 v3:=Tryz.zeroValue3
 t4:=Tryz.underlying4
 a4:=Tryz.isAgg4
 z4:=Tryz.sizeOf4
 v4:=Tryz.zeroValue4
 t5:=Tryz.underlying5
 a5:=Tryz.isAgg5
 z5:=Tryz.sizeOf5
 v5:=Tryz.zeroValue5
 t9:=Tryz.underlying9
 a9:=Tryz.isAgg9
 z9:=Tryz.sizeOf9
 v9:=Tryz.zeroValue9
 t20:=Tryz.underlying20
 a20:=Tryz.isAgg20
 z20:=Tryz.sizeOf20
 v20:=Tryz.zeroValue20
 t37:=Tryz.underlying133
 a37:=Tryz.isAgg133
 z37:=Tryz.sizeOf133
 v37:=Tryz.zeroValue133
 t46:=Tryz.underlying168
 a46:=Tryz.isAgg168
 z46:=Tryz.sizeOf168
 v46:=Tryz.zeroValue168
 t51:=Tryz.underlying175
 a51:=Tryz.isAgg175
 z51:=Tryz.sizeOf175
 v51:=Tryz.zeroValue175
 t53:=Tryz.underlying170
 a53:=Tryz.isAgg170
 z53:=Tryz.sizeOf170
 v53:=Tryz.zeroValue170
 t171:=Tryz.underlying169
 a171:=Tryz.isAgg169
 z171:=Tryz.sizeOf169
 v171:=Tryz.zeroValue169
 t173:=Tryz.underlying173
 a173:=Tryz.isAgg173
 z173:=Tryz.sizeOf173
 v173:=Tryz.zeroValue173
 t212:=Tryz.underlying179
 a212:=Tryz.isAgg179
 z212:=Tryz.sizeOf179
 v212:=Tryz.zeroValue179
 t213:=Tryz.underlying180
 a213:=Tryz.isAgg180
 z213:=Tryz.sizeOf180
 t232:=Tryz.underlying184
 a232:=Tryz.isAgg184
 z232:=Tryz.sizeOf184
 v232:=Tryz.zeroValue184
 t233:=Tryz.underlying185
 a233:=Tryz.isAgg185
 z233:=Tryz.sizeOf185
 v233:=Tryz.zeroValue185
 g17:=by kernel_rfl
 g18:=by kernel_rfl
 g19:=by kernel_rfl
 i0:=by kernel_rfl
 i2:=by kernel_rfl
 i3:=by kernel_rfl
 i4:=by kernel_rfl
 i5:=by kernel_rfl
 i9:=by kernel_rfl
 i20:=by kernel_rfl
 i37:=by kernel_rfl
 i46:=by kernel_rfl
 i51:=by kernel_rfl
 i53:=by kernel_rfl
 i171:=by kernel_rfl
 i173:=by kernel_rfl
 i212:=by kernel_rfl
 i232:=by kernel_rfl
 i233:=by kernel_rfl
 m17:=by kernel_rfl
 m18:=by kernel_rfl
 m19:=by kernel_rfl }
open Go.RowKit Go.Sort Go.Lib in
theorem Tryz.strconv_Itoa (n : Int) (h0 : -9223372036854775808 ≤ n) (h1 : n ≤ 9223372036854775807) (w : World) (htab : Lib.TabIs Tryz.prog w "internal/strconv.uint64pow10" .u64 Lib.pow10Tab) :
  Calls Tryz.prog 118 #[.int .i64 n] w fun e w' => e = .returned (.string ⟨(Lib.itoa n).toArray⟩) ∧ ∃ k os,w' = grow (w.drewN k) os:=Any.strconv_Itoa Tryz.laysM171 n h0 h1 w htab
end Go.Proofs
namespace Go.Proofs
set_option maxHeartbeats 1000000 in
theorem Tryz.bld_check_used (b off : Nat) (w : World) (h0 : w.cell? ⟨b,off,none⟩ = some (.pointer (some ⟨b,off,none⟩))) :
  Calls Tryz.prog 119 #[.pointer (some ⟨b,off,none⟩)] w fun e w' => e = .returned (.tuple #[]) ∧ w' = w:=by
 have hj : Tryz.prog.info? 135 = some Tryz.t135:=by kernel_rfl
 go_enter Tryz.func119,Tryz.ntmps119
 go_wp2
 rw [Lib.run_neq_ptr_same w _ Tryz.underlying132 hj]
 go_wp2
 go_end0
 exact ⟨rfl,rfl⟩
set_option maxHeartbeats 1000000 in
theorem Tryz.bld_check_fresh (b : Nat) (w : World) (h0 : w.cell? ⟨b,39,none⟩ = some (.pointer none)) (hsh : w.shape? b = some (137,41)) (hfz : w.frozen? ⟨b,39,none⟩ = false) :
  Calls Tryz.prog 119 #[.pointer (some ⟨b,39,none⟩)] w fun e w' => e = .returned (.tuple #[]) ∧ w' = w.setCell ⟨b,39,none⟩ (.pointer (some ⟨b,39,none⟩)):=by
 have hj : Tryz.prog.info? 135 = some Tryz.t135 :=(by kernel_rfl);have hjs : Tryz.t135.size ≠ 0 :=(by decide);have hlies : liesAt Tryz.prog Tryz.prog.depth 137 (41 / Tryz.prog.cellsOf 137) 39 135 1 = true:=by kernel_rfl
 go_enter Tryz.func119,Tryz.ntmps119
 go_wp2
 rw [Lib.run_to_unsafe w ⟨b,39,none⟩ Tryz.underlying132 Tryz.underlying162 hj hjs hsh (show (39 : Nat) < 41 by decide)]
 simp only [Result.andThen]
 rw [Oper.upon_value]
 go_wp2
 rw [run_callFunc_extern Tryz.func125 (by kernel_rfl) (by kernel_rfl) (by kernel_rfl) (e:=Extern.AbiNoEscape.same) (by kernel_rfl)]
 rw [Lib.run_noEscape]
 simp only [Result.andThen]
 rw [Oper.upon_value]
 go_wp2
 rw [Lib.run_from_unsafe w ⟨b,39,none⟩ Tryz.underlying162 Tryz.underlying132 hj hsh hlies]
 simp only [Result.andThen]
 rw [Oper.upon_value]
 go_wp2
 go_end0
 exact ⟨rfl,rfl⟩
theorem Tryz.bld_String (b g cap : Nat) (l : List UInt8) (w : World) (cur : Array Value) (h0 : l ≠ []) (hb : w.cell? ⟨b,40,none⟩ = some (.slice (some ⟨g,0,none⟩) l.length cap)) (hg : w.heap[g]? = some (.cells cur 5 (0,0))) (hc : cur.size = cap * 1) (hle : l.length ≤ cap) (hm : l.length ≤ 9223372036854775807)
  (hx : ∀ (j : Nat) x,l[j]? = some x → cur[j]? = some (.int .u8 x.toNat)) :
  Calls Tryz.prog 99 #[.pointer (some ⟨b,39,none⟩)] w fun e w' => e = .returned (.string ⟨l.toArray⟩) ∧ w' = w.drew.freeze ⟨g,0,none⟩ l.length:=by
 have hl0 : l.length ≠ 0 :=(by simpa using h0);have c1 : w.drew.cell? ⟨b,40,none⟩ = some (.slice (some ⟨g,0,none⟩) l.length cap):=hb;have hSD : (Builtin.unsafeSliceData_ #[133] 159 #[.slice (some ⟨g,0,none⟩) l.length cap]).run Tryz.prog w.drew = .ok (.pointer (some ⟨g,0,none⟩)) w.drew :=
  Lib.run_unsafeSliceData_row _ _ _ _ _ _ (by omega)
 have hg' : w.drew.heap[g]? = some (.cells cur 5 (0,0)):=hg;have hUS : (Builtin.unsafeString_ #[159,3] 9 #[.pointer (some ⟨g,0,none⟩),.int .i64 l.length]).run Tryz.prog w.drew = .ok (.string ⟨l.toArray⟩) (w.drew.freeze ⟨g,0,none⟩ l.length):=by
  refine Lib.run_unsafeString_row w.drew 159 3 9 5 Tryz.underlying159 (by kernel_rfl) g cur.size (by simp [World.shape?,hg']) l h0 (by omega) hm ?_;intro j x hx';have e : (Addr.mk g 0 none).add j = ⟨g,j,none⟩:=by
   unfold Addr.add;split
   ·rename_i e; rw [e]
   ·simp
  rw [e]
  simp only [World.cell?,hg']
  exact hx j x hx'
 have mixed : Tryz.prog.follows .mixedOrders = true:=by kernel_rfl
 go_enter Tryz.func99,Tryz.ntmps99
 go_wp2
 go_region_o
 all_goals (go_wp2; go_ret; exact ⟨rfl,rfl⟩)
end Go.Proofs
namespace Go.Proofs.YtjdhkpdjecegnaaGreatDoor
open Go.Abs
def zSc : List AV:=[.s (.str []),.s (.int .i64 0),.s .nf,.s (.str [114,111,119]),.s (.int .i64 0),.s (.fn 80),.s (.str [115,121,109]),.s (.int .i64 0),.s (.fn 81),.s (.str [110,117,109]),.s (.int .i64 0),.s (.fn 82),.s (.str [116,101,120,116]),.s (.int .i64 0),.s (.fn 83),.s (.str [102,114,97,99]),.s (.int .i64 2),.s (.fn 80),.s (.str [114,111,111,116]),.s (.int .i64 2),.s (.fn 80),.s (.str [115,117,98]),.s (.int .i64 2),.s (.fn 80),.s (.str [115,117,112]),.s (.int .i64 2),.s (.fn 80),.s (.str [98,111,116,104]),.s (.int .i64 3),.s (.fn 80),.s (.str [97,99,99,101,110,116]),.s (.int .i64 1),.s (.fn 84),.s (.str [102,101,110,99,101]),.s (.int .i64 1),.s (.fn 85),.s (.str [109,97,116,114,105,120]),.s (.int .i64 0),.s (.fn 80)]
def zA2 (a b : AV) : List AV:=zSc ++ [a,b]
theorem zHq {a b : AV} : ∀ (i : Nat) (x : AV),(zA2 a b)[i]? = some x → i ≠ 39 → i ≠ 40 → x.pers = true:=fun i x h h1 h2 => by
 have hk : zSc.all AV.pers = true :=(by decide);have hl : zSc.length = 39:=rfl;unfold zA2 at h;rw [List.getElem?_append] at h;split at h
 ·exact List.all_eq_true.1 hk x (List.mem_of_getElem? h)
 ·rw [hl] at h;have : i - 39 < 2:=by have:=(List.getElem?_eq_some_iff.1 h).1; simpa using this
  omega
theorem zKf (b : Nat) (w : World) (cur : Array Value) (h : w.heap[b]? = some (.cells cur 137 (0,0))) (hc : cur[39]? = some (.pointer (some ⟨b,39,none⟩))) :
  Calls Tryz.prog 119 #[.pointer (some ⟨b,39,none⟩)] w fun e w' => e = .returned (.tuple #[]) ∧ Wrote b 39 (.pointer (some ⟨b,39,none⟩)) cur 137 w w' :=
 (Tryz.bld_check_used b 39 w (by simp [World.cell?,h,hc])).mono fun e w' ⟨h1,h2⟩ => ⟨h1,by subst h2; exact Wrote.same h hc⟩
theorem zJB (b : Nat) (w : World) (cur : Array Value) (h : w.heap[b]? = some (.cells cur 137 (0,0))) (hs : cur.size = 41) (hc : cur[39]? = some (.pointer none)) :
  Calls Tryz.prog 119 #[.pointer (some ⟨b,39,none⟩)] w fun e w' => e = .returned (.tuple #[]) ∧ Wrote b 39 (.pointer (some ⟨b,39,none⟩)) cur 137 w w' :=
 (Tryz.bld_check_fresh b w (by simp [World.cell?,h,hc]) (by simp [World.shape?,h,hs]) (by simp [World.frozen?,h])).mono fun e w' ⟨h1,h2⟩ => ⟨h1,by subst h2; exact Wrote.cell h⟩
def zEO (xs : List AV) (os : List Ob) (x : AV) (os' : List (Option Ob)) : Prop:=∃ (a0 : List UInt8) (z1 : List UInt8),zA1 a0 = some z1 ∧ xs = [.op 0 39] ∧ os = [.box 137 (zA2 (.op 0 39) (.orow 1)),.row 5 1 (List.map brow a0)] ∧ x = .tup [] ∧ os' = [some (.box 137 (zA2 (.op 0 39) (.orow 2))),none,some (.row 5 1 (List.map brow z1))]
def zBU : zAx:=zCl (fun xs os x os' => zEO xs os x os')
theorem zCP : PSound Tryz.prog 119 zBU :=
 PSound.ofOwn Tryz.call119 fun G w β xs vs os x os' h1 h2 h3 h4 h5 ⟨a0,z1,hm,hx,ho,hr,ho'⟩ =>
  zRM (p:=.op 0 39) (e:=5) rfl (.inr rfl) rfl rfl zHq (fun b w cur hb _ _ hc => zKf b w cur hb (hc rfl)) G w β xs vs os x os' h1 h2 h3 h4 h5 ⟨_,hx,ho,hr,by rw [ho',← Option.some.inj hm]; rfl⟩
def zEb (xs : List AV) (os : List Ob) (x : AV) (os' : List (Option Ob)) : Prop:=∃ (a0 : List UInt8) (z1 : List UInt8),zA1 a0 = some z1 ∧ xs = [.op 0 39] ∧ os = [.box 137 (zA2 (.s .np) (.orow 1)),.row 5 1 (List.map brow a0)] ∧ x = .tup [] ∧ os' = [some (.box 137 (zA2 (.op 0 39) (.orow 2))),none,some (.row 5 1 (List.map brow z1))]
def zCn : zAx:=zCl (fun xs os x os' => zEb xs os x os')
theorem zD2 : PSound Tryz.prog 119 zCn :=
 PSound.ofOwn Tryz.call119 fun G w β xs vs os x os' h1 h2 h3 h4 h5 ⟨a0,z1,hm,hx,ho,hr,ho'⟩ =>
  zRM (p:=.s .np) (e:=5) rfl (.inl rfl) rfl rfl zHq (fun b w cur hb hs hc _ => zJB b w cur hb hs (hc rfl)) G w β xs vs os x os' h1 h2 h3 h4 h5 ⟨_,hx,ho,hr,by rw [ho',← Option.some.inj hm]; rfl⟩
def zFr (xs : List AV) (os : List Ob) (x : AV) (os' : List (Option Ob)) : Prop:=∃ (a0 : List UInt8) (y0 : List UInt8),zCj a0 = some y0 ∧ xs = [.op 0 39] ∧ os = [.box 137 (zA2 (.op 0 39) (.orow 1)),.row 5 1 (List.map brow a0)] ∧ x = .s (.str y0) ∧ os' = [some (.box 137 (zA2 (.op 0 39) .junk)),none]
def zDq : zAx:=zCl (fun xs os x os' => zFr xs os x os')
theorem zFm : PSound Tryz.prog 99 zDq :=
 PSound.ofOwn Tryz.call99 fun G w β xs vs os x os' h1 h2 h3 h4 h5 ⟨a0,y0,hm,hx,ho,hr,ho'⟩ => by
  obtain ⟨⟨hq,hq2⟩,hm⟩:=zAJ hm;exact zPG (D:=137) (e:=5) (cells:=zA2 (.op 0 39) (.orow 1)) rfl rfl rfl zHq (fun b g cap l w cur => Tryz.bld_String b g cap l w cur) G w β xs vs os x os' h1 h2 h3 h4 h5 ⟨a0,hq,hq2,hx,ho,by rw [hr,Option.some.inj hm],ho'⟩
theorem Ext.grow {G : Nat → Prop} {w : World} (h : ∀ b,G b → b < w.heap.size) (k : Nat) (os : Array Obj) : Ext G G w (Sort.grow (w.drewN k) os) :=
 ⟨rfl,rfl,rfl,by show w.heap.size ≤ (w.heap ++ os).size; simp,fun b hb => by show (w.heap ++ os)[b]? = _; simp [Array.getElem?_append,hb],fun _ h => h,fun _ h => .inl h,fun b hb => by have:=h b hb; show b < (w.heap ++ os).size; simp; omega⟩
theorem zUP {G : Nat → Prop} {w : World} (h : GlobOk G w) : Lib.TabIs Tryz.prog w "internal/strconv.uint64pow10" .u64 Lib.pow10Tab:=by
 obtain ⟨_,e,f,hh⟩:=h.2 1 _ rfl;have hg : Tryz.prog.globalNamed "internal/strconv.uint64pow10" = some 1:=by kernel_rfl
 unfold Lib.TabIs World.var?
 rw [hg]
 simp only [Option.bind_some,hh]
def zK9 (xs : List AV) (r : Ret) : Prop:=∃ (a0 : Int) (y0 : List UInt8),zDj a0 = some y0 ∧ xs = [.s (.int .i64 a0)] ∧ r = .val (.s (.str y0))
def zFh : zAx:=zAG fun xs r => zK9 xs r
theorem zGz : PSound Tryz.prog 118 zFh :=
 ⟨Tryz.call118,fun G w xs vs r hl hgl hp hv ⟨a,y,hm,hx,hr⟩ => by
  subst hx; subst hr
  obtain ⟨⟨q1,q2⟩,hm⟩:=zAJ hm;have hy:=Option.some.inj hm;subst hy;simp only [AVals,AVal,Rep] at hv;obtain ⟨_,_,rfl,rfl,rfl⟩:=hv;exact (Tryz.strconv_Itoa a q1 q2 w (zUP hgl)).mono fun e w' ⟨h1,k,os,h2⟩ => ⟨_,G,h1,by rw [h2]; exact Ext.grow hl k os,rfl,by simp only [AVal,Rep]⟩,fun R hR => (by cases hR),fun R hR => (by cases hR)⟩
end Go.Proofs.YtjdhkpdjecegnaaGreatDoor
namespace Go.Proofs.YtjdhkpdjecegnaaGreatDoor
open Go.Abs
def VAt (hp : Nat → Option Ob) (e : Nat) (v : AV) (ks : List Nd) (keys : List Nat) : Prop :=
 (ks = [] ∧ v = .s (.sl 4 []) ∧ keys = []) ∨ ∃ q rows keys' w,v = .orow q ∧ hp q = some (.arow e 4 rows) ∧ rows.length = ks.length ∧ keys = q :: keys' ∧ LAt hp e q 0 ks keys' [] w
theorem At.full {hp : Nat → Option Ob} {e : Nat} {p : AV} {k c : Int} {t : List UInt8} {ks : List Nd} {keys : List Nat} {w : Nat} (h : At hp e p (.mk k t c ks) keys [] w) : ∃ v,zA9 hp p = some (zCO k t c v) ∧ VAt hp e v ks keys:=by
 simp only [At] at h;obtain ⟨v,hc,⟨_,_,h,_⟩ | ⟨rfl,rfl,rfl,_,_⟩ | ⟨q,rows,keys',rfl,hq,hlen,rfl,h⟩⟩:=h
 ·cases h
 ·exact ⟨_,hc,.inl ⟨rfl,rfl,rfl⟩⟩
 ·exact ⟨_,hc,.inr ⟨q,rows,keys',w,rfl,hq,hlen,rfl,h⟩⟩
def zNC (xs : List AV) (hp : Nat → Option Ob) (n : Nat) (Φ : AV → (Nat → Option Ob) → Nat → Prop) : Prop :=
 ∃ (k c : Int) (tx : List UInt8) (ks : List Nd),(Nd.mk k tx c ks).cnt ≤ 1000000000 ∧ xs = [.agg (zCO k tx c (.s (.sl 4 (Nd.encs ks))))] ∧
  ∀ v hp' n' keys,n ≤ n' → (∀ k,k < n → hp' k = hp k) → VAt hp' 24 v ks keys → keys.Nodup → (∀ k ∈ keys,n ≤ k ∧ k < n') → Φ (.agg (zCO k tx c v)) hp' n'
def zPq : zAx:=zQ7 zNC
theorem zSJ {T : Nat → Option TI} {σ : St} {t ty q bt : Nat} {i : TI} {cells : List AV} (h1 : σ.env t = .op q 0) (h2 : σ.hp q = some (.box bt cells)) (h3 : T ty = some i) (ha : i.k.agg = true) (hz : i.size = cells.length) : zLs T σ [.cell t ty] = some (AV.deep (.agg cells)):=by
 have hb : Nat.ble i.size cells.length = true :=(by rw [hz]; exact Nat.ble_eq_true_of_le (Nat.le_refl _));simp only [zLs,zHh,zP6,h1,h2,h3,ha,hb]
 rw [hz,List.take_length]
theorem zS1 {σ : St} {q : Nat} {ob : Ob} : (zEo σ q ob).hp q = some ob:=by simp only [zEo,Nat.beq_refl,cond_true]
theorem upd_ne {σ : St} {q k : Nat} {ob : Ob} (h : k ≠ q) : (zEo σ q ob).hp k = σ.hp k:=by simp only [zEo,zDR h,cond_false]
theorem VAt.frame {hp hp' : Nat → Option Ob} {e : Nat} {v : AV} {ks : List Nd} {keys : List Nat} (h : VAt hp e v ks keys) (hs : ∀ k ∈ keys,hp' k = hp k) : VAt hp' e v ks keys:=by
 rcases h with h | ⟨q,rows,keys',w,h1,h2,h3,rfl,h4⟩
 ·exact .inl h
 ·exact .inr ⟨q,rows,keys',w,h1,(hs q List.mem_cons_self).trans h2,h3,rfl,h4.sameQ (Sim.same (p0:=.junk) fun k hk => hs k (List.mem_cons.2 hk)) (fun j _ e => by cases e) (fun q j _ e => by cases e)⟩
theorem zF0 {T : Nat → Option TI} {own : Bool} {o : Oper} {σ : St} {p : AV} {y : Operand} (hl : isL 4 p) (ho : o.op = .assign y ∨ o.op = .move y) (hy : opd T σ.env o.type y = p) (hn : (own && zC2 y) = false) : step1 T own o σ = some (none,p,σ):=by
 have e0 : p.nrm = p:=by rcases hl with ⟨_,_,rfl⟩ | ⟨_,rfl⟩ <;> rfl
 have e1 : zB8 T own o σ.env = some (none,p):=by
  rcases ho with ho | ho <;> simp only [zB8,ho,hn,hy,e0]
 simp only [step1,e1]
theorem zK1 {c : Cx} {x : Code} {σ : St} {Q : Abs.End → St → Prop} (l : List (Nat × AV)) (n' : Nat) (h : holds σ.env l) (hn : σ.nx = n') (hk : ∀ H,(∀ k,H k = σ.hp k) → Tri c x ⟨ofL l,H,n'⟩ Q) : Tri c x σ Q:=by
 subst hn;exact zAm (Le.forget l h) (hk σ.hp fun _ => rfl)
theorem At.pend {hp : Nat → Option Ob} {e w : Nat} {p : AV} {k c : Int} {tx : List UInt8} {ks : List Nd} (h : At hp e p (.mk k tx c ks) [] [p] w) : zA9 hp p = some (zCO k tx c (.s (.sl 4 (Nd.encs ks)))):=by
 simp only [At] at h;obtain ⟨v,hc,⟨rfl,_⟩ | ⟨_,_,_,h,_⟩ | ⟨q,rows,keys',_,_,_,h,_⟩⟩:=h
 ·exact hc
 ·cases h
 ·cases h
theorem zIL {hp hp' : Nat → Option Ob} {sz k : Nat} {p : AV} {c : List AV} (hl : isL sz p) (h1 : hp' k = hp k) (h2 : hp' (zCi p) = hp (zCi p)) : putC hp' p c k = putC hp p c k:=by
 rcases hl with ⟨q,i,rfl⟩ | ⟨q,rfl⟩ <;> (simp only [zCi] at h2; simp only [putC,h1,h2])
theorem zRr {hp hp' : Nat → Option Ob} {sz k : Nat} {p : AV} {c c' cs : List AV} (hl : isL sz p) (hc : zA9 hp p = some cs) (h : hp' (zCi p) = putC hp p c' (zCi p)) (hk : k ≠ zCi p → hp' k = hp k) : putC hp' p c k = putC hp p c k:=by
 by_cases hb : k = zCi p
 ·subst hb;rcases zDl hl hc with ⟨q,i,e,rows,rfl,hq,hi⟩ | ⟨q,bt,rfl,hq⟩
  ·simp only [zCi] at h ⊢;rw [zIM hq] at h ⊢;simp only [Nat.beq_refl,cond_true] at h ⊢;rw [zIM h]
   simp only [Nat.beq_refl,cond_true,List.set_set]
  ·simp only [zCi] at h ⊢;rw [zKL hq] at h ⊢;simp only [Nat.beq_refl,cond_true] at h ⊢;rw [zKL h]
   simp only [Nat.beq_refl,cond_true]
 ·rw [zCm hb,zCm hb,hk hb]
theorem zSh {q j : Nat} : locs q 0 (j + 1) = locs q 0 j ++ [.rp q 4 j 0]:=by
 simp [locs,List.range'_concat]
theorem zTp {α : Type} {S : List α} {p : α} : ((S ++ [p]).map fun p => [p]).getD S.length [] = [p]:=by
 simp [List.getD_eq_getElem?_getD]
structure DInv (hp : Nat → Option Ob) (n e pe : Nat) (t : Nd) (H : Nat → Option Ob) (ls nx : Nat) (S : List AV) (keys : List Nat) (w : Nat) : Prop where
 low : ∀ k,k < n → H k = hp k
 res : ∃ a b c d,H (n + 1) = some (.box e [a,b,c,d])
 stk : H ls = some (.arow pe 1 (S.map fun p => [p]))
 tree : At H e (.op n 0) t keys S w
 nd : (n :: keys).Nodup
 kb : ∀ k ∈ keys,n + 1 < k ∧ k < nx ∧ k ≠ ls
 l1 : n + 1 < ls
 l2 : ls < nx
set_option maxHeartbeats 4000000 in
theorem zMN : PSound Tryz.prog 34 zPq:=by
 have gok : ∀ (f : Nat) (s : zAx),(fun _ => none : Nat → Option zAx) f = some s → PSound Tryz.prog f s:=fun _ _ h => by cases h
 refine zOo tokW Tryz.call34 Tryz.func34 rfl (fun xs hp n Φ h => by obtain ⟨_,_,_,_,_,rfl,_⟩:=h; show 1 ≤ _; decide) _ rfl ?_;rintro xs hp n Φ w0 G0 B0 ⟨k0,c,tx,ks,hcnt,rfl,hΦ⟩ _ hhp;refine zAa ?_;refine zAb [1,2] [] rfl ?_;show Tri _ _ _ _;refine zAa ?_;refine zAb [7] [] rfl ?_;show Tri _ _ _ _
 refine zAm (Le.forgetH [(1,.op n 0),(2,.op (n + 1) 0),(3,.orow (n + 2))] (fun k => bif Nat.beq k (n + 2) then some (.arow 96 1 [[.op n 0]]) else bif Nat.beq k (n + 1) then some (.box 24 [.s (.int .i64 0),.s (.str []),.s (.int .i64 0),.nl 4]) else bif Nat.beq k n then some (.box 24 (zCO k0 tx c (.s (.sl 4 (Nd.encs ks))))) else hp k) (n + 3) ⟨rfl,rfl,rfl,trivial⟩ (fun k => rfl) rfl) ?_
 have hI : DInv hp n 24 96 (.mk k0 tx c ks) (fun k => bif Nat.beq k (n + 2) then some (.arow 96 1 [[.op n 0]]) else bif Nat.beq k (n + 1) then some (.box 24 [.s (.int .i64 0),.s (.str []),.s (.int .i64 0),.nl 4]) else bif Nat.beq k n then some (.box 24 (zCO k0 tx c (.s (.sl 4 (Nd.encs ks))))) else hp k) (n + 2) (n + 3) [.op n 0] [] (Nd.mk k0 tx c ks).cnt:={
  low:=fun k hk => by
   have h1 : k ≠ n + 2 :=(by omega);have h2 : k ≠ n + 1 :=(by omega);have h3 : k ≠ n :=(by omega);simp only [zDR h1,zDR h2,zDR h3,cond_false]
  res:=⟨.s (.int .i64 0),.s (.str []),.s (.int .i64 0),.nl 4,by
   have h1 : n + 1 ≠ n + 2 :=(by omega);simp only [zDR h1,Nat.beq_refl,cond_false,cond_true]⟩
  stk:=by simp only [Nat.beq_refl,cond_true]; rfl
  tree:=by
   have h1 : n ≠ n + 2 :=(by omega);have h2 : n ≠ n + 1 :=(by omega);simp only [At]
   exact ⟨.s (.sl 4 (Nd.encs ks)),zLN (bt:=24) (by simp only [zDR h1,zDR h2,Nat.beq_refl,cond_false,cond_true]),.inl (by simp [Nd.cnt])⟩
  nd:=by simp
  kb:=fun k hk => by cases hk
  l1:=by omega
  l2:=by omega }
 generalize hH : (fun k => bif Nat.beq k (n + 2) then some (Ob.arow 96 1 [[AV.op n 0]]) else bif Nat.beq k (n + 1) then some (Ob.box 24 [AV.s (.int .i64 0),AV.s (.str []),AV.s (.int .i64 0),AV.nl 4]) else bif Nat.beq k n then some (Ob.box 24 (zCO k0 tx c (.s (.sl 4 (Nd.encs ks))))) else hp k) = H0 at hI ⊢
 clear hH
 refine zAa ?_;refine zAk (zAA (X:=(Nat → Option Ob) × Nat × Nat × List AV × List Nat × Nat) (fun y => match y with | (H,ls,nx,S,keys,w) => ⟨ofL [(1,.op n 0),(2,.op (n + 1) 0),(3,.orow ls)],H,nx⟩)
  (fun y => match y with | (H,ls,nx,S,keys,w) => DInv hp n 24 96 (.mk k0 tx c ks) H ls nx S keys w) (fun y => match y with | (H,ls,nx,S,keys,w) => w) (H0,n + 2,n + 3,[.op n 0],[],(Nd.mk k0 tx c ks).cnt) hI (Le.refl _ _) ?_)
 rintro ⟨H,ls,nx,S,keys,w⟩ hI;have hI : DInv hp n 24 96 (.mk k0 tx c ks) H ls nx S keys w:=hI;refine zAa ?_;refine zAa ?_;refine zAb [] [] rfl ?_;refine zAt rfl rfl rfl rfl rfl rfl trivial ?_;refine zAt rfl rfl rfl rfl rfl (zNm rfl rfl rfl rfl rfl hI.stk) trivial ?_;refine zAt rfl rfl rfl rfl rfl rfl trivial ?_;show Tri _ _ _ _;refine zAe rfl (fun hb => ?_) (fun hb => ?_)
 rotate_left
 ·refine zAC ?_;show Tri _ _ _ _;refine zAm (Le.forget [(1,.op n 0),(2,.op (n + 1) 0),(3,.orow ls)] ⟨rfl,rfl,rfl,trivial⟩) ?_;have hS : S = []:=by
   cases S with
   | nil => rfl
   | cons x S =>
    have:=of_decide_eq_false hb;simp only [List.length_map,List.length_cons] at this
    omega
  subst hS;obtain ⟨v,hc,hv⟩:=hI.tree.full;rcases zDl (sz:=4) (.inr ⟨n,rfl⟩) hc with ⟨q,i,e,rows,h1,_⟩ | ⟨q,bt,h1,hq⟩
  ·cases h1
  cases h1;obtain ⟨ra,rb,rc,rd,hr1⟩:=hI.res;refine zAa ?_;refine zAb [] [] rfl ?_;refine zAt rfl rfl rfl rfl rfl (zSR rfl rfl rfl rfl hq rfl) trivial ?_;have hvl : v.one = true ∧ v.lt nx = true:=by
   rcases hv with ⟨_,rfl,_⟩ | ⟨q,_,_,_,rfl,_,_,hk,_⟩
   ·exact ⟨rfl,rfl⟩
   ·exact ⟨rfl,decide_eq_true (hI.kb q (by rw [hk]; exact List.mem_cons_self)).2.1⟩
  refine zDW rfl rfl rfl (zO8 rfl rfl rfl hr1 rfl rfl (by show ([AV.s _,AV.s _,AV.s _,v] : List AV).all AV.one = true; simp only [List.all_cons,List.all_nil,hvl.1]; rfl) (by show AV.ltAll nx [AV.s _,AV.s _,AV.s _,v] = true; simp only [AV.ltAll,hvl.2]; rfl)) trivial ?_;show Tri _ _ _ _;refine zAv ?_;have hln : n < nx:=Nat.lt_trans (Nat.lt_trans (Nat.lt_succ_self n) hI.l1) hI.l2;have hdeep : AV.deep (.agg (zCO k0 tx c v)) = .agg (zCO k0 tx c v):=by
   rcases hv with ⟨_,rfl,_⟩ | ⟨q,_,_,_,rfl,_⟩ <;> rfl
  unfold zIX;refine ⟨_,Le.refl _ _,.agg (zCO k0 tx c v),?_,hΦ v _ _ keys (Nat.le_of_lt hln) (fun k hk => ?_) ?_ (List.nodup_cons.1 hI.nd).2 fun k hk => ⟨Nat.le_of_lt (Nat.lt_trans (Nat.lt_succ_self n) (hI.kb k hk).1),(hI.kb k hk).2.1⟩⟩
  ·exact (zSJ (cells:=zCO k0 tx c v) rfl zS1 rfl rfl rfl).trans (congrArg some hdeep)
  ·exact (upd_ne (by omega)).trans (hI.low k hk)
  ·exact hv.frame fun k hk => upd_ne (by have:=(hI.kb k hk).1; omega)
 refine zAj ?_;show Tri _ _ _ _;obtain ⟨S',p,rfl⟩ : ∃ S' p,S = S' ++ [p]:=by
  rcases List.eq_nil_or_concat S with rfl | ⟨S',p,rfl⟩
  ·cases hb
  ·exact ⟨S',p,List.concat_eq_append⟩
 have hl0 : isL 4 p:=hI.tree.loc (.inr ⟨n,rfl⟩) (by simp)
 obtain ⟨⟨k1,tx1,c1,ks1⟩,w1,hp0,hw,hrep⟩:=hI.tree.repl (.inr ⟨n,rfl⟩) hI.nd;have hcell:=hp0.pend;have hwl:=hI.tree.len;have hSl : S'.length < 1000000000:=by
  have:=hwl.1;have:=hwl.2;simp only [List.length_append,List.length_singleton] at *
  omega
 have hz : IntKind.i64.wrap (((((S' ++ [p]).map fun p => [p]).length : Nat) : Int) - 1) = (S'.length : Int):=by
  rw [wrap64_in (by simp only [List.length_map,List.length_append,List.length_singleton]; omega) (by simp only [List.length_map,List.length_append,List.length_singleton]; omega)]
  simp only [List.length_map,List.length_append,List.length_singleton]; omega
 have hlt1 : S'.length < ((S' ++ [p]).map fun p => [p]).length :=(by simp);refine zAm (Le.forget [(1,.op n 0),(2,.op (n + 1) 0),(3,.orow ls)] ⟨rfl,rfl,rfl,trivial⟩) ?_;refine zAk ?_;refine zAa ?_;refine zAb [] [] rfl ?_;refine zAt rfl rfl rfl rfl rfl rfl trivial ?_;refine zAt rfl rfl rfl rfl rfl rfl trivial ?_;refine zAt rfl rfl rfl rfl rfl (zNm rfl rfl rfl rfl rfl hI.stk) trivial ?_;refine zAt rfl rfl rfl rfl rfl rfl trivial ?_;rw [hz]
 refine zAt rfl rfl rfl rfl rfl (zSQ rfl rfl rfl rfl rfl rfl hI.stk rfl) ⟨Int.natCast_nonneg _,Int.ofNat_lt.2 hlt1⟩ ?_;refine zOg (c:=p) rfl rfl rfl rfl rfl rfl hI.stk hlt1 (by rw [Int.toNat_natCast,zTp]; rfl) ?_;refine zAt rfl rfl rfl rfl rfl (zF0 hl0 (.inl rfl) rfl rfl) trivial ?_;show Tri _ _ _ _;refine zAm (Le.forget [(1,.op n 0),(2,.op (n + 1) 0),(3,.orow ls),(4,p)] ⟨rfl,rfl,rfl,rfl,trivial⟩) ?_;refine zAa ?_;refine zAb [21] [] rfl ?_;refine zAt rfl rfl rfl rfl rfl rfl trivial ?_;refine zAt rfl rfl rfl rfl rfl rfl trivial ?_;refine zAt rfl rfl rfl rfl rfl (zNm rfl rfl rfl rfl rfl hI.stk) trivial ?_
 refine zAt rfl rfl rfl rfl rfl rfl trivial ?_;rw [hz]
 refine zAt rfl rfl rfl rfl rfl (zSS rfl rfl rfl rfl rfl rfl hI.stk rfl) ⟨Int.natCast_nonneg _,Int.ofNat_le.2 (Nat.le_of_lt hlt1)⟩ ?_;refine zAt rfl rfl rfl rfl rfl rfl trivial ?_;show Tri _ _ _ _;refine zK1 [(1,.op n 0),(2,.op (n + 1) 0),(3,.orow nx),(4,p)] (nx + 1) ⟨rfl,rfl,rfl,rfl,trivial⟩ rfl fun H1 hH1 => ?_
 have g1 : H1 nx = some (.arow 96 1 (S'.map fun p => [p])):=(hH1 nx).trans (by
  show (bif Nat.beq nx nx then some (Ob.arow 96 1 (((S' ++ [p]).map fun p => [p]).take ((S'.length : Int)).toNat)) else _) = _;rw [Nat.beq_refl,cond_true,Int.toNat_natCast]
  simp)
 have g2 : ∀ k,k ≠ nx → k ≠ ls → H1 k = H k:=fun k h1 h2 => (hH1 k).trans (by
  show (bif Nat.beq k nx then _ else bif Nat.beq k ls then none else H k) = _;rw [zDR h1,zDR h2]; rfl)
 clear hH1
 have hbase : zCi p = n ∨ zCi p ∈ keys:=by
  rcases hI.tree.base (p0:=p) (by simp) with h | h
  ·exact .inl (by rw [h]; rfl)
  ·exact .inr h
 have hln : n < nx:=Nat.lt_trans (Nat.lt_trans (Nat.lt_succ_self n) hI.l1) hI.l2;have hbl : zCi p ≠ nx ∧ zCi p ≠ ls ∧ zCi p ≠ n + 1 ∧ zCi p < nx:=by
  have h1:=hI.l1;have h2:=hI.l2;rcases hbase with h | h
  ·rw [h]; omega
  ·have:=hI.kb _ h; omega
 have fin : ∀ (cs : List AV) (Hj : Nat → Option Ob) (lsj nxj : Nat) (new : List Nat) (ch : List AV) (w' : Nat),(∀ k,k ≠ ls → k < nx → Hj k = putC H p cs k) → Hj lsj = some (.arow 96 1 ((S' ++ ch).map fun p => [p])) → At Hj 24 p (.mk k1 tx1 c1 ks1) new ch w' →
   new.Nodup → (∀ k ∈ new,nx ≤ k ∧ k < nxj ∧ k ≠ lsj) → nx ≤ lsj → lsj < nxj → w' < (Nd.mk k1 tx1 c1 ks1).cnt → ∃ keys2,DInv hp n 24 96 (.mk k0 tx c ks) Hj lsj nxj (S' ++ ch) keys2 (w1 + w') ∧ w1 + w' < w:=by
  intro cs Hj lsj nxj new ch w' f1 f2 f3 f4 f5 f6 f7 f8;have l1:=hI.l1;have l2:=hI.l2;have hD : ∀ k,k = n ∨ k ∈ keys → k ≠ ls ∧ k < nx:=fun k hk => by
   rcases hk with rfl | hk
   ·omega
   ·have:=hI.kb k hk; omega
  obtain ⟨keys2,hperm,hat⟩:=hrep Hj new ch w' (Sim.put hl0 hcell fun k hk => f1 k (hD k hk).1 (hD k hk).2) f3;have hmem : ∀ k,k ∈ keys2 → k ∈ keys ∨ k ∈ new:=fun k hk => List.mem_append.1 (hperm.mem_iff.1 hk)
  have hkn:=List.nodup_cons.1 hI.nd;refine ⟨keys2,{
   low:=fun k hk => (f1 k (by omega) (by omega)).trans ((zCm (by
    rcases hbase with h | h
    ·omega
    ·have:=hI.kb _ h; omega)).trans (hI.low k hk))
   res:=by
    obtain ⟨a,b,c,d,hr⟩:=hI.res;exact ⟨a,b,c,d,(f1 (n + 1) (by omega) (by omega)).trans ((zCm (Ne.symm hbl.2.2.1)).trans hr)⟩
   stk:=f2
   tree:=hat
   nd:=List.nodup_cons.2 ⟨fun hm => by
    rcases hmem n hm with h | h
    ·exact hkn.1 h
    ·have:=f5 n h; omega,hperm.nodup_iff.2 (List.nodup_append.2 ⟨hkn.2,f4,fun a ha b hb e => by
     have:=hI.kb a ha;have:=f5 b hb
     omega⟩)⟩
   kb:=fun k hk => by
    rcases hmem k hk with h | h
    ·have:=hI.kb k h; omega
    ·have:=f5 k h; omega
   l1:=by omega
   l2:=f7 },by omega⟩
 have hc1 : zA9 H1 p = some (zCO k1 tx1 c1 (.s (.sl 4 (Nd.encs ks1)))):=(zCH hl0 (g2 _ hbl.1 hbl.2.1)).trans hcell;refine zAa ?_;refine zAb [] [] rfl ?_;refine zAt rfl rfl rfl rfl rfl (zF0 hl0 (.inr rfl) rfl rfl) trivial ?_;refine zAt rfl rfl rfl rfl rfl (zGK hl0 rfl rfl) trivial ?_;refine zAt rfl rfl rfl rfl rfl (zGJ hl0 rfl rfl rfl rfl rfl rfl rfl) trivial ?_;refine zFy (off:=3) (sz:=4) rfl rfl rfl rfl rfl rfl rfl hl0 rfl hc1 rfl ?_;refine zAt rfl rfl rfl rfl rfl rfl trivial ?_;show Tri _ _ _ _
 refine zAm (Le.forget [(1,.op n 0),(2,.op (n + 1) 0),(3,.orow nx),(4,p),(5,.s (.sl 4 (Nd.encs ks1)))] ⟨rfl,rfl,rfl,rfl,rfl,trivial⟩) ?_;refine zAa ?_;refine zAb [] [] rfl ?_;refine zAt rfl rfl rfl rfl rfl (zF0 hl0 (.inr rfl) rfl rfl) trivial ?_;refine zAt rfl rfl rfl rfl rfl (zGK hl0 rfl rfl) trivial ?_;refine zAt rfl rfl rfl rfl rfl (zGJ hl0 rfl rfl rfl rfl rfl rfl rfl) trivial ?_;refine zOh (off:=3) (sz:=4) (c:=.s (.sl 4 [])) rfl rfl rfl rfl rfl hl0 rfl hc1 rfl (by decide) rfl rfl rfl ?_;show Tri _ _ _ _
 refine zK1 [(1,.op n 0),(2,.op (n + 1) 0),(3,.orow nx),(4,p),(5,.s (.sl 4 (Nd.encs ks1)))] (nx + 1) ⟨rfl,rfl,rfl,rfl,rfl,trivial⟩ rfl fun H2 hH2 => ?_
 have hH2 : ∀ k,H2 k = putC H1 p (zCO k1 tx1 c1 (.s (.sl 4 []))) k:=hH2
 have hc2 : zA9 H2 p = some (zCO k1 tx1 c1 (.s (.sl 4 []))):=(zCH hl0 (hH2 _)).trans (zKi hl0 hc1)
 refine zAa ?_;refine zAa ?_;refine zAb [] [] rfl ?_;refine zAt rfl rfl rfl rfl rfl rfl trivial ?_;refine zAt rfl rfl rfl rfl rfl rfl trivial ?_;refine zAt rfl rfl rfl rfl rfl rfl trivial ?_;show Tri _ _ _ _;refine zAe rfl (fun hb => ?_) (fun hb => ?_)
 rotate_left
 ·obtain rfl : ks1 = []:=by
   cases ks1 with
   | nil => rfl
   | cons x l =>
    have:=of_decide_eq_false hb;simp only [Nd.encs,List.length_cons] at this
    omega
  refine zAj ?_;show Tri _ _ _ _;refine zAm (Le.forget [(1,.op n 0),(2,.op (n + 1) 0),(3,.orow nx),(4,p),(5,.s (.sl 4 []))] ⟨rfl,rfl,rfl,rfl,rfl,trivial⟩) ?_;refine zAa ?_;refine zAb [] [] rfl ?_;refine zAt rfl rfl rfl rfl rfl (zF0 hl0 (.inr rfl) rfl rfl) trivial ?_;refine zAt rfl rfl rfl rfl rfl (zGK hl0 rfl rfl) trivial ?_;refine zAt rfl rfl rfl rfl rfl (zGJ hl0 rfl rfl rfl rfl rfl rfl rfl) trivial ?_;refine zFy (off:=3) (sz:=4) rfl rfl rfl rfl rfl rfl rfl hl0 rfl hc2 rfl ?_;refine zAt rfl rfl rfl rfl rfl rfl trivial ?_;refine zAt rfl rfl rfl rfl rfl rfl trivial ?_;show Tri _ _ _ _
  refine zAm (Le.forget [(1,.op n 0),(2,.op (n + 1) 0),(3,.orow nx),(4,p),(5,.s (.sl 4 []))] ⟨rfl,rfl,rfl,rfl,rfl,trivial⟩) ?_;refine zAa ?_;refine zAb [] [] rfl ?_;refine zAt rfl rfl rfl rfl rfl (zF0 hl0 (.inr rfl) rfl rfl) trivial ?_;refine zAt rfl rfl rfl rfl rfl (zGK hl0 rfl rfl) trivial ?_;refine zAt rfl rfl rfl rfl rfl (zGJ hl0 rfl rfl rfl rfl rfl rfl rfl) trivial ?_;refine zFy (off:=3) (sz:=4) rfl rfl rfl rfl rfl rfl rfl hl0 rfl hc2 rfl ?_;refine zAt rfl rfl rfl rfl rfl rfl trivial ?_;refine zAt rfl rfl rfl rfl rfl rfl trivial ?_;show Tri _ _ _ _
  refine zAk (zAA (X:=Unit) (fun _ => ⟨ofL [(1,.op n 0),(2,.op (n + 1) 0),(3,.orow nx),(48,.s (.int .i64 0)),(49,.s (.int .i64 0))],H2,nx + 1⟩) (fun _ => True) (fun _ => 0) () trivial (Le.forget [(1,.op n 0),(2,.op (n + 1) 0),(3,.orow nx),(48,.s (.int .i64 0)),(49,.s (.int .i64 0))] ⟨rfl,rfl,rfl,rfl,rfl,trivial⟩) ?_)
  rintro ⟨⟩ _;refine zAa ?_;refine zAb [] [] rfl ?_;refine zAt rfl rfl rfl rfl rfl rfl trivial ?_;show Tri _ _ _ _;refine zAa ?_;refine zAe rfl (fun hb => by cases hb) (fun hb => ?_)
  refine zAC ?_;obtain ⟨keys2,hz1,hz2⟩:=fin (zCO k1 tx1 c1 (.s (.sl 4 []))) H2 nx (nx + 1) [] [] 0
   (fun k h1 h2 => (hH2 k).trans (zIL hl0 (g2 k (by omega) h1) (g2 _ hbl.1 hbl.2.1)))
   (by rw [List.append_nil]; exact (hH2 nx).trans ((zCm (Ne.symm hbl.1)).trans g1))
   (by simp only [At]; exact ⟨.s (.sl 4 []),hc2,.inr (.inl (by simp))⟩) (by simp) (fun k hk => by cases hk) (Nat.le_refl _) (Nat.lt_succ_self _) (by simp [Nd.cnt])
  exact ⟨(H2,nx,nx + 1,S' ++ [],keys2,w1 + 0),hz1,Le.forget [(1,.op n 0),(2,.op (n + 1) 0),(3,.orow nx)] ⟨rfl,rfl,rfl,trivial⟩,hz2⟩
 ·have hm : 0 < ks1.length:=by
   have:=of_decide_eq_true hb;rw [Nd.encs_eq,List.length_map] at this
   omega
  have hkl : ks1.length < 1000000000:=by
   have h1:=Nd.cnts_len ks1;have h2:=hwl.2;simp only [Nd.cnt] at hw hcnt h2
   omega
  have hel : (Nd.encs ks1).length = ks1.length :=(by rw [Nd.encs_eq,List.length_map]);refine zAm (Le.forget [(1,.op n 0),(2,.op (n + 1) 0),(3,.orow nx),(4,p),(5,.s (.sl 4 (Nd.encs ks1)))] ⟨rfl,rfl,rfl,rfl,rfl,trivial⟩) ?_;refine zAb [35] [] rfl ?_;refine zAt rfl rfl rfl rfl rfl (zF0 hl0 (.inr rfl) rfl rfl) trivial ?_;refine zAt rfl rfl rfl rfl rfl rfl trivial ?_;refine zAt rfl rfl rfl rfl rfl rfl trivial ?_
  refine zAt rfl rfl rfl rfl rfl (zUV rfl rfl rfl rfl rfl rfl rfl rfl rfl) (show 0 ≤ _ ∧ _ from ⟨Int.natCast_nonneg _,Int.le_refl _,show (((Nd.encs ks1).length : Nat) : Int) * ((56 : Nat) : Int) ≤ 281474976710656 by omega,show (((Nd.encs ks1).length : Nat) : Int) ≤ 281474976710656 by omega⟩) ?_;refine zAt rfl rfl rfl rfl rfl (zGK hl0 rfl rfl) trivial ?_;refine zAt rfl rfl rfl rfl rfl (zGJ hl0 rfl rfl rfl rfl rfl rfl rfl) trivial ?_;have hbn : zCi p ≠ nx + 1:=by have:=hbl.2.2.2; omega
  refine zOh (off:=3) (sz:=4) (c:=.orow (nx + 1)) rfl rfl rfl rfl rfl hl0 rfl ((zCH hl0 (by show (bif Nat.beq (zCi p) (nx + 1) then _ else H2 (zCi p)) = _; rw [zDR hbn]; rfl)).trans hc2) rfl (by decide) rfl rfl (decide_eq_true (Nat.lt_succ_self _)) ?_;show Tri _ _ _ _;refine zK1 [(1,.op n 0),(2,.op (n + 1) 0),(3,.orow nx),(4,p),(5,.s (.sl 4 (Nd.encs ks1)))] (nx + 2) ⟨rfl,rfl,rfl,rfl,rfl,trivial⟩ rfl fun H3 hH3 => ?_
  have hH3 : ∀ k,H3 k = putC (fun k => bif Nat.beq k (nx + 1) then some (.row 24 4 (List.replicate (((Nd.encs ks1).length : Int)).toNat [.int .i64 0,.str [],.int .i64 0,.sl 4 []])) else H2 k) p (zCO k1 tx1 c1 (.orow (nx + 1))) k:=hH3
  have a1 : H3 (nx + 1) = some (.row 24 4 (List.replicate (((Nd.encs ks1).length : Int)).toNat [.int .i64 0,.str [],.int .i64 0,.sl 4 []])):=(hH3 _).trans ((zCm (Ne.symm hbn)).trans (by simp only [Nat.beq_refl,cond_true]))
  have a2 : ∀ k,k ≠ nx + 1 → H3 k = putC H2 p (zCO k1 tx1 c1 (.orow (nx + 1))) k:=fun k hk => (hH3 k).trans (zIL hl0 (by simp only [zDR hk,cond_false]) (by simp only [zDR hbn,cond_false]))
  have hc3 : zA9 H3 p = some (zCO k1 tx1 c1 (.orow (nx + 1))):=(zCH hl0 (a2 _ hbn)).trans (zKi hl0 hc2)
  refine zAm (Le.toA (nx + 1) a1) ?_;refine zAa ?_;refine zAb [] [] rfl ?_;refine zAt rfl rfl rfl rfl rfl (zF0 hl0 (.inr rfl) rfl rfl) trivial ?_;refine zAt rfl rfl rfl rfl rfl (zGK hl0 rfl rfl) trivial ?_;refine zAt rfl rfl rfl rfl rfl (zGJ hl0 rfl rfl rfl rfl rfl rfl rfl) trivial ?_;refine zFy (off:=3) (sz:=4) rfl rfl rfl rfl rfl rfl rfl hl0 rfl ((zCH hl0 (upd_ne hbn)).trans hc3) rfl ?_;refine zAt rfl rfl rfl rfl rfl rfl trivial ?_;refine zAt rfl rfl rfl rfl rfl (zTO rfl rfl rfl rfl rfl rfl rfl rfl rfl zS1 rfl rfl) (show (List.map _ _).length = List.length _ by simp) ?_;show Tri _ _ _ _
  refine zK1 [(1,.op n 0),(2,.op (n + 1) 0),(3,.orow nx),(4,p),(5,.s (.sl 4 (Nd.encs ks1)))] (nx + 2) ⟨rfl,rfl,rfl,rfl,rfl,trivial⟩ rfl fun H4 hH4 => ?_
  have r1 : H4 (nx + 1) = some (.arow 24 4 ((Nd.encs ks1).map (·.map AV.s))):=(hH4 _).trans zS1;have r2 : ∀ k,k ≠ nx + 1 → H4 k = H3 k:=fun k hk => (hH4 k).trans ((upd_ne hk).trans (upd_ne hk))
  clear hH4
  have hc4 : zA9 H4 p = some (zCO k1 tx1 c1 (.orow (nx + 1))):=(zCH hl0 (r2 _ hbn)).trans hc3;refine zAa ?_;refine zAb [] [] rfl ?_;refine zAt rfl rfl rfl rfl rfl (zF0 hl0 (.inr rfl) rfl rfl) trivial ?_;refine zAt rfl rfl rfl rfl rfl (zGK hl0 rfl rfl) trivial ?_;refine zAt rfl rfl rfl rfl rfl (zGJ hl0 rfl rfl rfl rfl rfl rfl rfl) trivial ?_;refine zFy (off:=3) (sz:=4) rfl rfl rfl rfl rfl rfl rfl hl0 rfl hc4 rfl ?_;refine zAt rfl rfl rfl rfl rfl (zNm rfl rfl rfl rfl rfl r1) trivial ?_;refine zAt rfl rfl rfl rfl rfl rfl trivial ?_;show Tri _ _ _ _
  have hlen4 : ((Nd.encs ks1).map (·.map AV.s)).length = ks1.length :=(by rw [List.length_map,hel]);refine zAk (zAA (X:=(Nat → Option Ob) × Nat × Nat × Nat) (fun y => match y with | (Hj,lsj,nxj,j) => ⟨ofL [(1,.op n 0),(2,.op (n + 1) 0),(3,.orow lsj),(4,p),(48,.s (.int .i64 (ks1.length : Int))),(49,.s (.int .i64 (j : Int)))],Hj,nxj⟩)
   (fun y => match y with | (Hj,lsj,nxj,j) => j ≤ ks1.length ∧ (∀ k,k ≠ nx → k < nx + 2 → Hj k = H4 k) ∧ Hj lsj = some (.arow 96 1 ((S' ++ locs (nx + 1) 0 j).map fun p => [p])) ∧ (lsj = nx ∨ nx + 2 ≤ lsj) ∧ lsj < nxj ∧ nx + 2 ≤ nxj) (fun y => match y with | (Hj,lsj,nxj,j) => ks1.length - j) (H4,nx,nx + 2,0)
   ⟨Nat.zero_le _,fun k _ _ => rfl,by
    refine (r2 nx (by omega)).trans ((a2 nx (by omega)).trans ((zCm (Ne.symm hbl.1)).trans ((hH2 nx).trans ((zCm (Ne.symm hbl.1)).trans (g1.trans ?_)))))
    simp [locs],.inl rfl,by omega,Nat.le_refl _⟩
   (Le.forget [(1,.op n 0),(2,.op (n + 1) 0),(3,.orow nx),(4,p),(48,.s (.int .i64 (ks1.length : Int))),(49,.s (.int .i64 ((0 : Nat) : Int)))] ⟨rfl,rfl,rfl,rfl,congrArg (fun m : Nat => AV.s (.int .i64 (m : Int))) hlen4,rfl,trivial⟩) ?_)
  rintro ⟨Hj,lsj,nxj,j⟩ ⟨i1,i2,i3,i4,i5,i6⟩
  have hbj : zCi p ≠ nx ∧ zCi p < nx + 2:=⟨hbl.1,by have:=hbl.2.2.2; omega⟩
  have hcj : zA9 Hj p = some (zCO k1 tx1 c1 (.orow (nx + 1))):=(zCH hl0 (i2 _ hbj.1 hbj.2)).trans hc4;have hrj : Hj (nx + 1) = some (.arow 24 4 ((Nd.encs ks1).map (·.map AV.s))):=(i2 (nx + 1) (by omega) (by omega)).trans r1;refine zAa ?_;refine zAb [] [] rfl ?_;refine zAt rfl rfl rfl rfl rfl rfl trivial ?_;show Tri _ _ _ _;refine zAa ?_;refine zAe rfl (fun hb => ?_) (fun hb => ?_)
  ·refine zAj ?_;show Tri _ _ _ _;have hj : j < ks1.length:=Int.ofNat_lt.1 (of_decide_eq_true hb)
   have hsl : ((S' ++ locs (nx + 1) 0 j).map fun p => [p]).length = S'.length + j :=(by simp [locs]);refine zAm (Le.forget [(1,.op n 0),(2,.op (n + 1) 0),(3,.orow lsj),(4,p),(48,.s (.int .i64 (ks1.length : Int))),(49,.s (.int .i64 (j : Int)))] ⟨rfl,rfl,rfl,rfl,rfl,rfl,trivial⟩) ?_;refine zAa ?_;refine zAk ?_;refine zAa ?_;refine zAb [] [] rfl ?_;refine zAt rfl rfl rfl rfl rfl rfl trivial ?_;refine zAt rfl rfl rfl rfl rfl rfl trivial ?_;show Tri _ _ _ _;refine zAb [59,60] [] rfl ?_;refine zAt rfl rfl rfl rfl rfl rfl trivial ?_;refine zAt rfl rfl rfl rfl rfl (zF0 hl0 (.inr rfl) rfl rfl) trivial ?_
   refine zAt rfl rfl rfl rfl rfl (zGK hl0 rfl rfl) trivial ?_;refine zAt rfl rfl rfl rfl rfl (zGJ hl0 rfl rfl rfl rfl rfl rfl rfl) trivial ?_;refine zFy (off:=3) (sz:=4) rfl rfl rfl rfl rfl rfl rfl hl0 rfl hcj rfl ?_;refine zAt rfl rfl rfl rfl rfl rfl trivial ?_;refine zAt rfl rfl rfl rfl rfl (zSQ rfl rfl rfl rfl rfl rfl hrj rfl) ⟨Int.natCast_nonneg _,Int.ofNat_lt.2 (by rw [hlen4]; exact hj)⟩ ?_;rw [Int.toNat_natCast]
   refine zAt rfl rfl rfl rfl rfl rfl trivial ?_;refine zAt rfl rfl rfl rfl rfl (zUq (rows:=(S' ++ locs (nx + 1) 0 j).map fun p => [p]) (rows2:=[[.rp (nx + 1) 4 j 0]]) rfl rfl rfl rfl rfl rfl rfl rfl rfl (by show (bif Nat.beq lsj nxj then _ else Hj lsj) = _; rw [zDR (by omega)]; exact i3) (by show (bif Nat.beq nxj nxj then _ else Hj nxj) = _; rw [Nat.beq_refl]; rfl) rfl rfl rfl) (show (((S' ++ locs (nx + 1) 0 j).map fun p => [p]).length + 1) * 8 ≤ 140737488355328 ∧ ((S' ++ locs (nx + 1) 0 j).map fun p => [p]).length + 1 ≤ 9223372036854775807 by rw [hsl]; omega) ?_;refine zAt rfl rfl rfl rfl rfl rfl trivial ?_;show Tri _ _ _ _
   refine zK1 [(1,.op n 0),(2,.op (n + 1) 0),(3,.orow (nxj + 1)),(4,p),(48,.s (.int .i64 (ks1.length : Int))),(49,.s (.int .i64 (j : Int)))] (nxj + 2) ⟨rfl,rfl,rfl,rfl,rfl,rfl,trivial⟩ rfl fun H5 hH5 => ?_
   have e1 : H5 (nxj + 1) = some (.arow 96 1 ((S' ++ locs (nx + 1) 0 (j + 1)).map fun p => [p])):=(hH5 _).trans (by
    show (bif Nat.beq (nxj + 1) (nxj + 1) then some (Ob.arow 96 1 (((S' ++ locs (nx + 1) 0 j).map fun p => [p]) ++ [[.rp (nx + 1) 4 j 0]])) else _) = _;rw [Nat.beq_refl,cond_true,zSh]
    simp)
   have e2 : ∀ k,k ≠ nxj + 1 → k ≠ lsj → k ≠ nxj → H5 k = Hj k:=fun k h1 h2 h3 => (hH5 k).trans (by
    show (bif Nat.beq k (nxj + 1) then _ else bif Nat.beq k lsj then none else bif Nat.beq k nxj then _ else Hj k) = _;rw [zDR h1,zDR h2,zDR h3]; rfl)
   clear hH5
   refine zAb [] [] rfl ?_;refine zAt rfl rfl rfl rfl rfl rfl trivial ?_;refine zAt rfl rfl rfl rfl rfl rfl trivial ?_;exact ⟨(H5,nxj + 1,nxj + 2,j + 1),⟨hj,fun k h1 h2 => (e2 k (by omega) (by omega) (by omega)).trans (i2 k h1 h2),e1,.inr (by omega),by omega,by omega⟩,
    Le.forget [(1,.op n 0),(2,.op (n + 1) 0),(3,.orow (nxj + 1)),(4,p),(48,.s (.int .i64 (ks1.length : Int))),(49,.s (.int .i64 ((j + 1 : Nat) : Int)))] ⟨rfl,rfl,rfl,rfl,rfl,congrArg (fun z => AV.s (.int .i64 z)) (zAL (by omega)),trivial⟩,by show ks1.length - (j + 1) < ks1.length - j; omega⟩
  ·refine zAC ?_;have hj : j = ks1.length:=by
    have:=of_decide_eq_false hb
    omega
   subst hj;obtain ⟨keys2,hz1,hz2⟩:=fin (zCO k1 tx1 c1 (.orow (nx + 1))) Hj lsj nxj [nx + 1] (locs (nx + 1) 0 ks1.length) (Nd.cnts ks1)
    (fun k h1 h2 => (i2 k (by omega) (by omega)).trans ((r2 k (by omega)).trans ((a2 k (by omega)).trans (zRr hl0 hcell ((hH2 _).trans (zIL hl0 (g2 _ hbl.1 hbl.2.1) (g2 _ hbl.1 hbl.2.1))) fun hk => (hH2 k).trans ((zCm hk).trans (g2 k (by omega) h1))))))
    i3 (by simp only [At]; exact ⟨.orow (nx + 1),hcj,.inr (.inr ⟨nx + 1,_,[],rfl,hrj,hlen4,rfl,LAt.copied hrj⟩)⟩) (by simp) (fun k hk => by
     have:=List.mem_singleton.1 hk
     omega) (by omega) i5 (by simp [Nd.cnt])
   exact ⟨(Hj,lsj,nxj,S' ++ locs (nx + 1) 0 ks1.length,keys2,w1 + Nd.cnts ks1),hz1,Le.forget [(1,.op n 0),(2,.op (n + 1) 0),(3,.orow lsj)] ⟨rfl,rfl,rfl,trivial⟩,hz2⟩
def zPt (xs : List AV) (r : Ret) : Prop:=∃ (a0 : Nd) (y0 : Nd),zFT a0 = some y0 ∧ xs = [.agg ((Nd.enc a0).map .s)] ∧ r = .val (.agg ((Nd.enc y0).map .s))
def zJZ : zAx:=zAG fun xs r => zPt xs r
theorem zOF : PSound Tryz.prog 34 zJZ :=
 PSound.giveAll zMN fun xs r h => by
  obtain ⟨⟨k,t,c,ks⟩,y,hm,rfl,rfl⟩:=h;obtain ⟨hq,hm⟩:=zAJ hm;obtain rfl:=Option.some.inj hm;refine ⟨_,rfl,rfl,k,c,t,ks,hq,rfl,fun v hp' n' keys _ _ hv _ _ => ?_⟩
  refine zTD (t:=.mk k t c ks) (RdC.node ?_)
  rcases hv with ⟨rfl,rfl,_⟩ | ⟨q,rows,keys',w,rfl,hq,hlen,rfl,h⟩
  ·exact .s _
  ·exact Rd.rows hq hlen fun j x hj => (by have:=LAt.rd h j x hj; rwa [Nat.zero_add] at this)
end Go.Proofs.YtjdhkpdjecegnaaGreatDoor
namespace Go.Proofs.YtjdhkpdjecegnaaGreatDoor
open Go.Abs
def zFS : (List Int) → Option (List Int)
| l1 =>
 (zDm l1).bind fun y2 =>
 some y2
def zBV (l1 : List Nd) : Nat → Int → (List Nd) → Option ((List Nd))
| 0,_,_ => none
| k+1,x4,l5 =>
 bif decide (x4 < (l1.length : Int)) then (
  (at? l1 x4).bind fun ⟨e7_kind,e7_text,e7_cols,e7_kids⟩ =>
  (zFT (Nd.mk e7_kind e7_text e7_cols e7_kids)).bind fun ⟨y9_kind,y9_text,y9_cols,y9_kids⟩ =>
  req (l5.length + [Nd.mk y9_kind y9_text y9_cols y9_kids].length ≤ 4294967296) <|
  zBV l1 k (IntKind.i64.wrap (x4 + 1)) (l5 ++ [Nd.mk y9_kind y9_text y9_cols y9_kids])
 ) else (
  some l5
 )
def zFc (n : Nat) : (List Nd) → Option (List Nd)
| l1 =>
 (zBV l1 n 0 []).bind fun l6 =>
 some l6
def zGu (n : Nat) : (Int × List Int × Int × Int × List Nd × Int × List UInt8 × List UInt8) → Option (Int × List Int × Int × Int × List Nd × Int × List UInt8 × List UInt8)
| ⟨op1_kind,op1_row,op1_at,op1_n,op1_nodes,op1_slot,op1_old,op1_text⟩ =>
 (zFS op1_row).bind fun y2 =>
 (zFc n op1_nodes).bind fun y3 =>
 some (op1_kind,y2,op1_at,op1_n,y3,op1_slot,op1_old,op1_text)
end Go.Proofs.YtjdhkpdjecegnaaGreatDoor
namespace Go.Proofs.YtjdhkpdjecegnaaGreatDoor
open Go.Abs
def zCx (a1_row : List Int) (a2_row : List Int) : Nat → Int → Option (Fl Bool Unit)
| 0,_ => none
| k+1,x6 =>
 bif decide (x6 < (a1_row.length : Int)) then (
  (at? a1_row x6).bind fun e8 =>
  (at? a2_row x6).bind fun e10 =>
  bif (e8 != e10) then (
   some (.ret false)
  ) else (
   zCx a1_row a2_row k (IntKind.i64.wrap (x6 + 1))
  )
 ) else (
  some (.go ())
 )
def zEG (n : Nat) : (Int × List Int × Int × Int × List Nd × Int × List UInt8 × List UInt8) → (Int × List Int × Int × Int × List Nd × Int × List UInt8 × List UInt8) → Option Bool
| ⟨a1_kind,a1_row,a1_at,a1_n,a1_nodes,a1_slot,a1_old,a1_text⟩,⟨a2_kind,a2_row,a2_at,a2_n,a2_nodes,a2_slot,a2_old,a2_text⟩ =>
 (
  bif (a1_kind != a2_kind) then (
   some true
  ) else (
   bif (a1_at != a2_at) then (
    some true
   ) else (
    bif (a1_n != a2_n) then (
     some true
    ) else (
     bif (a1_slot != a2_slot) then (
      some true
     ) else (
      bif (!(a1_old == a2_old)) then (
       some true
      ) else (
       bif (!(a1_text == a2_text)) then (
        some true
       ) else (
        some ((a1_row.length : Int) != (a2_row.length : Int))
       )
      )
     )
    )
   )
  )
  : Option (Bool)).bind fun x3 =>
 bif x3 then (
  some false
 ) else (
  (zCx a1_row a2_row n 0).bind fun fl => match fl with
  | .ret r => some r
  | .go _ =>
   (zBZ n a1_nodes a2_nodes).bind fun y12 =>
   some y12
 )
def zBL (n : Nat) (a1 : List (Int × List Int × Int × Int × List Nd × Int × List UInt8 × List UInt8)) (b2 : List (Int × List Int × Int × Int × List Nd × Int × List UInt8 × List UInt8)) : Nat → Int → Option (Fl Bool Unit)
| 0,_ => none
| k+1,i5 =>
 bif decide (i5 < (a1.length : Int)) then (
  (at? a1 i5).bind fun ⟨e7_kind,e7_row,e7_at,e7_n,e7_nodes,e7_slot,e7_old,e7_text⟩ =>
  (at? b2 i5).bind fun ⟨e9_kind,e9_row,e9_at,e9_n,e9_nodes,e9_slot,e9_old,e9_text⟩ =>
  (zEG n (e7_kind,e7_row,e7_at,e7_n,e7_nodes,e7_slot,e7_old,e7_text) (e9_kind,e9_row,e9_at,e9_n,e9_nodes,e9_slot,e9_old,e9_text)).bind fun y11 =>
  bif (!y11) then (
   some (.ret false)
  ) else (
   zBL n a1 b2 k (IntKind.i64.wrap (i5 + 1))
  )
 ) else (
  some (.go ())
 )
def zDL (n : Nat) : (List (Int × List Int × Int × Int × List Nd × Int × List UInt8 × List UInt8)) → (List (Int × List Int × Int × Int × List Nd × Int × List UInt8 × List UInt8)) → Option Bool
| a1,b2 =>
 bif ((a1.length : Int) != (b2.length : Int)) then (
  some false
 ) else (
  (zBL n a1 b2 n 0).bind fun fl => match fl with
  | .ret r => some r
  | .go _ =>
   some true
 )
end Go.Proofs.YtjdhkpdjecegnaaGreatDoor
namespace Go.Proofs.YtjdhkpdjecegnaaGreatDoor
open Go.Abs
def zAT (slices1 : List (List Int)) : Nat → Int → Int → Option (Int)
| 0,_,_ => none
| k+1,x3,size4 =>
 bif decide (x3 < (slices1.length : Int)) then (
  (at? slices1 x3).bind fun e6 =>
  bif decide ((IntKind.i64.wrap (size4 + (e6.length : Int))) < 0) then (
   none
  ) else (
   zAT slices1 k (IntKind.i64.wrap (x3 + 1)) (IntKind.i64.wrap (size4 + (e6.length : Int)))
  )
 ) else (
  some size4
 )
def zAU (slices1 : List (List Int)) : Nat → Int → (List Int) → Option ((List Int))
| 0,_,_ => none
| k+1,x11,l13 =>
 bif decide (x11 < (slices1.length : Int)) then (
  (at? slices1 x11).bind fun e15 =>
  req (l13.length + e15.length ≤ 4294967296) <|
  zAU slices1 k (IntKind.i64.wrap (x11 + 1)) (l13 ++ e15)
 ) else (
  some l13
 )
def zBh (n : Nat) : (List (List Int)) → Option (List Int)
| slices1 =>
 (zAT slices1 n 0 0).bind fun size5 =>
 (zCN size5).bind fun y9 =>
 (zAU slices1 n 0 y9).bind fun l14 =>
 some l14
end Go.Proofs.YtjdhkpdjecegnaaGreatDoor
namespace Go.Proofs.YtjdhkpdjecegnaaGreatDoor
open Go.Abs
def zIb : List Int → Option (List Int)
| path => req (path.length ≤ 4294967296) <| some path
end Go.Proofs.YtjdhkpdjecegnaaGreatDoor
namespace Go.Proofs.YtjdhkpdjecegnaaGreatDoor
open Go.Abs
def zCo (n : Nat) : (Int × List Int × Int × Int × List Nd × Int × List UInt8 × List UInt8) → (List (Int × List Int × Int × Int × List Nd × Int × List UInt8 × List UInt8)) → Option (List (Int × List Int × Int × Int × List Nd × Int × List UInt8 × List UInt8))
| ⟨op1_kind,op1_row,op1_at,op1_n,op1_nodes,op1_slot,op1_old,op1_text⟩,o2 =>
 (zGu n (op1_kind,op1_row,op1_at,op1_n,op1_nodes,op1_slot,op1_old,op1_text)).bind fun ⟨y3_kind,y3_row,y3_at,y3_n,y3_nodes,y3_slot,y3_old,y3_text⟩ =>
 req (o2.length + [(y3_kind,y3_row,y3_at,y3_n,y3_nodes,y3_slot,y3_old,y3_text)].length ≤ 4294967296) <|
 some (o2 ++ [(y3_kind,y3_row,y3_at,y3_n,y3_nodes,y3_slot,y3_old,y3_text)])
def zBf (F_diff_insertions : (List Nd) → (List Nd) → (List Int) → (List (Int × List Int × Int × Int × List Nd × Int × List UInt8 × List UInt8)) → Option (List (Int × List Int × Int × Int × List Nd × Int × List UInt8 × List UInt8))) (n : Nat) (a3 : List Int) (x8 : Int) (e14_kids : List Nd) (e24_kids : List Nd) : Nat → Int → (List (Int × List Int × Int × Int × List Nd × Int × List UInt8 × List UInt8)) → Option ((List (Int × List Int × Int × Int × List Nd × Int × List UInt8 × List UInt8)))
| 0,_,_ => none
| k+1,x31,l32 =>
 bif decide (x31 < (e14_kids.length : Int)) then (
  (at? e24_kids x31).bind fun ⟨e34_kind,e34_text,e34_cols,e34_kids⟩ =>
  (at? e14_kids x31).bind fun ⟨e36_kind,e36_text,e36_cols,e36_kids⟩ =>
  (zBh n [a3,[x8,x31]]).bind fun y40 =>
  (F_diff_insertions e34_kids e36_kids y40 l32).bind fun w41 =>
  zBf F_diff_insertions n a3 x8 e14_kids e24_kids k (IntKind.i64.wrap (x31 + 1)) w41
 ) else (
  some l32
 )
def zBe (F_diff_insertions : (List Nd) → (List Nd) → (List Int) → (List (Int × List Int × Int × Int × List Nd × Int × List UInt8 × List UInt8)) → Option (List (Int × List Int × Int × Int × List Nd × Int × List UInt8 × List UInt8))) (n : Nat) (a1 : List Nd) (a2 : List Nd) (a3 : List Int) : Nat → Int → (List (Int × Int)) → (List (Int × List Int × Int × Int × List Nd × Int × List UInt8 × List UInt8)) → Option ((List (Int × List Int × Int × Int × List Nd × Int × List UInt8 × List UInt8)))
| 0,_,_,_ => none
| k+1,x8,x9,l10 =>
 bif decide (x8 < (a2.length : Int)) then (
  (
   (at? a2 x8).bind fun ⟨e14_kind,e14_text,e14_cols,e14_kids⟩ =>
   (
    bif ((x9.length : Int) == 0) then (
     some true
    ) else (
     (at? x9 0).bind fun ⟨e18_0,e18_1⟩ =>
     some (e18_1 != x8)
    )
    : Option (Bool)).bind fun x16 =>
   bif x16 then (
    (zCo n (1,a3,x8,0,[Nd.mk e14_kind e14_text e14_cols e14_kids],0,[],[]) l10).bind fun w21 =>
    some (x9,w21)
   ) else (
    (at? x9 0).bind fun ⟨e22_0,e22_1⟩ =>
    (at? a1 e22_0).bind fun ⟨e24_kind,e24_text,e24_cols,e24_kids⟩ =>
    req (0 ≤ (1 : Int) ∧ (1 : Int) ≤ (x9.length : Int) ∧ (x9.length : Int) ≤ (x9.length : Int)) <|
    (
     bif (!(e24_text == e14_text)) then (
      (zCo n (5,a3,x8,0,[],0,e24_text,e14_text) l10).bind fun w28 =>
      some w28
     ) else (
      some l10
     )
     : Option ((List (Int × List Int × Int × Int × List Nd × Int × List UInt8 × List UInt8)))).bind fun l27 =>
    (zBf F_diff_insertions n a3 x8 e14_kids e24_kids n 0 l27).bind fun l33 =>
    some ((x9.take (x9.length : Int).toNat).drop (1 : Int).toNat,l33)
   )
   : Option ((List (Int × Int)) × (List (Int × List Int × Int × Int × List Nd × Int × List UInt8 × List UInt8)))).bind fun ⟨x12,l13⟩ =>
  zBe F_diff_insertions n a1 a2 a3 k (IntKind.i64.wrap (x8 + 1)) x12 l13
 ) else (
  some l10
 )
def zA0 : Nat → (List Nd) → (List Nd) → (List Int) → (List (Int × List Int × Int × Int × List Nd × Int × List UInt8 × List UInt8)) → Option (List (Int × List Int × Int × Int × List Nd × Int × List UInt8 × List UInt8))
| 0,_,_,_,_ => none
| n+1,a1,a2,a3,o4 =>
 (zDt n a1 a2).bind fun y5 =>
 (zBe (zA0 n) n a1 a2 a3 n 0 y5 o4).bind fun l11 =>
 some l11
def zBs (F : List Nd → List Nd → List Int → List (Int × List Int × Int × Int × List Nd × Int × List UInt8 × List UInt8) → Option (List (Int × List Int × Int × Int × List Nd × Int × List UInt8 × List UInt8))) (n : Nat) (xk yk : List Nd) (path : List Int) (j : Int) (o : List (Int × List Int × Int × Int × List Nd × Int × List UInt8 × List UInt8)) : Nat → Option (List (Int × List Int × Int × Int × List Nd × Int × List UInt8 × List UInt8))
| 0 => some o
| i+1 => (zBs F n xk yk path j o i).bind fun acc =>
 (at? xk ((xk.length - 1 - i : Nat) : Int)).bind fun ⟨u_kind,u_text,u_cols,u_kids⟩ =>
 (at? yk ((xk.length - 1 - i : Nat) : Int)).bind fun ⟨v_kind,v_text,v_cols,v_kids⟩ =>
 (zBh n [path,[j,((xk.length - 1 - i : Nat) : Int)]]).bind fun y =>
 F u_kids v_kids y acc
def zBI (F : List Nd → List Nd → List Int → List (Int × List Int × Int × Int × List Nd × Int × List UInt8 × List UInt8) → Option (List (Int × List Int × Int × Int × List Nd × Int × List UInt8 × List UInt8))) (n : Nat) (b : List Nd) (path : List Int) (j : Int) : Nd → List (Int × Int) → List (Int × List Int × Int × Int × List Nd × Int × List UInt8 × List UInt8) → Option (List (Int × Int) × List (Int × List Int × Int × Int × List Nd × Int × List UInt8 × List UInt8))
| ⟨x_kind,x_text,x_cols,x_kids⟩,p,o =>
 (
  bif ((p.length : Int) == 0) then (
   some true
  ) else (
   (at? p (IntKind.i64.wrap ((p.length : Int) - 1))).bind fun ⟨e_0,e_1⟩ =>
   some (e_0 != j)
  )
  : Option (Bool)).bind fun c =>
 bif c then (
  (zCo n (2,path,j,0,[Nd.mk x_kind x_text x_cols x_kids],0,[],[]) o).bind fun w =>
  some (p,w)
 ) else (
  (at? p (IntKind.i64.wrap ((p.length : Int) - 1))).bind fun ⟨e_0,e_1⟩ =>
  (at? b e_1).bind fun ⟨y_kind,y_text,y_cols,y_kids⟩ =>
  req (0 ≤ IntKind.i64.wrap ((p.length : Int) - 1) ∧ IntKind.i64.wrap ((p.length : Int) - 1) ≤ (p.length : Int) ∧ x_kids.length ≤ 4294967296) <|
  (zBs F n x_kids y_kids path j o x_kids.length).bind fun w =>
  some (p.take (IntKind.i64.wrap ((p.length : Int) - 1)).toNat,w)
 )
def zBr (F : List Nd → List Nd → List Int → List (Int × List Int × Int × Int × List Nd × Int × List UInt8 × List UInt8) → Option (List (Int × List Int × Int × Int × List Nd × Int × List UInt8 × List UInt8))) (n : Nat) (a b : List Nd) (path : List Int) (p : List (Int × Int)) (o : List (Int × List Int × Int × Int × List Nd × Int × List UInt8 × List UInt8)) : Nat → Option (List (Int × Int) × List (Int × List Int × Int × Int × List Nd × Int × List UInt8 × List UInt8))
| 0 => some (p,o)
| i+1 => (zBr F n a b path p o i).bind fun acc => (a[a.length - 1 - i]?).bind fun x => zBI F n b path ((a.length - 1 - i : Nat) : Int) x acc.1 acc.2
def zBK : Nat → (List Nd) → (List Nd) → (List Int) → (List (Int × List Int × Int × Int × List Nd × Int × List UInt8 × List UInt8)) → Option (List (Int × List Int × Int × Int × List Nd × Int × List UInt8 × List UInt8))
| 0,_,_,_,_ => none
| n+1,a1,b2,path3,o4 =>
 (zDt n a1 b2).bind fun y5 =>
 req (a1.length ≤ 4294967296) <|
 (zBr (zBK n) n a1 b2 path3 y5 o4 a1.length).bind fun l6 =>
 some l6.2
def zDY (n : Nat) : Nd → Nd → Option ((List (Int × List Int × Int × Int × List Nd × Int × List UInt8 × List UInt8)) × Int)
| ⟨a1_kind,a1_text,a1_cols,a1_kids⟩,⟨b2_kind,b2_text,b2_cols,b2_kids⟩ =>
 (zDv n (Nd.mk a1_kind a1_text a1_cols a1_kids) (Nd.mk b2_kind b2_text b2_cols b2_kids)).bind fun y3 =>
 bif (!y3) then (
  some ([],1)
 ) else (
  (zBK n a1_kids b2_kids [] []).bind fun w4 =>
  (zA0 n a1_kids b2_kids [] w4).bind fun w5 =>
  some (w5,0)
 )
def zB0 (l1 : List (Int × Int)) (i2 : Int) : Nat → Int → Option (Fl Int Unit)
| 0,_ => none
| k+1,k3 =>
 bif decide (k3 < (l1.length : Int)) then (
  (at? l1 k3).bind fun ⟨e5_0,e5_1⟩ =>
  bif (e5_0 == i2) then (
   some (.ret k3)
  ) else (
   zB0 l1 i2 k (IntKind.i64.wrap (k3 + 1))
  )
 ) else (
  some (.go ())
 )
def zEl (n : Nat) : (List (Int × Int)) → Int → Option Int
| l1,i2 =>
 (zB0 l1 i2 n 0).bind fun fl => match fl with
 | .ret r => some r
 | .go _ =>
  some (-1)
def zEH : (List Int) → Int → Int → Option (List Int)
| path1,i2,slot3 =>
 req (([] : List Int).length + path1.length ≤ 4294967296) <|
 req (path1.length + [i2,slot3].length ≤ 4294967296) <|
 some (path1 ++ [i2,slot3])
def zBm (F_r16_deletions : (List Int) → (List Nd) → (List Nd) → Option (List (Int × List Int × Int × Int × List Nd × Int × List UInt8 × List UInt8))) (a1 : List Int) (a2 : List Nd) (x7 : Int) (e19_kids : List Nd) : Nat → Int → (List (Int × List Int × Int × Int × List Nd × Int × List UInt8 × List UInt8)) → Option ((List (Int × List Int × Int × Int × List Nd × Int × List UInt8 × List UInt8)))
| 0,_,_ => none
| k+1,x24,l26 =>
 bif decide (0 ≤ x24) then (
  (zEH a1 x7 x24).bind fun y28 =>
  (at? a2 x7).bind fun ⟨e29_kind,e29_text,e29_cols,e29_kids⟩ =>
  (at? e29_kids x24).bind fun ⟨e31_kind,e31_text,e31_cols,e31_kids⟩ =>
  (at? e19_kids x24).bind fun ⟨e33_kind,e33_text,e33_cols,e33_kids⟩ =>
  (F_r16_deletions y28 e31_kids e33_kids).bind fun y35 =>
  req (l26.length + y35.length ≤ 4294967296) <|
  zBm F_r16_deletions a1 a2 x7 e19_kids k (IntKind.i64.wrap (x24 - 1)) (l26 ++ y35)
 ) else (
  some l26
 )
def zBl (F_r16_deletions : (List Int) → (List Nd) → (List Nd) → Option (List (Int × List Int × Int × Int × List Nd × Int × List UInt8 × List UInt8))) (n : Nat) (a1 : List Int) (a2 : List Nd) (a3 : List Nd) (y4 : List (Int × Int)) : Nat → Int → (List (Int × List Int × Int × Int × List Nd × Int × List UInt8 × List UInt8)) → Option ((List (Int × List Int × Int × Int × List Nd × Int × List UInt8 × List UInt8)))
| 0,_,_ => none
| k+1,x7,l8 =>
 bif decide (0 ≤ x7) then (
  (
   (zEl n y4 x7).bind fun y11 =>
   bif decide (y11 < 0) then (
    (zIb a1).bind fun y12 =>
    (at? a2 x7).bind fun ⟨e13_kind,e13_text,e13_cols,e13_kids⟩ =>
    req (l8.length + ([(2,y12,x7,0,[Nd.mk e13_kind e13_text e13_cols e13_kids],0,[],[])] : List (Int × List Int × Int × Int × List Nd × Int × List UInt8 × List UInt8)).length ≤ 4294967296) <|
    some (l8 ++ [(2,y12,x7,0,[Nd.mk e13_kind e13_text e13_cols e13_kids],0,[],[])])
   ) else (
    (at? y4 y11).bind fun ⟨e17_0,e17_1⟩ =>
    (at? a3 e17_1).bind fun ⟨e19_kind,e19_text,e19_cols,e19_kids⟩ =>
    (at? a2 x7).bind fun ⟨e21_kind,e21_text,e21_cols,e21_kids⟩ =>
    (zBm F_r16_deletions a1 a2 x7 e19_kids n (IntKind.i64.wrap ((e21_kids.length : Int) - 1)) l8).bind fun l27 =>
    some l27
   )
   : Option ((List (Int × List Int × Int × Int × List Nd × Int × List UInt8 × List UInt8)))).bind fun l10 =>
  zBl F_r16_deletions n a1 a2 a3 y4 k (IntKind.i64.wrap (x7 - 1)) l10
 ) else (
  some l8
 )
def zBb : Nat → (List Int) → (List Nd) → (List Nd) → Option (List (Int × List Int × Int × Int × List Nd × Int × List UInt8 × List UInt8))
| 0,_,_,_ => none
| n+1,a1,a2,a3 =>
 (zD1 n a2 a3).bind fun y4 =>
 (zBl (zBb n) n a1 a2 a3 y4 n (IntKind.i64.wrap ((a2.length : Int) - 1)) []).bind fun l9 =>
 some l9
def zBc (l1 : List (Int × Int)) (i2 : Int) : Nat → Int → Option (Fl Int Unit)
| 0,_ => none
| k+1,k3 =>
 bif decide (k3 < (l1.length : Int)) then (
  (at? l1 k3).bind fun ⟨e5_0,e5_1⟩ =>
  bif (e5_1 == i2) then (
   some (.ret k3)
  ) else (
   zBc l1 i2 k (IntKind.i64.wrap (k3 + 1))
  )
 ) else (
  some (.go ())
 )
def zB7 (n : Nat) : (List (Int × Int)) → Int → Option Int
| l1,i2 =>
 (zBc l1 i2 n 0).bind fun fl => match fl with
 | .ret r => some r
 | .go _ =>
  some (-1)
def zBN (F_r16_changes : (List Int) → (List Nd) → (List Nd) → Option (List (Int × List Int × Int × Int × List Nd × Int × List UInt8 × List UInt8))) (a1 : List Int) (a3 : List Nd) (x6 : Int) (e19_kids : List Nd) : Nat → Int → (List (Int × List Int × Int × Int × List Nd × Int × List UInt8 × List UInt8)) → Option ((List (Int × List Int × Int × Int × List Nd × Int × List UInt8 × List UInt8)))
| 0,_,_ => none
| k+1,x28,l30 =>
 (at? a3 x6).bind fun ⟨e32_kind,e32_text,e32_cols,e32_kids⟩ =>
 bif decide (x28 < (e32_kids.length : Int)) then (
  (zEH a1 x6 x28).bind fun y35 =>
  (at? e19_kids x28).bind fun ⟨e36_kind,e36_text,e36_cols,e36_kids⟩ =>
  (at? a3 x6).bind fun ⟨e38_kind,e38_text,e38_cols,e38_kids⟩ =>
  (at? e38_kids x28).bind fun ⟨e40_kind,e40_text,e40_cols,e40_kids⟩ =>
  (F_r16_changes y35 e36_kids e40_kids).bind fun y42 =>
  req (l30.length + y42.length ≤ 4294967296) <|
  zBN F_r16_changes a1 a3 x6 e19_kids k (IntKind.i64.wrap (x28 + 1)) (l30 ++ y42)
 ) else (
  some l30
 )
def zBM (F_r16_changes : (List Int) → (List Nd) → (List Nd) → Option (List (Int × List Int × Int × Int × List Nd × Int × List UInt8 × List UInt8))) (n : Nat) (a1 : List Int) (a2 : List Nd) (a3 : List Nd) (y4 : List (Int × Int)) : Nat → Int → (List (Int × List Int × Int × Int × List Nd × Int × List UInt8 × List UInt8)) → Option ((List (Int × List Int × Int × Int × List Nd × Int × List UInt8 × List UInt8)))
| 0,_,_ => none
| k+1,x6,l7 =>
 bif decide (x6 < (a3.length : Int)) then (
  (
   (zB7 n y4 x6).bind fun y11 =>
   bif decide (y11 < 0) then (
    (zIb a1).bind fun y12 =>
    (at? a3 x6).bind fun ⟨e13_kind,e13_text,e13_cols,e13_kids⟩ =>
    req (l7.length + ([(1,y12,x6,0,[Nd.mk e13_kind e13_text e13_cols e13_kids],0,[],[])] : List (Int × List Int × Int × Int × List Nd × Int × List UInt8 × List UInt8)).length ≤ 4294967296) <|
    some (l7 ++ [(1,y12,x6,0,[Nd.mk e13_kind e13_text e13_cols e13_kids],0,[],[])])
   ) else (
    (at? y4 y11).bind fun ⟨e17_0,e17_1⟩ =>
    (at? a2 e17_0).bind fun ⟨e19_kind,e19_text,e19_cols,e19_kids⟩ =>
    (at? a3 x6).bind fun ⟨e21_kind,e21_text,e21_cols,e21_kids⟩ =>
    (
     bif (!(e19_text == e21_text)) then (
      (zIb a1).bind fun y24 =>
      (at? a3 x6).bind fun ⟨e25_kind,e25_text,e25_cols,e25_kids⟩ =>
      req (l7.length + ([(5,y24,x6,0,[],0,e19_text,e25_text)] : List (Int × List Int × Int × Int × List Nd × Int × List UInt8 × List UInt8)).length ≤ 4294967296) <|
      some (l7 ++ [(5,y24,x6,0,[],0,e19_text,e25_text)])
     ) else (
      some l7
     )
     : Option ((List (Int × List Int × Int × Int × List Nd × Int × List UInt8 × List UInt8)))).bind fun l23 =>
    (zBN F_r16_changes a1 a3 x6 e19_kids n 0 l23).bind fun l31 =>
    some l31
   )
   : Option ((List (Int × List Int × Int × Int × List Nd × Int × List UInt8 × List UInt8)))).bind fun l10 =>
  zBM F_r16_changes n a1 a2 a3 y4 k (IntKind.i64.wrap (x6 + 1)) l10
 ) else (
  some l7
 )
def zBv : Nat → (List Int) → (List Nd) → (List Nd) → Option (List (Int × List Int × Int × Int × List Nd × Int × List UInt8 × List UInt8))
| 0,_,_,_ => none
| n+1,a1,a2,a3 =>
 (zD1 n a2 a3).bind fun y4 =>
 (zBM (zBv n) n a1 a2 a3 y4 n 0 []).bind fun l8 =>
 some l8
def zGw (n : Nat) : Nd → Nd → Option (List (Int × List Int × Int × Int × List Nd × Int × List UInt8 × List UInt8))
| ⟨a1_kind,a1_text,a1_cols,a1_kids⟩,⟨b2_kind,b2_text,b2_cols,b2_kids⟩ =>
 (zBb n [] a1_kids b2_kids).bind fun y3 =>
 (zBv n [] a1_kids b2_kids).bind fun y4 =>
 req (y3.length + y4.length ≤ 4294967296) <|
 some (y3 ++ y4)
def zDH (n : Nat) : Nd → Nd → Option Bool
| ⟨a1_kind,a1_text,a1_cols,a1_kids⟩,⟨b2_kind,b2_text,b2_cols,b2_kids⟩ =>
 (zFU n ).bind fun y3 =>
 bif (!y3) then (
  some false
 ) else (
  (zGv n (Nd.mk a1_kind a1_text a1_cols a1_kids) (Nd.mk b2_kind b2_text b2_cols b2_kids)).bind fun y4 =>
  bif (!y4) then (
   some true
  ) else (
   (zDY n (Nd.mk a1_kind a1_text a1_cols a1_kids) (Nd.mk b2_kind b2_text b2_cols b2_kids)).bind fun ⟨y5,y6⟩ =>
   (
    (zD0 n (Nd.mk a1_kind a1_text a1_cols a1_kids)).bind fun y8 =>
    bif (!y8) then (
     some true
    ) else (
     (zD0 n (Nd.mk b2_kind b2_text b2_cols b2_kids)).bind fun y9 =>
     some (!y9)
    )
    : Option (Bool)).bind fun x7 =>
   bif x7 then (
    (
     bif ((y5.length : Int) == 0) then (
      some (y6 == 1)
     ) else (
      some false
     )
     : Option (Bool)).bind fun x10 =>
    some x10
   ) else (
    (
     bif (y6 == 0) then (
      (zGw n (Nd.mk a1_kind a1_text a1_cols a1_kids) (Nd.mk b2_kind b2_text b2_cols b2_kids)).bind fun y13 =>
      (zDL n y5 y13).bind fun y14 =>
      some y14
     ) else (
      some false
     )
     : Option (Bool)).bind fun x12 =>
    some x12
   )
  )
 )
end Go.Proofs.YtjdhkpdjecegnaaGreatDoor
