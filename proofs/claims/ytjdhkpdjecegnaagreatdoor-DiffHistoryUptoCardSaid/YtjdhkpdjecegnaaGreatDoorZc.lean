/-
  Joined out of: MNod, MCnt, AbsS, AbsT, AbsU, AbsV, AbsW, AbsX, MOwn, DzA, LibS, LibI, LibB, LibD, LibF, AbsY, LibO, MEd, MEh, MEe, MEi, MMg, MDf.
-/
import Derived.Test.YtjdhkpdjecegnaaGreatDoorProg
import Derived.KernelRfl
import Derived.Lib.Strings
import Derived.Lib.Slices
import Derived.Lib.Walk
import Derived.Lib.Bytealg
import Derived.Shelf.LaysM
import Derived.Shelf.Strconv.Itoa3
import Derived.Lib.Builder
import Derived.Lib.AppendStr
import Derived.Lib.UnsafeStr
import Derived.Laws.Externs
import Derived.Shelf.RegionOpenPlain
import Derived.Test.YtjdhkpdjecegnaaGreatDoorZb
set_option linter.unusedVariables false
set_option linter.unusedSimpArgs false
set_option maxHeartbeats 2000000
set_option maxRecDepth 100000
namespace Go.Proofs.YtjdhkpdjecegnaaGreatDoor
open Go.Abs
def zB3 : (List UInt8) → Option Bool
| s1 =>
 some (s1 == [])
def zBw (s1 : List UInt8) : Nat → Int → Option (Fl Bool Unit)
| 0,_=>none
| k+1,i2 =>
 bif decide (i2 < (s1.length : Int)) then (
  (at? s1 i2).bind fun c3 =>
  (
   bif decide ((zLK .or .u8 (c3.toNat : Int) 32) < 97) then (
    some true
   ) else (
    some (decide (122 < (zLK .or .u8 (c3.toNat : Int) 32)))
   )
   : Option (Bool)).bind fun x5 =>
  bif x5 then (
   some (.ret false)
  ) else (
   zBw s1 k (IntKind.i64.wrap (i2 + 1))
  )
 ) else (
  some (.go ())
 )
def zDb (n : Nat) : (List UInt8) → Option Bool
| s1 =>
 (zBw s1 n 0).bind fun fl=>match fl with
 | .ret r=>some r
 | .go _ =>
  some true
def zDS : (List UInt8) → Option Bool
| s1 =>
 (
  (
   bif (s1 == [102,114,97,99]) then (
    some (s1 == [102,114,97,99])
   ) else (
    bif (s1 == [114,111,111,116]) then (
     some (s1 == [114,111,111,116])
    ) else (
     bif (s1 == [109,97,116,114,105,120]) then (
      some (s1 == [109,97,116,114,105,120])
     ) else (
      some (s1 == [102,101,110,99,101])
     )
    )
   )
   : Option (Bool)).bind fun x2 =>
  bif x2 then (
   some (.ret true)
  ) else (
   some (.go ())
  )
  : Option (Fl Bool Unit)).bind fun fl=>match fl with
 | .ret r=>some r
 | .go _ =>
  some false
def zDA : (List UInt8) → Option Bool
| s1 =>
 (
  (
   bif (s1 == [104,97,116]) then (
    some (s1 == [104,97,116])
   ) else (
    bif (s1 == [98,97,114]) then (
     some (s1 == [98,97,114])
    ) else (
     bif (s1 == [118,101,99]) then (
      some (s1 == [118,101,99])
     ) else (
      bif (s1 == [100,111,116]) then (
       some (s1 == [100,111,116])
      ) else (
       bif (s1 == [116,105,108,100,101]) then (
        some (s1 == [116,105,108,100,101])
       ) else (
        some (s1 == [99,104,101,99,107])
       )
      )
     )
    )
   )
   : Option (Bool)).bind fun x2 =>
  bif x2 then (
   some (.ret true)
  ) else (
   some (.go ())
  )
  : Option (Fl Bool Unit)).bind fun fl=>match fl with
 | .ret r=>some r
 | .go _ =>
  some false
def zEm (n : Nat) : (List UInt8) → Option Bool
| s1 =>
 bif ((s1.length : Int) == 1) then (
  (
   (zDb n s1).bind fun y3 =>
   bif y3 then (
    some true
   ) else (
    (zEo [43,45,42,47,61,60,62,44,59,58,33,124,39,63,126,64] s1).bind fun y4 =>
    some y4
   )
   : Option (Bool)).bind fun x2 =>
  some x2
 ) else (
  (
   bif decide (2 ≤ (s1.length : Int)) then (
    bif decide ((s1.length : Int) ≤ 16) then (
     (zDb n s1).bind fun y6 =>
     bif y6 then (
      (zDS s1).bind fun y7 =>
      bif (!y7) then (
       (zDA s1).bind fun y8 =>
       some (!y8)
      ) else (
       some false
      )
     ) else (
      some false
     )
    ) else (
     some false
    )
   ) else (
    some false
   )
   : Option (Bool)).bind fun x5 =>
  some x5
 )
def zCJ : (List UInt8) → (List UInt8) → Option ((List UInt8) × (List UInt8) × Bool)
| s1,sep2 =>
 (zDY s1 sep2).bind fun y3 =>
 bif decide (0 ≤ y3) then (
  req (0 ≤ (0 : Int) ∧ (0 : Int) ≤ y3 ∧ y3 ≤ (s1.length : Int)) <|
  req (0 ≤ (IntKind.i64.wrap (y3 + (sep2.length : Int))) ∧ (IntKind.i64.wrap (y3 + (sep2.length : Int))) ≤ (s1.length : Int) ∧ (s1.length : Int) ≤ (s1.length : Int)) <|
  some ((s1.take y3.toNat).drop (0 : Int).toNat,(s1.take (s1.length : Int).toNat).drop (IntKind.i64.wrap (y3 + (sep2.length : Int))).toNat,true)
 ) else (
  some (s1,[],false)
 )
def zEp : (List UInt8) → (List UInt8) → Option ((List UInt8) × (List UInt8) × Bool)
| s1,sep2 =>
 (zCJ s1 sep2).bind fun ⟨y3,y4,y5⟩ =>
 some (y3,y4,y5)
def zBG (s1 : List UInt8) : Nat → Int → Option (Fl Bool Unit)
| 0,_=>none
| k+1,i2 =>
 bif decide (i2 < (s1.length : Int)) then (
  (
   (at? s1 i2).bind fun c4 =>
   bif decide ((c4.toNat : Int) < 48) then (
    some true
   ) else (
    (at? s1 i2).bind fun c6 =>
    some (decide (57 < (c6.toNat : Int)))
   )
   : Option (Bool)).bind fun x3 =>
  bif x3 then (
   some (.ret false)
  ) else (
   zBG s1 k (IntKind.i64.wrap (i2 + 1))
  )
 ) else (
  some (.go ())
 )
def zDB (n : Nat) : (List UInt8) → Option Bool
| s1 =>
 (zBG s1 n 0).bind fun fl=>match fl with
 | .ret r=>some r
 | .go _ =>
  some (!(s1 == []))
def zDz (n : Nat) : (List UInt8) → Option Bool
| s1 =>
 (zEp s1 [46]).bind fun ⟨y2,y3,y4⟩ =>
 (
  bif decide ((s1.length : Int) ≤ 20) then (
   (zDB n y2).bind fun y6 =>
   bif y6 then (
    bif (!y4) then (
     some true
    ) else (
     (zDB n y3).bind fun y7 =>
     some y7
    )
   ) else (
    some false
   )
  ) else (
   some false
  )
  : Option (Bool)).bind fun x5 =>
 some x5
def zBN (s1 : List UInt8) : Nat → Int → Option (Fl Bool Unit)
| 0,_=>none
| k+1,i2 =>
 bif decide (i2 < (s1.length : Int)) then (
  (
   (at? s1 i2).bind fun c4 =>
   bif decide ((c4.toNat : Int) < 32) then (
    some true
   ) else (
    (at? s1 i2).bind fun c6 =>
    some (decide (126 < (c6.toNat : Int)))
   )
   : Option (Bool)).bind fun x3 =>
  bif x3 then (
   some (.ret false)
  ) else (
   zBN s1 k (IntKind.i64.wrap (i2 + 1))
  )
 ) else (
  some (.go ())
 )
def zEZ (n : Nat) : (List UInt8) → Option Bool
| s1 =>
 (zBN s1 n 0).bind fun fl=>match fl with
 | .ret r=>some r
 | .go _ =>
  some (decide ((s1.length : Int) ≤ 200))
def zEY : (List UInt8) → Option Bool
| s1 =>
 (
  bif ((s1.length : Int) == 2) then (
   (at? s1 0).bind fun c3 =>
   (zCZ [40,41,91,93,123,125,60,62,47,124,46] (c3.toNat : Int)).bind fun y5 =>
   bif decide (0 ≤ y5) then (
    (at? s1 1).bind fun c6 =>
    (zCZ [40,41,91,93,123,125,60,62,47,124,46] (c6.toNat : Int)).bind fun y8 =>
    some (decide (0 ≤ y8))
   ) else (
    some false
   )
  ) else (
   some false
  )
  : Option (Bool)).bind fun x2 =>
 some x2
def zEa : Option Unit
:=
 some ()
def zCo (n : Nat) : (Unit × Int) → Nd → Option (Bool × (Unit × Int))
| ⟨_,o1E⟩,⟨a2A,a2C,a2D,a2B⟩ =>
 (
  bif decide (a2A < 1) then (
   some true
  ) else (
   bif decide (12 < a2A) then (
    some true
   ) else (
    bif (a2A == 1) then (
     (zB3 a2C).bind fun y4 =>
     some (!y4)
    ) else (
     bif (a2A == 2) then (
      (zEm n a2C).bind fun y5 =>
      some (!y5)
     ) else (
      bif (a2A == 3) then (
       (zDz n a2C).bind fun y6 =>
       some (!y6)
      ) else (
       bif (a2A == 4) then (
        (zEZ n a2C).bind fun y7 =>
        some (!y7)
       ) else (
        bif (a2A == 5) then (
         (zB3 a2C).bind fun y8 =>
         some (!y8)
        ) else (
         bif (a2A == 6) then (
          (zB3 a2C).bind fun y9 =>
          some (!y9)
         ) else (
          bif (a2A == 7) then (
           (zB3 a2C).bind fun y10 =>
           some (!y10)
          ) else (
           bif (a2A == 8) then (
            (zB3 a2C).bind fun y11 =>
            some (!y11)
           ) else (
            bif (a2A == 9) then (
             (zB3 a2C).bind fun y12 =>
             some (!y12)
            ) else (
             bif (a2A == 10) then (
              (zDA a2C).bind fun y13 =>
              some (!y13)
             ) else (
              bif (a2A == 11) then (
               (zEY a2C).bind fun y14 =>
               some (!y14)
              ) else (
               bif (a2A == 12) then (
                (zB3 a2C).bind fun y15 =>
                some (!y15)
               ) else (
                none
               )
              )
             )
            )
           )
          )
         )
        )
       )
      )
     )
    )
   )
  )
  : Option (Bool)).bind fun x3 =>
 bif x3 then (
  some (false,((),o1E))
 ) else (
  bif (a2A == 1) then (
   (
    bif (a2D == 0) then (
     some (decide ((a2B.length : Int) ≤ 200))
    ) else (
     some false
    )
    : Option (Bool)).bind fun x16 =>
   some (x16,((),o1E))
  ) else (
   bif (a2A == 12) then (
    (
     bif decide (1 ≤ a2D) then (
      bif decide (a2D ≤ 16) then (
       bif decide (1 ≤ (a2B.length : Int)) then (
        bif decide ((a2B.length : Int) ≤ 256) then (
         req (a2D ≠ 0) <|
         some (((a2B.length : Int).tmod a2D) == 0)
        ) else (
         some false
        )
       ) else (
        some false
       )
      ) else (
       some false
      )
     ) else (
      some false
     )
     : Option (Bool)).bind fun x18 =>
    some (x18,((),o1E))
   ) else (
    (
     bif (a2D == 0) then (
      bif (a2A == 1) then (
       some ((a2B.length : Int) == 0)
      ) else (
       bif (a2A == 2) then (
        some ((a2B.length : Int) == 0)
       ) else (
        bif (a2A == 3) then (
         some ((a2B.length : Int) == 0)
        ) else (
         bif (a2A == 4) then (
          some ((a2B.length : Int) == 0)
         ) else (
          bif (a2A == 5) then (
           some ((a2B.length : Int) == 2)
          ) else (
           bif (a2A == 6) then (
            some ((a2B.length : Int) == 2)
           ) else (
            bif (a2A == 7) then (
             some ((a2B.length : Int) == 2)
            ) else (
             bif (a2A == 8) then (
              some ((a2B.length : Int) == 2)
             ) else (
              bif (a2A == 9) then (
               some ((a2B.length : Int) == 3)
              ) else (
               bif (a2A == 10) then (
                some ((a2B.length : Int) == 1)
               ) else (
                bif (a2A == 11) then (
                 some ((a2B.length : Int) == 1)
                ) else (
                 bif (a2A == 12) then (
                  some ((a2B.length : Int) == 0)
                 ) else (
                  none
                 )
                )
               )
              )
             )
            )
           )
          )
         )
        )
       )
      )
     ) else (
      some false
     )
     : Option (Bool)).bind fun x22 =>
    some (x22,((),o1E))
   )
  )
 )
def zA0 (F_node_checker_node : (Unit × Int) → Nd → Int → Option (Bool × (Unit × Int))) (a2A : Int) (a2B : List Nd) (a3 : Int) : Nat → Int → Int → Option (Fl (Bool × (Unit × Int)) (Int))
| 0,_,_=>none
| k+1,x9,x10 =>
 bif decide (x10 < (a2B.length : Int)) then (
  (
   (at? a2B x10).bind fun ⟨e14A,e14C,e14D,e14B⟩ =>
   bif ((a2A == 1) == (e14A == 1)) then (
    some (true,x9)
   ) else (
    (at? a2B x10).bind fun ⟨e16A,e16C,e16D,e16B⟩ =>
    (F_node_checker_node ((),x9) (Nd.mk e16A e16C e16D e16B) (IntKind.i64.wrap (a3 + 1))).bind fun ⟨y18,⟨_,w19E⟩⟩ =>
    some ((!y18),w19E)
   )
   : Option (Bool × Int)).bind fun ⟨x12,x13⟩ =>
  bif x12 then (
   some (.ret (false,((),x13)))
  ) else (
   zA0 F_node_checker_node a2A a2B a3 k x13 (IntKind.i64.wrap (x10 + 1))
  )
 ) else (
  some (.go x9)
 )
def zBa : Nat → (Unit × Int) → Nd → Int → Option (Bool × (Unit × Int))
| 0,_,_,_=>none
| n+1,⟨_,o1E⟩,⟨a2A,a2C,a2D,a2B⟩,a3 =>
 (
  bif decide (1000 < (IntKind.i64.wrap (o1E + 1))) then (
   some (true,IntKind.i64.wrap (o1E + 1))
  ) else (
   bif decide (24 < a3) then (
    some (true,IntKind.i64.wrap (o1E + 1))
   ) else (
    (zCo n ((),IntKind.i64.wrap (o1E + 1)) (Nd.mk a2A a2C a2D a2B)).bind fun ⟨y6,⟨_,w7E⟩⟩ =>
    some ((!y6),w7E)
   )
  )
  : Option (Bool × Int)).bind fun ⟨x4,x5⟩ =>
 bif x4 then (
  some (false,((),x5))
 ) else (
  (zA0 (zBa n) a2A a2B a3 n x5 0).bind fun fl=>match fl with
  | .ret r=>some r
  | .go x11 =>
   some (true,((),x11))
 )
def zAZ (n : Nat) : Nd → Option Bool
| ⟨n1A,n1C,n1D,n1B⟩ =>
 (zEa ).bind fun _ =>
 (
  bif (n1A == 1) then (
   (zBa n ((),0) (Nd.mk n1A n1C n1D n1B) 1).bind fun ⟨y4,⟨_,w5E⟩⟩ =>
   some y4
  ) else (
   some false
  )
  : Option (Bool)).bind fun x3 =>
 some x3
def zEN : Int → Int → Option Int
| a1,o2 =>
 some (IntKind.i64.wrap (o2 + 1))
def zCw (e9Ah : List Nd) (e9An : Int) : Nat → Int → (List (Nd × Int)) → Option ((List (Nd × Int)))
| 0,_,_=>none
| k+1,x13,l15 =>
 bif decide (x13 < (e9Ah.length : Int)) then (
  (at? e9Ah x13).bind fun ⟨e17A,e17C,e17D,e17B⟩ =>
  req (l15.length + [(Nd.mk e17A e17C e17D e17B,IntKind.i64.wrap (e9An + 1))].length ≤ 4294967296) <|
  zCw e9Ah e9An k (IntKind.i64.wrap (x13 + 1)) (l15 ++ [(Nd.mk e17A e17C e17D e17B,IntKind.i64.wrap (e9An + 1))])
 ) else (
  some l15
 )
def zCv (n : Nat) : Nat → Int → (List (Nd × Int)) → Option (Int)
| 0,_,_=>none
| k+1,x3,l5 =>
 bif decide (0 < (l5.length : Int)) then (
  (at? l5 (IntKind.i64.wrap ((l5.length : Int) - 1))).bind fun ⟨⟨e9As,e9At,e9Au,e9Ah⟩,e9An⟩ =>
  req (0 ≤ IntKind.i64.wrap ((l5.length : Int) - 1) ∧ IntKind.i64.wrap ((l5.length : Int) - 1) ≤ (l5.length : Int)) <|
  (zEN e9An x3).bind fun w11 =>
  (zCw e9Ah e9An n 0 (l5.take (IntKind.i64.wrap ((l5.length : Int) - 1)).toNat)).bind fun l16 =>
  zCv n k w11 l16
 ) else (
  some x3
 )
def zG1 (n : Nat) : Nd → Int → Option Int
| ⟨n1A,n1C,n1D,n1B⟩,o2 =>
 (zCv n n o2 [(Nd.mk n1A n1C n1D n1B,1)]).bind fun x6 =>
 some x6
def zEX (n : Nat) : Nd → Option Int
| ⟨n1A,n1C,n1D,n1B⟩ =>
 (zG1 n (Nd.mk n1A n1C n1D n1B) 0).bind fun w2 =>
 some w2
def zEb : Int → Option Bool
| c1 =>
 (
  bif decide (97 ≤ c1) then (
   bif decide (c1 ≤ 122) then (
    some true
   ) else (
    bif decide (65 ≤ c1) then (
     some (decide (c1 ≤ 90))
    ) else (
     some false
    )
   )
  ) else (
   bif decide (65 ≤ c1) then (
    some (decide (c1 ≤ 90))
   ) else (
    some false
   )
  )
  : Option (Bool)).bind fun x2 =>
 some x2
def zCP (s1 : List UInt8) (c2 : Int) : Nat → Int → Option (Fl Bool Unit)
| 0,_=>none
| k+1,i3 =>
 bif decide (i3 < (s1.length : Int)) then (
  (at? s1 i3).bind fun c4 =>
  bif ((c4.toNat : Int) == c2) then (
   some (.ret true)
  ) else (
   zCP s1 c2 k (IntKind.i64.wrap (i3 + 1))
  )
 ) else (
  some (.go ())
 )
def zDs (n : Nat) : (List UInt8) → Int → Option Bool
| s1,c2 =>
 (zCP s1 c2 n 0).bind fun fl=>match fl with
 | .ret r=>some r
 | .go _ =>
  some false
def zEn (n : Nat) : Int → Option Bool
| c1 =>
 (
  (zEb c1).bind fun y3 =>
  bif y3 then (
   some true
  ) else (
   (zDs n [43,45,42,47,61,60,62,44,59,58,33,124,39,63,126,64] c1).bind fun y4 =>
   some y4
  )
  : Option (Bool)).bind fun x2 =>
 some x2
def zEP : Option (List (List UInt8))
:=
 some [[102,114,97,99],[114,111,111,116],[109,97,116,114,105,120],[102,101,110,99,101]]
def zDq (l1 : List (List UInt8)) (s2 : List UInt8) : Nat → Int → Option (Fl Bool Unit)
| 0,_=>none
| k+1,i3 =>
 bif decide (i3 < (l1.length : Int)) then (
  (at? l1 i3).bind fun e5 =>
  bif (e5 == s2) then (
   some (.ret true)
  ) else (
   zDq l1 s2 k (IntKind.i64.wrap (i3 + 1))
  )
 ) else (
  some (.go ())
 )
def zEO (n : Nat) : (List (List UInt8)) → (List UInt8) → Option Bool
| l1,s2 =>
 (zDq l1 s2 n 0).bind fun fl=>match fl with
 | .ret r=>some r
 | .go _ =>
  some false
def zDC : Option (List (List UInt8))
:=
 some [[104,97,116],[98,97,114],[118,101,99],[100,111,116],[116,105,108,100,101],[99,104,101,99,107]]
def zBF (s1 : List UInt8) : Nat → Int → Option (Fl Bool Unit)
| 0,_=>none
| k+1,i5 =>
 bif decide (i5 < (s1.length : Int)) then (
  (at? s1 i5).bind fun c6 =>
  (zEb (c6.toNat : Int)).bind fun y8 =>
  bif (!y8) then (
   some (.ret false)
  ) else (
   zBF s1 k (IntKind.i64.wrap (i5 + 1))
  )
 ) else (
  some (.go ())
 )
def zE1 (n : Nat) : (List UInt8) → Option Bool
| s1 =>
 bif ((s1.length : Int) == 1) then (
  (at? s1 0).bind fun c2 =>
  (zEn n (c2.toNat : Int)).bind fun y4 =>
  some y4
 ) else (
  (zBF s1 n 0).bind fun fl=>match fl with
  | .ret r=>some r
  | .go _ =>
   (
    bif decide (2 ≤ (s1.length : Int)) then (
     bif decide ((s1.length : Int) ≤ 16) then (
      (zEP ).bind fun y10 =>
      (zEO n y10 s1).bind fun y11 =>
      bif (!y11) then (
       (zDC ).bind fun y12 =>
       (zEO n y12 s1).bind fun y13 =>
       some (!y13)
      ) else (
       some false
      )
     ) else (
      some false
     )
    ) else (
     some false
    )
    : Option (Bool)).bind fun x9 =>
   some x9
 )
def zFJ : Int → Option Bool
| c1 =>
 (
  bif decide (48 ≤ c1) then (
   some (decide (c1 ≤ 57))
  ) else (
   some false
  )
  : Option (Bool)).bind fun x2 =>
 some x2
def zCe (s1 : List UInt8) : Nat → Int → Int → Option (Fl Bool (Int))
| 0,_,_=>none
| k+1,points2,i3 =>
 bif decide (i3 < (s1.length : Int)) then (
  (
   (
    (at? s1 i3).bind fun c7 =>
    bif ((c7.toNat : Int) == 46) then (
     bif decide (0 < i3) then (
      some (decide (i3 < (IntKind.i64.wrap ((s1.length : Int) - 1))))
     ) else (
      some false
     )
    ) else (
     some false
    )
    : Option (Bool)).bind fun x6 =>
   bif x6 then (
    some (.go (IntKind.i64.wrap (points2 + 1)))
   ) else (
    (at? s1 i3).bind fun c9 =>
    (zFJ (c9.toNat : Int)).bind fun y11 =>
    bif (!y11) then (
     some (.ret false)
    ) else (
     some (.go points2)
    )
   )
   : Option (Fl Bool (Int))).bind fun fl=>match fl with
  | .ret r=>some (.ret r)
  | .go points5 =>
   zCe s1 k points5 (IntKind.i64.wrap (i3 + 1))
 ) else (
  some (.go points2)
 )
def zE0 (n : Nat) : (List UInt8) → Option Bool
| s1 =>
 (zCe s1 n 0 0).bind fun fl=>match fl with
 | .ret r=>some r
 | .go points4 =>
  (
   bif decide (0 < (s1.length : Int)) then (
    bif decide ((s1.length : Int) ≤ 20) then (
     some (decide (points4 ≤ 1))
    ) else (
     some false
    )
   ) else (
    some false
   )
   : Option (Bool)).bind fun x12 =>
  some x12
def zBp (s1 : List UInt8) : Nat → Int → Option (Fl Bool Unit)
| 0,_=>none
| k+1,i2 =>
 bif decide (i2 < (s1.length : Int)) then (
  (
   (at? s1 i2).bind fun c4 =>
   bif decide ((c4.toNat : Int) < 32) then (
    some true
   ) else (
    (at? s1 i2).bind fun c6 =>
    some (decide (126 < (c6.toNat : Int)))
   )
   : Option (Bool)).bind fun x3 =>
  bif x3 then (
   some (.ret false)
  ) else (
   zBp s1 k (IntKind.i64.wrap (i2 + 1))
  )
 ) else (
  some (.go ())
 )
def zDr (n : Nat) : (List UInt8) → Option Bool
| s1 =>
 (zBp s1 n 0).bind fun fl=>match fl with
 | .ret r=>some r
 | .go _ =>
  some true
def zGF (n : Nat) : Nd → Option Bool
| ⟨n1A,n1C,n1D,n1B⟩ =>
 bif (n1A == 2) then (
  (zE1 n n1C).bind fun y2 =>
  some y2
 ) else (
  bif (n1A == 3) then (
   (zE0 n n1C).bind fun y3 =>
   some y3
  ) else (
   bif (n1A == 4) then (
    (
     bif decide ((n1C.length : Int) ≤ 200) then (
      (zDr n n1C).bind fun y5 =>
      some y5
     ) else (
      some false
     )
     : Option (Bool)).bind fun x4 =>
    some x4
   ) else (
    bif (n1A == 10) then (
     (zDC ).bind fun y6 =>
     (zEO n y6 n1C).bind fun y7 =>
     some y7
    ) else (
     bif (n1A == 11) then (
      (
       bif ((n1C.length : Int) == 2) then (
        (at? n1C 0).bind fun c9 =>
        (zDs n [40,41,91,93,123,125,124,60,62,47,46] (c9.toNat : Int)).bind fun y11 =>
        bif y11 then (
         (at? n1C 1).bind fun c12 =>
         (zDs n [40,41,91,93,123,125,124,60,62,47,46] (c12.toNat : Int)).bind fun y14 =>
         some y14
        ) else (
         some false
        )
       ) else (
        some false
       )
       : Option (Bool)).bind fun x8 =>
      some x8
     ) else (
      some (n1C == [])
     )
    )
   )
  )
 )
def zGE : Nd → Option Bool
| ⟨n1A,n1C,n1D,n1B⟩ =>
 bif (n1A == 12) then (
  (
   bif decide (1 ≤ n1D) then (
    bif decide (n1D ≤ 16) then (
     bif decide (1 ≤ (n1B.length : Int)) then (
      bif decide ((n1B.length : Int) ≤ 256) then (
       req (n1D ≠ 0) <|
       some (((n1B.length : Int).tmod n1D) == 0)
      ) else (
       some false
      )
     ) else (
      some false
     )
    ) else (
     some false
    )
   ) else (
    some false
   )
   : Option (Bool)).bind fun x3 =>
  some x3
 ) else (
  bif (n1D != 0) then (
   some false
  ) else (
   (
    bif (n1A == 1) then (
     some (.ret (decide ((n1B.length : Int) ≤ 200)))
    ) else (
     (
      bif (n1A == 2) then (
       some (n1A == 2)
      ) else (
       bif (n1A == 3) then (
        some (n1A == 3)
       ) else (
        some (n1A == 4)
       )
      )
      : Option (Bool)).bind fun x4 =>
     bif x4 then (
      some (.ret ((n1B.length : Int) == 0))
     ) else (
      (
       bif (n1A == 5) then (
        some (n1A == 5)
       ) else (
        bif (n1A == 6) then (
         some (n1A == 6)
        ) else (
         bif (n1A == 7) then (
          some (n1A == 7)
         ) else (
          some (n1A == 8)
         )
        )
       )
       : Option (Bool)).bind fun x5 =>
      bif x5 then (
       some (.ret ((n1B.length : Int) == 2))
      ) else (
       bif (n1A == 9) then (
        some (.ret ((n1B.length : Int) == 3))
       ) else (
        (
         bif (n1A == 10) then (
          some (n1A == 10)
         ) else (
          some (n1A == 11)
         )
         : Option (Bool)).bind fun x6 =>
        bif x6 then (
         some (.ret ((n1B.length : Int) == 1))
        ) else (
         some (.go ())
        )
       )
      )
     )
    )
    : Option (Fl Bool Unit)).bind fun fl=>match fl with
   | .ret r=>some r
   | .go _ =>
    some false
  )
 )
def zCY (F_r09_form : Nd → Option Bool) (n1A : Int) (n1B : List Nd) : Nat → Int → Option (Fl Bool Unit)
| 0,_=>none
| k+1,i5 =>
 bif decide (i5 < (n1B.length : Int)) then (
  (
   (at? n1B i5).bind fun ⟨e8A,e8C,e8D,e8B⟩ =>
   bif ((e8A == 1) == (n1A == 1)) then (
    some true
   ) else (
    (at? n1B i5).bind fun ⟨e10A,e10C,e10D,e10B⟩ =>
    (F_r09_form (Nd.mk e10A e10C e10D e10B)).bind fun y12 =>
    some (!y12)
   )
   : Option (Bool)).bind fun x7 =>
  bif x7 then (
   some (.ret false)
  ) else (
   zCY F_r09_form n1A n1B k (IntKind.i64.wrap (i5 + 1))
  )
 ) else (
  some (.go ())
 )
def zDD : Nat → Nd → Option Bool
| 0,_=>none
| n+1,⟨n1A,n1C,n1D,n1B⟩ =>
 (
  (zGF n (Nd.mk n1A n1C n1D n1B)).bind fun y3 =>
  bif (!y3) then (
   some true
  ) else (
   (zGE (Nd.mk n1A n1C n1D n1B)).bind fun y4 =>
   some (!y4)
  )
  : Option (Bool)).bind fun x2 =>
 bif x2 then (
  some false
 ) else (
  (zCY (zDD n) n1A n1B n 0).bind fun fl=>match fl with
  | .ret r=>some r
  | .go _ =>
   some true
 )
def zCx (F_r09_Count : Nd → Option Int) (n1B : List Nd) : Nat → Int → Int → Option (Int)
| 0,_,_=>none
| k+1,out2,i3 =>
 bif decide (i3 < (n1B.length : Int)) then (
  (at? n1B i3).bind fun ⟨e6A,e6C,e6D,e6B⟩ =>
  (F_r09_Count (Nd.mk e6A e6C e6D e6B)).bind fun y8 =>
  zCx F_r09_Count n1B k (IntKind.i64.wrap (out2 + y8)) (IntKind.i64.wrap (i3 + 1))
 ) else (
  some out2
 )
def zCW : Nat → Nd → Option Int
| 0,_=>none
| n+1,⟨n1A,n1C,n1D,n1B⟩ =>
 (zCx (zCW n) n1B n 1 0).bind fun out4 =>
 some out4
def zCy (F_r09_Depth : Nd → Option Int) (n1B : List Nd) : Nat → Int → Int → Option (Int)
| 0,_,_=>none
| k+1,out2,i3 =>
 bif decide (i3 < (n1B.length : Int)) then (
  (at? n1B i3).bind fun ⟨e6A,e6C,e6D,e6B⟩ =>
  (F_r09_Depth (Nd.mk e6A e6C e6D e6B)).bind fun y8 =>
  zCy F_r09_Depth n1B k (if out2 < y8 then y8 else out2) (IntKind.i64.wrap (i3 + 1))
 ) else (
  some out2
 )
def zCX : Nat → Nd → Option Int
| 0,_=>none
| n+1,⟨n1A,n1C,n1D,n1B⟩ =>
 (zCy (zCX n) n1B n 0 0).bind fun out4 =>
 some (IntKind.i64.wrap (out4 + 1))
def zEH (n : Nat) : Nd → Option Bool
| ⟨n1A,n1C,n1D,n1B⟩ =>
 (
  bif (n1A == 1) then (
   (zDD n (Nd.mk n1A n1C n1D n1B)).bind fun y3 =>
   bif y3 then (
    (zCW n (Nd.mk n1A n1C n1D n1B)).bind fun y4 =>
    bif decide (y4 ≤ 1000) then (
     (zCX n (Nd.mk n1A n1C n1D n1B)).bind fun y5 =>
     some (decide (y5 ≤ 24))
    ) else (
     some false
    )
   ) else (
    some false
   )
  ) else (
   some false
  )
  : Option (Bool)).bind fun x2 =>
 some x2
def zBE (F_r09_Equal : Nd → Nd → Option Bool) (a1 : List Nd) (b2 : List Nd) : Nat → Int → Option (Fl Bool Unit)
| 0,_=>none
| k+1,i5 =>
 bif decide (i5 < (a1.length : Int)) then (
  (at? a1 i5).bind fun ⟨e7A,e7C,e7D,e7B⟩ =>
  (at? b2 i5).bind fun ⟨e9A,e9C,e9D,e9B⟩ =>
  (F_r09_Equal (Nd.mk e7A e7C e7D e7B) (Nd.mk e9A e9C e9D e9B)).bind fun y11 =>
  bif (!y11) then (
   some (.ret false)
  ) else (
   zBE F_r09_Equal a1 b2 k (IntKind.i64.wrap (i5 + 1))
  )
 ) else (
  some (.go ())
 )
mutual
def zCd : Nat → Nd → Nd → Option Bool
| 0,_,_=>none
| n+1,⟨a1A,a1C,a1D,a1B⟩,⟨b2A,b2C,b2D,b2B⟩ =>
 (
  bif (a1A == b2A) then (
   bif (a1C == b2C) then (
    bif (a1D == b2D) then (
     (zCH n a1B b2B).bind fun y4 =>
     some y4
    ) else (
     some false
    )
   ) else (
    some false
   )
  ) else (
   some false
  )
  : Option (Bool)).bind fun x3 =>
 some x3
def zCH : Nat → (List Nd) → (List Nd) → Option Bool
| 0,_,_=>none
| n+1,a1,b2 =>
 bif ((a1.length : Int) != (b2.length : Int)) then (
  some false
 ) else (
  (zBE (zCd n) a1 b2 n 0).bind fun fl=>match fl with
  | .ret r=>some r
  | .go _ =>
   some true
 )
end
def zCp (F_r09_left : Nd → Int → Option Int) (n1B : List Nd) : Nat → Int → Int → Option (Int)
| 0,_,_=>none
| k+1,most3,i4 =>
 (
  bif decide (i4 < (n1B.length : Int)) then (
   some (decide (0 ≤ most3))
  ) else (
   some false
  )
  : Option (Bool)).bind fun x6 =>
 bif x6 then (
  (at? n1B i4).bind fun ⟨e8A,e8C,e8D,e8B⟩ =>
  (F_r09_left (Nd.mk e8A e8C e8D e8B) most3).bind fun y10 =>
  zCp F_r09_left n1B k y10 (IntKind.i64.wrap (i4 + 1))
 ) else (
  some most3
 )
def zDE : Nat → Nd → Int → Option Int
| 0,_,_=>none
| n+1,⟨n1A,n1C,n1D,n1B⟩,most2 =>
 (zCp (zDE n) n1B n (IntKind.i64.wrap (most2 - 1)) 0).bind fun most5 =>
 some most5
def zGD (n : Nat) : Nd → Int → Option Bool
| ⟨n1A,n1C,n1D,n1B⟩,most2 =>
 (zDE n (Nd.mk n1A n1C n1D n1B) most2).bind fun y3 =>
 some (decide (0 ≤ y3))
def zC8 (s1 : List UInt8) : Nat → Int → (List Nd) → Option ((List Nd))
| 0,_,_=>none
| k+1,i4,l5 =>
 bif decide (i4 < (s1.length : Int)) then (
  req (0 ≤ i4 ∧ i4 ≤ IntKind.i64.wrap (i4 + 1) ∧ IntKind.i64.wrap (i4 + 1) ≤ (s1.length : Int)) <|
  req (l5.length + [Nd.mk 2 ((s1.take (IntKind.i64.wrap (i4 + 1)).toNat).drop i4.toNat) 0 []].length ≤ 4294967296) <|
  zC8 s1 k (IntKind.i64.wrap (i4 + 1)) (l5 ++ [Nd.mk 2 ((s1.take (IntKind.i64.wrap (i4 + 1)).toNat).drop i4.toNat) 0 []])
 ) else (
  some l5
 )
def zFg (n : Nat) : (List UInt8) → Option Nd
| s1 =>
 (zC8 s1 n 0 []).bind fun l6 =>
 some (Nd.mk 1 [] 0 l6)
def zD9 (n : Nat) : Nd → Nd → Option Bool
| ⟨a1A,a1C,a1D,a1B⟩,⟨b2A,b2C,b2D,b2B⟩ =>
 (
  (zAZ n (Nd.mk a1A a1C a1D a1B)).bind fun y4 =>
  bif y4 then (
   (zAZ n (Nd.mk b2A b2C b2D b2B)).bind fun y5 =>
   some y5
  ) else (
   some false
  )
  : Option (Bool)).bind fun x3 =>
 some x3
def zHE (n : Nat) : Nd → Nd → Option Bool
| ⟨a1A,a1C,a1D,a1B⟩,⟨b2A,b2C,b2D,b2B⟩ =>
 (
  (zGD n (Nd.mk a1A a1C a1D a1B) 120).bind fun y4 =>
  bif y4 then (
   (zGD n (Nd.mk b2A b2C b2D b2B) 120).bind fun y5 =>
   some y5
  ) else (
   some false
  )
  : Option (Bool)).bind fun x3 =>
 some x3
def zCb (n : Nat) (l1 : List Nd) : Nat → Int → (List Int) → Option ((List Int))
| 0,_,_=>none
| k+1,x4,l5 =>
 bif decide (x4 < (l1.length : Int)) then (
  (at? l1 x4).bind fun ⟨e7A,e7C,e7D,e7B⟩ =>
  (zEX n (Nd.mk e7A e7C e7D e7B)).bind fun y9 =>
  (at? l5 x4).bind fun e10 =>
  zCb n l1 k (IntKind.i64.wrap (x4 + 1)) (l5.set x4.toNat y9)
 ) else (
  some l5
 )
def zD8 (n : Nat) : (List Nd) → Option (List Int)
| l1 =>
 req (0 ≤ (l1.length : Int) ∧ (l1.length : Int) ≤ 4294967296) <|
 (zCb n l1 n 0 (List.replicate (l1.length : Int).toNat 0)).bind fun l6 =>
 some l6
def zA1 : List Int → List Int
| []=>[0]
| o :: os=>IntKind.i64.wrap ((zA1 os).headD 0 + o) :: zA1 os
def zAE (F_diff_pairing : Nd → Nd → Option Int) (x : Nd) (f : Int) : List Nd → List Int → List Int → Option zCu
| [],[],[v]=>some ([IntKind.i64.wrap (v + f)],[])
| y :: ys,o :: os,v :: v2 :: vs =>
 (zAE F_diff_pairing x f ys os (v2 :: vs)).bind fun p =>
 (F_diff_pairing x y).bind fun c =>
 let c0:=if IntKind.i64.wrap (v + f) < IntKind.i64.wrap (p.1.headD 0 + o) then IntKind.i64.wrap (v + f) else IntKind.i64.wrap (p.1.headD 0 + o)
 let c1:=if 0 ≤ c then (if IntKind.i64.wrap (v2 + c) < c0 then IntKind.i64.wrap (v2 + c) else c0) else c0
 some (c1 :: p.1,c :: p.2)
| _,_,_=>none
def zAO (F_diff_pairing : Nd → Nd → Option Int) (b : List Nd) (other : List Int) : List Nd → List Int → Option (List (List Int) × List (List Int))
| [],[]=>some ([zA1 other],[])
| x :: xs,f :: fs =>
 (zAO F_diff_pairing b other xs fs).bind fun p =>
 match p.1 with
 | []=>none
 | r1 :: _=>(zAE F_diff_pairing x f b other r1).bind fun q=>some (q.1 :: p.1,q.2 :: p.2)
| _,_=>none
def zBI (F_diff_fill : (List Nd) → (List Nd) → Option (List (List Int) × List (List Int) × List Int × List Int)) (a1B : List Nd) (a2B : List Nd) : Nat → Int → Int → Option (Int)
| 0,_,_=>none
| k+1,x8,x9 =>
 bif decide (x9 < (a1B.length : Int)) then (
  (at? a1B x9).bind fun ⟨e11A,e11C,e11D,e11B⟩ =>
  (at? a2B x9).bind fun ⟨e13A,e13C,e13D,e13B⟩ =>
  (F_diff_fill e11B e13B).bind fun ⟨y15Ai,y15Aj,y15Ak,y15Al⟩ =>
  (at? y15Ai 0).bind fun e16 =>
  (at? e16 0).bind fun e18 =>
  zBI F_diff_fill a1B a2B k (IntKind.i64.wrap (x8 + e18)) (IntKind.i64.wrap (x9 + 1))
 ) else (
  some x8
 )
mutual
def zCa : Nat → (List Nd) → (List Nd) → Option (List (List Int) × List (List Int) × List Int × List Int)
| 0,_,_=>none
| n+1,a,b =>
 (zD8 n a).bind fun first =>
 (zD8 n b).bind fun other =>
 req (a.length ≤ 1048576 ∧ b.length ≤ 1048576 ∧ other.length = b.length) <|
 (zAO (zBL n) b other a first).bind fun p =>
 some (p.1,p.2,first,other)
def zBL : Nat → Nd → Nd → Option Int
| 0,_,_=>none
| n+1,⟨a1A,a1C,a1D,a1B⟩,⟨a2A,a2C,a2D,a2B⟩ =>
 (
  bif (a1A != a2A) then (
   some true
  ) else (
   bif (a1D != a2D) then (
    some true
   ) else (
    some ((a1B.length : Int) != (a2B.length : Int))
   )
  )
  : Option (Bool)).bind fun x3 =>
 bif x3 then (
  some (-1)
 ) else (
  (
   bif (!(a1C == a2C)) then (
    some 1
   ) else (
    some 0
   )
   : Option (Int)).bind fun x6 =>
  (zBI (zCa n) a1B a2B n x6 0).bind fun x10 =>
  some x10
 )
end
def zIV (n : Nat) : Nd → Nd → Option (Int × Int)
| ⟨a1A,a1C,a1D,a1B⟩,⟨b2A,b2C,b2D,b2B⟩ =>
 (zD9 n (Nd.mk a1A a1C a1D a1B) (Nd.mk b2A b2C b2D b2B)).bind fun y3 =>
 bif (!y3) then (
  some (0,1)
 ) else (
  (zCa n a1B b2B).bind fun ⟨y4Ai,y4Aj,y4Ak,y4Al⟩ =>
  (at? y4Ai 0).bind fun e5 =>
  (at? e5 0).bind fun e7 =>
  some (e7,0)
 )
def zG0 (n : Nat) : Option Bool
:=
 (zFg n [120,121]).bind fun ⟨y1A,y1C,y1D,y1B⟩ =>
 (zFg n [121,122]).bind fun ⟨y2A,y2C,y2D,y2B⟩ =>
 (zIV n (Nd.mk y1A y1C y1D y1B) (Nd.mk y2A y2C y2D y2B)).bind fun ⟨y3,y4⟩ =>
 (
  bif (y4 == 0) then (
   some (y3 == 2)
  ) else (
   some false
  )
  : Option (Bool)).bind fun x5 =>
 some x5
def zAk : (List UInt8) → (List UInt8) → Option (Int × Unit × (List UInt8))
| s1,b2 =>
 (zA7 b2).bind fun b3 =>
 req (b3.length + s1.length ≤ 4294967296) <|
 some ((s1.length : Int),(),b3 ++ s1)
def zAH : UInt8 → (List UInt8) → Option (Unit × (List UInt8))
| c1,b2 =>
 (zA7 b2).bind fun b3 =>
 req (b3.length + [c1].length ≤ 4294967296) <|
 some ((),b3 ++ [c1])
def zAU (a1C : List UInt8) : Nat → Int → (List UInt8) → Option ((List UInt8))
| 0,_,_=>none
| k+1,x49,l50 =>
 bif decide (x49 < (a1C.length : Int)) then (
  (
   (
    (at? a1C x49).bind fun c54 =>
    bif ((c54.toNat : Int) == 34) then (
     some true
    ) else (
     (at? a1C x49).bind fun c56 =>
     some ((c56.toNat : Int) == 92)
    )
    : Option (Bool)).bind fun x53 =>
   (
    bif x53 then (
     (zAH (b8of 92) l50).bind fun ⟨_,b60⟩ =>
     some b60
    ) else (
     some l50
    )
    : Option ((List UInt8))).bind fun l58 =>
   (at? a1C x49).bind fun c61 =>
   (zAH c61 l58).bind fun ⟨_,b64⟩ =>
   some b64
   : Option ((List UInt8))).bind fun l52 =>
  zAU a1C k (IntKind.i64.wrap (x49 + 1)) l52
 ) else (
  some l50
 )
def zBo (n : Nat) : Nd → (List UInt8) → Option (List UInt8)
| ⟨a1A,a1C,a1D,a1B⟩,b2 =>
 (
  bif decide (1 ≤ a1A) then (
   some (decide (a1A ≤ 12))
  ) else (
   some false
  )
  : Option (Bool)).bind fun x3 =>
 (
  bif x3 then (
   bif (a1A == 1) then (
    (zAk [114,111,119] b2).bind fun ⟨y5,_,b7⟩ =>
    some b7
   ) else (
    bif (a1A == 2) then (
     (zAk [115,121,109] b2).bind fun ⟨y8,_,b10⟩ =>
     some b10
    ) else (
     bif (a1A == 3) then (
      (zAk [110,117,109] b2).bind fun ⟨y11,_,b13⟩ =>
      some b13
     ) else (
      bif (a1A == 4) then (
       (zAk [116,101,120,116] b2).bind fun ⟨y14,_,b16⟩ =>
       some b16
      ) else (
       bif (a1A == 5) then (
        (zAk [102,114,97,99] b2).bind fun ⟨y17,_,b19⟩ =>
        some b19
       ) else (
        bif (a1A == 6) then (
         (zAk [114,111,111,116] b2).bind fun ⟨y20,_,b22⟩ =>
         some b22
        ) else (
         bif (a1A == 7) then (
          (zAk [115,117,98] b2).bind fun ⟨y23,_,b25⟩ =>
          some b25
         ) else (
          bif (a1A == 8) then (
           (zAk [115,117,112] b2).bind fun ⟨y26,_,b28⟩ =>
           some b28
          ) else (
           bif (a1A == 9) then (
            (zAk [98,111,116,104] b2).bind fun ⟨y29,_,b31⟩ =>
            some b31
           ) else (
            bif (a1A == 10) then (
             (zAk [97,99,99,101,110,116] b2).bind fun ⟨y32,_,b34⟩ =>
             some b34
            ) else (
             bif (a1A == 11) then (
              (zAk [102,101,110,99,101] b2).bind fun ⟨y35,_,b37⟩ =>
              some b37
             ) else (
              bif (a1A == 12) then (
               (zAk [109,97,116,114,105,120] b2).bind fun ⟨y38,_,b40⟩ =>
               some b40
              ) else (
               none
              )
             )
            )
           )
          )
         )
        )
       )
      )
     )
    )
   )
  ) else (
   (zDT a1A).bind fun y41 =>
   req ([110,111,100,101].length + y41.length ≤ 1099511627776) <|
   (zAk ([110,111,100,101] ++ y41) b2).bind fun ⟨y42,_,b44⟩ =>
   some b44
  )
  : Option ((List UInt8))).bind fun l4 =>
 (
  bif (!(a1C == [])) then (
   (zAk [58,34] l4).bind fun ⟨y46,_,b48⟩ =>
   (zAU a1C n 0 b48).bind fun l51 =>
   (zAH (b8of 34) l51).bind fun ⟨_,b66⟩ =>
   some b66
  ) else (
   some l4
  )
  : Option ((List UInt8))).bind fun l45 =>
 bif (a1D != 0) then (
  (zDT a1D).bind fun y67 =>
  req ([42].length + y67.length ≤ 1099511627776) <|
  (zAk ([42] ++ y67) l45).bind fun ⟨y68,_,b70⟩ =>
  some b70
 ) else (
  some l45
 )
def zB1 (n : Nat) : Nat → (List UInt8) → (List (Nd × Int)) → Option ((List UInt8))
| 0,_,_=>none
| k+1,l5,l6 =>
 bif decide (0 < (l6.length : Int)) then (
  (at? l6 (IntKind.i64.wrap ((l6.length : Int) - 1))).bind fun ⟨⟨e10As,e10At,e10Au,e10Ah⟩,e10B⟩ =>
  bif (e10B == (e10Ah.length : Int)) then (
   (
    bif decide (0 < e10B) then (
     (zAH (b8of 41) l5).bind fun ⟨_,b14⟩ =>
     some b14
    ) else (
     some l5
    )
    : Option ((List UInt8))).bind fun l12 =>
   req (0 ≤ IntKind.i64.wrap ((l6.length : Int) - 1) ∧ IntKind.i64.wrap ((l6.length : Int) - 1) ≤ (l6.length : Int)) <|
   zB1 n k l12 (l6.take (IntKind.i64.wrap ((l6.length : Int) - 1)).toNat)
  ) else (
   (at? e10Ah e10B).bind fun ⟨e17A,e17C,e17D,e17B⟩ =>
   (at? ([40,32] : List UInt8) (if 1 < e10B then 1 else e10B)).bind fun c19 =>
   (zAH c19 l5).bind fun ⟨_,b22⟩ =>
   (zBo n (Nd.mk e17A e17C e17D e17B) b22).bind fun b23 =>
   req ((l6.set (IntKind.i64.wrap ((l6.length : Int) - 1)).toNat (Nd.mk e10As e10At e10Au e10Ah,IntKind.i64.wrap (e10B + 1))).length + [(Nd.mk e17A e17C e17D e17B,0)].length ≤ 4294967296) <|
   zB1 n k b23 ((l6.set (IntKind.i64.wrap ((l6.length : Int) - 1)).toNat (Nd.mk e10As e10At e10Au e10Ah,IntKind.i64.wrap (e10B + 1))) ++ [(Nd.mk e17A e17C e17D e17B,0)])
  )
 ) else (
  some l5
 )
def zEF (n : Nat) : Nd → Option (List UInt8)
| ⟨a1A,a1C,a1D,a1B⟩ =>
 (zEa ).bind fun _ =>
 (zBo n (Nd.mk a1A a1C a1D a1B) []).bind fun b3 =>
 (zB1 n n b3 [(Nd.mk a1A a1C a1D a1B,0)]).bind fun l7 =>
 (zCI l7).bind fun y25 =>
 some y25
def zDp : Nd → Option Int
| ⟨n1A,n1C,n1D,n1B⟩ =>
 bif (n1A == 1) then (
  some 0
 ) else (
  some (n1B.length : Int)
 )
def zB5 (n : Nat) : (List Nd) → Option Bool
| l1 =>
 (zAZ n (Nd.mk 1 [] 0 l1)).bind fun y2 =>
 some y2
def zAW (F_node_Equal : Nd → Nd → Option Bool) (s11 : List Nd) (s22 : List Nd) : Nat → Int → Option (Fl Bool Unit)
| 0,_=>none
| k+1,x6 =>
 bif decide (x6 < (s11.length : Int)) then (
  (at? s11 x6).bind fun ⟨e7A,e7C,e7D,e7B⟩ =>
  (at? s22 x6).bind fun ⟨e9A,e9C,e9D,e9B⟩ =>
  (F_node_Equal (Nd.mk e7A e7C e7D e7B) (Nd.mk e9A e9C e9D e9B)).bind fun y11 =>
  bif (!y11) then (
   some (.ret false)
  ) else (
   zAW F_node_Equal s11 s22 k (IntKind.i64.wrap (x6 + 1))
  )
 ) else (
  some (.go ())
 )
mutual
def zB2 : Nat → Nd → Nd → Option Bool
| 0,_,_=>none
| n+1,⟨a1A,a1C,a1D,a1B⟩,⟨b2A,b2C,b2D,b2B⟩ =>
 (
  bif (a1A == b2A) then (
   bif (a1C == b2C) then (
    bif (a1D == b2D) then (
     (zA6 n a1B b2B).bind fun y4 =>
     some y4
    ) else (
     some false
    )
   ) else (
    some false
   )
  ) else (
   some false
  )
  : Option (Bool)).bind fun x3 =>
 some x3
def zA6 : Nat → (List Nd) → (List Nd) → Option Bool
| 0,_,_=>none
| n+1,s11,s22 =>
 bif ((s11.length : Int) != (s22.length : Int)) then (
  some false
 ) else (
  (zAW (zB2 n) s11 s22 n 0).bind fun fl=>match fl with
  | .ret r=>some r
  | .go _ =>
   some true
 )
end
def zBA (n : Nat) (a1 : List Nd) (a2 : List Nd) (y3Ai : List (List Int)) (y3Aj : List (List Int)) (y3Ak : List Int) (y3Al : List Int) : Nat → Int → Int → (List (Int × Int)) → Option ((List (Int × Int)))
| 0,_,_,_=>none
| k+1,x5,x6,l7 =>
 (
  bif decide (x5 < (a1.length : Int)) then (
   some (decide (x6 < (a2.length : Int)))
  ) else (
   some false
  )
  : Option (Bool)).bind fun x9 =>
 bif x9 then (
  (at? y3Ai x5).bind fun e12 =>
  (at? e12 x6).bind fun e14 =>
  (at? y3Ai (IntKind.i64.wrap (x5 + 1))).bind fun e16 =>
  (at? e16 x6).bind fun e18 =>
  (at? y3Ak x5).bind fun e20 =>
  (at? y3Ai x5).bind fun e22 =>
  (at? e22 (IntKind.i64.wrap (x6 + 1))).bind fun e24 =>
  (at? y3Al x6).bind fun e26 =>
  (
   (at? y3Aj x5).bind fun e29 =>
   (at? e29 x6).bind fun e31 =>
   bif decide (0 ≤ e31) then (
    (at? y3Ai (IntKind.i64.wrap (x5 + 1))).bind fun e33 =>
    (at? e33 (IntKind.i64.wrap (x6 + 1))).bind fun e35 =>
    (at? y3Aj x5).bind fun e37 =>
    (at? e37 x6).bind fun e39 =>
    some (e14 == (IntKind.i64.wrap (e35 + e39)))
   ) else (
    some false
   )
   : Option (Bool)).bind fun x28 =>
  bif x28 then (
   req (l7.length + [(x5,x6)].length ≤ 4294967296) <|
   zBA n a1 a2 y3Ai y3Aj y3Ak y3Al k (IntKind.i64.wrap (x5 + 1)) (IntKind.i64.wrap (x6 + 1)) (l7 ++ [(x5,x6)])
  ) else (
   (
    bif (e14 == (IntKind.i64.wrap (e18 + e20))) then (
     bif (!(e14 == (IntKind.i64.wrap (e24 + e26)))) then (
      some true
     ) else (
      (at? a1 x5).bind fun ⟨e43A,e43C,e43D,e43B⟩ =>
      (zEF n (Nd.mk e43A e43C e43D e43B)).bind fun y45 =>
      (at? a2 x6).bind fun ⟨e46A,e46C,e46D,e46B⟩ =>
      (zEF n (Nd.mk e46A e46C e46D e46B)).bind fun y48 =>
      some (Op.bytesLess y45 y48)
     )
    ) else (
     some false
    )
    : Option (Bool)).bind fun x42 =>
   bif x42 then (
    zBA n a1 a2 y3Ai y3Aj y3Ak y3Al k (IntKind.i64.wrap (x5 + 1)) x6 l7
   ) else (
    zBA n a1 a2 y3Ai y3Aj y3Ak y3Al k x5 (IntKind.i64.wrap (x6 + 1)) l7
   )
  )
 ) else (
  some l7
 )
def zD7 (n : Nat) : (List Nd) → (List Nd) → Option (List (Int × Int))
| a1,a2 =>
 (zCa n a1 a2).bind fun ⟨y3Ai,y3Aj,y3Ak,y3Al⟩ =>
 (zBA n a1 a2 y3Ai y3Aj y3Ak y3Al n 0 0 []).bind fun l8 =>
 some l8
end Go.Proofs.YtjdhkpdjecegnaaGreatDoor
namespace Go.Proofs.YtjdhkpdjecegnaaGreatDoor
open Go.Abs
mutual
def Nd.cnt : Nd → Nat
 | .mk _ _ _ ks=>Nd.cnts ks + 1
def Nd.cnts : List Nd → Nat
 | []=>0
 | v :: vs=>v.cnt + Nd.cnts vs
end
theorem Nd.cnt_pos : ∀ v : Nd,1 ≤ v.cnt
 | .mk _ _ _ ks=>by simp only [Nd.cnt]; omega
theorem Nd.cnts_append : ∀ a b : List Nd,Nd.cnts (a ++ b) = Nd.cnts a + Nd.cnts b
 | [],b=>by simp [Nd.cnts]
 | v :: a,b=>by simp only [List.cons_append,Nd.cnts,Nd.cnts_append a b]; omega
theorem Nd.cnts_len : ∀ a : List Nd,a.length ≤ Nd.cnts a
 | []=>Nat.le_refl _
 | v :: a=>by have:=Nd.cnts_len a; have:=v.cnt_pos; simp only [Nd.cnts,List.length_cons]; omega
theorem Nd.cnts_mem : ∀ {a : List Nd} {v : Nd},v ∈ a → v.cnt ≤ Nd.cnts a
 | u :: a,v,h=>by
  simp only [Nd.cnts]
  rcases List.mem_cons.1 h with rfl | h
  ·omega
  ·have:=Nd.cnts_mem h; omega
theorem Nd.cnts_drop {a : List Nd} {i : Nat} (h : i < a.length) : Nd.cnts (a.drop i) = (a[i]).cnt + Nd.cnts (a.drop (i + 1)):=by
 rw [List.drop_eq_getElem_cons h]; rfl
def zBc (n : Nd) : Option Nd:=req (n.cnt ≤ 1000000000) (some n)
def Nd.kids : Nd → List Nd
 | .mk _ _ _ ks=>ks
theorem zU7 (n : Nd) : n.kids ≠ [] ↔ n.kids.isEmpty = false:=by cases n.kids <;> simp
instance (n : Nd) : Decidable (n.kids ≠ []):=decidable_of_iff _ (zU7 n).symm
def zCF (n : Nd) : Option Nd:=req (n.cnt ≤ 1000000000 ∧ n.kids ≠ []) (some n)
def zCt : Nd → List Int → Option Nd
 | n,[]=>some n
 | _,[_]=>none
 | n,i :: s :: path=>if 0 ≤ i ∧ i < n.kids.length then
   let item:=n.kids.getD i.toNat n
   if 0 ≤ s ∧ s < item.kids.length then zCt (item.kids.getD s.toNat n) path else none
  else none
def zDu : Nd:=.mk 0 [] 0 []
def putL : Nd → List Int → Nd → Nd
 | .mk k t c ks,i :: s :: path,r=>.mk k t c (ks.set i.toNat (match ks[i.toNat]? with
  | some (.mk k2 t2 c2 ks2)=>.mk k2 t2 c2 (ks2.set s.toNat (match ks2[s.toNat]? with
   | some z=>putL z path r
   | none=>r))
  | none=>r))
 | _,_,r=>r
def zGC (f : Nat) (n : Nd) (path : List Int) : Option (Nd × Int) :=
 (zAZ f n).bind fun b=>if b = true then (match zCt n path with
  | some r=>(zBc r).bind fun r=>some (r,0)
  | none=>some (zDu,8)) else some (zDu,1)
def zEG (f : Nat) (n : Nd) (path : List Int) (row : Nd) : Option (Nd × Int) :=
 (zAZ f n).bind fun b=>if b = true then (zBc n).bind fun n=>(match zCt n path with
  | some _=>(zAZ f row).bind fun b=>if b = true then (zBc row).bind fun row=>(zAZ f (putL n path row)).bind fun b=>if b = true then some (putL n path row,0) else some (zDu,6)
    else some (zDu,4)
  | none=>some (zDu,8)) else some (zDu,1)
end Go.Proofs.YtjdhkpdjecegnaaGreatDoor
namespace Go.Abs
section
variable {T : Nat → Option TI} {Γ : Nat → Option zAt} {M nm L : List Nat} {N k : Nat} {n : Nat → Bool} {all os : List Oper} {o : Oper} {σ σ' : St} {K : St → Prop} {φ : Option Prop} {x : AV} {d : Nat}
theorem zTm {φ : Option Prop} {K : Prop} (h1 : φ.getD True) (h2 : K) : andO φ K:=by
 cases φ with
 | none=>exact h2
 | some p=>exact ⟨h1,h2⟩
theorem zQb (h : K (σ.putN d x)) : lay false (some d) x σ K:=by
 simp only [lay,zJz]; exact h
theorem zAe (hg : o.guard = none) (hd : o.dst = some d) (hN : Nat.blt d N = true) (hc : callOf T Γ o σ.env = none) (hn : dIn (some d) nm = false) (hs : step1 T (dIn (some d) M) o σ = some (φ,x,σ')) (hφ : φ.getD True)
  (h : zDw T Γ M nm N all os (σ'.putN d x) K) : zDw T Γ M nm N all (o :: os) σ K:=by
 unfold zDw;rw [hg,hd]
 dsimp only;rw [hN,hc,hn,hs]
 exact zTm hφ (zQb h)
theorem zFG (hg : o.guard = none) (hd : o.dst = none) (hc : callOf T Γ o σ.env = none) (hs : step1 T (dIn none M) o σ = some (φ,x,σ')) (hφ : φ.getD True)
  (h : zDw T Γ M nm N all os σ' K) : zDw T Γ M nm N all (o :: os) σ K:=by
 unfold zDw;rw [hg,hd,hc,hs]
 exact zTm hφ h
theorem zOW {own : Bool} {t e q sz kk : Nat} {j ti : TI} {y i : Operand} {n : Int} {ki : IntKind} {rows : List (List AV)} (ho : o.op = .indexAddr t y i) (ht : T t = some ti) (hk : ti.k = .slice e) (hj : T e = some j) (hy : opd T σ.env t y = .orow q)
  (hi : opd T σ.env 0 i = .s (.int ki n)) (hh : σ.hp q = some (.arow kk sz rows)) (hz : Nat.beq sz j.size = true) : step1 T own o σ = some (some (0 ≤ n ∧ n < rows.length),.rp q sz n.toNat 0,σ):=by
 have e1 : zCB T own o σ.env = none :=(by simp only [zCB,ho,zFq,hy,hi,AV.nrm,ht,hk]);simp only [step1,e1,zCh,zDL,zDm,ho,elemOf,ht,hk,hj,hy,hi,hh,hz]
theorem zQN {own : Bool} {t q sz r off kk : Nat} {ti : TI} {y z : Operand} {rows : List (List AV)} (ho : o.op = .store t y z) (ht : T t = some ti) (hy : opd T σ.env 0 y = .rp q sz r off)
  (hh : σ.hp q = some (.arow kk sz rows)) (h1 : Nat.beq sz sz = true) (h2 : Nat.beq (opd T σ.env t z).cellsA.length ti.size = true) (h3 : Nat.ble (off + ti.size) sz = true) (h4 : ((opd T σ.env t z).cellsA).all AV.one = true) :
  step1 T own o σ = some (some (r < rows.length),.junk,zGl σ q (.arow kk sz (rows.set r ((rows.getD r []).take off ++ (opd T σ.env t z).cellsA ++ (rows.getD r []).drop (off + ti.size))))):=by
 have e1 : zCB T own o σ.env = none :=(by simp only [zCB,ho]);have e2 : zDL T own o σ = none:=by
  simp only [zDL,ho,hy,ht,hh]
 simp only [step1,e1,zCh,e2,zDm,ho,ht,hy,hh,h1,h2,h3,h4]
theorem zMp {own : Bool} {t q off : Nat} {ti : TI} {y z : Operand} {bt : Nat} {cells : List AV} (ho : o.op = .store t y z) (ht : T t = some ti) (hy : opd T σ.env 0 y = .op q off)
  (hh : σ.hp q = some (.box bt cells)) (h2 : Nat.beq (opd T σ.env t z).cellsA.length ti.size = true) (h3 : Nat.ble (off + ti.size) cells.length = true) (h4 : ((opd T σ.env t z).cellsA).all AV.one = true) (h5 : AV.ltAll σ.nx (opd T σ.env t z).cellsA = true) :
  step1 T own o σ = some (none,.junk,zGl σ q (.box bt (cells.take off ++ (opd T σ.env t z).cellsA ++ cells.drop (off + ti.size)))):=by
 have e1 : zCB T own o σ.env = none :=(by simp only [zCB,ho]);simp only [step1,e1,zCh,zDL,ho,ht,hy,hh,h2,h3,h4,h5,zDH]
theorem zVC {own : Bool} {t q off : Nat} {ti : TI} {y : Operand} {bt : Nat} {cells : List AV} {c : AV} (ho : o.op = .load t y) (ht : T t = some ti) (ha : ti.k.agg = false) (hy : opd T σ.env 0 y = .op q off) (hh : σ.hp q = some (.box bt cells)) (hc : cells[off]? = some c) :
  step1 T own o σ = some (none,c,σ):=by
 have e1 : zCB T own o σ.env = none :=(by simp only [zCB,ho,hy]);simp only [step1,e1,zCh,zDL,ho,ht,hy,hh,ha,hc]
theorem zUA {own : Bool} {t q off : Nat} {ti : TI} {y : Operand} {bt : Nat} {cells : List AV} (ho : o.op = .load t y) (ht : T t = some ti) (ha : ti.k.agg = true) (hy : opd T σ.env 0 y = .op q off) (hh : σ.hp q = some (.box bt cells)) (hc : Nat.ble (off + ti.size) cells.length = true) :
  step1 T own o σ = some (none,.agg ((cells.drop off).take ti.size),σ):=by
 have e1 : zCB T own o σ.env = none :=(by simp only [zCB,ho,hy]);simp only [step1,e1,zCh,zDL,ho,ht,hy,hh,ha,hc]
theorem zMo {own : Bool} {t q kk sz : Nat} {e : Nat} {args : Array Operand} {ts : Array Nat} {y : Operand} {rows : List (List AV)} (ho : o.op = .call { callee:=.builtin .len,args:=args,argTypes:=ts }) (ha : args.toList = [y]) (hts : ts.toList = [t]) (ht : tk T t = .slice e)
  (hy : opd T σ.env t y = .orow q) (hh : σ.hp q = some (.arow kk sz rows)) : step1 T own o σ = some (none,.s (.int .i64 (rows.length : Int)),σ):=by
 have e1 : zCB T own o σ.env = none :=(by simp only [zCB,ho,ha,hts,pLen,ht,hy]);have e2 : zDL T own o σ = none :=(by simp only [zDL,ho,ha,hts,ht,hy,hh]);simp only [step1,e1,zCh,e2,zDm,ho,ha,hts,ht,hy,hh]
theorem zVD {own : Bool} {t q sz r off : Nat} {y : Operand} (ho : o.op = .load t y) (hy : opd T σ.env 0 y = .rp q sz r off) : step1 T own o σ = none ∧ callOf T Γ o σ.env = none ∧ zC1 T o σ.env = none:=by
 have e1 : zCB T own o σ.env = none :=(by simp only [zCB,ho,hy]);have e2 : zDL T own o σ = none :=(by simp only [zDL,ho,hy]);have e3 : zDm T o σ = none :=(by simp only [zDm,ho]);exact ⟨by simp only [step1,e1,zCh,e2,e3],by simp only [callOf,ho],by simp only [zC1,ho]⟩
theorem zWm {t : Nat} {y : Operand} (ho : o.op = .load t y) : nilQ T o σ.env = none:=by simp only [nilQ,ho]
theorem zPN {t q sz r off kk : Nat} {y : Operand} {rows : List (List AV)} {c : AV} (hg : o.guard = none) (hd : o.dst = some d) (hN : Nat.blt d N = true) (hn : dIn (some d) nm = false) (ho : o.op = .load t y) (hy : opd T σ.env 0 y = .rp q sz r off)
  (hh : σ.hp q = some (.arow kk sz rows)) (hr : r < rows.length) (hc : zOs T t ((rows.getD r []).drop off) = some c) (h : zDw T Γ M nm N all os (σ.putN d c) K) : zDw T Γ M nm N all (o :: os) σ K:=by
 obtain ⟨e1,e2,e3⟩:=zVD (Γ:=Γ) (own:=dIn (some d) M) ho hy;unfold zDw;rw [hg,hd]
 dsimp only;rw [hN,e2,hn,e1,zWm ho]
 have hz : Nat.beq sz sz = true:=Nat.beq_refl sz;simp only [zGu,e3,zIT,ho,hy,hh,hz]
 exact ⟨hr,_,rfl,by rw [hc]; exact zQb h⟩
end
end Go.Abs
namespace Go.Abs
inductive Rd (hp : Nat → Option Ob) : AV → S → Prop
 | s (x : S) : Rd hp (.s x) x
 | nl (sz : Nat) : Rd hp (.nl sz) (.sl sz [])
 | row {k e sz : Nat} {rows : List (List S)} (h : hp k = some (.row e sz rows)) : Rd hp (.orow k) (.sl sz rows)
 | arow {k e sz : Nat} {rows : List (List AV)} {rs : List (List S)} (h : hp k = some (.arow e sz rows)) (hl : rows.length = rs.length) (hr : ∀ r ∈ rs,r.length = sz)
   (hc : ∀ (i : Nat) x s,rows.flatten[i]? = some x → rs.flatten[i]? = some s → Rd hp x s) : Rd hp (.orow k) (.sl sz rs)
 | box {k off bt : Nat} {cells : List AV} {ss : List S} (h : hp k = some (.box bt cells)) (hl : cells.length = ss.length)
   (hc : ∀ (i : Nat) x s,cells[i]? = some x → ss[i]? = some s → Rd hp x s) : Rd hp (.op k off) (.pt (ss.drop off))
 | el {k e sz i off : Nat} {rows : List (List AV)} {rs : List (List S)} (h : hp k = some (.arow e sz rows)) (hl : rows.length = rs.length) (hr : ∀ r ∈ rs,r.length = sz) (hi : i < rs.length)
   (hc : ∀ (i : Nat) x s,rows.flatten[i]? = some x → rs.flatten[i]? = some s → Rd hp x s) : Rd hp (.rp k sz i off) (.pt ((rs.getD i []).drop off))
def allG (G : Nat → Prop) (β : Nat → Value) (hp : Nat → Option Ob) (b : Nat) : Prop:=G b ∨ ∃ k ob,hp k = some ob ∧ blk (β k) = some b
theorem Rd.rep {c : Cx} {G : Nat → Prop} {β : Nat → Value} {σ : St} {a : Act} {w : World} (hc : Conc c G β σ a w) {x : AV} {s : S} (h : Rd σ.hp x s) : ∀ {v : Value},AVal G w β x v → Rep (allG G β σ.hp) w s v:=by
 have hk : Keep G (allG G β σ.hp) w w:=⟨fun _ h=>.inl h,fun _ _=>rfl⟩
 induction h with
 | s x=>intro v hv; simp only [AVal] at hv; exact hv.keep hk
 | nl sz=>intro v hv; simp only [AVal] at hv; subst hv; simp [Rep]
 | @row k e sz rows h =>
  intro v hv;simp only [AVal] at hv;obtain ⟨hlen,hsz,ho⟩:=hc.hp k _ h;rw [hv.1]
  rcases ho with ⟨h1,rfl⟩ | ⟨b,cap,cur,h1,h2,h3,h4,h5,h6,h7⟩
  ·rw [h1]; simp [Rep]
  ·rw [h1]
   simp only [Rep]
   refine .inr ⟨b,0,cap,rfl,h2,zCl hlen (RepRow.mk fun i s hi=>⟨.inr ⟨k,_,h,by rw [h1]; rfl⟩,?_⟩)⟩
   obtain ⟨u,hu,hr⟩:=h7 i s hi;exact ⟨u,by simp [World.cell?,h4,hu],hr.keep hk⟩
 | @arow k e sz rows rs h hl hr hcc ih =>
  intro v hv;simp only [AVal] at hv;obtain ⟨hlen,hsz,ho⟩:=hc.hp k _ h;rw [hv.1]
  rcases ho with ⟨h1,rfl⟩ | ⟨b,cap,cur,h1,h2,h3,h4,h5,h6,h7⟩
  ·obtain rfl : rs = []:=List.length_eq_zero_iff.1 (by simpa using hl.symm)
   rw [h1]; simp [Rep]
  ·rw [h1]
   simp only [Rep]
   refine .inr ⟨b,0,cap,by rw [hl],by rw [← hl]; exact h2,zCl hr (RepRow.mk fun i s hi=>⟨.inr ⟨k,_,h,by rw [h1]; rfl⟩,?_⟩)⟩
   have hfl:=zA2 hlen;have hfs:=zA2 hr;have hil : i < rows.flatten.length :=(by rw [hfl,hl,← hfs]; exact (List.getElem?_eq_some_iff.1 hi).1);obtain ⟨u,hu,hr',_⟩:=h7 i _ (List.getElem?_eq_getElem hil)
   exact ⟨u,by simp [World.cell?,h4,hu],ih i _ s (List.getElem?_eq_getElem hil) hi hr'⟩
 | @box k off bt cells ss h hl hcc ih =>
  intro v hv;simp only [AVal] at hv;obtain ⟨b,e,cur,h1,h2,h3,h4,h5,h6⟩:=hc.hp k _ h;obtain ⟨b',hβ,rfl⟩:=hv;rw [h1] at hβ; cases hβ
  simp only [Rep]
  have hrow : RepRow (allG G β σ.hp) w b ss 0:=RepRow.mk fun i s hi=>by
   refine ⟨.inr ⟨k,_,h,by rw [h1]; rfl⟩,?_⟩
   have hil : i < cells.length :=(by rw [hl]; exact (List.getElem?_eq_some_iff.1 hi).1);obtain ⟨u,hu,hr⟩:=h5.get (List.getElem?_eq_getElem hil)
   rw [Array.getElem?_toList] at hu;exact ⟨u,by simp [World.cell?,h2,hu],ih i _ s (List.getElem?_eq_getElem hil) hi hr⟩
  exact ⟨b,off,rfl,by simpa using hrow.drop off⟩
 | @el k e sz i off rows rs h hl hr hi hcc ih =>
  intro v hv;simp only [AVal] at hv;obtain ⟨b,n,cp,hβ,rfl⟩:=hv;obtain ⟨hlen,hsz,ho⟩:=hc.hp k _ h;rcases ho with ⟨h1,rfl⟩ | ⟨b',cap,cur,h1,h2,h3,h4,h5,h6,h7⟩
  ·simp at hl; omega
  rw [hβ] at h1; cases h1
  simp only [Rep]
  refine ⟨b,i * sz + off,rfl,?_⟩
  have hfl:=zA2 hlen;have hfs:=zA2 hr;have hrow : RepRow (allG G β σ.hp) w b rs.flatten 0:=RepRow.mk fun q s hq=>by
   refine ⟨.inr ⟨k,_,h,by rw [hβ]; rfl⟩,?_⟩
   have hil : q < rows.flatten.length :=(by rw [hfl,hl,← hfs]; exact (List.getElem?_eq_some_iff.1 hq).1);obtain ⟨u,hu,hr',_⟩:=h7 q _ (List.getElem?_eq_getElem hil)
   exact ⟨u,by simp [World.cell?,h4,hu],ih q _ s (List.getElem?_eq_getElem hil) hq hr'⟩
  have hrows:=(zCl hr hrow).get (i:=i) (r:=rs[i]) (List.getElem?_eq_getElem hi)
  have hg : rs.getD i [] = rs[i] :=(by simp [List.getElem?_eq_getElem hi]);rw [hg]
  have:=hrows.2.drop off
  simpa using this
def RdV (hp : Nat → Option Ob) : AV → AV → Prop
 | x,.s y=>Rd hp x y
 | .agg xs,.agg ys=>xs.length = ys.length ∧ ∀ (i : Nat) x y,xs[i]? = some x → ys[i]? = some y → ∃ s,y = .s s ∧ Rd hp x s
 | _,.junk=>True
 | _,_=>False
theorem RdV.aval {c : Cx} {G : Nat → Prop} {β : Nat → Value} {σ : St} {a : Act} {w : World} (hc : Conc c G β σ a w) {x y : AV} (h : RdV σ.hp x y) {v : Value} (hv : AVal G w β x v) : AVal (allG G β σ.hp) w β y v:=by
 unfold RdV at h;split at h
 ·simp only [AVal]; exact h.rep hc hv
 ·simp only [AVal] at hv ⊢;obtain ⟨vs,rfl,hvs⟩:=hv;refine ⟨vs,rfl,AVals.mk (by rw [← h.1]; exact hvs.length) fun i y u hy hu=>?_⟩
  rename_i xs ys
  have hil : i < xs.length :=(by rw [h.1]; exact (List.getElem?_eq_some_iff.1 hy).1);obtain ⟨s,rfl,hs⟩:=h.2 i _ y (List.getElem?_eq_getElem hil) hy;obtain ⟨u',hu',hr⟩:=hvs.get (List.getElem?_eq_getElem hil)
  rw [hu] at hu'; cases hu'
  simp only [AVal]; exact hs.rep hc hr
 ·simp only [AVal]
 ·exact h.elim
def RdL (hp : Nat → Option Ob) (env : Nat → AV) : List (Nat × AV) → Prop
 | []=>True
 | (t,y) :: r=>RdV hp (env t) y ∧ RdL hp env r
theorem RdL.get {c : Cx} {G : Nat → Prop} {β : Nat → Value} {σ : St} {a : Act} {w : World} (hc : Conc c G β σ a w) : ∀ {l : List (Nat × AV)},RdL σ.hp σ.env l → ∀ t,AVal (allG G β σ.hp) w β (ofL l t) (a.tmps.getD t undef)
 | [],_,t=>by simp only [ofL,AVal]
 | (u,y) :: r,h,t=>by
  simp only [ofL]
  cases e : Nat.beq t u with
  | true=>obtain rfl:=Nat.eq_of_beq_eq_true e; exact h.1.aval hc (hc.env t)
  | false=>exact RdL.get hc h.2 t
def zVm : List (Nat × AV) → Bool
 | []=>true
 | (_,y) :: r=>(y.pers || (match y with | .junk=>true | _=>false)) && zVm r
theorem zSo {n : Nat} : ∀ {l : List (Nat × AV)},zVm l = true → ∀ t,(ofL l t).lt n = true
 | [],_,t=>rfl
 | (u,y) :: r,h,t=>by
  simp only [zVm,Bool.and_eq_true,Bool.or_eq_true] at h;simp only [ofL]
  cases Nat.beq t u with
  | true =>
   rcases h.1 with h1 | h1
   ·exact AV.pers_lt h1
   ·cases y <;> simp at h1
    rfl
  | false=>exact zSo h.2 t
theorem Le.giveWhole {c : Cx} {σ : St} (l : List (Nat × AV)) (h : RdL σ.hp σ.env l) (hp : zVm l = true) : Le c σ ⟨ofL l,fun _=>none,σ.nx⟩:=by
 unfold Le;intro G β a w hc;have hk : Keep G (allG G β σ.hp) w w:=⟨fun _ h=>.inl h,fun _ _=>rfl⟩
 refine ⟨allG G β σ.hp,β,{ defers:=hc.defers,size:=hc.size,env:=RdL.get hc h,envlt:=zSo hp,hp:=fun k ob hk=>(by cases hk),hplt:=fun k ob hk=>(by cases hk),inj:=fun k k' ob ob' hk=>(by cases hk),lt:=fun b hb=>?_,sub:=fun b hb=>.inl (hc.sub b hb),new:=fun b hb=>?_,fr:=hc.fr,stay:=hc.stay,glob:=hc.glob.keep hk }⟩
 ·rcases hb with hb | ⟨k,ob,h1,h2⟩
  ·exact hc.lt b hb
  ·exact hc.blk_lt h1 h2
 ·rcases hb with hb | ⟨k,ob,h1,h2⟩
  ·exact hc.new b hb
  ·exact .inr (row_block (hc.hp k ob h1) b h2).2
end Go.Abs
namespace Go.Abs
def zAP (L : List (List Int)) : List (List AV):=L.map fun r=>[.s (.sl 1 (r.map (irow .i64)))]
def nils (k : Nat) : List (List AV):=List.replicate k [.s (.sl 1 [])]
theorem zWc {α β : Type} (f : α → β) : ∀ (l : List α),(l.map fun r=>[f r]).flatten = l.map f
 | []=>rfl
 | x :: l=>by simp [zWc f l]
theorem zQI {hp : Nat → Option Ob} {k e : Nat} {L : List (List Int)} (h : hp k = some (.arow e 1 (zAP L))) : Rd hp (.orow k) (.sl 1 (L.map fun r=>[S.sl 1 (r.map (irow .i64))])) :=
 .arow h (by simp [zAP]) (fun r hr=>by obtain ⟨r',_,rfl⟩:=List.mem_map.1 hr; rfl) fun i x s hx hs=>by
  have e1 : (zAP L).flatten = L.map fun r=>AV.s (.sl 1 (r.map (irow .i64))):=zWc _ L
  have e2 : (L.map fun r=>[S.sl 1 (r.map (irow .i64))]).flatten = L.map fun r=>S.sl 1 (r.map (irow .i64)):=zWc _ L
  rw [e1,List.getElem?_map] at hx;rw [e2,List.getElem?_map] at hs;cases hi : L[i]? with
  | none=>rw [hi] at hx; cases hx
  | some r =>
   rw [hi] at hx hs;cases hx; cases hs
   exact .s _
theorem zSA (m : Nat) : (List.replicate m [S.sl 1 []]).map (·.map AV.s) = nils m:=by simp [nils]
theorem zFO {ρ : List (Nat × Nat)} (L : List (List Int)) : (zAP L).map (AV.renAll ρ) = zAP L:=by
 simp [zAP,AV.renAll,AV.ren]
theorem zG8 {ρ : List (Nat × Nat)} (m : Nat) : (nils m).map (AV.renAll ρ) = nils m:=by
 simp [nils,AV.renAll,AV.ren]
theorem zVd {n : Nat} {l : List AV} (h : ∀ x ∈ l,∃ s,x = AV.s s) : AV.ltAll n l = true:=zFo fun x hx=>by obtain ⟨s,rfl⟩:=h x hx; rfl
theorem zGZ {n k : Nat} {L : List (List Int)} : AV.ltAll n (nils k ++ zAP L).flatten = true:=zVd fun x hx=>by
 simp only [nils,zAP,List.mem_flatten,List.mem_append,List.mem_replicate,List.mem_map] at hx;obtain ⟨l,(⟨_,rfl⟩ | ⟨r,_,rfl⟩),hx⟩:=hx
 ·exact ⟨_,List.mem_singleton.1 hx⟩
 ·exact ⟨_,List.mem_singleton.1 hx⟩
theorem zJ8 {n : Nat} : ∀ {xs ys : List AV},AV.ltAll n (xs ++ ys) = (AV.ltAll n xs && AV.ltAll n ys)
 | [],_=>rfl
 | x :: xs,ys=>by simp [AV.ltAll,zJ8 (xs:=xs),Bool.and_assoc]
theorem lt_1 {n k q : Nat} {L : List (List Int)} : AV.ltAll n (nils k ++ [.orow q] :: zAP L).flatten = decide (q < n):=by
 have h1 : AV.ltAll n (nils k).flatten = true :=(by have:=zGZ (n:=n) (k:=k) (L:=[]); simpa [zAP] using this);have h2 : AV.ltAll n (zAP L).flatten = true:=zGZ (k:=0)
 rw [List.flatten_append,List.flatten_cons,zJ8,zJ8,h1,h2]
 simp [AV.ltAll,AV.lt]
theorem lt_p {n : Nat} {L : List (List Int)} : AV.ltAll n (zAP L).flatten = true:=zGZ (k:=0)
theorem zEj {k : Nat} {x : List AV} {l : List (List AV)} : (nils k ++ x :: l).getD k [] = x:=by
 simp [nils,List.getD_eq_getElem?_getD,List.getElem?_append]
theorem zJ6 {k : Nat} {x y : List AV} {l : List (List AV)} : (nils k ++ x :: y :: l).getD (k + 1) [] = y:=by
 simp [nils,List.getD_eq_getElem?_getD,List.getElem?_append]
theorem zSx {k : Nat} {x : List AV} {L : List (List Int)} : (nils (k + 1) ++ zAP L).set k x = nils k ++ x :: zAP L:=by
 have : nils (k + 1) ++ zAP L = nils k ++ [.s (.sl 1 [])] :: zAP L :=(by simp [nils,List.replicate_succ']);rw [this,List.set_append_right _ _ (by simp [nils])]
 simp [nils]
theorem zPT {k : Nat} {L : List (List Int)} : (nils (k + 1) ++ zAP L).getD k [] = [.s (.sl 1 [])]:=by
 have : nils (k + 1) ++ zAP L = nils k ++ [.s (.sl 1 [])] :: zAP L :=(by simp [nils,List.replicate_succ']);rw [this,zEj]
theorem zDU {l : List Int} {i : Nat} {v : Int} (h : l[i]? = some v) : (l.map (irow .i64)).getD i [] = [.int .i64 v]:=by
 simp [List.getD_eq_getElem?_getD,h,irow]
theorem zGY (l : List Int) : (l.map (irow .i64)).length = l.length:=List.length_map ..
theorem zG7 {e : Nat} {k q : Nat} {L : List (List Int)} (ρ : List (Nat × Nat)) (h : look q ρ = some q) : (Ob.arow e 1 (nils k ++ [.orow q] :: zAP L)).ren ρ = .arow e 1 (nils k ++ [.orow q] :: zAP L):=by
 simp [Ob.ren,zG8,zFO,AV.renAll,AV.ren,h]
theorem zSr {e : Nat} {k : Nat} {L : List (List Int)} (ρ : List (Nat × Nat)) : (Ob.arow e 1 (nils k ++ zAP L)).ren ρ = .arow e 1 (nils k ++ zAP L):=by
 simp [Ob.ren,zG8,zFO]
theorem zOZ {l : List Int} {j : Nat} {v x : Int} (h : l[j]? = some v) : (l.map (irow .i64)).set j (((l.map (irow .i64)).getD j []).take 0 ++ [.int .i64 x] ++ ((l.map (irow .i64)).getD j []).drop (0 + 1)) = (l.set j x).map (irow .i64):=by
 rw [zDU h,List.map_set]; rfl
theorem zLj {j : Nat} {x : Int} (l : List Int) : (List.replicate (j + 1) 0 ++ l).set j x = List.replicate j 0 ++ x :: l:=by
 rw [List.replicate_succ',List.append_assoc,List.set_append_right _ _ (by simp)]
 simp
theorem zXa {e : Nat} {a q : Nat} {r : List Int} {L : List (List Int)} {p : Nat → AV} (ρ : List (Nat × Nat)) (h : Nat.beq q q = true) : (Ob.frz q (.s (.sl 1 (r.map (irow .i64)))) p (.arow e 1 (nils a ++ [.orow q] :: zAP L))).ren ρ = .arow e 1 (nils a ++ zAP (r :: L)):=by
 simp [Ob.frz,Ob.ren,nils,zAP,AV.frzAll,AV.frz,AV.renAll,AV.ren,h]
theorem zWQ {e : Nat} {a q : Nat} {L : List (List Int)} (r : AV) (p : Nat → AV) (ρ : List (Nat × Nat)) : (Ob.frz q r p (.arow e 1 (nils a ++ zAP L))).ren ρ = .arow e 1 (nils a ++ zAP L):=by
 simp [Ob.frz,Ob.ren,nils,zAP,AV.frzAll,AV.frz,AV.renAll,AV.ren]
theorem Le.forgetH {c : Cx} {σ : St} (l : List (Nat × AV)) (hp' : Nat → Option Ob) (n : Nat) (h : holds σ.env l) (hh : ∀ k,σ.hp k = hp' k) (hn : σ.nx = n) : Le c σ ⟨ofL l,hp',n⟩:=by
 obtain rfl : σ.hp = hp':=funext hh;subst hn;exact Le.forget l h
end Go.Abs
namespace Go.Abs
theorem PSound.ofOwn {P : Program} {f : Nat} {R : List AV → List Ob → AV → List (Option Ob) → Prop} (hcall : ∀ args w,(callFunc f args).run P w = .ok (.enter f args) w) (h : zK6 P f R) : PSound P f (zB6 R) :=
 ⟨hcall,fun _ _ _ _ _ _ _ _ _ hs=>hs.elim,fun R' hR'=>(by
  obtain rfl : R = R' :=(by simpa [zB6] using hR');exact h),fun R hR=>(by cases hR)⟩
def zVi (s : zAt) : List AV → List Ob → AV → List (Option Ob) → Prop:=match s.own with | some R=>R | none=>fun _ _ _ _=>False
def orS (s t : zAt) : zAt:=zB6 fun xs os x os'=>zVi s xs os x os' ∨ zVi t xs os x os'
theorem zQC {P : Program} {f : Nat} {s t : zAt} (hs : PSound P f s) (ht : PSound P f t) : PSound P f (orS s t) :=
 PSound.ofOwn hs.1 fun G w β xs vs os x os' h1 h2 h3 h4 h5 h6=>by
  rcases h6 with h6 | h6
  ·unfold zVi at h6;cases hR : s.own with
   | none=>rw [hR] at h6; exact h6.elim
   | some R=>rw [hR] at h6; exact hs.2.2.1 R hR G w β xs vs os x os' h1 h2 h3 h4 h5 h6
  ·unfold zVi at h6;cases hR : t.own with
   | none=>rw [hR] at h6; exact h6.elim
   | some R=>rw [hR] at h6; exact ht.2.2.1 R hR G w β xs vs os x os' h1 h2 h3 h4 h5 h6
structure Wrote (b off : Nat) (v : Value) (cur : Array Value) (e : Nat) (w w' : World) : Prop where
 os : w'.os = w.os
 tape : w'.tape = w.tape
 output : w'.output = w.output
 size : w'.heap.size = w.heap.size
 old : ∀ i,i ≠ b → w'.heap[i]? = w.heap[i]?
 new : w'.heap[b]? = some (.cells (cur.setIfInBounds off v) e (0,0))
theorem Wrote.cell {b off e : Nat} {v : Value} {cur : Array Value} {w : World} (h : w.heap[b]? = some (.cells cur e (0,0))) : Wrote b off v cur e w (w.setCell ⟨b,off,none⟩ v) :=
 ⟨rfl,rfl,rfl,by simp [World.setCell],fun i hi=>by
  simp only [World.setCell,Array.getElem?_modify]
  rw [if_neg (Ne.symm hi)],by simp [World.setCell,Array.getElem?_modify,h]⟩
theorem Wrote.same {b off e : Nat} {v : Value} {cur : Array Value} {w : World} (h : w.heap[b]? = some (.cells cur e (0,0))) (hc : cur[off]? = some v) : Wrote b off v cur e w w :=
 ⟨rfl,rfl,rfl,rfl,fun _ _=>rfl,by
  rw [h]
  have : cur.setIfInBounds off v = cur:=by
   apply Array.ext
   ·simp
   ·intro i h1 h2;rw [Array.getElem_setIfInBounds (by simpa using h2)]
    split
    ·rename_i e; subst e
     rw [Array.getElem?_eq_getElem h2] at hc;exact (Option.some.inj hc).symm
    ·rfl
  rw [this]⟩
theorem zTV {G : Nat → Prop} {w w' : World} {b : Nat} (hb : ¬ G b) (h : ∀ i,i ≠ b → w'.heap[i]? = w.heap[i]?) : Keep G G w w':=⟨fun _ h=>h,fun i hi=>h i fun e=>hb (e ▸ hi)⟩
theorem zTp {P : Program} {f D e off : Nat} {cells cells' : List AV} {p : AV} (hoff : cells[off]? = some p) (hp : p = .s .np ∨ p = .op 0 off) (hrow : cells[off + 1]? = some (.orow 1))
  (hc' : cells' = (cells.set off (.op 0 off)).set (off + 1) (.orow 2)) (hpers : ∀ (i : Nat) x,cells[i]? = some x → i ≠ off → i ≠ off + 1 → x.pers = true)
  (hwalk : ∀ (b : Nat) (w : World) (cur : Array Value),w.heap[b]? = some (.cells cur D (0,0)) → cur.size = cells.length → (p = .s .np → cur[off]? = some (.pointer none)) → (p = .op 0 off → cur[off]? = some (.pointer (some ⟨b,off,none⟩))) →
   Calls P f #[.pointer (some ⟨b,off,none⟩)] w fun e w'=>e = .returned (.tuple #[]) ∧ Wrote b off (.pointer (some ⟨b,off,none⟩)) cur D w w') :
  zK6 P f fun xs os x os'=>∃ bs,xs = [.op 0 off] ∧ os = [.box D cells,.row e 1 bs] ∧ x = .tup [] ∧ os' = [some (.box D cells'),none,some (.row e 1 bs)]:=by
 rintro G w β xs vs os x os' hlt hgl hv hxl hobs ⟨bs,rfl,rfl,rfl,rfl⟩
 obtain ⟨hob0,_⟩:=hobs.1 0 (.box D cells) rfl;obtain ⟨hob1,_⟩:=hobs.1 1 (.row e 1 bs) rfl;have hdis : ∀ b,blk (β 0) = some b → blk (β 1) ≠ some b:=fun b=>hobs.2 0 1 (.box D cells) (.row e 1 bs) rfl rfl (by decide) b
 obtain ⟨b,e',cur,h1,h2,h3,h4,h5,h6,rfl⟩:=hob0;simp only [AVals,AVal] at hv;obtain ⟨v,vs',rfl,⟨b',hb',rfl⟩,rfl⟩:=hv;have hbb : b' = b :=(by rw [h1] at hb'; simpa using hb'.symm);subst hbb;have hsz : cur.size = cells.length :=(by simpa using h5.length);have hval : ∀ v,cur[off]? = some v → AVal G w β p v:=fun v hv=>by
  obtain ⟨u,hu,hr⟩:=h5.get hoff;rw [Array.getElem?_toList,hv] at hu; cases hu; exact hr
 have hin : off < cur.size :=(by rw [hsz]; exact (List.getElem?_eq_some_iff.1 hoff).1);refine (hwalk b' w cur h2 hsz (fun e=>?_) (fun e=>?_)).mono fun e2 w' ⟨he,hw⟩=>?_
 ·have:=hval _ (Array.getElem?_eq_getElem hin)
  rw [e] at this;simp only [AVal,Rep] at this;rw [Array.getElem?_eq_getElem hin,this]
 ·have:=hval _ (Array.getElem?_eq_getElem hin)
  rw [e] at this;simp only [AVal] at this;obtain ⟨b2,hb2,hv2⟩:=this;rw [h1] at hb2; cases hb2
  rw [Array.getElem?_eq_getElem hin,hv2]
 ·have hk : Keep G G w w':=zTV h3 hw.old
  let β' : Nat → Value:=fun k=>if k = 2 then β 1 else β k
  have hβ0 : β' 0 = β 0:=if_neg (by decide)
  have hβ2 : β' 2 = β 1:=if_pos rfl;have hpp : AVals G w' β' cells' (cur.setIfInBounds off (.pointer (some ⟨b',off,none⟩))).toList:=by
   rw [hc']
   refine AVals.mk (by simp [hsz]) fun i x v hx hv=>?_
   rw [Array.getElem?_toList,Array.getElem?_setIfInBounds] at hv;rw [List.getElem?_set] at hx;split at hx
   ·rename_i hi
    subst hi;split at hx
    ·cases hx;rw [if_neg (by omega)] at hv;obtain ⟨u,hu,hr⟩:=h5.get hrow;rw [Array.getElem?_toList,hv] at hu; cases hu
     simp only [AVal] at hr ⊢;rw [hβ2]; exact hr
    ·cases hx
   ·rename_i hi
    rw [List.getElem?_set] at hx;split at hx
    ·rename_i hi2
     subst hi2;rw [if_pos rfl] at hv;split at hx
     ·cases hx;rw [if_pos hin] at hv;cases hv;simp only [AVal]
      exact ⟨b',by rw [hβ0]; exact h1,rfl⟩
     ·cases hx
    ·rename_i hi2
     rw [if_neg hi2] at hv;obtain ⟨u,hu,hr⟩:=h5.get hx;rw [Array.getElem?_toList,hv] at hu; cases hu
     exact AVal.pers (hpers i x hx (Ne.symm hi2) (Ne.symm hi)) (hr.keep hk)
  have hone : ∀ u ∈ (cur.setIfInBounds off (.pointer (some ⟨b',off,none⟩))).toList,u.oneCell' = true:=fun u hu=>by
   obtain ⟨i,hi⟩:=List.getElem?_of_mem hu;rw [Array.getElem?_toList,Array.getElem?_setIfInBounds] at hi;split at hi
   ·first | (cases hi; rfl) | (split at hi <;> first | (cases hi; rfl) | cases hi)
   ·exact h6 u (List.mem_of_getElem? (by rw [Array.getElem?_toList]; exact hi))
  have hX : (zEJ P w β 2 G 0).X b':=⟨0,by decide,by rw [h1]; rfl⟩
  have hltc : AV.ltAll 3 cells' = true:=by
   rw [hc']
   refine zDg fun q y hq=>?_
   rw [List.getElem?_set] at hq;split at hq
   ·split at hq
    ·cases hq; rfl
    ·cases hq
   ·rename_i hi
    rw [List.getElem?_set] at hq;split at hq
    ·split at hq
     ·cases hq; rfl
     ·cases hq
    ·rename_i hi2
     exact AV.pers_lt (hpers q y hq (Ne.symm hi2) (Ne.symm hi))
  refine ⟨.tuple #[],G,β',he,⟨hw.os,hw.tape,hw.output,by rw [hw.size]; exact Nat.le_refl _,fun i hi hx=>hw.old i fun e=>hx (e ▸ hX)⟩,fun _ h=>h,fun _ h=>.inl h,fun i hi=>by rw [hw.size]; exact hlt i hi,
   ⟨[],rfl,by simp only [AVals]⟩,rfl,(show 2 ≤ 3 by decide),⟨fun i ob hi=>?_,fun i j ob ob' hi hj hne bb hbi=>?_⟩,fun i ob hi ho=>?_⟩
  ·match i,hi with
   | 0,hi =>
    cases hi;refine ⟨⟨b',_,_,by rw [hβ0]; exact h1,hw.new,h3,h4,hpp,hone,rfl⟩,by simpa [Ob.lt] using hltc⟩
   | 1,hi=>cases hi
   | 2,hi =>
    cases hi;refine ⟨?_,rfl⟩
    rw [hβ2]
    obtain ⟨g1,g2,g3⟩:=hob1;refine ⟨g1,g2,g3.imp id ?_⟩
    rintro ⟨bg,cap,gc,k1,k2,k3,k4,k5,k6,k7⟩
    have hne : bg ≠ b':=fun e=>hdis b' (by rw [h1]; rfl) (by rw [k1,e]; rfl)
    exact ⟨bg,cap,gc,k1,k2,k3,(hw.old bg hne).trans k4,k5,k6,fun i s hi=>let ⟨u,hu,hr⟩:=k7 i s hi; ⟨u,hu,hr.keep hk⟩⟩
   | k + 3,hi=>simp at hi
  ·match i,j,hi,hj with
   | 0,0,_,_=>exact absurd rfl hne
   | 0,2,_,_=>rw [hβ0] at hbi; rw [hβ2]; exact hdis bb hbi
   | 2,0,_,_=>rw [hβ2] at hbi; rw [hβ0]; exact fun e=>hdis bb e hbi
   | 2,2,_,_=>exact absurd rfl hne
   | 1,_,hi,_=>cases hi
   | _,1,_,hj=>cases hj
   | k + 3,_,hi,_=>simp at hi
   | _,k + 3,_,hj=>simp at hj
  ·match i,hi with
   | 0,_=>exact hβ0
   | 1,_=>cases ho
theorem zRj {P : Program} {f D e off : Nat} {cells cells' : List AV} (hrow : cells[off + 1]? = some (.orow 1)) (hself : cells[off]? = some (.op 0 off))
  (hc' : cells' = cells.set (off + 1) .junk) (hpers : ∀ (i : Nat) x,cells[i]? = some x → i ≠ off → i ≠ off + 1 → x.pers = true)
  (hwalk : ∀ (b g cap : Nat) (l : List UInt8) (w : World) (cur : Array Value),l ≠ [] → w.cell? ⟨b,off + 1,none⟩ = some (.slice (some ⟨g,0,none⟩) l.length cap) → w.heap[g]? = some (.cells cur e (0,0)) → cur.size = cap * 1 → l.length ≤ cap → l.length ≤ 9223372036854775807 →
   (∀ (j : Nat) x,l[j]? = some x → cur[j]? = some (.int .u8 x.toNat)) →
   Calls P f #[.pointer (some ⟨b,off,none⟩)] w fun e w'=>e = .returned (.string ⟨l.toArray⟩) ∧ w' = w.drew.freeze ⟨g,0,none⟩ l.length) :
  zK6 P f fun xs os x os'=>∃ l : List UInt8,l ≠ [] ∧ l.length ≤ 9223372036854775807 ∧ xs = [.op 0 off] ∧ os = [.box D cells,.row e 1 (l.map brow)] ∧ x = .s (.str l) ∧ os' = [some (.box D cells'),none]:=by
 rintro G w β xs vs os x os' hlt hgl hv hxl hobs ⟨l,hl0,hlm,rfl,rfl,rfl,rfl⟩
 obtain ⟨hob0,_⟩:=hobs.1 0 (.box D cells) rfl;obtain ⟨hob1,_⟩:=hobs.1 1 (.row e 1 (l.map brow)) rfl;have hdis : ∀ b,blk (β 0) = some b → blk (β 1) ≠ some b:=fun b=>hobs.2 0 1 (.box D cells) (.row e 1 (l.map brow)) rfl rfl (by decide) b
 obtain ⟨b,e',cur,h1,h2,h3,h4,h5,h6,rfl⟩:=hob0;simp only [AVals,AVal] at hv;obtain ⟨v,vs',rfl,⟨b',hb',rfl⟩,rfl⟩:=hv;have hbb : b' = b :=(by rw [h1] at hb'; simpa using hb'.symm);subst hbb;have hsz : cur.size = cells.length :=(by simpa using h5.length);obtain ⟨g1,g2,g3⟩:=hob1;rcases g3 with ⟨_,hnil⟩ | ⟨g,cap,gc,k1,k2,k3,k4,k5,k6,k7⟩
 ·exact absurd (by simpa using hnil) hl0
 have hgb : g ≠ b':=fun e=>hdis b' (by rw [h1]; rfl) (by rw [k1,e]; rfl)
 have hc1 : cur[off + 1]? = some (β 1):=by
  obtain ⟨u,hu,hr⟩:=h5.get hrow;simp only [AVal] at hr;rw [Array.getElem?_toList] at hu;rw [hu,hr.1]
 have hlen : (l.map brow).length = l.length :=(by simp);refine (hwalk b' g cap l w gc hl0 (by simp [World.cell?,h2,hc1,k1]) k4 k3 (by simpa using k2) hlm (fun j x hx=>?_)).mono fun e2 w' ⟨he,hw⟩=>?_
 ·obtain ⟨u,hu,hr⟩:=k7 j (.int .u8 x.toNat) (by rw [zF3,List.getElem?_map,hx]; rfl)
  simp only [Rep] at hr;rw [hu,hr]
 ·have hold : ∀ i,i ≠ g → w'.heap[i]? = w.heap[i]?:=fun i hi=>by
   rw [hw]
   unfold World.freeze;rw [if_neg (by simpa using hl0)]
   simp only [Array.getElem?_modify]
   rw [if_neg (Ne.symm hi)]; rfl
  have hsize : w'.heap.size = w.heap.size:=by
   rw [hw]; unfold World.freeze; rw [if_neg (by simpa using hl0)]; simp
  have hrest : w'.os = w.os ∧ w'.tape = w.tape ∧ w'.output = w.output:=by
   rw [hw]; unfold World.freeze; rw [if_neg (by simpa using hl0)]; exact ⟨rfl,rfl,rfl⟩
  have hk : Keep G G w w':=zTV k5 hold;have hX : (zEJ P w β 2 G 0).X g:=⟨1,by decide,by rw [k1]; rfl⟩
  have hpp : AVals G w' β cells' cur.toList:=by
   rw [hc']
   refine AVals.mk (by simp [hsz]) fun i x v hx hv=>?_
   rw [List.getElem?_set] at hx;split at hx
   ·split at hx
    ·cases hx; simp only [AVal]
    ·cases hx
   ·obtain ⟨u,hu,hr⟩:=h5.get hx;rw [hv] at hu; cases hu
    exact hr.keep hk
  have hltc : AV.ltAll 2 cells' = true:=by
   rw [hc']
   refine zDg fun q y hq=>?_
   rw [List.getElem?_set] at hq;split at hq
   ·split at hq
    ·cases hq; rfl
    ·cases hq
   ·rename_i hi
    by_cases hi2 : q = off
    ·subst hi2;rw [hself] at hq; cases hq; rfl
    ·exact AV.pers_lt (hpers q y hq hi2 (Ne.symm hi))
  refine ⟨.string ⟨l.toArray⟩,G,β,he,⟨hrest.1,hrest.2.1,hrest.2.2,by rw [hsize]; exact Nat.le_refl _,fun i hi hx=>hold i fun e=>hx (e ▸ hX)⟩,fun _ h=>h,fun _ h=>.inl h,fun i hi=>by rw [hsize]; exact hlt i hi,
   by simp only [AVal,Rep],rfl,(show 2 ≤ 2 by decide),⟨fun i ob hi=>?_,fun i j ob ob' hi hj hne bb hbi=>?_⟩,fun i ob hi ho=>rfl⟩
  ·match i,hi with
   | 0,hi =>
    cases hi;exact ⟨⟨b',_,cur,h1,(hold b' (Ne.symm hgb)).trans h2,h3,h4,hpp,h6,rfl⟩,by simpa [Ob.lt] using hltc⟩
   | 1,hi=>cases hi
   | k + 2,hi=>simp at hi
  ·match i,j,hi,hj with
   | 0,0,_,_=>exact absurd rfl hne
   | 1,_,hi,_=>cases hi
   | _,1,_,hj=>cases hj
   | k + 2,_,hi,_=>simp at hi
   | _,k + 2,_,hj=>simp at hj
end Go.Abs
namespace Go.Abs
section
variable {T : Nat → Option TI} {Γ : Nat → Option zAt} {M nm L : List Nat} {N k n : Nat} {all os : List Oper} {o : Oper} {σ σ' : St} {K : St → Prop} {φ : Option Prop} {x : AV} {d : Nat}
theorem zUB {own : Bool} {t e q kk sz : Nat} {j ti : TI} {y hi : Operand} {n : Int} {ki : IntKind} {rows : List (List AV)} (ho : o.op = .slice t y none (some hi) none) (ht : T t = some ti) (hk : ti.k = .slice e) (hj : T e = some j) (hy : opd T σ.env t y = .orow q)
  (hi' : opd T σ.env 0 hi = .s (.int ki n)) (hh : σ.hp q = some (.arow kk sz rows)) (hz : Nat.beq sz j.size = true) :
  step1 T own o σ = some (some (0 ≤ n ∧ n ≤ rows.length),.orow σ.nx,zB4 (zFQ σ q) (.arow kk sz (rows.take n.toNat))):=by
 have e1 : zCB T own o σ.env = none :=(by simp only [zCB,ho,zMd,hy,AV.nrm,ht,hk,Option.map_none,Option.map_some,hi']);have e2 : zDL T own o σ = none :=(by simp only [zDL,ho,elemOf,ht,hk,hj,hy,hi',hh]);simp only [step1,e1,zCh,e2,zDm,ho,elemOf,ht,hk,hj,hy,hi',hh,hz]
theorem zWv {own : Bool} {t tx e q q2 kk kk2 sz sz2 : Nat} {j ti : TI} {args : Array Operand} {ts : Array Nat} {y z : Operand} {rows rows2 : List (List AV)} (ho : o.op = .call { callee:=.builtin .append,args:=args,argTypes:=ts }) (ha : args.toList = [y,z]) (hts : ts.toList = [t,tx])
  (ht : T t = some ti) (hk : ti.k = .slice e) (hj : T e = some j) (htx : tk T tx = .slice e) (hy : opd T σ.env t y = .orow q) (hz : opd T σ.env tx z = .orow q2) (hh : σ.hp q = some (.arow kk sz rows)) (hh2 : σ.hp q2 = some (.arow kk2 sz2 rows2))
  (h1 : Nat.beq sz j.size = true) (h2 : Nat.beq sz2 j.size = true) (h3 : Nat.beq e kk = true) :
  step1 T own o σ = some (some ((rows.length + rows2.length) * j.bytes ≤ 140737488355328 ∧ rows.length + rows2.length ≤ 9223372036854775807),.orow σ.nx,zB4 (zFQ σ q) (.arow e sz (rows ++ rows2))):=by
 have e1 : zCB T own o σ.env = none :=(by simp only [zCB,ho]);have e2 : zDL T own o σ = none :=(by simp only [zDL,ho,ha,hts,zIS,elemOf,ht,hk,hj,hy,zKA,hh]);simp only [step1,e1,zCh,e2,zDm,ho,ha,hts,elemOf,ht,hk,hj,hy,hz,zKW,hh,zK4,htx,hh2,h1,h2,h3]
theorem zVB {own : Bool} {t tx e q kk sz sz2 e2 : Nat} {j ti : TI} {args : Array Operand} {ts : Array Nat} {y z : Operand} {rows : List (List AV)} {rows2 : List (List S)} (ho : o.op = .call { callee:=.builtin .copy,args:=args,argTypes:=ts }) (ha : args.toList = [y,z]) (hts : ts.toList = [t,tx])
  (ht : T t = some ti) (hk : ti.k = .slice e) (hj : T e = some j) (htx : tk T tx = .slice e2) (hy : opd T σ.env t y = .orow q) (hz : opd T σ.env tx z = .s (.sl sz2 rows2)) (hh : σ.hp q = some (.arow kk sz rows))
  (h1 : Nat.beq sz j.size = true) (h2 : Nat.beq sz2 j.size = true) :
  step1 T own o σ = some (some ((rows2.map (·.map AV.s)).length = rows.length),.s (.int .i64 (rows.length : Int)),zGl σ q (.arow kk sz (rows2.map (·.map AV.s)))):=by
 have e1 : zCB T own o σ.env = none :=(by simp only [zCB,ho,ha,hts,zUe,hy]);have e2 : zDL T own o σ = none :=(by simp only [zDL,ho]);simp only [step1,e1,zCh,e2,zDm,ho,ha,hts,elemOf,ht,hk,hj,hy,hz,zKW,hh,zK4,htx,h1,h2]
theorem zXc {own : Bool} {t e : Nat} {j ti : TI} {y z : Operand} {n m : Int} {k1 k2 : IntKind} (hw : own = true) (ho : o.op = .makeSlice t y z) (ht : T t = some ti) (hk : ti.k = .slice e) (hj : T e = some j) (hy : opd T σ.env 0 y = .s (.int k1 n)) (hz : opd T σ.env 0 z = .s (.int k2 m)) (h1 : Nat.ble 1 j.size = true)
  (hp : zCB T own o σ.env = none) :
  step1 T own o σ = some (some (0 ≤ n ∧ n ≤ m ∧ m * j.bytes ≤ 281474976710656 ∧ m ≤ 281474976710656),.orow σ.nx,zB4 σ (.row e j.size (List.replicate n.toNat j.zero))):=by
 simp only [step1,hp,zCh,zDL,ho,elemOf,ht,hk,hj,hy,hz,h1]
end
end Go.Abs
namespace Go.Abs
def isL (sz : Nat) (p : AV) : Prop:=(∃ q i,p = .rp q sz i 0) ∨ (∃ q,p = .op q 0)
def zBv : AV → Nat
 | .op q _=>q
 | .rp q _ _ _=>q
 | _=>0
def locO (p : AV) (off : Nat) : AV:=match p with
 | .op q _=>.op q off
 | .rp q sz i _=>.rp q sz i off
 | x=>x
def zAY (hp : Nat → Option Ob) : AV → Option (List AV)
 | .op q 0=>match hp q with | some (.box _ cs)=>some cs | _=>none
 | .rp q sz i 0=>match hp q with | some (.arow _ sz' rows)=>bif Nat.beq sz sz' then rows[i]? else none | _=>none
 | _=>none
def putC (hp : Nat → Option Ob) (p : AV) (c : List AV) (k : Nat) : Option Ob:=match p with
 | .op q _=>match hp q with | some (.box bt _)=>bif Nat.beq k q then some (.box bt c) else hp k | _=>hp k
 | .rp q _ i _=>match hp q with | some (.arow e sz rows)=>bif Nat.beq k q then some (.arow e sz (rows.set i c)) else hp k | _=>hp k
 | _=>hp k
theorem zD3 {k q : Nat} (h : k ≠ q) : Nat.beq k q = false:=by
 cases e : Nat.beq k q with
 | true=>exact absurd (Nat.eq_of_beq_eq_true e) h
 | false=>rfl
theorem zBR {hp : Nat → Option Ob} {p : AV} {c : List AV} {k : Nat} (h : k ≠ zBv p) : putC hp p c k = hp k:=by
 unfold putC;split
 ·rename_i q _
  have h : k ≠ q:=h;split
  ·rw [zD3 h,cond_false]
  ·rfl
 ·rename_i q _ _ _
  have h : k ≠ q:=h;split
  ·rw [zD3 h,cond_false]
  ·rfl
 ·rfl
theorem zFN {hp : Nat → Option Ob} {q o bt : Nat} {cs c : List AV} (h : hp q = some (.box bt cs)) : putC hp (.op q o) c = fun k=>bif Nat.beq k q then some (.box bt c) else hp k:=by
 funext k; simp only [putC,h]
theorem zI2 {hp : Nat → Option Ob} {q s i o e sz : Nat} {rows : List (List AV)} {c : List AV} (h : hp q = some (.arow e sz rows)) : putC hp (.rp q s i o) c = fun k=>bif Nat.beq k q then some (.arow e sz (rows.set i c)) else hp k:=by
 funext k; simp only [putC,h]
theorem zD5 {hp : Nat → Option Ob} {q bt : Nat} {cs : List AV} (h : hp q = some (.box bt cs)) : zAY hp (.op q 0) = some cs:=by simp only [zAY,h]
theorem zFl {hp : Nat → Option Ob} {q e sz i : Nat} {rows : List (List AV)} (h : hp q = some (.arow e sz rows)) : zAY hp (.rp q sz i 0) = rows[i]?:=by simp only [zAY,h,Nat.beq_refl,cond_true]
theorem zCR {hp : Nat → Option Ob} {sz : Nat} {p : AV} {cs : List AV} (hl : isL sz p) (h : zAY hp p = some cs) : (∃ q i e rows,p = .rp q sz i 0 ∧ hp q = some (.arow e sz rows) ∧ rows[i]? = some cs) ∨ ∃ q bt,p = .op q 0 ∧ hp q = some (.box bt cs):=by
 rcases hl with ⟨q,i,rfl⟩ | ⟨q,rfl⟩
 ·simp only [zAY] at h;split at h
  ·rename_i e sz' rows hq
   cases hb : Nat.beq sz sz' with
   | false=>rw [hb] at h; cases h
   | true =>
    rw [hb,cond_true] at h;obtain rfl:=Nat.eq_of_beq_eq_true hb;exact .inl ⟨q,i,e,rows,rfl,hq,h⟩
  ·cases h
 ·simp only [zAY] at h;split at h
  ·rename_i bt cs' hq
   cases h;exact .inr ⟨q,bt,rfl,hq⟩
  ·cases h
theorem zIN {hp : Nat → Option Ob} {sz : Nat} {p : AV} {c cs : List AV} (hl : isL sz p) (h : zAY hp p = some cs) : zAY (putC hp p c) p = some c:=by
 rcases zCR hl h with ⟨q,i,e,rows,rfl,hq,hi⟩ | ⟨q,bt,rfl,hq⟩
 ·rw [zI2 hq,zFl (e:=e) (rows:=rows.set i c) (by simp only [Nat.beq_refl,cond_true]),List.getElem?_set,if_pos rfl,if_pos (List.getElem?_eq_some_iff.1 hi).1]
 ·rw [zFN hq,zD5 (bt:=bt) (cs:=c) (by simp only [Nat.beq_refl,cond_true])]
theorem zCj {hp hp' : Nat → Option Ob} {sz : Nat} {p : AV} (hl : isL sz p) (h : hp' (zBv p) = hp (zBv p)) : zAY hp' p = zAY hp p:=by
 rcases hl with ⟨q',i',rfl⟩ | ⟨q',rfl⟩ <;> (simp only [zBv] at h; simp only [zAY,h])
theorem zUk {hp : Nat → Option Ob} {sz : Nat} {p p' : AV} {c cs : List AV} (hl : isL sz p) (hc : zAY hp p = some cs) (hl' : isL sz p') (hne : p' ≠ p) : zAY (putC hp p c) p' = zAY hp p':=by
 by_cases hb : zBv p' = zBv p
 ·rcases zCR hl hc with ⟨q,i,e,rows,rfl,hq,hi⟩ | ⟨q,bt,rfl,hq⟩
  ·have hp2 : putC hp (.rp q sz i 0) c q = some (.arow e sz (rows.set i c)) :=(by rw [zI2 hq]; simp only [Nat.beq_refl,cond_true]);rcases hl' with ⟨q',i',rfl⟩ | ⟨q',rfl⟩ <;> (simp only [zBv] at hb; subst hb)
   ·have hi : i' ≠ i:=fun e=>hne (by rw [e])
    rw [zFl hp2,zFl hq,List.getElem?_set,if_neg (Ne.symm hi)]
   ·simp only [zAY,hp2,hq]
  ·have hp2 : putC hp (.op q 0) c q = some (.box bt c) :=(by rw [zFN hq]; simp only [Nat.beq_refl,cond_true]);rcases hl' with ⟨q',i',rfl⟩ | ⟨q',rfl⟩ <;> (simp only [zBv] at hb; subst hb)
   ·simp only [zAY,hp2,hq]
   ·exact absurd rfl hne
 ·exact zCj hl' (zBR hb)
theorem zVn {hp : Nat → Option Ob} {sz' : Nat} {p : AV} {c cs : List AV} (hl : isL sz' p) (hc : zAY hp p = some cs) {q e sz : Nat} {rows : List (List AV)} (h : hp q = some (.arow e sz rows)) : ∃ rows',putC hp p c q = some (.arow e sz rows') ∧ rows'.length = rows.length:=by
 by_cases hb : q = zBv p
 ·subst hb;rcases zCR hl hc with ⟨q,i,e',rows',rfl,hq,hi⟩ | ⟨q,bt,rfl,hq⟩
  ·simp only [zBv] at h ⊢;rw [hq] at h; cases h
   rw [zI2 hq]; exact ⟨_,by simp only [Nat.beq_refl,cond_true]; rfl,List.length_set ..⟩
  ·simp only [zBv] at h;rw [hq] at h; cases h
 ·rw [zBR hb]; exact ⟨rows,h,rfl⟩
section
variable {T : Nat → Option TI} {Γ : Nat → Option zAt} {M nm L : List Nat} {N k n : Nat} {all os : List Oper} {o : Oper} {σ σ' : St} {K : St → Prop} {φ : Option Prop} {x : AV} {d : Nat}
theorem zEK {own : Bool} {sz : Nat} {p : AV} {y : Operand} (hl : isL sz p) (ho : o.op = .nilCheck y) (hy : opd T σ.env 0 y = p) : step1 T own o σ = some (none,p,σ):=by
 have e1 : zCB T own o σ.env = some (none,p):=by
  rcases hl with ⟨q,i,rfl⟩ | ⟨q,rfl⟩ <;> simp only [zCB,ho,hy]
 simp only [step1,e1]
theorem zE4 {own : Bool} {sz : Nat} {p : AV} {t f off ft : Nat} {ti j : TI} {fs : List (Nat × Nat)} {y : Operand} (hl : isL sz p) (ho : o.op = .fieldAddr t y f) (hy : opd T σ.env 0 y = p) (ht : T t = some ti) (hk : ti.k = .struct fs) (hf : fs[f]? = some (off,ft)) (hj : T ft = some j) (hz : Nat.ble 1 j.size = true) :
  step1 T own o σ = some (none,locO p off,σ):=by
 have e1 : zCB T own o σ.env = some (none,locO p off):=by
  rcases hl with ⟨q,i,rfl⟩ | ⟨q,rfl⟩ <;> simp only [zCB,ho,hy,zGJ,ht,hk,hf,hj,hz,zM0,locO,Nat.zero_add]
 simp only [step1,e1]
theorem zDR {sz t off : Nat} {ti : TI} {y : Operand} {p c : AV} {cs : List AV} (hg : o.guard = none) (hd : o.dst = some d) (hN : Nat.blt d N = true) (hn : dIn (some d) nm = false) (ho : o.op = .load t y) (ht : T t = some ti) (ha : ti.k.agg = false) (hl : isL sz p) (hy : opd T σ.env 0 y = locO p off)
  (hcs : zAY σ.hp p = some cs) (hc : cs[off]? = some c) (h : zDw T Γ M nm N all os (σ.putN d c) K) : zDw T Γ M nm N all (o :: os) σ K:=by
 rcases zCR hl hcs with ⟨q,i,e,rows,rfl,hq,hi⟩ | ⟨q,bt,rfl,hq⟩
 ·have hgd : rows.getD i [] = cs :=(by rw [List.getD_eq_getElem?_getD,hi]; rfl);refine zPN hg hd hN hn ho hy hq (List.getElem?_eq_some_iff.1 hi).1 (c:=c) ?_ h;simp only [zOs,ht,ha,hgd]
  rw [List.drop_eq_getElem_cons (List.getElem?_eq_some_iff.1 hc).1]
  simp only [(List.getElem?_eq_some_iff.1 hc).2]
 ·have hcall : callOf T Γ o σ.env = none :=(by simp only [callOf,ho]);exact zAe hg hd hN hcall hn (zVC ho ht ha hy hq hc) trivial h
theorem zPO {sz t off : Nat} {ti : TI} {y z : Operand} {p c : AV} {cs : List AV} (hg : o.guard = none) (hd : o.dst = none) (ho : o.op = .store t y z) (ht : T t = some ti) (hs : ti.size = 1) (hl : isL sz p) (hy : opd T σ.env 0 y = locO p off)
  (hcs : zAY σ.hp p = some cs) (hlen : cs.length = sz) (hoff : off < sz) (hz : (opd T σ.env t z).cellsA = [c]) (ho1 : c.one = true) (hlt : c.lt σ.nx = true)
  (h : zDw T Γ M nm N all os { σ with hp:=putC σ.hp p (cs.set off c) } K) : zDw T Γ M nm N all (o :: os) σ K:=by
 have hcall : callOf T Γ o σ.env = none :=(by simp only [callOf,ho]);have hset : cs.take off ++ [c] ++ cs.drop (off + 1) = cs.set off c:=by
  rw [List.set_eq_take_append_cons_drop,if_pos (by omega)]; simp
 have h1 : Nat.ble (off + 1) sz = true:=Nat.ble_eq_true_of_le hoff;rcases zCR hl hcs with ⟨q,i,e,rows,rfl,hq,hi⟩ | ⟨q,bt,rfl,hq⟩
 ·have hgd : rows.getD i [] = cs :=(by rw [List.getD_eq_getElem?_getD,hi]; rfl);have hst:=zQN (T:=T) (own:=dIn none M) (o:=o) (σ:=σ) ho ht hy hq (Nat.beq_refl _) (by rw [hz,hs]; rfl) (by rw [hs]; exact h1) (by rw [hz]; simp [ho1])
  refine zFG hg hd hcall hst (List.getElem?_eq_some_iff.1 hi).1 ?_;rw [hgd,hz,hs,hset]
  rw [zI2 hq] at h;exact h
 ·have hst:=zMp (T:=T) (own:=dIn none M) (o:=o) (σ:=σ) ho ht hy hq (by rw [hz,hs]; rfl) (by rw [hs,hlen]; exact h1) (by rw [hz]; simp [ho1]) (by rw [hz]; simp [AV.ltAll,hlt])
  refine zFG hg hd hcall hst trivial ?_;rw [hz,hs,hset]
  rw [zFN hq] at h;exact h
theorem zGx {sz t : Nat} {ti : TI} {y z : Operand} {p : AV} {cs cs' : List AV} (hg : o.guard = none) (hd : o.dst = none) (ho : o.op = .store t y z) (ht : T t = some ti) (hs : ti.size = sz) (hl : isL sz p) (hy : opd T σ.env 0 y = p)
  (hcs : zAY σ.hp p = some cs) (hlen : cs.length = sz) (hz : (opd T σ.env t z).cellsA = cs') (hlen' : cs'.length = sz) (ho1 : cs'.all AV.one = true) (hlt : AV.ltAll σ.nx cs' = true)
  (h : zDw T Γ M nm N all os { σ with hp:=putC σ.hp p cs' } K) : zDw T Γ M nm N all (o :: os) σ K:=by
 have hcall : callOf T Γ o σ.env = none :=(by simp only [callOf,ho]);have hset : cs.take 0 ++ cs' ++ cs.drop (0 + sz) = cs':=by
  rw [List.drop_eq_nil_of_le (by omega)]; simp
 have h1 : Nat.ble (0 + sz) sz = true:=Nat.ble_eq_true_of_le (by omega)
 have h2 : Nat.beq cs'.length ti.size = true :=(by rw [hlen',hs]; exact Nat.beq_refl _);rcases zCR hl hcs with ⟨q,i,e,rows,rfl,hq,hi⟩ | ⟨q,bt,rfl,hq⟩
 ·have hgd : rows.getD i [] = cs :=(by rw [List.getD_eq_getElem?_getD,hi]; rfl);have hst:=zQN (T:=T) (own:=dIn none M) (o:=o) (σ:=σ) ho ht hy hq (Nat.beq_refl _) (by rw [hz]; exact h2) (by rw [hs]; exact h1) (by rw [hz]; exact ho1)
  refine zFG hg hd hcall hst (List.getElem?_eq_some_iff.1 hi).1 ?_;rw [hgd,hz,hs,hset]
  rw [zI2 hq] at h;exact h
 ·have hst:=zMp (T:=T) (own:=dIn none M) (o:=o) (σ:=σ) ho ht hy hq (by rw [hz]; exact h2) (by rw [hs,hlen]; exact h1) (by rw [hz]; exact ho1) (by rw [hz]; exact hlt)
  refine zFG hg hd hcall hst trivial ?_;rw [hz,hs,hset]
  rw [zFN hq] at h;exact h
theorem zDf {j g : Nat} {want : Bool} (hg : o.guard = some (j,want)) (hj : (all[j]?).bind (·.dst) = some g) (hv : σ.env g = .s (.bool want)) (h : zDw T Γ M nm N all ({ o with guard:=none } :: os) σ K) : zDw T Γ M nm N all (o :: os) σ K:=by
 unfold zDw at h ⊢;dsimp only at h ⊢;split
 ·rename_i h0
  rw [h0] at h;exact h
 ·rename_i h0
  rw [h0] at h;rw [hg]
  dsimp only;rw [hj]
  dsimp only;rw [hv]
  cases want <;> exact h
end
theorem PSound.giveAll {P : Program} {f : Nat} {R : List AV → (Nat → Option Ob) → Nat → (AV → (Nat → Option Ob) → Nat → Prop) → Prop} {S : List AV → Ret → Prop} (h : PSound P f (zPX R))
  (hS : ∀ xs r,S xs r → ∃ y,r = .val y ∧ y.pers = true ∧ R xs (fun _=>none) 0 fun x hp n=>RdV hp x y) : PSound P f (zAG S):=by
 refine ⟨h.1,fun G w xs vs r hlt hgl hp hv hs=>?_,fun R hR=>(by cases hR),fun R hR=>(by cases hR)⟩
 obtain ⟨y,rfl,hy,hR⟩:=hS xs r hs;refine (h.2.2.2 R rfl G w (fun _=>.tuple #[]) xs vs (fun _=>none) 0 _ hlt hgl hv (AV.persAll_lt hp) ⟨fun k ob hk=>(by cases hk),fun k ob hk=>(by cases hk),fun k k' ob ob' hk=>(by cases hk)⟩ hR).mono ?_;rintro e w' ⟨v,G',β',x,hp',n',rfl,hΦ,hn,hfr,hsub,hnew,hlt',hx,hxl,hob,hst⟩
 let c : Cx:=zEU P w (fun _=>.tuple #[]) (fun _=>none) 0 G 0
 have hk : Keep G G' w w':=⟨hsub,fun b hb=>hfr.old b (hlt b hb) (by rintro ⟨k,ob,h,_⟩; cases h)⟩
 have hc : Conc c G' β' ⟨fun _=>.junk,hp',n'⟩ { tmps:=#[],defers:=[] } w':={
  defers:=rfl
  size:=rfl
  env:=fun t=>by simp only [AVal]
  envlt:=fun t=>rfl
  hp:=hob.obs
  hplt:=hob.lts
  inj:=hob.inj
  lt:=hlt'
  sub:=hsub
  new:=hnew
  fr:=hfr
  stay:=⟨hn,hst⟩
  glob:=hgl.keep hk }
 have hmine : ∀ b,c.mine b → w.heap.size ≤ b:=fun b hb=>by
  rcases hb with ⟨k,ob,h,_⟩ | h
  ·cases h
  ·exact h
 refine ⟨v,allG G' β' hp',rfl,⟨hfr.os,hfr.tape,hfr.output,hfr.size,fun b hb=>hfr.old b hb (by rintro ⟨k,ob,h,_⟩; cases h),fun b hb=>.inl (hsub b hb),fun b hb=>?_,fun b hb=>?_⟩,hy,(hΦ.aval hc hx).pers hy⟩
 ·rcases hb with hb | ⟨k,ob,h1,h2⟩
  ·exact (hnew b hb).imp id (hmine b)
  ·exact .inr (hmine b (row_block (hc.hp k ob h1) b h2).2)
 ·rcases hb with hb | ⟨k,ob,h1,h2⟩
  ·exact hlt' b hb
  ·exact hc.blk_lt h1 h2
theorem ObAt.give {c : Cx} {G G' : Nat → Prop} {w : World} {β : Nat → Value} {v : Value} {ob : Ob} (hs : ∀ b,G b → G' b) (hng : ∀ b,blk v = some b → ¬ G' b) (h : ObAt c G w β v ob) : ObAt c G' w β v ob:=by
 have hk : Keep G G' w w:=⟨hs,fun _ _=>rfl⟩
 cases ob with
 | box t xs =>
  obtain ⟨b,e,cur,q1,q2,q3,q4,q5,q6⟩:=h;exact ⟨b,e,cur,q1,q2,hng b (by rw [q1]; rfl),q4,q5.keep hk,q6⟩
 | row e sz rows =>
  obtain ⟨q1,q2,q3⟩:=h;refine ⟨q1,q2,q3.imp id ?_⟩
  rintro ⟨b,cap,cur,g1,g2,g3,g4,g5,g6,g7⟩
  exact ⟨b,cap,cur,g1,g2,g3,g4,hng b (by rw [g1]; rfl),g6,fun i s hi=>let ⟨u,hu,hr'⟩:=g7 i s hi; ⟨u,hu,hr'.keep hk⟩⟩
 | arow e sz rows =>
  obtain ⟨q1,q2,q3⟩:=h;refine ⟨q1,q2,q3.imp id ?_⟩
  rintro ⟨b,cap,cur,g1,g2,g3,g4,g5,g6,g7⟩
  exact ⟨b,cap,cur,g1,g2,g3,g4,hng b (by rw [g1]; rfl),g6,fun i x hi=>let ⟨u,hu,hr',h1⟩:=g7 i x hi; ⟨u,hu,hr'.keep hk,h1⟩⟩
theorem RdV.lt {hp : Nat → Option Ob} {x y : AV} (h : RdV hp x y) (n : Nat) : y.lt n = true:=by
 unfold RdV at h;split at h
 ·rfl
 ·rename_i xs ys
  simp only [AV.lt]
  refine zLZ fun q y hq=>?_
  have hil : q < xs.length :=(by rw [h.1]; exact (List.getElem?_eq_some_iff.1 hq).1);obtain ⟨s,rfl,_⟩:=h.2 q _ y (List.getElem?_eq_getElem hil) hq
  rfl
 ·rfl
 ·exact h.elim
def RdK (hp : Nat → Option Ob) (env : Nat → AV) : List (Nat × AV) → Prop
 | []=>True
 | (t,y) :: r=>(y = env t ∨ RdV hp (env t) y) ∧ RdK hp env r
theorem RdK.lt {hp : Nat → Option Ob} {env : Nat → AV} {n : Nat} (he : ∀ t,(env t).lt n = true) : ∀ {l : List (Nat × AV)},RdK hp env l → ∀ t,(ofL l t).lt n = true
 | [],_,t=>rfl
 | (u,y) :: r,h,t=>by
  simp only [ofL]
  cases Nat.beq t u with
  | true =>
   rcases h.1 with h1 | h1
   ·rw [h1]; exact he u
   ·exact h1.lt n
  | false=>exact RdK.lt he h.2 t
theorem Le.givePart {c : Cx} {σ : St} (l : List (Nat × AV)) (hpD hpK : Nat → Option Ob) (hD : ∀ k ob,hpD k = some ob → σ.hp k = some ob) (hK : ∀ k ob,hpK k = some ob → σ.hp k = some ob) (dis : ∀ k ob ob',hpD k = some ob → hpK k = some ob' → False)
  (h : RdK hpD σ.env l) : Le c σ ⟨ofL l,hpK,σ.nx⟩:=by
 unfold Le;intro G β a w hc;have hk : Keep G (allG G β hpD) w w:=⟨fun _ h=>.inl h,fun _ _=>rfl⟩
 have hcD : Conc c G β ⟨σ.env,hpD,σ.nx⟩ a w:={ hc with hp:=fun k ob hk=>hc.hp k ob (hD k ob hk),hplt:=fun k ob hk=>hc.hplt k ob (hD k ob hk),inj:=fun k k' ob ob' hk hk'=>hc.inj k k' ob ob' (hD k ob hk) (hD k' ob' hk') }
 refine ⟨allG G β hpD,β,{ defers:=hc.defers,size:=hc.size,env:=?_,envlt:=RdK.lt hc.envlt h,hp:=fun k ob hk'=>?_,hplt:=fun k ob hk=>hc.hplt k ob (hK k ob hk),inj:=fun k k' ob ob' hk hk'=>hc.inj k k' ob ob' (hK k ob hk) (hK k' ob' hk'),lt:=fun b hb=>?_,sub:=fun b hb=>.inl (hc.sub b hb),new:=fun b hb=>?_,fr:=hc.fr,stay:=hc.stay,glob:=hc.glob.keep hk }⟩
 ·intro t;show AVal (allG G β hpD) w β (ofL l t) (a.tmps.getD t undef)
  induction l with
  | nil=>simp only [ofL,AVal]
  | cons p r ih =>
   obtain ⟨u,y⟩:=p;simp only [ofL]
   cases e : Nat.beq t u with
   | true =>
    obtain rfl:=Nat.eq_of_beq_eq_true e;rcases h.1 with h1 | h1
    ·rw [h1]; exact (hc.env t).keep hk
    ·exact h1.aval hcD (hc.env t)
   | false=>exact ih h.2
 ·refine (hc.hp k ob (hK k ob hk')).give (fun b h=>.inl h) fun b hb hg=>?_
  rcases hg with hg | ⟨k',ob',h1,h2⟩
  ·exact (row_block (hc.hp k ob (hK k ob hk')) b hb).1 hg
  ·by_cases e : k = k'
   ·subst e; exact dis k ob' ob h1 hk'
   ·exact hc.inj k k' ob ob' (hK k ob hk') (hD k' ob' h1) e b hb h2
 ·rcases hb with hb | ⟨k,ob,h1,h2⟩
  ·exact hc.lt b hb
  ·exact hc.blk_lt (hD k ob h1) h2
 ·rcases hb with hb | ⟨k,ob,h1,h2⟩
  ·exact hc.new b hb
  ·exact .inr (row_block (hc.hp k ob (hD k ob h1)) b h2).2
end Go.Abs
namespace Go.Proofs.YtjdhkpdjecegnaaGreatDoor
open Go.Abs
def zBj (k : Int) (t : List UInt8) (c : Int) (v : AV) : List AV:=[.s (.int .i64 k),.s (.str t),.s (.int .i64 c),v]
mutual
def At (hp : Nat → Option Ob) (e : Nat) (p : AV) : Nd → List Nat → List AV → Nat → Prop
 | .mk k t c ks,keys,pd,w=>∃ v,zAY hp p = some (zBj k t c v) ∧
   ((v = .s (.sl 4 (Nd.encs ks)) ∧ keys = [] ∧ pd = [p] ∧ w = Nd.cnts ks + 1) ∨ (ks = [] ∧ v = .s (.sl 4 []) ∧ keys = [] ∧ pd = [] ∧ w = 0) ∨
    ∃ q rows keys',v = .orow q ∧ hp q = some (.arow e 4 rows) ∧ rows.length = ks.length ∧ keys = q :: keys' ∧ LAt hp e q 0 ks keys' pd w)
def LAt (hp : Nat → Option Ob) (e q i : Nat) : List Nd → List Nat → List AV → Nat → Prop
 | [],keys,pd,w=>keys = [] ∧ pd = [] ∧ w = 0
 | t :: ts,keys,pd,w=>∃ k1 k2 p1 p2 w1 w2,keys = k1 ++ k2 ∧ pd = p1 ++ p2 ∧ w = w1 + w2 ∧ At hp e (.rp q 4 i 0) t k1 p1 w1 ∧ LAt hp e q (i + 1) ts k2 p2 w2
end
mutual
theorem At.len {hp : Nat → Option Ob} {e : Nat} {p : AV} : ∀ {t : Nd} {keys : List Nat} {pd : List AV} {w : Nat},At hp e p t keys pd w → pd.length ≤ w ∧ w ≤ t.cnt
 | .mk k t c ks,keys,pd,w,h=>by
  simp only [At] at h
  obtain ⟨v,_,⟨_,_,rfl,rfl⟩ | ⟨_,_,_,rfl,rfl⟩ | ⟨q,rows,keys',_,_,_,_,h⟩⟩:=h
  ·simp [Nd.cnt]
  ·simp
  ·have:=LAt.len h
   simp only [Nd.cnt]; omega
theorem LAt.len {hp : Nat → Option Ob} {e q i : Nat} : ∀ {ts : List Nd} {keys : List Nat} {pd : List AV} {w : Nat},LAt hp e q i ts keys pd w → pd.length ≤ w ∧ w ≤ Nd.cnts ts
 | [],keys,pd,w,h=>by
  simp only [LAt] at h
  obtain ⟨_,rfl,rfl⟩:=h
  simp
 | t :: ts,keys,pd,w,h=>by
  simp only [LAt] at h
  obtain ⟨k1,k2,p1,p2,w1,w2,_,rfl,rfl,h1,h2⟩:=h
  have:=At.len h1
  have:=LAt.len h2
  simp only [Nd.cnts,List.length_append]; omega
end
structure Sim (hp hp' : Nat → Option Ob) (e : Nat) (D : Nat → Prop) (p0 : AV) : Prop where
 row : ∀ q rows,D q → hp q = some (.arow e 4 rows) → ∃ rows',hp' q = some (.arow e 4 rows') ∧ rows'.length = rows.length
 cell : ∀ p,D (zBv p) → p ≠ p0 → isL 4 p → zAY hp' p = zAY hp p
theorem Sim.sub {hp hp' : Nat → Option Ob} {e : Nat} {D D' : Nat → Prop} {p0 : AV} (h : Sim hp hp' e D p0) (hd : ∀ q,D' q → D q) : Sim hp hp' e D' p0 :=
 ⟨fun q rows hq=>h.row q rows (hd q hq),fun p hp=>h.cell p (hd _ hp)⟩
mutual
theorem At.sameQ {hp hp' : Nat → Option Ob} {e : Nat} {p p0 : AV} : ∀ {t : Nd} {keys : List Nat} {pd : List AV} {w : Nat},At hp e p t keys pd w → isL 4 p → Sim hp hp' e (fun k=>k = zBv p ∨ k ∈ keys) p0 → p ≠ p0 → (∀ q j,q ∈ keys → AV.rp q 4 j 0 ≠ p0) → At hp' e p t keys pd w
 | .mk k t c ks,keys,pd,w,h,hl,hs,hne,hb=>by
  simp only [At] at h ⊢
  obtain ⟨v,hc,h⟩:=h
  refine ⟨v,by rw [hs.cell p (.inl rfl) hne hl,hc],?_⟩
  rcases h with h | h | ⟨q,rows,keys',h1,h2,h3,rfl,h5⟩
  ·exact .inl h
  ·exact .inr (.inl h)
  ·obtain ⟨rows',h6,h7⟩:=hs.row q rows (.inr List.mem_cons_self) h2
   exact .inr (.inr ⟨q,rows',keys',h1,h6,h7.trans h3,rfl,LAt.sameQ h5 (hs.sub fun k hk=>.inr (List.mem_cons.2 hk)) (fun j _=>hb q j List.mem_cons_self) (fun q' j hm=>hb q' j (List.mem_cons_of_mem _ hm))⟩)
theorem LAt.sameQ {hp hp' : Nat → Option Ob} {e q i : Nat} {p0 : AV} : ∀ {ts : List Nd} {keys : List Nat} {pd : List AV} {w : Nat},LAt hp e q i ts keys pd w → Sim hp hp' e (fun k=>k = q ∨ k ∈ keys) p0 → (∀ j,i ≤ j → AV.rp q 4 j 0 ≠ p0) → (∀ q' j,q' ∈ keys → AV.rp q' 4 j 0 ≠ p0) → LAt hp' e q i ts keys pd w
 | [],_,_,_,h,_,_,_=>h
 | t :: ts,keys,pd,w,h,hs,hne,hb=>by
  simp only [LAt] at h ⊢
  obtain ⟨k1,k2,p1,p2,w1,w2,rfl,rfl,rfl,h1,h2⟩:=h
  exact ⟨k1,k2,p1,p2,w1,w2,rfl,rfl,rfl,
   At.sameQ h1 (.inl ⟨q,i,rfl⟩) (hs.sub fun k hk=>hk.imp id (List.mem_append_left _)) (hne i (Nat.le_refl _)) (fun q' j hm=>hb q' j (List.mem_append_left _ hm)),
   LAt.sameQ h2 (hs.sub fun k hk=>hk.imp id (List.mem_append_right _)) (fun j hj=>hne j (by omega)) (fun q' j hm=>hb q' j (List.mem_append_right _ hm))⟩
end
theorem At.same {hp hp' : Nat → Option Ob} {e : Nat} {p p0 : AV} {t : Nd} {keys : List Nat} {pd : List AV} {w : Nat} (h : At hp e p t keys pd w) (hl : isL 4 p) (hs : Sim hp hp' e (fun k=>k = zBv p ∨ k ∈ keys) p0) (hne : p ≠ p0) (hb : zBv p0 ∉ keys) : At hp' e p t keys pd w :=
 h.sameQ hl hs hne fun q j hm e=>hb (by rw [← e]; exact hm)
theorem LAt.same {hp hp' : Nat → Option Ob} {e q i : Nat} {p0 : AV} {ts : List Nd} {keys : List Nat} {pd : List AV} {w : Nat} (h : LAt hp e q i ts keys pd w) (hs : Sim hp hp' e (fun k=>k = q ∨ k ∈ keys) p0) (hne : ∀ j,i ≤ j → AV.rp q 4 j 0 ≠ p0) (hb : zBv p0 ∉ keys) : LAt hp' e q i ts keys pd w :=
 h.sameQ hs hne fun q j hm e=>hb (by rw [← e]; exact hm)
theorem Sim.same {hp hp' : Nat → Option Ob} {e : Nat} {D : Nat → Prop} {p0 : AV} (h : ∀ k,D k → hp' k = hp k) : Sim hp hp' e D p0 :=
 ⟨fun q rows hq hr=>⟨rows,(h q hq).trans hr,rfl⟩,fun p hp _ hl=>zCj hl (h _ hp)⟩
theorem At.frame {hp hp' : Nat → Option Ob} {e : Nat} {p : AV} {t : Nd} {keys : List Nat} {pd : List AV} {w : Nat} (h : At hp e p t keys pd w) (hl : isL 4 p) (hs : ∀ k,k = zBv p ∨ k ∈ keys → hp' k = hp k) : At hp' e p t keys pd w :=
 h.sameQ hl (Sim.same (p0:=.junk) hs) (fun e=>by rcases hl with ⟨_,_,rfl⟩ | ⟨_,rfl⟩ <;> cases e) (fun q j _ e=>by cases e)
mutual
theorem At.base {hp : Nat → Option Ob} {e : Nat} {p p0 : AV} : ∀ {t : Nd} {keys : List Nat} {pd : List AV} {w : Nat},At hp e p t keys pd w → p0 ∈ pd → p0 = p ∨ zBv p0 ∈ keys
 | .mk k t c ks,keys,pd,w,h,hm=>by
  simp only [At] at h
  obtain ⟨v,_,⟨_,_,rfl,_⟩ | ⟨_,_,_,rfl,_⟩ | ⟨q,rows,keys',_,_,_,rfl,h⟩⟩:=h
  ·exact .inl (List.mem_singleton.1 hm)
  ·cases hm
  ·rcases LAt.base h hm with ⟨j,_,rfl⟩ | h
   ·exact .inr List.mem_cons_self
   ·exact .inr (List.mem_cons_of_mem _ h)
theorem LAt.base {hp : Nat → Option Ob} {e q i : Nat} {p0 : AV} : ∀ {ts : List Nd} {keys : List Nat} {pd : List AV} {w : Nat},LAt hp e q i ts keys pd w → p0 ∈ pd → (∃ j,i ≤ j ∧ p0 = .rp q 4 j 0) ∨ zBv p0 ∈ keys
 | [],keys,pd,w,h,hm=>by
  simp only [LAt] at h
  obtain ⟨_,rfl,_⟩:=h
  cases hm
 | t :: ts,keys,pd,w,h,hm=>by
  simp only [LAt] at h
  obtain ⟨k1,k2,p1,p2,w1,w2,rfl,rfl,rfl,h1,h2⟩:=h
  rcases List.mem_append.1 hm with hm | hm
  ·rcases At.base h1 hm with rfl | hm
   ·exact .inl ⟨i,Nat.le_refl _,rfl⟩
   ·exact .inr (List.mem_append_left _ hm)
  ·rcases LAt.base h2 hm with ⟨j,hj,hm⟩ | hm
   ·exact .inl ⟨j,by omega,hm⟩
   ·exact .inr (List.mem_append_right _ hm)
end
mutual
theorem At.loc {hp : Nat → Option Ob} {e : Nat} {p p0 : AV} : ∀ {t : Nd} {keys : List Nat} {pd : List AV} {w : Nat},At hp e p t keys pd w → isL 4 p → p0 ∈ pd → isL 4 p0
 | .mk k t c ks,keys,pd,w,h,hl,hm=>by
  simp only [At] at h
  obtain ⟨v,_,⟨_,_,rfl,_⟩ | ⟨_,_,_,rfl,_⟩ | ⟨q,rows,keys',_,_,_,rfl,h⟩⟩:=h
  ·rw [List.mem_singleton.1 hm]; exact hl
  ·cases hm
  ·exact LAt.loc h hm
theorem LAt.loc {hp : Nat → Option Ob} {e q i : Nat} {p0 : AV} : ∀ {ts : List Nd} {keys : List Nat} {pd : List AV} {w : Nat},LAt hp e q i ts keys pd w → p0 ∈ pd → isL 4 p0
 | [],keys,pd,w,h,hm=>by
  simp only [LAt] at h
  obtain ⟨_,rfl,_⟩:=h
  cases hm
 | t :: ts,keys,pd,w,h,hm=>by
  simp only [LAt] at h
  obtain ⟨k1,k2,p1,p2,w1,w2,rfl,rfl,rfl,h1,h2⟩:=h
  rcases List.mem_append.1 hm with hm | hm
  ·exact At.loc h1 (.inl ⟨q,i,rfl⟩) hm
  ·exact LAt.loc h2 hm
end
theorem zUQ {α : Type} {a b S : List α} {x : α} (h : a ++ b = S ++ [x]) : (b = [] ∧ a = S ++ [x]) ∨ ∃ S2,b = S2 ++ [x] ∧ S = a ++ S2:=by
 rcases List.eq_nil_or_concat b with rfl | ⟨b',y,rfl⟩
 ·exact .inl ⟨rfl,by simpa using h⟩
 ·rw [List.concat_eq_append,← List.append_assoc] at h;have:=List.append_inj' h rfl;obtain ⟨h1,h2⟩:=this;cases h2;exact .inr ⟨b',List.concat_eq_append,h1.symm⟩
def Repl (hp : Nat → Option Ob) (e : Nat) (p0 : AV) (S : List AV) (w : Nat) (D : Nat → Prop) (keys : List Nat) (P : (Nat → Option Ob) → List Nat → List AV → Nat → Prop) : Prop :=
 ∃ t0 w0,At hp e p0 t0 [] [p0] t0.cnt ∧ w = w0 + t0.cnt ∧ ∀ hp' new ch w',Sim hp hp' e D p0 → At hp' e p0 t0 new ch w' → ∃ keys2,keys2.Perm (keys ++ new) ∧ P hp' keys2 (S ++ ch) (w0 + w')
theorem zVl {a b n : List Nat} {k2 : List Nat} (h : k2.Perm (a ++ n)) : (k2 ++ b).Perm (a ++ b ++ n) :=
 (h.append_right b).trans (by rw [List.append_assoc,List.append_assoc]; exact (List.perm_append_comm).append_left a)
mutual
theorem At.repl {hp : Nat → Option Ob} {e : Nat} {p p0 : AV} {S : List AV} : ∀ {t : Nd} {keys : List Nat} {w : Nat},At hp e p t keys (S ++ [p0]) w → isL 4 p → (zBv p :: keys).Nodup →
  Repl hp e p0 S w (fun k=>k = zBv p ∨ k ∈ keys) keys fun hp' keys2 pd w=>At hp' e p t keys2 pd w
 | .mk k t c ks,keys,w,h,hl,hn=>by
  have h0:=h
  simp only [At] at h
  obtain ⟨v,hc,⟨rfl,rfl,h2,rfl⟩ | ⟨_,_,_,h2,_⟩ | ⟨q,rows,keys',rfl,hq,hlen,rfl,h⟩⟩:=h
  ·cases S with
   | cons x S=>cases S <;> simp at h2
   | nil =>
    obtain rfl : p0 = p:=by simpa using h2
    refine ⟨.mk k t c ks,0,h0,by simp [Nd.cnt],fun hp' new ch w' _ ha=>⟨new,by simp,by simpa using ha⟩⟩
  ·simp at h2
  ·have hn2:=List.nodup_cons.1 hn
   have hb : zBv p0 ∈ q :: keys':=by
    rcases LAt.base h (p0:=p0) (by simp) with ⟨j,_,rfl⟩ | h
    ·exact List.mem_cons_self
    ·exact List.mem_cons_of_mem _ h
   have hne : p ≠ p0:=fun e=>hn2.1 (by rw [e]; exact hb)
   obtain ⟨t0,w0,r1,r2,r3⟩:=LAt.repl h hn2.2
   refine ⟨t0,w0,r1,r2,fun hp' new ch w' hs ha=>?_⟩
   obtain ⟨rows',h6,h7⟩:=hs.row q rows (.inr List.mem_cons_self) hq
   obtain ⟨keys2,hp2,hl2⟩:=r3 hp' new ch w' (hs.sub fun k hk=>.inr (List.mem_cons.2 hk)) ha
   refine ⟨q :: keys2,by simpa using hp2,?_⟩
   simp only [At]
   exact ⟨.orow q,by rw [hs.cell p (.inl rfl) hne hl,hc],.inr (.inr ⟨q,rows',keys2,rfl,h6,h7.trans hlen,rfl,hl2⟩)⟩
theorem LAt.repl {hp : Nat → Option Ob} {e q i : Nat} {p0 : AV} {S : List AV} : ∀ {ts : List Nd} {keys : List Nat} {w : Nat},LAt hp e q i ts keys (S ++ [p0]) w → (q :: keys).Nodup →
  Repl hp e p0 S w (fun k=>k = q ∨ k ∈ keys) keys fun hp' keys2 pd w=>LAt hp' e q i ts keys2 pd w
 | [],keys,w,h,hn=>by
  simp only [LAt] at h
  simp at h
 | t :: ts,keys,w,h,hn=>by
  simp only [LAt] at h
  obtain ⟨k1,k2,p1,p2,w1,w2,rfl,hpd,rfl,h1,h2⟩:=h
  obtain ⟨hq,hn2⟩:=List.nodup_cons.1 hn
  obtain ⟨n1,n2,n12⟩:=List.nodup_append.1 hn2
  have hq1 : q ∉ k1:=fun h=>hq (List.mem_append_left _ h)
  have hq2 : q ∉ k2:=fun h=>hq (List.mem_append_right _ h)
  rcases zUQ hpd.symm with ⟨rfl,rfl⟩ | ⟨S2,rfl,rfl⟩
  ·have hb:=At.base h1 (p0:=p0) (by simp)
   obtain ⟨t0,w0,r1,r2,r3⟩:=At.repl h1 (.inl ⟨q,i,rfl⟩) (List.nodup_cons.2 ⟨hq1,n1⟩)
   refine ⟨t0,w0 + w2,r1,by omega,fun hp' new ch w' hs ha=>?_⟩
   obtain ⟨keys2,hp2,hl2⟩:=r3 hp' new ch w' (hs.sub fun k hk=>hk.imp id (List.mem_append_left _)) ha
   refine ⟨keys2 ++ k2,zVl hp2,?_⟩
   simp only [LAt]
   refine ⟨keys2,k2,S ++ ch,[],w0 + w',w2,rfl,by simp,by omega,hl2,?_⟩
   refine LAt.same h2 (hs.sub fun k hk=>hk.imp id (List.mem_append_right _)) (fun j hj e=>?_) (fun hm=>?_)
   ·rcases hb with rfl | hb
    ·cases e; omega
    ·rw [← e] at hb; exact hq1 hb
   ·rcases hb with rfl | hb
    ·exact hq2 hm
    ·exact n12 _ hb _ hm rfl
  ·have hb:=LAt.base h2 (p0:=p0) (by simp)
   obtain ⟨t0,w0,r1,r2,r3⟩:=LAt.repl h2 (List.nodup_cons.2 ⟨hq2,n2⟩)
   refine ⟨t0,w1 + w0,r1,by omega,fun hp' new ch w' hs ha=>?_⟩
   obtain ⟨keys2,hp2,hl2⟩:=r3 hp' new ch w' (hs.sub fun k hk=>hk.imp id (List.mem_append_right _)) ha
   refine ⟨k1 ++ keys2,by rw [List.append_assoc]; exact hp2.append_left k1,?_⟩
   simp only [LAt]
   refine ⟨k1,keys2,p1,S2 ++ ch,w1,w0 + w',rfl,by simp,by omega,?_,hl2⟩
   refine At.same h1 (.inl ⟨q,i,rfl⟩) (hs.sub fun k hk=>hk.imp id (List.mem_append_left _)) (fun e=>?_) (fun hm=>?_)
   ·rcases hb with ⟨j,hj,hb⟩ | hb
    ·rw [hb] at e; cases e; omega
    ·rw [← e] at hb; exact hq2 hb
   ·rcases hb with ⟨j,hj,rfl⟩ | hb
    ·exact hq1 hm
    ·exact n12 _ hm _ hb rfl
end
theorem Sim.put {hp hp' : Nat → Option Ob} {e : Nat} {D : Nat → Prop} {p0 : AV} {c cs : List AV} (hl : isL 4 p0) (hc : zAY hp p0 = some cs) (h : ∀ k,D k → hp' k = putC hp p0 c k) : Sim hp hp' e D p0 :=
 ⟨fun q rows hq hr=>by rw [h q hq]; exact zVn hl hc hr,fun p hp hne hl'=>(zCj hl' (h _ hp)).trans (zUk hl hc hl' hne)⟩
def locs (q i n : Nat) : List AV:=(List.range' i n).map fun j=>.rp q 4 j 0
theorem LAt.fresh {hp : Nat → Option Ob} {e q : Nat} : ∀ {ts : List Nd} {i : Nat},(∀ j x,ts[j]? = some x → zAY hp (.rp q 4 (i + j) 0) = some (x.enc.map AV.s)) → LAt hp e q i ts [] (locs q i ts.length) (Nd.cnts ts)
 | [],i,_=>by simp [LAt,locs,Nd.cnts]
 | .mk k t c ks :: ts,i,h=>by
  simp only [LAt]
  refine ⟨[],[],[.rp q 4 i 0],locs q (i + 1) ts.length,Nd.cnts ks + 1,Nd.cnts ts,rfl,by simp [locs,List.range'_succ],by simp [Nd.cnts,Nd.cnt],?_,LAt.fresh fun j x hj=>?_⟩
  ·simp only [At]
   exact ⟨.s (.sl 4 (Nd.encs ks)),h 0 (.mk k t c ks) rfl,.inl (by simp)⟩
  ·rw [show i + 1 + j = i + (j + 1) by omega]; exact h (j + 1) x (by simpa using hj)
theorem LAt.copied {hp : Nat → Option Ob} {e q : Nat} {ts : List Nd} (h : hp q = some (.arow e 4 ((Nd.encs ts).map (·.map AV.s)))) : LAt hp e q 0 ts [] (locs q 0 ts.length) (Nd.cnts ts) :=
 LAt.fresh fun j x hj=>by
  rw [zFl h,Nat.zero_add,Nd.encs_eq,List.map_map,List.getElem?_map,hj]; rfl
theorem zRN {hp : Nat → Option Ob} : ∀ {rows : List (List AV)} {rs : List (List S)},(∀ (j : Nat) r s,rows[j]? = some r → rs[j]? = some s → r.length = s.length ∧ ∀ (i : Nat) x y,r[i]? = some x → s[i]? = some y → Rd hp x y) → ∀ (i : Nat) x y,rows.flatten[i]? = some x → rs.flatten[i]? = some y → Rd hp x y
 | [],_,_,_,_,_,h,_=>by simp at h
 | _ :: _,[],_,_,_,_,_,h=>by simp at h
 | r :: rows,s :: rs,h,i,x,y,hx,hy=>by
  obtain ⟨hl,h0⟩:=h 0 r s (by simp) (by simp)
  rw [List.flatten_cons,List.getElem?_append] at hx hy
  by_cases hi : i < r.length
  ·rw [if_pos hi] at hx;rw [if_pos (hl ▸ hi)] at hy;exact h0 i x y hx hy
  ·rw [if_neg hi] at hx;rw [if_neg (hl ▸ hi),← hl] at hy;exact zRN (fun j r s hr hs=>h (j + 1) r s (by simpa using hr) (by simpa using hs)) _ x y hx hy
def RdC (hp : Nat → Option Ob) (cs : List AV) (ss : List S) : Prop:=cs.length = ss.length ∧ ∀ (i : Nat) x y,cs[i]? = some x → ss[i]? = some y → Rd hp x y
theorem RdC.node {hp : Nat → Option Ob} {k : Int} {t : List UInt8} {c : Int} {ks : List Nd} {v : AV} (h : Rd hp v (.sl 4 (Nd.encs ks))) : RdC hp (zBj k t c v) (Nd.enc (.mk k t c ks)) :=
 ⟨rfl,fun i x y hx hy=>by
  match i with
  | 0=>cases hx; cases hy; exact .s _
  | 1=>cases hx; cases hy; exact .s _
  | 2=>cases hx; cases hy; exact .s _
  | 3=>cases hx; cases hy; exact h
  | i + 4=>simp [zBj] at hx⟩
theorem Rd.rows {hp : Nat → Option Ob} {q e : Nat} {rows : List (List AV)} {ks : List Nd} (hq : hp q = some (.arow e 4 rows)) (hl : rows.length = ks.length) (h : ∀ j x,ks[j]? = some x → ∃ cs,zAY hp (.rp q 4 j 0) = some cs ∧ RdC hp cs x.enc) : Rd hp (.orow q) (.sl 4 (Nd.encs ks)):=by
 rw [Nd.encs_eq]
 refine .arow hq (by simpa using hl) (fun r hr=>?_) (zRN fun j r s hr hs=>?_)
 ·obtain ⟨x,_,rfl⟩:=List.mem_map.1 hr;cases x; rfl
 ·rw [List.getElem?_map] at hs;cases hx : ks[j]? with
  | none=>rw [hx] at hs; cases hs
  | some x =>
   rw [hx] at hs; cases hs
   obtain ⟨cs,h1,h2⟩:=h j x hx;rw [zFl hq,hr] at h1;cases h1;exact h2
mutual
theorem At.rd {hp : Nat → Option Ob} {e : Nat} {p : AV} : ∀ {t : Nd} {keys : List Nat} {pd : List AV} {w : Nat},At hp e p t keys pd w → ∃ cs,zAY hp p = some cs ∧ RdC hp cs t.enc
 | .mk k t c ks,keys,pd,w,h=>by
  simp only [At] at h
  obtain ⟨v,hc,⟨rfl,_⟩ | ⟨rfl,rfl,_⟩ | ⟨q,rows,keys',rfl,hq,hlen,rfl,h⟩⟩:=h
  ·exact ⟨_,hc,.node (.s _)⟩
  ·exact ⟨_,hc,.node (.s _)⟩
  ·exact ⟨_,hc,.node (Rd.rows hq hlen fun j x hj=>(by have:=LAt.rd h j x hj; rwa [Nat.zero_add] at this))⟩
theorem LAt.rd {hp : Nat → Option Ob} {e q i : Nat} : ∀ {ts : List Nd} {keys : List Nat} {pd : List AV} {w : Nat},LAt hp e q i ts keys pd w → ∀ j x,ts[j]? = some x → ∃ cs,zAY hp (.rp q 4 (i + j) 0) = some cs ∧ RdC hp cs x.enc
 | [],keys,pd,w,h,j,x,hj=>by simp at hj
 | t :: ts,keys,pd,w,h,0,x,hj=>by
  simp only [LAt] at h
  obtain ⟨k1,k2,p1,p2,w1,w2,rfl,rfl,rfl,h1,h2⟩:=h
  cases hj
  exact At.rd h1
 | t :: ts,keys,pd,w,h,j + 1,x,hj=>by
  simp only [LAt] at h
  obtain ⟨k1,k2,p1,p2,w1,w2,rfl,rfl,rfl,h1,h2⟩:=h
  rw [show i + (j + 1) = i + 1 + j by omega]
  exact LAt.rd h2 j x (by simpa using hj)
end
theorem zVp {hp : Nat → Option Ob} {cs : List AV} {t : Nd} (h : RdC hp cs t.enc) : RdV hp (.agg cs) (.agg (t.enc.map AV.s)):=by
 refine ⟨by simpa using h.1,fun i x y hx hy=>?_⟩
 rw [List.getElem?_map] at hy;cases hs : t.enc[i]? with
 | none=>rw [hs] at hy; cases hy
 | some s=>rw [hs] at hy; cases hy; exact ⟨s,rfl,h.2 i x s hx hs⟩
def Hole (hp : Nat → Option Ob) (e : Nat) (p : AV) (keys : List Nat) (p1 : AV) (y : Nd) (F : Nd → Nd) : Prop :=
 ∃ keys0 rest w0,keys.Perm (keys0 ++ rest) ∧ At hp e p1 y keys0 [] w0 ∧ isL 4 p1 ∧ (p1 = p ∨ zBv p1 ∈ rest) ∧
  ∀ hp' t1 new w1,Sim hp hp' e (fun k=>k = zBv p ∨ k ∈ rest) p1 → At hp' e p1 t1 new [] w1 → ∃ keys2 w2,keys2.Perm (rest ++ new) ∧ At hp' e p (F t1) keys2 [] w2
theorem Hole.refl {hp : Nat → Option Ob} {e w : Nat} {p : AV} {t : Nd} {keys : List Nat} (h : At hp e p t keys [] w) (hl : isL 4 p) : Hole hp e p keys p t id :=
 ⟨keys,[],w,by simp,h,hl,.inl rfl,fun hp' t1 new w1 _ h1=>⟨new,w1,by simp,h1⟩⟩
theorem LAt.hole {hp : Nat → Option Ob} {e q : Nat} {x : Nd} : ∀ {ts : List Nd} {keys : List Nat} {w i j : Nat},LAt hp e q i ts keys [] w → (q :: keys).Nodup → ts[j]? = some x →
  ∃ keys0 rest w0,keys.Perm (keys0 ++ rest) ∧ At hp e (.rp q 4 (i + j) 0) x keys0 [] w0 ∧ ∀ hp' t1 new w1,Sim hp hp' e (fun k=>k = q ∨ k ∈ rest) (.rp q 4 (i + j) 0) → At hp' e (.rp q 4 (i + j) 0) t1 new [] w1 →
   ∃ keys2 w2,keys2.Perm (rest ++ new) ∧ LAt hp' e q i (ts.set j t1) keys2 [] w2
 | [],keys,w,i,j,h,hn,hx=>by simp at hx
 | t :: ts,keys,w,i,0,h,hn,hx=>by
  simp only [LAt] at h;obtain ⟨k1,k2,p1,p2,w1,w2,rfl,hpd,rfl,h1,h2⟩:=h;obtain ⟨rfl,rfl⟩:=List.append_eq_nil_iff.1 hpd.symm;cases hx;have hq:=(List.nodup_cons.1 hn).1;refine ⟨k1,k2,w1,List.Perm.refl _,h1,fun hp' t1 new w3 hs h3=>⟨new ++ k2,w3 + w2,List.perm_append_comm,?_⟩⟩
  simp only [List.set_cons_zero,LAt]
  exact ⟨new,k2,[],[],w3,w2,rfl,rfl,rfl,h3,LAt.same h2 hs (fun j hj e=>by cases e; omega) (fun hm=>hq (List.mem_append_right _ hm))⟩
 | t :: ts,keys,w,i,j + 1,h,hn,hx=>by
  simp only [LAt] at h;obtain ⟨k1,k2,p1,p2,w1,w2,rfl,hpd,rfl,h1,h2⟩:=h;obtain ⟨rfl,rfl⟩:=List.append_eq_nil_iff.1 hpd.symm;obtain ⟨hq,hn2⟩:=List.nodup_cons.1 hn;obtain ⟨n1,n2,_⟩:=List.nodup_append.1 hn2;obtain ⟨keys0,rest,w0,r1,r2,r3⟩:=LAt.hole (i:=i + 1) (j:=j) h2 (List.nodup_cons.2 ⟨fun hm=>hq (List.mem_append_right _ hm),n2⟩) (by simpa using hx)
  rw [show i + 1 + j = i + (j + 1) by omega] at r2 r3;refine ⟨keys0,k1 ++ rest,w0,List.perm_iff_count.2 fun a=>?_,r2,fun hp' t1 new w3 hs h3=>?_⟩
  ·have:=r1.count_eq a;simp only [List.count_append] at this ⊢
   omega
  ·obtain ⟨keys2,w4,q1,q2⟩:=r3 hp' t1 new w3 (hs.sub fun k hk=>hk.imp id (List.mem_append_right _)) h3;refine ⟨k1 ++ keys2,w1 + w4,by rw [List.append_assoc]; exact q1.append_left k1,?_⟩
   simp only [List.set_cons_succ,LAt]
   exact ⟨k1,keys2,[],[],w1,w4,rfl,rfl,rfl,At.same h1 (.inl ⟨q,i,rfl⟩) (hs.sub fun k hk=>hk.imp id (List.mem_append_left _)) (fun e=>by injection e with e1 e2 e3 e4; omega) (fun hm=>hq (List.mem_append_left _ hm)),q2⟩
theorem Hole.kid {hp : Nat → Option Ob} {e w i : Nat} {p : AV} {k c : Int} {tx : List UInt8} {ks : List Nd} {x : Nd} {keys : List Nat} (h : At hp e p (.mk k tx c ks) keys [] w) (hl : isL 4 p) (hn : (zBv p :: keys).Nodup) (hx : ks[i]? = some x) :
  ∃ q rows,zAY hp p = some (zBj k tx c (.orow q)) ∧ hp q = some (.arow e 4 rows) ∧ rows.length = ks.length ∧ Hole hp e p keys (.rp q 4 i 0) x (fun x'=>.mk k tx c (ks.set i x')):=by
 simp only [At] at h;obtain ⟨v,hc,⟨_,_,h,_⟩ | ⟨rfl,_⟩ | ⟨q,rows,keys',rfl,hq,hlen,rfl,h⟩⟩:=h
 ·cases h
 ·simp at hx
 ·obtain ⟨hb,hn2⟩:=List.nodup_cons.1 hn;obtain ⟨keys0,rest,w0,r1,r2,r3⟩:=LAt.hole h hn2 hx;rw [Nat.zero_add] at r2 r3;refine ⟨q,rows,hc,hq,hlen,keys0,q :: rest,w0,List.perm_iff_count.2 fun a=>?_,r2,.inl ⟨q,i,rfl⟩,.inr List.mem_cons_self,fun hp' t1 new w1 hs h1=>?_⟩
  ·have:=r1.count_eq a;simp only [List.count_append,List.count_cons] at this ⊢
   omega
  ·obtain ⟨rows',g1,g2⟩:=hs.row q rows (.inr List.mem_cons_self) hq;obtain ⟨keys2,w2,q1,q2⟩:=r3 hp' t1 new w1 (hs.sub fun k hk=>.inr (List.mem_cons.2 hk)) h1;refine ⟨q :: keys2,w2,by simpa using q1,?_⟩
   simp only [At]
   refine ⟨.orow q,by rw [hs.cell p (.inl rfl) (fun e=>hb (by rw [e]; exact List.mem_cons_self)) hl,hc],.inr (.inr ⟨q,rows',keys2,rfl,g1,by rw [g2,hlen,List.length_set],rfl,q2⟩)⟩
theorem Hole.trans {hp : Nat → Option Ob} {e : Nat} {p p1 p2 : AV} {y z : Nd} {keys : List Nat} {F F2 : Nd → Nd} (hn : (zBv p :: keys).Nodup) (h : Hole hp e p keys p1 y F) (k : ∀ keys0 w0,At hp e p1 y keys0 [] w0 → isL 4 p1 → (zBv p1 :: keys0).Nodup → Hole hp e p1 keys0 p2 z F2) : Hole hp e p keys p2 z (fun x=>F (F2 x)):=by
 obtain ⟨keys0,rest,w0,a1,a2,a3,a4,a5⟩:=h;obtain ⟨hb,hnk⟩:=List.nodup_cons.1 hn;obtain ⟨n0,n1,n01⟩:=List.nodup_append.1 (a1.nodup_iff.1 hnk)
 have hb1 : zBv p1 ∉ keys0:=fun hm=>by
  rcases a4 with rfl | a4
  ·exact hb (a1.mem_iff.2 (List.mem_append_left _ hm))
  ·exact n01 _ hm _ a4 rfl
 obtain ⟨keys1,rest1,w1,b1,b2,b3,b4,b5⟩:=k keys0 w0 a2 a3 (List.nodup_cons.2 ⟨hb1,n0⟩)
 refine ⟨keys1,rest1 ++ rest,w1,List.perm_iff_count.2 fun a=>?_,b2,b3,?_,fun hp' t1 new w2 hs h2=>?_⟩
 ·have:=a1.count_eq a;have:=b1.count_eq a;simp only [List.count_append] at *
  omega
 ·rcases b4 with rfl | b4
  ·exact a4.imp id (List.mem_append_right _)
  ·exact .inr (List.mem_append_left _ b4)
 ·have hp1 : zBv p1 = zBv p ∨ zBv p1 ∈ rest:=a4.imp (fun e=>by rw [e]) id;obtain ⟨keysA,wA,q1,q2⟩:=b5 hp' t1 new w2 (hs.sub fun k hk=>by
   rcases hk with rfl | hk
   ·exact hp1.imp id (List.mem_append_right _)
   ·exact .inr (List.mem_append_left _ hk)) h2
  have hs1 : Sim hp hp' e (fun k=>k = zBv p ∨ k ∈ rest) p1:=⟨fun q rows hq=>hs.row q rows (hq.imp id (List.mem_append_right _)),fun p' hp' hne hl'=>by
   by_cases e2 : p' = p2
   ·subst e2;rcases b4 with b4 | b4
    ·exact absurd b4 hne
    ·exfalso
     have hm : zBv p' ∈ keys0:=b1.mem_iff.2 (List.mem_append_right _ b4)
     rcases hp' with h3 | h3
     ·exact hb (a1.mem_iff.2 (List.mem_append_left _ (by rw [← h3]; exact hm)))
     ·exact n01 _ hm _ h3 rfl
   ·exact hs.cell p' (hp'.imp id (List.mem_append_right _)) e2 hl'⟩
  obtain ⟨keysB,wB,q3,q4⟩:=a5 hp' (F2 t1) keysA wA hs1 q2;refine ⟨keysB,wB,List.perm_iff_count.2 fun a=>?_,q4⟩
  have:=q1.count_eq a;have:=q3.count_eq a;simp only [List.count_append] at *
  omega
end Go.Proofs.YtjdhkpdjecegnaaGreatDoor
namespace Go.Proofs.YtjdhkpdjecegnaaGreatDoor
open Go.Abs
def tab : List (Nat × TI):=[
 (3,⟨.int .i64,1,8,[.int .i64 0]⟩),
 (4,⟨.bool,1,1,[.bool false]⟩),
 (9,⟨.str,1,16,[.str []]⟩),
 (22,⟨.slice 24,1,24,[.sl 4 []]⟩),
 (24,⟨.struct [(0,3),(1,9),(2,3),(3,22)],4,56,[.int .i64 0,.str [],.int .i64 0,.sl 4 []]⟩)]
def T (t : Nat) : Option TI:=look? t tab
theorem zW5 : ∀ p ∈ tab,okT Tryz.prog p.1 p.2:=by
 simp only [tab,List.forall_mem_cons]
 refine ⟨?_,?_,?_,?_,?_,by simp⟩
 ·exact ⟨_,Tryz.t3,_,Tryz.underlying3,rfl,by kernel_rfl,rfl,rfl,rfl,rfl,rfl,fun _=>rfl,rfl⟩
 ·exact ⟨_,Tryz.t4,_,Tryz.underlying4,rfl,by kernel_rfl,rfl,rfl,rfl,rfl,rfl,fun _=>rfl,rfl⟩
 ·exact ⟨_,Tryz.t9,_,Tryz.underlying9,rfl,by kernel_rfl,rfl,rfl,rfl,rfl,rfl,fun _=>rfl,rfl⟩
 ·exact ⟨_,Tryz.t22,_,Tryz.underlying22,rfl,by kernel_rfl,rfl,rfl,rfl,rfl,rfl,fun _=>rfl,rfl⟩
 ·exact ⟨_,Tryz.t24,_,Tryz.underlying24,rfl,by kernel_rfl,rfl,rfl,rfl,rfl,rfl,(fun h=>by cases h),rfl⟩
theorem tok : TOk Tryz.prog T:=zVX zW5
theorem tcl : ∀ t i,T t = some i → zDv T i = true:=zTx (by rfl)
def tabX : List (Nat × TI):=[
 (2,⟨.int .i64,1,8,[.int .i64 0]⟩),
 (5,⟨.int .u8,1,1,[.int .u8 0]⟩),
 (26,⟨.fn,1,8,[.nf]⟩),
 (27,⟨.slice 54,1,24,[.sl 8 []]⟩),
 (28,⟨.int .i64,1,8,[.int .i64 0]⟩),
 (39,⟨.ptr 71,1,8,[.np]⟩),
 (43,⟨.slice 3,1,24,[.sl 1 []]⟩),
 (45,⟨.struct [(0,43),(1,43)],2,48,[.sl 1 [],.sl 1 []]⟩),
 (47,⟨.struct [(0,27),(1,45),(3,45)],5,120,[.sl 8 [],.sl 1 [],.sl 1 [],.sl 1 [],.sl 1 []]⟩),
 (54,⟨.struct [(0,3),(1,43),(2,3),(3,3),(4,22),(5,3),(6,9),(7,9)],8,112,[.int .i64 0,.sl 1 [],.int .i64 0,.int .i64 0,.sl 4 [],.int .i64 0,.str [],.str []]⟩),
 (56,⟨.fn,1,8,[.nf]⟩),
 (64,⟨.slice 43,1,24,[.sl 1 []]⟩),
 (66,⟨.struct [(0,64),(1,64),(2,43),(3,43)],4,96,[.sl 1 [],.sl 1 [],.sl 1 [],.sl 1 []]⟩),
 (69,⟨.slice 47,1,24,[.sl 5 []]⟩),
 (71,⟨.struct [(0,24),(4,24),(8,69),(9,3)],10,144,[.int .i64 0,.str [],.int .i64 0,.sl 4 [],.int .i64 0,.str [],.int .i64 0,.sl 4 [],.sl 5 [],.int .i64 0]⟩),
 (78,⟨.slice 83,1,24,[.sl 2 []]⟩),
 (80,⟨.fn,1,8,[.nf]⟩),
 (81,⟨.fn,1,8,[.nf]⟩),
 (83,⟨.arr 2 3,2,16,[.int .i64 0,.int .i64 0]⟩),
 (87,⟨.ptr 94,1,8,[.np]⟩),
 (88,⟨.fn,1,8,[.nf]⟩),
 (90,⟨.struct [(0,9),(1,3),(2,88)],3,32,[.str [],.int .i64 0,.nf]⟩),
 (91,⟨.arr 13 90,39,416,[.str [],.int .i64 0,.nf,.str [],.int .i64 0,.nf,.str [],.int .i64 0,.nf,.str [],.int .i64 0,.nf,.str [],.int .i64 0,.nf,.str [],.int .i64 0,.nf,.str [],.int .i64 0,.nf,.str [],.int .i64 0,.nf,.str [],.int .i64 0,.nf,.str [],.int .i64 0,.nf,.str [],.int .i64 0,.nf,.str [],.int .i64 0,.nf,.str [],.int .i64 0,.nf]⟩),
 (94,⟨.struct [(0,91),(39,3)],40,424,[.str [],.int .i64 0,.nf,.str [],.int .i64 0,.nf,.str [],.int .i64 0,.nf,.str [],.int .i64 0,.nf,.str [],.int .i64 0,.nf,.str [],.int .i64 0,.nf,.str [],.int .i64 0,.nf,.str [],.int .i64 0,.nf,.str [],.int .i64 0,.nf,.str [],.int .i64 0,.nf,.str [],.int .i64 0,.nf,.str [],.int .i64 0,.nf,.str [],.int .i64 0,.nf,.int .i64 0]⟩),
 (96,⟨.ptr 24,1,8,[.np]⟩),
 (97,⟨.slice 96,1,24,[.sl 1 []]⟩),
 (102,⟨.struct [(0,54),(8,22)],9,136,[.int .i64 0,.sl 1 [],.int .i64 0,.int .i64 0,.sl 4 [],.int .i64 0,.str [],.str [],.sl 4 []]⟩),
 (106,⟨.fn,1,8,[.nf]⟩),
 (109,⟨.fn,1,8,[.nf]⟩),
 (110,⟨.fn,1,8,[.nf]⟩),
 (113,⟨.fn,1,8,[.nf]⟩),
 (116,⟨.slice 9,1,24,[.sl 1 []]⟩),
 (128,⟨.struct [(0,96),(1,3)],2,16,[.np,.int .i64 0]⟩),
 (129,⟨.slice 128,1,24,[.sl 2 []]⟩),
 (130,⟨.fn,1,8,[.nf]⟩),
 (131,⟨.ptr 137,1,8,[.np]⟩),
 (132,⟨.ptr 135,1,8,[.np]⟩),
 (133,⟨.slice 5,1,24,[.sl 1 []]⟩),
 (135,⟨.struct [(0,132),(1,133)],2,32,[.np,.sl 1 []]⟩),
 (137,⟨.struct [(0,91),(39,135)],41,448,[.str [],.int .i64 0,.nf,.str [],.int .i64 0,.nf,.str [],.int .i64 0,.nf,.str [],.int .i64 0,.nf,.str [],.int .i64 0,.nf,.str [],.int .i64 0,.nf,.str [],.int .i64 0,.nf,.str [],.int .i64 0,.nf,.str [],.int .i64 0,.nf,.str [],.int .i64 0,.nf,.str [],.int .i64 0,.nf,.str [],.int .i64 0,.nf,.str [],.int .i64 0,.nf,.np,.sl 1 []]⟩),
 (140,⟨.struct [(0,96),(1,3)],2,16,[.np,.int .i64 0]⟩),
 (141,⟨.slice 140,1,24,[.sl 2 []]⟩),
 (142,⟨.ptr 140,1,8,[.np]⟩),
 (148,⟨.arr 13 9,13,208,[.str [],.str [],.str [],.str [],.str [],.str [],.str [],.str [],.str [],.str [],.str [],.str [],.str []]⟩),
 (159,⟨.ptr 5,1,8,[.np]⟩),
 (164,⟨.slice 22,1,24,[.sl 1 []]⟩),
 (168,⟨.int .u64,1,8,[.int .u64 0]⟩),
 (169,⟨.arr 24 5,24,24,[.int .u8 0,.int .u8 0,.int .u8 0,.int .u8 0,.int .u8 0,.int .u8 0,.int .u8 0,.int .u8 0,.int .u8 0,.int .u8 0,.int .u8 0,.int .u8 0,.int .u8 0,.int .u8 0,.int .u8 0,.int .u8 0,.int .u8 0,.int .u8 0,.int .u8 0,.int .u8 0,.int .u8 0,.int .u8 0,.int .u8 0,.int .u8 0]⟩),
 (170,⟨.int .u64,1,8,[.int .u64 0]⟩),
 (175,⟨.int .u32,1,4,[.int .u32 0]⟩),
 (179,⟨.arr 20 170,20,160,[.int .u64 0,.int .u64 0,.int .u64 0,.int .u64 0,.int .u64 0,.int .u64 0,.int .u64 0,.int .u64 0,.int .u64 0,.int .u64 0,.int .u64 0,.int .u64 0,.int .u64 0,.int .u64 0,.int .u64 0,.int .u64 0,.int .u64 0,.int .u64 0,.int .u64 0,.int .u64 0]⟩),
 (180,⟨.arr 65 5,65,65,[.int .u8 0,.int .u8 0,.int .u8 0,.int .u8 0,.int .u8 0,.int .u8 0,.int .u8 0,.int .u8 0,.int .u8 0,.int .u8 0,.int .u8 0,.int .u8 0,.int .u8 0,.int .u8 0,.int .u8 0,.int .u8 0,.int .u8 0,.int .u8 0,.int .u8 0,.int .u8 0,.int .u8 0,.int .u8 0,.int .u8 0,.int .u8 0,.int .u8 0,.int .u8 0,.int .u8 0,.int .u8 0,.int .u8 0,.int .u8 0,.int .u8 0,.int .u8 0,.int .u8 0,.int .u8 0,.int .u8 0,.int .u8 0,.int .u8 0,.int .u8 0,.int .u8 0,.int .u8 0,.int .u8 0,.int .u8 0,.int .u8 0,.int .u8 0,.int .u8 0,.int .u8 0,.int .u8 0,.int .u8 0,.int .u8 0,.int .u8 0,.int .u8 0,.int .u8 0,.int .u8 0,.int .u8 0,.int .u8 0,.int .u8 0,.int .u8 0,.int .u8 0,.int .u8 0,.int .u8 0,.int .u8 0,.int .u8 0,.int .u8 0,.int .u8 0,.int .u8 0]⟩),
 (184,⟨.arr 32 5,32,32,[.int .u8 0,.int .u8 0,.int .u8 0,.int .u8 0,.int .u8 0,.int .u8 0,.int .u8 0,.int .u8 0,.int .u8 0,.int .u8 0,.int .u8 0,.int .u8 0,.int .u8 0,.int .u8 0,.int .u8 0,.int .u8 0,.int .u8 0,.int .u8 0,.int .u8 0,.int .u8 0,.int .u8 0,.int .u8 0,.int .u8 0,.int .u8 0,.int .u8 0,.int .u8 0,.int .u8 0,.int .u8 0,.int .u8 0,.int .u8 0,.int .u8 0,.int .u8 0]⟩),
 (185,⟨.arr 64 5,64,64,[.int .u8 0,.int .u8 0,.int .u8 0,.int .u8 0,.int .u8 0,.int .u8 0,.int .u8 0,.int .u8 0,.int .u8 0,.int .u8 0,.int .u8 0,.int .u8 0,.int .u8 0,.int .u8 0,.int .u8 0,.int .u8 0,.int .u8 0,.int .u8 0,.int .u8 0,.int .u8 0,.int .u8 0,.int .u8 0,.int .u8 0,.int .u8 0,.int .u8 0,.int .u8 0,.int .u8 0,.int .u8 0,.int .u8 0,.int .u8 0,.int .u8 0,.int .u8 0,.int .u8 0,.int .u8 0,.int .u8 0,.int .u8 0,.int .u8 0,.int .u8 0,.int .u8 0,.int .u8 0,.int .u8 0,.int .u8 0,.int .u8 0,.int .u8 0,.int .u8 0,.int .u8 0,.int .u8 0,.int .u8 0,.int .u8 0,.int .u8 0,.int .u8 0,.int .u8 0,.int .u8 0,.int .u8 0,.int .u8 0,.int .u8 0,.int .u8 0,.int .u8 0,.int .u8 0,.int .u8 0,.int .u8 0,.int .u8 0,.int .u8 0,.int .u8 0]⟩)]
theorem zW3 : ∀ p ∈ tabX,okT Tryz.prog p.1 p.2:=by
 simp only [tabX,List.forall_mem_cons]
 refine ⟨?_,?_,?_,?_,?_,?_,?_,?_,?_,?_,?_,?_,?_,?_,?_,?_,?_,?_,?_,?_,?_,?_,?_,?_,?_,?_,?_,?_,?_,?_,?_,?_,?_,?_,?_,?_,?_,?_,?_,?_,?_,?_,?_,?_,?_,?_,?_,?_,?_,?_,?_,?_,?_,?_,by simp⟩
 ·exact ⟨_,Tryz.t2,_,Tryz.underlying2,rfl,by kernel_rfl,rfl,rfl,rfl,rfl,rfl,fun _=>rfl,rfl⟩
 ·exact ⟨_,Tryz.t5,_,Tryz.underlying5,rfl,by kernel_rfl,rfl,rfl,rfl,rfl,rfl,fun _=>rfl,rfl⟩
 ·exact ⟨_,Tryz.t26,_,Tryz.underlying26,rfl,by kernel_rfl,rfl,rfl,rfl,rfl,rfl,fun _=>rfl,rfl⟩
 ·exact ⟨_,Tryz.t27,_,Tryz.underlying27,rfl,by kernel_rfl,rfl,rfl,rfl,rfl,rfl,fun _=>rfl,rfl⟩
 ·exact ⟨_,Tryz.t28,_,Tryz.underlying28,rfl,by kernel_rfl,rfl,rfl,rfl,rfl,rfl,fun _=>rfl,rfl⟩
 ·exact ⟨_,Tryz.t39,_,Tryz.underlying39,rfl,by kernel_rfl,rfl,rfl,rfl,rfl,rfl,fun _=>rfl,rfl⟩
 ·exact ⟨_,Tryz.t43,_,Tryz.underlying43,rfl,by kernel_rfl,rfl,rfl,rfl,rfl,rfl,fun _=>rfl,rfl⟩
 ·exact ⟨_,Tryz.t45,_,Tryz.underlying45,rfl,by kernel_rfl,rfl,rfl,rfl,rfl,rfl,(fun h=>by cases h),rfl⟩
 ·exact ⟨_,Tryz.t47,_,Tryz.underlying47,rfl,by kernel_rfl,rfl,rfl,rfl,rfl,rfl,(fun h=>by cases h),rfl⟩
 ·exact ⟨_,Tryz.t54,_,Tryz.underlying54,rfl,by kernel_rfl,rfl,rfl,rfl,rfl,rfl,(fun h=>by cases h),rfl⟩
 ·exact ⟨_,Tryz.t56,_,Tryz.underlying56,rfl,by kernel_rfl,rfl,rfl,rfl,rfl,rfl,fun _=>rfl,rfl⟩
 ·exact ⟨_,Tryz.t64,_,Tryz.underlying64,rfl,by kernel_rfl,rfl,rfl,rfl,rfl,rfl,fun _=>rfl,rfl⟩
 ·exact ⟨_,Tryz.t66,_,Tryz.underlying66,rfl,by kernel_rfl,rfl,rfl,rfl,rfl,rfl,(fun h=>by cases h),rfl⟩
 ·exact ⟨_,Tryz.t69,_,Tryz.underlying69,rfl,by kernel_rfl,rfl,rfl,rfl,rfl,rfl,fun _=>rfl,rfl⟩
 ·exact ⟨_,Tryz.t71,_,Tryz.underlying71,rfl,by kernel_rfl,rfl,rfl,rfl,rfl,rfl,(fun h=>by cases h),rfl⟩
 ·exact ⟨_,Tryz.t78,_,Tryz.underlying78,rfl,by kernel_rfl,rfl,rfl,rfl,rfl,rfl,fun _=>rfl,rfl⟩
 ·exact ⟨_,Tryz.t80,_,Tryz.underlying80,rfl,by kernel_rfl,rfl,rfl,rfl,rfl,rfl,fun _=>rfl,rfl⟩
 ·exact ⟨_,Tryz.t81,_,Tryz.underlying81,rfl,by kernel_rfl,rfl,rfl,rfl,rfl,rfl,fun _=>rfl,rfl⟩
 ·exact ⟨_,Tryz.t83,_,Tryz.underlying83,rfl,by kernel_rfl,rfl,rfl,rfl,rfl,rfl,(fun h=>by cases h),rfl⟩
 ·exact ⟨_,Tryz.t87,_,Tryz.underlying87,rfl,by kernel_rfl,rfl,rfl,rfl,rfl,rfl,fun _=>rfl,rfl⟩
 ·exact ⟨_,Tryz.t88,_,Tryz.underlying88,rfl,by kernel_rfl,rfl,rfl,rfl,rfl,rfl,fun _=>rfl,rfl⟩
 ·exact ⟨_,Tryz.t90,_,Tryz.underlying90,rfl,by kernel_rfl,rfl,rfl,rfl,rfl,rfl,(fun h=>by cases h),rfl⟩
 ·exact ⟨_,Tryz.t91,_,Tryz.underlying91,rfl,by kernel_rfl,rfl,rfl,rfl,rfl,rfl,(fun h=>by cases h),rfl⟩
 ·exact ⟨_,Tryz.t94,_,Tryz.underlying94,rfl,by kernel_rfl,rfl,rfl,rfl,rfl,rfl,(fun h=>by cases h),rfl⟩
 ·exact ⟨_,Tryz.t96,_,Tryz.underlying96,rfl,by kernel_rfl,rfl,rfl,rfl,rfl,rfl,fun _=>rfl,rfl⟩
 ·exact ⟨_,Tryz.t97,_,Tryz.underlying97,rfl,by kernel_rfl,rfl,rfl,rfl,rfl,rfl,fun _=>rfl,rfl⟩
 ·exact ⟨_,Tryz.t102,_,Tryz.underlying102,rfl,by kernel_rfl,rfl,rfl,rfl,rfl,rfl,(fun h=>by cases h),rfl⟩
 ·exact ⟨_,Tryz.t106,_,Tryz.underlying106,rfl,by kernel_rfl,rfl,rfl,rfl,rfl,rfl,fun _=>rfl,rfl⟩
 ·exact ⟨_,Tryz.t109,_,Tryz.underlying109,rfl,by kernel_rfl,rfl,rfl,rfl,rfl,rfl,fun _=>rfl,rfl⟩
 ·exact ⟨_,Tryz.t110,_,Tryz.underlying110,rfl,by kernel_rfl,rfl,rfl,rfl,rfl,rfl,fun _=>rfl,rfl⟩
 ·exact ⟨_,Tryz.t113,_,Tryz.underlying113,rfl,by kernel_rfl,rfl,rfl,rfl,rfl,rfl,fun _=>rfl,rfl⟩
 ·exact ⟨_,Tryz.t116,_,Tryz.underlying116,rfl,by kernel_rfl,rfl,rfl,rfl,rfl,rfl,fun _=>rfl,rfl⟩
 ·exact ⟨_,Tryz.t128,_,Tryz.underlying128,rfl,by kernel_rfl,rfl,rfl,rfl,rfl,rfl,(fun h=>by cases h),rfl⟩
 ·exact ⟨_,Tryz.t129,_,Tryz.underlying129,rfl,by kernel_rfl,rfl,rfl,rfl,rfl,rfl,fun _=>rfl,rfl⟩
 ·exact ⟨_,Tryz.t130,_,Tryz.underlying130,rfl,by kernel_rfl,rfl,rfl,rfl,rfl,rfl,fun _=>rfl,rfl⟩
 ·exact ⟨_,Tryz.t131,_,Tryz.underlying131,rfl,by kernel_rfl,rfl,rfl,rfl,rfl,rfl,fun _=>rfl,rfl⟩
 ·exact ⟨_,Tryz.t132,_,Tryz.underlying132,rfl,by kernel_rfl,rfl,rfl,rfl,rfl,rfl,fun _=>rfl,rfl⟩
 ·exact ⟨_,Tryz.t133,_,Tryz.underlying133,rfl,by kernel_rfl,rfl,rfl,rfl,rfl,rfl,fun _=>rfl,rfl⟩
 ·exact ⟨_,Tryz.t135,_,Tryz.underlying135,rfl,by kernel_rfl,rfl,rfl,rfl,rfl,rfl,(fun h=>by cases h),rfl⟩
 ·exact ⟨_,Tryz.t137,_,Tryz.underlying137,rfl,by kernel_rfl,rfl,rfl,rfl,rfl,rfl,(fun h=>by cases h),rfl⟩
 ·exact ⟨_,Tryz.t140,_,Tryz.underlying140,rfl,by kernel_rfl,rfl,rfl,rfl,rfl,rfl,(fun h=>by cases h),rfl⟩
 ·exact ⟨_,Tryz.t141,_,Tryz.underlying141,rfl,by kernel_rfl,rfl,rfl,rfl,rfl,rfl,fun _=>rfl,rfl⟩
 ·exact ⟨_,Tryz.t142,_,Tryz.underlying142,rfl,by kernel_rfl,rfl,rfl,rfl,rfl,rfl,fun _=>rfl,rfl⟩
 ·exact ⟨_,Tryz.t148,_,Tryz.underlying148,rfl,by kernel_rfl,rfl,rfl,rfl,rfl,rfl,(fun h=>by cases h),rfl⟩
 ·exact ⟨_,Tryz.t159,_,Tryz.underlying159,rfl,by kernel_rfl,rfl,rfl,rfl,rfl,rfl,fun _=>rfl,rfl⟩
 ·exact ⟨_,Tryz.t164,_,Tryz.underlying164,rfl,by kernel_rfl,rfl,rfl,rfl,rfl,rfl,fun _=>rfl,rfl⟩
 ·exact ⟨_,Tryz.t168,_,Tryz.underlying168,rfl,by kernel_rfl,rfl,rfl,rfl,rfl,rfl,fun _=>rfl,rfl⟩
 ·exact ⟨_,Tryz.t169,_,Tryz.underlying169,rfl,by kernel_rfl,rfl,rfl,rfl,rfl,rfl,(fun h=>by cases h),rfl⟩
 ·exact ⟨_,Tryz.t170,_,Tryz.underlying170,rfl,by kernel_rfl,rfl,rfl,rfl,rfl,rfl,fun _=>rfl,rfl⟩
 ·exact ⟨_,Tryz.t175,_,Tryz.underlying175,rfl,by kernel_rfl,rfl,rfl,rfl,rfl,rfl,fun _=>rfl,rfl⟩
 ·exact ⟨_,Tryz.t179,_,Tryz.underlying179,rfl,by kernel_rfl,rfl,rfl,rfl,rfl,rfl,(fun h=>by cases h),rfl⟩
 ·exact ⟨_,Tryz.t180,_,Tryz.underlying180,rfl,by kernel_rfl,rfl,rfl,rfl,rfl,rfl,(fun h=>by cases h),rfl⟩
 ·exact ⟨_,Tryz.t184,_,Tryz.underlying184,rfl,by kernel_rfl,rfl,rfl,rfl,rfl,rfl,(fun h=>by cases h),rfl⟩
 ·exact ⟨_,Tryz.t185,_,Tryz.underlying185,rfl,by kernel_rfl,rfl,rfl,rfl,rfl,rfl,(fun h=>by cases h),rfl⟩
def TW (t : Nat) : Option TI:=look? t (tab ++ tabX)
theorem tokW : TOk Tryz.prog TW:=zVX fun p hp=>(List.mem_append.1 hp).elim (zW5 p) (zW3 p)
theorem mixed : Tryz.prog.follows .mixedOrders = true:=by kernel_rfl
end Go.Proofs.YtjdhkpdjecegnaaGreatDoor
namespace Go.Proofs
set_option maxHeartbeats 1000000 in
theorem Tryz.stringslite_IndexByte (s : ByteArray) (c : Int) (w : World) :
  Calls Tryz.prog 122 #[.string s,.int .u8 c] w fun e w'=>e = .returned (.int .i64 (Lib.indexByte s.data.toList c.toNat.toUInt8)) ∧ w' = w:=by
 go_enter Tryz.func122,Tryz.ntmps122
 go_wp2
 rw [run_callFunc_extern Tryz.func127 (by kernel_rfl) (by kernel_rfl) (by kernel_rfl) (e:=Extern.BytealgIndexByte.indexByte) (by kernel_rfl),Lib.run_indexByteString]
 simp only [Result.andThen]
 rw [Oper.upon_value]
 go_wp2
 go_ret
 exact ⟨rfl,rfl⟩
theorem Tryz.stringslite_Index_one (s : ByteArray) (c : UInt8) (w : World) :
  Calls Tryz.prog 126 #[.string s,.string ⟨#[c]⟩] w fun e w'=>e = .returned (.int .i64 (Lib.indexByte s.data.toList c)) ∧ w' = w:=by
 go_enter Tryz.func126,Tryz.ntmps126
 go_wp2_with (go_at_call 122; refine (Tryz.stringslite_IndexByte _ _ _).mono ?_; rintro e w' ⟨rfl,rfl⟩)
 ·have h : ([c] == s.toList) = true:=by assumption
  go_ret
  refine ⟨?_,rfl⟩
  have e : s.data.toList = [c] :=(by rw [← Lib.toList_data]; exact (beq_iff_eq.1 h).symm);rw [e]
  simp [Lib.indexByte]
 ·go_ret
  exact ⟨rfl,rfl⟩
set_option maxHeartbeats 1000000 in
theorem Tryz.strings_IndexByte (s : ByteArray) (c : Int) (w : World) :
  Calls Tryz.prog 111 #[.string s,.int .u8 c] w fun e w'=>e = .returned (.int .i64 (Lib.indexByte s.data.toList c.toNat.toUInt8)) ∧ w' = w:=by
 go_enter Tryz.func111,Tryz.ntmps111
 go_wp2_with (go_at_call 122; refine (Tryz.stringslite_IndexByte _ _ _).mono ?_; rintro e w' ⟨rfl,rfl⟩)
 go_ret
 exact ⟨rfl,rfl⟩
set_option maxHeartbeats 1000000 in
theorem Tryz.strings_Index_one (s : ByteArray) (c : UInt8) (w : World) :
  Calls Tryz.prog 120 #[.string s,.string ⟨#[c]⟩] w fun e w'=>e = .returned (.int .i64 (Lib.indexByte s.data.toList c)) ∧ w' = w:=by
 go_enter Tryz.func120,Tryz.ntmps120
 go_wp2_with (go_at_call 126; refine (Tryz.stringslite_Index_one _ _ _).mono ?_; rintro e w' ⟨rfl,rfl⟩)
 go_ret
 exact ⟨rfl,rfl⟩
set_option maxHeartbeats 1000000 in
theorem Tryz.strings_Contains_one (s : ByteArray) (c : UInt8) (w : World) :
  Calls Tryz.prog 107 #[.string s,.string ⟨#[c]⟩] w fun e w'=>e = .returned (.bool (decide (0 ≤ Lib.indexByte s.data.toList c))) ∧ w' = w:=by
 go_enter Tryz.func107,Tryz.ntmps107
 go_wp2_with (go_at_call 120; refine (Tryz.strings_Index_one _ _ _).mono ?_; rintro e w' ⟨rfl,rfl⟩)
 go_ret
 exact ⟨rfl,rfl⟩
end Go.Proofs
namespace Go.Proofs.YtjdhkpdjecegnaaGreatDoor
open Go.Abs
theorem zKh {f : Nat} {s : List AV → Ret → Prop} (hcall : ∀ args w,(callFunc f args).run Tryz.prog w = .ok (.enter f args) w)
  (h : ∀ (G : Nat → Prop) (w : World) (xs : List AV) (vs : List Value) (r : Ret),AVals G w (fun _=>.tuple #[]) xs vs → s xs r → Calls Tryz.prog f vs.toArray w fun e w'=>w' = w ∧ ∃ v,e = .returned v ∧ RetAt G w w r v) : PSound Tryz.prog f (zAG s) :=
 ⟨hcall,fun G w xs vs r hl _ _ hv hs=>(h G w xs vs r hv hs).mono fun e w' ⟨h1,v,h2,h3⟩=>(by subst h1; exact ⟨v,G,h2,Ext.refl hl,h3⟩),fun R hR=>(by cases hR),fun R hR=>(by cases hR)⟩
def zIH (xs : List AV) (r : Ret) : Prop:=∃ (a0 a1 : List UInt8) (y0 : Int),zDY a0 a1 = some y0 ∧ xs = [.s (.str a0),.s (.str a1)] ∧ r = .val (.s (.int .i64 y0))
def zFE : zAt:=zAG fun xs r=>zIH xs r
theorem zIk : PSound Tryz.prog 126 zFE:=zKh Tryz.call126 fun G w xs vs r hv ⟨a,p,y,h,hx,hr⟩=>by
 subst hx; subst hr
 obtain ⟨hp,h⟩:=zAR h;have hy:=Option.some.inj h;subst hy;obtain ⟨c,rfl⟩ : ∃ c,p = [c]:=by
  match p,hp with
  | [c],_=>exact ⟨c,rfl⟩
 simp only [AVals,AVal,Rep] at hv;obtain ⟨_,_,rfl,rfl,_,_,rfl,rfl,rfl⟩:=hv;exact (Tryz.stringslite_Index_one ⟨a.toArray⟩ c w).mono fun e w' ⟨h1,h2⟩=>⟨h2,_,h1,rfl,by simp only [AVal,Rep]; rfl⟩
def zJg (xs : List AV) (r : Ret) : Prop:=∃ (a0 a1 : List UInt8) (y0 : Bool),zEo a0 a1 = some y0 ∧ xs = [.s (.str a0),.s (.str a1)] ∧ r = .val (.s (.bool y0))
def zF2 : zAt:=zAG fun xs r=>zJg xs r
theorem zI0 : PSound Tryz.prog 107 zF2:=zKh Tryz.call107 fun G w xs vs r hv ⟨a,p,y,h,hx,hr⟩=>by
 subst hx; subst hr
 obtain ⟨hp,h⟩:=zAR h;have hy:=Option.some.inj h;subst hy;obtain ⟨c,rfl⟩ : ∃ c,p = [c]:=by
  match p,hp with
  | [c],_=>exact ⟨c,rfl⟩
 simp only [AVals,AVal,Rep] at hv;obtain ⟨_,_,rfl,rfl,_,_,rfl,rfl,rfl⟩:=hv;exact (Tryz.strings_Contains_one ⟨a.toArray⟩ c w).mono fun e w' ⟨h1,h2⟩=>⟨h2,_,h1,rfl,by simp only [AVal,Rep]; rfl⟩
def zIG (xs : List AV) (r : Ret) : Prop:=∃ (a0 : List UInt8) (a1 : Int) (y0 : Int),zCZ a0 a1 = some y0 ∧ xs = [.s (.str a0),.s (.int .u8 a1)] ∧ r = .val (.s (.int .i64 y0))
def zFD : zAt:=zAG fun xs r=>zIG xs r
theorem zIj : PSound Tryz.prog 111 zFD:=zKh Tryz.call111 fun G w xs vs r hv ⟨a,c,y,h,hx,hr⟩=>by
 subst hx; subst hr
 have hy:=Option.some.inj h;subst hy;simp only [AVals,AVal,Rep] at hv;obtain ⟨_,_,rfl,rfl,_,_,rfl,rfl,rfl⟩:=hv;exact (Tryz.strings_IndexByte ⟨a.toArray⟩ c w).mono fun e w' ⟨h1,h2⟩=>⟨h2,_,h1,rfl,by simp only [AVal,Rep]⟩
end Go.Proofs.YtjdhkpdjecegnaaGreatDoor
namespace Go.Proofs
open Go.Shelf
def Tryz.laysM171_ren : Go.Shelf.Ren:=⟨fun | 171=>118 | 243=>124 | 246=>129 | 283=>133 | 284=>134 | 285=>135 | 286=>136 | 129=>139 | 317=>138 | 318=>140 | 319=>141 | 320=>142 | 337=>143 | 338=>144 | n=>n,fun | 3=>3 | 9=>9 | 2=>2 | 4=>4 | 171=>169 | 0=>0 | 53=>170 | 37=>133 | 5=>5 | 173=>173 | 212=>179 | 51=>175 | 20=>20 | 213=>180 | 46=>168 | 232=>184 | 233=>185 | n=>n,fun | 17=>1 | 18=>2 | 19=>3 | n=>n⟩
theorem Tryz.laysM171 : Go.Proofs.LaysM.n171 Tryz.prog Tryz.laysM171_ren:={
 mixed:=by kernel_rfl
 f129:=Tryz.func139.trans (congrArg some (by kernel_rfl))
 f171:=Tryz.func118.trans (congrArg some (by kernel_rfl))
 f243:=Tryz.func124.trans (congrArg some (by kernel_rfl))
 f246:=Tryz.func129.trans (congrArg some (by kernel_rfl))
 f283:=Tryz.func133.trans (congrArg some (by kernel_rfl))
 f284:=Tryz.func134.trans (congrArg some (by kernel_rfl))
 f285:=Tryz.func135.trans (congrArg some (by kernel_rfl))
 f286:=Tryz.func136.trans (congrArg some (by kernel_rfl))
 f317:=Tryz.func138.trans (congrArg some (by kernel_rfl))
 f318:=Tryz.func140.trans (congrArg some (by kernel_rfl))
 f319:=Tryz.func141.trans (congrArg some (by kernel_rfl))
 f320:=Tryz.func142.trans (congrArg some (by kernel_rfl))
 f337:=Tryz.func143.trans (congrArg some (by kernel_rfl))
 f338:=Tryz.func144.trans (congrArg some (by kernel_rfl))
 t0:=Tryz.underlying0
 a0:=Tryz.isAgg0
 z0:=Tryz.sizeOf0
 v0:=Tryz.zeroValue0
 t2:=Tryz.underlying2
 a2:=Tryz.isAgg2
 z2:=Tryz.sizeOf2
 v2:=Tryz.zeroValue2
 t3:=Tryz.underlying3
 a3:=Tryz.isAgg3
 z3:=Tryz.sizeOf3
 v3:=Tryz.zeroValue3
 t4:=Tryz.underlying4
 a4:=Tryz.isAgg4
 z4:=Tryz.sizeOf4
 v4:=Tryz.zeroValue4
 t5:=Tryz.underlying5
 a5:=Tryz.isAgg5
 z5:=Tryz.sizeOf5
 v5:=Tryz.zeroValue5
 t9:=Tryz.underlying9
 a9:=Tryz.isAgg9
 z9:=Tryz.sizeOf9
 v9:=Tryz.zeroValue9
 t20:=Tryz.underlying20
 a20:=Tryz.isAgg20
 z20:=Tryz.sizeOf20
 v20:=Tryz.zeroValue20
 t37:=Tryz.underlying133
 a37:=Tryz.isAgg133
 z37:=Tryz.sizeOf133
 v37:=Tryz.zeroValue133
 t46:=Tryz.underlying168
 a46:=Tryz.isAgg168
 z46:=Tryz.sizeOf168
 v46:=Tryz.zeroValue168
 t51:=Tryz.underlying175
 a51:=Tryz.isAgg175
 z51:=Tryz.sizeOf175
 v51:=Tryz.zeroValue175
 t53:=Tryz.underlying170
 a53:=Tryz.isAgg170
 z53:=Tryz.sizeOf170
 v53:=Tryz.zeroValue170
 t171:=Tryz.underlying169
 a171:=Tryz.isAgg169
 z171:=Tryz.sizeOf169
 v171:=Tryz.zeroValue169
 t173:=Tryz.underlying173
 a173:=Tryz.isAgg173
 z173:=Tryz.sizeOf173
 v173:=Tryz.zeroValue173
 t212:=Tryz.underlying179
 a212:=Tryz.isAgg179
 z212:=Tryz.sizeOf179
 v212:=Tryz.zeroValue179
 t213:=Tryz.underlying180
 a213:=Tryz.isAgg180
 z213:=Tryz.sizeOf180
 t232:=Tryz.underlying184
 a232:=Tryz.isAgg184
 z232:=Tryz.sizeOf184
 v232:=Tryz.zeroValue184
 t233:=Tryz.underlying185
 a233:=Tryz.isAgg185
 z233:=Tryz.sizeOf185
 v233:=Tryz.zeroValue185
 g17:=by kernel_rfl
 g18:=by kernel_rfl
 g19:=by kernel_rfl
 i0:=by kernel_rfl
 i2:=by kernel_rfl
 i3:=by kernel_rfl
 i4:=by kernel_rfl
 i5:=by kernel_rfl
 i9:=by kernel_rfl
 i20:=by kernel_rfl
 i37:=by kernel_rfl
 i46:=by kernel_rfl
 i51:=by kernel_rfl
 i53:=by kernel_rfl
 i171:=by kernel_rfl
 i173:=by kernel_rfl
 i212:=by kernel_rfl
 i232:=by kernel_rfl
 i233:=by kernel_rfl
 m17:=by kernel_rfl
 m18:=by kernel_rfl
 m19:=by kernel_rfl }
open Go.RowKit Go.Sort Go.Lib in
theorem Tryz.strconv_Itoa (n : Int) (h0 : -9223372036854775808 ≤ n) (h1 : n ≤ 9223372036854775807) (w : World) (htab : Lib.TabIs Tryz.prog w "internal/strconv.uint64pow10" .u64 Lib.pow10Tab) :
  Calls Tryz.prog 118 #[.int .i64 n] w fun e w'=>e = .returned (.string ⟨(Lib.itoa n).toArray⟩) ∧ ∃ k os,w' = grow (w.drewN k) os:=Any.strconv_Itoa Tryz.laysM171 n h0 h1 w htab
end Go.Proofs
namespace Go.Proofs
set_option maxHeartbeats 1000000 in
theorem Tryz.bld_check_used (b off : Nat) (w : World) (h0 : w.cell? ⟨b,off,none⟩ = some (.pointer (some ⟨b,off,none⟩))) :
  Calls Tryz.prog 119 #[.pointer (some ⟨b,off,none⟩)] w fun e w'=>e = .returned (.tuple #[]) ∧ w' = w:=by
 have hj : Tryz.prog.info? 135 = some Tryz.t135:=by kernel_rfl
 go_enter Tryz.func119,Tryz.ntmps119
 go_wp2
 rw [Lib.run_neq_ptr_same w _ Tryz.underlying132 hj]
 go_wp2
 go_end0
 exact ⟨rfl,rfl⟩
set_option maxHeartbeats 1000000 in
theorem Tryz.bld_check_fresh (b : Nat) (w : World) (h0 : w.cell? ⟨b,39,none⟩ = some (.pointer none)) (hsh : w.shape? b = some (137,41)) (hfz : w.frozen? ⟨b,39,none⟩ = false) :
  Calls Tryz.prog 119 #[.pointer (some ⟨b,39,none⟩)] w fun e w'=>e = .returned (.tuple #[]) ∧ w' = w.setCell ⟨b,39,none⟩ (.pointer (some ⟨b,39,none⟩)):=by
 have hj : Tryz.prog.info? 135 = some Tryz.t135 :=(by kernel_rfl);have hjs : Tryz.t135.size ≠ 0 :=(by decide);have hlies : liesAt Tryz.prog Tryz.prog.depth 137 (41 / Tryz.prog.cellsOf 137) 39 135 1 = true:=by kernel_rfl
 go_enter Tryz.func119,Tryz.ntmps119
 go_wp2
 rw [Lib.run_to_unsafe w ⟨b,39,none⟩ Tryz.underlying132 Tryz.underlying162 hj hjs hsh (show (39 : Nat) < 41 by decide)]
 simp only [Result.andThen]
 rw [Oper.upon_value]
 go_wp2
 rw [run_callFunc_extern Tryz.func125 (by kernel_rfl) (by kernel_rfl) (by kernel_rfl) (e:=Extern.AbiNoEscape.same) (by kernel_rfl)]
 rw [Lib.run_noEscape]
 simp only [Result.andThen]
 rw [Oper.upon_value]
 go_wp2
 rw [Lib.run_from_unsafe w ⟨b,39,none⟩ Tryz.underlying162 Tryz.underlying132 hj hsh hlies]
 simp only [Result.andThen]
 rw [Oper.upon_value]
 go_wp2
 go_end0
 exact ⟨rfl,rfl⟩
theorem Tryz.bld_String (b g cap : Nat) (l : List UInt8) (w : World) (cur : Array Value) (h0 : l ≠ []) (hb : w.cell? ⟨b,40,none⟩ = some (.slice (some ⟨g,0,none⟩) l.length cap)) (hg : w.heap[g]? = some (.cells cur 5 (0,0))) (hc : cur.size = cap * 1) (hle : l.length ≤ cap) (hm : l.length ≤ 9223372036854775807)
  (hx : ∀ (j : Nat) x,l[j]? = some x → cur[j]? = some (.int .u8 x.toNat)) :
  Calls Tryz.prog 99 #[.pointer (some ⟨b,39,none⟩)] w fun e w'=>e = .returned (.string ⟨l.toArray⟩) ∧ w' = w.drew.freeze ⟨g,0,none⟩ l.length:=by
 have hl0 : l.length ≠ 0 :=(by simpa using h0);have c1 : w.drew.cell? ⟨b,40,none⟩ = some (.slice (some ⟨g,0,none⟩) l.length cap):=hb;have hSD : (Builtin.unsafeSliceData_ #[133] 159 #[.slice (some ⟨g,0,none⟩) l.length cap]).run Tryz.prog w.drew = .ok (.pointer (some ⟨g,0,none⟩)) w.drew :=
  Lib.run_unsafeSliceData_row _ _ _ _ _ _ (by omega)
 have hg' : w.drew.heap[g]? = some (.cells cur 5 (0,0)):=hg;have hUS : (Builtin.unsafeString_ #[159,3] 9 #[.pointer (some ⟨g,0,none⟩),.int .i64 l.length]).run Tryz.prog w.drew = .ok (.string ⟨l.toArray⟩) (w.drew.freeze ⟨g,0,none⟩ l.length):=by
  refine Lib.run_unsafeString_row w.drew 159 3 9 5 Tryz.underlying159 (by kernel_rfl) g cur.size (by simp [World.shape?,hg']) l h0 (by omega) hm ?_;intro j x hx';have e : (Addr.mk g 0 none).add j = ⟨g,j,none⟩:=by
   unfold Addr.add;split
   ·rename_i e; rw [e]
   ·simp
  rw [e]
  simp only [World.cell?,hg']
  exact hx j x hx'
 have mixed : Tryz.prog.follows .mixedOrders = true:=by kernel_rfl
 go_enter Tryz.func99,Tryz.ntmps99
 go_wp2
 go_region_o
 all_goals (go_wp2; go_ret; exact ⟨rfl,rfl⟩)
end Go.Proofs
namespace Go.Proofs.YtjdhkpdjecegnaaGreatDoor
open Go.Abs
def zTU : List AV:=[.s (.str []),.s (.int .i64 0),.s .nf,.s (.str [114,111,119]),.s (.int .i64 0),.s (.fn 80),.s (.str [115,121,109]),.s (.int .i64 0),.s (.fn 81),.s (.str [110,117,109]),.s (.int .i64 0),.s (.fn 82),.s (.str [116,101,120,116]),.s (.int .i64 0),.s (.fn 83),.s (.str [102,114,97,99]),.s (.int .i64 2),.s (.fn 80),.s (.str [114,111,111,116]),.s (.int .i64 2),.s (.fn 80),.s (.str [115,117,98]),.s (.int .i64 2),.s (.fn 80),.s (.str [115,117,112]),.s (.int .i64 2),.s (.fn 80),.s (.str [98,111,116,104]),.s (.int .i64 3),.s (.fn 80),.s (.str [97,99,99,101,110,116]),.s (.int .i64 1),.s (.fn 84),.s (.str [102,101,110,99,101]),.s (.int .i64 1),.s (.fn 85),.s (.str [109,97,116,114,105,120]),.s (.int .i64 0),.s (.fn 80)]
def zA9 (a b : AV) : List AV:=zTU ++ [a,b]
theorem zIM {a b : AV} : ∀ (i : Nat) (x : AV),(zA9 a b)[i]? = some x → i ≠ 39 → i ≠ 40 → x.pers = true:=fun i x h h1 h2=>by
 have hk : zTU.all AV.pers = true :=(by decide);have hl : zTU.length = 39:=rfl;unfold zA9 at h;rw [List.getElem?_append] at h;split at h
 ·exact List.all_eq_true.1 hk x (List.mem_of_getElem? h)
 ·rw [hl] at h;have : i - 39 < 2:=by have:=(List.getElem?_eq_some_iff.1 h).1; simpa using this
  omega
theorem zLL (b : Nat) (w : World) (cur : Array Value) (h : w.heap[b]? = some (.cells cur 137 (0,0))) (hc : cur[39]? = some (.pointer (some ⟨b,39,none⟩))) :
  Calls Tryz.prog 119 #[.pointer (some ⟨b,39,none⟩)] w fun e w'=>e = .returned (.tuple #[]) ∧ Wrote b 39 (.pointer (some ⟨b,39,none⟩)) cur 137 w w' :=
 (Tryz.bld_check_used b 39 w (by simp [World.cell?,h,hc])).mono fun e w' ⟨h1,h2⟩=>⟨h1,by subst h2; exact Wrote.same h hc⟩
theorem zKX (b : Nat) (w : World) (cur : Array Value) (h : w.heap[b]? = some (.cells cur 137 (0,0))) (hs : cur.size = 41) (hc : cur[39]? = some (.pointer none)) :
  Calls Tryz.prog 119 #[.pointer (some ⟨b,39,none⟩)] w fun e w'=>e = .returned (.tuple #[]) ∧ Wrote b 39 (.pointer (some ⟨b,39,none⟩)) cur 137 w w' :=
 (Tryz.bld_check_fresh b w (by simp [World.cell?,h,hc]) (by simp [World.shape?,h,hs]) (by simp [World.frozen?,h])).mono fun e w' ⟨h1,h2⟩=>⟨h1,by subst h2; exact Wrote.cell h⟩
def zFw (xs : List AV) (os : List Ob) (x : AV) (os' : List (Option Ob)) : Prop:=∃ (a0 : List UInt8) (z1 : List UInt8),zA7 a0 = some z1 ∧ xs = [.op 0 39] ∧ os = [.box 137 (zA9 (.op 0 39) (.orow 1)),.row 5 1 (List.map brow a0)] ∧ x = .tup [] ∧ os' = [some (.box 137 (zA9 (.op 0 39) (.orow 2))),none,some (.row 5 1 (List.map brow z1))]
def zB8 : zAt:=zB6 (fun xs os x os'=>zFw xs os x os')
theorem zDj : PSound Tryz.prog 119 zB8 :=
 PSound.ofOwn Tryz.call119 fun G w β xs vs os x os' h1 h2 h3 h4 h5 ⟨a0,z1,hm,hx,ho,hr,ho'⟩ =>
  zTp (p:=.op 0 39) (e:=5) rfl (.inr rfl) rfl rfl zIM (fun b w cur hb _ _ hc=>zLL b w cur hb (hc rfl)) G w β xs vs os x os' h1 h2 h3 h4 h5 ⟨_,hx,ho,hr,by rw [ho',← Option.some.inj hm]; rfl⟩
def zER (xs : List AV) (os : List Ob) (x : AV) (os' : List (Option Ob)) : Prop:=∃ (a0 : List UInt8) (z1 : List UInt8),zA7 a0 = some z1 ∧ xs = [.op 0 39] ∧ os = [.box 137 (zA9 (.s .np) (.orow 1)),.row 5 1 (List.map brow a0)] ∧ x = .tup [] ∧ os' = [some (.box 137 (zA9 (.op 0 39) (.orow 2))),none,some (.row 5 1 (List.map brow z1))]
def zCM : zAt:=zB6 (fun xs os x os'=>zER xs os x os')
theorem zEI : PSound Tryz.prog 119 zCM :=
 PSound.ofOwn Tryz.call119 fun G w β xs vs os x os' h1 h2 h3 h4 h5 ⟨a0,z1,hm,hx,ho,hr,ho'⟩ =>
  zTp (p:=.s .np) (e:=5) rfl (.inl rfl) rfl rfl zIM (fun b w cur hb hs hc _=>zKX b w cur hb hs (hc rfl)) G w β xs vs os x os' h1 h2 h3 h4 h5 ⟨_,hx,ho,hr,by rw [ho',← Option.some.inj hm]; rfl⟩
def zGo (xs : List AV) (os : List Ob) (x : AV) (os' : List (Option Ob)) : Prop:=∃ (a0 : List UInt8) (y0 : List UInt8),zCI a0 = some y0 ∧ xs = [.op 0 39] ∧ os = [.box 137 (zA9 (.op 0 39) (.orow 1)),.row 5 1 (List.map brow a0)] ∧ x = .s (.str y0) ∧ os' = [some (.box 137 (zA9 (.op 0 39) .junk)),none]
def zD2 : zAt:=zB6 (fun xs os x os'=>zGo xs os x os')
theorem zGj : PSound Tryz.prog 99 zD2 :=
 PSound.ofOwn Tryz.call99 fun G w β xs vs os x os' h1 h2 h3 h4 h5 ⟨a0,y0,hm,hx,ho,hr,ho'⟩=>by
  obtain ⟨⟨hq,hq2⟩,hm⟩:=zAR hm;exact zRj (D:=137) (e:=5) (cells:=zA9 (.op 0 39) (.orow 1)) rfl rfl rfl zIM (fun b g cap l w cur=>Tryz.bld_String b g cap l w cur) G w β xs vs os x os' h1 h2 h3 h4 h5 ⟨a0,hq,hq2,hx,ho,by rw [hr,Option.some.inj hm],ho'⟩
theorem Ext.grow {G : Nat → Prop} {w : World} (h : ∀ b,G b → b < w.heap.size) (k : Nat) (os : Array Obj) : Ext G G w (Sort.grow (w.drewN k) os) :=
 ⟨rfl,rfl,rfl,by show w.heap.size ≤ (w.heap ++ os).size; simp,fun b hb=>by show (w.heap ++ os)[b]? = _; simp [Array.getElem?_append,hb],fun _ h=>h,fun _ h=>.inl h,fun b hb=>by have:=h b hb; show b < (w.heap ++ os).size; simp; omega⟩
theorem zW4 {G : Nat → Prop} {w : World} (h : GlobOk G w) : Lib.TabIs Tryz.prog w "internal/strconv.uint64pow10" .u64 Lib.pow10Tab:=by
 obtain ⟨_,e,f,hh⟩:=h.2 1 _ rfl;have hg : Tryz.prog.globalNamed "internal/strconv.uint64pow10" = some 1:=by kernel_rfl
 unfold Lib.TabIs World.var?
 rw [hg]
 simp only [Option.bind_some,hh]
def zMH (xs : List AV) (r : Ret) : Prop:=∃ (a0 : Int) (y0 : List UInt8),zDT a0 = some y0 ∧ xs = [.s (.int .i64 a0)] ∧ r = .val (.s (.str y0))
def zGe : zAt:=zAG fun xs r=>zMH xs r
theorem zHN : PSound Tryz.prog 118 zGe :=
 ⟨Tryz.call118,fun G w xs vs r hl hgl hp hv ⟨a,y,hm,hx,hr⟩=>by
  subst hx; subst hr
  obtain ⟨⟨q1,q2⟩,hm⟩:=zAR hm;have hy:=Option.some.inj hm;subst hy;simp only [AVals,AVal,Rep] at hv;obtain ⟨_,_,rfl,rfl,rfl⟩:=hv;exact (Tryz.strconv_Itoa a q1 q2 w (zW4 hgl)).mono fun e w' ⟨h1,k,os,h2⟩=>⟨_,G,h1,by rw [h2]; exact Ext.grow hl k os,rfl,by simp only [AVal,Rep]⟩,fun R hR=>(by cases hR),fun R hR=>(by cases hR)⟩
end Go.Proofs.YtjdhkpdjecegnaaGreatDoor
namespace Go.Proofs.YtjdhkpdjecegnaaGreatDoor
open Go.Abs
def VAt (hp : Nat → Option Ob) (e : Nat) (v : AV) (ks : List Nd) (keys : List Nat) : Prop :=
 (ks = [] ∧ v = .s (.sl 4 []) ∧ keys = []) ∨ ∃ q rows keys' w,v = .orow q ∧ hp q = some (.arow e 4 rows) ∧ rows.length = ks.length ∧ keys = q :: keys' ∧ LAt hp e q 0 ks keys' [] w
theorem At.full {hp : Nat → Option Ob} {e : Nat} {p : AV} {k c : Int} {t : List UInt8} {ks : List Nd} {keys : List Nat} {w : Nat} (h : At hp e p (.mk k t c ks) keys [] w) : ∃ v,zAY hp p = some (zBj k t c v) ∧ VAt hp e v ks keys:=by
 simp only [At] at h;obtain ⟨v,hc,⟨_,_,h,_⟩ | ⟨rfl,rfl,rfl,_,_⟩ | ⟨q,rows,keys',rfl,hq,hlen,rfl,h⟩⟩:=h
 ·cases h
 ·exact ⟨_,hc,.inl ⟨rfl,rfl,rfl⟩⟩
 ·exact ⟨_,hc,.inr ⟨q,rows,keys',w,rfl,hq,hlen,rfl,h⟩⟩
def zO7 (xs : List AV) (hp : Nat → Option Ob) (n : Nat) (Φ : AV → (Nat → Option Ob) → Nat → Prop) : Prop :=
 ∃ (k c : Int) (tx : List UInt8) (ks : List Nd),(Nd.mk k tx c ks).cnt ≤ 1000000000 ∧ xs = [.agg (zBj k tx c (.s (.sl 4 (Nd.encs ks))))] ∧
  ∀ v hp' n' keys,n ≤ n' → (∀ k,k < n → hp' k = hp k) → VAt hp' 24 v ks keys → keys.Nodup → (∀ k ∈ keys,n ≤ k ∧ k < n') → Φ (.agg (zBj k tx c v)) hp' n'
def zLn : zAt:=zPX zO7
theorem zUr {T : Nat → Option TI} {σ : St} {t ty q bt : Nat} {i : TI} {cells : List AV} (h1 : σ.env t = .op q 0) (h2 : σ.hp q = some (.box bt cells)) (h3 : T ty = some i) (ha : i.k.agg = true) (hz : i.size = cells.length) : zK3 T σ [.cell t ty] = some (AV.deep (.agg cells)):=by
 have hb : Nat.ble i.size cells.length = true :=(by rw [hz]; exact Nat.ble_eq_true_of_le (Nat.le_refl _));simp only [zK3,zHS,zQJ,h1,h2,h3,ha,hb]
 rw [hz,List.take_length]
theorem zUH {σ : St} {q : Nat} {ob : Ob} : (zGl σ q ob).hp q = some ob:=by simp only [zGl,Nat.beq_refl,cond_true]
theorem upd_ne {σ : St} {q k : Nat} {ob : Ob} (h : k ≠ q) : (zGl σ q ob).hp k = σ.hp k:=by simp only [zGl,zD3 h,cond_false]
theorem VAt.frame {hp hp' : Nat → Option Ob} {e : Nat} {v : AV} {ks : List Nd} {keys : List Nat} (h : VAt hp e v ks keys) (hs : ∀ k ∈ keys,hp' k = hp k) : VAt hp' e v ks keys:=by
 rcases h with h | ⟨q,rows,keys',w,h1,h2,h3,rfl,h4⟩
 ·exact .inl h
 ·exact .inr ⟨q,rows,keys',w,h1,(hs q List.mem_cons_self).trans h2,h3,rfl,h4.sameQ (Sim.same (p0:=.junk) fun k hk=>hs k (List.mem_cons.2 hk)) (fun j _ e=>by cases e) (fun q j _ e=>by cases e)⟩
theorem zDd {T : Nat → Option TI} {own : Bool} {o : Oper} {σ : St} {p : AV} {y : Operand} (hl : isL 4 p) (ho : o.op = .assign y ∨ o.op = .move y) (hy : opd T σ.env o.type y = p) (hn : (own && zDx y) = false) : step1 T own o σ = some (none,p,σ):=by
 have e0 : p.nrm = p:=by rcases hl with ⟨_,_,rfl⟩ | ⟨_,rfl⟩ <;> rfl
 have e1 : zCB T own o σ.env = some (none,p):=by
  rcases ho with ho | ho <;> simp only [zCB,ho,hn,hy,e0]
 simp only [step1,e1]
theorem zHV {c : Cx} {x : Code} {σ : St} {Q : Abs.End → St → Prop} (l : List (Nat × AV)) (n' : Nat) (h : holds σ.env l) (hn : σ.nx = n') (hk : ∀ H,(∀ k,H k = σ.hp k) → Tri c x ⟨ofL l,H,n'⟩ Q) : Tri c x σ Q:=by
 subst hn;exact zAj (Le.forget l h) (hk σ.hp fun _=>rfl)
theorem At.pend {hp : Nat → Option Ob} {e w : Nat} {p : AV} {k c : Int} {tx : List UInt8} {ks : List Nd} (h : At hp e p (.mk k tx c ks) [] [p] w) : zAY hp p = some (zBj k tx c (.s (.sl 4 (Nd.encs ks)))):=by
 simp only [At] at h;obtain ⟨v,hc,⟨rfl,_⟩ | ⟨_,_,_,h,_⟩ | ⟨q,rows,keys',_,_,_,h,_⟩⟩:=h
 ·exact hc
 ·cases h
 ·cases h
theorem zH5 {hp hp' : Nat → Option Ob} {sz k : Nat} {p : AV} {c : List AV} (hl : isL sz p) (h1 : hp' k = hp k) (h2 : hp' (zBv p) = hp (zBv p)) : putC hp' p c k = putC hp p c k:=by
 rcases hl with ⟨q,i,rfl⟩ | ⟨q,rfl⟩ <;> (simp only [zBv] at h2; simp only [putC,h1,h2])
theorem zS4 {hp hp' : Nat → Option Ob} {sz k : Nat} {p : AV} {c c' cs : List AV} (hl : isL sz p) (hc : zAY hp p = some cs) (h : hp' (zBv p) = putC hp p c' (zBv p)) (hk : k ≠ zBv p → hp' k = hp k) : putC hp' p c k = putC hp p c k:=by
 by_cases hb : k = zBv p
 ·subst hb;rcases zCR hl hc with ⟨q,i,e,rows,rfl,hq,hi⟩ | ⟨q,bt,rfl,hq⟩
  ·simp only [zBv] at h ⊢;rw [zI2 hq] at h ⊢;simp only [Nat.beq_refl,cond_true] at h ⊢;rw [zI2 h]
   simp only [Nat.beq_refl,cond_true,List.set_set]
  ·simp only [zBv] at h ⊢;rw [zFN hq] at h ⊢;simp only [Nat.beq_refl,cond_true] at h ⊢;rw [zFN h]
   simp only [Nat.beq_refl,cond_true]
 ·rw [zBR hb,zBR hb,hk hb]
theorem zTZ {q j : Nat} : locs q 0 (j + 1) = locs q 0 j ++ [.rp q 4 j 0]:=by
 simp [locs,List.range'_concat]
theorem zU8 {α : Type} {S : List α} {p : α} : ((S ++ [p]).map fun p=>[p]).getD S.length [] = [p]:=by
 simp [List.getD_eq_getElem?_getD]
structure DInv (hp : Nat → Option Ob) (n e pe : Nat) (t : Nd) (H : Nat → Option Ob) (ls nx : Nat) (S : List AV) (keys : List Nat) (w : Nat) : Prop where
 low : ∀ k,k < n → H k = hp k
 res : ∃ a b c d,H (n + 1) = some (.box e [a,b,c,d])
 stk : H ls = some (.arow pe 1 (S.map fun p=>[p]))
 tree : At H e (.op n 0) t keys S w
 nd : (n :: keys).Nodup
 kb : ∀ k ∈ keys,n + 1 < k ∧ k < nx ∧ k ≠ ls
 l1 : n + 1 < ls
 l2 : ls < nx
set_option maxHeartbeats 4000000 in
theorem zGX : PSound Tryz.prog 34 zLn:=by
 have gok : ∀ (f : Nat) (s : zAt),(fun _=>none : Nat → Option zAt) f = some s → PSound Tryz.prog f s:=fun _ _ h=>by cases h
 refine zNt tokW Tryz.call34 Tryz.func34 rfl (fun xs hp n Φ h=>by obtain ⟨_,_,_,_,_,rfl,_⟩:=h; show 1 ≤ _; decide) _ rfl ?_;rintro xs hp n Φ w0 G0 B0 ⟨k0,c,tx,ks,hcnt,rfl,hΦ⟩ _ hhp;refine zAa ?_;refine zAb [1,2] [] rfl ?_;show Tri ..;refine zAa ?_;refine zAb [7] [] rfl ?_;show Tri ..
 refine zAj (Le.forgetH [(1,.op n 0),(2,.op (n + 1) 0),(3,.orow (n + 2))] (fun k=>bif Nat.beq k (n + 2) then some (.arow 96 1 [[.op n 0]]) else bif Nat.beq k (n + 1) then some (.box 24 [.s (.int .i64 0),.s (.str []),.s (.int .i64 0),.nl 4]) else bif Nat.beq k n then some (.box 24 (zBj k0 tx c (.s (.sl 4 (Nd.encs ks))))) else hp k) (n + 3) ⟨rfl,rfl,rfl,trivial⟩ (fun k=>rfl) rfl) ?_
 have hI : DInv hp n 24 96 (.mk k0 tx c ks) (fun k=>bif Nat.beq k (n + 2) then some (.arow 96 1 [[.op n 0]]) else bif Nat.beq k (n + 1) then some (.box 24 [.s (.int .i64 0),.s (.str []),.s (.int .i64 0),.nl 4]) else bif Nat.beq k n then some (.box 24 (zBj k0 tx c (.s (.sl 4 (Nd.encs ks))))) else hp k) (n + 2) (n + 3) [.op n 0] [] (Nd.mk k0 tx c ks).cnt:={
  low:=fun k hk=>by
   have h1 : k ≠ n + 2 :=(by omega);have h2 : k ≠ n + 1 :=(by omega);have h3 : k ≠ n :=(by omega);simp only [zD3 h1,zD3 h2,zD3 h3,cond_false]
  res:=⟨.s (.int .i64 0),.s (.str []),.s (.int .i64 0),.nl 4,by
   have h1 : n + 1 ≠ n + 2 :=(by omega);simp only [zD3 h1,Nat.beq_refl,cond_false,cond_true]⟩
  stk:=by simp only [Nat.beq_refl,cond_true]; rfl
  tree:=by
   have h1 : n ≠ n + 2 :=(by omega);have h2 : n ≠ n + 1 :=(by omega);simp only [At]
   exact ⟨.s (.sl 4 (Nd.encs ks)),zD5 (bt:=24) (by simp only [zD3 h1,zD3 h2,Nat.beq_refl,cond_false,cond_true]),.inl (by simp [Nd.cnt])⟩
  nd:=by simp
  kb:=fun k hk=>by cases hk
  l1:=by omega
  l2:=by omega }
 generalize hH : (fun k=>bif Nat.beq k (n + 2) then some (Ob.arow 96 1 [[AV.op n 0]]) else bif Nat.beq k (n + 1) then some (Ob.box 24 [AV.s (.int .i64 0),AV.s (.str []),AV.s (.int .i64 0),AV.nl 4]) else bif Nat.beq k n then some (Ob.box 24 (zBj k0 tx c (.s (.sl 4 (Nd.encs ks))))) else hp k) = H0 at hI ⊢
 clear hH
 refine zAa ?_;refine zAl (zAI (X:=(Nat → Option Ob) × Nat × Nat × List AV × List Nat × Nat) (fun y=>match y with | (H,ls,nx,S,keys,w)=>⟨ofL [(1,.op n 0),(2,.op (n + 1) 0),(3,.orow ls)],H,nx⟩)
  (fun y=>match y with | (H,ls,nx,S,keys,w)=>DInv hp n 24 96 (.mk k0 tx c ks) H ls nx S keys w) (fun y=>match y with | (H,ls,nx,S,keys,w)=>w) (H0,n + 2,n + 3,[.op n 0],[],(Nd.mk k0 tx c ks).cnt) hI (Le.refl _ _) ?_)
 rintro ⟨H,ls,nx,S,keys,w⟩ hI;have hI : DInv hp n 24 96 (.mk k0 tx c ks) H ls nx S keys w:=hI;refine zAa ?_;refine zAa ?_;refine zAb [] [] rfl ?_;refine zAe rfl rfl rfl rfl rfl rfl trivial ?_;refine zAe rfl rfl rfl rfl rfl (zMo rfl rfl rfl rfl rfl hI.stk) trivial ?_;refine zAe rfl rfl rfl rfl rfl rfl trivial ?_;show Tri ..;refine zAd rfl (fun hb=>?_) (fun hb=>?_)
 rotate_left
 ·refine zAM ?_;show Tri ..;refine zAj (Le.forget [(1,.op n 0),(2,.op (n + 1) 0),(3,.orow ls)] ⟨rfl,rfl,rfl,trivial⟩) ?_;have hS : S = []:=by
   cases S with
   | nil=>rfl
   | cons x S =>
    have:=of_decide_eq_false hb;simp only [List.length_map,List.length_cons] at this
    omega
  subst hS;obtain ⟨v,hc,hv⟩:=hI.tree.full;rcases zCR (sz:=4) (.inr ⟨n,rfl⟩) hc with ⟨q,i,e,rows,h1,_⟩ | ⟨q,bt,h1,hq⟩
  ·cases h1
  cases h1;obtain ⟨ra,rb,rc,rd,hr1⟩:=hI.res;refine zAa ?_;refine zAb [] [] rfl ?_;refine zAe rfl rfl rfl rfl rfl (zUA rfl rfl rfl rfl hq rfl) trivial ?_;have hvl : v.one = true ∧ v.lt nx = true:=by
   rcases hv with ⟨_,rfl,_⟩ | ⟨q,_,_,_,rfl,_,_,hk,_⟩
   ·exact ⟨rfl,rfl⟩
   ·exact ⟨rfl,decide_eq_true (hI.kb q (by rw [hk]; exact List.mem_cons_self)).2.1⟩
  refine zFG rfl rfl rfl (zMp rfl rfl rfl hr1 rfl rfl (by show ([AV.s _,AV.s _,AV.s _,v] : List AV).all AV.one = true; simp only [List.all_cons,List.all_nil,hvl.1]; rfl) (by show AV.ltAll nx [AV.s _,AV.s _,AV.s _,v] = true; simp only [AV.ltAll,hvl.2]; rfl)) trivial ?_;show Tri ..;refine zAh ?_;have hln : n < nx:=Nat.lt_trans (Nat.lt_trans (Nat.lt_succ_self n) hI.l1) hI.l2;have hdeep : AV.deep (.agg (zBj k0 tx c v)) = .agg (zBj k0 tx c v):=by
   rcases hv with ⟨_,rfl,_⟩ | ⟨q,_,_,_,rfl,_⟩ <;> rfl
  unfold zFW;refine ⟨_,Le.refl _ _,.agg (zBj k0 tx c v),?_,hΦ v _ _ keys (Nat.le_of_lt hln) (fun k hk=>?_) ?_ (List.nodup_cons.1 hI.nd).2 fun k hk=>⟨Nat.le_of_lt (Nat.lt_trans (Nat.lt_succ_self n) (hI.kb k hk).1),(hI.kb k hk).2.1⟩⟩
  ·exact (zUr (cells:=zBj k0 tx c v) rfl zUH rfl rfl rfl).trans (congrArg some hdeep)
  ·exact (upd_ne (by omega)).trans (hI.low k hk)
  ·exact hv.frame fun k hk=>upd_ne (by have:=(hI.kb k hk).1; omega)
 refine zAg ?_;show Tri ..;obtain ⟨S',p,rfl⟩ : ∃ S' p,S = S' ++ [p]:=by
  rcases List.eq_nil_or_concat S with rfl | ⟨S',p,rfl⟩
  ·cases hb
  ·exact ⟨S',p,List.concat_eq_append⟩
 have hl0 : isL 4 p:=hI.tree.loc (.inr ⟨n,rfl⟩) (by simp)
 obtain ⟨⟨k1,tx1,c1,ks1⟩,w1,hp0,hw,hrep⟩:=hI.tree.repl (.inr ⟨n,rfl⟩) hI.nd;have hcell:=hp0.pend;have hwl:=hI.tree.len;have hSl : S'.length < 1000000000:=by
  have:=hwl.1;have:=hwl.2;simp only [List.length_append,List.length_singleton] at *
  omega
 have hz : IntKind.i64.wrap (((((S' ++ [p]).map fun p=>[p]).length : Nat) : Int) - 1) = (S'.length : Int):=by
  rw [wrap64_in (by simp only [List.length_map,List.length_append,List.length_singleton]; omega) (by simp only [List.length_map,List.length_append,List.length_singleton]; omega)]
  simp only [List.length_map,List.length_append,List.length_singleton]; omega
 have hlt1 : S'.length < ((S' ++ [p]).map fun p=>[p]).length :=(by simp);refine zAj (Le.forget [(1,.op n 0),(2,.op (n + 1) 0),(3,.orow ls)] ⟨rfl,rfl,rfl,trivial⟩) ?_;refine zAl ?_;refine zAa ?_;refine zAb [] [] rfl ?_;refine zAe rfl rfl rfl rfl rfl rfl trivial ?_;refine zAe rfl rfl rfl rfl rfl rfl trivial ?_;refine zAe rfl rfl rfl rfl rfl (zMo rfl rfl rfl rfl rfl hI.stk) trivial ?_;refine zAe rfl rfl rfl rfl rfl rfl trivial ?_;rw [hz]
 refine zAe rfl rfl rfl rfl rfl (zOW rfl rfl rfl rfl rfl rfl hI.stk rfl) ⟨Int.natCast_nonneg _,Int.ofNat_lt.2 hlt1⟩ ?_;refine zPN (c:=p) rfl rfl rfl rfl rfl rfl hI.stk hlt1 (by rw [Int.toNat_natCast,zU8]; rfl) ?_;refine zAe rfl rfl rfl rfl rfl (zDd hl0 (.inl rfl) rfl rfl) trivial ?_;show Tri ..;refine zAj (Le.forget [(1,.op n 0),(2,.op (n + 1) 0),(3,.orow ls),(4,p)] ⟨rfl,rfl,rfl,rfl,trivial⟩) ?_;refine zAa ?_;refine zAb [21] [] rfl ?_;refine zAe rfl rfl rfl rfl rfl rfl trivial ?_;refine zAe rfl rfl rfl rfl rfl rfl trivial ?_;refine zAe rfl rfl rfl rfl rfl (zMo rfl rfl rfl rfl rfl hI.stk) trivial ?_
 refine zAe rfl rfl rfl rfl rfl rfl trivial ?_;rw [hz]
 refine zAe rfl rfl rfl rfl rfl (zUB rfl rfl rfl rfl rfl rfl hI.stk rfl) ⟨Int.natCast_nonneg _,Int.ofNat_le.2 (Nat.le_of_lt hlt1)⟩ ?_;refine zAe rfl rfl rfl rfl rfl rfl trivial ?_;show Tri ..;refine zHV [(1,.op n 0),(2,.op (n + 1) 0),(3,.orow nx),(4,p)] (nx + 1) ⟨rfl,rfl,rfl,rfl,trivial⟩ rfl fun H1 hH1=>?_
 have g1 : H1 nx = some (.arow 96 1 (S'.map fun p=>[p])):=(hH1 nx).trans (by
  show (bif Nat.beq nx nx then some (Ob.arow 96 1 (((S' ++ [p]).map fun p=>[p]).take ((S'.length : Int)).toNat)) else _) = _;rw [Nat.beq_refl,cond_true,Int.toNat_natCast]
  simp)
 have g2 : ∀ k,k ≠ nx → k ≠ ls → H1 k = H k:=fun k h1 h2=>(hH1 k).trans (by
  show (bif Nat.beq k nx then _ else bif Nat.beq k ls then none else H k) = _;rw [zD3 h1,zD3 h2]; rfl)
 clear hH1
 have hbase : zBv p = n ∨ zBv p ∈ keys:=by
  rcases hI.tree.base (p0:=p) (by simp) with h | h
  ·exact .inl (by rw [h]; rfl)
  ·exact .inr h
 have hln : n < nx:=Nat.lt_trans (Nat.lt_trans (Nat.lt_succ_self n) hI.l1) hI.l2;have hbl : zBv p ≠ nx ∧ zBv p ≠ ls ∧ zBv p ≠ n + 1 ∧ zBv p < nx:=by
  have h1:=hI.l1;have h2:=hI.l2;rcases hbase with h | h
  ·rw [h]; omega
  ·have:=hI.kb _ h; omega
 have fin : ∀ (cs : List AV) (Hj : Nat → Option Ob) (lsj nxj : Nat) (new : List Nat) (ch : List AV) (w' : Nat),(∀ k,k ≠ ls → k < nx → Hj k = putC H p cs k) → Hj lsj = some (.arow 96 1 ((S' ++ ch).map fun p=>[p])) → At Hj 24 p (.mk k1 tx1 c1 ks1) new ch w' →
   new.Nodup → (∀ k ∈ new,nx ≤ k ∧ k < nxj ∧ k ≠ lsj) → nx ≤ lsj → lsj < nxj → w' < (Nd.mk k1 tx1 c1 ks1).cnt → ∃ keys2,DInv hp n 24 96 (.mk k0 tx c ks) Hj lsj nxj (S' ++ ch) keys2 (w1 + w') ∧ w1 + w' < w:=by
  intro cs Hj lsj nxj new ch w' f1 f2 f3 f4 f5 f6 f7 f8;have l1:=hI.l1;have l2:=hI.l2;have hD : ∀ k,k = n ∨ k ∈ keys → k ≠ ls ∧ k < nx:=fun k hk=>by
   rcases hk with rfl | hk
   ·omega
   ·have:=hI.kb k hk; omega
  obtain ⟨keys2,hperm,hat⟩:=hrep Hj new ch w' (Sim.put hl0 hcell fun k hk=>f1 k (hD k hk).1 (hD k hk).2) f3;have hmem : ∀ k,k ∈ keys2 → k ∈ keys ∨ k ∈ new:=fun k hk=>List.mem_append.1 (hperm.mem_iff.1 hk)
  have hkn:=List.nodup_cons.1 hI.nd;refine ⟨keys2,{
   low:=fun k hk=>(f1 k (by omega) (by omega)).trans ((zBR (by
    rcases hbase with h | h
    ·omega
    ·have:=hI.kb _ h; omega)).trans (hI.low k hk))
   res:=by
    obtain ⟨a,b,c,d,hr⟩:=hI.res;exact ⟨a,b,c,d,(f1 (n + 1) (by omega) (by omega)).trans ((zBR (Ne.symm hbl.2.2.1)).trans hr)⟩
   stk:=f2
   tree:=hat
   nd:=List.nodup_cons.2 ⟨fun hm=>by
    rcases hmem n hm with h | h
    ·exact hkn.1 h
    ·have:=f5 n h; omega,hperm.nodup_iff.2 (List.nodup_append.2 ⟨hkn.2,f4,fun a ha b hb e=>by
     have:=hI.kb a ha;have:=f5 b hb
     omega⟩)⟩
   kb:=fun k hk=>by
    rcases hmem k hk with h | h
    ·have:=hI.kb k h; omega
    ·have:=f5 k h; omega
   l1:=by omega
   l2:=f7 },by omega⟩
 have hc1 : zAY H1 p = some (zBj k1 tx1 c1 (.s (.sl 4 (Nd.encs ks1)))):=(zCj hl0 (g2 _ hbl.1 hbl.2.1)).trans hcell;refine zAa ?_;refine zAb [] [] rfl ?_;refine zAe rfl rfl rfl rfl rfl (zDd hl0 (.inr rfl) rfl rfl) trivial ?_;refine zAe rfl rfl rfl rfl rfl (zEK hl0 rfl rfl) trivial ?_;refine zAe rfl rfl rfl rfl rfl (zE4 hl0 rfl rfl rfl rfl rfl rfl rfl) trivial ?_;refine zDR (off:=3) (sz:=4) rfl rfl rfl rfl rfl rfl rfl hl0 rfl hc1 rfl ?_;refine zAe rfl rfl rfl rfl rfl rfl trivial ?_;show Tri ..
 refine zAj (Le.forget [(1,.op n 0),(2,.op (n + 1) 0),(3,.orow nx),(4,p),(5,.s (.sl 4 (Nd.encs ks1)))] ⟨rfl,rfl,rfl,rfl,rfl,trivial⟩) ?_;refine zAa ?_;refine zAb [] [] rfl ?_;refine zAe rfl rfl rfl rfl rfl (zDd hl0 (.inr rfl) rfl rfl) trivial ?_;refine zAe rfl rfl rfl rfl rfl (zEK hl0 rfl rfl) trivial ?_;refine zAe rfl rfl rfl rfl rfl (zE4 hl0 rfl rfl rfl rfl rfl rfl rfl) trivial ?_;refine zPO (off:=3) (sz:=4) (c:=.s (.sl 4 [])) rfl rfl rfl rfl rfl hl0 rfl hc1 rfl (by decide) rfl rfl rfl ?_;show Tri ..
 refine zHV [(1,.op n 0),(2,.op (n + 1) 0),(3,.orow nx),(4,p),(5,.s (.sl 4 (Nd.encs ks1)))] (nx + 1) ⟨rfl,rfl,rfl,rfl,rfl,trivial⟩ rfl fun H2 hH2=>?_
 have hH2 : ∀ k,H2 k = putC H1 p (zBj k1 tx1 c1 (.s (.sl 4 []))) k:=hH2
 have hc2 : zAY H2 p = some (zBj k1 tx1 c1 (.s (.sl 4 []))):=(zCj hl0 (hH2 _)).trans (zIN hl0 hc1)
 refine zAa ?_;refine zAa ?_;refine zAb [] [] rfl ?_;refine zAe rfl rfl rfl rfl rfl rfl trivial ?_;refine zAe rfl rfl rfl rfl rfl rfl trivial ?_;refine zAe rfl rfl rfl rfl rfl rfl trivial ?_;show Tri ..;refine zAd rfl (fun hb=>?_) (fun hb=>?_)
 rotate_left
 ·obtain rfl : ks1 = []:=by
   cases ks1 with
   | nil=>rfl
   | cons x l =>
    have:=of_decide_eq_false hb;simp only [Nd.encs,List.length_cons] at this
    omega
  refine zAg ?_;show Tri ..;refine zAj (Le.forget [(1,.op n 0),(2,.op (n + 1) 0),(3,.orow nx),(4,p),(5,.s (.sl 4 []))] ⟨rfl,rfl,rfl,rfl,rfl,trivial⟩) ?_;refine zAa ?_;refine zAb [] [] rfl ?_;refine zAe rfl rfl rfl rfl rfl (zDd hl0 (.inr rfl) rfl rfl) trivial ?_;refine zAe rfl rfl rfl rfl rfl (zEK hl0 rfl rfl) trivial ?_;refine zAe rfl rfl rfl rfl rfl (zE4 hl0 rfl rfl rfl rfl rfl rfl rfl) trivial ?_;refine zDR (off:=3) (sz:=4) rfl rfl rfl rfl rfl rfl rfl hl0 rfl hc2 rfl ?_;refine zAe rfl rfl rfl rfl rfl rfl trivial ?_;refine zAe rfl rfl rfl rfl rfl rfl trivial ?_;show Tri ..
  refine zAj (Le.forget [(1,.op n 0),(2,.op (n + 1) 0),(3,.orow nx),(4,p),(5,.s (.sl 4 []))] ⟨rfl,rfl,rfl,rfl,rfl,trivial⟩) ?_;refine zAa ?_;refine zAb [] [] rfl ?_;refine zAe rfl rfl rfl rfl rfl (zDd hl0 (.inr rfl) rfl rfl) trivial ?_;refine zAe rfl rfl rfl rfl rfl (zEK hl0 rfl rfl) trivial ?_;refine zAe rfl rfl rfl rfl rfl (zE4 hl0 rfl rfl rfl rfl rfl rfl rfl) trivial ?_;refine zDR (off:=3) (sz:=4) rfl rfl rfl rfl rfl rfl rfl hl0 rfl hc2 rfl ?_;refine zAe rfl rfl rfl rfl rfl rfl trivial ?_;refine zAe rfl rfl rfl rfl rfl rfl trivial ?_;show Tri ..
  refine zAl (zAI (X:=Unit) (fun _=>⟨ofL [(1,.op n 0),(2,.op (n + 1) 0),(3,.orow nx),(48,.s (.int .i64 0)),(49,.s (.int .i64 0))],H2,nx + 1⟩) (fun _=>True) (fun _=>0) () trivial (Le.forget [(1,.op n 0),(2,.op (n + 1) 0),(3,.orow nx),(48,.s (.int .i64 0)),(49,.s (.int .i64 0))] ⟨rfl,rfl,rfl,rfl,rfl,trivial⟩) ?_)
  rintro ⟨⟩ _;refine zAa ?_;refine zAb [] [] rfl ?_;refine zAe rfl rfl rfl rfl rfl rfl trivial ?_;show Tri ..;refine zAa ?_;refine zAd rfl (fun hb=>by cases hb) (fun hb=>?_)
  refine zAM ?_;obtain ⟨keys2,hz1,hz2⟩:=fin (zBj k1 tx1 c1 (.s (.sl 4 []))) H2 nx (nx + 1) [] [] 0
   (fun k h1 h2=>(hH2 k).trans (zH5 hl0 (g2 k (by omega) h1) (g2 _ hbl.1 hbl.2.1)))
   (by rw [List.append_nil]; exact (hH2 nx).trans ((zBR (Ne.symm hbl.1)).trans g1))
   (by simp only [At]; exact ⟨.s (.sl 4 []),hc2,.inr (.inl (by simp))⟩) (by simp) (fun k hk=>by cases hk) (Nat.le_refl _) (Nat.lt_succ_self _) (by simp [Nd.cnt])
  exact ⟨(H2,nx,nx + 1,S' ++ [],keys2,w1 + 0),hz1,Le.forget [(1,.op n 0),(2,.op (n + 1) 0),(3,.orow nx)] ⟨rfl,rfl,rfl,trivial⟩,hz2⟩
 ·have hm : 0 < ks1.length:=by
   have:=of_decide_eq_true hb;rw [Nd.encs_eq,List.length_map] at this
   omega
  have hkl : ks1.length < 1000000000:=by
   have h1:=Nd.cnts_len ks1;have h2:=hwl.2;simp only [Nd.cnt] at hw hcnt h2
   omega
  have hel : (Nd.encs ks1).length = ks1.length :=(by rw [Nd.encs_eq,List.length_map]);refine zAj (Le.forget [(1,.op n 0),(2,.op (n + 1) 0),(3,.orow nx),(4,p),(5,.s (.sl 4 (Nd.encs ks1)))] ⟨rfl,rfl,rfl,rfl,rfl,trivial⟩) ?_;refine zAb [35] [] rfl ?_;refine zAe rfl rfl rfl rfl rfl (zDd hl0 (.inr rfl) rfl rfl) trivial ?_;refine zAe rfl rfl rfl rfl rfl rfl trivial ?_;refine zAe rfl rfl rfl rfl rfl rfl trivial ?_
  refine zAe rfl rfl rfl rfl rfl (zXc rfl rfl rfl rfl rfl rfl rfl rfl rfl) (show 0 ≤ _ ∧ _ from ⟨Int.natCast_nonneg _,Int.le_refl _,show (((Nd.encs ks1).length : Nat) : Int) * ((56 : Nat) : Int) ≤ 281474976710656 by omega,show (((Nd.encs ks1).length : Nat) : Int) ≤ 281474976710656 by omega⟩) ?_;refine zAe rfl rfl rfl rfl rfl (zEK hl0 rfl rfl) trivial ?_;refine zAe rfl rfl rfl rfl rfl (zE4 hl0 rfl rfl rfl rfl rfl rfl rfl) trivial ?_;have hbn : zBv p ≠ nx + 1:=by have:=hbl.2.2.2; omega
  refine zPO (off:=3) (sz:=4) (c:=.orow (nx + 1)) rfl rfl rfl rfl rfl hl0 rfl ((zCj hl0 (by show (bif Nat.beq (zBv p) (nx + 1) then _ else H2 (zBv p)) = _; rw [zD3 hbn]; rfl)).trans hc2) rfl (by decide) rfl rfl (decide_eq_true (Nat.lt_succ_self _)) ?_;show Tri ..;refine zHV [(1,.op n 0),(2,.op (n + 1) 0),(3,.orow nx),(4,p),(5,.s (.sl 4 (Nd.encs ks1)))] (nx + 2) ⟨rfl,rfl,rfl,rfl,rfl,trivial⟩ rfl fun H3 hH3=>?_
  have hH3 : ∀ k,H3 k = putC (fun k=>bif Nat.beq k (nx + 1) then some (.row 24 4 (List.replicate (((Nd.encs ks1).length : Int)).toNat [.int .i64 0,.str [],.int .i64 0,.sl 4 []])) else H2 k) p (zBj k1 tx1 c1 (.orow (nx + 1))) k:=hH3
  have a1 : H3 (nx + 1) = some (.row 24 4 (List.replicate (((Nd.encs ks1).length : Int)).toNat [.int .i64 0,.str [],.int .i64 0,.sl 4 []])):=(hH3 _).trans ((zBR (Ne.symm hbn)).trans (by simp only [Nat.beq_refl,cond_true]))
  have a2 : ∀ k,k ≠ nx + 1 → H3 k = putC H2 p (zBj k1 tx1 c1 (.orow (nx + 1))) k:=fun k hk=>(hH3 k).trans (zH5 hl0 (by simp only [zD3 hk,cond_false]) (by simp only [zD3 hbn,cond_false]))
  have hc3 : zAY H3 p = some (zBj k1 tx1 c1 (.orow (nx + 1))):=(zCj hl0 (a2 _ hbn)).trans (zIN hl0 hc2)
  refine zAj (Le.toA (nx + 1) a1) ?_;refine zAa ?_;refine zAb [] [] rfl ?_;refine zAe rfl rfl rfl rfl rfl (zDd hl0 (.inr rfl) rfl rfl) trivial ?_;refine zAe rfl rfl rfl rfl rfl (zEK hl0 rfl rfl) trivial ?_;refine zAe rfl rfl rfl rfl rfl (zE4 hl0 rfl rfl rfl rfl rfl rfl rfl) trivial ?_;refine zDR (off:=3) (sz:=4) rfl rfl rfl rfl rfl rfl rfl hl0 rfl ((zCj hl0 (upd_ne hbn)).trans hc3) rfl ?_;refine zAe rfl rfl rfl rfl rfl rfl trivial ?_;refine zAe rfl rfl rfl rfl rfl (zVB rfl rfl rfl rfl rfl rfl rfl rfl rfl zUH rfl rfl) (show (List.map _ _).length = List.length _ by simp) ?_;show Tri ..
  refine zHV [(1,.op n 0),(2,.op (n + 1) 0),(3,.orow nx),(4,p),(5,.s (.sl 4 (Nd.encs ks1)))] (nx + 2) ⟨rfl,rfl,rfl,rfl,rfl,trivial⟩ rfl fun H4 hH4=>?_
  have r1 : H4 (nx + 1) = some (.arow 24 4 ((Nd.encs ks1).map (·.map AV.s))):=(hH4 _).trans zUH;have r2 : ∀ k,k ≠ nx + 1 → H4 k = H3 k:=fun k hk=>(hH4 k).trans ((upd_ne hk).trans (upd_ne hk))
  clear hH4
  have hc4 : zAY H4 p = some (zBj k1 tx1 c1 (.orow (nx + 1))):=(zCj hl0 (r2 _ hbn)).trans hc3;refine zAa ?_;refine zAb [] [] rfl ?_;refine zAe rfl rfl rfl rfl rfl (zDd hl0 (.inr rfl) rfl rfl) trivial ?_;refine zAe rfl rfl rfl rfl rfl (zEK hl0 rfl rfl) trivial ?_;refine zAe rfl rfl rfl rfl rfl (zE4 hl0 rfl rfl rfl rfl rfl rfl rfl) trivial ?_;refine zDR (off:=3) (sz:=4) rfl rfl rfl rfl rfl rfl rfl hl0 rfl hc4 rfl ?_;refine zAe rfl rfl rfl rfl rfl (zMo rfl rfl rfl rfl rfl r1) trivial ?_;refine zAe rfl rfl rfl rfl rfl rfl trivial ?_;show Tri ..
  have hlen4 : ((Nd.encs ks1).map (·.map AV.s)).length = ks1.length :=(by rw [List.length_map,hel]);refine zAl (zAI (X:=(Nat → Option Ob) × Nat × Nat × Nat) (fun y=>match y with | (Hj,lsj,nxj,j)=>⟨ofL [(1,.op n 0),(2,.op (n + 1) 0),(3,.orow lsj),(4,p),(48,.s (.int .i64 (ks1.length : Int))),(49,.s (.int .i64 (j : Int)))],Hj,nxj⟩)
   (fun y=>match y with | (Hj,lsj,nxj,j)=>j ≤ ks1.length ∧ (∀ k,k ≠ nx → k < nx + 2 → Hj k = H4 k) ∧ Hj lsj = some (.arow 96 1 ((S' ++ locs (nx + 1) 0 j).map fun p=>[p])) ∧ (lsj = nx ∨ nx + 2 ≤ lsj) ∧ lsj < nxj ∧ nx + 2 ≤ nxj) (fun y=>match y with | (Hj,lsj,nxj,j)=>ks1.length - j) (H4,nx,nx + 2,0)
   ⟨Nat.zero_le _,fun k _ _=>rfl,by
    refine (r2 nx (by omega)).trans ((a2 nx (by omega)).trans ((zBR (Ne.symm hbl.1)).trans ((hH2 nx).trans ((zBR (Ne.symm hbl.1)).trans (g1.trans ?_)))))
    simp [locs],.inl rfl,by omega,Nat.le_refl _⟩
   (Le.forget [(1,.op n 0),(2,.op (n + 1) 0),(3,.orow nx),(4,p),(48,.s (.int .i64 (ks1.length : Int))),(49,.s (.int .i64 ((0 : Nat) : Int)))] ⟨rfl,rfl,rfl,rfl,congrArg (fun m : Nat=>AV.s (.int .i64 (m : Int))) hlen4,rfl,trivial⟩) ?_)
  rintro ⟨Hj,lsj,nxj,j⟩ ⟨i1,i2,i3,i4,i5,i6⟩
  have hbj : zBv p ≠ nx ∧ zBv p < nx + 2:=⟨hbl.1,by have:=hbl.2.2.2; omega⟩
  have hcj : zAY Hj p = some (zBj k1 tx1 c1 (.orow (nx + 1))):=(zCj hl0 (i2 _ hbj.1 hbj.2)).trans hc4;have hrj : Hj (nx + 1) = some (.arow 24 4 ((Nd.encs ks1).map (·.map AV.s))):=(i2 (nx + 1) (by omega) (by omega)).trans r1;refine zAa ?_;refine zAb [] [] rfl ?_;refine zAe rfl rfl rfl rfl rfl rfl trivial ?_;show Tri ..;refine zAa ?_;refine zAd rfl (fun hb=>?_) (fun hb=>?_)
  ·refine zAg ?_;show Tri ..;have hj : j < ks1.length:=Int.ofNat_lt.1 (of_decide_eq_true hb)
   have hsl : ((S' ++ locs (nx + 1) 0 j).map fun p=>[p]).length = S'.length + j :=(by simp [locs]);refine zAj (Le.forget [(1,.op n 0),(2,.op (n + 1) 0),(3,.orow lsj),(4,p),(48,.s (.int .i64 (ks1.length : Int))),(49,.s (.int .i64 (j : Int)))] ⟨rfl,rfl,rfl,rfl,rfl,rfl,trivial⟩) ?_;refine zAa ?_;refine zAl ?_;refine zAa ?_;refine zAb [] [] rfl ?_;refine zAe rfl rfl rfl rfl rfl rfl trivial ?_;refine zAe rfl rfl rfl rfl rfl rfl trivial ?_;show Tri ..;refine zAb [59,60] [] rfl ?_;refine zAe rfl rfl rfl rfl rfl rfl trivial ?_;refine zAe rfl rfl rfl rfl rfl (zDd hl0 (.inr rfl) rfl rfl) trivial ?_
   refine zAe rfl rfl rfl rfl rfl (zEK hl0 rfl rfl) trivial ?_;refine zAe rfl rfl rfl rfl rfl (zE4 hl0 rfl rfl rfl rfl rfl rfl rfl) trivial ?_;refine zDR (off:=3) (sz:=4) rfl rfl rfl rfl rfl rfl rfl hl0 rfl hcj rfl ?_;refine zAe rfl rfl rfl rfl rfl rfl trivial ?_;refine zAe rfl rfl rfl rfl rfl (zOW rfl rfl rfl rfl rfl rfl hrj rfl) ⟨Int.natCast_nonneg _,Int.ofNat_lt.2 (by rw [hlen4]; exact hj)⟩ ?_;rw [Int.toNat_natCast]
   refine zAe rfl rfl rfl rfl rfl rfl trivial ?_;refine zAe rfl rfl rfl rfl rfl (zWv (rows:=(S' ++ locs (nx + 1) 0 j).map fun p=>[p]) (rows2:=[[.rp (nx + 1) 4 j 0]]) rfl rfl rfl rfl rfl rfl rfl rfl rfl (by show (bif Nat.beq lsj nxj then _ else Hj lsj) = _; rw [zD3 (by omega)]; exact i3) (by show (bif Nat.beq nxj nxj then _ else Hj nxj) = _; rw [Nat.beq_refl]; rfl) rfl rfl rfl) (show (((S' ++ locs (nx + 1) 0 j).map fun p=>[p]).length + 1) * 8 ≤ 140737488355328 ∧ ((S' ++ locs (nx + 1) 0 j).map fun p=>[p]).length + 1 ≤ 9223372036854775807 by rw [hsl]; omega) ?_;refine zAe rfl rfl rfl rfl rfl rfl trivial ?_;show Tri ..
   refine zHV [(1,.op n 0),(2,.op (n + 1) 0),(3,.orow (nxj + 1)),(4,p),(48,.s (.int .i64 (ks1.length : Int))),(49,.s (.int .i64 (j : Int)))] (nxj + 2) ⟨rfl,rfl,rfl,rfl,rfl,rfl,trivial⟩ rfl fun H5 hH5=>?_
   have e1 : H5 (nxj + 1) = some (.arow 96 1 ((S' ++ locs (nx + 1) 0 (j + 1)).map fun p=>[p])):=(hH5 _).trans (by
    show (bif Nat.beq (nxj + 1) (nxj + 1) then some (Ob.arow 96 1 (((S' ++ locs (nx + 1) 0 j).map fun p=>[p]) ++ [[.rp (nx + 1) 4 j 0]])) else _) = _;rw [Nat.beq_refl,cond_true,zTZ]
    simp)
   have e2 : ∀ k,k ≠ nxj + 1 → k ≠ lsj → k ≠ nxj → H5 k = Hj k:=fun k h1 h2 h3=>(hH5 k).trans (by
    show (bif Nat.beq k (nxj + 1) then _ else bif Nat.beq k lsj then none else bif Nat.beq k nxj then _ else Hj k) = _;rw [zD3 h1,zD3 h2,zD3 h3]; rfl)
   clear hH5
   refine zAb [] [] rfl ?_;refine zAe rfl rfl rfl rfl rfl rfl trivial ?_;refine zAe rfl rfl rfl rfl rfl rfl trivial ?_;exact ⟨(H5,nxj + 1,nxj + 2,j + 1),⟨hj,fun k h1 h2=>(e2 k (by omega) (by omega) (by omega)).trans (i2 k h1 h2),e1,.inr (by omega),by omega,by omega⟩,
    Le.forget [(1,.op n 0),(2,.op (n + 1) 0),(3,.orow (nxj + 1)),(4,p),(48,.s (.int .i64 (ks1.length : Int))),(49,.s (.int .i64 ((j + 1 : Nat) : Int)))] ⟨rfl,rfl,rfl,rfl,rfl,congrArg (fun z=>AV.s (.int .i64 z)) (zAX (by omega)),trivial⟩,by show ks1.length - (j + 1) < ks1.length - j; omega⟩
  ·refine zAM ?_;have hj : j = ks1.length:=by
    have:=of_decide_eq_false hb
    omega
   subst hj;obtain ⟨keys2,hz1,hz2⟩:=fin (zBj k1 tx1 c1 (.orow (nx + 1))) Hj lsj nxj [nx + 1] (locs (nx + 1) 0 ks1.length) (Nd.cnts ks1)
    (fun k h1 h2=>(i2 k (by omega) (by omega)).trans ((r2 k (by omega)).trans ((a2 k (by omega)).trans (zS4 hl0 hcell ((hH2 _).trans (zH5 hl0 (g2 _ hbl.1 hbl.2.1) (g2 _ hbl.1 hbl.2.1))) fun hk=>(hH2 k).trans ((zBR hk).trans (g2 k (by omega) h1))))))
    i3 (by simp only [At]; exact ⟨.orow (nx + 1),hcj,.inr (.inr ⟨nx + 1,_,[],rfl,hrj,hlen4,rfl,LAt.copied hrj⟩)⟩) (by simp) (fun k hk=>by
     have:=List.mem_singleton.1 hk
     omega) (by omega) i5 (by simp [Nd.cnt])
   exact ⟨(Hj,lsj,nxj,S' ++ locs (nx + 1) 0 ks1.length,keys2,w1 + Nd.cnts ks1),hz1,Le.forget [(1,.op n 0),(2,.op (n + 1) 0),(3,.orow lsj)] ⟨rfl,rfl,rfl,trivial⟩,hz2⟩
def zQ5 (xs : List AV) (r : Ret) : Prop:=∃ (a0 : Nd) (y0 : Nd),zBc a0 = some y0 ∧ xs = [.agg ((Nd.enc a0).map .s)] ∧ r = .val (.agg ((Nd.enc y0).map .s))
def zDV : zAt:=zAG fun xs r=>zQ5 xs r
theorem zEc : PSound Tryz.prog 34 zDV :=
 PSound.giveAll zGX fun xs r h=>by
  obtain ⟨⟨k,t,c,ks⟩,y,hm,rfl,rfl⟩:=h;obtain ⟨hq,hm⟩:=zAR hm;obtain rfl:=Option.some.inj hm;refine ⟨_,rfl,rfl,k,c,t,ks,hq,rfl,fun v hp' n' keys _ _ hv _ _=>?_⟩
  refine zVp (t:=.mk k t c ks) (RdC.node ?_)
  rcases hv with ⟨rfl,rfl,_⟩ | ⟨q,rows,keys',w,rfl,hq,hlen,rfl,h⟩
  ·exact .s _
  ·exact Rd.rows hq hlen fun j x hj=>(by have:=LAt.rd h j x hj; rwa [Nat.zero_add] at this)
end Go.Proofs.YtjdhkpdjecegnaaGreatDoor
namespace Go.Proofs.YtjdhkpdjecegnaaGreatDoor
open Go.Abs
theorem zGU {n : Nd} {i s : Int} {p : List Int} (h : ¬ (0 ≤ i ∧ i < n.kids.length)) : zCt n (i :: s :: p) = none:=by rw [zCt,if_neg h]
theorem zGV {n x : Nd} {i s : Int} {p : List Int} (h0 : 0 ≤ i) (hx : n.kids[i.toNat]? = some x) (h : ¬ (0 ≤ s ∧ s < x.kids.length)) : zCt n (i :: s :: p) = none:=by
 have hl:=(List.getElem?_eq_some_iff.1 hx).1;rw [zCt,if_pos ⟨h0,by omega⟩]
 simp only [List.getD_eq_getElem?_getD,hx,Option.getD_some]
 rw [if_neg h]
theorem zNq {n x z : Nd} {i s : Int} {p : List Int} (h0 : 0 ≤ i) (hx : n.kids[i.toNat]? = some x) (h1 : 0 ≤ s) (hz : x.kids[s.toNat]? = some z) : zCt n (i :: s :: p) = zCt z p:=by
 have hl:=(List.getElem?_eq_some_iff.1 hx).1;have hl2:=(List.getElem?_eq_some_iff.1 hz).1;rw [zCt,if_pos ⟨h0,by omega⟩]
 simp only [List.getD_eq_getElem?_getD,hx,hz,Option.getD_some]
 rw [if_pos ⟨h1,by omega⟩]
theorem zTM {l : List Nd} {i : Nat} {x : Nd} (h : l[i]? = some x) : (Nd.encs l).getD i [] = Nd.enc x:=by
 simp [Nd.encs_eq,List.getD_eq_getElem?_getD,h]
theorem zH0 (l : List Nd) : (Nd.encs l).length = l.length:=by rw [Nd.encs_eq,List.length_map]
def zTL : Option Nd → AV
 | some y=>.s (.pt (Nd.enc y))
 | none=>.junk
def zRb (xs : List AV) (r : Ret) : Prop:=∃ (a0 : Nd) (a1 : List Int),xs = [.s (.pt (Nd.enc a0)),.s (.sl 1 (a1.map (irow .i64)))] ∧ r = .val (.tup [zTL (zCt a0 a1),.s (.bool (zCt a0 a1).isSome)])
def zLy : zAt:=zAG fun xs r=>zRb xs r
theorem zQr : PSound Tryz.prog 89 zLy:=by
 have gok : ∀ (f : Nat) (s : zAt),(fun _=>none : Nat → Option zAt) f = some s → PSound Tryz.prog f s:=fun _ _ h=>by cases h
 refine zAK tokW Tryz.call89 Tryz.func89 rfl (fun xs r h=>by obtain ⟨_,_,rfl,_⟩:=h; show 2 ≤ _; decide) _ rfl ?_;rintro xs r w0 G0 ⟨n0,p0,rfl,rfl⟩ _;generalize hy : zCt n0 p0 = y;refine zAa ?_;refine zAb [] [] rfl ?_;show Tri ..;refine zAa ?_;refine zAl (zAI (X:=Nd × List Int) (fun x=>match x with | (n,p)=>⟨ofL [(0,.s (.pt (Nd.enc n))),(1,.s (.sl 1 (p.map (irow .i64)))),(4,.s .np),(5,.s (.bool false))],fun _=>none,0⟩)
  (fun x=>match x with | (n,p)=>zCt n p = y) (fun x=>match x with | (n,p)=>p.length) (n0,p0) hy (Le.forget [(0,.s (.pt (Nd.enc n0))),(1,.s (.sl 1 (p0.map (irow .i64)))),(4,.s .np),(5,.s (.bool false))] ⟨rfl,rfl,rfl,rfl,trivial⟩) ?_)
 rintro ⟨⟨k,t,c,ks⟩,p⟩ hI;have hI : zCt (.mk k t c ks) p = y:=hI;refine zAa ?_;refine zAa ?_;refine zAb [] [] rfl ?_;show Tri ..;refine zAd rfl (fun hb=>?_) (fun hb=>?_)
 ·refine zAg ?_;show Tri ..
  match p,hI,hb with
  | [],_,hb=>cases hb
  | [_],_,hb=>cases hb
  | i :: s :: p,hI,hb =>
   refine zAj (Le.forget [(0,.s (.pt (Nd.enc (.mk k t c ks)))),(1,.s (.sl 1 ((i :: s :: p).map (irow .i64)))),(4,.s .np),(5,.s (.bool false))] ⟨rfl,rfl,rfl,rfl,trivial⟩) ?_;refine zAa ?_;refine zAl ?_;refine zAa ?_;refine zAB (by exact tokW) (by exact gok) (by exact mixed) [] [] [1,2,4,5] rfl (by decide +kernel) ?_;refine And.intro (show (0 : Int) ≤ 0 ∧ (0 : Int) < ((((i :: s :: p).map (irow .i64)).length : Nat) : Int) by simp only [List.map_cons,List.length_cons]; omega) ?_;refine And.intro (show (0 : Int) ≤ 1 ∧ (1 : Int) < ((((i :: s :: p).map (irow .i64)).length : Nat) : Int) by simp only [List.map_cons,List.length_cons]; omega) ?_
   show Tri ..;refine zAj (Le.forget [(0,.s (.pt [.int .i64 k,.str t,.int .i64 c,.sl 4 (Nd.encs ks)])),(1,.s (.sl 1 ((i :: s :: p).map (irow .i64)))),(4,.s .np),(5,.s (.bool false)),(6,.s (.int .i64 i)),(7,.s (.int .i64 s))] ⟨rfl,rfl,rfl,rfl,rfl,rfl,trivial⟩) ?_;refine zAa ?_;refine zAa ?_
   by_cases hi : i < 0
   ·refine zAb [] [21] rfl ?_;intro b hb;obtain rfl : true = b:=(hb.trans (decide_eq_true hi)).symm;show Tri ..;refine zAd rfl (fun _=>?_) (fun h=>by cases h)
    refine zAa ?_;refine zAb [] [] rfl ?_;show Tri ..;refine zAh ?_;obtain rfl : none = y:=(zGU (fun h=>by omega)).symm.trans hI;unfold zAA;exact ⟨_,Le.forget [(5,.s (.bool false))] ⟨rfl,trivial⟩,rfl,rfl⟩
   by_cases hi2 : (ks.length : Int) ≤ i
   ·refine zAb [] [21,29] rfl ?_;intro b hb;obtain rfl : false = b:=(hb.trans (decide_eq_false hi)).symm;intro b hb;obtain rfl : true = b:=(hb.trans (decide_eq_true (show (((Nd.encs ks).length : Nat) : Int) ≤ i by rw [zH0]; exact hi2))).symm;show Tri ..;refine zAd rfl (fun _=>?_) (fun h=>by cases h)
    refine zAa ?_;refine zAb [] [] rfl ?_;show Tri ..;refine zAh ?_;obtain rfl : none = y:=(zGU (n:=.mk k t c ks) (fun h=>by have : i < ks.length:=h.2; omega)).symm.trans hI;unfold zAA;exact ⟨_,Le.forget [(5,.s (.bool false))] ⟨rfl,trivial⟩,rfl,rfl⟩
   refine zAb [] [21,29] rfl ?_;intro b hb;obtain rfl : false = b:=(hb.trans (decide_eq_false hi)).symm;intro b hb;obtain rfl : false = b:=(hb.trans (decide_eq_false (show ¬ (((Nd.encs ks).length : Nat) : Int) ≤ i by rw [zH0]; exact hi2))).symm;show Tri ..;refine zAd rfl (fun h=>by cases h) (fun _=>?_)
   refine zAg ?_;show Tri ..;have hi0 : i.toNat < ks.length :=(by omega);obtain ⟨⟨k2,t2,c2,ks2⟩,hx⟩ : ∃ x,ks[i.toNat]? = some x:=⟨_,List.getElem?_eq_getElem hi0⟩
   refine zAj (Le.forget [(0,.s (.pt [.int .i64 k,.str t,.int .i64 c,.sl 4 (Nd.encs ks)])),(1,.s (.sl 1 ((i :: s :: p).map (irow .i64)))),(4,.s .np),(5,.s (.bool false)),(6,.s (.int .i64 i)),(7,.s (.int .i64 s))] ⟨rfl,rfl,rfl,rfl,rfl,rfl,trivial⟩) ?_;refine zAa ?_;refine zAb [] [] rfl ?_;refine And.intro (show (0 : Int) ≤ i ∧ i < (((Nd.encs ks).length : Nat) : Int) by rw [zH0]; omega) ?_;show Tri ..
   refine zAj (Le.forget [(0,.s (.pt [.int .i64 k,.str t,.int .i64 c,.sl 4 (Nd.encs ks)])),(1,.s (.sl 1 ((i :: s :: p).map (irow .i64)))),(4,.s .np),(5,.s (.bool false)),(6,.s (.int .i64 i)),(7,.s (.int .i64 s)),(8,.s (.pt [.int .i64 k2,.str t2,.int .i64 c2,.sl 4 (Nd.encs ks2)]))] ⟨rfl,rfl,rfl,rfl,rfl,rfl,congrArg (fun z=>AV.s (.pt z)) (zTM hx),trivial⟩) ?_;refine zAa ?_;refine zAa ?_
   by_cases hs : s < 0
   ·refine zAb [] [38] rfl ?_;intro b hb;obtain rfl : true = b:=(hb.trans (decide_eq_true hs)).symm;show Tri ..;refine zAd rfl (fun _=>?_) (fun h=>by cases h)
    refine zAa ?_;refine zAb [] [] rfl ?_;show Tri ..;refine zAh ?_;obtain rfl : none = y:=(zGV (n:=.mk k t c ks) (by omega) hx (fun h=>by omega)).symm.trans hI;unfold zAA;exact ⟨_,Le.forget [(5,.s (.bool false))] ⟨rfl,trivial⟩,rfl,rfl⟩
   by_cases hs2 : (ks2.length : Int) ≤ s
   ·refine zAb [] [38,46] rfl ?_;intro b hb;obtain rfl : false = b:=(hb.trans (decide_eq_false hs)).symm;intro b hb;obtain rfl : true = b:=(hb.trans (decide_eq_true (show (((Nd.encs ks2).length : Nat) : Int) ≤ s by rw [zH0]; exact hs2))).symm;show Tri ..;refine zAd rfl (fun _=>?_) (fun h=>by cases h)
    refine zAa ?_;refine zAb [] [] rfl ?_;show Tri ..;refine zAh ?_;obtain rfl : none = y:=(zGV (n:=.mk k t c ks) (by omega) hx (fun h=>by have : s < ks2.length:=h.2; omega)).symm.trans hI;unfold zAA;exact ⟨_,Le.forget [(5,.s (.bool false))] ⟨rfl,trivial⟩,rfl,rfl⟩
   refine zAb [] [38,46] rfl ?_;intro b hb;obtain rfl : false = b:=(hb.trans (decide_eq_false hs)).symm;intro b hb;obtain rfl : false = b:=(hb.trans (decide_eq_false (show ¬ (((Nd.encs ks2).length : Nat) : Int) ≤ s by rw [zH0]; exact hs2))).symm;show Tri ..;refine zAd rfl (fun h=>by cases h) (fun _=>?_)
   refine zAg ?_;show Tri ..;have hs0 : s.toNat < ks2.length :=(by omega);obtain ⟨z,hz⟩ : ∃ z,ks2[s.toNat]? = some z:=⟨_,List.getElem?_eq_getElem hs0⟩
   refine zAj (Le.forget [(0,.s (.pt [.int .i64 k,.str t,.int .i64 c,.sl 4 (Nd.encs ks)])),(1,.s (.sl 1 ((i :: s :: p).map (irow .i64)))),(4,.s .np),(5,.s (.bool false)),(6,.s (.int .i64 i)),(7,.s (.int .i64 s)),(8,.s (.pt [.int .i64 k2,.str t2,.int .i64 c2,.sl 4 (Nd.encs ks2)]))] ⟨rfl,rfl,rfl,rfl,rfl,rfl,rfl,trivial⟩) ?_;refine zAb [] [] rfl ?_;refine And.intro (show (0 : Int) ≤ s ∧ s < (((Nd.encs ks2).length : Nat) : Int) by rw [zH0]; omega) ?_;show Tri ..
   refine zAj (Le.forget [(0,.s (.pt (Nd.enc z))),(1,.s (.sl 1 ((i :: s :: p).map (irow .i64)))),(4,.s .np),(5,.s (.bool false))] ⟨congrArg (fun z=>AV.s (.pt z)) (zTM hz),rfl,rfl,rfl,trivial⟩) ?_;refine zAb [] [] rfl ?_;refine And.intro (show (0 : Int) ≤ 2 ∧ (2 : Int) ≤ ((((i :: s :: p).map (irow .i64)).length : Nat) : Int) ∧ _ ≤ _ from ⟨by decide,by simp only [List.map_cons,List.length_cons]; omega,Int.le_refl _⟩) ?_
   exact ⟨(z,p),(zNq (n:=.mk k t c ks) (by omega) hx (by omega) hz).symm.trans hI,Le.forget [(0,.s (.pt (Nd.enc z))),(1,.s (.sl 1 (p.map (irow .i64)))),(4,.s .np),(5,.s (.bool false))] ⟨rfl,congrArg (fun z=>AV.s (.sl 1 z)) (by rw [Int.toNat_natCast,List.take_length]; rfl),rfl,rfl,trivial⟩,by show p.length < p.length + 1 + 1; omega⟩
 ·refine zAM ?_;show Tri ..;refine zAa ?_
  match p,hI,hb with
  | [],hI,_ =>
   refine zAb [] [] rfl ?_;show Tri ..;refine zAh ?_;obtain rfl : some (.mk k t c ks) = y:=hI;unfold zAA;exact ⟨_,Le.refl _ _,rfl,rfl⟩
  | [i],hI,_ =>
   refine zAb [] [] rfl ?_;show Tri ..;refine zAh ?_;obtain rfl : none = y:=hI;unfold zAA;exact ⟨_,Le.forget [(5,.s (.bool false))] ⟨rfl,trivial⟩,rfl,rfl⟩
  | i :: s :: p,_,hb=>exact absurd (of_decide_eq_false hb) (by simp only [List.map_cons,List.length_cons]; omega)
end Go.Proofs.YtjdhkpdjecegnaaGreatDoor
namespace Go.Abs
theorem PSound.giveTop {P : Program} {f e sz : Nat} {R : List AV → (Nat → Option Ob) → Nat → (AV → (Nat → Option Ob) → Nat → Prop) → Prop} {S : List AV → List S → List (List S) → Prop} (h : PSound P f (zPX R))
  (hS : ∀ xs cs rs,S xs cs rs → R xs (fun _=>none) 0 fun x hp n=>∃ q rows hpD,x = .agg (cs.map .s ++ [.orow q]) ∧ hp q = some (.arow e sz rows) ∧ rows.length = rs.length ∧ (∀ r ∈ rs,r.length = sz) ∧ (∀ k ob,hpD k = some ob → hp k = some ob ∧ k ≠ q) ∧
   ∀ (i : Nat) x s,rows.flatten[i]? = some x → rs.flatten[i]? = some s → Rd hpD x s) :
  PSound P f (zB6 fun xs os x os'=>∃ cs rs,os = [] ∧ x = .agg (cs.map .s ++ [.orow 0]) ∧ os' = [some (.row e sz rs)] ∧ S xs cs rs):=by
 refine PSound.ofOwn h.1 fun G w β xs vs os x os' hlt hgl hv hxl hob ⟨cs,rs,ho,hx,ho',hs⟩=>?_
 subst ho; subst hx; subst ho'
 refine (h.2.2.2 R rfl G w β xs vs (fun _=>none) 0 _ hlt hgl hv hxl ⟨fun k ob hk=>(by cases hk),fun k ob hk=>(by cases hk),fun k k' ob ob' hk=>(by cases hk)⟩ (hS xs cs rs hs)).mono ?_;rintro e' w' ⟨v,G',β',x,hp',n',rfl,⟨q,rows,hpD,rfl,hq,hlen,hsz,hD,hrd⟩,hn,hfr,hsub,hnew,hlt',hx,hxl,hob,hst⟩
 let c : Cx:=zEU P w β (fun _=>none) 0 G 0
 have hk : Keep G G' w w':=⟨hsub,fun b hb=>hfr.old b (hlt b hb) (by rintro ⟨k,ob,h,_⟩; cases h)⟩
 have hc : Conc c G' β' ⟨fun _=>.junk,hpD,n'⟩ { tmps:=#[],defers:=[] } w':={
  defers:=rfl
  size:=rfl
  env:=fun t=>by simp only [AVal]
  envlt:=fun t=>rfl
  hp:=fun k ob hk=>hob.obs k ob (hD k ob hk).1
  hplt:=fun k ob hk=>hob.lts k ob (hD k ob hk).1
  inj:=fun k k' ob ob' hk hk'=>hob.inj k k' ob ob' (hD k ob hk).1 (hD k' ob' hk').1
  lt:=hlt'
  sub:=hsub
  new:=hnew
  fr:=hfr
  stay:=⟨hn,hst⟩
  glob:=hgl.keep hk }
 have hmine : ∀ b,c.mine b → w.heap.size ≤ b:=fun b hb=>by
  rcases hb with ⟨k,ob,h,_⟩ | h
  ·cases h
  ·exact h
 have hk' : Keep G' (allG G' β' hpD) w' w':=⟨fun _ h=>.inl h,fun _ _=>rfl⟩
 refine ⟨v,allG G' β' hpD,fun _=>β' q,rfl,⟨hfr.os,hfr.tape,hfr.output,hfr.size,fun b hb _=>hfr.old b hb (by rintro ⟨k,ob,h,_⟩; cases h)⟩,fun b hb=>.inl (hsub b hb),fun b hb=>?_,fun b hb=>?_,?_,?_,Nat.zero_le _,⟨fun i ob hi=>?_,fun i j ob ob' hi hj hne=>?_⟩,fun i ob hi=>absurd hi (Nat.not_lt_zero _)⟩
 ·rcases hb with hb | ⟨k,ob,h1,h2⟩
  ·exact (hnew b hb).imp id fun h=>.inr (hmine b h)
  ·exact .inr (.inr (hmine b (row_block (hc.hp k ob h1) b h2).2))
 ·rcases hb with hb | ⟨k,ob,h1,h2⟩
  ·exact hlt' b hb
  ·exact hc.blk_lt h1 h2
 ·simp only [AVal] at hx ⊢;obtain ⟨us,rfl,hus⟩:=hx;refine ⟨us,rfl,AVals.mk (by rw [hus.length]; simp) fun i y u hy hu=>?_⟩
  rw [List.getElem?_append] at hy
  by_cases hi : i < (cs.map AV.s).length
  ·rw [if_pos hi] at hy;obtain ⟨u',hu',hr⟩:=hus.get (i:=i) (x:=y) (by rw [List.getElem?_append,if_pos hi]; exact hy)
   rw [hu] at hu'; cases hu'
   rw [List.getElem?_map] at hy;obtain ⟨s,_,rfl⟩:=Option.map_eq_some_iff.1 hy;simp only [AVal] at hr ⊢;exact hr.keep hk'
  ·rw [if_neg hi] at hy;have h0 : i - (cs.map AV.s).length = 0 :=(by have:=(List.getElem?_eq_some_iff.1 hy).1; simpa using this);rw [h0] at hy;cases hy;obtain ⟨u',hu',hr⟩:=hus.get (i:=i) (x:=.orow q) (by rw [List.getElem?_append,if_neg hi,h0]; rfl)
   rw [hu] at hu'; cases hu'
   simp only [AVal] at hr ⊢;exact hr
 ·simp only [AV.lt]
  refine zDg fun i y hy=>?_
  rw [List.getElem?_append] at hy;split at hy
  ·rw [List.getElem?_map] at hy;obtain ⟨s,_,rfl⟩:=Option.map_eq_some_iff.1 hy
   rfl
  ·rename_i hi
   have h0 : i - (cs.map AV.s).length = 0 :=(by have:=(List.getElem?_eq_some_iff.1 hy).1; simpa using this);rw [h0] at hy;cases hy
   rfl
 ·match i,hi with
  | 0,hi =>
   cases hi;refine ⟨?_,rfl⟩
   obtain ⟨hl,hz,ho⟩:=hob.obs q _ hq;refine ⟨hsz,hz,?_⟩
   rcases ho with ⟨h1,rfl⟩ | ⟨b,cap,cur,h1,h2,h3,h4,h5,h6,h7⟩
   ·exact .inl ⟨h1,List.length_eq_zero_iff.1 (by simpa using hlen.symm)⟩
   ·refine .inr ⟨b,cap,cur,by rw [← hlen]; exact h1,by rw [← hlen]; exact h2,h3,h4,?_,.inr (hmine b h6),fun i s hi=>?_⟩
    ·rintro (hb | ⟨k,ob,g1,g2⟩)
     ·exact h5 hb
     ·exact hob.inj k q ob _ (hD k ob g1).1 hq (hD k ob g1).2 b g2 (by rw [h1]; rfl)
    ·have hfl:=zA2 hl;have hfs:=zA2 hsz;have hil : i < rows.flatten.length :=(by rw [hfl,hlen,← hfs]; exact (List.getElem?_eq_some_iff.1 hi).1);obtain ⟨u,hu,hr',_⟩:=h7 i _ (List.getElem?_eq_getElem hil)
     exact ⟨u,hu,(hrd i _ s (List.getElem?_eq_getElem hil) hi).rep hc hr'⟩
  | i + 1,hi=>simp at hi
 ·match i,j,hi,hj with
  | 0,0,_,_=>exact absurd rfl hne
  | 0,j + 1,_,hj=>simp at hj
  | i + 1,_,hi,_=>simp at hi
end Go.Abs
namespace Go.Proofs.YtjdhkpdjecegnaaGreatDoor
open Go.Abs
theorem VAt.rd {hp : Nat → Option Ob} {e : Nat} {v : AV} {ks : List Nd} {keys : List Nat} (h : VAt hp e v ks keys) : Rd hp v (.sl 4 (Nd.encs ks)):=by
 rcases h with ⟨rfl,rfl,_⟩ | ⟨q,rows,keys',w,rfl,hq,hlen,rfl,h⟩
 ·exact .s _
 ·exact Rd.rows hq hlen fun j x hj=>(by have:=LAt.rd h j x hj; rwa [Nat.zero_add] at this)
def zSJ (xs : List AV) (cs : List S) (rs : List (List S)) : Prop:=∃ (a0 : Nd) (k c : Int) (t : List UInt8) (ks : List Nd),zCF a0 = some (.mk k t c ks) ∧ xs = [.agg ((Nd.enc a0).map .s)] ∧ cs = [.int .i64 k,.str t,.int .i64 c] ∧ rs = Nd.encs ks
theorem zL6 : PSound Tryz.prog 34 (zB6 fun xs os x os'=>∃ cs rs,os = [] ∧ x = .agg (cs.map .s ++ [.orow 0]) ∧ os' = [some (.row 24 4 rs)] ∧ zSJ xs cs rs):=by
 refine PSound.giveTop zGX fun xs cs rs ⟨⟨k0,t0,c0,ks0⟩,k,c,t,ks,hm,hx,hcs,hrs⟩=>?_
 subst hx; subst hcs; subst hrs
 obtain ⟨⟨hq,hne⟩,hm⟩:=zAR hm;cases hm;refine ⟨k0,c0,t0,ks0,hq,rfl,fun v hp' n' keys _ _ hv hnd _=>?_⟩
 rcases hv with ⟨rfl,_⟩ | ⟨q,rows,keys',w,rfl,hq,hlen,rfl,hl⟩
 ·exact absurd rfl hne
 refine ⟨q,rows,fun k=>if k ∈ keys' then hp' k else none,rfl,hq,by rw [Nd.encs_eq,List.length_map]; exact hlen,fun r hr=>?_,fun k ob hk=>?_,zRN fun j r s hr hs=>?_⟩
 ·rw [Nd.encs_eq] at hr;obtain ⟨x,_,rfl⟩:=List.mem_map.1 hr;cases x; rfl
 ·dsimp only at hk;split at hk
  ·rename_i hm
   exact ⟨hk,fun e=>(List.nodup_cons.1 hnd).1 (by rw [← e]; exact hm)⟩
  ·cases hk
 ·rw [Nd.encs_eq,List.getElem?_map] at hs;cases hx : ks0[j]? with
  | none=>rw [hx] at hs; cases hs
  | some x =>
   rw [hx] at hs; cases hs
   obtain ⟨keys0,rest,w0,hperm,hat,_⟩:=LAt.hole (i:=0) hl hnd hx;rw [Nat.zero_add] at hat;obtain ⟨k2,t2,c2,ks2⟩:=x;obtain ⟨v,hc,hv⟩:=hat.full;rw [zFl hq,hr] at hc;cases hc;exact RdC.node (VAt.rd (hv.frame fun k hk=>by
    show (if k ∈ keys' then hp' k else none) = hp' k;rw [if_pos (hperm.mem_iff.2 (List.mem_append_left _ hk))]))
def zLp (xs : List AV) (os : List Ob) (x : AV) (os' : List (Option Ob)) : Prop:=∃ (a0 : Nd) (y0 : Nd),zCF a0 = some y0 ∧ xs = [.agg ((Nd.enc a0).map .s)] ∧ os = [] ∧ x = .agg (match y0 with | .mk k t c _=>[.s (.int .i64 k),.s (.str t),.s (.int .i64 c),.orow 0]) ∧ os' = [some (.row 24 4 (match y0 with | .mk _ _ _ ks=>Nd.encs ks))]
def zFx : zAt:=zB6 (fun xs os x os'=>zLp xs os x os')
theorem zHf : PSound Tryz.prog 34 zFx :=
 PSound.ofOwn zL6.1 fun G w β xs vs os x os' h1 h2 h3 h4 h5 ⟨a0,⟨k,t,c,ks⟩,hm,hx,ho,hr,ho'⟩ =>
  zL6.2.2.1 _ rfl G w β xs vs os x os' h1 h2 h3 h4 h5 ⟨[.int .i64 k,.str t,.int .i64 c],Nd.encs ks,ho,hr,ho',a0,k,c,t,ks,hm,hx,rfl,rfl⟩
end Go.Proofs.YtjdhkpdjecegnaaGreatDoor
namespace Go.Proofs.YtjdhkpdjecegnaaGreatDoor
open Go.Abs
def zA4 (slices1 : List (List Nd)) : Nat → Int → Int → Option (Int)
| 0,_,_=>none
| k+1,x3,size4 =>
 bif decide (x3 < (slices1.length : Int)) then (
  (at? slices1 x3).bind fun e6 =>
  bif decide ((IntKind.i64.wrap (size4 + (e6.length : Int))) < 0) then (
   none
  ) else (
   zA4 slices1 k (IntKind.i64.wrap (x3 + 1)) (IntKind.i64.wrap (size4 + (e6.length : Int)))
  )
 ) else (
  some size4
 )
def zA5 (slices1 : List (List Nd)) : Nat → Int → (List Nd) → Option ((List Nd))
| 0,_,_=>none
| k+1,x11,l13 =>
 bif decide (x11 < (slices1.length : Int)) then (
  (at? slices1 x11).bind fun e15 =>
  req (l13.length + e15.length ≤ 4294967296) <|
  zA5 slices1 k (IntKind.i64.wrap (x11 + 1)) (l13 ++ e15)
 ) else (
  some l13
 )
def zBO (n : Nat) : (List (List Nd)) → Option (List Nd)
| slices1 =>
 (zA4 slices1 n 0 0).bind fun size5 =>
 (zDX size5).bind fun y9 =>
 (zA5 slices1 n 0 y9).bind fun l14 =>
 some l14
def zA8 (n : Nat) : (zO8 × List Nd) → Int → (List Nd) → Option (List Nd)
| ⟨⟨c1Aa,c1Ag,c1F,c1Ab,c1X,c1Z,c1Af,c1Ae⟩,c1J⟩,n2,nodes3 =>
 req (0 ≤ (0 : Int) ∧ (0 : Int) ≤ c1F ∧ c1F ≤ (c1J.length : Int)) <|
 req (0 ≤ (IntKind.i64.wrap (c1F + n2)) ∧ (IntKind.i64.wrap (c1F + n2)) ≤ (c1J.length : Int) ∧ (c1J.length : Int) ≤ (c1J.length : Int)) <|
 (zBO n [(c1J.take c1F.toNat).drop (0 : Int).toNat,nodes3,(c1J.take (c1J.length : Int).toNat).drop (IntKind.i64.wrap (c1F + n2)).toNat]).bind fun y7 =>
 some y7
def zBt (n : Nat) : (zO8 × List Nd) → Option ((List Nd) × Int)
| ⟨⟨c1Aa,c1Ag,c1F,c1Ab,c1X,c1Z,c1Af,c1Ae⟩,c1J⟩ =>
 (at? c1J c1F).bind fun ⟨e2A,e2C,e2D,e2B⟩ =>
 (zCF (Nd.mk e2A e2C e2D e2B)).bind fun ⟨y4A,y4C,y4D,y4B⟩ =>
 (zDp (Nd.mk y4A y4C y4D y4B)).bind fun y5 =>
 bif decide (y5 ≤ c1Z) then (
  some ([],7)
 ) else (
  (at? y4B c1Z).bind fun ⟨e6A,e6C,e6D,e6B⟩ =>
  (at? y4B c1Z).bind fun ⟨e7A,e7C,e7D,e7B⟩ =>
  (
   bif ((e6B.length : Int) != c1Ab) then (
    some true
   ) else (
    (at? c1X 0).bind fun ⟨e11A,e11C,e11D,e11B⟩ =>
    (zB2 n (Nd.mk y4A y4C y4D (y4B.set c1Z.toNat (Nd.mk e7A e7C e7D []))) (Nd.mk e11A e11C e11D e11B)).bind fun y13 =>
    some (!y13)
   )
   : Option (Bool)).bind fun x9 =>
  bif x9 then (
   some ([],7)
  ) else (
   (zA8 n ((c1Aa,c1Ag,c1F,c1Ab,c1X,c1Z,c1Af,c1Ae),c1J) 1 e6B).bind fun y14 =>
   some (y14,0)
  )
 )
def zDh (n : Nat) : (zO8 × List Nd) → Option ((List Nd) × Int)
| ⟨⟨c1Aa,c1Ag,c1F,c1Ab,c1X,c1Z,c1Af,c1Ae⟩,c1J⟩ =>
 (at? c1X 0).bind fun ⟨e2A,e2C,e2D,e2B⟩ =>
 (zCF (Nd.mk e2A e2C e2D e2B)).bind fun ⟨y4A,y4C,y4D,y4B⟩ =>
 req (0 ≤ c1F ∧ c1F ≤ IntKind.i64.wrap (c1F + c1Ab) ∧ IntKind.i64.wrap (c1F + c1Ab) ≤ (c1J.length : Int)) <|
 (zDM ((c1J.take (IntKind.i64.wrap (c1F + c1Ab)).toNat).drop c1F.toNat)).bind fun y6 =>
 (at? y4B c1Z).bind fun ⟨e7A,e7C,e7D,e7B⟩ =>
 (zA8 n ((c1Aa,c1Ag,c1F,c1Ab,c1X,c1Z,c1Af,c1Ae),c1J) c1Ab [Nd.mk y4A y4C y4D (y4B.set c1Z.toNat (Nd.mk e7A e7C e7D y6))]).bind fun y10 =>
 some (y10,0)
def zCC (n : Nat) : (zO8 × List Nd) → Option ((List Nd) × Int)
| ⟨⟨c1Aa,c1Ag,c1F,c1Ab,c1X,c1Z,c1Af,c1Ae⟩,c1J⟩ =>
 (zA8 n ((c1Aa,c1Ag,c1F,c1Ab,c1X,c1Z,c1Af,c1Ae),c1J) 0 c1X).bind fun y2 =>
 some (y2,0)
def zCD (n : Nat) : (zO8 × List Nd) → Option ((List Nd) × Int)
| ⟨⟨c1Aa,c1Ag,c1F,c1Ab,c1X,c1Z,c1Af,c1Ae⟩,c1J⟩ =>
 req (0 ≤ c1F ∧ c1F ≤ IntKind.i64.wrap (c1F + (c1X.length : Int)) ∧ IntKind.i64.wrap (c1F + (c1X.length : Int)) ≤ (c1J.length : Int)) <|
 (zA6 n ((c1J.take (IntKind.i64.wrap (c1F + (c1X.length : Int))).toNat).drop c1F.toNat) c1X).bind fun y4 =>
 bif (!y4) then (
  some ([],7)
 ) else (
  (zA8 n ((c1Aa,c1Ag,c1F,c1Ab,c1X,c1Z,c1Af,c1Ae),c1J) (c1X.length : Int) []).bind fun y5 =>
  some (y5,0)
 )
def zDy (n : Nat) : (zO8 × List Nd) → Option ((List Nd) × Int)
| ⟨⟨c1Aa,c1Ag,c1F,c1Ab,c1X,c1Z,c1Af,c1Ae⟩,c1J⟩ =>
 (at? c1J c1F).bind fun ⟨e2A,e2C,e2D,e2B⟩ =>
 (
  (
   bif (e2A == 2) then (
    some (e2A == 2)
   ) else (
    bif (e2A == 3) then (
     some (e2A == 3)
    ) else (
     bif (e2A == 4) then (
      some (e2A == 4)
     ) else (
      bif (e2A == 10) then (
       some (e2A == 10)
      ) else (
       some (e2A == 11)
      )
     )
    )
   )
   : Option (Bool)).bind fun x4 =>
  bif x4 then (
   some (.go ())
  ) else (
   some (.ret ([],7))
  )
  : Option (Fl ((List Nd) × Int) Unit)).bind fun fl=>match fl with
 | .ret r=>some r
 | .go _ =>
  bif (!(e2C == c1Af)) then (
   some ([],7)
  ) else (
   (zA8 n ((c1Aa,c1Ag,c1F,c1Ab,c1X,c1Z,c1Af,c1Ae),c1J) 1 [Nd.mk e2A c1Ae e2D e2B]).bind fun y6 =>
   some (y6,0)
  )
def zBW : (zO8 × List Nd) → Option Int
| ⟨⟨c1Aa,c1Ag,c1F,c1Ab,c1X,c1Z,c1Af,c1Ae⟩,c1J⟩ =>
 (
  bif (c1Aa == 1) then (
   some 0
  ) else (
   bif (c1Aa == 2) then (
    some (c1X.length : Int)
   ) else (
    bif (c1Aa == 3) then (
     some c1Ab
    ) else (
     some 1
    )
   )
  )
  : Option (Int)).bind fun need2 =>
 (
  bif decide (c1F < 0) then (
   some true
  ) else (
   bif decide ((c1J.length : Int) < c1F) then (
    some true
   ) else (
    some (decide ((IntKind.i64.wrap ((c1J.length : Int) - c1F)) < need2))
   )
  )
  : Option (Bool)).bind fun x4 =>
 bif x4 then (
  some 2
 ) else (
  some 0
 )
def zC7 (n : Nat) : (List Nd) → Int → Option Bool
| l1,slot2 =>
 (
  bif ((l1.length : Int) != 1) then (
   some true
  ) else (
   (zB5 n l1).bind fun y5 =>
   bif (!y5) then (
    some true
   ) else (
    bif decide (slot2 < 0) then (
     some true
    ) else (
     (at? l1 0).bind fun ⟨e6A,e6C,e6D,e6B⟩ =>
     (zDp (Nd.mk e6A e6C e6D e6B)).bind fun y8 =>
     some (decide (y8 ≤ slot2))
    )
   )
  )
  : Option (Bool)).bind fun x3 =>
 bif x3 then (
  some false
 ) else (
  (at? l1 0).bind fun ⟨e9A,e9C,e9D,e9B⟩ =>
  (at? e9B slot2).bind fun ⟨e11A,e11C,e11D,e11B⟩ =>
  some ((e11B.length : Int) == 0)
 )
def zEk (n : Nat) : zO8 → Option Bool
| ⟨a1A,a1W,a1Y,a1U,a1E,a1V,a1T,a1C⟩ =>
 (
  bif (!(a1T == [])) then (
   some true
  ) else (
   some (!(a1C == []))
  )
  : Option (Bool)).bind fun x2 =>
 (
  (
   bif (a1A == 1) then (
    some (a1A == 1)
   ) else (
    some (a1A == 2)
   )
   : Option (Bool)).bind fun x3 =>
  bif x3 then (
   (
    bif (a1U == 0) then (
     bif (a1V == 0) then (
      bif (!x2) then (
       bif decide (0 < (a1E.length : Int)) then (
        (zB5 n a1E).bind fun y6 =>
        some y6
       ) else (
        some false
       )
      ) else (
       some false
      )
     ) else (
      some false
     )
    ) else (
     some false
    )
    : Option (Bool)).bind fun x4 =>
   some (.ret x4)
  ) else (
   (
    bif (a1A == 3) then (
     some (a1A == 3)
    ) else (
     some (a1A == 4)
    )
    : Option (Bool)).bind fun x7 =>
   bif x7 then (
    (
     bif decide (0 ≤ a1U) then (
      bif (!x2) then (
       (zC7 n a1E a1V).bind fun y9 =>
       some y9
      ) else (
       some false
      )
     ) else (
      some false
     )
     : Option (Bool)).bind fun x8 =>
    some (.ret x8)
   ) else (
    bif (a1A == 5) then (
     (
      bif (a1U == 0) then (
       bif (a1V == 0) then (
        bif ((a1E.length : Int) == 0) then (
         some (!(a1T == a1C))
        ) else (
         some false
        )
       ) else (
        some false
       )
      ) else (
       some false
      )
      : Option (Bool)).bind fun x10 =>
     some (.ret x10)
    ) else (
     some (.go ())
    )
   )
  )
  : Option (Fl Bool Unit)).bind fun fl=>match fl with
 | .ret r=>some r
 | .go _ =>
  some false
def zDn : (List Int) → Option (List Int)
| l1 =>
 (zBJ l1).bind fun y2 =>
 some y2
def zBz (l1 : List Nd) : Nat → Int → (List Nd) → Option ((List Nd))
| 0,_,_=>none
| k+1,x4,l5 =>
 bif decide (x4 < (l1.length : Int)) then (
  (at? l1 x4).bind fun ⟨e7A,e7C,e7D,e7B⟩ =>
  (zBc (Nd.mk e7A e7C e7D e7B)).bind fun ⟨y9A,y9C,y9D,y9B⟩ =>
  req (l5.length + [Nd.mk y9A y9C y9D y9B].length ≤ 4294967296) <|
  zBz l1 k (IntKind.i64.wrap (x4 + 1)) (l5 ++ [Nd.mk y9A y9C y9D y9B])
 ) else (
  some l5
 )
def zEV (n : Nat) : (List Nd) → Option (List Nd)
| l1 =>
 (zBz l1 n 0 []).bind fun l6 =>
 some l6
def zDo (n : Nat) : zO8 → Option zO8
| ⟨op1A,op1W,op1Y,op1U,op1E,op1V,op1T,op1C⟩ =>
 (zDn op1W).bind fun y2 =>
 (zEV n op1E).bind fun y3 =>
 some (op1A,y2,op1Y,op1U,y3,op1V,op1T,op1C)
def zBu : (zO8 × List Nd) → Option ((List Nd) × Int)
| ⟨⟨c1Aa,c1Ag,c1F,c1Ab,c1X,c1Z,c1Af,c1Ae⟩,c1J⟩ =>
 (at? c1J c1F).bind fun ⟨e2A,e2C,e2D,e2B⟩ =>
 (zBc (Nd.mk e2A e2C e2D e2B)).bind fun ⟨y4A,y4C,y4D,y4B⟩ =>
 (zDp (Nd.mk y4A y4C y4D y4B)).bind fun y5 =>
 bif decide (y5 ≤ c1Z) then (
  some ([],7)
 ) else (
  none
 )
end Go.Proofs.YtjdhkpdjecegnaaGreatDoor
namespace Go.Proofs.YtjdhkpdjecegnaaGreatDoor
open Go.Abs
def zBm (n : Nat) (c : zO8 × List Nd) : Option (List Nd × Int) :=
 match zBu c with
 | some r=>some r
 | none=>zBt n c
end Go.Proofs.YtjdhkpdjecegnaaGreatDoor
namespace Go.Proofs.YtjdhkpdjecegnaaGreatDoor
open Go.Abs
def zCc (n : Nat) : (zO8 × List Nd) → Option ((List Nd) × Int)
| ⟨⟨c1Aa,c1Ag,c1F,c1Ab,c1X,c1Z,c1Af,c1Ae⟩,c1J⟩ =>
 (zBW ((c1Aa,c1Ag,c1F,c1Ab,c1X,c1Z,c1Af,c1Ae),c1J)).bind fun y2 =>
 bif (y2 != 0) then (
  some ([],y2)
 ) else (
  bif (c1Aa == 1) then (
   (zCC n ((c1Aa,c1Ag,c1F,c1Ab,c1X,c1Z,c1Af,c1Ae),c1J)).bind fun ⟨y3,y4⟩ =>
   some (y3,y4)
  ) else (
   bif (c1Aa == 2) then (
    (zCD n ((c1Aa,c1Ag,c1F,c1Ab,c1X,c1Z,c1Af,c1Ae),c1J)).bind fun ⟨y5,y6⟩ =>
    some (y5,y6)
   ) else (
    bif (c1Aa == 3) then (
     (zDh n ((c1Aa,c1Ag,c1F,c1Ab,c1X,c1Z,c1Af,c1Ae),c1J)).bind fun ⟨y7,y8⟩ =>
     some (y7,y8)
    ) else (
     bif (c1Aa == 4) then (
      (zBm n ((c1Aa,c1Ag,c1F,c1Ab,c1X,c1Z,c1Af,c1Ae),c1J)).bind fun ⟨y9,y10⟩ =>
      some (y9,y10)
     ) else (
      (zDy n ((c1Aa,c1Ag,c1F,c1Ab,c1X,c1Z,c1Af,c1Ae),c1J)).bind fun ⟨y11,y12⟩ =>
      some (y11,y12)
     )
    )
   )
  )
 )
def zEW (n : Nat) : Nd → zO8 → Option (Nd × Int)
| ⟨n1A,n1C,n1D,n1B⟩,⟨op2A,op2W,op2Y,op2U,op2E,op2V,op2T,op2C⟩ =>
 (zAZ n (Nd.mk n1A n1C n1D n1B)).bind fun y3 =>
 bif (!y3) then (
  some (Nd.mk 0 [] 0 [],1)
 ) else (
  (zEk n (op2A,op2W,op2Y,op2U,op2E,op2V,op2T,op2C)).bind fun y4 =>
  bif (!y4) then (
   some (Nd.mk 0 [] 0 [],4)
  ) else (
   (zGC n (Nd.mk n1A n1C n1D n1B) op2W).bind fun ⟨⟨y5A,y5C,y5D,y5B⟩,y6⟩ =>
   bif (y6 != 0) then (
    some (Nd.mk 0 [] 0 [],y6)
   ) else (
    (zCc n ((op2A,op2W,op2Y,op2U,op2E,op2V,op2T,op2C),y5B)).bind fun ⟨y7,y8⟩ =>
    bif (y8 != 0) then (
     some (Nd.mk 0 [] 0 [],y8)
    ) else (
     (zEG n (Nd.mk n1A n1C n1D n1B) op2W (Nd.mk y5A y5C y5D y7)).bind fun ⟨⟨y9A,y9C,y9D,y9B⟩,y10⟩ =>
     bif (y10 != 0) then (
      some (Nd.mk 0 [] 0 [],6)
     ) else (
      some (Nd.mk y9A y9C y9D y9B,0)
     )
    )
   )
  )
 )
def zBD (n : Nat) (ops2 : List zO8) : Nat → Int → (List UInt8) → Int → (List Nd) → Int → Option (Fl (Nd × Int × Int) (Int × (List UInt8) × Int × (List Nd)))
| 0,_,_,_,_,_=>none
| k+1,x7,x8,x9,x10,x11 =>
 bif decide (x11 < (ops2.length : Int)) then (
  (at? ops2 x11).bind fun ⟨e16A,e16W,e16Y,e16U,e16E,e16V,e16T,e16C⟩ =>
  (zEW n (Nd.mk x7 x8 x9 x10) (e16A,e16W,e16Y,e16U,e16E,e16V,e16T,e16C)).bind fun ⟨⟨y18A,y18C,y18D,y18B⟩,y19⟩ =>
  bif (y19 != 0) then (
   some (.ret (Nd.mk 0 [] 0 [],x11,y19))
  ) else (
   zBD n ops2 k y18A y18C y18D y18B (IntKind.i64.wrap (x11 + 1))
  )
 ) else (
  some (.go (x7,x8,x9,x10))
 )
def zBs (n : Nat) : Nd → (List zO8) → Option (Nd × Int × Int)
| ⟨n1A,n1C,n1D,n1B⟩,ops2 =>
 (zAZ n (Nd.mk n1A n1C n1D n1B)).bind fun y3 =>
 bif (!y3) then (
  some (Nd.mk 0 [] 0 [],0,1)
 ) else (
  (zBc (Nd.mk n1A n1C n1D n1B)).bind fun ⟨y4A,y4C,y4D,y4B⟩ =>
  (zBD n ops2 n y4A y4C y4D y4B 0).bind fun fl=>match fl with
  | .ret r=>some r
  | .go ⟨x12,x13,x14,x15⟩ =>
   some (Nd.mk x12 x13 x14 x15,0,0)
 )
def zBY (n : Nat) : zO8 → Option zO8
| ⟨op1A,op1W,op1Y,op1U,op1E,op1V,op1T,op1C⟩ =>
 (zDo n (op1A,op1W,op1Y,op1U,op1E,op1V,op1T,op1C)).bind fun ⟨y2A,y2W,y2Y,y2U,y2E,y2V,y2T,y2C⟩ =>
 (
  bif (op1A == 1) then (
   some (2,y2T,y2C)
  ) else (
   bif (op1A == 2) then (
    some (1,y2T,y2C)
   ) else (
    bif (op1A == 3) then (
     some (4,y2T,y2C)
    ) else (
     bif (op1A == 4) then (
      some (3,y2T,y2C)
     ) else (
      bif (op1A == 5) then (
       some (y2A,op1C,op1T)
      ) else (
       some (y2A,y2T,y2C)
      )
     )
    )
   )
  )
  : Option (Int × (List UInt8) × (List UInt8))).bind fun ⟨x3,x4,x5⟩ =>
 some (x3,y2W,y2Y,y2U,y2E,y2V,x4,x5)
end Go.Proofs.YtjdhkpdjecegnaaGreatDoor
namespace Go.Proofs.YtjdhkpdjecegnaaGreatDoor
open Go.Abs
def zBd (n : Nat) (ops : List zO8) : Nat → Option (List zO8)
| 0=>some []
| i+1=>(zBd n ops i).bind fun acc=>(ops[ops.length - 1 - i]?).bind fun o=>(zBY n o).bind fun y=>req (acc.length + 1 ≤ 4294967296) <| some (acc ++ [y])
def zBU (n : Nat) : (List zO8) → Option (List zO8)
| ops2=>req (ops2.length ≤ 4294967296) <| zBd n ops2 ops2.length
end Go.Proofs.YtjdhkpdjecegnaaGreatDoor
namespace Go.Proofs.YtjdhkpdjecegnaaGreatDoor
open Go.Abs
def zAS (slices1 : List (List Int)) : Nat → Int → Int → Option (Int)
| 0,_,_=>none
| k+1,x3,size4 =>
 bif decide (x3 < (slices1.length : Int)) then (
  (at? slices1 x3).bind fun e6 =>
  bif decide ((IntKind.i64.wrap (size4 + (e6.length : Int))) < 0) then (
   none
  ) else (
   zAS slices1 k (IntKind.i64.wrap (x3 + 1)) (IntKind.i64.wrap (size4 + (e6.length : Int)))
  )
 ) else (
  some size4
 )
def zAT (slices1 : List (List Int)) : Nat → Int → (List Int) → Option ((List Int))
| 0,_,_=>none
| k+1,x11,l13 =>
 bif decide (x11 < (slices1.length : Int)) then (
  (at? slices1 x11).bind fun e15 =>
  req (l13.length + e15.length ≤ 4294967296) <|
  zAT slices1 k (IntKind.i64.wrap (x11 + 1)) (l13 ++ e15)
 ) else (
  some l13
 )
def zBn (n : Nat) : (List (List Int)) → Option (List Int)
| slices1 =>
 (zAS slices1 n 0 0).bind fun size5 =>
 (zDi size5).bind fun y9 =>
 (zAT slices1 n 0 y9).bind fun l14 =>
 some l14
end Go.Proofs.YtjdhkpdjecegnaaGreatDoor
namespace Go.Proofs.YtjdhkpdjecegnaaGreatDoor
open Go.Abs
def zCO (n : Nat) : zO8 → (List zO8) → Option (List zO8)
| ⟨op1A,op1W,op1Y,op1U,op1E,op1V,op1T,op1C⟩,o2 =>
 (zDo n (op1A,op1W,op1Y,op1U,op1E,op1V,op1T,op1C)).bind fun ⟨y3A,y3W,y3Y,y3U,y3E,y3V,y3T,y3C⟩ =>
 req (o2.length + [(y3A,y3W,y3Y,y3U,y3E,y3V,y3T,y3C)].length ≤ 4294967296) <|
 some (o2 ++ [(y3A,y3W,y3Y,y3U,y3E,y3V,y3T,y3C)])
def zBl (F_diff_insertions : (List Nd) → (List Nd) → (List Int) → (List zO8) → Option (List zO8)) (n : Nat) (a3 : List Int) (x8 : Int) (e14B : List Nd) (e24B : List Nd) : Nat → Int → (List zO8) → Option ((List zO8))
| 0,_,_=>none
| k+1,x31,l32 =>
 bif decide (x31 < (e14B.length : Int)) then (
  (at? e24B x31).bind fun ⟨e34A,e34C,e34D,e34B⟩ =>
  (at? e14B x31).bind fun ⟨e36A,e36C,e36D,e36B⟩ =>
  (zBn n [a3,[x8,x31]]).bind fun y40 =>
  (F_diff_insertions e34B e36B y40 l32).bind fun w41 =>
  zBl F_diff_insertions n a3 x8 e14B e24B k (IntKind.i64.wrap (x31 + 1)) w41
 ) else (
  some l32
 )
def zBk (F_diff_insertions : (List Nd) → (List Nd) → (List Int) → (List zO8) → Option (List zO8)) (n : Nat) (a1 : List Nd) (a2 : List Nd) (a3 : List Int) : Nat → Int → (List (Int × Int)) → (List zO8) → Option ((List zO8))
| 0,_,_,_=>none
| k+1,x8,x9,l10 =>
 bif decide (x8 < (a2.length : Int)) then (
  (
   (at? a2 x8).bind fun ⟨e14A,e14C,e14D,e14B⟩ =>
   (
    bif ((x9.length : Int) == 0) then (
     some true
    ) else (
     (at? x9 0).bind fun ⟨e18H,e18I⟩ =>
     some (e18I != x8)
    )
    : Option (Bool)).bind fun x16 =>
   bif x16 then (
    (zCO n (1,a3,x8,0,[Nd.mk e14A e14C e14D e14B],0,[],[]) l10).bind fun w21 =>
    some (x9,w21)
   ) else (
    (at? x9 0).bind fun ⟨e22H,e22I⟩ =>
    (at? a1 e22H).bind fun ⟨e24A,e24C,e24D,e24B⟩ =>
    req (0 ≤ (1 : Int) ∧ (1 : Int) ≤ (x9.length : Int) ∧ (x9.length : Int) ≤ (x9.length : Int)) <|
    (
     bif (!(e24C == e14C)) then (
      (zCO n (5,a3,x8,0,[],0,e24C,e14C) l10).bind fun w28 =>
      some w28
     ) else (
      some l10
     )
     : Option ((List zO8))).bind fun l27 =>
    (zBl F_diff_insertions n a3 x8 e14B e24B n 0 l27).bind fun l33 =>
    some ((x9.take (x9.length : Int).toNat).drop (1 : Int).toNat,l33)
   )
   : Option ((List (Int × Int)) × (List zO8))).bind fun ⟨x12,l13⟩ =>
  zBk F_diff_insertions n a1 a2 a3 k (IntKind.i64.wrap (x8 + 1)) x12 l13
 ) else (
  some l10
 )
def zA3 : Nat → (List Nd) → (List Nd) → (List Int) → (List zO8) → Option (List zO8)
| 0,_,_,_,_=>none
| n+1,a1,a2,a3,o4 =>
 (zD7 n a1 a2).bind fun y5 =>
 (zBk (zA3 n) n a1 a2 a3 n 0 y5 o4).bind fun l11 =>
 some l11
def zBC (F : List Nd → List Nd → List Int → List zO8 → Option (List zO8)) (n : Nat) (xk yk : List Nd) (path : List Int) (j : Int) (o : List zO8) : Nat → Option (List zO8)
| 0=>some o
| i+1=>(zBC F n xk yk path j o i).bind fun acc =>
 (at? xk ((xk.length - 1 - i : Nat) : Int)).bind fun ⟨u_kind,u_text,u_cols,u_kids⟩ =>
 (at? yk ((xk.length - 1 - i : Nat) : Int)).bind fun ⟨v_kind,v_text,v_cols,v_kids⟩ =>
 (zBn n [path,[j,((xk.length - 1 - i : Nat) : Int)]]).bind fun y =>
 F u_kids v_kids y acc
def zBQ (F : List Nd → List Nd → List Int → List zO8 → Option (List zO8)) (n : Nat) (b : List Nd) (path : List Int) (j : Int) : Nd → List (Int × Int) → List zO8 → Option (List (Int × Int) × List zO8)
| ⟨x_kind,x_text,x_cols,x_kids⟩,p,o =>
 (
  bif ((p.length : Int) == 0) then (
   some true
  ) else (
   (at? p (IntKind.i64.wrap ((p.length : Int) - 1))).bind fun ⟨e_0,e_1⟩ =>
   some (e_0 != j)
  )
  : Option (Bool)).bind fun c =>
 bif c then (
  (zCO n (2,path,j,0,[Nd.mk x_kind x_text x_cols x_kids],0,[],[]) o).bind fun w =>
  some (p,w)
 ) else (
  (at? p (IntKind.i64.wrap ((p.length : Int) - 1))).bind fun ⟨e_0,e_1⟩ =>
  (at? b e_1).bind fun ⟨y_kind,y_text,y_cols,y_kids⟩ =>
  req (0 ≤ IntKind.i64.wrap ((p.length : Int) - 1) ∧ IntKind.i64.wrap ((p.length : Int) - 1) ≤ (p.length : Int) ∧ x_kids.length ≤ 4294967296) <|
  (zBC F n x_kids y_kids path j o x_kids.length).bind fun w =>
  some (p.take (IntKind.i64.wrap ((p.length : Int) - 1)).toNat,w)
 )
def zBB (F : List Nd → List Nd → List Int → List zO8 → Option (List zO8)) (n : Nat) (a b : List Nd) (path : List Int) (p : List (Int × Int)) (o : List zO8) : Nat → Option (List (Int × Int) × List zO8)
| 0=>some (p,o)
| i+1=>(zBB F n a b path p o i).bind fun acc=>(a[a.length - 1 - i]?).bind fun x=>zBQ F n b path ((a.length - 1 - i : Nat) : Int) x acc.1 acc.2
def zBT : Nat → (List Nd) → (List Nd) → (List Int) → (List zO8) → Option (List zO8)
| 0,_,_,_,_=>none
| n+1,a1,b2,path3,o4 =>
 (zD7 n a1 b2).bind fun y5 =>
 req (a1.length ≤ 4294967296) <|
 (zBB (zBT n) n a1 b2 path3 y5 o4 a1.length).bind fun l6 =>
 some l6.2
def zEE (n : Nat) : Nd → Nd → Option ((List zO8) × Int)
| ⟨a1A,a1C,a1D,a1B⟩,⟨b2A,b2C,b2D,b2B⟩ =>
 (zD9 n (Nd.mk a1A a1C a1D a1B) (Nd.mk b2A b2C b2D b2B)).bind fun y3 =>
 bif (!y3) then (
  some ([],1)
 ) else (
  (zBT n a1B b2B [] []).bind fun w4 =>
  (zA3 n a1B b2B [] w4).bind fun w5 =>
  some (w5,0)
 )
end Go.Proofs.YtjdhkpdjecegnaaGreatDoor
