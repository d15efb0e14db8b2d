/-
  Joined out of: MNod, MCnt, AbsS, AbsT, AbsU, AbsV, AbsW, AbsX, MOwn, FzA, LibS, LibD, LibF, MEd, MEh, MEe, MDe, MHs, MCo, MFi.
-/
import Derived.Test.YtgplhldfbkmmgaaGreatProg
import Derived.KernelRfl
import Derived.Lib.Strings
import Derived.Lib.Slices
import Derived.Lib.Walk
import Derived.Lib.Bytealg
import Derived.Test.YtgplhldfbkmmgaaGreatZb
set_option linter.unusedVariables false
set_option linter.unusedSimpArgs false
set_option maxHeartbeats 2000000
set_option maxRecDepth 100000
namespace Go.Proofs.YtgplhldfbkmmgaaGreat
open Go.Abs
def zBZ:(List UInt8)->Option Bool
| s1 =>
 some (s1 == [])
def zBl (s1:List UInt8):Nat->Int->Option (Fl Bool Unit)
| 0,_=>none
| k+1,i2 =>
 bif decide (i2<(s1.length:Int)) then (
  (at? s1 i2).bind fun c3 =>
  (
   bif decide ((zI9 .or .u8 (c3.toNat:Int) 32)<97) then (
    some true
   ) else (
    some (decide (122<(zI9 .or .u8 (c3.toNat:Int) 32)))
   )
   : Option (Bool)).bind fun x5 =>
  bif x5 then (
   some (.ret false)
  ) else (
   zBl s1 k (IntKind.i64.wrap (i2+1))
  )
 ) else (
  some (.go ())
 )
def zC9 (n:Nat):(List UInt8)->Option Bool
| s1 =>
 (zBl s1 n 0).bind fun fl=>match fl with
 | .ret r=>some r
 | .go _ =>
  some true
def zD0:(List UInt8)->Option Bool
| s1 =>
 (
  (
   bif (s1 == [102,114,97,99]) then (
    some (s1 == [102,114,97,99])
   ) else (
    bif (s1 == [114,111,111,116]) then (
     some (s1 == [114,111,111,116])
    ) else (
     bif (s1 == [109,97,116,114,105,120]) then (
      some (s1 == [109,97,116,114,105,120])
     ) else (
      some (s1 == [102,101,110,99,101])
     )
    )
   )
   : Option (Bool)).bind fun x2 =>
  bif x2 then (
   some (.ret true)
  ) else (
   some (.go ())
  )
  : Option (Fl Bool Unit)).bind fun fl=>match fl with
 | .ret r=>some r
 | .go _ =>
  some false
def zDH:(List UInt8)->Option Bool
| s1 =>
 (
  (
   bif (s1 == [104,97,116]) then (
    some (s1 == [104,97,116])
   ) else (
    bif (s1 == [98,97,114]) then (
     some (s1 == [98,97,114])
    ) else (
     bif (s1 == [118,101,99]) then (
      some (s1 == [118,101,99])
     ) else (
      bif (s1 == [100,111,116]) then (
       some (s1 == [100,111,116])
      ) else (
       bif (s1 == [116,105,108,100,101]) then (
        some (s1 == [116,105,108,100,101])
       ) else (
        some (s1 == [99,104,101,99,107])
       )
      )
     )
    )
   )
   : Option (Bool)).bind fun x2 =>
  bif x2 then (
   some (.ret true)
  ) else (
   some (.go ())
  )
  : Option (Fl Bool Unit)).bind fun fl=>match fl with
 | .ret r=>some r
 | .go _ =>
  some false
def zEs (n:Nat):(List UInt8)->Option Bool
| s1 =>
 bif ((s1.length:Int) == 1) then (
  (
   (zC9 n s1).bind fun y3 =>
   bif y3 then (
    some true
   ) else (
    (zEw [43,45,42,47,61,60,62,44,59,58,33,124,39,63,126,64] s1).bind fun y4 =>
    some y4
   )
   : Option (Bool)).bind fun x2 =>
  some x2
 ) else (
  (
   bif decide (2<=(s1.length:Int)) then (
    bif decide ((s1.length:Int)<=16) then (
     (zC9 n s1).bind fun y6 =>
     bif y6 then (
      (zD0 s1).bind fun y7 =>
      bif (!y7) then (
       (zDH s1).bind fun y8 =>
       some (!y8)
      ) else (
       some false
      )
     ) else (
      some false
     )
    ) else (
     some false
    )
   ) else (
    some false
   )
   : Option (Bool)).bind fun x5 =>
  some x5
 )
def zCH:(List UInt8)->(List UInt8)->Option ((List UInt8)×(List UInt8)×Bool)
| s1,sep2 =>
 (zD7 s1 sep2).bind fun y3 =>
 bif decide (0<=y3) then (
  req (0<=(0:Int)/\(0:Int)<=y3/\y3<=(s1.length:Int)) <|
  req (0<=(IntKind.i64.wrap (y3+(sep2.length:Int)))/\(IntKind.i64.wrap (y3+(sep2.length:Int)))<=(s1.length:Int)/\(s1.length:Int)<=(s1.length:Int)) <|
  some ((s1.take y3.toNat).drop (0:Int).toNat,(s1.take (s1.length:Int).toNat).drop (IntKind.i64.wrap (y3+(sep2.length:Int))).toNat,true)
 ) else (
  some (s1,[],false)
 )
def zEx:(List UInt8)->(List UInt8)->Option ((List UInt8)×(List UInt8)×Bool)
| s1,sep2 =>
 (zCH s1 sep2).bind fun⟨y3,y4,y5⟩ =>
 some (y3,y4,y5)
def zBt (s1:List UInt8):Nat->Int->Option (Fl Bool Unit)
| 0,_=>none
| k+1,i2 =>
 bif decide (i2<(s1.length:Int)) then (
  (
   (at? s1 i2).bind fun c4 =>
   bif decide ((c4.toNat:Int)<48) then (
    some true
   ) else (
    (at? s1 i2).bind fun c6 =>
    some (decide (57<(c6.toNat:Int)))
   )
   : Option (Bool)).bind fun x3 =>
  bif x3 then (
   some (.ret false)
  ) else (
   zBt s1 k (IntKind.i64.wrap (i2+1))
  )
 ) else (
  some (.go ())
 )
def zDI (n:Nat):(List UInt8)->Option Bool
| s1 =>
 (zBt s1 n 0).bind fun fl=>match fl with
 | .ret r=>some r
 | .go _ =>
  some (!(s1 == []))
def zDG (n:Nat):(List UInt8)->Option Bool
| s1 =>
 (zEx s1 [46]).bind fun⟨y2,y3,y4⟩ =>
 (
  bif decide ((s1.length:Int)<=20) then (
   (zDI n y2).bind fun y6 =>
   bif y6 then (
    bif (!y4) then (
     some true
    ) else (
     (zDI n y3).bind fun y7 =>
     some y7
    )
   ) else (
    some false
   )
  ) else (
   some false
  )
  : Option (Bool)).bind fun x5 =>
 some x5
def zBG (s1:List UInt8):Nat->Int->Option (Fl Bool Unit)
| 0,_=>none
| k+1,i2 =>
 bif decide (i2<(s1.length:Int)) then (
  (
   (at? s1 i2).bind fun c4 =>
   bif decide ((c4.toNat:Int)<32) then (
    some true
   ) else (
    (at? s1 i2).bind fun c6 =>
    some (decide (126<(c6.toNat:Int)))
   )
   : Option (Bool)).bind fun x3 =>
  bif x3 then (
   some (.ret false)
  ) else (
   zBG s1 k (IntKind.i64.wrap (i2+1))
  )
 ) else (
  some (.go ())
 )
def zE5 (n:Nat):(List UInt8)->Option Bool
| s1 =>
 (zBG s1 n 0).bind fun fl=>match fl with
 | .ret r=>some r
 | .go _ =>
  some (decide ((s1.length:Int)<=200))
def zE4:(List UInt8)->Option Bool
| s1 =>
 (
  bif ((s1.length:Int) == 2) then (
   (at? s1 0).bind fun c3 =>
   (zCX [40,41,91,93,123,125,60,62,47,124,46] (c3.toNat:Int)).bind fun y5 =>
   bif decide (0<=y5) then (
    (at? s1 1).bind fun c6 =>
    (zCX [40,41,91,93,123,125,60,62,47,124,46] (c6.toNat:Int)).bind fun y8 =>
    some (decide (0<=y8))
   ) else (
    some false
   )
  ) else (
   some false
  )
  : Option (Bool)).bind fun x2 =>
 some x2
def zGm:Option Unit
:=
 some ()
def zCm (n:Nat):(Unit×Int)->Nd->Option (Bool×(Unit×Int))
| ⟨_,o1G⟩,⟨a2A,a2B,a2D,a2C⟩ =>
 (
  bif decide (a2A<1) then (
   some true
  ) else (
   bif decide (12<a2A) then (
    some true
   ) else (
    bif (a2A == 1) then (
     (zBZ a2B).bind fun y4 =>
     some (!y4)
    ) else (
     bif (a2A == 2) then (
      (zEs n a2B).bind fun y5 =>
      some (!y5)
     ) else (
      bif (a2A == 3) then (
       (zDG n a2B).bind fun y6 =>
       some (!y6)
      ) else (
       bif (a2A == 4) then (
        (zE5 n a2B).bind fun y7 =>
        some (!y7)
       ) else (
        bif (a2A == 5) then (
         (zBZ a2B).bind fun y8 =>
         some (!y8)
        ) else (
         bif (a2A == 6) then (
          (zBZ a2B).bind fun y9 =>
          some (!y9)
         ) else (
          bif (a2A == 7) then (
           (zBZ a2B).bind fun y10 =>
           some (!y10)
          ) else (
           bif (a2A == 8) then (
            (zBZ a2B).bind fun y11 =>
            some (!y11)
           ) else (
            bif (a2A == 9) then (
             (zBZ a2B).bind fun y12 =>
             some (!y12)
            ) else (
             bif (a2A == 10) then (
              (zDH a2B).bind fun y13 =>
              some (!y13)
             ) else (
              bif (a2A == 11) then (
               (zE4 a2B).bind fun y14 =>
               some (!y14)
              ) else (
               bif (a2A == 12) then (
                (zBZ a2B).bind fun y15 =>
                some (!y15)
               ) else (
                none
               )
              )
             )
            )
           )
          )
         )
        )
       )
      )
     )
    )
   )
  )
  : Option (Bool)).bind fun x3 =>
 bif x3 then (
  some (false,((),o1G))
 ) else (
  bif (a2A == 1) then (
   (
    bif (a2D == 0) then (
     some (decide ((a2C.length:Int)<=200))
    ) else (
     some false
    )
    : Option (Bool)).bind fun x16 =>
   some (x16,((),o1G))
  ) else (
   bif (a2A == 12) then (
    (
     bif decide (1<=a2D) then (
      bif decide (a2D<=16) then (
       bif decide (1<=(a2C.length:Int)) then (
        bif decide ((a2C.length:Int)<=256) then (
         req (a2D ≠ 0) <|
         some (((a2C.length:Int).tmod a2D) == 0)
        ) else (
         some false
        )
       ) else (
        some false
       )
      ) else (
       some false
      )
     ) else (
      some false
     )
     : Option (Bool)).bind fun x18 =>
    some (x18,((),o1G))
   ) else (
    (
     bif (a2D == 0) then (
      bif (a2A == 1) then (
       some ((a2C.length:Int) == 0)
      ) else (
       bif (a2A == 2) then (
        some ((a2C.length:Int) == 0)
       ) else (
        bif (a2A == 3) then (
         some ((a2C.length:Int) == 0)
        ) else (
         bif (a2A == 4) then (
          some ((a2C.length:Int) == 0)
         ) else (
          bif (a2A == 5) then (
           some ((a2C.length:Int) == 2)
          ) else (
           bif (a2A == 6) then (
            some ((a2C.length:Int) == 2)
           ) else (
            bif (a2A == 7) then (
             some ((a2C.length:Int) == 2)
            ) else (
             bif (a2A == 8) then (
              some ((a2C.length:Int) == 2)
             ) else (
              bif (a2A == 9) then (
               some ((a2C.length:Int) == 3)
              ) else (
               bif (a2A == 10) then (
                some ((a2C.length:Int) == 1)
               ) else (
                bif (a2A == 11) then (
                 some ((a2C.length:Int) == 1)
                ) else (
                 bif (a2A == 12) then (
                  some ((a2C.length:Int) == 0)
                 ) else (
                  none
                 )
                )
               )
              )
             )
            )
           )
          )
         )
        )
       )
      )
     ) else (
      some false
     )
     : Option (Bool)).bind fun x22 =>
    some (x22,((),o1G))
   )
  )
 )
def zAH (F_node_checker_node:(Unit×Int)->Nd->Int->Option (Bool×(Unit×Int))) (a2A:Int) (a2C:List Nd) (a3:Int):Nat->Int->Int->Option (Fl (Bool×(Unit×Int)) (Int))
| 0,_,_=>none
| k+1,x9,x10 =>
 bif decide (x10<(a2C.length:Int)) then (
  (
   (at? a2C x10).bind fun⟨e14A,e14B,e14D,e14C⟩ =>
   bif ((a2A == 1) == (e14A == 1)) then (
    some (true,x9)
   ) else (
    (at? a2C x10).bind fun⟨e16A,e16B,e16D,e16C⟩ =>
    (F_node_checker_node ((),x9) (Nd.mk e16A e16B e16D e16C) (IntKind.i64.wrap (a3+1))).bind fun⟨y18,⟨_,w19G⟩⟩ =>
    some ((!y18),w19G)
   )
   : Option (Bool×Int)).bind fun⟨x12,x13⟩ =>
  bif x12 then (
   some (.ret (false,((),x13)))
  ) else (
   zAH F_node_checker_node a2A a2C a3 k x13 (IntKind.i64.wrap (x10+1))
  )
 ) else (
  some (.go x9)
 )
def zAS:Nat->(Unit×Int)->Nd->Int->Option (Bool×(Unit×Int))
| 0,_,_,_=>none
| n+1,⟨_,o1G⟩,⟨a2A,a2B,a2D,a2C⟩,a3 =>
 (
  bif decide (1000<(IntKind.i64.wrap (o1G+1))) then (
   some (true,IntKind.i64.wrap (o1G+1))
  ) else (
   bif decide (24<a3) then (
    some (true,IntKind.i64.wrap (o1G+1))
   ) else (
    (zCm n ((),IntKind.i64.wrap (o1G+1)) (Nd.mk a2A a2B a2D a2C)).bind fun⟨y6,⟨_,w7G⟩⟩ =>
    some ((!y6),w7G)
   )
  )
  : Option (Bool×Int)).bind fun⟨x4,x5⟩ =>
 bif x4 then (
  some (false,((),x5))
 ) else (
  (zAH (zAS n) a2A a2C a3 n x5 0).bind fun fl=>match fl with
  | .ret r=>some r
  | .go x11 =>
   some (true,((),x11))
 )
def zAR (n:Nat):Nd->Option Bool
| ⟨n1A,n1B,n1D,n1C⟩ =>
 (zGm ).bind fun _ =>
 (
  bif (n1A == 1) then (
   (zAS n ((),0) (Nd.mk n1A n1B n1D n1C) 1).bind fun⟨y4,⟨_,w5G⟩⟩ =>
   some y4
  ) else (
   some false
  )
  : Option (Bool)).bind fun x3 =>
 some x3
def zEg:Int->Option Bool
| c1 =>
 (
  bif decide (97<=c1) then (
   bif decide (c1<=122) then (
    some true
   ) else (
    bif decide (65<=c1) then (
     some (decide (c1<=90))
    ) else (
     some false
    )
   )
  ) else (
   bif decide (65<=c1) then (
    some (decide (c1<=90))
   ) else (
    some false
   )
  )
  : Option (Bool)).bind fun x2 =>
 some x2
def zCM (s1:List UInt8) (c2:Int):Nat->Int->Option (Fl Bool Unit)
| 0,_=>none
| k+1,i3 =>
 bif decide (i3<(s1.length:Int)) then (
  (at? s1 i3).bind fun c4 =>
  bif ((c4.toNat:Int) == c2) then (
   some (.ret true)
  ) else (
   zCM s1 c2 k (IntKind.i64.wrap (i3+1))
  )
 ) else (
  some (.go ())
 )
def zDv (n:Nat):(List UInt8)->Int->Option Bool
| s1,c2 =>
 (zCM s1 c2 n 0).bind fun fl=>match fl with
 | .ret r=>some r
 | .go _ =>
  some false
def zEu (n:Nat):Int->Option Bool
| c1 =>
 (
  (zEg c1).bind fun y3 =>
  bif y3 then (
   some true
  ) else (
   (zDv n [43,45,42,47,61,60,62,44,59,58,33,124,39,63,126,64] c1).bind fun y4 =>
   some y4
  )
  : Option (Bool)).bind fun x2 =>
 some x2
def zEU:Option (List (List UInt8))
:=
 some [[102,114,97,99],[114,111,111,116],[109,97,116,114,105,120],[102,101,110,99,101]]
def zDu (l1:List (List UInt8)) (s2:List UInt8):Nat->Int->Option (Fl Bool Unit)
| 0,_=>none
| k+1,i3 =>
 bif decide (i3<(l1.length:Int)) then (
  (at? l1 i3).bind fun e5 =>
  bif (e5 == s2) then (
   some (.ret true)
  ) else (
   zDu l1 s2 k (IntKind.i64.wrap (i3+1))
  )
 ) else (
  some (.go ())
 )
def zET (n:Nat):(List (List UInt8))->(List UInt8)->Option Bool
| l1,s2 =>
 (zDu l1 s2 n 0).bind fun fl=>match fl with
 | .ret r=>some r
 | .go _ =>
  some false
def zDJ:Option (List (List UInt8))
:=
 some [[104,97,116],[98,97,114],[118,101,99],[100,111,116],[116,105,108,100,101],[99,104,101,99,107]]
def zBq (s1:List UInt8):Nat->Int->Option (Fl Bool Unit)
| 0,_=>none
| k+1,i5 =>
 bif decide (i5<(s1.length:Int)) then (
  (at? s1 i5).bind fun c6 =>
  (zEg (c6.toNat:Int)).bind fun y8 =>
  bif (!y8) then (
   some (.ret false)
  ) else (
   zBq s1 k (IntKind.i64.wrap (i5+1))
  )
 ) else (
  some (.go ())
 )
def zE7 (n:Nat):(List UInt8)->Option Bool
| s1 =>
 bif ((s1.length:Int) == 1) then (
  (at? s1 0).bind fun c2 =>
  (zEu n (c2.toNat:Int)).bind fun y4 =>
  some y4
 ) else (
  (zBq s1 n 0).bind fun fl=>match fl with
  | .ret r=>some r
  | .go _ =>
   (
    bif decide (2<=(s1.length:Int)) then (
     bif decide ((s1.length:Int)<=16) then (
      (zEU ).bind fun y10 =>
      (zET n y10 s1).bind fun y11 =>
      bif (!y11) then (
       (zDJ ).bind fun y12 =>
       (zET n y12 s1).bind fun y13 =>
       some (!y13)
      ) else (
       some false
      )
     ) else (
      some false
     )
    ) else (
     some false
    )
    : Option (Bool)).bind fun x9 =>
   some x9
 )
def zF1:Int->Option Bool
| c1 =>
 (
  bif decide (48<=c1) then (
   some (decide (c1<=57))
  ) else (
   some false
  )
  : Option (Bool)).bind fun x2 =>
 some x2
def zB8 (s1:List UInt8):Nat->Int->Int->Option (Fl Bool (Int))
| 0,_,_=>none
| k+1,points2,i3 =>
 bif decide (i3<(s1.length:Int)) then (
  (
   (
    (at? s1 i3).bind fun c7 =>
    bif ((c7.toNat:Int) == 46) then (
     bif decide (0<i3) then (
      some (decide (i3<(IntKind.i64.wrap ((s1.length:Int) - 1))))
     ) else (
      some false
     )
    ) else (
     some false
    )
    : Option (Bool)).bind fun x6 =>
   bif x6 then (
    some (.go (IntKind.i64.wrap (points2+1)))
   ) else (
    (at? s1 i3).bind fun c9 =>
    (zF1 (c9.toNat:Int)).bind fun y11 =>
    bif (!y11) then (
     some (.ret false)
    ) else (
     some (.go points2)
    )
   )
   : Option (Fl Bool (Int))).bind fun fl=>match fl with
  | .ret r=>some (.ret r)
  | .go points5 =>
   zB8 s1 k points5 (IntKind.i64.wrap (i3+1))
 ) else (
  some (.go points2)
 )
def zE6 (n:Nat):(List UInt8)->Option Bool
| s1 =>
 (zB8 s1 n 0 0).bind fun fl=>match fl with
 | .ret r=>some r
 | .go points4 =>
  (
   bif decide (0<(s1.length:Int)) then (
    bif decide ((s1.length:Int)<=20) then (
     some (decide (points4<=1))
    ) else (
     some false
    )
   ) else (
    some false
   )
   : Option (Bool)).bind fun x12 =>
  some x12
def zBa (s1:List UInt8):Nat->Int->Option (Fl Bool Unit)
| 0,_=>none
| k+1,i2 =>
 bif decide (i2<(s1.length:Int)) then (
  (
   (at? s1 i2).bind fun c4 =>
   bif decide ((c4.toNat:Int)<32) then (
    some true
   ) else (
    (at? s1 i2).bind fun c6 =>
    some (decide (126<(c6.toNat:Int)))
   )
   : Option (Bool)).bind fun x3 =>
  bif x3 then (
   some (.ret false)
  ) else (
   zBa s1 k (IntKind.i64.wrap (i2+1))
  )
 ) else (
  some (.go ())
 )
def zCG (n:Nat):(List UInt8)->Option Bool
| s1 =>
 (zBa s1 n 0).bind fun fl=>match fl with
 | .ret r=>some r
 | .go _ =>
  some true
def zG2 (n:Nat):Nd->Option Bool
| ⟨n1A,n1B,n1D,n1C⟩ =>
 bif (n1A == 2) then (
  (zE7 n n1B).bind fun y2 =>
  some y2
 ) else (
  bif (n1A == 3) then (
   (zE6 n n1B).bind fun y3 =>
   some y3
  ) else (
   bif (n1A == 4) then (
    (
     bif decide ((n1B.length:Int)<=200) then (
      (zCG n n1B).bind fun y5 =>
      some y5
     ) else (
      some false
     )
     : Option (Bool)).bind fun x4 =>
    some x4
   ) else (
    bif (n1A == 10) then (
     (zDJ ).bind fun y6 =>
     (zET n y6 n1B).bind fun y7 =>
     some y7
    ) else (
     bif (n1A == 11) then (
      (
       bif ((n1B.length:Int) == 2) then (
        (at? n1B 0).bind fun c9 =>
        (zDv n [40,41,91,93,123,125,124,60,62,47,46] (c9.toNat:Int)).bind fun y11 =>
        bif y11 then (
         (at? n1B 1).bind fun c12 =>
         (zDv n [40,41,91,93,123,125,124,60,62,47,46] (c12.toNat:Int)).bind fun y14 =>
         some y14
        ) else (
         some false
        )
       ) else (
        some false
       )
       : Option (Bool)).bind fun x8 =>
      some x8
     ) else (
      some (n1B == [])
     )
    )
   )
  )
 )
def zG1:Nd->Option Bool
| ⟨n1A,n1B,n1D,n1C⟩ =>
 bif (n1A == 12) then (
  (
   bif decide (1<=n1D) then (
    bif decide (n1D<=16) then (
     bif decide (1<=(n1C.length:Int)) then (
      bif decide ((n1C.length:Int)<=256) then (
       req (n1D ≠ 0) <|
       some (((n1C.length:Int).tmod n1D) == 0)
      ) else (
       some false
      )
     ) else (
      some false
     )
    ) else (
     some false
    )
   ) else (
    some false
   )
   : Option (Bool)).bind fun x3 =>
  some x3
 ) else (
  bif (n1D != 0) then (
   some false
  ) else (
   (
    bif (n1A == 1) then (
     some (.ret (decide ((n1C.length:Int)<=200)))
    ) else (
     (
      bif (n1A == 2) then (
       some (n1A == 2)
      ) else (
       bif (n1A == 3) then (
        some (n1A == 3)
       ) else (
        some (n1A == 4)
       )
      )
      : Option (Bool)).bind fun x4 =>
     bif x4 then (
      some (.ret ((n1C.length:Int) == 0))
     ) else (
      (
       bif (n1A == 5) then (
        some (n1A == 5)
       ) else (
        bif (n1A == 6) then (
         some (n1A == 6)
        ) else (
         bif (n1A == 7) then (
          some (n1A == 7)
         ) else (
          some (n1A == 8)
         )
        )
       )
       : Option (Bool)).bind fun x5 =>
      bif x5 then (
       some (.ret ((n1C.length:Int) == 2))
      ) else (
       bif (n1A == 9) then (
        some (.ret ((n1C.length:Int) == 3))
       ) else (
        (
         bif (n1A == 10) then (
          some (n1A == 10)
         ) else (
          some (n1A == 11)
         )
         : Option (Bool)).bind fun x6 =>
        bif x6 then (
         some (.ret ((n1C.length:Int) == 1))
        ) else (
         some (.go ())
        )
       )
      )
     )
    )
    : Option (Fl Bool Unit)).bind fun fl=>match fl with
   | .ret r=>some r
   | .go _ =>
    some false
  )
 )
def zCV (F_r09_form:Nd->Option Bool) (n1A:Int) (n1C:List Nd):Nat->Int->Option (Fl Bool Unit)
| 0,_=>none
| k+1,i5 =>
 bif decide (i5<(n1C.length:Int)) then (
  (
   (at? n1C i5).bind fun⟨e8A,e8B,e8D,e8C⟩ =>
   bif ((e8A == 1) == (n1A == 1)) then (
    some true
   ) else (
    (at? n1C i5).bind fun⟨e10A,e10B,e10D,e10C⟩ =>
    (F_r09_form (Nd.mk e10A e10B e10D e10C)).bind fun y12 =>
    some (!y12)
   )
   : Option (Bool)).bind fun x7 =>
  bif x7 then (
   some (.ret false)
  ) else (
   zCV F_r09_form n1A n1C k (IntKind.i64.wrap (i5+1))
  )
 ) else (
  some (.go ())
 )
def zDK:Nat->Nd->Option Bool
| 0,_=>none
| n+1,⟨n1A,n1B,n1D,n1C⟩ =>
 (
  (zG2 n (Nd.mk n1A n1B n1D n1C)).bind fun y3 =>
  bif (!y3) then (
   some true
  ) else (
   (zG1 (Nd.mk n1A n1B n1D n1C)).bind fun y4 =>
   some (!y4)
  )
  : Option (Bool)).bind fun x2 =>
 bif x2 then (
  some false
 ) else (
  (zCV (zDK n) n1A n1C n 0).bind fun fl=>match fl with
  | .ret r=>some r
  | .go _ =>
   some true
 )
def zCw (F_r09_Count:Nd->Option Int) (n1C:List Nd):Nat->Int->Int->Option (Int)
| 0,_,_=>none
| k+1,out2,i3 =>
 bif decide (i3<(n1C.length:Int)) then (
  (at? n1C i3).bind fun⟨e6A,e6B,e6D,e6C⟩ =>
  (F_r09_Count (Nd.mk e6A e6B e6D e6C)).bind fun y8 =>
  zCw F_r09_Count n1C k (IntKind.i64.wrap (out2+y8)) (IntKind.i64.wrap (i3+1))
 ) else (
  some out2
 )
def zCS:Nat->Nd->Option Int
| 0,_=>none
| n+1,⟨n1A,n1B,n1D,n1C⟩ =>
 (zCw (zCS n) n1C n 1 0).bind fun out4 =>
 some out4
def zCx (F_r09_Depth:Nd->Option Int) (n1C:List Nd):Nat->Int->Int->Option (Int)
| 0,_,_=>none
| k+1,out2,i3 =>
 bif decide (i3<(n1C.length:Int)) then (
  (at? n1C i3).bind fun⟨e6A,e6B,e6D,e6C⟩ =>
  (F_r09_Depth (Nd.mk e6A e6B e6D e6C)).bind fun y8 =>
  zCx F_r09_Depth n1C k (if out2<y8 then y8 else out2) (IntKind.i64.wrap (i3+1))
 ) else (
  some out2
 )
def zCT:Nat->Nd->Option Int
| 0,_=>none
| n+1,⟨n1A,n1B,n1D,n1C⟩ =>
 (zCx (zCT n) n1C n 0 0).bind fun out4 =>
 some (IntKind.i64.wrap (out4+1))
def zA6 (n:Nat):Nd->Option Bool
| ⟨n1A,n1B,n1D,n1C⟩ =>
 (
  bif (n1A == 1) then (
   (zDK n (Nd.mk n1A n1B n1D n1C)).bind fun y3 =>
   bif y3 then (
    (zCS n (Nd.mk n1A n1B n1D n1C)).bind fun y4 =>
    bif decide (y4<=1000) then (
     (zCT n (Nd.mk n1A n1B n1D n1C)).bind fun y5 =>
     some (decide (y5<=24))
    ) else (
     some false
    )
   ) else (
    some false
   )
  ) else (
   some false
  )
  : Option (Bool)).bind fun x2 =>
 some x2
def zBp (F_r09_Equal:Nd->Nd->Option Bool) (a1:List Nd) (b2:List Nd):Nat->Int->Option (Fl Bool Unit)
| 0,_=>none
| k+1,i5 =>
 bif decide (i5<(a1.length:Int)) then (
  (at? a1 i5).bind fun⟨e7A,e7B,e7D,e7C⟩ =>
  (at? b2 i5).bind fun⟨e9A,e9B,e9D,e9C⟩ =>
  (F_r09_Equal (Nd.mk e7A e7B e7D e7C) (Nd.mk e9A e9B e9D e9C)).bind fun y11 =>
  bif (!y11) then (
   some (.ret false)
  ) else (
   zBp F_r09_Equal a1 b2 k (IntKind.i64.wrap (i5+1))
  )
 ) else (
  some (.go ())
 )
mutual
def zB7:Nat->Nd->Nd->Option Bool
| 0,_,_=>none
| n+1,⟨a1A,a1B,a1D,a1C⟩,⟨b2A,b2B,b2D,b2C⟩ =>
 (
  bif (a1A == b2A) then (
   bif (a1B == b2B) then (
    bif (a1D == b2D) then (
     (zB9 n a1C b2C).bind fun y4 =>
     some y4
    ) else (
     some false
    )
   ) else (
    some false
   )
  ) else (
   some false
  )
  : Option (Bool)).bind fun x3 =>
 some x3
def zB9:Nat->(List Nd)->(List Nd)->Option Bool
| 0,_,_=>none
| n+1,a1,b2 =>
 bif ((a1.length:Int) != (b2.length:Int)) then (
  some false
 ) else (
  (zBp (zB7 n) a1 b2 n 0).bind fun fl=>match fl with
  | .ret r=>some r
  | .go _ =>
   some true
 )
end
def zCo (F_r09_left:Nd->Int->Option Int) (n1C:List Nd):Nat->Int->Int->Option (Int)
| 0,_,_=>none
| k+1,most3,i4 =>
 (
  bif decide (i4<(n1C.length:Int)) then (
   some (decide (0<=most3))
  ) else (
   some false
  )
  : Option (Bool)).bind fun x6 =>
 bif x6 then (
  (at? n1C i4).bind fun⟨e8A,e8B,e8D,e8C⟩ =>
  (F_r09_left (Nd.mk e8A e8B e8D e8C) most3).bind fun y10 =>
  zCo F_r09_left n1C k y10 (IntKind.i64.wrap (i4+1))
 ) else (
  some most3
 )
def zDL:Nat->Nd->Int->Option Int
| 0,_,_=>none
| n+1,⟨n1A,n1B,n1D,n1C⟩,most2 =>
 (zCo (zDL n) n1C n (IntKind.i64.wrap (most2 - 1)) 0).bind fun most5 =>
 some most5
def zGZ (n:Nat):Nd->Int->Option Bool
| ⟨n1A,n1B,n1D,n1C⟩,most2 =>
 (zDL n (Nd.mk n1A n1B n1D n1C) most2).bind fun y3 =>
 some (decide (0<=y3))
def zCU:(List Nd)->Option Nd
| l1 =>
 some (Nd.mk 1 [] 0 l1)
def zHW (n:Nat):zO8->Option Bool
| ⟨op1A,op1N,op1I,op1M,op1G,op1L,op1O,op1B⟩ =>
 (
  (zCU op1G).bind fun⟨y3A,y3B,y3D,y3C⟩ =>
  (zGZ n (Nd.mk y3A y3B y3D y3C) 100).bind fun y4 =>
  bif y4 then (
   some (decide ((op1N.length:Int)<=60))
  ) else (
   some false
  )
  : Option (Bool)).bind fun x2 =>
 some x2
def zCj (n:Nat):(List Nd)->Option Bool
| l1 =>
 (zCU l1).bind fun⟨y2A,y2B,y2D,y2C⟩ =>
 (zA6 n (Nd.mk y2A y2B y2D y2C)).bind fun y3 =>
 some y3
def zD1 (n:Nat):(List Nd)->Int->Option Bool
| l1,slot2 =>
 (
  bif ((l1.length:Int) == 1) then (
   (zCj n l1).bind fun y5 =>
   bif y5 then (
    bif decide (0<=slot2) then (
     (at? l1 0).bind fun⟨e6A,e6B,e6D,e6C⟩ =>
     bif decide (slot2<(e6C.length:Int)) then (
      (at? l1 0).bind fun⟨e9A,e9B,e9D,e9C⟩ =>
      (at? e9C slot2).bind fun⟨e11A,e11B,e11D,e11C⟩ =>
      some ((e11C.length:Int) == 0)
     ) else (
      some false
     )
    ) else (
     some false
    )
   ) else (
    some false
   )
  ) else (
   some false
  )
  : Option (Bool)).bind fun x3 =>
 some x3
def zE8 (n:Nat):zO8->Option Bool
| ⟨a1A,a1N,a1I,a1M,a1G,a1L,a1O,a1B⟩ =>
 (
  (
   bif (a1A == 1) then (
    some (a1A == 1)
   ) else (
    some (a1A == 2)
   )
   : Option (Bool)).bind fun x2 =>
  bif x2 then (
   (
    bif decide (0<(a1G.length:Int)) then (
     (zCj n a1G).bind fun y5 =>
     bif y5 then (
      bif (a1M == 0) then (
       bif (a1L == 0) then (
        bif (a1O == []) then (
         some (a1B == [])
        ) else (
         some false
        )
       ) else (
        some false
       )
      ) else (
       some false
      )
     ) else (
      some false
     )
    ) else (
     some false
    )
    : Option (Bool)).bind fun x3 =>
   some (.ret x3)
  ) else (
   (
    bif (a1A == 3) then (
     some (a1A == 3)
    ) else (
     some (a1A == 4)
    )
    : Option (Bool)).bind fun x6 =>
   bif x6 then (
    (
     bif decide (0<=a1M) then (
      (zD1 n a1G a1L).bind fun y8 =>
      bif y8 then (
       bif (a1O == []) then (
        some (a1B == [])
       ) else (
        some false
       )
      ) else (
       some false
      )
     ) else (
      some false
     )
     : Option (Bool)).bind fun x7 =>
    some (.ret x7)
   ) else (
    bif (a1A == 5) then (
     (
      bif (!(a1O == a1B)) then (
       bif ((a1G.length:Int) == 0) then (
        bif (a1M == 0) then (
         some (a1L == 0)
        ) else (
         some false
        )
       ) else (
        some false
       )
      ) else (
       some false
      )
      : Option (Bool)).bind fun x9 =>
     some (.ret x9)
    ) else (
     some (.go ())
    )
   )
  )
  : Option (Fl Bool Unit)).bind fun fl=>match fl with
 | .ret r=>some r
 | .go _ =>
  some false
def zBX  : Nat->Int->(List UInt8)->Int->(List Nd)->(List Int)->Option (Fl (Nd×Bool) ((List Int)×Int×(List UInt8)×Int×(List Nd)))
| 0,_,_,_,_,_=>none
| k+1,x3,x4,x5,x6,path8 =>
 bif decide (2<=(path8.length:Int)) then (
  (
   (at? path8 0).bind fun e16 =>
   bif decide (e16<0) then (
    some true
   ) else (
    (at? path8 0).bind fun e18 =>
    some (decide ((x6.length:Int)<=e18))
   )
   : Option (Bool)).bind fun x15 =>
  bif x15 then (
   some (.ret (Nd.mk 0 [] 0 [],false))
  ) else (
   (at? path8 0).bind fun e21 =>
   (at? x6 e21).bind fun⟨e23A,e23B,e23D,e23C⟩ =>
   (
    (at? path8 1).bind fun e26 =>
    bif decide (e26<0) then (
     some true
    ) else (
     (at? path8 1).bind fun e28 =>
     some (decide ((e23C.length:Int)<=e28))
    )
    : Option (Bool)).bind fun x25 =>
   bif x25 then (
    some (.ret (Nd.mk 0 [] 0 [],false))
   ) else (
    (at? path8 1).bind fun e31 =>
    (at? e23C e31).bind fun⟨e33A,e33B,e33D,e33C⟩ =>
    req (0<=(2:Int)/\(2:Int)<=(path8.length:Int)/\(path8.length:Int)<=(path8.length:Int)) <|
    zBX k e33A e33B e33D e33C ((path8.take (path8.length:Int).toNat).drop (2:Int).toNat)
   )
  )
 ) else (
  some (.go (path8,x3,x4,x5,x6))
 )
def zG0 (n:Nat):Nd->(List Int)->Option (Nd×Bool)
| ⟨n1A,n1B,n1D,n1C⟩,path2 =>
 (zBX  n n1A n1B n1D n1C path2).bind fun fl=>match fl with
 | .ret r=>some r
 | .go ⟨path9,x10,x11,x12,x13⟩ =>
  some (Nd.mk x10 x11 x12 x13,((path9.length:Int) == 0))
def zHU (n:Nat):Nd->(List Int)->Option (Nd×Int)
| ⟨n1A,n1B,n1D,n1C⟩,path2 =>
 (zA6 n (Nd.mk n1A n1B n1D n1C)).bind fun y3 =>
 bif (!y3) then (
  some (Nd.mk 0 [] 0 [],1)
 ) else (
  (zG0 n (Nd.mk n1A n1B n1D n1C) path2).bind fun⟨⟨y4A,y4B,y4D,y4C⟩,y5⟩ =>
  bif (!y5) then (
   some (Nd.mk 0 [] 0 [],8)
  ) else (
   some (Nd.mk y4A y4B y4D y4C,0)
  )
 )
def zB0:(List Nd)->Int->Int->(List Nd)->Option (List Nd)
| l1,at2,to3,by4 =>
 req (0<=(0:Int)/\(0:Int)<=at2/\at2<=(l1.length:Int)) <|
 req (([]:List Nd).length+((l1.take at2.toNat).drop (0:Int).toNat).length<=4294967296) <|
 req (((l1.take at2.toNat).drop (0:Int).toNat).length+by4.length<=4294967296) <|
 req (0<=to3/\to3<=(l1.length:Int)/\(l1.length:Int)<=(l1.length:Int)) <|
 req ((((l1.take at2.toNat).drop (0:Int).toNat)++by4).length+((l1.take (l1.length:Int).toNat).drop to3.toNat).length<=4294967296) <|
 some ((((l1.take at2.toNat).drop (0:Int).toNat)++by4)++((l1.take (l1.length:Int).toNat).drop to3.toNat))
def zBD:Nd->Int->Nd->Option Nd
| ⟨n1A,n1B,n1D,n1C⟩,i2,⟨kid3A,kid3B,kid3D,kid3C⟩ =>
 req (([]:List Nd).length+n1C.length<=4294967296) <|
 (at? n1C i2).bind fun⟨e4A,e4B,e4D,e4C⟩ =>
 some (Nd.mk n1A n1B n1D (n1C.set i2.toNat (Nd.mk kid3A kid3B kid3D kid3C)))
def zDz:Nd->Int->(List Nd)->Option Nd
| ⟨n1A,n1B,n1D,n1C⟩,slot2,l3 =>
 req (([]:List Nd).length+l3.length<=4294967296) <|
 (zCU l3).bind fun⟨y4A,y4B,y4D,y4C⟩ =>
 (zBD (Nd.mk n1A n1B n1D n1C) slot2 (Nd.mk y4A y4B y4D y4C)).bind fun⟨y5A,y5B,y5D,y5C⟩ =>
 some (Nd.mk y5A y5B y5D y5C)
def zE9 (n:Nat):(List Nd)->zO8->Option ((List Nd)×Int)
| a1,⟨a2A,a2N,a2I,a2M,a2G,a2L,a2O,a2B⟩ =>
 (
  bif (a2A == 1) then (
   some 0
  ) else (
   bif (a2A == 2) then (
    some (a2G.length:Int)
   ) else (
    bif (a2A == 3) then (
     some a2M
    ) else (
     some 1
    )
   )
  )
  : Option (Int)).bind fun x3 =>
 (
  bif decide (a2I<0) then (
   some true
  ) else (
   bif decide ((a1.length:Int)<a2I) then (
    some true
   ) else (
    some (decide ((IntKind.i64.wrap ((a1.length:Int) - a2I))<x3))
   )
  )
  : Option (Bool)).bind fun x5 =>
 bif x5 then (
  some ([],2)
 ) else (
  bif (a2A == 1) then (
   (zB0 a1 a2I (IntKind.i64.wrap (a2I+x3)) a2G).bind fun y8 =>
   some (y8,0)
  ) else (
   bif (a2A == 2) then (
    req (0<=a2I/\a2I<=IntKind.i64.wrap (a2I+x3)/\IntKind.i64.wrap (a2I+x3)<=(a1.length:Int)) <|
    (zB9 n ((a1.take (IntKind.i64.wrap (a2I+x3)).toNat).drop a2I.toNat) a2G).bind fun y10 =>
    bif (!y10) then (
     some ([],7)
    ) else (
     (zB0 a1 a2I (IntKind.i64.wrap (a2I+x3)) []).bind fun y11 =>
     some (y11,0)
    )
   ) else (
    bif (a2A == 3) then (
     (at? a2G 0).bind fun⟨e12A,e12B,e12D,e12C⟩ =>
     req (0<=a2I/\a2I<=IntKind.i64.wrap (a2I+x3)/\IntKind.i64.wrap (a2I+x3)<=(a1.length:Int)) <|
     (zDz (Nd.mk e12A e12B e12D e12C) a2L ((a1.take (IntKind.i64.wrap (a2I+x3)).toNat).drop a2I.toNat)).bind fun⟨y15A,y15B,y15D,y15C⟩ =>
     (zB0 a1 a2I (IntKind.i64.wrap (a2I+x3)) [Nd.mk y15A y15B y15D y15C]).bind fun y17 =>
     some (y17,0)
    ) else (
     (at? a1 a2I).bind fun⟨e18A,e18B,e18D,e18C⟩ =>
     bif (a2A == 4) then (
      (
       bif decide ((e18C.length:Int)<=a2L) then (
        some true
       ) else (
        (at? e18C a2L).bind fun⟨e22A,e22B,e22D,e22C⟩ =>
        bif ((e22C.length:Int) != a2M) then (
         some true
        ) else (
         (at? a2G 0).bind fun⟨e25A,e25B,e25D,e25C⟩ =>
         (at? e18C a2L).bind fun⟨e27A,e27B,e27D,e27C⟩ =>
         (zDz (Nd.mk e25A e25B e25D e25C) a2L e27C).bind fun⟨y29A,y29B,y29D,y29C⟩ =>
         (zB7 n (Nd.mk e18A e18B e18D e18C) (Nd.mk y29A y29B y29D y29C)).bind fun y30 =>
         some (!y30)
        )
       )
       : Option (Bool)).bind fun x20 =>
      bif x20 then (
       some ([],7)
      ) else (
       (at? e18C a2L).bind fun⟨e31A,e31B,e31D,e31C⟩ =>
       (zB0 a1 a2I (IntKind.i64.wrap (a2I+x3)) e31C).bind fun y33 =>
       some (y33,0)
      )
     ) else (
      (
       (
        bif (e18A == 2) then (
         some (e18A == 2)
        ) else (
         bif (e18A == 3) then (
          some (e18A == 3)
         ) else (
          bif (e18A == 4) then (
           some (e18A == 4)
          ) else (
           bif (e18A == 10) then (
            some (e18A == 10)
           ) else (
            some (e18A == 11)
           )
          )
         )
        )
        : Option (Bool)).bind fun x34 =>
       bif x34 then (
        bif (e18B == a2O) then (
         (zB0 a1 a2I (IntKind.i64.wrap (a2I+x3)) [Nd.mk e18A a2B e18D e18C]).bind fun y36 =>
         some (.ret (y36,0))
        ) else (
         some (.go ())
        )
       ) else (
        some (.go ())
       )
       : Option (Fl ((List Nd)×Int) Unit)).bind fun fl=>match fl with
      | .ret r=>some r
      | .go _ =>
       some ([],7)
     )
    )
   )
  )
 )
def zFa:Nat->Nd->(List Int)->(List Nd)->Option Nd
| 0,_,_,_=>none
| n+1,⟨n1A,n1B,n1D,n1C⟩,path2,l3 =>
 bif ((path2.length:Int) == 0) then (
  (zCU l3).bind fun⟨y5A,y5B,y5D,y5C⟩ =>
  some (Nd.mk y5A y5B y5D y5C)
 ) else (
  (at? path2 0).bind fun e6 =>
  (at? n1C e6).bind fun⟨e8A,e8B,e8D,e8C⟩ =>
  (at? path2 0).bind fun e10 =>
  (at? path2 1).bind fun e12 =>
  (at? path2 1).bind fun e14 =>
  (at? e8C e14).bind fun⟨e16A,e16B,e16D,e16C⟩ =>
  req (0<=(2:Int)/\(2:Int)<=(path2.length:Int)/\(path2.length:Int)<=(path2.length:Int)) <|
  (zFa n (Nd.mk e16A e16B e16D e16C) ((path2.take (path2.length:Int).toNat).drop (2:Int).toNat) l3).bind fun⟨y19A,y19B,y19D,y19C⟩ =>
  (zBD (Nd.mk e8A e8B e8D e8C) e12 (Nd.mk y19A y19B y19D y19C)).bind fun⟨y20A,y20B,y20D,y20C⟩ =>
  (zBD (Nd.mk n1A n1B n1D n1C) e10 (Nd.mk y20A y20B y20D y20C)).bind fun⟨y21A,y21B,y21D,y21C⟩ =>
  some (Nd.mk y21A y21B y21D y21C)
 )
def zEL (n:Nat):Nd->zO8->Option (Nd×Int)
| ⟨n1A,n1B,n1D,n1C⟩,⟨op2A,op2N,op2I,op2M,op2G,op2L,op2O,op2B⟩ =>
 (zA6 n (Nd.mk n1A n1B n1D n1C)).bind fun y3 =>
 bif (!y3) then (
  some (Nd.mk 0 [] 0 [],1)
 ) else (
  (zE8 n (op2A,op2N,op2I,op2M,op2G,op2L,op2O,op2B)).bind fun y4 =>
  bif (!y4) then (
   some (Nd.mk 0 [] 0 [],4)
  ) else (
   (zHU n (Nd.mk n1A n1B n1D n1C) op2N).bind fun⟨⟨y5A,y5B,y5D,y5C⟩,y6⟩ =>
   bif (y6 != 0) then (
    some (Nd.mk 0 [] 0 [],y6)
   ) else (
    (zE9 n y5C (op2A,op2N,op2I,op2M,op2G,op2L,op2O,op2B)).bind fun⟨y7,y8⟩ =>
    bif (y8 != 0) then (
     some (Nd.mk 0 [] 0 [],y8)
    ) else (
     (zFa n (Nd.mk n1A n1B n1D n1C) op2N y7).bind fun⟨y9A,y9B,y9D,y9C⟩ =>
     (zA6 n (Nd.mk y9A y9B y9D y9C)).bind fun y10 =>
     bif (!y10) then (
      some (Nd.mk 0 [] 0 [],6)
     ) else (
      some (Nd.mk y9A y9B y9D y9C,0)
     )
    )
   )
  )
 )
def zBA (n:Nat) (ops2:List zO8):Nat->Int->(List UInt8)->Int->(List Nd)->Int->Option (Fl (Nd×Int×Int) (Int×(List UInt8)×Int×(List Nd)))
| 0,_,_,_,_,_=>none
| k+1,x4,x5,x6,x7,i9 =>
 bif decide (i9<(ops2.length:Int)) then (
  (at? ops2 i9).bind fun⟨e15A,e15N,e15I,e15M,e15G,e15L,e15O,e15B⟩ =>
  (zEL n (Nd.mk x4 x5 x6 x7) (e15A,e15N,e15I,e15M,e15G,e15L,e15O,e15B)).bind fun⟨⟨y17A,y17B,y17D,y17C⟩,y18⟩ =>
  bif (y18 != 0) then (
   some (.ret (Nd.mk 0 [] 0 [],i9,y18))
  ) else (
   zBA n ops2 k y17A y17B y17D y17C (IntKind.i64.wrap (i9+1))
  )
 ) else (
  some (.go (x4,x5,x6,x7))
 )
def zDa (n:Nat):Nd->(List zO8)->Option (Nd×Int×Int)
| ⟨n1A,n1B,n1D,n1C⟩,ops2 =>
 (zA6 n (Nd.mk n1A n1B n1D n1C)).bind fun y3 =>
 bif (!y3) then (
  some (Nd.mk 0 [] 0 [],0,1)
 ) else (
  (zBA n ops2 n n1A n1B n1D n1C 0).bind fun fl=>match fl with
  | .ret r=>some r
  | .go ⟨x10,x11,x12,x13⟩ =>
   some (Nd.mk x10 x11 x12 x13,0,0)
 )
def zDs:Nd->Option Int
| ⟨n1A,n1B,n1D,n1C⟩ =>
 bif (n1A == 1) then (
  some 0
 ) else (
  some (n1C.length:Int)
 )
def zB3 (n:Nat):(List Nd)->Option Bool
| l1 =>
 (zAR n (Nd.mk 1 [] 0 l1)).bind fun y2 =>
 some y2
def zAD (F_node_Equal:Nd->Nd->Option Bool) (s11:List Nd) (s22:List Nd):Nat->Int->Option (Fl Bool Unit)
| 0,_=>none
| k+1,x6 =>
 bif decide (x6<(s11.length:Int)) then (
  (at? s11 x6).bind fun⟨e7A,e7B,e7D,e7C⟩ =>
  (at? s22 x6).bind fun⟨e9A,e9B,e9D,e9C⟩ =>
  (F_node_Equal (Nd.mk e7A e7B e7D e7C) (Nd.mk e9A e9B e9D e9C)).bind fun y11 =>
  bif (!y11) then (
   some (.ret false)
  ) else (
   zAD F_node_Equal s11 s22 k (IntKind.i64.wrap (x6+1))
  )
 ) else (
  some (.go ())
 )
mutual
def zBY:Nat->Nd->Nd->Option Bool
| 0,_,_=>none
| n+1,⟨a1A,a1B,a1D,a1C⟩,⟨b2A,b2B,b2D,b2C⟩ =>
 (
  bif (a1A == b2A) then (
   bif (a1B == b2B) then (
    bif (a1D == b2D) then (
     (zAN n a1C b2C).bind fun y4 =>
     some y4
    ) else (
     some false
    )
   ) else (
    some false
   )
  ) else (
   some false
  )
  : Option (Bool)).bind fun x3 =>
 some x3
def zAN:Nat->(List Nd)->(List Nd)->Option Bool
| 0,_,_=>none
| n+1,s11,s22 =>
 bif ((s11.length:Int) != (s22.length:Int)) then (
  some false
 ) else (
  (zAD (zBY n) s11 s22 n 0).bind fun fl=>match fl with
  | .ret r=>some r
  | .go _ =>
   some true
 )
end
mutual
def Nd.cnt:Nd->Nat
 | .mk _ _ _ ks=>Nd.cnts ks+1
def Nd.cnts:List Nd->Nat
 | []=>0
 | v::vs=>v.cnt+Nd.cnts vs
end
theorem Nd.cnt_pos:∀ v:Nd,1<=v.cnt
 | .mk _ _ _ ks=>by simp only[Nd.cnt]; omega
theorem Nd.cnts_len:∀ a:List Nd,a.length<=Nd.cnts a
 | []=>Nat.le_refl _
 | v::a=>by have:=Nd.cnts_len a; have:=v.cnt_pos; simp only[Nd.cnts,List.length_cons]; omega
theorem Nd.cnts_mem:∀ {a:List Nd}{v:Nd},v∈a->v.cnt<=Nd.cnts a
 | u::a,v,h=>by
  simp only[Nd.cnts]
  rcases List.mem_cons.1 h with rfl | h
  ·omega
  ·have:=Nd.cnts_mem h; omega
theorem Nd.cnts_drop {a:List Nd}{i:Nat} (h:i<a.length):Nd.cnts (a.drop i)=(a[i]).cnt+Nd.cnts (a.drop (i+1)):=by
 rw[List.drop_eq_getElem_cons h]; rfl
def zBy (n:Nd):Option Nd:=req (n.cnt<=1000000000) (some n)
def Nd.kids:Nd->List Nd
 | .mk _ _ _ ks=>ks
theorem zVY (n:Nd):n.kids ≠ []↔n.kids.isEmpty=false:=by cases n.kids <;> simp
instance (n:Nd):Decidable (n.kids ≠ []):=decidable_of_iff _ (zVY n).symm
def zCF (n:Nd):Option Nd:=req (n.cnt<=1000000000/\n.kids ≠ []) (some n)
def zBx:Nd->List Int->Option Nd
 | n,[]=>some n
 | _,[_]=>none
 | n,i::s::path=>if 0<=i/\i<n.kids.length then
   let item:=n.kids.getD i.toNat n
   if 0<=s/\s<item.kids.length then zBx (item.kids.getD s.toNat n) path else none
  else none
def zDj:Nd:=.mk 0 [] 0 []
def putL:Nd->List Int->Nd->Nd
 | .mk k t c ks,i::s::path,r=>.mk k t c (ks.set i.toNat (match ks[i.toNat]? with
  | some (.mk k2 t2 c2 ks2)=>.mk k2 t2 c2 (ks2.set s.toNat (match ks2[s.toNat]? with
   | some z=>putL z path r
   | none=>r))
  | none=>r))
 | _,_,r=>r
def zGX (f:Nat) (n:Nd) (path:List Int):Option (Nd×Int) :=
 (zAR f n).bind fun b=>if b=true then (match zBx n path with
  | some r=>(zBy r).bind fun r=>some (r,0)
  | none=>some (zDj,8)) else some (zDj,1)
def zEI (f:Nat) (n:Nd) (path:List Int) (row:Nd):Option (Nd×Int) :=
 (zAR f n).bind fun b=>if b=true then (zBy n).bind fun n=>(match zBx n path with
  | some _=>(zAR f row).bind fun b=>if b=true then (zBy row).bind fun row=>(zAR f (putL n path row)).bind fun b=>if b=true then some (putL n path row,0) else some (zDj,6)
    else some (zDj,4)
  | none=>some (zDj,8)) else some (zDj,1)
end Go.Proofs.YtgplhldfbkmmgaaGreat
namespace Go.Abs
section
variable {T:Nat->Option TI} {Γ:Nat->Option zAp} {M nm L:List Nat} {N k:Nat} {n:Nat->Bool} {all os:List Oper} {o:Oper} {σ σ':St} {K:St->Prop} {φ:Option Prop} {x:AV} {d:Nat}
theorem zUD {φ:Option Prop}{K:Prop} (h1:φ.getD True) (h2:K):andO φ K:=by
 cases φ with
 | none=>exact h2
 | some p=>exact⟨h1,h2⟩
theorem zQ9 (h:K (σ.putN d x)):lay false (some d) x σ K:=by
 simp only[lay,zJV]; exact h
theorem zAf (hg:o.guard=none) (hd:o.dst=some d) (hN:Nat.blt d N=true) (hc:callOf T Γ o σ.env=none) (hn:dIn (some d) nm=false) (hs:step1 T (dIn (some d) M) o σ=some (φ,x,σ')) (hφ:φ.getD True)
  (h:zDd T Γ M nm N all os (σ'.putN d x) K):zDd T Γ M nm N all (o::os) σ K:=by
 unfold zDd;rw[hg,hd]
 dsimp only;rw[hN,hc,hn,hs]
 exact zUD hφ (zQ9 h)
theorem zFW (hg:o.guard=none) (hd:o.dst=none) (hc:callOf T Γ o σ.env=none) (hs:step1 T (dIn none M) o σ=some (φ,x,σ')) (hφ:φ.getD True)
  (h:zDd T Γ M nm N all os σ' K):zDd T Γ M nm N all (o::os) σ K:=by
 unfold zDd;rw[hg,hd,hc,hs]
 exact zUD hφ h
theorem zPY {own:Bool}{t e q sz kk:Nat}{j ti:TI}{y i:Operand}{n:Int}{ki:IntKind}{rows:List (List AV)} (ho:o.op = .indexAddr t y i) (ht:T t=some ti) (hk:ti.k = .slice e) (hj:T e=some j) (hy:opd T σ.env t y = .orow q)
  (hi:opd T σ.env 0 i = .s (.int ki n)) (hh:σ.hp q=some (.arow kk sz rows)) (hz:Nat.beq sz j.size=true):step1 T own o σ=some (some (0<=n/\n<rows.length),.rp q sz n.toNat 0,σ):=by
 have e1:zCI T own o σ.env=none :=(by simp only[zCI,ho,zFD,hy,hi,AV.nrm,ht,hk]);simp only[step1,e1,zCc,zDS,zDm,ho,elemOf,ht,hk,hj,hy,hi,hh,hz]
theorem zRP {own:Bool}{t q sz r off kk:Nat}{ti:TI}{y z:Operand}{rows:List (List AV)} (ho:o.op = .store t y z) (ht:T t=some ti) (hy:opd T σ.env 0 y = .rp q sz r off)
  (hh:σ.hp q=some (.arow kk sz rows)) (h1:Nat.beq sz sz=true) (h2:Nat.beq (opd T σ.env t z).cellsA.length ti.size=true) (h3:Nat.ble (off+ti.size) sz=true) (h4:((opd T σ.env t z).cellsA).all AV.one=true) :
  step1 T own o σ=some (some (r<rows.length),.junk,zFh σ q (.arow kk sz (rows.set r ((rows.getD r []).take off++(opd T σ.env t z).cellsA++(rows.getD r []).drop (off+ti.size))))):=by
 have e1:zCI T own o σ.env=none :=(by simp only[zCI,ho]);have e2:zDS T own o σ=none:=by
  simp only[zDS,ho,hy,ht,hh]
 simp only[step1,e1,zCc,e2,zDm,ho,ht,hy,hh,h1,h2,h3,h4]
theorem zNb {own:Bool}{t q off:Nat}{ti:TI}{y z:Operand}{bt:Nat}{cells:List AV} (ho:o.op = .store t y z) (ht:T t=some ti) (hy:opd T σ.env 0 y = .op q off)
  (hh:σ.hp q=some (.box bt cells)) (h2:Nat.beq (opd T σ.env t z).cellsA.length ti.size=true) (h3:Nat.ble (off+ti.size) cells.length=true) (h4:((opd T σ.env t z).cellsA).all AV.one=true) (h5:AV.ltAll σ.nx (opd T σ.env t z).cellsA=true) :
  step1 T own o σ=some (none,.junk,zFh σ q (.box bt (cells.take off++(opd T σ.env t z).cellsA++cells.drop (off+ti.size)))):=by
 have e1:zCI T own o σ.env=none :=(by simp only[zCI,ho]);simp only[step1,e1,zCc,zDS,ho,ht,hy,hh,h2,h3,h4,h5,zDQ]
theorem zWx {own:Bool}{t q off:Nat}{ti:TI}{y:Operand}{bt:Nat}{cells:List AV}{c:AV} (ho:o.op = .load t y) (ht:T t=some ti) (ha:ti.k.agg=false) (hy:opd T σ.env 0 y = .op q off) (hh:σ.hp q=some (.box bt cells)) (hc:cells[off]? = some c) :
  step1 T own o σ=some (none,c,σ):=by
 have e1:zCI T own o σ.env=none :=(by simp only[zCI,ho,hy]);simp only[step1,e1,zCc,zDS,ho,ht,hy,hh,ha,hc]
theorem zVw {own:Bool}{t q off:Nat}{ti:TI}{y:Operand}{bt:Nat}{cells:List AV} (ho:o.op = .load t y) (ht:T t=some ti) (ha:ti.k.agg=true) (hy:opd T σ.env 0 y = .op q off) (hh:σ.hp q=some (.box bt cells)) (hc:Nat.ble (off+ti.size) cells.length=true) :
  step1 T own o σ=some (none,.agg ((cells.drop off).take ti.size),σ):=by
 have e1:zCI T own o σ.env=none :=(by simp only[zCI,ho,hy]);simp only[step1,e1,zCc,zDS,ho,ht,hy,hh,ha,hc]
theorem zNa {own:Bool}{t q kk sz:Nat}{e:Nat}{args:Array Operand}{ts:Array Nat}{y:Operand}{rows:List (List AV)} (ho:o.op = .call { callee:=.builtin .len,args:=args,argTypes:=ts }) (ha:args.toList=[y]) (hts:ts.toList=[t]) (ht:tk T t = .slice e)
  (hy:opd T σ.env t y = .orow q) (hh:σ.hp q=some (.arow kk sz rows)):step1 T own o σ=some (none,.s (.int .i64 (rows.length:Int)),σ):=by
 have e1:zCI T own o σ.env=none :=(by simp only[zCI,ho,ha,hts,pLen,ht,hy]);have e2:zDS T own o σ=none :=(by simp only[zDS,ho,ha,hts,ht,hy,hh]);simp only[step1,e1,zCc,e2,zDm,ho,ha,hts,ht,hy,hh]
theorem zWy {own:Bool}{t q sz r off:Nat}{y:Operand} (ho:o.op = .load t y) (hy:opd T σ.env 0 y = .rp q sz r off):step1 T own o σ=none/\callOf T Γ o σ.env=none/\zCA T o σ.env=none:=by
 have e1:zCI T own o σ.env=none :=(by simp only[zCI,ho,hy]);have e2:zDS T own o σ=none :=(by simp only[zDS,ho,hy]);have e3:zDm T o σ=none :=(by simp only[zDm,ho]);exact⟨by simp only[step1,e1,zCc,e2,e3],by simp only[callOf,ho],by simp only[zCA,ho]⟩
theorem zXh {t:Nat}{y:Operand} (ho:o.op = .load t y):nilQ T o σ.env=none:=by simp only[nilQ,ho]
theorem zQW {t q sz r off kk:Nat}{y:Operand}{rows:List (List AV)}{c:AV} (hg:o.guard=none) (hd:o.dst=some d) (hN:Nat.blt d N=true) (hn:dIn (some d) nm=false) (ho:o.op = .load t y) (hy:opd T σ.env 0 y = .rp q sz r off)
  (hh:σ.hp q=some (.arow kk sz rows)) (hr:r<rows.length) (hc:zPk T t ((rows.getD r []).drop off)=some c) (h:zDd T Γ M nm N all os (σ.putN d c) K):zDd T Γ M nm N all (o::os) σ K:=by
 obtain⟨e1,e2,e3⟩:=zWy (Γ:=Γ) (own:=dIn (some d) M) ho hy;unfold zDd;rw[hg,hd]
 dsimp only;rw[hN,e2,hn,e1,zXh ho]
 have hz:Nat.beq sz sz=true:=Nat.beq_refl sz;simp only[zPe,zHw,e3,zIy,ho,hy,hh,hz]
 exact⟨hr,_,rfl,by rw[hc]; exact zQ9 h⟩
end
inductive Rd (hp:Nat->Option Ob):AV->S->Prop
 | s (x:S):Rd hp (.s x) x
 | nl (sz:Nat):Rd hp (.nl sz) (.sl sz [])
 | row {k e sz:Nat} {rows:List (List S)} (h:hp k=some (.row e sz rows)):Rd hp (.orow k) (.sl sz rows)
 | arow {k e sz:Nat} {rows:List (List AV)} {rs:List (List S)} (h:hp k=some (.arow e sz rows)) (hl:rows.length=rs.length) (hr:∀ r∈rs,r.length=sz)
   (hc:∀ (i:Nat) x s,rows.flatten[i]? = some x->rs.flatten[i]? = some s->Rd hp x s):Rd hp (.orow k) (.sl sz rs)
 | box {k off bt:Nat} {cells:List AV} {ss:List S} (h:hp k=some (.box bt cells)) (hl:cells.length=ss.length)
   (hc:∀ (i:Nat) x s,cells[i]? = some x->ss[i]? = some s->Rd hp x s):Rd hp (.op k off) (.pt (ss.drop off))
 | el {k e sz i off:Nat} {rows:List (List AV)} {rs:List (List S)} (h:hp k=some (.arow e sz rows)) (hl:rows.length=rs.length) (hr:∀ r∈rs,r.length=sz) (hi:i<rs.length)
   (hc:∀ (i:Nat) x s,rows.flatten[i]? = some x->rs.flatten[i]? = some s->Rd hp x s):Rd hp (.rp k sz i off) (.pt ((rs.getD i []).drop off))
def allG (G:Nat->Prop) (β:Nat->Value) (hp:Nat->Option Ob) (b:Nat):Prop:=G b∨∃ k ob,hp k=some ob/\blk (β k)=some b
theorem Rd.rep {c:Cx}{G:Nat->Prop}{β:Nat->Value}{σ:St}{a:Act}{w:World} (hc:Conc c G β σ a w){x:AV}{s:S} (h:Rd σ.hp x s):∀ {v:Value},AVal G w β x v->Rep (allG G β σ.hp) w s v:=by
 have hk:Keep G (allG G β σ.hp) w w:=⟨fun _ h=>.inl h,fun _ _=>rfl⟩
 induction h with
 | s x=>intro v hv; simp only[AVal]at hv; exact hv.keep hk
 | nl sz=>intro v hv; simp only[AVal]at hv; subst hv; simp[Rep]
 | @row k e sz rows h =>
  intro v hv;simp only[AVal]at hv;obtain⟨hlen,hsz,ho⟩:=hc.hp k _ h;rw[hv.1]
  rcases ho with ⟨h1,rfl⟩ | ⟨b,cap,cur,h1,h2,h3,⟨mk,hmk,h4⟩,h5,h6,h7⟩
  ·rw[h1]; simp[Rep]
  ·rw[h1]
   simp only[Rep]
   refine .inr ⟨b,0,cap,rfl,h2,zCL hlen (RepRow.mk fun i s hi=>⟨.inr ⟨k,_,h,by rw[h1]; rfl⟩,?_⟩)⟩
   obtain⟨u,hu,hr⟩:=h7 i s hi;exact⟨u,by simp[World.cell?,h4,hu],hr.keep hk⟩
 | @arow k e sz rows rs h hl hr hcc ih =>
  intro v hv;simp only[AVal]at hv;obtain⟨hlen,hsz,ho⟩:=hc.hp k _ h;rw[hv.1]
  rcases ho with ⟨h1,rfl⟩ | ⟨b,cap,cur,h1,h2,h3,⟨mk,hmk,h4⟩,h5,h6,h7⟩
  ·obtain rfl:rs=[]:=List.length_eq_zero_iff.1 (by simpa using hl.symm)
   rw[h1]; simp[Rep]
  ·rw[h1]
   simp only[Rep]
   refine .inr ⟨b,0,cap,by rw[hl],by rw[← hl]; exact h2,zCL hr (RepRow.mk fun i s hi=>⟨.inr ⟨k,_,h,by rw[h1]; rfl⟩,?_⟩)⟩
   have hfl:=zAK hlen;have hfs:=zAK hr;have hil:i<rows.flatten.length :=(by rw[hfl,hl,← hfs]; exact(List.getElem?_eq_some_iff.1 hi).1);obtain⟨u,hu,hr',_⟩:=h7 i _ (List.getElem?_eq_getElem hil)
   exact⟨u,by simp[World.cell?,h4,hu],ih i _ s (List.getElem?_eq_getElem hil) hi hr'⟩
 | @box k off bt cells ss h hl hcc ih =>
  intro v hv;simp only[AVal]at hv;obtain⟨b,e,cur,h1,h2,h3,h4,h5,h6⟩:=hc.hp k _ h;obtain⟨b',hβ,rfl⟩:=hv;rw[h1]at hβ; cases hβ
  simp only[Rep]
  have hrow:RepRow (allG G β σ.hp) w b ss 0:=RepRow.mk fun i s hi=>by
   refine⟨.inr ⟨k,_,h,by rw[h1]; rfl⟩,?_⟩
   have hil:i<cells.length :=(by rw[hl]; exact(List.getElem?_eq_some_iff.1 hi).1);obtain⟨u,hu,hr⟩:=h5.get (List.getElem?_eq_getElem hil)
   rw[Array.getElem?_toList]at hu;exact⟨u,by simp[World.cell?,h2,hu],ih i _ s (List.getElem?_eq_getElem hil) hi hr⟩
  exact⟨b,off,rfl,by simpa using hrow.drop off⟩
 | @el k e sz i off rows rs h hl hr hi hcc ih =>
  intro v hv;simp only[AVal]at hv;obtain⟨b,n,cp,hβ,rfl⟩:=hv;obtain⟨hlen,hsz,ho⟩:=hc.hp k _ h;rcases ho with ⟨h1,rfl⟩ | ⟨b',cap,cur,h1,h2,h3,h4,h5,h6,h7⟩
  ·simp at hl; omega
  rw[hβ]at h1; cases h1
  simp only[Rep]
  refine⟨b,i * sz+off,rfl,?_⟩
  have hfl:=zAK hlen;have hfs:=zAK hr;have hrow:RepRow (allG G β σ.hp) w b rs.flatten 0:=RepRow.mk fun q s hq=>by
   refine⟨.inr ⟨k,_,h,by rw[hβ]; rfl⟩,?_⟩
   have hil:q<rows.flatten.length :=(by rw[hfl,hl,← hfs]; exact(List.getElem?_eq_some_iff.1 hq).1);obtain⟨u,hu,hr',_⟩:=h7 q _ (List.getElem?_eq_getElem hil)
   obtain⟨mk,hmk,h4⟩:=h4;exact⟨u,by simp[World.cell?,h4,hu],ih q _ s (List.getElem?_eq_getElem hil) hq hr'⟩
  have hrows:=(zCL hr hrow).get (i:=i) (r:=rs[i]) (List.getElem?_eq_getElem hi)
  have hg:rs.getD i []=rs[i] :=(by simp[List.getElem?_eq_getElem hi]);rw[hg]
  have:=hrows.2.drop off
  simpa using this
def RdV (hp:Nat->Option Ob):AV->AV->Prop
 | x,.s y=>Rd hp x y
 | .agg xs,.agg ys=>xs.length=ys.length/\∀ (i:Nat) x y,xs[i]? = some x->ys[i]? = some y->∃ s,y = .s s/\Rd hp x s
 | _,.junk=>True
 | _,_=>False
theorem RdV.aval {c:Cx}{G:Nat->Prop}{β:Nat->Value}{σ:St}{a:Act}{w:World} (hc:Conc c G β σ a w){x y:AV} (h:RdV σ.hp x y){v:Value} (hv:AVal G w β x v):AVal (allG G β σ.hp) w β y v:=by
 unfold RdV at h;split at h
 ·simp only[AVal]; exact h.rep hc hv
 ·simp only[AVal]at hv ⊢;obtain⟨vs,rfl,hvs⟩:=hv;refine⟨vs,rfl,AVals.mk (by rw[← h.1]; exact hvs.length) fun i y u hy hu=>?_⟩
  rename_i xs ys
  have hil:i<xs.length :=(by rw[h.1]; exact(List.getElem?_eq_some_iff.1 hy).1);obtain⟨s,rfl,hs⟩:=h.2 i _ y (List.getElem?_eq_getElem hil) hy;obtain⟨u',hu',hr⟩:=hvs.get (List.getElem?_eq_getElem hil)
  rw[hu]at hu'; cases hu'
  simp only[AVal]; exact hs.rep hc hr
 ·simp only[AVal]
 ·exact h.elim
def nils (k:Nat):List (List AV):=List.replicate k [.s (.sl 1 [])]
theorem Le.forgetH {c:Cx}{σ:St} (l:List (Nat×AV)) (hp':Nat->Option Ob) (n:Nat) (h:holds σ.env l) (hh:∀ k,σ.hp k=hp' k) (hn:σ.nx=n):Le c σ ⟨ofL l,hp',n⟩:=by
 obtain rfl:σ.hp=hp':=funext hh;subst hn;exact Le.forget l h
theorem PSound.ofOwn {P:Program}{f:Nat}{R:List AV->List Ob->AV->List (Option Ob)->Prop} (hcall:∀ args w,(callFunc f args).run P w = .ok (.enter f args) w) (h:zS7 P f R):PSound P f (zEO R) :=
 ⟨hcall,fun _ _ _ _ _ _ _ _ _ hs=>hs.elim,fun R' hR'=>(by
  obtain rfl:R=R' :=(by simpa [zEO] using hR');exact h),fun R hR=>(by cases hR)⟩
section
variable {T:Nat->Option TI} {Γ:Nat->Option zAp} {M nm L:List Nat} {N k n:Nat} {all os:List Oper} {o:Oper} {σ σ':St} {K:St->Prop} {φ:Option Prop} {x:AV} {d:Nat}
theorem zVx {own:Bool}{t e q kk sz:Nat}{j ti:TI}{y hi:Operand}{n:Int}{ki:IntKind}{rows:List (List AV)} (ho:o.op = .slice t y none (some hi) none) (ht:T t=some ti) (hk:ti.k = .slice e) (hj:T e=some j) (hy:opd T σ.env t y = .orow q)
  (hi':opd T σ.env 0 hi = .s (.int ki n)) (hh:σ.hp q=some (.arow kk sz rows)) (hz:Nat.beq sz j.size=true) :
  step1 T own o σ=some (some (0<=n/\n<=rows.length),.orow σ.nx,zCB (zHl σ q) (.arow kk sz (rows.take n.toNat))):=by
 have e1:zCI T own o σ.env=none :=(by simp only[zCI,ho,zMW,hy,AV.nrm,ht,hk,Option.map_none,Option.map_some,hi']);have e2:zDS T own o σ=none :=(by simp only[zDS,ho,elemOf,ht,hk,hj,hy,hi',hh]);simp only[step1,e1,zCc,e2,zDm,ho,elemOf,ht,hk,hj,hy,hi',hh,hz]
theorem zXs {own:Bool}{t tx e q q2 kk kk2 sz sz2:Nat}{j ti:TI}{args:Array Operand}{ts:Array Nat}{y z:Operand}{rows rows2:List (List AV)} (ho:o.op = .call { callee:=.builtin .append,args:=args,argTypes:=ts }) (ha:args.toList=[y,z]) (hts:ts.toList=[t,tx])
  (ht:T t=some ti) (hk:ti.k = .slice e) (hj:T e=some j) (htx:tk T tx = .slice e) (hy:opd T σ.env t y = .orow q) (hz:opd T σ.env tx z = .orow q2) (hh:σ.hp q=some (.arow kk sz rows)) (hh2:σ.hp q2=some (.arow kk2 sz2 rows2))
  (h1:Nat.beq sz j.size=true) (h2:Nat.beq sz2 j.size=true) (h3:Nat.beq e kk=true) :
  step1 T own o σ=some (some ((rows.length+rows2.length) * j.bytes<=140737488355328/\rows.length+rows2.length<=9223372036854775807),.orow σ.nx,zCB (zHl σ q) (.arow e sz (rows++rows2))):=by
 have e1:zCI T own o σ.env=none :=(by simp only[zCI,ho]);have e2:zDS T own o σ=none :=(by simp only[zDS,ho,ha,hts,zJg,elemOf,ht,hk,hj,hy,zK5,hh]);simp only[step1,e1,zCc,e2,zDm,ho,ha,hts,elemOf,ht,hk,hj,hy,hz,zLq,hh,zLA,htx,hh2,h1,h2,h3]
theorem zWw {own:Bool}{t tx e q kk sz sz2 e2:Nat}{j ti:TI}{args:Array Operand}{ts:Array Nat}{y z:Operand}{rows:List (List AV)}{rows2:List (List S)} (ho:o.op = .call { callee:=.builtin .copy,args:=args,argTypes:=ts }) (ha:args.toList=[y,z]) (hts:ts.toList=[t,tx])
  (ht:T t=some ti) (hk:ti.k = .slice e) (hj:T e=some j) (htx:tk T tx = .slice e2) (hy:opd T σ.env t y = .orow q) (hz:opd T σ.env tx z = .s (.sl sz2 rows2)) (hh:σ.hp q=some (.arow kk sz rows))
  (h1:Nat.beq sz j.size=true) (h2:Nat.beq sz2 j.size=true) :
  step1 T own o σ=some (some ((rows2.map (·.map AV.s)).length=rows.length),.s (.int .i64 (rows.length:Int)),zFh σ q (.arow kk sz (rows2.map (·.map AV.s)))):=by
 have e1:zCI T own o σ.env=none :=(by simp only[zCI,ho,ha,hts,zVa,hy]);have e2:zDS T own o σ=none :=(by simp only[zDS,ho]);simp only[step1,e1,zCc,e2,zDm,ho,ha,hts,elemOf,ht,hk,hj,hy,hz,zLq,hh,zLA,htx,h1,h2]
theorem zYa {own:Bool}{t e:Nat}{j ti:TI}{y z:Operand}{n m:Int}{k1 k2:IntKind} (hw:own=true) (ho:o.op = .makeSlice t y z) (ht:T t=some ti) (hk:ti.k = .slice e) (hj:T e=some j) (hy:opd T σ.env 0 y = .s (.int k1 n)) (hz:opd T σ.env 0 z = .s (.int k2 m)) (h1:Nat.ble 1 j.size=true)
  (hp:zCI T own o σ.env=none) :
  step1 T own o σ=some (some (0<=n/\n<=m/\m * j.bytes<=281474976710656/\m<=281474976710656),.orow σ.nx,zCB σ (.row e j.size (List.replicate n.toNat j.zero))):=by
 simp only[step1,hp,zCc,zDS,ho,elemOf,ht,hk,hj,hy,hz,h1]
end
def isL (sz:Nat) (p:AV):Prop:=(∃ q i,p = .rp q sz i 0)∨(∃ q,p = .op q 0)
def zBh:AV->Nat
 | .op q _=>q
 | .rp q _ _ _=>q
 | _=>0
def locO (p:AV) (off:Nat):AV:=match p with
 | .op q _=>.op q off
 | .rp q sz i _=>.rp q sz i off
 | x=>x
def zAG (hp:Nat->Option Ob):AV->Option (List AV)
 | .op q 0=>match hp q with | some (.box _ cs)=>some cs | _=>none
 | .rp q sz i 0=>match hp q with | some (.arow _ sz' rows)=>bif Nat.beq sz sz' then rows[i]? else none | _=>none
 | _=>none
def putC (hp:Nat->Option Ob) (p:AV) (c:List AV) (k:Nat):Option Ob:=match p with
 | .op q _=>match hp q with | some (.box bt _)=>bif Nat.beq k q then some (.box bt c) else hp k | _=>hp k
 | .rp q _ i _=>match hp q with | some (.arow e sz rows)=>bif Nat.beq k q then some (.arow e sz (rows.set i c)) else hp k | _=>hp k
 | _=>hp k
theorem zEb {k q:Nat} (h:k ≠ q):Nat.beq k q=false:=by
 cases e:Nat.beq k q with
 | true=>exact absurd (Nat.eq_of_beq_eq_true e) h
 | false=>rfl
theorem zBN {hp:Nat->Option Ob}{p:AV}{c:List AV}{k:Nat} (h:k ≠ zBh p):putC hp p c k=hp k:=by
 unfold putC;split
 ·rename_i q _
  have h:k ≠ q:=h;split
  ·rw[zEb h,cond_false]
  ·rfl
 ·rename_i q _ _ _
  have h:k ≠ q:=h;split
  ·rw[zEb h,cond_false]
  ·rfl
 ·rfl
theorem zF6 {hp:Nat->Option Ob}{q o bt:Nat}{cs c:List AV} (h:hp q=some (.box bt cs)):putC hp (.op q o) c=fun k=>bif Nat.beq k q then some (.box bt c) else hp k:=by
 funext k; simp only[putC,h]
theorem zJp {hp:Nat->Option Ob}{q s i o e sz:Nat}{rows:List (List AV)}{c:List AV} (h:hp q=some (.arow e sz rows)):putC hp (.rp q s i o) c=fun k=>bif Nat.beq k q then some (.arow e sz (rows.set i c)) else hp k:=by
 funext k; simp only[putC,h]
theorem zEd {hp:Nat->Option Ob}{q bt:Nat}{cs:List AV} (h:hp q=some (.box bt cs)):zAG hp (.op q 0)=some cs:=by simp only[zAG,h]
theorem zFz {hp:Nat->Option Ob}{q e sz i:Nat}{rows:List (List AV)} (h:hp q=some (.arow e sz rows)):zAG hp (.rp q sz i 0)=rows[i]?:=by simp only[zAG,h,Nat.beq_refl,cond_true]
theorem zCO {hp:Nat->Option Ob}{sz:Nat}{p:AV}{cs:List AV} (hl:isL sz p) (h:zAG hp p=some cs):(∃ q i e rows,p = .rp q sz i 0/\hp q=some (.arow e sz rows)/\rows[i]? = some cs)∨∃ q bt,p = .op q 0/\hp q=some (.box bt cs):=by
 rcases hl with ⟨q,i,rfl⟩ | ⟨q,rfl⟩
 ·simp only[zAG]at h;split at h
  ·rename_i e sz' rows hq
   cases hb:Nat.beq sz sz' with
   | false=>rw[hb]at h; cases h
   | true =>
    rw[hb,cond_true]at h;obtain rfl:=Nat.eq_of_beq_eq_true hb;exact .inl ⟨q,i,e,rows,rfl,hq,h⟩
  ·cases h
 ·simp only[zAG]at h;split at h
  ·rename_i bt cs' hq
   cases h;exact .inr ⟨q,bt,rfl,hq⟩
  ·cases h
theorem zJa {hp:Nat->Option Ob}{sz:Nat}{p:AV}{c cs:List AV} (hl:isL sz p) (h:zAG hp p=some cs):zAG (putC hp p c) p=some c:=by
 rcases zCO hl h with ⟨q,i,e,rows,rfl,hq,hi⟩ | ⟨q,bt,rfl,hq⟩
 ·rw[zJp hq,zFz (e:=e) (rows:=rows.set i c) (by simp only[Nat.beq_refl,cond_true]),List.getElem?_set,if_pos rfl,if_pos (List.getElem?_eq_some_iff.1 hi).1]
 ·rw[zF6 hq,zEd (bt:=bt) (cs:=c) (by simp only[Nat.beq_refl,cond_true])]
theorem zCf {hp hp':Nat->Option Ob}{sz:Nat}{p:AV} (hl:isL sz p) (h:hp' (zBh p)=hp (zBh p)):zAG hp' p=zAG hp p:=by
 rcases hl with ⟨q',i',rfl⟩ | ⟨q',rfl⟩ <;> (simp only[zBh]at h; simp only[zAG,h])
theorem zVf {hp:Nat->Option Ob}{sz:Nat}{p p':AV}{c cs:List AV} (hl:isL sz p) (hc:zAG hp p=some cs) (hl':isL sz p') (hne:p' ≠ p):zAG (putC hp p c) p'=zAG hp p':=by
 by_cases hb:zBh p'=zBh p
 ·rcases zCO hl hc with ⟨q,i,e,rows,rfl,hq,hi⟩ | ⟨q,bt,rfl,hq⟩
  ·have hp2:putC hp (.rp q sz i 0) c q=some (.arow e sz (rows.set i c)) :=(by rw[zJp hq]; simp only[Nat.beq_refl,cond_true]);rcases hl' with ⟨q',i',rfl⟩ | ⟨q',rfl⟩ <;> (simp only[zBh]at hb; subst hb)
   ·have hi:i' ≠ i:=fun e=>hne (by rw[e])
    rw[zFz hp2,zFz hq,List.getElem?_set,if_neg (Ne.symm hi)]
   ·simp only[zAG,hp2,hq]
  ·have hp2:putC hp (.op q 0) c q=some (.box bt c) :=(by rw[zF6 hq]; simp only[Nat.beq_refl,cond_true]);rcases hl' with ⟨q',i',rfl⟩ | ⟨q',rfl⟩ <;> (simp only[zBh]at hb; subst hb)
   ·simp only[zAG,hp2,hq]
   ·exact absurd rfl hne
 ·exact zCf hl' (zBN hb)
theorem zWi {hp:Nat->Option Ob}{sz':Nat}{p:AV}{c cs:List AV} (hl:isL sz' p) (hc:zAG hp p=some cs){q e sz:Nat}{rows:List (List AV)} (h:hp q=some (.arow e sz rows)):∃ rows',putC hp p c q=some (.arow e sz rows')/\rows'.length=rows.length:=by
 by_cases hb:q=zBh p
 ·subst hb;rcases zCO hl hc with ⟨q,i,e',rows',rfl,hq,hi⟩ | ⟨q,bt,rfl,hq⟩
  ·simp only[zBh]at h ⊢;rw[hq]at h; cases h
   rw[zJp hq]; exact⟨_,by simp only[Nat.beq_refl,cond_true]; rfl,List.length_set ..⟩
  ·simp only[zBh]at h;rw[hq]at h; cases h
 ·rw[zBN hb]; exact⟨rows,h,rfl⟩
section
variable {T:Nat->Option TI} {Γ:Nat->Option zAp} {M nm L:List Nat} {N k n:Nat} {all os:List Oper} {o:Oper} {σ σ':St} {K:St->Prop} {φ:Option Prop} {x:AV} {d:Nat}
theorem zEQ {own:Bool}{sz:Nat}{p:AV}{y:Operand} (hl:isL sz p) (ho:o.op = .nilCheck y) (hy:opd T σ.env 0 y=p):step1 T own o σ=some (none,p,σ):=by
 have e1:zCI T own o σ.env=some (none,p):=by
  rcases hl with ⟨q,i,rfl⟩ | ⟨q,rfl⟩ <;> simp only[zCI,ho,hy]
 simp only[step1,e1]
theorem zFg {own:Bool}{sz:Nat}{p:AV}{t f off ft:Nat}{ti j:TI}{fs:List (Nat×Nat)}{y:Operand} (hl:isL sz p) (ho:o.op = .fieldAddr t y f) (hy:opd T σ.env 0 y=p) (ht:T t=some ti) (hk:ti.k = .struct fs) (hf:fs[f]? = some (off,ft)) (hj:T ft=some j) (hz:Nat.ble 1 j.size=true) :
  step1 T own o σ=some (none,locO p off,σ):=by
 have e1:zCI T own o σ.env=some (none,locO p off):=by
  rcases hl with ⟨q,i,rfl⟩ | ⟨q,rfl⟩ <;> simp only[zCI,ho,hy,zG4,ht,hk,hf,hj,hz,zNW,locO,Nat.zero_add]
 simp only[step1,e1]
theorem zDX {sz t off:Nat}{ti:TI}{y:Operand}{p c:AV}{cs:List AV} (hg:o.guard=none) (hd:o.dst=some d) (hN:Nat.blt d N=true) (hn:dIn (some d) nm=false) (ho:o.op = .load t y) (ht:T t=some ti) (ha:ti.k.agg=false) (hl:isL sz p) (hy:opd T σ.env 0 y=locO p off)
  (hcs:zAG σ.hp p=some cs) (hc:cs[off]? = some c) (h:zDd T Γ M nm N all os (σ.putN d c) K):zDd T Γ M nm N all (o::os) σ K:=by
 rcases zCO hl hcs with ⟨q,i,e,rows,rfl,hq,hi⟩ | ⟨q,bt,rfl,hq⟩
 ·have hgd:rows.getD i []=cs :=(by rw[List.getD_eq_getElem?_getD,hi]; rfl);refine zQW hg hd hN hn ho hy hq (List.getElem?_eq_some_iff.1 hi).1 (c:=c) ?_ h;simp only[zPk,ht,ha,hgd]
  rw[List.drop_eq_getElem_cons (List.getElem?_eq_some_iff.1 hc).1]
  simp only[(List.getElem?_eq_some_iff.1 hc).2]
 ·have hcall:callOf T Γ o σ.env=none :=(by simp only[callOf,ho]);exact zAf hg hd hN hcall hn (zWx ho ht ha hy hq hc) trivial h
theorem zQX {sz t off:Nat}{ti:TI}{y z:Operand}{p c:AV}{cs:List AV} (hg:o.guard=none) (hd:o.dst=none) (ho:o.op = .store t y z) (ht:T t=some ti) (hs:ti.size=1) (hl:isL sz p) (hy:opd T σ.env 0 y=locO p off)
  (hcs:zAG σ.hp p=some cs) (hlen:cs.length=sz) (hoff:off<sz) (hz:(opd T σ.env t z).cellsA=[c]) (ho1:c.one=true) (hlt:c.lt σ.nx=true)
  (h:zDd T Γ M nm N all os { σ with hp:=putC σ.hp p (cs.set off c) } K):zDd T Γ M nm N all (o::os) σ K:=by
 have hcall:callOf T Γ o σ.env=none :=(by simp only[callOf,ho]);have hset:cs.take off++[c]++cs.drop (off+1)=cs.set off c:=by
  rw[List.set_eq_take_append_cons_drop,if_pos (by omega)]; simp
 have h1:Nat.ble (off+1) sz=true:=Nat.ble_eq_true_of_le hoff;rcases zCO hl hcs with ⟨q,i,e,rows,rfl,hq,hi⟩ | ⟨q,bt,rfl,hq⟩
 ·have hgd:rows.getD i []=cs :=(by rw[List.getD_eq_getElem?_getD,hi]; rfl);have hst:=zRP (T:=T) (own:=dIn none M) (o:=o) (σ:=σ) ho ht hy hq (Nat.beq_refl _) (by rw[hz,hs]; rfl) (by rw[hs]; exact h1) (by rw[hz]; simp[ho1])
  refine zFW hg hd hcall hst (List.getElem?_eq_some_iff.1 hi).1 ?_;rw[hgd,hz,hs,hset]
  rw[zJp hq]at h;exact h
 ·have hst:=zNb (T:=T) (own:=dIn none M) (o:=o) (σ:=σ) ho ht hy hq (by rw[hz,hs]; rfl) (by rw[hs,hlen]; exact h1) (by rw[hz]; simp[ho1]) (by rw[hz]; simp[AV.ltAll,hlt])
  refine zFW hg hd hcall hst trivial ?_;rw[hz,hs,hset]
  rw[zF6 hq]at h;exact h
theorem zGR {sz t:Nat}{ti:TI}{y z:Operand}{p:AV}{cs cs':List AV} (hg:o.guard=none) (hd:o.dst=none) (ho:o.op = .store t y z) (ht:T t=some ti) (hs:ti.size=sz) (hl:isL sz p) (hy:opd T σ.env 0 y=p)
  (hcs:zAG σ.hp p=some cs) (hlen:cs.length=sz) (hz:(opd T σ.env t z).cellsA=cs') (hlen':cs'.length=sz) (ho1:cs'.all AV.one=true) (hlt:AV.ltAll σ.nx cs'=true)
  (h:zDd T Γ M nm N all os { σ with hp:=putC σ.hp p cs' } K):zDd T Γ M nm N all (o::os) σ K:=by
 have hcall:callOf T Γ o σ.env=none :=(by simp only[callOf,ho]);have hset:cs.take 0++cs'++cs.drop (0+sz)=cs':=by
  rw[List.drop_eq_nil_of_le (by omega)]; simp
 have h1:Nat.ble (0+sz) sz=true:=Nat.ble_eq_true_of_le (by omega)
 have h2:Nat.beq cs'.length ti.size=true :=(by rw[hlen',hs]; exact Nat.beq_refl _);rcases zCO hl hcs with ⟨q,i,e,rows,rfl,hq,hi⟩ | ⟨q,bt,rfl,hq⟩
 ·have hgd:rows.getD i []=cs :=(by rw[List.getD_eq_getElem?_getD,hi]; rfl);have hst:=zRP (T:=T) (own:=dIn none M) (o:=o) (σ:=σ) ho ht hy hq (Nat.beq_refl _) (by rw[hz]; exact h2) (by rw[hs]; exact h1) (by rw[hz]; exact ho1)
  refine zFW hg hd hcall hst (List.getElem?_eq_some_iff.1 hi).1 ?_;rw[hgd,hz,hs,hset]
  rw[zJp hq]at h;exact h
 ·have hst:=zNb (T:=T) (own:=dIn none M) (o:=o) (σ:=σ) ho ht hy hq (by rw[hz]; exact h2) (by rw[hs,hlen]; exact h1) (by rw[hz]; exact ho1) (by rw[hz]; exact hlt)
  refine zFW hg hd hcall hst trivial ?_;rw[hz,hs,hset]
  rw[zF6 hq]at h;exact h
theorem zDg {j g:Nat}{want:Bool} (hg:o.guard=some (j,want)) (hj:(all[j]?).bind (·.dst)=some g) (hv:σ.env g = .s (.bool want)) (h:zDd T Γ M nm N all ({ o with guard:=none }::os) σ K):zDd T Γ M nm N all (o::os) σ K:=by
 unfold zDd at h ⊢;dsimp only at h ⊢;split
 ·rename_i h0
  rw[h0]at h;exact h
 ·rename_i h0
  rw[h0]at h;rw[hg]
  dsimp only;rw[hj]
  dsimp only;rw[hv]
  cases want <;> exact h
end
theorem PSound.giveAll {P:Program}{f:Nat}{R:List AV->(Nat->Option Ob)->Nat->(AV->(Nat->Option Ob)->Nat->Prop)->Prop}{S:List AV->Ret->Prop} (h:PSound P f (zQ4 R))
  (hS:∀ xs r,S xs r->∃ y,r = .val y/\y.pers=true/\R xs (fun _=>none) 0 fun x hp n=>RdV hp x y):PSound P f (zAn S):=by
 refine⟨h.1,fun G w xs vs r hlt hgl hp hv hs=>?_,fun R hR=>(by cases hR),fun R hR=>(by cases hR)⟩
 obtain⟨y,rfl,hy,hR⟩:=hS xs r hs;refine(h.2.2.2 R rfl G w (fun _=>.tuple #[]) xs vs (fun _=>none) 0 _ hlt hgl hv (AV.persAll_lt hp) ⟨fun k ob hk=>(by cases hk),fun k ob hk=>(by cases hk),fun k k' ob ob' hk=>(by cases hk)⟩ hR).mono ?_;rintro e w' ⟨v,G',β',x,hp',n',rfl,hΦ,hn,hfr,hsub,hnew,hlt',hx,hxl,hob,hst⟩
 let c:Cx:=zE2 P w (fun _=>.tuple #[]) (fun _=>none) 0 G 0
 have hk:Keep G G' w w':=⟨hsub,fun b hb=>hfr.old b (hlt b hb) (by rintro⟨k,ob,h,_⟩; cases h)⟩
 have hc:Conc c G' β' ⟨fun _=>.junk,hp',n'⟩ { tmps:=#[],defers:=[] } w':={
  defers:=rfl
  size:=rfl
  env:=fun t=>by simp only[AVal]
  envlt:=fun t=>rfl
  hp:=hob.obs
  hplt:=hob.lts
  inj:=hob.inj
  lt:=hlt'
  sub:=hsub
  new:=hnew
  fr:=hfr
  stay:=⟨hn,hst⟩
  glob:=hgl.keep hk }
 have hmine:∀ b,c.mine b->w.heap.size<=b:=fun b hb=>by
  rcases hb with ⟨k,ob,h,_⟩ | h
  ·cases h
  ·exact h
 refine⟨v,allG G' β' hp',rfl,⟨hfr.os,hfr.tape,hfr.output,hfr.size,fun b hb=>hfr.old b hb (by rintro⟨k,ob,h,_⟩; cases h),fun b hb=>.inl (hsub b hb),fun b hb=>?_,fun b hb=>?_⟩,hy,(hΦ.aval hc hx).pers hy⟩
 ·rcases hb with hb | ⟨k,ob,h1,h2⟩
  ·exact(hnew b hb).imp id (hmine b)
  ·exact .inr (hmine b (row_block (hc.hp k ob h1) b h2).2)
 ·rcases hb with hb | ⟨k,ob,h1,h2⟩
  ·exact hlt' b hb
  ·exact hc.blk_lt h1 h2
theorem ObAt.give {c:Cx}{G G':Nat->Prop}{w:World}{β:Nat->Value}{v:Value}{ob:Ob} (hs:∀ b,G b->G' b) (hng:∀ b,blk v=some b->¬ G' b) (h:ObAt c G w β v ob):ObAt c G' w β v ob:=by
 have hk:Keep G G' w w:=⟨hs,fun _ _=>rfl⟩
 cases ob with
 | box t xs =>
  obtain⟨b,e,cur,q1,q2,q3,q4,q5,q6⟩:=h;exact⟨b,e,cur,q1,q2,hng b (by rw[q1]; rfl),q4,q5.keep hk,q6⟩
 | row e sz rows =>
  obtain⟨q1,q2,q3⟩:=h;refine⟨q1,q2,q3.imp id ?_⟩
  rintro⟨b,cap,cur,g1,g2,g3,g4,g5,g6,g7⟩
  exact⟨b,cap,cur,g1,g2,g3,g4,hng b (by rw[g1]; rfl),g6,fun i s hi=>let ⟨u,hu,hr'⟩:=g7 i s hi; ⟨u,hu,hr'.keep hk⟩⟩
 | arow e sz rows =>
  obtain⟨q1,q2,q3⟩:=h;refine⟨q1,q2,q3.imp id ?_⟩
  rintro⟨b,cap,cur,g1,g2,g3,g4,g5,g6,g7⟩
  exact⟨b,cap,cur,g1,g2,g3,g4,hng b (by rw[g1]; rfl),g6,fun i x hi=>let ⟨u,hu,hr',h1⟩:=g7 i x hi; ⟨u,hu,hr'.keep hk,h1⟩⟩
theorem RdV.lt {hp:Nat->Option Ob}{x y:AV} (h:RdV hp x y) (n:Nat):y.lt n=true:=by
 unfold RdV at h;split at h
 ·rfl
 ·rename_i xs ys
  simp only[AV.lt]
  refine zMz fun q y hq=>?_
  have hil:q<xs.length :=(by rw[h.1]; exact(List.getElem?_eq_some_iff.1 hq).1);obtain⟨s,rfl,_⟩:=h.2 q _ y (List.getElem?_eq_getElem hil) hq
  rfl
 ·rfl
 ·exact h.elim
def RdK (hp:Nat->Option Ob) (env:Nat->AV):List (Nat×AV)->Prop
 | []=>True
 | (t,y)::r=>(y=env t∨RdV hp (env t) y)/\RdK hp env r
theorem RdK.lt {hp:Nat->Option Ob}{env:Nat->AV}{n:Nat} (he:∀ t,(env t).lt n=true):∀ {l:List (Nat×AV)},RdK hp env l->∀ t,(ofL l t).lt n=true
 | [],_,t=>rfl
 | (u,y)::r,h,t=>by
  simp only[ofL]
  cases Nat.beq t u with
  | true =>
   rcases h.1 with h1 | h1
   ·rw[h1]; exact he u
   ·exact h1.lt n
  | false=>exact RdK.lt he h.2 t
theorem Le.givePart {c:Cx}{σ:St} (l:List (Nat×AV)) (hpD hpK:Nat->Option Ob) (hD:∀ k ob,hpD k=some ob->σ.hp k=some ob) (hK:∀ k ob,hpK k=some ob->σ.hp k=some ob) (dis:∀ k ob ob',hpD k=some ob->hpK k=some ob'->False)
  (h:RdK hpD σ.env l):Le c σ ⟨ofL l,hpK,σ.nx⟩:=by
 unfold Le;intro G β a w hc;have hk:Keep G (allG G β hpD) w w:=⟨fun _ h=>.inl h,fun _ _=>rfl⟩
 have hcD:Conc c G β ⟨σ.env,hpD,σ.nx⟩ a w:={ hc with hp:=fun k ob hk=>hc.hp k ob (hD k ob hk),hplt:=fun k ob hk=>hc.hplt k ob (hD k ob hk),inj:=fun k k' ob ob' hk hk'=>hc.inj k k' ob ob' (hD k ob hk) (hD k' ob' hk') }
 refine⟨allG G β hpD,β,{ defers:=hc.defers,size:=hc.size,env:=?_,envlt:=RdK.lt hc.envlt h,hp:=fun k ob hk'=>?_,hplt:=fun k ob hk=>hc.hplt k ob (hK k ob hk),inj:=fun k k' ob ob' hk hk'=>hc.inj k k' ob ob' (hK k ob hk) (hK k' ob' hk'),lt:=fun b hb=>?_,sub:=fun b hb=>.inl (hc.sub b hb),new:=fun b hb=>?_,fr:=hc.fr,stay:=hc.stay,glob:=hc.glob.keep hk }⟩
 ·intro t;show AVal (allG G β hpD) w β (ofL l t) (a.tmps.getD t undef)
  induction l with
  | nil=>simp only[ofL,AVal]
  | cons p r ih =>
   obtain⟨u,y⟩:=p;simp only[ofL]
   cases e:Nat.beq t u with
   | true =>
    obtain rfl:=Nat.eq_of_beq_eq_true e;rcases h.1 with h1 | h1
    ·rw[h1]; exact(hc.env t).keep hk
    ·exact h1.aval hcD (hc.env t)
   | false=>exact ih h.2
 ·refine(hc.hp k ob (hK k ob hk')).give (fun b h=>.inl h) fun b hb hg=>?_
  rcases hg with hg | ⟨k',ob',h1,h2⟩
  ·exact(row_block (hc.hp k ob (hK k ob hk')) b hb).1 hg
  ·by_cases e:k=k'
   ·subst e; exact dis k ob' ob h1 hk'
   ·exact hc.inj k k' ob ob' (hK k ob hk') (hD k' ob' h1) e b hb h2
 ·rcases hb with hb | ⟨k,ob,h1,h2⟩
  ·exact hc.lt b hb
  ·exact hc.blk_lt (hD k ob h1) h2
 ·rcases hb with hb | ⟨k,ob,h1,h2⟩
  ·exact hc.new b hb
  ·exact .inr (row_block (hc.hp k ob (hD k ob h1)) b h2).2
end Go.Abs
namespace Go.Proofs.YtgplhldfbkmmgaaGreat
open Go.Abs
def zA4 (k:Int) (t:List UInt8) (c:Int) (v:AV):List AV:=[.s (.int .i64 k),.s (.str t),.s (.int .i64 c),v]
mutual
def At (hp:Nat->Option Ob) (e:Nat) (p:AV):Nd->List Nat->List AV->Nat->Prop
 | .mk k t c ks,keys,pd,w=>∃ v,zAG hp p=some (zA4 k t c v) /\
   ((v = .s (.sl 4 (Nd.encs ks))/\keys=[]/\pd=[p]/\w=Nd.cnts ks+1)∨(ks=[]/\v = .s (.sl 4 [])/\keys=[]/\pd=[]/\w=0) ∨
    ∃ q rows keys',v = .orow q/\hp q=some (.arow e 4 rows)/\rows.length=ks.length/\keys=q::keys'/\LAt hp e q 0 ks keys' pd w)
def LAt (hp:Nat->Option Ob) (e q i:Nat):List Nd->List Nat->List AV->Nat->Prop
 | [],keys,pd,w=>keys=[]/\pd=[]/\w=0
 | t::ts,keys,pd,w=>∃ k1 k2 p1 p2 w1 w2,keys=k1++k2/\pd=p1++p2/\w=w1+w2/\At hp e (.rp q 4 i 0) t k1 p1 w1/\LAt hp e q (i+1) ts k2 p2 w2
end
mutual
theorem At.len {hp:Nat->Option Ob}{e:Nat}{p:AV}:∀ {t:Nd}{keys:List Nat}{pd:List AV}{w:Nat},At hp e p t keys pd w->pd.length<=w/\w<=t.cnt
 | .mk k t c ks,keys,pd,w,h=>by
  simp only[At]at h
  obtain⟨v,_,⟨_,_,rfl,rfl⟩ | ⟨_,_,_,rfl,rfl⟩ | ⟨q,rows,keys',_,_,_,_,h⟩⟩:=h
  ·simp[Nd.cnt]
  ·simp
  ·have:=LAt.len h
   simp only[Nd.cnt]; omega
theorem LAt.len {hp:Nat->Option Ob}{e q i:Nat}:∀ {ts:List Nd}{keys:List Nat}{pd:List AV}{w:Nat},LAt hp e q i ts keys pd w->pd.length<=w/\w<=Nd.cnts ts
 | [],keys,pd,w,h=>by
  simp only[LAt]at h
  obtain⟨_,rfl,rfl⟩:=h
  simp
 | t::ts,keys,pd,w,h=>by
  simp only[LAt]at h
  obtain⟨k1,k2,p1,p2,w1,w2,_,rfl,rfl,h1,h2⟩:=h
  have:=At.len h1
  have:=LAt.len h2
  simp only[Nd.cnts,List.length_append]; omega
end
structure Sim (hp hp':Nat->Option Ob) (e:Nat) (D:Nat->Prop) (p0:AV):Prop where
 row:∀ q rows,D q->hp q=some (.arow e 4 rows)->∃ rows',hp' q=some (.arow e 4 rows')/\rows'.length=rows.length
 cell:∀ p,D (zBh p)->p ≠ p0->isL 4 p->zAG hp' p=zAG hp p
theorem Sim.sub {hp hp':Nat->Option Ob}{e:Nat}{D D':Nat->Prop}{p0:AV} (h:Sim hp hp' e D p0) (hd:∀ q,D' q->D q):Sim hp hp' e D' p0 :=
 ⟨fun q rows hq=>h.row q rows (hd q hq),fun p hp=>h.cell p (hd _ hp)⟩
mutual
theorem At.sameQ {hp hp':Nat->Option Ob}{e:Nat}{p p0:AV}:∀ {t:Nd}{keys:List Nat}{pd:List AV}{w:Nat},At hp e p t keys pd w->isL 4 p->Sim hp hp' e (fun k=>k=zBh p∨k∈keys) p0->p ≠ p0->(∀ q j,q∈keys->AV.rp q 4 j 0 ≠ p0)->At hp' e p t keys pd w
 | .mk k t c ks,keys,pd,w,h,hl,hs,hne,hb=>by
  simp only[At]at h ⊢
  obtain⟨v,hc,h⟩:=h
  refine⟨v,by rw[hs.cell p (.inl rfl) hne hl,hc],?_⟩
  rcases h with h | h | ⟨q,rows,keys',h1,h2,h3,rfl,h5⟩
  ·exact .inl h
  ·exact .inr (.inl h)
  ·obtain⟨rows',h6,h7⟩:=hs.row q rows (.inr List.mem_cons_self) h2
   exact .inr (.inr ⟨q,rows',keys',h1,h6,h7.trans h3,rfl,LAt.sameQ h5 (hs.sub fun k hk=>.inr (List.mem_cons.2 hk)) (fun j _=>hb q j List.mem_cons_self) (fun q' j hm=>hb q' j (List.mem_cons_of_mem _ hm))⟩)
theorem LAt.sameQ {hp hp':Nat->Option Ob}{e q i:Nat}{p0:AV}:∀ {ts:List Nd}{keys:List Nat}{pd:List AV}{w:Nat},LAt hp e q i ts keys pd w->Sim hp hp' e (fun k=>k=q∨k∈keys) p0->(∀ j,i<=j->AV.rp q 4 j 0 ≠ p0)->(∀ q' j,q'∈keys->AV.rp q' 4 j 0 ≠ p0)->LAt hp' e q i ts keys pd w
 | [],_,_,_,h,_,_,_=>h
 | t::ts,keys,pd,w,h,hs,hne,hb=>by
  simp only[LAt]at h ⊢
  obtain⟨k1,k2,p1,p2,w1,w2,rfl,rfl,rfl,h1,h2⟩:=h
  exact⟨k1,k2,p1,p2,w1,w2,rfl,rfl,rfl,
   At.sameQ h1 (.inl ⟨q,i,rfl⟩) (hs.sub fun k hk=>hk.imp id (List.mem_append_left _)) (hne i (Nat.le_refl _)) (fun q' j hm=>hb q' j (List.mem_append_left _ hm)),
   LAt.sameQ h2 (hs.sub fun k hk=>hk.imp id (List.mem_append_right _)) (fun j hj=>hne j (by omega)) (fun q' j hm=>hb q' j (List.mem_append_right _ hm))⟩
end
theorem At.same {hp hp':Nat->Option Ob}{e:Nat}{p p0:AV}{t:Nd}{keys:List Nat}{pd:List AV}{w:Nat} (h:At hp e p t keys pd w) (hl:isL 4 p) (hs:Sim hp hp' e (fun k=>k=zBh p∨k∈keys) p0) (hne:p ≠ p0) (hb:zBh p0 ∉ keys):At hp' e p t keys pd w :=
 h.sameQ hl hs hne fun q j hm e=>hb (by rw[← e]; exact hm)
theorem LAt.same {hp hp':Nat->Option Ob}{e q i:Nat}{p0:AV}{ts:List Nd}{keys:List Nat}{pd:List AV}{w:Nat} (h:LAt hp e q i ts keys pd w) (hs:Sim hp hp' e (fun k=>k=q∨k∈keys) p0) (hne:∀ j,i<=j->AV.rp q 4 j 0 ≠ p0) (hb:zBh p0 ∉ keys):LAt hp' e q i ts keys pd w :=
 h.sameQ hs hne fun q j hm e=>hb (by rw[← e]; exact hm)
theorem Sim.same {hp hp':Nat->Option Ob}{e:Nat}{D:Nat->Prop}{p0:AV} (h:∀ k,D k->hp' k=hp k):Sim hp hp' e D p0 :=
 ⟨fun q rows hq hr=>⟨rows,(h q hq).trans hr,rfl⟩,fun p hp _ hl=>zCf hl (h _ hp)⟩
theorem At.frame {hp hp':Nat->Option Ob}{e:Nat}{p:AV}{t:Nd}{keys:List Nat}{pd:List AV}{w:Nat} (h:At hp e p t keys pd w) (hl:isL 4 p) (hs:∀ k,k=zBh p∨k∈keys->hp' k=hp k):At hp' e p t keys pd w :=
 h.sameQ hl (Sim.same (p0:=.junk) hs) (fun e=>by rcases hl with ⟨_,_,rfl⟩ | ⟨_,rfl⟩ <;> cases e) (fun q j _ e=>by cases e)
mutual
theorem At.base {hp:Nat->Option Ob}{e:Nat}{p p0:AV}:∀ {t:Nd}{keys:List Nat}{pd:List AV}{w:Nat},At hp e p t keys pd w->p0∈pd->p0=p∨zBh p0∈keys
 | .mk k t c ks,keys,pd,w,h,hm=>by
  simp only[At]at h
  obtain⟨v,_,⟨_,_,rfl,_⟩ | ⟨_,_,_,rfl,_⟩ | ⟨q,rows,keys',_,_,_,rfl,h⟩⟩:=h
  ·exact .inl (List.mem_singleton.1 hm)
  ·cases hm
  ·rcases LAt.base h hm with ⟨j,_,rfl⟩ | h
   ·exact .inr List.mem_cons_self
   ·exact .inr (List.mem_cons_of_mem _ h)
theorem LAt.base {hp:Nat->Option Ob}{e q i:Nat}{p0:AV}:∀ {ts:List Nd}{keys:List Nat}{pd:List AV}{w:Nat},LAt hp e q i ts keys pd w->p0∈pd->(∃ j,i<=j/\p0 = .rp q 4 j 0)∨zBh p0∈keys
 | [],keys,pd,w,h,hm=>by
  simp only[LAt]at h
  obtain⟨_,rfl,_⟩:=h
  cases hm
 | t::ts,keys,pd,w,h,hm=>by
  simp only[LAt]at h
  obtain⟨k1,k2,p1,p2,w1,w2,rfl,rfl,rfl,h1,h2⟩:=h
  rcases List.mem_append.1 hm with hm | hm
  ·rcases At.base h1 hm with rfl | hm
   ·exact .inl ⟨i,Nat.le_refl _,rfl⟩
   ·exact .inr (List.mem_append_left _ hm)
  ·rcases LAt.base h2 hm with ⟨j,hj,hm⟩ | hm
   ·exact .inl ⟨j,by omega,hm⟩
   ·exact .inr (List.mem_append_right _ hm)
end
mutual
theorem At.loc {hp:Nat->Option Ob}{e:Nat}{p p0:AV}:∀ {t:Nd}{keys:List Nat}{pd:List AV}{w:Nat},At hp e p t keys pd w->isL 4 p->p0∈pd->isL 4 p0
 | .mk k t c ks,keys,pd,w,h,hl,hm=>by
  simp only[At]at h
  obtain⟨v,_,⟨_,_,rfl,_⟩ | ⟨_,_,_,rfl,_⟩ | ⟨q,rows,keys',_,_,_,rfl,h⟩⟩:=h
  ·rw[List.mem_singleton.1 hm]; exact hl
  ·cases hm
  ·exact LAt.loc h hm
theorem LAt.loc {hp:Nat->Option Ob}{e q i:Nat}{p0:AV}:∀ {ts:List Nd}{keys:List Nat}{pd:List AV}{w:Nat},LAt hp e q i ts keys pd w->p0∈pd->isL 4 p0
 | [],keys,pd,w,h,hm=>by
  simp only[LAt]at h
  obtain⟨_,rfl,_⟩:=h
  cases hm
 | t::ts,keys,pd,w,h,hm=>by
  simp only[LAt]at h
  obtain⟨k1,k2,p1,p2,w1,w2,rfl,rfl,rfl,h1,h2⟩:=h
  rcases List.mem_append.1 hm with hm | hm
  ·exact At.loc h1 (.inl ⟨q,i,rfl⟩) hm
  ·exact LAt.loc h2 hm
end
theorem zVO {α:Type}{a b S:List α}{x:α} (h:a++b=S++[x]):(b=[]/\a=S++[x])∨∃ S2,b=S2++[x]/\S=a++S2:=by
 rcases List.eq_nil_or_concat b with rfl | ⟨b',y,rfl⟩
 ·exact .inl ⟨rfl,by simpa using h⟩
 ·rw[List.concat_eq_append,← List.append_assoc]at h;have:=List.append_inj' h rfl;obtain⟨h1,h2⟩:=this;cases h2;exact .inr ⟨b',List.concat_eq_append,h1.symm⟩
def Repl (hp:Nat->Option Ob) (e:Nat) (p0:AV) (S:List AV) (w:Nat) (D:Nat->Prop) (keys:List Nat) (P:(Nat->Option Ob)->List Nat->List AV->Nat->Prop):Prop :=
 ∃ t0 w0,At hp e p0 t0 [] [p0] t0.cnt/\w=w0+t0.cnt/\∀ hp' new ch w',Sim hp hp' e D p0->At hp' e p0 t0 new ch w'->∃ keys2,keys2.Perm (keys++new)/\P hp' keys2 (S++ch) (w0+w')
theorem zWe {a b n:List Nat}{k2:List Nat} (h:k2.Perm (a++n)):(k2++b).Perm (a++b++n) :=
 (h.append_right b).trans (by rw[List.append_assoc,List.append_assoc]; exact(List.perm_append_comm).append_left a)
mutual
theorem At.repl {hp:Nat->Option Ob}{e:Nat}{p p0:AV}{S:List AV}:∀ {t:Nd}{keys:List Nat}{w:Nat},At hp e p t keys (S++[p0]) w->isL 4 p->(zBh p::keys).Nodup ->
  Repl hp e p0 S w (fun k=>k=zBh p∨k∈keys) keys fun hp' keys2 pd w=>At hp' e p t keys2 pd w
 | .mk k t c ks,keys,w,h,hl,hn=>by
  have h0:=h
  simp only[At]at h
  obtain⟨v,hc,⟨rfl,rfl,h2,rfl⟩ | ⟨_,_,_,h2,_⟩ | ⟨q,rows,keys',rfl,hq,hlen,rfl,h⟩⟩:=h
  ·cases S with
   | cons x S=>cases S <;> simp at h2
   | nil =>
    obtain rfl:p0=p:=by simpa using h2
    refine⟨.mk k t c ks,0,h0,by simp[Nd.cnt],fun hp' new ch w' _ ha=>⟨new,by simp,by simpa using ha⟩⟩
  ·simp at h2
  ·have hn2:=List.nodup_cons.1 hn
   have hb:zBh p0∈q::keys':=by
    rcases LAt.base h (p0:=p0) (by simp) with ⟨j,_,rfl⟩ | h
    ·exact List.mem_cons_self
    ·exact List.mem_cons_of_mem _ h
   have hne:p ≠ p0:=fun e=>hn2.1 (by rw[e]; exact hb)
   obtain⟨t0,w0,r1,r2,r3⟩:=LAt.repl h hn2.2
   refine⟨t0,w0,r1,r2,fun hp' new ch w' hs ha=>?_⟩
   obtain⟨rows',h6,h7⟩:=hs.row q rows (.inr List.mem_cons_self) hq
   obtain⟨keys2,hp2,hl2⟩:=r3 hp' new ch w' (hs.sub fun k hk=>.inr (List.mem_cons.2 hk)) ha
   refine⟨q::keys2,by simpa using hp2,?_⟩
   simp only[At]
   exact⟨.orow q,by rw[hs.cell p (.inl rfl) hne hl,hc],.inr (.inr ⟨q,rows',keys2,rfl,h6,h7.trans hlen,rfl,hl2⟩)⟩
theorem LAt.repl {hp:Nat->Option Ob}{e q i:Nat}{p0:AV}{S:List AV}:∀ {ts:List Nd}{keys:List Nat}{w:Nat},LAt hp e q i ts keys (S++[p0]) w->(q::keys).Nodup ->
  Repl hp e p0 S w (fun k=>k=q∨k∈keys) keys fun hp' keys2 pd w=>LAt hp' e q i ts keys2 pd w
 | [],keys,w,h,hn=>by
  simp only[LAt]at h
  simp at h
 | t::ts,keys,w,h,hn=>by
  simp only[LAt]at h
  obtain⟨k1,k2,p1,p2,w1,w2,rfl,hpd,rfl,h1,h2⟩:=h
  obtain⟨hq,hn2⟩:=List.nodup_cons.1 hn
  obtain⟨n1,n2,n12⟩:=List.nodup_append.1 hn2
  have hq1:q ∉ k1:=fun h=>hq (List.mem_append_left _ h)
  have hq2:q ∉ k2:=fun h=>hq (List.mem_append_right _ h)
  rcases zVO hpd.symm with ⟨rfl,rfl⟩ | ⟨S2,rfl,rfl⟩
  ·have hb:=At.base h1 (p0:=p0) (by simp)
   obtain⟨t0,w0,r1,r2,r3⟩:=At.repl h1 (.inl ⟨q,i,rfl⟩) (List.nodup_cons.2 ⟨hq1,n1⟩)
   refine⟨t0,w0+w2,r1,by omega,fun hp' new ch w' hs ha=>?_⟩
   obtain⟨keys2,hp2,hl2⟩:=r3 hp' new ch w' (hs.sub fun k hk=>hk.imp id (List.mem_append_left _)) ha
   refine⟨keys2++k2,zWe hp2,?_⟩
   simp only[LAt]
   refine⟨keys2,k2,S++ch,[],w0+w',w2,rfl,by simp,by omega,hl2,?_⟩
   refine LAt.same h2 (hs.sub fun k hk=>hk.imp id (List.mem_append_right _)) (fun j hj e=>?_) (fun hm=>?_)
   ·rcases hb with rfl | hb
    ·cases e; omega
    ·rw[← e]at hb; exact hq1 hb
   ·rcases hb with rfl | hb
    ·exact hq2 hm
    ·exact n12 _ hb _ hm rfl
  ·have hb:=LAt.base h2 (p0:=p0) (by simp)
   obtain⟨t0,w0,r1,r2,r3⟩:=LAt.repl h2 (List.nodup_cons.2 ⟨hq2,n2⟩)
   refine⟨t0,w1+w0,r1,by omega,fun hp' new ch w' hs ha=>?_⟩
   obtain⟨keys2,hp2,hl2⟩:=r3 hp' new ch w' (hs.sub fun k hk=>hk.imp id (List.mem_append_right _)) ha
   refine⟨k1++keys2,by rw[List.append_assoc]; exact hp2.append_left k1,?_⟩
   simp only[LAt]
   refine⟨k1,keys2,p1,S2++ch,w1,w0+w',rfl,by simp,by omega,?_,hl2⟩
   refine At.same h1 (.inl ⟨q,i,rfl⟩) (hs.sub fun k hk=>hk.imp id (List.mem_append_left _)) (fun e=>?_) (fun hm=>?_)
   ·rcases hb with ⟨j,hj,hb⟩ | hb
    ·rw[hb]at e; cases e; omega
    ·rw[← e]at hb; exact hq2 hb
   ·rcases hb with ⟨j,hj,rfl⟩ | hb
    ·exact hq1 hm
    ·exact n12 _ hm _ hb rfl
end
theorem Sim.put {hp hp':Nat->Option Ob}{e:Nat}{D:Nat->Prop}{p0:AV}{c cs:List AV} (hl:isL 4 p0) (hc:zAG hp p0=some cs) (h:∀ k,D k->hp' k=putC hp p0 c k):Sim hp hp' e D p0 :=
 ⟨fun q rows hq hr=>by rw[h q hq]; exact zWi hl hc hr,fun p hp hne hl'=>(zCf hl' (h _ hp)).trans (zVf hl hc hl' hne)⟩
def locs (q i n:Nat):List AV:=(List.range' i n).map fun j=>.rp q 4 j 0
theorem LAt.fresh {hp:Nat->Option Ob}{e q:Nat}:∀ {ts:List Nd}{i:Nat},(∀ j x,ts[j]? = some x->zAG hp (.rp q 4 (i+j) 0)=some (x.enc.map AV.s))->LAt hp e q i ts [] (locs q i ts.length) (Nd.cnts ts)
 | [],i,_=>by simp[LAt,locs,Nd.cnts]
 | .mk k t c ks::ts,i,h=>by
  simp only[LAt]
  refine⟨[],[],[.rp q 4 i 0],locs q (i+1) ts.length,Nd.cnts ks+1,Nd.cnts ts,rfl,by simp[locs,List.range'_succ],by simp[Nd.cnts,Nd.cnt],?_,LAt.fresh fun j x hj=>?_⟩
  ·simp only[At]
   exact⟨.s (.sl 4 (Nd.encs ks)),h 0 (.mk k t c ks) rfl,.inl (by simp)⟩
  ·rw[show i+1+j=i+(j+1) by omega]; exact h (j+1) x (by simpa using hj)
theorem LAt.copied {hp:Nat->Option Ob}{e q:Nat}{ts:List Nd} (h:hp q=some (.arow e 4 ((Nd.encs ts).map (·.map AV.s)))):LAt hp e q 0 ts [] (locs q 0 ts.length) (Nd.cnts ts) :=
 LAt.fresh fun j x hj=>by
  rw[zFz h,Nat.zero_add,Nd.encs_eq,List.map_map,List.getElem?_map,hj]; rfl
theorem zSV {hp:Nat->Option Ob}:∀ {rows:List (List AV)}{rs:List (List S)},(∀ (j:Nat) r s,rows[j]? = some r->rs[j]? = some s->r.length=s.length/\∀ (i:Nat) x y,r[i]? = some x->s[i]? = some y->Rd hp x y)->∀ (i:Nat) x y,rows.flatten[i]? = some x->rs.flatten[i]? = some y->Rd hp x y
 | [],_,_,_,_,_,h,_=>by simp at h
 | _::_,[],_,_,_,_,_,h=>by simp at h
 | r::rows,s::rs,h,i,x,y,hx,hy=>by
  obtain⟨hl,h0⟩:=h 0 r s (by simp) (by simp)
  rw[List.flatten_cons,List.getElem?_append]at hx hy
  by_cases hi:i<r.length
  ·rw[if_pos hi]at hx;rw[if_pos (hl ▸ hi)]at hy;exact h0 i x y hx hy
  ·rw[if_neg hi]at hx;rw[if_neg (hl ▸ hi),← hl]at hy;exact zSV (fun j r s hr hs=>h (j+1) r s (by simpa using hr) (by simpa using hs)) _ x y hx hy
def RdC (hp:Nat->Option Ob) (cs:List AV) (ss:List S):Prop:=cs.length=ss.length/\∀ (i:Nat) x y,cs[i]? = some x->ss[i]? = some y->Rd hp x y
theorem RdC.node {hp:Nat->Option Ob}{k:Int}{t:List UInt8}{c:Int}{ks:List Nd}{v:AV} (h:Rd hp v (.sl 4 (Nd.encs ks))):RdC hp (zA4 k t c v) (Nd.enc (.mk k t c ks)) :=
 ⟨rfl,fun i x y hx hy=>by
  match i with
  | 0=>cases hx; cases hy; exact .s _
  | 1=>cases hx; cases hy; exact .s _
  | 2=>cases hx; cases hy; exact .s _
  | 3=>cases hx; cases hy; exact h
  | i+4=>simp[zA4]at hx⟩
theorem Rd.rows {hp:Nat->Option Ob}{q e:Nat}{rows:List (List AV)}{ks:List Nd} (hq:hp q=some (.arow e 4 rows)) (hl:rows.length=ks.length) (h:∀ j x,ks[j]? = some x->∃ cs,zAG hp (.rp q 4 j 0)=some cs/\RdC hp cs x.enc):Rd hp (.orow q) (.sl 4 (Nd.encs ks)):=by
 rw[Nd.encs_eq]
 refine .arow hq (by simpa using hl) (fun r hr=>?_) (zSV fun j r s hr hs=>?_)
 ·obtain⟨x,_,rfl⟩:=List.mem_map.1 hr;cases x; rfl
 ·rw[List.getElem?_map]at hs;cases hx:ks[j]? with
  | none=>rw[hx]at hs; cases hs
  | some x =>
   rw[hx]at hs; cases hs
   obtain⟨cs,h1,h2⟩:=h j x hx;rw[zFz hq,hr]at h1;cases h1;exact h2
mutual
theorem At.rd {hp:Nat->Option Ob}{e:Nat}{p:AV}:∀ {t:Nd}{keys:List Nat}{pd:List AV}{w:Nat},At hp e p t keys pd w->∃ cs,zAG hp p=some cs/\RdC hp cs t.enc
 | .mk k t c ks,keys,pd,w,h=>by
  simp only[At]at h
  obtain⟨v,hc,⟨rfl,_⟩ | ⟨rfl,rfl,_⟩ | ⟨q,rows,keys',rfl,hq,hlen,rfl,h⟩⟩:=h
  ·exact⟨_,hc,.node (.s _)⟩
  ·exact⟨_,hc,.node (.s _)⟩
  ·exact⟨_,hc,.node (Rd.rows hq hlen fun j x hj=>(by have:=LAt.rd h j x hj; rwa [Nat.zero_add]at this))⟩
theorem LAt.rd {hp:Nat->Option Ob}{e q i:Nat}:∀ {ts:List Nd}{keys:List Nat}{pd:List AV}{w:Nat},LAt hp e q i ts keys pd w->∀ j x,ts[j]? = some x->∃ cs,zAG hp (.rp q 4 (i+j) 0)=some cs/\RdC hp cs x.enc
 | [],keys,pd,w,h,j,x,hj=>by simp at hj
 | t::ts,keys,pd,w,h,0,x,hj=>by
  simp only[LAt]at h
  obtain⟨k1,k2,p1,p2,w1,w2,rfl,rfl,rfl,h1,h2⟩:=h
  cases hj
  exact At.rd h1
 | t::ts,keys,pd,w,h,j+1,x,hj=>by
  simp only[LAt]at h
  obtain⟨k1,k2,p1,p2,w1,w2,rfl,rfl,rfl,h1,h2⟩:=h
  rw[show i+(j+1)=i+1+j by omega]
  exact LAt.rd h2 j x (by simpa using hj)
end
theorem zWl {hp:Nat->Option Ob}{cs:List AV}{t:Nd} (h:RdC hp cs t.enc):RdV hp (.agg cs) (.agg (t.enc.map AV.s)):=by
 refine⟨by simpa using h.1,fun i x y hx hy=>?_⟩
 rw[List.getElem?_map]at hy;cases hs:t.enc[i]? with
 | none=>rw[hs]at hy; cases hy
 | some s=>rw[hs]at hy; cases hy; exact⟨s,rfl,h.2 i x s hx hs⟩
def Hole (hp:Nat->Option Ob) (e:Nat) (p:AV) (keys:List Nat) (p1:AV) (y:Nd) (F:Nd->Nd):Prop :=
 ∃ keys0 rest w0,keys.Perm (keys0++rest)/\At hp e p1 y keys0 [] w0/\isL 4 p1/\(p1=p∨zBh p1∈rest) /\
  ∀ hp' t1 new w1,Sim hp hp' e (fun k=>k=zBh p∨k∈rest) p1->At hp' e p1 t1 new [] w1->∃ keys2 w2,keys2.Perm (rest++new)/\At hp' e p (F t1) keys2 [] w2
theorem Hole.refl {hp:Nat->Option Ob}{e w:Nat}{p:AV}{t:Nd}{keys:List Nat} (h:At hp e p t keys [] w) (hl:isL 4 p):Hole hp e p keys p t id :=
 ⟨keys,[],w,by simp,h,hl,.inl rfl,fun hp' t1 new w1 _ h1=>⟨new,w1,by simp,h1⟩⟩
theorem LAt.hole {hp:Nat->Option Ob}{e q:Nat}{x:Nd}:∀ {ts:List Nd}{keys:List Nat}{w i j:Nat},LAt hp e q i ts keys [] w->(q::keys).Nodup->ts[j]? = some x ->
  ∃ keys0 rest w0,keys.Perm (keys0++rest)/\At hp e (.rp q 4 (i+j) 0) x keys0 [] w0/\∀ hp' t1 new w1,Sim hp hp' e (fun k=>k=q∨k∈rest) (.rp q 4 (i+j) 0)->At hp' e (.rp q 4 (i+j) 0) t1 new [] w1 ->
   ∃ keys2 w2,keys2.Perm (rest++new)/\LAt hp' e q i (ts.set j t1) keys2 [] w2
 | [],keys,w,i,j,h,hn,hx=>by simp at hx
 | t::ts,keys,w,i,0,h,hn,hx=>by
  simp only[LAt]at h;obtain⟨k1,k2,p1,p2,w1,w2,rfl,hpd,rfl,h1,h2⟩:=h;obtain⟨rfl,rfl⟩:=List.append_eq_nil_iff.1 hpd.symm;cases hx;have hq:=(List.nodup_cons.1 hn).1;refine⟨k1,k2,w1,List.Perm.refl _,h1,fun hp' t1 new w3 hs h3=>⟨new++k2,w3+w2,List.perm_append_comm,?_⟩⟩
  simp only[List.set_cons_zero,LAt]
  exact⟨new,k2,[],[],w3,w2,rfl,rfl,rfl,h3,LAt.same h2 hs (fun j hj e=>by cases e; omega) (fun hm=>hq (List.mem_append_right _ hm))⟩
 | t::ts,keys,w,i,j+1,h,hn,hx=>by
  simp only[LAt]at h;obtain⟨k1,k2,p1,p2,w1,w2,rfl,hpd,rfl,h1,h2⟩:=h;obtain⟨rfl,rfl⟩:=List.append_eq_nil_iff.1 hpd.symm;obtain⟨hq,hn2⟩:=List.nodup_cons.1 hn;obtain⟨n1,n2,_⟩:=List.nodup_append.1 hn2;obtain⟨keys0,rest,w0,r1,r2,r3⟩:=LAt.hole (i:=i+1) (j:=j) h2 (List.nodup_cons.2 ⟨fun hm=>hq (List.mem_append_right _ hm),n2⟩) (by simpa using hx)
  rw[show i+1+j=i+(j+1) by omega]at r2 r3;refine⟨keys0,k1++rest,w0,List.perm_iff_count.2 fun a=>?_,r2,fun hp' t1 new w3 hs h3=>?_⟩
  ·have:=r1.count_eq a;simp only[List.count_append]at this ⊢
   omega
  ·obtain⟨keys2,w4,q1,q2⟩:=r3 hp' t1 new w3 (hs.sub fun k hk=>hk.imp id (List.mem_append_right _)) h3;refine⟨k1++keys2,w1+w4,by rw[List.append_assoc]; exact q1.append_left k1,?_⟩
   simp only[List.set_cons_succ,LAt]
   exact⟨k1,keys2,[],[],w1,w4,rfl,rfl,rfl,At.same h1 (.inl ⟨q,i,rfl⟩) (hs.sub fun k hk=>hk.imp id (List.mem_append_left _)) (fun e=>by injection e with e1 e2 e3 e4; omega) (fun hm=>hq (List.mem_append_left _ hm)),q2⟩
theorem Hole.kid {hp:Nat->Option Ob}{e w i:Nat}{p:AV}{k c:Int}{tx:List UInt8}{ks:List Nd}{x:Nd}{keys:List Nat} (h:At hp e p (.mk k tx c ks) keys [] w) (hl:isL 4 p) (hn:(zBh p::keys).Nodup) (hx:ks[i]? = some x) :
  ∃ q rows,zAG hp p=some (zA4 k tx c (.orow q))/\hp q=some (.arow e 4 rows)/\rows.length=ks.length/\Hole hp e p keys (.rp q 4 i 0) x (fun x'=>.mk k tx c (ks.set i x')):=by
 simp only[At]at h;obtain⟨v,hc,⟨_,_,h,_⟩ | ⟨rfl,_⟩ | ⟨q,rows,keys',rfl,hq,hlen,rfl,h⟩⟩:=h
 ·cases h
 ·simp at hx
 ·obtain⟨hb,hn2⟩:=List.nodup_cons.1 hn;obtain⟨keys0,rest,w0,r1,r2,r3⟩:=LAt.hole h hn2 hx;rw[Nat.zero_add]at r2 r3;refine⟨q,rows,hc,hq,hlen,keys0,q::rest,w0,List.perm_iff_count.2 fun a=>?_,r2,.inl ⟨q,i,rfl⟩,.inr List.mem_cons_self,fun hp' t1 new w1 hs h1=>?_⟩
  ·have:=r1.count_eq a;simp only[List.count_append,List.count_cons]at this ⊢
   omega
  ·obtain⟨rows',g1,g2⟩:=hs.row q rows (.inr List.mem_cons_self) hq;obtain⟨keys2,w2,q1,q2⟩:=r3 hp' t1 new w1 (hs.sub fun k hk=>.inr (List.mem_cons.2 hk)) h1;refine⟨q::keys2,w2,by simpa using q1,?_⟩
   simp only[At]
   refine⟨.orow q,by rw[hs.cell p (.inl rfl) (fun e=>hb (by rw[e]; exact List.mem_cons_self)) hl,hc],.inr (.inr ⟨q,rows',keys2,rfl,g1,by rw[g2,hlen,List.length_set],rfl,q2⟩)⟩
theorem Hole.trans {hp:Nat->Option Ob}{e:Nat}{p p1 p2:AV}{y z:Nd}{keys:List Nat}{F F2:Nd->Nd} (hn:(zBh p::keys).Nodup) (h:Hole hp e p keys p1 y F) (k:∀ keys0 w0,At hp e p1 y keys0 [] w0->isL 4 p1->(zBh p1::keys0).Nodup->Hole hp e p1 keys0 p2 z F2):Hole hp e p keys p2 z (fun x=>F (F2 x)):=by
 obtain⟨keys0,rest,w0,a1,a2,a3,a4,a5⟩:=h;obtain⟨hb,hnk⟩:=List.nodup_cons.1 hn;obtain⟨n0,n1,n01⟩:=List.nodup_append.1 (a1.nodup_iff.1 hnk)
 have hb1:zBh p1 ∉ keys0:=fun hm=>by
  rcases a4 with rfl | a4
  ·exact hb (a1.mem_iff.2 (List.mem_append_left _ hm))
  ·exact n01 _ hm _ a4 rfl
 obtain⟨keys1,rest1,w1,b1,b2,b3,b4,b5⟩:=k keys0 w0 a2 a3 (List.nodup_cons.2 ⟨hb1,n0⟩)
 refine⟨keys1,rest1++rest,w1,List.perm_iff_count.2 fun a=>?_,b2,b3,?_,fun hp' t1 new w2 hs h2=>?_⟩
 ·have:=a1.count_eq a;have:=b1.count_eq a;simp only[List.count_append]at *
  omega
 ·rcases b4 with rfl | b4
  ·exact a4.imp id (List.mem_append_right _)
  ·exact .inr (List.mem_append_left _ b4)
 ·have hp1:zBh p1=zBh p∨zBh p1∈rest:=a4.imp (fun e=>by rw[e]) id;obtain⟨keysA,wA,q1,q2⟩:=b5 hp' t1 new w2 (hs.sub fun k hk=>by
   rcases hk with rfl | hk
   ·exact hp1.imp id (List.mem_append_right _)
   ·exact .inr (List.mem_append_left _ hk)) h2
  have hs1:Sim hp hp' e (fun k=>k=zBh p∨k∈rest) p1:=⟨fun q rows hq=>hs.row q rows (hq.imp id (List.mem_append_right _)),fun p' hp' hne hl'=>by
   by_cases e2:p'=p2
   ·subst e2;rcases b4 with b4 | b4
    ·exact absurd b4 hne
    ·exfalso
     have hm:zBh p'∈keys0:=b1.mem_iff.2 (List.mem_append_right _ b4)
     rcases hp' with h3 | h3
     ·exact hb (a1.mem_iff.2 (List.mem_append_left _ (by rw[← h3]; exact hm)))
     ·exact n01 _ hm _ h3 rfl
   ·exact hs.cell p' (hp'.imp id (List.mem_append_right _)) e2 hl'⟩
  obtain⟨keysB,wB,q3,q4⟩:=a5 hp' (F2 t1) keysA wA hs1 q2;refine⟨keysB,wB,List.perm_iff_count.2 fun a=>?_,q4⟩
  have:=q1.count_eq a;have:=q3.count_eq a;simp only[List.count_append]at *
  omega
def tab:List (Nat×TI):=[
 (3,⟨.int .i64,1,8,[.int .i64 0]⟩),
 (4,⟨.bool,1,1,[.bool false]⟩),
 (5,⟨.int .u8,1,1,[.int .u8 0]⟩),
 (9,⟨.str,1,16,[.str []]⟩),
 (22,⟨.slice 24,1,24,[.sl 4 []]⟩),
 (24,⟨.struct [(0,3),(1,9),(2,3),(3,22)],4,56,[.int .i64 0,.str [],.int .i64 0,.sl 4 []]⟩),
 (25,⟨.slice 60,1,24,[.sl 5 []]⟩),
 (27,⟨.struct [(0,9),(1,24),(5,25),(6,3)],7,104,[.str [],.int .i64 0,.str [],.int .i64 0,.sl 4 [],.sl 5 [],.int .i64 0]⟩),
 (30,⟨.slice 5,1,24,[.sl 1 []]⟩),
 (55,⟨.slice 63,1,24,[.sl 8 []]⟩),
 (56,⟨.slice 3,1,24,[.sl 1 []]⟩),
 (58,⟨.struct [(0,56),(1,56)],2,48,[.sl 1 [],.sl 1 []]⟩),
 (60,⟨.struct [(0,55),(1,58),(3,58)],5,120,[.sl 8 [],.sl 1 [],.sl 1 [],.sl 1 [],.sl 1 []]⟩),
 (63,⟨.struct [(0,3),(1,56),(2,3),(3,3),(4,22),(5,3),(6,9),(7,9)],8,112,[.int .i64 0,.sl 1 [],.int .i64 0,.int .i64 0,.sl 4 [],.int .i64 0,.str [],.str []]⟩)]
def T (t:Nat):Option TI:=look? t tab
theorem zXZ:∀ p∈tab,okT Tryz.prog p.1 p.2:=by
 simp only[tab,List.forall_mem_cons]
 refine⟨?_,?_,?_,?_,?_,?_,?_,?_,?_,?_,?_,?_,?_,?_,by simp⟩
 ·exact⟨_,Tryz.t3,_,Tryz.underlying3,rfl,by kernel_rfl,rfl,rfl,rfl,rfl,rfl,fun _=>rfl,rfl⟩
 ·exact⟨_,Tryz.t4,_,Tryz.underlying4,rfl,by kernel_rfl,rfl,rfl,rfl,rfl,rfl,fun _=>rfl,rfl⟩
 ·exact⟨_,Tryz.t5,_,Tryz.underlying5,rfl,by kernel_rfl,rfl,rfl,rfl,rfl,rfl,fun _=>rfl,rfl⟩
 ·exact⟨_,Tryz.t9,_,Tryz.underlying9,rfl,by kernel_rfl,rfl,rfl,rfl,rfl,rfl,fun _=>rfl,rfl⟩
 ·exact⟨_,Tryz.t22,_,Tryz.underlying22,rfl,by kernel_rfl,rfl,rfl,rfl,rfl,rfl,fun _=>rfl,rfl⟩
 ·exact⟨_,Tryz.t24,_,Tryz.underlying24,rfl,by kernel_rfl,rfl,rfl,rfl,rfl,rfl,(fun h=>by cases h),rfl⟩
 ·exact⟨_,Tryz.t25,_,Tryz.underlying25,rfl,by kernel_rfl,rfl,rfl,rfl,rfl,rfl,fun _=>rfl,rfl⟩
 ·exact⟨_,Tryz.t27,_,Tryz.underlying27,rfl,by kernel_rfl,rfl,rfl,rfl,rfl,rfl,(fun h=>by cases h),rfl⟩
 ·exact⟨_,Tryz.t30,_,Tryz.underlying30,rfl,by kernel_rfl,rfl,rfl,rfl,rfl,rfl,fun _=>rfl,rfl⟩
 ·exact⟨_,Tryz.t55,_,Tryz.underlying55,rfl,by kernel_rfl,rfl,rfl,rfl,rfl,rfl,fun _=>rfl,rfl⟩
 ·exact⟨_,Tryz.t56,_,Tryz.underlying56,rfl,by kernel_rfl,rfl,rfl,rfl,rfl,rfl,fun _=>rfl,rfl⟩
 ·exact⟨_,Tryz.t58,_,Tryz.underlying58,rfl,by kernel_rfl,rfl,rfl,rfl,rfl,rfl,(fun h=>by cases h),rfl⟩
 ·exact⟨_,Tryz.t60,_,Tryz.underlying60,rfl,by kernel_rfl,rfl,rfl,rfl,rfl,rfl,(fun h=>by cases h),rfl⟩
 ·exact⟨_,Tryz.t63,_,Tryz.underlying63,rfl,by kernel_rfl,rfl,rfl,rfl,rfl,rfl,(fun h=>by cases h),rfl⟩
theorem tok:TOk Tryz.prog T:=zWQ zXZ
theorem tcl:∀ t i,T t=some i->zDD T i=true:=zUH (by rfl)
def tabX:List (Nat×TI):=[
 (31,⟨.int .i64,1,8,[.int .i64 0]⟩),
 (34,⟨.struct [(0,9),(1,24),(5,25),(6,3)],7,104,[.str [],.int .i64 0,.str [],.int .i64 0,.sl 4 [],.sl 5 [],.int .i64 0]⟩),
 (40,⟨.fn,1,8,[.nf]⟩),
 (49,⟨.ptr 104,1,8,[.np]⟩),
 (66,⟨.slice 68,1,24,[.sl 4 []]⟩),
 (68,⟨.struct [(0,3),(1,3),(2,9),(3,66)],4,56,[.int .i64 0,.int .i64 0,.str [],.sl 4 []]⟩),
 (70,⟨.int .u64,1,8,[.int .u64 0]⟩),
 (73,⟨.slice 75,1,24,[.sl 4 []]⟩),
 (75,⟨.struct [(0,3),(1,3),(2,9),(3,73)],4,56,[.int .i64 0,.int .i64 0,.str [],.sl 4 []]⟩),
 (80,⟨.fn,1,8,[.nf]⟩),
 (87,⟨.int .u64,1,8,[.int .u64 0]⟩),
 (90,⟨.ptr 92,1,8,[.np]⟩),
 (92,⟨.struct [(0,31)],1,8,[.int .i64 0]⟩),
 (104,⟨.struct [(0,24),(4,24),(8,25),(9,3)],10,144,[.int .i64 0,.str [],.int .i64 0,.sl 4 [],.int .i64 0,.str [],.int .i64 0,.sl 4 [],.sl 5 [],.int .i64 0]⟩),
 (112,⟨.ptr 68,1,8,[.np]⟩),
 (115,⟨.fn,1,8,[.nf]⟩),
 (116,⟨.fn,1,8,[.nf]⟩),
 (118,⟨.fn,1,8,[.nf]⟩),
 (128,⟨.ptr 130,1,8,[.np]⟩),
 (130,⟨.struct [(0,30)],1,24,[.sl 1 []]⟩),
 (135,⟨.fn,1,8,[.nf]⟩),
 (136,⟨.fn,1,8,[.nf]⟩),
 (139,⟨.fn,1,8,[.nf]⟩),
 (150,⟨.ptr 24,1,8,[.np]⟩),
 (151,⟨.slice 150,1,24,[.sl 1 []]⟩),
 (155,⟨.fn,1,8,[.nf]⟩),
 (161,⟨.ptr 167,1,8,[.np]⟩),
 (163,⟨.struct [(0,9),(1,3),(2,80)],3,32,[.str [],.int .i64 0,.nf]⟩),
 (164,⟨.arr 13 163,39,416,[.str [],.int .i64 0,.nf,.str [],.int .i64 0,.nf,.str [],.int .i64 0,.nf,.str [],.int .i64 0,.nf,.str [],.int .i64 0,.nf,.str [],.int .i64 0,.nf,.str [],.int .i64 0,.nf,.str [],.int .i64 0,.nf,.str [],.int .i64 0,.nf,.str [],.int .i64 0,.nf,.str [],.int .i64 0,.nf,.str [],.int .i64 0,.nf,.str [],.int .i64 0,.nf]⟩),
 (167,⟨.struct [(0,164),(39,3)],40,424,[.str [],.int .i64 0,.nf,.str [],.int .i64 0,.nf,.str [],.int .i64 0,.nf,.str [],.int .i64 0,.nf,.str [],.int .i64 0,.nf,.str [],.int .i64 0,.nf,.str [],.int .i64 0,.nf,.str [],.int .i64 0,.nf,.str [],.int .i64 0,.nf,.str [],.int .i64 0,.nf,.str [],.int .i64 0,.nf,.str [],.int .i64 0,.nf,.str [],.int .i64 0,.nf,.int .i64 0]⟩),
 (175,⟨.fn,1,8,[.nf]⟩),
 (182,⟨.fn,1,8,[.nf]⟩),
 (186,⟨.fn,1,8,[.nf]⟩),
 (187,⟨.fn,1,8,[.nf]⟩),
 (196,⟨.struct [(0,63),(8,22)],9,136,[.int .i64 0,.sl 1 [],.int .i64 0,.int .i64 0,.sl 4 [],.int .i64 0,.str [],.str [],.sl 4 []]⟩),
 (200,⟨.slice 9,1,24,[.sl 1 []]⟩),
 (209,⟨.slice 56,1,24,[.sl 1 []]⟩),
 (216,⟨.fn,1,8,[.nf]⟩),
 (233,⟨.slice 22,1,24,[.sl 1 []]⟩),
 (235,⟨.int .u32,1,4,[.int .u32 0]⟩)]
theorem zXY:∀ p∈tabX,okT Tryz.prog p.1 p.2:=by
 simp only[tabX,List.forall_mem_cons]
 refine⟨?_,?_,?_,?_,?_,?_,?_,?_,?_,?_,?_,?_,?_,?_,?_,?_,?_,?_,?_,?_,?_,?_,?_,?_,?_,?_,?_,?_,?_,?_,?_,?_,?_,?_,?_,?_,?_,?_,?_,?_,by simp⟩
 ·exact⟨_,Tryz.t31,_,Tryz.underlying31,rfl,by kernel_rfl,rfl,rfl,rfl,rfl,rfl,fun _=>rfl,rfl⟩
 ·exact⟨_,Tryz.t34,_,Tryz.underlying34,rfl,by kernel_rfl,rfl,rfl,rfl,rfl,rfl,(fun h=>by cases h),rfl⟩
 ·exact⟨_,Tryz.t40,_,Tryz.underlying40,rfl,by kernel_rfl,rfl,rfl,rfl,rfl,rfl,fun _=>rfl,rfl⟩
 ·exact⟨_,Tryz.t49,_,Tryz.underlying49,rfl,by kernel_rfl,rfl,rfl,rfl,rfl,rfl,fun _=>rfl,rfl⟩
 ·exact⟨_,Tryz.t66,_,Tryz.underlying66,rfl,by kernel_rfl,rfl,rfl,rfl,rfl,rfl,fun _=>rfl,rfl⟩
 ·exact⟨_,Tryz.t68,_,Tryz.underlying68,rfl,by kernel_rfl,rfl,rfl,rfl,rfl,rfl,(fun h=>by cases h),rfl⟩
 ·exact⟨_,Tryz.t70,_,Tryz.underlying70,rfl,by kernel_rfl,rfl,rfl,rfl,rfl,rfl,fun _=>rfl,rfl⟩
 ·exact⟨_,Tryz.t73,_,Tryz.underlying73,rfl,by kernel_rfl,rfl,rfl,rfl,rfl,rfl,fun _=>rfl,rfl⟩
 ·exact⟨_,Tryz.t75,_,Tryz.underlying75,rfl,by kernel_rfl,rfl,rfl,rfl,rfl,rfl,(fun h=>by cases h),rfl⟩
 ·exact⟨_,Tryz.t80,_,Tryz.underlying80,rfl,by kernel_rfl,rfl,rfl,rfl,rfl,rfl,fun _=>rfl,rfl⟩
 ·exact⟨_,Tryz.t87,_,Tryz.underlying87,rfl,by kernel_rfl,rfl,rfl,rfl,rfl,rfl,fun _=>rfl,rfl⟩
 ·exact⟨_,Tryz.t90,_,Tryz.underlying90,rfl,by kernel_rfl,rfl,rfl,rfl,rfl,rfl,fun _=>rfl,rfl⟩
 ·exact⟨_,Tryz.t92,_,Tryz.underlying92,rfl,by kernel_rfl,rfl,rfl,rfl,rfl,rfl,(fun h=>by cases h),rfl⟩
 ·exact⟨_,Tryz.t104,_,Tryz.underlying104,rfl,by kernel_rfl,rfl,rfl,rfl,rfl,rfl,(fun h=>by cases h),rfl⟩
 ·exact⟨_,Tryz.t112,_,Tryz.underlying112,rfl,by kernel_rfl,rfl,rfl,rfl,rfl,rfl,fun _=>rfl,rfl⟩
 ·exact⟨_,Tryz.t115,_,Tryz.underlying115,rfl,by kernel_rfl,rfl,rfl,rfl,rfl,rfl,fun _=>rfl,rfl⟩
 ·exact⟨_,Tryz.t116,_,Tryz.underlying116,rfl,by kernel_rfl,rfl,rfl,rfl,rfl,rfl,fun _=>rfl,rfl⟩
 ·exact⟨_,Tryz.t118,_,Tryz.underlying118,rfl,by kernel_rfl,rfl,rfl,rfl,rfl,rfl,fun _=>rfl,rfl⟩
 ·exact⟨_,Tryz.t128,_,Tryz.underlying128,rfl,by kernel_rfl,rfl,rfl,rfl,rfl,rfl,fun _=>rfl,rfl⟩
 ·exact⟨_,Tryz.t130,_,Tryz.underlying130,rfl,by kernel_rfl,rfl,rfl,rfl,rfl,rfl,(fun h=>by cases h),rfl⟩
 ·exact⟨_,Tryz.t135,_,Tryz.underlying135,rfl,by kernel_rfl,rfl,rfl,rfl,rfl,rfl,fun _=>rfl,rfl⟩
 ·exact⟨_,Tryz.t136,_,Tryz.underlying136,rfl,by kernel_rfl,rfl,rfl,rfl,rfl,rfl,fun _=>rfl,rfl⟩
 ·exact⟨_,Tryz.t139,_,Tryz.underlying139,rfl,by kernel_rfl,rfl,rfl,rfl,rfl,rfl,fun _=>rfl,rfl⟩
 ·exact⟨_,Tryz.t150,_,Tryz.underlying150,rfl,by kernel_rfl,rfl,rfl,rfl,rfl,rfl,fun _=>rfl,rfl⟩
 ·exact⟨_,Tryz.t151,_,Tryz.underlying151,rfl,by kernel_rfl,rfl,rfl,rfl,rfl,rfl,fun _=>rfl,rfl⟩
 ·exact⟨_,Tryz.t155,_,Tryz.underlying155,rfl,by kernel_rfl,rfl,rfl,rfl,rfl,rfl,fun _=>rfl,rfl⟩
 ·exact⟨_,Tryz.t161,_,Tryz.underlying161,rfl,by kernel_rfl,rfl,rfl,rfl,rfl,rfl,fun _=>rfl,rfl⟩
 ·exact⟨_,Tryz.t163,_,Tryz.underlying163,rfl,by kernel_rfl,rfl,rfl,rfl,rfl,rfl,(fun h=>by cases h),rfl⟩
 ·exact⟨_,Tryz.t164,_,Tryz.underlying164,rfl,by kernel_rfl,rfl,rfl,rfl,rfl,rfl,(fun h=>by cases h),rfl⟩
 ·exact⟨_,Tryz.t167,_,Tryz.underlying167,rfl,by kernel_rfl,rfl,rfl,rfl,rfl,rfl,(fun h=>by cases h),rfl⟩
 ·exact⟨_,Tryz.t175,_,Tryz.underlying175,rfl,by kernel_rfl,rfl,rfl,rfl,rfl,rfl,fun _=>rfl,rfl⟩
 ·exact⟨_,Tryz.t182,_,Tryz.underlying182,rfl,by kernel_rfl,rfl,rfl,rfl,rfl,rfl,fun _=>rfl,rfl⟩
 ·exact⟨_,Tryz.t186,_,Tryz.underlying186,rfl,by kernel_rfl,rfl,rfl,rfl,rfl,rfl,fun _=>rfl,rfl⟩
 ·exact⟨_,Tryz.t187,_,Tryz.underlying187,rfl,by kernel_rfl,rfl,rfl,rfl,rfl,rfl,fun _=>rfl,rfl⟩
 ·exact⟨_,Tryz.t196,_,Tryz.underlying196,rfl,by kernel_rfl,rfl,rfl,rfl,rfl,rfl,(fun h=>by cases h),rfl⟩
 ·exact⟨_,Tryz.t200,_,Tryz.underlying200,rfl,by kernel_rfl,rfl,rfl,rfl,rfl,rfl,fun _=>rfl,rfl⟩
 ·exact⟨_,Tryz.t209,_,Tryz.underlying209,rfl,by kernel_rfl,rfl,rfl,rfl,rfl,rfl,fun _=>rfl,rfl⟩
 ·exact⟨_,Tryz.t216,_,Tryz.underlying216,rfl,by kernel_rfl,rfl,rfl,rfl,rfl,rfl,fun _=>rfl,rfl⟩
 ·exact⟨_,Tryz.t233,_,Tryz.underlying233,rfl,by kernel_rfl,rfl,rfl,rfl,rfl,rfl,fun _=>rfl,rfl⟩
 ·exact⟨_,Tryz.t235,_,Tryz.underlying235,rfl,by kernel_rfl,rfl,rfl,rfl,rfl,rfl,fun _=>rfl,rfl⟩
def TW (t:Nat):Option TI:=look? t (tab++tabX)
theorem tokW:TOk Tryz.prog TW:=zWQ fun p hp=>(List.mem_append.1 hp).elim (zXZ p) (zXY p)
theorem mixed:Tryz.prog.follows .mixedOrders=true:=by kernel_rfl
end Go.Proofs.YtgplhldfbkmmgaaGreat
namespace Go.Proofs
set_option maxHeartbeats 1000000 in
theorem Tryz.stringslite_IndexByte (s:ByteArray) (c:Int) (w:World) :
  Calls Tryz.prog 194 #[.string s,.int .u8 c] w fun e w'=>e = .returned (.int .i64 (Lib.indexByte s.data.toList c.toNat.toUInt8))/\w'=w:=by
 go_enter Tryz.func194,Tryz.ntmps194
 go_wp2
 rw[run_callFunc_extern Tryz.func201 (by kernel_rfl) (by kernel_rfl) (by kernel_rfl) (e:=Extern.BytealgIndexByte.indexByte) (by kernel_rfl),Lib.run_indexByteString]
 simp only[Result.andThen]
 rw[Oper.upon_value]
 go_wp2
 go_ret
 exact⟨rfl,rfl⟩
theorem Tryz.stringslite_Index_one (s:ByteArray) (c:UInt8) (w:World) :
  Calls Tryz.prog 200 #[.string s,.string ⟨#[c]⟩] w fun e w'=>e = .returned (.int .i64 (Lib.indexByte s.data.toList c))/\w'=w:=by
 go_enter Tryz.func200,Tryz.ntmps200
 go_wp2_with (go_at_call 194; refine(Tryz.stringslite_IndexByte _ _ _).mono ?_; rintro e w' ⟨rfl,rfl⟩)
 ·have h:([c] == s.toList)=true:=by assumption
  go_ret
  refine⟨?_,rfl⟩
  have e:s.data.toList=[c] :=(by rw[← Lib.toList_data]; exact(beq_iff_eq.1 h).symm);rw[e]
  simp[Lib.indexByte]
 ·go_ret
  exact⟨rfl,rfl⟩
set_option maxHeartbeats 1000000 in
theorem Tryz.strings_IndexByte (s:ByteArray) (c:Int) (w:World) :
  Calls Tryz.prog 175 #[.string s,.int .u8 c] w fun e w'=>e = .returned (.int .i64 (Lib.indexByte s.data.toList c.toNat.toUInt8))/\w'=w:=by
 go_enter Tryz.func175,Tryz.ntmps175
 go_wp2_with (go_at_call 194; refine(Tryz.stringslite_IndexByte _ _ _).mono ?_; rintro e w' ⟨rfl,rfl⟩)
 go_ret
 exact⟨rfl,rfl⟩
set_option maxHeartbeats 1000000 in
theorem Tryz.strings_Index_one (s:ByteArray) (c:UInt8) (w:World) :
  Calls Tryz.prog 192 #[.string s,.string ⟨#[c]⟩] w fun e w'=>e = .returned (.int .i64 (Lib.indexByte s.data.toList c))/\w'=w:=by
 go_enter Tryz.func192,Tryz.ntmps192
 go_wp2_with (go_at_call 200; refine(Tryz.stringslite_Index_one _ _ _).mono ?_; rintro e w' ⟨rfl,rfl⟩)
 go_ret
 exact⟨rfl,rfl⟩
set_option maxHeartbeats 1000000 in
theorem Tryz.strings_Contains_one (s:ByteArray) (c:UInt8) (w:World) :
  Calls Tryz.prog 171 #[.string s,.string ⟨#[c]⟩] w fun e w'=>e = .returned (.bool (decide (0<=Lib.indexByte s.data.toList c)))/\w'=w:=by
 go_enter Tryz.func171,Tryz.ntmps171
 go_wp2_with (go_at_call 192; refine(Tryz.strings_Index_one _ _ _).mono ?_; rintro e w' ⟨rfl,rfl⟩)
 go_ret
 exact⟨rfl,rfl⟩
end Go.Proofs
namespace Go.Proofs.YtgplhldfbkmmgaaGreat
open Go.Abs
theorem zKC {f:Nat}{s:List AV->Ret->Prop} (hcall:∀ args w,(callFunc f args).run Tryz.prog w = .ok (.enter f args) w)
  (h:∀ (G:Nat->Prop) (w:World) (xs:List AV) (vs:List Value) (r:Ret),AVals G w (fun _=>.tuple #[]) xs vs->s xs r->Calls Tryz.prog f vs.toArray w fun e w'=>w'=w/\∃ v,e = .returned v/\RetAt G w w r v):PSound Tryz.prog f (zAn s) :=
 ⟨hcall,fun G w xs vs r hl _ _ hv hs=>(h G w xs vs r hv hs).mono fun e w' ⟨h1,v,h2,h3⟩=>(by subst h1; exact⟨v,G,h2,Ext.refl hl,h3⟩),fun R hR=>(by cases hR),fun R hR=>(by cases hR)⟩
def zI5 (xs:List AV) (r:Ret):Prop:=∃ (a0 a1:List UInt8) (y0:Int),zD7 a0 a1=some y0/\xs=[.s (.str a0),.s (.str a1)]/\r = .val (.s (.int .i64 y0))
def zFQ:zAp:=zAn fun xs r=>zI5 xs r
theorem zIE:PSound Tryz.prog 200 zFQ:=zKC Tryz.call200 fun G w xs vs r hv ⟨a,p,y,h,hx,hr⟩=>by
 subst hx; subst hr
 obtain⟨hp,h⟩:=zAy h;have hy:=Option.some.inj h;subst hy;obtain⟨c,rfl⟩:∃ c,p=[c]:=by
  match p,hp with
  | [c],_=>exact⟨c,rfl⟩
 simp only[AVals,AVal,Rep]at hv;obtain⟨_,_,rfl,rfl,_,_,rfl,rfl,rfl⟩:=hv;exact(Tryz.stringslite_Index_one ⟨a.toArray⟩ c w).mono fun e w' ⟨h1,h2⟩=>⟨h2,_,h1,rfl,by simp only[AVal,Rep]; rfl⟩
def zJD (xs:List AV) (r:Ret):Prop:=∃ (a0 a1:List UInt8) (y0:Bool),zEw a0 a1=some y0/\xs=[.s (.str a0),.s (.str a1)]/\r = .val (.s (.bool y0))
def zGj:zAp:=zAn fun xs r=>zJD xs r
theorem zJo:PSound Tryz.prog 171 zGj:=zKC Tryz.call171 fun G w xs vs r hv ⟨a,p,y,h,hx,hr⟩=>by
 subst hx; subst hr
 obtain⟨hp,h⟩:=zAy h;have hy:=Option.some.inj h;subst hy;obtain⟨c,rfl⟩:∃ c,p=[c]:=by
  match p,hp with
  | [c],_=>exact⟨c,rfl⟩
 simp only[AVals,AVal,Rep]at hv;obtain⟨_,_,rfl,rfl,_,_,rfl,rfl,rfl⟩:=hv;exact(Tryz.strings_Contains_one ⟨a.toArray⟩ c w).mono fun e w' ⟨h1,h2⟩=>⟨h2,_,h1,rfl,by simp only[AVal,Rep]; rfl⟩
def zI4 (xs:List AV) (r:Ret):Prop:=∃ (a0:List UInt8) (a1:Int) (y0:Int),zCX a0 a1=some y0/\xs=[.s (.str a0),.s (.int .u8 a1)]/\r = .val (.s (.int .i64 y0))
def zFP:zAp:=zAn fun xs r=>zI4 xs r
theorem zID:PSound Tryz.prog 175 zFP:=zKC Tryz.call175 fun G w xs vs r hv ⟨a,c,y,h,hx,hr⟩=>by
 subst hx; subst hr
 have hy:=Option.some.inj h;subst hy;simp only[AVals,AVal,Rep]at hv;obtain⟨_,_,rfl,rfl,_,_,rfl,rfl,rfl⟩:=hv;exact(Tryz.strings_IndexByte ⟨a.toArray⟩ c w).mono fun e w' ⟨h1,h2⟩=>⟨h2,_,h1,rfl,by simp only[AVal,Rep]⟩
def VAt (hp:Nat->Option Ob) (e:Nat) (v:AV) (ks:List Nd) (keys:List Nat):Prop :=
 (ks=[]/\v = .s (.sl 4 [])/\keys=[])∨∃ q rows keys' w,v = .orow q/\hp q=some (.arow e 4 rows)/\rows.length=ks.length/\keys=q::keys'/\LAt hp e q 0 ks keys' [] w
theorem At.full {hp:Nat->Option Ob}{e:Nat}{p:AV}{k c:Int}{t:List UInt8}{ks:List Nd}{keys:List Nat}{w:Nat} (h:At hp e p (.mk k t c ks) keys [] w):∃ v,zAG hp p=some (zA4 k t c v)/\VAt hp e v ks keys:=by
 simp only[At]at h;obtain⟨v,hc,⟨_,_,h,_⟩ | ⟨rfl,rfl,rfl,_,_⟩ | ⟨q,rows,keys',rfl,hq,hlen,rfl,h⟩⟩:=h
 ·cases h
 ·exact⟨_,hc,.inl ⟨rfl,rfl,rfl⟩⟩
 ·exact⟨_,hc,.inr ⟨q,rows,keys',w,rfl,hq,hlen,rfl,h⟩⟩
def zQc (xs:List AV) (hp:Nat->Option Ob) (n:Nat) (Φ:AV->(Nat->Option Ob)->Nat->Prop):Prop :=
 ∃ (k c:Int) (tx:List UInt8) (ks:List Nd),(Nd.mk k tx c ks).cnt<=1000000000/\xs=[.agg (zA4 k tx c (.s (.sl 4 (Nd.encs ks))))] /\
  ∀ v hp' n' keys,n<=n'->(∀ k,k<n->hp' k=hp k)->VAt hp' 24 v ks keys->keys.Nodup->(∀ k∈keys,n<=k/\k<n')->Φ (.agg (zA4 k tx c v)) hp' n'
def zLK:zAp:=zQ4 zQc
theorem zVo {T:Nat->Option TI}{σ:St}{t ty q bt:Nat}{i:TI}{cells:List AV} (h1:σ.env t = .op q 0) (h2:σ.hp q=some (.box bt cells)) (h3:T ty=some i) (ha:i.k.agg=true) (hz:i.size=cells.length):zKF T σ [.cell t ty]=some (AV.deep (.agg cells)):=by
 have hb:Nat.ble i.size cells.length=true :=(by rw[hz]; exact Nat.ble_eq_true_of_le (Nat.le_refl _));simp only[zKF,zIf,zRL,h1,h2,h3,ha,hb]
 rw[hz,List.take_length]
theorem zVF {σ:St}{q:Nat}{ob:Ob}:(zFh σ q ob).hp q=some ob:=by simp only[zFh,Nat.beq_refl,cond_true]
theorem upd_ne {σ:St}{q k:Nat}{ob:Ob} (h:k ≠ q):(zFh σ q ob).hp k=σ.hp k:=by simp only[zFh,zEb h,cond_false]
theorem VAt.frame {hp hp':Nat->Option Ob}{e:Nat}{v:AV}{ks:List Nd}{keys:List Nat} (h:VAt hp e v ks keys) (hs:∀ k∈keys,hp' k=hp k):VAt hp' e v ks keys:=by
 rcases h with h | ⟨q,rows,keys',w,h1,h2,h3,rfl,h4⟩
 ·exact .inl h
 ·exact .inr ⟨q,rows,keys',w,h1,(hs q List.mem_cons_self).trans h2,h3,rfl,h4.sameQ (Sim.same (p0:=.junk) fun k hk=>hs k (List.mem_cons.2 hk)) (fun j _ e=>by cases e) (fun q j _ e=>by cases e)⟩
theorem zDe {T:Nat->Option TI}{own:Bool}{o:Oper}{σ:St}{p:AV}{y:Operand} (hl:isL 4 p) (ho:o.op = .assign y∨o.op = .move y) (hy:opd T σ.env o.type y=p) (hn:(own&&zCh y)=false):step1 T own o σ=some (none,p,σ):=by
 have e0:p.nrm=p:=by rcases hl with ⟨_,_,rfl⟩ | ⟨_,rfl⟩ <;> rfl
 have e1:zCI T own o σ.env=some (none,p):=by
  rcases ho with ho | ho <;> simp only[zCI,ho,hn,hy,e0]
 simp only[step1,e1]
theorem zIj {c:Cx}{x:Code}{σ:St}{Q:Abs.End->St->Prop} (l:List (Nat×AV)) (n':Nat) (h:holds σ.env l) (hn:σ.nx=n') (hk:∀ H,(∀ k,H k=σ.hp k)->Tri c x ⟨ofL l,H,n'⟩ Q):Tri c x σ Q:=by
 subst hn;exact zAi (Le.forget l h) (hk σ.hp fun _=>rfl)
theorem At.pend {hp:Nat->Option Ob}{e w:Nat}{p:AV}{k c:Int}{tx:List UInt8}{ks:List Nd} (h:At hp e p (.mk k tx c ks) [] [p] w):zAG hp p=some (zA4 k tx c (.s (.sl 4 (Nd.encs ks)))):=by
 simp only[At]at h;obtain⟨v,hc,⟨rfl,_⟩ | ⟨_,_,_,h,_⟩ | ⟨q,rows,keys',_,_,_,h,_⟩⟩:=h
 ·exact hc
 ·cases h
 ·cases h
theorem zIp {hp hp':Nat->Option Ob}{sz k:Nat}{p:AV}{c:List AV} (hl:isL sz p) (h1:hp' k=hp k) (h2:hp' (zBh p)=hp (zBh p)):putC hp' p c k=putC hp p c k:=by
 rcases hl with ⟨q,i,rfl⟩ | ⟨q,rfl⟩ <;> (simp only[zBh]at h2; simp only[putC,h1,h2])
theorem zUj {hp hp':Nat->Option Ob}{sz k:Nat}{p:AV}{c c' cs:List AV} (hl:isL sz p) (hc:zAG hp p=some cs) (h:hp' (zBh p)=putC hp p c' (zBh p)) (hk:k ≠ zBh p->hp' k=hp k):putC hp' p c k=putC hp p c k:=by
 by_cases hb:k=zBh p
 ·subst hb;rcases zCO hl hc with ⟨q,i,e,rows,rfl,hq,hi⟩ | ⟨q,bt,rfl,hq⟩
  ·simp only[zBh]at h ⊢;rw[zJp hq]at h ⊢;simp only[Nat.beq_refl,cond_true]at h ⊢;rw[zJp h]
   simp only[Nat.beq_refl,cond_true,List.set_set]
  ·simp only[zBh]at h ⊢;rw[zF6 hq]at h ⊢;simp only[Nat.beq_refl,cond_true]at h ⊢;rw[zF6 h]
   simp only[Nat.beq_refl,cond_true]
 ·rw[zBN hb,zBN hb,hk hb]
theorem zUY {q j:Nat}:locs q 0 (j+1)=locs q 0 j++[.rp q 4 j 0]:=by
 simp[locs,List.range'_concat]
theorem zVZ {α:Type}{S:List α}{p:α}:((S++[p]).map fun p=>[p]).getD S.length []=[p]:=by
 simp[List.getD_eq_getElem?_getD]
structure DInv (hp:Nat->Option Ob) (n e pe:Nat) (t:Nd) (H:Nat->Option Ob) (ls nx:Nat) (S:List AV) (keys:List Nat) (w:Nat):Prop where
 low:∀ k,k<n->H k=hp k
 res:∃ a b c d,H (n+1)=some (.box e [a,b,c,d])
 stk:H ls=some (.arow pe 1 (S.map fun p=>[p]))
 tree:At H e (.op n 0) t keys S w
 nd:(n::keys).Nodup
 kb:∀ k∈keys,n+1<k/\k<nx/\k ≠ ls
 l1:n+1<ls
 l2:ls<nx
set_option maxHeartbeats 4000000 in
theorem zHd:PSound Tryz.prog 53 zLK:=by
 have gok:=@gok0 Tryz.prog;refine zOo tokW Tryz.call53 Tryz.func53 rfl (fun xs hp n Φ h=>by obtain⟨_,_,_,_,_,rfl,_⟩:=h; show 1<=_; decide) _ rfl ?_;rintro xs hp n Φ w0 G0 B0 ⟨k0,c,tx,ks,hcnt,rfl,hΦ⟩ _ hhp;refine zXw [1,2] [] rfl ?_;refine zXw [7] [] rfl ?_;show Tri ..
 refine zAi (Le.forgetH [(1,.op n 0),(2,.op (n+1) 0),(3,.orow (n+2))] (fun k=>bif Nat.beq k (n+2) then some (.arow 150 1 [[.op n 0]]) else bif Nat.beq k (n+1) then some (.box 24 [.s (.int .i64 0),.s (.str []),.s (.int .i64 0),.nl 4]) else bif Nat.beq k n then some (.box 24 (zA4 k0 tx c (.s (.sl 4 (Nd.encs ks))))) else hp k) (n+3) ⟨rfl,rfl,rfl,trivial⟩ (fun k=>rfl) rfl) ?_
 have hI:DInv hp n 24 150 (.mk k0 tx c ks) (fun k=>bif Nat.beq k (n+2) then some (.arow 150 1 [[.op n 0]]) else bif Nat.beq k (n+1) then some (.box 24 [.s (.int .i64 0),.s (.str []),.s (.int .i64 0),.nl 4]) else bif Nat.beq k n then some (.box 24 (zA4 k0 tx c (.s (.sl 4 (Nd.encs ks))))) else hp k) (n+2) (n+3) [.op n 0] [] (Nd.mk k0 tx c ks).cnt:={
  low:=fun k hk=>by
   have h1:k ≠ n+2 :=(by omega);have h2:k ≠ n+1 :=(by omega);have h3:k ≠ n :=(by omega);simp only[zEb h1,zEb h2,zEb h3,cond_false]
  res:=⟨.s (.int .i64 0),.s (.str []),.s (.int .i64 0),.nl 4,by
   have h1:n+1 ≠ n+2 :=(by omega);simp only[zEb h1,Nat.beq_refl,cond_false,cond_true]⟩
  stk:=by simp only[Nat.beq_refl,cond_true]; rfl
  tree:=by
   have h1:n ≠ n+2 :=(by omega);have h2:n ≠ n+1 :=(by omega);simp only[At]
   exact⟨.s (.sl 4 (Nd.encs ks)),zEd (bt:=24) (by simp only[zEb h1,zEb h2,Nat.beq_refl,cond_false,cond_true]),.inl (by simp[Nd.cnt])⟩
  nd:=by simp
  kb:=fun k hk=>by cases hk
  l1:=by omega
  l2:=by omega }
 generalize hH:(fun k=>bif Nat.beq k (n+2) then some (Ob.arow 150 1 [[AV.op n 0]]) else bif Nat.beq k (n+1) then some (Ob.box 24 [AV.s (.int .i64 0),AV.s (.str []),AV.s (.int .i64 0),AV.nl 4]) else bif Nat.beq k n then some (Ob.box 24 (zA4 k0 tx c (.s (.sl 4 (Nd.encs ks))))) else hp k)=H0 at hI ⊢
 clear hH
 refine zAa ?_;refine zAj (zAt (X:=(Nat->Option Ob)×Nat×Nat×List AV×List Nat×Nat) (fun y=>match y with | (H,ls,nx,S,keys,w)=>⟨ofL [(1,.op n 0),(2,.op (n+1) 0),(3,.orow ls)],H,nx⟩)
  (fun y=>match y with | (H,ls,nx,S,keys,w)=>DInv hp n 24 150 (.mk k0 tx c ks) H ls nx S keys w) (fun y=>match y with | (H,ls,nx,S,keys,w)=>w) (H0,n+2,n+3,[.op n 0],[],(Nd.mk k0 tx c ks).cnt) hI (Le.refl _ _) ?_)
 rintro⟨H,ls,nx,S,keys,w⟩ hI;have hI:DInv hp n 24 150 (.mk k0 tx c ks) H ls nx S keys w:=hI;refine zAa ?_;refine zYc ?_;refine zAf rfl rfl rfl rfl rfl rfl trivial ?_;refine zAf rfl rfl rfl rfl rfl (zNa rfl rfl rfl rfl rfl hI.stk) trivial ?_;refine zAf rfl rfl rfl rfl rfl rfl trivial ?_;refine zAI rfl (fun hb=>?_) (fun hb=>?_)
 rotate_left
 ·refine zAx ?_;refine zAi (Le.forget [(1,.op n 0),(2,.op (n+1) 0),(3,.orow ls)] ⟨rfl,rfl,rfl,trivial⟩) ?_;have hS:S=[]:=by
   cases S with
   | nil=>rfl
   | cons x S =>
    have:=of_decide_eq_false hb;simp only[List.length_map,List.length_cons]at this
    omega
  subst hS;obtain⟨v,hc,hv⟩:=hI.tree.full;rcases zCO (sz:=4) (.inr ⟨n,rfl⟩) hc with ⟨q,i,e,rows,h1,_⟩ | ⟨q,bt,h1,hq⟩
  ·cases h1
  cases h1;obtain⟨ra,rb,rc,rd,hr1⟩:=hI.res;refine zYc ?_;refine zAf rfl rfl rfl rfl rfl (zVw rfl rfl rfl rfl hq rfl) trivial ?_;have hvl:v.one=true/\v.lt nx=true:=by
   rcases hv with ⟨_,rfl,_⟩ | ⟨q,_,_,_,rfl,_,_,hk,_⟩
   ·exact⟨rfl,rfl⟩
   ·exact⟨rfl,decide_eq_true (hI.kb q (by rw[hk]; exact List.mem_cons_self)).2.1⟩
  refine zFW rfl rfl rfl (zNb rfl rfl rfl hr1 rfl rfl (by show([AV.s _,AV.s _,AV.s _,v]:List AV).all AV.one=true; simp only[List.all_cons,List.all_nil,hvl.1]; rfl) (by show AV.ltAll nx [AV.s _,AV.s _,AV.s _,v]=true; simp only[AV.ltAll,hvl.2]; rfl)) trivial ?_;refine zAd ?_;have hln:n<nx:=Nat.lt_trans (Nat.lt_trans (Nat.lt_succ_self n) hI.l1) hI.l2;have hdeep:AV.deep (.agg (zA4 k0 tx c v)) = .agg (zA4 k0 tx c v):=by
   rcases hv with ⟨_,rfl,_⟩ | ⟨q,_,_,_,rfl,_⟩ <;> rfl
  unfold zIF;refine⟨_,Le.refl _ _,.agg (zA4 k0 tx c v),?_,hΦ v _ _ keys (Nat.le_of_lt hln) (fun k hk=>?_) ?_ (List.nodup_cons.1 hI.nd).2 fun k hk=>⟨Nat.le_of_lt (Nat.lt_trans (Nat.lt_succ_self n) (hI.kb k hk).1),(hI.kb k hk).2.1⟩⟩
  ·exact(zVo (cells:=zA4 k0 tx c v) rfl zVF rfl rfl rfl).trans (congrArg some hdeep)
  ·exact(upd_ne (by omega)).trans (hI.low k hk)
  ·exact hv.frame fun k hk=>upd_ne (by have:=(hI.kb k hk).1; omega)
 refine zAe ?_;show Tri ..;obtain⟨S',p,rfl⟩:∃ S' p,S=S'++[p]:=by
  rcases List.eq_nil_or_concat S with rfl | ⟨S',p,rfl⟩
  ·cases hb
  ·exact⟨S',p,List.concat_eq_append⟩
 have hl0:isL 4 p:=hI.tree.loc (.inr ⟨n,rfl⟩) (by simp)
 obtain⟨⟨k1,tx1,c1,ks1⟩,w1,hp0,hw,hrep⟩:=hI.tree.repl (.inr ⟨n,rfl⟩) hI.nd;have hcell:=hp0.pend;have hwl:=hI.tree.len;have hSl:S'.length<1000000000:=by
  have:=hwl.1;have:=hwl.2;simp only[List.length_append,List.length_singleton]at *
  omega
 have hz:IntKind.i64.wrap (((((S'++[p]).map fun p=>[p]).length:Nat):Int) - 1)=(S'.length:Int):=by
  rw[wrap64_in (by simp only[List.length_map,List.length_append,List.length_singleton]; omega) (by simp only[List.length_map,List.length_append,List.length_singleton]; omega)]
  simp only[List.length_map,List.length_append,List.length_singleton]; omega
 have hlt1:S'.length<((S'++[p]).map fun p=>[p]).length :=(by simp);refine zAi (Le.forget [(1,.op n 0),(2,.op (n+1) 0),(3,.orow ls)] ⟨rfl,rfl,rfl,trivial⟩) ?_;refine zAj ?_;refine zYc ?_;refine zAf rfl rfl rfl rfl rfl rfl trivial ?_;refine zAf rfl rfl rfl rfl rfl rfl trivial ?_;refine zAf rfl rfl rfl rfl rfl (zNa rfl rfl rfl rfl rfl hI.stk) trivial ?_;refine zAf rfl rfl rfl rfl rfl rfl trivial ?_;rw[hz]
 refine zAf rfl rfl rfl rfl rfl (zPY rfl rfl rfl rfl rfl rfl hI.stk rfl) ⟨Int.natCast_nonneg _,Int.ofNat_lt.2 hlt1⟩ ?_;refine zQW (c:=p) rfl rfl rfl rfl rfl rfl hI.stk hlt1 (by rw[Int.toNat_natCast,zVZ]; rfl) ?_;refine zAf rfl rfl rfl rfl rfl (zDe hl0 (.inl rfl) rfl rfl) trivial ?_;refine zAi (Le.forget [(1,.op n 0),(2,.op (n+1) 0),(3,.orow ls),(4,p)] ⟨rfl,rfl,rfl,rfl,trivial⟩) ?_;refine zXw [21] [] rfl ?_;refine zAf rfl rfl rfl rfl rfl rfl trivial ?_;refine zAf rfl rfl rfl rfl rfl rfl trivial ?_;refine zAf rfl rfl rfl rfl rfl (zNa rfl rfl rfl rfl rfl hI.stk) trivial ?_
 refine zAf rfl rfl rfl rfl rfl rfl trivial ?_;rw[hz]
 refine zAf rfl rfl rfl rfl rfl (zVx rfl rfl rfl rfl rfl rfl hI.stk rfl) ⟨Int.natCast_nonneg _,Int.ofNat_le.2 (Nat.le_of_lt hlt1)⟩ ?_;refine zAf rfl rfl rfl rfl rfl rfl trivial ?_;show Tri ..;refine zIj [(1,.op n 0),(2,.op (n+1) 0),(3,.orow nx),(4,p)] (nx+1) ⟨rfl,rfl,rfl,rfl,trivial⟩ rfl fun H1 hH1=>?_
 have g1:H1 nx=some (.arow 150 1 (S'.map fun p=>[p])):=(hH1 nx).trans (by
  show(bif Nat.beq nx nx then some (Ob.arow 150 1 (((S'++[p]).map fun p=>[p]).take ((S'.length:Int)).toNat)) else _)=_;rw[Nat.beq_refl,cond_true,Int.toNat_natCast]
  simp)
 have g2:∀ k,k ≠ nx->k ≠ ls->H1 k=H k:=fun k h1 h2=>(hH1 k).trans (by
  show(bif Nat.beq k nx then _ else bif Nat.beq k ls then none else H k)=_;rw[zEb h1,zEb h2]; rfl)
 clear hH1
 have hbase:zBh p=n∨zBh p∈keys:=by
  rcases hI.tree.base (p0:=p) (by simp) with h | h
  ·exact .inl (by rw[h]; rfl)
  ·exact .inr h
 have hln:n<nx:=Nat.lt_trans (Nat.lt_trans (Nat.lt_succ_self n) hI.l1) hI.l2;have hbl:zBh p ≠ nx/\zBh p ≠ ls/\zBh p ≠ n+1/\zBh p<nx:=by
  have h1:=hI.l1;have h2:=hI.l2;rcases hbase with h | h
  ·rw[h]; omega
  ·have:=hI.kb _ h; omega
 have fin:∀ (cs:List AV) (Hj:Nat->Option Ob) (lsj nxj:Nat) (new:List Nat) (ch:List AV) (w':Nat),(∀ k,k ≠ ls->k<nx->Hj k=putC H p cs k)->Hj lsj=some (.arow 150 1 ((S'++ch).map fun p=>[p]))->At Hj 24 p (.mk k1 tx1 c1 ks1) new ch w' ->
   new.Nodup->(∀ k∈new,nx<=k/\k<nxj/\k ≠ lsj)->nx<=lsj->lsj<nxj->w'<(Nd.mk k1 tx1 c1 ks1).cnt->∃ keys2,DInv hp n 24 150 (.mk k0 tx c ks) Hj lsj nxj (S'++ch) keys2 (w1+w')/\w1+w'<w:=by
  intro cs Hj lsj nxj new ch w' f1 f2 f3 f4 f5 f6 f7 f8;have l1:=hI.l1;have l2:=hI.l2;have hD:∀ k,k=n∨k∈keys->k ≠ ls/\k<nx:=fun k hk=>by
   rcases hk with rfl | hk
   ·omega
   ·have:=hI.kb k hk; omega
  obtain⟨keys2,hperm,hat⟩:=hrep Hj new ch w' (Sim.put hl0 hcell fun k hk=>f1 k (hD k hk).1 (hD k hk).2) f3;have hmem:∀ k,k∈keys2->k∈keys∨k∈new:=fun k hk=>List.mem_append.1 (hperm.mem_iff.1 hk)
  have hkn:=List.nodup_cons.1 hI.nd;refine⟨keys2,{
   low:=fun k hk=>(f1 k (by omega) (by omega)).trans ((zBN (by
    rcases hbase with h | h
    ·omega
    ·have:=hI.kb _ h; omega)).trans (hI.low k hk))
   res:=by
    obtain⟨a,b,c,d,hr⟩:=hI.res;exact⟨a,b,c,d,(f1 (n+1) (by omega) (by omega)).trans ((zBN (Ne.symm hbl.2.2.1)).trans hr)⟩
   stk:=f2
   tree:=hat
   nd:=List.nodup_cons.2 ⟨fun hm=>by
    rcases hmem n hm with h | h
    ·exact hkn.1 h
    ·have:=f5 n h; omega,hperm.nodup_iff.2 (List.nodup_append.2 ⟨hkn.2,f4,fun a ha b hb e=>by
     have:=hI.kb a ha;have:=f5 b hb
     omega⟩)⟩
   kb:=fun k hk=>by
    rcases hmem k hk with h | h
    ·have:=hI.kb k h; omega
    ·have:=f5 k h; omega
   l1:=by omega
   l2:=f7 },by omega⟩
 have hc1:zAG H1 p=some (zA4 k1 tx1 c1 (.s (.sl 4 (Nd.encs ks1)))):=(zCf hl0 (g2 _ hbl.1 hbl.2.1)).trans hcell;refine zYc ?_;refine zAf rfl rfl rfl rfl rfl (zDe hl0 (.inr rfl) rfl rfl) trivial ?_;refine zAf rfl rfl rfl rfl rfl (zEQ hl0 rfl rfl) trivial ?_;refine zAf rfl rfl rfl rfl rfl (zFg hl0 rfl rfl rfl rfl rfl rfl rfl) trivial ?_;refine zDX (off:=3) (sz:=4) rfl rfl rfl rfl rfl rfl rfl hl0 rfl hc1 rfl ?_;refine zAf rfl rfl rfl rfl rfl rfl trivial ?_;show Tri ..
 refine zAi (Le.forget [(1,.op n 0),(2,.op (n+1) 0),(3,.orow nx),(4,p),(5,.s (.sl 4 (Nd.encs ks1)))] ⟨rfl,rfl,rfl,rfl,rfl,trivial⟩) ?_;refine zYc ?_;refine zAf rfl rfl rfl rfl rfl (zDe hl0 (.inr rfl) rfl rfl) trivial ?_;refine zAf rfl rfl rfl rfl rfl (zEQ hl0 rfl rfl) trivial ?_;refine zAf rfl rfl rfl rfl rfl (zFg hl0 rfl rfl rfl rfl rfl rfl rfl) trivial ?_;refine zQX (off:=3) (sz:=4) (c:=.s (.sl 4 [])) rfl rfl rfl rfl rfl hl0 rfl hc1 rfl (by decide) rfl rfl rfl ?_;show Tri ..
 refine zIj [(1,.op n 0),(2,.op (n+1) 0),(3,.orow nx),(4,p),(5,.s (.sl 4 (Nd.encs ks1)))] (nx+1) ⟨rfl,rfl,rfl,rfl,rfl,trivial⟩ rfl fun H2 hH2=>?_
 have hH2:∀ k,H2 k=putC H1 p (zA4 k1 tx1 c1 (.s (.sl 4 []))) k:=hH2
 have hc2:zAG H2 p=some (zA4 k1 tx1 c1 (.s (.sl 4 []))):=(zCf hl0 (hH2 _)).trans (zJa hl0 hc1)
 refine zAa ?_;refine zYc ?_;refine zAf rfl rfl rfl rfl rfl rfl trivial ?_;refine zAf rfl rfl rfl rfl rfl rfl trivial ?_;refine zAf rfl rfl rfl rfl rfl rfl trivial ?_;refine zAI rfl (fun hb=>?_) (fun hb=>?_)
 rotate_left
 ·obtain rfl:ks1=[]:=by
   cases ks1 with
   | nil=>rfl
   | cons x l =>
    have:=of_decide_eq_false hb;simp only[Nd.encs,List.length_cons]at this
    omega
  refine zAe ?_;refine zAi (Le.forget [(1,.op n 0),(2,.op (n+1) 0),(3,.orow nx),(4,p),(5,.s (.sl 4 []))] ⟨rfl,rfl,rfl,rfl,rfl,trivial⟩) ?_;refine zYc ?_;refine zAf rfl rfl rfl rfl rfl (zDe hl0 (.inr rfl) rfl rfl) trivial ?_;refine zAf rfl rfl rfl rfl rfl (zEQ hl0 rfl rfl) trivial ?_;refine zAf rfl rfl rfl rfl rfl (zFg hl0 rfl rfl rfl rfl rfl rfl rfl) trivial ?_;refine zDX (off:=3) (sz:=4) rfl rfl rfl rfl rfl rfl rfl hl0 rfl hc2 rfl ?_;refine zAf rfl rfl rfl rfl rfl rfl trivial ?_;refine zAf rfl rfl rfl rfl rfl rfl trivial ?_;show Tri ..
  refine zAi (Le.forget [(1,.op n 0),(2,.op (n+1) 0),(3,.orow nx),(4,p),(5,.s (.sl 4 []))] ⟨rfl,rfl,rfl,rfl,rfl,trivial⟩) ?_;refine zYc ?_;refine zAf rfl rfl rfl rfl rfl (zDe hl0 (.inr rfl) rfl rfl) trivial ?_;refine zAf rfl rfl rfl rfl rfl (zEQ hl0 rfl rfl) trivial ?_;refine zAf rfl rfl rfl rfl rfl (zFg hl0 rfl rfl rfl rfl rfl rfl rfl) trivial ?_;refine zDX (off:=3) (sz:=4) rfl rfl rfl rfl rfl rfl rfl hl0 rfl hc2 rfl ?_;refine zAf rfl rfl rfl rfl rfl rfl trivial ?_;refine zAf rfl rfl rfl rfl rfl rfl trivial ?_;show Tri ..
  refine zAj (zAt (X:=Unit) (fun _=>⟨ofL [(1,.op n 0),(2,.op (n+1) 0),(3,.orow nx),(48,.s (.int .i64 0)),(49,.s (.int .i64 0))],H2,nx+1⟩) (fun _=>True) (fun _=>0) () trivial (Le.forget [(1,.op n 0),(2,.op (n+1) 0),(3,.orow nx),(48,.s (.int .i64 0)),(49,.s (.int .i64 0))] ⟨rfl,rfl,rfl,rfl,rfl,trivial⟩) ?_)
  rintro⟨⟩ _;refine zYc ?_;refine zAf rfl rfl rfl rfl rfl rfl trivial ?_;refine zAa ?_;refine zAI rfl (fun hb=>by cases hb) (fun hb=>?_)
  refine zAx ?_;obtain⟨keys2,hz1,hz2⟩:=fin (zA4 k1 tx1 c1 (.s (.sl 4 []))) H2 nx (nx+1) [] [] 0
   (fun k h1 h2=>(hH2 k).trans (zIp hl0 (g2 k (by omega) h1) (g2 _ hbl.1 hbl.2.1)))
   (by rw[List.append_nil]; exact(hH2 nx).trans ((zBN (Ne.symm hbl.1)).trans g1))
   (by simp only[At]; exact⟨.s (.sl 4 []),hc2,.inr (.inl (by simp))⟩) (by simp) (fun k hk=>by cases hk) (Nat.le_refl _) (Nat.lt_succ_self _) (by simp[Nd.cnt])
  exact⟨(H2,nx,nx+1,S'++[],keys2,w1+0),hz1,Le.forget [(1,.op n 0),(2,.op (n+1) 0),(3,.orow nx)] ⟨rfl,rfl,rfl,trivial⟩,hz2⟩
 ·have hm:0<ks1.length:=by
   have:=of_decide_eq_true hb;rw[Nd.encs_eq,List.length_map]at this
   omega
  have hkl:ks1.length<1000000000:=by
   have h1:=Nd.cnts_len ks1;have h2:=hwl.2;simp only[Nd.cnt]at hw hcnt h2
   omega
  have hel:(Nd.encs ks1).length=ks1.length :=(by rw[Nd.encs_eq,List.length_map]);refine zAi (Le.forget [(1,.op n 0),(2,.op (n+1) 0),(3,.orow nx),(4,p),(5,.s (.sl 4 (Nd.encs ks1)))] ⟨rfl,rfl,rfl,rfl,rfl,trivial⟩) ?_;refine zAb [35] [] rfl ?_;refine zAf rfl rfl rfl rfl rfl (zDe hl0 (.inr rfl) rfl rfl) trivial ?_;refine zAf rfl rfl rfl rfl rfl rfl trivial ?_;refine zAf rfl rfl rfl rfl rfl rfl trivial ?_
  refine zAf rfl rfl rfl rfl rfl (zYa rfl rfl rfl rfl rfl rfl rfl rfl rfl) (show 0<=_/\_ from⟨Int.natCast_nonneg _,Int.le_refl _,show(((Nd.encs ks1).length:Nat):Int) * ((56:Nat):Int)<=281474976710656 by omega,show(((Nd.encs ks1).length:Nat):Int)<=281474976710656 by omega⟩) ?_;refine zAf rfl rfl rfl rfl rfl (zEQ hl0 rfl rfl) trivial ?_;refine zAf rfl rfl rfl rfl rfl (zFg hl0 rfl rfl rfl rfl rfl rfl rfl) trivial ?_;have hbn:zBh p ≠ nx+1:=by have:=hbl.2.2.2; omega
  refine zQX (off:=3) (sz:=4) (c:=.orow (nx+1)) rfl rfl rfl rfl rfl hl0 rfl ((zCf hl0 (by show(bif Nat.beq (zBh p) (nx+1) then _ else H2 (zBh p))=_; rw[zEb hbn]; rfl)).trans hc2) rfl (by decide) rfl rfl (decide_eq_true (Nat.lt_succ_self _)) ?_;show Tri ..;refine zIj [(1,.op n 0),(2,.op (n+1) 0),(3,.orow nx),(4,p),(5,.s (.sl 4 (Nd.encs ks1)))] (nx+2) ⟨rfl,rfl,rfl,rfl,rfl,trivial⟩ rfl fun H3 hH3=>?_
  have hH3:∀ k,H3 k=putC (fun k=>bif Nat.beq k (nx+1) then some (.row 24 4 (List.replicate (((Nd.encs ks1).length:Int)).toNat [.int .i64 0,.str [],.int .i64 0,.sl 4 []])) else H2 k) p (zA4 k1 tx1 c1 (.orow (nx+1))) k:=hH3
  have a1:H3 (nx+1)=some (.row 24 4 (List.replicate (((Nd.encs ks1).length:Int)).toNat [.int .i64 0,.str [],.int .i64 0,.sl 4 []])):=(hH3 _).trans ((zBN (Ne.symm hbn)).trans (by simp only[Nat.beq_refl,cond_true]))
  have a2:∀ k,k ≠ nx+1->H3 k=putC H2 p (zA4 k1 tx1 c1 (.orow (nx+1))) k:=fun k hk=>(hH3 k).trans (zIp hl0 (by simp only[zEb hk,cond_false]) (by simp only[zEb hbn,cond_false]))
  have hc3:zAG H3 p=some (zA4 k1 tx1 c1 (.orow (nx+1))):=(zCf hl0 (a2 _ hbn)).trans (zJa hl0 hc2)
  refine zAi (Le.toA (nx+1) a1) ?_;refine zYc ?_;refine zAf rfl rfl rfl rfl rfl (zDe hl0 (.inr rfl) rfl rfl) trivial ?_;refine zAf rfl rfl rfl rfl rfl (zEQ hl0 rfl rfl) trivial ?_;refine zAf rfl rfl rfl rfl rfl (zFg hl0 rfl rfl rfl rfl rfl rfl rfl) trivial ?_;refine zDX (off:=3) (sz:=4) rfl rfl rfl rfl rfl rfl rfl hl0 rfl ((zCf hl0 (upd_ne hbn)).trans hc3) rfl ?_;refine zAf rfl rfl rfl rfl rfl rfl trivial ?_;refine zAf rfl rfl rfl rfl rfl (zWw rfl rfl rfl rfl rfl rfl rfl rfl rfl zVF rfl rfl) (show(List.map _ _).length=List.length _ by simp) ?_;show Tri ..
  refine zIj [(1,.op n 0),(2,.op (n+1) 0),(3,.orow nx),(4,p),(5,.s (.sl 4 (Nd.encs ks1)))] (nx+2) ⟨rfl,rfl,rfl,rfl,rfl,trivial⟩ rfl fun H4 hH4=>?_
  have r1:H4 (nx+1)=some (.arow 24 4 ((Nd.encs ks1).map (·.map AV.s))):=(hH4 _).trans zVF;have r2:∀ k,k ≠ nx+1->H4 k=H3 k:=fun k hk=>(hH4 k).trans ((upd_ne hk).trans (upd_ne hk))
  clear hH4
  have hc4:zAG H4 p=some (zA4 k1 tx1 c1 (.orow (nx+1))):=(zCf hl0 (r2 _ hbn)).trans hc3;refine zYc ?_;refine zAf rfl rfl rfl rfl rfl (zDe hl0 (.inr rfl) rfl rfl) trivial ?_;refine zAf rfl rfl rfl rfl rfl (zEQ hl0 rfl rfl) trivial ?_;refine zAf rfl rfl rfl rfl rfl (zFg hl0 rfl rfl rfl rfl rfl rfl rfl) trivial ?_;refine zDX (off:=3) (sz:=4) rfl rfl rfl rfl rfl rfl rfl hl0 rfl hc4 rfl ?_;refine zAf rfl rfl rfl rfl rfl (zNa rfl rfl rfl rfl rfl r1) trivial ?_;refine zAf rfl rfl rfl rfl rfl rfl trivial ?_;show Tri ..
  have hlen4:((Nd.encs ks1).map (·.map AV.s)).length=ks1.length :=(by rw[List.length_map,hel]);refine zAj (zAt (X:=(Nat->Option Ob)×Nat×Nat×Nat) (fun y=>match y with | (Hj,lsj,nxj,j)=>⟨ofL [(1,.op n 0),(2,.op (n+1) 0),(3,.orow lsj),(4,p),(48,.s (.int .i64 (ks1.length:Int))),(49,.s (.int .i64 (j:Int)))],Hj,nxj⟩)
   (fun y=>match y with | (Hj,lsj,nxj,j)=>j<=ks1.length/\(∀ k,k ≠ nx->k<nx+2->Hj k=H4 k)/\Hj lsj=some (.arow 150 1 ((S'++locs (nx+1) 0 j).map fun p=>[p]))/\(lsj=nx∨nx+2<=lsj)/\lsj<nxj/\nx+2<=nxj) (fun y=>match y with | (Hj,lsj,nxj,j)=>ks1.length - j) (H4,nx,nx+2,0)
   ⟨Nat.zero_le _,fun k _ _=>rfl,by
    refine(r2 nx (by omega)).trans ((a2 nx (by omega)).trans ((zBN (Ne.symm hbl.1)).trans ((hH2 nx).trans ((zBN (Ne.symm hbl.1)).trans (g1.trans ?_)))))
    simp[locs],.inl rfl,by omega,Nat.le_refl _⟩
   (Le.forget [(1,.op n 0),(2,.op (n+1) 0),(3,.orow nx),(4,p),(48,.s (.int .i64 (ks1.length:Int))),(49,.s (.int .i64 ((0:Nat):Int)))] ⟨rfl,rfl,rfl,rfl,congrArg (fun m:Nat=>AV.s (.int .i64 (m:Int))) hlen4,rfl,trivial⟩) ?_)
  rintro⟨Hj,lsj,nxj,j⟩ ⟨i1,i2,i3,i4,i5,i6⟩
  have hbj:zBh p ≠ nx/\zBh p<nx+2:=⟨hbl.1,by have:=hbl.2.2.2; omega⟩
  have hcj:zAG Hj p=some (zA4 k1 tx1 c1 (.orow (nx+1))):=(zCf hl0 (i2 _ hbj.1 hbj.2)).trans hc4;have hrj:Hj (nx+1)=some (.arow 24 4 ((Nd.encs ks1).map (·.map AV.s))):=(i2 (nx+1) (by omega) (by omega)).trans r1;refine zYc ?_;refine zAf rfl rfl rfl rfl rfl rfl trivial ?_;refine zAa ?_;refine zAI rfl (fun hb=>?_) (fun hb=>?_)
  ·refine zAe ?_;show Tri ..;have hj:j<ks1.length:=Int.ofNat_lt.1 (of_decide_eq_true hb)
   have hsl:((S'++locs (nx+1) 0 j).map fun p=>[p]).length=S'.length+j :=(by simp[locs]);refine zAi (Le.forget [(1,.op n 0),(2,.op (n+1) 0),(3,.orow lsj),(4,p),(48,.s (.int .i64 (ks1.length:Int))),(49,.s (.int .i64 (j:Int)))] ⟨rfl,rfl,rfl,rfl,rfl,rfl,trivial⟩) ?_;refine zAa ?_;refine zAj ?_;refine zYc ?_;refine zAf rfl rfl rfl rfl rfl rfl trivial ?_;refine zAf rfl rfl rfl rfl rfl rfl trivial ?_;refine zAb [59,60] [] rfl ?_;refine zAf rfl rfl rfl rfl rfl rfl trivial ?_;refine zAf rfl rfl rfl rfl rfl (zDe hl0 (.inr rfl) rfl rfl) trivial ?_
   refine zAf rfl rfl rfl rfl rfl (zEQ hl0 rfl rfl) trivial ?_;refine zAf rfl rfl rfl rfl rfl (zFg hl0 rfl rfl rfl rfl rfl rfl rfl) trivial ?_;refine zDX (off:=3) (sz:=4) rfl rfl rfl rfl rfl rfl rfl hl0 rfl hcj rfl ?_;refine zAf rfl rfl rfl rfl rfl rfl trivial ?_;refine zAf rfl rfl rfl rfl rfl (zPY rfl rfl rfl rfl rfl rfl hrj rfl) ⟨Int.natCast_nonneg _,Int.ofNat_lt.2 (by rw[hlen4]; exact hj)⟩ ?_;rw[Int.toNat_natCast]
   refine zAf rfl rfl rfl rfl rfl rfl trivial ?_;refine zAf rfl rfl rfl rfl rfl (zXs (rows:=(S'++locs (nx+1) 0 j).map fun p=>[p]) (rows2:=[[.rp (nx+1) 4 j 0]]) rfl rfl rfl rfl rfl rfl rfl rfl rfl (by show(bif Nat.beq lsj nxj then _ else Hj lsj)=_; rw[zEb (by omega)]; exact i3) (by show(bif Nat.beq nxj nxj then _ else Hj nxj)=_; rw[Nat.beq_refl]; rfl) rfl rfl rfl) (show(((S'++locs (nx+1) 0 j).map fun p=>[p]).length+1) * 8<=140737488355328/\((S'++locs (nx+1) 0 j).map fun p=>[p]).length+1<=9223372036854775807 by rw[hsl]; omega) ?_;refine zAf rfl rfl rfl rfl rfl rfl trivial ?_;show Tri ..
   refine zIj [(1,.op n 0),(2,.op (n+1) 0),(3,.orow (nxj+1)),(4,p),(48,.s (.int .i64 (ks1.length:Int))),(49,.s (.int .i64 (j:Int)))] (nxj+2) ⟨rfl,rfl,rfl,rfl,rfl,rfl,trivial⟩ rfl fun H5 hH5=>?_
   have e1:H5 (nxj+1)=some (.arow 150 1 ((S'++locs (nx+1) 0 (j+1)).map fun p=>[p])):=(hH5 _).trans (by
    show(bif Nat.beq (nxj+1) (nxj+1) then some (Ob.arow 150 1 (((S'++locs (nx+1) 0 j).map fun p=>[p])++[[.rp (nx+1) 4 j 0]])) else _)=_;rw[Nat.beq_refl,cond_true,zUY]
    simp)
   have e2:∀ k,k ≠ nxj+1->k ≠ lsj->k ≠ nxj->H5 k=Hj k:=fun k h1 h2 h3=>(hH5 k).trans (by
    show(bif Nat.beq k (nxj+1) then _ else bif Nat.beq k lsj then none else bif Nat.beq k nxj then _ else Hj k)=_;rw[zEb h1,zEb h2,zEb h3]; rfl)
   clear hH5
   refine zYb ?_;refine zAf rfl rfl rfl rfl rfl rfl trivial ?_;refine zAf rfl rfl rfl rfl rfl rfl trivial ?_;exact⟨(H5,nxj+1,nxj+2,j+1),⟨hj,fun k h1 h2=>(e2 k (by omega) (by omega) (by omega)).trans (i2 k h1 h2),e1,.inr (by omega),by omega,by omega⟩,
    Le.forget [(1,.op n 0),(2,.op (n+1) 0),(3,.orow (nxj+1)),(4,p),(48,.s (.int .i64 (ks1.length:Int))),(49,.s (.int .i64 ((j+1:Nat):Int)))] ⟨rfl,rfl,rfl,rfl,rfl,congrArg (fun z=>AV.s (.int .i64 z)) (zAE (by omega)),trivial⟩,by show ks1.length - (j+1)<ks1.length - j; omega⟩
  ·refine zAx ?_;have hj:j=ks1.length:=by
    have:=of_decide_eq_false hb
    omega
   subst hj;obtain⟨keys2,hz1,hz2⟩:=fin (zA4 k1 tx1 c1 (.orow (nx+1))) Hj lsj nxj [nx+1] (locs (nx+1) 0 ks1.length) (Nd.cnts ks1)
    (fun k h1 h2=>(i2 k (by omega) (by omega)).trans ((r2 k (by omega)).trans ((a2 k (by omega)).trans (zUj hl0 hcell ((hH2 _).trans (zIp hl0 (g2 _ hbl.1 hbl.2.1) (g2 _ hbl.1 hbl.2.1))) fun hk=>(hH2 k).trans ((zBN hk).trans (g2 k (by omega) h1))))))
    i3 (by simp only[At]; exact⟨.orow (nx+1),hcj,.inr (.inr ⟨nx+1,_,[],rfl,hrj,hlen4,rfl,LAt.copied hrj⟩)⟩) (by simp) (fun k hk=>by
     have:=List.mem_singleton.1 hk
     omega) (by omega) i5 (by simp[Nd.cnt])
   exact⟨(Hj,lsj,nxj,S'++locs (nx+1) 0 ks1.length,keys2,w1+Nd.cnts ks1),hz1,Le.forget [(1,.op n 0),(2,.op (n+1) 0),(3,.orow lsj)] ⟨rfl,rfl,rfl,trivial⟩,hz2⟩
def zR1 (xs:List AV) (r:Ret):Prop:=∃ (a0:Nd) (y0:Nd),zBy a0=some y0/\xs=[.agg ((Nd.enc a0).map .s)]/\r = .val (.agg ((Nd.enc y0).map .s))
def zFI:zAp:=zAn fun xs r=>zR1 xs r
theorem zGp:PSound Tryz.prog 53 zFI :=
 PSound.giveAll zHd fun xs r h=>by
  obtain⟨⟨k,t,c,ks⟩,y,hm,rfl,rfl⟩:=h;obtain⟨hq,hm⟩:=zAy hm;obtain rfl:=Option.some.inj hm;refine⟨_,rfl,rfl,k,c,t,ks,hq,rfl,fun v hp' n' keys _ _ hv _ _=>?_⟩
  refine zWl (t:=.mk k t c ks) (RdC.node ?_)
  rcases hv with ⟨rfl,rfl,_⟩ | ⟨q,rows,keys',w,rfl,hq,hlen,rfl,h⟩
  ·exact .s _
  ·exact Rd.rows hq hlen fun j x hj=>(by have:=LAt.rd h j x hj; rwa [Nat.zero_add]at this)
theorem zHb {n:Nd}{i s:Int}{p:List Int} (h:¬ (0<=i/\i<n.kids.length)):zBx n (i::s::p)=none:=by rw[zBx,if_neg h]
theorem zHc {n x:Nd}{i s:Int}{p:List Int} (h0:0<=i) (hx:n.kids[i.toNat]? = some x) (h:¬ (0<=s/\s<x.kids.length)):zBx n (i::s::p)=none:=by
 have hl:=(List.getElem?_eq_some_iff.1 hx).1;rw[zBx,if_pos ⟨h0,by omega⟩]
 simp only[List.getD_eq_getElem?_getD,hx,Option.getD_some]
 rw[if_neg h]
theorem zOl {n x z:Nd}{i s:Int}{p:List Int} (h0:0<=i) (hx:n.kids[i.toNat]? = some x) (h1:0<=s) (hz:x.kids[s.toNat]? = some z):zBx n (i::s::p)=zBx z p:=by
 have hl:=(List.getElem?_eq_some_iff.1 hx).1;have hl2:=(List.getElem?_eq_some_iff.1 hz).1;rw[zBx,if_pos ⟨h0,by omega⟩]
 simp only[List.getD_eq_getElem?_getD,hx,hz,Option.getD_some]
 rw[if_pos ⟨h1,by omega⟩]
theorem zUP {l:List Nd}{i:Nat}{x:Nd} (h:l[i]? = some x):(Nd.encs l).getD i []=Nd.enc x:=by
 simp[Nd.encs_eq,List.getD_eq_getElem?_getD,h]
theorem zIn (l:List Nd):(Nd.encs l).length=l.length:=by rw[Nd.encs_eq,List.length_map]
def zUO:Option Nd->AV
 | some y=>.s (.pt (Nd.enc y))
 | none=>.junk
def zR7 (xs:List AV) (r:Ret):Prop:=∃ (a0:Nd) (a1:List Int),xs=[.s (.pt (Nd.enc a0)),.s (.sl 1 (a1.map (irow .i64)))]/\r = .val (.tup [zUO (zBx a0 a1),.s (.bool (zBx a0 a1).isSome)])
def zLY:zAp:=zAn fun xs r=>zR7 xs r
theorem zRl:PSound Tryz.prog 178 zLY:=by
 have gok:=@gok0 Tryz.prog;refine zAo tokW Tryz.call178 Tryz.func178 rfl (fun xs r h=>by obtain⟨_,_,rfl,_⟩:=h; show 2<=_; decide) _ rfl ?_;rintro xs r w0 G0 ⟨n0,p0,rfl,rfl⟩ _;generalize hy:zBx n0 p0=y;refine zYc ?_;refine zAa ?_;refine zAj (zAt (X:=Nd×List Int) (fun x=>match x with | (n,p)=>⟨ofL [(0,.s (.pt (Nd.enc n))),(1,.s (.sl 1 (p.map (irow .i64)))),(4,.s .np),(5,.s (.bool false))],fun _=>none,0⟩)
  (fun x=>match x with | (n,p)=>zBx n p=y) (fun x=>match x with | (n,p)=>p.length) (n0,p0) hy (Le.forget [(0,.s (.pt (Nd.enc n0))),(1,.s (.sl 1 (p0.map (irow .i64)))),(4,.s .np),(5,.s (.bool false))] ⟨rfl,rfl,rfl,rfl,trivial⟩) ?_)
 rintro⟨⟨k,t,c,ks⟩,p⟩ hI;have hI:zBx (.mk k t c ks) p=y:=hI;refine zAa ?_;refine zYc ?_;refine zAI rfl (fun hb=>?_) (fun hb=>?_)
 ·refine zAe ?_;show Tri ..
  match p,hI,hb with
  | [],_,hb=>cases hb
  | [_],_,hb=>cases hb
  | i::s::p,hI,hb =>
   refine zAi (Le.forget [(0,.s (.pt (Nd.enc (.mk k t c ks)))),(1,.s (.sl 1 ((i::s::p).map (irow .i64)))),(4,.s .np),(5,.s (.bool false))] ⟨rfl,rfl,rfl,rfl,trivial⟩) ?_;refine zAa ?_;refine zAj ?_;refine zAa ?_;refine zNk (by exact tokW) (by exact gok) (by exact mixed) [] [] [1,2,4,5] rfl (by decide +kernel) ?_;refine And.intro (show(0:Int)<=0/\(0:Int)<((((i::s::p).map (irow .i64)).length:Nat):Int) by simp only[List.map_cons,List.length_cons]; omega) ?_;refine And.intro (show(0:Int)<=1/\(1:Int)<((((i::s::p).map (irow .i64)).length:Nat):Int) by simp only[List.map_cons,List.length_cons]; omega) ?_
   refine zAi (Le.forget [(0,.s (.pt [.int .i64 k,.str t,.int .i64 c,.sl 4 (Nd.encs ks)])),(1,.s (.sl 1 ((i::s::p).map (irow .i64)))),(4,.s .np),(5,.s (.bool false)),(6,.s (.int .i64 i)),(7,.s (.int .i64 s))] ⟨rfl,rfl,rfl,rfl,rfl,rfl,trivial⟩) ?_;refine zAa ?_;refine zAa ?_
   by_cases hi:i<0
   ·refine zAb [] [21] rfl ?_;intro b hb;obtain rfl:true=b:=(hb.trans (decide_eq_true hi)).symm;refine zAI rfl (fun _=>?_) (fun h=>by cases h)
    refine zYc ?_;refine zAd ?_;obtain rfl:none=y:=(zHb (fun h=>by omega)).symm.trans hI;unfold zCJ;exact⟨_,Le.forget [(5,.s (.bool false))] ⟨rfl,trivial⟩,rfl,rfl⟩
   by_cases hi2:(ks.length:Int)<=i
   ·refine zAb [] [21,29] rfl ?_;intro b hb;obtain rfl:false=b:=(hb.trans (decide_eq_false hi)).symm;intro b hb;obtain rfl:true=b:=(hb.trans (decide_eq_true (show(((Nd.encs ks).length:Nat):Int)<=i by rw[zIn]; exact hi2))).symm;refine zAI rfl (fun _=>?_) (fun h=>by cases h)
    refine zYc ?_;refine zAd ?_;obtain rfl:none=y:=(zHb (n:=.mk k t c ks) (fun h=>by have:i<ks.length:=h.2; omega)).symm.trans hI;unfold zCJ;exact⟨_,Le.forget [(5,.s (.bool false))] ⟨rfl,trivial⟩,rfl,rfl⟩
   refine zAb [] [21,29] rfl ?_;intro b hb;obtain rfl:false=b:=(hb.trans (decide_eq_false hi)).symm;intro b hb;obtain rfl:false=b:=(hb.trans (decide_eq_false (show ¬ (((Nd.encs ks).length:Nat):Int)<=i by rw[zIn]; exact hi2))).symm;refine zAI rfl (fun h=>by cases h) (fun _=>?_)
   refine zAe ?_;show Tri ..;have hi0:i.toNat<ks.length :=(by omega);obtain⟨⟨k2,t2,c2,ks2⟩,hx⟩:∃ x,ks[i.toNat]? = some x:=⟨_,List.getElem?_eq_getElem hi0⟩
   refine zAi (Le.forget [(0,.s (.pt [.int .i64 k,.str t,.int .i64 c,.sl 4 (Nd.encs ks)])),(1,.s (.sl 1 ((i::s::p).map (irow .i64)))),(4,.s .np),(5,.s (.bool false)),(6,.s (.int .i64 i)),(7,.s (.int .i64 s))] ⟨rfl,rfl,rfl,rfl,rfl,rfl,trivial⟩) ?_;refine zYc ?_;refine And.intro (show(0:Int)<=i/\i<(((Nd.encs ks).length:Nat):Int) by rw[zIn]; omega) ?_;show Tri ..
   refine zAi (Le.forget [(0,.s (.pt [.int .i64 k,.str t,.int .i64 c,.sl 4 (Nd.encs ks)])),(1,.s (.sl 1 ((i::s::p).map (irow .i64)))),(4,.s .np),(5,.s (.bool false)),(6,.s (.int .i64 i)),(7,.s (.int .i64 s)),(8,.s (.pt [.int .i64 k2,.str t2,.int .i64 c2,.sl 4 (Nd.encs ks2)]))] ⟨rfl,rfl,rfl,rfl,rfl,rfl,congrArg (fun z=>AV.s (.pt z)) (zUP hx),trivial⟩) ?_;refine zAa ?_;refine zAa ?_
   by_cases hs:s<0
   ·refine zAb [] [38] rfl ?_;intro b hb;obtain rfl:true=b:=(hb.trans (decide_eq_true hs)).symm;refine zAI rfl (fun _=>?_) (fun h=>by cases h)
    refine zYc ?_;refine zAd ?_;obtain rfl:none=y:=(zHc (n:=.mk k t c ks) (by omega) hx (fun h=>by omega)).symm.trans hI;unfold zCJ;exact⟨_,Le.forget [(5,.s (.bool false))] ⟨rfl,trivial⟩,rfl,rfl⟩
   by_cases hs2:(ks2.length:Int)<=s
   ·refine zAb [] [38,46] rfl ?_;intro b hb;obtain rfl:false=b:=(hb.trans (decide_eq_false hs)).symm;intro b hb;obtain rfl:true=b:=(hb.trans (decide_eq_true (show(((Nd.encs ks2).length:Nat):Int)<=s by rw[zIn]; exact hs2))).symm;refine zAI rfl (fun _=>?_) (fun h=>by cases h)
    refine zYc ?_;refine zAd ?_;obtain rfl:none=y:=(zHc (n:=.mk k t c ks) (by omega) hx (fun h=>by have:s<ks2.length:=h.2; omega)).symm.trans hI;unfold zCJ;exact⟨_,Le.forget [(5,.s (.bool false))] ⟨rfl,trivial⟩,rfl,rfl⟩
   refine zAb [] [38,46] rfl ?_;intro b hb;obtain rfl:false=b:=(hb.trans (decide_eq_false hs)).symm;intro b hb;obtain rfl:false=b:=(hb.trans (decide_eq_false (show ¬ (((Nd.encs ks2).length:Nat):Int)<=s by rw[zIn]; exact hs2))).symm;refine zAI rfl (fun h=>by cases h) (fun _=>?_)
   refine zAe ?_;show Tri ..;have hs0:s.toNat<ks2.length :=(by omega);obtain⟨z,hz⟩:∃ z,ks2[s.toNat]? = some z:=⟨_,List.getElem?_eq_getElem hs0⟩
   refine zAi (Le.forget [(0,.s (.pt [.int .i64 k,.str t,.int .i64 c,.sl 4 (Nd.encs ks)])),(1,.s (.sl 1 ((i::s::p).map (irow .i64)))),(4,.s .np),(5,.s (.bool false)),(6,.s (.int .i64 i)),(7,.s (.int .i64 s)),(8,.s (.pt [.int .i64 k2,.str t2,.int .i64 c2,.sl 4 (Nd.encs ks2)]))] ⟨rfl,rfl,rfl,rfl,rfl,rfl,rfl,trivial⟩) ?_;refine zYb ?_;refine And.intro (show(0:Int)<=s/\s<(((Nd.encs ks2).length:Nat):Int) by rw[zIn]; omega) ?_;show Tri ..
   refine zAi (Le.forget [(0,.s (.pt (Nd.enc z))),(1,.s (.sl 1 ((i::s::p).map (irow .i64)))),(4,.s .np),(5,.s (.bool false))] ⟨congrArg (fun z=>AV.s (.pt z)) (zUP hz),rfl,rfl,rfl,trivial⟩) ?_;refine zYb ?_;refine And.intro (show(0:Int)<=2/\(2:Int)<=((((i::s::p).map (irow .i64)).length:Nat):Int)/\_<=_ from⟨by decide,by simp only[List.map_cons,List.length_cons]; omega,Int.le_refl _⟩) ?_
   exact⟨(z,p),(zOl (n:=.mk k t c ks) (by omega) hx (by omega) hz).symm.trans hI,Le.forget [(0,.s (.pt (Nd.enc z))),(1,.s (.sl 1 (p.map (irow .i64)))),(4,.s .np),(5,.s (.bool false))] ⟨rfl,congrArg (fun z=>AV.s (.sl 1 z)) (by rw[Int.toNat_natCast,List.take_length]; rfl),rfl,rfl,trivial⟩,by show p.length<p.length+1+1; omega⟩
 ·refine zAx ?_;refine zAa ?_
  match p,hI,hb with
  | [],hI,_ =>
   refine zYb ?_;refine zAd ?_;obtain rfl:some (.mk k t c ks)=y:=hI;unfold zCJ;exact⟨_,Le.refl _ _,rfl,rfl⟩
  | [i],hI,_ =>
   refine zYb ?_;refine zAd ?_;obtain rfl:none=y:=hI;unfold zCJ;exact⟨_,Le.forget [(5,.s (.bool false))] ⟨rfl,trivial⟩,rfl,rfl⟩
  | i::s::p,_,hb=>exact absurd (of_decide_eq_false hb) (by simp only[List.map_cons,List.length_cons]; omega)
def zAL (slices1:List (List Nd)):Nat->Int->Int->Option (Int)
| 0,_,_=>none
| k+1,x3,size4 =>
 bif decide (x3<(slices1.length:Int)) then (
  (at? slices1 x3).bind fun e6 =>
  bif decide ((IntKind.i64.wrap (size4+(e6.length:Int)))<0) then (
   none
  ) else (
   zAL slices1 k (IntKind.i64.wrap (x3+1)) (IntKind.i64.wrap (size4+(e6.length:Int)))
  )
 ) else (
  some size4
 )
def zAM (slices1:List (List Nd)):Nat->Int->(List Nd)->Option ((List Nd))
| 0,_,_=>none
| k+1,x11,l13 =>
 bif decide (x11<(slices1.length:Int)) then (
  (at? slices1 x11).bind fun e15 =>
  req (l13.length+e15.length<=4294967296) <|
  zAM slices1 k (IntKind.i64.wrap (x11+1)) (l13++e15)
 ) else (
  some l13
 )
def zBJ (n:Nat):(List (List Nd))->Option (List Nd)
| slices1 =>
 (zAL slices1 n 0 0).bind fun size5 =>
 (zD6 size5).bind fun y9 =>
 (zAM slices1 n 0 y9).bind fun l14 =>
 some l14
def zAP (n:Nat):(zO8×List Nd)->Int->(List Nd)->Option (List Nd)
| ⟨⟨c1Y,c1Ag,c1J,c1Z,c1U,c1X,c1Af,c1Aa⟩,c1K⟩,n2,nodes3 =>
 req (0<=(0:Int)/\(0:Int)<=c1J/\c1J<=(c1K.length:Int)) <|
 req (0<=(IntKind.i64.wrap (c1J+n2))/\(IntKind.i64.wrap (c1J+n2))<=(c1K.length:Int)/\(c1K.length:Int)<=(c1K.length:Int)) <|
 (zBJ n [(c1K.take c1J.toNat).drop (0:Int).toNat,nodes3,(c1K.take (c1K.length:Int).toNat).drop (IntKind.i64.wrap (c1J+n2)).toNat]).bind fun y7 =>
 some y7
def zBe (n:Nat):(zO8×List Nd)->Option ((List Nd)×Int)
| ⟨⟨c1Y,c1Ag,c1J,c1Z,c1U,c1X,c1Af,c1Aa⟩,c1K⟩ =>
 (at? c1K c1J).bind fun⟨e2A,e2B,e2D,e2C⟩ =>
 (zCF (Nd.mk e2A e2B e2D e2C)).bind fun⟨y4A,y4B,y4D,y4C⟩ =>
 (zDs (Nd.mk y4A y4B y4D y4C)).bind fun y5 =>
 bif decide (y5<=c1X) then (
  some ([],7)
 ) else (
  (at? y4C c1X).bind fun⟨e6A,e6B,e6D,e6C⟩ =>
  (at? y4C c1X).bind fun⟨e7A,e7B,e7D,e7C⟩ =>
  (
   bif ((e6C.length:Int) != c1Z) then (
    some true
   ) else (
    (at? c1U 0).bind fun⟨e11A,e11B,e11D,e11C⟩ =>
    (zBY n (Nd.mk y4A y4B y4D (y4C.set c1X.toNat (Nd.mk e7A e7B e7D []))) (Nd.mk e11A e11B e11D e11C)).bind fun y13 =>
    some (!y13)
   )
   : Option (Bool)).bind fun x9 =>
  bif x9 then (
   some ([],7)
  ) else (
   (zAP n ((c1Y,c1Ag,c1J,c1Z,c1U,c1X,c1Af,c1Aa),c1K) 1 e6C).bind fun y14 =>
   some (y14,0)
  )
 )
def zDh (n:Nat):(zO8×List Nd)->Option ((List Nd)×Int)
| ⟨⟨c1Y,c1Ag,c1J,c1Z,c1U,c1X,c1Af,c1Aa⟩,c1K⟩ =>
 (at? c1U 0).bind fun⟨e2A,e2B,e2D,e2C⟩ =>
 (zCF (Nd.mk e2A e2B e2D e2C)).bind fun⟨y4A,y4B,y4D,y4C⟩ =>
 req (0<=c1J/\c1J<=IntKind.i64.wrap (c1J+c1Z)/\IntKind.i64.wrap (c1J+c1Z)<=(c1K.length:Int)) <|
 (zDT ((c1K.take (IntKind.i64.wrap (c1J+c1Z)).toNat).drop c1J.toNat)).bind fun y6 =>
 (at? y4C c1X).bind fun⟨e7A,e7B,e7D,e7C⟩ =>
 (zAP n ((c1Y,c1Ag,c1J,c1Z,c1U,c1X,c1Af,c1Aa),c1K) c1Z [Nd.mk y4A y4B y4D (y4C.set c1X.toNat (Nd.mk e7A e7B e7D y6))]).bind fun y10 =>
 some (y10,0)
def zCC (n:Nat):(zO8×List Nd)->Option ((List Nd)×Int)
| ⟨⟨c1Y,c1Ag,c1J,c1Z,c1U,c1X,c1Af,c1Aa⟩,c1K⟩ =>
 (zAP n ((c1Y,c1Ag,c1J,c1Z,c1U,c1X,c1Af,c1Aa),c1K) 0 c1U).bind fun y2 =>
 some (y2,0)
def zCD (n:Nat):(zO8×List Nd)->Option ((List Nd)×Int)
| ⟨⟨c1Y,c1Ag,c1J,c1Z,c1U,c1X,c1Af,c1Aa⟩,c1K⟩ =>
 req (0<=c1J/\c1J<=IntKind.i64.wrap (c1J+(c1U.length:Int))/\IntKind.i64.wrap (c1J+(c1U.length:Int))<=(c1K.length:Int)) <|
 (zAN n ((c1K.take (IntKind.i64.wrap (c1J+(c1U.length:Int))).toNat).drop c1J.toNat) c1U).bind fun y4 =>
 bif (!y4) then (
  some ([],7)
 ) else (
  (zAP n ((c1Y,c1Ag,c1J,c1Z,c1U,c1X,c1Af,c1Aa),c1K) (c1U.length:Int) []).bind fun y5 =>
  some (y5,0)
 )
def zDF (n:Nat):(zO8×List Nd)->Option ((List Nd)×Int)
| ⟨⟨c1Y,c1Ag,c1J,c1Z,c1U,c1X,c1Af,c1Aa⟩,c1K⟩ =>
 (at? c1K c1J).bind fun⟨e2A,e2B,e2D,e2C⟩ =>
 (
  (
   bif (e2A == 2) then (
    some (e2A == 2)
   ) else (
    bif (e2A == 3) then (
     some (e2A == 3)
    ) else (
     bif (e2A == 4) then (
      some (e2A == 4)
     ) else (
      bif (e2A == 10) then (
       some (e2A == 10)
      ) else (
       some (e2A == 11)
      )
     )
    )
   )
   : Option (Bool)).bind fun x4 =>
  bif x4 then (
   some (.go ())
  ) else (
   some (.ret ([],7))
  )
  : Option (Fl ((List Nd)×Int) Unit)).bind fun fl=>match fl with
 | .ret r=>some r
 | .go _ =>
  bif (!(e2B == c1Af)) then (
   some ([],7)
  ) else (
   (zAP n ((c1Y,c1Ag,c1J,c1Z,c1U,c1X,c1Af,c1Aa),c1K) 1 [Nd.mk e2A c1Aa e2D e2C]).bind fun y6 =>
   some (y6,0)
  )
def zBT:(zO8×List Nd)->Option Int
| ⟨⟨c1Y,c1Ag,c1J,c1Z,c1U,c1X,c1Af,c1Aa⟩,c1K⟩ =>
 (
  bif (c1Y == 1) then (
   some 0
  ) else (
   bif (c1Y == 2) then (
    some (c1U.length:Int)
   ) else (
    bif (c1Y == 3) then (
     some c1Z
    ) else (
     some 1
    )
   )
  )
  : Option (Int)).bind fun need2 =>
 (
  bif decide (c1J<0) then (
   some true
  ) else (
   bif decide ((c1K.length:Int)<c1J) then (
    some true
   ) else (
    some (decide ((IntKind.i64.wrap ((c1K.length:Int) - c1J))<need2))
   )
  )
  : Option (Bool)).bind fun x4 =>
 bif x4 then (
  some 2
 ) else (
  some 0
 )
def zC2 (n:Nat):(List Nd)->Int->Option Bool
| l1,slot2 =>
 (
  bif ((l1.length:Int) != 1) then (
   some true
  ) else (
   (zB3 n l1).bind fun y5 =>
   bif (!y5) then (
    some true
   ) else (
    bif decide (slot2<0) then (
     some true
    ) else (
     (at? l1 0).bind fun⟨e6A,e6B,e6D,e6C⟩ =>
     (zDs (Nd.mk e6A e6B e6D e6C)).bind fun y8 =>
     some (decide (y8<=slot2))
    )
   )
  )
  : Option (Bool)).bind fun x3 =>
 bif x3 then (
  some false
 ) else (
  (at? l1 0).bind fun⟨e9A,e9B,e9D,e9C⟩ =>
  (at? e9C slot2).bind fun⟨e11A,e11B,e11D,e11C⟩ =>
  some ((e11C.length:Int) == 0)
 )
def zEq (n:Nat):zO8->Option Bool
| ⟨a1A,a1N,a1I,a1M,a1G,a1L,a1O,a1B⟩ =>
 (
  bif (!(a1O == [])) then (
   some true
  ) else (
   some (!(a1B == []))
  )
  : Option (Bool)).bind fun x2 =>
 (
  (
   bif (a1A == 1) then (
    some (a1A == 1)
   ) else (
    some (a1A == 2)
   )
   : Option (Bool)).bind fun x3 =>
  bif x3 then (
   (
    bif (a1M == 0) then (
     bif (a1L == 0) then (
      bif (!x2) then (
       bif decide (0<(a1G.length:Int)) then (
        (zB3 n a1G).bind fun y6 =>
        some y6
       ) else (
        some false
       )
      ) else (
       some false
      )
     ) else (
      some false
     )
    ) else (
     some false
    )
    : Option (Bool)).bind fun x4 =>
   some (.ret x4)
  ) else (
   (
    bif (a1A == 3) then (
     some (a1A == 3)
    ) else (
     some (a1A == 4)
    )
    : Option (Bool)).bind fun x7 =>
   bif x7 then (
    (
     bif decide (0<=a1M) then (
      bif (!x2) then (
       (zC2 n a1G a1L).bind fun y9 =>
       some y9
      ) else (
       some false
      )
     ) else (
      some false
     )
     : Option (Bool)).bind fun x8 =>
    some (.ret x8)
   ) else (
    bif (a1A == 5) then (
     (
      bif (a1M == 0) then (
       bif (a1L == 0) then (
        bif ((a1G.length:Int) == 0) then (
         some (!(a1O == a1B))
        ) else (
         some false
        )
       ) else (
        some false
       )
      ) else (
       some false
      )
      : Option (Bool)).bind fun x10 =>
     some (.ret x10)
    ) else (
     some (.go ())
    )
   )
  )
  : Option (Fl Bool Unit)).bind fun fl=>match fl with
 | .ret r=>some r
 | .go _ =>
  some false
def zBf:(zO8×List Nd)->Option ((List Nd)×Int)
| ⟨⟨c1Y,c1Ag,c1J,c1Z,c1U,c1X,c1Af,c1Aa⟩,c1K⟩ =>
 (at? c1K c1J).bind fun⟨e2A,e2B,e2D,e2C⟩ =>
 (zBy (Nd.mk e2A e2B e2D e2C)).bind fun⟨y4A,y4B,y4D,y4C⟩ =>
 (zDs (Nd.mk y4A y4B y4D y4C)).bind fun y5 =>
 bif decide (y5<=c1X) then (
  some ([],7)
 ) else (
  none
 )
def zA5 (n:Nat) (c:zO8×List Nd):Option (List Nd×Int) :=
 match zBf c with
 | some r=>some r
 | none=>zBe n c
def zB6 (n:Nat):(zO8×List Nd)->Option ((List Nd)×Int)
| ⟨⟨c1Y,c1Ag,c1J,c1Z,c1U,c1X,c1Af,c1Aa⟩,c1K⟩ =>
 (zBT ((c1Y,c1Ag,c1J,c1Z,c1U,c1X,c1Af,c1Aa),c1K)).bind fun y2 =>
 bif (y2 != 0) then (
  some ([],y2)
 ) else (
  bif (c1Y == 1) then (
   (zCC n ((c1Y,c1Ag,c1J,c1Z,c1U,c1X,c1Af,c1Aa),c1K)).bind fun⟨y3,y4⟩ =>
   some (y3,y4)
  ) else (
   bif (c1Y == 2) then (
    (zCD n ((c1Y,c1Ag,c1J,c1Z,c1U,c1X,c1Af,c1Aa),c1K)).bind fun⟨y5,y6⟩ =>
    some (y5,y6)
   ) else (
    bif (c1Y == 3) then (
     (zDh n ((c1Y,c1Ag,c1J,c1Z,c1U,c1X,c1Af,c1Aa),c1K)).bind fun⟨y7,y8⟩ =>
     some (y7,y8)
    ) else (
     bif (c1Y == 4) then (
      (zA5 n ((c1Y,c1Ag,c1J,c1Z,c1U,c1X,c1Af,c1Aa),c1K)).bind fun⟨y9,y10⟩ =>
      some (y9,y10)
     ) else (
      (zDF n ((c1Y,c1Ag,c1J,c1Z,c1U,c1X,c1Af,c1Aa),c1K)).bind fun⟨y11,y12⟩ =>
      some (y11,y12)
     )
    )
   )
  )
 )
def zEf (n:Nat):Nd->zO8->Option (Nd×Int)
| ⟨n1A,n1B,n1D,n1C⟩,⟨op2A,op2N,op2I,op2M,op2G,op2L,op2O,op2B⟩ =>
 (zAR n (Nd.mk n1A n1B n1D n1C)).bind fun y3 =>
 bif (!y3) then (
  some (Nd.mk 0 [] 0 [],1)
 ) else (
  (zEq n (op2A,op2N,op2I,op2M,op2G,op2L,op2O,op2B)).bind fun y4 =>
  bif (!y4) then (
   some (Nd.mk 0 [] 0 [],4)
  ) else (
   (zGX n (Nd.mk n1A n1B n1D n1C) op2N).bind fun⟨⟨y5A,y5B,y5D,y5C⟩,y6⟩ =>
   bif (y6 != 0) then (
    some (Nd.mk 0 [] 0 [],y6)
   ) else (
    (zB6 n ((op2A,op2N,op2I,op2M,op2G,op2L,op2O,op2B),y5C)).bind fun⟨y7,y8⟩ =>
    bif (y8 != 0) then (
     some (Nd.mk 0 [] 0 [],y8)
    ) else (
     (zEI n (Nd.mk n1A n1B n1D n1C) op2N (Nd.mk y5A y5B y5D y7)).bind fun⟨⟨y9A,y9B,y9D,y9C⟩,y10⟩ =>
     bif (y10 != 0) then (
      some (Nd.mk 0 [] 0 [],6)
     ) else (
      some (Nd.mk y9A y9B y9D y9C,0)
     )
    )
   )
  )
 )
def zAW (n:Nat) (ops2:List zO8):Nat->Int->(List UInt8)->Int->(List Nd)->Int->Option (Fl (Nd×Int×Int) (Int×(List UInt8)×Int×(List Nd)))
| 0,_,_,_,_,_=>none
| k+1,x7,x8,x9,x10,x11 =>
 bif decide (x11<(ops2.length:Int)) then (
  (at? ops2 x11).bind fun⟨e16A,e16N,e16I,e16M,e16G,e16L,e16O,e16B⟩ =>
  (zEf n (Nd.mk x7 x8 x9 x10) (e16A,e16N,e16I,e16M,e16G,e16L,e16O,e16B)).bind fun⟨⟨y18A,y18B,y18D,y18C⟩,y19⟩ =>
  bif (y19 != 0) then (
   some (.ret (Nd.mk 0 [] 0 [],x11,y19))
  ) else (
   zAW n ops2 k y18A y18B y18D y18C (IntKind.i64.wrap (x11+1))
  )
 ) else (
  some (.go (x7,x8,x9,x10))
 )
def zBF (n:Nat):Nd->(List zO8)->Option (Nd×Int×Int)
| ⟨n1A,n1B,n1D,n1C⟩,ops2 =>
 (zAR n (Nd.mk n1A n1B n1D n1C)).bind fun y3 =>
 bif (!y3) then (
  some (Nd.mk 0 [] 0 [],0,1)
 ) else (
  (zBy (Nd.mk n1A n1B n1D n1C)).bind fun⟨y4A,y4B,y4D,y4C⟩ =>
  (zAW n ops2 n y4A y4B y4D y4C 0).bind fun fl=>match fl with
  | .ret r=>some r
  | .go ⟨x12,x13,x14,x15⟩ =>
   some (Nd.mk x12 x13 x14 x15,0,0)
 )
def zMA:List Int->List Int->Option (List Int)
| p,q=>req (p.length+q.length<=4294967296) <| some (p++q)
def zDy (F_r10_all:Nd->(List Int)->Option (List (List Int))) (row1C:List Nd) (path2:List Int) (i4:Int):Nat->Int->(List (List Int))->Option ((List (List Int)))
| 0,_,_=>none
| k+1,k13,l14 =>
 (at? row1C i4).bind fun⟨e16A,e16B,e16D,e16C⟩ =>
 bif decide (k13<(e16C.length:Int)) then (
  (at? row1C i4).bind fun⟨e19A,e19B,e19D,e19C⟩ =>
  (at? e19C k13).bind fun⟨e21A,e21B,e21D,e21C⟩ =>
  req (([]:List Int).length+path2.length<=4294967296) <|
  req (path2.length + [i4,k13].length<=4294967296) <|
  (F_r10_all (Nd.mk e21A e21B e21D e21C) (path2++[i4,k13])).bind fun y24 =>
  req (l14.length+y24.length<=4294967296) <|
  zDy F_r10_all row1C path2 i4 k (IntKind.i64.wrap (k13+1)) (l14++y24)
 ) else (
  some l14
 )
def zDx (F_r10_all:Nd->(List Int)->Option (List (List Int))) (n:Nat) (row1C:List Nd) (path2:List Int):Nat->Int->(List (List Int))->Option ((List (List Int)))
| 0,_,_=>none
| k+1,i4,l5 =>
 bif decide (i4<=(row1C.length:Int)) then (
  (zMA path2 [i4]).bind fun y9 =>
  req (l5.length + [y9].length<=4294967296) <|
  bif (i4 == (row1C.length:Int)) then (
   some (l5++[y9])
  ) else (
   (zDy F_r10_all row1C path2 i4 n 0 (l5++[y9])).bind fun l15 =>
   zDx F_r10_all n row1C path2 k (IntKind.i64.wrap (i4+1)) l15
  )
 ) else (
  some l5
 )
def zDw:Nat->Nd->(List Int)->Option (List (List Int))
| 0,_,_=>none
| n+1,⟨row1A,row1B,row1D,row1C⟩,path2 =>
 (zDx (zDw n) n row1C path2 n 0 []).bind fun l6 =>
 some l6
def zHV (n:Nat):Nd->Option ((List (List Int))×Int)
| ⟨n1A,n1B,n1D,n1C⟩ =>
 (zA6 n (Nd.mk n1A n1B n1D n1C)).bind fun y2 =>
 bif (!y2) then (
  some ([],1)
 ) else (
  (zDw n (Nd.mk n1A n1B n1D n1C) []).bind fun y3 =>
  some (y3,0)
 )
def zBS (a1:List Int) (b2:List Int):Nat->Int->Option (Fl Int Unit)
| 0,_=>none
| k+1,i3 =>
 (
  bif decide (i3<(a1.length:Int)) then (
   some (decide (i3<(b2.length:Int)))
  ) else (
   some false
  )
  : Option (Bool)).bind fun x4 =>
 bif x4 then (
  (at? a1 i3).bind fun e7 =>
  (at? b2 i3).bind fun e9 =>
  bif decide (e7<e9) then (
   some (.ret (-1))
  ) else (
   (at? a1 i3).bind fun e11 =>
   (at? b2 i3).bind fun e13 =>
   bif decide (e13<e11) then (
    some (.ret 1)
   ) else (
    zBS a1 b2 k (IntKind.i64.wrap (i3+1))
   )
  )
 ) else (
  some (.go ())
 )
def zEv (n:Nat):(List Int)->(List Int)->Option Int
| a1,b2 =>
 (zBS a1 b2 n 0).bind fun fl=>match fl with
 | .ret r=>some r
 | .go _ =>
  bif decide ((a1.length:Int)<(b2.length:Int)) then (
   some (-1)
  ) else (
   bif decide ((b2.length:Int)<(a1.length:Int)) then (
    some 1
   ) else (
    some 0
   )
  )
def zCy (n:Nat) (pos2:List Int) (y3:List (List Int)):Nat->Int->Option (Fl (Int×Int) Unit)
| 0,_=>none
| k+1,i5 =>
 bif decide (i5<(y3.length:Int)) then (
  (at? y3 i5).bind fun e7 =>
  (zEv n e7 pos2).bind fun y9 =>
  bif (y9 == 0) then (
   some (.ret (i5,0))
  ) else (
   zCy n pos2 y3 k (IntKind.i64.wrap (i5+1))
  )
 ) else (
  some (.go ())
 )
def zEK (n:Nat):Nd->(List Int)->Option (Int×Int)
| ⟨n1A,n1B,n1D,n1C⟩,pos2 =>
 (zHV n (Nd.mk n1A n1B n1D n1C)).bind fun⟨y3,y4⟩ =>
 bif (y4 != 0) then (
  some (0,y4)
 ) else (
  (zCy n pos2 y3 n 0).bind fun fl=>match fl with
  | .ret r=>some r
  | .go _ =>
   some (0,2)
 )
def zD4 (n:Nat):Nd->(List Int)->Option Bool
| ⟨n1A,n1B,n1D,n1C⟩,pos2 =>
 (zEK n (Nd.mk n1A n1B n1D n1C) pos2).bind fun⟨y3,y4⟩ =>
 some (y4 == 0)
def zBj (F_codec_valid:CV->Int->Option Bool) (a1E:List CV) (a2:Int):Nat->Int->Option (Fl Bool Unit)
| 0,_=>none
| k+1,x9 =>
 bif decide (x9<(a1E.length:Int)) then (
  (at? a1E x9).bind fun⟨e10A,e10F,e10B,e10E⟩ =>
  (F_codec_valid (CV.mk e10A e10F e10B e10E) (IntKind.i64.wrap (a2+1))).bind fun y12 =>
  bif (!y12) then (
   some (.ret false)
  ) else (
   zBj F_codec_valid a1E a2 k (IntKind.i64.wrap (x9+1))
  )
 ) else (
  some (.go ())
 )
def zBV:Nat->CV->Int->Option Bool
| 0,_,_=>none
| n+1,⟨a1A,a1F,a1B,a1E⟩,a2 =>
 bif decide (64<a2) then (
  some false
 ) else (
  bif (a1A == 1) then (
   (
    bif (a1B == []) then (
     some ((a1E.length:Int) == 0)
    ) else (
     some false
    )
    : Option (Bool)).bind fun x3 =>
   some x3
  ) else (
   bif (a1A == 2) then (
    (
     bif (a1F == 0) then (
      some ((a1E.length:Int) == 0)
     ) else (
      some false
     )
     : Option (Bool)).bind fun x5 =>
    some x5
   ) else (
    bif (a1A == 3) then (
     (
      bif (a1F != 0) then (
       some true
      ) else (
       some (!(a1B == []))
      )
      : Option (Bool)).bind fun x7 =>
     bif x7 then (
      some false
     ) else (
      (zBj (zBV n) a1E a2 n 0).bind fun fl=>match fl with
      | .ret r=>some r
      | .go _ =>
       some true
     )
    ) else (
     some false
    )
   )
  )
 )
def zEp (n:Nat):CV->Option Bool
| ⟨v1A,v1F,v1B,v1E⟩ =>
 (zBV n (CV.mk v1A v1F v1B v1E) 1).bind fun y2 =>
 some y2
def zC7:CV->Option Int
| ⟨v1A,v1F,v1B,v1E⟩ =>
 bif (v1A == 2) then (
  some (IntKind.u64.wrap (v1B.length:Int))
 ) else (
  bif (v1A == 3) then (
   some (IntKind.u64.wrap (v1E.length:Int))
  ) else (
   bif decide (v1F<0) then (
    some (IntKind.u64.wrap ((IntKind.u64.wrap (2 * (IntKind.u64.wrap (IntKind.i64.wrap (0 - (IntKind.i64.wrap (v1F+1)))))))+1))
   ) else (
    some (IntKind.u64.wrap (2 * (IntKind.u64.wrap v1F)))
   )
  )
 )
def zAU  : Nat->Int->Int->Option (Int)
| 0,_,_=>none
| k+1,n2,k3 =>
 bif (n2 != 0) then (
  zAU k (n2.fdiv (2 ^ (min (8:Int).toNat IntKind.u64.bits))) (IntKind.i64.wrap (k3+1))
 ) else (
  some k3
 )
def zDn (n:Nat):Int->Option Int
| n1 =>
 (zAU  n (n1.fdiv (2 ^ (min (8:Int).toNat IntKind.u64.bits))) 1).bind fun k4 =>
 some k4
def zBE (y3:Int):Nat->Int->(List UInt8)->Option ((List UInt8))
| 0,_,_=>none
| k+1,i8,l9 =>
 bif decide (0<=i8) then (
  req (0<=IntKind.i64.wrap (8 * i8)) <|
  req (l9.length + [b8of (IntKind.u8.wrap (y3.fdiv (2 ^ (min (IntKind.i64.wrap (8 * i8)).toNat IntKind.u64.bits))))].length<=4294967296) <|
  zBE y3 k (IntKind.i64.wrap (i8 - 1)) (l9++[b8of (IntKind.u8.wrap (y3.fdiv (2 ^ (min (IntKind.i64.wrap (8 * i8)).toNat IntKind.u64.bits))))])
 ) else (
  some l9
 )
def zE3 (n:Nat):(List UInt8)->CV->Option (List UInt8)
| b1,⟨v2A,v2F,v2B,v2E⟩ =>
 (zC7 (CV.mk v2A v2F v2B v2E)).bind fun y3 =>
 bif decide (y3<56) then (
  req (b1.length + [b8of (IntKind.u8.wrap ((IntKind.u8.wrap (IntKind.i64.wrap (64 * v2A)))+(IntKind.u8.wrap y3)))].length<=4294967296) <|
  some (b1++[b8of (IntKind.u8.wrap ((IntKind.u8.wrap (IntKind.i64.wrap (64 * v2A)))+(IntKind.u8.wrap y3)))])
 ) else (
  (zDn n y3).bind fun y5 =>
  req (b1.length + [b8of (IntKind.u8.wrap (IntKind.i64.wrap ((IntKind.i64.wrap ((IntKind.i64.wrap ((IntKind.i64.wrap (64 * v2A))+56)) - 1))+y5)))].length<=4294967296) <|
  (zBE y3 n (IntKind.i64.wrap (y5 - 1)) (b1++[b8of (IntKind.u8.wrap (IntKind.i64.wrap ((IntKind.i64.wrap ((IntKind.i64.wrap ((IntKind.i64.wrap (64 * v2A))+56)) - 1))+y5)))])).bind fun l10 =>
  some l10
 )
def zA3 (F_codec_encode:(List UInt8)->CV->Option (List UInt8)) (v2E:List CV):Nat->Int->(List UInt8)->Option (Fl (List UInt8) ((List UInt8)))
| 0,_,_=>none
| k+1,x6,l7 =>
 bif decide (x6<(v2E.length:Int)) then (
  bif decide (1048576<(l7.length:Int)) then (
   some (.ret l7)
  ) else (
   (at? v2E x6).bind fun⟨e10A,e10F,e10B,e10E⟩ =>
   (F_codec_encode l7 (CV.mk e10A e10F e10B e10E)).bind fun y12 =>
   zA3 F_codec_encode v2E k (IntKind.i64.wrap (x6+1)) y12
  )
 ) else (
  some (.go l7)
 )
def zBd:Nat->(List UInt8)->CV->Option (List UInt8)
| 0,_,_=>none
| n+1,b1,⟨v2A,v2F,v2B,v2E⟩ =>
 (zE3 n b1 (CV.mk v2A v2F v2B v2E)).bind fun y3 =>
 bif decide (1048576<(v2B.length:Int)) then (
  req (0<=(0:Int)/\(0:Int)<=(1048577:Int)/\(1048577:Int)<=(v2B.length:Int)) <|
  req (y3.length+((v2B.take (1048577:Int).toNat).drop (0:Int).toNat).length<=4294967296) <|
  some (y3++((v2B.take (1048577:Int).toNat).drop (0:Int).toNat))
 ) else (
  req (y3.length+v2B.length<=4294967296) <|
  (zA3 (zBd n) v2E n 0 (y3++v2B)).bind fun fl=>match fl with
  | .ret r=>some r
  | .go l8 =>
   some l8
 )
def zC6 (n:Nat):CV->Option ((List UInt8)×Int)
| ⟨v1A,v1F,v1B,v1E⟩ =>
 (zEp n (CV.mk v1A v1F v1B v1E)).bind fun y2 =>
 bif (!y2) then (
  some ([],1)
 ) else (
  (zBd n [] (CV.mk v1A v1F v1B v1E)).bind fun y3 =>
  bif decide (1048576<(y3.length:Int)) then (
   some ([],6)
  ) else (
   some (y3,0)
  )
 )
def zGn:CV->Option Int
| ⟨v1A,v1F,v1B,v1E⟩ =>
 bif (v1A == 2) then (
  some (IntKind.u64.wrap (v1B.length:Int))
 ) else (
  bif (v1A == 3) then (
   some (IntKind.u64.wrap (v1E.length:Int))
  ) else (
   bif decide (v1F<0) then (
    some (IntKind.u64.wrap ((IntKind.u64.wrap (2 * (IntKind.u64.wrap (IntKind.i64.wrap (0 - (IntKind.i64.wrap (v1F+1)))))))+1))
   ) else (
    some (IntKind.u64.wrap (2 * (IntKind.u64.wrap v1F)))
   )
  )
 )
def zBW  : Nat->Int->(List UInt8)->Option ((List UInt8))
| 0,_,_=>none
| k+1,n3,l5 =>
 bif decide (0<n3) then (
  req ([b8of (IntKind.u8.wrap (n3.tmod 256))].length+l5.length<=4294967296) <|
  zBW k (IntKind.u64.wrap (n3.tdiv 256)) ([b8of (IntKind.u8.wrap (n3.tmod 256))]++l5)
 ) else (
  some l5
 )
def zGY (n:Nat):CV->Option (List UInt8)
| ⟨v1A,v1F,v1B,v1E⟩ =>
 (zGn (CV.mk v1A v1F v1B v1E)).bind fun y2 =>
 bif decide (y2<56) then (
  some [b8of (IntKind.u8.wrap (IntKind.i64.wrap ((IntKind.i64.wrap (64 * v1A))+(IntKind.i64.wrap y2))))]
 ) else (
  (zBW  n y2 []).bind fun l6 =>
  req ([b8of (IntKind.u8.wrap (IntKind.i64.wrap ((IntKind.i64.wrap ((IntKind.i64.wrap (64 * v1A))+55))+(l6.length:Int))))].length+l6.length<=4294967296) <|
  some ([b8of (IntKind.u8.wrap (IntKind.i64.wrap ((IntKind.i64.wrap ((IntKind.i64.wrap (64 * v1A))+55))+(l6.length:Int))))]++l6)
 )
def zBo (F_r03_Encode:CV->Option (List UInt8)) (v1E:List CV):Nat->Int->(List UInt8)->Option ((List UInt8))
| 0,_,_=>none
| k+1,i4,l5 =>
 bif decide (i4<(v1E.length:Int)) then (
  (at? v1E i4).bind fun⟨e8A,e8F,e8B,e8E⟩ =>
  (F_r03_Encode (CV.mk e8A e8F e8B e8E)).bind fun y10 =>
  req (l5.length+y10.length<=4294967296) <|
  zBo F_r03_Encode v1E k (IntKind.i64.wrap (i4+1)) (l5++y10)
 ) else (
  some l5
 )
def zCn:Nat->CV->Option (List UInt8)
| 0,_=>none
| n+1,⟨v1A,v1F,v1B,v1E⟩ =>
 (zGY n (CV.mk v1A v1F v1B v1E)).bind fun y2 =>
 req (y2.length+v1B.length<=4294967296) <|
 (zBo (zCn n) v1E n 0 (y2++v1B)).bind fun l6 =>
 some l6
def zA8 (b2:List UInt8):Nat->Int->Int->Option (Int)
| 0,_,_=>none
| k+1,h4,x5 =>
 bif decide (x5<(b2.length:Int)) then (
  (at? b2 x5).bind fun e7 =>
  zA8 b2 k (IntKind.u64.wrap ((zI9 .xor .u64 h4 (IntKind.u64.wrap (e7.toNat:Int))) * 1099511628211)) (IntKind.i64.wrap (x5+1))
 ) else (
  some h4
 )
def zB5 (n:Nat):Int->(List UInt8)->Option Int
| h1,b2 =>
 (zA8 b2 n h1 0).bind fun h6 =>
 some h6
def zC8 (n:Nat):(List UInt8)->Option Int
| b1 =>
 (zB5 n 14695981039346656037 b1).bind fun y2 =>
 some y2
def zBH (b2:List UInt8):Nat->Int->Int->Option (Int)
| 0,_,_=>none
| k+1,h3,i4 =>
 bif decide (i4<(b2.length:Int)) then (
  (at? b2 i4).bind fun e7 =>
  zBH b2 k (IntKind.u64.wrap ((zI9 .xor .u64 h3 (IntKind.u64.wrap (e7.toNat:Int))) * 1099511628211)) (IntKind.i64.wrap (i4+1))
 ) else (
  some h3
 )
def zDt (n:Nat):Int->(List UInt8)->Option Int
| h1,b2 =>
 (zBH b2 n h1 0).bind fun h5 =>
 some h5
def zEJ (n:Nat):(List UInt8)->Option Int
| b1 =>
 (zDt n 14695981039346656037 b1).bind fun y2 =>
 some y2
def zCv (n1:Int):Nat->Int->(List UInt8)->Option ((List UInt8))
| 0,_,_=>none
| k+1,i3,l4 =>
 bif decide (i3<8) then (
  req (0<=IntKind.i64.wrap (56 - (IntKind.i64.wrap (8 * i3)))) <|
  req (l4.length + [b8of (IntKind.u8.wrap (n1.fdiv (2 ^ (min (IntKind.i64.wrap (56 - (IntKind.i64.wrap (8 * i3)))).toNat IntKind.u64.bits))))].length<=4294967296) <|
  zCv n1 k (IntKind.i64.wrap (i3+1)) (l4++[b8of (IntKind.u8.wrap (n1.fdiv (2 ^ (min (IntKind.i64.wrap (56 - (IntKind.i64.wrap (8 * i3)))).toNat IntKind.u64.bits))))])
 ) else (
  some l4
 )
def zHf (n:Nat):Int->Option (List UInt8)
| n1 =>
 (zCv n1 n 0 []).bind fun l5 =>
 some l5
def zBs (s1:List UInt8):Nat->Int->Option (Fl Bool Unit)
| 0,_=>none
| k+1,i2 =>
 bif decide (i2<(s1.length:Int)) then (
  (
   (at? s1 i2).bind fun c4 =>
   bif decide ((c4.toNat:Int)<32) then (
    some true
   ) else (
    (at? s1 i2).bind fun c6 =>
    some (decide (126<(c6.toNat:Int)))
   )
   : Option (Bool)).bind fun x3 =>
  bif x3 then (
   some (.ret false)
  ) else (
   zBs s1 k (IntKind.i64.wrap (i2+1))
  )
 ) else (
  some (.go ())
 )
def zEr (n:Nat):(List UInt8)->Option Bool
| s1 =>
 (zBs s1 n 0).bind fun fl=>match fl with
 | .ret r=>some r
 | .go _ =>
  some (decide ((s1.length:Int)<=200))
def zBR  : Nat->(List Int)->Nd->Option (Fl Bool ((List Int)×Nd))
| 0,_,_=>none
| k+1,x3,⟨x4A,x4B,x4D,x4C⟩ =>
 bif decide (3<=(x3.length:Int)) then (
  (at? x3 0).bind fun e8 =>
  (at? x3 1).bind fun e10 =>
  (
   bif decide (e8<0) then (
    some true
   ) else (
    bif decide ((x4C.length:Int)<=e8) then (
     some true
    ) else (
     bif decide (e10<0) then (
      some true
     ) else (
      (at? x4C e8).bind fun⟨e14A,e14B,e14D,e14C⟩ =>
      some (decide ((e14C.length:Int)<=e10))
     )
    )
   )
   : Option (Bool)).bind fun x12 =>
  bif x12 then (
   some (.ret false)
  ) else (
   (at? x4C e8).bind fun⟨e17A,e17B,e17D,e17C⟩ =>
   (at? e17C e10).bind fun⟨e19A,e19B,e19D,e19C⟩ =>
   req (0<=(2:Int)/\(2:Int)<=(x3.length:Int)/\(x3.length:Int)<=(x3.length:Int)) <|
   zBR k ((x3.take (x3.length:Int).toNat).drop (2:Int).toNat) (Nd.mk e19A e19B e19D e19C)
  )
 ) else (
  some (.go (x3,Nd.mk x4A x4B x4D x4C))
 )
def zEt (n:Nat):Nd->(List Int)->Option Bool
| ⟨a1A,a1B,a1D,a1C⟩,a2 =>
 (zBR  n a2 (Nd.mk a1A a1B a1D a1C)).bind fun fl=>match fl with
 | .ret r=>some r
 | .go ⟨x5,⟨x6A,x6B,x6D,x6C⟩⟩ =>
  (
   bif ((x5.length:Int) == 1) then (
    (at? x5 0).bind fun e24 =>
    bif decide (0<=e24) then (
     (at? x5 0).bind fun e26 =>
     some (decide (e26<=(x6C.length:Int)))
    ) else (
     some false
    )
   ) else (
    some false
   )
   : Option (Bool)).bind fun x22 =>
  some x22
def zCi (n:Nat):Nd->(List Int)->Option Bool
| ⟨n1A,n1B,n1D,n1C⟩,pos2 =>
 (
  (zAR n (Nd.mk n1A n1B n1D n1C)).bind fun y4 =>
  bif y4 then (
   (zEt n (Nd.mk n1A n1B n1D n1C) pos2).bind fun y5 =>
   some y5
  ) else (
   some false
  )
  : Option (Bool)).bind fun x3 =>
 some x3
def zCs (n:Nat):Nd->zCu->Option Bool
| ⟨n1A,n1B,n1D,n1C⟩,⟨c2Ai,c2Ah⟩ =>
 (
  (zCi n (Nd.mk n1A n1B n1D n1C) c2Ai).bind fun y4 =>
  bif y4 then (
   bif ((c2Ah.length:Int) == 0) then (
    some true
   ) else (
    (zCi n (Nd.mk n1A n1B n1D n1C) c2Ah).bind fun y6 =>
    some y6
   )
  ) else (
   some false
  )
  : Option (Bool)).bind fun x3 =>
 some x3
def zBz (n:Nat) (a1H:List zRc) (a2:Int):Nat->Int->(List UInt8)->Int->(List Nd)->Int->(List UInt8)->Int->(List Nd)->Int->Option (Fl (Nd×Bool) (Int×(List UInt8)×Int×(List Nd)))
| 0,_,_,_,_,_,_,_,_,_=>none
| k+1,x11,x12,x13,x14,x15,x16,x17,x18,x19 =>
 bif decide (x19<(a1H.length:Int)) then (
  (
   (at? a1H x19).bind fun⟨e32P,⟨e32Ab,e32Ac⟩,⟨e32Ad,e32Ae⟩⟩ =>
   (zBF n (Nd.mk x11 x12 x13 x14) e32P).bind fun⟨⟨y34A,y34B,y34D,y34C⟩,y35,y36⟩ =>
   (
    bif (y36 != 0) then (
     some true
    ) else (
     (zCs n (Nd.mk x11 x12 x13 x14) (e32Ab,e32Ac)).bind fun y38 =>
     bif (!y38) then (
      some true
     ) else (
      (zCs n (Nd.mk y34A y34B y34D y34C) (e32Ad,e32Ae)).bind fun y39 =>
      some (!y39)
     )
    )
    : Option (Bool)).bind fun x37 =>
   bif x37 then (
    some (.ret (Nd.mk 0 [] 0 [],false))
   ) else (
    bif ((IntKind.i64.wrap (x19+1)) == a2) then (
     some (.go (y34A,y34B,y34D,y34C,y34A,y34B,y34D,y34C))
    ) else (
     some (.go (y34A,y34B,y34D,y34C,x15,x16,x17,x18))
    )
   )
   : Option (Fl (Nd×Bool) (Int×(List UInt8)×Int×(List Nd)×Int×(List UInt8)×Int×(List Nd)))).bind fun fl=>match fl with
  | .ret r=>some (.ret r)
  | .go ⟨x24,x25,x26,x27,x28,x29,x30,x31⟩ =>
   zBz n a1H a2 k x24 x25 x26 x27 x28 x29 x30 x31 (IntKind.i64.wrap (x19+1))
 ) else (
  some (.go (x15,x16,x17,x18))
 )
def zCt (n:Nat):(List UInt8×Nd×List zRc×Int)->Int->Option (Nd×Bool)
| ⟨a1V,⟨a1Q,a1R,a1S,a1T⟩,a1H,a1W⟩,a2 =>
 (
  (zEr n a1V).bind fun y4 =>
  bif (!y4) then (
   some true
  ) else (
   (zAR n (Nd.mk a1Q a1R a1S a1T)).bind fun y5 =>
   bif (!y5) then (
    some true
   ) else (
    bif decide (1000<(a1H.length:Int)) then (
     some true
    ) else (
     bif decide (a1W<0) then (
      some true
     ) else (
      some (decide ((a1H.length:Int)<a1W))
     )
    )
   )
  )
  : Option (Bool)).bind fun x3 =>
 bif x3 then (
  some (Nd.mk 0 [] 0 [],false)
 ) else (
  (zBy (Nd.mk a1Q a1R a1S a1T)).bind fun⟨y8A,y8B,y8D,y8C⟩ =>
  (zBz n a1H a2 n y8A y8B y8D y8C y8A y8B y8D y8C 0).bind fun fl=>match fl with
  | .ret r=>some r
  | .go ⟨x20,x21,x22,x23⟩ =>
   some (Nd.mk x20 x21 x22 x23,true)
 )
def zDp (n:Nat):(List UInt8×Nd×List zRc×Int)->Option Bool
| ⟨d1V,⟨d1Q,d1R,d1S,d1T⟩,d1H,d1W⟩ =>
 (zCt n (d1V,Nd.mk d1Q d1R d1S d1T,d1H,d1W) 0).bind fun⟨⟨y2A,y2B,y2D,y2C⟩,y3⟩ =>
 some y3
def zCR:(List UInt8)->Option CV
| s1 =>
 some (CV.mk 2 0 s1 [])
def zBQ:(List CV)->Option CV
| l1 =>
 some (CV.mk 3 0 [] l1)
def zAX:Int->Option CV
| n1 =>
 some (CV.mk 1 n1 [] [])
def zA0 (F_file_writeTree:Nd->Option CV) (l1:List Nd):Nat->Int->(List CV)->Option ((List CV))
| 0,_,_=>none
| k+1,x6,l7 =>
 bif decide (x6<(l1.length:Int)) then (
  (at? l1 x6).bind fun⟨e9A,e9B,e9D,e9C⟩ =>
  (F_file_writeTree (Nd.mk e9A e9B e9D e9C)).bind fun⟨y11A,y11F,y11B,y11E⟩ =>
  req (l7.length + [CV.mk y11A y11F y11B y11E].length<=4294967296) <|
  zA0 F_file_writeTree l1 k (IntKind.i64.wrap (x6+1)) (l7++[CV.mk y11A y11F y11B y11E])
 ) else (
  some l7
 )
mutual
def zBP:Nat->(List Nd)->Option CV
| 0,_=>none
| n+1,l1 =>
 (zBg ).bind fun⟨y2A,y2F,y2B,y2E⟩ =>
 (zA0 (zA1 n) l1 n 0 y2E).bind fun l8 =>
 some (CV.mk y2A y2F y2B l8)
def zA1:Nat->Nd->Option CV
| 0,_=>none
| n+1,⟨n1A,n1B,n1D,n1C⟩ =>
 (zBP n n1C).bind fun⟨y2A,y2F,y2B,y2E⟩ =>
 (zAX n1A).bind fun⟨y3A,y3F,y3B,y3E⟩ =>
 (zCR n1B).bind fun⟨y4A,y4F,y4B,y4E⟩ =>
 (zAX n1D).bind fun⟨y5A,y5F,y5B,y5E⟩ =>
 req ([CV.mk y3A y3F y3B y3E,CV.mk y4A y4F y4B y4E,CV.mk y5A y5F y5B y5E].length+y2E.length<=4294967296) <|
 (zBQ ([CV.mk y3A y3F y3B y3E,CV.mk y4A y4F y4B y4E,CV.mk y5A y5F y5B y5E]++y2E)).bind fun⟨y6A,y6F,y6B,y6E⟩ =>
 some (CV.mk y6A y6F y6B y6E)
end
def zA9 (l1:List Int):Nat->Int->(List CV)->Option ((List CV))
| 0,_,_=>none
| k+1,x6,l7 =>
 bif decide (x6<(l1.length:Int)) then (
  (at? l1 x6).bind fun e9 =>
  (zAX e9).bind fun⟨y11A,y11F,y11B,y11E⟩ =>
  req (l7.length + [CV.mk y11A y11F y11B y11E].length<=4294967296) <|
  zA9 l1 k (IntKind.i64.wrap (x6+1)) (l7++[CV.mk y11A y11F y11B y11E])
 ) else (
  some l7
 )
def zDq (n:Nat):(List Int)->Option CV
| l1 =>
 (zBg ).bind fun⟨y2A,y2F,y2B,y2E⟩ =>
 (zA9 l1 n 0 y2E).bind fun l8 =>
 some (CV.mk y2A y2F y2B l8)
def zCr (n:Nat):(List Int)->Option CV
| l1 =>
 (zDq n l1).bind fun⟨y2A,y2F,y2B,y2E⟩ =>
 some (CV.mk y2A y2F y2B y2E)
def zDZ (n:Nat):zO8->Option CV
| ⟨op1A,op1N,op1I,op1M,op1G,op1L,op1O,op1B⟩ =>
 (zBP n op1G).bind fun⟨y2A,y2F,y2B,y2E⟩ =>
 (zAX op1A).bind fun⟨y3A,y3F,y3B,y3E⟩ =>
 (zCr n op1N).bind fun⟨y4A,y4F,y4B,y4E⟩ =>
 (zAX op1I).bind fun⟨y5A,y5F,y5B,y5E⟩ =>
 (zAX op1M).bind fun⟨y6A,y6F,y6B,y6E⟩ =>
 (zAX op1L).bind fun⟨y7A,y7F,y7B,y7E⟩ =>
 (zCR op1O).bind fun⟨y8A,y8F,y8B,y8E⟩ =>
 (zCR op1B).bind fun⟨y9A,y9F,y9B,y9E⟩ =>
 (zBQ [CV.mk y3A y3F y3B y3E,CV.mk y4A y4F y4B y4E,CV.mk y5A y5F y5B y5E,CV.mk y6A y6F y6B y6E,CV.mk y2A y2F y2B y2E,CV.mk y7A y7F y7B y7E,CV.mk y8A y8F y8B y8E,CV.mk y9A y9F y9B y9E]).bind fun⟨y11A,y11F,y11B,y11E⟩ =>
 some (CV.mk y11A y11F y11B y11E)
def zBk (n:Nat) (l1:List zO8):Nat->Int->(List CV)->Option ((List CV))
| 0,_,_=>none
| k+1,x6,l7 =>
 bif decide (x6<(l1.length:Int)) then (
  (at? l1 x6).bind fun⟨e9A,e9N,e9I,e9M,e9G,e9L,e9O,e9B⟩ =>
  (zDZ n (e9A,e9N,e9I,e9M,e9G,e9L,e9O,e9B)).bind fun⟨y11A,y11F,y11B,y11E⟩ =>
  req (l7.length + [CV.mk y11A y11F y11B y11E].length<=4294967296) <|
  zBk n l1 k (IntKind.i64.wrap (x6+1)) (l7++[CV.mk y11A y11F y11B y11E])
 ) else (
  some l7
 )
def zDY (n:Nat):(List zO8)->Option CV
| l1 =>
 (zBg ).bind fun⟨y2A,y2F,y2B,y2E⟩ =>
 (zBk n l1 n 0 y2E).bind fun l8 =>
 some (CV.mk y2A y2F y2B l8)
def zBM (n:Nat):zCu->Option CV
| ⟨c1Ai,c1Ah⟩ =>
 (zCr n c1Ai).bind fun⟨y2A,y2F,y2B,y2E⟩ =>
 (zCr n c1Ah).bind fun⟨y3A,y3F,y3B,y3E⟩ =>
 (zBQ [CV.mk y2A y2F y2B y2E,CV.mk y3A y3F y3B y3E]).bind fun⟨y5A,y5F,y5B,y5E⟩ =>
 some (CV.mk y5A y5F y5B y5E)
def zCl (n:Nat):zRc->Option CV
| ⟨r1P,⟨r1Ab,r1Ac⟩,⟨r1Ad,r1Ae⟩⟩ =>
 (zDY n r1P).bind fun⟨y2A,y2F,y2B,y2E⟩ =>
 (zBM n (r1Ab,r1Ac)).bind fun⟨y3A,y3F,y3B,y3E⟩ =>
 (zBM n (r1Ad,r1Ae)).bind fun⟨y4A,y4F,y4B,y4E⟩ =>
 (zBQ [CV.mk y2A y2F y2B y2E,CV.mk y3A y3F y3B y3E,CV.mk y4A y4F y4B y4E]).bind fun⟨y6A,y6F,y6B,y6E⟩ =>
 some (CV.mk y6A y6F y6B y6E)
def zAQ (n:Nat) (l1:List zRc):Nat->Int->(List CV)->Option ((List CV))
| 0,_,_=>none
| k+1,x6,l7 =>
 bif decide (x6<(l1.length:Int)) then (
  (at? l1 x6).bind fun⟨e9P,⟨e9Ab,e9Ac⟩,⟨e9Ad,e9Ae⟩⟩ =>
  (zCl n (e9P,(e9Ab,e9Ac),(e9Ad,e9Ae))).bind fun⟨y11A,y11F,y11B,y11E⟩ =>
  req (l7.length + [CV.mk y11A y11F y11B y11E].length<=4294967296) <|
  zAQ n l1 k (IntKind.i64.wrap (x6+1)) (l7++[CV.mk y11A y11F y11B y11E])
 ) else (
  some l7
 )
def zDi (n:Nat):(List zRc)->Option CV
| l1 =>
 (zBg ).bind fun⟨y2A,y2F,y2B,y2E⟩ =>
 (zAQ n l1 n 0 y2E).bind fun l8 =>
 some (CV.mk y2A y2F y2B l8)
def zBU (n:Nat):(List UInt8×Nd×List zRc×Int)->Option CV
| ⟨d1V,⟨d1Q,d1R,d1S,d1T⟩,d1H,d1W⟩ =>
 (zCR d1V).bind fun⟨y2A,y2F,y2B,y2E⟩ =>
 (zA1 n (Nd.mk d1Q d1R d1S d1T)).bind fun⟨y3A,y3F,y3B,y3E⟩ =>
 (zAX d1W).bind fun⟨y4A,y4F,y4B,y4E⟩ =>
 (zDi n d1H).bind fun⟨y5A,y5F,y5B,y5E⟩ =>
 (zBQ [CV.mk y2A y2F y2B y2E,CV.mk y3A y3F y3B y3E,CV.mk y4A y4F y4B y4E,CV.mk y5A y5F y5B y5E]).bind fun⟨y7A,y7F,y7B,y7E⟩ =>
 some (CV.mk y7A y7F y7B y7E)
def zCq (y7:Int):Nat->Int->(List UInt8)->Option ((List UInt8))
| 0,_,_=>none
| k+1,shift9,l10 =>
 bif decide (0<=shift9) then (
  req (0<=shift9) <|
  req (l10.length + [b8of (IntKind.u8.wrap (y7.fdiv (2 ^ (min shift9.toNat IntKind.u64.bits))))].length<=4294967296) <|
  zCq y7 k (IntKind.i64.wrap (shift9 - 8)) (l10++[b8of (IntKind.u8.wrap (y7.fdiv (2 ^ (min shift9.toNat IntKind.u64.bits))))])
 ) else (
  some l10
 )
def zDo (n:Nat):(List UInt8×Nd×List zRc×Int)->Option ((List UInt8)×Int)
| ⟨d1V,⟨d1Q,d1R,d1S,d1T⟩,d1H,d1W⟩ =>
 (zDp n (d1V,Nd.mk d1Q d1R d1S d1T,d1H,d1W)).bind fun y2 =>
 bif (!y2) then (
  some ([],1)
 ) else (
  (zBU n (d1V,Nd.mk d1Q d1R d1S d1T,d1H,d1W)).bind fun⟨y3A,y3F,y3B,y3E⟩ =>
  (zC6 n (CV.mk y3A y3F y3B y3E)).bind fun⟨y4,y5⟩ =>
  bif (y5 != 0) then (
   some ([],6)
  ) else (
   req (0<=(0:Int)/\(0:Int)<=(IntKind.i64.wrap (12+(y4.length:Int)))/\(IntKind.i64.wrap (12+(y4.length:Int)))<=4294967296) <|
   req ((List.replicate (0:Int).toNat (b8of 0)).length + [86,67,76,49].length<=4294967296) <|
   (zC8 n y4).bind fun y7 =>
   (zCq y7 n 56 ((List.replicate (0:Int).toNat (b8of 0))++[86,67,76,49])).bind fun l11 =>
   req (l11.length+y4.length<=4294967296) <|
   some (l11++y4,0)
  )
 )
def zEH (n:Nat):Option Bool
:=
 (zDo n ([],Nd.mk 1 [] 0 [],[],0)).bind fun⟨y1,y2⟩ =>
 (
  bif (y2 == 0) then (
   bif ((y1.length:Int) == 20) then (
    req (0<=(12:Int)/\(12:Int)<=(y1.length:Int)/\(y1.length:Int)<=(y1.length:Int)) <|
    some (((y1.take (y1.length:Int).toNat).drop (12:Int).toNat) == [196,128,195,66,128,64,64,192])
   ) else (
    some false
   )
  ) else (
   some false
  )
  : Option (Bool)).bind fun x3 =>
 some x3
def zDA (n:Nat) (e4P:List zO8):Nat->Int->Option (Fl Bool Unit)
| 0,_=>none
| k+1,x12 =>
 bif decide (x12<(e4P.length:Int)) then (
  (at? e4P x12).bind fun⟨e14A,e14N,e14I,e14M,e14G,e14L,e14O,e14B⟩ =>
  (zHW n (e14A,e14N,e14I,e14M,e14G,e14L,e14O,e14B)).bind fun y16 =>
  bif (!y16) then (
   some (.ret false)
  ) else (
   zDA n e4P k (IntKind.i64.wrap (x12+1))
  )
 ) else (
  some (.go ())
 )
def zCN (n:Nat) (a1H:List zRc):Nat->Int->Option (Fl Bool Unit)
| 0,_=>none
| k+1,x2 =>
 bif decide (x2<(a1H.length:Int)) then (
  (at? a1H x2).bind fun⟨e4P,⟨e4Ab,e4Ac⟩,⟨e4Ad,e4Ae⟩⟩ =>
  (
   bif decide (8<(e4P.length:Int)) then (
    some true
   ) else (
    some (decide (200<(IntKind.i64.wrap ((IntKind.i64.wrap ((IntKind.i64.wrap ((e4Ab.length:Int)+(e4Ac.length:Int)))+(e4Ad.length:Int)))+(e4Ae.length:Int)))))
   )
   : Option (Bool)).bind fun x6 =>
  bif x6 then (
   some (.ret false)
  ) else (
   (zDA n e4P n 0).bind fun fl=>match fl with
   | .ret r=>some (.ret r)
   | .go _ =>
    zCN n a1H k (IntKind.i64.wrap (x2+1))
  )
 ) else (
  some (.go ())
 )
def zHX (n:Nat):(List UInt8×Nd×List zRc×Int)->Option Bool
| ⟨a1V,⟨a1Q,a1R,a1S,a1T⟩,a1H,a1W⟩ =>
 (zCN n a1H n 0).bind fun fl=>match fl with
 | .ret r=>some r
 | .go _ =>
  (
   (zGZ n (Nd.mk a1Q a1R a1S a1T) 200).bind fun y18 =>
   bif y18 then (
    bif decide ((a1H.length:Int)<=20) then (
     some (decide ((a1V.length:Int)<=300))
    ) else (
     some false
    )
   ) else (
    some false
   )
   : Option (Bool)).bind fun x17 =>
  some x17
def zDC (n:Nat):Nd->zCu->Option Bool
| ⟨n1A,n1B,n1D,n1C⟩,⟨c2Ai,c2Ah⟩ =>
 (
  (zD4 n (Nd.mk n1A n1B n1D n1C) c2Ai).bind fun y4 =>
  bif y4 then (
   bif ((c2Ah.length:Int) == 0) then (
    some true
   ) else (
    (zD4 n (Nd.mk n1A n1B n1D n1C) c2Ah).bind fun y6 =>
    some y6
   )
  ) else (
   some false
  )
  : Option (Bool)).bind fun x3 =>
 some x3
def zCz (n:Nat) (a1H:List zRc):Nat->Int->(List UInt8)->Int->(List Nd)->Int->Option (Fl Bool Unit)
| 0,_,_,_,_,_=>none
| k+1,x7,x8,x9,x10,x11 =>
 bif decide (x11<(a1H.length:Int)) then (
  (at? a1H x11).bind fun⟨e13P,⟨e13Ab,e13Ac⟩,⟨e13Ad,e13Ae⟩⟩ =>
  (zDa n (Nd.mk x7 x8 x9 x10) e13P).bind fun⟨⟨y15A,y15B,y15D,y15C⟩,y16,y17⟩ =>
  (
   bif (y17 != 0) then (
    some true
   ) else (
    (zDC n (Nd.mk x7 x8 x9 x10) (e13Ab,e13Ac)).bind fun y19 =>
    bif (!y19) then (
     some true
    ) else (
     (zDC n (Nd.mk y15A y15B y15D y15C) (e13Ad,e13Ae)).bind fun y20 =>
     some (!y20)
    )
   )
   : Option (Bool)).bind fun x18 =>
  bif x18 then (
   some (.ret false)
  ) else (
   zCz n a1H k y15A y15B y15D y15C (IntKind.i64.wrap (x11+1))
  )
 ) else (
  some (.go ())
 )
def zDB (n:Nat):(List UInt8×Nd×List zRc×Int)->Option Bool
| ⟨a1V,⟨a1Q,a1R,a1S,a1T⟩,a1H,a1W⟩ =>
 (
  bif decide (200<(a1V.length:Int)) then (
   some true
  ) else (
   (zCG n a1V).bind fun y3 =>
   bif (!y3) then (
    some true
   ) else (
    (zA6 n (Nd.mk a1Q a1R a1S a1T)).bind fun y4 =>
    bif (!y4) then (
     some true
    ) else (
     bif decide (1000<(a1H.length:Int)) then (
      some true
     ) else (
      bif decide (a1W<0) then (
       some true
      ) else (
       some (decide ((a1H.length:Int)<a1W))
      )
     )
    )
   )
  )
  : Option (Bool)).bind fun x2 =>
 bif x2 then (
  some false
 ) else (
  (zCz n a1H n a1Q a1R a1S a1T 0).bind fun fl=>match fl with
  | .ret r=>some r
  | .go _ =>
   some true
 )
def zBm:(List CV)->Option CV
| l1 =>
 some (CV.mk 3 0 [] l1)
def zBb:Int->Option CV
| n1 =>
 some (CV.mk 1 n1 [] [])
def zBu (l1:List Int):Nat->Int->(List CV)->Option ((List CV))
| 0,_,_=>none
| k+1,i4,l5 =>
 bif decide (i4<(l1.length:Int)) then (
  (at? l1 i4).bind fun e8 =>
  (zBb e8).bind fun⟨y10A,y10F,y10B,y10E⟩ =>
  req (l5.length + [CV.mk y10A y10F y10B y10E].length<=4294967296) <|
  zBu l1 k (IntKind.i64.wrap (i4+1)) (l5++[CV.mk y10A y10F y10B y10E])
 ) else (
  some l5
 )
def zCW (n:Nat):(List Int)->Option CV
| l1 =>
 (zBu l1 n 0 []).bind fun l6 =>
 (zBm l6).bind fun⟨y12A,y12F,y12B,y12E⟩ =>
 some (CV.mk y12A y12F y12B y12E)
def zDM:(List UInt8)->Option CV
| s1 =>
 some (CV.mk 2 0 s1 [])
def zB1 (F_r56_tree:Nd->Option CV) (l1:List Nd):Nat->Int->(List CV)->Option ((List CV))
| 0,_,_=>none
| k+1,i3,l4 =>
 bif decide (i3<(l1.length:Int)) then (
  (at? l1 i3).bind fun⟨e7A,e7B,e7D,e7C⟩ =>
  (F_r56_tree (Nd.mk e7A e7B e7D e7C)).bind fun⟨y9A,y9F,y9B,y9E⟩ =>
  req (l4.length + [CV.mk y9A y9F y9B y9E].length<=4294967296) <|
  zB1 F_r56_tree l1 k (IntKind.i64.wrap (i3+1)) (l4++[CV.mk y9A y9F y9B y9E])
 ) else (
  some l4
 )
mutual
def zDb:Nat->Nd->Option CV
| 0,_=>none
| n+1,⟨n1A,n1B,n1D,n1C⟩ =>
 (zBb n1A).bind fun⟨y2A,y2F,y2B,y2E⟩ =>
 (zDM n1B).bind fun⟨y3A,y3F,y3B,y3E⟩ =>
 (zBb n1D).bind fun⟨y4A,y4F,y4B,y4E⟩ =>
 (zD5 n n1C).bind fun y5 =>
 req ([CV.mk y2A y2F y2B y2E,CV.mk y3A y3F y3B y3E,CV.mk y4A y4F y4B y4E].length+y5.length<=4294967296) <|
 (zBm ([CV.mk y2A y2F y2B y2E,CV.mk y3A y3F y3B y3E,CV.mk y4A y4F y4B y4E]++y5)).bind fun⟨y6A,y6F,y6B,y6E⟩ =>
 some (CV.mk y6A y6F y6B y6E)
def zD5:Nat->(List Nd)->Option (List CV)
| 0,_=>none
| n+1,l1 =>
 (zB1 (zDb n) l1 n 0 []).bind fun l5 =>
 some l5
end
def zEN (n:Nat):zCu->Option CV
| ⟨c1Ai,c1Ah⟩ =>
 (zCW n c1Ai).bind fun⟨y2A,y2F,y2B,y2E⟩ =>
 (zCW n c1Ah).bind fun⟨y3A,y3F,y3B,y3E⟩ =>
 (zBm [CV.mk y2A y2F y2B y2E,CV.mk y3A y3F y3B y3E]).bind fun⟨y5A,y5F,y5B,y5E⟩ =>
 some (CV.mk y5A y5F y5B y5E)
def zBI (n:Nat) (r1P:List zO8):Nat->Int->(List CV)->Option ((List CV))
| 0,_,_=>none
| k+1,i4,l5 =>
 bif decide (i4<(r1P.length:Int)) then (
  (at? r1P i4).bind fun⟨e8A,e8N,e8I,e8M,e8G,e8L,e8O,e8B⟩ =>
  (zBb e8A).bind fun⟨y10A,y10F,y10B,y10E⟩ =>
  (zCW n e8N).bind fun⟨y11A,y11F,y11B,y11E⟩ =>
  (zBb e8I).bind fun⟨y12A,y12F,y12B,y12E⟩ =>
  (zBb e8M).bind fun⟨y13A,y13F,y13B,y13E⟩ =>
  (zD5 n e8G).bind fun y14 =>
  (zBm y14).bind fun⟨y15A,y15F,y15B,y15E⟩ =>
  (zBb e8L).bind fun⟨y16A,y16F,y16B,y16E⟩ =>
  (zDM e8O).bind fun⟨y17A,y17F,y17B,y17E⟩ =>
  (zDM e8B).bind fun⟨y18A,y18F,y18B,y18E⟩ =>
  (zBm [CV.mk y10A y10F y10B y10E,CV.mk y11A y11F y11B y11E,CV.mk y12A y12F y12B y12E,CV.mk y13A y13F y13B y13E,CV.mk y15A y15F y15B y15E,CV.mk y16A y16F y16B y16E,CV.mk y17A y17F y17B y17E,CV.mk y18A y18F y18B y18E]).bind fun⟨y20A,y20F,y20B,y20E⟩ =>
  req (l5.length + [CV.mk y20A y20F y20B y20E].length<=4294967296) <|
  zBI n r1P k (IntKind.i64.wrap (i4+1)) (l5++[CV.mk y20A y20F y20B y20E])
 ) else (
  some l5
 )
def zFb (n:Nat):zRc->Option CV
| ⟨r1P,⟨r1Ab,r1Ac⟩,⟨r1Ad,r1Ae⟩⟩ =>
 (zBI n r1P n 0 []).bind fun l6 =>
 (zBm l6).bind fun⟨y22A,y22F,y22B,y22E⟩ =>
 (zEN n (r1Ab,r1Ac)).bind fun⟨y23A,y23F,y23B,y23E⟩ =>
 (zEN n (r1Ad,r1Ae)).bind fun⟨y24A,y24F,y24B,y24E⟩ =>
 (zBm [CV.mk y22A y22F y22B y22E,CV.mk y23A y23F y23B y23E,CV.mk y24A y24F y24B y24E]).bind fun⟨y26A,y26F,y26B,y26E⟩ =>
 some (CV.mk y26A y26F y26B y26E)
def zB2 (n:Nat) (d1H:List zRc):Nat->Int->(List CV)->Option ((List CV))
| 0,_,_=>none
| k+1,i4,l5 =>
 bif decide (i4<(d1H.length:Int)) then (
  (at? d1H i4).bind fun⟨e8P,⟨e8Ab,e8Ac⟩,⟨e8Ad,e8Ae⟩⟩ =>
  (zFb n (e8P,(e8Ab,e8Ac),(e8Ad,e8Ae))).bind fun⟨y10A,y10F,y10B,y10E⟩ =>
  req (l5.length + [CV.mk y10A y10F y10B y10E].length<=4294967296) <|
  zB2 n d1H k (IntKind.i64.wrap (i4+1)) (l5++[CV.mk y10A y10F y10B y10E])
 ) else (
  some l5
 )
def zF2 (n:Nat):(List UInt8×Nd×List zRc×Int)->Option CV
| ⟨d1V,⟨d1Q,d1R,d1S,d1T⟩,d1H,d1W⟩ =>
 (zB2 n d1H n 0 []).bind fun l6 =>
 (zDM d1V).bind fun⟨y12A,y12F,y12B,y12E⟩ =>
 (zDb n (Nd.mk d1Q d1R d1S d1T)).bind fun⟨y13A,y13F,y13B,y13E⟩ =>
 (zBb d1W).bind fun⟨y14A,y14F,y14B,y14E⟩ =>
 (zBm l6).bind fun⟨y15A,y15F,y15B,y15E⟩ =>
 (zBm [CV.mk y12A y12F y12B y12E,CV.mk y13A y13F y13B y13E,CV.mk y14A y14F y14B y14E,CV.mk y15A y15F y15B y15E]).bind fun⟨y17A,y17F,y17B,y17E⟩ =>
 some (CV.mk y17A y17F y17B y17E)
def zEM (n:Nat):(List UInt8×Nd×List zRc×Int)->Option ((List UInt8)×Int)
| ⟨d1V,⟨d1Q,d1R,d1S,d1T⟩,d1H,d1W⟩ =>
 (zDB n (d1V,Nd.mk d1Q d1R d1S d1T,d1H,d1W)).bind fun y2 =>
 bif (!y2) then (
  some ([],1)
 ) else (
  (zF2 n (d1V,Nd.mk d1Q d1R d1S d1T,d1H,d1W)).bind fun⟨y3A,y3F,y3B,y3E⟩ =>
  (zCn n (CV.mk y3A y3F y3B y3E)).bind fun y4 =>
  bif decide (1048576<(y4.length:Int)) then (
   some ([],6)
  ) else (
   (zEJ n y4).bind fun y6 =>
   (zHf n y6).bind fun y7 =>
   req ([b8of 86,b8of 67,b8of 76,b8of 49].length+y7.length<=4294967296) <|
   req (([b8of 86,b8of 67,b8of 76,b8of 49]++y7).length+y4.length<=4294967296) <|
   some (([b8of 86,b8of 67,b8of 76,b8of 49]++y7)++y4,0)
  )
 )
def zDr (n:Nat):(List UInt8×Nd×List zRc×Int)->Option Bool
| ⟨d1V,⟨d1Q,d1R,d1S,d1T⟩,d1H,d1W⟩ =>
 (
  (zEH n ).bind fun y3 =>
  bif (!y3) then (
   some true
  ) else (
   (zHX n (d1V,Nd.mk d1Q d1R d1S d1T,d1H,d1W)).bind fun y4 =>
   some (!y4)
  )
  : Option (Bool)).bind fun x2 =>
 bif x2 then (
  (zEH n ).bind fun y5 =>
  some y5
 ) else (
  (zDo n (d1V,Nd.mk d1Q d1R d1S d1T,d1H,d1W)).bind fun⟨y6,y7⟩ =>
  (zEM n (d1V,Nd.mk d1Q d1R d1S d1T,d1H,d1W)).bind fun⟨y8,y9⟩ =>
  (
   bif (y7 == y9) then (
    bif (y6 == y8) then (
     (zDp n (d1V,Nd.mk d1Q d1R d1S d1T,d1H,d1W)).bind fun y13 =>
     (zDB n (d1V,Nd.mk d1Q d1R d1S d1T,d1H,d1W)).bind fun y14 =>
     some (y13 == y14)
    ) else (
     some false
    )
   ) else (
    some false
   )
   : Option (Bool)).bind fun x10 =>
  some x10
 )
end Go.Proofs.YtgplhldfbkmmgaaGreat
