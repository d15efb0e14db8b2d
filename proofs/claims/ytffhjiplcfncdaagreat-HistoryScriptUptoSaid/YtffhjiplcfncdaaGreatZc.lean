/-
  Joined out of: MNod, MCnt, AbsS, AbsT, AbsU, AbsV, AbsW, AbsX, MOwn, HzA, LibS, LibD, LibF, MNoe, MEd, MEh, MEe, MEi, MEj, MDe, MHi, MHs.
-/
import Derived.Test.YtffhjiplcfncdaaGreatProg
import Derived.KernelRfl
import Derived.Lib.Strings
import Derived.Lib.Slices
import Derived.Lib.Walk
import Derived.Lib.Bytealg
import Derived.Test.YtffhjiplcfncdaaGreatZb
set_option linter.unusedVariables false
set_option linter.unusedSimpArgs false
set_option maxHeartbeats 2000000
set_option maxRecDepth 100000
namespace Go.Proofs.YtffhjiplcfncdaaGreat
open Go.Abs
def zB3:(List UInt8)->Option Bool
| s1 =>
 some (s1 == [])
def zBr (s1:List UInt8):Nat->Int->Option (Fl Bool Unit)
| 0,_=>none
| k+1,i2 =>
 bif decide (i2<(s1.length:Int)) then (
  (at? s1 i2).bind fun c3 =>
  (
   bif decide ((zMi .or .u8 (c3.toNat:Int) 32)<97) then (
    some true
   ) else (
    some (decide (122<(zMi .or .u8 (c3.toNat:Int) 32)))
   )
   : Option (Bool)).bind fun x5 =>
  bif x5 then (
   some (.ret false)
  ) else (
   zBr s1 k (IntKind.i64.wrap (i2+1))
  )
 ) else (
  some (.go ())
 )
def zC8 (n:Nat):(List UInt8)->Option Bool
| s1 =>
 (zBr s1 n 0).bind fun fl=>match fl with
 | .ret r=>some r
 | .go _ =>
  some true
def zD3:(List UInt8)->Option Bool
| s1 =>
 (
  (
   bif (s1 == [102,114,97,99]) then (
    some (s1 == [102,114,97,99])
   ) else (
    bif (s1 == [114,111,111,116]) then (
     some (s1 == [114,111,111,116])
    ) else (
     bif (s1 == [109,97,116,114,105,120]) then (
      some (s1 == [109,97,116,114,105,120])
     ) else (
      some (s1 == [102,101,110,99,101])
     )
    )
   )
   : Option (Bool)).bind fun x2 =>
  bif x2 then (
   some (.ret true)
  ) else (
   some (.go ())
  )
  : Option (Fl Bool Unit)).bind fun fl=>match fl with
 | .ret r=>some r
 | .go _ =>
  some false
def zDI:(List UInt8)->Option Bool
| s1 =>
 (
  (
   bif (s1 == [104,97,116]) then (
    some (s1 == [104,97,116])
   ) else (
    bif (s1 == [98,97,114]) then (
     some (s1 == [98,97,114])
    ) else (
     bif (s1 == [118,101,99]) then (
      some (s1 == [118,101,99])
     ) else (
      bif (s1 == [100,111,116]) then (
       some (s1 == [100,111,116])
      ) else (
       bif (s1 == [116,105,108,100,101]) then (
        some (s1 == [116,105,108,100,101])
       ) else (
        some (s1 == [99,104,101,99,107])
       )
      )
     )
    )
   )
   : Option (Bool)).bind fun x2 =>
  bif x2 then (
   some (.ret true)
  ) else (
   some (.go ())
  )
  : Option (Fl Bool Unit)).bind fun fl=>match fl with
 | .ret r=>some r
 | .go _ =>
  some false
def zEz (n:Nat):(List UInt8)->Option Bool
| s1 =>
 bif ((s1.length:Int) == 1) then (
  (
   (zC8 n s1).bind fun y3 =>
   bif y3 then (
    some true
   ) else (
    (zEB [43,45,42,47,61,60,62,44,59,58,33,124,39,63,126,64] s1).bind fun y4 =>
    some y4
   )
   : Option (Bool)).bind fun x2 =>
  some x2
 ) else (
  (
   bif decide (2<=(s1.length:Int)) then (
    bif decide ((s1.length:Int)<=16) then (
     (zC8 n s1).bind fun y6 =>
     bif y6 then (
      (zD3 s1).bind fun y7 =>
      bif (!y7) then (
       (zDI s1).bind fun y8 =>
       some (!y8)
      ) else (
       some false
      )
     ) else (
      some false
     )
    ) else (
     some false
    )
   ) else (
    some false
   )
   : Option (Bool)).bind fun x5 =>
  some x5
 )
def zCJ:(List UInt8)->(List UInt8)->Option ((List UInt8)×(List UInt8)×Bool)
| s1,sep2 =>
 (zEb s1 sep2).bind fun y3 =>
 bif decide (0<=y3) then (
  req (0<=(0:Int)/\(0:Int)<=y3/\y3<=(s1.length:Int)) <|
  req (0<=(IntKind.i64.wrap (y3+(sep2.length:Int)))/\(IntKind.i64.wrap (y3+(sep2.length:Int)))<=(s1.length:Int)/\(s1.length:Int)<=(s1.length:Int)) <|
  some ((s1.take y3.toNat).drop (0:Int).toNat,(s1.take (s1.length:Int).toNat).drop (IntKind.i64.wrap (y3+(sep2.length:Int))).toNat,true)
 ) else (
  some (s1,[],false)
 )
def zEC:(List UInt8)->(List UInt8)->Option ((List UInt8)×(List UInt8)×Bool)
| s1,sep2 =>
 (zCJ s1 sep2).bind fun⟨y3,y4,y5⟩ =>
 some (y3,y4,y5)
def zBz (s1:List UInt8):Nat->Int->Option (Fl Bool Unit)
| 0,_=>none
| k+1,i2 =>
 bif decide (i2<(s1.length:Int)) then (
  (
   (at? s1 i2).bind fun c4 =>
   bif decide ((c4.toNat:Int)<48) then (
    some true
   ) else (
    (at? s1 i2).bind fun c6 =>
    some (decide (57<(c6.toNat:Int)))
   )
   : Option (Bool)).bind fun x3 =>
  bif x3 then (
   some (.ret false)
  ) else (
   zBz s1 k (IntKind.i64.wrap (i2+1))
  )
 ) else (
  some (.go ())
 )
def zDJ (n:Nat):(List UInt8)->Option Bool
| s1 =>
 (zBz s1 n 0).bind fun fl=>match fl with
 | .ret r=>some r
 | .go _ =>
  some (!(s1 == []))
def zDH (n:Nat):(List UInt8)->Option Bool
| s1 =>
 (zEC s1 [46]).bind fun⟨y2,y3,y4⟩ =>
 (
  bif decide ((s1.length:Int)<=20) then (
   (zDJ n y2).bind fun y6 =>
   bif y6 then (
    bif (!y4) then (
     some true
    ) else (
     (zDJ n y3).bind fun y7 =>
     some y7
    )
   ) else (
    some false
   )
  ) else (
   some false
  )
  : Option (Bool)).bind fun x5 =>
 some x5
def zBJ (s1:List UInt8):Nat->Int->Option (Fl Bool Unit)
| 0,_=>none
| k+1,i2 =>
 bif decide (i2<(s1.length:Int)) then (
  (
   (at? s1 i2).bind fun c4 =>
   bif decide ((c4.toNat:Int)<32) then (
    some true
   ) else (
    (at? s1 i2).bind fun c6 =>
    some (decide (126<(c6.toNat:Int)))
   )
   : Option (Bool)).bind fun x3 =>
  bif x3 then (
   some (.ret false)
  ) else (
   zBJ s1 k (IntKind.i64.wrap (i2+1))
  )
 ) else (
  some (.go ())
 )
def zFg (n:Nat):(List UInt8)->Option Bool
| s1 =>
 (zBJ s1 n 0).bind fun fl=>match fl with
 | .ret r=>some r
 | .go _ =>
  some (decide ((s1.length:Int)<=200))
def zFf:(List UInt8)->Option Bool
| s1 =>
 (
  bif ((s1.length:Int) == 2) then (
   (at? s1 0).bind fun c3 =>
   (zC0 [40,41,91,93,123,125,60,62,47,124,46] (c3.toNat:Int)).bind fun y5 =>
   bif decide (0<=y5) then (
    (at? s1 1).bind fun c6 =>
    (zC0 [40,41,91,93,123,125,60,62,47,124,46] (c6.toNat:Int)).bind fun y8 =>
    some (decide (0<=y8))
   ) else (
    some false
   )
  ) else (
   some false
  )
  : Option (Bool)).bind fun x2 =>
 some x2
def zGy:Option Unit
:=
 some ()
def zCp (n:Nat):(Unit×Int)->Nd->Option (Bool×(Unit×Int))
| ⟨_,o1R⟩,⟨a2A,a2C,a2D,a2B⟩ =>
 (
  bif decide (a2A<1) then (
   some true
  ) else (
   bif decide (12<a2A) then (
    some true
   ) else (
    bif (a2A == 1) then (
     (zB3 a2C).bind fun y4 =>
     some (!y4)
    ) else (
     bif (a2A == 2) then (
      (zEz n a2C).bind fun y5 =>
      some (!y5)
     ) else (
      bif (a2A == 3) then (
       (zDH n a2C).bind fun y6 =>
       some (!y6)
      ) else (
       bif (a2A == 4) then (
        (zFg n a2C).bind fun y7 =>
        some (!y7)
       ) else (
        bif (a2A == 5) then (
         (zB3 a2C).bind fun y8 =>
         some (!y8)
        ) else (
         bif (a2A == 6) then (
          (zB3 a2C).bind fun y9 =>
          some (!y9)
         ) else (
          bif (a2A == 7) then (
           (zB3 a2C).bind fun y10 =>
           some (!y10)
          ) else (
           bif (a2A == 8) then (
            (zB3 a2C).bind fun y11 =>
            some (!y11)
           ) else (
            bif (a2A == 9) then (
             (zB3 a2C).bind fun y12 =>
             some (!y12)
            ) else (
             bif (a2A == 10) then (
              (zDI a2C).bind fun y13 =>
              some (!y13)
             ) else (
              bif (a2A == 11) then (
               (zFf a2C).bind fun y14 =>
               some (!y14)
              ) else (
               bif (a2A == 12) then (
                (zB3 a2C).bind fun y15 =>
                some (!y15)
               ) else (
                none
               )
              )
             )
            )
           )
          )
         )
        )
       )
      )
     )
    )
   )
  )
  : Option (Bool)).bind fun x3 =>
 bif x3 then (
  some (false,((),o1R))
 ) else (
  bif (a2A == 1) then (
   (
    bif (a2D == 0) then (
     some (decide ((a2B.length:Int)<=200))
    ) else (
     some false
    )
    : Option (Bool)).bind fun x16 =>
   some (x16,((),o1R))
  ) else (
   bif (a2A == 12) then (
    (
     bif decide (1<=a2D) then (
      bif decide (a2D<=16) then (
       bif decide (1<=(a2B.length:Int)) then (
        bif decide ((a2B.length:Int)<=256) then (
         req (a2D ≠ 0) <|
         some (((a2B.length:Int).tmod a2D) == 0)
        ) else (
         some false
        )
       ) else (
        some false
       )
      ) else (
       some false
      )
     ) else (
      some false
     )
     : Option (Bool)).bind fun x18 =>
    some (x18,((),o1R))
   ) else (
    (
     bif (a2D == 0) then (
      bif (a2A == 1) then (
       some ((a2B.length:Int) == 0)
      ) else (
       bif (a2A == 2) then (
        some ((a2B.length:Int) == 0)
       ) else (
        bif (a2A == 3) then (
         some ((a2B.length:Int) == 0)
        ) else (
         bif (a2A == 4) then (
          some ((a2B.length:Int) == 0)
         ) else (
          bif (a2A == 5) then (
           some ((a2B.length:Int) == 2)
          ) else (
           bif (a2A == 6) then (
            some ((a2B.length:Int) == 2)
           ) else (
            bif (a2A == 7) then (
             some ((a2B.length:Int) == 2)
            ) else (
             bif (a2A == 8) then (
              some ((a2B.length:Int) == 2)
             ) else (
              bif (a2A == 9) then (
               some ((a2B.length:Int) == 3)
              ) else (
               bif (a2A == 10) then (
                some ((a2B.length:Int) == 1)
               ) else (
                bif (a2A == 11) then (
                 some ((a2B.length:Int) == 1)
                ) else (
                 bif (a2A == 12) then (
                  some ((a2B.length:Int) == 0)
                 ) else (
                  none
                 )
                )
               )
              )
             )
            )
           )
          )
         )
        )
       )
      )
     ) else (
      some false
     )
     : Option (Bool)).bind fun x22 =>
    some (x22,((),o1R))
   )
  )
 )
def zAT (F_node_checker_node:(Unit×Int)->Nd->Int->Option (Bool×(Unit×Int))) (a2A:Int) (a2B:List Nd) (a3:Int):Nat->Int->Int->Option (Fl (Bool×(Unit×Int)) (Int))
| 0,_,_=>none
| k+1,x9,x10 =>
 bif decide (x10<(a2B.length:Int)) then (
  (
   (at? a2B x10).bind fun⟨e14A,e14C,e14D,e14B⟩ =>
   bif ((a2A == 1) == (e14A == 1)) then (
    some (true,x9)
   ) else (
    (at? a2B x10).bind fun⟨e16A,e16C,e16D,e16B⟩ =>
    (F_node_checker_node ((),x9) (Nd.mk e16A e16C e16D e16B) (IntKind.i64.wrap (a3+1))).bind fun⟨y18,⟨_,w19R⟩⟩ =>
    some ((!y18),w19R)
   )
   : Option (Bool×Int)).bind fun⟨x12,x13⟩ =>
  bif x12 then (
   some (.ret (false,((),x13)))
  ) else (
   zAT F_node_checker_node a2A a2B a3 k x13 (IntKind.i64.wrap (x10+1))
  )
 ) else (
  some (.go x9)
 )
def zA2:Nat->(Unit×Int)->Nd->Int->Option (Bool×(Unit×Int))
| 0,_,_,_=>none
| n+1,⟨_,o1R⟩,⟨a2A,a2C,a2D,a2B⟩,a3 =>
 (
  bif decide (1000<(IntKind.i64.wrap (o1R+1))) then (
   some (true,IntKind.i64.wrap (o1R+1))
  ) else (
   bif decide (24<a3) then (
    some (true,IntKind.i64.wrap (o1R+1))
   ) else (
    (zCp n ((),IntKind.i64.wrap (o1R+1)) (Nd.mk a2A a2C a2D a2B)).bind fun⟨y6,⟨_,w7R⟩⟩ =>
    some ((!y6),w7R)
   )
  )
  : Option (Bool×Int)).bind fun⟨x4,x5⟩ =>
 bif x4 then (
  some (false,((),x5))
 ) else (
  (zAT (zA2 n) a2A a2B a3 n x5 0).bind fun fl=>match fl with
  | .ret r=>some r
  | .go x11 =>
   some (true,((),x11))
 )
def zA8 (n:Nat):Nd->Option Bool
| ⟨n1A,n1C,n1D,n1B⟩ =>
 (zGy ).bind fun _ =>
 (
  bif (n1A == 1) then (
   (zA2 n ((),0) (Nd.mk n1A n1C n1D n1B) 1).bind fun⟨y4,⟨_,w5R⟩⟩ =>
   some y4
  ) else (
   some false
  )
  : Option (Bool)).bind fun x3 =>
 some x3
def zEn:Int->Option Bool
| c1 =>
 (
  bif decide (97<=c1) then (
   bif decide (c1<=122) then (
    some true
   ) else (
    bif decide (65<=c1) then (
     some (decide (c1<=90))
    ) else (
     some false
    )
   )
  ) else (
   bif decide (65<=c1) then (
    some (decide (c1<=90))
   ) else (
    some false
   )
  )
  : Option (Bool)).bind fun x2 =>
 some x2
def zCL (s1:List UInt8) (c2:Int):Nat->Int->Option (Fl Bool Unit)
| 0,_=>none
| k+1,i3 =>
 bif decide (i3<(s1.length:Int)) then (
  (at? s1 i3).bind fun c4 =>
  bif ((c4.toNat:Int) == c2) then (
   some (.ret true)
  ) else (
   zCL s1 c2 k (IntKind.i64.wrap (i3+1))
  )
 ) else (
  some (.go ())
 )
def zDs (n:Nat):(List UInt8)->Int->Option Bool
| s1,c2 =>
 (zCL s1 c2 n 0).bind fun fl=>match fl with
 | .ret r=>some r
 | .go _ =>
  some false
def zEA (n:Nat):Int->Option Bool
| c1 =>
 (
  (zEn c1).bind fun y3 =>
  bif y3 then (
   some true
  ) else (
   (zDs n [43,45,42,47,61,60,62,44,59,58,33,124,39,63,126,64] c1).bind fun y4 =>
   some y4
  )
  : Option (Bool)).bind fun x2 =>
 some x2
def zE4:Option (List (List UInt8))
:=
 some [[102,114,97,99],[114,111,111,116],[109,97,116,114,105,120],[102,101,110,99,101]]
def zDq (l1:List (List UInt8)) (s2:List UInt8):Nat->Int->Option (Fl Bool Unit)
| 0,_=>none
| k+1,i3 =>
 bif decide (i3<(l1.length:Int)) then (
  (at? l1 i3).bind fun e5 =>
  bif (e5 == s2) then (
   some (.ret true)
  ) else (
   zDq l1 s2 k (IntKind.i64.wrap (i3+1))
  )
 ) else (
  some (.go ())
 )
def zE3 (n:Nat):(List (List UInt8))->(List UInt8)->Option Bool
| l1,s2 =>
 (zDq l1 s2 n 0).bind fun fl=>match fl with
 | .ret r=>some r
 | .go _ =>
  some false
def zDK:Option (List (List UInt8))
:=
 some [[104,97,116],[98,97,114],[118,101,99],[100,111,116],[116,105,108,100,101],[99,104,101,99,107]]
def zBx (s1:List UInt8):Nat->Int->Option (Fl Bool Unit)
| 0,_=>none
| k+1,i5 =>
 bif decide (i5<(s1.length:Int)) then (
  (at? s1 i5).bind fun c6 =>
  (zEn (c6.toNat:Int)).bind fun y8 =>
  bif (!y8) then (
   some (.ret false)
  ) else (
   zBx s1 k (IntKind.i64.wrap (i5+1))
  )
 ) else (
  some (.go ())
 )
def zFj (n:Nat):(List UInt8)->Option Bool
| s1 =>
 bif ((s1.length:Int) == 1) then (
  (at? s1 0).bind fun c2 =>
  (zEA n (c2.toNat:Int)).bind fun y4 =>
  some y4
 ) else (
  (zBx s1 n 0).bind fun fl=>match fl with
  | .ret r=>some r
  | .go _ =>
   (
    bif decide (2<=(s1.length:Int)) then (
     bif decide ((s1.length:Int)<=16) then (
      (zE4 ).bind fun y10 =>
      (zE3 n y10 s1).bind fun y11 =>
      bif (!y11) then (
       (zDK ).bind fun y12 =>
       (zE3 n y12 s1).bind fun y13 =>
       some (!y13)
      ) else (
       some false
      )
     ) else (
      some false
     )
    ) else (
     some false
    )
    : Option (Bool)).bind fun x9 =>
   some x9
 )
def zGc:Int->Option Bool
| c1 =>
 (
  bif decide (48<=c1) then (
   some (decide (c1<=57))
  ) else (
   some false
  )
  : Option (Bool)).bind fun x2 =>
 some x2
def zCc (s1:List UInt8):Nat->Int->Int->Option (Fl Bool (Int))
| 0,_,_=>none
| k+1,points2,i3 =>
 bif decide (i3<(s1.length:Int)) then (
  (
   (
    (at? s1 i3).bind fun c7 =>
    bif ((c7.toNat:Int) == 46) then (
     bif decide (0<i3) then (
      some (decide (i3<(IntKind.i64.wrap ((s1.length:Int) - 1))))
     ) else (
      some false
     )
    ) else (
     some false
    )
    : Option (Bool)).bind fun x6 =>
   bif x6 then (
    some (.go (IntKind.i64.wrap (points2+1)))
   ) else (
    (at? s1 i3).bind fun c9 =>
    (zGc (c9.toNat:Int)).bind fun y11 =>
    bif (!y11) then (
     some (.ret false)
    ) else (
     some (.go points2)
    )
   )
   : Option (Fl Bool (Int))).bind fun fl=>match fl with
  | .ret r=>some (.ret r)
  | .go points5 =>
   zCc s1 k points5 (IntKind.i64.wrap (i3+1))
 ) else (
  some (.go points2)
 )
def zFh (n:Nat):(List UInt8)->Option Bool
| s1 =>
 (zCc s1 n 0 0).bind fun fl=>match fl with
 | .ret r=>some r
 | .go points4 =>
  (
   bif decide (0<(s1.length:Int)) then (
    bif decide ((s1.length:Int)<=20) then (
     some (decide (points4<=1))
    ) else (
     some false
    )
   ) else (
    some false
   )
   : Option (Bool)).bind fun x12 =>
  some x12
def zBk (s1:List UInt8):Nat->Int->Option (Fl Bool Unit)
| 0,_=>none
| k+1,i2 =>
 bif decide (i2<(s1.length:Int)) then (
  (
   (at? s1 i2).bind fun c4 =>
   bif decide ((c4.toNat:Int)<32) then (
    some true
   ) else (
    (at? s1 i2).bind fun c6 =>
    some (decide (126<(c6.toNat:Int)))
   )
   : Option (Bool)).bind fun x3 =>
  bif x3 then (
   some (.ret false)
  ) else (
   zBk s1 k (IntKind.i64.wrap (i2+1))
  )
 ) else (
  some (.go ())
 )
def zDr (n:Nat):(List UInt8)->Option Bool
| s1 =>
 (zBk s1 n 0).bind fun fl=>match fl with
 | .ret r=>some r
 | .go _ =>
  some true
def zG7 (n:Nat):Nd->Option Bool
| ⟨n1A,n1C,n1D,n1B⟩ =>
 bif (n1A == 2) then (
  (zFj n n1C).bind fun y2 =>
  some y2
 ) else (
  bif (n1A == 3) then (
   (zFh n n1C).bind fun y3 =>
   some y3
  ) else (
   bif (n1A == 4) then (
    (
     bif decide ((n1C.length:Int)<=200) then (
      (zDr n n1C).bind fun y5 =>
      some y5
     ) else (
      some false
     )
     : Option (Bool)).bind fun x4 =>
    some x4
   ) else (
    bif (n1A == 10) then (
     (zDK ).bind fun y6 =>
     (zE3 n y6 n1C).bind fun y7 =>
     some y7
    ) else (
     bif (n1A == 11) then (
      (
       bif ((n1C.length:Int) == 2) then (
        (at? n1C 0).bind fun c9 =>
        (zDs n [40,41,91,93,123,125,124,60,62,47,46] (c9.toNat:Int)).bind fun y11 =>
        bif y11 then (
         (at? n1C 1).bind fun c12 =>
         (zDs n [40,41,91,93,123,125,124,60,62,47,46] (c12.toNat:Int)).bind fun y14 =>
         some y14
        ) else (
         some false
        )
       ) else (
        some false
       )
       : Option (Bool)).bind fun x8 =>
      some x8
     ) else (
      some (n1C == [])
     )
    )
   )
  )
 )
def zG6:Nd->Option Bool
| ⟨n1A,n1C,n1D,n1B⟩ =>
 bif (n1A == 12) then (
  (
   bif decide (1<=n1D) then (
    bif decide (n1D<=16) then (
     bif decide (1<=(n1B.length:Int)) then (
      bif decide ((n1B.length:Int)<=256) then (
       req (n1D ≠ 0) <|
       some (((n1B.length:Int).tmod n1D) == 0)
      ) else (
       some false
      )
     ) else (
      some false
     )
    ) else (
     some false
    )
   ) else (
    some false
   )
   : Option (Bool)).bind fun x3 =>
  some x3
 ) else (
  bif (n1D != 0) then (
   some false
  ) else (
   (
    bif (n1A == 1) then (
     some (.ret (decide ((n1B.length:Int)<=200)))
    ) else (
     (
      bif (n1A == 2) then (
       some (n1A == 2)
      ) else (
       bif (n1A == 3) then (
        some (n1A == 3)
       ) else (
        some (n1A == 4)
       )
      )
      : Option (Bool)).bind fun x4 =>
     bif x4 then (
      some (.ret ((n1B.length:Int) == 0))
     ) else (
      (
       bif (n1A == 5) then (
        some (n1A == 5)
       ) else (
        bif (n1A == 6) then (
         some (n1A == 6)
        ) else (
         bif (n1A == 7) then (
          some (n1A == 7)
         ) else (
          some (n1A == 8)
         )
        )
       )
       : Option (Bool)).bind fun x5 =>
      bif x5 then (
       some (.ret ((n1B.length:Int) == 2))
      ) else (
       bif (n1A == 9) then (
        some (.ret ((n1B.length:Int) == 3))
       ) else (
        (
         bif (n1A == 10) then (
          some (n1A == 10)
         ) else (
          some (n1A == 11)
         )
         : Option (Bool)).bind fun x6 =>
        bif x6 then (
         some (.ret ((n1B.length:Int) == 1))
        ) else (
         some (.go ())
        )
       )
      )
     )
    )
    : Option (Fl Bool Unit)).bind fun fl=>match fl with
   | .ret r=>some r
   | .go _ =>
    some false
  )
 )
def zCW (F_r09_form:Nd->Option Bool) (n1A:Int) (n1B:List Nd):Nat->Int->Option (Fl Bool Unit)
| 0,_=>none
| k+1,i5 =>
 bif decide (i5<(n1B.length:Int)) then (
  (
   (at? n1B i5).bind fun⟨e8A,e8C,e8D,e8B⟩ =>
   bif ((e8A == 1) == (n1A == 1)) then (
    some true
   ) else (
    (at? n1B i5).bind fun⟨e10A,e10C,e10D,e10B⟩ =>
    (F_r09_form (Nd.mk e10A e10C e10D e10B)).bind fun y12 =>
    some (!y12)
   )
   : Option (Bool)).bind fun x7 =>
  bif x7 then (
   some (.ret false)
  ) else (
   zCW F_r09_form n1A n1B k (IntKind.i64.wrap (i5+1))
  )
 ) else (
  some (.go ())
 )
def zDL:Nat->Nd->Option Bool
| 0,_=>none
| n+1,⟨n1A,n1C,n1D,n1B⟩ =>
 (
  (zG7 n (Nd.mk n1A n1C n1D n1B)).bind fun y3 =>
  bif (!y3) then (
   some true
  ) else (
   (zG6 (Nd.mk n1A n1C n1D n1B)).bind fun y4 =>
   some (!y4)
  )
  : Option (Bool)).bind fun x2 =>
 bif x2 then (
  some false
 ) else (
  (zCW (zDL n) n1A n1B n 0).bind fun fl=>match fl with
  | .ret r=>some r
  | .go _ =>
   some true
 )
def zCz (F_r09_Count:Nd->Option Int) (n1B:List Nd):Nat->Int->Int->Option (Int)
| 0,_,_=>none
| k+1,out2,i3 =>
 bif decide (i3<(n1B.length:Int)) then (
  (at? n1B i3).bind fun⟨e6A,e6C,e6D,e6B⟩ =>
  (F_r09_Count (Nd.mk e6A e6C e6D e6B)).bind fun y8 =>
  zCz F_r09_Count n1B k (IntKind.i64.wrap (out2+y8)) (IntKind.i64.wrap (i3+1))
 ) else (
  some out2
 )
def zCU:Nat->Nd->Option Int
| 0,_=>none
| n+1,⟨n1A,n1C,n1D,n1B⟩ =>
 (zCz (zCU n) n1B n 1 0).bind fun out4 =>
 some out4
def zCA (F_r09_Depth:Nd->Option Int) (n1B:List Nd):Nat->Int->Int->Option (Int)
| 0,_,_=>none
| k+1,out2,i3 =>
 bif decide (i3<(n1B.length:Int)) then (
  (at? n1B i3).bind fun⟨e6A,e6C,e6D,e6B⟩ =>
  (F_r09_Depth (Nd.mk e6A e6C e6D e6B)).bind fun y8 =>
  zCA F_r09_Depth n1B k (if out2<y8 then y8 else out2) (IntKind.i64.wrap (i3+1))
 ) else (
  some out2
 )
def zCV:Nat->Nd->Option Int
| 0,_=>none
| n+1,⟨n1A,n1C,n1D,n1B⟩ =>
 (zCA (zCV n) n1B n 0 0).bind fun out4 =>
 some (IntKind.i64.wrap (out4+1))
def zAQ (n:Nat):Nd->Option Bool
| ⟨n1A,n1C,n1D,n1B⟩ =>
 (
  bif (n1A == 1) then (
   (zDL n (Nd.mk n1A n1C n1D n1B)).bind fun y3 =>
   bif y3 then (
    (zCU n (Nd.mk n1A n1C n1D n1B)).bind fun y4 =>
    bif decide (y4<=1000) then (
     (zCV n (Nd.mk n1A n1C n1D n1B)).bind fun y5 =>
     some (decide (y5<=24))
    ) else (
     some false
    )
   ) else (
    some false
   )
  ) else (
   some false
  )
  : Option (Bool)).bind fun x2 =>
 some x2
def zBw (F_r09_Equal:Nd->Nd->Option Bool) (a1:List Nd) (b2:List Nd):Nat->Int->Option (Fl Bool Unit)
| 0,_=>none
| k+1,i5 =>
 bif decide (i5<(a1.length:Int)) then (
  (at? a1 i5).bind fun⟨e7A,e7C,e7D,e7B⟩ =>
  (at? b2 i5).bind fun⟨e9A,e9C,e9D,e9B⟩ =>
  (F_r09_Equal (Nd.mk e7A e7C e7D e7B) (Nd.mk e9A e9C e9D e9B)).bind fun y11 =>
  bif (!y11) then (
   some (.ret false)
  ) else (
   zBw F_r09_Equal a1 b2 k (IntKind.i64.wrap (i5+1))
  )
 ) else (
  some (.go ())
 )
mutual
def zBv:Nat->Nd->Nd->Option Bool
| 0,_,_=>none
| n+1,⟨a1A,a1C,a1D,a1B⟩,⟨b2A,b2C,b2D,b2B⟩ =>
 (
  bif (a1A == b2A) then (
   bif (a1C == b2C) then (
    bif (a1D == b2D) then (
     (zBK n a1B b2B).bind fun y4 =>
     some y4
    ) else (
     some false
    )
   ) else (
    some false
   )
  ) else (
   some false
  )
  : Option (Bool)).bind fun x3 =>
 some x3
def zBK:Nat->(List Nd)->(List Nd)->Option Bool
| 0,_,_=>none
| n+1,a1,b2 =>
 bif ((a1.length:Int) != (b2.length:Int)) then (
  some false
 ) else (
  (zBw (zBv n) a1 b2 n 0).bind fun fl=>match fl with
  | .ret r=>some r
  | .go _ =>
   some true
 )
end
def zCq (F_r09_left:Nd->Int->Option Int) (n1B:List Nd):Nat->Int->Int->Option (Int)
| 0,_,_=>none
| k+1,most3,i4 =>
 (
  bif decide (i4<(n1B.length:Int)) then (
   some (decide (0<=most3))
  ) else (
   some false
  )
  : Option (Bool)).bind fun x6 =>
 bif x6 then (
  (at? n1B i4).bind fun⟨e8A,e8C,e8D,e8B⟩ =>
  (F_r09_left (Nd.mk e8A e8C e8D e8B) most3).bind fun y10 =>
  zCq F_r09_left n1B k y10 (IntKind.i64.wrap (i4+1))
 ) else (
  some most3
 )
def zDM:Nat->Nd->Int->Option Int
| 0,_,_=>none
| n+1,⟨n1A,n1C,n1D,n1B⟩,most2 =>
 (zCq (zDM n) n1B n (IntKind.i64.wrap (most2 - 1)) 0).bind fun most5 =>
 some most5
def zGd (n:Nat):Nd->Int->Option Bool
| ⟨n1A,n1C,n1D,n1B⟩,most2 =>
 (zDM n (Nd.mk n1A n1C n1D n1B) most2).bind fun y3 =>
 some (decide (0<=y3))
def zA3:(List Nd)->Option Nd
| l1 =>
 some (Nd.mk 1 [] 0 l1)
def zIa (n:Nat):zO8->Option Bool
| ⟨op1A,op1G,op1L,op1S,op1R,op1V,op1Ac,op1C⟩ =>
 (
  (zA3 op1R).bind fun⟨y3A,y3C,y3D,y3B⟩ =>
  (zGd n (Nd.mk y3A y3C y3D y3B) 100).bind fun y4 =>
  bif y4 then (
   some (decide ((op1G.length:Int)<=60))
  ) else (
   some false
  )
  : Option (Bool)).bind fun x2 =>
 some x2
def zBR (n:Nat):(List Nd)->Option Bool
| l1 =>
 (zA3 l1).bind fun⟨y2A,y2C,y2D,y2B⟩ =>
 (zAQ n (Nd.mk y2A y2C y2D y2B)).bind fun y3 =>
 some y3
def zD4 (n:Nat):(List Nd)->Int->Option Bool
| l1,slot2 =>
 (
  bif ((l1.length:Int) == 1) then (
   (zBR n l1).bind fun y5 =>
   bif y5 then (
    bif decide (0<=slot2) then (
     (at? l1 0).bind fun⟨e6A,e6C,e6D,e6B⟩ =>
     bif decide (slot2<(e6B.length:Int)) then (
      (at? l1 0).bind fun⟨e9A,e9C,e9D,e9B⟩ =>
      (at? e9B slot2).bind fun⟨e11A,e11C,e11D,e11B⟩ =>
      some ((e11B.length:Int) == 0)
     ) else (
      some false
     )
    ) else (
     some false
    )
   ) else (
    some false
   )
  ) else (
   some false
  )
  : Option (Bool)).bind fun x3 =>
 some x3
def zEo (n:Nat):zO8->Option Bool
| ⟨a1A,a1G,a1L,a1S,a1R,a1V,a1Ac,a1C⟩ =>
 (
  (
   bif (a1A == 1) then (
    some (a1A == 1)
   ) else (
    some (a1A == 2)
   )
   : Option (Bool)).bind fun x2 =>
  bif x2 then (
   (
    bif decide (0<(a1R.length:Int)) then (
     (zBR n a1R).bind fun y5 =>
     bif y5 then (
      bif (a1S == 0) then (
       bif (a1V == 0) then (
        bif (a1Ac == []) then (
         some (a1C == [])
        ) else (
         some false
        )
       ) else (
        some false
       )
      ) else (
       some false
      )
     ) else (
      some false
     )
    ) else (
     some false
    )
    : Option (Bool)).bind fun x3 =>
   some (.ret x3)
  ) else (
   (
    bif (a1A == 3) then (
     some (a1A == 3)
    ) else (
     some (a1A == 4)
    )
    : Option (Bool)).bind fun x6 =>
   bif x6 then (
    (
     bif decide (0<=a1S) then (
      (zD4 n a1R a1V).bind fun y8 =>
      bif y8 then (
       bif (a1Ac == []) then (
        some (a1C == [])
       ) else (
        some false
       )
      ) else (
       some false
      )
     ) else (
      some false
     )
     : Option (Bool)).bind fun x7 =>
    some (.ret x7)
   ) else (
    bif (a1A == 5) then (
     (
      bif (!(a1Ac == a1C)) then (
       bif ((a1R.length:Int) == 0) then (
        bif (a1S == 0) then (
         some (a1V == 0)
        ) else (
         some false
        )
       ) else (
        some false
       )
      ) else (
       some false
      )
      : Option (Bool)).bind fun x9 =>
     some (.ret x9)
    ) else (
     some (.go ())
    )
   )
  )
  : Option (Fl Bool Unit)).bind fun fl=>match fl with
 | .ret r=>some r
 | .go _ =>
  some false
def zB1  : Nat->Int->(List UInt8)->Int->(List Nd)->(List Int)->Option (Fl (Nd×Bool) ((List Int)×Int×(List UInt8)×Int×(List Nd)))
| 0,_,_,_,_,_=>none
| k+1,x3,x4,x5,x6,path8 =>
 bif decide (2<=(path8.length:Int)) then (
  (
   (at? path8 0).bind fun e16 =>
   bif decide (e16<0) then (
    some true
   ) else (
    (at? path8 0).bind fun e18 =>
    some (decide ((x6.length:Int)<=e18))
   )
   : Option (Bool)).bind fun x15 =>
  bif x15 then (
   some (.ret (Nd.mk 0 [] 0 [],false))
  ) else (
   (at? path8 0).bind fun e21 =>
   (at? x6 e21).bind fun⟨e23A,e23C,e23D,e23B⟩ =>
   (
    (at? path8 1).bind fun e26 =>
    bif decide (e26<0) then (
     some true
    ) else (
     (at? path8 1).bind fun e28 =>
     some (decide ((e23B.length:Int)<=e28))
    )
    : Option (Bool)).bind fun x25 =>
   bif x25 then (
    some (.ret (Nd.mk 0 [] 0 [],false))
   ) else (
    (at? path8 1).bind fun e31 =>
    (at? e23B e31).bind fun⟨e33A,e33C,e33D,e33B⟩ =>
    req (0<=(2:Int)/\(2:Int)<=(path8.length:Int)/\(path8.length:Int)<=(path8.length:Int)) <|
    zB1 k e33A e33C e33D e33B ((path8.take (path8.length:Int).toNat).drop (2:Int).toNat)
   )
  )
 ) else (
  some (.go (path8,x3,x4,x5,x6))
 )
def zG5 (n:Nat):Nd->(List Int)->Option (Nd×Bool)
| ⟨n1A,n1C,n1D,n1B⟩,path2 =>
 (zB1  n n1A n1C n1D n1B path2).bind fun fl=>match fl with
 | .ret r=>some r
 | .go ⟨path9,x10,x11,x12,x13⟩ =>
  some (Nd.mk x10 x11 x12 x13,((path9.length:Int) == 0))
def zFi (n:Nat):Nd->(List Int)->Option (Nd×Int)
| ⟨n1A,n1C,n1D,n1B⟩,path2 =>
 (zAQ n (Nd.mk n1A n1C n1D n1B)).bind fun y3 =>
 bif (!y3) then (
  some (Nd.mk 0 [] 0 [],1)
 ) else (
  (zG5 n (Nd.mk n1A n1C n1D n1B) path2).bind fun⟨⟨y4A,y4C,y4D,y4B⟩,y5⟩ =>
  bif (!y5) then (
   some (Nd.mk 0 [] 0 [],8)
  ) else (
   some (Nd.mk y4A y4C y4D y4B,0)
  )
 )
def zB5:(List Nd)->Int->Int->(List Nd)->Option (List Nd)
| l1,at2,to3,by4 =>
 req (0<=(0:Int)/\(0:Int)<=at2/\at2<=(l1.length:Int)) <|
 req (([]:List Nd).length+((l1.take at2.toNat).drop (0:Int).toNat).length<=4294967296) <|
 req (((l1.take at2.toNat).drop (0:Int).toNat).length+by4.length<=4294967296) <|
 req (0<=to3/\to3<=(l1.length:Int)/\(l1.length:Int)<=(l1.length:Int)) <|
 req ((((l1.take at2.toNat).drop (0:Int).toNat)++by4).length+((l1.take (l1.length:Int).toNat).drop to3.toNat).length<=4294967296) <|
 some ((((l1.take at2.toNat).drop (0:Int).toNat)++by4)++((l1.take (l1.length:Int).toNat).drop to3.toNat))
def zBo:Nd->Int->Nd->Option Nd
| ⟨n1A,n1C,n1D,n1B⟩,i2,⟨kid3A,kid3C,kid3D,kid3B⟩ =>
 req (([]:List Nd).length+n1B.length<=4294967296) <|
 (at? n1B i2).bind fun⟨e4A,e4C,e4D,e4B⟩ =>
 some (Nd.mk n1A n1C n1D (n1B.set i2.toNat (Nd.mk kid3A kid3C kid3D kid3B)))
def zDw:Nd->Int->(List Nd)->Option Nd
| ⟨n1A,n1C,n1D,n1B⟩,slot2,l3 =>
 req (([]:List Nd).length+l3.length<=4294967296) <|
 (zA3 l3).bind fun⟨y4A,y4C,y4D,y4B⟩ =>
 (zBo (Nd.mk n1A n1C n1D n1B) slot2 (Nd.mk y4A y4C y4D y4B)).bind fun⟨y5A,y5C,y5D,y5B⟩ =>
 some (Nd.mk y5A y5C y5D y5B)
def zFk (n:Nat):(List Nd)->zO8->Option ((List Nd)×Int)
| a1,⟨a2A,a2G,a2L,a2S,a2R,a2V,a2Ac,a2C⟩ =>
 (
  bif (a2A == 1) then (
   some 0
  ) else (
   bif (a2A == 2) then (
    some (a2R.length:Int)
   ) else (
    bif (a2A == 3) then (
     some a2S
    ) else (
     some 1
    )
   )
  )
  : Option (Int)).bind fun x3 =>
 (
  bif decide (a2L<0) then (
   some true
  ) else (
   bif decide ((a1.length:Int)<a2L) then (
    some true
   ) else (
    some (decide ((IntKind.i64.wrap ((a1.length:Int) - a2L))<x3))
   )
  )
  : Option (Bool)).bind fun x5 =>
 bif x5 then (
  some ([],2)
 ) else (
  bif (a2A == 1) then (
   (zB5 a1 a2L (IntKind.i64.wrap (a2L+x3)) a2R).bind fun y8 =>
   some (y8,0)
  ) else (
   bif (a2A == 2) then (
    req (0<=a2L/\a2L<=IntKind.i64.wrap (a2L+x3)/\IntKind.i64.wrap (a2L+x3)<=(a1.length:Int)) <|
    (zBK n ((a1.take (IntKind.i64.wrap (a2L+x3)).toNat).drop a2L.toNat) a2R).bind fun y10 =>
    bif (!y10) then (
     some ([],7)
    ) else (
     (zB5 a1 a2L (IntKind.i64.wrap (a2L+x3)) []).bind fun y11 =>
     some (y11,0)
    )
   ) else (
    bif (a2A == 3) then (
     (at? a2R 0).bind fun⟨e12A,e12C,e12D,e12B⟩ =>
     req (0<=a2L/\a2L<=IntKind.i64.wrap (a2L+x3)/\IntKind.i64.wrap (a2L+x3)<=(a1.length:Int)) <|
     (zDw (Nd.mk e12A e12C e12D e12B) a2V ((a1.take (IntKind.i64.wrap (a2L+x3)).toNat).drop a2L.toNat)).bind fun⟨y15A,y15C,y15D,y15B⟩ =>
     (zB5 a1 a2L (IntKind.i64.wrap (a2L+x3)) [Nd.mk y15A y15C y15D y15B]).bind fun y17 =>
     some (y17,0)
    ) else (
     (at? a1 a2L).bind fun⟨e18A,e18C,e18D,e18B⟩ =>
     bif (a2A == 4) then (
      (
       bif decide ((e18B.length:Int)<=a2V) then (
        some true
       ) else (
        (at? e18B a2V).bind fun⟨e22A,e22C,e22D,e22B⟩ =>
        bif ((e22B.length:Int) != a2S) then (
         some true
        ) else (
         (at? a2R 0).bind fun⟨e25A,e25C,e25D,e25B⟩ =>
         (at? e18B a2V).bind fun⟨e27A,e27C,e27D,e27B⟩ =>
         (zDw (Nd.mk e25A e25C e25D e25B) a2V e27B).bind fun⟨y29A,y29C,y29D,y29B⟩ =>
         (zBv n (Nd.mk e18A e18C e18D e18B) (Nd.mk y29A y29C y29D y29B)).bind fun y30 =>
         some (!y30)
        )
       )
       : Option (Bool)).bind fun x20 =>
      bif x20 then (
       some ([],7)
      ) else (
       (at? e18B a2V).bind fun⟨e31A,e31C,e31D,e31B⟩ =>
       (zB5 a1 a2L (IntKind.i64.wrap (a2L+x3)) e31B).bind fun y33 =>
       some (y33,0)
      )
     ) else (
      (
       (
        bif (e18A == 2) then (
         some (e18A == 2)
        ) else (
         bif (e18A == 3) then (
          some (e18A == 3)
         ) else (
          bif (e18A == 4) then (
           some (e18A == 4)
          ) else (
           bif (e18A == 10) then (
            some (e18A == 10)
           ) else (
            some (e18A == 11)
           )
          )
         )
        )
        : Option (Bool)).bind fun x34 =>
       bif x34 then (
        bif (e18C == a2Ac) then (
         (zB5 a1 a2L (IntKind.i64.wrap (a2L+x3)) [Nd.mk e18A a2C e18D e18B]).bind fun y36 =>
         some (.ret (y36,0))
        ) else (
         some (.go ())
        )
       ) else (
        some (.go ())
       )
       : Option (Fl ((List Nd)×Int) Unit)).bind fun fl=>match fl with
      | .ret r=>some r
      | .go _ =>
       some ([],7)
     )
    )
   )
  )
 )
def zFl:Nat->Nd->(List Int)->(List Nd)->Option Nd
| 0,_,_,_=>none
| n+1,⟨n1A,n1C,n1D,n1B⟩,path2,l3 =>
 bif ((path2.length:Int) == 0) then (
  (zA3 l3).bind fun⟨y5A,y5C,y5D,y5B⟩ =>
  some (Nd.mk y5A y5C y5D y5B)
 ) else (
  (at? path2 0).bind fun e6 =>
  (at? n1B e6).bind fun⟨e8A,e8C,e8D,e8B⟩ =>
  (at? path2 0).bind fun e10 =>
  (at? path2 1).bind fun e12 =>
  (at? path2 1).bind fun e14 =>
  (at? e8B e14).bind fun⟨e16A,e16C,e16D,e16B⟩ =>
  req (0<=(2:Int)/\(2:Int)<=(path2.length:Int)/\(path2.length:Int)<=(path2.length:Int)) <|
  (zFl n (Nd.mk e16A e16C e16D e16B) ((path2.take (path2.length:Int).toNat).drop (2:Int).toNat) l3).bind fun⟨y19A,y19C,y19D,y19B⟩ =>
  (zBo (Nd.mk e8A e8C e8D e8B) e12 (Nd.mk y19A y19C y19D y19B)).bind fun⟨y20A,y20C,y20D,y20B⟩ =>
  (zBo (Nd.mk n1A n1C n1D n1B) e10 (Nd.mk y20A y20C y20D y20B)).bind fun⟨y21A,y21C,y21D,y21B⟩ =>
  some (Nd.mk y21A y21C y21D y21B)
 )
def zD8 (n:Nat):Nd->zO8->Option (Nd×Int)
| ⟨n1A,n1C,n1D,n1B⟩,⟨op2A,op2G,op2L,op2S,op2R,op2V,op2Ac,op2C⟩ =>
 (zAQ n (Nd.mk n1A n1C n1D n1B)).bind fun y3 =>
 bif (!y3) then (
  some (Nd.mk 0 [] 0 [],1)
 ) else (
  (zEo n (op2A,op2G,op2L,op2S,op2R,op2V,op2Ac,op2C)).bind fun y4 =>
  bif (!y4) then (
   some (Nd.mk 0 [] 0 [],4)
  ) else (
   (zFi n (Nd.mk n1A n1C n1D n1B) op2G).bind fun⟨⟨y5A,y5C,y5D,y5B⟩,y6⟩ =>
   bif (y6 != 0) then (
    some (Nd.mk 0 [] 0 [],y6)
   ) else (
    (zFk n y5B (op2A,op2G,op2L,op2S,op2R,op2V,op2Ac,op2C)).bind fun⟨y7,y8⟩ =>
    bif (y8 != 0) then (
     some (Nd.mk 0 [] 0 [],y8)
    ) else (
     (zFl n (Nd.mk n1A n1C n1D n1B) op2G y7).bind fun⟨y9A,y9C,y9D,y9B⟩ =>
     (zAQ n (Nd.mk y9A y9C y9D y9B)).bind fun y10 =>
     bif (!y10) then (
      some (Nd.mk 0 [] 0 [],6)
     ) else (
      some (Nd.mk y9A y9C y9D y9B,0)
     )
    )
   )
  )
 )
def zBF (n:Nat) (ops2:List zO8):Nat->Int->(List UInt8)->Int->(List Nd)->Int->Option (Fl (Nd×Int×Int) (Int×(List UInt8)×Int×(List Nd)))
| 0,_,_,_,_,_=>none
| k+1,x4,x5,x6,x7,i9 =>
 bif decide (i9<(ops2.length:Int)) then (
  (at? ops2 i9).bind fun⟨e15A,e15G,e15L,e15S,e15R,e15V,e15Ac,e15C⟩ =>
  (zD8 n (Nd.mk x4 x5 x6 x7) (e15A,e15G,e15L,e15S,e15R,e15V,e15Ac,e15C)).bind fun⟨⟨y17A,y17C,y17D,y17B⟩,y18⟩ =>
  bif (y18 != 0) then (
   some (.ret (Nd.mk 0 [] 0 [],i9,y18))
  ) else (
   zBF n ops2 k y17A y17C y17D y17B (IntKind.i64.wrap (i9+1))
  )
 ) else (
  some (.go (x4,x5,x6,x7))
 )
def zB4 (n:Nat):Nd->(List zO8)->Option (Nd×Int×Int)
| ⟨n1A,n1C,n1D,n1B⟩,ops2 =>
 (zAQ n (Nd.mk n1A n1C n1D n1B)).bind fun y3 =>
 bif (!y3) then (
  some (Nd.mk 0 [] 0 [],0,1)
 ) else (
  (zBF n ops2 n n1A n1C n1D n1B 0).bind fun fl=>match fl with
  | .ret r=>some r
  | .go ⟨x10,x11,x12,x13⟩ =>
   some (Nd.mk x10 x11 x12 x13,0,0)
 )
def zDp:Nd->Option Int
| ⟨n1A,n1C,n1D,n1B⟩ =>
 bif (n1A == 1) then (
  some 0
 ) else (
  some (n1B.length:Int)
 )
def zB9 (n:Nat):(List Nd)->Option Bool
| l1 =>
 (zA8 n (Nd.mk 1 [] 0 l1)).bind fun y2 =>
 some y2
def zAL (F_node_Equal:Nd->Nd->Option Bool) (s11:List Nd) (s22:List Nd):Nat->Int->Option (Fl Bool Unit)
| 0,_=>none
| k+1,x6 =>
 bif decide (x6<(s11.length:Int)) then (
  (at? s11 x6).bind fun⟨e7A,e7C,e7D,e7B⟩ =>
  (at? s22 x6).bind fun⟨e9A,e9C,e9D,e9B⟩ =>
  (F_node_Equal (Nd.mk e7A e7C e7D e7B) (Nd.mk e9A e9C e9D e9B)).bind fun y11 =>
  bif (!y11) then (
   some (.ret false)
  ) else (
   zAL F_node_Equal s11 s22 k (IntKind.i64.wrap (x6+1))
  )
 ) else (
  some (.go ())
 )
mutual
def zB2:Nat->Nd->Nd->Option Bool
| 0,_,_=>none
| n+1,⟨a1A,a1C,a1D,a1B⟩,⟨b2A,b2C,b2D,b2B⟩ =>
 (
  bif (a1A == b2A) then (
   bif (a1C == b2C) then (
    bif (a1D == b2D) then (
     (zA0 n a1B b2B).bind fun y4 =>
     some y4
    ) else (
     some false
    )
   ) else (
    some false
   )
  ) else (
   some false
  )
  : Option (Bool)).bind fun x3 =>
 some x3
def zA0:Nat->(List Nd)->(List Nd)->Option Bool
| 0,_,_=>none
| n+1,s11,s22 =>
 bif ((s11.length:Int) != (s22.length:Int)) then (
  some false
 ) else (
  (zAL (zB2 n) s11 s22 n 0).bind fun fl=>match fl with
  | .ret r=>some r
  | .go _ =>
   some true
 )
end
mutual
def Nd.cnt:Nd->Nat
 | .mk _ _ _ ks=>Nd.cnts ks+1
def Nd.cnts:List Nd->Nat
 | []=>0
 | v::vs=>v.cnt+Nd.cnts vs
end
theorem Nd.cnt_pos:∀ v:Nd,1<=v.cnt
 | .mk _ _ _ ks=>by simp only[Nd.cnt]; omega
theorem Nd.cnts_len:∀ a:List Nd,a.length<=Nd.cnts a
 | []=>Nat.le_refl _
 | v::a=>by have:=Nd.cnts_len a; have:=v.cnt_pos; simp only[Nd.cnts,List.length_cons]; omega
theorem Nd.cnts_mem:∀ {a:List Nd}{v:Nd},v∈a->v.cnt<=Nd.cnts a
 | u::a,v,h=>by
  simp only[Nd.cnts]
  rcases List.mem_cons.1 h with rfl | h
  ·omega
  ·have:=Nd.cnts_mem h; omega
theorem Nd.cnts_drop {a:List Nd}{i:Nat} (h:i<a.length):Nd.cnts (a.drop i)=(a[i]).cnt+Nd.cnts (a.drop (i+1)):=by
 rw[List.drop_eq_getElem_cons h]; rfl
def zAX (n:Nd):Option Nd:=req (n.cnt<=1000000000) (some n)
def Nd.kids:Nd->List Nd
 | .mk _ _ _ ks=>ks
theorem zWI (n:Nd):n.kids ≠ []↔n.kids.isEmpty=false:=by cases n.kids <;> simp
instance (n:Nd):Decidable (n.kids ≠ []):=decidable_of_iff _ (zWI n).symm
def zCI (n:Nd):Option Nd:=req (n.cnt<=1000000000/\n.kids ≠ []) (some n)
def zBt:Nd->List Int->Option Nd
 | n,[]=>some n
 | _,[_]=>none
 | n,i::s::path=>if 0<=i/\i<n.kids.length then
   let item:=n.kids.getD i.toNat n
   if 0<=s/\s<item.kids.length then zBt (item.kids.getD s.toNat n) path else none
  else none
def zCw:Nd:=.mk 0 [] 0 []
def putL:Nd->List Int->Nd->Nd
 | .mk k t c ks,i::s::path,r=>.mk k t c (ks.set i.toNat (match ks[i.toNat]? with
  | some (.mk k2 t2 c2 ks2)=>.mk k2 t2 c2 (ks2.set s.toNat (match ks2[s.toNat]? with
   | some z=>putL z path r
   | none=>r))
  | none=>r))
 | _,_,r=>r
def zG4 (f:Nat) (n:Nd) (path:List Int):Option (Nd×Int) :=
 (zA8 f n).bind fun b=>if b=true then (match zBt n path with
  | some r=>(zAX r).bind fun r=>some (r,0)
  | none=>some (zCw,8)) else some (zCw,1)
def zEQ (f:Nat) (n:Nd) (path:List Int) (row:Nd):Option (Nd×Int) :=
 (zA8 f n).bind fun b=>if b=true then (zAX n).bind fun n=>(match zBt n path with
  | some _=>(zA8 f row).bind fun b=>if b=true then (zAX row).bind fun row=>(zA8 f (putL n path row)).bind fun b=>if b=true then some (putL n path row,0) else some (zCw,6)
    else some (zCw,4)
  | none=>some (zCw,8)) else some (zCw,1)
end Go.Proofs.YtffhjiplcfncdaaGreat
namespace Go.Abs
section
variable {T:Nat->Option TI} {Γ:Nat->Option zAq} {M nm L:List Nat} {N k:Nat} {n:Nat->Bool} {all os:List Oper} {o:Oper} {σ σ':St} {K:St->Prop} {φ:Option Prop} {x:AV} {d:Nat}
theorem zVe {φ:Option Prop}{K:Prop} (h1:φ.getD True) (h2:K):andO φ K:=by
 cases φ with
 | none=>exact h2
 | some p=>exact⟨h1,h2⟩
theorem zQ3 (h:K (σ.putN d x)):lay false (some d) x σ K:=by
 simp only[lay,zJ4]; exact h
theorem zAi (hg:o.guard=none) (hd:o.dst=some d) (hN:Nat.blt d N=true) (hc:callOf T Γ o σ.env=none) (hn:dIn (some d) nm=false) (hs:step1 T (dIn (some d) M) o σ=some (φ,x,σ')) (hφ:φ.getD True)
  (h:zDd T Γ M nm N all os (σ'.putN d x) K):zDd T Γ M nm N all (o::os) σ K:=by
 unfold zDd;rw[hg,hd]
 dsimp only;rw[hN,hc,hn,hs]
 exact zVe hφ (zQ3 h)
theorem zF8 (hg:o.guard=none) (hd:o.dst=none) (hc:callOf T Γ o σ.env=none) (hs:step1 T (dIn none M) o σ=some (φ,x,σ')) (hφ:φ.getD True)
  (h:zDd T Γ M nm N all os σ' K):zDd T Γ M nm N all (o::os) σ K:=by
 unfold zDd;rw[hg,hd,hc,hs]
 exact zVe hφ h
theorem zPO {own:Bool}{t e q sz kk:Nat}{j ti:TI}{y i:Operand}{n:Int}{ki:IntKind}{rows:List (List AV)} (ho:o.op = .indexAddr t y i) (ht:T t=some ti) (hk:ti.k = .slice e) (hj:T e=some j) (hy:opd T σ.env t y = .orow q)
  (hi:opd T σ.env 0 i = .s (.int ki n)) (hh:σ.hp q=some (.arow kk sz rows)) (hz:Nat.beq sz j.size=true):step1 T own o σ=some (some (0<=n/\n<rows.length),.rp q sz n.toNat 0,σ):=by
 have e1:zCE T own o σ.env=none :=(by simp only[zCE,ho,zFU,hy,hi,AV.nrm,ht,hk]);simp only[step1,e1,zCj,zDY,zDm,ho,elemOf,ht,hk,hj,hy,hi,hh,hz]
theorem zRB {own:Bool}{t q sz r off kk:Nat}{ti:TI}{y z:Operand}{rows:List (List AV)} (ho:o.op = .store t y z) (ht:T t=some ti) (hy:opd T σ.env 0 y = .rp q sz r off)
  (hh:σ.hp q=some (.arow kk sz rows)) (h1:Nat.beq sz sz=true) (h2:Nat.beq (opd T σ.env t z).cellsA.length ti.size=true) (h3:Nat.ble (off+ti.size) sz=true) (h4:((opd T σ.env t z).cellsA).all AV.one=true) :
  step1 T own o σ=some (some (r<rows.length),.junk,zFq σ q (.arow kk sz (rows.set r ((rows.getD r []).take off++(opd T σ.env t z).cellsA++(rows.getD r []).drop (off+ti.size))))):=by
 have e1:zCE T own o σ.env=none :=(by simp only[zCE,ho]);have e2:zDY T own o σ=none:=by
  simp only[zDY,ho,hy,ht,hh]
 simp only[step1,e1,zCj,e2,zDm,ho,ht,hy,hh,h1,h2,h3,h4]
theorem zM0 {own:Bool}{t q off:Nat}{ti:TI}{y z:Operand}{bt:Nat}{cells:List AV} (ho:o.op = .store t y z) (ht:T t=some ti) (hy:opd T σ.env 0 y = .op q off)
  (hh:σ.hp q=some (.box bt cells)) (h2:Nat.beq (opd T σ.env t z).cellsA.length ti.size=true) (h3:Nat.ble (off+ti.size) cells.length=true) (h4:((opd T σ.env t z).cellsA).all AV.one=true) (h5:AV.ltAll σ.nx (opd T σ.env t z).cellsA=true) :
  step1 T own o σ=some (none,.junk,zFq σ q (.box bt (cells.take off++(opd T σ.env t z).cellsA++cells.drop (off+ti.size)))):=by
 have e1:zCE T own o σ.env=none :=(by simp only[zCE,ho]);simp only[step1,e1,zCj,zDY,ho,ht,hy,hh,h2,h3,h4,h5,zDU]
theorem zXf {own:Bool}{t q off:Nat}{ti:TI}{y:Operand}{bt:Nat}{cells:List AV}{c:AV} (ho:o.op = .load t y) (ht:T t=some ti) (ha:ti.k.agg=false) (hy:opd T σ.env 0 y = .op q off) (hh:σ.hp q=some (.box bt cells)) (hc:cells[off]? = some c) :
  step1 T own o σ=some (none,c,σ):=by
 have e1:zCE T own o σ.env=none :=(by simp only[zCE,ho,hy]);simp only[step1,e1,zCj,zDY,ho,ht,hy,hh,ha,hc]
theorem zV7 {own:Bool}{t q off:Nat}{ti:TI}{y:Operand}{bt:Nat}{cells:List AV} (ho:o.op = .load t y) (ht:T t=some ti) (ha:ti.k.agg=true) (hy:opd T σ.env 0 y = .op q off) (hh:σ.hp q=some (.box bt cells)) (hc:Nat.ble (off+ti.size) cells.length=true) :
  step1 T own o σ=some (none,.agg ((cells.drop off).take ti.size),σ):=by
 have e1:zCE T own o σ.env=none :=(by simp only[zCE,ho,hy]);simp only[step1,e1,zCj,zDY,ho,ht,hy,hh,ha,hc]
theorem zMZ {own:Bool}{t q kk sz:Nat}{e:Nat}{args:Array Operand}{ts:Array Nat}{y:Operand}{rows:List (List AV)} (ho:o.op = .call { callee:=.builtin .len,args:=args,argTypes:=ts }) (ha:args.toList=[y]) (hts:ts.toList=[t]) (ht:tk T t = .slice e)
  (hy:opd T σ.env t y = .orow q) (hh:σ.hp q=some (.arow kk sz rows)):step1 T own o σ=some (none,.s (.int .i64 (rows.length:Int)),σ):=by
 have e1:zCE T own o σ.env=none :=(by simp only[zCE,ho,ha,hts,pLen,ht,hy]);have e2:zDY T own o σ=none :=(by simp only[zDY,ho,ha,hts,ht,hy,hh]);simp only[step1,e1,zCj,e2,zDm,ho,ha,hts,ht,hy,hh]
theorem zXi {own:Bool}{t q sz r off:Nat}{y:Operand} (ho:o.op = .load t y) (hy:opd T σ.env 0 y = .rp q sz r off):step1 T own o σ=none/\callOf T Γ o σ.env=none/\zCD T o σ.env=none:=by
 have e1:zCE T own o σ.env=none :=(by simp only[zCE,ho,hy]);have e2:zDY T own o σ=none :=(by simp only[zDY,ho,hy]);have e3:zDm T o σ=none :=(by simp only[zDm,ho]);exact⟨by simp only[step1,e1,zCj,e2,e3],by simp only[callOf,ho],by simp only[zCD,ho]⟩
theorem zX1 {t:Nat}{y:Operand} (ho:o.op = .load t y):nilQ T o σ.env=none:=by simp only[nilQ,ho]
theorem zQR {t q sz r off kk:Nat}{y:Operand}{rows:List (List AV)}{c:AV} (hg:o.guard=none) (hd:o.dst=some d) (hN:Nat.blt d N=true) (hn:dIn (some d) nm=false) (ho:o.op = .load t y) (hy:opd T σ.env 0 y = .rp q sz r off)
  (hh:σ.hp q=some (.arow kk sz rows)) (hr:r<rows.length) (hc:zPe T t ((rows.getD r []).drop off)=some c) (h:zDd T Γ M nm N all os (σ.putN d c) K):zDd T Γ M nm N all (o::os) σ K:=by
 obtain⟨e1,e2,e3⟩:=zXi (Γ:=Γ) (own:=dIn (some d) M) ho hy;unfold zDd;rw[hg,hd]
 dsimp only;rw[hN,e2,hn,e1,zX1 ho]
 have hz:Nat.beq sz sz=true:=Nat.beq_refl sz;simp only[zO4,zHK,e3,zIN,ho,hy,hh,hz]
 exact⟨hr,_,rfl,by rw[hc]; exact zQ3 h⟩
end
inductive Rd (hp:Nat->Option Ob):AV->S->Prop
 | s (x:S):Rd hp (.s x) x
 | nl (sz:Nat):Rd hp (.nl sz) (.sl sz [])
 | row {k e sz:Nat} {rows:List (List S)} (h:hp k=some (.row e sz rows)):Rd hp (.orow k) (.sl sz rows)
 | arow {k e sz:Nat} {rows:List (List AV)} {rs:List (List S)} (h:hp k=some (.arow e sz rows)) (hl:rows.length=rs.length) (hr:∀ r∈rs,r.length=sz)
   (hc:∀ (i:Nat) x s,rows.flatten[i]? = some x->rs.flatten[i]? = some s->Rd hp x s):Rd hp (.orow k) (.sl sz rs)
 | box {k off bt:Nat} {cells:List AV} {ss:List S} (h:hp k=some (.box bt cells)) (hl:cells.length=ss.length)
   (hc:∀ (i:Nat) x s,cells[i]? = some x->ss[i]? = some s->Rd hp x s):Rd hp (.op k off) (.pt (ss.drop off))
 | el {k e sz i off:Nat} {rows:List (List AV)} {rs:List (List S)} (h:hp k=some (.arow e sz rows)) (hl:rows.length=rs.length) (hr:∀ r∈rs,r.length=sz) (hi:i<rs.length)
   (hc:∀ (i:Nat) x s,rows.flatten[i]? = some x->rs.flatten[i]? = some s->Rd hp x s):Rd hp (.rp k sz i off) (.pt ((rs.getD i []).drop off))
def allG (G:Nat->Prop) (β:Nat->Value) (hp:Nat->Option Ob) (b:Nat):Prop:=G b∨∃ k ob,hp k=some ob/\blk (β k)=some b
theorem Rd.rep {c:Cx}{G:Nat->Prop}{β:Nat->Value}{σ:St}{a:Act}{w:World} (hc:Conc c G β σ a w){x:AV}{s:S} (h:Rd σ.hp x s):∀ {v:Value},AVal G w β x v->Rep (allG G β σ.hp) w s v:=by
 have hk:Keep G (allG G β σ.hp) w w:=⟨fun _ h=>.inl h,fun _ _=>rfl⟩
 induction h with
 | s x=>intro v hv; simp only[AVal]at hv; exact hv.keep hk
 | nl sz=>intro v hv; simp only[AVal]at hv; subst hv; simp[Rep]
 | @row k e sz rows h =>
  intro v hv;simp only[AVal]at hv;obtain⟨hlen,hsz,ho⟩:=hc.hp k _ h;rw[hv.1]
  rcases ho with ⟨h1,rfl⟩ | ⟨b,cap,cur,h1,h2,h3,h4,h5,h6,h7⟩
  ·rw[h1]; simp[Rep]
  ·rw[h1]
   simp only[Rep]
   refine .inr ⟨b,0,cap,rfl,h2,zCo hlen (RepRow.mk fun i s hi=>⟨.inr ⟨k,_,h,by rw[h1]; rfl⟩,?_⟩)⟩
   obtain⟨u,hu,hr⟩:=h7 i s hi;exact⟨u,by simp[World.cell?,h4,hu],hr.keep hk⟩
 | @arow k e sz rows rs h hl hr hcc ih =>
  intro v hv;simp only[AVal]at hv;obtain⟨hlen,hsz,ho⟩:=hc.hp k _ h;rw[hv.1]
  rcases ho with ⟨h1,rfl⟩ | ⟨b,cap,cur,h1,h2,h3,h4,h5,h6,h7⟩
  ·obtain rfl:rs=[]:=List.length_eq_zero_iff.1 (by simpa using hl.symm)
   rw[h1]; simp[Rep]
  ·rw[h1]
   simp only[Rep]
   refine .inr ⟨b,0,cap,by rw[hl],by rw[← hl]; exact h2,zCo hr (RepRow.mk fun i s hi=>⟨.inr ⟨k,_,h,by rw[h1]; rfl⟩,?_⟩)⟩
   have hfl:=zAW hlen;have hfs:=zAW hr;have hil:i<rows.flatten.length :=(by rw[hfl,hl,← hfs]; exact(List.getElem?_eq_some_iff.1 hi).1);obtain⟨u,hu,hr',_⟩:=h7 i _ (List.getElem?_eq_getElem hil)
   exact⟨u,by simp[World.cell?,h4,hu],ih i _ s (List.getElem?_eq_getElem hil) hi hr'⟩
 | @box k off bt cells ss h hl hcc ih =>
  intro v hv;simp only[AVal]at hv;obtain⟨b,e,cur,h1,h2,h3,h4,h5,h6⟩:=hc.hp k _ h;obtain⟨b',hβ,rfl⟩:=hv;rw[h1]at hβ; cases hβ
  simp only[Rep]
  have hrow:RepRow (allG G β σ.hp) w b ss 0:=RepRow.mk fun i s hi=>by
   refine⟨.inr ⟨k,_,h,by rw[h1]; rfl⟩,?_⟩
   have hil:i<cells.length :=(by rw[hl]; exact(List.getElem?_eq_some_iff.1 hi).1);obtain⟨u,hu,hr⟩:=h5.get (List.getElem?_eq_getElem hil)
   rw[Array.getElem?_toList]at hu;exact⟨u,by simp[World.cell?,h2,hu],ih i _ s (List.getElem?_eq_getElem hil) hi hr⟩
  exact⟨b,off,rfl,by simpa using hrow.drop off⟩
 | @el k e sz i off rows rs h hl hr hi hcc ih =>
  intro v hv;simp only[AVal]at hv;obtain⟨b,n,cp,hβ,rfl⟩:=hv;obtain⟨hlen,hsz,ho⟩:=hc.hp k _ h;rcases ho with ⟨h1,rfl⟩ | ⟨b',cap,cur,h1,h2,h3,h4,h5,h6,h7⟩
  ·simp at hl; omega
  rw[hβ]at h1; cases h1
  simp only[Rep]
  refine⟨b,i * sz+off,rfl,?_⟩
  have hfl:=zAW hlen;have hfs:=zAW hr;have hrow:RepRow (allG G β σ.hp) w b rs.flatten 0:=RepRow.mk fun q s hq=>by
   refine⟨.inr ⟨k,_,h,by rw[hβ]; rfl⟩,?_⟩
   have hil:q<rows.flatten.length :=(by rw[hfl,hl,← hfs]; exact(List.getElem?_eq_some_iff.1 hq).1);obtain⟨u,hu,hr',_⟩:=h7 q _ (List.getElem?_eq_getElem hil)
   exact⟨u,by simp[World.cell?,h4,hu],ih q _ s (List.getElem?_eq_getElem hil) hq hr'⟩
  have hrows:=(zCo hr hrow).get (i:=i) (r:=rs[i]) (List.getElem?_eq_getElem hi)
  have hg:rs.getD i []=rs[i] :=(by simp[List.getElem?_eq_getElem hi]);rw[hg]
  have:=hrows.2.drop off
  simpa using this
def RdV (hp:Nat->Option Ob):AV->AV->Prop
 | x,.s y=>Rd hp x y
 | .agg xs,.agg ys=>xs.length=ys.length/\∀ (i:Nat) x y,xs[i]? = some x->ys[i]? = some y->∃ s,y = .s s/\Rd hp x s
 | _,.junk=>True
 | _,_=>False
theorem RdV.aval {c:Cx}{G:Nat->Prop}{β:Nat->Value}{σ:St}{a:Act}{w:World} (hc:Conc c G β σ a w){x y:AV} (h:RdV σ.hp x y){v:Value} (hv:AVal G w β x v):AVal (allG G β σ.hp) w β y v:=by
 unfold RdV at h;split at h
 ·simp only[AVal]; exact h.rep hc hv
 ·simp only[AVal]at hv ⊢;obtain⟨vs,rfl,hvs⟩:=hv;refine⟨vs,rfl,AVals.mk (by rw[← h.1]; exact hvs.length) fun i y u hy hu=>?_⟩
  rename_i xs ys
  have hil:i<xs.length :=(by rw[h.1]; exact(List.getElem?_eq_some_iff.1 hy).1);obtain⟨s,rfl,hs⟩:=h.2 i _ y (List.getElem?_eq_getElem hil) hy;obtain⟨u',hu',hr⟩:=hvs.get (List.getElem?_eq_getElem hil)
  rw[hu]at hu'; cases hu'
  simp only[AVal]; exact hs.rep hc hr
 ·simp only[AVal]
 ·exact h.elim
def nils (k:Nat):List (List AV):=List.replicate k [.s (.sl 1 [])]
theorem Le.forgetH {c:Cx}{σ:St} (l:List (Nat×AV)) (hp':Nat->Option Ob) (n:Nat) (h:holds σ.env l) (hh:∀ k,σ.hp k=hp' k) (hn:σ.nx=n):Le c σ ⟨ofL l,hp',n⟩:=by
 obtain rfl:σ.hp=hp':=funext hh;subst hn;exact Le.forget l h
theorem PSound.ofOwn {P:Program}{f:Nat}{R:List AV->List Ob->AV->List (Option Ob)->Prop} (hcall:∀ args w,(callFunc f args).run P w = .ok (.enter f args) w) (h:zS5 P f R):PSound P f (zD5 R) :=
 ⟨hcall,fun _ _ _ _ _ _ _ _ _ hs=>hs.elim,fun R' hR'=>(by
  obtain rfl:R=R' :=(by simpa [zD5] using hR');exact h),fun R hR=>(by cases hR)⟩
section
variable {T:Nat->Option TI} {Γ:Nat->Option zAq} {M nm L:List Nat} {N k n:Nat} {all os:List Oper} {o:Oper} {σ σ':St} {K:St->Prop} {φ:Option Prop} {x:AV} {d:Nat}
theorem zV8 {own:Bool}{t e q kk sz:Nat}{j ti:TI}{y hi:Operand}{n:Int}{ki:IntKind}{rows:List (List AV)} (ho:o.op = .slice t y none (some hi) none) (ht:T t=some ti) (hk:ti.k = .slice e) (hj:T e=some j) (hy:opd T σ.env t y = .orow q)
  (hi':opd T σ.env 0 hi = .s (.int ki n)) (hh:σ.hp q=some (.arow kk sz rows)) (hz:Nat.beq sz j.size=true) :
  step1 T own o σ=some (some (0<=n/\n<=rows.length),.orow σ.nx,zB8 (zGn σ q) (.arow kk sz (rows.take n.toNat))):=by
 have e1:zCE T own o σ.env=none :=(by simp only[zCE,ho,zMK,hy,AV.nrm,ht,hk,Option.map_none,Option.map_some,hi']);have e2:zDY T own o σ=none :=(by simp only[zDY,ho,elemOf,ht,hk,hj,hy,hi',hh]);simp only[step1,e1,zCj,e2,zDm,ho,elemOf,ht,hk,hj,hy,hi',hh,hz]
theorem zYb {own:Bool}{t tx e q q2 kk kk2 sz sz2:Nat}{j ti:TI}{args:Array Operand}{ts:Array Nat}{y z:Operand}{rows rows2:List (List AV)} (ho:o.op = .call { callee:=.builtin .append,args:=args,argTypes:=ts }) (ha:args.toList=[y,z]) (hts:ts.toList=[t,tx])
  (ht:T t=some ti) (hk:ti.k = .slice e) (hj:T e=some j) (htx:tk T tx = .slice e) (hy:opd T σ.env t y = .orow q) (hz:opd T σ.env tx z = .orow q2) (hh:σ.hp q=some (.arow kk sz rows)) (hh2:σ.hp q2=some (.arow kk2 sz2 rows2))
  (h1:Nat.beq sz j.size=true) (h2:Nat.beq sz2 j.size=true) (h3:Nat.beq e kk=true) :
  step1 T own o σ=some (some ((rows.length+rows2.length) * j.bytes<=140737488355328/\rows.length+rows2.length<=9223372036854775807),.orow σ.nx,zB8 (zGn σ q) (.arow e sz (rows++rows2))):=by
 have e1:zCE T own o σ.env=none :=(by simp only[zCE,ho]);have e2:zDY T own o σ=none :=(by simp only[zDY,ho,ha,hts,zJv,elemOf,ht,hk,hj,hy,zK7,hh]);simp only[step1,e1,zCj,e2,zDm,ho,ha,hts,elemOf,ht,hk,hj,hy,hz,zLA,hh,zLF,htx,hh2,h1,h2,h3]
theorem zXe {own:Bool}{t tx e q kk sz sz2 e2:Nat}{j ti:TI}{args:Array Operand}{ts:Array Nat}{y z:Operand}{rows:List (List AV)}{rows2:List (List S)} (ho:o.op = .call { callee:=.builtin .copy,args:=args,argTypes:=ts }) (ha:args.toList=[y,z]) (hts:ts.toList=[t,tx])
  (ht:T t=some ti) (hk:ti.k = .slice e) (hj:T e=some j) (htx:tk T tx = .slice e2) (hy:opd T σ.env t y = .orow q) (hz:opd T σ.env tx z = .s (.sl sz2 rows2)) (hh:σ.hp q=some (.arow kk sz rows))
  (h1:Nat.beq sz j.size=true) (h2:Nat.beq sz2 j.size=true) :
  step1 T own o σ=some (some ((rows2.map (·.map AV.s)).length=rows.length),.s (.int .i64 (rows.length:Int)),zFq σ q (.arow kk sz (rows2.map (·.map AV.s)))):=by
 have e1:zCE T own o σ.env=none :=(by simp only[zCE,ho,ha,hts,zVL,hy]);have e2:zDY T own o σ=none :=(by simp only[zDY,ho]);simp only[step1,e1,zCj,e2,zDm,ho,ha,hts,elemOf,ht,hk,hj,hy,hz,zLA,hh,zLF,htx,h1,h2]
theorem zYT {own:Bool}{t e:Nat}{j ti:TI}{y z:Operand}{n m:Int}{k1 k2:IntKind} (hw:own=true) (ho:o.op = .makeSlice t y z) (ht:T t=some ti) (hk:ti.k = .slice e) (hj:T e=some j) (hy:opd T σ.env 0 y = .s (.int k1 n)) (hz:opd T σ.env 0 z = .s (.int k2 m)) (h1:Nat.ble 1 j.size=true)
  (hp:zCE T own o σ.env=none) :
  step1 T own o σ=some (some (0<=n/\n<=m/\m * j.bytes<=281474976710656/\m<=281474976710656),.orow σ.nx,zB8 σ (.row e j.size (List.replicate n.toNat j.zero))):=by
 simp only[step1,hp,zCj,zDY,ho,elemOf,ht,hk,hj,hy,hz,h1]
end
def isL (sz:Nat) (p:AV):Prop:=(∃ q i,p = .rp q sz i 0)∨(∃ q,p = .op q 0)
def zBp:AV->Nat
 | .op q _=>q
 | .rp q _ _ _=>q
 | _=>0
def locO (p:AV) (off:Nat):AV:=match p with
 | .op q _=>.op q off
 | .rp q sz i _=>.rp q sz i off
 | x=>x
def zAR (hp:Nat->Option Ob):AV->Option (List AV)
 | .op q 0=>match hp q with | some (.box _ cs)=>some cs | _=>none
 | .rp q sz i 0=>match hp q with | some (.arow _ sz' rows)=>bif Nat.beq sz sz' then rows[i]? else none | _=>none
 | _=>none
def putC (hp:Nat->Option Ob) (p:AV) (c:List AV) (k:Nat):Option Ob:=match p with
 | .op q _=>match hp q with | some (.box bt _)=>bif Nat.beq k q then some (.box bt c) else hp k | _=>hp k
 | .rp q _ i _=>match hp q with | some (.arow e sz rows)=>bif Nat.beq k q then some (.arow e sz (rows.set i c)) else hp k | _=>hp k
 | _=>hp k
theorem zEi {k q:Nat} (h:k ≠ q):Nat.beq k q=false:=by
 cases e:Nat.beq k q with
 | true=>exact absurd (Nat.eq_of_beq_eq_true e) h
 | false=>rfl
theorem zBQ {hp:Nat->Option Ob}{p:AV}{c:List AV}{k:Nat} (h:k ≠ zBp p):putC hp p c k=hp k:=by
 unfold putC;split
 ·rename_i q _
  have h:k ≠ q:=h;split
  ·rw[zEi h,cond_false]
  ·rfl
 ·rename_i q _ _ _
  have h:k ≠ q:=h;split
  ·rw[zEi h,cond_false]
  ·rfl
 ·rfl
theorem zGm {hp:Nat->Option Ob}{q o bt:Nat}{cs c:List AV} (h:hp q=some (.box bt cs)):putC hp (.op q o) c=fun k=>bif Nat.beq k q then some (.box bt c) else hp k:=by
 funext k; simp only[putC,h]
theorem zJC {hp:Nat->Option Ob}{q s i o e sz:Nat}{rows:List (List AV)}{c:List AV} (h:hp q=some (.arow e sz rows)):putC hp (.rp q s i o) c=fun k=>bif Nat.beq k q then some (.arow e sz (rows.set i c)) else hp k:=by
 funext k; simp only[putC,h]
theorem zEk {hp:Nat->Option Ob}{q bt:Nat}{cs:List AV} (h:hp q=some (.box bt cs)):zAR hp (.op q 0)=some cs:=by simp only[zAR,h]
theorem zFJ {hp:Nat->Option Ob}{q e sz i:Nat}{rows:List (List AV)} (h:hp q=some (.arow e sz rows)):zAR hp (.rp q sz i 0)=rows[i]?:=by simp only[zAR,h,Nat.beq_refl,cond_true]
theorem zCP {hp:Nat->Option Ob}{sz:Nat}{p:AV}{cs:List AV} (hl:isL sz p) (h:zAR hp p=some cs):(∃ q i e rows,p = .rp q sz i 0/\hp q=some (.arow e sz rows)/\rows[i]? = some cs)∨∃ q bt,p = .op q 0/\hp q=some (.box bt cs):=by
 rcases hl with ⟨q,i,rfl⟩ | ⟨q,rfl⟩
 ·simp only[zAR]at h;split at h
  ·rename_i e sz' rows hq
   cases hb:Nat.beq sz sz' with
   | false=>rw[hb]at h; cases h
   | true =>
    rw[hb,cond_true]at h;obtain rfl:=Nat.eq_of_beq_eq_true hb;exact .inl ⟨q,i,e,rows,rfl,hq,h⟩
  ·cases h
 ·simp only[zAR]at h;split at h
  ·rename_i bt cs' hq
   cases h;exact .inr ⟨q,bt,rfl,hq⟩
  ·cases h
theorem zJr {hp:Nat->Option Ob}{sz:Nat}{p:AV}{c cs:List AV} (hl:isL sz p) (h:zAR hp p=some cs):zAR (putC hp p c) p=some c:=by
 rcases zCP hl h with ⟨q,i,e,rows,rfl,hq,hi⟩ | ⟨q,bt,rfl,hq⟩
 ·rw[zJC hq,zFJ (e:=e) (rows:=rows.set i c) (by simp only[Nat.beq_refl,cond_true]),List.getElem?_set,if_pos rfl,if_pos (List.getElem?_eq_some_iff.1 hi).1]
 ·rw[zGm hq,zEk (bt:=bt) (cs:=c) (by simp only[Nat.beq_refl,cond_true])]
theorem zCk {hp hp':Nat->Option Ob}{sz:Nat}{p:AV} (hl:isL sz p) (h:hp' (zBp p)=hp (zBp p)):zAR hp' p=zAR hp p:=by
 rcases hl with ⟨q',i',rfl⟩ | ⟨q',rfl⟩ <;> (simp only[zBp]at h; simp only[zAR,h])
theorem zVR {hp:Nat->Option Ob}{sz:Nat}{p p':AV}{c cs:List AV} (hl:isL sz p) (hc:zAR hp p=some cs) (hl':isL sz p') (hne:p' ≠ p):zAR (putC hp p c) p'=zAR hp p':=by
 by_cases hb:zBp p'=zBp p
 ·rcases zCP hl hc with ⟨q,i,e,rows,rfl,hq,hi⟩ | ⟨q,bt,rfl,hq⟩
  ·have hp2:putC hp (.rp q sz i 0) c q=some (.arow e sz (rows.set i c)) :=(by rw[zJC hq]; simp only[Nat.beq_refl,cond_true]);rcases hl' with ⟨q',i',rfl⟩ | ⟨q',rfl⟩ <;> (simp only[zBp]at hb; subst hb)
   ·have hi:i' ≠ i:=fun e=>hne (by rw[e])
    rw[zFJ hp2,zFJ hq,List.getElem?_set,if_neg (Ne.symm hi)]
   ·simp only[zAR,hp2,hq]
  ·have hp2:putC hp (.op q 0) c q=some (.box bt c) :=(by rw[zGm hq]; simp only[Nat.beq_refl,cond_true]);rcases hl' with ⟨q',i',rfl⟩ | ⟨q',rfl⟩ <;> (simp only[zBp]at hb; subst hb)
   ·simp only[zAR,hp2,hq]
   ·exact absurd rfl hne
 ·exact zCk hl' (zBQ hb)
theorem zWZ {hp:Nat->Option Ob}{sz':Nat}{p:AV}{c cs:List AV} (hl:isL sz' p) (hc:zAR hp p=some cs){q e sz:Nat}{rows:List (List AV)} (h:hp q=some (.arow e sz rows)):∃ rows',putC hp p c q=some (.arow e sz rows')/\rows'.length=rows.length:=by
 by_cases hb:q=zBp p
 ·subst hb;rcases zCP hl hc with ⟨q,i,e',rows',rfl,hq,hi⟩ | ⟨q,bt,rfl,hq⟩
  ·simp only[zBp]at h ⊢;rw[hq]at h; cases h
   rw[zJC hq]; exact⟨_,by simp only[Nat.beq_refl,cond_true]; rfl,List.length_set ..⟩
  ·simp only[zBp]at h;rw[hq]at h; cases h
 ·rw[zBQ hb]; exact⟨rows,h,rfl⟩
section
variable {T:Nat->Option TI} {Γ:Nat->Option zAq} {M nm L:List Nat} {N k n:Nat} {all os:List Oper} {o:Oper} {σ σ':St} {K:St->Prop} {φ:Option Prop} {x:AV} {d:Nat}
theorem zEZ {own:Bool}{sz:Nat}{p:AV}{y:Operand} (hl:isL sz p) (ho:o.op = .nilCheck y) (hy:opd T σ.env 0 y=p):step1 T own o σ=some (none,p,σ):=by
 have e1:zCE T own o σ.env=some (none,p):=by
  rcases hl with ⟨q,i,rfl⟩ | ⟨q,rfl⟩ <;> simp only[zCE,ho,hy]
 simp only[step1,e1]
theorem zFu {own:Bool}{sz:Nat}{p:AV}{t f off ft:Nat}{ti j:TI}{fs:List (Nat×Nat)}{y:Operand} (hl:isL sz p) (ho:o.op = .fieldAddr t y f) (hy:opd T σ.env 0 y=p) (ht:T t=some ti) (hk:ti.k = .struct fs) (hf:fs[f]? = some (off,ft)) (hj:T ft=some j) (hz:Nat.ble 1 j.size=true) :
  step1 T own o σ=some (none,locO p off,σ):=by
 have e1:zCE T own o σ.env=some (none,locO p off):=by
  rcases hl with ⟨q,i,rfl⟩ | ⟨q,rfl⟩ <;> simp only[zCE,ho,hy,zHe,ht,hk,hf,hj,hz,zNx,locO,Nat.zero_add]
 simp only[step1,e1]
theorem zD2 {sz t off:Nat}{ti:TI}{y:Operand}{p c:AV}{cs:List AV} (hg:o.guard=none) (hd:o.dst=some d) (hN:Nat.blt d N=true) (hn:dIn (some d) nm=false) (ho:o.op = .load t y) (ht:T t=some ti) (ha:ti.k.agg=false) (hl:isL sz p) (hy:opd T σ.env 0 y=locO p off)
  (hcs:zAR σ.hp p=some cs) (hc:cs[off]? = some c) (h:zDd T Γ M nm N all os (σ.putN d c) K):zDd T Γ M nm N all (o::os) σ K:=by
 rcases zCP hl hcs with ⟨q,i,e,rows,rfl,hq,hi⟩ | ⟨q,bt,rfl,hq⟩
 ·have hgd:rows.getD i []=cs :=(by rw[List.getD_eq_getElem?_getD,hi]; rfl);refine zQR hg hd hN hn ho hy hq (List.getElem?_eq_some_iff.1 hi).1 (c:=c) ?_ h;simp only[zPe,ht,ha,hgd]
  rw[List.drop_eq_getElem_cons (List.getElem?_eq_some_iff.1 hc).1]
  simp only[(List.getElem?_eq_some_iff.1 hc).2]
 ·have hcall:callOf T Γ o σ.env=none :=(by simp only[callOf,ho]);exact zAi hg hd hN hcall hn (zXf ho ht ha hy hq hc) trivial h
theorem zQS {sz t off:Nat}{ti:TI}{y z:Operand}{p c:AV}{cs:List AV} (hg:o.guard=none) (hd:o.dst=none) (ho:o.op = .store t y z) (ht:T t=some ti) (hs:ti.size=1) (hl:isL sz p) (hy:opd T σ.env 0 y=locO p off)
  (hcs:zAR σ.hp p=some cs) (hlen:cs.length=sz) (hoff:off<sz) (hz:(opd T σ.env t z).cellsA=[c]) (ho1:c.one=true) (hlt:c.lt σ.nx=true)
  (h:zDd T Γ M nm N all os { σ with hp:=putC σ.hp p (cs.set off c) } K):zDd T Γ M nm N all (o::os) σ K:=by
 have hcall:callOf T Γ o σ.env=none :=(by simp only[callOf,ho]);have hset:cs.take off++[c]++cs.drop (off+1)=cs.set off c:=by
  rw[List.set_eq_take_append_cons_drop,if_pos (by omega)]; simp
 have h1:Nat.ble (off+1) sz=true:=Nat.ble_eq_true_of_le hoff;rcases zCP hl hcs with ⟨q,i,e,rows,rfl,hq,hi⟩ | ⟨q,bt,rfl,hq⟩
 ·have hgd:rows.getD i []=cs :=(by rw[List.getD_eq_getElem?_getD,hi]; rfl);have hst:=zRB (T:=T) (own:=dIn none M) (o:=o) (σ:=σ) ho ht hy hq (Nat.beq_refl _) (by rw[hz,hs]; rfl) (by rw[hs]; exact h1) (by rw[hz]; simp[ho1])
  refine zF8 hg hd hcall hst (List.getElem?_eq_some_iff.1 hi).1 ?_;rw[hgd,hz,hs,hset]
  rw[zJC hq]at h;exact h
 ·have hst:=zM0 (T:=T) (own:=dIn none M) (o:=o) (σ:=σ) ho ht hy hq (by rw[hz,hs]; rfl) (by rw[hs,hlen]; exact h1) (by rw[hz]; simp[ho1]) (by rw[hz]; simp[AV.ltAll,hlt])
  refine zF8 hg hd hcall hst trivial ?_;rw[hz,hs,hset]
  rw[zGm hq]at h;exact h
theorem zGZ {sz t:Nat}{ti:TI}{y z:Operand}{p:AV}{cs cs':List AV} (hg:o.guard=none) (hd:o.dst=none) (ho:o.op = .store t y z) (ht:T t=some ti) (hs:ti.size=sz) (hl:isL sz p) (hy:opd T σ.env 0 y=p)
  (hcs:zAR σ.hp p=some cs) (hlen:cs.length=sz) (hz:(opd T σ.env t z).cellsA=cs') (hlen':cs'.length=sz) (ho1:cs'.all AV.one=true) (hlt:AV.ltAll σ.nx cs'=true)
  (h:zDd T Γ M nm N all os { σ with hp:=putC σ.hp p cs' } K):zDd T Γ M nm N all (o::os) σ K:=by
 have hcall:callOf T Γ o σ.env=none :=(by simp only[callOf,ho]);have hset:cs.take 0++cs'++cs.drop (0+sz)=cs':=by
  rw[List.drop_eq_nil_of_le (by omega)]; simp
 have h1:Nat.ble (0+sz) sz=true:=Nat.ble_eq_true_of_le (by omega)
 have h2:Nat.beq cs'.length ti.size=true :=(by rw[hlen',hs]; exact Nat.beq_refl _);rcases zCP hl hcs with ⟨q,i,e,rows,rfl,hq,hi⟩ | ⟨q,bt,rfl,hq⟩
 ·have hgd:rows.getD i []=cs :=(by rw[List.getD_eq_getElem?_getD,hi]; rfl);have hst:=zRB (T:=T) (own:=dIn none M) (o:=o) (σ:=σ) ho ht hy hq (Nat.beq_refl _) (by rw[hz]; exact h2) (by rw[hs]; exact h1) (by rw[hz]; exact ho1)
  refine zF8 hg hd hcall hst (List.getElem?_eq_some_iff.1 hi).1 ?_;rw[hgd,hz,hs,hset]
  rw[zJC hq]at h;exact h
 ·have hst:=zM0 (T:=T) (own:=dIn none M) (o:=o) (σ:=σ) ho ht hy hq (by rw[hz]; exact h2) (by rw[hs,hlen]; exact h1) (by rw[hz]; exact ho1) (by rw[hz]; exact hlt)
  refine zF8 hg hd hcall hst trivial ?_;rw[hz,hs,hset]
  rw[zGm hq]at h;exact h
theorem zDf {j g:Nat}{want:Bool} (hg:o.guard=some (j,want)) (hj:(all[j]?).bind (·.dst)=some g) (hv:σ.env g = .s (.bool want)) (h:zDd T Γ M nm N all ({ o with guard:=none }::os) σ K):zDd T Γ M nm N all (o::os) σ K:=by
 unfold zDd at h ⊢;dsimp only at h ⊢;split
 ·rename_i h0
  rw[h0]at h;exact h
 ·rename_i h0
  rw[h0]at h;rw[hg]
  dsimp only;rw[hj]
  dsimp only;rw[hv]
  cases want <;> exact h
end
theorem PSound.giveAll {P:Program}{f:Nat}{R:List AV->(Nat->Option Ob)->Nat->(AV->(Nat->Option Ob)->Nat->Prop)->Prop}{S:List AV->Ret->Prop} (h:PSound P f (zQY R))
  (hS:∀ xs r,S xs r->∃ y,r = .val y/\y.pers=true/\R xs (fun _=>none) 0 fun x hp n=>RdV hp x y):PSound P f (zAs S):=by
 refine⟨h.1,fun G w xs vs r hlt hgl hp hv hs=>?_,fun R hR=>(by cases hR),fun R hR=>(by cases hR)⟩
 obtain⟨y,rfl,hy,hR⟩:=hS xs r hs;refine(h.2.2.2 R rfl G w (fun _=>.tuple #[]) xs vs (fun _=>none) 0 _ hlt hgl hv (AV.persAll_lt hp) ⟨fun k ob hk=>(by cases hk),fun k ob hk=>(by cases hk),fun k k' ob ob' hk=>(by cases hk)⟩ hR).mono ?_;rintro e w' ⟨v,G',β',x,hp',n',rfl,hΦ,hn,hfr,hsub,hnew,hlt',hx,hxl,hob,hst⟩
 let c:Cx:=zFb P w (fun _=>.tuple #[]) (fun _=>none) 0 G 0
 have hk:Keep G G' w w':=⟨hsub,fun b hb=>hfr.old b (hlt b hb) (by rintro⟨k,ob,h,_⟩; cases h)⟩
 have hc:Conc c G' β' ⟨fun _=>.junk,hp',n'⟩ { tmps:=#[],defers:=[] } w':={
  defers:=rfl
  size:=rfl
  env:=fun t=>by simp only[AVal]
  envlt:=fun t=>rfl
  hp:=hob.obs
  hplt:=hob.lts
  inj:=hob.inj
  lt:=hlt'
  sub:=hsub
  new:=hnew
  fr:=hfr
  stay:=⟨hn,hst⟩
  glob:=hgl.keep hk }
 have hmine:∀ b,c.mine b->w.heap.size<=b:=fun b hb=>by
  rcases hb with ⟨k,ob,h,_⟩ | h
  ·cases h
  ·exact h
 refine⟨v,allG G' β' hp',rfl,⟨hfr.os,hfr.tape,hfr.output,hfr.size,fun b hb=>hfr.old b hb (by rintro⟨k,ob,h,_⟩; cases h),fun b hb=>.inl (hsub b hb),fun b hb=>?_,fun b hb=>?_⟩,hy,(hΦ.aval hc hx).pers hy⟩
 ·rcases hb with hb | ⟨k,ob,h1,h2⟩
  ·exact(hnew b hb).imp id (hmine b)
  ·exact .inr (hmine b (row_block (hc.hp k ob h1) b h2).2)
 ·rcases hb with hb | ⟨k,ob,h1,h2⟩
  ·exact hlt' b hb
  ·exact hc.blk_lt h1 h2
theorem ObAt.give {c:Cx}{G G':Nat->Prop}{w:World}{β:Nat->Value}{v:Value}{ob:Ob} (hs:∀ b,G b->G' b) (hng:∀ b,blk v=some b->¬ G' b) (h:ObAt c G w β v ob):ObAt c G' w β v ob:=by
 have hk:Keep G G' w w:=⟨hs,fun _ _=>rfl⟩
 cases ob with
 | box t xs =>
  obtain⟨b,e,cur,q1,q2,q3,q4,q5,q6⟩:=h;exact⟨b,e,cur,q1,q2,hng b (by rw[q1]; rfl),q4,q5.keep hk,q6⟩
 | row e sz rows =>
  obtain⟨q1,q2,q3⟩:=h;refine⟨q1,q2,q3.imp id ?_⟩
  rintro⟨b,cap,cur,g1,g2,g3,g4,g5,g6,g7⟩
  exact⟨b,cap,cur,g1,g2,g3,g4,hng b (by rw[g1]; rfl),g6,fun i s hi=>let ⟨u,hu,hr'⟩:=g7 i s hi; ⟨u,hu,hr'.keep hk⟩⟩
 | arow e sz rows =>
  obtain⟨q1,q2,q3⟩:=h;refine⟨q1,q2,q3.imp id ?_⟩
  rintro⟨b,cap,cur,g1,g2,g3,g4,g5,g6,g7⟩
  exact⟨b,cap,cur,g1,g2,g3,g4,hng b (by rw[g1]; rfl),g6,fun i x hi=>let ⟨u,hu,hr',h1⟩:=g7 i x hi; ⟨u,hu,hr'.keep hk,h1⟩⟩
theorem RdV.lt {hp:Nat->Option Ob}{x y:AV} (h:RdV hp x y) (n:Nat):y.lt n=true:=by
 unfold RdV at h;split at h
 ·rfl
 ·rename_i xs ys
  simp only[AV.lt]
  refine zMx fun q y hq=>?_
  have hil:q<xs.length :=(by rw[h.1]; exact(List.getElem?_eq_some_iff.1 hq).1);obtain⟨s,rfl,_⟩:=h.2 q _ y (List.getElem?_eq_getElem hil) hq
  rfl
 ·rfl
 ·exact h.elim
def RdK (hp:Nat->Option Ob) (env:Nat->AV):List (Nat×AV)->Prop
 | []=>True
 | (t,y)::r=>(y=env t∨RdV hp (env t) y)/\RdK hp env r
theorem RdK.lt {hp:Nat->Option Ob}{env:Nat->AV}{n:Nat} (he:∀ t,(env t).lt n=true):∀ {l:List (Nat×AV)},RdK hp env l->∀ t,(ofL l t).lt n=true
 | [],_,t=>rfl
 | (u,y)::r,h,t=>by
  simp only[ofL]
  cases Nat.beq t u with
  | true =>
   rcases h.1 with h1 | h1
   ·rw[h1]; exact he u
   ·exact h1.lt n
  | false=>exact RdK.lt he h.2 t
theorem Le.givePart {c:Cx}{σ:St} (l:List (Nat×AV)) (hpD hpK:Nat->Option Ob) (hD:∀ k ob,hpD k=some ob->σ.hp k=some ob) (hK:∀ k ob,hpK k=some ob->σ.hp k=some ob) (dis:∀ k ob ob',hpD k=some ob->hpK k=some ob'->False)
  (h:RdK hpD σ.env l):Le c σ ⟨ofL l,hpK,σ.nx⟩:=by
 unfold Le;intro G β a w hc;have hk:Keep G (allG G β hpD) w w:=⟨fun _ h=>.inl h,fun _ _=>rfl⟩
 have hcD:Conc c G β ⟨σ.env,hpD,σ.nx⟩ a w:={ hc with hp:=fun k ob hk=>hc.hp k ob (hD k ob hk),hplt:=fun k ob hk=>hc.hplt k ob (hD k ob hk),inj:=fun k k' ob ob' hk hk'=>hc.inj k k' ob ob' (hD k ob hk) (hD k' ob' hk') }
 refine⟨allG G β hpD,β,{ defers:=hc.defers,size:=hc.size,env:=?_,envlt:=RdK.lt hc.envlt h,hp:=fun k ob hk'=>?_,hplt:=fun k ob hk=>hc.hplt k ob (hK k ob hk),inj:=fun k k' ob ob' hk hk'=>hc.inj k k' ob ob' (hK k ob hk) (hK k' ob' hk'),lt:=fun b hb=>?_,sub:=fun b hb=>.inl (hc.sub b hb),new:=fun b hb=>?_,fr:=hc.fr,stay:=hc.stay,glob:=hc.glob.keep hk }⟩
 ·intro t;show AVal (allG G β hpD) w β (ofL l t) (a.tmps.getD t undef)
  induction l with
  | nil=>simp only[ofL,AVal]
  | cons p r ih =>
   obtain⟨u,y⟩:=p;simp only[ofL]
   cases e:Nat.beq t u with
   | true =>
    obtain rfl:=Nat.eq_of_beq_eq_true e;rcases h.1 with h1 | h1
    ·rw[h1]; exact(hc.env t).keep hk
    ·exact h1.aval hcD (hc.env t)
   | false=>exact ih h.2
 ·refine(hc.hp k ob (hK k ob hk')).give (fun b h=>.inl h) fun b hb hg=>?_
  rcases hg with hg | ⟨k',ob',h1,h2⟩
  ·exact(row_block (hc.hp k ob (hK k ob hk')) b hb).1 hg
  ·by_cases e:k=k'
   ·subst e; exact dis k ob' ob h1 hk'
   ·exact hc.inj k k' ob ob' (hK k ob hk') (hD k' ob' h1) e b hb h2
 ·rcases hb with hb | ⟨k,ob,h1,h2⟩
  ·exact hc.lt b hb
  ·exact hc.blk_lt (hD k ob h1) h2
 ·rcases hb with hb | ⟨k,ob,h1,h2⟩
  ·exact hc.new b hb
  ·exact .inr (row_block (hc.hp k ob (hD k ob h1)) b h2).2
end Go.Abs
namespace Go.Proofs.YtffhjiplcfncdaaGreat
open Go.Abs
def zBi (k:Int) (t:List UInt8) (c:Int) (v:AV):List AV:=[.s (.int .i64 k),.s (.str t),.s (.int .i64 c),v]
mutual
def At (hp:Nat->Option Ob) (e:Nat) (p:AV):Nd->List Nat->List AV->Nat->Prop
 | .mk k t c ks,keys,pd,w=>∃ v,zAR hp p=some (zBi k t c v) /\
   ((v = .s (.sl 4 (Nd.encs ks))/\keys=[]/\pd=[p]/\w=Nd.cnts ks+1)∨(ks=[]/\v = .s (.sl 4 [])/\keys=[]/\pd=[]/\w=0) ∨
    ∃ q rows keys',v = .orow q/\hp q=some (.arow e 4 rows)/\rows.length=ks.length/\keys=q::keys'/\LAt hp e q 0 ks keys' pd w)
def LAt (hp:Nat->Option Ob) (e q i:Nat):List Nd->List Nat->List AV->Nat->Prop
 | [],keys,pd,w=>keys=[]/\pd=[]/\w=0
 | t::ts,keys,pd,w=>∃ k1 k2 p1 p2 w1 w2,keys=k1++k2/\pd=p1++p2/\w=w1+w2/\At hp e (.rp q 4 i 0) t k1 p1 w1/\LAt hp e q (i+1) ts k2 p2 w2
end
mutual
theorem At.len {hp:Nat->Option Ob}{e:Nat}{p:AV}:∀ {t:Nd}{keys:List Nat}{pd:List AV}{w:Nat},At hp e p t keys pd w->pd.length<=w/\w<=t.cnt
 | .mk k t c ks,keys,pd,w,h=>by
  simp only[At]at h
  obtain⟨v,_,⟨_,_,rfl,rfl⟩ | ⟨_,_,_,rfl,rfl⟩ | ⟨q,rows,keys',_,_,_,_,h⟩⟩:=h
  ·simp[Nd.cnt]
  ·simp
  ·have:=LAt.len h
   simp only[Nd.cnt]; omega
theorem LAt.len {hp:Nat->Option Ob}{e q i:Nat}:∀ {ts:List Nd}{keys:List Nat}{pd:List AV}{w:Nat},LAt hp e q i ts keys pd w->pd.length<=w/\w<=Nd.cnts ts
 | [],keys,pd,w,h=>by
  simp only[LAt]at h
  obtain⟨_,rfl,rfl⟩:=h
  simp
 | t::ts,keys,pd,w,h=>by
  simp only[LAt]at h
  obtain⟨k1,k2,p1,p2,w1,w2,_,rfl,rfl,h1,h2⟩:=h
  have:=At.len h1
  have:=LAt.len h2
  simp only[Nd.cnts,List.length_append]; omega
end
structure Sim (hp hp':Nat->Option Ob) (e:Nat) (D:Nat->Prop) (p0:AV):Prop where
 row:∀ q rows,D q->hp q=some (.arow e 4 rows)->∃ rows',hp' q=some (.arow e 4 rows')/\rows'.length=rows.length
 cell:∀ p,D (zBp p)->p ≠ p0->isL 4 p->zAR hp' p=zAR hp p
theorem Sim.sub {hp hp':Nat->Option Ob}{e:Nat}{D D':Nat->Prop}{p0:AV} (h:Sim hp hp' e D p0) (hd:∀ q,D' q->D q):Sim hp hp' e D' p0 :=
 ⟨fun q rows hq=>h.row q rows (hd q hq),fun p hp=>h.cell p (hd _ hp)⟩
mutual
theorem At.sameQ {hp hp':Nat->Option Ob}{e:Nat}{p p0:AV}:∀ {t:Nd}{keys:List Nat}{pd:List AV}{w:Nat},At hp e p t keys pd w->isL 4 p->Sim hp hp' e (fun k=>k=zBp p∨k∈keys) p0->p ≠ p0->(∀ q j,q∈keys->AV.rp q 4 j 0 ≠ p0)->At hp' e p t keys pd w
 | .mk k t c ks,keys,pd,w,h,hl,hs,hne,hb=>by
  simp only[At]at h ⊢
  obtain⟨v,hc,h⟩:=h
  refine⟨v,by rw[hs.cell p (.inl rfl) hne hl,hc],?_⟩
  rcases h with h | h | ⟨q,rows,keys',h1,h2,h3,rfl,h5⟩
  ·exact .inl h
  ·exact .inr (.inl h)
  ·obtain⟨rows',h6,h7⟩:=hs.row q rows (.inr List.mem_cons_self) h2
   exact .inr (.inr ⟨q,rows',keys',h1,h6,h7.trans h3,rfl,LAt.sameQ h5 (hs.sub fun k hk=>.inr (List.mem_cons.2 hk)) (fun j _=>hb q j List.mem_cons_self) (fun q' j hm=>hb q' j (List.mem_cons_of_mem _ hm))⟩)
theorem LAt.sameQ {hp hp':Nat->Option Ob}{e q i:Nat}{p0:AV}:∀ {ts:List Nd}{keys:List Nat}{pd:List AV}{w:Nat},LAt hp e q i ts keys pd w->Sim hp hp' e (fun k=>k=q∨k∈keys) p0->(∀ j,i<=j->AV.rp q 4 j 0 ≠ p0)->(∀ q' j,q'∈keys->AV.rp q' 4 j 0 ≠ p0)->LAt hp' e q i ts keys pd w
 | [],_,_,_,h,_,_,_=>h
 | t::ts,keys,pd,w,h,hs,hne,hb=>by
  simp only[LAt]at h ⊢
  obtain⟨k1,k2,p1,p2,w1,w2,rfl,rfl,rfl,h1,h2⟩:=h
  exact⟨k1,k2,p1,p2,w1,w2,rfl,rfl,rfl,
   At.sameQ h1 (.inl ⟨q,i,rfl⟩) (hs.sub fun k hk=>hk.imp id (List.mem_append_left _)) (hne i (Nat.le_refl _)) (fun q' j hm=>hb q' j (List.mem_append_left _ hm)),
   LAt.sameQ h2 (hs.sub fun k hk=>hk.imp id (List.mem_append_right _)) (fun j hj=>hne j (by omega)) (fun q' j hm=>hb q' j (List.mem_append_right _ hm))⟩
end
theorem At.same {hp hp':Nat->Option Ob}{e:Nat}{p p0:AV}{t:Nd}{keys:List Nat}{pd:List AV}{w:Nat} (h:At hp e p t keys pd w) (hl:isL 4 p) (hs:Sim hp hp' e (fun k=>k=zBp p∨k∈keys) p0) (hne:p ≠ p0) (hb:zBp p0 ∉ keys):At hp' e p t keys pd w :=
 h.sameQ hl hs hne fun q j hm e=>hb (by rw[← e]; exact hm)
theorem LAt.same {hp hp':Nat->Option Ob}{e q i:Nat}{p0:AV}{ts:List Nd}{keys:List Nat}{pd:List AV}{w:Nat} (h:LAt hp e q i ts keys pd w) (hs:Sim hp hp' e (fun k=>k=q∨k∈keys) p0) (hne:∀ j,i<=j->AV.rp q 4 j 0 ≠ p0) (hb:zBp p0 ∉ keys):LAt hp' e q i ts keys pd w :=
 h.sameQ hs hne fun q j hm e=>hb (by rw[← e]; exact hm)
theorem Sim.same {hp hp':Nat->Option Ob}{e:Nat}{D:Nat->Prop}{p0:AV} (h:∀ k,D k->hp' k=hp k):Sim hp hp' e D p0 :=
 ⟨fun q rows hq hr=>⟨rows,(h q hq).trans hr,rfl⟩,fun p hp _ hl=>zCk hl (h _ hp)⟩
theorem At.frame {hp hp':Nat->Option Ob}{e:Nat}{p:AV}{t:Nd}{keys:List Nat}{pd:List AV}{w:Nat} (h:At hp e p t keys pd w) (hl:isL 4 p) (hs:∀ k,k=zBp p∨k∈keys->hp' k=hp k):At hp' e p t keys pd w :=
 h.sameQ hl (Sim.same (p0:=.junk) hs) (fun e=>by rcases hl with ⟨_,_,rfl⟩ | ⟨_,rfl⟩ <;> cases e) (fun q j _ e=>by cases e)
mutual
theorem At.base {hp:Nat->Option Ob}{e:Nat}{p p0:AV}:∀ {t:Nd}{keys:List Nat}{pd:List AV}{w:Nat},At hp e p t keys pd w->p0∈pd->p0=p∨zBp p0∈keys
 | .mk k t c ks,keys,pd,w,h,hm=>by
  simp only[At]at h
  obtain⟨v,_,⟨_,_,rfl,_⟩ | ⟨_,_,_,rfl,_⟩ | ⟨q,rows,keys',_,_,_,rfl,h⟩⟩:=h
  ·exact .inl (List.mem_singleton.1 hm)
  ·cases hm
  ·rcases LAt.base h hm with ⟨j,_,rfl⟩ | h
   ·exact .inr List.mem_cons_self
   ·exact .inr (List.mem_cons_of_mem _ h)
theorem LAt.base {hp:Nat->Option Ob}{e q i:Nat}{p0:AV}:∀ {ts:List Nd}{keys:List Nat}{pd:List AV}{w:Nat},LAt hp e q i ts keys pd w->p0∈pd->(∃ j,i<=j/\p0 = .rp q 4 j 0)∨zBp p0∈keys
 | [],keys,pd,w,h,hm=>by
  simp only[LAt]at h
  obtain⟨_,rfl,_⟩:=h
  cases hm
 | t::ts,keys,pd,w,h,hm=>by
  simp only[LAt]at h
  obtain⟨k1,k2,p1,p2,w1,w2,rfl,rfl,rfl,h1,h2⟩:=h
  rcases List.mem_append.1 hm with hm | hm
  ·rcases At.base h1 hm with rfl | hm
   ·exact .inl ⟨i,Nat.le_refl _,rfl⟩
   ·exact .inr (List.mem_append_left _ hm)
  ·rcases LAt.base h2 hm with ⟨j,hj,hm⟩ | hm
   ·exact .inl ⟨j,by omega,hm⟩
   ·exact .inr (List.mem_append_right _ hm)
end
mutual
theorem At.loc {hp:Nat->Option Ob}{e:Nat}{p p0:AV}:∀ {t:Nd}{keys:List Nat}{pd:List AV}{w:Nat},At hp e p t keys pd w->isL 4 p->p0∈pd->isL 4 p0
 | .mk k t c ks,keys,pd,w,h,hl,hm=>by
  simp only[At]at h
  obtain⟨v,_,⟨_,_,rfl,_⟩ | ⟨_,_,_,rfl,_⟩ | ⟨q,rows,keys',_,_,_,rfl,h⟩⟩:=h
  ·rw[List.mem_singleton.1 hm]; exact hl
  ·cases hm
  ·exact LAt.loc h hm
theorem LAt.loc {hp:Nat->Option Ob}{e q i:Nat}{p0:AV}:∀ {ts:List Nd}{keys:List Nat}{pd:List AV}{w:Nat},LAt hp e q i ts keys pd w->p0∈pd->isL 4 p0
 | [],keys,pd,w,h,hm=>by
  simp only[LAt]at h
  obtain⟨_,rfl,_⟩:=h
  cases hm
 | t::ts,keys,pd,w,h,hm=>by
  simp only[LAt]at h
  obtain⟨k1,k2,p1,p2,w1,w2,rfl,rfl,rfl,h1,h2⟩:=h
  rcases List.mem_append.1 hm with hm | hm
  ·exact At.loc h1 (.inl ⟨q,i,rfl⟩) hm
  ·exact LAt.loc h2 hm
end
theorem zWx {α:Type}{a b S:List α}{x:α} (h:a++b=S++[x]):(b=[]/\a=S++[x])∨∃ S2,b=S2++[x]/\S=a++S2:=by
 rcases List.eq_nil_or_concat b with rfl | ⟨b',y,rfl⟩
 ·exact .inl ⟨rfl,by simpa using h⟩
 ·rw[List.concat_eq_append,← List.append_assoc]at h;have:=List.append_inj' h rfl;obtain⟨h1,h2⟩:=this;cases h2;exact .inr ⟨b',List.concat_eq_append,h1.symm⟩
def Repl (hp:Nat->Option Ob) (e:Nat) (p0:AV) (S:List AV) (w:Nat) (D:Nat->Prop) (keys:List Nat) (P:(Nat->Option Ob)->List Nat->List AV->Nat->Prop):Prop :=
 ∃ t0 w0,At hp e p0 t0 [] [p0] t0.cnt/\w=w0+t0.cnt/\∀ hp' new ch w',Sim hp hp' e D p0->At hp' e p0 t0 new ch w'->∃ keys2,keys2.Perm (keys++new)/\P hp' keys2 (S++ch) (w0+w')
theorem zWW {a b n:List Nat}{k2:List Nat} (h:k2.Perm (a++n)):(k2++b).Perm (a++b++n) :=
 (h.append_right b).trans (by rw[List.append_assoc,List.append_assoc]; exact(List.perm_append_comm).append_left a)
mutual
theorem At.repl {hp:Nat->Option Ob}{e:Nat}{p p0:AV}{S:List AV}:∀ {t:Nd}{keys:List Nat}{w:Nat},At hp e p t keys (S++[p0]) w->isL 4 p->(zBp p::keys).Nodup ->
  Repl hp e p0 S w (fun k=>k=zBp p∨k∈keys) keys fun hp' keys2 pd w=>At hp' e p t keys2 pd w
 | .mk k t c ks,keys,w,h,hl,hn=>by
  have h0:=h
  simp only[At]at h
  obtain⟨v,hc,⟨rfl,rfl,h2,rfl⟩ | ⟨_,_,_,h2,_⟩ | ⟨q,rows,keys',rfl,hq,hlen,rfl,h⟩⟩:=h
  ·cases S with
   | cons x S=>cases S <;> simp at h2
   | nil =>
    obtain rfl:p0=p:=by simpa using h2
    refine⟨.mk k t c ks,0,h0,by simp[Nd.cnt],fun hp' new ch w' _ ha=>⟨new,by simp,by simpa using ha⟩⟩
  ·simp at h2
  ·have hn2:=List.nodup_cons.1 hn
   have hb:zBp p0∈q::keys':=by
    rcases LAt.base h (p0:=p0) (by simp) with ⟨j,_,rfl⟩ | h
    ·exact List.mem_cons_self
    ·exact List.mem_cons_of_mem _ h
   have hne:p ≠ p0:=fun e=>hn2.1 (by rw[e]; exact hb)
   obtain⟨t0,w0,r1,r2,r3⟩:=LAt.repl h hn2.2
   refine⟨t0,w0,r1,r2,fun hp' new ch w' hs ha=>?_⟩
   obtain⟨rows',h6,h7⟩:=hs.row q rows (.inr List.mem_cons_self) hq
   obtain⟨keys2,hp2,hl2⟩:=r3 hp' new ch w' (hs.sub fun k hk=>.inr (List.mem_cons.2 hk)) ha
   refine⟨q::keys2,by simpa using hp2,?_⟩
   simp only[At]
   exact⟨.orow q,by rw[hs.cell p (.inl rfl) hne hl,hc],.inr (.inr ⟨q,rows',keys2,rfl,h6,h7.trans hlen,rfl,hl2⟩)⟩
theorem LAt.repl {hp:Nat->Option Ob}{e q i:Nat}{p0:AV}{S:List AV}:∀ {ts:List Nd}{keys:List Nat}{w:Nat},LAt hp e q i ts keys (S++[p0]) w->(q::keys).Nodup ->
  Repl hp e p0 S w (fun k=>k=q∨k∈keys) keys fun hp' keys2 pd w=>LAt hp' e q i ts keys2 pd w
 | [],keys,w,h,hn=>by
  simp only[LAt]at h
  simp at h
 | t::ts,keys,w,h,hn=>by
  simp only[LAt]at h
  obtain⟨k1,k2,p1,p2,w1,w2,rfl,hpd,rfl,h1,h2⟩:=h
  obtain⟨hq,hn2⟩:=List.nodup_cons.1 hn
  obtain⟨n1,n2,n12⟩:=List.nodup_append.1 hn2
  have hq1:q ∉ k1:=fun h=>hq (List.mem_append_left _ h)
  have hq2:q ∉ k2:=fun h=>hq (List.mem_append_right _ h)
  rcases zWx hpd.symm with ⟨rfl,rfl⟩ | ⟨S2,rfl,rfl⟩
  ·have hb:=At.base h1 (p0:=p0) (by simp)
   obtain⟨t0,w0,r1,r2,r3⟩:=At.repl h1 (.inl ⟨q,i,rfl⟩) (List.nodup_cons.2 ⟨hq1,n1⟩)
   refine⟨t0,w0+w2,r1,by omega,fun hp' new ch w' hs ha=>?_⟩
   obtain⟨keys2,hp2,hl2⟩:=r3 hp' new ch w' (hs.sub fun k hk=>hk.imp id (List.mem_append_left _)) ha
   refine⟨keys2++k2,zWW hp2,?_⟩
   simp only[LAt]
   refine⟨keys2,k2,S++ch,[],w0+w',w2,rfl,by simp,by omega,hl2,?_⟩
   refine LAt.same h2 (hs.sub fun k hk=>hk.imp id (List.mem_append_right _)) (fun j hj e=>?_) (fun hm=>?_)
   ·rcases hb with rfl | hb
    ·cases e; omega
    ·rw[← e]at hb; exact hq1 hb
   ·rcases hb with rfl | hb
    ·exact hq2 hm
    ·exact n12 _ hb _ hm rfl
  ·have hb:=LAt.base h2 (p0:=p0) (by simp)
   obtain⟨t0,w0,r1,r2,r3⟩:=LAt.repl h2 (List.nodup_cons.2 ⟨hq2,n2⟩)
   refine⟨t0,w1+w0,r1,by omega,fun hp' new ch w' hs ha=>?_⟩
   obtain⟨keys2,hp2,hl2⟩:=r3 hp' new ch w' (hs.sub fun k hk=>hk.imp id (List.mem_append_right _)) ha
   refine⟨k1++keys2,by rw[List.append_assoc]; exact hp2.append_left k1,?_⟩
   simp only[LAt]
   refine⟨k1,keys2,p1,S2++ch,w1,w0+w',rfl,by simp,by omega,?_,hl2⟩
   refine At.same h1 (.inl ⟨q,i,rfl⟩) (hs.sub fun k hk=>hk.imp id (List.mem_append_left _)) (fun e=>?_) (fun hm=>?_)
   ·rcases hb with ⟨j,hj,hb⟩ | hb
    ·rw[hb]at e; cases e; omega
    ·rw[← e]at hb; exact hq2 hb
   ·rcases hb with ⟨j,hj,rfl⟩ | hb
    ·exact hq1 hm
    ·exact n12 _ hm _ hb rfl
end
theorem Sim.put {hp hp':Nat->Option Ob}{e:Nat}{D:Nat->Prop}{p0:AV}{c cs:List AV} (hl:isL 4 p0) (hc:zAR hp p0=some cs) (h:∀ k,D k->hp' k=putC hp p0 c k):Sim hp hp' e D p0 :=
 ⟨fun q rows hq hr=>by rw[h q hq]; exact zWZ hl hc hr,fun p hp hne hl'=>(zCk hl' (h _ hp)).trans (zVR hl hc hl' hne)⟩
def locs (q i n:Nat):List AV:=(List.range' i n).map fun j=>.rp q 4 j 0
theorem LAt.fresh {hp:Nat->Option Ob}{e q:Nat}:∀ {ts:List Nd}{i:Nat},(∀ j x,ts[j]? = some x->zAR hp (.rp q 4 (i+j) 0)=some (x.enc.map AV.s))->LAt hp e q i ts [] (locs q i ts.length) (Nd.cnts ts)
 | [],i,_=>by simp[LAt,locs,Nd.cnts]
 | .mk k t c ks::ts,i,h=>by
  simp only[LAt]
  refine⟨[],[],[.rp q 4 i 0],locs q (i+1) ts.length,Nd.cnts ks+1,Nd.cnts ts,rfl,by simp[locs,List.range'_succ],by simp[Nd.cnts,Nd.cnt],?_,LAt.fresh fun j x hj=>?_⟩
  ·simp only[At]
   exact⟨.s (.sl 4 (Nd.encs ks)),h 0 (.mk k t c ks) rfl,.inl (by simp)⟩
  ·rw[show i+1+j=i+(j+1) by omega]; exact h (j+1) x (by simpa using hj)
theorem LAt.copied {hp:Nat->Option Ob}{e q:Nat}{ts:List Nd} (h:hp q=some (.arow e 4 ((Nd.encs ts).map (·.map AV.s)))):LAt hp e q 0 ts [] (locs q 0 ts.length) (Nd.cnts ts) :=
 LAt.fresh fun j x hj=>by
  rw[zFJ h,Nat.zero_add,Nd.encs_eq,List.map_map,List.getElem?_map,hj]; rfl
theorem zST {hp:Nat->Option Ob}:∀ {rows:List (List AV)}{rs:List (List S)},(∀ (j:Nat) r s,rows[j]? = some r->rs[j]? = some s->r.length=s.length/\∀ (i:Nat) x y,r[i]? = some x->s[i]? = some y->Rd hp x y)->∀ (i:Nat) x y,rows.flatten[i]? = some x->rs.flatten[i]? = some y->Rd hp x y
 | [],_,_,_,_,_,h,_=>by simp at h
 | _::_,[],_,_,_,_,_,h=>by simp at h
 | r::rows,s::rs,h,i,x,y,hx,hy=>by
  obtain⟨hl,h0⟩:=h 0 r s (by simp) (by simp)
  rw[List.flatten_cons,List.getElem?_append]at hx hy
  by_cases hi:i<r.length
  ·rw[if_pos hi]at hx;rw[if_pos (hl ▸ hi)]at hy;exact h0 i x y hx hy
  ·rw[if_neg hi]at hx;rw[if_neg (hl ▸ hi),← hl]at hy;exact zST (fun j r s hr hs=>h (j+1) r s (by simpa using hr) (by simpa using hs)) _ x y hx hy
def RdC (hp:Nat->Option Ob) (cs:List AV) (ss:List S):Prop:=cs.length=ss.length/\∀ (i:Nat) x y,cs[i]? = some x->ss[i]? = some y->Rd hp x y
theorem RdC.node {hp:Nat->Option Ob}{k:Int}{t:List UInt8}{c:Int}{ks:List Nd}{v:AV} (h:Rd hp v (.sl 4 (Nd.encs ks))):RdC hp (zBi k t c v) (Nd.enc (.mk k t c ks)) :=
 ⟨rfl,fun i x y hx hy=>by
  match i with
  | 0=>cases hx; cases hy; exact .s _
  | 1=>cases hx; cases hy; exact .s _
  | 2=>cases hx; cases hy; exact .s _
  | 3=>cases hx; cases hy; exact h
  | i+4=>simp[zBi]at hx⟩
theorem Rd.rows {hp:Nat->Option Ob}{q e:Nat}{rows:List (List AV)}{ks:List Nd} (hq:hp q=some (.arow e 4 rows)) (hl:rows.length=ks.length) (h:∀ j x,ks[j]? = some x->∃ cs,zAR hp (.rp q 4 j 0)=some cs/\RdC hp cs x.enc):Rd hp (.orow q) (.sl 4 (Nd.encs ks)):=by
 rw[Nd.encs_eq]
 refine .arow hq (by simpa using hl) (fun r hr=>?_) (zST fun j r s hr hs=>?_)
 ·obtain⟨x,_,rfl⟩:=List.mem_map.1 hr;cases x; rfl
 ·rw[List.getElem?_map]at hs;cases hx:ks[j]? with
  | none=>rw[hx]at hs; cases hs
  | some x =>
   rw[hx]at hs; cases hs
   obtain⟨cs,h1,h2⟩:=h j x hx;rw[zFJ hq,hr]at h1;cases h1;exact h2
mutual
theorem At.rd {hp:Nat->Option Ob}{e:Nat}{p:AV}:∀ {t:Nd}{keys:List Nat}{pd:List AV}{w:Nat},At hp e p t keys pd w->∃ cs,zAR hp p=some cs/\RdC hp cs t.enc
 | .mk k t c ks,keys,pd,w,h=>by
  simp only[At]at h
  obtain⟨v,hc,⟨rfl,_⟩ | ⟨rfl,rfl,_⟩ | ⟨q,rows,keys',rfl,hq,hlen,rfl,h⟩⟩:=h
  ·exact⟨_,hc,.node (.s _)⟩
  ·exact⟨_,hc,.node (.s _)⟩
  ·exact⟨_,hc,.node (Rd.rows hq hlen fun j x hj=>(by have:=LAt.rd h j x hj; rwa [Nat.zero_add]at this))⟩
theorem LAt.rd {hp:Nat->Option Ob}{e q i:Nat}:∀ {ts:List Nd}{keys:List Nat}{pd:List AV}{w:Nat},LAt hp e q i ts keys pd w->∀ j x,ts[j]? = some x->∃ cs,zAR hp (.rp q 4 (i+j) 0)=some cs/\RdC hp cs x.enc
 | [],keys,pd,w,h,j,x,hj=>by simp at hj
 | t::ts,keys,pd,w,h,0,x,hj=>by
  simp only[LAt]at h
  obtain⟨k1,k2,p1,p2,w1,w2,rfl,rfl,rfl,h1,h2⟩:=h
  cases hj
  exact At.rd h1
 | t::ts,keys,pd,w,h,j+1,x,hj=>by
  simp only[LAt]at h
  obtain⟨k1,k2,p1,p2,w1,w2,rfl,rfl,rfl,h1,h2⟩:=h
  rw[show i+(j+1)=i+1+j by omega]
  exact LAt.rd h2 j x (by simpa using hj)
end
theorem zW1 {hp:Nat->Option Ob}{cs:List AV}{t:Nd} (h:RdC hp cs t.enc):RdV hp (.agg cs) (.agg (t.enc.map AV.s)):=by
 refine⟨by simpa using h.1,fun i x y hx hy=>?_⟩
 rw[List.getElem?_map]at hy;cases hs:t.enc[i]? with
 | none=>rw[hs]at hy; cases hy
 | some s=>rw[hs]at hy; cases hy; exact⟨s,rfl,h.2 i x s hx hs⟩
def Hole (hp:Nat->Option Ob) (e:Nat) (p:AV) (keys:List Nat) (p1:AV) (y:Nd) (F:Nd->Nd):Prop :=
 ∃ keys0 rest w0,keys.Perm (keys0++rest)/\At hp e p1 y keys0 [] w0/\isL 4 p1/\(p1=p∨zBp p1∈rest) /\
  ∀ hp' t1 new w1,Sim hp hp' e (fun k=>k=zBp p∨k∈rest) p1->At hp' e p1 t1 new [] w1->∃ keys2 w2,keys2.Perm (rest++new)/\At hp' e p (F t1) keys2 [] w2
theorem Hole.refl {hp:Nat->Option Ob}{e w:Nat}{p:AV}{t:Nd}{keys:List Nat} (h:At hp e p t keys [] w) (hl:isL 4 p):Hole hp e p keys p t id :=
 ⟨keys,[],w,by simp,h,hl,.inl rfl,fun hp' t1 new w1 _ h1=>⟨new,w1,by simp,h1⟩⟩
theorem LAt.hole {hp:Nat->Option Ob}{e q:Nat}{x:Nd}:∀ {ts:List Nd}{keys:List Nat}{w i j:Nat},LAt hp e q i ts keys [] w->(q::keys).Nodup->ts[j]? = some x ->
  ∃ keys0 rest w0,keys.Perm (keys0++rest)/\At hp e (.rp q 4 (i+j) 0) x keys0 [] w0/\∀ hp' t1 new w1,Sim hp hp' e (fun k=>k=q∨k∈rest) (.rp q 4 (i+j) 0)->At hp' e (.rp q 4 (i+j) 0) t1 new [] w1 ->
   ∃ keys2 w2,keys2.Perm (rest++new)/\LAt hp' e q i (ts.set j t1) keys2 [] w2
 | [],keys,w,i,j,h,hn,hx=>by simp at hx
 | t::ts,keys,w,i,0,h,hn,hx=>by
  simp only[LAt]at h;obtain⟨k1,k2,p1,p2,w1,w2,rfl,hpd,rfl,h1,h2⟩:=h;obtain⟨rfl,rfl⟩:=List.append_eq_nil_iff.1 hpd.symm;cases hx;have hq:=(List.nodup_cons.1 hn).1;refine⟨k1,k2,w1,List.Perm.refl _,h1,fun hp' t1 new w3 hs h3=>⟨new++k2,w3+w2,List.perm_append_comm,?_⟩⟩
  simp only[List.set_cons_zero,LAt]
  exact⟨new,k2,[],[],w3,w2,rfl,rfl,rfl,h3,LAt.same h2 hs (fun j hj e=>by cases e; omega) (fun hm=>hq (List.mem_append_right _ hm))⟩
 | t::ts,keys,w,i,j+1,h,hn,hx=>by
  simp only[LAt]at h;obtain⟨k1,k2,p1,p2,w1,w2,rfl,hpd,rfl,h1,h2⟩:=h;obtain⟨rfl,rfl⟩:=List.append_eq_nil_iff.1 hpd.symm;obtain⟨hq,hn2⟩:=List.nodup_cons.1 hn;obtain⟨n1,n2,_⟩:=List.nodup_append.1 hn2;obtain⟨keys0,rest,w0,r1,r2,r3⟩:=LAt.hole (i:=i+1) (j:=j) h2 (List.nodup_cons.2 ⟨fun hm=>hq (List.mem_append_right _ hm),n2⟩) (by simpa using hx)
  rw[show i+1+j=i+(j+1) by omega]at r2 r3;refine⟨keys0,k1++rest,w0,List.perm_iff_count.2 fun a=>?_,r2,fun hp' t1 new w3 hs h3=>?_⟩
  ·have:=r1.count_eq a;simp only[List.count_append]at this ⊢
   omega
  ·obtain⟨keys2,w4,q1,q2⟩:=r3 hp' t1 new w3 (hs.sub fun k hk=>hk.imp id (List.mem_append_right _)) h3;refine⟨k1++keys2,w1+w4,by rw[List.append_assoc]; exact q1.append_left k1,?_⟩
   simp only[List.set_cons_succ,LAt]
   exact⟨k1,keys2,[],[],w1,w4,rfl,rfl,rfl,At.same h1 (.inl ⟨q,i,rfl⟩) (hs.sub fun k hk=>hk.imp id (List.mem_append_left _)) (fun e=>by injection e with e1 e2 e3 e4; omega) (fun hm=>hq (List.mem_append_left _ hm)),q2⟩
theorem Hole.kid {hp:Nat->Option Ob}{e w i:Nat}{p:AV}{k c:Int}{tx:List UInt8}{ks:List Nd}{x:Nd}{keys:List Nat} (h:At hp e p (.mk k tx c ks) keys [] w) (hl:isL 4 p) (hn:(zBp p::keys).Nodup) (hx:ks[i]? = some x) :
  ∃ q rows,zAR hp p=some (zBi k tx c (.orow q))/\hp q=some (.arow e 4 rows)/\rows.length=ks.length/\Hole hp e p keys (.rp q 4 i 0) x (fun x'=>.mk k tx c (ks.set i x')):=by
 simp only[At]at h;obtain⟨v,hc,⟨_,_,h,_⟩ | ⟨rfl,_⟩ | ⟨q,rows,keys',rfl,hq,hlen,rfl,h⟩⟩:=h
 ·cases h
 ·simp at hx
 ·obtain⟨hb,hn2⟩:=List.nodup_cons.1 hn;obtain⟨keys0,rest,w0,r1,r2,r3⟩:=LAt.hole h hn2 hx;rw[Nat.zero_add]at r2 r3;refine⟨q,rows,hc,hq,hlen,keys0,q::rest,w0,List.perm_iff_count.2 fun a=>?_,r2,.inl ⟨q,i,rfl⟩,.inr List.mem_cons_self,fun hp' t1 new w1 hs h1=>?_⟩
  ·have:=r1.count_eq a;simp only[List.count_append,List.count_cons]at this ⊢
   omega
  ·obtain⟨rows',g1,g2⟩:=hs.row q rows (.inr List.mem_cons_self) hq;obtain⟨keys2,w2,q1,q2⟩:=r3 hp' t1 new w1 (hs.sub fun k hk=>.inr (List.mem_cons.2 hk)) h1;refine⟨q::keys2,w2,by simpa using q1,?_⟩
   simp only[At]
   refine⟨.orow q,by rw[hs.cell p (.inl rfl) (fun e=>hb (by rw[e]; exact List.mem_cons_self)) hl,hc],.inr (.inr ⟨q,rows',keys2,rfl,g1,by rw[g2,hlen,List.length_set],rfl,q2⟩)⟩
theorem Hole.trans {hp:Nat->Option Ob}{e:Nat}{p p1 p2:AV}{y z:Nd}{keys:List Nat}{F F2:Nd->Nd} (hn:(zBp p::keys).Nodup) (h:Hole hp e p keys p1 y F) (k:∀ keys0 w0,At hp e p1 y keys0 [] w0->isL 4 p1->(zBp p1::keys0).Nodup->Hole hp e p1 keys0 p2 z F2):Hole hp e p keys p2 z (fun x=>F (F2 x)):=by
 obtain⟨keys0,rest,w0,a1,a2,a3,a4,a5⟩:=h;obtain⟨hb,hnk⟩:=List.nodup_cons.1 hn;obtain⟨n0,n1,n01⟩:=List.nodup_append.1 (a1.nodup_iff.1 hnk)
 have hb1:zBp p1 ∉ keys0:=fun hm=>by
  rcases a4 with rfl | a4
  ·exact hb (a1.mem_iff.2 (List.mem_append_left _ hm))
  ·exact n01 _ hm _ a4 rfl
 obtain⟨keys1,rest1,w1,b1,b2,b3,b4,b5⟩:=k keys0 w0 a2 a3 (List.nodup_cons.2 ⟨hb1,n0⟩)
 refine⟨keys1,rest1++rest,w1,List.perm_iff_count.2 fun a=>?_,b2,b3,?_,fun hp' t1 new w2 hs h2=>?_⟩
 ·have:=a1.count_eq a;have:=b1.count_eq a;simp only[List.count_append]at *
  omega
 ·rcases b4 with rfl | b4
  ·exact a4.imp id (List.mem_append_right _)
  ·exact .inr (List.mem_append_left _ b4)
 ·have hp1:zBp p1=zBp p∨zBp p1∈rest:=a4.imp (fun e=>by rw[e]) id;obtain⟨keysA,wA,q1,q2⟩:=b5 hp' t1 new w2 (hs.sub fun k hk=>by
   rcases hk with rfl | hk
   ·exact hp1.imp id (List.mem_append_right _)
   ·exact .inr (List.mem_append_left _ hk)) h2
  have hs1:Sim hp hp' e (fun k=>k=zBp p∨k∈rest) p1:=⟨fun q rows hq=>hs.row q rows (hq.imp id (List.mem_append_right _)),fun p' hp' hne hl'=>by
   by_cases e2:p'=p2
   ·subst e2;rcases b4 with b4 | b4
    ·exact absurd b4 hne
    ·exfalso
     have hm:zBp p'∈keys0:=b1.mem_iff.2 (List.mem_append_right _ b4)
     rcases hp' with h3 | h3
     ·exact hb (a1.mem_iff.2 (List.mem_append_left _ (by rw[← h3]; exact hm)))
     ·exact n01 _ hm _ h3 rfl
   ·exact hs.cell p' (hp'.imp id (List.mem_append_right _)) e2 hl'⟩
  obtain⟨keysB,wB,q3,q4⟩:=a5 hp' (F2 t1) keysA wA hs1 q2;refine⟨keysB,wB,List.perm_iff_count.2 fun a=>?_,q4⟩
  have:=q1.count_eq a;have:=q3.count_eq a;simp only[List.count_append]at *
  omega
def tab:List (Nat×TI):=[
 (3,⟨.int .i64,1,8,[.int .i64 0]⟩),
 (4,⟨.bool,1,1,[.bool false]⟩),
 (5,⟨.int .u8,1,1,[.int .u8 0]⟩),
 (9,⟨.str,1,16,[.str []]⟩),
 (22,⟨.slice 24,1,24,[.sl 4 []]⟩),
 (24,⟨.struct [(0,3),(1,9),(2,3),(3,22)],4,56,[.int .i64 0,.str [],.int .i64 0,.sl 4 []]⟩),
 (25,⟨.slice 35,1,24,[.sl 14 []]⟩),
 (26,⟨.slice 65,1,24,[.sl 8 []]⟩),
 (27,⟨.slice 3,1,24,[.sl 1 []]⟩),
 (29,⟨.struct [(0,27),(1,27)],2,48,[.sl 1 [],.sl 1 []]⟩),
 (31,⟨.struct [(0,26),(1,29),(3,29)],5,120,[.sl 8 [],.sl 1 [],.sl 1 [],.sl 1 [],.sl 1 []]⟩),
 (33,⟨.struct [(0,3),(1,22),(2,3),(3,9),(4,4)],5,64,[.int .i64 0,.sl 4 [],.int .i64 0,.str [],.bool false]⟩),
 (35,⟨.struct [(0,3),(1,31),(6,29),(8,33),(13,3)],14,248,[.int .i64 0,.sl 8 [],.sl 1 [],.sl 1 [],.sl 1 [],.sl 1 [],.sl 1 [],.sl 1 [],.int .i64 0,.sl 4 [],.int .i64 0,.str [],.bool false,.int .i64 0]⟩),
 (65,⟨.struct [(0,3),(1,27),(2,3),(3,3),(4,22),(5,3),(6,9),(7,9)],8,112,[.int .i64 0,.sl 1 [],.int .i64 0,.int .i64 0,.sl 4 [],.int .i64 0,.str [],.str []]⟩)]
def T (t:Nat):Option TI:=look? t tab
theorem zYL:∀ p∈tab,okT Tryz.prog p.1 p.2:=by
 simp only[tab,List.forall_mem_cons]
 refine⟨?_,?_,?_,?_,?_,?_,?_,?_,?_,?_,?_,?_,?_,?_,by simp⟩
 ·exact⟨_,Tryz.t3,_,Tryz.underlying3,rfl,by kernel_rfl,rfl,rfl,rfl,rfl,rfl,fun _=>rfl,rfl⟩
 ·exact⟨_,Tryz.t4,_,Tryz.underlying4,rfl,by kernel_rfl,rfl,rfl,rfl,rfl,rfl,fun _=>rfl,rfl⟩
 ·exact⟨_,Tryz.t5,_,Tryz.underlying5,rfl,by kernel_rfl,rfl,rfl,rfl,rfl,rfl,fun _=>rfl,rfl⟩
 ·exact⟨_,Tryz.t9,_,Tryz.underlying9,rfl,by kernel_rfl,rfl,rfl,rfl,rfl,rfl,fun _=>rfl,rfl⟩
 ·exact⟨_,Tryz.t22,_,Tryz.underlying22,rfl,by kernel_rfl,rfl,rfl,rfl,rfl,rfl,fun _=>rfl,rfl⟩
 ·exact⟨_,Tryz.t24,_,Tryz.underlying24,rfl,by kernel_rfl,rfl,rfl,rfl,rfl,rfl,(fun h=>by cases h),rfl⟩
 ·exact⟨_,Tryz.t25,_,Tryz.underlying25,rfl,by kernel_rfl,rfl,rfl,rfl,rfl,rfl,fun _=>rfl,rfl⟩
 ·exact⟨_,Tryz.t26,_,Tryz.underlying26,rfl,by kernel_rfl,rfl,rfl,rfl,rfl,rfl,fun _=>rfl,rfl⟩
 ·exact⟨_,Tryz.t27,_,Tryz.underlying27,rfl,by kernel_rfl,rfl,rfl,rfl,rfl,rfl,fun _=>rfl,rfl⟩
 ·exact⟨_,Tryz.t29,_,Tryz.underlying29,rfl,by kernel_rfl,rfl,rfl,rfl,rfl,rfl,(fun h=>by cases h),rfl⟩
 ·exact⟨_,Tryz.t31,_,Tryz.underlying31,rfl,by kernel_rfl,rfl,rfl,rfl,rfl,rfl,(fun h=>by cases h),rfl⟩
 ·exact⟨_,Tryz.t33,_,Tryz.underlying33,rfl,by kernel_rfl,rfl,rfl,rfl,rfl,rfl,(fun h=>by cases h),rfl⟩
 ·exact⟨_,Tryz.t35,_,Tryz.underlying35,rfl,by kernel_rfl,rfl,rfl,rfl,rfl,rfl,(fun h=>by cases h),rfl⟩
 ·exact⟨_,Tryz.t65,_,Tryz.underlying65,rfl,by kernel_rfl,rfl,rfl,rfl,rfl,rfl,(fun h=>by cases h),rfl⟩
theorem tok:TOk Tryz.prog T:=zXD zYL
theorem tcl:∀ t i,T t=some i->zDC T i=true:=zVi (by rfl)
def tabX:List (Nat×TI):=[
 (38,⟨.ptr 71,1,8,[.np]⟩),
 (42,⟨.int .i64,1,8,[.int .i64 0]⟩),
 (44,⟨.fn,1,8,[.nf]⟩),
 (49,⟨.slice 31,1,24,[.sl 5 []]⟩),
 (57,⟨.struct [(0,24),(4,49),(5,3)],6,88,[.int .i64 0,.str [],.int .i64 0,.sl 4 [],.sl 5 [],.int .i64 0]⟩),
 (71,⟨.struct [(0,24),(4,24),(8,49),(9,3)],10,144,[.int .i64 0,.str [],.int .i64 0,.sl 4 [],.int .i64 0,.str [],.int .i64 0,.sl 4 [],.sl 5 [],.int .i64 0]⟩),
 (91,⟨.ptr 24,1,8,[.np]⟩),
 (92,⟨.slice 91,1,24,[.sl 1 []]⟩),
 (100,⟨.fn,1,8,[.nf]⟩),
 (101,⟨.fn,1,8,[.nf]⟩),
 (106,⟨.ptr 113,1,8,[.np]⟩),
 (107,⟨.fn,1,8,[.nf]⟩),
 (109,⟨.struct [(0,9),(1,3),(2,107)],3,32,[.str [],.int .i64 0,.nf]⟩),
 (110,⟨.arr 13 109,39,416,[.str [],.int .i64 0,.nf,.str [],.int .i64 0,.nf,.str [],.int .i64 0,.nf,.str [],.int .i64 0,.nf,.str [],.int .i64 0,.nf,.str [],.int .i64 0,.nf,.str [],.int .i64 0,.nf,.str [],.int .i64 0,.nf,.str [],.int .i64 0,.nf,.str [],.int .i64 0,.nf,.str [],.int .i64 0,.nf,.str [],.int .i64 0,.nf,.str [],.int .i64 0,.nf]⟩),
 (113,⟨.struct [(0,110),(39,3)],40,424,[.str [],.int .i64 0,.nf,.str [],.int .i64 0,.nf,.str [],.int .i64 0,.nf,.str [],.int .i64 0,.nf,.str [],.int .i64 0,.nf,.str [],.int .i64 0,.nf,.str [],.int .i64 0,.nf,.str [],.int .i64 0,.nf,.str [],.int .i64 0,.nf,.str [],.int .i64 0,.nf,.str [],.int .i64 0,.nf,.str [],.int .i64 0,.nf,.str [],.int .i64 0,.nf,.int .i64 0]⟩),
 (118,⟨.struct [(0,27),(1,3),(2,3)],3,40,[.sl 1 [],.int .i64 0,.int .i64 0]⟩),
 (127,⟨.struct [(0,27),(1,3),(2,3),(3,24)],7,96,[.sl 1 [],.int .i64 0,.int .i64 0,.int .i64 0,.str [],.int .i64 0,.sl 4 []]⟩),
 (139,⟨.struct [(0,65),(8,22)],9,136,[.int .i64 0,.sl 1 [],.int .i64 0,.int .i64 0,.sl 4 [],.int .i64 0,.str [],.str [],.sl 4 []]⟩),
 (142,⟨.fn,1,8,[.nf]⟩),
 (146,⟨.slice 9,1,24,[.sl 1 []]⟩),
 (169,⟨.slice 27,1,24,[.sl 1 []]⟩),
 (182,⟨.slice 22,1,24,[.sl 1 []]⟩),
 (185,⟨.int .u64,1,8,[.int .u64 0]⟩),
 (186,⟨.int .u32,1,4,[.int .u32 0]⟩)]
theorem zYK:∀ p∈tabX,okT Tryz.prog p.1 p.2:=by
 simp only[tabX,List.forall_mem_cons]
 refine⟨?_,?_,?_,?_,?_,?_,?_,?_,?_,?_,?_,?_,?_,?_,?_,?_,?_,?_,?_,?_,?_,?_,?_,?_,by simp⟩
 ·exact⟨_,Tryz.t38,_,Tryz.underlying38,rfl,by kernel_rfl,rfl,rfl,rfl,rfl,rfl,fun _=>rfl,rfl⟩
 ·exact⟨_,Tryz.t42,_,Tryz.underlying42,rfl,by kernel_rfl,rfl,rfl,rfl,rfl,rfl,fun _=>rfl,rfl⟩
 ·exact⟨_,Tryz.t44,_,Tryz.underlying44,rfl,by kernel_rfl,rfl,rfl,rfl,rfl,rfl,fun _=>rfl,rfl⟩
 ·exact⟨_,Tryz.t49,_,Tryz.underlying49,rfl,by kernel_rfl,rfl,rfl,rfl,rfl,rfl,fun _=>rfl,rfl⟩
 ·exact⟨_,Tryz.t57,_,Tryz.underlying57,rfl,by kernel_rfl,rfl,rfl,rfl,rfl,rfl,(fun h=>by cases h),rfl⟩
 ·exact⟨_,Tryz.t71,_,Tryz.underlying71,rfl,by kernel_rfl,rfl,rfl,rfl,rfl,rfl,(fun h=>by cases h),rfl⟩
 ·exact⟨_,Tryz.t91,_,Tryz.underlying91,rfl,by kernel_rfl,rfl,rfl,rfl,rfl,rfl,fun _=>rfl,rfl⟩
 ·exact⟨_,Tryz.t92,_,Tryz.underlying92,rfl,by kernel_rfl,rfl,rfl,rfl,rfl,rfl,fun _=>rfl,rfl⟩
 ·exact⟨_,Tryz.t100,_,Tryz.underlying100,rfl,by kernel_rfl,rfl,rfl,rfl,rfl,rfl,fun _=>rfl,rfl⟩
 ·exact⟨_,Tryz.t101,_,Tryz.underlying101,rfl,by kernel_rfl,rfl,rfl,rfl,rfl,rfl,fun _=>rfl,rfl⟩
 ·exact⟨_,Tryz.t106,_,Tryz.underlying106,rfl,by kernel_rfl,rfl,rfl,rfl,rfl,rfl,fun _=>rfl,rfl⟩
 ·exact⟨_,Tryz.t107,_,Tryz.underlying107,rfl,by kernel_rfl,rfl,rfl,rfl,rfl,rfl,fun _=>rfl,rfl⟩
 ·exact⟨_,Tryz.t109,_,Tryz.underlying109,rfl,by kernel_rfl,rfl,rfl,rfl,rfl,rfl,(fun h=>by cases h),rfl⟩
 ·exact⟨_,Tryz.t110,_,Tryz.underlying110,rfl,by kernel_rfl,rfl,rfl,rfl,rfl,rfl,(fun h=>by cases h),rfl⟩
 ·exact⟨_,Tryz.t113,_,Tryz.underlying113,rfl,by kernel_rfl,rfl,rfl,rfl,rfl,rfl,(fun h=>by cases h),rfl⟩
 ·exact⟨_,Tryz.t118,_,Tryz.underlying118,rfl,by kernel_rfl,rfl,rfl,rfl,rfl,rfl,(fun h=>by cases h),rfl⟩
 ·exact⟨_,Tryz.t127,_,Tryz.underlying127,rfl,by kernel_rfl,rfl,rfl,rfl,rfl,rfl,(fun h=>by cases h),rfl⟩
 ·exact⟨_,Tryz.t139,_,Tryz.underlying139,rfl,by kernel_rfl,rfl,rfl,rfl,rfl,rfl,(fun h=>by cases h),rfl⟩
 ·exact⟨_,Tryz.t142,_,Tryz.underlying142,rfl,by kernel_rfl,rfl,rfl,rfl,rfl,rfl,fun _=>rfl,rfl⟩
 ·exact⟨_,Tryz.t146,_,Tryz.underlying146,rfl,by kernel_rfl,rfl,rfl,rfl,rfl,rfl,fun _=>rfl,rfl⟩
 ·exact⟨_,Tryz.t169,_,Tryz.underlying169,rfl,by kernel_rfl,rfl,rfl,rfl,rfl,rfl,fun _=>rfl,rfl⟩
 ·exact⟨_,Tryz.t182,_,Tryz.underlying182,rfl,by kernel_rfl,rfl,rfl,rfl,rfl,rfl,fun _=>rfl,rfl⟩
 ·exact⟨_,Tryz.t185,_,Tryz.underlying185,rfl,by kernel_rfl,rfl,rfl,rfl,rfl,rfl,fun _=>rfl,rfl⟩
 ·exact⟨_,Tryz.t186,_,Tryz.underlying186,rfl,by kernel_rfl,rfl,rfl,rfl,rfl,rfl,fun _=>rfl,rfl⟩
def TW (t:Nat):Option TI:=look? t (tab++tabX)
theorem tokW:TOk Tryz.prog TW:=zXD fun p hp=>(List.mem_append.1 hp).elim (zYL p) (zYK p)
theorem mixed:Tryz.prog.follows .mixedOrders=true:=by kernel_rfl
end Go.Proofs.YtffhjiplcfncdaaGreat
namespace Go.Proofs
set_option maxHeartbeats 1000000 in
theorem Tryz.stringslite_IndexByte (s:ByteArray) (c:Int) (w:World) :
  Calls Tryz.prog 149 #[.string s,.int .u8 c] w fun e w'=>e = .returned (.int .i64 (Lib.indexByte s.data.toList c.toNat.toUInt8))/\w'=w:=by
 go_enter Tryz.func149,Tryz.ntmps149
 go_wp2
 rw[run_callFunc_extern Tryz.func155 (by kernel_rfl) (by kernel_rfl) (by kernel_rfl) (e:=Extern.BytealgIndexByte.indexByte) (by kernel_rfl),Lib.run_indexByteString]
 simp only[Result.andThen]
 rw[Oper.upon_value]
 go_wp2
 go_ret
 exact⟨rfl,rfl⟩
theorem Tryz.stringslite_Index_one (s:ByteArray) (c:UInt8) (w:World) :
  Calls Tryz.prog 154 #[.string s,.string ⟨#[c]⟩] w fun e w'=>e = .returned (.int .i64 (Lib.indexByte s.data.toList c))/\w'=w:=by
 go_enter Tryz.func154,Tryz.ntmps154
 go_wp2_with (go_at_call 149; refine(Tryz.stringslite_IndexByte _ _ _).mono ?_; rintro e w' ⟨rfl,rfl⟩)
 ·have h:([c] == s.toList)=true:=by assumption
  go_ret
  refine⟨?_,rfl⟩
  have e:s.data.toList=[c] :=(by rw[← Lib.toList_data]; exact(beq_iff_eq.1 h).symm);rw[e]
  simp[Lib.indexByte]
 ·go_ret
  exact⟨rfl,rfl⟩
set_option maxHeartbeats 1000000 in
theorem Tryz.strings_IndexByte (s:ByteArray) (c:Int) (w:World) :
  Calls Tryz.prog 133 #[.string s,.int .u8 c] w fun e w'=>e = .returned (.int .i64 (Lib.indexByte s.data.toList c.toNat.toUInt8))/\w'=w:=by
 go_enter Tryz.func133,Tryz.ntmps133
 go_wp2_with (go_at_call 149; refine(Tryz.stringslite_IndexByte _ _ _).mono ?_; rintro e w' ⟨rfl,rfl⟩)
 go_ret
 exact⟨rfl,rfl⟩
set_option maxHeartbeats 1000000 in
theorem Tryz.strings_Index_one (s:ByteArray) (c:UInt8) (w:World) :
  Calls Tryz.prog 147 #[.string s,.string ⟨#[c]⟩] w fun e w'=>e = .returned (.int .i64 (Lib.indexByte s.data.toList c))/\w'=w:=by
 go_enter Tryz.func147,Tryz.ntmps147
 go_wp2_with (go_at_call 154; refine(Tryz.stringslite_Index_one _ _ _).mono ?_; rintro e w' ⟨rfl,rfl⟩)
 go_ret
 exact⟨rfl,rfl⟩
set_option maxHeartbeats 1000000 in
theorem Tryz.strings_Contains_one (s:ByteArray) (c:UInt8) (w:World) :
  Calls Tryz.prog 129 #[.string s,.string ⟨#[c]⟩] w fun e w'=>e = .returned (.bool (decide (0<=Lib.indexByte s.data.toList c)))/\w'=w:=by
 go_enter Tryz.func129,Tryz.ntmps129
 go_wp2_with (go_at_call 147; refine(Tryz.strings_Index_one _ _ _).mono ?_; rintro e w' ⟨rfl,rfl⟩)
 go_ret
 exact⟨rfl,rfl⟩
end Go.Proofs
namespace Go.Proofs.YtffhjiplcfncdaaGreat
open Go.Abs
theorem zKH {f:Nat}{s:List AV->Ret->Prop} (hcall:∀ args w,(callFunc f args).run Tryz.prog w = .ok (.enter f args) w)
  (h:∀ (G:Nat->Prop) (w:World) (xs:List AV) (vs:List Value) (r:Ret),AVals G w (fun _=>.tuple #[]) xs vs->s xs r->Calls Tryz.prog f vs.toArray w fun e w'=>w'=w/\∃ v,e = .returned v/\RetAt G w w r v):PSound Tryz.prog f (zAs s) :=
 ⟨hcall,fun G w xs vs r hl _ _ hv hs=>(h G w xs vs r hv hs).mono fun e w' ⟨h1,v,h2,h3⟩=>(by subst h1; exact⟨v,G,h2,Ext.refl hl,h3⟩),fun R hR=>(by cases hR),fun R hR=>(by cases hR)⟩
def zJj (xs:List AV) (r:Ret):Prop:=∃ (a0 a1:List UInt8) (y0:Int),zEb a0 a1=some y0/\xs=[.s (.str a0),.s (.str a1)]/\r = .val (.s (.int .i64 y0))
def zF6:zAq:=zAs fun xs r=>zJj xs r
theorem zIU:PSound Tryz.prog 154 zF6:=zKH Tryz.call154 fun G w xs vs r hv ⟨a,p,y,h,hx,hr⟩=>by
 subst hx; subst hr
 obtain⟨hp,h⟩:=zAw h;have hy:=Option.some.inj h;subst hy;obtain⟨c,rfl⟩:∃ c,p=[c]:=by
  match p,hp with
  | [c],_=>exact⟨c,rfl⟩
 simp only[AVals,AVal,Rep]at hv;obtain⟨_,_,rfl,rfl,_,_,rfl,rfl,rfl⟩:=hv;exact(Tryz.stringslite_Index_one ⟨a.toArray⟩ c w).mono fun e w' ⟨h1,h2⟩=>⟨h2,_,h1,rfl,by simp only[AVal,Rep]; rfl⟩
def zJM (xs:List AV) (r:Ret):Prop:=∃ (a0 a1:List UInt8) (y0:Bool),zEB a0 a1=some y0/\xs=[.s (.str a0),.s (.str a1)]/\r = .val (.s (.bool y0))
def zGx:zAq:=zAs fun xs r=>zJM xs r
theorem zJB:PSound Tryz.prog 129 zGx:=zKH Tryz.call129 fun G w xs vs r hv ⟨a,p,y,h,hx,hr⟩=>by
 subst hx; subst hr
 obtain⟨hp,h⟩:=zAw h;have hy:=Option.some.inj h;subst hy;obtain⟨c,rfl⟩:∃ c,p=[c]:=by
  match p,hp with
  | [c],_=>exact⟨c,rfl⟩
 simp only[AVals,AVal,Rep]at hv;obtain⟨_,_,rfl,rfl,_,_,rfl,rfl,rfl⟩:=hv;exact(Tryz.strings_Contains_one ⟨a.toArray⟩ c w).mono fun e w' ⟨h1,h2⟩=>⟨h2,_,h1,rfl,by simp only[AVal,Rep]; rfl⟩
def zJi (xs:List AV) (r:Ret):Prop:=∃ (a0:List UInt8) (a1:Int) (y0:Int),zC0 a0 a1=some y0/\xs=[.s (.str a0),.s (.int .u8 a1)]/\r = .val (.s (.int .i64 y0))
def zF5:zAq:=zAs fun xs r=>zJi xs r
theorem zIT:PSound Tryz.prog 133 zF5:=zKH Tryz.call133 fun G w xs vs r hv ⟨a,c,y,h,hx,hr⟩=>by
 subst hx; subst hr
 have hy:=Option.some.inj h;subst hy;simp only[AVals,AVal,Rep]at hv;obtain⟨_,_,rfl,rfl,_,_,rfl,rfl,rfl⟩:=hv;exact(Tryz.strings_IndexByte ⟨a.toArray⟩ c w).mono fun e w' ⟨h1,h2⟩=>⟨h2,_,h1,rfl,by simp only[AVal,Rep]⟩
def VAt (hp:Nat->Option Ob) (e:Nat) (v:AV) (ks:List Nd) (keys:List Nat):Prop :=
 (ks=[]/\v = .s (.sl 4 [])/\keys=[])∨∃ q rows keys' w,v = .orow q/\hp q=some (.arow e 4 rows)/\rows.length=ks.length/\keys=q::keys'/\LAt hp e q 0 ks keys' [] w
theorem At.full {hp:Nat->Option Ob}{e:Nat}{p:AV}{k c:Int}{t:List UInt8}{ks:List Nd}{keys:List Nat}{w:Nat} (h:At hp e p (.mk k t c ks) keys [] w):∃ v,zAR hp p=some (zBi k t c v)/\VAt hp e v ks keys:=by
 simp only[At]at h;obtain⟨v,hc,⟨_,_,h,_⟩ | ⟨rfl,rfl,rfl,_,_⟩ | ⟨q,rows,keys',rfl,hq,hlen,rfl,h⟩⟩:=h
 ·cases h
 ·exact⟨_,hc,.inl ⟨rfl,rfl,rfl⟩⟩
 ·exact⟨_,hc,.inr ⟨q,rows,keys',w,rfl,hq,hlen,rfl,h⟩⟩
def zP0 (xs:List AV) (hp:Nat->Option Ob) (n:Nat) (Φ:AV->(Nat->Option Ob)->Nat->Prop):Prop :=
 ∃ (k c:Int) (tx:List UInt8) (ks:List Nd),(Nd.mk k tx c ks).cnt<=1000000000/\xs=[.agg (zBi k tx c (.s (.sl 4 (Nd.encs ks))))] /\
  ∀ v hp' n' keys,n<=n'->(∀ k,k<n->hp' k=hp k)->VAt hp' 24 v ks keys->keys.Nodup->(∀ k∈keys,n<=k/\k<n')->Φ (.agg (zBi k tx c v)) hp' n'
def zLQ:zAq:=zQY zP0
theorem zVZ {T:Nat->Option TI}{σ:St}{t ty q bt:Nat}{i:TI}{cells:List AV} (h1:σ.env t = .op q 0) (h2:σ.hp q=some (.box bt cells)) (h3:T ty=some i) (ha:i.k.agg=true) (hz:i.size=cells.length):zKJ T σ [.cell t ty]=some (AV.deep (.agg cells)):=by
 have hb:Nat.ble i.size cells.length=true :=(by rw[hz]; exact Nat.ble_eq_true_of_le (Nat.le_refl _));simp only[zKJ,zIr,zRy,h1,h2,h3,ha,hb]
 rw[hz,List.take_length]
theorem zWh {σ:St}{q:Nat}{ob:Ob}:(zFq σ q ob).hp q=some ob:=by simp only[zFq,Nat.beq_refl,cond_true]
theorem upd_ne {σ:St}{q k:Nat}{ob:Ob} (h:k ≠ q):(zFq σ q ob).hp k=σ.hp k:=by simp only[zFq,zEi h,cond_false]
theorem VAt.frame {hp hp':Nat->Option Ob}{e:Nat}{v:AV}{ks:List Nd}{keys:List Nat} (h:VAt hp e v ks keys) (hs:∀ k∈keys,hp' k=hp k):VAt hp' e v ks keys:=by
 rcases h with h | ⟨q,rows,keys',w,h1,h2,h3,rfl,h4⟩
 ·exact .inl h
 ·exact .inr ⟨q,rows,keys',w,h1,(hs q List.mem_cons_self).trans h2,h3,rfl,h4.sameQ (Sim.same (p0:=.junk) fun k hk=>hs k (List.mem_cons.2 hk)) (fun j _ e=>by cases e) (fun q j _ e=>by cases e)⟩
theorem zDe {T:Nat->Option TI}{own:Bool}{o:Oper}{σ:St}{p:AV}{y:Operand} (hl:isL 4 p) (ho:o.op = .assign y∨o.op = .move y) (hy:opd T σ.env o.type y=p) (hn:(own&&zCl y)=false):step1 T own o σ=some (none,p,σ):=by
 have e0:p.nrm=p:=by rcases hl with ⟨_,_,rfl⟩ | ⟨_,rfl⟩ <;> rfl
 have e1:zCE T own o σ.env=some (none,p):=by
  rcases ho with ho | ho <;> simp only[zCE,ho,hn,hy,e0]
 simp only[step1,e1]
theorem zIu {c:Cx}{x:Code}{σ:St}{Q:Abs.End->St->Prop} (l:List (Nat×AV)) (n':Nat) (h:holds σ.env l) (hn:σ.nx=n') (hk:∀ H,(∀ k,H k=σ.hp k)->Tri c x ⟨ofL l,H,n'⟩ Q):Tri c x σ Q:=by
 subst hn;exact zAh (Le.forget l h) (hk σ.hp fun _=>rfl)
theorem At.pend {hp:Nat->Option Ob}{e w:Nat}{p:AV}{k c:Int}{tx:List UInt8}{ks:List Nd} (h:At hp e p (.mk k tx c ks) [] [p] w):zAR hp p=some (zBi k tx c (.s (.sl 4 (Nd.encs ks)))):=by
 simp only[At]at h;obtain⟨v,hc,⟨rfl,_⟩ | ⟨_,_,_,h,_⟩ | ⟨q,rows,keys',_,_,_,h,_⟩⟩:=h
 ·exact hc
 ·cases h
 ·cases h
theorem zIE {hp hp':Nat->Option Ob}{sz k:Nat}{p:AV}{c:List AV} (hl:isL sz p) (h1:hp' k=hp k) (h2:hp' (zBp p)=hp (zBp p)):putC hp' p c k=putC hp p c k:=by
 rcases hl with ⟨q,i,rfl⟩ | ⟨q,rfl⟩ <;> (simp only[zBp]at h2; simp only[putC,h1,h2])
theorem zUE {hp hp':Nat->Option Ob}{sz k:Nat}{p:AV}{c c' cs:List AV} (hl:isL sz p) (hc:zAR hp p=some cs) (h:hp' (zBp p)=putC hp p c' (zBp p)) (hk:k ≠ zBp p->hp' k=hp k):putC hp' p c k=putC hp p c k:=by
 by_cases hb:k=zBp p
 ·subst hb;rcases zCP hl hc with ⟨q,i,e,rows,rfl,hq,hi⟩ | ⟨q,bt,rfl,hq⟩
  ·simp only[zBp]at h ⊢;rw[zJC hq]at h ⊢;simp only[Nat.beq_refl,cond_true]at h ⊢;rw[zJC h]
   simp only[Nat.beq_refl,cond_true,List.set_set]
  ·simp only[zBp]at h ⊢;rw[zGm hq]at h ⊢;simp only[Nat.beq_refl,cond_true]at h ⊢;rw[zGm h]
   simp only[Nat.beq_refl,cond_true]
 ·rw[zBQ hb,zBQ hb,hk hb]
theorem zVz {q j:Nat}:locs q 0 (j+1)=locs q 0 j++[.rp q 4 j 0]:=by
 simp[locs,List.range'_concat]
theorem zWJ {α:Type}{S:List α}{p:α}:((S++[p]).map fun p=>[p]).getD S.length []=[p]:=by
 simp[List.getD_eq_getElem?_getD]
structure DInv (hp:Nat->Option Ob) (n e pe:Nat) (t:Nd) (H:Nat->Option Ob) (ls nx:Nat) (S:List AV) (keys:List Nat) (w:Nat):Prop where
 low:∀ k,k<n->H k=hp k
 res:∃ a b c d,H (n+1)=some (.box e [a,b,c,d])
 stk:H ls=some (.arow pe 1 (S.map fun p=>[p]))
 tree:At H e (.op n 0) t keys S w
 nd:(n::keys).Nodup
 kb:∀ k∈keys,n+1<k/\k<nx/\k ≠ ls
 l1:n+1<ls
 l2:ls<nx
set_option maxHeartbeats 4000000 in
theorem zHt:PSound Tryz.prog 29 zLQ:=by
 have gok:=@gok0 Tryz.prog;refine zN9 tokW Tryz.call29 Tryz.func29 rfl (fun xs hp n Φ h=>by obtain⟨_,_,_,_,_,rfl,_⟩:=h; show 1<=_; decide) _ rfl ?_;rintro xs hp n Φ w0 G0 B0 ⟨k0,c,tx,ks,hcnt,rfl,hΦ⟩ _ hhp;refine zYf [1,2] [] rfl ?_;refine zYf [7] [] rfl ?_;show Tri ..
 refine zAh (Le.forgetH [(1,.op n 0),(2,.op (n+1) 0),(3,.orow (n+2))] (fun k=>bif Nat.beq k (n+2) then some (.arow 91 1 [[.op n 0]]) else bif Nat.beq k (n+1) then some (.box 24 [.s (.int .i64 0),.s (.str []),.s (.int .i64 0),.nl 4]) else bif Nat.beq k n then some (.box 24 (zBi k0 tx c (.s (.sl 4 (Nd.encs ks))))) else hp k) (n+3) ⟨rfl,rfl,rfl,trivial⟩ (fun k=>rfl) rfl) ?_
 have hI:DInv hp n 24 91 (.mk k0 tx c ks) (fun k=>bif Nat.beq k (n+2) then some (.arow 91 1 [[.op n 0]]) else bif Nat.beq k (n+1) then some (.box 24 [.s (.int .i64 0),.s (.str []),.s (.int .i64 0),.nl 4]) else bif Nat.beq k n then some (.box 24 (zBi k0 tx c (.s (.sl 4 (Nd.encs ks))))) else hp k) (n+2) (n+3) [.op n 0] [] (Nd.mk k0 tx c ks).cnt:={
  low:=fun k hk=>by
   have h1:k ≠ n+2 :=(by omega);have h2:k ≠ n+1 :=(by omega);have h3:k ≠ n :=(by omega);simp only[zEi h1,zEi h2,zEi h3,cond_false]
  res:=⟨.s (.int .i64 0),.s (.str []),.s (.int .i64 0),.nl 4,by
   have h1:n+1 ≠ n+2 :=(by omega);simp only[zEi h1,Nat.beq_refl,cond_false,cond_true]⟩
  stk:=by simp only[Nat.beq_refl,cond_true]; rfl
  tree:=by
   have h1:n ≠ n+2 :=(by omega);have h2:n ≠ n+1 :=(by omega);simp only[At]
   exact⟨.s (.sl 4 (Nd.encs ks)),zEk (bt:=24) (by simp only[zEi h1,zEi h2,Nat.beq_refl,cond_false,cond_true]),.inl (by simp[Nd.cnt])⟩
  nd:=by simp
  kb:=fun k hk=>by cases hk
  l1:=by omega
  l2:=by omega }
 generalize hH:(fun k=>bif Nat.beq k (n+2) then some (Ob.arow 91 1 [[AV.op n 0]]) else bif Nat.beq k (n+1) then some (Ob.box 24 [AV.s (.int .i64 0),AV.s (.str []),AV.s (.int .i64 0),AV.nl 4]) else bif Nat.beq k n then some (Ob.box 24 (zBi k0 tx c (.s (.sl 4 (Nd.encs ks))))) else hp k)=H0 at hI ⊢
 clear hH
 refine zAa ?_;refine zAl (zAy (X:=(Nat->Option Ob)×Nat×Nat×List AV×List Nat×Nat) (fun y=>match y with | (H,ls,nx,S,keys,w)=>⟨ofL [(1,.op n 0),(2,.op (n+1) 0),(3,.orow ls)],H,nx⟩)
  (fun y=>match y with | (H,ls,nx,S,keys,w)=>DInv hp n 24 91 (.mk k0 tx c ks) H ls nx S keys w) (fun y=>match y with | (H,ls,nx,S,keys,w)=>w) (H0,n+2,n+3,[.op n 0],[],(Nd.mk k0 tx c ks).cnt) hI (Le.refl _ _) ?_)
 rintro⟨H,ls,nx,S,keys,w⟩ hI;have hI:DInv hp n 24 91 (.mk k0 tx c ks) H ls nx S keys w:=hI;refine zAa ?_;refine zYV ?_;refine zAi rfl rfl rfl rfl rfl rfl trivial ?_;refine zAi rfl rfl rfl rfl rfl (zMZ rfl rfl rfl rfl rfl hI.stk) trivial ?_;refine zAi rfl rfl rfl rfl rfl rfl trivial ?_;refine zAE rfl (fun hb=>?_) (fun hb=>?_)
 rotate_left
 ·refine zAC ?_;refine zAh (Le.forget [(1,.op n 0),(2,.op (n+1) 0),(3,.orow ls)] ⟨rfl,rfl,rfl,trivial⟩) ?_;have hS:S=[]:=by
   cases S with
   | nil=>rfl
   | cons x S =>
    have:=of_decide_eq_false hb;simp only[List.length_map,List.length_cons]at this
    omega
  subst hS;obtain⟨v,hc,hv⟩:=hI.tree.full;rcases zCP (sz:=4) (.inr ⟨n,rfl⟩) hc with ⟨q,i,e,rows,h1,_⟩ | ⟨q,bt,h1,hq⟩
  ·cases h1
  cases h1;obtain⟨ra,rb,rc,rd,hr1⟩:=hI.res;refine zYV ?_;refine zAi rfl rfl rfl rfl rfl (zV7 rfl rfl rfl rfl hq rfl) trivial ?_;have hvl:v.one=true/\v.lt nx=true:=by
   rcases hv with ⟨_,rfl,_⟩ | ⟨q,_,_,_,rfl,_,_,hk,_⟩
   ·exact⟨rfl,rfl⟩
   ·exact⟨rfl,decide_eq_true (hI.kb q (by rw[hk]; exact List.mem_cons_self)).2.1⟩
  refine zF8 rfl rfl rfl (zM0 rfl rfl rfl hr1 rfl rfl (by show([AV.s _,AV.s _,AV.s _,v]:List AV).all AV.one=true; simp only[List.all_cons,List.all_nil,hvl.1]; rfl) (by show AV.ltAll nx [AV.s _,AV.s _,AV.s _,v]=true; simp only[AV.ltAll,hvl.2]; rfl)) trivial ?_;refine zAe ?_;have hln:n<nx:=Nat.lt_trans (Nat.lt_trans (Nat.lt_succ_self n) hI.l1) hI.l2;have hdeep:AV.deep (.agg (zBi k0 tx c v)) = .agg (zBi k0 tx c v):=by
   rcases hv with ⟨_,rfl,_⟩ | ⟨q,_,_,_,rfl,_⟩ <;> rfl
  unfold zIV;refine⟨_,Le.refl _ _,.agg (zBi k0 tx c v),?_,hΦ v _ _ keys (Nat.le_of_lt hln) (fun k hk=>?_) ?_ (List.nodup_cons.1 hI.nd).2 fun k hk=>⟨Nat.le_of_lt (Nat.lt_trans (Nat.lt_succ_self n) (hI.kb k hk).1),(hI.kb k hk).2.1⟩⟩
  ·exact(zVZ (cells:=zBi k0 tx c v) rfl zWh rfl rfl rfl).trans (congrArg some hdeep)
  ·exact(upd_ne (by omega)).trans (hI.low k hk)
  ·exact hv.frame fun k hk=>upd_ne (by have:=(hI.kb k hk).1; omega)
 refine zAf ?_;show Tri ..;obtain⟨S',p,rfl⟩:∃ S' p,S=S'++[p]:=by
  rcases List.eq_nil_or_concat S with rfl | ⟨S',p,rfl⟩
  ·cases hb
  ·exact⟨S',p,List.concat_eq_append⟩
 have hl0:isL 4 p:=hI.tree.loc (.inr ⟨n,rfl⟩) (by simp)
 obtain⟨⟨k1,tx1,c1,ks1⟩,w1,hp0,hw,hrep⟩:=hI.tree.repl (.inr ⟨n,rfl⟩) hI.nd;have hcell:=hp0.pend;have hwl:=hI.tree.len;have hSl:S'.length<1000000000:=by
  have:=hwl.1;have:=hwl.2;simp only[List.length_append,List.length_singleton]at *
  omega
 have hz:IntKind.i64.wrap (((((S'++[p]).map fun p=>[p]).length:Nat):Int) - 1)=(S'.length:Int):=by
  rw[wrap64_in (by simp only[List.length_map,List.length_append,List.length_singleton]; omega) (by simp only[List.length_map,List.length_append,List.length_singleton]; omega)]
  simp only[List.length_map,List.length_append,List.length_singleton]; omega
 have hlt1:S'.length<((S'++[p]).map fun p=>[p]).length :=(by simp);refine zAh (Le.forget [(1,.op n 0),(2,.op (n+1) 0),(3,.orow ls)] ⟨rfl,rfl,rfl,trivial⟩) ?_;refine zAl ?_;refine zYV ?_;refine zAi rfl rfl rfl rfl rfl rfl trivial ?_;refine zAi rfl rfl rfl rfl rfl rfl trivial ?_;refine zAi rfl rfl rfl rfl rfl (zMZ rfl rfl rfl rfl rfl hI.stk) trivial ?_;refine zAi rfl rfl rfl rfl rfl rfl trivial ?_;rw[hz]
 refine zAi rfl rfl rfl rfl rfl (zPO rfl rfl rfl rfl rfl rfl hI.stk rfl) ⟨Int.natCast_nonneg _,Int.ofNat_lt.2 hlt1⟩ ?_;refine zQR (c:=p) rfl rfl rfl rfl rfl rfl hI.stk hlt1 (by rw[Int.toNat_natCast,zWJ]; rfl) ?_;refine zAi rfl rfl rfl rfl rfl (zDe hl0 (.inl rfl) rfl rfl) trivial ?_;refine zAh (Le.forget [(1,.op n 0),(2,.op (n+1) 0),(3,.orow ls),(4,p)] ⟨rfl,rfl,rfl,rfl,trivial⟩) ?_;refine zYf [21] [] rfl ?_;refine zAi rfl rfl rfl rfl rfl rfl trivial ?_;refine zAi rfl rfl rfl rfl rfl rfl trivial ?_;refine zAi rfl rfl rfl rfl rfl (zMZ rfl rfl rfl rfl rfl hI.stk) trivial ?_
 refine zAi rfl rfl rfl rfl rfl rfl trivial ?_;rw[hz]
 refine zAi rfl rfl rfl rfl rfl (zV8 rfl rfl rfl rfl rfl rfl hI.stk rfl) ⟨Int.natCast_nonneg _,Int.ofNat_le.2 (Nat.le_of_lt hlt1)⟩ ?_;refine zAi rfl rfl rfl rfl rfl rfl trivial ?_;show Tri ..;refine zIu [(1,.op n 0),(2,.op (n+1) 0),(3,.orow nx),(4,p)] (nx+1) ⟨rfl,rfl,rfl,rfl,trivial⟩ rfl fun H1 hH1=>?_
 have g1:H1 nx=some (.arow 91 1 (S'.map fun p=>[p])):=(hH1 nx).trans (by
  show(bif Nat.beq nx nx then some (Ob.arow 91 1 (((S'++[p]).map fun p=>[p]).take ((S'.length:Int)).toNat)) else _)=_;rw[Nat.beq_refl,cond_true,Int.toNat_natCast]
  simp)
 have g2:∀ k,k ≠ nx->k ≠ ls->H1 k=H k:=fun k h1 h2=>(hH1 k).trans (by
  show(bif Nat.beq k nx then _ else bif Nat.beq k ls then none else H k)=_;rw[zEi h1,zEi h2]; rfl)
 clear hH1
 have hbase:zBp p=n∨zBp p∈keys:=by
  rcases hI.tree.base (p0:=p) (by simp) with h | h
  ·exact .inl (by rw[h]; rfl)
  ·exact .inr h
 have hln:n<nx:=Nat.lt_trans (Nat.lt_trans (Nat.lt_succ_self n) hI.l1) hI.l2;have hbl:zBp p ≠ nx/\zBp p ≠ ls/\zBp p ≠ n+1/\zBp p<nx:=by
  have h1:=hI.l1;have h2:=hI.l2;rcases hbase with h | h
  ·rw[h]; omega
  ·have:=hI.kb _ h; omega
 have fin:∀ (cs:List AV) (Hj:Nat->Option Ob) (lsj nxj:Nat) (new:List Nat) (ch:List AV) (w':Nat),(∀ k,k ≠ ls->k<nx->Hj k=putC H p cs k)->Hj lsj=some (.arow 91 1 ((S'++ch).map fun p=>[p]))->At Hj 24 p (.mk k1 tx1 c1 ks1) new ch w' ->
   new.Nodup->(∀ k∈new,nx<=k/\k<nxj/\k ≠ lsj)->nx<=lsj->lsj<nxj->w'<(Nd.mk k1 tx1 c1 ks1).cnt->∃ keys2,DInv hp n 24 91 (.mk k0 tx c ks) Hj lsj nxj (S'++ch) keys2 (w1+w')/\w1+w'<w:=by
  intro cs Hj lsj nxj new ch w' f1 f2 f3 f4 f5 f6 f7 f8;have l1:=hI.l1;have l2:=hI.l2;have hD:∀ k,k=n∨k∈keys->k ≠ ls/\k<nx:=fun k hk=>by
   rcases hk with rfl | hk
   ·omega
   ·have:=hI.kb k hk; omega
  obtain⟨keys2,hperm,hat⟩:=hrep Hj new ch w' (Sim.put hl0 hcell fun k hk=>f1 k (hD k hk).1 (hD k hk).2) f3;have hmem:∀ k,k∈keys2->k∈keys∨k∈new:=fun k hk=>List.mem_append.1 (hperm.mem_iff.1 hk)
  have hkn:=List.nodup_cons.1 hI.nd;refine⟨keys2,{
   low:=fun k hk=>(f1 k (by omega) (by omega)).trans ((zBQ (by
    rcases hbase with h | h
    ·omega
    ·have:=hI.kb _ h; omega)).trans (hI.low k hk))
   res:=by
    obtain⟨a,b,c,d,hr⟩:=hI.res;exact⟨a,b,c,d,(f1 (n+1) (by omega) (by omega)).trans ((zBQ (Ne.symm hbl.2.2.1)).trans hr)⟩
   stk:=f2
   tree:=hat
   nd:=List.nodup_cons.2 ⟨fun hm=>by
    rcases hmem n hm with h | h
    ·exact hkn.1 h
    ·have:=f5 n h; omega,hperm.nodup_iff.2 (List.nodup_append.2 ⟨hkn.2,f4,fun a ha b hb e=>by
     have:=hI.kb a ha;have:=f5 b hb
     omega⟩)⟩
   kb:=fun k hk=>by
    rcases hmem k hk with h | h
    ·have:=hI.kb k h; omega
    ·have:=f5 k h; omega
   l1:=by omega
   l2:=f7 },by omega⟩
 have hc1:zAR H1 p=some (zBi k1 tx1 c1 (.s (.sl 4 (Nd.encs ks1)))):=(zCk hl0 (g2 _ hbl.1 hbl.2.1)).trans hcell;refine zYV ?_;refine zAi rfl rfl rfl rfl rfl (zDe hl0 (.inr rfl) rfl rfl) trivial ?_;refine zAi rfl rfl rfl rfl rfl (zEZ hl0 rfl rfl) trivial ?_;refine zAi rfl rfl rfl rfl rfl (zFu hl0 rfl rfl rfl rfl rfl rfl rfl) trivial ?_;refine zD2 (off:=3) (sz:=4) rfl rfl rfl rfl rfl rfl rfl hl0 rfl hc1 rfl ?_;refine zAi rfl rfl rfl rfl rfl rfl trivial ?_;show Tri ..
 refine zAh (Le.forget [(1,.op n 0),(2,.op (n+1) 0),(3,.orow nx),(4,p),(5,.s (.sl 4 (Nd.encs ks1)))] ⟨rfl,rfl,rfl,rfl,rfl,trivial⟩) ?_;refine zYV ?_;refine zAi rfl rfl rfl rfl rfl (zDe hl0 (.inr rfl) rfl rfl) trivial ?_;refine zAi rfl rfl rfl rfl rfl (zEZ hl0 rfl rfl) trivial ?_;refine zAi rfl rfl rfl rfl rfl (zFu hl0 rfl rfl rfl rfl rfl rfl rfl) trivial ?_;refine zQS (off:=3) (sz:=4) (c:=.s (.sl 4 [])) rfl rfl rfl rfl rfl hl0 rfl hc1 rfl (by decide) rfl rfl rfl ?_;show Tri ..
 refine zIu [(1,.op n 0),(2,.op (n+1) 0),(3,.orow nx),(4,p),(5,.s (.sl 4 (Nd.encs ks1)))] (nx+1) ⟨rfl,rfl,rfl,rfl,rfl,trivial⟩ rfl fun H2 hH2=>?_
 have hH2:∀ k,H2 k=putC H1 p (zBi k1 tx1 c1 (.s (.sl 4 []))) k:=hH2
 have hc2:zAR H2 p=some (zBi k1 tx1 c1 (.s (.sl 4 []))):=(zCk hl0 (hH2 _)).trans (zJr hl0 hc1)
 refine zAa ?_;refine zYV ?_;refine zAi rfl rfl rfl rfl rfl rfl trivial ?_;refine zAi rfl rfl rfl rfl rfl rfl trivial ?_;refine zAi rfl rfl rfl rfl rfl rfl trivial ?_;refine zAE rfl (fun hb=>?_) (fun hb=>?_)
 rotate_left
 ·obtain rfl:ks1=[]:=by
   cases ks1 with
   | nil=>rfl
   | cons x l =>
    have:=of_decide_eq_false hb;simp only[Nd.encs,List.length_cons]at this
    omega
  refine zAf ?_;refine zAh (Le.forget [(1,.op n 0),(2,.op (n+1) 0),(3,.orow nx),(4,p),(5,.s (.sl 4 []))] ⟨rfl,rfl,rfl,rfl,rfl,trivial⟩) ?_;refine zYV ?_;refine zAi rfl rfl rfl rfl rfl (zDe hl0 (.inr rfl) rfl rfl) trivial ?_;refine zAi rfl rfl rfl rfl rfl (zEZ hl0 rfl rfl) trivial ?_;refine zAi rfl rfl rfl rfl rfl (zFu hl0 rfl rfl rfl rfl rfl rfl rfl) trivial ?_;refine zD2 (off:=3) (sz:=4) rfl rfl rfl rfl rfl rfl rfl hl0 rfl hc2 rfl ?_;refine zAi rfl rfl rfl rfl rfl rfl trivial ?_;refine zAi rfl rfl rfl rfl rfl rfl trivial ?_;show Tri ..
  refine zAh (Le.forget [(1,.op n 0),(2,.op (n+1) 0),(3,.orow nx),(4,p),(5,.s (.sl 4 []))] ⟨rfl,rfl,rfl,rfl,rfl,trivial⟩) ?_;refine zYV ?_;refine zAi rfl rfl rfl rfl rfl (zDe hl0 (.inr rfl) rfl rfl) trivial ?_;refine zAi rfl rfl rfl rfl rfl (zEZ hl0 rfl rfl) trivial ?_;refine zAi rfl rfl rfl rfl rfl (zFu hl0 rfl rfl rfl rfl rfl rfl rfl) trivial ?_;refine zD2 (off:=3) (sz:=4) rfl rfl rfl rfl rfl rfl rfl hl0 rfl hc2 rfl ?_;refine zAi rfl rfl rfl rfl rfl rfl trivial ?_;refine zAi rfl rfl rfl rfl rfl rfl trivial ?_;show Tri ..
  refine zAl (zAy (X:=Unit) (fun _=>⟨ofL [(1,.op n 0),(2,.op (n+1) 0),(3,.orow nx),(48,.s (.int .i64 0)),(49,.s (.int .i64 0))],H2,nx+1⟩) (fun _=>True) (fun _=>0) () trivial (Le.forget [(1,.op n 0),(2,.op (n+1) 0),(3,.orow nx),(48,.s (.int .i64 0)),(49,.s (.int .i64 0))] ⟨rfl,rfl,rfl,rfl,rfl,trivial⟩) ?_)
  rintro⟨⟩ _;refine zYV ?_;refine zAi rfl rfl rfl rfl rfl rfl trivial ?_;refine zAa ?_;refine zAE rfl (fun hb=>by cases hb) (fun hb=>?_)
  refine zAC ?_;obtain⟨keys2,hz1,hz2⟩:=fin (zBi k1 tx1 c1 (.s (.sl 4 []))) H2 nx (nx+1) [] [] 0
   (fun k h1 h2=>(hH2 k).trans (zIE hl0 (g2 k (by omega) h1) (g2 _ hbl.1 hbl.2.1)))
   (by rw[List.append_nil]; exact(hH2 nx).trans ((zBQ (Ne.symm hbl.1)).trans g1))
   (by simp only[At]; exact⟨.s (.sl 4 []),hc2,.inr (.inl (by simp))⟩) (by simp) (fun k hk=>by cases hk) (Nat.le_refl _) (Nat.lt_succ_self _) (by simp[Nd.cnt])
  exact⟨(H2,nx,nx+1,S'++[],keys2,w1+0),hz1,Le.forget [(1,.op n 0),(2,.op (n+1) 0),(3,.orow nx)] ⟨rfl,rfl,rfl,trivial⟩,hz2⟩
 ·have hm:0<ks1.length:=by
   have:=of_decide_eq_true hb;rw[Nd.encs_eq,List.length_map]at this
   omega
  have hkl:ks1.length<1000000000:=by
   have h1:=Nd.cnts_len ks1;have h2:=hwl.2;simp only[Nd.cnt]at hw hcnt h2
   omega
  have hel:(Nd.encs ks1).length=ks1.length :=(by rw[Nd.encs_eq,List.length_map]);refine zAh (Le.forget [(1,.op n 0),(2,.op (n+1) 0),(3,.orow nx),(4,p),(5,.s (.sl 4 (Nd.encs ks1)))] ⟨rfl,rfl,rfl,rfl,rfl,trivial⟩) ?_;refine zAb [35] [] rfl ?_;refine zAi rfl rfl rfl rfl rfl (zDe hl0 (.inr rfl) rfl rfl) trivial ?_;refine zAi rfl rfl rfl rfl rfl rfl trivial ?_;refine zAi rfl rfl rfl rfl rfl rfl trivial ?_
  refine zAi rfl rfl rfl rfl rfl (zYT rfl rfl rfl rfl rfl rfl rfl rfl rfl) (show 0<=_/\_ from⟨Int.natCast_nonneg _,Int.le_refl _,show(((Nd.encs ks1).length:Nat):Int) * ((56:Nat):Int)<=281474976710656 by omega,show(((Nd.encs ks1).length:Nat):Int)<=281474976710656 by omega⟩) ?_;refine zAi rfl rfl rfl rfl rfl (zEZ hl0 rfl rfl) trivial ?_;refine zAi rfl rfl rfl rfl rfl (zFu hl0 rfl rfl rfl rfl rfl rfl rfl) trivial ?_;have hbn:zBp p ≠ nx+1:=by have:=hbl.2.2.2; omega
  refine zQS (off:=3) (sz:=4) (c:=.orow (nx+1)) rfl rfl rfl rfl rfl hl0 rfl ((zCk hl0 (by show(bif Nat.beq (zBp p) (nx+1) then _ else H2 (zBp p))=_; rw[zEi hbn]; rfl)).trans hc2) rfl (by decide) rfl rfl (decide_eq_true (Nat.lt_succ_self _)) ?_;show Tri ..;refine zIu [(1,.op n 0),(2,.op (n+1) 0),(3,.orow nx),(4,p),(5,.s (.sl 4 (Nd.encs ks1)))] (nx+2) ⟨rfl,rfl,rfl,rfl,rfl,trivial⟩ rfl fun H3 hH3=>?_
  have hH3:∀ k,H3 k=putC (fun k=>bif Nat.beq k (nx+1) then some (.row 24 4 (List.replicate (((Nd.encs ks1).length:Int)).toNat [.int .i64 0,.str [],.int .i64 0,.sl 4 []])) else H2 k) p (zBi k1 tx1 c1 (.orow (nx+1))) k:=hH3
  have a1:H3 (nx+1)=some (.row 24 4 (List.replicate (((Nd.encs ks1).length:Int)).toNat [.int .i64 0,.str [],.int .i64 0,.sl 4 []])):=(hH3 _).trans ((zBQ (Ne.symm hbn)).trans (by simp only[Nat.beq_refl,cond_true]))
  have a2:∀ k,k ≠ nx+1->H3 k=putC H2 p (zBi k1 tx1 c1 (.orow (nx+1))) k:=fun k hk=>(hH3 k).trans (zIE hl0 (by simp only[zEi hk,cond_false]) (by simp only[zEi hbn,cond_false]))
  have hc3:zAR H3 p=some (zBi k1 tx1 c1 (.orow (nx+1))):=(zCk hl0 (a2 _ hbn)).trans (zJr hl0 hc2)
  refine zAh (Le.toA (nx+1) a1) ?_;refine zYV ?_;refine zAi rfl rfl rfl rfl rfl (zDe hl0 (.inr rfl) rfl rfl) trivial ?_;refine zAi rfl rfl rfl rfl rfl (zEZ hl0 rfl rfl) trivial ?_;refine zAi rfl rfl rfl rfl rfl (zFu hl0 rfl rfl rfl rfl rfl rfl rfl) trivial ?_;refine zD2 (off:=3) (sz:=4) rfl rfl rfl rfl rfl rfl rfl hl0 rfl ((zCk hl0 (upd_ne hbn)).trans hc3) rfl ?_;refine zAi rfl rfl rfl rfl rfl rfl trivial ?_;refine zAi rfl rfl rfl rfl rfl (zXe rfl rfl rfl rfl rfl rfl rfl rfl rfl zWh rfl rfl) (show(List.map _ _).length=List.length _ by simp) ?_;show Tri ..
  refine zIu [(1,.op n 0),(2,.op (n+1) 0),(3,.orow nx),(4,p),(5,.s (.sl 4 (Nd.encs ks1)))] (nx+2) ⟨rfl,rfl,rfl,rfl,rfl,trivial⟩ rfl fun H4 hH4=>?_
  have r1:H4 (nx+1)=some (.arow 24 4 ((Nd.encs ks1).map (·.map AV.s))):=(hH4 _).trans zWh;have r2:∀ k,k ≠ nx+1->H4 k=H3 k:=fun k hk=>(hH4 k).trans ((upd_ne hk).trans (upd_ne hk))
  clear hH4
  have hc4:zAR H4 p=some (zBi k1 tx1 c1 (.orow (nx+1))):=(zCk hl0 (r2 _ hbn)).trans hc3;refine zYV ?_;refine zAi rfl rfl rfl rfl rfl (zDe hl0 (.inr rfl) rfl rfl) trivial ?_;refine zAi rfl rfl rfl rfl rfl (zEZ hl0 rfl rfl) trivial ?_;refine zAi rfl rfl rfl rfl rfl (zFu hl0 rfl rfl rfl rfl rfl rfl rfl) trivial ?_;refine zD2 (off:=3) (sz:=4) rfl rfl rfl rfl rfl rfl rfl hl0 rfl hc4 rfl ?_;refine zAi rfl rfl rfl rfl rfl (zMZ rfl rfl rfl rfl rfl r1) trivial ?_;refine zAi rfl rfl rfl rfl rfl rfl trivial ?_;show Tri ..
  have hlen4:((Nd.encs ks1).map (·.map AV.s)).length=ks1.length :=(by rw[List.length_map,hel]);refine zAl (zAy (X:=(Nat->Option Ob)×Nat×Nat×Nat) (fun y=>match y with | (Hj,lsj,nxj,j)=>⟨ofL [(1,.op n 0),(2,.op (n+1) 0),(3,.orow lsj),(4,p),(48,.s (.int .i64 (ks1.length:Int))),(49,.s (.int .i64 (j:Int)))],Hj,nxj⟩)
   (fun y=>match y with | (Hj,lsj,nxj,j)=>j<=ks1.length/\(∀ k,k ≠ nx->k<nx+2->Hj k=H4 k)/\Hj lsj=some (.arow 91 1 ((S'++locs (nx+1) 0 j).map fun p=>[p]))/\(lsj=nx∨nx+2<=lsj)/\lsj<nxj/\nx+2<=nxj) (fun y=>match y with | (Hj,lsj,nxj,j)=>ks1.length - j) (H4,nx,nx+2,0)
   ⟨Nat.zero_le _,fun k _ _=>rfl,by
    refine(r2 nx (by omega)).trans ((a2 nx (by omega)).trans ((zBQ (Ne.symm hbl.1)).trans ((hH2 nx).trans ((zBQ (Ne.symm hbl.1)).trans (g1.trans ?_)))))
    simp[locs],.inl rfl,by omega,Nat.le_refl _⟩
   (Le.forget [(1,.op n 0),(2,.op (n+1) 0),(3,.orow nx),(4,p),(48,.s (.int .i64 (ks1.length:Int))),(49,.s (.int .i64 ((0:Nat):Int)))] ⟨rfl,rfl,rfl,rfl,congrArg (fun m:Nat=>AV.s (.int .i64 (m:Int))) hlen4,rfl,trivial⟩) ?_)
  rintro⟨Hj,lsj,nxj,j⟩ ⟨i1,i2,i3,i4,i5,i6⟩
  have hbj:zBp p ≠ nx/\zBp p<nx+2:=⟨hbl.1,by have:=hbl.2.2.2; omega⟩
  have hcj:zAR Hj p=some (zBi k1 tx1 c1 (.orow (nx+1))):=(zCk hl0 (i2 _ hbj.1 hbj.2)).trans hc4;have hrj:Hj (nx+1)=some (.arow 24 4 ((Nd.encs ks1).map (·.map AV.s))):=(i2 (nx+1) (by omega) (by omega)).trans r1;refine zYV ?_;refine zAi rfl rfl rfl rfl rfl rfl trivial ?_;refine zAa ?_;refine zAE rfl (fun hb=>?_) (fun hb=>?_)
  ·refine zAf ?_;show Tri ..;have hj:j<ks1.length:=Int.ofNat_lt.1 (of_decide_eq_true hb)
   have hsl:((S'++locs (nx+1) 0 j).map fun p=>[p]).length=S'.length+j :=(by simp[locs]);refine zAh (Le.forget [(1,.op n 0),(2,.op (n+1) 0),(3,.orow lsj),(4,p),(48,.s (.int .i64 (ks1.length:Int))),(49,.s (.int .i64 (j:Int)))] ⟨rfl,rfl,rfl,rfl,rfl,rfl,trivial⟩) ?_;refine zAa ?_;refine zAl ?_;refine zYV ?_;refine zAi rfl rfl rfl rfl rfl rfl trivial ?_;refine zAi rfl rfl rfl rfl rfl rfl trivial ?_;refine zAb [59,60] [] rfl ?_;refine zAi rfl rfl rfl rfl rfl rfl trivial ?_;refine zAi rfl rfl rfl rfl rfl (zDe hl0 (.inr rfl) rfl rfl) trivial ?_
   refine zAi rfl rfl rfl rfl rfl (zEZ hl0 rfl rfl) trivial ?_;refine zAi rfl rfl rfl rfl rfl (zFu hl0 rfl rfl rfl rfl rfl rfl rfl) trivial ?_;refine zD2 (off:=3) (sz:=4) rfl rfl rfl rfl rfl rfl rfl hl0 rfl hcj rfl ?_;refine zAi rfl rfl rfl rfl rfl rfl trivial ?_;refine zAi rfl rfl rfl rfl rfl (zPO rfl rfl rfl rfl rfl rfl hrj rfl) ⟨Int.natCast_nonneg _,Int.ofNat_lt.2 (by rw[hlen4]; exact hj)⟩ ?_;rw[Int.toNat_natCast]
   refine zAi rfl rfl rfl rfl rfl rfl trivial ?_;refine zAi rfl rfl rfl rfl rfl (zYb (rows:=(S'++locs (nx+1) 0 j).map fun p=>[p]) (rows2:=[[.rp (nx+1) 4 j 0]]) rfl rfl rfl rfl rfl rfl rfl rfl rfl (by show(bif Nat.beq lsj nxj then _ else Hj lsj)=_; rw[zEi (by omega)]; exact i3) (by show(bif Nat.beq nxj nxj then _ else Hj nxj)=_; rw[Nat.beq_refl]; rfl) rfl rfl rfl) (show(((S'++locs (nx+1) 0 j).map fun p=>[p]).length+1) * 8<=140737488355328/\((S'++locs (nx+1) 0 j).map fun p=>[p]).length+1<=9223372036854775807 by rw[hsl]; omega) ?_;refine zAi rfl rfl rfl rfl rfl rfl trivial ?_;show Tri ..
   refine zIu [(1,.op n 0),(2,.op (n+1) 0),(3,.orow (nxj+1)),(4,p),(48,.s (.int .i64 (ks1.length:Int))),(49,.s (.int .i64 (j:Int)))] (nxj+2) ⟨rfl,rfl,rfl,rfl,rfl,rfl,trivial⟩ rfl fun H5 hH5=>?_
   have e1:H5 (nxj+1)=some (.arow 91 1 ((S'++locs (nx+1) 0 (j+1)).map fun p=>[p])):=(hH5 _).trans (by
    show(bif Nat.beq (nxj+1) (nxj+1) then some (Ob.arow 91 1 (((S'++locs (nx+1) 0 j).map fun p=>[p])++[[.rp (nx+1) 4 j 0]])) else _)=_;rw[Nat.beq_refl,cond_true,zVz]
    simp)
   have e2:∀ k,k ≠ nxj+1->k ≠ lsj->k ≠ nxj->H5 k=Hj k:=fun k h1 h2 h3=>(hH5 k).trans (by
    show(bif Nat.beq k (nxj+1) then _ else bif Nat.beq k lsj then none else bif Nat.beq k nxj then _ else Hj k)=_;rw[zEi h1,zEi h2,zEi h3]; rfl)
   clear hH5
   refine zYU ?_;refine zAi rfl rfl rfl rfl rfl rfl trivial ?_;refine zAi rfl rfl rfl rfl rfl rfl trivial ?_;exact⟨(H5,nxj+1,nxj+2,j+1),⟨hj,fun k h1 h2=>(e2 k (by omega) (by omega) (by omega)).trans (i2 k h1 h2),e1,.inr (by omega),by omega,by omega⟩,
    Le.forget [(1,.op n 0),(2,.op (n+1) 0),(3,.orow (nxj+1)),(4,p),(48,.s (.int .i64 (ks1.length:Int))),(49,.s (.int .i64 ((j+1:Nat):Int)))] ⟨rfl,rfl,rfl,rfl,rfl,congrArg (fun z=>AV.s (.int .i64 z)) (zAH (by omega)),trivial⟩,by show ks1.length - (j+1)<ks1.length - j; omega⟩
  ·refine zAC ?_;have hj:j=ks1.length:=by
    have:=of_decide_eq_false hb
    omega
   subst hj;obtain⟨keys2,hz1,hz2⟩:=fin (zBi k1 tx1 c1 (.orow (nx+1))) Hj lsj nxj [nx+1] (locs (nx+1) 0 ks1.length) (Nd.cnts ks1)
    (fun k h1 h2=>(i2 k (by omega) (by omega)).trans ((r2 k (by omega)).trans ((a2 k (by omega)).trans (zUE hl0 hcell ((hH2 _).trans (zIE hl0 (g2 _ hbl.1 hbl.2.1) (g2 _ hbl.1 hbl.2.1))) fun hk=>(hH2 k).trans ((zBQ hk).trans (g2 k (by omega) h1))))))
    i3 (by simp only[At]; exact⟨.orow (nx+1),hcj,.inr (.inr ⟨nx+1,_,[],rfl,hrj,hlen4,rfl,LAt.copied hrj⟩)⟩) (by simp) (fun k hk=>by
     have:=List.mem_singleton.1 hk
     omega) (by omega) i5 (by simp[Nd.cnt])
   exact⟨(Hj,lsj,nxj,S'++locs (nx+1) 0 ks1.length,keys2,w1+Nd.cnts ks1),hz1,Le.forget [(1,.op n 0),(2,.op (n+1) 0),(3,.orow lsj)] ⟨rfl,rfl,rfl,trivial⟩,hz2⟩
def zRR (xs:List AV) (r:Ret):Prop:=∃ (a0:Nd) (y0:Nd),zAX a0=some y0/\xs=[.agg ((Nd.enc a0).map .s)]/\r = .val (.agg ((Nd.enc y0).map .s))
def zDi:zAq:=zAs fun xs r=>zRR xs r
theorem zDy:PSound Tryz.prog 29 zDi :=
 PSound.giveAll zHt fun xs r h=>by
  obtain⟨⟨k,t,c,ks⟩,y,hm,rfl,rfl⟩:=h;obtain⟨hq,hm⟩:=zAw hm;obtain rfl:=Option.some.inj hm;refine⟨_,rfl,rfl,k,c,t,ks,hq,rfl,fun v hp' n' keys _ _ hv _ _=>?_⟩
  refine zW1 (t:=.mk k t c ks) (RdC.node ?_)
  rcases hv with ⟨rfl,rfl,_⟩ | ⟨q,rows,keys',w,rfl,hq,hlen,rfl,h⟩
  ·exact .s _
  ·exact Rd.rows hq hlen fun j x hj=>(by have:=LAt.rd h j x hj; rwa [Nat.zero_add]at this)
theorem zHr {n:Nd}{i s:Int}{p:List Int} (h:¬ (0<=i/\i<n.kids.length)):zBt n (i::s::p)=none:=by rw[zBt,if_neg h]
theorem zHs {n x:Nd}{i s:Int}{p:List Int} (h0:0<=i) (hx:n.kids[i.toNat]? = some x) (h:¬ (0<=s/\s<x.kids.length)):zBt n (i::s::p)=none:=by
 have hl:=(List.getElem?_eq_some_iff.1 hx).1;rw[zBt,if_pos ⟨h0,by omega⟩]
 simp only[List.getD_eq_getElem?_getD,hx,Option.getD_some]
 rw[if_neg h]
theorem zN6 {n x z:Nd}{i s:Int}{p:List Int} (h0:0<=i) (hx:n.kids[i.toNat]? = some x) (h1:0<=s) (hz:x.kids[s.toNat]? = some z):zBt n (i::s::p)=zBt z p:=by
 have hl:=(List.getElem?_eq_some_iff.1 hx).1;have hl2:=(List.getElem?_eq_some_iff.1 hz).1;rw[zBt,if_pos ⟨h0,by omega⟩]
 simp only[List.getD_eq_getElem?_getD,hx,hz,Option.getD_some]
 rw[if_pos ⟨h1,by omega⟩]
theorem zVr {l:List Nd}{i:Nat}{x:Nd} (h:l[i]? = some x):(Nd.encs l).getD i []=Nd.enc x:=by
 simp[Nd.encs_eq,List.getD_eq_getElem?_getD,h]
theorem zIz (l:List Nd):(Nd.encs l).length=l.length:=by rw[Nd.encs_eq,List.length_map]
def zVq:Option Nd->AV
 | some y=>.s (.pt (Nd.enc y))
 | none=>.junk
def zRU (xs:List AV) (r:Ret):Prop:=∃ (a0:Nd) (a1:List Int),xs=[.s (.pt (Nd.enc a0)),.s (.sl 1 (a1.map (irow .i64)))]/\r = .val (.tup [zVq (zBt a0 a1),.s (.bool (zBt a0 a1).isSome)])
def zLZ:zAq:=zAs fun xs r=>zRU xs r
theorem zRg:PSound Tryz.prog 120 zLZ:=by
 have gok:=@gok0 Tryz.prog;refine zAr tokW Tryz.call120 Tryz.func120 rfl (fun xs r h=>by obtain⟨_,_,rfl,_⟩:=h; show 2<=_; decide) _ rfl ?_;rintro xs r w0 G0 ⟨n0,p0,rfl,rfl⟩ _;generalize hy:zBt n0 p0=y;refine zYV ?_;refine zAa ?_;refine zAl (zAy (X:=Nd×List Int) (fun x=>match x with | (n,p)=>⟨ofL [(0,.s (.pt (Nd.enc n))),(1,.s (.sl 1 (p.map (irow .i64)))),(4,.s .np),(5,.s (.bool false))],fun _=>none,0⟩)
  (fun x=>match x with | (n,p)=>zBt n p=y) (fun x=>match x with | (n,p)=>p.length) (n0,p0) hy (Le.forget [(0,.s (.pt (Nd.enc n0))),(1,.s (.sl 1 (p0.map (irow .i64)))),(4,.s .np),(5,.s (.bool false))] ⟨rfl,rfl,rfl,rfl,trivial⟩) ?_)
 rintro⟨⟨k,t,c,ks⟩,p⟩ hI;have hI:zBt (.mk k t c ks) p=y:=hI;refine zAa ?_;refine zYV ?_;refine zAE rfl (fun hb=>?_) (fun hb=>?_)
 ·refine zAf ?_;show Tri ..
  match p,hI,hb with
  | [],_,hb=>cases hb
  | [_],_,hb=>cases hb
  | i::s::p,hI,hb =>
   refine zAh (Le.forget [(0,.s (.pt (Nd.enc (.mk k t c ks)))),(1,.s (.sl 1 ((i::s::p).map (irow .i64)))),(4,.s .np),(5,.s (.bool false))] ⟨rfl,rfl,rfl,rfl,trivial⟩) ?_;refine zAa ?_;refine zAl ?_;refine zAa ?_;refine zKn (by exact tokW) (by exact gok) (by exact mixed) [] [] [1,2,4,5] rfl (by decide +kernel) ?_;refine And.intro (show(0:Int)<=0/\(0:Int)<((((i::s::p).map (irow .i64)).length:Nat):Int) by simp only[List.map_cons,List.length_cons]; omega) ?_;refine And.intro (show(0:Int)<=1/\(1:Int)<((((i::s::p).map (irow .i64)).length:Nat):Int) by simp only[List.map_cons,List.length_cons]; omega) ?_
   refine zAh (Le.forget [(0,.s (.pt [.int .i64 k,.str t,.int .i64 c,.sl 4 (Nd.encs ks)])),(1,.s (.sl 1 ((i::s::p).map (irow .i64)))),(4,.s .np),(5,.s (.bool false)),(6,.s (.int .i64 i)),(7,.s (.int .i64 s))] ⟨rfl,rfl,rfl,rfl,rfl,rfl,trivial⟩) ?_;refine zAa ?_;refine zAa ?_
   by_cases hi:i<0
   ·refine zAb [] [21] rfl ?_;intro b hb;obtain rfl:true=b:=(hb.trans (decide_eq_true hi)).symm;refine zAE rfl (fun _=>?_) (fun h=>by cases h)
    refine zYV ?_;refine zAe ?_;obtain rfl:none=y:=(zHr (fun h=>by omega)).symm.trans hI;unfold zBC;exact⟨_,Le.forget [(5,.s (.bool false))] ⟨rfl,trivial⟩,rfl,rfl⟩
   by_cases hi2:(ks.length:Int)<=i
   ·refine zAb [] [21,29] rfl ?_;intro b hb;obtain rfl:false=b:=(hb.trans (decide_eq_false hi)).symm;intro b hb;obtain rfl:true=b:=(hb.trans (decide_eq_true (show(((Nd.encs ks).length:Nat):Int)<=i by rw[zIz]; exact hi2))).symm;refine zAE rfl (fun _=>?_) (fun h=>by cases h)
    refine zYV ?_;refine zAe ?_;obtain rfl:none=y:=(zHr (n:=.mk k t c ks) (fun h=>by have:i<ks.length:=h.2; omega)).symm.trans hI;unfold zBC;exact⟨_,Le.forget [(5,.s (.bool false))] ⟨rfl,trivial⟩,rfl,rfl⟩
   refine zAb [] [21,29] rfl ?_;intro b hb;obtain rfl:false=b:=(hb.trans (decide_eq_false hi)).symm;intro b hb;obtain rfl:false=b:=(hb.trans (decide_eq_false (show ¬ (((Nd.encs ks).length:Nat):Int)<=i by rw[zIz]; exact hi2))).symm;refine zAE rfl (fun h=>by cases h) (fun _=>?_)
   refine zAf ?_;show Tri ..;have hi0:i.toNat<ks.length :=(by omega);obtain⟨⟨k2,t2,c2,ks2⟩,hx⟩:∃ x,ks[i.toNat]? = some x:=⟨_,List.getElem?_eq_getElem hi0⟩
   refine zAh (Le.forget [(0,.s (.pt [.int .i64 k,.str t,.int .i64 c,.sl 4 (Nd.encs ks)])),(1,.s (.sl 1 ((i::s::p).map (irow .i64)))),(4,.s .np),(5,.s (.bool false)),(6,.s (.int .i64 i)),(7,.s (.int .i64 s))] ⟨rfl,rfl,rfl,rfl,rfl,rfl,trivial⟩) ?_;refine zYV ?_;refine And.intro (show(0:Int)<=i/\i<(((Nd.encs ks).length:Nat):Int) by rw[zIz]; omega) ?_;show Tri ..
   refine zAh (Le.forget [(0,.s (.pt [.int .i64 k,.str t,.int .i64 c,.sl 4 (Nd.encs ks)])),(1,.s (.sl 1 ((i::s::p).map (irow .i64)))),(4,.s .np),(5,.s (.bool false)),(6,.s (.int .i64 i)),(7,.s (.int .i64 s)),(8,.s (.pt [.int .i64 k2,.str t2,.int .i64 c2,.sl 4 (Nd.encs ks2)]))] ⟨rfl,rfl,rfl,rfl,rfl,rfl,congrArg (fun z=>AV.s (.pt z)) (zVr hx),trivial⟩) ?_;refine zAa ?_;refine zAa ?_
   by_cases hs:s<0
   ·refine zAb [] [38] rfl ?_;intro b hb;obtain rfl:true=b:=(hb.trans (decide_eq_true hs)).symm;refine zAE rfl (fun _=>?_) (fun h=>by cases h)
    refine zYV ?_;refine zAe ?_;obtain rfl:none=y:=(zHs (n:=.mk k t c ks) (by omega) hx (fun h=>by omega)).symm.trans hI;unfold zBC;exact⟨_,Le.forget [(5,.s (.bool false))] ⟨rfl,trivial⟩,rfl,rfl⟩
   by_cases hs2:(ks2.length:Int)<=s
   ·refine zAb [] [38,46] rfl ?_;intro b hb;obtain rfl:false=b:=(hb.trans (decide_eq_false hs)).symm;intro b hb;obtain rfl:true=b:=(hb.trans (decide_eq_true (show(((Nd.encs ks2).length:Nat):Int)<=s by rw[zIz]; exact hs2))).symm;refine zAE rfl (fun _=>?_) (fun h=>by cases h)
    refine zYV ?_;refine zAe ?_;obtain rfl:none=y:=(zHs (n:=.mk k t c ks) (by omega) hx (fun h=>by have:s<ks2.length:=h.2; omega)).symm.trans hI;unfold zBC;exact⟨_,Le.forget [(5,.s (.bool false))] ⟨rfl,trivial⟩,rfl,rfl⟩
   refine zAb [] [38,46] rfl ?_;intro b hb;obtain rfl:false=b:=(hb.trans (decide_eq_false hs)).symm;intro b hb;obtain rfl:false=b:=(hb.trans (decide_eq_false (show ¬ (((Nd.encs ks2).length:Nat):Int)<=s by rw[zIz]; exact hs2))).symm;refine zAE rfl (fun h=>by cases h) (fun _=>?_)
   refine zAf ?_;show Tri ..;have hs0:s.toNat<ks2.length :=(by omega);obtain⟨z,hz⟩:∃ z,ks2[s.toNat]? = some z:=⟨_,List.getElem?_eq_getElem hs0⟩
   refine zAh (Le.forget [(0,.s (.pt [.int .i64 k,.str t,.int .i64 c,.sl 4 (Nd.encs ks)])),(1,.s (.sl 1 ((i::s::p).map (irow .i64)))),(4,.s .np),(5,.s (.bool false)),(6,.s (.int .i64 i)),(7,.s (.int .i64 s)),(8,.s (.pt [.int .i64 k2,.str t2,.int .i64 c2,.sl 4 (Nd.encs ks2)]))] ⟨rfl,rfl,rfl,rfl,rfl,rfl,rfl,trivial⟩) ?_;refine zYU ?_;refine And.intro (show(0:Int)<=s/\s<(((Nd.encs ks2).length:Nat):Int) by rw[zIz]; omega) ?_;show Tri ..
   refine zAh (Le.forget [(0,.s (.pt (Nd.enc z))),(1,.s (.sl 1 ((i::s::p).map (irow .i64)))),(4,.s .np),(5,.s (.bool false))] ⟨congrArg (fun z=>AV.s (.pt z)) (zVr hz),rfl,rfl,rfl,trivial⟩) ?_;refine zYU ?_;refine And.intro (show(0:Int)<=2/\(2:Int)<=((((i::s::p).map (irow .i64)).length:Nat):Int)/\_<=_ from⟨by decide,by simp only[List.map_cons,List.length_cons]; omega,Int.le_refl _⟩) ?_
   exact⟨(z,p),(zN6 (n:=.mk k t c ks) (by omega) hx (by omega) hz).symm.trans hI,Le.forget [(0,.s (.pt (Nd.enc z))),(1,.s (.sl 1 (p.map (irow .i64)))),(4,.s .np),(5,.s (.bool false))] ⟨rfl,congrArg (fun z=>AV.s (.sl 1 z)) (by rw[Int.toNat_natCast,List.take_length]; rfl),rfl,rfl,trivial⟩,by show p.length<p.length+1+1; omega⟩
 ·refine zAC ?_;refine zAa ?_
  match p,hI,hb with
  | [],hI,_ =>
   refine zYU ?_;refine zAe ?_;obtain rfl:some (.mk k t c ks)=y:=hI;unfold zBC;exact⟨_,Le.refl _ _,rfl,rfl⟩
  | [i],hI,_ =>
   refine zYU ?_;refine zAe ?_;obtain rfl:none=y:=hI;unfold zBC;exact⟨_,Le.forget [(5,.s (.bool false))] ⟨rfl,trivial⟩,rfl,rfl⟩
  | i::s::p,_,hb=>exact absurd (of_decide_eq_false hb) (by simp only[List.map_cons,List.length_cons]; omega)
def zFO (n:Nat):Nd->(List Int)->Int->Option (Nd×Int)
| ⟨n1A,n1C,n1D,n1B⟩,path2,i3 =>
 (zFi n (Nd.mk n1A n1C n1D n1B) path2).bind fun⟨⟨y4A,y4C,y4D,y4B⟩,y5⟩ =>
 bif (y5 != 0) then (
  some (Nd.mk 0 [] 0 [],y5)
 ) else (
  (
   bif decide (i3<0) then (
    some true
   ) else (
    some (decide ((y4B.length:Int)<=i3))
   )
   : Option (Bool)).bind fun x6 =>
  bif x6 then (
   some (Nd.mk 0 [] 0 [],2)
  ) else (
   (at? y4B i3).bind fun⟨e8A,e8C,e8D,e8B⟩ =>
   some (Nd.mk e8A e8C e8D e8B,0)
  )
 )
def zAY (slices1:List (List Nd)):Nat->Int->Int->Option (Int)
| 0,_,_=>none
| k+1,x3,size4 =>
 bif decide (x3<(slices1.length:Int)) then (
  (at? slices1 x3).bind fun e6 =>
  bif decide ((IntKind.i64.wrap (size4+(e6.length:Int)))<0) then (
   none
  ) else (
   zAY slices1 k (IntKind.i64.wrap (x3+1)) (IntKind.i64.wrap (size4+(e6.length:Int)))
  )
 ) else (
  some size4
 )
def zAZ (slices1:List (List Nd)):Nat->Int->(List Nd)->Option ((List Nd))
| 0,_,_=>none
| k+1,x11,l13 =>
 bif decide (x11<(slices1.length:Int)) then (
  (at? slices1 x11).bind fun e15 =>
  req (l13.length+e15.length<=4294967296) <|
  zAZ slices1 k (IntKind.i64.wrap (x11+1)) (l13++e15)
 ) else (
  some l13
 )
def zBL (n:Nat):(List (List Nd))->Option (List Nd)
| slices1 =>
 (zAY slices1 n 0 0).bind fun size5 =>
 (zEa size5).bind fun y9 =>
 (zAZ slices1 n 0 y9).bind fun l14 =>
 some l14
def zA1 (n:Nat):(zO8×List Nd)->Int->(List Nd)->Option (List Nd)
| ⟨⟨c1Ap,c1Av,c1Aj,c1Aq,c1Am,c1An,c1Au,c1At⟩,c1Ai⟩,n2,nodes3 =>
 req (0<=(0:Int)/\(0:Int)<=c1Aj/\c1Aj<=(c1Ai.length:Int)) <|
 req (0<=(IntKind.i64.wrap (c1Aj+n2))/\(IntKind.i64.wrap (c1Aj+n2))<=(c1Ai.length:Int)/\(c1Ai.length:Int)<=(c1Ai.length:Int)) <|
 (zBL n [(c1Ai.take c1Aj.toNat).drop (0:Int).toNat,nodes3,(c1Ai.take (c1Ai.length:Int).toNat).drop (IntKind.i64.wrap (c1Aj+n2)).toNat]).bind fun y7 =>
 some y7
def zBm (n:Nat):(zO8×List Nd)->Option ((List Nd)×Int)
| ⟨⟨c1Ap,c1Av,c1Aj,c1Aq,c1Am,c1An,c1Au,c1At⟩,c1Ai⟩ =>
 (at? c1Ai c1Aj).bind fun⟨e2A,e2C,e2D,e2B⟩ =>
 (zCI (Nd.mk e2A e2C e2D e2B)).bind fun⟨y4A,y4C,y4D,y4B⟩ =>
 (zDp (Nd.mk y4A y4C y4D y4B)).bind fun y5 =>
 bif decide (y5<=c1An) then (
  some ([],7)
 ) else (
  (at? y4B c1An).bind fun⟨e6A,e6C,e6D,e6B⟩ =>
  (at? y4B c1An).bind fun⟨e7A,e7C,e7D,e7B⟩ =>
  (
   bif ((e6B.length:Int) != c1Aq) then (
    some true
   ) else (
    (at? c1Am 0).bind fun⟨e11A,e11C,e11D,e11B⟩ =>
    (zB2 n (Nd.mk y4A y4C y4D (y4B.set c1An.toNat (Nd.mk e7A e7C e7D []))) (Nd.mk e11A e11C e11D e11B)).bind fun y13 =>
    some (!y13)
   )
   : Option (Bool)).bind fun x9 =>
  bif x9 then (
   some ([],7)
  ) else (
   (zA1 n ((c1Ap,c1Av,c1Aj,c1Aq,c1Am,c1An,c1Au,c1At),c1Ai) 1 e6B).bind fun y14 =>
   some (y14,0)
  )
 )
def zDh (n:Nat):(zO8×List Nd)->Option ((List Nd)×Int)
| ⟨⟨c1Ap,c1Av,c1Aj,c1Aq,c1Am,c1An,c1Au,c1At⟩,c1Ai⟩ =>
 (at? c1Am 0).bind fun⟨e2A,e2C,e2D,e2B⟩ =>
 (zCI (Nd.mk e2A e2C e2D e2B)).bind fun⟨y4A,y4C,y4D,y4B⟩ =>
 req (0<=c1Aj/\c1Aj<=IntKind.i64.wrap (c1Aj+c1Aq)/\IntKind.i64.wrap (c1Aj+c1Aq)<=(c1Ai.length:Int)) <|
 (zDZ ((c1Ai.take (IntKind.i64.wrap (c1Aj+c1Aq)).toNat).drop c1Aj.toNat)).bind fun y6 =>
 (at? y4B c1An).bind fun⟨e7A,e7C,e7D,e7B⟩ =>
 (zA1 n ((c1Ap,c1Av,c1Aj,c1Aq,c1Am,c1An,c1Au,c1At),c1Ai) c1Aq [Nd.mk y4A y4C y4D (y4B.set c1An.toNat (Nd.mk e7A e7C e7D y6))]).bind fun y10 =>
 some (y10,0)
def zCF (n:Nat):(zO8×List Nd)->Option ((List Nd)×Int)
| ⟨⟨c1Ap,c1Av,c1Aj,c1Aq,c1Am,c1An,c1Au,c1At⟩,c1Ai⟩ =>
 (zA1 n ((c1Ap,c1Av,c1Aj,c1Aq,c1Am,c1An,c1Au,c1At),c1Ai) 0 c1Am).bind fun y2 =>
 some (y2,0)
def zCG (n:Nat):(zO8×List Nd)->Option ((List Nd)×Int)
| ⟨⟨c1Ap,c1Av,c1Aj,c1Aq,c1Am,c1An,c1Au,c1At⟩,c1Ai⟩ =>
 req (0<=c1Aj/\c1Aj<=IntKind.i64.wrap (c1Aj+(c1Am.length:Int))/\IntKind.i64.wrap (c1Aj+(c1Am.length:Int))<=(c1Ai.length:Int)) <|
 (zA0 n ((c1Ai.take (IntKind.i64.wrap (c1Aj+(c1Am.length:Int))).toNat).drop c1Aj.toNat) c1Am).bind fun y4 =>
 bif (!y4) then (
  some ([],7)
 ) else (
  (zA1 n ((c1Ap,c1Av,c1Aj,c1Aq,c1Am,c1An,c1Au,c1At),c1Ai) (c1Am.length:Int) []).bind fun y5 =>
  some (y5,0)
 )
def zDF (n:Nat):(zO8×List Nd)->Option ((List Nd)×Int)
| ⟨⟨c1Ap,c1Av,c1Aj,c1Aq,c1Am,c1An,c1Au,c1At⟩,c1Ai⟩ =>
 (at? c1Ai c1Aj).bind fun⟨e2A,e2C,e2D,e2B⟩ =>
 (
  (
   bif (e2A == 2) then (
    some (e2A == 2)
   ) else (
    bif (e2A == 3) then (
     some (e2A == 3)
    ) else (
     bif (e2A == 4) then (
      some (e2A == 4)
     ) else (
      bif (e2A == 10) then (
       some (e2A == 10)
      ) else (
       some (e2A == 11)
      )
     )
    )
   )
   : Option (Bool)).bind fun x4 =>
  bif x4 then (
   some (.go ())
  ) else (
   some (.ret ([],7))
  )
  : Option (Fl ((List Nd)×Int) Unit)).bind fun fl=>match fl with
 | .ret r=>some r
 | .go _ =>
  bif (!(e2C == c1Au)) then (
   some ([],7)
  ) else (
   (zA1 n ((c1Ap,c1Av,c1Aj,c1Aq,c1Am,c1An,c1Au,c1At),c1Ai) 1 [Nd.mk e2A c1At e2D e2B]).bind fun y6 =>
   some (y6,0)
  )
def zBX:(zO8×List Nd)->Option Int
| ⟨⟨c1Ap,c1Av,c1Aj,c1Aq,c1Am,c1An,c1Au,c1At⟩,c1Ai⟩ =>
 (
  bif (c1Ap == 1) then (
   some 0
  ) else (
   bif (c1Ap == 2) then (
    some (c1Am.length:Int)
   ) else (
    bif (c1Ap == 3) then (
     some c1Aq
    ) else (
     some 1
    )
   )
  )
  : Option (Int)).bind fun need2 =>
 (
  bif decide (c1Aj<0) then (
   some true
  ) else (
   bif decide ((c1Ai.length:Int)<c1Aj) then (
    some true
   ) else (
    some (decide ((IntKind.i64.wrap ((c1Ai.length:Int) - c1Aj))<need2))
   )
  )
  : Option (Bool)).bind fun x4 =>
 bif x4 then (
  some 2
 ) else (
  some 0
 )
def zC5 (n:Nat):(List Nd)->Int->Option Bool
| l1,slot2 =>
 (
  bif ((l1.length:Int) != 1) then (
   some true
  ) else (
   (zB9 n l1).bind fun y5 =>
   bif (!y5) then (
    some true
   ) else (
    bif decide (slot2<0) then (
     some true
    ) else (
     (at? l1 0).bind fun⟨e6A,e6C,e6D,e6B⟩ =>
     (zDp (Nd.mk e6A e6C e6D e6B)).bind fun y8 =>
     some (decide (y8<=slot2))
    )
   )
  )
  : Option (Bool)).bind fun x3 =>
 bif x3 then (
  some false
 ) else (
  (at? l1 0).bind fun⟨e9A,e9C,e9D,e9B⟩ =>
  (at? e9B slot2).bind fun⟨e11A,e11C,e11D,e11B⟩ =>
  some ((e11B.length:Int) == 0)
 )
def zEy (n:Nat):zO8->Option Bool
| ⟨a1A,a1G,a1L,a1S,a1R,a1V,a1Ac,a1C⟩ =>
 (
  bif (!(a1Ac == [])) then (
   some true
  ) else (
   some (!(a1C == []))
  )
  : Option (Bool)).bind fun x2 =>
 (
  (
   bif (a1A == 1) then (
    some (a1A == 1)
   ) else (
    some (a1A == 2)
   )
   : Option (Bool)).bind fun x3 =>
  bif x3 then (
   (
    bif (a1S == 0) then (
     bif (a1V == 0) then (
      bif (!x2) then (
       bif decide (0<(a1R.length:Int)) then (
        (zB9 n a1R).bind fun y6 =>
        some y6
       ) else (
        some false
       )
      ) else (
       some false
      )
     ) else (
      some false
     )
    ) else (
     some false
    )
    : Option (Bool)).bind fun x4 =>
   some (.ret x4)
  ) else (
   (
    bif (a1A == 3) then (
     some (a1A == 3)
    ) else (
     some (a1A == 4)
    )
    : Option (Bool)).bind fun x7 =>
   bif x7 then (
    (
     bif decide (0<=a1S) then (
      bif (!x2) then (
       (zC5 n a1R a1V).bind fun y9 =>
       some y9
      ) else (
       some false
      )
     ) else (
      some false
     )
     : Option (Bool)).bind fun x8 =>
    some (.ret x8)
   ) else (
    bif (a1A == 5) then (
     (
      bif (a1S == 0) then (
       bif (a1V == 0) then (
        bif ((a1R.length:Int) == 0) then (
         some (!(a1Ac == a1C))
        ) else (
         some false
        )
       ) else (
        some false
       )
      ) else (
       some false
      )
      : Option (Bool)).bind fun x10 =>
     some (.ret x10)
    ) else (
     some (.go ())
    )
   )
  )
  : Option (Fl Bool Unit)).bind fun fl=>match fl with
 | .ret r=>some r
 | .go _ =>
  some false
def zDn:(List Int)->Option (List Int)
| l1 =>
 (zBG l1).bind fun y2 =>
 some y2
def zBu (l1:List Nd):Nat->Int->(List Nd)->Option ((List Nd))
| 0,_,_=>none
| k+1,x4,l5 =>
 bif decide (x4<(l1.length:Int)) then (
  (at? l1 x4).bind fun⟨e7A,e7C,e7D,e7B⟩ =>
  (zAX (Nd.mk e7A e7C e7D e7B)).bind fun⟨y9A,y9C,y9D,y9B⟩ =>
  req (l5.length + [Nd.mk y9A y9C y9D y9B].length<=4294967296) <|
  zBu l1 k (IntKind.i64.wrap (x4+1)) (l5++[Nd.mk y9A y9C y9D y9B])
 ) else (
  some l5
 )
def zFc (n:Nat):(List Nd)->Option (List Nd)
| l1 =>
 (zBu l1 n 0 []).bind fun l6 =>
 some l6
def zFd (n:Nat):zO8->Option zO8
| ⟨op1A,op1G,op1L,op1S,op1R,op1V,op1Ac,op1C⟩ =>
 (zDn op1G).bind fun y2 =>
 (zFc n op1R).bind fun y3 =>
 some (op1A,y2,op1L,op1S,y3,op1V,op1Ac,op1C)
def zBn:(zO8×List Nd)->Option ((List Nd)×Int)
| ⟨⟨c1Ap,c1Av,c1Aj,c1Aq,c1Am,c1An,c1Au,c1At⟩,c1Ai⟩ =>
 (at? c1Ai c1Aj).bind fun⟨e2A,e2C,e2D,e2B⟩ =>
 (zAX (Nd.mk e2A e2C e2D e2B)).bind fun⟨y4A,y4C,y4D,y4B⟩ =>
 (zDp (Nd.mk y4A y4C y4D y4B)).bind fun y5 =>
 bif decide (y5<=c1An) then (
  some ([],7)
 ) else (
  none
 )
def zBj (n:Nat) (c:zO8×List Nd):Option (List Nd×Int) :=
 match zBn c with
 | some r=>some r
 | none=>zBm n c
def zCb (n:Nat):(zO8×List Nd)->Option ((List Nd)×Int)
| ⟨⟨c1Ap,c1Av,c1Aj,c1Aq,c1Am,c1An,c1Au,c1At⟩,c1Ai⟩ =>
 (zBX ((c1Ap,c1Av,c1Aj,c1Aq,c1Am,c1An,c1Au,c1At),c1Ai)).bind fun y2 =>
 bif (y2 != 0) then (
  some ([],y2)
 ) else (
  bif (c1Ap == 1) then (
   (zCF n ((c1Ap,c1Av,c1Aj,c1Aq,c1Am,c1An,c1Au,c1At),c1Ai)).bind fun⟨y3,y4⟩ =>
   some (y3,y4)
  ) else (
   bif (c1Ap == 2) then (
    (zCG n ((c1Ap,c1Av,c1Aj,c1Aq,c1Am,c1An,c1Au,c1At),c1Ai)).bind fun⟨y5,y6⟩ =>
    some (y5,y6)
   ) else (
    bif (c1Ap == 3) then (
     (zDh n ((c1Ap,c1Av,c1Aj,c1Aq,c1Am,c1An,c1Au,c1At),c1Ai)).bind fun⟨y7,y8⟩ =>
     some (y7,y8)
    ) else (
     bif (c1Ap == 4) then (
      (zBj n ((c1Ap,c1Av,c1Aj,c1Aq,c1Am,c1An,c1Au,c1At),c1Ai)).bind fun⟨y9,y10⟩ =>
      some (y9,y10)
     ) else (
      (zDF n ((c1Ap,c1Av,c1Aj,c1Aq,c1Am,c1An,c1Au,c1At),c1Ai)).bind fun⟨y11,y12⟩ =>
      some (y11,y12)
     )
    )
   )
  )
 )
def zEm (n:Nat):Nd->zO8->Option (Nd×Int)
| ⟨n1A,n1C,n1D,n1B⟩,⟨op2A,op2G,op2L,op2S,op2R,op2V,op2Ac,op2C⟩ =>
 (zA8 n (Nd.mk n1A n1C n1D n1B)).bind fun y3 =>
 bif (!y3) then (
  some (Nd.mk 0 [] 0 [],1)
 ) else (
  (zEy n (op2A,op2G,op2L,op2S,op2R,op2V,op2Ac,op2C)).bind fun y4 =>
  bif (!y4) then (
   some (Nd.mk 0 [] 0 [],4)
  ) else (
   (zG4 n (Nd.mk n1A n1C n1D n1B) op2G).bind fun⟨⟨y5A,y5C,y5D,y5B⟩,y6⟩ =>
   bif (y6 != 0) then (
    some (Nd.mk 0 [] 0 [],y6)
   ) else (
    (zCb n ((op2A,op2G,op2L,op2S,op2R,op2V,op2Ac,op2C),y5B)).bind fun⟨y7,y8⟩ =>
    bif (y8 != 0) then (
     some (Nd.mk 0 [] 0 [],y8)
    ) else (
     (zEQ n (Nd.mk n1A n1C n1D n1B) op2G (Nd.mk y5A y5C y5D y7)).bind fun⟨⟨y9A,y9C,y9D,y9B⟩,y10⟩ =>
     bif (y10 != 0) then (
      some (Nd.mk 0 [] 0 [],6)
     ) else (
      some (Nd.mk y9A y9C y9D y9B,0)
     )
    )
   )
  )
 )
def zBc (n:Nat) (ops2:List zO8):Nat->Int->(List UInt8)->Int->(List Nd)->Int->Option (Fl (Nd×Int×Int) (Int×(List UInt8)×Int×(List Nd)))
| 0,_,_,_,_,_=>none
| k+1,x7,x8,x9,x10,x11 =>
 bif decide (x11<(ops2.length:Int)) then (
  (at? ops2 x11).bind fun⟨e16A,e16G,e16L,e16S,e16R,e16V,e16Ac,e16C⟩ =>
  (zEm n (Nd.mk x7 x8 x9 x10) (e16A,e16G,e16L,e16S,e16R,e16V,e16Ac,e16C)).bind fun⟨⟨y18A,y18C,y18D,y18B⟩,y19⟩ =>
  bif (y19 != 0) then (
   some (.ret (Nd.mk 0 [] 0 [],x11,y19))
  ) else (
   zBc n ops2 k y18A y18C y18D y18B (IntKind.i64.wrap (x11+1))
  )
 ) else (
  some (.go (x7,x8,x9,x10))
 )
def zBh (n:Nat):Nd->(List zO8)->Option (Nd×Int×Int)
| ⟨n1A,n1C,n1D,n1B⟩,ops2 =>
 (zA8 n (Nd.mk n1A n1C n1D n1B)).bind fun y3 =>
 bif (!y3) then (
  some (Nd.mk 0 [] 0 [],0,1)
 ) else (
  (zAX (Nd.mk n1A n1C n1D n1B)).bind fun⟨y4A,y4C,y4D,y4B⟩ =>
  (zBc n ops2 n y4A y4C y4D y4B 0).bind fun fl=>match fl with
  | .ret r=>some r
  | .go ⟨x12,x13,x14,x15⟩ =>
   some (Nd.mk x12 x13 x14 x15,0,0)
 )
def zB0 (n:Nat):zO8->Option zO8
| ⟨op1A,op1G,op1L,op1S,op1R,op1V,op1Ac,op1C⟩ =>
 (zFd n (op1A,op1G,op1L,op1S,op1R,op1V,op1Ac,op1C)).bind fun⟨y2A,y2G,y2L,y2S,y2R,y2V,y2Ac,y2C⟩ =>
 (
  bif (op1A == 1) then (
   some (2,y2Ac,y2C)
  ) else (
   bif (op1A == 2) then (
    some (1,y2Ac,y2C)
   ) else (
    bif (op1A == 3) then (
     some (4,y2Ac,y2C)
    ) else (
     bif (op1A == 4) then (
      some (3,y2Ac,y2C)
     ) else (
      bif (op1A == 5) then (
       some (y2A,op1C,op1Ac)
      ) else (
       some (y2A,y2Ac,y2C)
      )
     )
    )
   )
  )
  : Option (Int×(List UInt8)×(List UInt8))).bind fun⟨x3,x4,x5⟩ =>
 some (x3,y2G,y2L,y2S,y2R,y2V,x4,x5)
def zBd (n:Nat) (ops:List zO8):Nat->Option (List zO8)
| 0=>some []
| i+1=>(zBd n ops i).bind fun acc=>(ops[ops.length - 1 - i]?).bind fun o=>(zB0 n o).bind fun y=>req (acc.length+1<=4294967296) <| some (acc++[y])
def zCm (n:Nat):(List zO8)->Option (List zO8)
| ops2=>req (ops2.length<=4294967296) <| zBd n ops2 ops2.length
def zCX (a1G:List Int) (a2G:List Int):Nat->Int->Option (Fl Bool Unit)
| 0,_=>none
| k+1,x6 =>
 bif decide (x6<(a1G.length:Int)) then (
  (at? a1G x6).bind fun e8 =>
  (at? a2G x6).bind fun e10 =>
  bif (e8 != e10) then (
   some (.ret false)
  ) else (
   zCX a1G a2G k (IntKind.i64.wrap (x6+1))
  )
 ) else (
  some (.go ())
 )
def zFR (n:Nat):zO8->zO8->Option Bool
| ⟨a1A,a1G,a1L,a1S,a1R,a1V,a1Ac,a1C⟩,⟨a2A,a2G,a2L,a2S,a2R,a2V,a2Ac,a2C⟩ =>
 (
  bif (a1A != a2A) then (
   some true
  ) else (
   bif (a1L != a2L) then (
    some true
   ) else (
    bif (a1S != a2S) then (
     some true
    ) else (
     bif (a1V != a2V) then (
      some true
     ) else (
      bif (!(a1Ac == a2Ac)) then (
       some true
      ) else (
       bif (!(a1C == a2C)) then (
        some true
       ) else (
        some ((a1G.length:Int) != (a2G.length:Int))
       )
      )
     )
    )
   )
  )
  : Option (Bool)).bind fun x3 =>
 bif x3 then (
  some false
 ) else (
  (zCX a1G a2G n 0).bind fun fl=>match fl with
  | .ret r=>some r
  | .go _ =>
   (zBK n a1R a2R).bind fun y12 =>
   some y12
 )
def zBU (n:Nat) (a1:List zO8) (b2:List zO8):Nat->Int->Option (Fl Bool Unit)
| 0,_=>none
| k+1,i5 =>
 bif decide (i5<(a1.length:Int)) then (
  (at? a1 i5).bind fun⟨e7A,e7G,e7L,e7S,e7R,e7V,e7Ac,e7C⟩ =>
  (at? b2 i5).bind fun⟨e9A,e9G,e9L,e9S,e9R,e9V,e9Ac,e9C⟩ =>
  (zFR n (e7A,e7G,e7L,e7S,e7R,e7V,e7Ac,e7C) (e9A,e9G,e9L,e9S,e9R,e9V,e9Ac,e9C)).bind fun y11 =>
  bif (!y11) then (
   some (.ret false)
  ) else (
   zBU n a1 b2 k (IntKind.i64.wrap (i5+1))
  )
 ) else (
  some (.go ())
 )
def zFD (n:Nat):(List zO8)->(List zO8)->Option Bool
| a1,b2 =>
 bif ((a1.length:Int) != (b2.length:Int)) then (
  some false
 ) else (
  (zBU n a1 b2 n 0).bind fun fl=>match fl with
  | .ret r=>some r
  | .go _ =>
   some true
 )
def zMy:List Int->List Int->Option (List Int)
| p,q=>req (p.length+q.length<=4294967296) <| some (p++q)
def zDG (n:Nat):Nd->Option ((Option (Nd×Nd×List zRc×Int))×Int)
| ⟨n1A,n1C,n1D,n1B⟩ =>
 (zA8 n (Nd.mk n1A n1C n1D n1B)).bind fun y2 =>
 bif (!y2) then (
  some (none,1)
 ) else (
  (zAX (Nd.mk n1A n1C n1D n1B)).bind fun⟨y3A,y3C,y3D,y3B⟩ =>
  (zAX (Nd.mk n1A n1C n1D n1B)).bind fun⟨y4A,y4C,y4D,y4B⟩ =>
  some (some (Nd.mk y3A y3C y3D y3B,Nd.mk y4A y4C y4D y4B,[],0),0)
 )
def zCR (n:Nat) (l1:List zO8):Nat->Int->(List zO8)->Option ((List zO8))
| 0,_,_=>none
| k+1,x4,l5 =>
 bif decide (x4<(l1.length:Int)) then (
  (at? l1 x4).bind fun⟨e7A,e7G,e7L,e7S,e7R,e7V,e7Ac,e7C⟩ =>
  (zFd n (e7A,e7G,e7L,e7S,e7R,e7V,e7Ac,e7C)).bind fun⟨y9A,y9G,y9L,y9S,y9R,y9V,y9Ac,y9C⟩ =>
  req (l5.length + [(y9A,y9G,y9L,y9S,y9R,y9V,y9Ac,y9C)].length<=4294967296) <|
  zCR n l1 k (IntKind.i64.wrap (x4+1)) (l5++[(y9A,y9G,y9L,y9S,y9R,y9V,y9Ac,y9C)])
 ) else (
  some l5
 )
def zIB (n:Nat):(List zO8)->Option (List zO8)
| l1 =>
 (zCR n l1 n 0 []).bind fun l6 =>
 some l6
def zBH:zCu->Option zCu
| ⟨c1Q,c1Ab⟩ =>
 (zDn c1Q).bind fun y2 =>
 (zDn c1Ab).bind fun y3 =>
 some (y2,y3)
def zCS (n:Nat):zRc->Option zRc
| ⟨r1W,⟨r1X,r1Y⟩,⟨r1Z,r1Aa⟩⟩ =>
 (zIB n r1W).bind fun y2 =>
 (zBH (r1X,r1Y)).bind fun⟨y3Q,y3Ab⟩ =>
 (zBH (r1Z,r1Aa)).bind fun⟨y4Q,y4Ab⟩ =>
 some (y2,(y3Q,y3Ab),(y4Q,y4Ab))
def zAU (n:Nat):(Nd×Nd×List zRc×Int)->zRc->Option (Int×(Nd×Nd×List zRc×Int))
| ⟨⟨o1H,o1I,o1J,o1K⟩,⟨o1M,o1N,o1O,o1P⟩,o1E,o1F⟩,⟨r2W,⟨r2X,r2Y⟩,⟨r2Z,r2Aa⟩⟩ =>
 (zBh n (Nd.mk o1M o1N o1O o1P) r2W).bind fun⟨⟨y3A,y3C,y3D,y3B⟩,y4,y5⟩ =>
 bif (y5 != 0) then (
  some (y5,(Nd.mk o1H o1I o1J o1K,Nd.mk o1M o1N o1O o1P,o1E,o1F))
 ) else (
  bif decide (1000<=o1F) then (
   some (6,(Nd.mk o1H o1I o1J o1K,Nd.mk o1M o1N o1O o1P,o1E,o1F))
  ) else (
   req (0<=o1F/\o1F<=(o1E.length:Int)) <|
   (zCS n (r2W,(r2X,r2Y),(r2Z,r2Aa))).bind fun⟨y6W,⟨y6X,y6Y⟩,⟨y6Z,y6Aa⟩⟩ =>
   req ((o1E.take o1F.toNat).length + [(y6W,(y6X,y6Y),(y6Z,y6Aa))].length<=4294967296) <|
   some (0,(Nd.mk o1H o1I o1J o1K,Nd.mk y3A y3C y3D y3B,(o1E.take o1F.toNat)++[(y6W,(y6X,y6Y),(y6Z,y6Aa))],IntKind.i64.wrap (o1F+1)))
  )
 )
def zA9:(Nd×Nd×List zRc×Int)->Option (Nd×(Nd×Nd×List zRc×Int))
| ⟨⟨o1H,o1I,o1J,o1K⟩,⟨o1M,o1N,o1O,o1P⟩,o1E,o1F⟩ =>
 (zAX (Nd.mk o1M o1N o1O o1P)).bind fun⟨y2A,y2C,y2D,y2B⟩ =>
 some (Nd.mk y2A y2C y2D y2B,(Nd.mk o1H o1I o1J o1K,Nd.mk o1M o1N o1O o1P,o1E,o1F))
def zAN (n:Nat):(Nd×Nd×List zRc×Int)->Option (zCu×Int×(Nd×Nd×List zRc×Int))
| ⟨⟨o1H,o1I,o1J,o1K⟩,⟨o1M,o1N,o1O,o1P⟩,o1E,o1F⟩ =>
 bif (o1F == 0) then (
  some (([],[]),8,(Nd.mk o1H o1I o1J o1K,Nd.mk o1M o1N o1O o1P,o1E,o1F))
 ) else (
  (at? o1E (IntKind.i64.wrap (o1F - 1))).bind fun⟨e2W,⟨e2X,e2Y⟩,⟨e2Z,e2Aa⟩⟩ =>
  (zCm n e2W).bind fun y3 =>
  (zBh n (Nd.mk o1M o1N o1O o1P) y3).bind fun⟨⟨y4A,y4C,y4D,y4B⟩,y5,y6⟩ =>
  bif (y6 != 0) then (
   some (([],[]),y6,(Nd.mk o1H o1I o1J o1K,Nd.mk o1M o1N o1O o1P,o1E,o1F))
  ) else (
   (zBH (e2X,e2Y)).bind fun⟨y7Q,y7Ab⟩ =>
   some ((y7Q,y7Ab),0,(Nd.mk o1H o1I o1J o1K,Nd.mk y4A y4C y4D y4B,o1E,IntKind.i64.wrap (o1F - 1)))
  )
 )
def zBg (n:Nat) (o1:List zRc):Nat->Int->(List zRc)->Option ((List zRc))
| 0,_,_=>none
| k+1,x4,l5 =>
 bif decide (x4<(o1.length:Int)) then (
  (at? o1 x4).bind fun⟨e7W,⟨e7X,e7Y⟩,⟨e7Z,e7Aa⟩⟩ =>
  (zCS n (e7W,(e7X,e7Y),(e7Z,e7Aa))).bind fun⟨y8W,⟨y8X,y8Y⟩,⟨y8Z,y8Aa⟩⟩ =>
  req (l5.length + [(y8W,(y8X,y8Y),(y8Z,y8Aa))].length<=4294967296) <|
  zBg n o1 k (IntKind.i64.wrap (x4+1)) (l5++[(y8W,(y8X,y8Y),(y8Z,y8Aa))])
 ) else (
  some l5
 )
def zDg (n:Nat):(List zRc)->Option (List zRc)
| o1 =>
 (zBg n o1 n 0 []).bind fun l6 =>
 some l6
def zA7 (n:Nat):(Nd×Nd×List zRc×Int)->Option ((List zRc)×(Nd×Nd×List zRc×Int))
| ⟨⟨o1H,o1I,o1J,o1K⟩,⟨o1M,o1N,o1O,o1P⟩,o1E,o1F⟩ =>
 (zDg n o1E).bind fun y2 =>
 some (y2,(Nd.mk o1H o1I o1J o1K,Nd.mk o1M o1N o1O o1P,o1E,o1F))
def zEP (n:Nat):Option Bool
:=
 (zDG n (Nd.mk 1 [] 0 [])).bind fun⟨y1,y2⟩ =>
 match y1 with
 | none=>(
  req (y2=1) <|
  some false
 )
 | some ⟨⟨w3H,w3I,w3J,w3K⟩,⟨w3M,w3N,w3O,w3P⟩,w3E,w3F⟩=>(
  req (y2=0) <|
  (zAU n (Nd.mk w3H w3I w3J w3K,Nd.mk w3M w3N w3O w3P,w3E,w3F) ([(1,[],0,0,[Nd.mk 2 [120] 0 []],0,[],[])],([],[]),([],[]))).bind fun⟨y6,⟨⟨w7H,w7I,w7J,w7K⟩,⟨w7M,w7N,w7O,w7P⟩,w7E,w7F⟩⟩ =>
  (zA9 (Nd.mk w7H w7I w7J w7K,Nd.mk w7M w7N w7O w7P,w7E,w7F)).bind fun⟨⟨y8A,y8C,y8D,y8B⟩,⟨⟨w9H,w9I,w9J,w9K⟩,⟨w9M,w9N,w9O,w9P⟩,w9E,w9F⟩⟩ =>
  (zAN n (Nd.mk w9H w9I w9J w9K,Nd.mk w9M w9N w9O w9P,w9E,w9F)).bind fun⟨⟨y11Q,y11Ab⟩,y12,⟨⟨w13H,w13I,w13J,w13K⟩,⟨w13M,w13N,w13O,w13P⟩,w13E,w13F⟩⟩ =>
  (
   bif (y6 == 0) then (
    bif (y12 == 0) then (
     bif ((y8B.length:Int) == 1) then (
      (zA9 (Nd.mk w13H w13I w13J w13K,Nd.mk w13M w13N w13O w13P,w13E,w13F)).bind fun⟨⟨y15A,y15C,y15D,y15B⟩,⟨⟨w16H,w16I,w16J,w16K⟩,⟨w16M,w16N,w16O,w16P⟩,w16E,w16F⟩⟩ =>
      bif ((y15B.length:Int) == 0) then (
       (zA7 n (Nd.mk w16H w16I w16J w16K,Nd.mk w16M w16N w16O w16P,w16E,w16F)).bind fun⟨y18,⟨⟨w19H,w19I,w19J,w19K⟩,⟨w19M,w19N,w19O,w19P⟩,w19E,w19F⟩⟩ =>
       some ((y18.length:Int) == 1)
      ) else (
       some false
      )
     ) else (
      some false
     )
    ) else (
     some false
    )
   ) else (
    some false
   )
   : Option (Bool)).bind fun x14 =>
  some x14
 )
def zId (n:Nat):(Int×List Nd×Int×List UInt8×Bool)->Option Bool
| ⟨x1A,x1Ai,x1V,x1C,x1Bh⟩ =>
 (
  (zA3 x1Ai).bind fun⟨y3A,y3C,y3D,y3B⟩ =>
  (zGd n (Nd.mk y3A y3C y3D y3B) 100).bind fun y4 =>
  bif y4 then (
   some (decide ((x1C.length:Int)<=300))
  ) else (
   some false
  )
  : Option (Bool)).bind fun x2 =>
 some x2
def zDo (n:Nat) (e18Ar:List zO8):Nat->Int->Option (Fl Bool Unit)
| 0,_=>none
| k+1,x21 =>
 bif decide (x21<(e18Ar.length:Int)) then (
  (at? e18Ar x21).bind fun⟨e22A,e22G,e22L,e22S,e22R,e22V,e22Ac,e22C⟩ =>
  (zIa n (e22A,e22G,e22L,e22S,e22R,e22V,e22Ac,e22C)).bind fun y24 =>
  bif (!y24) then (
   some (.ret false)
  ) else (
   zDo n e18Ar k (IntKind.i64.wrap (x21+1))
  )
 ) else (
  some (.go ())
 )
def zCK (n:Nat) (a2:List (Int×zRc×zCu×(Int×List Nd×Int×List UInt8×Bool)×Int)):Nat->Int->Option (Fl Bool Unit)
| 0,_=>none
| k+1,x4 =>
 bif decide (x4<(a2.length:Int)) then (
  (
   (at? a2 x4).bind fun⟨e6A,⟨e6Ar,⟨e6Bd,e6Be⟩,⟨e6Bf,e6Bg⟩⟩,⟨e6Aw,e6Ax⟩,⟨e6Ay,e6Az,e6Ba,e6Bb,e6Bc⟩,e6S⟩ =>
   bif decide (6<(e6Ar.length:Int)) then (
    some true
   ) else (
    (at? a2 x4).bind fun⟨e9A,⟨e9Ar,⟨e9Bd,e9Be⟩,⟨e9Bf,e9Bg⟩⟩,⟨e9Aw,e9Ax⟩,⟨e9Ay,e9Az,e9Ba,e9Bb,e9Bc⟩,e9S⟩ =>
    (zId n (e9Ay,e9Az,e9Ba,e9Bb,e9Bc)).bind fun y11 =>
    bif (!y11) then (
     some true
    ) else (
     (at? a2 x4).bind fun⟨e12A,⟨e12Ar,⟨e12Bd,e12Be⟩,⟨e12Bf,e12Bg⟩⟩,⟨e12Aw,e12Ax⟩,⟨e12Ay,e12Az,e12Ba,e12Bb,e12Bc⟩,e12S⟩ =>
     bif decide (60<(e12Aw.length:Int)) then (
      some true
     ) else (
      (at? a2 x4).bind fun⟨e15A,⟨e15Ar,⟨e15Bd,e15Be⟩,⟨e15Bf,e15Bg⟩⟩,⟨e15Aw,e15Ax⟩,⟨e15Ay,e15Az,e15Ba,e15Bb,e15Bc⟩,e15S⟩ =>
      some (decide (60<(e15Ax.length:Int)))
     )
    )
   )
   : Option (Bool)).bind fun x5 =>
  bif x5 then (
   some (.ret false)
  ) else (
   (at? a2 x4).bind fun⟨e18A,⟨e18Ar,⟨e18Bd,e18Be⟩,⟨e18Bf,e18Bg⟩⟩,⟨e18Aw,e18Ax⟩,⟨e18Ay,e18Az,e18Ba,e18Bb,e18Bc⟩,e18S⟩ =>
   (zDo n e18Ar n 0).bind fun fl=>match fl with
   | .ret r=>some (.ret r)
   | .go _ =>
    zCK n a2 k (IntKind.i64.wrap (x4+1))
  )
 ) else (
  some (.go ())
 )
def zH9 (n:Nat):Nd->(List (Int×zRc×zCu×(Int×List Nd×Int×List UInt8×Bool)×Int))->Option Bool
| ⟨a1A,a1C,a1D,a1B⟩,a2 =>
 (zCK n a2 n 0).bind fun fl=>match fl with
 | .ret r=>some r
 | .go _ =>
  (
   (zGd n (Nd.mk a1A a1C a1D a1B) 100).bind fun y26 =>
   bif y26 then (
    some (decide ((a2.length:Int)<=25))
   ) else (
    some false
   )
   : Option (Bool)).bind fun x25 =>
  some x25
def zDv (F_r10_all:Nd->(List Int)->Option (List (List Int))) (row1B:List Nd) (path2:List Int) (i4:Int):Nat->Int->(List (List Int))->Option ((List (List Int)))
| 0,_,_=>none
| k+1,k13,l14 =>
 (at? row1B i4).bind fun⟨e16A,e16C,e16D,e16B⟩ =>
 bif decide (k13<(e16B.length:Int)) then (
  (at? row1B i4).bind fun⟨e19A,e19C,e19D,e19B⟩ =>
  (at? e19B k13).bind fun⟨e21A,e21C,e21D,e21B⟩ =>
  req (([]:List Int).length+path2.length<=4294967296) <|
  req (path2.length + [i4,k13].length<=4294967296) <|
  (F_r10_all (Nd.mk e21A e21C e21D e21B) (path2++[i4,k13])).bind fun y24 =>
  req (l14.length+y24.length<=4294967296) <|
  zDv F_r10_all row1B path2 i4 k (IntKind.i64.wrap (k13+1)) (l14++y24)
 ) else (
  some l14
 )
def zDu (F_r10_all:Nd->(List Int)->Option (List (List Int))) (n:Nat) (row1B:List Nd) (path2:List Int):Nat->Int->(List (List Int))->Option ((List (List Int)))
| 0,_,_=>none
| k+1,i4,l5 =>
 bif decide (i4<=(row1B.length:Int)) then (
  (zMy path2 [i4]).bind fun y9 =>
  req (l5.length + [y9].length<=4294967296) <|
  bif (i4 == (row1B.length:Int)) then (
   some (l5++[y9])
  ) else (
   (zDv F_r10_all row1B path2 i4 n 0 (l5++[y9])).bind fun l15 =>
   zDu F_r10_all n row1B path2 k (IntKind.i64.wrap (i4+1)) l15
  )
 ) else (
  some l5
 )
def zDt:Nat->Nd->(List Int)->Option (List (List Int))
| 0,_,_=>none
| n+1,⟨row1A,row1C,row1D,row1B⟩,path2 =>
 (zDu (zDt n) n row1B path2 n 0 []).bind fun l6 =>
 some l6
def zG8 (n:Nat):Nd->Option ((List (List Int))×Int)
| ⟨n1A,n1C,n1D,n1B⟩ =>
 (zAQ n (Nd.mk n1A n1C n1D n1B)).bind fun y2 =>
 bif (!y2) then (
  some ([],1)
 ) else (
  (zDt n (Nd.mk n1A n1C n1D n1B) []).bind fun y3 =>
  some (y3,0)
 )
def zBS (a1:List Int) (b2:List Int):Nat->Int->Option (Fl Int Unit)
| 0,_=>none
| k+1,i3 =>
 (
  bif decide (i3<(a1.length:Int)) then (
   some (decide (i3<(b2.length:Int)))
  ) else (
   some false
  )
  : Option (Bool)).bind fun x4 =>
 bif x4 then (
  (at? a1 i3).bind fun e7 =>
  (at? b2 i3).bind fun e9 =>
  bif decide (e7<e9) then (
   some (.ret (-1))
  ) else (
   (at? a1 i3).bind fun e11 =>
   (at? b2 i3).bind fun e13 =>
   bif decide (e13<e11) then (
    some (.ret 1)
   ) else (
    zBS a1 b2 k (IntKind.i64.wrap (i3+1))
   )
  )
 ) else (
  some (.go ())
 )
def zDN (n:Nat):(List Int)->(List Int)->Option Int
| a1,b2 =>
 (zBS a1 b2 n 0).bind fun fl=>match fl with
 | .ret r=>some r
 | .go _ =>
  bif decide ((a1.length:Int)<(b2.length:Int)) then (
   some (-1)
  ) else (
   bif decide ((b2.length:Int)<(a1.length:Int)) then (
    some 1
   ) else (
    some 0
   )
  )
def zCB (n:Nat) (pos2:List Int) (y3:List (List Int)):Nat->Int->Option (Fl (Int×Int) Unit)
| 0,_=>none
| k+1,i5 =>
 bif decide (i5<(y3.length:Int)) then (
  (at? y3 i5).bind fun e7 =>
  (zDN n e7 pos2).bind fun y9 =>
  bif (y9 == 0) then (
   some (.ret (i5,0))
  ) else (
   zCB n pos2 y3 k (IntKind.i64.wrap (i5+1))
  )
 ) else (
  some (.go ())
 )
def zD7 (n:Nat):Nd->(List Int)->Option (Int×Int)
| ⟨n1A,n1C,n1D,n1B⟩,pos2 =>
 (zG8 n (Nd.mk n1A n1C n1D n1B)).bind fun⟨y3,y4⟩ =>
 bif (y4 != 0) then (
  some (0,y4)
 ) else (
  (zCB n pos2 y3 n 0).bind fun fl=>match fl with
  | .ret r=>some r
  | .go _ =>
   some (0,2)
 )
def zES (n:Nat):Nd->(List Int)->Option Bool
| ⟨n1A,n1C,n1D,n1B⟩,pos2 =>
 (zD7 n (Nd.mk n1A n1C n1D n1B) pos2).bind fun⟨y3,y4⟩ =>
 some (y4 == 0)
def zFQ:(List Int)->Int->Option (Int×Int)
| pos1,k2 =>
 bif ((pos1.length:Int) == (IntKind.i64.wrap (k2+1))) then (
  (at? pos1 k2).bind fun e4 =>
  (at? pos1 k2).bind fun e6 =>
  some (e4,e6)
 ) else (
  (at? pos1 k2).bind fun e8 =>
  (at? pos1 k2).bind fun e10 =>
  some (e8,IntKind.i64.wrap (e10+1))
 )
def zBT (a2:List Int) (a3:List Int):Nat->Int->Option (Int)
| 0,_=>none
| k+1,x8 =>
 (
  bif decide ((IntKind.i64.wrap (x8+2))<(a2.length:Int)) then (
   bif decide ((IntKind.i64.wrap (x8+2))<(a3.length:Int)) then (
    (at? a2 x8).bind fun e13 =>
    (at? a3 x8).bind fun e15 =>
    bif (e13 == e15) then (
     (at? a2 (IntKind.i64.wrap (x8+1))).bind fun e17 =>
     (at? a3 (IntKind.i64.wrap (x8+1))).bind fun e19 =>
     some (e17 == e19)
    ) else (
     some false
    )
   ) else (
    some false
   )
  ) else (
   some false
  )
  : Option (Bool)).bind fun x10 =>
 bif x10 then (
  zBT a2 a3 k (IntKind.i64.wrap (x8+2))
 ) else (
  some x8
 )
def zCr (n:Nat):Nd->(List Int)->(List Int)->Option ((List Int×Int×Int)×Int)
| ⟨a1A,a1C,a1D,a1B⟩,a2,a3 =>
 (zAQ n (Nd.mk a1A a1C a1D a1B)).bind fun y4 =>
 bif (!y4) then (
  some (([],0,0),1)
 ) else (
  (
   (zES n (Nd.mk a1A a1C a1D a1B) a2).bind fun y6 =>
   bif (!y6) then (
    some true
   ) else (
    (zES n (Nd.mk a1A a1C a1D a1B) a3).bind fun y7 =>
    some (!y7)
   )
   : Option (Bool)).bind fun x5 =>
  bif x5 then (
   some (([],0,0),2)
  ) else (
   (zBT a2 a3 n 0).bind fun x9 =>
   (zFQ a2 x9).bind fun⟨y21,y22⟩ =>
   (zFQ a3 x9).bind fun⟨y23,y24⟩ =>
   req (0<=(0:Int)/\(0:Int)<=x9/\x9<=(a2.length:Int)) <|
   req (([]:List Int).length+((a2.take x9.toNat).drop (0:Int).toNat).length<=4294967296) <|
   some (((a2.take x9.toNat).drop (0:Int).toNat,(if y23<y21 then y23 else y21),(if y22<y24 then y24 else y22)),0)
  )
 )
def zJ9 (n:Nat):Nd->zCu->Option ((List Int×Int×Int)×Int)
| ⟨n1A,n1C,n1D,n1B⟩,⟨c2Q,c2Ab⟩ =>
 bif ((c2Ab.length:Int) == 0) then (
  (zCr n (Nd.mk n1A n1C n1D n1B) c2Q c2Q).bind fun⟨⟨y4G,y4Af,y4Ah⟩,y5⟩ =>
  some ((y4G,y4Af,y4Ah),y5)
 ) else (
  (zCr n (Nd.mk n1A n1C n1D n1B) c2Q c2Ab).bind fun⟨⟨y6G,y6Af,y6Ah⟩,y7⟩ =>
  some ((y6G,y6Af,y6Ah),y7)
 )
def zCe (n:Nat):Nd->zCu->Option ((List Int×Int×Int)×Int)
| ⟨n1A,n1C,n1D,n1B⟩,⟨c2Q,c2Ab⟩ =>
 (zJ9 n (Nd.mk n1A n1C n1D n1B) (c2Q,c2Ab)).bind fun⟨⟨y3G,y3Af,y3Ah⟩,y4⟩ =>
 some ((y3G,y3Af,y3Ah),y4)
def zET (n:Nat):Nd->(List Int×Int×Int)->Option ((List Nd)×Int)
| ⟨n1A,n1C,n1D,n1B⟩,⟨r2G,r2Af,r2Ah⟩ =>
 (zFi n (Nd.mk n1A n1C n1D n1B) r2G).bind fun⟨⟨y3A,y3C,y3D,y3B⟩,y4⟩ =>
 bif (y4 != 0) then (
  some ([],y4)
 ) else (
  (
   bif decide (r2Af<0) then (
    some true
   ) else (
    bif decide (r2Ah<r2Af) then (
     some true
    ) else (
     some (decide ((y3B.length:Int)<r2Ah))
    )
   )
   : Option (Bool)).bind fun x5 =>
  bif x5 then (
   some ([],2)
  ) else (
   req (0<=r2Af/\r2Af<=r2Ah/\r2Ah<=(y3B.length:Int)) <|
   req (([]:List Nd).length+((y3B.take r2Ah.toNat).drop r2Af.toNat).length<=4294967296) <|
   some ((y3B.take r2Ah.toNat).drop r2Af.toNat,0)
  )
 )
def zGf (n:Nat):Nd->(List Int×Int×Int)->Option (List zO8)
| ⟨n1A,n1C,n1D,n1B⟩,⟨r2G,r2Af,r2Ah⟩ =>
 (zET n (Nd.mk n1A n1C n1D n1B) (r2G,r2Af,r2Ah)).bind fun⟨y3,y4⟩ =>
 bif ((y3.length:Int) == 0) then (
  some []
 ) else (
  some [(2,r2G,r2Af,0,y3,0,[],[])]
 )
def zDO:(List Int)->(List Int)->Option (List Int)
| path1,more2 =>
 req (([]:List Int).length+path1.length<=4294967296) <|
 req (path1.length+more2.length<=4294967296) <|
 some (path1++more2)
def zBs (n:Nat):Nd->zCu->(List zO8)->(List Int)->Option (zRc×Int)
| ⟨n1A,n1C,n1D,n1B⟩,⟨c2Q,c2Ab⟩,ops3,pos4 =>
 (zB4 n (Nd.mk n1A n1C n1D n1B) ops3).bind fun⟨⟨y5A,y5C,y5D,y5B⟩,y6,y7⟩ =>
 bif (y7 != 0) then (
  some (([],([],[]),([],[])),6)
 ) else (
  some ((ops3,(c2Q,c2Ab),(pos4,[])),0)
 )
def zCM (n:Nat):Nd->zCu->(List Nd)->Option (zRc×Int)
| ⟨n1A,n1C,n1D,n1B⟩,⟨c2Q,c2Ab⟩,items3 =>
 (
  (zAQ n (Nd.mk n1A n1C n1D n1B)).bind fun y5 =>
  bif (!y5) then (
   some true
  ) else (
   (zBR n items3).bind fun y6 =>
   some (!y6)
  )
  : Option (Bool)).bind fun x4 =>
 bif x4 then (
  some (([],([],[]),([],[])),1)
 ) else (
  (zCe n (Nd.mk n1A n1C n1D n1B) (c2Q,c2Ab)).bind fun⟨⟨y7G,y7Af,y7Ah⟩,y8⟩ =>
  bif (y8 != 0) then (
   some (([],([],[]),([],[])),y8)
  ) else (
   (zGf n (Nd.mk n1A n1C n1D n1B) (y7G,y7Af,y7Ah)).bind fun y9 =>
   (
    bif decide (0<(items3.length:Int)) then (
     req (y9.length+([(1,y7G,y7Af,0,items3,0,[],[])]:List zO8).length<=4294967296) <|
     some (y9++[(1,y7G,y7Af,0,items3,0,[],[])])
    ) else (
     some y9
    )
    : Option ((List zO8))).bind fun l11 =>
   (zDO y7G [IntKind.i64.wrap (y7Af+(items3.length:Int))]).bind fun y15 =>
   (zBs n (Nd.mk n1A n1C n1D n1B) (c2Q,c2Ab) l11 y15).bind fun⟨⟨y16W,⟨y16X,y16Y⟩,⟨y16Z,y16Aa⟩⟩,y17⟩ =>
   some ((y16W,(y16X,y16Y),(y16Z,y16Aa)),y17)
  )
 )
def zGe:(List Int×Int×Int)->Option (List Int)
| ⟨r1G,r1Af,r1Ah⟩ =>
 req (([]:List Int).length+r1G.length<=4294967296) <|
 req (r1G.length + [r1Af].length<=4294967296) <|
 some (r1G++[r1Af])
def zBW (n1B:List Nd) (but2:Int):Nat->Int->Option (Fl Bool Unit)
| 0,_=>none
| k+1,i3 =>
 bif decide (i3<(n1B.length:Int)) then (
  (
   bif (i3 != but2) then (
    (at? n1B i3).bind fun⟨e6A,e6C,e6D,e6B⟩ =>
    some (decide (0<(e6B.length:Int)))
   ) else (
    some false
   )
   : Option (Bool)).bind fun x5 =>
  bif x5 then (
   some (.ret true)
  ) else (
   zBW n1B but2 k (IntKind.i64.wrap (i3+1))
  )
 ) else (
  some (.go ())
 )
def zDP (n:Nat):Nd->Int->Option Bool
| ⟨n1A,n1C,n1D,n1B⟩,but2 =>
 (zBW n1B but2 n 0).bind fun fl=>match fl with
 | .ret r=>some r
 | .go _ =>
  some false
def zB6 (n:Nat):Nd->(List Int)->Option ((List Int×Int×Int×Nd)×Bool)
| ⟨n1A,n1C,n1D,n1B⟩,pos2 =>
 bif decide ((pos2.length:Int)<3) then (
  some (([],0,0,Nd.mk 0 [] 0 []),false)
 ) else (
  req (0<=(0:Int)/\(0:Int)<=IntKind.i64.wrap ((pos2.length:Int) - 3)/\IntKind.i64.wrap ((pos2.length:Int) - 3)<=(pos2.length:Int)) <|
  (at? pos2 (IntKind.i64.wrap ((pos2.length:Int) - 3))).bind fun e5 =>
  (zFO n (Nd.mk n1A n1C n1D n1B) ((pos2.take (IntKind.i64.wrap ((pos2.length:Int) - 3)).toNat).drop (0:Int).toNat) e5).bind fun⟨⟨y7A,y7C,y7D,y7B⟩,y8⟩ =>
  req (0<=(0:Int)/\(0:Int)<=IntKind.i64.wrap ((pos2.length:Int) - 3)/\IntKind.i64.wrap ((pos2.length:Int) - 3)<=(pos2.length:Int)) <|
  (at? pos2 (IntKind.i64.wrap ((pos2.length:Int) - 3))).bind fun e10 =>
  (at? pos2 (IntKind.i64.wrap ((pos2.length:Int) - 2))).bind fun e12 =>
  some (((pos2.take (IntKind.i64.wrap ((pos2.length:Int) - 3)).toNat).drop (0:Int).toNat,e10,e12,Nd.mk y7A y7C y7D y7B),true)
 )
def zEq:(List Int×Int×Int×Nd)->Option zO8
| ⟨x1G,x1L,x1Ak,⟨x1Ao,x1As,x1Ag,x1Al⟩⟩ =>
 (at? x1Al x1Ak).bind fun⟨e2A,e2C,e2D,e2B⟩ =>
 (zA3 []).bind fun⟨y5A,y5C,y5D,y5B⟩ =>
 (zBo (Nd.mk x1Ao x1As x1Ag x1Al) x1Ak (Nd.mk y5A y5C y5D y5B)).bind fun⟨y6A,y6C,y6D,y6B⟩ =>
 some (4,x1G,x1L,(e2B.length:Int),[Nd.mk y6A y6C y6D y6B],x1Ak,[],[])
def zJ8 (n:Nat):Nd->Int->Option ((List Int)×Int)
| ⟨n1A,n1C,n1D,n1B⟩,i2 =>
 (zG8 n (Nd.mk n1A n1C n1D n1B)).bind fun⟨y3,y4⟩ =>
 bif (y4 != 0) then (
  some ([],y4)
 ) else (
  (
   bif decide (i2<0) then (
    some true
   ) else (
    some (decide ((y3.length:Int)<=i2))
   )
   : Option (Bool)).bind fun x5 =>
  bif x5 then (
   some ([],2)
  ) else (
   (at? y3 i2).bind fun e7 =>
   some (e7,0)
  )
 )
def zER (n:Nat):Nd->(List Int)->Int->Option ((List Int)×Int)
| ⟨n1A,n1C,n1D,n1B⟩,pos2,by3 =>
 (zD7 n (Nd.mk n1A n1C n1D n1B) pos2).bind fun⟨y4,y5⟩ =>
 bif (y5 != 0) then (
  some ([],y5)
 ) else (
  (zJ8 n (Nd.mk n1A n1C n1D n1B) (IntKind.i64.wrap (y4+by3))).bind fun⟨y6,y7⟩ =>
  bif (y7 != 0) then (
   some ([],8)
  ) else (
   some (y6,0)
  )
 )
def zEU (n:Nat):Nd->zCu->Bool->Option (zRc×Int)
| ⟨a1A,a1C,a1D,a1B⟩,⟨a2Q,a2Ab⟩,a3 =>
 (zCe n (Nd.mk a1A a1C a1D a1B) (a2Q,a2Ab)).bind fun⟨⟨y4G,y4Af,y4Ah⟩,y5⟩ =>
 bif (y5 != 0) then (
  some (([],([],[]),([],[])),y5)
 ) else (
  bif decide (y4Af<y4Ah) then (
   (zGf n (Nd.mk a1A a1C a1D a1B) (y4G,y4Af,y4Ah)).bind fun y6 =>
   (zGe (y4G,y4Af,y4Ah)).bind fun y7 =>
   (zBs n (Nd.mk a1A a1C a1D a1B) (a2Q,a2Ab) y6 y7).bind fun⟨⟨y8W,⟨y8X,y8Y⟩,⟨y8Z,y8Aa⟩⟩,y9⟩ =>
   some ((y8W,(y8X,y8Y),(y8Z,y8Aa)),y9)
  ) else (
   req (0<=(0:Int)/\(0:Int)<=IntKind.i64.wrap ((a2Q.length:Int) - 1)/\IntKind.i64.wrap ((a2Q.length:Int) - 1)<=(a2Q.length:Int)) <|
   (at? a2Q (IntKind.i64.wrap ((a2Q.length:Int) - 1))).bind fun e13 =>
   (zFi n (Nd.mk a1A a1C a1D a1B) ((a2Q.take (IntKind.i64.wrap ((a2Q.length:Int) - 1)).toNat).drop (0:Int).toNat)).bind fun⟨⟨y15A,y15C,y15D,y15B⟩,y16⟩ =>
   (
    bif a3 then (
     some (IntKind.i64.wrap (e13 - 1),-1)
    ) else (
     some (e13,1)
    )
    : Option (Int×Int)).bind fun⟨x17,x18⟩ =>
   (
    bif decide (0<=x17) then (
     some (decide (x17<(y15B.length:Int)))
    ) else (
     some false
    )
    : Option (Bool)).bind fun x19 =>
   (
    bif x19 then (
     (at? y15B x17).bind fun⟨e21A,e21C,e21D,e21B⟩ =>
     (zDP n (Nd.mk e21A e21C e21D e21B) (-1)).bind fun y23 =>
     bif (!y23) then (
      (at? y15B x17).bind fun⟨e24A,e24C,e24D,e24B⟩ =>
      (zDO ((a2Q.take (IntKind.i64.wrap ((a2Q.length:Int) - 1)).toNat).drop (0:Int).toNat) [x17]).bind fun y29 =>
      (zBs n (Nd.mk a1A a1C a1D a1B) (a2Q,a2Ab) [(2,(a2Q.take (IntKind.i64.wrap ((a2Q.length:Int) - 1)).toNat).drop (0:Int).toNat,x17,0,[Nd.mk e24A e24C e24D e24B],0,[],[])] y29).bind fun⟨⟨y30W,⟨y30X,y30Y⟩,⟨y30Z,y30Aa⟩⟩,y31⟩ =>
      some (.ret ((y30W,(y30X,y30Y),(y30Z,y30Aa)),y31))
     ) else (
      some (.go ())
     )
    ) else (
     (zB6 n (Nd.mk a1A a1C a1D a1B) a2Q).bind fun⟨⟨y32G,y32L,y32Ak,⟨y32Ao,y32As,y32Ag,y32Al⟩⟩,y33⟩ =>
     (
      bif y33 then (
       (zDP n (Nd.mk y32Ao y32As y32Ag y32Al) y32Ak).bind fun y35 =>
       some (!y35)
      ) else (
       some false
      )
      : Option (Bool)).bind fun x34 =>
     bif x34 then (
      (zEq (y32G,y32L,y32Ak,Nd.mk y32Ao y32As y32Ag y32Al)).bind fun⟨y36A,y36G,y36L,y36S,y36R,y36V,y36Ac,y36C⟩ =>
      bif a3 then (
       (zDO y32G [y32L]).bind fun y39 =>
       (zBs n (Nd.mk a1A a1C a1D a1B) (a2Q,a2Ab) [(y36A,y36G,y36L,y36S,y36R,y36V,y36Ac,y36C)] y39).bind fun⟨⟨y40W,⟨y40X,y40Y⟩,⟨y40Z,y40Aa⟩⟩,y41⟩ =>
       some (.ret ((y40W,(y40X,y40Y),(y40Z,y40Aa)),y41))
      ) else (
       (zDO y32G [IntKind.i64.wrap (y32L+y36S)]).bind fun y44 =>
       (zBs n (Nd.mk a1A a1C a1D a1B) (a2Q,a2Ab) [(y36A,y36G,y36L,y36S,y36R,y36V,y36Ac,y36C)] y44).bind fun⟨⟨y45W,⟨y45X,y45Y⟩,⟨y45Z,y45Aa⟩⟩,y46⟩ =>
       some (.ret ((y45W,(y45X,y45Y),(y45Z,y45Aa)),y46))
      )
     ) else (
      some (.go ())
     )
    )
    : Option (Fl (zRc×Int) Unit)).bind fun fl=>match fl with
   | .ret r=>some r
   | .go _ =>
    (zER n (Nd.mk a1A a1C a1D a1B) a2Q x18).bind fun⟨y47,y48⟩ =>
    bif (y48 != 0) then (
     some (([],([],[]),([],[])),y48)
    ) else (
     (zBs n (Nd.mk a1A a1C a1D a1B) (a2Q,a2Ab) [] y47).bind fun⟨⟨y49W,⟨y49X,y49Y⟩,⟨y49Z,y49Aa⟩⟩,y50⟩ =>
     some ((y49W,(y49X,y49Y),(y49Z,y49Aa)),y50)
    )
  )
 )
def zGg:(List Nd)->Option Nd
| l1 =>
 bif ((l1.length:Int) == 0) then (
  some (Nd.mk 0 [] 0 [])
 ) else (
  (at? l1 0).bind fun⟨e3A,e3C,e3D,e3B⟩ =>
  some (Nd.mk e3A e3C e3D e3B)
 )
def zCt (a3B:List Nd) (a4:Int) (y9G:List Int) (y9Af:Int) (y9Ah:Int):Nat->(List Int)->Int->Option ((List Int))
| 0,_,_=>none
| k+1,x19,x20 =>
 bif decide (0<=x20) then (
  (
   (
    (at? a3B x20).bind fun⟨e24A,e24C,e24D,e24B⟩ =>
    bif ((e24B.length:Int) == 0) then (
     bif (x20 != a4) then (
      some true
     ) else (
      some ((IntKind.i64.wrap (y9Ah - y9Af)) == 0)
     )
    ) else (
     some false
    )
    : Option (Bool)).bind fun x23 =>
   bif x23 then (
    (zDO y9G [y9Af,x20,0]).bind fun y28 =>
    some y28
   ) else (
    some x19
   )
   : Option ((List Int))).bind fun x22 =>
  zCt a3B a4 y9G y9Af y9Ah k x22 (IntKind.i64.wrap (x20 - 1))
 ) else (
  some x19
 )
def zEp (n:Nat):Nd->zCu->Nd->Int->Option (zRc×Int)
| ⟨a1A,a1C,a1D,a1B⟩,⟨a2Q,a2Ab⟩,⟨a3A,a3C,a3D,a3B⟩,a4 =>
 (
  (zAQ n (Nd.mk a1A a1C a1D a1B)).bind fun y7 =>
  bif (!y7) then (
   some true
  ) else (
   (zEo n (3,[],0,0,[Nd.mk a3A a3C a3D a3B],a4,[],[])).bind fun y8 =>
   some (!y8)
  )
  : Option (Bool)).bind fun x6 =>
 bif x6 then (
  some (([],([],[]),([],[])),1)
 ) else (
  (zCe n (Nd.mk a1A a1C a1D a1B) (a2Q,a2Ab)).bind fun⟨⟨y9G,y9Af,y9Ah⟩,y10⟩ =>
  bif (y10 != 0) then (
   some (([],([],[]),([],[])),y10)
  ) else (
   (zDO y9G [IntKind.i64.wrap (y9Af+1)]).bind fun y12 =>
   (zCt a3B a4 y9G y9Af y9Ah n y12 (IntKind.i64.wrap ((a3B.length:Int) - 1))).bind fun x21 =>
   (zBs n (Nd.mk a1A a1C a1D a1B) (a2Q,a2Ab) [(3,y9G,y9Af,IntKind.i64.wrap (y9Ah - y9Af),[Nd.mk a3A a3C a3D a3B],a4,[],[])] x21).bind fun⟨⟨y30W,⟨y30X,y30Y⟩,⟨y30Z,y30Aa⟩⟩,y31⟩ =>
   some ((y30W,(y30X,y30Y),(y30Z,y30Aa)),y31)
  )
 )
def zCd (pos1:List Int) (row2:List Int):Nat->Int->Option (Fl Bool Unit)
| 0,_=>none
| k+1,i5 =>
 bif decide (i5<(row2.length:Int)) then (
  (at? pos1 i5).bind fun e7 =>
  (at? row2 i5).bind fun e9 =>
  bif (e7 != e9) then (
   some (.ret false)
  ) else (
   zCd pos1 row2 k (IntKind.i64.wrap (i5+1))
  )
 ) else (
  some (.go ())
 )
def zFn (n:Nat):(List Int)->(List Int)->Option Bool
| pos1,row2 =>
 bif decide ((pos1.length:Int)<=(row2.length:Int)) then (
  some false
 ) else (
  (zCd pos1 row2 n 0).bind fun fl=>match fl with
  | .ret r=>some r
  | .go _ =>
   some ((pos1.length:Int) != (IntKind.i64.wrap ((row2.length:Int)+2)))
 )
def zIc:zO8->Int->Bool->Option (List Int)
| ⟨a1A,a1G,a1L,a1S,a1R,a1V,a1Ac,a1C⟩,a2,a3 =>
 (
  bif (a1A == 1) then (
   (
    bif decide (a1L<a2) then (
     some true
    ) else (
     bif (a2 == a1L) then (
      some a3
     ) else (
      some false
     )
    )
    : Option (Bool)).bind fun x5 =>
   bif x5 then (
    some (.ret [IntKind.i64.wrap (a2+(a1R.length:Int))])
   ) else (
    some (.go ())
   )
  ) else (
   bif (a1A == 2) then (
    (
     bif decide (a1L<a2) then (
      some (decide (a2<(IntKind.i64.wrap (a1L+(a1R.length:Int)))))
     ) else (
      some false
     )
     : Option (Bool)).bind fun x7 =>
    bif x7 then (
     some (.ret [a1L])
    ) else (
     bif decide (a1L<a2) then (
      some (.ret [IntKind.i64.wrap (a2 - (a1R.length:Int))])
     ) else (
      some (.go ())
     )
    )
   ) else (
    bif (a1A == 3) then (
     (
      bif decide (a1L<a2) then (
       some (decide (a2<(IntKind.i64.wrap (a1L+a1S))))
      ) else (
       some false
      )
      : Option (Bool)).bind fun x10 =>
     bif x10 then (
      some (.ret [a1L,a1V,IntKind.i64.wrap (a2 - a1L)])
     ) else (
      bif decide (a1L<a2) then (
       some (.ret [IntKind.i64.wrap ((IntKind.i64.wrap (a2 - a1S))+1)])
      ) else (
       (
        bif (a2 == a1L) then (
         bif (a1S == 0) then (
          some a3
         ) else (
          some false
         )
        ) else (
         some false
        )
        : Option (Bool)).bind fun x13 =>
       bif x13 then (
        some (.ret [IntKind.i64.wrap (a1L+1)])
       ) else (
        some (.go ())
       )
      )
     )
    ) else (
     bif (a1A == 4) then (
      bif decide (a1L<a2) then (
       some (.ret [IntKind.i64.wrap ((IntKind.i64.wrap (a2 - 1))+a1S)])
      ) else (
       some (.go ())
      )
     ) else (
      some (.go ())
     )
    )
   )
  )
  : Option (Fl (List Int) Unit)).bind fun fl=>match fl with
 | .ret r=>some r
 | .go _ =>
  some [a2]
def zFm:zO8->Int->Int->(List Int)->Option (List Int)
| ⟨a1A,a1G,a1L,a1S,a1R,a1V,a1Ac,a1C⟩,a2,a3,a4 =>
 (
  bif decide (a2<a1L) then (
   some (.go [a2])
  ) else (
   bif (a1A == 1) then (
    some (.go [IntKind.i64.wrap (a2+(a1R.length:Int))])
   ) else (
    (
     bif (a1A == 2) then (
      some (decide (a2<(IntKind.i64.wrap (a1L+(a1R.length:Int)))))
     ) else (
      some false
     )
     : Option (Bool)).bind fun x7 =>
    bif x7 then (
     some (.ret [a1L])
    ) else (
     bif (a1A == 2) then (
      some (.go [IntKind.i64.wrap (a2 - (a1R.length:Int))])
     ) else (
      (
       bif (a1A == 3) then (
        some (decide (a2<(IntKind.i64.wrap (a1L+a1S))))
       ) else (
        some false
       )
       : Option (Bool)).bind fun x8 =>
      bif x8 then (
       some (.go [a1L,a1V,IntKind.i64.wrap (a2 - a1L)])
      ) else (
       bif (a1A == 3) then (
        some (.go [IntKind.i64.wrap ((IntKind.i64.wrap (a2 - a1S))+1)])
       ) else (
        (
         bif (a1A == 4) then (
          bif (a2 == a1L) then (
           some (decide (a3<a1V))
          ) else (
           some false
          )
         ) else (
          some false
         )
         : Option (Bool)).bind fun x9 =>
        bif x9 then (
         some (.ret [a1L])
        ) else (
         (
          bif (a1A == 4) then (
           bif (a2 == a1L) then (
            some (decide (a1V<a3))
           ) else (
            some false
           )
          ) else (
           some false
          )
          : Option (Bool)).bind fun x10 =>
         bif x10 then (
          some (.ret [IntKind.i64.wrap (a1L+a1S)])
         ) else (
          (
           bif (a1A == 4) then (
            some (a2 == a1L)
           ) else (
            some false
           )
           : Option (Bool)).bind fun x11 =>
          bif x11 then (
           (at? a4 0).bind fun e12 =>
           req (0<=(1:Int)/\(1:Int)<=(a4.length:Int)/\(a4.length:Int)<=(a4.length:Int)) <|
           req ([IntKind.i64.wrap (a1L+e12)].length+((a4.take (a4.length:Int).toNat).drop (1:Int).toNat).length<=4294967296) <|
           some (.ret ([IntKind.i64.wrap (a1L+e12)]++((a4.take (a4.length:Int).toNat).drop (1:Int).toNat)))
          ) else (
           bif (a1A == 4) then (
            some (.go [IntKind.i64.wrap ((IntKind.i64.wrap (a2 - 1))+a1S)])
           ) else (
            some (.go [a2])
           )
          )
         )
        )
       )
      )
     )
    )
   )
  )
  : Option (Fl (List Int) ((List Int)))).bind fun fl=>match fl with
 | .ret r=>some r
 | .go l6 =>
  req (l6.length + [a3].length<=4294967296) <|
  req ((l6++[a3]).length+a4.length<=4294967296) <|
  some ((l6++[a3])++a4)
def zIb (n:Nat):zO8->(List Int)->Bool->Option (List Int)
| ⟨op1A,op1G,op1L,op1S,op1R,op1V,op1Ac,op1C⟩,pos2,after3 =>
 (zFn n pos2 op1G).bind fun y5 =>
 bif (!y5) then (
  req (([]:List Int).length+pos2.length<=4294967296) <|
  some pos2
 ) else (
  req (([]:List Int).length+op1G.length<=4294967296) <|
  bif ((pos2.length:Int) == (IntKind.i64.wrap ((op1G.length:Int)+1))) then (
   (at? pos2 (op1G.length:Int)).bind fun e7 =>
   (zIc (op1A,op1G,op1L,op1S,op1R,op1V,op1Ac,op1C) e7 after3).bind fun y9 =>
   req (op1G.length+y9.length<=4294967296) <|
   some (op1G++y9)
  ) else (
   (at? pos2 (op1G.length:Int)).bind fun e10 =>
   (at? pos2 (IntKind.i64.wrap ((op1G.length:Int)+1))).bind fun e12 =>
   req (0<=(IntKind.i64.wrap ((op1G.length:Int)+2))/\(IntKind.i64.wrap ((op1G.length:Int)+2))<=(pos2.length:Int)/\(pos2.length:Int)<=(pos2.length:Int)) <|
   (zFm (op1A,op1G,op1L,op1S,op1R,op1V,op1Ac,op1C) e10 e12 ((pos2.take (pos2.length:Int).toNat).drop (IntKind.i64.wrap ((op1G.length:Int)+2)).toNat)).bind fun y15 =>
   req (op1G.length+y15.length<=4294967296) <|
   some (op1G++y15)
  )
 )
def zDx (n:Nat):Nd->zCu->Option (zRc×Int)
| ⟨n1A,n1C,n1D,n1B⟩,⟨c2Q,c2Ab⟩ =>
 (zCe n (Nd.mk n1A n1C n1D n1B) (c2Q,c2Ab)).bind fun⟨⟨y3G,y3Af,y3Ah⟩,y4⟩ =>
 bif (y4 != 0) then (
  some (([],([],[]),([],[])),y4)
 ) else (
  (zB6 n (Nd.mk n1A n1C n1D n1B) c2Q).bind fun⟨⟨y5G,y5L,y5Ak,⟨y5Ao,y5As,y5Ag,y5Al⟩⟩,y6⟩ =>
  bif (!y6) then (
   some (([],([],[]),([],[])),8)
  ) else (
   (zEq (y5G,y5L,y5Ak,Nd.mk y5Ao y5As y5Ag y5Al)).bind fun⟨y7A,y7G,y7L,y7S,y7R,y7V,y7Ac,y7C⟩ =>
   (zIb n (y7A,y7G,y7L,y7S,y7R,y7V,y7Ac,y7C) c2Q false).bind fun y9 =>
   (zBs n (Nd.mk n1A n1C n1D n1B) (c2Q,c2Ab) [(y7A,y7G,y7L,y7S,y7R,y7V,y7Ac,y7C)] y9).bind fun⟨⟨y10W,⟨y10X,y10Y⟩,⟨y10Z,y10Aa⟩⟩,y11⟩ =>
   some ((y10W,(y10X,y10Y),(y10Z,y10Aa)),y11)
  )
 )
def zD9 (n:Nat):Nd->zCu->Option (zRc×Int)
| ⟨a1A,a1C,a1D,a1B⟩,⟨a2Q,a2Ab⟩ =>
 (zCe n (Nd.mk a1A a1C a1D a1B) (a2Q,a2Ab)).bind fun⟨⟨y3G,y3Af,y3Ah⟩,y4⟩ =>
 bif (y4 != 0) then (
  some (([],([],[]),([],[])),y4)
 ) else (
  (zB6 n (Nd.mk a1A a1C a1D a1B) a2Q).bind fun⟨⟨y5G,y5L,y5Ak,⟨y5Ao,y5As,y5Ag,y5Al⟩⟩,y6⟩ =>
  bif (!y6) then (
   some (([],([],[]),([],[])),8)
  ) else (
   (
    bif decide (y3Af<y3Ah) then (
     some true
    ) else (
     bif (y5Ao != 11) then (
      some (y5Ao != 10)
     ) else (
      some false
     )
    )
    : Option (Bool)).bind fun x7 =>
   bif x7 then (
    some (([],([],[]),([],[])),7)
   ) else (
    (at? a2Q (IntKind.i64.wrap ((a2Q.length:Int) - 1))).bind fun e9 =>
    (zDO y5G [y5L,y5Ak]).bind fun y12 =>
    (at? y5Al y5Ak).bind fun⟨e13A,e13C,e13D,e13B⟩ =>
    (zET n (Nd.mk a1A a1C a1D a1B) (y12,e9,(e13B.length:Int))).bind fun⟨y16,y17⟩ =>
    (zA3 y16).bind fun⟨y18A,y18C,y18D,y18B⟩ =>
    (zBo (Nd.mk y5Ao y5As y5Ag y5Al) y5Ak (Nd.mk y18A y18C y18D y18B)).bind fun⟨y19A,y19C,y19D,y19B⟩ =>
    (zGf n (Nd.mk a1A a1C a1D a1B) (y12,e9,(e13B.length:Int))).bind fun y20 =>
    req (y20.length+([(1,y5G,IntKind.i64.wrap (y5L+1),0,[Nd.mk y19A y19C y19D y19B],0,[],[])]:List zO8).length<=4294967296) <|
    (zDO y5G [IntKind.i64.wrap (y5L+1),y5Ak,0]).bind fun y24 =>
    (zBs n (Nd.mk a1A a1C a1D a1B) (a2Q,a2Ab) (y20++[(1,y5G,IntKind.i64.wrap (y5L+1),0,[Nd.mk y19A y19C y19D y19B],0,[],[])]) y24).bind fun⟨⟨y25W,⟨y25X,y25Y⟩,⟨y25Z,y25Aa⟩⟩,y26⟩ =>
    some ((y25W,(y25X,y25Y),(y25Z,y25Aa)),y26)
   )
  )
 )
def zHa (n:Nat):Nd->zCu->(List UInt8)->Option (zRc×Int)
| ⟨a1A,a1C,a1D,a1B⟩,⟨a2Q,a2Ab⟩,a3 =>
 (zCe n (Nd.mk a1A a1C a1D a1B) (a2Q,a2Ab)).bind fun⟨⟨y4G,y4Af,y4Ah⟩,y5⟩ =>
 bif (y5 != 0) then (
  some (([],([],[]),([],[])),y5)
 ) else (
  req (0<=(0:Int)/\(0:Int)<=IntKind.i64.wrap ((a2Q.length:Int) - 1)/\IntKind.i64.wrap ((a2Q.length:Int) - 1)<=(a2Q.length:Int)) <|
  (at? a2Q (IntKind.i64.wrap ((a2Q.length:Int) - 1))).bind fun e9 =>
  bif (e9 == 0) then (
   some (([],([],[]),([],[])),8)
  ) else (
   (zFO n (Nd.mk a1A a1C a1D a1B) ((a2Q.take (IntKind.i64.wrap ((a2Q.length:Int) - 1)).toNat).drop (0:Int).toNat) (IntKind.i64.wrap (e9 - 1))).bind fun⟨⟨y11A,y11C,y11D,y11B⟩,y12⟩ =>
   (zD8 n (Nd.mk a1A a1C a1D a1B) (5,(a2Q.take (IntKind.i64.wrap ((a2Q.length:Int) - 1)).toNat).drop (0:Int).toNat,IntKind.i64.wrap (e9 - 1),0,[],0,y11C,a3)).bind fun⟨⟨y13A,y13C,y13D,y13B⟩,y14⟩ =>
   (
    bif (y14 == 4) then (
     some true
    ) else (
     some (y14 == 7)
    )
    : Option (Bool)).bind fun x15 =>
   bif x15 then (
    some (([],([],[]),([],[])),7)
   ) else (
    (zBs n (Nd.mk a1A a1C a1D a1B) (a2Q,a2Ab) [(5,(a2Q.take (IntKind.i64.wrap ((a2Q.length:Int) - 1)).toNat).drop (0:Int).toNat,IntKind.i64.wrap (e9 - 1),0,[],0,y11C,a3)] []).bind fun⟨⟨y17W,⟨y17X,y17Y⟩,⟨y17Z,y17Aa⟩⟩,y18⟩ =>
    (
     bif (y18 == 0) then (
      some (a2Q,a2Ab)
     ) else (
      some (y17Z,y17Aa)
     )
     : Option ((List Int)×(List Int))).bind fun⟨x19,x20⟩ =>
    some ((y17W,(y17X,y17Y),(x19,x20)),y18)
   )
  )
 )
def zCs (a3:Bool) (y6Ak:Int) (y6Ag:Int) (x16:Int):Nat->Int->(List Nd)->Option ((List Nd))
| 0,_,_=>none
| k+1,x38,l39 =>
 (
  bif decide (x38<y6Ag) then (
   bif (!a3) then (
    req (y6Ag ≠ 0) <|
    some (x16 == (IntKind.i64.wrap ((IntKind.i64.wrap ((IntKind.i64.wrap ((IntKind.i64.wrap (y6Ak.tdiv y6Ag)) * y6Ag))+y6Ag)) - 1)))
   ) else (
    some false
   )
  ) else (
   some false
  )
  : Option (Bool)).bind fun x41 =>
 bif x41 then (
  (zA3 []).bind fun⟨y42A,y42C,y42D,y42B⟩ =>
  req (l39.length + [Nd.mk y42A y42C y42D y42B].length<=4294967296) <|
  zCs a3 y6Ak y6Ag x16 k (IntKind.i64.wrap (x38+1)) (l39++[Nd.mk y42A y42C y42D y42B])
 ) else (
  some l39
 )
def zCY (n:Nat) (a3:Bool) (y6Ak:Int) (y6Ag:Int) (y6Al:List Nd):Nat->Int->Int->(List Nd)->Option (Int×(List Nd))
| 0,_,_,_=>none
| k+1,x15,x16,l17 =>
 bif decide (x16<(y6Al.length:Int)) then (
  (
   (
    bif (x16 == y6Ak) then (
     some (l17.length:Int)
    ) else (
     some x15
    )
    : Option (Int)).bind fun x23 =>
   (at? y6Al x16).bind fun⟨e25A,e25C,e25D,e25B⟩ =>
   req (l17.length + [Nd.mk e25A e25C e25D e25B].length<=4294967296) <|
   (
    bif a3 then (
     req (y6Ag ≠ 0) <|
     req (y6Ag ≠ 0) <|
     some ((x16.tmod y6Ag) == (y6Ak.tmod y6Ag))
    ) else (
     some false
    )
    : Option (Bool)).bind fun x28 =>
   (
    bif x28 then (
     (zA3 []).bind fun⟨y30A,y30C,y30D,y30B⟩ =>
     req ((l17++[Nd.mk e25A e25C e25D e25B]).length + [Nd.mk y30A y30C y30D y30B].length<=4294967296) <|
     some ((l17++[Nd.mk e25A e25C e25D e25B])++[Nd.mk y30A y30C y30D y30B])
    ) else (
     some (l17++[Nd.mk e25A e25C e25D e25B])
    )
    : Option ((List Nd))).bind fun l29 =>
   (zCs a3 y6Ak y6Ag x16 n 0 l29).bind fun l40 =>
   some (x23,l40)
   : Option (Int×(List Nd))).bind fun⟨x21,l22⟩ =>
  zCY n a3 y6Ak y6Ag y6Al k x21 (IntKind.i64.wrap (x16+1)) l22
 ) else (
  some (x15,l17)
 )
def zEV (n:Nat):Nd->zCu->Bool->Option (zRc×Int)
| ⟨a1A,a1C,a1D,a1B⟩,⟨a2Q,a2Ab⟩,a3 =>
 (zCe n (Nd.mk a1A a1C a1D a1B) (a2Q,a2Ab)).bind fun⟨⟨y4G,y4Af,y4Ah⟩,y5⟩ =>
 bif (y5 != 0) then (
  some (([],([],[]),([],[])),y5)
 ) else (
  (zB6 n (Nd.mk a1A a1C a1D a1B) a2Q).bind fun⟨⟨y6G,y6L,y6Ak,⟨y6Ao,y6As,y6Ag,y6Al⟩⟩,y7⟩ =>
  bif (!y7) then (
   some (([],([],[]),([],[])),8)
  ) else (
   bif (y6Ao != 12) then (
    some (([],([],[]),([],[])),7)
   ) else (
    (
     bif a3 then (
      some (IntKind.i64.wrap (y6Ag+1))
     ) else (
      some y6Ag
     )
     : Option (Int)).bind fun x8 =>
    (zCY n a3 y6Ak y6Ag y6Al n 0 0 []).bind fun⟨x18,l19⟩ =>
    (at? a2Q (IntKind.i64.wrap ((a2Q.length:Int) - 1))).bind fun e48 =>
    (zDO y6G [y6L,x18,e48]).bind fun y51 =>
    (zBs n (Nd.mk a1A a1C a1D a1B) (a2Q,a2Ab) [(2,y6G,y6L,0,[Nd.mk y6Ao y6As y6Ag y6Al],0,[],[]),(1,y6G,y6L,0,[Nd.mk 12 [] x8 l19],0,[],[])] y51).bind fun⟨⟨y52W,⟨y52X,y52Y⟩,⟨y52Z,y52Aa⟩⟩,y53⟩ =>
    some ((y52W,(y52X,y52Y),(y52Z,y52Aa)),y53)
   )
  )
 )
def zIe (n:Nat):Nd->zCu->(Int×List Nd×Int×List UInt8×Bool)->Option (zRc×Int)
| ⟨a1A,a1C,a1D,a1B⟩,⟨a2Q,a2Ab⟩,⟨a3A,a3Ai,a3V,a3C,a3Bh⟩ =>
 bif (a3A == 0) then (
  (zCM n (Nd.mk a1A a1C a1D a1B) (a2Q,a2Ab) a3Ai).bind fun⟨⟨y4W,⟨y4X,y4Y⟩,⟨y4Z,y4Aa⟩⟩,y5⟩ =>
  some ((y4W,(y4X,y4Y),(y4Z,y4Aa)),y5)
 ) else (
  bif (a3A == 1) then (
   (zEU n (Nd.mk a1A a1C a1D a1B) (a2Q,a2Ab) a3Bh).bind fun⟨⟨y6W,⟨y6X,y6Y⟩,⟨y6Z,y6Aa⟩⟩,y7⟩ =>
   some ((y6W,(y6X,y6Y),(y6Z,y6Aa)),y7)
  ) else (
   bif (a3A == 2) then (
    (zGg a3Ai).bind fun⟨y8A,y8C,y8D,y8B⟩ =>
    (zEp n (Nd.mk a1A a1C a1D a1B) (a2Q,a2Ab) (Nd.mk y8A y8C y8D y8B) a3V).bind fun⟨⟨y9W,⟨y9X,y9Y⟩,⟨y9Z,y9Aa⟩⟩,y10⟩ =>
    some ((y9W,(y9X,y9Y),(y9Z,y9Aa)),y10)
   ) else (
    bif (a3A == 3) then (
     (zDx n (Nd.mk a1A a1C a1D a1B) (a2Q,a2Ab)).bind fun⟨⟨y11W,⟨y11X,y11Y⟩,⟨y11Z,y11Aa⟩⟩,y12⟩ =>
     some ((y11W,(y11X,y11Y),(y11Z,y11Aa)),y12)
    ) else (
     bif (a3A == 4) then (
      (zD9 n (Nd.mk a1A a1C a1D a1B) (a2Q,a2Ab)).bind fun⟨⟨y13W,⟨y13X,y13Y⟩,⟨y13Z,y13Aa⟩⟩,y14⟩ =>
      some ((y13W,(y13X,y13Y),(y13Z,y13Aa)),y14)
     ) else (
      bif (a3A == 5) then (
       (zHa n (Nd.mk a1A a1C a1D a1B) (a2Q,a2Ab) a3C).bind fun⟨⟨y15W,⟨y15X,y15Y⟩,⟨y15Z,y15Aa⟩⟩,y16⟩ =>
       some ((y15W,(y15X,y15Y),(y15Z,y15Aa)),y16)
      ) else (
       bif (a3A == 6) then (
        (zEV n (Nd.mk a1A a1C a1D a1B) (a2Q,a2Ab) a3Bh).bind fun⟨⟨y17W,⟨y17X,y17Y⟩,⟨y17Z,y17Aa⟩⟩,y18⟩ =>
        some ((y17W,(y17X,y17Y),(y17Z,y17Aa)),y18)
       ) else (
        some (([],([],[]),([],[])),1)
       )
      )
     )
    )
   )
  )
 )
def zFe (n:Nat):Nd->(Int×zRc×zCu×(Int×List Nd×Int×List UInt8×Bool)×Int)->Option zRc
| ⟨n1A,n1C,n1D,n1B⟩,⟨s2A,⟨s2Ar,⟨s2Bd,s2Be⟩,⟨s2Bf,s2Bg⟩⟩,⟨s2Aw,s2Ax⟩,⟨s2Ay,s2Az,s2Ba,s2Bb,s2Bc⟩,s2S⟩ =>
 bif (s2A == 1) then (
  (zIe n (Nd.mk n1A n1C n1D n1B) (s2Aw,s2Ax) (s2Ay,s2Az,s2Ba,s2Bb,s2Bc)).bind fun⟨⟨y3W,⟨y3X,y3Y⟩,⟨y3Z,y3Aa⟩⟩,y4⟩ =>
  some (y3W,(y3X,y3Y),(y3Z,y3Aa))
 ) else (
  some (s2Ar,(s2Bd,s2Be),(s2Bf,s2Bg))
 )
def zAM (n:Nat):(Nd×Nd×List zRc×Int)->Option (zCu×Int×(Nd×Nd×List zRc×Int))
| ⟨⟨o1H,o1I,o1J,o1K⟩,⟨o1M,o1N,o1O,o1P⟩,o1E,o1F⟩ =>
 bif (o1F == (o1E.length:Int)) then (
  some (([],[]),8,(Nd.mk o1H o1I o1J o1K,Nd.mk o1M o1N o1O o1P,o1E,o1F))
 ) else (
  (at? o1E o1F).bind fun⟨e3W,⟨e3X,e3Y⟩,⟨e3Z,e3Aa⟩⟩ =>
  (zBh n (Nd.mk o1M o1N o1O o1P) e3W).bind fun⟨⟨y4A,y4C,y4D,y4B⟩,y5,y6⟩ =>
  bif (y6 != 0) then (
   some (([],[]),y6,(Nd.mk o1H o1I o1J o1K,Nd.mk o1M o1N o1O o1P,o1E,o1F))
  ) else (
   (zBH (e3Z,e3Aa)).bind fun⟨y7Q,y7Ab⟩ =>
   some ((y7Q,y7Ab),0,(Nd.mk o1H o1I o1J o1K,Nd.mk y4A y4C y4D y4B,o1E,IntKind.i64.wrap (o1F+1)))
  )
 )
def zAO (n:Nat) (done2:Int):Nat->Int->(List UInt8)->Int->(List Nd)->Int->(List UInt8)->Int->(List Nd)->Int->(List zRc)->Option (Fl (Int×(Nd×Nd×List zRc×Int)) (Int×(List UInt8)×Int×(List Nd)×Int×(List UInt8)×Int×(List Nd)×Int×(List zRc)))
| 0,_,_,_,_,_,_,_,_,_,_=>none
| k+1,x5,x6,x7,x8,x9,x10,x11,x12,x14,l15 =>
 bif decide (done2<x14) then (
  (zAN n (Nd.mk x5 x6 x7 x8,Nd.mk x9 x10 x11 x12,l15,x14)).bind fun⟨⟨y26Q,y26Ab⟩,y27,⟨⟨w28H,w28I,w28J,w28K⟩,⟨w28M,w28N,w28O,w28P⟩,w28E,w28F⟩⟩ =>
  bif (y27 != 0) then (
   some (.ret (y27,(Nd.mk w28H w28I w28J w28K,Nd.mk w28M w28N w28O w28P,w28E,w28F)))
  ) else (
   zAO n done2 k w28H w28I w28J w28K w28M w28N w28O w28P w28F w28E
  )
 ) else (
  some (.go (x5,x6,x7,x8,x9,x10,x11,x12,x14,l15))
 )
def zAP (n:Nat) (done2:Int):Nat->Int->(List UInt8)->Int->(List Nd)->Int->(List UInt8)->Int->(List Nd)->Int->(List zRc)->Option (Fl (Int×(Nd×Nd×List zRc×Int)) (Int×(List UInt8)×Int×(List Nd)×Int×(List UInt8)×Int×(List Nd)×Int×(List zRc)))
| 0,_,_,_,_,_,_,_,_,_,_=>none
| k+1,x29,x30,x31,x32,x33,x34,x35,x36,x38,l39 =>
 bif decide (x38<done2) then (
  (zAM n (Nd.mk x29 x30 x31 x32,Nd.mk x33 x34 x35 x36,l39,x38)).bind fun⟨⟨y50Q,y50Ab⟩,y51,⟨⟨w52H,w52I,w52J,w52K⟩,⟨w52M,w52N,w52O,w52P⟩,w52E,w52F⟩⟩ =>
  bif (y51 != 0) then (
   some (.ret (y51,(Nd.mk w52H w52I w52J w52K,Nd.mk w52M w52N w52O w52P,w52E,w52F)))
  ) else (
   zAP n done2 k w52H w52I w52J w52K w52M w52N w52O w52P w52F w52E
  )
 ) else (
  some (.go (x29,x30,x31,x32,x33,x34,x35,x36,x38,l39))
 )
def zAS (n:Nat):(Nd×Nd×List zRc×Int)->Int->Option (Int×(Nd×Nd×List zRc×Int))
| ⟨⟨o1H,o1I,o1J,o1K⟩,⟨o1M,o1N,o1O,o1P⟩,o1E,o1F⟩,done2 =>
 (
  bif decide (done2<0) then (
   some true
  ) else (
   some (decide ((o1E.length:Int)<done2))
  )
  : Option (Bool)).bind fun x3 =>
 bif x3 then (
  some (2,(Nd.mk o1H o1I o1J o1K,Nd.mk o1M o1N o1O o1P,o1E,o1F))
 ) else (
  (zAO n done2 n o1H o1I o1J o1K o1M o1N o1O o1P o1F o1E).bind fun fl=>match fl with
  | .ret r=>some r
  | .go ⟨x16,x17,x18,x19,x20,x21,x22,x23,x24,l25⟩ =>
   (zAP n done2 n x16 x17 x18 x19 x20 x21 x22 x23 x24 l25).bind fun fl=>match fl with
   | .ret r=>some r
   | .go ⟨x40,x41,x42,x43,x44,x45,x46,x47,x48,l49⟩ =>
    some (0,(Nd.mk x40 x41 x42 x43,Nd.mk x44 x45 x46 x47,l49,x48))
 )
def zFP (n:Nat):(List Int)->(List Int)->Option Bool
| a1,b2 =>
 (zDN n a1 b2).bind fun y3 =>
 some (y3 == 0)
def zBV (n:Nat):zCu->zCu->Option Bool
| ⟨a1Q,a1Ab⟩,⟨b2Q,b2Ab⟩ =>
 (
  (zFP n a1Q b2Q).bind fun y4 =>
  bif y4 then (
   (zFP n a1Ab b2Ab).bind fun y5 =>
   some y5
  ) else (
   some false
  )
  : Option (Bool)).bind fun x3 =>
 some x3
def zCh:(Nd×Nd×List zRc×Int)->Option (Int×(Nd×Nd×List zRc×Int))
| ⟨⟨o1H,o1I,o1J,o1K⟩,⟨o1M,o1N,o1O,o1P⟩,o1E,o1F⟩ =>
 some (o1F,(Nd.mk o1H o1I o1J o1K,Nd.mk o1M o1N o1O o1P,o1E,o1F))
def zHb (n:Nat):Nd->Option ((Nd×List zRc×Int)×Int)
| ⟨n1A,n1C,n1D,n1B⟩ =>
 (zAQ n (Nd.mk n1A n1C n1D n1B)).bind fun y2 =>
 bif (!y2) then (
  some ((Nd.mk 0 [] 0 [],[],0),1)
 ) else (
  some ((Nd.mk n1A n1C n1D n1B,[],0),0)
 )
def zCZ (n:Nat) (h1E:List zRc) (h1F:Int):Nat->Int->(List UInt8)->Int->(List Nd)->Int->Option (Int×(List UInt8)×Int×(List Nd))
| 0,_,_,_,_,_=>none
| k+1,x3,x4,x5,x6,i7 =>
 (
  bif decide (i7<h1F) then (
   some (decide (i7<(h1E.length:Int)))
  ) else (
   some false
  )
  : Option (Bool)).bind fun x12 =>
 bif x12 then (
  (at? h1E i7).bind fun⟨e14W,⟨e14X,e14Y⟩,⟨e14Z,e14Aa⟩⟩ =>
  (zB4 n (Nd.mk x3 x4 x5 x6) e14W).bind fun⟨⟨y16A,y16C,y16D,y16B⟩,y17,y18⟩ =>
  zCZ n h1E h1F k y16A y16C y16D y16B (IntKind.i64.wrap (i7+1))
 ) else (
  some (x3,x4,x5,x6)
 )
def zEW (n:Nat):(Nd×List zRc×Int)->Option Nd
| ⟨⟨h1H,h1I,h1J,h1K⟩,h1E,h1F⟩ =>
 (zCZ n h1E h1F n h1H h1I h1J h1K 0).bind fun⟨x8,x9,x10,x11⟩ =>
 some (Nd.mk x8 x9 x10 x11)
def zIC (n:Nat):(Nd×List zRc×Int)->zRc->Option ((Nd×List zRc×Int)×Int)
| ⟨⟨h1H,h1I,h1J,h1K⟩,h1E,h1F⟩,⟨r2W,⟨r2X,r2Y⟩,⟨r2Z,r2Aa⟩⟩ =>
 (zEW n (Nd.mk h1H h1I h1J h1K,h1E,h1F)).bind fun⟨y3A,y3C,y3D,y3B⟩ =>
 (zB4 n (Nd.mk y3A y3C y3D y3B) r2W).bind fun⟨⟨y4A,y4C,y4D,y4B⟩,y5,y6⟩ =>
 bif (y6 != 0) then (
  some ((Nd.mk h1H h1I h1J h1K,h1E,h1F),y6)
 ) else (
  bif decide (1000<=h1F) then (
   some ((Nd.mk h1H h1I h1J h1K,h1E,h1F),6)
  ) else (
   req (0<=(0:Int)/\(0:Int)<=h1F/\h1F<=(h1E.length:Int)) <|
   req (([]:List zRc).length+((h1E.take h1F.toNat).drop (0:Int).toNat).length<=4294967296) <|
   req (((h1E.take h1F.toNat).drop (0:Int).toNat).length + [(r2W,(r2X,r2Y),(r2Z,r2Aa))].length<=4294967296) <|
   some ((Nd.mk h1H h1I h1J h1K,((h1E.take h1F.toNat).drop (0:Int).toNat)++[(r2W,(r2X,r2Y),(r2Z,r2Aa))],IntKind.i64.wrap (h1F+1)),0)
  )
 )
def zHc:(Nd×List zRc×Int)->Option ((Nd×List zRc×Int)×zCu×Int)
| ⟨⟨h1H,h1I,h1J,h1K⟩,h1E,h1F⟩ =>
 bif (h1F == 0) then (
  some ((Nd.mk h1H h1I h1J h1K,h1E,h1F),([],[]),8)
 ) else (
  (at? h1E (IntKind.i64.wrap (h1F - 1))).bind fun⟨e2W,⟨e2X,e2Y⟩,⟨e2Z,e2Aa⟩⟩ =>
  some ((Nd.mk h1H h1I h1J h1K,h1E,IntKind.i64.wrap (h1F - 1)),(e2X,e2Y),0)
 )
def zFS:(Nd×List zRc×Int)->Option ((Nd×List zRc×Int)×zCu×Int)
| ⟨⟨h1H,h1I,h1J,h1K⟩,h1E,h1F⟩ =>
 bif decide ((h1E.length:Int)<=h1F) then (
  some ((Nd.mk h1H h1I h1J h1K,h1E,h1F),([],[]),8)
 ) else (
  (at? h1E (IntKind.i64.wrap ((IntKind.i64.wrap (h1F+1)) - 1))).bind fun⟨e3W,⟨e3X,e3Y⟩,⟨e3Z,e3Aa⟩⟩ =>
  some ((Nd.mk h1H h1I h1J h1K,h1E,IntKind.i64.wrap (h1F+1)),(e3Z,e3Aa),0)
 )
def zFT:(Nd×List zRc×Int)->Int->Option ((Nd×List zRc×Int)×Int)
| ⟨⟨h1H,h1I,h1J,h1K⟩,h1E,h1F⟩,done2 =>
 (
  bif decide (done2<0) then (
   some true
  ) else (
   some (decide ((h1E.length:Int)<done2))
  )
  : Option (Bool)).bind fun x3 =>
 bif x3 then (
  some ((Nd.mk h1H h1I h1J h1K,h1E,h1F),2)
 ) else (
  some ((Nd.mk h1H h1I h1J h1K,h1E,done2),0)
 )
def zG3 (n:Nat):(Nd×Nd×List zRc×Int)->(Nd×List zRc×Int)->(Int×zRc×zCu×(Int×List Nd×Int×List UInt8×Bool)×Int)->Option ((Nd×List zRc×Int)×Bool×(Nd×Nd×List zRc×Int))
| ⟨⟨o1H,o1I,o1J,o1K⟩,⟨o1M,o1N,o1O,o1P⟩,o1E,o1F⟩,⟨⟨a2H,a2I,a2J,a2K⟩,a2E,a2F⟩,⟨a3A,⟨a3Ar,⟨a3Bd,a3Be⟩,⟨a3Bf,a3Bg⟩⟩,⟨a3Aw,a3Ax⟩,⟨a3Ay,a3Az,a3Ba,a3Bb,a3Bc⟩,a3S⟩ =>
 (
  (
   bif (a3A == 0) then (
    some (a3A == 0)
   ) else (
    some (a3A == 1)
   )
   : Option (Bool)).bind fun x26 =>
  bif x26 then (
   (zEW n (Nd.mk a2H a2I a2J a2K,a2E,a2F)).bind fun⟨y27A,y27C,y27D,y27B⟩ =>
   (zFe n (Nd.mk y27A y27C y27D y27B) (a3A,(a3Ar,(a3Bd,a3Be),(a3Bf,a3Bg)),(a3Aw,a3Ax),(a3Ay,a3Az,a3Ba,a3Bb,a3Bc),a3S)).bind fun⟨y28W,⟨y28X,y28Y⟩,⟨y28Z,y28Aa⟩⟩ =>
   (zAU n (Nd.mk o1H o1I o1J o1K,Nd.mk o1M o1N o1O o1P,o1E,o1F) (y28W,(y28X,y28Y),(y28Z,y28Aa))).bind fun⟨y29,⟨⟨w30H,w30I,w30J,w30K⟩,⟨w30M,w30N,w30O,w30P⟩,w30E,w30F⟩⟩ =>
   (zIC n (Nd.mk a2H a2I a2J a2K,a2E,a2F) (y28W,(y28X,y28Y),(y28Z,y28Aa))).bind fun⟨⟨⟨y31H,y31I,y31J,y31K⟩,y31E,y31F⟩,y32⟩ =>
   some (y29,y32,w30H,w30I,w30J,w30K,w30M,w30N,w30O,w30P,w30F,w30E,y31H,y31I,y31J,y31K,y31E,y31F,[],[],[],[])
  ) else (
   bif (a3A == 2) then (
    (zAN n (Nd.mk o1H o1I o1J o1K,Nd.mk o1M o1N o1O o1P,o1E,o1F)).bind fun⟨⟨y33Q,y33Ab⟩,y34,⟨⟨w35H,w35I,w35J,w35K⟩,⟨w35M,w35N,w35O,w35P⟩,w35E,w35F⟩⟩ =>
    (zHc (Nd.mk a2H a2I a2J a2K,a2E,a2F)).bind fun⟨⟨⟨y36H,y36I,y36J,y36K⟩,y36E,y36F⟩,⟨y37Q,y37Ab⟩,y38⟩ =>
    some (y34,y38,w35H,w35I,w35J,w35K,w35M,w35N,w35O,w35P,w35F,w35E,y36H,y36I,y36J,y36K,y36E,y36F,y33Q,y33Ab,y37Q,y37Ab)
   ) else (
    bif (a3A == 3) then (
     (zAM n (Nd.mk o1H o1I o1J o1K,Nd.mk o1M o1N o1O o1P,o1E,o1F)).bind fun⟨⟨y39Q,y39Ab⟩,y40,⟨⟨w41H,w41I,w41J,w41K⟩,⟨w41M,w41N,w41O,w41P⟩,w41E,w41F⟩⟩ =>
     (zFS (Nd.mk a2H a2I a2J a2K,a2E,a2F)).bind fun⟨⟨⟨y42H,y42I,y42J,y42K⟩,y42E,y42F⟩,⟨y43Q,y43Ab⟩,y44⟩ =>
     some (y40,y44,w41H,w41I,w41J,w41K,w41M,w41N,w41O,w41P,w41F,w41E,y42H,y42I,y42J,y42K,y42E,y42F,y39Q,y39Ab,y43Q,y43Ab)
    ) else (
     (zAS n (Nd.mk o1H o1I o1J o1K,Nd.mk o1M o1N o1O o1P,o1E,o1F) a3S).bind fun⟨y45,⟨⟨w46H,w46I,w46J,w46K⟩,⟨w46M,w46N,w46O,w46P⟩,w46E,w46F⟩⟩ =>
     (zFT (Nd.mk a2H a2I a2J a2K,a2E,a2F) a3S).bind fun⟨⟨⟨y47H,y47I,y47J,y47K⟩,y47E,y47F⟩,y48⟩ =>
     some (y45,y48,w46H,w46I,w46J,w46K,w46M,w46N,w46O,w46P,w46F,w46E,y47H,y47I,y47J,y47K,y47E,y47F,[],[],[],[])
    )
   )
  )
  : Option (Int×Int×Int×(List UInt8)×Int×(List Nd)×Int×(List UInt8)×Int×(List Nd)×Int×(List zRc)×Int×(List UInt8)×Int×(List Nd)×(List zRc)×Int×(List Int)×(List Int)×(List Int)×(List Int))).bind fun⟨x4,x5,x6,x7,x8,x9,x10,x11,x12,x13,x14,l15,x16,x17,x18,x19,x20,x21,x22,x23,x24,x25⟩ =>
 (
  bif (x4 == x5) then (
   (zBV n (x22,x23) (x24,x25)).bind fun y50 =>
   some y50
  ) else (
   some false
  )
  : Option (Bool)).bind fun x49 =>
 some ((Nd.mk x16 x17 x18 x19,x20,x21),x49,(Nd.mk x6 x7 x8 x9,Nd.mk x10 x11 x12 x13,l15,x14))
def zBq:(Nd×Nd×List zRc×Int)->Option (Nd×(Nd×Nd×List zRc×Int))
| ⟨⟨o1H,o1I,o1J,o1K⟩,⟨o1M,o1N,o1O,o1P⟩,o1E,o1F⟩ =>
 (zAX (Nd.mk o1H o1I o1J o1K)).bind fun⟨y2A,y2C,y2D,y2B⟩ =>
 some (Nd.mk y2A y2C y2D y2B,(Nd.mk o1H o1I o1J o1K,Nd.mk o1M o1N o1O o1P,o1E,o1F))
def zG9 (n:Nat):zRc->zRc->Option Bool
| ⟨a1W,⟨a1X,a1Y⟩,⟨a1Z,a1Aa⟩⟩,⟨b2W,⟨b2X,b2Y⟩,⟨b2Z,b2Aa⟩⟩ =>
 (
  (zFD n a1W b2W).bind fun y4 =>
  bif y4 then (
   (zBV n (a1X,a1Y) (b2X,b2Y)).bind fun y5 =>
   bif y5 then (
    (zBV n (a1Z,a1Aa) (b2Z,b2Aa)).bind fun y6 =>
    some y6
   ) else (
    some false
   )
  ) else (
   some false
  )
  : Option (Bool)).bind fun x3 =>
 some x3
def zCT (n:Nat) (r2E:List zRc) (y3:List zRc) (x6:Int) (x7:List UInt8) (x8:Int) (x9:List Nd) (x10:Int) (x11:List UInt8) (x12:Int) (x13:List Nd) (x14:Int) (l15:List zRc):Nat->Int->Option (Fl (Bool×(Nd×Nd×List zRc×Int)) Unit)
| 0,_=>none
| k+1,x29 =>
 bif decide (x29<(y3.length:Int)) then (
  (at? y3 x29).bind fun⟨e30W,⟨e30X,e30Y⟩,⟨e30Z,e30Aa⟩⟩ =>
  (at? r2E x29).bind fun⟨e32W,⟨e32X,e32Y⟩,⟨e32Z,e32Aa⟩⟩ =>
  (zG9 n (e30W,(e30X,e30Y),(e30Z,e30Aa)) (e32W,(e32X,e32Y),(e32Z,e32Aa))).bind fun y34 =>
  bif (!y34) then (
   some (.ret (false,(Nd.mk x6 x7 x8 x9,Nd.mk x10 x11 x12 x13,l15,x14)))
  ) else (
   zCT n r2E y3 x6 x7 x8 x9 x10 x11 x12 x13 x14 l15 k (IntKind.i64.wrap (x29+1))
  )
 ) else (
  some (.go ())
 )
def zFN (n:Nat):(Nd×Nd×List zRc×Int)->(Nd×List zRc×Int)->Option (Bool×(Nd×Nd×List zRc×Int))
| ⟨⟨o1H,o1I,o1J,o1K⟩,⟨o1M,o1N,o1O,o1P⟩,o1E,o1F⟩,⟨⟨r2H,r2I,r2J,r2K⟩,r2E,r2F⟩ =>
 (zA7 n (Nd.mk o1H o1I o1J o1K,Nd.mk o1M o1N o1O o1P,o1E,o1F)).bind fun⟨y3,⟨⟨w4H,w4I,w4J,w4K⟩,⟨w4M,w4N,w4O,w4P⟩,w4E,w4F⟩⟩ =>
 (
  bif ((y3.length:Int) != (r2E.length:Int)) then (
   some (true,w4H,w4I,w4J,w4K,w4M,w4N,w4O,w4P,w4F,w4E)
  ) else (
   (zCh (Nd.mk w4H w4I w4J w4K,Nd.mk w4M w4N w4O w4P,w4E,w4F)).bind fun⟨y18,⟨⟨w19H,w19I,w19J,w19K⟩,⟨w19M,w19N,w19O,w19P⟩,w19E,w19F⟩⟩ =>
   bif (y18 != r2F) then (
    some (true,w19H,w19I,w19J,w19K,w19M,w19N,w19O,w19P,w19F,w19E)
   ) else (
    (zA9 (Nd.mk w19H w19I w19J w19K,Nd.mk w19M w19N w19O w19P,w19E,w19F)).bind fun⟨⟨y20A,y20C,y20D,y20B⟩,⟨⟨w21H,w21I,w21J,w21K⟩,⟨w21M,w21N,w21O,w21P⟩,w21E,w21F⟩⟩ =>
    (zEW n (Nd.mk r2H r2I r2J r2K,r2E,r2F)).bind fun⟨y22A,y22C,y22D,y22B⟩ =>
    (zBv n (Nd.mk y20A y20C y20D y20B) (Nd.mk y22A y22C y22D y22B)).bind fun y23 =>
    bif (!y23) then (
     some (true,w21H,w21I,w21J,w21K,w21M,w21N,w21O,w21P,w21F,w21E)
    ) else (
     (zBq (Nd.mk w21H w21I w21J w21K,Nd.mk w21M w21N w21O w21P,w21E,w21F)).bind fun⟨⟨y24A,y24C,y24D,y24B⟩,⟨⟨w25H,w25I,w25J,w25K⟩,⟨w25M,w25N,w25O,w25P⟩,w25E,w25F⟩⟩ =>
     (zBv n (Nd.mk y24A y24C y24D y24B) (Nd.mk r2H r2I r2J r2K)).bind fun y26 =>
     some ((!y26),w25H,w25I,w25J,w25K,w25M,w25N,w25O,w25P,w25F,w25E)
    )
   )
  )
  : Option (Bool×Int×(List UInt8)×Int×(List Nd)×Int×(List UInt8)×Int×(List Nd)×Int×(List zRc))).bind fun⟨x5,x6,x7,x8,x9,x10,x11,x12,x13,x14,l15⟩ =>
 bif x5 then (
  some (false,(Nd.mk x6 x7 x8 x9,Nd.mk x10 x11 x12 x13,l15,x14))
 ) else (
  (zCT n r2E y3 x6 x7 x8 x9 x10 x11 x12 x13 x14 l15 n 0).bind fun fl=>match fl with
  | .ret r=>some r
  | .go _ =>
   some (true,(Nd.mk x6 x7 x8 x9,Nd.mk x10 x11 x12 x13,l15,x14))
 )
def zBa (n:Nat) (a2:List (Int×zRc×zCu×(Int×List Nd×Int×List UInt8×Bool)×Int)):Nat->Int->(List UInt8)->Int->(List Nd)->Int->(List UInt8)->Int->(List Nd)->Int->Int->(List UInt8)->Int->(List Nd)->(List zRc)->Int->Int->(List zRc)->Option (Fl Bool (Int×(List UInt8)×Int×(List Nd)×Int×(List UInt8)×Int×(List Nd)×Int×(List zRc)×Int×(List UInt8)×Int×(List Nd)×(List zRc)×Int))
| 0,_,_,_,_,_,_,_,_,_,_,_,_,_,_,_,_,_=>none
| k+1,x16,x17,x18,x19,x20,x21,x22,x23,x25,x26,x27,x28,x29,x30,x31,x32,l33 =>
 bif decide (x32<(a2.length:Int)) then (
  (at? a2 x32).bind fun⟨e50A,⟨e50Ar,⟨e50Bd,e50Be⟩,⟨e50Bf,e50Bg⟩⟩,⟨e50Aw,e50Ax⟩,⟨e50Ay,e50Az,e50Ba,e50Bb,e50Bc⟩,e50S⟩ =>
  (zG3 n (Nd.mk x16 x17 x18 x19,Nd.mk x20 x21 x22 x23,l33,x25) (Nd.mk x26 x27 x28 x29,x30,x31) (e50A,(e50Ar,(e50Bd,e50Be),(e50Bf,e50Bg)),(e50Aw,e50Ax),(e50Ay,e50Az,e50Ba,e50Bb,e50Bc),e50S)).bind fun⟨⟨⟨y52H,y52I,y52J,y52K⟩,y52E,y52F⟩,y53,⟨⟨w54H,w54I,w54J,w54K⟩,⟨w54M,w54N,w54O,w54P⟩,w54E,w54F⟩⟩ =>
  (
   bif (!y53) then (
    some (true,w54H,w54I,w54J,w54K,w54M,w54N,w54O,w54P,w54F,w54E)
   ) else (
    (zFN n (Nd.mk w54H w54I w54J w54K,Nd.mk w54M w54N w54O w54P,w54E,w54F) (Nd.mk y52H y52I y52J y52K,y52E,y52F)).bind fun⟨y66,⟨⟨w67H,w67I,w67J,w67K⟩,⟨w67M,w67N,w67O,w67P⟩,w67E,w67F⟩⟩ =>
    some ((!y66),w67H,w67I,w67J,w67K,w67M,w67N,w67O,w67P,w67F,w67E)
   )
   : Option (Bool×Int×(List UInt8)×Int×(List Nd)×Int×(List UInt8)×Int×(List Nd)×Int×(List zRc))).bind fun⟨x55,x56,x57,x58,x59,x60,x61,x62,x63,x64,l65⟩ =>
  bif x55 then (
   some (.ret false)
  ) else (
   zBa n a2 k x56 x57 x58 x59 x60 x61 x62 x63 x64 y52H y52I y52J y52K y52E y52F (IntKind.i64.wrap (x32+1)) l65
  )
 ) else (
  some (.go (x16,x17,x18,x19,x20,x21,x22,x23,x25,l33,x26,x27,x28,x29,x30,x31))
 )
def zBE (n:Nat):Nd->(List (Int×zRc×zCu×(Int×List Nd×Int×List UInt8×Bool)×Int))->Option Bool
| ⟨a1A,a1C,a1D,a1B⟩,a2 =>
 (
  (zEP n ).bind fun y4 =>
  bif (!y4) then (
   some true
  ) else (
   (zH9 n (Nd.mk a1A a1C a1D a1B) a2).bind fun y5 =>
   some (!y5)
  )
  : Option (Bool)).bind fun x3 =>
 bif x3 then (
  (zEP n ).bind fun y6 =>
  some y6
 ) else (
  (zDG n (Nd.mk a1A a1C a1D a1B)).bind fun⟨y7,y8⟩ =>
  match y7 with
  | none=>(
   req (y8=1) <|
   (zHb n (Nd.mk a1A a1C a1D a1B)).bind fun⟨⟨⟨y9H,y9I,y9J,y9K⟩,y9E,y9F⟩,y10⟩ =>
   bif (y10 != 0) then (
    (
     bif (1 == y10) then (
      some true
     ) else (
      some false
     )
     : Option (Bool)).bind fun x11 =>
    some x11
   ) else (
    some false
   )
  )
  | some ⟨⟨w12H,w12I,w12J,w12K⟩,⟨w12M,w12N,w12O,w12P⟩,w12E,w12F⟩=>(
   req (y8=0) <|
   (zHb n (Nd.mk a1A a1C a1D a1B)).bind fun⟨⟨⟨y13H,y13I,y13J,y13K⟩,y13E,y13F⟩,y14⟩ =>
   bif (y14 != 0) then (
    (
     bif (0 == y14) then (
      some ()
     ) else (
      some ()
     )
     : Option Unit).bind fun _ =>
    some false
   ) else (
    (zBa n a2 n w12H w12I w12J w12K w12M w12N w12O w12P w12F y13H y13I y13J y13K y13E y13F 0 w12E).bind fun fl=>match fl with
    | .ret r=>some r
    | .go ⟨x34,x35,x36,x37,x38,x39,x40,x41,x42,l43,x44,x45,x46,x47,x48,x49⟩ =>
     (zFN n (Nd.mk x34 x35 x36 x37,Nd.mk x38 x39 x40 x41,l43,x42) (Nd.mk x44 x45 x46 x47,x48,x49)).bind fun⟨y68,⟨⟨w69H,w69I,w69J,w69K⟩,⟨w69M,w69N,w69O,w69P⟩,w69E,w69F⟩⟩ =>
     some y68
   )
  )
 )
end Go.Proofs.YtffhjiplcfncdaaGreat
