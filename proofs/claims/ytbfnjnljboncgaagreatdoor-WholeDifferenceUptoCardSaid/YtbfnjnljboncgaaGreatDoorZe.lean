/-
  Joined out of: DtVB, DtVC, LibG, LibH, LibW, LibR, DtE, LibE, DtF, RfB, LibV, LibK, RfC, RfD, LibN.
-/
import Derived.WalkKit
import Derived.Lib.Walk
import Derived.Lib.SliceRun
import Derived.Lib.AppendZerosOnto
import Derived.Shelf.RegionOpenPlain
import Derived.Test.YtbfnjnljboncgaaGreatDoorZd
set_option linter.unusedVariables false
set_option linter.unusedSimpArgs false
set_option maxHeartbeats 2000000
set_option maxRecDepth 100000
namespace Go.Proofs.YtbfnjnljboncgaaGreatDoor
open Go.Abs
def zHh (n:Nat) (xs:List AV) (os:List Ob) (x:AV) (os':List (Option Ob)):Prop:=∃ (a0:Nd) (a1:List UInt8) (z1:List UInt8),zBm n a0 a1=some z1/\xs=[.op 0 0,.s (.pt (Nd.enc a0))]/\os=[.box 177 (zA1 (.s (.np)) (.orow 1)),.row 5 1 (List.map brow a1)]/\x = .tup []/\os'=[some (.box 177 (zA1 (.op 0 39) (.orow 2))),none,some (.row 5 1 (List.map brow z1))]
def zER:zAp:=zB1 (fun xs os x os'=>∃ n,zHh n xs os x os')
theorem zHc:PSound Tryz.prog 109 zER:=by
 have gok:∀ f s,look? f [(95,orS zBT zCB),(133,zGg),(97,zBx)]=some s->PSound Tryz.prog f s:=zAo (by
  simp only[List.forall_mem_cons]
  exact⟨(zRK zCS zEt),zHN,zB7,by simp⟩)
 refine PSound.withNil (osq tokW Tryz.call109 Tryz.func109 rfl ?_) _;rintro xs os x os' w0 G0 B0 ⟨n,⟨a1A,a1C,a1D,a1B⟩,b2,z1,h,rfl,rfl,rfl,rfl⟩ _;rw[zBm]at h;refine zAa ?_;refine zAa ?_;obtain⟨x3,hj,h⟩:=zAc h;refine zAn ⟨ofL [(0,.op 0 0),(1,.s (.pt [.int .i64 a1A,.str a1C,.int .i64 a1D,.sl 4 (Nd.encs a1B)])),(16,.s (.bool x3))],ofH [(0,.box 177 (zA1 (.s (.np)) (.orow 1))),(1,.row 5 1 ((List.map brow) b2))],2⟩ ?_ (fun σ' hle=>?_)
 ·replace h:=hj;refine zAb [] [10] rfl ?_;intro b hb;cases b with
  | true =>
   replace h:=zAw hb.symm h;cases h;exact(Le.rnq [(0,0),(1,1)] _ _ _)
  | false =>
   replace h:=zAv hb.symm h;cases h;exact(Le.rnq [(0,0),(1,1)] _ _ _)
 ·refine zAj hle ?_;obtain⟨l4,hj,h⟩:=zAc h;refine zAn ⟨ofL [(0,.op 0 0),(1,.s (.pt [.int .i64 a1A,.str a1C,.int .i64 a1D,.sl 4 (Nd.encs a1B)]))],ofH [(0,.box 177 (zA1 (.op 0 39) (.orow 2))),(2,.row 5 1 ((List.map brow) l4))],3⟩ ?_ (fun σ' hle=>?_)
  ·replace h:=hj;refine zAm rfl h (fun hb h=>?_) (fun hb h=>?_)
   ·refine zA0 [] [24] [12,13] rfl (by decide +kernel) ?_;intro vsp hvsp;cases hc:(a1A == 1) with
    | true =>
     replace h:=zAw hc h;obtain rfl:(1:Int)=vsp:=(hvsp.trans (eq_of_beq hc)).symm;refine And.intro (by decide) ?_;obtain⟨⟨y5,_,b7⟩,hy5,h⟩:=zAc h;refine⟨_,_,(Or.inr ⟨_,_,_,_,_,hy5,rfl,rfl,rfl,rfl⟩),?_⟩
     cases h;exact(Le.rnq [(0,0),(2,2)] _ _ _)
    | false =>
     replace h:=zAv hc h;cases hc:(a1A == 2) with
     | true =>
      replace h:=zAw hc h;obtain rfl:(2:Int)=vsp:=(hvsp.trans (eq_of_beq hc)).symm;refine And.intro (by decide) ?_;obtain⟨⟨y8,_,b10⟩,hy8,h⟩:=zAc h;refine⟨_,_,(Or.inr ⟨_,_,_,_,_,hy8,rfl,rfl,rfl,rfl⟩),?_⟩
      cases h;exact(Le.rnq [(0,0),(2,2)] _ _ _)
     | false =>
      replace h:=zAv hc h;cases hc:(a1A == 3) with
      | true =>
       replace h:=zAw hc h;obtain rfl:(3:Int)=vsp:=(hvsp.trans (eq_of_beq hc)).symm;refine And.intro (by decide) ?_;obtain⟨⟨y11,_,b13⟩,hy11,h⟩:=zAc h;refine⟨_,_,(Or.inr ⟨_,_,_,_,_,hy11,rfl,rfl,rfl,rfl⟩),?_⟩
       cases h;exact(Le.rnq [(0,0),(2,2)] _ _ _)
      | false =>
       replace h:=zAv hc h;cases hc:(a1A == 4) with
       | true =>
        replace h:=zAw hc h;obtain rfl:(4:Int)=vsp:=(hvsp.trans (eq_of_beq hc)).symm;refine And.intro (by decide) ?_;obtain⟨⟨y14,_,b16⟩,hy14,h⟩:=zAc h;refine⟨_,_,(Or.inr ⟨_,_,_,_,_,hy14,rfl,rfl,rfl,rfl⟩),?_⟩
        cases h;exact(Le.rnq [(0,0),(2,2)] _ _ _)
       | false =>
        replace h:=zAv hc h;cases hc:(a1A == 5) with
        | true =>
         replace h:=zAw hc h;obtain rfl:(5:Int)=vsp:=(hvsp.trans (eq_of_beq hc)).symm;refine And.intro (by decide) ?_;obtain⟨⟨y17,_,b19⟩,hy17,h⟩:=zAc h;refine⟨_,_,(Or.inr ⟨_,_,_,_,_,hy17,rfl,rfl,rfl,rfl⟩),?_⟩
         cases h;exact(Le.rnq [(0,0),(2,2)] _ _ _)
        | false =>
         replace h:=zAv hc h;cases hc:(a1A == 6) with
         | true =>
          replace h:=zAw hc h;obtain rfl:(6:Int)=vsp:=(hvsp.trans (eq_of_beq hc)).symm;refine And.intro (by decide) ?_;obtain⟨⟨y20,_,b22⟩,hy20,h⟩:=zAc h;refine⟨_,_,(Or.inr ⟨_,_,_,_,_,hy20,rfl,rfl,rfl,rfl⟩),?_⟩
          cases h;exact(Le.rnq [(0,0),(2,2)] _ _ _)
         | false =>
          replace h:=zAv hc h;cases hc:(a1A == 7) with
          | true =>
           replace h:=zAw hc h;obtain rfl:(7:Int)=vsp:=(hvsp.trans (eq_of_beq hc)).symm;refine And.intro (by decide) ?_;obtain⟨⟨y23,_,b25⟩,hy23,h⟩:=zAc h;refine⟨_,_,(Or.inr ⟨_,_,_,_,_,hy23,rfl,rfl,rfl,rfl⟩),?_⟩
           cases h;exact(Le.rnq [(0,0),(2,2)] _ _ _)
          | false =>
           replace h:=zAv hc h;cases hc:(a1A == 8) with
           | true =>
            replace h:=zAw hc h;obtain rfl:(8:Int)=vsp:=(hvsp.trans (eq_of_beq hc)).symm;refine And.intro (by decide) ?_;obtain⟨⟨y26,_,b28⟩,hy26,h⟩:=zAc h;refine⟨_,_,(Or.inr ⟨_,_,_,_,_,hy26,rfl,rfl,rfl,rfl⟩),?_⟩
            cases h;exact(Le.rnq [(0,0),(2,2)] _ _ _)
           | false =>
            replace h:=zAv hc h;cases hc:(a1A == 9) with
            | true =>
             replace h:=zAw hc h;obtain rfl:(9:Int)=vsp:=(hvsp.trans (eq_of_beq hc)).symm;refine And.intro (by decide) ?_;obtain⟨⟨y29,_,b31⟩,hy29,h⟩:=zAc h;refine⟨_,_,(Or.inr ⟨_,_,_,_,_,hy29,rfl,rfl,rfl,rfl⟩),?_⟩
             cases h;exact(Le.rnq [(0,0),(2,2)] _ _ _)
            | false =>
             replace h:=zAv hc h;cases hc:(a1A == 10) with
             | true =>
              replace h:=zAw hc h;obtain rfl:(10:Int)=vsp:=(hvsp.trans (eq_of_beq hc)).symm;refine And.intro (by decide) ?_;obtain⟨⟨y32,_,b34⟩,hy32,h⟩:=zAc h;refine⟨_,_,(Or.inr ⟨_,_,_,_,_,hy32,rfl,rfl,rfl,rfl⟩),?_⟩
              cases h;exact(Le.rnq [(0,0),(2,2)] _ _ _)
             | false =>
              replace h:=zAv hc h;cases hc:(a1A == 11) with
              | true =>
               replace h:=zAw hc h;obtain rfl:(11:Int)=vsp:=(hvsp.trans (eq_of_beq hc)).symm;refine And.intro (by decide) ?_;obtain⟨⟨y35,_,b37⟩,hy35,h⟩:=zAc h;refine⟨_,_,(Or.inr ⟨_,_,_,_,_,hy35,rfl,rfl,rfl,rfl⟩),?_⟩
               cases h;exact(Le.rnq [(0,0),(2,2)] _ _ _)
              | false =>
               replace h:=zAv hc h;cases hc:(a1A == 12) with
               | true =>
                replace h:=zAw hc h;obtain rfl:(12:Int)=vsp:=(hvsp.trans (eq_of_beq hc)).symm;refine And.intro (by decide) ?_;obtain⟨⟨y38,_,b40⟩,hy38,h⟩:=zAc h;refine⟨_,_,(Or.inr ⟨_,_,_,_,_,hy38,rfl,rfl,rfl,rfl⟩),?_⟩
                cases h;exact(Le.rnq [(0,0),(2,2)] _ _ _)
               | false =>
                replace h:=zAv hc h;cases h
   ·refine zA0 [] [] [9] rfl (by decide +kernel) ?_;obtain⟨y41,hy41,h⟩:=zAc h;refine⟨_,⟨_,_,hy41,rfl,rfl⟩,?_⟩
    obtain⟨hq,h⟩:=zAK h;refine And.intro (Nat.le_trans hq (by decide)) ?_;obtain⟨⟨y42,_,b44⟩,hy42,h⟩:=zAc h;refine⟨_,_,(Or.inr ⟨_,_,_,_,_,hy42,rfl,rfl,rfl,rfl⟩),?_⟩
    cases h;exact(Le.rnq [(0,0),(2,2)] _ _ _)
  ·refine zAj hle ?_;refine zAa ?_;refine yAD ?_;show Tri ..;obtain⟨l45,hj,h⟩:=zAc h;refine zAn ⟨ofL [(0,.op 0 0),(1,.s (.pt [.int .i64 a1A,.str a1C,.int .i64 a1D,.sl 4 (Nd.encs a1B)]))],ofH [(0,.box 177 (zA1 (.op 0 39) (.orow 2))),(2,.row 5 1 ((List.map brow) l45))],3⟩ ?_ (fun σ' hle=>?_)
   ·replace h:=hj;refine zAm rfl h (fun hb h=>?_) (fun hb h=>?_)
    ·refine yAD ?_;obtain⟨⟨y46,_,b48⟩,hy46,h⟩:=zAc h;refine⟨_,_,(Or.inl ⟨_,_,_,_,_,hy46,rfl,rfl,rfl,rfl⟩),?_⟩
     refine zAa ?_;refine yAD ?_;show Tri ..;obtain⟨l51,hl,h⟩:=zAc h;refine zAn ⟨ofL [(0,.op 0 0),(1,.s (.pt [.int .i64 a1A,.str a1C,.int .i64 a1D,.sl 4 (Nd.encs a1B)]))],ofH [(0,.box 177 (zA1 (.op 0 39) (.orow 2))),(2,.row 5 1 ((List.map brow) l51))],3⟩ ?_ (fun σ' hle=>?_)
     ·refine zAi (zAy (X:=Nat×Int×(List UInt8)) (fun y=>match y with | (k,x49,l50)=>⟨ofL [(0,.op 0 0),(1,.s (.pt [.int .i64 a1A,.str a1C,.int .i64 a1D,.sl 4 (Nd.encs a1B)])),(4,.s (.int .i64 x49))],ofH [(0,.box 177 (zA1 (.op 0 39) (.orow 2))),(2,.row 5 1 ((List.map brow) l50))],3⟩) (fun y=>zAI a1C y.1 y.2.1 y.2.2=some l51) (fun y=>y.1) (n,0,b48) hl ?_ ?_)
      ·exact(Le.rnq [(0,0),(3,2)] _ _ _)
      ·rintro⟨k,x49,l50⟩ h;cases k with
       | zero=>cases h
       | succ k =>
        replace h:zAI a1C (k+1) x49 l50=some l51:=h;rw[zAI]at h;refine zAa ?_;refine yAD ?_;refine zAm rfl h (fun hb h=>?_) (fun hb h=>?_)
        ·refine zAf ?_;refine zAa ?_;obtain⟨l52,hj,h⟩:=zAc h;refine zAn ⟨ofL [(0,.op 0 0),(1,.s (.pt [.int .i64 a1A,.str a1C,.int .i64 a1D,.sl 4 (Nd.encs a1B)])),(4,.s (.int .i64 x49))],ofH [(0,.box 177 (zA1 (.op 0 39) (.orow 2))),(2,.row 5 1 ((List.map brow) l52))],3⟩ ?_ (fun σ' hle=>?_)
         ·replace h:=hj;refine zAi ?_;refine zAa ?_;refine zAa ?_;obtain⟨x53,hj,h⟩:=zAc h;refine zAn ⟨ofL [(0,.op 0 0),(1,.s (.pt [.int .i64 a1A,.str a1C,.int .i64 a1D,.sl 4 (Nd.encs a1B)])),(4,.s (.int .i64 x49)),(74,.s (.bool x53))],ofH [(0,.box 177 (zA1 (.op 0 39) (.orow 2))),(2,.row 5 1 ((List.map brow) l50))],3⟩ ?_ (fun σ' hle=>?_)
          ·replace h:=hj;refine zAb [] [64,66,72] rfl ?_;obtain⟨c54,hc54,h⟩:=zAc h;refine And.intro (zCD hc54).1 ?_;intro v55 hv55;obtain rfl:(c54.toNat:Int)=v55:=(hv55.trans (zCD hc54).2).symm;intro b hb;cases b with
           | true =>
            replace h:=zAw hb.symm h;cases h;exact(Le.rnq [(0,0),(2,2)] _ _ _)
           | false =>
            replace h:=zAv hb.symm h;obtain⟨c56,hc56,h⟩:=zAc h;refine And.intro (zCD hc56).1 ?_;intro v57 hv57;obtain rfl:(c56.toNat:Int)=v57:=(hv57.trans (zCD hc56).2).symm;cases h;exact(Le.rnq [(0,0),(2,2)] _ _ _)
          ·refine zAj hle ?_;obtain⟨l58,hj,h⟩:=zAc h;refine zAn ⟨ofL [(0,.op 0 0),(1,.s (.pt [.int .i64 a1A,.str a1C,.int .i64 a1D,.sl 4 (Nd.encs a1B)])),(4,.s (.int .i64 x49))],ofH [(0,.box 177 (zA1 (.op 0 39) (.orow 2))),(2,.row 5 1 ((List.map brow) l58))],3⟩ ?_ (fun σ' hle=>?_)
           ·replace h:=hj;refine zAm rfl h (fun hb h=>?_) (fun hb h=>?_)
            ·refine yAC ?_;obtain⟨⟨_,b60⟩,hy59,h⟩:=zAc h;refine⟨_,_,⟨_,_,_,_,hy59,rfl,rfl,rfl,rfl⟩,?_⟩
             cases h;exact(Le.rnq [(0,0),(3,2)] _ _ _)
            ·refine zAf ?_;cases h;exact(Le.rnq [(0,0),(2,2)] _ _ _)
           ·refine zAj hle ?_;refine zA0 [] [87] [9] rfl (by decide +kernel) ?_;obtain⟨c61,hc61,h⟩:=zAc h;refine And.intro (zCD hc61).1 ?_;intro v62 hv62;obtain rfl:(c61.toNat:Int)=v62:=(hv62.trans (zCD hc61).2).symm;obtain⟨⟨_,b64⟩,hy63,h⟩:=zAc h;refine⟨_,_,⟨_,_,_,_,hy63,rfl,rfl,rfl,rfl⟩,?_⟩
            cases h;exact(Le.rnq [(0,0),(3,2)] _ _ _)
         ·refine zAj hle ?_;refine yAC ?_;refine⟨(k,IntKind.i64.wrap (x49+1),l52),h,(Le.rnq [(0,0),(2,2)] _ _ _),Nat.lt_succ_self k⟩
        ·refine zAB ?_;cases h;exact(Le.rnq [(0,0),(2,2)] _ _ _)
     ·refine zAj hle ?_;refine yAC ?_;obtain⟨⟨_,b66⟩,hy65,h⟩:=zAc h;refine⟨_,_,⟨_,_,_,_,hy65,rfl,rfl,rfl,rfl⟩,?_⟩
      cases h;exact(Le.rnq [(0,0),(3,2)] _ _ _)
    ·refine zAf ?_;cases h;exact(Le.rnq [(0,0),(2,2)] _ _ _)
   ·refine zAj hle ?_;refine yAD ?_;refine zAm rfl h (fun hb h=>?_) (fun hb h=>?_)
    ·refine zA0 [] [] [9] rfl (by decide +kernel) ?_;obtain⟨y67,hy67,h⟩:=zAc h;refine⟨_,⟨_,_,hy67,rfl,rfl⟩,?_⟩
     obtain⟨hq,h⟩:=zAK h;refine And.intro (Nat.le_trans hq (by decide)) ?_;obtain⟨⟨y68,_,b70⟩,hy68,h⟩:=zAc h;refine⟨_,_,(Or.inl ⟨_,_,_,_,_,hy68,rfl,rfl,rfl,rfl⟩),?_⟩
     have hy:=osi h;subst hy;unfold zCA;exact⟨_,(Le.rnq [(0,0),(3,2)] [] [(0,.box 177 (zA1 (.op 0 39) (.orow 2))),(2,.row 5 1 ((List.map brow) b70))] 3),rfl,rfl,rfl,rfl,rfl,rfl,trivial⟩
    ·refine zAf ?_;have hy:=osi h;subst hy;unfold zCA;exact⟨_,(Le.rnq [(0,0),(2,2)] [] [(0,.box 177 (zA1 (.op 0 39) (.orow 2))),(2,.row 5 1 ((List.map brow) l45))] 3),rfl,rfl,rfl,rfl,rfl,rfl,trivial⟩
def zAF (p:(Nd×Int)):List S:=[.pt (Nd.enc p.1),.int .i64 p.2]
def zSe (n:Nat) (xs:List AV) (r:Ret):Prop:=∃ (a0:Nd) (y0:List UInt8),zEG n a0=some y0/\xs=[.agg ((Nd.enc a0).map .s)]/\r = .val (.s (.str y0))
def zL7:zAp:=zAu fun xs r=>∃ n,zSe n xs r
theorem zXJ {α:Type}{a b:α} (h:a=b:=by simp[List.map_append,List.map_take,List.map_drop,irow,brow,zF2,List.map_cons,List.map_nil,zFw,Nd.encs_eq,Nd.enc,zBH,zA5,zAF]):a=b :=
 h
set_option maxHeartbeats 8000000 in
theorem zRC:PSound Tryz.prog 79 zL7:=by
 have gok:∀ f s,look? f [(36,zHr),(109,orS zFZ zER),(97,zBx),(61,zDX)]=some s->PSound Tryz.prog f s:=zAo (by
  simp only[List.forall_mem_cons]
  exact⟨zJR,(zRK zIX zHc),zB7,zGn,by simp⟩)
 refine psq tokW Tryz.call79 Tryz.func79 rfl ?_;rintro xs r w0 G0 ⟨n,⟨a1A,a1C,a1D,a1B⟩,y0,h,rfl,rfl⟩ _;rw[zEG]at h;refine yAD ?_;refine zZx [10] [] rfl ?_;obtain⟨_,hy2,h⟩:=zAc h;refine⟨_,⟨_,hy2,rfl,rfl⟩,?_⟩
 refine zAj (Le.trans (Le.rnq [(0,0)] [(1,.s (.pt [.int .i64 a1A,.str a1C,.int .i64 a1D,.sl 4 (Nd.encs a1B)])),(3,.op 0 0)] [(0,.box 177 (zA1 (.s (.np)) (.nl 1)))] 1) (Le.takeNil 0 40 5 rfl rfl (by decide))) ?_;refine yAD ?_;obtain⟨b3,hb3,h⟩:=zAc h;refine⟨_,_,(Or.inr ⟨_,_,_,_,hb3,rfl,rfl,rfl,rfl⟩),?_⟩
 refine zZx [14] [] rfl ?_;refine zAj (Le.rnq [(0,0),(2,1),(3,2)] [(3,.op 0 0),(4,.orow 2)] [(0,.box 177 (zA1 (.op 0 39) (.orow 1))),(1,.row 5 1 ((List.map brow) b3)),(2,.row 180 2 ((List.map zAF) [(Nd.mk a1A a1C a1D a1B,0)]))] 3 (h2:=⟨rfl,⟨_,rfl,rfl⟩,rfl,⟨_,rfl,rfl⟩,rfl,⟨_,rfl,congrArg (Ob.row 180 2) zXJ⟩,trivial⟩)) ?_;refine zAa ?_;obtain⟨l7,hl,h⟩:=zAc h
 refine zAn ⟨ofL [(3,.op 0 0)],ofH [(0,.box 177 (zA1 (.op 0 39) (.orow 1))),(1,.row 5 1 ((List.map brow) l7))],2⟩ ?_ (fun σ' hle=>?_)
 ·refine zAi (zAy (X:=Nat×(List UInt8)×(List (Nd×Int))) (fun y=>match y with | (k,l5,l6)=>⟨ofL [(3,.op 0 0),(4,.orow 2)],ofH [(0,.box 177 (zA1 (.op 0 39) (.orow 1))),(1,.row 5 1 ((List.map brow) l5)),(2,.row 180 2 ((List.map zAF) l6))],3⟩) (fun y=>zB9 n y.1 y.2.1 y.2.2=some l7) (fun y=>y.1) (n,b3,[(Nd.mk a1A a1C a1D a1B,0)]) hl ?_ ?_)
  ·exact(Le.rnq [(0,0),(1,1),(2,2)] _ _ _)
  ·rintro⟨k,l5,l6⟩ h;cases k with
   | zero=>cases h
   | succ k =>
    replace h:zB9 n (k+1) l5 l6=some l7:=h;rw[zB9]at h;refine zAa ?_;refine zZx [] [16] rfl ?_;intro n8 hn8;obtain rfl:=rlE (fun _=>rfl) l6 hn8;refine zAm rfl h (fun hb h=>?_) (fun hb h=>?_)
    ·refine zAf ?_;refine zAi ?_;refine zZx [] [20] rfl ?_;intro n9 hn9;obtain rfl:=rlE (fun _=>rfl) l6 hn9;obtain⟨⟨⟨e10Z,e10Aa,e10Ab,e10T⟩,e10B⟩,he10,h⟩:=zAc h;refine And.intro (zAq (fun _=>rfl) he10).1 ?_;refine yAD ?_;refine And.intro (zAq (fun _=>rfl) he10).2.2 ?_;refine⟨_,(zAq (fun _=>rfl) he10).2.1,?_⟩
     refine zAa ?_;refine zZx [] [35] rfl ?_;refine And.intro (zAq (fun _=>rfl) he10).2.2 ?_;refine⟨_,(zAq (fun _=>rfl) he10).2.1,?_⟩
     intro n11 hn11;obtain rfl:=rlE Nd.encs_eq e10T hn11;refine zAm rfl h (fun hb h=>?_) (fun hb h=>?_)
     ·refine zAa ?_;refine yAD ?_;show Tri ..;obtain⟨l12,hj,h⟩:=zAc h;refine zAn ⟨ofL [(3,.op 0 0),(4,.orow 2)],ofH [(0,.box 177 (zA1 (.op 0 39) (.orow 1))),(1,.row 5 1 ((List.map brow) l12)),(2,.row 180 2 ((List.map zAF) l6))],3⟩ ?_ (fun σ' hle=>?_)
      ·replace h:=hj;refine zAm rfl h (fun hb h=>?_) (fun hb h=>?_)
       ·refine yAC ?_;obtain⟨⟨_,b14⟩,hy13,h⟩:=zAc h;refine⟨_,_,⟨_,_,_,_,hy13,rfl,rfl,rfl,rfl⟩,?_⟩
        cases h;exact(Le.rnq [(0,0),(3,1),(2,2)] _ _ _)
       ·refine zAf ?_;cases h;exact(Le.rnq [(0,0),(1,1),(2,2)] _ _ _)
      ·refine zAj hle ?_;refine zZx [47] [45] rfl ?_;intro n15 hn15;obtain rfl:=rlE (fun _=>rfl) l6 hn15;obtain⟨hq,h⟩:=zAK h;refine And.intro ⟨hq.1,Int.le_trans hq.2 (Int.ofNat_le.2 (Nat.le_of_eq (rlen (fun _=>rfl) _).symm))⟩ ?_;show Tri ..
       refine zAj (Le.rnq [(0,0),(1,1),(3,2)] [(3,.op 0 0),(4,.orow 2)] [(0,.box 177 (zA1 (.op 0 39) (.orow 1))),(1,.row 5 1 ((List.map brow) l12)),(2,.row 180 2 ((List.map zAF) (l6.take (IntKind.i64.wrap ((l6.length:Int) - 1)).toNat)))] 3 (h2:=⟨rfl,⟨_,rfl,rfl⟩,rfl,⟨_,rfl,rfl⟩,rfl,⟨_,rfl,congrArg (Ob.row 180 2) zXJ⟩,trivial⟩)) ?_;refine zAB ?_
       refine⟨(k,l12,l6.take (IntKind.i64.wrap ((l6.length:Int) - 1)).toNat),h,(Le.rnq [(0,0),(1,1),(2,2)] _ _ _),Nat.lt_succ_self k⟩
     ·refine zAf ?_;refine yAD ?_;refine And.intro (zAq (fun _=>rfl) he10).2.2 ?_;refine⟨_,(zAq (fun _=>rfl) he10).2.1,?_⟩
      have hset16:=(rset (R:=(List.map zAF)) (f:=zAF) (fun _=>rfl) he10 (Nd.mk e10Z e10Aa e10Ab e10T,IntKind.i64.wrap (e10B+1)) 1 2 [.int .i64 (IntKind.i64.wrap (e10B+1))] rfl)
      have hat16:=at_set he10 (Nd.mk e10Z e10Aa e10Ab e10T,IntKind.i64.wrap (e10B+1))
      refine And.intro (zAq (fun _=>rfl) he10).2.2 ?_;refine zZx [] [63] rfl ?_;refine And.intro ((congrArg (fun r:List (List S)=>(IntKind.i64.wrap ((l6.length:Int) - 1)).toNat<r.length) hset16).mpr (zAq (fun _=>rfl) hat16).2.2) ?_;refine⟨_,(congrArg (fun r:List (List S)=>r.getD (IntKind.i64.wrap ((l6.length:Int) - 1)).toNat []) hset16).trans (zAq (fun _=>rfl) hat16).2.1,?_⟩
      obtain⟨⟨e17A,e17C,e17D,e17B⟩,he17,h⟩:=zAc h;refine And.intro (zAq Nd.encs_eq he17).1 ?_;intro r18 hr18;obtain rfl:[.int .i64 e17A,.str e17C,.int .i64 e17D,.sl 4 (Nd.encs e17B)]=r18:=(hr18.trans (zAq Nd.encs_eq he17).2.1).symm;show Tri ..
      refine zAj (Le.rnq [(0,0),(1,1),(2,2)] [(3,.op 0 0),(4,.orow 2),(6,.s (.int .i64 e10B)),(7,.s (.pt [.int .i64 e17A,.str e17C,.int .i64 e17D,.sl 4 (Nd.encs e17B)]))] [(0,.box 177 (zA1 (.op 0 39) (.orow 1))),(1,.row 5 1 ((List.map brow) l5)),(2,.row 180 2 ((List.map zAF) (l6.set (IntKind.i64.wrap ((l6.length:Int) - 1)).toNat (Nd.mk e10Z e10Aa e10Ab e10T,IntKind.i64.wrap (e10B+1)))))] 3 (h2:=⟨rfl,⟨_,rfl,rfl⟩,rfl,⟨_,rfl,rfl⟩,rfl,⟨_,rfl,congrArg (Ob.row 180 2) hset16⟩,trivial⟩)) ?_;refine zAa ?_;refine zA0 [] [69] [6] rfl (by decide +kernel) ?_
      obtain⟨c19,hc19,h⟩:=zAc h;refine And.intro (zCD hc19).1 ?_;intro v20 hv20;obtain rfl:(c19.toNat:Int)=v20:=(hv20.trans (zCD hc19).2).symm;obtain⟨⟨_,b22⟩,hy21,h⟩:=zAc h;refine⟨_,_,⟨_,_,_,_,hy21,rfl,rfl,rfl,rfl⟩,?_⟩
      refine yAD ?_;obtain⟨b23,hb23,h⟩:=zAc h;refine⟨_,_,(Or.inl ⟨_,_,_,_,hb23,rfl,rfl,rfl,rfl⟩),?_⟩
      refine zAb [78] [77] rfl ?_;intro r24 hr24;obtain rfl:(List.map zAF) [(Nd.mk e17A e17C e17D e17B,0)]=r24:=(hr24.trans zXJ).symm;obtain⟨hq,h⟩:=zAK h
      refine And.intro (show(((List.map zAF) (l6.set (IntKind.i64.wrap ((l6.length:Int) - 1)).toNat (Nd.mk e10Z e10Aa e10Ab e10T,IntKind.i64.wrap (e10B+1)))).length+((List.map zAF) [(Nd.mk e17A e17C e17D e17B,0)]).length) * 16<=140737488355328/\((List.map zAF) (l6.set (IntKind.i64.wrap ((l6.length:Int) - 1)).toNat (Nd.mk e10Z e10Aa e10Ab e10T,IntKind.i64.wrap (e10B+1)))).length+((List.map zAF) [(Nd.mk e17A e17C e17D e17B,0)]).length<=9223372036854775807 from by simp only[List.length_append,List.length_cons,List.length_nil,List.length_map,rlen (fun _=>rfl)]at hq ⊢; omega) ?_
      refine⟨(k,b23,(l6.set (IntKind.i64.wrap ((l6.length:Int) - 1)).toNat (Nd.mk e10Z e10Aa e10Ab e10T,IntKind.i64.wrap (e10B+1)))++[(Nd.mk e17A e17C e17D e17B,0)]),h,(Le.trans (Le.rnq [(0,0),(4,1),(5,2)] [(3,.op 0 0),(4,.orow 2)] [(0,.box 177 (zA1 (.op 0 39) (.orow 1))),(1,.row 5 1 ((List.map brow) b23)),(2,.row 180 2 ((List.map zAF) ((l6.set (IntKind.i64.wrap ((l6.length:Int) - 1)).toNat (Nd.mk e10Z e10Aa e10Ab e10T,IntKind.i64.wrap (e10B+1)))++[(Nd.mk e17A e17C e17D e17B,0)])))] 3 (h2:=⟨rfl,⟨_,rfl,rfl⟩,rfl,⟨_,rfl,rfl⟩,rfl,⟨_,rfl,congrArg (Ob.row 180 2) zXJ⟩,trivial⟩)) (Le.rnq [(0,0),(1,1),(2,2)] _ _ _)),Nat.lt_succ_self k⟩
    ·refine zAB ?_;cases h;exact(Le.rnq [(0,0),(1,1)] _ _ _)
 ·refine zAj hle ?_;refine yAD ?_;obtain⟨y25,hy25,h⟩:=zAc h;refine⟨_,_,⟨_,_,hy25,rfl,rfl,rfl,rfl⟩,?_⟩
  refine zAh ?_;have hy:=osi h;subst hy;exact fin0 rfl rfl
def zNC (xs:List AV) (os:List Ob) (x:AV) (os':List (Option Ob)):Prop:=∃ (a0:Int) (a1:Int) (z0:Int),zEO a0 a1=some z0/\xs=[.s (.int .i64 a0),.op 0 0]/\os=[.box 3 (((irow .i64) a1).map .s)]/\x = .tup []/\os'=[some (.box 3 (((irow .i64) z0).map .s))]
def zIt:zAp:=zB1 (fun xs os x os'=>zNC xs os x os')
theorem zMY:PSound Tryz.prog 50 zIt:=by
 have gok:=@gok0 Tryz.prog;refine PSound.withNil (osq tokW Tryz.call50 Tryz.func50 rfl ?_) _;rintro xs os x os' w0 G0 B0 ⟨a1,o2,z0,h,rfl,rfl,rfl,rfl⟩ _;rw[zEO]at h;refine yAC ?_;have hy:=osi h;subst hy;unfold zCA;exact⟨_,(Le.rnq [(0,0)] [] [(0,.box 3 [.s (.int .i64 (IntKind.i64.wrap (o2+1)))])] 1),rfl,rfl,rfl,rfl,trivial⟩
def zAM (p:(Nd×Int)):List S:=[.pt (Nd.enc p.1),.int .i64 p.2]
def zSg (n:Nat) (xs:List AV) (os:List Ob) (x:AV) (os':List (Option Ob)):Prop:=∃ (a0:Nd) (a1:Int) (z0:Int),zGV n a0 a1=some z0/\xs=[.s (.pt (Nd.enc a0)),.clo 50 [.op 0 0]]/\os=[.box 3 (((irow .i64) a1).map .s)]/\x = .tup []/\os'=[some (.box 3 (((irow .i64) z0).map .s))]
def zL9:zAp:=zB1 (fun xs os x os'=>∃ n,zSg n xs os x os')
theorem zXK {α:Type}{a b:α} (h:a=b:=by simp[List.map_append,List.map_take,List.map_drop,irow,brow,zF2,List.map_cons,List.map_nil,zFw,Nd.encs_eq,Nd.enc,zBH,zA5,zAF,zAM]):a=b :=
 h
theorem zRE:PSound Tryz.prog 49 zL9:=by
 have gok:∀ f s,look? f [(50,zIt)]=some s->PSound Tryz.prog f s:=zAo (by
  simp only[List.forall_mem_cons]
  exact⟨zMY,by simp⟩)
 refine PSound.withNil (osq tokW Tryz.call49 Tryz.func49 rfl ?_) _;rintro xs os x os' w0 G0 B0 ⟨n,⟨n1A,n1C,n1D,n1B⟩,o2,z0,h,rfl,rfl,rfl,rfl⟩ _;rw[zGV]at h;refine zZx [9] [] rfl ?_;show Tri ..
 refine zAj (Le.rnq [(0,0),(1,1)] [(1,.clo 50 [.op 0 0]),(4,.orow 1)] [(0,.box 3 [.s (.int .i64 o2)]),(1,.row 142 2 ((List.map zAM) [(Nd.mk n1A n1C n1D n1B,1)]))] 2 (h2:=⟨rfl,⟨_,rfl,rfl⟩,rfl,⟨_,rfl,congrArg (Ob.row 142 2) zXK⟩,trivial⟩)) ?_;obtain⟨x6,hl,h⟩:=zAc h;refine zAn ⟨ofL [],ofH [(0,.box 3 [.s (.int .i64 x6)])],1⟩ ?_ (fun σ' hle=>?_)
 ·refine zAi (zAy (X:=Nat×Int×(List (Nd×Int))) (fun y=>match y with | (k,x3,l5)=>⟨ofL [(1,.clo 50 [.op 0 0]),(4,.orow 1)],ofH [(0,.box 3 [.s (.int .i64 x3)]),(1,.row 142 2 ((List.map zAM) l5))],2⟩) (fun y=>zCy n y.1 y.2.1 y.2.2=some x6) (fun y=>y.1) (n,o2,[(Nd.mk n1A n1C n1D n1B,1)]) hl ?_ ?_)
  ·exact(Le.rnq [(0,0),(1,1)] _ _ _)
  ·rintro⟨k,x3,l5⟩ h;cases k with
   | zero=>cases h
   | succ k =>
    replace h:zCy n (k+1) x3 l5=some x6:=h;rw[zCy]at h;refine zAa ?_;refine zZx [] [11] rfl ?_;intro n7 hn7;obtain rfl:=rlE (fun _=>rfl) l5 hn7;refine zAm rfl h (fun hb h=>?_) (fun hb h=>?_)
    ·refine zAf ?_;refine zAi ?_;refine zZx [5] [15] rfl ?_;intro n8 hn8;obtain rfl:=rlE (fun _=>rfl) l5 hn8;obtain⟨⟨⟨e9Z,e9Aa,e9Ab,e9T⟩,e9Y⟩,he9,h⟩:=zAc h;refine And.intro (zAq (fun _=>rfl) he9).1 ?_;refine And.intro (zAq (fun _=>rfl) he9).2.2 ?_;refine⟨_,(zAq (fun _=>rfl) he9).2.1,?_⟩
     refine zAj (Le.giveBox 2 [.pt [.int .i64 e9Z,.str e9Aa,.int .i64 e9Ab,.sl 4 (Nd.encs e9T)],.int .i64 e9Y] rfl rfl) ?_;refine zZx [23] [21] rfl ?_;intro n10 hn10;obtain rfl:=rlE (fun _=>rfl) l5 hn10;obtain⟨hq,h⟩:=zAK h;refine And.intro ⟨hq.1,Int.le_trans hq.2 (Int.ofNat_le.2 (Nat.le_of_eq (rlen (fun _=>rfl) _).symm))⟩ ?_;show Tri ..
     refine zAj (Le.rnq [(0,0),(3,1)] [(1,.clo 50 [.op 0 0]),(4,.orow 1),(5,.s (.pt [.pt [.int .i64 e9Z,.str e9Aa,.int .i64 e9Ab,.sl 4 (Nd.encs e9T)],.int .i64 e9Y]))] [(0,.box 3 [.s (.int .i64 x3)]),(1,.row 142 2 ((List.map zAM) (l5.take (IntKind.i64.wrap ((l5.length:Int) - 1)).toNat)))] 2 (h2:=⟨rfl,⟨_,rfl,rfl⟩,rfl,⟨_,rfl,congrArg (Ob.row 142 2) zXK⟩,trivial⟩)) ?_;refine zAa ?_
     refine yAC ?_;obtain⟨w11,hw11,h⟩:=zAc h;refine⟨_,_,⟨_,_,_,hw11,rfl,rfl,rfl,rfl⟩,?_⟩
     refine zZx [] [33] rfl ?_;intro n12 hn12;obtain rfl:=rlE Nd.encs_eq e9T hn12;show Tri ..;obtain⟨l16,hl,h⟩:=zAc h;refine zAn ⟨ofL [(1,.clo 50 [.op 0 0]),(4,.orow 1)],ofH [(0,.box 3 [.s (.int .i64 w11)]),(1,.row 142 2 ((List.map zAM) l16))],2⟩ ?_ (fun σ' hle=>?_)
     ·refine zAi (zAy (X:=Nat×Int×(List (Nd×Int))) (fun y=>match y with | (k,x13,l15)=>⟨ofL [(1,.clo 50 [.op 0 0]),(4,.orow 1),(5,.s (.pt [.pt [.int .i64 e9Z,.str e9Aa,.int .i64 e9Ab,.sl 4 (Nd.encs e9T)],.int .i64 e9Y])),(33,.s (.int .i64 (e9T.length:Int))),(34,.s (.int .i64 x13))],ofH [(0,.box 3 [.s (.int .i64 w11)]),(1,.row 142 2 ((List.map zAM) l15))],2⟩) (fun y=>zCz e9T e9Y y.1 y.2.1 y.2.2=some l16) (fun y=>y.1) (n,0,l5.take (IntKind.i64.wrap ((l5.length:Int) - 1)).toNat) hl ?_ ?_)
      ·exact(Le.rnq [(0,0),(1,1)] _ _ _)
      ·rintro⟨k,x13,l15⟩ h;cases k with
       | zero=>cases h
       | succ k =>
        replace h:zCz e9T e9Y (k+1) x13 l15=some l16:=h;rw[zCz]at h;refine yAD ?_;refine zAa ?_;refine zAm rfl h (fun hb h=>?_) (fun hb h=>?_)
        ·refine zAf ?_;refine zAa ?_;refine zAi ?_;refine yAD ?_;show Tri ..;refine zA0 [50] [44,49] [13] rfl (by decide +kernel) ?_;obtain⟨⟨e17A,e17C,e17D,e17B⟩,he17,h⟩:=zAc h;refine And.intro (zAq Nd.encs_eq he17).1 ?_;intro r18 hr18;obtain rfl:[.int .i64 e17A,.str e17C,.int .i64 e17D,.sl 4 (Nd.encs e17B)]=r18:=(hr18.trans (zAq Nd.encs_eq he17).2.1).symm;intro r19 hr19
         obtain rfl:(List.map zAM) [(Nd.mk e17A e17C e17D e17B,IntKind.i64.wrap (e9Y+1))]=r19:=(hr19.trans zXK).symm;obtain⟨hq,h⟩:=zAK h
         refine And.intro (show(((List.map zAM) l15).length+((List.map zAM) [(Nd.mk e17A e17C e17D e17B,IntKind.i64.wrap (e9Y+1))]).length) * 16<=140737488355328/\((List.map zAM) l15).length+((List.map zAM) [(Nd.mk e17A e17C e17D e17B,IntKind.i64.wrap (e9Y+1))]).length<=9223372036854775807 from by simp only[List.length_append,List.length_cons,List.length_nil,List.length_map,rlen (fun _=>rfl)]at hq ⊢; omega) ?_;show Tri ..
         refine zAj (Le.rnq [(0,0),(2,1)] [(1,.clo 50 [.op 0 0]),(4,.orow 1),(5,.s (.pt [.pt [.int .i64 e9Z,.str e9Aa,.int .i64 e9Ab,.sl 4 (Nd.encs e9T)],.int .i64 e9Y])),(33,.s (.int .i64 (e9T.length:Int))),(34,.s (.int .i64 x13))] [(0,.box 3 [.s (.int .i64 w11)]),(1,.row 142 2 ((List.map zAM) (l15++[(Nd.mk e17A e17C e17D e17B,IntKind.i64.wrap (e9Y+1))])))] 2 (h2:=⟨rfl,⟨_,rfl,rfl⟩,rfl,⟨_,rfl,congrArg (Ob.row 142 2) zXK⟩,trivial⟩)) ?_
         refine yAC ?_;refine⟨(k,IntKind.i64.wrap (x13+1),l15++[(Nd.mk e17A e17C e17D e17B,IntKind.i64.wrap (e9Y+1))]),h,(Le.rnq [(0,0),(1,1)] _ _ _),Nat.lt_succ_self k⟩
        ·refine zAB ?_;cases h;exact(Le.rnq [(0,0),(1,1)] _ _ _)
     ·refine⟨(k,w11,l16),h,(Le.trans hle (Le.rnq [(0,0),(1,1)] _ _ _)),Nat.lt_succ_self k⟩
    ·refine zAB ?_;cases h;exact(Le.rnq [(0,0)] _ _ _)
 ·have hy:=osi h;subst hy;unfold zCA;exact⟨_,(Le.trans hle (Le.rnq [(0,0)] [] [(0,.box 3 [.s (.int .i64 x6)])] 1)),rfl,rfl,rfl,rfl,trivial⟩
def zQs (n:Nat) (xs:List AV) (r:Ret):Prop:=∃ (a0:Nd) (y0:Int),zD6 n a0=some y0/\xs=[.agg ((Nd.enc a0).map .s)]/\r = .val (.s (.int .i64 y0))
def zHq:zAp:=zAu fun xs r=>∃ n,zQs n xs r
theorem zJQ:PSound Tryz.prog 27 zHq:=by
 have gok:∀ f s,look? f [(49,zL9)]=some s->PSound Tryz.prog f s:=zAo (by
  simp only[List.forall_mem_cons]
  exact⟨zRE,by simp⟩)
 refine psq tokW Tryz.call27 Tryz.func27 rfl ?_;rintro xs r w0 G0 ⟨n,⟨n1A,n1C,n1D,n1B⟩,y0,h,rfl,rfl⟩ _;rw[zD6]at h;refine yAD ?_;refine zZx [3] [] rfl ?_;refine yAD ?_;obtain⟨w2,hw2,h⟩:=zAc h;refine⟨_,_,⟨_,_,_,_,hw2,rfl,rfl,rfl,rfl⟩,?_⟩
 refine yAD ?_;refine zAh ?_;have hy:=osi h;subst hy;exact fin0 rfl rfl
def zGq (n:Nat) (xs:List AV) (r:Ret):Prop:=∃ (a0:Nd) (a1:Int) (y0:Int),zDB n a0 a1=some y0/\xs=[.agg ((Nd.enc a0).map .s),.s (.int .i64 a1)]/\r = .val (.s (.int .i64 y0))
theorem zQb (n:Nat) (ih:PSound Tryz.prog 35 (zAu (zGq n))):PSound Tryz.prog 35 (zAu (zGq (n+1))):=by
 have gok:∀ f s,look? f [(35,zAu (zGq n))]=some s->PSound Tryz.prog f s:=zAo (by
  simp only[List.forall_mem_cons]
  exact⟨ih,by simp⟩)
 refine psq tokW Tryz.call35 Tryz.func35 rfl ?_;rintro xs r w0 G0 ⟨⟨n1A,n1C,n1D,n1B⟩,most2,y0,h,rfl,rfl⟩ _;rw[zDB]at h;refine yAD ?_;refine yAD ?_;refine zAa ?_;refine yAD ?_;show Tri ..;obtain⟨most5,hl,h⟩:=zAc h;refine zAn ⟨ofL [(1,.s (.int .i64 most5))],fun _=>none,0⟩ ?_ (fun σ' hle=>?_)
 ·refine zAi (zAy (X:=Nat×Int×Int) (fun y=>match y with | (k,most3,i4)=>⟨ofL [(1,.s (.int .i64 most3)),(2,.s (.pt [.int .i64 n1A,.str n1C,.int .i64 n1D,.sl 4 (Nd.encs n1B)])),(5,.s (.int .i64 i4))],fun _=>none,0⟩) (fun y=>zCr (zDB n) n1B y.1 y.2.1 y.2.2=some most5) (fun y=>y.1) (n,IntKind.i64.wrap (most2 - 1),0) hl ?_ ?_)
  ·exact Le.fgt
  ·rintro⟨k,most3,i4⟩ h;cases k with
   | zero=>cases h
   | succ k =>
    replace h:zCr (zDB n) n1B (k+1) most3 i4=some most5:=h;rw[zCr]at h;refine zAa ?_;refine zAa ?_;obtain⟨x6,hj,h⟩:=zAc h;refine zAn ⟨ofL [(1,.s (.int .i64 most3)),(2,.s (.pt [.int .i64 n1A,.str n1C,.int .i64 n1D,.sl 4 (Nd.encs n1B)])),(5,.s (.int .i64 i4)),(16,.s (.bool x6))],fun _=>none,0⟩ ?_ (fun σ' hle=>?_)
    ·replace h:=hj;refine zAb [] [11,13] rfl ?_;intro n7 hn7;obtain rfl:=rlE Nd.encs_eq n1B hn7;intro b hb;cases b with
     | true =>
      replace h:=zAw hb.symm h;cases h;exact Le.fgt
     | false =>
      replace h:=zAv hb.symm h;cases h;exact Le.fgt
    ·refine zAj hle ?_;refine zAm rfl h (fun hb h=>?_) (fun hb h=>?_)
     ·refine zAf ?_;refine zAa ?_;refine zAi ?_;refine zAb [] [22] rfl ?_;obtain⟨⟨e8A,e8C,e8D,e8B⟩,he8,h⟩:=zAc h;refine And.intro (zAq Nd.encs_eq he8).1 ?_;intro r9 hr9;obtain rfl:[.int .i64 e8A,.str e8C,.int .i64 e8D,.sl 4 (Nd.encs e8B)]=r9:=(hr9.trans (zAq Nd.encs_eq he8).2.1).symm;obtain⟨y10,hy10,h⟩:=zAc h;refine⟨_,⟨_,_,_,hy10,rfl,rfl⟩,?_⟩
      refine yAC ?_;refine⟨(k,y10,IntKind.i64.wrap (i4+1)),h,Le.fgt,Nat.lt_succ_self k⟩
     ·refine zAB ?_;cases h;exact Le.fgt
 ·refine zAj hle ?_;refine yAD ?_;refine zAh ?_;have hy:=osi h;subst hy;exact fin0 rfl rfl
theorem zQE:∀ n,PSound Tryz.prog 35 (zAu (zGq n)):=by
 intro n
 induction n with
 | zero=>exact zDr Tryz.call35 (fun xs r h=>by obtain⟨_,_,_,h,_⟩:=h; cases h)
 | succ n ih=>exact zQb n ih
def zN9:zAp:=zAu fun xs r=>∃ n,zGq n xs r
theorem zSP:PSound Tryz.prog 35 zN9:=zFk zQE
def zUX (n:Nat) (xs:List AV) (r:Ret):Prop:=∃ (a0:Nd) (a1:Int) (y0:Bool),zGD n a0 a1=some y0/\xs=[.agg ((Nd.enc a0).map .s),.s (.int .i64 a1)]/\r = .val (.s (.bool y0))
def zMc:zAp:=zAu fun xs r=>∃ n,zUX n xs r
theorem zOC:PSound Tryz.prog 16 zMc:=by
 have gok:∀ f s,look? f [(35,zN9)]=some s->PSound Tryz.prog f s:=zAo (by
  simp only[List.forall_mem_cons]
  exact⟨zSP,by simp⟩)
 refine psq tokW Tryz.call16 Tryz.func16 rfl ?_;rintro xs r w0 G0 ⟨n,⟨n1A,n1C,n1D,n1B⟩,most2,y0,h,rfl,rfl⟩ _;rw[zGD]at h;refine yAD ?_;refine yAD ?_;obtain⟨y3,hy3,h⟩:=zAc h;refine⟨_,⟨_,_,_,_,hy3,rfl,rfl⟩,?_⟩
 refine zAh ?_;have hy:=osi h;subst hy;exact fin0 rfl rfl
def zEz (n:Nat) (xs:List AV) (r:Ret):Prop:=∃ (a0:Nd) (a1:Nd) (y0:Bool),zCj n a0 a1=some y0/\xs=[.agg ((Nd.enc a0).map .s),.agg ((Nd.enc a1).map .s)]/\r = .val (.s (.bool y0))
def zDl (n:Nat) (xs:List AV) (r:Ret):Prop:=∃ (a0:List Nd) (a1:List Nd) (y0:Bool),zCM n a0 a1=some y0/\xs=[.s (.sl 4 (Nd.encs a0)),.s (.sl 4 (Nd.encs a1))]/\r = .val (.s (.bool y0))
theorem zN4 (n:Nat) (ih_r09_Equal:PSound Tryz.prog 12 (zAu (zEz n))) (ih_r09_SameItems:PSound Tryz.prog 30 (zAu (zDl n))):PSound Tryz.prog 12 (zAu (zEz (n+1))):=by
 have gok:∀ f s,look? f [(30,zAu (zDl n))]=some s->PSound Tryz.prog f s:=zAo (by
  simp only[List.forall_mem_cons]
  exact⟨ih_r09_SameItems,by simp⟩)
 refine psq tokW Tryz.call12 Tryz.func12 rfl ?_;rintro xs r w0 G0 ⟨⟨a1A,a1C,a1D,a1B⟩,⟨b2A,b2C,b2D,b2B⟩,y0,h,rfl,rfl⟩ _;rw[zCj]at h;refine yAD ?_;refine zAa ?_;obtain⟨x3,hj,h⟩:=zAc h;refine zAn ⟨ofL [(4,.s (.bool x3))],fun _=>none,0⟩ ?_ (fun σ' hle=>?_)
 ·replace h:=hj;refine zAb [] [10,17,24] rfl ?_;intro b hb;cases b with
  | true =>
   replace h:=zAw hb.symm h;intro b hb;cases b with
   | true =>
    replace h:=zAw hb.symm h;intro b hb;cases b with
    | true =>
     replace h:=zAw hb.symm h;obtain⟨y4,hy4,h⟩:=zAc h;refine⟨_,⟨_,_,_,hy4,rfl,rfl⟩,?_⟩
     cases h;exact Le.fgt
    | false =>
     replace h:=zAv hb.symm h;cases h;exact Le.fgt
   | false =>
    replace h:=zAv hb.symm h;intro b hb;subst hb;cases h;exact Le.fgt
  | false =>
   replace h:=zAv hb.symm h;intro b hb;subst hb;intro b hb;subst hb;cases h;exact Le.fgt
 ·refine zAj hle ?_;refine zAh ?_;have hy:=osi h;subst hy;exact fin0 rfl rfl
theorem zJ4 (n:Nat) (ih_r09_Equal:PSound Tryz.prog 12 (zAu (zEz n))) (ih_r09_SameItems:PSound Tryz.prog 30 (zAu (zDl n))):PSound Tryz.prog 30 (zAu (zDl (n+1))):=by
 have gok:∀ f s,look? f [(12,zAu (zEz n))]=some s->PSound Tryz.prog f s:=zAo (by
  simp only[List.forall_mem_cons]
  exact⟨ih_r09_Equal,by simp⟩)
 refine psq tokW Tryz.call30 Tryz.func30 rfl ?_;rintro xs r w0 G0 ⟨a1,b2,y0,h,rfl,rfl⟩ _;rw[zCM]at h;refine yAD ?_;refine zAa ?_;refine zZx [] [7,9] rfl ?_;intro n3 hn3;obtain rfl:=rlE Nd.encs_eq a1 hn3;intro n4 hn4;obtain rfl:=rlE Nd.encs_eq b2 hn4;refine zAm rfl h (fun hb h=>?_) (fun hb h=>?_)
 ·refine yAD ?_;refine zAh ?_;have hy:=osi h;subst hy;exact fin0 rfl rfl
 ·refine zAf ?_;refine zAa ?_;refine yAD ?_;show Tri ..;obtain⟨fl,hl,ho1⟩:=zAc h;refine zF9 (fl:=fl) (fun z=>match z with | _=>⟨ofL [],fun _=>none,0⟩) ?_ (fun z σ' hz hle=>?_)
  ·refine zAi (zAy (X:=Nat×Int) (fun y=>match y with | (k,i5)=>⟨ofL [(0,.s (.sl 4 (Nd.encs a1))),(1,.s (.sl 4 (Nd.encs b2))),(5,.s (.int .i64 i5))],fun _=>none,0⟩) (fun y=>zBG (zCj n) a1 b2 y.1 y.2=some fl) (fun y=>y.1) (n,0) hl ?_ ?_)
   ·exact Le.fgt
   ·rintro⟨k,i5⟩ h;cases k with
    | zero=>cases h
    | succ k =>
     replace h:zBG (zCj n) a1 b2 (k+1) i5=some fl:=h;rw[zBG]at h;refine zAa ?_;refine zZx [] [13] rfl ?_;intro n6 hn6;obtain rfl:=rlE Nd.encs_eq a1 hn6;refine zAm rfl h (fun hb h=>?_) (fun hb h=>?_)
     ·refine zAf ?_;refine zAa ?_;refine zAi ?_;refine zAa ?_;refine zA0 [] [19,23] [] rfl (by decide +kernel) ?_;obtain⟨⟨e7A,e7C,e7D,e7B⟩,he7,h⟩:=zAc h;refine And.intro (zAq Nd.encs_eq he7).1 ?_;intro r8 hr8;obtain rfl:[.int .i64 e7A,.str e7C,.int .i64 e7D,.sl 4 (Nd.encs e7B)]=r8:=(hr8.trans (zAq Nd.encs_eq he7).2.1).symm;obtain⟨⟨e9A,e9C,e9D,e9B⟩,he9,h⟩:=zAc h;refine And.intro (zAq Nd.encs_eq he9).1 ?_;intro r10 hr10
      obtain rfl:[.int .i64 e9A,.str e9C,.int .i64 e9D,.sl 4 (Nd.encs e9B)]=r10:=(hr10.trans (zAq Nd.encs_eq he9).2.1).symm;obtain⟨y11,hy11,h⟩:=zAc h;refine⟨_,⟨_,_,_,hy11,rfl,rfl⟩,?_⟩
      refine zAm rfl h (fun hb h=>?_) (fun hb h=>?_)
      ·refine yAD ?_;refine zAh ?_;cases h;replace h:some _=some _:=ho1;have hy:=osi h;subst hy;exact fin0 rfl rfl
      ·refine zAf ?_;refine yAC ?_;refine⟨(k,IntKind.i64.wrap (i5+1)),h,Le.fgt,Nat.lt_succ_self k⟩
     ·refine zAB ?_;cases h;exact⟨_,rfl,Le.fgt⟩
  ·subst hz;obtain _:=z;replace h:=ho1;refine zAj hle ?_;refine yAD ?_;refine zAh ?_;have hy:=osi h;subst hy;exact fin0 rfl rfl
theorem zNH:∀ n,PSound Tryz.prog 12 (zAu (zEz n))/\PSound Tryz.prog 30 (zAu (zDl n)):=by
 intro n
 induction n with
 | zero =>
  refine⟨?_,?_⟩
  ·exact zDr Tryz.call12 (fun xs r h=>by obtain⟨_,_,_,h,_⟩:=h; rw[zCj]at h; cases h)
  ·exact zDr Tryz.call30 (fun xs r h=>by obtain⟨_,_,_,h,_⟩:=h; rw[zCM]at h; cases h)
 | succ n ih =>
  obtain⟨ih_r09_Equal,ih_r09_SameItems⟩:=ih;exact⟨zN4 n ih_r09_Equal ih_r09_SameItems,zJ4 n ih_r09_Equal ih_r09_SameItems⟩
def zMb:zAp:=zAu fun xs r=>∃ n,zEz n xs r
theorem zRG:PSound Tryz.prog 12 zMb:=zFk (fun n=>(zNH n).1)
def zSi (xs:List AV) (r:Ret):Prop:=∃ (a0:List Nd) (y0:Nd),zGW a0=some y0/\xs=[.s (.sl 4 (Nd.encs a0))]/\r = .val (.agg ((Nd.enc y0).map .s))
def zMd:zAp:=zAu fun xs r=>zSi xs r
theorem zRH:PSound Tryz.prog 17 zMd:=by
 have gok:=@gok0 Tryz.prog;refine psq tokW Tryz.call17 Tryz.func17 rfl ?_;rintro xs r w0 G0 ⟨l1,y0,h,rfl,rfl⟩ _;rw[zGW]at h;refine zZx [2] [] rfl ?_;refine yAD ?_;refine zAh ?_;have hy:=osi h;subst hy;exact fin0 rfl rfl
def zAk (p:zO8):List S:=[.int .i64 p.1,.sl 1 ((List.map (irow .i64)) p.2.1),.int .i64 p.2.2.1,.int .i64 p.2.2.2.1,.sl 4 (Nd.encs p.2.2.2.2.1),.int .i64 p.2.2.2.2.2.1,.str p.2.2.2.2.2.2.1,.str p.2.2.2.2.2.2.2]
def zUY (n:Nat) (xs:List AV) (r:Ret):Prop:=∃ (a0:zO8) (y0:Bool),zHF n a0=some y0/\xs=[.agg ((zAk a0).map .s)]/\r = .val (.s (.bool y0))
def zQB:zAp:=zAu fun xs r=>∃ n,zUY n xs r
theorem zUz:PSound Tryz.prog 6 zQB:=by
 have gok:∀ f s,look? f [(17,zMd),(16,zMc)]=some s->PSound Tryz.prog f s:=zAo (by
  simp only[List.forall_mem_cons]
  exact⟨zRH,zOC,by simp⟩)
 refine psq tokW Tryz.call6 Tryz.func6 rfl ?_;rintro xs r w0 G0 ⟨n,⟨op1A,op1I,op1L,op1J,op1E,op1K,op1H,op1C⟩,y0,h,rfl,rfl⟩ _;rw[zHF]at h;refine yAD ?_;refine zAa ?_;obtain⟨x2,hj,h⟩:=zAc h;refine zAn ⟨ofL [(2,.s (.bool x2))],fun _=>none,0⟩ ?_ (fun σ' hle=>?_)
 ·replace h:=hj;refine zAb [] [7,10] rfl ?_;obtain⟨⟨y3A,y3C,y3D,y3B⟩,hy3,h⟩:=zAc h;refine⟨_,⟨_,_,hy3,rfl,rfl⟩,?_⟩
  obtain⟨y4,hy4,h⟩:=zAc h;refine⟨_,⟨_,_,_,_,hy4,rfl,rfl⟩,?_⟩
  intro b hb;cases b with
  | true =>
   replace h:=zAw hb.symm h;intro n5 hn5;obtain rfl:=rlE (fun _=>rfl) op1I hn5;cases h;exact Le.fgt
  | false =>
   replace h:=zAv hb.symm h;cases h;exact Le.fgt
 ·refine zAj hle ?_;refine zAh ?_;have hy:=osi h;subst hy;exact fin0 rfl rfl
def zQq (n:Nat) (xs:List AV) (r:Ret):Prop:=∃ (a0:Nd) (a1:Nd) (y0:Bool),zD5 n a0 a1=some y0/\xs=[.agg ((Nd.enc a0).map .s),.agg ((Nd.enc a1).map .s)]/\r = .val (.s (.bool y0))
def zHm:zAp:=zAu fun xs r=>∃ n,zQq n xs r
theorem zJO:PSound Tryz.prog 21 zHm:=by
 have gok:∀ f s,look? f [(18,zDm)]=some s->PSound Tryz.prog f s:=zAo (by
  simp only[List.forall_mem_cons]
  exact⟨zDC,by simp⟩)
 refine psq tokW Tryz.call21 Tryz.func21 rfl ?_;rintro xs r w0 G0 ⟨n,⟨a1A,a1C,a1D,a1B⟩,⟨b2A,b2C,b2D,b2B⟩,y0,h,rfl,rfl⟩ _;rw[zD5]at h;refine yAD ?_;refine zAa ?_;obtain⟨x3,hj,h⟩:=zAc h;refine zAn ⟨ofL [(4,.s (.bool x3))],fun _=>none,0⟩ ?_ (fun σ' hle=>?_)
 ·replace h:=hj;refine zAb [] [7] rfl ?_;obtain⟨y4,hy4,h⟩:=zAc h;refine⟨_,⟨_,_,_,hy4,rfl,rfl⟩,?_⟩
  intro b hb;cases b with
  | true =>
   replace h:=zAw hb.symm h;obtain⟨y5,hy5,h⟩:=zAc h;refine⟨_,⟨_,_,_,hy5,rfl,rfl⟩,?_⟩
   cases h;exact Le.fgt
  | false =>
   replace h:=zAv hb.symm h;cases h;exact Le.fgt
 ·refine zAj hle ?_;refine zAh ?_;have hy:=osi h;subst hy;exact fin0 rfl rfl
def zQp (n:Nat) (xs:List AV) (r:Ret):Prop:=∃ (a0:List Nd) (y0:List Int),zD4 n a0=some y0/\xs=[.s (.sl 4 (Nd.encs a0))]/\r = .row 3 1 ((List.map (irow .i64)) y0)
def zKZ:zAp:=zAu fun xs r=>∃ n,zQp n xs r
theorem zPN:PSound Tryz.prog 47 zKZ:=by
 have gok:∀ f s,look? f [(27,zHq)]=some s->PSound Tryz.prog f s:=zAo (by
  simp only[List.forall_mem_cons]
  exact⟨zJQ,by simp⟩)
 refine psq tokW Tryz.call47 Tryz.func47 rfl ?_;rintro xs r w0 G0 ⟨n,l1,y0,h,rfl,rfl⟩ _;rw[zD4]at h;refine zZx [2] [] rfl ?_;refine zAj (Le.rnq [] [(0,.s (.sl 4 (Nd.encs l1)))] [] 0) ?_;refine zZx [7] [6] rfl ?_;intro n2 hn2;obtain rfl:=rlE Nd.encs_eq l1 hn2;obtain⟨hq,h⟩:=zAK h;refine And.intro (show 0<=(l1.length:Int)/\(l1.length:Int)<=(l1.length:Int)/\(l1.length:Int) * ((8:Nat):Int)<=281474976710656/\(l1.length:Int)<=281474976710656 from⟨hq.1,Int.le_refl _,by have h1:=hq.1; have h2:=hq.2; omega,by have h2:=hq.2; omega⟩) ?_;show Tri ..
 refine zAj (Le.rnq [(0,0)] [(0,.s (.sl 4 (Nd.encs l1))),(3,.orow 0)] [(0,.row 3 1 ((List.map (irow .i64)) (List.replicate (l1.length:Int).toNat 0)))] 1 (h2:=⟨rfl,⟨_,rfl,congrArg (Ob.row 3 1) (by simp[List.map_append,List.map_take,List.map_drop,irow,brow,zF2,List.map_cons,List.map_nil,zFw,Nd.encs_eq,Nd.enc,zBH,zA5,zAF,zAM,zAk])⟩,trivial⟩)) ?_;refine zAa ?_;refine zZx [] [9] rfl ?_;intro n3 hn3;obtain rfl:=rlE Nd.encs_eq l1 hn3;show Tri ..;obtain⟨l6,hl,h⟩:=zAc h
 refine zAn ⟨ofL [(3,.orow 0)],ofH [(0,.row 3 1 ((List.map (irow .i64)) l6))],1⟩ ?_ (fun σ' hle=>?_)
 ·refine zAi (zAy (X:=Nat×Int×(List Int)) (fun y=>match y with | (k,x4,l5)=>⟨ofL [(0,.s (.sl 4 (Nd.encs l1))),(3,.orow 0),(9,.s (.int .i64 (l1.length:Int))),(10,.s (.int .i64 x4))],ofH [(0,.row 3 1 ((List.map (irow .i64)) l5))],1⟩) (fun y=>zCh n l1 y.1 y.2.1 y.2.2=some l6) (fun y=>y.1) (n,0,List.replicate (l1.length:Int).toNat 0) hl ?_ ?_)
  ·exact(Le.rnq [(0,0)] _ _ _)
  ·rintro⟨k,x4,l5⟩ h;cases k with
   | zero=>cases h
   | succ k =>
    replace h:zCh n l1 (k+1) x4 l5=some l6:=h;rw[zCh]at h;refine yAD ?_;refine zAa ?_;refine zAm rfl h (fun hb h=>?_) (fun hb h=>?_)
    ·refine zAf ?_;refine zAa ?_;refine zAi ?_;refine yAD ?_;refine zAb [] [17] rfl ?_;obtain⟨⟨e7A,e7C,e7D,e7B⟩,he7,h⟩:=zAc h;refine And.intro (zAq Nd.encs_eq he7).1 ?_;intro r8 hr8;obtain rfl:[.int .i64 e7A,.str e7C,.int .i64 e7D,.sl 4 (Nd.encs e7B)]=r8:=(hr8.trans (zAq Nd.encs_eq he7).2.1).symm;obtain⟨y9,hy9,h⟩:=zAc h;refine⟨_,⟨_,_,_,hy9,rfl,rfl⟩,?_⟩
     obtain⟨e10,he10,h⟩:=zAc h;refine And.intro (zAq (fun _=>rfl) he10).1 ?_;have hset11:=(rset (R:=(List.map (irow .i64))) (f:=(irow .i64)) (fun _=>rfl) he10 y9 0 1 [.int .i64 y9] rfl)
     have hat11:=at_set he10 y9;refine And.intro (zAq (fun _=>rfl) he10).2.2 ?_;refine zAj (Le.rnq [(0,0)] [(0,.s (.sl 4 (Nd.encs l1))),(3,.orow 0),(9,.s (.int .i64 (l1.length:Int))),(10,.s (.int .i64 x4))] [(0,.row 3 1 ((List.map (irow .i64)) (l5.set x4.toNat y9)))] 1 (h2:=⟨rfl,⟨_,rfl,congrArg (Ob.row 3 1) hset11⟩,trivial⟩)) ?_;refine yAC ?_;refine⟨(k,IntKind.i64.wrap (x4+1),l5.set x4.toNat y9),h,(Le.rnq [(0,0)] _ _ _),Nat.lt_succ_self k⟩
    ·refine zAB ?_;cases h;exact(Le.rnq [(0,0)] _ _ _)
 ·refine zAj hle ?_;refine yAD ?_;refine zAh ?_;have hy:=osi h;subst hy;unfold zC4;exact⟨_,Le.refl _ _,0,rfl,rfl⟩
theorem zTg {l:List Nd}{i:Nat}{x:Nd} (h:l[i]? = some x):(Nd.encs l).getD i []=Nd.enc x:=by
 simp[Nd.encs_eq,List.getD_eq_getElem?_getD,h]
theorem zVJ:∀ (l:List Int),∃ v vs,zAR l=v::vs
 | []=>⟨_,_,rfl⟩
 | _::_=>⟨_,_,rfl⟩
theorem zP3 {F:Nd->Nd->Option Int}{b:List Nd}{other:List Int}:∀ {xs:List Nd}{fs:List Int}{p:List (List Int)×List (List Int)},zAC F b other xs fs=some p->xs.length=fs.length
 | [],[],_,_=>rfl
 | [],_::_,_,h=>by simp[zAC]at h
 | _::_,[],_,h=>by simp[zAC]at h
 | x::xs,f::fs,p,h=>by
  simp only[zAC]at h;obtain⟨q,hq,_⟩:=zAc h;simp[zP3 hq]
theorem zRS {F:Nd->Nd->Option Int}{b:List Nd}{other:List Int}:∀ {xs:List Nd}{fs:List Int}{p:List (List Int)×List (List Int)},zAC F b other xs fs=some p->∀ i,i<=xs.length->∃ q,zAC F b other (xs.drop i) (fs.drop i)=some q
 | xs,fs,p,h,0,_=>⟨p,h⟩
 | [],_,_,_,i+1,hi=>by simp at hi
 | _::_,[],_,h,_+1,_=>by simp[zAC]at h
 | x::xs,f::fs,p,h,i+1,hi=>by
  simp only[zAC]at h;obtain⟨q,hq,_⟩:=zAc h;exact zRS hq i (by simpa using hi)
theorem zSS {F:Nd->Nd->Option Int}{x:Nd}{f:Int}:∀ {ys:List Nd}{os vs:List Int}{p:List Int×List Int},zAr F x f ys os vs=some p->os.length=ys.length/\vs.length=ys.length+1/\p.1.length=ys.length+1/\p.2.length=ys.length
 | [],[],[v],p,h=>by simp only[zAr,Option.some.injEq]at h; subst h; simp
 | y::ys,o::os,v::v2::vs,p,h=>by
  simp only[zAr]at h;obtain⟨q,hq,h⟩:=zAc h;obtain⟨c,hc,h⟩:=zAc h;have:=zSS hq;simp only[Option.some.injEq]at h;subst h;simp only[List.length_cons]at this ⊢
  omega
 | [],[],[],_,h=>by simp[zAr]at h
 | [],[],_::_::_,_,h=>by simp[zAr]at h
 | [],_::_,_,_,h=>by simp[zAr]at h
 | _::_,[],_,_,h=>by simp[zAr]at h
 | _::_,_::_,[],_,h=>by simp[zAr]at h
 | _::_,_::_,[_],_,h=>by simp[zAr]at h
theorem row_drop {F:Nd->Nd->Option Int}{x:Nd}{f:Int}:∀ {ys:List Nd}{os vs:List Int}{p:List Int×List Int},zAr F x f ys os vs=some p->∀ j,j<=ys.length->∃ q,zAr F x f (ys.drop j) (os.drop j) (vs.drop j)=some q
 | ys,os,vs,p,h,0,_=>⟨p,h⟩
 | y::ys,o::os,v::v2::vs,p,h,j+1,hj=>by
  simp only[zAr]at h;obtain⟨q,hq,_⟩:=zAc h;exact row_drop hq j (by simpa using hj)
 | [],_,_,_,_,j+1,hj=>by simp at hj
 | _::_,[],_,_,h,_+1,_=>by simp[zAr]at h
 | _::_,_::_,[],_,h,_+1,_=>by simp[zAr]at h
 | _::_,_::_,[_],_,h,_+1,_=>by simp[zAr]at h
def zAN (p:List Int):List S:=[.sl 1 ((List.map (irow .i64)) p)]
def zEh (p:(List (List Int)×List (List Int)×List Int×List Int)):List S:=[.sl 1 ((List.map zAN) p.1),.sl 1 ((List.map zAN) p.2.1),.sl 1 ((List.map (irow .i64)) p.2.2.1),.sl 1 ((List.map (irow .i64)) p.2.2.2)]
def zEy (n:Nat) (xs:List AV) (r:Ret):Prop:=∃ (a0:List Nd) (a1:List Nd) (y0:(List (List Int)×List (List Int)×List Int×List Int)),zCg n a0 a1=some y0/\xs=[.s (.sl 4 (Nd.encs a0)),.s (.sl 4 (Nd.encs a1))]/\r = .val (.agg ((zEh y0).map .s))
def zDJ (n:Nat) (xs:List AV) (r:Ret):Prop:=∃ (a0:Nd) (a1:Nd) (y0:Int),zBM n a0 a1=some y0/\xs=[.s (.pt (Nd.enc a0)),.s (.pt (Nd.enc a1))]/\r = .val (.s (.int .i64 y0))
theorem zN3 (n:Nat) (ih_diff_fill:PSound Tryz.prog 26 (zAu (zEy n))) (ih_diff_pairing:PSound Tryz.prog 48 (zAu (zDJ n))):PSound Tryz.prog 26 (zAu (zEy (n+1))):=by
 have gok:∀ f s,look? f [(47,zKZ),(48,zAu (zDJ n))]=some s->PSound Tryz.prog f s:=zAo (by
  simp only[List.forall_mem_cons]
  exact⟨zPN,ih_diff_pairing,by simp⟩)
 refine psq tokW Tryz.call26 Tryz.func26 rfl ?_;rintro xs r w0 G0 ⟨a,b,y0,h,rfl,rfl⟩ _;rw[zCg]at h;obtain⟨first,hfirst,h⟩:=zAc h;obtain⟨other,hother,h⟩:=zAc h;obtain⟨hlen,h⟩:=zAK h;obtain⟨p,hp,h⟩:=zAc h;refine zZx [4] [] rfl ?_;refine zZx [5] [] rfl ?_;refine⟨_,⟨_,_,_,hfirst,rfl,rfl⟩,?_⟩
 refine⟨_,⟨_,_,_,hother,rfl,rfl⟩,?_⟩
 refine zZx [5] [15,16] rfl ?_;intro n1 hn1;obtain rfl:=rlE Nd.encs_eq a hn1;intro n2 hn2;obtain rfl:((a.length+1:Nat):Int)=n2:=(hn2.trans (zAP (by omega))).symm;refine And.intro (show 0<=_/\_ from⟨by omega,Int.le_refl _,show((a.length+1:Nat):Int) * ((24:Nat):Int)<=281474976710656 by omega,by omega⟩) ?_;refine zZx [5] [20] rfl ?_;intro n1 hn1;have e1:(a.length:Int)=n1:=(hn1.trans (congrArg (fun m:Nat=>(m:Int)) (rlen Nd.encs_eq a))).symm;subst e1
 refine And.intro (show 0<=_/\_ from⟨by omega,Int.le_refl _,show((a.length:Nat):Int) * ((24:Nat):Int)<=281474976710656 by omega,by omega⟩) ?_;refine zAa ?_;refine zZx [5] [24] rfl ?_;intro n1 hn1;have e1:(a.length:Int)=n1:=(hn1.trans (congrArg (fun m:Nat=>(m:Int)) (rlen Nd.encs_eq a))).symm;subst e1;show Tri ..
 refine zAn ⟨ofL [(0,.s (.sl 4 (Nd.encs a))),(1,.s (.sl 4 (Nd.encs b))),(4,.op 0 0),(5,.op 1 0)],ofH [(0,.box 58 [.nl 1,.nl 1,.nl 1,.nl 1]),(1,.box 58 [.orow 2,.orow 3,.s (.sl 1 (first.map (irow .i64))),.s (.sl 1 (other.map (irow .i64)))]),(2,.arow 28 1 (zAD p.1)),(3,.arow 28 1 (zAD p.2))],4⟩ ?_ (fun σ' hle=>?_)
 ·refine zAi (zAy (X:=Nat×List (List Int)×List (List Int)) (fun y=>match y with | (k,L,P)=>⟨ofL [(0,.s (.sl 4 (Nd.encs a))),(1,.s (.sl 4 (Nd.encs b))),(4,.op 0 0),(5,.op 1 0),(6,.s (.int .i64 ((k:Int) - 1)))],ofH [(0,.box 58 [.nl 1,.nl 1,.nl 1,.nl 1]),(1,.box 58 [.orow 2,.orow 3,.s (.sl 1 (first.map (irow .i64))),.s (.sl 1 (other.map (irow .i64)))]),(2,.arow 28 1 (nils k++zAD L)),(3,.arow 28 1 (nils (min k a.length)++zAD P))],4⟩)
   (fun y=>match y with | (k,L,P)=>(k=a.length+1/\L=[]/\P=[])∨(k<=a.length/\zAC (zBM n) b other (a.drop k) (first.drop k)=some (L,P))) (fun y=>y.1) (a.length+1,[],[]) (.inl ⟨rfl,rfl,rfl⟩) ?_ ?_)
  ·refine Le.trans (Le.toA 2 rfl) (Le.trans (Le.toA 3 rfl) (Le.rename [(0,0),(1,1),(2,2),(3,3)] _ _ 4 ⟨rfl,rfl,rfl,rfl,?_,trivial⟩ ⟨rfl,⟨_,rfl,rfl⟩,rfl,⟨_,rfl,rfl⟩,rfl,⟨_,rfl,?_⟩,rfl,⟨_,rfl,?_⟩,trivial⟩ rfl rfl rfl (by simp only[ltH,Ob.lt,zGU]; rfl) rfl))
   ·show AV.s (.int .i64 _)=AV.s (.int .i64 _)
    congr 2; omega
   ·show Ob.arow 28 1 (((List.replicate (a.length+1) [S.sl 1 []]).map (·.map AV.s)).map (AV.renAll _))=_;rw[zTW,zG0]; simp[zAD]
   ·show Ob.arow 28 1 (((List.replicate a.length [S.sl 1 []]).map (·.map AV.s)).map (AV.renAll _))=_;rw[zTW,zG0]; simp[zAD]
  ·rintro⟨k,L,P⟩ hI;refine zAa ?_;refine zZx [] [26] rfl ?_;intro b26 h26;refine zAx rfl (fun hb=>?_) (fun hb=>?_)
   ·refine zAf ?_;show Tri ..;have hk:1<=k:=by
     rw[h26]at hb;have:=of_decide_eq_true hb; omega
    obtain⟨i,rfl⟩:∃ i,k=i+1:=⟨k - 1,by omega⟩
    refine zAj (Le.forget [(0,.s (.sl 4 (Nd.encs a))),(1,.s (.sl 4 (Nd.encs b))),(4,.op 0 0),(5,.op 1 0),(6,.s (.int .i64 (i:Int)))] ⟨rfl,rfl,rfl,rfl,congrArg (fun z=>AV.s (.int .i64 z)) (by omega),trivial⟩) ?_;refine zAa ?_;refine zAi ?_;refine zAa ?_;refine zKb [35] [33,34] [1,6,7,8] [1,7] rfl (by decide +kernel) ?_;intro n1 hn1;obtain rfl:=rlE Nd.encs_eq b hn1;intro n2 hn2;obtain rfl:((b.length+1:Nat):Int)=n2:=(hn2.trans (zAP (by omega))).symm;refine And.intro (show 0<=_/\_ from⟨by omega,Int.le_refl _,show((b.length+1:Nat):Int) * ((8:Nat):Int)<=281474976710656 by omega,by omega⟩) ?_
    have hlt1:i<(nils (i+1)++zAD L).length :=(by simp[nils]; omega);refine And.intro ⟨Int.natCast_nonneg _,Int.ofNat_lt.2 hlt1⟩ ?_;refine And.intro hlt1 ?_
    refine zAj (σ':=⟨ofL [(0,.s (.sl 4 (Nd.encs a))),(1,.s (.sl 4 (Nd.encs b))),(4,.op 0 0),(5,.op 1 0),(6,.s (.int .i64 (i:Int)))],ofH [(0,.box 58 [.nl 1,.nl 1,.nl 1,.nl 1]),(1,.box 58 [.orow 2,.orow 3,.s (.sl 1 (first.map (irow .i64))),.s (.sl 1 (other.map (irow .i64)))]),(2,.arow 28 1 (nils i++[.orow 4]::zAD L)),(3,.arow 28 1 (nils (min (i+1) a.length)++zAD P)),(4,.row 3 1 ((List.replicate (b.length+1) 0).map (irow .i64)))],5⟩) (Le.rename [(0,0),(1,1),(2,2),(3,3),(4,4)] _ _ 5 ⟨rfl,rfl,rfl,rfl,rfl,trivial⟩ ⟨rfl,⟨_,rfl,rfl⟩,rfl,⟨_,rfl,rfl⟩,rfl,⟨_,rfl,?_⟩,rfl,⟨_,rfl,?_⟩,rfl,⟨_,rfl,?_⟩,trivial⟩ rfl rfl rfl ?_ rfl) ?_
    ·show Ob.arow 28 1 (List.map (AV.renAll _) ((nils (i+1)++zAD L).set i (((nils (i+1)++zAD L).getD i []).take 0++[AV.orow 4]++((nils (i+1)++zAD L).getD i []).drop 1)))=_;rw[zQ8,show([AV.s (S.sl 1 [])].take 0++[AV.orow 4]++[AV.s (S.sl 1 [])].drop 1)=[AV.orow 4] from rfl,zTN]
     simp[zG0,zFM,AV.renAll,AV.ren,look]
     rfl
    ·show Ob.arow 28 1 (List.map (AV.renAll _) (nils (min (i+1) a.length)++zAD P))=_;simp[zG0,zFM]
    ·show Ob.row 3 1 (List.replicate (b.length+1) [S.int .i64 0])=_;simp[irow]
    ·simp only[ltH,Ob.lt,zGU,lt_1]; rfl
    rcases hI with ⟨hin,rfl,rfl⟩ | ⟨hin,hrows⟩
    ·obtain rfl:i=a.length :=(by omega);refine zAa ?_;refine zZx [] [39,40] rfl ?_;intro n1 hn1;obtain rfl:=rlE Nd.encs_eq a hn1;intro b40 h40;obtain rfl:false=b40:=(h40.trans (decide_eq_false (Int.lt_irrefl _))).symm;refine zAx rfl (fun h=>by cases h) (fun _=>?_)
     refine zAf ?_;refine zZx [] [49] rfl ?_;intro n1 hn1;obtain rfl:=rlE Nd.encs_eq b hn1;show Tri ..;refine zAn ⟨ofL [(0,.s (.sl 4 (Nd.encs a))),(1,.s (.sl 4 (Nd.encs b))),(4,.op 0 0),(5,.op 1 0),(6,.s (.int .i64 (a.length:Int)))],ofH [(0,.box 58 [.nl 1,.nl 1,.nl 1,.nl 1]),(1,.box 58 [.orow 2,.orow 3,.s (.sl 1 (first.map (irow .i64))),.s (.sl 1 (other.map (irow .i64)))]),(2,.arow 28 1 (nils a.length++[.orow 4]::zAD [])),(3,.arow 28 1 (nils (min (a.length+1) a.length)++zAD [])),(4,.row 3 1 ((zAR other).map (irow .i64)))],5⟩ ?_ (fun σ' hle=>?_)
     ·refine zAi (zAy (X:=Nat×List Int) (fun y=>match y with | (k,rd)=>⟨ofL [(0,.s (.sl 4 (Nd.encs a))),(1,.s (.sl 4 (Nd.encs b))),(4,.op 0 0),(5,.op 1 0),(6,.s (.int .i64 (a.length:Int))),(7,.s (.int .i64 ((k:Int) - 1)))],ofH [(0,.box 58 [.nl 1,.nl 1,.nl 1,.nl 1]),(1,.box 58 [.orow 2,.orow 3,.s (.sl 1 (first.map (irow .i64))),.s (.sl 1 (other.map (irow .i64)))]),(2,.arow 28 1 (nils a.length++[.orow 4]::zAD [])),(3,.arow 28 1 (nils (min (a.length+1) a.length)++zAD [])),(4,.row 3 1 ((List.replicate k 0++rd).map (irow .i64)))],5⟩)
       (fun y=>match y with | (k,rd)=>(k=b.length+1/\rd=[])∨(k<=b.length/\rd=zAR (other.drop k))) (fun y=>y.1) (b.length+1,[]) (.inl ⟨rfl,rfl⟩) ?_ ?_)
      ·refine Le.rename [(0,0),(1,1),(2,2),(3,3),(4,4)] _ _ 5 ⟨rfl,rfl,rfl,rfl,rfl,congrArg (fun z=>AV.s (.int .i64 z)) (by omega),trivial⟩ ⟨rfl,⟨_,rfl,rfl⟩,rfl,⟨_,rfl,rfl⟩,rfl,⟨_,rfl,zGZ _ rfl⟩,rfl,⟨_,rfl,zTE _⟩,rfl,⟨_,rfl,?_⟩,trivial⟩ rfl rfl rfl (by simp only[ltH,Ob.lt,zGU,lt_1]; rfl) rfl;show Ob.row 3 1 _=Ob.row 3 1 _;simp
      ·rintro⟨k,rd⟩ hI;refine zAa ?_;refine zZx [] [51] rfl ?_;intro b51 h51;refine zAx rfl (fun hb=>?_) (fun hb=>?_)
       ·refine zAf ?_;show Tri ..;have hk:1<=k:=by
         rw[h51]at hb;have:=of_decide_eq_true hb; omega
        obtain⟨j,rfl⟩:∃ j,k=j+1:=⟨k - 1,by omega⟩
        refine zAj (Le.forget [(0,.s (.sl 4 (Nd.encs a))),(1,.s (.sl 4 (Nd.encs b))),(4,.op 0 0),(5,.op 1 0),(6,.s (.int .i64 (a.length:Int))),(7,.s (.int .i64 (j:Int)))] ⟨rfl,rfl,rfl,rfl,rfl,congrArg (fun z=>AV.s (.int .i64 z)) (by omega),trivial⟩) ?_;refine zAa ?_;have wj:IntKind.i64.wrap ((j:Int) - 1)=(j:Int) - 1:=wrap64_in (by omega) (by rcases hI with h | h <;> omega)
        refine zAi ?_;refine zAi ?_;refine zZx [] [140,141,145] rfl ?_;intro n1 hn1;obtain rfl:=rlE Nd.encs_eq a hn1;intro b1 hb1;obtain rfl:true=b1:=(hb1.trans (beq_self_eq_true _)).symm;intro n1 hn1;obtain rfl:=rlE Nd.encs_eq b hn1;refine zAx rfl (fun hb2=>?_) (fun hb2=>?_)
        ·refine zAf ?_;refine yAC ?_;have hj:j=b.length:=Int.ofNat.inj (eq_of_beq hb2)
         refine⟨(j,[0]),.inr ⟨by omega,by rw[hj,← hlen.2.2,List.drop_length]; rfl⟩,Le.rename [(0,0),(1,1),(2,2),(3,3),(4,4)] _ _ 5 ⟨rfl,rfl,rfl,rfl,rfl,congrArg (fun z=>AV.s (.int .i64 z)) wj,trivial⟩ ⟨rfl,⟨_,rfl,rfl⟩,rfl,⟨_,rfl,rfl⟩,rfl,⟨_,rfl,zGZ _ rfl⟩,rfl,⟨_,rfl,zTE _⟩,rfl,⟨_,rfl,?_⟩,trivial⟩ rfl rfl rfl (by simp only[ltH,Ob.lt,zGU,lt_1]; rfl) rfl,Nat.lt_succ_self j⟩
         rcases hI with ⟨_,rfl⟩ | ⟨h,_⟩
         ·show Ob.row 3 1 _=Ob.row 3 1 _;rw[List.append_nil,List.replicate_succ']
         ·omega
        ·have hj:j ≠ b.length:=fun e=>by rw[e]at hb2; simp at hb2
         obtain⟨hj2,rfl⟩:j+1<=b.length/\rd=zAR (other.drop (j+1)):=by
          rcases hI with ⟨h,_⟩ | h
          ·omega
          ·exact h
         refine zZx [] [151,152] rfl ?_;intro n1 hn1;obtain rfl:=rlE Nd.encs_eq a hn1;intro b1 hb1;obtain rfl:true=b1:=(hb1.trans (beq_self_eq_true _)).symm;refine zAx rfl (fun _=>?_) (fun h=>by cases h)
         refine zA0 [] [165,171] [1,3,4,7,9,10,13,14,16,21,22] rfl (by decide +kernel) ?_;have hlt1:a.length<(nils a.length++[AV.orow 4]::zAD []).length :=(by simp[nils]);refine And.intro ⟨Int.natCast_nonneg _,Int.ofNat_lt.2 hlt1⟩ ?_;refine And.intro hlt1 ⟨_,zEj,?_⟩
         refine And.intro ⟨Int.natCast_nonneg _,Int.ofNat_lt.2 hlt1⟩ ?_;refine And.intro hlt1 ⟨_,zEj,?_⟩
         intro z hz;obtain rfl:((j+1:Nat):Int)=z:=(hz.trans (zAP (by omega))).symm;obtain⟨v,vs,hv⟩:=zVJ (other.drop (j+1))
         have ho:other[j]? = some (other[j]'(by omega)):=List.getElem?_eq_getElem _;have hdr:other.drop j=other[j]'(by omega)::other.drop (j+1):=List.drop_eq_getElem_cons (by omega)
         have g1:(List.replicate (j+1) 0++v::vs)[j+1]? = some v :=(by simp[List.getElem?_append]);have hlt2:j+1<(List.map (irow .i64) (List.replicate (j+1) 0++v::vs)).length :=(by simp);rw[hv]
         refine And.intro ⟨Int.natCast_nonneg _,Int.ofNat_lt.2 hlt2⟩ ?_;refine And.intro hlt2 ⟨_,zDP g1,?_⟩
         refine And.intro ⟨Int.natCast_nonneg _,Int.ofNat_lt.2 (by rw[zGT]; omega)⟩ ?_;intro r hr;obtain rfl:[S.int .i64 _]=r:=(hr.trans (zDP ho)).symm;have hlt3:j<(List.map (irow .i64) (List.replicate (j+1) 0++v::vs)).length :=(by simp; omega);refine And.intro ⟨Int.natCast_nonneg _,Int.ofNat_lt.2 hlt3⟩ ?_;refine And.intro hlt3 ?_;refine yAC ?_
         refine⟨(j,zAR (other.drop j)),.inr ⟨by omega,rfl⟩,Le.rename [(0,0),(1,1),(2,2),(3,3),(4,4)] _ _ 5 ⟨rfl,rfl,rfl,rfl,rfl,congrArg (fun z=>AV.s (.int .i64 z)) wj,trivial⟩ ⟨rfl,⟨_,rfl,rfl⟩,rfl,⟨_,rfl,rfl⟩,rfl,⟨_,rfl,zGZ _ rfl⟩,rfl,⟨_,rfl,zTE _⟩,rfl,⟨_,rfl,?_⟩,trivial⟩ rfl rfl rfl (by simp only[ltH,Ob.lt,zGU,lt_1]; rfl) rfl,Nat.lt_succ_self j⟩
         refine congrArg (Ob.row 3 1) ((zQa (l:=List.replicate (j+1) 0++v::vs) (j:=j) (v:=0) (x:=IntKind.i64.wrap (v+other[j]'(by omega))) (by simp[List.getElem?_append])).trans (congrArg (List.map (irow .i64)) ?_))
         rw[hdr]
         simp only[zAR,hv,List.headD_cons]
         exact zLO _
       ·refine zAB ?_;have hk:k=0:=by
         rw[h51]at hb;have:=of_decide_eq_false hb; omega
        subst hk;rcases hI with ⟨h1,_⟩ | ⟨_,rfl⟩
        ·omega
        ·exact Le.rename [(0,0),(1,1),(2,2),(3,3),(4,4)] _ _ 5 ⟨rfl,rfl,rfl,rfl,rfl,trivial⟩ ⟨rfl,⟨_,rfl,rfl⟩,rfl,⟨_,rfl,rfl⟩,rfl,⟨_,rfl,zGZ _ rfl⟩,rfl,⟨_,rfl,zTE _⟩,rfl,⟨_,rfl,rfl⟩,trivial⟩ rfl rfl rfl (by simp only[ltH,Ob.lt,zGU,lt_1]; rfl) rfl
     ·refine zAj hle ?_;refine yAC ?_;refine⟨(a.length,[zAR other],[]),.inr ⟨Nat.le_refl _,by rw[List.drop_length,zP3 hp,List.drop_length]; rfl⟩,
       Le.trans (Le.giveRow 4 rfl) (Le.rename [(0,0),(1,1),(2,2),(3,3)] _ _ 4 ⟨rfl,rfl,rfl,rfl,congrArg (fun z=>AV.s (.int .i64 z)) (wrap64_in (by omega) (by omega)),trivial⟩ ⟨rfl,⟨_,rfl,rfl⟩,rfl,⟨_,rfl,rfl⟩,rfl,⟨_,rfl,yAz (a:=a.length) (p:=fun _=>.junk) _ rfl⟩,rfl,⟨_,rfl,(zZ0 _ _ _).trans (by rw[Nat.min_eq_right (Nat.le_succ _),Nat.min_self])⟩,trivial⟩ rfl rfl rfl (by simp only[ltH,Ob.lt,zGU,lt_1]; rfl) rfl),Nat.lt_succ_self _⟩
    ·have hlf:=zP3 hp;have hbl:=hlen.2.2;obtain⟨⟨L2,P2⟩,hq⟩:=zRS hp i (by omega)
     have ha:a[i]? = some (a[i]'(by omega)):=List.getElem?_eq_getElem _;have hf:first[i]? = some (first[i]'(by omega)):=List.getElem?_eq_getElem _;have hq0:=hq;rw[List.drop_eq_getElem_cons (show i<a.length by omega),List.drop_eq_getElem_cons (show i<first.length by omega)]at hq;generalize a[i]'(by omega)=x at ha hq;generalize first[i]'(by omega)=f at hf hq;simp only[zAC,hrows]at hq;obtain⟨p0,hp0,hq⟩:=zAc hq;cases hp0;cases L with
     | nil=>cases hq
     | cons r1 L =>
     dsimp only at hq;obtain⟨⟨rr,ss⟩,hrow,hq⟩:=zAc hq;simp only[Option.some.injEq,Prod.mk.injEq]at hq;obtain⟨rfl,rfl⟩:=hq;have hrl:=zSS hrow;dsimp only at hrl;refine zAa ?_;refine zZx [] [39,40] rfl ?_;intro n1 hn1;obtain rfl:=rlE Nd.encs_eq a hn1;intro b40 h40;obtain rfl:true=b40:=(h40.trans (decide_eq_true (by omega))).symm;refine zAx rfl (fun _=>?_) (fun h=>by cases h)
     refine zKb [46] [45] [1,5,6,7] [1,6] rfl (by decide +kernel) ?_;intro n1 hn1;obtain rfl:=rlE Nd.encs_eq b hn1;refine And.intro (show 0<=_/\_ from⟨by omega,Int.le_refl _,show((b.length:Nat):Int) * ((8:Nat):Int)<=281474976710656 by omega,by omega⟩) ?_;have hm1:min (i+1) a.length=i+1:=Nat.min_eq_left hin;have hlt1:i<(nils (min (i+1) a.length)++zAD P).length :=(by rw[hm1]; simp[nils]; omega);refine And.intro ⟨Int.natCast_nonneg _,Int.ofNat_lt.2 hlt1⟩ ?_;refine And.intro hlt1 ?_;show Tri ..
     refine zAj (σ':=⟨ofL [(0,.s (.sl 4 (Nd.encs a))),(1,.s (.sl 4 (Nd.encs b))),(4,.op 0 0),(5,.op 1 0),(6,.s (.int .i64 (i:Int)))],ofH [(0,.box 58 [.nl 1,.nl 1,.nl 1,.nl 1]),(1,.box 58 [.orow 2,.orow 3,.s (.sl 1 (first.map (irow .i64))),.s (.sl 1 (other.map (irow .i64)))]),(2,.arow 28 1 (nils i++[.orow 4]::zAD (r1::L))),(3,.arow 28 1 (nils i++[.orow 5]::zAD P)),(4,.row 3 1 ((List.replicate (b.length+1) 0).map (irow .i64))),(5,.row 3 1 ((List.replicate b.length 0).map (irow .i64)))],6⟩) (Le.rename [(0,0),(1,1),(2,2),(3,3),(4,4),(5,5)] _ _ 6 ⟨rfl,rfl,rfl,rfl,rfl,trivial⟩ ⟨rfl,⟨_,rfl,rfl⟩,rfl,⟨_,rfl,rfl⟩,rfl,⟨_,rfl,zGZ _ rfl⟩,rfl,⟨_,rfl,?_⟩,rfl,⟨_,rfl,rfl⟩,rfl,⟨_,rfl,?_⟩,trivial⟩ rfl rfl rfl (by simp only[ltH,Ob.lt,zGU,lt_1]; rfl) rfl) ?_
     ·show Ob.arow 28 1 (List.map (AV.renAll _) ((nils (min (i+1) a.length)++zAD P).set i (((nils (min (i+1) a.length)++zAD P).getD i []).take 0++[AV.orow 5]++((nils (min (i+1) a.length)++zAD P).getD i []).drop 1)))=_;rw[hm1,zQ8,show([AV.s (S.sl 1 [])].take 0++[AV.orow 5]++[AV.s (S.sl 1 [])].drop 1)=[AV.orow 5] from rfl,zTN]
      simp[zG0,zFM,AV.renAll,AV.ren,look]
      rfl
     ·show Ob.row 3 1 (List.replicate b.length [S.int .i64 0])=_;simp[irow]
     refine zZx [] [49] rfl ?_;intro n1 hn1;obtain rfl:=rlE Nd.encs_eq b hn1;show Tri ..;refine zAn ⟨ofL [(0,.s (.sl 4 (Nd.encs a))),(1,.s (.sl 4 (Nd.encs b))),(4,.op 0 0),(5,.op 1 0),(6,.s (.int .i64 (i:Int)))],ofH [(0,.box 58 [.nl 1,.nl 1,.nl 1,.nl 1]),(1,.box 58 [.orow 2,.orow 3,.s (.sl 1 (first.map (irow .i64))),.s (.sl 1 (other.map (irow .i64)))]),(2,.arow 28 1 (nils i++[.orow 4]::zAD (r1::L))),(3,.arow 28 1 (nils i++[.orow 5]::zAD P)),(4,.row 3 1 (rr.map (irow .i64))),(5,.row 3 1 (ss.map (irow .i64)))],6⟩ ?_ (fun σ' hle=>?_)
     ·refine zAi (zAy (X:=Nat×List Int×List Int) (fun y=>match y with | (k,rd,sd)=>⟨ofL [(0,.s (.sl 4 (Nd.encs a))),(1,.s (.sl 4 (Nd.encs b))),(4,.op 0 0),(5,.op 1 0),(6,.s (.int .i64 (i:Int))),(7,.s (.int .i64 ((k:Int) - 1)))],ofH [(0,.box 58 [.nl 1,.nl 1,.nl 1,.nl 1]),(1,.box 58 [.orow 2,.orow 3,.s (.sl 1 (first.map (irow .i64))),.s (.sl 1 (other.map (irow .i64)))]),(2,.arow 28 1 (nils i++[.orow 4]::zAD (r1::L))),(3,.arow 28 1 (nils i++[.orow 5]::zAD P)),(4,.row 3 1 ((List.replicate k 0++rd).map (irow .i64))),(5,.row 3 1 ((List.replicate (min k b.length) 0++sd).map (irow .i64)))],6⟩)
       (fun y=>match y with | (k,rd,sd)=>(k=b.length+1/\rd=[]/\sd=[])∨(k<=b.length/\zAr (zBM n) x f (b.drop k) (other.drop k) (r1.drop k)=some (rd,sd))) (fun y=>y.1) (b.length+1,[],[]) (.inl ⟨rfl,rfl,rfl⟩) ?_ ?_)
      ·refine Le.rename [(0,0),(1,1),(2,2),(3,3),(4,4),(5,5)] _ _ 6 ⟨rfl,rfl,rfl,rfl,rfl,congrArg (fun z=>AV.s (.int .i64 z)) (by omega),trivial⟩ ⟨rfl,⟨_,rfl,rfl⟩,rfl,⟨_,rfl,rfl⟩,rfl,⟨_,rfl,zGZ _ rfl⟩,rfl,⟨_,rfl,zGZ _ rfl⟩,rfl,⟨_,rfl,?_⟩,rfl,⟨_,rfl,?_⟩,trivial⟩ rfl rfl rfl (by simp only[ltH,Ob.lt,zGU,lt_1]; rfl) rfl
       ·show Ob.row 3 1 _=Ob.row 3 1 _;simp
       ·show Ob.row 3 1 _=Ob.row 3 1 _;rw[Nat.min_eq_right (Nat.le_succ _)]; simp
      ·rintro⟨k,rd,sd⟩ hI;refine zAa ?_;refine zZx [] [51] rfl ?_;intro b51 h51;refine zAx rfl (fun hb=>?_) (fun hb=>?_)
       ·refine zAf ?_;show Tri ..;have hk:1<=k:=by
         rw[h51]at hb;have:=of_decide_eq_true hb; omega
        obtain⟨j,rfl⟩:∃ j,k=j+1:=⟨k - 1,by omega⟩
        refine zAj (Le.forget [(0,.s (.sl 4 (Nd.encs a))),(1,.s (.sl 4 (Nd.encs b))),(4,.op 0 0),(5,.op 1 0),(6,.s (.int .i64 (i:Int))),(7,.s (.int .i64 (j:Int)))] ⟨rfl,rfl,rfl,rfl,rfl,congrArg (fun z=>AV.s (.int .i64 z)) (by omega),trivial⟩) ?_;have wj:IntKind.i64.wrap ((j:Int) - 1)=(j:Int) - 1:=wrap64_in (by omega) (by rcases hI with h | h <;> omega)
        have hne:((i:Int) == (a.length:Int))=false:=by
         cases e:((i:Int) == (a.length:Int)) with
         | false=>rfl
         | true=>have:=eq_of_beq e; omega
        refine zAa ?_;refine zAi ?_;refine zAi ?_;refine zZx [] [140,141] rfl ?_;intro n1 hn1;obtain rfl:=rlE Nd.encs_eq a hn1;intro b1 hb1;obtain rfl:false=b1:=(hb1.trans hne).symm;refine zAx rfl (fun h=>by cases h) (fun _=>?_)
        refine zZx [] [151,152] rfl ?_;intro n1 hn1;obtain rfl:=rlE Nd.encs_eq a hn1;intro b1 hb1;obtain rfl:false=b1:=(hb1.trans hne).symm;refine zAx rfl (fun h=>by cases h) (fun _=>?_)
        refine zZx [] [178] rfl ?_;intro n1 hn1;obtain rfl:=rlE Nd.encs_eq b hn1;show Tri ..;have hlt1:i<(nils i++[AV.orow 4]::zAD (r1::L)).length :=(by simp[nils]);have hlt2:i+1<(nils i++[AV.orow 4]::zAD (r1::L)).length :=(by simp[nils,zAD]);have hlt3:i<(nils i++[AV.orow 5]::zAD P).length :=(by simp[nils]);refine zAx rfl (fun hb2=>?_) (fun hb2=>?_)
        ·have hj:j=b.length:=Int.ofNat.inj (eq_of_beq hb2)
         obtain⟨rfl,rfl⟩:rd=[]/\sd=[]:=by
          rcases hI with ⟨_,h1,h2⟩ | ⟨h,_⟩
          ·exact⟨h1,h2⟩
          ·omega
         have hlr:j+1=r1.length :=(by omega);have hv:r1[j]? = some (r1[j]'(by omega)):=List.getElem?_eq_getElem _;have hdr:r1.drop j=[r1[j]'(by omega)] :=(by rw[List.drop_eq_getElem_cons (show j<r1.length by omega),List.drop_eq_nil_of_le (by omega)]);generalize r1[j]'(by omega)=v at hv hdr;refine zA0 [] [189,193,198] [1,3,4,7,10,11,16,21,22] rfl (by decide +kernel) ?_;refine And.intro ⟨Int.natCast_nonneg _,Int.ofNat_lt.2 hlt1⟩ ?_;refine And.intro hlt1 ⟨_,zEj,?_⟩
         intro z hz;obtain rfl:((i+1:Nat):Int)=z:=(hz.trans (zAP (by omega))).symm;refine And.intro ⟨Int.natCast_nonneg _,Int.ofNat_lt.2 hlt2⟩ ?_;refine And.intro hlt2 ⟨_,zKt,?_⟩
         refine And.intro ⟨Int.natCast_nonneg _,Int.ofNat_lt.2 (by rw[zGT]; omega)⟩ ?_;intro r hr;obtain rfl:[S.int .i64 v]=r:=(hr.trans (zDP hv)).symm;refine And.intro ⟨Int.natCast_nonneg _,Int.ofNat_lt.2 (by rw[zGT]; omega)⟩ ?_;intro r hr;obtain rfl:[S.int .i64 f]=r:=(hr.trans (zDP hf)).symm;have hlt4:j<(List.map (irow .i64) (List.replicate (j+1) 0++([]:List Int))).length :=(by simp);refine And.intro ⟨Int.natCast_nonneg _,Int.ofNat_lt.2 hlt4⟩ ?_;refine And.intro hlt4 ?_;refine yAC ?_
         refine⟨(j,[IntKind.i64.wrap (v+f)],[]),.inr ⟨by omega,by rw[hdr,List.drop_eq_nil_of_le (show b.length<=j by omega),List.drop_eq_nil_of_le (show other.length<=j by omega)]; rfl⟩,Le.rename [(0,0),(1,1),(2,2),(3,3),(4,4),(5,5)] _ _ 6 ⟨rfl,rfl,rfl,rfl,rfl,congrArg (fun z=>AV.s (.int .i64 z)) wj,trivial⟩ ⟨rfl,⟨_,rfl,rfl⟩,rfl,⟨_,rfl,rfl⟩,rfl,⟨_,rfl,zGZ _ rfl⟩,rfl,⟨_,rfl,zGZ _ rfl⟩,rfl,⟨_,rfl,?_⟩,rfl,⟨_,rfl,?_⟩,trivial⟩ rfl rfl rfl (by simp only[ltH,Ob.lt,zGU,lt_1]; rfl) rfl,Nat.lt_succ_self j⟩
         ·refine congrArg (Ob.row 3 1) ((zQa (l:=List.replicate (j+1) 0++[]) (j:=j) (v:=0) (x:=IntKind.i64.wrap (v+f)) (by simp)).trans (congrArg (List.map (irow .i64)) (zLO _)))
         ·show Ob.row 3 1 _=Ob.row 3 1 _;rw[Nat.min_eq_right (show b.length<=j+1 by omega),Nat.min_eq_right (show b.length<=j by omega)]
        ·have hj:j ≠ b.length:=fun e=>by rw[e]at hb2; simp at hb2
         obtain⟨hj2,hd⟩:j+1<=b.length/\zAr (zBM n) x f (b.drop (j+1)) (other.drop (j+1)) (r1.drop (j+1))=some (rd,sd):=by
          rcases hI with ⟨h,_⟩ | h
          ·omega
          ·exact h
         obtain⟨q,hq⟩:=row_drop hrow j (by omega)
         have hqq:=hq;have hv:r1[j]? = some (r1[j]'(by omega)):=List.getElem?_eq_getElem _;have hv2:r1[j+1]? = some (r1[j+1]'(by omega)):=List.getElem?_eq_getElem _;have ho:other[j]? = some (other[j]'(by omega)):=List.getElem?_eq_getElem _;have hy:b[j]? = some (b[j]'(by omega)):=List.getElem?_eq_getElem _;rw[List.drop_eq_getElem_cons (show j<b.length by omega),List.drop_eq_getElem_cons (show j<other.length by omega),List.drop_eq_getElem_cons (show j<r1.length by omega),List.drop_eq_getElem_cons (show j+1<r1.length by omega)]at hq;rw[List.drop_eq_getElem_cons (show j+1<r1.length by omega)]at hd;generalize r1[j]'(by omega)=v at hv hq
         generalize r1[j+1]'(by omega)=v2 at hv2 hq hd;generalize other[j]'(by omega)=o at ho hq;generalize b[j]'(by omega)=y at hy hq;simp only[zAr,hd]at hq;obtain⟨p0,hp0,hq⟩:=zAc hq;cases hp0;obtain⟨c,hc,hq⟩:=zAc hq;have hrdl:=zSS hd;cases rd with
         | nil=>simp at hrdl
         | cons w ws =>
         simp only[List.headD_cons,Option.some.injEq]at hq;have hmj:min (j+1) b.length=j+1:=Nat.min_eq_left hj2;have hmj':min j b.length=j:=Nat.min_eq_left (by omega)
         refine zAa ?_;refine zA0 [] [62,65] [1,3,4,13,14] rfl (by decide +kernel) ?_;refine And.intro ⟨Int.natCast_nonneg _,Int.ofNat_lt.2 hlt3⟩ ?_;refine And.intro hlt3 ⟨_,zEj,?_⟩
         refine And.intro ⟨Int.natCast_nonneg _,Int.ofNat_lt.2 (by rw[rlen Nd.encs_eq]; omega)⟩ ?_;intro r hr;obtain rfl:Nd.enc x=r:=(hr.trans (zTg ha)).symm;refine And.intro ⟨Int.natCast_nonneg _,Int.ofNat_lt.2 (by rw[rlen Nd.encs_eq]; omega)⟩ ?_;intro r hr;obtain rfl:Nd.enc y=r:=(hr.trans (zTg hy)).symm;refine⟨_,⟨_,_,_,hc,rfl,rfl⟩,?_⟩
         have hlt5:j<(List.map (irow .i64) (List.replicate (min (j+1) b.length) 0++sd)).length :=(by rw[hmj]; simp; omega);refine And.intro ⟨Int.natCast_nonneg _,Int.ofNat_lt.2 hlt5⟩ ?_;refine And.intro hlt5 ?_;show Tri ..
         refine zAj (σ':=⟨ofL [(0,.s (.sl 4 (Nd.encs a))),(1,.s (.sl 4 (Nd.encs b))),(4,.op 0 0),(5,.op 1 0),(6,.s (.int .i64 (i:Int))),(7,.s (.int .i64 (j:Int)))],ofH [(0,.box 58 [.nl 1,.nl 1,.nl 1,.nl 1]),(1,.box 58 [.orow 2,.orow 3,.s (.sl 1 (first.map (irow .i64))),.s (.sl 1 (other.map (irow .i64)))]),(2,.arow 28 1 (nils i++[.orow 4]::zAD (r1::L))),(3,.arow 28 1 (nils i++[.orow 5]::zAD P)),(4,.row 3 1 ((List.replicate (j+1) 0++w::ws).map (irow .i64))),(5,.row 3 1 ((List.replicate j 0++c::sd).map (irow .i64)))],6⟩) (Le.rename [(0,0),(1,1),(2,2),(3,3),(4,4),(5,5)] _ _ 6 ⟨rfl,rfl,rfl,rfl,rfl,rfl,trivial⟩ ⟨rfl,⟨_,rfl,rfl⟩,rfl,⟨_,rfl,rfl⟩,rfl,⟨_,rfl,zGZ _ rfl⟩,rfl,⟨_,rfl,zGZ _ rfl⟩,rfl,⟨_,rfl,rfl⟩,rfl,⟨_,rfl,?_⟩,trivial⟩ rfl rfl rfl (by simp only[ltH,Ob.lt,zGU,lt_1]; rfl) rfl) ?_
         ·refine congrArg (Ob.row 3 1) ((zQa (l:=List.replicate (min (j+1) b.length) 0++sd) (j:=j) (v:=0) (x:=c) (by rw[hmj]; simp[List.getElem?_append])).trans (congrArg (List.map (irow .i64)) ?_))
          rw[hmj]; exact zLO _
         have g4:(List.replicate (j+1) 0++w::ws)[j+1]? = some w :=(by simp[List.getElem?_append]);have hlt4:j+1<(List.map (irow .i64) (List.replicate (j+1) 0++w::ws)).length :=(by simp);have hlt4':j<(List.map (irow .i64) (List.replicate (j+1) 0++w::ws)).length :=(by simp; omega);have g5:(List.replicate j 0++c::sd)[j]? = some c :=(by simp[List.getElem?_append]);have hlt6:j<(List.map (irow .i64) (List.replicate j 0++c::sd)).length :=(by simp);refine zAa ?_;refine zA0 [] [74,80,86,90,95] [1,3,4,7,8,10,16,19,20,25] rfl (by decide +kernel) ?_;refine And.intro ⟨Int.natCast_nonneg _,Int.ofNat_lt.2 hlt1⟩ ?_
         refine And.intro hlt1 ⟨_,zEj,?_⟩
         intro z hz;obtain rfl:((j+1:Nat):Int)=z:=(hz.trans (zAP (by omega))).symm;refine And.intro ⟨Int.natCast_nonneg _,Int.ofNat_lt.2 hlt4⟩ ?_;refine And.intro hlt4 ⟨_,zDP g4,?_⟩
         refine And.intro ⟨Int.natCast_nonneg _,Int.ofNat_lt.2 (by rw[zGT]; omega)⟩ ?_;intro r hr;obtain rfl:[S.int .i64 o]=r:=(hr.trans (zDP ho)).symm;intro z hz;obtain rfl:((i+1:Nat):Int)=z:=(hz.trans (zAP (by omega))).symm;refine And.intro ⟨Int.natCast_nonneg _,Int.ofNat_lt.2 hlt2⟩ ?_;refine And.intro hlt2 ⟨_,zKt,?_⟩
         refine And.intro ⟨Int.natCast_nonneg _,Int.ofNat_lt.2 (by rw[zGT]; omega)⟩ ?_;intro r hr;obtain rfl:[S.int .i64 v]=r:=(hr.trans (zDP hv)).symm;refine And.intro ⟨Int.natCast_nonneg _,Int.ofNat_lt.2 (by rw[zGT]; omega)⟩ ?_;intro r hr;obtain rfl:[S.int .i64 f]=r:=(hr.trans (zDP hf)).symm;refine zAa ?_;refine yAD ?_;refine And.intro ⟨Int.natCast_nonneg _,Int.ofNat_lt.2 hlt3⟩ ?_;refine And.intro hlt3 ⟨_,zEj,?_⟩
         refine And.intro ⟨Int.natCast_nonneg _,Int.ofNat_lt.2 hlt6⟩ ?_;refine And.intro hlt6 ⟨_,zDP g5,?_⟩
         show Tri ..;refine zAn ⟨ofL [(0,.s (.sl 4 (Nd.encs a))),(1,.s (.sl 4 (Nd.encs b))),(4,.op 0 0),(5,.op 1 0),(6,.s (.int .i64 (i:Int))),(7,.s (.int .i64 (j:Int))),(8,.s (.int .i64 (q.1.headD 0)))],ofH [(0,.box 58 [.nl 1,.nl 1,.nl 1,.nl 1]),(1,.box 58 [.orow 2,.orow 3,.s (.sl 1 (first.map (irow .i64))),.s (.sl 1 (other.map (irow .i64)))]),(2,.arow 28 1 (nils i++[.orow 4]::zAD (r1::L))),(3,.arow 28 1 (nils i++[.orow 5]::zAD P)),(4,.row 3 1 ((List.replicate (j+1) 0++w::ws).map (irow .i64))),(5,.row 3 1 ((List.replicate j 0++c::sd).map (irow .i64)))],6⟩ ?_ (fun σ' hle=>?_)
         ·refine zAx rfl (fun hb3=>?_) (fun hb3=>?_)
          ·refine zA0 [] [112,116,117] [2,5,6,12,14,15,17,18] rfl (by decide +kernel) ?_;intro z hz;obtain rfl:((i+1:Nat):Int)=z:=(hz.trans (zAP (by omega))).symm;refine And.intro ⟨Int.natCast_nonneg _,Int.ofNat_lt.2 hlt2⟩ ?_;refine And.intro hlt2 ⟨_,zKt,?_⟩
           intro z hz;obtain rfl:((j+1:Nat):Int)=z:=(hz.trans (zAP (by omega))).symm;refine And.intro ⟨Int.natCast_nonneg _,Int.ofNat_lt.2 (by rw[zGT]; omega)⟩ ?_;intro r hr;obtain rfl:[S.int .i64 v2]=r:=(hr.trans (zDP hv2)).symm;refine And.intro ⟨Int.natCast_nonneg _,Int.ofNat_lt.2 hlt3⟩ ?_;refine And.intro hlt3 ⟨_,zEj,?_⟩
           refine And.intro ⟨Int.natCast_nonneg _,Int.ofNat_lt.2 hlt6⟩ ?_;refine And.intro hlt6 ⟨_,zDP g5,?_⟩
           refine Le.rename [(0,0),(1,1),(2,2),(3,3),(4,4),(5,5)] _ _ 6 ⟨rfl,rfl,rfl,rfl,rfl,rfl,?_,trivial⟩ ⟨rfl,⟨_,rfl,rfl⟩,rfl,⟨_,rfl,rfl⟩,rfl,⟨_,rfl,zGZ _ rfl⟩,rfl,⟨_,rfl,zGZ _ rfl⟩,rfl,⟨_,rfl,rfl⟩,rfl,⟨_,rfl,rfl⟩,trivial⟩ rfl rfl rfl (by simp only[ltH,Ob.lt,zGU,lt_1]; rfl) rfl;have h0:0<=c:=of_decide_eq_true hb3;rw[if_pos h0]at hq;rw[← hq]
           rfl
          ·refine zAf ?_;refine Le.rename [(0,0),(1,1),(2,2),(3,3),(4,4),(5,5)] _ _ 6 ⟨rfl,rfl,rfl,rfl,rfl,rfl,?_,trivial⟩ ⟨rfl,⟨_,rfl,rfl⟩,rfl,⟨_,rfl,rfl⟩,rfl,⟨_,rfl,zGZ _ rfl⟩,rfl,⟨_,rfl,zGZ _ rfl⟩,rfl,⟨_,rfl,rfl⟩,rfl,⟨_,rfl,rfl⟩,trivial⟩ rfl rfl rfl (by simp only[ltH,Ob.lt,zGU,lt_1]; rfl) rfl;have h0:¬ 0<=c:=of_decide_eq_false hb3;rw[if_neg h0]at hq;rw[← hq]
           rfl
         ·refine zAj hle ?_;refine yAC ?_;refine And.intro ⟨Int.natCast_nonneg _,Int.ofNat_lt.2 hlt1⟩ ?_;refine And.intro hlt1 ⟨_,zEj,?_⟩
          refine And.intro ⟨Int.natCast_nonneg _,Int.ofNat_lt.2 hlt4'⟩ ?_;refine And.intro hlt4' ?_;refine yAC ?_;refine⟨(j,q.1,q.2),.inr ⟨by omega,hqq⟩,Le.rename [(0,0),(1,1),(2,2),(3,3),(4,4),(5,5)] _ _ 6 ⟨rfl,rfl,rfl,rfl,rfl,congrArg (fun z=>AV.s (.int .i64 z)) wj,trivial⟩ ⟨rfl,⟨_,rfl,rfl⟩,rfl,⟨_,rfl,rfl⟩,rfl,⟨_,rfl,zGZ _ rfl⟩,rfl,⟨_,rfl,zGZ _ rfl⟩,rfl,⟨_,rfl,?_⟩,rfl,⟨_,rfl,?_⟩,trivial⟩ rfl rfl rfl (by simp only[ltH,Ob.lt,zGU,lt_1]; rfl) rfl,Nat.lt_succ_self j⟩
          ·refine congrArg (Ob.row 3 1) ((zQa (l:=List.replicate (j+1) 0++w::ws) (j:=j) (v:=0) (x:=q.1.headD 0) (by simp[List.getElem?_append])).trans (congrArg (List.map (irow .i64)) ((zLO _).trans ?_)))
           rw[← hq]; rfl
          ·show Ob.row 3 1 _=Ob.row 3 1 _;rw[hmj',← hq]
       ·refine zAB ?_;have hk:k=0:=by
         rw[h51]at hb;have:=of_decide_eq_false hb; omega
        subst hk;rcases hI with ⟨h1,_⟩ | ⟨_,h1⟩
        ·omega
        ·simp only[List.drop_zero,hrow,Option.some.injEq,Prod.mk.injEq]at h1;obtain⟨rfl,rfl⟩:=h1;refine Le.rename [(0,0),(1,1),(2,2),(3,3),(4,4),(5,5)] _ _ 6 ⟨rfl,rfl,rfl,rfl,rfl,trivial⟩ ⟨rfl,⟨_,rfl,rfl⟩,rfl,⟨_,rfl,rfl⟩,rfl,⟨_,rfl,zGZ _ rfl⟩,rfl,⟨_,rfl,zGZ _ rfl⟩,rfl,⟨_,rfl,rfl⟩,rfl,⟨_,rfl,?_⟩,trivial⟩ rfl rfl rfl (by simp only[ltH,Ob.lt,zGU,lt_1]; rfl) rfl;show Ob.row 3 1 _=Ob.row 3 1 _;rw[Nat.zero_min]; rfl
     ·refine zAj hle ?_;refine yAC ?_;refine⟨(i,rr::r1::L,ss::P),.inr ⟨by omega,hq0⟩,
       Le.trans (Le.giveRow 4 rfl) (Le.trans (Le.giveRow 5 rfl) (Le.rename [(0,0),(1,1),(2,2),(3,3)] _ _ 4 ⟨rfl,rfl,rfl,rfl,congrArg (fun z=>AV.s (.int .i64 z)) (wrap64_in (by omega) (by omega)),trivial⟩ ⟨rfl,⟨_,rfl,rfl⟩,rfl,⟨_,rfl,rfl⟩,rfl,⟨_,rfl,?_⟩,rfl,⟨_,rfl,?_⟩,trivial⟩ rfl rfl rfl (by simp only[ltH,Ob.lt,zGU,lt_1]; rfl) rfl)),Nat.lt_succ_self _⟩
      ·simp[Ob.frz,Ob.ren,nils,zAD,AV.frzAll,AV.frz,AV.renAll,AV.ren]
      ·rw[Nat.min_eq_left (show i<=a.length by omega)]
       simp[Ob.frz,Ob.ren,nils,zAD,AV.frzAll,AV.frz,AV.renAll,AV.ren]
   ·refine zAB ?_;have hk:k=0:=by
     rw[h26]at hb;have:=of_decide_eq_false hb; omega
    subst hk;rcases hI with ⟨h1,_⟩ | ⟨_,h1⟩
    ·omega
    ·simp only[List.drop_zero,hp,Option.some.injEq]at h1;subst h1;exact Le.rename [(0,0),(1,1),(2,2),(3,3)] _ _ 4 ⟨rfl,rfl,rfl,rfl,trivial⟩ ⟨rfl,⟨_,rfl,rfl⟩,rfl,⟨_,rfl,rfl⟩,rfl,⟨_,rfl,congrArg (Ob.arow 28 1) (zFM _)⟩,rfl,⟨_,rfl,congrArg (Ob.arow 28 1) ((congrArg (fun m=>(nils m++zAD P).map (AV.renAll _)) (Nat.zero_min _)).trans (zFM _))⟩,trivial⟩ rfl rfl rfl (by simp only[ltH,Ob.lt,lt_p]; rfl) rfl
 ·refine zAj hle ?_;refine yAD ?_;refine zAh ?_;have hy:=osi h;subst hy;unfold zC4;refine⟨_,Le.giveWhole [(4,.s (.pt (zEh (p.1,p.2,first,other))))] ⟨.box rfl rfl fun i x s hx hs=>?_,trivial⟩ rfl,rfl,rfl⟩
  match i,hx,hs with
  | 0,hx,hs=>cases hx; cases hs; exact zRP rfl
  | 1,hx,hs=>cases hx; cases hs; exact zRP rfl
  | 2,hx,hs=>cases hx; cases hs; exact .s _
  | 3,hx,hs=>cases hx; cases hs; exact .s _
  | i+4,hx,hs=>simp at hx
theorem zKM (n:Nat) (ih_diff_fill:PSound Tryz.prog 26 (zAu (zEy n))) (ih_diff_pairing:PSound Tryz.prog 48 (zAu (zDJ n))):PSound Tryz.prog 48 (zAu (zDJ (n+1))):=by
 have gok:∀ f s,look? f [(26,zAu (zEy n))]=some s->PSound Tryz.prog f s:=zAo (by
  simp only[List.forall_mem_cons]
  exact⟨ih_diff_fill,by simp⟩)
 refine psq tokW Tryz.call48 Tryz.func48 rfl ?_;rintro xs r w0 G0 ⟨⟨a1A,a1C,a1D,a1B⟩,⟨a2A,a2C,a2D,a2B⟩,y0,h,rfl,rfl⟩ _;rw[zBM]at h;refine yAD ?_;refine zAa ?_;refine zAa ?_;obtain⟨x3,hj,h⟩:=zAc h;refine zAn ⟨ofL [(0,.s (.pt [.int .i64 a1A,.str a1C,.int .i64 a1D,.sl 4 (Nd.encs a1B)])),(1,.s (.pt [.int .i64 a2A,.str a2C,.int .i64 a2D,.sl 4 (Nd.encs a2B)])),(39,.s (.bool x3))],fun _=>none,0⟩ ?_ (fun σ' hle=>?_)
 ·replace h:=hj;refine zA0 [] [16,27,32,37] [] rfl (by decide +kernel) ?_;intro b hb;cases b with
  | true =>
   replace h:=zAw hb.symm h;intro b hb;subst hb;cases h;exact Le.fgt
  | false =>
   replace h:=zAv hb.symm h;intro b hb;cases b with
   | true =>
    replace h:=zAw hb.symm h;cases h;exact Le.fgt
   | false =>
    replace h:=zAv hb.symm h;intro n4 hn4;obtain rfl:=rlE Nd.encs_eq a1B hn4;intro n5 hn5;obtain rfl:=rlE Nd.encs_eq a2B hn5;cases h;exact Le.fgt
 ·refine zAj hle ?_;refine zAm rfl h (fun hb h=>?_) (fun hb h=>?_)
  ·refine yAD ?_;refine zAh ?_;have hy:=osi h;subst hy;exact fin0 rfl rfl
  ·refine zAf ?_;refine yAD ?_;refine zAa ?_;refine zAa ?_;refine zA0 [] [] [] rfl (by decide +kernel) ?_;show Tri ..;obtain⟨x6,hj,h⟩:=zAc h;refine zAn ⟨ofL [(0,.s (.pt [.int .i64 a1A,.str a1C,.int .i64 a1D,.sl 4 (Nd.encs a1B)])),(1,.s (.pt [.int .i64 a2A,.str a2C,.int .i64 a2D,.sl 4 (Nd.encs a2B)])),(5,.s (.int .i64 x6))],fun _=>none,0⟩ ?_ (fun σ' hle=>?_)
   ·replace h:=hj;refine zAm rfl h (fun hb h=>?_) (fun hb h=>?_)
    ·refine yAC ?_;cases h;exact Le.fgt
    ·refine zAf ?_;cases h;exact Le.fgt
   ·refine zAj hle ?_;refine zAa ?_;refine zZx [] [53] rfl ?_;intro n7 hn7;obtain rfl:=rlE Nd.encs_eq a1B hn7;show Tri ..;obtain⟨x10,hl,h⟩:=zAc h;refine zAn ⟨ofL [(5,.s (.int .i64 x10))],fun _=>none,0⟩ ?_ (fun σ' hle=>?_)
    ·refine zAi (zAy (X:=Nat×Int×Int) (fun y=>match y with | (k,x8,x9)=>⟨ofL [(0,.s (.pt [.int .i64 a1A,.str a1C,.int .i64 a1D,.sl 4 (Nd.encs a1B)])),(1,.s (.pt [.int .i64 a2A,.str a2C,.int .i64 a2D,.sl 4 (Nd.encs a2B)])),(5,.s (.int .i64 x8)),(53,.s (.int .i64 (a1B.length:Int))),(54,.s (.int .i64 x9))],fun _=>none,0⟩) (fun y=>zBL (zCg n) a1B a2B y.1 y.2.1 y.2.2=some x10) (fun y=>y.1) (n,x6,0) hl ?_ ?_)
     ·exact Le.fgt
     ·rintro⟨k,x8,x9⟩ h;cases k with
      | zero=>cases h
      | succ k =>
       replace h:zBL (zCg n) a1B a2B (k+1) x8 x9=some x10:=h;rw[zBL]at h;refine yAD ?_;refine zAa ?_;refine zAm rfl h (fun hb h=>?_) (fun hb h=>?_)
       ·refine zAf ?_;refine zAa ?_;refine zAi ?_;refine yAD ?_;show Tri ..;refine zA0 [] [63,71,76,78] [] rfl (by decide +kernel) ?_;obtain⟨⟨e11A,e11C,e11D,e11B⟩,he11,h⟩:=zAc h;refine And.intro (zAq Nd.encs_eq he11).1 ?_;intro r12 hr12;obtain rfl:[.int .i64 e11A,.str e11C,.int .i64 e11D,.sl 4 (Nd.encs e11B)]=r12:=(hr12.trans (zAq Nd.encs_eq he11).2.1).symm;obtain⟨⟨e13A,e13C,e13D,e13B⟩,he13,h⟩:=zAc h;refine And.intro (zAq Nd.encs_eq he13).1 ?_;intro r14 hr14
        obtain rfl:[.int .i64 e13A,.str e13C,.int .i64 e13D,.sl 4 (Nd.encs e13B)]=r14:=(hr14.trans (zAq Nd.encs_eq he13).2.1).symm;obtain⟨⟨y15U,y15V,y15W,y15X⟩,hy15,h⟩:=zAc h;refine⟨_,⟨_,_,_,hy15,rfl,rfl⟩,?_⟩
        obtain⟨e16,he16,h⟩:=zAc h;refine And.intro (zAq (fun _=>rfl) he16).1 ?_;intro r17 hr17;obtain rfl:[.sl 1 ((List.map (irow .i64)) e16)]=r17:=(hr17.trans (zAq (fun _=>rfl) he16).2.1).symm;obtain⟨e18,he18,h⟩:=zAc h;refine And.intro (zAq (fun _=>rfl) he18).1 ?_;intro r19 hr19;obtain rfl:[.int .i64 e18]=r19:=(hr19.trans (zAq (fun _=>rfl) he18).2.1).symm;refine yAC ?_;refine⟨(k,IntKind.i64.wrap (x8+e18),IntKind.i64.wrap (x9+1)),h,Le.fgt,Nat.lt_succ_self k⟩
       ·refine zAB ?_;cases h;exact Le.fgt
    ·refine zAj hle ?_;refine yAD ?_;refine zAh ?_;have hy:=osi h;subst hy;exact fin0 rfl rfl
theorem zNG:∀ n,PSound Tryz.prog 26 (zAu (zEy n))/\PSound Tryz.prog 48 (zAu (zDJ n)):=by
 intro n
 induction n with
 | zero =>
  refine⟨?_,?_⟩
  ·exact zDr Tryz.call26 (fun xs r h=>by obtain⟨_,_,_,h,_⟩:=h; rw[zCg]at h; cases h)
  ·exact zDr Tryz.call48 (fun xs r h=>by obtain⟨_,_,_,h,_⟩:=h; rw[zBM]at h; cases h)
 | succ n ih =>
  obtain⟨ih_diff_fill,ih_diff_pairing⟩:=ih;exact⟨zN3 n ih_diff_fill ih_diff_pairing,zKM n ih_diff_fill ih_diff_pairing⟩
def zIK:zAp:=zAu fun xs r=>∃ n,zEy n xs r
theorem zLf:PSound Tryz.prog 26 zIK:=zFk (fun n=>(zNG n).1)
def zAE (p:(Int×Int)):List S:=[.int .i64 p.1,.int .i64 p.2]
def zQo (n:Nat) (xs:List AV) (r:Ret):Prop:=∃ (a0:List Nd) (a1:List Nd) (y0:List (Int×Int)),zD3 n a0 a1=some y0/\xs=[.s (.sl 4 (Nd.encs a0)),.s (.sl 4 (Nd.encs a1))]/\r = .row 103 2 ((List.map zAE) y0)
def zHl:zAp:=zAu fun xs r=>∃ n,zQo n xs r
theorem zZk {α:Type}{a b:α} (h:a=b:=by simp[List.map_append,List.map_take,List.map_drop,irow,brow,zF2,List.map_cons,List.map_nil,zFw,Nd.encs_eq,Nd.enc,zBH,zA5,zAF,zAM,zAk,zEh,zAN,zAE]):a=b :=
 h
theorem zJM:PSound Tryz.prog 44 zHl:=by
 have gok:∀ f s,look? f [(26,zIK),(79,zL7)]=some s->PSound Tryz.prog f s:=zAo (by
  simp only[List.forall_mem_cons]
  exact⟨zLf,zRC,by simp⟩)
 refine psq tokW Tryz.call44 Tryz.func44 rfl ?_;rintro xs r w0 G0 ⟨n,a1,a2,y0,h,rfl,rfl⟩ _;rw[zD3]at h;refine zZx [4] [] rfl ?_;refine zAj (Le.rnq [] [(0,.s (.sl 4 (Nd.encs a1))),(1,.s (.sl 4 (Nd.encs a2)))] [] 0) ?_;refine zZx [5] [] rfl ?_;obtain⟨⟨y3U,y3V,y3W,y3X⟩,hy3,h⟩:=zAc h;refine⟨_,⟨_,_,_,_,hy3,rfl,rfl⟩,?_⟩
 refine zAj (Le.giveBox 0 [.sl 1 ((List.map zAN) y3U),.sl 1 ((List.map zAN) y3V),.sl 1 ((List.map (irow .i64)) y3W),.sl 1 ((List.map (irow .i64)) y3X)] rfl rfl) ?_;refine zZx [6] [] rfl ?_;show Tri ..
 refine zAj (Le.rnq [(1,0)] [(0,.s (.sl 4 (Nd.encs a1))),(1,.s (.sl 4 (Nd.encs a2))),(5,.s (.pt [.sl 1 ((List.map zAN) y3U),.sl 1 ((List.map zAN) y3V),.sl 1 ((List.map (irow .i64)) y3W),.sl 1 ((List.map (irow .i64)) y3X)])),(6,.orow 0)] [(0,.row 103 2 ((List.map zAE) []))] 1 (h2:=⟨rfl,⟨_,rfl,congrArg (Ob.row 103 2) zZk⟩,trivial⟩)) ?_;refine zAa ?_;refine zAa ?_
 refine yAC ?_;show Tri ..;obtain⟨l8,hl,h⟩:=zAc h;refine zAn ⟨ofL [(6,.orow 0)],ofH [(0,.row 103 2 ((List.map zAE) l8))],1⟩ ?_ (fun σ' hle=>?_)
 ·refine zAi (zAy (X:=Nat×Int×Int×(List (Int×Int))) (fun y=>match y with | (k,x5,x6,l7)=>⟨ofL [(0,.s (.sl 4 (Nd.encs a1))),(1,.s (.sl 4 (Nd.encs a2))),(5,.s (.pt [.sl 1 ((List.map zAN) y3U),.sl 1 ((List.map zAN) y3V),.sl 1 ((List.map (irow .i64)) y3W),.sl 1 ((List.map (irow .i64)) y3X)])),(6,.orow 0),(7,.s (.int .i64 x5)),(8,.s (.int .i64 x6))],ofH [(0,.row 103 2 ((List.map zAE) l7))],1⟩) (fun y=>zBz n a1 a2 y3U y3V y3W y3X y.1 y.2.1 y.2.2.1 y.2.2.2=some l8) (fun y=>y.1) (n,0,0,[]) hl ?_ ?_)
  ·exact(Le.rnq [(0,0)] _ _ _)
  ·rintro⟨k,x5,x6,l7⟩ h;cases k with
   | zero=>cases h
   | succ k =>
    replace h:zBz n a1 a2 y3U y3V y3W y3X (k+1) x5 x6 l7=some l8:=h;rw[zBz]at h;refine zAa ?_;refine zAa ?_;obtain⟨x9,hj,h⟩:=zAc h;refine zAn ⟨ofL [(0,.s (.sl 4 (Nd.encs a1))),(1,.s (.sl 4 (Nd.encs a2))),(5,.s (.pt [.sl 1 ((List.map zAN) y3U),.sl 1 ((List.map zAN) y3V),.sl 1 ((List.map (irow .i64)) y3W),.sl 1 ((List.map (irow .i64)) y3X)])),(6,.orow 0),(7,.s (.int .i64 x5)),(8,.s (.int .i64 x6)),(24,.s (.bool x9))],ofH [(0,.row 103 2 ((List.map zAE) l7))],1⟩ ?_ (fun σ' hle=>?_)
    ·replace h:=hj;refine zAb [] [17,19,22] rfl ?_;intro n10 hn10;obtain rfl:=rlE Nd.encs_eq a1 hn10;intro b hb;cases b with
     | true =>
      replace h:=zAw hb.symm h;intro n11 hn11;obtain rfl:=rlE Nd.encs_eq a2 hn11;cases h;exact(Le.rnq [(0,0)] _ _ _)
     | false =>
      replace h:=zAv hb.symm h;cases h;exact(Le.rnq [(0,0)] _ _ _)
    ·refine zAj hle ?_;refine zAm rfl h (fun hb h=>?_) (fun hb h=>?_)
     ·refine zAf ?_;refine zAi ?_;refine zZx [] [28,31] rfl ?_;obtain⟨e12,he12,h⟩:=zAc h;refine And.intro (zAq (fun _=>rfl) he12).1 ?_;intro r13 hr13;obtain rfl:[.sl 1 ((List.map (irow .i64)) e12)]=r13:=(hr13.trans (zAq (fun _=>rfl) he12).2.1).symm;obtain⟨e14,he14,h⟩:=zAc h;refine And.intro (zAq (fun _=>rfl) he14).1 ?_;intro r15 hr15;obtain rfl:[.int .i64 e14]=r15:=(hr15.trans (zAq (fun _=>rfl) he14).2.1).symm;refine zAa ?_;refine zA0 [] [38,41,46] [] rfl (by decide +kernel) ?_;obtain⟨e16,he16,h⟩:=zAc h;refine And.intro (zAq (fun _=>rfl) he16).1 ?_
      intro r17 hr17;obtain rfl:[.sl 1 ((List.map (irow .i64)) e16)]=r17:=(hr17.trans (zAq (fun _=>rfl) he16).2.1).symm;obtain⟨e18,he18,h⟩:=zAc h;refine And.intro (zAq (fun _=>rfl) he18).1 ?_;intro r19 hr19;obtain rfl:[.int .i64 e18]=r19:=(hr19.trans (zAq (fun _=>rfl) he18).2.1).symm;obtain⟨e20,he20,h⟩:=zAc h;refine And.intro (zAq (fun _=>rfl) he20).1 ?_;intro r21 hr21;obtain rfl:[.int .i64 e20]=r21:=(hr21.trans (zAq (fun _=>rfl) he20).2.1).symm;refine zAa ?_;refine zA0 [] [54,58,63] [] rfl (by decide +kernel) ?_;obtain⟨e22,he22,h⟩:=zAc h;refine And.intro (zAq (fun _=>rfl) he22).1 ?_
      intro r23 hr23;obtain rfl:[.sl 1 ((List.map (irow .i64)) e22)]=r23:=(hr23.trans (zAq (fun _=>rfl) he22).2.1).symm;obtain⟨e24,he24,h⟩:=zAc h;refine And.intro (zAq (fun _=>rfl) he24).1 ?_;intro r25 hr25;obtain rfl:[.int .i64 e24]=r25:=(hr25.trans (zAq (fun _=>rfl) he24).2.1).symm;obtain⟨e26,he26,h⟩:=zAc h;refine And.intro (zAq (fun _=>rfl) he26).1 ?_;intro r27 hr27;obtain rfl:[.int .i64 e26]=r27:=(hr27.trans (zAq (fun _=>rfl) he26).2.1).symm;refine zAi ?_;refine zAa ?_;obtain⟨x28,hj,h⟩:=zAc h
      refine zAn ⟨ofL [(0,.s (.sl 4 (Nd.encs a1))),(1,.s (.sl 4 (Nd.encs a2))),(5,.s (.pt [.sl 1 ((List.map zAN) y3U),.sl 1 ((List.map zAN) y3V),.sl 1 ((List.map (irow .i64)) y3W),.sl 1 ((List.map (irow .i64)) y3X)])),(6,.orow 0),(7,.s (.int .i64 x5)),(8,.s (.int .i64 x6)),(10,.s (.bool (e14 == (IntKind.i64.wrap (e18+e20))))),(11,.s (.bool (e14 == (IntKind.i64.wrap (e24+e26))))),(69,.s (.bool x28))],ofH [(0,.row 103 2 ((List.map zAE) l7))],1⟩ ?_ (fun σ' hle=>?_)
      ·replace h:=hj;refine zA0 [] [73,76,79,85,89,94,97] [] rfl (by decide +kernel) ?_;obtain⟨e29,he29,h⟩:=zAc h;refine And.intro (zAq (fun _=>rfl) he29).1 ?_;intro r30 hr30;obtain rfl:[.sl 1 ((List.map (irow .i64)) e29)]=r30:=(hr30.trans (zAq (fun _=>rfl) he29).2.1).symm;obtain⟨e31,he31,h⟩:=zAc h;refine And.intro (zAq (fun _=>rfl) he31).1 ?_;intro r32 hr32;obtain rfl:[.int .i64 e31]=r32:=(hr32.trans (zAq (fun _=>rfl) he31).2.1).symm;intro b hb;cases b with
       | true =>
        replace h:=zAw hb.symm h;obtain⟨e33,he33,h⟩:=zAc h;refine And.intro (zAq (fun _=>rfl) he33).1 ?_;intro r34 hr34;obtain rfl:[.sl 1 ((List.map (irow .i64)) e33)]=r34:=(hr34.trans (zAq (fun _=>rfl) he33).2.1).symm;obtain⟨e35,he35,h⟩:=zAc h;refine And.intro (zAq (fun _=>rfl) he35).1 ?_;intro r36 hr36;obtain rfl:[.int .i64 e35]=r36:=(hr36.trans (zAq (fun _=>rfl) he35).2.1).symm;obtain⟨e37,he37,h⟩:=zAc h;refine And.intro (zAq (fun _=>rfl) he37).1 ?_;intro r38 hr38;obtain rfl:[.sl 1 ((List.map (irow .i64)) e37)]=r38:=(hr38.trans (zAq (fun _=>rfl) he37).2.1).symm;obtain⟨e39,he39,h⟩:=zAc h
        refine And.intro (zAq (fun _=>rfl) he39).1 ?_;intro r40 hr40;obtain rfl:[.int .i64 e39]=r40:=(hr40.trans (zAq (fun _=>rfl) he39).2.1).symm;cases h;exact(Le.rnq [(0,0)] _ _ _)
       | false =>
        replace h:=zAv hb.symm h;cases h;exact(Le.rnq [(0,0)] _ _ _)
      ·refine zAj hle ?_;refine zAm rfl h (fun hb h=>?_) (fun hb h=>?_)
       ·refine zZx [107] [106] rfl ?_;intro r41 hr41;obtain rfl:(List.map zAE) [(x5,x6)]=r41:=(hr41.trans zZk).symm;obtain⟨hq,h⟩:=zAK h
        refine And.intro (show(((List.map zAE) l7).length+((List.map zAE) [(x5,x6)]).length) * 16<=140737488355328/\((List.map zAE) l7).length+((List.map zAE) [(x5,x6)]).length<=9223372036854775807 from by simp only[List.length_append,List.length_cons,List.length_nil,List.length_map,rlen (fun _=>rfl)]at hq ⊢; omega) ?_;show Tri ..
        refine zAj (Le.rnq [(1,0)] [(0,.s (.sl 4 (Nd.encs a1))),(1,.s (.sl 4 (Nd.encs a2))),(5,.s (.pt [.sl 1 ((List.map zAN) y3U),.sl 1 ((List.map zAN) y3V),.sl 1 ((List.map (irow .i64)) y3W),.sl 1 ((List.map (irow .i64)) y3X)])),(6,.orow 0),(7,.s (.int .i64 x5)),(8,.s (.int .i64 x6))] [(0,.row 103 2 ((List.map zAE) (l7++[(x5,x6)])))] 1 (h2:=⟨rfl,⟨_,rfl,congrArg (Ob.row 103 2) zZk⟩,trivial⟩)) ?_
        refine yAC ?_;refine⟨(k,IntKind.i64.wrap (x5+1),IntKind.i64.wrap (x6+1),l7++[(x5,x6)]),h,(Le.rnq [(0,0)] _ _ _),Nat.lt_succ_self k⟩
       ·refine zAa ?_;obtain⟨x42,hj,h⟩:=zAc h;refine zAn ⟨ofL [(0,.s (.sl 4 (Nd.encs a1))),(1,.s (.sl 4 (Nd.encs a2))),(5,.s (.pt [.sl 1 ((List.map zAN) y3U),.sl 1 ((List.map zAN) y3V),.sl 1 ((List.map (irow .i64)) y3W),.sl 1 ((List.map (irow .i64)) y3X)])),(6,.orow 0),(7,.s (.int .i64 x5)),(8,.s (.int .i64 x6)),(112,.s (.bool x42))],ofH [(0,.row 103 2 ((List.map zAE) l7))],1⟩ ?_ (fun σ' hle=>?_)
        ·replace h:=hj;refine zA0 [] [114,117,120,125] [] rfl (by decide +kernel) ?_;intro b hb;cases b with
         | true =>
          replace h:=zAw hb.symm h;intro b hb;cases b with
          | true =>
           replace h:=zAw hb.symm h;cases h;exact(Le.rnq [(0,0)] _ _ _)
          | false =>
           replace h:=zAv hb.symm h;obtain⟨⟨e43A,e43C,e43D,e43B⟩,he43,h⟩:=zAc h;refine And.intro (zAq Nd.encs_eq he43).1 ?_;intro r44 hr44;obtain rfl:[.int .i64 e43A,.str e43C,.int .i64 e43D,.sl 4 (Nd.encs e43B)]=r44:=(hr44.trans (zAq Nd.encs_eq he43).2.1).symm;obtain⟨y45,hy45,h⟩:=zAc h;refine⟨_,⟨_,_,_,hy45,rfl,rfl⟩,?_⟩
           obtain⟨⟨e46A,e46C,e46D,e46B⟩,he46,h⟩:=zAc h;refine And.intro (zAq Nd.encs_eq he46).1 ?_;intro r47 hr47;obtain rfl:[.int .i64 e46A,.str e46C,.int .i64 e46D,.sl 4 (Nd.encs e46B)]=r47:=(hr47.trans (zAq Nd.encs_eq he46).2.1).symm;obtain⟨y48,hy48,h⟩:=zAc h;refine⟨_,⟨_,_,_,hy48,rfl,rfl⟩,?_⟩
           cases h;exact(Le.rnq [(0,0)] _ _ _)
         | false =>
          replace h:=zAv hb.symm h;cases h;exact(Le.rnq [(0,0)] _ _ _)
        ·refine zAj hle ?_;refine zAm rfl h (fun hb h=>?_) (fun hb h=>?_)
         ·refine yAC ?_;refine⟨(k,IntKind.i64.wrap (x5+1),x6,l7),h,(Le.rnq [(0,0)] _ _ _),Nat.lt_succ_self k⟩
         ·refine yAC ?_;refine⟨(k,x5,IntKind.i64.wrap (x6+1),l7),h,(Le.rnq [(0,0)] _ _ _),Nat.lt_succ_self k⟩
     ·refine zAB ?_;cases h;exact(Le.rnq [(0,0)] _ _ _)
 ·refine zAj hle ?_;refine yAD ?_;refine zAh ?_;have hy:=osi h;subst hy;unfold zC4;exact⟨_,Le.refl _ _,0,rfl,rfl⟩
def zSd (n:Nat) (xs:List AV) (r:Ret):Prop:=∃ (a0:Nd) (a1:Nd) (y0:Int) (y1:Int),zFD n a0 a1=some (y0,y1)/\xs=[.agg ((Nd.enc a0).map .s),.agg ((Nd.enc a1).map .s)]/\r = .val (.tup [.s (.int .i64 y0),.s (.int .i64 y1)])
def zL6:zAp:=zAu fun xs r=>∃ n,zSd n xs r
theorem zRB:PSound Tryz.prog 9 zL6:=by
 have gok:∀ f s,look? f [(21,zHm),(26,zIK)]=some s->PSound Tryz.prog f s:=zAo (by
  simp only[List.forall_mem_cons]
  exact⟨zJO,zLf,by simp⟩)
 refine psq tokW Tryz.call9 Tryz.func9 rfl ?_;rintro xs r w0 G0 ⟨n,⟨a1A,a1C,a1D,a1B⟩,⟨b2A,b2C,b2D,b2B⟩,y0,y1,h,rfl,rfl⟩ _;rw[zFD]at h;refine yAD ?_;refine zAa ?_;refine yAD ?_;obtain⟨y3,hy3,h⟩:=zAc h;refine⟨_,⟨_,_,_,_,hy3,rfl,rfl⟩,?_⟩
 refine zAm rfl h (fun hb h=>?_) (fun hb h=>?_)
 ·refine yAD ?_;refine zAh ?_;obtain⟨hj1,hk1⟩:=pij h;subst hj1 hk1;exact fin0 rfl rfl
 ·refine zAf ?_;refine zZx [] [16,18] rfl ?_;obtain⟨⟨y4U,y4V,y4W,y4X⟩,hy4,h⟩:=zAc h;refine⟨_,⟨_,_,_,_,hy4,rfl,rfl⟩,?_⟩
  obtain⟨e5,he5,h⟩:=zAc h;refine And.intro (zAq (fun _=>rfl) he5).1 ?_;intro r6 hr6;obtain rfl:[.sl 1 ((List.map (irow .i64)) e5)]=r6:=(hr6.trans (zAq (fun _=>rfl) he5).2.1).symm;obtain⟨e7,he7,h⟩:=zAc h;refine And.intro (zAq (fun _=>rfl) he7).1 ?_;intro r8 hr8;obtain rfl:[.int .i64 e7]=r8:=(hr8.trans (zAq (fun _=>rfl) he7).2.1).symm;refine zAh ?_;obtain⟨hj1,hk1⟩:=pij h;subst hj1 hk1;exact fin0 rfl rfl
def zO4 (n:Nat) (xs:List AV) (r:Ret):Prop:=∃ (a0:List zO8) (y0:Int) (y1:Int),zEl n a0=some (y0,y1)/\xs=[.s (.sl 8 ((List.map zAk) a0))]/\r = .val (.tup [.s (.int .i64 y0),.s (.int .i64 y1)])
def zJf:zAp:=zAu fun xs r=>∃ n,zO4 n xs r
theorem zNO:PSound Tryz.prog 10 zJf:=by
 have gok:∀ f s,look? f [(27,zHq)]=some s->PSound Tryz.prog f s:=zAo (by
  simp only[List.forall_mem_cons]
  exact⟨zJQ,by simp⟩)
 refine psq tokW Tryz.call10 Tryz.func10 rfl ?_;rintro xs r w0 G0 ⟨n,ops1,y0,y1,h,rfl,rfl⟩ _;rw[zEl]at h;refine yAD ?_;refine yAD ?_;refine zAa ?_;refine zZx [] [10] rfl ?_;intro n2 hn2;obtain rfl:=rlE (fun _=>rfl) ops1 hn2;show Tri ..;obtain⟨fl,hl,ho1⟩:=zAc h;refine zF9 (fl:=fl) (fun z=>match z with | cost5=>⟨ofL [(4,.s (.int .i64 cost5))],fun _=>none,0⟩) ?_ (fun cost5 σ' hz hle=>?_)
 ·refine zAi (zAy (X:=Nat×Int×Int) (fun y=>match y with | (k,x3,cost4)=>⟨ofL [(4,.s (.int .i64 cost4)),(9,.s (.sl 8 ((List.map zAk) ops1))),(10,.s (.int .i64 (ops1.length:Int))),(11,.s (.int .i64 x3))],fun _=>none,0⟩) (fun y=>zBV n ops1 y.1 y.2.1 y.2.2=some fl) (fun y=>y.1) (n,0,0) hl ?_ ?_)
  ·exact Le.fgt
  ·rintro⟨k,x3,cost4⟩ h;cases k with
   | zero=>cases h
   | succ k =>
    replace h:zBV n ops1 (k+1) x3 cost4=some fl:=h;rw[zBV]at h;refine yAD ?_;refine zAa ?_;refine zAm rfl h (fun hb h=>?_) (fun hb h=>?_)
    ·refine zAf ?_;refine zAa ?_;obtain⟨fl,hj,ho2⟩:=zAc h;refine zF9 (fl:=fl) (fun z=>match z with | cost6=>⟨ofL [(4,.s (.int .i64 cost6)),(9,.s (.sl 8 ((List.map zAk) ops1))),(10,.s (.int .i64 (ops1.length:Int))),(11,.s (.int .i64 x3))],fun _=>none,0⟩) ?_ (fun cost6 σ' hz hle=>?_)
     ·replace h:=hj;refine zAi ?_;refine zZx [6] [13] rfl ?_;obtain⟨⟨e7A,e7I,e7L,e7J,e7E,e7K,e7H,e7C⟩,he7,h⟩:=zAc h;refine And.intro (zAq (fun _=>rfl) he7).1 ?_;intro r8 hr8;obtain rfl:[.int .i64 e7A,.sl 1 ((List.map (irow .i64)) e7I),.int .i64 e7L,.int .i64 e7J,.sl 4 (Nd.encs e7E),.int .i64 e7K,.str e7H,.str e7C]=r8:=(hr8.trans (zAq (fun _=>rfl) he7).2.1).symm;show Tri ..
      refine zAj (Le.giveBox 0 [.int .i64 e7A,.sl 1 ((List.map (irow .i64)) e7I),.int .i64 e7L,.int .i64 e7J,.sl 4 (Nd.encs e7E),.int .i64 e7K,.str e7H,.str e7C] rfl rfl) ?_;refine yAD ?_;refine zAi ?_;refine zAa ?_;refine yAD ?_;show Tri ..;obtain⟨x9,hj,h⟩:=zAc h
      refine zAn ⟨ofL [(4,.s (.int .i64 cost4)),(6,.s (.pt [.int .i64 e7A,.sl 1 ((List.map (irow .i64)) e7I),.int .i64 e7L,.int .i64 e7J,.sl 4 (Nd.encs e7E),.int .i64 e7K,.str e7H,.str e7C])),(9,.s (.sl 8 ((List.map zAk) ops1))),(10,.s (.int .i64 (ops1.length:Int))),(11,.s (.int .i64 x3)),(16,.s (.int .i64 e7A)),(17,.s (.bool x9))],fun _=>none,0⟩ ?_ (fun σ' hle=>?_)
      ·replace h:=hj;refine zAm rfl h (fun hb h=>?_) (fun hb h=>?_)
       ·refine zAf ?_;cases h;exact(Le.rnq [] _ [] 0)
       ·refine yAC ?_;cases h;exact(Le.rnq [] _ [] 0)
      ·refine zAj hle ?_;refine zAm rfl h (fun hb h=>?_) (fun hb h=>?_)
       ·refine zZx [] [22] rfl ?_;intro n10 hn10;obtain rfl:=rlE Nd.encs_eq e7E hn10;show Tri ..;obtain⟨cost13,hl,h⟩:=zAc h;refine zAn ⟨ofL [(4,.s (.int .i64 cost13)),(9,.s (.sl 8 ((List.map zAk) ops1))),(10,.s (.int .i64 (ops1.length:Int))),(11,.s (.int .i64 x3))],fun _=>none,0⟩ ?_ (fun σ' hle=>?_)
        ·refine zAi (zAy (X:=Nat×Int×Int) (fun y=>match y with | (k,x11,cost12)=>⟨ofL [(4,.s (.int .i64 cost12)),(9,.s (.sl 8 ((List.map zAk) ops1))),(10,.s (.int .i64 (ops1.length:Int))),(11,.s (.int .i64 x3)),(21,.s (.sl 4 (Nd.encs e7E))),(22,.s (.int .i64 (e7E.length:Int))),(23,.s (.int .i64 x11))],fun _=>none,0⟩) (fun y=>zBW n e7E y.1 y.2.1 y.2.2=some cost13) (fun y=>y.1) (n,0,cost4) hl ?_ ?_)
         ·exact Le.fgt
         ·rintro⟨k,x11,cost12⟩ h;cases k with
          | zero=>cases h
          | succ k =>
           replace h:zBW n e7E (k+1) x11 cost12=some cost13:=h;rw[zBW]at h;refine yAD ?_;refine zAa ?_;refine zAm rfl h (fun hb h=>?_) (fun hb h=>?_)
           ·refine zAf ?_;refine zAa ?_;refine zAi ?_;refine zZx [8] [25] rfl ?_;obtain⟨⟨e14A,e14C,e14D,e14B⟩,he14,h⟩:=zAc h;refine And.intro (zAq Nd.encs_eq he14).1 ?_;intro r15 hr15;obtain rfl:[.int .i64 e14A,.str e14C,.int .i64 e14D,.sl 4 (Nd.encs e14B)]=r15:=(hr15.trans (zAq Nd.encs_eq he14).2.1).symm;refine zAj (Le.giveBox 0 [.int .i64 e14A,.str e14C,.int .i64 e14D,.sl 4 (Nd.encs e14B)] rfl rfl) ?_;refine yAC ?_;obtain⟨y16,hy16,h⟩:=zAc h;refine⟨_,⟨_,_,_,hy16,rfl,rfl⟩,?_⟩
            refine yAC ?_;refine⟨(k,IntKind.i64.wrap (x11+1),IntKind.i64.wrap (cost12+y16)),h,(Le.rnq [] _ [] 0),Nat.lt_succ_self k⟩
           ·refine zAB ?_;cases h;exact Le.fgt
        ·cases h;exact⟨_,rfl,(Le.trans hle Le.fgt)⟩
       ·refine yAD ?_;refine zAm rfl h (fun hb h=>?_) (fun hb h=>?_)
        ·refine yAC ?_;cases h;exact⟨_,rfl,Le.fgt⟩
        ·refine yAD ?_;refine zAh ?_;cases h;replace h:some _=some _:=ho2;cases h;replace h:some _=some _:=ho1;obtain⟨hj1,hk1⟩:=pij h;subst hj1 hk1;exact fin0 rfl rfl
     ·subst hz;replace h:=ho2;refine zAj hle ?_;refine yAC ?_;refine⟨(k,IntKind.i64.wrap (x3+1),cost6),h,Le.fgt,Nat.lt_succ_self k⟩
    ·refine zAB ?_;cases h;exact⟨_,rfl,Le.fgt⟩
 ·subst hz;replace h:=ho1;refine zAj hle ?_;refine yAD ?_;refine zAh ?_;obtain⟨hj1,hk1⟩:=pij h;subst hj1 hk1;exact fin0 rfl rfl
def zT5 (n:Nat) (xs:List AV) (r:Ret):Prop:=∃ (a0:Nd) (a1:List Int) (y0:Nd) (y1:Int),zGC n a0 a1=some (y0,y1)/\xs=[.agg ((Nd.enc a0).map .s),.s (.sl 1 (a1.map (irow .i64)))]/\r = .val (.tup [.agg ((Nd.enc y0).map .s),.s (.int .i64 y1)])
def zN8:zAp:=zAu fun xs r=>∃ n,zT5 n xs r
theorem zSO:PSound Tryz.prog 39 zN8:=by
 have gok:∀ f s,look? f [(18,zDm),(71,zMa),(19,zFo)]=some s->PSound Tryz.prog f s:=zAo (by
  simp only[List.forall_mem_cons]
  exact⟨zDC,zRF,zF6,by simp⟩)
 refine psq tokW Tryz.call39 Tryz.func39 rfl ?_;rintro xs r w0 G0 ⟨f,⟨k,t,c,ks⟩,p,y0,y1,h,rfl,rfl⟩ _;rw[zGC]at h;obtain⟨b,hb,h⟩:=zAc h;refine zZx [4] [] rfl ?_;refine zAa ?_;refine yAD ?_;refine⟨_,⟨f,_,_,hb,rfl,rfl⟩,?_⟩
 show Tri ..;cases b with
 | false =>
  refine zAx rfl (fun _=>?_) (fun h=>by cases h)
  refine yAD ?_;refine zAh ?_;obtain⟨rfl,rfl⟩:=Prod.mk.inj (Option.some.inj h)
  unfold zC4;exact⟨_,Le.refl _ _,rfl,rfl⟩
 | true =>
  refine zAx rfl (fun h=>by cases h) (fun _=>?_)
  refine zAf ?_;show Tri ..;replace h:(match zCx (.mk k t c ks) p with | some r=>(zBK r).bind fun r=>some (r,0) | none=>some (zDt,8))=some (y0,y1):=h;refine yAD ?_;cases hf:zCx (.mk k t c ks) p with
  | none =>
   rw[hf]at h;refine⟨.val (.tup [.junk,.s (.bool false)]),⟨.mk k t c ks,p,rfl,by rw[hf]; rfl⟩,?_⟩
   refine zAa ?_;refine yAD ?_;refine zAx rfl (fun _=>?_) (fun h=>by cases h)
   refine yAD ?_;refine zAh ?_;obtain⟨rfl,rfl⟩:=Prod.mk.inj (Option.some.inj h)
   unfold zC4;exact⟨_,Le.refl _ _,rfl,rfl⟩
  | some z =>
   obtain⟨k2,t2,c2,ks2⟩:=z;rw[hf]at h;refine⟨.val (.tup [.s (.pt (Nd.enc (.mk k2 t2 c2 ks2))),.s (.bool true)]),⟨.mk k t c ks,p,rfl,by rw[hf]; rfl⟩,?_⟩
   refine zAa ?_;refine yAD ?_;refine zAx rfl (fun h=>by cases h) (fun _=>?_)
   refine zAf ?_;show Tri ..;obtain⟨⟨k3,t3,c3,ks3⟩,hd,h⟩:=zAc h;obtain⟨rfl,rfl⟩:=Prod.mk.inj (Option.some.inj h)
   refine yAD ?_;refine⟨_,⟨_,_,hd,rfl,rfl⟩,?_⟩
   refine zAh ?_;unfold zC4;exact⟨_,Le.refl _ _,rfl,rfl⟩
theorem zWu {T:Nat->Option TI}{own:Bool}{o:Oper}{σ:St}{e t e0:Nat}{args:Array Operand}{ts:Array Nat}{y:Operand}{v:AV}{ks:List Nd}{keys:List Nat} (hv:VAt σ.hp e v ks keys) (ho:o.op = .call { callee:=.builtin .len,args:=args,argTypes:=ts }) (ha:args.toList=[y]) (hts:ts.toList=[t]) (ht:tk T t = .slice e0)
  (hy:opd T σ.env t y=v):step1 T own o σ=some (none,.s (.int .i64 (ks.length:Int)),σ):=by
 rcases hv with ⟨rfl,rfl,_⟩ | ⟨q,rows,keys',w,rfl,hq,hlen,_,_⟩
 ·have e1:zB2 T own o σ.env=some (none,.s (.int .i64 0)) :=(by simp only[zB2,ho,ha,hts,pLen,ht,hy]; rfl);simp only[step1,e1]; rfl
 ·rw[zNg ho ha hts ht hy hq,hlen]
theorem zWd {k c:Int}{tx:List UInt8}{ks:List Nd}{k2 c2:Int}{tx2:List UInt8}{ks2:List Nd}{z r:Nd}{i s:Int}{p:List Int} (hx:ks[i.toNat]? = some (.mk k2 tx2 c2 ks2)) (hz:ks2[s.toNat]? = some z) :
  putL (.mk k tx c ks) (i::s::p) r = .mk k tx c (ks.set i.toNat (.mk k2 tx2 c2 (ks2.set s.toNat (putL z p r)))):=by
 rw[putL,hx]
 simp only[hz]
theorem Hole.here {hp:Nat->Option Ob}{e:Nat}{p p1:AV}{y:Nd}{keys:List Nat}{F:Nd->Nd} (hn:(zBr p::keys).Nodup) (h:Hole hp e p keys p1 y F):∃ keys0 w0,At hp e p1 y keys0 [] w0/\isL 4 p1/\(zBr p1::keys0).Nodup:=by
 obtain⟨keys0,rest,w0,a1,a2,a3,a4,_⟩:=h;obtain⟨hb,hnk⟩:=List.nodup_cons.1 hn;obtain⟨n0,n1,n01⟩:=List.nodup_append.1 (a1.nodup_iff.1 hnk)
 refine⟨keys0,w0,a2,a3,List.nodup_cons.2 ⟨fun hm=>?_,n0⟩⟩
 rcases a4 with rfl | a4
 ·exact hb (a1.mem_iff.2 (List.mem_append_left _ hm))
 ·exact n01 _ hm _ a4 rfl
theorem Hole.step {hp:Nat->Option Ob}{e q i:Nat}{p p1:AV}{k c:Int}{tx:List UInt8}{ks:List Nd}{x:Nd}{keys:List Nat}{F:Nd->Nd} (hn:(zBr p::keys).Nodup) (h:Hole hp e p keys p1 (.mk k tx c ks) F) (hx:ks[i]? = some x) (hc:zAO hp p1=some (zBd k tx c (.orow q))) :
  Hole hp e p keys (.rp q 4 i 0) x (fun r=>F (.mk k tx c (ks.set i r))) :=
 Hole.trans hn h fun keys0 w0 ha hl hn0=>by
  obtain⟨b,rows,h1,_,_,h4⟩:=Hole.kid ha hl hn0 hx;rw[hc]at h1;have:q=b :=(by simpa [zBd] using h1);rw[this]; exact h4
theorem zXH {t r:Nd}:putL t [] r=r:=by cases t; rfl
def zQl (xs:List AV) (hp:Nat->Option Ob) (n:Nat) (Φ:AV->(Nat->Option Ob)->Nat->Prop):Prop :=
 ∃ (p:AV) (t:Nd) (path:List Int) (keys:List Nat) (w:Nat),xs=[p,.s (.sl 1 (path.map (irow .i64)))]/\isL 4 p/\At hp 24 p t keys [] w/\(zBr p::keys).Nodup /\
  (zCx t path=none->Φ (.tup [.junk,.s (.bool false)]) hp n)/\∀ p1 y F,zCx t path=some y->Hole hp 24 p keys p1 y F->(∀ r,putL t path r=F r)->Φ (.tup [p1,.s (.bool true)]) hp n
def zLZ:zAp:=zRa zQl
set_option maxHeartbeats 600000 in
theorem zPx:PSound Tryz.prog 71 zLZ:=by
 have gok:=@gok0 Tryz.prog;refine zMJ tokW Tryz.call71 Tryz.func71 rfl (fun xs hp n Φ h=>by obtain⟨_,_,_,_,_,rfl,_⟩:=h; show 2<=_; decide) _ rfl ?_;rintro xs hp n Φ w0 G0 B0 ⟨p0,t0,path0,keys,w,rfl,hl0,hat,hnd,hΦ1,hΦ2⟩ _ hhp;refine yAD ?_;refine zAa ?_;refine zAi (zAy (X:=AV×Nd×List Int×(Nd->Nd)) (fun x=>match x with | (p,y,q,F)=>⟨ofL [(0,p),(1,.s (.sl 1 (q.map (irow .i64)))),(4,.s .np),(5,.s (.bool false))],hp,n⟩)
  (fun x=>match x with | (p,y,q,F)=>zCx t0 path0=zCx y q/\Hole hp 24 p0 keys p y F/\∀ r,putL t0 path0 r=F (putL y q r)) (fun x=>match x with | (p,y,q,F)=>q.length) (p0,t0,path0,id) ⟨rfl,Hole.refl hat hl0,fun _=>rfl⟩ (Le.forget [(0,p0),(1,.s (.sl 1 (path0.map (irow .i64)))),(4,.s .np),(5,.s (.bool false))] ⟨rfl,rfl,rfl,rfl,trivial⟩) ?_)
 rintro⟨p,⟨k,t,c,ks⟩,q,F⟩ hI;have hI:zCx t0 path0=zCx (.mk k t c ks) q/\Hole hp 24 p0 keys p (.mk k t c ks) F/\∀ r,putL t0 path0 r=F (putL (.mk k t c ks) q r):=hI
 obtain⟨hI1,hI2,hI3⟩:=hI;have hlp:isL 4 p :=(by obtain⟨_,_,_,_,_,h,_⟩:=hI2; exact h);refine zAa ?_;refine yAD ?_;refine zAx rfl (fun hb=>?_) (fun hb=>?_)
 ·refine zAf ?_;show Tri ..
  match q,hI1,hI3,hb with
  | [],_,_,hb=>cases hb
  | [_],_,_,hb=>cases hb
  | i::s::q,hI1,hI3,hb =>
   refine zAj (Le.forgetH [(0,p),(1,.s (.sl 1 ((i::s::q).map (irow .i64)))),(4,.s .np),(5,.s (.bool false))] hp n ⟨rfl,rfl,rfl,rfl,trivial⟩ (fun _=>rfl) rfl) ?_;refine zAa ?_;refine zAi ?_;refine zAa ?_;refine zKa (by exact tokW) (by exact gok) (by exact mixed) [] [] [1,2,4,5] rfl (by decide +kernel) ?_;refine And.intro (show(0:Int)<=0/\(0:Int)<((((i::s::q).map (irow .i64)).length:Nat):Int) by simp only[List.map_cons,List.length_cons]; omega) ?_;refine And.intro (show(0:Int)<=1/\(1:Int)<((((i::s::q).map (irow .i64)).length:Nat):Int) by simp only[List.map_cons,List.length_cons]; omega) ?_;show Tri ..
   refine zAj (Le.forgetH [(0,p),(1,.s (.sl 1 ((i::s::q).map (irow .i64)))),(4,.s .np),(5,.s (.bool false)),(6,.s (.int .i64 i)),(7,.s (.int .i64 s))] hp n ⟨rfl,rfl,rfl,rfl,rfl,rfl,trivial⟩ (fun _=>rfl) rfl) ?_;refine zAa ?_;refine zAa ?_
   by_cases hi:i<0
   ·refine zAb [] [21] rfl ?_;intro b hb;obtain rfl:true=b:=(hb.trans (decide_eq_true hi)).symm;refine zAx rfl (fun _=>?_) (fun h=>by cases h)
    refine yAD ?_;refine zAh ?_;unfold zFV;exact⟨_,Le.forget [(5,.s (.bool false))] ⟨rfl,trivial⟩,_,rfl,hΦ1 (hI1.trans (zGP (fun h=>by omega)))⟩
   obtain⟨keys1,w1,hat1,_,hnd1⟩:=hI2.here hnd;obtain⟨v,hcv,hv⟩:=hat1.full;refine yAC ?_;refine zAd rfl rfl rfl rfl rfl rfl trivial ?_;refine zAd rfl rfl rfl rfl rfl rfl trivial ?_;rw[show decide (i<0)=false from decide_eq_false hi]
   refine zAd rfl rfl rfl rfl rfl rfl trivial ?_;refine zDf (g:=22) rfl rfl rfl ?_;refine zAd rfl rfl rfl rfl rfl rfl trivial ?_;refine zDf (g:=22) rfl rfl rfl ?_;refine zAd rfl rfl rfl rfl rfl (zDd hlp (.inr rfl) rfl rfl) trivial ?_;refine zDf (g:=22) rfl rfl rfl ?_;refine zAd rfl rfl rfl rfl rfl (zEL hlp rfl rfl) trivial ?_;refine zDf (g:=22) rfl rfl rfl ?_;refine zAd rfl rfl rfl rfl rfl (zE3 hlp rfl rfl rfl rfl rfl rfl rfl) trivial ?_;refine zDf (g:=22) rfl rfl rfl ?_;refine zDK (off:=3) (sz:=4) rfl rfl rfl rfl rfl rfl rfl hlp rfl hcv rfl ?_;refine zDf (g:=22) rfl rfl rfl ?_
   refine zAd rfl rfl rfl rfl rfl (zWu hv rfl rfl rfl rfl rfl) trivial ?_;refine zDf (g:=22) rfl rfl rfl ?_;refine zAd rfl rfl rfl rfl rfl rfl trivial ?_
   by_cases hi2:(ks.length:Int)<=i
   ·rw[show decide ((ks.length:Int)<=i)=true from decide_eq_true hi2]
    refine zAd rfl rfl rfl rfl rfl rfl trivial ?_;refine zAx rfl (fun _=>?_) (fun h=>by cases h)
    refine yAD ?_;refine zAh ?_;unfold zFV;exact⟨_,Le.forget [(5,.s (.bool false))] ⟨rfl,trivial⟩,_,rfl,hΦ1 (hI1.trans (zGP (n:=.mk k t c ks) (fun h=>by have:i<(ks.length:Int):=h.2; omega)))⟩
   rw[show decide ((ks.length:Int)<=i)=false from decide_eq_false hi2]
   refine zAd rfl rfl rfl rfl rfl rfl trivial ?_;refine zAx rfl (fun h=>by cases h) (fun _=>?_)
   refine zAf ?_;show Tri ..;have hi0:i.toNat<ks.length :=(by omega);obtain⟨⟨k2,t2,c2,ks2⟩,hx⟩:∃ x,ks[i.toNat]? = some x:=⟨_,List.getElem?_eq_getElem hi0⟩
   obtain⟨b1,rows1,hc1,hr1,hlen1,hole1⟩:=Hole.kid hat1 hlp hnd1 hx;refine zAj (Le.forgetH [(0,p),(1,.s (.sl 1 ((i::s::q).map (irow .i64)))),(4,.s .np),(5,.s (.bool false)),(6,.s (.int .i64 i)),(7,.s (.int .i64 s))] hp n ⟨rfl,rfl,rfl,rfl,rfl,rfl,trivial⟩ (fun _=>rfl) rfl) ?_;refine yAD ?_;refine zAd rfl rfl rfl rfl rfl (zDd hlp (.inr rfl) rfl rfl) trivial ?_;refine zAd rfl rfl rfl rfl rfl (zEL hlp rfl rfl) trivial ?_;refine zAd rfl rfl rfl rfl rfl (zE3 hlp rfl rfl rfl rfl rfl rfl rfl) trivial ?_;refine zDK (off:=3) (sz:=4) rfl rfl rfl rfl rfl rfl rfl hlp rfl hc1 rfl ?_
   refine zAd rfl rfl rfl rfl rfl rfl trivial ?_;refine zAd rfl rfl rfl rfl rfl (zP6 rfl rfl rfl rfl rfl rfl hr1 rfl) ⟨by omega,by rw[hlen1]; omega⟩ ?_;refine zAd rfl rfl rfl rfl rfl rfl trivial ?_;refine zAj (Le.forgetH [(0,p),(1,.s (.sl 1 ((i::s::q).map (irow .i64)))),(4,.s .np),(5,.s (.bool false)),(6,.s (.int .i64 i)),(7,.s (.int .i64 s)),(8,.rp b1 4 i.toNat 0)] hp n ⟨rfl,rfl,rfl,rfl,rfl,rfl,rfl,trivial⟩ (fun _=>rfl) rfl) ?_;refine zAa ?_;refine zAa ?_
   by_cases hs:s<0
   ·refine zAb [] [38] rfl ?_;intro b hb;obtain rfl:true=b:=(hb.trans (decide_eq_true hs)).symm;refine zAx rfl (fun _=>?_) (fun h=>by cases h)
    refine yAD ?_;refine zAh ?_;unfold zFV;exact⟨_,Le.forget [(5,.s (.bool false))] ⟨rfl,trivial⟩,_,rfl,hΦ1 (hI1.trans (zGQ (n:=.mk k t c ks) (by omega) hx (fun h=>by omega)))⟩
   have hl2:isL 4 (.rp b1 4 i.toNat 0):=.inl ⟨b1,i.toNat,rfl⟩
   have hI4:=Hole.step hnd hI2 hx hc1;obtain⟨keys2,w2,hat2,_,hnd2⟩:=hI4.here hnd;obtain⟨v2,hcv2,hv2⟩:=hat2.full;refine yAC ?_;refine zAd rfl rfl rfl rfl rfl rfl trivial ?_;refine zAd rfl rfl rfl rfl rfl rfl trivial ?_;rw[show decide (s<0)=false from decide_eq_false hs]
   refine zAd rfl rfl rfl rfl rfl rfl trivial ?_;refine zDf (g:=39) rfl rfl rfl ?_;refine zAd rfl rfl rfl rfl rfl rfl trivial ?_;refine zDf (g:=39) rfl rfl rfl ?_;refine zAd rfl rfl rfl rfl rfl (zDd hl2 (.inr rfl) rfl rfl) trivial ?_;refine zDf (g:=39) rfl rfl rfl ?_;refine zAd rfl rfl rfl rfl rfl (zEL hl2 rfl rfl) trivial ?_;refine zDf (g:=39) rfl rfl rfl ?_;refine zAd rfl rfl rfl rfl rfl (zE3 hl2 rfl rfl rfl rfl rfl rfl rfl) trivial ?_;refine zDf (g:=39) rfl rfl rfl ?_;refine zDK (off:=3) (sz:=4) rfl rfl rfl rfl rfl rfl rfl hl2 rfl hcv2 rfl ?_;refine zDf (g:=39) rfl rfl rfl ?_
   refine zAd rfl rfl rfl rfl rfl (zWu hv2 rfl rfl rfl rfl rfl) trivial ?_;refine zDf (g:=39) rfl rfl rfl ?_;refine zAd rfl rfl rfl rfl rfl rfl trivial ?_
   by_cases hs2:(ks2.length:Int)<=s
   ·rw[show decide ((ks2.length:Int)<=s)=true from decide_eq_true hs2]
    refine zAd rfl rfl rfl rfl rfl rfl trivial ?_;refine zAx rfl (fun _=>?_) (fun h=>by cases h)
    refine yAD ?_;refine zAh ?_;unfold zFV;exact⟨_,Le.forget [(5,.s (.bool false))] ⟨rfl,trivial⟩,_,rfl,hΦ1 (hI1.trans (zGQ (n:=.mk k t c ks) (by omega) hx (fun h=>by have:s<(ks2.length:Int):=h.2; omega)))⟩
   rw[show decide ((ks2.length:Int)<=s)=false from decide_eq_false hs2]
   refine zAd rfl rfl rfl rfl rfl rfl trivial ?_;refine zAx rfl (fun h=>by cases h) (fun _=>?_)
   refine zAf ?_;show Tri ..;have hs0:s.toNat<ks2.length :=(by omega);obtain⟨z,hz⟩:∃ z,ks2[s.toNat]? = some z:=⟨_,List.getElem?_eq_getElem hs0⟩
   obtain⟨b2,rows2,hc2,hr2,hlen2,hole2⟩:=Hole.kid hat2 hl2 hnd2 hz;refine zAj (Le.forgetH [(0,p),(1,.s (.sl 1 ((i::s::q).map (irow .i64)))),(4,.s .np),(5,.s (.bool false)),(6,.s (.int .i64 i)),(7,.s (.int .i64 s)),(8,.rp b1 4 i.toNat 0)] hp n ⟨rfl,rfl,rfl,rfl,rfl,rfl,rfl,trivial⟩ (fun _=>rfl) rfl) ?_;refine yAC ?_;refine zAd rfl rfl rfl rfl rfl (zDd hl2 (.inr rfl) rfl rfl) trivial ?_;refine zAd rfl rfl rfl rfl rfl (zEL hl2 rfl rfl) trivial ?_;refine zAd rfl rfl rfl rfl rfl (zE3 hl2 rfl rfl rfl rfl rfl rfl rfl) trivial ?_;refine zDK (off:=3) (sz:=4) rfl rfl rfl rfl rfl rfl rfl hl2 rfl hc2 rfl ?_
   refine zAd rfl rfl rfl rfl rfl rfl trivial ?_;refine zAd rfl rfl rfl rfl rfl (zP6 rfl rfl rfl rfl rfl rfl hr2 rfl) ⟨by omega,by rw[hlen2]; omega⟩ ?_;refine zAd rfl rfl rfl rfl rfl rfl trivial ?_;refine zAj (Le.forgetH [(0,.rp b2 4 s.toNat 0),(1,.s (.sl 1 ((i::s::q).map (irow .i64)))),(4,.s .np),(5,.s (.bool false))] hp n ⟨rfl,rfl,rfl,rfl,trivial⟩ (fun _=>rfl) rfl) ?_;refine yAC ?_;have h2l:(2:Int)<=((((i::s::q).map (irow .i64)).length:Nat):Int) :=(by simp only[List.map_cons,List.length_cons]; omega);refine zAd rfl rfl rfl rfl rfl rfl trivial ?_
   refine zAd rfl rfl rfl rfl rfl rfl ⟨by decide,h2l,Int.le_refl _⟩ ?_;refine zAd rfl rfl rfl rfl rfl rfl trivial ?_;have hI5:=Hole.step hnd hI4 hz hc2;refine⟨(.rp b2 4 s.toNat 0,z,q,fun r=>F (.mk k t c (ks.set i.toNat (.mk k2 t2 c2 (ks2.set s.toNat r))))),⟨?_,hI5,?_⟩,Le.forgetH [(0,.rp b2 4 s.toNat 0),(1,.s (.sl 1 (q.map (irow .i64)))),(4,.s .np),(5,.s (.bool false))] hp n ⟨rfl,congrArg (fun z=>AV.s (.sl 1 z)) ?_,rfl,rfl,trivial⟩ (fun _=>rfl) rfl,?_⟩
   ·exact hI1.trans (zOp (n:=.mk k t c ks) (by omega) hx (by omega) hz)
   ·intro r;exact(hI3 r).trans (congrArg F (zWd hx hz))
   ·show List.drop 2 (List.take ((((i::s::q).map (irow .i64)).length:Nat):Int).toNat ((i::s::q).map (irow .i64)))=_;rw[Int.toNat_natCast,List.take_length]; rfl
   ·show q.length<q.length+1+1
    omega
 ·refine zAB ?_;refine zAj (Le.forgetH [(0,p),(1,.s (.sl 1 (q.map (irow .i64)))),(4,.s .np),(5,.s (.bool false))] hp n ⟨rfl,rfl,rfl,rfl,trivial⟩ (fun _=>rfl) rfl) ?_;refine yAD ?_;refine zAd rfl rfl rfl rfl rfl (zDd hlp (.inr rfl) rfl rfl) trivial ?_
  match q,hI1,hI3,hb with
  | [],hI1,hI3,_ =>
   refine zAd rfl rfl rfl rfl rfl rfl trivial ?_;refine zAd rfl rfl rfl rfl rfl rfl trivial ?_;refine zAd rfl rfl rfl rfl rfl rfl trivial ?_;refine zAd rfl rfl rfl rfl rfl (zDd hlp (.inl rfl) rfl rfl) trivial ?_;refine zAd rfl rfl rfl rfl rfl rfl trivial ?_;refine zAh ?_;have hd:AV.deep p=p:=by rcases hlp with ⟨_,_,rfl⟩ | ⟨_,rfl⟩ <;> rfl
   unfold zFV;refine⟨_,Le.forget [(4,p),(5,.s (.bool true))] ⟨rfl,rfl,trivial⟩,.tup [p,.s (.bool true)],?_,hΦ2 p (.mk k t c ks) F (hI1.trans rfl) hI2 fun r=>(hI3 r).trans (by rw[zXH])⟩
   show some (AV.tup [AV.deep p,.s (.bool true)])=_;rw[hd]
  | [i],hI1,_,_ =>
   refine zAd rfl rfl rfl rfl rfl rfl trivial ?_;refine zAd rfl rfl rfl rfl rfl rfl trivial ?_;refine zAd rfl rfl rfl rfl rfl rfl trivial ?_;refine zAd rfl rfl rfl rfl rfl (zDd hlp (.inl rfl) rfl rfl) trivial ?_;refine zAd rfl rfl rfl rfl rfl rfl trivial ?_;refine zAh ?_;unfold zFV;exact⟨_,Le.forget [(5,.s (.bool false))] ⟨rfl,trivial⟩,_,rfl,hΦ1 (hI1.trans rfl)⟩
  | i::s::p,_,_,hb=>exact absurd (of_decide_eq_false hb) (by simp only[List.map_cons,List.length_cons]; omega)
theorem zIc {T:Nat->Option TI}{σ:St}{t ty q bt u:Nat}{i:TI}{cells:List AV} (h1:σ.env t = .op q 0) (h2:σ.hp q=some (.box bt cells)) (h3:T ty=some i) (ha:i.k.agg=true) (hz:i.size=cells.length):zHf T σ [.cell t ty,.tmp u]=some (.tup [AV.deep (.agg cells),(σ.env u).deep]):=by
 have hb:Nat.ble i.size cells.length=true :=(by rw[hz]; exact Nat.ble_eq_true_of_le (Nat.le_refl _));simp only[zHf,zHR,zRQ,h1,h2,h3,ha,hb]
 rw[hz,List.take_length]
theorem Hole.base {hp:Nat->Option Ob}{e:Nat}{p p1:AV}{y:Nd}{keys:List Nat}{F:Nd->Nd} (h:Hole hp e p keys p1 y F):zBr p1=zBr p∨zBr p1∈keys:=by
 obtain⟨keys0,rest,w0,a1,a2,a3,a4,_⟩:=h;rcases a4 with rfl | a4
 ·exact .inl rfl
 ·exact .inr (a1.mem_iff.2 (List.mem_append_right _ a4))
theorem At.ofV {hp:Nat->Option Ob}{e:Nat}{p v:AV}{k c:Int}{t:List UInt8}{ks:List Nd}{keys:List Nat} (hc:zAO hp p=some (zBd k t c v)) (h:VAt hp e v ks keys):∃ w,At hp e p (.mk k t c ks) keys [] w:=by
 rcases h with ⟨rfl,rfl,rfl⟩ | ⟨q,rows,keys',w,rfl,h1,h2,rfl,h3⟩
 ·exact⟨0,by simp only[At]; exact⟨_,hc,.inr (.inl (by simp))⟩⟩
 ·exact⟨w,by simp only[At]; exact⟨_,hc,.inr (.inr ⟨q,rows,keys',rfl,h1,h2,rfl,h3⟩)⟩⟩
def zSf (n:Nat) (xs:List AV) (r:Ret):Prop:=∃ (a0:Nd) (a1:List Int) (a2:Nd) (y0:Nd) (y1:Int),zEH n a0 a1 a2=some (y0,y1)/\xs=[.agg ((Nd.enc a0).map .s),.s (.sl 1 (a1.map (irow .i64))),.agg ((Nd.enc a2).map .s)]/\r = .val (.tup [.agg ((Nd.enc y0).map .s),.s (.int .i64 y1)])
def zL8:zAp:=zAu fun xs r=>∃ n,zSf n xs r
set_option maxHeartbeats 600000 in
theorem zRD:PSound Tryz.prog 41 zL8:=by
 have gok:∀ f s,look? f [(18,zDm),(71,zLZ),(19,zLY)]=some s->PSound Tryz.prog f s:=zAo (by
  simp only[List.forall_mem_cons]
  exact⟨zDC,zPx,zGS,by simp⟩)
 refine psq tokW Tryz.call41 Tryz.func41 rfl ?_;rintro xs r w0 G0 ⟨f,⟨k,t,c,ks⟩,path,⟨rk,rt,rc,rks⟩,y0,y1,h,rfl,rfl⟩ _;rw[zEH]at h;obtain⟨b,hb,h⟩:=zAc h;refine zZx [6] [] rfl ?_;refine zAa ?_;refine yAD ?_;refine⟨_,⟨f,_,_,hb,rfl,rfl⟩,?_⟩
 show Tri ..;cases b with
 | false =>
  refine zAx rfl (fun _=>?_) (fun h=>by cases h)
  refine yAD ?_;refine zAh ?_;obtain⟨rfl,rfl⟩:=Prod.mk.inj (Option.some.inj h)
  unfold zC4;exact⟨_,Le.refl _ _,rfl,rfl⟩
 | true =>
  refine zAx rfl (fun h=>by cases h) (fun _=>?_)
  refine zAf ?_;show Tri ..;rw[if_pos rfl]at h;obtain⟨n1,hn1,h⟩:=zAc h;obtain⟨hcnt,hn1⟩:=zAK hn1;obtain rfl:=Option.some.inj hn1;refine zZx [8] [] rfl ?_;refine⟨_,⟨k,c,t,ks,hcnt,rfl,fun v hp' n' keys h1 h2 h3 h4 h5=>?_⟩,fun _ _ _ h=>h⟩
  have hv1:v.one=true/\∀ m,n'<m->v.lt m=true:=by
   rcases h3 with ⟨_,rfl,_⟩ | ⟨q,_,_,_,rfl,_,_,hk,_⟩
   ·exact⟨rfl,fun _ _=>rfl⟩
   ·exact⟨rfl,fun m hm=>decide_eq_true (Nat.lt_trans (h5 q (by rw[hk]; exact List.mem_cons_self)).2 hm)⟩
  refine zRm (d:=16) ?_;refine zAd rfl rfl rfl rfl rfl rfl trivial ?_;refine zGy (sz:=4) (cs:=[.s (.int .i64 0),.s (.str []),.s (.int .i64 0),.nl 4]) (cs':=zBd k t c v) (p:=.op n' 0) rfl rfl rfl rfl rfl (.inr ⟨n',rfl⟩) rfl (zDZ (bt:=24) (by show(bif Nat.beq n' n' then _ else hp' n')=_; rw[Nat.beq_refl]; rfl)) rfl rfl rfl (by simp only[zBd,List.all_cons,List.all_nil,hv1.1]; rfl) (by have h0:v.lt (n'+1)=true:=hv1.2 _ (Nat.lt_succ_self _); show AV.ltAll (n'+1) (zBd k t c v)=true; simp only[zBd,AV.ltAll,h0]; rfl) ?_;show Tri ..
  refine zHU [(1,.s (.sl 1 (path.map (irow .i64)))),(5,.s (.pt (Nd.enc (.mk rk rt rc rks)))),(6,.op 0 0),(8,.op n' 0)] (n'+1) ⟨rfl,rfl,rfl,rfl,trivial⟩ rfl fun H hH=>?_
  have g1:H n'=some (.box 24 (zBd k t c v)):=(hH n').trans (by
   show putC (fun m=>bif Nat.beq m n' then some (Ob.box 24 [.s (.int .i64 0),.s (.str []),.s (.int .i64 0),.nl 4]) else hp' m) (.op n' 0) (zBd k t c v) n'=_;rw[zFI (bt:=24) (cs:=[.s (.int .i64 0),.s (.str []),.s (.int .i64 0),.nl 4]) (by simp only[Nat.beq_refl,cond_true])]
   simp only[Nat.beq_refl,cond_true])
  have g2:∀ m,m<n'->H m=hp' m:=fun m hm=>(hH m).trans (by
   show putC (fun m=>bif Nat.beq m n' then some (Ob.box 24 [.s (.int .i64 0),.s (.str []),.s (.int .i64 0),.nl 4]) else hp' m) (.op n' 0) (zBd k t c v) m=_;rw[zBS (show m ≠ n' by omega),zDY (show m ≠ n' by omega)]; rfl)
  clear hH
  have g0:H 0=some (.box 24 [.s (.int .i64 0),.s (.str []),.s (.int .i64 0),.nl 4]):=(g2 0 h1).trans (h2 0 (Nat.lt_succ_self 0))
  obtain⟨w,hat⟩:=At.ofV (zDZ g1) (h3.frame fun m hm=>g2 m (h5 m hm).2)
  have hnd:(zBr (.op n' 0)::keys).Nodup:=List.nodup_cons.2 ⟨fun hm=>Nat.lt_irrefl _ (h5 n' hm).2,h4⟩
  refine yAD ?_;refine⟨_,⟨.op n' 0,.mk k t c ks,path,keys,w,rfl,.inr ⟨n',rfl⟩,hat,hnd,fun hf=>?_,fun p1 y F hf hole hF=>?_⟩,fun _ _ _ h=>h⟩
  ·rw[hf]at h;refine zAa ?_;refine yAD ?_;refine zAx rfl (fun _=>?_) (fun h=>by cases h)
   obtain⟨rfl,rfl⟩:=Prod.mk.inj (Option.some.inj h)
   refine zAj (Le.forgetH [(6,.op 0 0)] H (n'+1) ⟨rfl,trivial⟩ (fun _=>rfl) rfl) ?_;refine yAD ?_;refine zAd rfl rfl rfl rfl rfl rfl trivial ?_;refine zGy (sz:=4) (cs:=[.s (.int .i64 0),.s (.str []),.s (.int .i64 0),.nl 4]) (cs':=[.s (.int .i64 0),.s (.str []),.s (.int .i64 0),.nl 4]) (p:=.op 0 0) rfl rfl rfl rfl rfl (.inr ⟨0,rfl⟩) rfl (zDZ (bt:=24) g0) rfl rfl rfl rfl rfl ?_;refine zAd rfl rfl rfl rfl rfl rfl trivial ?_;refine zAh ?_;unfold zC4
   refine⟨_,Le.refl _ _,(zIc (bt:=24) (cells:=[.s (.int .i64 0),.s (.str []),.s (.int .i64 0),.nl 4]) rfl ?_ rfl rfl rfl).trans rfl,rfl⟩
   show putC H (.op 0 0) _ 0=_;rw[zFI (bt:=24) (cs:=[.s (.int .i64 0),.s (.str []),.s (.int .i64 0),.nl 4]) g0]; rfl
  ·rw[hf]at h;obtain⟨keys1,w1,hat1,hl1,hnd1⟩:=hole.here hnd;refine zRm (d:=19) ?_;refine zAd rfl rfl rfl rfl rfl rfl trivial ?_;refine zAd rfl rfl rfl rfl rfl rfl trivial ?_;refine zAd rfl rfl rfl rfl rfl rfl trivial ?_;refine zAd rfl rfl rfl rfl rfl (zDd hl1 (.inl rfl) rfl rfl) trivial ?_;refine zAd rfl rfl rfl rfl rfl rfl trivial ?_;refine zAj (Le.forgetH [(5,.s (.pt (Nd.enc (.mk rk rt rc rks)))),(6,.op 0 0),(8,.op n' 0),(9,p1),(10,.s (.bool true))] H (n'+1) ⟨rfl,rfl,rfl,rfl,rfl,trivial⟩ (fun _=>rfl) rfl) ?_;refine zAa ?_;refine yAD ?_;show Tri ..
   refine zAx rfl (fun h=>by cases h) (fun _=>?_)
   refine zAf ?_;show Tri ..;obtain⟨b2,hb2,h⟩:=zAc h;refine zAa ?_;refine yAD ?_;refine⟨_,⟨f,_,_,hb2,rfl,rfl⟩,?_⟩
   show Tri ..;cases b2 with
   | false =>
    refine zAx rfl (fun _=>?_) (fun h=>by cases h)
    obtain⟨rfl,rfl⟩:=Prod.mk.inj (Option.some.inj h)
    refine zAj (Le.forgetH [(6,.op 0 0)] H (n'+1) ⟨rfl,trivial⟩ (fun _=>rfl) rfl) ?_;refine yAD ?_;refine zAd rfl rfl rfl rfl rfl rfl trivial ?_;refine zGy (sz:=4) (cs:=[.s (.int .i64 0),.s (.str []),.s (.int .i64 0),.nl 4]) (cs':=[.s (.int .i64 0),.s (.str []),.s (.int .i64 0),.nl 4]) (p:=.op 0 0) rfl rfl rfl rfl rfl (.inr ⟨0,rfl⟩) rfl (zDZ (bt:=24) g0) rfl rfl rfl rfl rfl ?_;refine zAd rfl rfl rfl rfl rfl rfl trivial ?_;refine zAh ?_;unfold zC4
    refine⟨_,Le.refl _ _,(zIc (bt:=24) (cells:=[.s (.int .i64 0),.s (.str []),.s (.int .i64 0),.nl 4]) rfl ?_ rfl rfl rfl).trans rfl,rfl⟩
    show putC H (.op 0 0) _ 0=_;rw[zFI (bt:=24) (cs:=[.s (.int .i64 0),.s (.str []),.s (.int .i64 0),.nl 4]) g0]; rfl
   | true =>
    refine zAx rfl (fun h=>by cases h) (fun _=>?_)
    refine zAf ?_;show Tri ..;rw[if_pos rfl]at h;obtain⟨n2,hn2,h⟩:=zAc h;obtain⟨hcnt2,hn2⟩:=zAK hn2;obtain rfl:=Option.some.inj hn2;refine zAj (Le.forgetH [(5,.s (.pt (Nd.enc (.mk rk rt rc rks)))),(6,.op 0 0),(8,.op n' 0),(9,p1)] H (n'+1) ⟨rfl,rfl,rfl,rfl,trivial⟩ (fun _=>rfl) rfl) ?_;refine yAD ?_;refine zAd rfl rfl rfl rfl rfl (zDd hl1 (.inr rfl) rfl rfl) trivial ?_;refine zAd rfl rfl rfl rfl rfl rfl trivial ?_;refine⟨_,⟨rk,rc,rt,rks,hcnt2,rfl,fun v2 hp2 n2 keys2 q1 q2 q3 q4 q5=>?_⟩,fun _ _ _ h=>h⟩
    refine zRm (d:=31) ?_;refine zAd rfl rfl rfl rfl rfl (zEL hl1 rfl rfl) trivial ?_;have hb1:zBr p1<n'+1:=by
     rcases hole.base with h | h
     ·have:zBr p1=n':=h
      omega
     ·have:=(h5 _ h).2; omega
    obtain⟨yk,yt,yc,yks⟩:=y;obtain⟨vy,hcy,_⟩:=hat1.full;have hcy2:zAO hp2 p1=some (zBd yk yt yc vy):=(zCl hl1 (q2 _ hb1)).trans hcy;have hv2:v2.one=true/\v2.lt n2=true:=by
     rcases q3 with ⟨_,rfl,_⟩ | ⟨q,_,_,_,rfl,_,_,hk,_⟩
     ·exact⟨rfl,rfl⟩
     ·exact⟨rfl,decide_eq_true (q5 q (by rw[hk]; exact List.mem_cons_self)).2⟩
    refine zGy (sz:=4) (cs':=zBd rk rt rc v2) rfl rfl rfl rfl rfl hl1 rfl hcy2 rfl rfl rfl (by simp only[zBd,List.all_cons,List.all_nil,hv2.1]; rfl) (by show AV.ltAll n2 (zBd rk rt rc v2)=true; simp only[zBd,AV.ltAll,hv2.2]; rfl) ?_;show Tri ..;refine zHU [(6,.op 0 0),(8,.op n' 0)] n2 ⟨rfl,rfl,trivial⟩ rfl fun H2 hH2=>?_
    have hH2:∀ m,H2 m=putC hp2 p1 (zBd rk rt rc v2) m:=hH2
    have hcp:zAO H2 p1=some (zBd rk rt rc v2):=(zCl hl1 (hH2 _)).trans (zIO hl1 hcy2)
    have hb2k:∀ m∈keys2,H2 m=hp2 m:=fun m hm=>(hH2 m).trans (zBS (by have hm1:n'+1<=m:=(q5 m hm).1; omega))
    obtain⟨w3,hat3⟩:=At.ofV hcp (q3.frame hb2k)
    obtain⟨keys0,rest,w0',a1,a2,a3,a4,a5⟩:=hole;have hrest:∀ m,m=n'∨m∈rest->m<n'+1:=fun m hm=>by
     rcases hm with rfl | hm
     ·omega
     ·have:=(h5 m (a1.mem_iff.2 (List.mem_append_right _ hm))).2; omega
    obtain⟨keys3,w4,hperm,hfin⟩:=a5 H2 (.mk rk rt rc rks) keys2 w3 (Sim.put (c:=zBd rk rt rc v2) hl1 hcy fun m hm=>(hH2 m).trans (zIb hl1 (q2 m (hrest m hm)) (q2 _ hb1))) hat3;have hput:F (.mk rk rt rc rks)=putL (.mk k t c ks) path (.mk rk rt rc rks):=(hF _).symm;rw[hput]at hfin;have hn0:∀ m,m=n'∨m∈keys3->m ≠ 0:=fun m hm=>by
     have e1:1<=n':=h1;rcases hm with rfl | hm
     ·omega
     ·rcases List.mem_append.1 (hperm.mem_iff.1 hm) with hm | hm
      ·have e2:1<=m:=(h5 m (a1.mem_iff.2 (List.mem_append_right _ hm))).1
       omega
      ·have e2:n'+1<=m:=(q5 m hm).1
       omega
    have hatD:At (fun m=>bif Nat.beq m 0 then none else H2 m) 24 (.op n' 0) (putL (.mk k t c ks) path (.mk rk rt rc rks)) keys3 [] w4:=hfin.frame (.inr ⟨n',rfl⟩) fun m hm=>by rw[zDY (hn0 m hm)]; rfl
    obtain⟨cs,hcs,hrd⟩:=hatD.rd;rcases zCU (sz:=4) (.inr ⟨n',rfl⟩) hcs with ⟨q,i,e,rows,h1,_⟩ | ⟨q,bt,h1,hbt⟩
    ·cases h1
    cases h1;refine zAj (Le.givePart [(6,.op 0 0),(8,.s (.pt (Nd.enc (putL (.mk k t c ks) path (.mk rk rt rc rks)))))] (fun m=>bif Nat.beq m 0 then none else H2 m) (fun m=>bif Nat.beq m 0 then H2 m else none) (fun m ob hm=>by
     cases e:Nat.beq m 0 with
     | true=>rw[e]at hm; cases hm
     | false=>rw[e]at hm; exact hm) (fun m ob hm=>by
     cases e:Nat.beq m 0 with
     | true=>rw[e]at hm; exact hm
     | false=>rw[e]at hm; cases hm) (fun m ob ob' h1 h2=>by
     cases e:Nat.beq m 0 with
     | true=>rw[e]at h1; cases h1
     | false=>rw[e]at h2; cases h2) ⟨.inl rfl,.inr (Rd.box (off:=0) hbt hrd.1 hrd.2),trivial⟩) ?_
    have hb0:0 ≠ zBr p1:=by
     rcases a4 with rfl | a4
     ·exact Ne.symm (hn0 n' (.inl rfl))
     ·exact Ne.symm (hn0 _ (.inr (hperm.mem_iff.2 (List.mem_append_left _ a4))))
    have g3:H2 0=some (.box 24 [.s (.int .i64 0),.s (.str []),.s (.int .i64 0),.nl 4]):=(hH2 0).trans ((zBS hb0).trans ((q2 0 (Nat.succ_pos n')).trans g0))
    clear hrd hcs hatD hfin hput
    generalize putL (.mk k t c ks) path (.mk rk rt rc rks)=T1 at *;obtain⟨k9,t9,c9,ks9⟩:=T1;obtain⟨b3,hb3,h⟩:=zAc h;refine zHU [(6,.op 0 0),(8,.s (.pt (Nd.enc (.mk k9 t9 c9 ks9))))] n2 ⟨rfl,rfl,trivial⟩ rfl fun H3 hH3=>?_
    have g4:H3 0=some (.box 24 [.s (.int .i64 0),.s (.str []),.s (.int .i64 0),.nl 4]):=(hH3 0).trans g3;refine zAa ?_;refine yAD ?_;refine⟨_,⟨f,_,_,hb3,rfl,rfl⟩,?_⟩
    show Tri ..;cases b3 with
    | false =>
     refine zAx rfl (fun _=>?_) (fun h=>by cases h)
     obtain⟨rfl,rfl⟩:=Prod.mk.inj (Option.some.inj h)
     refine zAj (Le.forgetH [(6,.op 0 0)] H3 n2 ⟨rfl,trivial⟩ (fun _=>rfl) rfl) ?_;refine yAD ?_;refine zAd rfl rfl rfl rfl rfl rfl trivial ?_;refine zGy (sz:=4) (cs:=[.s (.int .i64 0),.s (.str []),.s (.int .i64 0),.nl 4]) (cs':=[.s (.int .i64 0),.s (.str []),.s (.int .i64 0),.nl 4]) (p:=.op 0 0) rfl rfl rfl rfl rfl (.inr ⟨0,rfl⟩) rfl (zDZ (bt:=24) g4) rfl rfl rfl rfl rfl ?_;refine zAd rfl rfl rfl rfl rfl rfl trivial ?_;refine zAh ?_;unfold zC4
     refine⟨_,Le.refl _ _,(zIc (bt:=24) (cells:=[.s (.int .i64 0),.s (.str []),.s (.int .i64 0),.nl 4]) rfl ?_ rfl rfl rfl).trans rfl,rfl⟩
     show putC H3 (.op 0 0) _ 0=_;rw[zFI (bt:=24) (cs:=[.s (.int .i64 0),.s (.str []),.s (.int .i64 0),.nl 4]) g4]; rfl
    | true =>
     refine zAx rfl (fun h=>by cases h) (fun _=>?_)
     obtain⟨rfl,rfl⟩:=Prod.mk.inj (Option.some.inj h)
     refine zAf ?_;refine zAj (Le.forgetH [(6,.op 0 0),(8,.s (.pt (Nd.enc (.mk k9 t9 c9 ks9))))] H3 n2 ⟨rfl,rfl,trivial⟩ (fun _=>rfl) rfl) ?_;refine yAD ?_;refine zAd rfl rfl rfl rfl rfl rfl trivial ?_;refine zGy (sz:=4) (cs:=[.s (.int .i64 0),.s (.str []),.s (.int .i64 0),.nl 4]) (cs':=zBd k9 t9 c9 (.s (.sl 4 (Nd.encs ks9)))) (p:=.op 0 0) rfl rfl rfl rfl rfl (.inr ⟨0,rfl⟩) rfl (zDZ (bt:=24) g4) rfl rfl rfl rfl rfl ?_;refine zAd rfl rfl rfl rfl rfl rfl trivial ?_;refine zAh ?_;unfold zC4
     refine⟨_,Le.refl _ _,(zIc (bt:=24) (cells:=zBd k9 t9 c9 (.s (.sl 4 (Nd.encs ks9)))) rfl ?_ rfl rfl rfl).trans rfl,rfl⟩
     show putC H3 (.op 0 0) _ 0=_;rw[zFI (bt:=24) (cs:=[.s (.int .i64 0),.s (.str []),.s (.int .i64 0),.nl 4]) g4]; rfl
end Go.Proofs.YtbfnjnljboncgaaGreatDoor
namespace Go.Proofs
open Go.RowKit Go.Lib
theorem Tryz.Grow_nil_sNode (w:World) :
  Calls Tryz.prog 151 #[.slice none 0 0,.int .i64 0] w fun e w'=>e = .returned (.slice none 0 0)/\w'=w:=by
 have h2:wrap64 0=0:=by unfold wrap64; omega
 go_enter Tryz.func151,Tryz.ntmps151
 go_wp2
 go_ret
 exact⟨rfl,rfl⟩
set_option maxHeartbeats 4000000 in
theorem Tryz.Grow_new_sNode (i0:TypeInfo) (z:Value) (hi0:Tryz.prog.info? 24=some i0) (hz0:i0.zero=some z) (hs0:0<i0.size)
  (n:Nat) (w:World) (hroom:0<n) (hbig:n * i0.bytes<=140737488355328) (h63:n<=4611686018427387904) :
  Calls Tryz.prog 151 #[.slice none 0 0,.int .i64 n] w fun e w' =>
   e = .returned (.slice (some ⟨w.heap.size,0,none⟩) 0 (grownCap w n 0 24)) /\
   w'=w.drew.alloc (.cells (#[]++Builtin.zeroCells z.cells n++Builtin.zeroCells z.cells (grownCap w n 0 24 - n)) 24):=by
 have h1:¬ ((n:Int)<0) :=(by omega);have h2:wrap64 0=0 :=(by unfold wrap64; omega);have h3:wrap64 (n:Int)=(n:Int) :=(by unfold wrap64; omega);have h4:(n:Int) > 0 :=(by omega);have hold:(Builtin.firstCells i0.size 0 (.slice none 0 0)).run Tryz.prog w.drew = .ok ([]:List Value).toArray w.drew:=run_firstCells_none w.drew i0.size 0 0 0;have hrz:∀ ty,(Builtin.append_ #[22,3] ty #[.slice none 0 0,.int .i64 (n:Int)]).run Tryz.prog w =
   .ok (.slice (some ⟨w.heap.size,0,none⟩) n (grownCap w n 0 24)) (w.drew.alloc (.cells (#[]++Builtin.zeroCells z.cells n++Builtin.zeroCells z.cells (grownCap w n 0 24 - n)) 24)):=fun ty=>by
  have h:=Lib.run_append_grow_zeros w 22 3 ty 24 i0 z .i64 .i64 Tryz.underlying22 Tryz.underlying3 hi0 hz0 none 0 0 [] hold n (by omega) hs0 (by omega) (by omega) (by omega)
   (by rw[Nat.zero_add]; exact growslice_fits hroom hbig)
  rw[Nat.zero_add]at h;exact h
 have hGn:n<=grownCap w n 0 24:=grownCap_ge w _ _ _;obtain⟨G,hG⟩:∃ G,G=grownCap w n 0 24:=⟨_,rfl⟩
 rw[← hG]at hrz hGn ⊢;have hG63:G<=9223372036854775807:=by
  have:=grownCap_le_maxLen w n 0 24 (by unfold maxLen; omega)
  rw[← hG]at this;unfold maxLen at this
  omega
 clear hold hG
 go_enter Tryz.func151,Tryz.ntmps151
 go_wp2_with (at_builtin; refine Lib.wpList_append_run _ rfl _ _ _ _ rfl _ _ rfl rfl _ _ (hrz _) ?_)
 all_goals (go_ret; exact⟨rfl,rfl⟩)
theorem Tryz.Grow_nil_sint (w:World) :
  Calls Tryz.prog 81 #[.slice none 0 0,.int .i64 0] w fun e w'=>e = .returned (.slice none 0 0)/\w'=w:=by
 have h2:wrap64 0=0:=by unfold wrap64; omega
 go_enter Tryz.func81,Tryz.ntmps81
 go_wp2
 go_ret
 exact⟨rfl,rfl⟩
set_option maxHeartbeats 4000000 in
theorem Tryz.Grow_new_sint (i0:TypeInfo) (z:Value) (hi0:Tryz.prog.info? 3=some i0) (hz0:i0.zero=some z) (hs0:0<i0.size)
  (n:Nat) (w:World) (hroom:0<n) (hbig:n * i0.bytes<=140737488355328) (h63:n<=4611686018427387904) :
  Calls Tryz.prog 81 #[.slice none 0 0,.int .i64 n] w fun e w' =>
   e = .returned (.slice (some ⟨w.heap.size,0,none⟩) 0 (grownCap w n 0 3)) /\
   w'=w.drew.alloc (.cells (#[]++Builtin.zeroCells z.cells n++Builtin.zeroCells z.cells (grownCap w n 0 3 - n)) 3):=by
 have h1:¬ ((n:Int)<0) :=(by omega);have h2:wrap64 0=0 :=(by unfold wrap64; omega);have h3:wrap64 (n:Int)=(n:Int) :=(by unfold wrap64; omega);have h4:(n:Int) > 0 :=(by omega);have hold:(Builtin.firstCells i0.size 0 (.slice none 0 0)).run Tryz.prog w.drew = .ok ([]:List Value).toArray w.drew:=run_firstCells_none w.drew i0.size 0 0 0;have hrz:∀ ty,(Builtin.append_ #[28,3] ty #[.slice none 0 0,.int .i64 (n:Int)]).run Tryz.prog w =
   .ok (.slice (some ⟨w.heap.size,0,none⟩) n (grownCap w n 0 3)) (w.drew.alloc (.cells (#[]++Builtin.zeroCells z.cells n++Builtin.zeroCells z.cells (grownCap w n 0 3 - n)) 3)):=fun ty=>by
  have h:=Lib.run_append_grow_zeros w 28 3 ty 3 i0 z .i64 .i64 Tryz.underlying28 Tryz.underlying3 hi0 hz0 none 0 0 [] hold n (by omega) hs0 (by omega) (by omega) (by omega)
   (by rw[Nat.zero_add]; exact growslice_fits hroom hbig)
  rw[Nat.zero_add]at h;exact h
 have hGn:n<=grownCap w n 0 3:=grownCap_ge w _ _ _;obtain⟨G,hG⟩:∃ G,G=grownCap w n 0 3:=⟨_,rfl⟩
 rw[← hG]at hrz hGn ⊢;have hG63:G<=9223372036854775807:=by
  have:=grownCap_le_maxLen w n 0 3 (by unfold maxLen; omega)
  rw[← hG]at this;unfold maxLen at this
  omega
 clear hold hG
 go_enter Tryz.func81,Tryz.ntmps81
 go_wp2_with (at_builtin; refine Lib.wpList_append_run _ rfl _ _ _ _ rfl _ _ rfl rfl _ _ (hrz _) ?_)
 all_goals (go_ret; exact⟨rfl,rfl⟩)
end Go.Proofs
namespace Go.Proofs.YtbfnjnljboncgaaGreatDoor
open Go.Abs
theorem zWW (z:Array Value) (n:Nat):(Builtin.zeroCells z n).size=n * z.size:=by simp[Builtin.zeroCells]
def zIH (xs:List AV) (r:Ret):Prop:=∃ (a0:Int) (y0:List Nd),zDU a0=some y0/\xs=[.nl 4,.s (.int .i64 a0)]/\r = .row 24 4 (Nd.encs y0)
def zFt:zAp:=zZ6 fun xs r=>zIH xs r
theorem zIm:PSound Tryz.prog 151 zFt :=
 ⟨Tryz.call151,fun G w xs vs r hl hg _ hv ⟨a0,y0,hm,hx,hr⟩=>by
  subst hx; subst hr
  obtain⟨⟨q1,q2⟩,hm⟩:=zAK hm;obtain rfl:=Option.some.inj hm;obtain⟨n,rfl⟩:=Int.eq_ofNat_of_zero_le q1;simp only[AVals,AVal,Rep]at hv;obtain⟨_,_,rfl,rfl,_,_,rfl,rfl,rfl⟩:=hv
  by_cases h0:n=0
  ·subst h0;exact(Tryz.Grow_nil_sNode w).mono fun e w' ⟨h1,h2⟩=>by
    subst h2;exact⟨_,G,h1,Ext.refl hl,fun r hr=>(by cases hr),by decide,.inl ⟨rfl,rfl⟩⟩
  obtain⟨d,info,z,b1,b2,b3,b4,b5,b6,b7,b8,b9,b10⟩:=tokW 24 _ rfl;have i1:info.size=4:=b4;have i2:info.bytes=56:=b5;have hzs:z.cells.size=4:=zHX b7 b8 b9;refine(Tryz.Grow_new_sNode info z b3 b6 (by omega) n w (by omega) (by rw[i2]; omega) (by omega)).mono fun e w' ⟨h1,h2⟩=>?_
  have hge:n<=grownCap w n 0 24 :=(by unfold grownCap Question.cut; simp);generalize grownCap w n 0 24=g at *;refine⟨_,G,h1,?_,fun r hr=>(by cases hr),by decide,.inr ⟨w.heap.size,g,#[]++Builtin.zeroCells z.cells n++Builtin.zeroCells z.cells (g - n),rfl,Nat.zero_le _,?_,by rw[h2]; exact RowBlk.laid (zB4 w.drew _),fun h=>Nat.lt_irrefl _ (hl _ h),Nat.le_refl _,fun i s hi=>by cases hi⟩⟩
  ·rw[h2]
   exact(Ext.drew hl).trans (Ext.own (w:=w.drew) hl _)
  ·simp only[Array.size_append,Array.size_empty,zWW,hzs]
   omega,
 fun R hR=>(by cases hR),fun R hR=>(by cases hR)⟩
def zIh (xs:List AV) (r:Ret):Prop:=∃ (a0:List Nd) (y0:List Nd),zDH a0=some y0/\xs=[.s (.sl 4 (Nd.encs a0))]/\r = .val (.s (.sl 4 (Nd.encs y0)))
def zE8:zAp:=zAu fun xs r=>zIh xs r
theorem zHM:PSound Tryz.prog 108 zE8:=by
 have gok:=@gok0 Tryz.prog;refine psq tokW Tryz.call108 Tryz.func108 rfl ?_;rintro xs r w0 G0 ⟨l,y,h,rfl,rfl⟩ _;obtain⟨hq,h⟩:=zAK h;obtain rfl:=Option.some.inj h;have hlen:(Nd.encs l).length=l.length:=rlen Nd.encs_eq l;refine yAD ?_;refine zAa ?_;refine yAD ?_;intro b hb;show Tri ..;cases b with
 | true =>
  have hl:=hb rfl;refine zAx rfl (fun _=>?_) (fun h=>by cases h)
  refine yAD ?_;refine zAh ?_;unfold zC4;exact⟨_,Le.refl _ _,congrArg (fun z=>some (AV.s (.sl 4 z))) hl.symm,rfl⟩
 | false =>
  refine zAx rfl (fun h=>by cases h) (fun _=>?_)
  refine zAf ?_;refine zZx [5,7] [] rfl ?_;refine And.intro (show(([]:List (List S)).length+(Nd.encs l).length) * 56<=140737488355328/\([]:List (List S)).length+(Nd.encs l).length<=9223372036854775807 from by rw[hlen]; simp only[List.length_nil]; omega) ?_;refine zAh ?_;unfold zC4;exact⟨_,Le.giveRow 1 (e:=24) (sz:=4) (rows:=Nd.encs l) rfl,rfl,rfl⟩
def zJd (xs:List AV) (r:Ret):Prop:=∃ (a0:Int) (y0:List Int),zDh a0=some y0/\xs=[.nl 1,.s (.int .i64 a0)]/\r = .row 3 1 ((List.map (irow .i64)) y0)
def zF0:zAp:=zZ6 fun xs r=>zJd xs r
theorem zIY:PSound Tryz.prog 81 zF0 :=
 ⟨Tryz.call81,fun G w xs vs r hl hg _ hv ⟨a0,y0,hm,hx,hr⟩=>by
  subst hx; subst hr
  obtain⟨⟨q1,q2⟩,hm⟩:=zAK hm;obtain rfl:=Option.some.inj hm;obtain⟨n,rfl⟩:=Int.eq_ofNat_of_zero_le q1;simp only[AVals,AVal,Rep]at hv;obtain⟨_,_,rfl,rfl,_,_,rfl,rfl,rfl⟩:=hv
  by_cases h0:n=0
  ·subst h0;exact(Tryz.Grow_nil_sint w).mono fun e w' ⟨h1,h2⟩=>by
    subst h2;exact⟨_,G,h1,Ext.refl hl,fun r hr=>(by cases hr),by decide,.inl ⟨rfl,rfl⟩⟩
  obtain⟨d,info,z,b1,b2,b3,b4,b5,b6,b7,b8,b9,b10⟩:=tokW 3 _ rfl;have i1:info.size=1:=b4;have i2:info.bytes=8:=b5;have hzs:z.cells.size=1:=zHX b7 b8 b9;refine(Tryz.Grow_new_sint info z b3 b6 (by omega) n w (by omega) (by rw[i2]; omega) (by omega)).mono fun e w' ⟨h1,h2⟩=>?_
  have hge:n<=grownCap w n 0 3 :=(by unfold grownCap Question.cut; simp);generalize grownCap w n 0 3=g at *;refine⟨_,G,h1,?_,fun r hr=>(by cases hr),by decide,.inr ⟨w.heap.size,g,#[]++Builtin.zeroCells z.cells n++Builtin.zeroCells z.cells (g - n),rfl,Nat.zero_le _,?_,by rw[h2]; exact RowBlk.laid (zB4 w.drew _),fun h=>Nat.lt_irrefl _ (hl _ h),Nat.le_refl _,fun i s hi=>by cases hi⟩⟩
  ·rw[h2]
   exact(Ext.drew hl).trans (Ext.own (w:=w.drew) hl _)
  ·simp only[Array.size_append,Array.size_empty,zWW,hzs]
   omega,
 fun R hR=>(by cases hR),fun R hR=>(by cases hR)⟩
def zIG (xs:List AV) (r:Ret):Prop:=∃ (a0:List Int) (y0:List Int),zCX a0=some y0/\xs=[.s (.sl 1 ((List.map (irow .i64)) a0))]/\r = .val (.s (.sl 1 ((List.map (irow .i64)) y0)))
def zFs:zAp:=zAu fun xs r=>zIG xs r
theorem zIl:PSound Tryz.prog 78 zFs:=by
 have gok:=@gok0 Tryz.prog;refine psq tokW Tryz.call78 Tryz.func78 rfl ?_;rintro xs r w0 G0 ⟨l,y,h,rfl,rfl⟩ _;obtain⟨hq,h⟩:=zAK h;obtain rfl:=Option.some.inj h;have hlen:((List.map (irow .i64)) l).length=l.length:=rlen (fun _=>rfl) l;refine yAD ?_;refine zAa ?_;refine yAD ?_;intro b hb;show Tri ..;cases b with
 | true =>
  have hl:=hb rfl;refine zAx rfl (fun _=>?_) (fun h=>by cases h)
  refine yAD ?_;refine zAh ?_;unfold zC4;exact⟨_,Le.refl _ _,congrArg (fun z=>some (AV.s (.sl 1 z))) hl.symm,rfl⟩
 | false =>
  refine zAx rfl (fun h=>by cases h) (fun _=>?_)
  refine zAf ?_;refine zZx [5,7] [] rfl ?_;refine And.intro (show(([]:List (List S)).length+((List.map (irow .i64)) l).length) * 8<=140737488355328/\([]:List (List S)).length+((List.map (irow .i64)) l).length<=9223372036854775807 from by rw[hlen]; simp only[List.length_nil]; omega) ?_;refine zAh ?_;unfold zC4;exact⟨_,Le.giveRow 1 (e:=3) (sz:=1) (rows:=(List.map (irow .i64)) l) rfl,rfl,rfl⟩
def zBw (p:List Nd):List S:=[.sl 4 (Nd.encs p)]
def zHi (n:Nat) (xs:List AV) (r:Ret):Prop:=∃ (a0:List (List Nd)) (y0:List Nd),zBP n a0=some y0/\xs=[.s (.sl 1 ((List.map zBw) a0))]/\r = .row 24 4 (Nd.encs y0)
def zES:zAp:=zAu fun xs r=>∃ n,zHi n xs r
theorem yAa {α:Type}{a b:α} (h:a=b:=by simp[List.map_append,List.map_take,List.map_drop,irow,brow,zF2,List.map_cons,List.map_nil,zFw,Nd.encs_eq,Nd.enc,zBH,zA5,zAF,zAM,zAk,zEh,zAN,zAE,zBw]):a=b :=
 h
theorem zHd:PSound Tryz.prog 132 zES:=by
 have gok:∀ f s,look? f [(151,zFt)]=some s->PSound Tryz.prog f s:=zAo (by
  simp only[List.forall_mem_cons]
  exact⟨zIm,by simp⟩)
 refine psq tokW Tryz.call132 Tryz.func132 rfl ?_;rintro xs r w0 G0 ⟨n,slices1,y0,h,rfl,rfl⟩ _;rw[zBP]at h;refine zZx [2] [] rfl ?_;refine zAj (Le.rnq [] [(0,.s (.sl 1 ((List.map zBw) slices1)))] [] 0) ?_;refine yAD ?_;refine zAa ?_;refine zZx [] [10] rfl ?_;intro n2 hn2;obtain rfl:=rlE (fun _=>rfl) slices1 hn2;show Tri ..;obtain⟨size5,hl,h⟩:=zAc h;refine zAn ⟨ofL [(0,.s (.sl 1 ((List.map zBw) slices1))),(3,.s (.int .i64 size5))],fun _=>none,0⟩ ?_ (fun σ' hle=>?_)
 ·refine zAi (zAy (X:=Nat×Int×Int) (fun y=>match y with | (k,x3,size4)=>⟨ofL [(0,.s (.sl 1 ((List.map zBw) slices1))),(3,.s (.int .i64 size4)),(9,.s (.sl 1 ((List.map zBw) slices1))),(10,.s (.int .i64 (slices1.length:Int))),(11,.s (.int .i64 x3))],fun _=>none,0⟩) (fun y=>zAU slices1 y.1 y.2.1 y.2.2=some size5) (fun y=>y.1) (n,0,0) hl ?_ ?_)
  ·exact Le.fgt
  ·rintro⟨k,x3,size4⟩ h;cases k with
   | zero=>cases h
   | succ k =>
    replace h:zAU slices1 (k+1) x3 size4=some size5:=h;rw[zAU]at h;refine yAD ?_;refine zAa ?_;refine zAm rfl h (fun hb h=>?_) (fun hb h=>?_)
    ·refine zAf ?_;refine zAa ?_;refine zAi ?_;refine zZx [] [13] rfl ?_;obtain⟨e6,he6,h⟩:=zAc h;refine And.intro (zAq (fun _=>rfl) he6).1 ?_;intro r7 hr7;obtain rfl:[.sl 4 (Nd.encs e6)]=r7:=(hr7.trans (zAq (fun _=>rfl) he6).2.1).symm;refine zZx [] [17] rfl ?_;intro n8 hn8;obtain rfl:=rlE Nd.encs_eq e6 hn8;refine yAD ?_;refine zAm rfl h (fun hb h=>?_) (fun hb h=>?_)
     ·cases h
     ·refine zAf ?_;refine yAC ?_;refine⟨(k,IntKind.i64.wrap (x3+1),IntKind.i64.wrap (size4+(e6.length:Int))),h,Le.fgt,Nat.lt_succ_self k⟩
    ·refine zAB ?_;cases h;exact Le.fgt
 ·refine zAj hle ?_;refine zZx [24] [] rfl ?_;obtain⟨y9,hy9,h⟩:=zAc h;refine⟨_,⟨_,_,hy9,rfl,rfl⟩,?_⟩
  refine zAa ?_;refine zZx [] [26] rfl ?_;intro n10 hn10;obtain rfl:=rlE (fun _=>rfl) slices1 hn10;show Tri ..;obtain⟨l14,hl,h⟩:=zAc h;refine zAn ⟨ofL [(6,.orow 0)],ofH [(0,.row 24 4 (Nd.encs l14))],1⟩ ?_ (fun σ' hle=>?_)
  ·refine zAi (zAy (X:=Nat×Int×(List Nd)) (fun y=>match y with | (k,x11,l13)=>⟨ofL [(6,.orow 0),(25,.s (.sl 1 ((List.map zBw) slices1))),(26,.s (.int .i64 (slices1.length:Int))),(27,.s (.int .i64 x11))],ofH [(0,.row 24 4 (Nd.encs l13))],1⟩) (fun y=>zAW slices1 y.1 y.2.1 y.2.2=some l14) (fun y=>y.1) (n,0,y9) hl ?_ ?_)
   ·exact(Le.rnq [(0,0)] _ _ _)
   ·rintro⟨k,x11,l13⟩ h;cases k with
    | zero=>cases h
    | succ k =>
     replace h:zAW slices1 (k+1) x11 l13=some l14:=h;rw[zAW]at h;refine yAD ?_;refine zAa ?_;refine zAm rfl h (fun hb h=>?_) (fun hb h=>?_)
     ·refine zAf ?_;refine zAa ?_;refine zAi ?_;refine zZx [] [29] rfl ?_;obtain⟨e15,he15,h⟩:=zAc h;refine And.intro (zAq (fun _=>rfl) he15).1 ?_;intro r16 hr16;obtain rfl:[.sl 4 (Nd.encs e15)]=r16:=(hr16.trans (zAq (fun _=>rfl) he15).2.1).symm;refine zAb [33] [] rfl ?_;obtain⟨hq,h⟩:=zAK h;refine And.intro (show((Nd.encs l13).length+(Nd.encs e15).length) * 56<=140737488355328/\(Nd.encs l13).length+(Nd.encs e15).length<=9223372036854775807 from by simp only[List.length_append,List.length_cons,List.length_nil,List.length_map,rlen Nd.encs_eq]at hq ⊢; omega) ?_
      refine zAj (Le.rnq [(1,0)] [(6,.orow 0),(25,.s (.sl 1 ((List.map zBw) slices1))),(26,.s (.int .i64 (slices1.length:Int))),(27,.s (.int .i64 x11))] [(0,.row 24 4 (Nd.encs (l13++e15)))] 1 (h2:=⟨rfl,⟨_,rfl,congrArg (Ob.row 24 4) yAa⟩,trivial⟩)) ?_;refine yAC ?_
      refine⟨(k,IntKind.i64.wrap (x11+1),l13++e15),h,(Le.rnq [(0,0)] _ _ _),Nat.lt_succ_self k⟩
     ·refine zAB ?_;cases h;exact(Le.rnq [(0,0)] _ _ _)
  ·refine zAj hle ?_;refine yAD ?_;refine zAh ?_;have hy:=osi h;subst hy;unfold zC4;exact⟨_,Le.refl _ _,0,rfl,rfl⟩
def zA9 (p:(zO8×List Nd)):List S:=[.int .i64 p.1.1,.sl 1 ((List.map (irow .i64)) p.1.2.1),.int .i64 p.1.2.2.1,.int .i64 p.1.2.2.2.1,.sl 4 (Nd.encs p.1.2.2.2.2.1),.int .i64 p.1.2.2.2.2.2.1,.str p.1.2.2.2.2.2.2.1,.str p.1.2.2.2.2.2.2.2,.sl 4 (Nd.encs p.2)]
def zI9 (n:Nat) (xs:List AV) (r:Ret):Prop:=∃ (a0:(zO8×List Nd)) (a1:Int) (a2:List Nd) (y0:List Nd),zAZ n a0 a1 a2=some y0/\xs=[.agg ((zA9 a0).map .s),.s (.int .i64 a1),.s (.sl 4 (Nd.encs a2))]/\r = .val (.s (.sl 4 (Nd.encs y0)))
def zBQ:zAp:=zAu fun xs r=>∃ n,zI9 n xs r
theorem zCk:PSound Tryz.prog 105 zBQ:=by
 have gok:∀ f s,look? f [(132,zES)]=some s->PSound Tryz.prog f s:=zAo (by
  simp only[List.forall_mem_cons]
  exact⟨zHd,by simp⟩)
 refine psq tokW Tryz.call105 Tryz.func105 rfl ?_;rintro xs r w0 G0 ⟨n,⟨⟨c1O,c1S,c1F,c1P,c1M,c1N,c1R,c1Q⟩,c1G⟩,n2,nodes3,y0,h,rfl,rfl⟩ _;rw[zAZ]at h;refine yAD ?_;refine zAa ?_;refine zA0 [] [12,21,22] [] rfl (by decide +kernel) ?_;obtain⟨hq,h⟩:=zAK h;refine And.intro ⟨hq.1,hq.2.1,Int.le_trans hq.2.2 (Int.ofNat_le.2 (Nat.le_of_eq (rlen Nd.encs_eq _).symm))⟩ ?_;intro r4 hr4;obtain rfl:Nd.encs ((c1G.take c1F.toNat).drop (0:Int).toNat)=r4:=(hr4.trans (rcut Nd.encs_eq _ _ _)).symm;obtain⟨hq,h⟩:=zAK h
 refine And.intro ⟨hq.1,Int.le_trans hq.2.1 (Int.ofNat_le.2 (Nat.le_of_eq (rlen Nd.encs_eq _).symm)),Int.le_refl _⟩ ?_;intro r5 hr5;obtain rfl:Nd.encs ((c1G.take (c1G.length:Int).toNat).drop (IntKind.i64.wrap (c1F+n2)).toNat)=r5:=(hr5.trans ((congrArg (fun m:Nat=>((Nd.encs c1G).take m).drop (IntKind.i64.wrap (c1F+n2)).toNat) (rlen Nd.encs_eq _)).trans (rcut Nd.encs_eq _ _ _))).symm;intro r6 hr6
 obtain rfl:(List.map zBw) [(c1G.take c1F.toNat).drop (0:Int).toNat,nodes3,(c1G.take (c1G.length:Int).toNat).drop (IntKind.i64.wrap (c1F+n2)).toNat]=r6:=(hr6.trans yAa).symm;obtain⟨y7,hy7,h⟩:=zAc h;refine⟨_,⟨_,_,_,hy7,rfl,rfl⟩,?_⟩
 refine zAh ?_;have hy:=osi h;subst hy;exact fin0 rfl rfl
def zGc (n:Nat) (xs:List AV) (r:Ret):Prop:=∃ (a0:(zO8×List Nd)) (y0:List Nd) (y1:Int),zBp n a0=some (y0,y1)/\xs=[.agg ((zA9 a0).map .s)]/\r = .val (.tup [.s (.sl 4 (Nd.encs y0)),.s (.int .i64 y1)])
def zGe:zAp:=zAu fun xs r=>∃ n,zGc n xs r
theorem zFT:PSound Tryz.prog 76 zGe:=by
 have gok:∀ f s,look? f [(19,zFp),(104,zFX),(107,zK1),(105,zBQ)]=some s->PSound Tryz.prog f s:=zAo (by
  simp only[List.forall_mem_cons]
  exact⟨zHa,zGY,zPP,zCk,by simp⟩)
 refine psq tokW Tryz.call76 Tryz.func76 rfl ?_;rintro xs r w0 G0 ⟨n,⟨⟨c1O,c1S,c1F,c1P,c1M,c1N,c1R,c1Q⟩,c1G⟩,y0,y1,h,rfl,rfl⟩ _;rw[zBp]at h;refine yAD ?_;refine zZx [4] [11] rfl ?_;obtain⟨⟨e2A,e2C,e2D,e2B⟩,he2,h⟩:=zAc h;refine And.intro (zAq Nd.encs_eq he2).1 ?_;intro r3 hr3;obtain rfl:[.int .i64 e2A,.str e2C,.int .i64 e2D,.sl 4 (Nd.encs e2B)]=r3:=(hr3.trans (zAq Nd.encs_eq he2).2.1).symm;obtain⟨⟨y4A,y4C,y4D,y4B⟩,hy4,h⟩:=zAc h
 refine⟨_,_,⟨_,_,hy4,rfl,rfl,rfl,rfl⟩,?_⟩
 refine zAa ?_;refine zAa ?_;refine zA0 [] [] [3,4] rfl (by decide +kernel) ?_;obtain⟨y5,hy5,h⟩:=zAc h;refine⟨_,⟨_,_,hy5,rfl,rfl⟩,?_⟩
 refine zAm rfl h (fun hb h=>?_) (fun hb h=>?_)
 ·refine yAD ?_;refine zAh ?_;obtain⟨hj1,hk1⟩:=pij h;subst hj1 hk1;exact fin0 rfl rfl
 ·refine zAf ?_;refine yAD ?_;obtain⟨⟨e6A,e6C,e6D,e6B⟩,he6,h⟩:=zAc h;refine And.intro (zAq Nd.encs_eq he6).1 ?_;refine And.intro (zAq Nd.encs_eq he6).2.2 ?_;refine⟨_,(zAq Nd.encs_eq he6).2.1,?_⟩
  refine yAD ?_;obtain⟨⟨e7A,e7C,e7D,e7B⟩,he7,h⟩:=zAc h;refine And.intro (zAq Nd.encs_eq he7).1 ?_;have hset8:=(rset (R:=Nd.encs) (f:=Nd.enc) Nd.encs_eq he7 (Nd.mk e7A e7C e7D []) 3 4 [.sl 4 (Nd.encs [])] rfl)
  have hat8:=at_set he7 (Nd.mk e7A e7C e7D [])
  refine And.intro (zAq Nd.encs_eq he7).2.2 ?_;refine zAj (Le.rnq [(1,0),(0,1)] [(1,.s (.pt [.int .i64 c1O,.sl 1 ((List.map (irow .i64)) c1S),.int .i64 c1F,.int .i64 c1P,.sl 4 (Nd.encs c1M),.int .i64 c1N,.str c1R,.str c1Q,.sl 4 (Nd.encs c1G)])),(4,.op 0 0),(5,.s (.sl 4 (Nd.encs e6B)))] [(0,.box 24 [.s (.int .i64 y4A),.s (.str y4C),.s (.int .i64 y4D),.orow 1]),(1,.row 24 4 (Nd.encs (y4B.set c1N.toNat (Nd.mk e7A e7C e7D []))))] 2 (h2:=⟨rfl,⟨_,rfl,rfl⟩,rfl,⟨_,rfl,congrArg (Ob.row 24 4) hset8⟩,trivial⟩)) ?_;refine zAa ?_;refine zAa ?_
  obtain⟨x9,hj,h⟩:=zAc h;refine zAn ⟨ofL [(1,.s (.pt [.int .i64 c1O,.sl 1 ((List.map (irow .i64)) c1S),.int .i64 c1F,.int .i64 c1P,.sl 4 (Nd.encs c1M),.int .i64 c1N,.str c1R,.str c1Q,.sl 4 (Nd.encs c1G)])),(5,.s (.sl 4 (Nd.encs e6B))),(50,.s (.bool x9))],fun _=>none,0⟩ ?_ (fun σ' hle=>?_)
  ·replace h:=hj;refine zA0 [] [36,41,46] [7,13] rfl (by decide +kernel) ?_;intro n10 hn10;obtain rfl:=rlE Nd.encs_eq e6B hn10;intro b hb;cases b with
   | true =>
    replace h:=zAw hb.symm h;cases h;exact(Le.rnq [] _ [] 0)
   | false =>
    replace h:=zAv hb.symm h;obtain⟨⟨e11A,e11C,e11D,e11B⟩,he11,h⟩:=zAc h;refine And.intro (zAq Nd.encs_eq he11).1 ?_;intro r12 hr12;obtain rfl:[.int .i64 e11A,.str e11C,.int .i64 e11D,.sl 4 (Nd.encs e11B)]=r12:=(hr12.trans (zAq Nd.encs_eq he11).2.1).symm;obtain⟨y13,hy13,h⟩:=zAc h;refine⟨_,⟨_,_,_,_,hy13,rfl,rfl⟩,?_⟩
    cases h;exact(Le.rnq [] _ [] 0)
  ·refine zAj hle ?_;refine zAm rfl h (fun hb h=>?_) (fun hb h=>?_)
   ·refine yAD ?_;refine zAh ?_;obtain⟨hj1,hk1⟩:=pij h;subst hj1 hk1;exact fin0 rfl rfl
   ·refine zAf ?_;refine yAD ?_;obtain⟨y14,hy14,h⟩:=zAc h;refine⟨_,⟨_,_,_,_,_,hy14,rfl,rfl⟩,?_⟩
    refine zAh ?_;obtain⟨hj1,hk1⟩:=pij h;subst hj1 hk1;exact fin0 rfl rfl
def zGd (xs:List AV) (r:Ret):Prop:=∃ (a0:(zO8×List Nd)) (y0:List Nd) (y1:Int),zBq a0=some (y0,y1)/\xs=[.agg ((zA9 a0).map .s)]/\r = .val (.tup [.s (.sl 4 (Nd.encs y0)),.s (.int .i64 y1)])
def zGf:zAp:=zAu fun xs r=>zGd xs r
theorem zFU:PSound Tryz.prog 76 zGf:=by
 have gok:∀ f s,look? f [(19,zFo),(104,zFX)]=some s->PSound Tryz.prog f s:=zAo (by
  simp only[List.forall_mem_cons]
  exact⟨zF6,zGY,by simp⟩)
 refine psq tokW Tryz.call76 Tryz.func76 rfl ?_;rintro xs r w0 G0 ⟨⟨⟨c1O,c1S,c1F,c1P,c1M,c1N,c1R,c1Q⟩,c1G⟩,y0,y1,h,rfl,rfl⟩ _;rw[zBq]at h;refine yAD ?_;refine zZx [4] [11] rfl ?_;obtain⟨⟨e2A,e2C,e2D,e2B⟩,he2,h⟩:=zAc h;refine And.intro (zAq Nd.encs_eq he2).1 ?_;intro r3 hr3;obtain rfl:[.int .i64 e2A,.str e2C,.int .i64 e2D,.sl 4 (Nd.encs e2B)]=r3:=(hr3.trans (zAq Nd.encs_eq he2).2.1).symm;obtain⟨⟨y4A,y4C,y4D,y4B⟩,hy4,h⟩:=zAc h
 refine⟨_,⟨_,_,hy4,rfl,rfl⟩,?_⟩
 refine zAa ?_;refine zAa ?_;refine zA0 [] [] [3] rfl (by decide +kernel) ?_;obtain⟨y5,hy5,h⟩:=zAc h;refine⟨_,⟨_,_,hy5,rfl,rfl⟩,?_⟩
 refine zAm rfl h (fun hb h=>?_) (fun hb h=>?_)
 ·refine yAD ?_;refine zAh ?_;obtain⟨hj1,hk1⟩:=pij h;subst hj1 hk1;exact fin0 rfl rfl
 ·refine zAf ?_;refine zAa ?_;cases h
def zJa (n:Nat) (xs:List AV) (r:Ret):Prop:=∃ (a0:(zO8×List Nd)) (y0:List Nd) (y1:Int),zDg n a0=some (y0,y1)/\xs=[.agg ((zA9 a0).map .s)]/\r = .val (.tup [.s (.sl 4 (Nd.encs y0)),.s (.int .i64 y1)])
def zFW:zAp:=zAu fun xs r=>∃ n,zJa n xs r
theorem zIo {α:Type}{a b:α} (h:a=b:=by simp[List.map_append,List.map_take,List.map_drop,irow,brow,zF2,List.map_cons,List.map_nil,zFw,Nd.encs_eq,Nd.enc,zBH,zA5,zAF,zAM,zAk,zEh,zAN,zAE,zBw,zA9]):a=b :=
 h
theorem zIV:PSound Tryz.prog 75 zFW:=by
 have gok:∀ f s,look? f [(19,zFp),(108,zE8),(105,zBQ)]=some s->PSound Tryz.prog f s:=zAo (by
  simp only[List.forall_mem_cons]
  exact⟨zHa,zHM,zCk,by simp⟩)
 refine psq tokW Tryz.call75 Tryz.func75 rfl ?_;rintro xs r w0 G0 ⟨n,⟨⟨c1O,c1S,c1F,c1P,c1M,c1N,c1R,c1Q⟩,c1G⟩,y0,y1,h,rfl,rfl⟩ _;rw[zDg]at h;refine yAD ?_;refine zZx [4] [8] rfl ?_;obtain⟨⟨e2A,e2C,e2D,e2B⟩,he2,h⟩:=zAc h;refine And.intro (zAq Nd.encs_eq he2).1 ?_;intro r3 hr3;obtain rfl:[.int .i64 e2A,.str e2C,.int .i64 e2D,.sl 4 (Nd.encs e2B)]=r3:=(hr3.trans (zAq Nd.encs_eq he2).2.1).symm;obtain⟨⟨y4A,y4C,y4D,y4B⟩,hy4,h⟩:=zAc h
 refine⟨_,_,⟨_,_,hy4,rfl,rfl,rfl,rfl⟩,?_⟩
 refine zAa ?_;refine zA0 [] [28] [1,19,21] rfl (by decide +kernel) ?_;obtain⟨hq,h⟩:=zAK h;refine And.intro ⟨hq.1,hq.2.1,Int.le_trans hq.2.2 (Int.ofNat_le.2 (Nat.le_of_eq (rlen Nd.encs_eq _).symm))⟩ ?_;intro r5 hr5;obtain rfl:Nd.encs ((c1G.take (IntKind.i64.wrap (c1F+c1P)).toNat).drop c1F.toNat)=r5:=(hr5.trans (rcut Nd.encs_eq _ _ _)).symm;obtain⟨y6,hy6,h⟩:=zAc h;refine⟨_,⟨_,_,hy6,rfl,rfl⟩,?_⟩
 obtain⟨⟨e7A,e7C,e7D,e7B⟩,he7,h⟩:=zAc h;refine And.intro (zAq Nd.encs_eq he7).1 ?_;have hset8:=(rset (R:=Nd.encs) (f:=Nd.enc) Nd.encs_eq he7 (Nd.mk e7A e7C e7D y6) 3 4 [.sl 4 (Nd.encs y6)] rfl)
 have hat8:=at_set he7 (Nd.mk e7A e7C e7D y6)
 refine And.intro (zAq Nd.encs_eq he7).2.2 ?_;show Tri ..
 refine zAj (Le.trans (Le.trans (Le.trans (Le.rnq [(1,0),(0,1)] [(1,.s (.pt [.int .i64 c1O,.sl 1 ((List.map (irow .i64)) c1S),.int .i64 c1F,.int .i64 c1P,.sl 4 (Nd.encs c1M),.int .i64 c1N,.str c1R,.str c1Q,.sl 4 (Nd.encs c1G)])),(4,.op 0 0)] [(0,.box 24 [.s (.int .i64 y4A),.s (.str y4C),.s (.int .i64 y4D),.orow 1]),(1,.row 24 4 (Nd.encs (y4B.set c1N.toNat (Nd.mk e7A e7C e7D y6))))] 2 (h2:=⟨rfl,⟨_,rfl,rfl⟩,rfl,⟨_,rfl,congrArg (Ob.row 24 4) hset8⟩,trivial⟩)) (Le.giveRow 1 rfl)) (Le.rnq [(0,0)] [(1,.s (.pt [.int .i64 c1O,.sl 1 ((List.map (irow .i64)) c1S),.int .i64 c1F,.int .i64 c1P,.sl 4 (Nd.encs c1M),.int .i64 c1N,.str c1R,.str c1Q,.sl 4 (Nd.encs c1G)])),(4,.op 0 0)] [(0,.box 24 [.s (.int .i64 y4A),.s (.str y4C),.s (.int .i64 y4D),.s (.sl 4 (Nd.encs (y4B.set c1N.toNat (Nd.mk e7A e7C e7D y6))))])] 1)) (Le.giveBox 0 [.int .i64 y4A,.str y4C,.int .i64 y4D,.sl 4 (Nd.encs (y4B.set c1N.toNat (Nd.mk e7A e7C e7D y6)))] rfl rfl)) ?_
 refine zZx [] [37] rfl ?_;intro r9 hr9;obtain rfl:Nd.encs [Nd.mk y4A y4C y4D (y4B.set c1N.toNat (Nd.mk e7A e7C e7D y6))]=r9:=(hr9.trans zIo).symm;obtain⟨y10,hy10,h⟩:=zAc h;refine⟨_,⟨_,_,_,_,_,hy10,rfl,rfl⟩,?_⟩
 refine zAh ?_;obtain⟨hj1,hk1⟩:=pij h;subst hj1 hk1;exact fin0 rfl rfl
def zIe (n:Nat) (xs:List AV) (r:Ret):Prop:=∃ (a0:(zO8×List Nd)) (y0:List Nd) (y1:Int),zCE n a0=some (y0,y1)/\xs=[.agg ((zA9 a0).map .s)]/\r = .val (.tup [.s (.sl 4 (Nd.encs y0)),.s (.int .i64 y1)])
def zE5:zAp:=zAu fun xs r=>∃ n,zIe n xs r
theorem zHJ:PSound Tryz.prog 73 zE5:=by
 have gok:∀ f s,look? f [(105,zBQ)]=some s->PSound Tryz.prog f s:=zAo (by
  simp only[List.forall_mem_cons]
  exact⟨zCk,by simp⟩)
 refine psq tokW Tryz.call73 Tryz.func73 rfl ?_;rintro xs r w0 G0 ⟨n,⟨⟨c1O,c1S,c1F,c1P,c1M,c1N,c1R,c1Q⟩,c1G⟩,y0,y1,h,rfl,rfl⟩ _;rw[zCE]at h;refine yAD ?_;refine yAD ?_;obtain⟨y2,hy2,h⟩:=zAc h;refine⟨_,⟨_,_,_,_,_,hy2,rfl,rfl⟩,?_⟩
 refine zAh ?_;obtain⟨hj1,hk1⟩:=pij h;subst hj1 hk1;exact fin0 rfl rfl
def zIf (n:Nat) (xs:List AV) (r:Ret):Prop:=∃ (a0:(zO8×List Nd)) (y0:List Nd) (y1:Int),zCF n a0=some (y0,y1)/\xs=[.agg ((zA9 a0).map .s)]/\r = .val (.tup [.s (.sl 4 (Nd.encs y0)),.s (.int .i64 y1)])
def zE6:zAp:=zAu fun xs r=>∃ n,zIf n xs r
theorem zHK:PSound Tryz.prog 74 zE6:=by
 have gok:∀ f s,look? f [(106,zDW),(105,zBQ)]=some s->PSound Tryz.prog f s:=zAo (by
  simp only[List.forall_mem_cons]
  exact⟨zGm,zCk,by simp⟩)
 refine psq tokW Tryz.call74 Tryz.func74 rfl ?_;rintro xs r w0 G0 ⟨n,⟨⟨c1O,c1S,c1F,c1P,c1M,c1N,c1R,c1Q⟩,c1G⟩,y0,y1,h,rfl,rfl⟩ _;rw[zCF]at h;refine yAD ?_;refine zZx [] [8] rfl ?_;intro n2 hn2;obtain rfl:=rlE Nd.encs_eq c1M hn2;refine zAa ?_;refine zAa ?_;refine zA0 [] [19] [] rfl (by decide +kernel) ?_;obtain⟨hq,h⟩:=zAK h;refine And.intro ⟨hq.1,hq.2.1,Int.le_trans hq.2.2 (Int.ofNat_le.2 (Nat.le_of_eq (rlen Nd.encs_eq _).symm))⟩ ?_;intro r3 hr3
 obtain rfl:Nd.encs ((c1G.take (IntKind.i64.wrap (c1F+(c1M.length:Int))).toNat).drop c1F.toNat)=r3:=(hr3.trans (rcut Nd.encs_eq _ _ _)).symm;obtain⟨y4,hy4,h⟩:=zAc h;refine⟨_,⟨_,_,_,_,hy4,rfl,rfl⟩,?_⟩
 refine zAm rfl h (fun hb h=>?_) (fun hb h=>?_)
 ·refine yAD ?_;refine zAh ?_;obtain⟨hj1,hk1⟩:=pij h;subst hj1 hk1;exact fin0 rfl rfl
 ·refine zAf ?_;refine yAD ?_;obtain⟨y5,hy5,h⟩:=zAc h;refine⟨_,⟨_,_,_,_,_,hy5,rfl,rfl⟩,?_⟩
  refine zAh ?_;obtain⟨hj1,hk1⟩:=pij h;subst hj1 hk1;exact fin0 rfl rfl
def zKh (n:Nat) (xs:List AV) (r:Ret):Prop:=∃ (a0:(zO8×List Nd)) (y0:List Nd) (y1:Int),zDx n a0=some (y0,y1)/\xs=[.agg ((zA9 a0).map .s)]/\r = .val (.tup [.s (.sl 4 (Nd.encs y0)),.s (.int .i64 y1)])
def zGt:zAp:=zAu fun xs r=>∃ n,zKh n xs r
theorem zJP:PSound Tryz.prog 77 zGt:=by
 have gok:∀ f s,look? f [(105,zBQ)]=some s->PSound Tryz.prog f s:=zAo (by
  simp only[List.forall_mem_cons]
  exact⟨zCk,by simp⟩)
 refine psq tokW Tryz.call77 Tryz.func77 rfl ?_;rintro xs r w0 G0 ⟨n,⟨⟨c1O,c1S,c1F,c1P,c1M,c1N,c1R,c1Q⟩,c1G⟩,y0,y1,h,rfl,rfl⟩ _;rw[zDx]at h;refine yAD ?_;refine zZx [4] [10] rfl ?_;obtain⟨⟨e2A,e2C,e2D,e2B⟩,he2,h⟩:=zAc h;refine And.intro (zAq Nd.encs_eq he2).1 ?_;intro r3 hr3;obtain rfl:[.int .i64 e2A,.str e2C,.int .i64 e2D,.sl 4 (Nd.encs e2B)]=r3:=(hr3.trans (zAq Nd.encs_eq he2).2.1).symm;refine zAa ?_;refine yAD ?_
 show Tri ..;obtain⟨fl,hj,ho1⟩:=zAc h;refine zF9 (fl:=fl) (fun z=>match z with | _=>⟨ofL [(1,.s (.pt [.int .i64 c1O,.sl 1 ((List.map (irow .i64)) c1S),.int .i64 c1F,.int .i64 c1P,.sl 4 (Nd.encs c1M),.int .i64 c1N,.str c1R,.str c1Q,.sl 4 (Nd.encs c1G)])),(4,.op 0 0)],ofH [(0,.box 24 [.s (.int .i64 e2A),.s (.str e2C),.s (.int .i64 e2D),.s (.sl 4 (Nd.encs e2B))])],1⟩) ?_ (fun z σ' hz hle=>?_)
 ·replace h:=hj;refine zAi ?_;refine zAa ?_;refine yAD ?_;show Tri ..;obtain⟨x4,hj,h⟩:=zAc h;refine zAn ⟨ofL [(1,.s (.pt [.int .i64 c1O,.sl 1 ((List.map (irow .i64)) c1S),.int .i64 c1F,.int .i64 c1P,.sl 4 (Nd.encs c1M),.int .i64 c1N,.str c1R,.str c1Q,.sl 4 (Nd.encs c1G)])),(4,.op 0 0),(14,.s (.bool x4))],ofH [(0,.box 24 [.s (.int .i64 e2A),.s (.str e2C),.s (.int .i64 e2D),.s (.sl 4 (Nd.encs e2B))])],1⟩ ?_ (fun σ' hle=>?_)
  ·replace h:=hj;refine zAm rfl h (fun hb h=>?_) (fun hb h=>?_)
   ·refine zAf ?_;cases h;exact(Le.rnq [(0,0)] _ _ _)
   ·refine yAD ?_;refine zAm rfl h (fun hb h=>?_) (fun hb h=>?_)
    ·refine zAf ?_;cases h;exact(Le.rnq [(0,0)] _ _ _)
    ·refine yAD ?_;refine zAm rfl h (fun hb h=>?_) (fun hb h=>?_)
     ·refine zAf ?_;cases h;exact(Le.rnq [(0,0)] _ _ _)
     ·refine yAD ?_;refine zAm rfl h (fun hb h=>?_) (fun hb h=>?_)
      ·refine zAf ?_;cases h;exact(Le.rnq [(0,0)] _ _ _)
      ·refine yAC ?_;cases h;exact(Le.rnq [(0,0)] _ _ _)
  ·refine zAj hle ?_;refine zAm rfl h (fun hb h=>?_) (fun hb h=>?_)
   ·refine zAf ?_;cases h;exact⟨_,rfl,(Le.rnq [(0,0)] _ _ _)⟩
   ·refine yAD ?_;refine zAh ?_;cases h;replace h:some _=some _:=ho1;obtain⟨hj1,hk1⟩:=pij h;subst hj1 hk1;exact fin0 rfl rfl
 ·subst hz;obtain _:=z;replace h:=ho1;refine zAj hle ?_;refine zAa ?_;refine yAD ?_;refine zAm rfl h (fun hb h=>?_) (fun hb h=>?_)
  ·refine yAD ?_;refine zAh ?_;obtain⟨hj1,hk1⟩:=pij h;subst hj1 hk1;exact fin0 rfl rfl
  ·refine zAf ?_;refine yAD ?_;refine zZx [] [32] rfl ?_;intro r5 hr5;obtain rfl:Nd.encs [Nd.mk e2A c1Q e2D e2B]=r5:=(hr5.trans zIo).symm;obtain⟨y6,hy6,h⟩:=zAc h;refine⟨_,⟨_,_,_,_,_,hy6,rfl,rfl⟩,?_⟩
   refine zAh ?_;obtain⟨hj1,hk1⟩:=pij h;subst hj1 hk1;exact fin0 rfl rfl
def zId (xs:List AV) (r:Ret):Prop:=∃ (a0:(zO8×List Nd)) (y0:Int),zB0 a0=some y0/\xs=[.agg ((zA9 a0).map .s)]/\r = .val (.s (.int .i64 y0))
def zE4:zAp:=zAu fun xs r=>zId xs r
theorem zHI:PSound Tryz.prog 72 zE4:=by
 have gok:=@gok0 Tryz.prog;refine psq tokW Tryz.call72 Tryz.func72 rfl ?_;rintro xs r w0 G0 ⟨⟨⟨c1O,c1S,c1F,c1P,c1M,c1N,c1R,c1Q⟩,c1G⟩,y0,h,rfl,rfl⟩ _;rw[zB0]at h;refine yAD ?_;refine yAD ?_;refine zAa ?_;refine yAD ?_;show Tri ..;obtain⟨need2,hj,h⟩:=zAc h
 refine zAn ⟨ofL [(1,.s (.pt [.int .i64 c1O,.sl 1 ((List.map (irow .i64)) c1S),.int .i64 c1F,.int .i64 c1P,.sl 4 (Nd.encs c1M),.int .i64 c1N,.str c1R,.str c1Q,.sl 4 (Nd.encs c1G)])),(3,.s (.int .i64 need2))],fun _=>none,0⟩ ?_ (fun σ' hle=>?_)
 ·replace h:=hj;refine zAi ?_;refine yAD ?_;refine zAm rfl h (fun hb h=>?_) (fun hb h=>?_)
  ·refine yAC ?_;cases h;exact Le.fgt
  ·refine yAD ?_;refine zAm rfl h (fun hb h=>?_) (fun hb h=>?_)
   ·refine zAb [] [14] rfl ?_;intro n3 hn3;obtain rfl:=rlE Nd.encs_eq c1M hn3;cases h;exact Le.fgt
   ·refine yAD ?_;refine zAm rfl h (fun hb h=>?_) (fun hb h=>?_)
    ·refine yAC ?_;cases h;exact Le.fgt
    ·refine zAf ?_;cases h;exact Le.fgt
 ·refine zAj hle ?_;refine zAa ?_;refine zAa ?_;obtain⟨x4,hj,h⟩:=zAc h;refine zAn ⟨ofL [(43,.s (.bool x4))],fun _=>none,0⟩ ?_ (fun σ' hle=>?_)
  ·replace h:=hj;refine zAb [] [24,30,33,37] rfl ?_;intro b hb;cases b with
   | true =>
    replace h:=zAw hb.symm h;intro b hb;subst hb;cases h;exact Le.fgt
   | false =>
    replace h:=zAv hb.symm h;intro n5 hn5;obtain rfl:=rlE Nd.encs_eq c1G hn5;intro b hb;cases b with
    | true =>
     replace h:=zAw hb.symm h;cases h;exact Le.fgt
    | false =>
     replace h:=zAv hb.symm h;intro n6 hn6;obtain rfl:=rlE Nd.encs_eq c1G hn6;cases h;exact Le.fgt
  ·refine zAj hle ?_;refine zAm rfl h (fun hb h=>?_) (fun hb h=>?_)
   ·refine yAD ?_;refine zAh ?_;have hy:=osi h;subst hy;exact fin0 rfl rfl
   ·refine zAf ?_;refine yAD ?_;refine zAh ?_;have hy:=osi h;subst hy;exact fin0 rfl rfl
def zLn (n:Nat) (xs:List AV) (r:Ret):Prop:=∃ (a0:List Nd) (a1:Int) (y0:Bool),zC7 n a0 a1=some y0/\xs=[.s (.sl 4 (Nd.encs a0)),.s (.int .i64 a1)]/\r = .val (.s (.bool y0))
def zG7:zAp:=zAu fun xs r=>∃ n,zLn n xs r
theorem zKy:PSound Tryz.prog 70 zG7:=by
 have gok:∀ f s,look? f [(69,zEA),(104,zFX)]=some s->PSound Tryz.prog f s:=zAo (by
  simp only[List.forall_mem_cons]
  exact⟨zF7,zGY,by simp⟩)
 refine psq tokW Tryz.call70 Tryz.func70 rfl ?_;rintro xs r w0 G0 ⟨n,l1,slot2,y0,h,rfl,rfl⟩ _;rw[zC7]at h;refine yAD ?_;refine zAa ?_;refine zAa ?_;obtain⟨x3,hj,h⟩:=zAc h;refine zAn ⟨ofL [(0,.s (.sl 4 (Nd.encs l1))),(1,.s (.int .i64 slot2)),(24,.s (.bool x3))],fun _=>none,0⟩ ?_ (fun σ' hle=>?_)
 ·replace h:=hj;refine zAb [] [6,8,13,17,20] rfl ?_;intro n4 hn4;obtain rfl:=rlE Nd.encs_eq l1 hn4;intro b hb;cases b with
  | true =>
   replace h:=zAw hb.symm h;intro b hb;subst hb;intro b hb;subst hb;cases h;exact Le.fgt
  | false =>
   replace h:=zAv hb.symm h;obtain⟨y5,hy5,h⟩:=zAc h;refine⟨_,⟨_,_,_,hy5,rfl,rfl⟩,?_⟩
   intro b hb;cases b with
   | true =>
    replace h:=zAw hb.symm h;intro b hb;subst hb;cases h;exact Le.fgt
   | false =>
    replace h:=zAv hb.symm h;intro b hb;cases b with
    | true =>
     replace h:=zAw hb.symm h;cases h;exact Le.fgt
    | false =>
     replace h:=zAv hb.symm h;obtain⟨⟨e6A,e6C,e6D,e6B⟩,he6,h⟩:=zAc h;refine And.intro (zAq Nd.encs_eq he6).1 ?_;intro r7 hr7;obtain rfl:[.int .i64 e6A,.str e6C,.int .i64 e6D,.sl 4 (Nd.encs e6B)]=r7:=(hr7.trans (zAq Nd.encs_eq he6).2.1).symm;obtain⟨y8,hy8,h⟩:=zAc h;refine⟨_,⟨_,_,hy8,rfl,rfl⟩,?_⟩
     cases h;exact Le.fgt
 ·refine zAj hle ?_;refine zAm rfl h (fun hb h=>?_) (fun hb h=>?_)
  ·refine yAD ?_;refine zAh ?_;have hy:=osi h;subst hy;exact fin0 rfl rfl
  ·refine zAf ?_;refine zZx [] [26,30,33] rfl ?_;obtain⟨⟨e9A,e9C,e9D,e9B⟩,he9,h⟩:=zAc h;refine And.intro (zAq Nd.encs_eq he9).1 ?_;intro r10 hr10;obtain rfl:[.int .i64 e9A,.str e9C,.int .i64 e9D,.sl 4 (Nd.encs e9B)]=r10:=(hr10.trans (zAq Nd.encs_eq he9).2.1).symm;obtain⟨⟨e11A,e11C,e11D,e11B⟩,he11,h⟩:=zAc h;refine And.intro (zAq Nd.encs_eq he11).1 ?_;intro r12 hr12;obtain rfl:[.int .i64 e11A,.str e11C,.int .i64 e11D,.sl 4 (Nd.encs e11B)]=r12:=(hr12.trans (zAq Nd.encs_eq he11).2.1).symm;intro n13 hn13
   obtain rfl:=rlE Nd.encs_eq e11B hn13;refine zAh ?_;have hy:=osi h;subst hy;exact fin0 rfl rfl
def zO7 (n:Nat) (xs:List AV) (r:Ret):Prop:=∃ (a0:zO8) (y0:Bool),zEo n a0=some y0/\xs=[.agg ((zAk a0).map .s)]/\r = .val (.s (.bool y0))
def zJj:zAp:=zAu fun xs r=>∃ n,zO7 n xs r
theorem zNS:PSound Tryz.prog 38 zJj:=by
 have gok:∀ f s,look? f [(69,zEA),(70,zG7)]=some s->PSound Tryz.prog f s:=zAo (by
  simp only[List.forall_mem_cons]
  exact⟨zF7,zKy,by simp⟩)
 refine psq tokW Tryz.call38 Tryz.func38 rfl ?_;rintro xs r w0 G0 ⟨n,⟨a1A,a1I,a1L,a1J,a1E,a1K,a1H,a1C⟩,y0,h,rfl,rfl⟩ _;rw[zEo]at h;refine yAD ?_;refine zAa ?_;obtain⟨x2,hj,h⟩:=zAc h;refine zAn ⟨ofL [(1,.s (.pt [.int .i64 a1A,.sl 1 ((List.map (irow .i64)) a1I),.int .i64 a1L,.int .i64 a1J,.sl 4 (Nd.encs a1E),.int .i64 a1K,.str a1H,.str a1C])),(3,.s (.bool x2))],fun _=>none,0⟩ ?_ (fun σ' hle=>?_)
 ·replace h:=hj;refine zAb [] [7] rfl ?_;intro b hb;cases b with
  | true =>
   replace h:=zAw hb.symm h;cases h;exact Le.fgt
  | false =>
   replace h:=zAv hb.symm h;cases h;exact Le.fgt
 ·refine zAj hle ?_;refine zAa ?_;refine yAD ?_;show Tri ..;obtain⟨fl,hj,ho1⟩:=zAc h;refine zF9 (fl:=fl) (fun z=>match z with | _=>⟨ofL [],fun _=>none,0⟩) ?_ (fun z σ' hz hle=>?_)
  ·replace h:=hj;refine zAi ?_;refine zAa ?_;refine yAD ?_;show Tri ..;obtain⟨x3,hj,h⟩:=zAc h;refine zAn ⟨ofL [(1,.s (.pt [.int .i64 a1A,.sl 1 ((List.map (irow .i64)) a1I),.int .i64 a1L,.int .i64 a1J,.sl 4 (Nd.encs a1E),.int .i64 a1K,.str a1H,.str a1C])),(3,.s (.bool x2)),(13,.s (.int .i64 a1A)),(14,.s (.bool x3))],fun _=>none,0⟩ ?_ (fun σ' hle=>?_)
   ·replace h:=hj;refine zAm rfl h (fun hb h=>?_) (fun hb h=>?_)
    ·refine zAf ?_;cases h;exact Le.fgt
    ·refine yAC ?_;cases h;exact Le.fgt
   ·refine zAj hle ?_;refine zAm rfl h (fun hb h=>?_) (fun hb h=>?_)
    ·refine zAa ?_;obtain⟨x4,hj,h⟩:=zAc h;refine zAn ⟨ofL [(2,.s (.bool x4))],fun _=>none,0⟩ ?_ (fun σ' hle=>?_)
     ·replace h:=hj;refine zAb [] [20,25,29,32,35] rfl ?_;intro b hb;cases b with
      | true =>
       replace h:=zAw hb.symm h;intro b hb;cases b with
       | true =>
        replace h:=zAw hb.symm h;intro b hb;cases b with
        | true =>
         replace h:=zAw hb.symm h;intro n5 hn5;obtain rfl:=rlE Nd.encs_eq a1E hn5;intro b hb;cases b with
         | true =>
          replace h:=zAw hb.symm h;obtain⟨y6,hy6,h⟩:=zAc h;refine⟨_,⟨_,_,_,hy6,rfl,rfl⟩,?_⟩
          cases h;exact Le.fgt
         | false =>
          replace h:=zAv hb.symm h;cases h;exact Le.fgt
        | false =>
         replace h:=zAv hb.symm h;intro b hb;subst hb;cases h;exact Le.fgt
       | false =>
        replace h:=zAv hb.symm h;intro b hb;subst hb;intro b hb;subst hb;cases h;exact Le.fgt
      | false =>
       replace h:=zAv hb.symm h;intro b hb;subst hb;intro b hb;subst hb;intro b hb;subst hb;cases h;exact Le.fgt
     ·refine zAj hle ?_;refine zAh ?_;cases h;replace h:some _=some _:=ho1;have hy:=osi h;subst hy;exact fin0 rfl rfl
    ·refine zAa ?_;refine yAD ?_;show Tri ..;obtain⟨x7,hj,h⟩:=zAc h;refine zAn ⟨ofL [(1,.s (.pt [.int .i64 a1A,.sl 1 ((List.map (irow .i64)) a1I),.int .i64 a1L,.int .i64 a1J,.sl 4 (Nd.encs a1E),.int .i64 a1K,.str a1H,.str a1C])),(3,.s (.bool x2)),(13,.s (.int .i64 a1A)),(40,.s (.bool x7))],fun _=>none,0⟩ ?_ (fun σ' hle=>?_)
     ·replace h:=hj;refine zAm rfl h (fun hb h=>?_) (fun hb h=>?_)
      ·refine zAf ?_;cases h;exact Le.fgt
      ·refine yAC ?_;cases h;exact Le.fgt
     ·refine zAj hle ?_;refine zAm rfl h (fun hb h=>?_) (fun hb h=>?_)
      ·refine zAa ?_;obtain⟨x8,hj,h⟩:=zAc h;refine zAn ⟨ofL [(2,.s (.bool x8))],fun _=>none,0⟩ ?_ (fun σ' hle=>?_)
       ·replace h:=hj;refine zAb [] [46,50] rfl ?_;intro b hb;cases b with
        | true =>
         replace h:=zAw hb.symm h;intro b hb;cases b with
         | true =>
          replace h:=zAw hb.symm h;obtain⟨y9,hy9,h⟩:=zAc h;refine⟨_,⟨_,_,_,_,hy9,rfl,rfl⟩,?_⟩
          cases h;exact Le.fgt
         | false =>
          replace h:=zAv hb.symm h;cases h;exact Le.fgt
        | false =>
         replace h:=zAv hb.symm h;intro b hb;subst hb;cases h;exact Le.fgt
       ·refine zAj hle ?_;refine zAh ?_;cases h;replace h:some _=some _:=ho1;have hy:=osi h;subst hy;exact fin0 rfl rfl
      ·refine yAD ?_;refine zAm rfl h (fun hb h=>?_) (fun hb h=>?_)
       ·refine zAa ?_;obtain⟨x10,hj,h⟩:=zAc h;refine zAn ⟨ofL [(2,.s (.bool x10))],fun _=>none,0⟩ ?_ (fun σ' hle=>?_)
        ·replace h:=hj;refine zAb [] [62,67,70,73] rfl ?_;intro b hb;cases b with
         | true =>
          replace h:=zAw hb.symm h;intro b hb;cases b with
          | true =>
           replace h:=zAw hb.symm h;intro n11 hn11;obtain rfl:=rlE Nd.encs_eq a1E hn11;intro b hb;cases b with
           | true =>
            replace h:=zAw hb.symm h;cases h;exact Le.fgt
           | false =>
            replace h:=zAv hb.symm h;cases h;exact Le.fgt
          | false =>
           replace h:=zAv hb.symm h;intro b hb;subst hb;cases h;exact Le.fgt
         | false =>
          replace h:=zAv hb.symm h;intro b hb;subst hb;intro b hb;subst hb;cases h;exact Le.fgt
        ·refine zAj hle ?_;refine zAh ?_;cases h;replace h:some _=some _:=ho1;have hy:=osi h;subst hy;exact fin0 rfl rfl
       ·refine zAf ?_;cases h;exact⟨_,rfl,Le.fgt⟩
  ·subst hz;obtain _:=z;replace h:=ho1;refine zAj hle ?_;refine yAD ?_;refine zAh ?_;have hy:=osi h;subst hy;exact fin0 rfl rfl
def zSb (xs:List AV) (r:Ret):Prop:=∃ (a0:List Int) (y0:List Int),zFB a0=some y0/\xs=[.s (.sl 1 ((List.map (irow .i64)) a0))]/\r = .val (.s (.sl 1 ((List.map (irow .i64)) y0)))
def zL4:zAp:=zAu fun xs r=>zSb xs r
theorem zRA:PSound Tryz.prog 42 zL4:=by
 have gok:∀ f s,look? f [(78,zFs)]=some s->PSound Tryz.prog f s:=zAo (by
  simp only[List.forall_mem_cons]
  exact⟨zIl,by simp⟩)
 refine psq tokW Tryz.call42 Tryz.func42 rfl ?_;rintro xs r w0 G0 ⟨l1,y0,h,rfl,rfl⟩ _;rw[zFB]at h;refine yAD ?_;refine yAD ?_;obtain⟨y2,hy2,h⟩:=zAc h;refine⟨_,⟨_,_,hy2,rfl,rfl⟩,?_⟩
 refine zAh ?_;have hy:=osi h;subst hy;exact fin0 rfl rfl
def zQm (n:Nat) (xs:List AV) (r:Ret):Prop:=∃ (a0:List Nd) (y0:List Nd),zEW n a0=some y0/\xs=[.s (.sl 4 (Nd.encs a0))]/\r = .row 24 4 (Nd.encs y0)
def zKY:zAp:=zAu fun xs r=>∃ n,zQm n xs r
theorem zPM:PSound Tryz.prog 43 zKY:=by
 have gok:∀ f s,look? f [(19,zFo)]=some s->PSound Tryz.prog f s:=zAo (by
  simp only[List.forall_mem_cons]
  exact⟨zF6,by simp⟩)
 refine psq tokW Tryz.call43 Tryz.func43 rfl ?_;rintro xs r w0 G0 ⟨n,l1,y0,h,rfl,rfl⟩ _;rw[zEW]at h;refine zZx [2] [] rfl ?_;refine zAj (Le.rnq [] [(0,.s (.sl 4 (Nd.encs l1)))] [] 0) ?_;refine zZx [3] [] rfl ?_;show Tri ..
 refine zAj (Le.rnq [(0,0)] [(0,.s (.sl 4 (Nd.encs l1))),(3,.orow 0)] [(0,.row 24 4 (Nd.encs []))] 1 (h2:=⟨rfl,⟨_,rfl,congrArg (Ob.row 24 4) zIo⟩,trivial⟩)) ?_;refine zAa ?_;refine zZx [] [6] rfl ?_;intro n2 hn2;obtain rfl:=rlE Nd.encs_eq l1 hn2;show Tri ..;obtain⟨l6,hl,h⟩:=zAc h
 refine zAn ⟨ofL [(3,.orow 0)],ofH [(0,.row 24 4 (Nd.encs l6))],1⟩ ?_ (fun σ' hle=>?_)
 ·refine zAi (zAy (X:=Nat×Int×(List Nd)) (fun y=>match y with | (k,x4,l5)=>⟨ofL [(0,.s (.sl 4 (Nd.encs l1))),(3,.orow 0),(6,.s (.int .i64 (l1.length:Int))),(7,.s (.int .i64 x4))],ofH [(0,.row 24 4 (Nd.encs l5))],1⟩) (fun y=>zBy l1 y.1 y.2.1 y.2.2=some l6) (fun y=>y.1) (n,0,[]) hl ?_ ?_)
  ·exact(Le.rnq [(0,0)] _ _ _)
  ·rintro⟨k,x4,l5⟩ h;cases k with
   | zero=>cases h
   | succ k =>
    replace h:zBy l1 (k+1) x4 l5=some l6:=h;rw[zBy]at h;refine yAD ?_;refine zAa ?_;refine zAm rfl h (fun hb h=>?_) (fun hb h=>?_)
    ·refine zAf ?_;refine zAa ?_;refine zAi ?_;refine yAD ?_;refine zAb [17] [13,16] rfl ?_;obtain⟨⟨e7A,e7C,e7D,e7B⟩,he7,h⟩:=zAc h;refine And.intro (zAq Nd.encs_eq he7).1 ?_;intro r8 hr8;obtain rfl:[.int .i64 e7A,.str e7C,.int .i64 e7D,.sl 4 (Nd.encs e7B)]=r8:=(hr8.trans (zAq Nd.encs_eq he7).2.1).symm;obtain⟨⟨y9A,y9C,y9D,y9B⟩,hy9,h⟩:=zAc h;refine⟨_,⟨_,_,hy9,rfl,rfl⟩,?_⟩
     intro r10 hr10;obtain rfl:Nd.encs [Nd.mk y9A y9C y9D y9B]=r10:=(hr10.trans zIo).symm;obtain⟨hq,h⟩:=zAK h
     refine And.intro (show((Nd.encs l5).length+(Nd.encs [Nd.mk y9A y9C y9D y9B]).length) * 56<=140737488355328/\(Nd.encs l5).length+(Nd.encs [Nd.mk y9A y9C y9D y9B]).length<=9223372036854775807 from by simp only[List.length_append,List.length_cons,List.length_nil,List.length_map,rlen Nd.encs_eq]at hq ⊢; omega) ?_;show Tri ..
     refine zAj (Le.rnq [(1,0)] [(0,.s (.sl 4 (Nd.encs l1))),(3,.orow 0),(6,.s (.int .i64 (l1.length:Int))),(7,.s (.int .i64 x4))] [(0,.row 24 4 (Nd.encs (l5++[Nd.mk y9A y9C y9D y9B])))] 1 (h2:=⟨rfl,⟨_,rfl,congrArg (Ob.row 24 4) zIo⟩,trivial⟩)) ?_;refine yAC ?_
     refine⟨(k,IntKind.i64.wrap (x4+1),l5++[Nd.mk y9A y9C y9D y9B]),h,(Le.rnq [(0,0)] _ _ _),Nat.lt_succ_self k⟩
    ·refine zAB ?_;cases h;exact(Le.rnq [(0,0)] _ _ _)
 ·refine zAj hle ?_;refine yAD ?_;refine zAh ?_;have hy:=osi h;subst hy;unfold zC4;exact⟨_,Le.refl _ _,0,rfl,rfl⟩
def zUW (n:Nat) (xs:List AV) (r:Ret):Prop:=∃ (a0:zO8) (y0:zO8),zFC n a0=some y0/\xs=[.agg ((zAk a0).map .s)]/\r = .val (.agg ((zAk y0).map .s))
def zL5:zAp:=zAu fun xs r=>∃ n,zUW n xs r
theorem zOB:PSound Tryz.prog 23 zL5:=by
 have gok:∀ f s,look? f [(42,zL4),(43,zKY)]=some s->PSound Tryz.prog f s:=zAo (by
  simp only[List.forall_mem_cons]
  exact⟨zRA,zPM,by simp⟩)
 refine psq tokW Tryz.call23 Tryz.func23 rfl ?_;rintro xs r w0 G0 ⟨n,⟨op1A,op1I,op1L,op1J,op1E,op1K,op1H,op1C⟩,y0,h,rfl,rfl⟩ _;rw[zFC]at h;refine zZx [1,2] [] rfl ?_;refine yAD ?_;obtain⟨y2,hy2,h⟩:=zAc h;refine⟨_,⟨_,_,hy2,rfl,rfl⟩,?_⟩
 refine yAD ?_;obtain⟨y3,hy3,h⟩:=zAc h;refine⟨_,⟨_,_,_,hy3,rfl,rfl⟩,?_⟩
 refine yAD ?_;refine zAh ?_;have hy:=osi h;subst hy;exact fin0 rfl rfl
theorem zWb {P:Program}{f:Nat}{A B:List AV->Ret->Prop} (hA:PSound P f (zAu A)) (hB:PSound P f (zAu B)):PSound P f (zAu fun xs r=>A xs r∨B xs r) :=
 ⟨hA.1,fun G w xs vs r hl hg hp hv hs=>hs.elim (hA.2.1 G w xs vs r hl hg hp hv) (hB.2.1 G w xs vs r hl hg hp hv),fun R hR=>(by cases hR),fun R hR=>(by cases hR)⟩
theorem zSQ {P:Program}{f:Nat}{A B:List AV->Ret->Prop} (hA:PSound P f (zAu A)) (h:∀ xs r,B xs r->A xs r):PSound P f (zAu B) :=
 ⟨hA.1,fun G w xs vs r hl hg hp hv hs=>hA.2.1 G w xs vs r hl hg hp hv (h xs r hs),fun R hR=>(by cases hR),fun R hR=>(by cases hR)⟩
def zIg (n:Nat) (xs:List AV) (r:Ret):Prop:=∃ (a0:(zO8×List Nd)) (y0:List Nd) (y1:Int),zBh n a0=some (y0,y1)/\xs=[.agg ((zA9 a0).map .s)]/\r = .val (.tup [.s (.sl 4 (Nd.encs y0)),.s (.int .i64 y1)])
def zE7:zAp:=zAu fun xs r=>∃ n,zIg n xs r
theorem zHL:PSound Tryz.prog 76 zE7 :=
 zSQ (zWb zFU zFT) fun xs r ⟨n,a,y,z,hm,hx,hr⟩=>by
  unfold zBh at hm;split at hm
  ·rename_i q hq
   obtain rfl:=Option.some.inj hm;exact .inl ⟨a,y,z,hq,hx,hr⟩
  ·exact .inr ⟨n,a,y,z,hm,hx,hr⟩
def zIF (n:Nat) (xs:List AV) (r:Ret):Prop:=∃ (a0:(zO8×List Nd)) (y0:List Nd) (y1:Int),zCi n a0=some (y0,y1)/\xs=[.agg ((zA9 a0).map .s)]/\r = .val (.tup [.s (.sl 4 (Nd.encs y0)),.s (.int .i64 y1)])
def zFq:zAp:=zAu fun xs r=>∃ n,zIF n xs r
theorem zIj:PSound Tryz.prog 40 zFq:=by
 have gok:∀ f s,look? f [(72,zE4),(73,zE5),(74,zE6),(75,zFW),(76,zE7),(77,zGt)]=some s->PSound Tryz.prog f s:=zAo (by
  simp only[List.forall_mem_cons]
  exact⟨zHI,zHJ,zHK,zIV,zHL,zJP,by simp⟩)
 refine psq tokW Tryz.call40 Tryz.func40 rfl ?_;rintro xs r w0 G0 ⟨n,⟨⟨c1O,c1S,c1F,c1P,c1M,c1N,c1R,c1Q⟩,c1G⟩,y0,y1,h,rfl,rfl⟩ _;rw[zCi]at h;refine yAD ?_;refine zAa ?_;refine yAD ?_;obtain⟨y2,hy2,h⟩:=zAc h;refine⟨_,⟨_,_,hy2,rfl,rfl⟩,?_⟩
 refine yAD ?_;refine zAm rfl h (fun hb h=>?_) (fun hb h=>?_)
 ·refine yAD ?_;refine zAh ?_;obtain⟨hj1,hk1⟩:=pij h;subst hj1 hk1;exact fin0 rfl rfl
 ·refine zAf ?_;refine zAa ?_;refine yAD ?_;refine zAi ?_;refine yAD ?_;refine zAm rfl h (fun hb h=>?_) (fun hb h=>?_)
  ·refine yAD ?_;obtain⟨⟨y3,y4⟩,hy3,h⟩:=zAc h;refine⟨_,⟨_,_,_,_,hy3,rfl,rfl⟩,?_⟩
   refine zAh ?_;obtain⟨hj1,hk1⟩:=pij h;subst hj1 hk1;exact fin0 rfl rfl
  ·refine yAD ?_;refine zAm rfl h (fun hb h=>?_) (fun hb h=>?_)
   ·refine yAD ?_;obtain⟨⟨y5,y6⟩,hy5,h⟩:=zAc h;refine⟨_,⟨_,_,_,_,hy5,rfl,rfl⟩,?_⟩
    refine zAh ?_;obtain⟨hj1,hk1⟩:=pij h;subst hj1 hk1;exact fin0 rfl rfl
   ·refine yAD ?_;refine zAm rfl h (fun hb h=>?_) (fun hb h=>?_)
    ·refine yAD ?_;obtain⟨⟨y7,y8⟩,hy7,h⟩:=zAc h;refine⟨_,⟨_,_,_,_,hy7,rfl,rfl⟩,?_⟩
     refine zAh ?_;obtain⟨hj1,hk1⟩:=pij h;subst hj1 hk1;exact fin0 rfl rfl
    ·refine yAD ?_;refine zAm rfl h (fun hb h=>?_) (fun hb h=>?_)
     ·refine yAD ?_;obtain⟨⟨y9,y10⟩,hy9,h⟩:=zAc h;refine⟨_,⟨_,_,_,_,hy9,rfl,rfl⟩,?_⟩
      refine zAh ?_;obtain⟨hj1,hk1⟩:=pij h;subst hj1 hk1;exact fin0 rfl rfl
     ·refine zAf ?_;refine yAD ?_;obtain⟨⟨y11,y12⟩,hy11,h⟩:=zAc h;refine⟨_,⟨_,_,_,_,hy11,rfl,rfl⟩,?_⟩
      refine zAh ?_;obtain⟨hj1,hk1⟩:=pij h;subst hj1 hk1;exact fin0 rfl rfl
def zQr (n:Nat) (xs:List AV) (r:Ret):Prop:=∃ (a0:Nd) (a1:zO8) (y0:Nd) (y1:Int),zEX n a0 a1=some (y0,y1)/\xs=[.agg ((Nd.enc a0).map .s),.agg ((zAk a1).map .s)]/\r = .val (.tup [.agg ((Nd.enc y0).map .s),.s (.int .i64 y1)])
def zK0:zAp:=zAu fun xs r=>∃ n,zQr n xs r
theorem zPO:PSound Tryz.prog 20 zK0:=by
 have gok:∀ f s,look? f [(18,zDm),(38,zJj),(39,zN8),(40,zFq),(41,zL8)]=some s->PSound Tryz.prog f s:=zAo (by
  simp only[List.forall_mem_cons]
  exact⟨zDC,zNS,zSO,zIj,zRD,by simp⟩)
 refine psq tokW Tryz.call20 Tryz.func20 rfl ?_;rintro xs r w0 G0 ⟨n,⟨n1A,n1C,n1D,n1B⟩,⟨op2A,op2I,op2L,op2J,op2E,op2K,op2H,op2C⟩,y0,y1,h,rfl,rfl⟩ _;rw[zEX]at h;refine zZx [4] [] rfl ?_;refine zAa ?_;refine yAD ?_;obtain⟨y3,hy3,h⟩:=zAc h;refine⟨_,⟨_,_,_,hy3,rfl,rfl⟩,?_⟩
 refine zAm rfl h (fun hb h=>?_) (fun hb h=>?_)
 ·refine yAD ?_;refine zAh ?_;obtain⟨hj1,hk1⟩:=pij h;subst hj1 hk1;exact fin0 rfl rfl
 ·refine zAf ?_;refine zAa ?_;refine yAD ?_;obtain⟨y4,hy4,h⟩:=zAc h;refine⟨_,⟨_,_,_,hy4,rfl,rfl⟩,?_⟩
  refine zAm rfl h (fun hb h=>?_) (fun hb h=>?_)
  ·refine yAD ?_;refine zAh ?_;obtain⟨hj1,hk1⟩:=pij h;subst hj1 hk1;exact fin0 rfl rfl
  ·refine zAf ?_;refine zZx [6] [] rfl ?_;obtain⟨⟨⟨y5A,y5C,y5D,y5B⟩,y6⟩,hy5,h⟩:=zAc h;refine⟨_,⟨_,_,_,_,_,hy5,rfl,rfl⟩,?_⟩
   refine zAa ?_;refine yAD ?_;refine zAm rfl h (fun hb h=>?_) (fun hb h=>?_)
   ·refine yAD ?_;refine zAh ?_;obtain⟨hj1,hk1⟩:=pij h;subst hj1 hk1;exact fin0 rfl rfl
   ·refine zAf ?_;refine yAD ?_;obtain⟨⟨y7,y8⟩,hy7,h⟩:=zAc h;refine⟨_,⟨_,_,_,_,hy7,rfl,rfl⟩,?_⟩
    refine zAa ?_;refine yAD ?_;refine zAm rfl h (fun hb h=>?_) (fun hb h=>?_)
    ·refine yAD ?_;refine zAh ?_;obtain⟨hj1,hk1⟩:=pij h;subst hj1 hk1;exact fin0 rfl rfl
    ·refine zAf ?_;refine zZx [8] [] rfl ?_;obtain⟨⟨⟨y9A,y9C,y9D,y9B⟩,y10⟩,hy9,h⟩:=zAc h;refine⟨_,⟨_,_,_,_,_,_,hy9,rfl,rfl⟩,?_⟩
     refine zAj (Le.giveBox 2 [.int .i64 y9A,.str y9C,.int .i64 y9D,.sl 4 (Nd.encs y9B)] rfl rfl) ?_;refine zAa ?_;refine yAD ?_;refine zAm rfl h (fun hb h=>?_) (fun hb h=>?_)
     ·refine yAD ?_;refine zAh ?_;obtain⟨hj1,hk1⟩:=pij h;subst hj1 hk1;exact fin0 rfl rfl
     ·refine zAf ?_;refine yAD ?_;refine zAh ?_;obtain⟨hj1,hk1⟩:=pij h;subst hj1 hk1;exact fin0 rfl rfl
def zL3 (n:Nat) (xs:List AV) (r:Ret):Prop:=∃ (a0:Nd) (a1:List zO8) (y0:Nd) (y1:Int) (y2:Int),zBE n a0 a1=some (y0,y1,y2)/\xs=[.agg ((Nd.enc a0).map .s),.s (.sl 8 ((List.map zAk) a1))]/\r = .val (.tup [.agg ((Nd.enc y0).map .s),.s (.int .i64 y1),.s (.int .i64 y2)])
def zHp:zAp:=zAu fun xs r=>∃ n,zL3 n xs r
theorem zLv:PSound Tryz.prog 7 zHp:=by
 have gok:∀ f s,look? f [(18,zDm),(19,zFo),(20,zK0)]=some s->PSound Tryz.prog f s:=zAo (by
  simp only[List.forall_mem_cons]
  exact⟨zDC,zF6,zPO,by simp⟩)
 refine psq tokW Tryz.call7 Tryz.func7 rfl ?_;rintro xs r w0 G0 ⟨n,⟨n1A,n1C,n1D,n1B⟩,ops2,y0,y1,y2,h,rfl,rfl⟩ _;rw[zBE]at h;refine zZx [4] [] rfl ?_;refine zAa ?_;refine yAD ?_;obtain⟨y3,hy3,h⟩:=zAc h;refine⟨_,⟨_,_,_,hy3,rfl,rfl⟩,?_⟩
 refine zAm rfl h (fun hb h=>?_) (fun hb h=>?_)
 ·refine yAD ?_;refine zAh ?_;obtain⟨hj1,hk1⟩:=pij h;subst hj1;obtain⟨hj2,hk2⟩:=Prod.mk.inj hk1;subst hj2;subst hk2;exact fin0 rfl rfl
 ·refine zAf ?_;refine zZx [7] [] rfl ?_;obtain⟨⟨y4A,y4C,y4D,y4B⟩,hy4,h⟩:=zAc h;refine⟨_,⟨_,_,hy4,rfl,rfl⟩,?_⟩
  refine zAa ?_;refine zZx [] [19] rfl ?_;intro n5 hn5;obtain rfl:=rlE (fun _=>rfl) ops2 hn5;show Tri ..;obtain⟨fl,hl,ho1⟩:=zAc h;refine zF9 (fl:=fl) (fun z=>match z with | ⟨x12,x13,x14,x15⟩=>⟨ofL [(4,.op 0 0),(7,.op 1 0)],ofH [(0,.box 24 [.s (.int .i64 0),.s (.str []),.s (.int .i64 0),.nl 4]),(1,.box 24 [.s (.int .i64 x12),.s (.str x13),.s (.int .i64 x14),.s (.sl 4 (Nd.encs x15))])],2⟩) ?_ (fun z σ' hz hle=>?_)
  ·refine zAi (zAy (X:=Nat×Int×(List UInt8)×Int×(List Nd)×Int) (fun y=>match y with | (k,x7,x8,x9,x10,x11)=>⟨ofL [(4,.op 0 0),(7,.op 1 0),(18,.s (.sl 8 ((List.map zAk) ops2))),(19,.s (.int .i64 (ops2.length:Int))),(20,.s (.int .i64 x11))],ofH [(0,.box 24 [.s (.int .i64 0),.s (.str []),.s (.int .i64 0),.nl 4]),(1,.box 24 [.s (.int .i64 x7),.s (.str x8),.s (.int .i64 x9),.s (.sl 4 (Nd.encs x10))])],2⟩) (fun y=>zBF n ops2 y.1 y.2.1 y.2.2.1 y.2.2.2.1 y.2.2.2.2.1 y.2.2.2.2.2=some fl) (fun y=>y.1) (n,y4A,y4C,y4D,y4B,0) hl ?_ ?_)
   ·exact(Le.rnq [(0,0),(1,1)] _ _ _)
   ·rintro⟨k,x7,x8,x9,x10,x11⟩ h;cases k with
    | zero=>cases h
    | succ k =>
     replace h:zBF n ops2 (k+1) x7 x8 x9 x10 x11=some fl:=h;rw[zBF]at h;refine yAD ?_;refine zAa ?_;refine zAm rfl h (fun hb h=>?_) (fun hb h=>?_)
     ·refine zAf ?_;refine zAa ?_;refine zAi ?_;refine zZx [9] [23] rfl ?_;obtain⟨⟨e16A,e16I,e16L,e16J,e16E,e16K,e16H,e16C⟩,he16,h⟩:=zAc h;refine And.intro (zAq (fun _=>rfl) he16).1 ?_;intro r17 hr17;obtain rfl:[.int .i64 e16A,.sl 1 ((List.map (irow .i64)) e16I),.int .i64 e16L,.int .i64 e16J,.sl 4 (Nd.encs e16E),.int .i64 e16K,.str e16H,.str e16C]=r17:=(hr17.trans (zAq (fun _=>rfl) he16).2.1).symm;show Tri ..
      refine zAj (Le.giveBox 2 [.int .i64 e16A,.sl 1 ((List.map (irow .i64)) e16I),.int .i64 e16L,.int .i64 e16J,.sl 4 (Nd.encs e16E),.int .i64 e16K,.str e16H,.str e16C] rfl rfl) ?_;refine zZx [10] [] rfl ?_;obtain⟨⟨⟨y18A,y18C,y18D,y18B⟩,y19⟩,hy18,h⟩:=zAc h;refine⟨_,⟨_,_,_,_,_,hy18,rfl,rfl⟩,?_⟩
      refine zAj (Le.giveBox 3 [.int .i64 y18A,.str y18C,.int .i64 y18D,.sl 4 (Nd.encs y18B)] rfl rfl) ?_;refine zAa ?_;refine yAD ?_;refine zAm rfl h (fun hb h=>?_) (fun hb h=>?_)
      ·refine yAD ?_;refine zAh ?_;cases h;replace h:some _=some _:=ho1;obtain⟨hj1,hk1⟩:=pij h;subst hj1;obtain⟨hj2,hk2⟩:=Prod.mk.inj hk1;subst hj2;subst hk2;exact fin0 rfl rfl
      ·refine zAf ?_;refine yAC ?_;refine yAC ?_;refine⟨(k,y18A,y18C,y18D,y18B,IntKind.i64.wrap (x11+1)),h,(Le.rnq [(0,0),(1,1)] _ _ _),Nat.lt_succ_self k⟩
     ·refine zAB ?_;cases h;exact⟨_,rfl,(Le.rnq [(0,0),(1,1)] _ _ _)⟩
  ·subst hz;obtain⟨x12,x13,x14,x15⟩:=z;replace h:=ho1;refine zAj hle ?_;refine yAD ?_;refine zAh ?_;obtain⟨hj1,hk1⟩:=pij h;subst hj1;obtain⟨hj2,hk2⟩:=Prod.mk.inj hk1;subst hj2;subst hk2;exact fin0 rfl rfl
def zO9 (n:Nat) (xs:List AV) (r:Ret):Prop:=∃ (a0:zO8) (y0:zO8),zB6 n a0=some y0/\xs=[.agg ((zAk a0).map .s)]/\r = .val (.agg ((zAk y0).map .s))
def zJk:zAp:=zAu fun xs r=>∃ n,zO9 n xs r
theorem zNT:PSound Tryz.prog 29 zJk:=by
 have gok:∀ f s,look? f [(23,zL5)]=some s->PSound Tryz.prog f s:=zAo (by
  simp only[List.forall_mem_cons]
  exact⟨zOB,by simp⟩)
 refine psq tokW Tryz.call29 Tryz.func29 rfl ?_;rintro xs r w0 G0 ⟨n,⟨op1A,op1I,op1L,op1J,op1E,op1K,op1H,op1C⟩,y0,h,rfl,rfl⟩ _;rw[zB6]at h;refine zZx [2] [] rfl ?_;refine zZx [3] [] rfl ?_;obtain⟨⟨y2A,y2I,y2L,y2J,y2E,y2K,y2H,y2C⟩,hy2,h⟩:=zAc h;refine⟨_,⟨_,_,_,hy2,rfl,rfl⟩,?_⟩
 refine zAa ?_;refine yAD ?_;show Tri ..;obtain⟨⟨x3,x4,x5⟩,hj,h⟩:=zAc h;refine zAn ⟨ofL [(2,.op 0 0),(3,.op 1 0)],ofH [(0,.box 30 [.s (.int .i64 0),.nl 1,.s (.int .i64 0),.s (.int .i64 0),.nl 4,.s (.int .i64 0),.s (.str []),.s (.str [])]),(1,.box 30 [.s (.int .i64 x3),.s (.sl 1 ((List.map (irow .i64)) y2I)),.s (.int .i64 y2L),.s (.int .i64 y2J),.s (.sl 4 (Nd.encs y2E)),.s (.int .i64 y2K),.s (.str x4),.s (.str x5)])],2⟩ ?_ (fun σ' hle=>?_)
 ·replace h:=hj;refine zAi ?_;refine yAD ?_;refine zAm rfl h (fun hb h=>?_) (fun hb h=>?_)
  ·refine yAC ?_;cases h;exact(Le.rnq [(0,0),(1,1)] _ _ _)
  ·refine yAD ?_;refine zAm rfl h (fun hb h=>?_) (fun hb h=>?_)
   ·refine yAC ?_;cases h;exact(Le.rnq [(0,0),(1,1)] _ _ _)
   ·refine yAD ?_;refine zAm rfl h (fun hb h=>?_) (fun hb h=>?_)
    ·refine yAC ?_;cases h;exact(Le.rnq [(0,0),(1,1)] _ _ _)
    ·refine yAD ?_;refine zAm rfl h (fun hb h=>?_) (fun hb h=>?_)
     ·refine yAC ?_;cases h;exact(Le.rnq [(0,0),(1,1)] _ _ _)
     ·refine yAD ?_;refine zAm rfl h (fun hb h=>?_) (fun hb h=>?_)
      ·refine zA0 [] [] [5,7] rfl (by decide +kernel) ?_;cases h;exact(Le.rnq [(0,0),(1,1)] _ _ _)
      ·refine zAf ?_;cases h;exact(Le.rnq [(0,0),(1,1)] _ _ _)
 ·refine zAj hle ?_;refine yAD ?_;refine zAh ?_;have hy:=osi h;subst hy;exact fin0 rfl rfl
end Go.Proofs.YtbfnjnljboncgaaGreatDoor
namespace Go.Abs
def TriX (c:Cx) (code:Code) (σ:St) (Φ:Exit->Act->World->Prop):Prop:=∀ G β a w,Conc c G β σ a w->code.wpIn (rF none) 2 c.P Φ a w
section
variable {c:Cx} {σ:St} {Φ:Exit->Act->World->Prop}
theorem zTY {x y:Code} (h:TriX c x σ (Exit.then (y.wpIn (rF none) 2 c.P Φ) Φ)):TriX c (.seq x y) σ Φ:=fun G β a w hc=>wpIn_seq (h G β a w hc)
theorem zKS {x:Code}{id:Nat} (h:TriX c x σ (Exit.inBlock id Φ)):TriX c (.block id x) σ Φ:=fun G β a w hc=>wpIn_block (h G β a w hc)
theorem zGa {x y:Code} (hro:c.ro=none) (h:Tri c x σ (fun e σ'=>e = .normal/\TriX c y σ' Φ)):TriX c (.seq x y) σ Φ:=fun G β a w hc=>by
 unfold Tri at h;rw[hro]at h;refine wpIn_seq (wpIn_mono (h G β a w hc) ?_)
 rintro e a' w' ⟨e',G',β',σ',rfl,⟨rfl,hq⟩,hc'⟩
 exact hq G' β' a' w' hc'
theorem zOW (hro:c.ro=none) (hds:c.ds=[]){tg p1 p2 fid sz:Nat}{rows:List (List S)}{assign body:Code}
  (hit:zHY c.P fid sz) (hcall:∀ args w,(callFunc fid args).run c.P w = .ok (.enter fid args) w) (he:σ.env tg = .clo fid [.s (.pt [.sl sz rows])]) (hrl:∀ r∈rows,r.length=sz) (hlen:rows.length<=4611686018427387904)
  (E:Nat->(Nat->Option Ob)×Nat) (hE:E 0=(σ.hp,σ.nx)) (m:Nat) (hm:∀ t,(σ.env t).lt m=true) (hm0:c.n0<=m) (hmE:∀ i,m<=(E i).2) (hp1:p1<c.N) (hp2:p2<c.N)
  (hround:∀ i j row,i+j+1=rows.length->rows[j]? = some row->∀ l w X G B,Rl w X l->Tri (rcx c.P c.N m l w X G B) assign (zKI σ p1 p2 j row (E i)) (fun e σ1=>e = .normal/\∀ w X G B,Rl w X l ->
   Tri (rcx c.P c.N m l w X G B) body σ1 (fun e σ2=>e = .normal/\∃ σ3,Le (rcx c.P c.N m l w X G B) σ2 σ3/\σ3.hp=(E (i+1)).1/\σ3.nx=(E (i+1)).2)))
  (hdone:∀ D w2 X G2 G' β' a2,Sw c (lcx c.P c.N c.n0 w2 X G2 c.B0 D) D->Conc (lcx c.P c.N c.n0 w2 X G2 c.B0 D) G' β' ⟨σ.env,(E rows.length).1,(E rows.length).2⟩ a2 w2->Φ .normal a2 w2) (hfid:Nat.ble 1048576 fid=false:=by rfl) :
  TriX c (.rangeFunc (.tmp tg) #[p1,p2] assign body) σ Φ:=fun G β a w hc=>zYf hc hro hds hit hcall he hrl hlen E hE m hm hm0 hmE hp1 hp2 hround hfid hdone
end
theorem zQ5 {c c2:Cx}{D:Nat}{T:Nat->Option TI} (hT:TOk c2.P T){fn:Func}{r:Ret}{code:Code}{σ:St} (hsw:Sw c c2 D) (hX:∀ b,¬ c.X b) (hro:c2.ro=none) (hds:c2.ds=[{ target:=.collected D,args:=#[] }])
  (h:Tri c2 code σ (fun e σ'=>match e with | .exit _=>False | _=>zC4 c2 T fn.results.toList r σ')) :
  TriX c2 code σ (bodyPostM (rF none) 2 c2.P fn fun e W'=>∃ v G',e = .returned v/\Ext c.G0 G' c.w0 W'/\RetAt G' c.w0 W' r v):=fun G β a w hc=>by
 unfold Tri at h;rw[hro]at h;refine wpIn_mono (h G β a w hc) ?_;rintro e a' w' ⟨e',G',β',σ',rfl,hq,hc'⟩
 have fin:zC4 c2 T fn.results.toList r σ'->LeavesInM (rF none) 2 c2.P fn a'.tmps (fun e W'=>∃ v G',e = .returned v/\Ext c.G0 G' c.w0 W'/\RetAt G' c.w0 W' r v) a'.defers .returning w':=fun hq=>by
  unfold zC4 at hq;obtain⟨σ2,hle,hr⟩:=hq;unfold Le at hle;obtain⟨G2,β2,hc2⟩:=hle G' β' a' w' hc';have hDl:D<c2.w0.heap.size:=(Array.getElem?_eq_some_iff.1 hsw.blk).1;have hD:w'.heap[D]? = some (.deferred (some [])):=(hc2.fr.old D hDl hsw.nX).trans hsw.blk;have hnG:¬ G2 D:=fun h=>(hc2.new D h).elim hsw.nG (fun h=>h.elim hsw.nX (fun h=>by omega))
  have hnO:¬ ownB β2 σ2.hp D:=hc2.not_own hD rfl;rw[hc'.defers,hds]
  refine⟨by simp,.inl ⟨_,_,rfl,run_takeDeferred hD,?_⟩⟩
  generalize hW:w'.putObj D (.deferred none)=W;have oth:∀ b,b ≠ D->W.heap[b]? = w'.heap[b]?:=fun b hb=>by rw[← hW]; exact World.putObj_heap_other hb
  have sz:W.heap.size=w'.heap.size :=(by rw[← hW]; exact World.putObj_size);have hge:=hsw.ge;have hmine:∀ b,c2.mine b->c.w0.heap.size<=b:=fun b hb=>by
   rcases hb with hb | hb
   ·exact(hsw.mine b hb).elim (fun h=>absurd h (hX b)) id
   ·exact Nat.le_trans hsw.fr.size hb
  have hc3:Conc { P:=c2.P,w0:=W,X:=fun b=>c.w0.heap.size<=b,G0:=G2,N:=c2.N } G2 β2 ⟨σ2.env,σ2.hp,σ2.nx⟩ { a' with defers:=[] } W :=
   hc2.re (c2:={ P:=c2.P,w0:=W,X:=fun b=>c.w0.heap.size<=b,G0:=G2,N:=c2.N }) (fun b hb=>oth b fun h=>hnG (h ▸ hb)) (fun b hb=>oth b fun h=>hnO (h ▸ hb)) (by rw[sz]; exact Nat.le_refl _) rfl hc2.size hc2.env hc2.envlt
    (fun b ⟨k,ob,q1,q2⟩=>.inl (hmine b (row_block (hc2.hp k ob q1) b q2).2)) (fun b h=>h) (fun b h=>.inl h) (Fr.refl _ _) ⟨Nat.zero_le _,fun k hk=>by cases hk⟩
  have hext:Ext c.G0 G2 c.w0 W:=by
   refine⟨?_,?_,?_,?_,fun b hb=>?_,fun b hb=>hc2.sub b (hsw.sub b hb),fun b hb=>?_,fun b hb=>by rw[sz]; exact hc2.lt b hb⟩
   ·rw[← hW]; show w'.os=_; rw[hc2.fr.os]; exact hsw.fr.os
   ·rw[← hW]; show w'.tape=_; rw[hc2.fr.tape]; exact hsw.fr.tape
   ·rw[← hW]; show w'.output=_; rw[hc2.fr.output]; exact hsw.fr.output
   ·have h1:=hc2.fr.size; have h2:=hsw.fr.size; omega
   ·have h2:=hsw.fr.size;exact(oth b (by omega)).trans ((hc2.fr.old b (by omega) (fun h=>(hsw.mine b h).elim (hX b) (fun h=>by omega))).trans (hsw.fr.old b hb (hX b)))
   ·rcases hc2.new b hb with h | h
    ·exact(hsw.new b h).imp id (fun h=>h.elim (fun h=>absurd h (hX b)) id)
    ·exact .inr (hmine b h)
  unfold RetAt;split at hr
  ·rename_i x
   obtain⟨v,h1,h2⟩:=zFN (c:={ P:=c2.P,w0:=W,X:=fun b=>c.w0.heap.size<=b,G0:=G2,N:=c2.N }) hT hc3 hr.1;exact⟨v,h1,v,G2,rfl,hext,hr.2,AVal.pers hr.2 h2⟩
  ·rename_i e sz' rows
   obtain⟨k,hk1,hk2⟩:=hr;obtain⟨v,h1,h2⟩:=zFN (c:={ P:=c2.P,w0:=W,X:=fun b=>c.w0.heap.size<=b,G0:=G2,N:=c2.N }) hT hc3 hk1;refine⟨v,h1,v,G2,rfl,hext,?_⟩
   simp only[AVal]at h2;obtain⟨rfl,_⟩:=h2;obtain⟨q1,q2,q3⟩:=hc3.hp k _ hk2;refine⟨q1,q2,q3.imp id ?_⟩
   rintro⟨b,cap,cur,g1,g2,g3,g4,g5,g6,g7⟩
   refine⟨b,cap,cur,g1,g2,g3,g4,g5,g6.elim id (fun h=>?_),g7⟩
   have h:W.heap.size<=b:=h;have:=g4.lt
   omega
 cases e' with
 | normal=>exact fin hq
 | ret=>exact fin hq
 | exit id=>exact hq.elim
theorem zWa {P:Program}{f:Nat}{fn:Func}{code:Code}{s:zAp} (hcall:∀ args w,(callFunc f args).run P w = .ok (.enter f args) w)
  (hf:P.funcs[f]? = some fn) (hb:fn.body=some code) (hn:∀ xs r,s.spec xs r->xs.length<=fn.ntmps)
  (N:Nat) (hN:fn.ntmps=N)
  (h:∀ xs r w0 G0,s.spec xs r->AV.persAll xs=true->TriX (zCT P w0 G0 N) code (start xs) (bodyPostM (rF none) 2 P fn fun e W'=>∃ v G',e = .returned v/\Ext G0 G' w0 W'/\RetAt G' w0 W' r v)) (hown:s.own=none:=by rfl) (hheap:s.heap=none:=by rfl):PSound P f s:=by
 subst hN;refine⟨hcall,fun G w xs vs r hlt hgl hp hv hpre=>?_,fun R hR=>(by rw[hown]at hR; cases hR),fun R hR=>(by rw[hheap]at hR; cases hR)⟩
 have hlen:=hv.length;have hxn:=hn xs r hpre;have hc:Conc (zCT P w G fn.ntmps) G (fun _=>.tuple #[]) (start xs) { tmps:=vs.toArray++Array.replicate (fn.ntmps - vs.toArray.size) undef,defers:=[] } w:={
  defers:=rfl
  size:=by simp only[Array.size_append,List.size_toArray,Array.size_replicate]; show _=fn.ntmps; omega
  env:=zH0 hv
  envlt:=zKk (AV.persAll_lt hp)
  hp:=fun k ob hk=>by simp[start]at hk
  hplt:=fun k ob hk=>by simp[start]at hk
  inj:=fun k k' ob ob' hk=>by simp[start]at hk
  lt:=hlt
  sub:=fun b hb=>hb
  new:=fun b hb=>.inl hb
  fr:=Fr.refl _ _
  stay:=⟨Nat.le_refl _,fun k hk=>by cases hk⟩
  glob:=hgl }
 exact callsIn_wide.1 (callsIn_of_wp_marks hf hb trivial (h xs r w G hpre hp G _ _ w hc))
theorem zGH {a:Act}{d:Option Nat}{v:Value}{t:Nat} (h:d ≠ some t):(a.put d v).tmps.getD t undef=a.tmps.getD t undef:=by
 cases d with
 | none=>rfl
 | some d =>
  have hdt:d ≠ t:=fun e=>h (by rw[e])
  simp only[Act.put,Array.getD_eq_getD_getElem?]
  rw[Array.getElem?_setIfInBounds_ne hdt]
theorem yAt {P:Program}{W:World}{G:Nat->Prop}{β:Nat->Value}{N:Nat}{a:Act}{env:Nat->AV} (hd:a.defers=[]) (hs:a.tmps.size=N) (hl:∀ b,G b->b<W.heap.size) (hg:GlobOk G W) (he:∀ t,AVal G W β (env t) (a.tmps.getD t undef)) (hlt:∀ t,(env t).lt 0=true) :
  Conc (zCT P W G N) G β ⟨env,fun _=>none,0⟩ a W:={
 defers:=hd
 size:=hs
 env:=he
 envlt:=hlt
 hp:=fun k ob hk=>by cases hk
 hplt:=fun k ob hk=>by cases hk
 inj:=fun k k' ob ob' hk=>by cases hk
 lt:=hl
 sub:=fun b hb=>hb
 new:=fun b hb=>.inl hb
 fr:=Fr.refl _ _
 stay:=⟨Nat.le_refl _,fun k hk=>by cases hk⟩
 glob:=hg }
def evP (T:Nat->Option TI) (N:Nat) (ts:List Nat):List Oper->St->(St->Prop)->Prop
 | [],σ,K=>K σ
 | o::os,σ,K =>
  match o.dst,o.guard,zPH o&&zPI o with
  | some d,none,true=>match Nat.blt d N&&zRw d ts with
   | true=>match zB2 T false o σ.env with
    | some (φ,x)=>andO φ (evP T N ts os (σ.put (some d) x) K)
    | none=>False
   | false=>False
  | _,_,_=>False
theorem zMB {P:Program}{W0:World}{G0:Nat->Prop}{T:Nat->Option TI} (hT:TOk P T){N n:Nat}{ops rest:List Oper}{K:St->Prop}{Q:Exit->Act->World->Prop}{ts:List Nat}{v0:Nat->Value}
  (hr:∀ σ G β a w,K σ->Conc (zCT P W0 G0 N) G β σ a w->w.heap.size=W0.heap.size->(∀ t∈ts,a.tmps.getD t undef=v0 t)->wpListIn Fence.wide n P ops.toArray Q rest a w) :
  ∀ (l:List Oper) (σ:St) (G:Nat->Prop) (β:Nat->Value) (a:Act) (w:World),evP T N ts l σ K->Conc (zCT P W0 G0 N) G β σ a w->w.heap.size=W0.heap.size->(∀ t∈ts,a.tmps.getD t undef=v0 t)->wpListIn Fence.wide n P ops.toArray Q (l++rest) a w
 | [],σ,G,β,a,w,h,hc,hs,ht=>hr σ G β a w h hc hs ht
 | o::os,σ,G,β,a,w,h,hc,hs,ht=>by
  unfold evP at h;split at h
  ·rename_i d hd hg hnn
   simp only[Bool.and_eq_true]at hnn;split at h
   ·rename_i hdN
    simp only[Bool.and_eq_true]at hdN;have hdN1:d<N:=Nat.le_of_ble_eq_true hdN.1;have hdts:=zFF hdN.2;split at h
    ·rename_i φ x hp
     obtain⟨hφ,h⟩:=zLz h;rw[List.cons_append]
     unfold wpListIn;rw[if_pos (by simp[Region.wanted,hg])]
     refine zUA (ro:=none) (K:=fun a' w'=>wpListIn Fence.wide n P ops.toArray Q (os++rest) a' w') (fun c e=>?_) (fun _ _ h=>h) ?_
     ·have:=hnn.2;unfold zPI at this;rw[e]at this;cases this
     ·refine zV8 (c:=zCT P W0 G0 N) hT hc hp hφ fun G' w' v he hna hv=>?_
      have hww:=hna hnn.1;subst hww;rw[hd]
      have hput:=(hc.ext he).put (d:=some d) (fun t e=>by cases e; exact hdN1) hv (zTA hc.envlt hp)
      refine zMB hT hr os _ G' β _ _ h hput hs fun t htt=>?_
      rw[zGH (fun e=>hdts (by cases e; exact htt))]
      exact ht t htt
    ·exact h.elim
   ·exact h.elim
  ·exact h.elim
theorem zLD {P:Program}{W0:World}{G0:Nat->Prop}{T:Nat->Option TI} (hT:TOk P T){N n:Nat}{ops l:List Oper} (m:Nat){K:St->Prop}{Q:Exit->Act->World->Prop} (ts:List Nat){σ:St}{G:Nat->Prop}{β:Nat->Value}{a:Act}{w:World}
  (h:evP T N ts (l.take m) σ K) (hc:Conc (zCT P W0 G0 N) G β σ a w) (hs:w.heap.size=W0.heap.size)
  (hr:∀ σ G β a' w,K σ->Conc (zCT P W0 G0 N) G β σ a' w->w.heap.size=W0.heap.size->(∀ t∈ts,a'.tmps.getD t undef=a.tmps.getD t undef)->wpListIn Fence.wide n P ops.toArray Q (l.drop m) a' w):wpListIn Fence.wide n P ops.toArray Q l a w:=by
 have:=zMB (v0:=fun t=>a.tmps.getD t undef) hT hr (l.take m) σ G β a w h hc hs (fun _ _=>rfl)
 rwa [List.take_append_drop]at this
theorem zHx {P:Program}{W0:World}{G0:Nat->Prop}{T:Nat->Option TI} (hT:TOk P T){N n:Nat}{ops l:List Oper}{K:St->Prop}{Q:Exit->Act->World->Prop} (ts:List Nat){σ:St}{G:Nat->Prop}{β:Nat->Value}{a:Act}{w:World}
  (h:evP T N ts l σ K) (hc:Conc (zCT P W0 G0 N) G β σ a w) (hs:w.heap.size=W0.heap.size)
  (hr:∀ σ G β a' w,K σ->Conc (zCT P W0 G0 N) G β σ a' w->w.heap.size=W0.heap.size->(∀ t∈ts,a'.tmps.getD t undef=a.tmps.getD t undef)->Q .normal a' w):wpListIn Fence.wide n P ops.toArray Q l a w:=by
 have:=zMB (rest:=[]) (v0:=fun t=>a.tmps.getD t undef) (ops:=ops) (n:=n) (Q:=Q) hT hr l σ G β a w h hc hs (fun _ _=>rfl)
 rwa [List.append_nil]at this
theorem zVW {G:Nat->Prop}{w:World}{β:Nat->Value}{a:Act}:∀ {L:List (Nat×AV)},(∀ p∈L,AVal G w β p.2 (a.tmps.getD p.1 undef))->∀ t,AVal G w β (ofL L t) (a.tmps.getD t undef)
 | [],_,t=>by simp only[ofL,AVal]
 | (s,x)::r,h,t=>by
  simp only[ofL]
  cases e:Nat.beq t s with
  | true=>obtain rfl:=Nat.eq_of_beq_eq_true e; exact h _ List.mem_cons_self
  | false=>exact zVW (fun p hp=>h p (List.mem_cons_of_mem _ hp)) t
theorem zLp {P:Program}{W:World}{G:Nat->Prop}{N:Nat}{a:Act} (L:List (Nat×AV)) (hd:a.defers=[]) (hs:a.tmps.size=N) (hl:∀ b,G b->b<W.heap.size) (hg:GlobOk G W) (hL:ltL 0 L=true) (he:∀ p∈L,AVal G W (fun _=>.tuple #[]) p.2 (a.tmps.getD p.1 undef)) :
  Conc (zCT P W G N) G (fun _=>.tuple #[]) ⟨ofL L,fun _=>none,0⟩ a W:=yAt hd hs hl hg (zVW he) (zH7 hL)
theorem zGb {n:Nat}{P:Program}{ops:Array Oper}{Q:Exit->Act->World->Prop}{o:Oper}{rest:List Oper}{a:Act}{w:World} (hg:o.guard=none) (h:o.wpIn Fence.wide n P a w (wpListIn Fence.wide n P ops Q rest) Q):wpListIn Fence.wide n P ops Q (o::rest) a w:=by
 unfold wpListIn;rw[if_pos (by simp[Region.wanted,hg])]
 exact h
theorem zT2 {P:Program}{o:Oper}{f x y:Operand}{ts:Array TypeId}{l:Nat}{a:Act}{w:World}{K:Act->World->Prop}{Q:Exit->Act->World->Prop}{R:Ending->World->Prop}{u:Value} (ho:o.op = .call { callee:=.value f,args:=#[x,y],argTypes:=ts })
  (hf:a.eval f = .func (.yield l) #[] #[]) (hY:YieldAt Fence.wide 0 P l #[a.eval x,a.eval y] w R) (hR:∀ e w',R e w'->e = .returned u/\K (a.put o.dst u) w'):o.wpIn Fence.wide 1 P a w K Q:=by
 obtain⟨fn,tmps,assign,body,hy,hr⟩:=hY;refine⟨fun _ _=>trivial,?_⟩
 rw[Oper.semAt_eq _ _ _ (by rw[ho]; intro c e; cases e)]
 have:(execOp a.eval o).run P w = .ok (.round l fn tmps assign body) w:=by
  simp[execOp,ho,resolve,hf,Deferred.ofValue,invoke,hy]
 rw[this]
 refine⟨fun h=>(by cases h),hr.mono fun e w' he=>?_⟩
 obtain⟨rfl,h⟩:=hR e w' he;exact h
theorem Conc.back {P:Program}{W:World}{G G':Nat->Prop}{N:Nat}{β:Nat->Value}{σ:St}{a:Act}{w:World} (hc:Conc (zCT P W G N) G' β σ a w) (hs:w.heap.size=W.heap.size):(∀ b,G' b->G b)/\∀ b,b<W.heap.size->w.heap[b]? = W.heap[b]? :=
 ⟨fun b hb=>(hc.new b hb).elim id (fun h=>h.elim False.elim (fun h=>by have:=hc.lt b hb; have h:W.heap.size<=b:=h; omega)),fun b hb=>hc.fr.old b hb (fun h=>h)⟩
end Go.Abs
namespace Go.Proofs.YtbfnjnljboncgaaGreatDoor
open Go.Abs
def zI8 (xs:List AV) (r:Ret):Prop:=∃ rows,xs=[.s (.sl 8 rows)]/\r = .val (.clo 51 [.s (.pt [.sl 8 rows])])
set_option maxHeartbeats 600000 in
theorem zNN:PSound Tryz.prog 28 (zAu zI8):=by
 have gok:∀ f s,look? f []=some s->PSound Tryz.prog f s:=zAo (by simp)
 refine psq tokW Tryz.call28 Tryz.func28 rfl ?_;rintro xs r w0 G0 ⟨rows,rfl,rfl⟩ _;refine yAD ?_;refine yAD ?_;refine zAh ?_;unfold zC4;exact⟨_,Le.refl _ _,rfl,rfl⟩
theorem zPu (a:Act) (t:Nat):a.eval (.tmp t)=a.tmps.getD t undef:=rfl
theorem yAA {α:Type}:∀ {l:List α},l.length=8->∃ a b c d e f g h,l=[a,b,c,d,e,f,g,h]
 | [a,b,c,d,e,f,g,h],_=>⟨a,b,c,d,e,f,g,h,rfl⟩
theorem zYQ:zHY Tryz.prog 51 8:=by
 intro G w0 v rows hlt hgl hv hrl hlen l J W hsz hk hJ hY h0;have hrep:∀ w:World,(∀ b,G b->w.heap[b]? = w0.heap[b]?)->Rep G w (.pt [.sl 8 rows]) v:=fun w hw=>hv.keep ⟨fun _ h=>h,hw⟩
 have hlt':∀ w:World,w0.heap.size<=w.heap.size->∀ b,G b->b<w.heap.size:=fun w hw b hb=>Nat.lt_of_lt_of_le (hlt b hb) hw
 have hgl':∀ w:World,(∀ b,G b->w.heap[b]? = w0.heap[b]?)->GlobOk G w:=fun w hw=>hgl.keep ⟨fun _ h=>h,hw⟩
 have step:∀ {N:Nat} {G':Nat->Prop} {β:Nat->Value} {σ:St} {a:Act} {wa wb:World} (i:Nat),Conc (zCT Tryz.prog wa G N) G' β σ a wb->wb.heap.size=wa.heap.size->J i wa->w0.heap.size<=wa.heap.size->(∀ b,G b->wa.heap[b]? = w0.heap[b]?) ->
   J i wb/\w0.heap.size<=wb.heap.size/\(∀ b,G b->wb.heap[b]? = w0.heap[b]?):=fun {N G' β σ a wa wb} i hc hs hj h1 h2=>by
  obtain⟨g1,g2⟩:=hc.back hs;exact⟨hJ i wa wb hj ⟨hc.fr.os,hc.fr.tape,hc.fr.output,hc.fr.size,g2⟩,by rw[hs]; exact h1,fun b hb=>(g2 b (hlt' wa h1 b hb)).trans (h2 b hb)⟩
 let St:Nat->Act->World->Prop:=fun i a w=>a.defers=[]/\a.tmps.size=19/\a.tmps.getD 0 undef = .func (.yield l) #[] #[]/\a.tmps.getD 1 undef=v/\a.tmps.getD 3 undef = .int .i64 ((rows.length:Int) - 1 - i)/\J i w/\w0.heap.size<=w.heap.size/\(∀ b,G b->w.heap[b]? = w0.heap[b]?)
 refine callsIn_of_wp Tryz.func51 rfl trivial ?_;generalize ha:({ tmps:=#[Value.func (.yield l) #[] #[],v]++Array.replicate _ undef,defers:=[] }:Act)=a;have a0:a.tmps.getD 0 undef = .func (.yield l) #[] #[] :=(by rw[← ha]; rfl);have a1:a.tmps.getD 1 undef=v :=(by rw[← ha]; rfl);have az:a.tmps.size=19 :=(by rw[← ha]; rfl);have ad:a.defers=[]:=by rw[← ha]
 clear ha
 refine wpIn_seq ?_;refine wpIn_region_lit ?_;refine zHx tokW (N:=19) (K:=fun σ=>σ.env 3 = .s (.int .i64 (IntKind.i64.wrap ((rows.length:Int) - 1)))) [0,1] ?_ (zLp (G:=G) [(1,.s (.pt [.sl 8 rows]))] ad az (hlt' W hsz) (hgl' W hk) rfl (fun p hp=>by
  obtain rfl:=List.mem_singleton.1 hp;dsimp only;rw[a1]
  simp only[AVal]
  exact hrep W hk)) rfl ?_
 ·show _=_
  rfl
 intro σ1 G1 β1 b w1 hK hc hs hfr;have b0:=(hfr 0 (by simp)).trans a0;have b1:=(hfr 1 (by simp)).trans a1;have b3:=hc.env 3;rw[hK]at b3;simp only[AVal,Rep]at b3;rw[wrap64_in (n:=(rows.length:Int) - 1) (by omega) (by omega)]at b3;have hst:=step 0 hc hs h0 hsz hk;have hS:St 0 b w1:=⟨hc.defers,hc.size,b0,b1,by rw[b3]; congr 1; omega,hst⟩
 clear hst b0 b1 b3 hK hfr hc hs a0 a1 az ad
 refine wpIn_block ?_;refine wpIn_loop (fun a w=>∃ i,i<=rows.length/\St i a w) (fun a _=>match a.tmps.getD 3 undef with | .int _ z=>(z+1).toNat | _=>0) ⟨0,Nat.zero_le _,hS⟩ ?_;rintro a w ⟨i,hi,ad,az,a0,a1,a3,hj,hw1,hw2⟩
 refine wpIn_seq ?_;refine wpIn_seq ?_;refine wpIn_region_lit ?_;refine zHx tokW (N:=19) (K:=fun σ=>σ.env 8 = .s (.bool (decide (0<=(rows.length:Int) - 1 - i)))) [0,1,3] ?_ (zLp (G:=G) [(3,.s (.int .i64 ((rows.length:Int) - 1 - i)))] ad az (hlt' w hw1) (hgl' w hw2) rfl (fun p hp=>by
  obtain rfl:=List.mem_singleton.1 hp;dsimp only;rw[a3]
  simp[AVal,Rep])) rfl ?_
 ·show _=_
  rfl
 intro σ1 G1 β1 b w1 hK hc hs hfr;have b0:=(hfr 0 (by simp)).trans a0;have b1:=(hfr 1 (by simp)).trans a1;have b3:=(hfr 3 (by simp)).trans a3;have b8:=hc.env 8;rw[hK]at b8;simp only[AVal,Rep]at b8;obtain⟨hj1,hw3,hw4⟩:=step i hc hs hj hw1 hw2;have bd:b.defers=[]:=hc.defers;have bs:b.tmps.size=19:=hc.size
 clear hc hK hfr hs a0 a1 ad az hj hw1 hw2
 refine wpIn_cond_split (t:=decide (0<=(rows.length:Int) - 1 - i)) b8 (fun hb=>?_) (fun hb=>?_)
 ·have hb:=of_decide_eq_true hb;refine wpIn_skip ?_;obtain⟨j,hij⟩:∃ j,i+j+1=rows.length:=⟨rows.length - 1 - i,by omega⟩
  have hz:(rows.length:Int) - 1 - i=(j:Int) :=(by omega);rw[hz]at b3;have hjl:j<rows.length :=(by omega);have hrow:rows[j]? = some rows[j]:=List.getElem?_eq_getElem hjl;have hr8:=hrl _ (List.getElem_mem hjl)
  have hgd:rows.getD ((j:Int).toNat) []=rows[j] :=(by rw[Int.toNat_natCast,List.getD_eq_getElem?_getD,hrow]; rfl);generalize rows[j]=row at hrow hr8 hgd;refine wpIn_seq ?_;refine wpIn_block ?_;refine wpIn_seq ?_;refine wpIn_region_lit ?_;refine zGb rfl ?_;refine zUA (ro:=none) (K:=fun a' w'=>a'=b.put (some 11) (.func (.yield l) #[] #[])/\w'=w1) (by intro c e; cases e) ?_ (zAz (v:=.func (.yield l) #[] #[]) (w':=w1) (by simp[execOp,zPu,b0]) ⟨rfl,rfl⟩)
  rintro a' w' ⟨ha',hw'⟩
  rw[ha',hw']
  clear ha' hw' a' w'
  have c0:(b.put (some 11) (.func (.yield l) #[] #[])).tmps.getD 0 undef = .func (.yield l) #[] #[]:=(zGH (by decide)).trans b0;have c1:(b.put (some 11) (.func (.yield l) #[] #[])).tmps.getD 1 undef=v:=(zGH (by decide)).trans b1;have c3:(b.put (some 11) (.func (.yield l) #[] #[])).tmps.getD 3 undef = .int .i64 (j:Int):=(zGH (by decide)).trans b3;have c11:(b.put (some 11) (.func (.yield l) #[] #[])).tmps.getD 11 undef = .func (.yield l) #[] #[]:=by
   simp only[Act.put]
   rw[zGR (by rw[bs]; decide),if_pos rfl]
  have cd:(b.put (some 11) (.func (.yield l) #[] #[])).defers=[]:=(put_defers ..).trans bd;have cs:(b.put (some 11) (.func (.yield l) #[] #[])).tmps.size=19:=(zJY ..).trans bs;generalize b.put (some 11) (.func (.yield l) #[] #[])=c at c0 c1 c3 c11 cd cs
  clear b0 b1 b3 b8 bd bs
  refine zLD tokW (N:=19) 4 (K:=fun σ=>σ.env 12 = .s (.int .i64 (j:Int))/\σ.env 15 = .s (.pt (rows.getD ((j:Int).toNat) []))) [0,1,3,11] ?_ (zLp (G:=G) [(1,.s (.pt [.sl 8 rows])),(3,.s (.int .i64 (j:Int)))] cd cs (hlt' w1 hw3) (hgl' w1 hw4) rfl (fun p hp=>by
   rcases List.mem_cons.1 hp with rfl | hp
   ·dsimp only;rw[c1]
    simp only[AVal]
    exact hrep w1 hw4
   ·obtain rfl:=List.mem_singleton.1 hp;dsimp only;rw[c3]
    simp[AVal,Rep])) rfl ?_
  ·exact⟨⟨by omega,by omega⟩,rfl,rfl⟩
  intro σ2 G2 β2 d w2 hK hc hs hfr;have d0:=(hfr 0 (by simp)).trans c0;have d1:=(hfr 1 (by simp)).trans c1;have d3:=(hfr 3 (by simp)).trans c3;have d11:=(hfr 11 (by simp)).trans c11;have d12:=hc.env 12;have d15:=hc.env 15;obtain⟨hgb,_⟩:=hc.back hs;rw[hK.1]at d12;rw[hK.2,hgd]at d15;simp only[AVal,Rep]at d12;have d15:=d15.keep (⟨hgb,fun _ _=>rfl⟩:Keep G2 G w2 w2)
  simp only[AVal]at d15;obtain⟨hj2,hw5,hw6⟩:=step i hc hs hj1 hw3 hw4;have dd:d.defers=[]:=hc.defers;have ds:d.tmps.size=19:=hc.size
  clear hc hK hfr hs c0 c1 c3 c11 cd cs hj1 hw3 hw4 hgb
  obtain⟨r1,r2,r3,r4,r5,r6,r7,r8,rfl⟩:=yAA hr8;refine zLD tokW (N:=19) 1 (K:=fun σ=>σ.env 16 = .agg ([r1,r2,r3,r4,r5,r6,r7,r8].map .s)) [0,1,3,11,12] ?_ (zLp (G:=G) [(15,.s (.pt [r1,r2,r3,r4,r5,r6,r7,r8]))] dd ds (hlt' w2 hw5) (hgl' w2 hw6) rfl (fun p hp=>by
   obtain rfl:=List.mem_singleton.1 hp;dsimp only;simp only[AVal]
   exact d15)) rfl ?_
  ·show _=_
   rfl
  intro σ3 G3 β3 e w3 hK hc hs hfr;have e0:=(hfr 0 (by simp)).trans d0;have e1:=(hfr 1 (by simp)).trans d1;have e3:=(hfr 3 (by simp)).trans d3;have e11:=(hfr 11 (by simp)).trans d11;have e12:=(hfr 12 (by simp)).trans d12;have e16:=hc.env 16;obtain⟨hgb,_⟩:=hc.back hs;rw[hK]at e16;have e16:=e16.keep (⟨hgb,fun _ _=>rfl⟩:Keep G3 G w3 w3)
  obtain⟨hj3,hw7,hw8⟩:=step i hc hs hj2 hw5 hw6;have ed:e.defers=[]:=hc.defers;have es:e.tmps.size=19:=hc.size
  clear hc hK hfr hs d0 d1 d3 d11 d12 d15 dd ds hj2 hw5 hw6 hgb
  refine zGb rfl ?_;have hYY:=hY i j _ (e.tmps.getD 16 undef) w3 hij hrow hj3 hw7 hw8 (fun β=>e16.beta (n:=0) (fun k hk=>by cases hk) (zMQ _))
  refine zT2 (u:=.bool true) (f:=.tmp 11) (x:=.tmp 12) (y:=.tmp 16) (l:=l) rfl e11 (by rw[zPu,zPu,e12]; exact hYY) ?_;rintro ee w4 ⟨rfl,hj4,hw9,hw10⟩
  refine⟨rfl,?_⟩
  have f0:(e.put (some 17) (.bool true)).tmps.getD 0 undef = .func (.yield l) #[] #[]:=(zGH (by decide)).trans e0;have f1:(e.put (some 17) (.bool true)).tmps.getD 1 undef=v:=(zGH (by decide)).trans e1;have f3:(e.put (some 17) (.bool true)).tmps.getD 3 undef = .int .i64 (j:Int):=(zGH (by decide)).trans e3;have f17:(e.put (some 17) (.bool true)).tmps.getD 17 undef = .bool true:=by
   simp only[Act.put]
   rw[zGR (by rw[es]; decide),if_pos rfl]
  have fd:(e.put (some 17) (.bool true)).defers=[]:=(put_defers ..).trans ed;have fs:(e.put (some 17) (.bool true)).tmps.size=19:=(zJY ..).trans es;show wpListIn _ _ _ _ _ _ (e.put (some 17) (.bool true)) _;generalize e.put (some 17) (.bool true)=f at f0 f1 f3 f17 fd fs
  clear e0 e1 e3 e11 e12 e16 ed es hj3 hw7 hw8 hYY
  refine zHx tokW (N:=19) (K:=fun σ=>σ.env 18 = .s (.bool false)) [0,1,3] ?_ (zLp (G:=G) [(17,.s (.bool true))] fd fs (hlt' w4 hw9) (hgl' w4 hw10) rfl (fun p hp=>by
   obtain rfl:=List.mem_singleton.1 hp;dsimp only;rw[f17]
   simp[AVal,Rep])) rfl ?_
  ·show _=_
   rfl
  intro σ5 G5 β5 g w5 hK hc hs hfr;have g0:=(hfr 0 (by simp)).trans f0;have g1:=(hfr 1 (by simp)).trans f1;have g3:=(hfr 3 (by simp)).trans f3;have g18:=hc.env 18;rw[hK]at g18;simp only[AVal,Rep]at g18;obtain⟨hj5,hw11,hw12⟩:=step (i+1) hc hs hj4 hw9 hw10;have gd:g.defers=[]:=hc.defers;have gs:g.tmps.size=19:=hc.size
  clear hc hK hfr hs f0 f1 f3 f17 fd fs hj4 hw9 hw10
  refine wpIn_cond_false g18 ?_;refine wpIn_skip ?_;refine wpIn_region_lit ?_;refine zHx tokW (N:=19) (K:=fun σ=>σ.env 3 = .s (.int .i64 (IntKind.i64.wrap ((j:Int) - 1)))) [0,1] ?_ (zLp (G:=G) [(3,.s (.int .i64 (j:Int)))] gd gs (hlt' w5 hw11) (hgl' w5 hw12) rfl (fun p hp=>by
   obtain rfl:=List.mem_singleton.1 hp;dsimp only;rw[g3]
   simp[AVal,Rep])) rfl ?_
  ·show _=_
   rfl
  intro σ6 G6 β6 h w6 hK hc hs hfr;have h0':=(hfr 0 (by simp)).trans g0;have h1':=(hfr 1 (by simp)).trans g1;have h3':=hc.env 3;rw[hK]at h3';simp only[AVal,Rep]at h3';rw[wrap64_in (n:=(j:Int) - 1) (by omega) (by omega)]at h3';have hst:=step (i+1) hc hs hj5 hw11 hw12;refine⟨⟨i+1,by omega,hc.defers,hc.size,h0',h1',by rw[h3']; congr 1; omega,hst⟩,?_⟩
  rw[h3',a3]
  show((j:Int) - 1+1).toNat<((rows.length:Int) - 1 - i+1).toNat
  omega
 ·have hb:=of_decide_eq_false hb;refine wpIn_exit ?_;obtain rfl:i=rows.length :=(by omega);simp only[Exit.then,Exit.inBlock,if_true]
  exact⟨bd,_,results_none rfl _ _ _,⟨_,rfl⟩,hj1⟩
theorem zZy {c:Cx}{σ σ':Go.Abs.St}{x:Code}{Φ:Exit->Act->World->Prop} (hle:Le c σ σ') (h:TriX c x σ' Φ):TriX c x σ Φ:=fun G β a w hc=>by
 unfold Le at hle;obtain⟨G',β',h'⟩:=hle G β a w hc;exact h G' β' a w h'
theorem zIr {n:Nat}{ops:List zO8}:∀ {N:Nat}{y0:List zO8},zA7 n ops N=some y0->∀ i,i<N ->
  ∃ acc o y,zA7 n ops i=some acc/\ops[ops.length - 1 - i]? = some o/\zB6 n o=some y/\acc.length+1<=4294967296/\zA7 n ops (i+1)=some (acc++[y])
 | 0,_,_,i,hi=>by omega
 | N+1,y0,h,i,hi=>by
  have h':=h;unfold zA7 at h;obtain⟨acc,h1,h⟩:=zAc h;obtain⟨o,h2,h⟩:=zAc h;obtain⟨y,h3,h⟩:=zAc h;obtain⟨h4,h5⟩:=zAK h
  by_cases e:i=N
  ·subst e;exact⟨acc,o,y,h1,h2,h3,h4,h'.trans h5.symm⟩
  ·exact zIr h1 i (by omega)
def zLm (n:Nat) (xs:List AV) (r:Ret):Prop:=∃ (a0:List zO8) (y0:List zO8),zCm n a0=some y0/\xs=[.s (.sl 8 ((List.map zAk) a0))]/\r = .val (.s (.sl 8 ((List.map zAk) y0)))
def zG6:zAp:=zAu fun xs r=>∃ n,zLm n xs r
theorem zKx:PSound Tryz.prog 11 zG6:=by
 have gok:∀ f s,look? f [(28,zAu zI8),(29,zJk)]=some s->PSound Tryz.prog f s:=zAo (by
  simp only[List.forall_mem_cons]
  exact⟨zNN,zNT,by simp⟩)
 refine zWa Tryz.call11 Tryz.func11 rfl (fun xs r h=>by obtain⟨n,_,_,_,rfl,_⟩:=h; show 1<=16; decide) 16 rfl ?_;rintro xs r w0 G0 ⟨n,ops,y0,h,rfl,rfl⟩ _;rw[zCm]at h;obtain⟨hl,h⟩:=zAK h;obtain⟨acc,hacc⟩:∃ acc:Nat->List zO8,acc=fun i=>(zA7 n ops i).getD []:=⟨_,rfl⟩
 have hfin:acc ops.length=y0 :=(by rw[hacc]; dsimp only; rw[h]; rfl);have h0:acc 0=[] :=(by rw[hacc]; rfl);have hst:∀ i,i<ops.length->∃ o y,ops[ops.length - 1 - i]? = some o/\zB6 n o=some y/\(acc i).length+1<=4294967296/\acc (i+1)=acc i++[y]:=fun i hi=>by
  obtain⟨a,o,y,h1,h2,h3,h4,h5⟩:=zIr h i hi;rw[hacc]
  exact⟨o,y,h2,h3,by dsimp only; rw[h1]; exact h4,by dsimp only; rw[h1,h5]; rfl⟩
 clear hacc
 refine zGa rfl ?_;refine yAC ?_;refine⟨rfl,?_⟩
 refine zGa rfl ?_;refine zAb [3] [] rfl ?_;refine⟨rfl,?_⟩
 refine zTY ?_;refine zGa rfl ?_;refine yAC ?_;refine⟨_,⟨_,rfl,rfl⟩,?_⟩
 refine⟨rfl,?_⟩
 refine zZy (Le.trans (Le.takeNil 0 0 30 rfl rfl (by decide)) (Le.rnq [(0,0),(1,1)] [(3,.op 0 0),(7,.clo 51 [.s (.pt [.sl 8 ((List.map zAk) ops)])])] [(0,.box 25 [.orow 1]),(1,.row 30 8 [])] 2)) ?_;refine zKS ?_;refine zOW rfl rfl (sz:=8) (rows:=(List.map zAk) ops) zYQ Tryz.call51 rfl (fun r hr=>by obtain⟨o,_,rfl⟩:=List.mem_map.1 hr; rfl) (by rw[List.length_map]; omega)
  (fun i=>(ofH [(0,.box 25 [.orow 1]),(1,.row 30 8 ((List.map zAk) (acc i)))],2)) (by dsimp only; rw[h0]; rfl) 1 (zH7 rfl) (Nat.zero_le _) (fun _=>by show 1<=2; decide) (by show 8<16; decide) (by show 9<16; decide) ?_ ?_
 ·intro i j row hij hrow l w X G B _;rw[List.length_map]at hij;obtain⟨o,y,h1,h2,h3,h4⟩:=hst i (by omega)
  rw[show ops.length - 1 - i=j by omega]at h1;rw[List.getElem?_map,h1]at hrow;obtain rfl:=Option.some.inj hrow;obtain⟨op_kind,op_row,op_at,op_n,op_nodes,op_slot,op_old,op_text⟩:=o;refine zAb [5] [] rfl ?_;refine⟨rfl,fun w X G B _=>?_⟩
  refine zAi ?_;refine zKa (by exact tokW) (by exact gok) (by exact mixed) [] [] [0,1,4,5] rfl (by decide +kernel) ?_;refine⟨_,⟨n,_,_,h2,rfl,rfl⟩,?_⟩
  obtain⟨z_kind,z_row,z_at,z_n,z_nodes,z_slot,z_old,z_text⟩:=y;refine And.intro (by simp only[List.length_map,List.length_cons,List.length_nil]; omega) ?_;refine⟨rfl,_,Le.rename [(0,0),(3,1)] [] [(0,.box 25 [.orow 1]),(1,.row 30 8 ((List.map zAk) (acc (i+1))))] 2 trivial ⟨rfl,⟨_,rfl,rfl⟩,rfl,⟨_,rfl,by rw[h4,List.map_append]; rfl⟩,trivial⟩ rfl rfl rfl rfl rfl,rfl,rfl⟩
 ·intro D w2 X G2 G' β' a2 hsw hc;rw[List.length_map,hfin]at hc;show(Code.seq _ _).wpIn _ _ _ _ a2 w2;refine zQ5 (c:=zCT Tryz.prog w0 G0 16) tokW hsw (fun _ h=>h) rfl rfl ?_ G' β' a2 w2 hc;refine yAD ?_;refine zAh ?_;unfold zC4;exact⟨_,Le.giveRow 1 (e:=30) (sz:=8) (rows:=(List.map zAk) y0) rfl,rfl,rfl⟩
end Go.Proofs.YtbfnjnljboncgaaGreatDoor
namespace Go.Abs
theorem zWR {c:Cx}{G:Nat->Prop}{β:Nat->Value}{σ:St}{a:Act}{w:World} (hc:Conc c G β σ a w){l0:Nat} (hro:c.ro=some l0) (hl0:∃ r,w.heap[l0]? = some (.loop r)){tg p1 p2 fid sz:Nat}{rows:List (List S)}{assign body:Code}
  (hit:zHY c.P fid sz) (hcall:∀ args w,(callFunc fid args).run c.P w = .ok (.enter fid args) w) (he:σ.env tg = .clo fid [.s (.pt [.sl sz rows])]) (hrl:∀ r∈rows,r.length=sz) (hlen:rows.length<=4611686018427387904)
  (E:Nat->(Nat->Option Ob)×Nat) (hE:E 0=(σ.hp,σ.nx)) (m:Nat) (hm:∀ t,(σ.env t).lt m=true) (hm0:c.n0<=m) (hmE:∀ i,m<=(E i).2) (hp1:p1<c.N) (hp2:p2<c.N)
  (hround:∀ i j row,i+j+1=rows.length->rows[j]? = some row->∀ l w X G B,Rl w X l->Tri (rcx c.P c.N m l w X G B) assign (zKI σ p1 p2 j row (E i)) (fun e σ1=>e = .normal/\∀ w X G B,Rl w X l ->
   Tri (rcx c.P c.N m l w X G B) body σ1 (fun e σ2=>e = .normal/\∃ σ3,Le (rcx c.P c.N m l w X G B) σ2 σ3/\σ3.hp=(E (i+1)).1/\σ3.nx=(E (i+1)).2)))
  (hfid:Nat.ble 1048576 fid=false) {Q:End->St->Prop} (hQ:Q .normal ⟨σ.env,(E rows.length).1,(E rows.length).2⟩) :
  (Code.rangeFunc (.tmp tg) #[p1,p2] assign body).wpIn (rF c.ro) 2 c.P (fun e a' w'=>∃ e' G' β' σ',e=zEx e'/\Q e' σ'/\Conc c G' β' σ' a' w') a w:=by
 have hg:=hc.env tg;rw[he]at hg;simp only[AVal,AVals]at hg;obtain⟨vs,hg,v,vs',rfl,hv,rfl⟩:=hg;have hg:a.eval (.tmp tg) = .func (.func fid) #[] #[v] :=(by rw[zOi hfid]at hg; exact hg);have hiter:=hit G w v rows hc.lt hc.glob hv hrl hlen;rw[hro]
 obtain⟨r0,hr0⟩:=hl0;refine wpIn_rangeFunc fun fn _=>?_
 obtain⟨rec,hrec⟩:∃ rec:LoopState->Loop,rec=fun st=>{ state:=st,pending:=none,fn:=fn,tmps:=a.tmps,params:=#[p1,p2],assign:=assign,body:=body,defers:=r0.defers }:=⟨_,rfl⟩
 obtain⟨l,hl0⟩:∃ l,l=w.heap.size:=⟨_,rfl⟩
 obtain⟨W1,hW1⟩:∃ W1,w.alloc (.loop (rec .ready))=W1:=⟨_,rfl⟩
 have hL1:W1.heap[l]? = some (.loop (rec .ready)) :=(by rw[← hW1,hl0]; exact World.alloc_heap_new w _);have hc1:Conc c G β σ a W1 :=(by rw[← hW1]; exact hc.ext (Ext.alloc0 hc.lt (.loop (rec .ready))));have hcl:c.w0.heap.size<=l :=(by rw[hl0]; exact hc.fr.size);refine⟨l,[],W1,{ target:=.fn (.func fid) #[v],args:=#[.func (.yield l) #[] #[]] },W1,fid,#[.func (.yield l) #[] #[]]++#[v],W1,?_,?_,?_,?_,fun h=>(by cases h),?_⟩
 ·rw[← hW1,hrec,hl0]; exact run_enterLoop_inner hr0 _ _ _ _ _
 ·simp only[resolve,hg]
  simp[go_sem]
 ·intro f' hf'; trivial
 ·simp[invoke,go_sem,hcall]
 have key:=hiter l (fun i W=>W.heap[l]? = some (.loop (rec .ready))/\∃ G' β',Conc c G' β' ⟨σ.env,(E i).1,(E i).2⟩ a W/\(∀ b,G b->G' b)/\¬ G' l) W1 (by rw[← hW1,World.size_alloc]; omega)
  (fun b hb=>by
   have hb':=hc.lt b hb;rw[← hW1,zBa _ _ hb'])
  (fun i A B ⟨h1,G',β',h3,h4⟩ hg=>⟨(hg.old l (Array.getElem?_eq_some_iff.1 h1).1).trans h1,G',β',h3.ext (hg.ext h3.lt),h4⟩)
  ?_ ⟨hL1,G,β,by rw[hE]; exact hc1,fun _ h=>h,fun h=>by have:=hc.lt _ h; omega⟩
 ·refine key.mono ?_;rintro e W3 ⟨⟨u,rfl⟩,h1,G3,β3,hc3,hG3,hnl⟩
  have hend:=run_endLoop (P:=c.P) h1 (by rw[hrec]; simp)
  rw[hrec]at hend;refine⟨none,_,hend,?_⟩
  dsimp only;have hnol:¬ ownB β3 (E rows.length).1 l:=hc3.not_own h1 rfl;generalize hW4:W3.putObj l _=W4;have hoth:∀ b,b ≠ l->W4.heap[b]? = W3.heap[b]?:=fun b hb=>by rw[← hW4]; exact World.putObj_heap_other hb
  have hsz:W4.heap.size=W3.heap.size :=(by rw[← hW4]; exact World.putObj_size);have hfr4:Fr c.X c.w0 W4:=⟨by rw[← hW4]; exact hc3.fr.os,by rw[← hW4]; exact hc3.fr.tape,by rw[← hW4]; exact hc3.fr.output,by rw[hsz]; exact hc3.fr.size,fun b hb hx=>(hoth b (by omega)).trans (hc3.fr.old b hb hx)⟩
  refine⟨.normal,G3,β3,_,rfl,hQ,?_⟩
  exact hc3.re (c2:=c) (fun b hb=>hoth b fun h=>hnl (h ▸ hb)) (fun b hb=>hoth b fun h=>hnol (h ▸ hb)) (by rw[hsz]; exact Nat.le_refl _)
   hc.defers hc.size hc3.env hc3.envlt (fun b ⟨k,ob,q1,q2⟩=>(row_block (hc3.hp k ob q1) b q2).2) hc3.sub hc3.new hfr4 hc3.stay
 ·rintro i j row u W hiN hrow ⟨h1,G',β',hcW,hGG,hnl⟩ hszW hGk hval;refine zOc (E:=E (i+1)) hcW h1 (by rw[hrec]) (by rw[hrec]) (by rw[hrec]) (by rw[hrec]) hnl (by omega) hm hm0 (hmE i) hp1 hp2 ((hval β').keep ⟨hGG,fun _ _=>rfl⟩) (by rw[hrec]; exact hround i j row hiN hrow l) fun G2 β2 W2 e0 e1 e2 e3 e4 e5 e6=>?_
  exact⟨rfl,⟨e1,G2,β2,e0,fun b h=>e3 b (hGG b h),e2⟩,Nat.le_trans hszW e5,
   fun b hb=>(e6 b (hcW.lt b (hGG b hb)) (fun e=>hnl (e ▸ hGG b hb)) fun h=>hcW.own_G h (hGG b hb)).trans (hGk b hb)⟩
theorem zUN {c:Cx}{σ:St}{Q:End->St->Prop}{l0:Nat} (hro:c.ro=some l0) (hl0:Rl c.w0 c.X l0){tg p1 p2 fid sz:Nat}{rows:List (List S)}{assign body:Code}
  (hit:zHY c.P fid sz) (hcall:∀ args w,(callFunc fid args).run c.P w = .ok (.enter fid args) w) (he:σ.env tg = .clo fid [.s (.pt [.sl sz rows])]) (hrl:∀ r∈rows,r.length=sz) (hlen:rows.length<=4611686018427387904)
  (E:Nat->(Nat->Option Ob)×Nat) (hE:E 0=(σ.hp,σ.nx)) (m:Nat) (hm:∀ t,(σ.env t).lt m=true) (hm0:c.n0<=m) (hmE:∀ i,m<=(E i).2) (hp1:p1<c.N) (hp2:p2<c.N)
  (hround:∀ i j row,i+j+1=rows.length->rows[j]? = some row->∀ l w X G B,Rl w X l->Tri (rcx c.P c.N m l w X G B) assign (zKI σ p1 p2 j row (E i)) (fun e σ1=>e = .normal/\∀ w X G B,Rl w X l ->
   Tri (rcx c.P c.N m l w X G B) body σ1 (fun e σ2=>e = .normal/\∃ σ3,Le (rcx c.P c.N m l w X G B) σ2 σ3/\σ3.hp=(E (i+1)).1/\σ3.nx=(E (i+1)).2)))
  (hQ:Q .normal ⟨σ.env,(E rows.length).1,(E rows.length).2⟩) (hfid:Nat.ble 1048576 fid=false:=by rfl):Tri c (.rangeFunc (.tmp tg) #[p1,p2] assign body) σ Q:=by
 unfold Tri;intro G β a w hc;obtain⟨⟨r,hr⟩,hx⟩:=hl0;exact zWR hc hro ⟨r,(hc.fr.old l0 (Array.getElem?_eq_some_iff.1 hr).1 hx).trans hr⟩ hit hcall he hrl hlen E hE m hm hm0 hmE hp1 hp2 hround hfid hQ
def zYN (c:Cx) (Φ:AV->(Nat->Option Ob)->Nat->Prop):Ending->World->Prop:=fun e w'=>∃ v G' β' x hp' n',e = .returned v/\Φ x hp' n'/\c.n0<=n'/\Fr c.X c.w0 w'/\(∀ b,c.G0 b->G' b)/\(∀ b,G' b->c.G0 b∨c.mine b)/\(∀ b,G' b->b<w'.heap.size) /\
 AVal G' w' β' x v/\x.lt n'=true/\HpAt c G' w' β' hp' n'/\∀ k,k<c.n0->β' k=c.B0 k
theorem zYa {c:Cx}{σ σ':St}{x:Code}{Φ:Exit->Act->World->Prop} (hle:Le c σ σ') (h:TriX c x σ' Φ):TriX c x σ Φ:=fun G β a w hc=>by
 unfold Le at hle;obtain⟨G',β',h'⟩:=hle G β a w hc;exact h G' β' a w h'
def ΦO (x:AV) (os':List (Option Ob)):AV->(Nat->Option Ob)->Nat->Prop:=fun y hp' n'=>y=x/\x.lt os'.length=true/\zMH hp' os'.length 0 os'
theorem zSw {c:Cx}{T:Nat->Option TI}{rs:List ResultVar}{x:AV}{os':List (Option Ob)}{σ:St} (h:zCA c T rs x os' σ):zFV c T rs (ΦO x os') σ:=by
 unfold zCA at h;unfold zFV;obtain⟨σ',h1,h2,h3,h4⟩:=h;exact⟨σ',h1,x,h2,rfl,h3,h4⟩
theorem zXh {c c2:Cx}{D:Nat}{T:Nat->Option TI} (hT:TOk c2.P T){fn:Func}{Φ:AV->(Nat->Option Ob)->Nat->Prop}{σ':St}{G':Nat->Prop}{β':Nat->Value}{a':Act}{w':World} (hsw:Sw c c2 D) (hn:c2.n0=c.n0) (hB:c2.B0=c.B0) (hds:c2.ds=[{ target:=.collected D,args:=#[] }])
  (hc':Conc c2 G' β' σ' a' w') (hq:zFV c2 T fn.results.toList Φ σ'):bodyPostM (rF none) 2 c2.P fn (zYN c Φ) .normal a' w':=by
 show LeavesInM (rF none) 2 c2.P fn a'.tmps (zYN c Φ) a'.defers .returning w';unfold zFV at hq;obtain⟨σ2,hle,x,hr,hΦ⟩:=hq;unfold Le at hle;obtain⟨G2,β2,hc2⟩:=hle G' β' a' w' hc';have hDl:D<c2.w0.heap.size:=(Array.getElem?_eq_some_iff.1 hsw.blk).1;have hD:w'.heap[D]? = some (.deferred (some [])):=(hc2.fr.old D hDl hsw.nX).trans hsw.blk;have hnG:¬ G2 D:=fun h=>(hc2.new D h).elim hsw.nG (fun h=>h.elim hsw.nX (fun h=>by omega))
 have hnO:¬ ownB β2 σ2.hp D:=hc2.not_own hD rfl;rw[hc'.defers,hds]
 refine⟨by simp,.inl ⟨_,_,rfl,run_takeDeferred hD,?_⟩⟩
 generalize hW:w'.putObj D (.deferred none)=W;have oth:∀ b,b ≠ D->W.heap[b]? = w'.heap[b]?:=fun b hb=>by rw[← hW]; exact World.putObj_heap_other hb
 have sz:W.heap.size=w'.heap.size :=(by rw[← hW]; exact World.putObj_size);have hge:=hsw.ge;have hmine:∀ b,c2.mine b->c.mine b:=fun b hb=>by
  rcases hb with hb | hb
  ·exact hsw.mine b hb
  ·exact .inr (Nat.le_trans hsw.fr.size hb)
 have hfr:Fr c.X c.w0 W:=by
  refine⟨?_,?_,?_,?_,fun b hb hx=>?_⟩
  ·rw[← hW]; show w'.os=_; rw[hc2.fr.os]; exact hsw.fr.os
  ·rw[← hW]; show w'.tape=_; rw[hc2.fr.tape]; exact hsw.fr.tape
  ·rw[← hW]; show w'.output=_; rw[hc2.fr.output]; exact hsw.fr.output
  ·have h1:=hc2.fr.size; have h2:=hsw.fr.size; omega
  ·have h2:=hsw.fr.size;exact(oth b (by omega)).trans ((hc2.fr.old b (by omega) (fun h=>(hsw.mine b h).elim hx (fun h=>by omega))).trans (hsw.fr.old b hb hx))
 have hc3:Conc { c with P:=c2.P,N:=c2.N,ds:=[] } G2 β2 ⟨σ2.env,σ2.hp,σ2.nx⟩ { a' with defers:=[] } W :=
  hc2.re (c2:={ c with P:=c2.P,N:=c2.N,ds:=[] }) (fun b hb=>oth b fun h=>hnG (h ▸ hb)) (fun b hb=>oth b fun h=>hnO (h ▸ hb)) (by rw[sz]; exact Nat.le_refl _) rfl hc2.size hc2.env hc2.envlt
   (fun b ⟨k,ob,q1,q2⟩=>hmine b (row_block (hc2.hp k ob q1) b q2).2) (fun b h=>hc2.sub b (hsw.sub b h)) (fun b h=>(hc2.new b h).elim (hsw.new b) (fun h=>.inr (hmine b h))) hfr (by rw[← hn,← hB]; exact hc2.stay)
 obtain⟨v,h1,h2⟩:=zFN (c:={ c with P:=c2.P,N:=c2.N,ds:=[] }) hT hc3 hr;exact⟨v,h1,v,G2,β2,x,σ2.hp,σ2.nx,rfl,hΦ,hc3.stay.1,hfr,hc3.sub,hc3.new,hc3.lt,h2,zTF hc3 hr,⟨fun k ob hk=>ObAt.cx (fun _ h=>h) (hc3.hp k ob hk),hc3.hplt,hc3.inj⟩,hc3.stay.2⟩
theorem zZg {P:Program}{f:Nat}{fn:Func}{code:Code}{R:List AV->List Ob->AV->List (Option Ob)->Prop} (hcall:∀ args w,(callFunc f args).run P w = .ok (.enter f args) w)
  (hf:P.funcs[f]? = some fn) (hb:fn.body=some code) (hn:∀ xs os x os',R xs os x os'->xs.length<=fn.ntmps/\os.length<=os'.length)
  (N:Nat) (hN:fn.ntmps=N)
  (h:∀ xs os x os' w0 G0 B0,R xs os x os'->AV.ltAll os.length xs=true->TriX (zDI P w0 B0 os.length G0 N) code (zHT xs os) (bodyPostM (rF none) 2 P fn (zYN (zDI P w0 B0 os.length G0 N) (ΦO x os')))):PSound P f (zB1 R):=by
 subst hN;refine⟨hcall,fun G w xs vs r _ _ _ _ hpre=>hpre.elim,fun R' hR'=>?_,fun R hR=>(by cases hR)⟩
 obtain rfl:R=R' :=(by simpa [zB1] using hR');intro G w β xs vs os x os' hlt hgl hv hxl hobs hR;have hlen:=hv.length;obtain⟨hxn,hol⟩:=hn xs os x os' hR;have hget:∀ (k:Nat) ob,(zHT xs os).hp k=some ob->(os.map some)[k]? = some (some ob):=fun k ob hk=>by
  simp only[zHT]at hk;rw[List.getElem?_map,hk]; rfl
 have hc:Conc (zDI P w β os.length G fn.ntmps) G β (zHT xs os) { tmps:=vs.toArray++Array.replicate (fn.ntmps - vs.toArray.size) undef,defers:=[] } w:={
  defers:=rfl
  size:=by simp only[Array.size_append,List.size_toArray,Array.size_replicate]; show _=fn.ntmps; omega
  env:=zH0 hv
  envlt:=zKk hxl
  hp:=fun k ob hk=>ObAt.cx (fun _ h=>h) (hobs.1 k ob (hget k ob hk)).1
  hplt:=fun k ob hk=>⟨(List.getElem?_eq_some_iff.1 hk).1,by have:=(hobs.1 k ob (hget k ob hk)).2; rwa [List.length_map]at this⟩
  inj:=fun k k' ob ob' hk hk' hne b=>hobs.2 k k' ob ob' (hget k ob hk) (hget k' ob' hk') hne b
  lt:=hlt
  sub:=fun b hb=>hb
  new:=fun b hb=>.inl hb
  fr:=Fr.refl _ _
  stay:=⟨Nat.le_refl _,fun _ _=>rfl⟩
  glob:=hgl }
 refine(callsIn_wide.1 (callsIn_of_wp_marks hf hb trivial (h xs os x os' w G β hR hxl G β _ w hc))).mono fun e w' he=>?_
 obtain⟨v,G',β',y,hp',n',h1,⟨rfl,hxl',hh⟩,h3,h4,h5,h6,h7,h8,h9,h10,h11⟩:=he;have hg:∀ (i:Nat) ob,os'[i]? = some (some ob)->hp' i=some ob/\ob.lt os'.length=true:=fun i ob hi=>by simpa using zH3 hh hi
 exact⟨v,G',β',h1,h4,h5,h6,h7,h8,hxl',hol,
  ⟨fun i ob hi=>⟨ObAt.cx (fun _ h=>h) (h10.obs i ob (hg i ob hi).1),(hg i ob hi).2⟩,fun i j ob ob' hi hj hne b=>h10.inj i j ob ob' (hg i ob hi).1 (hg j ob' hj).1 hne b⟩,
  fun i ob hi ho=>h11 i hi⟩
end Go.Abs
namespace Go.Proofs.YtbfnjnljboncgaaGreatDoor
open Go.Abs
def zI7 (xs:List AV) (r:Ret):Prop:=∃ rows,xs=[.s (.sl 4 rows)]/\r = .val (.clo 80 [.s (.pt [.sl 4 rows])])
set_option maxHeartbeats 600000 in
theorem zNM:PSound Tryz.prog 45 (zAu zI7):=by
 have gok:∀ f s,look? f []=some s->PSound Tryz.prog f s:=zAo (by simp)
 refine psq tokW Tryz.call45 Tryz.func45 rfl ?_;rintro xs r w0 G0 ⟨rows,rfl,rfl⟩ _;refine yAD ?_;refine yAD ?_;refine zAh ?_;unfold zC4;exact⟨_,Le.refl _ _,rfl,rfl⟩
theorem zMC (a:Act) (t:Nat):a.eval (.tmp t)=a.tmps.getD t undef:=rfl
theorem list4 {α:Type}:∀ {l:List α},l.length=4->∃ a b c d,l=[a,b,c,d]
 | [a,b,c,d],_=>⟨a,b,c,d,rfl⟩
theorem zU6:zHY Tryz.prog 80 4:=by
 intro G w0 v rows hlt hgl hv hrl hlen l J W hsz hk hJ hY h0;have hrep:∀ w:World,(∀ b,G b->w.heap[b]? = w0.heap[b]?)->Rep G w (.pt [.sl 4 rows]) v:=fun w hw=>hv.keep ⟨fun _ h=>h,hw⟩
 have hlt':∀ w:World,w0.heap.size<=w.heap.size->∀ b,G b->b<w.heap.size:=fun w hw b hb=>Nat.lt_of_lt_of_le (hlt b hb) hw
 have hgl':∀ w:World,(∀ b,G b->w.heap[b]? = w0.heap[b]?)->GlobOk G w:=fun w hw=>hgl.keep ⟨fun _ h=>h,hw⟩
 have step:∀ {N:Nat} {G':Nat->Prop} {β:Nat->Value} {σ:St} {a:Act} {wa wb:World} (i:Nat),Conc (zCT Tryz.prog wa G N) G' β σ a wb->wb.heap.size=wa.heap.size->J i wa->w0.heap.size<=wa.heap.size->(∀ b,G b->wa.heap[b]? = w0.heap[b]?) ->
   J i wb/\w0.heap.size<=wb.heap.size/\(∀ b,G b->wb.heap[b]? = w0.heap[b]?):=fun {N G' β σ a wa wb} i hc hs hj h1 h2=>by
  obtain⟨g1,g2⟩:=hc.back hs;exact⟨hJ i wa wb hj ⟨hc.fr.os,hc.fr.tape,hc.fr.output,hc.fr.size,g2⟩,by rw[hs]; exact h1,fun b hb=>(g2 b (hlt' wa h1 b hb)).trans (h2 b hb)⟩
 let St:Nat->Act->World->Prop:=fun i a w=>a.defers=[]/\a.tmps.size=19/\a.tmps.getD 0 undef = .func (.yield l) #[] #[]/\a.tmps.getD 1 undef=v/\a.tmps.getD 3 undef = .int .i64 ((rows.length:Int) - 1 - i)/\J i w/\w0.heap.size<=w.heap.size/\(∀ b,G b->w.heap[b]? = w0.heap[b]?)
 refine callsIn_of_wp Tryz.func80 rfl trivial ?_;generalize ha:({ tmps:=#[Value.func (.yield l) #[] #[],v]++Array.replicate _ undef,defers:=[] }:Act)=a;have a0:a.tmps.getD 0 undef = .func (.yield l) #[] #[] :=(by rw[← ha]; rfl);have a1:a.tmps.getD 1 undef=v :=(by rw[← ha]; rfl);have az:a.tmps.size=19 :=(by rw[← ha]; rfl);have ad:a.defers=[]:=by rw[← ha]
 clear ha
 refine wpIn_seq ?_;refine wpIn_region_lit ?_;refine zHx tokW (N:=19) (K:=fun σ=>σ.env 3 = .s (.int .i64 (IntKind.i64.wrap ((rows.length:Int) - 1)))) [0,1] ?_ (zLp (G:=G) [(1,.s (.pt [.sl 4 rows]))] ad az (hlt' W hsz) (hgl' W hk) rfl (fun p hp=>by
  obtain rfl:=List.mem_singleton.1 hp;dsimp only;rw[a1]
  simp only[AVal]
  exact hrep W hk)) rfl ?_
 ·show _=_
  rfl
 intro σ1 G1 β1 b w1 hK hc hs hfr;have b0:=(hfr 0 (by simp)).trans a0;have b1:=(hfr 1 (by simp)).trans a1;have b3:=hc.env 3;rw[hK]at b3;simp only[AVal,Rep]at b3;rw[wrap64_in (n:=(rows.length:Int) - 1) (by omega) (by omega)]at b3;have hst:=step 0 hc hs h0 hsz hk;have hS:St 0 b w1:=⟨hc.defers,hc.size,b0,b1,by rw[b3]; congr 1; omega,hst⟩
 clear hst b0 b1 b3 hK hfr hc hs a0 a1 az ad
 refine wpIn_block ?_;refine wpIn_loop (fun a w=>∃ i,i<=rows.length/\St i a w) (fun a _=>match a.tmps.getD 3 undef with | .int _ z=>(z+1).toNat | _=>0) ⟨0,Nat.zero_le _,hS⟩ ?_;rintro a w ⟨i,hi,ad,az,a0,a1,a3,hj,hw1,hw2⟩
 refine wpIn_seq ?_;refine wpIn_seq ?_;refine wpIn_region_lit ?_;refine zHx tokW (N:=19) (K:=fun σ=>σ.env 8 = .s (.bool (decide (0<=(rows.length:Int) - 1 - i)))) [0,1,3] ?_ (zLp (G:=G) [(3,.s (.int .i64 ((rows.length:Int) - 1 - i)))] ad az (hlt' w hw1) (hgl' w hw2) rfl (fun p hp=>by
  obtain rfl:=List.mem_singleton.1 hp;dsimp only;rw[a3]
  simp[AVal,Rep])) rfl ?_
 ·show _=_
  rfl
 intro σ1 G1 β1 b w1 hK hc hs hfr;have b0:=(hfr 0 (by simp)).trans a0;have b1:=(hfr 1 (by simp)).trans a1;have b3:=(hfr 3 (by simp)).trans a3;have b8:=hc.env 8;rw[hK]at b8;simp only[AVal,Rep]at b8;obtain⟨hj1,hw3,hw4⟩:=step i hc hs hj hw1 hw2;have bd:b.defers=[]:=hc.defers;have bs:b.tmps.size=19:=hc.size
 clear hc hK hfr hs a0 a1 ad az hj hw1 hw2
 refine wpIn_cond_split (t:=decide (0<=(rows.length:Int) - 1 - i)) b8 (fun hb=>?_) (fun hb=>?_)
 ·have hb:=of_decide_eq_true hb;refine wpIn_skip ?_;obtain⟨j,hij⟩:∃ j,i+j+1=rows.length:=⟨rows.length - 1 - i,by omega⟩
  have hz:(rows.length:Int) - 1 - i=(j:Int) :=(by omega);rw[hz]at b3;have hjl:j<rows.length :=(by omega);have hrow:rows[j]? = some rows[j]:=List.getElem?_eq_getElem hjl;have hr8:=hrl _ (List.getElem_mem hjl)
  have hgd:rows.getD ((j:Int).toNat) []=rows[j] :=(by rw[Int.toNat_natCast,List.getD_eq_getElem?_getD,hrow]; rfl);generalize rows[j]=row at hrow hr8 hgd;refine wpIn_seq ?_;refine wpIn_block ?_;refine wpIn_seq ?_;refine wpIn_region_lit ?_;refine zGb rfl ?_;refine zUA (ro:=none) (K:=fun a' w'=>a'=b.put (some 11) (.func (.yield l) #[] #[])/\w'=w1) (by intro c e; cases e) ?_ (zAz (v:=.func (.yield l) #[] #[]) (w':=w1) (by simp[execOp,zMC,b0]) ⟨rfl,rfl⟩)
  rintro a' w' ⟨ha',hw'⟩
  rw[ha',hw']
  clear ha' hw' a' w'
  have c0:(b.put (some 11) (.func (.yield l) #[] #[])).tmps.getD 0 undef = .func (.yield l) #[] #[]:=(zGH (by decide)).trans b0;have c1:(b.put (some 11) (.func (.yield l) #[] #[])).tmps.getD 1 undef=v:=(zGH (by decide)).trans b1;have c3:(b.put (some 11) (.func (.yield l) #[] #[])).tmps.getD 3 undef = .int .i64 (j:Int):=(zGH (by decide)).trans b3;have c11:(b.put (some 11) (.func (.yield l) #[] #[])).tmps.getD 11 undef = .func (.yield l) #[] #[]:=by
   simp only[Act.put]
   rw[zGR (by rw[bs]; decide),if_pos rfl]
  have cd:(b.put (some 11) (.func (.yield l) #[] #[])).defers=[]:=(put_defers ..).trans bd;have cs:(b.put (some 11) (.func (.yield l) #[] #[])).tmps.size=19:=(zJY ..).trans bs;generalize b.put (some 11) (.func (.yield l) #[] #[])=c at c0 c1 c3 c11 cd cs
  clear b0 b1 b3 b8 bd bs
  refine zLD tokW (N:=19) 4 (K:=fun σ=>σ.env 12 = .s (.int .i64 (j:Int))/\σ.env 15 = .s (.pt (rows.getD ((j:Int).toNat) []))) [0,1,3,11] ?_ (zLp (G:=G) [(1,.s (.pt [.sl 4 rows])),(3,.s (.int .i64 (j:Int)))] cd cs (hlt' w1 hw3) (hgl' w1 hw4) rfl (fun p hp=>by
   rcases List.mem_cons.1 hp with rfl | hp
   ·dsimp only;rw[c1]
    simp only[AVal]
    exact hrep w1 hw4
   ·obtain rfl:=List.mem_singleton.1 hp;dsimp only;rw[c3]
    simp[AVal,Rep])) rfl ?_
  ·exact⟨⟨by omega,by omega⟩,rfl,rfl⟩
  intro σ2 G2 β2 d w2 hK hc hs hfr;have d0:=(hfr 0 (by simp)).trans c0;have d1:=(hfr 1 (by simp)).trans c1;have d3:=(hfr 3 (by simp)).trans c3;have d11:=(hfr 11 (by simp)).trans c11;have d12:=hc.env 12;have d15:=hc.env 15;obtain⟨hgb,_⟩:=hc.back hs;rw[hK.1]at d12;rw[hK.2,hgd]at d15;simp only[AVal,Rep]at d12;have d15:=d15.keep (⟨hgb,fun _ _=>rfl⟩:Keep G2 G w2 w2)
  simp only[AVal]at d15;obtain⟨hj2,hw5,hw6⟩:=step i hc hs hj1 hw3 hw4;have dd:d.defers=[]:=hc.defers;have ds:d.tmps.size=19:=hc.size
  clear hc hK hfr hs c0 c1 c3 c11 cd cs hj1 hw3 hw4 hgb
  obtain⟨r1,r2,r3,r4,rfl⟩:=list4 hr8;refine zLD tokW (N:=19) 1 (K:=fun σ=>σ.env 16 = .agg ([r1,r2,r3,r4].map .s)) [0,1,3,11,12] ?_ (zLp (G:=G) [(15,.s (.pt [r1,r2,r3,r4]))] dd ds (hlt' w2 hw5) (hgl' w2 hw6) rfl (fun p hp=>by
   obtain rfl:=List.mem_singleton.1 hp;dsimp only;simp only[AVal]
   exact d15)) rfl ?_
  ·show _=_
   rfl
  intro σ3 G3 β3 e w3 hK hc hs hfr;have e0:=(hfr 0 (by simp)).trans d0;have e1:=(hfr 1 (by simp)).trans d1;have e3:=(hfr 3 (by simp)).trans d3;have e11:=(hfr 11 (by simp)).trans d11;have e12:=(hfr 12 (by simp)).trans d12;have e16:=hc.env 16;obtain⟨hgb,_⟩:=hc.back hs;rw[hK]at e16;have e16:=e16.keep (⟨hgb,fun _ _=>rfl⟩:Keep G3 G w3 w3)
  obtain⟨hj3,hw7,hw8⟩:=step i hc hs hj2 hw5 hw6;have ed:e.defers=[]:=hc.defers;have es:e.tmps.size=19:=hc.size
  clear hc hK hfr hs d0 d1 d3 d11 d12 d15 dd ds hj2 hw5 hw6 hgb
  refine zGb rfl ?_;have hYY:=hY i j _ (e.tmps.getD 16 undef) w3 hij hrow hj3 hw7 hw8 (fun β=>e16.beta (n:=0) (fun k hk=>by cases hk) (zMQ _))
  refine zT2 (u:=.bool true) (f:=.tmp 11) (x:=.tmp 12) (y:=.tmp 16) (l:=l) rfl e11 (by rw[zMC,zMC,e12]; exact hYY) ?_;rintro ee w4 ⟨rfl,hj4,hw9,hw10⟩
  refine⟨rfl,?_⟩
  have f0:(e.put (some 17) (.bool true)).tmps.getD 0 undef = .func (.yield l) #[] #[]:=(zGH (by decide)).trans e0;have f1:(e.put (some 17) (.bool true)).tmps.getD 1 undef=v:=(zGH (by decide)).trans e1;have f3:(e.put (some 17) (.bool true)).tmps.getD 3 undef = .int .i64 (j:Int):=(zGH (by decide)).trans e3;have f17:(e.put (some 17) (.bool true)).tmps.getD 17 undef = .bool true:=by
   simp only[Act.put]
   rw[zGR (by rw[es]; decide),if_pos rfl]
  have fd:(e.put (some 17) (.bool true)).defers=[]:=(put_defers ..).trans ed;have fs:(e.put (some 17) (.bool true)).tmps.size=19:=(zJY ..).trans es;show wpListIn _ _ _ _ _ _ (e.put (some 17) (.bool true)) _;generalize e.put (some 17) (.bool true)=f at f0 f1 f3 f17 fd fs
  clear e0 e1 e3 e11 e12 e16 ed es hj3 hw7 hw8 hYY
  refine zHx tokW (N:=19) (K:=fun σ=>σ.env 18 = .s (.bool false)) [0,1,3] ?_ (zLp (G:=G) [(17,.s (.bool true))] fd fs (hlt' w4 hw9) (hgl' w4 hw10) rfl (fun p hp=>by
   obtain rfl:=List.mem_singleton.1 hp;dsimp only;rw[f17]
   simp[AVal,Rep])) rfl ?_
  ·show _=_
   rfl
  intro σ5 G5 β5 g w5 hK hc hs hfr;have g0:=(hfr 0 (by simp)).trans f0;have g1:=(hfr 1 (by simp)).trans f1;have g3:=(hfr 3 (by simp)).trans f3;have g18:=hc.env 18;rw[hK]at g18;simp only[AVal,Rep]at g18;obtain⟨hj5,hw11,hw12⟩:=step (i+1) hc hs hj4 hw9 hw10;have gd:g.defers=[]:=hc.defers;have gs:g.tmps.size=19:=hc.size
  clear hc hK hfr hs f0 f1 f3 f17 fd fs hj4 hw9 hw10
  refine wpIn_cond_false g18 ?_;refine wpIn_skip ?_;refine wpIn_region_lit ?_;refine zHx tokW (N:=19) (K:=fun σ=>σ.env 3 = .s (.int .i64 (IntKind.i64.wrap ((j:Int) - 1)))) [0,1] ?_ (zLp (G:=G) [(3,.s (.int .i64 (j:Int)))] gd gs (hlt' w5 hw11) (hgl' w5 hw12) rfl (fun p hp=>by
   obtain rfl:=List.mem_singleton.1 hp;dsimp only;rw[g3]
   simp[AVal,Rep])) rfl ?_
  ·show _=_
   rfl
  intro σ6 G6 β6 h w6 hK hc hs hfr;have h0':=(hfr 0 (by simp)).trans g0;have h1':=(hfr 1 (by simp)).trans g1;have h3':=hc.env 3;rw[hK]at h3';simp only[AVal,Rep]at h3';rw[wrap64_in (n:=(j:Int) - 1) (by omega) (by omega)]at h3';have hst:=step (i+1) hc hs hj5 hw11 hw12;refine⟨⟨i+1,by omega,hc.defers,hc.size,h0',h1',by rw[h3']; congr 1; omega,hst⟩,?_⟩
  rw[h3',a3]
  show((j:Int) - 1+1).toNat<((rows.length:Int) - 1 - i+1).toNat
  omega
 ·have hb:=of_decide_eq_false hb;refine wpIn_exit ?_;obtain rfl:i=rows.length :=(by omega);simp only[Exit.then,Exit.inBlock,if_true]
  exact⟨bd,_,results_none rfl _ _ _,⟨_,rfl⟩,hj1⟩
def zEb:zAp:=zAu zI7
theorem zGF:PSound Tryz.prog 45 zEb:=zNM
end Go.Proofs.YtbfnjnljboncgaaGreatDoor
