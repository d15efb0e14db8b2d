/-
  Joined out of: FzLB, FzLC, FzLD, PCnt, PByte, PText, PVal, PDist, PMet, PPut, PPos, PDump.
-/
import Derived.Lib.ItoaLen
import Derived.Test.YtgplhldfbkmmgaaGreatZe
set_option linter.unusedVariables false
set_option linter.unusedSimpArgs false
set_option maxHeartbeats 2000000
set_option maxRecDepth 100000
namespace Go.Proofs.YtgplhldfbkmmgaaGreat
open Go.Abs
def zJg (n:Nat) (xs:List AV) (os:List Ob) (x:AV) (os':List (Option Ob)):Prop:=∃ (a0:(Int)) (a1:CV) (y0:List Int) (z0:(Int)),zBn n a0 a1=some (y0,z0)/\xs=[.op 0 0,.agg ((CV.enc a1).map .s)]/\os=[.box 92 ((zAp a0).map .s)]/\x = .s (.sl 1 ((List.map (irow .i64)) y0))/\os'=[some (.box 92 ((zAp z0).map .s))]
def zEi:zAr:=zBI (fun xs os x os'=>∃ n,zJg n xs os x os')
theorem zFJ:PSound Tryz.prog 163 zEi:=by
 have gok:∀ f s,look? f [(88,zCp),(190,zG4)]=some s->PSound Tryz.prog f s:=zAm (by
  simp only[List.forall_mem_cons]
  exact⟨zCW,zKn,by simp⟩)
 refine PSound.withNil (zDZ tokW Tryz.call163 Tryz.func163 rfl (fun xs os x os' h=>by obtain⟨n,_,_,_,_,_,rfl,rfl,_,rfl⟩:=h; exact⟨by show 2<=12; decide,by show 1<=1; decide⟩) 12 rfl ?_) _;rintro xs os x os' w0 G0 B0 ⟨n,r1,⟨v2A,v2D,v2B,v2C⟩,y0,z0,h,rfl,rfl,rfl,rfl⟩ _;rw[zBn]at h;refine yAW ?_;refine yAW ?_;obtain⟨⟨y3,w4⟩,hy3,h⟩:=zAc h;refine⟨_,_,⟨_,_,_,_,hy3,rfl,rfl,rfl,rfl⟩,?_⟩
 obtain⟨⟨y5,w6⟩,hy5,h⟩:=zAc h;refine⟨_,_,⟨_,_,_,_,_,hy5,rfl,rfl,rfl,rfl⟩,?_⟩
 refine zAd ?_;obtain⟨hj1,hk1⟩:=pij h;subst hj1 hk1;unfold zBb;exact⟨_,(Le.trans (Le.rnm [(0,0),(1,1)] [(4,.orow 1)] [(0,.box 92 [.s (.int .i64 w6)]),(1,.row 3 1 ((List.map (irow .i64)) y5))] 2 ⟨rfl,trivial⟩ ⟨rfl,⟨_,rfl,rfl⟩,rfl,⟨_,rfl,rfl⟩,trivial⟩) (Le.giveRow 1 rfl)),rfl,rfl,rfl,rfl,trivial⟩
def zNA (n:Nat) (xs:List AV) (os:List Ob) (x:AV) (os':List (Option Ob)):Prop:=∃ (a0:(Int)) (a1:CV) (y0:zO8) (z0:(Int)),zC3 n a0 a1=some (y0,z0)/\xs=[.op 0 0,.agg ((CV.enc a1).map .s)]/\os=[.box 92 ((zAp a0).map .s)]/\x = .agg ((zAo y0).map .s)/\os'=[some (.box 92 ((zAp z0).map .s))]
def zI1:zAr:=zBI (fun xs os x os'=>∃ n,zNA n xs os x os')
theorem zMF:PSound Tryz.prog 127 zI1:=by
 have gok:∀ f s,look? f [(83,zCe),(86,zCx),(163,zEi),(88,zCp),(125,zGw),(84,zD9)]=some s->PSound Tryz.prog f s:=zAm (by
  simp only[List.forall_mem_cons]
  exact⟨zCX,zDe,zFJ,zCW,zJK,zFd,by simp⟩)
 refine PSound.withNil (zDZ tokW Tryz.call127 Tryz.func127 rfl (fun xs os x os' h=>by obtain⟨n,_,_,_,_,_,rfl,rfl,_,rfl⟩:=h; exact⟨by show 2<=54; decide,by show 1<=1; decide⟩) 54 rfl ?_) _;rintro xs os x os' w0 G0 B0 ⟨n,r1,⟨v2A,v2D,v2B,v2C⟩,y0,z0,h,rfl,rfl,rfl,rfl⟩ _;rw[zC3]at h;refine yAh [4] [] rfl ?_;refine yAW ?_;obtain⟨⟨y3,w4⟩,hy3,h⟩:=zAc h;refine⟨_,_,⟨_,_,_,_,_,hy3,rfl,rfl,rfl,rfl⟩,?_⟩
 refine zAa ?_;refine zAK [] [11,16,21,26,32,40,45,50] [4,9,14,19,25,28,33,38,43,45] rfl (by decide +kernel) ?_;obtain⟨⟨e5A,e5D,e5B,e5C⟩,he5,h⟩:=zAc h;refine And.intro (zAn CV.encs_eq he5).1 ?_;intro r6 hr6;obtain rfl:[.int .i64 e5A,.int .i64 e5D,.str e5B,.sl 4 (CV.encs e5C)]=r6:=(hr6.trans (zAn CV.encs_eq he5).2.1).symm;obtain⟨⟨y7,w8⟩,hy7,h⟩:=zAc h;refine⟨_,_,⟨_,_,_,_,hy7,rfl,rfl,rfl,rfl⟩,?_⟩
 obtain⟨⟨e9A,e9D,e9B,e9C⟩,he9,h⟩:=zAc h;refine And.intro (zAn CV.encs_eq he9).1 ?_;intro r10 hr10;obtain rfl:[.int .i64 e9A,.int .i64 e9D,.str e9B,.sl 4 (CV.encs e9C)]=r10:=(hr10.trans (zAn CV.encs_eq he9).2.1).symm;obtain⟨⟨y11,w12⟩,hy11,h⟩:=zAc h;refine⟨_,_,⟨_,_,_,_,_,hy11,rfl,rfl,rfl,rfl⟩,?_⟩
 obtain⟨⟨e13A,e13D,e13B,e13C⟩,he13,h⟩:=zAc h;refine And.intro (zAn CV.encs_eq he13).1 ?_;intro r14 hr14;obtain rfl:[.int .i64 e13A,.int .i64 e13D,.str e13B,.sl 4 (CV.encs e13C)]=r14:=(hr14.trans (zAn CV.encs_eq he13).2.1).symm;obtain⟨⟨y15,w16⟩,hy15,h⟩:=zAc h;refine⟨_,_,⟨_,_,_,_,hy15,rfl,rfl,rfl,rfl⟩,?_⟩
 obtain⟨⟨e17A,e17D,e17B,e17C⟩,he17,h⟩:=zAc h;refine And.intro (zAn CV.encs_eq he17).1 ?_;intro r18 hr18;obtain rfl:[.int .i64 e17A,.int .i64 e17D,.str e17B,.sl 4 (CV.encs e17C)]=r18:=(hr18.trans (zAn CV.encs_eq he17).2.1).symm;obtain⟨⟨y19,w20⟩,hy19,h⟩:=zAc h;refine⟨_,_,⟨_,_,_,_,hy19,rfl,rfl,rfl,rfl⟩,?_⟩
 obtain⟨⟨e21A,e21D,e21B,e21C⟩,he21,h⟩:=zAc h;refine And.intro (zAn CV.encs_eq he21).1 ?_;intro r22 hr22;obtain rfl:[.int .i64 e21A,.int .i64 e21D,.str e21B,.sl 4 (CV.encs e21C)]=r22:=(hr22.trans (zAn CV.encs_eq he21).2.1).symm;obtain⟨⟨y23,w24⟩,hy23,h⟩:=zAc h;refine⟨_,_,⟨_,_,_,_,hy23,rfl,rfl,rfl,rfl⟩,?_⟩
 obtain⟨⟨y25,w26⟩,hy25,h⟩:=zAc h;refine⟨_,_,⟨_,_,_,_,_,hy25,rfl,rfl,rfl,rfl⟩,?_⟩
 obtain⟨⟨e27A,e27D,e27B,e27C⟩,he27,h⟩:=zAc h;refine And.intro (zAn CV.encs_eq he27).1 ?_;intro r28 hr28;obtain rfl:[.int .i64 e27A,.int .i64 e27D,.str e27B,.sl 4 (CV.encs e27C)]=r28:=(hr28.trans (zAn CV.encs_eq he27).2.1).symm;obtain⟨⟨y29,w30⟩,hy29,h⟩:=zAc h;refine⟨_,_,⟨_,_,_,_,hy29,rfl,rfl,rfl,rfl⟩,?_⟩
 obtain⟨⟨e31A,e31D,e31B,e31C⟩,he31,h⟩:=zAc h;refine And.intro (zAn CV.encs_eq he31).1 ?_;intro r32 hr32;obtain rfl:[.int .i64 e31A,.int .i64 e31D,.str e31B,.sl 4 (CV.encs e31C)]=r32:=(hr32.trans (zAn CV.encs_eq he31).2.1).symm;obtain⟨⟨y33,w34⟩,hy33,h⟩:=zAc h;refine⟨_,_,⟨_,_,_,_,hy33,rfl,rfl,rfl,rfl⟩,?_⟩
 obtain⟨⟨e35A,e35D,e35B,e35C⟩,he35,h⟩:=zAc h;refine And.intro (zAn CV.encs_eq he35).1 ?_;intro r36 hr36;obtain rfl:[.int .i64 e35A,.int .i64 e35D,.str e35B,.sl 4 (CV.encs e35C)]=r36:=(hr36.trans (zAn CV.encs_eq he35).2.1).symm;obtain⟨⟨y37,w38⟩,hy37,h⟩:=zAc h;refine⟨_,_,⟨_,_,_,_,hy37,rfl,rfl,rfl,rfl⟩,?_⟩
 refine zAd ?_;obtain⟨hj1,hk1⟩:=pij h;subst hj1 hk1;unfold zBb;exact⟨_,(Le.trans (Le.rnm [(0,0),(1,1),(2,2)] [(4,.op 1 0)] [(0,.box 92 [.s (.int .i64 w38)]),(1,.box 63 [.s (.int .i64 y7),.s (.sl 1 ((List.map (irow .i64)) y11)),.s (.int .i64 y15),.s (.int .i64 y19),.orow 2,.s (.int .i64 y29),.s (.str y33),.s (.str y37)]),(2,.row 24 4 (Nd.encs y25))] 3 ⟨rfl,trivial⟩ ⟨rfl,⟨_,rfl,rfl⟩,rfl,⟨_,rfl,rfl⟩,rfl,⟨_,rfl,rfl⟩,trivial⟩) (Le.giveRow 2 rfl)),rfl,rfl,rfl,rfl,trivial⟩
def zLA (n:Nat) (xs:List AV) (os:List Ob) (x:AV) (os':List (Option Ob)):Prop:=∃ (a0:(Int)) (a1:List CV) (y0:List zO8) (z0:(Int)),zDa n a0 a1=some (y0,z0)/\xs=[.op 0 0,.s (.sl 4 (CV.encs a1)),.clo 1048703 [.op 0 0]]/\os=[.box 92 ((zAp a0).map .s)]/\x = .orow 1/\os'=[some (.box 92 ((zAp z0).map .s)),some (.row 63 8 ((List.map zAo) y0))]
def zHC:zAr:=zBI (fun xs os x os'=>∃ n,zLA n xs os x os')
theorem zLg:PSound Tryz.prog 126 zHC:=by
 have gok:∀ f s,look? f [(127,zI1)]=some s->PSound Tryz.prog f s:=zAm (by
  simp only[List.forall_mem_cons]
  exact⟨zMF,by simp⟩)
 refine PSound.withNil (zDZ tokW Tryz.call126 Tryz.func126 rfl (fun xs os x os' h=>by obtain⟨n,_,_,_,_,_,rfl,rfl,_,rfl⟩:=h; exact⟨by show 3<=29; decide,by show 1<=2; decide⟩) 29 rfl ?_) _;rintro xs os x os' w0 G0 B0 ⟨n,r1,l2,y0,z0,h,rfl,rfl,rfl,rfl⟩ _;rw[zDa]at h;refine yAh [6] [] rfl ?_;refine zAh (Le.rnm [(0,0)] [(0,.op 0 0),(1,.s (.sl 4 (CV.encs l2))),(2,.clo 1048703 [.op 0 0])] [(0,.box 92 [.s (.int .i64 r1)])] 1 ⟨rfl,rfl,rfl,trivial⟩ ⟨rfl,⟨_,rfl,rfl⟩,trivial⟩) ?_;refine yAh [7] [] rfl ?_;show Tri ..
 refine zAh (Le.rnm [(0,0),(1,1)] [(0,.op 0 0),(1,.s (.sl 4 (CV.encs l2))),(2,.clo 1048703 [.op 0 0]),(7,.orow 1)] [(0,.box 92 [.s (.int .i64 r1)]),(1,.row 63 8 ((List.map zAo) []))] 2 ⟨rfl,rfl,rfl,rfl,trivial⟩ ⟨rfl,⟨_,rfl,rfl⟩,rfl,⟨_,rfl,congrArg (Ob.row 63 8) zFE⟩,trivial⟩) ?_;refine zAa ?_;refine zAa ?_
 refine zAb [] [11] rfl ?_;intro n3 hn3;obtain rfl:(l2.length:Int)=n3:=(hn3.trans (congrArg (fun m:Nat=>(m:Int)) (rlen CV.encs_eq l2))).symm;show Tri ..;obtain⟨fl,hl,ho1⟩:=zAc h;refine zBA (fl:=fl) (fun z=>match z with | ⟨x8,l9⟩=>⟨ofL [(7,.orow 1)],ofH [(0,.box 92 [.s (.int .i64 x8)]),(1,.row 63 8 ((List.map zAo) l9))],2⟩) ?_ (fun z σ' hz hle=>?_)
 ·refine zAi (zAt (X:=Nat×Int×Int×(List zO8)) (fun y=>match y with | (k,x4,x5,l7)=>⟨ofL [(0,.op 0 0),(2,.clo 1048703 [.op 0 0]),(7,.orow 1),(10,.s (.sl 4 (CV.encs l2))),(11,.s (.int .i64 (l2.length:Int))),(12,.s (.int .i64 x5))],ofH [(0,.box 92 [.s (.int .i64 x4)]),(1,.row 63 8 ((List.map zAo) l7))],2⟩) (fun y=>zAY n l2 y.1 y.2.1 y.2.2.1 y.2.2.2=some fl) (fun y=>y.1) (n,r1,0,[]) hl ?_ ?_)
  ·exact(Le.rnm [(0,0),(1,1)] _ _ _ ⟨rfl,rfl,rfl,rfl,rfl,rfl,trivial⟩ ⟨rfl,⟨_,rfl,rfl⟩,rfl,⟨_,rfl,rfl⟩,trivial⟩)
  ·rintro⟨k,x4,x5,l7⟩ h;cases k with
   | zero=>cases h
   | succ k =>
    replace h:zAY n l2 (k+1) x4 x5 l7=some fl:=h;rw[zAY]at h;refine yAW ?_;refine zAa ?_;refine zAf rfl h (fun hb h=>?_) (fun hb h=>?_)
    ·refine zAe ?_;refine zAa ?_;refine zAi ?_;refine yAh [9] [14] rfl ?_;obtain⟨⟨e10A,e10D,e10B,e10C⟩,he10,h⟩:=zAc h;refine And.intro (zAn CV.encs_eq he10).1 ?_;intro r11 hr11;obtain rfl:[.int .i64 e10A,.int .i64 e10D,.str e10B,.sl 4 (CV.encs e10C)]=r11:=(hr11.trans (zAn CV.encs_eq he10).2.1).symm;refine zAh (Le.giveBox 2 [.int .i64 e10A,.int .i64 e10D,.str e10B,.sl 4 (CV.encs e10C)] rfl rfl) ?_;refine zAa ?_;refine yAW ?_;refine zAf rfl h (fun hb h=>?_) (fun hb h=>?_)
     ·refine yAh [6] [] rfl ?_;refine zAh (Le.rnm [(0,0),(3,1)] [(6,.orow 1)] [(0,.box 92 [.s (.int .i64 x4)]),(1,.row 63 8 ((List.map zAo) []))] 2 ⟨rfl,trivial⟩ ⟨rfl,⟨_,rfl,rfl⟩,rfl,⟨_,rfl,congrArg (Ob.row 63 8) zFE⟩,trivial⟩) ?_;refine zAd ?_;cases h;replace h:some _=some _:=ho1
      obtain⟨hj1,hk1⟩:=pij h;subst hj1 hk1;unfold zBb;exact⟨_,(Le.rnm [(0,0),(1,1)] [(6,.orow 1)] [(0,.box 92 [.s (.int .i64 x4)]),(1,.row 63 8 ((List.map zAo) []))] 2 ⟨rfl,trivial⟩ ⟨rfl,⟨_,rfl,rfl⟩,rfl,⟨_,rfl,rfl⟩,trivial⟩),rfl,rfl,rfl,rfl,rfl,rfl,trivial⟩
     ·refine zAe ?_;refine zAb [26] [25] rfl ?_;obtain⟨⟨⟨y12A,y12I,y12H,y12L,y12G,y12K,y12M,y12B⟩,w13⟩,hy12,h⟩:=zAc h;refine⟨_,_,⟨_,_,_,_,_,hy12,rfl,rfl,rfl,rfl⟩,?_⟩
      intro r14 hr14;obtain rfl:(List.map zAo) [(y12A,y12I,y12H,y12L,y12G,y12K,y12M,y12B)]=r14:=(hr14.trans zFE).symm;obtain⟨hq,h⟩:=zAw h
      refine And.intro (show(((List.map zAo) l7).length+((List.map zAo) [(y12A,y12I,y12H,y12L,y12G,y12K,y12M,y12B)]).length) * 112<=140737488355328/\((List.map zAo) l7).length+((List.map zAo) [(y12A,y12I,y12H,y12L,y12G,y12K,y12M,y12B)]).length<=9223372036854775807 from by simp only[List.length_append,List.length_cons,List.length_nil,List.length_map,rlen (fun _=>rfl)]at hq ⊢; omega) ?_;show Tri ..
      refine zAh (Le.rnm [(0,0),(3,1)] [(0,.op 0 0),(2,.clo 1048703 [.op 0 0]),(7,.orow 1),(10,.s (.sl 4 (CV.encs l2))),(11,.s (.int .i64 (l2.length:Int))),(12,.s (.int .i64 x5))] [(0,.box 92 [.s (.int .i64 w13)]),(1,.row 63 8 ((List.map zAo) (l7++[(y12A,y12I,y12H,y12L,y12G,y12K,y12M,y12B)])))] 2 ⟨rfl,rfl,rfl,rfl,rfl,rfl,trivial⟩ ⟨rfl,⟨_,rfl,rfl⟩,rfl,⟨_,rfl,congrArg (Ob.row 63 8) zFE⟩,trivial⟩) ?_
      refine yAV ?_;refine⟨(k,w13,IntKind.i64.wrap (x5+1),l7++[(y12A,y12I,y12H,y12L,y12G,y12K,y12M,y12B)]),h,(Le.rnm [(0,0),(1,1)] _ _ _ ⟨rfl,rfl,rfl,rfl,rfl,rfl,trivial⟩ ⟨rfl,⟨_,rfl,rfl⟩,rfl,⟨_,rfl,rfl⟩,trivial⟩),Nat.lt_succ_self k⟩
    ·refine zAy ?_;cases h;exact⟨_,rfl,(Le.rnm [(0,0),(1,1)] _ _ _ ⟨rfl,trivial⟩ ⟨rfl,⟨_,rfl,rfl⟩,rfl,⟨_,rfl,rfl⟩,trivial⟩)⟩
 ·subst hz;obtain⟨x8,l9⟩:=z;replace h:=ho1;refine zAh hle ?_;refine yAW ?_;refine zAd ?_;obtain⟨hj1,hk1⟩:=pij h;subst hj1 hk1;unfold zBb;exact⟨_,(Le.rnm [(0,0),(1,1)] [(6,.orow 1)] [(0,.box 92 [.s (.int .i64 x8)]),(1,.row 63 8 ((List.map zAo) l9))] 2 ⟨rfl,trivial⟩ ⟨rfl,⟨_,rfl,rfl⟩,rfl,⟨_,rfl,rfl⟩,trivial⟩),rfl,rfl,rfl,rfl,rfl,rfl,trivial⟩
def zKf (n:Nat) (xs:List AV) (os:List Ob) (x:AV) (os':List (Option Ob)):Prop:=∃ (a0:(Int)) (a1:CV) (y0:zCu) (z0:(Int)),zBU n a0 a1=some (y0,z0)/\xs=[.op 0 0,.agg ((CV.enc a1).map .s)]/\os=[.box 92 ((zAp a0).map .s)]/\x = .agg ((zA9 y0).map .s)/\os'=[some (.box 92 ((zAp z0).map .s))]
def zGx:zAr:=zBI (fun xs os x os'=>∃ n,zKf n xs os x os')
theorem zJM:PSound Tryz.prog 128 zGx:=by
 have gok:∀ f s,look? f [(83,zCe),(163,zEi)]=some s->PSound Tryz.prog f s:=zAm (by
  simp only[List.forall_mem_cons]
  exact⟨zCX,zFJ,by simp⟩)
 refine PSound.withNil (zDZ tokW Tryz.call128 Tryz.func128 rfl (fun xs os x os' h=>by obtain⟨n,_,_,_,_,_,rfl,rfl,_,rfl⟩:=h; exact⟨by show 2<=20; decide,by show 1<=1; decide⟩) 20 rfl ?_) _;rintro xs os x os' w0 G0 B0 ⟨n,r1,⟨v2A,v2D,v2B,v2C⟩,y0,z0,h,rfl,rfl,rfl,rfl⟩ _;rw[zBU]at h;refine yAh [4] [] rfl ?_;refine yAW ?_;obtain⟨⟨y3,w4⟩,hy3,h⟩:=zAc h;refine⟨_,_,⟨_,_,_,_,_,hy3,rfl,rfl,rfl,rfl⟩,?_⟩
 refine zAa ?_;refine zAK [] [11,16] [4,9,11] rfl (by decide +kernel) ?_;obtain⟨⟨e5A,e5D,e5B,e5C⟩,he5,h⟩:=zAc h;refine And.intro (zAn CV.encs_eq he5).1 ?_;intro r6 hr6;obtain rfl:[.int .i64 e5A,.int .i64 e5D,.str e5B,.sl 4 (CV.encs e5C)]=r6:=(hr6.trans (zAn CV.encs_eq he5).2.1).symm;obtain⟨⟨y7,w8⟩,hy7,h⟩:=zAc h;refine⟨_,_,⟨_,_,_,_,_,hy7,rfl,rfl,rfl,rfl⟩,?_⟩
 obtain⟨⟨e9A,e9D,e9B,e9C⟩,he9,h⟩:=zAc h;refine And.intro (zAn CV.encs_eq he9).1 ?_;intro r10 hr10;obtain rfl:[.int .i64 e9A,.int .i64 e9D,.str e9B,.sl 4 (CV.encs e9C)]=r10:=(hr10.trans (zAn CV.encs_eq he9).2.1).symm;obtain⟨⟨y11,w12⟩,hy11,h⟩:=zAc h;refine⟨_,_,⟨_,_,_,_,_,hy11,rfl,rfl,rfl,rfl⟩,?_⟩
 refine zAd ?_;obtain⟨hj1,hk1⟩:=pij h;subst hj1 hk1;unfold zBb;exact⟨_,(Le.rnm [(0,0),(1,1)] [(4,.op 1 0)] [(0,.box 92 [.s (.int .i64 w12)]),(1,.box 58 [.s (.sl 1 ((List.map (irow .i64)) y7)),.s (.sl 1 ((List.map (irow .i64)) y11))])] 2 ⟨rfl,trivial⟩ ⟨rfl,⟨_,rfl,rfl⟩,rfl,⟨_,rfl,rfl⟩,trivial⟩),rfl,rfl,rfl,rfl,trivial⟩
def zKh (n:Nat) (xs:List AV) (os:List Ob) (x:AV) (os':List (Option Ob)):Prop:=∃ (a0:(Int)) (a1:CV) (y0:zRc) (z0:(Int)),zBV n a0 a1=some (y0,z0)/\xs=[.op 0 0,.agg ((CV.enc a1).map .s)]/\os=[.box 92 ((zAp a0).map .s)]/\x = .agg ((zAk y0).map .s)/\os'=[some (.box 92 ((zAp z0).map .s))]
def zGy:zAr:=zBI (fun xs os x os'=>∃ n,zKh n xs os x os')
theorem zJN:PSound Tryz.prog 89 zGy:=by
 have gok:∀ f s,look? f [(83,zCe),(88,zCp),(126,zHC),(128,zGx)]=some s->PSound Tryz.prog f s:=zAm (by
  simp only[List.forall_mem_cons]
  exact⟨zCX,zCW,zLg,zJM,by simp⟩)
 refine PSound.withNil (zDZ tokW Tryz.call89 Tryz.func89 rfl (fun xs os x os' h=>by obtain⟨n,_,_,_,_,_,rfl,rfl,_,rfl⟩:=h; exact⟨by show 2<=29; decide,by show 1<=1; decide⟩) 29 rfl ?_) _;rintro xs os x os' w0 G0 B0 ⟨n,r1,⟨v2A,v2D,v2B,v2C⟩,y0,z0,h,rfl,rfl,rfl,rfl⟩ _;rw[zBV]at h;refine yAh [4] [] rfl ?_;refine yAW ?_;obtain⟨⟨y3,w4⟩,hy3,h⟩:=zAc h;refine⟨_,_,⟨_,_,_,_,_,hy3,rfl,rfl,rfl,rfl⟩,?_⟩
 refine zAa ?_;refine zAK [] [12,20,25] [5,8,13,18,20] rfl (by decide +kernel) ?_;obtain⟨⟨e5A,e5D,e5B,e5C⟩,he5,h⟩:=zAc h;refine And.intro (zAn CV.encs_eq he5).1 ?_;intro r6 hr6;obtain rfl:[.int .i64 e5A,.int .i64 e5D,.str e5B,.sl 4 (CV.encs e5C)]=r6:=(hr6.trans (zAn CV.encs_eq he5).2.1).symm;obtain⟨⟨y7,w8⟩,hy7,h⟩:=zAc h;refine⟨_,_,⟨_,_,_,_,hy7,rfl,rfl,rfl,rfl⟩,?_⟩
 obtain⟨⟨y9,w10⟩,hy9,h⟩:=zAc h;refine⟨_,_,⟨_,_,_,_,_,hy9,rfl,rfl,rfl,rfl⟩,?_⟩
 obtain⟨⟨e11A,e11D,e11B,e11C⟩,he11,h⟩:=zAc h;refine And.intro (zAn CV.encs_eq he11).1 ?_;intro r12 hr12;obtain rfl:[.int .i64 e11A,.int .i64 e11D,.str e11B,.sl 4 (CV.encs e11C)]=r12:=(hr12.trans (zAn CV.encs_eq he11).2.1).symm;obtain⟨⟨⟨y13Ai,y13Ah⟩,w14⟩,hy13,h⟩:=zAc h;refine⟨_,_,⟨_,_,_,_,_,hy13,rfl,rfl,rfl,rfl⟩,?_⟩
 obtain⟨⟨e15A,e15D,e15B,e15C⟩,he15,h⟩:=zAc h;refine And.intro (zAn CV.encs_eq he15).1 ?_;intro r16 hr16;obtain rfl:[.int .i64 e15A,.int .i64 e15D,.str e15B,.sl 4 (CV.encs e15C)]=r16:=(hr16.trans (zAn CV.encs_eq he15).2.1).symm;obtain⟨⟨⟨y17Ai,y17Ah⟩,w18⟩,hy17,h⟩:=zAc h;refine⟨_,_,⟨_,_,_,_,_,hy17,rfl,rfl,rfl,rfl⟩,?_⟩
 refine zAd ?_;obtain⟨hj1,hk1⟩:=pij h;subst hj1 hk1;unfold zBb;exact⟨_,(Le.trans (Le.rnm [(0,0),(1,1),(2,2)] [(4,.op 1 0)] [(0,.box 92 [.s (.int .i64 w18)]),(1,.box 60 [.orow 2,.s (.sl 1 ((List.map (irow .i64)) y13Ai)),.s (.sl 1 ((List.map (irow .i64)) y13Ah)),.s (.sl 1 ((List.map (irow .i64)) y17Ai)),.s (.sl 1 ((List.map (irow .i64)) y17Ah))]),(2,.row 63 8 ((List.map zAo) y9))] 3 ⟨rfl,trivial⟩ ⟨rfl,⟨_,rfl,rfl⟩,rfl,⟨_,rfl,rfl⟩,rfl,⟨_,rfl,rfl⟩,trivial⟩) (Le.giveRow 2 rfl)),rfl,rfl,rfl,rfl,trivial⟩
def zJa (n:Nat) (xs:List AV) (os:List Ob) (x:AV) (os':List (Option Ob)):Prop:=∃ (a0:(Int)) (a1:List CV) (y0:List zRc) (z0:(Int)),zB1 n a0 a1=some (y0,z0)/\xs=[.op 0 0,.s (.sl 4 (CV.encs a1)),.clo 1048665 [.op 0 0]]/\os=[.box 92 ((zAp a0).map .s)]/\x = .orow 1/\os'=[some (.box 92 ((zAp z0).map .s)),some (.row 60 5 ((List.map zAk) y0))]
def zFH:zAr:=zBI (fun xs os x os'=>∃ n,zJa n xs os x os')
theorem zIU:PSound Tryz.prog 87 zFH:=by
 have gok:∀ f s,look? f [(89,zGy)]=some s->PSound Tryz.prog f s:=zAm (by
  simp only[List.forall_mem_cons]
  exact⟨zJN,by simp⟩)
 refine PSound.withNil (zDZ tokW Tryz.call87 Tryz.func87 rfl (fun xs os x os' h=>by obtain⟨n,_,_,_,_,_,rfl,rfl,_,rfl⟩:=h; exact⟨by show 3<=29; decide,by show 1<=2; decide⟩) 29 rfl ?_) _;rintro xs os x os' w0 G0 B0 ⟨n,r1,l2,y0,z0,h,rfl,rfl,rfl,rfl⟩ _;rw[zB1]at h;refine yAh [6] [] rfl ?_;refine zAh (Le.rnm [(0,0)] [(0,.op 0 0),(1,.s (.sl 4 (CV.encs l2))),(2,.clo 1048665 [.op 0 0])] [(0,.box 92 [.s (.int .i64 r1)])] 1 ⟨rfl,rfl,rfl,trivial⟩ ⟨rfl,⟨_,rfl,rfl⟩,trivial⟩) ?_;refine yAh [7] [] rfl ?_;show Tri ..
 refine zAh (Le.rnm [(0,0),(1,1)] [(0,.op 0 0),(1,.s (.sl 4 (CV.encs l2))),(2,.clo 1048665 [.op 0 0]),(7,.orow 1)] [(0,.box 92 [.s (.int .i64 r1)]),(1,.row 60 5 ((List.map zAk) []))] 2 ⟨rfl,rfl,rfl,rfl,trivial⟩ ⟨rfl,⟨_,rfl,rfl⟩,rfl,⟨_,rfl,congrArg (Ob.row 60 5) zFE⟩,trivial⟩) ?_;refine zAa ?_;refine zAa ?_
 refine zAb [] [11] rfl ?_;intro n3 hn3;obtain rfl:(l2.length:Int)=n3:=(hn3.trans (congrArg (fun m:Nat=>(m:Int)) (rlen CV.encs_eq l2))).symm;show Tri ..;obtain⟨fl,hl,ho1⟩:=zAc h;refine zBA (fl:=fl) (fun z=>match z with | ⟨x8,l9⟩=>⟨ofL [(7,.orow 1)],ofH [(0,.box 92 [.s (.int .i64 x8)]),(1,.row 60 5 ((List.map zAk) l9))],2⟩) ?_ (fun z σ' hz hle=>?_)
 ·refine zAi (zAt (X:=Nat×Int×Int×(List zRc)) (fun y=>match y with | (k,x4,x5,l7)=>⟨ofL [(0,.op 0 0),(2,.clo 1048665 [.op 0 0]),(7,.orow 1),(10,.s (.sl 4 (CV.encs l2))),(11,.s (.int .i64 (l2.length:Int))),(12,.s (.int .i64 x5))],ofH [(0,.box 92 [.s (.int .i64 x4)]),(1,.row 60 5 ((List.map zAk) l7))],2⟩) (fun y=>zAL n l2 y.1 y.2.1 y.2.2.1 y.2.2.2=some fl) (fun y=>y.1) (n,r1,0,[]) hl ?_ ?_)
  ·exact(Le.rnm [(0,0),(1,1)] _ _ _ ⟨rfl,rfl,rfl,rfl,rfl,rfl,trivial⟩ ⟨rfl,⟨_,rfl,rfl⟩,rfl,⟨_,rfl,rfl⟩,trivial⟩)
  ·rintro⟨k,x4,x5,l7⟩ h;cases k with
   | zero=>cases h
   | succ k =>
    replace h:zAL n l2 (k+1) x4 x5 l7=some fl:=h;rw[zAL]at h;refine yAW ?_;refine zAa ?_;refine zAf rfl h (fun hb h=>?_) (fun hb h=>?_)
    ·refine zAe ?_;refine zAa ?_;refine zAi ?_;refine yAh [9] [14] rfl ?_;obtain⟨⟨e10A,e10D,e10B,e10C⟩,he10,h⟩:=zAc h;refine And.intro (zAn CV.encs_eq he10).1 ?_;intro r11 hr11;obtain rfl:[.int .i64 e10A,.int .i64 e10D,.str e10B,.sl 4 (CV.encs e10C)]=r11:=(hr11.trans (zAn CV.encs_eq he10).2.1).symm;refine zAh (Le.giveBox 2 [.int .i64 e10A,.int .i64 e10D,.str e10B,.sl 4 (CV.encs e10C)] rfl rfl) ?_;refine zAa ?_;refine yAW ?_;refine zAf rfl h (fun hb h=>?_) (fun hb h=>?_)
     ·refine yAh [6] [] rfl ?_;refine zAh (Le.rnm [(0,0),(3,1)] [(6,.orow 1)] [(0,.box 92 [.s (.int .i64 x4)]),(1,.row 60 5 ((List.map zAk) []))] 2 ⟨rfl,trivial⟩ ⟨rfl,⟨_,rfl,rfl⟩,rfl,⟨_,rfl,congrArg (Ob.row 60 5) zFE⟩,trivial⟩) ?_;refine zAd ?_;cases h
      replace h:some _=some _:=ho1;obtain⟨hj1,hk1⟩:=pij h;subst hj1 hk1;unfold zBb;exact⟨_,(Le.rnm [(0,0),(1,1)] [(6,.orow 1)] [(0,.box 92 [.s (.int .i64 x4)]),(1,.row 60 5 ((List.map zAk) []))] 2 ⟨rfl,trivial⟩ ⟨rfl,⟨_,rfl,rfl⟩,rfl,⟨_,rfl,rfl⟩,trivial⟩),rfl,rfl,rfl,rfl,rfl,rfl,trivial⟩
     ·refine zAe ?_;refine zAb [26] [25] rfl ?_;obtain⟨⟨⟨y12P,⟨y12W,y12X⟩,⟨y12Y,y12Z⟩⟩,w13⟩,hy12,h⟩:=zAc h;refine⟨_,_,⟨_,_,_,_,_,hy12,rfl,rfl,rfl,rfl⟩,?_⟩
      intro r14 hr14;obtain rfl:(List.map zAk) [(y12P,(y12W,y12X),(y12Y,y12Z))]=r14:=(hr14.trans zFE).symm;obtain⟨hq,h⟩:=zAw h
      refine And.intro (show(((List.map zAk) l7).length+((List.map zAk) [(y12P,(y12W,y12X),(y12Y,y12Z))]).length) * 120<=140737488355328/\((List.map zAk) l7).length+((List.map zAk) [(y12P,(y12W,y12X),(y12Y,y12Z))]).length<=9223372036854775807 from by simp only[List.length_append,List.length_cons,List.length_nil,List.length_map,rlen (fun _=>rfl)]at hq ⊢; omega) ?_;show Tri ..
      refine zAh (Le.rnm [(0,0),(3,1)] [(0,.op 0 0),(2,.clo 1048665 [.op 0 0]),(7,.orow 1),(10,.s (.sl 4 (CV.encs l2))),(11,.s (.int .i64 (l2.length:Int))),(12,.s (.int .i64 x5))] [(0,.box 92 [.s (.int .i64 w13)]),(1,.row 60 5 ((List.map zAk) (l7++[(y12P,(y12W,y12X),(y12Y,y12Z))])))] 2 ⟨rfl,rfl,rfl,rfl,rfl,rfl,trivial⟩ ⟨rfl,⟨_,rfl,rfl⟩,rfl,⟨_,rfl,congrArg (Ob.row 60 5) zFE⟩,trivial⟩) ?_
      refine yAV ?_;refine⟨(k,w13,IntKind.i64.wrap (x5+1),l7++[(y12P,(y12W,y12X),(y12Y,y12Z))]),h,(Le.rnm [(0,0),(1,1)] _ _ _ ⟨rfl,rfl,rfl,rfl,rfl,rfl,trivial⟩ ⟨rfl,⟨_,rfl,rfl⟩,rfl,⟨_,rfl,rfl⟩,trivial⟩),Nat.lt_succ_self k⟩
    ·refine zAy ?_;cases h;exact⟨_,rfl,(Le.rnm [(0,0),(1,1)] _ _ _ ⟨rfl,trivial⟩ ⟨rfl,⟨_,rfl,rfl⟩,rfl,⟨_,rfl,rfl⟩,trivial⟩)⟩
 ·subst hz;obtain⟨x8,l9⟩:=z;replace h:=ho1;refine zAh hle ?_;refine yAW ?_;refine zAd ?_;obtain⟨hj1,hk1⟩:=pij h;subst hj1 hk1;unfold zBb;exact⟨_,(Le.rnm [(0,0),(1,1)] [(6,.orow 1)] [(0,.box 92 [.s (.int .i64 x8)]),(1,.row 60 5 ((List.map zAk) l9))] 2 ⟨rfl,trivial⟩ ⟨rfl,⟨_,rfl,rfl⟩,rfl,⟨_,rfl,rfl⟩,trivial⟩),rfl,rfl,rfl,rfl,rfl,rfl,trivial⟩
def zJb (n:Nat) (xs:List AV) (os:List Ob) (x:AV) (os':List (Option Ob)):Prop:=∃ (a0:(Int)) (a1:CV) (y0:(List UInt8×Nd×List zRc×Int)) (z0:(Int)),zB2 n a0 a1=some (y0,z0)/\xs=[.op 0 0,.agg ((CV.enc a1).map .s)]/\os=[.box 92 ((zAp a0).map .s)]/\x = .agg ((zAQ y0).map .s)/\os'=[some (.box 92 ((zAp z0).map .s))]
def zFI:zAr:=zBI (fun xs os x os'=>∃ n,zJb n xs os x os')
theorem zIV:PSound Tryz.prog 41 zFI:=by
 have gok:∀ f s,look? f [(83,zCe),(84,zD9),(85,zHD),(86,zCx),(88,zCp),(87,zFH)]=some s->PSound Tryz.prog f s:=zAm (by
  simp only[List.forall_mem_cons]
  exact⟨zCX,zFd,zLh,zDe,zCW,zIU,by simp⟩)
 refine PSound.withNil (zDZ tokW Tryz.call41 Tryz.func41 rfl (fun xs os x os' h=>by obtain⟨n,_,_,_,_,_,rfl,rfl,_,rfl⟩:=h; exact⟨by show 2<=34; decide,by show 1<=1; decide⟩) 34 rfl ?_) _;rintro xs os x os' w0 G0 B0 ⟨n,r1,⟨v2A,v2D,v2B,v2C⟩,y0,z0,h,rfl,rfl,rfl,rfl⟩ _;rw[zB2]at h;refine yAh [4] [] rfl ?_;refine yAW ?_;obtain⟨⟨y3,w4⟩,hy3,h⟩:=zAc h;refine⟨_,_,⟨_,_,_,_,_,hy3,rfl,rfl,rfl,rfl⟩,?_⟩
 refine zAa ?_;refine zAK [] [11,16,21,27] [4,9,14,20,23,25] rfl (by decide +kernel) ?_;obtain⟨⟨e5A,e5D,e5B,e5C⟩,he5,h⟩:=zAc h;refine And.intro (zAn CV.encs_eq he5).1 ?_;intro r6 hr6;obtain rfl:[.int .i64 e5A,.int .i64 e5D,.str e5B,.sl 4 (CV.encs e5C)]=r6:=(hr6.trans (zAn CV.encs_eq he5).2.1).symm;obtain⟨⟨y7,w8⟩,hy7,h⟩:=zAc h;refine⟨_,_,⟨_,_,_,_,hy7,rfl,rfl,rfl,rfl⟩,?_⟩
 obtain⟨⟨e9A,e9D,e9B,e9C⟩,he9,h⟩:=zAc h;refine And.intro (zAn CV.encs_eq he9).1 ?_;intro r10 hr10;obtain rfl:[.int .i64 e9A,.int .i64 e9D,.str e9B,.sl 4 (CV.encs e9C)]=r10:=(hr10.trans (zAn CV.encs_eq he9).2.1).symm;obtain⟨⟨⟨y11A,y11B,y11F,y11E⟩,w12⟩,hy11,h⟩:=zAc h;refine⟨_,_,⟨_,_,_,_,_,hy11,rfl,rfl,rfl,rfl⟩,?_⟩
 obtain⟨⟨e13A,e13D,e13B,e13C⟩,he13,h⟩:=zAc h;refine And.intro (zAn CV.encs_eq he13).1 ?_;intro r14 hr14;obtain rfl:[.int .i64 e13A,.int .i64 e13D,.str e13B,.sl 4 (CV.encs e13C)]=r14:=(hr14.trans (zAn CV.encs_eq he13).2.1).symm;obtain⟨⟨y15,w16⟩,hy15,h⟩:=zAc h;refine⟨_,_,⟨_,_,_,_,hy15,rfl,rfl,rfl,rfl⟩,?_⟩
 obtain⟨⟨e17A,e17D,e17B,e17C⟩,he17,h⟩:=zAc h;refine And.intro (zAn CV.encs_eq he17).1 ?_;intro r18 hr18;obtain rfl:[.int .i64 e17A,.int .i64 e17D,.str e17B,.sl 4 (CV.encs e17C)]=r18:=(hr18.trans (zAn CV.encs_eq he17).2.1).symm;obtain⟨⟨y19,w20⟩,hy19,h⟩:=zAc h;refine⟨_,_,⟨_,_,_,_,hy19,rfl,rfl,rfl,rfl⟩,?_⟩
 obtain⟨⟨y21,w22⟩,hy21,h⟩:=zAc h;refine⟨_,_,⟨_,_,_,_,_,hy21,rfl,rfl,rfl,rfl⟩,?_⟩
 refine zAd ?_;obtain⟨hj1,hk1⟩:=pij h;subst hj1 hk1;unfold zBb;exact⟨_,(Le.trans (Le.rnm [(0,0),(1,1),(2,2)] [(4,.op 1 0)] [(0,.box 92 [.s (.int .i64 w22)]),(1,.box 34 [.s (.str y7),.s (.int .i64 y11A),.s (.str y11B),.s (.int .i64 y11F),.s (.sl 4 (Nd.encs y11E)),.orow 2,.s (.int .i64 y15)]),(2,.row 60 5 ((List.map zAk) y21))] 3 ⟨rfl,trivial⟩ ⟨rfl,⟨_,rfl,rfl⟩,rfl,⟨_,rfl,rfl⟩,rfl,⟨_,rfl,rfl⟩,trivial⟩) (Le.giveRow 2 rfl)),rfl,rfl,rfl,rfl,trivial⟩
def zUv (n:Nat) (xs:List AV) (r:Ret):Prop:=∃ (a0:List UInt8) (y0:(List UInt8×Nd×List zRc×Int)) (y1:Int),zCN n a0=some (y0,y1)/\xs=[.s (.sl 1 ((List.map brow) a0))]/\r = .val (.tup [.agg ((zAQ y0).map .s),.s (.int .i64 y1)])
def zN8:zAr:=zAq fun xs r=>∃ n,zUv n xs r
theorem zTG:PSound Tryz.prog 17 zN8:=by
 have gok:∀ f s,look? f [(39,zG9),(28,zHT),(40,zKu),(41,zFI),(12,zJm)]=some s->PSound Tryz.prog f s:=zAm (by
  simp only[List.forall_mem_cons]
  exact⟨zKq,zJF,zOW,zIV,zL5,by simp⟩)
 refine zAs tokW Tryz.call17 Tryz.func17 rfl (fun xs r h=>by obtain⟨n,_,_,_,_,rfl,_⟩:=h; show 1<=70; decide) 70 rfl ?_;rintro xs r w0 G0 ⟨n,a1,y0,y1,h,rfl,rfl⟩ _;rw[zCN]at h;refine yAh [2] [] rfl ?_;refine zAa ?_;refine zAa ?_;obtain⟨x2,hj,h⟩:=zAc h;refine zAl ⟨ofL [(0,.s (.sl 1 ((List.map brow) a1))),(2,.op 0 0),(20,.s (.bool x2))],ofH [(0,.box 34 [.s (.str []),.s (.int .i64 0),.s (.str []),.s (.int .i64 0),.nl 4,.nl 5,.s (.int .i64 0)])],1⟩ ?_ (fun σ' hle=>?_)
 ·replace h:=hj;refine zAb [] [12,14,16,17] rfl ?_;intro n3 hn3;obtain rfl:(a1.length:Int)=n3:=(hn3.trans (congrArg (fun m:Nat=>(m:Int)) (rlen (fun _=>rfl) a1))).symm;intro b hb;cases b with
  | true =>
   replace h:=zAv hb.symm h;cases h;exact(Le.rnm [(0,0)] _ _ _ ⟨rfl,rfl,rfl,trivial⟩ ⟨rfl,⟨_,rfl,rfl⟩,trivial⟩)
  | false =>
   replace h:=zAu hb.symm h;obtain⟨hq,h⟩:=zAw h;refine And.intro ⟨hq.1,hq.2.1,Int.le_trans hq.2.2 (Int.ofNat_le.2 (Nat.le_of_eq (rlen (fun _=>rfl) _).symm))⟩ ?_;intro r4 hr4;obtain rfl:(List.map brow) ((a1.take (12:Int).toNat).drop (0:Int).toNat)=r4:=(hr4.trans (rcut (fun _=>rfl) _ _ _)).symm;refine And.intro (show List.map brow ((a1.take (12:Int).toNat).drop (0:Int).toNat)=((List.map brow ((a1.take (12:Int).toNat).drop (0:Int).toNat)).map zGB).map brow from by rw[zC7]) ?_;intro s5 hs5;obtain rfl:(a1.take (12:Int).toNat).drop (0:Int).toNat=s5:=(hs5.trans (zC7 _)).symm;obtain⟨y6,hy6,h⟩:=zAc h
   refine⟨_,⟨_,_,_,hy6,rfl,rfl⟩,?_⟩
   cases h;exact(Le.rnm [(0,0)] _ _ _ ⟨rfl,rfl,rfl,trivial⟩ ⟨rfl,⟨_,rfl,rfl⟩,trivial⟩)
 ·refine zAh hle ?_;refine zAf rfl h (fun hb h=>?_) (fun hb h=>?_)
  ·refine yAW ?_;refine zAd ?_;obtain⟨hj1,hk1⟩:=pij h;subst hj1 hk1;exact fin0 rfl rfl
  ·refine zAe ?_;refine yAW ?_;refine zAa ?_;refine yAh [] [23,24] rfl ?_;obtain⟨hq,h⟩:=zAw h;refine And.intro ⟨hq.1,hq.2.1,Int.le_trans hq.2.2 (Int.ofNat_le.2 (Nat.le_of_eq (rlen (fun _=>rfl) _).symm))⟩ ?_;intro r7 hr7;obtain rfl:(List.map brow) ((a1.take (12:Int).toNat).drop (4:Int).toNat)=r7:=(hr7.trans (rcut (fun _=>rfl) _ _ _)).symm;intro n8 hn8;obtain rfl:(((a1.take (12:Int).toNat).drop (4:Int).toNat).length:Int)=n8:=(hn8.trans (congrArg (fun m:Nat=>(m:Int)) (rlen (fun _=>rfl) ((a1.take (12:Int).toNat).drop (4:Int).toNat)))).symm
   show Tri ..;obtain⟨x11,hl,h⟩:=zAc h;refine zAl ⟨ofL [(0,.s (.sl 1 ((List.map brow) a1))),(2,.op 0 0),(4,.s (.int .u64 x11))],ofH [(0,.box 34 [.s (.str []),.s (.int .i64 0),.s (.str []),.s (.int .i64 0),.nl 4,.nl 5,.s (.int .i64 0)])],1⟩ ?_ (fun σ' hle=>?_)
   ·refine zAi (zAt (X:=Nat×Int×Int) (fun y=>match y with | (k,x9,x10)=>⟨ofL [(0,.s (.sl 1 ((List.map brow) a1))),(2,.op 0 0),(4,.s (.int .u64 x10)),(23,.s (.sl 1 ((List.map brow) ((a1.take (12:Int).toNat).drop (4:Int).toNat)))),(24,.s (.int .i64 (((a1.take (12:Int).toNat).drop (4:Int).toNat).length:Int))),(25,.s (.int .i64 x9))],ofH [(0,.box 34 [.s (.str []),.s (.int .i64 0),.s (.str []),.s (.int .i64 0),.nl 4,.nl 5,.s (.int .i64 0)])],1⟩) (fun y=>zCa a1 y.1 y.2.1 y.2.2=some x11) (fun y=>y.1) (n,0,0) hl ?_ ?_)
    ·exact(Le.rnm [(0,0)] _ _ _ ⟨rfl,rfl,rfl,rfl,rfl,rfl,trivial⟩ ⟨rfl,⟨_,rfl,rfl⟩,trivial⟩)
    ·rintro⟨k,x9,x10⟩ h;cases k with
     | zero=>cases h
     | succ k =>
      replace h:zCa a1 (k+1) x9 x10=some x11:=h;rw[zCa]at h;refine yAW ?_;refine zAa ?_;refine zAf rfl h (fun hb h=>?_) (fun hb h=>?_)
      ·refine zAe ?_;refine zAa ?_;refine zAi ?_;refine yAh [] [27] rfl ?_;obtain⟨e12,he12,h⟩:=zAc h;refine And.intro (zAn (fun _=>rfl) he12).1 ?_;intro r13 hr13;obtain rfl:[.int .u8 (e12.toNat:Int)]=r13:=(hr13.trans (zAn (fun _=>rfl) he12).2.1).symm;refine yAV ?_;refine And.intro (by decide) ?_;refine yAV ?_
       refine⟨(k,IntKind.i64.wrap (x9+1),zCA .or .u64 (IntKind.u64.wrap (x10 * 2 ^ (min (8:Int).toNat IntKind.u64.bits))) (IntKind.u64.wrap (e12.toNat:Int))),h,(Le.rnm [(0,0)] _ _ _ ⟨rfl,rfl,rfl,rfl,rfl,rfl,trivial⟩ ⟨rfl,⟨_,rfl,rfl⟩,trivial⟩),Nat.lt_succ_self k⟩
      ·refine zAy ?_;cases h;exact(Le.rnm [(0,0)] _ _ _ ⟨rfl,rfl,rfl,trivial⟩ ⟨rfl,⟨_,rfl,rfl⟩,trivial⟩)
   ·refine zAh hle ?_;refine zAa ?_;refine yAh [] [37] rfl ?_;obtain⟨hq,h⟩:=zAw h;refine And.intro ⟨hq.1,Int.le_trans hq.2.1 (Int.ofNat_le.2 (Nat.le_of_eq (rlen (fun _=>rfl) _).symm)),Int.le_refl _⟩ ?_;intro r14 hr14;obtain rfl:(List.map brow) ((a1.take (a1.length:Int).toNat).drop (12:Int).toNat)=r14:=(hr14.trans ((congrArg (fun m:Nat=>(((List.map brow) a1).take m).drop (12:Int).toNat) (rlen (fun _=>rfl) _)).trans (rcut (fun _=>rfl) _ _ _))).symm;obtain⟨y15,hy15,h⟩:=zAc h;refine⟨_,⟨_,_,_,hy15,rfl,rfl⟩,?_⟩
    refine zAf rfl h (fun hb h=>?_) (fun hb h=>?_)
    ·refine yAW ?_;refine zAd ?_;obtain⟨hj1,hk1⟩:=pij h;subst hj1 hk1;exact fin0 rfl rfl
    ·refine zAe ?_;refine yAh [7] [43] rfl ?_;obtain⟨hq,h⟩:=zAw h;refine And.intro ⟨hq.1,Int.le_trans hq.2.1 (Int.ofNat_le.2 (Nat.le_of_eq (rlen (fun _=>rfl) _).symm)),Int.le_refl _⟩ ?_;intro r16 hr16;obtain rfl:(List.map brow) ((a1.take (a1.length:Int).toNat).drop (12:Int).toNat)=r16:=(hr16.trans ((congrArg (fun m:Nat=>(((List.map brow) a1).take m).drop (12:Int).toNat) (rlen (fun _=>rfl) _)).trans (rcut (fun _=>rfl) _ _ _))).symm;obtain⟨⟨⟨y17A,y17D,y17B,y17C⟩,y18⟩,hy17,h⟩:=zAc h;refine⟨_,⟨_,_,_,_,hy17,rfl,rfl⟩,?_⟩
     refine zAh (Le.giveBox 1 [.int .i64 y17A,.int .i64 y17D,.str y17B,.sl 4 (CV.encs y17C)] rfl rfl) ?_;refine zAa ?_;refine yAW ?_;refine zAf rfl h (fun hb h=>?_) (fun hb h=>?_)
     ·refine yAW ?_;refine zAd ?_;obtain⟨hj1,hk1⟩:=pij h;subst hj1 hk1;exact fin0 rfl rfl
     ·refine zAe ?_;refine yAh [51] [] rfl ?_;refine yAh [10] [] rfl ?_;obtain⟨⟨⟨y19V,⟨y19Q,y19R,y19S,y19T⟩,y19J,y19U⟩,w20⟩,hy19,h⟩:=zAc h;refine⟨_,_,⟨_,_,_,_,_,hy19,rfl,rfl,rfl,rfl⟩,?_⟩
      refine zAh (Le.giveBox 3 [.str y19V,.int .i64 y19Q,.str y19R,.int .i64 y19S,.sl 4 (Nd.encs y19T),.sl 5 ((List.map zAk) y19J),.int .i64 y19U] rfl rfl) ?_;refine zAa ?_;refine yAW ?_;show Tri ..
      refine zAh (Le.trans (Le.rnm [(0,0),(2,1)] [(2,.op 0 0),(9,.op 1 0),(10,.s (.pt [.str y19V,.int .i64 y19Q,.str y19R,.int .i64 y19S,.sl 4 (Nd.encs y19T),.sl 5 ((List.map zAk) y19J),.int .i64 y19U])),(59,.s (.bool (w20 != 0)))] [(0,.box 34 [.s (.str []),.s (.int .i64 0),.s (.str []),.s (.int .i64 0),.nl 4,.nl 5,.s (.int .i64 0)]),(1,.box 92 [.s (.int .i64 w20)])] 2 ⟨rfl,rfl,rfl,rfl,trivial⟩ ⟨rfl,⟨_,rfl,rfl⟩,rfl,⟨_,rfl,rfl⟩,trivial⟩) (Le.giveBox 1 [.int .i64 w20] rfl rfl)) ?_;refine zAf rfl h (fun hb h=>?_) (fun hb h=>?_)
      ·refine zAa ?_;refine zAK [] [] [5] rfl (by decide +kernel) ?_;refine zAd ?_;obtain⟨hj1,hk1⟩:=pij h;subst hj1 hk1;exact fin0 rfl rfl
      ·refine zAe ?_;refine zAa ?_;refine yAW ?_;obtain⟨y21,hy21,h⟩:=zAc h;refine⟨_,⟨_,_,_,hy21,rfl,rfl⟩,?_⟩
       refine zAf rfl h (fun hb h=>?_) (fun hb h=>?_)
       ·refine yAW ?_;refine zAd ?_;obtain⟨hj1,hk1⟩:=pij h;subst hj1 hk1;exact fin0 rfl rfl
       ·refine zAe ?_;refine yAW ?_;refine zAd ?_;obtain⟨hj1,hk1⟩:=pij h;subst hj1 hk1;exact fin0 rfl rfl
def zWu (xs:List AV) (r:Ret):Prop:=∃ (a0:CV) (a1:Int) (y0:CV),zAM a0 a1=some y0/\xs=[.agg ((CV.enc a0).map .s),.s (.int .i64 a1)]/\r = .val (.agg ((CV.enc y0).map .s))
def zMu:zAr:=zAq fun xs r=>zWu xs r
theorem zPc:PSound Tryz.prog 91 zMu:=by
 have gok:=@gok0 Tryz.prog;refine zAs tokW Tryz.call91 Tryz.func91 rfl (fun xs r h=>by obtain⟨_,_,_,_,rfl,_⟩:=h; show 2<=16; decide) 16 rfl ?_;rintro xs r w0 G0 ⟨⟨v1A,v1D,v1B,v1C⟩,i2,y0,h,rfl,rfl⟩ _;rw[zAM]at h;refine yAh [4] [] rfl ?_;refine zAa ?_;refine yAh [] [8] rfl ?_;intro n3 hn3;obtain rfl:(v1C.length:Int)=n3:=(hn3.trans (congrArg (fun m:Nat=>(m:Int)) (rlen CV.encs_eq v1C))).symm;refine zAf rfl h (fun hb h=>?_) (fun hb h=>?_)
 ·refine yAh [] [13] rfl ?_;obtain⟨⟨e4A,e4D,e4B,e4C⟩,he4,h⟩:=zAc h;refine And.intro (zAn CV.encs_eq he4).1 ?_;intro r5 hr5;obtain rfl:[.int .i64 e4A,.int .i64 e4D,.str e4B,.sl 4 (CV.encs e4C)]=r5:=(hr5.trans (zAn CV.encs_eq he4).2.1).symm;refine zAd ?_;have hy:=osi h;subst hy;exact fin0 rfl rfl
 ·refine zAe ?_;refine yAW ?_;refine zAd ?_;have hy:=osi h;subst hy;exact fin0 rfl rfl
def zWt (xs:List AV) (r:Ret):Prop:=∃ (a0:List CV) (y0:CV),zBq a0=some y0/\xs=[.s (.sl 4 (CV.encs a0))]/\r = .val (.agg ((CV.enc y0).map .s))
def zFQ:zAr:=zAq fun xs r=>zWt xs r
theorem zFZ:PSound Tryz.prog 67 zFQ:=by
 have gok:=@gok0 Tryz.prog;refine zAs tokW Tryz.call67 Tryz.func67 rfl (fun xs r h=>by obtain⟨_,_,_,rfl,_⟩:=h; show 1<=5; decide) 5 rfl ?_;rintro xs r w0 G0 ⟨l1,y0,h,rfl,rfl⟩ _;rw[zBq]at h;refine yAh [2] [] rfl ?_;refine yAW ?_;refine zAd ?_;have hy:=osi h;subst hy;exact fin0 rfl rfl
def zGX (n:Nat) (xs:List AV) (r:Ret):Prop:=∃ (a0:CV) (a1:Int) (y0:List Nd),zCR n a0 a1=some y0/\xs=[.agg ((CV.enc a0).map .s),.s (.int .i64 a1)]/\r = .row 24 4 (Nd.encs y0)
theorem zQm (n:Nat) (ih:PSound Tryz.prog 92 (zAq (zGX n))):PSound Tryz.prog 92 (zAq (zGX (n+1))):=by
 have gok:∀ f s,look? f [(91,zMu),(92,zAq (zGX n))]=some s->PSound Tryz.prog f s:=zAm (by
  simp only[List.forall_mem_cons]
  exact⟨zPc,ih,by simp⟩)
 refine zAs tokW Tryz.call92 Tryz.func92 rfl (fun xs r h=>by obtain⟨_,_,_,_,rfl,_⟩:=h; show 2<=37; decide) 37 rfl ?_;rintro xs r w0 G0 ⟨⟨v1A,v1D,v1B,v1C⟩,from2,y0,h,rfl,rfl⟩ _;rw[zCR]at h;refine yAh [4] [] rfl ?_;refine zAh (Le.rnm [] [(1,.s (.int .i64 from2)),(2,.s (.pt [.int .i64 v1A,.int .i64 v1D,.str v1B,.sl 4 (CV.encs v1C)]))] [] 0 ⟨rfl,rfl,trivial⟩ trivial) ?_;refine yAh [5] [] rfl ?_;show Tri ..
 refine zAh (Le.rnm [(0,0)] [(1,.s (.int .i64 from2)),(2,.s (.pt [.int .i64 v1A,.int .i64 v1D,.str v1B,.sl 4 (CV.encs v1C)])),(5,.orow 0)] [(0,.row 24 4 (Nd.encs []))] 1 ⟨rfl,rfl,rfl,trivial⟩ ⟨rfl,⟨_,rfl,congrArg (Ob.row 24 4) zFE⟩,trivial⟩) ?_;refine zAa ?_;refine yAW ?_;show Tri ..
 obtain⟨l6,hl,h⟩:=zAc h;refine zAl ⟨ofL [(5,.orow 0)],ofH [(0,.row 24 4 (Nd.encs l6))],1⟩ ?_ (fun σ' hle=>?_)
 ·refine zAi (zAt (X:=Nat×Int×(List Nd)) (fun y=>match y with | (k,i4,l5)=>⟨ofL [(2,.s (.pt [.int .i64 v1A,.int .i64 v1D,.str v1B,.sl 4 (CV.encs v1C)])),(5,.orow 0),(6,.s (.int .i64 i4))],ofH [(0,.row 24 4 (Nd.encs l5))],1⟩) (fun y=>zBL (zCR n) v1C y.1 y.2.1 y.2.2=some l6) (fun y=>y.1) (n,from2,[]) hl ?_ ?_)
  ·exact(Le.rnm [(0,0)] _ _ _ ⟨rfl,rfl,rfl,trivial⟩ ⟨rfl,⟨_,rfl,rfl⟩,trivial⟩)
  ·rintro⟨k,i4,l5⟩ h;cases k with
   | zero=>cases h
   | succ k =>
    replace h:zBL (zCR n) v1C (k+1) i4 l5=some l6:=h;rw[zBL]at h;refine zAa ?_;refine yAh [] [12] rfl ?_;intro n7 hn7;obtain rfl:(v1C.length:Int)=n7:=(hn7.trans (congrArg (fun m:Nat=>(m:Int)) (rlen CV.encs_eq v1C))).symm;refine zAf rfl h (fun hb h=>?_) (fun hb h=>?_)
    ·refine zAe ?_;refine zAa ?_;refine zAi ?_;refine yAh [7] [19] rfl ?_;obtain⟨⟨e8A,e8D,e8B,e8C⟩,he8,h⟩:=zAc h;refine And.intro (zAn CV.encs_eq he8).1 ?_;intro r9 hr9;obtain rfl:[.int .i64 e8A,.int .i64 e8D,.str e8B,.sl 4 (CV.encs e8C)]=r9:=(hr9.trans (zAn CV.encs_eq he8).2.1).symm;refine zAh (Le.giveBox 1 [.int .i64 e8A,.int .i64 e8D,.str e8B,.sl 4 (CV.encs e8C)] rfl rfl) ?_;refine zAK [35] [34] [14] rfl (by decide +kernel) ?_;obtain⟨⟨y10A,y10D,y10B,y10C⟩,hy10,h⟩:=zAc h
     refine⟨_,⟨_,_,_,hy10,rfl,rfl⟩,?_⟩
     obtain⟨⟨y11A,y11D,y11B,y11C⟩,hy11,h⟩:=zAc h;refine⟨_,⟨_,_,_,hy11,rfl,rfl⟩,?_⟩
     obtain⟨⟨y12A,y12D,y12B,y12C⟩,hy12,h⟩:=zAc h;refine⟨_,⟨_,_,_,hy12,rfl,rfl⟩,?_⟩
     obtain⟨y13,hy13,h⟩:=zAc h;refine⟨_,⟨_,_,_,hy13,rfl,rfl⟩,?_⟩
     intro r14 hr14;obtain rfl:Nd.encs [Nd.mk y10D y11B y12D y13]=r14:=(hr14.trans zFE).symm;obtain⟨hq,h⟩:=zAw h
     refine And.intro (show((Nd.encs l5).length+(Nd.encs [Nd.mk y10D y11B y12D y13]).length) * 56<=140737488355328/\(Nd.encs l5).length+(Nd.encs [Nd.mk y10D y11B y12D y13]).length<=9223372036854775807 from by simp only[List.length_append,List.length_cons,List.length_nil,List.length_map,rlen Nd.encs_eq]at hq ⊢; omega) ?_;show Tri ..
     refine zAh (Le.rnm [(2,0)] [(2,.s (.pt [.int .i64 v1A,.int .i64 v1D,.str v1B,.sl 4 (CV.encs v1C)])),(5,.orow 0),(6,.s (.int .i64 i4))] [(0,.row 24 4 (Nd.encs (l5++[Nd.mk y10D y11B y12D y13])))] 1 ⟨rfl,rfl,rfl,trivial⟩ ⟨rfl,⟨_,rfl,congrArg (Ob.row 24 4) zFE⟩,trivial⟩) ?_;refine yAV ?_
     refine⟨(k,IntKind.i64.wrap (i4+1),l5++[Nd.mk y10D y11B y12D y13]),h,(Le.rnm [(0,0)] _ _ _ ⟨rfl,rfl,rfl,trivial⟩ ⟨rfl,⟨_,rfl,rfl⟩,trivial⟩),Nat.lt_succ_self k⟩
    ·refine zAy ?_;cases h;exact(Le.rnm [(0,0)] _ _ _ ⟨rfl,trivial⟩ ⟨rfl,⟨_,rfl,rfl⟩,trivial⟩)
 ·refine zAh hle ?_;refine yAW ?_;refine zAd ?_;have hy:=osi h;subst hy;unfold zDR;exact⟨_,Le.refl _ _,0,rfl,rfl⟩
theorem zRy:∀ n,PSound Tryz.prog 92 (zAq (zGX n)):=by
 intro n
 induction n with
 | zero=>exact zBo Tryz.call92 (fun xs r h=>by obtain⟨_,_,_,h,_⟩:=h; cases h)
 | succ n ih=>exact zQm n ih
def zOo:zAr:=zAq fun xs r=>∃ n,zGX n xs r
theorem zTW:PSound Tryz.prog 92 zOo:=zBH zRy
def zWs (n:Nat) (xs:List AV) (r:Ret):Prop:=∃ (a0:CV) (y0:List Int),zEH n a0=some y0/\xs=[.agg ((CV.enc a0).map .s)]/\r = .row 3 1 ((List.map (irow .i64)) y0)
def zQz:zAr:=zAq fun xs r=>∃ n,zWs n xs r
theorem zVf:PSound Tryz.prog 93 zQz:=by
 have gok:=@gok0 Tryz.prog;refine zAs tokW Tryz.call93 Tryz.func93 rfl (fun xs r h=>by obtain⟨n,_,_,_,rfl,_⟩:=h; show 1<=22; decide) 22 rfl ?_;rintro xs r w0 G0 ⟨n,⟨v1A,v1D,v1B,v1C⟩,y0,h,rfl,rfl⟩ _;rw[zEH]at h;refine yAh [2] [] rfl ?_;refine zAh (Le.rnm [] [(1,.s (.pt [.int .i64 v1A,.int .i64 v1D,.str v1B,.sl 4 (CV.encs v1C)]))] [] 0 ⟨rfl,trivial⟩ trivial) ?_;refine yAh [3] [] rfl ?_;show Tri ..
 refine zAh (Le.rnm [(0,0)] [(1,.s (.pt [.int .i64 v1A,.int .i64 v1D,.str v1B,.sl 4 (CV.encs v1C)])),(3,.orow 0)] [(0,.row 3 1 ((List.map (irow .i64)) []))] 1 ⟨rfl,rfl,trivial⟩ ⟨rfl,⟨_,rfl,congrArg (Ob.row 3 1) zFE⟩,trivial⟩) ?_;refine zAa ?_;refine yAW ?_;show Tri ..
 obtain⟨l5,hl,h⟩:=zAc h;refine zAl ⟨ofL [(3,.orow 0)],ofH [(0,.row 3 1 ((List.map (irow .i64)) l5))],1⟩ ?_ (fun σ' hle=>?_)
 ·refine zAi (zAt (X:=Nat×Int×(List Int)) (fun y=>match y with | (k,i3,l4)=>⟨ofL [(1,.s (.pt [.int .i64 v1A,.int .i64 v1D,.str v1B,.sl 4 (CV.encs v1C)])),(3,.orow 0),(4,.s (.int .i64 i3))],ofH [(0,.row 3 1 ((List.map (irow .i64)) l4))],1⟩) (fun y=>zDd v1C y.1 y.2.1 y.2.2=some l5) (fun y=>y.1) (n,0,[]) hl ?_ ?_)
  ·exact(Le.rnm [(0,0)] _ _ _ ⟨rfl,rfl,rfl,trivial⟩ ⟨rfl,⟨_,rfl,rfl⟩,trivial⟩)
  ·rintro⟨k,i3,l4⟩ h;cases k with
   | zero=>cases h
   | succ k =>
    replace h:zDd v1C (k+1) i3 l4=some l5:=h;rw[zDd]at h;refine zAa ?_;refine yAh [] [8] rfl ?_;intro n6 hn6;obtain rfl:(v1C.length:Int)=n6:=(hn6.trans (congrArg (fun m:Nat=>(m:Int)) (rlen CV.encs_eq v1C))).symm;refine zAf rfl h (fun hb h=>?_) (fun hb h=>?_)
    ·refine zAe ?_;refine zAa ?_;refine zAi ?_;refine zAb [20] [16,19] rfl ?_;obtain⟨⟨e7A,e7D,e7B,e7C⟩,he7,h⟩:=zAc h;refine And.intro (zAn CV.encs_eq he7).1 ?_;intro r8 hr8;obtain rfl:[.int .i64 e7A,.int .i64 e7D,.str e7B,.sl 4 (CV.encs e7C)]=r8:=(hr8.trans (zAn CV.encs_eq he7).2.1).symm;intro r9 hr9
     obtain rfl:(List.map (irow .i64)) [e7D]=r9:=(hr9.trans zFE).symm;obtain⟨hq,h⟩:=zAw h
     refine And.intro (show(((List.map (irow .i64)) l4).length+((List.map (irow .i64)) [e7D]).length) * 8<=140737488355328/\((List.map (irow .i64)) l4).length+((List.map (irow .i64)) [e7D]).length<=9223372036854775807 from by simp only[List.length_append,List.length_cons,List.length_nil,List.length_map,rlen (fun _=>rfl)]at hq ⊢; omega) ?_;show Tri ..
     refine zAh (Le.rnm [(1,0)] [(1,.s (.pt [.int .i64 v1A,.int .i64 v1D,.str v1B,.sl 4 (CV.encs v1C)])),(3,.orow 0),(4,.s (.int .i64 i3))] [(0,.row 3 1 ((List.map (irow .i64)) (l4++[e7D])))] 1 ⟨rfl,rfl,rfl,trivial⟩ ⟨rfl,⟨_,rfl,congrArg (Ob.row 3 1) zFE⟩,trivial⟩) ?_;refine yAV ?_
     refine⟨(k,IntKind.i64.wrap (i3+1),l4++[e7D]),h,(Le.rnm [(0,0)] _ _ _ ⟨rfl,rfl,rfl,trivial⟩ ⟨rfl,⟨_,rfl,rfl⟩,trivial⟩),Nat.lt_succ_self k⟩
    ·refine zAy ?_;cases h;exact(Le.rnm [(0,0)] _ _ _ ⟨rfl,trivial⟩ ⟨rfl,⟨_,rfl,rfl⟩,trivial⟩)
 ·refine zAh hle ?_;refine yAW ?_;refine zAd ?_;have hy:=osi h;subst hy;unfold zDR;exact⟨_,Le.refl _ _,0,rfl,rfl⟩
def zAH:(List UInt8×Nd×List zRc×Int)->List S
| ⟨p_title,⟨p_origin_kind,p_origin_text,p_origin_cols,p_origin_kids⟩,p_records,p_done⟩=>[.str p_title,.int .i64 p_origin_kind,.str p_origin_text,.int .i64 p_origin_cols,.sl 4 (Nd.encs p_origin_kids),.sl 5 ((List.map zAk) p_records),.int .i64 p_done]
def zWv (n:Nat) (xs:List AV) (r:Ret):Prop:=∃ (a0:CV) (y0:(List UInt8×Nd×List zRc×Int)),zIv n a0=some y0/\xs=[.agg ((CV.enc a0).map .s)]/\r = .val (.agg ((zAH y0).map .s))
def zQA:zAr:=zAq fun xs r=>∃ n,zWv n xs r
theorem zVg:PSound Tryz.prog 43 zQA:=by
 have gok:∀ f s,look? f [(91,zMu),(67,zFQ),(92,zOo),(93,zQz)]=some s->PSound Tryz.prog f s:=zAm (by
  simp only[List.forall_mem_cons]
  exact⟨zPc,zFZ,zTW,zVf,by simp⟩)
 refine zAs tokW Tryz.call43 Tryz.func43 rfl (fun xs r h=>by obtain⟨n,_,_,_,rfl,_⟩:=h; show 1<=111; decide) 111 rfl ?_;rintro xs r w0 G0 ⟨n,⟨a1A,a1D,a1B,a1C⟩,y0,h,rfl,rfl⟩ _;rw[zIv]at h;refine yAh [2] [] rfl ?_;refine zAa ?_;refine zHP [3] [] [7,8] [] rfl (by decide +kernel) ?_;obtain⟨⟨y2A,y2D,y2B,y2C⟩,hy2,h⟩:=zAc h;refine⟨_,⟨_,_,_,hy2,rfl,rfl⟩,?_⟩
 obtain⟨⟨y3A,y3D,y3B,y3C⟩,hy3,h⟩:=zAc h;refine⟨_,⟨_,_,_,hy3,rfl,rfl⟩,?_⟩
 refine yAh [] [19] rfl ?_;obtain⟨⟨y4A,y4D,y4B,y4C⟩,hy4,h⟩:=zAc h;refine⟨_,⟨_,_,_,hy4,rfl,rfl⟩,?_⟩
 intro r5 hr5;obtain rfl:CV.encs [CV.mk y4A y4D y4B y4C]=r5:=(hr5.trans yAK).symm;obtain⟨⟨y6A,y6D,y6B,y6C⟩,hy6,h⟩:=zAc h;refine⟨_,⟨_,_,hy6,rfl,rfl⟩,?_⟩
 obtain⟨y7,hy7,h⟩:=zAc h;refine⟨_,⟨_,_,_,_,hy7,rfl,rfl⟩,?_⟩
 refine yAh [] [23] rfl ?_;obtain⟨⟨e8A,e8B,e8F,e8E⟩,he8,h⟩:=zAc h;refine And.intro (zAn Nd.encs_eq he8).1 ?_;intro r9 hr9;obtain rfl:[.int .i64 e8A,.str e8B,.int .i64 e8F,.sl 4 (Nd.encs e8E)]=r9:=(hr9.trans (zAn Nd.encs_eq he8).2.1).symm;refine zAa ?_;refine yAW ?_;show Tri ..;obtain⟨l15,hl,h⟩:=zAc h
 refine zAl ⟨ofL [(2,.op 0 0),(3,.op 1 0)],ofH [(0,.box 27 [.s (.str []),.s (.int .i64 0),.s (.str []),.s (.int .i64 0),.nl 4,.nl 5,.s (.int .i64 0)]),(1,.box 27 [.s (.str y2B),.s (.int .i64 e8A),.s (.str e8B),.s (.int .i64 e8F),.s (.sl 4 (Nd.encs e8E)),.orow 2,.s (.int .i64 y3D)]),(2,.row 60 5 ((List.map zAk) l15))],3⟩ ?_ (fun σ' hle=>?_)
 ·refine zAi (zAt (X:=Nat×Int×(List zRc)) (fun y=>match y with | (k,x13,l14)=>⟨ofL [(1,.s (.pt [.int .i64 a1A,.int .i64 a1D,.str a1B,.sl 4 (CV.encs a1C)])),(2,.op 0 0),(3,.op 1 0),(5,.s (.int .i64 x13))],ofH [(0,.box 27 [.s (.str []),.s (.int .i64 0),.s (.str []),.s (.int .i64 0),.nl 4,.nl 5,.s (.int .i64 0)]),(1,.box 27 [.s (.str y2B),.s (.int .i64 e8A),.s (.str e8B),.s (.int .i64 e8F),.s (.sl 4 (Nd.encs e8E)),.orow 2,.s (.int .i64 y3D)]),(2,.row 60 5 ((List.map zAk) l14))],3⟩) (fun y=>zBQ n a1A a1D a1B a1C y.1 y.2.1 y.2.2=some l15) (fun y=>y.1) (n,0,[]) hl ?_ ?_)
  ·exact(Le.trans (Le.trans (Le.rnm [(0,0),(1,1)] [(1,.s (.pt [.int .i64 a1A,.int .i64 a1D,.str a1B,.sl 4 (CV.encs a1C)])),(2,.op 0 0),(3,.op 1 0),(5,.s (.int .i64 0))] [(0,.box 27 [.s (.str []),.s (.int .i64 0),.s (.str []),.s (.int .i64 0),.nl 4,.nl 5,.s (.int .i64 0)]),(1,.box 27 [.s (.str y2B),.s (.int .i64 e8A),.s (.str e8B),.s (.int .i64 e8F),.s (.sl 4 (Nd.encs e8E)),.nl 5,.s (.int .i64 y3D)])] 2 ⟨rfl,rfl,rfl,rfl,trivial⟩ ⟨rfl,⟨_,rfl,rfl⟩,rfl,⟨_,rfl,rfl⟩,trivial⟩) (Le.takeNil 1 5 60 rfl rfl (by decide))) (Le.rnm [(0,0),(1,1),(2,2)] _ _ _ ⟨rfl,rfl,rfl,rfl,trivial⟩ ⟨rfl,⟨_,rfl,rfl⟩,rfl,⟨_,rfl,rfl⟩,rfl,⟨_,rfl,congrArg (Ob.row 60 5) zFE⟩,trivial⟩))
  ·rintro⟨k,x13,l14⟩ h;cases k with
   | zero=>cases h
   | succ k =>
    replace h:zBQ n a1A a1D a1B a1C (k+1) x13 l14=some l15:=h;rw[zBQ]at h;refine zAa ?_;refine yAh [] [30] rfl ?_;obtain⟨⟨y16A,y16D,y16B,y16C⟩,hy16,h⟩:=zAc h;refine⟨_,⟨_,_,_,hy16,rfl,rfl⟩,?_⟩
    intro n17 hn17;obtain rfl:(y16C.length:Int)=n17:=(hn17.trans (congrArg (fun m:Nat=>(m:Int)) (rlen CV.encs_eq y16C))).symm;refine zAf rfl h (fun hb h=>?_) (fun hb h=>?_)
    ·refine zAe ?_;refine zAa ?_;refine zAi ?_;refine yAh [6] [38] rfl ?_;obtain⟨⟨y18A,y18D,y18B,y18C⟩,hy18,h⟩:=zAc h;refine⟨_,⟨_,_,_,hy18,rfl,rfl⟩,?_⟩
     obtain⟨⟨e19A,e19D,e19B,e19C⟩,he19,h⟩:=zAc h;refine And.intro (zAn CV.encs_eq he19).1 ?_;intro r20 hr20;obtain rfl:[.int .i64 e19A,.int .i64 e19D,.str e19B,.sl 4 (CV.encs e19C)]=r20:=(hr20.trans (zAn CV.encs_eq he19).2.1).symm;refine zAh (Le.giveBox 3 [.int .i64 e19A,.int .i64 e19D,.str e19B,.sl 4 (CV.encs e19C)] rfl rfl) ?_;refine yAh [7] [] rfl ?_;refine zAa ?_;refine yAW ?_;show Tri ..;obtain⟨l31,hl,h⟩:=zAc h
     refine zAl ⟨ofL [(1,.s (.pt [.int .i64 a1A,.int .i64 a1D,.str a1B,.sl 4 (CV.encs a1C)])),(2,.op 0 0),(3,.op 1 0),(5,.s (.int .i64 x13)),(6,.s (.pt [.int .i64 e19A,.int .i64 e19D,.str e19B,.sl 4 (CV.encs e19C)])),(7,.op 3 0)],ofH [(0,.box 27 [.s (.str []),.s (.int .i64 0),.s (.str []),.s (.int .i64 0),.nl 4,.nl 5,.s (.int .i64 0)]),(1,.box 27 [.s (.str y2B),.s (.int .i64 e8A),.s (.str e8B),.s (.int .i64 e8F),.s (.sl 4 (Nd.encs e8E)),.orow 2,.s (.int .i64 y3D)]),(2,.row 60 5 ((List.map zAk) l14)),(3,.box 60 [.orow 4,.nl 1,.nl 1,.nl 1,.nl 1]),(4,.row 63 8 ((List.map zAo) l31))],5⟩ ?_ (fun σ' hle=>?_)
     ·refine zAi (zAt (X:=Nat×Int×(List zO8)) (fun y=>match y with | (k,x29,l30)=>⟨ofL [(1,.s (.pt [.int .i64 a1A,.int .i64 a1D,.str a1B,.sl 4 (CV.encs a1C)])),(2,.op 0 0),(3,.op 1 0),(5,.s (.int .i64 x13)),(6,.s (.pt [.int .i64 e19A,.int .i64 e19D,.str e19B,.sl 4 (CV.encs e19C)])),(7,.op 3 0),(8,.s (.int .i64 x29))],ofH [(0,.box 27 [.s (.str []),.s (.int .i64 0),.s (.str []),.s (.int .i64 0),.nl 4,.nl 5,.s (.int .i64 0)]),(1,.box 27 [.s (.str y2B),.s (.int .i64 e8A),.s (.str e8B),.s (.int .i64 e8F),.s (.sl 4 (Nd.encs e8E)),.orow 2,.s (.int .i64 y3D)]),(2,.row 60 5 ((List.map zAk) l14)),(3,.box 60 [.orow 4,.nl 1,.nl 1,.nl 1,.nl 1]),(4,.row 63 8 ((List.map zAo) l30))],5⟩) (fun y=>zBR n e19A e19D e19B e19C y.1 y.2.1 y.2.2=some l31) (fun y=>y.1) (n,0,[]) hl ?_ ?_)
      ·exact(Le.trans (Le.trans (Le.rnm [(0,0),(1,1),(2,2),(4,3)] [(1,.s (.pt [.int .i64 a1A,.int .i64 a1D,.str a1B,.sl 4 (CV.encs a1C)])),(2,.op 0 0),(3,.op 1 0),(5,.s (.int .i64 x13)),(6,.s (.pt [.int .i64 e19A,.int .i64 e19D,.str e19B,.sl 4 (CV.encs e19C)])),(7,.op 3 0),(8,.s (.int .i64 0))] [(0,.box 27 [.s (.str []),.s (.int .i64 0),.s (.str []),.s (.int .i64 0),.nl 4,.nl 5,.s (.int .i64 0)]),(1,.box 27 [.s (.str y2B),.s (.int .i64 e8A),.s (.str e8B),.s (.int .i64 e8F),.s (.sl 4 (Nd.encs e8E)),.orow 2,.s (.int .i64 y3D)]),(2,.row 60 5 ((List.map zAk) l14)),(3,.box 60 [.nl 8,.nl 1,.nl 1,.nl 1,.nl 1])] 4 ⟨rfl,rfl,rfl,rfl,rfl,rfl,rfl,trivial⟩ ⟨rfl,⟨_,rfl,rfl⟩,rfl,⟨_,rfl,rfl⟩,rfl,⟨_,rfl,rfl⟩,rfl,⟨_,rfl,rfl⟩,trivial⟩) (Le.takeNil 3 0 63 rfl rfl (by decide))) (Le.rnm [(0,0),(1,1),(2,2),(3,3),(4,4)] _ _ _ ⟨rfl,rfl,rfl,rfl,rfl,rfl,rfl,trivial⟩ ⟨rfl,⟨_,rfl,rfl⟩,rfl,⟨_,rfl,rfl⟩,rfl,⟨_,rfl,rfl⟩,rfl,⟨_,rfl,rfl⟩,rfl,⟨_,rfl,congrArg (Ob.row 63 8) zFE⟩,trivial⟩))
      ·rintro⟨k,x29,l30⟩ h;cases k with
       | zero=>cases h
       | succ k =>
        replace h:zBR n e19A e19D e19B e19C (k+1) x29 l30=some l31:=h;rw[zBR]at h;refine zAa ?_;refine yAh [] [44] rfl ?_;obtain⟨⟨y32A,y32D,y32B,y32C⟩,hy32,h⟩:=zAc h;refine⟨_,⟨_,_,_,hy32,rfl,rfl⟩,?_⟩
        intro n33 hn33;obtain rfl:(y32C.length:Int)=n33:=(hn33.trans (congrArg (fun m:Nat=>(m:Int)) (rlen CV.encs_eq y32C))).symm;refine zAf rfl h (fun hb h=>?_) (fun hb h=>?_)
        ·refine zAe ?_;refine zAa ?_;refine zAi ?_;refine yAh [9] [52] rfl ?_;obtain⟨⟨y34A,y34D,y34B,y34C⟩,hy34,h⟩:=zAc h;refine⟨_,⟨_,_,_,hy34,rfl,rfl⟩,?_⟩
         obtain⟨⟨e35A,e35D,e35B,e35C⟩,he35,h⟩:=zAc h;refine And.intro (zAn CV.encs_eq he35).1 ?_;intro r36 hr36;obtain rfl:[.int .i64 e35A,.int .i64 e35D,.str e35B,.sl 4 (CV.encs e35C)]=r36:=(hr36.trans (zAn CV.encs_eq he35).2.1).symm;refine zAh (Le.giveBox 5 [.int .i64 e35A,.int .i64 e35D,.str e35B,.sl 4 (CV.encs e35C)] rfl rfl) ?_;refine zAK [82] [81] [1,28,30] rfl (by decide +kernel) ?_;obtain⟨⟨y37A,y37D,y37B,y37C⟩,hy37,h⟩:=zAc h;refine⟨_,⟨_,_,_,hy37,rfl,rfl⟩,?_⟩
         obtain⟨⟨y38A,y38D,y38B,y38C⟩,hy38,h⟩:=zAc h;refine⟨_,⟨_,_,_,hy38,rfl,rfl⟩,?_⟩
         obtain⟨y39,hy39,h⟩:=zAc h;refine⟨_,⟨_,_,_,hy39,rfl,rfl⟩,?_⟩
         obtain⟨⟨y40A,y40D,y40B,y40C⟩,hy40,h⟩:=zAc h;refine⟨_,⟨_,_,_,hy40,rfl,rfl⟩,?_⟩
         obtain⟨⟨y41A,y41D,y41B,y41C⟩,hy41,h⟩:=zAc h;refine⟨_,⟨_,_,_,hy41,rfl,rfl⟩,?_⟩
         obtain⟨⟨y42A,y42D,y42B,y42C⟩,hy42,h⟩:=zAc h;refine⟨_,⟨_,_,_,hy42,rfl,rfl⟩,?_⟩
         obtain⟨y43,hy43,h⟩:=zAc h;refine⟨_,⟨_,_,_,_,hy43,rfl,rfl⟩,?_⟩
         obtain⟨⟨y44A,y44D,y44B,y44C⟩,hy44,h⟩:=zAc h;refine⟨_,⟨_,_,_,hy44,rfl,rfl⟩,?_⟩
         obtain⟨⟨y45A,y45D,y45B,y45C⟩,hy45,h⟩:=zAc h;refine⟨_,⟨_,_,_,hy45,rfl,rfl⟩,?_⟩
         obtain⟨⟨y46A,y46D,y46B,y46C⟩,hy46,h⟩:=zAc h;refine⟨_,⟨_,_,_,hy46,rfl,rfl⟩,?_⟩
         intro r47 hr47;obtain rfl:(List.map zAo) [(y37D,y39,y40D,y41D,y43,y44D,y45B,y46B)]=r47:=(hr47.trans zFE).symm;obtain⟨hq,h⟩:=zAw h
         refine And.intro (show(((List.map zAo) l30).length+((List.map zAo) [(y37D,y39,y40D,y41D,y43,y44D,y45B,y46B)]).length) * 112<=140737488355328/\((List.map zAo) l30).length+((List.map zAo) [(y37D,y39,y40D,y41D,y43,y44D,y45B,y46B)]).length<=9223372036854775807 from by simp only[List.length_append,List.length_cons,List.length_nil,List.length_map,rlen (fun _=>rfl)]at hq ⊢; omega) ?_;show Tri ..
         refine zAh (Le.rnm [(0,0),(1,1),(2,2),(3,3),(6,4)] [(1,.s (.pt [.int .i64 a1A,.int .i64 a1D,.str a1B,.sl 4 (CV.encs a1C)])),(2,.op 0 0),(3,.op 1 0),(5,.s (.int .i64 x13)),(6,.s (.pt [.int .i64 e19A,.int .i64 e19D,.str e19B,.sl 4 (CV.encs e19C)])),(7,.op 3 0),(8,.s (.int .i64 x29))] [(0,.box 27 [.s (.str []),.s (.int .i64 0),.s (.str []),.s (.int .i64 0),.nl 4,.nl 5,.s (.int .i64 0)]),(1,.box 27 [.s (.str y2B),.s (.int .i64 e8A),.s (.str e8B),.s (.int .i64 e8F),.s (.sl 4 (Nd.encs e8E)),.orow 2,.s (.int .i64 y3D)]),(2,.row 60 5 ((List.map zAk) l14)),(3,.box 60 [.orow 4,.nl 1,.nl 1,.nl 1,.nl 1]),(4,.row 63 8 ((List.map zAo) (l30++[(y37D,y39,y40D,y41D,y43,y44D,y45B,y46B)])))] 5 ⟨rfl,rfl,rfl,rfl,rfl,rfl,rfl,trivial⟩ ⟨rfl,⟨_,rfl,rfl⟩,rfl,⟨_,rfl,rfl⟩,rfl,⟨_,rfl,rfl⟩,rfl,⟨_,rfl,rfl⟩,rfl,⟨_,rfl,congrArg (Ob.row 63 8) zFE⟩,trivial⟩) ?_
         refine yAV ?_;refine⟨(k,IntKind.i64.wrap (x29+1),l30++[(y37D,y39,y40D,y41D,y43,y44D,y45B,y46B)]),h,(Le.rnm [(0,0),(1,1),(2,2),(3,3),(4,4)] _ _ _ ⟨rfl,rfl,rfl,rfl,rfl,rfl,rfl,trivial⟩ ⟨rfl,⟨_,rfl,rfl⟩,rfl,⟨_,rfl,rfl⟩,rfl,⟨_,rfl,rfl⟩,rfl,⟨_,rfl,rfl⟩,rfl,⟨_,rfl,rfl⟩,trivial⟩),Nat.lt_succ_self k⟩
        ·refine zAy ?_;cases h;exact(Le.rnm [(0,0),(1,1),(2,2),(3,3),(4,4)] _ _ _ ⟨rfl,rfl,rfl,rfl,rfl,rfl,trivial⟩ ⟨rfl,⟨_,rfl,rfl⟩,rfl,⟨_,rfl,rfl⟩,rfl,⟨_,rfl,rfl⟩,rfl,⟨_,rfl,rfl⟩,rfl,⟨_,rfl,rfl⟩,trivial⟩)
     ·refine zAh hle ?_;refine zAa ?_;refine zAK [] [] [10] rfl (by decide +kernel) ?_;obtain⟨⟨y48A,y48D,y48B,y48C⟩,hy48,h⟩:=zAc h;refine⟨_,⟨_,_,_,hy48,rfl,rfl⟩,?_⟩
      obtain⟨⟨y49A,y49D,y49B,y49C⟩,hy49,h⟩:=zAc h;refine⟨_,⟨_,_,_,hy49,rfl,rfl⟩,?_⟩
      obtain⟨y50,hy50,h⟩:=zAc h;refine⟨_,⟨_,_,_,hy50,rfl,rfl⟩,?_⟩
      obtain⟨⟨y51A,y51D,y51B,y51C⟩,hy51,h⟩:=zAc h;refine⟨_,⟨_,_,_,hy51,rfl,rfl⟩,?_⟩
      obtain⟨⟨y52A,y52D,y52B,y52C⟩,hy52,h⟩:=zAc h;refine⟨_,⟨_,_,_,hy52,rfl,rfl⟩,?_⟩
      obtain⟨y53,hy53,h⟩:=zAc h;refine⟨_,⟨_,_,_,hy53,rfl,rfl⟩,?_⟩
      refine zAa ?_;refine zAK [] [] [10] rfl (by decide +kernel) ?_;obtain⟨⟨y54A,y54D,y54B,y54C⟩,hy54,h⟩:=zAc h;refine⟨_,⟨_,_,_,hy54,rfl,rfl⟩,?_⟩
      obtain⟨⟨y55A,y55D,y55B,y55C⟩,hy55,h⟩:=zAc h;refine⟨_,⟨_,_,_,hy55,rfl,rfl⟩,?_⟩
      obtain⟨y56,hy56,h⟩:=zAc h;refine⟨_,⟨_,_,_,hy56,rfl,rfl⟩,?_⟩
      obtain⟨⟨y57A,y57D,y57B,y57C⟩,hy57,h⟩:=zAc h;refine⟨_,⟨_,_,_,hy57,rfl,rfl⟩,?_⟩
      obtain⟨⟨y58A,y58D,y58B,y58C⟩,hy58,h⟩:=zAc h;refine⟨_,⟨_,_,_,hy58,rfl,rfl⟩,?_⟩
      obtain⟨y59,hy59,h⟩:=zAc h;refine⟨_,⟨_,_,_,hy59,rfl,rfl⟩,?_⟩
      show Tri ..
      refine zAh (Le.trans (Le.rnm [(0,0),(1,1),(2,2),(3,3),(4,4)] [(1,.s (.pt [.int .i64 a1A,.int .i64 a1D,.str a1B,.sl 4 (CV.encs a1C)])),(2,.op 0 0),(3,.op 1 0),(5,.s (.int .i64 x13)),(7,.op 3 0)] [(0,.box 27 [.s (.str []),.s (.int .i64 0),.s (.str []),.s (.int .i64 0),.nl 4,.nl 5,.s (.int .i64 0)]),(1,.box 27 [.s (.str y2B),.s (.int .i64 e8A),.s (.str e8B),.s (.int .i64 e8F),.s (.sl 4 (Nd.encs e8E)),.orow 2,.s (.int .i64 y3D)]),(2,.row 60 5 ((List.map zAk) l14)),(3,.box 60 [.orow 4,.s (.sl 1 ((List.map (irow .i64)) y50)),.s (.sl 1 ((List.map (irow .i64)) y53)),.s (.sl 1 ((List.map (irow .i64)) y56)),.s (.sl 1 ((List.map (irow .i64)) y59))]),(4,.row 63 8 ((List.map zAo) l31))] 5 ⟨rfl,rfl,rfl,rfl,rfl,trivial⟩ ⟨rfl,⟨_,rfl,rfl⟩,rfl,⟨_,rfl,rfl⟩,rfl,⟨_,rfl,rfl⟩,rfl,⟨_,rfl,rfl⟩,rfl,⟨_,rfl,rfl⟩,trivial⟩) (Le.giveRow 4 rfl)) ?_
      refine zAh (Le.trans (Le.rnm [(0,0),(1,1),(2,2),(3,3)] [(1,.s (.pt [.int .i64 a1A,.int .i64 a1D,.str a1B,.sl 4 (CV.encs a1C)])),(2,.op 0 0),(3,.op 1 0),(5,.s (.int .i64 x13)),(7,.op 3 0)] [(0,.box 27 [.s (.str []),.s (.int .i64 0),.s (.str []),.s (.int .i64 0),.nl 4,.nl 5,.s (.int .i64 0)]),(1,.box 27 [.s (.str y2B),.s (.int .i64 e8A),.s (.str e8B),.s (.int .i64 e8F),.s (.sl 4 (Nd.encs e8E)),.orow 2,.s (.int .i64 y3D)]),(2,.row 60 5 ((List.map zAk) l14)),(3,.box 60 [.s (.sl 8 ((List.map zAo) l31)),.s (.sl 1 ((List.map (irow .i64)) y50)),.s (.sl 1 ((List.map (irow .i64)) y53)),.s (.sl 1 ((List.map (irow .i64)) y56)),.s (.sl 1 ((List.map (irow .i64)) y59))])] 4 ⟨rfl,rfl,rfl,rfl,rfl,trivial⟩ ⟨rfl,⟨_,rfl,rfl⟩,rfl,⟨_,rfl,rfl⟩,rfl,⟨_,rfl,rfl⟩,rfl,⟨_,rfl,rfl⟩,trivial⟩) (Le.giveBox 3 [.sl 8 ((List.map zAo) l31),.sl 1 ((List.map (irow .i64)) y50),.sl 1 ((List.map (irow .i64)) y53),.sl 1 ((List.map (irow .i64)) y56),.sl 1 ((List.map (irow .i64)) y59)] rfl rfl)) ?_
      refine zAb [108] [107] rfl ?_;intro r60 hr60;obtain rfl:(List.map zAk) [(l31,(y50,y53),(y56,y59))]=r60:=(hr60.trans zFE).symm;obtain⟨hq,h⟩:=zAw h
      refine And.intro (show(((List.map zAk) l14).length+((List.map zAk) [(l31,(y50,y53),(y56,y59))]).length) * 120<=140737488355328/\((List.map zAk) l14).length+((List.map zAk) [(l31,(y50,y53),(y56,y59))]).length<=9223372036854775807 from by simp only[List.length_append,List.length_cons,List.length_nil,List.length_map,rlen (fun _=>rfl)]at hq ⊢; omega) ?_;show Tri ..
      refine zAh (Le.rnm [(0,0),(1,1),(4,2)] [(1,.s (.pt [.int .i64 a1A,.int .i64 a1D,.str a1B,.sl 4 (CV.encs a1C)])),(2,.op 0 0),(3,.op 1 0),(5,.s (.int .i64 x13))] [(0,.box 27 [.s (.str []),.s (.int .i64 0),.s (.str []),.s (.int .i64 0),.nl 4,.nl 5,.s (.int .i64 0)]),(1,.box 27 [.s (.str y2B),.s (.int .i64 e8A),.s (.str e8B),.s (.int .i64 e8F),.s (.sl 4 (Nd.encs e8E)),.orow 2,.s (.int .i64 y3D)]),(2,.row 60 5 ((List.map zAk) (l14++[(l31,(y50,y53),(y56,y59))])))] 3 ⟨rfl,rfl,rfl,rfl,trivial⟩ ⟨rfl,⟨_,rfl,rfl⟩,rfl,⟨_,rfl,rfl⟩,rfl,⟨_,rfl,congrArg (Ob.row 60 5) zFE⟩,trivial⟩) ?_
      refine yAV ?_;refine⟨(k,IntKind.i64.wrap (x13+1),l14++[(l31,(y50,y53),(y56,y59))]),h,(Le.rnm [(0,0),(1,1),(2,2)] _ _ _ ⟨rfl,rfl,rfl,rfl,trivial⟩ ⟨rfl,⟨_,rfl,rfl⟩,rfl,⟨_,rfl,rfl⟩,rfl,⟨_,rfl,rfl⟩,trivial⟩),Nat.lt_succ_self k⟩
    ·refine zAy ?_;cases h;exact(Le.rnm [(0,0),(1,1),(2,2)] _ _ _ ⟨rfl,rfl,trivial⟩ ⟨rfl,⟨_,rfl,rfl⟩,rfl,⟨_,rfl,rfl⟩,rfl,⟨_,rfl,rfl⟩,trivial⟩)
 ·refine zAh hle ?_;refine yAW ?_;refine zAd ?_;have hy:=osi h;subst hy;unfold zDR;exact⟨_,(Le.trans (Le.rnm [(0,0),(2,1)] [(2,.op 0 0)] [(0,.box 27 [.s (.str y2B),.s (.int .i64 e8A),.s (.str e8B),.s (.int .i64 e8F),.s (.sl 4 (Nd.encs e8E)),.orow 1,.s (.int .i64 y3D)]),(1,.row 60 5 ((List.map zAk) l15))] 2 ⟨rfl,trivial⟩ ⟨rfl,⟨_,rfl,rfl⟩,rfl,⟨_,rfl,rfl⟩,trivial⟩) (Le.giveRow 1 rfl)),rfl,rfl⟩
def zSV (xs:List AV) (r:Ret):Prop:=∃ (a0:Int) (y0:CV),zBz a0=some y0/\xs=[.s (.int .i64 a0)]/\r = .val (.agg ((CV.enc y0).map .s))
def zF8:zAr:=zAq fun xs r=>zSV xs r
theorem zGI:PSound Tryz.prog 70 zF8:=by
 have gok:=@gok0 Tryz.prog;refine zAs tokW Tryz.call70 Tryz.func70 rfl (fun xs r h=>by obtain⟨_,_,_,rfl,_⟩:=h; show 1<=5; decide) 5 rfl ?_;rintro xs r w0 G0 ⟨n1,y0,h,rfl,rfl⟩ _;rw[zBz]at h;refine yAh [2] [] rfl ?_;refine yAW ?_;refine zAd ?_;have hy:=osi h;subst hy;exact fin0 rfl rfl
def zRs (n:Nat) (xs:List AV) (r:Ret):Prop:=∃ (a0:List Int) (y0:CV),zDL n a0=some y0/\xs=[.s (.sl 1 ((List.map (irow .i64)) a0))]/\r = .val (.agg ((CV.enc y0).map .s))
def zII:zAr:=zAq fun xs r=>∃ n,zRs n xs r
theorem zFL {α:Type}{a b:α} (h:a=b:=by simp[List.map_append,List.map_take,List.map_drop,irow,brow,zEa,List.map_cons,List.map_nil,zDr,CV.encs_eq,CV.enc,Nd.encs_eq,Nd.enc,zBf,zAR,zBT,zAP,zAI,zAo,zAG,zA9,zAk,zAQ,zAp,zAH]):a=b :=
 h
theorem zKS:PSound Tryz.prog 106 zII:=by
 have gok:∀ f s,look? f [(70,zF8),(67,zFQ)]=some s->PSound Tryz.prog f s:=zAm (by
  simp only[List.forall_mem_cons]
  exact⟨zGI,zFZ,by simp⟩)
 refine zAs tokW Tryz.call106 Tryz.func106 rfl (fun xs r h=>by obtain⟨n,_,_,_,rfl,_⟩:=h; show 1<=21; decide) 21 rfl ?_;rintro xs r w0 G0 ⟨n,l1,y0,h,rfl,rfl⟩ _;rw[zDL]at h;refine yAh [2] [] rfl ?_;refine yAh [3] [] rfl ?_;show Tri ..
 refine zAh (Le.rnm [(0,0),(1,1)] [(0,.s (.sl 1 ((List.map (irow .i64)) l1))),(2,.op 0 0),(3,.orow 1)] [(0,.box 75 [.s (.int .i64 0),.s (.int .i64 0),.s (.str []),.nl 4]),(1,.row 75 4 (CV.encs []))] 2 ⟨rfl,rfl,rfl,trivial⟩ ⟨rfl,⟨_,rfl,rfl⟩,rfl,⟨_,rfl,congrArg (Ob.row 75 4) zFL⟩,trivial⟩) ?_
 refine zAa ?_;refine yAW ?_;show Tri ..;obtain⟨l6,hl,h⟩:=zAc h;refine zAl ⟨ofL [(2,.op 0 0),(3,.orow 1)],ofH [(0,.box 75 [.s (.int .i64 0),.s (.int .i64 0),.s (.str []),.nl 4]),(1,.row 75 4 (CV.encs l6))],2⟩ ?_ (fun σ' hle=>?_)
 ·refine zAi (zAt (X:=Nat×Int×(List CV)) (fun y=>match y with | (k,i4,l5)=>⟨ofL [(0,.s (.sl 1 ((List.map (irow .i64)) l1))),(2,.op 0 0),(3,.orow 1),(4,.s (.int .i64 i4))],ofH [(0,.box 75 [.s (.int .i64 0),.s (.int .i64 0),.s (.str []),.nl 4]),(1,.row 75 4 (CV.encs l5))],2⟩) (fun y=>zBY l1 y.1 y.2.1 y.2.2=some l6) (fun y=>y.1) (n,0,[]) hl ?_ ?_)
  ·exact(Le.rnm [(0,0),(1,1)] _ _ _ ⟨rfl,rfl,rfl,rfl,trivial⟩ ⟨rfl,⟨_,rfl,rfl⟩,rfl,⟨_,rfl,rfl⟩,trivial⟩)
  ·rintro⟨k,i4,l5⟩ h;cases k with
   | zero=>cases h
   | succ k =>
    replace h:zBY l1 (k+1) i4 l5=some l6:=h;rw[zBY]at h;refine zAa ?_;refine yAh [] [7] rfl ?_;intro n7 hn7;obtain rfl:(l1.length:Int)=n7:=(hn7.trans (congrArg (fun m:Nat=>(m:Int)) (rlen (fun _=>rfl) l1))).symm;refine zAf rfl h (fun hb h=>?_) (fun hb h=>?_)
    ·refine zAe ?_;refine zAa ?_;refine zAi ?_;refine zAb [18] [14,17] rfl ?_;obtain⟨e8,he8,h⟩:=zAc h;refine And.intro (zAn (fun _=>rfl) he8).1 ?_;intro r9 hr9;obtain rfl:[.int .i64 e8]=r9:=(hr9.trans (zAn (fun _=>rfl) he8).2.1).symm;obtain⟨⟨y10A,y10D,y10B,y10C⟩,hy10,h⟩:=zAc h;refine⟨_,⟨_,_,hy10,rfl,rfl⟩,?_⟩
     intro r11 hr11;obtain rfl:CV.encs [CV.mk y10A y10D y10B y10C]=r11:=(hr11.trans zFL).symm;obtain⟨hq,h⟩:=zAw h
     refine And.intro (show((CV.encs l5).length+(CV.encs [CV.mk y10A y10D y10B y10C]).length) * 56<=140737488355328/\(CV.encs l5).length+(CV.encs [CV.mk y10A y10D y10B y10C]).length<=9223372036854775807 from by simp only[List.length_append,List.length_cons,List.length_nil,List.length_map,rlen CV.encs_eq]at hq ⊢; omega) ?_;show Tri ..
     refine zAh (Le.rnm [(0,0),(2,1)] [(0,.s (.sl 1 ((List.map (irow .i64)) l1))),(2,.op 0 0),(3,.orow 1),(4,.s (.int .i64 i4))] [(0,.box 75 [.s (.int .i64 0),.s (.int .i64 0),.s (.str []),.nl 4]),(1,.row 75 4 (CV.encs (l5++[CV.mk y10A y10D y10B y10C])))] 2 ⟨rfl,rfl,rfl,rfl,trivial⟩ ⟨rfl,⟨_,rfl,rfl⟩,rfl,⟨_,rfl,congrArg (Ob.row 75 4) zFL⟩,trivial⟩) ?_
     refine yAV ?_;refine⟨(k,IntKind.i64.wrap (i4+1),l5++[CV.mk y10A y10D y10B y10C]),h,(Le.rnm [(0,0),(1,1)] _ _ _ ⟨rfl,rfl,rfl,rfl,trivial⟩ ⟨rfl,⟨_,rfl,rfl⟩,rfl,⟨_,rfl,rfl⟩,trivial⟩),Nat.lt_succ_self k⟩
    ·refine zAy ?_;cases h;exact(Le.rnm [(0,0),(1,1)] _ _ _ ⟨rfl,rfl,trivial⟩ ⟨rfl,⟨_,rfl,rfl⟩,rfl,⟨_,rfl,rfl⟩,trivial⟩)
 ·refine zAh hle ?_;refine yAW ?_;obtain⟨⟨y12A,y12D,y12B,y12C⟩,hy12,h⟩:=zAc h;refine⟨_,⟨_,_,hy12,rfl,rfl⟩,?_⟩
  refine zAd ?_;have hy:=osi h;subst hy;exact fin0 rfl rfl
def zWw (xs:List AV) (r:Ret):Prop:=∃ (a0:List UInt8) (y0:CV),zEI a0=some y0/\xs=[.s (.str a0)]/\r = .val (.agg ((CV.enc y0).map .s))
def zJ4:zAr:=zAq fun xs r=>zWw xs r
theorem zLl:PSound Tryz.prog 68 zJ4:=by
 have gok:=@gok0 Tryz.prog;refine zAs tokW Tryz.call68 Tryz.func68 rfl (fun xs r h=>by obtain⟨_,_,_,rfl,_⟩:=h; show 1<=5; decide) 5 rfl ?_;rintro xs r w0 G0 ⟨s1,y0,h,rfl,rfl⟩ _;rw[zEI]at h;refine yAh [2] [] rfl ?_;refine yAW ?_;refine zAd ?_;have hy:=osi h;subst hy;exact fin0 rfl rfl
def zGL (n:Nat) (xs:List AV) (r:Ret):Prop:=∃ (a0:Nd) (y0:CV),zD5 n a0=some y0/\xs=[.agg ((Nd.enc a0).map .s)]/\r = .val (.agg ((CV.enc y0).map .s))
def zFN (n:Nat) (xs:List AV) (r:Ret):Prop:=∃ (a0:List Nd) (y0:List CV),zFa n a0=some y0/\xs=[.s (.sl 4 (Nd.encs a0))]/\r = .row 75 4 (CV.encs y0)
theorem zSv (n:Nat) (ih_r56_tree:PSound Tryz.prog 69 (zAq (zGL n))) (ih_r56_trees:PSound Tryz.prog 107 (zAq (zFN n))):PSound Tryz.prog 69 (zAq (zGL (n+1))):=by
 have gok:∀ f s,look? f [(70,zF8),(68,zJ4),(107,zAq (zFN n)),(67,zFQ)]=some s->PSound Tryz.prog f s:=zAm (by
  simp only[List.forall_mem_cons]
  exact⟨zGI,zLl,ih_r56_trees,zFZ,by simp⟩)
 refine zAs tokW Tryz.call69 Tryz.func69 rfl (fun xs r h=>by obtain⟨_,_,_,rfl,_⟩:=h; show 1<=20; decide) 20 rfl ?_;rintro xs r w0 G0 ⟨⟨n1A,n1B,n1F,n1E⟩,y0,h,rfl,rfl⟩ _;rw[zD5]at h;refine yAh [2] [] rfl ?_;refine zAa ?_;refine zHP [13] [] [9] [] rfl (by decide +kernel) ?_;obtain⟨⟨y2A,y2D,y2B,y2C⟩,hy2,h⟩:=zAc h;refine⟨_,⟨_,_,hy2,rfl,rfl⟩,?_⟩
 obtain⟨⟨y3A,y3D,y3B,y3C⟩,hy3,h⟩:=zAc h;refine⟨_,⟨_,_,hy3,rfl,rfl⟩,?_⟩
 obtain⟨⟨y4A,y4D,y4B,y4C⟩,hy4,h⟩:=zAc h;refine⟨_,⟨_,_,hy4,rfl,rfl⟩,?_⟩
 show Tri ..
 refine zAh (Le.rnm [(0,0),(1,1)] [(1,.s (.pt [.int .i64 n1A,.str n1B,.int .i64 n1F,.sl 4 (Nd.encs n1E)])),(2,.op 0 0),(3,.orow 1)] [(0,.box 75 [.s (.int .i64 0),.s (.int .i64 0),.s (.str []),.nl 4]),(1,.row 75 4 (CV.encs [CV.mk y2A y2D y2B y2C,CV.mk y3A y3D y3B y3C,CV.mk y4A y4D y4B y4C]))] 2 ⟨rfl,rfl,rfl,trivial⟩ ⟨rfl,⟨_,rfl,rfl⟩,rfl,⟨_,rfl,congrArg (Ob.row 75 4) zFL⟩,trivial⟩) ?_
 refine yAh [18] [] rfl ?_;obtain⟨y5,hy5,h⟩:=zAc h;refine⟨_,⟨_,_,hy5,rfl,rfl⟩,?_⟩
 obtain⟨hq,h⟩:=zAw h;refine And.intro (show((CV.encs [CV.mk y2A y2D y2B y2C,CV.mk y3A y3D y3B y3C,CV.mk y4A y4D y4B y4C]).length+(CV.encs y5).length) * 56<=140737488355328/\(CV.encs [CV.mk y2A y2D y2B y2C,CV.mk y3A y3D y3B y3C,CV.mk y4A y4D y4B y4C]).length+(CV.encs y5).length<=9223372036854775807 from by simp only[List.length_append,List.length_cons,List.length_nil,List.length_map,rlen CV.encs_eq]at hq ⊢; omega) ?_;obtain⟨⟨y6A,y6D,y6B,y6C⟩,hy6,h⟩:=zAc h
 refine⟨_,⟨_,_,hy6,(congrArg (fun r=>[AV.s (.sl 4 r)]) (show(CV.encs [CV.mk y2A y2D y2B y2C,CV.mk y3A y3D y3B y3C,CV.mk y4A y4D y4B y4C])++(CV.encs y5)=CV.encs ([CV.mk y2A y2D y2B y2C,CV.mk y3A y3D y3B y3C,CV.mk y4A y4D y4B y4C]++y5) from zFL)),rfl⟩,?_⟩
 refine zAd ?_;have hy:=osi h;subst hy;exact fin0 rfl rfl
theorem zQn (n:Nat) (ih_r56_tree:PSound Tryz.prog 69 (zAq (zGL n))) (ih_r56_trees:PSound Tryz.prog 107 (zAq (zFN n))):PSound Tryz.prog 107 (zAq (zFN (n+1))):=by
 have gok:∀ f s,look? f [(69,zAq (zGL n))]=some s->PSound Tryz.prog f s:=zAm (by
  simp only[List.forall_mem_cons]
  exact⟨ih_r56_tree,by simp⟩)
 refine zAs tokW Tryz.call107 Tryz.func107 rfl (fun xs r h=>by obtain⟨_,_,_,rfl,_⟩:=h; show 1<=20; decide) 20 rfl ?_;rintro xs r w0 G0 ⟨l1,y0,h,rfl,rfl⟩ _;rw[zFa]at h;refine yAh [2] [] rfl ?_;refine zAh (Le.rnm [] [(0,.s (.sl 4 (Nd.encs l1)))] [] 0 ⟨rfl,trivial⟩ trivial) ?_;refine yAh [3] [] rfl ?_;show Tri ..
 refine zAh (Le.rnm [(0,0)] [(0,.s (.sl 4 (Nd.encs l1))),(3,.orow 0)] [(0,.row 75 4 (CV.encs []))] 1 ⟨rfl,rfl,trivial⟩ ⟨rfl,⟨_,rfl,congrArg (Ob.row 75 4) zFL⟩,trivial⟩) ?_;refine zAa ?_;refine yAW ?_;show Tri ..;obtain⟨l5,hl,h⟩:=zAc h
 refine zAl ⟨ofL [(3,.orow 0)],ofH [(0,.row 75 4 (CV.encs l5))],1⟩ ?_ (fun σ' hle=>?_)
 ·refine zAi (zAt (X:=Nat×Int×(List CV)) (fun y=>match y with | (k,i3,l4)=>⟨ofL [(0,.s (.sl 4 (Nd.encs l1))),(3,.orow 0),(4,.s (.int .i64 i3))],ofH [(0,.row 75 4 (CV.encs l4))],1⟩) (fun y=>zCH (zD5 n) l1 y.1 y.2.1 y.2.2=some l5) (fun y=>y.1) (n,0,[]) hl ?_ ?_)
  ·exact(Le.rnm [(0,0)] _ _ _ ⟨rfl,rfl,rfl,trivial⟩ ⟨rfl,⟨_,rfl,rfl⟩,trivial⟩)
  ·rintro⟨k,i3,l4⟩ h;cases k with
   | zero=>cases h
   | succ k =>
    replace h:zCH (zD5 n) l1 (k+1) i3 l4=some l5:=h;rw[zCH]at h;refine zAa ?_;refine yAh [] [7] rfl ?_;intro n6 hn6;obtain rfl:(l1.length:Int)=n6:=(hn6.trans (congrArg (fun m:Nat=>(m:Int)) (rlen Nd.encs_eq l1))).symm;refine zAf rfl h (fun hb h=>?_) (fun hb h=>?_)
    ·refine zAe ?_;refine zAa ?_;refine zAi ?_;refine zAb [18] [14,17] rfl ?_;obtain⟨⟨e7A,e7B,e7F,e7E⟩,he7,h⟩:=zAc h;refine And.intro (zAn Nd.encs_eq he7).1 ?_;intro r8 hr8;obtain rfl:[.int .i64 e7A,.str e7B,.int .i64 e7F,.sl 4 (Nd.encs e7E)]=r8:=(hr8.trans (zAn Nd.encs_eq he7).2.1).symm;obtain⟨⟨y9A,y9D,y9B,y9C⟩,hy9,h⟩:=zAc h;refine⟨_,⟨_,_,hy9,rfl,rfl⟩,?_⟩
     intro r10 hr10;obtain rfl:CV.encs [CV.mk y9A y9D y9B y9C]=r10:=(hr10.trans zFL).symm;obtain⟨hq,h⟩:=zAw h
     refine And.intro (show((CV.encs l4).length+(CV.encs [CV.mk y9A y9D y9B y9C]).length) * 56<=140737488355328/\(CV.encs l4).length+(CV.encs [CV.mk y9A y9D y9B y9C]).length<=9223372036854775807 from by simp only[List.length_append,List.length_cons,List.length_nil,List.length_map,rlen CV.encs_eq]at hq ⊢; omega) ?_;show Tri ..
     refine zAh (Le.rnm [(1,0)] [(0,.s (.sl 4 (Nd.encs l1))),(3,.orow 0),(4,.s (.int .i64 i3))] [(0,.row 75 4 (CV.encs (l4++[CV.mk y9A y9D y9B y9C])))] 1 ⟨rfl,rfl,rfl,trivial⟩ ⟨rfl,⟨_,rfl,congrArg (Ob.row 75 4) zFL⟩,trivial⟩) ?_;refine yAV ?_
     refine⟨(k,IntKind.i64.wrap (i3+1),l4++[CV.mk y9A y9D y9B y9C]),h,(Le.rnm [(0,0)] _ _ _ ⟨rfl,rfl,rfl,trivial⟩ ⟨rfl,⟨_,rfl,rfl⟩,trivial⟩),Nat.lt_succ_self k⟩
    ·refine zAy ?_;cases h;exact(Le.rnm [(0,0)] _ _ _ ⟨rfl,trivial⟩ ⟨rfl,⟨_,rfl,rfl⟩,trivial⟩)
 ·refine zAh hle ?_;refine yAW ?_;refine zAd ?_;have hy:=osi h;subst hy;unfold zDR;exact⟨_,Le.refl _ _,0,rfl,rfl⟩
theorem zLV:∀ n,PSound Tryz.prog 69 (zAq (zGL n))/\PSound Tryz.prog 107 (zAq (zFN n)):=by
 intro n
 induction n with
 | zero =>
  refine⟨?_,?_⟩
  ·exact zBo Tryz.call69 (fun xs r h=>by obtain⟨_,_,h,_⟩:=h; rw[zD5]at h; cases h)
  ·exact zBo Tryz.call107 (fun xs r h=>by obtain⟨_,_,h,_⟩:=h; rw[zFa]at h; cases h)
 | succ n ih =>
  obtain⟨ih_r56_tree,ih_r56_trees⟩:=ih;exact⟨zSv n ih_r56_tree ih_r56_trees,zQn n ih_r56_tree ih_r56_trees⟩
def zQB:zAr:=zAq fun xs r=>∃ n,zGL n xs r
theorem zVh:PSound Tryz.prog 69 zQB:=zBH (fun n=>(zLV n).1)
def zOq:zAr:=zAq fun xs r=>∃ n,zFN n xs r
theorem zTY:PSound Tryz.prog 107 zOq:=zBH (fun n=>(zLV n).2)
def zUL (n:Nat) (xs:List AV) (r:Ret):Prop:=∃ (a0:zCu) (y0:CV),zFY n a0=some y0/\xs=[.agg ((zA9 a0).map .s)]/\r = .val (.agg ((CV.enc y0).map .s))
def zOp:zAr:=zAq fun xs r=>∃ n,zUL n xs r
theorem zTX:PSound Tryz.prog 108 zOp:=by
 have gok:∀ f s,look? f [(106,zII),(67,zFQ)]=some s->PSound Tryz.prog f s:=zAm (by
  simp only[List.forall_mem_cons]
  exact⟨zKS,zFZ,by simp⟩)
 refine zAs tokW Tryz.call108 Tryz.func108 rfl (fun xs r h=>by obtain⟨n,_,_,_,rfl,_⟩:=h; show 1<=11; decide) 11 rfl ?_;rintro xs r w0 G0 ⟨n,⟨c1Ai,c1Ah⟩,y0,h,rfl,rfl⟩ _;rw[zFY]at h;refine yAh [2] [] rfl ?_;refine zAa ?_;refine zAK [] [9] [8] rfl (by decide +kernel) ?_;obtain⟨⟨y2A,y2D,y2B,y2C⟩,hy2,h⟩:=zAc h;refine⟨_,⟨_,_,_,hy2,rfl,rfl⟩,?_⟩
 obtain⟨⟨y3A,y3D,y3B,y3C⟩,hy3,h⟩:=zAc h;refine⟨_,⟨_,_,_,hy3,rfl,rfl⟩,?_⟩
 intro r4 hr4;obtain rfl:CV.encs [CV.mk y2A y2D y2B y2C,CV.mk y3A y3D y3B y3C]=r4:=(hr4.trans zFL).symm;obtain⟨⟨y5A,y5D,y5B,y5C⟩,hy5,h⟩:=zAc h;refine⟨_,⟨_,_,hy5,rfl,rfl⟩,?_⟩
 refine zAd ?_;have hy:=osi h;subst hy;exact fin0 rfl rfl
def zSW (n:Nat) (xs:List AV) (r:Ret):Prop:=∃ (a0:zRc) (y0:CV),zGm n a0=some y0/\xs=[.agg ((zAk a0).map .s)]/\r = .val (.agg ((CV.enc y0).map .s))
def zNf:zAr:=zAq fun xs r=>∃ n,zSW n xs r
theorem zSa:PSound Tryz.prog 66 zNf:=by
 have gok:∀ f s,look? f [(70,zF8),(106,zII),(107,zOq),(67,zFQ),(68,zJ4),(108,zOp)]=some s->PSound Tryz.prog f s:=zAm (by
  simp only[List.forall_mem_cons]
  exact⟨zGI,zKS,zTY,zFZ,zLl,zTX,by simp⟩)
 refine zAs tokW Tryz.call66 Tryz.func66 rfl (fun xs r h=>by obtain⟨n,_,_,_,rfl,_⟩:=h; show 1<=58; decide) 58 rfl ?_;rintro xs r w0 G0 ⟨n,⟨r1P,⟨r1W,r1X⟩,⟨r1Y,r1Z⟩⟩,y0,h,rfl,rfl⟩ _;rw[zGm]at h;refine yAh [2] [] rfl ?_;refine yAh [3] [] rfl ?_;show Tri ..
 refine zAh (Le.rnm [(0,0),(1,1)] [(1,.s (.pt [.sl 8 ((List.map zAo) r1P),.sl 1 ((List.map (irow .i64)) r1W),.sl 1 ((List.map (irow .i64)) r1X),.sl 1 ((List.map (irow .i64)) r1Y),.sl 1 ((List.map (irow .i64)) r1Z)])),(2,.op 0 0),(3,.orow 1)] [(0,.box 75 [.s (.int .i64 0),.s (.int .i64 0),.s (.str []),.nl 4]),(1,.row 75 4 (CV.encs []))] 2 ⟨rfl,rfl,rfl,trivial⟩ ⟨rfl,⟨_,rfl,rfl⟩,rfl,⟨_,rfl,congrArg (Ob.row 75 4) zFL⟩,trivial⟩) ?_
 refine zAa ?_;refine yAW ?_;show Tri ..;obtain⟨l6,hl,h⟩:=zAc h;refine zAl ⟨ofL [(1,.s (.pt [.sl 8 ((List.map zAo) r1P),.sl 1 ((List.map (irow .i64)) r1W),.sl 1 ((List.map (irow .i64)) r1X),.sl 1 ((List.map (irow .i64)) r1Y),.sl 1 ((List.map (irow .i64)) r1Z)])),(2,.op 0 0),(3,.orow 1)],ofH [(0,.box 75 [.s (.int .i64 0),.s (.int .i64 0),.s (.str []),.nl 4]),(1,.row 75 4 (CV.encs l6))],2⟩ ?_ (fun σ' hle=>?_)
 ·refine zAi (zAt (X:=Nat×Int×(List CV)) (fun y=>match y with | (k,i4,l5)=>⟨ofL [(1,.s (.pt [.sl 8 ((List.map zAo) r1P),.sl 1 ((List.map (irow .i64)) r1W),.sl 1 ((List.map (irow .i64)) r1X),.sl 1 ((List.map (irow .i64)) r1Y),.sl 1 ((List.map (irow .i64)) r1Z)])),(2,.op 0 0),(3,.orow 1),(4,.s (.int .i64 i4))],ofH [(0,.box 75 [.s (.int .i64 0),.s (.int .i64 0),.s (.str []),.nl 4]),(1,.row 75 4 (CV.encs l5))],2⟩) (fun y=>zCk n r1P y.1 y.2.1 y.2.2=some l6) (fun y=>y.1) (n,0,[]) hl ?_ ?_)
  ·exact(Le.rnm [(0,0),(1,1)] _ _ _ ⟨rfl,rfl,rfl,rfl,trivial⟩ ⟨rfl,⟨_,rfl,rfl⟩,rfl,⟨_,rfl,rfl⟩,trivial⟩)
  ·rintro⟨k,i4,l5⟩ h;cases k with
   | zero=>cases h
   | succ k =>
    replace h:zCk n r1P (k+1) i4 l5=some l6:=h;rw[zCk]at h;refine zAa ?_;refine yAh [] [9] rfl ?_;intro n7 hn7;obtain rfl:(r1P.length:Int)=n7:=(hn7.trans (congrArg (fun m:Nat=>(m:Int)) (rlen (fun _=>rfl) r1P))).symm;refine zAf rfl h (fun hb h=>?_) (fun hb h=>?_)
    ·refine zAe ?_;refine zAa ?_;refine zAi ?_;refine yAh [5] [16] rfl ?_;obtain⟨⟨e8A,e8I,e8H,e8L,e8G,e8K,e8M,e8B⟩,he8,h⟩:=zAc h;refine And.intro (zAn (fun _=>rfl) he8).1 ?_;intro r9 hr9;obtain rfl:[.int .i64 e8A,.sl 1 ((List.map (irow .i64)) e8I),.int .i64 e8H,.int .i64 e8L,.sl 4 (Nd.encs e8G),.int .i64 e8K,.str e8M,.str e8B]=r9:=(hr9.trans (zAn (fun _=>rfl) he8).2.1).symm;show Tri ..
     refine zAh (Le.giveBox 2 [.int .i64 e8A,.sl 1 ((List.map (irow .i64)) e8I),.int .i64 e8H,.int .i64 e8L,.sl 4 (Nd.encs e8G),.int .i64 e8K,.str e8M,.str e8B] rfl rfl) ?_;refine zAK [47] [44,46] [29] rfl (by decide +kernel) ?_;obtain⟨⟨y10A,y10D,y10B,y10C⟩,hy10,h⟩:=zAc h;refine⟨_,⟨_,_,hy10,rfl,rfl⟩,?_⟩
     obtain⟨⟨y11A,y11D,y11B,y11C⟩,hy11,h⟩:=zAc h;refine⟨_,⟨_,_,_,hy11,rfl,rfl⟩,?_⟩
     obtain⟨⟨y12A,y12D,y12B,y12C⟩,hy12,h⟩:=zAc h;refine⟨_,⟨_,_,hy12,rfl,rfl⟩,?_⟩
     obtain⟨⟨y13A,y13D,y13B,y13C⟩,hy13,h⟩:=zAc h;refine⟨_,⟨_,_,hy13,rfl,rfl⟩,?_⟩
     obtain⟨y14,hy14,h⟩:=zAc h;refine⟨_,⟨_,_,_,hy14,rfl,rfl⟩,?_⟩
     obtain⟨⟨y15A,y15D,y15B,y15C⟩,hy15,h⟩:=zAc h;refine⟨_,⟨_,_,hy15,rfl,rfl⟩,?_⟩
     obtain⟨⟨y16A,y16D,y16B,y16C⟩,hy16,h⟩:=zAc h;refine⟨_,⟨_,_,hy16,rfl,rfl⟩,?_⟩
     obtain⟨⟨y17A,y17D,y17B,y17C⟩,hy17,h⟩:=zAc h;refine⟨_,⟨_,_,hy17,rfl,rfl⟩,?_⟩
     obtain⟨⟨y18A,y18D,y18B,y18C⟩,hy18,h⟩:=zAc h;refine⟨_,⟨_,_,hy18,rfl,rfl⟩,?_⟩
     intro r19 hr19
     obtain rfl:CV.encs [CV.mk y10A y10D y10B y10C,CV.mk y11A y11D y11B y11C,CV.mk y12A y12D y12B y12C,CV.mk y13A y13D y13B y13C,CV.mk y15A y15D y15B y15C,CV.mk y16A y16D y16B y16C,CV.mk y17A y17D y17B y17C,CV.mk y18A y18D y18B y18C]=r19:=(hr19.trans zFL).symm
     obtain⟨⟨y20A,y20D,y20B,y20C⟩,hy20,h⟩:=zAc h;refine⟨_,⟨_,_,hy20,rfl,rfl⟩,?_⟩
     intro r21 hr21;obtain rfl:CV.encs [CV.mk y20A y20D y20B y20C]=r21:=(hr21.trans zFL).symm;obtain⟨hq,h⟩:=zAw h
     refine And.intro (show((CV.encs l5).length+(CV.encs [CV.mk y20A y20D y20B y20C]).length) * 56<=140737488355328/\(CV.encs l5).length+(CV.encs [CV.mk y20A y20D y20B y20C]).length<=9223372036854775807 from by simp only[List.length_append,List.length_cons,List.length_nil,List.length_map,rlen CV.encs_eq]at hq ⊢; omega) ?_;show Tri ..
     refine zAh (Le.rnm [(0,0),(3,1)] [(1,.s (.pt [.sl 8 ((List.map zAo) r1P),.sl 1 ((List.map (irow .i64)) r1W),.sl 1 ((List.map (irow .i64)) r1X),.sl 1 ((List.map (irow .i64)) r1Y),.sl 1 ((List.map (irow .i64)) r1Z)])),(2,.op 0 0),(3,.orow 1),(4,.s (.int .i64 i4))] [(0,.box 75 [.s (.int .i64 0),.s (.int .i64 0),.s (.str []),.nl 4]),(1,.row 75 4 (CV.encs (l5++[CV.mk y20A y20D y20B y20C])))] 2 ⟨rfl,rfl,rfl,rfl,trivial⟩ ⟨rfl,⟨_,rfl,rfl⟩,rfl,⟨_,rfl,congrArg (Ob.row 75 4) zFL⟩,trivial⟩) ?_
     refine yAV ?_;refine⟨(k,IntKind.i64.wrap (i4+1),l5++[CV.mk y20A y20D y20B y20C]),h,(Le.rnm [(0,0),(1,1)] _ _ _ ⟨rfl,rfl,rfl,rfl,trivial⟩ ⟨rfl,⟨_,rfl,rfl⟩,rfl,⟨_,rfl,rfl⟩,trivial⟩),Nat.lt_succ_self k⟩
    ·refine zAy ?_;cases h;exact(Le.rnm [(0,0),(1,1)] _ _ _ ⟨rfl,rfl,rfl,trivial⟩ ⟨rfl,⟨_,rfl,rfl⟩,rfl,⟨_,rfl,rfl⟩,trivial⟩)
 ·refine zAh hle ?_;refine zAa ?_;refine zAK [] [56] [1,10] rfl (by decide +kernel) ?_;obtain⟨⟨y22A,y22D,y22B,y22C⟩,hy22,h⟩:=zAc h;refine⟨_,⟨_,_,hy22,rfl,rfl⟩,?_⟩
  obtain⟨⟨y23A,y23D,y23B,y23C⟩,hy23,h⟩:=zAc h;refine⟨_,⟨_,_,_,hy23,rfl,rfl⟩,?_⟩
  obtain⟨⟨y24A,y24D,y24B,y24C⟩,hy24,h⟩:=zAc h;refine⟨_,⟨_,_,_,hy24,rfl,rfl⟩,?_⟩
  intro r25 hr25;obtain rfl:CV.encs [CV.mk y22A y22D y22B y22C,CV.mk y23A y23D y23B y23C,CV.mk y24A y24D y24B y24C]=r25:=(hr25.trans zFL).symm;obtain⟨⟨y26A,y26D,y26B,y26C⟩,hy26,h⟩:=zAc h;refine⟨_,⟨_,_,hy26,rfl,rfl⟩,?_⟩
  refine zAd ?_;have hy:=osi h;subst hy;exact fin0 rfl rfl
def zUM (n:Nat) (xs:List AV) (r:Ret):Prop:=∃ (a0:(List UInt8×Nd×List zRc×Int)) (y0:CV),zHo n a0=some y0/\xs=[.agg ((zAH a0).map .s)]/\r = .val (.agg ((CV.enc y0).map .s))
def zOr:zAr:=zAq fun xs r=>∃ n,zUM n xs r
theorem zTZ:PSound Tryz.prog 30 zOr:=by
 have gok:∀ f s,look? f [(66,zNf),(68,zJ4),(69,zQB),(70,zF8),(67,zFQ)]=some s->PSound Tryz.prog f s:=zAm (by
  simp only[List.forall_mem_cons]
  exact⟨zSa,zLl,zVh,zGI,zFZ,by simp⟩)
 refine zAs tokW Tryz.call30 Tryz.func30 rfl (fun xs r h=>by obtain⟨n,_,_,_,rfl,_⟩:=h; show 1<=34; decide) 34 rfl ?_;rintro xs r w0 G0 ⟨n,⟨d1V,⟨d1Q,d1R,d1S,d1T⟩,d1J,d1U⟩,y0,h,rfl,rfl⟩ _;rw[zHo]at h;refine yAh [2] [] rfl ?_;refine yAh [3] [] rfl ?_;show Tri ..
 refine zAh (Le.rnm [(0,0),(1,1)] [(1,.s (.pt [.str d1V,.int .i64 d1Q,.str d1R,.int .i64 d1S,.sl 4 (Nd.encs d1T),.sl 5 ((List.map zAk) d1J),.int .i64 d1U])),(2,.op 0 0),(3,.orow 1)] [(0,.box 75 [.s (.int .i64 0),.s (.int .i64 0),.s (.str []),.nl 4]),(1,.row 75 4 (CV.encs []))] 2 ⟨rfl,rfl,rfl,trivial⟩ ⟨rfl,⟨_,rfl,rfl⟩,rfl,⟨_,rfl,congrArg (Ob.row 75 4) zFL⟩,trivial⟩) ?_
 refine zAa ?_;refine yAW ?_;show Tri ..;obtain⟨l6,hl,h⟩:=zAc h;refine zAl ⟨ofL [(1,.s (.pt [.str d1V,.int .i64 d1Q,.str d1R,.int .i64 d1S,.sl 4 (Nd.encs d1T),.sl 5 ((List.map zAk) d1J),.int .i64 d1U])),(2,.op 0 0),(3,.orow 1)],ofH [(0,.box 75 [.s (.int .i64 0),.s (.int .i64 0),.s (.str []),.nl 4]),(1,.row 75 4 (CV.encs l6))],2⟩ ?_ (fun σ' hle=>?_)
 ·refine zAi (zAt (X:=Nat×Int×(List CV)) (fun y=>match y with | (k,i4,l5)=>⟨ofL [(1,.s (.pt [.str d1V,.int .i64 d1Q,.str d1R,.int .i64 d1S,.sl 4 (Nd.encs d1T),.sl 5 ((List.map zAk) d1J),.int .i64 d1U])),(2,.op 0 0),(3,.orow 1),(4,.s (.int .i64 i4))],ofH [(0,.box 75 [.s (.int .i64 0),.s (.int .i64 0),.s (.str []),.nl 4]),(1,.row 75 4 (CV.encs l5))],2⟩) (fun y=>zCI n d1J y.1 y.2.1 y.2.2=some l6) (fun y=>y.1) (n,0,[]) hl ?_ ?_)
  ·exact(Le.rnm [(0,0),(1,1)] _ _ _ ⟨rfl,rfl,rfl,rfl,trivial⟩ ⟨rfl,⟨_,rfl,rfl⟩,rfl,⟨_,rfl,rfl⟩,trivial⟩)
  ·rintro⟨k,i4,l5⟩ h;cases k with
   | zero=>cases h
   | succ k =>
    replace h:zCI n d1J (k+1) i4 l5=some l6:=h;rw[zCI]at h;refine zAa ?_;refine yAh [] [8] rfl ?_;intro n7 hn7;obtain rfl:(d1J.length:Int)=n7:=(hn7.trans (congrArg (fun m:Nat=>(m:Int)) (rlen (fun _=>rfl) d1J))).symm;refine zAf rfl h (fun hb h=>?_) (fun hb h=>?_)
    ·refine zAe ?_;refine zAa ?_;refine zAi ?_;refine zAb [20] [16,19] rfl ?_;obtain⟨⟨e8P,⟨e8W,e8X⟩,⟨e8Y,e8Z⟩⟩,he8,h⟩:=zAc h;refine And.intro (zAn (fun _=>rfl) he8).1 ?_;intro r9 hr9;obtain rfl:[.sl 8 ((List.map zAo) e8P),.sl 1 ((List.map (irow .i64)) e8W),.sl 1 ((List.map (irow .i64)) e8X),.sl 1 ((List.map (irow .i64)) e8Y),.sl 1 ((List.map (irow .i64)) e8Z)]=r9:=(hr9.trans (zAn (fun _=>rfl) he8).2.1).symm;obtain⟨⟨y10A,y10D,y10B,y10C⟩,hy10,h⟩:=zAc h;refine⟨_,⟨_,_,_,hy10,rfl,rfl⟩,?_⟩
     intro r11 hr11;obtain rfl:CV.encs [CV.mk y10A y10D y10B y10C]=r11:=(hr11.trans zFL).symm;obtain⟨hq,h⟩:=zAw h
     refine And.intro (show((CV.encs l5).length+(CV.encs [CV.mk y10A y10D y10B y10C]).length) * 56<=140737488355328/\(CV.encs l5).length+(CV.encs [CV.mk y10A y10D y10B y10C]).length<=9223372036854775807 from by simp only[List.length_append,List.length_cons,List.length_nil,List.length_map,rlen CV.encs_eq]at hq ⊢; omega) ?_;show Tri ..
     refine zAh (Le.rnm [(0,0),(2,1)] [(1,.s (.pt [.str d1V,.int .i64 d1Q,.str d1R,.int .i64 d1S,.sl 4 (Nd.encs d1T),.sl 5 ((List.map zAk) d1J),.int .i64 d1U])),(2,.op 0 0),(3,.orow 1),(4,.s (.int .i64 i4))] [(0,.box 75 [.s (.int .i64 0),.s (.int .i64 0),.s (.str []),.nl 4]),(1,.row 75 4 (CV.encs (l5++[CV.mk y10A y10D y10B y10C])))] 2 ⟨rfl,rfl,rfl,rfl,trivial⟩ ⟨rfl,⟨_,rfl,rfl⟩,rfl,⟨_,rfl,congrArg (Ob.row 75 4) zFL⟩,trivial⟩) ?_
     refine yAV ?_;refine⟨(k,IntKind.i64.wrap (i4+1),l5++[CV.mk y10A y10D y10B y10C]),h,(Le.rnm [(0,0),(1,1)] _ _ _ ⟨rfl,rfl,rfl,rfl,trivial⟩ ⟨rfl,⟨_,rfl,rfl⟩,rfl,⟨_,rfl,rfl⟩,trivial⟩),Nat.lt_succ_self k⟩
    ·refine zAy ?_;cases h;exact(Le.rnm [(0,0),(1,1)] _ _ _ ⟨rfl,rfl,rfl,trivial⟩ ⟨rfl,⟨_,rfl,rfl⟩,rfl,⟨_,rfl,rfl⟩,trivial⟩)
 ·refine zAh hle ?_;refine zAa ?_;refine zAK [] [32] [10,13] rfl (by decide +kernel) ?_;obtain⟨⟨y12A,y12D,y12B,y12C⟩,hy12,h⟩:=zAc h;refine⟨_,⟨_,_,hy12,rfl,rfl⟩,?_⟩
  obtain⟨⟨y13A,y13D,y13B,y13C⟩,hy13,h⟩:=zAc h;refine⟨_,⟨_,_,_,hy13,rfl,rfl⟩,?_⟩
  obtain⟨⟨y14A,y14D,y14B,y14C⟩,hy14,h⟩:=zAc h;refine⟨_,⟨_,_,hy14,rfl,rfl⟩,?_⟩
  obtain⟨⟨y15A,y15D,y15B,y15C⟩,hy15,h⟩:=zAc h;refine⟨_,⟨_,_,hy15,rfl,rfl⟩,?_⟩
  intro r16 hr16;obtain rfl:CV.encs [CV.mk y12A y12D y12B y12C,CV.mk y13A y13D y13B y13C,CV.mk y14A y14D y14B y14C,CV.mk y15A y15D y15B y15C]=r16:=(hr16.trans zFL).symm;obtain⟨⟨y17A,y17D,y17B,y17C⟩,hy17,h⟩:=zAc h
  refine⟨_,⟨_,_,hy17,rfl,rfl⟩,?_⟩
  refine zAd ?_;have hy:=osi h;subst hy;exact fin0 rfl rfl
def zUF (xs:List AV) (r:Ret):Prop:=∃ (a0:List Nd) (y0:Nd),zE7 a0=some y0/\xs=[.s (.sl 4 (Nd.encs a0))]/\r = .val (.agg ((Nd.enc y0).map .s))
def zIG:zAr:=zAq fun xs r=>zUF xs r
theorem zJR:PSound Tryz.prog 54 zIG:=by
 have gok:=@gok0 Tryz.prog;refine zAs tokW Tryz.call54 Tryz.func54 rfl (fun xs r h=>by obtain⟨_,_,_,rfl,_⟩:=h; show 1<=5; decide) 5 rfl ?_;rintro xs r w0 G0 ⟨l1,y0,h,rfl,rfl⟩ _;rw[zE7]at h;refine yAh [2] [] rfl ?_;refine yAW ?_;refine zAd ?_;have hy:=osi h;subst hy;exact fin0 rfl rfl
def zNC (n:Nat) (xs:List AV) (r:Ret):Prop:=∃ (a0:List Nd) (y0:Bool),zC5 n a0=some y0/\xs=[.s (.sl 4 (Nd.encs a0))]/\r = .val (.s (.bool y0))
def zGo:zAr:=zAq fun xs r=>∃ n,zNC n xs r
theorem zIw:PSound Tryz.prog 155 zGo:=by
 have gok:∀ f s,look? f [(54,zIG),(35,zE4)]=some s->PSound Tryz.prog f s:=zAm (by
  simp only[List.forall_mem_cons]
  exact⟨zJR,zFm,by simp⟩)
 refine zAs tokW Tryz.call155 Tryz.func155 rfl (fun xs r h=>by obtain⟨n,_,_,_,rfl,_⟩:=h; show 1<=6; decide) 6 rfl ?_;rintro xs r w0 G0 ⟨n,l1,y0,h,rfl,rfl⟩ _;rw[zC5]at h;refine yAW ?_;refine yAW ?_;obtain⟨⟨y2A,y2B,y2F,y2E⟩,hy2,h⟩:=zAc h;refine⟨_,⟨_,_,hy2,rfl,rfl⟩,?_⟩
 obtain⟨y3,hy3,h⟩:=zAc h;refine⟨_,⟨_,_,_,hy3,rfl,rfl⟩,?_⟩
 refine zAd ?_;have hy:=osi h;subst hy;exact fin0 rfl rfl
def zPT (n:Nat) (xs:List AV) (r:Ret):Prop:=∃ (a0:List Nd) (a1:Int) (y0:Bool),zEZ n a0 a1=some y0/\xs=[.s (.sl 4 (Nd.encs a0)),.s (.int .i64 a1)]/\r = .val (.s (.bool y0))
def zKG:zAr:=zAq fun xs r=>∃ n,zPT n xs r
theorem zPb:PSound Tryz.prog 156 zKG:=by
 have gok:∀ f s,look? f [(155,zGo)]=some s->PSound Tryz.prog f s:=zAm (by
  simp only[List.forall_mem_cons]
  exact⟨zIw,by simp⟩)
 refine zAs tokW Tryz.call156 Tryz.func156 rfl (fun xs r h=>by obtain⟨n,_,_,_,_,rfl,_⟩:=h; show 2<=37; decide) 37 rfl ?_;rintro xs r w0 G0 ⟨n,l1,slot2,y0,h,rfl,rfl⟩ _;rw[zEZ]at h;refine yAW ?_;refine zAa ?_;obtain⟨x3,hj,h⟩:=zAc h;refine zAl ⟨ofL [(4,.s (.bool x3))],fun _=>none,0⟩ ?_ (fun σ' hle=>?_)
 ·replace h:=hj;refine zAb [] [6,8,12,16,19,22,25,27,31,34] rfl ?_;intro n4 hn4;obtain rfl:(l1.length:Int)=n4:=(hn4.trans (congrArg (fun m:Nat=>(m:Int)) (rlen Nd.encs_eq l1))).symm;intro b hb;cases b with
  | true =>
   replace h:=zAv hb.symm h;obtain⟨y5,hy5,h⟩:=zAc h;refine⟨_,⟨_,_,_,hy5,rfl,rfl⟩,?_⟩
   intro b hb;cases b with
   | true =>
    replace h:=zAv hb.symm h;intro b hb;cases b with
    | true =>
     replace h:=zAv hb.symm h;obtain⟨⟨e6A,e6B,e6F,e6E⟩,he6,h⟩:=zAc h;refine And.intro (zAn Nd.encs_eq he6).1 ?_;intro r7 hr7;obtain rfl:[.int .i64 e6A,.str e6B,.int .i64 e6F,.sl 4 (Nd.encs e6E)]=r7:=(hr7.trans (zAn Nd.encs_eq he6).2.1).symm;intro n8 hn8;obtain rfl:(e6E.length:Int)=n8:=(hn8.trans (congrArg (fun m:Nat=>(m:Int)) (rlen Nd.encs_eq e6E))).symm;intro b hb;cases b with
     | true =>
      replace h:=zAv hb.symm h;obtain⟨⟨e9A,e9B,e9F,e9E⟩,he9,h⟩:=zAc h;refine And.intro (zAn Nd.encs_eq he9).1 ?_;intro r10 hr10;obtain rfl:[.int .i64 e9A,.str e9B,.int .i64 e9F,.sl 4 (Nd.encs e9E)]=r10:=(hr10.trans (zAn Nd.encs_eq he9).2.1).symm;obtain⟨⟨e11A,e11B,e11F,e11E⟩,he11,h⟩:=zAc h;refine And.intro (zAn Nd.encs_eq he11).1 ?_;intro r12 hr12;obtain rfl:[.int .i64 e11A,.str e11B,.int .i64 e11F,.sl 4 (Nd.encs e11E)]=r12:=(hr12.trans (zAn Nd.encs_eq he11).2.1).symm;intro n13 hn13
      obtain rfl:(e11E.length:Int)=n13:=(hn13.trans (congrArg (fun m:Nat=>(m:Int)) (rlen Nd.encs_eq e11E))).symm;cases h;exact(Le.forget _ ⟨rfl,trivial⟩)
     | false =>
      replace h:=zAu hb.symm h;cases h;exact(Le.forget _ ⟨rfl,trivial⟩)
    | false =>
     replace h:=zAu hb.symm h;intro b hb;subst hb;cases h;exact(Le.forget _ ⟨rfl,trivial⟩)
   | false =>
    replace h:=zAu hb.symm h;intro b hb;subst hb;intro b hb;subst hb;cases h;exact(Le.forget _ ⟨rfl,trivial⟩)
  | false =>
   replace h:=zAu hb.symm h;intro b hb;subst hb;intro b hb;subst hb;intro b hb;subst hb;cases h;exact(Le.forget _ ⟨rfl,trivial⟩)
 ·refine zAh hle ?_;refine zAd ?_;have hy:=osi h;subst hy;exact fin0 rfl rfl
def zSQ (n:Nat) (xs:List AV) (r:Ret):Prop:=∃ (a0:zO8) (y0:Bool),zGj n a0=some y0/\xs=[.agg ((zAo a0).map .s)]/\r = .val (.s (.bool y0))
def zNa:zAr:=zAq fun xs r=>∃ n,zSQ n xs r
theorem zR5:PSound Tryz.prog 115 zNa:=by
 have gok:∀ f s,look? f [(155,zGo),(156,zKG)]=some s->PSound Tryz.prog f s:=zAm (by
  simp only[List.forall_mem_cons]
  exact⟨zIw,zPb,by simp⟩)
 refine zAs tokW Tryz.call115 Tryz.func115 rfl (fun xs r h=>by obtain⟨n,_,_,_,rfl,_⟩:=h; show 1<=83; decide) 83 rfl ?_;rintro xs r w0 G0 ⟨n,⟨a1A,a1I,a1H,a1L,a1G,a1K,a1M,a1B⟩,y0,h,rfl,rfl⟩ _;rw[zGj]at h;refine yAW ?_;refine zAa ?_;refine yAW ?_;show Tri ..;obtain⟨fl,hj,ho1⟩:=zAc h;refine zBA (fl:=fl) (fun z=>match z with | _=>⟨ofL [],fun _=>none,0⟩) ?_ (fun z σ' hz hle=>?_)
 ·replace h:=hj;refine zAi ?_;refine zAa ?_;refine yAW ?_;show Tri ..;obtain⟨x2,hj,h⟩:=zAc h;refine zAl ⟨ofL [(1,.s (.pt [.int .i64 a1A,.sl 1 ((List.map (irow .i64)) a1I),.int .i64 a1H,.int .i64 a1L,.sl 4 (Nd.encs a1G),.int .i64 a1K,.str a1M,.str a1B])),(4,.s (.int .i64 a1A)),(5,.s (.bool x2))],fun _=>none,0⟩ ?_ (fun σ' hle=>?_)
  ·replace h:=hj;refine zAf rfl h (fun hb h=>?_) (fun hb h=>?_)
   ·refine zAe ?_;cases h;exact(Le.forget _ ⟨rfl,rfl,rfl,trivial⟩)
   ·refine yAV ?_;cases h;exact(Le.forget _ ⟨rfl,rfl,rfl,trivial⟩)
  ·refine zAh hle ?_;refine zAf rfl h (fun hb h=>?_) (fun hb h=>?_)
   ·refine zAa ?_;obtain⟨x3,hj,h⟩:=zAc h;refine zAl ⟨ofL [(2,.s (.bool x3))],fun _=>none,0⟩ ?_ (fun σ' hle=>?_)
    ·replace h:=hj;refine zAb [] [10,12,17,22,27,32] rfl ?_;intro n4 hn4;obtain rfl:(a1G.length:Int)=n4:=(hn4.trans (congrArg (fun m:Nat=>(m:Int)) (rlen Nd.encs_eq a1G))).symm;intro b hb;cases b with
     | true =>
      replace h:=zAv hb.symm h;obtain⟨y5,hy5,h⟩:=zAc h;refine⟨_,⟨_,_,_,hy5,rfl,rfl⟩,?_⟩
      intro b hb;cases b with
      | true =>
       replace h:=zAv hb.symm h;intro b hb;cases b with
       | true =>
        replace h:=zAv hb.symm h;intro b hb;cases b with
        | true =>
         replace h:=zAv hb.symm h;intro b hb;cases b with
         | true =>
          replace h:=zAv hb.symm h;cases h;exact(Le.forget _ ⟨rfl,trivial⟩)
         | false =>
          replace h:=zAu hb.symm h;cases h;exact(Le.forget _ ⟨rfl,trivial⟩)
        | false =>
         replace h:=zAu hb.symm h;intro b hb;subst hb;cases h;exact(Le.forget _ ⟨rfl,trivial⟩)
       | false =>
        replace h:=zAu hb.symm h;intro b hb;subst hb;intro b hb;subst hb;cases h;exact(Le.forget _ ⟨rfl,trivial⟩)
      | false =>
       replace h:=zAu hb.symm h;intro b hb;subst hb;intro b hb;subst hb;intro b hb;subst hb;cases h;exact(Le.forget _ ⟨rfl,trivial⟩)
     | false =>
      replace h:=zAu hb.symm h;intro b hb;subst hb;intro b hb;subst hb;intro b hb;subst hb;intro b hb;subst hb;cases h;exact(Le.forget _ ⟨rfl,trivial⟩)
    ·refine zAh hle ?_;refine zAd ?_;cases h;replace h:some _=some _:=ho1;have hy:=osi h;subst hy;exact fin0 rfl rfl
   ·refine zAa ?_;refine yAW ?_;show Tri ..;obtain⟨x6,hj,h⟩:=zAc h;refine zAl ⟨ofL [(1,.s (.pt [.int .i64 a1A,.sl 1 ((List.map (irow .i64)) a1I),.int .i64 a1H,.int .i64 a1L,.sl 4 (Nd.encs a1G),.int .i64 a1K,.str a1M,.str a1B])),(4,.s (.int .i64 a1A)),(37,.s (.bool x6))],fun _=>none,0⟩ ?_ (fun σ' hle=>?_)
    ·replace h:=hj;refine zAf rfl h (fun hb h=>?_) (fun hb h=>?_)
     ·refine zAe ?_;cases h;exact(Le.forget _ ⟨rfl,rfl,rfl,trivial⟩)
     ·refine yAV ?_;cases h;exact(Le.forget _ ⟨rfl,rfl,rfl,trivial⟩)
    ·refine zAh hle ?_;refine zAf rfl h (fun hb h=>?_) (fun hb h=>?_)
     ·refine zAa ?_;obtain⟨x7,hj,h⟩:=zAc h;refine zAl ⟨ofL [(2,.s (.bool x7))],fun _=>none,0⟩ ?_ (fun σ' hle=>?_)
      ·replace h:=hj;refine zAb [] [43,50,55] rfl ?_;intro b hb;cases b with
       | true =>
        replace h:=zAv hb.symm h;obtain⟨y8,hy8,h⟩:=zAc h;refine⟨_,⟨_,_,_,_,hy8,rfl,rfl⟩,?_⟩
        intro b hb;cases b with
        | true =>
         replace h:=zAv hb.symm h;intro b hb;cases b with
         | true =>
          replace h:=zAv hb.symm h;cases h;exact(Le.forget _ ⟨rfl,trivial⟩)
         | false =>
          replace h:=zAu hb.symm h;cases h;exact(Le.forget _ ⟨rfl,trivial⟩)
        | false =>
         replace h:=zAu hb.symm h;intro b hb;subst hb;cases h;exact(Le.forget _ ⟨rfl,trivial⟩)
       | false =>
        replace h:=zAu hb.symm h;intro b hb;subst hb;intro b hb;subst hb;cases h;exact(Le.forget _ ⟨rfl,trivial⟩)
      ·refine zAh hle ?_;refine zAd ?_;cases h;replace h:some _=some _:=ho1;have hy:=osi h;subst hy;exact fin0 rfl rfl
     ·refine yAW ?_;refine zAf rfl h (fun hb h=>?_) (fun hb h=>?_)
      ·refine zAa ?_;obtain⟨x9,hj,h⟩:=zAc h;refine zAl ⟨ofL [(2,.s (.bool x9))],fun _=>none,0⟩ ?_ (fun σ' hle=>?_)
       ·replace h:=hj;refine zAb [] [67,70,73,78] rfl ?_;intro b hb;cases b with
        | true =>
         replace h:=zAv hb.symm h;intro n10 hn10;obtain rfl:(a1G.length:Int)=n10:=(hn10.trans (congrArg (fun m:Nat=>(m:Int)) (rlen Nd.encs_eq a1G))).symm;intro b hb;cases b with
         | true =>
          replace h:=zAv hb.symm h;intro b hb;cases b with
          | true =>
           replace h:=zAv hb.symm h;cases h;exact(Le.forget _ ⟨rfl,trivial⟩)
          | false =>
           replace h:=zAu hb.symm h;cases h;exact(Le.forget _ ⟨rfl,trivial⟩)
         | false =>
          replace h:=zAu hb.symm h;intro b hb;subst hb;cases h;exact(Le.forget _ ⟨rfl,trivial⟩)
        | false =>
         replace h:=zAu hb.symm h;intro b hb;subst hb;intro b hb;subst hb;cases h;exact(Le.forget _ ⟨rfl,trivial⟩)
       ·refine zAh hle ?_;refine zAd ?_;cases h;replace h:some _=some _:=ho1;have hy:=osi h;subst hy;exact fin0 rfl rfl
      ·refine zAe ?_;cases h;exact⟨_,rfl,(Le.forget _ trivial)⟩
 ·subst hz;obtain _:=z;replace h:=ho1;refine zAh hle ?_;refine yAW ?_;refine zAd ?_;have hy:=osi h;subst hy;exact fin0 rfl rfl
def zWk (n:Nat) (xs:List AV) (r:Ret):Prop:=∃ (a0:Nd) (a1:List Int) (y0:Nd) (y1:Bool),zIr n a0 a1=some (y0,y1)/\xs=[.agg ((Nd.enc a0).map .s),.s (.sl 1 ((List.map (irow .i64)) a1))]/\r = .val (.tup [.agg ((Nd.enc y0).map .s),.s (.bool y1)])
def zQq:zAr:=zAq fun xs r=>∃ n,zWk n xs r
theorem zU6:PSound Tryz.prog 157 zQq:=by
 have gok:=@gok0 Tryz.prog;refine zAs tokW Tryz.call157 Tryz.func157 rfl (fun xs r h=>by obtain⟨n,_,_,_,_,_,rfl,_⟩:=h; show 2<=57; decide) 57 rfl ?_;rintro xs r w0 G0 ⟨n,⟨n1A,n1B,n1F,n1E⟩,path2,y0,y1,h,rfl,rfl⟩ _;rw[zIr]at h;refine yAh [2,4] [] rfl ?_;refine zAa ?_;obtain⟨fl,hl,ho1⟩:=zAc h
 refine zBA (fl:=fl) (fun z=>match z with | ⟨path9,x10,x11,x12,x13⟩=>⟨ofL [(1,.s (.sl 1 ((List.map (irow .i64)) path9))),(2,.op 0 0),(4,.op 1 0)],ofH [(0,.box 24 [.s (.int .i64 x10),.s (.str x11),.s (.int .i64 x12),.s (.sl 4 (Nd.encs x13))]),(1,.box 24 [.s (.int .i64 0),.s (.str []),.s (.int .i64 0),.nl 4])],2⟩) ?_ (fun z σ' hz hle=>?_)
 ·refine zAi (zAt (X:=Nat×Int×(List UInt8)×Int×(List Nd)×(List Int)) (fun y=>match y with | (k,x3,x4,x5,x6,path8)=>⟨ofL [(1,.s (.sl 1 ((List.map (irow .i64)) path8))),(2,.op 0 0),(4,.op 1 0)],ofH [(0,.box 24 [.s (.int .i64 x3),.s (.str x4),.s (.int .i64 x5),.s (.sl 4 (Nd.encs x6))]),(1,.box 24 [.s (.int .i64 0),.s (.str []),.s (.int .i64 0),.nl 4])],2⟩) (fun y=>zCC  y.1 y.2.1 y.2.2.1 y.2.2.2.1 y.2.2.2.2.1 y.2.2.2.2.2=some fl) (fun y=>y.1) (n,n1A,n1B,n1F,n1E,path2) hl ?_ ?_)
  ·exact(Le.rnm [(0,0),(1,1)] _ _ _ ⟨rfl,rfl,rfl,trivial⟩ ⟨rfl,⟨_,rfl,rfl⟩,rfl,⟨_,rfl,rfl⟩,trivial⟩)
  ·rintro⟨k,x3,x4,x5,x6,path8⟩ h;cases k with
   | zero=>cases h
   | succ k =>
    replace h:zCC  (k+1) x3 x4 x5 x6 path8=some fl:=h;rw[zCC]at h;refine zAa ?_;refine yAh [] [7] rfl ?_;intro n14 hn14;obtain rfl:(path8.length:Int)=n14:=(hn14.trans (congrArg (fun m:Nat=>(m:Int)) (rlen (fun _=>rfl) path8))).symm;refine zAf rfl h (fun hb h=>?_) (fun hb h=>?_)
    ·refine zAe ?_;refine zAi ?_;refine zAa ?_;refine zAa ?_;obtain⟨x15,hj,h⟩:=zAc h;refine zAl ⟨ofL [(1,.s (.sl 1 ((List.map (irow .i64)) path8))),(2,.op 0 0),(4,.op 1 0),(21,.s (.bool x15))],ofH [(0,.box 24 [.s (.int .i64 x3),.s (.str x4),.s (.int .i64 x5),.s (.sl 4 (Nd.encs x6))]),(1,.box 24 [.s (.int .i64 0),.s (.str []),.s (.int .i64 0),.nl 4])],2⟩ ?_ (fun σ' hle=>?_)
     ·replace h:=hj;refine zAK [] [10,13,15,19] [9] rfl (by decide +kernel) ?_;obtain⟨e16,he16,h⟩:=zAc h;refine And.intro (zAn (fun _=>rfl) he16).1 ?_;intro r17 hr17;obtain rfl:[.int .i64 e16]=r17:=(hr17.trans (zAn (fun _=>rfl) he16).2.1).symm;intro b hb;cases b with
      | true =>
       replace h:=zAv hb.symm h;cases h;exact(Le.rnm [(0,0),(1,1)] _ _ _ ⟨rfl,rfl,rfl,rfl,trivial⟩ ⟨rfl,⟨_,rfl,rfl⟩,rfl,⟨_,rfl,rfl⟩,trivial⟩)
      | false =>
       replace h:=zAu hb.symm h;obtain⟨e18,he18,h⟩:=zAc h;refine And.intro (zAn (fun _=>rfl) he18).1 ?_;intro r19 hr19;obtain rfl:[.int .i64 e18]=r19:=(hr19.trans (zAn (fun _=>rfl) he18).2.1).symm;intro n20 hn20;obtain rfl:(x6.length:Int)=n20:=(hn20.trans (congrArg (fun m:Nat=>(m:Int)) (rlen Nd.encs_eq x6))).symm;cases h;exact(Le.rnm [(0,0),(1,1)] _ _ _ ⟨rfl,rfl,rfl,rfl,trivial⟩ ⟨rfl,⟨_,rfl,rfl⟩,rfl,⟨_,rfl,rfl⟩,trivial⟩)
     ·refine zAh hle ?_;refine zAf rfl h (fun hb h=>?_) (fun hb h=>?_)
      ·refine yAW ?_;refine zAd ?_;cases h;replace h:some _=some _:=ho1;obtain⟨hj1,hk1⟩:=pij h;subst hj1 hk1;exact fin0 rfl rfl
      ·refine zAe ?_;refine zAa ?_;refine zAK [] [26,28] [1,7] rfl (by decide +kernel) ?_;obtain⟨e21,he21,h⟩:=zAc h;refine And.intro (zAn (fun _=>rfl) he21).1 ?_;intro r22 hr22;obtain rfl:[.int .i64 e21]=r22:=(hr22.trans (zAn (fun _=>rfl) he21).2.1).symm;obtain⟨⟨e23A,e23B,e23F,e23E⟩,he23,h⟩:=zAc h;refine And.intro (zAn Nd.encs_eq he23).1 ?_;intro r24 hr24;obtain rfl:[.int .i64 e23A,.str e23B,.int .i64 e23F,.sl 4 (Nd.encs e23E)]=r24:=(hr24.trans (zAn Nd.encs_eq he23).2.1).symm;refine zAa ?_;refine zAa ?_;obtain⟨x25,hj,h⟩:=zAc h
       refine zAl ⟨ofL [(1,.s (.sl 1 ((List.map (irow .i64)) path8))),(2,.op 0 0),(4,.op 1 0),(42,.s (.bool x25))],ofH [(0,.box 24 [.s (.int .i64 e23A),.s (.str e23B),.s (.int .i64 e23F),.s (.sl 4 (Nd.encs e23E))]),(1,.box 24 [.s (.int .i64 0),.s (.str []),.s (.int .i64 0),.nl 4])],2⟩ ?_ (fun σ' hle=>?_)
       ·replace h:=hj;refine zAK [] [31,34,36,40] [9] rfl (by decide +kernel) ?_;obtain⟨e26,he26,h⟩:=zAc h;refine And.intro (zAn (fun _=>rfl) he26).1 ?_;intro r27 hr27;obtain rfl:[.int .i64 e26]=r27:=(hr27.trans (zAn (fun _=>rfl) he26).2.1).symm;intro b hb;cases b with
        | true =>
         replace h:=zAv hb.symm h;cases h;exact(Le.rnm [(0,0),(1,1)] _ _ _ ⟨rfl,rfl,rfl,rfl,trivial⟩ ⟨rfl,⟨_,rfl,rfl⟩,rfl,⟨_,rfl,rfl⟩,trivial⟩)
        | false =>
         replace h:=zAu hb.symm h;obtain⟨e28,he28,h⟩:=zAc h;refine And.intro (zAn (fun _=>rfl) he28).1 ?_;intro r29 hr29;obtain rfl:[.int .i64 e28]=r29:=(hr29.trans (zAn (fun _=>rfl) he28).2.1).symm;intro n30 hn30;obtain rfl:(e23E.length:Int)=n30:=(hn30.trans (congrArg (fun m:Nat=>(m:Int)) (rlen Nd.encs_eq e23E))).symm;cases h;exact(Le.rnm [(0,0),(1,1)] _ _ _ ⟨rfl,rfl,rfl,rfl,trivial⟩ ⟨rfl,⟨_,rfl,rfl⟩,rfl,⟨_,rfl,rfl⟩,trivial⟩)
       ·refine zAh hle ?_;refine zAf rfl h (fun hb h=>?_) (fun hb h=>?_)
        ·refine yAW ?_;refine zAd ?_;cases h;replace h:some _=some _:=ho1;obtain⟨hj1,hk1⟩:=pij h;subst hj1 hk1;exact fin0 rfl rfl
        ·refine zAe ?_;refine zAa ?_;refine zAK [] [47,49] [1,7] rfl (by decide +kernel) ?_;obtain⟨e31,he31,h⟩:=zAc h;refine And.intro (zAn (fun _=>rfl) he31).1 ?_;intro r32 hr32;obtain rfl:[.int .i64 e31]=r32:=(hr32.trans (zAn (fun _=>rfl) he31).2.1).symm;obtain⟨⟨e33A,e33B,e33F,e33E⟩,he33,h⟩:=zAc h;refine And.intro (zAn Nd.encs_eq he33).1 ?_;intro r34 hr34;obtain rfl:[.int .i64 e33A,.str e33B,.int .i64 e33F,.sl 4 (Nd.encs e33E)]=r34:=(hr34.trans (zAn Nd.encs_eq he33).2.1).symm;refine zAb [] [52] rfl ?_;obtain⟨hq,h⟩:=zAw h
         refine And.intro ⟨hq.1,Int.le_trans hq.2.1 (Int.ofNat_le.2 (Nat.le_of_eq (rlen (fun _=>rfl) _).symm)),Int.le_refl _⟩ ?_;intro r35 hr35;obtain rfl:(List.map (irow .i64)) ((path8.take (path8.length:Int).toNat).drop (2:Int).toNat)=r35:=(hr35.trans ((congrArg (fun m:Nat=>(((List.map (irow .i64)) path8).take m).drop (2:Int).toNat) (rlen (fun _=>rfl) _)).trans (rcut (fun _=>rfl) _ _ _))).symm;refine⟨(k,e33A,e33B,e33F,e33E,(path8.take (path8.length:Int).toNat).drop (2:Int).toNat),h,(Le.rnm [(0,0),(1,1)] _ _ _ ⟨rfl,rfl,rfl,trivial⟩ ⟨rfl,⟨_,rfl,rfl⟩,rfl,⟨_,rfl,rfl⟩,trivial⟩),Nat.lt_succ_self k⟩
    ·refine zAy ?_;cases h;exact⟨_,rfl,(Le.rnm [(0,0),(1,1)] _ _ _ ⟨rfl,rfl,rfl,trivial⟩ ⟨rfl,⟨_,rfl,rfl⟩,rfl,⟨_,rfl,rfl⟩,trivial⟩)⟩
 ·subst hz;obtain⟨path9,x10,x11,x12,x13⟩:=z;replace h:=ho1;refine zAh hle ?_;refine yAh [] [55] rfl ?_;intro n36 hn36;obtain rfl:(path9.length:Int)=n36:=(hn36.trans (congrArg (fun m:Nat=>(m:Int)) (rlen (fun _=>rfl) path9))).symm;refine zAd ?_;obtain⟨hj1,hk1⟩:=pij h;subst hj1 hk1;exact fin0 rfl rfl
def zXd (n:Nat) (xs:List AV) (r:Ret):Prop:=∃ (a0:Nd) (a1:List Int) (y0:Nd) (y1:Int),zJB n a0 a1=some (y0,y1)/\xs=[.agg ((Nd.enc a0).map .s),.s (.sl 1 ((List.map (irow .i64)) a1))]/\r = .val (.tup [.agg ((Nd.enc y0).map .s),.s (.int .i64 y1)])
def zSY:zAr:=zAq fun xs r=>∃ n,zXd n xs r
theorem zWT:PSound Tryz.prog 116 zSY:=by
 have gok:∀ f s,look? f [(35,zE4),(157,zQq)]=some s->PSound Tryz.prog f s:=zAm (by
  simp only[List.forall_mem_cons]
  exact⟨zFm,zU6,by simp⟩)
 refine zAs tokW Tryz.call116 Tryz.func116 rfl (fun xs r h=>by obtain⟨n,_,_,_,_,_,rfl,_⟩:=h; show 2<=22; decide) 22 rfl ?_;rintro xs r w0 G0 ⟨n,⟨n1A,n1B,n1F,n1E⟩,path2,y0,y1,h,rfl,rfl⟩ _;rw[zJB]at h;refine yAh [4] [] rfl ?_;refine zAa ?_;refine yAW ?_;obtain⟨y3,hy3,h⟩:=zAc h;refine⟨_,⟨_,_,_,hy3,rfl,rfl⟩,?_⟩
 refine zAf rfl h (fun hb h=>?_) (fun hb h=>?_)
 ·refine yAW ?_;refine zAd ?_;obtain⟨hj1,hk1⟩:=pij h;subst hj1 hk1;exact fin0 rfl rfl
 ·refine zAe ?_;refine yAh [6] [] rfl ?_;obtain⟨⟨⟨y4A,y4B,y4F,y4E⟩,y5⟩,hy4,h⟩:=zAc h;refine⟨_,⟨_,_,_,_,_,hy4,rfl,rfl⟩,?_⟩
  refine zAh (Le.giveBox 1 [.int .i64 y4A,.str y4B,.int .i64 y4F,.sl 4 (Nd.encs y4E)] rfl rfl) ?_;refine zAa ?_;refine yAW ?_;refine zAf rfl h (fun hb h=>?_) (fun hb h=>?_)
  ·refine yAW ?_;refine zAd ?_;obtain⟨hj1,hk1⟩:=pij h;subst hj1 hk1;exact fin0 rfl rfl
  ·refine zAe ?_;refine yAW ?_;refine zAd ?_;obtain⟨hj1,hk1⟩:=pij h;subst hj1 hk1;exact fin0 rfl rfl
def zST (xs:List AV) (r:Ret):Prop:=∃ (a0:List Nd) (a1:Int) (a2:Int) (a3:List Nd) (y0:List Nd),zCG a0 a1 a2 a3=some y0/\xs=[.s (.sl 4 (Nd.encs a0)),.s (.int .i64 a1),.s (.int .i64 a2),.s (.sl 4 (Nd.encs a3))]/\r = .row 24 4 (Nd.encs y0)
def zNd:zAr:=zAq fun xs r=>zST xs r
theorem zPk {α:Type}{a b:α} (h:a=b:=by simp[List.map_append,List.map_take,List.map_drop,irow,brow,zEa,List.map_cons,List.map_nil,zDr,Nd.encs_eq,Nd.enc,CV.encs_eq,CV.enc,zBf,zAR,zBT,zAP,zAI,zAo,zAG,zA9,zAk,zAQ,zAp,zAH]):a=b :=
 h
theorem zR8:PSound Tryz.prog 158 zNd:=by
 have gok:=@gok0 Tryz.prog;refine zAs tokW Tryz.call158 Tryz.func158 rfl (fun xs r h=>by obtain⟨_,_,_,_,_,_,rfl,_⟩:=h; show 4<=23; decide) 23 rfl ?_;rintro xs r w0 G0 ⟨l1,at2,to3,by4,y0,h,rfl,rfl⟩ _;rw[zCG]at h;refine yAh [8] [] rfl ?_;refine zAh (Le.rnm [] [(0,.s (.sl 4 (Nd.encs l1))),(1,.s (.int .i64 at2)),(2,.s (.int .i64 to3)),(3,.s (.sl 4 (Nd.encs by4)))] [] 0 ⟨rfl,rfl,rfl,rfl,trivial⟩ trivial) ?_;refine yAh [10,14] [13] rfl ?_;obtain⟨hq,h⟩:=zAw h;refine And.intro ⟨hq.1,hq.2.1,Int.le_trans hq.2.2 (Int.ofNat_le.2 (Nat.le_of_eq (rlen Nd.encs_eq _).symm))⟩ ?_
 intro r5 hr5;obtain rfl:Nd.encs ((l1.take at2.toNat).drop (0:Int).toNat)=r5:=(hr5.trans (rcut Nd.encs_eq _ _ _)).symm;obtain⟨hq,h⟩:=zAw h;refine And.intro (show(([]:List (List S)).length+(Nd.encs ((l1.take at2.toNat).drop (0:Int).toNat)).length) * 56<=140737488355328/\([]:List (List S)).length+(Nd.encs ((l1.take at2.toNat).drop (0:Int).toNat)).length<=9223372036854775807 from by simp only[List.length_append,List.length_cons,List.length_nil,List.length_map,rlen Nd.encs_eq]at hq ⊢; omega) ?_;show Tri ..
 refine zAh (Le.rnm [(1,0)] [(0,.s (.sl 4 (Nd.encs l1))),(2,.s (.int .i64 to3)),(3,.s (.sl 4 (Nd.encs by4))),(9,.orow 0)] [(0,.row 24 4 (Nd.encs ((l1.take at2.toNat).drop (0:Int).toNat)))] 1 ⟨rfl,rfl,rfl,rfl,trivial⟩ ⟨rfl,⟨_,rfl,congrArg (Ob.row 24 4) zPk⟩,trivial⟩) ?_;refine zAa ?_
 refine zAb [17] [] rfl ?_;obtain⟨hq,h⟩:=zAw h;refine And.intro (show((Nd.encs ((l1.take at2.toNat).drop (0:Int).toNat)).length+(Nd.encs by4).length) * 56<=140737488355328/\(Nd.encs ((l1.take at2.toNat).drop (0:Int).toNat)).length+(Nd.encs by4).length<=9223372036854775807 from by simp only[List.length_append,List.length_cons,List.length_nil,List.length_map,List.length_take,rlen Nd.encs_eq]at hq ⊢; omega) ?_;show Tri ..
 refine zAh (Le.rnm [(1,0)] [(0,.s (.sl 4 (Nd.encs l1))),(2,.s (.int .i64 to3)),(9,.orow 0)] [(0,.row 24 4 (Nd.encs (((l1.take at2.toNat).drop (0:Int).toNat)++by4)))] 1 ⟨rfl,rfl,rfl,trivial⟩ ⟨rfl,⟨_,rfl,congrArg (Ob.row 24 4) zPk⟩,trivial⟩) ?_;refine yAh [22] [21] rfl ?_
 obtain⟨hq,h⟩:=zAw h;refine And.intro ⟨hq.1,Int.le_trans hq.2.1 (Int.ofNat_le.2 (Nat.le_of_eq (rlen Nd.encs_eq _).symm)),Int.le_refl _⟩ ?_;intro r6 hr6;obtain rfl:Nd.encs ((l1.take (l1.length:Int).toNat).drop to3.toNat)=r6:=(hr6.trans ((congrArg (fun m:Nat=>((Nd.encs l1).take m).drop to3.toNat) (rlen Nd.encs_eq _)).trans (rcut Nd.encs_eq _ _ _))).symm;obtain⟨hq,h⟩:=zAw h
 refine And.intro (show((Nd.encs (((l1.take at2.toNat).drop (0:Int).toNat)++by4)).length+(Nd.encs ((l1.take (l1.length:Int).toNat).drop to3.toNat)).length) * 56<=140737488355328/\(Nd.encs (((l1.take at2.toNat).drop (0:Int).toNat)++by4)).length+(Nd.encs ((l1.take (l1.length:Int).toNat).drop to3.toNat)).length<=9223372036854775807 from by simp only[List.length_append,List.length_cons,List.length_nil,List.length_map,List.length_take,rlen Nd.encs_eq]at hq ⊢; omega) ?_;show Tri ..
 refine zAh (Le.rnm [(1,0)] [(8,.orow 0)] [(0,.row 24 4 (Nd.encs ((((l1.take at2.toNat).drop (0:Int).toNat)++by4)++((l1.take (l1.length:Int).toNat).drop to3.toNat))))] 1 ⟨rfl,trivial⟩ ⟨rfl,⟨_,rfl,congrArg (Ob.row 24 4) zPk⟩,trivial⟩) ?_;refine zAd ?_;have hy:=osi h;subst hy;unfold zDR
 exact⟨_,Le.refl _ _,0,rfl,rfl⟩
def zPR (xs:List AV) (r:Ret):Prop:=∃ (a0:Nd) (a1:Int) (a2:Nd) (y0:Nd),zCd a0 a1 a2=some y0/\xs=[.agg ((Nd.enc a0).map .s),.s (.int .i64 a1),.agg ((Nd.enc a2).map .s)]/\r = .val (.agg ((Nd.enc y0).map .s))
def zHX:zAr:=zAq fun xs r=>zPR xs r
theorem zJQ:PSound Tryz.prog 160 zHX:=by
 have gok:=@gok0 Tryz.prog;refine zAs tokW Tryz.call160 Tryz.func160 rfl (fun xs r h=>by obtain⟨_,_,_,_,_,rfl,_⟩:=h; show 3<=18; decide) 18 rfl ?_;rintro xs r w0 G0 ⟨⟨n1A,n1B,n1F,n1E⟩,i2,⟨kid3A,kid3B,kid3F,kid3E⟩,y0,h,rfl,rfl⟩ _;rw[zCd]at h;refine yAh [3,6] [] rfl ?_;refine yAh [7,10] [] rfl ?_;obtain⟨hq,h⟩:=zAw h
 refine And.intro (show(([]:List (List S)).length+(Nd.encs n1E).length) * 56<=140737488355328/\([]:List (List S)).length+(Nd.encs n1E).length<=9223372036854775807 from by simp only[List.length_append,List.length_cons,List.length_nil,List.length_map,rlen Nd.encs_eq]at hq ⊢; omega) ?_;show Tri ..
 refine zAh (Le.rnm [(0,0),(3,1),(1,2)] [(1,.s (.int .i64 i2)),(3,.op 0 0),(5,.s (.pt [.int .i64 kid3A,.str kid3B,.int .i64 kid3F,.sl 4 (Nd.encs kid3E)])),(6,.op 2 0)] [(0,.box 24 [.s (.int .i64 n1A),.s (.str n1B),.s (.int .i64 n1F),.orow 1]),(1,.row 24 4 (Nd.encs n1E)),(2,.box 24 [.s (.int .i64 0),.s (.str []),.s (.int .i64 0),.nl 4])] 3 ⟨rfl,rfl,rfl,rfl,trivial⟩ ⟨rfl,⟨_,rfl,rfl⟩,rfl,⟨_,rfl,congrArg (Ob.row 24 4) zPk⟩,rfl,⟨_,rfl,rfl⟩,trivial⟩) ?_
 refine yAW ?_;obtain⟨⟨e4A,e4B,e4F,e4E⟩,he4,h⟩:=zAc h;refine And.intro (zAn Nd.encs_eq he4).1 ?_;have hset5:=(rset (R:=Nd.encs) (f:=Nd.enc) Nd.encs_eq he4 (Nd.mk kid3A kid3B kid3F kid3E) 0 4 [.int .i64 kid3A,.str kid3B,.int .i64 kid3F,.sl 4 (Nd.encs kid3E)] rfl)
 have hat5:=at_set he4 (Nd.mk kid3A kid3B kid3F kid3E)
 refine And.intro (zAn Nd.encs_eq he4).2.2 ?_;refine zAh (Le.rnm [(0,0),(1,1),(2,2)] [(3,.op 0 0),(6,.op 2 0)] [(0,.box 24 [.s (.int .i64 n1A),.s (.str n1B),.s (.int .i64 n1F),.orow 1]),(1,.row 24 4 (Nd.encs (n1E.set i2.toNat (Nd.mk kid3A kid3B kid3F kid3E)))),(2,.box 24 [.s (.int .i64 0),.s (.str []),.s (.int .i64 0),.nl 4])] 3 ⟨rfl,rfl,trivial⟩ ⟨rfl,⟨_,rfl,rfl⟩,rfl,⟨_,rfl,congrArg (Ob.row 24 4) hset5⟩,rfl,⟨_,rfl,rfl⟩,trivial⟩) ?_;refine yAW ?_;refine zAd ?_;have hy:=osi h;subst hy;unfold zDR
 exact⟨_,(Le.trans (Le.rnm [(2,0),(1,1)] [(6,.op 0 0)] [(0,.box 24 [.s (.int .i64 n1A),.s (.str n1B),.s (.int .i64 n1F),.orow 1]),(1,.row 24 4 (Nd.encs (n1E.set i2.toNat (Nd.mk kid3A kid3B kid3F kid3E))))] 2 ⟨rfl,trivial⟩ ⟨rfl,⟨_,rfl,rfl⟩,rfl,⟨_,rfl,rfl⟩,trivial⟩) (Le.giveRow 1 rfl)),rfl,rfl⟩
def zSS (xs:List AV) (r:Ret):Prop:=∃ (a0:Nd) (a1:Int) (a2:List Nd) (y0:Nd),zEs a0 a1 a2=some y0/\xs=[.agg ((Nd.enc a0).map .s),.s (.int .i64 a1),.s (.sl 4 (Nd.encs a2))]/\r = .val (.agg ((Nd.enc y0).map .s))
def zNc:zAr:=zAq fun xs r=>zSS xs r
theorem zR7:PSound Tryz.prog 159 zNc:=by
 have gok:∀ f s,look? f [(54,zIG),(160,zHX)]=some s->PSound Tryz.prog f s:=zAm (by
  simp only[List.forall_mem_cons]
  exact⟨zJR,zJQ,by simp⟩)
 refine zAs tokW Tryz.call159 Tryz.func159 rfl (fun xs r h=>by obtain⟨_,_,_,_,_,rfl,_⟩:=h; show 3<=14; decide) 14 rfl ?_;rintro xs r w0 G0 ⟨⟨n1A,n1B,n1F,n1E⟩,slot2,l3,y0,h,rfl,rfl⟩ _;rw[zEs]at h;refine yAh [6] [] rfl ?_;refine zAa ?_;refine zHP [9,11] [] [2,4,5,7] [] rfl (by decide +kernel) ?_;obtain⟨hq,h⟩:=zAw h
 refine And.intro (show(([]:List (List S)).length+(Nd.encs l3).length) * 56<=140737488355328/\([]:List (List S)).length+(Nd.encs l3).length<=9223372036854775807 from by simp only[List.length_append,List.length_cons,List.length_nil,List.length_map,rlen Nd.encs_eq]at hq ⊢; omega) ?_;obtain⟨⟨y4A,y4B,y4F,y4E⟩,hy4,h⟩:=zAc h
 refine⟨_,⟨_,_,hy4,(congrArg (fun r=>[AV.s (.sl 4 r)]) (show[]++(Nd.encs l3)=Nd.encs l3 from zPk)),rfl⟩,?_⟩
 obtain⟨⟨y5A,y5B,y5F,y5E⟩,hy5,h⟩:=zAc h;refine⟨_,⟨_,_,_,_,hy5,rfl,rfl⟩,?_⟩
 refine zAd ?_;have hy:=osi h;subst hy;exact fin0 rfl rfl
def zSR (n:Nat) (xs:List AV) (r:Ret):Prop:=∃ (a0:List Nd) (a1:zO8) (y0:List Nd) (y1:Int),zGk n a0 a1=some (y0,y1)/\xs=[.s (.sl 4 (Nd.encs a0)),.agg ((zAo a1).map .s)]/\r = .val (.tup [.s (.sl 4 (Nd.encs y0)),.s (.int .i64 y1)])
def zNb:zAr:=zAq fun xs r=>∃ n,zSR n xs r
theorem zR6:PSound Tryz.prog 117 zNb:=by
 have gok:∀ f s,look? f [(158,zNd),(38,zG7),(159,zNc),(16,zK4)]=some s->PSound Tryz.prog f s:=zAm (by
  simp only[List.forall_mem_cons]
  exact⟨zR8,zI8,zR7,zNo,by simp⟩)
 refine zAs tokW Tryz.call117 Tryz.func117 rfl (fun xs r h=>by obtain⟨n,_,_,_,_,_,rfl,_⟩:=h; show 2<=173; decide) 173 rfl ?_;rintro xs r w0 G0 ⟨n,a1,⟨a2A,a2I,a2H,a2L,a2G,a2K,a2M,a2B⟩,y0,y1,h,rfl,rfl⟩ _;rw[zGk]at h;refine yAW ?_;refine yAW ?_;refine zAa ?_;refine yAW ?_;show Tri ..;obtain⟨x3,hj,h⟩:=zAc h
 refine zAl ⟨ofL [(0,.s (.sl 4 (Nd.encs a1))),(3,.s (.pt [.int .i64 a2A,.sl 1 ((List.map (irow .i64)) a2I),.int .i64 a2H,.int .i64 a2L,.sl 4 (Nd.encs a2G),.int .i64 a2K,.str a2M,.str a2B])),(6,.s (.int .i64 x3))],fun _=>none,0⟩ ?_ (fun σ' hle=>?_)
 ·replace h:=hj;refine zAi ?_;refine yAW ?_;refine zAf rfl h (fun hb h=>?_) (fun hb h=>?_)
  ·refine yAV ?_;cases h;exact(Le.forget _ ⟨rfl,rfl,rfl,trivial⟩)
  ·refine yAW ?_;refine zAf rfl h (fun hb h=>?_) (fun hb h=>?_)
   ·refine zAb [] [17] rfl ?_;intro n4 hn4;obtain rfl:(a2G.length:Int)=n4:=(hn4.trans (congrArg (fun m:Nat=>(m:Int)) (rlen Nd.encs_eq a2G))).symm;cases h;exact(Le.forget _ ⟨rfl,rfl,rfl,trivial⟩)
   ·refine yAW ?_;refine zAf rfl h (fun hb h=>?_) (fun hb h=>?_)
    ·refine yAV ?_;cases h;exact(Le.forget _ ⟨rfl,rfl,rfl,trivial⟩)
    ·refine zAe ?_;cases h;exact(Le.forget _ ⟨rfl,rfl,rfl,trivial⟩)
 ·refine zAh hle ?_;refine zAa ?_;refine zAa ?_;obtain⟨x5,hj,h⟩:=zAc h;refine zAl ⟨ofL [(0,.s (.sl 4 (Nd.encs a1))),(3,.s (.pt [.int .i64 a2A,.sl 1 ((List.map (irow .i64)) a2I),.int .i64 a2H,.int .i64 a2L,.sl 4 (Nd.encs a2G),.int .i64 a2K,.str a2M,.str a2B])),(6,.s (.int .i64 x3)),(40,.s (.bool x5))],fun _=>none,0⟩ ?_ (fun σ' hle=>?_)
  ·replace h:=hj;refine zAb [] [25,29,32,35] rfl ?_;intro b hb;cases b with
   | true =>
    replace h:=zAv hb.symm h;intro b hb;subst hb;cases h;exact(Le.forget _ ⟨rfl,rfl,rfl,rfl,trivial⟩)
   | false =>
    replace h:=zAu hb.symm h;intro n6 hn6;obtain rfl:(a1.length:Int)=n6:=(hn6.trans (congrArg (fun m:Nat=>(m:Int)) (rlen Nd.encs_eq a1))).symm;intro b hb;cases b with
    | true =>
     replace h:=zAv hb.symm h;cases h;exact(Le.forget _ ⟨rfl,rfl,rfl,rfl,trivial⟩)
    | false =>
     replace h:=zAu hb.symm h;intro n7 hn7;obtain rfl:(a1.length:Int)=n7:=(hn7.trans (congrArg (fun m:Nat=>(m:Int)) (rlen Nd.encs_eq a1))).symm;cases h;exact(Le.forget _ ⟨rfl,rfl,rfl,rfl,trivial⟩)
  ·refine zAh hle ?_;refine zAf rfl h (fun hb h=>?_) (fun hb h=>?_)
   ·refine yAW ?_;refine zAd ?_;obtain⟨hj1,hk1⟩:=pij h;subst hj1 hk1;exact fin0 rfl rfl
   ·refine zAe ?_;refine yAW ?_;refine zAa ?_;refine yAW ?_;refine zAi ?_;refine yAW ?_;refine zAf rfl h (fun hb h=>?_) (fun hb h=>?_)
    ·refine yAW ?_;obtain⟨y8,hy8,h⟩:=zAc h;refine⟨_,⟨_,_,_,_,_,hy8,rfl,rfl⟩,?_⟩
     refine zAd ?_;obtain⟨hj1,hk1⟩:=pij h;subst hj1 hk1;exact fin0 rfl rfl
    ·refine yAW ?_;refine zAf rfl h (fun hb h=>?_) (fun hb h=>?_)
     ·refine zAa ?_;refine zAa ?_;refine zAK [] [62] [] rfl (by decide +kernel) ?_;obtain⟨hq,h⟩:=zAw h;refine And.intro ⟨hq.1,hq.2.1,Int.le_trans hq.2.2 (Int.ofNat_le.2 (Nat.le_of_eq (rlen Nd.encs_eq _).symm))⟩ ?_;intro r9 hr9;obtain rfl:Nd.encs ((a1.take (IntKind.i64.wrap (a2H+x3)).toNat).drop a2H.toNat)=r9:=(hr9.trans (rcut Nd.encs_eq _ _ _)).symm;obtain⟨y10,hy10,h⟩:=zAc h;refine⟨_,⟨_,_,_,_,hy10,rfl,rfl⟩,?_⟩
      refine zAf rfl h (fun hb h=>?_) (fun hb h=>?_)
      ·refine yAW ?_;refine zAd ?_;obtain⟨hj1,hk1⟩:=pij h;subst hj1 hk1;exact fin0 rfl rfl
      ·refine zAe ?_;refine yAW ?_;obtain⟨y11,hy11,h⟩:=zAc h;refine⟨_,⟨_,_,_,_,_,hy11,rfl,rfl⟩,?_⟩
       refine zAd ?_;obtain⟨hj1,hk1⟩:=pij h;subst hj1 hk1;exact fin0 rfl rfl
     ·refine yAW ?_;refine zAf rfl h (fun hb h=>?_) (fun hb h=>?_)
      ·refine zAa ?_;refine zAK [] [80,88,90] [] rfl (by decide +kernel) ?_;obtain⟨⟨e12A,e12B,e12F,e12E⟩,he12,h⟩:=zAc h;refine And.intro (zAn Nd.encs_eq he12).1 ?_;intro r13 hr13;obtain rfl:[.int .i64 e12A,.str e12B,.int .i64 e12F,.sl 4 (Nd.encs e12E)]=r13:=(hr13.trans (zAn Nd.encs_eq he12).2.1).symm;obtain⟨hq,h⟩:=zAw h;refine And.intro ⟨hq.1,hq.2.1,Int.le_trans hq.2.2 (Int.ofNat_le.2 (Nat.le_of_eq (rlen Nd.encs_eq _).symm))⟩ ?_;intro r14 hr14;obtain rfl:Nd.encs ((a1.take (IntKind.i64.wrap (a2H+x3)).toNat).drop a2H.toNat)=r14:=(hr14.trans (rcut Nd.encs_eq _ _ _)).symm
       obtain⟨⟨y15A,y15B,y15F,y15E⟩,hy15,h⟩:=zAc h;refine⟨_,⟨_,_,_,_,hy15,rfl,rfl⟩,?_⟩
       intro r16 hr16;obtain rfl:Nd.encs [Nd.mk y15A y15B y15F y15E]=r16:=(hr16.trans zPk).symm;obtain⟨y17,hy17,h⟩:=zAc h;refine⟨_,⟨_,_,_,_,_,hy17,rfl,rfl⟩,?_⟩
       refine zAd ?_;obtain⟨hj1,hk1⟩:=pij h;subst hj1 hk1;exact fin0 rfl rfl
      ·refine zAe ?_;refine yAh [8] [95] rfl ?_;obtain⟨⟨e18A,e18B,e18F,e18E⟩,he18,h⟩:=zAc h;refine And.intro (zAn Nd.encs_eq he18).1 ?_;intro r19 hr19;obtain rfl:[.int .i64 e18A,.str e18B,.int .i64 e18F,.sl 4 (Nd.encs e18E)]=r19:=(hr19.trans (zAn Nd.encs_eq he18).2.1).symm;refine zAa ?_;refine yAW ?_;refine zAf rfl h (fun hb h=>?_) (fun hb h=>?_)
       ·refine zAa ?_;refine zAa ?_;obtain⟨x20,hj,h⟩:=zAc h;refine zAl ⟨ofL [(0,.s (.sl 4 (Nd.encs a1))),(3,.s (.pt [.int .i64 a2A,.sl 1 ((List.map (irow .i64)) a2I),.int .i64 a2H,.int .i64 a2L,.sl 4 (Nd.encs a2G),.int .i64 a2K,.str a2M,.str a2B])),(7,.s (.int .i64 (IntKind.i64.wrap (a2H+x3)))),(8,.op 0 0),(137,.s (.bool x20))],ofH [(0,.box 24 [.s (.int .i64 e18A),.s (.str e18B),.s (.int .i64 e18F),.s (.sl 4 (Nd.encs e18E))])],1⟩ ?_ (fun σ' hle=>?_)
        ·replace h:=hj;refine zAK [] [104,106,111,114,119,123,131] [3,8,20,28] rfl (by decide +kernel) ?_;intro n21 hn21;obtain rfl:(e18E.length:Int)=n21:=(hn21.trans (congrArg (fun m:Nat=>(m:Int)) (rlen Nd.encs_eq e18E))).symm;intro b hb;cases b with
         | true =>
          replace h:=zAv hb.symm h;intro b hb;subst hb;cases h;exact(Le.rnm [(0,0)] _ _ _ ⟨rfl,rfl,rfl,rfl,rfl,trivial⟩ ⟨rfl,⟨_,rfl,rfl⟩,trivial⟩)
         | false =>
          replace h:=zAu hb.symm h;obtain⟨⟨e22A,e22B,e22F,e22E⟩,he22,h⟩:=zAc h;refine And.intro (zAn Nd.encs_eq he22).1 ?_;intro r23 hr23;obtain rfl:[.int .i64 e22A,.str e22B,.int .i64 e22F,.sl 4 (Nd.encs e22E)]=r23:=(hr23.trans (zAn Nd.encs_eq he22).2.1).symm;intro n24 hn24;obtain rfl:(e22E.length:Int)=n24:=(hn24.trans (congrArg (fun m:Nat=>(m:Int)) (rlen Nd.encs_eq e22E))).symm;intro b hb;cases b with
          | true =>
           replace h:=zAv hb.symm h;cases h;exact(Le.rnm [(0,0)] _ _ _ ⟨rfl,rfl,rfl,rfl,rfl,trivial⟩ ⟨rfl,⟨_,rfl,rfl⟩,trivial⟩)
          | false =>
           replace h:=zAu hb.symm h;obtain⟨⟨e25A,e25B,e25F,e25E⟩,he25,h⟩:=zAc h;refine And.intro (zAn Nd.encs_eq he25).1 ?_;intro r26 hr26;obtain rfl:[.int .i64 e25A,.str e25B,.int .i64 e25F,.sl 4 (Nd.encs e25E)]=r26:=(hr26.trans (zAn Nd.encs_eq he25).2.1).symm;obtain⟨⟨e27A,e27B,e27F,e27E⟩,he27,h⟩:=zAc h;refine And.intro (zAn Nd.encs_eq he27).1 ?_;intro r28 hr28;obtain rfl:[.int .i64 e27A,.str e27B,.int .i64 e27F,.sl 4 (Nd.encs e27E)]=r28:=(hr28.trans (zAn Nd.encs_eq he27).2.1).symm;obtain⟨⟨y29A,y29B,y29F,y29E⟩,hy29,h⟩:=zAc h
           refine⟨_,⟨_,_,_,_,hy29,rfl,rfl⟩,?_⟩
           obtain⟨y30,hy30,h⟩:=zAc h;refine⟨_,⟨_,_,_,_,hy30,rfl,rfl⟩,?_⟩
           cases h;exact(Le.rnm [(0,0)] _ _ _ ⟨rfl,rfl,rfl,rfl,rfl,trivial⟩ ⟨rfl,⟨_,rfl,rfl⟩,trivial⟩)
        ·refine zAh hle ?_;refine zAf rfl h (fun hb h=>?_) (fun hb h=>?_)
         ·refine yAW ?_;refine zAd ?_;obtain⟨hj1,hk1⟩:=pij h;subst hj1 hk1;exact fin0 rfl rfl
         ·refine zAe ?_;refine zAa ?_;refine zAK [] [146] [5] rfl (by decide +kernel) ?_;obtain⟨⟨e31A,e31B,e31F,e31E⟩,he31,h⟩:=zAc h;refine And.intro (zAn Nd.encs_eq he31).1 ?_;intro r32 hr32;obtain rfl:[.int .i64 e31A,.str e31B,.int .i64 e31F,.sl 4 (Nd.encs e31E)]=r32:=(hr32.trans (zAn Nd.encs_eq he31).2.1).symm;obtain⟨y33,hy33,h⟩:=zAc h;refine⟨_,⟨_,_,_,_,_,hy33,rfl,rfl⟩,?_⟩
          refine zAd ?_;obtain⟨hj1,hk1⟩:=pij h;subst hj1 hk1;exact fin0 rfl rfl
       ·refine zAe ?_;refine zAa ?_;refine yAW ?_;show Tri ..;obtain⟨fl,hj,ho1⟩:=zAc h;refine zBA (fl:=fl) (fun z=>match z with | _=>⟨ofL [],fun _=>none,0⟩) ?_ (fun z σ' hz hle=>?_)
        ·replace h:=hj;refine zAi ?_;refine zAa ?_;refine yAW ?_;show Tri ..;obtain⟨x34,hj,h⟩:=zAc h;refine zAl ⟨ofL [(0,.s (.sl 4 (Nd.encs a1))),(3,.s (.pt [.int .i64 a2A,.sl 1 ((List.map (irow .i64)) a2I),.int .i64 a2H,.int .i64 a2L,.sl 4 (Nd.encs a2G),.int .i64 a2K,.str a2M,.str a2B])),(7,.s (.int .i64 (IntKind.i64.wrap (a2H+x3)))),(8,.op 0 0),(152,.s (.bool x34))],ofH [(0,.box 24 [.s (.int .i64 e18A),.s (.str e18B),.s (.int .i64 e18F),.s (.sl 4 (Nd.encs e18E))])],1⟩ ?_ (fun σ' hle=>?_)
         ·replace h:=hj;refine zAf rfl h (fun hb h=>?_) (fun hb h=>?_)
          ·refine zAe ?_;cases h;exact(Le.rnm [(0,0)] _ _ _ ⟨rfl,rfl,rfl,rfl,rfl,trivial⟩ ⟨rfl,⟨_,rfl,rfl⟩,trivial⟩)
          ·refine yAW ?_;refine zAf rfl h (fun hb h=>?_) (fun hb h=>?_)
           ·refine zAe ?_;cases h;exact(Le.rnm [(0,0)] _ _ _ ⟨rfl,rfl,rfl,rfl,rfl,trivial⟩ ⟨rfl,⟨_,rfl,rfl⟩,trivial⟩)
           ·refine yAW ?_;refine zAf rfl h (fun hb h=>?_) (fun hb h=>?_)
            ·refine zAe ?_;cases h;exact(Le.rnm [(0,0)] _ _ _ ⟨rfl,rfl,rfl,rfl,rfl,trivial⟩ ⟨rfl,⟨_,rfl,rfl⟩,trivial⟩)
            ·refine yAW ?_;refine zAf rfl h (fun hb h=>?_) (fun hb h=>?_)
             ·refine zAe ?_;cases h;exact(Le.rnm [(0,0)] _ _ _ ⟨rfl,rfl,rfl,rfl,rfl,trivial⟩ ⟨rfl,⟨_,rfl,rfl⟩,trivial⟩)
             ·refine yAV ?_;cases h;exact(Le.rnm [(0,0)] _ _ _ ⟨rfl,rfl,rfl,rfl,rfl,trivial⟩ ⟨rfl,⟨_,rfl,rfl⟩,trivial⟩)
         ·refine zAh hle ?_;refine zAf rfl h (fun hb h=>?_) (fun hb h=>?_)
          ·refine yAW ?_;refine zAf rfl h (fun hb h=>?_) (fun hb h=>?_)
           ·refine yAW ?_;refine yAh [] [171] rfl ?_;intro r35 hr35;obtain rfl:Nd.encs [Nd.mk e18A a2B e18F e18E]=r35:=(hr35.trans zPk).symm;obtain⟨y36,hy36,h⟩:=zAc h;refine⟨_,⟨_,_,_,_,_,hy36,rfl,rfl⟩,?_⟩
            refine zAd ?_;cases h;replace h:some _=some _:=ho1;obtain⟨hj1,hk1⟩:=pij h;subst hj1 hk1;exact fin0 rfl rfl
           ·refine zAe ?_;cases h;exact⟨_,rfl,(Le.rnm [] _ [] 0 trivial trivial)⟩
          ·refine zAe ?_;cases h;exact⟨_,rfl,(Le.rnm [] _ [] 0 trivial trivial)⟩
        ·subst hz;obtain _:=z;replace h:=ho1;refine zAh hle ?_;refine yAW ?_;refine zAd ?_;obtain⟨hj1,hk1⟩:=pij h;subst hj1 hk1;exact fin0 rfl rfl
def zJi (n:Nat) (xs:List AV) (r:Ret):Prop:=∃ (a0:Nd) (a1:List Int) (a2:List Nd) (y0:Nd),zGl n a0 a1 a2=some y0/\xs=[.agg ((Nd.enc a0).map .s),.s (.sl 1 ((List.map (irow .i64)) a1)),.s (.sl 4 (Nd.encs a2))]/\r = .val (.agg ((Nd.enc y0).map .s))
theorem zUn (n:Nat) (ih:PSound Tryz.prog 118 (zAq (zJi n))):PSound Tryz.prog 118 (zAq (zJi (n+1))):=by
 have gok:∀ f s,look? f [(54,zIG),(118,zAq (zJi n)),(160,zHX)]=some s->PSound Tryz.prog f s:=zAm (by
  simp only[List.forall_mem_cons]
  exact⟨zJR,ih,zJQ,by simp⟩)
 refine zAs tokW Tryz.call118 Tryz.func118 rfl (fun xs r h=>by obtain⟨_,_,_,_,_,rfl,_⟩:=h; show 3<=41; decide) 41 rfl ?_;rintro xs r w0 G0 ⟨⟨n1A,n1B,n1F,n1E⟩,path2,l3,y0,h,rfl,rfl⟩ _;rw[zGl]at h;refine yAh [6] [] rfl ?_;refine zAa ?_;refine yAh [] [9] rfl ?_;intro n4 hn4;obtain rfl:(path2.length:Int)=n4:=(hn4.trans (congrArg (fun m:Nat=>(m:Int)) (rlen (fun _=>rfl) path2))).symm;refine zAf rfl h (fun hb h=>?_) (fun hb h=>?_)
 ·refine yAW ?_;obtain⟨⟨y5A,y5B,y5F,y5E⟩,hy5,h⟩:=zAc h;refine⟨_,⟨_,_,hy5,rfl,rfl⟩,?_⟩
  refine zAd ?_;have hy:=osi h;subst hy;exact fin0 rfl rfl
 ·refine zAe ?_;refine zAa ?_;refine zHP [7] [16,18] [7,8] [] rfl (by decide +kernel) ?_;obtain⟨e6,he6,h⟩:=zAc h;refine And.intro (zAn (fun _=>rfl) he6).1 ?_;intro r7 hr7;obtain rfl:[.int .i64 e6]=r7:=(hr7.trans (zAn (fun _=>rfl) he6).2.1).symm;obtain⟨⟨e8A,e8B,e8F,e8E⟩,he8,h⟩:=zAc h;refine And.intro (zAn Nd.encs_eq he8).1 ?_;intro r9 hr9;obtain rfl:[.int .i64 e8A,.str e8B,.int .i64 e8F,.sl 4 (Nd.encs e8E)]=r9:=(hr9.trans (zAn Nd.encs_eq he8).2.1).symm;show Tri ..
  refine zAh (Le.giveBox 1 [.int .i64 e8A,.str e8B,.int .i64 e8F,.sl 4 (Nd.encs e8E)] rfl rfl) ?_;refine zAa ?_;refine zAK [] [22,26,31,33,36] [21] rfl (by decide +kernel) ?_;obtain⟨e10,he10,h⟩:=zAc h;refine And.intro (zAn (fun _=>rfl) he10).1 ?_;intro r11 hr11;obtain rfl:[.int .i64 e10]=r11:=(hr11.trans (zAn (fun _=>rfl) he10).2.1).symm;obtain⟨e12,he12,h⟩:=zAc h;refine And.intro (zAn (fun _=>rfl) he12).1 ?_;intro r13 hr13;obtain rfl:[.int .i64 e12]=r13:=(hr13.trans (zAn (fun _=>rfl) he12).2.1).symm;obtain⟨e14,he14,h⟩:=zAc h;refine And.intro (zAn (fun _=>rfl) he14).1 ?_;intro r15 hr15
  obtain rfl:[.int .i64 e14]=r15:=(hr15.trans (zAn (fun _=>rfl) he14).2.1).symm;obtain⟨⟨e16A,e16B,e16F,e16E⟩,he16,h⟩:=zAc h;refine And.intro (zAn Nd.encs_eq he16).1 ?_;intro r17 hr17;obtain rfl:[.int .i64 e16A,.str e16B,.int .i64 e16F,.sl 4 (Nd.encs e16E)]=r17:=(hr17.trans (zAn Nd.encs_eq he16).2.1).symm;obtain⟨hq,h⟩:=zAw h;refine And.intro ⟨hq.1,Int.le_trans hq.2.1 (Int.ofNat_le.2 (Nat.le_of_eq (rlen (fun _=>rfl) _).symm)),Int.le_refl _⟩ ?_;intro r18 hr18
  obtain rfl:(List.map (irow .i64)) ((path2.take (path2.length:Int).toNat).drop (2:Int).toNat)=r18:=(hr18.trans ((congrArg (fun m:Nat=>(((List.map (irow .i64)) path2).take m).drop (2:Int).toNat) (rlen (fun _=>rfl) _)).trans (rcut (fun _=>rfl) _ _ _))).symm;obtain⟨⟨y19A,y19B,y19F,y19E⟩,hy19,h⟩:=zAc h;refine⟨_,⟨_,_,_,_,hy19,rfl,rfl⟩,?_⟩
  obtain⟨⟨y20A,y20B,y20F,y20E⟩,hy20,h⟩:=zAc h;refine⟨_,⟨_,_,_,_,hy20,rfl,rfl⟩,?_⟩
  obtain⟨⟨y21A,y21B,y21F,y21E⟩,hy21,h⟩:=zAc h;refine⟨_,⟨_,_,_,_,hy21,rfl,rfl⟩,?_⟩
  refine zAd ?_;have hy:=osi h;subst hy;exact fin0 rfl rfl
theorem zUQ:∀ n,PSound Tryz.prog 118 (zAq (zJi n)):=by
 intro n
 induction n with
 | zero=>exact zBo Tryz.call118 (fun xs r h=>by obtain⟨_,_,_,_,h,_⟩:=h; cases h)
 | succ n ih=>exact zUn n ih
def zS1:zAr:=zAq fun xs r=>∃ n,zJi n xs r
theorem zWW:PSound Tryz.prog 118 zS1:=zBH zUQ
def zUJ (n:Nat) (xs:List AV) (r:Ret):Prop:=∃ (a0:Nd) (a1:zO8) (y0:Nd) (y1:Int),zHn n a0 a1=some (y0,y1)/\xs=[.agg ((Nd.enc a0).map .s),.agg ((zAo a1).map .s)]/\r = .val (.tup [.agg ((Nd.enc y0).map .s),.s (.int .i64 y1)])
def zOm:zAr:=zAq fun xs r=>∃ n,zUJ n xs r
theorem zTU:PSound Tryz.prog 79 zOm:=by
 have gok:∀ f s,look? f [(35,zE4),(115,zNa),(116,zSY),(117,zNb),(118,zS1)]=some s->PSound Tryz.prog f s:=zAm (by
  simp only[List.forall_mem_cons]
  exact⟨zFm,zR5,zWT,zR6,zWW,by simp⟩)
 refine zAs tokW Tryz.call79 Tryz.func79 rfl (fun xs r h=>by obtain⟨n,_,_,_,_,_,rfl,_⟩:=h; show 2<=50; decide) 50 rfl ?_;rintro xs r w0 G0 ⟨n,⟨n1A,n1B,n1F,n1E⟩,⟨op2A,op2I,op2H,op2L,op2G,op2K,op2M,op2B⟩,y0,y1,h,rfl,rfl⟩ _;rw[zHn]at h;refine yAh [4] [] rfl ?_;refine zAa ?_;refine yAW ?_;obtain⟨y3,hy3,h⟩:=zAc h;refine⟨_,⟨_,_,_,hy3,rfl,rfl⟩,?_⟩
 refine zAf rfl h (fun hb h=>?_) (fun hb h=>?_)
 ·refine yAW ?_;refine zAd ?_;obtain⟨hj1,hk1⟩:=pij h;subst hj1 hk1;exact fin0 rfl rfl
 ·refine zAe ?_;refine zAa ?_;refine yAW ?_;obtain⟨y4,hy4,h⟩:=zAc h;refine⟨_,⟨_,_,_,hy4,rfl,rfl⟩,?_⟩
  refine zAf rfl h (fun hb h=>?_) (fun hb h=>?_)
  ·refine yAW ?_;refine zAd ?_;obtain⟨hj1,hk1⟩:=pij h;subst hj1 hk1;exact fin0 rfl rfl
  ·refine zAe ?_;refine yAh [6] [] rfl ?_;obtain⟨⟨⟨y5A,y5B,y5F,y5E⟩,y6⟩,hy5,h⟩:=zAc h;refine⟨_,⟨_,_,_,_,_,hy5,rfl,rfl⟩,?_⟩
   refine zAh (Le.giveBox 1 [.int .i64 y5A,.str y5B,.int .i64 y5F,.sl 4 (Nd.encs y5E)] rfl rfl) ?_;refine zAa ?_;refine yAW ?_;refine zAf rfl h (fun hb h=>?_) (fun hb h=>?_)
   ·refine yAW ?_;refine zAd ?_;obtain⟨hj1,hk1⟩:=pij h;subst hj1 hk1;exact fin0 rfl rfl
   ·refine zAe ?_;refine yAW ?_;obtain⟨⟨y7,y8⟩,hy7,h⟩:=zAc h;refine⟨_,⟨_,_,_,_,_,hy7,rfl,rfl⟩,?_⟩
    refine zAa ?_;refine yAW ?_;refine zAf rfl h (fun hb h=>?_) (fun hb h=>?_)
    ·refine yAW ?_;refine zAd ?_;obtain⟨hj1,hk1⟩:=pij h;subst hj1 hk1;exact fin0 rfl rfl
    ·refine zAe ?_;refine yAh [9] [] rfl ?_;obtain⟨⟨y9A,y9B,y9F,y9E⟩,hy9,h⟩:=zAc h;refine⟨_,⟨_,_,_,_,_,hy9,rfl,rfl⟩,?_⟩
     refine zAh (Le.giveBox 2 [.int .i64 y9A,.str y9B,.int .i64 y9F,.sl 4 (Nd.encs y9E)] rfl rfl) ?_;refine zAa ?_;refine yAW ?_;obtain⟨y10,hy10,h⟩:=zAc h;refine⟨_,⟨_,_,_,hy10,rfl,rfl⟩,?_⟩
     refine zAf rfl h (fun hb h=>?_) (fun hb h=>?_)
     ·refine yAW ?_;refine zAd ?_;obtain⟨hj1,hk1⟩:=pij h;subst hj1 hk1;exact fin0 rfl rfl
     ·refine zAe ?_;refine yAW ?_;refine zAd ?_;obtain⟨hj1,hk1⟩:=pij h;subst hj1 hk1;exact fin0 rfl rfl
def zPS (n:Nat) (xs:List AV) (r:Ret):Prop:=∃ (a0:Nd) (a1:List zO8) (y0:Nd) (y1:Int) (y2:Int),zD4 n a0 a1=some (y0,y1,y2)/\xs=[.agg ((Nd.enc a0).map .s),.s (.sl 8 ((List.map zAo) a1))]/\r = .val (.tup [.agg ((Nd.enc y0).map .s),.s (.int .i64 y1),.s (.int .i64 y2)])
def zKF:zAr:=zAq fun xs r=>∃ n,zPS n xs r
theorem zPa:PSound Tryz.prog 36 zKF:=by
 have gok:∀ f s,look? f [(35,zE4),(79,zOm)]=some s->PSound Tryz.prog f s:=zAm (by
  simp only[List.forall_mem_cons]
  exact⟨zFm,zTU,by simp⟩)
 refine zAs tokW Tryz.call36 Tryz.func36 rfl (fun xs r h=>by obtain⟨n,_,_,_,_,_,_,rfl,_⟩:=h; show 2<=36; decide) 36 rfl ?_;rintro xs r w0 G0 ⟨n,⟨n1A,n1B,n1F,n1E⟩,ops2,y0,y1,y2,h,rfl,rfl⟩ _;rw[zD4]at h;refine yAh [2,4] [] rfl ?_;refine zAa ?_;refine yAW ?_;obtain⟨y3,hy3,h⟩:=zAc h;refine⟨_,⟨_,_,_,hy3,rfl,rfl⟩,?_⟩
 refine zAf rfl h (fun hb h=>?_) (fun hb h=>?_)
 ·refine yAW ?_;refine zAd ?_;obtain⟨hj1,hk1⟩:=pij h;subst hj1;obtain⟨hj2,hk2⟩:=Prod.mk.inj hk1;subst hj2;subst hk2;exact fin0 rfl rfl
 ·refine zAe ?_;refine zAa ?_;refine yAW ?_;show Tri ..;obtain⟨fl,hl,ho1⟩:=zAc h;refine zBA (fl:=fl) (fun z=>match z with | ⟨x10,x11,x12,x13⟩=>⟨ofL [(2,.op 0 0),(4,.op 1 0)],ofH [(0,.box 24 [.s (.int .i64 x10),.s (.str x11),.s (.int .i64 x12),.s (.sl 4 (Nd.encs x13))]),(1,.box 24 [.s (.int .i64 0),.s (.str []),.s (.int .i64 0),.nl 4])],2⟩) ?_ (fun z σ' hz hle=>?_)
  ·refine zAi (zAt (X:=Nat×Int×(List UInt8)×Int×(List Nd)×Int) (fun y=>match y with | (k,x4,x5,x6,x7,i9)=>⟨ofL [(1,.s (.sl 8 ((List.map zAo) ops2))),(2,.op 0 0),(4,.op 1 0),(7,.s (.int .i64 i9))],ofH [(0,.box 24 [.s (.int .i64 x4),.s (.str x5),.s (.int .i64 x6),.s (.sl 4 (Nd.encs x7))]),(1,.box 24 [.s (.int .i64 0),.s (.str []),.s (.int .i64 0),.nl 4])],2⟩) (fun y=>zB7 n ops2 y.1 y.2.1 y.2.2.1 y.2.2.2.1 y.2.2.2.2.1 y.2.2.2.2.2=some fl) (fun y=>y.1) (n,n1A,n1B,n1F,n1E,0) hl ?_ ?_)
   ·exact(Le.rnm [(0,0),(1,1)] _ _ _ ⟨rfl,rfl,rfl,rfl,trivial⟩ ⟨rfl,⟨_,rfl,rfl⟩,rfl,⟨_,rfl,rfl⟩,trivial⟩)
   ·rintro⟨k,x4,x5,x6,x7,i9⟩ h;cases k with
    | zero=>cases h
    | succ k =>
     replace h:zB7 n ops2 (k+1) x4 x5 x6 x7 i9=some fl:=h;rw[zB7]at h;refine zAa ?_;refine yAh [] [16] rfl ?_;intro n14 hn14;obtain rfl:(ops2.length:Int)=n14:=(hn14.trans (congrArg (fun m:Nat=>(m:Int)) (rlen (fun _=>rfl) ops2))).symm;refine zAf rfl h (fun hb h=>?_) (fun hb h=>?_)
     ·refine zAe ?_;refine zAa ?_;refine zAi ?_;refine zAa ?_;refine zHP [8] [24] [0,9,10] [0] rfl (by decide +kernel) ?_;obtain⟨⟨e15A,e15I,e15H,e15L,e15G,e15K,e15M,e15B⟩,he15,h⟩:=zAc h;refine And.intro (zAn (fun _=>rfl) he15).1 ?_;intro r16 hr16;obtain rfl:[.int .i64 e15A,.sl 1 ((List.map (irow .i64)) e15I),.int .i64 e15H,.int .i64 e15L,.sl 4 (Nd.encs e15G),.int .i64 e15K,.str e15M,.str e15B]=r16:=(hr16.trans (zAn (fun _=>rfl) he15).2.1).symm;obtain⟨⟨⟨y17A,y17B,y17F,y17E⟩,y18⟩,hy17,h⟩:=zAc h
      refine⟨_,⟨_,_,_,_,_,hy17,rfl,rfl⟩,?_⟩
      refine zAh (Le.giveBox 2 [.int .i64 y17A,.str y17B,.int .i64 y17F,.sl 4 (Nd.encs y17E)] rfl rfl) ?_;refine zAa ?_;refine yAW ?_;refine zAf rfl h (fun hb h=>?_) (fun hb h=>?_)
      ·refine yAW ?_;refine zAd ?_;cases h;replace h:some _=some _:=ho1;obtain⟨hj1,hk1⟩:=pij h;subst hj1;obtain⟨hj2,hk2⟩:=Prod.mk.inj hk1;subst hj2;subst hk2;exact fin0 rfl rfl
      ·refine zAe ?_;refine yAV ?_;refine yAV ?_;refine⟨(k,y17A,y17B,y17F,y17E,IntKind.i64.wrap (i9+1)),h,(Le.rnm [(0,0),(1,1)] _ _ _ ⟨rfl,rfl,rfl,rfl,trivial⟩ ⟨rfl,⟨_,rfl,rfl⟩,rfl,⟨_,rfl,rfl⟩,trivial⟩),Nat.lt_succ_self k⟩
     ·refine zAy ?_;cases h;exact⟨_,rfl,(Le.rnm [(0,0),(1,1)] _ _ _ ⟨rfl,rfl,trivial⟩ ⟨rfl,⟨_,rfl,rfl⟩,rfl,⟨_,rfl,rfl⟩,trivial⟩)⟩
  ·subst hz;obtain⟨x10,x11,x12,x13⟩:=z;replace h:=ho1;refine zAh hle ?_;refine yAW ?_;refine zAd ?_;obtain⟨hj1,hk1⟩:=pij h;subst hj1;obtain⟨hj2,hk2⟩:=Prod.mk.inj hk1;subst hj2;subst hk2;exact fin0 rfl rfl
def zBE (p:List Int):List S:=[.sl 1 ((List.map (irow .i64)) p)]
def zJh (n:Nat) (xs:List AV) (r:Ret):Prop:=∃ (a0:Nd) (a1:List Int) (y0:List (List Int)),zEp n a0 a1=some y0/\xs=[.agg ((Nd.enc a0).map .s),.s (.sl 1 ((List.map (irow .i64)) a1))]/\r = .row 56 1 ((List.map zBE) y0)
theorem zQ1 {α:Type}{a b:α} (h:a=b:=by simp[List.map_append,List.map_take,List.map_drop,irow,brow,zEa,List.map_cons,List.map_nil,zDr,Nd.encs_eq,Nd.enc,CV.encs_eq,CV.enc,zBf,zAR,zBT,zAP,zAI,zAo,zAG,zA9,zAk,zAQ,zAp,zAH,zBE]):a=b :=
 h
theorem zUm (n:Nat) (ih:PSound Tryz.prog 189 (zAq (zJh n))):PSound Tryz.prog 189 (zAq (zJh (n+1))):=by
 have gok:∀ f s,look? f [(189,zAq (zJh n))]=some s->PSound Tryz.prog f s:=zAm (by
  simp only[List.forall_mem_cons]
  exact⟨ih,by simp⟩)
 refine zAs tokW Tryz.call189 Tryz.func189 rfl (fun xs r h=>by obtain⟨_,_,_,_,rfl,_⟩:=h; show 2<=60; decide) 60 rfl ?_;rintro xs r w0 G0 ⟨⟨row1A,row1B,row1F,row1E⟩,path2,y0,h,rfl,rfl⟩ _;rw[zEp]at h;refine yAh [4] [] rfl ?_;refine zAh (Le.rnm [] [(1,.s (.sl 1 ((List.map (irow .i64)) path2))),(2,.s (.pt [.int .i64 row1A,.str row1B,.int .i64 row1F,.sl 4 (Nd.encs row1E)]))] [] 0 ⟨rfl,rfl,trivial⟩ trivial) ?_;refine yAh [5] [] rfl ?_;show Tri ..
 refine zAh (Le.rnm [(0,0)] [(1,.s (.sl 1 ((List.map (irow .i64)) path2))),(2,.s (.pt [.int .i64 row1A,.str row1B,.int .i64 row1F,.sl 4 (Nd.encs row1E)])),(5,.orow 0)] [(0,.row 56 1 ((List.map zBE) []))] 1 ⟨rfl,rfl,rfl,trivial⟩ ⟨rfl,⟨_,rfl,congrArg (Ob.row 56 1) zQ1⟩,trivial⟩) ?_
 refine zAa ?_;refine yAW ?_;show Tri ..;obtain⟨l6,hl,h⟩:=zAc h;refine zAl ⟨ofL [(5,.orow 0)],ofH [(0,.row 56 1 ((List.map zBE) l6))],1⟩ ?_ (fun σ' hle=>?_)
 ·refine zAi (zAt (X:=Nat×Int×(List (List Int))) (fun y=>match y with | (k,i4,l5)=>⟨ofL [(1,.s (.sl 1 ((List.map (irow .i64)) path2))),(2,.s (.pt [.int .i64 row1A,.str row1B,.int .i64 row1F,.sl 4 (Nd.encs row1E)])),(5,.orow 0),(6,.s (.int .i64 i4))],ofH [(0,.row 56 1 ((List.map zBE) l5))],1⟩) (fun y=>zEq (zEp n) n row1E path2 y.1 y.2.1 y.2.2=some l6) (fun y=>y.1) (n,0,[]) hl ?_ ?_)
  ·exact(Le.rnm [(0,0)] _ _ _ ⟨rfl,rfl,rfl,rfl,trivial⟩ ⟨rfl,⟨_,rfl,rfl⟩,trivial⟩)
  ·rintro⟨k,i4,l5⟩ h;cases k with
   | zero=>cases h
   | succ k =>
    replace h:zEq (zEp n) n row1E path2 (k+1) i4 l5=some l6:=h;rw[zEq]at h;refine zAa ?_;refine yAh [] [11] rfl ?_;intro n7 hn7;obtain rfl:(row1E.length:Int)=n7:=(hn7.trans (congrArg (fun m:Nat=>(m:Int)) (rlen Nd.encs_eq row1E))).symm;refine zAf rfl h (fun hb h=>?_) (fun hb h=>?_)
    ·refine zAe ?_;refine zAa ?_;refine zAi ?_;refine zAa ?_;refine zAh (Le.toA 0 rfl) ?_;obtain⟨y9,hy9,h⟩:=zAc h;obtain⟨hqp,hyq⟩:=zAw hy9;replace hyq:=osi hyq;rw[List.length_singleton]at hqp;refine zAb [16,18,21,22,23] [20] rfl ?_;refine And.intro (show((0:Nat)+((List.map (irow .i64)) path2).length) * 8<=140737488355328/\(0:Nat)+((List.map (irow .i64)) path2).length<=9223372036854775807 by rw[List.length_map]; omega) ?_;intro r8 hr8;have hl1:r8.length=1:=by rw[hr8]; rfl
     refine And.intro (show(([]++((List.map (irow .i64)) path2)).length+r8.length) * 8<=140737488355328/\([]++((List.map (irow .i64)) path2)).length+r8.length<=9223372036854775807 by rw[hl1,List.nil_append,List.length_map]; omega) ?_
     clear hl1
     obtain rfl:(List.map (irow .i64)) [i4]=r8:=(hr8.trans zQ1).symm;obtain⟨hq,h⟩:=zAw h
     refine And.intro (show((((List.map zBE) l5).map (·.map AV.s)).length+1) * 24<=140737488355328/\(((List.map zBE) l5).map (·.map AV.s)).length+1<=9223372036854775807 by rw[List.length_map,List.length_map]; simp only[List.length_cons,List.length_nil]at hq; omega) ?_;refine zAh (Le.giveRow 3 rfl) ?_;refine zAh (Le.ofA 5 ((List.map zBE) (l5++[y9])) rfl (by rw[← hyq,List.map_append,List.map_append,zWJ]; exact zMj (zWg _) (show some [[S.sl 1 ([]++(List.map (irow .i64)) path2++(List.map (irow .i64)) [i4])]]=some ((List.map zBE) [path2++[i4]]) by simp[zBE]))) ?_
     refine zAh (Le.rnm [(5,0)] [(1,.s (.sl 1 ((List.map (irow .i64)) path2))),(2,.s (.pt [.int .i64 row1A,.str row1B,.int .i64 row1F,.sl 4 (Nd.encs row1E)])),(5,.orow 0),(6,.s (.int .i64 i4))] [(0,.row 56 1 ((List.map zBE) (l5++[y9])))] 1 ⟨rfl,rfl,rfl,rfl,trivial⟩ ⟨rfl,⟨_,rfl,congrArg (Ob.row 56 1) zQ1⟩,trivial⟩) ?_
     refine zAa ?_;refine yAh [] [27] rfl ?_;intro n11 hn11;obtain rfl:(row1E.length:Int)=n11:=(hn11.trans (congrArg (fun m:Nat=>(m:Int)) (rlen Nd.encs_eq row1E))).symm;refine zAf rfl h (fun hb h=>?_) (fun hb h=>?_)
     ·refine zAy ?_;cases h;exact(Le.rnm [(0,0)] _ _ _ ⟨rfl,trivial⟩ ⟨rfl,⟨_,rfl,rfl⟩,trivial⟩)
     ·refine zAe ?_;refine yAW ?_;show Tri ..;obtain⟨l15,hl,h⟩:=zAc h;refine zAl ⟨ofL [(1,.s (.sl 1 ((List.map (irow .i64)) path2))),(2,.s (.pt [.int .i64 row1A,.str row1B,.int .i64 row1F,.sl 4 (Nd.encs row1E)])),(5,.orow 0),(6,.s (.int .i64 i4))],ofH [(0,.row 56 1 ((List.map zBE) l15))],1⟩ ?_ (fun σ' hle=>?_)
      ·refine zAi (zAt (X:=Nat×Int×(List (List Int))) (fun y=>match y with | (k,k13,l14)=>⟨ofL [(1,.s (.sl 1 ((List.map (irow .i64)) path2))),(2,.s (.pt [.int .i64 row1A,.str row1B,.int .i64 row1F,.sl 4 (Nd.encs row1E)])),(5,.orow 0),(6,.s (.int .i64 i4)),(7,.s (.int .i64 k13))],ofH [(0,.row 56 1 ((List.map zBE) l14))],1⟩) (fun y=>zEr (zEp n) row1E path2 i4 y.1 y.2.1 y.2.2=some l15) (fun y=>y.1) (n,0,l5++[y9]) hl ?_ ?_)
       ·exact(Le.rnm [(0,0)] _ _ _ ⟨rfl,rfl,rfl,rfl,rfl,trivial⟩ ⟨rfl,⟨_,rfl,rfl⟩,trivial⟩)
       ·rintro⟨k,k13,l14⟩ h;cases k with
        | zero=>cases h
        | succ k =>
         replace h:zEr (zEp n) row1E path2 i4 (k+1) k13 l14=some l15:=h;rw[zEr]at h;refine zAa ?_;refine yAh [] [33,36] rfl ?_;obtain⟨⟨e16A,e16B,e16F,e16E⟩,he16,h⟩:=zAc h;refine And.intro (zAn Nd.encs_eq he16).1 ?_;intro r17 hr17;obtain rfl:[.int .i64 e16A,.str e16B,.int .i64 e16F,.sl 4 (Nd.encs e16E)]=r17:=(hr17.trans (zAn Nd.encs_eq he16).2.1).symm;intro n18 hn18;obtain rfl:(e16E.length:Int)=n18:=(hn18.trans (congrArg (fun m:Nat=>(m:Int)) (rlen Nd.encs_eq e16E))).symm;refine zAf rfl h (fun hb h=>?_) (fun hb h=>?_)
         ·refine zAe ?_;refine zAa ?_;refine zAi ?_;refine zHP [50,52,56,58] [44,48,55] [10,12,16,17,18] [] rfl (by decide +kernel) ?_;obtain⟨⟨e19A,e19B,e19F,e19E⟩,he19,h⟩:=zAc h;refine And.intro (zAn Nd.encs_eq he19).1 ?_;intro r20 hr20;obtain rfl:[.int .i64 e19A,.str e19B,.int .i64 e19F,.sl 4 (Nd.encs e19E)]=r20:=(hr20.trans (zAn Nd.encs_eq he19).2.1).symm;obtain⟨⟨e21A,e21B,e21F,e21E⟩,he21,h⟩:=zAc h;refine And.intro (zAn Nd.encs_eq he21).1 ?_;intro r22 hr22
          obtain rfl:[.int .i64 e21A,.str e21B,.int .i64 e21F,.sl 4 (Nd.encs e21E)]=r22:=(hr22.trans (zAn Nd.encs_eq he21).2.1).symm;obtain⟨hq,h⟩:=zAw h;refine And.intro (show(([]:List (List S)).length+((List.map (irow .i64)) path2).length) * 8<=140737488355328/\([]:List (List S)).length+((List.map (irow .i64)) path2).length<=9223372036854775807 from by simp only[List.length_append,List.length_cons,List.length_nil,List.length_map,rlen (fun _=>rfl)]at hq ⊢; omega) ?_;intro r23 hr23;have hl2:r23.length=2 :=(by rw[hr23]; rfl);obtain⟨hq,h⟩:=zAw h
          refine And.intro (show((([]:List (List S))++((List.map (irow .i64)) path2)).length+r23.length) * 8<=140737488355328/\(([]:List (List S))++((List.map (irow .i64)) path2)).length+r23.length<=9223372036854775807 from by rw[hl2]; simp only[List.length_append,List.length_cons,List.length_nil,List.length_map]at hq ⊢; omega) ?_
          clear hl2
          obtain rfl:(List.map (irow .i64)) [i4,k13]=r23:=(hr23.trans zQ1).symm;obtain⟨y24,hy24,h⟩:=zAc h
          refine⟨_,⟨_,_,_,hy24,(congrArg (fun r=>[(AV.agg [.s (.int .i64 e21A),.s (.str e21B),.s (.int .i64 e21F),.s (.sl 4 (Nd.encs e21E))]),AV.s (.sl 1 r)]) (show([]++((List.map (irow .i64)) path2))++((List.map (irow .i64)) [i4,k13])=(List.map (irow .i64)) (path2++[i4,k13]) from zQ1)),rfl⟩,?_⟩
          obtain⟨hq,h⟩:=zAw h;refine And.intro (show(((List.map zBE) l14).length+((List.map zBE) y24).length) * 24<=140737488355328/\((List.map zBE) l14).length+((List.map zBE) y24).length<=9223372036854775807 from by simp only[List.length_append,List.length_cons,List.length_nil,List.length_map,rlen (fun _=>rfl)]at hq ⊢; omega) ?_;show Tri ..
          refine zAh (Le.rnm [(4,0)] [(1,.s (.sl 1 ((List.map (irow .i64)) path2))),(2,.s (.pt [.int .i64 row1A,.str row1B,.int .i64 row1F,.sl 4 (Nd.encs row1E)])),(5,.orow 0),(6,.s (.int .i64 i4)),(7,.s (.int .i64 k13))] [(0,.row 56 1 ((List.map zBE) (l14++y24)))] 1 ⟨rfl,rfl,rfl,rfl,rfl,trivial⟩ ⟨rfl,⟨_,rfl,congrArg (Ob.row 56 1) zQ1⟩,trivial⟩) ?_
          refine yAV ?_;refine⟨(k,IntKind.i64.wrap (k13+1),l14++y24),h,(Le.rnm [(0,0)] _ _ _ ⟨rfl,rfl,rfl,rfl,rfl,trivial⟩ ⟨rfl,⟨_,rfl,rfl⟩,trivial⟩),Nat.lt_succ_self k⟩
         ·refine zAy ?_;cases h;exact(Le.rnm [(0,0)] _ _ _ ⟨rfl,rfl,rfl,rfl,trivial⟩ ⟨rfl,⟨_,rfl,rfl⟩,trivial⟩)
      ·refine zAh hle ?_;refine yAV ?_;refine⟨(k,IntKind.i64.wrap (i4+1),l15),h,(Le.rnm [(0,0)] _ _ _ ⟨rfl,rfl,rfl,rfl,trivial⟩ ⟨rfl,⟨_,rfl,rfl⟩,trivial⟩),Nat.lt_succ_self k⟩
    ·refine zAy ?_;cases h;exact(Le.rnm [(0,0)] _ _ _ ⟨rfl,trivial⟩ ⟨rfl,⟨_,rfl,rfl⟩,trivial⟩)
 ·refine zAh hle ?_;refine yAW ?_;refine zAd ?_;have hy:=osi h;subst hy;unfold zDR;exact⟨_,Le.refl _ _,0,rfl,rfl⟩
theorem zUP:∀ n,PSound Tryz.prog 189 (zAq (zJh n)):=by
 intro n
 induction n with
 | zero=>exact zBo Tryz.call189 (fun xs r h=>by obtain⟨_,_,_,h,_⟩:=h; cases h)
 | succ n ih=>exact zUm n ih
def zS0:zAr:=zAq fun xs r=>∃ n,zJh n xs r
theorem zWV:PSound Tryz.prog 189 zS0:=zBH zUP
def zXf (n:Nat) (xs:List AV) (r:Ret):Prop:=∃ (a0:Nd) (y0:List (List Int)) (y1:Int),zJC n a0=some (y0,y1)/\xs=[.agg ((Nd.enc a0).map .s)]/\r = .val (.tup [.s (.sl 1 ((List.map zBE) y0)),.s (.int .i64 y1)])
def zSZ:zAr:=zAq fun xs r=>∃ n,zXf n xs r
theorem zWU:PSound Tryz.prog 161 zSZ:=by
 have gok:∀ f s,look? f [(35,zE4),(189,zS0)]=some s->PSound Tryz.prog f s:=zAm (by
  simp only[List.forall_mem_cons]
  exact⟨zFm,zWV,by simp⟩)
 refine zAs tokW Tryz.call161 Tryz.func161 rfl (fun xs r h=>by obtain⟨n,_,_,_,_,rfl,_⟩:=h; show 1<=9; decide) 9 rfl ?_;rintro xs r w0 G0 ⟨n,⟨n1A,n1B,n1F,n1E⟩,y0,y1,h,rfl,rfl⟩ _;rw[zJC]at h;refine yAW ?_;refine zAa ?_;refine yAW ?_;obtain⟨y2,hy2,h⟩:=zAc h;refine⟨_,⟨_,_,_,hy2,rfl,rfl⟩,?_⟩
 refine zAf rfl h (fun hb h=>?_) (fun hb h=>?_)
 ·refine yAW ?_;refine zAd ?_;obtain⟨hj1,hk1⟩:=pij h;subst hj1 hk1;exact fin0 rfl rfl
 ·refine zAe ?_;refine yAW ?_;obtain⟨y3,hy3,h⟩:=zAc h;refine⟨_,⟨_,_,_,_,hy3,rfl,rfl⟩,?_⟩
  refine zAd ?_;obtain⟨hj1,hk1⟩:=pij h;subst hj1 hk1;exact fin0 rfl rfl
def zRq (n:Nat) (xs:List AV) (r:Ret):Prop:=∃ (a0:List Int) (a1:List Int) (y0:Int),zEF n a0 a1=some y0/\xs=[.s (.sl 1 ((List.map (irow .i64)) a0)),.s (.sl 1 ((List.map (irow .i64)) a1))]/\r = .val (.s (.int .i64 y0))
def zIH:zAr:=zAq fun xs r=>∃ n,zRq n xs r
theorem zKR:PSound Tryz.prog 162 zIH:=by
 have gok:=@gok0 Tryz.prog;refine zAs tokW Tryz.call162 Tryz.func162 rfl (fun xs r h=>by obtain⟨n,_,_,_,_,rfl,_⟩:=h; show 2<=48; decide) 48 rfl ?_;rintro xs r w0 G0 ⟨n,a1,b2,y0,h,rfl,rfl⟩ _;rw[zEF]at h;refine yAW ?_;refine zAa ?_;refine yAW ?_;show Tri ..;obtain⟨fl,hl,ho1⟩:=zAc h;refine zBA (fl:=fl) (fun z=>match z with | _=>⟨ofL [(0,.s (.sl 1 ((List.map (irow .i64)) a1))),(1,.s (.sl 1 ((List.map (irow .i64)) b2)))],fun _=>none,0⟩) ?_ (fun z σ' hz hle=>?_)
 ·refine zAi (zAt (X:=Nat×Int) (fun y=>match y with | (k,i3)=>⟨ofL [(0,.s (.sl 1 ((List.map (irow .i64)) a1))),(1,.s (.sl 1 ((List.map (irow .i64)) b2))),(5,.s (.int .i64 i3))],fun _=>none,0⟩) (fun y=>zCv a1 b2 y.1 y.2=some fl) (fun y=>y.1) (n,0) hl ?_ ?_)
  ·exact(Le.forget _ ⟨rfl,rfl,rfl,trivial⟩)
  ·rintro⟨k,i3⟩ h;cases k with
   | zero=>cases h
   | succ k =>
    replace h:zCv a1 b2 (k+1) i3=some fl:=h;rw[zCv]at h;refine zAa ?_;refine zAa ?_;obtain⟨x4,hj,h⟩:=zAc h;refine zAl ⟨ofL [(0,.s (.sl 1 ((List.map (irow .i64)) a1))),(1,.s (.sl 1 ((List.map (irow .i64)) b2))),(5,.s (.int .i64 i3)),(15,.s (.bool x4))],fun _=>none,0⟩ ?_ (fun σ' hle=>?_)
    ·replace h:=hj;refine zAb [] [8,10,13] rfl ?_;intro n5 hn5;obtain rfl:(a1.length:Int)=n5:=(hn5.trans (congrArg (fun m:Nat=>(m:Int)) (rlen (fun _=>rfl) a1))).symm;intro b hb;cases b with
     | true =>
      replace h:=zAv hb.symm h;intro n6 hn6;obtain rfl:(b2.length:Int)=n6:=(hn6.trans (congrArg (fun m:Nat=>(m:Int)) (rlen (fun _=>rfl) b2))).symm;cases h;exact(Le.forget _ ⟨rfl,rfl,rfl,rfl,trivial⟩)
     | false =>
      replace h:=zAu hb.symm h;cases h;exact(Le.forget _ ⟨rfl,rfl,rfl,rfl,trivial⟩)
    ·refine zAh hle ?_;refine zAf rfl h (fun hb h=>?_) (fun hb h=>?_)
     ·refine zAe ?_;refine zAa ?_;refine zAi ?_;refine zAa ?_;refine zAa ?_;refine zAK [] [20,24] [] rfl (by decide +kernel) ?_;obtain⟨e7,he7,h⟩:=zAc h;refine And.intro (zAn (fun _=>rfl) he7).1 ?_;intro r8 hr8;obtain rfl:[.int .i64 e7]=r8:=(hr8.trans (zAn (fun _=>rfl) he7).2.1).symm;obtain⟨e9,he9,h⟩:=zAc h;refine And.intro (zAn (fun _=>rfl) he9).1 ?_;intro r10 hr10;obtain rfl:[.int .i64 e9]=r10:=(hr10.trans (zAn (fun _=>rfl) he9).2.1).symm;refine zAf rfl h (fun hb h=>?_) (fun hb h=>?_)
      ·refine yAW ?_;refine zAd ?_;cases h;replace h:some _=some _:=ho1;have hy:=osi h;subst hy;exact fin0 rfl rfl
      ·refine zAe ?_;refine zAa ?_;refine zAK [] [29,33] [] rfl (by decide +kernel) ?_;obtain⟨e11,he11,h⟩:=zAc h;refine And.intro (zAn (fun _=>rfl) he11).1 ?_;intro r12 hr12;obtain rfl:[.int .i64 e11]=r12:=(hr12.trans (zAn (fun _=>rfl) he11).2.1).symm;obtain⟨e13,he13,h⟩:=zAc h;refine And.intro (zAn (fun _=>rfl) he13).1 ?_;intro r14 hr14;obtain rfl:[.int .i64 e13]=r14:=(hr14.trans (zAn (fun _=>rfl) he13).2.1).symm;refine zAf rfl h (fun hb h=>?_) (fun hb h=>?_)
       ·refine yAW ?_;refine zAd ?_;cases h;replace h:some _=some _:=ho1;have hy:=osi h;subst hy;exact fin0 rfl rfl
       ·refine zAe ?_;refine yAV ?_;refine⟨(k,IntKind.i64.wrap (i3+1)),h,(Le.forget _ ⟨rfl,rfl,rfl,trivial⟩),Nat.lt_succ_self k⟩
     ·refine zAy ?_;cases h;exact⟨_,rfl,(Le.forget _ ⟨rfl,rfl,trivial⟩)⟩
 ·subst hz;obtain _:=z;replace h:=ho1;refine zAh hle ?_;refine zAa ?_;refine zAi ?_;refine yAh [] [38,40] rfl ?_;intro n15 hn15;obtain rfl:(a1.length:Int)=n15:=(hn15.trans (congrArg (fun m:Nat=>(m:Int)) (rlen (fun _=>rfl) a1))).symm;intro n16 hn16;obtain rfl:(b2.length:Int)=n16:=(hn16.trans (congrArg (fun m:Nat=>(m:Int)) (rlen (fun _=>rfl) b2))).symm;refine zAf rfl h (fun hb h=>?_) (fun hb h=>?_)
  ·refine yAW ?_;refine zAd ?_;have hy:=osi h;subst hy;exact fin0 rfl rfl
  ·refine yAh [] [44,46] rfl ?_;intro n17 hn17;obtain rfl:(a1.length:Int)=n17:=(hn17.trans (congrArg (fun m:Nat=>(m:Int)) (rlen (fun _=>rfl) a1))).symm;intro n18 hn18;obtain rfl:(b2.length:Int)=n18:=(hn18.trans (congrArg (fun m:Nat=>(m:Int)) (rlen (fun _=>rfl) b2))).symm;refine zAf rfl h (fun hb h=>?_) (fun hb h=>?_)
   ·refine yAW ?_;refine zAd ?_;have hy:=osi h;subst hy;exact fin0 rfl rfl
   ·refine zAe ?_;refine yAW ?_;refine zAd ?_;have hy:=osi h;subst hy;exact fin0 rfl rfl
def zUH (n:Nat) (xs:List AV) (r:Ret):Prop:=∃ (a0:Nd) (a1:List Int) (y0:Int) (y1:Int),zFX n a0 a1=some (y0,y1)/\xs=[.agg ((Nd.enc a0).map .s),.s (.sl 1 ((List.map (irow .i64)) a1))]/\r = .val (.tup [.s (.int .i64 y0),.s (.int .i64 y1)])
def zOk:zAr:=zAq fun xs r=>∃ n,zUH n xs r
theorem zTS:PSound Tryz.prog 119 zOk:=by
 have gok:∀ f s,look? f [(161,zSZ),(162,zIH)]=some s->PSound Tryz.prog f s:=zAm (by
  simp only[List.forall_mem_cons]
  exact⟨zWU,zKR,by simp⟩)
 refine zAs tokW Tryz.call119 Tryz.func119 rfl (fun xs r h=>by obtain⟨n,_,_,_,_,_,rfl,_⟩:=h; show 2<=31; decide) 31 rfl ?_;rintro xs r w0 G0 ⟨n,⟨n1A,n1B,n1F,n1E⟩,pos2,y0,y1,h,rfl,rfl⟩ _;rw[zFX]at h;refine yAW ?_;refine yAW ?_;obtain⟨⟨y3,y4⟩,hy3,h⟩:=zAc h;refine⟨_,⟨_,_,_,_,hy3,rfl,rfl⟩,?_⟩
 refine zAa ?_;refine yAW ?_;refine zAf rfl h (fun hb h=>?_) (fun hb h=>?_)
 ·refine yAW ?_;refine zAd ?_;obtain⟨hj1,hk1⟩:=pij h;subst hj1 hk1;exact fin0 rfl rfl
 ·refine zAe ?_;refine zAa ?_;refine yAW ?_;show Tri ..;obtain⟨fl,hl,ho1⟩:=zAc h;refine zBA (fl:=fl) (fun z=>match z with | _=>⟨ofL [],fun _=>none,0⟩) ?_ (fun z σ' hz hle=>?_)
  ·refine zAi (zAt (X:=Nat×Int) (fun y=>match y with | (k,i5)=>⟨ofL [(1,.s (.sl 1 ((List.map (irow .i64)) pos2))),(6,.s (.sl 1 ((List.map zBE) y3))),(8,.s (.int .i64 i5))],fun _=>none,0⟩) (fun y=>zDm n pos2 y3 y.1 y.2=some fl) (fun y=>y.1) (n,0) hl ?_ ?_)
   ·exact(Le.forget _ ⟨rfl,rfl,rfl,trivial⟩)
   ·rintro⟨k,i5⟩ h;cases k with
    | zero=>cases h
    | succ k =>
     replace h:zDm n pos2 y3 (k+1) i5=some fl:=h;rw[zDm]at h;refine zAa ?_;refine yAh [] [19] rfl ?_;intro n6 hn6;obtain rfl:(y3.length:Int)=n6:=(hn6.trans (congrArg (fun m:Nat=>(m:Int)) (rlen (fun _=>rfl) y3))).symm;refine zAf rfl h (fun hb h=>?_) (fun hb h=>?_)
     ·refine zAe ?_;refine zAa ?_;refine zAi ?_;refine yAh [] [25] rfl ?_;obtain⟨e7,he7,h⟩:=zAc h;refine And.intro (zAn (fun _=>rfl) he7).1 ?_;intro r8 hr8;obtain rfl:[.sl 1 ((List.map (irow .i64)) e7)]=r8:=(hr8.trans (zAn (fun _=>rfl) he7).2.1).symm;obtain⟨y9,hy9,h⟩:=zAc h;refine⟨_,⟨_,_,_,_,hy9,rfl,rfl⟩,?_⟩
      refine zAf rfl h (fun hb h=>?_) (fun hb h=>?_)
      ·refine yAW ?_;refine zAd ?_;cases h;replace h:some _=some _:=ho1;obtain⟨hj1,hk1⟩:=pij h;subst hj1 hk1;exact fin0 rfl rfl
      ·refine zAe ?_;refine yAV ?_;refine⟨(k,IntKind.i64.wrap (i5+1)),h,(Le.forget _ ⟨rfl,rfl,rfl,trivial⟩),Nat.lt_succ_self k⟩
     ·refine zAy ?_;cases h;exact⟨_,rfl,(Le.forget _ trivial)⟩
  ·subst hz;obtain _:=z;replace h:=ho1;refine zAh hle ?_;refine yAW ?_;refine zAd ?_;obtain⟨hj1,hk1⟩:=pij h;subst hj1 hk1;exact fin0 rfl rfl
def zUI (n:Nat) (xs:List AV) (r:Ret):Prop:=∃ (a0:Nd) (a1:List Int) (y0:Bool),zE8 n a0 a1=some y0/\xs=[.agg ((Nd.enc a0).map .s),.s (.sl 1 ((List.map (irow .i64)) a1))]/\r = .val (.s (.bool y0))
def zOl:zAr:=zAq fun xs r=>∃ n,zUI n xs r
theorem zTT:PSound Tryz.prog 80 zOl:=by
 have gok:∀ f s,look? f [(119,zOk)]=some s->PSound Tryz.prog f s:=zAm (by
  simp only[List.forall_mem_cons]
  exact⟨zTS,by simp⟩)
 refine zAs tokW Tryz.call80 Tryz.func80 rfl (fun xs r h=>by obtain⟨n,_,_,_,_,rfl,_⟩:=h; show 2<=15; decide) 15 rfl ?_;rintro xs r w0 G0 ⟨n,⟨n1A,n1B,n1F,n1E⟩,pos2,y0,h,rfl,rfl⟩ _;rw[zE8]at h;refine yAW ?_;refine yAW ?_;obtain⟨⟨y3,y4⟩,hy3,h⟩:=zAc h;refine⟨_,⟨_,_,_,_,_,hy3,rfl,rfl⟩,?_⟩
 refine yAW ?_;refine zAd ?_;have hy:=osi h;subst hy;exact fin0 rfl rfl
def zSU (n:Nat) (xs:List AV) (r:Ret):Prop:=∃ (a0:Nd) (a1:zCu) (y0:Bool),zEt n a0 a1=some y0/\xs=[.agg ((Nd.enc a0).map .s),.agg ((zA9 a1).map .s)]/\r = .val (.s (.bool y0))
def zNe:zAr:=zAq fun xs r=>∃ n,zSU n xs r
theorem zR9:PSound Tryz.prog 37 zNe:=by
 have gok:∀ f s,look? f [(80,zOl)]=some s->PSound Tryz.prog f s:=zAm (by
  simp only[List.forall_mem_cons]
  exact⟨zTT,by simp⟩)
 refine zAs tokW Tryz.call37 Tryz.func37 rfl (fun xs r h=>by obtain⟨n,_,_,_,_,rfl,_⟩:=h; show 2<=21; decide) 21 rfl ?_;rintro xs r w0 G0 ⟨n,⟨n1A,n1B,n1F,n1E⟩,⟨c2Ai,c2Ah⟩,y0,h,rfl,rfl⟩ _;rw[zEt]at h;refine yAW ?_;refine zAa ?_;obtain⟨x3,hj,h⟩:=zAc h;refine zAl ⟨ofL [(4,.s (.bool x3))],fun _=>none,0⟩ ?_ (fun σ' hle=>?_)
 ·replace h:=hj;refine zAb [] [9,12,14] rfl ?_;obtain⟨y4,hy4,h⟩:=zAc h;refine⟨_,⟨_,_,_,_,hy4,rfl,rfl⟩,?_⟩
  intro b hb;cases b with
  | true =>
   replace h:=zAv hb.symm h;intro n5 hn5;obtain rfl:(c2Ah.length:Int)=n5:=(hn5.trans (congrArg (fun m:Nat=>(m:Int)) (rlen (fun _=>rfl) c2Ah))).symm;intro b hb;cases b with
   | true =>
    replace h:=zAv hb.symm h;cases h;exact(Le.forget _ ⟨rfl,trivial⟩)
   | false =>
    replace h:=zAu hb.symm h;obtain⟨y6,hy6,h⟩:=zAc h;refine⟨_,⟨_,_,_,_,hy6,rfl,rfl⟩,?_⟩
    cases h;exact(Le.forget _ ⟨rfl,trivial⟩)
  | false =>
   replace h:=zAu hb.symm h;cases h;exact(Le.forget _ ⟨rfl,trivial⟩)
 ·refine zAh hle ?_;refine zAd ?_;have hy:=osi h;subst hy;exact fin0 rfl rfl
def zUK (n:Nat) (xs:List AV) (r:Ret):Prop:=∃ (a0:(List UInt8×Nd×List zRc×Int)) (y0:Bool),zE9 n a0=some y0/\xs=[.agg ((zAH a0).map .s)]/\r = .val (.s (.bool y0))
def zOn:zAr:=zAq fun xs r=>∃ n,zUK n xs r
theorem zTV:PSound Tryz.prog 13 zOn:=by
 have gok:∀ f s,look? f [(34,zG6),(35,zE4),(36,zKF),(37,zNe)]=some s->PSound Tryz.prog f s:=zAm (by
  simp only[List.forall_mem_cons]
  exact⟨zI7,zFm,zPa,zR9,by simp⟩)
 refine zAs tokW Tryz.call13 Tryz.func13 rfl (fun xs r h=>by obtain⟨n,_,_,_,rfl,_⟩:=h; show 1<=83; decide) 83 rfl ?_;rintro xs r w0 G0 ⟨n,⟨a1V,⟨a1Q,a1R,a1S,a1T⟩,a1J,a1U⟩,y0,h,rfl,rfl⟩ _;rw[zE9]at h;refine yAW ?_;refine zAa ?_;refine zAa ?_;obtain⟨x2,hj,h⟩:=zAc h
 refine zAl ⟨ofL [(1,.s (.pt [.str a1V,.int .i64 a1Q,.str a1R,.int .i64 a1S,.sl 4 (Nd.encs a1T),.sl 5 ((List.map zAk) a1J),.int .i64 a1U])),(43,.s (.bool x2))],fun _=>none,0⟩ ?_ (fun σ' hle=>?_)
 ·replace h:=hj;refine zAb [] [13,19,25,28,31,36,41] rfl ?_;intro b hb;cases b with
  | true =>
   replace h:=zAv hb.symm h;intro b hb;subst hb;intro b hb;subst hb;intro b hb;subst hb;intro b hb;subst hb;cases h;exact(Le.forget _ ⟨rfl,rfl,trivial⟩)
  | false =>
   replace h:=zAu hb.symm h;obtain⟨y3,hy3,h⟩:=zAc h;refine⟨_,⟨_,_,_,hy3,rfl,rfl⟩,?_⟩
   intro b hb;cases b with
   | true =>
    replace h:=zAv hb.symm h;intro b hb;subst hb;intro b hb;subst hb;intro b hb;subst hb;cases h;exact(Le.forget _ ⟨rfl,rfl,trivial⟩)
   | false =>
    replace h:=zAu hb.symm h;obtain⟨y4,hy4,h⟩:=zAc h;refine⟨_,⟨_,_,_,hy4,rfl,rfl⟩,?_⟩
    intro b hb;cases b with
    | true =>
     replace h:=zAv hb.symm h;intro b hb;subst hb;intro b hb;subst hb;cases h;exact(Le.forget _ ⟨rfl,rfl,trivial⟩)
    | false =>
     replace h:=zAu hb.symm h;intro n5 hn5;obtain rfl:(a1J.length:Int)=n5:=(hn5.trans (congrArg (fun m:Nat=>(m:Int)) (rlen (fun _=>rfl) a1J))).symm;intro b hb;cases b with
     | true =>
      replace h:=zAv hb.symm h;intro b hb;subst hb;cases h;exact(Le.forget _ ⟨rfl,rfl,trivial⟩)
     | false =>
      replace h:=zAu hb.symm h;intro b hb;cases b with
      | true =>
       replace h:=zAv hb.symm h;cases h;exact(Le.forget _ ⟨rfl,rfl,trivial⟩)
      | false =>
       replace h:=zAu hb.symm h;intro n6 hn6;obtain rfl:(a1J.length:Int)=n6:=(hn6.trans (congrArg (fun m:Nat=>(m:Int)) (rlen (fun _=>rfl) a1J))).symm;cases h;exact(Le.forget _ ⟨rfl,rfl,trivial⟩)
 ·refine zAh hle ?_;refine zAf rfl h (fun hb h=>?_) (fun hb h=>?_)
  ·refine yAW ?_;refine zAd ?_;have hy:=osi h;subst hy;exact fin0 rfl rfl
  ·refine zAe ?_;refine yAh [3] [] rfl ?_;refine zAa ?_;refine yAW ?_;show Tri ..;obtain⟨fl,hl,ho1⟩:=zAc h;refine zBA (fl:=fl) (fun z=>match z with | _=>⟨ofL [],fun _=>none,0⟩) ?_ (fun z σ' hz hle=>?_)
   ·refine zAi (zAt (X:=Nat×Int×(List UInt8)×Int×(List Nd)×Int) (fun y=>match y with | (k,x7,x8,x9,x10,x11)=>⟨ofL [(1,.s (.pt [.str a1V,.int .i64 a1Q,.str a1R,.int .i64 a1S,.sl 4 (Nd.encs a1T),.sl 5 ((List.map zAk) a1J),.int .i64 a1U])),(3,.op 0 0),(4,.s (.int .i64 x11))],ofH [(0,.box 24 [.s (.int .i64 x7),.s (.str x8),.s (.int .i64 x9),.s (.sl 4 (Nd.encs x10))])],1⟩) (fun y=>zDn n a1J y.1 y.2.1 y.2.2.1 y.2.2.2.1 y.2.2.2.2.1 y.2.2.2.2.2=some fl) (fun y=>y.1) (n,a1Q,a1R,a1S,a1T,0) hl ?_ ?_)
    ·exact(Le.rnm [(0,0)] _ _ _ ⟨rfl,rfl,rfl,trivial⟩ ⟨rfl,⟨_,rfl,rfl⟩,trivial⟩)
    ·rintro⟨k,x7,x8,x9,x10,x11⟩ h;cases k with
     | zero=>cases h
     | succ k =>
      replace h:zDn n a1J (k+1) x7 x8 x9 x10 x11=some fl:=h;rw[zDn]at h;refine zAa ?_;refine yAh [] [49] rfl ?_;intro n12 hn12;obtain rfl:(a1J.length:Int)=n12:=(hn12.trans (congrArg (fun m:Nat=>(m:Int)) (rlen (fun _=>rfl) a1J))).symm;refine zAf rfl h (fun hb h=>?_) (fun hb h=>?_)
      ·refine zAe ?_;refine zAa ?_;refine zAi ?_;refine yAh [5] [56] rfl ?_;obtain⟨⟨e13P,⟨e13W,e13X⟩,⟨e13Y,e13Z⟩⟩,he13,h⟩:=zAc h;refine And.intro (zAn (fun _=>rfl) he13).1 ?_;intro r14 hr14;obtain rfl:[.sl 8 ((List.map zAo) e13P),.sl 1 ((List.map (irow .i64)) e13W),.sl 1 ((List.map (irow .i64)) e13X),.sl 1 ((List.map (irow .i64)) e13Y),.sl 1 ((List.map (irow .i64)) e13Z)]=r14:=(hr14.trans (zAn (fun _=>rfl) he13).2.1).symm;show Tri ..
       refine zAh (Le.giveBox 1 [.sl 8 ((List.map zAo) e13P),.sl 1 ((List.map (irow .i64)) e13W),.sl 1 ((List.map (irow .i64)) e13X),.sl 1 ((List.map (irow .i64)) e13Y),.sl 1 ((List.map (irow .i64)) e13Z)] rfl rfl) ?_;refine yAh [6] [] rfl ?_;obtain⟨⟨⟨y15A,y15B,y15F,y15E⟩,y16,y17⟩,hy15,h⟩:=zAc h;refine⟨_,⟨_,_,_,_,_,_,hy15,rfl,rfl⟩,?_⟩
       refine zAh (Le.giveBox 2 [.int .i64 y15A,.str y15B,.int .i64 y15F,.sl 4 (Nd.encs y15E)] rfl rfl) ?_;refine zAa ?_;refine zAa ?_;obtain⟨x18,hj,h⟩:=zAc h
       refine zAl ⟨ofL [(1,.s (.pt [.str a1V,.int .i64 a1Q,.str a1R,.int .i64 a1S,.sl 4 (Nd.encs a1T),.sl 5 ((List.map zAk) a1J),.int .i64 a1U])),(3,.op 0 0),(4,.s (.int .i64 x11)),(6,.s (.pt [.int .i64 y15A,.str y15B,.int .i64 y15F,.sl 4 (Nd.encs y15E)])),(81,.s (.bool x18))],ofH [(0,.box 24 [.s (.int .i64 x7),.s (.str x8),.s (.int .i64 x9),.s (.sl 4 (Nd.encs x10))])],1⟩ ?_ (fun σ' hle=>?_)
       ·replace h:=hj;refine zAb [] [68,75] rfl ?_;intro b hb;cases b with
        | true =>
         replace h:=zAv hb.symm h;intro b hb;subst hb;cases h;exact(Le.rnm [(0,0)] _ _ _ ⟨rfl,rfl,rfl,rfl,rfl,trivial⟩ ⟨rfl,⟨_,rfl,rfl⟩,trivial⟩)
        | false =>
         replace h:=zAu hb.symm h;obtain⟨y19,hy19,h⟩:=zAc h;refine⟨_,⟨_,_,_,_,hy19,rfl,rfl⟩,?_⟩
         intro b hb;cases b with
         | true =>
          replace h:=zAv hb.symm h;cases h;exact(Le.rnm [(0,0)] _ _ _ ⟨rfl,rfl,rfl,rfl,rfl,trivial⟩ ⟨rfl,⟨_,rfl,rfl⟩,trivial⟩)
         | false =>
          replace h:=zAu hb.symm h;obtain⟨y20,hy20,h⟩:=zAc h;refine⟨_,⟨_,_,_,_,hy20,rfl,rfl⟩,?_⟩
          cases h;exact(Le.rnm [(0,0)] _ _ _ ⟨rfl,rfl,rfl,rfl,rfl,trivial⟩ ⟨rfl,⟨_,rfl,rfl⟩,trivial⟩)
       ·refine zAh hle ?_;refine zAf rfl h (fun hb h=>?_) (fun hb h=>?_)
        ·refine yAW ?_;refine zAd ?_;cases h;replace h:some _=some _:=ho1;have hy:=osi h;subst hy;exact fin0 rfl rfl
        ·refine zAe ?_;refine yAV ?_;refine yAV ?_;refine⟨(k,y15A,y15B,y15F,y15E,IntKind.i64.wrap (x11+1)),h,(Le.rnm [(0,0)] _ _ _ ⟨rfl,rfl,rfl,trivial⟩ ⟨rfl,⟨_,rfl,rfl⟩,trivial⟩),Nat.lt_succ_self k⟩
      ·refine zAy ?_;cases h;exact⟨_,rfl,(Le.rnm [] _ [] 0 trivial trivial)⟩
   ·subst hz;obtain _:=z;replace h:=ho1;refine zAh hle ?_;refine yAW ?_;refine zAd ?_;have hy:=osi h;subst hy;exact fin0 rfl rfl
def zWq (n:Nat) (xs:List AV) (r:Ret):Prop:=∃ (a0:List UInt8) (y0:(List UInt8×Nd×List zRc×Int)) (y1:Int),zDz n a0=some (y0,y1)/\xs=[.s (.sl 1 ((List.map brow) a0))]/\r = .val (.tup [.agg ((zAH y0).map .s),.s (.int .i64 y1)])
def zQx:zAr:=zAq fun xs r=>∃ n,zWq n xs r
theorem zVd:PSound Tryz.prog 18 zQx:=by
 have gok:∀ f s,look? f [(32,zOe),(31,zOf),(42,zM6),(43,zQA),(30,zOr),(44,zOd),(13,zOn)]=some s->PSound Tryz.prog f s:=zAm (by
  simp only[List.forall_mem_cons]
  exact⟨zTM,zTN,zR1,zVg,zTZ,zTL,zTV,by simp⟩)
 refine zAs tokW Tryz.call18 Tryz.func18 rfl (fun xs r h=>by obtain⟨n,_,_,_,_,rfl,_⟩:=h; show 1<=49; decide) 49 rfl ?_;rintro xs r w0 G0 ⟨n,b1,y0,y1,h,rfl,rfl⟩ _;rw[zDz]at h;refine yAh [2] [] rfl ?_;refine zAa ?_;refine zAa ?_;obtain⟨x2,hj,h⟩:=zAc h;refine zAl ⟨ofL [(0,.s (.sl 1 ((List.map brow) b1))),(2,.op 0 0),(15,.s (.bool x2))],ofH [(0,.box 27 [.s (.str []),.s (.int .i64 0),.s (.str []),.s (.int .i64 0),.nl 4,.nl 5,.s (.int .i64 0)])],1⟩ ?_ (fun σ' hle=>?_)
 ·replace h:=hj;refine zAb [] [8,10,12,13] rfl ?_;intro n3 hn3;obtain rfl:(b1.length:Int)=n3:=(hn3.trans (congrArg (fun m:Nat=>(m:Int)) (rlen (fun _=>rfl) b1))).symm;intro b hb;cases b with
  | true =>
   replace h:=zAv hb.symm h;cases h;exact(Le.rnm [(0,0)] _ _ _ ⟨rfl,rfl,rfl,trivial⟩ ⟨rfl,⟨_,rfl,rfl⟩,trivial⟩)
  | false =>
   replace h:=zAu hb.symm h;obtain⟨hq,h⟩:=zAw h;refine And.intro ⟨hq.1,hq.2.1,Int.le_trans hq.2.2 (Int.ofNat_le.2 (Nat.le_of_eq (rlen (fun _=>rfl) _).symm))⟩ ?_;intro r4 hr4;obtain rfl:(List.map brow) ((b1.take (4:Int).toNat).drop (0:Int).toNat)=r4:=(hr4.trans (rcut (fun _=>rfl) _ _ _)).symm;refine And.intro (show List.map brow ((b1.take (4:Int).toNat).drop (0:Int).toNat)=((List.map brow ((b1.take (4:Int).toNat).drop (0:Int).toNat)).map zGB).map brow from by rw[zC7]) ?_;intro s5 hs5;obtain rfl:(b1.take (4:Int).toNat).drop (0:Int).toNat=s5:=(hs5.trans (zC7 _)).symm;cases h
   exact(Le.rnm [(0,0)] _ _ _ ⟨rfl,rfl,rfl,trivial⟩ ⟨rfl,⟨_,rfl,rfl⟩,trivial⟩)
 ·refine zAh hle ?_;refine zAf rfl h (fun hb h=>?_) (fun hb h=>?_)
  ·refine yAW ?_;refine zAd ?_;obtain⟨hj1,hk1⟩:=pij h;subst hj1 hk1;exact fin0 rfl rfl
  ·refine zAe ?_;refine zAa ?_;refine zAa ?_;refine zAK [] [18,21,23,24] [] rfl (by decide +kernel) ?_;obtain⟨hq,h⟩:=zAw h;refine And.intro ⟨hq.1,Int.le_trans hq.2.1 (Int.ofNat_le.2 (Nat.le_of_eq (rlen (fun _=>rfl) _).symm)),Int.le_refl _⟩ ?_;intro r6 hr6;obtain rfl:(List.map brow) ((b1.take (b1.length:Int).toNat).drop (12:Int).toNat)=r6:=(hr6.trans ((congrArg (fun m:Nat=>(((List.map brow) b1).take m).drop (12:Int).toNat) (rlen (fun _=>rfl) _)).trans (rcut (fun _=>rfl) _ _ _))).symm;obtain⟨y7,hy7,h⟩:=zAc h;refine⟨_,⟨_,_,_,hy7,rfl,rfl⟩,?_⟩
   obtain⟨y8,hy8,h⟩:=zAc h;refine⟨_,⟨_,_,_,hy8,rfl,rfl⟩,?_⟩
   refine And.intro (show List.map brow y8=((List.map brow y8).map zGB).map brow from by rw[zC7]) ?_;intro s9 hs9;obtain rfl:y8=s9:=(hs9.trans (zC7 _)).symm;obtain⟨hq,h⟩:=zAw h;refine And.intro ⟨hq.1,hq.2.1,Int.le_trans hq.2.2 (Int.ofNat_le.2 (Nat.le_of_eq (rlen (fun _=>rfl) _).symm))⟩ ?_;intro r10 hr10;obtain rfl:(List.map brow) ((b1.take (12:Int).toNat).drop (4:Int).toNat)=r10:=(hr10.trans (rcut (fun _=>rfl) _ _ _)).symm;refine And.intro (show List.map brow ((b1.take (12:Int).toNat).drop (4:Int).toNat)=((List.map brow ((b1.take (12:Int).toNat).drop (4:Int).toNat)).map zGB).map brow from by rw[zC7]) ?_;intro s11 hs11
   obtain rfl:(b1.take (12:Int).toNat).drop (4:Int).toNat=s11:=(hs11.trans (zC7 _)).symm;refine zAf rfl h (fun hb h=>?_) (fun hb h=>?_)
   ·refine yAW ?_;refine zAd ?_;obtain⟨hj1,hk1⟩:=pij h;subst hj1 hk1;exact fin0 rfl rfl
   ·refine zAe ?_;refine yAh [4] [29] rfl ?_;obtain⟨hq,h⟩:=zAw h;refine And.intro ⟨hq.1,Int.le_trans hq.2.1 (Int.ofNat_le.2 (Nat.le_of_eq (rlen (fun _=>rfl) _).symm)),Int.le_refl _⟩ ?_;intro r12 hr12;obtain rfl:(List.map brow) ((b1.take (b1.length:Int).toNat).drop (12:Int).toNat)=r12:=(hr12.trans ((congrArg (fun m:Nat=>(((List.map brow) b1).take m).drop (12:Int).toNat) (rlen (fun _=>rfl) _)).trans (rcut (fun _=>rfl) _ _ _))).symm;obtain⟨⟨⟨y13A,y13D,y13B,y13C⟩,y14⟩,hy13,h⟩:=zAc h;refine⟨_,⟨_,_,_,_,hy13,rfl,rfl⟩,?_⟩
    refine zAh (Le.giveBox 1 [.int .i64 y13A,.int .i64 y13D,.str y13B,.sl 4 (CV.encs y13C)] rfl rfl) ?_;refine zAa ?_;refine yAW ?_;refine zAf rfl h (fun hb h=>?_) (fun hb h=>?_)
    ·refine yAW ?_;refine zAd ?_;obtain⟨hj1,hk1⟩:=pij h;subst hj1 hk1;exact fin0 rfl rfl
    ·refine zAe ?_;refine yAh [6] [] rfl ?_;obtain⟨⟨y15V,⟨y15Q,y15R,y15S,y15T⟩,y15J,y15U⟩,hy15,h⟩:=zAc h;refine⟨_,⟨_,_,_,hy15,rfl,rfl⟩,?_⟩
     refine zAh (Le.giveBox 2 [.str y15V,.int .i64 y15Q,.str y15R,.int .i64 y15S,.sl 4 (Nd.encs y15T),.sl 5 ((List.map zAk) y15J),.int .i64 y15U] rfl rfl) ?_;refine zAa ?_;refine zAa ?_;refine zAK [] [] [] rfl (by decide +kernel) ?_;obtain⟨⟨y16A,y16D,y16B,y16C⟩,hy16,h⟩:=zAc h;refine⟨_,⟨_,_,_,hy16,rfl,rfl⟩,?_⟩
     obtain⟨y17,hy17,h⟩:=zAc h;refine⟨_,⟨_,_,_,_,hy17,rfl,rfl⟩,?_⟩
     refine zAf rfl h (fun hb h=>?_) (fun hb h=>?_)
     ·refine yAW ?_;refine zAd ?_;obtain⟨hj1,hk1⟩:=pij h;subst hj1 hk1;exact fin0 rfl rfl
     ·refine zAe ?_;refine zAa ?_;refine yAW ?_;obtain⟨y18,hy18,h⟩:=zAc h;refine⟨_,⟨_,_,_,hy18,rfl,rfl⟩,?_⟩
      refine zAf rfl h (fun hb h=>?_) (fun hb h=>?_)
      ·refine yAW ?_;refine zAd ?_;obtain⟨hj1,hk1⟩:=pij h;subst hj1 hk1;exact fin0 rfl rfl
      ·refine zAe ?_;refine yAW ?_;refine zAd ?_;obtain⟨hj1,hk1⟩:=pij h;subst hj1 hk1;exact fin0 rfl rfl
def zWo (n:Nat) (xs:List AV) (r:Ret):Prop:=∃ (a0:zO8) (a1:zO8) (y0:Bool),zGR n a0 a1=some y0/\xs=[.agg ((zAo a0).map .s),.agg ((zAo a1).map .s)]/\r = .val (.s (.bool y0))
def zQv:zAr:=zAq fun xs r=>∃ n,zWo n xs r
theorem zVb:PSound Tryz.prog 164 zQv:=by
 have gok:∀ f s,look? f [(38,zG7)]=some s->PSound Tryz.prog f s:=zAm (by
  simp only[List.forall_mem_cons]
  exact⟨zI8,by simp⟩)
 refine zAs tokW Tryz.call164 Tryz.func164 rfl (fun xs r h=>by obtain⟨n,_,_,_,_,rfl,_⟩:=h; show 2<=78; decide) 78 rfl ?_;rintro xs r w0 G0 ⟨n,⟨a1A,a1I,a1H,a1L,a1G,a1K,a1M,a1B⟩,⟨a2A,a2I,a2H,a2L,a2G,a2K,a2M,a2B⟩,y0,h,rfl,rfl⟩ _;rw[zGR]at h;refine yAW ?_;refine zAa ?_;refine zAa ?_;obtain⟨x3,hj,h⟩:=zAc h
 refine zAl ⟨ofL [(2,.s (.pt [.int .i64 a1A,.sl 1 ((List.map (irow .i64)) a1I),.int .i64 a1H,.int .i64 a1L,.sl 4 (Nd.encs a1G),.int .i64 a1K,.str a1M,.str a1B])),(3,.s (.pt [.int .i64 a2A,.sl 1 ((List.map (irow .i64)) a2I),.int .i64 a2H,.int .i64 a2L,.sl 4 (Nd.encs a2G),.int .i64 a2K,.str a2M,.str a2B])),(54,.s (.bool x3))],fun _=>none,0⟩ ?_ (fun σ' hle=>?_)
 ·replace h:=hj;refine zAb [] [11,18,25,32,39,46,49,52] rfl ?_;intro b hb;cases b with
  | true =>
   replace h:=zAv hb.symm h;intro b hb;subst hb;intro b hb;subst hb;intro b hb;subst hb;intro b hb;subst hb;intro b hb;subst hb;cases h;exact(Le.forget _ ⟨rfl,rfl,rfl,trivial⟩)
  | false =>
   replace h:=zAu hb.symm h;intro b hb;cases b with
   | true =>
    replace h:=zAv hb.symm h;intro b hb;subst hb;intro b hb;subst hb;intro b hb;subst hb;intro b hb;subst hb;cases h;exact(Le.forget _ ⟨rfl,rfl,rfl,trivial⟩)
   | false =>
    replace h:=zAu hb.symm h;intro b hb;cases b with
    | true =>
     replace h:=zAv hb.symm h;intro b hb;subst hb;intro b hb;subst hb;intro b hb;subst hb;cases h;exact(Le.forget _ ⟨rfl,rfl,rfl,trivial⟩)
    | false =>
     replace h:=zAu hb.symm h;intro b hb;cases b with
     | true =>
      replace h:=zAv hb.symm h;intro b hb;subst hb;intro b hb;subst hb;cases h;exact(Le.forget _ ⟨rfl,rfl,rfl,trivial⟩)
     | false =>
      replace h:=zAu hb.symm h;intro b hb;cases b with
      | true =>
       replace h:=zAv hb.symm h;intro b hb;subst hb;cases h;exact(Le.forget _ ⟨rfl,rfl,rfl,trivial⟩)
      | false =>
       replace h:=zAu hb.symm h;intro b hb;cases b with
       | true =>
        replace h:=zAv hb.symm h;cases h;exact(Le.forget _ ⟨rfl,rfl,rfl,trivial⟩)
       | false =>
        replace h:=zAu hb.symm h;intro n4 hn4;obtain rfl:(a1I.length:Int)=n4:=(hn4.trans (congrArg (fun m:Nat=>(m:Int)) (rlen (fun _=>rfl) a1I))).symm;intro n5 hn5;obtain rfl:(a2I.length:Int)=n5:=(hn5.trans (congrArg (fun m:Nat=>(m:Int)) (rlen (fun _=>rfl) a2I))).symm;cases h;exact(Le.forget _ ⟨rfl,rfl,rfl,trivial⟩)
 ·refine zAh hle ?_;refine zAf rfl h (fun hb h=>?_) (fun hb h=>?_)
  ·refine yAW ?_;refine zAd ?_;have hy:=osi h;subst hy;exact fin0 rfl rfl
  ·refine zAe ?_;refine zAa ?_;refine yAW ?_;show Tri ..;obtain⟨fl,hl,ho1⟩:=zAc h;refine zBA (fl:=fl) (fun z=>match z with | _=>⟨ofL [(2,.s (.pt [.int .i64 a1A,.sl 1 ((List.map (irow .i64)) a1I),.int .i64 a1H,.int .i64 a1L,.sl 4 (Nd.encs a1G),.int .i64 a1K,.str a1M,.str a1B])),(3,.s (.pt [.int .i64 a2A,.sl 1 ((List.map (irow .i64)) a2I),.int .i64 a2H,.int .i64 a2L,.sl 4 (Nd.encs a2G),.int .i64 a2K,.str a2M,.str a2B]))],fun _=>none,0⟩) ?_ (fun z σ' hz hle=>?_)
   ·refine zAi (zAt (X:=Nat×Int) (fun y=>match y with | (k,x6)=>⟨ofL [(2,.s (.pt [.int .i64 a1A,.sl 1 ((List.map (irow .i64)) a1I),.int .i64 a1H,.int .i64 a1L,.sl 4 (Nd.encs a1G),.int .i64 a1K,.str a1M,.str a1B])),(3,.s (.pt [.int .i64 a2A,.sl 1 ((List.map (irow .i64)) a2I),.int .i64 a2H,.int .i64 a2L,.sl 4 (Nd.encs a2G),.int .i64 a2K,.str a2M,.str a2B])),(5,.s (.int .i64 x6))],fun _=>none,0⟩) (fun y=>zDK a1I a2I y.1 y.2=some fl) (fun y=>y.1) (n,0) hl ?_ ?_)
    ·exact(Le.forget _ ⟨rfl,rfl,rfl,trivial⟩)
    ·rintro⟨k,x6⟩ h;cases k with
     | zero=>cases h
     | succ k =>
      replace h:zDK a1I a2I (k+1) x6=some fl:=h;rw[zDK]at h;refine zAa ?_;refine yAh [] [58] rfl ?_;intro n7 hn7;obtain rfl:(a1I.length:Int)=n7:=(hn7.trans (congrArg (fun m:Nat=>(m:Int)) (rlen (fun _=>rfl) a1I))).symm;refine zAf rfl h (fun hb h=>?_) (fun hb h=>?_)
      ·refine zAe ?_;refine zAa ?_;refine zAi ?_;refine zAa ?_;refine zAK [] [65,70] [] rfl (by decide +kernel) ?_;obtain⟨e8,he8,h⟩:=zAc h;refine And.intro (zAn (fun _=>rfl) he8).1 ?_;intro r9 hr9;obtain rfl:[.int .i64 e8]=r9:=(hr9.trans (zAn (fun _=>rfl) he8).2.1).symm;obtain⟨e10,he10,h⟩:=zAc h;refine And.intro (zAn (fun _=>rfl) he10).1 ?_;intro r11 hr11;obtain rfl:[.int .i64 e10]=r11:=(hr11.trans (zAn (fun _=>rfl) he10).2.1).symm;refine zAf rfl h (fun hb h=>?_) (fun hb h=>?_)
       ·refine yAW ?_;refine zAd ?_;cases h;replace h:some _=some _:=ho1;have hy:=osi h;subst hy;exact fin0 rfl rfl
       ·refine zAe ?_;refine yAV ?_;refine⟨(k,IntKind.i64.wrap (x6+1)),h,(Le.forget _ ⟨rfl,rfl,rfl,trivial⟩),Nat.lt_succ_self k⟩
      ·refine zAy ?_;cases h;exact⟨_,rfl,(Le.forget _ ⟨rfl,rfl,trivial⟩)⟩
   ·subst hz;obtain _:=z;replace h:=ho1;refine zAh hle ?_;refine yAW ?_;obtain⟨y12,hy12,h⟩:=zAc h;refine⟨_,⟨_,_,_,_,hy12,rfl,rfl⟩,?_⟩
    refine zAd ?_;have hy:=osi h;subst hy;exact fin0 rfl rfl
def zRr (n:Nat) (xs:List AV) (r:Ret):Prop:=∃ (a0:List zO8) (a1:List zO8) (y0:Bool),zGH n a0 a1=some y0/\xs=[.s (.sl 8 ((List.map zAo) a0)),.s (.sl 8 ((List.map zAo) a1))]/\r = .val (.s (.bool y0))
def zLQ:zAr:=zAq fun xs r=>∃ n,zRr n xs r
theorem zQb:PSound Tryz.prog 129 zLQ:=by
 have gok:∀ f s,look? f [(164,zQv)]=some s->PSound Tryz.prog f s:=zAm (by
  simp only[List.forall_mem_cons]
  exact⟨zVb,by simp⟩)
 refine zAs tokW Tryz.call129 Tryz.func129 rfl (fun xs r h=>by obtain⟨n,_,_,_,_,rfl,_⟩:=h; show 2<=27; decide) 27 rfl ?_;rintro xs r w0 G0 ⟨n,a1,b2,y0,h,rfl,rfl⟩ _;rw[zGH]at h;refine yAW ?_;refine zAa ?_;refine yAh [] [7,9] rfl ?_;intro n3 hn3;obtain rfl:(a1.length:Int)=n3:=(hn3.trans (congrArg (fun m:Nat=>(m:Int)) (rlen (fun _=>rfl) a1))).symm;intro n4 hn4;obtain rfl:(b2.length:Int)=n4:=(hn4.trans (congrArg (fun m:Nat=>(m:Int)) (rlen (fun _=>rfl) b2))).symm;refine zAf rfl h (fun hb h=>?_) (fun hb h=>?_)
 ·refine yAW ?_;refine zAd ?_;have hy:=osi h;subst hy;exact fin0 rfl rfl
 ·refine zAe ?_;refine zAa ?_;refine yAW ?_;show Tri ..;obtain⟨fl,hl,ho1⟩:=zAc h;refine zBA (fl:=fl) (fun z=>match z with | _=>⟨ofL [],fun _=>none,0⟩) ?_ (fun z σ' hz hle=>?_)
  ·refine zAi (zAt (X:=Nat×Int) (fun y=>match y with | (k,i5)=>⟨ofL [(0,.s (.sl 8 ((List.map zAo) a1))),(1,.s (.sl 8 ((List.map zAo) b2))),(5,.s (.int .i64 i5))],fun _=>none,0⟩) (fun y=>zCw n a1 b2 y.1 y.2=some fl) (fun y=>y.1) (n,0) hl ?_ ?_)
   ·exact(Le.forget _ ⟨rfl,rfl,rfl,trivial⟩)
   ·rintro⟨k,i5⟩ h;cases k with
    | zero=>cases h
    | succ k =>
     replace h:zCw n a1 b2 (k+1) i5=some fl:=h;rw[zCw]at h;refine zAa ?_;refine yAh [] [13] rfl ?_;intro n6 hn6;obtain rfl:(a1.length:Int)=n6:=(hn6.trans (congrArg (fun m:Nat=>(m:Int)) (rlen (fun _=>rfl) a1))).symm;refine zAf rfl h (fun hb h=>?_) (fun hb h=>?_)
     ·refine zAe ?_;refine zAa ?_;refine zAi ?_;refine zAa ?_;refine zAK [] [19,23] [] rfl (by decide +kernel) ?_;obtain⟨⟨e7A,e7I,e7H,e7L,e7G,e7K,e7M,e7B⟩,he7,h⟩:=zAc h;refine And.intro (zAn (fun _=>rfl) he7).1 ?_;intro r8 hr8;obtain rfl:[.int .i64 e7A,.sl 1 ((List.map (irow .i64)) e7I),.int .i64 e7H,.int .i64 e7L,.sl 4 (Nd.encs e7G),.int .i64 e7K,.str e7M,.str e7B]=r8:=(hr8.trans (zAn (fun _=>rfl) he7).2.1).symm;obtain⟨⟨e9A,e9I,e9H,e9L,e9G,e9K,e9M,e9B⟩,he9,h⟩:=zAc h;refine And.intro (zAn (fun _=>rfl) he9).1 ?_
      intro r10 hr10;obtain rfl:[.int .i64 e9A,.sl 1 ((List.map (irow .i64)) e9I),.int .i64 e9H,.int .i64 e9L,.sl 4 (Nd.encs e9G),.int .i64 e9K,.str e9M,.str e9B]=r10:=(hr10.trans (zAn (fun _=>rfl) he9).2.1).symm;obtain⟨y11,hy11,h⟩:=zAc h;refine⟨_,⟨_,_,_,_,hy11,rfl,rfl⟩,?_⟩
      refine zAf rfl h (fun hb h=>?_) (fun hb h=>?_)
      ·refine yAW ?_;refine zAd ?_;cases h;replace h:some _=some _:=ho1;have hy:=osi h;subst hy;exact fin0 rfl rfl
      ·refine zAe ?_;refine yAV ?_;refine⟨(k,IntKind.i64.wrap (i5+1)),h,(Le.forget _ ⟨rfl,rfl,rfl,trivial⟩),Nat.lt_succ_self k⟩
     ·refine zAy ?_;cases h;exact⟨_,rfl,(Le.forget _ trivial)⟩
  ·subst hz;obtain _:=z;replace h:=ho1;refine zAh hle ?_;refine yAW ?_;refine zAd ?_;have hy:=osi h;subst hy;exact fin0 rfl rfl
def zWn (n:Nat) (xs:List AV) (r:Ret):Prop:=∃ (a0:List Int) (a1:List Int) (y0:Bool),zGQ n a0 a1=some y0/\xs=[.s (.sl 1 ((List.map (irow .i64)) a0)),.s (.sl 1 ((List.map (irow .i64)) a1))]/\r = .val (.s (.bool y0))
def zQu:zAr:=zAq fun xs r=>∃ n,zWn n xs r
theorem zVa:PSound Tryz.prog 165 zQu:=by
 have gok:∀ f s,look? f [(162,zIH)]=some s->PSound Tryz.prog f s:=zAm (by
  simp only[List.forall_mem_cons]
  exact⟨zKR,by simp⟩)
 refine zAs tokW Tryz.call165 Tryz.func165 rfl (fun xs r h=>by obtain⟨n,_,_,_,_,rfl,_⟩:=h; show 2<=9; decide) 9 rfl ?_;rintro xs r w0 G0 ⟨n,a1,b2,y0,h,rfl,rfl⟩ _;rw[zGQ]at h;refine yAW ?_;refine yAW ?_;obtain⟨y3,hy3,h⟩:=zAc h;refine⟨_,⟨_,_,_,_,hy3,rfl,rfl⟩,?_⟩
 refine zAd ?_;have hy:=osi h;subst hy;exact fin0 rfl rfl
def zND (n:Nat) (xs:List AV) (r:Ret):Prop:=∃ (a0:zCu) (a1:zCu) (y0:Bool),zC6 n a0 a1=some y0/\xs=[.agg ((zA9 a0).map .s),.agg ((zA9 a1).map .s)]/\r = .val (.s (.bool y0))
def zI4:zAr:=zAq fun xs r=>∃ n,zND n xs r
theorem zMI:PSound Tryz.prog 130 zI4:=by
 have gok:∀ f s,look? f [(165,zQu)]=some s->PSound Tryz.prog f s:=zAm (by
  simp only[List.forall_mem_cons]
  exact⟨zVa,by simp⟩)
 refine zAs tokW Tryz.call130 Tryz.func130 rfl (fun xs r h=>by obtain⟨n,_,_,_,_,rfl,_⟩:=h; show 2<=17; decide) 17 rfl ?_;rintro xs r w0 G0 ⟨n,⟨a1Ai,a1Ah⟩,⟨b2Ai,b2Ah⟩,y0,h,rfl,rfl⟩ _;rw[zC6]at h;refine yAW ?_;refine zAa ?_;obtain⟨x3,hj,h⟩:=zAc h;refine zAl ⟨ofL [(4,.s (.bool x3))],fun _=>none,0⟩ ?_ (fun σ' hle=>?_)
 ·replace h:=hj;refine zAb [] [10] rfl ?_;obtain⟨y4,hy4,h⟩:=zAc h;refine⟨_,⟨_,_,_,_,hy4,rfl,rfl⟩,?_⟩
  intro b hb;cases b with
  | true =>
   replace h:=zAv hb.symm h;obtain⟨y5,hy5,h⟩:=zAc h;refine⟨_,⟨_,_,_,_,hy5,rfl,rfl⟩,?_⟩
   cases h;exact(Le.forget _ ⟨rfl,trivial⟩)
  | false =>
   replace h:=zAu hb.symm h;cases h;exact(Le.forget _ ⟨rfl,trivial⟩)
 ·refine zAh hle ?_;refine zAd ?_;have hy:=osi h;subst hy;exact fin0 rfl rfl
def zWp (n:Nat) (xs:List AV) (r:Ret):Prop:=∃ (a0:zRc) (a1:zRc) (y0:Bool),zIu n a0 a1=some y0/\xs=[.agg ((zAk a0).map .s),.agg ((zAk a1).map .s)]/\r = .val (.s (.bool y0))
def zQw:zAr:=zAq fun xs r=>∃ n,zWp n xs r
theorem zVc:PSound Tryz.prog 94 zQw:=by
 have gok:∀ f s,look? f [(129,zLQ),(130,zI4)]=some s->PSound Tryz.prog f s:=zAm (by
  simp only[List.forall_mem_cons]
  exact⟨zQb,zMI,by simp⟩)
 refine zAs tokW Tryz.call94 Tryz.func94 rfl (fun xs r h=>by obtain⟨n,_,_,_,_,rfl,_⟩:=h; show 2<=24; decide) 24 rfl ?_;rintro xs r w0 G0 ⟨n,⟨a1P,⟨a1W,a1X⟩,⟨a1Y,a1Z⟩⟩,⟨b2P,⟨b2W,b2X⟩,⟨b2Y,b2Z⟩⟩,y0,h,rfl,rfl⟩ _;rw[zIu]at h;refine yAW ?_;refine zAa ?_;obtain⟨x3,hj,h⟩:=zAc h;refine zAl ⟨ofL [(4,.s (.bool x3))],fun _=>none,0⟩ ?_ (fun σ' hle=>?_)
 ·replace h:=hj;refine zAb [] [10,17] rfl ?_;obtain⟨y4,hy4,h⟩:=zAc h;refine⟨_,⟨_,_,_,_,hy4,rfl,rfl⟩,?_⟩
  intro b hb;cases b with
  | true =>
   replace h:=zAv hb.symm h;obtain⟨y5,hy5,h⟩:=zAc h;refine⟨_,⟨_,_,_,_,hy5,rfl,rfl⟩,?_⟩
   intro b hb;cases b with
   | true =>
    replace h:=zAv hb.symm h;obtain⟨y6,hy6,h⟩:=zAc h;refine⟨_,⟨_,_,_,_,hy6,rfl,rfl⟩,?_⟩
    cases h;exact(Le.forget _ ⟨rfl,trivial⟩)
   | false =>
    replace h:=zAu hb.symm h;cases h;exact(Le.forget _ ⟨rfl,trivial⟩)
  | false =>
   replace h:=zAu hb.symm h;intro b hb;subst hb;cases h;exact(Le.forget _ ⟨rfl,trivial⟩)
 ·refine zAh hle ?_;refine zAd ?_;have hy:=osi h;subst hy;exact fin0 rfl rfl
def zMs (n:Nat) (xs:List AV) (r:Ret):Prop:=∃ (a0:List zRc) (a1:List zRc) (y0:Bool),zEG n a0 a1=some y0/\xs=[.s (.sl 5 ((List.map zAk) a0)),.s (.sl 5 ((List.map zAk) a1))]/\r = .val (.s (.bool y0))
def zIc:zAr:=zAq fun xs r=>∃ n,zMs n xs r
theorem zL7:PSound Tryz.prog 45 zIc:=by
 have gok:∀ f s,look? f [(94,zQw)]=some s->PSound Tryz.prog f s:=zAm (by
  simp only[List.forall_mem_cons]
  exact⟨zVc,by simp⟩)
 refine zAs tokW Tryz.call45 Tryz.func45 rfl (fun xs r h=>by obtain⟨n,_,_,_,_,rfl,_⟩:=h; show 2<=27; decide) 27 rfl ?_;rintro xs r w0 G0 ⟨n,a1,b2,y0,h,rfl,rfl⟩ _;rw[zEG]at h;refine yAW ?_;refine zAa ?_;refine yAh [] [7,9] rfl ?_;intro n3 hn3;obtain rfl:(a1.length:Int)=n3:=(hn3.trans (congrArg (fun m:Nat=>(m:Int)) (rlen (fun _=>rfl) a1))).symm;intro n4 hn4;obtain rfl:(b2.length:Int)=n4:=(hn4.trans (congrArg (fun m:Nat=>(m:Int)) (rlen (fun _=>rfl) b2))).symm;refine zAf rfl h (fun hb h=>?_) (fun hb h=>?_)
 ·refine yAW ?_;refine zAd ?_;have hy:=osi h;subst hy;exact fin0 rfl rfl
 ·refine zAe ?_;refine zAa ?_;refine yAW ?_;show Tri ..;obtain⟨fl,hl,ho1⟩:=zAc h;refine zBA (fl:=fl) (fun z=>match z with | _=>⟨ofL [],fun _=>none,0⟩) ?_ (fun z σ' hz hle=>?_)
  ·refine zAi (zAt (X:=Nat×Int) (fun y=>match y with | (k,i5)=>⟨ofL [(0,.s (.sl 5 ((List.map zAk) a1))),(1,.s (.sl 5 ((List.map zAk) b2))),(5,.s (.int .i64 i5))],fun _=>none,0⟩) (fun y=>zBw n a1 b2 y.1 y.2=some fl) (fun y=>y.1) (n,0) hl ?_ ?_)
   ·exact(Le.forget _ ⟨rfl,rfl,rfl,trivial⟩)
   ·rintro⟨k,i5⟩ h;cases k with
    | zero=>cases h
    | succ k =>
     replace h:zBw n a1 b2 (k+1) i5=some fl:=h;rw[zBw]at h;refine zAa ?_;refine yAh [] [13] rfl ?_;intro n6 hn6;obtain rfl:(a1.length:Int)=n6:=(hn6.trans (congrArg (fun m:Nat=>(m:Int)) (rlen (fun _=>rfl) a1))).symm;refine zAf rfl h (fun hb h=>?_) (fun hb h=>?_)
     ·refine zAe ?_;refine zAa ?_;refine zAi ?_;refine zAa ?_;refine zAK [] [19,23] [] rfl (by decide +kernel) ?_;obtain⟨⟨e7P,⟨e7W,e7X⟩,⟨e7Y,e7Z⟩⟩,he7,h⟩:=zAc h;refine And.intro (zAn (fun _=>rfl) he7).1 ?_;intro r8 hr8;obtain rfl:[.sl 8 ((List.map zAo) e7P),.sl 1 ((List.map (irow .i64)) e7W),.sl 1 ((List.map (irow .i64)) e7X),.sl 1 ((List.map (irow .i64)) e7Y),.sl 1 ((List.map (irow .i64)) e7Z)]=r8:=(hr8.trans (zAn (fun _=>rfl) he7).2.1).symm
      obtain⟨⟨e9P,⟨e9W,e9X⟩,⟨e9Y,e9Z⟩⟩,he9,h⟩:=zAc h;refine And.intro (zAn (fun _=>rfl) he9).1 ?_;intro r10 hr10;obtain rfl:[.sl 8 ((List.map zAo) e9P),.sl 1 ((List.map (irow .i64)) e9W),.sl 1 ((List.map (irow .i64)) e9X),.sl 1 ((List.map (irow .i64)) e9Y),.sl 1 ((List.map (irow .i64)) e9Z)]=r10:=(hr10.trans (zAn (fun _=>rfl) he9).2.1).symm;obtain⟨y11,hy11,h⟩:=zAc h;refine⟨_,⟨_,_,_,_,hy11,rfl,rfl⟩,?_⟩
      refine zAf rfl h (fun hb h=>?_) (fun hb h=>?_)
      ·refine yAW ?_;refine zAd ?_;cases h;replace h:some _=some _:=ho1;have hy:=osi h;subst hy;exact fin0 rfl rfl
      ·refine zAe ?_;refine yAV ?_;refine⟨(k,IntKind.i64.wrap (i5+1)),h,(Le.forget _ ⟨rfl,rfl,rfl,trivial⟩),Nat.lt_succ_self k⟩
     ·refine zAy ?_;cases h;exact⟨_,rfl,(Le.forget _ trivial)⟩
  ·subst hz;obtain _:=z;replace h:=ho1;refine zAh hle ?_;refine yAW ?_;refine zAd ?_;have hy:=osi h;subst hy;exact fin0 rfl rfl
def zWr (n:Nat) (xs:List AV) (r:Ret):Prop:=∃ (a0:(List UInt8×Nd×List zRc×Int)) (a1:(List UInt8×Nd×List zRc×Int)) (y0:Bool),zFl n a0 a1=some y0/\xs=[.agg ((zAH a0).map .s),.agg ((zAH a1).map .s)]/\r = .val (.s (.bool y0))
def zQy:zAr:=zAq fun xs r=>∃ n,zWr n xs r
theorem zVe:PSound Tryz.prog 19 zQy:=by
 have gok:∀ f s,look? f [(16,zK4),(45,zIc)]=some s->PSound Tryz.prog f s:=zAm (by
  simp only[List.forall_mem_cons]
  exact⟨zNo,zL7,by simp⟩)
 refine zAs tokW Tryz.call19 Tryz.func19 rfl (fun xs r h=>by obtain⟨n,_,_,_,_,rfl,_⟩:=h; show 2<=31; decide) 31 rfl ?_;rintro xs r w0 G0 ⟨n,⟨a1V,⟨a1Q,a1R,a1S,a1T⟩,a1J,a1U⟩,⟨b2V,⟨b2Q,b2R,b2S,b2T⟩,b2J,b2U⟩,y0,h,rfl,rfl⟩ _;rw[zFl]at h;refine yAW ?_;refine zAa ?_;obtain⟨x3,hj,h⟩:=zAc h;refine zAl ⟨ofL [(4,.s (.bool x3))],fun _=>none,0⟩ ?_ (fun σ' hle=>?_)
 ·replace h:=hj;refine zAb [] [10,17,24] rfl ?_;intro b hb;cases b with
  | true =>
   replace h:=zAv hb.symm h;intro b hb;cases b with
   | true =>
    replace h:=zAv hb.symm h;obtain⟨y4,hy4,h⟩:=zAc h;refine⟨_,⟨_,_,_,_,hy4,rfl,rfl⟩,?_⟩
    intro b hb;cases b with
    | true =>
     replace h:=zAv hb.symm h;obtain⟨y5,hy5,h⟩:=zAc h;refine⟨_,⟨_,_,_,_,hy5,rfl,rfl⟩,?_⟩
     cases h;exact(Le.forget _ ⟨rfl,trivial⟩)
    | false =>
     replace h:=zAu hb.symm h;cases h;exact(Le.forget _ ⟨rfl,trivial⟩)
   | false =>
    replace h:=zAu hb.symm h;intro b hb;subst hb;cases h;exact(Le.forget _ ⟨rfl,trivial⟩)
  | false =>
   replace h:=zAu hb.symm h;intro b hb;subst hb;intro b hb;subst hb;cases h;exact(Le.forget _ ⟨rfl,trivial⟩)
 ·refine zAh hle ?_;refine zAd ?_;have hy:=osi h;subst hy;exact fin0 rfl rfl
def zPN (n:Nat) (xs:List AV) (r:Ret):Prop:=∃ (a0:List UInt8) (y0:Bool),zEX n a0=some y0/\xs=[.s (.sl 1 ((List.map brow) a0))]/\r = .val (.s (.bool y0))
def zPU:zAr:=zAq fun xs r=>∃ n,zPN n xs r
theorem zO5:PSound Tryz.prog 5 zPU:=by
 have gok:∀ f s,look? f [(8,zOa),(17,zN8),(18,zQx),(19,zQy)]=some s->PSound Tryz.prog f s:=zAm (by
  simp only[List.forall_mem_cons]
  exact⟨zTI,zTG,zVd,zVe,by simp⟩)
 refine zAs tokW Tryz.call5 Tryz.func5 rfl (fun xs r h=>by obtain⟨n,_,_,_,rfl,_⟩:=h; show 1<=33; decide) 33 rfl ?_;rintro xs r w0 G0 ⟨n,b1,y0,h,rfl,rfl⟩ _;rw[zEX]at h;refine yAW ?_;refine zAa ?_;refine zAa ?_;obtain⟨x2,hj,h⟩:=zAc h;refine zAl ⟨ofL [(0,.s (.sl 1 ((List.map brow) b1))),(13,.s (.bool x2))],fun _=>none,0⟩ ?_ (fun σ' hle=>?_)
 ·replace h:=hj;refine zAb [] [9,11] rfl ?_;obtain⟨y3,hy3,h⟩:=zAc h;refine⟨_,⟨_,_,hy3,rfl,rfl⟩,?_⟩
  intro b hb;cases b with
  | true =>
   replace h:=zAv hb.symm h;cases h;exact(Le.forget _ ⟨rfl,rfl,trivial⟩)
  | false =>
   replace h:=zAu hb.symm h;intro n4 hn4;obtain rfl:(b1.length:Int)=n4:=(hn4.trans (congrArg (fun m:Nat=>(m:Int)) (rlen (fun _=>rfl) b1))).symm;cases h;exact(Le.forget _ ⟨rfl,rfl,trivial⟩)
 ·refine zAh hle ?_;refine zAf rfl h (fun hb h=>?_) (fun hb h=>?_)
  ·refine yAW ?_;obtain⟨y5,hy5,h⟩:=zAc h;refine⟨_,⟨_,_,hy5,rfl,rfl⟩,?_⟩
   refine zAd ?_;have hy:=osi h;subst hy;exact fin0 rfl rfl
  ·refine zAe ?_;refine yAh [3] [] rfl ?_;obtain⟨⟨⟨y6V,⟨y6Q,y6R,y6S,y6T⟩,y6J,y6U⟩,y7⟩,hy6,h⟩:=zAc h;refine⟨_,⟨_,_,_,_,hy6,rfl,rfl⟩,?_⟩
   refine zAh (Le.giveBox 0 [.str y6V,.int .i64 y6Q,.str y6R,.int .i64 y6S,.sl 4 (Nd.encs y6T),.sl 5 ((List.map zAk) y6J),.int .i64 y6U] rfl rfl) ?_;refine yAh [5] [] rfl ?_;obtain⟨⟨⟨y8V,⟨y8Q,y8R,y8S,y8T⟩,y8J,y8U⟩,y9⟩,hy8,h⟩:=zAc h;refine⟨_,⟨_,_,_,_,hy8,rfl,rfl⟩,?_⟩
   refine zAh (Le.giveBox 1 [.str y8V,.int .i64 y8Q,.str y8R,.int .i64 y8S,.sl 4 (Nd.encs y8T),.sl 5 ((List.map zAk) y8J),.int .i64 y8U] rfl rfl) ?_;refine zAa ?_;obtain⟨x10,hj,h⟩:=zAc h;refine zAl ⟨ofL [(2,.s (.bool x10))],fun _=>none,0⟩ ?_ (fun σ' hle=>?_)
   ·replace h:=hj;refine zAb [] [28] rfl ?_;intro b hb;cases b with
    | true =>
     replace h:=zAv hb.symm h;obtain⟨y11,hy11,h⟩:=zAc h;refine⟨_,⟨_,_,_,_,hy11,rfl,rfl⟩,?_⟩
     cases h;exact(Le.rnm [] _ [] 0 ⟨rfl,trivial⟩ trivial)
    | false =>
     replace h:=zAu hb.symm h;cases h;exact(Le.rnm [] _ [] 0 ⟨rfl,trivial⟩ trivial)
   ·refine zAh hle ?_;refine zAd ?_;have hy:=osi h;subst hy;exact fin0 rfl rfl
theorem zAJ {φ:Prop} [Decidable φ] (h:φ):decide φ=true:=decide_eq_true h
theorem zAD {φ:Prop} [Decidable φ] (h:¬ φ):decide φ=false:=decide_eq_false h
theorem zKT {F:Nd->Option Int}{ks:List Nd} (hF:∀ v∈ks,F v=some (v.cnt:Int)) :
  ∀ (k i:Nat) (o:Nat),ks.length - i<k->i<=ks.length->o+Nd.cnts (ks.drop i)<=1073741824->ks.length<=1073741824->zDk F ks k (o:Int) (i:Int)=some ((o+Nd.cnts (ks.drop i):Nat):Int)
 | 0,_,_,h,_,_,_=>by omega
 | k+1,i,o,hk,hi,ho,hl=>by
  unfold zDk
  by_cases h:i<ks.length
  ·rw[zAJ (Int.ofNat_lt.2 h),cond_true,zAC h]
   have hd:=Nd.cnts_drop h;have hf:=hF _ (List.getElem_mem h)
   rcases e:ks[i] with ⟨a,b,c,d⟩
   rw[e]at hd hf;simp only[obs,hf]
   rw[wrap64_in (by omega) (by omega),zAN (by omega),← Int.natCast_add,zKT hF k (i+1) _ (by omega) (by omega) (by omega) hl,hd]
   congr 2; omega
  ·rw[zAD (by omega),cond_false]
   obtain rfl:i=ks.length :=(by omega);simp[Nd.cnts]
theorem zNq:∀ (n:Nat) (t:Nd),t.cnt<n->t.cnt<=67108864->zDH n t=some (t.cnt:Int)
 | 0,_,h,_=>by omega
 | n+1,.mk a b c ks,h,hb=>by
  simp only[Nd.cnt]at h hb;have hl:=Nd.cnts_len ks;unfold zDH;have:=zKT (F:=zDH n) (ks:=ks) (fun v hv=>zNq n v (by have:=Nd.cnts_mem hv; omega) (by have:=Nd.cnts_mem hv; omega)) n 0 1 (by omega) (by omega) (by simp; omega) (by omega)
  rw[show((0:Nat):Int)=0 from rfl,show((1:Nat):Int)=1 from rfl]at this;rw[this]
  simp only[obs,List.drop_zero,Nd.cnt]
  congr 2; omega
def zPV {α:Type} (p:α->Bool) (l:List α):Fl Bool Unit:=if l.all p then .go () else .ret false
theorem zYw {α:Type}{p:α->Bool}{l:List α}{i:Nat} (h:i<l.length):(l.drop i).all p=(p l[i]&&(l.drop (i+1)).all p):=by
 rw[List.drop_eq_getElem_cons h]; rfl
theorem zYx {α:Type}{p:α->Bool}{l:List α}{i:Nat} (h:i<l.length):(l.drop i).any p=(p l[i]||(l.drop (i+1)).any p):=by
 rw[List.drop_eq_getElem_cons h]; rfl
theorem zIP {α:Type}{p:α->Bool}{l:List α} (L:Nat->Int->Option (Fl Bool Unit)) (hb:l.length<=1073741824)
  (h1:∀ (k i:Nat) (h:i<l.length),L (k+1) (i:Int)=if p l[i] then L k (((i+1:Nat)):Int) else some (.ret false)) (h2:∀ k,L (k+1) (l.length:Int)=some (.go ())) :
  ∀ (k i:Nat),l.length - i<k->i<=l.length->L k (i:Int)=some (zPV p (l.drop i))
 | 0,_,h,_=>by omega
 | k+1,i,hk,hi=>by
  by_cases h:i<l.length
  ·rw[h1 k i h,zIP L hb h1 h2 k (i+1) (by omega) (by omega)]
   unfold zPV;rw[zYw h]
   cases p l[i] <;> simp
  ·obtain rfl:i=l.length :=(by omega);rw[h2]; simp[zPV]
theorem zRL {α:Type}{p:α->Bool}{l:List α} (L:Nat->Int->Option (Fl Bool Unit)) (hb:l.length<=1073741824)
  (h1:∀ (k i:Nat) (h:i<l.length),L (k+1) (i:Int)=if p l[i] then some (.ret true) else L k (((i+1:Nat)):Int)) (h2:∀ k,L (k+1) (l.length:Int)=some (.go ())) :
  ∀ (k i:Nat),l.length - i<k->i<=l.length->L k (i:Int)=some (if (l.drop i).any p then .ret true else .go ())
 | 0,_,h,_=>by omega
 | k+1,i,hk,hi=>by
  by_cases h:i<l.length
  ·rw[h1 k i h,zRL L hb h1 h2 k (i+1) (by omega) (by omega),zYx h]
   cases p l[i] <;> simp
  ·obtain rfl:i=l.length :=(by omega);rw[h2]; simp
theorem zRe {P:UInt8->Bool} (h:(List.range 256).all (fun n=>P n.toUInt8)=true) (b:UInt8):P b=true:=by
 have:P (UInt8.ofNat b.toNat)=true:=List.all_eq_true.1 h b.toNat (List.mem_range.2 b.toNat_lt)
 rwa [UInt8.ofNat_toNat]at this
def zEj (b:UInt8):Bool:=(decide (97<=b.toNat)&&decide (b.toNat<=122))||(decide (65<=b.toNat)&&decide (b.toNat<=90))
def zEO (b:UInt8):Bool:=decide (48<=b.toNat)&&decide (b.toNat<=57)
def zFK (b:UInt8):Bool:=decide (32<=b.toNat)&&decide (b.toNat<=126)
theorem zTa (b:UInt8):(bif decide ((zCA .or .u8 (b.toNat:Int) 32)<97) then some true else some (decide (122<(zCA .or .u8 (b.toNat:Int) 32))))=some (!zEj b) :=
 of_decide_eq_true (zRe (P:=fun b=>decide ((bif decide ((zCA .or .u8 (b.toNat:Int) 32)<97) then some true else some (decide (122<(zCA .or .u8 (b.toNat:Int) 32))))=some (!zEj b))) (by decide +kernel) b)
theorem zNj (b:UInt8):zFk (b.toNat:Int)=some (zEj b) :=
 of_decide_eq_true (zRe (P:=fun b=>decide (zFk (b.toNat:Int)=some (zEj b))) (by decide +kernel) b)
theorem zUS (b:UInt8):zHm (b.toNat:Int)=some (zEO b) :=
 of_decide_eq_true (zRe (P:=fun b=>decide (zHm (b.toNat:Int)=some (zEO b))) (by decide +kernel) b)
theorem zOT (n:Nat) (s:List UInt8) (h:s.length<n) (hb:s.length<=1073741824):zD3 n s=some (s.all zEj):=by
 have:=zIP (p:=zEj) (l:=s) (zBF s) hb (fun k i h=>by
  rw[zBF,zAJ (Int.ofNat_lt.2 h),cond_true,zAC h]
  simp only[obs,zTa]
  rw[zAN (by omega)]
  cases zEj s[i] <;> rfl) (fun k=>by rw[zBF,zAD (by omega)]; rfl) n 0 (by omega) (by omega)
 rw[show((0:Nat):Int)=0 from rfl,List.drop_zero]at this;rw[zD3,this]
 unfold zPV;cases s.all zEj <;> rfl
theorem zQe (n:Nat) (s:List UInt8) (h:s.length<n) (hb:s.length<=1073741824):zBP s n 0=some (zPV zEj s):=by
 have:=zIP (p:=zEj) (l:=s) (zBP s) hb (fun k i h=>by
  rw[zBP,zAJ (Int.ofNat_lt.2 h),cond_true,zAC h]
  simp only[obs,zNj]
  rw[zAN (by omega)]
  cases zEj s[i] <;> rfl) (fun k=>by rw[zBP,zAD (by omega)]; rfl) n 0 (by omega) (by omega)
 rwa [show((0:Nat):Int)=0 from rfl,List.drop_zero]at this
theorem zQZ (n:Nat) (s:List UInt8) (c:Int) (h:s.length<n) (hb:s.length<=1073741824):zEo n s c=some (s.any fun b=>(b.toNat:Int) == c):=by
 have:=zRL (p:=fun b=>(b.toNat:Int) == c) (l:=s) (zDE s c) hb (fun k i h=>by
  rw[zDE,zAJ (Int.ofNat_lt.2 h),cond_true,zAC h]
  simp only[obs]
  rw[zAN (by omega)]
  cases((s[i].toNat:Int) == c) <;> rfl) (fun k=>by rw[zDE,zAD (by omega)]; rfl) n 0 (by omega) (by omega)
 rw[show((0:Nat):Int)=0 from rfl,List.drop_zero]at this;rw[zEo,this]
 cases s.any fun b=>(b.toNat:Int) == c <;> rfl
theorem zPh (n:Nat) (l:List (List UInt8)) (s:List UInt8) (h:l.length<n) (hb:l.length<=1073741824):zF5 n l s=some (l.any fun e=>e == s):=by
 have:=zRL (p:=fun e=>e == s) (l:=l) (zEn l s) hb (fun k i h=>by
  rw[zEn,zAJ (Int.ofNat_lt.2 h),cond_true,zAC h]
  simp only[obs]
  rw[zAN (by omega)]
  cases(l[i] == s) <;> rfl) (fun k=>by rw[zEn,zAD (by omega)]; rfl) n 0 (by omega) (by omega)
 rw[show((0:Nat):Int)=0 from rfl,List.drop_zero]at this;rw[zF5,this]
 cases l.any fun e=>e == s <;> rfl
theorem zH4 (n:Nat) (s:List UInt8) (h:s.length<n) (hb:s.length<=1073741824):zEC n s=some (s.all zEO&&!(s == [])):=by
 have:=zIP (p:=zEO) (l:=s) (zBX s) hb (fun k i h=>by
  rw[zBX,zAJ (Int.ofNat_lt.2 h),cond_true,zAC h]
  simp only[obs]
  rw[zAN (by omega)]
  unfold zEO
  by_cases a:48<=s[i].toNat
  ·by_cases b:s[i].toNat<=57
   ·simp[a,b,show ¬ ((s[i].toNat:Int)<48) by omega,show ¬ (57<(s[i].toNat:Int)) by omega]
   ·simp[a,b,show ¬ ((s[i].toNat:Int)<48) by omega,show(57<(s[i].toNat:Int)) by omega]
  ·simp[a,show((s[i].toNat:Int)<48) by omega]) (fun k=>by rw[zBX,zAD (by omega)]; rfl) n 0 (by omega) (by omega)
 rw[show((0:Nat):Int)=0 from rfl,List.drop_zero]at this;rw[zEC,this]
 unfold zPV;cases s.all zEO <;> rfl
theorem zPg (b:UInt8):(bif decide ((b.toNat:Int)<32) then some true else some (decide (126<(b.toNat:Int))):Option Bool)=some (!zFK b):=by
 unfold zFK
 by_cases a:32<=b.toNat
 ·by_cases c:b.toNat<=126
  ·simp[a,c,show ¬ ((b.toNat:Int)<32) by omega,show ¬ (126<(b.toNat:Int)) by omega]
  ·simp[a,c,show ¬ ((b.toNat:Int)<32) by omega,show(126<(b.toNat:Int)) by omega]
 ·simp[a,show((b.toNat:Int)<32) by omega]
theorem zRS (n:Nat) (s:List UInt8) (h:s.length<n) (hb:s.length<=1073741824):zGf n s=some (s.all zFK&&decide ((s.length:Int)<=200)):=by
 have:=zIP (p:=zFK) (l:=s) (zCh s) hb (fun k i h=>by
  rw[zCh,zAJ (Int.ofNat_lt.2 h),cond_true,zAC h]
  simp only[obs,zPg]
  rw[zAN (by omega)]
  cases zFK s[i] <;> rfl) (fun k=>by rw[zCh,zAD (by omega)]; rfl) n 0 (by omega) (by omega)
 rw[show((0:Nat):Int)=0 from rfl,List.drop_zero]at this;rw[zGf,this]
 unfold zPV;cases s.all zFK <;> rfl
theorem zI9 (n:Nat) (s:List UInt8) (h:s.length<n) (hb:s.length<=1073741824):zDy n s=some (s.all zFK):=by
 have:=zIP (p:=zFK) (l:=s) (zBy s) hb (fun k i h=>by
  rw[zBy,zAJ (Int.ofNat_lt.2 h),cond_true,zAC h]
  simp only[obs,zPg]
  rw[zAN (by omega)]
  cases zFK s[i] <;> rfl) (fun k=>by rw[zBy,zAD (by omega)]; rfl) n 0 (by omega) (by omega)
 rw[show((0:Nat):Int)=0 from rfl,List.drop_zero]at this;rw[zDy,this]
 unfold zPV;cases s.all zFK <;> rfl
def spL:List UInt8:=[43,45,42,47,61,60,62,44,59,58,33,124,39,63,126,64]
def fsL:List UInt8:=[40,41,91,93,123,125,60,62,47,124,46]
def kwL:List (List UInt8):=[[102,114,97,99],[114,111,111,116],[109,97,116,114,105,120],[102,101,110,99,101]]
def acL:List (List UInt8):=[[104,97,116],[98,97,114],[118,101,99],[100,111,116],[116,105,108,100,101],[99,104,101,99,107]]
def spB (c:UInt8):Bool:=decide (0<=Lib.indexByte spL c)
def fsB (c:UInt8):Bool:=decide (0<=Lib.indexByte fsL c)
theorem zZG (c:UInt8):(spL.any fun b=>(b.toNat:Int) == (c.toNat:Int))=spB c :=
 of_decide_eq_true (zRe (P:=fun c=>decide ((spL.any fun b=>(b.toNat:Int) == (c.toNat:Int))=spB c)) (by decide +kernel) c)
theorem zZF (c:UInt8):(([40,41,91,93,123,125,124,60,62,47,46]:List UInt8).any fun b=>(b.toNat:Int) == (c.toNat:Int))=fsB c :=
 of_decide_eq_true (zRe (P:=fun c=>decide ((([40,41,91,93,123,125,124,60,62,47,46]:List UInt8).any fun b=>(b.toNat:Int) == (c.toNat:Int))=fsB c)) (by decide +kernel) c)
theorem zYC (c:UInt8):Lib.indexByte fsL ((c.toNat:Int).toNat.toUInt8)=Lib.indexByte fsL c:=by
 rw[Int.toNat_natCast]; congr 1; exact UInt8.ofNat_toNat
theorem zPW (e s:List UInt8):(e == s)=(s == e):=by
 rw[Bool.eq_iff_iff]; simp only[beq_iff_eq]; exact eq_comm
theorem zOS (s:List UInt8):zEY s=some (kwL.any fun e=>e == s):=by
 simp only[zEY,kwL,List.any_cons,List.any_nil,zPW [102,114,97,99] s,zPW [114,111,111,116] s,zPW [109,97,116,114,105,120] s,zPW [102,101,110,99,101] s]
 generalize (s == [102,114,97,99])=b1;generalize (s == [114,111,111,116])=b2;generalize (s == [109,97,116,114,105,120])=b3;generalize (s == [102,101,110,99,101])=b4;cases b1 <;> cases b2 <;> cases b3 <;> cases b4 <;> rfl
theorem zKO (s:List UInt8):zEB s=some (acL.any fun e=>e == s):=by
 simp only[zEB,acL,List.any_cons,List.any_nil,zPW [104,97,116] s,zPW [98,97,114] s,zPW [118,101,99] s,zPW [100,111,116] s,zPW [116,105,108,100,101] s,zPW [99,104,101,99,107] s]
 generalize (s == [104,97,116])=b1;generalize (s == [98,97,114])=b2;generalize (s == [118,101,99])=b3;generalize (s == [100,111,116])=b4;generalize (s == [116,105,108,100,101])=b5;generalize (s == [99,104,101,99,107])=b6;cases b1 <;> cases b2 <;> cases b3 <;> cases b4 <;> cases b5 <;> cases b6 <;> rfl
def symB (s:List UInt8):Bool :=
 if s.length=1 then s.all zEj||s.all spB
 else s.all zEj&&(decide (2<=s.length)&&(decide (s.length<=16)&&(!(kwL.any fun e=>e == s)&&!(acL.any fun e=>e == s))))
theorem len1 (s:List UInt8):((s.length:Int) == 1)=decide (s.length=1):=by
 by_cases h:s.length=1
 ·simp[h]
 ·rw[zAD h]
  cases e:((s.length:Int) == 1) with
  | false=>rfl
  | true=>have:=eq_of_beq e; omega
theorem zHe (a b:Nat):decide ((a:Int)<=(b:Int))=decide (a<=b):=by
 by_cases h:a<=b
 ·rw[zAJ h,zAJ (by omega)]
 ·rw[zAD h,zAD (by omega)]
theorem zXp (a b:Nat):decide ((a:Int)<(b:Int))=decide (a<b):=by
 by_cases h:a<b
 ·rw[zAJ h,zAJ (by omega)]
 ·rw[zAD h,zAD (by omega)]
theorem zP1 (n:Nat) (s:List UInt8) (h:s.length+40<n) (hb:s.length<=1073741824):zFz n s=some (symB s):=by
 rw[zFz,len1,zOT n s (by omega) hb]
 unfold symB
 by_cases h1:s.length=1
 ·rw[zAJ h1,if_pos h1]
  obtain⟨c,rfl⟩:=List.length_eq_one_iff.1 h1;have:zFC [43,45,42,47,61,60,62,44,59,58,33,124,39,63,126,64] [c]=some (spB c):=rfl;simp only[cond_true,obs,this,List.all_cons,List.all_nil,Bool.and_true]
  cases zEj c <;> rfl
 ·rw[zAD h1,if_neg h1]
  have e2:=zHe 2 s.length;have e16:=zHe s.length 16;rw[show((2:Nat):Int)=2 from rfl]at e2;rw[show((16:Nat):Int)=16 from rfl]at e16;simp only[cond_false,obs,zOS,zKO,e2,e16]
  cases s.all zEj <;> cases decide (2<=s.length) <;> cases decide (s.length<=16) <;> cases(kwL.any fun e=>e == s) <;> rfl
theorem zSj (n:Nat) (s:List UInt8) (h:s.length+40<n) (hb:s.length<=1073741824):zGi n s=some (symB s):=by
 rw[zGi,len1,zQe n s (by omega) hb]
 unfold symB
 by_cases h1:s.length=1
 ·rw[zAJ h1,if_pos h1]
  obtain⟨c,rfl⟩:=List.length_eq_one_iff.1 h1;have e1:at? [c] (0:Int)=some c:=rfl;have e2:zEo n [43,45,42,47,61,60,62,44,59,58,33,124,39,63,126,64] (c.toNat:Int)=some (spB c):=by
   rw[zQZ n _ _ (by simp only[List.length_cons,List.length_nil]; omega) (by simp only[List.length_cons,List.length_nil]; omega)]
   exact congrArg some (zZG c)
  simp only[cond_true,obs,e1,zFB,zNj,e2,List.all_cons,List.all_nil,Bool.and_true]
  cases zEj c <;> rfl
 ·rw[zAD h1,if_neg h1]
  have e2:=zHe 2 s.length;have e16:=zHe s.length 16;rw[show((2:Nat):Int)=2 from rfl]at e2;rw[show((16:Nat):Int)=16 from rfl]at e16;have ek:zF5 n kwL s=some (kwL.any fun e=>e == s):=zPh n kwL s (by simp only[kwL,List.length_cons,List.length_nil]; omega) (by simp[kwL])
  have ea:zF5 n acL s=some (acL.any fun e=>e == s):=zPh n acL s (by simp only[acL,List.length_cons,List.length_nil]; omega) (by simp[acL])
  have k1:zF6=some kwL:=rfl;have a1:zED=some acL:=rfl;unfold zPV;simp only[cond_false,obs,k1,a1,ek,ea,e2,e16]
  cases s.all zEj <;> cases decide (2<=s.length) <;> cases decide (s.length<=16) <;> cases(kwL.any fun e=>e == s) <;> rfl
def fenB (s:List UInt8):Bool:=decide (s.length=2)&&s.all fsB
theorem len2 (s:List UInt8):((s.length:Int) == 2)=decide (s.length=2):=by
 by_cases h:s.length=2
 ·simp[h]
 ·rw[zAD h]
  cases e:((s.length:Int) == 2) with
  | false=>rfl
  | true=>have:=eq_of_beq e; omega
theorem zRR (s:List UInt8):zGe s=some (fenB s):=by
 rw[zGe,len2]
 unfold fenB
 by_cases h1:s.length=2
 ·rw[zAJ h1]
  match s,h1 with
  | [c,d],_ =>
   have e0:at? [c,d] (0:Int)=some c:=rfl;have e1:at? [c,d] (1:Int)=some d:=rfl;have f:∀ c:UInt8,zDM [40,41,91,93,123,125,60,62,47,124,46] (c.toNat:Int)=some (Lib.indexByte fsL c):=fun c=>congrArg some (zYC c)
   have g:∀ c:UInt8,decide (0<=Lib.indexByte fsL c)=fsB c:=fun c=>rfl
   simp only[cond_true,e0,e1,f,obs,g,List.all_cons,List.all_nil,Bool.and_true,Bool.true_and]
   cases fsB c <;> rfl
 ·rw[zAD h1]; rfl
theorem zT6 (n:Nat) (s:List UInt8) (h:40<n):(bif ((s.length:Int) == 2) then (
        (at? s 0).bind fun c9 =>
        (zEo n [40,41,91,93,123,125,124,60,62,47,46] (c9.toNat:Int)).bind fun y11 =>
        bif y11 then (
         (at? s 1).bind fun c12 =>
         (zEo n [40,41,91,93,123,125,124,60,62,47,46] (c12.toNat:Int)).bind fun y14 =>
         some y14
        ) else (
         some false
        )
       ) else (
        some false
       ))=some (fenB s):=by
 rw[len2]
 unfold fenB
 by_cases h1:s.length=2
 ·rw[zAJ h1]
  match s,h1 with
  | [c,d],_ =>
   have e0:at? [c,d] (0:Int)=some c:=rfl;have e1:at? [c,d] (1:Int)=some d:=rfl;have f:∀ c:UInt8,zEo n [40,41,91,93,123,125,124,60,62,47,46] (c.toNat:Int)=some (fsB c):=fun c=>by
    rw[zQZ n _ _ (by simp only[List.length_cons,List.length_nil]; omega) (by simp only[List.length_cons,List.length_nil]; omega)]
    exact congrArg some (zZF c)
   simp only[cond_true,e0,e1,f,obs,List.all_cons,List.all_nil,Bool.and_true,Bool.true_and]
   cases fsB c <;> rfl
 ·rw[zAD h1]; rfl
def okL (L:Nat):Nat->List UInt8->Bool
 | _,[]=>true
 | i,c::r=>((c == 46&&(decide (0<i)&&decide (i+1<L)))||zEO c)&&okL L (i+1) r
def numB (s:List UInt8):Bool:=okL s.length 0 s&&(decide (0<s.length)&&(decide (s.length<=20)&&decide (s.count 46<=1)))
theorem yAu (c:UInt8):((c.toNat:Int) == 46)=(c == 46) :=
 of_decide_eq_true (zRe (P:=fun c=>decide (((c.toNat:Int) == 46)=(c == 46))) (by decide +kernel) c)
theorem zZM:zEO 46=false:=by decide
theorem zRT (s:List UInt8) (hb:s.length<=1073741824):∀ (k i p:Nat),s.length - i<k->i<=s.length->p<=i ->
  zCQ s k (p:Int) (i:Int)=some (if okL s.length i (s.drop i) then .go ((p+(s.drop i).count 46:Nat):Int) else .ret false)
 | 0,_,_,h,_,_=>by omega
 | k+1,i,p,hk,hi,hp=>by
  unfold zCQ
  by_cases h:i<s.length
  ·rw[zAJ (Int.ofNat_lt.2 h),cond_true,zAC h,List.drop_eq_getElem_cons h]
   generalize s[i]=c;simp only[obs,yAu,zUS,okL,List.count_cons]
   rw[zAN (by omega),zAN (by omega),wrap64_in (by omega) (by omega)]
   have d1:decide ((0:Int)<(i:Int))=decide (0<i):=zXp 0 i;have d2:decide ((i:Int)<(s.length:Int) - 1)=decide (i+1<s.length):=by
    by_cases h:i+1<s.length
    ·rw[zAJ h,zAJ (by omega)]
    ·rw[zAD h,zAD (by omega)]
   rw[d1,d2]
   cases e:c == 46 with
   | true =>
    obtain rfl:c=46:=eq_of_beq e;simp only[cond_true,zZM,Bool.true_and,Bool.or_false]
    cases decide (0<i) with
    | false=>rfl
    | true =>
     simp only[cond_true,obs,Bool.true_and]
     cases decide (i+1<s.length) with
     | false=>rfl
     | true =>
      simp only[cond_true,obs,Bool.true_and]
      rw[zRT s hb k (i+1) (p+1) (by omega) (by omega) (by omega)]
      simp only[if_true]
      rw[show p+1+(s.drop (i+1)).count 46=p+((s.drop (i+1)).count 46+1) by omega]
   | false =>
    simp only[cond_false,obs,Bool.false_and,Bool.false_or]
    cases zEO c with
    | false=>rfl
    | true =>
     simp only[Bool.not_true,cond_false,obs,Bool.true_and]
     rw[zRT s hb k (i+1) p (by omega) (by omega) (by omega)]
     simp
  ·rw[zAD (by omega),cond_false]
   obtain rfl:i=s.length :=(by omega);simp[okL]
theorem zSi (n:Nat) (s:List UInt8) (h:s.length<n) (hb:s.length<=1073741824):zGh n s=some (numB s):=by
 have:=zRT s hb n 0 0 (by omega) (by omega) (by omega)
 rw[show((0:Nat):Int)=0 from rfl,List.drop_zero]at this;rw[zGh,this]
 unfold numB;have e0:=zXp 0 s.length;have e20:=zHe s.length 20;have e1:=zHe (s.count 46) 1;rw[show((0:Nat):Int)=0 from rfl]at e0;rw[show((20:Nat):Int)=20 from rfl]at e20;rw[show((1:Nat):Int)=1 from rfl]at e1;cases okL s.length 0 s with
 | false=>rfl
 | true =>
  simp only[if_true,obs,e0,e20,Nat.zero_add,e1]
  cases decide (0<s.length) <;> cases decide (s.length<=20) <;> rfl
theorem zTe:∀ s:List UInt8,(s.count 46=0/\Lib.indexByte s 46 = -1)∨∃ a b,s=a++46::b/\a.count 46=0/\Lib.indexByte s 46=(a.length:Int)
 | []=>.inl ⟨rfl,rfl⟩
 | c::s=>by
  by_cases h:c=46
  ·subst h;exact .inr ⟨[],s,rfl,rfl,by simp[Lib.indexByte]⟩
  ·have hc:(c == 46)=false :=(by simpa using h);rcases zTe s with ⟨h1,h2⟩ | ⟨a,b,rfl,h1,h2⟩
   ·exact .inl ⟨by rw[List.count_cons,h1,hc]; rfl,by simp[Lib.indexByte,hc,h2]⟩
   ·refine .inr ⟨c::a,b,rfl,by rw[List.count_cons,h1,hc]; rfl,?_⟩
    have h3:((a.length:Int) == -1)=false:=by
     cases e:((a.length:Int) == -1) with
     | false=>rfl
     | true=>have:=eq_of_beq e; omega
    simp[Lib.indexByte,hc,h2,h3]
theorem zJD (L:Nat):∀ (i:Nat) (a:List UInt8),a.count 46=0->okL L i a=a.all zEO
 | _,[],_=>rfl
 | i,c::a,h=>by
  have hc:(c == 46)=false:=by
   cases e:c == 46 with
   | false=>rfl
   | true=>rw[List.count_cons,e]at h; simp at h
  rw[List.count_cons,hc]at h;rw[okL,hc,zJD L (i+1) a (by simpa using h)]
  simp
theorem zQU (L:Nat):∀ (i:Nat) (a b:List UInt8),okL L i (a++b)=(okL L i a&&okL L (i+a.length) b)
 | _,[],b=>by simp[okL]
 | i,c::a,b=>by
  simp only[List.cons_append,okL,zQU L (i+1) a b,List.length_cons,Bool.and_assoc,show i+1+a.length=i+(a.length+1) by omega]
theorem zRE:∀ a:List UInt8,a.all zEO=true->a.count 46=0
 | [],_=>rfl
 | c::a,h=>by
  simp only[List.all_cons,Bool.and_eq_true]at h;have hc:(c == 46)=false:=by
   cases e:c == 46 with
   | false=>rfl
   | true=>obtain rfl:c=46:=eq_of_beq e; simp[zZM]at h
  rw[List.count_cons,hc,zRE a h.2]; rfl
theorem zZ1 (a b:List UInt8) (ha:a.count 46=0):numB (a++46::b)=(decide ((a++46::b).length<=20)&&((a.all zEO&&!(a == []))&&(b.all zEO&&!(b == [])))):=by
 unfold numB;have hl:(a++46::b).length=a.length+(b.length+1) :=(by simp);rw[zQU,zJD _ _ a ha,hl]
 simp only[okL,zZM,Bool.or_false,List.count_append,List.count_cons,ha,beq_self_eq_true,Bool.true_and,if_true,Nat.zero_add]
 have e1:decide (0<a.length) = !(a == []) :=(by cases a <;> rfl);have e2:decide (a.length+1<a.length+(b.length+1)) = !(b == []):=by
  cases b with
  | nil=>simp
  | cons c b=>simp
 have e3:decide (0<a.length+(b.length+1))=true:=zAJ (by omega)
 rw[e1,e2,e3]
 cases hb:b.all zEO with
 | true =>
  rw[zJD _ _ b (zRE b hb),hb,zRE b hb]
  cases a.all zEO <;> cases a == [] <;> cases b == [] <;> cases decide (a.length+(b.length+1)<=20) <;> rfl
 | false =>
  cases hc:decide (b.count 46+1<=1) with
  | true =>
   have:b.count 46=0 :=(by have:=of_decide_eq_true hc; omega);rw[zJD _ _ b this,hb]
   cases a.all zEO <;> cases a == [] <;> cases b == [] <;> cases decide (a.length+(b.length+1)<=20) <;> rfl
  | false =>
   generalize okL _ _ b=z;cases z <;> cases a.all zEO <;> cases a == [] <;> cases b == [] <;> cases decide (a.length+(b.length+1)<=20) <;> rfl
theorem zXT (s:List UInt8) (h:s.count 46=0):numB s=(decide (s.length<=20)&&(s.all zEO&&!(s == []))):=by
 unfold numB;rw[zJD _ _ s h,h]
 have e1:decide (0<s.length) = !(s == []) :=(by cases s <;> rfl);rw[e1]
 cases s.all zEO <;> cases s == [] <;> cases decide (s.length<=20) <;> rfl
theorem zP0 (n:Nat) (s:List UInt8) (h:s.length<n) (hb:s.length<=1073741824):zEA n s=some (numB s):=by
 have e20:=zHe s.length 20;rw[show((20:Nat):Int)=20 from rfl]at e20;have hi:zFc s [46]=some (Lib.indexByte s 46):=rfl;rcases zTe s with ⟨h1,h2⟩ | ⟨a,b,rfl,h1,h2⟩
 ·rw[zXT s h1]
  simp only[zEA,zFD,zDA,hi,h2,obs,show decide ((0:Int)<=-1)=false from rfl,cond_false,e20,zH4 n s h hb]
  cases decide (s.length<=20) <;> cases(s.all zEO&&!(s == [])) <;> rfl
 ·have hl:(a++46::b).length=a.length+(b.length+1) :=(by simp);rw[zZ1 a b h1]
  have w1:IntKind.i64.wrap ((a.length:Int)+(([46]:List UInt8).length:Int))=((a.length+1:Nat):Int):=zAN (by omega)
  have t1:((a++46::b).take ((a.length:Int)).toNat).drop (0:Int).toNat=a :=(by simp);have t2:((a++46::b).take (((a++46::b).length:Int)).toNat).drop (((a.length+1:Nat):Int)).toNat=b:=by
   rw[Int.toNat_natCast,Int.toNat_natCast,List.take_length,List.drop_append]
   simp
  simp only[zEA,zFD,zDA,hi,h2,obs,w1]
  rw[zAJ (by omega),cond_true,zA2 (by omega),zA2 (by omega),t1,t2]
  simp only[obs,e20,zH4 n a (by omega) (by omega),zH4 n b (by omega) (by omega)]
  cases decide ((a++46::b).length<=20) <;> cases(a.all zEO&&!(a == [])) <;> cases(b.all zEO&&!(b == [])) <;> rfl
def Nd.kind:Nd->Int | .mk k _ _ _=>k
def zUo (k:Int) (t:List UInt8):Bool :=
 if k=2 then symB t else if k=3 then numB t else if k=4 then (decide (t.length<=200)&&t.all zFK) else if k=10 then acL.any (fun e=>e == t) else if k=11 then fenB t else t == []
def zIn (k c:Int) (m:Int):Bool :=
 if k=12 then decide (1<=c)&&(decide (c<=16)&&(decide (1<=m)&&(decide (m<=256)&&(m.tmod c == 0))))
 else (c == 0)&&(if k=1 then decide (m<=200) else if k=2 then m == 0 else if k=3 then m == 0 else if k=4 then m == 0 else if k=5 then m == 2 else if k=6 then m == 2 else if k=7 then m == 2 else if k=8 then m == 2
  else if k=9 then m == 3 else if k=10 then m == 1 else if k=11 then m == 1 else false)
mutual
def zHi:Nd->Bool
 | .mk k t c ks=>(zUo k t&&zIn k c (ks.length:Int))&&zFj k ks
def zFj:Int->List Nd->Bool
 | _,[]=>true
 | k,v::vs=>(!((v.kind == 1) == (k == 1))&&zHi v)&&zFj k vs
end
mutual
def Nd.dep:Nd->Nat
 | .mk _ _ _ ks=>Nd.deps ks+1
def Nd.deps:List Nd->Nat
 | []=>0
 | v::vs=>Nat.max v.dep (Nd.deps vs)
end
theorem zQM {k:Int}{a:List Nd}{i:Nat} (h:i<a.length):zFj k (a.drop i)=((!((a[i].kind == 1) == (k == 1))&&zHi a[i])&&zFj k (a.drop (i+1))):=by
 rw[List.drop_eq_getElem_cons h]; rfl
theorem zTf {a:List Nd}{i:Nat} (h:i<a.length):Nd.deps (a.drop i)=Nat.max (a[i]).dep (Nd.deps (a.drop (i+1))):=by
 rw[List.drop_eq_getElem_cons h]; rfl
mutual
theorem Nd.dep_cnt:∀ v:Nd,v.dep<=v.cnt
 | .mk _ _ _ ks=>by have:=Nd.deps_cnts ks; simp only[Nd.dep,Nd.cnt]; omega
theorem Nd.deps_cnts:∀ vs:List Nd,Nd.deps vs<=Nd.cnts vs
 | []=>Nat.le_refl _
 | v::vs=>by
  have:=Nd.dep_cnt v; have:=Nd.deps_cnts vs
  simp only[Nd.deps,Nd.cnts]
  exact Nat.max_le.2 ⟨by omega,by omega⟩
end
mutual
theorem Nd.cnt_w:∀ v:Nd,v.cnt<=v.w
 | .mk _ t _ ks=>by have:=Nd.cnts_ws ks; simp only[Nd.cnt,Nd.w]; omega
theorem Nd.cnts_ws:∀ vs:List Nd,Nd.cnts vs<=Nd.ws vs
 | []=>Nat.le_refl _
 | v::vs=>by have:=Nd.cnt_w v; have:=Nd.cnts_ws vs; simp only[Nd.cnts,Nd.ws]; omega
end
theorem zDY {a b:Int} (h:a ≠ b):(a == b)=false:=by
 cases e:(a == b) with
 | false=>rfl
 | true=>exact absurd (eq_of_beq e) h
theorem zVm (n:Nat) (k:Int) (t:List UInt8) (c:Int) (ks:List Nd) (h:t.length+40<n) (hb:t.length<=1073741824):zIt n (.mk k t c ks)=some (zUo k t):=by
 have e200:=zHe t.length 200;rw[show((200:Nat):Int)=200 from rfl]at e200;have ea:zF5 n acL t=some (acL.any fun e=>e == t):=zPh n acL t (by simp only[acL,List.length_cons,List.length_nil]; omega) (by simp[acL])
 have a1:zED=some acL:=rfl;unfold zIt zUo;dsimp only
 by_cases h2:k=2
 ·subst h2; simp only[beq_self_eq_true,cond_true,zSj n t h hb,obs,if_true]
 rw[zDY h2,if_neg h2,cond_false]
 by_cases h3:k=3
 ·subst h3; simp only[beq_self_eq_true,cond_true,zSi n t (by omega) hb,obs,if_true]
 rw[zDY h3,if_neg h3,cond_false]
 by_cases h4:k=4
 ·subst h4; simp only[beq_self_eq_true,cond_true,zI9 n t (by omega) hb,obs,if_true,e200]
  cases decide (t.length<=200) <;> rfl
 rw[zDY h4,if_neg h4,cond_false]
 by_cases h10:k=10
 ·subst h10; simp only[beq_self_eq_true,cond_true,a1,ea,obs,if_true]
 rw[zDY h10,if_neg h10,cond_false]
 by_cases h11:k=11
 ·subst h11; rw[if_pos rfl,beq_self_eq_true,cond_true,zT6 n t (by omega)]; rfl
 rw[zDY h11,if_neg h11,cond_false]
theorem kinds (k:Int):k=1∨k=2∨k=3∨k=4∨k=5∨k=6∨k=7∨k=8∨k=9∨k=10∨k=11∨k=12∨(k<1∨12<k):=by omega
theorem zVl (k:Int) (t:List UInt8) (c:Int) (ks:List Nd):zIs (.mk k t c ks)=some (zIn k c (ks.length:Int)):=by
 unfold zIs;dsimp only;generalize (ks.length:Int)=m;rcases kinds k with rfl | rfl | rfl | rfl | rfl | rfl | rfl | rfl | rfl | rfl | rfl | rfl | h
 ·simp only[bne,zIn]; generalize (c == 0)=z; generalize decide (m<=200)=y; cases z <;> rfl
 ·simp only[bne,zIn]; generalize (c == 0)=z; generalize (m == 0)=y; cases z <;> rfl
 ·simp only[bne,zIn]; generalize (c == 0)=z; generalize (m == 0)=y; cases z <;> rfl
 ·simp only[bne,zIn]; generalize (c == 0)=z; generalize (m == 0)=y; cases z <;> rfl
 ·simp only[bne,zIn]; generalize (c == 0)=z; generalize (m == 2)=y; cases z <;> rfl
 ·simp only[bne,zIn]; generalize (c == 0)=z; generalize (m == 2)=y; cases z <;> rfl
 ·simp only[bne,zIn]; generalize (c == 0)=z; generalize (m == 2)=y; cases z <;> rfl
 ·simp only[bne,zIn]; generalize (c == 0)=z; generalize (m == 2)=y; cases z <;> rfl
 ·simp only[bne,zIn]; generalize (c == 0)=z; generalize (m == 3)=y; cases z <;> rfl
 ·simp only[bne,zIn]; generalize (c == 0)=z; generalize (m == 1)=y; cases z <;> rfl
 ·simp only[bne,zIn]; generalize (c == 0)=z; generalize (m == 1)=y; cases z <;> rfl
 ·unfold zIn;rw[if_pos rfl,beq_self_eq_true,cond_true]
  by_cases h1:1<=c
  ·rw[zAJ h1,zA2 (by omega)]
   generalize (m.tmod c == 0)=y;cases decide (c<=16) <;> cases decide (1<=m) <;> cases decide (m<=256) <;> rfl
  ·rw[zAD h1]; rfl
 ·have e:∀ i:Int,1<=i->i<=12->(k == i)=false:=fun i h1 h2=>zDY (by omega)
  have f:∀ i:Int,1<=i->i<=12->k ≠ i:=fun i h1 h2=>by omega
  unfold zIn;rw[if_neg (f 12 (by decide) (by decide)),if_neg (f 1 (by decide) (by decide)),if_neg (f 2 (by decide) (by decide)),if_neg (f 3 (by decide) (by decide)),if_neg (f 4 (by decide) (by decide)),if_neg (f 5 (by decide) (by decide)),
   if_neg (f 6 (by decide) (by decide)),if_neg (f 7 (by decide) (by decide)),if_neg (f 8 (by decide) (by decide)),if_neg (f 9 (by decide) (by decide)),if_neg (f 10 (by decide) (by decide)),if_neg (f 11 (by decide) (by decide))]
  rw[e 12 (by decide) (by decide),e 1 (by decide) (by decide),e 2 (by decide) (by decide),e 3 (by decide) (by decide),e 4 (by decide) (by decide),e 5 (by decide) (by decide),
   e 6 (by decide) (by decide),e 7 (by decide) (by decide),e 8 (by decide) (by decide),e 9 (by decide) (by decide),e 10 (by decide) (by decide),e 11 (by decide) (by decide)]
  cases(c == 0) <;> cases(c != 0) <;> rfl
theorem yAF (n:Nat) (x:Int) (k:Int) (t:List UInt8) (c:Int) (ks:List Nd) (h:t.length+40<n) (hb:t.length<=1073741824) :
  zDb n ((),x) (.mk k t c ks)=some (zUo k t&&zIn k c (ks.length:Int),((),x)):=by
 have e200:=zHe t.length 200;rw[show((200:Nat):Int)=200 from rfl]at e200;unfold zDb;dsimp only;generalize (ks.length:Int)=m;have em:zCF t=some (t == []):=rfl;rcases kinds k with rfl | rfl | rfl | rfl | rfl | rfl | rfl | rfl | rfl | rfl | rfl | rfl | h
 ·simp only[em]
  show _=some ((t == [])&&((c == 0)&&decide (m<=200)),((),x))
  cases t == [] <;> cases c == 0 <;> rfl
 ·simp only[zP1 n t h hb]
  show _=some (symB t&&((c == 0)&&(m == 0)),((),x))
  cases symB t <;> cases c == 0 <;> rfl
 ·simp only[zP0 n t (by omega) hb]
  show _=some (numB t&&((c == 0)&&(m == 0)),((),x))
  cases numB t <;> cases c == 0 <;> rfl
 ·simp only[zRS n t (by omega) hb,e200]
  show _=some ((decide (t.length<=200)&&t.all zFK)&&((c == 0)&&(m == 0)),((),x))
  cases decide (t.length<=200) <;> cases t.all zFK <;> cases c == 0 <;> rfl
 ·simp only[em]
  show _=some ((t == [])&&((c == 0)&&(m == 2)),((),x))
  cases t == [] <;> cases c == 0 <;> rfl
 ·simp only[em]
  show _=some ((t == [])&&((c == 0)&&(m == 2)),((),x))
  cases t == [] <;> cases c == 0 <;> rfl
 ·simp only[em]
  show _=some ((t == [])&&((c == 0)&&(m == 2)),((),x))
  cases t == [] <;> cases c == 0 <;> rfl
 ·simp only[em]
  show _=some ((t == [])&&((c == 0)&&(m == 2)),((),x))
  cases t == [] <;> cases c == 0 <;> rfl
 ·simp only[em]
  show _=some ((t == [])&&((c == 0)&&(m == 3)),((),x))
  cases t == [] <;> cases c == 0 <;> rfl
 ·simp only[zKO]
  show _=some ((acL.any fun e=>e == t)&&((c == 0)&&(m == 1)),((),x))
  cases(acL.any fun e=>e == t) <;> cases c == 0 <;> rfl
 ·simp only[zRR]
  show _=some (fenB t&&((c == 0)&&(m == 1)),((),x))
  cases fenB t <;> cases c == 0 <;> rfl
 ·simp only[em]
  show _=some ((t == [])&&(decide (1<=c)&&(decide (c<=16)&&(decide (1<=m)&&(decide (m<=256)&&(m.tmod c == 0))))),((),x))
  by_cases h1:1<=c
  ·rw[zAJ h1,zA2 (by omega)]
   generalize (m.tmod c == 0)=y;cases t == [] <;> cases decide (c<=16) <;> cases decide (1<=m) <;> cases decide (m<=256) <;> rfl
  ·rw[zAD h1]
   cases t == [] <;> rfl
 ·have f:∀ i:Int,1<=i->i<=12->k ≠ i:=fun i h1 h2=>by omega
  have hk:zIn k c m=false:=by
   unfold zIn;rw[if_neg (f 12 (by decide) (by decide)),if_neg (f 1 (by decide) (by decide)),if_neg (f 2 (by decide) (by decide)),if_neg (f 3 (by decide) (by decide)),if_neg (f 4 (by decide) (by decide)),if_neg (f 5 (by decide) (by decide)),
    if_neg (f 6 (by decide) (by decide)),if_neg (f 7 (by decide) (by decide)),if_neg (f 8 (by decide) (by decide)),if_neg (f 9 (by decide) (by decide)),if_neg (f 10 (by decide) (by decide)),if_neg (f 11 (by decide) (by decide))]
   exact Bool.and_false _
  rw[hk,Bool.and_false]
  by_cases h1:k<1
  ·rw[zAJ h1]; rfl
  ·rw[zAD h1,zAJ (show 12<k by omega)]; rfl
theorem zMb {F:Nd->Option Bool}{k:Int}{ks:List Nd} (hF:∀ v∈ks,F v=some (zHi v)) (hl:ks.length<=1073741824) :
  ∀ (q i:Nat),ks.length - i<q->i<=ks.length->zDJ F k ks q (i:Int)=some (if zFj k (ks.drop i) then .go () else .ret false)
 | 0,_,h,_=>by omega
 | q+1,i,hq,hi=>by
  unfold zDJ
  by_cases h:i<ks.length
  ·rw[zAJ (Int.ofNat_lt.2 h),cond_true,zAC h]
   have hf:=hF _ (List.getElem_mem h)
   have g1:=zQM (k:=k) h;rcases e:ks[i] with ⟨a,b,c,d⟩
   rw[e]at hf g1;simp only[Nd.kind]at g1;generalize zFj k (ks.drop i)=g at g1 ⊢;subst g1;simp only[obs,hf]
   rw[zAN (by omega),zMb hF hl q (i+1) (by omega) (by omega)]
   cases((a == 1) == (k == 1)) <;> cases zHi (Nd.mk a b c d) <;> simp
  ·rw[zAD (by omega),cond_false]
   obtain rfl:i=ks.length :=(by omega);simp[zFj]
theorem zPi:∀ (n:Nat) (t:Nd),t.w+45<n->t.w<=1073741824->zEE n t=some (zHi t)
 | 0,_,h,_=>by omega
 | n+1,.mk k t c ks,h,hb=>by
  simp only[Nd.w]at h hb;have hl:=Nd.ws_len ks;unfold zEE;rw[zVm n k t c ks (by omega) (by omega),zVl]
  have:=zMb (F:=zEE n) (k:=k) (ks:=ks) (fun v hv=>zPi n v (by have:=Nd.w_mem hv; omega) (by have:=Nd.w_mem hv; omega)) (by omega) n 0 (by omega) (by omega)
  rw[show((0:Nat):Int)=0 from rfl,List.drop_zero]at this;simp only[obs,this,zHi]
  cases zUo k t <;> cases zIn k c (ks.length:Int) <;> cases zFj k ks <;> rfl
theorem zKU {F:Nd->Option Int}{ks:List Nd} (hF:∀ v∈ks,F v=some (v.dep:Int)) (hl:ks.length<=1073741824) :
  ∀ (q i o:Nat),ks.length - i<q->i<=ks.length->zDl F ks q (o:Int) (i:Int)=some ((Nat.max o (Nd.deps (ks.drop i)):Nat):Int)
 | 0,_,_,h,_=>by omega
 | q+1,i,o,hq,hi=>by
  unfold zDl
  by_cases h:i<ks.length
  ·rw[zAJ (Int.ofNat_lt.2 h),cond_true,zAC h,zTf h]
   have hf:=hF _ (List.getElem_mem h)
   rcases e:ks[i] with ⟨a,b,c,d⟩
   rw[e]at hf;simp only[obs,hf]
   have hm:(if (o:Int)<((Nd.mk a b c d).dep:Int) then ((Nd.mk a b c d).dep:Int) else (o:Int))=((Nat.max o (Nd.mk a b c d).dep:Nat):Int):=by
    by_cases g:(o:Int)<((Nd.mk a b c d).dep:Int)
    ·rw[if_pos g]; congr 1; exact(Nat.max_eq_right (by omega)).symm
    ·rw[if_neg g]; congr 1; exact(Nat.max_eq_left (by omega)).symm
   rw[zAN (by omega),hm,zKU hF hl q (i+1) _ (by omega) (by omega)]
   congr 2
   exact Nat.max_assoc _ _ _
  ·rw[zAD (by omega),cond_false]
   obtain rfl:i=ks.length :=(by omega);rw[List.drop_length]
   congr 2
   exact(Nat.max_eq_left (Nat.zero_le _)).symm
theorem zNr:∀ (n:Nat) (t:Nd),t.cnt<n->t.cnt<=67108864->zDI n t=some (t.dep:Int)
 | 0,_,h,_=>by omega
 | n+1,.mk k t c ks,h,hb=>by
  simp only[Nd.cnt]at h hb;have hl:=Nd.cnts_len ks;have hd:=Nd.deps_cnts ks;unfold zDI;have:=zKU (F:=zDI n) (ks:=ks) (fun v hv=>zNr n v (by have:=Nd.cnts_mem hv; omega) (by have:=Nd.cnts_mem hv; omega)) (by omega) n 0 0 (by omega) (by omega)
  rw[show((0:Nat):Int)=0 from rfl,List.drop_zero]at this;rw[this,obs,show Nat.max 0 (Nd.deps ks)=Nd.deps ks from Nat.max_eq_right (Nat.zero_le _),zAN (by omega)]
  rfl
def zAF (t:Nd):Bool:=(t.kind == 1)&&(zHi t&&(decide (t.cnt<=1000)&&decide (t.dep<=24)))
theorem zFn (n:Nat) (t:Nd) (h:t.w+45<n) (hb:t.w<=67108864):zBv n t=some (zAF t):=by
 have hc:=Nd.cnt_w t;have e1:=zPi n t h (by omega)
 have e2:=zNq n t (by omega) (by omega)
 have e3:=zNr n t (by omega) (by omega)
 have e4:=zHe t.cnt 1000;rw[show((1000:Nat):Int)=1000 from rfl]at e4;have e5:=zHe t.dep 24;rw[show((24:Nat):Int)=24 from rfl]at e5;obtain⟨k,s,c,ks⟩:=t;unfold zBv zAF;simp only[e1,e2,e3,obs,e4,e5,Nd.kind]
 cases k == 1 <;> cases zHi (.mk k s c ks) <;> cases decide ((Nd.mk k s c ks).cnt<=1000) <;> rfl
abbrev okN (t:Nd) (x d:Nat):Prop:=zHi t=true/\x+t.cnt<=1000/\d+t.dep<=25
abbrev okNs (k:Int) (vs:List Nd) (x d:Nat):Prop:=zFj k vs=true/\x+Nd.cnts vs<=1000/\d+Nd.deps vs<=24
theorem zQH {F:(Unit×Int)->Nd->Int->Option (Bool×(Unit×Int))}{k:Int}{ks:List Nd}{d:Nat} (hd:d<=24)
  (hF:∀ v∈ks,∀ x:Nat,x<=1000->∃ y,F ((),(x:Int)) v ((d+1:Nat):Int)=some (decide (okN v x (d+1)),((),y))/\(okN v x (d+1)->y=((x+v.cnt:Nat):Int))) (hl:ks.length<=1073741824) :
  ∀ (q i x:Nat),ks.length - i<q->i<=ks.length->x<=1000 ->
   (okNs k (ks.drop i) x d/\zA1 F k ks (d:Int) q (x:Int) (i:Int)=some (.go ((x+Nd.cnts (ks.drop i):Nat):Int))) ∨
   (¬ okNs k (ks.drop i) x d/\∃ z,zA1 F k ks (d:Int) q (x:Int) (i:Int)=some (.ret (false,((),z))))
 | 0,_,_,h,_,_=>by omega
 | q+1,i,x,hq,hi,hx=>by
  unfold zA1
  by_cases h:i<ks.length
  ·rw[zAJ (Int.ofNat_lt.2 h),cond_true,zAC h]
   obtain⟨y,hf,hy⟩:=hF _ (List.getElem_mem h) x hx;have g1:=zQM (k:=k) h;have g2:=Nd.cnts_drop h;have g3:=zTf h;rcases e:ks[i] with ⟨a,b,c,ds⟩
   rw[e]at hf hy g1 g2 g3;simp only[obs]
   rw[zAN (by omega),zAN (by omega),hf]
   simp only[obs]
   have g4:Nd.deps (ks.drop i)=Nat.max (Nd.mk a b c ds).dep (Nd.deps (ks.drop (i+1))):=g3;have g5:(Nd.mk a b c ds).dep<=Nd.deps (ks.drop i) :=(by rw[g4]; exact Nat.le_max_left _ _);have g6:Nd.deps (ks.drop (i+1))<=Nd.deps (ks.drop i) :=(by rw[g4]; exact Nat.le_max_right _ _);rw[show((k == 1) == (a == 1))=((a == 1) == (k == 1)) by cases k == 1 <;> cases a == 1 <;> rfl]
   cases hkk:((a == 1) == (k == 1)) with
   | true =>
    simp only[cond_true,obs]
    refine .inr ⟨fun⟨h1,_⟩=>?_,_,rfl⟩
    rw[g1]at h1;simp[Nd.kind,hkk]at h1
   | false =>
    simp only[cond_false,obs]
    by_cases hok:okN (Nd.mk a b c ds) x (d+1)
    ·rw[zAJ hok]
     simp only[Bool.not_true,cond_false]
     rw[hy hok]
     have hp:=(Nd.mk a b c ds).cnt_pos;rcases zQH hd hF hl q (i+1) (x+(Nd.mk a b c ds).cnt) (by omega) (by omega) hok.2.1 with ⟨hr,hr2⟩ | ⟨hr,z,hr2⟩
     ·refine .inl ⟨⟨?_,?_,?_⟩,?_⟩
      ·rw[g1,hr.1,hok.1]; simp[Nd.kind,hkk]
      ·have:=hr.2.1; omega
      ·have:=hr.2.2;have:=hok.2.2;have:Nd.deps (ks.drop i)<=24 - d:=by rw[g4]; exact Nat.max_le.2 ⟨by omega,by omega⟩
       omega
      ·rw[hr2,g2]; congr 3; omega
     ·refine .inr ⟨fun⟨h1,h2,h3⟩=>hr ⟨?_,by omega,by omega⟩,z,hr2⟩
      rw[g1]at h1;simp only[Bool.and_eq_true]at h1;exact h1.2
    ·rw[zAD hok]
     simp only[Bool.not_false,cond_true]
     refine .inr ⟨fun⟨h1,h2,h3⟩=>hok ⟨?_,by omega,by omega⟩,y,rfl⟩
     rw[g1]at h1;simp only[Bool.and_eq_true]at h1;exact h1.1.2
  ·rw[zAD (by omega),cond_false]
   obtain rfl:i=ks.length :=(by omega);rw[List.drop_length]
   exact .inl ⟨⟨rfl,hx,hd⟩,rfl⟩
theorem zVG:∀ (n:Nat) (t:Nd) (x d:Nat),t.w+45<n->t.w<=67108864->x<=1000->d<=25 ->
  ∃ y,zBe n ((),(x:Int)) t (d:Int)=some (decide (okN t x d),((),y))/\(okN t x d->y=((x+t.cnt:Nat):Int))
 | 0,_,_,_,h,_,_,_=>by omega
 | n+1,.mk k t c ks,x,d,h,hb,hx,hd=>by
  simp only[Nd.w]at h hb;have hl:=Nd.ws_len ks;unfold zBe;rw[zAN (by omega)]
  by_cases h1:1000<((x+1:Nat):Int)
  ·rw[zAJ h1]
   simp only[cond_true,obs]
   have hn:¬ okN (.mk k t c ks) x d:=fun⟨_,h2,_⟩=>by simp only[Nd.cnt]at h2; omega
   exact⟨_,by rw[zAD hn],fun h=>absurd h hn⟩
  ·rw[zAD h1,cond_false]
   by_cases h2:24<(d:Int)
   ·rw[zAJ h2]
    simp only[cond_true,obs]
    have hn:¬ okN (.mk k t c ks) x d:=fun⟨_,_,h2⟩=>by simp only[Nd.dep]at h2; omega
    exact⟨_,by rw[zAD hn],fun h=>absurd h hn⟩
   ·rw[zAD h2,cond_false,yAF n _ k t c ks (by omega) (by omega)]
    simp only[obs]
    cases ho:(zUo k t&&zIn k c (ks.length:Int)) with
    | false =>
     simp only[Bool.not_false,cond_true]
     have hn:¬ okN (.mk k t c ks) x d:=fun⟨h1,_⟩=>by rw[zHi,ho]at h1; cases h1
     exact⟨_,by rw[zAD hn],fun h=>absurd h hn⟩
    | true =>
     simp only[Bool.not_true,cond_false]
     have:=zQH (F:=zBe n) (k:=k) (ks:=ks) (d:=d) (by omega) (fun v hv z hz=>zVG n v z (d+1) (by have:=Nd.w_mem hv; omega) (by have:=Nd.w_mem hv; omega) hz (by omega)) (by omega) n 0 (x+1) (by omega) (by omega) (by omega)
     rw[show((0:Nat):Int)=0 from rfl,List.drop_zero]at this;rcases this with ⟨hr,hr2⟩ | ⟨hr,z,hr2⟩
     ·have hy:okN (.mk k t c ks) x d:=⟨by rw[zHi,ho,hr.1]; rfl,by have:=hr.2.1; simp only[Nd.cnt]; omega,by have:=hr.2.2; simp only[Nd.dep]; omega⟩
      rw[hr2]
      exact⟨_,by rw[zAJ hy]; rfl,fun _=>by simp only[Nd.cnt]; omega⟩
     ·have hn:¬ okN (.mk k t c ks) x d:=fun⟨g1,g2,g3⟩=>hr ⟨by rw[zHi,ho]at g1; exact g1,by simp only[Nd.cnt]at g2; omega,by simp only[Nd.dep]at g3; omega⟩
      rw[hr2]
      exact⟨_,by rw[zAD hn]; rfl,fun h=>absurd h hn⟩
theorem zDN (n:Nat) (t:Nd) (h:t.w+45<n) (hb:t.w<=67108864):zBd n t=some (zAF t):=by
 obtain⟨y,h1,_⟩:=zVG n t 0 1 h hb (by omega) (by omega)
 rw[show((0:Nat):Int)=0 from rfl,show((1:Nat):Int)=1 from rfl]at h1;obtain⟨k,s,c,ks⟩:=t;unfold zBd zAF;have hk:zHK=some ():=rfl;simp only[hk,h1,obs,Nd.kind]
 cases k == 1 with
 | false=>rfl
 | true =>
  simp only[cond_true,obs,Bool.true_and,Option.some.injEq,okN]
  cases zHi (.mk k s c ks) with
  | false=>simp
  | true =>
   by_cases g1:(Nd.mk k s c ks).cnt<=1000
   ·by_cases g2:(Nd.mk k s c ks).dep<=24
    ·rw[zAJ g1,zAJ g2,zAJ ⟨rfl,by omega,by omega⟩]; rfl
    ·rw[zAJ g1,zAD g2,zAD (fun h=>g2 (by omega))]; rfl
   ·rw[zAD g1,zAD (fun h=>g1 (by omega))]; rfl
def Nd.text:Nd->List UInt8 | .mk _ t _ _=>t
def Nd.cols:Nd->Int | .mk _ _ c _=>c
theorem Nd.cnt_kids:∀ x:Nd,x.cnt=Nd.cnts x.kids+1
 | .mk _ _ _ _=>rfl
def yAs (x y:Nd):Bool:=(x.kind == y.kind)&&(((x.kids.length:Int) == (y.kids.length:Int))&&(x.cols == y.cols))
def rowD (P:Nd->Nd->Nat) (x:Nd) (f:List Nd->Nat):List Nd->Nat
 | []=>x.cnt+f []
 | y::ys=>if yAs x y then min (min (x.cnt+f (y::ys)) (y.cnt+rowD P x f ys)) (P x y+f ys) else min (x.cnt+f (y::ys)) (y.cnt+rowD P x f ys)
def TD (P:Nd->Nd->Nat):List Nd->List Nd->Nat
 | []=>Nd.cnts
 | x::xs=>rowD P x (TD P xs)
def sumD (f:List Nd->List Nd->Nat):List Nd->List Nd->Nat
 | u::us,v::vs=>f u.kids v.kids+sumD f us vs
 | _,_=>0
def txt (x y:Nd):Nat:=bif x.text == y.text then 0 else 1
def PD:Nat->Nd->Nd->Nat
 | 0,_,_=>0
 | n+1,x,y=>txt x y+sumD (TD (PD n)) x.kids y.kids
def D (x y:Nd):Nat:=PD x.cnt x y
theorem zIm {k:Int}:∀ {a:List Nd}{v:Nd},zFj k a=true->v∈a->zHi v=true/\((v.kind == 1) == (k == 1))=false
 | u::a,v,h,hm=>by
  simp only[zFj,Bool.and_eq_true,Bool.not_eq_true']at h;rcases List.mem_cons.1 hm with rfl | hm
  ·exact⟨h.1.2,h.1.1⟩
  ·exact zIm h.2 hm
theorem zVP {u:Nd} (h:zHi u=true) (hk:u.kind=1):u = .mk 1 [] 0 u.kids/\zFj 1 u.kids=true:=by
 obtain⟨k,t,c,ks⟩:=u;simp only[Nd.kind]at hk;subst hk;simp only[zHi,Bool.and_eq_true]at h;obtain⟨⟨h1,h2⟩,h3⟩:=h;have h1':(t == [])=true:=h1;have h2':((c == 0)&&decide ((ks.length:Int)<=200))=true:=h2;simp only[Bool.and_eq_true]at h2';rw[eq_of_beq h1',eq_of_beq h2'.1]
 exact⟨rfl,h3⟩
theorem zUi {F:Nd->Nd->Option Bool}{a b:List Nd} (hF:∀ u∈a,∀ v∈b,∃ y,F u v=some y/\(y=true↔u=v)) (hl:a.length=b.length) (hb:a.length<=1073741824) :
  ∀ (q i:Nat),a.length - i<q->i<=a.length->∃ y,zBO F a b q (i:Int)=some (if y then .go () else .ret false)/\(y=true↔a.drop i=b.drop i)
 | 0,_,h,_=>by omega
 | q+1,i,hq,hi=>by
  unfold zBO
  by_cases h:i<a.length
  ·have h':i<b.length :=(by omega);rw[zAJ (Int.ofNat_lt.2 h),cond_true,zAC h,zAC h']
   obtain⟨y,f1,f2⟩:=hF _ (List.getElem_mem h) _ (List.getElem_mem h')
   have d1:=List.drop_eq_getElem_cons h;have d2:=List.drop_eq_getElem_cons h';rcases e:a[i] with ⟨x1,x2,x3,x4⟩
   rcases e':b[i] with ⟨y1,y2,y3,y4⟩
   rw[e,e']at f1 f2;rw[e]at d1;rw[e']at d2;simp only[obs,f1]
   cases y with
   | false =>
    refine⟨false,rfl,⟨(fun h=>by cases h),fun h=>?_⟩⟩
    rw[d1,d2]at h;exact f2.2 (List.cons.inj h).1
   | true =>
    simp only[Bool.not_true,cond_false]
    rw[zAN (by omega)]
    obtain⟨z,g1,g2⟩:=zUi hF hl hb q (i+1) (by omega) (by omega)
    refine⟨z,g1,?_⟩
    rw[d1,d2,g2,f2.1 rfl]
    simp
  ·rw[zAD (by omega),cond_false]
   obtain rfl:i=a.length :=(by omega);refine⟨true,rfl,?_⟩
   rw[List.drop_length,hl,List.drop_length]
   simp
theorem zLw:∀ N:Nat,(∀ x y:Nd,2 * x.cnt<N->x.cnt<=67108864->∃ r,zB6 N x y=some r/\(r=true↔x=y)) /\
  (∀ a b:List Nd,2 * Nd.cnts a+1<N->Nd.cnts a<=67108864->∃ r,zCj N a b=some r/\(r=true↔a=b))
 | 0=>⟨fun _ _ h _=>by omega,fun _ _ h _=>by omega⟩
 | n+1=>by
  obtain⟨ih1,ih2⟩:=zLw n;refine⟨fun x y h hx=>?_,fun a b h ha=>?_⟩
  ·obtain⟨a,b,c,d⟩:=x;obtain⟨a',b',c',d'⟩:=y;simp only[Nd.cnt]at h hx;obtain⟨r,h1,h2⟩:=ih2 d d' (by omega) (by omega)
   unfold zB6;simp only[h1,obs]
   cases e1:a == a' with
   | false=>exact⟨false,rfl,⟨(fun h=>by cases h),fun h=>by cases h; simp at e1⟩⟩
   | true =>
    cases e2:b == b' with
    | false=>exact⟨false,rfl,⟨(fun h=>by cases h),fun h=>by cases h; simp at e2⟩⟩
    | true =>
     cases e3:c == c' with
     | false=>exact⟨false,rfl,⟨(fun h=>by cases h),fun h=>by cases h; simp at e3⟩⟩
     | true =>
      refine⟨r,rfl,h2.trans ⟨fun h=>?_,fun h=>by cases h; rfl⟩⟩
      rw[eq_of_beq e1,eq_of_beq e2,eq_of_beq e3,h]
  ·unfold zCj;have l1:=Nd.cnts_len a
   by_cases hl:a.length=b.length
   ·obtain⟨y,g1,g2⟩:=zUi (F:=zB6 n) (a:=a) (b:=b) (fun u hu v _=>ih1 u v (by have:=Nd.cnts_mem hu; omega) (by have:=Nd.cnts_mem hu; omega)) hl (by omega) n 0 (by omega) (by omega)
    rw[show((0:Nat):Int)=0 from rfl]at g1;rw[hl,bne_self_eq_false,cond_false,g1]
    refine⟨y,by cases y <;> rfl,g2⟩
   ·have:((a.length:Int) != (b.length:Int))=true:=by
     unfold bne;rw[zDY (by omega)]; rfl
    rw[this]
    exact⟨false,rfl,⟨(fun h=>by cases h),fun h=>absurd (congrArg List.length h) hl⟩⟩
theorem zMo {x:Nd} (h:zAF x=true):x = .mk 1 [] 0 x.kids/\zFj 1 x.kids=true:=by
 unfold zAF at h;simp only[Bool.and_eq_true]at h;exact zVP h.2.1 (eq_of_beq h.1)
inductive Fd:Nd->List Int->Nd->Prop
 | nil (t:Nd):Fd t [] t
 | step {k:Int} {tx:List UInt8} {c:Int} {ks:List Nd} {i:Nat} {k2:Int} {tx2:List UInt8} {c2:Int} {ks2:List Nd} {s:Nat} {z r:Nd} {p:List Int}
   (hi:ks[i]? = some (.mk k2 tx2 c2 ks2)) (hs:ks2[s]? = some z) (h:Fd z p r):Fd (.mk k tx c ks) ((i:Int)::(s:Int)::p) r
theorem Fd.find {t r:Nd}{p:List Int} (h:Fd t p r):zB3 t p=some r:=by
 induction h with
 | nil t=>rw[zB3]
 | @step k tx c ks i k2 tx2 c2 ks2 s z r p hi hs _ ih =>
  have hl:=(List.getElem?_eq_some_iff.1 hi).1;have hl2:=(List.getElem?_eq_some_iff.1 hs).1;rw[zB3,if_pos ⟨by omega,show(i:Int)<(ks.length:Int) by omega⟩]
  simp only[Nd.kids,List.getD_eq_getElem?_getD,Int.toNat_natCast,hi,hs,Option.getD_some]
  rw[if_pos ⟨by omega,show(s:Int)<(ks2.length:Int) by omega⟩]
  exact ih
theorem Fd.of:∀ (N:Nat) (p:List Int) (t r:Nd),p.length<N->zB3 t p=some r->Fd t p r
 | 0,p,_,_,h,_=>by omega
 | N+1,[],t,r,_,h=>by
  rw[zB3]at h;cases h;exact .nil t
 | N+1,[_],t,r,_,h=>by
  rw[zB3]at h;cases h
 | N+1,i::s::p,.mk k tx c ks,r,hN,h=>by
  rw[zB3]at h;split at h
  ·rename_i hi
   replace hi:0<=i/\i<ks.length:=hi;obtain⟨i,rfl⟩:=Int.eq_ofNat_of_zero_le hi.1;have hx:ks[i]? = some ks[i]:=List.getElem?_eq_getElem (by omega)
   generalize ks[i]=x at hx;obtain⟨k2,tx2,c2,ks2⟩:=x;simp only[Nd.kids,List.getD_eq_getElem?_getD,Int.toNat_natCast,hx,Option.getD_some]at h;split at h
   ·rename_i hs
    obtain⟨s,rfl⟩:=Int.eq_ofNat_of_zero_le hs.1;have hz:ks2[s]? = some ks2[s]:=List.getElem?_eq_getElem (by omega)
    generalize ks2[s]=z at hz;rw[Int.toNat_natCast,hz,Option.getD_some]at h;exact .step hx hz (Fd.of N p z r (by simp only[List.length_cons]at hN; omega) h)
   ·cases h
  ·cases h
theorem zZT {p:List Int}{t r:Nd} (h:zB3 t p=some r):Fd t p r:=Fd.of _ p t r (Nat.lt_succ_self _) h
theorem zJW {t r:Nd}:putL t [] r=r:=by cases t; rw[putL]; intros; contradiction
theorem zF0 {k:Int}{tx:List UInt8}{c:Int}{ks:List Nd}{i:Nat}{k2:Int}{tx2:List UInt8}{c2:Int}{ks2:List Nd}{s:Nat}{z r:Nd}{p:List Int} (hi:ks[i]? = some (.mk k2 tx2 c2 ks2)) (hs:ks2[s]? = some z) :
  putL (.mk k tx c ks) ((i:Int)::(s:Int)::p) r = .mk k tx c (ks.set i (.mk k2 tx2 c2 (ks2.set s (putL z p r)))):=by
 rw[putL,Int.toNat_natCast,hi]
 dsimp only;rw[Int.toNat_natCast,hs]
theorem zPC:∀ {ks:List Nd}{i:Nat}{x y:Nd},ks[i]? = some x->Nd.ws (ks.set i y)+x.w=Nd.ws ks+y.w
 | [],i,x,y,h=>by simp at h
 | v::ks,0,x,y,h=>by
  obtain rfl:v=x :=(by simpa using h);simp only[List.set_cons_zero,Nd.ws]; omega
 | v::ks,i+1,x,y,h=>by
  have:=zPC (ks:=ks) (i:=i) (x:=x) (y:=y) (by simpa using h)
  simp only[List.set_cons_succ,Nd.ws]; omega
theorem Fd.w {t z:Nd}{p:List Int} (h:Fd t p z) (r:Nd):(putL t p r).w+z.w=t.w+r.w:=by
 induction h with
 | nil t=>rw[zJW]; omega
 | @step k tx c ks i k2 tx2 c2 ks2 s z r' p hi hs _ ih =>
  rw[zF0 hi hs]
  have h1:=zPC (y:=.mk k2 tx2 c2 (ks2.set s (putL z p r))) hi;have h2:=zPC (y:=putL z p r) hs;simp only[Nd.w]at *
  omega
theorem zUk {α:Type}{l:List α}{i:Nat}{x y:α} (h:l[i]? = some x):(l.set i y)[i]? = some y:=by
 rw[List.getElem?_set,if_pos rfl,if_pos (List.getElem?_eq_some_iff.1 h).1]
theorem zNV {α:Type}{l:List α}{i:Nat}{x y:α} (h:l[i]? = some x):(l.set i y).set i x=l:=by
 refine List.ext_getElem? fun j=>?_
 rw[List.set_set,List.getElem?_set]
 split
 ·rename_i e
  subst e;rw[if_pos (List.getElem?_eq_some_iff.1 h).1,h]
 ·rfl
theorem Fd.put {t z:Nd}{p:List Int} (h:Fd t p z) (r:Nd):Fd (putL t p r) p r:=by
 induction h with
 | nil t=>rw[zJW]; exact .nil r
 | @step k tx c ks i k2 tx2 c2 ks2 s z r' p hi hs _ ih =>
  rw[zF0 hi hs]
  exact .step (zUk hi) (zUk hs) ih
theorem Fd.put_put {t z:Nd}{p:List Int} (h:Fd t p z) (r q:Nd):putL (putL t p r) p q=putL t p q:=by
 induction h with
 | nil t=>simp only[zJW]
 | @step k tx c ks i k2 tx2 c2 ks2 s z r' p hi hs _ ih =>
  rw[zF0 hi hs,zF0 hi hs,zF0 (zUk hi) (zUk hs),ih]
  simp only[List.set_set]
theorem Fd.put_self {t z:Nd}{p:List Int} (h:Fd t p z):putL t p z=t:=by
 induction h with
 | nil t=>rw[zJW]
 | @step k tx c ks i k2 tx2 c2 ks2 s z r' p hi hs _ ih =>
  rw[zF0 hi hs,ih]
  have e1:ks2.set s z=ks2:=by
   have:=zNV (y:=z) hs
   rwa [List.set_set]at this
  have e2:ks.set i (.mk k2 tx2 c2 ks2)=ks:=by
   have:=zNV (y:=.mk k2 tx2 c2 ks2) hi
   rwa [List.set_set]at this
  rw[e1,e2]
theorem Fd.back {t z:Nd}{p:List Int} (h:Fd t p z) (r:Nd):putL (putL t p r) p z=t:=by rw[h.put_put,h.put_self]
theorem zJv:∀ {ks:List Nd}{v:Nd},v∈ks->v.dep<=Nd.deps ks
 | u::ks,v,h=>by
  simp only[Nd.deps]
  rcases List.mem_cons.1 h with rfl | h
  ·exact Nat.le_max_left _ _
  ·exact Nat.le_trans (zJv h) (Nat.le_max_right _ _)
theorem zOJ {k:Int}{tx:List UInt8}{c:Int}{ks:List Nd} (h:zHi (.mk k tx c ks)=true):zFj k ks=true:=by
 simp only[zHi,Bool.and_eq_true]at h;exact h.2
theorem Fd.form {t z:Nd}{p:List Int} (h:Fd t p z) (hf:zHi t=true) (hk:t.kind=1):zHi z=true/\z.kind=1:=by
 induction h with
 | nil t=>exact⟨hf,hk⟩
 | @step k tx c ks i k2 tx2 c2 ks2 s z r' p hi hs _ ih =>
  obtain⟨f1,f2⟩:=zIm (zOJ hf) (List.mem_of_getElem? hi)
  obtain⟨g1,g2⟩:=zIm (zOJ f1) (List.mem_of_getElem? hs)
  have hk:k=1:=hk;subst hk;have f3:(k2 == 1)=false :=(by simpa [Nd.kind] using f2);rw[f3]at g2;refine ih g1 ?_;cases e:z.kind == 1 with
  | true=>exact eq_of_beq e
  | false=>rw[e]at g2; cases g2
theorem Fd.small {t z:Nd}{p:List Int} (h:Fd t p z):z.cnt<=t.cnt/\z.dep<=t.dep/\z.w<=t.w:=by
 induction h with
 | nil t=>exact⟨Nat.le_refl _,Nat.le_refl _,Nat.le_refl _⟩
 | @step k tx c ks i k2 tx2 c2 ks2 s z r' p hi hs _ ih =>
  have m1:=Nd.w_mem (List.mem_of_getElem? hi)
  have m2:=Nd.w_mem (List.mem_of_getElem? hs)
  have n1:=Nd.cnts_mem (List.mem_of_getElem? hi)
  have n2:=Nd.cnts_mem (List.mem_of_getElem? hs)
  have d1:=zJv (List.mem_of_getElem? hi)
  have d2:=zJv (List.mem_of_getElem? hs)
  simp only[Nd.w,Nd.cnt,Nd.dep]at *
  omega
theorem Fd.valid {t z:Nd}{p:List Int} (h:Fd t p z) (hv:zAF t=true):zAF z=true:=by
 unfold zAF at hv ⊢;simp only[Bool.and_eq_true,decide_eq_true_eq]at hv ⊢;obtain⟨h1,h2,h3,h4⟩:=hv;obtain⟨f1,f2⟩:=h.form h2 (eq_of_beq h1)
 obtain⟨s1,s2,_⟩:=h.small;exact⟨by rw[f2]; rfl,f1,by omega,by omega⟩
mutual
def posI:List Int->Nat->List Nd->List (List Int)
 | p,i,[]=>[p++[(i:Int)]]
 | p,i,x::xs=>(p++[(i:Int)])::(posX p i x++posI p (i+1) xs)
def posX:List Int->Nat->Nd->List (List Int)
 | p,i,.mk _ _ _ ks=>posS p i 0 ks
def posS:List Int->Nat->Nat->List Nd->List (List Int)
 | _,_,_,[]=>[]
 | p,i,s,u::us=>posU (p++[(i:Int),(s:Int)]) u++posS p i (s+1) us
def posU:List Int->Nd->List (List Int)
 | p,.mk _ _ _ ks=>posI p 0 ks
end
def inL:List Nd->List Int->Prop
 | l,[o]=>0<=o/\o<=(l.length:Int)
 | l,i::s::r=>0<=i/\∃ x,l[i.toNat]? = some x/\0<=s/\∃ u,x.kids[s.toNat]? = some u/\inL u.kids r
 | _,[]=>False
theorem zOL {l:List Nd}{o:Int}:inL l [o]↔0<=o/\o<=(l.length:Int):=Iff.rfl
theorem zHj {l:List Nd}{i s:Int}{r:List Int}:inL l (i::s::r)↔0<=i/\∃ x,l[i.toNat]? = some x/\0<=s/\∃ u,x.kids[s.toNat]? = some u/\inL u.kids r:=by
 cases r <;> rfl
mutual
theorem zVY:∀ (p:List Int) (i:Nat) (xs:List Nd) (q:List Int),q∈posI p i xs↔∃ a r,q=p++a::r/\(i:Int)<=a/\inL xs ((a - i)::r)
 | p,i,[],q=>by
  rw[posI,List.mem_singleton]
  constructor
  ·rintro rfl
   exact⟨i,[],rfl,Int.le_refl _,by rw[Int.sub_self]; exact⟨Int.le_refl _,Int.le_refl _⟩⟩
  ·rintro⟨a,r,rfl,h1,h2⟩
   cases r with
   | nil =>
    have:=zOL.1 h2
    have e:a=i:=by simp at this; omega
    rw[e]
   | cons s r =>
    obtain⟨_,x,h,_⟩:=zHj.1 h2
    simp at h
 | p,i,x::xs,q=>by
  rw[posI,List.mem_cons,List.mem_append,zYP p i x q,zVY p (i+1) xs q]
  constructor
  ·rintro(rfl | ⟨s,r,rfl,h0,u,h1,h2⟩ | ⟨a,r,rfl,h1,h2⟩)
   ·exact⟨i,[],rfl,Int.le_refl _,by rw[Int.sub_self]; exact⟨Int.le_refl _,by simp; omega⟩⟩
   ·refine⟨i,s::r,by simp,Int.le_refl _,?_⟩
    rw[Int.sub_self]
    exact zHj.2 ⟨Int.le_refl _,x,rfl,h0,u,h1,h2⟩
   ·refine⟨a,r,rfl,by omega,?_⟩
    have e:a - (i:Int)=(a - ((i+1:Nat):Int))+1:=by omega
    rw[e]
    cases r with
    | nil =>
     have:=zOL.1 h2
     exact⟨by omega,by simp; omega⟩
    | cons s r =>
     obtain⟨g0,y,g1,g2⟩:=zHj.1 h2
     refine zHj.2 ⟨by omega,y,?_,g2⟩
     rw[show(a - ((i+1:Nat):Int)+1).toNat=(a - ((i+1:Nat):Int)).toNat+1 by omega]
     simpa using g1
  ·rintro⟨a,r,rfl,h1,h2⟩
   by_cases ha:a=i
   ·subst ha
    rw[Int.sub_self]at h2
    cases r with
    | nil=>exact .inl rfl
    | cons s r =>
     obtain⟨g0,y,g1,g2,u,g3,g4⟩:=zHj.1 h2
     obtain rfl:x=y:=by simpa using g1
     exact .inr (.inl ⟨s,r,by simp,g2,u,g3,g4⟩)
   ·refine .inr (.inr ⟨a,r,rfl,by omega,?_⟩)
    have e:a - (i:Int)=(a - ((i+1:Nat):Int))+1:=by omega
    rw[e]at h2
    cases r with
    | nil =>
     have:=zOL.1 h2
     exact⟨by omega,by simp at this; omega⟩
    | cons s r =>
     obtain⟨g0,y,g1,g2⟩:=zHj.1 h2
     refine zHj.2 ⟨by omega,y,?_,g2⟩
     rw[show(a - ((i+1:Nat):Int)+1).toNat=(a - ((i+1:Nat):Int)).toNat+1 by omega]at g1
     simpa using g1
theorem zYP:∀ (p:List Int) (i:Nat) (x:Nd) (q:List Int),q∈posX p i x↔∃ s r,q=p++[(i:Int)]++s::r/\0<=s/\∃ u,x.kids[s.toNat]? = some u/\inL u.kids r
 | p,i,.mk k t c ks,q=>by
  rw[posX,zVZ p i 0 ks q]
  constructor
  ·rintro⟨s,r,h1,h2,u,h3,h4⟩
   exact⟨s,r,h1,by omega,u,by simpa [Nd.kids] using h3,h4⟩
  ·rintro⟨s,r,h1,h2,u,h3,h4⟩
   exact⟨s,r,h1,by omega,u,by simpa [Nd.kids] using h3,h4⟩
theorem zVZ:∀ (p:List Int) (i s:Nat) (us:List Nd) (q:List Int),q∈posS p i s us↔∃ b r,q=p++[(i:Int)]++b::r/\(s:Int)<=b/\∃ u,us[(b - s).toNat]? = some u/\inL u.kids r
 | p,i,s,[],q=>by
  rw[posS]
  constructor
  ·intro h; cases h
  ·rintro⟨b,r,_,_,u,h,_⟩; simp at h
 | p,i,s,u::us,q=>by
  rw[posS,List.mem_append,zV0 (p++[(i:Int),(s:Int)]) u q,zVZ p i (s+1) us q]
  constructor
  ·rintro(⟨r,rfl,h⟩ | ⟨b,r,rfl,h1,v,h2,h3⟩)
   ·exact⟨s,r,by simp,Int.le_refl _,u,by rw[Int.sub_self]; rfl,h⟩
   ·refine⟨b,r,rfl,by omega,v,?_,h3⟩
    rw[show(b - (s:Int)).toNat=(b - ((s+1:Nat):Int)).toNat+1 by omega]
    simpa using h2
  ·rintro⟨b,r,rfl,h1,v,h2,h3⟩
   by_cases hb:b=s
   ·subst hb
    rw[Int.sub_self]at h2
    obtain rfl:u=v:=by simpa using h2
    exact .inl ⟨r,by simp,h3⟩
   ·refine .inr ⟨b,r,rfl,by omega,v,?_,h3⟩
    rw[show(b - (s:Int)).toNat=(b - ((s+1:Nat):Int)).toNat+1 by omega]at h2
    simpa using h2
theorem zV0:∀ (p:List Int) (u:Nd) (q:List Int),q∈posU p u↔∃ r,q=p++r/\inL u.kids r
 | p,.mk k t c ks,q=>by
  rw[posU,zVY p 0 ks q]
  constructor
  ·rintro⟨a,r,rfl,h1,h2⟩
   exact⟨a::r,rfl,by simpa [Nd.kids] using h2⟩
  ·rintro⟨r,rfl,h⟩
   cases r with
   | nil=>exact h.elim
   | cons a r =>
    refine⟨a,r,rfl,?_,by simpa [Nd.kids] using h⟩
    cases r with
    | nil=>exact(zOL.1 h).1
    | cons s r=>exact(zHj.1 h).1
end
def posT (t:Nd):List (List Int):=posU [] t
theorem zRN (t:Nd) (q:List Int):q∈posT t↔inL t.kids q:=by
 unfold posT;rw[zV0]
 constructor
 ·rintro⟨r,rfl,h⟩; exact h
 ·intro h; exact⟨q,rfl,h⟩
mutual
theorem zSg:∀ (p:List Int) (i:Nat) (xs:List Nd),(posI p i xs).length<=Nd.cnts xs+1
 | p,i,[]=>by rw[posI]; simp
 | p,i,x::xs=>by
  have h1:=zYW p i x
  have h2:=zSg p (i+1) xs
  rw[posI]
  simp only[List.length_cons,List.length_append,Nd.cnts]
  omega
theorem zYW:∀ (p:List Int) (i:Nat) (x:Nd),(posX p i x).length+1<=x.cnt
 | p,i,.mk k t c ks=>by
  have h:=zWb p i 0 ks
  rw[posX]
  simp only[Nd.cnt]
  omega
theorem zWb:∀ (p:List Int) (i s:Nat) (us:List Nd),(posS p i s us).length<=Nd.cnts us
 | p,i,s,[]=>by rw[posS]; simp
 | p,i,s,u::us=>by
  have h1:=zWc (p++[(i:Int),(s:Int)]) u
  have h2:=zWb p i (s+1) us
  rw[posS]
  simp only[List.length_append,Nd.cnts]
  omega
theorem zWc:∀ (p:List Int) (u:Nd),(posU p u).length<=u.cnt
 | p,.mk k t c ks=>by
  have h:=zSg p 0 ks
  rw[posU]
  simp only[Nd.cnt]
  omega
end
theorem zYV (t:Nd):(posT t).length<=t.cnt:=zWc [] t
theorem zXH:∀ (q:List Int) (l:List Nd),inL l q->q.length<=2 * Nd.deps l+1
 | [],_,h=>h.elim
 | [_],_,_=>by simp
 | i::s::r,l,h=>by
  obtain⟨_,x,h1,_,u,h2,h3⟩:=zHj.1 h;have ih:=zXH r u.kids h3;have d1:=zJv (List.mem_of_getElem? h1)
  have d2:=zJv (List.mem_of_getElem? h2)
  have e1:x.dep=Nd.deps x.kids+1 :=(by cases x; rfl);have e2:u.dep=Nd.deps u.kids+1 :=(by cases u; rfl);simp only[List.length_cons]
  omega
def hd (l:List UInt8) (s:List UInt8):Prop:=∀ b r,l=b::r->b∈s
end Go.Proofs.YtgplhldfbkmmgaaGreat
