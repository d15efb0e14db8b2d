/-
  Joined out of: HzHC, HzHD, HzHE, HzHF, PTypO, PTypR, PCnt, PByte, PText, PVal, PDist, PMet, PPut, PPos, PDump, PNode, PRow, PWith, PWt, PLeast.
-/
import Derived.Lib.ItoaLen
import Derived.Test.YtffhjiplcfncdaaGreatZe
set_option linter.unusedVariables false
set_option linter.unusedSimpArgs false
set_option maxHeartbeats 2000000
set_option maxRecDepth 100000
namespace Go.Proofs.YtffhjiplcfncdaaGreat
open Go.Abs
def zS6 (n:Nat) (xs:List AV) (r:Ret):Prop:=∃ (a0:Nd) (a1:List Int) (a2:Int) (y0:List Int) (y1:Int),zEM n a0 a1 a2=some (y0,y1)/\xs=[.agg ((Nd.enc a0).map .s),.s (.sl 1 ((List.map (irow .i64)) a1)),.s (.int .i64 a2)]/\r = .val (.tup [.s (.sl 1 ((List.map (irow .i64)) y0)),.s (.int .i64 y1)])
def zNl:zAE:=zAF fun xs r=>∃ n,zS6 n xs r
theorem zRU:PSound Tryz.prog 80 zNl:=by
 have gok:∀ f s,look? f [(110,zIW),(111,zSl)]=some s->PSound Tryz.prog f s:=zAC (by
  simp only[List.forall_mem_cons]
  exact⟨zKO,zUH,by simp⟩)
 refine zAG tokW Tryz.call80 Tryz.func80 rfl (fun xs r h=>by obtain⟨n,_,_,_,_,_,_,rfl,_⟩:=h; show 3<=31; decide) 31 rfl ?_;rintro xs r w0 G0 ⟨n,⟨n1A,n1C,n1D,n1B⟩,pos2,by3,y0,y1,h,rfl,rfl⟩ _;rw[zEM]at h;refine zXL [] [] rfl ?_;show Tri ..;refine zXL [] [] rfl ?_;obtain⟨⟨y4,y5⟩,hy4,h⟩:=zAc h;refine⟨_,⟨_,_,_,_,_,hy4,rfl,rfl⟩,?_⟩
 show Tri ..;refine zAa ?_;refine zXL [] [] rfl ?_;show Tri ..;refine zAq rfl h (fun hb h=>?_) (fun hb h=>?_)
 ·refine zXL [] [] rfl ?_;show Tri ..;refine zAk ?_;obtain⟨hj1,hk1⟩:=pij h;subst hj1 hk1;unfold zAA;exact⟨_,Le.refl _ _,rfl,rfl⟩
 ·refine zAn ?_;show Tri ..;refine zXL [] [] rfl ?_;obtain⟨⟨y6,y7⟩,hy6,h⟩:=zAc h;refine⟨_,⟨_,_,_,_,_,hy6,rfl,rfl⟩,?_⟩
  show Tri ..;refine zAa ?_;refine zXL [] [] rfl ?_;show Tri ..;refine zAq rfl h (fun hb h=>?_) (fun hb h=>?_)
  ·refine zXL [] [] rfl ?_;show Tri ..;refine zAk ?_;obtain⟨hj1,hk1⟩:=pij h;subst hj1 hk1;unfold zAA;exact⟨_,Le.refl _ _,rfl,rfl⟩
  ·refine zAn ?_;show Tri ..;refine zXL [] [] rfl ?_;show Tri ..;refine zAk ?_;obtain⟨hj1,hk1⟩:=pij h;subst hj1 hk1;unfold zAA;exact⟨_,Le.refl _ _,rfl,rfl⟩
def zRp (n:Nat) (xs:List AV) (r:Ret):Prop:=∃ (a0:Nd) (a1:zCu) (a2:Bool) (y0:zRc) (y1:Int),zEP n a0 a1 a2=some (y0,y1)/\xs=[.agg ((Nd.enc a0).map .s),.agg ((zAp a1).map .s),.s (.bool a2)]/\r = .val (.tup [.agg ((zAd y0).map .s),.s (.int .i64 y1)])
def zLG:zAE:=zAF fun xs r=>∃ n,zRp n xs r
theorem zQI:PSound Tryz.prog 51 zLG:=by
 have gok:∀ f s,look? f [(71,zDg),(72,zJt),(75,zLF),(73,zEc),(76,zHz),(77,zJs),(74,zIb),(78,zEZ),(79,zHC),(80,zNl)]=some s->PSound Tryz.prog f s:=zAC (by
  simp only[List.forall_mem_cons]
  exact⟨zDw,zKb,zQH,zD7,zIf,zM2,zHZ,zFu,zJK,zRU,by simp⟩)
 refine zAG tokW Tryz.call51 Tryz.func51 rfl (fun xs r h=>by obtain⟨n,_,_,_,_,_,_,rfl,_⟩:=h; show 3<=171; decide) 171 rfl ?_;rintro xs r w0 G0 ⟨n,⟨a1A,a1C,a1D,a1B⟩,⟨a2Q,a2V⟩,a3,y0,y1,h,rfl,rfl⟩ _;rw[zEP]at h;refine zXL [6] [] rfl ?_;show Tri ..;refine zXL [8] [] rfl ?_;obtain⟨⟨⟨y4E,y4Ab,y4Ah⟩,y5⟩,hy4,h⟩:=zAc h;refine⟨_,⟨_,_,_,_,_,hy4,rfl,rfl⟩,?_⟩
 show Tri ..;refine zAs (Le.giveBox 1 [.sl 1 ((List.map (irow .i64)) y4E),.int .i64 y4Ab,.int .i64 y4Ah] rfl rfl) ?_;refine zAa ?_;refine zXL [] [] rfl ?_;show Tri ..;refine zAq rfl h (fun hb h=>?_) (fun hb h=>?_)
 ·refine zXL [] [] rfl ?_;show Tri ..;refine zAk ?_;obtain⟨hj1,hk1⟩:=pij h;subst hj1 hk1;unfold zAA;exact⟨_,Le.refl _ _,rfl,rfl⟩
 ·refine zAn ?_;show Tri ..;refine zAa ?_;refine zXL [] [] rfl ?_;show Tri ..;refine zAq rfl h (fun hb h=>?_) (fun hb h=>?_)
  ·refine zAa ?_;refine zAO [] [] [10] rfl (by decide +kernel) ?_;obtain⟨y6,hy6,h⟩:=zAc h;refine⟨_,⟨_,_,_,_,hy6,rfl,rfl⟩,?_⟩
   obtain⟨y7,hy7,h⟩:=zAc h;refine⟨_,⟨_,_,hy7,rfl,rfl⟩,?_⟩
   obtain⟨⟨⟨y8Aa,⟨y8Ac,y8Ad⟩,⟨y8Ae,y8Af⟩⟩,y9⟩,hy8,h⟩:=zAc h;refine⟨_,⟨_,_,_,_,_,_,_,hy8,rfl,rfl⟩,?_⟩
   show Tri ..;refine zAk ?_;obtain⟨hj1,hk1⟩:=pij h;subst hj1 hk1;unfold zAA;exact⟨_,Le.refl _ _,rfl,rfl⟩
  ·refine zAn ?_;show Tri ..;refine zAa ?_;refine zAO [] [49,51,56,58] [] rfl (by decide +kernel) ?_;intro n10 hn10;obtain rfl:(a2Q.length:Int)=n10:=(hn10.trans (congrArg (fun m:Nat=>(m:Int)) (rlen (fun _=>rfl) a2Q))).symm;obtain⟨hq,h⟩:=zAJ h;refine And.intro ⟨hq.1,hq.2.1,Int.le_trans hq.2.2 (Int.ofNat_le.2 (Nat.le_of_eq (rlen (fun _=>rfl) _).symm))⟩ ?_;intro r11 hr11;obtain rfl:(List.map (irow .i64)) ((a2Q.take (IntKind.i64.wrap ((a2Q.length:Int) - 1)).toNat).drop (0:Int).toNat)=r11:=(hr11.trans (rcut (fun _=>rfl) _ _ _)).symm;intro n12 hn12
   obtain rfl:(a2Q.length:Int)=n12:=(hn12.trans (congrArg (fun m:Nat=>(m:Int)) (rlen (fun _=>rfl) a2Q))).symm;obtain⟨e13,he13,h⟩:=zAc h;refine And.intro (zAD (fun _=>rfl) he13).1 ?_;intro r14 hr14;obtain rfl:[.int .i64 e13]=r14:=(hr14.trans (zAD (fun _=>rfl) he13).2.1).symm;show Tri ..;refine zXL [12] [] rfl ?_;obtain⟨⟨⟨y15A,y15C,y15D,y15B⟩,y16⟩,hy15,h⟩:=zAc h;refine⟨_,⟨_,_,_,_,_,hy15,rfl,rfl⟩,?_⟩
   show Tri ..;refine zAs (Le.giveBox 2 [.int .i64 y15A,.str y15C,.int .i64 y15D,.sl 4 (Nd.encs y15B)] rfl rfl) ?_;refine zXL [] [] rfl ?_;show Tri ..;refine zAa ?_;refine zXL [] [] rfl ?_;show Tri ..;obtain⟨⟨x17,x18⟩,hj,h⟩:=zAc h
   refine zAz ⟨ofL [(2,.s (.bool a3)),(3,.s (.pt [.int .i64 a1A,.str a1C,.int .i64 a1D,.sl 4 (Nd.encs a1B)])),(4,.s (.pt [.sl 1 ((List.map (irow .i64)) a2Q),.sl 1 ((List.map (irow .i64)) a2V)])),(6,.op 0 0),(10,.s (.sl 1 ((List.map (irow .i64)) ((a2Q.take (IntKind.i64.wrap ((a2Q.length:Int) - 1)).toNat).drop (0:Int).toNat)))),(12,.s (.pt [.int .i64 y15A,.str y15C,.int .i64 y15D,.sl 4 (Nd.encs y15B)])),(14,.s (.int .i64 x17)),(15,.s (.int .i64 x18))],ofH [(0,.box 31 [.nl 8,.nl 1,.nl 1,.nl 1,.nl 1])],1⟩ ?_ (fun σ' hle=>?_)
   ·replace h:=hj;refine zAq rfl h (fun hb h=>?_) (fun hb h=>?_)
    ·refine zAb [] [] rfl ?_;cases h;exact(Le.rnm [(0,0)] _ _ _ ⟨rfl,rfl,rfl,rfl,rfl,rfl,rfl,rfl,trivial⟩ ⟨rfl,⟨_,rfl,rfl⟩,trivial⟩)
    ·refine zAn ?_;cases h;exact(Le.rnm [(0,0)] _ _ _ ⟨rfl,rfl,rfl,rfl,rfl,rfl,rfl,rfl,trivial⟩ ⟨rfl,⟨_,rfl,rfl⟩,trivial⟩)
   ·show Tri ..;refine zAs hle ?_;refine zAa ?_;refine zAa ?_;obtain⟨x19,hj,h⟩:=zAc h
    refine zAz ⟨ofL [(2,.s (.bool a3)),(3,.s (.pt [.int .i64 a1A,.str a1C,.int .i64 a1D,.sl 4 (Nd.encs a1B)])),(4,.s (.pt [.sl 1 ((List.map (irow .i64)) a2Q),.sl 1 ((List.map (irow .i64)) a2V)])),(6,.op 0 0),(10,.s (.sl 1 ((List.map (irow .i64)) ((a2Q.take (IntKind.i64.wrap ((a2Q.length:Int) - 1)).toNat).drop (0:Int).toNat)))),(12,.s (.pt [.int .i64 y15A,.str y15C,.int .i64 y15D,.sl 4 (Nd.encs y15B)])),(14,.s (.int .i64 x17)),(15,.s (.int .i64 x18)),(78,.s (.bool x19))],ofH [(0,.box 31 [.nl 8,.nl 1,.nl 1,.nl 1,.nl 1])],1⟩ ?_ (fun σ' hle=>?_)
    ·replace h:=hj;refine zAb [] [72,76] rfl ?_;intro b hb;cases b with
     | true =>
      replace h:=zAI hb.symm h;intro n20 hn20;obtain rfl:(y15B.length:Int)=n20:=(hn20.trans (congrArg (fun m:Nat=>(m:Int)) (rlen Nd.encs_eq y15B))).symm;cases h;exact(Le.rnm [(0,0)] _ _ _ ⟨rfl,rfl,rfl,rfl,rfl,rfl,rfl,rfl,rfl,trivial⟩ ⟨rfl,⟨_,rfl,rfl⟩,trivial⟩)
     | false =>
      replace h:=zAH hb.symm h;cases h;exact(Le.rnm [(0,0)] _ _ _ ⟨rfl,rfl,rfl,rfl,rfl,rfl,rfl,rfl,rfl,trivial⟩ ⟨rfl,⟨_,rfl,rfl⟩,trivial⟩)
    ·show Tri ..;refine zAs hle ?_;obtain⟨fl,hj,ho1⟩:=zAc h;refine zBH (fl:=fl) (fun z=>match z with | _=>⟨ofL [(3,.s (.pt [.int .i64 a1A,.str a1C,.int .i64 a1D,.sl 4 (Nd.encs a1B)])),(4,.s (.pt [.sl 1 ((List.map (irow .i64)) a2Q),.sl 1 ((List.map (irow .i64)) a2V)])),(6,.op 0 0),(15,.s (.int .i64 x18))],ofH [(0,.box 31 [.nl 8,.nl 1,.nl 1,.nl 1,.nl 1])],1⟩) ?_ (fun z σ' hz hle=>?_)
     ·replace h:=hj;refine zAq rfl h (fun hb h=>?_) (fun hb h=>?_)
      ·refine zXL [] [82] rfl ?_;obtain⟨⟨e21A,e21C,e21D,e21B⟩,he21,h⟩:=zAc h;refine And.intro (zAD Nd.encs_eq he21).1 ?_;intro r22 hr22;obtain rfl:[.int .i64 e21A,.str e21C,.int .i64 e21D,.sl 4 (Nd.encs e21B)]=r22:=(hr22.trans (zAD Nd.encs_eq he21).2.1).symm;obtain⟨y23,hy23,h⟩:=zAc h;refine⟨_,⟨_,_,_,_,hy23,rfl,rfl⟩,?_⟩
       show Tri ..;refine zAq rfl h (fun hb h=>?_) (fun hb h=>?_)
       ·refine zAa ?_;refine zAO [] [93,95,97,100] [19] rfl (by decide +kernel) ?_;obtain⟨⟨e24A,e24C,e24D,e24B⟩,he24,h⟩:=zAc h;refine And.intro (zAD Nd.encs_eq he24).1 ?_;intro r25 hr25;obtain rfl:[.int .i64 e24A,.str e24C,.int .i64 e24D,.sl 4 (Nd.encs e24B)]=r25:=(hr25.trans (zAD Nd.encs_eq he24).2.1).symm;intro r26 hr26
        obtain rfl:Nd.encs [Nd.mk e24A e24C e24D e24B]=r26:=(hr26.trans (by simp[List.map_append,List.map_take,List.map_drop,irow,brow,zAB,List.map_cons,List.map_nil,zAy,Nd.encs_eq,Nd.enc,zAi,zAh,zAv,zAo,zAj,zAl,zAd,zAg,zAp,zAf,zAe,zAx,zAt,zAm])).symm;intro r27 hr27
        obtain rfl:(List.map zAl) [(2,(a2Q.take (IntKind.i64.wrap ((a2Q.length:Int) - 1)).toNat).drop (0:Int).toNat,x17,0,[Nd.mk e24A e24C e24D e24B],0,[],[])]=r27:=(hr27.trans (by simp[List.map_append,List.map_take,List.map_drop,irow,brow,zAB,List.map_cons,List.map_nil,zAy,Nd.encs_eq,Nd.enc,zAi,zAh,zAv,zAo,zAj,zAl,zAd,zAg,zAp,zAf,zAe,zAx,zAt,zAm])).symm;intro r28 hr28
        obtain rfl:(List.map (irow .i64)) [x17]=r28:=(hr28.trans (by simp[List.map_append,List.map_take,List.map_drop,irow,brow,zAB,List.map_cons,List.map_nil,zAy,Nd.encs_eq,Nd.enc,zAi,zAh,zAv,zAo,zAj,zAl,zAd,zAg,zAp,zAf,zAe,zAx,zAt,zAm])).symm;obtain⟨y29,hy29,h⟩:=zAc h;refine⟨_,⟨_,_,_,hy29,rfl,rfl⟩,?_⟩
        obtain⟨⟨⟨y30Aa,⟨y30Ac,y30Ad⟩,⟨y30Ae,y30Af⟩⟩,y31⟩,hy30,h⟩:=zAc h;refine⟨_,⟨_,_,_,_,_,_,_,hy30,rfl,rfl⟩,?_⟩
        show Tri ..;refine zAk ?_;cases h;replace h:some _=some _:=ho1;obtain⟨hj1,hk1⟩:=pij h;subst hj1 hk1;unfold zAA;exact⟨_,Le.refl _ _,rfl,rfl⟩
       ·refine zAn ?_;cases h;exact⟨_,rfl,(Le.rnm [(0,0)] _ _ _ ⟨rfl,rfl,rfl,rfl,trivial⟩ ⟨rfl,⟨_,rfl,rfl⟩,trivial⟩)⟩
      ·refine zXL [16] [] rfl ?_;obtain⟨⟨⟨y32E,y32F,y32Ak,⟨y32Ao,y32Ar,y32Ag,y32Al⟩⟩,y33⟩,hy32,h⟩:=zAc h;refine⟨_,⟨_,_,_,_,_,hy32,rfl,rfl⟩,?_⟩
       show Tri ..;refine zAs (Le.giveBox 1 [.sl 1 ((List.map (irow .i64)) y32E),.int .i64 y32F,.int .i64 y32Ak,.int .i64 y32Ao,.str y32Ar,.int .i64 y32Ag,.sl 4 (Nd.encs y32Al)] rfl rfl) ?_;refine zAa ?_;obtain⟨x34,hj,h⟩:=zAc h
       refine zAz ⟨ofL [(2,.s (.bool a3)),(3,.s (.pt [.int .i64 a1A,.str a1C,.int .i64 a1D,.sl 4 (Nd.encs a1B)])),(4,.s (.pt [.sl 1 ((List.map (irow .i64)) a2Q),.sl 1 ((List.map (irow .i64)) a2V)])),(6,.op 0 0),(15,.s (.int .i64 x18)),(16,.s (.pt [.sl 1 ((List.map (irow .i64)) y32E),.int .i64 y32F,.int .i64 y32Ak,.int .i64 y32Ao,.str y32Ar,.int .i64 y32Ag,.sl 4 (Nd.encs y32Al)])),(120,.s (.bool x34))],ofH [(0,.box 31 [.nl 8,.nl 1,.nl 1,.nl 1,.nl 1])],1⟩ ?_ (fun σ' hle=>?_)
       ·replace h:=hj;refine zAb [] [113] rfl ?_;intro b hb;cases b with
        | true =>
         replace h:=zAI hb.symm h;obtain⟨y35,hy35,h⟩:=zAc h;refine⟨_,⟨_,_,_,_,hy35,rfl,rfl⟩,?_⟩
         cases h;exact(Le.rnm [(0,0)] _ _ _ ⟨rfl,rfl,rfl,rfl,rfl,rfl,rfl,trivial⟩ ⟨rfl,⟨_,rfl,rfl⟩,trivial⟩)
        | false =>
         replace h:=zAH hb.symm h;cases h;exact(Le.rnm [(0,0)] _ _ _ ⟨rfl,rfl,rfl,rfl,rfl,rfl,rfl,trivial⟩ ⟨rfl,⟨_,rfl,rfl⟩,trivial⟩)
       ·show Tri ..;refine zAs hle ?_;refine zAq rfl h (fun hb h=>?_) (fun hb h=>?_)
        ·refine zXL [18] [] rfl ?_;obtain⟨⟨y36A,y36E,y36F,y36S,y36R,y36W,y36X,y36C⟩,hy36,h⟩:=zAc h;refine⟨_,⟨_,_,hy36,rfl,rfl⟩,?_⟩
         show Tri ..;refine zAs (Le.giveBox 1 [.int .i64 y36A,.sl 1 ((List.map (irow .i64)) y36E),.int .i64 y36F,.int .i64 y36S,.sl 4 (Nd.encs y36R),.int .i64 y36W,.str y36X,.str y36C] rfl rfl) ?_;refine zAa ?_;refine zXL [] [] rfl ?_;show Tri ..;refine zAq rfl h (fun hb h=>?_) (fun hb h=>?_)
         ·refine zAa ?_;refine zAO [] [127,132] [13] rfl (by decide +kernel) ?_;intro r37 hr37;obtain rfl:(List.map zAl) [(y36A,y36E,y36F,y36S,y36R,y36W,y36X,y36C)]=r37:=(hr37.trans (by simp[List.map_append,List.map_take,List.map_drop,irow,brow,zAB,List.map_cons,List.map_nil,zAy,Nd.encs_eq,Nd.enc,zAi,zAh,zAv,zAo,zAj,zAl,zAd,zAg,zAp,zAf,zAe,zAx,zAt,zAm])).symm;intro r38 hr38
          obtain rfl:(List.map (irow .i64)) [y32F]=r38:=(hr38.trans (by simp[List.map_append,List.map_take,List.map_drop,irow,brow,zAB,List.map_cons,List.map_nil,zAy,Nd.encs_eq,Nd.enc,zAi,zAh,zAv,zAo,zAj,zAl,zAd,zAg,zAp,zAf,zAe,zAx,zAt,zAm])).symm;obtain⟨y39,hy39,h⟩:=zAc h;refine⟨_,⟨_,_,_,hy39,rfl,rfl⟩,?_⟩
          obtain⟨⟨⟨y40Aa,⟨y40Ac,y40Ad⟩,⟨y40Ae,y40Af⟩⟩,y41⟩,hy40,h⟩:=zAc h;refine⟨_,⟨_,_,_,_,_,_,_,hy40,rfl,rfl⟩,?_⟩
          show Tri ..;refine zAk ?_;cases h;replace h:some _=some _:=ho1;obtain⟨hj1,hk1⟩:=pij h;subst hj1 hk1;unfold zAA;exact⟨_,Le.refl _ _,rfl,rfl⟩
         ·refine zAn ?_;show Tri ..;refine zAa ?_;refine zAO [] [140,148] [16] rfl (by decide +kernel) ?_;intro r42 hr42;obtain rfl:(List.map zAl) [(y36A,y36E,y36F,y36S,y36R,y36W,y36X,y36C)]=r42:=(hr42.trans (by simp[List.map_append,List.map_take,List.map_drop,irow,brow,zAB,List.map_cons,List.map_nil,zAy,Nd.encs_eq,Nd.enc,zAi,zAh,zAv,zAo,zAj,zAl,zAd,zAg,zAp,zAf,zAe,zAx,zAt,zAm])).symm;intro r43 hr43
          obtain rfl:(List.map (irow .i64)) [IntKind.i64.wrap (y32F+y36S)]=r43:=(hr43.trans (by simp[List.map_append,List.map_take,List.map_drop,irow,brow,zAB,List.map_cons,List.map_nil,zAy,Nd.encs_eq,Nd.enc,zAi,zAh,zAv,zAo,zAj,zAl,zAd,zAg,zAp,zAf,zAe,zAx,zAt,zAm])).symm;obtain⟨y44,hy44,h⟩:=zAc h;refine⟨_,⟨_,_,_,hy44,rfl,rfl⟩,?_⟩
          obtain⟨⟨⟨y45Aa,⟨y45Ac,y45Ad⟩,⟨y45Ae,y45Af⟩⟩,y46⟩,hy45,h⟩:=zAc h;refine⟨_,⟨_,_,_,_,_,_,_,hy45,rfl,rfl⟩,?_⟩
          show Tri ..;refine zAk ?_;cases h;replace h:some _=some _:=ho1;obtain⟨hj1,hk1⟩:=pij h;subst hj1 hk1;unfold zAA;exact⟨_,Le.refl _ _,rfl,rfl⟩
        ·refine zAn ?_;cases h;exact⟨_,rfl,(Le.rnm [(0,0)] _ _ _ ⟨rfl,rfl,rfl,rfl,trivial⟩ ⟨rfl,⟨_,rfl,rfl⟩,trivial⟩)⟩
     ·subst hz;obtain _:=z;replace h:=ho1;show Tri ..;refine zAs hle ?_;refine zXL [] [] rfl ?_;obtain⟨⟨y47,y48⟩,hy47,h⟩:=zAc h;refine⟨_,⟨_,_,_,_,_,_,hy47,rfl,rfl⟩,?_⟩
      show Tri ..;refine zAa ?_;refine zXL [] [] rfl ?_;show Tri ..;refine zAq rfl h (fun hb h=>?_) (fun hb h=>?_)
      ·refine zXL [] [] rfl ?_;show Tri ..;refine zAk ?_;obtain⟨hj1,hk1⟩:=pij h;subst hj1 hk1;unfold zAA;exact⟨_,Le.refl _ _,rfl,rfl⟩
      ·refine zAn ?_;show Tri ..;refine zXL [] [] rfl ?_;obtain⟨⟨⟨y49Aa,⟨y49Ac,y49Ad⟩,⟨y49Ae,y49Af⟩⟩,y50⟩,hy49,h⟩:=zAc h;refine⟨_,⟨_,_,_,_,_,_,_,hy49,rfl,rfl⟩,?_⟩
       show Tri ..;refine zAk ?_;obtain⟨hj1,hk1⟩:=pij h;subst hj1 hk1;unfold zAA;exact⟨_,Le.refl _ _,rfl,rfl⟩
def zRs (xs:List AV) (r:Ret):Prop:=∃ (a0:List Nd) (y0:Nd),zF1 a0=some y0/\xs=[.s (.sl 4 (Nd.encs a0))]/\r = .val (.agg ((Nd.enc y0).map .s))
def zLI:zAE:=zAF fun xs r=>zRs xs r
theorem zQK:PSound Tryz.prog 53 zLI:=by
 have gok:=@gok0 Tryz.prog;refine zAG tokW Tryz.call53 Tryz.func53 rfl (fun xs r h=>by obtain⟨_,_,_,rfl,_⟩:=h; show 1<=10; decide) 10 rfl ?_;rintro xs r w0 G0 ⟨l1,y0,h,rfl,rfl⟩ _;rw[zF1]at h;refine zXL [2] [] rfl ?_;show Tri ..;refine zAa ?_;refine zXL [] [4] rfl ?_;intro n2 hn2;obtain rfl:(l1.length:Int)=n2:=(hn2.trans (congrArg (fun m:Nat=>(m:Int)) (rlen Nd.encs_eq l1))).symm;show Tri ..;refine zAq rfl h (fun hb h=>?_) (fun hb h=>?_)
 ·refine zXL [] [] rfl ?_;show Tri ..;refine zAk ?_;have hy:=Option.some.inj h;subst hy;unfold zAA;exact⟨_,Le.refl _ _,rfl,rfl⟩
 ·refine zAn ?_;show Tri ..;refine zXL [] [8] rfl ?_;obtain⟨⟨e3A,e3C,e3D,e3B⟩,he3,h⟩:=zAc h;refine And.intro (zAD Nd.encs_eq he3).1 ?_;intro r4 hr4;obtain rfl:[.int .i64 e3A,.str e3C,.int .i64 e3D,.sl 4 (Nd.encs e3B)]=r4:=(hr4.trans (zAD Nd.encs_eq he3).2.1).symm;show Tri ..;refine zAk ?_;have hy:=Option.some.inj h;subst hy;unfold zAA;exact⟨_,Le.refl _ _,rfl,rfl⟩
def zS9 (n:Nat) (xs:List AV) (r:Ret):Prop:=∃ (a0:Nd) (a1:zCu) (a2:Nd) (a3:Int) (y0:zRc) (y1:Int),zEl n a0 a1 a2 a3=some (y0,y1)/\xs=[.agg ((Nd.enc a0).map .s),.agg ((zAp a1).map .s),.agg ((Nd.enc a2).map .s),.s (.int .i64 a3)]/\r = .val (.tup [.agg ((zAd y0).map .s),.s (.int .i64 y1)])
def zNo:zAE:=zAF fun xs r=>∃ n,zS9 n xs r
theorem zRX:PSound Tryz.prog 52 zNo:=by
 have gok:∀ f s,look? f [(25,zCw),(81,zHB),(71,zDg),(74,zIb),(73,zEc)]=some s->PSound Tryz.prog f s:=zAC (by
  simp only[List.forall_mem_cons]
  exact⟨zCt,zJJ,zDw,zHZ,zD7,by simp⟩)
 refine zAG tokW Tryz.call52 Tryz.func52 rfl (fun xs r h=>by obtain⟨n,_,_,_,_,_,_,_,rfl,_⟩:=h; show 4<=98; decide) 98 rfl ?_;rintro xs r w0 G0 ⟨n,⟨a1A,a1C,a1D,a1B⟩,⟨a2Q,a2V⟩,⟨a3A,a3C,a3D,a3B⟩,a4,y0,y1,h,rfl,rfl⟩ _;rw[zEl]at h;refine zXL [8] [] rfl ?_;show Tri ..;refine zXL [10] [16] rfl ?_;intro r5 hr5
 obtain rfl:Nd.encs [Nd.mk a3A a3C a3D a3B]=r5:=(hr5.trans (by simp[List.map_append,List.map_take,List.map_drop,irow,brow,zAB,List.map_cons,List.map_nil,zAy,Nd.encs_eq,Nd.enc,zAi,zAh,zAv,zAo,zAj,zAl,zAd,zAg,zAp,zAf,zAe,zAx,zAt,zAm])).symm;show Tri ..;refine zAa ?_;refine zAa ?_;obtain⟨x6,hj,h⟩:=zAc h
 refine zAz ⟨ofL [(3,.s (.int .i64 a4)),(4,.s (.pt [.int .i64 a1A,.str a1C,.int .i64 a1D,.sl 4 (Nd.encs a1B)])),(5,.s (.pt [.sl 1 ((List.map (irow .i64)) a2Q),.sl 1 ((List.map (irow .i64)) a2V)])),(6,.s (.pt [.int .i64 a3A,.str a3C,.int .i64 a3D,.sl 4 (Nd.encs a3B)])),(8,.op 0 0),(10,.op 1 0),(26,.s (.bool x6))],ofH [(0,.box 31 [.nl 8,.nl 1,.nl 1,.nl 1,.nl 1]),(1,.box 65 [.s (.int .i64 3),.nl 1,.s (.int .i64 0),.s (.int .i64 0),.s (.sl 4 (Nd.encs [Nd.mk a3A a3C a3D a3B])),.s (.int .i64 a4),.s (.str []),.s (.str [])])],2⟩ ?_ (fun σ' hle=>?_)
 ·replace h:=hj;refine zAb [] [22] rfl ?_;obtain⟨y7,hy7,h⟩:=zAc h;refine⟨_,⟨_,_,_,hy7,rfl,rfl⟩,?_⟩
  intro b hb;cases b with
  | true =>
   replace h:=zAI hb.symm h;cases h;exact(Le.rnm [(0,0),(1,1)] _ _ _ ⟨rfl,rfl,rfl,rfl,rfl,rfl,rfl,trivial⟩ ⟨rfl,⟨_,rfl,rfl⟩,rfl,⟨_,rfl,rfl⟩,trivial⟩)
  | false =>
   replace h:=zAH hb.symm h;obtain⟨y8,hy8,h⟩:=zAc h;refine⟨_,⟨_,_,_,hy8,rfl,rfl⟩,?_⟩
   cases h;exact(Le.rnm [(0,0),(1,1)] _ _ _ ⟨rfl,rfl,rfl,rfl,rfl,rfl,rfl,trivial⟩ ⟨rfl,⟨_,rfl,rfl⟩,rfl,⟨_,rfl,rfl⟩,trivial⟩)
 ·show Tri ..;refine zAs hle ?_;refine zAq rfl h (fun hb h=>?_) (fun hb h=>?_)
  ·refine zXL [] [] rfl ?_;show Tri ..;refine zAk ?_;obtain⟨hj1,hk1⟩:=pij h;subst hj1 hk1;unfold zAA;exact⟨_,Le.refl _ _,rfl,rfl⟩
  ·refine zAn ?_;show Tri ..;refine zXL [11] [] rfl ?_;obtain⟨⟨⟨y9E,y9Ab,y9Ah⟩,y10⟩,hy9,h⟩:=zAc h;refine⟨_,⟨_,_,_,_,_,hy9,rfl,rfl⟩,?_⟩
   show Tri ..;refine zAs (Le.giveBox 2 [.sl 1 ((List.map (irow .i64)) y9E),.int .i64 y9Ab,.int .i64 y9Ah] rfl rfl) ?_;refine zAa ?_;refine zXL [] [] rfl ?_;show Tri ..;refine zAq rfl h (fun hb h=>?_) (fun hb h=>?_)
   ·refine zXL [] [] rfl ?_;show Tri ..;refine zAk ?_;obtain⟨hj1,hk1⟩:=pij h;subst hj1 hk1;unfold zAA;exact⟨_,Le.refl _ _,rfl,rfl⟩
   ·refine zAn ?_;show Tri ..;refine zAa ?_;refine zAO [] [] [10,12,14] rfl (by decide +kernel) ?_;show Tri ..;refine zXL [] [55] rfl ?_;intro r11 hr11;obtain rfl:(List.map (irow .i64)) [IntKind.i64.wrap (y9Ab+1)]=r11:=(hr11.trans (by simp[List.map_append,List.map_take,List.map_drop,irow,brow,zAB,List.map_cons,List.map_nil,zAy,Nd.encs_eq,Nd.enc,zAi,zAh,zAv,zAo,zAj,zAl,zAd,zAg,zAp,zAf,zAe,zAx,zAt,zAm])).symm
    obtain⟨y12,hy12,h⟩:=zAc h;refine⟨_,⟨_,_,_,hy12,rfl,rfl⟩,?_⟩
    show Tri ..;refine zAa ?_;refine zXL [] [59] rfl ?_;intro n13 hn13;obtain rfl:(a3B.length:Int)=n13:=(hn13.trans (congrArg (fun m:Nat=>(m:Int)) (rlen Nd.encs_eq a3B))).symm;show Tri ..;obtain⟨x21,hl,h⟩:=zAc h
    refine zAz ⟨ofL [(4,.s (.pt [.int .i64 a1A,.str a1C,.int .i64 a1D,.sl 4 (Nd.encs a1B)])),(5,.s (.pt [.sl 1 ((List.map (irow .i64)) a2Q),.sl 1 ((List.map (irow .i64)) a2V)])),(8,.op 0 0),(10,.op 1 0),(13,.s (.sl 1 ((List.map (irow .i64)) x21)))],ofH [(0,.box 31 [.nl 8,.nl 1,.nl 1,.nl 1,.nl 1]),(1,.box 65 [.s (.int .i64 3),.s (.sl 1 ((List.map (irow .i64)) y9E)),.s (.int .i64 y9Ab),.s (.int .i64 (IntKind.i64.wrap (y9Ah - y9Ab))),.s (.sl 4 (Nd.encs [Nd.mk a3A a3C a3D a3B])),.s (.int .i64 a4),.s (.str []),.s (.str [])])],2⟩ ?_ (fun σ' hle=>?_)
    ·refine zAw (zAL (X:=Nat×(List Int)×Int) (fun y=>match y with | (k,x19,x20)=>⟨ofL [(3,.s (.int .i64 a4)),(4,.s (.pt [.int .i64 a1A,.str a1C,.int .i64 a1D,.sl 4 (Nd.encs a1B)])),(5,.s (.pt [.sl 1 ((List.map (irow .i64)) a2Q),.sl 1 ((List.map (irow .i64)) a2V)])),(6,.s (.pt [.int .i64 a3A,.str a3C,.int .i64 a3D,.sl 4 (Nd.encs a3B)])),(8,.op 0 0),(10,.op 1 0),(11,.s (.pt [.sl 1 ((List.map (irow .i64)) y9E),.int .i64 y9Ab,.int .i64 y9Ah])),(13,.s (.sl 1 ((List.map (irow .i64)) x19))),(14,.s (.int .i64 x20))],ofH [(0,.box 31 [.nl 8,.nl 1,.nl 1,.nl 1,.nl 1]),(1,.box 65 [.s (.int .i64 3),.s (.sl 1 ((List.map (irow .i64)) y9E)),.s (.int .i64 y9Ab),.s (.int .i64 (IntKind.i64.wrap (y9Ah - y9Ab))),.s (.sl 4 (Nd.encs [Nd.mk a3A a3C a3D a3B])),.s (.int .i64 a4),.s (.str []),.s (.str [])])],2⟩) (fun y=>zCs a3B a4 y9E y9Ab y9Ah y.1 y.2.1 y.2.2=some x21) (fun y=>y.1) (n,y12,IntKind.i64.wrap ((a3B.length:Int) - 1)) hl ?_ ?_)
     ·exact(Le.rnm [(0,0),(1,1)] _ _ _ ⟨rfl,rfl,rfl,rfl,rfl,rfl,rfl,rfl,rfl,trivial⟩ ⟨rfl,⟨_,rfl,rfl⟩,rfl,⟨_,rfl,rfl⟩,trivial⟩)
     ·rintro⟨k,x19,x20⟩ h;cases k with
      | zero=>cases h
      | succ k =>
       replace h:zCs a3B a4 y9E y9Ab y9Ah (k+1) x19 x20=some x21:=h;rw[zCs]at h;refine zAa ?_;refine zXL [] [] rfl ?_;show Tri ..;refine zAq rfl h (fun hb h=>?_) (fun hb h=>?_)
       ·refine zAn ?_;show Tri ..;refine zAa ?_;obtain⟨x22,hj,h⟩:=zAc h
        refine zAz ⟨ofL [(3,.s (.int .i64 a4)),(4,.s (.pt [.int .i64 a1A,.str a1C,.int .i64 a1D,.sl 4 (Nd.encs a1B)])),(5,.s (.pt [.sl 1 ((List.map (irow .i64)) a2Q),.sl 1 ((List.map (irow .i64)) a2V)])),(6,.s (.pt [.int .i64 a3A,.str a3C,.int .i64 a3D,.sl 4 (Nd.encs a3B)])),(8,.op 0 0),(10,.op 1 0),(11,.s (.pt [.sl 1 ((List.map (irow .i64)) y9E),.int .i64 y9Ab,.int .i64 y9Ah])),(13,.s (.sl 1 ((List.map (irow .i64)) x22))),(14,.s (.int .i64 x20))],ofH [(0,.box 31 [.nl 8,.nl 1,.nl 1,.nl 1,.nl 1]),(1,.box 65 [.s (.int .i64 3),.s (.sl 1 ((List.map (irow .i64)) y9E)),.s (.int .i64 y9Ab),.s (.int .i64 (IntKind.i64.wrap (y9Ah - y9Ab))),.s (.sl 4 (Nd.encs [Nd.mk a3A a3C a3D a3B])),.s (.int .i64 a4),.s (.str []),.s (.str [])])],2⟩ ?_ (fun σ' hle=>?_)
        ·replace h:=hj;refine zAw ?_;refine zAa ?_;obtain⟨x23,hj,h⟩:=zAc h
         refine zAz ⟨ofL [(3,.s (.int .i64 a4)),(4,.s (.pt [.int .i64 a1A,.str a1C,.int .i64 a1D,.sl 4 (Nd.encs a1B)])),(5,.s (.pt [.sl 1 ((List.map (irow .i64)) a2Q),.sl 1 ((List.map (irow .i64)) a2V)])),(6,.s (.pt [.int .i64 a3A,.str a3C,.int .i64 a3D,.sl 4 (Nd.encs a3B)])),(8,.op 0 0),(10,.op 1 0),(11,.s (.pt [.sl 1 ((List.map (irow .i64)) y9E),.int .i64 y9Ab,.int .i64 y9Ah])),(13,.s (.sl 1 ((List.map (irow .i64)) x19))),(14,.s (.int .i64 x20)),(82,.s (.bool x23))],ofH [(0,.box 31 [.nl 8,.nl 1,.nl 1,.nl 1,.nl 1]),(1,.box 65 [.s (.int .i64 3),.s (.sl 1 ((List.map (irow .i64)) y9E)),.s (.int .i64 y9Ab),.s (.int .i64 (IntKind.i64.wrap (y9Ah - y9Ab))),.s (.sl 4 (Nd.encs [Nd.mk a3A a3C a3D a3B])),.s (.int .i64 a4),.s (.str []),.s (.str [])])],2⟩ ?_ (fun σ' hle=>?_)
         ·replace h:=hj;refine zAb [] [68,71,73,77] rfl ?_;obtain⟨⟨e24A,e24C,e24D,e24B⟩,he24,h⟩:=zAc h;refine And.intro (zAD Nd.encs_eq he24).1 ?_;intro r25 hr25;obtain rfl:[.int .i64 e24A,.str e24C,.int .i64 e24D,.sl 4 (Nd.encs e24B)]=r25:=(hr25.trans (zAD Nd.encs_eq he24).2.1).symm;intro n26 hn26;obtain rfl:(e24B.length:Int)=n26:=(hn26.trans (congrArg (fun m:Nat=>(m:Int)) (rlen Nd.encs_eq e24B))).symm;intro b hb;cases b with
          | true =>
           replace h:=zAI hb.symm h;intro b hb;cases b with
           | true =>
            replace h:=zAI hb.symm h;cases h;exact(Le.rnm [(0,0),(1,1)] _ _ _ ⟨rfl,rfl,rfl,rfl,rfl,rfl,rfl,rfl,rfl,rfl,trivial⟩ ⟨rfl,⟨_,rfl,rfl⟩,rfl,⟨_,rfl,rfl⟩,trivial⟩)
           | false =>
            replace h:=zAH hb.symm h;cases h;exact(Le.rnm [(0,0),(1,1)] _ _ _ ⟨rfl,rfl,rfl,rfl,rfl,rfl,rfl,rfl,rfl,rfl,trivial⟩ ⟨rfl,⟨_,rfl,rfl⟩,rfl,⟨_,rfl,rfl⟩,trivial⟩)
          | false =>
           replace h:=zAH hb.symm h;cases h;exact(Le.rnm [(0,0),(1,1)] _ _ _ ⟨rfl,rfl,rfl,rfl,rfl,rfl,rfl,rfl,rfl,rfl,trivial⟩ ⟨rfl,⟨_,rfl,rfl⟩,rfl,⟨_,rfl,rfl⟩,trivial⟩)
         ·show Tri ..;refine zAs hle ?_;refine zAq rfl h (fun hb h=>?_) (fun hb h=>?_)
          ·refine zAb [] [88] rfl ?_;intro r27 hr27;obtain rfl:(List.map (irow .i64)) [y9Ab,x20,0]=r27:=(hr27.trans (by simp[List.map_append,List.map_take,List.map_drop,irow,brow,zAB,List.map_cons,List.map_nil,zAy,Nd.encs_eq,Nd.enc,zAi,zAh,zAv,zAo,zAj,zAl,zAd,zAg,zAp,zAf,zAe,zAx,zAt,zAm])).symm;obtain⟨y28,hy28,h⟩:=zAc h;refine⟨_,⟨_,_,_,hy28,rfl,rfl⟩,?_⟩
           cases h;exact(Le.rnm [(0,0),(1,1)] _ _ _ ⟨rfl,rfl,rfl,rfl,rfl,rfl,rfl,rfl,rfl,trivial⟩ ⟨rfl,⟨_,rfl,rfl⟩,rfl,⟨_,rfl,rfl⟩,trivial⟩)
          ·refine zAn ?_;cases h;exact(Le.rnm [(0,0),(1,1)] _ _ _ ⟨rfl,rfl,rfl,rfl,rfl,rfl,rfl,rfl,rfl,trivial⟩ ⟨rfl,⟨_,rfl,rfl⟩,rfl,⟨_,rfl,rfl⟩,trivial⟩)
        ·show Tri ..;refine zAs hle ?_;refine zAb [] [] rfl ?_;refine⟨(k,x22,IntKind.i64.wrap (x20 - 1)),h,(Le.rnm [(0,0),(1,1)] _ _ _ ⟨rfl,rfl,rfl,rfl,rfl,rfl,rfl,rfl,rfl,trivial⟩ ⟨rfl,⟨_,rfl,rfl⟩,rfl,⟨_,rfl,rfl⟩,trivial⟩),Nat.lt_succ_self k⟩
       ·refine zAP ?_;cases h;exact(Le.rnm [(0,0),(1,1)] _ _ _ ⟨rfl,rfl,rfl,rfl,rfl,trivial⟩ ⟨rfl,⟨_,rfl,rfl⟩,rfl,⟨_,rfl,rfl⟩,trivial⟩)
    ·show Tri ..;refine zAs hle ?_;refine zXL [] [93] rfl ?_;intro r29 hr29;obtain rfl:(List.map zAl) [(3,y9E,y9Ab,IntKind.i64.wrap (y9Ah - y9Ab),[Nd.mk a3A a3C a3D a3B],a4,[],[])]=r29:=(hr29.trans (by simp[List.map_append,List.map_take,List.map_drop,irow,brow,zAB,List.map_cons,List.map_nil,zAy,Nd.encs_eq,Nd.enc,zAi,zAh,zAv,zAo,zAj,zAl,zAd,zAg,zAp,zAf,zAe,zAx,zAt,zAm])).symm
     obtain⟨⟨⟨y30Aa,⟨y30Ac,y30Ad⟩,⟨y30Ae,y30Af⟩⟩,y31⟩,hy30,h⟩:=zAc h;refine⟨_,⟨_,_,_,_,_,_,_,hy30,rfl,rfl⟩,?_⟩
     show Tri ..;refine zAk ?_;obtain⟨hj1,hk1⟩:=pij h;subst hj1 hk1;unfold zAA;exact⟨_,Le.refl _ _,rfl,rfl⟩
def zPH (n:Nat) (xs:List AV) (r:Ret):Prop:=∃ (a0:List Int) (a1:List Int) (y0:Bool),zFf n a0 a1=some y0/\xs=[.s (.sl 1 ((List.map (irow .i64)) a0)),.s (.sl 1 ((List.map (irow .i64)) a1))]/\r = .val (.s (.bool y0))
def zKz:zAE:=zAF fun xs r=>∃ n,zPH n xs r
theorem zOY:PSound Tryz.prog 113 zKz:=by
 have gok:=@gok0 Tryz.prog;refine zAG tokW Tryz.call113 Tryz.func113 rfl (fun xs r h=>by obtain⟨n,_,_,_,_,rfl,_⟩:=h; show 2<=32; decide) 32 rfl ?_;rintro xs r w0 G0 ⟨n,pos1,row2,y0,h,rfl,rfl⟩ _;rw[zFf]at h;refine zXL [] [] rfl ?_;show Tri ..;refine zAa ?_;refine zXL [] [7,9] rfl ?_;intro n3 hn3;obtain rfl:(pos1.length:Int)=n3:=(hn3.trans (congrArg (fun m:Nat=>(m:Int)) (rlen (fun _=>rfl) pos1))).symm;intro n4 hn4;obtain rfl:(row2.length:Int)=n4:=(hn4.trans (congrArg (fun m:Nat=>(m:Int)) (rlen (fun _=>rfl) row2))).symm;show Tri ..
 refine zAq rfl h (fun hb h=>?_) (fun hb h=>?_)
 ·refine zXL [] [] rfl ?_;show Tri ..;refine zAk ?_;have hy:=Option.some.inj h;subst hy;unfold zAA;exact⟨_,Le.refl _ _,rfl,rfl⟩
 ·refine zAn ?_;show Tri ..;refine zAa ?_;refine zXL [] [] rfl ?_;show Tri ..;obtain⟨fl,hl,ho1⟩:=zAc h;refine zBH (fl:=fl) (fun z=>match z with | _=>⟨ofL [(0,.s (.sl 1 ((List.map (irow .i64)) pos1))),(1,.s (.sl 1 ((List.map (irow .i64)) row2)))],fun _=>none,0⟩) ?_ (fun z σ' hz hle=>?_)
  ·refine zAw (zAL (X:=Nat×Int) (fun y=>match y with | (k,i5)=>⟨ofL [(0,.s (.sl 1 ((List.map (irow .i64)) pos1))),(1,.s (.sl 1 ((List.map (irow .i64)) row2))),(5,.s (.int .i64 i5))],fun _=>none,0⟩) (fun y=>zCc pos1 row2 y.1 y.2=some fl) (fun y=>y.1) (n,0) hl ?_ ?_)
   ·exact(Le.forget _ ⟨rfl,rfl,rfl,trivial⟩)
   ·rintro⟨k,i5⟩ h;cases k with
    | zero=>cases h
    | succ k =>
     replace h:zCc pos1 row2 (k+1) i5=some fl:=h;rw[zCc]at h;refine zAa ?_;refine zXL [] [13] rfl ?_;intro n6 hn6;obtain rfl:(row2.length:Int)=n6:=(hn6.trans (congrArg (fun m:Nat=>(m:Int)) (rlen (fun _=>rfl) row2))).symm;show Tri ..;refine zAq rfl h (fun hb h=>?_) (fun hb h=>?_)
     ·refine zAn ?_;show Tri ..;refine zAa ?_;refine zAw ?_;refine zAa ?_;refine zAO [] [19,23] [] rfl (by decide +kernel) ?_;obtain⟨e7,he7,h⟩:=zAc h;refine And.intro (zAD (fun _=>rfl) he7).1 ?_;intro r8 hr8;obtain rfl:[.int .i64 e7]=r8:=(hr8.trans (zAD (fun _=>rfl) he7).2.1).symm;obtain⟨e9,he9,h⟩:=zAc h;refine And.intro (zAD (fun _=>rfl) he9).1 ?_;intro r10 hr10;obtain rfl:[.int .i64 e9]=r10:=(hr10.trans (zAD (fun _=>rfl) he9).2.1).symm;show Tri ..;refine zAq rfl h (fun hb h=>?_) (fun hb h=>?_)
      ·refine zXL [] [] rfl ?_;show Tri ..;refine zAk ?_;cases h;replace h:some _=some _:=ho1;have hy:=Option.some.inj h;subst hy;unfold zAA;exact⟨_,Le.refl _ _,rfl,rfl⟩
      ·refine zAn ?_;show Tri ..;refine zAb [] [] rfl ?_;refine⟨(k,IntKind.i64.wrap (i5+1)),h,(Le.forget _ ⟨rfl,rfl,rfl,trivial⟩),Nat.lt_succ_self k⟩
     ·refine zAP ?_;cases h;exact⟨_,rfl,(Le.forget _ ⟨rfl,rfl,trivial⟩)⟩
  ·subst hz;obtain _:=z;replace h:=ho1;show Tri ..;refine zAs hle ?_;refine zXL [] [27,29] rfl ?_;intro n11 hn11;obtain rfl:(pos1.length:Int)=n11:=(hn11.trans (congrArg (fun m:Nat=>(m:Int)) (rlen (fun _=>rfl) pos1))).symm;intro n12 hn12;obtain rfl:(row2.length:Int)=n12:=(hn12.trans (congrArg (fun m:Nat=>(m:Int)) (rlen (fun _=>rfl) row2))).symm;show Tri ..;refine zAk ?_;have hy:=Option.some.inj h;subst hy;unfold zAA;exact⟨_,Le.refl _ _,rfl,rfl⟩
def zPG (xs:List AV) (r:Ret):Prop:=∃ (a0:zO8) (a1:Int) (a2:Bool) (y0:List Int),zHR a0 a1 a2=some y0/\xs=[.agg ((zAl a0).map .s),.s (.int .i64 a1),.s (.bool a2)]/\r = .val (.s (.sl 1 ((List.map (irow .i64)) y0)))
def zKy:zAE:=zAF fun xs r=>zPG xs r
theorem zOX:PSound Tryz.prog 114 zKy:=by
 have gok:=@gok0 Tryz.prog;refine zAG tokW Tryz.call114 Tryz.func114 rfl (fun xs r h=>by obtain⟨_,_,_,_,_,rfl,_⟩:=h; show 3<=121; decide) 121 rfl ?_;rintro xs r w0 G0 ⟨⟨a1A,a1E,a1F,a1S,a1R,a1W,a1X,a1C⟩,a2,a3,y0,h,rfl,rfl⟩ _;rw[zHR]at h;refine zXL [] [] rfl ?_;show Tri ..;refine zXL [] [10] rfl ?_;intro n4 hn4;obtain rfl:(a1R.length:Int)=n4:=(hn4.trans (congrArg (fun m:Nat=>(m:Int)) (rlen Nd.encs_eq a1R))).symm;show Tri ..;refine zAa ?_;refine zXL [] [] rfl ?_;show Tri ..;obtain⟨fl,hj,ho1⟩:=zAc h
 refine zBH (fl:=fl) (fun z=>match z with | _=>⟨ofL [(1,.s (.int .i64 a2))],fun _=>none,0⟩) ?_ (fun z σ' hz hle=>?_)
 ·replace h:=hj;refine zAw ?_;refine zXL [] [] rfl ?_;show Tri ..;refine zAq rfl h (fun hb h=>?_) (fun hb h=>?_)
  ·refine zAa ?_;obtain⟨x5,hj,h⟩:=zAc h;refine zAz ⟨ofL [(1,.s (.int .i64 a2)),(7,.s (.int .i64 (a1R.length:Int))),(27,.s (.bool x5))],fun _=>none,0⟩ ?_ (fun σ' hle=>?_)
   ·replace h:=hj;refine zAb [] [19,24] rfl ?_;intro b hb;cases b with
    | true =>
     replace h:=zAI hb.symm h;cases h;exact(Le.forget _ ⟨rfl,rfl,rfl,trivial⟩)
    | false =>
     replace h:=zAH hb.symm h;intro b hb;cases b with
     | true =>
      replace h:=zAI hb.symm h;cases h;exact(Le.forget _ ⟨rfl,rfl,rfl,trivial⟩)
     | false =>
      replace h:=zAH hb.symm h;cases h;exact(Le.forget _ ⟨rfl,rfl,rfl,trivial⟩)
   ·show Tri ..;refine zAs hle ?_;refine zAq rfl h (fun hb h=>?_) (fun hb h=>?_)
    ·refine zXL [] [31] rfl ?_;intro r6 hr6;obtain rfl:(List.map (irow .i64)) [IntKind.i64.wrap (a2+(a1R.length:Int))]=r6:=(hr6.trans (by simp[List.map_append,List.map_take,List.map_drop,irow,brow,zAB,List.map_cons,List.map_nil,zAy,Nd.encs_eq,Nd.enc,zAi,zAh,zAv,zAo,zAj,zAl,zAd,zAg,zAp,zAf,zAe,zAx,zAt,zAm])).symm;show Tri ..;refine zAk ?_;cases h;replace h:some _=some _:=ho1;have hy:=Option.some.inj h;subst hy;unfold zAA
     exact⟨_,Le.refl _ _,rfl,rfl⟩
    ·refine zAn ?_;cases h;exact⟨_,rfl,(Le.forget _ ⟨rfl,trivial⟩)⟩
  ·refine zXL [] [] rfl ?_;show Tri ..;refine zAq rfl h (fun hb h=>?_) (fun hb h=>?_)
   ·refine zAa ?_;refine zAa ?_;obtain⟨x7,hj,h⟩:=zAc h;refine zAz ⟨ofL [(1,.s (.int .i64 a2)),(3,.s (.pt [.int .i64 a1A,.sl 1 ((List.map (irow .i64)) a1E),.int .i64 a1F,.int .i64 a1S,.sl 4 (Nd.encs a1R),.int .i64 a1W,.str a1X,.str a1C])),(7,.s (.int .i64 (a1R.length:Int))),(45,.s (.bool x7))],fun _=>none,0⟩ ?_ (fun σ' hle=>?_)
    ·replace h:=hj;refine zAb [] [38] rfl ?_;intro b hb;cases b with
     | true =>
      replace h:=zAI hb.symm h;cases h;exact(Le.forget _ ⟨rfl,rfl,rfl,rfl,trivial⟩)
     | false =>
      replace h:=zAH hb.symm h;cases h;exact(Le.forget _ ⟨rfl,rfl,rfl,rfl,trivial⟩)
    ·show Tri ..;refine zAs hle ?_;refine zAq rfl h (fun hb h=>?_) (fun hb h=>?_)
     ·refine zXL [] [48] rfl ?_;intro r8 hr8;obtain rfl:(List.map (irow .i64)) [a1F]=r8:=(hr8.trans (by simp[List.map_append,List.map_take,List.map_drop,irow,brow,zAB,List.map_cons,List.map_nil,zAy,Nd.encs_eq,Nd.enc,zAi,zAh,zAv,zAo,zAj,zAl,zAd,zAg,zAp,zAf,zAe,zAx,zAt,zAm])).symm;show Tri ..;refine zAk ?_;cases h;replace h:some _=some _:=ho1;have hy:=Option.some.inj h;subst hy;unfold zAA;exact⟨_,Le.refl _ _,rfl,rfl⟩
     ·refine zAn ?_;show Tri ..;refine zXL [] [] rfl ?_;show Tri ..;refine zAq rfl h (fun hb h=>?_) (fun hb h=>?_)
      ·refine zXL [] [56] rfl ?_;intro r9 hr9;obtain rfl:(List.map (irow .i64)) [IntKind.i64.wrap (a2 - (a1R.length:Int))]=r9:=(hr9.trans (by simp[List.map_append,List.map_take,List.map_drop,irow,brow,zAB,List.map_cons,List.map_nil,zAy,Nd.encs_eq,Nd.enc,zAi,zAh,zAv,zAo,zAj,zAl,zAd,zAg,zAp,zAf,zAe,zAx,zAt,zAm])).symm;show Tri ..;refine zAk ?_;cases h;replace h:some _=some _:=ho1;have hy:=Option.some.inj h;subst hy
       unfold zAA;exact⟨_,Le.refl _ _,rfl,rfl⟩
      ·refine zAn ?_;cases h;exact⟨_,rfl,(Le.forget _ ⟨rfl,trivial⟩)⟩
   ·refine zXL [] [] rfl ?_;show Tri ..;refine zAq rfl h (fun hb h=>?_) (fun hb h=>?_)
    ·refine zAa ?_;refine zAa ?_;obtain⟨x10,hj,h⟩:=zAc h;refine zAz ⟨ofL [(1,.s (.int .i64 a2)),(2,.s (.bool a3)),(3,.s (.pt [.int .i64 a1A,.sl 1 ((List.map (irow .i64)) a1E),.int .i64 a1F,.int .i64 a1S,.sl 4 (Nd.encs a1R),.int .i64 a1W,.str a1X,.str a1C])),(71,.s (.bool x10))],fun _=>none,0⟩ ?_ (fun σ' hle=>?_)
     ·replace h:=hj;refine zAb [] [63] rfl ?_;intro b hb;cases b with
      | true =>
       replace h:=zAI hb.symm h;cases h;exact(Le.forget _ ⟨rfl,rfl,rfl,rfl,trivial⟩)
      | false =>
       replace h:=zAH hb.symm h;cases h;exact(Le.forget _ ⟨rfl,rfl,rfl,rfl,trivial⟩)
     ·show Tri ..;refine zAs hle ?_;refine zAq rfl h (fun hb h=>?_) (fun hb h=>?_)
      ·refine zXL [] [80] rfl ?_;intro r11 hr11;obtain rfl:(List.map (irow .i64)) [a1F,a1W,IntKind.i64.wrap (a2 - a1F)]=r11:=(hr11.trans (by simp[List.map_append,List.map_take,List.map_drop,irow,brow,zAB,List.map_cons,List.map_nil,zAy,Nd.encs_eq,Nd.enc,zAi,zAh,zAv,zAo,zAj,zAl,zAd,zAg,zAp,zAf,zAe,zAx,zAt,zAm])).symm;show Tri ..;refine zAk ?_;cases h;replace h:some _=some _:=ho1;have hy:=Option.some.inj h;subst hy
       unfold zAA;exact⟨_,Le.refl _ _,rfl,rfl⟩
      ·refine zAn ?_;show Tri ..;refine zAa ?_;refine zXL [] [] rfl ?_;show Tri ..;refine zAq rfl h (fun hb h=>?_) (fun hb h=>?_)
       ·refine zXL [] [90] rfl ?_;intro r12 hr12;obtain rfl:(List.map (irow .i64)) [IntKind.i64.wrap ((IntKind.i64.wrap (a2 - a1S))+1)]=r12:=(hr12.trans (by simp[List.map_append,List.map_take,List.map_drop,irow,brow,zAB,List.map_cons,List.map_nil,zAy,Nd.encs_eq,Nd.enc,zAi,zAh,zAv,zAo,zAj,zAl,zAd,zAg,zAp,zAf,zAe,zAx,zAt,zAm])).symm;show Tri ..;refine zAk ?_;cases h;replace h:some _=some _:=ho1;have hy:=Option.some.inj h
        subst hy;unfold zAA;exact⟨_,Le.refl _ _,rfl,rfl⟩
       ·refine zAn ?_;show Tri ..;refine zAa ?_;obtain⟨x13,hj,h⟩:=zAc h;refine zAz ⟨ofL [(1,.s (.int .i64 a2)),(3,.s (.pt [.int .i64 a1A,.sl 1 ((List.map (irow .i64)) a1E),.int .i64 a1F,.int .i64 a1S,.sl 4 (Nd.encs a1R),.int .i64 a1W,.str a1X,.str a1C])),(102,.s (.bool x13))],fun _=>none,0⟩ ?_ (fun σ' hle=>?_)
        ·replace h:=hj;refine zAb [] [95,100] rfl ?_;intro b hb;cases b with
         | true =>
          replace h:=zAI hb.symm h;intro b hb;cases b with
          | true =>
           replace h:=zAI hb.symm h;cases h;exact(Le.forget _ ⟨rfl,rfl,rfl,trivial⟩)
          | false =>
           replace h:=zAH hb.symm h;cases h;exact(Le.forget _ ⟨rfl,rfl,rfl,trivial⟩)
         | false =>
          replace h:=zAH hb.symm h;intro b hb;subst hb;cases h;exact(Le.forget _ ⟨rfl,rfl,rfl,trivial⟩)
        ·show Tri ..;refine zAs hle ?_;refine zAq rfl h (fun hb h=>?_) (fun hb h=>?_)
         ·refine zXL [] [106] rfl ?_;intro r14 hr14;obtain rfl:(List.map (irow .i64)) [IntKind.i64.wrap (a1F+1)]=r14:=(hr14.trans (by simp[List.map_append,List.map_take,List.map_drop,irow,brow,zAB,List.map_cons,List.map_nil,zAy,Nd.encs_eq,Nd.enc,zAi,zAh,zAv,zAo,zAj,zAl,zAd,zAg,zAp,zAf,zAe,zAx,zAt,zAm])).symm;show Tri ..;refine zAk ?_;cases h;replace h:some _=some _:=ho1;have hy:=Option.some.inj h;subst hy;unfold zAA
          exact⟨_,Le.refl _ _,rfl,rfl⟩
         ·refine zAn ?_;cases h;exact⟨_,rfl,(Le.forget _ ⟨rfl,trivial⟩)⟩
    ·refine zXL [] [] rfl ?_;show Tri ..;refine zAq rfl h (fun hb h=>?_) (fun hb h=>?_)
     ·refine zXL [] [] rfl ?_;show Tri ..;refine zAq rfl h (fun hb h=>?_) (fun hb h=>?_)
      ·refine zXL [] [118] rfl ?_;intro r15 hr15;obtain rfl:(List.map (irow .i64)) [IntKind.i64.wrap ((IntKind.i64.wrap (a2 - 1))+a1S)]=r15:=(hr15.trans (by simp[List.map_append,List.map_take,List.map_drop,irow,brow,zAB,List.map_cons,List.map_nil,zAy,Nd.encs_eq,Nd.enc,zAi,zAh,zAv,zAo,zAj,zAl,zAd,zAg,zAp,zAf,zAe,zAx,zAt,zAm])).symm;show Tri ..;refine zAk ?_;cases h;replace h:some _=some _:=ho1;have hy:=Option.some.inj h
       subst hy;unfold zAA;exact⟨_,Le.refl _ _,rfl,rfl⟩
      ·refine zAn ?_;cases h;exact⟨_,rfl,(Le.forget _ ⟨rfl,trivial⟩)⟩
     ·refine zAn ?_;cases h;exact⟨_,rfl,(Le.forget _ ⟨rfl,trivial⟩)⟩
 ·subst hz;obtain _:=z;replace h:=ho1;show Tri ..;refine zAs hle ?_;refine zXL [] [120] rfl ?_;intro r16 hr16;obtain rfl:(List.map (irow .i64)) [a2]=r16:=(hr16.trans (by simp[List.map_append,List.map_take,List.map_drop,irow,brow,zAB,List.map_cons,List.map_nil,zAy,Nd.encs_eq,Nd.enc,zAi,zAh,zAv,zAo,zAj,zAl,zAd,zAg,zAp,zAf,zAe,zAx,zAt,zAm])).symm;show Tri ..;refine zAk ?_;have hy:=Option.some.inj h;subst hy;unfold zAA
  exact⟨_,Le.refl _ _,rfl,rfl⟩
def zPF (xs:List AV) (r:Ret):Prop:=∃ (a0:zO8) (a1:Int) (a2:Int) (a3:List Int) (y0:List Int),zFe a0 a1 a2 a3=some y0/\xs=[.agg ((zAl a0).map .s),.s (.int .i64 a1),.s (.int .i64 a2),.s (.sl 1 ((List.map (irow .i64)) a3))]/\r = .row 3 1 ((List.map (irow .i64)) y0)
def zKx:zAE:=zAF fun xs r=>zPF xs r
theorem zOW:PSound Tryz.prog 115 zKx:=by
 have gok:=@gok0 Tryz.prog;refine zAG tokW Tryz.call115 Tryz.func115 rfl (fun xs r h=>by obtain⟨_,_,_,_,_,_,rfl,_⟩:=h; show 4<=161; decide) 161 rfl ?_;rintro xs r w0 G0 ⟨⟨a1A,a1E,a1F,a1S,a1R,a1W,a1X,a1C⟩,a2,a3,a4,y0,h,rfl,rfl⟩ _;rw[zFe]at h;refine zXL [8] [] rfl ?_;show Tri ..
 refine zAs (Le.rnm [] [(1,.s (.int .i64 a2)),(2,.s (.int .i64 a3)),(3,.s (.sl 1 ((List.map (irow .i64)) a4))),(4,.s (.pt [.int .i64 a1A,.sl 1 ((List.map (irow .i64)) a1E),.int .i64 a1F,.int .i64 a1S,.sl 4 (Nd.encs a1R),.int .i64 a1W,.str a1X,.str a1C]))] [] 0 ⟨rfl,rfl,rfl,rfl,trivial⟩ trivial) ?_;refine zXL [] [13] rfl ?_;intro n5 hn5;obtain rfl:(a1R.length:Int)=n5:=(hn5.trans (congrArg (fun m:Nat=>(m:Int)) (rlen Nd.encs_eq a1R))).symm;show Tri ..;refine zXL [15] [] rfl ?_;show Tri ..
 refine zAs (Le.rnm [(0,0)] [(1,.s (.int .i64 a2)),(2,.s (.int .i64 a3)),(3,.s (.sl 1 ((List.map (irow .i64)) a4))),(4,.s (.pt [.int .i64 a1A,.sl 1 ((List.map (irow .i64)) a1E),.int .i64 a1F,.int .i64 a1S,.sl 4 (Nd.encs a1R),.int .i64 a1W,.str a1X,.str a1C])),(9,.s (.int .i64 (a1R.length:Int))),(10,.orow 0)] [(0,.row 3 1 ((List.map (irow .i64)) [a2]))] 1 ⟨rfl,rfl,rfl,rfl,rfl,rfl,trivial⟩ ⟨rfl,⟨_,rfl,congrArg (Ob.row 3 1) (by simp[List.map_append,List.map_take,List.map_drop,irow,brow,zAB,List.map_cons,List.map_nil,zAy,Nd.encs_eq,Nd.enc,zAi,zAh,zAv,zAo,zAj,zAl,zAd,zAg,zAp,zAf,zAe,zAx,zAt,zAm])⟩,trivial⟩) ?_
 refine zAa ?_;obtain⟨fl,hj,ho1⟩:=zAc h;refine zBH (fl:=fl) (fun z=>match z with | l6=>⟨ofL [(2,.s (.int .i64 a3)),(3,.s (.sl 1 ((List.map (irow .i64)) a4))),(10,.orow 0)],ofH [(0,.row 3 1 ((List.map (irow .i64)) l6))],1⟩) ?_ (fun l6 σ' hz hle=>?_)
 ·replace h:=hj;refine zAw ?_;refine zXL [] [] rfl ?_;show Tri ..;refine zAq rfl h (fun hb h=>?_) (fun hb h=>?_)
  ·refine zAn ?_;cases h;exact⟨_,rfl,(Le.rnm [(0,0)] _ _ _ ⟨rfl,rfl,rfl,trivial⟩ ⟨rfl,⟨_,rfl,rfl⟩,trivial⟩)⟩
  ·refine zXL [] [] rfl ?_;show Tri ..;refine zAq rfl h (fun hb h=>?_) (fun hb h=>?_)
   ·refine zAb [28] [] rfl ?_;cases h
    exact⟨_,rfl,(Le.trans (Le.rnm [(1,0)] [(2,.s (.int .i64 a3)),(3,.s (.sl 1 ((List.map (irow .i64)) a4))),(10,.orow 0)] [(0,.row 3 1 ((List.map (irow .i64)) [IntKind.i64.wrap (a2+(a1R.length:Int))]))] 1 ⟨rfl,rfl,rfl,trivial⟩ ⟨rfl,⟨_,rfl,congrArg (Ob.row 3 1) (by simp[List.map_append,List.map_take,List.map_drop,irow,brow,zAB,List.map_cons,List.map_nil,zAy,Nd.encs_eq,Nd.enc,zAi,zAh,zAv,zAo,zAj,zAl,zAd,zAg,zAp,zAf,zAe,zAx,zAt,zAm])⟩,trivial⟩) (Le.rnm [(0,0)] _ _ _ ⟨rfl,rfl,rfl,trivial⟩ ⟨rfl,⟨_,rfl,rfl⟩,trivial⟩))⟩
   ·refine zAa ?_;obtain⟨x7,hj,h⟩:=zAc h;refine zAz ⟨ofL [(1,.s (.int .i64 a2)),(2,.s (.int .i64 a3)),(3,.s (.sl 1 ((List.map (irow .i64)) a4))),(4,.s (.pt [.int .i64 a1A,.sl 1 ((List.map (irow .i64)) a1E),.int .i64 a1F,.int .i64 a1S,.sl 4 (Nd.encs a1R),.int .i64 a1W,.str a1X,.str a1C])),(9,.s (.int .i64 (a1R.length:Int))),(10,.orow 0),(29,.s (.bool x7))],ofH [(0,.row 3 1 ((List.map (irow .i64)) [a2]))],1⟩ ?_ (fun σ' hle=>?_)
    ·replace h:=hj;refine zAb [] [33] rfl ?_;intro b hb;cases b with
     | true =>
      replace h:=zAI hb.symm h;cases h;exact(Le.rnm [(0,0)] _ _ _ ⟨rfl,rfl,rfl,rfl,rfl,rfl,rfl,trivial⟩ ⟨rfl,⟨_,rfl,rfl⟩,trivial⟩)
     | false =>
      replace h:=zAH hb.symm h;cases h;exact(Le.rnm [(0,0)] _ _ _ ⟨rfl,rfl,rfl,rfl,rfl,rfl,rfl,trivial⟩ ⟨rfl,⟨_,rfl,rfl⟩,trivial⟩)
    ·show Tri ..;refine zAs hle ?_;refine zAq rfl h (fun hb h=>?_) (fun hb h=>?_)
     ·refine zXL [43] [] rfl ?_;show Tri ..;refine zAs (Le.rnm [(1,0)] [(8,.orow 0)] [(0,.row 3 1 ((List.map (irow .i64)) [a1F]))] 1 ⟨rfl,trivial⟩ ⟨rfl,⟨_,rfl,congrArg (Ob.row 3 1) (by simp[List.map_append,List.map_take,List.map_drop,irow,brow,zAB,List.map_cons,List.map_nil,zAy,Nd.encs_eq,Nd.enc,zAi,zAh,zAv,zAo,zAj,zAl,zAd,zAg,zAp,zAf,zAe,zAx,zAt,zAm])⟩,trivial⟩) ?_;refine zAk ?_;cases h;replace h:some _=some _:=ho1
      have hy:=Option.some.inj h;subst hy;unfold zAA;exact⟨_,Le.refl _ _,0,rfl,rfl⟩
     ·refine zXL [] [] rfl ?_;show Tri ..;refine zAq rfl h (fun hb h=>?_) (fun hb h=>?_)
      ·refine zAb [51] [] rfl ?_;cases h
       exact⟨_,rfl,(Le.trans (Le.rnm [(1,0)] [(2,.s (.int .i64 a3)),(3,.s (.sl 1 ((List.map (irow .i64)) a4))),(10,.orow 0)] [(0,.row 3 1 ((List.map (irow .i64)) [IntKind.i64.wrap (a2 - (a1R.length:Int))]))] 1 ⟨rfl,rfl,rfl,trivial⟩ ⟨rfl,⟨_,rfl,congrArg (Ob.row 3 1) (by simp[List.map_append,List.map_take,List.map_drop,irow,brow,zAB,List.map_cons,List.map_nil,zAy,Nd.encs_eq,Nd.enc,zAi,zAh,zAv,zAo,zAj,zAl,zAd,zAg,zAp,zAf,zAe,zAx,zAt,zAm])⟩,trivial⟩) (Le.rnm [(0,0)] _ _ _ ⟨rfl,rfl,rfl,trivial⟩ ⟨rfl,⟨_,rfl,rfl⟩,trivial⟩))⟩
      ·refine zAa ?_;obtain⟨x8,hj,h⟩:=zAc h;refine zAz ⟨ofL [(1,.s (.int .i64 a2)),(2,.s (.int .i64 a3)),(3,.s (.sl 1 ((List.map (irow .i64)) a4))),(4,.s (.pt [.int .i64 a1A,.sl 1 ((List.map (irow .i64)) a1E),.int .i64 a1F,.int .i64 a1S,.sl 4 (Nd.encs a1R),.int .i64 a1W,.str a1X,.str a1C])),(10,.orow 0),(52,.s (.bool x8))],ofH [(0,.row 3 1 ((List.map (irow .i64)) [a2]))],1⟩ ?_ (fun σ' hle=>?_)
       ·replace h:=hj;refine zAb [] [56] rfl ?_;intro b hb;cases b with
        | true =>
         replace h:=zAI hb.symm h;cases h;exact(Le.rnm [(0,0)] _ _ _ ⟨rfl,rfl,rfl,rfl,rfl,rfl,trivial⟩ ⟨rfl,⟨_,rfl,rfl⟩,trivial⟩)
        | false =>
         replace h:=zAH hb.symm h;cases h;exact(Le.rnm [(0,0)] _ _ _ ⟨rfl,rfl,rfl,rfl,rfl,rfl,trivial⟩ ⟨rfl,⟨_,rfl,rfl⟩,trivial⟩)
       ·show Tri ..;refine zAs hle ?_;refine zAq rfl h (fun hb h=>?_) (fun hb h=>?_)
        ·refine zAb [73] [] rfl ?_;cases h
         exact⟨_,rfl,(Le.trans (Le.rnm [(1,0)] [(2,.s (.int .i64 a3)),(3,.s (.sl 1 ((List.map (irow .i64)) a4))),(10,.orow 0)] [(0,.row 3 1 ((List.map (irow .i64)) [a1F,a1W,IntKind.i64.wrap (a2 - a1F)]))] 1 ⟨rfl,rfl,rfl,trivial⟩ ⟨rfl,⟨_,rfl,congrArg (Ob.row 3 1) (by simp[List.map_append,List.map_take,List.map_drop,irow,brow,zAB,List.map_cons,List.map_nil,zAy,Nd.encs_eq,Nd.enc,zAi,zAh,zAv,zAo,zAj,zAl,zAd,zAg,zAp,zAf,zAe,zAx,zAt,zAm])⟩,trivial⟩) (Le.rnm [(0,0)] _ _ _ ⟨rfl,rfl,rfl,trivial⟩ ⟨rfl,⟨_,rfl,rfl⟩,trivial⟩))⟩
        ·refine zXL [] [] rfl ?_;show Tri ..;refine zAq rfl h (fun hb h=>?_) (fun hb h=>?_)
         ·refine zAb [83] [] rfl ?_;cases h
          exact⟨_,rfl,(Le.trans (Le.rnm [(1,0)] [(2,.s (.int .i64 a3)),(3,.s (.sl 1 ((List.map (irow .i64)) a4))),(10,.orow 0)] [(0,.row 3 1 ((List.map (irow .i64)) [IntKind.i64.wrap ((IntKind.i64.wrap (a2 - a1S))+1)]))] 1 ⟨rfl,rfl,rfl,trivial⟩ ⟨rfl,⟨_,rfl,congrArg (Ob.row 3 1) (by simp[List.map_append,List.map_take,List.map_drop,irow,brow,zAB,List.map_cons,List.map_nil,zAy,Nd.encs_eq,Nd.enc,zAi,zAh,zAv,zAo,zAj,zAl,zAd,zAg,zAp,zAf,zAe,zAx,zAt,zAm])⟩,trivial⟩) (Le.rnm [(0,0)] _ _ _ ⟨rfl,rfl,rfl,trivial⟩ ⟨rfl,⟨_,rfl,rfl⟩,trivial⟩))⟩
         ·refine zAa ?_;obtain⟨x9,hj,h⟩:=zAc h;refine zAz ⟨ofL [(1,.s (.int .i64 a2)),(2,.s (.int .i64 a3)),(3,.s (.sl 1 ((List.map (irow .i64)) a4))),(4,.s (.pt [.int .i64 a1A,.sl 1 ((List.map (irow .i64)) a1E),.int .i64 a1F,.int .i64 a1S,.sl 4 (Nd.encs a1R),.int .i64 a1W,.str a1X,.str a1C])),(10,.orow 0),(84,.s (.bool x9))],ofH [(0,.row 3 1 ((List.map (irow .i64)) [a2]))],1⟩ ?_ (fun σ' hle=>?_)
          ·replace h:=hj;refine zAb [] [88,94] rfl ?_;intro b hb;cases b with
           | true =>
            replace h:=zAI hb.symm h;intro b hb;cases b with
            | true =>
             replace h:=zAI hb.symm h;cases h;exact(Le.rnm [(0,0)] _ _ _ ⟨rfl,rfl,rfl,rfl,rfl,rfl,trivial⟩ ⟨rfl,⟨_,rfl,rfl⟩,trivial⟩)
            | false =>
             replace h:=zAH hb.symm h;cases h;exact(Le.rnm [(0,0)] _ _ _ ⟨rfl,rfl,rfl,rfl,rfl,rfl,trivial⟩ ⟨rfl,⟨_,rfl,rfl⟩,trivial⟩)
           | false =>
            replace h:=zAH hb.symm h;intro b hb;subst hb;cases h;exact(Le.rnm [(0,0)] _ _ _ ⟨rfl,rfl,rfl,rfl,rfl,rfl,trivial⟩ ⟨rfl,⟨_,rfl,rfl⟩,trivial⟩)
          ·show Tri ..;refine zAs hle ?_;refine zAq rfl h (fun hb h=>?_) (fun hb h=>?_)
           ·refine zXL [102] [] rfl ?_;show Tri ..;refine zAs (Le.rnm [(1,0)] [(8,.orow 0)] [(0,.row 3 1 ((List.map (irow .i64)) [a1F]))] 1 ⟨rfl,trivial⟩ ⟨rfl,⟨_,rfl,congrArg (Ob.row 3 1) (by simp[List.map_append,List.map_take,List.map_drop,irow,brow,zAB,List.map_cons,List.map_nil,zAy,Nd.encs_eq,Nd.enc,zAi,zAh,zAv,zAo,zAj,zAl,zAd,zAg,zAp,zAf,zAe,zAx,zAt,zAm])⟩,trivial⟩) ?_;refine zAk ?_;cases h
            replace h:some _=some _:=ho1;have hy:=Option.some.inj h;subst hy;unfold zAA;exact⟨_,Le.refl _ _,0,rfl,rfl⟩
           ·refine zAa ?_;obtain⟨x10,hj,h⟩:=zAc h;refine zAz ⟨ofL [(1,.s (.int .i64 a2)),(2,.s (.int .i64 a3)),(3,.s (.sl 1 ((List.map (irow .i64)) a4))),(4,.s (.pt [.int .i64 a1A,.sl 1 ((List.map (irow .i64)) a1E),.int .i64 a1F,.int .i64 a1S,.sl 4 (Nd.encs a1R),.int .i64 a1W,.str a1X,.str a1C])),(10,.orow 0),(103,.s (.bool x10))],ofH [(0,.row 3 1 ((List.map (irow .i64)) [a2]))],1⟩ ?_ (fun σ' hle=>?_)
            ·replace h:=hj;refine zAb [] [107,113] rfl ?_;intro b hb;cases b with
             | true =>
              replace h:=zAI hb.symm h;intro b hb;cases b with
              | true =>
               replace h:=zAI hb.symm h;cases h;exact(Le.rnm [(0,0)] _ _ _ ⟨rfl,rfl,rfl,rfl,rfl,rfl,trivial⟩ ⟨rfl,⟨_,rfl,rfl⟩,trivial⟩)
              | false =>
               replace h:=zAH hb.symm h;cases h;exact(Le.rnm [(0,0)] _ _ _ ⟨rfl,rfl,rfl,rfl,rfl,rfl,trivial⟩ ⟨rfl,⟨_,rfl,rfl⟩,trivial⟩)
             | false =>
              replace h:=zAH hb.symm h;intro b hb;subst hb;cases h;exact(Le.rnm [(0,0)] _ _ _ ⟨rfl,rfl,rfl,rfl,rfl,rfl,trivial⟩ ⟨rfl,⟨_,rfl,rfl⟩,trivial⟩)
            ·show Tri ..;refine zAs hle ?_;refine zAq rfl h (fun hb h=>?_) (fun hb h=>?_)
             ·refine zXL [124] [] rfl ?_;show Tri ..;refine zAs (Le.rnm [(1,0)] [(8,.orow 0)] [(0,.row 3 1 ((List.map (irow .i64)) [IntKind.i64.wrap (a1F+a1S)]))] 1 ⟨rfl,trivial⟩ ⟨rfl,⟨_,rfl,congrArg (Ob.row 3 1) (by simp[List.map_append,List.map_take,List.map_drop,irow,brow,zAB,List.map_cons,List.map_nil,zAy,Nd.encs_eq,Nd.enc,zAi,zAh,zAv,zAo,zAj,zAl,zAd,zAg,zAp,zAf,zAe,zAx,zAt,zAm])⟩,trivial⟩) ?_;refine zAk ?_;cases h
              replace h:some _=some _:=ho1;have hy:=Option.some.inj h;subst hy;unfold zAA;exact⟨_,Le.refl _ _,0,rfl,rfl⟩
             ·refine zAa ?_;obtain⟨x11,hj,h⟩:=zAc h;refine zAz ⟨ofL [(1,.s (.int .i64 a2)),(2,.s (.int .i64 a3)),(3,.s (.sl 1 ((List.map (irow .i64)) a4))),(4,.s (.pt [.int .i64 a1A,.sl 1 ((List.map (irow .i64)) a1E),.int .i64 a1F,.int .i64 a1S,.sl 4 (Nd.encs a1R),.int .i64 a1W,.str a1X,.str a1C])),(10,.orow 0),(125,.s (.bool x11))],ofH [(0,.row 3 1 ((List.map (irow .i64)) [a2]))],1⟩ ?_ (fun σ' hle=>?_)
              ·replace h:=hj;refine zAb [] [129] rfl ?_;intro b hb;cases b with
               | true =>
                replace h:=zAI hb.symm h;cases h;exact(Le.rnm [(0,0)] _ _ _ ⟨rfl,rfl,rfl,rfl,rfl,rfl,trivial⟩ ⟨rfl,⟨_,rfl,rfl⟩,trivial⟩)
               | false =>
                replace h:=zAH hb.symm h;cases h;exact(Le.rnm [(0,0)] _ _ _ ⟨rfl,rfl,rfl,rfl,rfl,rfl,trivial⟩ ⟨rfl,⟨_,rfl,rfl⟩,trivial⟩)
              ·show Tri ..;refine zAs hle ?_;refine zAq rfl h (fun hb h=>?_) (fun hb h=>?_)
               ·refine zAa ?_;refine zC1 [141,144] [138,143] [6,9] [] rfl (by decide +kernel) ?_;obtain⟨e12,he12,h⟩:=zAc h;refine And.intro (zAD (fun _=>rfl) he12).1 ?_;intro r13 hr13;obtain rfl:[.int .i64 e12]=r13:=(hr13.trans (zAD (fun _=>rfl) he12).2.1).symm;obtain⟨hq,h⟩:=zAJ h;refine And.intro ⟨hq.1,Int.le_trans hq.2.1 (Int.ofNat_le.2 (Nat.le_of_eq (rlen (fun _=>rfl) _).symm)),Int.le_refl _⟩ ?_;intro r14 hr14
                obtain rfl:(List.map (irow .i64)) ((a4.take (a4.length:Int).toNat).drop (1:Int).toNat)=r14:=(hr14.trans ((congrArg (fun m:Nat=>(((List.map (irow .i64)) a4).take m).drop (1:Int).toNat) (rlen (fun _=>rfl) _)).trans (rcut (fun _=>rfl) _ _ _))).symm;obtain⟨hq,h⟩:=zAJ h
                refine And.intro (show([[.int .i64 (IntKind.i64.wrap (a1F+e12))]].length+((List.map (irow .i64)) ((a4.take (a4.length:Int).toNat).drop (1:Int).toNat)).length) * 8<=140737488355328/\[[.int .i64 (IntKind.i64.wrap (a1F+e12))]].length+((List.map (irow .i64)) ((a4.take (a4.length:Int).toNat).drop (1:Int).toNat)).length<=9223372036854775807 from by simp only[List.length_append,List.length_cons,List.length_nil,List.length_map,rlen (fun _=>rfl)]at hq ⊢; omega) ?_;show Tri ..
                refine zAs (Le.rnm [(2,0)] [(8,.orow 0)] [(0,.row 3 1 ((List.map (irow .i64)) ([IntKind.i64.wrap (a1F+e12)]++((a4.take (a4.length:Int).toNat).drop (1:Int).toNat))))] 1 ⟨rfl,trivial⟩ ⟨rfl,⟨_,rfl,congrArg (Ob.row 3 1) (by simp[List.map_append,List.map_take,List.map_drop,irow,brow,zAB,List.map_cons,List.map_nil,zAy,Nd.encs_eq,Nd.enc,zAi,zAh,zAv,zAo,zAj,zAl,zAd,zAg,zAp,zAf,zAe,zAx,zAt,zAm])⟩,trivial⟩) ?_;refine zAk ?_;cases h
                replace h:some _=some _:=ho1;have hy:=Option.some.inj h;subst hy;unfold zAA;exact⟨_,Le.refl _ _,0,rfl,rfl⟩
               ·refine zXL [] [] rfl ?_;show Tri ..;refine zAq rfl h (fun hb h=>?_) (fun hb h=>?_)
                ·refine zAb [154] [] rfl ?_;cases h
                 exact⟨_,rfl,(Le.trans (Le.rnm [(1,0)] [(2,.s (.int .i64 a3)),(3,.s (.sl 1 ((List.map (irow .i64)) a4))),(10,.orow 0)] [(0,.row 3 1 ((List.map (irow .i64)) [IntKind.i64.wrap ((IntKind.i64.wrap (a2 - 1))+a1S)]))] 1 ⟨rfl,rfl,rfl,trivial⟩ ⟨rfl,⟨_,rfl,congrArg (Ob.row 3 1) (by simp[List.map_append,List.map_take,List.map_drop,irow,brow,zAB,List.map_cons,List.map_nil,zAy,Nd.encs_eq,Nd.enc,zAi,zAh,zAv,zAo,zAj,zAl,zAd,zAg,zAp,zAf,zAe,zAx,zAt,zAm])⟩,trivial⟩) (Le.rnm [(0,0)] _ _ _ ⟨rfl,rfl,rfl,trivial⟩ ⟨rfl,⟨_,rfl,rfl⟩,trivial⟩))⟩
                ·refine zAn ?_;cases h;exact⟨_,rfl,(Le.rnm [(0,0)] _ _ _ ⟨rfl,rfl,rfl,trivial⟩ ⟨rfl,⟨_,rfl,rfl⟩,trivial⟩)⟩
 ·subst hz;replace h:=ho1;show Tri ..;refine zAs hle ?_;refine zXL [158,160] [157] rfl ?_;intro r15 hr15;obtain rfl:(List.map (irow .i64)) [a3]=r15:=(hr15.trans (by simp[List.map_append,List.map_take,List.map_drop,irow,brow,zAB,List.map_cons,List.map_nil,zAy,Nd.encs_eq,Nd.enc,zAi,zAh,zAv,zAo,zAj,zAl,zAd,zAg,zAp,zAf,zAe,zAx,zAt,zAm])).symm;obtain⟨hq,h⟩:=zAJ h
  refine And.intro (show(((List.map (irow .i64)) l6).length+((List.map (irow .i64)) [a3]).length) * 8<=140737488355328/\((List.map (irow .i64)) l6).length+((List.map (irow .i64)) [a3]).length<=9223372036854775807 from by simp only[List.length_append,List.length_cons,List.length_nil,List.length_map,rlen (fun _=>rfl)]at hq ⊢; omega) ?_;obtain⟨hq,h⟩:=zAJ h
  refine And.intro (show((((List.map (irow .i64)) l6)++((List.map (irow .i64)) [a3])).length+((List.map (irow .i64)) a4).length) * 8<=140737488355328/\(((List.map (irow .i64)) l6)++((List.map (irow .i64)) [a3])).length+((List.map (irow .i64)) a4).length<=9223372036854775807 from by simp only[List.length_append,List.length_cons,List.length_nil,List.length_map,rlen (fun _=>rfl)]at hq ⊢; omega) ?_;show Tri ..
  refine zAs (Le.rnm [(2,0)] [(8,.orow 0)] [(0,.row 3 1 ((List.map (irow .i64)) ((l6++[a3])++a4)))] 1 ⟨rfl,trivial⟩ ⟨rfl,⟨_,rfl,congrArg (Ob.row 3 1) (by simp[List.map_append,List.map_take,List.map_drop,irow,brow,zAB,List.map_cons,List.map_nil,zAy,Nd.encs_eq,Nd.enc,zAi,zAh,zAv,zAo,zAj,zAl,zAd,zAg,zAp,zAf,zAe,zAx,zAt,zAm])⟩,trivial⟩) ?_;refine zAk ?_;have hy:=Option.some.inj h;subst hy;unfold zAA;exact⟨_,Le.refl _ _,0,rfl,rfl⟩
def zT4 (n:Nat) (xs:List AV) (r:Ret):Prop:=∃ (a0:zO8) (a1:List Int) (a2:Bool) (y0:List Int),zHQ n a0 a1 a2=some y0/\xs=[.agg ((zAl a0).map .s),.s (.sl 1 ((List.map (irow .i64)) a1)),.s (.bool a2)]/\r = .row 3 1 ((List.map (irow .i64)) y0)
def zPR:zAE:=zAF fun xs r=>∃ n,zT4 n xs r
theorem zTC:PSound Tryz.prog 82 zPR:=by
 have gok:∀ f s,look? f [(113,zKz),(114,zKy),(115,zKx)]=some s->PSound Tryz.prog f s:=zAC (by
  simp only[List.forall_mem_cons]
  exact⟨zOY,zOX,zOW,by simp⟩)
 refine zAG tokW Tryz.call82 Tryz.func82 rfl (fun xs r h=>by obtain⟨n,_,_,_,_,_,rfl,_⟩:=h; show 3<=55; decide) 55 rfl ?_;rintro xs r w0 G0 ⟨n,⟨op1A,op1E,op1F,op1S,op1R,op1W,op1X,op1C⟩,pos2,after3,y0,h,rfl,rfl⟩ _;rw[zHQ]at h;refine zXL [6] [] rfl ?_;show Tri ..;refine zAs (Le.rnm [] [(1,.s (.sl 1 ((List.map (irow .i64)) pos2))),(2,.s (.bool after3)),(3,.s (.pt [.int .i64 op1A,.sl 1 ((List.map (irow .i64)) op1E),.int .i64 op1F,.int .i64 op1S,.sl 4 (Nd.encs op1R),.int .i64 op1W,.str op1X,.str op1C]))] [] 0 ⟨rfl,rfl,rfl,trivial⟩ trivial) ?_;refine zAa ?_
 refine zAb [] [11] rfl ?_;intro n4 hn4;obtain rfl:(op1E.length:Int)=n4:=(hn4.trans (congrArg (fun m:Nat=>(m:Int)) (rlen (fun _=>rfl) op1E))).symm;show Tri ..;refine zAa ?_;refine zXL [] [] rfl ?_;obtain⟨y5,hy5,h⟩:=zAc h;refine⟨_,⟨_,_,_,_,hy5,rfl,rfl⟩,?_⟩
 show Tri ..;refine zAq rfl h (fun hb h=>?_) (fun hb h=>?_)
 ·refine zXL [17,19] [] rfl ?_;obtain⟨hq,h⟩:=zAJ h;refine And.intro (show(([]:List (List S)).length+((List.map (irow .i64)) pos2).length) * 8<=140737488355328/\([]:List (List S)).length+((List.map (irow .i64)) pos2).length<=9223372036854775807 from by simp only[List.length_append,List.length_cons,List.length_nil,List.length_map,rlen (fun _=>rfl)]at hq ⊢; omega) ?_;show Tri ..
  refine zAs (Le.rnm [(1,0)] [(6,.orow 0)] [(0,.row 3 1 ((List.map (irow .i64)) pos2))] 1 ⟨rfl,trivial⟩ ⟨rfl,⟨_,rfl,congrArg (Ob.row 3 1) (by simp[List.map_append,List.map_take,List.map_drop,irow,brow,zAB,List.map_cons,List.map_nil,zAy,Nd.encs_eq,Nd.enc,zAi,zAh,zAv,zAo,zAj,zAl,zAd,zAg,zAp,zAf,zAe,zAx,zAt,zAm])⟩,trivial⟩) ?_;refine zAk ?_;have hy:=Option.some.inj h;subst hy;unfold zAA;exact⟨_,Le.refl _ _,0,rfl,rfl⟩
 ·refine zAn ?_;show Tri ..;refine zXL [20,23] [] rfl ?_;obtain⟨hq,h⟩:=zAJ h;refine And.intro (show(([]:List (List S)).length+((List.map (irow .i64)) op1E).length) * 8<=140737488355328/\([]:List (List S)).length+((List.map (irow .i64)) op1E).length<=9223372036854775807 from by simp only[List.length_append,List.length_cons,List.length_nil,List.length_map,rlen (fun _=>rfl)]at hq ⊢; omega) ?_;show Tri ..
  refine zAs (Le.rnm [(1,0)] [(1,.s (.sl 1 ((List.map (irow .i64)) pos2))),(2,.s (.bool after3)),(3,.s (.pt [.int .i64 op1A,.sl 1 ((List.map (irow .i64)) op1E),.int .i64 op1F,.int .i64 op1S,.sl 4 (Nd.encs op1R),.int .i64 op1W,.str op1X,.str op1C])),(7,.s (.int .i64 (op1E.length:Int))),(8,.orow 0)] [(0,.row 3 1 ((List.map (irow .i64)) op1E))] 1 ⟨rfl,rfl,rfl,rfl,rfl,trivial⟩ ⟨rfl,⟨_,rfl,congrArg (Ob.row 3 1) (by simp[List.map_append,List.map_take,List.map_drop,irow,brow,zAB,List.map_cons,List.map_nil,zAy,Nd.encs_eq,Nd.enc,zAi,zAh,zAv,zAo,zAj,zAl,zAd,zAg,zAp,zAf,zAe,zAx,zAt,zAm])⟩,trivial⟩) ?_
  refine zAa ?_;refine zXL [] [25] rfl ?_;intro n6 hn6;obtain rfl:(pos2.length:Int)=n6:=(hn6.trans (congrArg (fun m:Nat=>(m:Int)) (rlen (fun _=>rfl) pos2))).symm;show Tri ..;refine zAq rfl h (fun hb h=>?_) (fun hb h=>?_)
  ·refine zAa ?_;refine zAO [37] [33] [8] rfl (by decide +kernel) ?_;obtain⟨e7,he7,h⟩:=zAc h;refine And.intro (zAD (fun _=>rfl) he7).1 ?_;intro r8 hr8;obtain rfl:[.int .i64 e7]=r8:=(hr8.trans (zAD (fun _=>rfl) he7).2.1).symm;obtain⟨y9,hy9,h⟩:=zAc h;refine⟨_,⟨_,_,_,_,hy9,rfl,rfl⟩,?_⟩
   obtain⟨hq,h⟩:=zAJ h;refine And.intro (show(((List.map (irow .i64)) op1E).length+((List.map (irow .i64)) y9).length) * 8<=140737488355328/\((List.map (irow .i64)) op1E).length+((List.map (irow .i64)) y9).length<=9223372036854775807 from by simp only[List.length_append,List.length_cons,List.length_nil,List.length_map,rlen (fun _=>rfl)]at hq ⊢; omega) ?_;show Tri ..
   refine zAs (Le.rnm [(1,0)] [(6,.orow 0)] [(0,.row 3 1 ((List.map (irow .i64)) (op1E++y9)))] 1 ⟨rfl,trivial⟩ ⟨rfl,⟨_,rfl,congrArg (Ob.row 3 1) (by simp[List.map_append,List.map_take,List.map_drop,irow,brow,zAB,List.map_cons,List.map_nil,zAy,Nd.encs_eq,Nd.enc,zAi,zAh,zAv,zAo,zAj,zAl,zAd,zAg,zAp,zAf,zAe,zAx,zAt,zAm])⟩,trivial⟩) ?_;refine zAk ?_;have hy:=Option.some.inj h;subst hy;unfold zAA;exact⟨_,Le.refl _ _,0,rfl,rfl⟩
  ·refine zAn ?_;show Tri ..;refine zAa ?_;refine zAO [54] [42,47,52] [16] rfl (by decide +kernel) ?_;obtain⟨e10,he10,h⟩:=zAc h;refine And.intro (zAD (fun _=>rfl) he10).1 ?_;intro r11 hr11;obtain rfl:[.int .i64 e10]=r11:=(hr11.trans (zAD (fun _=>rfl) he10).2.1).symm;obtain⟨e12,he12,h⟩:=zAc h;refine And.intro (zAD (fun _=>rfl) he12).1 ?_;intro r13 hr13;obtain rfl:[.int .i64 e12]=r13:=(hr13.trans (zAD (fun _=>rfl) he12).2.1).symm;obtain⟨hq,h⟩:=zAJ h;refine And.intro ⟨hq.1,Int.le_trans hq.2.1 (Int.ofNat_le.2 (Nat.le_of_eq (rlen (fun _=>rfl) _).symm)),Int.le_refl _⟩ ?_;intro r14 hr14
   obtain rfl:(List.map (irow .i64)) ((pos2.take (pos2.length:Int).toNat).drop (IntKind.i64.wrap ((op1E.length:Int)+2)).toNat)=r14:=(hr14.trans ((congrArg (fun m:Nat=>(((List.map (irow .i64)) pos2).take m).drop (IntKind.i64.wrap ((op1E.length:Int)+2)).toNat) (rlen (fun _=>rfl) _)).trans (rcut (fun _=>rfl) _ _ _))).symm;obtain⟨y15,hy15,h⟩:=zAc h;refine⟨_,⟨_,_,_,_,_,hy15,rfl,rfl⟩,?_⟩
   obtain⟨hq,h⟩:=zAJ h;refine And.intro (show(((List.map (irow .i64)) op1E).length+((List.map (irow .i64)) y15).length) * 8<=140737488355328/\((List.map (irow .i64)) op1E).length+((List.map (irow .i64)) y15).length<=9223372036854775807 from by simp only[List.length_append,List.length_cons,List.length_nil,List.length_map,rlen (fun _=>rfl)]at hq ⊢; omega) ?_;show Tri ..
   refine zAs (Le.rnm [(1,0)] [(6,.orow 0)] [(0,.row 3 1 ((List.map (irow .i64)) (op1E++y15)))] 1 ⟨rfl,trivial⟩ ⟨rfl,⟨_,rfl,congrArg (Ob.row 3 1) (by simp[List.map_append,List.map_take,List.map_drop,irow,brow,zAB,List.map_cons,List.map_nil,zAy,Nd.encs_eq,Nd.enc,zAi,zAh,zAv,zAo,zAj,zAl,zAd,zAg,zAp,zAf,zAe,zAx,zAt,zAm])⟩,trivial⟩) ?_;refine zAk ?_;have hy:=Option.some.inj h;subst hy;unfold zAA;exact⟨_,Le.refl _ _,0,rfl,rfl⟩
def zPJ (n:Nat) (xs:List AV) (r:Ret):Prop:=∃ (a0:Nd) (a1:zCu) (y0:zRc) (y1:Int),zDu n a0 a1=some (y0,y1)/\xs=[.agg ((Nd.enc a0).map .s),.agg ((zAp a1).map .s)]/\r = .val (.tup [.agg ((zAd y0).map .s),.s (.int .i64 y1)])
def zKB:zAE:=zAF fun xs r=>∃ n,zPJ n xs r
theorem zO0:PSound Tryz.prog 54 zKB:=by
 have gok:∀ f s,look? f [(71,zDg),(78,zEZ),(79,zHC),(82,zPR),(73,zEc)]=some s->PSound Tryz.prog f s:=zAC (by
  simp only[List.forall_mem_cons]
  exact⟨zDw,zFu,zJK,zTC,zD7,by simp⟩)
 refine zAG tokW Tryz.call54 Tryz.func54 rfl (fun xs r h=>by obtain⟨n,_,_,_,_,_,rfl,_⟩:=h; show 2<=44; decide) 44 rfl ?_;rintro xs r w0 G0 ⟨n,⟨n1A,n1C,n1D,n1B⟩,⟨c2Q,c2V⟩,y0,y1,h,rfl,rfl⟩ _;rw[zDu]at h;refine zXL [4] [] rfl ?_;show Tri ..;refine zXL [6] [] rfl ?_;obtain⟨⟨⟨y3E,y3Ab,y3Ah⟩,y4⟩,hy3,h⟩:=zAc h;refine⟨_,⟨_,_,_,_,_,hy3,rfl,rfl⟩,?_⟩
 show Tri ..;refine zAs (Le.giveBox 1 [.sl 1 ((List.map (irow .i64)) y3E),.int .i64 y3Ab,.int .i64 y3Ah] rfl rfl) ?_;refine zAa ?_;refine zXL [] [] rfl ?_;show Tri ..;refine zAq rfl h (fun hb h=>?_) (fun hb h=>?_)
 ·refine zXL [] [] rfl ?_;show Tri ..;refine zAk ?_;obtain⟨hj1,hk1⟩:=pij h;subst hj1 hk1;unfold zAA;exact⟨_,Le.refl _ _,rfl,rfl⟩
 ·refine zAn ?_;show Tri ..;refine zXL [8] [] rfl ?_;obtain⟨⟨⟨y5E,y5F,y5Ak,⟨y5Ao,y5Ar,y5Ag,y5Al⟩⟩,y6⟩,hy5,h⟩:=zAc h;refine⟨_,⟨_,_,_,_,_,hy5,rfl,rfl⟩,?_⟩
  show Tri ..;refine zAs (Le.giveBox 2 [.sl 1 ((List.map (irow .i64)) y5E),.int .i64 y5F,.int .i64 y5Ak,.int .i64 y5Ao,.str y5Ar,.int .i64 y5Ag,.sl 4 (Nd.encs y5Al)] rfl rfl) ?_;refine zAa ?_;refine zXL [] [] rfl ?_;show Tri ..;refine zAq rfl h (fun hb h=>?_) (fun hb h=>?_)
  ·refine zXL [] [] rfl ?_;show Tri ..;refine zAk ?_;obtain⟨hj1,hk1⟩:=pij h;subst hj1 hk1;unfold zAA;exact⟨_,Le.refl _ _,rfl,rfl⟩
  ·refine zAn ?_;show Tri ..;refine zXL [10] [] rfl ?_;obtain⟨⟨y7A,y7E,y7F,y7S,y7R,y7W,y7X,y7C⟩,hy7,h⟩:=zAc h;refine⟨_,⟨_,_,hy7,rfl,rfl⟩,?_⟩
   show Tri ..;refine zAs (Le.giveBox 3 [.int .i64 y7A,.sl 1 ((List.map (irow .i64)) y7E),.int .i64 y7F,.int .i64 y7S,.sl 4 (Nd.encs y7R),.int .i64 y7W,.str y7X,.str y7C] rfl rfl) ?_;refine zAa ?_;refine zAO [] [36] [11] rfl (by decide +kernel) ?_;intro r8 hr8
   obtain rfl:(List.map zAl) [(y7A,y7E,y7F,y7S,y7R,y7W,y7X,y7C)]=r8:=(hr8.trans (by simp[List.map_append,List.map_take,List.map_drop,irow,brow,zAB,List.map_cons,List.map_nil,zAy,Nd.encs_eq,Nd.enc,zAi,zAh,zAv,zAo,zAj,zAl,zAd,zAg,zAp,zAf,zAe,zAx,zAt,zAm])).symm;obtain⟨y9,hy9,h⟩:=zAc h;refine⟨_,⟨_,_,_,_,_,hy9,rfl,rfl⟩,?_⟩
   obtain⟨⟨⟨y10Aa,⟨y10Ac,y10Ad⟩,⟨y10Ae,y10Af⟩⟩,y11⟩,hy10,h⟩:=zAc h;refine⟨_,⟨_,_,_,_,_,_,_,hy10,rfl,rfl⟩,?_⟩
   show Tri ..;refine zAk ?_;obtain⟨hj1,hk1⟩:=pij h;subst hj1 hk1;unfold zAA;exact⟨_,Le.refl _ _,rfl,rfl⟩
def zRq (n:Nat) (xs:List AV) (r:Ret):Prop:=∃ (a0:Nd) (a1:zCu) (y0:zRc) (y1:Int),zD4 n a0 a1=some (y0,y1)/\xs=[.agg ((Nd.enc a0).map .s),.agg ((zAp a1).map .s)]/\r = .val (.tup [.agg ((zAd y0).map .s),.s (.int .i64 y1)])
def zLH:zAE:=zAF fun xs r=>∃ n,zRq n xs r
theorem zQJ:PSound Tryz.prog 55 zLH:=by
 have gok:∀ f s,look? f [(71,zDg),(78,zEZ),(74,zIb),(83,zIX),(48,zCO),(84,zDW),(72,zJt),(73,zEc)]=some s->PSound Tryz.prog f s:=zAC (by
  simp only[List.forall_mem_cons]
  exact⟨zDw,zFu,zHZ,zKP,zCN,zEz,zKb,zD7,by simp⟩)
 refine zAG tokW Tryz.call55 Tryz.func55 rfl (fun xs r h=>by obtain⟨n,_,_,_,_,_,rfl,_⟩:=h; show 2<=124; decide) 124 rfl ?_;rintro xs r w0 G0 ⟨n,⟨a1A,a1C,a1D,a1B⟩,⟨a2Q,a2V⟩,y0,y1,h,rfl,rfl⟩ _;rw[zD4]at h;refine zXL [4] [] rfl ?_;show Tri ..;refine zXL [6] [] rfl ?_;obtain⟨⟨⟨y3E,y3Ab,y3Ah⟩,y4⟩,hy3,h⟩:=zAc h;refine⟨_,⟨_,_,_,_,_,hy3,rfl,rfl⟩,?_⟩
 show Tri ..;refine zAs (Le.giveBox 1 [.sl 1 ((List.map (irow .i64)) y3E),.int .i64 y3Ab,.int .i64 y3Ah] rfl rfl) ?_;refine zAa ?_;refine zXL [] [] rfl ?_;show Tri ..;refine zAq rfl h (fun hb h=>?_) (fun hb h=>?_)
 ·refine zXL [] [] rfl ?_;show Tri ..;refine zAk ?_;obtain⟨hj1,hk1⟩:=pij h;subst hj1 hk1;unfold zAA;exact⟨_,Le.refl _ _,rfl,rfl⟩
 ·refine zAn ?_;show Tri ..;refine zXL [8] [] rfl ?_;obtain⟨⟨⟨y5E,y5F,y5Ak,⟨y5Ao,y5Ar,y5Ag,y5Al⟩⟩,y6⟩,hy5,h⟩:=zAc h;refine⟨_,⟨_,_,_,_,_,hy5,rfl,rfl⟩,?_⟩
  show Tri ..;refine zAs (Le.giveBox 2 [.sl 1 ((List.map (irow .i64)) y5E),.int .i64 y5F,.int .i64 y5Ak,.int .i64 y5Ao,.str y5Ar,.int .i64 y5Ag,.sl 4 (Nd.encs y5Al)] rfl rfl) ?_;refine zAa ?_;refine zAw ?_;refine zXL [] [] rfl ?_;show Tri ..;refine zAq rfl h (fun hb h=>?_) (fun hb h=>?_)
  ·refine zXL [] [] rfl ?_;show Tri ..;refine zAk ?_;obtain⟨hj1,hk1⟩:=pij h;subst hj1 hk1;unfold zAA;exact⟨_,Le.refl _ _,rfl,rfl⟩
  ·refine zAa ?_;obtain⟨x7,hj,h⟩:=zAc h;refine zAz ⟨ofL [(2,.s (.pt [.int .i64 a1A,.str a1C,.int .i64 a1D,.sl 4 (Nd.encs a1B)])),(3,.s (.pt [.sl 1 ((List.map (irow .i64)) a2Q),.sl 1 ((List.map (irow .i64)) a2V)])),(4,.op 0 0),(8,.s (.pt [.sl 1 ((List.map (irow .i64)) y5E),.int .i64 y5F,.int .i64 y5Ak,.int .i64 y5Ao,.str y5Ar,.int .i64 y5Ag,.sl 4 (Nd.encs y5Al)])),(37,.s (.bool x7))],ofH [(0,.box 31 [.nl 8,.nl 1,.nl 1,.nl 1,.nl 1])],1⟩ ?_ (fun σ' hle=>?_)
   ·replace h:=hj;refine zAb [] [43,48] rfl ?_;intro b hb;cases b with
    | true =>
     replace h:=zAI hb.symm h;cases h;exact(Le.rnm [(0,0)] _ _ _ ⟨rfl,rfl,rfl,rfl,rfl,trivial⟩ ⟨rfl,⟨_,rfl,rfl⟩,trivial⟩)
    | false =>
     replace h:=zAH hb.symm h;intro b hb;cases b with
     | true =>
      replace h:=zAI hb.symm h;cases h;exact(Le.rnm [(0,0)] _ _ _ ⟨rfl,rfl,rfl,rfl,rfl,trivial⟩ ⟨rfl,⟨_,rfl,rfl⟩,trivial⟩)
     | false =>
      replace h:=zAH hb.symm h;cases h;exact(Le.rnm [(0,0)] _ _ _ ⟨rfl,rfl,rfl,rfl,rfl,trivial⟩ ⟨rfl,⟨_,rfl,rfl⟩,trivial⟩)
   ·show Tri ..;refine zAs hle ?_;refine zAq rfl h (fun hb h=>?_) (fun hb h=>?_)
    ·refine zXL [] [] rfl ?_;show Tri ..;refine zAk ?_;obtain⟨hj1,hk1⟩:=pij h;subst hj1 hk1;unfold zAA;exact⟨_,Le.refl _ _,rfl,rfl⟩
    ·refine zAn ?_;show Tri ..;refine zXL [] [60,62] rfl ?_;intro n8 hn8;obtain rfl:(a2Q.length:Int)=n8:=(hn8.trans (congrArg (fun m:Nat=>(m:Int)) (rlen (fun _=>rfl) a2Q))).symm;obtain⟨e9,he9,h⟩:=zAc h;refine And.intro (zAD (fun _=>rfl) he9).1 ?_;intro r10 hr10;obtain rfl:[.int .i64 e9]=r10:=(hr10.trans (zAD (fun _=>rfl) he9).2.1).symm;show Tri ..;refine zAa ?_;refine zC1 [11] [70,78,81] [19,20] [] rfl (by decide +kernel) ?_;intro r11 hr11
     obtain rfl:(List.map (irow .i64)) [y5F,y5Ak]=r11:=(hr11.trans (by simp[List.map_append,List.map_take,List.map_drop,irow,brow,zAB,List.map_cons,List.map_nil,zAy,Nd.encs_eq,Nd.enc,zAi,zAh,zAv,zAo,zAj,zAl,zAd,zAg,zAp,zAf,zAe,zAx,zAt,zAm])).symm;obtain⟨y12,hy12,h⟩:=zAc h;refine⟨_,⟨_,_,_,hy12,rfl,rfl⟩,?_⟩
     obtain⟨⟨e13A,e13C,e13D,e13B⟩,he13,h⟩:=zAc h;refine And.intro (zAD Nd.encs_eq he13).1 ?_;intro r14 hr14;obtain rfl:[.int .i64 e13A,.str e13C,.int .i64 e13D,.sl 4 (Nd.encs e13B)]=r14:=(hr14.trans (zAD Nd.encs_eq he13).2.1).symm;intro n15 hn15;obtain rfl:(e13B.length:Int)=n15:=(hn15.trans (congrArg (fun m:Nat=>(m:Int)) (rlen Nd.encs_eq e13B))).symm;show Tri ..;refine zAs (Le.giveBox 1 [.sl 1 ((List.map (irow .i64)) y12),.int .i64 e9,.int .i64 (e13B.length:Int)] rfl rfl) ?_;refine zXL [] [] rfl ?_;obtain⟨⟨y16,y17⟩,hy16,h⟩:=zAc h
     refine⟨_,⟨_,_,_,_,_,hy16,rfl,rfl⟩,?_⟩
     show Tri ..;refine zAa ?_;refine zC1 [14] [] [7,8] [] rfl (by decide +kernel) ?_;obtain⟨⟨y18A,y18C,y18D,y18B⟩,hy18,h⟩:=zAc h;refine⟨_,⟨_,_,hy18,rfl,rfl⟩,?_⟩
     obtain⟨⟨y19A,y19C,y19D,y19B⟩,hy19,h⟩:=zAc h;refine⟨_,⟨_,_,_,_,hy19,rfl,rfl⟩,?_⟩
     show Tri ..;refine zAs (Le.giveBox 2 [.int .i64 y19A,.str y19C,.int .i64 y19D,.sl 4 (Nd.encs y19B)] rfl rfl) ?_;refine zAa ?_;refine zAO [98,108] [105,107] [2,12] rfl (by decide +kernel) ?_;obtain⟨y20,hy20,h⟩:=zAc h;refine⟨_,⟨_,_,_,_,hy20,rfl,rfl⟩,?_⟩
     intro r21 hr21;obtain rfl:Nd.encs [Nd.mk y19A y19C y19D y19B]=r21:=(hr21.trans (by simp[List.map_append,List.map_take,List.map_drop,irow,brow,zAB,List.map_cons,List.map_nil,zAy,Nd.encs_eq,Nd.enc,zAi,zAh,zAv,zAo,zAj,zAl,zAd,zAg,zAp,zAf,zAe,zAx,zAt,zAm])).symm;intro r22 hr22
     obtain rfl:(List.map zAl) [(1,y5E,IntKind.i64.wrap (y5F+1),0,[Nd.mk y19A y19C y19D y19B],0,[],[])]=r22:=(hr22.trans (by simp[List.map_append,List.map_take,List.map_drop,irow,brow,zAB,List.map_cons,List.map_nil,zAy,Nd.encs_eq,Nd.enc,zAi,zAh,zAv,zAo,zAj,zAl,zAd,zAg,zAp,zAf,zAe,zAx,zAt,zAm])).symm;obtain⟨hq,h⟩:=zAJ h
     refine And.intro (show(((List.map zAl) y20).length+((List.map zAl) [(1,y5E,IntKind.i64.wrap (y5F+1),0,[Nd.mk y19A y19C y19D y19B],0,[],[])]).length) * 112<=140737488355328/\((List.map zAl) y20).length+((List.map zAl) [(1,y5E,IntKind.i64.wrap (y5F+1),0,[Nd.mk y19A y19C y19D y19B],0,[],[])]).length<=9223372036854775807 from by simp only[List.length_append,List.length_cons,List.length_nil,List.length_map,rlen (fun _=>rfl)]at hq ⊢; omega) ?_;show Tri ..
     refine zAs (Le.rnm [(0,0),(4,1)] [(2,.s (.pt [.int .i64 a1A,.str a1C,.int .i64 a1D,.sl 4 (Nd.encs a1B)])),(3,.s (.pt [.sl 1 ((List.map (irow .i64)) a2Q),.sl 1 ((List.map (irow .i64)) a2V)])),(4,.op 0 0),(8,.s (.pt [.sl 1 ((List.map (irow .i64)) y5E),.int .i64 y5F,.int .i64 y5Ak,.int .i64 y5Ao,.str y5Ar,.int .i64 y5Ag,.sl 4 (Nd.encs y5Al)])),(15,.orow 1)] [(0,.box 31 [.nl 8,.nl 1,.nl 1,.nl 1,.nl 1]),(1,.row 65 8 ((List.map zAl) (y20++[(1,y5E,IntKind.i64.wrap (y5F+1),0,[Nd.mk y19A y19C y19D y19B],0,[],[])])))] 2 ⟨rfl,rfl,rfl,rfl,rfl,trivial⟩ ⟨rfl,⟨_,rfl,rfl⟩,rfl,⟨_,rfl,congrArg (Ob.row 65 8) (by simp[List.map_append,List.map_take,List.map_drop,irow,brow,zAB,List.map_cons,List.map_nil,zAy,Nd.encs_eq,Nd.enc,zAi,zAh,zAv,zAo,zAj,zAl,zAd,zAg,zAp,zAf,zAe,zAx,zAt,zAm])⟩,trivial⟩) ?_
     refine zAa ?_;refine zAO [] [119] [12,15] rfl (by decide +kernel) ?_;intro r23 hr23;obtain rfl:(List.map (irow .i64)) [IntKind.i64.wrap (y5F+1),y5Ak,0]=r23:=(hr23.trans (by simp[List.map_append,List.map_take,List.map_drop,irow,brow,zAB,List.map_cons,List.map_nil,zAy,Nd.encs_eq,Nd.enc,zAi,zAh,zAv,zAo,zAj,zAl,zAd,zAg,zAp,zAf,zAe,zAx,zAt,zAm])).symm;obtain⟨y24,hy24,h⟩:=zAc h;refine⟨_,⟨_,_,_,hy24,rfl,rfl⟩,?_⟩
     obtain⟨⟨⟨y25Aa,⟨y25Ac,y25Ad⟩,⟨y25Ae,y25Af⟩⟩,y26⟩,hy25,h⟩:=zAc h;refine⟨_,⟨_,_,_,_,_,_,_,hy25,rfl,rfl⟩,?_⟩
     show Tri ..;refine zAk ?_;obtain⟨hj1,hk1⟩:=pij h;subst hj1 hk1;unfold zAA;exact⟨_,Le.refl _ _,rfl,rfl⟩
def zT7 (n:Nat) (xs:List AV) (r:Ret):Prop:=∃ (a0:Nd) (a1:zCu) (a2:List UInt8) (y0:zRc) (y1:Int),zGS n a0 a1 a2=some (y0,y1)/\xs=[.agg ((Nd.enc a0).map .s),.agg ((zAp a1).map .s),.s (.str a2)]/\r = .val (.tup [.agg ((zAd y0).map .s),.s (.int .i64 y1)])
def zPU:zAE:=zAF fun xs r=>∃ n,zT7 n xs r
theorem zTF:PSound Tryz.prog 56 zPU:=by
 have gok:∀ f s,look? f [(71,zDg),(85,zJ1),(86,zIY),(73,zEc)]=some s->PSound Tryz.prog f s:=zAC (by
  simp only[List.forall_mem_cons]
  exact⟨zDw,zMd,zKQ,zD7,by simp⟩)
 refine zAG tokW Tryz.call56 Tryz.func56 rfl (fun xs r h=>by obtain⟨n,_,_,_,_,_,_,rfl,_⟩:=h; show 3<=86; decide) 86 rfl ?_;rintro xs r w0 G0 ⟨n,⟨a1A,a1C,a1D,a1B⟩,⟨a2Q,a2V⟩,a3,y0,y1,h,rfl,rfl⟩ _;rw[zGS]at h;refine zXL [6] [] rfl ?_;show Tri ..;refine zXL [8] [] rfl ?_;obtain⟨⟨⟨y4E,y4Ab,y4Ah⟩,y5⟩,hy4,h⟩:=zAc h;refine⟨_,⟨_,_,_,_,_,hy4,rfl,rfl⟩,?_⟩
 show Tri ..;refine zAs (Le.giveBox 1 [.sl 1 ((List.map (irow .i64)) y4E),.int .i64 y4Ab,.int .i64 y4Ah] rfl rfl) ?_;refine zAa ?_;refine zXL [] [] rfl ?_;show Tri ..;refine zAq rfl h (fun hb h=>?_) (fun hb h=>?_)
 ·refine zXL [] [] rfl ?_;show Tri ..;refine zAk ?_;obtain⟨hj1,hk1⟩:=pij h;subst hj1 hk1;unfold zAA;exact⟨_,Le.refl _ _,rfl,rfl⟩
 ·refine zAn ?_;show Tri ..;refine zAa ?_;refine zAO [] [30,32,37,39] [] rfl (by decide +kernel) ?_;intro n6 hn6;obtain rfl:(a2Q.length:Int)=n6:=(hn6.trans (congrArg (fun m:Nat=>(m:Int)) (rlen (fun _=>rfl) a2Q))).symm;obtain⟨hq,h⟩:=zAJ h;refine And.intro ⟨hq.1,hq.2.1,Int.le_trans hq.2.2 (Int.ofNat_le.2 (Nat.le_of_eq (rlen (fun _=>rfl) _).symm))⟩ ?_;intro r7 hr7;obtain rfl:(List.map (irow .i64)) ((a2Q.take (IntKind.i64.wrap ((a2Q.length:Int) - 1)).toNat).drop (0:Int).toNat)=r7:=(hr7.trans (rcut (fun _=>rfl) _ _ _)).symm;intro n8 hn8
  obtain rfl:(a2Q.length:Int)=n8:=(hn8.trans (congrArg (fun m:Nat=>(m:Int)) (rlen (fun _=>rfl) a2Q))).symm;obtain⟨e9,he9,h⟩:=zAc h;refine And.intro (zAD (fun _=>rfl) he9).1 ?_;intro r10 hr10;obtain rfl:[.int .i64 e9]=r10:=(hr10.trans (zAD (fun _=>rfl) he9).2.1).symm;show Tri ..;refine zAa ?_;refine zXL [] [] rfl ?_;show Tri ..;refine zAq rfl h (fun hb h=>?_) (fun hb h=>?_)
  ·refine zXL [] [] rfl ?_;show Tri ..;refine zAk ?_;obtain⟨hj1,hk1⟩:=pij h;subst hj1 hk1;unfold zAA;exact⟨_,Le.refl _ _,rfl,rfl⟩
  ·refine zAn ?_;show Tri ..;refine zXL [12] [] rfl ?_;obtain⟨⟨⟨y11A,y11C,y11D,y11B⟩,y12⟩,hy11,h⟩:=zAc h;refine⟨_,⟨_,_,_,_,_,_,hy11,rfl,rfl⟩,?_⟩
   show Tri ..;refine zAs (Le.giveBox 2 [.int .i64 y11A,.str y11C,.int .i64 y11D,.sl 4 (Nd.encs y11B)] rfl rfl) ?_;refine zXL [14] [] rfl ?_;show Tri ..;refine zAs (Le.giveBox 3 [.int .i64 5,.sl 1 ((List.map (irow .i64)) ((a2Q.take (IntKind.i64.wrap ((a2Q.length:Int) - 1)).toNat).drop (0:Int).toNat)),.int .i64 (IntKind.i64.wrap (e9 - 1)),.int .i64 0,.sl 4 (Nd.encs []),.int .i64 0,.str y11C,.str a3] rfl rfl) ?_;refine zXL [] [] rfl ?_;obtain⟨⟨⟨y13A,y13C,y13D,y13B⟩,y14⟩,hy13,h⟩:=zAc h;refine⟨_,⟨_,_,_,_,_,hy13,rfl,rfl⟩,?_⟩
   show Tri ..;refine zAa ?_;refine zAa ?_;obtain⟨x15,hj,h⟩:=zAc h;refine zAz ⟨ofL [(3,.s (.pt [.int .i64 a1A,.str a1C,.int .i64 a1D,.sl 4 (Nd.encs a1B)])),(4,.s (.pt [.sl 1 ((List.map (irow .i64)) a2Q),.sl 1 ((List.map (irow .i64)) a2V)])),(6,.op 0 0),(14,.s (.pt [.int .i64 5,.sl 1 ((List.map (irow .i64)) ((a2Q.take (IntKind.i64.wrap ((a2Q.length:Int) - 1)).toNat).drop (0:Int).toNat)),.int .i64 (IntKind.i64.wrap (e9 - 1)),.int .i64 0,.sl 4 (Nd.encs []),.int .i64 0,.str y11C,.str a3])),(70,.s (.bool x15))],ofH [(0,.box 31 [.nl 8,.nl 1,.nl 1,.nl 1,.nl 1])],1⟩ ?_ (fun σ' hle=>?_)
   ·replace h:=hj;refine zAb [] [67] rfl ?_;intro b hb;cases b with
    | true =>
     replace h:=zAI hb.symm h;cases h;exact(Le.rnm [(0,0)] _ _ _ ⟨rfl,rfl,rfl,rfl,rfl,trivial⟩ ⟨rfl,⟨_,rfl,rfl⟩,trivial⟩)
    | false =>
     replace h:=zAH hb.symm h;cases h;exact(Le.rnm [(0,0)] _ _ _ ⟨rfl,rfl,rfl,rfl,rfl,trivial⟩ ⟨rfl,⟨_,rfl,rfl⟩,trivial⟩)
   ·show Tri ..;refine zAs hle ?_;refine zAq rfl h (fun hb h=>?_) (fun hb h=>?_)
    ·refine zXL [] [] rfl ?_;show Tri ..;refine zAk ?_;obtain⟨hj1,hk1⟩:=pij h;subst hj1 hk1;unfold zAA;exact⟨_,Le.refl _ _,rfl,rfl⟩
    ·refine zAn ?_;show Tri ..;refine zXL [15] [76] rfl ?_;intro r16 hr16
     obtain rfl:(List.map zAl) [(5,(a2Q.take (IntKind.i64.wrap ((a2Q.length:Int) - 1)).toNat).drop (0:Int).toNat,IntKind.i64.wrap (e9 - 1),0,[],0,y11C,a3)]=r16:=(hr16.trans (by simp[List.map_append,List.map_take,List.map_drop,irow,brow,zAB,List.map_cons,List.map_nil,zAy,Nd.encs_eq,Nd.enc,zAi,zAh,zAv,zAo,zAj,zAl,zAd,zAg,zAp,zAf,zAe,zAx,zAt,zAm])).symm
     obtain⟨⟨⟨y17Aa,⟨y17Ac,y17Ad⟩,⟨y17Ae,y17Af⟩⟩,y18⟩,hy17,h⟩:=zAc h;refine⟨_,⟨_,_,_,_,_,_,_,hy17,rfl,rfl⟩,?_⟩
     show Tri ..;refine zAa ?_;refine zXL [] [] rfl ?_;show Tri ..;obtain⟨⟨x19,x20⟩,hj,h⟩:=zAc h;refine zAz ⟨ofL [(6,.op 0 0),(9,.s (.int .i64 y18)),(15,.op 1 0)],ofH [(0,.box 31 [.nl 8,.nl 1,.nl 1,.nl 1,.nl 1]),(1,.box 31 [.s (.sl 8 ((List.map zAl) y17Aa)),.s (.sl 1 ((List.map (irow .i64)) y17Ac)),.s (.sl 1 ((List.map (irow .i64)) y17Ad)),.s (.sl 1 ((List.map (irow .i64)) x19)),.s (.sl 1 ((List.map (irow .i64)) x20))])],2⟩ ?_ (fun σ' hle=>?_)
     ·replace h:=hj;refine zAq rfl h (fun hb h=>?_) (fun hb h=>?_)
      ·refine zAb [] [] rfl ?_;cases h;exact(Le.rnm [(0,0),(1,1)] _ _ _ ⟨rfl,rfl,rfl,trivial⟩ ⟨rfl,⟨_,rfl,rfl⟩,rfl,⟨_,rfl,rfl⟩,trivial⟩)
      ·refine zAn ?_;cases h;exact(Le.rnm [(0,0),(1,1)] _ _ _ ⟨rfl,rfl,rfl,trivial⟩ ⟨rfl,⟨_,rfl,rfl⟩,rfl,⟨_,rfl,rfl⟩,trivial⟩)
     ·show Tri ..;refine zAs hle ?_;refine zXL [] [] rfl ?_;show Tri ..;refine zAk ?_;obtain⟨hj1,hk1⟩:=pij h;subst hj1 hk1;unfold zAA;exact⟨_,Le.refl _ _,rfl,rfl⟩
def zS8 (n:Nat) (xs:List AV) (r:Ret):Prop:=∃ (a0:Nd) (a1:zCu) (a2:Bool) (y0:zRc) (y1:Int),zEQ n a0 a1 a2=some (y0,y1)/\xs=[.agg ((Nd.enc a0).map .s),.agg ((zAp a1).map .s),.s (.bool a2)]/\r = .val (.tup [.agg ((zAd y0).map .s),.s (.int .i64 y1)])
def zNn:zAE:=zAF fun xs r=>∃ n,zS8 n xs r
theorem zRW:PSound Tryz.prog 57 zNn:=by
 have gok:∀ f s,look? f [(71,zDg),(78,zEZ),(48,zCO),(74,zIb),(73,zEc)]=some s->PSound Tryz.prog f s:=zAC (by
  simp only[List.forall_mem_cons]
  exact⟨zDw,zFu,zCN,zHZ,zD7,by simp⟩)
 refine zAG tokW Tryz.call57 Tryz.func57 rfl (fun xs r h=>by obtain⟨n,_,_,_,_,_,_,rfl,_⟩:=h; show 3<=163; decide) 163 rfl ?_;rintro xs r w0 G0 ⟨n,⟨a1A,a1C,a1D,a1B⟩,⟨a2Q,a2V⟩,a3,y0,y1,h,rfl,rfl⟩ _;rw[zEQ]at h;refine zXL [6] [] rfl ?_;show Tri ..;refine zXL [8] [] rfl ?_;obtain⟨⟨⟨y4E,y4Ab,y4Ah⟩,y5⟩,hy4,h⟩:=zAc h;refine⟨_,⟨_,_,_,_,_,hy4,rfl,rfl⟩,?_⟩
 show Tri ..;refine zAs (Le.giveBox 1 [.sl 1 ((List.map (irow .i64)) y4E),.int .i64 y4Ab,.int .i64 y4Ah] rfl rfl) ?_;refine zAa ?_;refine zXL [] [] rfl ?_;show Tri ..;refine zAq rfl h (fun hb h=>?_) (fun hb h=>?_)
 ·refine zXL [] [] rfl ?_;show Tri ..;refine zAk ?_;obtain⟨hj1,hk1⟩:=pij h;subst hj1 hk1;unfold zAA;exact⟨_,Le.refl _ _,rfl,rfl⟩
 ·refine zAn ?_;show Tri ..;refine zXL [10] [] rfl ?_;obtain⟨⟨⟨y6E,y6F,y6Ak,⟨y6Ao,y6Ar,y6Ag,y6Al⟩⟩,y7⟩,hy6,h⟩:=zAc h;refine⟨_,⟨_,_,_,_,_,hy6,rfl,rfl⟩,?_⟩
  show Tri ..;refine zAs (Le.giveBox 2 [.sl 1 ((List.map (irow .i64)) y6E),.int .i64 y6F,.int .i64 y6Ak,.int .i64 y6Ao,.str y6Ar,.int .i64 y6Ag,.sl 4 (Nd.encs y6Al)] rfl rfl) ?_;refine zAa ?_;refine zAw ?_;refine zXL [] [] rfl ?_;show Tri ..;refine zAq rfl h (fun hb h=>?_) (fun hb h=>?_)
  ·refine zXL [] [] rfl ?_;show Tri ..;refine zAk ?_;obtain⟨hj1,hk1⟩:=pij h;subst hj1 hk1;unfold zAA;exact⟨_,Le.refl _ _,rfl,rfl⟩
  ·refine zXL [] [] rfl ?_;show Tri ..;refine zAq rfl h (fun hb h=>?_) (fun hb h=>?_)
   ·refine zXL [] [] rfl ?_;show Tri ..;refine zAk ?_;obtain⟨hj1,hk1⟩:=pij h;subst hj1 hk1;unfold zAA;exact⟨_,Le.refl _ _,rfl,rfl⟩
   ·refine zAn ?_;show Tri ..;refine zXL [] [] rfl ?_;show Tri ..;refine zXL [13] [] rfl ?_;show Tri ..;refine zAa ?_;refine zXL [] [] rfl ?_;show Tri ..;obtain⟨x8,hj,h⟩:=zAc h
    refine zAz ⟨ofL [(2,.s (.bool a3)),(3,.s (.pt [.int .i64 a1A,.str a1C,.int .i64 a1D,.sl 4 (Nd.encs a1B)])),(4,.s (.pt [.sl 1 ((List.map (irow .i64)) a2Q),.sl 1 ((List.map (irow .i64)) a2V)])),(6,.op 0 0),(10,.s (.pt [.sl 1 ((List.map (irow .i64)) y6E),.int .i64 y6F,.int .i64 y6Ak,.int .i64 y6Ao,.str y6Ar,.int .i64 y6Ag,.sl 4 (Nd.encs y6Al)])),(12,.s (.int .i64 y6Ag)),(13,.op 1 0)],ofH [(0,.box 31 [.nl 8,.nl 1,.nl 1,.nl 1,.nl 1]),(1,.box 24 [.s (.int .i64 12),.s (.str []),.s (.int .i64 x8),.nl 4])],2⟩ ?_ (fun σ' hle=>?_)
    ·replace h:=hj;refine zAq rfl h (fun hb h=>?_) (fun hb h=>?_)
     ·refine zAb [] [] rfl ?_;cases h;exact(Le.rnm [(0,0),(3,1)] _ _ _ ⟨rfl,rfl,rfl,rfl,rfl,rfl,rfl,trivial⟩ ⟨rfl,⟨_,rfl,rfl⟩,rfl,⟨_,rfl,rfl⟩,trivial⟩)
     ·refine zAn ?_;cases h;exact(Le.rnm [(0,0),(3,1)] _ _ _ ⟨rfl,rfl,rfl,rfl,rfl,rfl,rfl,trivial⟩ ⟨rfl,⟨_,rfl,rfl⟩,rfl,⟨_,rfl,rfl⟩,trivial⟩)
    ·show Tri ..;refine zAs hle ?_;refine zXL [] [] rfl ?_;show Tri ..;refine zAa ?_;refine zXL [] [] rfl ?_;show Tri ..;obtain⟨⟨x18,l19⟩,hl,h⟩:=zAc h
     refine zAz ⟨ofL [(3,.s (.pt [.int .i64 a1A,.str a1C,.int .i64 a1D,.sl 4 (Nd.encs a1B)])),(4,.s (.pt [.sl 1 ((List.map (irow .i64)) a2Q),.sl 1 ((List.map (irow .i64)) a2V)])),(6,.op 0 0),(10,.s (.pt [.sl 1 ((List.map (irow .i64)) y6E),.int .i64 y6F,.int .i64 y6Ak,.int .i64 y6Ao,.str y6Ar,.int .i64 y6Ag,.sl 4 (Nd.encs y6Al)])),(13,.op 1 0),(14,.s (.int .i64 x18))],ofH [(0,.box 31 [.nl 8,.nl 1,.nl 1,.nl 1,.nl 1]),(1,.box 24 [.s (.int .i64 12),.s (.str []),.s (.int .i64 x8),.orow 2]),(2,.row 24 4 (Nd.encs l19))],3⟩ ?_ (fun σ' hle=>?_)
     ·refine zAw (zAL (X:=Nat×Int×Int×(List Nd)) (fun y=>match y with | (k,x15,x16,l17)=>⟨ofL [(2,.s (.bool a3)),(3,.s (.pt [.int .i64 a1A,.str a1C,.int .i64 a1D,.sl 4 (Nd.encs a1B)])),(4,.s (.pt [.sl 1 ((List.map (irow .i64)) a2Q),.sl 1 ((List.map (irow .i64)) a2V)])),(6,.op 0 0),(10,.s (.pt [.sl 1 ((List.map (irow .i64)) y6E),.int .i64 y6F,.int .i64 y6Ak,.int .i64 y6Ao,.str y6Ar,.int .i64 y6Ag,.sl 4 (Nd.encs y6Al)])),(12,.s (.int .i64 y6Ag)),(13,.op 1 0),(14,.s (.int .i64 x15)),(15,.s (.int .i64 x16))],ofH [(0,.box 31 [.nl 8,.nl 1,.nl 1,.nl 1,.nl 1]),(1,.box 24 [.s (.int .i64 12),.s (.str []),.s (.int .i64 x8),.orow 2]),(2,.row 24 4 (Nd.encs l17))],3⟩) (fun y=>zCW n a3 y6Ak y6Ag y6Al y.1 y.2.1 y.2.2.1 y.2.2.2=some (x18,l19)) (fun y=>y.1) (n,0,0,[]) hl ?_ ?_)
      ·exact(Le.trans (Le.trans (Le.rnm [(0,0),(1,1)] [(2,.s (.bool a3)),(3,.s (.pt [.int .i64 a1A,.str a1C,.int .i64 a1D,.sl 4 (Nd.encs a1B)])),(4,.s (.pt [.sl 1 ((List.map (irow .i64)) a2Q),.sl 1 ((List.map (irow .i64)) a2V)])),(6,.op 0 0),(10,.s (.pt [.sl 1 ((List.map (irow .i64)) y6E),.int .i64 y6F,.int .i64 y6Ak,.int .i64 y6Ao,.str y6Ar,.int .i64 y6Ag,.sl 4 (Nd.encs y6Al)])),(12,.s (.int .i64 y6Ag)),(13,.op 1 0),(14,.s (.int .i64 0)),(15,.s (.int .i64 0))] [(0,.box 31 [.nl 8,.nl 1,.nl 1,.nl 1,.nl 1]),(1,.box 24 [.s (.int .i64 12),.s (.str []),.s (.int .i64 x8),.nl 4])] 2 ⟨rfl,rfl,rfl,rfl,rfl,rfl,rfl,rfl,rfl,trivial⟩ ⟨rfl,⟨_,rfl,rfl⟩,rfl,⟨_,rfl,rfl⟩,trivial⟩) (Le.takeNil 1 3 24 rfl rfl (by decide))) (Le.rnm [(0,0),(1,1),(2,2)] _ _ _ ⟨rfl,rfl,rfl,rfl,rfl,rfl,rfl,rfl,rfl,trivial⟩ ⟨rfl,⟨_,rfl,rfl⟩,rfl,⟨_,rfl,rfl⟩,rfl,⟨_,rfl,congrArg (Ob.row 24 4) (by simp[List.map_append,List.map_take,List.map_drop,irow,brow,zAB,List.map_cons,List.map_nil,zAy,Nd.encs_eq,Nd.enc,zAi,zAh,zAv,zAo,zAj,zAl,zAd,zAg,zAp,zAf,zAe,zAx,zAt,zAm])⟩,trivial⟩))
      ·rintro⟨k,x15,x16,l17⟩ h;cases k with
       | zero=>cases h
       | succ k =>
        replace h:zCW n a3 y6Ak y6Ag y6Al (k+1) x15 x16 l17=some (x18,l19):=h;rw[zCW]at h;refine zAa ?_;refine zXL [] [59] rfl ?_;intro n20 hn20;obtain rfl:(y6Al.length:Int)=n20:=(hn20.trans (congrArg (fun m:Nat=>(m:Int)) (rlen Nd.encs_eq y6Al))).symm;show Tri ..;refine zAq rfl h (fun hb h=>?_) (fun hb h=>?_)
        ·refine zAn ?_;show Tri ..;refine zAa ?_;obtain⟨⟨x21,l22⟩,hj,h⟩:=zAc h
         refine zAz ⟨ofL [(2,.s (.bool a3)),(3,.s (.pt [.int .i64 a1A,.str a1C,.int .i64 a1D,.sl 4 (Nd.encs a1B)])),(4,.s (.pt [.sl 1 ((List.map (irow .i64)) a2Q),.sl 1 ((List.map (irow .i64)) a2V)])),(6,.op 0 0),(10,.s (.pt [.sl 1 ((List.map (irow .i64)) y6E),.int .i64 y6F,.int .i64 y6Ak,.int .i64 y6Ao,.str y6Ar,.int .i64 y6Ag,.sl 4 (Nd.encs y6Al)])),(12,.s (.int .i64 y6Ag)),(13,.op 1 0),(14,.s (.int .i64 x21)),(15,.s (.int .i64 x16))],ofH [(0,.box 31 [.nl 8,.nl 1,.nl 1,.nl 1,.nl 1]),(1,.box 24 [.s (.int .i64 12),.s (.str []),.s (.int .i64 x8),.orow 2]),(2,.row 24 4 (Nd.encs l22))],3⟩ ?_ (fun σ' hle=>?_)
         ·replace h:=hj;refine zAw ?_;refine zAa ?_;refine zXL [] [] rfl ?_;show Tri ..;obtain⟨x23,hj,h⟩:=zAc h
          refine zAz ⟨ofL [(2,.s (.bool a3)),(3,.s (.pt [.int .i64 a1A,.str a1C,.int .i64 a1D,.sl 4 (Nd.encs a1B)])),(4,.s (.pt [.sl 1 ((List.map (irow .i64)) a2Q),.sl 1 ((List.map (irow .i64)) a2V)])),(6,.op 0 0),(10,.s (.pt [.sl 1 ((List.map (irow .i64)) y6E),.int .i64 y6F,.int .i64 y6Ak,.int .i64 y6Ao,.str y6Ar,.int .i64 y6Ag,.sl 4 (Nd.encs y6Al)])),(12,.s (.int .i64 y6Ag)),(13,.op 1 0),(14,.s (.int .i64 x23)),(15,.s (.int .i64 x16))],ofH [(0,.box 31 [.nl 8,.nl 1,.nl 1,.nl 1,.nl 1]),(1,.box 24 [.s (.int .i64 12),.s (.str []),.s (.int .i64 x8),.orow 2]),(2,.row 24 4 (Nd.encs l17))],3⟩ ?_ (fun σ' hle=>?_)
          ·replace h:=hj;refine zAq rfl h (fun hb h=>?_) (fun hb h=>?_)
           ·refine zAb [] [69] rfl ?_;intro n24 hn24;obtain rfl:(l17.length:Int)=n24:=(hn24.trans (congrArg (fun m:Nat=>(m:Int)) (rlen Nd.encs_eq l17))).symm;cases h;exact(Le.rnm [(0,0),(1,1),(2,2)] _ _ _ ⟨rfl,rfl,rfl,rfl,rfl,rfl,rfl,rfl,rfl,trivial⟩ ⟨rfl,⟨_,rfl,rfl⟩,rfl,⟨_,rfl,rfl⟩,rfl,⟨_,rfl,rfl⟩,trivial⟩)
           ·refine zAn ?_;cases h;exact(Le.rnm [(0,0),(1,1),(2,2)] _ _ _ ⟨rfl,rfl,rfl,rfl,rfl,rfl,rfl,rfl,rfl,trivial⟩ ⟨rfl,⟨_,rfl,rfl⟩,rfl,⟨_,rfl,rfl⟩,rfl,⟨_,rfl,rfl⟩,trivial⟩)
          ·show Tri ..;refine zAs hle ?_;refine zAa ?_;refine zAO [79] [76,78] [1,9,11] rfl (by decide +kernel) ?_;obtain⟨⟨e25A,e25C,e25D,e25B⟩,he25,h⟩:=zAc h;refine And.intro (zAD Nd.encs_eq he25).1 ?_;intro r26 hr26;obtain rfl:[.int .i64 e25A,.str e25C,.int .i64 e25D,.sl 4 (Nd.encs e25B)]=r26:=(hr26.trans (zAD Nd.encs_eq he25).2.1).symm;intro r27 hr27
           obtain rfl:Nd.encs [Nd.mk e25A e25C e25D e25B]=r27:=(hr27.trans (by simp[List.map_append,List.map_take,List.map_drop,irow,brow,zAB,List.map_cons,List.map_nil,zAy,Nd.encs_eq,Nd.enc,zAi,zAh,zAv,zAo,zAj,zAl,zAd,zAg,zAp,zAf,zAe,zAx,zAt,zAm])).symm;obtain⟨hq,h⟩:=zAJ h
           refine And.intro (show((Nd.encs l17).length+(Nd.encs [Nd.mk e25A e25C e25D e25B]).length) * 56<=140737488355328/\(Nd.encs l17).length+(Nd.encs [Nd.mk e25A e25C e25D e25B]).length<=9223372036854775807 from by simp only[List.length_append,List.length_cons,List.length_nil,List.length_map,rlen Nd.encs_eq]at hq ⊢; omega) ?_;show Tri ..
           refine zAs (Le.rnm [(0,0),(1,1),(3,2)] [(2,.s (.bool a3)),(3,.s (.pt [.int .i64 a1A,.str a1C,.int .i64 a1D,.sl 4 (Nd.encs a1B)])),(4,.s (.pt [.sl 1 ((List.map (irow .i64)) a2Q),.sl 1 ((List.map (irow .i64)) a2V)])),(6,.op 0 0),(10,.s (.pt [.sl 1 ((List.map (irow .i64)) y6E),.int .i64 y6F,.int .i64 y6Ak,.int .i64 y6Ao,.str y6Ar,.int .i64 y6Ag,.sl 4 (Nd.encs y6Al)])),(12,.s (.int .i64 y6Ag)),(13,.op 1 0),(14,.s (.int .i64 x23)),(15,.s (.int .i64 x16))] [(0,.box 31 [.nl 8,.nl 1,.nl 1,.nl 1,.nl 1]),(1,.box 24 [.s (.int .i64 12),.s (.str []),.s (.int .i64 x8),.orow 2]),(2,.row 24 4 (Nd.encs (l17++[Nd.mk e25A e25C e25D e25B])))] 3 ⟨rfl,rfl,rfl,rfl,rfl,rfl,rfl,rfl,rfl,trivial⟩ ⟨rfl,⟨_,rfl,rfl⟩,rfl,⟨_,rfl,rfl⟩,rfl,⟨_,rfl,congrArg (Ob.row 24 4) (by simp[List.map_append,List.map_take,List.map_drop,irow,brow,zAB,List.map_cons,List.map_nil,zAy,Nd.encs_eq,Nd.enc,zAi,zAh,zAv,zAo,zAj,zAl,zAd,zAg,zAp,zAf,zAe,zAx,zAt,zAm])⟩,trivial⟩) ?_
           refine zAa ?_;refine zAa ?_;obtain⟨x28,hj,h⟩:=zAc h
           refine zAz ⟨ofL [(2,.s (.bool a3)),(3,.s (.pt [.int .i64 a1A,.str a1C,.int .i64 a1D,.sl 4 (Nd.encs a1B)])),(4,.s (.pt [.sl 1 ((List.map (irow .i64)) a2Q),.sl 1 ((List.map (irow .i64)) a2V)])),(6,.op 0 0),(10,.s (.pt [.sl 1 ((List.map (irow .i64)) y6E),.int .i64 y6F,.int .i64 y6Ak,.int .i64 y6Ao,.str y6Ar,.int .i64 y6Ag,.sl 4 (Nd.encs y6Al)])),(12,.s (.int .i64 y6Ag)),(13,.op 1 0),(14,.s (.int .i64 x23)),(15,.s (.int .i64 x16)),(91,.s (.bool x28))],ofH [(0,.box 31 [.nl 8,.nl 1,.nl 1,.nl 1,.nl 1]),(1,.box 24 [.s (.int .i64 12),.s (.str []),.s (.int .i64 x8),.orow 2]),(2,.row 24 4 (Nd.encs (l17++[Nd.mk e25A e25C e25D e25B])))],3⟩ ?_ (fun σ' hle=>?_)
           ·replace h:=hj;refine zAO [] [82] [] rfl (by decide +kernel) ?_;intro b hb;cases b with
            | true =>
             replace h:=zAI hb.symm h;obtain⟨hq,h⟩:=zAJ h;refine And.intro hq ?_;obtain⟨hq,h⟩:=zAJ h;refine And.intro hq ?_;cases h;exact(Le.rnm [(0,0),(1,1),(2,2)] _ _ _ ⟨rfl,rfl,rfl,rfl,rfl,rfl,rfl,rfl,rfl,rfl,trivial⟩ ⟨rfl,⟨_,rfl,rfl⟩,rfl,⟨_,rfl,rfl⟩,rfl,⟨_,rfl,rfl⟩,trivial⟩)
            | false =>
             replace h:=zAH hb.symm h;cases h;exact(Le.rnm [(0,0),(1,1),(2,2)] _ _ _ ⟨rfl,rfl,rfl,rfl,rfl,rfl,rfl,rfl,rfl,rfl,trivial⟩ ⟨rfl,⟨_,rfl,rfl⟩,rfl,⟨_,rfl,rfl⟩,rfl,⟨_,rfl,rfl⟩,trivial⟩)
           ·show Tri ..;refine zAs hle ?_;obtain⟨l29,hj,h⟩:=zAc h
            refine zAz ⟨ofL [(2,.s (.bool a3)),(3,.s (.pt [.int .i64 a1A,.str a1C,.int .i64 a1D,.sl 4 (Nd.encs a1B)])),(4,.s (.pt [.sl 1 ((List.map (irow .i64)) a2Q),.sl 1 ((List.map (irow .i64)) a2V)])),(6,.op 0 0),(10,.s (.pt [.sl 1 ((List.map (irow .i64)) y6E),.int .i64 y6F,.int .i64 y6Ak,.int .i64 y6Ao,.str y6Ar,.int .i64 y6Ag,.sl 4 (Nd.encs y6Al)])),(12,.s (.int .i64 y6Ag)),(13,.op 1 0),(14,.s (.int .i64 x23)),(15,.s (.int .i64 x16))],ofH [(0,.box 31 [.nl 8,.nl 1,.nl 1,.nl 1,.nl 1]),(1,.box 24 [.s (.int .i64 12),.s (.str []),.s (.int .i64 x8),.orow 2]),(2,.row 24 4 (Nd.encs l29))],3⟩ ?_ (fun σ' hle=>?_)
            ·replace h:=hj;refine zAq rfl h (fun hb h=>?_) (fun hb h=>?_)
             ·refine zAO [96] [95] [1,4,6] rfl (by decide +kernel) ?_;obtain⟨⟨y30A,y30C,y30D,y30B⟩,hy30,h⟩:=zAc h;refine⟨_,⟨_,_,hy30,rfl,rfl⟩,?_⟩
              intro r31 hr31;obtain rfl:Nd.encs [Nd.mk y30A y30C y30D y30B]=r31:=(hr31.trans (by simp[List.map_append,List.map_take,List.map_drop,irow,brow,zAB,List.map_cons,List.map_nil,zAy,Nd.encs_eq,Nd.enc,zAi,zAh,zAv,zAo,zAj,zAl,zAd,zAg,zAp,zAf,zAe,zAx,zAt,zAm])).symm;obtain⟨hq,h⟩:=zAJ h
              refine And.intro (show((Nd.encs (l17++[Nd.mk e25A e25C e25D e25B])).length+(Nd.encs [Nd.mk y30A y30C y30D y30B]).length) * 56<=140737488355328/\(Nd.encs (l17++[Nd.mk e25A e25C e25D e25B])).length+(Nd.encs [Nd.mk y30A y30C y30D y30B]).length<=9223372036854775807 from by simp only[List.length_append,List.length_cons,List.length_nil,List.length_map,rlen Nd.encs_eq]at hq ⊢; omega) ?_;cases h
              exact(Le.trans (Le.rnm [(0,0),(1,1),(3,2)] [(2,.s (.bool a3)),(3,.s (.pt [.int .i64 a1A,.str a1C,.int .i64 a1D,.sl 4 (Nd.encs a1B)])),(4,.s (.pt [.sl 1 ((List.map (irow .i64)) a2Q),.sl 1 ((List.map (irow .i64)) a2V)])),(6,.op 0 0),(10,.s (.pt [.sl 1 ((List.map (irow .i64)) y6E),.int .i64 y6F,.int .i64 y6Ak,.int .i64 y6Ao,.str y6Ar,.int .i64 y6Ag,.sl 4 (Nd.encs y6Al)])),(12,.s (.int .i64 y6Ag)),(13,.op 1 0),(14,.s (.int .i64 x23)),(15,.s (.int .i64 x16))] [(0,.box 31 [.nl 8,.nl 1,.nl 1,.nl 1,.nl 1]),(1,.box 24 [.s (.int .i64 12),.s (.str []),.s (.int .i64 x8),.orow 2]),(2,.row 24 4 (Nd.encs ((l17++[Nd.mk e25A e25C e25D e25B])++[Nd.mk y30A y30C y30D y30B])))] 3 ⟨rfl,rfl,rfl,rfl,rfl,rfl,rfl,rfl,rfl,trivial⟩ ⟨rfl,⟨_,rfl,rfl⟩,rfl,⟨_,rfl,rfl⟩,rfl,⟨_,rfl,congrArg (Ob.row 24 4) (by simp[List.map_append,List.map_take,List.map_drop,irow,brow,zAB,List.map_cons,List.map_nil,zAy,Nd.encs_eq,Nd.enc,zAi,zAh,zAv,zAo,zAj,zAl,zAd,zAg,zAp,zAf,zAe,zAx,zAt,zAm])⟩,trivial⟩) (Le.rnm [(0,0),(1,1),(2,2)] _ _ _ ⟨rfl,rfl,rfl,rfl,rfl,rfl,rfl,rfl,rfl,trivial⟩ ⟨rfl,⟨_,rfl,rfl⟩,rfl,⟨_,rfl,rfl⟩,rfl,⟨_,rfl,rfl⟩,trivial⟩))
             ·refine zAn ?_;cases h;exact(Le.rnm [(0,0),(1,1),(2,2)] _ _ _ ⟨rfl,rfl,rfl,rfl,rfl,rfl,rfl,rfl,rfl,trivial⟩ ⟨rfl,⟨_,rfl,rfl⟩,rfl,⟨_,rfl,rfl⟩,rfl,⟨_,rfl,rfl⟩,trivial⟩)
            ·show Tri ..;refine zAs hle ?_;refine zXL [] [] rfl ?_;show Tri ..;obtain⟨l40,hl,h⟩:=zAc h
             refine zAz ⟨ofL [(2,.s (.bool a3)),(3,.s (.pt [.int .i64 a1A,.str a1C,.int .i64 a1D,.sl 4 (Nd.encs a1B)])),(4,.s (.pt [.sl 1 ((List.map (irow .i64)) a2Q),.sl 1 ((List.map (irow .i64)) a2V)])),(6,.op 0 0),(10,.s (.pt [.sl 1 ((List.map (irow .i64)) y6E),.int .i64 y6F,.int .i64 y6Ak,.int .i64 y6Ao,.str y6Ar,.int .i64 y6Ag,.sl 4 (Nd.encs y6Al)])),(12,.s (.int .i64 y6Ag)),(13,.op 1 0),(14,.s (.int .i64 x23)),(15,.s (.int .i64 x16))],ofH [(0,.box 31 [.nl 8,.nl 1,.nl 1,.nl 1,.nl 1]),(1,.box 24 [.s (.int .i64 12),.s (.str []),.s (.int .i64 x8),.orow 2]),(2,.row 24 4 (Nd.encs l40))],3⟩ ?_ (fun σ' hle=>?_)
             ·refine zAw (zAL (X:=Nat×Int×(List Nd)) (fun y=>match y with | (k,x38,l39)=>⟨ofL [(2,.s (.bool a3)),(3,.s (.pt [.int .i64 a1A,.str a1C,.int .i64 a1D,.sl 4 (Nd.encs a1B)])),(4,.s (.pt [.sl 1 ((List.map (irow .i64)) a2Q),.sl 1 ((List.map (irow .i64)) a2V)])),(6,.op 0 0),(10,.s (.pt [.sl 1 ((List.map (irow .i64)) y6E),.int .i64 y6F,.int .i64 y6Ak,.int .i64 y6Ao,.str y6Ar,.int .i64 y6Ag,.sl 4 (Nd.encs y6Al)])),(12,.s (.int .i64 y6Ag)),(13,.op 1 0),(14,.s (.int .i64 x23)),(15,.s (.int .i64 x16)),(16,.s (.int .i64 x38))],ofH [(0,.box 31 [.nl 8,.nl 1,.nl 1,.nl 1,.nl 1]),(1,.box 24 [.s (.int .i64 12),.s (.str []),.s (.int .i64 x8),.orow 2]),(2,.row 24 4 (Nd.encs l39))],3⟩) (fun y=>zCr a3 y6Ak y6Ag x16 y.1 y.2.1 y.2.2=some l40) (fun y=>y.1) (n,0,l29) hl ?_ ?_)
              ·exact(Le.rnm [(0,0),(1,1),(2,2)] _ _ _ ⟨rfl,rfl,rfl,rfl,rfl,rfl,rfl,rfl,rfl,rfl,trivial⟩ ⟨rfl,⟨_,rfl,rfl⟩,rfl,⟨_,rfl,rfl⟩,rfl,⟨_,rfl,rfl⟩,trivial⟩)
              ·rintro⟨k,x38,l39⟩ h;cases k with
               | zero=>cases h
               | succ k =>
                replace h:zCr a3 y6Ak y6Ag x16 (k+1) x38 l39=some l40:=h;rw[zCr]at h;refine zAa ?_;refine zAa ?_;obtain⟨x41,hj,h⟩:=zAc h
                refine zAz ⟨ofL [(2,.s (.bool a3)),(3,.s (.pt [.int .i64 a1A,.str a1C,.int .i64 a1D,.sl 4 (Nd.encs a1B)])),(4,.s (.pt [.sl 1 ((List.map (irow .i64)) a2Q),.sl 1 ((List.map (irow .i64)) a2V)])),(6,.op 0 0),(10,.s (.pt [.sl 1 ((List.map (irow .i64)) y6E),.int .i64 y6F,.int .i64 y6Ak,.int .i64 y6Ao,.str y6Ar,.int .i64 y6Ag,.sl 4 (Nd.encs y6Al)])),(12,.s (.int .i64 y6Ag)),(13,.op 1 0),(14,.s (.int .i64 x23)),(15,.s (.int .i64 x16)),(16,.s (.int .i64 x38)),(117,.s (.bool x41))],ofH [(0,.box 31 [.nl 8,.nl 1,.nl 1,.nl 1,.nl 1]),(1,.box 24 [.s (.int .i64 12),.s (.str []),.s (.int .i64 x8),.orow 2]),(2,.row 24 4 (Nd.encs l39))],3⟩ ?_ (fun σ' hle=>?_)
                ·replace h:=hj;refine zAb [] [101,105] rfl ?_;intro b hb;cases b with
                 | true =>
                  replace h:=zAI hb.symm h;intro b hb;cases b with
                  | true =>
                   replace h:=zAI hb.symm h;obtain⟨hq,h⟩:=zAJ h;refine And.intro hq ?_;cases h;exact(Le.rnm [(0,0),(1,1),(2,2)] _ _ _ ⟨rfl,rfl,rfl,rfl,rfl,rfl,rfl,rfl,rfl,rfl,rfl,trivial⟩ ⟨rfl,⟨_,rfl,rfl⟩,rfl,⟨_,rfl,rfl⟩,rfl,⟨_,rfl,rfl⟩,trivial⟩)
                  | false =>
                   replace h:=zAH hb.symm h;cases h;exact(Le.rnm [(0,0),(1,1),(2,2)] _ _ _ ⟨rfl,rfl,rfl,rfl,rfl,rfl,rfl,rfl,rfl,rfl,rfl,trivial⟩ ⟨rfl,⟨_,rfl,rfl⟩,rfl,⟨_,rfl,rfl⟩,rfl,⟨_,rfl,rfl⟩,trivial⟩)
                 | false =>
                  replace h:=zAH hb.symm h;intro b hb;subst hb;cases h;exact(Le.rnm [(0,0),(1,1),(2,2)] _ _ _ ⟨rfl,rfl,rfl,rfl,rfl,rfl,rfl,rfl,rfl,rfl,rfl,trivial⟩ ⟨rfl,⟨_,rfl,rfl⟩,rfl,⟨_,rfl,rfl⟩,rfl,⟨_,rfl,rfl⟩,trivial⟩)
                ·show Tri ..;refine zAs hle ?_;refine zAq rfl h (fun hb h=>?_) (fun hb h=>?_)
                 ·refine zAn ?_;show Tri ..;refine zAa ?_;refine zAw ?_;refine zAO [124] [123] [1,4,6] rfl (by decide +kernel) ?_;obtain⟨⟨y42A,y42C,y42D,y42B⟩,hy42,h⟩:=zAc h;refine⟨_,⟨_,_,hy42,rfl,rfl⟩,?_⟩
                  intro r43 hr43;obtain rfl:Nd.encs [Nd.mk y42A y42C y42D y42B]=r43:=(hr43.trans (by simp[List.map_append,List.map_take,List.map_drop,irow,brow,zAB,List.map_cons,List.map_nil,zAy,Nd.encs_eq,Nd.enc,zAi,zAh,zAv,zAo,zAj,zAl,zAd,zAg,zAp,zAf,zAe,zAx,zAt,zAm])).symm;obtain⟨hq,h⟩:=zAJ h
                  refine And.intro (show((Nd.encs l39).length+(Nd.encs [Nd.mk y42A y42C y42D y42B]).length) * 56<=140737488355328/\(Nd.encs l39).length+(Nd.encs [Nd.mk y42A y42C y42D y42B]).length<=9223372036854775807 from by simp only[List.length_append,List.length_cons,List.length_nil,List.length_map,rlen Nd.encs_eq]at hq ⊢; omega) ?_;show Tri ..
                  refine zAs (Le.rnm [(0,0),(1,1),(3,2)] [(2,.s (.bool a3)),(3,.s (.pt [.int .i64 a1A,.str a1C,.int .i64 a1D,.sl 4 (Nd.encs a1B)])),(4,.s (.pt [.sl 1 ((List.map (irow .i64)) a2Q),.sl 1 ((List.map (irow .i64)) a2V)])),(6,.op 0 0),(10,.s (.pt [.sl 1 ((List.map (irow .i64)) y6E),.int .i64 y6F,.int .i64 y6Ak,.int .i64 y6Ao,.str y6Ar,.int .i64 y6Ag,.sl 4 (Nd.encs y6Al)])),(12,.s (.int .i64 y6Ag)),(13,.op 1 0),(14,.s (.int .i64 x23)),(15,.s (.int .i64 x16)),(16,.s (.int .i64 x38))] [(0,.box 31 [.nl 8,.nl 1,.nl 1,.nl 1,.nl 1]),(1,.box 24 [.s (.int .i64 12),.s (.str []),.s (.int .i64 x8),.orow 2]),(2,.row 24 4 (Nd.encs (l39++[Nd.mk y42A y42C y42D y42B])))] 3 ⟨rfl,rfl,rfl,rfl,rfl,rfl,rfl,rfl,rfl,rfl,trivial⟩ ⟨rfl,⟨_,rfl,rfl⟩,rfl,⟨_,rfl,rfl⟩,rfl,⟨_,rfl,congrArg (Ob.row 24 4) (by simp[List.map_append,List.map_take,List.map_drop,irow,brow,zAB,List.map_cons,List.map_nil,zAy,Nd.encs_eq,Nd.enc,zAi,zAh,zAv,zAo,zAj,zAl,zAd,zAg,zAp,zAf,zAe,zAx,zAt,zAm])⟩,trivial⟩) ?_
                  refine zAb [] [] rfl ?_;refine⟨(k,IntKind.i64.wrap (x38+1),l39++[Nd.mk y42A y42C y42D y42B]),h,(Le.rnm [(0,0),(1,1),(2,2)] _ _ _ ⟨rfl,rfl,rfl,rfl,rfl,rfl,rfl,rfl,rfl,rfl,trivial⟩ ⟨rfl,⟨_,rfl,rfl⟩,rfl,⟨_,rfl,rfl⟩,rfl,⟨_,rfl,rfl⟩,trivial⟩),Nat.lt_succ_self k⟩
                 ·refine zAP ?_;cases h;exact(Le.rnm [(0,0),(1,1),(2,2)] _ _ _ ⟨rfl,rfl,rfl,rfl,rfl,rfl,rfl,rfl,rfl,trivial⟩ ⟨rfl,⟨_,rfl,rfl⟩,rfl,⟨_,rfl,rfl⟩,rfl,⟨_,rfl,rfl⟩,trivial⟩)
             ·cases h;exact(Le.trans hle (Le.rnm [(0,0),(1,1),(2,2)] _ _ _ ⟨rfl,rfl,rfl,rfl,rfl,rfl,rfl,rfl,rfl,trivial⟩ ⟨rfl,⟨_,rfl,rfl⟩,rfl,⟨_,rfl,rfl⟩,rfl,⟨_,rfl,rfl⟩,trivial⟩))
         ·show Tri ..;refine zAs hle ?_;refine zAb [] [] rfl ?_;refine⟨(k,x21,IntKind.i64.wrap (x16+1),l22),h,(Le.rnm [(0,0),(1,1),(2,2)] _ _ _ ⟨rfl,rfl,rfl,rfl,rfl,rfl,rfl,rfl,rfl,trivial⟩ ⟨rfl,⟨_,rfl,rfl⟩,rfl,⟨_,rfl,rfl⟩,rfl,⟨_,rfl,rfl⟩,trivial⟩),Nat.lt_succ_self k⟩
        ·refine zAP ?_;cases h;exact(Le.rnm [(0,0),(1,1),(2,2)] _ _ _ ⟨rfl,rfl,rfl,rfl,rfl,rfl,trivial⟩ ⟨rfl,⟨_,rfl,rfl⟩,rfl,⟨_,rfl,rfl⟩,rfl,⟨_,rfl,rfl⟩,trivial⟩)
     ·show Tri ..;refine zAs hle ?_;refine zAa ?_
      refine zAs (Le.trans (Le.rnm [(0,0),(1,1),(2,2)] [(3,.s (.pt [.int .i64 a1A,.str a1C,.int .i64 a1D,.sl 4 (Nd.encs a1B)])),(4,.s (.pt [.sl 1 ((List.map (irow .i64)) a2Q),.sl 1 ((List.map (irow .i64)) a2V)])),(6,.op 0 0),(10,.s (.pt [.sl 1 ((List.map (irow .i64)) y6E),.int .i64 y6F,.int .i64 y6Ak,.int .i64 y6Ao,.str y6Ar,.int .i64 y6Ag,.sl 4 (Nd.encs y6Al)])),(13,.op 1 0),(14,.s (.int .i64 x18))] [(0,.box 31 [.nl 8,.nl 1,.nl 1,.nl 1,.nl 1]),(1,.box 24 [.s (.int .i64 12),.s (.str []),.s (.int .i64 x8),.orow 2]),(2,.row 24 4 (Nd.encs l19))] 3 ⟨rfl,rfl,rfl,rfl,rfl,rfl,trivial⟩ ⟨rfl,⟨_,rfl,rfl⟩,rfl,⟨_,rfl,rfl⟩,rfl,⟨_,rfl,rfl⟩,trivial⟩) (Le.giveRow 2 rfl)) ?_
      refine zAs (Le.trans (Le.rnm [(0,0),(1,1)] [(3,.s (.pt [.int .i64 a1A,.str a1C,.int .i64 a1D,.sl 4 (Nd.encs a1B)])),(4,.s (.pt [.sl 1 ((List.map (irow .i64)) a2Q),.sl 1 ((List.map (irow .i64)) a2V)])),(6,.op 0 0),(10,.s (.pt [.sl 1 ((List.map (irow .i64)) y6E),.int .i64 y6F,.int .i64 y6Ak,.int .i64 y6Ao,.str y6Ar,.int .i64 y6Ag,.sl 4 (Nd.encs y6Al)])),(13,.op 1 0),(14,.s (.int .i64 x18))] [(0,.box 31 [.nl 8,.nl 1,.nl 1,.nl 1,.nl 1]),(1,.box 24 [.s (.int .i64 12),.s (.str []),.s (.int .i64 x8),.s (.sl 4 (Nd.encs l19))])] 2 ⟨rfl,rfl,rfl,rfl,rfl,rfl,trivial⟩ ⟨rfl,⟨_,rfl,rfl⟩,rfl,⟨_,rfl,rfl⟩,trivial⟩) (Le.giveBox 1 [.int .i64 12,.str [],.int .i64 x8,.sl 4 (Nd.encs l19)] rfl rfl)) ?_
      refine zAb [] [132,139,141] rfl ?_;intro r44 hr44;obtain rfl:Nd.encs [Nd.mk y6Ao y6Ar y6Ag y6Al]=r44:=(hr44.trans (by simp[List.map_append,List.map_take,List.map_drop,irow,brow,zAB,List.map_cons,List.map_nil,zAy,Nd.encs_eq,Nd.enc,zAi,zAh,zAv,zAo,zAj,zAl,zAd,zAg,zAp,zAf,zAe,zAx,zAt,zAm])).symm;intro r45 hr45
      obtain rfl:Nd.encs [Nd.mk 12 [] x8 l19]=r45:=(hr45.trans (by simp[List.map_append,List.map_take,List.map_drop,irow,brow,zAB,List.map_cons,List.map_nil,zAy,Nd.encs_eq,Nd.enc,zAi,zAh,zAv,zAo,zAj,zAl,zAd,zAg,zAp,zAf,zAe,zAx,zAt,zAm])).symm;intro r46 hr46
      obtain rfl:(List.map zAl) [(2,y6E,y6F,0,[Nd.mk y6Ao y6Ar y6Ag y6Al],0,[],[]),(1,y6E,y6F,0,[Nd.mk 12 [] x8 l19],0,[],[])]=r46:=(hr46.trans (by simp[List.map_append,List.map_take,List.map_drop,irow,brow,zAB,List.map_cons,List.map_nil,zAy,Nd.encs_eq,Nd.enc,zAi,zAh,zAv,zAo,zAj,zAl,zAd,zAg,zAp,zAf,zAe,zAx,zAt,zAm])).symm;show Tri ..;refine zAa ?_
      refine zAO [] [154,156,158] [21] rfl (by decide +kernel) ?_;intro n47 hn47;obtain rfl:(a2Q.length:Int)=n47:=(hn47.trans (congrArg (fun m:Nat=>(m:Int)) (rlen (fun _=>rfl) a2Q))).symm;obtain⟨e48,he48,h⟩:=zAc h;refine And.intro (zAD (fun _=>rfl) he48).1 ?_;intro r49 hr49;obtain rfl:[.int .i64 e48]=r49:=(hr49.trans (zAD (fun _=>rfl) he48).2.1).symm;intro r50 hr50
      obtain rfl:(List.map (irow .i64)) [y6F,x18,e48]=r50:=(hr50.trans (by simp[List.map_append,List.map_take,List.map_drop,irow,brow,zAB,List.map_cons,List.map_nil,zAy,Nd.encs_eq,Nd.enc,zAi,zAh,zAv,zAo,zAj,zAl,zAd,zAg,zAp,zAf,zAe,zAx,zAt,zAm])).symm;obtain⟨y51,hy51,h⟩:=zAc h;refine⟨_,⟨_,_,_,hy51,rfl,rfl⟩,?_⟩
      obtain⟨⟨⟨y52Aa,⟨y52Ac,y52Ad⟩,⟨y52Ae,y52Af⟩⟩,y53⟩,hy52,h⟩:=zAc h;refine⟨_,⟨_,_,_,_,_,_,_,hy52,rfl,rfl⟩,?_⟩
      show Tri ..;refine zAk ?_;obtain⟨hj1,hk1⟩:=pij h;subst hj1 hk1;unfold zAA;exact⟨_,Le.refl _ _,rfl,rfl⟩
def zT6 (n:Nat) (xs:List AV) (r:Ret):Prop:=∃ (a0:Nd) (a1:zCu) (a2:(Int×List Nd×Int×List UInt8×Bool)) (y0:zRc) (y1:Int),zHT n a0 a1 a2=some (y0,y1)/\xs=[.agg ((Nd.enc a0).map .s),.agg ((zAp a1).map .s),.agg ((zAf a2).map .s)]/\r = .val (.tup [.agg ((zAd y0).map .s),.s (.int .i64 y1)])
def zPT:zAE:=zAF fun xs r=>∃ n,zT6 n xs r
theorem zTE:PSound Tryz.prog 30 zPT:=by
 have gok:∀ f s,look? f [(50,zKA),(51,zLG),(53,zLI),(52,zNo),(54,zKB),(55,zLH),(56,zPU),(57,zNn)]=some s->PSound Tryz.prog f s:=zAC (by
  simp only[List.forall_mem_cons]
  exact⟨zOZ,zQI,zQK,zRX,zO0,zQJ,zTF,zRW,by simp⟩)
 refine zAG tokW Tryz.call30 Tryz.func30 rfl (fun xs r h=>by obtain⟨n,_,_,_,_,_,_,rfl,_⟩:=h; show 3<=73; decide) 73 rfl ?_;rintro xs r w0 G0 ⟨n,⟨a1A,a1C,a1D,a1B⟩,⟨a2Q,a2V⟩,⟨a3A,a3Ai,a3W,a3C,a3Bh⟩,y0,y1,h,rfl,rfl⟩ _;rw[zHT]at h;refine zXL [6] [] rfl ?_;show Tri ..;refine zAa ?_;refine zXL [] [] rfl ?_;show Tri ..;refine zAw ?_;refine zXL [] [] rfl ?_;show Tri ..;refine zAq rfl h (fun hb h=>?_) (fun hb h=>?_)
 ·refine zXL [] [] rfl ?_;obtain⟨⟨⟨y4Aa,⟨y4Ac,y4Ad⟩,⟨y4Ae,y4Af⟩⟩,y5⟩,hy4,h⟩:=zAc h;refine⟨_,⟨_,_,_,_,_,_,hy4,rfl,rfl⟩,?_⟩
  show Tri ..;refine zAk ?_;obtain⟨hj1,hk1⟩:=pij h;subst hj1 hk1;unfold zAA;exact⟨_,Le.refl _ _,rfl,rfl⟩
 ·refine zXL [] [] rfl ?_;show Tri ..;refine zAq rfl h (fun hb h=>?_) (fun hb h=>?_)
  ·refine zXL [] [] rfl ?_;obtain⟨⟨⟨y6Aa,⟨y6Ac,y6Ad⟩,⟨y6Ae,y6Af⟩⟩,y7⟩,hy6,h⟩:=zAc h;refine⟨_,⟨_,_,_,_,_,_,hy6,rfl,rfl⟩,?_⟩
   show Tri ..;refine zAk ?_;obtain⟨hj1,hk1⟩:=pij h;subst hj1 hk1;unfold zAA;exact⟨_,Le.refl _ _,rfl,rfl⟩
  ·refine zXL [] [] rfl ?_;show Tri ..;refine zAq rfl h (fun hb h=>?_) (fun hb h=>?_)
   ·refine zAa ?_;refine zAO [] [] [10] rfl (by decide +kernel) ?_;obtain⟨⟨y8A,y8C,y8D,y8B⟩,hy8,h⟩:=zAc h;refine⟨_,⟨_,_,hy8,rfl,rfl⟩,?_⟩
    obtain⟨⟨⟨y9Aa,⟨y9Ac,y9Ad⟩,⟨y9Ae,y9Af⟩⟩,y10⟩,hy9,h⟩:=zAc h;refine⟨_,⟨_,_,_,_,_,_,_,hy9,rfl,rfl⟩,?_⟩
    show Tri ..;refine zAk ?_;obtain⟨hj1,hk1⟩:=pij h;subst hj1 hk1;unfold zAA;exact⟨_,Le.refl _ _,rfl,rfl⟩
   ·refine zXL [] [] rfl ?_;show Tri ..;refine zAq rfl h (fun hb h=>?_) (fun hb h=>?_)
    ·refine zXL [] [] rfl ?_;obtain⟨⟨⟨y11Aa,⟨y11Ac,y11Ad⟩,⟨y11Ae,y11Af⟩⟩,y12⟩,hy11,h⟩:=zAc h;refine⟨_,⟨_,_,_,_,_,hy11,rfl,rfl⟩,?_⟩
     show Tri ..;refine zAk ?_;obtain⟨hj1,hk1⟩:=pij h;subst hj1 hk1;unfold zAA;exact⟨_,Le.refl _ _,rfl,rfl⟩
    ·refine zXL [] [] rfl ?_;show Tri ..;refine zAq rfl h (fun hb h=>?_) (fun hb h=>?_)
     ·refine zXL [] [] rfl ?_;obtain⟨⟨⟨y13Aa,⟨y13Ac,y13Ad⟩,⟨y13Ae,y13Af⟩⟩,y14⟩,hy13,h⟩:=zAc h;refine⟨_,⟨_,_,_,_,_,hy13,rfl,rfl⟩,?_⟩
      show Tri ..;refine zAk ?_;obtain⟨hj1,hk1⟩:=pij h;subst hj1 hk1;unfold zAA;exact⟨_,Le.refl _ _,rfl,rfl⟩
     ·refine zXL [] [] rfl ?_;show Tri ..;refine zAq rfl h (fun hb h=>?_) (fun hb h=>?_)
      ·refine zXL [] [] rfl ?_;obtain⟨⟨⟨y15Aa,⟨y15Ac,y15Ad⟩,⟨y15Ae,y15Af⟩⟩,y16⟩,hy15,h⟩:=zAc h;refine⟨_,⟨_,_,_,_,_,_,hy15,rfl,rfl⟩,?_⟩
       show Tri ..;refine zAk ?_;obtain⟨hj1,hk1⟩:=pij h;subst hj1 hk1;unfold zAA;exact⟨_,Le.refl _ _,rfl,rfl⟩
      ·refine zXL [] [] rfl ?_;show Tri ..;refine zAq rfl h (fun hb h=>?_) (fun hb h=>?_)
       ·refine zXL [] [] rfl ?_;obtain⟨⟨⟨y17Aa,⟨y17Ac,y17Ad⟩,⟨y17Ae,y17Af⟩⟩,y18⟩,hy17,h⟩:=zAc h;refine⟨_,⟨_,_,_,_,_,_,hy17,rfl,rfl⟩,?_⟩
        show Tri ..;refine zAk ?_;obtain⟨hj1,hk1⟩:=pij h;subst hj1 hk1;unfold zAA;exact⟨_,Le.refl _ _,rfl,rfl⟩
       ·refine zAn ?_;show Tri ..;refine zXL [] [] rfl ?_;show Tri ..;refine zAk ?_;obtain⟨hj1,hk1⟩:=pij h;subst hj1 hk1;unfold zAA;exact⟨_,Le.refl _ _,rfl,rfl⟩
def zPr (n:Nat) (xs:List AV) (r:Ret):Prop:=∃ (a0:Nd) (a1:(Int×zRc×zCu×(Int×List Nd×Int×List UInt8×Bool)×Int)) (y0:zRc),zE6 n a0 a1=some y0/\xs=[.agg ((Nd.enc a0).map .s),.agg ((zAe a1).map .s)]/\r = .val (.agg ((zAd y0).map .s))
def zKm:zAE:=zAF fun xs r=>∃ n,zPr n xs r
theorem zOL:PSound Tryz.prog 11 zKm:=by
 have gok:∀ f s,look? f [(30,zPT)]=some s->PSound Tryz.prog f s:=zAC (by
  simp only[List.forall_mem_cons]
  exact⟨zTE,by simp⟩)
 refine zAG tokW Tryz.call11 Tryz.func11 rfl (fun xs r h=>by obtain⟨n,_,_,_,_,rfl,_⟩:=h; show 2<=22; decide) 22 rfl ?_;rintro xs r w0 G0 ⟨n,⟨n1A,n1C,n1D,n1B⟩,⟨s2A,⟨s2At,⟨s2Bd,s2Be⟩,⟨s2Bf,s2Bg⟩⟩,⟨s2Aw,s2Ax⟩,⟨s2Ay,s2Az,s2Ba,s2Bb,s2Bc⟩,s2S⟩,y0,h,rfl,rfl⟩ _;rw[zE6]at h;refine zXL [4] [] rfl ?_;show Tri ..;refine zAa ?_;refine zXL [] [] rfl ?_;show Tri ..;refine zAq rfl h (fun hb h=>?_) (fun hb h=>?_)
 ·refine zXL [5] [] rfl ?_;obtain⟨⟨⟨y3Aa,⟨y3Ac,y3Ad⟩,⟨y3Ae,y3Af⟩⟩,y4⟩,hy3,h⟩:=zAc h;refine⟨_,⟨_,_,_,_,_,_,hy3,rfl,rfl⟩,?_⟩
  show Tri ..;refine zAs (Le.giveBox 1 [.sl 8 ((List.map zAl) y3Aa),.sl 1 ((List.map (irow .i64)) y3Ac),.sl 1 ((List.map (irow .i64)) y3Ad),.sl 1 ((List.map (irow .i64)) y3Ae),.sl 1 ((List.map (irow .i64)) y3Af)] rfl rfl) ?_;refine zXL [] [] rfl ?_;show Tri ..;refine zAk ?_;have hy:=Option.some.inj h;subst hy;unfold zAA;exact⟨_,Le.refl _ _,rfl,rfl⟩
 ·refine zAn ?_;show Tri ..;refine zXL [] [] rfl ?_;show Tri ..;refine zAk ?_;have hy:=Option.some.inj h;subst hy;unfold zAA;exact⟨_,Le.refl _ _,rfl,rfl⟩
def zHk (n:Nat) (xs:List AV) (os:List Ob) (x:AV) (os':List (Option Ob)):Prop:=∃ (a0I:Int) (a0J:List UInt8) (a0K:Int) (a0L:List Nd) (a0M:Int) (a0N:List UInt8) (a0O:Int) (a0P:List Nd) (a0H:List zRc) (a0G:Int) (y0:zCu) (y1:Int) (z0I:Int) (z0J:List UInt8) (z0K:Int) (z0L:List Nd) (z0M:Int) (z0N:List UInt8) (z0O:Int) (z0P:List Nd) (z0H:List zRc) (z0G:Int),zAT n (Nd.mk a0I a0J a0K a0L,Nd.mk a0M a0N a0O a0P,a0H,a0G)=some (y0,y1,(Nd.mk z0I z0J z0K z0L,Nd.mk z0M z0N z0O z0P,z0H,z0G))/\xs=[.op 0 0]/\os=[.box 71 [.s (.int .i64 a0I),.s (.str a0J),.s (.int .i64 a0K),.s (.sl 4 (Nd.encs a0L)),.s (.int .i64 a0M),.s (.str a0N),.s (.int .i64 a0O),.s (.sl 4 (Nd.encs a0P)),.orow 1,.s (.int .i64 a0G)],.row 31 5 ((List.map zAd) a0H)]/\x = .tup [.agg ((zAp y0).map .s),.s (.int .i64 y1)]/\os'=[some (.box 71 [.s (.int .i64 z0I),.s (.str z0J),.s (.int .i64 z0K),.s (.sl 4 (Nd.encs z0L)),.s (.int .i64 z0M),.s (.str z0N),.s (.int .i64 z0O),.s (.sl 4 (Nd.encs z0P)),.orow 2,.s (.int .i64 z0G)]),none,some (.row 31 5 ((List.map zAd) z0H))]
def zCf:zAE:=zD8 (fun xs os x os'=>∃ n,zHk n xs os x os')
theorem zCZ:PSound Tryz.prog 16 zCf:=by
 have gok:∀ f s,look? f [(31,zEq),(35,zFr)]=some s->PSound Tryz.prog f s:=zAC (by
  simp only[List.forall_mem_cons]
  exact⟨zFj,zGy,by simp⟩)
 refine PSound.withNil (zGT tokW Tryz.call16 Tryz.func16 rfl (fun xs os x os' h=>by obtain⟨n,_,_,_,_,_,_,_,_,_,_,_,_,_,_,_,_,_,_,_,_,_,_,_,rfl,rfl,_,rfl⟩:=h; exact⟨by show 1<=62; decide,by show 2<=3; decide⟩) 62 rfl ?_) _;rintro xs os x os' w0 G0 B0 ⟨n,o1I,o1J,o1K,o1L,o1M,o1N,o1O,o1P,o1H,o1G,y0,y1,z0I,z0J,z0K,z0L,z0M,z0N,z0O,z0P,z0H,z0G,h,rfl,rfl,rfl,rfl⟩ _;rw[zAT]at h;refine zXL [2] [] rfl ?_
 show Tri ..;refine zAa ?_;refine zXL [] [] rfl ?_;show Tri ..;refine zAN rfl (fun h=>by cases h) (fun _=>?_)
 refine zAn ?_;show Tri ..;refine zAa ?_;refine zAa ?_;refine zAO [] [19] [3,7,8] rfl (by decide +kernel) ?_;intro n2 hn2;obtain rfl:(o1H.length:Int)=n2:=(hn2.trans (congrArg (fun m:Nat=>(m:Int)) (rlen (fun _=>rfl) o1H))).symm;show Tri ..;refine zAq rfl h (fun hb h=>?_) (fun hb h=>?_)
 ·refine zXL [] [] rfl ?_;show Tri ..;refine zAk ?_;have hj0:=Option.some.inj h;obtain⟨hv0,hw0⟩:=Prod.mk.inj hj0;subst hv0;obtain⟨hv1,hw1⟩:=Prod.mk.inj hw0;subst hv1;obtain⟨he1T,hr1T⟩:=Prod.mk.inj hw1;obtain⟨he1U,hr1U⟩:=Prod.mk.inj hr1T;obtain⟨he1Y,he1Z⟩:=Prod.mk.inj hr1U;obtain⟨he2T,he2U,he2Y,he2Z⟩:=Nd.mk.inj he1T;subst he2T;subst he2U;subst he2Y;subst he2Z;obtain⟨he3T,he3U,he3Y,he3Z⟩:=Nd.mk.inj he1U;subst he3T;subst he3U;subst he3Y;subst he3Z;subst he1Y;subst he1Z;unfold zB0
  exact⟨_,(Le.rnm [(0,0),(1,2),(2,3)] [(2,.op 3 0),(3,.s (.int .i64 8))] [(0,.box 71 [.s (.int .i64 o1I),.s (.str o1J),.s (.int .i64 o1K),.s (.sl 4 (Nd.encs o1L)),.s (.int .i64 o1M),.s (.str o1N),.s (.int .i64 o1O),.s (.sl 4 (Nd.encs o1P)),.orow 2,.s (.int .i64 o1G)]),(2,.row 31 5 ((List.map zAd) o1H)),(3,.box 29 [.nl 1,.nl 1])] 4 ⟨rfl,rfl,trivial⟩ ⟨rfl,⟨_,rfl,rfl⟩,rfl,⟨_,rfl,rfl⟩,rfl,⟨_,rfl,rfl⟩,trivial⟩),rfl,rfl,rfl,rfl,rfl,rfl,trivial⟩
 ·refine zAn ?_;show Tri ..;refine zAa ?_;refine zC1 [4] [] [3,7,8,9,10,11] [3,7,8,9] rfl (by decide +kernel) ?_;obtain⟨⟨e3Aa,⟨e3Ac,e3Ad⟩,⟨e3Ae,e3Af⟩⟩,he3,h⟩:=zAc h;refine And.intro (zAD (fun _=>rfl) he3).1 ?_;refine And.intro (zAD (fun _=>rfl) he3).2.2 ?_;refine⟨_,(zAD (fun _=>rfl) he3).2.1,?_⟩
  show Tri ..;refine zAs (Le.giveBox 3 [.sl 8 ((List.map zAl) e3Aa),.sl 1 ((List.map (irow .i64)) e3Ac),.sl 1 ((List.map (irow .i64)) e3Ad),.sl 1 ((List.map (irow .i64)) e3Ae),.sl 1 ((List.map (irow .i64)) e3Af)] rfl rfl) ?_;refine zAa ?_;refine zC1 [5] [] [3,11,12] [3] rfl (by decide +kernel) ?_;obtain⟨⟨⟨y4A,y4C,y4D,y4B⟩,y5,y6⟩,hy4,h⟩:=zAc h;refine⟨_,⟨_,_,_,_,_,_,hy4,rfl,rfl⟩,?_⟩
  show Tri ..;refine zAs (Le.giveBox 4 [.int .i64 y4A,.str y4C,.int .i64 y4D,.sl 4 (Nd.encs y4B)] rfl rfl) ?_;refine zAa ?_;refine zXL [] [] rfl ?_;show Tri ..;refine zAq rfl h (fun hb h=>?_) (fun hb h=>?_)
  ·refine zXL [] [] rfl ?_;show Tri ..;refine zAk ?_;have hj0:=Option.some.inj h;obtain⟨hv0,hw0⟩:=Prod.mk.inj hj0;subst hv0;obtain⟨hv1,hw1⟩:=Prod.mk.inj hw0;subst hv1;obtain⟨he1T,hr1T⟩:=Prod.mk.inj hw1;obtain⟨he1U,hr1U⟩:=Prod.mk.inj hr1T;obtain⟨he1Y,he1Z⟩:=Prod.mk.inj hr1U;obtain⟨he2T,he2U,he2Y,he2Z⟩:=Nd.mk.inj he1T;subst he2T;subst he2U;subst he2Y;subst he2Z;obtain⟨he3T,he3U,he3Y,he3Z⟩:=Nd.mk.inj he1U;subst he3T;subst he3U;subst he3Y;subst he3Z;subst he1Y;subst he1Z;unfold zB0
   exact⟨_,(Le.rnm [(0,0),(1,2),(2,3)] [(2,.op 3 0),(3,.s (.int .i64 y6))] [(0,.box 71 [.s (.int .i64 o1I),.s (.str o1J),.s (.int .i64 o1K),.s (.sl 4 (Nd.encs o1L)),.s (.int .i64 o1M),.s (.str o1N),.s (.int .i64 o1O),.s (.sl 4 (Nd.encs o1P)),.orow 2,.s (.int .i64 o1G)]),(2,.row 31 5 ((List.map zAd) o1H)),(3,.box 29 [.nl 1,.nl 1])] 4 ⟨rfl,rfl,trivial⟩ ⟨rfl,⟨_,rfl,rfl⟩,rfl,⟨_,rfl,rfl⟩,rfl,⟨_,rfl,rfl⟩,trivial⟩),rfl,rfl,rfl,rfl,rfl,rfl,trivial⟩
  ·refine zAn ?_;show Tri ..;refine zAa ?_;refine zAO [] [] [6,10,13] rfl (by decide +kernel) ?_;show Tri ..;refine zXL [] [] rfl ?_;obtain⟨⟨y7Q,y7V⟩,hy7,h⟩:=zAc h;refine⟨_,⟨_,_,hy7,rfl,rfl⟩,?_⟩
   show Tri ..;refine zAk ?_;have hj0:=Option.some.inj h;obtain⟨hv0,hw0⟩:=Prod.mk.inj hj0;subst hv0;obtain⟨hv1,hw1⟩:=Prod.mk.inj hw0;subst hv1;obtain⟨he1T,hr1T⟩:=Prod.mk.inj hw1;obtain⟨he1U,hr1U⟩:=Prod.mk.inj hr1T;obtain⟨he1Y,he1Z⟩:=Prod.mk.inj hr1U;obtain⟨he2T,he2U,he2Y,he2Z⟩:=Nd.mk.inj he1T;subst he2T;subst he2U;subst he2Y;subst he2Z;obtain⟨he3T,he3U,he3Y,he3Z⟩:=Nd.mk.inj he1U;subst he3T;subst he3U;subst he3Y;subst he3Z;subst he1Y;subst he1Z;unfold zB0
   exact⟨_,(Le.rnm [(0,0),(1,2),(2,3)] [(2,.op 3 0),(3,.s (.int .i64 0))] [(0,.box 71 [.s (.int .i64 o1I),.s (.str o1J),.s (.int .i64 o1K),.s (.sl 4 (Nd.encs o1L)),.s (.int .i64 y4A),.s (.str y4C),.s (.int .i64 y4D),.s (.sl 4 (Nd.encs y4B)),.orow 2,.s (.int .i64 (IntKind.i64.wrap (o1G+1)))]),(2,.row 31 5 ((List.map zAd) o1H)),(3,.box 29 [.s (.sl 1 ((List.map (irow .i64)) y7Q)),.s (.sl 1 ((List.map (irow .i64)) y7V))])] 4 ⟨rfl,rfl,trivial⟩ ⟨rfl,⟨_,rfl,rfl⟩,rfl,⟨_,rfl,rfl⟩,rfl,⟨_,rfl,rfl⟩,trivial⟩),rfl,rfl,rfl,rfl,rfl,rfl,trivial⟩
def zHl (n:Nat) (xs:List AV) (os:List Ob) (x:AV) (os':List (Option Ob)):Prop:=∃ (a0I:Int) (a0J:List UInt8) (a0K:Int) (a0L:List Nd) (a0M:Int) (a0N:List UInt8) (a0O:Int) (a0P:List Nd) (a0H:List zRc) (a0G:Int) (a1:Int) (y0:Int) (z0I:Int) (z0J:List UInt8) (z0K:Int) (z0L:List Nd) (z0M:Int) (z0N:List UInt8) (z0O:Int) (z0P:List Nd) (z0H:List zRc) (z0G:Int),zA3 n (Nd.mk a0I a0J a0K a0L,Nd.mk a0M a0N a0O a0P,a0H,a0G) a1=some (y0,(Nd.mk z0I z0J z0K z0L,Nd.mk z0M z0N z0O z0P,z0H,z0G))/\xs=[.op 0 0,.s (.int .i64 a1)]/\os=[.box 71 [.s (.int .i64 a0I),.s (.str a0J),.s (.int .i64 a0K),.s (.sl 4 (Nd.encs a0L)),.s (.int .i64 a0M),.s (.str a0N),.s (.int .i64 a0O),.s (.sl 4 (Nd.encs a0P)),.orow 1,.s (.int .i64 a0G)],.row 31 5 ((List.map zAd) a0H)]/\x = .s (.int .i64 y0)/\os'=[some (.box 71 [.s (.int .i64 z0I),.s (.str z0J),.s (.int .i64 z0K),.s (.sl 4 (Nd.encs z0L)),.s (.int .i64 z0M),.s (.str z0N),.s (.int .i64 z0O),.s (.sl 4 (Nd.encs z0P)),.orow 2,.s (.int .i64 z0G)]),none,some (.row 31 5 ((List.map zAd) z0H))]
def zEC:zAE:=zD8 (fun xs os x os'=>∃ n,zHl n xs os x os')
theorem zHb:PSound Tryz.prog 18 zEC:=by
 have gok:∀ f s,look? f [(14,zBF),(16,zCf)]=some s->PSound Tryz.prog f s:=zAC (by
  simp only[List.forall_mem_cons]
  exact⟨zBZ,zCZ,by simp⟩)
 refine PSound.withNil (zGT tokW Tryz.call18 Tryz.func18 rfl (fun xs os x os' h=>by obtain⟨n,_,_,_,_,_,_,_,_,_,_,_,_,_,_,_,_,_,_,_,_,_,_,_,rfl,rfl,_,rfl⟩:=h; exact⟨by show 2<=50; decide,by show 2<=3; decide⟩) 50 rfl ?_) _;rintro xs os x os' w0 G0 B0 ⟨n,o1I,o1J,o1K,o1L,o1M,o1N,o1O,o1P,o1H,o1G,done2,y0,z0I,z0J,z0K,z0L,z0M,z0N,z0O,z0P,z0H,z0G,h,rfl,rfl,rfl,rfl⟩ _;rw[zA3]at h;refine zXL [] [] rfl ?_
 show Tri ..;refine zAa ?_;refine zXL [] [] rfl ?_;show Tri ..;refine zAN rfl (fun h=>by cases h) (fun _=>?_)
 refine zAn ?_;show Tri ..;refine zAa ?_;refine zAa ?_;obtain⟨x3,hj,h⟩:=zAc h;refine zAz ⟨ofL [(0,.op 0 0),(1,.s (.int .i64 done2)),(21,.s (.bool x3))],ofH [(0,.box 71 [.s (.int .i64 o1I),.s (.str o1J),.s (.int .i64 o1K),.s (.sl 4 (Nd.encs o1L)),.s (.int .i64 o1M),.s (.str o1N),.s (.int .i64 o1O),.s (.sl 4 (Nd.encs o1P)),.orow 2,.s (.int .i64 o1G)]),(2,.row 31 5 ((List.map zAd) o1H))],3⟩ ?_ (fun σ' hle=>?_)
 ·replace h:=hj;refine zAb [] [13,19] rfl ?_;intro b hb;cases b with
  | true =>
   replace h:=zAI hb.symm h;cases h;exact(Le.rnm [(0,0),(1,2)] _ _ _ ⟨rfl,rfl,rfl,trivial⟩ ⟨rfl,⟨_,rfl,rfl⟩,rfl,⟨_,rfl,rfl⟩,trivial⟩)
  | false =>
   replace h:=zAH hb.symm h;intro n4 hn4;obtain rfl:(o1H.length:Int)=n4:=(hn4.trans (congrArg (fun m:Nat=>(m:Int)) (rlen (fun _=>rfl) o1H))).symm;cases h;exact(Le.rnm [(0,0),(1,2)] _ _ _ ⟨rfl,rfl,rfl,trivial⟩ ⟨rfl,⟨_,rfl,rfl⟩,rfl,⟨_,rfl,rfl⟩,trivial⟩)
 ·show Tri ..;refine zAs hle ?_;refine zAq rfl h (fun hb h=>?_) (fun hb h=>?_)
  ·refine zXL [] [] rfl ?_;show Tri ..;refine zAk ?_;have hj0:=Option.some.inj h;obtain⟨hv0,hw0⟩:=Prod.mk.inj hj0;subst hv0;obtain⟨he1T,hr1T⟩:=Prod.mk.inj hw0;obtain⟨he1U,hr1U⟩:=Prod.mk.inj hr1T;obtain⟨he1Y,he1Z⟩:=Prod.mk.inj hr1U;obtain⟨he2T,he2U,he2Y,he2Z⟩:=Nd.mk.inj he1T;subst he2T;subst he2U;subst he2Y;subst he2Z;obtain⟨he3T,he3U,he3Y,he3Z⟩:=Nd.mk.inj he1U;subst he3T;subst he3U;subst he3Y;subst he3Z;subst he1Y;subst he1Z;unfold zB0
   exact⟨_,(Le.rnm [(0,0),(2,2)] [(4,.s (.int .i64 2))] [(0,.box 71 [.s (.int .i64 o1I),.s (.str o1J),.s (.int .i64 o1K),.s (.sl 4 (Nd.encs o1L)),.s (.int .i64 o1M),.s (.str o1N),.s (.int .i64 o1O),.s (.sl 4 (Nd.encs o1P)),.orow 2,.s (.int .i64 o1G)]),(2,.row 31 5 ((List.map zAd) o1H))] 3 ⟨rfl,trivial⟩ ⟨rfl,⟨_,rfl,rfl⟩,rfl,⟨_,rfl,rfl⟩,trivial⟩),rfl,rfl,rfl,rfl,rfl,rfl,trivial⟩
  ·refine zAn ?_;show Tri ..;refine zAa ?_;obtain⟨fl,hl,ho1⟩:=zAc h;refine zBH (fl:=fl) (fun z=>match z with | ⟨x16,x17,x18,x19,x20,x21,x22,x23,x24,l25⟩=>⟨ofL [(0,.op 0 0),(1,.s (.int .i64 done2))],ofH [(0,.box 71 [.s (.int .i64 x16),.s (.str x17),.s (.int .i64 x18),.s (.sl 4 (Nd.encs x19)),.s (.int .i64 x20),.s (.str x21),.s (.int .i64 x22),.s (.sl 4 (Nd.encs x23)),.orow 2,.s (.int .i64 x24)]),(2,.row 31 5 ((List.map zAd) l25))],3⟩) ?_ (fun z σ' hz hle=>?_)
   ·refine zAw (zAL (X:=Nat×Int×(List UInt8)×Int×(List Nd)×Int×(List UInt8)×Int×(List Nd)×Int×(List zRc)) (fun y=>match y with | (k,x5,x6,x7,x8,x9,x10,x11,x12,x14,l15)=>⟨ofL [(0,.op 0 0),(1,.s (.int .i64 done2))],ofH [(0,.box 71 [.s (.int .i64 x5),.s (.str x6),.s (.int .i64 x7),.s (.sl 4 (Nd.encs x8)),.s (.int .i64 x9),.s (.str x10),.s (.int .i64 x11),.s (.sl 4 (Nd.encs x12)),.orow 2,.s (.int .i64 x14)]),(2,.row 31 5 ((List.map zAd) l15))],3⟩) (fun y=>zAX n done2 y.1 y.2.1 y.2.2.1 y.2.2.2.1 y.2.2.2.2.1 y.2.2.2.2.2.1 y.2.2.2.2.2.2.1 y.2.2.2.2.2.2.2.1 y.2.2.2.2.2.2.2.2.1 y.2.2.2.2.2.2.2.2.2.1 y.2.2.2.2.2.2.2.2.2.2=some fl) (fun y=>y.1) (n,o1I,o1J,o1K,o1L,o1M,o1N,o1O,o1P,o1G,o1H) hl ?_ ?_)
    ·exact(Le.rnm [(0,0),(2,2)] _ _ _ ⟨rfl,rfl,trivial⟩ ⟨rfl,⟨_,rfl,rfl⟩,rfl,⟨_,rfl,rfl⟩,trivial⟩)
    ·rintro⟨k,x5,x6,x7,x8,x9,x10,x11,x12,x14,l15⟩ h;cases k with
     | zero=>cases h
     | succ k =>
      replace h:zAX n done2 (k+1) x5 x6 x7 x8 x9 x10 x11 x12 x14 l15=some fl:=h;rw[zAX]at h;refine zAa ?_;refine zXL [] [] rfl ?_;show Tri ..;refine zAq rfl h (fun hb h=>?_) (fun hb h=>?_)
      ·refine zAn ?_;show Tri ..;refine zAw ?_;refine zXL [5] [] rfl ?_;obtain⟨⟨⟨y26Q,y26V⟩,y27,⟨⟨w28I,w28J,w28K,w28L⟩,⟨w28M,w28N,w28O,w28P⟩,w28H,w28G⟩⟩,hy26,h⟩:=zAc h;refine⟨_,_,⟨_,_,_,_,_,_,_,_,_,_,_,_,_,_,_,_,_,_,_,_,_,_,_,hy26,rfl,rfl,rfl,rfl⟩,?_⟩
       show Tri ..;refine zAs (Le.giveBox 4 [.sl 1 ((List.map (irow .i64)) y26Q),.sl 1 ((List.map (irow .i64)) y26V)] rfl rfl) ?_;refine zXL [] [] rfl ?_;show Tri ..;refine zAq rfl h (fun hb h=>?_) (fun hb h=>?_)
       ·refine zXL [] [] rfl ?_;show Tri ..;refine zAk ?_;cases h;replace h:some _=some _:=ho1;have hj0:=Option.some.inj h;obtain⟨hv0,hw0⟩:=Prod.mk.inj hj0;subst hv0;obtain⟨he1T,hr1T⟩:=Prod.mk.inj hw0;obtain⟨he1U,hr1U⟩:=Prod.mk.inj hr1T;obtain⟨he1Y,he1Z⟩:=Prod.mk.inj hr1U;obtain⟨he2T,he2U,he2Y,he2Z⟩:=Nd.mk.inj he1T;subst he2T;subst he2U;subst he2Y;subst he2Z;obtain⟨he3T,he3U,he3Y,he3Z⟩:=Nd.mk.inj he1U;subst he3T;subst he3U;subst he3Y;subst he3Z;subst he1Y;subst he1Z;unfold zB0
        exact⟨_,(Le.rnm [(0,0),(3,2)] [(4,.s (.int .i64 y27))] [(0,.box 71 [.s (.int .i64 w28I),.s (.str w28J),.s (.int .i64 w28K),.s (.sl 4 (Nd.encs w28L)),.s (.int .i64 w28M),.s (.str w28N),.s (.int .i64 w28O),.s (.sl 4 (Nd.encs w28P)),.orow 2,.s (.int .i64 w28G)]),(2,.row 31 5 ((List.map zAd) w28H))] 3 ⟨rfl,trivial⟩ ⟨rfl,⟨_,rfl,rfl⟩,rfl,⟨_,rfl,rfl⟩,trivial⟩),rfl,rfl,rfl,rfl,rfl,rfl,trivial⟩
       ·refine zAn ?_;refine⟨(k,w28I,w28J,w28K,w28L,w28M,w28N,w28O,w28P,w28G,w28H),h,(Le.rnm [(0,0),(3,2)] _ _ _ ⟨rfl,rfl,trivial⟩ ⟨rfl,⟨_,rfl,rfl⟩,rfl,⟨_,rfl,rfl⟩,trivial⟩),Nat.lt_succ_self k⟩
      ·refine zAP ?_;cases h;exact⟨_,rfl,(Le.rnm [(0,0),(2,2)] _ _ _ ⟨rfl,rfl,trivial⟩ ⟨rfl,⟨_,rfl,rfl⟩,rfl,⟨_,rfl,rfl⟩,trivial⟩)⟩
   ·subst hz;obtain⟨x16,x17,x18,x19,x20,x21,x22,x23,x24,l25⟩:=z;replace h:=ho1;show Tri ..;refine zAs hle ?_;refine zAa ?_;obtain⟨fl,hl,ho1⟩:=zAc h;refine zBH (fl:=fl) (fun z=>match z with | ⟨x40,x41,x42,x43,x44,x45,x46,x47,x48,l49⟩=>⟨ofL [],ofH [(0,.box 71 [.s (.int .i64 x40),.s (.str x41),.s (.int .i64 x42),.s (.sl 4 (Nd.encs x43)),.s (.int .i64 x44),.s (.str x45),.s (.int .i64 x46),.s (.sl 4 (Nd.encs x47)),.orow 2,.s (.int .i64 x48)]),(2,.row 31 5 ((List.map zAd) l49))],3⟩) ?_ (fun z σ' hz hle=>?_)
    ·refine zAw (zAL (X:=Nat×Int×(List UInt8)×Int×(List Nd)×Int×(List UInt8)×Int×(List Nd)×Int×(List zRc)) (fun y=>match y with | (k,x29,x30,x31,x32,x33,x34,x35,x36,x38,l39)=>⟨ofL [(0,.op 0 0),(1,.s (.int .i64 done2))],ofH [(0,.box 71 [.s (.int .i64 x29),.s (.str x30),.s (.int .i64 x31),.s (.sl 4 (Nd.encs x32)),.s (.int .i64 x33),.s (.str x34),.s (.int .i64 x35),.s (.sl 4 (Nd.encs x36)),.orow 2,.s (.int .i64 x38)]),(2,.row 31 5 ((List.map zAd) l39))],3⟩) (fun y=>zAY n done2 y.1 y.2.1 y.2.2.1 y.2.2.2.1 y.2.2.2.2.1 y.2.2.2.2.2.1 y.2.2.2.2.2.2.1 y.2.2.2.2.2.2.2.1 y.2.2.2.2.2.2.2.2.1 y.2.2.2.2.2.2.2.2.2.1 y.2.2.2.2.2.2.2.2.2.2=some fl) (fun y=>y.1) (n,x16,x17,x18,x19,x20,x21,x22,x23,x24,l25) hl ?_ ?_)
     ·exact(Le.rnm [(0,0),(2,2)] _ _ _ ⟨rfl,rfl,trivial⟩ ⟨rfl,⟨_,rfl,rfl⟩,rfl,⟨_,rfl,rfl⟩,trivial⟩)
     ·rintro⟨k,x29,x30,x31,x32,x33,x34,x35,x36,x38,l39⟩ h;cases k with
      | zero=>cases h
      | succ k =>
       replace h:zAY n done2 (k+1) x29 x30 x31 x32 x33 x34 x35 x36 x38 l39=some fl:=h;rw[zAY]at h;refine zAa ?_;refine zXL [] [] rfl ?_;show Tri ..;refine zAq rfl h (fun hb h=>?_) (fun hb h=>?_)
       ·refine zAn ?_;show Tri ..;refine zAw ?_;refine zXL [7] [] rfl ?_;obtain⟨⟨⟨y50Q,y50V⟩,y51,⟨⟨w52I,w52J,w52K,w52L⟩,⟨w52M,w52N,w52O,w52P⟩,w52H,w52G⟩⟩,hy50,h⟩:=zAc h;refine⟨_,_,⟨_,_,_,_,_,_,_,_,_,_,_,_,_,_,_,_,_,_,_,_,_,_,_,hy50,rfl,rfl,rfl,rfl⟩,?_⟩
        show Tri ..;refine zAs (Le.giveBox 4 [.sl 1 ((List.map (irow .i64)) y50Q),.sl 1 ((List.map (irow .i64)) y50V)] rfl rfl) ?_;refine zXL [] [] rfl ?_;show Tri ..;refine zAq rfl h (fun hb h=>?_) (fun hb h=>?_)
        ·refine zXL [] [] rfl ?_;show Tri ..;refine zAk ?_;cases h;replace h:some _=some _:=ho1;have hj0:=Option.some.inj h;obtain⟨hv0,hw0⟩:=Prod.mk.inj hj0;subst hv0;obtain⟨he1T,hr1T⟩:=Prod.mk.inj hw0;obtain⟨he1U,hr1U⟩:=Prod.mk.inj hr1T;obtain⟨he1Y,he1Z⟩:=Prod.mk.inj hr1U;obtain⟨he2T,he2U,he2Y,he2Z⟩:=Nd.mk.inj he1T;subst he2T;subst he2U;subst he2Y;subst he2Z;obtain⟨he3T,he3U,he3Y,he3Z⟩:=Nd.mk.inj he1U;subst he3T;subst he3U;subst he3Y;subst he3Z;subst he1Y;subst he1Z;unfold zB0
         exact⟨_,(Le.rnm [(0,0),(3,2)] [(4,.s (.int .i64 y51))] [(0,.box 71 [.s (.int .i64 w52I),.s (.str w52J),.s (.int .i64 w52K),.s (.sl 4 (Nd.encs w52L)),.s (.int .i64 w52M),.s (.str w52N),.s (.int .i64 w52O),.s (.sl 4 (Nd.encs w52P)),.orow 2,.s (.int .i64 w52G)]),(2,.row 31 5 ((List.map zAd) w52H))] 3 ⟨rfl,trivial⟩ ⟨rfl,⟨_,rfl,rfl⟩,rfl,⟨_,rfl,rfl⟩,trivial⟩),rfl,rfl,rfl,rfl,rfl,rfl,trivial⟩
        ·refine zAn ?_;refine⟨(k,w52I,w52J,w52K,w52L,w52M,w52N,w52O,w52P,w52G,w52H),h,(Le.rnm [(0,0),(3,2)] _ _ _ ⟨rfl,rfl,trivial⟩ ⟨rfl,⟨_,rfl,rfl⟩,rfl,⟨_,rfl,rfl⟩,trivial⟩),Nat.lt_succ_self k⟩
       ·refine zAP ?_;cases h;exact⟨_,rfl,(Le.rnm [(0,0),(2,2)] _ _ _ trivial ⟨rfl,⟨_,rfl,rfl⟩,rfl,⟨_,rfl,rfl⟩,trivial⟩)⟩
    ·subst hz;obtain⟨x40,x41,x42,x43,x44,x45,x46,x47,x48,l49⟩:=z;replace h:=ho1;show Tri ..;refine zAs hle ?_;refine zXL [] [] rfl ?_;show Tri ..;refine zAk ?_;have hj0:=Option.some.inj h;obtain⟨hv0,hw0⟩:=Prod.mk.inj hj0;subst hv0;obtain⟨he1T,hr1T⟩:=Prod.mk.inj hw0;obtain⟨he1U,hr1U⟩:=Prod.mk.inj hr1T;obtain⟨he1Y,he1Z⟩:=Prod.mk.inj hr1U;obtain⟨he2T,he2U,he2Y,he2Z⟩:=Nd.mk.inj he1T;subst he2T;subst he2U;subst he2Y;subst he2Z;obtain⟨he3T,he3U,he3Y,he3Z⟩:=Nd.mk.inj he1U;subst he3T;subst he3U;subst he3Y;subst he3Z;subst he1Y;subst he1Z;unfold zB0
     exact⟨_,(Le.rnm [(0,0),(2,2)] [(4,.s (.int .i64 0))] [(0,.box 71 [.s (.int .i64 x40),.s (.str x41),.s (.int .i64 x42),.s (.sl 4 (Nd.encs x43)),.s (.int .i64 x44),.s (.str x45),.s (.int .i64 x46),.s (.sl 4 (Nd.encs x47)),.orow 2,.s (.int .i64 x48)]),(2,.row 31 5 ((List.map zAd) l49))] 3 ⟨rfl,trivial⟩ ⟨rfl,⟨_,rfl,rfl⟩,rfl,⟨_,rfl,rfl⟩,trivial⟩),rfl,rfl,rfl,rfl,rfl,rfl,trivial⟩
def zS0 (n:Nat) (xs:List AV) (os:List Ob) (x:AV) (os':List (Option Ob)):Prop:=∃ (a0:Nd) (a1:List (Int×zRc×zCu×(Int×List Nd×Int×List UInt8×Bool)×Int)) (y0:Option (Nd×Nd×List zRc×Int)),zEK n a0 a1=some y0/\xs=[.agg ((Nd.enc a0).map .s),.s (.sl 14 ((List.map zAe) a1))]/\os=[]/\x=(match y0 with | none=>.s .np | some _=>.op 0 0)/\os'=(match y0 with | none=>[] | some ⟨⟨o_origin_kind,o_origin_text,o_origin_cols,o_origin_kids⟩,⟨o_tree_kind,o_tree_text,o_tree_cols,o_tree_kids⟩,o_records,o_done⟩=>[some (.box 71 [.s (.int .i64 o_origin_kind),.s (.str o_origin_text),.s (.int .i64 o_origin_cols),.s (.sl 4 (Nd.encs o_origin_kids)),.s (.int .i64 o_tree_kind),.s (.str o_tree_text),.s (.int .i64 o_tree_cols),.s (.sl 4 (Nd.encs o_tree_kids)),.orow 1,.s (.int .i64 o_done)]),some (.row 31 5 ((List.map zAd) o_records))])
def zNe:zAE:=zD8 (fun xs os x os'=>∃ n,zS0 n xs os x os')
theorem zRN:PSound Tryz.prog 9 zNe:=by
 have gok:∀ f s,look? f [(20,zG1),(10,zCg),(11,zKm),(12,zDS),(14,zBF),(16,zCf),(18,zEC)]=some s->PSound Tryz.prog f s:=zAC (by
  simp only[List.forall_mem_cons]
  exact⟨zIK,zC0,zOL,zFg,zBZ,zCZ,zHb,by simp⟩)
 refine PSound.withNil (zGT tokW Tryz.call9 Tryz.func9 rfl (fun xs os x os' h=>by obtain⟨n,_,_,_,_,rfl,rfl,_,rfl⟩:=h; exact⟨by show 2<=47; decide,Nat.zero_le _⟩) 47 rfl ?_) _;rintro xs os x os' w0 G0 B0 ⟨n,⟨n1A,n1C,n1D,n1B⟩,l2,y0,h,rfl,rfl,rfl,rfl⟩ _;rw[zEK]at h;refine zXL [] [] rfl ?_;show Tri ..;refine zXL [] [] rfl ?_;obtain⟨⟨y3,y4⟩,hy3,h⟩:=zAc h;cases y3 with
 | none =>
  obtain⟨hq,h⟩:=zAJ h;subst hq;refine⟨_,_,⟨_,_,_,_,hy3,rfl,rfl,rfl,rfl⟩,?_⟩
  show Tri ..;refine zAs (Le.rnm [] [(1,.s (.sl 14 ((List.map zAe) l2))),(5,.s (.np)),(6,.s (.int .i64 1))] [] 0 ⟨rfl,rfl,rfl,trivial⟩ trivial) ?_;refine zAa ?_;refine zXL [] [] rfl ?_;show Tri ..;refine zAN rfl (fun _=>?_) (fun h=>by cases h)
  refine zXL [] [] rfl ?_;show Tri ..;refine zAk ?_;have hy:=Option.some.inj h;subst hy;unfold zB0;exact⟨_,(Le.rnm [] [(4,.s (.np))] [] 0 ⟨rfl,trivial⟩ trivial),rfl,rfl,trivial⟩
 | some w5 =>
  obtain⟨⟨w5I,w5J,w5K,w5L⟩,⟨w5M,w5N,w5O,w5P⟩,w5H,w5G⟩:=w5;obtain⟨hq,h⟩:=zAJ h;subst hq;refine⟨_,_,⟨_,_,_,_,hy3,rfl,rfl,rfl,rfl⟩,?_⟩
  show Tri ..;refine zAs (Le.rnm [(0,0),(1,1)] [(1,.s (.sl 14 ((List.map zAe) l2))),(5,.op 0 0),(6,.s (.int .i64 0))] [(0,.box 71 [.s (.int .i64 w5I),.s (.str w5J),.s (.int .i64 w5K),.s (.sl 4 (Nd.encs w5L)),.s (.int .i64 w5M),.s (.str w5N),.s (.int .i64 w5O),.s (.sl 4 (Nd.encs w5P)),.orow 1,.s (.int .i64 w5G)]),(1,.row 31 5 ((List.map zAd) w5H))] 2 ⟨rfl,rfl,rfl,trivial⟩ ⟨rfl,⟨_,rfl,rfl⟩,rfl,⟨_,rfl,rfl⟩,trivial⟩) ?_;refine zAa ?_;refine zXL [] [] rfl ?_;show Tri ..
  refine zAN rfl (fun h=>by cases h) (fun _=>?_)
  refine zAn ?_;show Tri ..;refine zAa ?_;refine zXL [] [17] rfl ?_;intro n6 hn6;obtain rfl:(l2.length:Int)=n6:=(hn6.trans (congrArg (fun m:Nat=>(m:Int)) (rlen (fun _=>rfl) l2))).symm;show Tri ..;obtain⟨⟨x19,x20,x21,x22,x23,x24,x25,x26,x27,l28⟩,hl,h⟩:=zAc h;refine zAz ⟨ofL [(5,.op 0 0)],ofH [(0,.box 71 [.s (.int .i64 x19),.s (.str x20),.s (.int .i64 x21),.s (.sl 4 (Nd.encs x22)),.s (.int .i64 x23),.s (.str x24),.s (.int .i64 x25),.s (.sl 4 (Nd.encs x26)),.orow 1,.s (.int .i64 x27)]),(1,.row 31 5 ((List.map zAd) l28))],2⟩ ?_ (fun σ' hle=>?_)
  ·refine zAw (zAL (X:=Nat×Int×(List UInt8)×Int×(List Nd)×Int×(List UInt8)×Int×(List Nd)×Int×Int×(List zRc)) (fun y=>match y with | (k,x7,x8,x9,x10,x11,x12,x13,x14,x16,x17,l18)=>⟨ofL [(5,.op 0 0),(16,.s (.sl 14 ((List.map zAe) l2))),(17,.s (.int .i64 (l2.length:Int))),(18,.s (.int .i64 x17))],ofH [(0,.box 71 [.s (.int .i64 x7),.s (.str x8),.s (.int .i64 x9),.s (.sl 4 (Nd.encs x10)),.s (.int .i64 x11),.s (.str x12),.s (.int .i64 x13),.s (.sl 4 (Nd.encs x14)),.orow 1,.s (.int .i64 x16)]),(1,.row 31 5 ((List.map zAd) l18))],2⟩) (fun y=>zCS n l2 y.1 y.2.1 y.2.2.1 y.2.2.2.1 y.2.2.2.2.1 y.2.2.2.2.2.1 y.2.2.2.2.2.2.1 y.2.2.2.2.2.2.2.1 y.2.2.2.2.2.2.2.2.1 y.2.2.2.2.2.2.2.2.2.1 y.2.2.2.2.2.2.2.2.2.2.1 y.2.2.2.2.2.2.2.2.2.2.2=some (x19,x20,x21,x22,x23,x24,x25,x26,x27,l28)) (fun y=>y.1) (n,w5I,w5J,w5K,w5L,w5M,w5N,w5O,w5P,w5G,0,w5H) hl ?_ ?_)
   ·exact(Le.rnm [(0,0),(1,1)] _ _ _ ⟨rfl,rfl,rfl,rfl,trivial⟩ ⟨rfl,⟨_,rfl,rfl⟩,rfl,⟨_,rfl,rfl⟩,trivial⟩)
   ·rintro⟨k,x7,x8,x9,x10,x11,x12,x13,x14,x16,x17,l18⟩ h;cases k with
    | zero=>cases h
    | succ k =>
     replace h:zCS n l2 (k+1) x7 x8 x9 x10 x11 x12 x13 x14 x16 x17 l18=some (x19,x20,x21,x22,x23,x24,x25,x26,x27,l28):=h;rw[zCS]at h;refine zXL [] [] rfl ?_;show Tri ..;refine zAa ?_;refine zAq rfl h (fun hb h=>?_) (fun hb h=>?_)
     ·refine zAn ?_;show Tri ..;refine zAa ?_;obtain⟨⟨x29,x30,x31,x32,x33,x34,x35,x36,x37,l38⟩,hj,h⟩:=zAc h;refine zAz ⟨ofL [(5,.op 0 0),(16,.s (.sl 14 ((List.map zAe) l2))),(17,.s (.int .i64 (l2.length:Int))),(18,.s (.int .i64 x17))],ofH [(0,.box 71 [.s (.int .i64 x29),.s (.str x30),.s (.int .i64 x31),.s (.sl 4 (Nd.encs x32)),.s (.int .i64 x33),.s (.str x34),.s (.int .i64 x35),.s (.sl 4 (Nd.encs x36)),.orow 1,.s (.int .i64 x37)]),(1,.row 31 5 ((List.map zAd) l38))],2⟩ ?_ (fun σ' hle=>?_)
      ·replace h:=hj;refine zAw ?_;refine zXL [8] [20] rfl ?_;obtain⟨⟨e39A,⟨e39At,⟨e39Bd,e39Be⟩,⟨e39Bf,e39Bg⟩⟩,⟨e39Aw,e39Ax⟩,⟨e39Ay,e39Az,e39Ba,e39Bb,e39Bc⟩,e39S⟩,he39,h⟩:=zAc h;refine And.intro (zAD (fun _=>rfl) he39).1 ?_;intro r40 hr40
       obtain rfl:[.int .i64 e39A,.sl 8 ((List.map zAl) e39At),.sl 1 ((List.map (irow .i64)) e39Bd),.sl 1 ((List.map (irow .i64)) e39Be),.sl 1 ((List.map (irow .i64)) e39Bf),.sl 1 ((List.map (irow .i64)) e39Bg),.sl 1 ((List.map (irow .i64)) e39Aw),.sl 1 ((List.map (irow .i64)) e39Ax),.int .i64 e39Ay,.sl 4 (Nd.encs e39Az),.int .i64 e39Ba,.str e39Bb,.bool e39Bc,.int .i64 e39S]=r40:=(hr40.trans (zAD (fun _=>rfl) he39).2.1).symm;show Tri ..
       refine zAs (Le.giveBox 2 [.int .i64 e39A,.sl 8 ((List.map zAl) e39At),.sl 1 ((List.map (irow .i64)) e39Bd),.sl 1 ((List.map (irow .i64)) e39Be),.sl 1 ((List.map (irow .i64)) e39Bf),.sl 1 ((List.map (irow .i64)) e39Bg),.sl 1 ((List.map (irow .i64)) e39Aw),.sl 1 ((List.map (irow .i64)) e39Ax),.int .i64 e39Ay,.sl 4 (Nd.encs e39Az),.int .i64 e39Ba,.str e39Bb,.bool e39Bc,.int .i64 e39S] rfl rfl) ?_;refine zXL [] [] rfl ?_;show Tri ..;refine zAw ?_;refine zAa ?_
       refine zXL [] [] rfl ?_;show Tri ..;obtain⟨x41,hj,h⟩:=zAc h
       refine zAz ⟨ofL [(5,.op 0 0),(8,.s (.pt [.int .i64 e39A,.sl 8 ((List.map zAl) e39At),.sl 1 ((List.map (irow .i64)) e39Bd),.sl 1 ((List.map (irow .i64)) e39Be),.sl 1 ((List.map (irow .i64)) e39Bf),.sl 1 ((List.map (irow .i64)) e39Bg),.sl 1 ((List.map (irow .i64)) e39Aw),.sl 1 ((List.map (irow .i64)) e39Ax),.int .i64 e39Ay,.sl 4 (Nd.encs e39Az),.int .i64 e39Ba,.str e39Bb,.bool e39Bc,.int .i64 e39S])),(16,.s (.sl 14 ((List.map zAe) l2))),(17,.s (.int .i64 (l2.length:Int))),(18,.s (.int .i64 x17)),(23,.s (.int .i64 e39A)),(28,.s (.bool x41))],ofH [(0,.box 71 [.s (.int .i64 x7),.s (.str x8),.s (.int .i64 x9),.s (.sl 4 (Nd.encs x10)),.s (.int .i64 x11),.s (.str x12),.s (.int .i64 x13),.s (.sl 4 (Nd.encs x14)),.orow 1,.s (.int .i64 x16)]),(1,.row 31 5 ((List.map zAd) l18))],2⟩ ?_ (fun σ' hle=>?_)
       ·replace h:=hj;refine zAq rfl h (fun hb h=>?_) (fun hb h=>?_)
        ·refine zAn ?_;cases h;exact(Le.rnm [(0,0),(1,1)] _ _ _ ⟨rfl,rfl,rfl,rfl,rfl,rfl,rfl,trivial⟩ ⟨rfl,⟨_,rfl,rfl⟩,rfl,⟨_,rfl,rfl⟩,trivial⟩)
        ·refine zAb [] [] rfl ?_;cases h;exact(Le.rnm [(0,0),(1,1)] _ _ _ ⟨rfl,rfl,rfl,rfl,rfl,rfl,rfl,trivial⟩ ⟨rfl,⟨_,rfl,rfl⟩,rfl,⟨_,rfl,rfl⟩,trivial⟩)
       ·show Tri ..;refine zAs hle ?_;refine zAq rfl h (fun hb h=>?_) (fun hb h=>?_)
        ·refine zAO [] [] [2,5] rfl (by decide +kernel) ?_;obtain⟨⟨⟨y42A,y42C,y42D,y42B⟩,⟨⟨w43I,w43J,w43K,w43L⟩,⟨w43M,w43N,w43O,w43P⟩,w43H,w43G⟩⟩,hy42,h⟩:=zAc h;refine⟨_,_,⟨_,_,_,_,_,_,_,_,_,_,_,_,_,_,_,_,_,_,_,_,_,hy42,rfl,rfl,rfl,rfl⟩,?_⟩
         obtain⟨⟨y44Aa,⟨y44Ac,y44Ad⟩,⟨y44Ae,y44Af⟩⟩,hy44,h⟩:=zAc h;refine⟨_,⟨_,_,_,_,hy44,rfl,rfl⟩,?_⟩
         obtain⟨⟨y45,⟨⟨w46I,w46J,w46K,w46L⟩,⟨w46M,w46N,w46O,w46P⟩,w46H,w46G⟩⟩,hy45,h⟩:=zAc h;refine⟨_,_,⟨_,_,_,_,_,_,_,_,_,_,_,_,_,_,_,_,_,_,_,_,_,_,_,hy45,rfl,rfl,rfl,rfl⟩,?_⟩
         cases h;exact(Le.rnm [(0,0),(3,1)] _ _ _ ⟨rfl,rfl,rfl,rfl,trivial⟩ ⟨rfl,⟨_,rfl,rfl⟩,rfl,⟨_,rfl,rfl⟩,trivial⟩)
        ·refine zXL [] [] rfl ?_;show Tri ..;refine zAq rfl h (fun hb h=>?_) (fun hb h=>?_)
         ·refine zAb [] [] rfl ?_;obtain⟨⟨⟨y47Q,y47V⟩,y48,⟨⟨w49I,w49J,w49K,w49L⟩,⟨w49M,w49N,w49O,w49P⟩,w49H,w49G⟩⟩,hy47,h⟩:=zAc h;refine⟨_,_,⟨_,_,_,_,_,_,_,_,_,_,_,_,_,_,_,_,_,_,_,_,_,_,_,hy47,rfl,rfl,rfl,rfl⟩,?_⟩
          cases h;exact(Le.rnm [(0,0),(2,1)] _ _ _ ⟨rfl,rfl,rfl,rfl,trivial⟩ ⟨rfl,⟨_,rfl,rfl⟩,rfl,⟨_,rfl,rfl⟩,trivial⟩)
         ·refine zXL [] [] rfl ?_;show Tri ..;refine zAq rfl h (fun hb h=>?_) (fun hb h=>?_)
          ·refine zAb [] [] rfl ?_;obtain⟨⟨⟨y50Q,y50V⟩,y51,⟨⟨w52I,w52J,w52K,w52L⟩,⟨w52M,w52N,w52O,w52P⟩,w52H,w52G⟩⟩,hy50,h⟩:=zAc h;refine⟨_,_,⟨_,_,_,_,_,_,_,_,_,_,_,_,_,_,_,_,_,_,_,_,_,_,_,hy50,rfl,rfl,rfl,rfl⟩,?_⟩
           cases h;exact(Le.rnm [(0,0),(2,1)] _ _ _ ⟨rfl,rfl,rfl,rfl,trivial⟩ ⟨rfl,⟨_,rfl,rfl⟩,rfl,⟨_,rfl,rfl⟩,trivial⟩)
          ·refine zAb [] [] rfl ?_;obtain⟨⟨y53,⟨⟨w54I,w54J,w54K,w54L⟩,⟨w54M,w54N,w54O,w54P⟩,w54H,w54G⟩⟩,hy53,h⟩:=zAc h;refine⟨_,_,⟨_,_,_,_,_,_,_,_,_,_,_,_,_,_,_,_,_,_,_,_,_,_,_,hy53,rfl,rfl,rfl,rfl⟩,?_⟩
           cases h;exact(Le.rnm [(0,0),(2,1)] _ _ _ ⟨rfl,rfl,rfl,rfl,trivial⟩ ⟨rfl,⟨_,rfl,rfl⟩,rfl,⟨_,rfl,rfl⟩,trivial⟩)
      ·show Tri ..;refine zAs hle ?_;refine zAb [] [] rfl ?_;refine⟨(k,x29,x30,x31,x32,x33,x34,x35,x36,x37,IntKind.i64.wrap (x17+1),l38),h,(Le.rnm [(0,0),(1,1)] _ _ _ ⟨rfl,rfl,rfl,rfl,trivial⟩ ⟨rfl,⟨_,rfl,rfl⟩,rfl,⟨_,rfl,rfl⟩,trivial⟩),Nat.lt_succ_self k⟩
     ·refine zAP ?_;cases h;exact(Le.rnm [(0,0),(1,1)] _ _ _ ⟨rfl,trivial⟩ ⟨rfl,⟨_,rfl,rfl⟩,rfl,⟨_,rfl,rfl⟩,trivial⟩)
  ·show Tri ..;refine zAs hle ?_;refine zXL [] [] rfl ?_;show Tri ..;refine zAk ?_;have hy:=Option.some.inj h;subst hy;unfold zB0;exact⟨_,(Le.rnm [(0,0),(1,1)] [(4,.op 0 0)] [(0,.box 71 [.s (.int .i64 x19),.s (.str x20),.s (.int .i64 x21),.s (.sl 4 (Nd.encs x22)),.s (.int .i64 x23),.s (.str x24),.s (.int .i64 x25),.s (.sl 4 (Nd.encs x26)),.orow 1,.s (.int .i64 x27)]),(1,.row 31 5 ((List.map zAd) l28))] 2 ⟨rfl,trivial⟩ ⟨rfl,⟨_,rfl,rfl⟩,rfl,⟨_,rfl,rfl⟩,trivial⟩),rfl,rfl,rfl,rfl,rfl,rfl,trivial⟩
def zHj (xs:List AV) (os:List Ob) (x:AV) (os':List (Option Ob)):Prop:=∃ (a0I:Int) (a0J:List UInt8) (a0K:Int) (a0L:List Nd) (a0M:Int) (a0N:List UInt8) (a0O:Int) (a0P:List Nd) (a0H:List zRc) (a0G:Int) (y0:Int) (z0I:Int) (z0J:List UInt8) (z0K:Int) (z0L:List Nd) (z0M:Int) (z0N:List UInt8) (z0O:Int) (z0P:List Nd) (z0H:List zRc) (z0G:Int),zBp (Nd.mk a0I a0J a0K a0L,Nd.mk a0M a0N a0O a0P,a0H,a0G)=some (y0,(Nd.mk z0I z0J z0K z0L,Nd.mk z0M z0N z0O z0P,z0H,z0G))/\xs=[.op 0 0]/\os=[.box 71 [.s (.int .i64 a0I),.s (.str a0J),.s (.int .i64 a0K),.s (.sl 4 (Nd.encs a0L)),.s (.int .i64 a0M),.s (.str a0N),.s (.int .i64 a0O),.s (.sl 4 (Nd.encs a0P)),.orow 1,.s (.int .i64 a0G)],.row 31 5 ((List.map zAd) a0H)]/\x = .s (.int .i64 y0)/\os'=[some (.box 71 [.s (.int .i64 z0I),.s (.str z0J),.s (.int .i64 z0K),.s (.sl 4 (Nd.encs z0L)),.s (.int .i64 z0M),.s (.str z0N),.s (.int .i64 z0O),.s (.sl 4 (Nd.encs z0P)),.orow 2,.s (.int .i64 z0G)]),none,some (.row 31 5 ((List.map zAd) z0H))]
def zEB:zAE:=zD8 (fun xs os x os'=>zHj xs os x os')
theorem zHa:PSound Tryz.prog 19 zEB:=by
 have gok:=@gok0 Tryz.prog;refine PSound.withNil (zGT tokW Tryz.call19 Tryz.func19 rfl (fun xs os x os' h=>by obtain⟨_,_,_,_,_,_,_,_,_,_,_,_,_,_,_,_,_,_,_,_,_,_,rfl,rfl,_,rfl⟩:=h; exact⟨by show 1<=9; decide,by show 2<=3; decide⟩) 9 rfl ?_) _;rintro xs os x os' w0 G0 B0 ⟨o1I,o1J,o1K,o1L,o1M,o1N,o1O,o1P,o1H,o1G,y0,z0I,z0J,z0K,z0L,z0M,z0N,z0O,z0P,z0H,z0G,h,rfl,rfl,rfl,rfl⟩ _;rw[zBp]at h;refine zXL [] [] rfl ?_
 show Tri ..;refine zAa ?_;refine zXL [] [] rfl ?_;show Tri ..;refine zAN rfl (fun h=>by cases h) (fun _=>?_)
 refine zAn ?_;show Tri ..;refine zXL [] [] rfl ?_;show Tri ..;refine zAk ?_;have hj0:=Option.some.inj h;obtain⟨hv0,hw0⟩:=Prod.mk.inj hj0;subst hv0;obtain⟨he1T,hr1T⟩:=Prod.mk.inj hw0;obtain⟨he1U,hr1U⟩:=Prod.mk.inj hr1T;obtain⟨he1Y,he1Z⟩:=Prod.mk.inj hr1U;obtain⟨he2T,he2U,he2Y,he2Z⟩:=Nd.mk.inj he1T;subst he2T;subst he2U;subst he2Y;subst he2Z;obtain⟨he3T,he3U,he3Y,he3Z⟩:=Nd.mk.inj he1U;subst he3T;subst he3U;subst he3Y;subst he3Z;subst he1Y;subst he1Z;unfold zB0
 exact⟨_,(Le.rnm [(0,0),(1,2)] [(2,.s (.int .i64 o1G))] [(0,.box 71 [.s (.int .i64 o1I),.s (.str o1J),.s (.int .i64 o1K),.s (.sl 4 (Nd.encs o1L)),.s (.int .i64 o1M),.s (.str o1N),.s (.int .i64 o1O),.s (.sl 4 (Nd.encs o1P)),.orow 2,.s (.int .i64 o1G)]),(2,.row 31 5 ((List.map zAd) o1H))] 3 ⟨rfl,trivial⟩ ⟨rfl,⟨_,rfl,rfl⟩,rfl,⟨_,rfl,rfl⟩,trivial⟩),rfl,rfl,rfl,rfl,rfl,rfl,trivial⟩
def zCx:(Nd×List zRc×Int)->List S
| ⟨⟨p_origin_kind,p_origin_text,p_origin_cols,p_origin_kids⟩,p_records,p_done⟩=>[.int .i64 p_origin_kind,.str p_origin_text,.int .i64 p_origin_cols,.sl 4 (Nd.encs p_origin_kids),.sl 5 ((List.map zAd) p_records),.int .i64 p_done]
def zGD (xs:List AV) (os:List Ob) (x:AV) (os':List (Option Ob)):Prop:=∃ (a0I:Int) (a0J:List UInt8) (a0K:Int) (a0L:List Nd) (a0M:Int) (a0N:List UInt8) (a0O:Int) (a0P:List Nd) (a0H:List zRc) (a0G:Int) (y0:Nd) (z0I:Int) (z0J:List UInt8) (z0K:Int) (z0L:List Nd) (z0M:Int) (z0N:List UInt8) (z0O:Int) (z0P:List Nd) (z0H:List zRc) (z0G:Int),zBx (Nd.mk a0I a0J a0K a0L,Nd.mk a0M a0N a0O a0P,a0H,a0G)=some (y0,(Nd.mk z0I z0J z0K z0L,Nd.mk z0M z0N z0O z0P,z0H,z0G))/\xs=[.op 0 0]/\os=[.box 71 [.s (.int .i64 a0I),.s (.str a0J),.s (.int .i64 a0K),.s (.sl 4 (Nd.encs a0L)),.s (.int .i64 a0M),.s (.str a0N),.s (.int .i64 a0O),.s (.sl 4 (Nd.encs a0P)),.orow 1,.s (.int .i64 a0G)],.row 31 5 ((List.map zAd) a0H)]/\x = .agg ((Nd.enc y0).map .s)/\os'=[some (.box 71 [.s (.int .i64 z0I),.s (.str z0J),.s (.int .i64 z0K),.s (.sl 4 (Nd.encs z0L)),.s (.int .i64 z0M),.s (.str z0N),.s (.int .i64 z0O),.s (.sl 4 (Nd.encs z0P)),.orow 2,.s (.int .i64 z0G)]),none,some (.row 31 5 ((List.map zAd) z0H))]
def zEb:zAE:=zD8 (fun xs os x os'=>zGD xs os x os')
theorem zGz:PSound Tryz.prog 24 zEb:=by
 have gok:∀ f s,look? f [(29,zDe)]=some s->PSound Tryz.prog f s:=zAC (by
  simp only[List.forall_mem_cons]
  exact⟨zDv,by simp⟩)
 refine PSound.withNil (zGT tokW Tryz.call24 Tryz.func24 rfl (fun xs os x os' h=>by obtain⟨_,_,_,_,_,_,_,_,_,_,_,_,_,_,_,_,_,_,_,_,_,_,rfl,rfl,_,rfl⟩:=h; exact⟨by show 1<=11; decide,by show 2<=3; decide⟩) 11 rfl ?_) _;rintro xs os x os' w0 G0 B0 ⟨o1I,o1J,o1K,o1L,o1M,o1N,o1O,o1P,o1H,o1G,y0,z0I,z0J,z0K,z0L,z0M,z0N,z0O,z0P,z0H,z0G,h,rfl,rfl,rfl,rfl⟩ _;rw[zBx]at h;refine zXL [2] [] rfl ?_;show Tri ..
 refine zAa ?_;refine zXL [] [] rfl ?_;show Tri ..;refine zAN rfl (fun h=>by cases h) (fun _=>?_)
 refine zAn ?_;show Tri ..;refine zXL [] [] rfl ?_;obtain⟨⟨y2A,y2C,y2D,y2B⟩,hy2,h⟩:=zAc h;refine⟨_,⟨_,_,hy2,rfl,rfl⟩,?_⟩
 show Tri ..;refine zAk ?_;have hj0:=Option.some.inj h;obtain⟨hv0,hw0⟩:=Prod.mk.inj hj0;subst hv0;obtain⟨he1T,hr1T⟩:=Prod.mk.inj hw0;obtain⟨he1U,hr1U⟩:=Prod.mk.inj hr1T;obtain⟨he1Y,he1Z⟩:=Prod.mk.inj hr1U;obtain⟨he2T,he2U,he2Y,he2Z⟩:=Nd.mk.inj he1T;subst he2T;subst he2U;subst he2Y;subst he2Z;obtain⟨he3T,he3U,he3Y,he3Z⟩:=Nd.mk.inj he1U;subst he3T;subst he3U;subst he3Y;subst he3Z;subst he1Y;subst he1Z;unfold zB0
 exact⟨_,(Le.rnm [(0,0),(1,2),(2,3)] [(2,.op 3 0)] [(0,.box 71 [.s (.int .i64 o1I),.s (.str o1J),.s (.int .i64 o1K),.s (.sl 4 (Nd.encs o1L)),.s (.int .i64 o1M),.s (.str o1N),.s (.int .i64 o1O),.s (.sl 4 (Nd.encs o1P)),.orow 2,.s (.int .i64 o1G)]),(2,.row 31 5 ((List.map zAd) o1H)),(3,.box 24 [.s (.int .i64 y2A),.s (.str y2C),.s (.int .i64 y2D),.s (.sl 4 (Nd.encs y2B))])] 4 ⟨rfl,trivial⟩ ⟨rfl,⟨_,rfl,rfl⟩,rfl,⟨_,rfl,rfl⟩,rfl,⟨_,rfl,rfl⟩,trivial⟩),rfl,rfl,rfl,rfl,rfl,rfl,trivial⟩
def zK3 (n:Nat) (xs:List AV) (r:Ret):Prop:=∃ (a0:Nd) (a1:List (Int×zRc×zCu×(Int×List Nd×Int×List UInt8×Bool)×Int)) (y0:Bool),zCl n a0 a1=some y0/\xs=[.agg ((Nd.enc a0).map .s),.s (.sl 14 ((List.map zAe) a1))]/\r = .val (.s (.bool y0))
def zK5:zAE:=zAF fun xs r=>∃ n,zK3 n xs r
theorem zJ9:PSound Tryz.prog 6 zK5:=by
 have gok:∀ f s,look? f [(7,zLw),(8,zPN),(9,zNe),(19,zEB),(10,zCg),(14,zBF),(13,zIV),(24,zEb),(25,zCw),(16,zCf)]=some s->PSound Tryz.prog f s:=zAC (by
  simp only[List.forall_mem_cons]
  exact⟨zQz,zTy,zRN,zHa,zC0,zBZ,zKN,zGz,zCt,zCZ,by simp⟩)
 refine zAG tokW Tryz.call6 Tryz.func6 rfl (fun xs r h=>by obtain⟨n,_,_,_,_,rfl,_⟩:=h; show 2<=100; decide) 100 rfl ?_;rintro xs r w0 G0 ⟨n,⟨a1A,a1C,a1D,a1B⟩,a2,y0,h,rfl,rfl⟩ _;rw[zCl]at h;refine zXL [] [] rfl ?_;show Tri ..;refine zAa ?_;refine zAa ?_;obtain⟨x3,hj,h⟩:=zAc h;refine zAz ⟨ofL [(1,.s (.sl 14 ((List.map zAe) a2))),(2,.s (.pt [.int .i64 a1A,.str a1C,.int .i64 a1D,.sl 4 (Nd.encs a1B)])),(20,.s (.bool x3))],fun _=>none,0⟩ ?_ (fun σ' hle=>?_)
 ·replace h:=hj;refine zAb [] [15] rfl ?_;obtain⟨y4,hy4,h⟩:=zAc h;refine⟨_,⟨_,_,hy4,rfl,rfl⟩,?_⟩
  intro b hb;cases b with
  | true =>
   replace h:=zAI hb.symm h;cases h;exact(Le.forget _ ⟨rfl,rfl,rfl,trivial⟩)
  | false =>
   replace h:=zAH hb.symm h;obtain⟨y5,hy5,h⟩:=zAc h;refine⟨_,⟨_,_,_,_,hy5,rfl,rfl⟩,?_⟩
   cases h;exact(Le.forget _ ⟨rfl,rfl,rfl,trivial⟩)
 ·show Tri ..;refine zAs hle ?_;refine zAq rfl h (fun hb h=>?_) (fun hb h=>?_)
  ·refine zXL [] [] rfl ?_;obtain⟨y6,hy6,h⟩:=zAc h;refine⟨_,⟨_,_,hy6,rfl,rfl⟩,?_⟩
   show Tri ..;refine zAk ?_;have hy:=Option.some.inj h;subst hy;unfold zAA;exact⟨_,Le.refl _ _,rfl,rfl⟩
  ·refine zAn ?_;show Tri ..;refine zXL [] [] rfl ?_;obtain⟨y7,hy7,h⟩:=zAc h;cases y7 with
   | none =>
    refine⟨_,_,⟨_,_,_,_,hy7,rfl,rfl,rfl,rfl⟩,?_⟩
    show Tri ..;refine zAs (Le.rnm [] [(2,.s (.pt [.int .i64 a1A,.str a1C,.int .i64 a1D,.sl 4 (Nd.encs a1B)])),(5,.s (.np))] [] 0 ⟨rfl,rfl,trivial⟩ trivial) ?_;refine zAa ?_;refine zXL [] [] rfl ?_;show Tri ..;refine zAN rfl (fun _=>?_) (fun h=>by cases h)
    refine zXL [] [] rfl ?_;show Tri ..;refine zAk ?_;have hy:=Option.some.inj h;subst hy;unfold zAA;exact⟨_,Le.refl _ _,rfl,rfl⟩
   | some w8 =>
    obtain⟨⟨w8I,w8J,w8K,w8L⟩,⟨w8M,w8N,w8O,w8P⟩,w8H,w8G⟩:=w8;refine⟨_,_,⟨_,_,_,_,hy7,rfl,rfl,rfl,rfl⟩,?_⟩
    show Tri ..;refine zAs (Le.rnm [(0,0),(1,1)] [(2,.s (.pt [.int .i64 a1A,.str a1C,.int .i64 a1D,.sl 4 (Nd.encs a1B)])),(5,.op 0 0)] [(0,.box 71 [.s (.int .i64 w8I),.s (.str w8J),.s (.int .i64 w8K),.s (.sl 4 (Nd.encs w8L)),.s (.int .i64 w8M),.s (.str w8N),.s (.int .i64 w8O),.s (.sl 4 (Nd.encs w8P)),.orow 1,.s (.int .i64 w8G)]),(1,.row 31 5 ((List.map zAd) w8H))] 2 ⟨rfl,rfl,trivial⟩ ⟨rfl,⟨_,rfl,rfl⟩,rfl,⟨_,rfl,rfl⟩,trivial⟩) ?_;refine zAa ?_;refine zXL [] [] rfl ?_;show Tri ..
    refine zAN rfl (fun h=>by cases h) (fun _=>?_)
    refine zAn ?_;show Tri ..;refine zXL [] [] rfl ?_;obtain⟨⟨y9,⟨⟨w10I,w10J,w10K,w10L⟩,⟨w10M,w10N,w10O,w10P⟩,w10H,w10G⟩⟩,hy9,h⟩:=zAc h;refine⟨_,_,⟨_,_,_,_,_,_,_,_,_,_,_,_,_,_,_,_,_,_,_,_,_,hy9,rfl,rfl,rfl,rfl⟩,?_⟩
    show Tri ..;refine zAs (Le.rnm [(0,0),(2,1)] [(2,.s (.pt [.int .i64 a1A,.str a1C,.int .i64 a1D,.sl 4 (Nd.encs a1B)])),(5,.op 0 0),(6,.s (.int .i64 y9))] [(0,.box 71 [.s (.int .i64 w10I),.s (.str w10J),.s (.int .i64 w10K),.s (.sl 4 (Nd.encs w10L)),.s (.int .i64 w10M),.s (.str w10N),.s (.int .i64 w10O),.s (.sl 4 (Nd.encs w10P)),.orow 1,.s (.int .i64 w10G)]),(1,.row 31 5 ((List.map zAd) w10H))] 2 ⟨rfl,rfl,rfl,trivial⟩ ⟨rfl,⟨_,rfl,rfl⟩,rfl,⟨_,rfl,rfl⟩,trivial⟩) ?_;refine zXL [31] [] rfl ?_
    obtain⟨⟨⟨y11A,y11C,y11D,y11B⟩,⟨⟨w12I,w12J,w12K,w12L⟩,⟨w12M,w12N,w12O,w12P⟩,w12H,w12G⟩⟩,hy11,h⟩:=zAc h;refine⟨_,_,⟨_,_,_,_,_,_,_,_,_,_,_,_,_,_,_,_,_,_,_,_,_,hy11,rfl,rfl,rfl,rfl⟩,?_⟩
    show Tri ..
    refine zAs (Le.rnm [(0,0),(2,1),(3,2)] [(2,.s (.pt [.int .i64 a1A,.str a1C,.int .i64 a1D,.sl 4 (Nd.encs a1B)])),(5,.op 0 0),(6,.s (.int .i64 y9)),(7,.orow 2)] [(0,.box 71 [.s (.int .i64 w12I),.s (.str w12J),.s (.int .i64 w12K),.s (.sl 4 (Nd.encs w12L)),.s (.int .i64 w12M),.s (.str w12N),.s (.int .i64 w12O),.s (.sl 4 (Nd.encs w12P)),.orow 1,.s (.int .i64 w12G)]),(1,.row 31 5 ((List.map zAd) w12H)),(2,.row 24 4 (Nd.encs [Nd.mk y11A y11C y11D y11B]))] 3 ⟨rfl,rfl,rfl,rfl,trivial⟩ ⟨rfl,⟨_,rfl,rfl⟩,rfl,⟨_,rfl,rfl⟩,rfl,⟨_,rfl,congrArg (Ob.row 24 4) (by simp[List.map_append,List.map_take,List.map_drop,irow,brow,zAB,List.map_cons,List.map_nil,zAy,Nd.encs_eq,Nd.enc,zAi,zAh,zAv,zAo,zAj,zAl,zAd,zAg,zAp,zAf,zAe,zAx,zAt,zAm,zCx])⟩,trivial⟩) ?_
    refine zAa ?_;obtain⟨fl,hl,ho1⟩:=zAc h;refine zBH (fl:=fl) (fun z=>match z with | ⟨x26,x27,x28,x29,x30,x31,x32,x33,x34,l35,l36⟩=>⟨ofL [(2,.s (.pt [.int .i64 a1A,.str a1C,.int .i64 a1D,.sl 4 (Nd.encs a1B)])),(5,.op 0 0),(6,.s (.int .i64 y9)),(7,.orow 2)],ofH [(0,.box 71 [.s (.int .i64 x26),.s (.str x27),.s (.int .i64 x28),.s (.sl 4 (Nd.encs x29)),.s (.int .i64 x30),.s (.str x31),.s (.int .i64 x32),.s (.sl 4 (Nd.encs x33)),.orow 1,.s (.int .i64 x34)]),(1,.row 31 5 ((List.map zAd) l35)),(2,.row 24 4 (Nd.encs l36))],3⟩) ?_ (fun z σ' hz hle=>?_)
    ·refine zAw (zAL (X:=Nat×Int×(List UInt8)×Int×(List Nd)×Int×(List UInt8)×Int×(List Nd)×Int×(List zRc)×(List Nd)) (fun y=>match y with | (k,x13,x14,x15,x16,x17,x18,x19,x20,x22,l24,l25)=>⟨ofL [(2,.s (.pt [.int .i64 a1A,.str a1C,.int .i64 a1D,.sl 4 (Nd.encs a1B)])),(5,.op 0 0),(6,.s (.int .i64 y9)),(7,.orow 2)],ofH [(0,.box 71 [.s (.int .i64 x13),.s (.str x14),.s (.int .i64 x15),.s (.sl 4 (Nd.encs x16)),.s (.int .i64 x17),.s (.str x18),.s (.int .i64 x19),.s (.sl 4 (Nd.encs x20)),.orow 1,.s (.int .i64 x22)]),(1,.row 31 5 ((List.map zAd) l24)),(2,.row 24 4 (Nd.encs l25))],3⟩) (fun y=>zBu n y.1 y.2.1 y.2.2.1 y.2.2.2.1 y.2.2.2.2.1 y.2.2.2.2.2.1 y.2.2.2.2.2.2.1 y.2.2.2.2.2.2.2.1 y.2.2.2.2.2.2.2.2.1 y.2.2.2.2.2.2.2.2.2.1 y.2.2.2.2.2.2.2.2.2.2.1 y.2.2.2.2.2.2.2.2.2.2.2=some fl) (fun y=>y.1) (n,w12I,w12J,w12K,w12L,w12M,w12N,w12O,w12P,w12G,w12H,[Nd.mk y11A y11C y11D y11B]) hl ?_ ?_)
     ·exact(Le.rnm [(0,0),(1,1),(2,2)] _ _ _ ⟨rfl,rfl,rfl,rfl,trivial⟩ ⟨rfl,⟨_,rfl,rfl⟩,rfl,⟨_,rfl,rfl⟩,rfl,⟨_,rfl,rfl⟩,trivial⟩)
     ·rintro⟨k,x13,x14,x15,x16,x17,x18,x19,x20,x22,l24,l25⟩ h;cases k with
      | zero=>cases h
      | succ k =>
       replace h:zBu n (k+1) x13 x14 x15 x16 x17 x18 x19 x20 x22 l24 l25=some fl:=h;rw[zBu]at h;refine zAa ?_;refine zXL [] [] rfl ?_;obtain⟨⟨y37,⟨⟨w38I,w38J,w38K,w38L⟩,⟨w38M,w38N,w38O,w38P⟩,w38H,w38G⟩⟩,hy37,h⟩:=zAc h;refine⟨_,_,⟨_,_,_,_,_,_,_,_,_,_,_,_,_,_,_,_,_,_,_,_,_,hy37,rfl,rfl,rfl,rfl⟩,?_⟩
       show Tri ..
       refine zAs (Le.rnm [(0,0),(3,1),(2,2)] [(2,.s (.pt [.int .i64 a1A,.str a1C,.int .i64 a1D,.sl 4 (Nd.encs a1B)])),(5,.op 0 0),(6,.s (.int .i64 y9)),(7,.orow 2),(34,.s (.bool (decide (0<y37))))] [(0,.box 71 [.s (.int .i64 w38I),.s (.str w38J),.s (.int .i64 w38K),.s (.sl 4 (Nd.encs w38L)),.s (.int .i64 w38M),.s (.str w38N),.s (.int .i64 w38O),.s (.sl 4 (Nd.encs w38P)),.orow 1,.s (.int .i64 w38G)]),(1,.row 31 5 ((List.map zAd) w38H)),(2,.row 24 4 (Nd.encs l25))] 3 ⟨rfl,rfl,rfl,rfl,rfl,trivial⟩ ⟨rfl,⟨_,rfl,rfl⟩,rfl,⟨_,rfl,rfl⟩,rfl,⟨_,rfl,rfl⟩,trivial⟩) ?_
       refine zAq rfl h (fun hb h=>?_) (fun hb h=>?_)
       ·refine zAn ?_;show Tri ..;refine zAw ?_;refine zAa ?_;refine zXL [8] [] rfl ?_;obtain⟨⟨⟨y39Q,y39V⟩,y40,⟨⟨w41I,w41J,w41K,w41L⟩,⟨w41M,w41N,w41O,w41P⟩,w41H,w41G⟩⟩,hy39,h⟩:=zAc h;refine⟨_,_,⟨_,_,_,_,_,_,_,_,_,_,_,_,_,_,_,_,_,_,_,_,_,_,_,hy39,rfl,rfl,rfl,rfl⟩,?_⟩
        show Tri ..;refine zAs (Le.giveBox 4 [.sl 1 ((List.map (irow .i64)) y39Q),.sl 1 ((List.map (irow .i64)) y39V)] rfl rfl) ?_;refine zAa ?_;obtain⟨x42,hj,h⟩:=zAc h
        refine zAz ⟨ofL [(2,.s (.pt [.int .i64 a1A,.str a1C,.int .i64 a1D,.sl 4 (Nd.encs a1B)])),(5,.op 0 0),(6,.s (.int .i64 y9)),(7,.orow 2),(46,.s (.bool x42))],ofH [(0,.box 71 [.s (.int .i64 w41I),.s (.str w41J),.s (.int .i64 w41K),.s (.sl 4 (Nd.encs w41L)),.s (.int .i64 w41M),.s (.str w41N),.s (.int .i64 w41O),.s (.sl 4 (Nd.encs w41P)),.orow 1,.s (.int .i64 w41G)]),(1,.row 31 5 ((List.map zAd) w41H)),(2,.row 24 4 (Nd.encs l25))],3⟩ ?_ (fun σ' hle=>?_)
        ·replace h:=hj;refine zAb [] [42,44] rfl ?_;intro b hb;cases b with
         | true =>
          replace h:=zAI hb.symm h;cases h;exact(Le.rnm [(0,0),(3,1),(2,2)] _ _ _ ⟨rfl,rfl,rfl,rfl,rfl,trivial⟩ ⟨rfl,⟨_,rfl,rfl⟩,rfl,⟨_,rfl,rfl⟩,rfl,⟨_,rfl,rfl⟩,trivial⟩)
         | false =>
          replace h:=zAH hb.symm h;intro n43 hn43;obtain rfl:(l25.length:Int)=n43:=(hn43.trans (congrArg (fun m:Nat=>(m:Int)) (rlen Nd.encs_eq l25))).symm;cases h;exact(Le.rnm [(0,0),(3,1),(2,2)] _ _ _ ⟨rfl,rfl,rfl,rfl,rfl,trivial⟩ ⟨rfl,⟨_,rfl,rfl⟩,rfl,⟨_,rfl,rfl⟩,rfl,⟨_,rfl,rfl⟩,trivial⟩)
        ·show Tri ..;refine zAs hle ?_;refine zAq rfl h (fun hb h=>?_) (fun hb h=>?_)
         ·refine zXL [] [] rfl ?_;show Tri ..;refine zAk ?_;cases h;replace h:some _=some _:=ho1;have hy:=Option.some.inj h;subst hy;unfold zAA;exact⟨_,Le.refl _ _,rfl,rfl⟩
         ·refine zAn ?_;show Tri ..;refine zAb [51] [50] rfl ?_;obtain⟨⟨⟨y44A,y44C,y44D,y44B⟩,⟨⟨w45I,w45J,w45K,w45L⟩,⟨w45M,w45N,w45O,w45P⟩,w45H,w45G⟩⟩,hy44,h⟩:=zAc h;refine⟨_,_,⟨_,_,_,_,_,_,_,_,_,_,_,_,_,_,_,_,_,_,_,_,_,hy44,rfl,rfl,rfl,rfl⟩,?_⟩
          intro r46 hr46;obtain rfl:Nd.encs [Nd.mk y44A y44C y44D y44B]=r46:=(hr46.trans (by simp[List.map_append,List.map_take,List.map_drop,irow,brow,zAB,List.map_cons,List.map_nil,zAy,Nd.encs_eq,Nd.enc,zAi,zAh,zAv,zAo,zAj,zAl,zAd,zAg,zAp,zAf,zAe,zAx,zAt,zAm,zCx])).symm;obtain⟨hq,h⟩:=zAJ h
          refine And.intro (show((Nd.encs l25).length+(Nd.encs [Nd.mk y44A y44C y44D y44B]).length) * 56<=140737488355328/\(Nd.encs l25).length+(Nd.encs [Nd.mk y44A y44C y44D y44B]).length<=9223372036854775807 from by simp only[List.length_append,List.length_cons,List.length_nil,List.length_map,rlen Nd.encs_eq]at hq ⊢; omega) ?_
          refine⟨(k,w45I,w45J,w45K,w45L,w45M,w45N,w45O,w45P,w45G,w45H,l25++[Nd.mk y44A y44C y44D y44B]),h,(Le.trans (Le.rnm [(0,0),(3,1),(4,2)] [(2,.s (.pt [.int .i64 a1A,.str a1C,.int .i64 a1D,.sl 4 (Nd.encs a1B)])),(5,.op 0 0),(6,.s (.int .i64 y9)),(7,.orow 2)] [(0,.box 71 [.s (.int .i64 w45I),.s (.str w45J),.s (.int .i64 w45K),.s (.sl 4 (Nd.encs w45L)),.s (.int .i64 w45M),.s (.str w45N),.s (.int .i64 w45O),.s (.sl 4 (Nd.encs w45P)),.orow 1,.s (.int .i64 w45G)]),(1,.row 31 5 ((List.map zAd) w45H)),(2,.row 24 4 (Nd.encs (l25++[Nd.mk y44A y44C y44D y44B])))] 3 ⟨rfl,rfl,rfl,rfl,trivial⟩ ⟨rfl,⟨_,rfl,rfl⟩,rfl,⟨_,rfl,rfl⟩,rfl,⟨_,rfl,congrArg (Ob.row 24 4) (by simp[List.map_append,List.map_take,List.map_drop,irow,brow,zAB,List.map_cons,List.map_nil,zAy,Nd.encs_eq,Nd.enc,zAi,zAh,zAv,zAo,zAj,zAl,zAd,zAg,zAp,zAf,zAe,zAx,zAt,zAm,zCx])⟩,trivial⟩) (Le.rnm [(0,0),(1,1),(2,2)] _ _ _ ⟨rfl,rfl,rfl,rfl,trivial⟩ ⟨rfl,⟨_,rfl,rfl⟩,rfl,⟨_,rfl,rfl⟩,rfl,⟨_,rfl,rfl⟩,trivial⟩)),Nat.lt_succ_self k⟩
       ·refine zAP ?_;cases h;exact⟨_,rfl,(Le.rnm [(0,0),(1,1),(2,2)] _ _ _ ⟨rfl,rfl,rfl,rfl,trivial⟩ ⟨rfl,⟨_,rfl,rfl⟩,rfl,⟨_,rfl,rfl⟩,rfl,⟨_,rfl,rfl⟩,trivial⟩)⟩
    ·subst hz;obtain⟨x26,x27,x28,x29,x30,x31,x32,x33,x34,l35,l36⟩:=z;replace h:=ho1;show Tri ..;refine zAs hle ?_;refine zAa ?_;refine zAa ?_;obtain⟨⟨x47,x48,x49,x50,x51,x52,x53,x54,x55,x56,l57⟩,hj,h⟩:=zAc h;refine zAz ⟨ofL [(5,.op 0 0),(6,.s (.int .i64 y9)),(7,.orow 2),(63,.s (.bool x47))],ofH [(0,.box 71 [.s (.int .i64 x48),.s (.str x49),.s (.int .i64 x50),.s (.sl 4 (Nd.encs x51)),.s (.int .i64 x52),.s (.str x53),.s (.int .i64 x54),.s (.sl 4 (Nd.encs x55)),.orow 1,.s (.int .i64 x56)]),(1,.row 31 5 ((List.map zAd) l57)),(2,.row 24 4 (Nd.encs l36))],3⟩ ?_ (fun σ' hle=>?_)
     ·replace h:=hj;refine zAO [] [57] [1,7] rfl (by decide +kernel) ?_;obtain⟨⟨⟨y58A,y58C,y58D,y58B⟩,⟨⟨w59I,w59J,w59K,w59L⟩,⟨w59M,w59N,w59O,w59P⟩,w59H,w59G⟩⟩,hy58,h⟩:=zAc h;refine⟨_,_,⟨_,_,_,_,_,_,_,_,_,_,_,_,_,_,_,_,_,_,_,_,_,hy58,rfl,rfl,rfl,rfl⟩,?_⟩
      obtain⟨y60,hy60,h⟩:=zAc h;refine⟨_,⟨_,_,_,_,hy60,rfl,rfl⟩,?_⟩
      intro b hb;cases b with
      | true =>
       replace h:=zAI hb.symm h;cases h;exact(Le.rnm [(0,0),(3,1),(2,2)] _ _ _ ⟨rfl,rfl,rfl,rfl,trivial⟩ ⟨rfl,⟨_,rfl,rfl⟩,rfl,⟨_,rfl,rfl⟩,rfl,⟨_,rfl,rfl⟩,trivial⟩)
      | false =>
       replace h:=zAH hb.symm h;obtain⟨⟨⟨y61A,y61C,y61D,y61B⟩,⟨⟨w62I,w62J,w62K,w62L⟩,⟨w62M,w62N,w62O,w62P⟩,w62H,w62G⟩⟩,hy61,h⟩:=zAc h;refine⟨_,_,⟨_,_,_,_,_,_,_,_,_,_,_,_,_,_,_,_,_,_,_,_,_,hy61,rfl,rfl,rfl,rfl⟩,?_⟩
       obtain⟨y63,hy63,h⟩:=zAc h;refine⟨_,⟨_,_,_,_,hy63,rfl,rfl⟩,?_⟩
       cases h;exact(Le.rnm [(0,0),(4,1),(2,2)] _ _ _ ⟨rfl,rfl,rfl,rfl,trivial⟩ ⟨rfl,⟨_,rfl,rfl⟩,rfl,⟨_,rfl,rfl⟩,rfl,⟨_,rfl,rfl⟩,trivial⟩)
     ·show Tri ..;refine zAs hle ?_;refine zAq rfl h (fun hb h=>?_) (fun hb h=>?_)
      ·refine zXL [] [] rfl ?_;show Tri ..;refine zAk ?_;have hy:=Option.some.inj h;subst hy;unfold zAA;exact⟨_,Le.refl _ _,rfl,rfl⟩
      ·refine zAn ?_;show Tri ..;refine zAa ?_;refine zXL [] [65] rfl ?_;intro n64 hn64;obtain rfl:(l36.length:Int)=n64:=(hn64.trans (congrArg (fun m:Nat=>(m:Int)) (rlen Nd.encs_eq l36))).symm;show Tri ..
       refine zAs (Le.trans (Le.rnm [(0,0),(1,1),(2,2)] [(5,.op 0 0),(6,.s (.int .i64 y9)),(7,.orow 2),(10,.s (.int .i64 (IntKind.i64.wrap ((l36.length:Int) - 1))))] [(0,.box 71 [.s (.int .i64 x48),.s (.str x49),.s (.int .i64 x50),.s (.sl 4 (Nd.encs x51)),.s (.int .i64 x52),.s (.str x53),.s (.int .i64 x54),.s (.sl 4 (Nd.encs x55)),.orow 1,.s (.int .i64 x56)]),(1,.row 31 5 ((List.map zAd) l57)),(2,.row 24 4 (Nd.encs l36))] 3 ⟨rfl,rfl,rfl,rfl,trivial⟩ ⟨rfl,⟨_,rfl,rfl⟩,rfl,⟨_,rfl,rfl⟩,rfl,⟨_,rfl,rfl⟩,trivial⟩) (Le.giveRow 2 rfl)) ?_;obtain⟨fl,hl,ho1⟩:=zAc h
       refine zBH (fl:=fl) (fun z=>match z with | ⟨x77,x78,x79,x80,x81,x82,x83,x84,x85,l86⟩=>⟨ofL [(5,.op 0 0),(6,.s (.int .i64 y9))],ofH [(0,.box 71 [.s (.int .i64 x77),.s (.str x78),.s (.int .i64 x79),.s (.sl 4 (Nd.encs x80)),.s (.int .i64 x81),.s (.str x82),.s (.int .i64 x83),.s (.sl 4 (Nd.encs x84)),.orow 1,.s (.int .i64 x85)]),(1,.row 31 5 ((List.map zAd) l86))],2⟩) ?_ (fun z σ' hz hle=>?_)
       ·refine zAw (zAL (X:=Nat×Int×(List UInt8)×Int×(List Nd)×Int×(List UInt8)×Int×(List Nd)×Int×Int×(List zRc)) (fun y=>match y with | (k,x65,x66,x67,x68,x69,x70,x71,x72,x74,x75,l76)=>⟨ofL [(5,.op 0 0),(6,.s (.int .i64 y9)),(7,.s (.sl 4 (Nd.encs l36))),(10,.s (.int .i64 x75))],ofH [(0,.box 71 [.s (.int .i64 x65),.s (.str x66),.s (.int .i64 x67),.s (.sl 4 (Nd.encs x68)),.s (.int .i64 x69),.s (.str x70),.s (.int .i64 x71),.s (.sl 4 (Nd.encs x72)),.orow 1,.s (.int .i64 x74)]),(1,.row 31 5 ((List.map zAd) l76))],2⟩) (fun y=>zBk n l36 y.1 y.2.1 y.2.2.1 y.2.2.2.1 y.2.2.2.2.1 y.2.2.2.2.2.1 y.2.2.2.2.2.2.1 y.2.2.2.2.2.2.2.1 y.2.2.2.2.2.2.2.2.1 y.2.2.2.2.2.2.2.2.2.1 y.2.2.2.2.2.2.2.2.2.2.1 y.2.2.2.2.2.2.2.2.2.2.2=some fl) (fun y=>y.1) (n,x48,x49,x50,x51,x52,x53,x54,x55,x56,IntKind.i64.wrap ((l36.length:Int) - 1),l57) hl ?_ ?_)
        ·exact(Le.rnm [(0,0),(1,1)] _ _ _ ⟨rfl,rfl,rfl,rfl,trivial⟩ ⟨rfl,⟨_,rfl,rfl⟩,rfl,⟨_,rfl,rfl⟩,trivial⟩)
        ·rintro⟨k,x65,x66,x67,x68,x69,x70,x71,x72,x74,x75,l76⟩ h;cases k with
         | zero=>cases h
         | succ k =>
          replace h:zBk n l36 (k+1) x65 x66 x67 x68 x69 x70 x71 x72 x74 x75 l76=some fl:=h;rw[zBk]at h;refine zAa ?_;refine zXL [] [] rfl ?_;show Tri ..;refine zAq rfl h (fun hb h=>?_) (fun hb h=>?_)
          ·refine zAn ?_;show Tri ..;refine zAa ?_;obtain⟨fl,hj,ho2⟩:=zAc h;refine zBH (fl:=fl) (fun z=>match z with | ⟨x87,x88,x89,x90,x91,x92,x93,x94,x95,l96⟩=>⟨ofL [(5,.op 0 0),(6,.s (.int .i64 y9)),(7,.s (.sl 4 (Nd.encs l36))),(10,.s (.int .i64 x75))],ofH [(0,.box 71 [.s (.int .i64 x87),.s (.str x88),.s (.int .i64 x89),.s (.sl 4 (Nd.encs x90)),.s (.int .i64 x91),.s (.str x92),.s (.int .i64 x93),.s (.sl 4 (Nd.encs x94)),.orow 1,.s (.int .i64 x95)]),(1,.row 31 5 ((List.map zAd) l96))],2⟩) ?_ (fun z σ' hz hle=>?_)
           ·replace h:=hj;refine zAw ?_;refine zAa ?_;refine zAa ?_;obtain⟨⟨x97,x98,x99,x100,x101,x102,x103,x104,x105,x106,l107⟩,hj,h⟩:=zAc h;refine zAz ⟨ofL [(5,.op 0 0),(6,.s (.int .i64 y9)),(7,.s (.sl 4 (Nd.encs l36))),(10,.s (.int .i64 x75)),(86,.s (.bool x97))],ofH [(0,.box 71 [.s (.int .i64 x98),.s (.str x99),.s (.int .i64 x100),.s (.sl 4 (Nd.encs x101)),.s (.int .i64 x102),.s (.str x103),.s (.int .i64 x104),.s (.sl 4 (Nd.encs x105)),.orow 1,.s (.int .i64 x106)]),(1,.row 31 5 ((List.map zAd) l107))],2⟩ ?_ (fun σ' hle=>?_)
            ·replace h:=hj;refine zAO [] [75,79,82] [1] rfl (by decide +kernel) ?_;obtain⟨⟨⟨y108A,y108C,y108D,y108B⟩,⟨⟨w109I,w109J,w109K,w109L⟩,⟨w109M,w109N,w109O,w109P⟩,w109H,w109G⟩⟩,hy108,h⟩:=zAc h;refine⟨_,_,⟨_,_,_,_,_,_,_,_,_,_,_,_,_,_,_,_,_,_,_,_,_,hy108,rfl,rfl,rfl,rfl⟩,?_⟩
             obtain⟨⟨e110A,e110C,e110D,e110B⟩,he110,h⟩:=zAc h;refine And.intro (zAD Nd.encs_eq he110).1 ?_;intro r111 hr111;obtain rfl:[.int .i64 e110A,.str e110C,.int .i64 e110D,.sl 4 (Nd.encs e110B)]=r111:=(hr111.trans (zAD Nd.encs_eq he110).2.1).symm;obtain⟨y112,hy112,h⟩:=zAc h;refine⟨_,⟨_,_,_,_,hy112,rfl,rfl⟩,?_⟩
             intro b hb;cases b with
             | true =>
              replace h:=zAI hb.symm h;cases h;exact(Le.rnm [(0,0),(2,1)] _ _ _ ⟨rfl,rfl,rfl,rfl,rfl,trivial⟩ ⟨rfl,⟨_,rfl,rfl⟩,rfl,⟨_,rfl,rfl⟩,trivial⟩)
             | false =>
              replace h:=zAH hb.symm h;obtain⟨⟨e113A,e113C,e113D,e113B⟩,he113,h⟩:=zAc h;refine And.intro (zAD Nd.encs_eq he113).1 ?_;intro r114 hr114;obtain rfl:[.int .i64 e113A,.str e113C,.int .i64 e113D,.sl 4 (Nd.encs e113B)]=r114:=(hr114.trans (zAD Nd.encs_eq he113).2.1).symm;obtain⟨y115,hy115,h⟩:=zAc h;refine⟨_,⟨_,_,_,hy115,rfl,rfl⟩,?_⟩
              cases h;exact(Le.rnm [(0,0),(2,1)] _ _ _ ⟨rfl,rfl,rfl,rfl,rfl,trivial⟩ ⟨rfl,⟨_,rfl,rfl⟩,rfl,⟨_,rfl,rfl⟩,trivial⟩)
            ·show Tri ..;refine zAs hle ?_;refine zAq rfl h (fun hb h=>?_) (fun hb h=>?_)
             ·refine zXL [] [] rfl ?_;show Tri ..;refine zAk ?_;cases h;replace h:some _=some _:=ho2;cases h;replace h:some _=some _:=ho1;have hy:=Option.some.inj h;subst hy;unfold zAA;exact⟨_,Le.refl _ _,rfl,rfl⟩
             ·refine zAn ?_;show Tri ..;refine zXL [] [] rfl ?_;show Tri ..;refine zAq rfl h (fun hb h=>?_) (fun hb h=>?_)
              ·refine zXL [11] [] rfl ?_;obtain⟨⟨⟨y116Q,y116V⟩,y117,⟨⟨w118I,w118J,w118K,w118L⟩,⟨w118M,w118N,w118O,w118P⟩,w118H,w118G⟩⟩,hy116,h⟩:=zAc h;refine⟨_,_,⟨_,_,_,_,_,_,_,_,_,_,_,_,_,_,_,_,_,_,_,_,_,_,_,hy116,rfl,rfl,rfl,rfl⟩,?_⟩
               show Tri ..;refine zAs (Le.giveBox 3 [.sl 1 ((List.map (irow .i64)) y116Q),.sl 1 ((List.map (irow .i64)) y116V)] rfl rfl) ?_;refine zXL [] [] rfl ?_;show Tri ..;refine zAq rfl h (fun hb h=>?_) (fun hb h=>?_)
               ·refine zXL [] [] rfl ?_;show Tri ..;refine zAk ?_;cases h;replace h:some _=some _:=ho2;cases h;replace h:some _=some _:=ho1;have hy:=Option.some.inj h;subst hy;unfold zAA;exact⟨_,Le.refl _ _,rfl,rfl⟩
               ·refine zAn ?_;cases h;exact⟨_,rfl,(Le.rnm [(0,0),(2,1)] _ _ _ ⟨rfl,rfl,rfl,rfl,trivial⟩ ⟨rfl,⟨_,rfl,rfl⟩,rfl,⟨_,rfl,rfl⟩,trivial⟩)⟩
              ·refine zAn ?_;cases h;exact⟨_,rfl,(Le.rnm [(0,0),(1,1)] _ _ _ ⟨rfl,rfl,rfl,rfl,trivial⟩ ⟨rfl,⟨_,rfl,rfl⟩,rfl,⟨_,rfl,rfl⟩,trivial⟩)⟩
           ·subst hz;obtain⟨x87,x88,x89,x90,x91,x92,x93,x94,x95,l96⟩:=z;replace h:=ho2;show Tri ..;refine zAs hle ?_;refine zAb [] [] rfl ?_;refine⟨(k,x87,x88,x89,x90,x91,x92,x93,x94,x95,IntKind.i64.wrap (x75 - 1),l96),h,(Le.rnm [(0,0),(1,1)] _ _ _ ⟨rfl,rfl,rfl,rfl,trivial⟩ ⟨rfl,⟨_,rfl,rfl⟩,rfl,⟨_,rfl,rfl⟩,trivial⟩),Nat.lt_succ_self k⟩
          ·refine zAP ?_;cases h;exact⟨_,rfl,(Le.rnm [(0,0),(1,1)] _ _ _ ⟨rfl,rfl,trivial⟩ ⟨rfl,⟨_,rfl,rfl⟩,rfl,⟨_,rfl,rfl⟩,trivial⟩)⟩
       ·subst hz;obtain⟨x77,x78,x79,x80,x81,x82,x83,x84,x85,l86⟩:=z;replace h:=ho1;show Tri ..;refine zAs hle ?_;refine zXL [] [] rfl ?_;obtain⟨⟨y119,⟨⟨w120I,w120J,w120K,w120L⟩,⟨w120M,w120N,w120O,w120P⟩,w120H,w120G⟩⟩,hy119,h⟩:=zAc h;refine⟨_,_,⟨_,_,_,_,_,_,_,_,_,_,_,_,_,_,_,_,_,_,_,_,_,hy119,rfl,rfl,rfl,rfl⟩,?_⟩
        show Tri ..;refine zAs (Le.rnm [] [(4,.s (.bool (y119 == y9)))] [] 0 ⟨rfl,trivial⟩ trivial) ?_;refine zAk ?_;have hy:=Option.some.inj h;subst hy;unfold zAA;exact⟨_,Le.refl _ _,rfl,rfl⟩
theorem zWn {n:Nat}{ss:List S} (h:Typed T n 24 ss):∃ t:Nd,ss=t.enc/\t.rng :=
 zN2 (T:=T) (e:=24) (s:=22) (ki:=3) (st:=9) rfl rfl rfl rfl rfl rfl rfl rfl rfl n h
theorem zME {n t:Nat}{ss:List S} (h:Typed T n 22 ss):∃ l:List Nd,ss=[.sl 4 (Nd.encs l)]/\Nd.rngs l:=by
 obtain⟨m,rows,rfl,rfl,_,hr⟩:=zF8 (T:=T) (e:=24) rfl rfl h;obtain⟨ks,rfl,hks⟩:=zJ2 (f:=Nd.enc) (q:=Nd.rng) (l:=rows) fun r hr'=>zN2 (T:=T) (e:=24) (s:=22) (ki:=3) (st:=9) rfl rfl rfl rfl rfl rfl rfl rfl rfl m (hr r hr')
 exact⟨ks,by rw[Nd.encs_eq]; rfl,Nd.rngAll hks⟩
theorem zWo {n:Nat}{ss:List S} (h:Typed T n 65 ss):∃ o:zO8,ss=zAl o/\True:=by
 obtain⟨m,rfl,a0,q0,rfl,u0,a1,q1,rfl,u1,a2,q2,rfl,u2,a3,q3,rfl,u3,a4,q4,rfl,u4,a5,q5,rfl,u5,a6,q6,rfl,u6,a7,q7,rfl,u7,rfl⟩:=zEp (T:=T) (t:=65) rfl rfl h;obtain⟨x0,rfl,_⟩:=zDx (T:=T) (k:=.i64) rfl rfl u0;obtain⟨x1,rfl,_⟩:=zN1 (T:=T) (k:=.i64) (e:=3) rfl rfl rfl rfl u1;obtain⟨x2,rfl,_⟩:=zDx (T:=T) (k:=.i64) rfl rfl u2;obtain⟨x3,rfl,_⟩:=zDx (T:=T) (k:=.i64) rfl rfl u3;obtain⟨x4,rfl,_⟩:=zME (t:=0) u4;obtain⟨x5,rfl,_⟩:=zDx (T:=T) (k:=.i64) rfl rfl u5;obtain⟨x6,rfl,_⟩:=zJV (T:=T) rfl rfl u6;obtain⟨x7,rfl,_⟩:=zJV (T:=T) rfl rfl u7
 exact⟨(x0,x1,x2,x3,x4,x5,x6,x7),rfl,trivial⟩
theorem zVe {n:Nat}{ss:List S} (h:Typed T n 26 ss):∃ l:List zO8,ss=[.sl 8 (l.map zAl)]:=by
 obtain⟨m,rows,rfl,rfl,_,hr⟩:=zF8 (T:=T) (e:=65) rfl rfl h;obtain⟨ks,rfl,hks⟩:=zJ2 (f:=zAl) (q:=fun _=>True) (l:=rows) fun r hr'=>zWo (hr r hr')
 exact⟨ks,rfl⟩
theorem zN3 {n:Nat}{ss:List S} (h:Typed T n 27 ss):∃ l:List Int,ss=[.sl 1 (l.map fun z=>[.int .i64 z])]/\True:=by
 obtain⟨x,rfl,_⟩:=zN1 (T:=T) (k:=.i64) (e:=3) rfl rfl rfl rfl h;exact⟨x,rfl,trivial⟩
theorem zOr {α:Type}{f:α->List S}:∀ {l:List α}{x:α},x∈l->zDy (f x)<=zEr (l.map f)
 | y::l,x,h=>by
  simp only[List.map_cons,zEr]
  rcases List.mem_cons.1 h with rfl | h
  ·omega
  ·have:=zOr (f:=f) h; omega
theorem zIa {n:Nat}{ss:List S} (h:Typed T n 29 ss):∃ c:List Int×List Int,ss=[.sl 1 (c.1.map (irow .i64)),.sl 1 (c.2.map (irow .i64))]:=by
 obtain⟨m,rfl,a0,q0,rfl,u0,a1,q1,rfl,u1,rfl⟩:=zEp (T:=T) (t:=29) rfl rfl h;obtain⟨x0,rfl,_⟩:=zN3 u0;obtain⟨x1,rfl,_⟩:=zN3 u1;exact⟨(x0,x1),rfl⟩
theorem zQ4 {n:Nat}{ss:List S} (h:Typed T n 31 ss):∃ r:List zO8×zCu×zCu,ss=zAd r:=by
 obtain⟨m,rfl,a0,q0,rfl,u0,a1,q1,rfl,u1,a2,q2,rfl,u2,rfl⟩:=zEp (T:=T) (t:=31) rfl rfl h;obtain⟨x0,rfl⟩:=zVe u0;obtain⟨x1,rfl⟩:=zIa u1;obtain⟨x2,rfl⟩:=zIa u2;exact⟨(x0,x1,x2),rfl⟩
theorem zAS {φ:Prop} [Decidable φ] (h:φ):decide φ=true:=decide_eq_true h
theorem zAR {φ:Prop} [Decidable φ] (h:¬ φ):decide φ=false:=decide_eq_false h
theorem zIN {F:Nd->Option Int}{ks:List Nd} (hF:∀ v∈ks,F v=some (v.cnt:Int)) :
  ∀ (k i:Nat) (o:Nat),ks.length - i<k->i<=ks.length->o+Nd.cnts (ks.drop i)<=1073741824->ks.length<=1073741824->zCz F ks k (o:Int) (i:Int)=some ((o+Nd.cnts (ks.drop i):Nat):Int)
 | 0,_,_,h,_,_,_=>by omega
 | k+1,i,o,hk,hi,ho,hl=>by
  unfold zCz
  by_cases h:i<ks.length
  ·rw[zAS (Int.ofNat_lt.2 h),cond_true,zA0 h]
   have hd:=Nd.cnts_drop h;have hf:=hF _ (List.getElem_mem h)
   rcases e:ks[i] with ⟨a,b,c,d⟩
   rw[e]at hd hf;simp only[Option.bind_some,hf]
   rw[wrap64_in (by omega) (by omega),zA2 (by omega),← Int.natCast_add,zIN hF k (i+1) _ (by omega) (by omega) (by omega) hl,hd]
   congr 2; omega
  ·rw[zAR (by omega),cond_false]
   obtain rfl:i=ks.length :=(by omega);simp[Nd.cnts]
theorem zKS:∀ (n:Nat) (t:Nd),t.cnt<n->t.cnt<=67108864->zCT n t=some (t.cnt:Int)
 | 0,_,h,_=>by omega
 | n+1,.mk a b c ks,h,hb=>by
  simp only[Nd.cnt]at h hb;have hl:=Nd.cnts_len ks;unfold zCT;have:=zIN (F:=zCT n) (ks:=ks) (fun v hv=>zKS n v (by have:=Nd.cnts_mem hv; omega) (by have:=Nd.cnts_mem hv; omega)) n 0 1 (by omega) (by omega) (by simp; omega) (by omega)
  rw[show((0:Nat):Int)=0 from rfl,show((1:Nat):Int)=1 from rfl]at this;rw[this]
  simp only[Option.bind_some,List.drop_zero,Nd.cnt]
  congr 2; omega
theorem zQq {F:Nd->Int->Option Int}{ks:List Nd}{b:Nat} (hF:∀ (v:Nd) (m:Nat),m<=b->∃ r,F v (m:Int)=some r/\-1<=r/\r<m/\(0<=r->r+v.cnt=m)) :
  ∀ (k i:Nat) (m:Int),m+1<k->-1<=m->m<=b->i<=ks.length->(i:Int)+m<4611686018427387904->∃ r,zCp F ks k m (i:Int)=some r/\-1<=r/\r<=m/\(0<=r->r+Nd.cnts (ks.drop i)=m)
 | 0,_,_,h,_,_,_,_=>by omega
 | k+1,i,m,hk,hm,hb,hi,hx=>by
  unfold zCp
  by_cases h:i<ks.length
  ·rw[zAS (Int.ofNat_lt.2 h),cond_true]
   simp only[Option.bind_some]
   by_cases h0:0<=m
   ·rw[zAS h0,cond_true,zA0 h]
    have hd:=Nd.cnts_drop h;rcases e:ks[i] with ⟨e1,e2,e3,e4⟩
    rw[e]at hd;simp only[Option.bind_some]
    obtain⟨m',rfl⟩:=Int.eq_ofNat_of_zero_le h0;obtain⟨r,h1,h2,h3,h4⟩:=hF (.mk e1 e2 e3 e4) m' (by omega)
    rw[h1,Option.bind_some,zA2 (by omega)]
    obtain⟨r',g1,g2,g3,g4⟩:=zQq (ks:=ks) hF k (i+1) r (by omega) h2 (by omega) (by omega) (by omega)
    exact⟨r',g1,g2,by omega,fun g=>by have:=g4 g; have:=h4 (by omega); omega⟩
   ·rw[zAR h0,cond_false]
    exact⟨m,rfl,hm,Int.le_refl _,fun g=>by omega⟩
  ·rw[zAR (by omega),cond_false]
   simp only[Option.bind_some,cond_false]
   obtain rfl:i=ks.length :=(by omega);exact⟨m,rfl,hm,Int.le_refl _,fun _=>by simp[Nd.cnts]⟩
theorem left_eq:∀ (n:Nat) (t:Nd) (m:Nat),m+1<n->m<=67108864->∃ r,zDJ n t (m:Int)=some r/\-1<=r/\r<m/\(0<=r->r+t.cnt=m)
 | 0,_,_,h,_=>by omega
 | n+1,.mk a b c ks,m,h,hm=>by
  unfold zDJ;rw[wrap64_in (by omega) (by omega)]
  cases m with
  | zero =>
   cases n with
   | zero=>omega
   | succ n =>
    refine⟨-1,?_,by omega,by omega,fun h=>by omega⟩
    unfold zCp;cases decide (((0:Nat):Int)<(ks.length:Int)) <;> simp <;> rfl
  | succ m =>
   obtain⟨r,h1,h2,h3,h4⟩:=zQq (F:=zDJ n) (ks:=ks) (b:=m) (fun v q hq=>left_eq n v q (by omega) (by omega)) n 0 (m:Int) (by omega) (by omega) (by omega) (by omega) (by omega)
   rw[show((0:Nat):Int)=0 from rfl]at h1;rw[show((m+1:Nat):Int) - 1=(m:Int) by omega,h1]
   exact⟨r,rfl,h2,by omega,fun g=>by have:=h4 g; rw[List.drop_zero]at this; simp only[Nd.cnt]; omega⟩
theorem zTR (n:Nat) (t:Nd) (m:Nat) (h:m+1<n) (hm:m<=67108864):∃ b,zFY n t (m:Int)=some b/\(b=true->t.cnt<=m):=by
 obtain⟨a,b,c,ks⟩:=t;obtain⟨r,h1,h2,h3,h4⟩:=left_eq n (.mk a b c ks) m h hm;refine⟨decide (0<=r),by simp[zFY,h1],fun g=>by have g0:=of_decide_eq_true g; have:=h4 g0; omega⟩
def zOo {α:Type} (p:α->Bool) (l:List α):Fl Bool Unit:=if l.all p then .go () else .ret false
theorem zVv {α:Type}{p:α->Bool}{l:List α}{i:Nat} (h:i<l.length):(l.drop i).all p=(p l[i]&&(l.drop (i+1)).all p):=by
 rw[List.drop_eq_getElem_cons h]; rfl
theorem zVw {α:Type}{p:α->Bool}{l:List α}{i:Nat} (h:i<l.length):(l.drop i).any p=(p l[i]||(l.drop (i+1)).any p):=by
 rw[List.drop_eq_getElem_cons h]; rfl
theorem zId {α:Type}{p:α->Bool}{l:List α} (L:Nat->Int->Option (Fl Bool Unit)) (hb:l.length<=1073741824)
  (h1:∀ (k i:Nat) (h:i<l.length),L (k+1) (i:Int)=if p l[i] then L k (((i+1:Nat)):Int) else some (.ret false)) (h2:∀ k,L (k+1) (l.length:Int)=some (.go ())) :
  ∀ (k i:Nat),l.length - i<k->i<=l.length->L k (i:Int)=some (zOo p (l.drop i))
 | 0,_,h,_=>by omega
 | k+1,i,hk,hi=>by
  by_cases h:i<l.length
  ·rw[h1 k i h,zId L hb h1 h2 k (i+1) (by omega) (by omega)]
   unfold zOo;rw[zVv h]
   cases p l[i] <;> simp
  ·obtain rfl:i=l.length :=(by omega);rw[h2]; simp[zOo]
theorem zOD {α:Type}{p:α->Bool}{l:List α} (L:Nat->Int->Option (Fl Bool Unit)) (hb:l.length<=1073741824)
  (h1:∀ (k i:Nat) (h:i<l.length),L (k+1) (i:Int)=if p l[i] then some (.ret true) else L k (((i+1:Nat)):Int)) (h2:∀ k,L (k+1) (l.length:Int)=some (.go ())) :
  ∀ (k i:Nat),l.length - i<k->i<=l.length->L k (i:Int)=some (if (l.drop i).any p then .ret true else .go ())
 | 0,_,h,_=>by omega
 | k+1,i,hk,hi=>by
  by_cases h:i<l.length
  ·rw[h1 k i h,zOD L hb h1 h2 k (i+1) (by omega) (by omega),zVw h]
   cases p l[i] <;> simp
  ·obtain rfl:i=l.length :=(by omega);rw[h2]; simp
theorem zN4 {P:UInt8->Bool} (h:(List.range 256).all (fun n=>P n.toUInt8)=true) (b:UInt8):P b=true:=by
 have:P (UInt8.ofNat b.toNat)=true:=List.all_eq_true.1 h b.toNat (List.mem_range.2 b.toNat_lt)
 rwa [UInt8.ofNat_toNat]at this
def zDi (b:UInt8):Bool:=(decide (97<=b.toNat)&&decide (b.toNat<=122))||(decide (65<=b.toNat)&&decide (b.toNat<=90))
def zDR (b:UInt8):Bool:=decide (48<=b.toNat)&&decide (b.toNat<=57)
def zGV (b:UInt8):Bool:=decide (32<=b.toNat)&&decide (b.toNat<=126)
theorem zP5 (b:UInt8):(bif decide ((zLQ .or .u8 (b.toNat:Int) 32)<97) then some true else some (decide (122<(zLQ .or .u8 (b.toNat:Int) 32))))=some (!zDi b) :=
 of_decide_eq_true (zN4 (P:=fun b=>decide ((bif decide ((zLQ .or .u8 (b.toNat:Int) 32)<97) then some true else some (decide (122<(zLQ .or .u8 (b.toNat:Int) 32))))=some (!zDi b))) (by decide +kernel) b)
theorem zKG (b:UInt8):zEj (b.toNat:Int)=some (zDi b) :=
 of_decide_eq_true (zN4 (P:=fun b=>decide (zEj (b.toNat:Int)=some (zDi b))) (by decide +kernel) b)
theorem zRB (b:UInt8):zFX (b.toNat:Int)=some (zDR b) :=
 of_decide_eq_true (zN4 (P:=fun b=>decide (zFX (b.toNat:Int)=some (zDR b))) (by decide +kernel) b)
theorem zL9 (n:Nat) (s:List UInt8) (h:s.length<n) (hb:s.length<=1073741824):zC7 n s=some (s.all zDi):=by
 have:=zId (p:=zDi) (l:=s) (zBy s) hb (fun k i h=>by
  rw[zBy,zAS (Int.ofNat_lt.2 h),cond_true,zA0 h]
  simp only[Option.bind_some,zP5]
  rw[zA2 (by omega)]
  cases zDi s[i] <;> rfl) (fun k=>by rw[zBy,zAR (by omega)]; rfl) n 0 (by omega) (by omega)
 rw[show((0:Nat):Int)=0 from rfl,List.drop_zero]at this;rw[zC7,this]
 unfold zOo;cases s.all zDi <;> rfl
theorem zM5 (n:Nat) (s:List UInt8) (h:s.length<n) (hb:s.length<=1073741824):zBD s n 0=some (zOo zDi s):=by
 have:=zId (p:=zDi) (l:=s) (zBD s) hb (fun k i h=>by
  rw[zBD,zAS (Int.ofNat_lt.2 h),cond_true,zA0 h]
  simp only[Option.bind_some,zKG]
  rw[zA2 (by omega)]
  cases zDi s[i] <;> rfl) (fun k=>by rw[zBD,zAR (by omega)]; rfl) n 0 (by omega) (by omega)
 rwa [show((0:Nat):Int)=0 from rfl,List.drop_zero]at this
theorem zNP (n:Nat) (s:List UInt8) (c:Int) (h:s.length<n) (hb:s.length<=1073741824):zDp n s c=some (s.any fun b=>(b.toNat:Int) == c):=by
 have:=zOD (p:=fun b=>(b.toNat:Int) == c) (l:=s) (zCL s c) hb (fun k i h=>by
  rw[zCL,zAS (Int.ofNat_lt.2 h),cond_true,zA0 h]
  simp only[Option.bind_some]
  rw[zA2 (by omega)]
  cases((s[i].toNat:Int) == c) <;> rfl) (fun k=>by rw[zCL,zAR (by omega)]; rfl) n 0 (by omega) (by omega)
 rw[show((0:Nat):Int)=0 from rfl,List.drop_zero]at this;rw[zDp,this]
 cases s.any fun b=>(b.toNat:Int) == c <;> rfl
theorem zMn (n:Nat) (l:List (List UInt8)) (s:List UInt8) (h:l.length<n) (hb:l.length<=1073741824):zEW n l s=some (l.any fun e=>e == s):=by
 have:=zOD (p:=fun e=>e == s) (l:=l) (zDn l s) hb (fun k i h=>by
  rw[zDn,zAS (Int.ofNat_lt.2 h),cond_true,zA0 h]
  simp only[Option.bind_some]
  rw[zA2 (by omega)]
  cases(l[i] == s) <;> rfl) (fun k=>by rw[zDn,zAR (by omega)]; rfl) n 0 (by omega) (by omega)
 rw[show((0:Nat):Int)=0 from rfl,List.drop_zero]at this;rw[zEW,this]
 cases l.any fun e=>e == s <;> rfl
theorem zGx (n:Nat) (s:List UInt8) (h:s.length<n) (hb:s.length<=1073741824):zDG n s=some (s.all zDR&&!(s == [])):=by
 have:=zId (p:=zDR) (l:=s) (zBE s) hb (fun k i h=>by
  rw[zBE,zAS (Int.ofNat_lt.2 h),cond_true,zA0 h]
  simp only[Option.bind_some]
  rw[zA2 (by omega)]
  unfold zDR
  by_cases a:48<=s[i].toNat
  ·by_cases b:s[i].toNat<=57
   ·simp[a,b,show ¬ ((s[i].toNat:Int)<48) by omega,show ¬ (57<(s[i].toNat:Int)) by omega]
   ·simp[a,b,show ¬ ((s[i].toNat:Int)<48) by omega,show(57<(s[i].toNat:Int)) by omega]
  ·simp[a,show((s[i].toNat:Int)<48) by omega]) (fun k=>by rw[zBE,zAR (by omega)]; rfl) n 0 (by omega) (by omega)
 rw[show((0:Nat):Int)=0 from rfl,List.drop_zero]at this;rw[zDG,this]
 unfold zOo;cases s.all zDR <;> rfl
theorem zQR (b:UInt8):(bif decide ((b.toNat:Int)<32) then some true else some (decide (126<(b.toNat:Int))):Option Bool)=some (!zGV b):=by
 unfold zGV
 by_cases a:32<=b.toNat
 ·by_cases c:b.toNat<=126
  ·simp[a,c,show ¬ ((b.toNat:Int)<32) by omega,show ¬ (126<(b.toNat:Int)) by omega]
  ·simp[a,c,show ¬ ((b.toNat:Int)<32) by omega,show(126<(b.toNat:Int)) by omega]
 ·simp[a,show((b.toNat:Int)<32) by omega]
theorem zOH (n:Nat) (s:List UInt8) (h:s.length<n) (hb:s.length<=1073741824):zE8 n s=some (s.all zGV&&decide ((s.length:Int)<=200)):=by
 have:=zId (p:=zGV) (l:=s) (zBM s) hb (fun k i h=>by
  rw[zBM,zAS (Int.ofNat_lt.2 h),cond_true,zA0 h]
  simp only[Option.bind_some,zQR]
  rw[zA2 (by omega)]
  cases zGV s[i] <;> rfl) (fun k=>by rw[zBM,zAR (by omega)]; rfl) n 0 (by omega) (by omega)
 rw[show((0:Nat):Int)=0 from rfl,List.drop_zero]at this;rw[zE8,this]
 unfold zOo;cases s.all zGV <;> rfl
theorem zLb (n:Nat) (s:List UInt8) (h:s.length<n) (hb:s.length<=1073741824):zDo n s=some (s.all zGV):=by
 have:=zId (p:=zGV) (l:=s) (zBo s) hb (fun k i h=>by
  rw[zBo,zAS (Int.ofNat_lt.2 h),cond_true,zA0 h]
  simp only[Option.bind_some,zQR]
  rw[zA2 (by omega)]
  cases zGV s[i] <;> rfl) (fun k=>by rw[zBo,zAR (by omega)]; rfl) n 0 (by omega) (by omega)
 rw[show((0:Nat):Int)=0 from rfl,List.drop_zero]at this;rw[zDo,this]
 unfold zOo;cases s.all zGV <;> rfl
def spL:List UInt8:=[43,45,42,47,61,60,62,44,59,58,33,124,39,63,126,64]
def fsL:List UInt8:=[40,41,91,93,123,125,60,62,47,124,46]
def kwL:List (List UInt8):=[[102,114,97,99],[114,111,111,116],[109,97,116,114,105,120],[102,101,110,99,101]]
def acL:List (List UInt8):=[[104,97,116],[98,97,114],[118,101,99],[100,111,116],[116,105,108,100,101],[99,104,101,99,107]]
def spB (c:UInt8):Bool:=decide (0<=Lib.indexByte spL c)
def fsB (c:UInt8):Bool:=decide (0<=Lib.indexByte fsL c)
theorem zWN (c:UInt8):(spL.any fun b=>(b.toNat:Int) == (c.toNat:Int))=spB c :=
 of_decide_eq_true (zN4 (P:=fun c=>decide ((spL.any fun b=>(b.toNat:Int) == (c.toNat:Int))=spB c)) (by decide +kernel) c)
theorem zWM (c:UInt8):(([40,41,91,93,123,125,124,60,62,47,46]:List UInt8).any fun b=>(b.toNat:Int) == (c.toNat:Int))=fsB c :=
 of_decide_eq_true (zN4 (P:=fun c=>decide ((([40,41,91,93,123,125,124,60,62,47,46]:List UInt8).any fun b=>(b.toNat:Int) == (c.toNat:Int))=fsB c)) (by decide +kernel) c)
theorem zVz (c:UInt8):Lib.indexByte fsL ((c.toNat:Int).toNat.toUInt8)=Lib.indexByte fsL c:=by
 rw[Int.toNat_natCast]; congr 1; exact UInt8.ofNat_toNat
theorem zMP (e s:List UInt8):(e == s)=(s == e):=by
 rw[Bool.eq_iff_iff]; simp only[beq_iff_eq]; exact eq_comm
theorem zL8 (s:List UInt8):zDY s=some (kwL.any fun e=>e == s):=by
 simp only[zDY,kwL,List.any_cons,List.any_nil,zMP [102,114,97,99] s,zMP [114,111,111,116] s,zMP [109,97,116,114,105,120] s,zMP [102,101,110,99,101] s]
 generalize (s == [102,114,97,99])=b1;generalize (s == [114,111,111,116])=b2;generalize (s == [109,97,116,114,105,120])=b3;generalize (s == [102,101,110,99,101])=b4;cases b1 <;> cases b2 <;> cases b3 <;> cases b4 <;> rfl
theorem zII (s:List UInt8):zDF s=some (acL.any fun e=>e == s):=by
 simp only[zDF,acL,List.any_cons,List.any_nil,zMP [104,97,116] s,zMP [98,97,114] s,zMP [118,101,99] s,zMP [100,111,116] s,zMP [116,105,108,100,101] s,zMP [99,104,101,99,107] s]
 generalize (s == [104,97,116])=b1;generalize (s == [98,97,114])=b2;generalize (s == [118,101,99])=b3;generalize (s == [100,111,116])=b4;generalize (s == [116,105,108,100,101])=b5;generalize (s == [99,104,101,99,107])=b6;cases b1 <;> cases b2 <;> cases b3 <;> cases b4 <;> cases b5 <;> cases b6 <;> rfl
def symB (s:List UInt8):Bool :=
 if s.length=1 then s.all zDi||s.all spB
 else s.all zDi&&(decide (2<=s.length)&&(decide (s.length<=16)&&(!(kwL.any fun e=>e == s)&&!(acL.any fun e=>e == s))))
theorem len1 (s:List UInt8):((s.length:Int) == 1)=decide (s.length=1):=by
 by_cases h:s.length=1
 ·simp[h]
 ·rw[zAR h]
  cases e:((s.length:Int) == 1) with
  | false=>rfl
  | true=>have:=eq_of_beq e; omega
theorem zFR (a b:Nat):decide ((a:Int)<=(b:Int))=decide (a<=b):=by
 by_cases h:a<=b
 ·rw[zAS h,zAS (by omega)]
 ·rw[zAR h,zAR (by omega)]
theorem zUf (a b:Nat):decide ((a:Int)<(b:Int))=decide (a<b):=by
 by_cases h:a<b
 ·rw[zAS h,zAS (by omega)]
 ·rw[zAR h,zAR (by omega)]
theorem zMT (n:Nat) (s:List UInt8) (h:s.length+40<n) (hb:s.length<=1073741824):zEu n s=some (symB s):=by
 rw[zEu,len1,zL9 n s (by omega) hb]
 unfold symB
 by_cases h1:s.length=1
 ·rw[zAS h1,if_pos h1]
  obtain⟨c,rfl⟩:=List.length_eq_one_iff.1 h1;have:zEx [43,45,42,47,61,60,62,44,59,58,33,124,39,63,126,64] [c]=some (spB c):=rfl;simp only[cond_true,Option.bind_some,this,List.all_cons,List.all_nil,Bool.and_true]
  cases zDi c <;> rfl
 ·rw[zAR h1,if_neg h1]
  have e2:=zFR 2 s.length;have e16:=zFR s.length 16;rw[show((2:Nat):Int)=2 from rfl]at e2;rw[show((16:Nat):Int)=16 from rfl]at e16;simp only[cond_false,Option.bind_some,zL8,zII,e2,e16]
  cases s.all zDi <;> cases decide (2<=s.length) <;> cases decide (s.length<=16) <;> cases(kwL.any fun e=>e == s) <;> rfl
theorem zPa (n:Nat) (s:List UInt8) (h:s.length+40<n) (hb:s.length<=1073741824):zFb n s=some (symB s):=by
 rw[zFb,len1,zM5 n s (by omega) hb]
 unfold symB
 by_cases h1:s.length=1
 ·rw[zAS h1,if_pos h1]
  obtain⟨c,rfl⟩:=List.length_eq_one_iff.1 h1;have e1:at? [c] (0:Int)=some c:=rfl;have e2:zDp n [43,45,42,47,61,60,62,44,59,58,33,124,39,63,126,64] (c.toNat:Int)=some (spB c):=by
   rw[zNP n _ _ (by simp only[List.length_cons,List.length_nil]; omega) (by simp only[List.length_cons,List.length_nil]; omega)]
   exact congrArg some (zWN c)
  simp only[cond_true,Option.bind_some,e1,zEv,zKG,e2,List.all_cons,List.all_nil,Bool.and_true]
  cases zDi c <;> rfl
 ·rw[zAR h1,if_neg h1]
  have e2:=zFR 2 s.length;have e16:=zFR s.length 16;rw[show((2:Nat):Int)=2 from rfl]at e2;rw[show((16:Nat):Int)=16 from rfl]at e16;have ek:zEW n kwL s=some (kwL.any fun e=>e == s):=zMn n kwL s (by simp only[kwL,List.length_cons,List.length_nil]; omega) (by simp[kwL])
  have ea:zEW n acL s=some (acL.any fun e=>e == s):=zMn n acL s (by simp only[acL,List.length_cons,List.length_nil]; omega) (by simp[acL])
  have k1:zEX=some kwL:=rfl;have a1:zDH=some acL:=rfl;unfold zOo;simp only[cond_false,Option.bind_some,k1,a1,ek,ea,e2,e16]
  cases s.all zDi <;> cases decide (2<=s.length) <;> cases decide (s.length<=16) <;> cases(kwL.any fun e=>e == s) <;> rfl
def fenB (s:List UInt8):Bool:=decide (s.length=2)&&s.all fsB
theorem len2 (s:List UInt8):((s.length:Int) == 2)=decide (s.length=2):=by
 by_cases h:s.length=2
 ·simp[h]
 ·rw[zAR h]
  cases e:((s.length:Int) == 2) with
  | false=>rfl
  | true=>have:=eq_of_beq e; omega
theorem zOG (s:List UInt8):zE7 s=some (fenB s):=by
 rw[zE7,len2]
 unfold fenB
 by_cases h1:s.length=2
 ·rw[zAS h1]
  match s,h1 with
  | [c,d],_ =>
   have e0:at? [c,d] (0:Int)=some c:=rfl;have e1:at? [c,d] (1:Int)=some d:=rfl;have f:∀ c:UInt8,zCX [40,41,91,93,123,125,60,62,47,124,46] (c.toNat:Int)=some (Lib.indexByte fsL c):=fun c=>congrArg some (zVz c)
   have g:∀ c:UInt8,decide (0<=Lib.indexByte fsL c)=fsB c:=fun c=>rfl
   simp only[cond_true,e0,e1,f,Option.bind_some,g,List.all_cons,List.all_nil,Bool.and_true,Bool.true_and]
   cases fsB c <;> rfl
 ·rw[zAR h1]; rfl
theorem zQS (n:Nat) (s:List UInt8) (h:40<n):(bif ((s.length:Int) == 2) then (
        (at? s 0).bind fun c9 =>
        (zDp n [40,41,91,93,123,125,124,60,62,47,46] (c9.toNat:Int)).bind fun y11 =>
        bif y11 then (
         (at? s 1).bind fun c12 =>
         (zDp n [40,41,91,93,123,125,124,60,62,47,46] (c12.toNat:Int)).bind fun y14 =>
         some y14
        ) else (
         some false
        )
       ) else (
        some false
       ))=some (fenB s):=by
 rw[len2]
 unfold fenB
 by_cases h1:s.length=2
 ·rw[zAS h1]
  match s,h1 with
  | [c,d],_ =>
   have e0:at? [c,d] (0:Int)=some c:=rfl;have e1:at? [c,d] (1:Int)=some d:=rfl;have f:∀ c:UInt8,zDp n [40,41,91,93,123,125,124,60,62,47,46] (c.toNat:Int)=some (fsB c):=fun c=>by
    rw[zNP n _ _ (by simp only[List.length_cons,List.length_nil]; omega) (by simp only[List.length_cons,List.length_nil]; omega)]
    exact congrArg some (zWM c)
   simp only[cond_true,e0,e1,f,Option.bind_some,List.all_cons,List.all_nil,Bool.and_true,Bool.true_and]
   cases fsB c <;> rfl
 ·rw[zAR h1]; rfl
def okL (L:Nat):Nat->List UInt8->Bool
 | _,[]=>true
 | i,c::r=>((c == 46&&(decide (0<i)&&decide (i+1<L)))||zDR c)&&okL L (i+1) r
def numB (s:List UInt8):Bool:=okL s.length 0 s&&(decide (0<s.length)&&(decide (s.length<=20)&&decide (s.count 46<=1)))
theorem zXn (c:UInt8):((c.toNat:Int) == 46)=(c == 46) :=
 of_decide_eq_true (zN4 (P:=fun c=>decide (((c.toNat:Int) == 46)=(c == 46))) (by decide +kernel) c)
theorem zWQ:zDR 46=false:=by decide
theorem zOI (s:List UInt8) (hb:s.length<=1073741824):∀ (k i p:Nat),s.length - i<k->i<=s.length->p<=i ->
  zCa s k (p:Int) (i:Int)=some (if okL s.length i (s.drop i) then .go ((p+(s.drop i).count 46:Nat):Int) else .ret false)
 | 0,_,_,h,_,_=>by omega
 | k+1,i,p,hk,hi,hp=>by
  unfold zCa
  by_cases h:i<s.length
  ·rw[zAS (Int.ofNat_lt.2 h),cond_true,zA0 h,List.drop_eq_getElem_cons h]
   generalize s[i]=c;simp only[Option.bind_some,zXn,zRB,okL,List.count_cons]
   rw[zA2 (by omega),zA2 (by omega),wrap64_in (by omega) (by omega)]
   have d1:decide ((0:Int)<(i:Int))=decide (0<i):=zUf 0 i;have d2:decide ((i:Int)<(s.length:Int) - 1)=decide (i+1<s.length):=by
    by_cases h:i+1<s.length
    ·rw[zAS h,zAS (by omega)]
    ·rw[zAR h,zAR (by omega)]
   rw[d1,d2]
   cases e:c == 46 with
   | true =>
    obtain rfl:c=46:=eq_of_beq e;simp only[cond_true,zWQ,Bool.true_and,Bool.or_false]
    cases decide (0<i) with
    | false=>rfl
    | true =>
     simp only[cond_true,Option.bind_some,Bool.true_and]
     cases decide (i+1<s.length) with
     | false=>rfl
     | true =>
      simp only[cond_true,Option.bind_some,Bool.true_and]
      rw[zOI s hb k (i+1) (p+1) (by omega) (by omega) (by omega)]
      simp only[if_true]
      rw[show p+1+(s.drop (i+1)).count 46=p+((s.drop (i+1)).count 46+1) by omega]
   | false =>
    simp only[cond_false,Option.bind_some,Bool.false_and,Bool.false_or]
    cases zDR c with
    | false=>rfl
    | true =>
     simp only[Bool.not_true,cond_false,Option.bind_some,Bool.true_and]
     rw[zOI s hb k (i+1) p (by omega) (by omega) (by omega)]
     simp
  ·rw[zAR (by omega),cond_false]
   obtain rfl:i=s.length :=(by omega);simp[okL]
theorem zO9 (n:Nat) (s:List UInt8) (h:s.length<n) (hb:s.length<=1073741824):zE9 n s=some (numB s):=by
 have:=zOI s hb n 0 0 (by omega) (by omega) (by omega)
 rw[show((0:Nat):Int)=0 from rfl,List.drop_zero]at this;rw[zE9,this]
 unfold numB;have e0:=zUf 0 s.length;have e20:=zFR s.length 20;have e1:=zFR (s.count 46) 1;rw[show((0:Nat):Int)=0 from rfl]at e0;rw[show((20:Nat):Int)=20 from rfl]at e20;rw[show((1:Nat):Int)=1 from rfl]at e1;cases okL s.length 0 s with
 | false=>rfl
 | true =>
  simp only[if_true,Option.bind_some,e0,e20,Nat.zero_add,e1]
  cases decide (0<s.length) <;> cases decide (s.length<=20) <;> rfl
theorem zP9:∀ s:List UInt8,(s.count 46=0/\Lib.indexByte s 46 = -1)∨∃ a b,s=a++46::b/\a.count 46=0/\Lib.indexByte s 46=(a.length:Int)
 | []=>.inl ⟨rfl,rfl⟩
 | c::s=>by
  by_cases h:c=46
  ·subst h;exact .inr ⟨[],s,rfl,rfl,by simp[Lib.indexByte]⟩
  ·have hc:(c == 46)=false :=(by simpa using h);rcases zP9 s with ⟨h1,h2⟩ | ⟨a,b,rfl,h1,h2⟩
   ·exact .inl ⟨by rw[List.count_cons,h1,hc]; rfl,by simp[Lib.indexByte,hc,h2]⟩
   ·refine .inr ⟨c::a,b,rfl,by rw[List.count_cons,h1,hc]; rfl,?_⟩
    have h3:((a.length:Int) == -1)=false:=by
     cases e:((a.length:Int) == -1) with
     | false=>rfl
     | true=>have:=eq_of_beq e; omega
    simp[Lib.indexByte,hc,h2,h3]
theorem zHU (L:Nat):∀ (i:Nat) (a:List UInt8),a.count 46=0->okL L i a=a.all zDR
 | _,[],_=>rfl
 | i,c::a,h=>by
  have hc:(c == 46)=false:=by
   cases e:c == 46 with
   | false=>rfl
   | true=>rw[List.count_cons,e]at h; simp at h
  rw[List.count_cons,hc]at h;rw[okL,hc,zHU L (i+1) a (by simpa using h)]
  simp
theorem zNI (L:Nat):∀ (i:Nat) (a b:List UInt8),okL L i (a++b)=(okL L i a&&okL L (i+a.length) b)
 | _,[],b=>by simp[okL]
 | i,c::a,b=>by
  simp only[List.cons_append,okL,zNI L (i+1) a b,List.length_cons,Bool.and_assoc,show i+1+a.length=i+(a.length+1) by omega]
theorem zOv:∀ a:List UInt8,a.all zDR=true->a.count 46=0
 | [],_=>rfl
 | c::a,h=>by
  simp only[List.all_cons,Bool.and_eq_true]at h;have hc:(c == 46)=false:=by
   cases e:c == 46 with
   | false=>rfl
   | true=>obtain rfl:c=46:=eq_of_beq e; simp[zWQ]at h
  rw[List.count_cons,hc,zOv a h.2]; rfl
theorem zWZ (a b:List UInt8) (ha:a.count 46=0):numB (a++46::b)=(decide ((a++46::b).length<=20)&&((a.all zDR&&!(a == []))&&(b.all zDR&&!(b == [])))):=by
 unfold numB;have hl:(a++46::b).length=a.length+(b.length+1) :=(by simp);rw[zNI,zHU _ _ a ha,hl]
 simp only[okL,zWQ,Bool.or_false,List.count_append,List.count_cons,ha,beq_self_eq_true,Bool.true_and,if_true,Nat.zero_add]
 have e1:decide (0<a.length) = !(a == []) :=(by cases a <;> rfl);have e2:decide (a.length+1<a.length+(b.length+1)) = !(b == []):=by
  cases b with
  | nil=>simp
  | cons c b=>simp
 have e3:decide (0<a.length+(b.length+1))=true:=zAS (by omega)
 rw[e1,e2,e3]
 cases hb:b.all zDR with
 | true =>
  rw[zHU _ _ b (zOv b hb),hb,zOv b hb]
  cases a.all zDR <;> cases a == [] <;> cases b == [] <;> cases decide (a.length+(b.length+1)<=20) <;> rfl
 | false =>
  cases hc:decide (b.count 46+1<=1) with
  | true =>
   have:b.count 46=0 :=(by have:=of_decide_eq_true hc; omega);rw[zHU _ _ b this,hb]
   cases a.all zDR <;> cases a == [] <;> cases b == [] <;> cases decide (a.length+(b.length+1)<=20) <;> rfl
  | false =>
   generalize okL _ _ b=z;cases z <;> cases a.all zDR <;> cases a == [] <;> cases b == [] <;> cases decide (a.length+(b.length+1)<=20) <;> rfl
theorem zUF (s:List UInt8) (h:s.count 46=0):numB s=(decide (s.length<=20)&&(s.all zDR&&!(s == []))):=by
 unfold numB;rw[zHU _ _ s h,h]
 have e1:decide (0<s.length) = !(s == []) :=(by cases s <;> rfl);rw[e1]
 cases s.all zDR <;> cases s == [] <;> cases decide (s.length<=20) <;> rfl
theorem zMS (n:Nat) (s:List UInt8) (h:s.length<n) (hb:s.length<=1073741824):zDE n s=some (numB s):=by
 have e20:=zFR s.length 20;rw[show((20:Nat):Int)=20 from rfl]at e20;have hi:zD6 s [46]=some (Lib.indexByte s 46):=rfl;rcases zP9 s with ⟨h1,h2⟩ | ⟨a,b,rfl,h1,h2⟩
 ·rw[zUF s h1]
  simp only[zDE,zEy,zCJ,hi,h2,Option.bind_some,show decide ((0:Int)<=-1)=false from rfl,cond_false,e20,zGx n s h hb]
  cases decide (s.length<=20) <;> cases(s.all zDR&&!(s == [])) <;> rfl
 ·have hl:(a++46::b).length=a.length+(b.length+1) :=(by simp);rw[zWZ a b h1]
  have w1:IntKind.i64.wrap ((a.length:Int)+(([46]:List UInt8).length:Int))=((a.length+1:Nat):Int):=zA2 (by omega)
  have t1:((a++46::b).take ((a.length:Int)).toNat).drop (0:Int).toNat=a :=(by simp);have t2:((a++46::b).take (((a++46::b).length:Int)).toNat).drop (((a.length+1:Nat):Int)).toNat=b:=by
   rw[Int.toNat_natCast,Int.toNat_natCast,List.take_length,List.drop_append]
   simp
  simp only[zDE,zEy,zCJ,hi,h2,Option.bind_some,w1]
  rw[zAS (by omega),cond_true,zBm (by omega),zBm (by omega),t1,t2]
  simp only[Option.bind_some,e20,zGx n a (by omega) (by omega),zGx n b (by omega) (by omega)]
  cases decide ((a++46::b).length<=20) <;> cases(a.all zDR&&!(a == [])) <;> cases(b.all zDR&&!(b == [])) <;> rfl
def Nd.kind:Nd->Int | .mk k _ _ _=>k
def zQ3 (k:Int) (t:List UInt8):Bool :=
 if k=2 then symB t else if k=3 then numB t else if k=4 then (decide (t.length<=200)&&t.all zGV) else if k=10 then acL.any (fun e=>e == t) else if k=11 then fenB t else t == []
def zGv (k c:Int) (m:Int):Bool :=
 if k=12 then decide (1<=c)&&(decide (c<=16)&&(decide (1<=m)&&(decide (m<=256)&&(m.tmod c == 0))))
 else (c == 0)&&(if k=1 then decide (m<=200) else if k=2 then m == 0 else if k=3 then m == 0 else if k=4 then m == 0 else if k=5 then m == 2 else if k=6 then m == 2 else if k=7 then m == 2 else if k=8 then m == 2
  else if k=9 then m == 3 else if k=10 then m == 1 else if k=11 then m == 1 else false)
mutual
def zE2:Nd->Bool
 | .mk k t c ks=>(zQ3 k t&&zGv k c (ks.length:Int))&&zEh k ks
def zEh:Int->List Nd->Bool
 | _,[]=>true
 | k,v::vs=>(!((v.kind == 1) == (k == 1))&&zE2 v)&&zEh k vs
end
mutual
def Nd.dep:Nd->Nat
 | .mk _ _ _ ks=>Nd.deps ks+1
def Nd.deps:List Nd->Nat
 | []=>0
 | v::vs=>Nat.max v.dep (Nd.deps vs)
end
theorem zNy {k:Int}{a:List Nd}{i:Nat} (h:i<a.length):zEh k (a.drop i)=((!((a[i].kind == 1) == (k == 1))&&zE2 a[i])&&zEh k (a.drop (i+1))):=by
 rw[List.drop_eq_getElem_cons h]; rfl
theorem zQa {a:List Nd}{i:Nat} (h:i<a.length):Nd.deps (a.drop i)=Nat.max (a[i]).dep (Nd.deps (a.drop (i+1))):=by
 rw[List.drop_eq_getElem_cons h]; rfl
mutual
theorem Nd.dep_cnt:∀ v:Nd,v.dep<=v.cnt
 | .mk _ _ _ ks=>by have:=Nd.deps_cnts ks; simp only[Nd.dep,Nd.cnt]; omega
theorem Nd.deps_cnts:∀ vs:List Nd,Nd.deps vs<=Nd.cnts vs
 | []=>Nat.le_refl _
 | v::vs=>by
  have:=Nd.dep_cnt v; have:=Nd.deps_cnts vs
  simp only[Nd.deps,Nd.cnts]
  exact Nat.max_le.2 ⟨by omega,by omega⟩
end
mutual
theorem Nd.cnt_w:∀ v:Nd,v.cnt<=v.w
 | .mk _ t _ ks=>by have:=Nd.cnts_ws ks; simp only[Nd.cnt,Nd.w]; omega
theorem Nd.cnts_ws:∀ vs:List Nd,Nd.cnts vs<=Nd.ws vs
 | []=>Nat.le_refl _
 | v::vs=>by have:=Nd.cnt_w v; have:=Nd.cnts_ws vs; simp only[Nd.cnts,Nd.ws]; omega
end
theorem zBP {a b:Int} (h:a ≠ b):(a == b)=false:=by
 cases e:(a == b) with
 | false=>rfl
 | true=>exact absurd (eq_of_beq e) h
theorem zR4 (n:Nat) (k:Int) (t:List UInt8) (c:Int) (ks:List Nd) (h:t.length+40<n) (hb:t.length<=1073741824):zGQ n (.mk k t c ks)=some (zQ3 k t):=by
 have e200:=zFR t.length 200;rw[show((200:Nat):Int)=200 from rfl]at e200;have ea:zEW n acL t=some (acL.any fun e=>e == t):=zMn n acL t (by simp only[acL,List.length_cons,List.length_nil]; omega) (by simp[acL])
 have a1:zDH=some acL:=rfl;unfold zGQ zQ3;dsimp only
 by_cases h2:k=2
 ·subst h2; simp only[beq_self_eq_true,cond_true,zPa n t h hb,Option.bind_some,if_true]
 rw[zBP h2,if_neg h2,cond_false]
 by_cases h3:k=3
 ·subst h3; simp only[beq_self_eq_true,cond_true,zO9 n t (by omega) hb,Option.bind_some,if_true]
 rw[zBP h3,if_neg h3,cond_false]
 by_cases h4:k=4
 ·subst h4; simp only[beq_self_eq_true,cond_true,zLb n t (by omega) hb,Option.bind_some,if_true,e200]
  cases decide (t.length<=200) <;> rfl
 rw[zBP h4,if_neg h4,cond_false]
 by_cases h10:k=10
 ·subst h10; simp only[beq_self_eq_true,cond_true,a1,ea,Option.bind_some,if_true]
 rw[zBP h10,if_neg h10,cond_false]
 by_cases h11:k=11
 ·subst h11; rw[if_pos rfl,beq_self_eq_true,cond_true,zQS n t (by omega)]; rfl
 rw[zBP h11,if_neg h11,cond_false]
theorem kinds (k:Int):k=1∨k=2∨k=3∨k=4∨k=5∨k=6∨k=7∨k=8∨k=9∨k=10∨k=11∨k=12∨(k<1∨12<k):=by omega
theorem zR3 (k:Int) (t:List UInt8) (c:Int) (ks:List Nd):zGP (.mk k t c ks)=some (zGv k c (ks.length:Int)):=by
 unfold zGP;dsimp only;generalize (ks.length:Int)=m;rcases kinds k with rfl | rfl | rfl | rfl | rfl | rfl | rfl | rfl | rfl | rfl | rfl | rfl | h
 ·simp only[bne,zGv]; generalize (c == 0)=z; generalize decide (m<=200)=y; cases z <;> rfl
 ·simp only[bne,zGv]; generalize (c == 0)=z; generalize (m == 0)=y; cases z <;> rfl
 ·simp only[bne,zGv]; generalize (c == 0)=z; generalize (m == 0)=y; cases z <;> rfl
 ·simp only[bne,zGv]; generalize (c == 0)=z; generalize (m == 0)=y; cases z <;> rfl
 ·simp only[bne,zGv]; generalize (c == 0)=z; generalize (m == 2)=y; cases z <;> rfl
 ·simp only[bne,zGv]; generalize (c == 0)=z; generalize (m == 2)=y; cases z <;> rfl
 ·simp only[bne,zGv]; generalize (c == 0)=z; generalize (m == 2)=y; cases z <;> rfl
 ·simp only[bne,zGv]; generalize (c == 0)=z; generalize (m == 2)=y; cases z <;> rfl
 ·simp only[bne,zGv]; generalize (c == 0)=z; generalize (m == 3)=y; cases z <;> rfl
 ·simp only[bne,zGv]; generalize (c == 0)=z; generalize (m == 1)=y; cases z <;> rfl
 ·simp only[bne,zGv]; generalize (c == 0)=z; generalize (m == 1)=y; cases z <;> rfl
 ·unfold zGv;rw[if_pos rfl,beq_self_eq_true,cond_true]
  by_cases h1:1<=c
  ·rw[zAS h1,zBm (by omega)]
   generalize (m.tmod c == 0)=y;cases decide (c<=16) <;> cases decide (1<=m) <;> cases decide (m<=256) <;> rfl
  ·rw[zAR h1]; rfl
 ·have e:∀ i:Int,1<=i->i<=12->(k == i)=false:=fun i h1 h2=>zBP (by omega)
  have f:∀ i:Int,1<=i->i<=12->k ≠ i:=fun i h1 h2=>by omega
  unfold zGv;rw[if_neg (f 12 (by decide) (by decide)),if_neg (f 1 (by decide) (by decide)),if_neg (f 2 (by decide) (by decide)),if_neg (f 3 (by decide) (by decide)),if_neg (f 4 (by decide) (by decide)),if_neg (f 5 (by decide) (by decide)),
   if_neg (f 6 (by decide) (by decide)),if_neg (f 7 (by decide) (by decide)),if_neg (f 8 (by decide) (by decide)),if_neg (f 9 (by decide) (by decide)),if_neg (f 10 (by decide) (by decide)),if_neg (f 11 (by decide) (by decide))]
  rw[e 12 (by decide) (by decide),e 1 (by decide) (by decide),e 2 (by decide) (by decide),e 3 (by decide) (by decide),e 4 (by decide) (by decide),e 5 (by decide) (by decide),
   e 6 (by decide) (by decide),e 7 (by decide) (by decide),e 8 (by decide) (by decide),e 9 (by decide) (by decide),e 10 (by decide) (by decide),e 11 (by decide) (by decide)]
  cases(c == 0) <;> cases(c != 0) <;> rfl
theorem zXw (n:Nat) (x:Int) (k:Int) (t:List UInt8) (c:Int) (ks:List Nd) (h:t.length+40<n) (hb:t.length<=1073741824) :
  zCo n ((),x) (.mk k t c ks)=some (zQ3 k t&&zGv k c (ks.length:Int),((),x)):=by
 have e200:=zFR t.length 200;rw[show((200:Nat):Int)=200 from rfl]at e200;unfold zCo;dsimp only;generalize (ks.length:Int)=m;have em:zB2 t=some (t == []):=rfl;rcases kinds k with rfl | rfl | rfl | rfl | rfl | rfl | rfl | rfl | rfl | rfl | rfl | rfl | h
 ·simp only[em]
  show _=some ((t == [])&&((c == 0)&&decide (m<=200)),((),x))
  cases t == [] <;> cases c == 0 <;> rfl
 ·simp only[zMT n t h hb]
  show _=some (symB t&&((c == 0)&&(m == 0)),((),x))
  cases symB t <;> cases c == 0 <;> rfl
 ·simp only[zMS n t (by omega) hb]
  show _=some (numB t&&((c == 0)&&(m == 0)),((),x))
  cases numB t <;> cases c == 0 <;> rfl
 ·simp only[zOH n t (by omega) hb,e200]
  show _=some ((decide (t.length<=200)&&t.all zGV)&&((c == 0)&&(m == 0)),((),x))
  cases decide (t.length<=200) <;> cases t.all zGV <;> cases c == 0 <;> rfl
 ·simp only[em]
  show _=some ((t == [])&&((c == 0)&&(m == 2)),((),x))
  cases t == [] <;> cases c == 0 <;> rfl
 ·simp only[em]
  show _=some ((t == [])&&((c == 0)&&(m == 2)),((),x))
  cases t == [] <;> cases c == 0 <;> rfl
 ·simp only[em]
  show _=some ((t == [])&&((c == 0)&&(m == 2)),((),x))
  cases t == [] <;> cases c == 0 <;> rfl
 ·simp only[em]
  show _=some ((t == [])&&((c == 0)&&(m == 2)),((),x))
  cases t == [] <;> cases c == 0 <;> rfl
 ·simp only[em]
  show _=some ((t == [])&&((c == 0)&&(m == 3)),((),x))
  cases t == [] <;> cases c == 0 <;> rfl
 ·simp only[zII]
  show _=some ((acL.any fun e=>e == t)&&((c == 0)&&(m == 1)),((),x))
  cases(acL.any fun e=>e == t) <;> cases c == 0 <;> rfl
 ·simp only[zOG]
  show _=some (fenB t&&((c == 0)&&(m == 1)),((),x))
  cases fenB t <;> cases c == 0 <;> rfl
 ·simp only[em]
  show _=some ((t == [])&&(decide (1<=c)&&(decide (c<=16)&&(decide (1<=m)&&(decide (m<=256)&&(m.tmod c == 0))))),((),x))
  by_cases h1:1<=c
  ·rw[zAS h1,zBm (by omega)]
   generalize (m.tmod c == 0)=y;cases t == [] <;> cases decide (c<=16) <;> cases decide (1<=m) <;> cases decide (m<=256) <;> rfl
  ·rw[zAR h1]
   cases t == [] <;> rfl
 ·have f:∀ i:Int,1<=i->i<=12->k ≠ i:=fun i h1 h2=>by omega
  have hk:zGv k c m=false:=by
   unfold zGv;rw[if_neg (f 12 (by decide) (by decide)),if_neg (f 1 (by decide) (by decide)),if_neg (f 2 (by decide) (by decide)),if_neg (f 3 (by decide) (by decide)),if_neg (f 4 (by decide) (by decide)),if_neg (f 5 (by decide) (by decide)),
    if_neg (f 6 (by decide) (by decide)),if_neg (f 7 (by decide) (by decide)),if_neg (f 8 (by decide) (by decide)),if_neg (f 9 (by decide) (by decide)),if_neg (f 10 (by decide) (by decide)),if_neg (f 11 (by decide) (by decide))]
   exact Bool.and_false _
  rw[hk,Bool.and_false]
  by_cases h1:k<1
  ·rw[zAS h1]; rfl
  ·rw[zAR h1,zAS (show 12<k by omega)]; rfl
theorem zJN {F:Nd->Option Bool}{k:Int}{ks:List Nd} (hF:∀ v∈ks,F v=some (zE2 v)) (hl:ks.length<=1073741824) :
  ∀ (q i:Nat),ks.length - i<q->i<=ks.length->zCV F k ks q (i:Int)=some (if zEh k (ks.drop i) then .go () else .ret false)
 | 0,_,h,_=>by omega
 | q+1,i,hq,hi=>by
  unfold zCV
  by_cases h:i<ks.length
  ·rw[zAS (Int.ofNat_lt.2 h),cond_true,zA0 h]
   have hf:=hF _ (List.getElem_mem h)
   have g1:=zNy (k:=k) h;rcases e:ks[i] with ⟨a,b,c,d⟩
   rw[e]at hf g1;simp only[Nd.kind]at g1;generalize zEh k (ks.drop i)=g at g1 ⊢;subst g1;simp only[Option.bind_some,hf]
   rw[zA2 (by omega),zJN hF hl q (i+1) (by omega) (by omega)]
   cases((a == 1) == (k == 1)) <;> cases zE2 (Nd.mk a b c d) <;> simp
  ·rw[zAR (by omega),cond_false]
   obtain rfl:i=ks.length :=(by omega);simp[zEh]
theorem zMp:∀ (n:Nat) (t:Nd),t.w+45<n->t.w<=1073741824->zDI n t=some (zE2 t)
 | 0,_,h,_=>by omega
 | n+1,.mk k t c ks,h,hb=>by
  simp only[Nd.w]at h hb;have hl:=Nd.ws_len ks;unfold zDI;rw[zR4 n k t c ks (by omega) (by omega),zR3]
  have:=zJN (F:=zDI n) (k:=k) (ks:=ks) (fun v hv=>zMp n v (by have:=Nd.w_mem hv; omega) (by have:=Nd.w_mem hv; omega)) (by omega) n 0 (by omega) (by omega)
  rw[show((0:Nat):Int)=0 from rfl,List.drop_zero]at this;simp only[Option.bind_some,this,zE2]
  cases zQ3 k t <;> cases zGv k c (ks.length:Int) <;> cases zEh k ks <;> rfl
theorem zIO {F:Nd->Option Int}{ks:List Nd} (hF:∀ v∈ks,F v=some (v.dep:Int)) (hl:ks.length<=1073741824) :
  ∀ (q i o:Nat),ks.length - i<q->i<=ks.length->zCA F ks q (o:Int) (i:Int)=some ((Nat.max o (Nd.deps (ks.drop i)):Nat):Int)
 | 0,_,_,h,_=>by omega
 | q+1,i,o,hq,hi=>by
  unfold zCA
  by_cases h:i<ks.length
  ·rw[zAS (Int.ofNat_lt.2 h),cond_true,zA0 h,zQa h]
   have hf:=hF _ (List.getElem_mem h)
   rcases e:ks[i] with ⟨a,b,c,d⟩
   rw[e]at hf;simp only[Option.bind_some,hf]
   have hm:(if (o:Int)<((Nd.mk a b c d).dep:Int) then ((Nd.mk a b c d).dep:Int) else (o:Int))=((Nat.max o (Nd.mk a b c d).dep:Nat):Int):=by
    by_cases g:(o:Int)<((Nd.mk a b c d).dep:Int)
    ·rw[if_pos g]; congr 1; exact(Nat.max_eq_right (by omega)).symm
    ·rw[if_neg g]; congr 1; exact(Nat.max_eq_left (by omega)).symm
   rw[zA2 (by omega),hm,zIO hF hl q (i+1) _ (by omega) (by omega)]
   congr 2
   exact Nat.max_assoc _ _ _
  ·rw[zAR (by omega),cond_false]
   obtain rfl:i=ks.length :=(by omega);rw[List.drop_length]
   congr 2
   exact(Nat.max_eq_left (Nat.zero_le _)).symm
theorem zKT:∀ (n:Nat) (t:Nd),t.cnt<n->t.cnt<=67108864->zCU n t=some (t.dep:Int)
 | 0,_,h,_=>by omega
 | n+1,.mk k t c ks,h,hb=>by
  simp only[Nd.cnt]at h hb;have hl:=Nd.cnts_len ks;have hd:=Nd.deps_cnts ks;unfold zCU;have:=zIO (F:=zCU n) (ks:=ks) (fun v hv=>zKT n v (by have:=Nd.cnts_mem hv; omega) (by have:=Nd.cnts_mem hv; omega)) (by omega) n 0 0 (by omega) (by omega)
  rw[show((0:Nat):Int)=0 from rfl,List.drop_zero]at this;rw[this,Option.bind_some,show Nat.max 0 (Nd.deps ks)=Nd.deps ks from Nat.max_eq_right (Nat.zero_le _),zA2 (by omega)]
  rfl
def zAM (t:Nd):Bool:=(t.kind == 1)&&(zE2 t&&(decide (t.cnt<=1000)&&decide (t.dep<=24)))
theorem zEn (n:Nat) (t:Nd) (h:t.w+45<n) (hb:t.w<=67108864):zAZ n t=some (zAM t):=by
 have hc:=Nd.cnt_w t;have e1:=zMp n t h (by omega)
 have e2:=zKS n t (by omega) (by omega)
 have e3:=zKT n t (by omega) (by omega)
 have e4:=zFR t.cnt 1000;rw[show((1000:Nat):Int)=1000 from rfl]at e4;have e5:=zFR t.dep 24;rw[show((24:Nat):Int)=24 from rfl]at e5;obtain⟨k,s,c,ks⟩:=t;unfold zAZ zAM;simp only[e1,e2,e3,Option.bind_some,e4,e5,Nd.kind]
 cases k == 1 <;> cases zE2 (.mk k s c ks) <;> cases decide ((Nd.mk k s c ks).cnt<=1000) <;> rfl
abbrev okN (t:Nd) (x d:Nat):Prop:=zE2 t=true/\x+t.cnt<=1000/\d+t.dep<=25
abbrev okNs (k:Int) (vs:List Nd) (x d:Nat):Prop:=zEh k vs=true/\x+Nd.cnts vs<=1000/\d+Nd.deps vs<=24
theorem zNu {F:(Unit×Int)->Nd->Int->Option (Bool×(Unit×Int))}{k:Int}{ks:List Nd}{d:Nat} (hd:d<=24)
  (hF:∀ v∈ks,∀ x:Nat,x<=1000->∃ y,F ((),(x:Int)) v ((d+1:Nat):Int)=some (decide (okN v x (d+1)),((),y))/\(okN v x (d+1)->y=((x+v.cnt:Nat):Int))) (hl:ks.length<=1073741824) :
  ∀ (q i x:Nat),ks.length - i<q->i<=ks.length->x<=1000 ->
   (okNs k (ks.drop i) x d/\zA4 F k ks (d:Int) q (x:Int) (i:Int)=some (.go ((x+Nd.cnts (ks.drop i):Nat):Int))) ∨
   (¬ okNs k (ks.drop i) x d/\∃ z,zA4 F k ks (d:Int) q (x:Int) (i:Int)=some (.ret (false,((),z))))
 | 0,_,_,h,_,_=>by omega
 | q+1,i,x,hq,hi,hx=>by
  unfold zA4
  by_cases h:i<ks.length
  ·rw[zAS (Int.ofNat_lt.2 h),cond_true,zA0 h]
   obtain⟨y,hf,hy⟩:=hF _ (List.getElem_mem h) x hx;have g1:=zNy (k:=k) h;have g2:=Nd.cnts_drop h;have g3:=zQa h;rcases e:ks[i] with ⟨a,b,c,ds⟩
   rw[e]at hf hy g1 g2 g3;simp only[Option.bind_some]
   rw[zA2 (by omega),zA2 (by omega),hf]
   simp only[Option.bind_some]
   have g4:Nd.deps (ks.drop i)=Nat.max (Nd.mk a b c ds).dep (Nd.deps (ks.drop (i+1))):=g3;have g5:(Nd.mk a b c ds).dep<=Nd.deps (ks.drop i) :=(by rw[g4]; exact Nat.le_max_left _ _);have g6:Nd.deps (ks.drop (i+1))<=Nd.deps (ks.drop i) :=(by rw[g4]; exact Nat.le_max_right _ _);rw[show((k == 1) == (a == 1))=((a == 1) == (k == 1)) by cases k == 1 <;> cases a == 1 <;> rfl]
   cases hkk:((a == 1) == (k == 1)) with
   | true =>
    simp only[cond_true,Option.bind_some]
    refine .inr ⟨fun⟨h1,_⟩=>?_,_,rfl⟩
    rw[g1]at h1;simp[Nd.kind,hkk]at h1
   | false =>
    simp only[cond_false,Option.bind_some]
    by_cases hok:okN (Nd.mk a b c ds) x (d+1)
    ·rw[zAS hok]
     simp only[Bool.not_true,cond_false]
     rw[hy hok]
     have hp:=(Nd.mk a b c ds).cnt_pos;rcases zNu hd hF hl q (i+1) (x+(Nd.mk a b c ds).cnt) (by omega) (by omega) hok.2.1 with ⟨hr,hr2⟩ | ⟨hr,z,hr2⟩
     ·refine .inl ⟨⟨?_,?_,?_⟩,?_⟩
      ·rw[g1,hr.1,hok.1]; simp[Nd.kind,hkk]
      ·have:=hr.2.1; omega
      ·have:=hr.2.2;have:=hok.2.2;have:Nd.deps (ks.drop i)<=24 - d:=by rw[g4]; exact Nat.max_le.2 ⟨by omega,by omega⟩
       omega
      ·rw[hr2,g2]; congr 3; omega
     ·refine .inr ⟨fun⟨h1,h2,h3⟩=>hr ⟨?_,by omega,by omega⟩,z,hr2⟩
      rw[g1]at h1;simp only[Bool.and_eq_true]at h1;exact h1.2
    ·rw[zAR hok]
     simp only[Bool.not_false,cond_true]
     refine .inr ⟨fun⟨h1,h2,h3⟩=>hok ⟨?_,by omega,by omega⟩,y,rfl⟩
     rw[g1]at h1;simp only[Bool.and_eq_true]at h1;exact h1.1.2
  ·rw[zAR (by omega),cond_false]
   obtain rfl:i=ks.length :=(by omega);rw[List.drop_length]
   exact .inl ⟨⟨rfl,hx,hd⟩,rfl⟩
theorem zSr:∀ (n:Nat) (t:Nd) (x d:Nat),t.w+45<n->t.w<=67108864->x<=1000->d<=25 ->
  ∃ y,zBc n ((),(x:Int)) t (d:Int)=some (decide (okN t x d),((),y))/\(okN t x d->y=((x+t.cnt:Nat):Int))
 | 0,_,_,_,h,_,_,_=>by omega
 | n+1,.mk k t c ks,x,d,h,hb,hx,hd=>by
  simp only[Nd.w]at h hb;have hl:=Nd.ws_len ks;unfold zBc;rw[zA2 (by omega)]
  by_cases h1:1000<((x+1:Nat):Int)
  ·rw[zAS h1]
   simp only[cond_true,Option.bind_some]
   have hn:¬ okN (.mk k t c ks) x d:=fun⟨_,h2,_⟩=>by simp only[Nd.cnt]at h2; omega
   exact⟨_,by rw[zAR hn],fun h=>absurd h hn⟩
  ·rw[zAR h1,cond_false]
   by_cases h2:24<(d:Int)
   ·rw[zAS h2]
    simp only[cond_true,Option.bind_some]
    have hn:¬ okN (.mk k t c ks) x d:=fun⟨_,_,h2⟩=>by simp only[Nd.dep]at h2; omega
    exact⟨_,by rw[zAR hn],fun h=>absurd h hn⟩
   ·rw[zAR h2,cond_false,zXw n _ k t c ks (by omega) (by omega)]
    simp only[Option.bind_some]
    cases ho:(zQ3 k t&&zGv k c (ks.length:Int)) with
    | false =>
     simp only[Bool.not_false,cond_true]
     have hn:¬ okN (.mk k t c ks) x d:=fun⟨h1,_⟩=>by rw[zE2,ho]at h1; cases h1
     exact⟨_,by rw[zAR hn],fun h=>absurd h hn⟩
    | true =>
     simp only[Bool.not_true,cond_false]
     have:=zNu (F:=zBc n) (k:=k) (ks:=ks) (d:=d) (by omega) (fun v hv z hz=>zSr n v z (d+1) (by have:=Nd.w_mem hv; omega) (by have:=Nd.w_mem hv; omega) hz (by omega)) (by omega) n 0 (x+1) (by omega) (by omega) (by omega)
     rw[show((0:Nat):Int)=0 from rfl,List.drop_zero]at this;rcases this with ⟨hr,hr2⟩ | ⟨hr,z,hr2⟩
     ·have hy:okN (.mk k t c ks) x d:=⟨by rw[zE2,ho,hr.1]; rfl,by have:=hr.2.1; simp only[Nd.cnt]; omega,by have:=hr.2.2; simp only[Nd.dep]; omega⟩
      rw[hr2]
      exact⟨_,by rw[zAS hy]; rfl,fun _=>by simp only[Nd.cnt]; omega⟩
     ·have hn:¬ okN (.mk k t c ks) x d:=fun⟨g1,g2,g3⟩=>hr ⟨by rw[zE2,ho]at g1; exact g1,by simp only[Nd.cnt]at g2; omega,by simp only[Nd.dep]at g3; omega⟩
      rw[hr2]
      exact⟨_,by rw[zAR hn]; rfl,fun h=>absurd h hn⟩
theorem zCY (n:Nat) (t:Nd) (h:t.w+45<n) (hb:t.w<=67108864):zBf n t=some (zAM t):=by
 obtain⟨y,h1,_⟩:=zSr n t 0 1 h hb (by omega) (by omega)
 rw[show((0:Nat):Int)=0 from rfl,show((1:Nat):Int)=1 from rfl]at h1;obtain⟨k,s,c,ks⟩:=t;unfold zBf zAM;have hk:zGj=some ():=rfl;simp only[hk,h1,Option.bind_some,Nd.kind]
 cases k == 1 with
 | false=>rfl
 | true =>
  simp only[cond_true,Option.bind_some,Bool.true_and,Option.some.injEq,okN]
  cases zE2 (.mk k s c ks) with
  | false=>simp
  | true =>
   by_cases g1:(Nd.mk k s c ks).cnt<=1000
   ·by_cases g2:(Nd.mk k s c ks).dep<=24
    ·rw[zAS g1,zAS g2,zAS ⟨rfl,by omega,by omega⟩]; rfl
    ·rw[zAS g1,zAR g2,zAR (fun h=>g2 (by omega))]; rfl
   ·rw[zAR g1,zAR (fun h=>g1 (by omega))]; rfl
def Nd.text:Nd->List UInt8 | .mk _ t _ _=>t
def Nd.cols:Nd->Int | .mk _ _ c _=>c
theorem Nd.cnt_kids:∀ x:Nd,x.cnt=Nd.cnts x.kids+1
 | .mk _ _ _ _=>rfl
def zXk (x y:Nd):Bool:=(x.kind == y.kind)&&(((x.kids.length:Int) == (y.kids.length:Int))&&(x.cols == y.cols))
def rowD (P:Nd->Nd->Nat) (x:Nd) (f:List Nd->Nat):List Nd->Nat
 | []=>x.cnt+f []
 | y::ys=>if zXk x y then min (min (x.cnt+f (y::ys)) (y.cnt+rowD P x f ys)) (P x y+f ys) else min (x.cnt+f (y::ys)) (y.cnt+rowD P x f ys)
def TD (P:Nd->Nd->Nat):List Nd->List Nd->Nat
 | []=>Nd.cnts
 | x::xs=>rowD P x (TD P xs)
def sumD (f:List Nd->List Nd->Nat):List Nd->List Nd->Nat
 | u::us,v::vs=>f u.kids v.kids+sumD f us vs
 | _,_=>0
def txt (x y:Nd):Nat:=bif x.text == y.text then 0 else 1
def PD:Nat->Nd->Nd->Nat
 | 0,_,_=>0
 | n+1,x,y=>txt x y+sumD (TD (PD n)) x.kids y.kids
def D (x y:Nd):Nat:=PD x.cnt x y
theorem zFW {k:Int}:∀ {a:List Nd}{v:Nd},zEh k a=true->v∈a->zE2 v=true/\((v.kind == 1) == (k == 1))=false
 | u::a,v,h,hm=>by
  simp only[zEh,Bool.and_eq_true,Bool.not_eq_true']at h;rcases List.mem_cons.1 hm with rfl | hm
  ·exact⟨h.1.2,h.1.1⟩
  ·exact zFW h.2 hm
theorem zSx {u:Nd} (h:zE2 u=true) (hk:u.kind=1):u = .mk 1 [] 0 u.kids/\zEh 1 u.kids=true:=by
 obtain⟨k,t,c,ks⟩:=u;simp only[Nd.kind]at hk;subst hk;simp only[zE2,Bool.and_eq_true]at h;obtain⟨⟨h1,h2⟩,h3⟩:=h;have h1':(t == [])=true:=h1;have h2':((c == 0)&&decide ((ks.length:Int)<=200))=true:=h2;simp only[Bool.and_eq_true]at h2';rw[eq_of_beq h1',eq_of_beq h2'.1]
 exact⟨rfl,h3⟩
theorem zQX {F:Nd->Nd->Option Bool}{a b:List Nd} (hF:∀ u∈a,∀ v∈b,∃ y,F u v=some y/\(y=true↔u=v)) (hl:a.length=b.length) (hb:a.length<=1073741824) :
  ∀ (q i:Nat),a.length - i<q->i<=a.length->∃ y,zBC F a b q (i:Int)=some (if y then .go () else .ret false)/\(y=true↔a.drop i=b.drop i)
 | 0,_,h,_=>by omega
 | q+1,i,hq,hi=>by
  unfold zBC
  by_cases h:i<a.length
  ·have h':i<b.length :=(by omega);rw[zAS (Int.ofNat_lt.2 h),cond_true,zA0 h,zA0 h']
   obtain⟨y,f1,f2⟩:=hF _ (List.getElem_mem h) _ (List.getElem_mem h')
   have d1:=List.drop_eq_getElem_cons h;have d2:=List.drop_eq_getElem_cons h';rcases e:a[i] with ⟨x1,x2,x3,x4⟩
   rcases e':b[i] with ⟨y1,y2,y3,y4⟩
   rw[e,e']at f1 f2;rw[e]at d1;rw[e']at d2;simp only[Option.bind_some,f1]
   cases y with
   | false =>
    refine⟨false,rfl,⟨(fun h=>by cases h),fun h=>?_⟩⟩
    rw[d1,d2]at h;exact f2.2 (List.cons.inj h).1
   | true =>
    simp only[Bool.not_true,cond_false]
    rw[zA2 (by omega)]
    obtain⟨z,g1,g2⟩:=zQX hF hl hb q (i+1) (by omega) (by omega)
    refine⟨z,g1,?_⟩
    rw[d1,d2,g2,f2.1 rfl]
    simp
  ·rw[zAR (by omega),cond_false]
   obtain rfl:i=a.length :=(by omega);refine⟨true,rfl,?_⟩
   rw[List.drop_length,hl,List.drop_length]
   simp
theorem zLf:∀ N:Nat,(∀ x y:Nd,2 * x.cnt<N->x.cnt<=67108864->∃ r,zBv N x y=some r/\(r=true↔x=y)) /\
  (∀ a b:List Nd,2 * Nd.cnts a+1<N->Nd.cnts a<=67108864->∃ r,zCb N a b=some r/\(r=true↔a=b))
 | 0=>⟨fun _ _ h _=>by omega,fun _ _ h _=>by omega⟩
 | n+1=>by
  obtain⟨ih1,ih2⟩:=zLf n;refine⟨fun x y h hx=>?_,fun a b h ha=>?_⟩
  ·obtain⟨a,b,c,d⟩:=x;obtain⟨a',b',c',d'⟩:=y;simp only[Nd.cnt]at h hx;obtain⟨r,h1,h2⟩:=ih2 d d' (by omega) (by omega)
   unfold zBv;simp only[h1,Option.bind_some]
   cases e1:a == a' with
   | false=>exact⟨false,rfl,⟨(fun h=>by cases h),fun h=>by cases h; simp at e1⟩⟩
   | true =>
    cases e2:b == b' with
    | false=>exact⟨false,rfl,⟨(fun h=>by cases h),fun h=>by cases h; simp at e2⟩⟩
    | true =>
     cases e3:c == c' with
     | false=>exact⟨false,rfl,⟨(fun h=>by cases h),fun h=>by cases h; simp at e3⟩⟩
     | true =>
      refine⟨r,rfl,h2.trans ⟨fun h=>?_,fun h=>by cases h; rfl⟩⟩
      rw[eq_of_beq e1,eq_of_beq e2,eq_of_beq e3,h]
  ·unfold zCb;have l1:=Nd.cnts_len a
   by_cases hl:a.length=b.length
   ·obtain⟨y,g1,g2⟩:=zQX (F:=zBv n) (a:=a) (b:=b) (fun u hu v _=>ih1 u v (by have:=Nd.cnts_mem hu; omega) (by have:=Nd.cnts_mem hu; omega)) hl (by omega) n 0 (by omega) (by omega)
    rw[show((0:Nat):Int)=0 from rfl]at g1;rw[hl,bne_self_eq_false,cond_false,g1]
    refine⟨y,by cases y <;> rfl,g2⟩
   ·have:((a.length:Int) != (b.length:Int))=true:=by
     unfold bne;rw[zBP (by omega)]; rfl
    rw[this]
    exact⟨false,rfl,⟨(fun h=>by cases h),fun h=>absurd (congrArg List.length h) hl⟩⟩
theorem zJW {x:Nd} (h:zAM x=true):x = .mk 1 [] 0 x.kids/\zEh 1 x.kids=true:=by
 unfold zAM at h;simp only[Bool.and_eq_true]at h;exact zSx h.2.1 (eq_of_beq h.1)
inductive Fd:Nd->List Int->Nd->Prop
 | nil (t:Nd):Fd t [] t
 | step {k:Int} {tx:List UInt8} {c:Int} {ks:List Nd} {i:Nat} {k2:Int} {tx2:List UInt8} {c2:Int} {ks2:List Nd} {s:Nat} {z r:Nd} {p:List Int}
   (hi:ks[i]? = some (.mk k2 tx2 c2 ks2)) (hs:ks2[s]? = some z) (h:Fd z p r):Fd (.mk k tx c ks) ((i:Int)::(s:Int)::p) r
theorem Fd.find {t r:Nd}{p:List Int} (h:Fd t p r):zBA t p=some r:=by
 induction h with
 | nil t=>rw[zBA]
 | @step k tx c ks i k2 tx2 c2 ks2 s z r p hi hs _ ih =>
  have hl:=(List.getElem?_eq_some_iff.1 hi).1;have hl2:=(List.getElem?_eq_some_iff.1 hs).1;rw[zBA,if_pos ⟨by omega,show(i:Int)<(ks.length:Int) by omega⟩]
  simp only[Nd.kids,List.getD_eq_getElem?_getD,Int.toNat_natCast,hi,hs,Option.getD_some]
  rw[if_pos ⟨by omega,show(s:Int)<(ks2.length:Int) by omega⟩]
  exact ih
theorem Fd.of:∀ (N:Nat) (p:List Int) (t r:Nd),p.length<N->zBA t p=some r->Fd t p r
 | 0,p,_,_,h,_=>by omega
 | N+1,[],t,r,_,h=>by
  rw[zBA]at h;cases h;exact .nil t
 | N+1,[_],t,r,_,h=>by
  rw[zBA]at h;cases h
 | N+1,i::s::p,.mk k tx c ks,r,hN,h=>by
  rw[zBA]at h;split at h
  ·rename_i hi
   replace hi:0<=i/\i<ks.length:=hi;obtain⟨i,rfl⟩:=Int.eq_ofNat_of_zero_le hi.1;have hx:ks[i]? = some ks[i]:=List.getElem?_eq_getElem (by omega)
   generalize ks[i]=x at hx;obtain⟨k2,tx2,c2,ks2⟩:=x;simp only[Nd.kids,List.getD_eq_getElem?_getD,Int.toNat_natCast,hx,Option.getD_some]at h;split at h
   ·rename_i hs
    obtain⟨s,rfl⟩:=Int.eq_ofNat_of_zero_le hs.1;have hz:ks2[s]? = some ks2[s]:=List.getElem?_eq_getElem (by omega)
    generalize ks2[s]=z at hz;rw[Int.toNat_natCast,hz,Option.getD_some]at h;exact .step hx hz (Fd.of N p z r (by simp only[List.length_cons]at hN; omega) h)
   ·cases h
  ·cases h
theorem zVE {p:List Int}{t r:Nd} (h:zBA t p=some r):Fd t p r:=Fd.of _ p t r (Nat.lt_succ_self _) h
theorem zH4 {t r:Nd}:putL t [] r=r:=by cases t; rw[putL]; intros; contradiction
theorem zES {k:Int}{tx:List UInt8}{c:Int}{ks:List Nd}{i:Nat}{k2:Int}{tx2:List UInt8}{c2:Int}{ks2:List Nd}{s:Nat}{z r:Nd}{p:List Int} (hi:ks[i]? = some (.mk k2 tx2 c2 ks2)) (hs:ks2[s]? = some z) :
  putL (.mk k tx c ks) ((i:Int)::(s:Int)::p) r = .mk k tx c (ks.set i (.mk k2 tx2 c2 (ks2.set s (putL z p r)))):=by
 rw[putL,Int.toNat_natCast,hi]
 dsimp only;rw[Int.toNat_natCast,hs]
theorem zJd:∀ {ks:List Nd}{i:Nat}{x y:Nd},ks[i]? = some x->Nd.ws (ks.set i y)+x.w=Nd.ws ks+y.w
 | [],i,x,y,h=>by simp at h
 | v::ks,0,x,y,h=>by
  obtain rfl:v=x :=(by simpa using h);simp only[List.set_cons_zero,Nd.ws]; omega
 | v::ks,i+1,x,y,h=>by
  have:=zJd (ks:=ks) (i:=i) (x:=x) (y:=y) (by simpa using h)
  simp only[List.set_cons_succ,Nd.ws]; omega
theorem Fd.w {t z:Nd}{p:List Int} (h:Fd t p z) (r:Nd):(putL t p r).w+z.w=t.w+r.w:=by
 induction h with
 | nil t=>rw[zH4]; omega
 | @step k tx c ks i k2 tx2 c2 ks2 s z r' p hi hs _ ih =>
  rw[zES hi hs]
  have h1:=zJd (y:=.mk k2 tx2 c2 (ks2.set s (putL z p r))) hi;have h2:=zJd (y:=putL z p r) hs;simp only[Nd.w]at *
  omega
theorem zQZ {α:Type}{l:List α}{i:Nat}{x y:α} (h:l[i]? = some x):(l.set i y)[i]? = some y:=by
 rw[List.getElem?_set,if_pos rfl,if_pos (List.getElem?_eq_some_iff.1 h).1]
theorem zLn {α:Type}{l:List α}{i:Nat}{x y:α} (h:l[i]? = some x):(l.set i y).set i x=l:=by
 refine List.ext_getElem? fun j=>?_
 rw[List.set_set,List.getElem?_set]
 split
 ·rename_i e
  subst e;rw[if_pos (List.getElem?_eq_some_iff.1 h).1,h]
 ·rfl
theorem Fd.put {t z:Nd}{p:List Int} (h:Fd t p z) (r:Nd):Fd (putL t p r) p r:=by
 induction h with
 | nil t=>rw[zH4]; exact .nil r
 | @step k tx c ks i k2 tx2 c2 ks2 s z r' p hi hs _ ih =>
  rw[zES hi hs]
  exact .step (zQZ hi) (zQZ hs) ih
theorem Fd.put_put {t z:Nd}{p:List Int} (h:Fd t p z) (r q:Nd):putL (putL t p r) p q=putL t p q:=by
 induction h with
 | nil t=>simp only[zH4]
 | @step k tx c ks i k2 tx2 c2 ks2 s z r' p hi hs _ ih =>
  rw[zES hi hs,zES hi hs,zES (zQZ hi) (zQZ hs),ih]
  simp only[List.set_set]
theorem Fd.put_self {t z:Nd}{p:List Int} (h:Fd t p z):putL t p z=t:=by
 induction h with
 | nil t=>rw[zH4]
 | @step k tx c ks i k2 tx2 c2 ks2 s z r' p hi hs _ ih =>
  rw[zES hi hs,ih]
  have e1:ks2.set s z=ks2:=by
   have:=zLn (y:=z) hs
   rwa [List.set_set]at this
  have e2:ks.set i (.mk k2 tx2 c2 ks2)=ks:=by
   have:=zLn (y:=.mk k2 tx2 c2 ks2) hi
   rwa [List.set_set]at this
  rw[e1,e2]
theorem Fd.back {t z:Nd}{p:List Int} (h:Fd t p z) (r:Nd):putL (putL t p r) p z=t:=by rw[h.put_put,h.put_self]
theorem zHI:∀ {ks:List Nd}{v:Nd},v∈ks->v.dep<=Nd.deps ks
 | u::ks,v,h=>by
  simp only[Nd.deps]
  rcases List.mem_cons.1 h with rfl | h
  ·exact Nat.le_max_left _ _
  ·exact Nat.le_trans (zHI h) (Nat.le_max_right _ _)
theorem zJB {k:Int}{tx:List UInt8}{c:Int}{ks:List Nd} (h:zE2 (.mk k tx c ks)=true):zEh k ks=true:=by
 simp only[zE2,Bool.and_eq_true]at h;exact h.2
theorem Fd.form {t z:Nd}{p:List Int} (h:Fd t p z) (hf:zE2 t=true) (hk:t.kind=1):zE2 z=true/\z.kind=1:=by
 induction h with
 | nil t=>exact⟨hf,hk⟩
 | @step k tx c ks i k2 tx2 c2 ks2 s z r' p hi hs _ ih =>
  obtain⟨f1,f2⟩:=zFW (zJB hf) (List.mem_of_getElem? hi)
  obtain⟨g1,g2⟩:=zFW (zJB f1) (List.mem_of_getElem? hs)
  have hk:k=1:=hk;subst hk;have f3:(k2 == 1)=false :=(by simpa [Nd.kind] using f2);rw[f3]at g2;refine ih g1 ?_;cases e:z.kind == 1 with
  | true=>exact eq_of_beq e
  | false=>rw[e]at g2; cases g2
theorem Fd.small {t z:Nd}{p:List Int} (h:Fd t p z):z.cnt<=t.cnt/\z.dep<=t.dep/\z.w<=t.w:=by
 induction h with
 | nil t=>exact⟨Nat.le_refl _,Nat.le_refl _,Nat.le_refl _⟩
 | @step k tx c ks i k2 tx2 c2 ks2 s z r' p hi hs _ ih =>
  have m1:=Nd.w_mem (List.mem_of_getElem? hi)
  have m2:=Nd.w_mem (List.mem_of_getElem? hs)
  have n1:=Nd.cnts_mem (List.mem_of_getElem? hi)
  have n2:=Nd.cnts_mem (List.mem_of_getElem? hs)
  have d1:=zHI (List.mem_of_getElem? hi)
  have d2:=zHI (List.mem_of_getElem? hs)
  simp only[Nd.w,Nd.cnt,Nd.dep]at *
  omega
theorem Fd.valid {t z:Nd}{p:List Int} (h:Fd t p z) (hv:zAM t=true):zAM z=true:=by
 unfold zAM at hv ⊢;simp only[Bool.and_eq_true,decide_eq_true_eq]at hv ⊢;obtain⟨h1,h2,h3,h4⟩:=hv;obtain⟨f1,f2⟩:=h.form h2 (eq_of_beq h1)
 obtain⟨s1,s2,_⟩:=h.small;exact⟨by rw[f2]; rfl,f1,by omega,by omega⟩
mutual
def posI:List Int->Nat->List Nd->List (List Int)
 | p,i,[]=>[p++[(i:Int)]]
 | p,i,x::xs=>(p++[(i:Int)])::(posX p i x++posI p (i+1) xs)
def posX:List Int->Nat->Nd->List (List Int)
 | p,i,.mk _ _ _ ks=>posS p i 0 ks
def posS:List Int->Nat->Nat->List Nd->List (List Int)
 | _,_,_,[]=>[]
 | p,i,s,u::us=>posU (p++[(i:Int),(s:Int)]) u++posS p i (s+1) us
def posU:List Int->Nd->List (List Int)
 | p,.mk _ _ _ ks=>posI p 0 ks
end
def inL:List Nd->List Int->Prop
 | l,[o]=>0<=o/\o<=(l.length:Int)
 | l,i::s::r=>0<=i/\∃ x,l[i.toNat]? = some x/\0<=s/\∃ u,x.kids[s.toNat]? = some u/\inL u.kids r
 | _,[]=>False
theorem zOz {l:List Nd}{o:Int}:inL l [o]↔0<=o/\o<=(l.length:Int):=Iff.rfl
theorem zEI {l:List Nd}{i s:Int}{r:List Int}:inL l (i::s::r)↔0<=i/\∃ x,l[i.toNat]? = some x/\0<=s/\∃ u,x.kids[s.toNat]? = some u/\inL u.kids r:=by
 cases r <;> rfl
mutual
theorem zSG:∀ (p:List Int) (i:Nat) (xs:List Nd) (q:List Int),q∈posI p i xs↔∃ a r,q=p++a::r/\(i:Int)<=a/\inL xs ((a - i)::r)
 | p,i,[],q=>by
  rw[posI,List.mem_singleton]
  constructor
  ·rintro rfl
   exact⟨i,[],rfl,Int.le_refl _,by rw[Int.sub_self]; exact⟨Int.le_refl _,Int.le_refl _⟩⟩
  ·rintro⟨a,r,rfl,h1,h2⟩
   cases r with
   | nil =>
    have:=zOz.1 h2
    have e:a=i:=by simp at this; omega
    rw[e]
   | cons s r =>
    obtain⟨_,x,h,_⟩:=zEI.1 h2
    simp at h
 | p,i,x::xs,q=>by
  rw[posI,List.mem_cons,List.mem_append,zVM p i x q,zSG p (i+1) xs q]
  constructor
  ·rintro(rfl | ⟨s,r,rfl,h0,u,h1,h2⟩ | ⟨a,r,rfl,h1,h2⟩)
   ·exact⟨i,[],rfl,Int.le_refl _,by rw[Int.sub_self]; exact⟨Int.le_refl _,by simp; omega⟩⟩
   ·refine⟨i,s::r,by simp,Int.le_refl _,?_⟩
    rw[Int.sub_self]
    exact zEI.2 ⟨Int.le_refl _,x,rfl,h0,u,h1,h2⟩
   ·refine⟨a,r,rfl,by omega,?_⟩
    have e:a - (i:Int)=(a - ((i+1:Nat):Int))+1:=by omega
    rw[e]
    cases r with
    | nil =>
     have:=zOz.1 h2
     exact⟨by omega,by simp; omega⟩
    | cons s r =>
     obtain⟨g0,y,g1,g2⟩:=zEI.1 h2
     refine zEI.2 ⟨by omega,y,?_,g2⟩
     rw[show(a - ((i+1:Nat):Int)+1).toNat=(a - ((i+1:Nat):Int)).toNat+1 by omega]
     simpa using g1
  ·rintro⟨a,r,rfl,h1,h2⟩
   by_cases ha:a=i
   ·subst ha
    rw[Int.sub_self]at h2
    cases r with
    | nil=>exact .inl rfl
    | cons s r =>
     obtain⟨g0,y,g1,g2,u,g3,g4⟩:=zEI.1 h2
     obtain rfl:x=y:=by simpa using g1
     exact .inr (.inl ⟨s,r,by simp,g2,u,g3,g4⟩)
   ·refine .inr (.inr ⟨a,r,rfl,by omega,?_⟩)
    have e:a - (i:Int)=(a - ((i+1:Nat):Int))+1:=by omega
    rw[e]at h2
    cases r with
    | nil =>
     have:=zOz.1 h2
     exact⟨by omega,by simp at this; omega⟩
    | cons s r =>
     obtain⟨g0,y,g1,g2⟩:=zEI.1 h2
     refine zEI.2 ⟨by omega,y,?_,g2⟩
     rw[show(a - ((i+1:Nat):Int)+1).toNat=(a - ((i+1:Nat):Int)).toNat+1 by omega]at g1
     simpa using g1
theorem zVM:∀ (p:List Int) (i:Nat) (x:Nd) (q:List Int),q∈posX p i x↔∃ s r,q=p++[(i:Int)]++s::r/\0<=s/\∃ u,x.kids[s.toNat]? = some u/\inL u.kids r
 | p,i,.mk k t c ks,q=>by
  rw[posX,zSH p i 0 ks q]
  constructor
  ·rintro⟨s,r,h1,h2,u,h3,h4⟩
   exact⟨s,r,h1,by omega,u,by simpa [Nd.kids] using h3,h4⟩
  ·rintro⟨s,r,h1,h2,u,h3,h4⟩
   exact⟨s,r,h1,by omega,u,by simpa [Nd.kids] using h3,h4⟩
theorem zSH:∀ (p:List Int) (i s:Nat) (us:List Nd) (q:List Int),q∈posS p i s us↔∃ b r,q=p++[(i:Int)]++b::r/\(s:Int)<=b/\∃ u,us[(b - s).toNat]? = some u/\inL u.kids r
 | p,i,s,[],q=>by
  rw[posS]
  constructor
  ·intro h; cases h
  ·rintro⟨b,r,_,_,u,h,_⟩; simp at h
 | p,i,s,u::us,q=>by
  rw[posS,List.mem_append,zSI (p++[(i:Int),(s:Int)]) u q,zSH p i (s+1) us q]
  constructor
  ·rintro(⟨r,rfl,h⟩ | ⟨b,r,rfl,h1,v,h2,h3⟩)
   ·exact⟨s,r,by simp,Int.le_refl _,u,by rw[Int.sub_self]; rfl,h⟩
   ·refine⟨b,r,rfl,by omega,v,?_,h3⟩
    rw[show(b - (s:Int)).toNat=(b - ((s+1:Nat):Int)).toNat+1 by omega]
    simpa using h2
  ·rintro⟨b,r,rfl,h1,v,h2,h3⟩
   by_cases hb:b=s
   ·subst hb
    rw[Int.sub_self]at h2
    obtain rfl:u=v:=by simpa using h2
    exact .inl ⟨r,by simp,h3⟩
   ·refine .inr ⟨b,r,rfl,by omega,v,?_,h3⟩
    rw[show(b - (s:Int)).toNat=(b - ((s+1:Nat):Int)).toNat+1 by omega]at h2
    simpa using h2
theorem zSI:∀ (p:List Int) (u:Nd) (q:List Int),q∈posU p u↔∃ r,q=p++r/\inL u.kids r
 | p,.mk k t c ks,q=>by
  rw[posU,zSG p 0 ks q]
  constructor
  ·rintro⟨a,r,rfl,h1,h2⟩
   exact⟨a::r,rfl,by simpa [Nd.kids] using h2⟩
  ·rintro⟨r,rfl,h⟩
   cases r with
   | nil=>exact h.elim
   | cons a r =>
    refine⟨a,r,rfl,?_,by simpa [Nd.kids] using h⟩
    cases r with
    | nil=>exact(zOz.1 h).1
    | cons s r=>exact(zEI.1 h).1
end
def posT (t:Nd):List (List Int):=posU [] t
theorem zLk (t:Nd) (q:List Int):q∈posT t↔inL t.kids q:=by
 unfold posT;rw[zSI]
 constructor
 ·rintro⟨r,rfl,h⟩; exact h
 ·intro h; exact⟨q,rfl,h⟩
mutual
theorem zO5:∀ (p:List Int) (i:Nat) (xs:List Nd),(posI p i xs).length<=Nd.cnts xs+1
 | p,i,[]=>by rw[posI]; simp
 | p,i,x::xs=>by
  have h1:=zVY p i x
  have h2:=zO5 p (i+1) xs
  rw[posI]
  simp only[List.length_cons,List.length_append,Nd.cnts]
  omega
theorem zVY:∀ (p:List Int) (i:Nat) (x:Nd),(posX p i x).length+1<=x.cnt
 | p,i,.mk k t c ks=>by
  have h:=zSP p i 0 ks
  rw[posX]
  simp only[Nd.cnt]
  omega
theorem zSP:∀ (p:List Int) (i s:Nat) (us:List Nd),(posS p i s us).length<=Nd.cnts us
 | p,i,s,[]=>by rw[posS]; simp
 | p,i,s,u::us=>by
  have h1:=zSQ (p++[(i:Int),(s:Int)]) u
  have h2:=zSP p i (s+1) us
  rw[posS]
  simp only[List.length_append,Nd.cnts]
  omega
theorem zSQ:∀ (p:List Int) (u:Nd),(posU p u).length<=u.cnt
 | p,.mk k t c ks=>by
  have h:=zO5 p 0 ks
  rw[posU]
  simp only[Nd.cnt]
  omega
end
theorem zVX (t:Nd):(posT t).length<=t.cnt:=zSQ [] t
theorem zUx:∀ (q:List Int) (l:List Nd),inL l q->q.length<=2 * Nd.deps l+1
 | [],_,h=>h.elim
 | [_],_,_=>by simp
 | i::s::r,l,h=>by
  obtain⟨_,x,h1,_,u,h2,h3⟩:=zEI.1 h;have ih:=zUx r u.kids h3;have d1:=zHI (List.mem_of_getElem? h1)
  have d2:=zHI (List.mem_of_getElem? h2)
  have e1:x.dep=Nd.deps x.kids+1 :=(by cases x; rfl);have e2:u.dep=Nd.deps u.kids+1 :=(by cases u; rfl);simp only[List.length_cons]
  omega
def hd (l:List UInt8) (s:List UInt8):Prop:=∀ b r,l=b::r->b∈s
theorem zNH {F:Nd->Nd->Option Bool}{a b:List Nd} (hF:∀ u∈a,∀ v∈b,∃ y,F u v=some y/\(y=true↔u=v)) (hl:a.length=b.length) (hb:a.length<=1073741824) :
  ∀ (q i:Nat),a.length - i<q->i<=a.length->∃ y,zAW F a b q (i:Int)=some (if y then .go () else .ret false)/\(y=true↔a.drop i=b.drop i)
 | 0,_,h,_=>by omega
 | q+1,i,hq,hi=>by
  unfold zAW
  by_cases h:i<a.length
  ·have h':i<b.length :=(by omega);rw[zAS (Int.ofNat_lt.2 h),cond_true,zA0 h,zA0 h']
   obtain⟨y,f1,f2⟩:=hF _ (List.getElem_mem h) _ (List.getElem_mem h')
   have d1:=List.drop_eq_getElem_cons h;have d2:=List.drop_eq_getElem_cons h';rcases e:a[i] with ⟨x1,x2,x3,x4⟩
   rcases e':b[i] with ⟨y1,y2,y3,y4⟩
   rw[e,e']at f1 f2;rw[e]at d1;rw[e']at d2;simp only[Option.bind_some,f1]
   cases y with
   | false =>
    refine⟨false,rfl,⟨(fun h=>by cases h),fun h=>?_⟩⟩
    rw[d1,d2]at h;exact f2.2 (List.cons.inj h).1
   | true =>
    simp only[Bool.not_true,cond_false]
    rw[zA2 (by omega)]
    obtain⟨z,g1,g2⟩:=zNH hF hl hb q (i+1) (by omega) (by omega)
    refine⟨z,g1,?_⟩
    rw[d1,d2,g2,f2.1 rfl]
    simp
  ·rw[zAR (by omega),cond_false]
   obtain rfl:i=a.length :=(by omega);refine⟨true,rfl,?_⟩
   rw[List.drop_length,hl,List.drop_length]
   simp
theorem zG9:∀ N:Nat,(∀ x y:Nd,2 * x.cnt<N->x.cnt<=67108864->∃ r,zB1 N x y=some r/\(r=true↔x=y)) /\
  (∀ a b:List Nd,2 * Nd.cnts a+1<N->Nd.cnts a<=67108864->∃ r,zBa N a b=some r/\(r=true↔a=b))
 | 0=>⟨fun _ _ h _=>by omega,fun _ _ h _=>by omega⟩
 | n+1=>by
  obtain⟨ih1,ih2⟩:=zG9 n;refine⟨fun x y h hx=>?_,fun a b h ha=>?_⟩
  ·obtain⟨a,b,c,d⟩:=x;obtain⟨a',b',c',d'⟩:=y;simp only[Nd.cnt]at h hx;obtain⟨r,h1,h2⟩:=ih2 d d' (by omega) (by omega)
   unfold zB1;simp only[h1,Option.bind_some]
   cases e1:a == a' with
   | false=>exact⟨false,rfl,⟨(fun h=>by cases h),fun h=>by cases h; simp at e1⟩⟩
   | true =>
    cases e2:b == b' with
    | false=>exact⟨false,rfl,⟨(fun h=>by cases h),fun h=>by cases h; simp at e2⟩⟩
    | true =>
     cases e3:c == c' with
     | false=>exact⟨false,rfl,⟨(fun h=>by cases h),fun h=>by cases h; simp at e3⟩⟩
     | true =>
      refine⟨r,rfl,h2.trans ⟨fun h=>?_,fun h=>by cases h; rfl⟩⟩
      rw[eq_of_beq e1,eq_of_beq e2,eq_of_beq e3,h]
  ·unfold zBa;have l1:=Nd.cnts_len a
   by_cases hl:a.length=b.length
   ·obtain⟨y,g1,g2⟩:=zNH (F:=zB1 n) (a:=a) (b:=b) (fun u hu v _=>ih1 u v (by have:=Nd.cnts_mem hu; omega) (by have:=Nd.cnts_mem hu; omega)) hl (by omega) n 0 (by omega) (by omega)
    rw[show((0:Nat):Int)=0 from rfl]at g1;rw[hl,bne_self_eq_false,cond_false,g1]
    refine⟨y,by cases y <;> rfl,g2⟩
   ·have:((a.length:Int) != (b.length:Int))=true:=by
     unfold bne;rw[zBP (by omega)]; rfl
    rw[this]
    exact⟨false,rfl,⟨(fun h=>by cases h),fun h=>absurd (congrArg List.length h) hl⟩⟩
theorem zKJ {n:Nd}{i s:Int}{p:List Int} (h:¬ (0<=i/\i<n.kids.length)):zBA n (i::s::p)=none:=by rw[zBA,if_neg h]
theorem zKK {n x:Nd}{i:Nat}{s:Int}{p:List Int} (hx:n.kids[i]? = some x) (h:¬ (0<=s/\s<x.kids.length)):zBA n ((i:Int)::s::p)=none:=by
 have hl:=(List.getElem?_eq_some_iff.1 hx).1;rw[zBA,if_pos ⟨by omega,by omega⟩]
 simp only[List.getD_eq_getElem?_getD,Int.toNat_natCast,hx,Option.getD_some]
 rw[if_neg h]
theorem zLZ {n x z:Nd}{i s:Nat}{p:List Int} (hx:n.kids[i]? = some x) (hz:x.kids[s]? = some z):zBA n ((i:Int)::(s:Int)::p)=zBA z p:=by
 have hl:=(List.getElem?_eq_some_iff.1 hx).1;have hl2:=(List.getElem?_eq_some_iff.1 hz).1;rw[zBA,if_pos ⟨by omega,by omega⟩]
 simp only[List.getD_eq_getElem?_getD,Int.toNat_natCast,hx,hz,Option.getD_some]
 rw[if_pos ⟨by omega,by omega⟩]
theorem zRz {α:Type}{l:List α}{i:Int} (h0:0<=i) (h1:i<(l.length:Int)):∃ p:Nat,i=(p:Int)/\∃ h:p<l.length,at? l i=some l[p]:=by
 obtain⟨p,rfl⟩:=Int.eq_ofNat_of_zero_le h0;exact⟨p,rfl,by omega,zA0 (by omega)⟩
theorem zNx:∀ (k:Nat) (t:Nd) (path:List Int),path.length<k ->
  (zBA t path=none/\∃ r,zBY k t.kind t.text t.cols t.kids path=some (.ret (r,false))) ∨
  (zBA t path=none/\∃ (r:Nd) (p:List Int),p ≠ []/\zBY k t.kind t.text t.cols t.kids path=some (.go (p,r.kind,r.text,r.cols,r.kids))) ∨
  ∃ r,zBA t path=some r/\zBY k t.kind t.text t.cols t.kids path=some (.go ([],r.kind,r.text,r.cols,r.kids))
 | 0,_,_,h=>by omega
 | k+1,t,path,h=>by
  unfold zBY
  match path,h with
  | [],h=>exact .inr (.inr ⟨t,rfl,rfl⟩)
  | [x],h=>exact .inr (.inl ⟨rfl,t,[x],by simp,rfl⟩)
  | x::y::p,h =>
   have e0:at? (x::y::p) (0:Int)=some x:=rfl;have e1:at? (x::y::p) (1:Int)=some y:=rfl;have e2:(((x::y::p).take (((x::y::p).length:Int)).toNat).drop (2:Int).toNat)=p:=by
    rw[Int.toNat_natCast,List.take_length]; rfl
   rw[zAS (by simp only[List.length_cons]; omega),cond_true]
   simp only[e0,e1,Option.bind_some,e2]
   by_cases h1:x<0
   ·rw[zAS h1]; exact .inl ⟨zKJ (fun h=>by omega),_,rfl⟩
   ·rw[zAR h1]
    by_cases h2:(t.kids.length:Int)<=x
    ·rw[zAS h2]; exact .inl ⟨zKJ (fun h=>by omega),_,rfl⟩
    ·rw[zAR h2]
     obtain⟨i,rfl,hi,hg⟩:=zRz (l:=t.kids) (i:=x) (by omega) (by omega)
     rw[hg]
     have hgi:t.kids[i]? = some t.kids[i]:=List.getElem?_eq_getElem hi;generalize t.kids[i]=e at hgi;obtain⟨x1,x2,x3,x4⟩:=e;simp only[cond_false,Option.bind_some]
     by_cases h3:y<0
     ·rw[zAS h3]; exact .inl ⟨zKK hgi (fun h=>by omega),_,rfl⟩
     ·rw[zAR h3]
      by_cases h4:(x4.length:Int)<=y
      ·rw[zAS h4]; exact .inl ⟨zKK hgi (fun h=>by have:y<x4.length:=h.2; omega),_,rfl⟩
      ·rw[zAR h4]
       obtain⟨j,rfl,hj,hg2⟩:=zRz (l:=x4) (i:=y) (by omega) (by omega)
       rw[hg2]
       have hgj:x4[j]? = some x4[j]:=List.getElem?_eq_getElem hj;generalize x4[j]=f at hgj;obtain⟨y1,y2,y3,y4⟩:=f;simp only[cond_false,Option.bind_some]
       rw[zBm ⟨by omega,by simp only[List.length_cons]; omega,by omega⟩]
       rw[zLZ hgi hgj]
       exact zNx k (.mk y1 y2 y3 y4) p (by simp only[List.length_cons]at h; omega)
theorem zR2 (n:Nat) (t:Nd) (path:List Int) (h:path.length<n):∃ r ok,zGO n t path=some (r,ok)/\zBA t path=bif ok then some r else none:=by
 obtain⟨a,b,c,d⟩:=t;unfold zGO;dsimp only;rcases zNx n (.mk a b c d) path h with ⟨h0,r,h1⟩ | ⟨h0,r,p,hp,h1⟩ | ⟨r,h0,h1⟩
 ·simp only[Nd.kind,Nd.text,Nd.cols,Nd.kids]at h1;rw[h1]
  exact⟨r,false,rfl,h0⟩
 ·obtain⟨r1,r2,r3,r4⟩:=r;simp only[Nd.kind,Nd.text,Nd.cols,Nd.kids]at h1;rw[h1]
  refine⟨.mk r1 r2 r3 r4,false,?_,h0⟩
  have:((p.length:Int) == 0)=false:=beq_eq_false_iff_ne.2 fun e=>hp (List.eq_nil_of_length_eq_zero (by omega))
  simp only[Option.bind_some,this]
 ·obtain⟨r1,r2,r3,r4⟩:=r;simp only[Nd.kind,Nd.text,Nd.cols,Nd.kids]at h1;rw[h1]
  exact⟨.mk r1 r2 r3 r4,true,rfl,h0⟩
def rowS (t:Nd) (p:List Int):Nd×Int:=if zAM t=true then (match zBA t p with | some r=>(r,0) | none=>(zCv,8)) else (zCv,1)
theorem zHJ:∀ (N:Nat) (p:List Int) (t r:Nd),p.length<N->zBA t p=some r->r.w<=t.w/\r.cnt<=t.cnt
 | 0,p,_,_,h,_=>by omega
 | N+1,[],t,r,_,h=>by
  rw[zBA]at h;cases h;exact⟨Nat.le_refl _,Nat.le_refl _⟩
 | N+1,[_],t,r,_,h=>by
  rw[zBA]at h;cases h
 | N+1,i::s::p,.mk k tx c ks,r,hN,h=>by
  rw[zBA]at h;split at h
  ·rename_i hi
   replace hi:0<=i/\i<ks.length:=hi;have hi0:i.toNat<ks.length :=(by omega);have hx:ks[i.toNat]? = some ks[i.toNat]:=List.getElem?_eq_getElem hi0;generalize ks[i.toNat]=x at hx;obtain⟨k2,tx2,c2,ks2⟩:=x;simp only[Nd.kids,List.getD_eq_getElem?_getD,hx,Option.getD_some]at h;split at h
   ·rename_i hs
    have hs0:s.toNat<ks2.length :=(by omega);have hz:ks2[s.toNat]? = some ks2[s.toNat]:=List.getElem?_eq_getElem hs0;generalize ks2[s.toNat]=z at hz;rw[hz,Option.getD_some]at h;obtain⟨q1,q2⟩:=zHJ N p z r (by simp only[List.length_cons]at hN; omega) h;have m1:=Nd.w_mem (List.mem_of_getElem? hx)
    have m2:=Nd.w_mem (List.mem_of_getElem? hz)
    have n1:=Nd.cnts_mem (List.mem_of_getElem? hx)
    have n2:=Nd.cnts_mem (List.mem_of_getElem? hz)
    simp only[Nd.w,Nd.cnt]at m1 m2 n1 n2 ⊢
    omega
   ·cases h
  ·cases h
theorem zIh (n:Nat) (t:Nd) (p:List Int) (hp:p.length<n) (hv:zAZ n t=some (zAM t)):zFa n t p=some (rowS t p):=by
 obtain⟨r,ok,h1,h2⟩:=zR2 n t p hp;obtain⟨k,tx,c,ks⟩:=t;unfold zFa rowS;dsimp only;rw[hv]
 simp only[Option.bind_some]
 cases hb:zAM (.mk k tx c ks) with
 | false=>rfl
 | true =>
  rw[h1,h2]
  obtain⟨r1,r2,r3,r4⟩:=r;cases ok <;> rfl
theorem zGt {t:Nd} (h:t.cnt<=1000000000):zA7 t=some t:=zBm h
theorem zRK (n:Nat) (t:Nd) (p:List Int) (hv:zBf n t=some (zAM t)) (hc:t.cnt<=1000000000):zGN n t p=some (rowS t p):=by
 unfold zGN rowS;rw[hv]
 simp only[Option.bind_some]
 split
 ·cases hf:zBA t p with
  | none=>rfl
  | some r =>
   have:=(zHJ _ p t r (Nat.lt_succ_self _) hf).2;simp only[zGt (Nat.le_trans this hc),Option.bind_some]
 ·rfl
def zRE (t:Nd) (p:List Int) (i:Int):Nd×Int:=if zAM t=true then (match zBA t p with | some r=>if 0<=i/\i<r.kids.length then (r.kids.getD i.toNat r,0) else (zCv,2) | none=>(zCv,8)) else (zCv,1)
theorem zMo (n:Nat) (t:Nd) (p:List Int) (i:Int) (hp:p.length<n) (hv:zAZ n t=some (zAM t)):zFD n t p i=some (zRE t p i):=by
 have hr:=zIh n t p hp hv;obtain⟨k,tx,c,ks⟩:=t;unfold zFD;dsimp only;rw[hr]
 unfold rowS zRE;split
 ·cases hf:zBA (.mk k tx c ks) p with
  | none=>rfl
  | some r =>
   obtain⟨k2,tx2,c2,ks2⟩:=r;simp only[Option.bind_some,show((0:Int) != 0)=false from rfl,cond_false]
   by_cases h1:i<0
   ·rw[zAS h1,if_neg (fun h=>by omega)]; rfl
   ·rw[zAR h1]
    by_cases h2:(ks2.length:Int)<=i
    ·rw[zAS h2,if_neg (fun h=>by have:i<(ks2.length:Int):=h.2; omega)]; rfl
    ·rw[zAR h2,if_pos ⟨by omega,show i<(ks2.length:Int) by omega⟩]
     obtain⟨j,rfl,hj,hg⟩:=zRz (l:=ks2) (i:=i) (by omega) (by omega)
     have hgg:(Nd.mk k2 tx2 c2 ks2).kids.getD ((j:Int)).toNat (Nd.mk k2 tx2 c2 ks2)=ks2[j]:=by
      show ks2.getD ((j:Int)).toNat _=_;rw[List.getD_eq_getElem?_getD,Int.toNat_natCast,List.getElem?_eq_getElem hj,Option.getD_some]
     rw[hgg]
     simp only[cond_false,Option.bind_some]
     rw[hg]
     generalize ks2[j]=z;cases z; rfl
 ·rfl
theorem zLO {α:Type}{l:List α}{i:Nat}{x:α} (h:l[i]? = some x):at? l (i:Int)=some x:=by
 have hl:=(List.getElem?_eq_some_iff.1 h).1;rw[zA0 hl,← List.getElem?_eq_getElem hl,h]
theorem zEA {k:Int}{tx:List UInt8}{c:Int}{ks:List Nd}{i:Nat}{x y:Nd} (hi:ks[i]? = some y) (hl:ks.length<=4294967296):zBs (.mk k tx c ks) (i:Int) x=some (.mk k tx c (ks.set i x)):=by
 obtain⟨x1,x2,x3,x4⟩:=x;obtain⟨y1,y2,y3,y4⟩:=y;unfold zBs;dsimp only;rw[zBm (by simpa using hl),zLO hi]
 simp only[Option.bind_some,Int.toNat_natCast]
def zSi (t:Nd) (p:List Int) (r:Nd):Nd×Int:=if zAM t=true then (match zBA t p with
 | some _=>if zAM r=true then (if zAM (putL t p r)=true then (putL t p r,0) else (zCv,6)) else (zCv,4)
 | none=>(zCv,8)) else (zCv,1)
theorem zQw (n:Nat) (t:Nd) (p:List Int) (r:Nd) (hv:zBf n t=some (zAM t)) (hr:zBf n r=some (zAM r)) (hp:∀ z,Fd t p z->zBf n (putL t p r)=some (zAM (putL t p r))) (hc:t.cnt<=1000000000) (hcr:r.cnt<=1000000000) :
  zEL n t p r=some (zSi t p r):=by
 unfold zEL zSi;rw[hv,zGt hc,hr,zGt hcr]
 simp only[Option.bind_some]
 split
 ·cases hf:zBA t p with
  | none=>rfl
  | some z =>
   dsimp only;rw[hp z (zVE hf)]
   simp only[Option.bind_some]
   split
   ·split <;> rfl
   ·rfl
 ·rfl
theorem zWp {t z r:Nd}{p:List Int} (hv:zAM t=true) (h:zBA t p=some z) (hr:zAM r=true) (hp:zAM (putL t p r)=true):zSi t p r=(putL t p r,0):=by unfold zSi; rw[if_pos hv,h]; dsimp only; rw[if_pos hr,if_pos hp]
abbrev Op8:=Int×List Int×Int×Int×List Nd×Int×List UInt8×List UInt8
def Op8.nodes (o:Op8):List Nd:=o.2.2.2.2.1
theorem take3 {α:Type} (l:List α){p q:Nat} (h:p<=q):(l.take p++(l.take q).drop p)++l.drop q=l:=by
 have:l.take p=(l.take q).take p :=(by rw[List.take_take,Nat.min_eq_left h]);rw[this,List.take_append_drop,List.take_append_drop]
theorem zQ8 (l by':List Nd){p q:Nat} (h:p<=q):Nd.ws ((l.take p++by')++l.drop q)+Nd.ws ((l.take q).drop p)=Nd.ws l+Nd.ws by':=by
 have:=congrArg Nd.ws (take3 l h)
 rw[Nd.ws_append,Nd.ws_append]at this ⊢
 omega
theorem zVb (l by':List Nd) (p q:Nat) (hp:p<=l.length) (hq:q<=l.length) (hl:l.length<=1073741824) (hb:by'.length<=1073741824) :
  zB3 l (p:Int) (q:Int) by'=some ((l.take p++by')++l.drop q):=by
 unfold zB3;dsimp only;have e1:(l.take (p:Int).toNat).drop (0:Int).toNat=l.take p :=(by simp);have e2:(l.take (l.length:Int).toNat).drop (q:Int).toNat=l.drop q :=(by simp);rw[e1,e2,zBm ⟨by omega,by omega,by omega⟩,zBm (by simp; omega),zBm (by simp; omega),zBm ⟨by omega,by omega,by omega⟩,zBm (by simp; omega)]
theorem zRu (t:Nd) (i:Nat) (v:Nd) (h:i<t.kids.length) (hl:t.kids.length<=1073741824):zBs t (i:Int) v=some (.mk t.kind t.text t.cols (t.kids.set i v)):=by
 obtain⟨a,b,c,d⟩:=t;obtain⟨a',b',c',d'⟩:=v;simp only[Nd.kids]at h hl;unfold zBs;simp only;rw[zBm (by simp; omega),zA0 h]
 rcases e:d[i] with ⟨x1,x2,x3,x4⟩
 simp only[Option.bind_some,Int.toNat_natCast,Nd.kind,Nd.text,Nd.cols,Nd.kids]
theorem zQh (t:Nd) (i:Nat) (l:List Nd) (h:i<t.kids.length) (hl:t.kids.length<=1073741824) (hl2:l.length<=1073741824):zDt t (i:Int) l=some (.mk t.kind t.text t.cols (t.kids.set i (.mk 1 [] 0 l))):=by
 have:=zRu t i (.mk 1 [] 0 l) h hl;obtain⟨a,b,c,d⟩:=t;unfold zDt;simp only[zBd,Option.bind_some]
 rw[zBm (by simp; omega),this]
 rfl
theorem zWt {α:Type}{l:List α}{i:Int} (h0:0<=i) (h1:i<(l.length:Int)):∃ p:Nat,i=(p:Int)/\∃ h:p<l.length,at? l i=some l[p]:=by
 obtain⟨p,rfl⟩:=Int.eq_ofNat_of_zero_le h0;exact⟨p,rfl,by omega,zA0 (by omega)⟩
theorem zGn (t:Nd):t.w=t.text.length+Nd.ws t.kids+1:=by cases t; rfl
end Go.Proofs.YtffhjiplcfncdaaGreat
